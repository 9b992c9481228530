import Derived.Test.YtejdmefiobgcdaaOutu
import Derived.Test.YtejdmefiobgcdaaTel
import Derived.Test.YtejdmefiobgcdaaMpl
namespace Go.Proofs.Ytejdmefiobgcdaa
open Go.RowKit Go.Proofs

structure Ac where
  kind : Int
  what : Int
  order : Int
  key : Int
  by_ : Int
def Ac.c (a : Ac) : List Value := [.int .i64 a.kind, .int .i64 a.what, .int .i64 a.order, .int .i64 a.key, .int .i64 a.by_]
theorem Ac.len (a : Ac) : a.c.length = 5 := rfl
def kd (l : List O) (n : Nat) (w : World) (b : Nat) : Prop := BMap Try.prog 3 4 w b n (keysB l) l.length
theorem zero4 (w : World) : (zeroValue 4).run Try.prog w = .ok (.bool false) w := by kernel_rfl
theorem zero3 (w : World) : (zeroValue 3).run Try.prog w = .ok (.int .i64 0) w := by kernel_rfl
/-- What holds between two acts. -/
def TI (w : World) (i : Nat) (l : List O) (A : Option Addr) (c : Nat) (last now : Int) (t : Int → Int) (wr : World) : Prop :=
  Holds wr [(⟨w.heap.size, 0, none⟩, .int .i64 last), (⟨w.heap.size, 1, none⟩, .slice A l.length c)] ∧ RowsB (w.heap.size + 3) wr A l c ∧ (∃ n, n ≤ i ∧ BMap Try.prog 3 4 wr (w.heap.size + 1) n (keysB l) l.length) ∧
    (∃ n, n ≤ 40 * i ∧ TMap Try.prog 3 3 wr (w.heap.size + 2) n t) ∧ Below w.heap.size w wr ∧ w.heap.size + 3 ≤ wr.heap.size ∧ St l last now t i
theorem TI.start (w : World) : TI w 0 [] none 0 0 0 (fun _ => 0) (((w.alloc (.cells #[.int .i64 0, .slice none 0 0] 53)).alloc (.map #[] 0)).alloc (.map #[] 0)) := by
  refine ⟨.cons (by simp [go_sem]) (by simp [go_sem]) (.cons (by simp [go_sem]) (by simp [go_sem]) (.nil _)), RowsB.nil _ _, ⟨0, by omega, ?_⟩, ⟨0, by omega, ?_⟩, (((Below.refl _ _).alloc (Nat.le_refl _) _).alloc (by simp) _).alloc (by simp; omega) _, by simp, St.start⟩
  · have := (BMap.new (P := Try.prog) (k := 3) (e := 4) (w.alloc (.cells #[.int .i64 0, .slice none 0 0] 53))).alloc (.map #[] 0)
    rw [World.size_alloc] at this
    exact this.congr (fun x => by simp [keysB])
  · have := TMap.new (P := Try.prog) (k := 3) (e := 3) ((w.alloc (.cells #[.int .i64 0, .slice none 0 0] 53)).alloc (.map #[] 0))
    rw [World.size_alloc, World.size_alloc] at this
    exact this
/-- What holds in the loop over what is told. -/
def T1 (w : World) (z : Nat) (j : Nat) (l : List O) (A2 : Option Addr) (c2 : Nat) (B2 : Option Addr) (d2 n1 n2 : Nat) (last nw : Int) (t : Int → Int) (TL TO : List O) (wi : World) : Prop :=
  (∃ A c, Holds wi [(⟨z, 0, none⟩, .int .i64 last), (⟨z, 1, none⟩, .slice A2 TL.length c2), (⟨w.heap.size, 0, none⟩, .int .i64 last), (⟨w.heap.size, 1, none⟩, .slice A l.length c)]) ∧ RowsB (w.heap.size + 3) wi A2 TL c2 ∧ RowsB (w.heap.size + 3) wi B2 TO d2 ∧
    BMap Try.prog 3 4 wi (w.heap.size + 1) n1 (keysB l) l.length ∧ TMap Try.prog 3 3 wi (w.heap.size + 2) (n2 + j) (fun y => if keysB (TO.take j) y = true then nw else t y) ∧ BMap Try.prog 3 4 wi (z + 1) j (keysB (TO.take j)) j ∧
    Below w.heap.size w wi ∧ z + 2 ≤ wi.heap.size
theorem RowsB.mapped {B : Nat} {w w' : World} {A : Option Addr} {l : List O} {c b : Nat} (h : RowsB B w A l c) (ht : w.mapTurned w' b) : RowsB B w' A l c := by
  refine ⟨?_, h.2⟩
  have hg := ht.grown
  obtain ⟨es, cl, es', cl', h1, _⟩ := ht
  exact own_reads (β := Unit) (fun _ => (fun k => B ≤ k)) 4 (fun _ => A) (fun _ => l.length) (fun _ => l.flatMap O.c) () w w' (some b) h.1 hg (fun r e => by cases e; exact ⟨_, h1, rfl⟩)
theorem T1.next {w wi M W : World} {z j : Nat} {l : List O} {A2 : Option Addr} {c2 : Nat} {B2 : Option Addr} {d2 n1 n2 : Nat} {last nw : Int} {t : Int → Int} {TL TO : List O} {o : O} {b1 b2 n3 n4 c3 : Nat} {ob : Obj} {f : Int → Bool} {g : Int → Int}
    (h : T1 w z j l A2 c2 B2 d2 n1 n2 last nw t TL TO wi) (hz : w.heap.size + 3 ≤ z) (ho : TO[j]? = some o) (hko : keysB (TO.take j) o.key = false)
    (t1 : (wi.alloc ob).drew.mapTurned M b1) (t2 : M.mapTurned W b2) (hb : (b1 = z + 1 ∧ b2 = w.heap.size + 2) ∨ (b1 = w.heap.size + 2 ∧ b2 = z + 1))
    (hs : BMap Try.prog 3 4 W (z + 1) n3 f c3) (hn3 : n3 = j + 1) (hf : ∀ y, f y = (decide (y = o.key) || keysB (TO.take j) y)) (hc3 : c3 = if keysB (TO.take j) o.key = true then j else j + 1)
    (ht : TMap Try.prog 3 3 W (w.heap.size + 2) n4 g) (hn4 : n4 = n2 + j + 1) (hg : ∀ y, g y = if y = o.key then nw else if keysB (TO.take j) y = true then nw else t y) :
    T1 w z (j + 1) l A2 c2 B2 d2 n1 n2 last nw t TL TO W := by
  obtain ⟨⟨A, c, gH⟩, gR, gT, gM1, gM2, gS, gB, gsz⟩ := h
  have hsn : TO.take (j + 1) = TO.take j ++ [o] := take_snoc' ho
  have hk : ∀ y, keysB (TO.take (j + 1)) y = (decide (y = o.key) || keysB (TO.take j) y) := fun y => by rw [hsn, keysB_snoc]
  rw [hko] at hc3
  subst hn3 hn4
  have hc3' : c3 = j + 1 := by simpa using hc3
  subst hc3'
  have hbs : w.heap.size ≤ b1 ∧ w.heap.size ≤ b2 ∧ b1 ≠ w.heap.size + 1 ∧ b2 ≠ w.heap.size + 1 := by omega
  have hB1 : Below w.heap.size w (wi.alloc ob).drew := (gB.alloc gB.size ob).drew
  have hB2 := hB1.grown t1.grown hB1.size (fun k e => by cases e; omega)
  have hB3 := hB2.grown t2.grown hB2.size (fun k e => by cases e; omega)
  have s1 := t1.grown.size
  have s2 := t2.grown.size
  refine ⟨⟨A, c, holds_turned (holds_turned (gH.alloc ob).drew t1) t2⟩, ((RowsB.mapped (w := (wi.alloc ob).drew) (gR.alloc ob) t1).mapped t2), ((RowsB.mapped (w := (wi.alloc ob).drew) (gT.alloc ob) t1).mapped t2),
    ((gM1.alloc ob).drew.kept t1.grown (by simp; omega)).kept t2.grown (by simp; omega), ?_, hs.congr (fun y => by rw [hf, hk]), hB3, by simp at s1; omega⟩
  refine ht.congr (fun y => ?_)
  rw [hg, hk]
  by_cases e : y = o.key <;> simp [e]
/-- What holds in the loop over the open keys. -/
def T2 (w : World) (z : Nat) (l : List O) (A2 : Option Addr) (c2 n1 n2 : Nat) (last nw : Int) (t : Int → Int) (TL TO : List O) (wi : World) : Prop :=
  (∃ A c, Holds wi [(⟨z, 0, none⟩, .int .i64 last), (⟨z, 1, none⟩, .slice A2 TL.length c2), (⟨w.heap.size, 0, none⟩, .int .i64 last), (⟨w.heap.size, 1, none⟩, .slice A l.length c)]) ∧ RowsB (w.heap.size + 3) wi A2 TL c2 ∧
    BMap Try.prog 3 4 wi (w.heap.size + 1) n1 (keysB l) l.length ∧ TMap Try.prog 3 3 wi (w.heap.size + 2) (n2 + TO.length) (fun y => if keysB TO y = true then nw else t y) ∧ BMap Try.prog 3 4 wi (z + 1) TO.length (keysB TO) TO.length ∧
    Below w.heap.size w wi ∧ z + 2 ≤ wi.heap.size
theorem T2.of {w wi : World} {z : Nat} {l : List O} {A2 : Option Addr} {c2 : Nat} {B2 : Option Addr} {d2 n1 n2 : Nat} {last nw : Int} {t : Int → Int} {TL TO : List O} (h : T1 w z TO.length l A2 c2 B2 d2 n1 n2 last nw t TL TO wi) : T2 w z l A2 c2 n1 n2 last nw t TL TO wi := by
  obtain ⟨gH, gR, gT, gM1, gM2, gS, gB, gsz⟩ := h
  exact ⟨gH, gR, gM1, gM2.congr (fun y => by rw [List.take_length]), gS.congr (fun y => by rw [List.take_length]), gB, gsz⟩
theorem T2.kept {w wi W : World} {z : Nat} {l : List O} {A2 : Option Addr} {c2 n1 n2 : Nat} {last nw : Int} {t : Int → Int} {TL TO : List O} {row : Option Nat} (h : T2 w z l A2 c2 n1 n2 last nw t TL TO wi) (hz : w.heap.size + 3 ≤ z) (hg : wi.grownBy W row)
    (hrow : ∀ r, row = some r → z + 2 ≤ r ∧ ∃ o : Obj, wi.heap[r]? = some o ∧ o.isCells = false) : T2 w z l A2 c2 n1 n2 last nw t TL TO W := by
  obtain ⟨⟨A, c, gH⟩, gR, gM1, gM2, gS, gB, gsz⟩ := h
  have hr : ∀ r, row = some r → ∃ o : Obj, wi.heap[r]? = some o ∧ o.isCells = false := fun r e => (hrow r e).2
  have hne : ∀ b, b < z + 2 → some b ≠ row := fun b hb e => by have := (hrow b e.symm).1; omega
  have hB := gB.size
  refine ⟨⟨A, c, (Holds.own (β := Unit) (fun _ => _)) () wi W row gH hg hr⟩, ⟨own_reads (β := Unit) (fun _ => (fun k => w.heap.size + 3 ≤ k)) 4 (fun _ => A2) (fun _ => TL.length) (fun _ => TL.flatMap O.c) () wi W row gR.1 hg hr, gR.2⟩,
    gM1.kept hg (hne _ (by omega)), gM2.kept hg (hne _ (by omega)), gS.kept hg (hne _ (by omega)), gB.grown hg hB (fun k e => by have := (hrow k e).1; omega), by have := hg.size; omega⟩
theorem norm_nat (y : Int) (n : Nat) (hn : 0 < n) (h64 : n ≤ 64) : ∃ i : Nat, i < n ∧ (wrap64 (y.tmod n + n)).tmod n = i := by
  have h1 : y.tmod (n : Int) < n := Int.tmod_lt_of_pos y (by omega)
  have h2 : -(n : Int) < y.tmod (n : Int) := by
    have := Int.tmod_lt_of_pos (-y) (b := (n : Int)) (by omega)
    rw [Int.neg_tmod] at this
    omega
  have hw : wrap64 (y.tmod n + n) = y.tmod n + n := by unfold wrap64; omega
  rw [hw]
  have h3 : 0 ≤ (y.tmod n + n).tmod n := Int.tmod_nonneg _ (by omega)
  have h4 : (y.tmod n + n).tmod (n : Int) < n := Int.tmod_lt_of_pos _ (by omega)
  exact ⟨((y.tmod n + n).tmod n).toNat, by omega, by omega⟩

set_option maxRecDepth 100000 in
set_option maxHeartbeats 20000000 in
theorem tells_any (A0 : Option Addr) (acts : List Ac) (c0 : Nat) (w : World) (hr0 : Reads w (fun _ => True) 5 A0 acts.length (acts.flatMap Ac.c)) (hll : acts.length < 4611686018427387904) (hwf : ∀ a ∈ acts, (Lit.int .i64 a.key).wf = true) :
    Calls Try.prog 5 #[.slice A0 acts.length c0] w fun e w' => e = .returned (.bool true) ∧ Below w.heap.size w w' := by
  have hmm := @run_makeMap Try.prog
  go_enter Try.func5, Try.ntmps5
  go_wp2_with fail
  go_loopw [4, 5, 27] (fun v4 v5 v27 wr => ∃ (i : Nat) (l : List O) (A : Option Addr) (c : Nat) (last now : Int) (t : Int → Int), v4 = .int .i64 now ∧ v5 = .int .i64 last ∧ v27 = .int .i64 i ∧ i ≤ acts.length ∧ i ≤ 30 ∧ Hid (TI w i l A c last now t wr)) (fun _ _ v27 _ => acts.length - (intOf v27).toNat)
  case atStart => exact ⟨0, [], none, 0, 0, 0, fun _ => 0, rfl, rfl, rfl, by omega, by omega, Lib.hid (TI.start w)⟩
  case round =>
    obtain ⟨i, l, A, c, last, now, t, rfl, rfl, rfl, hi, hi30, hT⟩ := hrel
    obtain ⟨hH, hR, ⟨n1, hn1, hM1⟩, ⟨n2, hn2, hM2⟩, hB, hsz, hSt⟩ := hT.out
    have hs1 := hB.size
    by_cases hlt : i < acts.length
    · obtain ⟨a, ha⟩ : ∃ a, acts[i]? = some a := ⟨_, List.getElem?_eq_getElem hlt⟩
      obtain ⟨b, of, rfl, hbl, _, hc⟩ := (hr0.below hB).elem Ac.len (by omega) i a ha
      have hc0 := hc 0 _ rfl
      have hc1 := hc 1 _ rfl
      have hc2 := hc 2 _ rfl
      have hc3 := hc 3 _ rfl
      have hc4 := hc 4 _ rfl
      clear hc
      simp only [Nat.add_zero] at hc0
      have hkw := Lib.hid (hwf a (List.mem_of_getElem? ha))
      by_cases h30 : i = 30
      · subst h30
        replace hH := Lib.hid hH
        replace hR := Lib.hid hR
        replace hM1 := Lib.hid hM1
        replace hM2 := Lib.hid hM2
        replace hSt := Lib.hid hSt
        clear hT
        go_wp2_with fail
        refine (lAlive _).mono ?_
        rintro e w9 ⟨rfl, hb9⟩
        have hfin := below_then (hB.alloc hs1 (.cells #[.int .i64 a.kind, .int .i64 a.what, .int .i64 a.order, .int .i64 a.key, .int .i64 a.by_] 56)) (by simp; omega) hb9
        clear hb9
        go_wp2_with fail
        go_ret
        exact ⟨rfl, hfin⟩
      · have h30' : i < 30 := by omega
        obtain ⟨d, hd, hdq⟩ : ∃ d : Nat, d < 20 ∧ (wrap64 (a.by_.tmod 20 + 20)).tmod 20 = d := norm_nat a.by_ 20 (by omega) (by omega)
        obtain ⟨k, hk, hkq⟩ : ∃ d : Nat, d < 3 ∧ (wrap64 (a.kind.tmod 3 + 3)).tmod 3 = d := norm_nat a.kind 3 (by omega) (by omega)
        obtain ⟨wh, hwh, hwhq⟩ : ∃ d : Nat, d < 3 ∧ (wrap64 (a.what.tmod 3 + 3)).tmod 3 = d := norm_nat a.what 3 (by omega) (by omega)
        obtain ⟨od, hod, hodq⟩ : ∃ d : Nat, d < 5 ∧ (wrap64 (a.order.tmod 5 + 5)).tmod 5 = d := norm_nat a.order 5 (by omega) (by omega)
        have hnow := hSt.now
        replace ha := Lib.hid ha
        replace hH := Lib.hid hH
        replace hR := Lib.hid hR
        replace hM1 := Lib.hid hM1
        replace hM2 := Lib.hid hM2
        replace hSt := Lib.hid hSt
        clear hT
        go_upto_region 9 with fail
        have hX : Holds (wr.alloc (.cells #[.int .i64 a.kind, .int .i64 a.what, .int .i64 a.order, .int .i64 a.key, .int .i64 a.by_] 56)) [(⟨wr.heap.size, 0, none⟩, .int .i64 a.kind), (⟨wr.heap.size, 1, none⟩, .int .i64 a.what), (⟨wr.heap.size, 2, none⟩, .int .i64 a.order), (⟨wr.heap.size, 3, none⟩, .int .i64 a.key)] :=
          .cons' (Holds.new wr #[.int .i64 a.kind, .int .i64 a.what, .int .i64 a.order, .int .i64 a.key, .int .i64 a.by_] 56 rfl 0 rfl) (.cons' (Holds.new wr #[.int .i64 a.kind, .int .i64 a.what, .int .i64 a.order, .int .i64 a.key, .int .i64 a.by_] 56 rfl 1 rfl) (.cons' (Holds.new wr #[.int .i64 a.kind, .int .i64 a.what, .int .i64 a.order, .int .i64 a.key, .int .i64 a.by_] 56 rfl 2 rfl) (.cons' (Holds.new wr #[.int .i64 a.kind, .int .i64 a.what, .int .i64 a.order, .int .i64 a.key, .int .i64 a.by_] 56 rfl 3 rfl) (.nil _))))
        replace hH := Lib.hid (hH.out.alloc (.cells #[.int .i64 a.kind, .int .i64 a.what, .int .i64 a.order, .int .i64 a.key, .int .i64 a.by_] 56))
        replace hR := Lib.hid (hR.out.alloc (.cells #[.int .i64 a.kind, .int .i64 a.what, .int .i64 a.order, .int .i64 a.key, .int .i64 a.by_] 56))
        replace hM1 := Lib.hid (hM1.out.alloc (.cells #[.int .i64 a.kind, .int .i64 a.what, .int .i64 a.order, .int .i64 a.key, .int .i64 a.by_] 56))
        replace hM2 := Lib.hid (hM2.out.alloc (.cells #[.int .i64 a.kind, .int .i64 a.what, .int .i64 a.order, .int .i64 a.key, .int .i64 a.by_] 56))
        replace hB := hB.alloc hs1 (.cells #[.int .i64 a.kind, .int .i64 a.what, .int .i64 a.order, .int .i64 a.key, .int .i64 a.by_] 56)
        have hsX : wr.heap.size < (wr.alloc (.cells #[.int .i64 a.kind, .int .i64 a.what, .int .i64 a.order, .int .i64 a.key, .int .i64 a.by_] 56)).heap.size := by simp
        generalize hXd : World.alloc wr _ = X at hX hH hR hM1 hM2 hB hsX ⊢
        clear hXd
        have hl0 := hSt.out.len
        have hls0 := hSt.out.lst
        replace hSt := Lib.hid (hSt.out.later (now' := now + d) (by omega) (by omega))
        obtain ⟨x0, _⟩ := hX.get 0 rfl
        obtain ⟨x1, _⟩ := hX.get 1 rfl
        obtain ⟨x2, _⟩ := hX.get 2 rfl
        obtain ⟨x3, _⟩ := hX.get 3 rfl
        obtain ⟨b0, bf0⟩ := hH.out.get 0 rfl
        obtain ⟨b1, bf1⟩ := hH.out.get 1 rfl
        have hsb := lt_of_cell b0
        dsimp only at hsb
        clear hc0 hc1 hc2 hc3 hc4 hX hs1
        have hk3 : k = 0 ∨ k = 1 ∨ k = 2 := by omega
        rcases hk3 with rfl | rfl | rfl
        · have hkq' : (wrap64 (a.kind.tmod 3 + 3)).tmod 3 = 0 := hkq
          clear hkq
          have hkn : knd (1 + wh) = true := by simp [knd]; omega
          have hon : num (1 + od) = true := by simp [num]; omega
          have hlst := hSt.out.lst
          have hP := uPut A l c last (1 + wh) (1 + od) (now + d) X (w.heap.size + 3) (by omega) hR.out (by have := hSt.out.box.2.2.1; omega)
          rcases putS_law hSt.out hkn hon (by omega) (by omega) (by omega) with hPe | ⟨hPe, hix⟩
          · rw [hPe] at hP
            dsimp only [List.length_nil] at hP
            clear hPe
            replace hP := Lib.hid hP
            go_wp2_with fail
            refine hP.out.mono ?_
            rintro e X2 ⟨A2, c2, rfl, _, hb2⟩
            have hbn := below_then hb2 hb2.size ((Below.refl X2.heap.size X2).alloc (Nat.le_refl _) (.cells #[.int .i64 0, .slice A2 0 c2] 53))
            have hTI : TI w (i + 1) l A c last (now + d) t (X2.alloc (.cells #[.int .i64 0, .slice A2 0 c2] 53)) := ⟨hH.out.below hbn, hR.out.below hbn, ⟨n1, by omega, hM1.out.below hbn⟩, ⟨n2, by omega, hM2.out.below hbn⟩, below_then hB hB.size hbn, by have := hbn.size; omega, hSt.out⟩
            replace hTI := Lib.hid hTI
            clear hP hb2 hbn hH hR hM1 hM2 hSt
            go_wp2_with fail
            go_roundw
            case rel => exact ⟨i + 1, l, A, c, last, now + d, t, rfl, rfl, by go_num, by omega, by omega, hTI⟩
            case measure => simp [intOf]; omega
          · rw [hPe] at hP
            dsimp only at hP
            clear hPe
            replace hP := Lib.hid hP
            have hkx : decide (last + 1 ≤ last) = false := by simp; omega
            go_wp2_with fail
            refine hP.out.mono ?_
            rintro e X2 ⟨A2, c2, rfl, hr2, hb2⟩
            generalize hLg : l ++ [(newO last (1 + wh) (1 + od) (now + d))] = LN at hr2 ⊢
            have hLl : LN.length = l.length + 1 := by rw [← hLg]; simp
            have hSt2 := hSt.out.put hkn hon (by have := hSt.out.now; simp [tim, num]; omega) hix (by omega) (by omega) (by omega)
            rw [hLg] at hSt2
            have hkeys : ∀ x, (decide (x = last + 1) || keysB l x) = keysB LN x := fun x => by rw [← hLg, keysB_snoc]; rfl
            have hnk : keysB l (last + 1) = false := by
              rw [Bool.eq_false_iff]
              intro h
              obtain ⟨o, ho, he⟩ := keysB_true.1 h
              have := hSt.out.box.2.2.2.2 o ho
              omega
            have y0 := cell_below hb2 b0
            have y1 := cell_below hb2 b1
            have yf0 := frozen_at hb2 b0 bf0
            have yf1 := frozen_at hb2 b1 bf1
            have hs2 := hb2.size
            have hsb2 : w.heap.size < X2.heap.size := by omega
            have yH1 := (box_set y0 y1 yf0 yf1 (.int .i64 (last + 1)) (.slice A2 LN.length c2)).alloc (.cells #[.int .i64 (last + 1), .slice A2 LN.length c2] 53)
            have yR1 := ((hr2.set (q := ⟨w.heap.size, 0, none⟩) (by dsimp only; omega) (.int .i64 (last + 1))).set (q := ⟨w.heap.size, 1, none⟩) (by dsimp only; omega) (.slice A2 LN.length c2)).alloc (.cells #[.int .i64 (last + 1), .slice A2 LN.length c2] 53)
            have yM11 := ((hM1.out.below hb2).box y0 y1 (.int .i64 (last + 1)) (.slice A2 LN.length c2)).alloc (.cells #[.int .i64 (last + 1), .slice A2 LN.length c2] 53)
            have yM21 := ((hM2.out.below hb2).box y0 y1 (.int .i64 (last + 1)) (.slice A2 LN.length c2)).alloc (.cells #[.int .i64 (last + 1), .slice A2 LN.length c2] 53)
            have yB1 := (((below_then hB hB.size hb2).setCell (p := ⟨w.heap.size, 0, none⟩) (Nat.le_refl _) (.int .i64 (last + 1))).setCell (p := ⟨w.heap.size, 1, none⟩) (Nat.le_refl _) (.slice A2 LN.length c2)).alloc (by simp; omega) (.cells #[.int .i64 (last + 1), .slice A2 LN.length c2] 53)
            have ysz1 : w.heap.size + 3 ≤ (((X2.setCell ⟨w.heap.size, 0, none⟩ (.int .i64 (last + 1))).setCell ⟨w.heap.size, 1, none⟩ (.slice A2 LN.length c2)).alloc (.cells #[.int .i64 (last + 1), .slice A2 LN.length c2] 53)).heap.size := by simp; omega
            have ySt := Lib.hid hSt2
            have hw1 : (Lit.int .i64 (last + 1)).wf = true := WalkArith.wf_i64 (by omega)
            have hw2 : (Lit.int .i64 (now + d - 10)).wf = true := WalkArith.wf_i64 (by omega)
            have yn1 : n1 + 1 ≤ i + 1 := by omega
            have yn2 : n2 + 1 ≤ 40 * (i + 1) := by omega
            replace yH1 := Lib.hid yH1
            replace yR1 := Lib.hid yR1
            replace yM11 := Lib.hid yM11
            replace yM21 := Lib.hid yM21
            replace hkeys := Lib.hid hkeys
            replace hnk := Lib.hid hnk
            replace hLl := Lib.hid hLl
            replace hw1 := Lib.hid hw1
            replace hw2 := Lib.hid hw2
            clear hP hb2 hr2 hSt hSt2 hLg
            go_upto_region 44 with (first
                  | (at_mapUpdate
                     refine wpList_bput _ rfl (.tmp 137) (.tmp 138) (.const (.bool true)) 54 rfl 3 4 Try.underlying3 Try.underlying54 Try.underlying4 (w.heap.size + 1) n1 _ _ rfl yM11.out (by unfold maxLen; omega) (last + 1) rfl rfl hw1.out ?_
                     intro Y1 hMY htu
                     have yM22 := Lib.hid (yM21.out.kept htu.grown (by simp))
                     have yH2 := Lib.hid (holds_turned yH1.out htu)
                     have yR2 := Lib.hid (yR1.out.turned (b := w.heap.size + 1) (by omega) htu.grown)
                     have yB2 := yB1.grown htu.grown yB1.size (fun b e => by cases e; omega)
                     have ysz2 := Nat.le_trans ysz1 htu.grown.size
                     rw [if_neg (by rw [hnk.out]; simp)] at hMY
                     have yM12 := Lib.hid (show BMap Try.prog 3 4 Y1 (w.heap.size + 1) (n1 + 1) (keysB LN) LN.length from by
                       rw [← hLl.out] at hMY
                       exact hMY.congr hkeys.out)
                     clear hMY htu)
                  | (at_mapUpdate
                     refine wpList_tput _ rfl (.tmp 139) (.tmp 140) (.tmp 144) 26 rfl 3 3 Try.underlying3 Try.underlying26 Try.underlying3 (w.heap.size + 2) n2 _ rfl yM22.out (by unfold maxLen; omega) (last + 1) (now + d - 10) rfl rfl hw1.out hw2.out ?_
                     intro Y hMY htu
                     have yM2 := Lib.hid hMY
                     have yM1 := Lib.hid (yM12.out.kept htu.grown (by simp))
                     have yH := Lib.hid (holds_turned yH2.out htu)
                     have yR := Lib.hid (yR2.out.turned (b := w.heap.size + 2) (by omega) htu.grown)
                     have yB := yB2.grown htu.grown yB2.size (fun b e => by cases e; omega)
                     have ysz := Nat.le_trans ysz2 htu.grown.size
                     have yb0 := (yH.out.get 0 rfl).1
                     have yb1 := (yH.out.get 1 rfl).1
                     clear hMY htu))
            have hRt := oRight A2 LN c2 (last + 1) Y _ yR.out.1 (by have := ySt.out.box.2.2.1; omega)
            rw [decide_eq_true ySt.out.box] at hRt
            go_wp2_with fail
            refine hRt.mono ?_
            rintro e Y2 ⟨rfl, hb2⟩
            clear hRt
            have z0 := cell_below hb2 yb0
            have z1 := cell_below hb2 yb1
            have hszY2 := lt_of_cell z0
            have hlen := fun ty => (yM1.out.below hb2).len (t := 54) Try.underlying54 ty
            have hTI : TI w (i + 1) LN A2 c2 (last + 1) (now + d) (fun y => if y = last + 1 then now + d - 10 else t y) Y2 := ⟨yH.out.below hb2, yR.out.below hb2, ⟨_, yn1, yM1.out.below hb2⟩, ⟨_, yn2, yM2.out.below hb2⟩, below_then yB yB.size hb2, by have := hb2.size; omega, ySt.out⟩
            replace hTI := Lib.hid hTI
            clear yb0 yb1 yR yM1 yM2 yH ySt hb2
            dsimp only at hszY2
            go_wp2_with fail
            go_roundw
            case rel => exact ⟨i + 1, LN, A2, c2, (last + 1), (now + d), (fun y => if y = last + 1 then now + d - 10 else t y), rfl, rfl, by go_num, by omega, by omega, hTI⟩
            case measure => simp [intOf]; omega
        · have hkq' : (wrap64 (a.kind.tmod 3 + 3)).tmod 3 = 1 := hkq
          clear hkq
          have hP := uDone A l c last a.key X (w.heap.size + 3) (by omega) hR.out (by have := hSt.out.box.2.2.1; omega)
          rcases keysB_find (key := a.key) hSt.out.box with ⟨hDe, hkb⟩ | ⟨o, hDe, hok, hkb, hdl⟩
          · rw [hDe] at hP
            unfold ov O0 at hP
            dsimp only [List.length_nil] at hP
            clear hDe
            replace hP := Lib.hid hP
            go_wp2_with fail
            refine hP.out.mono ?_
            rintro e X2 ⟨A2, c2, rfl, _, hb2⟩
            have hbn := below_then hb2 hb2.size ((((Below.refl X2.heap.size X2).alloc (Nat.le_refl _) (.cells #[.int .i64 0, .slice A2 0 c2] 53)).alloc (by simp) (.cells #[.int .i64 0, .int .i64 0, .int .i64 0, .int .i64 0] 60)))
            have hl := (hM1.out.below hbn).look (t := 54) Try.underlying3 Try.underlying54 Try.underlying4 (zero4 _) hkw.out
            rw [hkb] at hl
            have x3' := cell_below hb2 x3
            have y0 := cell_below hb2 b0
            have y1 := cell_below hb2 b1
            have hs2 := hb2.size
            have hsx2 : wr.heap.size < X2.heap.size := by omega
            have hsb2 : w.heap.size < X2.heap.size := by omega
            have yb0 := cell_below hbn b0
            have yb1 := cell_below hbn b1
            have yH := Lib.hid (hH.out.below hbn)
            have yR := Lib.hid (hR.out.below hbn)
            have yM1 := Lib.hid (hM1.out.below hbn)
            have yM2 := Lib.hid (hM2.out.below hbn)
            have yB := below_then hB hB.size hbn
            have ySt := hSt
            have yn1 : n1 ≤ i + 1 := by omega
            have yn2 : n2 ≤ 40 * (i + 1) := by omega
            clear hP hb2
            go_upto_region 44 with fail
            have ysz := Nat.le_trans (show w.heap.size + 3 ≤ X.heap.size by omega) hbn.size
            generalize hYd : World.alloc (World.alloc X2 _) _ = Y at yb0 yb1 yH yR yM1 yM2 yB hl ysz ⊢
            clear hYd hl hbn
            have hRt := oRight A l c last Y _ yR.out.1 (by have := ySt.out.box.2.2.1; omega)
            rw [decide_eq_true ySt.out.box] at hRt
            go_wp2_with fail
            refine hRt.mono ?_
            rintro e Y2 ⟨rfl, hb2⟩
            clear hRt
            have z0 := cell_below hb2 yb0
            have z1 := cell_below hb2 yb1
            have hszY2 := lt_of_cell z0
            have hlen := fun ty => (yM1.out.below hb2).len (t := 54) Try.underlying54 ty
            have hTI : TI w (i + 1) l A c last (now + d) t Y2 := ⟨yH.out.below hb2, yR.out.below hb2, ⟨_, yn1, yM1.out.below hb2⟩, ⟨_, yn2, yM2.out.below hb2⟩, below_then yB yB.size hb2, by have := hb2.size; omega, ySt.out⟩
            replace hTI := Lib.hid hTI
            clear yb0 yb1 yR yM1 yM2 yH ySt hb2
            dsimp only at hszY2
            go_wp2_with fail
            go_roundw
            case rel => exact ⟨i + 1, l, A, c, last, (now + d), t, rfl, rfl, by go_num, by omega, by omega, hTI⟩
            case measure => simp [intOf]; omega
          · rw [hDe] at hP
            unfold ov at hP
            dsimp only at hP
            clear hDe
            replace hP := Lib.hid hP
            have hoe : (o.key != a.key) = false := by simp [hok]
            replace hok := Lib.hid hok
            go_wp2_with fail
            refine hP.out.mono ?_
            rintro e X2 ⟨A2, c2, rfl, hr2, hb2⟩
            have hbn := below_then hb2 hb2.size ((((Below.refl X2.heap.size X2).alloc (Nat.le_refl _) (.cells #[.int .i64 last, .slice A2 (doneL l a.key).length c2] 53)).alloc (by simp) (.cells #[.int .i64 o.key, .int .i64 o.kind, .int .i64 o.order, .int .i64 o.due] 60)))
            have hl := (hM1.out.below hbn).look (t := 54) Try.underlying3 Try.underlying54 Try.underlying4 (zero4 _) hkw.out
            rw [hkb] at hl
            have x3' := cell_below hb2 x3
            have y0 := cell_below hb2 b0
            have y1 := cell_below hb2 b1
            have yf0 := frozen_at hb2 b0 bf0
            have yf1 := frozen_at hb2 b1 bf1
            have hs2 := hb2.size
            have hsx2 : wr.heap.size < X2.heap.size := by omega
            have hsb2 : w.heap.size < X2.heap.size := by omega
            have hnx : wr.heap.size ≠ w.heap.size := by omega
            have yH1 := ((box_set y0 y1 yf0 yf1 (.int .i64 last) (.slice A2 (doneL l a.key).length c2)).alloc (.cells #[.int .i64 last, .slice A2 (doneL l a.key).length c2] 53)).alloc (.cells #[.int .i64 o.key, .int .i64 o.kind, .int .i64 o.order, .int .i64 o.due] 60)
            have yR1 := (((hr2.set (q := ⟨w.heap.size, 0, none⟩) (by dsimp only; omega) (.int .i64 last)).set (q := ⟨w.heap.size, 1, none⟩) (by dsimp only; omega) (.slice A2 (doneL l a.key).length c2)).alloc (.cells #[.int .i64 last, .slice A2 (doneL l a.key).length c2] 53)).alloc (.cells #[.int .i64 o.key, .int .i64 o.kind, .int .i64 o.order, .int .i64 o.due] 60)
            have yM11 := (((hM1.out.below hb2).box y0 y1 (.int .i64 last) (.slice A2 (doneL l a.key).length c2)).alloc (.cells #[.int .i64 last, .slice A2 (doneL l a.key).length c2] 53)).alloc (.cells #[.int .i64 o.key, .int .i64 o.kind, .int .i64 o.order, .int .i64 o.due] 60)
            have yM21 := (((hM2.out.below hb2).box y0 y1 (.int .i64 last) (.slice A2 (doneL l a.key).length c2)).alloc (.cells #[.int .i64 last, .slice A2 (doneL l a.key).length c2] 53)).alloc (.cells #[.int .i64 o.key, .int .i64 o.kind, .int .i64 o.order, .int .i64 o.due] 60)
            have yB1 := ((((below_then hB hB.size hb2).setCell (p := ⟨w.heap.size, 0, none⟩) (Nat.le_refl _) (.int .i64 last)).setCell (p := ⟨w.heap.size, 1, none⟩) (Nat.le_refl _) (.slice A2 (doneL l a.key).length c2)).alloc (by simp; omega) (.cells #[.int .i64 last, .slice A2 (doneL l a.key).length c2] 53)).alloc (by simp; omega) (.cells #[.int .i64 o.key, .int .i64 o.kind, .int .i64 o.order, .int .i64 o.due] 60)
            have hx31 : ((((X2.setCell ⟨w.heap.size, 0, none⟩ (.int .i64 last)).setCell ⟨w.heap.size, 1, none⟩ (.slice A2 (doneL l a.key).length c2)).alloc (.cells #[.int .i64 last, .slice A2 (doneL l a.key).length c2] 53)).alloc (.cells #[.int .i64 o.key, .int .i64 o.kind, .int .i64 o.order, .int .i64 o.due] 60)).cell? ⟨wr.heap.size, 3, none⟩ = some (.int .i64 a.key) := by
              rw [World.cell?_alloc_lt _ _ _ (by simp; omega), World.cell?_alloc_lt _ _ _ (by simp; omega), World.cell?_setCell_other _ _ _ _ (by first | (simp; done) | (simp; omega)), World.cell?_setCell_other _ _ _ _ (by first | (simp; done) | (simp; omega))]
              exact x3'
            have ysz1 : w.heap.size + 3 ≤ ((((X2.setCell ⟨w.heap.size, 0, none⟩ (.int .i64 last)).setCell ⟨w.heap.size, 1, none⟩ (.slice A2 (doneL l a.key).length c2)).alloc (.cells #[.int .i64 last, .slice A2 (doneL l a.key).length c2] 53)).alloc (.cells #[.int .i64 o.key, .int .i64 o.kind, .int .i64 o.order, .int .i64 o.due] 60)).heap.size := by simp; omega
            have ySt := Lib.hid (hSt.out.done (key := a.key))
            have yn1 : n1 ≤ i + 1 := by omega
            have yn2 : n2 ≤ 40 * (i + 1) := by omega
            replace yH1 := Lib.hid yH1
            replace yR1 := Lib.hid yR1
            replace yM11 := Lib.hid yM11
            replace yM21 := Lib.hid yM21
            replace hx31 := Lib.hid hx31
            replace hkb := Lib.hid hkb
            replace hdl := Lib.hid hdl
            clear hP hb2 hr2 hSt
            go_upto_region 43 with fail
            clear hl
            generalize hYd : World.alloc (World.alloc _ _) _ = Y1 at yH1 yR1 yM11 yM21 yB1 hx31 ysz1 ⊢
            clear hYd hbn x3' y0 y1 x3 x0 x1 x2 b0 b1
            have hx32 := hx31.out
            have hpY := lt_of_cell hx32
            dsimp only at hpY
            go_upto_region 44 with (at_delete
                                    refine wpList_bdrop _ rfl (.tmp 170) (.tmp 172) 54 3 rfl 4 Try.underlying3 Try.underlying54 (w.heap.size + 1) n1 _ _ rfl yM11.out a.key rfl hkw.out ?_
                                    intro Y hMY htu
                                    have yH := Lib.hid (holds_turned yH1.out htu)
                                    have yb0 := (yH.out.get 0 rfl).1
                                    have yb1 := (yH.out.get 1 rfl).1
                                    have yR := Lib.hid (yR1.out.turned (b := w.heap.size + 1) (by omega) htu.grown)
                                    have yM2 := Lib.hid (yM21.out.kept htu.grown (by simp))
                                    have yB := yB1.grown htu.grown yB1.size (fun b e => by cases e; omega)
                                    have ysz := Nat.le_trans ysz1 htu.grown.size
                                    rw [if_pos hkb.out] at hMY
                                    have yM1 := Lib.hid (show BMap Try.prog 3 4 Y (w.heap.size + 1) n1 (keysB (doneL l a.key)) (doneL l a.key).length from by
                                      have e1 : l.length - 1 = (doneL l a.key).length := by have := hdl.out; omega
                                      rw [e1] at hMY
                                      exact hMY.congr (fun x => (keysB_done l a.key x).symm))
                                    clear hMY)
            have hRt := oRight A2 (doneL l a.key) c2 last Y _ yR.out.1 (by have := ySt.out.box.2.2.1; omega)
            rw [decide_eq_true ySt.out.box] at hRt
            go_wp2_with fail
            refine hRt.mono ?_
            rintro e Y2 ⟨rfl, hb2⟩
            clear hRt
            have z0 := cell_below hb2 yb0
            have z1 := cell_below hb2 yb1
            have hszY2 := lt_of_cell z0
            have hlen := fun ty => (yM1.out.below hb2).len (t := 54) Try.underlying54 ty
            have hTI : TI w (i + 1) (doneL l a.key) A2 c2 last (now + d) t Y2 := ⟨yH.out.below hb2, yR.out.below hb2, ⟨_, yn1, yM1.out.below hb2⟩, ⟨_, yn2, yM2.out.below hb2⟩, below_then yB yB.size hb2, by have := hb2.size; omega, ySt.out⟩
            replace hTI := Lib.hid hTI
            clear yb0 yb1 yR yM1 yM2 yH ySt hb2
            dsimp only at hszY2
            go_wp2_with fail
            go_roundw
            case rel => exact ⟨i + 1, (doneL l a.key), A2, c2, last, (now + d), t, rfl, rfl, by go_num, by omega, by omega, hTI⟩
            case measure => simp [intOf]; omega
        · have hkq' : (wrap64 (a.kind.tmod 3 + 3)).tmod 3 = 2 := hkq
          clear hkq
          have hP := uTell A l c last (now + d) X (w.heap.size + 3) (by omega) hR.out (by have := hSt.out.box.2.2.1; omega)
          have htm : tim (now + d) = true := by have := hSt.out.now; simp [tim, num]; omega
          have hTe : tellS l last (now + d) = ⟨last, tellL l (now + d), toldL l (now + d), 0⟩ := by unfold tellS; rw [if_neg (by simp [hSt.out.box, htm])]
          rw [hTe] at hP
          dsimp only at hP
          have hSt2 := hSt.out.tell (by omega)
          have hbox := Lib.hid hSt.out.box
          have hdue := Lib.hid hSt.out.due
          have hkt := Lib.hid (fun x => keysB_tell l (now + d) x)
          have htl : (tellL l (now + d)).length = l.length := by simp [tellL]
          have htake := Lib.hid (fun (j : Nat) (o : O) (ho : (toldL l (now + d))[j]? = some o) => told_take hSt.out.box ho)
          have hmem := Lib.hid (fun (o : O) => @told_mem l (now + d) o)
          have hto : (toldL l (now + d)).length ≤ 30 := by have := List.length_filter_le (fun o : O => decide (o.due ≤ now + d)) l; unfold toldL; omega
          clear hTe htm
          generalize tellL l (now + d) = TL at hP hSt2 hkt htl
          generalize toldL l (now + d) = TO at hP hSt2 htake hmem hto
          replace hP := Lib.hid hP
          replace htl := Lib.hid htl
          replace hSt2 := Lib.hid hSt2
          have hwn : (Lit.int .i64 (now + d)).wf = true := WalkArith.wf_i64 (by omega)
          replace hwn := Lib.hid hwn
          go_wp2_with fail
          refine hP.out.mono ?_
          rintro e X2 ⟨A2, c2, B2, d2, rfl, hr2, ht2, hb2⟩
          have hbn := below_then hb2 hb2.size (((Below.refl X2.heap.size X2).alloc (Nat.le_refl _) (.cells #[.int .i64 last, .slice A2 TL.length c2] 53)).alloc (by simp) (.map #[] 0))
          have hz0 := ((Holds.cons' (Holds.new X2 #[.int .i64 last, .slice A2 TL.length c2] 53 rfl 0 rfl) (.cons' (Holds.new X2 #[.int .i64 last, .slice A2 TL.length c2] 53 rfl 1 rfl) (.nil _))).alloc (.map #[] 0))
          have hH0 := Holds.cons' hz0.one (Holds.cons' hz0.tail.one (hH.out.below hbn))
          have hseen : BMap Try.prog 3 4 ((X2.alloc (.cells #[.int .i64 last, .slice A2 TL.length c2] 53)).alloc (.map #[] 0)) (X2.heap.size + 1) 0 (keysB []) 0 := by
            have := BMap.new (P := Try.prog) (k := 3) (e := 4) (X2.alloc (.cells #[.int .i64 last, .slice A2 TL.length c2] 53))
            rw [World.size_alloc] at this
            exact this.congr (fun x => by simp [keysB])
          have hsx2 := hb2.size
          have hXw : w.heap.size + 3 ≤ X.heap.size := by omega
          have hT1 : T1 w X2.heap.size 0 l A2 c2 B2 d2 n1 n2 last (now + d) t TL TO ((X2.alloc (.cells #[.int .i64 last, .slice A2 TL.length c2] 53)).alloc (.map #[] 0)) :=
            ⟨⟨A, c, hH0⟩, (hr2.alloc _).alloc _, (ht2.alloc _).alloc _, hM1.out.below hbn, (hM2.out.below hbn).congr (fun x => by simp [keysB]), hseen, below_then hB hB.size hbn, by simp⟩
          replace hT1 := Lib.hid hT1
          clear hP hr2 ht2 hbn hz0 hH0 hseen hb2 hH hR hM1 hM2 hSt x0 x1 x2 x3 b0 b1 bf0 bf1
          have hsz2 : w.heap.size + 3 ≤ X2.heap.size := by omega
          clear hsx2
          go_wp2_with fail
          go_loopw [58] (fun v58 wi => ∃ (j : Nat), v58 = .int .i64 j ∧ j ≤ TO.length ∧ Hid (T1 w X2.heap.size j l A2 c2 B2 d2 n1 n2 last (now + d) t TL TO wi)) (fun v58 _ => TO.length - (intOf v58).toNat)
          case atStart => exact ⟨0, rfl, by omega, hT1⟩
          case round =>
            obtain ⟨j, rfl, hj, hT⟩ := hrel
            obtain ⟨⟨A9, c9, gH⟩, gR, gT, gM1, gM2, gS, gB, gsz⟩ := hT.out
            by_cases hjt : j < TO.length
            · obtain ⟨o, ho⟩ : ∃ o, TO[j]? = some o := ⟨_, List.getElem?_eq_getElem hjt⟩
              obtain ⟨b', of', rfl, hbl', hb0', hcc⟩ := gT.1.elem O.len (by omega) j o ho
              have e0 := hcc 0 _ rfl
              have e1 := hcc 1 _ rfl
              have e2 := hcc 2 _ rfl
              have e3 := hcc 3 _ rfl
              clear hcc
              simp only [Nat.add_zero] at e0
              have hol := (hmem.out o).1 (List.mem_of_getElem? ho)
              have hkl : keysB l o.key = true := keysB_true.2 ⟨o, hol.1, rfl⟩
              have hko := htake.out j o ho
              have hdo := hdue.out o hol.1
              have hmo := hbox.out.1 o hol.1
              have hkn0 : 1 ≤ o.key ∧ o.key ≤ 1099511627776 := by simp [mayO, num] at hmo; omega
              have hwk : (Lit.int .i64 o.key).wf = true := WalkArith.wf_i64 (by omega)
              obtain ⟨τ, hτ⟩ : ∃ τ, τ = t o.key := ⟨_, rfl⟩
              have hτ1 : -10 ≤ τ ∧ τ + 10 ≤ now + d := by
                have h1 := hol.2
                have h2 : 0 ≤ o.due := by simp [mayO, tim, num] at hmo; omega
                omega
              obtain ⟨hτ2, hτ3⟩ := hτ1
              have hl1 := (gM1.alloc (.cells #[.int .i64 o.key, .int .i64 o.kind, .int .i64 o.order, .int .i64 o.due] 60)).look (t := 54) Try.underlying3 Try.underlying54 Try.underlying4 (zero4 _) hwk
              rw [hkl] at hl1
              have hl2 := (gM2.alloc (.cells #[.int .i64 o.key, .int .i64 o.kind, .int .i64 o.order, .int .i64 o.due] 60)).look (t := 26) Try.underlying3 Try.underlying26 Try.underlying3 (zero3 _) hwk
              rw [if_neg (by rw [hko]; simp), ← hτ] at hl2
              have hl3 := (gS.alloc (.cells #[.int .i64 o.key, .int .i64 o.kind, .int .i64 o.order, .int .i64 o.due] 60)).look (t := 54) Try.underlying3 Try.underlying54 Try.underlying4 (zero4 _) hwk
              rw [hko] at hl3
              obtain ⟨wa1, ra1, ma1, ta1⟩ := (gS.alloc (.cells #[.int .i64 o.key, .int .i64 o.kind, .int .i64 o.order, .int .i64 o.due] 60)).drew.put (t := 54) Try.underlying3 Try.underlying54 Try.underlying4 (by unfold maxLen; omega) hwk
              obtain ⟨wa2, ra2, ma2, ta2⟩ := ((gM2.alloc (.cells #[.int .i64 o.key, .int .i64 o.kind, .int .i64 o.order, .int .i64 o.due] 60)).drew.kept ta1.grown (by simp; omega)).put (t := 26) Try.underlying3 Try.underlying26 Try.underlying3 (by unfold maxLen; omega) hwk hwn.out
              obtain ⟨wb1, rb1, mb1, tb1⟩ := (gM2.alloc (.cells #[.int .i64 o.key, .int .i64 o.kind, .int .i64 o.order, .int .i64 o.due] 60)).drew.put (t := 26) Try.underlying3 Try.underlying26 Try.underlying3 (by unfold maxLen; omega) hwk hwn.out
              obtain ⟨wb2, rb2, mb2, tb2⟩ := ((gS.alloc (.cells #[.int .i64 o.key, .int .i64 o.kind, .int .i64 o.order, .int .i64 o.due] 60)).drew.kept tb1.grown (by simp; omega)).put (t := 54) Try.underlying3 Try.underlying54 Try.underlying4 (by unfold maxLen; omega) hwk
              have la1 := (holds_turned (Holds.drew (Holds.cons' (Holds.new _ #[.int .i64 o.key, .int .i64 o.kind, .int .i64 o.order, .int .i64 o.due] 60 rfl 0 rfl) (.nil _))) ta1).one.1
              have lb1 := (holds_turned (Holds.drew (Holds.cons' (Holds.new _ #[.int .i64 o.key, .int .i64 o.kind, .int .i64 o.order, .int .i64 o.due] 60 rfl 0 rfl) (.nil _))) tb1).one.1
              have la2 := lt_of_cell la1
              have lb2 := lt_of_cell lb1
              dsimp only at la2 lb2
              have ma1' := ma1.kept ta2.grown (by simp; omega)
              have mb1' := mb1.kept tb2.grown (by simp; omega)
              have hA := Lib.hid (T1.next hT.out hsz2 ho hko ta1 ta2 (.inl ⟨rfl, rfl⟩) ma1' rfl (fun _ => rfl) rfl ma2 rfl (fun _ => rfl))
              have hBB := Lib.hid (T1.next hT.out hsz2 ho hko tb1 tb2 (.inr ⟨rfl, rfl⟩) mb2 rfl (fun _ => rfl) rfl mb1' rfl (fun _ => rfl))
              replace hko := Lib.hid hko
              replace hdo := Lib.hid hdo
              replace hτ := Lib.hid hτ
              replace ho := Lib.hid ho
              replace hkl := Lib.hid hkl
              clear ma1 ta1 ma2 ta2 mb1 tb1 mb2 tb2 ma1' mb1' gM1 gM2 gS gH gR gT hol hmo
              go_upto_region 19 with fail
              go_region
              all_goals
                go_wp2_with fail
                go_roundw
                case rel => exact ⟨j + 1, by go_num, by omega, by first | exact hA | exact hBB⟩
                case measure => simp [intOf]; omega
            · have hjt' : j = TO.length := by omega
              subst hjt'
              have hT2 := T2.of hT.out
              obtain ⟨W3, hW3⟩ : ∃ q, q = wr := ⟨_, rfl⟩
              subst hW3
              have hM1r := hT2.2.2.1
              obtain ⟨D, hd1, hd2, hd3, hd4⟩ := hM1r
              have hleft0 : ∀ x, Maps.has D (.int .i64 x) = true → keysB l x = true := fun x h => by rw [← hd3]; exact h
              have hdt := Lib.hid (fun x (h : Maps.has D (.int .i64 x) = true) => hd4 x (by rw [← hd3]; exact h))
              have hid := Lib.hid (fun x (h : Maps.has D (.int .i64 x) = true) => h)
              have hszW3 := hT2.2.2.2.2.2.2
              replace hT2 := Lib.hid hT2
              replace hleft0 := Lib.hid hleft0
              clear hd2 hd3 hd4 hT gH gR gT gM1 gM2 gS htake
              go_wp2_with (at_range
                           refine wpList_range_own _ rfl (.tmp 90) 54 rfl 3 4 (Maps.int_keyed Try.underlying3) Try.underlying54 _ (w.heap.size + 1) n1 D rfl hd1 ?_
                           intro w5 hrg0 hg5 hs5)
              have hT25 := Lib.hid (hT2.out.kept hsz2 hg5 (fun r e => by cases e))
              have hs5' : W3.heap.size < w5.heap.size := by omega
              clear hs5 hg5 hd1
              go_frame
              go_loopw [] (fun wx => ∃ (left : Lit → Bool) (cnt : Nat), wx.ranges Try.prog 3 (plainElem Try.prog 4) (w.heap.size + 1) W3.heap.size n1 D left cnt ∧ Hid (∀ x, left (.int .i64 x) = true → Maps.has D (.int .i64 x) = true) ∧ Hid (T2 w X2.heap.size l A2 c2 n1 n2 last (now + d) t TL TO wx)) (fun wx => wx.rangeLeft (w.heap.size + 1) W3.heap.size)
              case atStart => exact ⟨_, _, hrg0, hid, hT25⟩
              case round =>
                obtain ⟨left, cnt, hrg, hleft, hTT⟩ := hrel
                obtain ⟨⟨A9, c9, gH⟩, gR, gM1, gM2, gS, gB, gsz⟩ := hTT.out
                obtain ⟨u0, uf0⟩ := gH.get 0 rfl
                obtain ⟨u1, uf1⟩ := gH.get 1 rfl
                obtain ⟨b0, bf0⟩ := gH.get 2 rfl
                obtain ⟨b1, bf1⟩ := gH.get 3 rfl
                have hub := lt_of_cell u0
                have hbb := lt_of_cell b0
                dsimp only at hub hbb
                replace gH := Lib.hid gH
                replace gR := Lib.hid gR
                replace gM1 := Lib.hid gM1
                replace gM2 := Lib.hid gM2
                replace gS := Lib.hid gS
                go_wp2_with (at_next; refine wpList_next_b _ rfl (.tmp 91) rfl 3 4 Try.underlying3 Try.underlying4 (w.heap.size + 1) W3.heap.size n1 D left cnt rfl hrg hleft.out hdt.out ?_ ?_)
                · have yH := Lib.hid (box_set b0 b1 bf0 bf1 (.int .i64 last) (.slice A2 TL.length c2))
                  have yR := Lib.hid ((gR.out.set (q := ⟨w.heap.size, 0, none⟩) (by dsimp only; omega) (.int .i64 last)).set (q := ⟨w.heap.size, 1, none⟩) (by dsimp only; omega) (.slice A2 TL.length c2))
                  have yM1 := Lib.hid ((gM1.out.congr (fun x => (hkt.out x).symm)).box b0 b1 (.int .i64 last) (.slice A2 TL.length c2))
                  rw [← htl.out] at yM1
                  have yM2 := Lib.hid (gM2.out.box b0 b1 (.int .i64 last) (.slice A2 TL.length c2))
                  have yB := (gB.setCell (p := ⟨w.heap.size, 0, none⟩) (Nat.le_refl _) (.int .i64 last)).setCell (p := ⟨w.heap.size, 1, none⟩) (Nat.le_refl _) (.slice A2 TL.length c2)
                  have ysz : w.heap.size + 3 ≤ ((wr.setCell ⟨w.heap.size, 0, none⟩ (.int .i64 last)).setCell ⟨w.heap.size, 1, none⟩ (.slice A2 TL.length c2)).heap.size := by simp; omega
                  have ySt := hSt2
                  have yn1 : n1 ≤ i + 1 := by omega
                  have yn2 : n2 + TO.length ≤ 40 * (i + 1) := by omega
                  clear gH gR gM1 gM2 gS gB hTT hleft hdt hid hleft0 hT2 hT25 hT1 hdue hbox hmem htl hkt hrg hrg0
                  generalize hYd : World.setCell (World.setCell wr _ _) _ _ = Y at yH yR yM1 yM2 yB ysz ⊢
                  clear hYd u0 u1 uf0 uf1 b0 b1 bf0 bf1 hub hbb
                  have yb0 := (yH.out.get 0 rfl).1
                  have yb1 := (yH.out.get 1 rfl).1
                  have hRt := oRight A2 TL c2 last Y _ yR.out.1 (by have := ySt.out.box.2.2.1; omega)
                  rw [decide_eq_true ySt.out.box] at hRt
                  refine hRt.mono ?_
                  rintro e Y2 ⟨rfl, hb2⟩
                  clear hRt
                  have z0 := cell_below hb2 yb0
                  have z1 := cell_below hb2 yb1
                  have hszY2 := lt_of_cell z0
                  have hlen := fun ty => (yM1.out.below hb2).len (t := 54) Try.underlying54 ty
                  have hTI : TI w (i + 1) TL A2 c2 last (now + d) (fun y => if keysB TO y = true then now + d else t y) Y2 := ⟨yH.out.below hb2, yR.out.below hb2, ⟨_, yn1, yM1.out.below hb2⟩, ⟨_, yn2, yM2.out.below hb2⟩, below_then yB yB.size hb2, by have := hb2.size; omega, ySt.out⟩
                  replace hTI := Lib.hid hTI
                  clear yb0 yb1 yR yM1 yM2 yH ySt hb2
                  dsimp only at hszY2
                  go_wp2_with fail
                  go_roundw
                  case rel => exact ⟨i + 1, TL, A2, c2, last, (now + d), (fun y => if keysB TO y = true then now + d else t y), rfl, rfl, by go_num, by omega, by omega, hTI⟩
                  case measure => simp [intOf]; omega
                · clear gH gR gM1 gM2 gS gsz u0 u1 uf0 uf1 b0 b1 bf0 bf1 gB
                  intro x w6 cnt6 hwx hlk hrg6 hlt6 hgr6 hsz6 hen6
                  have hkx := hleft0.out x (hleft.out x hlk)
                  obtain ⟨o, hol, hoe⟩ := keysB_true.1 hkx
                  have hdo := hdue.out o hol
                  have hmo := hbox.out.1 o hol
                  have hnextL := Lib.hid (fun x' (h : (fun z : Lit => left z && !z.sameKey (.int .i64 x)) (.int .i64 x') = true) => hleft.out x' (by simp at h; exact h.1))
                  have hrgw : ∃ ob : Obj, wr.heap[W3.heap.size]? = some ob ∧ ob.isCells = false := by
                    obtain ⟨es, cl, since, seen, c00, _, _, _, _, q1, _⟩ := hrg
                    exact ⟨_, q1, rfl⟩
                  have hT6 := hTT.out.kept hsz2 hgr6 (fun r e => by cases e; exact ⟨hszW3, hrgw⟩)
                  obtain ⟨⟨A9, c9, gH⟩, gR, gM1, gM2, gS, gB, gsz⟩ := hT6
                  have hl1 := gS.look (t := 54) Try.underlying3 Try.underlying54 Try.underlying4 (zero4 _) hwx
                  have hl2 := gM2.look (t := 26) Try.underlying3 Try.underlying26 Try.underlying3 (zero3 _) hwx
                  have hms := Lib.hid (show w6.rangeLeft (w.heap.size + 1) W3.heap.size < wr.rangeLeft (w.heap.size + 1) W3.heap.size by rw [hrg6.left_eq, hrg.left_eq]; exact hlt6)
                  have hT6 := Lib.hid (show T2 w X2.heap.size l A2 c2 n1 n2 last (now + d) t TL TO w6 from ⟨⟨A9, c9, gH⟩, gR, gM1, gM2, gS, gB, gsz⟩)
                  obtain ⟨τ, hτ⟩ : ∃ τ, τ = t o.key := ⟨_, rfl⟩
                  have hdb : 0 ≤ o.due ∧ o.due ≤ 1099511627776 := by simp [mayO, tim, num] at hmo; omega
                  rw [← hoe] at hl1 hl2
                  cases hkt2 : keysB TO o.key with
                  | true =>
                    rw [hkt2] at hl1
                    rw [hoe] at hl1
                    clear hl2 hdo hτ hmo hdb gH gR gM1 gM2 gS hkt2
                    replace hoe := Lib.hid hoe
                    replace hkx := Lib.hid hkx
                    clear hlk hsz6
                    go_wp2_with fail
                    go_roundw
                    case rel => exact ⟨_, cnt6, hrg6, hnextL, hT6⟩
                    case measure => exact hms.out
                  | false =>
                    have hnd : now + d < o.due := by
                      rcases Int.lt_or_le (now + d) o.due with h | h
                      · exact h
                      · have := keysB_true.2 ⟨o, (hmem.out o).2 ⟨hol, h⟩, rfl⟩
                        rw [hkt2] at this; cases this
                    rw [hkt2] at hl1
                    rw [if_neg (by rw [hkt2]; simp), ← hτ] at hl2
                    rw [hoe] at hl1 hl2
                    have h5 : now + d < τ + 10 := by omega
                    have h6 : τ ≤ 1099511627776 := by omega
                    have h7 : -10 ≤ τ := by omega
                    clear hdo hτ hmo hdb gH gR gM1 gM2 gS hkt2 hnd
                    replace hoe := Lib.hid hoe
                    replace hkx := Lib.hid hkx
                    clear hlk hsz6
                    go_wp2_with fail
                    go_roundw
                    case rel => exact ⟨_, cnt6, hrg6, hnextL, hT6⟩
                    case measure => exact hms.out
    · clear hT hH hR hM1 hM2 hSt
      go_wp2_with fail
      refine (lAlive _).mono ?_
      rintro e w9 ⟨rfl, hb9⟩
      have hfin := below_then hB hs1 hb9
      clear hb9
      go_wp2_with fail
      go_ret
      exact ⟨rfl, hfin⟩
end Go.Proofs.Ytejdmefiobgcdaa
