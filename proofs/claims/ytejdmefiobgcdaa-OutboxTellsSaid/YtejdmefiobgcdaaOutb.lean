import Derived.Test.YtejdmefiobgcdaaOuta
import Derived.Deep.RegionHeld3
namespace Go.Proofs.Ytejdmefiobgcdaa
open Go.RowKit Go.Proofs

def mayO (o : O) : Bool := num o.key && num o.order && knd o.kind && tim o.due
def Rel (x y : O) : Prop := x.key < y.key ∧ ¬ (x.kind = y.kind ∧ x.order = y.order)
instance : DecidableRel Rel := fun x y => by unfold Rel; infer_instance
def OkBox (l : List O) (last : Int) : Prop := (∀ o ∈ l, mayO o = true) ∧ l.Pairwise Rel ∧ l.length ≤ 96 ∧ tim last = true ∧ ∀ o ∈ l, o.key ≤ last
instance (l : List O) (last : Int) : Decidable (OkBox l last) := by unfold OkBox; infer_instance
def lastKey (t : List O) : Int := match t.getLast? with | none => 0 | some o => o.key
theorem lastKey_snoc (t : List O) (o : O) : lastKey (t ++ [o]) = o.key := by simp [lastKey]

/-- What the rows ahead are. -/
structure Ahead (t : List O) (prev : Int) : Prop where
  may : ∀ o ∈ t, mayO o = true
  rel : t.Pairwise Rel
  key : prev = lastKey t
  le : ∀ x ∈ t, x.key ≤ prev
theorem Ahead.nil : Ahead [] 0 := ⟨by simp, .nil, rfl, by simp⟩
theorem Ahead.snoc {t : List O} {prev : Int} (h : Ahead t prev) {o : O} (hm : mayO o = true) (hk : prev < o.key) (hd : ∀ x ∈ t, sameKO o.kind o.order x = false) : Ahead (t ++ [o]) o.key := by
  refine ⟨fun x hx => ?_, ?_, (lastKey_snoc t o).symm, fun x hx => ?_⟩
  · rcases List.mem_append.1 hx with h' | h'
    · exact h.may x h'
    · simp at h'; rw [h']; exact hm
  · refine List.pairwise_append.2 ⟨h.rel, by simp, fun x hx y hy => ?_⟩
    simp at hy
    subst hy
    have := h.le x hx
    refine ⟨by omega, fun e => ?_⟩
    have := hd x hx
    simp [sameKO, e.1, e.2] at this
  · rcases List.mem_append.1 hx with h' | h'
    · have := h.le x h'; omega
    · simp at h'; rw [h']; omega
theorem Ahead.bad_may {l : List O} {last : Int} {k : Nat} {o : O} (ho : l[k]? = some o) (h : mayO o = false) : ¬ OkBox l last := fun e => by
  have := e.1 o (List.mem_of_getElem? ho)
  rw [h] at this; cases this
theorem rel_of {l : List O} (h : l.Pairwise Rel) {j k : Nat} {x o : O} (hj : l[j]? = some x) (hk : l[k]? = some o) (hjk : j < k) : Rel x o := by
  obtain ⟨h1, rfl⟩ := List.getElem?_eq_some_iff.1 hj
  obtain ⟨h2, rfl⟩ := List.getElem?_eq_some_iff.1 hk
  exact List.pairwise_iff_getElem.1 h j k h1 h2 hjk
theorem Ahead.bad_key {l : List O} {last prev : Int} {k : Nat} {o : O} (h : Ahead (l.take k) prev) (ho : l[k]? = some o) (hm : mayO o = true) (hk : o.key ≤ prev) : ¬ OkBox l last := fun e => by
  have hkl := (List.getElem?_eq_some_iff.1 ho).1
  cases k with
  | zero =>
    have h0 : prev = 0 := by rw [h.key]; simp [lastKey]
    simp [mayO, num] at hm
    omega
  | succ k =>
    obtain ⟨x, hx⟩ : ∃ x, l[k]? = some x := ⟨_, List.getElem?_eq_getElem (by omega)⟩
    have h1 := rel_of e.2.1 hx ho (by omega)
    have h2 : prev = x.key := by rw [h.key, List.take_add_one, hx]; exact lastKey_snoc _ _
    have := h1.1
    omega
theorem Ahead.bad_twice {l : List O} {last : Int} {k : Nat} {o : O} (ho : l[k]? = some o) (h : idx l (sameKO o.kind o.order) ≠ k) : ¬ OkBox l last := fun e => by
  refine h (idx_at (k := k) (fun x hx => ?_) ho (by simp [sameKO]))
  obtain ⟨j, hj, rfl⟩ := List.mem_take_iff_getElem.1 hx
  have h1 := rel_of e.2.1 (List.getElem?_eq_getElem (by omega)) ho (show j < k by omega)
  cases hs : sameKO o.kind o.order l[j] with
  | false => rfl
  | true =>
    simp [sameKO] at hs
    exact absurd hs h1.2
theorem idx_ahead {l : List O} {k : Nat} {f : O → Bool} (h : idx l f = k) : ∀ x ∈ l.take k, f x = false := by
  unfold idx at h
  cases hf : l.findIdx? f with
  | none => rw [hf] at h; dsimp only at h; omega
  | some j =>
    rw [hf] at h
    dsimp only at h
    obtain rfl : j = k := by omega
    obtain ⟨h1, h2, h3⟩ := List.findIdx?_eq_some_iff_getElem.1 hf
    intro x hx
    obtain ⟨i, hi, rfl⟩ := List.mem_take_iff_getElem.1 hx
    simpa using h3 i (by omega)

theorem below_drewN {B : Nat} {a w : World} (h : Below B a w) (n : Nat) : Below B a (w.drewN n) := ⟨h.os, h.tape, h.output, h.size, h.block⟩
theorem Ahead.all {l : List O} {last prev : Int} (h : Ahead l prev) : OkBox l last ↔ (l.length ≤ 96 ∧ tim last = true ∧ prev ≤ last) := by
  constructor
  · rintro ⟨_, _, h3, h4, h5⟩
    refine ⟨h3, h4, ?_⟩
    rw [h.key]
    unfold lastKey
    cases hl : l.getLast? with
    | none =>
      dsimp only
      simp [tim, num] at h4
      omega
    | some o => exact h5 o (List.mem_of_getLast? hl)
  · rintro ⟨h3, h4, h5⟩
    exact ⟨h.may, h.rel, h3, h4, fun o ho => by have := h.le o ho; omega⟩

-- outbox.Right
set_option maxRecDepth 100000 in
set_option maxHeartbeats 1600000 in
theorem oRight (A : Option Addr) (l : List O) (c : Nat) (last : Int) (w : World) (ok : Nat → Prop) (hr : Reads w ok 4 A l.length (l.flatMap O.c)) (hll : l.length < 4611686018427387904) :
    Calls Try.prog 30 #[.agg #[.int .i64 last, .slice A l.length c]] w fun e w' => e = .returned (.bool (decide (OkBox l last))) ∧ Below w.heap.size w w' := by
  obtain ⟨R, hR⟩ : ∃ R, R = decide (OkBox l last) := ⟨_, rfl⟩
  rw [← hR]
  replace hR := Lib.hid hR
  go_enter Try.func30, Try.ntmps30
  go_wp2_with fail
  go_loopw [3, 10] (fun v3 v10 wr => ∃ (k : Nat) (prev : Int), v3 = .int .i64 prev ∧ v10 = .int .i64 k ∧ k ≤ l.length ∧ Hid (Ahead (l.take k) prev) ∧ Below (w.heap.size + 1) (w.alloc (.cells #[.int .i64 last, .slice A l.length c] 53)) wr) (fun _ v10 _ => l.length - (intOf v10).toNat)
  case atStart => exact ⟨0, 0, rfl, rfl, by omega, Lib.hid (by simpa using Ahead.nil), Below.refl _ _⟩
  case round =>
    obtain ⟨k, prev, rfl, rfl, hk, hah, hb⟩ := hrel
    have hb0 := below_old hb
    have hn0 := below_new hb 0
    have hn1 := below_new hb 1
    have hsz := hb.size
    simp at hn0 hn1 hsz
    have hsz' : w.heap.size < wr.heap.size := by omega
    by_cases hlt : k < l.length
    · obtain ⟨o, ho⟩ : ∃ o, l[k]? = some o := ⟨_, List.getElem?_eq_getElem hlt⟩
      obtain ⟨b, of, rfl, hbl, _, hc⟩ := (hr.below hb0).elem O.len (by omega) k o ho
      have hc0 := hc 0 _ rfl
      have hc1 := hc 1 _ rfl
      have hc2 := hc 2 _ rfl
      have hc3 := hc 3 _ rfl
      clear hc
      simp only [Nat.add_zero] at hc0
      have hm : mayO o = (num o.key && num o.order && knd o.kind && tim o.due) := rfl
      go_upto_region 5 with fail
      (try simp only [Act.put, List.setIfInBounds_toArray, List.set_cons_zero, List.set_cons_succ])
      go_cut [6] (fun v6 wc => v6 = .bool (mayO o) ∧ wc = wr.alloc (.cells #[.int .i64 o.key, .int .i64 o.kind, .int .i64 o.order, .int .i64 o.due] 60))
      case first =>
        go_wp2_with (first
          | (go_at_call 81; refine (oNumber _ _).mono ?_; rintro e w' ⟨rfl, rfl⟩)
          | (go_at_call 80; refine (oKinds _ _).mono ?_; rintro e w' ⟨rfl, rfl⟩)
          | (go_at_call 82; refine (oTime _ _).mono ?_; rintro e w' ⟨rfl, rfl⟩))
        all_goals
          go_meet
          case rel => exact ⟨by simp only [hm]; simp [*], rfl⟩
      case rest =>
        obtain ⟨rfl, rfl⟩ := hcut
        clear hm
        have hof := Lib.hid (fun W => ofAny o.kind o.order W)
        have hwh := Lib.hid (fun W p q (h : Below wr.heap.size wr W) h1 h2 => whereOf (some ⟨b, of, none⟩) l c p q o.kind o.order W ok (hr.below (below_then hb0 hb0.size h)) h1 h2 hll)
        go_upto_region 6 with fail
        (try simp only [Act.put, List.setIfInBounds_toArray, List.set_cons_zero, List.set_cons_succ])
        obtain ⟨X, hX⟩ : ∃ X, X = wr.alloc (.cells #[.int .i64 o.key, .int .i64 o.kind, .int .i64 o.order, .int .i64 o.due] 60) := ⟨_, rfl⟩
        have xc0 : X.cell? ⟨wr.heap.size, 0, none⟩ = some (.int .i64 o.key) := by rw [hX]; simp [go_sem]
        have xc1 : X.cell? ⟨wr.heap.size, 1, none⟩ = some (.int .i64 o.kind) := by rw [hX]; simp [go_sem]
        have xc2 : X.cell? ⟨wr.heap.size, 2, none⟩ = some (.int .i64 o.order) := by rw [hX]; simp [go_sem]
        have xb : X.cell? ⟨w.heap.size, 1, none⟩ = some (.slice (some ⟨b, of, none⟩) l.length c) := by rw [hX]; simp [go_sem, *]
        have hbX : Below wr.heap.size wr X := by rw [hX]; exact (Below.refl _ _).alloc (Nat.le_refl _) _
        have hsX : X.heap.size = wr.heap.size + 1 := by rw [hX]; simp
        rw [← hX]
        clear hX
        replace hsX := Lib.hid hsX
        go_cut [52] (fun v52 wc => v52 = .bool (!mayO o || decide (o.key ≤ prev) || decide (idx l (sameKO o.kind o.order) ≠ k)) ∧ Below X.heap.size X wc)
        case first =>
          by_cases hmo : mayO o = true
          · have hnot : (!mayO o) = false := by simp [hmo]
            replace hmo := Lib.hid hmo
            by_cases hkp : o.key ≤ prev
            · have hkp' : decide (o.key ≤ prev) = true := by simp [hkp]
              go_quiet (fail)
              go_wp2_with fail
              go_meet
              case rel => exact ⟨by simp [hkp], below_drewN (Below.refl _ X) _⟩
            · have hkp' : decide (o.key ≤ prev) = false := by simp [hkp]
              have hS : ∀ W, Below X.heap.size X W → Below X.heap.size X W ∧ W.cell? ⟨wr.heap.size, 0, none⟩ = some (.int .i64 o.key) ∧ W.cell? ⟨wr.heap.size, 1, none⟩ = some (.int .i64 o.kind) ∧ W.cell? ⟨wr.heap.size, 2, none⟩ = some (.int .i64 o.order) ∧ W.cell? ⟨w.heap.size, 1, none⟩ = some (.slice (some ⟨b, of, none⟩) l.length c) := fun W h => ⟨h, cell_below h xc0, cell_below h xc1, cell_below h xc2, cell_below h xb⟩
              replace hS := Lib.hid hS
              obtain ⟨Y, hY⟩ : ∃ Y, Y = ((X.alloc (.cells #[.int .i64 o.kind] 3)).alloc (.cells #[.int .i64 o.order] 3)).drew := ⟨_, rfl⟩
              have hXY : Below X.heap.size X Y := by rw [hY]; exact (((Below.refl _ X).alloc (Nat.le_refl _) _).alloc (by simp) _).drew
              have hYs : X.heap.size ≤ Y.heap.size := hXY.size
              have hYb : Below wr.heap.size wr Y := hbX.trans (hXY.mono (by have := hsX.out; omega))
              have hY1 : Y.cell? ⟨X.heap.size, 0, none⟩ = some (.int .i64 o.kind) := by rw [hY]; simp [go_sem]
              have hY2 : Y.cell? ⟨X.heap.size + 1, 0, none⟩ = some (.int .i64 o.order) := by rw [hY]; simp [go_sem]
              have hw83 := Lib.hid (hwh.out Y X.heap.size (X.heap.size + 1) hYb hY1 hY2)
              have hSY := Lib.hid (hS.out Y hXY)
              have hS0 := Lib.hid (hS.out X.drew (Below.refl _ X).drew)
              clear hY1 hY2 hYb
              rw [hY] at hw83 hSY
              go_region_held3 (fun W => Below X.heap.size X W ∧ W.cell? ⟨wr.heap.size, 0, none⟩ = some (.int .i64 o.key) ∧ W.cell? ⟨wr.heap.size, 1, none⟩ = some (.int .i64 o.kind) ∧ W.cell? ⟨wr.heap.size, 2, none⟩ = some (.int .i64 o.order) ∧ W.cell? ⟨w.heap.size, 1, none⟩ = some (.slice (some ⟨b, of, none⟩) l.length c))
                (first
                  | exact hS0.out
                  | exact hSY.out
                  | exact hS.out _ (by assumption))
                (first
                  | (go_at_call 84; refine (hof.out _).mono ?_; rintro e w2 ⟨rfl, rfl⟩)
                  | (go_at_call 83; refine hw83.out.mono ?_; rintro e w3 ⟨rfl, hb3⟩; rw [← hY] at hb3; have hb4 := below_then hXY hYs hb3))
              all_goals
                go_wp2_with fail
                go_meet
                case rel => exact ⟨by rw [hmo.out, hkp']; by_cases hq : idx l (sameKO o.kind o.order) = (k : Int) <;> simp [hq], by assumption⟩
          · have hmo' := Lib.hid (show mayO o = false by simpa using hmo)
            have hnot : (!mayO o) = true := by simp [hmo]
            clear hmo
            go_quiet (fail)
            go_wp2_with fail
            go_meet
            case rel => exact ⟨by simp [hmo'.out], below_drewN (Below.refl _ X) _⟩
        case rest =>
          obtain ⟨rfl, hbc⟩ := hcut
          rename World => W2
          have yc0 := cell_below hbc xc0
          have hb2 : Below (w.heap.size + 1) (w.alloc (.cells #[.int .i64 last, .slice (some ⟨b, of, none⟩) l.length c] 53)) W2 := hb.trans ((below_then hbX (by have := hsX.out; omega) hbc).mono (by omega))
          have hb20 := below_old hb2
          cases hm : mayO o with
          | false =>
            have hbad := Lib.hid (Ahead.bad_may (last := last) ho hm)
            simp only [Bool.not_false, Bool.true_or]
            go_wp2_with fail
            go_ret
            exact ⟨by rw [hR.out, decide_eq_false hbad.out]; rfl, hb20⟩
          | true =>
            by_cases hkp : o.key ≤ prev
            · have hbad := Lib.hid (Ahead.bad_key (last := last) hah.out ho hm hkp)
              rw [decide_eq_true hkp]
              simp only [Bool.not_true, Bool.false_or, Bool.true_or]
              go_wp2_with fail
              go_ret
              exact ⟨by rw [hR.out, decide_eq_false hbad.out]; rfl, hb20⟩
            · rw [decide_eq_false hkp]
              by_cases hi : idx l (sameKO o.kind o.order) = k
              · have hah2 := Lib.hid (hah.out.snoc hm (by omega) (idx_ahead hi))
                have hnx : l.take k ++ [o] = l.take (k + 1) := by rw [List.take_add_one, ho]; rfl
                rw [hnx] at hah2
                rw [show decide (idx l (sameKO o.kind o.order) ≠ (k : Int)) = false by simp [hi]]
                simp only [Bool.not_true, Bool.false_or]
                clear hnx
                replace ho := Lib.hid ho
                replace hi := Lib.hid hi
                go_wp2_with fail
                go_roundw
                case rel => exact ⟨k + 1, o.key, rfl, by go_num, by omega, hah2, hb2⟩
                case measure => simp [intOf]; omega
              · have hbad := Lib.hid (Ahead.bad_twice (last := last) ho hi)
                rw [show decide (idx l (sameKO o.kind o.order) ≠ (k : Int)) = true by simp [hi]]
                simp only [Bool.not_true, Bool.false_or]
                replace hi := Lib.hid hi
                go_wp2_with fail
                go_ret
                exact ⟨by rw [hR.out, decide_eq_false hbad.out]; rfl, hb20⟩
    · have hk' : k = l.length := by omega
      have hah2 := hah.out
      rw [hk', List.take_length] at hah2
      have hiff := Lib.hid (hah2.all (last := last))
      have go : ∀ B : Bool, (B = true ↔ (l.length ≤ 96 ∧ tim last = true ∧ prev ≤ last)) → B = R := fun B hB => by
        rw [hR.out, Bool.eq_iff_iff, hB, decide_eq_true_iff]
        exact hiff.out.symm
      replace go := Lib.hid go
      clear hah2
      go_wp2_with (go_at_call 82; refine (oTime _ _).mono ?_; rintro e w' ⟨rfl, rfl⟩)
      all_goals
        go_ret
        refine ⟨?_, hb0⟩
        refine congrArg (fun b => Ending.returned (Value.bool b)) (go.out _ ?_)
        simp [*]
        try omega
end Go.Proofs.Ytejdmefiobgcdaa
