import Derived.Test.YtejdmefiobgcdaaProg
import Derived.Test.YtejdmefiobgcdaaBase
namespace Go.Proofs.Ytejdmefiobgcdaa
open Go.RowKit Go.Proofs

structure Par where
  no : Int
  back : Bool
  key : Int
  kind : Int
  order : Int
  yes : Bool
def Par.c (p : Par) : List Value := [.int .i64 p.no, .bool p.back, .int .i64 p.key, .int .i64 p.kind, .int .i64 p.order, .bool p.yes]
theorem Par.len (p : Par) : p.c.length = 6 := rfl

def inB (n : Int) : Bool := decide (1 ≤ n) && decide (n ≤ 1099511627776)

def mayB (back : Bool) (key kind order : Int) (yes : Bool) : Bool :=
  inB key && inB order && decide (1 ≤ kind) && decide (kind ≤ 3) && (!yes || back && kind == 3)
def Par.may (p : Par) : Bool := mayB p.back p.key p.kind p.order p.yes

set_option maxHeartbeats 400000 in
theorem number_any (n : Int) (w : World) : Calls Try.prog 125 #[.int .i64 n] w fun e w' => e = .returned (.bool (inB n)) ∧ w = w' := by
  by_cases h1 : 1 ≤ n
  · go_enter Try.func125, Try.ntmps125
    go_wp2
    go_ret
    simp [inB, *]
  · have h1 : n < 1 := by omega
    have h2 : decide (1 ≤ n) = false := by simp; omega
    go_enter Try.func125, Try.ntmps125
    go_wp2
    go_ret
    simp [inB, h2]

set_option maxHeartbeats 400000 in
theorem may_any (no : Int) (back : Bool) (key kind order : Int) (yes : Bool) (w : World) : Calls Try.prog 74 #[.agg #[.int .i64 no, .bool back, .int .i64 key, .int .i64 kind, .int .i64 order, .bool yes]] w
    fun e w' => e = .returned (.bool (mayB back key kind order yes)) ∧ Below w.heap.size w w' := by
  go_enter Try.func74, Try.ntmps74
  go_wp2_with (go_at_call 125; refine (number_any _ _).mono ?_; rintro e w' ⟨rfl, rfl⟩)
  all_goals
    go_ret
    refine ⟨?_, (Below.refl _ _).alloc (Nat.le_refl _) _⟩
    simp only [mayB]
    simp only [*]
    try simp
    try omega

-- net.Right: true
set_option maxHeartbeats 400000 in
theorem right_yes (A : Option Addr) (l : List Par) (c : Nat) (last : Int) (w : World) (ok : Nat → Prop) (hr : Reads w ok 6 A l.length (l.flatMap Par.c)) (hl : l.length ≤ 64) (h0 : 0 ≤ last) (h1 : last ≤ 1099511627776)
    (hall : ∀ p ∈ l, p.may = true ∧ 1 ≤ p.no ∧ p.no ≤ last) :
    Calls Try.prog 21 #[.agg #[.slice A l.length c, .int .i64 last]] w fun e w' => e = .returned (.bool true) ∧ Below w.heap.size w w' := by
  go_enter Try.func21, Try.ntmps21
  go_wp2
  go_loopw [2, 4, 8] (fun r p i wr => ∃ k : Nat, k ≤ l.length ∧ i = .int .i64 k ∧ Below (w.heap.size + 1) (w.alloc (.cells #[.slice A l.length c, .int .i64 last] 25)) wr) (fun _ _ i _ => l.length - (intOf i).toNat)
  case atStart => exact ⟨0, Nat.zero_le _, rfl, Below.refl _ _⟩
  case round =>
    obtain ⟨k, hk, rfl, hb⟩ := hrel
    have hb0 := below_old hb
    have hn0 := below_new hb 0
    have hn1 := below_new hb 1
    have hsz := hb.size
    simp at hn0 hn1 hsz
    by_cases hlt : k < l.length
    · obtain ⟨p, hx⟩ : ∃ p, l[k]? = some p := ⟨_, List.getElem?_eq_getElem hlt⟩
      obtain ⟨b, o, rfl, hbl, _, hc⟩ := (hr.below hb0).elem Par.len (by omega) k p hx
      obtain ⟨hp1, hp2, hp3⟩ := hall p (List.mem_of_getElem? hx)
      obtain ⟨no, back, key, kind, order, yes⟩ := p
      have hc0 := hc 0 _ rfl
      have hc1 := hc 1 _ rfl
      have hc2 := hc 2 _ rfl
      have hc3 := hc 3 _ rfl
      have hc4 := hc 4 _ rfl
      have hc5 := hc 5 _ rfl
      clear hc hx
      simp only [Par.may] at hp1 hp2 hp3
      simp only [Nat.add_zero] at hc0 hc1 hc2 hc3 hc4 hc5
      have hz1 : decide (no < 1) = false := by simp; omega
      have hz2 : decide (last < no) = false := by simp; omega
      have hsz' : w.heap.size < wr.heap.size := by omega
      go_wp2_with (go_at_call 74; refine (may_any _ _ _ _ _ _ _).mono ?_; rintro e w1 ⟨rfl, hb1⟩; rw [hp1]; obtain ⟨hk1, hf1⟩ := bcell hb1)
      go_roundw
      case rel => exact ⟨k + 1, by omega, by go_num, below_then (hb.alloc (by omega) _) (by simp; omega) hb1⟩
      case measure => simp [intOf]; omega
    · have hk' : k = l.length := by omega
      have hz0 : decide (l.length ≤ 64) = true := by simp; omega
      have hz1 : decide (0 ≤ last) = true := by simp; omega
      have hz2 : decide (last ≤ 1099511627776) = true := by simp; omega
      go_wp2_with fail
      go_ret
      refine ⟨by simp [*], hb0⟩
theorem par_one (p : Par) : ∀ u ∈ p.c, u.oneCell' = true := by
  intro u hu
  simp [Par.c] at hu
  rcases hu with rfl | rfl | rfl | rfl | rfl | rfl <;> rfl
theorem info28 : (Try.prog.info? 28).map (fun i => (i.zero, i.size, i.bytes)) = some (some (.agg #[.int .i64 0, .bool false, .int .i64 0, .int .i64 0, .int .i64 0, .bool false]), 6, 48) := by kernel_rfl

theorem size28 (w : World) : (sizeOf (Try.prog.elem 22)).run Try.prog w = .ok 6 w := by kernel_rfl
-- net.behind
set_option maxRecDepth 100000 in
set_option maxHeartbeats 400000 in
theorem behind_any (A X : Option Addr) (l m : List Par) (nl nm c d : Nat) (w : World) (ok okX : Nat → Prop) (hl : nl ≤ c) (hA : Reads w ok 6 A nl (l.flatMap Par.c)) (hX : Reads w okX 6 X nm (m.flatMap Par.c)) (h1 : nl ≤ 64) (h2 : nm ≤ 64) :
    Calls Try.prog 75 #[.slice A nl c, .slice X nm d] w fun e w' => ∃ A' c', e = .returned (.slice A' (nl + nm) c') ∧ nl + nm ≤ c' ∧
      Reads w' (fun k => ok k ∨ w.heap.size ≤ k) 6 A' (nl + nm) ((l ++ m).flatMap Par.c) ∧ Below w.heap.size w w' := by
  obtain ⟨i0, hi, hz0, hz1, hz2⟩ := info_parts info28
  go_enter Try.func75, Try.ntmps75
  go_wp2_with (at_builtin; refine wpList_append_full _ rfl (.tmp 10) (.tmp 11) 22 rfl 28 i0 _ 6 48 Try.underlying22 hi hz0 hz1 hz2 rfl (by omega) A nl (l.flatMap Par.c) ok rfl hA X nm d (m.flatMap Par.c) okX rfl hX (flat_one Par.c par_one m) (by simp only [maxLen]; omega) (by omega) ?_; intro A' c' w1 hc' hr' hg')
  go_ret
  exact ⟨A', c', rfl, hc', by rw [List.flatMap_append]; exact hr', (Below.refl _ _).grown hg' (Nat.le_refl _) (by simp)⟩

-- net.Post
set_option maxRecDepth 100000 in
set_option maxHeartbeats 800000 in
theorem post_yes (A : Option Addr) (l : List Par) (c : Nat) (last : Int) (no : Int) (back : Bool) (key kind order : Int) (yes : Bool) (w : World) (hlc : l.length ≤ c) (ok : Nat → Prop) (hr : Reads w ok 6 A l.length (l.flatMap Par.c)) (hl : l.length < 64) (h0 : 0 ≤ last) (h1 : last < 1099511627776)
    (hall : ∀ p ∈ l, p.may = true ∧ 1 ≤ p.no ∧ p.no ≤ last) (hp : mayB back key kind order yes = true) :
    Calls Try.prog 15 #[.agg #[.slice A l.length c, .int .i64 last], .agg #[.int .i64 no, .bool back, .int .i64 key, .int .i64 kind, .int .i64 order, .bool yes]] w
      fun e w' => ∃ A' c', e = .returned (.tuple #[.agg #[.slice A' (l.length + 1) c', .int .i64 (last + 1)], .int .i64 (last + 1), .int .i64 0]) ∧ l.length + 1 ≤ c' ∧
        Reads w' (fun k => ok k ∨ w.heap.size ≤ k) 6 A' (l.length + 1) ((l ++ ([⟨last + 1, back, key, kind, order, yes⟩] : List Par)).flatMap Par.c) ∧ Below w.heap.size w w' := by
  have HA := Lib.hid hall
  clear hall
  have hz0 : ((l.length : Int) == 64) = false := by simp; omega
  have hz1 : ((last : Int) == 1099511627776) = false := by simp; omega
  go_enter Try.func15, Try.ntmps15
  go_wp2_with fail
  refine (right_yes A l c last _ ok ?hr1 (by omega) h0 (by omega) HA.out).mono ?_
  case hr1 => exact hr.below ((((Below.refl _ _).alloc (Nat.le_refl _) _).alloc (by simp) _).alloc (by simp; omega) _)
  rintro e w1 ⟨rfl, hb1⟩
  have hbw := below_then ((((Below.refl _ _).alloc (Nat.le_refl _) _).alloc (by simp) _).alloc (by simp; omega) _) (by simp; omega) hb1
  have hs1 := hb1.size
  simp at hs1
  have hs1a : w.heap.size < w1.heap.size := by omega
  have hs1b : w.heap.size + 1 < w1.heap.size := by omega
  have hs1c : w.heap.size + 1 + 1 < w1.heap.size := by omega
  have ac0 : w1.cell? ⟨w.heap.size, 0, none⟩ = some (.slice A l.length c) := cell_below hb1 (by simp [go_sem, *])
  have af0 : w1.frozen? ⟨w.heap.size, 0, none⟩ = false := frozen_below hb1 (by simp; try omega) (by simp [go_sem, *])
  have ac1 : w1.cell? ⟨w.heap.size, 1, none⟩ = some (.int .i64 last) := cell_below hb1 (by simp [go_sem, *])
  have af1 : w1.frozen? ⟨w.heap.size, 1, none⟩ = false := frozen_below hb1 (by simp; try omega) (by simp [go_sem, *])
  have bc0 : w1.cell? ⟨w.heap.size + 1, 0, none⟩ = some (.int .i64 no) := cell_below hb1 (by simp [go_sem, *])
  have bf0 : w1.frozen? ⟨w.heap.size + 1, 0, none⟩ = false := frozen_below hb1 (by simp; try omega) (by simp [go_sem, *])
  have bc1 : w1.cell? ⟨w.heap.size + 1, 1, none⟩ = some (.bool back) := cell_below hb1 (by simp [go_sem, *])
  have bf1 : w1.frozen? ⟨w.heap.size + 1, 1, none⟩ = false := frozen_below hb1 (by simp; try omega) (by simp [go_sem, *])
  have bc2 : w1.cell? ⟨w.heap.size + 1, 2, none⟩ = some (.int .i64 key) := cell_below hb1 (by simp [go_sem, *])
  have bf2 : w1.frozen? ⟨w.heap.size + 1, 2, none⟩ = false := frozen_below hb1 (by simp; try omega) (by simp [go_sem, *])
  have bc3 : w1.cell? ⟨w.heap.size + 1, 3, none⟩ = some (.int .i64 kind) := cell_below hb1 (by simp [go_sem, *])
  have bf3 : w1.frozen? ⟨w.heap.size + 1, 3, none⟩ = false := frozen_below hb1 (by simp; try omega) (by simp [go_sem, *])
  have bc4 : w1.cell? ⟨w.heap.size + 1, 4, none⟩ = some (.int .i64 order) := cell_below hb1 (by simp [go_sem, *])
  have bf4 : w1.frozen? ⟨w.heap.size + 1, 4, none⟩ = false := frozen_below hb1 (by simp; try omega) (by simp [go_sem, *])
  have bc5 : w1.cell? ⟨w.heap.size + 1, 5, none⟩ = some (.bool yes) := cell_below hb1 (by simp [go_sem, *])
  have bf5 : w1.frozen? ⟨w.heap.size + 1, 5, none⟩ = false := frozen_below hb1 (by simp; try omega) (by simp [go_sem, *])
  have rc0 : w1.cell? ⟨w.heap.size + 1 + 1, 0, none⟩ = some (.slice none 0 0) := cell_below hb1 (by simp [go_sem, *])
  have rf0 : w1.frozen? ⟨w.heap.size + 1 + 1, 0, none⟩ = false := frozen_below hb1 (by simp; try omega) (by simp [go_sem, *])
  have rc1 : w1.cell? ⟨w.heap.size + 1 + 1, 1, none⟩ = some (.int .i64 0) := cell_below hb1 (by simp [go_sem, *])
  have rf1 : w1.frozen? ⟨w.heap.size + 1 + 1, 1, none⟩ = false := frozen_below hb1 (by simp; try omega) (by simp [go_sem, *])
  go_wp2_with fail
  refine (may_any _ _ _ _ _ _ _).mono ?_
  rintro e w2 ⟨rfl, hb2⟩
  rw [hp]
  have hs2 := hb2.size
  have hs2a : w.heap.size < w2.heap.size := by omega
  have hs2b : w.heap.size + 1 < w2.heap.size := by omega
  have hs2c : w.heap.size + 1 + 1 < w2.heap.size := by omega
  replace af0 := frozen_at hb2 ac0 af0
  replace ac0 := cell_below hb2 ac0
  replace af1 := frozen_at hb2 ac1 af1
  replace ac1 := cell_below hb2 ac1
  replace bf0 := frozen_at hb2 bc0 bf0
  replace bc0 := cell_below hb2 bc0
  replace bf1 := frozen_at hb2 bc1 bf1
  replace bc1 := cell_below hb2 bc1
  replace bf2 := frozen_at hb2 bc2 bf2
  replace bc2 := cell_below hb2 bc2
  replace bf3 := frozen_at hb2 bc3 bf3
  replace bc3 := cell_below hb2 bc3
  replace bf4 := frozen_at hb2 bc4 bf4
  replace bc4 := cell_below hb2 bc4
  replace bf5 := frozen_at hb2 bc5 bf5
  replace bc5 := cell_below hb2 bc5
  replace rf0 := frozen_at hb2 rc0 rf0
  replace rc0 := cell_below hb2 rc0
  replace rf1 := frozen_at hb2 rc1 rf1
  replace rc1 := cell_below hb2 rc1
  replace hbw := below_then hbw hbw.size hb2
  go_wp2_with fail
  have hbw' := (((hbw.setCell (p := ⟨w.heap.size, 1, none⟩) (by simp) (.int .i64 (last + 1))).setCell (p := ⟨w.heap.size + 1, 0, none⟩) (by simp) (.int .i64 (last + 1))).alloc (by simp; omega)
    (.cells #[.int .i64 (last + 1), .bool back, .int .i64 key, .int .i64 kind, .int .i64 order, .bool yes] 28))
  refine (behind_any A _ l [⟨last + 1, back, key, kind, order, yes⟩] l.length 1 c 1 _ _ _ hlc ((hr.lt (by omega)).below hbw') (reads_new (by simp) rfl) (by omega) (by simp)).mono ?_
  rintro e w3 ⟨A', c', rfl, hc', hr3, hb3⟩
  have hs3 := hb3.size
  simp at hs3
  replace hbw := below_then hbw' (by simp; omega) hb3
  clear hbw'
  have ac0 : w3.cell? ⟨w.heap.size, 0, none⟩ = some (.slice A l.length c) := cell_below hb3 (by simp [go_sem, *])
  have af0 : w3.frozen? ⟨w.heap.size, 0, none⟩ = false := frozen_below hb3 (by simp; try omega) (by simp [go_sem, *])
  have ac1 : w3.cell? ⟨w.heap.size, 1, none⟩ = some (.int .i64 (last + 1)) := cell_below hb3 (by simp [go_sem, *])
  have af1 : w3.frozen? ⟨w.heap.size, 1, none⟩ = false := frozen_below hb3 (by simp; try omega) (by simp [go_sem, *])
  have bc0 : w3.cell? ⟨w.heap.size + 1, 0, none⟩ = some (.int .i64 (last + 1)) := cell_below hb3 (by simp [go_sem, *])
  have bf0 : w3.frozen? ⟨w.heap.size + 1, 0, none⟩ = false := frozen_below hb3 (by simp; try omega) (by simp [go_sem, *])
  have bc1 : w3.cell? ⟨w.heap.size + 1, 1, none⟩ = some (.bool back) := cell_below hb3 (by simp [go_sem, *])
  have bf1 : w3.frozen? ⟨w.heap.size + 1, 1, none⟩ = false := frozen_below hb3 (by simp; try omega) (by simp [go_sem, *])
  have bc2 : w3.cell? ⟨w.heap.size + 1, 2, none⟩ = some (.int .i64 key) := cell_below hb3 (by simp [go_sem, *])
  have bf2 : w3.frozen? ⟨w.heap.size + 1, 2, none⟩ = false := frozen_below hb3 (by simp; try omega) (by simp [go_sem, *])
  have bc3 : w3.cell? ⟨w.heap.size + 1, 3, none⟩ = some (.int .i64 kind) := cell_below hb3 (by simp [go_sem, *])
  have bf3 : w3.frozen? ⟨w.heap.size + 1, 3, none⟩ = false := frozen_below hb3 (by simp; try omega) (by simp [go_sem, *])
  have bc4 : w3.cell? ⟨w.heap.size + 1, 4, none⟩ = some (.int .i64 order) := cell_below hb3 (by simp [go_sem, *])
  have bf4 : w3.frozen? ⟨w.heap.size + 1, 4, none⟩ = false := frozen_below hb3 (by simp; try omega) (by simp [go_sem, *])
  have bc5 : w3.cell? ⟨w.heap.size + 1, 5, none⟩ = some (.bool yes) := cell_below hb3 (by simp [go_sem, *])
  have bf5 : w3.frozen? ⟨w.heap.size + 1, 5, none⟩ = false := frozen_below hb3 (by simp; try omega) (by simp [go_sem, *])
  have rc0 : w3.cell? ⟨w.heap.size + 1 + 1, 0, none⟩ = some (.slice none 0 0) := cell_below hb3 (by simp [go_sem, *])
  have rf0 : w3.frozen? ⟨w.heap.size + 1 + 1, 0, none⟩ = false := frozen_below hb3 (by simp; try omega) (by simp [go_sem, *])
  have rc1 : w3.cell? ⟨w.heap.size + 1 + 1, 1, none⟩ = some (.int .i64 0) := cell_below hb3 (by simp [go_sem, *])
  have rf1 : w3.frozen? ⟨w.heap.size + 1 + 1, 1, none⟩ = false := frozen_below hb3 (by simp; try omega) (by simp [go_sem, *])
  go_wp2_with fail
  go_region
  all_goals
    go_wp2
    refine bodyPost_ret (v := .tuple #[.agg #[.slice A' (l.length + 1) c', .int .i64 (last + 1)], .int .i64 (last + 1), .int .i64 0]) (by simp [results, Try.results15, go_sem, *]) rfl ⟨A', c', rfl, hc', ?_, ?_⟩
    · exact ((((hr3.far (p := ⟨w.heap.size, 0, none⟩) (by simp; omega) _).far (p := ⟨w.heap.size + 1 + 1, 0, none⟩) (by simp; omega) _).far (p := ⟨w.heap.size + 1 + 1, 1, none⟩) (by simp; omega) _).drew).mono (fun k hk => hk.elim (fun h => .inl h.1) (fun h => .inr (by simp at h; omega)))
    · exact (((hbw.setCell (by simp) _).setCell (by simp; omega) _).setCell (by simp; omega) _).drew
-- net.Post: a parcel that may not be
set_option maxRecDepth 100000 in
set_option maxHeartbeats 800000 in
theorem post_bad (A : Option Addr) (l : List Par) (c : Nat) (last : Int) (no : Int) (back : Bool) (key kind order : Int) (yes : Bool) (w : World) (ok : Nat → Prop) (hr : Reads w ok 6 A l.length (l.flatMap Par.c)) (hl : l.length < 64) (h0 : 0 ≤ last) (h1 : last < 1099511627776)
    (hall : ∀ p ∈ l, p.may = true ∧ 1 ≤ p.no ∧ p.no ≤ last) (hp : mayB back key kind order yes = false) :
    Calls Try.prog 15 #[.agg #[.slice A l.length c, .int .i64 last], .agg #[.int .i64 no, .bool back, .int .i64 key, .int .i64 kind, .int .i64 order, .bool yes]] w
      fun e w' => e = .returned (.tuple #[.agg #[.slice none 0 0, .int .i64 0], .int .i64 0, .int .i64 1]) ∧ Below w.heap.size w w' := by
  have HA := Lib.hid hall
  clear hall
  go_enter Try.func15, Try.ntmps15
  go_wp2_with fail
  refine (right_yes A l c last _ ok ?hr1 (by omega) h0 (by omega) HA.out).mono ?_
  case hr1 => exact hr.below ((((Below.refl _ _).alloc (Nat.le_refl _) _).alloc (by simp) _).alloc (by simp; omega) _)
  rintro e w1 ⟨rfl, hb1⟩
  have hbw := below_then ((((Below.refl _ _).alloc (Nat.le_refl _) _).alloc (by simp) _).alloc (by simp; omega) _) (by simp; omega) hb1
  have hs1 := hb1.size
  simp at hs1
  have hs1c : w.heap.size + 1 + 1 < w1.heap.size := by omega
  have bc0 : w1.cell? ⟨w.heap.size + 1, 0, none⟩ = some (.int .i64 no) := cell_below hb1 (by simp [go_sem, *])
  have bf0 : w1.frozen? ⟨w.heap.size + 1, 0, none⟩ = false := frozen_below hb1 (by simp; try omega) (by simp [go_sem, *])
  have bc1 : w1.cell? ⟨w.heap.size + 1, 1, none⟩ = some (.bool back) := cell_below hb1 (by simp [go_sem, *])
  have bf1 : w1.frozen? ⟨w.heap.size + 1, 1, none⟩ = false := frozen_below hb1 (by simp; try omega) (by simp [go_sem, *])
  have bc2 : w1.cell? ⟨w.heap.size + 1, 2, none⟩ = some (.int .i64 key) := cell_below hb1 (by simp [go_sem, *])
  have bf2 : w1.frozen? ⟨w.heap.size + 1, 2, none⟩ = false := frozen_below hb1 (by simp; try omega) (by simp [go_sem, *])
  have bc3 : w1.cell? ⟨w.heap.size + 1, 3, none⟩ = some (.int .i64 kind) := cell_below hb1 (by simp [go_sem, *])
  have bf3 : w1.frozen? ⟨w.heap.size + 1, 3, none⟩ = false := frozen_below hb1 (by simp; try omega) (by simp [go_sem, *])
  have bc4 : w1.cell? ⟨w.heap.size + 1, 4, none⟩ = some (.int .i64 order) := cell_below hb1 (by simp [go_sem, *])
  have bf4 : w1.frozen? ⟨w.heap.size + 1, 4, none⟩ = false := frozen_below hb1 (by simp; try omega) (by simp [go_sem, *])
  have bc5 : w1.cell? ⟨w.heap.size + 1, 5, none⟩ = some (.bool yes) := cell_below hb1 (by simp [go_sem, *])
  have bf5 : w1.frozen? ⟨w.heap.size + 1, 5, none⟩ = false := frozen_below hb1 (by simp; try omega) (by simp [go_sem, *])
  have rc0 : w1.cell? ⟨w.heap.size + 1 + 1, 0, none⟩ = some (.slice none 0 0) := cell_below hb1 (by simp [go_sem, *])
  have rf0 : w1.frozen? ⟨w.heap.size + 1 + 1, 0, none⟩ = false := frozen_below hb1 (by simp; try omega) (by simp [go_sem, *])
  have rc1 : w1.cell? ⟨w.heap.size + 1 + 1, 1, none⟩ = some (.int .i64 0) := cell_below hb1 (by simp [go_sem, *])
  have rf1 : w1.frozen? ⟨w.heap.size + 1 + 1, 1, none⟩ = false := frozen_below hb1 (by simp; try omega) (by simp [go_sem, *])
  go_wp2_with fail
  refine (may_any _ _ _ _ _ _ _).mono ?_
  rintro e w2 ⟨rfl, hb2⟩
  rw [hp]
  have hs2 := hb2.size
  have hs2c : w.heap.size + 1 + 1 < w2.heap.size := by omega
  replace rf0 := frozen_at hb2 rc0 rf0
  replace rc0 := cell_below hb2 rc0
  replace rf1 := frozen_at hb2 rc1 rf1
  replace rc1 := cell_below hb2 rc1
  replace hbw := below_then hbw hbw.size hb2
  go_wp2_with fail
  refine bodyPost_ret (v := .tuple #[.agg #[.slice none 0 0, .int .i64 0], .int .i64 0, .int .i64 1]) (by simp [results, Try.results15, go_sem, *]) rfl ⟨rfl, ?_⟩
  exact (hbw.setCell (by simp; omega) _).setCell (by simp; omega) _

-- net.Take
set_option maxRecDepth 100000 in
set_option maxHeartbeats 800000 in
theorem take_yes (A : Option Addr) (l : List Par) (c : Nat) (last : Int) (i : Nat) (no : Int) (back : Bool) (key kind order : Int) (yes : Bool) (w : World) (hlc : l.length ≤ c) (ok : Nat → Prop) (hr : Reads w ok 6 A l.length (l.flatMap Par.c)) (hl : l.length ≤ 64) (h0 : 0 ≤ last) (h1 : last ≤ 1099511627776)
    (hall : ∀ p ∈ l, p.may = true ∧ 1 ≤ p.no ∧ p.no ≤ last) (hi : i < l.length) (hx : l[i]? = some ⟨no, back, key, kind, order, yes⟩) :
    Calls Try.prog 17 #[.agg #[.slice A l.length c, .int .i64 last], .int .i64 i] w
      fun e w' => ∃ A' c', e = .returned (.tuple #[.agg #[.slice A' (l.eraseIdx i).length c', .int .i64 last], .agg #[.int .i64 no, .bool back, .int .i64 key, .int .i64 kind, .int .i64 order, .bool yes], .int .i64 0]) ∧ (l.eraseIdx i).length ≤ c' ∧
        Reads w' (fun k => ok k ∨ w.heap.size ≤ k) 6 A' (l.eraseIdx i).length ((l.eraseIdx i).flatMap Par.c) ∧ Below w.heap.size w w' := by
  have HA := Lib.hid hall
  clear hall
  have hz0 : decide ((i : Int) < 0) = false := by simp
  have hz1 : decide ((l.length : Int) ≤ (i : Int)) = false := by simp; omega
  go_enter Try.func17, Try.ntmps17
  go_wp2_with fail
  refine (right_yes A l c last _ ok ?hr1 (by omega) h0 (by omega) HA.out).mono ?_
  case hr1 => exact hr.below ((((Below.refl _ _).alloc (Nat.le_refl _) _).alloc (by simp) _).alloc (by simp; omega) _)
  rintro e w1 ⟨rfl, hb1⟩
  have hbw := below_then ((((Below.refl _ _).alloc (Nat.le_refl _) _).alloc (by simp) _).alloc (by simp; omega) _) (by simp; omega) hb1
  have hs1 := hb1.size
  simp at hs1
  have hs1a : w.heap.size < w1.heap.size := by omega
  have hs1b : w.heap.size + 1 < w1.heap.size := by omega
  have hs1c : w.heap.size + 1 + 1 < w1.heap.size := by omega
  have ac0 : w1.cell? ⟨w.heap.size, 0, none⟩ = some (.slice A l.length c) := cell_below hb1 (by simp [go_sem, *])
  have af0 : w1.frozen? ⟨w.heap.size, 0, none⟩ = false := frozen_below hb1 (by simp; try omega) (by simp [go_sem, *])
  have ac1 : w1.cell? ⟨w.heap.size, 1, none⟩ = some (.int .i64 last) := cell_below hb1 (by simp [go_sem, *])
  have af1 : w1.frozen? ⟨w.heap.size, 1, none⟩ = false := frozen_below hb1 (by simp; try omega) (by simp [go_sem, *])
  have rc0 : w1.cell? ⟨w.heap.size + 1, 0, none⟩ = some (.slice none 0 0) := cell_below hb1 (by simp [go_sem, *])
  have rf0 : w1.frozen? ⟨w.heap.size + 1, 0, none⟩ = false := frozen_below hb1 (by simp; try omega) (by simp [go_sem, *])
  have rc1 : w1.cell? ⟨w.heap.size + 1, 1, none⟩ = some (.int .i64 0) := cell_below hb1 (by simp [go_sem, *])
  have rf1 : w1.frozen? ⟨w.heap.size + 1, 1, none⟩ = false := frozen_below hb1 (by simp; try omega) (by simp [go_sem, *])
  have qc0 : w1.cell? ⟨w.heap.size + 1 + 1, 0, none⟩ = some (.int .i64 0) := cell_below hb1 (by simp [go_sem, *])
  have qf0 : w1.frozen? ⟨w.heap.size + 1 + 1, 0, none⟩ = false := frozen_below hb1 (by simp; try omega) (by simp [go_sem, *])
  have qc1 : w1.cell? ⟨w.heap.size + 1 + 1, 1, none⟩ = some (.bool false) := cell_below hb1 (by simp [go_sem, *])
  have qf1 : w1.frozen? ⟨w.heap.size + 1 + 1, 1, none⟩ = false := frozen_below hb1 (by simp; try omega) (by simp [go_sem, *])
  have qc2 : w1.cell? ⟨w.heap.size + 1 + 1, 2, none⟩ = some (.int .i64 0) := cell_below hb1 (by simp [go_sem, *])
  have qf2 : w1.frozen? ⟨w.heap.size + 1 + 1, 2, none⟩ = false := frozen_below hb1 (by simp; try omega) (by simp [go_sem, *])
  have qc3 : w1.cell? ⟨w.heap.size + 1 + 1, 3, none⟩ = some (.int .i64 0) := cell_below hb1 (by simp [go_sem, *])
  have qf3 : w1.frozen? ⟨w.heap.size + 1 + 1, 3, none⟩ = false := frozen_below hb1 (by simp; try omega) (by simp [go_sem, *])
  have qc4 : w1.cell? ⟨w.heap.size + 1 + 1, 4, none⟩ = some (.int .i64 0) := cell_below hb1 (by simp [go_sem, *])
  have qf4 : w1.frozen? ⟨w.heap.size + 1 + 1, 4, none⟩ = false := frozen_below hb1 (by simp; try omega) (by simp [go_sem, *])
  have qc5 : w1.cell? ⟨w.heap.size + 1 + 1, 5, none⟩ = some (.bool false) := cell_below hb1 (by simp [go_sem, *])
  have qf5 : w1.frozen? ⟨w.heap.size + 1 + 1, 5, none⟩ = false := frozen_below hb1 (by simp; try omega) (by simp [go_sem, *])
  obtain ⟨b, o, rfl, hbl, _, hc⟩ := (hr.below hbw).elem Par.len (by omega) i _ hx
  have hc0 := hc 0 _ rfl
  have hc1 := hc 1 _ rfl
  have hc2 := hc 2 _ rfl
  have hc3 := hc 3 _ rfl
  have hc4 := hc 4 _ rfl
  have hc5 := hc 5 _ rfl
  clear hc
  simp only [Nat.add_zero] at hc0 hc1 hc2 hc3 hc4 hc5
  have HX := Lib.hid hx
  clear hx
  go_wp2_with fail
  obtain ⟨W2, hW2⟩ : ∃ W2, W2 = (w1.alloc (.cells #[.int .i64 no, .bool back, .int .i64 key, .int .i64 kind, .int .i64 order, .bool yes] 28)) := ⟨_, rfl⟩
  have hb2 : Below w1.heap.size w1 W2 := by rw [hW2]; exact (Below.refl _ _).alloc (Nat.le_refl _) _
  have hs2 : W2.heap.size = w1.heap.size + 1 := by rw [hW2]; simp
  have pc : ∀ j, W2.cell? ⟨w1.heap.size, j, none⟩ = (#[.int .i64 no, .bool back, .int .i64 key, .int .i64 kind, .int .i64 order, .bool yes] : Array Value)[j]? := fun j => by rw [hW2]; exact cell_of_row _ _ j _ 28 (0, 0) (heap_alloc_new w1 _)
  rw [← hW2]
  clear hW2
  replace af0 := frozen_at hb2 ac0 af0
  replace ac0 := cell_below hb2 ac0
  replace af1 := frozen_at hb2 ac1 af1
  replace ac1 := cell_below hb2 ac1
  replace rf0 := frozen_at hb2 rc0 rf0
  replace rc0 := cell_below hb2 rc0
  replace rf1 := frozen_at hb2 rc1 rf1
  replace rc1 := cell_below hb2 rc1
  replace qf0 := frozen_at hb2 qc0 qf0
  replace qc0 := cell_below hb2 qc0
  replace qf1 := frozen_at hb2 qc1 qf1
  replace qc1 := cell_below hb2 qc1
  replace qf2 := frozen_at hb2 qc2 qf2
  replace qc2 := cell_below hb2 qc2
  replace qf3 := frozen_at hb2 qc3 qf3
  replace qc3 := cell_below hb2 qc3
  replace qf4 := frozen_at hb2 qc4 qf4
  replace qc4 := cell_below hb2 qc4
  replace qf5 := frozen_at hb2 qc5 qf5
  replace qc5 := cell_below hb2 qc5
  clear hc0 hc1 hc2 hc3 hc4 hc5
  have hcut := fun W => run_cut (P := Try.prog) (t := 22) rfl size28 (some ⟨b, o, none⟩) l.length c (i + 1) (by omega) .i64 ((i : Int) + 1) (by omega) W
  replace hbw := below_then hbw hbw.size hb2
  have hA := ((hr.lt (by omega)).take (m := i) (by omega)).below hbw
  have hX := (hr.cutA (k := i + 1) (by omega) hlc).below hbw
  rw [flat_take Par.c 6 Par.len] at hA
  rw [flat_drop Par.c 6 Par.len] at hX
  have hcall := Lib.hid (behind_any _ _ (l.take i) (l.drop (i + 1)) i (l.length - (i + 1)) c (c - (i + 1)) W2.drew _ _ (by omega) hA.drew hX.drew (by omega) (by omega))
  clear hA hX
  have hhead := fun W => run_head (P := Try.prog) (t := 22) rfl size28 (some ⟨b, o, none⟩) l.length c i (by omega) .i64 (i : Int) rfl W
  have hwr : IntKind.i64.wrap ((i : Int) + 1) = (i : Int) + 1 := IntWalk.i64_in _ (by omega)
  refine wp_region_still_tail 9 (by kernel_rfl) (by kernel_rfl) ?_
  simp only [List.take_succ_cons, List.take_zero, List.drop_succ_cons, List.drop_zero]
  change wpStill _ _ W2.drew (fun a' => wpList _ _ _ _ a' W2.drew) _ _
  repeat still_step
  refine wpStill_nil ?_
  go_wp2_with fail
  refine hcall.out.mono ?_
  rintro e w3 ⟨A', c', rfl, hc', hr3, hb3⟩
  have hb3' : Below W2.heap.size W2 w3 := below_then (Below.refl _ _).drew (Nat.le_refl _) hb3
  replace af0 := frozen_at hb3' ac0 af0
  replace ac0 := cell_below hb3' ac0
  replace af1 := frozen_at hb3' ac1 af1
  replace ac1 := cell_below hb3' ac1
  replace rf0 := frozen_at hb3' rc0 rf0
  replace rc0 := cell_below hb3' rc0
  replace rf1 := frozen_at hb3' rc1 rf1
  replace rc1 := cell_below hb3' rc1
  replace qf0 := frozen_at hb3' qc0 qf0
  replace qc0 := cell_below hb3' qc0
  replace qf1 := frozen_at hb3' qc1 qf1
  replace qc1 := cell_below hb3' qc1
  replace qf2 := frozen_at hb3' qc2 qf2
  replace qc2 := cell_below hb3' qc2
  replace qf3 := frozen_at hb3' qc3 qf3
  replace qc3 := cell_below hb3' qc3
  replace qf4 := frozen_at hb3' qc4 qf4
  replace qc4 := cell_below hb3' qc4
  replace qf5 := frozen_at hb3' qc5 qf5
  replace qc5 := cell_below hb3' qc5
  have hsz : i + (l.length - (i + 1)) = (l.eraseIdx i).length := by rw [List.length_eraseIdx_of_lt hi]; omega
  rw [← List.eraseIdx_eq_take_drop_succ, hsz] at hr3
  rw [hsz] at hc' ⊢
  replace hbw := below_then hbw hbw.size hb3'
  have pc3 := fun j => (hb3'.cell (p := ⟨w1.heap.size, j, none⟩) (by simp; omega)).trans (pc j)
  have pc0 := pc3 0
  have pc1 := pc3 1
  have pc2 := pc3 2
  have pc4 := pc3 4
  have pc5 := pc3 5
  have pc6 := pc3 3
  clear pc pc3 hhead hcut hwr hsz
  have HS := Lib.hid hs2
  have hs3 := hb3'.size
  have hs3' : w1.heap.size < w3.heap.size := by omega
  clear hs2
  simp at pc0 pc1 pc2 pc4 pc5 pc6
  clear hb1 hb2 hb3 hcall
  go_wp2_with fail
  go_region
  all_goals
    go_wp2
    refine bodyPost_ret (v := .tuple #[.agg #[.slice A' (l.eraseIdx i).length c', .int .i64 last], .agg #[.int .i64 no, .bool back, .int .i64 key, .int .i64 kind, .int .i64 order, .bool yes], .int .i64 0]) (by simp [results, Try.results17, go_sem, *]) rfl ⟨A', c', rfl, hc', ?_, ?_⟩
    · have hs2 := HS.out
      refine Reads.mono (ok := fun k => ok k ∧ k < w.heap.size ∨ W2.drew.heap.size ≤ k) ?_ (fun k hk => hk.elim (fun h => .inl h.1) (fun h => .inr (by simp at h; omega)))
      repeat (first | with_reducible exact hr3 | with_reducible refine Reads.drew ?_ | refine Reads.far ?_ (fun k hk => by simp at hk ⊢; omega) _)
    · repeat (first | with_reducible exact hbw | with_reducible refine Below.drew ?_ | refine Below.setCell ?_ (by simp; try omega) _)
end Go.Proofs.Ytejdmefiobgcdaa
