import Derived.Test.YtejdmefiobgcdaaNet
namespace Go.Proofs.Ytejdmefiobgcdaa
open Go.RowKit Go.Proofs

-- net.Twice, there being room
set_option maxRecDepth 100000 in
set_option maxHeartbeats 800000 in
theorem twice_yes (A : Option Addr) (l : List Par) (c : Nat) (last : Int) (i : Nat) (no : Int) (back : Bool) (key kind order : Int) (yes : Bool) (w : World) (hlc : l.length ≤ c) (ok : Nat → Prop) (hr : Reads w ok 6 A l.length (l.flatMap Par.c)) (hl : l.length < 64) (h0 : 0 ≤ last) (h1 : last ≤ 1099511627776)
    (hall : ∀ p ∈ l, p.may = true ∧ 1 ≤ p.no ∧ p.no ≤ last) (hi : i < l.length) (hx : l[i]? = some ⟨no, back, key, kind, order, yes⟩) :
    Calls Try.prog 18 #[.agg #[.slice A l.length c, .int .i64 last], .int .i64 i] w
      fun e w' => ∃ A' c', e = .returned (.tuple #[.agg #[.slice A' (l.length + 1) c', .int .i64 last], .int .i64 0]) ∧ (l.length + 1) ≤ c' ∧
        Reads w' (fun k => ok k ∨ w.heap.size ≤ k) 6 A' (l.length + 1) ((l ++ ([⟨no, back, key, kind, order, yes⟩] : List Par)).flatMap Par.c) ∧ Below w.heap.size w w' := by
  have hz0 : ((l.length : Int) == 64) = false := by simp; omega
  have hcall := fun W h => Lib.hid (take_yes A l c last i no back key kind order yes W hlc ok h (by omega) h0 h1 hall hi hx)
  clear hall
  have HX := Lib.hid hx
  clear hx
  replace hcall := Lib.hid hcall
  go_enter Try.func18, Try.ntmps18
  go_wp2_with fail
  refine (hcall.out _ ?hr1).out.mono ?_
  case hr1 => exact hr.below (((Below.refl _ _).alloc (Nat.le_refl _) _).alloc (by simp) _)
  rintro e w1 ⟨A1, c1, rfl, hc1, hr1, hb1⟩
  have hbw := below_then (((Below.refl _ _).alloc (Nat.le_refl _) _).alloc (by simp) _) (by simp; omega) hb1
  have hs1 := hb1.size
  simp at hs1
  have hs1a : w.heap.size < w1.heap.size := by omega
  have hs1b : w.heap.size + 1 < w1.heap.size := by omega
  have ac0 : w1.cell? ⟨w.heap.size, 0, none⟩ = some (.slice A l.length c) := cell_below hb1 (by simp [go_sem, *])
  have af0 : w1.frozen? ⟨w.heap.size, 0, none⟩ = false := frozen_below hb1 (by simp; try omega) (by simp [go_sem, *])
  have ac1 : w1.cell? ⟨w.heap.size, 1, none⟩ = some (.int .i64 last) := cell_below hb1 (by simp [go_sem, *])
  have af1 : w1.frozen? ⟨w.heap.size, 1, none⟩ = false := frozen_below hb1 (by simp; try omega) (by simp [go_sem, *])
  have rc0 : w1.cell? ⟨w.heap.size + 1, 0, none⟩ = some (.slice none 0 0) := cell_below hb1 (by simp [go_sem, *])
  have rf0 : w1.frozen? ⟨w.heap.size + 1, 0, none⟩ = false := frozen_below hb1 (by simp; try omega) (by simp [go_sem, *])
  have rc1 : w1.cell? ⟨w.heap.size + 1, 1, none⟩ = some (.int .i64 0) := cell_below hb1 (by simp [go_sem, *])
  have rf1 : w1.frozen? ⟨w.heap.size + 1, 1, none⟩ = false := frozen_below hb1 (by simp; try omega) (by simp [go_sem, *])
  clear hr1
  go_wp2_with fail
  have hbw' := ((hbw.alloc (by omega) (.cells #[.slice A1 (l.eraseIdx i).length c1, .int .i64 last] 25)).alloc (by simp; omega) (.cells #[.int .i64 no, .bool back, .int .i64 key, .int .i64 kind, .int .i64 order, .bool yes] 28)).alloc (by simp; omega) (.cells #[.int .i64 no, .bool back, .int .i64 key, .int .i64 kind, .int .i64 order, .bool yes] 28)
  refine (behind_any A _ l [⟨no, back, key, kind, order, yes⟩] l.length 1 c 1 _ _ _ hlc ((hr.lt (by omega)).below hbw') (reads_new (by simp) rfl) (by omega) (by simp)).mono ?_
  rintro e w3 ⟨A', c', rfl, hc', hr3, hb3⟩
  have hb3' := below_then ((((Below.refl w1.heap.size w1).alloc (Nat.le_refl _) _).alloc (by simp) _).alloc (by simp; omega) _) (by simp; omega) hb3
  replace hr3 := hr3.mono (ok' := fun k => (ok k ∧ k < w.heap.size) ∨ w1.heap.size ≤ k) (fun k hk => hk.imp id (fun h => by simp at h; omega))
  replace hbw := below_then hbw (by omega) hb3'
  have hs3 := hb3'.size
  clear hbw'
  replace af0 := frozen_at hb3' ac0 af0
  replace ac0 := cell_below hb3' ac0
  replace af1 := frozen_at hb3' ac1 af1
  replace ac1 := cell_below hb3' ac1
  replace rf0 := frozen_at hb3' rc0 rf0
  replace rc0 := cell_below hb3' rc0
  replace rf1 := frozen_at hb3' rc1 rf1
  replace rc1 := cell_below hb3' rc1
  clear hb1 hb3 hb3' hs1
  have hs3a : w.heap.size < w3.heap.size := by omega
  have hs3b : w.heap.size + 1 < w3.heap.size := by omega
  go_wp2_with fail
  refine bodyPost_ret (v := .tuple #[.agg #[.slice A' (l.length + 1) c', .int .i64 last], .int .i64 0]) (by simp [results, Try.results18, go_sem, *]) rfl ⟨A', c', rfl, hc', ?_, ?_⟩
  · refine Reads.mono (ok := fun k => (ok k ∧ k < w.heap.size) ∨ w1.heap.size ≤ k) ?_ (fun k hk => hk.elim (fun h => .inl h.1) (fun h => .inr (by omega)))
    repeat (first | with_reducible exact hr3 | with_reducible refine Reads.drew ?_ | refine Reads.far ?_ (fun k hk => by simp at hk ⊢; omega) _)
  · repeat (first | with_reducible exact hbw | with_reducible refine Below.drew ?_ | refine Below.setCell ?_ (by simp; try omega) _)

-- net.Twice, no room
set_option maxRecDepth 100000 in
set_option maxHeartbeats 800000 in
theorem twice_full (A : Option Addr) (l : List Par) (c : Nat) (last : Int) (i : Nat) (no : Int) (back : Bool) (key kind order : Int) (yes : Bool) (w : World) (hlc : l.length ≤ c) (ok : Nat → Prop) (hr : Reads w ok 6 A l.length (l.flatMap Par.c)) (hl : l.length = 64) (h0 : 0 ≤ last) (h1 : last ≤ 1099511627776)
    (hall : ∀ p ∈ l, p.may = true ∧ 1 ≤ p.no ∧ p.no ≤ last) (hi : i < l.length) (hx : l[i]? = some ⟨no, back, key, kind, order, yes⟩) :
    Calls Try.prog 18 #[.agg #[.slice A l.length c, .int .i64 last], .int .i64 i] w
      fun e w' => e = .returned (.tuple #[.agg #[.slice none 0 0, .int .i64 0], .int .i64 7]) ∧ Below w.heap.size w w' := by
  have hz0 : ((l.length : Int) == 64) = true := by simp; omega
  have hcall := fun W h => Lib.hid (take_yes A l c last i no back key kind order yes W hlc ok h (by omega) h0 h1 hall hi hx)
  clear hall
  have HX := Lib.hid hx
  clear hx
  replace hcall := Lib.hid hcall
  have HL := Lib.hid hl
  clear hl
  go_enter Try.func18, Try.ntmps18
  go_wp2_with fail
  refine (hcall.out _ ?hr1).out.mono ?_
  case hr1 => exact hr.below (((Below.refl _ _).alloc (Nat.le_refl _) _).alloc (by simp) _)
  rintro e w1 ⟨A1, c1, rfl, hc1, hr1, hb1⟩
  have hbw := below_then (((Below.refl _ _).alloc (Nat.le_refl _) _).alloc (by simp) _) (by simp; omega) hb1
  have hs1 := hb1.size
  simp at hs1
  have hs1a : w.heap.size < w1.heap.size := by omega
  have hs1b : w.heap.size + 1 < w1.heap.size := by omega
  have ac0 : w1.cell? ⟨w.heap.size, 0, none⟩ = some (.slice A l.length c) := cell_below hb1 (by simp [go_sem, *])
  have af0 : w1.frozen? ⟨w.heap.size, 0, none⟩ = false := frozen_below hb1 (by simp; try omega) (by simp [go_sem, *])
  have ac1 : w1.cell? ⟨w.heap.size, 1, none⟩ = some (.int .i64 last) := cell_below hb1 (by simp [go_sem, *])
  have af1 : w1.frozen? ⟨w.heap.size, 1, none⟩ = false := frozen_below hb1 (by simp; try omega) (by simp [go_sem, *])
  have rc0 : w1.cell? ⟨w.heap.size + 1, 0, none⟩ = some (.slice none 0 0) := cell_below hb1 (by simp [go_sem, *])
  have rf0 : w1.frozen? ⟨w.heap.size + 1, 0, none⟩ = false := frozen_below hb1 (by simp; try omega) (by simp [go_sem, *])
  have rc1 : w1.cell? ⟨w.heap.size + 1, 1, none⟩ = some (.int .i64 0) := cell_below hb1 (by simp [go_sem, *])
  have rf1 : w1.frozen? ⟨w.heap.size + 1, 1, none⟩ = false := frozen_below hb1 (by simp; try omega) (by simp [go_sem, *])
  clear hr1
  go_wp2_with fail
  refine bodyPost_ret (v := .tuple #[.agg #[.slice none 0 0, .int .i64 0], .int .i64 7]) (by simp [results, Try.results18, go_sem, *]) rfl ⟨rfl, ?_⟩
  (repeat (first | with_reducible exact hbw | with_reducible refine Below.drew ?_ | refine Below.alloc ?_ (by simp; try omega) _ | refine Below.setCell ?_ (by simp; try omega) _))
end Go.Proofs.Ytejdmefiobgcdaa
