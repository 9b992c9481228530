import Derived.Test.YtejdmefiobgcdaaNetb
import Derived.Test.YtejdmefiobgcdaaNetc
namespace Go.Proofs.Ytejdmefiobgcdaa
open Go.RowKit Go.Proofs

set_option maxHeartbeats 400000 in
theorem in_any (n : Int) (w : World) : Calls Try.prog 76 #[.int .i64 n] w fun e w' => e = .returned (.bool (inB n)) ∧ w = w' := by
  by_cases h1 : 1 ≤ n
  · go_enter Try.func76, Try.ntmps76
    go_wp2
    go_ret
    simp [inB, *]
  · have h1 : n < 1 := by omega
    have h2 : decide (1 ≤ n) = false := by simp; omega
    go_enter Try.func76, Try.ntmps76
    go_wp2
    go_ret
    simp [inB, h2]

-- the law's own may
set_option maxHeartbeats 800000 in
theorem lmay_any (no : Int) (back : Bool) (key kind order : Int) (yes : Bool) (w : World) : Calls Try.prog 16 #[.agg #[.int .i64 no, .bool back, .int .i64 key, .int .i64 kind, .int .i64 order, .bool yes]] w
    fun e w' => e = .returned (.bool (mayB back key kind order yes)) ∧ Below w.heap.size w w' := by
  by_cases hk : kind = 3
  · have hk0 : (kind == 3) = true := by simp [hk]
    have hk1 : (kind != 3) = false := by simp [hk]
    have hk2 : 1 ≤ kind := by omega
    have hk3 : kind ≤ 3 := by omega
    clear hk
    cases yes <;> cases back
    all_goals
      go_enter Try.func16, Try.ntmps16
      go_wp2_with (go_at_call 76; refine (in_any _ _).mono ?_; rintro e w' ⟨rfl, rfl⟩)
      all_goals
        go_ret
        refine ⟨?_, (Below.refl _ _).alloc (Nat.le_refl _) _⟩
        simp only [mayB]
        simp only [*]
        try simp
        try omega
  · have hk0 : (kind == 3) = false := by simp [hk]
    have hk1 : (kind != 3) = true := by simp [hk]
    clear hk
    cases yes <;> cases back
    all_goals
      go_enter Try.func16, Try.ntmps16
      go_wp2_with (go_at_call 76; refine (in_any _ _).mono ?_; rintro e w' ⟨rfl, rfl⟩)
      all_goals
        go_ret
        refine ⟨?_, (Below.refl _ _).alloc (Nat.le_refl _) _⟩
        simp only [mayB]
        simp only [*]
        try simp
        try omega

-- alive
theorem reads_nil (w : World) (ok : Nat → Prop) : Reads w ok 6 none ([] : List Par).length (([] : List Par).flatMap Par.c) := ⟨rfl, fun h => absurd h (by simp)⟩
set_option maxRecDepth 100000 in
set_option maxHeartbeats 800000 in
theorem alive15 (w : World) : Calls Try.prog 20 #[] w fun e w' => e = .returned (.bool true) ∧ Below w.heap.size w w' := by
  go_enter Try.func20, Try.ntmps20
  go_wp2_with fail
  refine (post_yes none [] 0 0 0 false 5 1 7 false _ (Nat.le_refl _) (fun _ => True) (reads_nil _ _) (by simp) (by omega) (by omega) (by simp) rfl).mono ?_
  rintro e w1 ⟨A1, c1, rfl, hc1, hr1, hb1⟩
  have hs1 := hb1.size
  go_wp2_with fail
  have hb2 : Below w1.heap.size w1 (w1.alloc (.cells #[.slice A1 1 c1, .int .i64 1] 25)) := (Below.refl _ _).alloc (Nat.le_refl _) _
  refine (take_yes A1 [⟨1, false, 5, 1, 7, false⟩] c1 1 0 1 false 5 1 7 false _ hc1 _ (hr1.below hb2) (by simp) (by omega) (by omega) (by simp [Par.may, mayB, inB]) (by simp) rfl).mono ?_
  rintro e w2 ⟨A2, c2, rfl, hc2, hr2, hb3⟩
  have hs2 := hb3.size
  simp at hs2
  go_wp2_with fail
  go_ret
  have hb4 := below_then (hb1.alloc hs1 (.cells #[.slice A1 1 c1, .int .i64 1] 25)) (by simp; omega) hb3
  refine ⟨rfl, ?_⟩
  (repeat (first | with_reducible exact hb4 | with_reducible refine Below.drew ?_ | refine Below.alloc ?_ (by first | omega | (simp; done) | (simp; omega)) _ | refine Below.setCell ?_ (by first | (simp; done) | (simp; omega)) _))
end Go.Proofs.Ytejdmefiobgcdaa
