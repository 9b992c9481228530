import Derived.Test.YtejdmefiobgcdaaOutq
namespace Go.Proofs.Ytejdmefiobgcdaa
open Go.RowKit Go.Proofs
attribute [local go_sem] min2_ints min_pair

set_option maxRecDepth 100000 in
set_option maxHeartbeats 800000 in
theorem lFew (A : Option Addr) (n c : Nat) (last : Int) (w : World) (hnc : n ≤ c) (hll : n ≤ 9223372036854775807) :
    Calls Try.prog 33 #[.agg #[.int .i64 last, .slice A n c]] w fun e w' => e = .returned (.agg #[.int .i64 last, .slice A (min n 98) c]) ∧ Below w.heap.size w w' := by
  have hb0 := Below.refl w.heap.size w
  by_cases h : n ≤ 98
  · have h1 := run_head elem51 size60 A n c n hnc .i64 (n : Int) rfl
    have hm : min n 98 = n := by omega
    rw [hm]
    have hd : decide ((98 : Int) < n) = false := by simp; omega
    clear hm
    go_enter Try.func33, Try.ntmps33
    go_wp2_with fail
    go_region
    all_goals
      go_wp2_with fail
      refine bodyPost_ret (v := .agg #[.int .i64 last, .slice A n c]) (by simp [results, Try.results33, go_sem, *]) rfl ⟨rfl, ?_⟩
      ((repeat (first | with_reducible exact hb0 | with_reducible refine Below.drew ?_ | with_reducible refine Below.alloc ?_ ?_ _ | with_reducible refine Below.setCell ?_ ?_ _)); all_goals first | omega | (simp; done) | (simp; omega))
  · have h1 := run_head elem51 size60 A n c 98 (by omega) .i64 (98 : Int) rfl
    have hm : min n 98 = 98 := by omega
    rw [hm]
    have hd : decide ((98 : Int) < n) = true := by simp; omega
    clear hm
    go_enter Try.func33, Try.ntmps33
    go_wp2_with fail
    go_region
    all_goals
      go_wp2_with fail
      refine bodyPost_ret (v := .agg #[.int .i64 last, .slice A 98 c]) (by simp [results, Try.results33, go_sem, *]) rfl ⟨rfl, ?_⟩
      ((repeat (first | with_reducible exact hb0 | with_reducible refine Below.drew ?_ | with_reducible refine Below.alloc ?_ ?_ _ | with_reducible refine Below.setCell ?_ ?_ _)); all_goals first | omega | (simp; done) | (simp; omega))

theorem put1 : putS [] 0 3 7 0 = ⟨1, [⟨1, 3, 7, 0⟩], 1, 0⟩ := by decide
theorem tell1 : tellS [⟨1, 3, 7, 0⟩] 1 0 = ⟨1, [⟨1, 3, 7, 10⟩], [⟨1, 3, 7, 0⟩], 0⟩ := by decide
set_option maxRecDepth 100000 in
set_option maxHeartbeats 800000 in
theorem lAlive (w : World) : Calls Try.prog 31 #[] w fun e w' => e = .returned (.bool true) ∧ Below w.heap.size w w' := by
  have hP := fun W => sPut none [] 0 0 3 7 0 W (Rows.nil W) (by simp)
  rw [put1] at hP
  have hT := fun A c W h => sTell A [⟨1, 3, 7, 0⟩] c 1 0 W h (by simp)
  rw [tell1] at hT
  replace hP := Lib.hid hP
  replace hT := Lib.hid hT
  go_enter Try.func31, Try.ntmps31
  go_wp2_with fail
  refine (hP.out _).mono ?_
  rintro e w1 ⟨A1, c1, rfl, hr1, hb1⟩
  have hr1' := Lib.hid (hr1.below ((Below.refl _ _).alloc (Nat.le_refl _) (.cells #[.int .i64 1, .slice A1 1 c1] 53)))
  dsimp only [List.length_cons, List.length_nil, Nat.zero_add]
  have hs1 := hb1.size
  go_wp2_with fail
  refine (hT.out _ _ _ hr1'.out).mono ?_
  rintro e w2 ⟨A2, c2, A3, c3, rfl, _, hr3, hb2⟩
  dsimp only [List.length_cons, List.length_nil, Nat.zero_add]
  obtain ⟨b, of, rfl, hbl, _, hc⟩ := hr3.1.elem O.len (by omega) 0 ⟨1, 3, 7, 0⟩ rfl
  have hc2 := hc 2 _ rfl
  simp only [Nat.zero_mul, Nat.add_zero] at hc2
  clear hc
  have hb := (((hb1.alloc hs1 _)).trans (hb2.mono (by simp; omega)))
  have hs2 := hb.size
  replace hb := Lib.hid hb
  clear hb2 hr3 hr1
  go_wp2_with fail
  go_ret
  refine ⟨rfl, ?_⟩
  have hbo := hb.out
  ((repeat (first | with_reducible exact hbo | with_reducible refine Below.drew ?_ | with_reducible refine Below.alloc ?_ ?_ _ | with_reducible refine Below.setCell ?_ ?_ _)); all_goals first | omega | (simp; done) | (simp; omega))
end Go.Proofs.Ytejdmefiobgcdaa
