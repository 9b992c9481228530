import Derived.Test.YtejdmefiobgcdaaPackh
namespace Go.Proofs.Ytejdmefiobgcdaa
open Go.RowKit Go.Proofs

theorem rd_err : ∀ (l : List UInt8) (k x : Nat), (rd k x l).2.2 ≠ 0 → rd k x l = (0, [], (rd k x l).2.2)
  | [], k, x, _ => by rw [rd]
  | c :: t, k, x, h => by
    by_cases h9 : k < 9
    · rw [rd_cons _ _ _ _ h9] at h ⊢
      by_cases h1 : 128 ≤ c.toNat
      · rw [if_pos h1] at h ⊢
        exact rd_err t _ _ h
      · rw [if_neg h1] at h ⊢
        split
        · rfl
        · rename_i h2
          rw [if_neg h2] at h
          exact absurd rfl h
    · rw [rd, if_pos (by omega)]

-- the reference's count
set_option maxRecDepth 100000 in
set_option maxHeartbeats 800000 in
theorem refCount (l : List UInt8) (most : Int) (w : World) (hl : l.length < 100000000) : Calls Try.prog 100 #[str l, .int .i64 most] w fun e w' => e = .returned (.agg #[.int .i64 (cnt' l most).1, str (cnt' l most).2.1, .int .i64 (cnt' l most).2.2]) ∧ Below w.heap.size w w' := by
  have hr := fun W => refRead l W hl
  unfold cnt'
  have hbad := rd_err l 0 0
  generalize rd 0 0 l = p at hr hbad ⊢
  obtain ⟨n, rest, er⟩ := p
  dsimp only at hr hbad ⊢
  obtain ⟨T, hT⟩ : ∃ T : ByteArray, str rest = .string T := ⟨_, rfl⟩
  rw [hT] at hr
  replace hr := Lib.hid hr
  obtain ⟨R, hR⟩ : ∃ R, (if er ≠ 0 then ((0 : Int), ([] : List UInt8), er) else if n > most then (0, [], 3) else if n < 0 then (0, [], 5) else (n, rest, 0)) = R := ⟨_, rfl⟩
  rw [hR]
  replace hT := Lib.hid hT
  have hb0 := Below.refl w.heap.size w
  by_cases h1 : er = 0
  · subst h1
    clear hbad
    simp only [ne_eq, not_true_eq_false, if_false] at hR
    by_cases h2 : most < n
    · have h2' : decide (most < n) = true := by simp [h2]
      rw [if_pos h2] at hR
      replace hR := Lib.hid hR
      go_enter Try.func100, Try.ntmps100
      go_wp2_with fail
      refine (hr.out _).mono ?_
      rintro e w1 ⟨rfl, hb1⟩
      have hs1 := hb1.size
      rw [World.size_alloc] at hs1
      have hs1a : w.heap.size < w1.heap.size := by omega
      have hbw := below_then (hb0.alloc (Nat.le_refl _) _) (by simp) hb1
      have rc0 : w1.cell? ⟨w.heap.size, 0, none⟩ = some (.int .i64 0) := cell_below hb1 (by simp [go_sem, *])
      have rf0 : w1.frozen? ⟨w.heap.size, 0, none⟩ = false := frozen_below hb1 (by simp; try omega) (by simp [go_sem, *])
      have rc1 : w1.cell? ⟨w.heap.size, 1, none⟩ = some (.string ⟨#[]⟩) := cell_below hb1 (by simp [go_sem, *])
      have rf1 : w1.frozen? ⟨w.heap.size, 1, none⟩ = false := frozen_below hb1 (by simp; try omega) (by simp [go_sem, *])
      have rc2 : w1.cell? ⟨w.heap.size, 2, none⟩ = some (.int .i64 0) := cell_below hb1 (by simp [go_sem, *])
      have rf2 : w1.frozen? ⟨w.heap.size, 2, none⟩ = false := frozen_below hb1 (by simp; try omega) (by simp [go_sem, *])
      go_wp2_with fail
      refine bodyPost_ret (v := .agg #[.int .i64 0, .string ⟨#[]⟩, .int .i64 3]) (by simp [results, Try.results100, go_sem, *]) rfl ⟨by rw [← hR.out]; rfl, ?_⟩
      (repeat (first | with_reducible exact hbw | with_reducible refine Below.drew ?_ | refine Below.alloc ?_ (by first | omega | (simp; done) | (simp; omega)) _ | refine Below.setCell ?_ (by first | (simp; done) | (simp; omega)) _))
    · have h2' : decide (most < n) = false := by simp [h2]
      rw [if_neg h2] at hR
      by_cases h3 : n < 0
      · have h3' : decide (n < 0) = true := by simp [h3]
        rw [if_pos h3] at hR
        replace hR := Lib.hid hR
        go_enter Try.func100, Try.ntmps100
        go_wp2_with fail
        refine (hr.out _).mono ?_
        rintro e w1 ⟨rfl, hb1⟩
        have hs1 := hb1.size
        rw [World.size_alloc] at hs1
        have hs1a : w.heap.size < w1.heap.size := by omega
        have hbw := below_then (hb0.alloc (Nat.le_refl _) _) (by simp) hb1
        have rc0 : w1.cell? ⟨w.heap.size, 0, none⟩ = some (.int .i64 0) := cell_below hb1 (by simp [go_sem, *])
        have rf0 : w1.frozen? ⟨w.heap.size, 0, none⟩ = false := frozen_below hb1 (by simp; try omega) (by simp [go_sem, *])
        have rc1 : w1.cell? ⟨w.heap.size, 1, none⟩ = some (.string ⟨#[]⟩) := cell_below hb1 (by simp [go_sem, *])
        have rf1 : w1.frozen? ⟨w.heap.size, 1, none⟩ = false := frozen_below hb1 (by simp; try omega) (by simp [go_sem, *])
        have rc2 : w1.cell? ⟨w.heap.size, 2, none⟩ = some (.int .i64 0) := cell_below hb1 (by simp [go_sem, *])
        have rf2 : w1.frozen? ⟨w.heap.size, 2, none⟩ = false := frozen_below hb1 (by simp; try omega) (by simp [go_sem, *])
        go_wp2_with fail
        refine bodyPost_ret (v := .agg #[.int .i64 0, .string ⟨#[]⟩, .int .i64 5]) (by simp [results, Try.results100, go_sem, *]) rfl ⟨by rw [← hR.out]; rfl, ?_⟩
        (repeat (first | with_reducible exact hbw | with_reducible refine Below.drew ?_ | refine Below.alloc ?_ (by first | omega | (simp; done) | (simp; omega)) _ | refine Below.setCell ?_ (by first | (simp; done) | (simp; omega)) _))
      · have h3' : decide (n < 0) = false := by simp [h3]
        rw [if_neg h3] at hR
        replace hR := Lib.hid hR
        go_enter Try.func100, Try.ntmps100
        go_wp2_with fail
        refine (hr.out _).mono ?_
        rintro e w1 ⟨rfl, hb1⟩
        have hs1 := hb1.size
        rw [World.size_alloc] at hs1
        have hs1a : w.heap.size < w1.heap.size := by omega
        have hbw := below_then (hb0.alloc (Nat.le_refl _) _) (by simp) hb1
        have rc0 : w1.cell? ⟨w.heap.size, 0, none⟩ = some (.int .i64 0) := cell_below hb1 (by simp [go_sem, *])
        have rf0 : w1.frozen? ⟨w.heap.size, 0, none⟩ = false := frozen_below hb1 (by simp; try omega) (by simp [go_sem, *])
        have rc1 : w1.cell? ⟨w.heap.size, 1, none⟩ = some (.string ⟨#[]⟩) := cell_below hb1 (by simp [go_sem, *])
        have rf1 : w1.frozen? ⟨w.heap.size, 1, none⟩ = false := frozen_below hb1 (by simp; try omega) (by simp [go_sem, *])
        have rc2 : w1.cell? ⟨w.heap.size, 2, none⟩ = some (.int .i64 0) := cell_below hb1 (by simp [go_sem, *])
        have rf2 : w1.frozen? ⟨w.heap.size, 2, none⟩ = false := frozen_below hb1 (by simp; try omega) (by simp [go_sem, *])
        go_wp2_with fail
        refine bodyPost_ret (v := .agg #[.int .i64 n, .string T, .int .i64 0]) (by simp [results, Try.results100, go_sem, *]) rfl ⟨by rw [← hR.out]; dsimp only; rw [hT.out], ?_⟩
        (repeat (first | with_reducible exact hbw | with_reducible refine Below.drew ?_ | refine Below.alloc ?_ (by first | omega | (simp; done) | (simp; omega)) _ | refine Below.setCell ?_ (by first | (simp; done) | (simp; omega)) _))
  · have h1' : (er == 0) = false := by simp [h1]
    have h1'' : (er != 0) = true := by simp [h1]
    rw [if_pos h1] at hR
    replace hR := Lib.hid hR
    have hbad2 := hbad h1
    obtain ⟨rfl, e2⟩ := Prod.mk.inj hbad2
    obtain ⟨rfl, _⟩ := Prod.mk.inj e2
    clear hbad hbad2 e2 h1
    go_enter Try.func100, Try.ntmps100
    go_wp2_with fail
    refine (hr.out _).mono ?_
    rintro e w1 ⟨rfl, hb1⟩
    have hs1 := hb1.size
    rw [World.size_alloc] at hs1
    have hs1a : w.heap.size < w1.heap.size := by omega
    have hbw := below_then (hb0.alloc (Nat.le_refl _) _) (by simp) hb1
    have rc0 : w1.cell? ⟨w.heap.size, 0, none⟩ = some (.int .i64 0) := cell_below hb1 (by simp [go_sem, *])
    have rf0 : w1.frozen? ⟨w.heap.size, 0, none⟩ = false := frozen_below hb1 (by simp; try omega) (by simp [go_sem, *])
    have rc1 : w1.cell? ⟨w.heap.size, 1, none⟩ = some (.string ⟨#[]⟩) := cell_below hb1 (by simp [go_sem, *])
    have rf1 : w1.frozen? ⟨w.heap.size, 1, none⟩ = false := frozen_below hb1 (by simp; try omega) (by simp [go_sem, *])
    have rc2 : w1.cell? ⟨w.heap.size, 2, none⟩ = some (.int .i64 0) := cell_below hb1 (by simp [go_sem, *])
    have rf2 : w1.frozen? ⟨w.heap.size, 2, none⟩ = false := frozen_below hb1 (by simp; try omega) (by simp [go_sem, *])
    go_wp2_with fail
    refine bodyPost_ret (v := .agg #[.int .i64 0, .string T, .int .i64 er]) (by simp [results, Try.results100, go_sem, *]) rfl ⟨by rw [← hR.out]; dsimp only; rw [hT.out], ?_⟩
    (repeat (first | with_reducible exact hbw | with_reducible refine Below.drew ?_ | refine Below.alloc ?_ (by first | omega | (simp; done) | (simp; omega)) _ | refine Below.setCell ?_ (by first | (simp; done) | (simp; omega)) _))
end Go.Proofs.Ytejdmefiobgcdaa
