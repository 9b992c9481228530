import Derived.Test.YtejdmefiobgcdaaOutc
namespace Go.Proofs.Ytejdmefiobgcdaa
open Go.RowKit Go.Proofs

def find (l : List O) (f : O → Bool) : Option (Nat × O) := match l.findIdx? f with | none => none | some i => l[i]?.map (fun o => (i, o))
theorem find_none {l : List O} {f : O → Bool} (h : idx l f < 0) : l.findIdx? f = none := by
  unfold idx at h
  cases hf : l.findIdx? f with
  | none => rfl
  | some j => rw [hf] at h; dsimp only at h; omega
theorem find_some {l : List O} {f : O → Bool} (h : ¬ idx l f < 0) : ∃ (j : Nat) (o : O), l.findIdx? f = some j ∧ idx l f = j ∧ l[j]? = some o ∧ f o = true := by
  unfold idx at *
  cases hf : l.findIdx? f with
  | none => rw [hf] at h; dsimp only at h; omega
  | some j =>
    obtain ⟨h1, h2, _⟩ := List.findIdx?_eq_some_iff_getElem.1 hf
    exact ⟨j, l[j], rfl, rfl, List.getElem?_eq_getElem h1, h2⟩

-- outbox.Find: refused
set_option maxRecDepth 100000 in
set_option maxHeartbeats 800000 in
theorem oFind_no (A : Option Addr) (l : List O) (c : Nat) (last kind order : Int) (w : World) (ok : Nat → Prop) (hr : Reads w ok 4 A l.length (l.flatMap O.c)) (hll : l.length < 4611686018427387904) (hno : ¬ OkBox l last) :
    Calls Try.prog 34 #[.agg #[.int .i64 last, .slice A l.length c], .int .i64 kind, .int .i64 order] w
      fun e w' => e = .returned (.tuple #[.agg #[.int .i64 0, .int .i64 0, .int .i64 0, .int .i64 0], .int .i64 1]) ∧ Below w.heap.size w w' := by
  have hR := fun W (h : Below w.heap.size w W) => oRight A l c last W ok (hr.below h) hll
  rw [decide_eq_false hno] at hR
  replace hR := Lib.hid hR
  clear hr
  have hb0 := Below.refl w.heap.size w
  go_enter Try.func34, Try.ntmps34
  go_wp2_with fail
  refine (hR.out _ ((hb0.alloc (Nat.le_refl _) _).alloc (by simp) _)).mono ?_
  rintro e w1 ⟨rfl, hb1⟩
  have hs1 := hb1.size
  simp at hs1
  have hs1a : w.heap.size < w1.heap.size := by omega
  have hs1b : w.heap.size + 1 < w1.heap.size := by omega
  have hbw := below_then ((hb0.alloc (Nat.le_refl _) _).alloc (by simp) _) (by simp; omega) hb1
  have rc0 : w1.cell? ⟨w.heap.size + 1, 0, none⟩ = some (.int .i64 0) := cell_below hb1 (by simp [go_sem, *])
  have rf0 : w1.frozen? ⟨w.heap.size + 1, 0, none⟩ = false := frozen_below hb1 (by simp; try omega) (by simp [go_sem, *])
  have rc1 : w1.cell? ⟨w.heap.size + 1, 1, none⟩ = some (.int .i64 0) := cell_below hb1 (by simp [go_sem, *])
  have rf1 : w1.frozen? ⟨w.heap.size + 1, 1, none⟩ = false := frozen_below hb1 (by simp; try omega) (by simp [go_sem, *])
  have rc2 : w1.cell? ⟨w.heap.size + 1, 2, none⟩ = some (.int .i64 0) := cell_below hb1 (by simp [go_sem, *])
  have rf2 : w1.frozen? ⟨w.heap.size + 1, 2, none⟩ = false := frozen_below hb1 (by simp; try omega) (by simp [go_sem, *])
  have rc3 : w1.cell? ⟨w.heap.size + 1, 3, none⟩ = some (.int .i64 0) := cell_below hb1 (by simp [go_sem, *])
  have rf3 : w1.frozen? ⟨w.heap.size + 1, 3, none⟩ = false := frozen_below hb1 (by simp; try omega) (by simp [go_sem, *])
  go_wp2_with fail
  refine bodyPost_ret (v := .tuple #[.agg #[.int .i64 0, .int .i64 0, .int .i64 0, .int .i64 0], .int .i64 1]) (by simp [results, Try.results34, go_sem, *]) rfl ⟨rfl, ?_⟩
  ((repeat (first | with_reducible exact hbw | with_reducible refine Below.drew ?_ | with_reducible refine Below.alloc ?_ ?_ _ | with_reducible refine Below.setCell ?_ ?_ _)); all_goals first | omega | (simp; done) | (simp; omega))

-- outbox.Find
set_option maxRecDepth 100000 in
set_option maxHeartbeats 800000 in
theorem oFind (A : Option Addr) (l : List O) (c : Nat) (last kind order : Int) (w : World) (ok : Nat → Prop) (hr : Reads w ok 4 A l.length (l.flatMap O.c)) (hll : l.length < 4611686018427387904) (hyes : OkBox l last) :
    Calls Try.prog 34 #[.agg #[.int .i64 last, .slice A l.length c], .int .i64 kind, .int .i64 order] w
      fun e w' => (if idx l (sameKO kind order) < 0 then e = .returned (.tuple #[.agg #[.int .i64 0, .int .i64 0, .int .i64 0, .int .i64 0], .int .i64 8])
        else ∃ (j : Nat) (o : O), idx l (sameKO kind order) = j ∧ l[j]? = some o ∧ e = .returned (.tuple #[.agg #[.int .i64 o.key, .int .i64 o.kind, .int .i64 o.order, .int .i64 o.due], .int .i64 0])) ∧ Below w.heap.size w w' := by
  have hR := fun W (h : Below w.heap.size w W) => oRight A l c last W ok (hr.below h) hll
  rw [decide_eq_true hyes] at hR
  replace hR := Lib.hid hR
  clear hyes
  have hb0 := Below.refl w.heap.size w
  go_enter Try.func34, Try.ntmps34
  go_wp2_with fail
  refine (hR.out _ ((hb0.alloc (Nat.le_refl _) _).alloc (by simp) _)).mono ?_
  rintro e w1 ⟨rfl, hb1⟩
  have hs1 := hb1.size
  simp at hs1
  have hs1a : w.heap.size < w1.heap.size := by omega
  have hs1b : w.heap.size + 1 < w1.heap.size := by omega
  have hbw := below_then ((hb0.alloc (Nat.le_refl _) _).alloc (by simp) _) (by simp; omega) hb1
  have ac0 : w1.cell? ⟨w.heap.size, 0, none⟩ = some (.int .i64 last) := cell_below hb1 (by simp [go_sem, *])
  have af0 : w1.frozen? ⟨w.heap.size, 0, none⟩ = false := frozen_below hb1 (by simp; try omega) (by simp [go_sem, *])
  have ac1 : w1.cell? ⟨w.heap.size, 1, none⟩ = some (.slice A l.length c) := cell_below hb1 (by simp [go_sem, *])
  have af1 : w1.frozen? ⟨w.heap.size, 1, none⟩ = false := frozen_below hb1 (by simp; try omega) (by simp [go_sem, *])
  have rc0 : w1.cell? ⟨w.heap.size + 1, 0, none⟩ = some (.int .i64 0) := cell_below hb1 (by simp [go_sem, *])
  have rf0 : w1.frozen? ⟨w.heap.size + 1, 0, none⟩ = false := frozen_below hb1 (by simp; try omega) (by simp [go_sem, *])
  have rc1 : w1.cell? ⟨w.heap.size + 1, 1, none⟩ = some (.int .i64 0) := cell_below hb1 (by simp [go_sem, *])
  have rf1 : w1.frozen? ⟨w.heap.size + 1, 1, none⟩ = false := frozen_below hb1 (by simp; try omega) (by simp [go_sem, *])
  have rc2 : w1.cell? ⟨w.heap.size + 1, 2, none⟩ = some (.int .i64 0) := cell_below hb1 (by simp [go_sem, *])
  have rf2 : w1.frozen? ⟨w.heap.size + 1, 2, none⟩ = false := frozen_below hb1 (by simp; try omega) (by simp [go_sem, *])
  have rc3 : w1.cell? ⟨w.heap.size + 1, 3, none⟩ = some (.int .i64 0) := cell_below hb1 (by simp [go_sem, *])
  have rf3 : w1.frozen? ⟨w.heap.size + 1, 3, none⟩ = false := frozen_below hb1 (by simp; try omega) (by simp [go_sem, *])
  go_upto_region 3 with fail
  (try simp only [Act.put, List.setIfInBounds_toArray, List.set_cons_zero, List.set_cons_succ])
  go_cut [8] (fun v8 wc => v8 = .int .i64 (idx l (sameKO kind order)) ∧ Below w1.heap.size w1 wc)
  case first =>
    have hof := Lib.hid (fun W => ofAny kind order W)
    obtain ⟨Y, hY⟩ : ∃ Y, Y = ((w1.alloc (.cells #[.int .i64 kind] 3)).alloc (.cells #[.int .i64 order] 3)).drew := ⟨_, rfl⟩
    have hXY : Below w1.heap.size w1 Y := by rw [hY]; exact (((Below.refl _ w1).alloc (Nat.le_refl _) _).alloc (by simp) _).drew
    have hYs : w1.heap.size ≤ Y.heap.size := hXY.size
    have hY1 : Y.cell? ⟨w1.heap.size, 0, none⟩ = some (.int .i64 kind) := by rw [hY]; simp [go_sem]
    have hY2 : Y.cell? ⟨w1.heap.size + 1, 0, none⟩ = some (.int .i64 order) := by rw [hY]; simp [go_sem]
    have hw83 := Lib.hid (whereOf A l c w1.heap.size (w1.heap.size + 1) kind order Y ok (hr.below (below_then hbw hbw.size hXY)) hY1 hY2 hll)
    have hSY := Lib.hid (show Below w1.heap.size w1 Y ∧ Y.cell? ⟨w.heap.size, 1, none⟩ = some (.slice A l.length c) from ⟨hXY, cell_below hXY ac1⟩)
    have hS0 := Lib.hid (show Below w1.heap.size w1 w1.drew ∧ w1.drew.cell? ⟨w.heap.size, 1, none⟩ = some (.slice A l.length c) from ⟨(Below.refl _ w1).drew, ac1⟩)
    have hS := Lib.hid (fun W (h : Below w1.heap.size w1 W) => (show Below w1.heap.size w1 W ∧ W.cell? ⟨w.heap.size, 1, none⟩ = some (.slice A l.length c) from ⟨h, cell_below h ac1⟩))
    clear hY1 hY2
    rw [hY] at hw83 hSY
    go_region_held3 (fun W => Below w1.heap.size w1 W ∧ W.cell? ⟨w.heap.size, 1, none⟩ = some (.slice A l.length c))
      (first
        | exact hS0.out
        | exact hSY.out
        | exact hS.out _ (by assumption))
      (first
        | (go_at_call 84; refine (hof.out _).mono ?_; rintro e w2 ⟨rfl, rfl⟩)
        | (go_at_call 83; refine hw83.out.mono ?_; rintro e w3 ⟨rfl, hb3⟩; rw [← hY] at hb3; have hb4 := below_then hXY hYs hb3))
    all_goals
      go_wp2_with fail
      go_meet
      case rel => exact ⟨rfl, by assumption⟩
  case rest =>
    obtain ⟨rfl, hbc⟩ := hcut
    rename World => W2
    replace af0 := frozen_at hbc ac0 af0
    replace ac0 := cell_below hbc ac0
    replace af1 := frozen_at hbc ac1 af1
    replace ac1 := cell_below hbc ac1
    replace rf0 := frozen_at hbc rc0 rf0
    replace rc0 := cell_below hbc rc0
    replace rf1 := frozen_at hbc rc1 rf1
    replace rc1 := cell_below hbc rc1
    replace rf2 := frozen_at hbc rc2 rf2
    replace rc2 := cell_below hbc rc2
    replace rf3 := frozen_at hbc rc3 rf3
    replace rc3 := cell_below hbc rc3
    have hs2 := hbc.size
    have hs2a : w.heap.size < W2.heap.size := by omega
    have hs2b : w.heap.size + 1 < W2.heap.size := by omega
    have hbw2 := below_then hbw (by omega) hbc
    clear hb1 hbc hbw hs1
    by_cases hi : idx l (sameKO kind order) < 0
    · have hi' : decide (idx l (sameKO kind order) < 0) = true := by simp [hi]
      replace hi := Lib.hid hi
      go_wp2_with fail
      refine bodyPost_ret (v := .tuple #[.agg #[.int .i64 0, .int .i64 0, .int .i64 0, .int .i64 0], .int .i64 8]) (by simp [results, Try.results34, go_sem, *]) rfl ⟨rfl, ?_⟩
      ((repeat (first | with_reducible exact hbw2 | with_reducible refine Below.drew ?_ | with_reducible refine Below.alloc ?_ ?_ _ | with_reducible refine Below.setCell ?_ ?_ _)); all_goals first | omega | (simp; done) | (simp; omega))
    · obtain ⟨j, o, _, hj, ho, _⟩ := find_some hi
      rw [hj]
      obtain ⟨b, of, rfl, hbl, _, hc⟩ := (hr.below hbw2).elem O.len (by omega) j o ho
      have hc0 := hc 0 _ rfl
      have hc1 := hc 1 _ rfl
      have hc2 := hc 2 _ rfl
      have hc3 := hc 3 _ rfl
      clear hc
      simp only [Nat.add_zero] at hc0
      have hjl := (List.getElem?_eq_some_iff.1 ho).1
      replace hj := Lib.hid hj
      replace ho := Lib.hid ho
      go_wp2_with fail
      refine bodyPost_ret (v := .tuple #[.agg #[.int .i64 o.key, .int .i64 o.kind, .int .i64 o.order, .int .i64 o.due], .int .i64 0]) (by simp [results, Try.results34, go_sem, *]) rfl ⟨by first | exact ⟨j, o, hj.out, ho.out, rfl⟩ | exact ⟨j, hj.out, o, ho.out, rfl⟩, ?_⟩
      ((repeat (first | with_reducible exact hbw2 | with_reducible refine Below.drew ?_ | with_reducible refine Below.alloc ?_ ?_ _ | with_reducible refine Below.setCell ?_ ?_ _)); all_goals first | omega | (simp; done) | (simp; omega))
end Go.Proofs.Ytejdmefiobgcdaa
