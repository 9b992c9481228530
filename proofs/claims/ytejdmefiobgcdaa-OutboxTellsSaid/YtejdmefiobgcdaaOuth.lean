import Derived.Test.YtejdmefiobgcdaaOutg
namespace Go.Proofs.Ytejdmefiobgcdaa
open Go.RowKit Go.Proofs

-- outbox.Done: refused
set_option maxRecDepth 100000 in
set_option maxHeartbeats 1600000 in
theorem oDone_no (A : Option Addr) (l : List O) (c : Nat) (last key : Int) (w : World) (ok : Nat → Prop) (hr : Reads w ok 4 A l.length (l.flatMap O.c)) (hll : l.length < 4611686018427387904) (hno : ¬ OkBox l last) :
    Calls Try.prog 28 #[.agg #[.int .i64 last, .slice A l.length c], .int .i64 key] w
      fun e w' => e = .returned (.tuple #[.agg #[.int .i64 0, .slice none 0 0], .agg #[.int .i64 0, .int .i64 0, .int .i64 0, .int .i64 0], .int .i64 1]) ∧ Below w.heap.size w w' := by
  have hR := fun W (h : Below w.heap.size w W) => oRight A l c last W ok (hr.below h) hll
  rw [decide_eq_false hno] at hR
  replace hR := Lib.hid hR
  clear hr
  have hb0 := Below.refl w.heap.size w
  go_enter Try.func28, Try.ntmps28
  go_wp2_with fail
  refine (hR.out _ ((((hb0.alloc (Nat.le_refl _) _).alloc (by simp) _).alloc (by simp; omega) _).alloc (by simp; omega) _)).mono ?_
  rintro e w1 ⟨rfl, hb1⟩
  have hs1 := hb1.size
  simp at hs1
  have hs1a : w.heap.size < w1.heap.size := by omega
  have hs1b : w.heap.size + 1 < w1.heap.size := by omega
  have hs1c : w.heap.size + 1 + 1 < w1.heap.size := by omega
  have hs1d : w.heap.size + 1 + 1 + 1 < w1.heap.size := by omega
  have hbw := below_then ((((hb0.alloc (Nat.le_refl _) _).alloc (by simp) _).alloc (by simp; omega) _).alloc (by simp; omega) _) (by simp; omega) hb1
  have rc0 : w1.cell? ⟨w.heap.size + 1 + 1, 0, none⟩ = some (.int .i64 0) := cell_below hb1 (by simp [go_sem, *])
  have rf0 : w1.frozen? ⟨w.heap.size + 1 + 1, 0, none⟩ = false := frozen_below hb1 (by simp; try omega) (by simp [go_sem, *])
  have rc1 : w1.cell? ⟨w.heap.size + 1 + 1, 1, none⟩ = some (.slice none 0 0) := cell_below hb1 (by simp [go_sem, *])
  have rf1 : w1.frozen? ⟨w.heap.size + 1 + 1, 1, none⟩ = false := frozen_below hb1 (by simp; try omega) (by simp [go_sem, *])
  have qc0 : w1.cell? ⟨w.heap.size + 1 + 1 + 1, 0, none⟩ = some (.int .i64 0) := cell_below hb1 (by simp [go_sem, *])
  have qf0 : w1.frozen? ⟨w.heap.size + 1 + 1 + 1, 0, none⟩ = false := frozen_below hb1 (by simp; try omega) (by simp [go_sem, *])
  have qc1 : w1.cell? ⟨w.heap.size + 1 + 1 + 1, 1, none⟩ = some (.int .i64 0) := cell_below hb1 (by simp [go_sem, *])
  have qf1 : w1.frozen? ⟨w.heap.size + 1 + 1 + 1, 1, none⟩ = false := frozen_below hb1 (by simp; try omega) (by simp [go_sem, *])
  have qc2 : w1.cell? ⟨w.heap.size + 1 + 1 + 1, 2, none⟩ = some (.int .i64 0) := cell_below hb1 (by simp [go_sem, *])
  have qf2 : w1.frozen? ⟨w.heap.size + 1 + 1 + 1, 2, none⟩ = false := frozen_below hb1 (by simp; try omega) (by simp [go_sem, *])
  have qc3 : w1.cell? ⟨w.heap.size + 1 + 1 + 1, 3, none⟩ = some (.int .i64 0) := cell_below hb1 (by simp [go_sem, *])
  have qf3 : w1.frozen? ⟨w.heap.size + 1 + 1 + 1, 3, none⟩ = false := frozen_below hb1 (by simp; try omega) (by simp [go_sem, *])
  go_wp2_with fail
  refine bodyPost_ret (v := .tuple #[.agg #[.int .i64 0, .slice none 0 0], .agg #[.int .i64 0, .int .i64 0, .int .i64 0, .int .i64 0], .int .i64 1]) (by simp [results, Try.results28, go_sem, *]) rfl ⟨rfl, ?_⟩
  ((repeat (first | with_reducible exact hbw | with_reducible refine Below.drew ?_ | with_reducible refine Below.alloc ?_ ?_ _ | with_reducible refine Below.setCell ?_ ?_ _)); all_goals first | omega | (simp; done) | (simp; omega))

-- outbox.Done
def DonePost (l : List O) (last key : Int) (w : World) (e : Ending) (w' : World) : Prop :=
  (if idx l (sameKey key) < 0 then e = .returned (.tuple #[.agg #[.int .i64 0, .slice none 0 0], .agg #[.int .i64 0, .int .i64 0, .int .i64 0, .int .i64 0], .int .i64 8])
    else ∃ (j : Nat) (o : O) (A' : Option Addr) (c' : Nat), idx l (sameKey key) = j ∧ l[j]? = some o ∧ e = .returned (.tuple #[.agg #[.int .i64 last, .slice A' (l.length - 1) c'], .agg #[.int .i64 o.key, .int .i64 o.kind, .int .i64 o.order, .int .i64 o.due], .int .i64 0]) ∧ l.length - 1 ≤ c' ∧
      Reads w' (fun k => w.heap.size ≤ k) 4 A' (l.length - 1) ((l.eraseIdx j).flatMap O.c)) ∧ Below w.heap.size w w'
set_option maxRecDepth 100000 in
set_option maxHeartbeats 1600000 in
theorem oDone (A : Option Addr) (l : List O) (c : Nat) (last key : Int) (w : World) (ok : Nat → Prop) (hr : Reads w ok 4 A l.length (l.flatMap O.c)) (hlc : l.length ≤ c) (hyes : OkBox l last) :
    Calls Try.prog 28 #[.agg #[.int .i64 last, .slice A l.length c], .int .i64 key] w (DonePost l last key w) := by
  have hl96 := hyes.2.2.1
  have hR := fun W (h : Below w.heap.size w W) => oRight A l c last W ok (hr.below h) (by omega)
  rw [decide_eq_true hyes] at hR
  replace hR := Lib.hid hR
  clear hyes
  have hb0 := Below.refl w.heap.size w
  go_enter Try.func28, Try.ntmps28
  go_wp2_with fail
  refine (hR.out _ ((((hb0.alloc (Nat.le_refl _) _).alloc (by simp) _).alloc (by simp; omega) _).alloc (by simp; omega) _)).mono ?_
  rintro e w1 ⟨rfl, hb1⟩
  have hs1 := hb1.size
  simp at hs1
  have hs1a : w.heap.size < w1.heap.size := by omega
  have hs1b : w.heap.size + 1 < w1.heap.size := by omega
  have hs1c : w.heap.size + 1 + 1 < w1.heap.size := by omega
  have hs1d : w.heap.size + 1 + 1 + 1 < w1.heap.size := by omega
  have hbw := below_then ((((hb0.alloc (Nat.le_refl _) _).alloc (by simp) _).alloc (by simp; omega) _).alloc (by simp; omega) _) (by simp; omega) hb1
  have ac0 : w1.cell? ⟨w.heap.size, 0, none⟩ = some (.int .i64 last) := cell_below hb1 (by simp [go_sem, *])
  have af0 : w1.frozen? ⟨w.heap.size, 0, none⟩ = false := frozen_below hb1 (by simp; try omega) (by simp [go_sem, *])
  have ac1 : w1.cell? ⟨w.heap.size, 1, none⟩ = some (.slice A l.length c) := cell_below hb1 (by simp [go_sem, *])
  have af1 : w1.frozen? ⟨w.heap.size, 1, none⟩ = false := frozen_below hb1 (by simp; try omega) (by simp [go_sem, *])
  have kc0 : w1.cell? ⟨w.heap.size + 1, 0, none⟩ = some (.int .i64 key) := cell_below hb1 (by simp [go_sem, *])
  have kf0 : w1.frozen? ⟨w.heap.size + 1, 0, none⟩ = false := frozen_below hb1 (by simp; try omega) (by simp [go_sem, *])
  have rc0 : w1.cell? ⟨w.heap.size + 1 + 1, 0, none⟩ = some (.int .i64 0) := cell_below hb1 (by simp [go_sem, *])
  have rf0 : w1.frozen? ⟨w.heap.size + 1 + 1, 0, none⟩ = false := frozen_below hb1 (by simp; try omega) (by simp [go_sem, *])
  have rc1 : w1.cell? ⟨w.heap.size + 1 + 1, 1, none⟩ = some (.slice none 0 0) := cell_below hb1 (by simp [go_sem, *])
  have rf1 : w1.frozen? ⟨w.heap.size + 1 + 1, 1, none⟩ = false := frozen_below hb1 (by simp; try omega) (by simp [go_sem, *])
  have qc0 : w1.cell? ⟨w.heap.size + 1 + 1 + 1, 0, none⟩ = some (.int .i64 0) := cell_below hb1 (by simp [go_sem, *])
  have qf0 : w1.frozen? ⟨w.heap.size + 1 + 1 + 1, 0, none⟩ = false := frozen_below hb1 (by simp; try omega) (by simp [go_sem, *])
  have qc1 : w1.cell? ⟨w.heap.size + 1 + 1 + 1, 1, none⟩ = some (.int .i64 0) := cell_below hb1 (by simp [go_sem, *])
  have qf1 : w1.frozen? ⟨w.heap.size + 1 + 1 + 1, 1, none⟩ = false := frozen_below hb1 (by simp; try omega) (by simp [go_sem, *])
  have qc2 : w1.cell? ⟨w.heap.size + 1 + 1 + 1, 2, none⟩ = some (.int .i64 0) := cell_below hb1 (by simp [go_sem, *])
  have qf2 : w1.frozen? ⟨w.heap.size + 1 + 1 + 1, 2, none⟩ = false := frozen_below hb1 (by simp; try omega) (by simp [go_sem, *])
  have qc3 : w1.cell? ⟨w.heap.size + 1 + 1 + 1, 3, none⟩ = some (.int .i64 0) := cell_below hb1 (by simp [go_sem, *])
  have qf3 : w1.frozen? ⟨w.heap.size + 1 + 1 + 1, 3, none⟩ = false := frozen_below hb1 (by simp; try omega) (by simp [go_sem, *])
  go_wp2_with fail
  refine (whereDone A l c (w.heap.size + 1) key w1 ok (hr.below hbw) kc0 (by omega)).mono ?_
  rintro e w2 ⟨rfl, hb2⟩
  replace af0 := frozen_at hb2 ac0 af0
  replace ac0 := cell_below hb2 ac0
  replace af1 := frozen_at hb2 ac1 af1
  replace ac1 := cell_below hb2 ac1
  replace kf0 := frozen_at hb2 kc0 kf0
  replace kc0 := cell_below hb2 kc0
  replace rf0 := frozen_at hb2 rc0 rf0
  replace rc0 := cell_below hb2 rc0
  replace rf1 := frozen_at hb2 rc1 rf1
  replace rc1 := cell_below hb2 rc1
  replace qf0 := frozen_at hb2 qc0 qf0
  replace qc0 := cell_below hb2 qc0
  replace qf1 := frozen_at hb2 qc1 qf1
  replace qc1 := cell_below hb2 qc1
  replace qf2 := frozen_at hb2 qc2 qf2
  replace qc2 := cell_below hb2 qc2
  replace qf3 := frozen_at hb2 qc3 qf3
  replace qc3 := cell_below hb2 qc3
  have hs2 := hb2.size
  have hs2a : w.heap.size < w2.heap.size := by omega
  have hs2b : w.heap.size + 1 < w2.heap.size := by omega
  have hs2c : w.heap.size + 1 + 1 < w2.heap.size := by omega
  have hs2d : w.heap.size + 1 + 1 + 1 < w2.heap.size := by omega
  have hbw2 := below_then hbw (by omega) hb2
  clear hb1 hb2 hbw hs1
  by_cases hi : idx l (sameKey key) < 0
  · have hi' : decide (idx l (sameKey key) < 0) = true := by simp [hi]
    replace hi := Lib.hid hi
    go_wp2_with fail
    refine bodyPost_ret (v := .tuple #[.agg #[.int .i64 0, .slice none 0 0], .agg #[.int .i64 0, .int .i64 0, .int .i64 0, .int .i64 0], .int .i64 8]) (by simp [results, Try.results28, go_sem, *]) rfl ⟨by rw [if_pos hi.out], ?_⟩
    ((repeat (first | with_reducible exact hbw2 | with_reducible refine Below.drew ?_ | with_reducible refine Below.alloc ?_ ?_ _ | with_reducible refine Below.setCell ?_ ?_ _)); all_goals first | omega | (simp; done) | (simp; omega))
  · obtain ⟨j, o, _, hj, ho, _⟩ := find_some hi
    rw [hj]
    obtain ⟨b, of, rfl, hbl, _, hc⟩ := (hr.below hbw2).elem O.len (by omega) j o ho
    have hc0 := hc 0 _ rfl
    have hc1 := hc 1 _ rfl
    have hc2 := hc 2 _ rfl
    have hc3 := hc 3 _ rfl
    clear hc
    simp only [Nat.add_zero] at hc0
    have hjl := (List.getElem?_eq_some_iff.1 ho).1
    replace hj := Lib.hid hj
    replace ho := Lib.hid ho
    have hrX := Lib.hid (hr.below hbw2)
    go_wp2_with fail
    have hbs : Below w2.heap.size w2 (w2.alloc (.cells #[.int .i64 o.key, .int .i64 o.kind, .int .i64 o.order, .int .i64 o.due] 60)) := (Below.refl _ _).alloc (Nat.le_refl _) _
    refine (oClone (some ⟨b, of, none⟩) l c _ ok (hrX.out.alloc _) hlc (by omega)).mono ?_
    rintro e w3 ⟨A3, c3, rfl, hlc3, hown3, hb3⟩
    obtain ⟨g, cap, hv, hg1, hg2⟩ := hown3.form (by omega)
    injection hv with hv1 hv2 hv3
    subst hv1 hv3
    simp at hg1
    have sc0 : w3.cell? ⟨w2.heap.size, 0, none⟩ = some (.int .i64 o.key) := cell_below hb3 (by simp [go_sem, *])
    have sf0 : w3.frozen? ⟨w2.heap.size, 0, none⟩ = false := frozen_below hb3 (by simp; try omega) (by simp [go_sem, *])
    have sc1 : w3.cell? ⟨w2.heap.size, 1, none⟩ = some (.int .i64 o.kind) := cell_below hb3 (by simp [go_sem, *])
    have sf1 : w3.frozen? ⟨w2.heap.size, 1, none⟩ = false := frozen_below hb3 (by simp; try omega) (by simp [go_sem, *])
    have sc2 : w3.cell? ⟨w2.heap.size, 2, none⟩ = some (.int .i64 o.order) := cell_below hb3 (by simp [go_sem, *])
    have sf2 : w3.frozen? ⟨w2.heap.size, 2, none⟩ = false := frozen_below hb3 (by simp; try omega) (by simp [go_sem, *])
    have sc3 : w3.cell? ⟨w2.heap.size, 3, none⟩ = some (.int .i64 o.due) := cell_below hb3 (by simp [go_sem, *])
    have sf3 : w3.frozen? ⟨w2.heap.size, 3, none⟩ = false := frozen_below hb3 (by simp; try omega) (by simp [go_sem, *])
    have hb23 := below_then hbs (by simp) hb3
    replace af0 := frozen_at hb23 ac0 af0
    replace ac0 := cell_below hb23 ac0
    replace af1 := frozen_at hb23 ac1 af1
    replace ac1 := cell_below hb23 ac1
    replace rf0 := frozen_at hb23 rc0 rf0
    replace rc0 := cell_below hb23 rc0
    replace rf1 := frozen_at hb23 rc1 rf1
    replace rc1 := cell_below hb23 rc1
    replace qf0 := frozen_at hb23 qc0 qf0
    replace qc0 := cell_below hb23 qc0
    replace qf1 := frozen_at hb23 qc1 qf1
    replace qc1 := cell_below hb23 qc1
    replace qf2 := frozen_at hb23 qc2 qf2
    replace qc2 := cell_below hb23 qc2
    replace qf3 := frozen_at hb23 qc3 qf3
    replace qc3 := cell_below hb23 qc3
    have hs3 := hb3.size
    simp at hs3
    have hbw3 := below_then hbw2 (by omega) hb23
    have hnj : l.length = j + 1 + (l.length - (j + 1)) := by omega
    replace hnj := Lib.hid hnj
    replace hown3 := Lib.hid hown3
    clear hb3 hb23 hbs hc0 hc1 hc2 hc3
    go_wp2_with fail
    refine (oDelete g j (l.length - (j + 1)) l.length (l.length - 1) c3 l w3 _ hown3.out hnj.out (by omega) (by omega) rfl).mono ?_
    rintro e w4 ⟨rfl, hr4, hb4⟩
    replace af0 := (Below.frozen hb4 (by dsimp only; omega)).trans af0
    replace ac0 := (Below.cell hb4 (by dsimp only; omega)).trans ac0
    replace af1 := (Below.frozen hb4 (by dsimp only; omega)).trans af1
    replace ac1 := (Below.cell hb4 (by dsimp only; omega)).trans ac1
    replace rf0 := (Below.frozen hb4 (by dsimp only; omega)).trans rf0
    replace rc0 := (Below.cell hb4 (by dsimp only; omega)).trans rc0
    replace rf1 := (Below.frozen hb4 (by dsimp only; omega)).trans rf1
    replace rc1 := (Below.cell hb4 (by dsimp only; omega)).trans rc1
    replace qf0 := (Below.frozen hb4 (by dsimp only; omega)).trans qf0
    replace qc0 := (Below.cell hb4 (by dsimp only; omega)).trans qc0
    replace qf1 := (Below.frozen hb4 (by dsimp only; omega)).trans qf1
    replace qc1 := (Below.cell hb4 (by dsimp only; omega)).trans qc1
    replace qf2 := (Below.frozen hb4 (by dsimp only; omega)).trans qf2
    replace qc2 := (Below.cell hb4 (by dsimp only; omega)).trans qc2
    replace qf3 := (Below.frozen hb4 (by dsimp only; omega)).trans qf3
    replace qc3 := (Below.cell hb4 (by dsimp only; omega)).trans qc3
    replace sf0 := (Below.frozen hb4 (by dsimp only; omega)).trans sf0
    replace sc0 := (Below.cell hb4 (by dsimp only; omega)).trans sc0
    replace sf1 := (Below.frozen hb4 (by dsimp only; omega)).trans sf1
    replace sc1 := (Below.cell hb4 (by dsimp only; omega)).trans sc1
    replace sf2 := (Below.frozen hb4 (by dsimp only; omega)).trans sf2
    replace sc2 := (Below.cell hb4 (by dsimp only; omega)).trans sc2
    replace sf3 := (Below.frozen hb4 (by dsimp only; omega)).trans sf3
    replace sc3 := (Below.cell hb4 (by dsimp only; omega)).trans sc3
    have hs4 := hb4.size
    have hs4a : w.heap.size < w4.heap.size := by omega
    have hs4b : w.heap.size + 1 < w4.heap.size := by omega
    have hs4c : w.heap.size + 1 + 1 < w4.heap.size := by omega
    have hs4d : w.heap.size + 1 + 1 + 1 < w4.heap.size := by omega
    have hs4s : w2.heap.size < w4.heap.size := by omega
    have hne1 : w.heap.size ≠ w2.heap.size := by omega
    have hne2 : w2.heap.size ≠ w.heap.size + 1 + 1 := by omega
    have hne3 : w2.heap.size ≠ w.heap.size + 1 + 1 + 1 := by omega
    have hne4 : w2.heap.size ≠ w.heap.size := by omega
    have hgw : ∀ k, k = g → k ≠ w.heap.size ∧ k ≠ w.heap.size + 1 + 1 ∧ k ≠ w.heap.size + 1 + 1 + 1 ∧ w.heap.size ≤ k := by omega
    replace hgw := Lib.hid hgw
    have hbw4 := hbw3.trans (hb4.mono (by omega))
    replace hr4 := Lib.hid hr4
    clear hb4 hnj hown3 hR hr hrX
    go_wp2_with fail
    go_region
    all_goals
      go_wp2_with fail
      refine bodyPost_ret (v := .tuple #[.agg #[.int .i64 last, .slice (some ⟨g, 0, none⟩) (l.length - 1) c3], .agg #[.int .i64 o.key, .int .i64 o.kind, .int .i64 o.order, .int .i64 o.due], .int .i64 0]) (by simp [results, Try.results28, go_sem, *]) rfl ⟨?_, ?_⟩
      · rw [if_neg (by omega)]
        refine ⟨j, o, _, _, hj.out, ho.out, rfl, by omega, ?_⟩
        refine Reads.mono (ok := fun k => k = g) ?_ (fun k hk => (hgw.out k hk).2.2.2)
        repeat (first | with_reducible exact hr4.out | with_reducible refine Reads.drew ?_ | with_reducible refine Reads.far ?_ ?_ _)
        all_goals (intro k hk; have := hgw.out k hk; dsimp only; omega)
      · ((repeat (first | with_reducible exact hbw4 | with_reducible refine Below.drew ?_ | with_reducible refine Below.alloc ?_ ?_ _ | with_reducible refine Below.setCell ?_ ?_ _)); all_goals first | omega | (simp; done) | (simp; omega))
end Go.Proofs.Ytejdmefiobgcdaa
