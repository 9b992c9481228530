import Derived.Test.YtejdmefiobgcdaaOutd
namespace Go.Proofs.Ytejdmefiobgcdaa
open Go.RowKit Go.Proofs

def okPut (l : List O) (last kind order now : Int) : Bool := decide (OkBox l last) && knd kind && num order && tim now

-- outbox.Put: refused
set_option maxRecDepth 100000 in
set_option maxHeartbeats 1600000 in
theorem oPut_no (A : Option Addr) (l : List O) (c : Nat) (last kind order now : Int) (w : World) (ok : Nat → Prop) (hr : Reads w ok 4 A l.length (l.flatMap O.c)) (hll : l.length < 4611686018427387904) (hno : okPut l last kind order now = false) :
    Calls Try.prog 27 #[.agg #[.int .i64 last, .slice A l.length c], .int .i64 kind, .int .i64 order, .int .i64 now] w
      fun e w' => e = .returned (.tuple #[.agg #[.int .i64 0, .slice none 0 0], .int .i64 0, .int .i64 1]) ∧ Below w.heap.size w w' := by
  have hR := Lib.hid (fun W (h : Below w.heap.size w W) => oRight A l c last W ok (hr.below h) hll)
  have hno' : (decide (OkBox l last) && knd kind && num order && tim now) = false := hno
  generalize decide (OkBox l last) = B at hR hno'
  replace hno' := Lib.hid hno'
  clear hr hno
  have hb0 := Below.refl w.heap.size w
  go_enter Try.func27, Try.ntmps27
  go_wp2_with fail
  refine (hR.out _ ((hb0.alloc (Nat.le_refl _) _).alloc (by simp) _)).mono ?_
  rintro e w1 ⟨rfl, hb1⟩
  have hs1 := hb1.size
  simp at hs1
  have hs1a : w.heap.size < w1.heap.size := by omega
  have hs1b : w.heap.size + 1 < w1.heap.size := by omega
  have hbw := below_then ((hb0.alloc (Nat.le_refl _) _).alloc (by simp) _) (by simp; omega) hb1
  have ac0 : w1.cell? ⟨w.heap.size, 0, none⟩ = some (.int .i64 last) := cell_below hb1 (by simp [go_sem, *])
  have af0 : w1.frozen? ⟨w.heap.size, 0, none⟩ = false := frozen_below hb1 (by simp; try omega) (by simp [go_sem, *])
  have ac1 : w1.cell? ⟨w.heap.size, 1, none⟩ = some (.slice A l.length c) := cell_below hb1 (by simp [go_sem, *])
  have af1 : w1.frozen? ⟨w.heap.size, 1, none⟩ = false := frozen_below hb1 (by simp; try omega) (by simp [go_sem, *])
  have rc0 : w1.cell? ⟨w.heap.size + 1, 0, none⟩ = some (.int .i64 0) := cell_below hb1 (by simp [go_sem, *])
  have rf0 : w1.frozen? ⟨w.heap.size + 1, 0, none⟩ = false := frozen_below hb1 (by simp; try omega) (by simp [go_sem, *])
  have rc1 : w1.cell? ⟨w.heap.size + 1, 1, none⟩ = some (.slice none 0 0) := cell_below hb1 (by simp [go_sem, *])
  have rf1 : w1.frozen? ⟨w.heap.size + 1, 1, none⟩ = false := frozen_below hb1 (by simp; try omega) (by simp [go_sem, *])
  clear hb1 hs1
  obtain ⟨b1, hk⟩ : ∃ b, knd kind = b := ⟨_, rfl⟩
  obtain ⟨b2, hn⟩ : ∃ b, num order = b := ⟨_, rfl⟩
  obtain ⟨b3, ht⟩ : ∃ b, tim now = b := ⟨_, rfl⟩
  rw [hk, hn, ht] at hno'
  have c1 := Lib.hid (fun W => hk ▸ oKinds kind W)
  have c2 := Lib.hid (fun W => hn ▸ oNumber order W)
  have c3 := Lib.hid (fun W => ht ▸ oTime now W)
  clear hk hn ht
  have hcase : B = false ∨ (B = true ∧ b1 = false) ∨ (B = true ∧ b1 = true ∧ b2 = false) ∨ (B = true ∧ b1 = true ∧ b2 = true ∧ b3 = false) := by
    have := hno'.out
    revert this
    cases B <;> cases b1 <;> cases b2 <;> cases b3 <;> simp
  rcases hcase with rfl | ⟨rfl, rfl⟩ | ⟨rfl, rfl, rfl⟩ | ⟨rfl, rfl, rfl, rfl⟩
  all_goals
    go_wp2_with (first
      | (go_at_call 80; refine (c1.out _).mono ?_; rintro e w' ⟨rfl, rfl⟩)
      | (go_at_call 81; refine (c2.out _).mono ?_; rintro e w' ⟨rfl, rfl⟩)
      | (go_at_call 82; refine (c3.out _).mono ?_; rintro e w' ⟨rfl, rfl⟩))
    refine bodyPost_ret (v := .tuple #[.agg #[.int .i64 0, .slice none 0 0], .int .i64 0, .int .i64 1]) (by simp [results, Try.results27, go_sem, *]) rfl ⟨rfl, ?_⟩
    ((repeat (first | with_reducible exact hbw | with_reducible refine Below.drew ?_ | with_reducible refine Below.alloc ?_ ?_ _ | with_reducible refine Below.setCell ?_ ?_ _)); all_goals first | omega | (simp; done) | (simp; omega))
end Go.Proofs.Ytejdmefiobgcdaa
