import Derived.Test.YtejdmefiobgcdaaOutd
namespace Go.Proofs.Ytejdmefiobgcdaa
open Go.RowKit Go.Proofs

theorem rIn (n m : Int) (w : World) : Calls Try.prog 90 #[.int .i64 n, .int .i64 m] w fun e w' => e = .returned (.bool (decide (m ≤ n) && decide (n ≤ 1099511627776))) ∧ w = w' := by
  by_cases h1 : m ≤ n
  · have h2 : decide (m ≤ n) = true := by simp [h1]
    go_enter Try.func90, Try.ntmps90
    go_wp2
    go_ret
    simp [h2]
  · have h1 : n < m := by omega
    have h2 : decide (m ≤ n) = false := by simp; omega
    go_enter Try.func90, Try.ntmps90
    go_wp2
    go_ret
    simp [h2]
theorem tim_in (n : Int) : tim n = (decide (0 ≤ n) && decide (n ≤ 1099511627776)) := by
  rw [Bool.eq_iff_iff]
  simp [tim, num]
  omega
theorem rIn1 (n : Int) (w : World) : Calls Try.prog 90 #[.int .i64 n, .int .i64 1] w fun e w' => e = .returned (.bool (num n)) ∧ w = w' := rIn n 1 w
theorem rIn0 (n : Int) (w : World) : Calls Try.prog 90 #[.int .i64 n, .int .i64 0] w fun e w' => e = .returned (.bool (tim n)) ∧ w = w' := by
  rw [tim_in]
  exact rIn n 0 w

def O0 : O := ⟨0, 0, 0, 0⟩
/-- A thing's four numbers. -/
def ov (o : O) : Value := .agg #[.int .i64 o.key, .int .i64 o.kind, .int .i64 o.order, .int .i64 o.due]
def findO (l : List O) (f : O → Bool) : O := (l.find? f).getD O0
theorem findO_none {l : List O} {f : O → Bool} (h : ∀ x ∈ l, f x = false) : findO l f = O0 := by
  unfold findO
  rw [List.find?_eq_none.2 (fun x hx => by simp [h x hx])]
  rfl
theorem findO_at {l : List O} {f : O → Bool} {k : Nat} {o : O} (h : ∀ x ∈ l.take k, f x = false) (ho : l[k]? = some o) (hf : f o = true) : findO l f = o := by
  unfold findO
  obtain ⟨hk, rfl⟩ := List.getElem?_eq_some_iff.1 ho
  rw [List.find?_eq_some_iff_getElem.2 ⟨hf, k, hk, rfl, fun j hj => ?_⟩]
  · rfl
  · have := h l[j] (List.mem_take_iff_getElem.2 ⟨j, by omega, rfl⟩)
    simp [this]

set_option maxRecDepth 100000 in
set_option maxHeartbeats 1600000 in
theorem rFind (A : Option Addr) (l : List O) (c : Nat) (last kind order : Int) (w : World) (ok : Nat → Prop) (hr : Reads w ok 4 A l.length (l.flatMap O.c)) (hll : l.length < 4611686018427387904) :
    Calls Try.prog 38 #[.agg #[.int .i64 last, .slice A l.length c], .int .i64 kind, .int .i64 order] w fun e w' => e = .returned (ov (findO l (sameKO kind order))) ∧ Below w.heap.size w w' := by
  go_enter Try.func38, Try.ntmps38
  go_wp2_with fail
  go_loopw [12] (fun v8 wr => ∃ (k : Nat), v8 = .int .i64 k ∧ k ≤ l.length ∧ Hid (∀ x ∈ l.take k, sameKO kind order x = false) ∧ Below (w.heap.size + 2) ((w.alloc (.cells #[.int .i64 last, .slice A l.length c] 53)).alloc (.cells #[.int .i64 0, .int .i64 0, .int .i64 0, .int .i64 0] 60)) wr) (fun v8 _ => l.length - (intOf v8).toNat)
  case atStart => exact ⟨0, rfl, by omega, Lib.hid (by intro x hx; simp at hx), Below.refl _ _⟩
  case round =>
    obtain ⟨k, rfl, hk, hall, hB⟩ := hrel
    have hs1 := hB.size
    simp at hs1
    have hs2 : w.heap.size + 1 < wr.heap.size := by omega
    have hB0 : Below w.heap.size w wr := (((Below.refl _ _).alloc (Nat.le_refl _) _).alloc (by simp) _).trans (hB.mono (by omega))
    have r0 : wr.cell? ⟨w.heap.size + 1, 0, none⟩ = some (.int .i64 0) := (hB.cell (by simp)).trans (by simp [go_sem])
    have r1 : wr.cell? ⟨w.heap.size + 1, 1, none⟩ = some (.int .i64 0) := (hB.cell (by simp)).trans (by simp [go_sem])
    have r2 : wr.cell? ⟨w.heap.size + 1, 2, none⟩ = some (.int .i64 0) := (hB.cell (by simp)).trans (by simp [go_sem])
    have r3 : wr.cell? ⟨w.heap.size + 1, 3, none⟩ = some (.int .i64 0) := (hB.cell (by simp)).trans (by simp [go_sem])
    have f0 : wr.frozen? ⟨w.heap.size + 1, 0, none⟩ = false := (hB.frozen (by simp)).trans (by simp [go_sem])
    have f1 : wr.frozen? ⟨w.heap.size + 1, 1, none⟩ = false := (hB.frozen (by simp)).trans (by simp [go_sem])
    have f2 : wr.frozen? ⟨w.heap.size + 1, 2, none⟩ = false := (hB.frozen (by simp)).trans (by simp [go_sem])
    have f3 : wr.frozen? ⟨w.heap.size + 1, 3, none⟩ = false := (hB.frozen (by simp)).trans (by simp [go_sem])
    by_cases hlt : k < l.length
    · obtain ⟨o, ho⟩ : ∃ o, l[k]? = some o := ⟨_, List.getElem?_eq_getElem hlt⟩
      obtain ⟨b, of, rfl, hbl, _, hc⟩ := (hr.below hB0).elem O.len (by omega) k o ho
      have hc0 := hc 0 _ rfl
      have hc1 := hc 1 _ rfl
      have hc2 := hc 2 _ rfl
      have hc3 := hc 3 _ rfl
      clear hc
      simp only [Nat.add_zero] at hc0
      by_cases hp : sameKO kind order o = true
      · have hR := Lib.hid (findO_at (f := sameKO kind order) hall.out ho hp)
        have hp1 : (o.kind == kind) = true := by simp [sameKO] at hp; simp [hp.1]
        have hp2 : (o.order == order) = true := by simp [sameKO] at hp; simp [hp.2]
        replace ho := Lib.hid ho
        clear hp
        go_wp2_with fail
        refine bodyPost_ret (v := ov o) (by simp [results, Try.results38, go_sem, ov, *]) rfl ⟨by rw [hR.out], ?_⟩
        ((repeat (first | with_reducible exact hB0 | with_reducible refine Below.drew ?_ | with_reducible refine Below.alloc ?_ ?_ _ | with_reducible refine Below.setCell ?_ ?_ _)); all_goals first | omega | (simp; done) | (simp; omega))
      · have hp' : sameKO kind order o = false := by simpa using hp
        have hall2 := Lib.hid (show ∀ x ∈ l.take (k + 1), sameKO kind order x = false from fun x hx => by
          rw [List.take_add_one, ho] at hx
          rcases List.mem_append.1 hx with h | h
          · exact hall.out x h
          · simp at h
            rw [h]; exact hp')
        have hpp : (o.kind == kind) = false ∨ ((o.kind == kind) = true ∧ (o.order == order) = false) := by
          simp [sameKO] at hp'
          by_cases h : o.kind = kind
          · right; simp [h, hp' h]
          · left; simp [h]
        replace ho := Lib.hid ho
        clear hp hp'
        rcases hpp with hpp | ⟨hpp, hpq⟩
        all_goals
          go_wp2_with fail
          go_roundw
          case rel => exact ⟨k + 1, by go_num, by omega, hall2, hB.alloc (by omega) _⟩
          case measure => simp [intOf]; omega
    · have hR := Lib.hid (findO_none (l := l) (f := sameKO kind order) (by have := hall.out; rw [List.take_of_length_le (by omega)] at this; exact this))
      go_wp2_with fail
      refine bodyPost_ret (v := ov O0) (by simp [results, Try.results38, go_sem, ov, O0, *]) rfl ⟨by rw [hR.out], ?_⟩
      ((repeat (first | with_reducible exact hB0 | with_reducible refine Below.drew ?_ | with_reducible refine Below.alloc ?_ ?_ _ | with_reducible refine Below.setCell ?_ ?_ _)); all_goals first | omega | (simp; done) | (simp; omega))
end Go.Proofs.Ytejdmefiobgcdaa
