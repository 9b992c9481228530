import Derived.Test.YtejdmefiobgcdaaOutr
namespace Go.Proofs.Ytejdmefiobgcdaa
open Go.RowKit Go.Proofs

/-- A slice that holds these things, in blocks from B on. -/
def RowsB (B : Nat) (w : World) (A : Option Addr) (l : List O) (c : Nat) : Prop := Reads w (fun k => B ≤ k) 4 A l.length (l.flatMap O.c) ∧ l.length ≤ c
theorem RowsB.below {B : Nat} {w w' : World} {A : Option Addr} {l : List O} {c : Nat} (h : RowsB B w A l c) (hb : Below w.heap.size w w') : RowsB B w' A l c := ⟨h.1.below hb, h.2⟩
theorem RowsB.nil (B : Nat) (w : World) : RowsB B w none [] 0 := ⟨Reads.none_ none, by simp⟩
theorem RowsB.alloc {B : Nat} {w : World} {A : Option Addr} {l : List O} {c : Nat} (h : RowsB B w A l c) (o : Obj) : RowsB B (w.alloc o) A l c := ⟨h.1.alloc o, h.2⟩
theorem RowsB.set {B : Nat} {w : World} {A : Option Addr} {l : List O} {c : Nat} (h : RowsB B w A l c) {q : Addr} (hq : q.block < B) (u : Value) : RowsB B (w.setCell q u) A l c := ⟨h.1.far (fun k hk => by omega) u, h.2⟩
theorem RowsB.turned {B : Nat} {w w' : World} {A : Option Addr} {l : List O} {c : Nat} (h : RowsB B w A l c) {b : Nat} (hb : b < B) (hg : w.grownBy w' (some b)) : RowsB B w' A l c := ⟨h.1.grown hg (fun k hk e => by injection e with e; omega), h.2⟩

theorem uPut (A : Option Addr) (l : List O) (c : Nat) (last kind order now : Int) (w : World) (B : Nat) (hB : B ≤ w.heap.size) (hr : RowsB B w A l c) (hll : l.length ≤ 98) :
    Calls Try.prog 27 #[.agg #[.int .i64 last, .slice A l.length c], .int .i64 kind, .int .i64 order, .int .i64 now] w
      fun e w' => ∃ A' c', e = .returned (.tuple #[.agg #[.int .i64 (putS l last kind order now).last, .slice A' (putS l last kind order now).rows.length c'], .int .i64 (putS l last kind order now).key, .int .i64 (putS l last kind order now).err]) ∧
        RowsB B w' A' (putS l last kind order now).rows c' ∧ Below w.heap.size w w' := by
  by_cases hok : okPut l last kind order now = false
  · have hs : putS l last kind order now = ⟨0, [], 0, 1⟩ := by unfold putS; rw [if_pos hok]
    rw [hs]
    exact (oPut_no A l c last kind order now w _ hr.1 (by omega) hok).mono fun e w' ⟨h1, h2⟩ => ⟨none, 0, h1, RowsB.nil B w', h2⟩
  · have hok' : okPut l last kind order now = true := by simpa using hok
    refine (oPut A l c last kind order now w _ hr.1 hr.2 hok').mono fun e w' ⟨h1, h2⟩ => ?_
    unfold putS
    rw [if_neg hok]
    by_cases h9 : 0 ≤ idx l (sameKO kind order)
    · rw [if_pos h9] at h1 ⊢
      exact ⟨none, 0, h1, RowsB.nil B w', h2⟩
    · rw [if_neg h9] at h1 ⊢
      by_cases h7 : l.length = 96 ∨ last = 1099511627776
      · rw [if_pos h7] at h1 ⊢
        exact ⟨none, 0, h1, RowsB.nil B w', h2⟩
      · rw [if_neg h7] at h1 ⊢
        obtain ⟨A', c', e1, e2, e3⟩ := h1
        refine ⟨A', c', ?_, ⟨?_, ?_⟩, h2⟩
        · simpa using e1
        · simpa [newO] using e3.mono (ok' := fun k => B ≤ k) (fun k hk => by omega)
        · simpa using e2

theorem uDone (A : Option Addr) (l : List O) (c : Nat) (last key : Int) (w : World) (B : Nat) (hB : B ≤ w.heap.size) (hr : RowsB B w A l c) (hll : l.length ≤ 98) :
    Calls Try.prog 28 #[.agg #[.int .i64 last, .slice A l.length c], .int .i64 key] w
      fun e w' => ∃ A' c', e = .returned (.tuple #[.agg #[.int .i64 (doneS l last key).last, .slice A' (doneS l last key).rows.length c'], ov (doneS l last key).o, .int .i64 (doneS l last key).err]) ∧
        RowsB B w' A' (doneS l last key).rows c' ∧ Below w.heap.size w w' := by
  by_cases hok : OkBox l last
  · refine (oDone A l c last key w _ hr.1 hr.2 hok).mono fun e w' ⟨h1, h2⟩ => ?_
    unfold doneS
    rw [if_pos hok]
    by_cases h8 : idx l (sameKey key) < 0
    · rw [if_pos h8] at h1 ⊢
      exact ⟨none, 0, h1, RowsB.nil B w', h2⟩
    · rw [if_neg h8] at h1 ⊢
      obtain ⟨j, o, A', c', hj, ho, e1, e2, e3⟩ := h1
      have hjl := (List.getElem?_eq_some_iff.1 ho).1
      have hlen : (l.eraseIdx j).length = l.length - 1 := by rw [List.length_eraseIdx, if_pos hjl]
      refine ⟨A', c', ?_, ⟨?_, ?_⟩, h2⟩
      · rw [hj, findO_idx hj ho]
        dsimp only
        rw [Int.toNat_natCast, hlen]
        exact e1
      · rw [hj]
        dsimp only
        rw [Int.toNat_natCast, hlen]
        exact e3.mono (ok' := fun k => B ≤ k) (fun k hk => by omega)
      · rw [hj]
        dsimp only
        rw [Int.toNat_natCast, hlen]
        exact e2
  · refine (oDone_no A l c last key w _ hr.1 (by omega) hok).mono fun e w' ⟨h1, h2⟩ => ?_
    unfold doneS
    rw [if_neg hok]
    exact ⟨none, 0, h1, RowsB.nil B w', h2⟩

theorem uTell (A : Option Addr) (l : List O) (c : Nat) (last now : Int) (w : World) (B : Nat) (hB : B ≤ w.heap.size) (hr : RowsB B w A l c) (hll : l.length ≤ 98) :
    Calls Try.prog 29 #[.agg #[.int .i64 last, .slice A l.length c], .int .i64 now] w
      fun e w' => ∃ A' c' A'' c'', e = .returned (.tuple #[.agg #[.int .i64 (tellS l last now).last, .slice A' (tellS l last now).rows.length c'], .slice A'' (tellS l last now).told.length c'', .int .i64 (tellS l last now).err]) ∧
        RowsB B w' A' (tellS l last now).rows c' ∧ RowsB B w' A'' (tellS l last now).told c'' ∧ Below w.heap.size w w' := by
  by_cases hok : (decide (OkBox l last) && tim now) = false
  · have hs : tellS l last now = ⟨0, [], [], 1⟩ := by unfold tellS; rw [if_pos hok]
    rw [hs]
    exact (oTell_no A l c last now w _ hr.1 (by omega) hok).mono fun e w' ⟨h1, h2⟩ => ⟨none, 0, none, 0, h1, RowsB.nil B w', RowsB.nil B w', h2⟩
  · have hok' : OkBox l last ∧ tim now = true := by simpa using hok
    have hs : tellS l last now = ⟨last, tellL l now, toldL l now, 0⟩ := by unfold tellS; rw [if_neg hok]
    rw [hs]
    have hlen : (tellL l now).length = l.length := by simp [tellL]
    refine (oTell A l c last now w _ hr.1 hr.2 hok'.1 hok'.2).mono fun e w' h => ?_
    obtain ⟨A', c', A'', c'', e1, e2, e3, e4, e5, e6⟩ := h
    refine ⟨A', c', A'', c'', ?_, ⟨?_, ?_⟩, ⟨?_, e4⟩, e6⟩
    · dsimp only; rw [hlen]; exact e1
    · dsimp only; rw [hlen]; exact e3.mono (ok' := fun k => B ≤ k) (fun k hk => by omega)
    · dsimp only; rw [hlen]; exact e2
    · exact e5.mono (ok' := fun k => B ≤ k) (fun k hk => by omega)
end Go.Proofs.Ytejdmefiobgcdaa
