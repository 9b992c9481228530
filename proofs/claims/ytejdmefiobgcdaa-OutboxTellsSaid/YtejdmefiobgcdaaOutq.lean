import Derived.Test.YtejdmefiobgcdaaOutp
import Derived.Test.YtejdmefiobgcdaaOutj
namespace Go.Proofs.Ytejdmefiobgcdaa
open Go.RowKit Go.Proofs

/-- A slice that holds these things. -/
def Rows (w : World) (A : Option Addr) (l : List O) (c : Nat) : Prop := Reads w (fun _ => True) 4 A l.length (l.flatMap O.c) ∧ l.length ≤ c
theorem Rows.below {w w' : World} {A : Option Addr} {l : List O} {c : Nat} (h : Rows w A l c) (hb : Below w.heap.size w w') : Rows w' A l c := ⟨h.1.below hb, h.2⟩
theorem Rows.nil (w : World) : Rows w none [] 0 := ⟨Reads.none_ none, by simp⟩

structure PutR where
  last : Int
  rows : List O
  key : Int
  err : Int
deriving DecidableEq
def putS (l : List O) (last kind order now : Int) : PutR :=
  if okPut l last kind order now = false then ⟨0, [], 0, 1⟩ else if 0 ≤ idx l (sameKO kind order) then ⟨0, [], 0, 9⟩ else if l.length = 96 ∨ last = 1099511627776 then ⟨0, [], 0, 7⟩ else ⟨last + 1, l ++ [newO last kind order now], last + 1, 0⟩
theorem sPut (A : Option Addr) (l : List O) (c : Nat) (last kind order now : Int) (w : World) (hr : Rows w A l c) (hll : l.length ≤ 98) :
    Calls Try.prog 27 #[.agg #[.int .i64 last, .slice A l.length c], .int .i64 kind, .int .i64 order, .int .i64 now] w
      fun e w' => ∃ A' c', e = .returned (.tuple #[.agg #[.int .i64 (putS l last kind order now).last, .slice A' (putS l last kind order now).rows.length c'], .int .i64 (putS l last kind order now).key, .int .i64 (putS l last kind order now).err]) ∧
        Rows w' A' (putS l last kind order now).rows c' ∧ Below w.heap.size w w' := by
  by_cases hok : okPut l last kind order now = false
  · have hs : putS l last kind order now = ⟨0, [], 0, 1⟩ := by unfold putS; rw [if_pos hok]
    rw [hs]
    exact (oPut_no A l c last kind order now w _ hr.1 (by omega) hok).mono fun e w' ⟨h1, h2⟩ => ⟨none, 0, h1, Rows.nil w', h2⟩
  · have hok' : okPut l last kind order now = true := by simpa using hok
    refine (oPut A l c last kind order now w _ hr.1 hr.2 hok').mono fun e w' ⟨h1, h2⟩ => ?_
    unfold putS
    rw [if_neg hok]
    by_cases h9 : 0 ≤ idx l (sameKO kind order)
    · rw [if_pos h9] at h1 ⊢
      exact ⟨none, 0, h1, Rows.nil w', h2⟩
    · rw [if_neg h9] at h1 ⊢
      by_cases h7 : l.length = 96 ∨ last = 1099511627776
      · rw [if_pos h7] at h1 ⊢
        exact ⟨none, 0, h1, Rows.nil w', h2⟩
      · rw [if_neg h7] at h1 ⊢
        obtain ⟨A', c', e1, e2, e3⟩ := h1
        refine ⟨A', c', ?_, ⟨?_, ?_⟩, h2⟩
        · simpa using e1
        · simpa [newO] using e3.mono (fun _ _ => trivial)
        · simpa using e2
theorem tPut (A : Option Addr) (l : List O) (c : Nat) (last kind order now : Int) (w : World) (hr : Rows w A l c) (hll : l.length ≤ 98) :
    Calls Try.prog 35 #[.agg #[.int .i64 last, .slice A l.length c], .int .i64 kind, .int .i64 order, .int .i64 now] w
      fun e w' => ∃ A' c', e = .returned (.agg #[.int .i64 (putS l last kind order now).last, .slice A' (putS l last kind order now).rows.length c', .int .i64 (putS l last kind order now).key, .int .i64 (putS l last kind order now).err]) ∧
        Rows w' A' (putS l last kind order now).rows c' ∧ Below w.heap.size w w' := by
  by_cases hok : okPut l last kind order now = false
  · have hs : putS l last kind order now = ⟨0, [], 0, 1⟩ := by unfold putS; rw [if_pos hok]
    rw [hs]
    exact (rPut_no A l c last kind order now w _ hr.1 hr.2 (by omega) hok).mono fun e w' ⟨h1, h2⟩ => ⟨none, 0, h1, Rows.nil w', h2⟩
  · have hok' : okPut l last kind order now = true := by simpa using hok
    refine (rPut A l c last kind order now w _ hr.1 hr.2 hok').mono fun e w' ⟨h1, h2⟩ => ?_
    unfold putS
    rw [if_neg hok]
    by_cases h9 : 0 ≤ idx l (sameKO kind order)
    · rw [if_pos h9] at h1 ⊢
      exact ⟨none, 0, h1, Rows.nil w', h2⟩
    · rw [if_neg h9] at h1 ⊢
      by_cases h7 : l.length = 96 ∨ last = 1099511627776
      · rw [if_pos h7] at h1 ⊢
        exact ⟨none, 0, h1, Rows.nil w', h2⟩
      · rw [if_neg h7] at h1 ⊢
        obtain ⟨A', c', e1, e2, e3⟩ := h1
        refine ⟨A', c', ?_, ⟨?_, ?_⟩, h2⟩
        · simpa using e1
        · simpa using e3.mono (fun _ _ => trivial)
        · simpa using e2

structure DoneR where
  last : Int
  rows : List O
  o : O
  err : Int
deriving DecidableEq
def doneS (l : List O) (last key : Int) : DoneR :=
  if OkBox l last then (if idx l (sameKey key) < 0 then ⟨0, [], O0, 8⟩ else ⟨last, l.eraseIdx (idx l (sameKey key)).toNat, findO l (sameKey key), 0⟩) else ⟨0, [], O0, 1⟩
theorem findO_idx {l : List O} {f : O → Bool} {j : Nat} {o : O} (hj : idx l f = j) (ho : l[j]? = some o) : findO l f = o := by
  obtain ⟨j', o', h1, h2, h3, h4⟩ := find_some (l := l) (f := f) (by omega)
  obtain rfl : j' = j := by omega
  rw [h3] at ho
  cases ho
  exact findO_at (idx_ahead hj) h3 h4
theorem sDone (A : Option Addr) (l : List O) (c : Nat) (last key : Int) (w : World) (hr : Rows w A l c) (hll : l.length ≤ 98) :
    Calls Try.prog 28 #[.agg #[.int .i64 last, .slice A l.length c], .int .i64 key] w
      fun e w' => ∃ A' c', e = .returned (.tuple #[.agg #[.int .i64 (doneS l last key).last, .slice A' (doneS l last key).rows.length c'], ov (doneS l last key).o, .int .i64 (doneS l last key).err]) ∧
        Rows w' A' (doneS l last key).rows c' ∧ Below w.heap.size w w' := by
  by_cases hok : OkBox l last
  · refine (oDone A l c last key w _ hr.1 hr.2 hok).mono fun e w' ⟨h1, h2⟩ => ?_
    unfold doneS
    rw [if_pos hok]
    by_cases h8 : idx l (sameKey key) < 0
    · rw [if_pos h8] at h1 ⊢
      exact ⟨none, 0, h1, Rows.nil w', h2⟩
    · rw [if_neg h8] at h1 ⊢
      obtain ⟨j, o, A', c', hj, ho, e1, e2, e3⟩ := h1
      have hjl := (List.getElem?_eq_some_iff.1 ho).1
      have hlen : (l.eraseIdx j).length = l.length - 1 := by rw [List.length_eraseIdx, if_pos hjl]
      refine ⟨A', c', ?_, ⟨?_, ?_⟩, h2⟩
      · rw [hj, findO_idx hj ho]
        dsimp only
        rw [Int.toNat_natCast, hlen]
        exact e1
      · rw [hj]
        dsimp only
        rw [Int.toNat_natCast, hlen]
        exact e3.mono (fun _ _ => trivial)
      · rw [hj]
        dsimp only
        rw [Int.toNat_natCast, hlen]
        exact e2
  · refine (oDone_no A l c last key w _ hr.1 (by omega) hok).mono fun e w' ⟨h1, h2⟩ => ?_
    unfold doneS
    rw [if_neg hok]
    exact ⟨none, 0, h1, Rows.nil w', h2⟩

structure FindR where
  o : O
  err : Int
deriving DecidableEq
def findS (l : List O) (last kind order : Int) : FindR :=
  if OkBox l last then (if idx l (sameKO kind order) < 0 then ⟨O0, 8⟩ else ⟨findO l (sameKO kind order), 0⟩) else ⟨O0, 1⟩
theorem sFind (A : Option Addr) (l : List O) (c : Nat) (last kind order : Int) (w : World) (hr : Rows w A l c) (hll : l.length ≤ 98) :
    Calls Try.prog 34 #[.agg #[.int .i64 last, .slice A l.length c], .int .i64 kind, .int .i64 order] w
      fun e w' => e = .returned (.tuple #[ov (findS l last kind order).o, .int .i64 (findS l last kind order).err]) ∧ Below w.heap.size w w' := by
  by_cases hok : OkBox l last
  · refine (oFind A l c last kind order w _ hr.1 (by omega) hok).mono fun e w' ⟨h1, h2⟩ => ?_
    unfold findS
    rw [if_pos hok]
    by_cases h8 : idx l (sameKO kind order) < 0
    · rw [if_pos h8] at h1 ⊢
      exact ⟨h1, h2⟩
    · rw [if_neg h8] at h1 ⊢
      obtain ⟨j, o, hj, ho, e1⟩ := h1
      rw [findO_idx hj ho]
      exact ⟨e1, h2⟩
  · refine (oFind_no A l c last kind order w _ hr.1 (by omega) hok).mono fun e w' ⟨h1, h2⟩ => ?_
    unfold findS
    rw [if_neg hok]
    exact ⟨h1, h2⟩

structure TellR where
  last : Int
  rows : List O
  told : List O
  err : Int
deriving DecidableEq
def tellS (l : List O) (last now : Int) : TellR :=
  if (decide (OkBox l last) && tim now) = false then ⟨0, [], [], 1⟩ else ⟨last, tellL l now, toldL l now, 0⟩
theorem sTell (A : Option Addr) (l : List O) (c : Nat) (last now : Int) (w : World) (hr : Rows w A l c) (hll : l.length ≤ 98) :
    Calls Try.prog 29 #[.agg #[.int .i64 last, .slice A l.length c], .int .i64 now] w
      fun e w' => ∃ A' c' A'' c'', e = .returned (.tuple #[.agg #[.int .i64 (tellS l last now).last, .slice A' (tellS l last now).rows.length c'], .slice A'' (tellS l last now).told.length c'', .int .i64 (tellS l last now).err]) ∧
        Rows w' A' (tellS l last now).rows c' ∧ Rows w' A'' (tellS l last now).told c'' ∧ Below w.heap.size w w' := by
  by_cases hok : (decide (OkBox l last) && tim now) = false
  · have hs : tellS l last now = ⟨0, [], [], 1⟩ := by unfold tellS; rw [if_pos hok]
    rw [hs]
    exact (oTell_no A l c last now w _ hr.1 (by omega) hok).mono fun e w' ⟨h1, h2⟩ => ⟨none, 0, none, 0, h1, Rows.nil w', Rows.nil w', h2⟩
  · have hok' : OkBox l last ∧ tim now = true := by simpa using hok
    have hs : tellS l last now = ⟨last, tellL l now, toldL l now, 0⟩ := by unfold tellS; rw [if_neg hok]
    rw [hs]
    have hlen : (tellL l now).length = l.length := by simp [tellL]
    refine (oTell A l c last now w _ hr.1 hr.2 hok'.1 hok'.2).mono fun e w' h => ?_
    obtain ⟨A', c', A'', c'', e1, e2, e3, e4, e5, e6⟩ := h
    refine ⟨A', c', A'', c'', ?_, ⟨?_, ?_⟩, ⟨?_, e4⟩, e6⟩
    · dsimp only; rw [hlen]; exact e1
    · dsimp only; rw [hlen]; exact e3.mono (fun _ _ => trivial)
    · dsimp only; rw [hlen]; exact e2
    · exact e5.mono (fun _ _ => trivial)
end Go.Proofs.Ytejdmefiobgcdaa
