import Derived.Test.YtejdmefiobgcdaaNete
namespace Go.Proofs.Ytejdmefiobgcdaa
open Go.RowKit Go.Proofs Go.Maps

/-- The frame's slots that the next piece reads. -/
def Fr (a : Act) (v0 v1 v5 v6 v7 : Value) : Prop :=
  a.defers = [] ∧ a.tmps.size = 199 ∧ a.tmps[0]? = some v0 ∧ a.tmps[1]? = some v1 ∧ a.tmps[5]? = some v5 ∧ a.tmps[6]? = some v6 ∧ a.tmps[7]? = some v7

theorem arr_lit (n : Nat) (a : Array Value) (h : a.size = n) : ∃ u : Nat → Value, a = ((List.range n).map u).toArray ∧ ∀ i, i < n → a[i]? = some (u i) := by
  subst h
  refine ⟨fun i => a.getD i undef, ?_, fun i hi => by simp [Array.getD, hi]⟩
  apply Array.ext
  · simp
  · intro i h1 h2
    simp [Array.getD, h1]
set_option maxRecDepth 100000 in
theorem fr_lit {a : Act} {v0 v1 v5 v6 v7 : Value} (h : Fr a v0 v1 v5 v6 v7) : ∃ u : Nat → Value, a = ⟨#[v0, v1, u 2, u 3, u 4, v5, v6, v7, u 8, u 9, u 10, u 11, u 12, u 13, u 14, u 15, u 16, u 17, u 18, u 19, u 20, u 21, u 22, u 23, u 24, u 25, u 26, u 27, u 28, u 29, u 30, u 31, u 32, u 33, u 34, u 35, u 36, u 37, u 38, u 39, u 40, u 41, u 42, u 43, u 44, u 45, u 46, u 47, u 48, u 49, u 50, u 51, u 52, u 53, u 54, u 55, u 56, u 57, u 58, u 59, u 60, u 61, u 62, u 63, u 64, u 65, u 66, u 67, u 68, u 69, u 70, u 71, u 72, u 73, u 74, u 75, u 76, u 77, u 78, u 79, u 80, u 81, u 82, u 83, u 84, u 85, u 86, u 87, u 88, u 89, u 90, u 91, u 92, u 93, u 94, u 95, u 96, u 97, u 98, u 99, u 100, u 101, u 102, u 103, u 104, u 105, u 106, u 107, u 108, u 109, u 110, u 111, u 112, u 113, u 114, u 115, u 116, u 117, u 118, u 119, u 120, u 121, u 122, u 123, u 124, u 125, u 126, u 127, u 128, u 129, u 130, u 131, u 132, u 133, u 134, u 135, u 136, u 137, u 138, u 139, u 140, u 141, u 142, u 143, u 144, u 145, u 146, u 147, u 148, u 149, u 150, u 151, u 152, u 153, u 154, u 155, u 156, u 157, u 158, u 159, u 160, u 161, u 162, u 163, u 164, u 165, u 166, u 167, u 168, u 169, u 170, u 171, u 172, u 173, u 174, u 175, u 176, u 177, u 178, u 179, u 180, u 181, u 182, u 183, u 184, u 185, u 186, u 187, u 188, u 189, u 190, u 191, u 192, u 193, u 194, u 195, u 196, u 197, u 198], []⟩ := by
  obtain ⟨hd, hs, h0, h1, h5, h6, h7⟩ := h
  obtain ⟨u, hu, hi⟩ := arr_lit 199 a.tmps hs
  have e0 : v0 = u 0 := by have := hi 0 (by omega); rw [h0] at this; injection this
  have e1 : v1 = u 1 := by have := hi 1 (by omega); rw [h1] at this; injection this
  have e5 : v5 = u 5 := by have := hi 5 (by omega); rw [h5] at this; injection this
  have e6 : v6 = u 6 := by have := hi 6 (by omega); rw [h6] at this; injection this
  have e7 : v7 = u 7 := by have := hi 7 (by omega); rw [h7] at this; injection this
  refine ⟨u, ?_⟩
  rw [e0, e1, e5, e6, e7]
  obtain ⟨t, d⟩ := a
  simp only at hd hu
  rw [hd, hu]
  rfl

end Go.Proofs.Ytejdmefiobgcdaa
