import Derived.Test.YtejdmefiobgcdaaRowk
import Derived.SliceStrings
import Derived.ChangeMaps5
namespace Go.Proofs.Ytejdmefiobgcdaa
open Go.RowKit Go.ChangeShapes Go.WideShapes Go.Deep

/-- A slice of strings that came in. -/
theorem came_strs {H : Type} {enc : TypeId × Value → H} {P : Program} {W : World} {base : Nat} {spare : Nat → Bool} {held : Bool} {t e : TypeId} {a : Option Addr} {len cap : Nat} {d : DataW H} {ps : List MemPlace}
    (hu : P.underlying t = some (.slice e)) (he : P.underlying e = some .string) (hc : P.cellsOf e = 1) (h : DataW.Trod enc P W base spare held t (.slice a len cap) d ps) :
    ∃ l : List (List UInt8), len = l.length ∧ len ≤ cap ∧ len ≤ maxLen ∧ Reads W (fun _ => True) 1 a len (l.map fun s => Value.string ⟨s.toArray⟩) ∧ ∀ s ∈ l, s.length ≤ 9223372036854775807 := by
  obtain ⟨fuel, hf⟩ := h
  rcases open_strings hu he hc hf with ⟨hcs, _⟩ | ⟨x, l, c, zs, hcs, _, hl, hm, hz, _, hcell, hwz⟩
  · simp [Value.cells] at hcs
    obtain ⟨rfl, rfl, rfl⟩ := hcs
    exact ⟨[], rfl, Nat.le_refl _, Nat.zero_le _, Reads.none_ _, by simp⟩
  · simp [Value.cells] at hcs
    obtain ⟨rfl, rfl, rfl⟩ := hcs
    have hl2 : len ≤ zs.length := by rw [hz]; split; exact hl; exact Nat.le_refl _
    refine ⟨(zs.take len).map (·.data.toList), by simp; omega, hl, Nat.le_trans hl hm, ⟨by simp; omega, fun _ => ⟨x, rfl, trivial, fun j u hu => ?_⟩⟩, fun y hy => ?_⟩
    · rw [List.map_map, List.getElem?_map] at hu
      obtain ⟨y, hy, rfl⟩ := Option.map_eq_some_iff.1 hu
      rw [List.getElem?_take] at hy
      split at hy
      · have hj : j < zs.length := (List.getElem?_eq_some_iff.1 hy).1
        have := hcell j hj
        rw [List.getD_eq_getElem?_getD, hy] at this
        simpa using this
      · cases hy
    · obtain ⟨z, hz1, rfl⟩ := List.mem_map.1 hy
      have := hwz z (List.mem_of_mem_take hz1)
      simpa [maxLen] using this
theorem len_strs {H : Type} {enc : TypeId × Value → H} {P : Program} {W : World} {base : Nat} {spare : Nat → Bool} {held : Bool} {t e : TypeId} {a : Option Addr} {len cap B : Nat} {d : DataW H} {ps : List MemPlace} {ts : List TypeId} {ds : List (DataW H)} {j : Nat}
    (hsz : (DataW.weightsEach P ts ds).all (· ≤ reachBytes) = true) (ht : ts[j]? = some t) (hd : ds[j]? = some d) (hu : P.underlying t = some (.slice e)) (he : P.underlying e = some .string) (hc : P.cellsOf e = 1) (hB : P.bytesOf e = B)
    (h : DataW.Trod enc P W base spare held t (.slice a len cap) d ps) : len * B ≤ 140737488351232 := by
  obtain ⟨fuel, hf⟩ := h
  rcases open_strings hu he hc hf with ⟨hcs, _⟩ | ⟨x, l, c, zs, hcs, _, hl, _, hz, hx, _, _⟩
  · simp [Value.cells] at hcs
    obtain ⟨rfl, rfl, rfl⟩ := hcs
    simp
  · simp [Value.cells] at hcs
    obtain ⟨rfl, rfl, rfl⟩ := hcs
    obtain ⟨hx, _⟩ := Prod.mk.inj hx
    subst hx
    have z := sized_slice hsz ht hd hu
    rw [hB] at z
    have hl2 : len ≤ zs.length := by rw [hz]; split; exact hl; exact Nat.le_refl _
    have h1 : (strs (H := H) (zs.take len)).length + (strs (H := H) (zs.drop len)).length = zs.length := by
      simp [strs]; omega
    rw [h1] at z
    exact Nat.le_trans (Nat.mul_le_mul_right _ hl2) z
end Go.Proofs.Ytejdmefiobgcdaa
