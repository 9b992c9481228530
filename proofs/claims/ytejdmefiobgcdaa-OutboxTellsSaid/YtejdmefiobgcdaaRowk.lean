import Derived.Test.YtejdmefiobgcdaaBase
import Derived.ProofKit
import Derived.OpenShut
import Derived.ShutString
import Derived.ChangeOld
import Derived.SizedLaws
import Derived.ChangeSlices
import Derived.ChangeArms
import Derived.Deep.Slices
import Derived.Deep.Fields
import Derived.ChangeSame
namespace Go.Proofs.Ytejdmefiobgcdaa
open Go.RowKit Go.ChangeShapes Go.WideShapes Go.Deep

section
variable {H : Type} {enc : TypeId × Value → H} {P : Program} {w : World} {base : Nat} {spare : Nat → Bool} {held : Bool}
theorem open_slice_fields {t e : TypeId} {fs : Array Field} {fuel : Nat} {cs : List Value} {x : DataW H × List MemPlace} (ht : P.underlying t = some (.slice e)) (he : P.underlying e = some (.struct fs))
    (hone : oneCellFields P fs = true) (hC : P.cellsOf e = fs.size) (h : DataW.trod enc P w base spare held fuel t cs = some x) :
    (cs = [.slice none 0 0] ∧ x = (.nil, [])) ∨
    ∃ (a : Addr) (len cap m : Nat) (D : Nat → DataW H) (Pl : Nat → List MemPlace), cs = [.slice (some a) len cap] ∧ base ≤ a.block ∧ len ≤ cap ∧ cap ≤ maxLen ∧ m = (if spare a.block then cap else len) ∧
      x = (.slice ((List.range len).map D) ((List.range (m - len)).map fun j => D (len + j)), MemPlace.row a (m * fs.size) ++ (List.range m).flatMap Pl) ∧
      ∀ i, i < m → ∃ (ys : List (DataW H × List MemPlace)) (n : Nat), D i = .agg (ys.map (·.1)) ∧ Pl i = ys.flatMap (·.2) ∧ ys.length = fs.size ∧
        ∀ (j : Nat) (f : Field), fs[j]? = some f → ∃ (v : Value) (y : DataW H × List MemPlace), w.cell? (a.add (i * fs.size + j)) = some v ∧ ys[j]? = some y ∧ DataW.trod enc P w base spare held n f.type [v] = some y := by
  rcases open_slice ht h with h0 | ⟨a, len, cap, m, n, D, Pl, hcs, hb, hl, hm, hmm, hx, hi⟩
  · exact .inl h0
  · refine .inr ⟨a, len, cap, m, D, Pl, hcs, hb, hl, hm, hmm, by rw [hC] at hx; exact hx, fun i him => ?_⟩
    obtain ⟨cs', hc, ht'⟩ := hi i him
    rw [hC] at hc
    obtain ⟨ys, n', hn', hy, hlen, hyl, hf⟩ := DataW.trod_struct he ht'
    obtain ⟨_, hcl, hat⟩ := World.cells?_some hc
    simp only [Prod.mk.injEq] at hy
    refine ⟨ys, n', hy.1, hy.2, hyl, fun j f hj => ?_⟩
    obtain ⟨ho, hk⟩ := hone_of hone j f hj
    have hjl : j < fs.size := (Array.getElem?_eq_some_iff.1 hj).1
    have hcell := hat j hjl
    have hv : cs'[j]? = some (cs'[j]'(by omega)) := List.getElem?_eq_getElem (by omega)
    have h1 := hf j f hj
    rw [ho, hk] at h1
    have hone' : (cs'.drop j).take 1 = [cs'[j]'(by omega)] := by
      rw [List.drop_eq_getElem_cons (by omega)]
      rfl
    rw [hone'] at h1
    have hys : ys[j]? = some (ys[j]'(by omega)) := List.getElem?_eq_getElem (by omega)
    refine ⟨_, _, ?_, hys, h1.trans hys⟩
    rw [← Go.Deep.add_add, hcell, hv]
end

/-- A list of what is found at each place. -/
theorem list_of {α : Type} (Q : Nat → α → Prop) (n : Nat) (h : ∀ i, i < n → ∃ p, Q i p) : ∃ l : List α, l.length = n ∧ ∀ i p, l[i]? = some p → Q i p := by
  induction n with
  | zero => exact ⟨[], rfl, fun i p hp => by simp at hp⟩
  | succ n ih =>
    obtain ⟨l, hl, hq⟩ := ih (fun i hi => h i (by omega))
    obtain ⟨p, hp⟩ := h n (by omega)
    refine ⟨l ++ [p], by simp [hl], fun i q hi => ?_⟩
    rw [List.getElem?_append] at hi
    split at hi
    · exact hq i q hi
    · rename_i hlt
      have h0 : i - l.length = 0 := by
        by_cases h0 : i - l.length = 0
        · exact h0
        · rw [List.getElem?_eq_none (by simp; omega)] at hi; cases hi
      rw [h0] at hi
      simp at hi
      subst hi
      have : i = n := by omega
      subst this
      exact hp

theorem reads_mk {α : Type} {W : World} {enc : α → List Value} {size : Nat} (hs : ∀ x, (enc x).length = size) (h0 : 0 < size) (l : List α) (a : Addr)
    (hQ : ∀ i p, l[i]? = some p → ∀ j u, (enc p)[j]? = some u → W.cell? (a.add (i * size + j)) = some u) : Reads W (fun _ => True) size (some a) l.length (l.flatMap enc) := by
  refine ⟨flat_len enc size hs l, fun _ => ⟨a, rfl, trivial, fun j u hu => ?_⟩⟩
  have hj : j < l.length * size := by
    rw [← flat_len enc size hs l]
    exact (List.getElem?_eq_some_iff.1 hu).1
  have hd : j / size < l.length := Nat.div_lt_of_lt_mul (by rw [Nat.mul_comm]; exact hj)
  have he : j / size * size + j % size = j := by rw [Nat.mul_comm]; exact Nat.div_add_mod j size
  have hm : j % size < size := Nat.mod_lt _ h0
  have := hQ (j / size) l[j / size] (List.getElem?_eq_getElem hd) (j % size) u (by rw [← flat_at enc size hs l (j / size) hd (j % size) hm, he]; exact hu)
  rw [he] at this
  exact this

/-- A slice of whole numbers that came in. -/
theorem came_ints {H : Type} {enc : TypeId × Value → H} {P : Program} {W : World} {base : Nat} {spare : Nat → Bool} {held : Bool} {t e : TypeId} {a : Option Addr} {len cap : Nat} {d : DataW H} {ps : List MemPlace}
    (hu : P.underlying t = some (.slice e)) (he : P.underlying e = some (.int .i64)) (hc : P.cellsOf e = 1) (h : DataW.Trod enc P W base spare held t (.slice a len cap) d ps) :
    ∃ l : List Int, len = l.length ∧ len ≤ cap ∧ len ≤ maxLen ∧ Reads W (fun _ => True) 1 a len (l.map (Value.int .i64)) ∧ ∀ x ∈ l, -9223372036854775808 ≤ x ∧ x ≤ 9223372036854775807 := by
  obtain ⟨fuel, hf⟩ := h
  rcases open_ints hu he hc hf with ⟨hcs, _⟩ | ⟨x, l, c, zs, hcs, _, hl, hm, hz, _, hcell, hwz⟩
  · simp [Value.cells] at hcs
    obtain ⟨rfl, rfl, rfl⟩ := hcs
    exact ⟨[], rfl, Nat.le_refl _, Nat.zero_le _, Reads.none_ _, by simp⟩
  · simp [Value.cells] at hcs
    obtain ⟨rfl, rfl, rfl⟩ := hcs
    have hl2 : len ≤ zs.length := by rw [hz]; split; exact hl; exact Nat.le_refl _
    refine ⟨zs.take len, by simp; omega, hl, Nat.le_trans hl hm, ⟨by simp; omega, fun _ => ⟨x, rfl, trivial, fun j u hu => ?_⟩⟩, fun y hy => bounds_i64 (hwz y (List.mem_of_mem_take hy))⟩
    rw [List.getElem?_map] at hu
    obtain ⟨y, hy, rfl⟩ := Option.map_eq_some_iff.1 hu
    rw [List.getElem?_take] at hy
    split at hy
    · have hj : j < zs.length := (List.getElem?_eq_some_iff.1 hy).1
      have := hcell j hj
      rw [List.getD_eq_getElem?_getD, hy] at this
      exact this
    · cases hy

/-- A slice of structs (one cell a field) that came in: 'dec' reads one element off its fields. -/
theorem came_rows {α : Type} (encP : α → List Value) {size : Nat} (hsz : ∀ x, (encP x).length = size) (h0 : 0 < size) {H : Type} {enc : TypeId × Value → H} {P : Program} {W : World} {base : Nat} {spare : Nat → Bool} {held : Bool} {t e : TypeId} {fs : Array Field} {a : Option Addr} {len cap : Nat} {d : DataW H} {ps : List MemPlace}
    (Ok : α → Prop)
    (hu : P.underlying t = some (.slice e)) (he : P.underlying e = some (.struct fs)) (hone : oneCellFields P fs = true) (hC : P.cellsOf e = fs.size) (hfs : fs.size = size)
    (dec : ∀ c : Nat → Option Value, (∀ (j : Nat) (f : Field), fs[j]? = some f → ∃ (v : Value) (y : DataW H × List MemPlace) (n : Nat), c j = some v ∧ DataW.trod enc P W base spare held n f.type [v] = some y) → ∃ p : α, Ok p ∧ ∀ j u, (encP p)[j]? = some u → c j = some u)
    (h : DataW.Trod enc P W base spare held t (.slice a len cap) d ps) :
    ∃ l : List α, len = l.length ∧ len ≤ cap ∧ len ≤ maxLen ∧ Reads W (fun _ => True) size a len (l.flatMap encP) ∧ ∀ p ∈ l, Ok p := by
  obtain ⟨fuel, hf⟩ := h
  rcases open_slice_fields hu he hone hC hf with ⟨hcs, _⟩ | ⟨x, l, c, m, D, Pl, hcs, _, hl, hm, hmm, _, hi⟩
  · simp [Value.cells] at hcs
    obtain ⟨rfl, rfl, rfl⟩ := hcs
    exact ⟨[], rfl, Nat.le_refl _, Nat.zero_le _, Reads.none_ _, by simp⟩
  · simp [Value.cells] at hcs
    obtain ⟨rfl, rfl, rfl⟩ := hcs
    have hl2 : len ≤ m := by rw [hmm]; split; exact hl; exact Nat.le_refl _
    obtain ⟨ls, hls, hq⟩ := list_of (fun i (p : α) => Ok p ∧ ∀ j u, (encP p)[j]? = some u → W.cell? (x.add (i * size + j)) = some u) len (fun i hil => by
      obtain ⟨ys, n, _, _, _, hy⟩ := hi i (by omega)
      obtain ⟨p, h1, h2⟩ := dec (fun j => W.cell? (x.add (i * size + j))) (fun j f hj => by
        obtain ⟨v, y, hv, _, ht⟩ := hy j f hj
        exact ⟨v, y, n, by rw [← hfs]; exact hv, ht⟩)
      exact ⟨p, h1, h2⟩)
    refine ⟨ls, hls.symm, hl, Nat.le_trans hl hm, ?_, fun p hp => ?_⟩
    · rw [← hls]
      exact reads_mk hsz h0 ls x (fun i p hp => (hq i p hp).2)
    · obtain ⟨i, hi', hp'⟩ := List.getElem_of_mem hp
      exact (hq i p (by rw [← hp']; exact List.getElem?_eq_getElem hi')).1

/-- How long such slices are, by the weights of the row. -/
theorem len_rows {H : Type} {enc : TypeId × Value → H} {P : Program} {W : World} {base : Nat} {spare : Nat → Bool} {held : Bool} {t e : TypeId} {fs : Array Field} {a : Option Addr} {len cap B : Nat} {d : DataW H} {ps : List MemPlace} {ts : List TypeId} {ds : List (DataW H)} {j : Nat}
    (hsz : (DataW.weightsEach P ts ds).all (· ≤ reachBytes) = true) (ht : ts[j]? = some t) (hd : ds[j]? = some d) (hu : P.underlying t = some (.slice e)) (he : P.underlying e = some (.struct fs)) (hone : oneCellFields P fs = true) (hC : P.cellsOf e = fs.size) (hB : P.bytesOf e = B)
    (h : DataW.Trod enc P W base spare held t (.slice a len cap) d ps) : len * B ≤ 140737488351232 := by
  obtain ⟨fuel, hf⟩ := h
  rcases open_slice_fields hu he hone hC hf with ⟨hcs, _⟩ | ⟨x, l, c, m, D, Pl, hcs, _, hl, hm, hmm, hx, _⟩
  · simp [Value.cells] at hcs
    obtain ⟨rfl, rfl, rfl⟩ := hcs
    simp
  · simp [Value.cells] at hcs
    obtain ⟨rfl, rfl, rfl⟩ := hcs
    obtain ⟨hx, _⟩ := Prod.mk.inj hx
    subst hx
    have z := sized_slice hsz ht hd hu
    rw [hB] at z
    simp only [List.length_map, List.length_range] at z
    exact Nat.le_trans (Nat.mul_le_mul_right _ (by omega)) z
theorem len_ints {H : Type} {enc : TypeId × Value → H} {P : Program} {W : World} {base : Nat} {spare : Nat → Bool} {held : Bool} {t e : TypeId} {k : IntKind} {a : Option Addr} {len cap B : Nat} {d : DataW H} {ps : List MemPlace} {ts : List TypeId} {ds : List (DataW H)} {j : Nat}
    (hsz : (DataW.weightsEach P ts ds).all (· ≤ reachBytes) = true) (ht : ts[j]? = some t) (hd : ds[j]? = some d) (hu : P.underlying t = some (.slice e)) (he : P.underlying e = some (.int k)) (hc : P.cellsOf e = 1) (hB : P.bytesOf e = B)
    (h : DataW.Trod enc P W base spare held t (.slice a len cap) d ps) : len * B ≤ 140737488351232 := by
  obtain ⟨fuel, hf⟩ := h
  rcases open_ints hu he hc hf with ⟨hcs, _⟩ | ⟨x, l, c, zs, hcs, _, hl, _, hz, hx, _, _⟩
  · simp [Value.cells] at hcs
    obtain ⟨rfl, rfl, rfl⟩ := hcs
    simp
  · simp [Value.cells] at hcs
    obtain ⟨rfl, rfl, rfl⟩ := hcs
    obtain ⟨hx, _⟩ := Prod.mk.inj hx
    subst hx
    have z := sized_slice hsz ht hd hu
    rw [hB] at z
    have hl2 : len ≤ zs.length := by rw [hz]; split; exact hl; exact Nat.le_refl _
    have h1 : (lits (H := H) k (zs.take len)).length + (lits (H := H) k (zs.drop len)).length = zs.length := by
      simp [lits]; omega
    rw [h1] at z
    exact Nat.le_trans (Nat.mul_le_mul_right _ hl2) z
end Go.Proofs.Ytejdmefiobgcdaa
