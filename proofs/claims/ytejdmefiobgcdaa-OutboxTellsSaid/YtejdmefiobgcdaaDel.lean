import Derived.Test.YtejdmefiobgcdaaOwn
import Derived.Lib.LazyBuf
import Derived.Deep.MidRow
namespace Go.Proofs.Ytejdmefiobgcdaa
open Go.RowKit

theorem add_plain0 (g i : Nat) : (⟨g, 0, none⟩ : Addr).add i = ⟨g, i, none⟩ := by rw [Go.WideShapes.add_plain, Nat.zero_add]
theorem own_block {w : World} {B g : Nat} {e : TypeId} {size n c : Nat} {xs : List Value} (h : w.ownsRow B e size (.slice (some ⟨g, 0, none⟩) n c) n xs) :
    B ≤ g ∧ g < w.heap.size ∧ n ≤ c ∧ (∀ j u, xs[j]? = some u → w.cell? ⟨g, j, none⟩ = some u) ∧ (∀ j, w.frozen? ⟨g, j, none⟩ = false) ∧ ∀ j, j < c * size → (w.cell? ⟨g, j, none⟩).isSome = true := by
  rcases h with ⟨h1, ⟨h2, h3⟩ | ⟨g', cap, cur, h2, h3, h4, h5, h6, h7, h8⟩⟩
  · cases h2
  · injection h2 with a1 a2 a3
    injection a1 with a1
    injection a1 with a1
    subst a1 a3
    have hcell : ∀ j, w.cell? ⟨g, j, none⟩ = cur[j]? := fun j => cell_of_row w g j cur e (0, 0) h4
    refine ⟨h3, (Array.getElem?_eq_some_iff.1 h4).1, h5, fun j u hu => ?_, fun j => by simp [World.frozen?, h4], fun j hj => ?_⟩
    · rw [hcell, ← Array.getElem?_toList]
      rw [← h8, List.getElem?_take] at hu
      split at hu
      · exact hu
      · cases hu
    · rw [hcell, Array.getElem?_eq_getElem (by omega)]; rfl

/-- Cells written over in a block: what reads before them, and them. -/
theorem setCells_over {w : World} {g k : Nat} {F news : List Value} (hF : ∀ j u, F[j]? = some u → w.cell? ⟨g, j, none⟩ = some u) (hk : k ≤ F.length) (hs : ∀ j, j < news.length → (w.cell? ⟨g, k + j, none⟩).isSome = true) :
    ∀ j u, (F.take k ++ news)[j]? = some u → (w.setCells g k news).cell? ⟨g, j, none⟩ = some u := by
  intro j u hu
  rcases Nat.lt_or_ge j k with h | h
  · rw [List.getElem?_append_left (by simp; omega), List.getElem?_take, if_pos h] at hu
    rw [World.cell?_setCells_out g news k w _ (fun _ _ => .inl h)]
    exact hF j u hu
  · rw [List.getElem?_append_right (by simp; omega)] at hu
    simp only [List.length_take] at hu
    rw [Nat.min_eq_left hk] at hu
    obtain ⟨hj, rfl⟩ := List.getElem?_eq_some_iff.1 hu
    have := World.cell?_setCells_in g news k w hs (j - k) hj
    rwa [show k + (j - k) = j by omega] at this

/-- append(s[:k], s[k+1:]...) in a row that is known: a step of a region that draws. -/
theorem step_append_del {P : Program} {ops : Array Oper} {o : Oper} {a : Act} {w : World} {K : Act → World → Prop} {Q : Exit → Act → World → Prop} {E : Prop}
    (hg : o.guard = none) (s x : Operand) (t : TypeId) (hop : o.op = Op.call { callee := Callee.builtin Builtin.append, args := #[s, x], argTypes := #[t, t] })
    (e : TypeId) (i : TypeInfo) (size : Nat) (h1 : P.underlying t = some (.slice e)) (h2 : P.info? e = some i) (h4 : i.size = size)
    (g k m q cap off p : Nat) (F : List Value) (hs : a.eval s = .slice (some ⟨g, 0, none⟩) k cap)
    (c : Nat) (hx : a.eval x = .slice (some ⟨g, off, none⟩) m c) (hoff : m = 0 ∨ off = q * size) (hp : k + m = p) (hn : F.length = (q + m) * size) (hkq : k ≤ q)
    (hF : ∀ j u, F[j]? = some u → w.cell? ⟨g, j, none⟩ = some u) (hf : ∀ j, w.frozen? ⟨g, j, none⟩ = false) (h1c : ∀ u ∈ F, u.oneCell' = true) (hqc : q + m ≤ cap)
    (hK : ∀ w', (∀ j u, (F.take (k * size) ++ F.drop (q * size))[j]? = some u → w'.cell? ⟨g, j, none⟩ = some u) → (∀ x, (w.cell? x).isSome = true → (w'.cell? x).isSome = true) → (∀ j, w'.frozen? ⟨g, j, none⟩ = false) →
      Below g w w' → w'.heap.size = w.heap.size → K (a.put o.dst (.slice (some ⟨g, 0, none⟩) p cap)) w') :
    if Region.wanted o (yielded ops a.tmps) = true then Oper.wp P o a w K Q else E := by
  have hl : (F.drop (q * size)).length = m * size := by rw [List.length_drop, hn, Nat.add_mul]; omega
  have hkq2 : k * size ≤ q * size := Nat.mul_le_mul_right _ hkq
  have hsome : ∀ j, j < (q + m) * size → (w.cell? ⟨g, j, none⟩).isSome = true := fun j hj => by
    rw [hF j _ (List.getElem?_eq_getElem (by omega))]; rfl
  have hin : ∀ j, j < (F.drop (q * size)).length → (w.cell? ⟨g, 0 + k * size + j, none⟩).isSome = true := fun j hj => hsome _ (by rw [Nat.add_mul]; omega)
  refine step_append_room hg s x t hop e i size h1 h2 h4 g 0 k cap hs ⟨g, off, none⟩ m c (F.drop (q * size)) hx hl
    (fun j u hu => by
      rcases hoff with h0 | h0
      · have := (List.getElem?_eq_some_iff.1 hu).1; rw [hl, h0] at this; omega
      · rw [Go.WideShapes.add_plain, h0]; exact hF _ u (by rw [← hu, List.getElem?_drop])) (fun u hu => h1c u (List.mem_of_mem_drop hu)) (by omega) (fun j hj => ⟨hin j hj, hf _⟩) ?_
  rw [Nat.zero_add, hp]
  refine hK _ (setCells_over hF (by rw [hn, Nat.add_mul]; omega) (fun j hj => by have := hin j hj; rwa [Nat.zero_add] at this)) (fun x hx => World.isSome_setCells g _ _ w x hx) (fun j => by rw [World.frozen?_setCells]; exact hf j)
    (Go.below_setCells (Nat.le_refl _) _ _ _ (Below.refl _ _)) (size_setCells g _ _ w)
where
  size_setCells (b : Nat) : ∀ (vs : List Value) (o : Nat) (w : World), (w.setCells b o vs).heap.size = w.heap.size
  | [], _, _ => rfl
  | v :: r, o, w => by rw [World.setCells, size_setCells b r]; simp

theorem size_setCells' (b : Nat) (vs : List Value) (o : Nat) (w : World) : (w.setCells b o vs).heap.size = w.heap.size := step_append_del.size_setCells b vs o w

/-- Where s[k:] begins in the block of a row. -/
def cutO (cap k size : Nat) : Nat := if cap = k then 0 else k * size
theorem run_cutO {P : Program} {t : TypeId} (ht : P.underlying t = some (.slice (P.elem t))) {size : Nat} (hsz : ∀ w, (sizeOf (P.elem t)).run P w = .ok size w) (g n cap k m : Nat) (hn : n = k + m) (x : Int) (hx : x = k) (w : World) :
    (Instr.sliceAt t (.slice (some ⟨g, 0, none⟩) n cap) (some (.int .i64 x)) none none).run P w = .ok (.slice (some ⟨g, cutO cap k size, none⟩) m (cap - k)) w := by
  rw [run_cut ht hsz _ n cap k (by omega) .i64 x hx w]
  simp only [cutA, cutO, Option.map_some, add_plain0]
  subst hn
  rw [Nat.add_sub_cancel_left]
  by_cases h : cap = k <;> simp [h]
theorem run_part {P : Program} {t : TypeId} (ht : P.underlying t = some (.slice (P.elem t))) {size : Nat} (hsz : ∀ w, (sizeOf (P.elem t)).run P w = .ok size w) (g n cap k h m : Nat) (hk : h = k + m) (hc : h ≤ cap) (h0 : 0 < m) (x y : Int) (hx : x = k) (hy : y = h) (w : World) :
    (Instr.sliceAt t (.slice (some ⟨g, 0, none⟩) n cap) (some (.int .i64 x)) (some (.int .i64 y)) none).run P w = .ok (.slice (some ⟨g, k * size, none⟩) m (cap - k)) w := by
  subst hx hy hk
  rw [run_sliceAt_slice w t _ _ _ _ ht, run_slice_lh w t _ n cap ht .i64 .i64 _ _ (by omega) (by omega) (by omega), hsz]
  simp [Result.andThen, sliced, add_plain0]
  omega
theorem run_within {P : Program} {t : TypeId} (ht : P.underlying t = some (.slice (P.elem t))) {size : Nat} (hsz : ∀ w, (sizeOf (P.elem t)).run P w = .ok size w) (g n cap k h : Nat) (hk : k ≤ h) (hh : h ≤ n) (hc : n ≤ cap) (x y z : Int) (hx : x = k) (hy : y = h) (hz : z = n) (w : World) :
    (Instr.sliceAt t (.slice (some ⟨g, 0, none⟩) n cap) (some (.int .i64 x)) (some (.int .i64 y)) (some (.int .i64 z))).run P w = .ok (.slice (some ⟨g, cutO n k size, none⟩) (h - k) (n - k)) w := by
  subst hx hy hz
  rw [run_sliceAt_slice w t _ _ _ _ ht, run_slice_lhm w t _ n cap ht .i64 .i64 .i64 _ _ _ (by omega) (by omega) (by omega) (by omega), hsz]
  simp only [Result.andThen, sliced, cutO, Int.toNat_natCast, Option.map_some, add_plain0]
  by_cases h : n = k <;> simp [h]
/-- clear of one element. -/
theorem run_clear_one {P : Program} (w : World) (t e ty : TypeId) (z : Value) (ht : P.underlying t = some (.slice e)) (hv : ∀ w, (zeroValue e).run P w = .ok z w) (hz1 : ∀ v ∈ z.cells.toList, v.oneCell' = true) (g o c : Nat)
    (hc : ∀ j, j < z.cells.size → (w.cell? ⟨g, o + j, none⟩).isSome = true) (hf : ∀ j, w.frozen? ⟨g, j, none⟩ = false) :
    (Builtin.clear_ #[t] ty #[.slice (some ⟨g, o, none⟩) 1 c]).run P w = .ok (.tuple #[]) (w.setCells g o z.cells.toList) := by
  have hzc : Builtin.zeroCells z.cells 1 = z.cells := by
    unfold Builtin.zeroCells
    apply Array.ext
    · simp
    · intro i h1 h2
      simp [Nat.mod_eq_of_lt h2, h2]
  have hst := run_storeCells_cells (P := P) g o z.cells.toList 0 w (by simpa using hc) (fun j _ => hf _) hz1
  simp only [Nat.add_zero] at hst
  simp [Builtin.clear_, run_underlying ht, hv, hzc, hst]
end Go.Proofs.Ytejdmefiobgcdaa
