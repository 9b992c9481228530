import Derived.Maps.OwnOps
import Derived.Maps.OwnSet
import Derived.Maps.RangeWalk
import Derived.Test.YtejdmefiobgcdaaRng
namespace Go.Proofs.Ytejdmefiobgcdaa
open Go.RowKit Go.Maps

theorem plainElem_bool_inv {H : Type} {P : Program} {e : TypeId} (he : P.underlying e = some .bool) {v : Value} {z : DataW H × List MemPlace} (h : plainElem P e v = some z) : ∃ x, v = .bool x ∧ z = (.lit (.bool x), []) := by
  unfold plainElem at h
  rw [he] at h
  cases v <;> simp at h
  rename_i x
  exact ⟨x, rfl, h.symm⟩

section
variable {P : Program} {t k e : TypeId} {w w' : World} {b n c : Nat} {f : Int → Bool}
/-- A map of truths: f tells which whole numbers are there; c are there. -/
def BMap (P : Program) (k e : TypeId) (w : World) (b n : Nat) (f : Int → Bool) (c : Nat) : Prop :=
  ∃ D : DataW Unit, w.ownsMap P k (plainElem P e) b n D ∧ size D = c ∧ (∀ x, has D (.int .i64 x) = f x) ∧ ∀ x, f x = true → ∀ z, D.atKey (.int .i64 x) z = .lit (.bool true)
/-- A map of whole numbers. -/
def TMap (P : Program) (k e : TypeId) (w : World) (b n : Nat) (g : Int → Int) : Prop :=
  ∃ D : DataW Unit, w.ownsMap P k (plainElem P e) b n D ∧ ∀ x, D.atKey (.int .i64 x) (.lit (.int .i64 0)) = .lit (.int .i64 (g x))
theorem isKey (x : Int) : WideAt.IsKeyLit (.int .i64 x) := by simp [WideAt.IsKeyLit]
theorem key_ne {x y : Int} (h : x ≠ y) : (Lit.int .i64 x) ≠ .int .i64 y := fun e => h (by injection e)
theorem BMap.kept {row : Option Nat} (h : BMap P k e w b n f c) (hg : w.grownBy w' row) (hne : some b ≠ row) : BMap P k e w' b n f c := by
  obtain ⟨D, h1, h2⟩ := h; exact ⟨D, h1.kept hg hne, h2⟩
theorem TMap.kept {g : Int → Int} {row : Option Nat} (h : TMap P k e w b n g) (hg : w.grownBy w' row) (hne : some b ≠ row) : TMap P k e w' b n g := by
  obtain ⟨D, h1, h2⟩ := h; exact ⟨D, h1.kept hg hne, h2⟩
theorem BMap.alloc (h : BMap P k e w b n f c) (o : Obj) : BMap P k e (w.alloc o) b n f c := h.kept (World.grownBy_alloc w o none) (by simp)
theorem TMap.alloc {g : Int → Int} (h : TMap P k e w b n g) (o : Obj) : TMap P k e (w.alloc o) b n g := h.kept (World.grownBy_alloc w o none) (by simp)
theorem BMap.drew (h : BMap P k e w b n f c) : BMap P k e w.drew b n f c := h
theorem TMap.drew {g : Int → Int} (h : TMap P k e w b n g) : TMap P k e w.drew b n g := h
theorem map_block {D : DataW Unit} (h : w.ownsMap P k (plainElem P e) b n D) : ∃ o : Obj, w.heap[b]? = some o ∧ o.isCells = false := by
  obtain ⟨es, cl, h1, _⟩ := h; exact ⟨_, h1, rfl⟩
theorem BMap.block (h : BMap P k e w b n f c) : ∃ o : Obj, w.heap[b]? = some o ∧ o.isCells = false := by obtain ⟨D, h1, _⟩ := h; exact map_block h1
theorem TMap.block {g : Int → Int} (h : TMap P k e w b n g) : ∃ o : Obj, w.heap[b]? = some o ∧ o.isCells = false := by obtain ⟨D, h1, _⟩ := h; exact map_block h1
theorem BMap.lt (h : BMap P k e w b n f c) : b < w.heap.size := by obtain ⟨o, h1, _⟩ := h.block; exact (Array.getElem?_eq_some_iff.1 h1).1
theorem TMap.lt {g : Int → Int} (h : TMap P k e w b n g) : b < w.heap.size := by obtain ⟨o, h1, _⟩ := h.block; exact (Array.getElem?_eq_some_iff.1 h1).1
theorem BMap.below (h : BMap P k e w b n f c) (hb : Below w.heap.size w w') : BMap P k e w' b n f c := by
  obtain ⟨D, h1, h2⟩ := h
  refine ⟨D, ?_, h2⟩
  have := h1.lt
  obtain ⟨es, cl, a1, a2⟩ := h1
  exact ⟨es, cl, (hb.block b this).trans a1, a2⟩
theorem TMap.below {g : Int → Int} (h : TMap P k e w b n g) (hb : Below w.heap.size w w') : TMap P k e w' b n g := by
  obtain ⟨D, h1, h2⟩ := h
  refine ⟨D, ?_, h2⟩
  have := h1.lt
  obtain ⟨es, cl, a1, a2⟩ := h1
  exact ⟨es, cl, (hb.block b this).trans a1, a2⟩
theorem BMap.set (h : BMap P k e w b n f c) {q : Addr} {v : Value} (hq : w.cell? q = some v) (u : Value) : BMap P k e (w.setCell q u) b n f c := by
  obtain ⟨o, h1, h2⟩ := h.block
  refine h.kept (row := some q.block) ⟨rfl, rfl, rfl, by simp, fun i _ hi => Below.heap_setCell _ _ _ i (fun e => hi (by rw [e]))⟩ (fun e => ?_)
  exact ne_row hq (row := some b) (fun r e => by cases e; exact ⟨o, h1, h2⟩) e.symm
theorem TMap.set {g : Int → Int} (h : TMap P k e w b n g) {q : Addr} {v : Value} (hq : w.cell? q = some v) (u : Value) : TMap P k e (w.setCell q u) b n g := by
  obtain ⟨o, h1, h2⟩ := h.block
  refine h.kept (row := some q.block) ⟨rfl, rfl, rfl, by simp, fun i _ hi => Below.heap_setCell _ _ _ i (fun e => hi (by rw [e]))⟩ (fun e => ?_)
  exact ne_row hq (row := some b) (fun r e => by cases e; exact ⟨o, h1, h2⟩) e.symm
theorem BMap.congr {g : Int → Bool} (h : BMap P k e w b n f c) (hg : ∀ x, f x = g x) : BMap P k e w b n g c := by
  obtain rfl : f = g := funext hg
  exact h
theorem TMap.congr {g g' : Int → Int} (h : TMap P k e w b n g) (hg : ∀ x, g x = g' x) : TMap P k e w b n g' := by
  obtain rfl : g = g' := funext hg
  exact h
theorem BMap.new (w : World) : BMap P k e (w.alloc (.map #[] 0)) w.heap.size 0 (fun _ => false) 0 := ⟨_, World.ownsMap_made w P k _, rfl, fun _ => rfl, fun _ h => by cases h⟩
theorem TMap.new (w : World) : TMap P k e (w.alloc (.map #[] 0)) w.heap.size 0 (fun _ => 0) := ⟨_, World.ownsMap_made w P k _, fun _ => rfl⟩

variable (hk : P.underlying k = some (.int .i64)) (ht : P.underlying t = some (.map k e))
include hk ht
theorem BMap.look (h : BMap P k e w b n f c) (he : P.underlying e = some .bool) (hz : (zeroValue e).run P w = .ok (.bool false) w) {x : Int} (hx : (Lit.int .i64 x).wf = true) :
    (Instr.lookup t (.map (some b)) (.int .i64 x) false).run P w = .ok (.bool (f x)) w := by
  obtain ⟨D, h1, _, h3, h4⟩ := h
  obtain ⟨v, ps, hrun, hv⟩ := h1.lookup (int_keyed hk) ht hz (plainElem_bool he false) (keyOf_int_mk hk hx)
  rw [hrun]
  obtain ⟨y, rfl, hy⟩ := plainElem_bool_inv he hv
  cases hf : f x with
  | true =>
    rw [h4 x hf] at hy
    simp at hy
    rw [hy.1]
  | false =>
    rw [atKey_of_not_has (by rw [h3, hf])] at hy
    simp at hy
    rw [hy.1]
theorem TMap.look {g : Int → Int} (h : TMap P k e w b n g) (he : P.underlying e = some (.int .i64)) (hz : (zeroValue e).run P w = .ok (.int .i64 0) w) {x : Int} (hx : (Lit.int .i64 x).wf = true) :
    (Instr.lookup t (.map (some b)) (.int .i64 x) false).run P w = .ok (.int .i64 (g x)) w := by
  obtain ⟨D, h1, h2⟩ := h
  obtain ⟨v, hrun, hat, _⟩ := h1.lookup_int (int_keyed hk) ht he hz (keyOf_int_mk hk hx)
  rw [hrun]
  rw [h2] at hat
  injection hat with hat
  injection hat with _ hat
  rw [hat]
theorem BMap.put (h : BMap P k e w b n f c) (he : P.underlying e = some .bool) (hn : n < maxLen) {x : Int} (hx : (Lit.int .i64 x).wf = true) :
    ∃ w', (Instr.mapUpdate t (.map (some b)) (.int .i64 x) (.bool true)).run P w = .ok () w' ∧ BMap P k e w' b (n + 1) (fun y => decide (y = x) || f y) (if f x = true then c else c + 1) ∧ w.mapTurned w' b := by
  obtain ⟨D, h1, h2, h3, h4⟩ := h
  have htidy := h1.tidy (int_keyed hk)
  obtain ⟨w', hrun, r1, r2⟩ := h1.store (int_keyed hk) ht hn (keyOf_int_mk hk hx) (plainElem_bool he true)
  refine ⟨w', hrun, ⟨_, r1, ?_, fun y => ?_, fun y hy z => ?_⟩, r2⟩
  · rw [size_put htidy, h3, h2]
  · by_cases e0 : y = x
    · subst e0; rw [has_put_same htidy.isMap (isKey _)]; simp
    · rw [has_put_other (key_ne e0), h3]; simp [e0]
  · by_cases e0 : y = x
    · subst e0; rw [atKey_put_same htidy.isMap (isKey _)]
    · rw [atKey_put_other (key_ne e0)]; exact h4 y (by simpa [e0] using hy) z
theorem TMap.put {g : Int → Int} (h : TMap P k e w b n g) (he : P.underlying e = some (.int .i64)) (hn : n < maxLen) {x v : Int} (hx : (Lit.int .i64 x).wf = true) (hv : (Lit.int .i64 v).wf = true) :
    ∃ w', (Instr.mapUpdate t (.map (some b)) (.int .i64 x) (.int .i64 v)).run P w = .ok () w' ∧ TMap P k e w' b (n + 1) (fun y => if y = x then v else g y) ∧ w.mapTurned w' b := by
  obtain ⟨D, h1, h2⟩ := h
  obtain ⟨w', hrun, r1, r2⟩ := h1.store (int_keyed hk) ht hn (keyOf_int_mk hk hx) (plainElem_int he hv)
  refine ⟨w', hrun, ⟨_, r1, fun y => ?_⟩, r2⟩
  by_cases e0 : y = x
  · subst e0; rw [atKey_put_same h1.isMap (isKey _)]; simp
  · rw [atKey_put_other (key_ne e0), h2]; simp [e0]
theorem BMap.drop (h : BMap P k e w b n f c) {x : Int} (hx : (Lit.int .i64 x).wf = true) (ty : TypeId) :
    ∃ w', (Builtin.delete_ #[t, k] ty #[.map (some b), .int .i64 x]).run P w = .ok (.tuple #[]) w' ∧ BMap P k e w' b n (fun y => f y && decide (y ≠ x)) (if f x = true then c - 1 else c) ∧ w.mapTurned w' b := by
  obtain ⟨D, h1, h2, h3, h4⟩ := h
  have htidy := h1.tidy (int_keyed hk)
  obtain ⟨w', hrun, r1, r2⟩ := h1.drop (int_keyed hk) ht (keyOf_int_mk hk hx) ty
  refine ⟨w', hrun, ⟨_, r1, ?_, fun y => ?_, fun y hy z => ?_⟩, r2⟩
  · have := size_del (k := .int .i64 x) htidy
    rw [h3, h2] at this
    split <;> simp_all <;> omega
  · by_cases e0 : y = x
    · subst e0; rw [has_del_same]; simp
    · rw [has_del_other (key_ne e0), h3]; simp [e0]
  · by_cases e0 : y = x
    · subst e0; simp at hy
    · rw [atKey_del_other (key_ne e0)]; exact h4 y (by simp at hy; exact hy.1) z
omit hk in
theorem BMap.len (h : BMap P k e w b n f c) (ty : TypeId) : (Builtin.len_ #[t] ty #[.map (some b)]).run P w = .ok (.int .i64 c) w := by
  obtain ⟨D, h1, h2, _⟩ := h
  rw [h1.len ht ty, h2]
end
end Go.Proofs.Ytejdmefiobgcdaa
