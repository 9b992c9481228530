import Derived.RangeFuncNested
import Derived.RangeFuncBound
import Derived.RangeFuncCalls
import Derived.RangeFuncLeaves
import Derived.Shelf.Abstract
import Derived.Shelf.RegionOpen
import Derived.OwnWalkIn
import Derived.TacticsInMore
import Derived.LoopNIn
import Derived.LoopIn
import Derived.Maps.OwnIn
import Derived.Maps.AppendAt
import Derived.Test.YtejdmefiobgcdaaDel
namespace Go.Proofs.Ytejdmefiobgcdaa
open Go.RowKit Go.Proofs Go.Shelf

/-- Cells that a piece of code relies on. -/
def Holds (W : World) (cs : List (Addr × Value)) : Prop := ∀ p ∈ cs, W.cell? p.1 = some p.2 ∧ W.frozen? p.1 = false
section
variable {W W' : World} {cs ds : List (Addr × Value)}
theorem Holds.nil (W : World) : Holds W [] := fun _ h => by cases h
theorem Holds.cons {a : Addr} {v : Value} (h1 : W.cell? a = some v) (h2 : W.frozen? a = false) (h : Holds W cs) : Holds W ((a, v) :: cs) := fun p hp => by
  rcases List.mem_cons.1 hp with rfl | h'
  · exact ⟨h1, h2⟩
  · exact h p h'
theorem Holds.one {a : Addr} {v : Value} (h : Holds W ((a, v) :: cs)) : W.cell? a = some v ∧ W.frozen? a = false := h (a, v) (by simp)
theorem Holds.tail {p : Addr × Value} (h : Holds W (p :: cs)) : Holds W cs := fun q hq => h q (List.mem_cons_of_mem _ hq)
theorem Holds.grown {row : Option Nat} (h : Holds W cs) (hg : W.grownBy W' row) (hne : ∀ p ∈ cs, some p.1.block ≠ row) : Holds W' cs := fun p hp =>
  ⟨(World.cell?_of_block (hg.block p.1.block (lt_of_cell (h p hp).1) (hne p hp))).trans (h p hp).1, (World.frozen?_of_block (hg.block p.1.block (lt_of_cell (h p hp).1) (hne p hp))).trans (h p hp).2⟩
theorem Holds.alloc (h : Holds W cs) (o : Obj) : Holds (W.alloc o) cs := h.grown (World.grownBy_alloc W o none) (fun _ _ => by simp)
theorem Holds.drew (h : Holds W cs) : Holds W.drew cs := h
theorem Holds.far (h : Holds W cs) (q : Addr) (u : Value) (hne : ∀ p ∈ cs, p.1.block ≠ q.block) : Holds (W.setCell q u) cs := fun p hp =>
  ⟨(World.cell?_setCell_other W q p.1 u (fun e => hne p hp (by rw [e]))).trans (h p hp).1, by rw [World.frozen?_setCell]; exact (h p hp).2⟩
theorem Holds.below (h : Holds W cs) (hb : Below W.heap.size W W') : Holds W' cs := fun p hp => ⟨cell_below hb (h p hp).1, frozen_at hb (h p hp).1 (h p hp).2⟩
theorem Holds.belowB {B : Nat} (h : Holds W cs) (hb : Below B W W') (hne : ∀ p ∈ cs, p.1.block < B) : Holds W' cs := fun p hp => ⟨(hb.cell (hne p hp)).trans (h p hp).1, (hb.frozen (hne p hp)).trans (h p hp).2⟩
end
theorem Holds.get {W : World} {cs : List (Addr × Value)} (h : Holds W cs) (i : Nat) {a : Addr} {v : Value} (hi : cs[i]? = some (a, v)) : W.cell? a = some v ∧ W.frozen? a = false := h (a, v) (List.mem_of_getElem? hi)
/-- The cells of a block that was just made. -/
theorem Holds.new (W : World) (cs : Array Value) (t : TypeId) {g : Nat} (hg : g = W.heap.size) (i : Nat) {v : Value} (hv : cs[i]? = some v) : (W.alloc (.cells cs t)).cell? ⟨g, i, none⟩ = some v ∧ (W.alloc (.cells cs t)).frozen? ⟨g, i, none⟩ = false := by
  subst hg
  refine ⟨?_, by simp [go_sem]⟩
  rw [cell_of_row (W.alloc (.cells cs t)) W.heap.size i cs t (0, 0) (heap_alloc_new W _)]
  exact hv
theorem Holds.cons' {W : World} {cs : List (Addr × Value)} {a : Addr} {v : Value} (h1 : W.cell? a = some v ∧ W.frozen? a = false) (h : Holds W cs) : Holds W ((a, v) :: cs) := h.cons h1.1 h1.2
theorem ne_row {A : World} {p : Addr} {v : Value} {row : Option Nat} (h : A.cell? p = some v) (hr : ∀ r, row = some r → ∃ o : Obj, A.heap[r]? = some o ∧ o.isCells = false) : some p.block ≠ row := fun e => by
  obtain ⟨o, ho, hc⟩ := cells_of_cell h
  obtain ⟨o', ho', hc'⟩ := hr _ e.symm
  rw [ho] at ho'
  cases ho'
  rw [hc] at hc'
  cases hc'
theorem Holds.own {β : Type} (cs : β → List (Addr × Value)) : Own (fun (s : β) W => Holds W (cs s)) := fun s A B row hs hg hr =>
  hs.grown hg (fun p hp => ne_row (hs p hp).1 hr)
theorem own_row {β : Type} (n₀ : Nat) (e : TypeId) (size : Nat) (v : β → Value) (k : β → Nat) (f : β → List Value) : Own (fun (s : β) W => W.ownsRow n₀ e size (v s) (k s) (f s)) := fun s A B row hs hg hr => by
  refine hs.kept hg ?_
  rcases hs.2 with ⟨h, _⟩ | ⟨g, cap, cur, h, _, hgb, _⟩
  · exact .inl (by rw [h]; rfl)
  · refine .inr (fun e => ?_)
    rw [h] at e
    obtain ⟨o, ho, hc⟩ := hr g e.symm
    rw [hgb] at ho
    cases ho
    cases hc
theorem boxed_ne {W : World} {B : Nat} {t e : TypeId} {u v : Value} {n₀ size k : Nat} {xs : List Value} (hb : Boxed W B t u) (hr : W.ownsRow n₀ e size v k xs) (hne : e ≠ t) : v.ownBlock ≠ some B := by
  rcases hr.2 with ⟨rfl, _⟩ | ⟨g, cap, cur, rfl, _, hh, _⟩
  · simp [Value.ownBlock]
  · intro he
    have : g = B := by simpa [Value.ownBlock] using he
    subst this
    rw [show W.heap[g]? = _ from hb] at hh
    injection hh with hh
    injection hh with _ ht
    exact hne ht.symm
theorem own_cells {W : World} {B : Nat} {e : TypeId} {v : Value} {size k : Nat} {xs : List Value} (hr : W.ownsRow B e size v k xs) (j : Nat) (o : Obj) (hj : v.ownBlock = some j) (ho : W.heap[j]? = some o) : o.isCells = true := by
  rcases hr.2 with ⟨rfl, _⟩ | ⟨g, cap, cur, rfl, _, hh, _⟩
  · simp [Value.ownBlock] at hj
  · have : g = j := by simpa [Value.ownBlock] using hj
    subst this
    rw [ho] at hh
    injection hh with hh
    subst hh
    rfl
theorem own_far {W : World} {B : Nat} {e : TypeId} {v : Value} {size k : Nat} {xs : List Value} (hr : W.ownsRow B e size v k xs) {p : Nat} (hp : p < B) : some p ≠ v.ownBlock := fun h => by
  have := (hr.lt p h.symm).1
  omega
theorem own_set {W : World} {B : Nat} {e : TypeId} {v : Value} {size k : Nat} {xs : List Value} {q : Addr} (hr : W.ownsRow B e size v k xs) (hq : q.block < B) (u : Value) : (W.setCell q u).ownsRow B e size v k xs :=
  hr.kept (row := some q.block) ⟨rfl, rfl, rfl, by simp, fun k _ hk => Below.heap_setCell _ _ _ k (fun e => hk (by rw [e]))⟩ (.inr (Ne.symm (own_far hr hq)))
theorem own_ex {β γ : Type} {I : γ → β → World → Prop} (h : ∀ c, Own (I c)) : Own (fun s W => ∃ c, I c s W) := fun s A B row hs hg hr => by
  obtain ⟨c, hs⟩ := hs
  exact ⟨c, h c s A B row hs hg hr⟩
theorem own_and {β : Type} {I J : β → World → Prop} (h : Own I) (k : Own J) : Own (fun s W => I s W ∧ J s W) := fun s A B row hs hg hr => ⟨h s A B row hs.1 hg hr, k s A B row hs.2 hg hr⟩
theorem own_pure {β : Type} (p : β → Prop) : Own (fun s (_ : World) => p s) := fun _ _ _ _ hs _ _ => hs
theorem own_reads {β : Type} (ok : β → Nat → Prop) (size : Nat) (A : β → Option Addr) (n : β → Nat) (xs : β → List Value) : Own (fun (s : β) W => Reads W (ok s) size (A s) (n s) (xs s)) := fun s X Y row hs hg hr =>
  ⟨hs.1, fun hn => by
    obtain ⟨ad, e, hk, hc⟩ := hs.2 hn
    exact ⟨ad, e, hk, fun j u hu => (World.cell?_of_block (hg.block _ (lt_of_cell (hc j u hu)) (ne_row (hc j u hu) hr))).trans (hc j u hu)⟩⟩
theorem reads_put {X : World} {ok : Nat → Prop} {size n D : Nat} {A : Option Addr} {xs : List Value} {o : Obj} (h : Reads X ok size A n xs) (hD : X.heap[D]? = some o) (ho : o.isCells = false) (o' : Obj) : Reads (X.putObj D o') ok size A n xs :=
  own_reads (β := Unit) (fun _ => ok) size (fun _ => A) (fun _ => n) (fun _ => xs) () X _ (some D) h (grownBy_putObj' X D o') (fun r e => by cases e; exact ⟨_, hD, ho⟩)
theorem cell_put {X : World} {D : Nat} {p : Addr} (hne : p.block ≠ D) (o' : Obj) : (X.putObj D o').cell? p = X.cell? p := World.cell?_of_block (World.putObj_heap_other (by omega))
theorem below_put {B D : Nat} {a X : World} {o : Obj} (h : Below B a X) (hB : B ≤ X.heap.size) (hD : X.heap[D]? = some o) (hl : B ≤ D) (o' : Obj) : Below B a (X.putObj D o') :=
  h.grown (grownBy_putObj' X D o') hB (fun k e => by cases e; exact hl)
/-- A function that held a range over a function returns. -/
theorem bodyPostM_ret {P : Program} {n D : Nat} {fn : Func} {R : Ending → World → Prop} {tmps : Array Value} {X : World} {v : Value} (hD : X.heap[D]? = some (.deferred (some [])))
    (hv : (results fn tmps).run P (X.putObj D (.deferred none)) = .ok v (X.putObj D (.deferred none))) (h : R (.returned v) (X.putObj D (.deferred none))) :
    bodyPostM Fence.wide n P fn R .ret { tmps := tmps, defers := [{ target := .collected D, args := #[] }] } X :=
  ⟨by simp, .inl ⟨_, _, rfl, run_takeDeferred hD, ⟨_, hv, h⟩⟩⟩
theorem calls_good {P : Program} {f : FuncId} {args : Array Value} {X W : World} {R : Ending → Prop} (h : Calls P f args W (fun e w' => R e ∧ Below W.heap.size W w')) (hb : Below X.heap.size X W) :
    Calls P f args W fun e w' => R e ∧ Below X.heap.size X w' := h.mono fun _ _ ⟨a, b⟩ => ⟨a, below_then hb hb.size b⟩
end Go.Proofs.Ytejdmefiobgcdaa
