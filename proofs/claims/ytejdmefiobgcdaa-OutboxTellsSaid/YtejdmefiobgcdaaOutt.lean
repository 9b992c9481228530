import Derived.Test.YtejdmefiobgcdaaOuti
namespace Go.Proofs.Ytejdmefiobgcdaa
open Go.RowKit Go.Proofs Go.Shelf
theorem min2_ints (k k' : IntKind) (x y : Int) : Builtin.min2 (.int k x) (.int k' y) = pure (.int k (if y < x then y else x)) := by simp only [Builtin.min2]
theorem min_pair (ats : Array TypeId) (ty : TypeId) (a b : Value) : Builtin.min_ ats ty #[a, b] = (Builtin.min2 a b >>= fun s => pure s) := by simp only [Builtin.min_, List.foldlM_cons, List.foldlM_nil]

def nextDue (now : Int) : Int := if 1099511627776 < now + 10 then 1099511627776 else now + 10
def setDue (r : List O) (i : Nat) (d : Int) : List O := match r[i]? with | some o => r.set i { o with due := d } | none => r
theorem setDue_length (r : List O) (i : Nat) (d : Int) : (setDue r i d).length = r.length := by unfold setDue; split <;> simp
def tellRows {n : Nat} (l : List O) (now : Int) (pre : List (DX n)) : List O := pre.foldl (fun r x => setDue r x.1.1 (nextDue now)) l
theorem tellRows_snoc {n : Nat} (l : List O) (now : Int) (pre : List (DX n)) (x : DX n) : tellRows l now (pre ++ [x]) = setDue (tellRows l now pre) x.1.1 (nextDue now) := by simp [tellRows]
theorem tellRows_length {n : Nat} (l : List O) (now : Int) (pre : List (DX n)) : (tellRows l now pre).length = l.length := by
  have : ∀ (pre : List (DX n)) (r : List O), (pre.foldl (fun r x => setDue r x.1.1 (nextDue now)) r).length = r.length := by
    intro pre
    induction pre with
    | nil => intro r; rfl
    | cons x pre ih => intro r; rw [List.foldl_cons, ih, setDue_length]
  exact this pre l
theorem flat_setDue (r : List O) (i : Nat) (hi : i < r.length) (d : Int) : (setDue r i d).flatMap O.c = (r.flatMap O.c).set (i * 4 + 3) (.int .i64 d) := by
  unfold setDue
  rw [List.getElem?_eq_getElem hi]
  dsimp only
  induction r generalizing i with
  | nil => simp at hi
  | cons x r ih =>
    cases i with
    | zero => simp [O.c]
    | succ i =>
      have := ih i (by simpa using hi)
      simp only [List.getElem_cons_succ, List.set_cons_succ, List.flatMap_cons]
      rw [this]
      simp only [O.c, List.cons_append, List.nil_append]
      rw [show (i + 1) * 4 + 3 = i * 4 + 3 + 1 + 1 + 1 + 1 by omega]
      simp only [List.set_cons_succ]
def tellO (now : Int) (o : O) : O := if o.due ≤ now then { o with due := nextDue now } else o
theorem tell_upto (l : List O) (now : Int) (k : Nat) (hk : k ≤ l.length) : tellRows l now (dueAt l now k) = (l.take k).map (tellO now) ++ l.drop k ∧ (dueAt l now k).map (fun x => x.1.2) = (l.take k).filter (fun o => decide (o.due ≤ now)) := by
  induction k with
  | zero => exact ⟨rfl, rfl⟩
  | succ k ih =>
    obtain ⟨h1, h2⟩ := ih (by omega)
    have hlt : k < l.length := by omega
    have ho : l[k]? = some l[k] := List.getElem?_eq_getElem hlt
    have ht : l.take (k + 1) = l.take k ++ [l[k]] := by rw [List.take_add_one, ho]; rfl
    have hd : l.drop k = l[k] :: l.drop (k + 1) := List.drop_eq_getElem_cons hlt
    have hl : ((l.take k).map (tellO now)).length = k := by simp; omega
    by_cases h : l[k].due ≤ now
    · rw [dueAt_yes hlt ho h, tellRows_snoc, List.map_append, h1, h2, ht, hd]
      simp only [List.map_cons, List.map_nil]
      clear ho ht hd h1 h2 ih
      generalize l[k] = x at h ⊢
      generalize l.take k = a at hl ⊢
      generalize l.drop (k + 1) = b
      refine ⟨?_, ?_⟩
      · unfold setDue
        rw [List.getElem?_append_right (by omega), hl, Nat.sub_self]
        simp only [List.getElem?_cons_zero]
        rw [List.set_append_right _ _ (by omega), hl, Nat.sub_self]
        simp [tellO, h]
      · simp [h, List.filter_append]
    · rw [dueAt_no ho h, h1, h2, ht, hd]
      clear ho ht hd h1 h2 ih
      generalize l[k] = x at h ⊢
      generalize l.take k = a at hl ⊢
      generalize l.drop (k + 1) = b
      refine ⟨?_, ?_⟩
      · simp [tellO, h]
      · simp [h, List.filter_append]
theorem tell_all (l : List O) (now : Int) : tellRows l now (dueAt l now l.length) = l.map (tellO now) ∧ (dueAt l now l.length).map (fun x => x.1.2) = l.filter (fun o => decide (o.due ≤ now)) := by
  have := tell_upto l now l.length (Nat.le_refl _)
  simpa using this
end Go.Proofs.Ytejdmefiobgcdaa
