import Derived.Test.YtejdmefiobgcdaaMp
namespace Go.Proofs.Ytejdmefiobgcdaa
open Go.RowKit Go.Maps
section
variable {P : Program} {t k e : TypeId} (w : World) {b n c : Nat} {f : Int → Bool} {ops : Array Oper} {rest : List Oper} {o : Oper} {a : Act} {Q : Exit → Act → World → Prop}
theorem wpList_bput (hg : o.guard = none) (m x v : Operand) (t : TypeId) (hop : o.op = Op.mapUpdate t m x v) (k e : TypeId) (hk : P.underlying k = some (.int .i64)) (ht : P.underlying t = some (.map k e)) (he : P.underlying e = some .bool)
    (b n : Nat) (f : Int → Bool) (c : Nat) (hm : a.eval m = .map (some b)) (h : BMap P k e w b n f c) (hn : n < maxLen) (key : Int) (hx : a.eval x = .int .i64 key) (hv : a.eval v = .bool true) (hw : (Lit.int .i64 key).wf = true)
    (hK : ∀ w', BMap P k e w' b (n + 1) (fun y => decide (y = key) || f y) (if f key = true then c else c + 1) → w.mapTurned w' b → wpList P ops Q rest (a.put o.dst undef) w') : wpList P ops Q (o :: rest) a w := by
  refine wpList_plain hg fun K' hK' => ?_
  obtain ⟨w', hrun, r1, r2⟩ := h.put hk ht he hn hw
  unfold Oper.wp
  simp [execOp, hop, hm, hx, hv, hrun, Result.andThen]
  exact hK' _ _ (hK w' r1 r2)
theorem wpList_tput (hg : o.guard = none) (m x v : Operand) (t : TypeId) (hop : o.op = Op.mapUpdate t m x v) (k e : TypeId) (hk : P.underlying k = some (.int .i64)) (ht : P.underlying t = some (.map k e)) (he : P.underlying e = some (.int .i64))
    (b n : Nat) (g : Int → Int) (hm : a.eval m = .map (some b)) (h : TMap P k e w b n g) (hn : n < maxLen) (key val : Int) (hx : a.eval x = .int .i64 key) (hv : a.eval v = .int .i64 val) (hw : (Lit.int .i64 key).wf = true) (hw2 : (Lit.int .i64 val).wf = true)
    (hK : ∀ w', TMap P k e w' b (n + 1) (fun y => if y = key then val else g y) → w.mapTurned w' b → wpList P ops Q rest (a.put o.dst undef) w') : wpList P ops Q (o :: rest) a w := by
  refine wpList_plain hg fun K' hK' => ?_
  obtain ⟨w', hrun, r1, r2⟩ := h.put hk ht he hn hw hw2
  unfold Oper.wp
  simp [execOp, hop, hm, hx, hv, hrun, Result.andThen]
  exact hK' _ _ (hK w' r1 r2)
theorem wpList_bdrop (hg : o.guard = none) (m x : Operand) (t k : TypeId) (hop : o.op = Op.call { callee := Callee.builtin Builtin.delete, args := #[m, x], argTypes := #[t, k] }) (e : TypeId) (hk : P.underlying k = some (.int .i64)) (ht : P.underlying t = some (.map k e))
    (b n : Nat) (f : Int → Bool) (c : Nat) (hm : a.eval m = .map (some b)) (h : BMap P k e w b n f c) (key : Int) (hx : a.eval x = .int .i64 key) (hw : (Lit.int .i64 key).wf = true)
    (hK : ∀ w', BMap P k e w' b n (fun y => f y && decide (y ≠ key)) (if f key = true then c - 1 else c) → w.mapTurned w' b → wpList P ops Q rest (a.put o.dst (.tuple #[])) w') : wpList P ops Q (o :: rest) a w := by
  refine wpList_plain hg fun K' hK' => ?_
  obtain ⟨w', hrun, r1, r2⟩ := h.drop hk ht hw o.type
  unfold Oper.wp
  simp [execOp, hop, resolve, invoke, builtin, hm, hx, hrun, Result.andThen]
  exact hK' _ _ (hK w' r1 r2)
theorem wpList_next_b (hg : o.guard = none) (it : Operand) (hop : o.op = Op.next it false) (k e : TypeId) (hk : P.underlying k = some (.int .i64)) (he : P.underlying e = some .bool)
    (b r n : Nat) (D : DataW Unit) (left : Lit → Bool) (cnt : Nat) (hit : a.eval it = .pointer (some ⟨r, 0, none⟩)) (h : w.ranges P k (plainElem P e) b r n D left cnt)
    (hlh : ∀ x, left (.int .i64 x) = true → has D (.int .i64 x) = true) (hd : ∀ x, has D (.int .i64 x) = true → ∀ z, D.atKey (.int .i64 x) z = .lit (.bool true))
    (hDone : wpList P ops Q rest (a.put o.dst (.tuple #[.bool false])) w)
    (hMore : ∀ (x : Int) (w' : World) (cnt' : Nat), (Lit.int .i64 x).wf = true → left (.int .i64 x) = true → w'.ranges P k (plainElem P e) b r n D (fun z => left z && !z.sameKey (.int .i64 x)) cnt' → cnt' < cnt →
      w.grownBy w' (some r) → w'.heap.size = w.heap.size → (Instr.entry (.pointer (some ⟨r, 0, none⟩))).run P w' = .ok (.tuple #[.int .i64 x, .bool true]) w' → wpList P ops Q rest (a.put o.dst (.tuple #[.bool true, .int .i64 x, .bool true])) w') : wpList P ops Q (o :: rest) a w := by
  refine wpList_next_ranges w hg it hop k (int_keyed hk) (plainElem P e) (Value.int .i64) Value.bool (fun key kl hkey => by obtain ⟨x, rfl, _⟩ := Maps.keyOf_int_inv hk hkey; exact ⟨x, rfl⟩) (fun v y hv => by obtain ⟨c, rfl, _⟩ := plainElem_bool_inv he hv; exact ⟨c, rfl⟩)
    b r n D left cnt hit h (fun _ _ => hDone) (fun x c kl y w' cnt' hkey hlk hv hat hrg hlt hgr hsz hen => ?_)
  obtain ⟨x', ex, rfl, hwx⟩ := Maps.keyOf_int_inv hk hkey
  cases ex
  obtain ⟨c', ec, rfl⟩ := plainElem_bool_inv he hv
  cases ec
  have h1 := hat (.lit (.bool false))
  rw [hd x (hlh x hlk)] at h1
  injection h1 with h1
  injection h1 with h1
  subst h1
  exact hMore x w' cnt' hwx hlk hrg hlt hgr hsz hen
/-- What is no map stays as it was when a map is turned. -/
theorem holds_turned {w w' : World} {cs : List (Addr × Value)} {b : Nat} (h : Holds w cs) (ht : w.mapTurned w' b) : Holds w' cs := by
  have hg := ht.grown
  obtain ⟨es, cl, es', cl', h1, _⟩ := ht
  exact (Holds.own (β := Unit) (fun _ => cs)) () w w' (some b) h hg (fun r e => by cases e; exact ⟨_, h1, rfl⟩)
end
section
variable {P : Program} {k e : TypeId} {Z : World} {B b n c : Nat} {f : Int → Bool} {g : Int → Int} {u0 u1 v0 v1 : Value}
/-- Both cells of a box are written. -/
theorem box_set (h0 : Z.cell? ⟨B, 0, none⟩ = some u0) (h1 : Z.cell? ⟨B, 1, none⟩ = some u1) (f0 : Z.frozen? ⟨B, 0, none⟩ = false) (f1 : Z.frozen? ⟨B, 1, none⟩ = false) (v0 v1 : Value) :
    Holds ((Z.setCell ⟨B, 0, none⟩ v0).setCell ⟨B, 1, none⟩ v1) [(⟨B, 0, none⟩, v0), (⟨B, 1, none⟩, v1)] :=
  .cons (by simp [go_sem, h0, h1]) (by simp [go_sem, f0]) (.cons (by simp [go_sem, h0, h1]) (by simp [go_sem, f1]) (.nil _))
theorem BMap.box (h : BMap P k e Z b n f c) (h0 : Z.cell? ⟨B, 0, none⟩ = some u0) (h1 : Z.cell? ⟨B, 1, none⟩ = some u1) (v0 v1 : Value) : BMap P k e ((Z.setCell ⟨B, 0, none⟩ v0).setCell ⟨B, 1, none⟩ v1) b n f c :=
  (h.set h0 v0).set (q := ⟨B, 1, none⟩) (v := u1) (by simp [go_sem, h0, h1]) v1
theorem TMap.box (h : TMap P k e Z b n g) (h0 : Z.cell? ⟨B, 0, none⟩ = some u0) (h1 : Z.cell? ⟨B, 1, none⟩ = some u1) (v0 v1 : Value) : TMap P k e ((Z.setCell ⟨B, 0, none⟩ v0).setCell ⟨B, 1, none⟩ v1) b n g :=
  (h.set h0 v0).set (q := ⟨B, 1, none⟩) (v := u1) (by simp [go_sem, h0, h1]) v1
end
end Go.Proofs.Ytejdmefiobgcdaa
