import Derived.WalkKit
import Derived.WalkSpells
import Derived.WalkLawsBesides
import Derived.Deep.QuietTactic
import Derived.BigQuiet
import Derived.Below
import Derived.Laws.OwnMore
import Derived.Deep.AppendLies
import Derived.Deep.Draws
import Derived.ArgAppend
import Derived.Lib.Hide
import Derived.StillTailTactics
import Derived.RegionTactic
import Derived.Deep.RegionWith
namespace Go.Proofs.Ytejdmefiobgcdaa
open Go.RowKit

/-! Reading a slice's cells -/
theorem block_of_add (a : Addr) (n : Nat) : (a.add n).block = a.block := by unfold Addr.add; split <;> rfl
theorem add_of_add (a : Addr) (i j : Nat) : (a.add i).add j = a.add (i + j) := by
  unfold Addr.add
  by_cases hi : i = 0 <;> by_cases hj : j = 0 <;> simp [hi, hj, Nat.add_assoc]

/-- A slice of n elements (size cells each) at A reads as the cells xs, in w; its block is ok. -/
def Reads (w : World) (ok : Nat → Prop) (size : Nat) (A : Option Addr) (n : Nat) (xs : List Value) : Prop :=
  xs.length = n * size ∧ (0 < n → ∃ ad, A = some ad ∧ ok ad.block ∧ ∀ j u, xs[j]? = some u → w.cell? (ad.add j) = some u)

theorem lt_of_cell {w : World} {a : Addr} {v : Value} (h : w.cell? a = some v) : a.block < w.heap.size := World.block_lt_of_cell? w a h

section
variable {w w' : World} {ok ok' : Nat → Prop} {size n : Nat} {A : Option Addr} {xs : List Value}
theorem Reads.none_ (A : Option Addr) : Reads w ok size A 0 [] := ⟨by simp, fun h => absurd h (by omega)⟩
theorem Reads.mono (h : Reads w ok size A n xs) (hok : ∀ k, ok k → ok' k) : Reads w ok' size A n xs :=
  ⟨h.1, fun hn => by
    obtain ⟨ad, e, hk, hc⟩ := h.2 hn
    exact ⟨ad, e, hok _ hk, hc⟩⟩
theorem Reads.keep (h : Reads w ok size A n xs) (hk : ∀ p : Addr, ok p.block → p.block < w.heap.size → w'.cell? p = w.cell? p) : Reads w' ok size A n xs :=
  ⟨h.1, fun hn => by
    obtain ⟨ad, e, ho, hc⟩ := h.2 hn
    exact ⟨ad, e, ho, fun j u hu => (hk _ (by rw [block_of_add]; exact ho) (lt_of_cell (hc j u hu))).trans (hc j u hu)⟩⟩
theorem Reads.below (h : Reads w ok size A n xs) (hb : Below w.heap.size w w') : Reads w' ok size A n xs := h.keep fun _ _ hp => hb.cell hp
theorem Reads.drew (h : Reads w ok size A n xs) : Reads w.drew ok size A n xs := h
theorem Reads.drewN (h : Reads w ok size A n xs) (k : Nat) : Reads (w.drewN k) ok size A n xs := h
theorem Reads.alloc (h : Reads w ok size A n xs) (o : Obj) : Reads (w.alloc o) ok size A n xs := h.keep fun p _ hp => World.cell?_alloc_lt w o p hp
theorem Reads.far (h : Reads w ok size A n xs) {p : Addr} (hne : ∀ k, ok k → k ≠ p.block) (u : Value) : Reads (w.setCell p u) ok size A n xs :=
  h.keep fun q hq _ => World.cell?_setCell_other w p q u (fun e => hne _ hq (by rw [e]))
theorem Reads.grown (h : Reads w ok size A n xs) {row : Option Nat} (hg : w.grownBy w' row) (hne : ∀ k, ok k → some k ≠ row) : Reads w' ok size A n xs :=
  h.keep fun p hp hl => World.cell?_of_block (hg.block p.block hl (hne _ hp))
theorem Reads.lt (h : Reads w ok size A n xs) (hs : 0 < size) : Reads w (fun k => ok k ∧ k < w.heap.size) size A n xs :=
  ⟨h.1, fun hn => by
    obtain ⟨ad, e, hk, hc⟩ := h.2 hn
    have hl : 0 < xs.length := by rw [h.1]; exact Nat.mul_pos hn hs
    have := lt_of_cell (hc 0 _ (List.getElem?_eq_getElem hl))
    rw [block_of_add] at this
    exact ⟨ad, e, ⟨hk, this⟩, hc⟩⟩
theorem Reads.of_own {base : Nat} {e : TypeId} {c : Nat} (h : w.ownsRow base e size (.slice A n c) n xs) : Reads w (fun k => base ≤ k) size A n xs := by
  refine ⟨h.1, fun hn => ?_⟩
  obtain ⟨g, cap, hv, hb, hlt⟩ := h.form hn
  have hA : A = some ⟨g, 0, none⟩ := by injection hv
  subst hA
  exact ⟨_, rfl, hb, h.cells (g := g) rfl⟩
/-- The first m elements. -/
theorem Reads.take (h : Reads w ok size A n xs) {m : Nat} (hm : m ≤ n) : Reads w ok size A m (xs.take (m * size)) := by
  refine ⟨by rw [List.length_take, h.1]; exact Nat.min_eq_left (Nat.mul_le_mul_right _ hm), fun hn => ?_⟩
  obtain ⟨ad, e, hk, hc⟩ := h.2 (by omega)
  exact ⟨ad, e, hk, fun j u hu => hc j u (by rw [List.getElem?_take] at hu; split at hu; exact hu; cases hu)⟩
theorem Reads.cut (h : Reads w ok size A n xs) {k cap : Nat} (hk : k ≤ n) (hc : n ≤ cap) :
    Reads w ok size (if cap = k then A else A.map (·.add (k * size))) (n - k) (xs.drop (k * size)) := by
  refine ⟨by rw [List.length_drop, h.1, Nat.sub_mul], fun hn => ?_⟩
  obtain ⟨ad, rfl, ho, hcell⟩ := h.2 (by omega)
  rw [if_neg (by omega)]
  refine ⟨ad.add (k * size), rfl, by rw [block_of_add]; exact ho, fun j u hu => ?_⟩
  rw [add_of_add]
  exact hcell _ u (by rw [← hu, List.getElem?_drop])
end

/-- cells of element k of a list of things of size cells each -/
theorem flat_at {α : Type} (enc : α → List Value) (size : Nat) (hs : ∀ x, (enc x).length = size) (l : List α) (k : Nat) (hk : k < l.length) (j : Nat) (hj : j < size) :
    (l.flatMap enc)[k * size + j]? = (enc l[k])[j]? := by
  induction l generalizing k with
  | nil => simp at hk
  | cons x l ih =>
    cases k with
    | zero =>
      simp only [List.flatMap_cons, Nat.zero_mul, Nat.zero_add, List.getElem_cons_zero]
      rw [List.getElem?_append_left (by rw [hs]; exact hj)]
    | succ k =>
      simp only [List.flatMap_cons, List.getElem_cons_succ]
      rw [List.getElem?_append_right (by rw [hs, Nat.succ_mul]; omega), hs, ← ih k (by simpa using hk)]
      congr 1
      rw [Nat.succ_mul]; omega
theorem flat_len {α : Type} (enc : α → List Value) (size : Nat) (hs : ∀ x, (enc x).length = size) (l : List α) : (l.flatMap enc).length = l.length * size := by
  induction l with
  | nil => simp
  | cons x l ih => simp [List.flatMap_cons, hs, ih, Nat.succ_mul]; omega
theorem flat_one {α : Type} (enc : α → List Value) (h1 : ∀ x, ∀ u ∈ enc x, u.oneCell' = true) (l : List α) : ∀ u ∈ l.flatMap enc, u.oneCell' = true := by
  intro u hu
  obtain ⟨x, _, hx⟩ := List.mem_flatMap.1 hu
  exact h1 x u hx
theorem flat_take {α : Type} (enc : α → List Value) (size : Nat) (hs : ∀ x, (enc x).length = size) (l : List α) (m : Nat) : (l.flatMap enc).take (m * size) = (l.take m).flatMap enc := by
  induction l generalizing m with
  | nil => simp
  | cons x l ih =>
    cases m with
    | zero => simp
    | succ m =>
      simp only [List.flatMap_cons, List.take_succ_cons]
      rw [List.take_append, hs, Nat.succ_mul, List.take_of_length_le (by rw [hs]; omega), show m * size + size - size = m * size by omega, ih]
theorem flat_drop {α : Type} (enc : α → List Value) (size : Nat) (hs : ∀ x, (enc x).length = size) (l : List α) (m : Nat) : (l.flatMap enc).drop (m * size) = (l.drop m).flatMap enc := by
  induction l generalizing m with
  | nil => simp
  | cons x l ih =>
    cases m with
    | zero => simp
    | succ m =>
      simp only [List.flatMap_cons, List.drop_succ_cons]
      rw [List.drop_append, hs, Nat.succ_mul, List.drop_of_length_le (by rw [hs]; omega), show m * size + size - size = m * size by omega, ih, List.nil_append]

theorem Reads.elem {α : Type} {w : World} {ok : Nat → Prop} {size : Nat} {A : Option Addr} {enc : α → List Value} {l : List α} (hs : ∀ x, (enc x).length = size) (h0 : 0 < size) (h : Reads w ok size A l.length (l.flatMap enc)) (k : Nat) (x : α) (hx : l[k]? = some x) :
    ∃ b o, A = some ⟨b, o, none⟩ ∧ b < w.heap.size ∧ ok b ∧ ∀ j u, (enc x)[j]? = some u → w.cell? ⟨b, o + k * size + j, none⟩ = some u := by
  obtain ⟨hk, rfl⟩ := List.getElem?_eq_some_iff.1 hx
  obtain ⟨⟨b, o, spot⟩, e, ho, hc⟩ := h.2 (by omega)
  have hall : ∀ j u, (enc l[k])[j]? = some u → w.cell? ((⟨b, o, spot⟩ : Addr).add (k * size + j)) = some u := fun j u hu => by
    refine hc _ u ?_
    rw [flat_at enc size hs l k hk j (by rw [← hs l[k]]; exact (List.getElem?_eq_some_iff.1 hu).1)]
    exact hu
  have h00 : 0 * size + 0 < (l.flatMap enc).length := by
    rw [flat_len enc size hs]
    have := Nat.mul_le_mul_right size (show 1 ≤ l.length by omega)
    omega
  have hz := hc 0 _ (List.getElem?_eq_getElem (by omega))
  have hspot : spot = none := by simpa [Addr.add] using World.cell?_spot hz
  subst hspot
  refine ⟨b, o, e, by simpa [Addr.add] using lt_of_cell hz, ho, fun j u hu => ?_⟩
  have := hall j u hu
  rw [Go.WideShapes.add_plain] at this
  rw [Nat.add_assoc]
  exact this

theorem below_old {w wr : World} {o : Obj} (hb : Below (w.heap.size + 1) (w.alloc o) wr) : Below w.heap.size w wr :=
  ((Below.refl _ w).alloc (Nat.le_refl _) o).trans (hb.mono (by omega))
theorem below_new {w wr : World} {cs : Array Value} {t : TypeId} (hb : Below (w.heap.size + 1) (w.alloc (.cells cs t)) wr) (j : Nat) : wr.cell? ⟨w.heap.size, j, none⟩ = cs[j]? := by
  rw [hb.cell (p := ⟨w.heap.size, j, none⟩) (by simp)]
  exact cell_of_row (w.alloc (.cells cs t)) w.heap.size j cs t (0, 0) (heap_alloc_new w _)
theorem below_then {w w1 w2 : World} {B : Nat} (h : Below B w w1) (hB : B ≤ w1.heap.size) (k : Below w1.heap.size w1 w2) : Below B w w2 := h.trans (k.mono hB)

/-! append to a slice whose capacity is its length: a new row, or (nothing is appended) the same slice -/
theorem run_append_zero {P : Program} (w : World) (t ty e : TypeId) (i : TypeInfo) (ht : P.underlying t = some (.slice e)) (hi : P.info? e = some i)
    (A : Option Addr) (n cap : Nat) (hn : n ≤ cap) (x : Option Addr) (c : Nat) : (Builtin.append_ #[t, t] ty #[.slice A n cap, .slice x 0 c]).run P w = .ok (.slice A n cap) w := by
  cases A <;> cases x <;> simp [Builtin.append_, run_underlying ht, sizeOf, typeInfo, hi, Builtin.lenOf, Builtin.firstCells, hn, storeCells, loadCells, loadCellsFrom]

theorem run_append_full {P : Program} (w : World) (t ty e : TypeId) (i : TypeInfo) (z : Value) (size bytes : Nat) (ht : P.underlying t = some (.slice e)) (hi : P.info? e = some i) (hz : i.zero = some z)
    (hsize : i.size = size) (hby : i.bytes = bytes) (hzs : z.cells.size = size) (hsz : 0 < size)
    (A : Option Addr) (n : Nat) (olds : List Value) (ok : Nat → Prop) (hA : Reads w ok size A n olds)
    (X : Option Addr) (m c : Nat) (news : List Value) (okX : Nat → Prop) (hX : Reads w okX size X m news) (h1 : ∀ u ∈ news, u.oneCell' = true)
    (h63 : n + m ≤ maxLen) (hbytes : (n + m) * bytes ≤ 140737488355328) :
    ∃ A' c' w', (Builtin.append_ #[t, t] ty #[.slice A n n, .slice X m c]).run P w = .ok (.slice A' (n + m) c') w' ∧ n + m ≤ c' ∧ Reads w' (fun k => ok k ∨ w.heap.size ≤ k) size A' (n + m) (olds ++ news) ∧ w.grownBy w' none := by
  rcases Nat.eq_zero_or_pos m with h0 | h0
  · subst h0
    have hn : news = [] := List.eq_nil_of_length_eq_zero (by simpa using hX.1)
    subst hn
    exact ⟨A, n, w, run_append_zero w t ty e i ht hi A n n (Nat.le_refl _) X c, by omega, by simpa using hA.mono (fun _ h => .inl h), World.grownBy.refl w _⟩
  · obtain ⟨xd, rfl, _, hxc⟩ := hX.2 h0
    have fin : ∀ v' w', (Builtin.append_ #[t, t] ty #[.slice A n n, .slice (some xd) m c]).run P w = .ok v' w' → w'.ownsRow w.heap.size e size v' (n + m) (olds ++ news) → w.grownBy w' none →
        ∃ A' c' w', (Builtin.append_ #[t, t] ty #[.slice A n n, .slice (some xd) m c]).run P w = .ok (.slice A' (n + m) c') w' ∧ n + m ≤ c' ∧ Reads w' (fun k => ok k ∨ w.heap.size ≤ k) size A' (n + m) (olds ++ news) ∧ w.grownBy w' none := by
      intro v' w' hr ho hg
      rcases ho.2 with ⟨_, h2⟩ | ⟨g, cap, cur, rfl, _, _, hc, _⟩
      · omega
      · exact ⟨_, cap, w', hr, hc, (Reads.of_own ho).mono (fun _ h => .inr h), hg⟩
    cases A with
    | some b =>
      have holds : ∀ j u, olds[j]? = some u → w.cell? (b.add j) = some u := by
        intro j u hu
        rcases Nat.eq_zero_or_pos n with hn0 | hn0
        · subst hn0
          have hn : olds = [] := List.eq_nil_of_length_eq_zero (by simpa using hA.1)
          subst hn
          simp at hu
        · obtain ⟨b', hb', _, hc'⟩ := hA.2 hn0
          injection hb' with hb'
          subst hb'
          exact hc' j u hu
      obtain ⟨v', w', hrun, r1, r2⟩ := run_append_arg_grows (P := P) w t ty e i z size bytes ht hi hz hsize hby hzs hsz b n n olds hA.1 holds xd m c news hX.1 hxc (by omega) h63 hbytes
      exact fin v' w' hrun r1 r2
    | none =>
      have hn0 : n = 0 := by
        rcases Nat.eq_zero_or_pos n with hn0 | hn0
        · exact hn0
        · obtain ⟨b', hb', _⟩ := hA.2 hn0
          cases hb'
      subst hn0
      have hn : olds = [] := List.eq_nil_of_length_eq_zero (by simpa using hA.1)
      subst hn
      obtain ⟨v', w', hrun, r1, r2, _⟩ := run_append_own (P := P) w w.heap.size t ty e i z size bytes ht hi hz hsize hby hzs hsz (.slice none 0 0) 0 [] (World.ownsRow_nil w _ e size) xd m c news hX.1 hxc h1 h63 hbytes (Nat.le_refl _)
      exact fin v' w' hrun r1 r2

theorem wpList_append_full {P : Program} (w : World) {ops : Array Oper} {rest : List Oper} {o : Oper} {a : Act} {Q : Exit → Act → World → Prop} (hgd : o.guard = none) (s x : Operand) (t : TypeId)
    (ho : o.op = .call { callee := .builtin .append, args := #[s, x], argTypes := #[t, t] })
    (e : TypeId) (i : TypeInfo) (z : Value) (size bytes : Nat) (ht : P.underlying t = some (.slice e)) (hi : P.info? e = some i) (hz : i.zero = some z)
    (hsize : i.size = size) (hby : i.bytes = bytes) (hzs : z.cells.size = size) (hsz : 0 < size)
    (A : Option Addr) (n : Nat) (olds : List Value) (ok : Nat → Prop) (hs : a.eval s = .slice A n n) (hA : Reads w ok size A n olds)
    (X : Option Addr) (m c : Nat) (news : List Value) (okX : Nat → Prop) (hx : a.eval x = .slice X m c) (hX : Reads w okX size X m news) (h1 : ∀ u ∈ news, u.oneCell' = true)
    (h63 : n + m ≤ maxLen) (hbytes : (n + m) * bytes ≤ 140737488355328)
    (h : ∀ A' c' w', n + m ≤ c' → Reads w' (fun k => ok k ∨ w.heap.size ≤ k) size A' (n + m) (olds ++ news) → w.grownBy w' none → wpList P ops Q rest (a.put o.dst (.slice A' (n + m) c')) w') : wpList P ops Q (o :: rest) a w := by
  refine wpList_plain hgd fun K hK => ?_
  obtain ⟨A', c', w', hrun, h2, h3, h4⟩ := run_append_full (P := P) w t o.type e i z size bytes ht hi hz hsize hby hzs hsz A n olds ok hA X m c news okX hX h1 h63 hbytes
  unfold Oper.wp execOp
  simp only [ho, resolve, invoke, builtin, Sem.run_bind, Sem.run_pure, Result.andThen_ok, List.map_toArray, List.map_cons, List.map_nil, hs, hx, hrun]
  exact hK _ _ (h A' c' w' h2 h3 h4)

theorem cell_below {W w1 : World} {p : Addr} {v : Value} (hb : Below W.heap.size W w1) (hc : W.cell? p = some v) : w1.cell? p = some v := (hb.cell (lt_of_cell hc)).trans hc
theorem frozen_below {W w1 : World} {p : Addr} (hb : Below W.heap.size W w1) (hp : p.block < W.heap.size) (hc : W.frozen? p = false) : w1.frozen? p = false := (hb.frozen hp).trans hc
theorem frozen_at {W w1 : World} {p : Addr} {v : Value} (hb : Below W.heap.size W w1) (hc : W.cell? p = some v) (hf : W.frozen? p = false) : w1.frozen? p = false := frozen_below hb (lt_of_cell hc) hf
/-- A row that was just laid reads. -/
theorem reads_new {W : World} {size n g : Nat} {cs : Array Value} {t : TypeId} (hg : g = W.heap.size) (hn : cs.size = n * size) : Reads (W.alloc (.cells cs t)) (fun k => k = g) size (some ⟨g, 0, none⟩) n cs.toList := by
  subst hg
  refine ⟨by simpa using hn, fun _ => ⟨_, rfl, rfl, fun j u hu => ?_⟩⟩
  rw [Go.WideShapes.add_plain, Nat.zero_add, cell_of_row (W.alloc (.cells cs t)) W.heap.size j cs t (0, 0) (heap_alloc_new W _)]
  simpa using hu

/-- Where s[k:] begins. -/
def cutA (A : Option Addr) (cap k size : Nat) : Option Addr := if cap = k then A else A.map (·.add (k * size))
theorem run_cut {P : Program} {t : TypeId} (ht : P.underlying t = some (.slice (P.elem t))) {size : Nat} (hsz : ∀ w, (sizeOf (P.elem t)).run P w = .ok size w) (A : Option Addr) (n cap k : Nat) (hk : k ≤ n) (kl : IntKind) (x : Int) (hx : x = k) (w : World) :
    (Instr.sliceAt t (.slice A n cap) (some (.int kl x)) none none).run P w = .ok (.slice (cutA A cap k size) (n - k) (cap - k)) w := by
  subst hx
  rw [run_sliceAt_slice w t _ _ _ _ ht, run_slice_l w t A n cap ht kl (k : Int) (by omega) (by omega), hsz]
  simp [Result.andThen, sliced, cutA]
theorem run_head {P : Program} {t : TypeId} (ht : P.underlying t = some (.slice (P.elem t))) {size : Nat} (hsz : ∀ w, (sizeOf (P.elem t)).run P w = .ok size w) (A : Option Addr) (n cap k : Nat) (hk : k ≤ cap) (kl : IntKind) (x : Int) (hx : x = k) (w : World) :
    (Instr.sliceAt t (.slice A n cap) none (some (.int kl x)) none).run P w = .ok (.slice A k cap) w := by
  subst hx
  rw [run_sliceAt_slice w t _ _ _ _ ht, run_slice_h w t A n cap ht kl (k : Int) (by omega) (by omega), hsz]
  have : (if cap = 0 then A else A.map (·.add 0)) = A := by cases A <;> simp [Addr.add]
  simp [Result.andThen, sliced, this]
theorem Reads.cutA {w : World} {ok : Nat → Prop} {size n : Nat} {A : Option Addr} {xs : List Value} (h : Reads w ok size A n xs) {k cap : Nat} (hk : k ≤ n) (hc : n ≤ cap) :
    Reads w ok size (Ytejdmefiobgcdaa.cutA A cap k size) (n - k) (xs.drop (k * size)) := h.cut hk hc

theorem bcell {W w1 : World} (hb : Below W.heap.size W w1) : (∀ b o, b < W.heap.size → w1.cell? ⟨b, o, none⟩ = W.cell? ⟨b, o, none⟩) ∧ (∀ b o, b < W.heap.size → w1.frozen? ⟨b, o, none⟩ = W.frozen? ⟨b, o, none⟩) :=
  ⟨fun b o h => hb.cell (p := ⟨b, o, none⟩) h, fun b o h => hb.frozen (p := ⟨b, o, none⟩) h⟩

end Go.Proofs.Ytejdmefiobgcdaa
