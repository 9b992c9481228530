import Derived.Test.YtejdmefiobgcdaaBase
import Derived.Deep.RegionLaw
import Derived.Deep.RegionWith
import Derived.Deep.DeepCutAuto
namespace Go.Proofs.Ytejdmefiobgcdaa
open Go.RowKit

theorem own_keep {w w' : World} {B : Nat} {e : TypeId} {size n : Nat} {v : Value} {xs : List Value} (h : w.ownsRow B e size v n xs) (hb : Below w.heap.size w w') : w'.ownsRow B e size v n xs := by
  rcases h with ⟨h1, ⟨h2, h3⟩ | ⟨g, cap, cur, h2, h3, h4, h5, h6, h7, h8⟩⟩
  · exact ⟨h1, .inl ⟨h2, h3⟩⟩
  · refine ⟨h1, .inr ⟨g, cap, cur, h2, h3, ?_, h5, h6, h7, h8⟩⟩
    rw [hb.block g (Array.getElem?_eq_some_iff.1 h4).1]
    exact h4
theorem own_least {w : World} {B : Nat} {e : TypeId} {size n : Nat} {v : Value} {xs : List Value} (h : w.ownsRow B e size v n xs) (b : Nat) (hb : v.ownBlock = some b) : B ≤ b := (h.lt b hb).1
theorem own_read {w : World} {B : Nat} {e : TypeId} {size n : Nat} {v : Value} {xs : List Value} (h : w.ownsRow B e size v n xs) : ∃ A c, v = .slice A n c ∧ n ≤ c ∧ Reads w (fun k => B ≤ k) size A n xs := by
  have h0 := h
  rcases h with ⟨h1, ⟨rfl, rfl⟩ | ⟨g, cap, cur, rfl, h3, h4, h5, h6, h7, h8⟩⟩
  · exact ⟨none, 0, rfl, Nat.le_refl _, Reads.of_own h0⟩
  · exact ⟨_, cap, rfl, h5, Reads.of_own h0⟩
theorem cell_grow {W w1 : World} {row : Option Nat} {p : Addr} {v : Value} (hg : W.grownBy w1 row) (hne : some p.block ≠ row) (hc : W.cell? p = some v) : w1.cell? p = some v :=
  (World.cell?_of_block (hg.block p.block (lt_of_cell hc) hne)).trans hc
theorem froz_grow {W w1 : World} {row : Option Nat} {p : Addr} {v : Value} (hg : W.grownBy w1 row) (hne : some p.block ≠ row) (hc : W.cell? p = some v) (hf : W.frozen? p = false) : w1.frozen? p = false :=
  (World.frozen?_of_block (hg.block p.block (lt_of_cell hc) hne)).trans hf
theorem own_none (w : World) (B : Nat) (e : TypeId) (sz : Nat) (h : B ≤ w.heap.size) : (w.alloc (.cells #[] e)).ownsRow B e sz (.slice (some ⟨w.heap.size, 0, none⟩) 0 0) 0 [] :=
  World.ownsRow_lit w #[] 0 h (by simp [maxLen]) (by simp)
/-- append to a slice whose capacity is its length, at a step of a region that draws. -/
theorem step_append_full {P : Program} (w : World) {ops : Array Oper} {o : Oper} {a : Act} {K : Act → World → Prop} {Q : Exit → Act → World → Prop} {E : Prop} (hgd : o.guard = none) (s x : Operand) (t : TypeId)
    (ho : o.op = .call { callee := .builtin .append, args := #[s, x], argTypes := #[t, t] })
    (e : TypeId) (i : TypeInfo) (z : Value) (size bytes : Nat) (ht : P.underlying t = some (.slice e)) (hi : P.info? e = some i) (hz : i.zero = some z)
    (hsize : i.size = size) (hby : i.bytes = bytes) (hzs : z.cells.size = size) (hsz : 0 < size)
    (A : Option Addr) (n : Nat) (olds : List Value) (ok : Nat → Prop) (hs : a.eval s = .slice A n n) (hA : Reads w ok size A n olds)
    (X : Option Addr) (m c : Nat) (news : List Value) (okX : Nat → Prop) (hx : a.eval x = .slice X m c) (hX : Reads w okX size X m news) (h1 : ∀ u ∈ news, u.oneCell' = true)
    (h63 : n + m ≤ maxLen) (hbytes : (n + m) * bytes ≤ 140737488355328)
    (h : ∀ A' c' w', n + m ≤ c' → Reads w' (fun k => ok k ∨ w.heap.size ≤ k) size A' (n + m) (olds ++ news) → w.grownBy w' none → K (a.put o.dst (.slice A' (n + m) c')) w') :
    if Region.wanted o (yielded ops a.tmps) = true then Oper.wp P o a w K Q else E := by
  have hw : Region.wanted o (yielded ops a.tmps) = true := by simp [Region.wanted, hgd]
  rw [if_pos hw]
  obtain ⟨A', c', w', hrun, h2, h3, h4⟩ := run_append_full (P := P) w t o.type e i z size bytes ht hi hz hsize hby hzs hsz A n olds ok hA X m c news okX hX h1 h63 hbytes
  unfold Oper.wp execOp
  simp only [ho, resolve, invoke, builtin, Sem.run_bind, Sem.run_pure, Result.andThen_ok, List.map_toArray, List.map_cons, List.map_nil, hs, hx, hrun]
  exact h A' c' w' h2 h3 h4
end Go.Proofs.Ytejdmefiobgcdaa
