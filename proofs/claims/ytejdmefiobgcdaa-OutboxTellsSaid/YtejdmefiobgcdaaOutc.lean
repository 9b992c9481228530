import Derived.Test.YtejdmefiobgcdaaOutb
import Derived.Lib.LazyBuf
namespace Go.Proofs.Ytejdmefiobgcdaa
open Go.RowKit Go.Proofs

theorem info60 : (Try.prog.info? 60).map (fun i => (i.zero, i.size, i.bytes)) = some (some (.agg #[.int .i64 0, .int .i64 0, .int .i64 0, .int .i64 0]), 4, 32) := by kernel_rfl
theorem size60 (w : World) : (sizeOf (Try.prog.elem 51)).run Try.prog w = .ok 4 w := by kernel_rfl
theorem o_one (o : O) : ∀ u ∈ o.c, u.oneCell' = true := by
  intro u hu
  simp [O.c] at hu
  rcases hu with rfl | rfl | rfl | rfl <;> rfl

-- slices.Clone at the rows of an outbox
set_option maxRecDepth 100000 in
set_option maxHeartbeats 800000 in
theorem oClone (A : Option Addr) (l : List O) (c : Nat) (w : World) (ok : Nat → Prop) (hr : Reads w ok 4 A l.length (l.flatMap O.c)) (hlc : l.length ≤ c) (hll : l.length ≤ 4000000000000) :
    Calls Try.prog 88 #[.slice A l.length c] w fun e w' => ∃ A' c', e = .returned (.slice A' l.length c') ∧ l.length ≤ c' ∧ w'.ownsRow w.heap.size 60 4 (.slice A' l.length c') l.length (l.flatMap O.c) ∧ Below w.heap.size w w' := by
  obtain ⟨i0, hi, hz0, hz1, hz2⟩ := info_parts info60
  have hfl : (l.flatMap O.c).length = l.length * 4 := flat_len O.c 4 O.len l
  cases A with
  | none =>
    have h0 : l.length = 0 := by
      rcases Nat.eq_zero_or_pos l.length with h | h
      · exact h
      · obtain ⟨ad, e, _⟩ := hr.2 h
        cases e
    obtain rfl : l = [] := List.eq_nil_of_length_eq_zero h0
    have heq : ∀ W, (binOp .eql 51 (.slice none 0 c) (.slice none 0 0)).run Try.prog W = .ok (.bool true) W := fun W => Go.run_eql_slice_nil W 51 60 none 0 c Try.underlying51
    go_enter Try.func88, Try.ntmps88
    go_wp2_with fail
    go_ret
    exact ⟨none, 0, rfl, Nat.le_refl _, World.ownsRow_nil _ _ _ _, Below.refl _ _⟩
  | some ad =>
    have heq : ∀ W, (binOp .eql 51 (.slice (some ad) l.length c) (.slice none 0 0)).run Try.prog W = .ok (.bool false) W := fun W => Go.run_eql_slice_nil W 51 60 (some ad) l.length c Try.underlying51
    have hnews : ∀ j u, (l.flatMap O.c)[j]? = some u → (w.alloc (.cells #[] 60)).cell? (ad.add j) = some u := fun j u hu => by
      have hj := (List.getElem?_eq_some_iff.1 hu).1
      obtain ⟨ad', e, _, hc⟩ := (hr.alloc (.cells #[] 60)).2 (by omega)
      injection e with e
      subst e
      exact hc j u hu
    replace hnews := Lib.hid hnews
    go_enter Try.func88, Try.ntmps88
    go_wp2_with (at_builtin; refine wpList_append_own _ rfl (.tmp 5) (.tmp 6) 51 rfl w.heap.size 60 i0 _ 4 32 Try.underlying51 hi hz0 hz1 hz2 rfl (by omega) _ 0 [] rfl (own_none w _ 60 4 (Nat.le_refl _)) ad l.length c (l.flatMap O.c) rfl hfl hnews.out (flat_one O.c o_one l) (by simp only [maxLen]; omega) (by omega) (by simp) ?_; intro v1 w1 hown1 hgr1 hnil1)
    rw [Nat.zero_add, List.nil_append] at hown1
    obtain ⟨A', c', rfl, hc', _⟩ := own_read hown1
    have hb1 := ((Below.refl w.heap.size w).alloc (Nat.le_refl _) (.cells #[] 60)).grown hgr1 (by simp) (fun b e => by simp [Act.eval, Value.ownBlock] at e; omega)
    go_ret
    exact ⟨A', c', rfl, hc', hown1, hb1⟩
set_option maxRecDepth 100000 in
theorem run_clip (A : Option Addr) (n c : Nat) (hn : n ≤ c) (w : World) :
    (Instr.sliceAt 51 (.slice A n c) none (some (.int .i64 (n : Int))) (some (.int .i64 (n : Int)))).run Try.prog w = .ok (.slice A n n) w := by
  rw [run_sliceAt_slice w 51 _ _ _ _ Try.underlying51, run_slice_hm w 51 A n c Try.underlying51 .i64 .i64 (n : Int) (n : Int) (by omega) (by omega) (by omega), size60]
  have : (if n = 0 then A else A.map (·.add 0)) = A := by cases A <;> simp [Addr.add]
  simp [Result.andThen, sliced, this]
set_option maxRecDepth 100000 in
theorem oClip (A : Option Addr) (n c : Nat) (hn : n ≤ c) (w : World) : Calls Try.prog 85 #[.slice A n c] w fun e w' => e = .returned (.slice A n n) ∧ w = w' := by
  have h := run_clip A n c hn
  go_enter Try.func85, Try.ntmps85
  go_wp2_with fail
  go_ret
  exact ⟨rfl, rfl⟩
end Go.Proofs.Ytejdmefiobgcdaa
