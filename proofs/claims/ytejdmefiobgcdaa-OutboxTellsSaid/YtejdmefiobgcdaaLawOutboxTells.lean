/- The law OutboxTells of the seat: called with any slice of acts it returns true, and the slice reads behind the call as before; no condition. -/
import Derived.Test.YtejdmefiobgcdaaRows
import Derived.Test.YtejdmefiobgcdaaOutv
import Derived.Test.YtejdmefiobgcdaaRowk
namespace Go.Proofs.Ytejdmefiobgcdaa.OutboxTellsRow
open Go.ChangeShapes Go.WideShapes Go.ChangeAt Go.RowKit
theorem own : ownKnob Try.prog.godebug = none := by kernel_rfl
theorem laidOut : laidOutB Try.prog = true := by kernel_rfl
theorem cells56 : Try.prog.cellsOf 56 = 5 := by kernel_rfl
theorem bytes56 : Try.prog.bytesOf 56 = 40 := by kernel_rfl

theorem dec {H : Type} {enc : TypeId × Value → H} {W : World} {base : Nat} {spare : Nat → Bool} {held : Bool} {fs : Array Field} (h56 : Try.prog.underlying 56 = some (.struct fs)) (c : Nat → Option Value)
    (h : ∀ (j : Nat) (f : Field), fs[j]? = some f → ∃ (v : Value) (y : DataW H × List MemPlace) (n : Nat), c j = some v ∧ DataW.trod enc Try.prog W base spare held n f.type [v] = some y) :
    ∃ p : Ac, (Lit.int .i64 p.key).wf = true ∧ ∀ j u, (Ac.c p)[j]? = some u → c j = some u := by
  rw [Try.underlying56] at h56
  injection h56 with h56
  injection h56 with h56
  subst h56
  obtain ⟨v0, y0, n0, e0, t0⟩ := h 0 _ rfl
  obtain ⟨v1, y1, n1, e1, t1⟩ := h 1 _ rfl
  obtain ⟨v2, y2, n2, e2, t2⟩ := h 2 _ rfl
  obtain ⟨v3, y3, n3, e3, t3⟩ := h 3 _ rfl
  obtain ⟨v4, y4, n4, e4, t4⟩ := h 4 _ rfl
  obtain ⟨a0, q0, _, _⟩ := DataW.trod_int Try.underlying3 t0
  obtain ⟨a1, q1, _, _⟩ := DataW.trod_int Try.underlying3 t1
  obtain ⟨a2, q2, _, _⟩ := DataW.trod_int Try.underlying3 t2
  obtain ⟨a3, q3, _, wf3⟩ := DataW.trod_int Try.underlying3 t3
  obtain ⟨a4, q4, _, _⟩ := DataW.trod_int Try.underlying3 t4
  simp only [List.cons.injEq, and_true] at q0 q1 q2 q3 q4
  subst q0 q1 q2 q3 q4
  refine ⟨⟨a0, a1, a2, a3, a4⟩, wf3, fun j u hu => ?_⟩
  match j, hu with
  | 0, hu => simp [Ac.c] at hu; rw [e0, hu]
  | 1, hu => simp [Ac.c] at hu; rw [e1, hu]
  | 2, hu => simp [Ac.c] at hu; rw [e2, hu]
  | 3, hu => simp [Ac.c] at hu; rw [e3, hu]
  | 4, hu => simp [Ac.c] at hu; rw [e4, hu]
  | j + 5, hu => simp [Ac.c] at hu

set_option maxRecDepth 100000 in
theorem lifted (os : Os) (started : os.Started) (H : Type) (enc : TypeId × Value → H) :
    ReturnsInHanded {} Try.checked os 5 .any (Rows.outboxTellsSpec.pre6 enc Try.prog Try.f5 Rows.outboxTellsRow.domain false) (Rows.outboxTellsSpec.post enc Try.prog Try.f5 false true false false) := by
  refine returnsInHanded_of_change_sized (C := Try.checked) own started (by kernel_rfl) Try.func5
    (ChangeSpec.witness6 (enc := enc) (C := Try.checked) false ⟨#[], #[.slice none 0 0], []⟩ 8 (by kernel_rfl) (by kernel_rfl) (by kernel_rfl) (by kernel_rfl)) ?_
  intro W base args ds gs before hval0 hW hcnd hsz0 _
  have hsz : (DataW.weightsEach Try.prog (Try.f5.params.toList ++ Rows.outboxTellsSpec.plain.varTypes Try.prog) (ds ++ gs)).all (· ≤ reachBytes) = true := hsz0
  have hval : ∀ (j : Nat) t v, Try.f5.params[j]? = some t → args[j]? = some v → Value.okWide Try.prog W .any base t v := hval0
  have hW' := hW
  obtain ⟨p, q, hA0, hV, rfl, hfz, hnd⟩ := hW
  have hA : DataW.TrodAll enc Try.prog W 0 (fun _ => true) true Try.f5.params.toList args.toList ds p := hA0
  rw [Try.params5] at hA hval hsz
  obtain ⟨v0, vs0, d0, ds0, p0, q0, hargs, rfl, rfl, h0, r0⟩ := trodAll_cons hA
  obtain ⟨rfl, rfl, rfl⟩ := trodAll_nil r0
  obtain rfl : args = #[v0] := by cases args; simp_all
  obtain ⟨rfl, rfl⟩ := trodVars_none hV
  obtain ⟨a0, len0, cap0, rfl⟩ := okWide_slice Try.underlying50 (hval 0 50 v0 rfl rfl)
  have k0 := h0
  have lt0 : ∀ x ∈ p0, x.block < W.heap.size := by obtain ⟨m, hm⟩ := k0; exact DataW.trod_lt m _ _ _ hm
  obtain ⟨l, rfl, hlc, _, hr, hwf⟩ := came_rows Ac.c Ac.len (by omega) (fun a => (Lit.int .i64 a.key).wf = true) Try.underlying50 Try.underlying56 (by kernel_rfl) cells56 rfl (dec Try.underlying56) h0
  have y0 : l.length * 40 ≤ 140737488351232 := len_rows hsz (j := 0) (t := 50) rfl rfl Try.underlying50 Try.underlying56 (by kernel_rfl) cells56 bytes56 h0
  clear hA0 hval0 hsz0 hsz
  refine (tells_any a0 l cap0 W hr (by omega) hwf).mono fun e W' ⟨he, bel⟩ => ?_
  subst he
  exact ⟨_, rfl, _, _, _, [], _, [], hW', trodAll_mk1 (shut_bool Try.underlying4 _), (trodAll_cons_mk (Below.trod laidOut (by kernel_rfl) (of_decide_eq_true (by kernel_rfl)) k0 bel lt0) trodAll_mk0), rfl, bel.frame _, fun h => by cases h⟩
theorem over : Rows.outboxTellsRow.holds Try.pinned (OpenSpec.ofChange Rows.outboxTellsSpec) :=
  OpenClaim.holds_of_wide 5 Try.f5 rfl rfl rfl rfl rfl rfl rfl ⟨rfl, rfl, rfl, rfl, rfl⟩ rfl rfl rfl rfl rfl (by kernel_rfl) Try.func5 (by kernel_rfl)
    (of_decide_eq_true (by kernel_rfl)) (by unfold Func.isWrapper; first | (rw [if_pos (by decide +kernel)]; kernel_rfl) | (rw [if_neg (by decide +kernel)]; exact ⟨rfl, rfl⟩))
    (fun os started H enc _ => lifted os started H enc)
end Go.Proofs.Ytejdmefiobgcdaa.OutboxTellsRow
namespace Go.Proofs.Ytejdmefiobgcdaa
/-- The row. -/
theorem outboxTells_holds : Rows.OutboxTellsSaid := OutboxTellsRow.over
#print axioms outboxTells_holds
end Go.Proofs.Ytejdmefiobgcdaa
