/- The law NetOnce of the seat: called with any slice of parcels and any slice of whole numbers it returns true, and both read behind the call as before; no condition. -/
import Derived.Test.YtejdmefiobgcdaaRows
import Derived.Test.YtejdmefiobgcdaaNeti
import Derived.Test.YtejdmefiobgcdaaRowk
namespace Go.Proofs.Ytejdmefiobgcdaa.NetOnceRow
open Go.ChangeShapes Go.WideShapes Go.ChangeAt Go.RowKit
theorem own : ownKnob Try.prog.godebug = none := by kernel_rfl
theorem laidOut : laidOutB Try.prog = true := by kernel_rfl
theorem cells28 : Try.prog.cellsOf 28 = 6 := by kernel_rfl
theorem cells3 : Try.prog.cellsOf 3 = 1 := by kernel_rfl
theorem bytes28 : Try.prog.bytesOf 28 = 48 := by kernel_rfl

theorem dec {H : Type} {enc : TypeId × Value → H} {W : World} {base : Nat} {spare : Nat → Bool} {held : Bool} {fs : Array Field} (h28 : Try.prog.underlying 28 = some (.struct fs)) (c : Nat → Option Value)
    (h : ∀ (j : Nat) (f : Field), fs[j]? = some f → ∃ (v : Value) (y : DataW H × List MemPlace) (n : Nat), c j = some v ∧ DataW.trod enc Try.prog W base spare held n f.type [v] = some y) :
    ∃ p : Par, True ∧ ∀ j u, (Par.c p)[j]? = some u → c j = some u := by
  rw [Try.underlying28] at h28
  injection h28 with h28
  injection h28 with h28
  subst h28
  obtain ⟨v0, y0, n0, e0, t0⟩ := h 0 _ rfl
  obtain ⟨v1, y1, n1, e1, t1⟩ := h 1 _ rfl
  obtain ⟨v2, y2, n2, e2, t2⟩ := h 2 _ rfl
  obtain ⟨v3, y3, n3, e3, t3⟩ := h 3 _ rfl
  obtain ⟨v4, y4, n4, e4, t4⟩ := h 4 _ rfl
  obtain ⟨v5, y5, n5, e5, t5⟩ := h 5 _ rfl
  obtain ⟨a0, q0, _, _⟩ := DataW.trod_int Try.underlying3 t0
  obtain ⟨a1, q1, _⟩ := DataW.trod_bool Try.underlying4 t1
  obtain ⟨a2, q2, _, _⟩ := DataW.trod_int Try.underlying3 t2
  obtain ⟨a3, q3, _, _⟩ := DataW.trod_int Try.underlying3 t3
  obtain ⟨a4, q4, _, _⟩ := DataW.trod_int Try.underlying3 t4
  obtain ⟨a5, q5, _⟩ := DataW.trod_bool Try.underlying4 t5
  simp only [List.cons.injEq, and_true] at q0 q1 q2 q3 q4 q5
  subst q0 q1 q2 q3 q4 q5
  refine ⟨⟨a0, a1, a2, a3, a4, a5⟩, trivial, fun j u hu => ?_⟩
  match j, hu with
  | 0, hu => simp [Par.c] at hu; rw [e0, hu]
  | 1, hu => simp [Par.c] at hu; rw [e1, hu]
  | 2, hu => simp [Par.c] at hu; rw [e2, hu]
  | 3, hu => simp [Par.c] at hu; rw [e3, hu]
  | 4, hu => simp [Par.c] at hu; rw [e4, hu]
  | 5, hu => simp [Par.c] at hu; rw [e5, hu]
  | j + 6, hu => simp [Par.c] at hu

set_option maxRecDepth 100000 in
theorem lifted (os : Os) (started : os.Started) (H : Type) (enc : TypeId × Value → H) :
    ReturnsInHanded {} Try.checked os 3 .any (Rows.netOnceSpec.pre6 enc Try.prog Try.f3 Rows.netOnceRow.domain false) (Rows.netOnceSpec.post enc Try.prog Try.f3 false true false false) := by
  refine returnsInHanded_of_change_sized (C := Try.checked) own started (by kernel_rfl) Try.func3
    (ChangeSpec.witness6 (enc := enc) (C := Try.checked) false ⟨#[], #[.slice none 0 0, .slice none 0 0], []⟩ 8 (by kernel_rfl) (by kernel_rfl) (by kernel_rfl) (by kernel_rfl)) ?_
  intro W base args ds gs before hval0 hW hcnd hsz0 _
  have hsz : (DataW.weightsEach Try.prog (Try.f3.params.toList ++ Rows.netOnceSpec.plain.varTypes Try.prog) (ds ++ gs)).all (· ≤ reachBytes) = true := hsz0
  have hval : ∀ (j : Nat) t v, Try.f3.params[j]? = some t → args[j]? = some v → Value.okWide Try.prog W .any base t v := hval0
  have hW' := hW
  obtain ⟨p, q, hA0, hV, rfl, hfz, hnd⟩ := hW
  have hA : DataW.TrodAll enc Try.prog W 0 (fun _ => true) true Try.f3.params.toList args.toList ds p := hA0
  rw [Try.params3] at hA hval hsz
  obtain ⟨v0, vs0, d0, ds0, p0, q0, hargs, rfl, rfl, h0, r0⟩ := trodAll_cons hA
  obtain ⟨v1, vs1, d1, ds1, p1, q1, rfl, rfl, rfl, h1, r1⟩ := trodAll_cons r0
  obtain ⟨rfl, rfl, rfl⟩ := trodAll_nil r1
  obtain rfl : args = #[v0, v1] := by cases args; simp_all
  obtain ⟨rfl, rfl⟩ := trodVars_none hV
  obtain ⟨a0, len0, cap0, rfl⟩ := okWide_slice Try.underlying22 (hval 0 22 v0 rfl rfl)
  obtain ⟨a1, len1, cap1, rfl⟩ := okWide_slice Try.underlying23 (hval 1 23 v1 rfl rfl)
  have k0 := h0
  have k1 := h1
  have lt0 : ∀ x ∈ p0, x.block < W.heap.size := by obtain ⟨m, hm⟩ := k0; exact DataW.trod_lt m _ _ _ hm
  have lt1 : ∀ x ∈ p1, x.block < W.heap.size := by obtain ⟨m, hm⟩ := k1; exact DataW.trod_lt m _ _ _ hm
  obtain ⟨l, rfl, hlc, _, hr, _⟩ := came_rows Par.c Par.len (by omega) (fun _ => True) Try.underlying22 Try.underlying28 (by kernel_rfl) cells28 rfl (dec Try.underlying28) h0
  obtain ⟨acts, hlen, hlc1, _, hra, hwf⟩ := came_ints Try.underlying23 Try.underlying3 cells3 h1
  have y0 : l.length * 48 ≤ 140737488351232 := len_rows hsz (j := 0) (t := 22) rfl rfl Try.underlying22 Try.underlying28 (by kernel_rfl) cells28 bytes28 h0
  have y1 : len1 * 8 ≤ 140737488351232 := len_ints hsz (j := 1) (t := 23) rfl rfl Try.underlying23 Try.underlying3 cells3 (by kernel_rfl) h1
  clear hA0 hval0 hsz0 hsz
  refine (netOnce_any a0 a1 l acts cap0 len1 cap1 W _ _ hr hra (by omega) (by omega) hwf).mono fun e W' ⟨he, bel⟩ => ?_
  subst he
  exact ⟨_, rfl, _, _, _, [], _, [], hW', trodAll_mk1 (shut_bool Try.underlying4 _), (trodAll_cons_mk (Below.trod laidOut (by kernel_rfl) (of_decide_eq_true (by kernel_rfl)) k0 bel lt0) (trodAll_cons_mk (Below.trod laidOut (by kernel_rfl) (of_decide_eq_true (by kernel_rfl)) k1 bel lt1) trodAll_mk0)), rfl, bel.frame _, fun h => by cases h⟩
theorem over : Rows.netOnceRow.holds Try.pinned (OpenSpec.ofChange Rows.netOnceSpec) :=
  OpenClaim.holds_of_wide 3 Try.f3 rfl rfl rfl rfl rfl rfl rfl ⟨rfl, rfl, rfl, rfl, rfl⟩ rfl rfl rfl rfl rfl (by kernel_rfl) Try.func3 (by kernel_rfl)
    (of_decide_eq_true (by kernel_rfl)) (by unfold Func.isWrapper; first | (rw [if_pos (by decide +kernel)]; kernel_rfl) | (rw [if_neg (by decide +kernel)]; exact ⟨rfl, rfl⟩))
    (fun os started H enc _ => lifted os started H enc)
end Go.Proofs.Ytejdmefiobgcdaa.NetOnceRow
namespace Go.Proofs.Ytejdmefiobgcdaa
/-- The row. -/
theorem netOnce_holds : Rows.NetOnceSaid := NetOnceRow.over
#print axioms netOnce_holds
end Go.Proofs.Ytejdmefiobgcdaa
