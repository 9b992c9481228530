/- The law OutboxGoes of the seat: called with any outbox and any four whole numbers it returns true, and the outbox reads behind the call as before; no condition. -/
import Derived.Test.YtejdmefiobgcdaaRows
import Derived.Test.YtejdmefiobgcdaaOuts
import Derived.Test.YtejdmefiobgcdaaRowk
import Derived.Lib.SmallJoins
namespace Go.Proofs.Ytejdmefiobgcdaa.OutboxGoesRow
open Go.ChangeShapes Go.WideShapes Go.ChangeAt Go.RowKit Go.Joins Go.Deep
theorem own : ownKnob Try.prog.godebug = none := by kernel_rfl
theorem laidOut : laidOutB Try.prog = true := by kernel_rfl
theorem cells60 : Try.prog.cellsOf 60 = 4 := by kernel_rfl
theorem cells53 : Try.prog.cellsOf 53 = 2 := by kernel_rfl

theorem dec {H : Type} {enc : TypeId × Value → H} {W : World} {base : Nat} {spare : Nat → Bool} {held : Bool} {fs : Array Field} (h60 : Try.prog.underlying 60 = some (.struct fs)) (c : Nat → Option Value)
    (h : ∀ (j : Nat) (f : Field), fs[j]? = some f → ∃ (v : Value) (y : DataW H × List MemPlace) (n : Nat), c j = some v ∧ DataW.trod enc Try.prog W base spare held n f.type [v] = some y) :
    ∃ p : O, True ∧ ∀ j u, (O.c p)[j]? = some u → c j = some u := by
  rw [Try.underlying60] at h60
  injection h60 with h60
  injection h60 with h60
  subst h60
  obtain ⟨v0, y0, n0, e0, t0⟩ := h 0 _ rfl
  obtain ⟨v1, y1, n1, e1, t1⟩ := h 1 _ rfl
  obtain ⟨v2, y2, n2, e2, t2⟩ := h 2 _ rfl
  obtain ⟨v3, y3, n3, e3, t3⟩ := h 3 _ rfl
  obtain ⟨a0, q0, _, _⟩ := DataW.trod_int Try.underlying3 t0
  obtain ⟨a1, q1, _, _⟩ := DataW.trod_int Try.underlying3 t1
  obtain ⟨a2, q2, _, _⟩ := DataW.trod_int Try.underlying3 t2
  obtain ⟨a3, q3, _, _⟩ := DataW.trod_int Try.underlying3 t3
  simp only [List.cons.injEq, and_true] at q0 q1 q2 q3
  subst q0 q1 q2 q3
  refine ⟨⟨a0, a1, a2, a3⟩, trivial, fun j u hu => ?_⟩
  match j, hu with
  | 0, hu => simp [O.c] at hu; rw [e0, hu]
  | 1, hu => simp [O.c] at hu; rw [e1, hu]
  | 2, hu => simp [O.c] at hu; rw [e2, hu]
  | 3, hu => simp [O.c] at hu; rw [e3, hu]
  | j + 4, hu => simp [O.c] at hu

set_option maxRecDepth 100000 in
theorem lifted (os : Os) (started : os.Started) (H : Type) (enc : TypeId × Value → H) :
    ReturnsInHanded {} Try.checked os 7 .any (Rows.outboxGoesSpec.pre6 enc Try.prog Try.f7 Rows.outboxGoesRow.domain false) (Rows.outboxGoesSpec.post enc Try.prog Try.f7 false true false false) := by
  refine returnsInHanded_of_change_sized (C := Try.checked) own started (by kernel_rfl) Try.func7
    (ChangeSpec.witness6 (enc := enc) (C := Try.checked) false ⟨#[], #[.agg #[.int .i64 0, .slice none 0 0], .int .i64 0, .int .i64 0, .int .i64 0, .int .i64 0], []⟩ 8 (by kernel_rfl) (by kernel_rfl) (by kernel_rfl) (by kernel_rfl)) ?_
  intro W base args ds gs before hval0 hW hcnd hsz0 _
  have hval : ∀ (j : Nat) t v, Try.f7.params[j]? = some t → args[j]? = some v → Value.okWide Try.prog W .any base t v := hval0
  have hW' := hW
  obtain ⟨p, q, hA0, hV, rfl, hfz, hnd⟩ := hW
  have hA : DataW.TrodAll enc Try.prog W 0 (fun _ => true) true Try.f7.params.toList args.toList ds p := hA0
  rw [Try.params7] at hA hval
  obtain ⟨v0, vs0, d0, ds0, p0, q0, hargs, rfl, rfl, h0, r0⟩ := trodAll_cons hA
  obtain ⟨v1, vs1, d1, ds1, p1, q1, rfl, rfl, rfl, h1, r1⟩ := trodAll_cons r0
  obtain ⟨v2, vs2, d2, ds2, p2, q2, rfl, rfl, rfl, h2, r2⟩ := trodAll_cons r1
  obtain ⟨v3, vs3, d3, ds3, p3, q3, rfl, rfl, rfl, h3, r3⟩ := trodAll_cons r2
  obtain ⟨v4, vs4, d4, ds4, p4, q4, rfl, rfl, rfl, h4, r4⟩ := trodAll_cons r3
  obtain ⟨rfl, rfl, rfl⟩ := trodAll_nil r4
  obtain rfl : args = #[v0, v1, v2, v3, v4] := by cases args; simp_all
  obtain ⟨rfl, rfl⟩ := trodVars_none hV
  have k0 := h0
  have lt0 : ∀ x ∈ p0, x.block < W.heap.size := by obtain ⟨m, hm⟩ := k0; exact DataW.trod_lt m _ _ _ hm
  obtain ⟨kind, rfl, rfl, rfl, _⟩ := open_int Try.underlying3 (hval 1 3 v1 rfl rfl) h1
  obtain ⟨order, rfl, rfl, rfl, _⟩ := open_int Try.underlying3 (hval 2 3 v2 rfl rfl) h2
  obtain ⟨now, rfl, rfl, rfl, _⟩ := open_int Try.underlying3 (hval 3 3 v3 rfl rfl) h3
  obtain ⟨key, rfl, rfl, rfl, _⟩ := open_int Try.underlying3 (hval 4 3 v4 rfl rfl) h4
  obtain ⟨u0, u1, y0, y1, n, rfl, rfl, rfl, t0, t1⟩ := open_agg2 Try.underlying53 (by kernel_rfl) cells53 (hval 0 53 v0 rfl rfl) h0
  obtain ⟨last, e0, _, _⟩ := DataW.trod_int Try.underlying3 t0
  simp only [List.cons.injEq, and_true] at e0
  subst e0
  have hsl : ∃ (a : Option Addr) (len cap : Nat), u1 = .slice a len cap := by
    rcases open_slice_fields Try.underlying51 Try.underlying60 (by kernel_rfl) cells60 t1 with ⟨e, _⟩ | ⟨a, len, cap, _, _, _, e, _⟩
    · simp only [List.cons.injEq, and_true] at e; exact ⟨_, _, _, e⟩
    · simp only [List.cons.injEq, and_true] at e; exact ⟨_, _, _, e⟩
  obtain ⟨a, len, cap, rfl⟩ := hsl
  obtain ⟨l, rfl, hlc, hlm, hr, _⟩ := came_rows O.c O.len (by omega) (fun _ => True) Try.underlying51 Try.underlying60 (by kernel_rfl) cells60 rfl (dec Try.underlying60) ⟨n, t1⟩
  clear hA0 hval0 hsz0
  refine (goes_any a l cap last kind order now key W hr hlc (by unfold maxLen at hlm; omega)).mono fun e W' ⟨he, bel⟩ => ?_
  subst he
  exact ⟨_, rfl, _, _, _, [], _, [], hW', trodAll_mk1 (shut_bool Try.underlying4 _), (trodAll_cons_mk (Below.trod laidOut (by kernel_rfl) (of_decide_eq_true (by kernel_rfl)) k0 bel lt0)
    (trodAll_cons_mk (Below.trod laidOut (by kernel_rfl) (of_decide_eq_true (by kernel_rfl)) h1 bel (by simp)) (trodAll_cons_mk (Below.trod laidOut (by kernel_rfl) (of_decide_eq_true (by kernel_rfl)) h2 bel (by simp))
    (trodAll_cons_mk (Below.trod laidOut (by kernel_rfl) (of_decide_eq_true (by kernel_rfl)) h3 bel (by simp)) (trodAll_cons_mk (Below.trod laidOut (by kernel_rfl) (of_decide_eq_true (by kernel_rfl)) h4 bel (by simp)) trodAll_mk0))))), rfl, bel.frame _, fun h => by cases h⟩
theorem over : Rows.outboxGoesRow.holds Try.pinned (OpenSpec.ofChange Rows.outboxGoesSpec) :=
  OpenClaim.holds_of_wide 7 Try.f7 rfl rfl rfl rfl rfl rfl rfl ⟨rfl, rfl, rfl, rfl, rfl⟩ rfl rfl rfl rfl rfl (by kernel_rfl) Try.func7 (by kernel_rfl)
    (of_decide_eq_true (by kernel_rfl)) (by unfold Func.isWrapper; first | (rw [if_pos (by decide +kernel)]; kernel_rfl) | (rw [if_neg (by decide +kernel)]; exact ⟨rfl, rfl⟩))
    (fun os started H enc _ => lifted os started H enc)
end Go.Proofs.Ytejdmefiobgcdaa.OutboxGoesRow
namespace Go.Proofs.Ytejdmefiobgcdaa
/-- The row. -/
theorem outboxGoes_holds : Rows.OutboxGoesSaid := OutboxGoesRow.over
#print axioms outboxGoes_holds
end Go.Proofs.Ytejdmefiobgcdaa
