import Derived.Test.YtejdmefiobgcdaaOutm
namespace Go.Proofs.Ytejdmefiobgcdaa
open Go.RowKit Go.Proofs Go.Shelf
attribute [local go_sem] Oper.semAt_some min2_ints min_pair

/-- What holds between two rounds of Tell's loop. -/
def TellI (w w1 : World) (R : Nat) (A A3 : Option Addr) (l : List O) (c cr : Nat) (last now : Int) (pre : List (DX l.length)) (W : World) : Prop :=
  ((Holds W [(⟨w.heap.size, 0, none⟩, .int .i64 last), (⟨w.heap.size, 1, none⟩, .slice A l.length c), (⟨w.heap.size + 1, 0, none⟩, .int .i64 now), (⟨w.heap.size + 1 + 1, 0, none⟩, .int .i64 0), (⟨w.heap.size + 1 + 1, 1, none⟩, .slice none 0 0)] ∧
    (∃ v, Boxed W (R + 1) 51 v ∧ W.ownsRow R 60 4 v pre.length ((pre.map (fun x => x.1.2)).flatMap O.c))) ∧
    (W.ownsRow w1.heap.size 60 4 (.slice A3 l.length cr) l.length ((tellRows l now pre).flatMap O.c) ∧ R + 4 ≤ W.heap.size ∧ Boxed W (R + 3) 3 (.int .i64 now)) ∧ Boxed W R 51 (.slice A3 l.length cr)) ∧ Below w.heap.size w W
theorem own_size {β : Type} (k : Nat) : Own (fun (_ : β) W => k ≤ W.heap.size) := fun _ _ _ _ hs hg _ => Nat.le_trans hs hg.size
theorem tellI_own (w w1 : World) (R B : Nat) (A A3 : Option Addr) (l : List O) (c cr : Nat) (last now : Int) (hB : w.heap.size ≤ B) : OwnFrom B (TellI w w1 R A A3 l c cr last now) := by
  refine OwnFrom.and (Own.from ?_ _) (ownFrom_below (Nat.le_refl _) hB)
  exact own_and (own_and (Holds.own _) (own_ex fun v => own_and (boxed_own _ _ _) (own_row _ _ _ _ _ _))) (own_and (own_and (own_row _ _ _ _ _ _) (own_and (own_size _) (boxed_own _ _ _))) (boxed_own _ _ _))
def tellCells (w : World) (A : Option Addr) (n c : Nat) (last now : Int) : List (Addr × Value) := [(⟨w.heap.size, 0, none⟩, .int .i64 last), (⟨w.heap.size, 1, none⟩, .slice A n c), (⟨w.heap.size + 1, 0, none⟩, .int .i64 now), (⟨w.heap.size + 1 + 1, 0, none⟩, .int .i64 0), (⟨w.heap.size + 1 + 1, 1, none⟩, .slice none 0 0)]
/-- One round of Tell's loop. -/
theorem tell_round {w w1 W w4 : World} {R g A5n c5 c cr : Nat} {A A5 : Option Addr} {l : List O} {last now d : Int} {pre : List (DX l.length)} {x : DX l.length} {v : Value} {ob : Obj}
    (hd : d = nextDue now) (hsR : w.heap.size + 2 < R) (hgR : g < R) (hwg : w.heap.size ≤ g) (hsW : R + 4 ≤ W.heap.size) (hA5 : A5n = pre.length + 1) (hB : Below w.heap.size w W)
    (hvr : W.ownsRow R 60 4 v pre.length ((pre.map (fun x => x.1.2)).flatMap O.c)) (hbN : Boxed W (R + 3) 3 (.int .i64 now)) (hne : w.heap.size + 1 + 1 ≠ g ∧ w.heap.size ≠ g ∧ w.heap.size + 1 ≠ g)
    (hgr4 : (W.alloc ob).grownBy w4 v.ownBlock) (hown4 : w4.ownsRow R 60 4 (.slice A5 A5n c5) A5n ((pre.map (fun x => x.1.2)).flatMap O.c ++ O.c x.1.2)) (tb4 : Boxed w4 (R + 1) 51 v)
    (rb4 : Boxed w4 R 51 (.slice (some ⟨g, 0, none⟩) l.length cr)) (cs4 : Holds w4 (tellCells w A l.length c last now))
    (rows5 : w4.ownsRow w1.heap.size 60 4 (.slice (some ⟨g, 0, none⟩) l.length cr) l.length ((tellRows l now pre).flatMap O.c)) (a' : Act) :
    ownPostG (R + 4) (KpDue w.heap.size (R + 3)) (TellI w w1 R A (some ⟨g, 0, none⟩) l c cr last now) (fun _ _ _ => False) (pre ++ [x]) W .normal a'
      ((w4.setCell ⟨R + 1, 0, none⟩ (.slice A5 A5n c5)).setCell ⟨g, x.1.1 * 4 + 3, none⟩ (.int .i64 d)) := by
  have hsz := hB.size
  have g1 := grownBy_setCell' w4 (R + 1) (.slice A5 A5n c5)
  have r1 := rows5.kept g1 (.inr (fun e => by simp [Value.ownBlock] at e; omega))
  obtain ⟨r2, g2⟩ := r1.stored (x.1.1 * 4 + 3) (.int .i64 d)
  have t1 := hown4.kept g1 (.inr (boxed_ne tb4 hown4 (by decide)))
  have t2 := t1.kept g2 (.inr (Ne.symm (own_far t1 hgR)))
  have hK : KeepsOthers W ((w4.setCell ⟨R + 1, 0, none⟩ (.slice A5 A5n c5)).setCell ⟨g, x.1.1 * 4 + 3, none⟩ (.int .i64 d)) :=
    (((KeepsOthers.alloc W ob).trans (KeepsOthers.of_grownBy hgr4 (own_cells (hvr.alloc ob)))).trans (KeepsOthers.setCell _ _ _)).trans (KeepsOthers.setCell _ _ _)
  have hBW : Below w.heap.size W ((w4.setCell ⟨R + 1, 0, none⟩ (.slice A5 A5n c5)).setCell ⟨g, x.1.1 * 4 + 3, none⟩ (.int .i64 d)) :=
    ((((Below.refl _ W).alloc hsz ob).grown hgr4 (by simp; omega) (fun k e => by have := (hvr.lt k e).1; omega)).setCell (p := ⟨R + 1, 0, none⟩) (by dsimp only; omega) _).setCell (p := ⟨g, x.1.1 * 4 + 3, none⟩) (by dsimp only; omega) _
  refine ⟨hK.from _, ⟨hBW, fun y hy => ?_⟩, ⟨⟨?_, .slice A5 A5n c5, ?_, ?_⟩, ⟨?_, ?_, ?_⟩, ?_⟩, hB.trans hBW⟩
  · rw [World.cell?_setCell_other _ _ _ _ (fun e => by rw [← e] at hy; dsimp only at hy; omega), World.cell?_setCell_other _ _ _ _ (fun e => by rw [← e] at hy; dsimp only at hy; omega)]
    rw [World.cell?_of_block (hgr4.block y.block (by simp; omega) (by rw [hy]; exact (Ne.symm (boxed_ne hbN hvr (by decide))))), World.cell?_alloc_lt W ob y (by omega)]
  · refine (cs4.far _ _ (fun p hp => ?_)).far _ _ (fun p hp => ?_)
    · simp [tellCells] at hp
      rcases hp with rfl | rfl | rfl | rfl | rfl <;> (dsimp only; omega)
    · simp [tellCells] at hp
      rcases hp with rfl | rfl | rfl | rfl | rfl <;> (dsimp only; omega)
  · exact (tb4.set (.slice A5 A5n c5)).kept g2 (fun e => by cases e; omega)
  · subst hA5
    rw [List.length_append, List.map_append, List.flatMap_append]
    simpa using t2
  · rw [tellRows_snoc, ← hd, flat_setDue _ _ (by rw [tellRows_length]; exact x.2)]
    exact r2
  · have := hgr4.size; simp at this ⊢; omega
  · refine ((((hbN.alloc ob).kept hgr4 (Ne.symm (boxed_ne hbN hvr (by decide)))).other (by omega) _).kept g2 (fun e => by cases e; omega))
  · exact ((rb4.other (by omega) _).kept g2 (fun e => by cases e; omega))
theorem kpDue_b {n₀ Bn B : Nat} {w : World} (hB : B = w.heap.size) (hn : n₀ ≤ B) (hb : Bn < B) (W : World) (l : Nat) (o o' : Obj) (hl : w.heap.size ≤ l) (h : W.heap[l]? = some o) (h1 : o.isCells = false) (h2 : o.isWalk = false) : KpDue n₀ Bn W (W.putObj l o') :=
  ⟨belowK_b (w := w) (by omega) W l o o' hl h h1 h2, fun x hx => World.cell?_of_block (World.putObj_heap_other (by omega))⟩

theorem oDue (A : Option Addr) (n c : Nat) (now : Int) (w : World) : Calls Try.prog 89 #[.slice A n c, .int .i64 now] w
    fun e w' => e = .returned (.func (.func 130) #[] #[.pointer (some ⟨w.heap.size, 0, none⟩), .pointer (some ⟨w.heap.size + 1, 0, none⟩)]) ∧ w' = (w.alloc (.cells #[.slice A n c] 51)).alloc (.cells #[.int .i64 now] 3) := by
  go_enter Try.func89, Try.ntmps89
  go_wp2_with fail
  go_ret
  exact ⟨rfl, rfl⟩

-- outbox.Tell: refused
set_option maxRecDepth 100000 in
set_option maxHeartbeats 1600000 in
theorem oTell_no (A : Option Addr) (l : List O) (c : Nat) (last now : Int) (w : World) (ok : Nat → Prop) (hr : Reads w ok 4 A l.length (l.flatMap O.c)) (hll : l.length < 4611686018427387904) (hno : (decide (OkBox l last) && tim now) = false) :
    Calls Try.prog 29 #[.agg #[.int .i64 last, .slice A l.length c], .int .i64 now] w
      fun e w' => e = .returned (.tuple #[.agg #[.int .i64 0, .slice none 0 0], .slice none 0 0, .int .i64 1]) ∧ Below w.heap.size w w' := by
  have hR := Lib.hid (fun W (h : Below w.heap.size w W) => oRight A l c last W ok (hr.below h) hll)
  generalize decide (OkBox l last) = B at hR hno
  obtain ⟨b3, ht⟩ : ∃ b, tim now = b := ⟨_, rfl⟩
  rw [ht] at hno
  have c3 := Lib.hid (fun W => ht ▸ oTime now W)
  clear hr ht
  have hcase : B = false ∨ (B = true ∧ b3 = false) := by
    revert hno
    cases B <;> cases b3 <;> simp
  clear hno
  have hb0 := Below.refl w.heap.size w
  rcases hcase with rfl | ⟨rfl, rfl⟩
  all_goals
    go_enter Try.func29, Try.ntmps29
    go_wp2_with fail
    refine (hR.out _ (((hb0.alloc (Nat.le_refl _) _).alloc (by simp) _).alloc (by simp; omega) _)).mono ?_
    rintro e w1 ⟨rfl, hb1⟩
    have hs1 := hb1.size
    simp at hs1
    have hs1a : w.heap.size < w1.heap.size := by omega
    have hs1b : w.heap.size + 1 < w1.heap.size := by omega
    have hs1c : w.heap.size + 1 + 1 < w1.heap.size := by omega
    have hbw := below_then (((hb0.alloc (Nat.le_refl _) _).alloc (by simp) _).alloc (by simp; omega) _) (by simp; omega) hb1
    have kc0 : w1.cell? ⟨w.heap.size + 1, 0, none⟩ = some (.int .i64 now) := cell_below hb1 (by simp [go_sem, *])
    have kf0 : w1.frozen? ⟨w.heap.size + 1, 0, none⟩ = false := frozen_below hb1 (by simp; try omega) (by simp [go_sem, *])
    have rc0 : w1.cell? ⟨w.heap.size + 1 + 1, 0, none⟩ = some (.int .i64 0) := cell_below hb1 (by simp [go_sem, *])
    have rf0 : w1.frozen? ⟨w.heap.size + 1 + 1, 0, none⟩ = false := frozen_below hb1 (by simp; try omega) (by simp [go_sem, *])
    have rc1 : w1.cell? ⟨w.heap.size + 1 + 1, 1, none⟩ = some (.slice none 0 0) := cell_below hb1 (by simp [go_sem, *])
    have rf1 : w1.frozen? ⟨w.heap.size + 1 + 1, 1, none⟩ = false := frozen_below hb1 (by simp; try omega) (by simp [go_sem, *])
    clear hb1 hs1
    go_wp2_with (go_at_call 82; refine (c3.out _).mono ?_; rintro e w' ⟨rfl, rfl⟩)
    refine bodyPost_ret (v := .tuple #[.agg #[.int .i64 0, .slice none 0 0], .slice none 0 0, .int .i64 1]) (by simp [results, Try.results29, go_sem, *]) rfl ⟨rfl, ?_⟩
    ((repeat (first | with_reducible exact hbw | with_reducible refine Below.drew ?_ | with_reducible refine Below.alloc ?_ ?_ _ | with_reducible refine Below.setCell ?_ ?_ _)); all_goals first | omega | (simp; done) | (simp; omega))


def TellPost (l : List O) (last now : Int) (w : World) (e : Ending) (w' : World) : Prop :=
  ∃ A' c' A'' c'', e = .returned (.tuple #[.agg #[.int .i64 last, .slice A' l.length c'], .slice A'' (toldL l now).length c'', .int .i64 0]) ∧ l.length ≤ c' ∧ Reads w' (fun k => w.heap.size ≤ k) 4 A' l.length ((l.map (tellO now)).flatMap O.c) ∧
    (toldL l now).length ≤ c'' ∧ Reads w' (fun k => w.heap.size ≤ k) 4 A'' (toldL l now).length ((toldL l now).flatMap O.c) ∧ Below w.heap.size w w'
set_option maxRecDepth 100000 in
set_option maxHeartbeats 3200000 in
theorem oTell (A : Option Addr) (l : List O) (c : Nat) (last now : Int) (w : World) (ok : Nat → Prop) (hr : Reads w ok 4 A l.length (l.flatMap O.c)) (hlc : l.length ≤ c) (hyes : OkBox l last) (ht : tim now = true) :
    Calls Try.prog 29 #[.agg #[.int .i64 last, .slice A l.length c], .int .i64 now] w (TellPost l last now w) := by
  have hl96 := hyes.2.2.1
  have hR := fun W (h : Below w.heap.size w W) => oRight A l c last W ok (hr.below h) (by omega)
  rw [decide_eq_true hyes] at hR
  replace hR := Lib.hid hR
  have c3 := Lib.hid (fun W => ht ▸ oTime now W)
  have hnow : 0 ≤ now ∧ now ≤ 1099511627776 := by simp [tim, num] at ht; omega
  clear ht hyes
  have hb0 := Below.refl w.heap.size w
  refine (callsIn_wide (n := 9)).1 (callsIn_of_wp_marks Try.func29 rfl trivial (wpIn_wide.2 ?_))
  simp only [Try.ntmps29, List.size_toArray, List.length_cons, List.length_nil, Nat.reduceAdd, Nat.reduceSub, Array.replicate_succ, Array.replicate_zero, List.push_toArray, List.append_toArray, List.nil_append, List.cons_append]
  go_wp2_with fail
  refine (hR.out _ (((hb0.alloc (Nat.le_refl _) _).alloc (by simp) _).alloc (by simp; omega) _)).mono ?_
  rintro e w1 ⟨rfl, hb1⟩
  have hs1 := hb1.size
  simp at hs1
  have hs1a : w.heap.size < w1.heap.size := by omega
  have hs1b : w.heap.size + 1 < w1.heap.size := by omega
  have hs1c : w.heap.size + 1 + 1 < w1.heap.size := by omega
  have hbw := below_then (((hb0.alloc (Nat.le_refl _) _).alloc (by simp) _).alloc (by simp; omega) _) (by simp; omega) hb1
  have ac0 : w1.cell? ⟨w.heap.size, 0, none⟩ = some (.int .i64 last) := cell_below hb1 (by simp [go_sem, *])
  have af0 : w1.frozen? ⟨w.heap.size, 0, none⟩ = false := frozen_below hb1 (by simp; try omega) (by simp [go_sem, *])
  have ac1 : w1.cell? ⟨w.heap.size, 1, none⟩ = some (.slice A l.length c) := cell_below hb1 (by simp [go_sem, *])
  have af1 : w1.frozen? ⟨w.heap.size, 1, none⟩ = false := frozen_below hb1 (by simp; try omega) (by simp [go_sem, *])
  have kc0 : w1.cell? ⟨w.heap.size + 1, 0, none⟩ = some (.int .i64 now) := cell_below hb1 (by simp [go_sem, *])
  have kf0 : w1.frozen? ⟨w.heap.size + 1, 0, none⟩ = false := frozen_below hb1 (by simp; try omega) (by simp [go_sem, *])
  have rc0 : w1.cell? ⟨w.heap.size + 1 + 1, 0, none⟩ = some (.int .i64 0) := cell_below hb1 (by simp [go_sem, *])
  have rf0 : w1.frozen? ⟨w.heap.size + 1 + 1, 0, none⟩ = false := frozen_below hb1 (by simp; try omega) (by simp [go_sem, *])
  have rc1 : w1.cell? ⟨w.heap.size + 1 + 1, 1, none⟩ = some (.slice none 0 0) := cell_below hb1 (by simp [go_sem, *])
  have rf1 : w1.frozen? ⟨w.heap.size + 1 + 1, 1, none⟩ = false := frozen_below hb1 (by simp; try omega) (by simp [go_sem, *])
  clear hb1 hs1
  have hrX := Lib.hid (hr.below hbw)
  go_wp2_with (go_at_call 82; refine (c3.out _).mono ?_; rintro e w' ⟨rfl, rfl⟩)
  refine (oClone A l c _ ok hrX.out hlc (by omega)).mono ?_
  rintro e w2 ⟨A3, c3', rfl, hlc3, hown3, hb2⟩
  rename Nat => cr
  have hs2 := hb2.size
  have hs2a : w.heap.size < w2.heap.size := by omega
  have hs2b : w.heap.size + 1 < w2.heap.size := by omega
  have hs2c : w.heap.size + 1 + 1 < w2.heap.size := by omega
  have hbw2 := below_then hbw (by omega) hb2
  replace af0 := frozen_at hb2 ac0 af0
  replace ac0 := cell_below hb2 ac0
  replace af1 := frozen_at hb2 ac1 af1
  replace ac1 := cell_below hb2 ac1
  replace kf0 := frozen_at hb2 kc0 kf0
  replace kc0 := cell_below hb2 kc0
  replace rf0 := frozen_at hb2 rc0 rf0
  replace rc0 := cell_below hb2 rc0
  replace rf1 := frozen_at hb2 rc1 rf1
  replace rc1 := cell_below hb2 rc1
  clear hb2 hbw hs2
  replace hown3 := Lib.hid hown3
  go_wp2_with (go_at_call 89; refine (oDue A l.length c now _).mono ?_; rintro e w3 ⟨rfl, rfl⟩)
  have hrL := hrX.out
  obtain ⟨R, hRR⟩ : ∃ R, R = w2.heap.size := ⟨_, rfl⟩
  obtain ⟨W0, hW0⟩ : ∃ W0, (((w2.alloc (.cells #[.slice A3 l.length cr] 51)).alloc (.cells #[.slice none 0 0] 51)).alloc (.cells #[.slice A l.length c] 51)).alloc (.cells #[.int .i64 now] 3) = W0 := ⟨_, rfl⟩
  have hsz : W0.heap.size = R + 4 := by rw [← hW0, hRR]; simp
  have hbR : Boxed W0 R 51 (.slice A3 l.length cr) := by rw [← hW0, hRR]; exact (((Boxed.new _ _ _).alloc _).alloc _).alloc _
  have hbT : Boxed W0 (R + 1) 51 (.slice none 0 0) := by
    have := ((Boxed.new (w2.alloc (.cells #[.slice A3 l.length cr] 51)) 51 (.slice none 0 0)).alloc (.cells #[.slice A l.length c] 51)).alloc (.cells #[.int .i64 now] 3)
    rw [World.size_alloc, hW0, ← hRR] at this; exact this
  have hbL : Boxed W0 (R + 2) 51 (.slice A l.length c) := by
    have := (Boxed.new ((w2.alloc (.cells #[.slice A3 l.length cr] 51)).alloc (.cells #[.slice none 0 0] 51)) 51 (.slice A l.length c)).alloc (.cells #[.int .i64 now] 3)
    rw [World.size_alloc, World.size_alloc, hW0, ← hRR] at this; exact this
  have hbN : Boxed W0 (R + 3) 3 (.int .i64 now) := by
    have := Boxed.new (((w2.alloc (.cells #[.slice A3 l.length cr] 51)).alloc (.cells #[.slice none 0 0] 51)).alloc (.cells #[.slice A l.length c] 51)) 3 (.int .i64 now)
    rw [World.size_alloc, World.size_alloc, World.size_alloc, hW0, ← hRR] at this; exact this
  have hb0W : Below w2.heap.size w2 W0 := by
    have hrefl := Below.refl w2.heap.size w2
    rw [← hW0]
    ((repeat (first | with_reducible exact hrefl | with_reducible refine Below.drew ?_ | with_reducible refine Below.alloc ?_ ?_ _ | with_reducible refine Below.setCell ?_ ?_ _)); all_goals first | omega | (simp; done) | (simp; omega))
  have hrow0 : W0.ownsRow w1.heap.size 60 4 (.slice A3 l.length cr) l.length (l.flatMap O.c) := by rw [← hW0]; exact (((hown3.out.alloc _).alloc _).alloc _).alloc _
  have hbw0 : Below w.heap.size w W0 := below_then hbw2 (by omega) hb0W
  replace af0 := frozen_at hb0W ac0 af0
  replace ac0 := cell_below hb0W ac0
  replace af1 := frozen_at hb0W ac1 af1
  replace ac1 := cell_below hb0W ac1
  replace kf0 := frozen_at hb0W kc0 kf0
  replace kc0 := cell_below hb0W kc0
  replace rf0 := frozen_at hb0W rc0 rf0
  replace rc0 := cell_below hb0W rc0
  replace rf1 := frozen_at hb0W rc1 rf1
  replace rc1 := cell_below hb0W rc1
  rw [hW0, ← hRR]
  have hgR : ∀ g, (Value.slice A3 l.length cr).ownBlock = some g → g < R := fun g hg => by have := (hown3.out.lt g hg).2; omega
  have hreads : ∀ W, Below W0.heap.size W0 W → Reads W (fun k => k < w.heap.size) 4 A l.length (l.flatMap O.c) := fun W h =>
    ((hr.lt (by omega)).below (below_then hbw0 hbw0.size h)).mono (fun k hk => hk.2)
  have hsW0 := hbw0.size
  have hs2R : w.heap.size + 2 < R := by omega
  clear hW0 hb0W hrX hrL hown3 hRR
  refine (wpIn_wide (n := 9)).1 ?_
  refine wpIn_rangeFunc_ownH (n := 9) rfl (by omega) (gf := 130) (lb := #[.pointer (some ⟨R + 1 + 1, 0, none⟩), .pointer (some ⟨R + 1 + 1 + 1, 0, none⟩)]) rfl trivial (enters_of Try.func130 (by kernel_rfl) rfl)
    (encs := fun x : DX l.length => #[.int .i64 (x.1.1 : Nat), .agg #[.int .i64 x.1.2.key, .int .i64 x.1.2.kind, .int .i64 x.1.2.order, .int .i64 x.1.2.due]]) (Kp := KpDue w.heap.size (R + 3)) (S := fun ys => ys = dueAt l now l.length) (Sp := fun _ => True) (N := l.length) (w0 := W0)
    (fun r J Jx W hW hJ _ hY h0 => due1_in Fence.wide 8 trivial rfl (by omega) r (R + 1 + 1) (R + 1 + 1 + 1) w.heap.size c A l now (by omega) J Jx W hJ hY (cell_below hW hbL.cell) (cell_below hW hbN.cell) (by have := hW.size; omega) (hreads W hW) h0)
    KpDue.trans (kpDue_b hsz.symm (by omega) (by omega)) (Below.refl _ _) (fun _ => rfl)
    (TellI w w1 R A A3 l c cr last now) (fun _ _ _ => False) (tellI_own w w1 R _ A A3 l c cr last now (by omega)) (fun _ _ _ _ _ hs _ _ => hs)
    ⟨⟨⟨(Holds.cons ac0 af0 (.cons ac1 af1 (.cons kc0 kf0 (.cons rc0 rf0 (.cons rc1 rf1 (.nil _)))))), _, hbT, World.ownsRow_nil _ _ _ _⟩, ⟨hrow0, by omega, hbN⟩, hbR⟩, hbw0⟩
    (fun x a' W => ∃ Bx, R + 4 ≤ Bx ∧ Holds W [(⟨Bx, 0, none⟩, .int .i64 x.1.2.key), (⟨Bx, 1, none⟩, .int .i64 x.1.2.kind), (⟨Bx, 2, none⟩, .int .i64 x.1.2.order), (⟨Bx, 3, none⟩, .int .i64 x.1.2.due)] ∧ a' = { tmps := #[Value.agg #[Value.int IntKind.i64 last, Value.slice A l.length c], Value.int IntKind.i64 now, Value.pointer (some { block := w.heap.size, off := 0 }), Value.pointer (some { block := w.heap.size + 1, off := 0 }), Value.pointer (some { block := w.heap.size + 1 + 1, off := 0 }), Value.slice none 0 0, Value.int IntKind.i64 0, Value.pointer (some { block := R, off := 0 }), Value.pointer (some { block := R + 1, off := 0 }), Value.int IntKind.i64 (x.1.1 : Nat), Value.pointer (some ⟨Bx, 0, none⟩), Value.agg #[Value.int IntKind.i64 last, Value.slice A l.length c], Value.bool true, Value.bool false, Value.bool false, Value.int IntKind.i64 now, Value.bool true, Value.bool false, Value.bool false, undef, Value.pointer (some { block := w.heap.size, off := 1 }), Value.slice A l.length c, Value.slice A3 l.length cr, Value.pointer (some { block := w.heap.size, off := 1 }), Value.slice A l.length c, Value.int IntKind.i64 now, Value.func (Fn.func 130) #[] #[Value.pointer (some { block := R + 1 + 1, off := 0 }), Value.pointer (some { block := R + 1 + 1 + 1, off := 0 })], Value.int IntKind.i64 (x.1.1 : Nat), Value.agg #[Value.int IntKind.i64 x.1.2.key, Value.int IntKind.i64 x.1.2.kind, Value.int IntKind.i64 x.1.2.order, Value.int IntKind.i64 x.1.2.due], undef, undef, undef, undef, undef, undef, undef, undef, undef, undef, undef, undef, undef, undef, undef], defers := [] })
    (fun x a' => Own.from (own_ex fun Bx => own_and (own_pure _) (own_and (Holds.own _) (own_pure _))) _)
    ?assign ?body ?done ?stop
  case assign =>
    rintro r pre x W K ⟨⟨⟨hcs, v, hbv, hvr⟩, ⟨hrow, hsW, hbN'⟩, hbR'⟩, hB⟩ hK
    have hW := hB.size
    have hRW := hbv.lt
    have hlt3 := hbR'.lt
    gi_wp2
    refine hK _ _ ((KeepsOthers.alloc _ _).from _) ((KpDue.refl _ _ _).alloc hW (by omega) _) ⟨⟨⟨hcs.alloc _, v, hbv.alloc _, hvr.alloc _⟩, ⟨hrow.alloc _, by simp; omega, hbN'.alloc _⟩, hbR'.alloc _⟩, hB.alloc hW _⟩ ⟨W.heap.size, by omega, ?_, rfl⟩
    exact .cons (by simp [go_sem]) (by simp [go_sem]) (.cons (by simp [go_sem]) (by simp [go_sem]) (.cons (by simp [go_sem]) (by simp [go_sem]) (.cons (by simp [go_sem]) (by simp [go_sem]) (.nil _))))
  case body =>
    rintro r pre x a' W hl hrec ⟨⟨⟨hcs, v, hbv, hvr⟩, ⟨hrow, hsW, hbN'⟩, hbR'⟩, hB⟩ ⟨Bx, hBx, hX, rfl⟩ hlt
    obtain ⟨i0, hi0, hz00, hz01, hz02⟩ := info_parts info60
    obtain ⟨⟨q, o⟩, hq⟩ := x
    dsimp only at hX hq ⊢
    obtain ⟨g, cap3, hv3, hg1, hg2⟩ := hrow.form (by omega)
    injection hv3 with hv31 hv32 hv33
    subst hv31 hv33
    have hgR1 : g < R := hgR g rfl
    have hgne : g ≠ R + 1 := by omega
    have hgne2 : R + 1 ≠ g := by omega
    have hRne : R ≠ w.heap.size + 1 := by omega
    have hne1 := boxed_ne hbv hvr (by decide)
    have hne2 := boxed_ne hbR' hvr (by decide)
    have hcsR : ∀ p ∈ [((⟨w.heap.size, 0, none⟩ : Addr), Value.int .i64 last), (⟨w.heap.size, 1, none⟩, .slice A l.length c), (⟨w.heap.size + 1, 0, none⟩, .int .i64 now), (⟨w.heap.size + 1 + 1, 0, none⟩, .int .i64 0), (⟨w.heap.size + 1 + 1, 1, none⟩, .slice none 0 0)], p.1.block < R := by
      intro p hp
      simp at hp
      rcases hp with rfl | rfl | rfl | rfl | rfl <;> (dsimp only; omega)
    replace hcsR := Lib.hid hcsR
    replace hne1 := Lib.hid hne1
    replace hne2 := Lib.hid hne2
    have hql : q * 4 + 3 < ((tellRows l now pre).flatMap O.c).length := by rw [flat_len O.c 4 O.len, tellRows_length]; omega
    replace hql := Lib.hid hql
    obtain ⟨xc0, xf0⟩ := hX.one
    obtain ⟨xc1, xf1⟩ := hX.tail.one
    obtain ⟨xc2, xf2⟩ := hX.tail.tail.one
    obtain ⟨xc3, xf3⟩ := hX.tail.tail.tail.one
    obtain ⟨nc, nf⟩ := hcs.tail.tail.one
    have tc := hbv.cell
    have tf := hbv.frozen
    have rc := hbR'.cell
    have rf := hbR'.frozen
    have hBxW := lt_of_cell xc0
    have hTW := hbv.lt
    dsimp only at hBxW
    have hnews : ∀ j u, (O.c o)[j]? = some u → (W.alloc (.cells #[.int .i64 o.key, .int .i64 o.kind, .int .i64 o.order, .int .i64 o.due] 60)).cell? ((⟨W.heap.size, 0, none⟩ : Addr).add j) = some u := fun j u hu => by
      obtain ⟨ad, e, _, hc⟩ := (reads_new (W := W) (size := 4) (n := 1) (g := W.heap.size) (cs := #[.int .i64 o.key, .int .i64 o.kind, .int .i64 o.order, .int .i64 o.due]) (t := 60) rfl rfl).2 (by omega)
      cases e
      exact hc j u hu
    replace hnews := Lib.hid hnews
    replace hvr := Lib.hid hvr
    replace hrow := Lib.hid hrow
    replace hcs := Lib.hid hcs
    replace hX := Lib.hid hX
    gi_wp2_with (gi_at_builtin; refine wpListIn_append_own _ rfl (.tmp 29) (.tmp 31) 51 rfl R 60 i0 _ 4 32 Try.underlying51 hi0 hz00 hz01 hz02 rfl (by omega) v pre.length _ rfl (hvr.out.alloc _) ⟨W.heap.size, 0, none⟩ 1 1 (O.c o) rfl rfl hnews.out (o_one _) (by simp only [maxLen]; omega) (by omega) (by simp; omega) ?_; intro v' w4 hown4 hgr4 _; obtain ⟨A5, c5, rfl, hc5, _⟩ := own_read hown4; have tb4 := (hbv.alloc (.cells #[.int .i64 o.key, .int .i64 o.kind, .int .i64 o.order, .int .i64 o.due] 60)).kept hgr4 (Ne.symm hne1.out); have rb4 := (hbR'.alloc (.cells #[.int .i64 o.key, .int .i64 o.kind, .int .i64 o.order, .int .i64 o.due] 60)).kept hgr4 (Ne.symm hne2.out)
                 have cs4 := (hcs.out.alloc (.cells #[.int .i64 o.key, .int .i64 o.kind, .int .i64 o.order, .int .i64 o.due] 60)).grown hgr4 (fun p hp => own_far hvr.out (hcsR.out p hp))
                 have rows4 := (hrow.out.alloc (.cells #[.int .i64 o.key, .int .i64 o.kind, .int .i64 o.order, .int .i64 o.due] 60)).kept hgr4 (.inr (own_far hvr.out hgR1))
                 have tc4 := tb4.cell
                 have tf4 := tb4.frozen
                 have rc4 := rb4.cell
                 have nc4 := cs4.tail.tail.one.1
                 have gf4 := rows4.frozenAt (q * 4 + 3)
                 have gc4 := (rows4.cellAt (q * 4 + 3) (by omega)).trans (List.getElem?_eq_getElem hql.out)
                 have rows5 := Lib.hid rows4
                 clear rows4)
    all_goals
      exact tell_round (x := ⟨(q, o), hq⟩) (by unfold nextDue; split <;> omega) hs2R hgR1 (by omega) hsW rfl hB hvr.out hbN' ⟨by omega, by omega, by omega⟩ hgr4 hown4 tb4 rb4 cs4 rows5.out _
  case done =>
    rintro D ys W hD rfl ⟨⟨⟨hcs, v, hbv, hvr⟩, ⟨hrow, hsW, hbN'⟩, hbR'⟩, hB⟩ hK
    obtain ⟨A5, c5, rfl, hc5, _⟩ := own_read hvr
    clear ac0 ac1 kc0 rc0 rc1 af0 af1 kf0 rf0 rf1
    obtain ⟨ac0, af0⟩ := hcs.one
    obtain ⟨ac1, af1⟩ := hcs.tail.one
    obtain ⟨rc0, rf0⟩ := hcs.tail.tail.tail.one
    obtain ⟨rc1, rf1⟩ := hcs.tail.tail.tail.tail.one
    have tc := hbv.cell
    have bc := hbR'.cell
    replace hvr := Lib.hid hvr
    replace hrow := Lib.hid hrow
    replace hK := Lib.hid hK
    go_wp2_with fail
    go_region
    go_wp2_with fail
    generalize hX : World.drew _ = X
    have kX : KeepsOthers W X := by rw [← hX]; exact (((KeepsOthers.setCell _ _ _).trans (KeepsOthers.setCell _ _ _)).trans (KeepsOthers.setCell _ _ _)).trans (KeepsOthers.drew _)
    have hKX := kX.same D _ hK.out rfl
    have x0 : X.cell? ⟨w.heap.size + 1 + 1, 0, none⟩ = some (.int .i64 last) := by rw [← hX]; clear hX kX hKX; simp [go_sem, *]
    have x1 : X.cell? ⟨w.heap.size + 1 + 1, 1, none⟩ = some (.slice A3 l.length cr) := by rw [← hX]; clear hX kX hKX x0; simp [go_sem, *]
    have hbX : Below w.heap.size w X := by
      rw [← hX]
      ((repeat (first | with_reducible exact hB | with_reducible refine Below.drew ?_ | with_reducible refine Below.alloc ?_ ?_ _ | with_reducible refine Below.setCell ?_ ?_ _)); all_goals first | omega | (simp; done) | (simp; omega))
    have hrow1 : Reads X (fun k => w1.heap.size ≤ k) 4 A3 l.length ((tellRows l now (dueAt l now l.length)).flatMap O.c) := by
      rw [← hX]
      refine Reads.drew ((((Reads.of_own hrow.out).far (p := ⟨w.heap.size, 1, none⟩) ?_ _).far (p := ⟨w.heap.size + 1 + 1, 0, none⟩) ?_ _).far (p := ⟨w.heap.size + 1 + 1, 1, none⟩) ?_ _)
      all_goals (intro k hk; dsimp only; omega)
    have hrow2 : Reads X (fun k => R ≤ k) 4 A5 (dueAt l now l.length).length (((dueAt l now l.length).map (fun x => x.1.2)).flatMap O.c) := by
      rw [← hX]
      refine Reads.drew ((((Reads.of_own hvr.out).far (p := ⟨w.heap.size, 1, none⟩) ?_ _).far (p := ⟨w.heap.size + 1 + 1, 0, none⟩) ?_ _).far (p := ⟨w.heap.size + 1 + 1, 1, none⟩) ?_ _)
      all_goals (intro k hk; dsimp only; omega)
    obtain ⟨ta, tb⟩ := tell_all l now
    have hln : (dueAt l now l.length).length = (toldL l now).length := by unfold toldL; rw [← tb, List.length_map]
    rw [ta] at hrow1
    rw [tb, hln] at hrow2
    rw [hln] at hc5
    have y0 := (cell_put (X := X) (D := D) (p := ⟨w.heap.size + 1 + 1, 0, none⟩) (by dsimp only; omega) (.deferred none)).trans x0
    have y1 := (cell_put (X := X) (D := D) (p := ⟨w.heap.size + 1 + 1, 1, none⟩) (by dsimp only; omega) (.deferred none)).trans x1
    have hsX := hbX.size
    refine bodyPostM_ret (v := .tuple #[.agg #[.int .i64 last, .slice A3 l.length cr], .slice A5 (dueAt l now l.length).length c5, .int .i64 0]) hKX (by simp [results, Try.results29, go_sem, *]) ⟨A3, cr, A5, c5, by rw [hln], hlc3, ?_, hc5, ?_, ?_⟩
    · exact (reads_put hrow1 hKX rfl _).mono (fun k hk => by omega)
    · exact (reads_put hrow2 hKX rfl _).mono (fun k hk => by omega)
    · exact below_put hbX hsX hKX (by omega) _
  case stop =>
    rintro D c' pre W _ _ h _
    exact h.elim
end Go.Proofs.Ytejdmefiobgcdaa
