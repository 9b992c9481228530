import Derived.WalkKit
import Derived.Conc.LoneSelect
import Derived.Below
namespace Go.Proofs.Ytejdmefiobgcdaa
open Go.RowKit Go.Conc

/-! Code whose regions hold a communication that never waits, in one goroutine: the frame is not an early one. -/
def WpN (P : Program) (c : Code) (Q : Exit → Act → World → Prop) (a : Act) (w : World) : Prop :=
  ∀ (b : Frame) (k : List Item) (cs : List Frame), b.kind ≠ .early →
    ∃ e a' w', Q e a' w' ∧ Arrives P (lone (b.at a (.code c :: k)) cs w) b k cs e a' w'

/-- What is left of a region. -/
def RestN (P : Program) (ops : Array Oper) (Q : Exit → Act → World → Prop) (l : List Nat) (a : Act) (w : World) : Prop :=
  ∀ (b : Frame) (k : List Item) (cs : List Frame), b.kind ≠ .early →
    ∃ e a' w', Q e a' w' ∧ Arrives P (lone (b.at a (.inRegion ops l :: k)) cs w) b k cs e a' w'

section
variable {P : Program} {Q : Exit → Act → World → Prop} {a : Act} {w : World}

theorem WpN.of_wp {c : Code} (h : c.wp P Q a w) : WpN P c Q a w := fun b k cs _ => h b k cs

theorem WpN.mono {c : Code} {Q' : Exit → Act → World → Prop} (h : WpN P c Q a w) (hq : ∀ e a w, Q e a w → Q' e a w) : WpN P c Q' a w :=
  fun b k cs hb => let ⟨e, a', w', q, r⟩ := h b k cs hb; ⟨e, a', w', hq _ _ _ q, r⟩

theorem WpN.seq {x y : Code} (h : WpN P x (Exit.then (WpN P y Q) Q) a w) : WpN P (.seq x y) Q a w := by
  intro b k cs hb
  obtain ⟨e, a₁, w₁, hq, harr⟩ := h b (.code y :: k) cs hb
  cases e with
  | normal =>
    obtain ⟨e₂, a₂, w₂, hq₂, harr₂⟩ := hq b k cs hb
    exact ⟨e₂, a₂, w₂, hq₂, .of_steps (.head step_seq harr) harr₂⟩
  | _ => exact ⟨_, a₁, w₁, hq, .of_steps (.one step_seq) (.pass (x := .code y) rfl (fun _ _ => .inl (by simp)) harr)⟩

theorem WpN.seq_k {x y : Code} (h : ∀ K : Act → World → Prop, (∀ a w, WpN P y Q a w → K a w) → WpN P x (Exit.then K Q) a w) : WpN P (.seq x y) Q a w :=
  WpN.seq (h _ fun _ _ h => h)

theorem WpN.cond {c : Operand} {x y : Code} {t : Bool} (hc : a.eval c = .bool t) (h : WpN P (if t then x else y) Q a w) : WpN P (.cond c x y) Q a w :=
  fun b k cs hb => let ⟨e, a', w', q, r⟩ := h b k cs hb; ⟨e, a', w', q, .of_steps (.one (step_cond hc)) r⟩

theorem WpN.block {id : Nat} {c : Code} (h : WpN P c (Exit.inBlock id Q) a w) : WpN P (.block id c) Q a w := by
  intro b k cs hb
  obtain ⟨e, a₁, w₁, hq, harr⟩ := h b (.inBlock id :: k) cs hb
  cases e with
  | normal => exact ⟨.normal, a₁, w₁, hq, .head step_block (Steps.trans harr (.one step_inBlock))⟩
  | exit id' =>
    by_cases hid : id' = id
    · simp only [Exit.inBlock, hid, if_true] at hq
      exact ⟨.normal, a₁, w₁, hq, .head step_block (harr k (by simp [exitTo, hid]))⟩
    · simp only [Exit.inBlock, hid, if_false] at hq
      refine ⟨.exit id', a₁, w₁, hq, fun k' hk => .head step_block (harr k' ?_)⟩
      have : (id == id') = false := by simpa using fun h => hid h.symm
      simp [exitTo, this, hk]
  | goto l => exact ⟨_, a₁, w₁, hq, fun k' hk => .head step_block (harr k' (by simp [gotoIn, hk]))⟩
  | ret => exact ⟨_, a₁, w₁, hq, .of_steps (.one step_block) harr⟩
  | panic ch => exact ⟨_, a₁, w₁, hq, .of_steps (.one step_block) harr⟩
  | outgrown => exact ⟨_, a₁, w₁, hq, .of_steps (b := b) (k := k) (cs := cs) (e := .outgrown) (.one step_block) harr⟩

theorem WpN.loop {c : Code} (I : Act → World → Prop) (μ : Act → World → Nat) (h₀ : I a w)
    (round : ∀ a w, I a w → WpN P c (Exit.then (fun a' w' => I a' w' ∧ μ a' w' < μ a w) Q) a w) : WpN P (.loop c) Q a w := by
  intro b k cs hb
  have key : ∀ n a w, μ a w = n → I a w → ∃ e a' w', Q e a' w' ∧ Arrives P (lone (b.at a (.code c :: .inLoop c :: k)) cs w) b k cs e a' w' := by
    intro n
    induction n using Nat.strongRecOn with
    | _ n ih =>
      intro a w hn hI
      obtain ⟨e, a₁, w₁, hq, harr⟩ := round a w hI b (.inLoop c :: k) cs hb
      cases e with
      | normal =>
        obtain ⟨e₂, a₂, w₂, hq₂, harr₂⟩ := ih (μ a₁ w₁) (hn ▸ hq.2) a₁ w₁ rfl hq.1
        exact ⟨e₂, a₂, w₂, hq₂, .of_steps (Steps.trans harr (.one step_inLoop)) harr₂⟩
      | _ => exact ⟨_, a₁, w₁, hq, .pass (x := .inLoop c) rfl (fun _ _ => .inl (by simp)) harr⟩
  obtain ⟨e, a', w', hq, harr⟩ := key _ a w rfl h₀
  exact ⟨e, a', w', hq, .of_steps (.one step_loop) harr⟩

theorem WpN.region {id : Nat} {ops : Array Oper} (h : RestN P ops Q (List.range ops.size) a w) : WpN P (.region id ops false) Q a w :=
  fun b k cs hb => let ⟨e, a', w', q, r⟩ := h b k cs hb; ⟨e, a', w', q, .of_steps (.one step_region) r⟩

theorem RestN.of_ops {ops : Array Oper} {l : List Nat} (h : wpOps P ops Q l a w) : RestN P ops Q l a w := fun b k cs _ => wp_ops l a w h b k cs

theorem RestN.nil {ops : Array Oper} (h : Q .normal a w) : RestN P ops Q [] a w := RestN.of_ops h

theorem RestN.value {ops : Array Oper} {i : Nat} {rest : List Nat} {o : Oper} {v : Value} {w' : World} (ho : ops[i]? = some o) (hw : Region.wanted o (yielded ops a.tmps) = true) {d : Tmp} (hd : o.dst = some d)
    (hr : (execOp a.eval o).run P w = .ok (.value v) w') (h : RestN P ops Q rest (a.put (some d) v) w') : RestN P ops Q (i :: rest) a w := by
  intro b k cs hb
  obtain ⟨e, a', w₂, q, r⟩ := h b k cs hb
  refine ⟨e, a', w₂, q, .of_steps (.one (step_lone_go ?_)) r⟩
  have hfin : (b.at a (.inRegion ops (i :: rest) :: k)).finish v = b.at (a.put (some d) v) (.inRegion ops rest :: k) := by rw [Frame.finish_at, ho, ← hd]; rfl
  rw [stepG_op ho hw, ← hfin]; simp [stepG.apply, hr]

theorem RestN.step {ops : Array Oper} {i : Nat} {rest : List Nat} {o : Oper} {v : Value} {w₁ w' : World} {cases : Array CommCase} {blocking : Bool} {shape : CommShape}
    (ho : ops[i]? = some o) (hw : Region.wanted o (yielded ops a.tmps) = true) {d : Tmp} (hd : o.dst = some d) (hr : (execOp a.eval o).run P w = .ok (.comm cases blocking shape) w₁)
    (hs : ∀ (fr : Frame) (cs : List Frame) (es : Array Event), stepG P true (G fr cs) w = .comm (G fr cs) cases blocking shape w₁ es → step P (solo (G fr cs) w) = .next (solo (G (fr.finish v) cs) w'))
    (h : RestN P ops Q rest (a.put (some d) v) w') : RestN P ops Q (i :: rest) a w := by
  intro b k cs hb
  obtain ⟨e, a', w₂, q, r⟩ := h b k cs hb
  refine ⟨e, a', w₂, q, .of_steps (.one ?_) r⟩
  have hfin : (b.at a (.inRegion ops (i :: rest) :: k)).finish v = b.at (a.put (some d) v) (.inRegion ops rest :: k) := by rw [Frame.finish_at, ho, ← hd]; rfl
  have hg := stepG_comm (main := true) (P := P) (cs := cs) (k := k) (rest := rest) ho hw hb hr
  have := hs _ cs _ hg
  rw [hfin] at this
  exact this

theorem calls_of_WpN {f : FuncId} {fn : Func} {c : Code} {args : Array Value} {R : Ending → World → Prop}
    (hf : P.funcs[f]? = some fn) (hb : fn.body = some c)
    (h : WpN P c (bodyPost P fn R) { tmps := args ++ Array.replicate (fn.ntmps - args.size) undef, defers := [] } w) : Calls P f args w R := by
  intro cs
  let b : Frame := { (default : Frame) with fn := f, kind := .normal }
  have henter : Frame.enter P f args .normal = b.at { tmps := args ++ Array.replicate (fn.ntmps - args.size) undef, defers := [] } [.code c] := by
    simp [Frame.enter, Frame.at, hf, hb, b]
  obtain ⟨e, a', w', hq, harr⟩ := h b [] cs (by simp [b])
  rw [← henter] at harr
  cases e with
  | normal => obtain ⟨hd, v, hr, hR⟩ := hq; exact ⟨.returned v, w', _, hR, Steps.trans harr (.one step_end), rfl, rfl, hd, rfl, fn, hf, hr⟩
  | ret => obtain ⟨hd, v, hr, hR⟩ := hq; obtain ⟨todo, hs⟩ := harr; exact ⟨.returned v, w', _, hR, hs, rfl, rfl, hd, rfl, fn, hf, hr⟩
  | panic chain => obtain ⟨hd, hR⟩ := hq; obtain ⟨todo, hs⟩ := harr; exact ⟨.panicked chain, w', _, hR, hs, rfl, rfl, hd, fn, hf⟩
  | exit id => exact hq.elim
  | goto l => exact hq.elim
  | outgrown => exact ⟨.outgrown, w', b, hq, harr.resolve_left (by simp [b]), rfl, trivial⟩

/-- A send, by a select with a default, into a channel that has room. -/
theorem RestN.send_room {ops : Array Oper} {i : Nat} {rest : List Nat} {o : Oper} {w₁ : World} {c cap s r : Nat} {buf : Array Value} {v z : Value} {tm : Bool}
    (ho : ops[i]? = some o) (hw : Region.wanted o (yielded ops a.tmps) = true) {d : Tmp} (hd : o.dst = some d) (hr : (execOp a.eval o).run P w = .ok (.comm #[scase c v z] false .select) w₁)
    (hc : w₁.heap[c]? = some (.chan cap buf false s r tm)) (hroom : buf.size < cap)
    (h : RestN P ops Q rest (a.put (some d) (.tuple #[goInt 0, .bool false])) (w₁.setChan c cap (buf.push v) false (s + 1) r tm)) : RestN P ops Q (i :: rest) a w :=
  RestN.step ho hw hd hr (fun _ _ _ hg => step_lone_select_send_room hg hc hroom) h

/-- .. that has none: the default. -/
theorem RestN.send_full {ops : Array Oper} {i : Nat} {rest : List Nat} {o : Oper} {w₁ : World} {c cap s r : Nat} {buf : Array Value} {v z : Value} {tm : Bool}
    (ho : ops[i]? = some o) (hw : Region.wanted o (yielded ops a.tmps) = true) {d : Tmp} (hd : o.dst = some d) (hr : (execOp a.eval o).run P w = .ok (.comm #[scase c v z] false .select) w₁)
    (hc : w₁.heap[c]? = some (.chan cap buf false s r tm)) (hfull : cap ≤ buf.size)
    (h : RestN P ops Q rest (a.put (some d) (.tuple #[goInt (-1), .bool false])) w₁) : RestN P ops Q (i :: rest) a w :=
  RestN.step ho hw hd hr (fun _ _ _ hg => step_lone_select_send_full hg hc hfull) h

/-- A receive with comma-ok, of a buffer that holds something. -/
theorem RestN.recv_buf {ops : Array Oper} {i : Nat} {rest : List Nat} {o : Oper} {w₁ : World} {c cap s r : Nat} {buf : Array Value} {z : Value} {tm closed : Bool}
    (ho : ops[i]? = some o) (hw : Region.wanted o (yielded ops a.tmps) = true) {d : Tmp} (hd : o.dst = some d) (hr : (execOp a.eval o).run P w = .ok (.comm #[rcase c z] true (.recv true)) w₁)
    (hc : w₁.heap[c]? = some (.chan cap buf closed s r tm)) (hsome : 0 < buf.size)
    (h : RestN P ops Q rest (a.put (some d) (.tuple #[buf.getD 0 undef, .bool true])) (w₁.setChan c cap (buf.extract 1 buf.size) closed s (r + 1) tm)) : RestN P ops Q (i :: rest) a w :=
  RestN.step ho hw hd hr (fun _ _ _ hg => by simpa [got] using step_lone_recv_buf true hg hc hsome) h

/-- .. of a closed channel whose buffer is empty. -/
theorem RestN.recv_shut {ops : Array Oper} {i : Nat} {rest : List Nat} {o : Oper} {w₁ : World} {c cap s r : Nat} {z : Value} {tm : Bool}
    (ho : ops[i]? = some o) (hw : Region.wanted o (yielded ops a.tmps) = true) {d : Tmp} (hd : o.dst = some d) (hr : (execOp a.eval o).run P w = .ok (.comm #[rcase c z] true (.recv true)) w₁)
    (hc : w₁.heap[c]? = some (.chan cap #[] true s r tm))
    (h : RestN P ops Q rest (a.put (some d) (.tuple #[z, .bool false])) w₁) : RestN P ops Q (i :: rest) a w :=
  RestN.step ho hw hd hr (fun _ _ _ hg => by simpa [got] using step_lone_recv_shut true hg hc) h
end
end Go.Proofs.Ytejdmefiobgcdaa
