import Derived.RangeFuncNested
import Derived.RangeFuncBound
import Derived.RangeFuncCalls
import Derived.RangeFuncLeaves
import Derived.Shelf.Abstract
import Derived.Shelf.RegionOpen
import Derived.OwnWalkIn
import Derived.TacticsInMore
import Derived.LoopNIn
import Derived.LoopIn
import Derived.Test.YtejdmefiobgcdaaOuth
import Derived.Test.YtejdmefiobgcdaaRng
namespace Go.Proofs.Ytejdmefiobgcdaa
open Go.RowKit Go.Proofs Go.Shelf
attribute [local go_sem] Oper.semAt_some

/-- A place among n, and what is there. -/
abbrev DX (n : Nat) := { x : Nat × O // x.1 < n }
def dueOf (l : List O) (now : Int) (j : Nat) : Option (DX l.length) := if h : j < l.length then (if l[j].due ≤ now then some ⟨(j, l[j]), h⟩ else none) else none
/-- What is due among the first k, with its places. -/
def dueAt (l : List O) (now : Int) (k : Nat) : List (DX l.length) := (List.range k).filterMap (dueOf l now)
theorem dueAt_zero (l : List O) (now : Int) : dueAt l now 0 = [] := rfl
theorem dueAt_yes {l : List O} {now : Int} {k : Nat} {o : O} (hk : k < l.length) (ho : l[k]? = some o) (h : o.due ≤ now) : dueAt l now (k + 1) = dueAt l now k ++ [⟨(k, o), hk⟩] := by
  obtain ⟨_, rfl⟩ := List.getElem?_eq_some_iff.1 ho
  simp [dueAt, List.range_succ, dueOf, hk, h]
theorem dueAt_no {l : List O} {now : Int} {k : Nat} {o : O} (ho : l[k]? = some o) (h : ¬ o.due ≤ now) : dueAt l now (k + 1) = dueAt l now k := by
  obtain ⟨hk, rfl⟩ := List.getElem?_eq_some_iff.1 ho
  simp [dueAt, List.range_succ, dueOf, hk, h]
theorem dueAt_length (l : List O) (now : Int) (k : Nat) : (dueAt l now k).length ≤ k := by
  have := List.length_filterMap_le (dueOf l now) (List.range k)
  simpa [dueAt] using this

/-- What a round of a loop over due keeps. -/
def KpDue (n₀ Bn : Nat) (W W' : World) : Prop := Below n₀ W W' ∧ ∀ x : Addr, x.block = Bn → W'.cell? x = W.cell? x
theorem KpDue.refl (n₀ Bn : Nat) (W : World) : KpDue n₀ Bn W W := ⟨Below.refl _ _, fun _ _ => rfl⟩
theorem KpDue.trans {n₀ Bn : Nat} {A B C : World} (h : KpDue n₀ Bn A B) (k : KpDue n₀ Bn B C) : KpDue n₀ Bn A C := ⟨h.1.trans k.1, fun x hx => (k.2 x hx).trans (h.2 x hx)⟩
theorem KpDue.alloc {n₀ Bn : Nat} {A B : World} (h : KpDue n₀ Bn A B) (hn : n₀ ≤ B.heap.size) (hB : Bn < B.heap.size) (o : Obj) : KpDue n₀ Bn A (B.alloc o) :=
  ⟨h.1.alloc hn o, fun x hx => (World.cell?_alloc_lt B o x (by omega)).trans (h.2 x hx)⟩

set_option maxRecDepth 100000 in
set_option maxHeartbeats 2000000 in
theorem due1_in (F : Fence) (n : Nat) (h7 : F.fn 130) (hro : F.round = none) (hn : 1 ≤ n) (r Bl Bn n₀ c : Nat) (A : Option Addr) (l : List O) (now : Int) (hll : l.length ≤ 4000000000000) (J Jx : List (DX l.length) → World → Prop)
    (W : World) (hJ : AbidesFrom W.heap.size J)
    (hY : ∀ pre x W, J pre W → pre.length < l.length → YieldAt F (n - 1) Try.prog r #[.int .i64 (x.1.1 : Nat), .agg #[.int .i64 x.1.2.key, .int .i64 x.1.2.kind, .int .i64 x.1.2.order, .int .i64 x.1.2.due]] W fun e W' =>
      (e = .returned (.bool true) ∧ J (pre ++ [x]) W' ∧ KpDue n₀ Bn W W') ∨ (e = .returned (.bool false) ∧ Jx (pre ++ [x]) W'))
    (hBl : W.cell? ⟨Bl, 0, none⟩ = some (.slice A l.length c)) (hBn : W.cell? ⟨Bn, 0, none⟩ = some (.int .i64 now)) (hn₀ : n₀ ≤ W.heap.size)
    (hr : Reads W (fun k => k < n₀) 4 A l.length (l.flatMap O.c)) (h0 : J [] W) :
    CallsIn F n Try.prog 130 #[.func (.yield r) #[] #[], .pointer (some ⟨Bl, 0, none⟩), .pointer (some ⟨Bn, 0, none⟩)] W fun e W' => (∃ v, e = .returned v) ∧
      ((∃ ys, ys = dueAt l now l.length ∧ J ys W') ∨ (∃ pre, True ∧ Jx pre W')) := by
  have hBnW := lt_of_cell hBn
  dsimp only at hBnW
  have hr2 : ∀ W', KpDue n₀ Bn W W' → Reads W' (fun k => k < n₀) 4 A l.length (l.flatMap O.c) := fun W' h => hr.keep fun p hp _ => h.1.cell hp
  replace hr2 := Lib.hid hr2
  refine callsIn_of_wp Try.func130 rfl h7 ?_ hro
  simp only [Try.ntmps130, List.size_toArray, List.length_cons, List.length_nil, Nat.reduceAdd, Nat.reduceSub, Array.replicate_succ, Array.replicate_zero, List.push_toArray, List.append_toArray, List.nil_append, List.cons_append]
  gi_wp2
  gi_loopw [8] (fun i wr => ∃ k : Nat, k ≤ l.length ∧ i = .int .i64 k ∧ Hid (J (dueAt l now k) wr) ∧ KpDue n₀ Bn W wr) (fun i _ => l.length - (intOf i).toNat)
  case atStart => exact ⟨0, Nat.zero_le _, rfl, Lib.hid h0, KpDue.refl _ _ _⟩
  case round =>
    obtain ⟨k, hk, rfl, hJs, hK⟩ := hrel
    have hsz := hK.1.size
    have hBw : Bn < wr.heap.size := by omega
    have hn0w : n₀ ≤ wr.heap.size := by omega
    have hnow : wr.cell? ⟨Bn, 0, none⟩ = some (.int .i64 now) := (hK.2 _ rfl).trans hBn
    by_cases hlt : k < l.length
    · obtain ⟨o, ho⟩ : ∃ o, l[k]? = some o := ⟨_, List.getElem?_eq_getElem hlt⟩
      obtain ⟨b, of, rfl, hbl, _, hc⟩ := (hr2.out wr hK).elem O.len (by omega) k o ho
      have hc0 := hc 0 _ rfl
      have hc1 := hc 1 _ rfl
      have hc2 := hc 2 _ rfl
      have hc3 := hc 3 _ rfl
      clear hc
      simp only [Nat.add_zero] at hc0
      have hJa : J (dueAt l now k) (wr.alloc (.cells #[.int .i64 o.key, .int .i64 o.kind, .int .i64 o.order, .int .i64 o.due] 60)) := hJ _ _ _ none hJs.out (World.grownBy_alloc wr _ none) (fun r e => by cases e)
      have hKa := hK.alloc hn0w hBw (.cells #[.int .i64 o.key, .int .i64 o.kind, .int .i64 o.order, .int .i64 o.due] 60)
      by_cases hd : o.due ≤ now
      · have hdd : decide (o.due ≤ now) = true := by simp [hd]
        obtain ⟨fn, tmps, assign, body, hy, hR⟩ := hY _ ⟨(k, o), hlt⟩ _ hJa (by have := dueAt_length l now k; omega)
        dsimp only at hy
        have hyes := Lib.hid (dueAt_yes hlt ho hd)
        replace ho := Lib.hid ho
        replace hJa := Lib.hid hJa
        replace hR := Lib.hid hR
        gi_wp2
        refine hR.out.mono ?_
        rintro e W3 (⟨rfl, hJ3, hk3⟩ | ⟨rfl, hJx3⟩)
        · rw [← hyes.out] at hJ3
          replace hJ3 := Lib.hid hJ3
          gi_wp2
          go_roundw
          case rel => exact ⟨k + 1, by omega, by go_num, hJ3, hKa.trans hk3⟩
          case measure => simp [intOf]; omega
        · gi_wp2
          refine bodyPost_ret (results_none rfl _ _ _) rfl ?_
          exact ⟨⟨_, rfl⟩, .inr ⟨_, trivial, hJx3⟩⟩
      · have hdd : decide (o.due ≤ now) = false := by simp [hd]
        have hno := dueAt_no ho hd
        rw [← hno] at hJa
        replace hno := Lib.hid hno
        replace ho := Lib.hid ho
        replace hJa := Lib.hid hJa
        gi_wp2
        refine ⟨fun _ h => (by cases h), ?_⟩
        gi_wp2
        go_roundw
        case rel => exact ⟨k + 1, by omega, by go_num, hJa, hKa⟩
        case measure => simp [intOf]; omega
    · obtain rfl : k = l.length := by omega
      gi_wp2
      go_end0
      exact ⟨⟨_, rfl⟩, .inl ⟨_, rfl, hJs.out⟩⟩
end Go.Proofs.Ytejdmefiobgcdaa
