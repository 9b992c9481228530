import Derived.Test.YtejdmefiobgcdaaNetf
import Derived.Test.YtejdmefiobgcdaaNetg
import Derived.Test.YtejdmefiobgcdaaNeth
namespace Go.Proofs.Ytejdmefiobgcdaa
open Go.RowKit Go.Proofs Go.Maps

theorem pieceA' (N : Nat) (A : Option Addr) (l : List Par) (c : Nat) (va : Value) (w W : World) (okl : Nat → Prop) (hr : Reads w okl 6 A l.length (l.flatMap Par.c)) (hlen : l.length ≤ 4000000000000) (hN : w.heap.size = N)
    (hst : St N w W [] [] (fun _ => 0) 0 (.slice none 0 0)) (K : Act → World → Prop) (R : Ending → World → Prop) (a : Act) (hfr : Fr a (.slice A l.length c) va (.pointer (some ⟨N, 0, none⟩)) (.slice none 0 0) (.map (some (N + 1))))
    (hQ : ∀ a' w' S v nE, Fr a' (.slice A l.length c) va (.pointer (some ⟨N, 0, none⟩)) v (.map (some (N + 1))) → Sent S → S.length ≤ 20 → nE ≤ 20 → St N w w' S S (cnt S) nE v → K a' w') :
    Code.wp Try.prog (headOf (netAt 4)) (Exit.then K (bodyPost Try.prog Try.f3 R)) a W := by
  obtain ⟨u, rfl⟩ := fr_lit hfr
  exact pieceA N u A l c va w W okl hr hlen hN hst K R hQ
set_option maxRecDepth 1000000 in
set_option maxHeartbeats 2000000 in
theorem netOnce_any (A AA : Option Addr) (l : List Par) (acts : List Int) (c na ca : Nat) (w : World) (okl oka : Nat → Prop) (hr : Reads w okl 6 A l.length (l.flatMap Par.c)) (hra : Reads w oka 1 AA na (acts.map (Value.int .i64)))
    (hl : l.length ≤ 4000000000000) (hna : na ≤ 18000000000000) (hwf : ∀ x ∈ acts, -9223372036854775808 ≤ x ∧ x ≤ 9223372036854775807) :
    Calls Try.prog 3 #[.slice A l.length c, .slice AA na ca] w fun e w' => e = .returned (.bool true) ∧ Below w.heap.size w w' := by
  have hmm := @run_makeMap Try.prog
  go_enter Try.func3, Try.ntmps3
  refine wp_seq_k fun K1 h1 => ?_
  have H1 := Lib.hid h1
  clear h1
  go_wp2_with fail
  refine H1.out _ _ ?_
  refine wp_seq_k fun K2 h2 => ?_
  have H2 := Lib.hid h2
  clear h2 H1
  go_wp2_with fail
  refine H2.out _ _ ?_
  refine wp_seq_k fun K3 h3 => ?_
  have H3 := Lib.hid h3
  clear h3 H2
  go_wp2_with fail
  refine H3.out _ _ ?_
  refine wp_seq_k fun K4 h4 => ?_
  have H4 := Lib.hid h4
  clear h4 H3
  go_wp2_with fail
  refine H4.out _ _ ?_
  clear H4
  have hst : St w.heap.size w ((w.alloc (.cells #[.slice none 0 0, .int .i64 0] 25)).alloc (.map #[] 0)) [] [] (fun _ => 0) 0 (.slice none 0 0) := by
    refine ⟨((Below.refl _ _).alloc (Nat.le_refl _) _).alloc (by simp) _, by simp, ⟨none, 0, Nat.le_refl _, by simp [go_sem], reads_nil _ _⟩, by simp [go_sem], by simp [go_sem], by simp [go_sem], World.ownsRow_nil _ _ _ _, .map [], ?_, fun x => rfl⟩
    have := World.ownsMap_made (H := Unit) (w.alloc (.cells #[.slice none 0 0, .int .i64 0] 25)) Try.prog 3 (plainElem Try.prog 3)
    simpa using this
  refine wp_seq ?_
  refine pieceA' w.heap.size A l c (.slice AA na ca) w _ okl hr hl rfl hst _ _ _ ⟨rfl, rfl, rfl, rfl, rfl, rfl, rfl⟩ ?_
  intro a1 w1 S v nE hfr hsent hS hE hst1
  obtain ⟨u1, rfl⟩ := fr_lit hfr
  clear hst hfr
  refine wp_seq ?_
  refine pieceB w.heap.size u1 (.slice A l.length c) AA acts na ca w w1 oka hra hna rfl hwf S v nE hsent hS hE hst1 _ _ ?_
  intro a2 w2 F nE2 hfr hfl hF64 hE2 hst2
  obtain ⟨u2, rfl⟩ := fr_lit hfr
  clear hst1 hfr
  refine wp_seq ?_
  refine pieceC w.heap.size u2 (.slice A l.length c) (.slice AA na ca) w w2 S F v nE2 hsent hS hE2 hfl hF64 hst2 _ _ ?_
  intro a3 w3 nE3 hfr hE3 hst3
  obtain ⟨u3, rfl⟩ := fr_lit hfr
  clear hst2 hfr
  refine wp_seq ?_
  refine pieceD w.heap.size u3 (.slice A l.length c) (.slice AA na ca) w w3 S F v nE3 hst3 _ _ ?_
  intro a4 w4 hfr hst4
  obtain ⟨u4, rfl⟩ := fr_lit hfr
  clear hst3 hfr
  obtain ⟨FA, Fc, hF1, hF2, hF3⟩ := hst4.net
  have hF4 := hst4.net1
  have hb4 := hst4.below
  have hs4 := hst4.size
  have HA := Lib.hid (Flies.may hsent hfl)
  clear hst4 hsent hfl hr hra hmm hwf
  go_wp2_with fail
  refine (alive15 _).mono ?_
  rintro e w5 ⟨rfl, hb5⟩
  have hc0 := cell_below hb5 hF2
  have hc1 := cell_below hb5 hF4
  have hr5 := hF3.below hb5
  have hb45 := below_then hb4 (by omega) hb5
  have hs5 := hb5.size
  clear hF2 hF3 hF4 hb4 hb5
  go_wp2_with fail
  refine (right_yes FA F Fc S.length _ _ hr5 hF64 (by omega) (by omega) HA.out).mono ?_
  rintro e w6 ⟨rfl, hb6⟩
  have hb46 := below_then hb45 (by omega) hb6
  clear hr5 hb6 hc0 hc1
  go_wp2_with fail
  go_ret
  exact ⟨rfl, hb46⟩
end Go.Proofs.Ytejdmefiobgcdaa
