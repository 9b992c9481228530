import Derived.Test.YtejdmefiobgcdaaPackk
namespace Go.Proofs.Ytejdmefiobgcdaa
open Go.RowKit Go.Proofs

theorem readRow_len (s : List UInt8) : (readRow s).1.length ≤ 256 := by
  by_cases h : (readRow s).2 = 0
  · exact (row_fwd s (readRow s).1 (Prod.ext rfl h)).1.1
  · rw [row_bad s h]; simp

-- the law PackRows
set_option maxRecDepth 100000 in
set_option maxHeartbeats 1600000 in
theorem packRows_any (A : Option Addr) (l : List (List UInt8)) (c : Nat) (s : List UInt8) (w : World) (hlc : l.length ≤ c) (ok : Nat → Prop) (hr : Reads w ok 1 A l.length (l.map str)) (hb : ∀ s ∈ l, s.length ≤ 9223372036854775807) (hll : l.length < 4611686018427387904) (hs : s.length ≤ 9223372036854775807) :
    Calls Try.prog 9 #[.slice A l.length c, str s] w fun e w' => e = .returned (.bool true) ∧ Below w.heap.size w w' := by
  obtain ⟨m, hm⟩ : ∃ m : Nat, (if (10000 : Int) < (s.length : Int) then (10000 : Int) else (s.length : Int)) = m := ⟨min s.length 10000, by split <;> omega⟩
  have hm0 : m = min s.length 10000 := by split at hm <;> omega
  obtain ⟨S, hS⟩ : ∃ S : List UInt8, S = s.take m := ⟨_, rfl⟩
  have hSl : S.length ≤ 10000 := by rw [hS, List.length_take]; omega
  have hheadS : ∀ W, (Instr.sliceAt 9 (str s) none (some (.int .i64 (m : Int))) none).run Try.prog W = .ok (str S) W := fun W => by rw [hS]; exact str_head s m (by omega) _ rfl W
  have hheadR : ∀ W, (Instr.slice 9 (str s) none (some (.int .i64 (min (s.length : Int) 10000))) none).run Try.prog W = .ok (str S) W := fun W => by
    rw [hS, show min (s.length : Int) 10000 = (m : Int) by omega]
    have := str_head s m (by omega) _ rfl W
    rwa [run_sliceAt_string W 9 _ _ _ _ Try.underlying9] at this
  have hl2 := len_str s
  replace hm0 := Lib.hid hm0
  replace hS := Lib.hid hS
  have hfew := Lib.hid (fun W (h : Below w.heap.size w W) => fewP A l c W hlc ok (hr.below h) hb hll)
  clear hb hr
  go_enter Try.func9, Try.ntmps9
  go_upto_region 1 with fail
  (try simp only [Act.put, List.setIfInBounds_toArray, List.set_cons_zero, List.set_cons_succ])
  go_cut [0, 1] (fun v0 v1 wc => ∃ A1 c1, v0 = .slice A1 (fewL l).length c1 ∧ v1 = str S ∧ (fewL l).length ≤ c1 ∧ Reads wc (fun k => w.heap.size ≤ k) 1 A1 (fewL l).length ((fewL l).map str) ∧ Below w.heap.size w wc)
  case first =>
    go_region_with (go_at_call 48; refine (hfew.out _ (Below.drew (Below.refl _ _))).mono ?_; rintro e w1 ⟨A1, c1, rfl, hc1, hr1, hb1⟩)
    all_goals
      go_wp2_with fail
      go_meet
      case rel => exact ⟨A1, c1, rfl, rfl, hc1, hr1, (Below.refl _ w).drew.trans hb1⟩
  case rest =>
    obtain ⟨A1, c1, rfl, rfl, hc1, hr1, hB⟩ := hcut
    rename World => W1
    rename_i aK
    refine aK _ _ ?_
    clear aK
    have hLl : (fewL l).length ≤ 258 := by unfold fewL; rw [List.length_map, List.length_take]; omega
    have hLs : ∀ t ∈ fewL l, t.length ≤ 4100 := by
      intro t ht
      unfold fewL at ht
      obtain ⟨x, _, rfl⟩ := List.mem_map.1 ht
      rw [List.length_take]; omega
    generalize fewL l = L at hc1 hr1 hLl hLs ⊢
    clear hfew hl2 hheadR hheadS hS hm0 hm
    replace hLs := Lib.hid hLs
    have hread : ∀ W, Calls Try.prog 50 #[str S] W fun e w' => ∃ A c, e = .returned (.tuple #[.slice A (readRow S).1.length c, .int .i64 (readRow S).2]) ∧ (readRow S).1.length ≤ c ∧ Reads w' (fun k => W.heap.size ≤ k) 1 A (readRow S).1.length ((readRow S).1.map str) ∧ Below W.heap.size W w' := fun W => readRowP S W (by omega)
    have hread2 : ∀ W, Calls Try.prog 51 #[str S] W fun e w' => ∃ A c, e = .returned (.tuple #[.slice A (readRow S).1.length c, .int .i64 (readRow S).2]) ∧ (readRow S).1.length ≤ c ∧ Reads w' (fun k => W.heap.size ≤ k) 1 A (readRow S).1.length ((readRow S).1.map str) ∧ Below W.heap.size W w' := fun W => refReadRow S W (by omega)
    have hrm := readRow_len S
    generalize readRow S = p at hread hread2 hrm
    obtain ⟨m, er⟩ := p
    dsimp only at hread hread2 hrm
    have hsame : ∀ A2 c2 A3 c3 W, Reads W (fun _ => True) 1 A2 m.length (m.map str) → Reads W (fun _ => True) 1 A3 m.length (m.map str) → Calls Try.prog 26 #[.slice A2 m.length c2, .slice A3 m.length c3] W fun e w' => e = .returned (.bool true) ∧ Below W.heap.size W w' := fun A2 c2 A3 c3 W h1 h2 => by
      have := sameP A2 A3 m m c2 c3 W _ _ h1 h2 (by omega)
      rwa [decide_eq_true rfl] at this
    have hmayr : ∀ W, Below W1.heap.size W1 W → Calls Try.prog 53 #[.slice A1 L.length c1] W fun e w' => e = .returned (.bool (decide (MayRow L))) ∧ Below W.heap.size W w' := fun W h => refMayRow A1 L c1 W _ (hr1.below h) (by omega)
    have hrow : ∀ W, Below W1.heap.size W1 W → Calls Try.prog 49 #[.slice A1 L.length c1] W fun e w' => e = .returned (.tuple #[str (rowS L).1, .int .i64 (rowS L).2]) ∧ Below W.heap.size W w' := fun W h => rowP A1 L c1 W _ (hr1.below h) (by omega) (fun t ht => by have := hLs.out t ht; omega)
    replace hread := Lib.hid hread
    replace hread2 := Lib.hid hread2
    replace hsame := Lib.hid hsame
    by_cases hM : MayRow L
    · have href : ∀ W, Below W1.heap.size W1 W → Calls Try.prog 54 #[.slice A1 L.length c1] W fun e w' => e = .returned (str (rowS L).1) ∧ Below W.heap.size W w' := fun W h => refRow A1 L c1 W _ (hr1.below h) hM
      rw [decide_eq_true hM] at hmayr
      rw [show (rowS L).2 = 0 by unfold rowS; rw [if_pos hM]] at hrow
      generalize (rowS L).1 = R at hrow href
      have hg := fun x y => eqg .eql R R x y
      have hne : ∀ W, (binOp .eql 9 (str R) (str R)).run Try.prog W = .ok (.bool true) W := fun W => by rw [eqs]; simp
      replace hmayr := Lib.hid hmayr
      replace hrow := Lib.hid hrow
      replace href := Lib.hid href
      clear hM
      go_wp2_with fail
      refine (hrow.out _ (Below.refl _ _)).mono ?_
      rintro e w2 ⟨rfl, hb2⟩
      go_wp2_with fail
      refine (hread.out _).mono ?_
      rintro e w3 ⟨A3, c3, rfl, hc3, hr3, hb3⟩
      go_wp2_with fail
      refine (hread2.out _).mono ?_
      rintro e w4 ⟨A4, c4, rfl, hc4, hr4, hb4⟩
      go_wp2_with fail
      refine (hsame.out A3 c3 A4 c4 _ ((hr3.below hb4).mono (fun _ _ => trivial)) (hr4.mono (fun _ _ => trivial))).mono ?_
      rintro e w5 ⟨rfl, hb5⟩
      go_wp2_with fail
      refine (aliveP _).mono ?_
      rintro e w6 ⟨rfl, hb6⟩
      have hb13 := below_then hb2 hb2.size hb3
      have hb14 := below_then hb13 hb13.size hb4
      have hb15 := below_then hb14 hb14.size hb5
      have hb16 := below_then hb15 hb15.size hb6
      go_wp2_with fail
      refine (hmayr.out _ hb16).mono ?_
      rintro e w7 ⟨rfl, hb7⟩
      have hb17 := below_then hb16 hb16.size hb7
      go_wp2_with fail
      refine (href.out _ hb17).mono ?_
      rintro e w8 ⟨rfl, hb8⟩
      go_wp2_with fail
      go_ret
      exact ⟨rfl, below_then hB hB.size (below_then hb17 hb17.size hb8)⟩
    · rw [decide_eq_false hM] at hmayr
      rw [show rowS L = ([], 3) by unfold rowS; rw [if_neg hM]] at hrow
      replace hrow : ∀ W, Below W1.heap.size W1 W → Calls Try.prog 49 #[.slice A1 L.length c1] W fun e w' => e = .returned (.tuple #[.string ⟨#[]⟩, .int .i64 3]) ∧ Below W.heap.size W w' := hrow
      replace hmayr := Lib.hid hmayr
      replace hrow := Lib.hid hrow
      clear hM
      go_wp2_with fail
      refine (hrow.out _ (Below.refl _ _)).mono ?_
      rintro e w2 ⟨rfl, hb2⟩
      go_wp2_with fail
      refine (hread.out _).mono ?_
      rintro e w3 ⟨A3, c3, rfl, hc3, hr3, hb3⟩
      go_wp2_with fail
      refine (hread2.out _).mono ?_
      rintro e w4 ⟨A4, c4, rfl, hc4, hr4, hb4⟩
      go_wp2_with fail
      refine (hsame.out A3 c3 A4 c4 _ ((hr3.below hb4).mono (fun _ _ => trivial)) (hr4.mono (fun _ _ => trivial))).mono ?_
      rintro e w5 ⟨rfl, hb5⟩
      go_wp2_with fail
      refine (aliveP _).mono ?_
      rintro e w6 ⟨rfl, hb6⟩
      have hb13 := below_then hb2 hb2.size hb3
      have hb14 := below_then hb13 hb13.size hb4
      have hb15 := below_then hb14 hb14.size hb5
      have hb16 := below_then hb15 hb15.size hb6
      go_wp2_with fail
      refine (hmayr.out _ hb16).mono ?_
      rintro e w7 ⟨rfl, hb7⟩
      have hb17 := below_then hb16 hb16.size hb7
      go_wp2_with fail
      go_ret
      exact ⟨rfl, below_then hB hB.size hb17⟩
end Go.Proofs.Ytejdmefiobgcdaa
