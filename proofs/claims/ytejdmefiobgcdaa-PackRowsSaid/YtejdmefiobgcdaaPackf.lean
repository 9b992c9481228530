import Derived.Test.YtejdmefiobgcdaaPackt
import Derived.Deep.RegionWith
namespace Go.Proofs.Ytejdmefiobgcdaa
open Go.RowKit Go.Proofs

theorem eqg (op : BinOp) (a b : List UInt8) (x y : Operand) : eqGuard op 9 x y (str a) (str b) = pure () := by cases op <;> rfl
theorem neqs (a b : List UInt8) (W : World) : (binOp .neq 9 (str a) (str b)).run Try.prog W = .ok (.bool (!decide (a = b))) W := by
  simp only [str]
  rw [show (binOp .neq 9 (.string ⟨a.toArray⟩) (.string ⟨b.toArray⟩)).run Try.prog W = .ok (.bool !((⟨a.toArray⟩ : ByteArray).toList == (⟨b.toArray⟩ : ByteArray).toList)) W by simp [go_sem], toList_mk, toList_mk]
  by_cases h : a = b <;> simp [h]
theorem eqs (a b : List UInt8) (W : World) : (binOp .eql 9 (str a) (str b)).run Try.prog W = .ok (.bool (decide (a = b))) W := by
  simp only [str]
  rw [show (binOp .eql 9 (.string ⟨a.toArray⟩) (.string ⟨b.toArray⟩)).run Try.prog W = .ok (.bool ((⟨a.toArray⟩ : ByteArray).toList == (⟨b.toArray⟩ : ByteArray).toList)) W by simp [go_sem], toList_mk, toList_mk]
  by_cases h : a = b <;> simp [h]
theorem row_len (L : List (List UInt8)) (h : MayRow L) : (rowS L).1.length ≤ 2000000 := by
  unfold rowS
  rw [if_pos h, List.length_append]
  have h1 := items_len L 4096 (by omega) h.2
  have h2 := enc_len 8 (zz L.length) (by have := h.1; unfold zz; split <;> omega)
  have h3 : L.length * (4096 + 9) ≤ 256 * 4105 := Nat.mul_le_mul_right _ h.1
  omega

-- the law PackBack
set_option maxRecDepth 100000 in
set_option maxHeartbeats 1600000 in
theorem packBack_any (n : Int) (A : Option Addr) (l : List (List UInt8)) (c : Nat) (s : List UInt8) (w : World) (hlc : l.length ≤ c) (ok : Nat → Prop) (hr : Reads w ok 1 A l.length (l.map str)) (hb : ∀ s ∈ l, s.length ≤ 9223372036854775807) (hll : l.length < 4611686018427387904) (hs : s.length ≤ 9223372036854775807) :
    Calls Try.prog 10 #[.int .i64 n, .slice A l.length c, str s] w fun e w' => e = .returned (.bool true) ∧ Below w.heap.size w w' := by
  obtain ⟨m, hm⟩ : ∃ m : Nat, (if (10000 : Int) < (s.length : Int) then (10000 : Int) else (s.length : Int)) = m := ⟨min s.length 10000, by split <;> omega⟩
  have hm0 : m = min s.length 10000 := by split at hm <;> omega
  obtain ⟨S, hS⟩ : ∃ S : List UInt8, S = s.take m := ⟨_, rfl⟩
  have hSl : S.length ≤ 10000 := by rw [hS, List.length_take]; omega
  have hheadS : ∀ W, (Instr.sliceAt 9 (str s) none (some (.int .i64 (m : Int))) none).run Try.prog W = .ok (str S) W := fun W => by rw [hS]; exact str_head s m (by omega) _ rfl W
  have hheadR : ∀ W, (Instr.slice 9 (str s) none (some (.int .i64 (min (s.length : Int) 10000))) none).run Try.prog W = .ok (str S) W := fun W => by
    rw [hS, show min (s.length : Int) 10000 = (m : Int) by omega]
    have := str_head s m (by omega) _ rfl W
    rwa [run_sliceAt_string W 9 _ _ _ _ Try.underlying9] at this
  have hl2 := len_str s
  replace hm0 := Lib.hid hm0
  replace hS := Lib.hid hS
  have hfew := Lib.hid (fun W (h : Below w.heap.size w W) => fewP A l c W hlc ok (hr.below h) hb hll)
  clear hb hr
  go_enter Try.func10, Try.ntmps10
  go_upto_region 1 with fail
  (try simp only [Act.put, List.setIfInBounds_toArray, List.set_cons_zero, List.set_cons_succ])
  go_cut [1, 2] (fun v1 v2 wc => ∃ A1 c1, v1 = .slice A1 (fewL l).length c1 ∧ v2 = str S ∧ (fewL l).length ≤ c1 ∧ Reads wc (fun k => w.heap.size ≤ k) 1 A1 (fewL l).length ((fewL l).map str) ∧ Below w.heap.size w wc)
  case first =>
    go_region_with (go_at_call 48; refine (hfew.out _ (Below.drew (Below.refl _ _))).mono ?_; rintro e w1 ⟨A1, c1, rfl, hc1, hr1, hb1⟩)
    all_goals
      go_wp2_with fail
      go_meet
      case rel => exact ⟨A1, c1, rfl, rfl, hc1, hr1, (Below.refl _ w).drew.trans hb1⟩
  case rest =>
    obtain ⟨A1, c1, rfl, rfl, hc1, hr1, hB⟩ := hcut
    rename World => W1
    rename_i aK
    refine aK _ _ ?_
    clear aK
    have hLl : (fewL l).length ≤ 258 := by unfold fewL; rw [List.length_map, List.length_take]; omega
    have hLs : ∀ t ∈ fewL l, t.length ≤ 4100 := by
      intro t ht
      unfold fewL at ht
      obtain ⟨x, _, rfl⟩ := List.mem_map.1 ht
      rw [List.length_take]; omega
    generalize fewL l = L at hc1 hr1 hLl hLs ⊢
    clear hfew hl2 hheadR hheadS hS hm0 hm
    replace hLs := Lib.hid hLs
    -- 1: a number, and what is behind it
    refine wp_seq_k fun K1 hK1 => ?_
    go_cut [] (fun wc1 => Below W1.heap.size W1 wc1)
    case first =>
      have hg := fun x y => eqg .neq S S x y
      have hne : ∀ W, (binOp .neq 9 (str S) (str S)).run Try.prog W = .ok (.bool false) W := fun W => by rw [neqs]; simp
      by_cases hn : mayN n = true
      · have hb : -1152921504606846976 ≤ n ∧ n ≤ 1152921504606846976 := by simpa [mayN] using hn
        have h9 : (enc (zz n)).length ≤ 9 := enc_len 8 _ (by unfold zz; split <;> omega)
        have hadd := add_str (enc (zz n)) S (by omega)
        have hrd : ∀ W, Calls Try.prog 56 #[str (enc (zz n) ++ S)] W fun e w' => e = .returned (.tuple #[.int .i64 n, str S, .int .i64 0]) ∧ Below W.heap.size W w' := fun W => by
          have := readP (enc (zz n) ++ S) W (by rw [List.length_append]; omega)
          rw [rd_back n S hn] at this
          exact this
        replace hrd := Lib.hid hrd
        replace hn := Lib.hid hn
        go_wp2_with (first
          | (go_at_call 55; refine (numberP_yes n hn.out _).mono ?_; rintro e w2 ⟨rfl, hb2⟩)
          | (go_at_call 56; refine (hrd.out _).mono ?_; rintro e w3 ⟨rfl, hb3⟩))
        go_meet
        case rel => exact hb2.trans (hb3.mono hb2.size)
      · have hn' := Lib.hid (show mayN n = false by simpa using hn)
        clear hn
        go_wp2_with (go_at_call 55; refine (numberP_no n hn'.out _).mono ?_; rintro e w2 ⟨rfl, hb2⟩)
        go_meet
        case rel => exact hb2
    case rest =>
      rename World => W2
      have hB2 := below_then hB hB.size hcut
      have hr2 := hr1.below hcut
      clear hcut hr1 hB
      refine hK1 _ _ ?_
      -- 2: a row
      refine wp_seq_k fun K2 hK2 => ?_
      go_cut [] (fun wc1 => Below W2.heap.size W2 wc1)
      case first =>
        by_cases hM : MayRow L
        · have hRl := row_len L hM
          have hrow : ∀ W, Below W2.heap.size W2 W → Calls Try.prog 49 #[.slice A1 L.length c1] W fun e w' => e = .returned (.tuple #[str (rowS L).1, .int .i64 0]) ∧ Below W.heap.size W w' := fun W h => by
            have := rowP A1 L c1 W _ (hr2.below h) (by omega) (fun t ht => by have := hLs.out t ht; omega)
            rwa [show (rowS L).2 = 0 by unfold rowS; rw [if_pos hM]] at this
          have hread : ∀ W, Calls Try.prog 50 #[str (rowS L).1] W fun e w' => ∃ A c, e = .returned (.tuple #[.slice A L.length c, .int .i64 0]) ∧ L.length ≤ c ∧ Reads w' (fun k => W.heap.size ≤ k) 1 A L.length (L.map str) ∧ Below W.heap.size W w' := fun W => by
            have := readRowP (rowS L).1 W (by omega)
            rwa [row_back L hM] at this
          have hsame : ∀ A2 c2 W, Reads W (fun _ => True) 1 A2 L.length (L.map str) → Below W2.heap.size W2 W → Calls Try.prog 26 #[.slice A2 L.length c2, .slice A1 L.length c1] W fun e w' => e = .returned (.bool true) ∧ Below W.heap.size W w' := fun A2 c2 W h1 h2 => by
            have := sameP A2 A1 L L c2 c1 W _ _ h1 (hr2.below h2) (by omega)
            rwa [decide_eq_true rfl] at this
          generalize (rowS L).1 = R at hrow hread
          replace hrow := Lib.hid hrow
          replace hread := Lib.hid hread
          replace hsame := Lib.hid hsame
          clear hM
          go_wp2_with fail
          refine (hrow.out _ (Below.refl _ _)).mono ?_
          rintro e w3 ⟨rfl, hb3⟩
          go_wp2_with fail
          refine (hread.out _).mono ?_
          rintro e w4 ⟨A2, c2, rfl, hc2, hr4, hb4⟩
          have hb24 := below_then hb3 hb3.size hb4
          go_wp2_with fail
          refine (hsame.out A2 c2 _ (hr4.mono (fun _ _ => trivial)) hb24).mono ?_
          rintro e w5 ⟨rfl, hb5⟩
          go_wp2_with fail
          go_meet
          case rel => exact below_then hb24 hb24.size hb5
        · have hrow : ∀ W, Below W2.heap.size W2 W → Calls Try.prog 49 #[.slice A1 L.length c1] W fun e w' => e = .returned (.tuple #[str [], .int .i64 3]) ∧ Below W.heap.size W w' := fun W h => by
            have := rowP A1 L c1 W _ (hr2.below h) (by omega) (fun t ht => by have := hLs.out t ht; omega)
            rwa [show rowS L = ([], 3) by unfold rowS; rw [if_neg hM]] at this
          replace hrow := Lib.hid hrow
          clear hM
          go_wp2_with fail
          refine (hrow.out _ (Below.refl _ _)).mono ?_
          rintro e w3 ⟨rfl, hb3⟩
          go_wp2_with fail
          go_meet
          case rel => exact hb3
      case rest =>
        rename World => W3
        have hB3 := below_then hB2 hB2.size hcut
        clear hcut hr2 hB2 hc1 hLl hLs
        refine hK2 _ _ ?_
        have hrd : ∀ W, Calls Try.prog 56 #[str S] W fun e w' => e = .returned (.tuple #[.int .i64 (rd 0 0 S).1, str (rd 0 0 S).2.1, .int .i64 (rd 0 0 S).2.2]) ∧ Below W.heap.size W w' := fun W => readP S W (by omega)
        -- 3: a number that is read
        refine wp_seq_k fun K3 hK3 => ?_
        go_cut [] (fun wc1 => Below W3.heap.size W3 wc1)
        case first =>
          have hfw := rd_fwd S
          have hln := rd_len S 0 0
          generalize rd 0 0 S = p at hrd hfw hln
          obtain ⟨k, t, er⟩ := p
          dsimp only at hrd hln
          by_cases he : er = 0
          · subst he
            obtain ⟨h1, h2⟩ := hfw k t rfl
            have hadd := add_str (enc (zz k)) t (by
              have hb : -1152921504606846976 ≤ k ∧ k ≤ 1152921504606846976 := by simpa [mayN] using h1
              have h9 : (enc (zz k)).length ≤ 9 := enc_len 8 _ (by unfold zz; split <;> omega)
              omega)
            rw [← h2] at hadd
            have hg := fun x y => eqg .neq S S x y
            have hne : ∀ W, (binOp .neq 9 (str S) (str S)).run Try.prog W = .ok (.bool false) W := fun W => by rw [neqs]; simp
            replace hrd := Lib.hid hrd
            replace h1 := Lib.hid h1
            replace h2 := Lib.hid h2
            clear hfw
            go_wp2_with (first
              | (go_at_call 56; refine (hrd.out _).mono ?_; rintro e w4 ⟨rfl, hb4⟩)
              | (go_at_call 55; refine (numberP_yes k h1.out _).mono ?_; rintro e w5 ⟨rfl, hb5⟩))
            go_meet
            case rel => exact below_then hb4 hb4.size hb5
          · have he' : (er == 0) = false := by simp [he]
            replace hrd := Lib.hid hrd
            clear hfw he
            go_wp2_with (go_at_call 56; refine (hrd.out _).mono ?_; rintro e w4 ⟨rfl, hb4⟩)
            go_meet
            case rel => exact hb4
        case rest =>
          rename World => W4
          have hB4 := below_then hB3 hB3.size hcut
          clear hcut hrd hB3
          refine hK3 _ _ ?_
          -- 4: a row that is read
          have hread : ∀ W, Calls Try.prog 50 #[str S] W fun e w' => ∃ A c, e = .returned (.tuple #[.slice A (readRow S).1.length c, .int .i64 (readRow S).2]) ∧ (readRow S).1.length ≤ c ∧ Reads w' (fun k => W.heap.size ≤ k) 1 A (readRow S).1.length ((readRow S).1.map str) ∧ Below W.heap.size W w' := fun W => readRowP S W (by omega)
          have hfw := row_fwd S
          have hbad := row_bad S
          generalize readRow S = p at hread hfw hbad
          obtain ⟨m, er⟩ := p
          dsimp only at hread hbad
          by_cases he : er = 0
          · subst he
            obtain ⟨hM, hS2⟩ := hfw m rfl
            have hml := hM.1
            have hrow : ∀ A2 c2 W, Reads W (fun _ => True) 1 A2 m.length (m.map str) → Calls Try.prog 49 #[.slice A2 m.length c2] W fun e w' => e = .returned (.tuple #[str S, .int .i64 0]) ∧ Below W.heap.size W w' := fun A2 c2 W h => by
              have := rowP A2 m c2 W _ h (by omega) (fun t ht => by have := hM.2 t ht; omega)
              rwa [show (rowS m).2 = 0 by unfold rowS; rw [if_pos hM], hS2] at this
            have hg := fun x y => eqg .eql S S x y
            have hne : ∀ W, (binOp .eql 9 (str S) (str S)).run Try.prog W = .ok (.bool true) W := fun W => by rw [eqs]; simp
            replace hread := Lib.hid hread
            replace hrow := Lib.hid hrow
            replace hS2 := Lib.hid hS2
            clear hfw hbad hM
            go_wp2_with fail
            refine (hread.out _).mono ?_
            rintro e w5 ⟨A2, c2, rfl, hc2, hr5, hb5⟩
            go_wp2_with fail
            refine (hrow.out A2 c2 _ (hr5.mono (fun _ _ => trivial))).mono ?_
            rintro e w6 ⟨rfl, hb6⟩
            go_wp2_with (go_at_call 52; refine (aliveP _).mono ?_; rintro e w7 ⟨rfl, hb7⟩)
            go_ret
            have h1 := below_then hb5 hb5.size hb6
            have h2 := below_then h1 h1.size hb7
            exact ⟨rfl, below_then hB4 hB4.size h2⟩
          · obtain rfl := hbad he
            have he' : (er == 0) = false := by simp [he]
            have he'' : (er != 0) = true := by simp [he]
            replace hread := Lib.hid hread
            clear hfw hbad he
            go_wp2_with fail
            refine (hread.out _).mono ?_
            rintro e w5 ⟨A2, c2, rfl, hc2, hr5, hb5⟩
            go_wp2_with (go_at_call 52; refine (aliveP _).mono ?_; rintro e w7 ⟨rfl, hb7⟩)
            go_ret
            exact ⟨rfl, below_then hB4 hB4.size (below_then hb5 hb5.size hb7)⟩
end Go.Proofs.Ytejdmefiobgcdaa
