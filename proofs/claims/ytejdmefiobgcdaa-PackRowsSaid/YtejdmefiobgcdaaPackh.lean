import Derived.Test.YtejdmefiobgcdaaPackg
namespace Go.Proofs.Ytejdmefiobgcdaa
open Go.RowKit Go.Proofs

def val : List UInt8 → Nat
  | [] => 0
  | c :: t => c.toNat % 128 + 128 * val t
theorem val_lt : ∀ l : List UInt8, val l < 128 ^ l.length
  | [] => by simp [val]
  | c :: t => by have := val_lt t; rw [val, List.length_cons, Nat.pow_succ]; omega
def isEnd (c : UInt8) : Bool := decide (c.toNat < 128)
def lst (t : List UInt8) : Int := match t.findIdx? isEnd with | none => -1 | some j => (j : Int)
theorem lst_ge (t : List UInt8) : -1 ≤ lst t := by unfold lst; split <;> omega
theorem lst_snoc (t : List UInt8) (c : UInt8) : lst (t ++ [c]) = if lst t < 0 then (if c.toNat < 128 then (t.length : Int) else -1) else lst t := by
  unfold lst
  rw [List.findIdx?_append]
  cases h : t.findIdx? isEnd with
  | none =>
    by_cases hc : c.toNat < 128
    · simp [List.findIdx?_cons, isEnd, hc]
    · simp [List.findIdx?_cons, isEnd, hc]
  | some j =>
    have : ¬ ((j : Int) < 0) := by omega
    simp [this]

theorem rd_find : ∀ (l : List UInt8) (k x : Nat), k ≤ 9 →
    ((l.take (9 - k)).findIdx? isEnd = none → rd k x l = (0, [], if 9 - k ≤ l.length then 3 else 4)) ∧
    (∀ j, (l.take (9 - k)).findIdx? isEnd = some j → ∃ c, l[j]? = some c ∧ k + j < 9 ∧
      rd k x l = if (c.toNat = 0 ∧ 0 < k + j) ∨ mayN (unzz (x + 128 ^ k * val (l.take (j + 1)))) = false then (0, [], 5) else (unzz (x + 128 ^ k * val (l.take (j + 1))), l.drop (j + 1), 0))
  | [], k, x, hk => by
    refine ⟨fun _ => ?_, fun j h => by simp at h⟩
    rw [rd]
    by_cases h9 : 9 ≤ k
    · rw [if_pos h9, if_pos (by simp; omega)]
    · rw [if_neg h9, if_neg (by simp; omega)]
  | c :: t, k, x, hk => by
    by_cases h9 : k < 9
    · obtain ⟨ih1, ih2⟩ := rd_find t (k + 1) (x + c.toNat % 128 * 128 ^ k) (by omega)
      have e9 : 9 - k = (9 - (k + 1)) + 1 := by omega
      rw [e9, List.take_succ_cons, List.findIdx?_cons]
      by_cases hc : 128 ≤ c.toNat
      · have hi : isEnd c = false := by simp [isEnd]; omega
        rw [hi]
        simp only [Bool.false_eq_true, if_false]
        refine ⟨fun h => ?_, fun j h => ?_⟩
        · rw [Option.map_eq_none_iff] at h
          rw [rd_cons _ _ _ _ h9, if_pos hc, ih1 h]
          by_cases hl : 9 - (k + 1) ≤ t.length
          · rw [if_pos hl, if_pos (by simp; omega)]
          · rw [if_neg hl, if_neg (by simp; omega)]
        · obtain ⟨i, hi2, rfl⟩ := Option.map_eq_some_iff.1 h
          obtain ⟨d, h1, h2, h3⟩ := ih2 i hi2
          refine ⟨d, by simpa using h1, by omega, ?_⟩
          rw [rd_cons _ _ _ _ h9, if_pos hc, h3]
          have e1 : x + c.toNat % 128 * 128 ^ k + 128 ^ (k + 1) * val (t.take (i + 1)) = x + 128 ^ k * val ((c :: t).take (i + 1 + 1)) := by
            rw [List.take_succ_cons, val, Nat.pow_succ, Nat.mul_add, Nat.mul_comm (128 ^ k) (c.toNat % 128), Nat.mul_assoc, Nat.add_assoc]
          rw [e1, List.drop_succ_cons, show k + 1 + i = k + (i + 1) by omega]
      · have hi : isEnd c = true := by simp [isEnd]; omega
        rw [hi]
        simp only [if_true]
        refine ⟨fun h => by simp at h, fun j h => ?_⟩
        injection h with h
        subst h
        refine ⟨c, rfl, by omega, ?_⟩
        rw [rd_cons _ _ _ _ h9, if_neg hc]
        have e1 : x + c.toNat % 128 * 128 ^ k = x + 128 ^ k * val ((c :: t).take (0 + 1)) := by
          simp [val, Nat.mul_comm]
        rw [e1]
        rfl
    · have hk9 : k = 9 := by omega
      subst hk9
      refine ⟨fun _ => ?_, fun j h => by simp at h⟩
      rw [rd, if_pos (by omega), if_pos (by simp)]

set_option maxRecDepth 100000 in
set_option maxHeartbeats 800000 in
theorem refRead (l : List UInt8) (w : World) (hl : l.length < 100000000) : Calls Try.prog 91 #[str l] w fun e w' => e = .returned (.agg #[.int .i64 (rd 0 0 l).1, str (rd 0 0 l).2.1, .int .i64 (rd 0 0 l).2.2]) ∧ Below w.heap.size w w' := by
  obtain ⟨s, hs⟩ : ∃ s : ByteArray, s = ⟨l.toArray⟩ := ⟨_, rfl⟩
  have hsz : s.size = l.length := by rw [hs]; rfl
  have e0 : str l = .string s := by rw [hs]; rfl
  rw [e0]
  replace hs := Lib.hid hs
  replace e0 := Lib.hid e0
  have hb0 := Below.refl w.heap.size w
  go_enter Try.func91, Try.ntmps91
  go_wp2_with fail
  go_loopw [3, 4] (fun v3 v4 wr => ∃ (k : Nat), v3 = .int .i64 (lst (l.take k)) ∧ v4 = .int .i64 k ∧ k ≤ l.length ∧ k ≤ 9 ∧ wr = w.alloc (.cells #[.int .i64 0, .string ⟨#[]⟩, .int .i64 0] 143)) (fun _ v4 _ => 9 - (intOf v4).toNat)
  case atStart => exact ⟨0, rfl, rfl, by omega, by omega, rfl⟩
  case round =>
    obtain ⟨k, rfl, rfl, hk, hk9, rfl⟩ := hrel
    by_cases h1 : k < l.length ∧ k < 9
    · obtain ⟨h1, h2⟩ := h1
      have b1 : decide (k < l.length) = true := by simp [h1]
      have b2 : decide (k < 9) = true := by simp [h2]
      obtain ⟨c, hc⟩ : ∃ c, l[k]? = some c := ⟨_, List.getElem?_eq_getElem h1⟩
      have hix : ∀ W, (Instr.index 9 (.string s) (.int .i64 (k : Int))).run Try.prog W = .ok (.int .u8 (c.toNat : Int)) W := fun W => by rw [hs.out]; exact str_at l k c hc _ rfl W
      have hsn := lst_snoc (l.take k) c
      rw [List.length_take, Nat.min_eq_left hk] at hsn
      have hnx : l.take k ++ [c] = l.take (k + 1) := by rw [List.take_add_one, hc]; rfl
      rw [hnx] at hsn
      replace hc := Lib.hid hc
      clear hnx
      have hge := lst_ge (l.take k)
      generalize lst (l.take k) = L at hsn hge
      by_cases h3 : L < 0
      · have b3 : decide (L < 0) = true := by simp [h3]
        rw [if_pos h3] at hsn
        by_cases h4 : c.toNat < 128
        · have b4 : decide (c.toNat < 128) = true := by simp [h4]
          rw [if_pos h4] at hsn
          replace hsn := Lib.hid hsn
          go_wp2_with fail
          go_roundw
          case rel => exact ⟨k + 1, by rw [hsn.out], by go_num, by omega, by omega, trivial⟩
          case measure => simp [intOf]; omega
        · have b4 : decide (c.toNat < 128) = false := by simp [h4]
          rw [if_neg h4] at hsn
          obtain rfl : L = -1 := by omega
          replace hsn := Lib.hid hsn
          go_wp2_with fail
          go_roundw
          case rel => exact ⟨k + 1, by rw [hsn.out], by go_num, by omega, by omega, trivial⟩
          case measure => simp [intOf]; omega
      · have b3 : decide (L < 0) = false := by simp [h3]
        rw [if_neg h3] at hsn
        replace hsn := Lib.hid hsn
        go_wp2_with fail
        go_roundw
        case rel => exact ⟨k + 1, by rw [hsn.out], by go_num, by omega, by omega, trivial⟩
        case measure => simp [intOf]; omega
    · have hfind := rd_find l 0 0 (by omega)
      have htk : l.take k = l.take (9 - 0) := by
        rw [List.take_eq_take_iff]; omega
      have hL : lst (l.take k) = match (l.take (9 - 0)).findIdx? isEnd with | none => -1 | some j => (j : Int) := by rw [htk]; rfl
      rw [hL]
      obtain ⟨x1, hx1⟩ : ∃ x, decide (k < l.length) = x := ⟨_, rfl⟩
      obtain ⟨x2, hx2⟩ : ∃ x, decide ((k : Int) < 9) = x := ⟨_, rfl⟩
      have hx : x1 = false ∨ (x1 = true ∧ x2 = false) := by
        by_cases e : k < l.length
        · right
          refine ⟨by rw [← hx1]; simp [e], ?_⟩
          rw [← hx2]; simp; omega
        · left; rw [← hx1]; simp [e]
      clear h1 htk hL hk hk9
      rcases hx with rfl | ⟨rfl, rfl⟩
      all_goals
        rcases hf : (l.take (9 - 0)).findIdx? isEnd with _ | j
        · have hrd := hfind.1 hf
          clear hfind hf
          by_cases h9 : 9 ≤ l.length
          · rw [if_pos (by omega)] at hrd
            have b5 : decide (9 ≤ l.length) = true := by simp [h9]
            replace hrd := Lib.hid hrd
            go_wp2_with fail
            refine bodyPost_ret (v := .agg #[.int .i64 0, .string ⟨#[]⟩, .int .i64 3]) (by simp [results, Try.results91, go_sem, *]) rfl ⟨by rw [hrd.out]; rfl, ?_⟩
            (repeat (first | with_reducible exact hb0 | with_reducible refine Below.drew ?_ | refine Below.alloc ?_ (by first | omega | (simp; done) | (simp; omega)) _ | refine Below.setCell ?_ (by first | (simp; done) | (simp; omega)) _))
          · rw [if_neg (by omega)] at hrd
            have b5 : decide (9 ≤ l.length) = false := by simp [h9]
            replace hrd := Lib.hid hrd
            go_wp2_with fail
            refine bodyPost_ret (v := .agg #[.int .i64 0, .string ⟨#[]⟩, .int .i64 4]) (by simp [results, Try.results91, go_sem, *]) rfl ⟨by rw [hrd.out]; rfl, ?_⟩
            (repeat (first | with_reducible exact hb0 | with_reducible refine Below.drew ?_ | refine Below.alloc ?_ (by first | omega | (simp; done) | (simp; omega)) _ | refine Below.setCell ?_ (by first | (simp; done) | (simp; omega)) _))
        · obtain ⟨c, hc, hj9, hrd⟩ := hfind.2 j hf
          clear hfind hf
          have hjl : j < l.length := (List.getElem?_eq_some_iff.1 hc).1
          simp only [Nat.pow_zero, Nat.one_mul, Nat.zero_add] at hrd
          have hvl := val_lt (l.take (j + 1))
          have hpow : (128 : Nat) ^ (l.take (j + 1)).length ≤ 9223372036854775808 := by
            have h1 : (l.take (j + 1)).length ≤ 9 := by rw [List.length_take]; omega
            exact Nat.le_trans (Nat.pow_le_pow_right (by omega) h1) (by decide)
          have hy : val (l.take (j + 1)) < 9223372036854775808 := by omega
          have hT : ∃ T : ByteArray, str (l.drop (j + 1)) = .string T := ⟨_, rfl⟩
          obtain ⟨T, hT⟩ := hT
          have hcutS : ∀ W, (Instr.sliceAt 9 (.string s) (some (.int .i64 ((j : Int) + 1))) none none).run Try.prog W = .ok (.string T) W := fun W => by rw [hs.out, ← hT]; exact str_cut l (j + 1) (by omega) _ (by omega) W
          have hix : ∀ W, (Instr.index 9 (.string s) (.int .i64 (j : Int))).run Try.prog W = .ok (.int .u8 (c.toNat : Int)) W := fun W => by rw [hs.out]; exact str_at l j c hc _ rfl W
          have hsegs : ∀ i : Nat, i ≤ j → ∃ d, l[i]? = some d ∧ val ((l.take (j + 1)).drop i) = d.toNat % 128 + 128 * val ((l.take (j + 1)).drop (i + 1)) := by
            intro i hi
            have hil : i < (l.take (j + 1)).length := by rw [List.length_take]; omega
            refine ⟨(l.take (j + 1))[i], ?_, ?_⟩
            · rw [← List.getElem?_take_of_lt (show i < j + 1 by omega)]
              exact List.getElem?_eq_getElem hil
            · rw [List.drop_eq_getElem_cons hil, val]
          have hvals : ∀ i : Nat, val ((l.take (j + 1)).drop i) < 9223372036854775808 := by
            intro i
            have h1 := val_lt ((l.take (j + 1)).drop i)
            have h2 : (128 : Nat) ^ ((l.take (j + 1)).drop i).length ≤ 128 ^ 9 := Nat.pow_le_pow_right (by omega) (by rw [List.length_drop, List.length_take]; omega)
            have h3 : (128 : Nat) ^ 9 = 9223372036854775808 := by decide
            omega
          have hend : val ((l.take (j + 1)).drop (j + 1)) = 0 := by rw [List.drop_eq_nil_of_le (by rw [List.length_take]; omega)]; rfl
          have hc256 : c.toNat < 256 := by simpa using c.toNat_lt
          replace hc := Lib.hid hc
          replace hT := Lib.hid hT
          replace hsegs := Lib.hid hsegs
          replace hvals := Lib.hid hvals
          replace hend := Lib.hid hend
          replace hrd := Lib.hid hrd
          clear hvl hpow
          go_wp2_with fail
          go_loopw [5, 6] (fun v5 v6 wr => ∃ (i : Nat), v6 = .int .i64 ((i : Int) - 1) ∧ v5 = .int .i64 (val ((l.take (j + 1)).drop i)) ∧ i ≤ j + 1 ∧ wr = w.alloc (.cells #[.int .i64 0, .string ⟨#[]⟩, .int .i64 0] 143)) (fun _ v6 _ => ((intOf v6) + 1).toNat)
          case atStart => exact ⟨j + 1, by congr 1; omega, by rw [hend.out]; rfl, by omega, rfl⟩
          case round =>
            obtain ⟨i, rfl, rfl, hi, rfl⟩ := hrel
            by_cases h0 : 0 < i
            · obtain ⟨d, hd, hv⟩ := hsegs.out (i - 1) (by omega)
              have h1 := hvals.out (i - 1)
              rw [show i - 1 + 1 = i by omega] at hv
              have hd256 : d.toNat < 256 := by simpa using d.toNat_lt
              have hixd : ∀ W, (Instr.index 9 (.string s) (.int .i64 ((i : Int) - 1))).run Try.prog W = .ok (.int .u8 (d.toNat : Int)) W := fun W => by rw [hs.out]; exact str_at l (i - 1) d hd _ (by omega) W
              replace hd := Lib.hid hd
              generalize val ((l.take (j + 1)).drop i) = V at hv ⊢
              generalize hU : val ((l.take (j + 1)).drop (i - 1)) = U at hv h1
              replace hU := Lib.hid hU
              go_wp2_with fail
              exact ⟨⟨i - 1, by congr 1; omega, by rw [hU.out]; congr 1; omega, by omega, trivial⟩, by simp [intOf]; omega⟩
            · obtain rfl : i = 0 := by omega
              rw [List.drop_zero]
              generalize val (l.take (j + 1)) = y at hy hrd ⊢
              clear hi h0 hsegs hvals hend
              by_cases hodd : y % 2 = 1
              · have hun := Lib.hid (show unzz y = - ((y : Int) / 2) - 1 by unfold unzz; rw [if_pos hodd])
                have h2 : ((y : Int) % 2 == 1) = true := by simp; omega
                clear hodd
                by_cases hm2 : mayN (- ((y : Int) / 2) - 1) = true
                · by_cases hz : c.toNat = 0 ∧ 0 < j
                  · have he3 : rd 0 0 l = (0, [], 5) := by rw [hrd.out, if_pos (.inl hz)]
                    replace he3 := Lib.hid he3
                    have hz' : ((c.toNat : Int) == 0) = true := by simp [hz.1]
                    have hk1 : decide (0 < j) = true := by simp [hz.2]
                    clear hz
                    go_wp2_with (go_at_call 131; refine (refMay _ _).mono ?_; rintro e w' ⟨rfl, rfl⟩; rw [hm2])
                    refine bodyPost_ret (v := .agg #[.int .i64 0, .string ⟨#[]⟩, .int .i64 5]) (by simp [results, Try.results91, go_sem, *]) rfl ⟨by rw [he3.out]; rfl, ?_⟩
                    (repeat (first | with_reducible exact hb0 | with_reducible refine Below.drew ?_ | refine Below.alloc ?_ (by first | omega | (simp; done) | (simp; omega)) _ | refine Below.setCell ?_ (by first | (simp; done) | (simp; omega)) _))
                  · have he3 : rd 0 0 l = (- ((y : Int) / 2) - 1, l.drop (j + 1), 0) := by
                      rw [hrd.out, if_neg, hun.out]
                      rintro (h | h)
                      · exact hz h
                      · rw [hun.out, hm2] at h; cases h
                    replace he3 := Lib.hid he3
                    have hzz : ((c.toNat : Int) == 0) = false ∨ (((c.toNat : Int) == 0) = true ∧ decide (0 < j) = false) := by
                      by_cases e : c.toNat = 0
                      · right
                        exact ⟨by simp [e], by simp; omega⟩
                      · left; simp; omega
                    clear hz
                    rcases hzz with hz' | ⟨hz', hk1⟩
                    all_goals
                      go_wp2_with (go_at_call 131; refine (refMay _ _).mono ?_; rintro e w' ⟨rfl, rfl⟩; rw [hm2])
                      refine bodyPost_ret (v := .agg #[.int .i64 (- ((y : Int) / 2) - 1), .string T, .int .i64 0]) (by simp [results, Try.results91, go_sem, *]) rfl ⟨by rw [he3.out]; dsimp only; rw [hT.out], ?_⟩
                      (repeat (first | with_reducible exact hb0 | with_reducible refine Below.drew ?_ | refine Below.alloc ?_ (by first | omega | (simp; done) | (simp; omega)) _ | refine Below.setCell ?_ (by first | (simp; done) | (simp; omega)) _))
                · have hm3 : mayN (- ((y : Int) / 2) - 1) = false := by simpa using hm2
                  have he3 : rd 0 0 l = (0, [], 5) := by rw [hrd.out, if_pos (.inr (by rw [hun.out]; exact hm3))]
                  replace he3 := Lib.hid he3
                  clear hm2
                  have hzz : ((c.toNat : Int) == 0) = false ∨ (((c.toNat : Int) == 0) = true ∧ decide (0 < j) = false) ∨ (((c.toNat : Int) == 0) = true ∧ decide (0 < j) = true) := by
                    by_cases e : c.toNat = 0
                    · right
                      by_cases e2 : 0 < j
                      · right; exact ⟨by simp [e], by simp [e2]⟩
                      · left; exact ⟨by simp [e], by simp [e2]⟩
                    · left; simp; omega
                  rcases hzz with hz' | ⟨hz', hk1⟩ | ⟨hz', hk1⟩
                  all_goals
                    go_wp2_with (go_at_call 131; refine (refMay _ _).mono ?_; rintro e w' ⟨rfl, rfl⟩; rw [hm3])
                    refine bodyPost_ret (v := .agg #[.int .i64 0, .string ⟨#[]⟩, .int .i64 5]) (by simp [results, Try.results91, go_sem, *]) rfl ⟨by rw [he3.out]; rfl, ?_⟩
                    (repeat (first | with_reducible exact hb0 | with_reducible refine Below.drew ?_ | refine Below.alloc ?_ (by first | omega | (simp; done) | (simp; omega)) _ | refine Below.setCell ?_ (by first | (simp; done) | (simp; omega)) _))
              · have hun := Lib.hid (show unzz y = (y : Int) / 2 by unfold unzz; rw [if_neg hodd])
                have h2 : ((y : Int) % 2 == 1) = false := by simp; omega
                clear hodd
                by_cases hm2 : mayN ((y : Int) / 2) = true
                · by_cases hz : c.toNat = 0 ∧ 0 < j
                  · have he3 : rd 0 0 l = (0, [], 5) := by rw [hrd.out, if_pos (.inl hz)]
                    replace he3 := Lib.hid he3
                    have hz' : ((c.toNat : Int) == 0) = true := by simp [hz.1]
                    have hk1 : decide (0 < j) = true := by simp [hz.2]
                    clear hz
                    go_wp2_with (go_at_call 131; refine (refMay _ _).mono ?_; rintro e w' ⟨rfl, rfl⟩; rw [hm2])
                    refine bodyPost_ret (v := .agg #[.int .i64 0, .string ⟨#[]⟩, .int .i64 5]) (by simp [results, Try.results91, go_sem, *]) rfl ⟨by rw [he3.out]; rfl, ?_⟩
                    (repeat (first | with_reducible exact hb0 | with_reducible refine Below.drew ?_ | refine Below.alloc ?_ (by first | omega | (simp; done) | (simp; omega)) _ | refine Below.setCell ?_ (by first | (simp; done) | (simp; omega)) _))
                  · have he3 : rd 0 0 l = ((y : Int) / 2, l.drop (j + 1), 0) := by
                      rw [hrd.out, if_neg, hun.out]
                      rintro (h | h)
                      · exact hz h
                      · rw [hun.out, hm2] at h; cases h
                    replace he3 := Lib.hid he3
                    have hzz : ((c.toNat : Int) == 0) = false ∨ (((c.toNat : Int) == 0) = true ∧ decide (0 < j) = false) := by
                      by_cases e : c.toNat = 0
                      · right
                        exact ⟨by simp [e], by simp; omega⟩
                      · left; simp; omega
                    clear hz
                    rcases hzz with hz' | ⟨hz', hk1⟩
                    all_goals
                      go_wp2_with (go_at_call 131; refine (refMay _ _).mono ?_; rintro e w' ⟨rfl, rfl⟩; rw [hm2])
                      refine bodyPost_ret (v := .agg #[.int .i64 ((y : Int) / 2), .string T, .int .i64 0]) (by simp [results, Try.results91, go_sem, *]) rfl ⟨by rw [he3.out]; dsimp only; rw [hT.out], ?_⟩
                      (repeat (first | with_reducible exact hb0 | with_reducible refine Below.drew ?_ | refine Below.alloc ?_ (by first | omega | (simp; done) | (simp; omega)) _ | refine Below.setCell ?_ (by first | (simp; done) | (simp; omega)) _))
                · have hm3 : mayN ((y : Int) / 2) = false := by simpa using hm2
                  have he3 : rd 0 0 l = (0, [], 5) := by rw [hrd.out, if_pos (.inr (by rw [hun.out]; exact hm3))]
                  replace he3 := Lib.hid he3
                  clear hm2
                  have hzz : ((c.toNat : Int) == 0) = false ∨ (((c.toNat : Int) == 0) = true ∧ decide (0 < j) = false) ∨ (((c.toNat : Int) == 0) = true ∧ decide (0 < j) = true) := by
                    by_cases e : c.toNat = 0
                    · right
                      by_cases e2 : 0 < j
                      · right; exact ⟨by simp [e], by simp [e2]⟩
                      · left; exact ⟨by simp [e], by simp [e2]⟩
                    · left; simp; omega
                  rcases hzz with hz' | ⟨hz', hk1⟩ | ⟨hz', hk1⟩
                  all_goals
                    go_wp2_with (go_at_call 131; refine (refMay _ _).mono ?_; rintro e w' ⟨rfl, rfl⟩; rw [hm3])
                    refine bodyPost_ret (v := .agg #[.int .i64 0, .string ⟨#[]⟩, .int .i64 5]) (by simp [results, Try.results91, go_sem, *]) rfl ⟨by rw [he3.out]; rfl, ?_⟩
                    (repeat (first | with_reducible exact hb0 | with_reducible refine Below.drew ?_ | refine Below.alloc ?_ (by first | omega | (simp; done) | (simp; omega)) _ | refine Below.setCell ?_ (by first | (simp; done) | (simp; omega)) _))
end Go.Proofs.Ytejdmefiobgcdaa
