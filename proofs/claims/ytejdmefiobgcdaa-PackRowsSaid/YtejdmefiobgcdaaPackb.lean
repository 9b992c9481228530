import Derived.Test.YtejdmefiobgcdaaPack
import Derived.Laws.Bits64b
namespace Go.Proofs.Ytejdmefiobgcdaa
open Go.RowKit Go.Proofs

def rd (i x : Nat) : List UInt8 → Int × List UInt8 × Int
  | [] => (0, [], if 9 ≤ i then 3 else 4)
  | c :: t =>
    if 9 ≤ i then (0, [], 3) else
    let y := x + (c.toNat % 128) * 128 ^ i
    if 128 ≤ c.toNat then rd (i + 1) y t else
    let n : Int := if y % 2 = 1 then - ((y : Int) / 2) - 1 else (y : Int) / 2
    if (c.toNat = 0 ∧ 0 < i) ∨ mayN n = false then (0, [], 5) else (n, t, 0)

-- pack.number
set_option maxRecDepth 100000 in
theorem numberP (n : Int) (h : mayN n = true) (w : World) : Calls Try.prog 96 #[.int .i64 n] w fun e w' => e = .returned (str (enc (zz n))) ∧ Below w.heap.size w w' := by
  go_enter Try.func96, Try.ntmps96
  go_wp2_with (go_at_call 55; refine (numberP_yes _ h _).mono ?_; rintro e w' ⟨rfl, hb⟩)
  go_ret
  exact ⟨rfl, hb⟩

-- pack.ReadNumber
theorem str_size (l : List UInt8) : (⟨l.toArray⟩ : ByteArray).size = l.length := rfl
theorem or_add {x y k : Nat} (hx : x < 2 ^ k) : x ||| (y * 2 ^ k) = x + y * 2 ^ k := by
  rw [Nat.or_comm, Nat.mul_comm, ← Nat.two_pow_add_eq_or_of_lt hx, Nat.add_comm]
theorem bits_or_i64 (a b : Nat) (ha : a < 9223372036854775808) (hb : b < 9223372036854775808) : Go.bits .or .i64 (a : Int) (b : Int) = ((a ||| b : Nat) : Int) := by
  have hx : a ||| b < 2 ^ 63 := Nat.or_lt_two_pow (by omega) (by omega)
  have h1 : (BitVec.ofInt 64 (a : Int)).toNat = a := by
    rw [BitVec.ofInt_natCast, BitVec.toNat_ofNat]; exact Nat.mod_eq_of_lt (by omega)
  have h2 : (BitVec.ofInt 64 (b : Int)).toNat = b := by
    rw [BitVec.ofInt_natCast, BitVec.toNat_ofNat]; exact Nat.mod_eq_of_lt (by omega)
  show IntKind.i64.wrap ((BitVec.ofInt 64 (a : Int) ||| BitVec.ofInt 64 (b : Int)).toNat : Int) = _
  rw [BitVec.toNat_or, h1, h2]
  simp only [IntKind.wrap, IntKind.signed, IntKind.bits]
  simp
  omega
theorem ext_drop (l : List UInt8) (k : Nat) : (⟨l.toArray⟩ : ByteArray).extract k l.length = ⟨(l.drop k).toArray⟩ := by
  rw [ByteArray.extract_mk, List.take_of_length_le (by simp)]
theorem ext_take (l : List UInt8) (k : Nat) : (⟨l.toArray⟩ : ByteArray).extract 0 k = ⟨(l.take k).toArray⟩ := by
  rw [ByteArray.extract_mk, List.drop_zero, Nat.sub_zero]
theorem str_at (l : List UInt8) (k : Nat) (c : UInt8) (h : l[k]? = some c) (x : Int) (hx : x = k) (W : World) : (Instr.index 9 (.string ⟨l.toArray⟩) (.int .i64 x)).run Try.prog W = .ok (.int .u8 (c.toNat : Int)) W := by
  subst hx
  obtain ⟨hk, rfl⟩ := List.getElem?_eq_some_iff.1 h
  rw [run_index_string W 9 ⟨l.toArray⟩ .i64 (k : Int) Try.underlying9, dif_pos ⟨by omega, by rw [str_size]; omega⟩]
  simp
  rfl
theorem str_cut (l : List UInt8) (k : Nat) (h : k ≤ l.length) (x : Int) (hx : x = k) (W : World) : (Instr.sliceAt 9 (.string ⟨l.toArray⟩) (some (.int .i64 x)) none none).run Try.prog W = .ok (str (l.drop k)) W := by
  subst hx
  rw [run_sliceAt_string W 9 _ _ _ _ Try.underlying9, run_slice_string_l W 9 _ Try.underlying9 .i64 (k : Int) (by omega) (by rw [str_size]; omega), str_size]
  simp only [Int.toNat_natCast, ext_drop]
  rfl
theorem pow_le9 {k : Nat} (h : k < 9) : 128 ^ k * 128 ≤ 9223372036854775808 := by
  have : k = 0 ∨ k = 1 ∨ k = 2 ∨ k = 3 ∨ k = 4 ∨ k = 5 ∨ k = 6 ∨ k = 7 ∨ k = 8 := by omega
  rcases this with rfl | rfl | rfl | rfl | rfl | rfl | rfl | rfl | rfl <;> omega
theorem rd_or (k x c : Nat) (hk : k < 9) (hx : x < 128 ^ k) : Go.bits .or .i64 (x : Int) (wrap64 ((c : Int) % 128 * 2 ^ (7 * k))) = ((x + c % 128 * 128 ^ k : Nat) : Int) ∧ x + c % 128 * 128 ^ k < 128 ^ k * 128 := by
  have h1 := pow_le9 hk
  have h2 : c % 128 * 128 ^ k ≤ 127 * 128 ^ k := Nat.mul_le_mul_right _ (by omega)
  have h3 : (2 : Nat) ^ (7 * k) = 128 ^ k := by rw [Nat.pow_mul]
  refine ⟨?_, by omega⟩
  have h4 : wrap64 ((c : Int) % 128 * 2 ^ (7 * k)) = ((c % 128 * 128 ^ k : Nat) : Int) := by
    rw [show ((c : Int) % 128 * 2 ^ (7 * k)) = ((c % 128 * 128 ^ k : Nat) : Int) by rw [← h3]; push_cast; rfl]
    unfold wrap64; omega
  rw [h4, bits_or_i64 _ _ (by omega) (by omega), ← h3, or_add (by rw [h3]; exact hx)]
set_option maxRecDepth 100000 in
set_option maxHeartbeats 800000 in
theorem readP (l : List UInt8) (w : World) (hl : l.length < 100000000) : Calls Try.prog 56 #[str l] w fun e w' => e = .returned (.tuple #[.int .i64 (rd 0 0 l).1, str (rd 0 0 l).2.1, .int .i64 (rd 0 0 l).2.2]) ∧ Below w.heap.size w w' := by
  obtain ⟨s, hs⟩ : ∃ s : ByteArray, s = ⟨l.toArray⟩ := ⟨_, rfl⟩
  have hsz : s.size = l.length := by rw [hs]; rfl
  have e0 : str l = .string s := by rw [hs]; rfl
  rw [e0]
  replace hs := Lib.hid hs
  replace e0 := Lib.hid e0
  obtain ⟨m, hm⟩ : ∃ m : Nat, (if (9 : Int) < (l.length : Int) then (9 : Int) else (l.length : Int)) = m := ⟨min l.length 9, by split <;> omega⟩
  have hm0 : m = min l.length 9 := by split at hm <;> omega
  replace hm0 := Lib.hid hm0
  go_enter Try.func56, Try.ntmps56
  go_wp2_with fail
  go_loopw [5, 12] (fun v5 v12 wr => ∃ (k x : Nat), v5 = .int .i64 x ∧ v12 = .int .i64 k ∧ k ≤ m ∧ x < 128 ^ k ∧ Hid (rd 0 0 l = rd k x (l.drop k)) ∧ w = wr) (fun _ v12 _ => 9 - (intOf v12).toNat)
  case atStart => exact ⟨0, 0, rfl, rfl, by omega, by omega, Lib.hid rfl, rfl⟩
  case round =>
    obtain ⟨k, x, rfl, rfl, hk, hx, he, rfl⟩ := hrel
    by_cases h1 : k < m
    · have hm1 := hm0.out
      have hkl : k < l.length := by omega
      have hk9 : k < 9 := by omega
      clear hm1
      obtain ⟨c, hc⟩ : ∃ c, l[k]? = some c := ⟨_, List.getElem?_eq_getElem hkl⟩
      have hix : ∀ W, (Instr.index 9 (.string s) (.int .i64 (k : Int))).run Try.prog W = .ok (.int .u8 (c.toNat : Int)) W := fun W => by rw [hs.out]; exact str_at l k c hc _ rfl W
      have hc256 : c.toNat < 256 := by simpa using c.toNat_lt
      have hdr : l.drop k = c :: l.drop (k + 1) := by
        obtain ⟨hk', rfl⟩ := List.getElem?_eq_some_iff.1 hc
        exact List.drop_eq_getElem_cons hk'
      have he2 : rd 0 0 l = rd k x (c :: l.drop (k + 1)) := by rw [← hdr]; exact he.out
      rw [rd, if_neg (by omega)] at he2
      obtain ⟨hy, hylt⟩ := rd_or k x c.toNat hk9 hx
      have h9 := pow_le9 hk9
      have hylt2 : x + c.toNat % 128 * 128 ^ k < 128 ^ (k + 1) := by rw [Nat.pow_succ]; exact hylt
      dsimp only at he2
      replace hylt : x + c.toNat % 128 * 128 ^ k < 9223372036854775808 := by omega
      generalize x + c.toNat % 128 * 128 ^ k = y at hy hylt hylt2 he2
      replace hc := Lib.hid hc
      replace he2 := Lib.hid he2
      replace hylt2 := Lib.hid hylt2
      clear hdr h9 hx
      replace hylt := Lib.hid hylt
      go_upto_region 7 with fail
      replace hylt := hylt.out
      clear hy
      by_cases h128 : 128 ≤ c.toNat
      · rw [if_pos h128] at he2
        go_wp2_with fail
        go_roundw
        case rel => exact ⟨k + 1, y, rfl, by go_num, by omega, hylt2.out, by simpa using he2⟩
        case measure => simp [intOf]; omega
      · rw [if_neg h128] at he2
        have h128' : c.toNat < 128 := by omega
        have hsl : ∀ W, (Instr.sliceAt 9 (.string s) (some (.int .i64 ((k : Int) + 1))) none none).run Try.prog W = .ok (str (l.drop (k + 1))) W := fun W => by rw [hs.out]; exact str_cut l (k + 1) (by omega) _ (by omega) W
        have hw : IntKind.i64.wrap ((k : Int) + 1) = (k : Int) + 1 := by simp only [IntKind.wrap, IntKind.signed, IntKind.bits]; simp; omega
        by_cases hodd : y % 2 = 1
        · rw [if_pos hodd] at he2
          have h2 : ((y : Int) % 2 == 1) = true := by simp; omega
          clear hodd
          have fin : ∀ (N : Int), N = -((y : Int) / 2) - 1 → ¬ (c.toNat = 0 ∧ 0 < k) → mayN N = true → rd 0 0 l = (N, List.drop (k + 1) l, 0) := by
            intro N hN h1 h2
            rw [he2.out, if_neg]
            · rw [hN]
            · rintro (h | h)
              · exact h1 h
              · rw [← hN, h2] at h; cases h
          by_cases hm2 : mayN (-((y : Int) / 2) - 1) = true
          · by_cases hz : c.toNat = 0
            · have hz' : ((c.toNat : Int) == 0) = true := by simp [hz]
              by_cases hk0 : 0 < k
              · have hk1 : decide (0 < k) = true := by simp [hk0]
                have he3 : rd 0 0 l = (0, [], 5) := by rw [he2.out, if_pos (.inl ⟨hz, hk0⟩)]
                replace he3 := Lib.hid he3
                clear hz fin
                go_wp2_with (go_at_call 101; refine (mayP_any _ _).mono ?_; rintro e w' ⟨rfl, rfl⟩; rw [hm2])
                exact bodyPost_ret (v := .tuple #[.int .i64 0, str [], .int .i64 5]) (by simp [results, Try.results56, go_sem, str]) rfl ⟨by rw [he3.out], Below.refl _ _⟩
              · have hk1 : decide (0 < k) = false := by simp [hk0]
                have he3 := Lib.hid (fin _ rfl (fun h => hk0 h.2) hm2)
                clear hz hk0 fin
                go_wp2_with (go_at_call 101; refine (mayP_any _ _).mono ?_; rintro e w' ⟨rfl, rfl⟩; rw [hm2])
                refine wp_region_still_lit (by kernel_rfl) (by kernel_rfl) ?_
                change wpStill _ _ w.drew (fun a' => Exit.then _ _ .normal a' w.drew) _ _
                repeat still_step
                refine wpStill_nil ?_
                go_wp2_with fail
                exact bodyPost_ret (v := .tuple #[.int .i64 (-((y : Int) / 2) - 1), str (l.drop (k + 1)), .int .i64 0]) (by simp [results, Try.results56, go_sem]) rfl ⟨by rw [he3.out], (Below.refl _ _).drew⟩
            · have hz' : ((c.toNat : Int) == 0) = false := by simp; omega
              have he3 := Lib.hid (fin _ rfl (fun h => hz h.1) hm2)
              clear hz fin
              go_wp2_with (go_at_call 101; refine (mayP_any _ _).mono ?_; rintro e w' ⟨rfl, rfl⟩; rw [hm2])
              refine wp_region_still_lit (by kernel_rfl) (by kernel_rfl) ?_
              change wpStill _ _ w.drew (fun a' => Exit.then _ _ .normal a' w.drew) _ _
              repeat still_step
              refine wpStill_nil ?_
              go_wp2_with fail
              exact bodyPost_ret (v := .tuple #[.int .i64 (-((y : Int) / 2) - 1), str (l.drop (k + 1)), .int .i64 0]) (by simp [results, Try.results56, go_sem]) rfl ⟨by rw [he3.out], (Below.refl _ _).drew⟩
          · have hm3 : mayN (-((y : Int) / 2) - 1) = false := by simpa using hm2
            have he3 : rd 0 0 l = (0, [], 5) := by rw [he2.out, if_pos (.inr hm3)]
            replace he3 := Lib.hid he3
            clear hm2 fin
            go_wp2_with (go_at_call 101; refine (mayP_any _ _).mono ?_; rintro e w' ⟨rfl, rfl⟩; rw [hm3])
            all_goals exact bodyPost_ret (v := .tuple #[.int .i64 0, str [], .int .i64 5]) (by simp [results, Try.results56, go_sem, str]) rfl ⟨by rw [he3.out], Below.refl _ _⟩
        · rw [if_neg hodd] at he2
          have h2 : ((y : Int) % 2 == 1) = false := by simp; omega
          clear hodd
          have fin : ∀ (N : Int), N = (y : Int) / 2 → ¬ (c.toNat = 0 ∧ 0 < k) → mayN N = true → rd 0 0 l = (N, List.drop (k + 1) l, 0) := by
            intro N hN h1 h2
            rw [he2.out, if_neg]
            · rw [hN]
            · rintro (h | h)
              · exact h1 h
              · rw [← hN, h2] at h; cases h
          by_cases hm2 : mayN ((y : Int) / 2) = true
          · by_cases hz : c.toNat = 0
            · have hz' : ((c.toNat : Int) == 0) = true := by simp [hz]
              by_cases hk0 : 0 < k
              · have hk1 : decide (0 < k) = true := by simp [hk0]
                have he3 : rd 0 0 l = (0, [], 5) := by rw [he2.out, if_pos (.inl ⟨hz, hk0⟩)]
                replace he3 := Lib.hid he3
                clear hz fin
                go_wp2_with (go_at_call 101; refine (mayP_any _ _).mono ?_; rintro e w' ⟨rfl, rfl⟩; rw [hm2])
                exact bodyPost_ret (v := .tuple #[.int .i64 0, str [], .int .i64 5]) (by simp [results, Try.results56, go_sem, str]) rfl ⟨by rw [he3.out], Below.refl _ _⟩
              · have hk1 : decide (0 < k) = false := by simp [hk0]
                have he3 := Lib.hid (fin _ rfl (fun h => hk0 h.2) hm2)
                clear hz hk0 fin
                go_wp2_with (go_at_call 101; refine (mayP_any _ _).mono ?_; rintro e w' ⟨rfl, rfl⟩; rw [hm2])
                refine wp_region_still_lit (by kernel_rfl) (by kernel_rfl) ?_
                change wpStill _ _ w.drew (fun a' => Exit.then _ _ .normal a' w.drew) _ _
                repeat still_step
                refine wpStill_nil ?_
                go_wp2_with fail
                exact bodyPost_ret (v := .tuple #[.int .i64 ((y : Int) / 2), str (l.drop (k + 1)), .int .i64 0]) (by simp [results, Try.results56, go_sem]) rfl ⟨by rw [he3.out], (Below.refl _ _).drew⟩
            · have hz' : ((c.toNat : Int) == 0) = false := by simp; omega
              have he3 := Lib.hid (fin _ rfl (fun h => hz h.1) hm2)
              clear hz fin
              go_wp2_with (go_at_call 101; refine (mayP_any _ _).mono ?_; rintro e w' ⟨rfl, rfl⟩; rw [hm2])
              refine wp_region_still_lit (by kernel_rfl) (by kernel_rfl) ?_
              change wpStill _ _ w.drew (fun a' => Exit.then _ _ .normal a' w.drew) _ _
              repeat still_step
              refine wpStill_nil ?_
              go_wp2_with fail
              exact bodyPost_ret (v := .tuple #[.int .i64 ((y : Int) / 2), str (l.drop (k + 1)), .int .i64 0]) (by simp [results, Try.results56, go_sem]) rfl ⟨by rw [he3.out], (Below.refl _ _).drew⟩
          · have hm3 : mayN ((y : Int) / 2) = false := by simpa using hm2
            have he3 : rd 0 0 l = (0, [], 5) := by rw [he2.out, if_pos (.inr hm3)]
            replace he3 := Lib.hid he3
            clear hm2 fin
            go_wp2_with (go_at_call 101; refine (mayP_any _ _).mono ?_; rintro e w' ⟨rfl, rfl⟩; rw [hm3])
            all_goals exact bodyPost_ret (v := .tuple #[.int .i64 0, str [], .int .i64 5]) (by simp [results, Try.results56, go_sem, str]) rfl ⟨by rw [he3.out], Below.refl _ _⟩
    · have hm1 := hm0.out
      have hk' : k = m := by omega
      by_cases h9 : 9 ≤ l.length
      · have hz : decide (9 ≤ l.length) = true := by simp [h9]
        have he3 : rd 0 0 l = (0, [], 3) := by
          rw [he.out]
          have : ∀ t, 9 ≤ k → rd k x t = (0, [], 3) := fun t h => by cases t <;> rw [rd] <;> simp [h]
          exact this _ (by omega)
        replace he3 := Lib.hid he3
        go_wp2_with fail
        exact bodyPost_ret (v := .tuple #[.int .i64 0, str [], .int .i64 3]) (by simp [results, Try.results56, go_sem, str]) rfl ⟨by rw [he3.out], Below.refl _ _⟩
      · have hz : decide (9 ≤ l.length) = false := by simp [h9]
        have he3 : rd 0 0 l = (0, [], 4) := by
          rw [he.out, List.drop_eq_nil_of_le (by omega), rd, if_neg (by omega)]
        replace he3 := Lib.hid he3
        go_wp2_with fail
        exact bodyPost_ret (v := .tuple #[.int .i64 0, str [], .int .i64 4]) (by simp [results, Try.results56, go_sem, str]) rfl ⟨by rw [he3.out], Below.refl _ _⟩
end Go.Proofs.Ytejdmefiobgcdaa
