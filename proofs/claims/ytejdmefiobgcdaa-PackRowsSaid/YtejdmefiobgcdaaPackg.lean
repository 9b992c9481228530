import Derived.Test.YtejdmefiobgcdaaPackf
namespace Go.Proofs.Ytejdmefiobgcdaa
open Go.RowKit Go.Proofs

theorem refMay (n : Int) (w : World) : Calls Try.prog 131 #[.int .i64 n] w fun e w' => e = .returned (.bool (mayN n)) ∧ w = w' := by
  by_cases h1 : -1152921504606846976 ≤ n
  · go_enter Try.func131, Try.ntmps131
    go_wp2
    go_ret
    simp [mayN, *]
  · have h1 : n < -1152921504606846976 := by omega
    have h2 : decide (-1152921504606846976 ≤ n) = false := by simp; omega
    go_enter Try.func131, Try.ntmps131
    go_wp2
    go_ret
    simp [mayN, h2]

-- the reference's Number
set_option maxRecDepth 100000 in
set_option maxHeartbeats 800000 in
theorem refNumber (n : Int) (h : mayN n = true) (w : World) : Calls Try.prog 95 #[.int .i64 n] w fun e w' => e = .returned (str (enc (zz n))) ∧ Below w.heap.size w w' := by
  obtain ⟨i0, hi, hz0, hz1, hz2⟩ := info_parts info5
  have hb : -1152921504606846976 ≤ n ∧ n ≤ 1152921504606846976 := by simpa [mayN] using h
  obtain ⟨hb0, hb1⟩ := hb
  go_enter Try.func95, Try.ntmps95
  go_upto_if 6 with fail
  (try simp only [Act.put, List.setIfInBounds_toArray, List.set_cons_zero, List.set_cons_succ])
  go_cut [3] (fun v3 wc => v3 = .int .i64 (zz n) ∧ w = wc)
  case first =>
    by_cases h0 : 0 ≤ n
    · go_wp2
      go_meet
      case rel => exact ⟨by unfold zz; split <;> simp <;> omega, rfl⟩
    · go_wp2
      go_meet
      case rel => exact ⟨by unfold zz; split <;> simp <;> omega, rfl⟩
  case rest =>
    obtain ⟨rfl, rfl⟩ := hcut
    have hz : zz n < 4000000000000000000 := by unfold zz; split <;> omega
    have hlen : (enc (zz n)).length ≤ 9 := enc_len 8 _ (by omega)
    replace hlen := Lib.hid hlen
    clear h hb0 hb1
    go_wp2_with fail
    go_loopw [3, 4] (fun v3 v4 wr => ∃ (x : Nat) (done : List UInt8), v3 = .int .i64 x ∧ x < 4000000000000000000 ∧ Hid (enc (zz n) = done ++ enc x) ∧ done.length ≤ 100 ∧ wr.ownsRow w.heap.size 5 1 v4 done.length (done.map bval) ∧ Below w.heap.size w wr) (fun v3 _ _ => (intOf v3).toNat)
    case atStart => exact ⟨zz n, [], rfl, hz, Lib.hid (by simp), by simp, World.ownsRow_lit _ _ _ (Nat.le_refl _) (by simp [maxLen]) (by simp), (Below.refl _ _).alloc (Nat.le_refl _) _⟩
    case round =>
      obtain ⟨x, done, rfl, hx, he, hd, hown, hB⟩ := hrel
      have hs0 := hB.size
      by_cases h1 : 127 < x
      · have hb := Lib.hid (show Value.int .u8 (128 + (x : Int) % 128) = bval (UInt8.ofNat (x % 128 + 128)) by simp only [bval, UInt8.toNat_ofNat']; congr 1; omega)
        have he1 : enc x = UInt8.ofNat (x % 128 + 128) :: enc (x / 128) := by rw [enc, dif_neg (by omega)]
        replace he := Lib.hid (Eq.trans he.out (by rw [he1]) : enc (zz n) = done ++ _)
        clear he1
        go_wp2_with (at_builtin; refine wpList_append_lies _ rfl (.tmp 16) (.tmp 21) 45 rfl w.heap.size 5 i0 _ 1 1 Try.underlying45 hi hz0 hz1 hz2 rfl (by omega) _ done.length (done.map bval) rfl (hown.alloc _) ⟨wr.heap.size, 0, none⟩ 1 1 [.int .u8 (128 + (x : Int) % 128)] rfl rfl (by intro j u hu; cases j <;> simp at hu; subst hu; simp [go_sem, Addr.add]) (by simp [Value.oneCell']) (by omega) (by simp [maxLen]; omega) (by omega) (by simp; omega) _ rfl ?_; intro g cap w1 hown1 hgr hloc hlt1)
        have hB1 := (hB.alloc hs0 _).grown hgr (by simp; omega) (fun b e => hown_ge hown b (by simpa [Act.eval] using e))
        have hd1 : done.length < 100 := by have h2 := he.out; have h3 := hlen.out; rw [h2] at h3; simp at h3; omega
        go_roundw
        case rel =>
          refine ⟨x / 128, done ++ [UInt8.ofNat (x % 128 + 128)], by simp, by omega, Lib.hid (by rw [he.out]; simp), by simp; omega, ?_, hB1⟩
          have := hown1
          rw [hb.out] at this
          simpa using this
        case measure => simp [intOf]; omega
      · have hb := Lib.hid (show Value.int .u8 (x : Int) = bval (UInt8.ofNat x) by simp only [bval, UInt8.toNat_ofNat']; congr 1; omega)
        have he1 : enc x = [UInt8.ofNat x] := by rw [enc, dif_pos (by omega)]
        replace he := Lib.hid (Eq.trans he.out (by rw [he1]) : enc (zz n) = done ++ _)
        clear he1
        go_wp2_with (at_builtin; refine wpList_append_lies _ rfl (.tmp 25) (.tmp 28) 45 rfl w.heap.size 5 i0 _ 1 1 Try.underlying45 hi hz0 hz1 hz2 rfl (by omega) _ done.length (done.map bval) rfl (hown.alloc _) ⟨wr.heap.size, 0, none⟩ 1 1 [.int .u8 (x : Int)] rfl rfl (by intro j u hu; cases j <;> simp at hu; subst hu; simp [go_sem, Addr.add]) (by simp [Value.oneCell']) (by omega) (by simp [maxLen]; omega) (by omega) (by simp; omega) _ rfl ?_; intro g cap w1 hown1 hgr hloc hlt1; have hB1 := (hB.alloc hs0 _).grown hgr (by simp; omega) (fun b e => hown_ge hown b (by simpa [Act.eval] using e)); rw [hb.out] at hown1; have hcv := bytes_str w1 w.heap.size g (done.length + 1) cap (done ++ [UInt8.ofNat x]) (by simp) (by simpa using hown1))
        go_ret
        exact ⟨by rw [he.out]; rfl, hB1⟩
end Go.Proofs.Ytejdmefiobgcdaa
