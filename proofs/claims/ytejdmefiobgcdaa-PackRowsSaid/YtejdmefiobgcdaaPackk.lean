import Derived.Test.YtejdmefiobgcdaaPackj
namespace Go.Proofs.Ytejdmefiobgcdaa
open Go.RowKit Go.Proofs

-- the reference's MayRow
set_option maxRecDepth 100000 in
set_option maxHeartbeats 800000 in
theorem refMayRow (A : Option Addr) (l : List (List UInt8)) (c : Nat) (w : World) (ok : Nat → Prop) (hr : Reads w ok 1 A l.length (l.map str)) (hll : l.length < 1000) :
    Calls Try.prog 53 #[.slice A l.length c] w fun e w' => e = .returned (.bool (decide (MayRow l))) ∧ Below w.heap.size w w' := by
  go_enter Try.func53, Try.ntmps53
  go_wp2_with fail
  go_loopw [7] (fun v7 wr => ∃ (k : Nat), v7 = .int .i64 k ∧ k ≤ l.length ∧ Hid (∀ s ∈ l.take k, s.length ≤ 4096) ∧ w = wr) (fun v7 _ => l.length - (intOf v7).toNat)
  case atStart => exact ⟨0, rfl, by omega, Lib.hid (by intro s hs; simp at hs), rfl⟩
  case round =>
    obtain ⟨k, rfl, hk, hall, rfl⟩ := hrel
    by_cases hlt : k < l.length
    · obtain ⟨s, hs⟩ : ∃ s, l[k]? = some s := ⟨_, List.getElem?_eq_getElem hlt⟩
      obtain ⟨b, o, rfl, hbl, _, hcell⟩ := at1 hr k s hs
      have hl2 := len_str s
      by_cases h4 : s.length ≤ 4096
      · have h4' : decide (4096 < s.length) = false := by simp; omega
        have hall2 := Lib.hid (show ∀ s ∈ l.take (k + 1), s.length ≤ 4096 from fun t ht => by
          rw [List.take_add_one, hs] at ht
          rcases List.mem_append.1 ht with h | h
          · exact hall.out t h
          · simp at h
            rw [h]; exact h4)
        replace hs := Lib.hid hs
        go_wp2_with fail
        go_roundw
        case rel => exact ⟨k + 1, by go_num, by omega, by simpa using hall2⟩
        case measure => simp [intOf]; omega
      · have h4' : decide (4096 < s.length) = true := by simp; omega
        have hR : decide (MayRow l) = false := by
          rw [decide_eq_false_iff_not]
          intro h
          exact h4 (h.2 s (List.mem_of_getElem? hs))
        replace hs := Lib.hid hs
        go_wp2_with fail
        go_ret
        exact ⟨by rw [hR]; rfl, Below.refl _ _⟩
    · have hk' : k = l.length := by omega
      have hiff := Lib.hid (show ((l.length : Int) ≤ 256) ↔ MayRow l from by
        have h1 := hall.out
        rw [hk', List.take_length] at h1
        exact ⟨fun h2 => ⟨by omega, h1⟩, fun h => by have := h.1; omega⟩)
      go_wp2_with fail
      go_ret
      exact ⟨by simpa using hiff.out, Below.refl _ _⟩

-- the reference's Row
set_option maxRecDepth 100000 in
set_option maxHeartbeats 800000 in
theorem refRow (A : Option Addr) (l : List (List UInt8)) (c : Nat) (w : World) (ok : Nat → Prop) (hr : Reads w ok 1 A l.length (l.map str)) (hM : MayRow l) :
    Calls Try.prog 54 #[.slice A l.length c] w fun e w' => e = .returned (str (rowS l).1) ∧ Below w.heap.size w w' := by
  have hR : (rowS l).1 = enc (zz l.length) ++ l.flatMap item := by unfold rowS; rw [if_pos hM]
  have h256 := hM.1
  have h4096 := Lib.hid hM.2
  have hnum := Lib.hid (fun W => refNumber (l.length : Int) (by simp [mayN]; omega) W)
  rw [hR]
  clear hR hM
  go_enter Try.func54, Try.ntmps54
  go_wp2_with fail
  refine (hnum.out _).mono ?_
  rintro e w1 ⟨rfl, hb1⟩
  have hl9 := enc_len 8 (zz l.length) (by unfold zz; split <;> omega)
  go_wp2_with fail
  go_loopw [3, 11] (fun v3 v11 wr => ∃ (k : Nat), v3 = str (enc (zz l.length) ++ (l.take k).flatMap item) ∧ v11 = .int .i64 k ∧ k ≤ l.length ∧ Below w.heap.size w wr) (fun _ v11 _ => l.length - (intOf v11).toNat)
  case atStart => exact ⟨0, by simp, rfl, by omega, hb1⟩
  case round =>
    obtain ⟨k, rfl, rfl, hk, hB⟩ := hrel
    have hs1 := hB.size
    by_cases hlt : k < l.length
    · obtain ⟨s, hs⟩ : ∃ s, l[k]? = some s := ⟨_, List.getElem?_eq_getElem hlt⟩
      obtain ⟨b, o, rfl, hbl, _, hcell⟩ := at1 (hr.below hB) k s hs
      have hl2 := len_str s
      have h4 := h4096.out s (List.mem_of_getElem? hs)
      have hnum2 := Lib.hid (fun W => refNumber (s.length : Int) (by simp [mayN]; omega) W)
      have hs9 := enc_len 8 (zz s.length) (by unfold zz; split <;> omega)
      have hil := items_len (l.take k) 4096 (by omega) (fun t ht => h4096.out t (List.mem_of_mem_take ht))
      have htl : (l.take k).length ≤ 256 := by rw [List.length_take]; omega
      have htl2 : (l.take k).length * (4096 + 9) ≤ 256 * 4105 := Nat.mul_le_mul_right _ htl
      have hadd1 := add_str (enc (zz l.length) ++ (l.take k).flatMap item) (enc (zz s.length)) (by rw [List.length_append]; omega)
      have hadd2 := add_str ((enc (zz l.length) ++ (l.take k).flatMap item) ++ enc (zz s.length)) s (by rw [List.length_append, List.length_append]; omega)
      have hnx : ((enc (zz l.length) ++ (l.take k).flatMap item) ++ enc (zz s.length)) ++ s = enc (zz l.length) ++ (l.take (k + 1)).flatMap item := by
        rw [List.take_add_one, hs]; simp [item]
      rw [hnx] at hadd2
      generalize (enc (zz l.length) ++ (l.take k).flatMap item) ++ enc (zz s.length) = M1 at hadd1 hadd2
      generalize enc (zz l.length) ++ (l.take k).flatMap item = M0 at hadd1 ⊢
      clear hnx
      replace hs := Lib.hid hs
      go_wp2_with fail
      refine (hnum2.out _).mono ?_
      rintro e w2 ⟨rfl, hb2⟩
      go_wp2_with fail
      go_roundw
      case rel => exact ⟨k + 1, rfl, by go_num, by omega, below_then hB hs1 hb2⟩
      case measure => simp [intOf]; omega
    · have hk' : k = l.length := by omega
      have hfin : str (enc (zz l.length) ++ (l.take k).flatMap item) = str (enc (zz l.length) ++ l.flatMap item) := by rw [hk', List.take_length]
      obtain ⟨M1, hM1⟩ : ∃ M1, M1 = enc (zz l.length) ++ l.flatMap item := ⟨_, rfl⟩
      rw [hfin, ← hM1]
      clear hfin
      replace hM1 := Lib.hid hM1
      go_wp2_with fail
      go_ret
      exact ⟨by rw [← hM1.out]; rfl, hB⟩
end Go.Proofs.Ytejdmefiobgcdaa
