import Derived.Test.YtejdmefiobgcdaaNetfr
namespace Go.Proofs.Ytejdmefiobgcdaa
open Go.RowKit Go.Proofs Go.Maps

set_option maxRecDepth 1000000 in
set_option maxHeartbeats 2000000 in
theorem pieceC (N : Nat) (u : Nat → Value) (v0 v1 : Value) (w W : World) (S F : List Par) (v : Value) (nE : Nat) (hsent : Sent S) (hS : S.length ≤ 20) (hE : nE ≤ 60) (hfl : Flies S F) (hF64 : F.length ≤ 64) (hst : St N w W F S (cnt F) nE v)
    (K : Act → World → Prop) (R : Ending → World → Prop)
    (hQ : ∀ a' w' nE', Fr a' v0 v1 (.pointer (some ⟨N, 0, none⟩)) v (.map (some (N + 1))) → nE' ≤ 130 → St N w w' F S (fun _ => 0) nE' v → K a' w') :
    Code.wp Try.prog (headOf (netAt 6)) (Exit.then K (bodyPost Try.prog Try.f3 R)) ⟨#[v0, v1, u 2, u 3, u 4, .pointer (some ⟨N, 0, none⟩), v, .map (some (N + 1)), u 8, u 9, u 10, u 11, u 12, u 13, u 14, u 15, u 16, u 17, u 18, u 19, u 20, u 21, u 22, u 23, u 24, u 25, u 26, u 27, u 28, u 29, u 30, u 31, u 32, u 33, u 34, u 35, u 36, u 37, u 38, u 39, u 40, u 41, u 42, u 43, u 44, u 45, u 46, u 47, u 48, u 49, u 50, u 51, u 52, u 53, u 54, u 55, u 56, u 57, u 58, u 59, u 60, u 61, u 62, u 63, u 64, u 65, u 66, u 67, u 68, u 69, u 70, u 71, u 72, u 73, u 74, u 75, u 76, u 77, u 78, u 79, u 80, u 81, u 82, u 83, u 84, u 85, u 86, u 87, u 88, u 89, u 90, u 91, u 92, u 93, u 94, u 95, u 96, u 97, u 98, u 99, u 100, u 101, u 102, u 103, u 104, u 105, u 106, u 107, u 108, u 109, u 110, u 111, u 112, u 113, u 114, u 115, u 116, u 117, u 118, u 119, u 120, u 121, u 122, u 123, u 124, u 125, u 126, u 127, u 128, u 129, u 130, u 131, u 132, u 133, u 134, u 135, u 136, u 137, u 138, u 139, u 140, u 141, u 142, u 143, u 144, u 145, u 146, u 147, u 148, u 149, u 150, u 151, u 152, u 153, u 154, u 155, u 156, u 157, u 158, u 159, u 160, u 161, u 162, u 163, u 164, u 165, u 166, u 167, u 168, u 169, u 170, u 171, u 172, u 173, u 174, u 175, u 176, u 177, u 178, u 179, u 180, u 181, u 182, u 183, u 184, u 185, u 186, u 187, u 188, u 189, u 190, u 191, u 192, u 193, u 194, u 195, u 196, u 197, u 198], []⟩ W := by
  have HQ := Lib.hid hQ
  clear hQ
  obtain ⟨FA, Fc, hF1, hF2, hF3⟩ := hst.net
  have HW := Lib.hid hst
  clear hst
  conv => arg 2; whnf
  go_wp2_with fail
  go_loopw [176] (fun i wr => ∃ (k : Nat) (nE : Nat), k ≤ F.length ∧ i = .int .i64 k ∧ nE ≤ 60 + k ∧ St N w wr F S (cnt (F.drop k)) nE v ∧ Reads wr (fun k => N + 2 ≤ k ∧ some k ≠ v.ownBlock) 6 FA F.length (F.flatMap Par.c)) (fun i _ => 64 - (intOf i).toNat)
  case atStart => exact ⟨0, nE, by omega, rfl, by omega, HW.out, hF3⟩
  case round =>
    clear hE hF3 hF2
    obtain ⟨k, nE, hk, rfl, hE, hs, hr⟩ := hrel
    by_cases hlt : k < F.length
    · obtain ⟨p, hx⟩ : ∃ p, F[k]? = some p := ⟨_, List.getElem?_eq_getElem hlt⟩
      obtain ⟨b, o, rfl, hbl, _, hc⟩ := hr.elem Par.len (by omega) k p hx
      obtain ⟨j, hj⟩ := hfl p (List.mem_of_getElem? hx)
      have hno := (hsent j p hj).2
      have hjl := (List.getElem?_eq_some_iff.1 hj).1
      have hdrop : F.drop k = p :: F.drop (k + 1) := by
        obtain ⟨h1, h2⟩ := List.getElem?_eq_some_iff.1 hx
        rw [← h2]; exact List.drop_eq_getElem_cons h1
      obtain ⟨no, back, key, kind, order, yes⟩ := p
      have hc0 := hc 0 _ rfl
      have hc1 := hc 1 _ rfl
      have hc2 := hc 2 _ rfl
      have hc3 := hc 3 _ rfl
      have hc4 := hc 4 _ rfl
      have hc5 := hc 5 _ rfl
      simp only [Nat.add_zero] at hc0 hc1 hc2 hc3 hc4 hc5
      simp only at hno
      clear hc hx hj
      have hno1 : 1 ≤ no := by omega
      have hno2 : no ≤ 20 := by omega
      have Hd := Lib.hid hdrop
      have HS := Lib.hid hs
      have HR := Lib.hid hr
      clear hno hdrop hs hr hsent hfl
      have hkey : keyOf Try.prog 3 (.int .i64 no) = some (.int .i64 no) := keyOf_int_mk Try.underlying3 (WalkArith.wf_i64 (by omega))
      go_wp2_with (first
        | (at_lookup; have hst2 := HS.out.alloc (.cells #[.int .i64 no, .bool back, .int .i64 key, .int .i64 kind, .int .i64 order, .bool yes] 28); obtain ⟨D2, hown2, hcnt⟩ := hst2.map; have Hst2 := Lib.hid hst2; have Hcnt := Lib.hid hcnt; have Hm := Lib.hid hown2.isMap; clear hst2 hcnt; refine wpList_lookup_own_int _ rfl _ _ 26 rfl 3 3 .i64 law3 Try.underlying26 Try.underlying3 (zero3 _) (N + 1) nE D2 rfl hown2 _ _ rfl hkey ?_; intro cc2 hat2 hwc2)
        | (at_mapUpdate; refine wpList_mapUpdate_own _ rfl _ _ _ 26 rfl 3 3 law3 Try.underlying26 _ (N + 1) nE D2 rfl hown2 (by unfold maxLen; omega) _ _ _ rfl rfl hkey _ [] (plainElem_int Try.underlying3 (wrap64_wf _)) ?_; intro w3 hown3 hgr3))
      have hcc := Hcnt.out.val hat2
      have hcn := cnt_nonneg (F.drop k) no
      have hcl := cnt_le (F.drop k) no
      simp only [List.length_drop] at hcl
      rw [wrap64_small (by omega) (by omega)] at hown3
      go_roundw
      case rel =>
        refine ⟨k + 1, nE + 1, by omega, by go_num, by omega, Hst2.out.setMap hown3 (Hcnt.out.put Hm.out _ _ ?_ ?_) hgr3, ?_⟩
        · rw [hcc, Hd.out, cnt_cons, if_pos rfl]; omega
        · intro y hy
          rw [Hd.out, cnt_cons, if_neg (fun e => hy e.symm), Int.add_zero]
        · exact (HR.out.alloc _).grown hgr3 (fun k hk e => by injection e; have := hk.1; omega)
      case measure => simp [intOf]; omega
    · have hk' : k = F.length := by omega
      go_wp2_with fail
      refine HQ.out _ _ nE ⟨rfl, rfl, rfl, rfl, rfl, rfl, rfl⟩ (by omega) (hs.ext (fun x => ?_))
      rw [hk', List.drop_length]
      rfl

set_option maxRecDepth 1000000 in
set_option maxHeartbeats 2000000 in
theorem pieceD (N : Nat) (u : Nat → Value) (v0 v1 : Value) (w W : World) (S F : List Par) (v : Value) (nE : Nat) (hst : St N w W F S (fun _ => 0) nE v)
    (K : Act → World → Prop) (R : Ending → World → Prop)
    (hQ : ∀ a' w', Fr a' v0 v1 (.pointer (some ⟨N, 0, none⟩)) v (.map (some (N + 1))) → St N w w' F S (fun _ => 0) nE v → K a' w') :
    Code.wp Try.prog (headOf (netAt 7)) (Exit.then K (bodyPost Try.prog Try.f3 R)) ⟨#[v0, v1, u 2, u 3, u 4, .pointer (some ⟨N, 0, none⟩), v, .map (some (N + 1)), u 8, u 9, u 10, u 11, u 12, u 13, u 14, u 15, u 16, u 17, u 18, u 19, u 20, u 21, u 22, u 23, u 24, u 25, u 26, u 27, u 28, u 29, u 30, u 31, u 32, u 33, u 34, u 35, u 36, u 37, u 38, u 39, u 40, u 41, u 42, u 43, u 44, u 45, u 46, u 47, u 48, u 49, u 50, u 51, u 52, u 53, u 54, u 55, u 56, u 57, u 58, u 59, u 60, u 61, u 62, u 63, u 64, u 65, u 66, u 67, u 68, u 69, u 70, u 71, u 72, u 73, u 74, u 75, u 76, u 77, u 78, u 79, u 80, u 81, u 82, u 83, u 84, u 85, u 86, u 87, u 88, u 89, u 90, u 91, u 92, u 93, u 94, u 95, u 96, u 97, u 98, u 99, u 100, u 101, u 102, u 103, u 104, u 105, u 106, u 107, u 108, u 109, u 110, u 111, u 112, u 113, u 114, u 115, u 116, u 117, u 118, u 119, u 120, u 121, u 122, u 123, u 124, u 125, u 126, u 127, u 128, u 129, u 130, u 131, u 132, u 133, u 134, u 135, u 136, u 137, u 138, u 139, u 140, u 141, u 142, u 143, u 144, u 145, u 146, u 147, u 148, u 149, u 150, u 151, u 152, u 153, u 154, u 155, u 156, u 157, u 158, u 159, u 160, u 161, u 162, u 163, u 164, u 165, u 166, u 167, u 168, u 169, u 170, u 171, u 172, u 173, u 174, u 175, u 176, u 177, u 178, u 179, u 180, u 181, u 182, u 183, u 184, u 185, u 186, u 187, u 188, u 189, u 190, u 191, u 192, u 193, u 194, u 195, u 196, u 197, u 198], []⟩ W := by
  have HQ := Lib.hid hQ
  clear hQ
  obtain ⟨D, hown, hcnt⟩ := hst.map
  have HW := Lib.hid hst
  have hWs := hst.size
  have Hcnt := Lib.hid hcnt
  clear hst hcnt
  conv => arg 2; whnf
  go_wp2_with (first
    | (at_range; refine wpList_range_own _ rfl _ 26 rfl 3 3 law3 Try.underlying26 _ (N + 1) nE D rfl hown ?_; intro w0 hrg0 hg0 hs0))
  go_frame
  go_loopw [28] (fun _ wr => ∃ (left : Lit → Bool) (cnt : Nat), wr.ranges Try.prog 3 (plainElem Try.prog 3) (N + 1) W.heap.size nE D left cnt ∧ Below W.heap.size W wr) (fun _ wr => wr.rangeLeft (N + 1) W.heap.size)
  case atStart => exact ⟨_, _, hrg0, (Below.refl _ _).grown hg0 (Nat.le_refl _) (by simp)⟩
  case round =>
    obtain ⟨left, cn, hrg, hb⟩ := hrel
    go_wp2_with (first
      | (at_next; refine wpList_next_ranges_ii _ rfl _ rfl 3 3 .i64 .i64 law3 Try.underlying3 Try.underlying3 (N + 1) W.heap.size nE _ _ _ rfl hrg ?_ ?_))
    · intro _ hl0
      go_wp2_with fail
      exact HQ.out _ _ ⟨rfl, rfl, rfl, rfl, rfl, rfl, rfl⟩ (HW.out.step hb)
    · intro x c w1 cnt1 hwx hwc hlx hat hrg1 hlt hg1 hs1 hen
      have hc0 : c = 0 := by
        have h := hat (.lit (.int .i64 0))
        rw [Hcnt.out x] at h
        injection h with h
        injection h with _ h
        exact h.symm
      subst hc0
      go_wp2_with fail
      go_roundw
      case rel => exact ⟨_, cnt1, hrg1, hb.grown hg1 hb.size (fun k hk => by injection hk; omega)⟩
      case measure => rw [hrg1.left_eq, hrg.left_eq]; exact hlt

end Go.Proofs.Ytejdmefiobgcdaa
