import Derived.Test.YtejdmefiobgcdaaNetfr
namespace Go.Proofs.Ytejdmefiobgcdaa
open Go.RowKit Go.Proofs Go.Maps

set_option maxRecDepth 1000000 in
set_option maxHeartbeats 2000000 in
theorem pieceB (N : Nat) (u : Nat → Value) (v0 : Value) (AA : Option Addr) (acts : List Int) (na ca : Nat) (w W : World) (oka : Nat → Prop) (hra : Reads w oka 1 AA na (acts.map (Value.int .i64))) (hlen : na ≤ 18000000000000) (hN : w.heap.size = N) (hwf : ∀ x ∈ acts, -9223372036854775808 ≤ x ∧ x ≤ 9223372036854775807)
    (S : List Par) (v : Value) (nE : Nat) (hsent : Sent S) (hS : S.length ≤ 20) (hE : nE ≤ 20) (hst : St N w W S S (cnt S) nE v) (K : Act → World → Prop) (R : Ending → World → Prop)
    (hQ : ∀ a' w' F nE', Fr a' v0 (.slice AA na ca) (.pointer (some ⟨N, 0, none⟩)) v (.map (some (N + 1))) → Flies S F → F.length ≤ 64 → nE' ≤ 60 → St N w w' F S (cnt F) nE' v → K a' w') :
    Code.wp Try.prog (headOf (netAt 5)) (Exit.then K (bodyPost Try.prog Try.f3 R)) ⟨#[v0, .slice AA na ca, u 2, u 3, u 4, .pointer (some ⟨N, 0, none⟩), v, .map (some (N + 1)), u 8, u 9, u 10, u 11, u 12, u 13, u 14, u 15, u 16, u 17, u 18, u 19, u 20, u 21, u 22, u 23, u 24, u 25, u 26, u 27, u 28, u 29, u 30, u 31, u 32, u 33, u 34, u 35, u 36, u 37, u 38, u 39, u 40, u 41, u 42, u 43, u 44, u 45, u 46, u 47, u 48, u 49, u 50, u 51, u 52, u 53, u 54, u 55, u 56, u 57, u 58, u 59, u 60, u 61, u 62, u 63, u 64, u 65, u 66, u 67, u 68, u 69, u 70, u 71, u 72, u 73, u 74, u 75, u 76, u 77, u 78, u 79, u 80, u 81, u 82, u 83, u 84, u 85, u 86, u 87, u 88, u 89, u 90, u 91, u 92, u 93, u 94, u 95, u 96, u 97, u 98, u 99, u 100, u 101, u 102, u 103, u 104, u 105, u 106, u 107, u 108, u 109, u 110, u 111, u 112, u 113, u 114, u 115, u 116, u 117, u 118, u 119, u 120, u 121, u 122, u 123, u 124, u 125, u 126, u 127, u 128, u 129, u 130, u 131, u 132, u 133, u 134, u 135, u 136, u 137, u 138, u 139, u 140, u 141, u 142, u 143, u 144, u 145, u 146, u 147, u 148, u 149, u 150, u 151, u 152, u 153, u 154, u 155, u 156, u 157, u 158, u 159, u 160, u 161, u 162, u 163, u 164, u 165, u 166, u 167, u 168, u 169, u 170, u 171, u 172, u 173, u 174, u 175, u 176, u 177, u 178, u 179, u 180, u 181, u 182, u 183, u 184, u 185, u 186, u 187, u 188, u 189, u 190, u 191, u 192, u 193, u 194, u 195, u 196, u 197, u 198], []⟩ W := by
  have HQ := Lib.hid hQ
  clear hQ
  conv => arg 2; whnf
  go_wp2_with fail
  go_loopw [69] (fun i wr => ∃ (k : Nat) (F : List Par) (nE : Nat), k ≤ na ∧ k ≤ 40 ∧ i = .int .i64 k ∧ nE ≤ 20 + k ∧ Flies S F ∧ F.length ≤ 64 ∧ St N w wr F S (cnt F) nE v) (fun i _ => 40 - (intOf i).toNat)
  case atStart => exact ⟨0, S, nE, by omega, by omega, rfl, by omega, by intro p hp; obtain ⟨j, hj, hj'⟩ := List.getElem_of_mem hp; exact ⟨j, by rw [← hj']; exact List.getElem?_eq_getElem hj⟩, by omega, hst⟩
  case round =>
    clear hE hst
    obtain ⟨k, F, nE, hk, hk40, rfl, hE, hfl, hF64, hs⟩ := hrel
    obtain ⟨SA, Sc, hv⟩ := own_slice' hs.sent
    subst hv
    have hb0 := hs.below
    by_cases hlt : k < na
    · obtain ⟨x, hx⟩ : ∃ x, acts[k]? = some x := ⟨_, List.getElem?_eq_getElem (by have := hra.1; simp at this; omega)⟩
      have hlx : na = acts.length := by have := hra.1; simp at this; omega
      obtain ⟨b, o, rfl, hc0⟩ : ∃ b o, AA = some ⟨b, o, none⟩ ∧ wr.cell? ⟨b, o + k, none⟩ = some (.int .i64 x) := by
        obtain ⟨b, o, h1, _, _, h2⟩ := Reads.elem (enc := fun x : Int => [Value.int .i64 x]) (size := 1) (l := acts) (fun _ => rfl) (by omega) (by rw [← hlx, flat_map1]; exact hra.below (hN ▸ hb0)) k x hx
        exact ⟨b, o, h1, by simpa using h2 0 _ rfl⟩
      have hxb := hwf x (List.mem_of_getElem? hx)
      clear hx hlx hra hwf
      obtain ⟨FA, Fc, hF1, hF2, hF3⟩ := hs.net
      have hF4 := hs.net1
      have hsz := hs.size
      have hN0 : N < wr.heap.size := by omega
      have hN1 : N + 1 < wr.heap.size := by omega
      have HS := Lib.hid hs
      have H1 := Lib.hid hsent
      have HF := Lib.hid hfl
      clear hs hsent hfl hb0
      by_cases hk4 : k < 40
      · have hz40 : decide ((40 : Int) ≤ (k : Int)) = false := by simp; omega
        by_cases hF0 : F.length = 0
        · have hz0 : ((F.length : Int) == 0) = true := by simp [hF0]
          have HF0 := Lib.hid hF0
          clear hF0
          go_wp2_with fail
          exact HQ.out _ _ F nE ⟨rfl, rfl, rfl, rfl, rfl, rfl, rfl⟩ HF.out (by omega) (by omega) HS.out
        · have hz0 : ((F.length : Int) == 0) = false := by rw [beq_eq_false_iff_ne]; omega
          obtain ⟨i, hi, hpl⟩ := place_nat (x.tdiv 3) F.length (by omega) hF64
          obtain ⟨p, hp⟩ : ∃ p, F[i]? = some p := ⟨_, List.getElem?_eq_getElem hi⟩
          obtain ⟨pj, hpj⟩ := HF.out p (List.mem_of_getElem? hp)
          obtain ⟨b1, o1, rfl, hbl1, _, hc⟩ := hF3.elem Par.len (by omega) i p hp
          obtain ⟨no, back, key, kind, order, yes⟩ := p
          have hd0 := hc 0 _ rfl
          simp only [Nat.add_zero] at hd0
          have hno := (H1.out pj _ hpj).2
          have hpjl : pj < S.length := (List.getElem?_eq_some_iff.1 hpj).1
          have hcp := cnt_pos F i _ hp
          have HP := Lib.hid hp
          have HPJ := Lib.hid hpj
          simp only at hno hcp
          have hno1 : 1 ≤ no := by omega
          have hno2 : no ≤ S.length := by omega
          have Hno := Lib.hid hno
          clear hp hpj hc hno
          have hsent' := HS.out.sent
          have hso := Reads.of_own (A := SA) (c := Sc) hsent'
          obtain ⟨g, og, hSA, hgl, _, hgc⟩ := hso.elem Par.len (by omega) pj _ HPJ.out
          have hog : og = 0 := by
            rcases hsent'.2 with ⟨_, h0⟩ | ⟨g', cap, cur, he, _⟩
            · omega
            · rw [hSA] at he; injection he with he _; injection he with he; injection he with _ he
          subst hog hSA
          have hgc' : ∀ j u', (Par.c ⟨no, back, key, kind, order, yes⟩)[j]? = some u' → wr.cell? ⟨g, (no.toNat - 1) * 6 + j, none⟩ = some u' := fun j u' hu => by
            have h := hgc j u' hu
            have e : no.toNat - 1 = pj := by have := Hno.out; omega
            rw [e]
            simpa using h
          have gc0 := hgc' 0 _ rfl
          have gc1 := hgc' 1 _ rfl
          have gc2 := hgc' 2 _ rfl
          have gc3 := hgc' 3 _ rfl
          have gc4 := hgc' 4 _ rfl
          have gc5 := hgc' 5 _ rfl
          simp only [Nat.add_zero] at gc0
          clear hgc hgc' hso hsent'
          go_wp2_with fail
          · refine (take_yes (some ⟨b1, o1, none⟩) F Fc S.length i no back key kind order yes _ hF1 _ (hF3.lt (by omega)) hF64 (by omega) (by omega) (Flies.may H1.out HF.out) hi HP.out).mono ?_
            rintro e w1 ⟨A1, c1, rfl, hc1, hr1, hb1⟩
            have hs1 := hb1.size
            clear hF2 hF3 hd0 hc0 hF4
            go_wp2_with fail
            obtain ⟨X, hX⟩ : ∃ X, X = ((w1.alloc (.cells #[.slice A1 (F.eraseIdx i).length c1, .int .i64 S.length] 25)).alloc (.cells #[.int .i64 no, .bool back, .int .i64 key, .int .i64 kind, .int .i64 order, .bool yes] 28)) := ⟨_, rfl⟩
            have hb2 : Below w1.heap.size w1 X := by rw [hX]; exact ((Below.refl _ _).alloc (Nat.le_refl _) _).alloc (by simp) _
            have hbX : Below wr.heap.size wr X := below_then hb1 hs1 hb2
            have pc0 : X.cell? ⟨w1.heap.size + 1, 0, none⟩ = some (.int .i64 no) := by rw [hX]; simp [go_sem]
            have pc1 : X.cell? ⟨w1.heap.size + 1, 1, none⟩ = some (.bool back) := by rw [hX]; simp [go_sem]
            have pc2 : X.cell? ⟨w1.heap.size + 1, 2, none⟩ = some (.int .i64 key) := by rw [hX]; simp [go_sem]
            have pc3 : X.cell? ⟨w1.heap.size + 1, 3, none⟩ = some (.int .i64 kind) := by rw [hX]; simp [go_sem]
            have pc4 : X.cell? ⟨w1.heap.size + 1, 4, none⟩ = some (.int .i64 order) := by rw [hX]; simp [go_sem]
            have pc5 : X.cell? ⟨w1.heap.size + 1, 5, none⟩ = some (.bool yes) := by rw [hX]; simp [go_sem]
            have xc0 : X.cell? ⟨w1.heap.size, 0, none⟩ = some (.slice A1 (F.eraseIdx i).length c1) := by rw [hX]; simp [go_sem]
            have xc1 : X.cell? ⟨w1.heap.size, 1, none⟩ = some (.int .i64 S.length) := by rw [hX]; simp [go_sem]
            rw [← hX]
            clear hX
            replace gc0 := cell_below hbX gc0
            replace gc1 := cell_below hbX gc1
            replace gc2 := cell_below hbX gc2
            replace gc3 := cell_below hbX gc3
            replace gc4 := cell_below hbX gc4
            replace gc5 := cell_below hbX gc5
            have hstX := HS.out.step hbX
            obtain ⟨D, hown, hcnt⟩ := hstX.map
            have hkey : keyOf Try.prog 3 (.int .i64 no) = some (.int .i64 no) := keyOf_int_mk Try.underlying3 (WalkArith.wf_i64 (by omega))
            obtain ⟨cc, hrun, hat, hwc⟩ := (hown.drew).lookup_int law3 Try.underlying26 Try.underlying3 (zero3 _) hkey
            have hcc := hcnt.val hat
            have hcl := cnt_le F no
            have hc2 : decide (cc < 1) = false := by simp; omega
            have hz1 : decide (no < 1) = false := by simp; omega
            have hz2 : decide ((S.length : Int) < no) = false := by simp; omega
            have hwr : IntKind.i64.wrap (no - 1) = no - 1 := IntWalk.i64_in _ (by omega)
            have hmm : (no - 1).toNat < S.length := by omega
            have hmm1 : (0 : Int) ≤ no - 1 := by omega
            have hmm2 : no - 1 < (S.length : Int) := by omega
            have Hcc := Lib.hid hcc
            have HstX := Lib.hid hstX
            clear hcc hat hwc hcnt hstX
            refine wp_region_still_lit (by kernel_rfl) (by kernel_rfl) ?_
            change wpStill _ _ X.drew (fun a' => Exit.then _ _ .normal a' X.drew) _ _
            repeat still_step
            refine wpStill_nil ?_
            clear hrun gc0 gc1 gc2 gc3 gc4 gc5 hmm hmm1 hmm2 hwr hz1 hz2 hc2
            have hN0X : N < X.heap.size := by have := hbX.size; omega
            have xl : w1.heap.size < X.heap.size := lt_of_cell xc0
            have nc1 := HstX.out.net1
            obtain ⟨FA', Fc', _, nc0, _⟩ := HstX.out.net
            have nf0 := HstX.out.frozen0
            have nf1 := HstX.out.frozen1
            have hrX := (hr1.below hb2).mono (ok' := fun k => N + 2 ≤ k ∧ some k ≠ (Value.slice (some ⟨g, 0, none⟩) S.length Sc).ownBlock) (fun k hk => hk.elim (fun h => h.1) (fun h => ⟨by omega, own_ne_ge hgl h⟩))
            have hln := List.length_eraseIdx_of_lt hi
            have Hln := Lib.hid hln
            clear hln
            clear hown
            go_wp2_with (first
              | (at_lookup; have hst2 := (HstX.out.setNet A1 c1 _ rfl hc1 hrX).drew; obtain ⟨D2, hown2, hcnt⟩ := hst2.map; have Hst2 := Lib.hid hst2; have Hcnt := Lib.hid hcnt; have Hm := Lib.hid hown2.isMap; clear hst2 hcnt; refine wpList_lookup_own_int _ rfl _ _ 26 rfl 3 3 .i64 law3 Try.underlying26 Try.underlying3 (zero3 _) (N + 1) nE D2 rfl hown2 _ _ rfl hkey ?_; intro cc2 hat2 hwc2)
              | (at_mapUpdate; refine wpList_mapUpdate_own _ rfl _ _ _ 26 rfl 3 3 law3 Try.underlying26 _ (N + 1) nE D2 rfl hown2 (by unfold maxLen; omega) _ _ _ rfl rfl hkey _ [] (plainElem_int Try.underlying3 (wrap64_wf _)) ?_; intro w3 hown3 hgr3))
            have hcc := Hcnt.out.val hat2
            have hcn := cnt_nonneg F no
            rw [wrap64_small (by omega) (by omega)] at hown3
            go_roundw
            case rel =>
              refine ⟨k + 1, F.eraseIdx i, nE + 1, by omega, by omega, by go_num, by omega, fun q hq => HF.out q (List.mem_of_mem_eraseIdx hq), by have := Hln.out; omega, ?_⟩
              refine Hst2.out.setMap hown3 (Hcnt.out.put Hm.out _ _ ?_ ?_) hgr3
              · rw [cnt_erase F i _ HP.out, if_pos rfl, hcc]
              · intro y hy
                rw [cnt_erase F i _ HP.out, if_neg (fun e => hy e.symm), Int.sub_zero]
            case measure => simp [intOf]; omega
          · by_cases hfull : F.length < 64
            · refine (twice_yes (some ⟨b1, o1, none⟩) F Fc S.length i no back key kind order yes _ hF1 _ (hF3.lt (by omega)) hfull (by omega) (by omega) (Flies.may H1.out HF.out) hi HP.out).mono ?_
              rintro e w1 ⟨A1, c1, rfl, hc1, hr1, hb1⟩
              have hs1 := hb1.size
              clear hF2 hF3 hd0 hc0 hF4
              have hst1 := HS.out.step hb1
              have nc1 := hst1.net1
              obtain ⟨FA', Fc', _, nc0, _⟩ := hst1.net
              have nf0 := hst1.frozen0
              have nf1 := hst1.frozen1
              have hN0X : N < w1.heap.size := by omega
              have Hst1 := Lib.hid hst1
              clear hst1
              clear gc0 gc1 gc2 gc3 gc4 gc5
              have hrX := hr1.mono (ok' := fun k => N + 2 ≤ k ∧ some k ≠ (Value.slice (some ⟨g, 0, none⟩) S.length Sc).ownBlock) (fun k hk => hk.elim (fun h => h.1) (fun h => ⟨by omega, own_ne_ge hgl h⟩))
              have hkey : keyOf Try.prog 3 (.int .i64 no) = some (.int .i64 no) := keyOf_int_mk Try.underlying3 (WalkArith.wf_i64 (by omega))
              go_wp2_with (first
                | (at_lookup; have hst2 := (Hst1.out.setNet A1 c1 (F.length + 1) (by simp) hc1 hrX).alloc (.cells #[.slice A1 (F.length + 1) c1, .int .i64 S.length] 25); obtain ⟨D2, hown2, hcnt⟩ := hst2.map; have Hst2 := Lib.hid hst2; have Hcnt := Lib.hid hcnt; have Hm := Lib.hid hown2.isMap; clear hst2 hcnt; refine wpList_lookup_own_int _ rfl _ _ 26 rfl 3 3 .i64 law3 Try.underlying26 Try.underlying3 (zero3 _) (N + 1) nE D2 rfl hown2 _ _ rfl hkey ?_; intro cc2 hat2 hwc2)
                | (at_mapUpdate; refine wpList_mapUpdate_own _ rfl _ _ _ 26 rfl 3 3 law3 Try.underlying26 _ (N + 1) nE D2 rfl hown2 (by unfold maxLen; omega) _ _ _ rfl rfl hkey _ [] (plainElem_int Try.underlying3 (wrap64_wf _)) ?_; intro w3 hown3 hgr3))
              have hcc := Hcnt.out.val hat2
              have hcn := cnt_nonneg F no
              have hcl := cnt_le F no
              rw [wrap64_small (by omega) (by omega)] at hown3
              go_roundw
              case rel =>
                refine ⟨k + 1, F ++ [⟨no, back, key, kind, order, yes⟩], nE + 1, by omega, by omega, by go_num, by omega, fun q hq => ?_, by simp; omega, ?_⟩
                · rcases List.mem_append.1 hq with hq | hq
                  · exact HF.out q hq
                  · exact ⟨pj, by rw [List.mem_singleton.1 hq]; exact HPJ.out⟩
                refine Hst2.out.setMap hown3 (Hcnt.out.put Hm.out _ _ ?_ ?_) hgr3
                · rw [cnt_snoc, if_pos rfl, hcc]
                · intro y hy
                  rw [cnt_snoc, if_neg (fun e => hy e.symm), Int.add_zero]
              case measure => simp [intOf]; omega
            · have hfull : F.length = 64 := by omega
              refine (twice_full (some ⟨b1, o1, none⟩) F Fc S.length i no back key kind order yes _ hF1 _ (hF3.lt (by omega)) hfull (by omega) (by omega) (Flies.may H1.out HF.out) hi HP.out).mono ?_
              rintro e w1 ⟨rfl, hb1⟩
              have Hfull := Lib.hid hfull
              clear hfull
              clear hF2 hF3 hd0 hc0 hF4
              clear gc0 gc1 gc2 gc3 gc4 gc5
              go_wp2_with fail
              go_roundw
              case rel => exact ⟨k + 1, F, nE, by omega, by omega, by go_num, by omega, HF.out, hF64, (HS.out.step hb1).alloc _⟩
              case measure => simp [intOf]; omega
          · refine (last_yes (some ⟨b1, o1, none⟩) F Fc S.length i no back key kind order yes _ hF1 _ (hF3.lt (by omega)) hF64 (by omega) (by omega) (Flies.may H1.out HF.out) hi HP.out).mono ?_
            rintro e w1 ⟨A1, c1, rfl, hc1, hr1, hb1⟩
            have hs1 := hb1.size
            clear hF2 hF3 hd0 hc0 hF4
            have hst1 := HS.out.step hb1
            have nc1 := hst1.net1
            obtain ⟨FA', Fc', _, nc0, _⟩ := hst1.net
            have nf0 := hst1.frozen0
            have nf1 := hst1.frozen1
            have hN0X : N < w1.heap.size := by omega
            have Hst1 := Lib.hid hst1
            clear hst1
            clear gc0 gc1 gc2 gc3 gc4 gc5
            have hln := List.length_eraseIdx_of_lt hi
            have Hln := Lib.hid hln
            clear hln
            go_wp2_with fail
            go_roundw
            case rel =>
              have hrX := hr1.mono (ok' := fun k => N + 2 ≤ k ∧ some k ≠ (Value.slice (some ⟨g, 0, none⟩) S.length Sc).ownBlock) (fun k hk => hk.elim (fun h => h.1) (fun h => ⟨by omega, own_ne_ge hgl h⟩))
              refine ⟨k + 1, F.eraseIdx i ++ [⟨no, back, key, kind, order, yes⟩], nE, by omega, by omega, by go_num, by omega, fun q hq => ?_, by have := Hln.out; simp; omega, ?_⟩
              · rcases List.mem_append.1 hq with hq | hq
                · exact HF.out q (List.mem_of_mem_eraseIdx hq)
                · exact ⟨pj, by rw [List.mem_singleton.1 hq]; exact HPJ.out⟩
              refine ((Hst1.out.setNet A1 c1 F.length (by have := Hln.out; simp; omega) hc1 hrX).alloc _).ext (fun y => ?_)
              rw [cnt_snoc, cnt_erase F i _ HP.out]
              omega
            case measure => simp [intOf]; omega
      · have hz40 : decide ((40 : Int) ≤ (k : Int)) = true := by simp; omega
        go_wp2_with fail
        exact HQ.out _ _ F nE ⟨rfl, rfl, rfl, rfl, rfl, rfl, rfl⟩ HF.out (by omega) (by omega) HS.out
    · go_wp2_with fail
      exact HQ.out _ _ F nE ⟨rfl, rfl, rfl, rfl, rfl, rfl, rfl⟩ hfl (by omega) (by omega) hs

end Go.Proofs.Ytejdmefiobgcdaa
