import Derived.Test.YtejdmefiobgcdaaNetfr
namespace Go.Proofs.Ytejdmefiobgcdaa
open Go.RowKit Go.Proofs Go.Maps

set_option maxRecDepth 1000000 in
set_option maxHeartbeats 2000000 in
theorem pieceA (N : Nat) (u : Nat → Value) (A : Option Addr) (l : List Par) (c : Nat) (va : Value) (w W : World) (okl : Nat → Prop) (hr : Reads w okl 6 A l.length (l.flatMap Par.c)) (hlen : l.length ≤ 4000000000000) (hN : w.heap.size = N)
    (hst : St N w W [] [] (fun _ => 0) 0 (.slice none 0 0)) (K : Act → World → Prop) (R : Ending → World → Prop)
    (hQ : ∀ a' w' S v nE, Fr a' (.slice A l.length c) va (.pointer (some ⟨N, 0, none⟩)) v (.map (some (N + 1))) → Sent S → S.length ≤ 20 → nE ≤ 20 → St N w w' S S (cnt S) nE v → K a' w') :
    Code.wp Try.prog (headOf (netAt 4)) (Exit.then K (bodyPost Try.prog Try.f3 R)) ⟨#[.slice A l.length c, va, u 2, u 3, u 4, .pointer (some ⟨N, 0, none⟩), .slice none 0 0, .map (some (N + 1)), u 8, u 9, u 10, u 11, u 12, u 13, u 14, u 15, u 16, u 17, u 18, u 19, u 20, u 21, u 22, u 23, u 24, u 25, u 26, u 27, u 28, u 29, u 30, u 31, u 32, u 33, u 34, u 35, u 36, u 37, u 38, u 39, u 40, u 41, u 42, u 43, u 44, u 45, u 46, u 47, u 48, u 49, u 50, u 51, u 52, u 53, u 54, u 55, u 56, u 57, u 58, u 59, u 60, u 61, u 62, u 63, u 64, u 65, u 66, u 67, u 68, u 69, u 70, u 71, u 72, u 73, u 74, u 75, u 76, u 77, u 78, u 79, u 80, u 81, u 82, u 83, u 84, u 85, u 86, u 87, u 88, u 89, u 90, u 91, u 92, u 93, u 94, u 95, u 96, u 97, u 98, u 99, u 100, u 101, u 102, u 103, u 104, u 105, u 106, u 107, u 108, u 109, u 110, u 111, u 112, u 113, u 114, u 115, u 116, u 117, u 118, u 119, u 120, u 121, u 122, u 123, u 124, u 125, u 126, u 127, u 128, u 129, u 130, u 131, u 132, u 133, u 134, u 135, u 136, u 137, u 138, u 139, u 140, u 141, u 142, u 143, u 144, u 145, u 146, u 147, u 148, u 149, u 150, u 151, u 152, u 153, u 154, u 155, u 156, u 157, u 158, u 159, u 160, u 161, u 162, u 163, u 164, u 165, u 166, u 167, u 168, u 169, u 170, u 171, u 172, u 173, u 174, u 175, u 176, u 177, u 178, u 179, u 180, u 181, u 182, u 183, u 184, u 185, u 186, u 187, u 188, u 189, u 190, u 191, u 192, u 193, u 194, u 195, u 196, u 197, u 198], []⟩ W := by
  have HQ := Lib.hid hQ
  clear hQ
  conv => arg 2; whnf
  go_wp2_with fail
  go_loopw [6, 32] (fun v i wr => ∃ (k : Nat) (S : List Par) (nE : Nat), k ≤ l.length ∧ k ≤ 20 ∧ i = .int .i64 k ∧ S.length ≤ k ∧ nE ≤ k ∧ Sent S ∧ St N w wr S S (cnt S) nE v) (fun _ i _ => 20 - (intOf i).toNat)
  case atStart => exact ⟨0, [], 0, by omega, by omega, rfl, by simp, by omega, by intro j p hj; simp at hj, hst⟩
  case round =>
    obtain ⟨k, S, nE, hk, hk20, rfl, hS, hE, hsent, hs⟩ := hrel
    obtain ⟨SA, Sc, hv⟩ := own_slice' hs.sent
    subst hv
    have hb0 := hs.below
    by_cases hlt : k < l.length
    · obtain ⟨p, hx⟩ : ∃ p, l[k]? = some p := ⟨_, List.getElem?_eq_getElem hlt⟩
      obtain ⟨b, o, rfl, hbl, _, hc⟩ := (hr.below (hN ▸ hb0)).elem Par.len (by omega) k p hx
      obtain ⟨no, back, key, kind, order, yes⟩ := p
      have hc0 := hc 0 _ rfl
      have hc1 := hc 1 _ rfl
      have hc2 := hc 2 _ rfl
      have hc3 := hc 3 _ rfl
      have hc4 := hc 4 _ rfl
      have hc5 := hc 5 _ rfl
      simp only [Nat.add_zero] at hc0 hc1 hc2 hc3 hc4 hc5
      clear hc hx
      by_cases h20 : k < 20
      · have HS := Lib.hid hs
        have hsz := hs.size
        obtain ⟨FA, Fc, hF1, hF2, hF3⟩ := hs.net
        have hF4 := hs.net1
        have hN0 : N < wr.heap.size := by omega
        have hN1 : N + 1 < wr.heap.size := by omega
        clear hs
        have H1 := Lib.hid hsent
        clear hsent
        have hz20 : decide ((20 : Int) ≤ (k : Int)) = false := by simp; omega
        clear hr hst hb0
        by_cases hp : mayB back key kind order yes = true
        · go_wp2_with fail
          refine (post_yes FA S Fc S.length no back key kind order yes _ hF1 _ ((hF3.lt (by omega)).alloc _) (by omega) (by omega) (by omega) (fun p hp => Flies.may H1.out (fun q hq => by obtain ⟨j, hj, hj'⟩ := List.getElem_of_mem hq; exact ⟨j, by rw [← hj']; exact List.getElem?_eq_getElem hj⟩) p hp) hp).mono ?_
          rintro e w1 ⟨A1, c1, rfl, hc1, hr1, hb1⟩
          have hbr := below_then ((Below.refl wr.heap.size wr).alloc (Nat.le_refl _) _) (by simp) hb1
          have hs1 := hbr.size
          replace hr1 := hr1.mono (ok' := fun k => ((N + 2 ≤ k ∧ some k ≠ (Value.slice SA S.length Sc).ownBlock) ∧ k < wr.heap.size) ∨ wr.heap.size + 1 ≤ k) (fun k hk => hk.imp id (fun h => by simpa using h))
          have qc0 : w1.cell? ⟨wr.heap.size, 0, none⟩ = some (.int .i64 no) := cell_below hb1 (by simp [go_sem, *])
          have qf0 : w1.frozen? ⟨wr.heap.size, 0, none⟩ = false := frozen_below hb1 (by simp; try omega) (by simp [go_sem, *])
          have qc1 : w1.cell? ⟨wr.heap.size, 1, none⟩ = some (.bool back) := cell_below hb1 (by simp [go_sem, *])
          have qf1 : w1.frozen? ⟨wr.heap.size, 1, none⟩ = false := frozen_below hb1 (by simp; try omega) (by simp [go_sem, *])
          have qc2 : w1.cell? ⟨wr.heap.size, 2, none⟩ = some (.int .i64 key) := cell_below hb1 (by simp [go_sem, *])
          have qf2 : w1.frozen? ⟨wr.heap.size, 2, none⟩ = false := frozen_below hb1 (by simp; try omega) (by simp [go_sem, *])
          have qc3 : w1.cell? ⟨wr.heap.size, 3, none⟩ = some (.int .i64 kind) := cell_below hb1 (by simp [go_sem, *])
          have qf3 : w1.frozen? ⟨wr.heap.size, 3, none⟩ = false := frozen_below hb1 (by simp; try omega) (by simp [go_sem, *])
          have qc4 : w1.cell? ⟨wr.heap.size, 4, none⟩ = some (.int .i64 order) := cell_below hb1 (by simp [go_sem, *])
          have qf4 : w1.frozen? ⟨wr.heap.size, 4, none⟩ = false := frozen_below hb1 (by simp; try omega) (by simp [go_sem, *])
          have qc5 : w1.cell? ⟨wr.heap.size, 5, none⟩ = some (.bool yes) := cell_below hb1 (by simp [go_sem, *])
          have qf5 : w1.frozen? ⟨wr.heap.size, 5, none⟩ = false := frozen_below hb1 (by simp; try omega) (by simp [go_sem, *])
          have hlt1 : wr.heap.size < w1.heap.size := by have := hb1.size; simp at this; omega
          clear hb1 hc0 hc2 hc3 hc4 hc5 hF1 hF2 hF3 hF4
          go_wp2_with fail
          obtain ⟨X, hX⟩ : ∃ X, X = ((w1.setCell ⟨wr.heap.size, 0, none⟩ (.int .i64 (S.length + 1))).alloc (.cells #[.slice A1 (S.length + 1) c1, .int .i64 (S.length + 1)] 25)) := ⟨_, rfl⟩
          have hbX : Below wr.heap.size wr X := by rw [hX]; (repeat (first | with_reducible exact hbr | with_reducible refine Below.drew ?_ | refine Below.alloc ?_ (by first | omega | (simp; done) | (simp; omega)) _ | refine Below.setCell ?_ (by first | (simp; done) | (simp; omega)) _))
          have hsX : X.heap.size = w1.heap.size + 1 := by rw [hX]; simp
          have hrX : Reads X (fun k => ((N + 2 ≤ k ∧ some k ≠ (Value.slice SA S.length Sc).ownBlock) ∧ k < wr.heap.size) ∨ wr.heap.size + 1 ≤ k) 6 A1 (S.length + 1) ((S ++ ([⟨S.length + 1, back, key, kind, order, yes⟩] : List Par)).flatMap Par.c) := by
            rw [hX]; exact (hr1.far (fun k hk => by simp at hk ⊢; omega) _).alloc _
          have xc0 : X.cell? ⟨w1.heap.size, 0, none⟩ = some (.slice A1 (S.length + 1) c1) := by rw [hX]; simp [go_sem]
          have xc1 : X.cell? ⟨w1.heap.size, 1, none⟩ = some (.int .i64 (S.length + 1)) := by rw [hX]; simp [go_sem]
          have pc0 : X.cell? ⟨wr.heap.size, 0, none⟩ = some (.int .i64 (S.length + 1)) := by rw [hX]; simp [go_sem, *]
          have pc1 : X.cell? ⟨wr.heap.size, 1, none⟩ = some (.bool back) := by rw [hX]; simp [go_sem, *]
          have pc2 : X.cell? ⟨wr.heap.size, 2, none⟩ = some (.int .i64 key) := by rw [hX]; simp [go_sem, *]
          have pc3 : X.cell? ⟨wr.heap.size, 3, none⟩ = some (.int .i64 kind) := by rw [hX]; simp [go_sem, *]
          have pc4 : X.cell? ⟨wr.heap.size, 4, none⟩ = some (.int .i64 order) := by rw [hX]; simp [go_sem, *]
          have pc5 : X.cell? ⟨wr.heap.size, 5, none⟩ = some (.bool yes) := by rw [hX]; simp [go_sem, *]
          rw [← hX]
          clear hX hr1 qc0 qc1 qc2 qc3 qc4 qc5 qf0 qf1 qf2 qf3 qf4 qf5
          have HsX := Lib.hid hsX
          have hltX : w1.heap.size < X.heap.size := by omega
          have hltX2 : wr.heap.size < X.heap.size := by omega
          have hstX := HS.out.step hbX
          have hsent := hstX.sent
          have hob := fun k hk => own_block_ge HS.out.sent k hk
          have HstX := Lib.hid hstX
          have nc0 := hstX.net
          obtain ⟨FA', Fc', _, nc0, _⟩ := hstX.net
          have nc1 := hstX.net1
          have nf0 := hstX.frozen0
          have nf1 := hstX.frozen1
          have hN0X : N < X.heap.size := by omega
          obtain ⟨i0, hi, hz0, hz1, hz2⟩ := info_parts info28
          have Hob := Lib.hid hob
          clear hob hsX hstX
          have hownY : (X.alloc (.cells #[.int .i64 (S.length + 1), .bool back, .int .i64 key, .int .i64 kind, .int .i64 order, .bool yes] 28)).drew.ownsRow (N + 2) 28 6 (.slice SA S.length Sc) S.length (S.flatMap Par.c) := hsent.alloc _
          have hnewY : ∀ j u, (Par.c ⟨S.length + 1, back, key, kind, order, yes⟩)[j]? = some u → (X.alloc (.cells #[.int .i64 (S.length + 1), .bool back, .int .i64 key, .int .i64 kind, .int .i64 order, .bool yes] 28)).drew.cell? ((⟨X.heap.size, 0, none⟩ : Addr).add j) = some u :=
            World.news_of_block (w := (X.alloc (.cells #[.int .i64 (S.length + 1), .bool back, .int .i64 key, .int .i64 kind, .int .i64 order, .bool yes] 28)).drew) (cs := #[.int .i64 (S.length + 1), .bool back, .int .i64 key, .int .i64 kind, .int .i64 order, .bool yes]) (heap_alloc_new X _)
          have HnewY := Lib.hid hnewY
          have hbY : Below X.heap.size X (X.alloc (.cells #[.int .i64 (S.length + 1), .bool back, .int .i64 key, .int .i64 kind, .int .i64 order, .bool yes] 28)).drew := ((Below.refl _ X).alloc (Nat.le_refl _) _).drew
          clear hnewY
          have hne : some N ≠ (Value.slice SA S.length Sc).ownBlock := fun e => by have := Hob.out N e.symm; omega
          have hne2 : some w1.heap.size ≠ (Value.slice SA S.length Sc).ownBlock := fun e => by have := Hob.out _ e.symm; omega
          have Hne := Lib.hid hne
          have Hne2 := Lib.hid hne2
          clear hne hne2
          go_region_law (refine step_append_lies _ rfl (.tmp 58) (.tmp 60) 22 rfl (N + 2) 28 i0 _ 6 48 Try.underlying22 hi hz0 hz1 hz2 rfl (by omega) (.slice SA S.length Sc) S.length (S.flatMap Par.c) rfl hownY ⟨X.heap.size, 0, none⟩ 1 1 (Par.c ⟨S.length + 1, back, key, kind, order, yes⟩) rfl rfl HnewY.out (par_one _) (by omega) (by simp only [maxLen]; omega) (by omega) (by simp; omega) (X.heap.size + 1) (by simp) ?_; intro g cap w2 hown2 hgr2 hloc2 hlt2; have xd0 := cell_grown hgr2 Hne2.out (cell_below hbY xc0); have xd1 := cell_grown hgr2 Hne2.out (cell_below hbY xc1); have yc0 := cell_grown hgr2 Hne.out (cell_below hbY nc0); have yc1 := cell_grown hgr2 Hne.out (cell_below hbY nc1); have yf0 := frozen_grown hgr2 Hne.out (cell_below hbY nc0) (frozen_at hbY nc0 nf0);  have yf1 := frozen_grown hgr2 Hne.out (cell_below hbY nc1) (frozen_at hbY nc1 nf1))
          all_goals
            have hrX' := hrX.mono (ok' := fun k => N + 2 ≤ k ∧ some k ≠ (Value.slice SA S.length Sc).ownBlock) (fun k hk => hk.elim (fun h => h.1) (fun h => ⟨by omega, fun e => by have := Hob.out k e.symm; omega⟩))
            have hst2 := HstX.out.append (p := ⟨S.length + 1, back, key, kind, order, yes⟩) hbY hgr2 hown2 (hloc2.imp id (fun h => by omega)) A1 c1 (S.length + 1) (by simp) (by assumption) hrX'
            obtain ⟨Z, hZ⟩ : ∃ Z, Z = ((w2.setCell ⟨N, 0, none⟩ (.slice A1 (S.length + 1) c1)).setCell ⟨N, 1, none⟩ (.int .i64 (S.length + 1))) := ⟨_, rfl⟩
            rw [← hZ] at hst2 ⊢
            clear hZ xd0 xd1 yc0 yc1 yf0 yf1 hown2 hgr2 hownY hbY hrX' hrX hsent nc0 nc1 nf0 nf1 pc0 pc1 pc2 pc3 pc4 pc5 xc0 xc1
            obtain ⟨D, hown, hcnt⟩ := hst2.map
            have Hst2 := Lib.hid hst2
            have Hcnt := Lib.hid hcnt
            have Hm := Lib.hid hown.isMap
            clear hst2 hcnt
            have hkey : keyOf Try.prog 3 (.int .i64 ((S.length : Int) + 1)) = some (.int .i64 ((S.length : Int) + 1)) := keyOf_int_mk Try.underlying3 (WalkArith.wf_i64 (by omega))
            go_wp2_with (first
              | (at_lookup; refine wpList_lookup_own_int _ rfl _ _ 26 rfl 3 3 .i64 law3 Try.underlying26 Try.underlying3 (zero3 _) (N + 1) nE D rfl hown _ _ rfl hkey ?_; intro cc hat hwc)
              | (at_mapUpdate; refine wpList_mapUpdate_own _ rfl _ _ _ 26 rfl 3 3 law3 Try.underlying26 _ (N + 1) nE D rfl hown (by unfold maxLen; omega) _ _ _ rfl rfl hkey _ [] (plainElem_int Try.underlying3 (wrap64_wf _)) ?_; intro w3 hown3 hgr3))
            have hcc := Hcnt.out.val hat
            have hcn := cnt_nonneg S ((S.length : Int) + 1)
            have hcl := cnt_le S ((S.length : Int) + 1)
            rw [wrap64_small (by omega) (by omega)] at hown3
            go_roundw
            case rel =>
              refine ⟨k + 1, S ++ [⟨S.length + 1, back, key, kind, order, yes⟩], nE + 1, by omega, by omega, by go_num, by simp; omega, by omega, sent_snoc (p := ⟨S.length + 1, back, key, kind, order, yes⟩) H1.out hp rfl, ?_⟩
              refine Hst2.out.setMap hown3 (Hcnt.out.put Hm.out _ _ ?_ ?_) hgr3
              · rw [cnt_snoc, if_pos rfl, hcc]
              · intro y hy
                rw [cnt_snoc, if_neg (fun e => hy e.symm), Int.add_zero]
            case measure => simp [intOf]; omega
        · have hp : mayB back key kind order yes = false := by simpa using hp
          go_wp2_with fail
          refine (post_bad FA S Fc S.length no back key kind order yes _ _ (hF3.alloc _) (by omega) (by omega) (by omega) (fun p hp => Flies.may H1.out (fun q hq => by obtain ⟨j, hj, hj'⟩ := List.getElem_of_mem hq; exact ⟨j, by rw [← hj']; exact List.getElem?_eq_getElem hj⟩) p hp) hp).mono ?_
          rintro e w1 ⟨rfl, hb1⟩
          have hbr := below_then ((Below.refl wr.heap.size wr).alloc (Nat.le_refl _) _) (by simp) hb1
          have hs1 := hbr.size
          have qc0 : w1.cell? ⟨wr.heap.size, 0, none⟩ = some (.int .i64 no) := cell_below hb1 (by simp [go_sem, *])
          have qf0 : w1.frozen? ⟨wr.heap.size, 0, none⟩ = false := frozen_below hb1 (by simp; try omega) (by simp [go_sem, *])
          have qc1 : w1.cell? ⟨wr.heap.size, 1, none⟩ = some (.bool back) := cell_below hb1 (by simp [go_sem, *])
          have qf1 : w1.frozen? ⟨wr.heap.size, 1, none⟩ = false := frozen_below hb1 (by simp; try omega) (by simp [go_sem, *])
          have qc2 : w1.cell? ⟨wr.heap.size, 2, none⟩ = some (.int .i64 key) := cell_below hb1 (by simp [go_sem, *])
          have qf2 : w1.frozen? ⟨wr.heap.size, 2, none⟩ = false := frozen_below hb1 (by simp; try omega) (by simp [go_sem, *])
          have qc3 : w1.cell? ⟨wr.heap.size, 3, none⟩ = some (.int .i64 kind) := cell_below hb1 (by simp [go_sem, *])
          have qf3 : w1.frozen? ⟨wr.heap.size, 3, none⟩ = false := frozen_below hb1 (by simp; try omega) (by simp [go_sem, *])
          have qc4 : w1.cell? ⟨wr.heap.size, 4, none⟩ = some (.int .i64 order) := cell_below hb1 (by simp [go_sem, *])
          have qf4 : w1.frozen? ⟨wr.heap.size, 4, none⟩ = false := frozen_below hb1 (by simp; try omega) (by simp [go_sem, *])
          have qc5 : w1.cell? ⟨wr.heap.size, 5, none⟩ = some (.bool yes) := cell_below hb1 (by simp [go_sem, *])
          have qf5 : w1.frozen? ⟨wr.heap.size, 5, none⟩ = false := frozen_below hb1 (by simp; try omega) (by simp [go_sem, *])
          have hlt1 : wr.heap.size < w1.heap.size := by have := hb1.size; simp at this; omega
          clear hb1 hc0 hc2 hc3 hc4 hc5 hF1 hF2 hF3 hF4
          go_wp2_with fail
          refine (lmay_any _ _ _ _ _ _ _).mono ?_
          rintro e w2 ⟨rfl, hb2⟩
          rw [hp]
          have hbr2 := below_then (hbr.alloc (by omega) _) (by simp; omega) hb2
          clear hb2
          go_wp2_with fail
          go_roundw
          case rel => exact ⟨k + 1, S, nE, by omega, by omega, by go_num, by omega, by omega, H1.out, HS.out.step hbr2⟩
          case measure => simp [intOf]; omega
      · have hz20 : decide ((20 : Int) ≤ (k : Int)) = true := by simp; omega
        go_wp2_with fail
        exact HQ.out _ _ S _ nE ⟨rfl, rfl, rfl, rfl, rfl, rfl, rfl⟩ hsent (by omega) (by omega) (hs.alloc _)
    · go_wp2_with fail
      exact HQ.out _ _ S _ nE ⟨rfl, rfl, rfl, rfl, rfl, rfl, rfl⟩ hsent (by omega) (by omega) hs

end Go.Proofs.Ytejdmefiobgcdaa
