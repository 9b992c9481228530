import Derived.Test.YtejdmefiobgcdaaPacki
namespace Go.Proofs.Ytejdmefiobgcdaa
open Go.RowKit Go.Proofs

theorem cellG {W w1 : World} {row : Option Nat} {p : Addr} {v : Value} (hg : W.grownBy w1 row) (hne : some p.block ≠ row) (hc : W.cell? p = some v) : w1.cell? p = some v :=
  (World.cell?_of_block (hg.block p.block (lt_of_cell hc) hne)).trans hc
theorem frozG {W w1 : World} {row : Option Nat} {p : Addr} {v : Value} (hg : W.grownBy w1 row) (hne : some p.block ≠ row) (hc : W.cell? p = some v) (hf : W.frozen? p = false) : w1.frozen? p = false :=
  (World.frozen?_of_block (hg.block p.block (lt_of_cell hc) hne)).trans hf
theorem own_empty (w : World) (B : Nat) (e : TypeId) (sz : Nat) (h : B ≤ w.heap.size) : (w.alloc (.cells #[] e)).ownsRow B e sz (.slice (some ⟨w.heap.size, 0, none⟩) 0 0) 0 [] :=
  World.ownsRow_lit w #[] 0 h (by simp [maxLen]) (by simp)

-- the reference's ReadRow
set_option maxRecDepth 100000 in
set_option maxHeartbeats 1600000 in
theorem refReadRow (l : List UInt8) (w : World) (hl : l.length < 100000000) : Calls Try.prog 51 #[str l] w fun e w' => ∃ A c, e = .returned (.tuple #[.slice A (readRow l).1.length c, .int .i64 (readRow l).2]) ∧ (readRow l).1.length ≤ c ∧
    Reads w' (fun k => w.heap.size ≤ k) 1 A (readRow l).1.length ((readRow l).1.map str) ∧ Below w.heap.size w w' := by
  obtain ⟨i0, hi, hz0, hz1, hz2⟩ := info_parts info9
  have hc := fun W => refCount l 256 W hl
  have hk := cnt_range l 256 (by omega)
  have hle := cnt_len' l 256
  unfold readRow
  generalize cnt' l 256 = p at hc hk hle ⊢
  obtain ⟨n, s0, er⟩ := p
  dsimp only at hc hk hle ⊢
  obtain ⟨T0, hT0⟩ : ∃ T : ByteArray, str s0 = .string T := ⟨_, rfl⟩
  rw [hT0] at hc
  replace hc := Lib.hid hc
  by_cases h1 : er = 0
  · subst h1
    obtain ⟨m, rfl⟩ : ∃ m : Nat, n = m := ⟨n.toNat, by omega⟩
    have hs0 : s0.length < 100000000 := by omega
    simp only [ne_eq, not_true_eq_false, if_false, Int.toNat_natCast]
    obtain ⟨R, hR⟩ : ∃ R, rrow m [] s0 = R := ⟨_, rfl⟩
    rw [hR]
    replace hR := Lib.hid hR
    replace hT0 := Lib.hid hT0
    go_enter Try.func51, Try.ntmps51
    go_wp2_with (go_at_call 100; refine (hc.out _).mono ?_; rintro e w1 ⟨rfl, hb⟩; have hs1 := hb.size)
    go_loopw [0, 6, 7] (fun v0 v6 v7 wr => ∃ (k : Nat) (s : List UInt8) (out : List (List UInt8)) (n : Int) (T : ByteArray) (er : Int), Hid (v0 = str s) ∧ v7 = .int .i64 k ∧ k ≤ m ∧ s.length < 100000000 ∧ Hid (out.length = k) ∧ Hid (rrow (m - k) out s = R) ∧ wr.ownsRow (w1.heap.size + 1) 9 1 v6 k (out.map str) ∧ Below w1.heap.size w1 wr ∧ w1.heap.size < wr.heap.size ∧
      wr.cell? ⟨w1.heap.size, 0, none⟩ = some (.int .i64 n) ∧ wr.cell? ⟨w1.heap.size, 1, none⟩ = some (.string T) ∧ wr.cell? ⟨w1.heap.size, 2, none⟩ = some (.int .i64 er) ∧
      wr.frozen? ⟨w1.heap.size, 0, none⟩ = false ∧ wr.frozen? ⟨w1.heap.size, 1, none⟩ = false ∧ wr.frozen? ⟨w1.heap.size, 2, none⟩ = false) (fun _ _ v7 _ => m - (intOf v7).toNat)
    case atStart =>
      refine ⟨0, s0, [], m, T0, 0, Lib.hid hT0.out.symm, rfl, by omega, hs0, Lib.hid rfl, hR, by simpa using own_empty (w1.alloc (.cells #[.int .i64 m, .string T0, .int .i64 0] 143)) (w1.heap.size + 1) 9 1 (by simp), ((Below.refl _ w1).alloc (Nat.le_refl _) _).alloc (by simp) _, by simp; omega, ?_, ?_, ?_, ?_, ?_, ?_⟩ <;> simp [go_sem]
    case round =>
      obtain ⟨k, s, out, n, T, er, hv0, rfl, hkm, hs, hout, hrr, hown, hB, hsz, nc0, nc1, nc2, nf0, nf1, nf2⟩ := hrel
      obtain rfl := hv0.out
      clear hv0
      by_cases hlt : k < m
      · have hm1 : m - k = (m - (k + 1)) + 1 := by omega
        have hc2 := fun W => refCount s 4096 W hs
        have hk2 := cnt_range s 4096 (by omega)
        have hle2 := cnt_len' s 4096
        have hrr2 : rrow (m - k) out s = R := hrr.out
        rw [hm1, rrow] at hrr2
        generalize cnt' s 4096 = p at hc2 hk2 hle2 hrr2
        obtain ⟨n2, s2, er2⟩ := p
        dsimp only at hc2 hk2 hle2 hrr2
        obtain ⟨T2, hT2⟩ : ∃ T : ByteArray, T = ⟨s2.toArray⟩ := ⟨_, rfl⟩
        have hTs : T2.size = s2.length := by rw [hT2]; rfl
        have hT3 : str s2 = .string T2 := by rw [hT2]; rfl
        rw [hT3] at hc2
        replace hc2 := Lib.hid hc2
        replace hT2 := Lib.hid hT2
        replace hT3 := Lib.hid hT3
        by_cases h1 : er2 = 0
        · subst h1
          obtain ⟨j, rfl⟩ : ∃ j : Nat, n2 = j := ⟨n2.toNat, by omega⟩
          simp only [ne_eq, not_true_eq_false, if_false, Int.toNat_natCast, gt_iff_lt, Int.ofNat_lt] at hrr2
          by_cases h2 : s2.length < j
          · rw [if_pos h2] at hrr2
            replace hrr2 := Lib.hid hrr2
            have h2' : decide (s2.length < j) = true := by simp [h2]
            go_wp2_with (go_at_call 100; refine (hc2.out _).mono ?_; rintro e w2 ⟨rfl, hb2⟩; have hs2 := hb2.size; replace nf0 := frozen_at hb2 nc0 nf0; replace nf1 := frozen_at hb2 nc1 nf1; replace nf2 := frozen_at hb2 nc2 nf2; replace nc0 := cell_below hb2 nc0; replace nc1 := cell_below hb2 nc1; replace nc2 := cell_below hb2 nc2; have hsz2 : w1.heap.size < w2.heap.size := by omega)
            refine bodyPost_ret (v := .tuple #[.slice none 0 0, .int .i64 4]) (by simp [results, Try.results51, go_sem]) rfl ⟨none, 0, ?_⟩
            rw [← hrr2.out]
            have hbf := hb.trans ((below_then hB (by omega) hb2).mono hs1)
            refine ⟨rfl, Nat.le_refl _, Reads.none_ _, ?_⟩
            (repeat (first | with_reducible exact hbf | with_reducible refine Below.drew ?_ | refine Below.alloc ?_ (by first | omega | (simp; done) | (simp; omega)) _ | refine Below.setCell ?_ (by first | (simp; done) | (simp; omega)) _))
          · rw [if_neg h2] at hrr2
            replace hrr2 := Lib.hid hrr2
            have h2' : decide (s2.length < j) = false := by simp [h2]
            have hcutS : ∀ W, (Instr.sliceAt 9 (.string T2) (some (.int .i64 (j : Int))) none none).run Try.prog W = .ok (str (s2.drop j)) W := fun W => by rw [hT2.out]; exact str_cut s2 j (by omega) _ rfl W
            obtain ⟨t, ht⟩ : ∃ t : ByteArray, str (s2.take j) = .string t := ⟨_, rfl⟩
            have hheadS : ∀ W, (Instr.sliceAt 9 (.string T2) none (some (.int .i64 (j : Int))) none).run Try.prog W = .ok (.string t) W := fun W => by rw [← ht, hT2.out]; exact str_head s2 j (by omega) _ rfl W
            replace ht := Lib.hid ht
            go_wp2_with fail
            refine (hc2.out _).mono ?_
            rintro e w2 ⟨rfl, hb2⟩
            have hs2 := hb2.size
            replace nf0 := frozen_at hb2 nc0 nf0
            replace nf1 := frozen_at hb2 nc1 nf1
            replace nf2 := frozen_at hb2 nc2 nf2
            replace nc0 := cell_below hb2 nc0
            replace nc1 := cell_below hb2 nc1
            replace nc2 := cell_below hb2 nc2
            have hsz2 : w1.heap.size < w2.heap.size := by omega
            have hown2 := own_below hown hb2
            have hB2 := below_then hB (by omega) hb2
            clear hown hB
            have hX1 := ownsRow_setCell_below hown2 (a := ⟨w1.heap.size, 0, none⟩) (by simp) (.int .i64 (j : Int))
            have hX2 := ownsRow_setCell_below hX1 (a := ⟨w1.heap.size, 1, none⟩) (by simp) (.string T2)
            have hX3 := ownsRow_setCell_below hX2 (a := ⟨w1.heap.size, 2, none⟩) (by simp) (.int .i64 0)
            have hge := fun b e => hown_ge hown2 b e
            replace hge := Lib.hid hge
            replace hX3 := Lib.hid hX3
            clear hX1 hX2 hown2
            go_wp2_with (at_builtin; refine wpList_append_lies _ rfl (.tmp 38) (.tmp 44) 40 rfl (w1.heap.size + 1) 9 i0 _ 1 16 Try.underlying40 hi hz0 hz1 hz2 rfl (by omega) _ k (out.map str) rfl (hX3.out.alloc _) ⟨w2.heap.size, 0, none⟩ 1 1 [.string t] rfl rfl (by intro j u hu; cases j <;> simp at hu; subst hu; simp [go_sem, Addr.add]) (by simp [Value.oneCell']) (by omega) (by simp only [maxLen]; omega) (by omega) (by simp; omega) _ rfl ?_; intro g cap w3 hown3 hgr3 hloc3 hlt3; have hne := Lib.hid (show some w1.heap.size ≠ u6.ownBlock from fun e => by have := hge.out _ e.symm; omega); have mc0 := cellG (p := ⟨w1.heap.size, 0, none⟩) hgr3 hne.out (v := .int .i64 j) (by simp [go_sem, *]); have mc1 := cellG (p := ⟨w1.heap.size, 1, none⟩) hgr3 hne.out (v := .string T2) (by simp [go_sem, *]); have mc2 := cellG (p := ⟨w1.heap.size, 2, none⟩) hgr3 hne.out (v := .int .i64 0) (by simp [go_sem, *]))
            have mf0 := frozG (p := ⟨w1.heap.size, 0, none⟩) hgr3 hne.out (v := .int .i64 j) (by simp [go_sem, *]) (by simp [go_sem, *])
            have mf1 := frozG (p := ⟨w1.heap.size, 1, none⟩) hgr3 hne.out (v := .string T2) (by simp [go_sem, *]) (by simp [go_sem, *])
            have mf2 := frozG (p := ⟨w1.heap.size, 2, none⟩) hgr3 hne.out (v := .int .i64 0) (by simp [go_sem, *]) (by simp [go_sem, *])
            have hB3 := ((((hB2.setCell (p := ⟨w1.heap.size, 0, none⟩) (Nat.le_refl _) _).setCell (p := ⟨w1.heap.size, 1, none⟩) (Nat.le_refl _) _).setCell (p := ⟨w1.heap.size, 2, none⟩) (Nat.le_refl _) _).alloc (by simp; omega) _).grown hgr3 (by simp; omega) (fun b e => by have := hge.out b (by simpa [Act.eval] using e); omega)
            have hs3 := hgr3.size
            have hown4 : w3.ownsRow (w1.heap.size + 1) 9 1 (.slice (some ⟨g, 0, none⟩) (k + 1) cap) (k + 1) ((out ++ [s2.take j]).map str) := by
              have := hown3
              rw [← ht.out] at this
              simpa using this
            replace hown4 := Lib.hid hown4
            have hsz3 : w1.heap.size < w3.heap.size := by simp at hs3; omega
            clear hown3 hgr3 hloc3 hs3
            go_roundw
            case rel => exact ⟨k + 1, s2.drop j, out ++ [s2.take j], j, T2, 0, Lib.hid rfl, by go_num, by omega, by simp; omega, Lib.hid (by have := hout.out; simp [this]), hrr2, hown4.out, hB3, hsz3, mc0, mc1, mc2, mf0, mf1, mf2⟩
            case measure => simp [intOf]; omega
        · rw [if_pos h1] at hrr2
          replace hrr2 := Lib.hid hrr2
          have h1' : (er2 == 0) = false := by simp [h1]
          have h1'' : (er2 != 0) = true := by simp [h1]
          go_wp2_with (go_at_call 100; refine (hc2.out _).mono ?_; rintro e w2 ⟨rfl, hb2⟩; have hs2 := hb2.size; replace nf0 := frozen_at hb2 nc0 nf0; replace nf1 := frozen_at hb2 nc1 nf1; replace nf2 := frozen_at hb2 nc2 nf2; replace nc0 := cell_below hb2 nc0; replace nc1 := cell_below hb2 nc1; replace nc2 := cell_below hb2 nc2; have hsz2 : w1.heap.size < w2.heap.size := by omega)
          obtain ⟨X, hX⟩ : ∃ X, X = (((w2.setCell ⟨w1.heap.size, 0, none⟩ (.int .i64 n2)).setCell ⟨w1.heap.size, 1, none⟩ (.string T2)).setCell ⟨w1.heap.size, 2, none⟩ (.int .i64 er2)) := ⟨_, rfl⟩
          have xc2 : X.cell? ⟨w1.heap.size, 2, none⟩ = some (.int .i64 er2) := by rw [hX]; simp [go_sem, *]
          have hbX : Below w.heap.size w X := by
            rw [hX]
            exact hb.trans (((((below_then hB (by omega) hb2).setCell (p := ⟨w1.heap.size, 0, none⟩) (Nat.le_refl _) _).setCell (p := ⟨w1.heap.size, 1, none⟩) (Nat.le_refl _) _).setCell (p := ⟨w1.heap.size, 2, none⟩) (Nat.le_refl _) _).mono hs1)
          rw [← hX]
          clear hX nc0 nc1 nc2 nf0 nf1 nf2
          refine wp_region_still_lit (by kernel_rfl) (by kernel_rfl) ?_
          change wpStill _ _ X.drew (fun a' => Exit.then _ _ .normal a' X.drew) _ _
          repeat still_step
          refine wpStill_nil ?_
          go_wp2_with fail
          refine bodyPost_ret (v := .tuple #[.slice none 0 0, .int .i64 er2]) (by simp [results, Try.results51, go_sem]) rfl ⟨none, 0, ?_⟩
          rw [← hrr2.out]
          exact ⟨rfl, Nat.le_refl _, Reads.none_ _, hbX.drew⟩
      · have hk' : k = m := by omega
        have hrr2 : rrow (m - k) out s = R := hrr.out
        rw [hk', Nat.sub_self, rrow] at hrr2
        have hlk := hout.out
        rw [← hlk] at hown
        obtain ⟨A, c, hv, hnc, hrd⟩ := own_reads hown
        replace hrd := Lib.hid (hrd.mono (ok' := fun k => w.heap.size ≤ k) (fun j hj => by omega))
        have hl3 := len_str s
        replace hv := Lib.hid hv
        clear hown
        have hbf := hb.trans (hB.mono hs1)
        by_cases h1 : s = []
        · rw [if_pos h1] at hrr2
          replace hrr2 := Lib.hid hrr2
          have hlz : decide (0 < s.length) = false := by simp [h1]
          replace h1 := Lib.hid h1
          go_wp2_with fail
          refine bodyPost_ret (v := .tuple #[u6, .int .i64 0]) (by simp [results, Try.results51, go_sem]) rfl ⟨A, c, ?_⟩
          rw [← hrr2.out]
          exact ⟨by rw [hv.out], hnc, hrd.out, hbf⟩
        · rw [if_neg h1] at hrr2
          replace hrr2 := Lib.hid hrr2
          have hlz : decide (0 < s.length) = true := by cases s <;> simp_all
          replace h1 := Lib.hid h1
          go_wp2_with fail
          refine bodyPost_ret (v := .tuple #[.slice none 0 0, .int .i64 5]) (by simp [results, Try.results51, go_sem]) rfl ⟨none, 0, ?_⟩
          rw [← hrr2.out]
          exact ⟨rfl, Nat.le_refl _, Reads.none_ _, hbf⟩
  · have h1' : (er == 0) = false := by simp [h1]
    have h1'' : (er != 0) = true := by simp [h1]
    rw [if_pos h1]
    obtain ⟨R, hR⟩ : ∃ R, (([] : List (List UInt8)), er) = R := ⟨_, rfl⟩
    rw [hR]
    replace hR := Lib.hid hR
    go_enter Try.func51, Try.ntmps51
    go_wp2_with (go_at_call 100; refine (hc.out _).mono ?_; rintro e w1 ⟨rfl, hb⟩; have hs1 := hb.size)
    obtain ⟨X, hX⟩ : ∃ X, X = (w1.alloc (.cells #[.int .i64 n, .string T0, .int .i64 er] 143)) := ⟨_, rfl⟩
    have xc2 : X.cell? ⟨w1.heap.size, 2, none⟩ = some (.int .i64 er) := by rw [hX]; simp [go_sem]
    have hbX : Below w.heap.size w X := by rw [hX]; exact hb.alloc hs1 _
    rw [← hX]
    clear hX
    refine wp_region_still_lit (by kernel_rfl) (by kernel_rfl) ?_
    change wpStill _ _ X.drew (fun a' => Exit.then _ _ .normal a' X.drew) _ _
    repeat still_step
    refine wpStill_nil ?_
    go_wp2_with fail
    refine bodyPost_ret (v := .tuple #[.slice none 0 0, .int .i64 er]) (by simp [results, Try.results51, go_sem]) rfl ⟨none, 0, ?_⟩
    rw [← hR.out]
    exact ⟨rfl, Nat.le_refl _, Reads.none_ _, hbX.drew⟩
end Go.Proofs.Ytejdmefiobgcdaa
