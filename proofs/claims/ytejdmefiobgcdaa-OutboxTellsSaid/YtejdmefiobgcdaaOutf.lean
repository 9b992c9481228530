import Derived.Test.YtejdmefiobgcdaaOute
namespace Go.Proofs.Ytejdmefiobgcdaa
open Go.RowKit Go.Proofs

-- outbox.Put: not refused at once
set_option maxRecDepth 100000 in
set_option maxHeartbeats 3200000 in
theorem oPut (A : Option Addr) (l : List O) (c : Nat) (last kind order now : Int) (w : World) (ok : Nat → Prop) (hr : Reads w ok 4 A l.length (l.flatMap O.c)) (hlc : l.length ≤ c) (hyes : okPut l last kind order now = true) :
    Calls Try.prog 27 #[.agg #[.int .i64 last, .slice A l.length c], .int .i64 kind, .int .i64 order, .int .i64 now] w
      fun e w' => (if 0 ≤ idx l (sameKO kind order) then e = .returned (.tuple #[.agg #[.int .i64 0, .slice none 0 0], .int .i64 0, .int .i64 9])
        else if l.length = 96 ∨ last = 1099511627776 then e = .returned (.tuple #[.agg #[.int .i64 0, .slice none 0 0], .int .i64 0, .int .i64 7])
        else ∃ A' c', e = .returned (.tuple #[.agg #[.int .i64 (last + 1), .slice A' (l.length + 1) c'], .int .i64 (last + 1), .int .i64 0]) ∧ l.length + 1 ≤ c' ∧
          Reads w' (fun k => ok k ∨ w.heap.size ≤ k) 4 A' (l.length + 1) ((l ++ ([⟨last + 1, kind, order, now⟩] : List O)).flatMap O.c)) ∧ Below w.heap.size w w' := by
  have h4 : OkBox l last ∧ knd kind = true ∧ num order = true ∧ tim now = true := by simpa [okPut, and_assoc] using hyes
  obtain ⟨hbox, hk, hn, ht⟩ := h4
  have hll : l.length < 4611686018427387904 := by have := hbox.2.2.1; omega
  have hR := fun W (h : Below w.heap.size w W) => oRight A l c last W ok (hr.below h) hll
  rw [decide_eq_true hbox] at hR
  replace hR := Lib.hid hR
  have hl96 := hbox.2.2.1
  have htl := hbox.2.2.2.1
  have c1 := Lib.hid (fun W => hk ▸ oKinds kind W)
  have c2 := Lib.hid (fun W => hn ▸ oNumber order W)
  have c3 := Lib.hid (fun W => ht ▸ oTime now W)
  have hlast : 0 ≤ last ∧ last ≤ 1099511627776 := by simp [tim, num] at htl; omega
  clear hyes hbox hk hn ht htl
  have hb0 := Below.refl w.heap.size w
  go_enter Try.func27, Try.ntmps27
  go_wp2_with fail
  refine (hR.out _ ((hb0.alloc (Nat.le_refl _) _).alloc (by simp) _)).mono ?_
  rintro e w1 ⟨rfl, hb1⟩
  have hs1 := hb1.size
  simp at hs1
  have hs1a : w.heap.size < w1.heap.size := by omega
  have hs1b : w.heap.size + 1 < w1.heap.size := by omega
  have hbw := below_then ((hb0.alloc (Nat.le_refl _) _).alloc (by simp) _) (by simp; omega) hb1
  have ac0 : w1.cell? ⟨w.heap.size, 0, none⟩ = some (.int .i64 last) := cell_below hb1 (by simp [go_sem, *])
  have af0 : w1.frozen? ⟨w.heap.size, 0, none⟩ = false := frozen_below hb1 (by simp; try omega) (by simp [go_sem, *])
  have ac1 : w1.cell? ⟨w.heap.size, 1, none⟩ = some (.slice A l.length c) := cell_below hb1 (by simp [go_sem, *])
  have af1 : w1.frozen? ⟨w.heap.size, 1, none⟩ = false := frozen_below hb1 (by simp; try omega) (by simp [go_sem, *])
  have rc0 : w1.cell? ⟨w.heap.size + 1, 0, none⟩ = some (.int .i64 0) := cell_below hb1 (by simp [go_sem, *])
  have rf0 : w1.frozen? ⟨w.heap.size + 1, 0, none⟩ = false := frozen_below hb1 (by simp; try omega) (by simp [go_sem, *])
  have rc1 : w1.cell? ⟨w.heap.size + 1, 1, none⟩ = some (.slice none 0 0) := cell_below hb1 (by simp [go_sem, *])
  have rf1 : w1.frozen? ⟨w.heap.size + 1, 1, none⟩ = false := frozen_below hb1 (by simp; try omega) (by simp [go_sem, *])
  clear hb1 hs1
  go_upto_region 3 with (first
      | (go_at_call 80; refine (c1.out _).mono ?_; rintro e w' ⟨rfl, rfl⟩)
      | (go_at_call 81; refine (c2.out _).mono ?_; rintro e w' ⟨rfl, rfl⟩)
      | (go_at_call 82; refine (c3.out _).mono ?_; rintro e w' ⟨rfl, rfl⟩))
  (try simp only [Act.put, List.setIfInBounds_toArray, List.set_cons_zero, List.set_cons_succ])
  go_cut [31] (fun v31 wc => v31 = .bool (decide (0 ≤ idx l (sameKO kind order))) ∧ Below w1.heap.size w1 wc)
  case first =>
    have hof := Lib.hid (fun W => ofAny kind order W)
    obtain ⟨Y, hY⟩ : ∃ Y, Y = ((w1.alloc (.cells #[.int .i64 kind] 3)).alloc (.cells #[.int .i64 order] 3)).drew := ⟨_, rfl⟩
    have hXY : Below w1.heap.size w1 Y := by rw [hY]; exact (((Below.refl _ w1).alloc (Nat.le_refl _) _).alloc (by simp) _).drew
    have hYs : w1.heap.size ≤ Y.heap.size := hXY.size
    have hY1 : Y.cell? ⟨w1.heap.size, 0, none⟩ = some (.int .i64 kind) := by rw [hY]; simp [go_sem]
    have hY2 : Y.cell? ⟨w1.heap.size + 1, 0, none⟩ = some (.int .i64 order) := by rw [hY]; simp [go_sem]
    have hw83 := Lib.hid (whereOf A l c w1.heap.size (w1.heap.size + 1) kind order Y ok (hr.below (below_then hbw hbw.size hXY)) hY1 hY2 hll)
    have hSY := Lib.hid (show Below w1.heap.size w1 Y ∧ Y.cell? ⟨w.heap.size, 1, none⟩ = some (.slice A l.length c) from ⟨hXY, cell_below hXY ac1⟩)
    have hS0 := Lib.hid (show Below w1.heap.size w1 w1.drew ∧ w1.drew.cell? ⟨w.heap.size, 1, none⟩ = some (.slice A l.length c) from ⟨(Below.refl _ w1).drew, ac1⟩)
    have hS := Lib.hid (fun W (h : Below w1.heap.size w1 W) => (show Below w1.heap.size w1 W ∧ W.cell? ⟨w.heap.size, 1, none⟩ = some (.slice A l.length c) from ⟨h, cell_below h ac1⟩))
    clear hY1 hY2
    rw [hY] at hw83 hSY
    go_region_held3 (fun W => Below w1.heap.size w1 W ∧ W.cell? ⟨w.heap.size, 1, none⟩ = some (.slice A l.length c))
      (first
        | exact hS0.out
        | exact hSY.out
        | exact hS.out _ (by assumption))
      (first
        | (go_at_call 84; refine (hof.out _).mono ?_; rintro e w2 ⟨rfl, rfl⟩)
        | (go_at_call 83; refine hw83.out.mono ?_; rintro e w3 ⟨rfl, hb3⟩; rw [← hY] at hb3; have hb4 := below_then hXY hYs hb3))
    all_goals
      go_wp2_with fail
      go_meet
      case rel => exact ⟨rfl, by assumption⟩
  case rest =>
    obtain ⟨rfl, hbc⟩ := hcut
    rename World => W2
    replace af0 := frozen_at hbc ac0 af0
    replace ac0 := cell_below hbc ac0
    replace af1 := frozen_at hbc ac1 af1
    replace ac1 := cell_below hbc ac1
    replace rf0 := frozen_at hbc rc0 rf0
    replace rc0 := cell_below hbc rc0
    replace rf1 := frozen_at hbc rc1 rf1
    replace rc1 := cell_below hbc rc1
    have hs2 := hbc.size
    have hs2a : w.heap.size < W2.heap.size := by omega
    have hs2b : w.heap.size + 1 < W2.heap.size := by omega
    have hbw2 := below_then hbw (by omega) hbc
    clear hbc hbw
    by_cases hi : 0 ≤ idx l (sameKO kind order)
    · rw [decide_eq_true hi]
      go_wp2_with fail
      refine bodyPost_ret (v := .tuple #[.agg #[.int .i64 0, .slice none 0 0], .int .i64 0, .int .i64 9]) (by simp [results, Try.results27, go_sem, *]) rfl ⟨rfl, ?_⟩
      ((repeat (first | with_reducible exact hbw2 | with_reducible refine Below.drew ?_ | with_reducible refine Below.alloc ?_ ?_ _ | with_reducible refine Below.setCell ?_ ?_ _)); all_goals first | omega | (simp; done) | (simp; omega))
    · rw [decide_eq_false hi]
      by_cases hf : l.length = 96 ∨ last = 1099511627776
      · have hz : ((l.length : Int) == 96) = true ∨ (((l.length : Int) == 96) = false ∧ (last == 1099511627776) = true) := by
          by_cases e : l.length = 96
          · left; simp [e]
          · right; exact ⟨by simp; omega, by simp; omega⟩
        rcases hz with hz | ⟨hz, hz2⟩
        all_goals
          go_wp2_with fail
          refine bodyPost_ret (v := .tuple #[.agg #[.int .i64 0, .slice none 0 0], .int .i64 0, .int .i64 7]) (by simp [results, Try.results27, go_sem, *]) rfl ⟨?_, ?_⟩
          · first | rfl | (rw [if_pos hf])
          · ((repeat (first | with_reducible exact hbw2 | with_reducible refine Below.drew ?_ | with_reducible refine Below.alloc ?_ ?_ _ | with_reducible refine Below.setCell ?_ ?_ _)); all_goals first | omega | (simp; done) | (simp; omega))
      · have hz1 : ((l.length : Int) == 96) = false := by simp; omega
        have hz2 : (last == 1099511627776) = false := by simp; omega
        have hz3 : (l.length : Int) ≤ 96 := by omega
        obtain ⟨i0, hi0, hz00, hz01, hz02⟩ := info_parts info60
        go_upto_region 8 with fail
        (try simp only [Act.put, List.setIfInBounds_toArray, List.set_cons_zero, List.set_cons_succ])
        obtain ⟨X, hX⟩ : ∃ X, X = W2.setCell ⟨w.heap.size, 0, none⟩ (.int .i64 (last + 1)) := ⟨_, rfl⟩
        have hXs : X.heap.size = W2.heap.size := by rw [hX]; simp
        have xc0 : X.cell? ⟨w.heap.size, 0, none⟩ = some (.int .i64 (last + 1)) := by rw [hX]; simp [go_sem, *]
        have xc1 : X.cell? ⟨w.heap.size, 1, none⟩ = some (.slice A l.length c) := by rw [hX]; simp [go_sem, *]
        have xf0 : X.frozen? ⟨w.heap.size, 0, none⟩ = false := by rw [hX]; simp [go_sem, *]
        have xf1 : X.frozen? ⟨w.heap.size, 1, none⟩ = false := by rw [hX]; simp [go_sem, *]
        have yc0 : X.cell? ⟨w.heap.size + 1, 0, none⟩ = some (.int .i64 0) := by rw [hX]; simp [go_sem, *]
        have yc1 : X.cell? ⟨w.heap.size + 1, 1, none⟩ = some (.slice none 0 0) := by rw [hX]; simp [go_sem, *]
        have yf0 : X.frozen? ⟨w.heap.size + 1, 0, none⟩ = false := by rw [hX]; simp [go_sem, *]
        have yf1 : X.frozen? ⟨w.heap.size + 1, 1, none⟩ = false := by rw [hX]; simp [go_sem, *]
        have hbX : Below w.heap.size w X := by rw [hX]; exact hbw2.setCell (p := ⟨w.heap.size, 0, none⟩) (Nat.le_refl _) _
        rw [← hX]
        clear hX ac0 ac1 af0 af1 rc0 rc1 rf0 rf1
        have hrX := (hr.lt (by omega)).below hbX
        have hsX0 : w.heap.size < X.heap.size := by omega
        have hsX : w.heap.size + 1 < X.heap.size := by omega
        clear hXs
        have hrE : Reads (X.alloc (.cells #[.int .i64 (last + 1), .int .i64 kind, .int .i64 order, .int .i64 now] 60)).drew (fun k => ok k ∧ k < w.heap.size) 4 A l.length (l.flatMap O.c) := hrX.alloc _
        have hnE : Reads (X.alloc (.cells #[.int .i64 (last + 1), .int .i64 kind, .int .i64 order, .int .i64 now] 60)).drew (fun k => k = X.heap.size) 4 (some ⟨X.heap.size, 0, none⟩) 1 (([⟨last + 1, kind, order, now⟩] : List O).flatMap O.c) := reads_new (W := X) rfl rfl
        replace hrE := Lib.hid hrE
        replace hnE := Lib.hid hnE
        have hbE : Below X.heap.size X (X.alloc (.cells #[.int .i64 (last + 1), .int .i64 kind, .int .i64 order, .int .i64 now] 60)).drew := ((Below.refl _ X).alloc (Nat.le_refl _) _).drew
        replace hbE := Lib.hid hbE
        clear hr hrX
        have hE : ∀ w3 : World, (X.alloc (.cells #[.int .i64 (last + 1), .int .i64 kind, .int .i64 order, .int .i64 now] 60)).drew.grownBy w3 none → Below X.heap.size X w3 := fun w3 hg => hbE.out.grown hg (by simp) (by simp)
        replace hE := Lib.hid hE
        go_cut [] (fun wc => ∃ A' c', wc.cell? ⟨w.heap.size, 0, none⟩ = some (.int .i64 (last + 1)) ∧ wc.cell? ⟨w.heap.size, 1, none⟩ = some (.slice A' (l.length + 1) c') ∧ wc.cell? ⟨w.heap.size + 1, 0, none⟩ = some (.int .i64 0) ∧ wc.cell? ⟨w.heap.size + 1, 1, none⟩ = some (.slice none 0 0) ∧ wc.frozen? ⟨w.heap.size + 1, 0, none⟩ = false ∧ wc.frozen? ⟨w.heap.size + 1, 1, none⟩ = false ∧
          l.length + 1 ≤ c' ∧ Reads wc (fun k => (ok k ∧ k < w.heap.size) ∨ X.heap.size ≤ k) 4 A' (l.length + 1) ((l ++ ([⟨last + 1, kind, order, now⟩] : List O)).flatMap O.c) ∧ Below w.heap.size w wc ∧ w.heap.size + 1 < wc.heap.size)
        case first =>
          go_region_law (first
            | (refine step_append_full _ rfl (.tmp 57) (.tmp 64) 51 rfl 60 i0 _ 4 32 Try.underlying51 hi0 hz00 hz01 hz02 rfl (by omega) A l.length (l.flatMap O.c) _ rfl hrE.out (some ⟨X.heap.size, 0, none⟩) 1 1 (([⟨last + 1, kind, order, now⟩] : List O).flatMap O.c) _ rfl hnE.out (flat_one O.c o_one _) (by simp only [maxLen]; omega) (by omega) ?_; intro A' c' w3 hc3 hr3 hg3
               have hb3 := hE.out w3 hg3
               have zc0 := cell_below hb3 xc0
               have zc1 := cell_below hb3 xc1
               have zf1 := frozen_at hb3 xc1 xf1
               have vc0 := cell_below hb3 yc0
               have vc1 := cell_below hb3 yc1
               have vf0 := frozen_at hb3 yc0 yf0
               have vf1 := frozen_at hb3 yc1 yf1)
            | (go_simp; go_at_call 85; refine (oClip A l.length c hlc _).mono ?_; rintro e w3 ⟨rfl, rfl⟩))
          all_goals
            have hr4 := hr3.mono (ok' := fun k => (ok k ∧ k < w.heap.size) ∨ X.heap.size ≤ k) (fun k hk => hk.elim .inl (fun h => .inr (by simp at h; omega)))
            clear hr3
            go_wp2_with fail
            go_meet
            case rel =>
              refine ⟨A', c', ?_, ?_, ?_, ?_, ?_, ?_, hc3, ?_, ?_, ?_⟩
              · simp [go_sem, *]
              · simp [go_sem, *]
              · simp [go_sem, *]
              · simp [go_sem, *]
              · simp [go_sem, *]
              · simp [go_sem, *]
              · rw [List.flatMap_append]
                exact hr4.far (p := ⟨w.heap.size, 1, none⟩) (fun k hk => by rcases hk with h | h <;> (dsimp only; omega)) _
              · exact (hbX.trans (hb3.mono (by omega))).setCell (p := ⟨w.heap.size, 1, none⟩) (Nat.le_refl _) _
              · have := hb3.size; simp; omega
        case rest =>
          obtain ⟨A', c', gc0, gc1, rc0, rc1, rf0, rf1, hc', hr', hbw3, hsz3⟩ := hcut
          have hsz30 : w.heap.size < wc.heap.size := by omega
          clear xc0 xc1 xf0 xf1 yc0 yc1 yf0 yf1 hrE hnE hbE hE
          go_wp2_with fail
          go_region
          all_goals
            go_wp2_with fail
            refine bodyPost_ret (v := .tuple #[.agg #[.int .i64 (last + 1), .slice A' (l.length + 1) c'], .int .i64 (last + 1), .int .i64 0]) (by simp [results, Try.results27, go_sem, *]) rfl ⟨⟨A', c', rfl, hc', ?_⟩, ?_⟩
            · rw [show (l ++ ([⟨last + 1, kind, order, now⟩] : List O)).flatMap O.c = l.flatMap O.c ++ O.c ⟨last + 1, kind, order, now⟩ by simp] at hr'
              refine Reads.mono (ok := fun k => (ok k ∧ k < w.heap.size) ∨ X.heap.size ≤ k) ?_ (fun k hk => hk.elim (fun h => .inl h.1) (fun h => .inr (by omega)))
              repeat (first | with_reducible exact hr' | with_reducible refine Reads.drew ?_ | refine Reads.far ?_ (fun k hk => by rcases hk with h | h <;> (dsimp only; omega)) _)
            · ((repeat (first | with_reducible exact hbw3 | with_reducible refine Below.drew ?_ | with_reducible refine Below.alloc ?_ ?_ _ | with_reducible refine Below.setCell ?_ ?_ _)); all_goals first | omega | (simp; done) | (simp; omega))
end Go.Proofs.Ytejdmefiobgcdaa
