import Derived.Test.YtejdmefiobgcdaaOutm
namespace Go.Proofs.Ytejdmefiobgcdaa
open Go.RowKit Go.Proofs

def tellL (l : List O) (now : Int) : List O := l.map (tellO now)
theorem tellL_snoc {l : List O} {now : Int} {k : Nat} {o : O} (ho : l[k]? = some o) : tellL (l.take (k + 1)) now = tellL (l.take k) now ++ [tellO now o] := by
  unfold tellL; rw [take_snoc' ho, List.map_append]; rfl
set_option maxRecDepth 100000 in
set_option maxHeartbeats 1600000 in
theorem rTell (A : Option Addr) (l : List O) (c : Nat) (last now : Int) (w : World) (ok : Nat → Prop) (hr : Reads w ok 4 A l.length (l.flatMap O.c)) (hll : l.length ≤ 4000000000000) (hn0 : 0 ≤ now) (hn1 : now ≤ 1099511627776) :
    Calls Try.prog 39 #[.agg #[.int .i64 last, .slice A l.length c], .int .i64 now] w
      fun e w' => ∃ A' c', e = .returned (.agg #[.int .i64 last, .slice A' (tellL l now).length c']) ∧ (tellL l now).length ≤ c' ∧ Reads w' (fun k => w.heap.size ≤ k) 4 A' (tellL l now).length ((tellL l now).flatMap O.c) ∧ Below w.heap.size w w' := by
  obtain ⟨i0, hi, hz0, hz1, hz2⟩ := info_parts info60
  obtain ⟨D, hD⟩ : ∃ D, D = nextDue now := ⟨_, rfl⟩
  have hcase : (decide (1099511627776 < now + 10) = true ∧ D = 1099511627776) ∨ (decide (1099511627776 < now + 10) = false ∧ D = now + 10) := by
    by_cases h : 1099511627776 < now + 10
    · exact .inl ⟨by simp [h], by rw [hD]; simp [nextDue, h]⟩
    · exact .inr ⟨by simp [h], by rw [hD]; simp [nextDue, h]⟩
  replace hD := Lib.hid hD
  rcases hcase with ⟨hq, hDe⟩ | ⟨hq, hDe⟩
  all_goals
    replace hDe := Lib.hid hDe
    go_enter Try.func39, Try.ntmps39
    go_wp2_with fail
    rw [← hDe.out]
    go_loopw [19] (fun v8 wr => ∃ (k : Nat) (A' : Option Addr) (c' : Nat), v8 = .int .i64 k ∧ k ≤ l.length ∧ Hid (Outs w last (tellL (l.take k) now) A' c' wr)) (fun v8 _ => l.length - (intOf v8).toNat)
    case atStart => exact ⟨0, none, 0, rfl, by omega, Lib.hid (Outs.start w last _)⟩
    case round =>
      obtain ⟨k, A', c', rfl, hk, hO⟩ := hrel
      have hB := hO.out.2.2.1
      have hs1 := hB.size
      have hs3 := hO.out.2.2.2
      obtain ⟨g0, gf0⟩ := hO.out.1.one
      obtain ⟨g1, gf1⟩ := hO.out.1.tail.one
      obtain ⟨g2, gf2⟩ := hO.out.1.tail.tail.one
      obtain ⟨g3, gf3⟩ := hO.out.1.tail.tail.tail.one
      by_cases hlt : k < l.length
      · obtain ⟨o, ho⟩ : ∃ o, l[k]? = some o := ⟨_, List.getElem?_eq_getElem hlt⟩
        obtain ⟨b, of, rfl, hbl, _, hc⟩ := (hr.below hB).elem O.len (by omega) k o ho
        have hc0 := hc 0 _ rfl
        have hc1 := hc 1 _ rfl
        have hc2 := hc 2 _ rfl
        have hc3 := hc 3 _ rfl
        clear hc
        simp only [Nat.add_zero] at hc0
        have hne1 : w.heap.size + 1 + 1 ≠ wr.heap.size := by omega
        have hne2 : w.heap.size + 1 + 1 < wr.heap.size := by omega
        have hsn := Lib.hid (tellL_snoc (now := now) ho)
        have hnl : (tellL (l.take k) now).length ≤ k := by unfold tellL; rw [List.length_map]; exact List.length_take_le _ _
        generalize tellL (l.take k) now = T at hO hnl hsn g1
        replace ho := Lib.hid ho
        by_cases hd : o.due ≤ now
        · have hdd : decide (o.due ≤ now) = true := by simp [hd]
          have ht := Lib.hid (show tellO now o = ⟨o.key, o.kind, o.order, D⟩ by rw [hD.out]; simp [tellO, hd])
          have hnews := Lib.hid (news_at (W := wr.alloc (.cells #[.int .i64 o.key, .int .i64 o.kind, .int .i64 o.order, .int .i64 D] 60)) (g := wr.heap.size + 1) (cs := #[.int .i64 o.key, .int .i64 o.kind, .int .i64 o.order, .int .i64 D]) (t := 60) (by simp))
          have hO2 := Lib.hid ((hO.out.alloc (.cells #[.int .i64 o.key, .int .i64 o.kind, .int .i64 o.order, .int .i64 D] 60)).alloc (.cells #[.int .i64 o.key, .int .i64 o.kind, .int .i64 o.order, .int .i64 D] 60))
          go_wp2_with (at_builtin; refine wpList_append_own _ rfl (.tmp 30) (.tmp 32) 51 rfl (w.heap.size + 3) 60 i0 _ 4 32 Try.underlying51 hi hz0 hz1 hz2 rfl (by omega) _ T.length _ rfl hO2.out.2.1 ⟨wr.heap.size + 1, 0, none⟩ 1 1 (O.c ⟨o.key, o.kind, o.order, D⟩) rfl rfl hnews.out (o_one _) (by simp only [maxLen]; omega) (by omega) (by simp; omega) ?_; intro v1 w1 hown1 hgr1 _; obtain ⟨A5, c5, rfl, hc5, _⟩ := own_read hown1; have hH := hO2.out.grown hgr1; have q1 := hH.tail.one.1; have q2 := hH.tail.one.2; clear hH)
          go_roundw
          case rel =>
            refine ⟨k + 1, A5, c5, by go_num, by omega, Lib.hid ?_⟩
            rw [hsn.out, ht.out]
            exact hO2.out.push (o := ⟨o.key, o.kind, o.order, D⟩) hgr1 rfl hown1
          case measure => simp [intOf]; omega
        · have hdd : decide (o.due ≤ now) = false := by simp [hd]
          have ht := Lib.hid (show tellO now o = o by simp [tellO, hd])
          have hnews := Lib.hid (news_at (W := wr.alloc (.cells #[.int .i64 o.key, .int .i64 o.kind, .int .i64 o.order, .int .i64 o.due] 60)) (g := wr.heap.size + 1) (cs := #[.int .i64 o.key, .int .i64 o.kind, .int .i64 o.order, .int .i64 o.due]) (t := 60) (by simp))
          have hO2 := Lib.hid ((hO.out.alloc (.cells #[.int .i64 o.key, .int .i64 o.kind, .int .i64 o.order, .int .i64 o.due] 60)).alloc (.cells #[.int .i64 o.key, .int .i64 o.kind, .int .i64 o.order, .int .i64 o.due] 60))
          go_wp2_with (at_builtin; refine wpList_append_own _ rfl (.tmp 30) (.tmp 32) 51 rfl (w.heap.size + 3) 60 i0 _ 4 32 Try.underlying51 hi hz0 hz1 hz2 rfl (by omega) _ T.length _ rfl hO2.out.2.1 ⟨wr.heap.size + 1, 0, none⟩ 1 1 (O.c ⟨o.key, o.kind, o.order, o.due⟩) rfl rfl hnews.out (o_one _) (by simp only [maxLen]; omega) (by omega) (by simp; omega) ?_; intro v1 w1 hown1 hgr1 _; obtain ⟨A5, c5, rfl, hc5, _⟩ := own_read hown1; have hH := hO2.out.grown hgr1; have q1 := hH.tail.one.1; have q2 := hH.tail.one.2; clear hH)
          go_roundw
          case rel =>
            refine ⟨k + 1, A5, c5, by go_num, by omega, Lib.hid ?_⟩
            rw [hsn.out, ht.out]
            exact hO2.out.push (o := ⟨o.key, o.kind, o.order, o.due⟩) hgr1 rfl hown1
          case measure => simp [intOf]; omega
      · have hk2 : l.take k = l := List.take_of_length_le (by omega)
        rw [hk2] at hO g1
        obtain ⟨A5, c5, e5, hc5, hrd⟩ := own_read hO.out.2.1
        injection e5 with e51 e52 e53
        subst e51 e53
        clear hk2 e52
        have hrd2 : Reads wr (fun k => w.heap.size + 3 ≤ k) 4 A' (tellL l now).length ((tellL l now).flatMap O.c) := hrd
        replace hrd2 := Lib.hid hrd2
        replace hrd := Lib.hid hrd
        go_wp2_with fail
        refine bodyPost_ret (v := .agg #[.int .i64 last, .slice A' (tellL l now).length c']) (by simp [results, Try.results39, go_sem, *]) rfl ⟨A', c', rfl, hc5, ?_, ?_⟩
        · refine Reads.mono (ok := fun k => w.heap.size + 3 ≤ k) ?_ (fun k hk => by omega)
          repeat (first | with_reducible exact hrd2.out | with_reducible refine Reads.drew ?_ | with_reducible refine Reads.far ?_ ?_ _)
          all_goals (intro k hk; dsimp only; omega)
        · ((repeat (first | with_reducible exact hB | with_reducible refine Below.drew ?_ | with_reducible refine Below.alloc ?_ ?_ _ | with_reducible refine Below.setCell ?_ ?_ _)); all_goals first | omega | (simp; done) | (simp; omega))
end Go.Proofs.Ytejdmefiobgcdaa
