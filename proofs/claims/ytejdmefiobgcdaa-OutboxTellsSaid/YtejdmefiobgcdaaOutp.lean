import Derived.Test.YtejdmefiobgcdaaOuto
import Derived.Test.YtejdmefiobgcdaaOute
import Derived.Test.YtejdmefiobgcdaaAny
import Derived.Test.YtejdmefiobgcdaaRng
namespace Go.Proofs.Ytejdmefiobgcdaa
open Go.RowKit Go.Proofs

theorem find_idx (l : List O) (last kind order : Int) (h : OkBox l last) : 0 < (findO l (sameKO kind order)).key ↔ 0 ≤ idx l (sameKO kind order) := by
  constructor
  · intro hk
    cases hf : l.findIdx? (sameKO kind order) with
    | none =>
      have h0 : findO l (sameKO kind order) = O0 := findO_none (fun x hx => List.findIdx?_eq_none_iff.1 hf x hx)
      rw [h0] at hk
      simp [O0] at hk
    | some j => unfold idx; rw [hf]; dsimp only; omega
  · intro hi
    obtain ⟨j, o, hf, _, ho, hs⟩ := find_some (l := l) (f := sameKO kind order) (by omega)
    obtain ⟨h1, h2, h3⟩ := List.findIdx?_eq_some_iff_getElem.1 hf
    rw [findO_at (k := j) (fun x hx => by
      obtain ⟨i, hi, rfl⟩ := List.mem_take_iff_getElem.1 hx
      simpa using h3 i (by omega)) ho hs]
    have hm := h.1 o (List.mem_of_getElem? ho)
    simp [mayO, num] at hm
    omega

set_option maxRecDepth 100000 in
set_option maxHeartbeats 1600000 in
theorem rPut_no (A : Option Addr) (l : List O) (c : Nat) (last kind order now : Int) (w : World) (ok : Nat → Prop) (hr : Reads w ok 4 A l.length (l.flatMap O.c)) (hlc : l.length ≤ c) (hll : l.length < 4611686018427387904) (hno : okPut l last kind order now = false) :
    Calls Try.prog 35 #[.agg #[.int .i64 last, .slice A l.length c], .int .i64 kind, .int .i64 order, .int .i64 now] w
      fun e w' => e = .returned (.agg #[.int .i64 0, .slice none 0 0, .int .i64 0, .int .i64 1]) ∧ Below w.heap.size w w' := by
  have hR := Lib.hid (fun W (h : Below w.heap.size w W) => rRight A l c last W ok (hr.below h) hlc hll)
  have hno' : (decide (OkBox l last) && (decide (1 ≤ kind) && decide (kind ≤ 3)) && inB 1 order && inB 0 now) = false := by rw [← tim_inB]; exact hno
  generalize decide (OkBox l last) = B at hR hno'
  clear hr hno
  obtain ⟨b2, hn⟩ : ∃ b, inB 1 order = b := ⟨_, rfl⟩
  obtain ⟨b3, ht⟩ : ∃ b, inB 0 now = b := ⟨_, rfl⟩
  rw [hn, ht] at hno'
  have hcase : B = false ∨ (B = true ∧ decide (kind < 1) = true) ∨ (B = true ∧ decide (kind < 1) = false ∧ decide (3 < kind) = true) ∨ (B = true ∧ decide (kind < 1) = false ∧ decide (3 < kind) = false ∧ b2 = false) ∨ (B = true ∧ decide (kind < 1) = false ∧ decide (3 < kind) = false ∧ b2 = true ∧ b3 = false) := by
    by_cases h1 : 1 ≤ kind <;> by_cases h3 : kind ≤ 3 <;> cases B <;> cases b2 <;> cases b3 <;> simp [h1, h3] at hno' ⊢ <;> omega
  have c2 := Lib.hid (fun W => hn ▸ rInB order 1 W)
  have c3 := Lib.hid (fun W => ht ▸ rInB now 0 W)
  clear hn ht hno'
  have hb0 := Below.refl w.heap.size w
  rcases hcase with rfl | ⟨rfl, k1⟩ | ⟨rfl, k1, k2⟩ | ⟨rfl, k1, k2, rfl⟩ | ⟨rfl, k1, k2, rfl, rfl⟩
  all_goals
    go_enter Try.func35, Try.ntmps35
    go_wp2_with fail
    refine (hR.out _ ((hb0.alloc (Nat.le_refl _) _).alloc (by simp) _)).mono ?_
    rintro e w1 ⟨rfl, hb1⟩
    have hs1 := hb1.size
    simp at hs1
    have hs1a : w.heap.size < w1.heap.size := by omega
    have hs1b : w.heap.size + 1 < w1.heap.size := by omega
    have hbw := below_then ((hb0.alloc (Nat.le_refl _) _).alloc (by simp) _) (by simp; omega) hb1
    have rc0 : w1.cell? ⟨w.heap.size + 1, 0, none⟩ = some (.int .i64 0) := cell_below hb1 (by simp [go_sem, *])
    have rf0 : w1.frozen? ⟨w.heap.size + 1, 0, none⟩ = false := frozen_below hb1 (by simp; try omega) (by simp [go_sem, *])
    have rc1 : w1.cell? ⟨w.heap.size + 1, 1, none⟩ = some (.slice none 0 0) := cell_below hb1 (by simp [go_sem, *])
    have rf1 : w1.frozen? ⟨w.heap.size + 1, 1, none⟩ = false := frozen_below hb1 (by simp; try omega) (by simp [go_sem, *])
    have rc2 : w1.cell? ⟨w.heap.size + 1, 2, none⟩ = some (.int .i64 0) := cell_below hb1 (by simp [go_sem, *])
    have rf2 : w1.frozen? ⟨w.heap.size + 1, 2, none⟩ = false := frozen_below hb1 (by simp; try omega) (by simp [go_sem, *])
    have rc3 : w1.cell? ⟨w.heap.size + 1, 3, none⟩ = some (.int .i64 0) := cell_below hb1 (by simp [go_sem, *])
    have rf3 : w1.frozen? ⟨w.heap.size + 1, 3, none⟩ = false := frozen_below hb1 (by simp; try omega) (by simp [go_sem, *])
    clear hb1 hs1
    go_wp2_with fail
    try (refine (c2.out _).mono ?_; rintro e w2 ⟨rfl, rfl⟩; go_wp2_with fail)
    try (refine (c3.out _).mono ?_; rintro e w2 ⟨rfl, rfl⟩; go_wp2_with fail)
    refine bodyPost_ret (v := .agg #[.int .i64 0, .slice none 0 0, .int .i64 0, .int .i64 1]) (by simp [results, Try.results35, go_sem, *]) rfl ⟨rfl, ?_⟩
    ((repeat (first | with_reducible exact hbw | with_reducible refine Below.drew ?_ | with_reducible refine Below.alloc ?_ ?_ _ | with_reducible refine Below.setCell ?_ ?_ _)); all_goals first | omega | (simp; done) | (simp; omega))

theorem field600 (o : O) (W : World) : (Instr.field 60 (.agg #[.int .i64 o.key, .int .i64 o.kind, .int .i64 o.order, .int .i64 o.due]) 0).run Try.prog W = .ok (.int .i64 o.key) W := by
  kernel_rfl
def newO (last kind order now : Int) : O := ⟨last + 1, kind, order, now⟩
def RPutPost (l : List O) (last kind order now : Int) (w : World) (e : Ending) (w' : World) : Prop :=
  (if 0 ≤ idx l (sameKO kind order) then e = .returned (.agg #[.int .i64 0, .slice none 0 0, .int .i64 0, .int .i64 9])
    else if l.length = 96 ∨ last = 1099511627776 then e = .returned (.agg #[.int .i64 0, .slice none 0 0, .int .i64 0, .int .i64 7])
    else ∃ A' c', e = .returned (.agg #[.int .i64 (last + 1), .slice A' (l.length + 1) c', .int .i64 (last + 1), .int .i64 0]) ∧ l.length + 1 ≤ c' ∧
      Reads w' (fun k => w.heap.size ≤ k) 4 A' (l.length + 1) ((l ++ [newO last kind order now]).flatMap O.c)) ∧ Below w.heap.size w w'
set_option maxRecDepth 100000 in
set_option maxHeartbeats 3200000 in
theorem rPut (A : Option Addr) (l : List O) (c : Nat) (last kind order now : Int) (w : World) (ok : Nat → Prop) (hr : Reads w ok 4 A l.length (l.flatMap O.c)) (hlc : l.length ≤ c) (hyes : okPut l last kind order now = true) :
    Calls Try.prog 35 #[.agg #[.int .i64 last, .slice A l.length c], .int .i64 kind, .int .i64 order, .int .i64 now] w (RPutPost l last kind order now w) := by
  have h4 : OkBox l last ∧ (1 ≤ kind ∧ kind ≤ 3) ∧ inB 1 order = true ∧ inB 0 now = true := by
    rw [← tim_inB]
    simpa [okPut, and_assoc, knd, num_inB] using hyes
  obtain ⟨hbox, ⟨hk1, hk2⟩, hn, ht⟩ := h4
  have hll : l.length < 4611686018427387904 := by have := hbox.2.2.1; omega
  have hR := fun W (h : Below w.heap.size w W) => rRight A l c last W ok (hr.below h) hlc hll
  rw [decide_eq_true hbox] at hR
  replace hR := Lib.hid hR
  have hfi := find_idx l last kind order hbox
  have hl96 := hbox.2.2.1
  have htl := hbox.2.2.2.1
  have hlast : 0 ≤ last ∧ last ≤ 1099511627776 := by simp [tim, num] at htl; omega
  have c2 := Lib.hid (fun W => hn ▸ rInB order 1 W)
  have c3 := Lib.hid (fun W => ht ▸ rInB now 0 W)
  have hF := fun W (h : Below w.heap.size w W) => rFind A l c last kind order W ok (hr.below h) hll
  generalize findO l (sameKO kind order) = fo at hF hfi
  unfold ov at hF
  replace hF := Lib.hid hF
  have k1 : decide (kind < 1) = false := by simp; omega
  have k2 : decide (3 < kind) = false := by simp; omega
  have hrW := fun W (h : Below w.heap.size w W) => (hr.below h)
  replace hrW := Lib.hid hrW
  clear hyes hbox hn ht htl hr hk1 hk2
  obtain ⟨i0, hi0, hz00, hz01, hz02⟩ := info_parts info60
  have hb0 := Below.refl w.heap.size w
  go_enter Try.func35, Try.ntmps35
  go_wp2_with fail
  refine (hR.out _ ((hb0.alloc (Nat.le_refl _) _).alloc (by simp) _)).mono ?_
  rintro e w1 ⟨rfl, hb1⟩
  have hs1 := hb1.size
  simp at hs1
  have hs1a : w.heap.size < w1.heap.size := by omega
  have hs1b : w.heap.size + 1 < w1.heap.size := by omega
  have hbw := below_then ((hb0.alloc (Nat.le_refl _) _).alloc (by simp) _) (by simp; omega) hb1
  have ac0 : w1.cell? ⟨w.heap.size, 0, none⟩ = some (.int .i64 last) := cell_below hb1 (by simp [go_sem, *])
  have af0 : w1.frozen? ⟨w.heap.size, 0, none⟩ = false := frozen_below hb1 (by simp; try omega) (by simp [go_sem, *])
  have ac1 : w1.cell? ⟨w.heap.size, 1, none⟩ = some (.slice A l.length c) := cell_below hb1 (by simp [go_sem, *])
  have af1 : w1.frozen? ⟨w.heap.size, 1, none⟩ = false := frozen_below hb1 (by simp; try omega) (by simp [go_sem, *])
  have rc0 : w1.cell? ⟨w.heap.size + 1, 0, none⟩ = some (.int .i64 0) := cell_below hb1 (by simp [go_sem, *])
  have rf0 : w1.frozen? ⟨w.heap.size + 1, 0, none⟩ = false := frozen_below hb1 (by simp; try omega) (by simp [go_sem, *])
  have rc1 : w1.cell? ⟨w.heap.size + 1, 1, none⟩ = some (.slice none 0 0) := cell_below hb1 (by simp [go_sem, *])
  have rf1 : w1.frozen? ⟨w.heap.size + 1, 1, none⟩ = false := frozen_below hb1 (by simp; try omega) (by simp [go_sem, *])
  have rc2 : w1.cell? ⟨w.heap.size + 1, 2, none⟩ = some (.int .i64 0) := cell_below hb1 (by simp [go_sem, *])
  have rf2 : w1.frozen? ⟨w.heap.size + 1, 2, none⟩ = false := frozen_below hb1 (by simp; try omega) (by simp [go_sem, *])
  have rc3 : w1.cell? ⟨w.heap.size + 1, 3, none⟩ = some (.int .i64 0) := cell_below hb1 (by simp [go_sem, *])
  have rf3 : w1.frozen? ⟨w.heap.size + 1, 3, none⟩ = false := frozen_below hb1 (by simp; try omega) (by simp [go_sem, *])
  clear hb1 hs1
  go_wp2_with fail
  refine (c2.out _).mono ?_
  rintro e w2 ⟨rfl, rfl⟩
  go_wp2_with fail
  refine (c3.out _).mono ?_
  rintro e w2 ⟨rfl, rfl⟩
  go_wp2_with fail
  refine (hF.out _ hbw).mono ?_
  rintro e w2 ⟨rfl, hb2⟩
  replace af0 := frozen_at hb2 ac0 af0
  replace ac0 := cell_below hb2 ac0
  replace af1 := frozen_at hb2 ac1 af1
  replace ac1 := cell_below hb2 ac1
  replace rf0 := frozen_at hb2 rc0 rf0
  replace rc0 := cell_below hb2 rc0
  replace rf1 := frozen_at hb2 rc1 rf1
  replace rc1 := cell_below hb2 rc1
  replace rf2 := frozen_at hb2 rc2 rf2
  replace rc2 := cell_below hb2 rc2
  replace rf3 := frozen_at hb2 rc3 rf3
  replace rc3 := cell_below hb2 rc3
  have hs2 := hb2.size
  have hs2a : w.heap.size < w2.heap.size := by omega
  have hs2b : w.heap.size + 1 < w2.heap.size := by omega
  have hbw2 := below_then hbw (by omega) hb2
  clear hb2 hbw
  have hfld := field600 fo
  by_cases hi : 0 ≤ idx l (sameKO kind order)
  · have hq : decide (0 < fo.key) = true := by simp [hfi, hi]
    replace hi := Lib.hid hi
    replace hfi := Lib.hid hfi
    go_wp2_with fail
    refine bodyPost_ret (v := .agg #[.int .i64 0, .slice none 0 0, .int .i64 0, .int .i64 9]) (by simp [results, Try.results35, go_sem, *]) rfl ⟨by rw [if_pos hi.out], ?_⟩
    ((repeat (first | with_reducible exact hbw2 | with_reducible refine Below.drew ?_ | with_reducible refine Below.alloc ?_ ?_ _ | with_reducible refine Below.setCell ?_ ?_ _)); all_goals first | omega | (simp; done) | (simp; omega))
  · have hq : decide (0 < fo.key) = false := by simp [hfi, hi]
    replace hi := Lib.hid hi
    replace hfi := Lib.hid hfi
    by_cases hf : l.length = 96 ∨ last = 1099511627776
    · have hz : ((l.length : Int) == 96) = true ∨ (((l.length : Int) == 96) = false ∧ (last == 1099511627776) = true) := by
        by_cases e : l.length = 96
        · left; simp [e]
        · right; exact ⟨by simp; omega, by simp; omega⟩
      replace hf := Lib.hid hf
      rcases hz with hz | ⟨hz, hz2⟩
      all_goals
        go_wp2_with fail
        refine bodyPost_ret (v := .agg #[.int .i64 0, .slice none 0 0, .int .i64 0, .int .i64 7]) (by simp [results, Try.results35, go_sem, *]) rfl ⟨by rw [if_neg (by have := hi.out; omega), if_pos hf.out], ?_⟩
        ((repeat (first | with_reducible exact hbw2 | with_reducible refine Below.drew ?_ | with_reducible refine Below.alloc ?_ ?_ _ | with_reducible refine Below.setCell ?_ ?_ _)); all_goals first | omega | (simp; done) | (simp; omega))
    · have hz1 : ((l.length : Int) == 96) = false := by simp; omega
      have hz2 : (last == 1099511627776) = false := by simp; omega
      replace hf := Lib.hid hf
      have hrX := Lib.hid ((hrW.out _ hbw2).alloc (.cells #[.int .i64 (last + 1), .slice none 0 0] 53))
      go_wp2_with (first
                 | (at_builtin; refine wpList_append_reads _ rfl (.tmp 54) (.tmp 56) 51 rfl (w2.heap.size + 1) 60 i0 _ 4 32 Try.underlying51 hi0 hz00 hz01 hz02 rfl (by omega) (.slice none 0 0) 0 [] rfl (World.ownsRow_nil _ _ _ _) A l.length c _ _ rfl hrX.out (flat_one O.c o_one l) (by simp only [maxLen]; omega) (by omega) (by simp) ?_; intro A3 c3' w3 hown3 hgr3
                    rw [Nat.zero_add, List.nil_append] at hown3
                    have hE : Holds (w2.alloc (.cells #[.int .i64 (last + 1), .slice none 0 0] 53)) [(⟨w2.heap.size, 0, none⟩, .int .i64 (last + 1)), (⟨w2.heap.size, 1, none⟩, .slice none 0 0), (⟨w.heap.size + 1, 0, none⟩, .int .i64 0), (⟨w.heap.size + 1, 1, none⟩, .slice none 0 0), (⟨w.heap.size + 1, 2, none⟩, .int .i64 0), (⟨w.heap.size + 1, 3, none⟩, .int .i64 0)] :=
                      .cons (by simp [go_sem]) (by simp [go_sem]) (.cons (by simp [go_sem]) (by simp [go_sem]) (.cons (by simp [go_sem, *]) (by simp [go_sem, *]) (.cons (by simp [go_sem, *]) (by simp [go_sem, *]) (.cons (by simp [go_sem, *]) (by simp [go_sem, *]) (.cons (by simp [go_sem, *]) (by simp [go_sem, *]) (.nil _))))))
                    have hE3 := hE.grown hgr3 (fun p _ => by simp [Value.ownBlock])
                    clear rc0 rc1 rc2 rc3 rf0 rf1 rf2 rf3
                    obtain ⟨oc0, of0⟩ := hE3.one
                    obtain ⟨oc1, of1⟩ := hE3.tail.one
                    obtain ⟨rc0, rf0⟩ := hE3.tail.tail.one
                    obtain ⟨rc1, rf1⟩ := hE3.tail.tail.tail.one
                    obtain ⟨rc2, rf2⟩ := hE3.tail.tail.tail.tail.one
                    obtain ⟨rc3, rf3⟩ := hE3.tail.tail.tail.tail.tail.one
                    have hs3 : w2.heap.size + 1 ≤ w3.heap.size := by have := hgr3.size; simpa using this
                    have hb3 : Below w.heap.size w w3 := (hbw2.alloc (by omega) _).grown hgr3 (by simp; omega) (by simp [Value.ownBlock])
                    have ac3 : w3.cell? ⟨w.heap.size, 1, none⟩ = some (.slice A l.length c) := (World.cell?_of_block (hgr3.block _ (by simp; omega) (by simp [Value.ownBlock]))).trans (by simp [go_sem, *])
                    have hown4 := Lib.hid (((own_set (q := ⟨w2.heap.size, 1, none⟩) hown3 (by dsimp only; omega) (.slice A3 l.length c3')).alloc (.cells #[.int .i64 (last + 1), .int .i64 kind, .int .i64 order, .int .i64 now] 60)))
                    have hnw := Lib.hid (reads_new (W := w3.setCell ⟨w2.heap.size, 1, none⟩ (.slice A3 l.length c3')) (size := 4) (n := 1) (g := w3.heap.size) (cs := #[.int .i64 (last + 1), .int .i64 kind, .int .i64 order, .int .i64 now]) (t := 60) (by simp) rfl)
                    have hs3a : w2.heap.size < w3.heap.size := by omega
                    have hs3b : w.heap.size + 1 < w3.heap.size := by omega
                    have hne1 : w2.heap.size ≠ w.heap.size + 1 := by omega
                    have hne2 : w.heap.size + 1 ≠ w2.heap.size := by omega
                    have hE4 : Holds ((w3.setCell ⟨w2.heap.size, 1, none⟩ (.slice A3 l.length c3')).alloc (.cells #[.int .i64 (last + 1), .int .i64 kind, .int .i64 order, .int .i64 now] 60)) [(⟨w2.heap.size, 0, none⟩, .int .i64 (last + 1)), (⟨w2.heap.size, 1, none⟩, .slice A3 l.length c3'), (⟨w.heap.size + 1, 0, none⟩, .int .i64 0), (⟨w.heap.size + 1, 1, none⟩, .slice none 0 0), (⟨w.heap.size + 1, 2, none⟩, .int .i64 0), (⟨w.heap.size + 1, 3, none⟩, .int .i64 0)] :=
                      .cons (by simp [go_sem, *]) (by simp [go_sem, *]) (.cons (by simp [go_sem, *]) (by simp [go_sem, *]) (.cons (by simp [go_sem, *]) (by simp [go_sem, *]) (.cons (by simp [go_sem, *]) (by simp [go_sem, *]) (.cons (by simp [go_sem, *]) (by simp [go_sem, *]) (.cons (by simp [go_sem, *]) (by simp [go_sem, *]) (.nil _))))))
                    replace hE4 := Lib.hid hE4
                    replace hown3 := Lib.hid hown3
                    clear hE hE3)
                 | (at_builtin; refine wpList_append_reads _ rfl (.tmp 60) (.tmp 67) 51 rfl (w2.heap.size + 1) 60 i0 _ 4 32 Try.underlying51 hi0 hz00 hz01 hz02 rfl (by omega) (.slice A3 l.length c3') l.length (l.flatMap O.c) rfl hown4.out (some ⟨w3.heap.size, 0, none⟩) 1 1 (O.c (newO last kind order now)) _ rfl hnw.out (o_one _) (by simp only [maxLen]; omega) (by omega) (by simp; omega) ?_; intro A5 c5 w5 hown5 hgr5
                    have hE5 := hE4.out.grown hgr5 (fun p hp => own_far hown4.out (by simp at hp; rcases hp with rfl | rfl | rfl | rfl | rfl | rfl <;> (dsimp only; omega)))
                    obtain ⟨uc0, uf0⟩ := hE5.one
                    obtain ⟨uc1, uf1⟩ := hE5.tail.one
                    obtain ⟨sc0, sf0⟩ := hE5.tail.tail.one
                    obtain ⟨sc1, sf1⟩ := hE5.tail.tail.tail.one
                    obtain ⟨sc2, sf2⟩ := hE5.tail.tail.tail.tail.one
                    obtain ⟨sc3, sf3⟩ := hE5.tail.tail.tail.tail.tail.one
                    have hs5 : w3.heap.size + 1 ≤ w5.heap.size := by have := hgr5.size; simpa using this
                    have hb5 : Below w.heap.size w w5 := (((hb3.setCell (p := ⟨w2.heap.size, 1, none⟩) (by dsimp only; omega) _).alloc (by simp; omega) _).grown hgr5 (by simp; omega) (fun k e => by have := (hown4.out.lt k e).1; omega))
                    replace hown5 := Lib.hid hown5
                    clear hE5))
      obtain ⟨_, c6, e6, hc6, _⟩ := own_read hown5.out
      injection e6 with e61 e62 e63
      subst e63
      clear e61 e62
      have hfl : (l ++ [newO last kind order now]).flatMap O.c = l.flatMap O.c ++ O.c (newO last kind order now) := by simp
      refine bodyPost_ret (v := .agg #[.int .i64 (last + 1), .slice A5 (l.length + 1) c5, .int .i64 (last + 1), .int .i64 0]) (by simp [results, Try.results35, go_sem, *]) rfl ⟨?_, ?_⟩
      · rw [if_neg (by have := hi.out; omega), if_neg hf.out]
        refine ⟨A5, c5, rfl, hc6, ?_⟩
        rw [hfl]
        refine Reads.mono (ok := fun k => w2.heap.size + 1 ≤ k) ?_ (fun k hk => by omega)
        have hrd := Reads.of_own hown5.out
        repeat (first | with_reducible exact hrd | with_reducible refine Reads.drew ?_ | with_reducible refine Reads.far ?_ ?_ _)
        all_goals (intro k hk; dsimp only; omega)
      · ((repeat (first | with_reducible exact hb5 | with_reducible refine Below.drew ?_ | with_reducible refine Below.alloc ?_ ?_ _ | with_reducible refine Below.setCell ?_ ?_ _)); all_goals first | omega | (simp; done) | (simp; omega))
end Go.Proofs.Ytejdmefiobgcdaa
