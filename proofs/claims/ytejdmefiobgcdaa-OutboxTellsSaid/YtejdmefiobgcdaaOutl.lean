import Derived.Test.YtejdmefiobgcdaaOutk
namespace Go.Proofs.Ytejdmefiobgcdaa
open Go.RowKit Go.Proofs

set_option maxRecDepth 100000 in
set_option maxHeartbeats 1600000 in
theorem rGet (A : Option Addr) (l : List O) (c : Nat) (last key : Int) (w : World) (ok : Nat → Prop) (hr : Reads w ok 4 A l.length (l.flatMap O.c)) (hll : l.length < 4611686018427387904) :
    Calls Try.prog 42 #[.agg #[.int .i64 last, .slice A l.length c], .int .i64 key] w fun e w' => e = .returned (ov (findO l (sameKey key))) ∧ Below w.heap.size w w' := by
  go_enter Try.func42, Try.ntmps42
  go_wp2_with fail
  go_loopw [10] (fun v8 wr => ∃ (k : Nat), v8 = .int .i64 k ∧ k ≤ l.length ∧ Hid (∀ x ∈ l.take k, sameKey key x = false) ∧ Below (w.heap.size + 2) ((w.alloc (.cells #[.int .i64 last, .slice A l.length c] 53)).alloc (.cells #[.int .i64 0, .int .i64 0, .int .i64 0, .int .i64 0] 60)) wr) (fun v8 _ => l.length - (intOf v8).toNat)
  case atStart => exact ⟨0, rfl, by omega, Lib.hid (by intro x hx; simp at hx), Below.refl _ _⟩
  case round =>
    obtain ⟨k, rfl, hk, hall, hB⟩ := hrel
    have hs1 := hB.size
    simp at hs1
    have hs2 : w.heap.size + 1 < wr.heap.size := by omega
    have hB0 : Below w.heap.size w wr := (((Below.refl _ _).alloc (Nat.le_refl _) _).alloc (by simp) _).trans (hB.mono (by omega))
    have r0 : wr.cell? ⟨w.heap.size + 1, 0, none⟩ = some (.int .i64 0) := (hB.cell (by simp)).trans (by simp [go_sem])
    have r1 : wr.cell? ⟨w.heap.size + 1, 1, none⟩ = some (.int .i64 0) := (hB.cell (by simp)).trans (by simp [go_sem])
    have r2 : wr.cell? ⟨w.heap.size + 1, 2, none⟩ = some (.int .i64 0) := (hB.cell (by simp)).trans (by simp [go_sem])
    have r3 : wr.cell? ⟨w.heap.size + 1, 3, none⟩ = some (.int .i64 0) := (hB.cell (by simp)).trans (by simp [go_sem])
    have f0 : wr.frozen? ⟨w.heap.size + 1, 0, none⟩ = false := (hB.frozen (by simp)).trans (by simp [go_sem])
    have f1 : wr.frozen? ⟨w.heap.size + 1, 1, none⟩ = false := (hB.frozen (by simp)).trans (by simp [go_sem])
    have f2 : wr.frozen? ⟨w.heap.size + 1, 2, none⟩ = false := (hB.frozen (by simp)).trans (by simp [go_sem])
    have f3 : wr.frozen? ⟨w.heap.size + 1, 3, none⟩ = false := (hB.frozen (by simp)).trans (by simp [go_sem])
    by_cases hlt : k < l.length
    · obtain ⟨o, ho⟩ : ∃ o, l[k]? = some o := ⟨_, List.getElem?_eq_getElem hlt⟩
      obtain ⟨b, of, rfl, hbl, _, hc⟩ := (hr.below hB0).elem O.len (by omega) k o ho
      have hc0 := hc 0 _ rfl
      have hc1 := hc 1 _ rfl
      have hc2 := hc 2 _ rfl
      have hc3 := hc 3 _ rfl
      clear hc
      simp only [Nat.add_zero] at hc0
      by_cases hp : sameKey key o = true
      · have hR := Lib.hid (findO_at (f := sameKey key) hall.out ho hp)
        have hp1 : (o.key == key) = true := by simp [sameKey] at hp; simp [hp]
        replace ho := Lib.hid ho
        clear hp
        go_wp2_with fail
        refine bodyPost_ret (v := ov o) (by simp [results, Try.results42, go_sem, ov, *]) rfl ⟨by rw [hR.out], ?_⟩
        ((repeat (first | with_reducible exact hB0 | with_reducible refine Below.drew ?_ | with_reducible refine Below.alloc ?_ ?_ _ | with_reducible refine Below.setCell ?_ ?_ _)); all_goals first | omega | (simp; done) | (simp; omega))
      · have hp' : sameKey key o = false := by simpa using hp
        have hall2 := Lib.hid (show ∀ x ∈ l.take (k + 1), sameKey key x = false from fun x hx => by
          rw [List.take_add_one, ho] at hx
          rcases List.mem_append.1 hx with h | h
          · exact hall.out x h
          · simp at h
            rw [h]; exact hp')
        have hpp : (o.key == key) = false := by simp [sameKey] at hp'; simp [hp']
        replace ho := Lib.hid ho
        clear hp hp'
        go_wp2_with fail
        go_roundw
        case rel => exact ⟨k + 1, by go_num, by omega, hall2, hB.alloc (by omega) _⟩
        case measure => simp [intOf]; omega
    · have hR := Lib.hid (findO_none (l := l) (f := sameKey key) (by have := hall.out; rw [List.take_of_length_le (by omega)] at this; exact this))
      go_wp2_with fail
      refine bodyPost_ret (v := ov O0) (by simp [results, Try.results42, go_sem, ov, O0, *]) rfl ⟨by rw [hR.out], ?_⟩
      ((repeat (first | with_reducible exact hB0 | with_reducible refine Below.drew ?_ | with_reducible refine Below.alloc ?_ ?_ _ | with_reducible refine Below.setCell ?_ ?_ _)); all_goals first | omega | (simp; done) | (simp; omega))

theorem s60 : Try.prog.stoodInHeld 60 = false := by kernel_rfl
theorem f60 : Try.prog.fieldsOf 60 = #[{ name := "Key", type := 3, offset := 0, embedded := false, tag := "", pkgPath := "", byteOffset := 0 }, { name := "Kind", type := 3, offset := 1, embedded := false, tag := "", pkgPath := "", byteOffset := 8 }, { name := "Order", type := 3, offset := 2, embedded := false, tag := "", pkgPath := "", byteOffset := 16 }, { name := "Due", type := 3, offset := 3, embedded := false, tag := "", pkgPath := "", byteOffset := 24 }] := by kernel_rfl
theorem u60 : Try.prog.underlying 60 = some (.struct (Try.prog.fieldsOf 60)) := by rw [f60]; exact Try.underlying60
theorem sameEq (x y : O) (W : World) : (Op.equal 60 (ov x) (ov y)).run Try.prog W = .ok (decide (x = y)) W := by
  obtain ⟨a, b, c, d⟩ := x
  obtain ⟨a', b', c', d'⟩ := y
  unfold Op.equal Op.maxDepth ov
  rw [run_equalIn_struct (P := Try.prog) W 9999 60 _ _ u60 s60, f60]
  by_cases h0 : a = a' <;> by_cases h1 : b = b' <;> by_cases h2 : c = c' <;> by_cases h3 : d = d' <;> simp [Op.eqFields, go_sem, h0, h1, h2, h3]
theorem sameRun (x y : O) (W : World) : (binOp .neq 60 (ov x) (ov y)).run Try.prog W = .ok (.bool (!decide (x = y))) W := by
  have h := sameEq x y W
  unfold ov at h ⊢
  simp only [binOp]
  simp [h]
theorem eqRun (x y : O) (W : World) : (binOp .eql 60 (ov x) (ov y)).run Try.prog W = .ok (.bool (decide (x = y))) W := by
  have h := sameEq x y W
  unfold ov at h ⊢
  simp only [binOp]
  simp [h]
theorem list_differ {l m : List O} {k : Nat} {x y : O} (hx : l[k]? = some x) (hy : m[k]? = some y) (h : x ≠ y) : l ≠ m := by
  rintro rfl
  rw [hx] at hy
  cases hy
  exact h rfl
set_option maxRecDepth 100000 in
set_option maxHeartbeats 1600000 in
theorem rSame (A B : Option Addr) (l m : List O) (c d : Nat) (w : World) (ok ok' : Nat → Prop) (hr : Reads w ok 4 A l.length (l.flatMap O.c)) (hr' : Reads w ok' 4 B m.length (m.flatMap O.c)) (hll : l.length < 4611686018427387904) (hmm : m.length < 4611686018427387904) :
    Calls Try.prog 40 #[.slice A l.length c, .slice B m.length d] w fun e w' => e = .returned (.bool (decide (l = m))) ∧ Below w.heap.size w w' := by
  obtain ⟨R, hR⟩ : ∃ R, R = decide (l = m) := ⟨_, rfl⟩
  rw [← hR]
  replace hR := Lib.hid hR
  have hrun := fun x y W => sameRun x y W
  by_cases hlen : l.length = m.length
  · have hlen' : ((l.length : Int) != (m.length : Int)) = false := by simp [hlen]
    have hle : l.length ≤ m.length := by omega
    have hle2 : m.length ≤ l.length := by omega
    replace hlen := Lib.hid hlen
    go_enter Try.func40, Try.ntmps40
    go_wp2_with fail
    go_loopw [13] (fun v wr => ∃ (k : Nat), v = .int .i64 k ∧ k ≤ l.length ∧ Hid (l.take k = m.take k) ∧ Below w.heap.size w wr) (fun v _ => l.length - (intOf v).toNat)
    case atStart => exact ⟨0, rfl, by omega, Lib.hid rfl, Below.refl _ _⟩
    case round =>
      obtain ⟨k, rfl, hk, hall, hB⟩ := hrel
      by_cases hlt : k < l.length
      · obtain ⟨x, hx⟩ : ∃ o, l[k]? = some o := ⟨_, List.getElem?_eq_getElem hlt⟩
        obtain ⟨y, hy⟩ : ∃ o, m[k]? = some o := ⟨_, List.getElem?_eq_getElem (by omega)⟩
        obtain ⟨b, of, rfl, hbl, _, hc⟩ := (hr.below hB).elem O.len (by omega) k x hx
        have hc0 := hc 0 _ rfl
        have hc1 := hc 1 _ rfl
        have hc2 := hc 2 _ rfl
        have hc3 := hc 3 _ rfl
        obtain ⟨b', of', rfl, hbl', _, hd⟩ := (hr'.below hB).elem O.len (by omega) k y hy
        have hd0 := hd 0 _ rfl
        have hd1 := hd 1 _ rfl
        have hd2 := hd 2 _ rfl
        have hd3 := hd 3 _ rfl
        clear hc hd
        simp only [Nat.add_zero] at hc0 hd0
        have hm1 : (0 : Int) ≤ k := by omega
        have hm2 : (k : Int) < l.length := by omega
        have hm3 : (k : Int) < m.length := by omega
        have hxy := hrun x y
        simp only [ov] at hxy
        by_cases he : x = y
        · have hall2 := Lib.hid (show l.take (k + 1) = m.take (k + 1) by rw [List.take_add_one, List.take_add_one, hall.out, hx, hy, he])
          have hdx : (!decide (x = y)) = false := by simp [he]
          rw [hdx] at hxy
          clear hdx he
          replace hx := Lib.hid hx
          replace hy := Lib.hid hy
          go_wp2_with fail
          go_quiet (fail)
          go_wp2_with fail
          go_roundw
          case rel => exact ⟨k + 1, by go_num, by omega, hall2, below_drewN hB _⟩
          case measure => simp [intOf]; omega
        · have hdx : (!decide (x = y)) = true := by simp [he]
          rw [hdx] at hxy
          have hne := Lib.hid (list_differ hx hy he)
          clear hdx he
          replace hx := Lib.hid hx
          replace hy := Lib.hid hy
          go_wp2_with fail
          go_quiet (fail)
          go_wp2_with fail
          go_ret
          exact ⟨by rw [hR.out, decide_eq_false hne.out]; rfl, below_drewN hB _⟩
      · have hfin : l = m := by
          have := hall.out
          rwa [List.take_of_length_le (by omega), List.take_of_length_le (by omega)] at this
        replace hfin := Lib.hid hfin
        go_wp2_with fail
        go_ret
        exact ⟨by rw [hR.out, decide_eq_true hfin.out]; rfl, hB⟩
  · have hlen' : ((l.length : Int) != (m.length : Int)) = true := by simp; omega
    have hne : l ≠ m := fun e => hlen (by rw [e])
    replace hne := Lib.hid hne
    replace hlen := Lib.hid hlen
    go_enter Try.func40, Try.ntmps40
    go_wp2_with fail
    go_ret
    exact ⟨by rw [hR.out, decide_eq_false hne.out]; rfl, Below.refl _ _⟩
set_option maxRecDepth 100000 in
set_option maxHeartbeats 1600000 in
theorem rLike (A B : Option Addr) (l m : List O) (c d : Nat) (last last' : Int) (w : World) (ok ok' : Nat → Prop) (hr : Reads w ok 4 A l.length (l.flatMap O.c)) (hr' : Reads w ok' 4 B m.length (m.flatMap O.c)) (hll : l.length < 4611686018427387904) (hmm : m.length < 4611686018427387904) :
    Calls Try.prog 37 #[.agg #[.int .i64 last, .slice A l.length c], .agg #[.int .i64 last', .slice B m.length d]] w fun e w' => e = .returned (.bool (decide (last = last') && decide (l = m))) ∧ Below w.heap.size w w' := by
  have hS := Lib.hid (fun W (h : Below w.heap.size w W) => rSame A B l m c d W ok ok' (hr.below h) (hr'.below h) hll hmm)
  have hb0 := Below.refl w.heap.size w
  by_cases hl : last = last'
  · have h0 : (last == last') = true := by simp [hl]
    have h2 : decide (last = last') = true := by simp [hl]
    replace hl := Lib.hid hl
    replace h2 := Lib.hid h2
    go_enter Try.func37, Try.ntmps37
    go_wp2_with fail
    refine (hS.out _ ((hb0.alloc (Nat.le_refl _) _).alloc (by simp) _)).mono ?_
    rintro e w1 ⟨rfl, hb1⟩
    go_wp2_with fail
    go_ret
    exact ⟨by rw [h2.out]; rfl, below_then ((hb0.alloc (Nat.le_refl _) _).alloc (by simp) _) (by simp; omega) hb1⟩
  · have h0 : (last == last') = false := by simp [hl]
    have h2 : decide (last = last') = false := by simp [hl]
    replace hl := Lib.hid hl
    replace h2 := Lib.hid h2
    go_enter Try.func37, Try.ntmps37
    go_wp2_with fail
    go_ret
    exact ⟨by rw [h2.out]; rfl, (hb0.alloc (Nat.le_refl _) _).alloc (by simp) _⟩
end Go.Proofs.Ytejdmefiobgcdaa
