import Derived.Test.YtejdmefiobgcdaaOutn
namespace Go.Proofs.Ytejdmefiobgcdaa
open Go.RowKit Go.Proofs

def inB (m n : Int) : Bool := decide (m ≤ n) && decide (n ≤ 1099511627776)
theorem rInB (n m : Int) (w : World) : Calls Try.prog 90 #[.int .i64 n, .int .i64 m] w fun e w' => e = .returned (.bool (inB m n)) ∧ w = w' := rIn n m w
theorem num_inB (n : Int) : num n = inB 1 n := rfl
theorem tim_inB (n : Int) : tim n = inB 0 n := tim_in n

def goodO (last : Int) (o : O) : Bool := mayO o && decide (o.key ≤ last)
/-- What the reference has seen of the first k rows. -/
structure Seen (l : List O) (last : Int) (k : Nat) : Prop where
  good : ∀ o ∈ l.take k, goodO last o = true
  rel : (l.take k).Pairwise Rel
theorem Seen.zero (l : List O) (last : Int) : Seen l last 0 := ⟨by simp, by simp⟩
theorem Seen.succ {l : List O} {last : Int} {k : Nat} {o : O} (h : Seen l last k) (ho : l[k]? = some o) (hg : goodO last o = true) (hr : ∀ x ∈ l.take k, Rel x o) : Seen l last (k + 1) := by
  refine ⟨fun x hx => ?_, ?_⟩
  · rw [take_snoc' ho] at hx
    rcases List.mem_append.1 hx with h' | h'
    · exact h.good x h'
    · simp at h'; rw [h']; exact hg
  · rw [take_snoc' ho]
    exact List.pairwise_append.2 ⟨h.rel, by simp, fun x hx y hy => by simp at hy; subst hy; exact hr x hx⟩
theorem seen_bad {l : List O} {last : Int} {k : Nat} {o : O} (ho : l[k]? = some o) (hg : goodO last o = false) : ¬ OkBox l last := fun e => by
  have h1 := e.1 o (List.mem_of_getElem? ho)
  have h2 := e.2.2.2.2 o (List.mem_of_getElem? ho)
  simp [goodO, h1, h2] at hg
theorem seen_rel {l : List O} {last : Int} {k j : Nat} {x o : O} (ho : l[k]? = some o) (hx : l[j]? = some x) (hj : j < k) (h : ¬ Rel x o) : ¬ OkBox l last := fun e => h (rel_of e.2.1 hx ho hj)
theorem Seen.all {l : List O} {last : Int} (h : Seen l last l.length) : OkBox l last ↔ (l.length ≤ 96 ∧ tim last = true) := by
  have hg := h.good
  have hr := h.rel
  rw [List.take_length] at hg hr
  constructor
  · rintro ⟨_, _, h3, h4, _⟩
    exact ⟨h3, h4⟩
  · rintro ⟨h3, h4⟩
    refine ⟨fun o ho => ?_, hr, h3, h4, fun o ho => ?_⟩
    · have := hg o ho; simp [goodO] at this; exact this.1
    · have := hg o ho; simp [goodO] at this; exact this.2

set_option maxRecDepth 100000 in
set_option maxHeartbeats 3200000 in
theorem rRight (A : Option Addr) (l : List O) (c : Nat) (last : Int) (w : World) (ok : Nat → Prop) (hr : Reads w ok 4 A l.length (l.flatMap O.c)) (hlc : l.length ≤ c) (hll : l.length < 4611686018427387904) :
    Calls Try.prog 36 #[.agg #[.int .i64 last, .slice A l.length c]] w fun e w' => e = .returned (.bool (decide (OkBox l last))) ∧ Below w.heap.size w w' := by
  obtain ⟨R, hR⟩ : ∃ R, R = decide (OkBox l last) := ⟨_, rfl⟩
  rw [← hR]
  replace hR := Lib.hid hR
  go_enter Try.func36, Try.ntmps36
  go_wp2_with fail
  go_loopw [10] (fun v10 wr => ∃ (k : Nat), v10 = .int .i64 k ∧ k ≤ l.length ∧ Hid (Seen l last k) ∧ Below (w.heap.size + 1) (w.alloc (.cells #[.int .i64 last, .slice A l.length c] 53)) wr) (fun v10 _ => l.length - (intOf v10).toNat)
  case atStart => exact ⟨0, rfl, by omega, Lib.hid (Seen.zero _ _), Below.refl _ _⟩
  case round =>
    obtain ⟨k, rfl, hk, hah, hb⟩ := hrel
    obtain ⟨wq, hwq⟩ : ∃ wq, wq = wr := ⟨_, rfl⟩
    subst hwq
    have hb0 := below_old hb
    have hn0 := below_new hb 0
    have hn1 := below_new hb 1
    have hsz := hb.size
    simp at hn0 hn1 hsz
    have hsz' : w.heap.size < wq.heap.size := by omega
    by_cases hlt : k < l.length
    · obtain ⟨o, ho⟩ : ∃ o, l[k]? = some o := ⟨_, List.getElem?_eq_getElem hlt⟩
      obtain ⟨b, of, rfl, hbl, _, hc⟩ := (hr.below hb0).elem O.len (by omega) k o ho
      have hc0 := hc 0 _ rfl
      have hc1 := hc 1 _ rfl
      have hc2 := hc 2 _ rfl
      have hc3 := hc 3 _ rfl
      clear hc
      simp only [Nat.add_zero] at hc0
      have hm : goodO last o = (inB 1 o.key && inB 1 o.order && knd o.kind && inB 0 o.due && decide (o.key ≤ last)) := by rw [← tim_inB]; rfl
      have hkn : knd o.kind = (decide (1 ≤ o.kind) && decide (o.kind ≤ 3)) := rfl
      rw [hkn] at hm
      clear hkn
      go_upto_region 4 with fail
      (try simp only [Act.put, List.setIfInBounds_toArray, List.set_cons_zero, List.set_cons_succ])
      go_cut [47] (fun v47 wc => v47 = .bool (!goodO last o) ∧ wc = wq.alloc (.cells #[.int .i64 o.key, .int .i64 o.kind, .int .i64 o.order, .int .i64 o.due] 60))
      case first =>
        go_wp2_with (go_at_call 90; refine (rInB _ _ _).mono ?_; rintro e w' ⟨rfl, rfl⟩)
        all_goals
          go_meet
          case rel => exact ⟨by simp only [hm]; rw [Value.bool.injEq, Bool.eq_iff_iff]; simp [*]; try omega, rfl⟩
      case rest =>
        obtain ⟨rfl, rfl⟩ := hcut
        clear hm
        cases hg : goodO last o with
        | false =>
          have hbad := Lib.hid (seen_bad (last := last) ho hg)
          simp only [Bool.not_false]
          replace ho := Lib.hid ho
          go_wp2_with fail
          go_ret
          refine ⟨by rw [hR.out, decide_eq_false hbad.out]; rfl, ?_⟩
          ((repeat (first | with_reducible exact hb0 | with_reducible refine Below.drew ?_ | with_reducible refine Below.alloc ?_ ?_ _ | with_reducible refine Below.setCell ?_ ?_ _)); all_goals first | omega | (simp; done) | (simp; omega))
        | true =>
          simp only [Bool.not_true]
          have hcut2 := run_head elem51 size60 (some ⟨b, of, none⟩) l.length c k (by omega) .i64 (k : Int) rfl
          obtain ⟨wo, hwo⟩ : ∃ wo : World, wo = wq.alloc (.cells #[.int .i64 o.key, .int .i64 o.kind, .int .i64 o.order, .int .i64 o.due] 60) := ⟨_, rfl⟩
          have oc0 : wo.cell? ⟨wq.heap.size, 0, none⟩ = some (.int .i64 o.key) := by rw [hwo]; simp [go_sem]
          have oc1 : wo.cell? ⟨wq.heap.size, 1, none⟩ = some (.int .i64 o.kind) := by rw [hwo]; simp [go_sem]
          have oc2 : wo.cell? ⟨wq.heap.size, 2, none⟩ = some (.int .i64 o.order) := by rw [hwo]; simp [go_sem]
          have ob1 : wo.cell? ⟨w.heap.size, 1, none⟩ = some (.slice (some ⟨b, of, none⟩) l.length c) := by rw [hwo]; simp [go_sem, *]
          have hbo : Below (w.heap.size + 1) (w.alloc (.cells #[.int .i64 last, .slice (some ⟨b, of, none⟩) l.length c] 53)) wo := by rw [hwo]; exact hb.alloc (by omega) _
          rw [← hwo]
          have hso : wo.heap.size = wq.heap.size + 1 := by rw [hwo]; simp
          clear hwo hn0 hn1
          have hso1 : wq.heap.size < wo.heap.size := by omega
          have hso2 : w.heap.size < wo.heap.size := by omega
          clear hso
          replace ho := Lib.hid ho
          replace hg := Lib.hid hg
          go_wp2_with fail
          go_loopw [53] (fun v53 wi => ∃ (j : Nat), v53 = .int .i64 j ∧ j ≤ k ∧ Hid (∀ x ∈ l.take j, Rel x o) ∧ Below wo.heap.size wo wi) (fun v53 _ => k - (intOf v53).toNat)
          case atStart => exact ⟨0, rfl, by omega, Lib.hid (by intro x hx; simp at hx), Below.refl _ _⟩
          case round =>
            obtain ⟨j, rfl, hj, hall, hbi⟩ := hrel
            have hsi := hbi.size
            have ic0 := cell_below hbi oc0
            have ic1 := cell_below hbi oc1
            have ic2 := cell_below hbi oc2
            have hsi2 : wq.heap.size < wr.heap.size := by omega
            by_cases hjk : j < k
            · obtain ⟨x, hx⟩ : ∃ o, l[j]? = some o := ⟨_, List.getElem?_eq_getElem (by omega)⟩
              obtain ⟨b2, of2, he2, hbl2, _, hd⟩ := (hr.below ((below_old hbo).trans (hbi.mono (by omega)))).elem O.len (by omega) j x hx
              cases he2
              have hd0 := hd 0 _ rfl
              have hd1 := hd 1 _ rfl
              have hd2 := hd 2 _ rfl
              have hd3 := hd 3 _ rfl
              clear hd
              simp only [Nat.add_zero] at hd0
              by_cases hrx : Rel x o
              · have hall2 := Lib.hid (show ∀ y ∈ l.take (j + 1), Rel y o from fun y hy => by
                  rw [take_snoc' hx] at hy
                  rcases List.mem_append.1 hy with h | h
                  · exact hall.out y h
                  · simp at h; rw [h]; exact hrx)
                have hk1 : decide (o.key ≤ x.key) = false := by have := hrx.1; simp; omega
                have hk2 : (x.kind == o.kind) = false ∨ ((x.kind == o.kind) = true ∧ (x.order == o.order) = false) := by
                  have := hrx.2
                  by_cases h : x.kind = o.kind
                  · right; simp [h] at this ⊢; exact this
                  · left; simp [h]
                replace hx := Lib.hid hx
                replace hrx := Lib.hid hrx
                rcases hk2 with hk2 | ⟨hk2, hk3⟩
                all_goals
                  go_wp2_with fail
                  go_roundw
                  case rel => exact ⟨j + 1, by go_num, by omega, hall2, hbi.alloc hsi _⟩
                  case measure => simp [intOf]; omega
              · have hbad := Lib.hid (seen_rel (last := last) ho.out hx hjk hrx)
                have hk1 : decide (o.key ≤ x.key) = true ∨ (decide (o.key ≤ x.key) = false ∧ (x.kind == o.kind) = true ∧ (x.order == o.order) = true) := by
                  by_cases h : o.key ≤ x.key
                  · left; simp [h]
                  · right
                    have : x.kind = o.kind ∧ x.order = o.order := by
                      rcases Classical.em (x.kind = o.kind ∧ x.order = o.order) with h' | h'
                      · exact h'
                      · exact absurd ⟨by omega, h'⟩ hrx
                    simp [h, this.1, this.2]
                replace hx := Lib.hid hx
                replace hrx := Lib.hid hrx
                have hfin := (below_old hbo).trans (hbi.mono (by omega))
                rcases hk1 with hk1 | ⟨hk1, hk2, hk3⟩
                all_goals
                  go_wp2_with fail
                  go_ret
                  refine ⟨by rw [hR.out, decide_eq_false hbad.out]; rfl, ?_⟩
                  ((repeat (first | with_reducible exact hfin | with_reducible refine Below.drew ?_ | with_reducible refine Below.alloc ?_ ?_ _ | with_reducible refine Below.setCell ?_ ?_ _)); all_goals first | omega | (simp; done) | (simp; omega))
            · obtain rfl : j = k := by omega
              have hah2 := Lib.hid (hah.out.succ ho.out hg.out hall.out)
              go_wp2_with fail
              go_roundw
              case rel => exact ⟨j + 1, by go_num, by omega, hah2, hbo.trans (hbi.mono (by omega))⟩
              case measure => simp [intOf]; omega
    · have hk' : k = l.length := by omega
      subst hk'
      have hiff := Lib.hid hah.out.all
      rw [tim_inB] at hiff
      have go : ∀ B : Bool, (B = true ↔ (l.length ≤ 96 ∧ inB 0 last = true)) → B = R := fun B hB => by
        rw [hR.out, Bool.eq_iff_iff, hB, decide_eq_true_iff]
        exact hiff.out.symm
      replace go := Lib.hid go
      go_wp2_with (go_at_call 90; refine (rInB _ _ _).mono ?_; rintro e w' ⟨rfl, rfl⟩)
      all_goals
        go_ret
        refine ⟨?_, hb0⟩
        refine congrArg (fun b => Ending.returned (Value.bool b)) (go.out _ ?_)
        simp [*]
        try omega
end Go.Proofs.Ytejdmefiobgcdaa
