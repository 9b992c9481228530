import Derived.Test.YtejdmefiobgcdaaPackc
namespace Go.Proofs.Ytejdmefiobgcdaa
open Go.RowKit Go.Proofs

theorem size40 (w : World) : (sizeOf (Try.prog.elem 40)).run Try.prog w = .ok 1 w := by kernel_rfl

theorem enc64 : enc (zz 64) = [128, 1] := by
  have : zz 64 = 128 := by decide
  rw [this, enc, dif_neg (by omega), enc, dif_pos (by omega)]
  decide
theorem encm1 : enc (zz (-1)) = [1] := by
  have : zz (-1) = 1 := by decide
  rw [this, enc, dif_pos (by omega)]
  decide

-- the law's alive
set_option maxRecDepth 100000 in
theorem aliveP (w : World) : Calls Try.prog 52 #[] w fun e w' => e = .returned (.bool true) ∧ Below w.heap.size w w' := by
  have c1 : ∀ W, Calls Try.prog 55 #[.int .i64 64] W fun e w' => e = .returned (.tuple #[.string ⟨#[128, 1]⟩, .int .i64 0]) ∧ Below W.heap.size W w' := fun W => by
    have := numberP_yes 64 (by decide) W
    rw [enc64] at this
    exact this
  have c2 : ∀ W, Calls Try.prog 55 #[.int .i64 (-1)] W fun e w' => e = .returned (.tuple #[.string ⟨#[1]⟩, .int .i64 0]) ∧ Below W.heap.size W w' := fun W => by
    have := numberP_yes (-1) (by decide) W
    rw [encm1] at this
    exact this
  replace c1 := Lib.hid c1
  replace c2 := Lib.hid c2
  go_enter Try.func52, Try.ntmps52
  go_wp2_with fail
  refine (c1.out _).mono ?_
  rintro e w1 ⟨rfl, hb1⟩
  go_wp2_with fail
  refine (c2.out _).mono ?_
  rintro e w2 ⟨rfl, hb2⟩
  go_wp2_with fail
  go_ret
  exact ⟨rfl, below_then hb1 hb1.size hb2⟩

theorem flat_map1 {α β : Type} (f : α → β) : ∀ l : List α, (l.flatMap fun x => [f x]) = l.map f
  | [] => rfl
  | x :: l => by rw [List.flatMap_cons, flat_map1 f l]; rfl
theorem at1 {α : Type} {w : World} {ok : Nat → Prop} {A : Option Addr} {n : Nat} {enc : α → Value} {l : List α} (h : Reads w ok 1 A n (l.map enc)) (k : Nat) (x : α) (hx : l[k]? = some x) :
    ∃ b o, A = some ⟨b, o, none⟩ ∧ b < w.heap.size ∧ ok b ∧ w.cell? ⟨b, o + k, none⟩ = some (enc x) := by
  have hn : n = l.length := by simpa using h.1.symm
  subst hn
  have h' : Reads w ok 1 A l.length (l.flatMap fun x => [enc x]) := by
    rw [flat_map1]
    exact h
  obtain ⟨b, o, h1, h2, h3, h4⟩ := h'.elem (size := 1) (fun _ => rfl) (by omega) k x hx
  exact ⟨b, o, h1, h2, h3, by simpa using h4 0 _ rfl⟩

def fewL (l : List (List UInt8)) : List (List UInt8) := (l.take 258).map (·.take 4100)

-- the law's few
set_option maxRecDepth 100000 in
set_option maxHeartbeats 800000 in
theorem fewP (A : Option Addr) (l : List (List UInt8)) (c : Nat) (w : World) (hlc : l.length ≤ c) (ok : Nat → Prop) (hr : Reads w ok 1 A l.length (l.map str)) (hb : ∀ s ∈ l, s.length ≤ 9223372036854775807) (hll : l.length < 4611686018427387904) :
    Calls Try.prog 48 #[.slice A l.length c] w fun e w' => ∃ A' c', e = .returned (.slice A' (fewL l).length c') ∧ (fewL l).length ≤ c' ∧ Reads w' (fun k => w.heap.size ≤ k) 1 A' (fewL l).length ((fewL l).map str) ∧ Below w.heap.size w w' := by
  obtain ⟨i0, hi, hz0, hz1, hz2⟩ := info_parts info9
  obtain ⟨m, hm⟩ : ∃ m : Nat, (if (258 : Int) < (l.length : Int) then (258 : Int) else (l.length : Int)) = m := ⟨min l.length 258, by split <;> omega⟩
  have hm0 : m = min l.length 258 := by split at hm <;> omega
  have hcutL := run_head (P := Try.prog) Try.underlying40 size40 A l.length c m (by omega) .i64 m rfl
  have hrm : Reads w ok 1 A m ((l.take m).map str) := by simpa [List.map_take] using hr.take (m := m) (by omega)
  have hR : fewL l = (l.take m).map (·.take 4100) := by unfold fewL; rw [hm0]; congr 1; rw [List.take_eq_take_iff]; omega
  obtain ⟨F, hF⟩ : ∃ F, fewL l = F := ⟨_, rfl⟩
  rw [hF]
  have hF2 := Lib.hid (hR.symm.trans hF)
  replace hm0 := Lib.hid hm0
  clear hR hF
  go_enter Try.func48, Try.ntmps48
  go_wp2_with fail
  go_loopw [3, 12] (fun v3 v12 wr => ∃ (k : Nat), v12 = .int .i64 k ∧ k ≤ m ∧ wr.ownsRow w.heap.size 9 1 v3 k (((l.take k).map (·.take 4100)).map str) ∧ Below w.heap.size w wr) (fun _ v12 _ => m - (intOf v12).toNat)
  case atStart => exact ⟨0, rfl, by omega, World.ownsRow_nil _ _ _ _, Below.refl _ _⟩
  case round =>
    obtain ⟨k, rfl, hk, hown, hB⟩ := hrel
    have hs1 := hB.size
    by_cases hlt : k < m
    · obtain ⟨s, hs⟩ : ∃ s, (l.take m)[k]? = some s := ⟨_, List.getElem?_eq_getElem (by have := hrm.1; simp at this ⊢; omega)⟩
      obtain ⟨b, o, rfl, hbl, _, hcell⟩ := at1 (hrm.below hB) k s hs
      have hs' : l[k]? = some s := by rw [List.getElem?_take_of_lt hlt] at hs; exact hs
      have hsl := hb s (List.mem_of_getElem? hs')
      obtain ⟨j, hj⟩ : ∃ j : Nat, (if (4100 : Int) < (s.length : Int) then (4100 : Int) else (s.length : Int)) = j := ⟨min s.length 4100, by split <;> omega⟩
      have hj0 : j = min s.length 4100 := by split at hj <;> omega
      obtain ⟨t, ht⟩ : ∃ t : ByteArray, str (s.take 4100) = .string t := ⟨_, rfl⟩
      have hheadS : ∀ W, (Instr.sliceAt 9 (str s) none (some (.int .i64 (j : Int))) none).run Try.prog W = .ok (.string t) W := fun W => by
        rw [← ht, show s.take 4100 = s.take j by rw [hj0, List.take_eq_take_iff]; omega]
        exact str_head s j (by omega) _ rfl W
      have hl2 := len_str s
      have hnext : ((l.take (k + 1)).map (·.take 4100)).map str = ((l.take k).map (·.take 4100)).map str ++ [.string t] := by
        rw [← ht, List.take_add_one, hs']; simp
      replace ht := Lib.hid ht
      replace hnext := Lib.hid hnext
      replace hs' := Lib.hid hs'
      replace hs := Lib.hid hs
      replace hj0 := Lib.hid hj0
      go_wp2_with (at_builtin; refine wpList_append_lies _ rfl (.tmp 16) (.tmp 22) 40 rfl w.heap.size 9 i0 _ 1 16 Try.underlying40 hi hz0 hz1 hz2 rfl (by omega) _ k _ rfl (hown.alloc _) ⟨wr.heap.size, 0, none⟩ 1 1 [.string t] rfl rfl (by intro j u hu; cases j <;> simp at hu; subst hu; simp [go_sem, Addr.add]) (by simp [Value.oneCell']) (by omega) (by simp [maxLen]; omega) (by omega) (by simp; omega) _ rfl ?_; intro g cap w1 hown1 hgr hloc hlt1)
      have hB1 := (hB.alloc hs1 _).grown hgr (by simp; omega) (fun b e => hown_ge hown b (by simpa [Act.eval] using e))
      replace hown1 := Lib.hid (by rw [← hnext.out] at hown1; exact hown1)
      go_roundw
      case rel => exact ⟨k + 1, by go_num, by omega, hown1.out, hB1⟩
      case measure => simp [intOf]; omega
    · obtain ⟨A', c', hv, hnc, hrd⟩ := own_reads hown
      replace hv := Lib.hid hv
      have hk' : k = m := by omega
      go_wp2_with fail
      refine bodyPost_ret (v := u3) (by simp [results, Try.results48, go_sem]) rfl ⟨A', c', ?_⟩
      have e1 := hF2.out
      have e2 := hm0.out
      have e3 : F.length = k := by rw [← e1]; simp; omega
      rw [e3]
      refine ⟨by rw [hv.out], hnc, ?_, hB⟩
      rw [← e1, ← hk']
      exact hrd

theorem toList_mk (l : List UInt8) : (⟨l.toArray⟩ : ByteArray).toList = l := by simp [go_sem]
theorem toList_str {s : List UInt8} {S : ByteArray} (h : str s = .string S) : S.toList = s := by
  injection h with h
  rw [← h, toList_mk]

-- the reference's Same
set_option maxRecDepth 100000 in
set_option maxHeartbeats 800000 in
theorem sameP (A B : Option Addr) (l m : List (List UInt8)) (c d : Nat) (w : World) (ok okB : Nat → Prop) (hr : Reads w ok 1 A l.length (l.map str)) (hm : Reads w okB 1 B m.length (m.map str)) (hl : l.length < 100000000) :
    Calls Try.prog 26 #[.slice A l.length c, .slice B m.length d] w fun e w' => e = .returned (.bool (decide (l = m))) ∧ Below w.heap.size w w' := by
  by_cases hlen : l.length = m.length
  · rw [← hlen] at hm ⊢
    replace hlen := Lib.hid hlen
    go_enter Try.func26, Try.ntmps26
    go_wp2_with fail
    go_loopw [13] (fun v13 wr => ∃ (k : Nat), v13 = .int .i64 k ∧ k ≤ l.length ∧ Hid (l.take k = m.take k) ∧ Below w.heap.size w wr) (fun v13 _ => l.length - (intOf v13).toNat)
    case atStart => exact ⟨0, rfl, by omega, Lib.hid (by simp), Below.refl _ _⟩
    case round =>
      obtain ⟨k, rfl, hk, he, hB⟩ := hrel
      have hs1 := hB.size
      by_cases hlt : k < l.length
      · obtain ⟨s, hs⟩ : ∃ s, l[k]? = some s := ⟨_, List.getElem?_eq_getElem hlt⟩
        obtain ⟨t, ht⟩ : ∃ s, m[k]? = some s := ⟨_, List.getElem?_eq_getElem (by rw [← hlen.out]; exact hlt)⟩
        obtain ⟨b, o, rfl, hbl, _, hc1⟩ := at1 (hr.below hB) k s hs
        obtain ⟨b2, o2, rfl, hbl2, _, hc2⟩ := at1 (hm.below hB) k t ht
        obtain ⟨S, hS⟩ : ∃ S, str s = .string S := ⟨_, rfl⟩
        obtain ⟨T, hT⟩ : ∃ S, str t = .string S := ⟨_, rfl⟩
        rw [hS] at hc1
        rw [hT] at hc2
        replace hS := Lib.hid hS
        replace hT := Lib.hid hT
        replace hs := Lib.hid hs
        replace ht := Lib.hid ht
        have h0 := he.out
        by_cases hst : s = t
        · have hcmp : (S.toList == T.toList) = true := by rw [toList_str hS.out, toList_str hT.out, hst]; simp
          have hnx := Lib.hid (show l.take (k + 1) = m.take (k + 1) by rw [List.take_add_one, List.take_add_one, hs.out, ht.out, h0, hst])
          clear hst h0
          go_wp2_with fail
          refine wp_region_still_lit (by kernel_rfl) (by kernel_rfl) ?_
          change wpStill _ _ wr.drew (fun a' => Exit.then _ _ .normal a' wr.drew) _ _
          repeat still_step
          refine wpStill_nil ?_
          go_wp2_with fail
          go_roundw
          case rel => exact ⟨k + 1, by go_num, by omega, hnx, hB.drew⟩
          case measure => simp [intOf]; omega
        · have hcmp : (S.toList == T.toList) = false := by rw [toList_str hS.out, toList_str hT.out]; simpa using hst
          have hne := Lib.hid (show ¬ l = m from fun e => hst (by have h1 := hs.out; rw [e] at h1; exact Option.some.inj (h1.symm.trans ht.out)))
          clear hst h0
          go_wp2_with fail
          refine wp_region_still_lit (by kernel_rfl) (by kernel_rfl) ?_
          change wpStill _ _ wr.drew (fun a' => Exit.then _ _ .normal a' wr.drew) _ _
          repeat still_step
          refine wpStill_nil ?_
          go_wp2_with fail
          go_ret
          exact ⟨by rw [decide_eq_false hne.out]; rfl, hB.drew⟩
      · have heq := Lib.hid (show l = m by
          have h0 := he.out
          have h1 := hlen.out
          rwa [List.take_of_length_le (by omega), List.take_of_length_le (by omega)] at h0)
        go_wp2_with fail
        go_ret
        exact ⟨by rw [decide_eq_true heq.out]; rfl, hB⟩
  · have hz : ((l.length : Int) == (m.length : Int)) = false := by simp; omega
    have hz2 : ((l.length : Int) != (m.length : Int)) = true := by simp; omega
    have hne := Lib.hid (show ¬ l = m from fun e => hlen (by rw [e]))
    clear hlen
    go_enter Try.func26, Try.ntmps26
    go_wp2_with fail
    go_ret
    exact ⟨by rw [decide_eq_false hne.out]; rfl, Below.refl _ _⟩
end Go.Proofs.Ytejdmefiobgcdaa
