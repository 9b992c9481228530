import Derived.Test.YtejdmefiobgcdaaPackb
import Derived.Deep.RegionLaw
namespace Go.Proofs.Ytejdmefiobgcdaa
open Go.RowKit Go.Proofs

def cnt' (l : List UInt8) (most : Int) : Int × List UInt8 × Int :=
  if (rd 0 0 l).2.2 ≠ 0 then (0, [], (rd 0 0 l).2.2)
  else if (rd 0 0 l).1 > most then (0, [], 3)
  else if (rd 0 0 l).1 < 0 then (0, [], 5)
  else ((rd 0 0 l).1, (rd 0 0 l).2.1, 0)

-- pack.count
set_option maxRecDepth 100000 in
set_option maxHeartbeats 800000 in
theorem countP (l : List UInt8) (most : Int) (w : World) (hl : l.length < 100000000) : Calls Try.prog 99 #[str l, .int .i64 most] w fun e w' => e = .returned (.tuple #[.int .i64 (cnt' l most).1, str (cnt' l most).2.1, .int .i64 (cnt' l most).2.2]) ∧ Below w.heap.size w w' := by
  have hr := Lib.hid (fun W => readP l W hl)
  obtain ⟨n, rest, er⟩ : ∃ p, p = rd 0 0 l := ⟨_, rfl⟩
  unfold cnt'
  generalize rd 0 0 l = p at hr ⊢
  obtain ⟨n, rest, er⟩ := p
  dsimp only at hr ⊢
  obtain ⟨R, hR⟩ : ∃ R, (if er ≠ 0 then ((0 : Int), ([] : List UInt8), er) else if n > most then (0, [], 3) else if n < 0 then (0, [], 5) else (n, rest, 0)) = R := ⟨_, rfl⟩
  rw [hR]
  replace hR := Lib.hid hR
  by_cases h1 : er = 0
  · subst h1
    replace hR := hR.out
    simp only [ne_eq, not_true_eq_false, if_false] at hR
    by_cases h2 : most < n
    · have h2' : decide (most < n) = true := by simp [h2]
      rw [if_pos h2] at hR
      replace hR := Lib.hid hR
      go_enter Try.func99, Try.ntmps99
      go_wp2_with (go_at_call 56; refine (hr.out _).mono ?_; rintro e w1 ⟨rfl, hb⟩)
      exact bodyPost_ret (v := .tuple #[.int .i64 0, str [], .int .i64 3]) (by simp [results, Try.results99, go_sem, str]) rfl ⟨by rw [← hR.out], hb⟩
    · have h2' : decide (most < n) = false := by simp [h2]
      rw [if_neg h2] at hR
      by_cases h3 : n < 0
      · have h3' : decide (n < 0) = true := by simp [h3]
        rw [if_pos h3] at hR
        replace hR := Lib.hid hR
        go_enter Try.func99, Try.ntmps99
        go_wp2_with (go_at_call 56; refine (hr.out _).mono ?_; rintro e w1 ⟨rfl, hb⟩)
        exact bodyPost_ret (v := .tuple #[.int .i64 0, str [], .int .i64 5]) (by simp [results, Try.results99, go_sem, str]) rfl ⟨by rw [← hR.out], hb⟩
      · have h3' : decide (n < 0) = false := by simp [h3]
        rw [if_neg h3] at hR
        replace hR := Lib.hid hR
        go_enter Try.func99, Try.ntmps99
        go_wp2_with (go_at_call 56; refine (hr.out _).mono ?_; rintro e w1 ⟨rfl, hb⟩)
        exact bodyPost_ret (v := .tuple #[.int .i64 n, str rest, .int .i64 0]) (by simp [results, Try.results99, go_sem]) rfl ⟨by rw [← hR.out], hb⟩
  · have h1' : (er == 0) = false := by simp [h1]
    have h1'' : (er != 0) = true := by simp [h1]
    replace hR := hR.out
    rw [if_pos h1] at hR
    replace hR := Lib.hid hR
    go_enter Try.func99, Try.ntmps99
    go_wp2_with (go_at_call 56; refine (hr.out _).mono ?_; rintro e w1 ⟨rfl, hb⟩)
    exact bodyPost_ret (v := .tuple #[.int .i64 0, str [], .int .i64 er]) (by simp [results, Try.results99, go_sem, str]) rfl ⟨by rw [← hR.out], hb⟩

def rrow : Nat → List (List UInt8) → List UInt8 → List (List UInt8) × Int
  | 0, out, s => if s = [] then (out, 0) else ([], 5)
  | m + 1, out, s =>
    if (cnt' s 4096).2.2 ≠ 0 then ([], (cnt' s 4096).2.2)
    else if (cnt' s 4096).1 > (cnt' s 4096).2.1.length then ([], 4)
    else rrow m (out ++ [(cnt' s 4096).2.1.take (cnt' s 4096).1.toNat]) ((cnt' s 4096).2.1.drop (cnt' s 4096).1.toNat)
def readRow (l : List UInt8) : List (List UInt8) × Int :=
  if (cnt' l 256).2.2 ≠ 0 then ([], (cnt' l 256).2.2) else rrow (cnt' l 256).1.toNat [] (cnt' l 256).2.1

theorem info9 : (Try.prog.info? 9).map (fun i => (i.zero, i.size, i.bytes)) = some (some (.string ⟨#[]⟩), 1, 16) := by kernel_rfl

theorem rd_len : ∀ (l : List UInt8) (i x : Nat), (rd i x l).2.1.length ≤ l.length
  | [], i, x => by simp [rd]
  | c :: t, i, x => by
    have h1 := fun i x => rd_len t i x
    rw [rd]
    split
    · simp
    · dsimp only
      split
      · exact Nat.le_trans (h1 _ _) (by simp)
      · split
        · split <;> simp
        · split <;> simp
theorem len_str (l : List UInt8) (W : World) : (Builtin.len_ #[9] 3 #[str l]).run Try.prog W = .ok (.int .i64 l.length) W := by
  simp [str, go_sem, str_size]
theorem ne_str (l : List UInt8) (W : World) : (binOp .neq 9 (str l) (.string ⟨#[]⟩)).run Try.prog W = .ok (.bool (decide (l ≠ []))) W := by
  cases l <;> simp [str, go_sem]
theorem cnt_len' (l : List UInt8) (m : Int) : (cnt' l m).2.1.length ≤ l.length := by
  unfold cnt'
  split
  · simp
  · split
    · simp
    · split
      · simp
      · exact rd_len _ _ _
theorem cnt_range (l : List UInt8) (m : Int) (hm : 0 ≤ m) : 0 ≤ (cnt' l m).1 ∧ (cnt' l m).1 ≤ m := by
  unfold cnt'
  split
  · simp; omega
  · split
    · simp; omega
    · split
      · simp; omega
      · simp; omega
theorem str_head (l : List UInt8) (k : Nat) (h : k ≤ l.length) (x : Int) (hx : x = k) (W : World) : (Instr.sliceAt 9 (.string ⟨l.toArray⟩) none (some (.int .i64 x)) none).run Try.prog W = .ok (str (l.take k)) W := by
  subst hx
  rw [run_sliceAt_string W 9 _ _ _ _ Try.underlying9, run_slice_string_h W 9 _ Try.underlying9 .i64 (k : Int) (by omega) (by rw [str_size]; omega)]
  simp only [Int.toNat_natCast, ext_take]
  rfl
theorem own_below {w w' : World} {B : Nat} {e : TypeId} {size n : Nat} {v : Value} {xs : List Value} (h : w.ownsRow B e size v n xs) (hb : Below w.heap.size w w') : w'.ownsRow B e size v n xs := by
  rcases h with ⟨h1, ⟨h2, h3⟩ | ⟨g, cap, cur, h2, h3, h4, h5, h6, h7, h8⟩⟩
  · exact ⟨h1, .inl ⟨h2, h3⟩⟩
  · refine ⟨h1, .inr ⟨g, cap, cur, h2, h3, ?_, h5, h6, h7, h8⟩⟩
    rw [hb.block g (Array.getElem?_eq_some_iff.1 h4).1]
    exact h4
theorem hown_ge {w : World} {B : Nat} {e : TypeId} {size n : Nat} {v : Value} {xs : List Value} (h : w.ownsRow B e size v n xs) (b : Nat) (hb : v.ownBlock = some b) : B ≤ b := (h.lt b hb).1
theorem own_reads {w : World} {B : Nat} {e : TypeId} {size n : Nat} {v : Value} {xs : List Value} (h : w.ownsRow B e size v n xs) : ∃ A c, v = .slice A n c ∧ n ≤ c ∧ Reads w (fun k => B ≤ k) size A n xs := by
  have h0 := h
  rcases h with ⟨h1, ⟨rfl, rfl⟩ | ⟨g, cap, cur, rfl, h3, h4, h5, h6, h7, h8⟩⟩
  · exact ⟨none, 0, rfl, Nat.le_refl _, Reads.of_own h0⟩
  · exact ⟨_, cap, rfl, h5, Reads.of_own h0⟩

-- pack.ReadRow
set_option maxRecDepth 100000 in
set_option maxHeartbeats 800000 in
theorem readRowP (l : List UInt8) (w : World) (hl : l.length < 100000000) : Calls Try.prog 50 #[str l] w fun e w' => ∃ A c, e = .returned (.tuple #[.slice A (readRow l).1.length c, .int .i64 (readRow l).2]) ∧ (readRow l).1.length ≤ c ∧
    Reads w' (fun k => w.heap.size ≤ k) 1 A (readRow l).1.length ((readRow l).1.map str) ∧ Below w.heap.size w w' := by
  obtain ⟨i0, hi, hz0, hz1, hz2⟩ := info_parts info9
  have hc := Lib.hid (fun W => countP l 256 W hl)
  have hk := cnt_range l 256 (by omega)
  have hle := cnt_len' l 256
  unfold readRow
  generalize cnt' l 256 = p at hc hk hle ⊢
  obtain ⟨n, s0, er⟩ := p
  dsimp only at hc hk hle ⊢
  by_cases h1 : er = 0
  · subst h1
    obtain ⟨m, rfl⟩ : ∃ m : Nat, n = m := ⟨n.toNat, by omega⟩
    have hs0 : s0.length < 100000000 := by omega
    simp only [ne_eq, not_true_eq_false, if_false, Int.toNat_natCast]
    obtain ⟨R, hR⟩ : ∃ R, rrow m [] s0 = R := ⟨_, rfl⟩
    rw [hR]
    replace hR := Lib.hid hR
    go_enter Try.func50, Try.ntmps50
    go_wp2_with (go_at_call 99; refine (hc.out _).mono ?_; rintro e w1 ⟨rfl, hb⟩)
    go_loopw [0, 6, 20] (fun v0 v6 v20 wr => ∃ (k : Nat) (s : List UInt8) (out : List (List UInt8)), v0 = str s ∧ v20 = .int .i64 k ∧ k ≤ m ∧ s.length < 100000000 ∧ out.length = k ∧ Hid (rrow (m - k) out s = R) ∧ wr.ownsRow w.heap.size 9 1 v6 out.length (out.map str) ∧ Below w.heap.size w wr) (fun _ _ v20 _ => m - (intOf v20).toNat)
    case atStart => exact ⟨0, s0, [], rfl, rfl, by omega, hs0, rfl, hR, World.ownsRow_nil _ _ _ _, hb⟩
    case round =>
      obtain ⟨k, s, out, rfl, rfl, hkm, hs, hout, hrr, hown, hB⟩ := hrel
      have hs1 := hB.size
      by_cases hlt : k < m
      · have hm1 : m - k = (m - (k + 1)) + 1 := by omega
        have hc2 := Lib.hid (fun W => countP s 4096 W hs)
        have hk2 := cnt_range s 4096 (by omega)
        have hle2 := cnt_len' s 4096
        have hrr2 : rrow (m - k) out s = R := hrr.out
        rw [hm1, rrow] at hrr2
        generalize cnt' s 4096 = p at hc2 hk2 hle2 hrr2
        obtain ⟨n, s2, er⟩ := p
        dsimp only at hc2 hk2 hle2 hrr2
        by_cases h1 : er = 0
        · subst h1
          obtain ⟨j, rfl⟩ : ∃ j : Nat, n = j := ⟨n.toNat, by omega⟩
          simp only [ne_eq, not_true_eq_false, if_false, Int.toNat_natCast, gt_iff_lt, Int.ofNat_lt] at hrr2
          have hl2 := len_str s2
          by_cases h2 : s2.length < j
          · rw [if_pos h2] at hrr2
            replace hrr2 := Lib.hid hrr2
            have h2' : decide (s2.length < j) = true := by simp [h2]
            go_wp2_with (go_at_call 99; refine (hc2.out _).mono ?_; rintro e w2 ⟨rfl, hb2⟩)
            refine bodyPost_ret (v := .tuple #[.slice none 0 0, .int .i64 4]) (by simp [results, Try.results50, go_sem]) rfl ⟨none, 0, ?_⟩
            rw [← hrr2.out]
            exact ⟨rfl, Nat.le_refl _, Reads.none_ _, below_then hB hs1 hb2⟩
          · rw [if_neg h2] at hrr2
            replace hrr2 := Lib.hid hrr2
            have h2' : decide (s2.length < j) = false := by simp [h2]
            have hcutS : ∀ W, (Instr.sliceAt 9 (str s2) (some (.int .i64 (j : Int))) none none).run Try.prog W = .ok (str (s2.drop j)) W := fun W => str_cut s2 j (by omega) _ rfl W
            obtain ⟨t, ht⟩ : ∃ t : ByteArray, str (s2.take j) = .string t := ⟨_, rfl⟩
            have hheadS : ∀ W, (Instr.sliceAt 9 (str s2) none (some (.int .i64 (j : Int))) none).run Try.prog W = .ok (.string t) W := fun W => by rw [← ht]; exact str_head s2 j (by omega) _ rfl W
            replace ht := Lib.hid ht
            go_wp2_with (go_at_call 99; refine (hc2.out _).mono ?_; rintro e w2 ⟨rfl, hb2⟩; have hs2 := hb2.size; have hown2 := own_below hown hb2; have hB2 := below_then hB hs1 hb2)
            have hownY : (w2.alloc (.cells #[.string t] 9)).drew.ownsRow w.heap.size 9 1 u6 out.length (out.map str) := hown2.alloc _
            have hnewY : ∀ j u, ([.string t] : List Value)[j]? = some u → (w2.alloc (.cells #[.string t] 9)).drew.cell? ((⟨w2.heap.size, 0, none⟩ : Addr).add j) = some u :=
              World.news_of_block (w := (w2.alloc (.cells #[.string t] 9)).drew) (cs := #[.string t]) (heap_alloc_new w2 _)
            have hbY : Below w.heap.size w (w2.alloc (.cells #[.string t] 9)).drew := (hB2.alloc (by omega) _).drew
            replace hownY := Lib.hid hownY
            replace hnewY := Lib.hid hnewY
            clear hown hown2 hB
            go_region_law (refine step_append_lies _ rfl (.tmp 37) (.tmp 41) 40 rfl w.heap.size 9 i0 _ 1 16 Try.underlying40 hi hz0 hz1 hz2 rfl (by omega) u6 out.length (out.map str) rfl hownY.out ⟨w2.heap.size, 0, none⟩ 1 1 [.string t] rfl rfl hnewY.out (by simp [Value.oneCell']) (by omega) (by simp only [maxLen]; omega) (by omega) (by simp; omega) (w2.heap.size + 1) (by simp) ?_; intro g cap w3 hown3 hgr3 hloc3 hlt3)
            all_goals
              have hB3 := hbY.grown hgr3 (by simp; omega) (fun b e => by have := hown_ge hownY.out b e; omega)
              have hown4 : w3.ownsRow w.heap.size 9 1 (.slice (some ⟨g, 0, none⟩) (out.length + 1) cap) (out ++ [s2.take j]).length ((out ++ [s2.take j]).map str) := by
                have := hown3
                rw [← ht.out] at this
                simpa using this
              replace hown4 := Lib.hid hown4
              clear hown3 hgr3 hloc3 hnewY hownY hbY hB2
              go_wp2_with fail
              go_roundw
              case rel => exact ⟨k + 1, s2.drop j, out ++ [s2.take j], rfl, by go_num, by omega, by simp; omega, by simp [hout], hrr2, by have := hown4.out; rw [hout] at this; exact this, hB3⟩
              case measure => simp [intOf]; omega
        · rw [if_pos h1] at hrr2
          replace hrr2 := Lib.hid hrr2
          have h1' : (er == 0) = false := by simp [h1]
          have h1'' : (er != 0) = true := by simp [h1]
          go_wp2_with (go_at_call 99; refine (hc2.out _).mono ?_; rintro e w2 ⟨rfl, hb2⟩)
          refine bodyPost_ret (v := .tuple #[.slice none 0 0, .int .i64 er]) (by simp [results, Try.results50, go_sem]) rfl ⟨none, 0, ?_⟩
          rw [← hrr2.out]
          exact ⟨rfl, Nat.le_refl _, Reads.none_ _, below_then hB hs1 hb2⟩
      · have hk' : k = m := by omega
        have hrr2 : rrow (m - k) out s = R := hrr.out
        rw [hk', Nat.sub_self, rrow] at hrr2
        obtain ⟨A, c, hv, hnc, hrd⟩ := own_reads hown
        replace hv := Lib.hid hv
        by_cases h1 : s = []
        · rw [if_pos h1] at hrr2
          replace hrr2 := Lib.hid hrr2
          have hS : str s = .string ⟨#[]⟩ := by rw [h1]; rfl
          rw [hS]
          clear hS
          replace h1 := Lib.hid h1
          go_wp2_with fail
          refine bodyPost_ret (v := .tuple #[u6, .int .i64 0]) (by simp [results, Try.results50, go_sem]) rfl ⟨A, c, ?_⟩
          rw [← hrr2.out]
          exact ⟨by rw [hv.out], hnc, hrd, hB⟩
        · rw [if_neg h1] at hrr2
          replace hrr2 := Lib.hid hrr2
          obtain ⟨S, hS, hS1⟩ : ∃ S, str s = .string S ∧ S.toList.isEmpty = false := ⟨_, rfl, by cases s <;> simp_all [go_sem]⟩
          rw [hS]
          replace hS := Lib.hid hS
          replace h1 := Lib.hid h1
          go_wp2_with fail
          refine bodyPost_ret (v := .tuple #[.slice none 0 0, .int .i64 5]) (by simp [results, Try.results50, go_sem]) rfl ⟨none, 0, ?_⟩
          rw [← hrr2.out]
          exact ⟨rfl, Nat.le_refl _, Reads.none_ _, hB⟩
  · have h1' : (er == 0) = false := by simp [h1]
    have h1'' : (er != 0) = true := by simp [h1]
    rw [if_pos h1]
    obtain ⟨R, hR⟩ : ∃ R, (([] : List (List UInt8)), er) = R := ⟨_, rfl⟩
    rw [hR]
    replace hR := Lib.hid hR
    go_enter Try.func50, Try.ntmps50
    go_wp2_with (go_at_call 99; refine (hc.out _).mono ?_; rintro e w1 ⟨rfl, hb⟩)
    refine bodyPost_ret (v := .tuple #[.slice none 0 0, .int .i64 er]) (by simp [results, Try.results50, go_sem]) rfl ⟨none, 0, ?_⟩
    rw [← hR.out]
    exact ⟨rfl, Nat.le_refl _, Reads.none_ _, hb⟩
end Go.Proofs.Ytejdmefiobgcdaa
