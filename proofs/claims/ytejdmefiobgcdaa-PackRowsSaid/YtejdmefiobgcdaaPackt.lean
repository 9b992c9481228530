import Derived.Test.YtejdmefiobgcdaaPacke
namespace Go.Proofs.Ytejdmefiobgcdaa
open Go.RowKit Go.Proofs

def unzz (y : Nat) : Int := if y % 2 = 1 then - ((y : Int) / 2) - 1 else (y : Int) / 2
theorem unzz_zz (n : Int) : unzz (zz n) = n := by unfold unzz zz; split <;> split <;> omega
theorem zz_unzz (y : Nat) : zz (unzz y) = y := by unfold unzz zz; split <;> split <;> omega

theorem rd_cons (k x : Nat) (c : UInt8) (t : List UInt8) (hk : k < 9) : rd k x (c :: t) =
    if 128 ≤ c.toNat then rd (k + 1) (x + (c.toNat % 128) * 128 ^ k) t
    else if (c.toNat = 0 ∧ 0 < k) ∨ mayN (unzz (x + (c.toNat % 128) * 128 ^ k)) = false then (0, [], 5) else (unzz (x + (c.toNat % 128) * 128 ^ k), t, 0) := by
  rw [rd, if_neg (by omega)]
  rfl

theorem rd_enc : ∀ (j z k x : Nat) (t : List UInt8), (enc z).length = j → k + j ≤ 9 →
    rd k x (enc z ++ t) = if (z = 0 ∧ 0 < k) ∨ mayN (unzz (x + z * 128 ^ k)) = false then (0, [], 5) else (unzz (x + z * 128 ^ k), t, 0) := by
  intro j
  induction j with
  | zero =>
    intro z k x t h
    rw [enc] at h
    split at h <;> simp at h
  | succ j ih =>
    intro z k x t h hk
    by_cases hz : z < 128
    · have he : enc z = [UInt8.ofNat z] := by rw [enc, dif_pos hz]
      have hn : (UInt8.ofNat z).toNat = z := by simp; omega
      rw [he, List.cons_append, List.nil_append, rd_cons _ _ _ _ (by omega), hn, if_neg (by omega), Nat.mod_eq_of_lt hz]
    · have he : enc z = UInt8.ofNat (z % 128 + 128) :: enc (z / 128) := by rw [enc, dif_neg hz]
      have hn : (UInt8.ofNat (z % 128 + 128)).toNat = z % 128 + 128 := by simp; omega
      rw [he] at h ⊢
      rw [List.cons_append, rd_cons _ _ _ _ (by omega), hn, if_pos (by omega), ih (z / 128) (k + 1) _ t (by simpa using h) (by omega)]
      have h1 : (z % 128 + 128) % 128 = z % 128 := by omega
      have h2 : x + z % 128 * 128 ^ k + z / 128 * 128 ^ (k + 1) = x + z * 128 ^ k := by
        have h3 : z = z % 128 + z / 128 * 128 := by omega
        calc x + z % 128 * 128 ^ k + z / 128 * 128 ^ (k + 1) = x + (z % 128 + z / 128 * 128) * 128 ^ k := by
              rw [Nat.pow_succ, Nat.add_mul, Nat.add_assoc, Nat.mul_assoc (z / 128), Nat.mul_comm 128]
          _ = x + z * 128 ^ k := by rw [← h3]
      rw [h1, h2]
      have e1 : ¬ (z / 128 = 0 ∧ 0 < k + 1) := by omega
      have e2 : ¬ (z = 0 ∧ 0 < k) := by omega
      simp only [e1, e2, false_or]

theorem rd_back (n : Int) (t : List UInt8) (h : mayN n = true) : rd 0 0 (enc (zz n) ++ t) = (n, t, 0) := by
  have hb : -1152921504606846976 ≤ n ∧ n ≤ 1152921504606846976 := by simpa [mayN] using h
  have h9 : (enc (zz n)).length ≤ 9 := enc_len 8 _ (by unfold zz; split <;> omega)
  rw [rd_enc _ (zz n) 0 0 t rfl (by omega), if_neg]
  · simp [unzz_zz]
  · rintro (h1 | h1)
    · omega
    · simp [unzz_zz, h] at h1

theorem rd_inv : ∀ (l : List UInt8) (k x : Nat) (n : Int) (t : List UInt8), rd k x l = (n, t, 0) → k ≤ 9 →
    ∃ z, l = enc z ++ t ∧ n = unzz (x + z * 128 ^ k) ∧ mayN n = true ∧ (z = 0 → k = 0) := by
  intro l
  induction l with
  | nil =>
    intro k x n t h
    rw [rd] at h
    have := congrArg (·.2.2) h
    split at this <;> simp at this
  | cons c l ih =>
    intro k x n t h hk
    by_cases h9 : k < 9
    · rw [rd_cons _ _ _ _ h9] at h
      have hc : c.toNat < 256 := by simpa using c.toNat_lt
      have hco : UInt8.ofNat c.toNat = c := by simp
      split at h
      · rename_i h128
        obtain ⟨z, h1, h2, h3, h4⟩ := ih _ _ _ _ h (by omega)
        have hz : z ≠ 0 := fun e => by have := h4 e; omega
        refine ⟨c.toNat % 128 + z * 128, ?_, ?_, h3, fun e => by omega⟩
        · rw [enc, dif_neg (by omega), h1]
          have e1 : (c.toNat % 128 + z * 128) % 128 + 128 = c.toNat := by omega
          have e2 : (c.toNat % 128 + z * 128) / 128 = z := by omega
          rw [e1, e2, hco]
          rfl
        · rw [h2]
          congr 1
          rw [Nat.pow_succ, Nat.add_mul, Nat.add_assoc, Nat.mul_assoc z, Nat.mul_comm 128]
      · rename_i h128
        split at h
        · have := congrArg (·.2.2) h
          simp at this
        · rename_i hno
          injection h with e1 e2
          injection e2 with e2 e3
          refine ⟨c.toNat, ?_, ?_, ?_, ?_⟩
          · rw [enc, dif_pos (by omega), hco, e2]; rfl
          · rw [← e1, Nat.mod_eq_of_lt (by omega)]
          · rw [← e1]
            by_cases hm : mayN (unzz (x + c.toNat % 128 * 128 ^ k)) = true
            · exact hm
            · exact absurd (.inr (by simpa using hm)) hno
          · intro e
            by_cases hk0 : 0 < k
            · exact absurd (.inl ⟨e, hk0⟩) hno
            · omega
    · rw [rd, if_pos (by omega)] at h
      have := congrArg (·.2.2) h
      simp at this

theorem rd_fwd (l : List UInt8) (n : Int) (t : List UInt8) (h : rd 0 0 l = (n, t, 0)) : mayN n = true ∧ l = enc (zz n) ++ t := by
  obtain ⟨z, h1, h2, h3, _⟩ := rd_inv l 0 0 n t h (by omega)
  refine ⟨h3, ?_⟩
  rw [h2]
  simpa [zz_unzz] using h1

theorem cnt_back (a : Nat) (m : Int) (t : List UInt8) (ha : (a : Int) ≤ m) (h : a ≤ 1000000) : cnt' (enc (zz a) ++ t) m = ((a : Int), t, 0) := by
  have hm : mayN (a : Int) = true := by simp [mayN]; omega
  unfold cnt'
  rw [rd_back _ _ hm]
  dsimp only
  rw [if_neg (by simp), if_neg (by omega), if_neg (by omega)]

theorem cnt_fwd (l : List UInt8) (m n : Int) (t : List UInt8) (h : cnt' l m = (n, t, 0)) : l = enc (zz n) ++ t ∧ 0 ≤ n ∧ n ≤ m := by
  unfold cnt' at h
  split at h
  · rename_i h1
    have := congrArg (·.2.2) h
    exact absurd this h1
  · rename_i h1
    split at h
    · have := congrArg (·.2.2) h
      simp at this
    · split at h
      · have := congrArg (·.2.2) h
        simp at this
      · injection h with e1 e2
        injection e2 with e2 e3
        have := rd_fwd l n t (by
          rw [← e1, ← e2]
          refine Prod.ext rfl (Prod.ext rfl ?_)
          simpa using h1)
        exact ⟨this.2, by omega, by omega⟩

theorem rrow_back : ∀ (l : List (List UInt8)) (out : List (List UInt8)), (∀ s ∈ l, s.length ≤ 4096) → rrow l.length out (l.flatMap item) = (out ++ l, 0)
  | [], out, _ => by simp [rrow]
  | s :: l, out, h => by
    have h1 := h s List.mem_cons_self
    have h2 := rrow_back l (out ++ [s]) (fun t ht => h t (List.mem_cons_of_mem _ ht))
    rw [List.length_cons, rrow, List.flatMap_cons, item, List.append_assoc, cnt_back s.length 4096 _ (by omega) (by omega)]
    dsimp only
    rw [if_neg (by simp), if_neg (by simp; omega), Int.toNat_natCast, List.take_left', List.drop_left', h2, List.append_assoc]
    · rfl
    · rfl
    · rfl

theorem row_back (l : List (List UInt8)) (h : MayRow l) : readRow (rowS l).1 = (l, 0) := by
  unfold rowS readRow
  rw [if_pos h, cnt_back l.length 256 _ (by have := h.1; omega) (by have := h.1; omega)]
  dsimp only
  rw [if_neg (by simp), Int.toNat_natCast, rrow_back l [] h.2]
  rfl

theorem rrow_fwd : ∀ (m : Nat) (out : List (List UInt8)) (s : List UInt8) (r : List (List UInt8)), rrow m out s = (r, 0) → ∃ l, r = out ++ l ∧ l.length = m ∧ s = l.flatMap item ∧ ∀ t ∈ l, t.length ≤ 4096 := by
  intro m
  induction m with
  | zero =>
    intro out s r h
    rw [rrow] at h
    split at h
    · rename_i hs
      injection h with e1 e2
      exact ⟨[], by simp [e1], rfl, by simp [hs], by simp⟩
    · have := congrArg (·.2) h
      simp at this
  | succ m ih =>
    intro out s r h
    rw [rrow] at h
    split at h
    · rename_i h1
      have := congrArg (·.2) h
      exact absurd this h1
    · rename_i h1
      split at h
      · have := congrArg (·.2) h
        simp at this
      · rename_i h2
        obtain ⟨l, e1, e2, e3, e4⟩ := ih _ _ _ h
        have h3 := cnt_fwd s 4096 (cnt' s 4096).1 (cnt' s 4096).2.1 (Prod.ext rfl (Prod.ext rfl (by simpa using h1)))
        generalize cnt' s 4096 = p at *
        obtain ⟨n, t, er⟩ := p
        dsimp only at *
        obtain ⟨k, rfl⟩ : ∃ k : Nat, n = k := ⟨n.toNat, by omega⟩
        simp only [Int.toNat_natCast] at *
        have hk : k ≤ t.length := by omega
        refine ⟨t.take k :: l, by rw [e1]; simp, by simp [e2], ?_, ?_⟩
        · rw [List.flatMap_cons, item, List.length_take, Nat.min_eq_left hk, List.append_assoc, ← e3, List.take_append_drop]
          exact h3.1
        · intro u hu
          rcases List.mem_cons.1 hu with rfl | hu
          · rw [List.length_take]; omega
          · exact e4 u hu

theorem row_fwd (s : List UInt8) (m : List (List UInt8)) (h : readRow s = (m, 0)) : MayRow m ∧ (rowS m).1 = s := by
  unfold readRow at h
  split at h
  · rename_i h1
    have := congrArg (·.2) h
    exact absurd this h1
  · rename_i h1
    obtain ⟨l, e1, e2, e3, e4⟩ := rrow_fwd _ _ _ _ h
    have h3 := cnt_fwd s 256 (cnt' s 256).1 (cnt' s 256).2.1 (Prod.ext rfl (Prod.ext rfl (by simpa using h1)))
    generalize cnt' s 256 = p at *
    obtain ⟨n, t, er⟩ := p
    dsimp only at *
    obtain ⟨k, rfl⟩ : ∃ k : Nat, n = k := ⟨n.toNat, by omega⟩
    simp only [Int.toNat_natCast, List.nil_append] at *
    subst e1
    have hm : MayRow m := ⟨by omega, e4⟩
    refine ⟨hm, ?_⟩
    unfold rowS
    rw [if_pos hm, e2, ← e3]
    exact h3.1.symm

theorem row_bad (s : List UInt8) (h : (readRow s).2 ≠ 0) : (readRow s).1 = [] := by
  have key : ∀ m out s, (rrow m out s).2 ≠ 0 → (rrow m out s).1 = [] := by
    intro m
    induction m with
    | zero =>
      intro out s h
      rw [rrow] at h ⊢
      split at h
      · simp at h
      · rename_i h1; rw [if_neg h1]
    | succ m ih =>
      intro out s h
      rw [rrow] at h ⊢
      split
      · rfl
      · rename_i h1
        rw [if_neg h1] at h
        split
        · rfl
        · rename_i h2
          rw [if_neg h2] at h
          exact ih _ _ h
  unfold readRow at h ⊢
  split
  · rfl
  · rename_i h1
    rw [if_neg h1] at h
    exact key _ _ _ h
end Go.Proofs.Ytejdmefiobgcdaa
