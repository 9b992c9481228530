import Derived.Test.YtejdmefiobgcdaaOuts
namespace Go.Proofs.Ytejdmefiobgcdaa
open Go.RowKit Go.Proofs

def keysB (l : List O) (x : Int) : Bool := l.any (fun o => decide (o.key = x))
theorem keysB_true {l : List O} {x : Int} : keysB l x = true ↔ ∃ o ∈ l, o.key = x := by simp [keysB]
theorem keysB_snoc (l : List O) (o : O) (x : Int) : keysB (l ++ [o]) x = (decide (x = o.key) || keysB l x) := by
  rw [Bool.eq_iff_iff]; simp [keysB]; constructor
  · rintro (h | h)
    · exact .inr h
    · exact .inl h.symm
  · rintro (h | h)
    · exact .inr h.symm
    · exact .inl h
/-- The state of the law. -/
structure St (l : List O) (last now : Int) (t : Int → Int) (i : Nat) : Prop where
  box : OkBox l last
  due : ∀ o ∈ l, o.due = t o.key + 10
  len : l.length ≤ i
  lst : 0 ≤ last ∧ last ≤ i
  now : 0 ≤ now ∧ now ≤ 19 * i
theorem St.start : St [] 0 0 (fun _ => 0) 0 := ⟨⟨by simp, by simp, by simp, rfl, by simp⟩, by simp, by simp, by omega, by omega⟩
theorem St.later {l : List O} {last now now' : Int} {t : Int → Int} {i : Nat} (h : St l last now t i) (h1 : now ≤ now') (h2 : now' ≤ now + 19) : St l last now' t (i + 1) :=
  ⟨h.box, h.due, by have := h.len; omega, by have := h.lst; omega, by have := h.now; omega⟩
theorem box_push {l : List O} {last kind order now : Int} (h : OkBox l last) (hk : knd kind = true) (ho : num order = true) (hn : tim now = true) (hi : idx l (sameKO kind order) < 0) (hl : l.length < 96) (hlast : last < 1099511627776) : OkBox (l ++ [newO last kind order now]) (last + 1) := by
  obtain ⟨h1, h2, h3, h4, h5⟩ := h
  have hlast0 : 0 ≤ last := by simp [tim, num] at h4; omega
  have hno := List.findIdx?_eq_none_iff.1 (find_none hi)
  refine ⟨fun o ho' => ?_, ?_, by simp; omega, ?_, fun o ho' => ?_⟩
  · rcases List.mem_append.1 ho' with h | h
    · exact h1 o h
    · simp at h; subst h
      have : num (last + 1) = true := by simp [num]; omega
      simp [mayO, newO, hk, ho, hn, this]
  · refine List.pairwise_append.2 ⟨h2, by simp, fun x hx y hy => ?_⟩
    simp at hy; subst hy
    refine ⟨by have := h5 x hx; simp [newO]; omega, fun e => ?_⟩
    have := hno x hx
    simp [sameKO, newO] at this e
    exact this e.1 e.2
  · simp [tim, num]; omega
  · rcases List.mem_append.1 ho' with h | h
    · have := h5 o h; omega
    · simp at h; subst h; simp [newO]
theorem St.put {l : List O} {last now kind order : Int} {t : Int → Int} {i : Nat} (h : St l last now t i) (hk : knd kind = true) (ho : num order = true) (hn : tim now = true) (hi : idx l (sameKO kind order) < 0) (h30 : i ≤ 30) (hl : l.length < i) (hls : last < i) :
    St (l ++ [newO last kind order now]) (last + 1) now (fun y => if y = last + 1 then now - 10 else t y) i := by
  refine ⟨box_push h.box hk ho hn hi (by omega) (by omega), fun o ho' => ?_, by simp; omega, by have := h.lst; omega, h.now⟩
  rcases List.mem_append.1 ho' with h' | h'
  · have := h.box.2.2.2.2 o h'
    rw [if_neg (by omega)]; exact h.due o h'
  · simp at h'; subst h'
    simp [newO]
/-- What putting comes to in the law. -/
theorem putS_law {l : List O} {last now kind order : Int} {t : Int → Int} {i : Nat} (h : St l last now t i) (hk : knd kind = true) (ho : num order = true) (h30 : i ≤ 30) (hl : l.length < i) (hls : last < i) :
    (putS l last kind order now = ⟨0, [], 0, 9⟩) ∨ (putS l last kind order now = ⟨last + 1, l ++ [newO last kind order now], last + 1, 0⟩ ∧ idx l (sameKO kind order) < 0) := by
  have hn : tim now = true := by have := h.now; simp [tim, num]; omega
  unfold putS
  rw [if_neg (by simp [okPut, h.box, hk, ho, hn])]
  by_cases hi : 0 ≤ idx l (sameKO kind order)
  · rw [if_pos hi]; exact .inl rfl
  · rw [if_neg hi, if_neg (by omega)]; exact .inr ⟨rfl, by omega⟩
theorem doneL_sub (l : List O) (key : Int) : (doneL l key).Sublist l := List.filter_sublist
theorem St.done {l : List O} {last now key : Int} {t : Int → Int} {i : Nat} (h : St l last now t i) : St (doneL l key) last now t i := by
  have hs := doneL_sub l key
  exact ⟨⟨fun o ho => h.box.1 o (hs.mem ho), h.box.2.1.sublist hs, by have := hs.length_le; have := h.box.2.2.1; omega, h.box.2.2.2.1, fun o ho => h.box.2.2.2.2 o (hs.mem ho)⟩, fun o ho => h.due o (hs.mem ho), by have := hs.length_le; have := h.len; omega, h.lst, h.now⟩
theorem keysB_done (l : List O) (key x : Int) : keysB (doneL l key) x = (keysB l x && decide (x ≠ key)) := by
  rw [Bool.eq_iff_iff, Bool.and_eq_true, keysB_true, keysB_true, decide_eq_true_iff]
  constructor
  · rintro ⟨o, h1, h2⟩
    have h3 := List.mem_filter.1 h1
    have h4 : o.key ≠ key := by simpa [sameKey] using h3.2
    exact ⟨⟨o, h3.1, h2⟩, by omega⟩
  · rintro ⟨⟨o, h1, h2⟩, h3⟩
    exact ⟨o, List.mem_filter.2 ⟨h1, by simp [sameKey]; omega⟩, h2⟩
theorem keysB_find {l : List O} {last key : Int} (h : OkBox l last) : (doneS l last key = ⟨0, [], O0, 8⟩ ∧ keysB l key = false) ∨
    (∃ o, doneS l last key = ⟨last, doneL l key, o, 0⟩ ∧ o.key = key ∧ keysB l key = true ∧ (doneL l key).length + 1 = l.length) := by
  rcases findO_key (f := sameKey key) h with ⟨h1, _⟩ | ⟨j, o, h1, ho, hs, h2, h3⟩
  · left
    refine ⟨by unfold doneS; rw [if_pos h, if_pos h1], ?_⟩
    have := List.findIdx?_eq_none_iff.1 (find_none h1)
    rw [Bool.eq_false_iff]
    intro hk
    obtain ⟨o, ho, hk⟩ := keysB_true.1 hk
    have := this o ho
    simp [sameKey, hk] at this
  · right
    have hk : o.key = key := by simpa [sameKey] using hs
    have hjl := (List.getElem?_eq_some_iff.1 ho).1
    have hd : doneL l key = l.eraseIdx j := filter_keys key h.2.1 ho hk
    refine ⟨o, ?_, hk, keysB_true.2 ⟨o, List.mem_of_getElem? ho, hk⟩, by rw [hd, List.length_eraseIdx, if_pos hjl]; omega⟩
    unfold doneS
    rw [if_pos h, if_neg (by omega), h2, h1, Int.toNat_natCast, hd]
theorem key_inj {l : List O} (h : l.Pairwise Rel) {x y : O} (hx : x ∈ l) (hy : y ∈ l) (e : x.key = y.key) : x = y := by
  obtain ⟨i, hi, rfl⟩ := List.getElem_of_mem hx
  obtain ⟨j, hj, rfl⟩ := List.getElem_of_mem hy
  have hp := List.pairwise_iff_getElem.1 h
  rcases Nat.lt_trichotomy i j with h1 | h1 | h1
  · have := (hp i j hi hj h1).1; omega
  · subst h1; rfl
  · have := (hp j i hj hi h1).1; omega
theorem told_mem {l : List O} {now : Int} {o : O} : o ∈ toldL l now ↔ o ∈ l ∧ o.due ≤ now := by simp [toldL]
theorem told_take {l : List O} {last now : Int} (h : OkBox l last) {j : Nat} {o : O} (ho : (toldL l now)[j]? = some o) : keysB ((toldL l now).take j) o.key = false := by
  have hp : (toldL l now).Pairwise Rel := h.2.1.sublist List.filter_sublist
  rw [Bool.eq_false_iff]
  intro hk
  obtain ⟨x, hx, he⟩ := keysB_true.1 hk
  obtain ⟨i, hi, rfl⟩ := List.mem_take_iff_getElem.1 hx
  have := rel_of hp (List.getElem?_eq_getElem (by omega)) ho (show i < j by omega)
  have := this.1
  omega
theorem tellO_key (now : Int) (o : O) : (tellO now o).key = o.key ∧ (tellO now o).kind = o.kind ∧ (tellO now o).order = o.order := by unfold tellO; split <;> simp
theorem keysB_tell (l : List O) (now x : Int) : keysB (tellL l now) x = keysB l x := by
  simp [keysB, tellL, List.any_map, Function.comp_def, (tellO_key now _).1]
theorem St.tell {l : List O} {last now : Int} {t : Int → Int} {i : Nat} (h : St l last now t i) (h30 : i ≤ 30) : St (tellL l now) last now (fun y => if keysB (toldL l now) y = true then now else t y) i := by
  have hnx : nextDue now = now + 10 := by have := h.now; unfold nextDue; rw [if_neg (by omega)]
  refine ⟨⟨fun o ho => ?_, ?_, by simpa [tellL] using h.box.2.2.1, h.box.2.2.2.1, fun o ho => ?_⟩, fun o ho => ?_, by simpa [tellL] using h.len, h.lst, h.now⟩
  · obtain ⟨x, hx, rfl⟩ := List.mem_map.1 ho
    have := h.box.1 x hx
    have hnow := h.now
    unfold tellO
    split
    · simp [mayO, hnx] at this ⊢
      refine ⟨this.1, ?_⟩
      simp [tim, num]; omega
    · exact this
  · unfold tellL
    rw [List.pairwise_map]
    refine h.box.2.1.imp fun {a b} hab => ?_
    unfold Rel at hab ⊢
    rw [(tellO_key now a).1, (tellO_key now b).1, (tellO_key now a).2.1, (tellO_key now b).2.1, (tellO_key now a).2.2, (tellO_key now b).2.2]
    exact hab
  · obtain ⟨x, hx, rfl⟩ := List.mem_map.1 ho
    rw [(tellO_key now x).1]; exact h.box.2.2.2.2 x hx
  · obtain ⟨x, hx, rfl⟩ := List.mem_map.1 ho
    rw [(tellO_key now x).1]
    by_cases hd : x.due ≤ now
    · rw [if_pos (keysB_true.2 ⟨x, told_mem.2 ⟨hx, hd⟩, rfl⟩)]
      simp [tellO, hd, hnx]
    · rw [if_neg (fun hk => by
        obtain ⟨y, hy, he⟩ := keysB_true.1 hk
        have hy' := told_mem.1 hy
        have := key_inj h.box.2.1 hy'.1 hx he
        subst this
        exact hd hy'.2)]
      simp [tellO, hd]
      exact h.due x hx
end Go.Proofs.Ytejdmefiobgcdaa
