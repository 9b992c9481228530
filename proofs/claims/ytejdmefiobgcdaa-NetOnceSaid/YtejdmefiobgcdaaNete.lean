import Derived.Test.YtejdmefiobgcdaaNetd
import Derived.Maps.Own
import Derived.Maps.OwnOps
import Derived.Maps.OwnSet
import Derived.Maps.Views
import Derived.Maps.RangeWalk
import Derived.Deep.AppendLies
import Derived.Deep.RegionLaw
namespace Go.Proofs.Ytejdmefiobgcdaa
open Go.RowKit Go.Proofs Go.Maps

/-! Pieces of a function's body -/
def spine : Nat → Code → Code
  | 0, c => c
  | n + 1, .seq _ b => spine n b
  | _, c => c
def headOf : Code → Code
  | .seq a _ => a
  | c => c
noncomputable def netAt (k : Nat) : Code := spine k (Try.f3.body.getD .skip)

/-- How many parcels of a number there are. -/
def cnt (F : List Par) (x : Int) : Int := ((F.filter fun p => p.no == x).length : Int)
theorem cnt_snoc (F : List Par) (p : Par) (x : Int) : cnt (F ++ [p]) x = cnt F x + if p.no = x then 1 else 0 := by
  unfold cnt
  rw [List.filter_append]
  by_cases h : p.no = x <;> simp [h]
theorem cnt_erase (F : List Par) (i : Nat) (p : Par) (h : F[i]? = some p) (x : Int) : cnt (F.eraseIdx i) x = cnt F x - if p.no = x then 1 else 0 := by
  induction F generalizing i with
  | nil => simp at h
  | cons q F ih =>
    cases i with
    | zero =>
      simp at h; subst h
      simp only [List.eraseIdx_cons_zero, cnt, List.filter_cons]
      by_cases hx : q.no = x <;> simp [hx]
    | succ i =>
      have := ih i (by simpa using h)
      simp only [List.eraseIdx_cons_succ]
      have e : ∀ G : List Par, cnt (q :: G) x = cnt G x + if q.no = x then 1 else 0 := fun G => by
        simp only [cnt, List.filter_cons]
        by_cases hx : q.no = x <;> simp [hx]
      rw [e, e, this]; omega
theorem cnt_cons (q : Par) (G : List Par) (x : Int) : cnt (q :: G) x = cnt G x + if q.no = x then 1 else 0 := by
  simp only [cnt, List.filter_cons]
  by_cases hx : q.no = x <;> simp [hx]
theorem cnt_nonneg (F : List Par) (x : Int) : 0 ≤ cnt F x := by unfold cnt; omega
theorem cnt_le (F : List Par) (x : Int) : cnt F x ≤ F.length := by
  unfold cnt
  have := List.length_filter_le (fun p : Par => p.no == x) F
  omega
theorem cnt_pos (F : List Par) (i : Nat) (p : Par) (h : F[i]? = some p) : 1 ≤ cnt F p.no := by
  have hm : p ∈ F.filter fun q => q.no == p.no := List.mem_filter.2 ⟨List.mem_of_getElem? h, by simp⟩
  have := List.length_pos_of_mem hm
  unfold cnt; omega

/-- What was sent: the j-th's number is j + 1. -/
def Sent (S : List Par) : Prop := ∀ (j : Nat) (p : Par), S[j]? = some p → p.may = true ∧ p.no = (j : Int) + 1
/-- What is on its way was sent. -/
def Flies (S F : List Par) : Prop := ∀ p ∈ F, ∃ j : Nat, S[j]? = some p
theorem Flies.may {S F : List Par} (hs : Sent S) (h : Flies S F) : ∀ p ∈ F, p.may = true ∧ 1 ≤ p.no ∧ p.no ≤ (S.length : Int) := by
  intro p hp
  obtain ⟨j, hj⟩ := h p hp
  obtain ⟨h1, h2⟩ := hs j p hj
  have := (List.getElem?_eq_some_iff.1 hj).1
  exact ⟨h1, by omega, by omega⟩

theorem sent_snoc {S : List Par} {p : Par} (h : Sent S) (hp : p.may = true) (hn : p.no = (S.length : Int) + 1) : Sent (S ++ [p]) := by
  intro j q hj
  rw [List.getElem?_append] at hj
  split at hj
  · exact h j q hj
  · rename_i hlt
    have : j - S.length = 0 := by
      by_cases h0 : j - S.length = 0
      · exact h0
      · rw [List.getElem?_eq_none (by simp; omega)] at hj; cases hj
    rw [this] at hj
    simp at hj
    subst hj
    exact ⟨hp, by rw [hn]; omega⟩
theorem wrap64_small {x : Int} (h0 : -1000 ≤ x) (h1 : x ≤ 1000) : wrap64 x = x := by unfold wrap64; omega
theorem flat_map1 (l : List Int) : (l.flatMap fun x => [Value.int .i64 x]) = l.map (Value.int .i64) := by induction l <;> simp_all
theorem place_nat (y : Int) (n : Nat) (hn : 0 < n) (h64 : n ≤ 64) : ∃ i : Nat, i < n ∧ (wrap64 (y.tmod n + n)).tmod n = i := by
  have h1 : y.tmod (n : Int) < n := Int.tmod_lt_of_pos y (by omega)
  have h2 : -(n : Int) < y.tmod (n : Int) := by
    have := Int.tmod_lt_of_pos (-y) (b := (n : Int)) (by omega)
    rw [Int.neg_tmod] at this
    omega
  have hw : wrap64 (y.tmod n + n) = y.tmod n + n := by unfold wrap64; omega
  rw [hw]
  have h3 : 0 ≤ (y.tmod n + n).tmod n := Int.tmod_nonneg _ (by omega)
  have h4 : (y.tmod n + n).tmod (n : Int) < n := Int.tmod_lt_of_pos _ (by omega)
  exact ⟨((y.tmod n + n).tmod n).toNat, by omega, by omega⟩
theorem kind_three (x : Int) : (wrap64 (x.tmod 3 + 3)).tmod 3 = 0 ∨ (wrap64 (x.tmod 3 + 3)).tmod 3 = 1 ∨ (wrap64 (x.tmod 3 + 3)).tmod 3 = 2 := by
  obtain ⟨i, hi, h⟩ := place_nat x 3 (by omega) (by omega)
  rw [show ((3 : Nat) : Int) = 3 from rfl] at h
  rw [h]
  omega
theorem law3 : Keyed Try.prog 3 := int_keyed Try.underlying3
theorem zero3 (w : World) : (zeroValue 3).run Try.prog w = .ok (.int .i64 0) w := by kernel_rfl

/-- The map tells of each number how many there are. -/
def Counts (D : DataW Unit) (f : Int → Int) : Prop := ∀ x, D.atKey (.int .i64 x) (.lit (.int .i64 0)) = .lit (.int .i64 (f x))
theorem Counts.put {D : DataW Unit} {f g : Int → Int} (h : Counts D f) (hD : IsMap D) (x c : Int) (hx : g x = c) (ho : ∀ y, y ≠ x → g y = f y) : Counts (D.put (.int .i64 x) (.lit (.int .i64 c))) g := by
  intro y
  by_cases e : y = x
  · subst e
    rw [atKey_put_same (k := Lit.int .i64 y) hD (show WideAt.IsKeyLit (.int .i64 y) from trivial), hx]
  · rw [atKey_put_other (by intro he; injection he with _ he; exact e he), h, ho y e]
theorem Counts.ext {D : DataW Unit} {f g : Int → Int} (h : Counts D f) (e : ∀ x, f x = g x) : Counts D g := fun x => by rw [h, e]
theorem Counts.val {D : DataW Unit} {f : Int → Int} (h : Counts D f) {x c : Int} (hat : D.atKey (.int .i64 x) (.lit (.int .i64 0)) = .lit (.int .i64 c)) : c = f x := by
  rw [h] at hat
  injection hat with hat
  injection hat with _ hat
  exact hat.symm

theorem own_slice' {w : World} {base n : Nat} {e : TypeId} {size : Nat} {v : Value} {xs : List Value} (h : w.ownsRow base e size v n xs) : ∃ A c, v = .slice A n c := by
  rcases h.2 with ⟨rfl, rfl⟩ | ⟨g, cap, cur, rfl, _⟩
  · exact ⟨none, 0, rfl⟩
  · exact ⟨_, cap, rfl⟩
theorem own_block_ge {w : World} {base : Nat} {e : TypeId} {size n : Nat} {v : Value} {xs : List Value} (h : w.ownsRow base e size v n xs) (k : Nat) (hk : v.ownBlock = some k) : base ≤ k ∧ k < w.heap.size := by
  rcases h.2 with ⟨rfl, _⟩ | ⟨g, cap, cur, rfl, hb, hh, _⟩
  · simp [Value.ownBlock] at hk
  · have : g = k := by simpa [Value.ownBlock] using hk
    subst this
    exact ⟨hb, (Array.getElem?_eq_some_iff.1 hh).1⟩
theorem cell_grown {W w1 : World} {row : Option Nat} {p : Addr} {v : Value} (hg : W.grownBy w1 row) (hne : some p.block ≠ row) (hc : W.cell? p = some v) : w1.cell? p = some v :=
  (World.cell?_of_block (hg.block p.block (lt_of_cell hc) hne)).trans hc
theorem frozen_grown {W w1 : World} {row : Option Nat} {p : Addr} {v : Value} (hg : W.grownBy w1 row) (hne : some p.block ≠ row) (hc : W.cell? p = some v) (hf : W.frozen? p = false) : w1.frozen? p = false :=
  (World.frozen?_of_block (hg.block p.block (lt_of_cell hc) hne)).trans hf
/-- The law's state: the net in block N, the map in block N + 1. -/
structure St (N : Nat) (w W : World) (F S : List Par) (f : Int → Int) (nE : Nat) (v : Value) : Prop where
  below : Below N w W
  size : N + 2 ≤ W.heap.size
  net : ∃ A c, F.length ≤ c ∧ W.cell? ⟨N, 0, none⟩ = some (.slice A F.length c) ∧ Reads W (fun k => N + 2 ≤ k ∧ some k ≠ v.ownBlock) 6 A F.length (F.flatMap Par.c)
  net1 : W.cell? ⟨N, 1, none⟩ = some (.int .i64 S.length)
  frozen0 : W.frozen? ⟨N, 0, none⟩ = false
  frozen1 : W.frozen? ⟨N, 1, none⟩ = false
  sent : W.ownsRow (N + 2) 28 6 v S.length (S.flatMap Par.c)
  map : ∃ D : DataW Unit, W.ownsMap Try.prog 3 (plainElem Try.prog 3) (N + 1) nE D ∧ Counts D f

theorem St.step {N : Nat} {w W W' : World} {F S : List Par} {f : Int → Int} {nE : Nat} {v : Value} (h : St N w W F S f nE v) (hb : Below W.heap.size W W') : St N w W' F S f nE v := by
  obtain ⟨h1, h2, ⟨A, c, h3, h4, h5⟩, h6, h7, h8, h9, ⟨D, h10, h11⟩⟩ := h
  have hg : W.grownBy W' none := ⟨hb.os, hb.tape, hb.output, hb.size, fun i hi _ => hb.block i hi⟩
  exact ⟨below_then h1 (by omega) hb, Nat.le_trans h2 hb.size, ⟨A, c, h3, cell_below hb h4, h5.below hb⟩, cell_below hb h6, frozen_at hb h4 h7, frozen_at hb h6 h8,
    h9.kept hg (by cases hv : v.ownBlock <;> simp), D, h10.kept hg (by simp), h11⟩
theorem St.alloc {N : Nat} {w W : World} {F S : List Par} {f : Int → Int} {nE : Nat} {v : Value} (h : St N w W F S f nE v) (o : Obj) : St N w (W.alloc o) F S f nE v := h.step ((Below.refl _ _).alloc (Nat.le_refl _) _)
theorem St.drew {N : Nat} {w W : World} {F S : List Par} {f : Int → Int} {nE : Nat} {v : Value} (h : St N w W F S f nE v) : St N w W.drew F S f nE v := h.step (Below.refl _ _).drew
/-- A store into a block of the round's own. -/
theorem St.own {N : Nat} {w W : World} {F S : List Par} {f : Int → Int} {nE : Nat} {v : Value} (h : St N w W F S f nE v) {p : Addr} (hp : N + 2 ≤ p.block) (hF : ∀ A c, W.cell? ⟨N, 0, none⟩ = some (.slice A F.length c) → ∀ ad, A = some ad → 0 < F.length → ad.block ≠ p.block)
    (hv : v.ownBlock ≠ some p.block) (u : Value) : St N w (W.setCell p u) F S f nE v := by
  obtain ⟨h1, h2, ⟨A, c, h3, h4, h5⟩, h6, h7, h8, h9, ⟨D, h10, h11⟩⟩ := h
  have hne : ∀ i, (⟨N, i, none⟩ : Addr) ≠ p := fun i e => by subst e; exact absurd hp (by simp)
  refine ⟨h1.setCell (by omega) u, by simpa [World.setCell] using h2, ⟨A, c, h3, (World.cell?_setCell_other W p _ u (hne 0).symm).trans h4, ?_⟩, (World.cell?_setCell_other W p _ u (hne 1).symm).trans h6, by rw [World.frozen?_setCell]; exact h7, by rw [World.frozen?_setCell]; exact h8, ?_, D, h10.setCell (by omega) u, h11⟩
  · refine ⟨h5.1, fun hn => ?_⟩
    obtain ⟨ad, e, ho, hc⟩ := h5.2 hn
    refine ⟨ad, e, ho, fun j u' hu => (World.cell?_setCell_other W p _ u (fun e' => ?_)).trans (hc j u' hu)⟩
    have := hF A c h4 ad e hn
    rw [e'] at this
    exact this (block_of_add _ _).symm
  · obtain ⟨r1, r2⟩ := h9
    refine ⟨r1, r2.imp id ?_⟩
    rintro ⟨g, cap, cur, rfl, hb, hh, r⟩
    exact ⟨g, cap, cur, rfl, hb, by rw [Below.heap_setCell _ _ _ _ (fun e => hv (by rw [← e]; rfl))]; exact hh, r⟩

theorem own_setCell {w : World} {base : Nat} {e : TypeId} {size n : Nat} {v : Value} {xs : List Value} (h : w.ownsRow base e size v n xs) {p : Addr} (hv : v.ownBlock ≠ some p.block) (u : Value) : (w.setCell p u).ownsRow base e size v n xs := by
  obtain ⟨r1, r2⟩ := h
  refine ⟨r1, r2.imp id ?_⟩
  rintro ⟨g, cap, cur, rfl, hb, hh, r⟩
  exact ⟨g, cap, cur, rfl, hb, by rw [Below.heap_setCell _ _ _ _ (fun e => hv (by rw [← e]; rfl))]; exact hh, r⟩
theorem cell_set_same {w : World} {p : Addr} {v : Value} (u : Value) (h : w.cell? p = some v) : (w.setCell p u).cell? p = some u := World.cell?_setCell_same' w p u (by rw [h]; rfl)
theorem cell_set_other {w : World} {p q : Addr} {v : Value} (u : Value) (hne : p ≠ q) (h : w.cell? q = some v) : (w.setCell p u).cell? q = some v := (World.cell?_setCell_other w p q u hne).trans h

theorem own_ne_ge {k g B n c : Nat} (h : g < B) (hk : B ≤ k) : some k ≠ (Value.slice (some ⟨g, 0, none⟩) n c).ownBlock := fun e => by
  have e' : k = g := by simpa [Value.ownBlock] using e
  omega
theorem St.ext {N : Nat} {w W : World} {F S : List Par} {f g : Int → Int} {nE : Nat} {v : Value} (h : St N w W F S f nE v) (e : ∀ x, f x = g x) : St N w W F S g nE v := by
  obtain ⟨h1, h2, h3, h6, h7, h8, h9, ⟨D, h10, h11⟩⟩ := h
  exact ⟨h1, h2, h3, h6, h7, h8, h9, D, h10, h11.ext e⟩
/-- The net in block N is another one now. -/
theorem St.setNet {N : Nat} {w W : World} {F F' S : List Par} {f : Int → Int} {nE : Nat} {v : Value} (h : St N w W F S f nE v) (A1 : Option Addr) (c1 n : Nat) (hn : F'.length = n) (hc : n ≤ c1) (hr : Reads W (fun k => N + 2 ≤ k ∧ some k ≠ v.ownBlock) 6 A1 n (F'.flatMap Par.c)) :
    St N w ((W.setCell ⟨N, 0, none⟩ (.slice A1 n c1)).setCell ⟨N, 1, none⟩ (.int .i64 S.length)) F' S f nE v := by
  subst hn
  obtain ⟨h1, h2, ⟨A, c, h3, h4, h5⟩, h6, h7, h8, h9, ⟨D, h10, h11⟩⟩ := h
  have hv : v.ownBlock ≠ some N := fun e => by have := own_block_ge h9 N e; omega
  refine ⟨(h1.setCell (p := ⟨N, 0, none⟩) (Nat.le_refl _) _).setCell (p := ⟨N, 1, none⟩) (Nat.le_refl _) _, by simpa [World.setCell] using h2, ⟨A1, c1, hc, cell_set_other _ (by simp) (cell_set_same _ h4), ?_⟩,
    cell_set_same _ (cell_set_other _ (by simp) h6), by rw [World.frozen?_setCell, World.frozen?_setCell]; exact h7, by rw [World.frozen?_setCell, World.frozen?_setCell]; exact h8, own_setCell (own_setCell h9 hv _) hv _, D, ?_, h11⟩
  · exact (hr.far (p := ⟨N, 0, none⟩) (fun k hk => by have := hk.1; simp; omega) _).far (p := ⟨N, 1, none⟩) (fun k hk => by have := hk.1; simp; omega) _
  · exact (h10.setCell (by simp) _).setCell (by simp) _

/-- Something more was sent. -/
theorem St.append {N : Nat} {w W Y w2 : World} {F F' S : List Par} {p : Par} {f : Int → Int} {nE g cap : Nat} {v : Value} (h : St N w W F S f nE v) (hY : Below W.heap.size W Y) (hg : Y.grownBy w2 v.ownBlock)
    (hown : w2.ownsRow (N + 2) 28 6 (.slice (some ⟨g, 0, none⟩) (S.length + 1) cap) (S.length + 1) (S.flatMap Par.c ++ p.c)) (hloc : v.ownBlock = some g ∨ W.heap.size ≤ g)
    (A1 : Option Addr) (c1 n : Nat) (hn : F'.length = n) (hc : n ≤ c1) (hr : Reads W (fun k => N + 2 ≤ k ∧ some k ≠ v.ownBlock) 6 A1 n (F'.flatMap Par.c)) :
    St N w ((w2.setCell ⟨N, 0, none⟩ (.slice A1 n c1)).setCell ⟨N, 1, none⟩ (.int .i64 (S.length + 1))) F' (S ++ [p]) f nE (.slice (some ⟨g, 0, none⟩) (S.length + 1) cap) := by
  subst hn
  obtain ⟨h1, h2, ⟨A, c, h3, h4, h5⟩, h6, h7, h8, h9, ⟨D, h10, h11⟩⟩ := h
  have hb := own_block_ge h9
  have hne : some N ≠ v.ownBlock := fun e => by have := hb N e.symm; omega
  have hne1 : some (N + 1) ≠ v.ownBlock := fun e => by have := hb _ e.symm; omega
  have hgN := own_block_ge hown g rfl
  have hv' : (Value.slice (some ⟨g, 0, none⟩) (S.length + 1) cap).ownBlock ≠ some N := fun e => by
    have : g = N := by simpa [Value.ownBlock] using e
    omega
  have b2 : Below N w w2 := (below_then h1 (by omega) hY).grown hg (by have := hY.size; omega) (fun k hk => by have := hb k hk; omega)
  refine ⟨(b2.setCell (p := ⟨N, 0, none⟩) (Nat.le_refl _) _).setCell (p := ⟨N, 1, none⟩) (Nat.le_refl _) _, ?_, ⟨A1, c1, hc, cell_set_other _ (by simp) (cell_set_same _ (cell_grown hg hne (cell_below hY h4))), ?_⟩,
    ?_, ?_, ?_, ?_, D, ?_, h11⟩
  · have := hg.size; have := hY.size; simp [World.setCell]; omega
  · have r1 := ((hr.lt (by omega)).below hY).grown hg (fun k hk => hk.1.2)
    refine ((r1.far (p := ⟨N, 0, none⟩) (fun k hk => by have := hk.1.1; simp; omega) _).far (p := ⟨N, 1, none⟩) (fun k hk => by have := hk.1.1; simp; omega) _).mono (fun k hk => ⟨hk.1.1, fun e => ?_⟩)
    have e' : k = g := by simpa [Value.ownBlock] using e
    rcases hloc with hl | hl
    · exact hk.1.2 (by rw [hl, e'])
    · have := hk.2; omega
  · have := cell_set_same (.int .i64 (S.length + 1)) (cell_set_other (p := ⟨N, 0, none⟩) (.slice A1 F'.length c1) (by simp) (cell_grown hg hne (cell_below hY h6)))
    rw [this]; simp
  · rw [World.frozen?_setCell, World.frozen?_setCell]; exact frozen_grown hg hne (cell_below hY h4) (frozen_at hY h4 h7)
  · rw [World.frozen?_setCell, World.frozen?_setCell]; exact frozen_grown hg hne (cell_below hY h6) (frozen_at hY h6 h8)
  · have := own_setCell (p := ⟨N, 1, none⟩) (own_setCell (p := ⟨N, 0, none⟩) hown hv' (.slice A1 F'.length c1)) hv' (.int .i64 (S.length + 1))
    simpa [List.flatMap_append] using this
  · exact (((h10.kept (⟨hY.os, hY.tape, hY.output, hY.size, fun i hi _ => hY.block i hi⟩ : W.grownBy Y none) (by simp)).kept hg hne1).setCell (by simp) _).setCell (by simp) _

/-- The map tells otherwise now. -/
theorem St.setMap {N : Nat} {w W w1 : World} {F S : List Par} {f g : Int → Int} {nE : Nat} {v : Value} (h : St N w W F S f nE v) {D : DataW Unit} (hown : w1.ownsMap Try.prog 3 (plainElem Try.prog 3) (N + 1) (nE + 1) D) (hD : Counts D g) (hg : W.grownBy w1 (some (N + 1))) :
    St N w w1 F S g (nE + 1) v := by
  obtain ⟨h1, h2, ⟨A, c, h3, h4, h5⟩, h6, h7, h8, h9, _⟩ := h
  have hb := own_block_ge h9
  refine ⟨h1.grown hg (by omega) (fun k hk => by injection hk; omega), Nat.le_trans h2 hg.size, ⟨A, c, h3, cell_grown hg (by simp) h4, h5.grown hg (fun k hk e => by injection e; have := hk.1; omega)⟩,
    cell_grown hg (by simp) h6, frozen_grown hg (by simp) h4 h7, frozen_grown hg (by simp) h6 h8, h9.kept hg ?_, D, hown, hD⟩
  by_cases hv : v.ownBlock = none
  · exact .inl hv
  · refine .inr (fun e => ?_)
    have := hb _ e
    omega

end Go.Proofs.Ytejdmefiobgcdaa
