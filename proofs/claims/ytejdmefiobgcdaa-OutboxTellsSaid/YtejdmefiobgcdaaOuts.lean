import Derived.Test.YtejdmefiobgcdaaOutr
namespace Go.Proofs.Ytejdmefiobgcdaa
open Go.RowKit Go.Proofs

theorem putS_len (l : List O) (last kind order now : Int) : (putS l last kind order now).rows.length ≤ l.length + 1 := by
  unfold putS
  repeat' split
  all_goals simp
theorem rLikeT (A B : Option Addr) (l : List O) (c d : Nat) (last : Int) (w : World) (ok ok' : Nat → Prop) (hr : Reads w ok 4 A l.length (l.flatMap O.c)) (hr' : Reads w ok' 4 B l.length (l.flatMap O.c)) (hll : l.length < 4611686018427387904) :
    Calls Try.prog 37 #[.agg #[.int .i64 last, .slice A l.length c], .agg #[.int .i64 last, .slice B l.length d]] w fun e w' => e = .returned (.bool true) ∧ Below w.heap.size w w' := by
  have h := rLike A B l l c d last last w ok ok' hr hr' hll hll
  simpa using h

theorem rLikeNil (A B : Option Addr) (c d : Nat) (w : World) : Calls Try.prog 37 #[.agg #[.int .i64 0, .slice A 0 c], .agg #[.int .i64 0, .slice B 0 d]] w fun e w' => e = .returned (.bool true) ∧ Below w.heap.size w w' :=
  rLikeT A B [] c d 0 w (fun _ => True) (fun _ => True) (Reads.none_ _) (Reads.none_ _) (by simp)
theorem eqNil (W : World) : (binOp .eql 60 (.agg #[.int .i64 0, .int .i64 0, .int .i64 0, .int .i64 0]) (.agg #[.int .i64 0, .int .i64 0, .int .i64 0, .int .i64 0])).run Try.prog W = .ok (.bool true) W := by
  have := eqRun O0 O0 W
  simpa [ov, O0] using this
theorem findO_key {l : List O} {last : Int} {f : O → Bool} (h : OkBox l last) : (idx l f < 0 ∧ findO l f = O0) ∨ (∃ (j : Nat) (o : O), idx l f = j ∧ l[j]? = some o ∧ f o = true ∧ findO l f = o ∧ 0 < o.key) := by
  by_cases hi : idx l f < 0
  · exact .inl ⟨hi, findO_none (fun x hx => List.findIdx?_eq_none_iff.1 (find_none hi) x hx)⟩
  · obtain ⟨j, o, hf, hj, ho, hs⟩ := find_some hi
    have hm := h.1 o (List.mem_of_getElem? ho)
    simp [mayO, num] at hm
    exact .inr ⟨j, o, hj, ho, hs, findO_idx hj ho, by omega⟩
theorem findS_yes {l : List O} {last kind order : Int} (h : OkBox l last) : (findS l last kind order).o = findO l (sameKO kind order) ∧ ((0 < (findS l last kind order).o.key ∧ (findS l last kind order).err = 0) ∨ ((findS l last kind order).o = O0 ∧ (findS l last kind order).err = 8)) := by
  unfold findS
  rw [if_pos h]
  rcases findO_key (f := sameKO kind order) h with ⟨h1, h2⟩ | ⟨j, o, h1, _, _, h2, h3⟩
  · rw [if_pos h1]; exact ⟨h2.symm, .inr ⟨rfl, rfl⟩⟩
  · rw [if_neg (by omega)]; exact ⟨rfl, .inl ⟨by rw [h2]; exact h3, rfl⟩⟩
theorem filter_keys (key : Int) : ∀ {l : List O} (_ : l.Pairwise Rel) {j : Nat} {o : O} (_ : l[j]? = some o) (_ : o.key = key), l.filter (fun o => !sameKey key o) = l.eraseIdx j := by
  intro l
  induction l with
  | nil => intro _ j o hj _; simp at hj
  | cons x l ih =>
    intro h j o hj hk
    have h1 := (List.pairwise_cons.1 h).1
    cases j with
    | zero =>
      simp at hj
      subst hj
      have : l.filter (fun o => !sameKey key o) = l := List.filter_eq_self.2 (fun y hy => by
        have := (h1 y hy).1
        simp [sameKey]; omega)
      rw [List.filter_cons_of_neg (by simp [sameKey, hk]), this]; rfl
    | succ j =>
      have hj' : l[j]? = some o := by simpa using hj
      have := (h1 o (List.mem_of_getElem? hj')).1
      have hx : sameKey key x = false := by simp [sameKey]; omega
      simp only [List.eraseIdx_cons_succ]
      rw [List.filter_cons_of_pos (by simp [hx]), ih (List.pairwise_cons.1 h).2 hj' hk]
theorem doneS_yes {l : List O} {last key : Int} (h : OkBox l last) : (doneS l last key = ⟨0, [], O0, 8⟩ ∧ findO l (sameKey key) = O0) ∨ (doneS l last key = ⟨last, doneL l key, findO l (sameKey key), 0⟩ ∧ 0 < (findO l (sameKey key)).key) := by
  unfold doneS
  rw [if_pos h]
  rcases findO_key (f := sameKey key) h with ⟨h1, h2⟩ | ⟨j, o, h1, ho, hs, h2, h3⟩
  · rw [if_pos h1]; exact .inl ⟨rfl, h2⟩
  · rw [if_neg (by omega)]
    refine .inr ⟨?_, by rw [h2]; exact h3⟩
    have hk : o.key = key := by simpa [sameKey] using hs
    rw [h1, Int.toNat_natCast]
    unfold doneL
    rw [filter_keys key h.2.1 ho hk]
theorem rSameT (A B : Option Addr) (l : List O) (c d : Nat) (w : World) (ok ok' : Nat → Prop) (hr : Reads w ok 4 A l.length (l.flatMap O.c)) (hr' : Reads w ok' 4 B l.length (l.flatMap O.c)) (hll : l.length < 4611686018427387904) :
    Calls Try.prog 40 #[.slice A l.length c, .slice B l.length d] w fun e w' => e = .returned (.bool true) ∧ Below w.heap.size w w' := by
  have h := rSame A B l l c d w ok ok' hr hr' hll hll
  simpa using h
set_option maxRecDepth 100000 in
set_option maxHeartbeats 20000000 in
theorem goes_any (A : Option Addr) (l : List O) (c : Nat) (last kind order now key : Int) (w : World) (hr : Reads w (fun _ => True) 4 A l.length (l.flatMap O.c)) (hlc : l.length ≤ c) (hll : l.length ≤ 9223372036854775807) :
    Calls Try.prog 7 #[.agg #[.int .i64 last, .slice A l.length c], .int .i64 kind, .int .i64 order, .int .i64 now, .int .i64 key] w fun e w' => e = .returned (.bool true) ∧ Below w.heap.size w w' := by
  obtain ⟨L, hL⟩ : ∃ L, L = l.take 98 := ⟨_, rfl⟩
  have hLl : L.length = min l.length 98 := by rw [hL, List.length_take]; omega
  have hL98 : L.length ≤ 98 := by omega
  have hrows : ∀ W, Below w.heap.size w W → Rows W A L c := fun W h => by
    have h1 := (hr.below h).take (m := L.length) (by omega)
    rw [flat_take O.c 4 O.len, hLl] at h1
    have h2 : l.take (min l.length 98) = L := by
      rw [hL]
      rcases Nat.le_total l.length 98 with h | h
      · rw [Nat.min_eq_left h, List.take_length, List.take_of_length_le h]
      · rw [Nat.min_eq_right h]
    rw [h2, ← hLl] at h1
    exact ⟨h1, by omega⟩
  have hfew := Lib.hid (fun W => hLl ▸ lFew A l.length c last W hlc hll)
  have hPut := fun W h => sPut A L c last kind order now W (hrows W h) hL98
  have hRPut := fun W h => tPut A L c last kind order now W (hrows W h) hL98
  generalize hPd : putS L last kind order now = P at hPut hRPut
  have hDone := fun W h => sDone A L c last key W (hrows W h) hL98
  generalize hDd : doneS L last key = D at hDone
  have hFind := fun W h => sFind A L c last kind order W (hrows W h) hL98
  generalize hFd : findS L last kind order = F at hFind
  have hTell := fun W h => sTell A L c last now W (hrows W h) hL98
  generalize hTd : tellS L last now = T at hTell
  have hRt := fun W (h : Below w.heap.size w W) => oRight A L c last W _ (hrows W h).1 (by omega)
  have hRr := fun W (h : Below w.heap.size w W) => rRight A L c last W _ (hrows W h).1 (hrows W h).2 (by omega)
  unfold ov at hDone hFind
  replace hPut := Lib.hid hPut
  replace hRPut := Lib.hid hRPut
  replace hDone := Lib.hid hDone
  replace hFind := Lib.hid hFind
  replace hTell := Lib.hid hTell
  replace hRt := Lib.hid hRt
  replace hRr := Lib.hid hRr
  replace hrows := Lib.hid hrows
  replace hPd := Lib.hid hPd
  replace hDd := Lib.hid hDd
  replace hFd := Lib.hid hFd
  replace hTd := Lib.hid hTd
  replace hLl := Lib.hid hLl
  clear hL hr
  have hb0 := Below.refl w.heap.size w
  go_enter Try.func7, Try.ntmps7
  go_wp2_with fail
  refine (hfew.out _).mono ?_
  rintro e w1 ⟨rfl, hb1⟩
  have hs1 := hb1.size
  simp at hs1
  have hs1a : w.heap.size < w1.heap.size := by omega
  have bc0 : w1.cell? ⟨w.heap.size, 0, none⟩ = some (.int .i64 last) := cell_below hb1 (by simp [go_sem, *])
  have bf0 : w1.frozen? ⟨w.heap.size, 0, none⟩ = false := frozen_below hb1 (by simp; try omega) (by simp [go_sem, *])
  have bc1 : w1.cell? ⟨w.heap.size, 1, none⟩ = some (.slice A l.length c) := cell_below hb1 (by simp [go_sem, *])
  have bf1 : w1.frozen? ⟨w.heap.size, 1, none⟩ = false := frozen_below hb1 (by simp; try omega) (by simp [go_sem, *])
  have hbw1 := below_then (hb0.alloc (Nat.le_refl _) _) (by simp) hb1
  clear hb1 hfew hs1 hb0
  go_wp2_with fail
  generalize hx1 : World.setCell (World.setCell w1 _ _) _ _ = x1
  have hbx : Below w.heap.size w x1 := by
    rw [← hx1]
    ((repeat (first | with_reducible exact hbw1 | with_reducible refine Below.drew ?_ | with_reducible refine Below.alloc ?_ ?_ _ | with_reducible refine Below.setCell ?_ ?_ _)); all_goals first | omega | (simp; done) | (simp; omega))
  have bc0' : x1.cell? ⟨w.heap.size, 0, none⟩ = some (.int .i64 last) := by rw [← hx1]; clear hx1; simp [go_sem, *]
  have bc1' : x1.cell? ⟨w.heap.size, 1, none⟩ = some (.slice A L.length c) := by rw [← hx1]; clear hx1 bc0'; simp [go_sem, *]
  have bf0' : x1.frozen? ⟨w.heap.size, 0, none⟩ = false := by rw [← hx1]; clear hx1 bc0' bc1'; simp [go_sem, *]
  have bf1' : x1.frozen? ⟨w.heap.size, 1, none⟩ = false := by rw [← hx1]; clear hx1 bc0' bc1'; simp [go_sem, *]
  clear hx1 bc0 bc1 bf0 bf1 hbw1
  have bc0 := bc0'
  have bc1 := bc1'
  have bf0 := bf0'
  have bf1 := bf1'
  clear bc0' bc1' bf0' bf1' hs1a
  refine (hPut.out _ hbx).mono ?_
  rintro e w2 ⟨A2, c2, rfl, hr2, hb⟩
  have hq := hb.size
  replace bf0 := frozen_at hb bc0 bf0
  replace bc0 := cell_below hb bc0
  replace bf1 := frozen_at hb bc1 bf1
  replace bc1 := cell_below hb bc1
  replace hr2 := Lib.hid hr2
  have hbn := below_then hbx (by have := hbx.size; omega) hb
  have hszw2 := hbn.size
  have hszbw2 : w.heap.size < w2.heap.size := lt_of_cell bc0
  clear hb hbx hq
  have hHn : Holds (w2.alloc (.cells #[.int .i64 P.last, .slice A2 P.rows.length c2] 53)) [(⟨w2.heap.size, 0, none⟩, .int .i64 P.last), (⟨w2.heap.size, 1, none⟩, .slice A2 P.rows.length c2)] := by
    have h0 := Holds.nil w2
    exact Holds.cons' (Holds.cons' (Holds.new w2 #[.int .i64 P.last, .slice A2 P.rows.length c2] 53 (g := w2.heap.size) (by simp) 0 (v := .int .i64 P.last) rfl) (.nil _)).one (Holds.cons' (Holds.cons' (Holds.new w2 #[.int .i64 P.last, .slice A2 P.rows.length c2] 53 (g := w2.heap.size) (by simp) 1 (v := .slice A2 P.rows.length c2) rfl) (.nil _)).one ((h0.alloc _)))
  have hH := Lib.hid hHn
  clear hHn
  replace hr2 := Lib.hid ((hr2.out).below ((Below.refl _ _).alloc (Nat.le_refl _) (.cells #[.int .i64 P.last, .slice A2 P.rows.length c2] 53)))
  have hbx := (hbn.alloc hszw2 (.cells #[.int .i64 P.last, .slice A2 P.rows.length c2] 53))
  clear hbn
  go_wp2_with fail
  refine (hDone.out _ hbx).mono ?_
  rintro e w3 ⟨A3, c3, rfl, hr3, hb⟩
  have hq := hb.size
  have hbc : Below w2.heap.size w2 w3 := below_then ((Below.refl _ _).alloc (Nat.le_refl _) (.cells #[.int .i64 P.last, .slice A2 P.rows.length c2] 53)) (by simp) hb
  replace bf0 := frozen_at hbc bc0 bf0
  replace bc0 := cell_below hbc bc0
  replace bf1 := frozen_at hbc bc1 bf1
  replace bc1 := cell_below hbc bc1
  clear hbc
  replace hH := Lib.hid (hH.out.below hb)
  replace hr2 := Lib.hid (hr2.out.below hb)
  replace hr3 := Lib.hid hr3
  have hbn := below_then hbx (by have := hbx.size; omega) hb
  have hszw3 := hbn.size
  have hszbw3 : w.heap.size < w3.heap.size := lt_of_cell bc0
  clear hb hbx hq
  have hHn : Holds ((w3.alloc (.cells #[.int .i64 D.last, .slice A3 D.rows.length c3] 53)).alloc (.cells #[.int .i64 D.o.key, .int .i64 D.o.kind, .int .i64 D.o.order, .int .i64 D.o.due] 60)) [(⟨w3.heap.size, 0, none⟩, .int .i64 D.last), (⟨w3.heap.size, 1, none⟩, .slice A3 D.rows.length c3), (⟨w3.heap.size + 1, 0, none⟩, .int .i64 D.o.key), (⟨w3.heap.size + 1, 1, none⟩, .int .i64 D.o.kind), (⟨w3.heap.size + 1, 2, none⟩, .int .i64 D.o.order), (⟨w3.heap.size + 1, 3, none⟩, .int .i64 D.o.due), (⟨w2.heap.size, 0, none⟩, .int .i64 P.last), (⟨w2.heap.size, 1, none⟩, .slice A2 P.rows.length c2)] := by
    have h0 := hH.out
    exact Holds.cons' ((Holds.cons' (Holds.new w3 #[.int .i64 D.last, .slice A3 D.rows.length c3] 53 (g := w3.heap.size) (by simp) 0 (v := .int .i64 D.last) rfl) (.nil _)).alloc _).one (Holds.cons' ((Holds.cons' (Holds.new w3 #[.int .i64 D.last, .slice A3 D.rows.length c3] 53 (g := w3.heap.size) (by simp) 1 (v := .slice A3 D.rows.length c3) rfl) (.nil _)).alloc _).one (Holds.cons' (Holds.cons' (Holds.new (w3.alloc (.cells #[.int .i64 D.last, .slice A3 D.rows.length c3] 53)) #[.int .i64 D.o.key, .int .i64 D.o.kind, .int .i64 D.o.order, .int .i64 D.o.due] 60 (g := w3.heap.size + 1) (by simp) 0 (v := .int .i64 D.o.key) rfl) (.nil _)).one (Holds.cons' (Holds.cons' (Holds.new (w3.alloc (.cells #[.int .i64 D.last, .slice A3 D.rows.length c3] 53)) #[.int .i64 D.o.key, .int .i64 D.o.kind, .int .i64 D.o.order, .int .i64 D.o.due] 60 (g := w3.heap.size + 1) (by simp) 1 (v := .int .i64 D.o.kind) rfl) (.nil _)).one (Holds.cons' (Holds.cons' (Holds.new (w3.alloc (.cells #[.int .i64 D.last, .slice A3 D.rows.length c3] 53)) #[.int .i64 D.o.key, .int .i64 D.o.kind, .int .i64 D.o.order, .int .i64 D.o.due] 60 (g := w3.heap.size + 1) (by simp) 2 (v := .int .i64 D.o.order) rfl) (.nil _)).one (Holds.cons' (Holds.cons' (Holds.new (w3.alloc (.cells #[.int .i64 D.last, .slice A3 D.rows.length c3] 53)) #[.int .i64 D.o.key, .int .i64 D.o.kind, .int .i64 D.o.order, .int .i64 D.o.due] 60 (g := w3.heap.size + 1) (by simp) 3 (v := .int .i64 D.o.due) rfl) (.nil _)).one (((h0.alloc _).alloc _)))))))
    
  replace hH := Lib.hid hHn
  clear hHn
  replace hr3 := Lib.hid (((hr3.out).below ((Below.refl _ _).alloc (Nat.le_refl _) (.cells #[.int .i64 D.last, .slice A3 D.rows.length c3] 53))).below ((Below.refl _ _).alloc (Nat.le_refl _) (.cells #[.int .i64 D.o.key, .int .i64 D.o.kind, .int .i64 D.o.order, .int .i64 D.o.due] 60)))
  replace hr2 := Lib.hid (((hr2.out).below ((Below.refl _ _).alloc (Nat.le_refl _) (.cells #[.int .i64 D.last, .slice A3 D.rows.length c3] 53))).below ((Below.refl _ _).alloc (Nat.le_refl _) (.cells #[.int .i64 D.o.key, .int .i64 D.o.kind, .int .i64 D.o.order, .int .i64 D.o.due] 60)))
  have hbx := ((hbn.alloc hszw3 (.cells #[.int .i64 D.last, .slice A3 D.rows.length c3] 53)).alloc (by simp; omega) (.cells #[.int .i64 D.o.key, .int .i64 D.o.kind, .int .i64 D.o.order, .int .i64 D.o.due] 60))
  clear hbn
  go_wp2_with fail
  refine (hFind.out _ hbx).mono ?_
  rintro e w4 ⟨rfl, hb⟩
  have hq := hb.size
  have hbc : Below w3.heap.size w3 w4 := below_then (((Below.refl _ _).alloc (Nat.le_refl _) (.cells #[.int .i64 D.last, .slice A3 D.rows.length c3] 53)).alloc (by simp) (.cells #[.int .i64 D.o.key, .int .i64 D.o.kind, .int .i64 D.o.order, .int .i64 D.o.due] 60)) (by simp; omega) hb
  replace bf0 := frozen_at hbc bc0 bf0
  replace bc0 := cell_below hbc bc0
  replace bf1 := frozen_at hbc bc1 bf1
  replace bc1 := cell_below hbc bc1
  clear hbc
  replace hH := Lib.hid (hH.out.below hb)
  replace hr2 := Lib.hid (hr2.out.below hb)
  replace hr3 := Lib.hid (hr3.out.below hb)
  have hbn := below_then hbx (by have := hbx.size; omega) hb
  have hszw4 := hbn.size
  have hszbw4 : w.heap.size < w4.heap.size := lt_of_cell bc0
  clear hb hbx hq
  have hHn : Holds (w4.alloc (.cells #[.int .i64 F.o.key, .int .i64 F.o.kind, .int .i64 F.o.order, .int .i64 F.o.due] 60)) [(⟨w4.heap.size, 0, none⟩, .int .i64 F.o.key), (⟨w4.heap.size, 1, none⟩, .int .i64 F.o.kind), (⟨w4.heap.size, 2, none⟩, .int .i64 F.o.order), (⟨w4.heap.size, 3, none⟩, .int .i64 F.o.due), (⟨w3.heap.size, 0, none⟩, .int .i64 D.last), (⟨w3.heap.size, 1, none⟩, .slice A3 D.rows.length c3), (⟨w3.heap.size + 1, 0, none⟩, .int .i64 D.o.key), (⟨w3.heap.size + 1, 1, none⟩, .int .i64 D.o.kind), (⟨w3.heap.size + 1, 2, none⟩, .int .i64 D.o.order), (⟨w3.heap.size + 1, 3, none⟩, .int .i64 D.o.due), (⟨w2.heap.size, 0, none⟩, .int .i64 P.last), (⟨w2.heap.size, 1, none⟩, .slice A2 P.rows.length c2)] := by
    have h0 := hH.out
    exact Holds.cons' (Holds.cons' (Holds.new w4 #[.int .i64 F.o.key, .int .i64 F.o.kind, .int .i64 F.o.order, .int .i64 F.o.due] 60 (g := w4.heap.size) (by simp) 0 (v := .int .i64 F.o.key) rfl) (.nil _)).one (Holds.cons' (Holds.cons' (Holds.new w4 #[.int .i64 F.o.key, .int .i64 F.o.kind, .int .i64 F.o.order, .int .i64 F.o.due] 60 (g := w4.heap.size) (by simp) 1 (v := .int .i64 F.o.kind) rfl) (.nil _)).one (Holds.cons' (Holds.cons' (Holds.new w4 #[.int .i64 F.o.key, .int .i64 F.o.kind, .int .i64 F.o.order, .int .i64 F.o.due] 60 (g := w4.heap.size) (by simp) 2 (v := .int .i64 F.o.order) rfl) (.nil _)).one (Holds.cons' (Holds.cons' (Holds.new w4 #[.int .i64 F.o.key, .int .i64 F.o.kind, .int .i64 F.o.order, .int .i64 F.o.due] 60 (g := w4.heap.size) (by simp) 3 (v := .int .i64 F.o.due) rfl) (.nil _)).one ((h0.alloc _)))))
    
  replace hH := Lib.hid hHn
  clear hHn
  replace hr2 := Lib.hid ((hr2.out).below ((Below.refl _ _).alloc (Nat.le_refl _) (.cells #[.int .i64 F.o.key, .int .i64 F.o.kind, .int .i64 F.o.order, .int .i64 F.o.due] 60)))
  replace hr3 := Lib.hid ((hr3.out).below ((Below.refl _ _).alloc (Nat.le_refl _) (.cells #[.int .i64 F.o.key, .int .i64 F.o.kind, .int .i64 F.o.order, .int .i64 F.o.due] 60)))
  have hbx := (hbn.alloc hszw4 (.cells #[.int .i64 F.o.key, .int .i64 F.o.kind, .int .i64 F.o.order, .int .i64 F.o.due] 60))
  clear hbn
  go_wp2_with fail
  refine (hTell.out _ hbx).mono ?_
  rintro e w5 ⟨A5, c5, B5, d5, rfl, hr5, ht5, hb⟩
  have hq := hb.size
  have hbc : Below w4.heap.size w4 w5 := below_then ((Below.refl _ _).alloc (Nat.le_refl _) (.cells #[.int .i64 F.o.key, .int .i64 F.o.kind, .int .i64 F.o.order, .int .i64 F.o.due] 60)) (by simp) hb
  replace bf0 := frozen_at hbc bc0 bf0
  replace bc0 := cell_below hbc bc0
  replace bf1 := frozen_at hbc bc1 bf1
  replace bc1 := cell_below hbc bc1
  clear hbc
  replace hH := Lib.hid (hH.out.below hb)
  replace hr2 := Lib.hid (hr2.out.below hb)
  replace hr3 := Lib.hid (hr3.out.below hb)
  replace hr5 := Lib.hid hr5
  replace ht5 := Lib.hid ht5
  have hbn := below_then hbx (by have := hbx.size; omega) hb
  have hszw5 := hbn.size
  have hszbw5 : w.heap.size < w5.heap.size := lt_of_cell bc0
  clear hb hbx hq
  have hHn : Holds ((w5.alloc (.cells #[.int .i64 T.last, .slice A5 T.rows.length c5] 53)).alloc (.cells #[.int .i64 0, .slice none 0 0] 53)) [(⟨w5.heap.size, 0, none⟩, .int .i64 T.last), (⟨w5.heap.size, 1, none⟩, .slice A5 T.rows.length c5), (⟨w5.heap.size + 1, 0, none⟩, .int .i64 0), (⟨w5.heap.size + 1, 1, none⟩, .slice none 0 0), (⟨w4.heap.size, 0, none⟩, .int .i64 F.o.key), (⟨w4.heap.size, 1, none⟩, .int .i64 F.o.kind), (⟨w4.heap.size, 2, none⟩, .int .i64 F.o.order), (⟨w4.heap.size, 3, none⟩, .int .i64 F.o.due), (⟨w3.heap.size, 0, none⟩, .int .i64 D.last), (⟨w3.heap.size, 1, none⟩, .slice A3 D.rows.length c3), (⟨w3.heap.size + 1, 0, none⟩, .int .i64 D.o.key), (⟨w3.heap.size + 1, 1, none⟩, .int .i64 D.o.kind), (⟨w3.heap.size + 1, 2, none⟩, .int .i64 D.o.order), (⟨w3.heap.size + 1, 3, none⟩, .int .i64 D.o.due), (⟨w2.heap.size, 0, none⟩, .int .i64 P.last), (⟨w2.heap.size, 1, none⟩, .slice A2 P.rows.length c2)] := by
    have h0 := hH.out
    exact Holds.cons' ((Holds.cons' (Holds.new w5 #[.int .i64 T.last, .slice A5 T.rows.length c5] 53 (g := w5.heap.size) (by simp) 0 (v := .int .i64 T.last) rfl) (.nil _)).alloc _).one (Holds.cons' ((Holds.cons' (Holds.new w5 #[.int .i64 T.last, .slice A5 T.rows.length c5] 53 (g := w5.heap.size) (by simp) 1 (v := .slice A5 T.rows.length c5) rfl) (.nil _)).alloc _).one (Holds.cons' (Holds.cons' (Holds.new (w5.alloc (.cells #[.int .i64 T.last, .slice A5 T.rows.length c5] 53)) #[.int .i64 0, .slice none 0 0] 53 (g := w5.heap.size + 1) (by simp) 0 (v := .int .i64 0) rfl) (.nil _)).one (Holds.cons' (Holds.cons' (Holds.new (w5.alloc (.cells #[.int .i64 T.last, .slice A5 T.rows.length c5] 53)) #[.int .i64 0, .slice none 0 0] 53 (g := w5.heap.size + 1) (by simp) 1 (v := .slice none 0 0) rfl) (.nil _)).one (((h0.alloc _).alloc _)))))
    
  replace hH := Lib.hid hHn
  clear hHn
  replace hr5 := Lib.hid (((hr5.out).below ((Below.refl _ _).alloc (Nat.le_refl _) (.cells #[.int .i64 T.last, .slice A5 T.rows.length c5] 53))).below ((Below.refl _ _).alloc (Nat.le_refl _) (.cells #[.int .i64 0, .slice none 0 0] 53)))
  replace ht5 := Lib.hid (((ht5.out).below ((Below.refl _ _).alloc (Nat.le_refl _) (.cells #[.int .i64 T.last, .slice A5 T.rows.length c5] 53))).below ((Below.refl _ _).alloc (Nat.le_refl _) (.cells #[.int .i64 0, .slice none 0 0] 53)))
  replace hr2 := Lib.hid (((hr2.out).below ((Below.refl _ _).alloc (Nat.le_refl _) (.cells #[.int .i64 T.last, .slice A5 T.rows.length c5] 53))).below ((Below.refl _ _).alloc (Nat.le_refl _) (.cells #[.int .i64 0, .slice none 0 0] 53)))
  replace hr3 := Lib.hid (((hr3.out).below ((Below.refl _ _).alloc (Nat.le_refl _) (.cells #[.int .i64 T.last, .slice A5 T.rows.length c5] 53))).below ((Below.refl _ _).alloc (Nat.le_refl _) (.cells #[.int .i64 0, .slice none 0 0] 53)))
  have hbx := ((hbn.alloc hszw5 (.cells #[.int .i64 T.last, .slice A5 T.rows.length c5] 53)).alloc (by simp; omega) (.cells #[.int .i64 0, .slice none 0 0] 53))
  clear hbn
  go_wp2_with fail
  refine (hRPut.out _ hbx).mono ?_
  rintro e w6 ⟨A6, c6, rfl, hr6, hb⟩
  have hq := hb.size
  have hbc : Below w5.heap.size w5 w6 := below_then (((Below.refl _ _).alloc (Nat.le_refl _) (.cells #[.int .i64 T.last, .slice A5 T.rows.length c5] 53)).alloc (by simp) (.cells #[.int .i64 0, .slice none 0 0] 53)) (by simp; omega) hb
  replace bf0 := frozen_at hbc bc0 bf0
  replace bc0 := cell_below hbc bc0
  replace bf1 := frozen_at hbc bc1 bf1
  replace bc1 := cell_below hbc bc1
  clear hbc
  replace hH := Lib.hid (hH.out.below hb)
  replace hr2 := Lib.hid (hr2.out.below hb)
  replace hr3 := Lib.hid (hr3.out.below hb)
  replace hr5 := Lib.hid (hr5.out.below hb)
  replace ht5 := Lib.hid (ht5.out.below hb)
  replace hr6 := Lib.hid hr6
  have hbn := below_then hbx (by have := hbx.size; omega) hb
  have hszw6 := hbn.size
  have hszbw6 : w.heap.size < w6.heap.size := lt_of_cell bc0
  clear hb hbx hq
  have hHn : Holds (w6.alloc (.cells #[.int .i64 P.last, .slice A6 P.rows.length c6, .int .i64 P.key, .int .i64 P.err] 74)) [(⟨w6.heap.size, 0, none⟩, .int .i64 P.last), (⟨w6.heap.size, 1, none⟩, .slice A6 P.rows.length c6), (⟨w6.heap.size, 2, none⟩, .int .i64 P.key), (⟨w6.heap.size, 3, none⟩, .int .i64 P.err), (⟨w5.heap.size, 0, none⟩, .int .i64 T.last), (⟨w5.heap.size, 1, none⟩, .slice A5 T.rows.length c5), (⟨w5.heap.size + 1, 0, none⟩, .int .i64 0), (⟨w5.heap.size + 1, 1, none⟩, .slice none 0 0), (⟨w4.heap.size, 0, none⟩, .int .i64 F.o.key), (⟨w4.heap.size, 1, none⟩, .int .i64 F.o.kind), (⟨w4.heap.size, 2, none⟩, .int .i64 F.o.order), (⟨w4.heap.size, 3, none⟩, .int .i64 F.o.due), (⟨w3.heap.size, 0, none⟩, .int .i64 D.last), (⟨w3.heap.size, 1, none⟩, .slice A3 D.rows.length c3), (⟨w3.heap.size + 1, 0, none⟩, .int .i64 D.o.key), (⟨w3.heap.size + 1, 1, none⟩, .int .i64 D.o.kind), (⟨w3.heap.size + 1, 2, none⟩, .int .i64 D.o.order), (⟨w3.heap.size + 1, 3, none⟩, .int .i64 D.o.due), (⟨w2.heap.size, 0, none⟩, .int .i64 P.last), (⟨w2.heap.size, 1, none⟩, .slice A2 P.rows.length c2)] := by
    have h0 := hH.out
    exact Holds.cons' (Holds.cons' (Holds.new w6 #[.int .i64 P.last, .slice A6 P.rows.length c6, .int .i64 P.key, .int .i64 P.err] 74 (g := w6.heap.size) (by simp) 0 (v := .int .i64 P.last) rfl) (.nil _)).one (Holds.cons' (Holds.cons' (Holds.new w6 #[.int .i64 P.last, .slice A6 P.rows.length c6, .int .i64 P.key, .int .i64 P.err] 74 (g := w6.heap.size) (by simp) 1 (v := .slice A6 P.rows.length c6) rfl) (.nil _)).one (Holds.cons' (Holds.cons' (Holds.new w6 #[.int .i64 P.last, .slice A6 P.rows.length c6, .int .i64 P.key, .int .i64 P.err] 74 (g := w6.heap.size) (by simp) 2 (v := .int .i64 P.key) rfl) (.nil _)).one (Holds.cons' (Holds.cons' (Holds.new w6 #[.int .i64 P.last, .slice A6 P.rows.length c6, .int .i64 P.key, .int .i64 P.err] 74 (g := w6.heap.size) (by simp) 3 (v := .int .i64 P.err) rfl) (.nil _)).one ((h0.alloc _)))))
    
  replace hH := Lib.hid hHn
  clear hHn
  replace hr6 := Lib.hid ((hr6.out).below ((Below.refl _ _).alloc (Nat.le_refl _) (.cells #[.int .i64 P.last, .slice A6 P.rows.length c6, .int .i64 P.key, .int .i64 P.err] 74)))
  replace hr2 := Lib.hid ((hr2.out).below ((Below.refl _ _).alloc (Nat.le_refl _) (.cells #[.int .i64 P.last, .slice A6 P.rows.length c6, .int .i64 P.key, .int .i64 P.err] 74)))
  replace hr3 := Lib.hid ((hr3.out).below ((Below.refl _ _).alloc (Nat.le_refl _) (.cells #[.int .i64 P.last, .slice A6 P.rows.length c6, .int .i64 P.key, .int .i64 P.err] 74)))
  replace hr5 := Lib.hid ((hr5.out).below ((Below.refl _ _).alloc (Nat.le_refl _) (.cells #[.int .i64 P.last, .slice A6 P.rows.length c6, .int .i64 P.key, .int .i64 P.err] 74)))
  replace ht5 := Lib.hid ((ht5.out).below ((Below.refl _ _).alloc (Nat.le_refl _) (.cells #[.int .i64 P.last, .slice A6 P.rows.length c6, .int .i64 P.key, .int .i64 P.err] 74)))
  have hbx := (hbn.alloc hszw6 (.cells #[.int .i64 P.last, .slice A6 P.rows.length c6, .int .i64 P.key, .int .i64 P.err] 74))
  clear hbn
  go_upto_region 8 with fail
  have hbX0 : Below w6.heap.size w6 (w6.alloc (.cells #[.int .i64 P.last, .slice A6 P.rows.length c6, .int .i64 P.key, .int .i64 P.err] 74)) := (Below.refl _ _).alloc (Nat.le_refl _) _
  replace bf0 := frozen_at hbX0 bc0 bf0
  replace bc0 := cell_below hbX0 bc0
  replace bf1 := frozen_at hbX0 bc1 bf1
  replace bc1 := cell_below hbX0 bc1
  clear hbX0
  have hsX : w6.heap.size < (w6.alloc (.cells #[.int .i64 P.last, .slice A6 P.rows.length c6, .int .i64 P.key, .int .i64 P.err] 74)).heap.size := by simp
  generalize hXd : World.alloc w6 _ = X at hH hr2 hr3 hr5 ht5 hr6 hbx bc0 bc1 bf0 bf1 hsX ⊢
  clear hXd
  have hwX := hbx.size
  have xb := lt_of_cell bc0
  dsimp only at xb
  have gRt := Lib.hid (fun W (h : Below X.heap.size X W) => calls_good (hRt.out W (hbx.trans (h.mono hwX))) h)
  have gRr := Lib.hid (fun W (h : Below X.heap.size X W) => calls_good (hRr.out W (hbx.trans (h.mono hwX))) h)
  have gAl := Lib.hid (fun W (h : Below X.heap.size X W) => calls_good (lAlive W) h)
  have hPl : P.rows.length ≤ 99 := by rw [← hPd.out]; have := putS_len L last kind order now; omega
  have gLk := Lib.hid (fun W (h : Below X.heap.size X W) => calls_good (rLikeT A2 A6 P.rows c2 c6 P.last W _ _ (hr2.out.1.below h) (hr6.out.1.below h) (by omega)) h)
  have hw65 : w2.heap.size < X.heap.size := by have := lt_of_cell (hH.out.get 18 rfl).1; exact this
  obtain ⟨B, hB⟩ : ∃ B, B = decide (OkBox L last) := ⟨_, rfl⟩
  rw [← hB] at gRt gRr hRr
  clear hRt hPut hDone hFind hTell hRPut
  replace hB := Lib.hid hB
  go_cut [91] (fun v91 wc => v91 = .bool false ∧ Below X.heap.size X wc)
  case first =>
    have hS := Lib.hid (fun W (h : Below X.heap.size X W) => (show Below X.heap.size X W ∧ W.cell? ⟨w.heap.size, 0, none⟩ = some (.int .i64 last) ∧ W.cell? ⟨w.heap.size, 1, none⟩ = some (.slice A L.length c) ∧ W.cell? ⟨w2.heap.size, 0, none⟩ = some (.int .i64 P.last) ∧ W.cell? ⟨w2.heap.size, 1, none⟩ = some (.slice A2 P.rows.length c2) ∧
      W.cell? ⟨w6.heap.size, 0, none⟩ = some (.int .i64 P.last) ∧ W.cell? ⟨w6.heap.size, 1, none⟩ = some (.slice A6 P.rows.length c6) ∧ W.cell? ⟨w6.heap.size, 2, none⟩ = some (.int .i64 P.key) ∧ W.cell? ⟨w6.heap.size, 3, none⟩ = some (.int .i64 P.err) from
      ⟨h, cell_below h bc0, cell_below h bc1, cell_below h (hH.out.get 18 rfl).1, cell_below h (hH.out.get 19 rfl).1, cell_below h (hH.out.get 0 rfl).1, cell_below h (hH.out.get 1 rfl).1, cell_below h (hH.out.get 2 rfl).1, cell_below h (hH.out.get 3 rfl).1⟩))
    have hX0 : Below X.heap.size X X.drew := (Below.refl _ _).drew
    go_region_held3 (fun W => Below X.heap.size X W ∧ W.cell? ⟨w.heap.size, 0, none⟩ = some (.int .i64 last) ∧ W.cell? ⟨w.heap.size, 1, none⟩ = some (.slice A L.length c) ∧ W.cell? ⟨w2.heap.size, 0, none⟩ = some (.int .i64 P.last) ∧ W.cell? ⟨w2.heap.size, 1, none⟩ = some (.slice A2 P.rows.length c2) ∧
      W.cell? ⟨w6.heap.size, 0, none⟩ = some (.int .i64 P.last) ∧ W.cell? ⟨w6.heap.size, 1, none⟩ = some (.slice A6 P.rows.length c6) ∧ W.cell? ⟨w6.heap.size, 2, none⟩ = some (.int .i64 P.key) ∧ W.cell? ⟨w6.heap.size, 3, none⟩ = some (.int .i64 P.err))
      (exact hS.out _ (by assumption))
      (first
        | (go_at_call 30; refine (gRt.out _ (by assumption)).mono ?_; rintro e wn ⟨rfl, hbn⟩)
        | (go_at_call 36; refine (gRr.out _ (by assumption)).mono ?_; rintro e wn ⟨rfl, hbn⟩)
        | (go_at_call 37; refine (gLk.out _ (by assumption)).mono ?_; rintro e wn ⟨rfl, hbn⟩)
        | (go_at_call 31; refine (gAl.out _ (by assumption)).mono ?_; rintro e wn ⟨rfl, hbn⟩))
    all_goals
      go_wp2_with fail
      go_meet
      case rel => exact ⟨by simp, by assumption⟩
  case rest =>
    obtain ⟨rfl, hbc⟩ := hcut
    rename World => W8
    replace bf0 := frozen_at hbc bc0 bf0
    replace bc0 := cell_below hbc bc0
    replace bf1 := frozen_at hbc bc1 bf1
    replace bc1 := cell_below hbc bc1
    replace hH := Lib.hid (hH.out.below hbc)
    replace hr2 := Lib.hid (hr2.out.below hbc)
    replace hr3 := Lib.hid (hr3.out.below hbc)
    replace hr5 := Lib.hid (hr5.out.below hbc)
    replace ht5 := Lib.hid (ht5.out.below hbc)
    replace hrows := Lib.hid (fun W (h : Below W8.heap.size W8 W) => hrows.out W (hbx.trans ((below_then hbc hbc.size h).mono hwX)))
    have hbw8 := hbx.trans (hbc.mono hwX)
    have gR := Lib.hid (hRr.out W8 hbw8)
    clear hRr
    clear gRt gRr gAl gLk hr6
    by_cases hok : OkBox L last
    · have hB1 : B = true := by rw [hB.out]; exact decide_eq_true hok
      obtain ⟨hF1, hF2⟩ := findS_yes (kind := kind) (order := order) hok
      rw [hFd.out] at hF1 hF2
      have hD1 := doneS_yes (key := key) hok
      rw [hDd.out] at hD1
      have hT1 : (tim now = true ∧ T = ⟨last, tellL L now, toldL L now, 0⟩) ∨ (tim now = false ∧ T = ⟨0, [], [], 1⟩) := by
        rw [← hTd.out]; unfold tellS
        cases ht : tim now with
        | true => left; exact ⟨rfl, by rw [if_neg (by simp [hok])]⟩
        | false => right; exact ⟨rfl, by rw [if_pos (by simp)]⟩
      have hL4 : L.length ≤ 4000000000000 := by omega
      have hFr := fun W (h : Below W8.heap.size W8 W) => rFind A L c last kind order W _ (hrows.out W h).1 (by omega)
      rw [← hF1] at hFr
      have hGr := fun W (h : Below W8.heap.size W8 W) => rGet A L c last key W _ (hrows.out W h).1 (by omega)
      have hTr := fun (h0 : 0 ≤ now) (h1 : now ≤ 1099511627776) W (h : Below W8.heap.size W8 W) => rTell A L c last now W _ (hrows.out W h).1 hL4 h0 h1
      have hTo := fun W (h : Below W8.heap.size W8 W) => rTold A L c last now W _ (hrows.out W h).1 hL4
      have hDr := fun W (h : Below W8.heap.size W8 W) => rDone A L c last key W _ (hrows.out W h).1 hL4
      generalize findO L (sameKey key) = G at hD1 hGr
      unfold ov at hFr hGr
      obtain ⟨Fo, Fe⟩ := F
      dsimp only at hH hF1 hF2 hFr ⊢
      replace hFr := Lib.hid hFr
      replace hGr := Lib.hid hGr
      replace hTr := Lib.hid hTr
      replace hTo := Lib.hid hTo
      replace hDr := Lib.hid hDr
      replace hF2 := Lib.hid hF2
      replace hD1 := Lib.hid hD1
      replace hT1 := Lib.hid hT1
      clear hDd hFd hTd hPd hB hF1
      subst hB1
      go_wp2_with fail
      refine gR.out.mono ?_
      rintro e w9 ⟨rfl, hb9⟩
      replace bf0 := frozen_at hb9 bc0 bf0
      replace bc0 := cell_below hb9 bc0
      replace bf1 := frozen_at hb9 bc1 bf1
      replace bc1 := cell_below hb9 bc1
      replace hH := Lib.hid (hH.out.below hb9)
      have hbw9 := below_then hbw8 hbw8.size hb9
      have hs9 := hb9.size
      go_wp2_with fail
      refine (hFr.out _ hb9).mono ?_
      rintro e w10 ⟨rfl, hb10⟩
      replace bf0 := frozen_at hb10 bc0 bf0
      replace bc0 := cell_below hb10 bc0
      replace bf1 := frozen_at hb10 bc1 bf1
      replace bc1 := cell_below hb10 bc1
      replace hH := Lib.hid (hH.out.below hb10)
      have hbw10 := below_then hbw9 hbw9.size hb10
      have hb810 := below_then hb9 hs9 hb10
      have hs10 := hb10.size
      clear hb9 hb10 gR
      go_upto_region 13 with fail
      (try simp only [Act.put, List.setIfInBounds_toArray, List.set_cons_zero, List.set_cons_succ])
      have hbn : Below w10.heap.size w10 (w10.alloc (.cells #[.int .i64 Fo.key, .int .i64 Fo.kind, .int .i64 Fo.order, .int .i64 Fo.due] 60)) := (Below.refl _ _).alloc (Nat.le_refl _) _
      replace bf0 := frozen_at hbn bc0 bf0
      replace bc0 := cell_below hbn bc0
      replace bf1 := frozen_at hbn bc1 bf1
      replace bc1 := cell_below hbn bc1
      replace hH := Lib.hid (hH.out.below hbn)
      have hwant := Holds.cons' (Holds.new w10 #[.int .i64 Fo.key, .int .i64 Fo.kind, .int .i64 Fo.order, .int .i64 Fo.due] 60 rfl 0 rfl) (.cons' (Holds.new w10 #[.int .i64 Fo.key, .int .i64 Fo.kind, .int .i64 Fo.order, .int .i64 Fo.due] 60 rfl 1 rfl) (.cons' (Holds.new w10 #[.int .i64 Fo.key, .int .i64 Fo.kind, .int .i64 Fo.order, .int .i64 Fo.due] 60 rfl 2 rfl) (.cons' (Holds.new w10 #[.int .i64 Fo.key, .int .i64 Fo.kind, .int .i64 Fo.order, .int .i64 Fo.due] 60 rfl 3 rfl) (.nil _))))
      replace hwant := Lib.hid hwant
      have hbw11 := hbw10.alloc hbw10.size (.cells #[.int .i64 Fo.key, .int .i64 Fo.kind, .int .i64 Fo.order, .int .i64 Fo.due] 60)
      have hb811 := hb810.alloc hb810.size (.cells #[.int .i64 Fo.key, .int .i64 Fo.kind, .int .i64 Fo.order, .int .i64 Fo.due] 60)
      clear hbn hbw10 hb810 hbw9
      generalize hwd : World.alloc w10 _ = W11 at hH hwant bc0 bc1 bf0 bf1 hbw11 hb811 ⊢
      clear hwd
      go_cut [154] (fun v154 wc => v154 = .bool false ∧ wc = W11)
      case first =>
        obtain ⟨pc0, pf0⟩ := hH.out.get 8 rfl
        obtain ⟨pc1, pf1⟩ := hH.out.get 9 rfl
        obtain ⟨pc2, pf2⟩ := hH.out.get 10 rfl
        obtain ⟨pc3, pf3⟩ := hH.out.get 11 rfl
        obtain ⟨wc0, wf0⟩ := hwant.out.get 0 rfl
        obtain ⟨wc1, wf1⟩ := hwant.out.get 1 rfl
        obtain ⟨wc2, wf2⟩ := hwant.out.get 2 rfl
        obtain ⟨wc3, wf3⟩ := hwant.out.get 3 rfl
        have hne : ∀ W, (binOp .neq 60 (.agg #[.int .i64 Fo.key, .int .i64 Fo.kind, .int .i64 Fo.order, .int .i64 Fo.due]) (.agg #[.int .i64 Fo.key, .int .i64 Fo.kind, .int .i64 Fo.order, .int .i64 Fo.due])).run Try.prog W = .ok (.bool false) W := fun W => by
          have := sameRun Fo Fo W
          simpa [ov] using this
        rcases hF2.out with ⟨k1, rfl⟩ | ⟨rfl, rfl⟩
        · have k2 : decide (0 < Fo.key) = true := by simp [k1]
          have k3 : (Fo.key == 0) = false := by simp; omega
          go_wp2_with fail
          go_meet
          case rel => exact ⟨rfl, rfl⟩
        · dsimp only [O0] at *
          go_wp2_with fail
          go_meet
          case rel => exact ⟨rfl, rfl⟩
      case rest =>
        obtain ⟨rfl, rfl⟩ := hcut
        rename World => W11
        clear hF2 hwant
        rcases hT1.out with ⟨htm, hTe⟩ | ⟨htm, hTe⟩
        · have hn0 : 0 ≤ now ∧ now ≤ 1099511627776 := by simp [tim, num] at htm; omega
          obtain ⟨hn1, hn2⟩ := hn0
          have k1 : decide (now < 0) = false := by simp; omega
          have k2 : decide (1099511627776 < now) = false := by simp; omega
          subst hTe
          dsimp only at hH hr5 ht5 ⊢
          replace hTr := Lib.hid (hTr.out hn1 hn2)
          clear htm hT1
          go_upto_region 18 with fail
          (try simp only [Act.put, List.setIfInBounds_toArray, List.set_cons_zero, List.set_cons_succ])
          have hr5' := hr5.out.below hb811
          have ht5' := ht5.out.below hb811
          have htl : (tellL L now).length ≤ 98 := by unfold tellL; rw [List.length_map]; exact hL98
          have hto : (toldL L now).length ≤ 98 := by unfold toldL; have := List.length_filter_le (fun o : O => decide (o.due ≤ now)) L; omega
          have hw8 := hb811.size
          have gT := Lib.hid (fun W (h : Below W11.heap.size W11 W) => (hTr.out W (below_then hb811 hw8 h)).mono (fun e w' (h1 : ∃ A' c', e = .returned (.agg #[.int .i64 last, .slice A' (tellL L now).length c']) ∧ (tellL L now).length ≤ c' ∧ Reads w' (fun k => W.heap.size ≤ k) 4 A' (tellL L now).length ((tellL L now).flatMap O.c) ∧ Below W.heap.size W w') =>
            (show ∃ A' c', e = .returned (.agg #[.int .i64 last, .slice A' (tellL L now).length c']) ∧ Reads w' (fun k => W.heap.size ≤ k) 4 A' (tellL L now).length ((tellL L now).flatMap O.c) ∧ Below W11.heap.size W11 w' from let ⟨A', c', a1, _, a3, a4⟩ := h1; ⟨A', c', a1, a3, below_then h h.size a4⟩)))
          have gO := Lib.hid (fun W (h : Below W11.heap.size W11 W) => (hTo.out W (below_then hb811 hw8 h)).mono (fun e w' (h1 : ∃ A' c', e = .returned (.slice A' (toldL L now).length c') ∧ (toldL L now).length ≤ c' ∧ Reads w' (fun k => W.heap.size ≤ k) 4 A' (toldL L now).length ((toldL L now).flatMap O.c) ∧ Below W.heap.size W w') =>
            (show ∃ A' c', e = .returned (.slice A' (toldL L now).length c') ∧ Reads w' (fun k => W.heap.size ≤ k) 4 A' (toldL L now).length ((toldL L now).flatMap O.c) ∧ Below W11.heap.size W11 w' from let ⟨A', c', a1, _, a3, a4⟩ := h1; ⟨A', c', a1, a3, below_then h h.size a4⟩)))
          have gL := Lib.hid (fun W ok A' c' (h : Below W11.heap.size W11 W) (h2 : Reads W ok 4 A' (tellL L now).length ((tellL L now).flatMap O.c)) => calls_good (rLikeT A5 A' (tellL L now) c5 c' last W _ ok (hr5'.1.below h) h2 (by omega)) h)
          have gS := Lib.hid (fun W ok A' c' (h : Below W11.heap.size W11 W) (h2 : Reads W ok 4 A' (toldL L now).length ((toldL L now).flatMap O.c)) => calls_good (rSameT B5 A' (toldL L now) d5 c' W _ ok (ht5'.1.below h) h2 (by omega)) h)
          generalize tellL L now = TL at hH gT gL hr5 hr5' htl ⊢
          generalize toldL L now = TO at gO gS ht5 ht5' hto ⊢
          have xz := lt_of_cell (hH.out.get 4 rfl).1
          have xbb := lt_of_cell bc0
          dsimp only at xz xbb
          go_cut [191] (fun v191 wc => v191 = .bool false ∧ Below W11.heap.size W11 wc)
          case first =>
            have hS := Lib.hid (fun W (h : Below W11.heap.size W11 W) => (show Below W11.heap.size W11 W ∧ W.cell? ⟨w.heap.size, 0, none⟩ = some (.int .i64 last) ∧ W.cell? ⟨w.heap.size, 1, none⟩ = some (.slice A L.length c) ∧ W.cell? ⟨w5.heap.size, 0, none⟩ = some (.int .i64 last) ∧ W.cell? ⟨w5.heap.size, 1, none⟩ = some (.slice A5 TL.length c5) from
              ⟨h, cell_below h bc0, cell_below h bc1, cell_below h (hH.out.get 4 rfl).1, cell_below h (hH.out.get 5 rfl).1⟩))
            have hX0 : Below W11.heap.size W11 W11.drew := (Below.refl _ _).drew
            clear hr5' ht5' hr5 ht5 hr2 hr3 hrows hD1 hbw11 hb811
            go_region_held3 (fun W => Below W11.heap.size W11 W ∧ W.cell? ⟨w.heap.size, 0, none⟩ = some (.int .i64 last) ∧ W.cell? ⟨w.heap.size, 1, none⟩ = some (.slice A L.length c) ∧ W.cell? ⟨w5.heap.size, 0, none⟩ = some (.int .i64 last) ∧ W.cell? ⟨w5.heap.size, 1, none⟩ = some (.slice A5 TL.length c5))
              (exact hS.out _ (by assumption))
              (first
                | (go_at_call 39; refine (gT.out _ (by assumption)).mono ?_; rintro e wn ⟨A7, c7, rfl, hr7, hbn⟩)
                | (go_at_call 37; refine (gL.out _ _ _ _ (by assumption) hr7).mono ?_; clear hr7; rintro e wn ⟨rfl, hbn⟩)
                | (go_at_call 41; refine (gO.out _ (by assumption)).mono ?_; rintro e wn ⟨A8, c8, rfl, hr8, hbn⟩)
                | (go_at_call 40; refine (gS.out _ _ _ _ (by assumption) hr8).mono ?_; clear hr8; rintro e wn ⟨rfl, hbn⟩))
            all_goals
              go_wp2_with fail
              go_meet
              case rel => exact ⟨rfl, by assumption⟩
          case rest =>
            obtain ⟨rfl, hbc2⟩ := hcut
            rename World => W12
            replace bf0 := frozen_at hbc2 bc0 bf0
            replace bc0 := cell_below hbc2 bc0
            replace bf1 := frozen_at hbc2 bc1 bf1
            replace bc1 := cell_below hbc2 bc1
            replace hH := Lib.hid (hH.out.below hbc2)
            have hbw12 := below_then hbw11 hbw11.size hbc2
            have hb812 := below_then hb811 hw8 hbc2
            go_wp2_with fail
            refine (hGr.out _ hb812).mono ?_
            rintro e w13 ⟨rfl, hb13⟩
            replace bf0 := frozen_at hb13 bc0 bf0
            replace bc0 := cell_below hb13 bc0
            replace bf1 := frozen_at hb13 bc1 bf1
            replace bc1 := cell_below hb13 bc1
            replace hH := Lib.hid (hH.out.below hb13)
            have hbw13 := below_then hbw12 hbw12.size hb13
            have hb813 := below_then hb812 hb812.size hb13
            have hen := eqNil
            have heq : ∀ W, (binOp .eql 60 (.agg #[.int .i64 G.key, .int .i64 G.kind, .int .i64 G.order, .int .i64 G.due]) (.agg #[.int .i64 G.key, .int .i64 G.kind, .int .i64 G.order, .int .i64 G.due])).run Try.prog W = .ok (.bool true) W := fun W => by
              have := eqRun G G W
              simpa [ov] using this
            rcases hD1.out with ⟨hDe, hG⟩ | ⟨hDe, hG⟩
            · subst hDe hG
              clear hD1 hr3 hr2 hr5 ht5 hrows hDr hTo hTr hGr
              dsimp only [O0, List.length_nil] at hH ⊢
              obtain ⟨yc0, yf0⟩ := hH.out.get 12 rfl
              obtain ⟨yc1, yf1⟩ := hH.out.get 13 rfl
              obtain ⟨oc0, of0⟩ := hH.out.get 14 rfl
              obtain ⟨oc1, of1⟩ := hH.out.get 15 rfl
              obtain ⟨oc2, of2⟩ := hH.out.get 16 rfl
              obtain ⟨oc3, of3⟩ := hH.out.get 17 rfl
              obtain ⟨nc0, nf0⟩ := hH.out.get 6 rfl
              obtain ⟨nc1, nf1⟩ := hH.out.get 7 rfl
              have yb := lt_of_cell yc0
              have ob := lt_of_cell oc0
              have nb := lt_of_cell nc0
              dsimp only at yb ob nb
              go_wp2_with fail
              refine (rLikeNil A3 none c3 0 _).mono ?_
              rintro e w14 ⟨rfl, hb14⟩
              have hbz := below_then (hbw13.alloc hbw13.size (.cells #[.int .i64 0, .int .i64 0, .int .i64 0, .int .i64 0] 60)) (by have := hbw13.size; simp; omega) hb14
              clear yc0 yc1 oc0 oc1 oc2 oc3 nc0 nc1 yf0 yf1 of0 of1 of2 of3 nf0 nf1 bc0 bc1 bf0 bf1
              go_wp2_with fail
              go_ret
              exact ⟨rfl, hbz⟩
            · have hk : (G.key == 0) = false := by simp; omega
              have hDl : (doneL L key).length ≤ 98 := by have := List.length_filter_le (fun o => !sameKey key o) L; unfold doneL; omega
              subst hDe
              dsimp only at hH hr3 ⊢
              go_upto_region 23 with fail
              (try simp only [Act.put, List.setIfInBounds_toArray, List.set_cons_zero, List.set_cons_succ])
              have hbn := (Below.refl w13.heap.size w13).alloc (Nat.le_refl _) (.cells #[.int .i64 G.key, .int .i64 G.kind, .int .i64 G.order, .int .i64 G.due] 60)
              replace bf0 := frozen_at hbn bc0 bf0
              replace bc0 := cell_below hbn bc0
              replace bf1 := frozen_at hbn bc1 bf1
              replace bc1 := cell_below hbn bc1
              replace hH := Lib.hid (hH.out.below hbn)
              have g0 := (Holds.new w13 #[.int .i64 G.key, .int .i64 G.kind, .int .i64 G.order, .int .i64 G.due] 60 rfl 0 rfl).1
              have g1 := (Holds.new w13 #[.int .i64 G.key, .int .i64 G.kind, .int .i64 G.order, .int .i64 G.due] 60 rfl 1 rfl).1
              have g2 := (Holds.new w13 #[.int .i64 G.key, .int .i64 G.kind, .int .i64 G.order, .int .i64 G.due] 60 rfl 2 rfl).1
              have g3 := (Holds.new w13 #[.int .i64 G.key, .int .i64 G.kind, .int .i64 G.order, .int .i64 G.due] 60 rfl 3 rfl).1
              have hbw14 := hbw13.alloc hbw13.size (.cells #[.int .i64 G.key, .int .i64 G.kind, .int .i64 G.order, .int .i64 G.due] 60)
              have hb814 := hb813.alloc hb813.size (.cells #[.int .i64 G.key, .int .i64 G.kind, .int .i64 G.order, .int .i64 G.due] 60)
              generalize hwd : World.alloc w13 _ = W14 at hH g0 g1 g2 g3 bc0 bc1 bf0 bf1 hbw14 hb814 ⊢
              clear hwd hbn
              have hw14 := hb814.size
              have hr3' := hr3.out.below hb814
              have gD := Lib.hid (fun W (h : Below W14.heap.size W14 W) => (hDr.out W (below_then hb814 hw14 h)).mono (fun e w' (h1 : ∃ A' c', e = .returned (.agg #[.int .i64 last, .slice A' (doneL L key).length c']) ∧ (doneL L key).length ≤ c' ∧ Reads w' (fun k => W.heap.size ≤ k) 4 A' (doneL L key).length ((doneL L key).flatMap O.c) ∧ Below W.heap.size W w') =>
                (show ∃ A' c', e = .returned (.agg #[.int .i64 last, .slice A' (doneL L key).length c']) ∧ Reads w' (fun k => W.heap.size ≤ k) 4 A' (doneL L key).length ((doneL L key).flatMap O.c) ∧ Below W14.heap.size W14 w' from let ⟨A', c', a1, _, a3, a4⟩ := h1; ⟨A', c', a1, a3, below_then h h.size a4⟩)))
              have gL := Lib.hid (fun W ok A' c' (h : Below W14.heap.size W14 W) (h2 : Reads W ok 4 A' (doneL L key).length ((doneL L key).flatMap O.c)) => calls_good (rLikeT A3 A' (doneL L key) c3 c' last W _ ok (hr3'.1.below h) h2 (by omega)) h)
              generalize doneL L key = DL at hH gD gL hr3 hr3' hDl ⊢
              have hS := Lib.hid (fun W (h : Below W14.heap.size W14 W) => (show Below W14.heap.size W14 W ∧ W.cell? ⟨w.heap.size, 0, none⟩ = some (.int .i64 last) ∧ W.cell? ⟨w.heap.size, 1, none⟩ = some (.slice A L.length c) ∧ W.cell? ⟨w3.heap.size, 0, none⟩ = some (.int .i64 last) ∧ W.cell? ⟨w3.heap.size, 1, none⟩ = some (.slice A3 DL.length c3) ∧
                W.cell? ⟨w3.heap.size + 1, 0, none⟩ = some (.int .i64 G.key) ∧ W.cell? ⟨w3.heap.size + 1, 1, none⟩ = some (.int .i64 G.kind) ∧ W.cell? ⟨w3.heap.size + 1, 2, none⟩ = some (.int .i64 G.order) ∧ W.cell? ⟨w3.heap.size + 1, 3, none⟩ = some (.int .i64 G.due) ∧
                W.cell? ⟨w13.heap.size, 0, none⟩ = some (.int .i64 G.key) ∧ W.cell? ⟨w13.heap.size, 1, none⟩ = some (.int .i64 G.kind) ∧ W.cell? ⟨w13.heap.size, 2, none⟩ = some (.int .i64 G.order) ∧ W.cell? ⟨w13.heap.size, 3, none⟩ = some (.int .i64 G.due) from
                ⟨h, cell_below h bc0, cell_below h bc1, cell_below h (hH.out.get 12 rfl).1, cell_below h (hH.out.get 13 rfl).1, cell_below h (hH.out.get 14 rfl).1, cell_below h (hH.out.get 15 rfl).1, cell_below h (hH.out.get 16 rfl).1, cell_below h (hH.out.get 17 rfl).1, cell_below h g0, cell_below h g1, cell_below h g2, cell_below h g3⟩))
              have hX0 : Below W14.heap.size W14 W14.drew := (Below.refl _ _).drew
              have yb := lt_of_cell (hH.out.get 12 rfl).1
              dsimp only at yb
              clear hr3' hr5 ht5 hr2 hr3 hrows hD1 hbw11 hb811 hb812 hb813 hbw12 hbw13 hb814 hw14 hTo hTr hGr hDr hen
              go_region_held3 (fun W => Below W14.heap.size W14 W ∧ W.cell? ⟨w.heap.size, 0, none⟩ = some (.int .i64 last) ∧ W.cell? ⟨w.heap.size, 1, none⟩ = some (.slice A L.length c) ∧ W.cell? ⟨w3.heap.size, 0, none⟩ = some (.int .i64 last) ∧ W.cell? ⟨w3.heap.size, 1, none⟩ = some (.slice A3 DL.length c3) ∧
                W.cell? ⟨w3.heap.size + 1, 0, none⟩ = some (.int .i64 G.key) ∧ W.cell? ⟨w3.heap.size + 1, 1, none⟩ = some (.int .i64 G.kind) ∧ W.cell? ⟨w3.heap.size + 1, 2, none⟩ = some (.int .i64 G.order) ∧ W.cell? ⟨w3.heap.size + 1, 3, none⟩ = some (.int .i64 G.due) ∧
                W.cell? ⟨w13.heap.size, 0, none⟩ = some (.int .i64 G.key) ∧ W.cell? ⟨w13.heap.size, 1, none⟩ = some (.int .i64 G.kind) ∧ W.cell? ⟨w13.heap.size, 2, none⟩ = some (.int .i64 G.order) ∧ W.cell? ⟨w13.heap.size, 3, none⟩ = some (.int .i64 G.due))
                (exact hS.out _ (by assumption))
                (first
                  | (go_at_call 43; refine (gD.out _ (by assumption)).mono ?_; rintro e wn ⟨A7, c7, rfl, hr7, hbn⟩)
                  | (go_at_call 37; refine (gL.out _ _ _ _ (by assumption) hr7).mono ?_; clear hr7; rintro e wn ⟨rfl, hbn⟩))
              all_goals
                have hfin := hbw14.trans (hbn.mono hbw14.size)
                go_wp2_with fail
                go_ret
                exact ⟨rfl, hfin⟩
        · have htm2 : decide (now < 0) = true ∨ (decide (now < 0) = false ∧ decide (1099511627776 < now) = true) := by
            simp [tim, num] at htm
            by_cases h : now < 0
            · left; simp [h]
            · right; simp [h]; omega
          subst hTe
          dsimp only [List.length_nil] at hH hr5 ht5 ⊢
          clear htm hT1
          have hz0 := (hH.out.get 4 rfl)
          obtain ⟨zc0, zf0⟩ := hH.out.get 4 rfl
          obtain ⟨zc1, zf1⟩ := hH.out.get 5 rfl
          obtain ⟨nc0, nf0⟩ := hH.out.get 6 rfl
          obtain ⟨nc1, nf1⟩ := hH.out.get 7 rfl
          clear hz0
          rcases htm2 with k1 | ⟨k1, k2⟩
          all_goals
            go_wp2_with fail
            refine (rLikeNil A5 none c5 0 _).mono ?_
            rintro e W12 ⟨rfl, hbc2⟩
            clear zc0 zf0 zc1 zf1 nc0 nf0 nc1 nf1
            replace bf0 := frozen_at hbc2 bc0 bf0
            replace bc0 := cell_below hbc2 bc0
            replace bf1 := frozen_at hbc2 bc1 bf1
            replace bc1 := cell_below hbc2 bc1
            replace hH := Lib.hid (hH.out.below hbc2)
            have hbw12 := below_then hbw11 hbw11.size hbc2
            have hb812 := below_then hb811 hb811.size hbc2
            go_wp2_with fail
            refine (hGr.out _ hb812).mono ?_
            rintro e w13 ⟨rfl, hb13⟩
            replace bf0 := frozen_at hb13 bc0 bf0
            replace bc0 := cell_below hb13 bc0
            replace bf1 := frozen_at hb13 bc1 bf1
            replace bc1 := cell_below hb13 bc1
            replace hH := Lib.hid (hH.out.below hb13)
            have hbw13 := below_then hbw12 hbw12.size hb13
            have hb813 := below_then hb812 hb812.size hb13
            have hen := eqNil
            have heq : ∀ W, (binOp .eql 60 (.agg #[.int .i64 G.key, .int .i64 G.kind, .int .i64 G.order, .int .i64 G.due]) (.agg #[.int .i64 G.key, .int .i64 G.kind, .int .i64 G.order, .int .i64 G.due])).run Try.prog W = .ok (.bool true) W := fun W => by
              have := eqRun G G W
              simpa [ov] using this
            rcases hD1.out with ⟨hDe, hG⟩ | ⟨hDe, hG⟩
            · subst hDe hG
              clear hD1 hr3 hr2 hr5 ht5 hrows hDr hTo hTr hGr
              dsimp only [O0, List.length_nil] at hH ⊢
              obtain ⟨yc0, yf0⟩ := hH.out.get 12 rfl
              obtain ⟨yc1, yf1⟩ := hH.out.get 13 rfl
              obtain ⟨oc0, of0⟩ := hH.out.get 14 rfl
              obtain ⟨oc1, of1⟩ := hH.out.get 15 rfl
              obtain ⟨oc2, of2⟩ := hH.out.get 16 rfl
              obtain ⟨oc3, of3⟩ := hH.out.get 17 rfl
              obtain ⟨nc0, nf0⟩ := hH.out.get 6 rfl
              obtain ⟨nc1, nf1⟩ := hH.out.get 7 rfl
              have yb := lt_of_cell yc0
              have ob := lt_of_cell oc0
              have nb := lt_of_cell nc0
              dsimp only at yb ob nb
              go_wp2_with fail
              refine (rLikeNil A3 none c3 0 _).mono ?_
              rintro e w14 ⟨rfl, hb14⟩
              have hbz := below_then (hbw13.alloc hbw13.size (.cells #[.int .i64 0, .int .i64 0, .int .i64 0, .int .i64 0] 60)) (by have := hbw13.size; simp; omega) hb14
              clear yc0 yc1 oc0 oc1 oc2 oc3 nc0 nc1 yf0 yf1 of0 of1 of2 of3 nf0 nf1 bc0 bc1 bf0 bf1
              go_wp2_with fail
              go_ret
              exact ⟨rfl, hbz⟩
            · have hk : (G.key == 0) = false := by simp; omega
              have hDl : (doneL L key).length ≤ 98 := by have := List.length_filter_le (fun o => !sameKey key o) L; unfold doneL; omega
              subst hDe
              dsimp only at hH hr3 ⊢
              go_upto_region 23 with fail
              (try simp only [Act.put, List.setIfInBounds_toArray, List.set_cons_zero, List.set_cons_succ])
              have hbn := (Below.refl w13.heap.size w13).alloc (Nat.le_refl _) (.cells #[.int .i64 G.key, .int .i64 G.kind, .int .i64 G.order, .int .i64 G.due] 60)
              replace bf0 := frozen_at hbn bc0 bf0
              replace bc0 := cell_below hbn bc0
              replace bf1 := frozen_at hbn bc1 bf1
              replace bc1 := cell_below hbn bc1
              replace hH := Lib.hid (hH.out.below hbn)
              have g0 := (Holds.new w13 #[.int .i64 G.key, .int .i64 G.kind, .int .i64 G.order, .int .i64 G.due] 60 rfl 0 rfl).1
              have g1 := (Holds.new w13 #[.int .i64 G.key, .int .i64 G.kind, .int .i64 G.order, .int .i64 G.due] 60 rfl 1 rfl).1
              have g2 := (Holds.new w13 #[.int .i64 G.key, .int .i64 G.kind, .int .i64 G.order, .int .i64 G.due] 60 rfl 2 rfl).1
              have g3 := (Holds.new w13 #[.int .i64 G.key, .int .i64 G.kind, .int .i64 G.order, .int .i64 G.due] 60 rfl 3 rfl).1
              have hbw14 := hbw13.alloc hbw13.size (.cells #[.int .i64 G.key, .int .i64 G.kind, .int .i64 G.order, .int .i64 G.due] 60)
              have hb814 := hb813.alloc hb813.size (.cells #[.int .i64 G.key, .int .i64 G.kind, .int .i64 G.order, .int .i64 G.due] 60)
              generalize hwd : World.alloc w13 _ = W14 at hH g0 g1 g2 g3 bc0 bc1 bf0 bf1 hbw14 hb814 ⊢
              clear hwd hbn
              have hw14 := hb814.size
              have hr3' := hr3.out.below hb814
              have gD := Lib.hid (fun W (h : Below W14.heap.size W14 W) => (hDr.out W (below_then hb814 hw14 h)).mono (fun e w' (h1 : ∃ A' c', e = .returned (.agg #[.int .i64 last, .slice A' (doneL L key).length c']) ∧ (doneL L key).length ≤ c' ∧ Reads w' (fun k => W.heap.size ≤ k) 4 A' (doneL L key).length ((doneL L key).flatMap O.c) ∧ Below W.heap.size W w') =>
                (show ∃ A' c', e = .returned (.agg #[.int .i64 last, .slice A' (doneL L key).length c']) ∧ Reads w' (fun k => W.heap.size ≤ k) 4 A' (doneL L key).length ((doneL L key).flatMap O.c) ∧ Below W14.heap.size W14 w' from let ⟨A', c', a1, _, a3, a4⟩ := h1; ⟨A', c', a1, a3, below_then h h.size a4⟩)))
              have gL := Lib.hid (fun W ok A' c' (h : Below W14.heap.size W14 W) (h2 : Reads W ok 4 A' (doneL L key).length ((doneL L key).flatMap O.c)) => calls_good (rLikeT A3 A' (doneL L key) c3 c' last W _ ok (hr3'.1.below h) h2 (by omega)) h)
              generalize doneL L key = DL at hH gD gL hr3 hr3' hDl ⊢
              have hS := Lib.hid (fun W (h : Below W14.heap.size W14 W) => (show Below W14.heap.size W14 W ∧ W.cell? ⟨w.heap.size, 0, none⟩ = some (.int .i64 last) ∧ W.cell? ⟨w.heap.size, 1, none⟩ = some (.slice A L.length c) ∧ W.cell? ⟨w3.heap.size, 0, none⟩ = some (.int .i64 last) ∧ W.cell? ⟨w3.heap.size, 1, none⟩ = some (.slice A3 DL.length c3) ∧
                W.cell? ⟨w3.heap.size + 1, 0, none⟩ = some (.int .i64 G.key) ∧ W.cell? ⟨w3.heap.size + 1, 1, none⟩ = some (.int .i64 G.kind) ∧ W.cell? ⟨w3.heap.size + 1, 2, none⟩ = some (.int .i64 G.order) ∧ W.cell? ⟨w3.heap.size + 1, 3, none⟩ = some (.int .i64 G.due) ∧
                W.cell? ⟨w13.heap.size, 0, none⟩ = some (.int .i64 G.key) ∧ W.cell? ⟨w13.heap.size, 1, none⟩ = some (.int .i64 G.kind) ∧ W.cell? ⟨w13.heap.size, 2, none⟩ = some (.int .i64 G.order) ∧ W.cell? ⟨w13.heap.size, 3, none⟩ = some (.int .i64 G.due) from
                ⟨h, cell_below h bc0, cell_below h bc1, cell_below h (hH.out.get 12 rfl).1, cell_below h (hH.out.get 13 rfl).1, cell_below h (hH.out.get 14 rfl).1, cell_below h (hH.out.get 15 rfl).1, cell_below h (hH.out.get 16 rfl).1, cell_below h (hH.out.get 17 rfl).1, cell_below h g0, cell_below h g1, cell_below h g2, cell_below h g3⟩))
              have hX0 : Below W14.heap.size W14 W14.drew := (Below.refl _ _).drew
              have yb := lt_of_cell (hH.out.get 12 rfl).1
              dsimp only at yb
              clear hr3' hr5 ht5 hr2 hr3 hrows hD1 hbw11 hb811 hb812 hb813 hbw12 hbw13 hb814 hw14 hTo hTr hGr hDr hen
              go_region_held3 (fun W => Below W14.heap.size W14 W ∧ W.cell? ⟨w.heap.size, 0, none⟩ = some (.int .i64 last) ∧ W.cell? ⟨w.heap.size, 1, none⟩ = some (.slice A L.length c) ∧ W.cell? ⟨w3.heap.size, 0, none⟩ = some (.int .i64 last) ∧ W.cell? ⟨w3.heap.size, 1, none⟩ = some (.slice A3 DL.length c3) ∧
                W.cell? ⟨w3.heap.size + 1, 0, none⟩ = some (.int .i64 G.key) ∧ W.cell? ⟨w3.heap.size + 1, 1, none⟩ = some (.int .i64 G.kind) ∧ W.cell? ⟨w3.heap.size + 1, 2, none⟩ = some (.int .i64 G.order) ∧ W.cell? ⟨w3.heap.size + 1, 3, none⟩ = some (.int .i64 G.due) ∧
                W.cell? ⟨w13.heap.size, 0, none⟩ = some (.int .i64 G.key) ∧ W.cell? ⟨w13.heap.size, 1, none⟩ = some (.int .i64 G.kind) ∧ W.cell? ⟨w13.heap.size, 2, none⟩ = some (.int .i64 G.order) ∧ W.cell? ⟨w13.heap.size, 3, none⟩ = some (.int .i64 G.due))
                (exact hS.out _ (by assumption))
                (first
                  | (go_at_call 43; refine (gD.out _ (by assumption)).mono ?_; rintro e wn ⟨A7, c7, rfl, hr7, hbn⟩)
                  | (go_at_call 37; refine (gL.out _ _ _ _ (by assumption) hr7).mono ?_; clear hr7; rintro e wn ⟨rfl, hbn⟩))
              all_goals
                have hfin := hbw14.trans (hbn.mono hbw14.size)
                go_wp2_with fail
                go_ret
                exact ⟨rfl, hfin⟩
    · have hB0 : B = false := by rw [hB.out]; exact decide_eq_false hok
      have hD0 : D = ⟨0, [], O0, 1⟩ := by rw [← hDd.out]; unfold doneS; rw [if_neg hok]
      have hF0 : F = ⟨O0, 1⟩ := by rw [← hFd.out]; unfold findS; rw [if_neg hok]
      have hT0 : T = ⟨0, [], [], 1⟩ := by rw [← hTd.out]; unfold tellS; rw [if_pos (by simp [hok])]
      clear hDd hFd hTd hPd hB
      subst hB0 hD0 hF0 hT0
      dsimp only [O0, List.length_nil] at hH ⊢
      go_wp2_with fail
      refine gR.out.mono ?_
      rintro e w9 ⟨rfl, hb9⟩
      have hH9 := hH.out.below hb9
      have hbw9 := below_then hbw8 hbw8.size hb9
      obtain ⟨yc0, yf0⟩ := hH9.get 12 rfl
      obtain ⟨yc1, yf1⟩ := hH9.get 13 rfl
      obtain ⟨oc0, of0⟩ := hH9.get 14 rfl
      obtain ⟨oc1, of1⟩ := hH9.get 15 rfl
      obtain ⟨oc2, of2⟩ := hH9.get 16 rfl
      obtain ⟨oc3, of3⟩ := hH9.get 17 rfl
      obtain ⟨pc0, pf0⟩ := hH9.get 8 rfl
      obtain ⟨pc1, pf1⟩ := hH9.get 9 rfl
      obtain ⟨pc2, pf2⟩ := hH9.get 10 rfl
      obtain ⟨pc3, pf3⟩ := hH9.get 11 rfl
      obtain ⟨zc0, zf0⟩ := hH9.get 4 rfl
      obtain ⟨zc1, zf1⟩ := hH9.get 5 rfl
      obtain ⟨nc0, nf0⟩ := hH9.get 6 rfl
      obtain ⟨nc1, nf1⟩ := hH9.get 7 rfl
      have hen := eqNil
      clear hH hH9 hr2 hr3 hr5 ht5 hrows bc0 bc1 bf0 bf1
      go_wp2_with fail
      refine (rLikeNil A3 none c3 0 _).mono ?_
      rintro e w10 ⟨rfl, hb10⟩
      replace yc0 := cell_below hb10 yc0
      replace yc1 := cell_below hb10 yc1
      replace of0 := frozen_at hb10 oc0 of0
      replace oc0 := cell_below hb10 oc0
      replace of1 := frozen_at hb10 oc1 of1
      replace oc1 := cell_below hb10 oc1
      replace of2 := frozen_at hb10 oc2 of2
      replace oc2 := cell_below hb10 oc2
      replace of3 := frozen_at hb10 oc3 of3
      replace oc3 := cell_below hb10 oc3
      replace pf0 := frozen_at hb10 pc0 pf0
      replace pc0 := cell_below hb10 pc0
      replace pf1 := frozen_at hb10 pc1 pf1
      replace pc1 := cell_below hb10 pc1
      replace pf2 := frozen_at hb10 pc2 pf2
      replace pc2 := cell_below hb10 pc2
      replace pf3 := frozen_at hb10 pc3 pf3
      replace pc3 := cell_below hb10 pc3
      replace zf0 := frozen_at hb10 zc0 zf0
      replace zc0 := cell_below hb10 zc0
      replace zf1 := frozen_at hb10 zc1 zf1
      replace zc1 := cell_below hb10 zc1
      replace nf0 := frozen_at hb10 nc0 nf0
      replace nc0 := cell_below hb10 nc0
      replace nf1 := frozen_at hb10 nc1 nf1
      replace nc1 := cell_below hb10 nc1
      have hbw10 := below_then hbw9 hbw9.size hb10
      clear hb10 hb9
      go_wp2_with fail
      refine (rLikeNil A5 none c5 0 _).mono ?_
      rintro e w11 ⟨rfl, hb11⟩
      replace of0 := frozen_at hb11 oc0 of0
      replace oc0 := cell_below hb11 oc0
      replace of1 := frozen_at hb11 oc1 of1
      replace oc1 := cell_below hb11 oc1
      replace of2 := frozen_at hb11 oc2 of2
      replace oc2 := cell_below hb11 oc2
      replace of3 := frozen_at hb11 oc3 of3
      replace oc3 := cell_below hb11 oc3
      replace pf0 := frozen_at hb11 pc0 pf0
      replace pc0 := cell_below hb11 pc0
      replace pf1 := frozen_at hb11 pc1 pf1
      replace pc1 := cell_below hb11 pc1
      replace pf2 := frozen_at hb11 pc2 pf2
      replace pc2 := cell_below hb11 pc2
      replace pf3 := frozen_at hb11 pc3 pf3
      replace pc3 := cell_below hb11 pc3
      have hbw11 := below_then hbw10 hbw10.size hb11
      clear hb11
      go_wp2_with fail
      go_ret
      exact ⟨rfl, hbw11⟩
end Go.Proofs.Ytejdmefiobgcdaa
