import Derived.Test.YtejdmefiobgcdaaOutl
import Derived.Test.YtejdmefiobgcdaaOutt
namespace Go.Proofs.Ytejdmefiobgcdaa
open Go.RowKit Go.Proofs

theorem news_at {W : World} {g : Nat} {cs : Array Value} {t : TypeId} (hg : g = W.heap.size) : ∀ j u, cs.toList[j]? = some u → (W.alloc (.cells cs t)).cell? ((⟨g, 0, none⟩ : Addr).add j) = some u := fun j u hu => by
  subst hg
  rw [add_plain0, cell_of_row (W.alloc (.cells cs t)) W.heap.size j cs t (0, 0) (heap_alloc_new W _)]
  simpa using hu
theorem take_snoc' {α : Type} {l : List α} {k : Nat} {o : α} (ho : l[k]? = some o) : l.take (k + 1) = l.take k ++ [o] := by rw [List.take_add_one, ho]; rfl

def toldL (l : List O) (now : Int) : List O := l.filter (fun o => decide (o.due ≤ now))
theorem toldL_yes {l : List O} {now : Int} {k : Nat} {o : O} (ho : l[k]? = some o) (h : o.due ≤ now) : toldL (l.take (k + 1)) now = toldL (l.take k) now ++ [o] := by
  rw [take_snoc' ho]; simp [toldL, List.filter_append, h]
theorem toldL_no {l : List O} {now : Int} {k : Nat} {o : O} (ho : l[k]? = some o) (h : ¬ o.due ≤ now) : toldL (l.take (k + 1)) now = toldL (l.take k) now := by
  rw [take_snoc' ho]; simp [toldL, List.filter_append, h]
theorem filter_take_le {α : Type} (f : α → Bool) (l : List α) (k : Nat) : ((l.take k).filter f).length ≤ k := by
  have h1 := List.length_filter_le f (l.take k)
  have h2 := List.length_take_le k l
  omega

set_option maxRecDepth 100000 in
set_option maxHeartbeats 1600000 in
theorem rTold (A : Option Addr) (l : List O) (c : Nat) (last now : Int) (w : World) (ok : Nat → Prop) (hr : Reads w ok 4 A l.length (l.flatMap O.c)) (hll : l.length ≤ 4000000000000) :
    Calls Try.prog 41 #[.agg #[.int .i64 last, .slice A l.length c], .int .i64 now] w
      fun e w' => ∃ A' c', e = .returned (.slice A' (toldL l now).length c') ∧ (toldL l now).length ≤ c' ∧ Reads w' (fun k => w.heap.size ≤ k) 4 A' (toldL l now).length ((toldL l now).flatMap O.c) ∧ Below w.heap.size w w' := by
  obtain ⟨i0, hi, hz0, hz1, hz2⟩ := info_parts info60
  go_enter Try.func41, Try.ntmps41
  go_wp2_with fail
  go_loopw [5, 12] (fun v5 v8 wr => ∃ (k : Nat), v8 = .int .i64 k ∧ k ≤ l.length ∧ Hid (wr.ownsRow w.heap.size 60 4 v5 (toldL (l.take k) now).length ((toldL (l.take k) now).flatMap O.c)) ∧ Below w.heap.size w wr) (fun _ v8 _ => l.length - (intOf v8).toNat)
  case atStart =>
    refine ⟨0, rfl, by omega, Lib.hid ?_, ((Below.refl _ _).alloc (Nat.le_refl _) _).alloc (by simp) _⟩
    have := own_none (w.alloc (.cells #[.int .i64 last, .slice A l.length c] 53)) w.heap.size 60 4 (by simp)
    simpa [toldL] using this
  case round =>
    obtain ⟨k, rfl, hk, hown, hB⟩ := hrel
    have hs1 := hB.size
    by_cases hlt : k < l.length
    · obtain ⟨o, ho⟩ : ∃ o, l[k]? = some o := ⟨_, List.getElem?_eq_getElem hlt⟩
      obtain ⟨b, of, rfl, hbl, _, hc⟩ := (hr.below hB).elem O.len (by omega) k o ho
      have hc0 := hc 0 _ rfl
      have hc1 := hc 1 _ rfl
      have hc2 := hc 2 _ rfl
      have hc3 := hc 3 _ rfl
      clear hc
      simp only [Nat.add_zero] at hc0
      by_cases hd : o.due ≤ now
      · have hdd : decide (o.due ≤ now) = true := by simp [hd]
        have hsn := Lib.hid (toldL_yes ho hd)
        have hnl : (toldL (l.take k) now).length ≤ k := filter_take_le _ _ _
        replace ho := Lib.hid ho
        have hnews := Lib.hid (news_at (W := wr.alloc (.cells #[.int .i64 o.key, .int .i64 o.kind, .int .i64 o.order, .int .i64 o.due] 60)) (g := wr.heap.size + 1) (cs := #[.int .i64 o.key, .int .i64 o.kind, .int .i64 o.order, .int .i64 o.due]) (t := 60) (by simp))
        generalize toldL (l.take k) now = T at hown hnl hsn
        go_wp2_with (at_builtin; refine wpList_append_own _ rfl (.tmp 20) (.tmp 22) 51 rfl w.heap.size 60 i0 _ 4 32 Try.underlying51 hi hz0 hz1 hz2 rfl (by omega) _ T.length _ rfl ((hown.out.alloc _).alloc _) ⟨wr.heap.size + 1, 0, none⟩ 1 1 (O.c o) rfl rfl hnews.out (o_one o) (by simp only [maxLen]; omega) (by omega) (by simp; omega) ?_; intro v1 w1 hown1 hgr1 _)
        go_roundw
        case rel =>
          refine ⟨k + 1, by go_num, by omega, Lib.hid ?_, ?_⟩
          · rw [hsn.out, List.flatMap_append, List.length_append]
            simpa using hown1
          · exact ((hB.alloc hs1 _).alloc (by simp; omega) _).grown hgr1 (by simp; omega) (fun b e => by have := (hown.out.lt b e).1; omega)
        case measure => simp [intOf]; omega
      · have hdd : decide (o.due ≤ now) = false := by simp [hd]
        have hsn := Lib.hid (toldL_no ho hd)
        replace ho := Lib.hid ho
        go_wp2_with fail
        go_roundw
        case rel => exact ⟨k + 1, by go_num, by omega, Lib.hid (by rw [hsn.out]; exact hown.out.alloc _), hB.alloc hs1 _⟩
        case measure => simp [intOf]; omega
    · have hk2 : l.take k = l := List.take_of_length_le (by omega)
      rw [hk2] at hown
      obtain ⟨A', c', rfl, hc', hrd⟩ := own_read hown.out
      clear hk2
      go_wp2_with fail
      go_ret
      exact ⟨A', c', rfl, hc', hrd, hB⟩

/-- An outbox that is made: its block, its rows, the result's block. -/
def Outs (w : World) (last : Int) (rows : List O) (A : Option Addr) (c : Nat) (wr : World) : Prop :=
  Holds wr [(⟨w.heap.size + 1 + 1, 0, none⟩, .int .i64 last), (⟨w.heap.size + 1 + 1, 1, none⟩, .slice A rows.length c), (⟨w.heap.size + 1, 0, none⟩, .int .i64 0), (⟨w.heap.size + 1, 1, none⟩, .slice none 0 0)] ∧
    wr.ownsRow (w.heap.size + 3) 60 4 (.slice A rows.length c) rows.length (rows.flatMap O.c) ∧ Below w.heap.size w wr ∧ w.heap.size + 3 ≤ wr.heap.size
theorem Outs.start (w : World) (last : Int) (ob : Obj) : Outs w last [] none 0 (((w.alloc ob).alloc (.cells #[.int .i64 0, .slice none 0 0] 53)).alloc (.cells #[.int .i64 last, .slice none 0 0] 53)) := by
  refine ⟨?_, World.ownsRow_nil _ _ _ _, (((Below.refl _ _).alloc (Nat.le_refl _) _).alloc (by simp) _).alloc (by simp; omega) _, by simp⟩
  exact .cons (by simp [go_sem]) (by simp [go_sem]) (.cons (by simp [go_sem]) (by simp [go_sem]) (.cons (by simp [go_sem]) (by simp [go_sem]) (.cons (by simp [go_sem]) (by simp [go_sem]) (.nil _))))
theorem Outs.alloc {w wr : World} {last : Int} {rows : List O} {A : Option Addr} {c : Nat} (h : Outs w last rows A c wr) (ob : Obj) : Outs w last rows A c (wr.alloc ob) :=
  ⟨h.1.alloc _, h.2.1.alloc _, h.2.2.1.alloc (by have := h.2.2.2; omega) _, by have := h.2.2.2; simp; omega⟩
theorem Outs.grown {w wr w1 : World} {last : Int} {rows : List O} {A : Option Addr} {c : Nat} (h : Outs w last rows A c wr) (hg : wr.grownBy w1 (Value.slice A rows.length c).ownBlock) :
    Holds w1 [(⟨w.heap.size + 1 + 1, 0, none⟩, .int .i64 last), (⟨w.heap.size + 1 + 1, 1, none⟩, .slice A rows.length c), (⟨w.heap.size + 1, 0, none⟩, .int .i64 0), (⟨w.heap.size + 1, 1, none⟩, .slice none 0 0)] :=
  h.1.grown hg (fun p hp => own_far h.2.1 (by simp at hp; rcases hp with rfl | rfl | rfl | rfl <;> (dsimp only; omega)))
theorem Outs.push {w wr w1 : World} {last : Int} {rows : List O} {A A1 : Option Addr} {c c1 n1 : Nat} {o : O} (h : Outs w last rows A c wr) (hg : wr.grownBy w1 (Value.slice A rows.length c).ownBlock)
    (hn : n1 = rows.length + 1) (hown : w1.ownsRow (w.heap.size + 3) 60 4 (.slice A1 n1 c1) n1 (rows.flatMap O.c ++ O.c o)) : Outs w last (rows ++ [o]) A1 c1 (w1.setCell ⟨w.heap.size + 1 + 1, 1, none⟩ (.slice A1 n1 c1)) := by
  subst hn
  have hH := h.grown hg
  have hs := hg.size
  have h3 := h.2.2.2
  obtain ⟨c0, f0⟩ := hH.one
  obtain ⟨c1', f1⟩ := hH.tail.one
  obtain ⟨c2, f2⟩ := hH.tail.tail.one
  obtain ⟨c3, f3⟩ := hH.tail.tail.tail.one
  have hl : (rows ++ [o]).length = rows.length + 1 := by simp
  refine ⟨?_, ?_, ?_, by simp; omega⟩
  · rw [hl]
    exact .cons (by simp [go_sem, *]) (by simp [go_sem, *]) (.cons (by simp [go_sem, *]) (by simp [go_sem, *]) (.cons (by simp [go_sem, *]) (by simp [go_sem, *]) (.cons (by simp [go_sem, *]) (by simp [go_sem, *]) (.nil _))))
  · rw [hl, List.flatMap_append]
    have := hown.kept (row := some (w.heap.size + 1 + 1)) (w' := w1.setCell ⟨w.heap.size + 1 + 1, 1, none⟩ (.slice A1 (rows.length + 1) c1)) ⟨rfl, rfl, rfl, by simp, fun k _ hk => Below.heap_setCell _ _ _ k (fun e => hk (by rw [e]))⟩ (.inr (Ne.symm (own_far hown (by omega))))
    simpa using this
  · exact (h.2.2.1.grown hg (by omega) (fun b e => by have := (h.2.1.lt b e).1; omega)).setCell (p := ⟨w.heap.size + 1 + 1, 1, none⟩) (by dsimp only; omega) _

def doneL (l : List O) (key : Int) : List O := l.filter (fun o => !sameKey key o)
theorem doneL_yes {l : List O} {key : Int} {k : Nat} {o : O} (ho : l[k]? = some o) (h : sameKey key o = false) : doneL (l.take (k + 1)) key = doneL (l.take k) key ++ [o] := by
  rw [take_snoc' ho]; simp [doneL, List.filter_append, h]
theorem doneL_no {l : List O} {key : Int} {k : Nat} {o : O} (ho : l[k]? = some o) (h : sameKey key o = true) : doneL (l.take (k + 1)) key = doneL (l.take k) key := by
  rw [take_snoc' ho]; simp [doneL, List.filter_append, h]

set_option maxRecDepth 100000 in
set_option maxHeartbeats 1600000 in
theorem rDone (A : Option Addr) (l : List O) (c : Nat) (last key : Int) (w : World) (ok : Nat → Prop) (hr : Reads w ok 4 A l.length (l.flatMap O.c)) (hll : l.length ≤ 4000000000000) :
    Calls Try.prog 43 #[.agg #[.int .i64 last, .slice A l.length c], .int .i64 key] w
      fun e w' => ∃ A' c', e = .returned (.agg #[.int .i64 last, .slice A' (doneL l key).length c']) ∧ (doneL l key).length ≤ c' ∧ Reads w' (fun k => w.heap.size ≤ k) 4 A' (doneL l key).length ((doneL l key).flatMap O.c) ∧ Below w.heap.size w w' := by
  obtain ⟨i0, hi, hz0, hz1, hz2⟩ := info_parts info60
  go_enter Try.func43, Try.ntmps43
  go_wp2_with fail
  go_loopw [14] (fun v8 wr => ∃ (k : Nat) (A' : Option Addr) (c' : Nat), v8 = .int .i64 k ∧ k ≤ l.length ∧ Hid (Outs w last (doneL (l.take k) key) A' c' wr)) (fun v8 _ => l.length - (intOf v8).toNat)
  case atStart => exact ⟨0, none, 0, rfl, by omega, Lib.hid (Outs.start w last _)⟩
  case round =>
    obtain ⟨k, A', c', rfl, hk, hO⟩ := hrel
    have hB := hO.out.2.2.1
    have hs1 := hB.size
    have hs3 := hO.out.2.2.2
    obtain ⟨g0, gf0⟩ := hO.out.1.one
    obtain ⟨g1, gf1⟩ := hO.out.1.tail.one
    obtain ⟨g2, gf2⟩ := hO.out.1.tail.tail.one
    obtain ⟨g3, gf3⟩ := hO.out.1.tail.tail.tail.one
    by_cases hlt : k < l.length
    · obtain ⟨o, ho⟩ : ∃ o, l[k]? = some o := ⟨_, List.getElem?_eq_getElem hlt⟩
      obtain ⟨b, of, rfl, hbl, _, hc⟩ := (hr.below hB).elem O.len (by omega) k o ho
      have hc0 := hc 0 _ rfl
      have hc1 := hc 1 _ rfl
      have hc2 := hc 2 _ rfl
      have hc3 := hc 3 _ rfl
      clear hc
      simp only [Nat.add_zero] at hc0
      have hne1 : w.heap.size + 1 + 1 ≠ wr.heap.size := by omega
      have hne2 : w.heap.size + 1 + 1 < wr.heap.size := by omega
      cases hp : sameKey key o with
      | false =>
        have hpp : (o.key != key) = true := by simp [sameKey] at hp; simp [hp]
        have hsn := Lib.hid (doneL_yes ho hp)
        have hnl : (doneL (l.take k) key).length ≤ k := filter_take_le _ _ _
        replace ho := Lib.hid ho
        replace hp := Lib.hid hp
        have hnews := Lib.hid (news_at (W := wr.alloc (.cells #[.int .i64 o.key, .int .i64 o.kind, .int .i64 o.order, .int .i64 o.due] 60)) (g := wr.heap.size + 1) (cs := #[.int .i64 o.key, .int .i64 o.kind, .int .i64 o.order, .int .i64 o.due]) (t := 60) (by simp))
        generalize doneL (l.take k) key = T at hO hnl hsn g1
        have hO2 := Lib.hid ((hO.out.alloc (.cells #[.int .i64 o.key, .int .i64 o.kind, .int .i64 o.order, .int .i64 o.due] 60)).alloc (.cells #[.int .i64 o.key, .int .i64 o.kind, .int .i64 o.order, .int .i64 o.due] 60))
        go_wp2_with (at_builtin; refine wpList_append_own _ rfl (.tmp 23) (.tmp 25) 51 rfl (w.heap.size + 3) 60 i0 _ 4 32 Try.underlying51 hi hz0 hz1 hz2 rfl (by omega) _ T.length _ rfl hO2.out.2.1 ⟨wr.heap.size + 1, 0, none⟩ 1 1 (O.c o) rfl rfl hnews.out (o_one o) (by simp only [maxLen]; omega) (by omega) (by simp; omega) ?_; intro v1 w1 hown1 hgr1 _; obtain ⟨A5, c5, rfl, hc5, _⟩ := own_read hown1; have hH := hO2.out.grown hgr1; have q1 := hH.tail.one.1; have q2 := hH.tail.one.2; clear hH)
        go_roundw
        case rel =>
          refine ⟨k + 1, A5, c5, by go_num, by omega, Lib.hid ?_⟩
          rw [hsn.out]
          exact hO2.out.push hgr1 rfl hown1
        case measure => simp [intOf]; omega
      | true =>
        have hpp : (o.key != key) = false := by simp [sameKey] at hp; simp [hp]
        have hsn := Lib.hid (doneL_no ho hp)
        replace ho := Lib.hid ho
        replace hp := Lib.hid hp
        go_wp2_with fail
        go_roundw
        case rel => exact ⟨k + 1, A', c', by go_num, by omega, Lib.hid (by rw [hsn.out]; exact hO.out.alloc _)⟩
        case measure => simp [intOf]; omega
    · have hk2 : l.take k = l := List.take_of_length_le (by omega)
      rw [hk2] at hO g1
      obtain ⟨A5, c5, e5, hc5, hrd⟩ := own_read hO.out.2.1
      injection e5 with e51 e52 e53
      subst e51 e53
      clear hk2 e52
      have hrd2 : Reads wr (fun k => w.heap.size + 3 ≤ k) 4 A' (doneL l key).length ((doneL l key).flatMap O.c) := hrd
      replace hrd2 := Lib.hid hrd2
      replace hrd := Lib.hid hrd
      go_wp2_with fail
      refine bodyPost_ret (v := .agg #[.int .i64 last, .slice A' (doneL l key).length c']) (by simp [results, Try.results43, go_sem, *]) rfl ⟨A', c', rfl, hc5, ?_, ?_⟩
      · refine Reads.mono (ok := fun k => w.heap.size + 3 ≤ k) ?_ (fun k hk => by omega)
        repeat (first | with_reducible exact hrd2.out | with_reducible refine Reads.drew ?_ | with_reducible refine Reads.far ?_ ?_ _)
        all_goals (intro k hk; dsimp only; omega)
      · ((repeat (first | with_reducible exact hB | with_reducible refine Below.drew ?_ | with_reducible refine Below.alloc ?_ ?_ _ | with_reducible refine Below.setCell ?_ ?_ _)); all_goals first | omega | (simp; done) | (simp; omega))
end Go.Proofs.Ytejdmefiobgcdaa
