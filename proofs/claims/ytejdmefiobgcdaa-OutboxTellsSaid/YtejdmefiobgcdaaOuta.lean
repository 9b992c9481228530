import Derived.Test.YtejdmefiobgcdaaProg
import Derived.Test.YtejdmefiobgcdaaOwn
namespace Go.Proofs.Ytejdmefiobgcdaa
open Go.RowKit Go.Proofs

structure O where
  key : Int
  kind : Int
  order : Int
  due : Int
deriving DecidableEq
def O.c (o : O) : List Value := [.int .i64 o.key, .int .i64 o.kind, .int .i64 o.order, .int .i64 o.due]
theorem O.len (o : O) : o.c.length = 4 := rfl
def num (n : Int) : Bool := decide (1 ≤ n) && decide (n ≤ 1099511627776)
def tim (n : Int) : Bool := decide (n = 0) || num n
def knd (n : Int) : Bool := decide (1 ≤ n) && decide (n ≤ 3)

theorem oKinds (n : Int) (w : World) : Calls Try.prog 80 #[.int .i64 n] w fun e w' => e = .returned (.bool (knd n)) ∧ w = w' := by
  by_cases h1 : 1 ≤ n
  · go_enter Try.func80, Try.ntmps80
    go_wp2
    go_ret
    simp [knd, *]
  · have h1 : n < 1 := by omega
    have h2 : decide (1 ≤ n) = false := by simp; omega
    go_enter Try.func80, Try.ntmps80
    go_wp2
    go_ret
    simp [knd, h2]
theorem oNumber (n : Int) (w : World) : Calls Try.prog 81 #[.int .i64 n] w fun e w' => e = .returned (.bool (num n)) ∧ w = w' := by
  by_cases h1 : 1 ≤ n
  · go_enter Try.func81, Try.ntmps81
    go_wp2
    go_ret
    simp [num, *]
  · have h1 : n < 1 := by omega
    have h2 : decide (1 ≤ n) = false := by simp; omega
    go_enter Try.func81, Try.ntmps81
    go_wp2
    go_ret
    simp [num, h2]
theorem oTime (n : Int) (w : World) : Calls Try.prog 82 #[.int .i64 n] w fun e w' => e = .returned (.bool (tim n)) ∧ w = w' := by
  by_cases h1 : n = 0
  · subst h1
    go_enter Try.func82, Try.ntmps82
    go_wp2_with (go_at_call 81; refine (oNumber _ _).mono ?_; rintro e w' ⟨rfl, rfl⟩)
    go_ret
    simp [tim]
  · have h2 : (n == 0) = false := by simp [h1]
    have h3 : decide (n = 0) = false := by simp [h1]
    have h4 := Lib.hid h3
    clear h3
    go_enter Try.func82, Try.ntmps82
    go_wp2_with (go_at_call 81; refine (oNumber _ _).mono ?_; rintro e w' ⟨rfl, rfl⟩)
    go_ret
    simp [tim, h4.out]

-- of's closure: the captured kind in one box, the order in another
def sameKO (kind order : Int) (o : O) : Bool := decide (o.kind = kind) && decide (o.order = order)
def sameKey (key : Int) (o : O) : Bool := decide (o.key = key)
theorem ofIs (o : O) (p q : Nat) (kind order : Int) (w : World) (h1 : w.cell? ⟨p, 0, none⟩ = some (.int .i64 kind)) (h2 : w.cell? ⟨q, 0, none⟩ = some (.int .i64 order)) :
    Calls Try.prog 129 #[.agg #[.int .i64 o.key, .int .i64 o.kind, .int .i64 o.order, .int .i64 o.due], .pointer (some ⟨p, 0, none⟩), .pointer (some ⟨q, 0, none⟩)] w
      fun e w' => e = .returned (.bool (sameKO kind order o)) ∧ Below w.heap.size w w' := by
  have hp : p < w.heap.size := lt_of_cell h1
  have hq : q < w.heap.size := lt_of_cell h2
  obtain ⟨key, k, r, due⟩ := o
  by_cases hk : k = kind
  · have hk0 : (k == kind) = true := by simp [hk]
    replace hk := Lib.hid hk
    go_enter Try.func129, Try.ntmps129
    go_wp2_with fail
    go_ret
    exact ⟨by simp [sameKO, hk.out]; rfl, (Below.refl _ _).alloc (Nat.le_refl _) _⟩
  · have hk0 : (k == kind) = false := by simp [hk]
    replace hk := Lib.hid hk
    go_enter Try.func129, Try.ntmps129
    go_wp2_with fail
    go_ret
    exact ⟨by simp [sameKO, hk.out], (Below.refl _ _).alloc (Nat.le_refl _) _⟩
theorem doneIs (o : O) (p : Nat) (key : Int) (w : World) (h1 : w.cell? ⟨p, 0, none⟩ = some (.int .i64 key)) :
    Calls Try.prog 86 #[.agg #[.int .i64 o.key, .int .i64 o.kind, .int .i64 o.order, .int .i64 o.due], .pointer (some ⟨p, 0, none⟩)] w
      fun e w' => e = .returned (.bool (sameKey key o)) ∧ Below w.heap.size w w' := by
  have hp : p < w.heap.size := lt_of_cell h1
  obtain ⟨k, kd, r, due⟩ := o
  go_enter Try.func86, Try.ntmps86
  go_wp2_with fail
  go_ret
  exact ⟨by simp [sameKey]; rfl, (Below.refl _ _).alloc (Nat.le_refl _) _⟩
theorem ofAny (kind order : Int) (w : World) : Calls Try.prog 84 #[.int .i64 kind, .int .i64 order] w
    fun e w' => e = .returned (.func (.func 129) #[] #[.pointer (some ⟨w.heap.size, 0, none⟩), .pointer (some ⟨w.heap.size + 1, 0, none⟩)]) ∧ w' = (w.alloc (.cells #[.int .i64 kind] 3)).alloc (.cells #[.int .i64 order] 3) := by
  go_enter Try.func84, Try.ntmps84
  go_wp2_with fail
  go_ret
  exact ⟨rfl, rfl⟩

def idx (l : List O) (f : O → Bool) : Int := match l.findIdx? f with | none => -1 | some i => (i : Int)
theorem idx_none {l : List O} {f : O → Bool} (h : ∀ o ∈ l, f o = false) : idx l f = -1 := by
  unfold idx
  rw [List.findIdx?_eq_none_iff.2 h]
theorem idx_at {l : List O} {f : O → Bool} {k : Nat} {o : O} (h : ∀ x ∈ l.take k, f x = false) (ho : l[k]? = some o) (hf : f o = true) : idx l f = k := by
  unfold idx
  obtain ⟨hk, rfl⟩ := List.getElem?_eq_some_iff.1 ho
  rw [List.findIdx?_eq_some_iff_getElem.2 ⟨hk, hf, fun j hj => ?_⟩]
  have := h l[j] (List.mem_take_iff_getElem.2 ⟨j, by omega, rfl⟩)
  simpa using this

-- slices.IndexFunc with the closure of$1
set_option maxHeartbeats 800000 in
theorem idxOf (A : Option Addr) (l : List O) (c p q : Nat) (kind order : Int) (w : World) (ok : Nat → Prop) (hr : Reads w ok 4 A l.length (l.flatMap O.c)) (h1 : w.cell? ⟨p, 0, none⟩ = some (.int .i64 kind)) (h2 : w.cell? ⟨q, 0, none⟩ = some (.int .i64 order)) (hll : l.length < 4611686018427387904) :
    Calls Try.prog 128 #[.slice A l.length c, .func (.func 129) #[] #[.pointer (some ⟨p, 0, none⟩), .pointer (some ⟨q, 0, none⟩)]] w
      fun e w' => e = .returned (.int .i64 (idx l (sameKO kind order))) ∧ Below w.heap.size w w' := by
  go_enter Try.func128, Try.ntmps128
  go_wp2_with fail
  go_loopw [8] (fun v8 wr => ∃ (k : Nat), v8 = .int .i64 k ∧ k ≤ l.length ∧ Hid (∀ x ∈ l.take k, sameKO kind order x = false) ∧ Below w.heap.size w wr) (fun v8 _ => l.length - (intOf v8).toNat)
  case atStart => exact ⟨0, rfl, by omega, Lib.hid (by intro x hx; simp at hx), Below.refl _ _⟩
  case round =>
    obtain ⟨k, rfl, hk, hall, hB⟩ := hrel
    have hs1 := hB.size
    by_cases hlt : k < l.length
    · obtain ⟨o, ho⟩ : ∃ o, l[k]? = some o := ⟨_, List.getElem?_eq_getElem hlt⟩
      obtain ⟨b, of, rfl, hbl, _, hc⟩ := (hr.below hB).elem O.len (by omega) k o ho
      have hcall := Lib.hid (fun W (h : Below wr.heap.size wr W) => ofIs o p q kind order W (cell_below h (cell_below hB h1)) (cell_below h (cell_below hB h2)))
      have hc0 := hc 0 _ rfl
      have hc1 := hc 1 _ rfl
      have hc2 := hc 2 _ rfl
      have hc3 := hc 3 _ rfl
      clear hc
      simp only [Nat.add_zero] at hc0
      by_cases hp : sameKO kind order o = true
      · have hR := Lib.hid (idx_at (f := sameKO kind order) hall.out ho hp)
        replace ho := Lib.hid ho
        rw [hp] at hcall
        clear hp
        go_wp2_with fail
        refine (hcall.out _ (Below.refl _ _)).mono ?_
        rintro e w2 ⟨rfl, hb2⟩
        go_wp2_with fail
        go_ret
        exact ⟨by rw [hR.out]; rfl, below_then hB hs1 hb2⟩
      · have hp' : sameKO kind order o = false := by simpa using hp
        have hall2 := Lib.hid (show ∀ x ∈ l.take (k + 1), sameKO kind order x = false from fun x hx => by
          rw [List.take_add_one, ho] at hx
          rcases List.mem_append.1 hx with h | h
          · exact hall.out x h
          · simp at h
            rw [h]; exact hp')
        replace ho := Lib.hid ho
        rw [hp'] at hcall
        clear hp hp'
        go_wp2_with fail
        refine (hcall.out _ (Below.refl _ _)).mono ?_
        rintro e w2 ⟨rfl, hb2⟩
        go_wp2_with fail
        go_roundw
        case rel => exact ⟨k + 1, by go_num, by omega, hall2, below_then hB hs1 hb2⟩
        case measure => simp [intOf]; omega
    · have hR := Lib.hid (idx_none (l := l) (f := sameKO kind order) (by have := hall.out; rw [List.take_of_length_le (by omega)] at this; exact this))
      go_wp2_with fail
      go_ret
      exact ⟨by rw [hR.out]; rfl, hB⟩
-- slices.IndexFunc with the closure Done$1
set_option maxHeartbeats 800000 in
theorem idxDone (A : Option Addr) (l : List O) (c p : Nat) (key : Int) (w : World) (ok : Nat → Prop) (hr : Reads w ok 4 A l.length (l.flatMap O.c)) (h1 : w.cell? ⟨p, 0, none⟩ = some (.int .i64 key)) (hll : l.length < 4611686018427387904) :
    Calls Try.prog 128 #[.slice A l.length c, .func (.func 86) #[] #[.pointer (some ⟨p, 0, none⟩)]] w
      fun e w' => e = .returned (.int .i64 (idx l (sameKey key))) ∧ Below w.heap.size w w' := by
  go_enter Try.func128, Try.ntmps128
  go_wp2_with fail
  go_loopw [8] (fun v8 wr => ∃ (k : Nat), v8 = .int .i64 k ∧ k ≤ l.length ∧ Hid (∀ x ∈ l.take k, sameKey key x = false) ∧ Below w.heap.size w wr) (fun v8 _ => l.length - (intOf v8).toNat)
  case atStart => exact ⟨0, rfl, by omega, Lib.hid (by intro x hx; simp at hx), Below.refl _ _⟩
  case round =>
    obtain ⟨k, rfl, hk, hall, hB⟩ := hrel
    have hs1 := hB.size
    by_cases hlt : k < l.length
    · obtain ⟨o, ho⟩ : ∃ o, l[k]? = some o := ⟨_, List.getElem?_eq_getElem hlt⟩
      obtain ⟨b, of, rfl, hbl, _, hc⟩ := (hr.below hB).elem O.len (by omega) k o ho
      have hcall := Lib.hid (fun W (h : Below wr.heap.size wr W) => doneIs o p key W (cell_below h (cell_below hB h1)))
      have hc0 := hc 0 _ rfl
      have hc1 := hc 1 _ rfl
      have hc2 := hc 2 _ rfl
      have hc3 := hc 3 _ rfl
      clear hc
      simp only [Nat.add_zero] at hc0
      by_cases hp : sameKey key o = true
      · have hR := Lib.hid (idx_at (f := sameKey key) hall.out ho hp)
        replace ho := Lib.hid ho
        rw [hp] at hcall
        clear hp
        go_wp2_with fail
        refine (hcall.out _ (Below.refl _ _)).mono ?_
        rintro e w2 ⟨rfl, hb2⟩
        go_wp2_with fail
        go_ret
        exact ⟨by rw [hR.out]; rfl, below_then hB hs1 hb2⟩
      · have hp' : sameKey key o = false := by simpa using hp
        have hall2 := Lib.hid (show ∀ x ∈ l.take (k + 1), sameKey key x = false from fun x hx => by
          rw [List.take_add_one, ho] at hx
          rcases List.mem_append.1 hx with h | h
          · exact hall.out x h
          · simp at h
            rw [h]; exact hp')
        replace ho := Lib.hid ho
        rw [hp'] at hcall
        clear hp hp'
        go_wp2_with fail
        refine (hcall.out _ (Below.refl _ _)).mono ?_
        rintro e w2 ⟨rfl, hb2⟩
        go_wp2_with fail
        go_roundw
        case rel => exact ⟨k + 1, by go_num, by omega, hall2, below_then hB hs1 hb2⟩
        case measure => simp [intOf]; omega
    · have hR := Lib.hid (idx_none (l := l) (f := sameKey key) (by have := hall.out; rw [List.take_of_length_le (by omega)] at this; exact this))
      go_wp2_with fail
      go_ret
      exact ⟨by rw [hR.out]; rfl, hB⟩

theorem whereOf (A : Option Addr) (l : List O) (c p q : Nat) (kind order : Int) (w : World) (ok : Nat → Prop) (hr : Reads w ok 4 A l.length (l.flatMap O.c)) (h1 : w.cell? ⟨p, 0, none⟩ = some (.int .i64 kind)) (h2 : w.cell? ⟨q, 0, none⟩ = some (.int .i64 order)) (hll : l.length < 4611686018427387904) :
    Calls Try.prog 83 #[.slice A l.length c, .func (.func 129) #[] #[.pointer (some ⟨p, 0, none⟩), .pointer (some ⟨q, 0, none⟩)]] w
      fun e w' => e = .returned (.int .i64 (idx l (sameKO kind order))) ∧ Below w.heap.size w w' := by
  have hc := Lib.hid (idxOf A l c p q kind order w ok hr h1 h2 hll)
  go_enter Try.func83, Try.ntmps83
  go_wp2_with fail
  refine hc.out.mono ?_
  rintro e w1 ⟨rfl, hb⟩
  go_wp2_with fail
  go_ret
  exact ⟨rfl, hb⟩
theorem whereDone (A : Option Addr) (l : List O) (c p : Nat) (key : Int) (w : World) (ok : Nat → Prop) (hr : Reads w ok 4 A l.length (l.flatMap O.c)) (h1 : w.cell? ⟨p, 0, none⟩ = some (.int .i64 key)) (hll : l.length < 4611686018427387904) :
    Calls Try.prog 83 #[.slice A l.length c, .func (.func 86) #[] #[.pointer (some ⟨p, 0, none⟩)]] w
      fun e w' => e = .returned (.int .i64 (idx l (sameKey key))) ∧ Below w.heap.size w w' := by
  have hc := Lib.hid (idxDone A l c p key w ok hr h1 hll)
  go_enter Try.func83, Try.ntmps83
  go_wp2_with fail
  refine hc.out.mono ?_
  rintro e w1 ⟨rfl, hb⟩
  go_wp2_with fail
  go_ret
  exact ⟨rfl, hb⟩
end Go.Proofs.Ytejdmefiobgcdaa
