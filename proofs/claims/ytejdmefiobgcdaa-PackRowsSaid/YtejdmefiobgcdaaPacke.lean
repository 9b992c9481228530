import Derived.Test.YtejdmefiobgcdaaPackd
import Derived.Test.YtejdmefiobgcdaaPbld
import Derived.Test.YtejdmefiobgcdaaComm
import Derived.Conc.SmallLaws
namespace Go.Proofs.Ytejdmefiobgcdaa
open Go.RowKit Go.Proofs Go.Conc

def item (s : List UInt8) : List UInt8 := enc (zz s.length) ++ s
def MayRow (l : List (List UInt8)) : Prop := l.length ≤ 256 ∧ ∀ s ∈ l, s.length ≤ 4096
instance (l : List (List UInt8)) : Decidable (MayRow l) := by unfold MayRow; infer_instance
def rowS (l : List (List UInt8)) : List UInt8 × Int := if MayRow l then (enc (zz l.length) ++ l.flatMap item, 0) else ([], 3)

def RowI (w : World) (A : Option Addr) (l : List (List UInt8)) (c : Nat) (a : Act) (wr : World) : Prop :=
  ∃ (k : Nat) (i : Int) (u5 u6 u7 u8 u9 u14 u15 u16 u17 u18 u19 u20 u21 u22 u23 u24 u25 u26 u27 u28 u29 u30 u31 u32 u33 u34 u35 u36 u37 u38 u39 u40 u41 u42 u43 u44 : Value), a = ⟨#[.slice A l.length c, undef, .string ⟨#[]⟩, .int .i64 0, .chan (some w.heap.size), u5, u6, u7, u8, u9, .chan (some w.heap.size), .slice A l.length c, .int .i64 l.length, .int .i64 i, u14, u15, u16, u17, u18, u19, u20, u21, u22, u23, u24, u25, u26, u27, u28, u29, u30, u31, u32, u33, u34, u35, u36, u37, u38, u39, u40, u41, u42, u43, u44], []⟩ ∧ Hid (i = k) ∧ k ≤ l.length ∧ k ≤ 256 ∧ (∀ s ∈ l.take k, s.length ≤ 4096) ∧ wr.heap[w.heap.size]? = some (.chan 256 ((l.take k).map fun s => str (item s)).toArray false k 0 false) ∧ Below w.heap.size w wr
def RowJ (w : World) (A : Option Addr) (l : List (List UInt8)) (c B : Nat) (a : Act) (wr : World) : Prop :=
  ∃ (k : Nat) (u5 u6 u8 u9 u14 u15 u16 u17 u18 u19 u20 u21 u22 u23 u24 u25 u26 u27 u28 u29 u30 u31 u32 u33 u34 u35 u36 u37 u38 u39 u40 u41 u42 u43 u44 : Value), a = ⟨#[.slice A l.length c, undef, .string ⟨#[]⟩, .int .i64 0, .chan (some w.heap.size), u5, u6, .pointer (some ⟨B, 0, none⟩), u8, u9, .chan (some w.heap.size), .slice A l.length c, .int .i64 l.length, .int .i64 l.length, u14, u15, u16, u17, u18, u19, u20, u21, u22, u23, u24, u25, u26, u27, u28, u29, u30, u31, u32, u33, u34, u35, u36, u37, u38, u39, u40, u41, u42, u43, u44], []⟩ ∧ k ≤ l.length ∧ wr.heap[w.heap.size]? = some (.chan 256 ((l.drop k).map fun s => str (item s)).toArray true l.length k false) ∧
    IsB B B (enc (zz l.length) ++ (l.take k).flatMap item) wr ∧ Below w.heap.size w wr
def left (ch : Nat) (wr : World) : Nat := match wr.heap[ch]? with | some (.chan _ buf _ _ _ _) => buf.size | _ => 0
theorem left_of {ch : Nat} {wr : World} {cap : Nat} {buf : Array Value} {cl : Bool} {s r : Nat} {tm : Bool} (h : wr.heap[ch]? = some (.chan cap buf cl s r tm)) : left ch wr = buf.size := by simp [left, h]
theorem items_len (l : List (List UInt8)) (n : Nat) (hn : n ≤ 1000000) (h : ∀ s ∈ l, s.length ≤ n) : (l.flatMap item).length ≤ l.length * (n + 9) := by
  induction l with
  | nil => simp
  | cons s l ih =>
    have h1 := ih (fun t ht => h t (List.mem_cons_of_mem _ ht))
    have h2 := h s List.mem_cons_self
    rw [List.flatMap_cons, List.length_append, List.length_cons, Nat.succ_mul]
    have h3 : (item s).length ≤ n + 9 := by
      unfold item
      rw [List.length_append]
      have := enc_len 8 (zz s.length) (by unfold zz; split <;> omega)
      omega
    omega
theorem add_str (a b : List UInt8) (h : a.length + b.length < 200000000) (W : World) : (binOp .add 9 (str a) (str b)).run Try.prog W = .ok (str (a ++ b)) W := by
  have h1 := run_string_add_sum (P := Try.prog) (w := W) ⟨a.toArray⟩ ⟨b.toArray⟩ (by rw [str_size, str_size]; omega)
  have h2 : (⟨a.toArray⟩ ++ ⟨b.toArray⟩ : ByteArray) = ⟨(a ++ b).toArray⟩ := by
    apply ByteArray.ext
    simp
  rw [h2] at h1
  exact h1
theorem mk146 (w : World) : (Instr.makeChan 146 (.int .i64 256)).run Try.prog w = .ok (.chan (some w.heap.size)) (w.alloc (.chan 256 #[] false 0 0 false)) := by
  obtain ⟨i0, hi, hz0, hz1, hz2⟩ := info_parts info9
  exact run_makeChan Try.underlying146 hi .i64 256 (by omega) (by omega)

set_option maxRecDepth 100000 in
set_option maxHeartbeats 800000 in
theorem rowP (A : Option Addr) (l : List (List UInt8)) (c : Nat) (w : World) (ok : Nat → Prop) (hr : Reads w ok 1 A l.length (l.map str)) (hll : l.length < 1000) (hb : ∀ s ∈ l, s.length < 100000000) :
    Calls Try.prog 49 #[.slice A l.length c] w fun e w' => e = .returned (.tuple #[str (rowS l).1, .int .i64 (rowS l).2]) ∧ Below w.heap.size w w' := by
  refine calls_of_WpN Try.func49 rfl ?_
  have Hb := Lib.hid hb
  clear hb
  simp only [Try.ntmps49, List.size_toArray, List.length_cons, List.length_nil, Nat.reduceAdd, Nat.reduceSub, Array.replicate_succ, Array.replicate_zero, List.push_toArray, List.append_toArray, List.nil_append, List.cons_append]
  have hmc := mk146
  refine WpN.seq_k fun K0 hK0 => WpN.of_wp ?_
  go_wp2_with fail
  refine WpN.seq_k fun K1 hK1 => WpN.of_wp ?_
  go_wp2_with fail
  refine WpN.seq_k fun KA hKA => ?_
  refine WpN.seq_k fun K2 hK2 => WpN.of_wp ?_
  go_wp2_with fail
  refine WpN.block ?_
  refine WpN.loop (RowI w A l c) (fun a _ => l.length - (intOf (a.eval (.tmp 13))).toNat) ⟨0, 0, _, _, _, _, _, _, _, _, _, _, _, _, _, _, _, _, _, _, _, _, _, _, _, _, _, _, _, _, _, _, _, _, _, _, _, _, rfl, Lib.hid rfl, by omega, by omega, by intro s hs; simp at hs, heap_alloc_new w _, (Below.refl _ _).alloc (Nat.le_refl _) _⟩ ?_
  rintro a wr ⟨k, _, u5, u6, u7, u8, u9, u14, u15, u16, u17, u18, u19, u20, u21, u22, u23, u24, u25, u26, u27, u28, u29, u30, u31, u32, u33, u34, u35, u36, u37, u38, u39, u40, u41, u42, u43, u44, rfl, hi, hk, hk2, hall, hch, hB⟩
  obtain rfl := hi.out
  clear hi
  replace hall := Lib.hid hall
  have hs1 := hB.size
  by_cases hlt : k < l.length
  · obtain ⟨s, hs⟩ : ∃ s, l[k]? = some s := ⟨_, List.getElem?_eq_getElem hlt⟩
    obtain ⟨b, o, rfl, hbl, _, hcell⟩ := at1 (hr.below hB) k s hs
    have hl2 := len_str s
    have hsl := Hb.out s (List.mem_of_getElem? hs)
    replace hs := Lib.hid hs
    refine WpN.seq_k fun K3 hK3 => WpN.of_wp ?_
    go_wp2_with fail
    refine WpN.seq_k fun K4 hK4 => WpN.of_wp ?_
    go_wp2_with fail
    refine WpN.seq_k fun K5 hK5 => ?_
    refine WpN.block ?_
    refine WpN.seq_k fun K6 hK6 => WpN.of_wp ?_
    go_wp2_with fail
    by_cases h4 : s.length ≤ 4096
    · have h4' : decide (4096 < s.length) = false := by simp; omega
      refine WpN.seq_k fun K7 hK7 => WpN.of_wp ?_
      go_wp2_with fail
      refine WpN.seq_k fun K8 hK8 => WpN.of_wp ?_
      go_wp2_with fail
      refine (numberP _ (by simp [mayN]; omega) _).mono ?_
      rintro e w1 ⟨rfl, hb1⟩
      have hadd := add_str (enc (zz s.length)) s (by have := enc_len 8 (zz s.length) (by unfold zz; split <;> omega); omega)
      go_wp2_with fail
      have hch1 := (hb1.block _ (Array.getElem?_eq_some_iff.1 hch).1).trans hch
      refine WpN.seq_k fun K9 hK9 => WpN.region ?_
      change RestN _ _ _ [0, 1, 2] _ _
      by_cases h256 : k < 256
      · refine RestN.send_room (c := w.heap.size) (v := str (item s)) (z := .string ⟨#[]⟩) (d := 26) rfl rfl rfl ?_ hch1 (by simp; omega) ?_
        · simp [execOp, go_sem, scase, Act.eval]
          rfl
        have hsz1 : w.heap.size < w1.heap.size := (Array.getElem?_eq_some_iff.1 hch1).1
        have hch2 := heap_setChan w1 w.heap.size 256 (((l.take k).map fun s => str (item s)).toArray.push (str (item s))) false (k + 1) 0 false hsz1
        have hB2 := below_setChan (below_then hB hs1 hb1) (Nat.le_refl w.heap.size) 256 (((l.take k).map fun s => str (item s)).toArray.push (str (item s))) false (k + 1) 0 false
        generalize World.setChan _ _ _ _ _ _ _ _ = w2 at hch2 hB2 ⊢
        have hnx : ((l.take k).map fun s => str (item s)).toArray.push (str (item s)) = ((l.take (k + 1)).map fun s => str (item s)).toArray := by
          rw [List.take_add_one, hs.out]; simp
        rw [hnx] at hch2
        clear hnx hch1
        have hall2 := Lib.hid (show ∀ s ∈ l.take (k + 1), s.length ≤ 4096 from fun t ht => by
          rw [List.take_add_one, hs.out] at ht
          rcases List.mem_append.1 ht with h | h
          · exact hall.out t h
          · simp at h
            rw [h]; exact h4)
        refine RestN.value (v := .int .i64 0) (w' := w2) (d := 27) rfl rfl rfl (by simp [execOp, go_sem, Act.eval, Act.put]) ?_
        refine RestN.value (v := .bool true) (w' := w2) (d := 28) rfl rfl rfl (by simp [execOp, go_sem, Act.eval, Act.put]) ?_
        refine RestN.nil ?_
        simp only [Act.put, List.setIfInBounds_toArray, List.set_cons_zero, List.set_cons_succ]
        refine hK9 _ _ ?_
        refine WpN.of_wp ?_
        go_wp2_with fail
        refine WpN.of_wp ?_
        go_wp2_with fail
        refine ⟨⟨k + 1, (k : Int) + 1, _, _, _, _, _, _, _, _, _, _, _, _, _, _, _, _, _, _, _, _, _, _, _, _, _, _, _, _, _, _, _, _, _, _, _, _, rfl, Lib.hid (by omega), by omega, by omega, hall2.out, by simpa using hch2, hB2⟩, ?_⟩
        simp [intOf]
        omega
      · have hk' : k = 256 := by omega
        refine RestN.send_full (c := w.heap.size) (v := str (item s)) (z := .string ⟨#[]⟩) (d := 26) rfl rfl rfl ?_ hch1 (by simp; omega) ?_
        · simp [execOp, go_sem, scase, Act.eval]
          rfl
        refine RestN.value (v := .int .i64 (-1)) (w' := w1) (d := 27) rfl rfl rfl (by simp [execOp, go_sem, Act.eval, Act.put]) ?_
        refine RestN.value (v := .bool false) (w' := w1) (d := 28) rfl rfl rfl (by simp [execOp, go_sem, Act.eval, Act.put]) ?_
        refine RestN.nil ?_
        simp only [Act.put, List.setIfInBounds_toArray, List.set_cons_zero, List.set_cons_succ]
        refine hK9 _ _ ?_
        refine WpN.of_wp ?_
        go_wp2_with fail
        have hR : rowS l = ([], 3) := by unfold rowS; rw [if_neg]; intro h; have := h.1; omega
        refine bodyPost_ret (v := .tuple #[str [], .int .i64 3]) (by simp [results, Try.results49, go_sem, str]) rfl ⟨by rw [hR], below_then hB hs1 hb1⟩
    · have h4' : decide (4096 < s.length) = true := by simp; omega
      refine WpN.seq_k fun K7 hK7 => WpN.of_wp ?_
      go_wp2_with fail
      have hR : rowS l = ([], 3) := by unfold rowS; rw [if_neg]; intro h; exact h4 (h.2 s (List.mem_of_getElem? hs.out))
      refine bodyPost_ret (v := .tuple #[str [], .int .i64 3]) (by simp [results, Try.results49, go_sem, str]) rfl ⟨by rw [hR], hB⟩
  · have hk' : k = l.length := by omega
    subst hk'
    rw [List.take_length] at hch
    have hmay : MayRow l := ⟨by omega, fun t ht => hall.out t (by rw [List.take_length]; exact ht)⟩
    refine WpN.seq_k fun K3 hK3 => WpN.of_wp ?_
    go_wp2_with fail
    refine WpN.seq_k fun K4 hK4 => WpN.of_wp ?_
    go_wp2_with fail
    have hcl := fun ats ty => run_close_open (P := Try.prog) (w := wr) ats ty hch
    have hsz1 : w.heap.size < wr.heap.size := (Array.getElem?_eq_some_iff.1 hch).1
    refine WpN.seq_k fun K12 hK12 => WpN.of_wp ?_
    go_wp2_with fail
    have hch3 := heap_setChan wr w.heap.size 256 (l.map fun s => str (item s)).toArray true l.length 0 false hsz1
    have hB3 := below_setChan hB (Nat.le_refl w.heap.size) 256 (l.map fun s => str (item s)).toArray true l.length 0 false
    change WpN _ _ _ _ (wr.setChan w.heap.size 256 (l.map fun s => str (item s)).toArray true l.length 0 false)
    generalize World.setChan _ _ _ _ _ _ _ _ = w3 at hch3 hB3 ⊢
    clear hcl hch hB hs1 hsz1 hall
    have hs3 : w.heap.size < w3.heap.size := (Array.getElem?_eq_some_iff.1 hch3).1
    refine WpN.seq_k fun K13 hK13 => WpN.of_wp ?_
    go_wp2_with fail
    have hib := IsB.fresh w3
    have hnum := fun W => numberP l.length (by simp [mayN]; omega) W
    refine WpN.seq_k fun K14 hK14 => WpN.of_wp ?_
    go_wp2_with fail
    refine (hnum _).mono ?_
    rintro e w4 ⟨rfl, hb4⟩
    have hib4 := hib.keep (w' := w4) (fun k _ hk => hb4.block k hk)
    have hB4 := below_then (hB3.alloc (Nat.le_of_lt hs3) _) (by simp; omega) hb4
    have hch4 := (hb4.block w.heap.size (by simp; omega)).trans ((Lib.alloc_old w3 _ w.heap.size hs3).trans hch3)
    have hs4 := hb4.size
    rw [World.size_alloc] at hs4
    obtain ⟨B, hB⟩ : ∃ B, w3.heap.size = B := ⟨_, rfl⟩
    rw [hB] at hib4 hs4 hs3 ⊢
    clear hib hb4 hB3 hch3 hnum
    have hl9 := enc_len 8 (zz l.length) (by unfold zz; split <;> omega)
    go_wp2_with fail
    refine (writeB B B [] (enc (zz l.length)) w4 hib4 (by simp; omega) (by omega)).mono ?_
    rintro e w5 ⟨rfl, hib5, hb5⟩
    have hch5 := (hb5.block _ hs3).trans hch4
    have hB5 := hB4.trans (hb5.mono (by omega))
    go_wp2_with fail
    refine WpN.block ?_
    refine WpN.loop (RowJ w A l c B) (fun _ wr => left w.heap.size wr) ⟨0, _, _, _, _, _, _, _, _, _, _, _, _, _, _, _, _, _, _, _, _, _, _, _, _, _, _, _, _, _, _, _, _, _, _, _, rfl, by omega, hch5, by simpa using hib5, hB5⟩ ?_
    clear hib5 hch5 hB5 hB4 hch4 hib4 hs4 hb5
    rintro a wr ⟨k, u5, u6, u8, u9, u14, u15, u16, u17, u18, u19, u20, u21, u22, u23, u24, u25, u26, u27, u28, u29, u30, u31, u32, u33, u34, u35, u36, u37, u38, u39, u40, u41, u42, u43, u44, rfl, hk, hch, hib, hB⟩
    refine WpN.block ?_
    refine WpN.seq_k fun K15 hK15 => WpN.region ?_
    change RestN _ _ _ [0, 1, 2, 3, 4, 5, 6] _ _
    refine RestN.value (v := .chan (some w.heap.size)) (w' := wr) (d := 36) rfl rfl rfl (by simp [execOp, go_sem, Act.eval]) ?_
    by_cases hlt : k < l.length
    · obtain ⟨s, hs⟩ : ∃ s, l[k]? = some s := ⟨_, List.getElem?_eq_getElem hlt⟩
      have hdr : l.drop k = s :: l.drop (k + 1) := by
        obtain ⟨hk', rfl⟩ := List.getElem?_eq_some_iff.1 hs
        exact List.drop_eq_getElem_cons hk'
      rw [hdr] at hch
      refine RestN.recv_buf (c := w.heap.size) (z := .string ⟨#[]⟩) (d := 37) rfl rfl rfl ?_ hch (by simp) ?_
      · simp [execOp, go_sem, rcase, Act.eval, Act.put]
      have hsz : w.heap.size < wr.heap.size := (Array.getElem?_eq_some_iff.1 hch).1
      have hBs := hib.lt
      have hib2 := hib.keep (w' := wr.setChan w.heap.size 256 ((((s :: l.drop (k + 1)).map fun s => str (item s)).toArray.extract 1 ((s :: l.drop (k + 1)).map fun s => str (item s)).toArray.size)) true l.length (k + 1) false) (fun j h1 h2 => by
        simp only [World.setChan]
        rw [Array.getElem?_setIfInBounds_ne (by omega)])
      have hch2 := heap_setChan wr w.heap.size 256 ((((s :: l.drop (k + 1)).map fun s => str (item s)).toArray.extract 1 ((s :: l.drop (k + 1)).map fun s => str (item s)).toArray.size)) true l.length (k + 1) false hsz
      have hB2 := below_setChan hB (Nat.le_refl w.heap.size) 256 ((((s :: l.drop (k + 1)).map fun s => str (item s)).toArray.extract 1 ((s :: l.drop (k + 1)).map fun s => str (item s)).toArray.size)) true l.length (k + 1) false
      have hs2 := size_setChan wr w.heap.size 256 ((((s :: l.drop (k + 1)).map fun s => str (item s)).toArray.extract 1 ((s :: l.drop (k + 1)).map fun s => str (item s)).toArray.size)) true l.length (k + 1) false
      generalize World.setChan _ _ _ _ _ _ _ _ = w2 at hch2 hB2 hib2 hs2 ⊢
      have hnx : ((s :: l.drop (k + 1)).map fun s => str (item s)).toArray.extract 1 ((s :: l.drop (k + 1)).map fun s => str (item s)).toArray.size = ((l.drop (k + 1)).map fun s => str (item s)).toArray := by simp [List.take_of_length_le]
      rw [hnx] at hch2
      rw [show (((s :: l.drop (k + 1)).map fun s => str (item s)).toArray.getD 0 undef) = str (item s) by simp]
      have hle := left_of hch
      have hle2 := left_of hch2
      rw [hdr] at *
      clear hnx hch hib hB hdr
      refine RestN.value (v := .tuple #[str (item s), .bool true]) (w' := w2) (d := 35) rfl rfl rfl (by simp [execOp, go_sem, Act.eval, Act.put]) ?_
      refine RestN.value (v := str (item s)) (w' := w2) (d := 38) rfl rfl rfl (by simp [execOp, go_sem, Act.eval, Act.put]) ?_
      refine RestN.value (v := .bool true) (w' := w2) (d := 39) rfl rfl rfl (by simp [execOp, go_sem, Act.eval, Act.put]) ?_
      refine RestN.value (v := str (item s)) (w' := w2) (d := 8) rfl rfl rfl (by simp [execOp, go_sem, Act.eval, Act.put]) ?_
      refine RestN.value (v := .bool true) (w' := w2) (d := 9) rfl rfl rfl (by simp [execOp, go_sem, Act.eval, Act.put]) ?_
      refine RestN.nil ?_
      simp only [Act.put, List.setIfInBounds_toArray, List.set_cons_zero, List.set_cons_succ]
      refine hK15 _ _ ?_
      refine WpN.of_wp ?_
      go_wp2_with fail
      have hs4096 := hmay.2 s (List.mem_of_getElem? hs)
      have hil := items_len (l.take k) 4096 (by omega) (fun t ht => hmay.2 t (List.mem_of_mem_take ht))
      have hil2 : (item s).length ≤ 4105 := by have := items_len [s] 4096 (by omega) (fun t ht => by simp at ht; rw [ht]; exact hs4096); simpa using this
      have htl : (l.take k).length ≤ 256 := by rw [List.length_take]; omega
      have htl2 : (l.take k).length * (4096 + 9) ≤ 256 * 4105 := Nat.mul_le_mul_right _ htl
      refine (writeB B B _ (item s) w2 hib2 (by rw [List.length_append]; omega) (by omega)).mono ?_
      rintro e w6 ⟨rfl, hib6, hb6⟩
      have hch6 := (hb6.block _ hs3).trans hch2
      have hB6 := hB2.trans (hb6.mono (by omega))
      have hle6 := left_of hch6
      have hib7 : IsB B B (enc (zz l.length) ++ (l.take (k + 1)).flatMap item) w6 := by
        rw [List.take_add_one, hs]
        simpa [List.append_assoc] using hib6
      have hlt2 : left w.heap.size w6 < left w.heap.size wr := by rw [hle, hle6]; simp
      clear hle hle2 hle6 hib6 hib2 hch2 hB2 hb6
      replace hib7 := Lib.hid hib7
      replace hch6 := Lib.hid hch6
      replace hlt2 := Lib.hid hlt2
      go_wp2_with fail
      exact ⟨⟨k + 1, _, _, _, _, _, _, _, _, _, _, _, _, _, _, _, _, _, _, _, _, _, _, _, _, _, _, _, _, _, _, _, _, _, _, _, rfl, by omega, hch6.out, hib7.out, hB6⟩, hlt2.out⟩
    · have hk' : k = l.length := by omega
      subst hk'
      rw [List.drop_length] at hch
      rw [List.take_length] at hib
      refine RestN.recv_shut (c := w.heap.size) (z := .string ⟨#[]⟩) (d := 37) rfl rfl rfl ?_ hch ?_
      · simp [execOp, go_sem, rcase, Act.eval, Act.put]
      refine RestN.value (v := .tuple #[.string ⟨#[]⟩, .bool false]) (w' := wr) (d := 35) rfl rfl rfl (by simp [execOp, go_sem, Act.eval, Act.put]) ?_
      refine RestN.value (v := .string ⟨#[]⟩) (w' := wr) (d := 38) rfl rfl rfl (by simp [execOp, go_sem, Act.eval, Act.put]) ?_
      refine RestN.value (v := .bool false) (w' := wr) (d := 39) rfl rfl rfl (by simp [execOp, go_sem, Act.eval, Act.put]) ?_
      refine RestN.value (v := .string ⟨#[]⟩) (w' := wr) (d := 8) rfl rfl rfl (by simp [execOp, go_sem, Act.eval, Act.put]) ?_
      refine RestN.value (v := .bool false) (w' := wr) (d := 9) rfl rfl rfl (by simp [execOp, go_sem, Act.eval, Act.put]) ?_
      refine RestN.nil ?_
      simp only [Act.put, List.setIfInBounds_toArray, List.set_cons_zero, List.set_cons_succ]
      refine hK15 _ _ ?_
      refine WpN.of_wp ?_
      have hBs := hib.lt
      go_wp2_with fail
      refine (stringB B B _ wr hib (by omega)).mono ?_
      rintro e w6 ⟨rfl, hb6⟩
      have hB6 := hB.trans (hb6.mono (by omega))
      go_wp2_with fail
      have hR : rowS l = (enc (zz l.length) ++ l.flatMap item, 0) := by unfold rowS; rw [if_pos hmay]
      refine bodyPost_ret (v := .tuple #[str (enc (zz l.length) ++ l.flatMap item), .int .i64 0]) (by simp [results, Try.results49, go_sem, str]) rfl ⟨by rw [hR], hB6⟩
end Go.Proofs.Ytejdmefiobgcdaa
