import Derived.Test.YtejdmefiobgcdaaProg
import Derived.Test.YtejdmefiobgcdaaBase
import Derived.Laws.BytesString
import Derived.Laws.BytesArg
import Derived.Deep.DeepCutAuto
namespace Go.Proofs.Ytejdmefiobgcdaa
open Go.RowKit Go.Proofs

def str (l : List UInt8) : Value := .string ⟨l.toArray⟩
def mayN (n : Int) : Bool := decide (-1152921504606846976 ≤ n) && decide (n ≤ 1152921504606846976)
/-- a number without its sign -/
def zz (n : Int) : Nat := if n < 0 then (-2 * n - 1).toNat else (2 * n).toNat
def enc (x : Nat) : List UInt8 := if h : x < 128 then [UInt8.ofNat x] else UInt8.ofNat (x % 128 + 128) :: enc (x / 128)
termination_by x
decreasing_by omega

def bval (b : UInt8) : Value := .int .u8 (b.toNat : Int)

theorem mayP_any (n : Int) (w : World) : Calls Try.prog 101 #[.int .i64 n] w fun e w' => e = .returned (.bool (mayN n)) ∧ w = w' := by
  by_cases h1 : -1152921504606846976 ≤ n
  · go_enter Try.func101, Try.ntmps101
    go_wp2
    go_ret
    simp [mayN, *]
  · have h1 : n < -1152921504606846976 := by omega
    have h2 : decide (-1152921504606846976 ≤ n) = false := by simp; omega
    go_enter Try.func101, Try.ntmps101
    go_wp2
    go_ret
    simp [mayN, h2]

theorem enc_len : ∀ (k x : Nat), x < 128 ^ (k + 1) → (enc x).length ≤ k + 1
  | 0, x, h => by rw [enc, dif_pos (by simpa using h)]; simp
  | k + 1, x, h => by
    rw [enc]
    split
    · simp
    · have := enc_len k (x / 128) (by rw [Nat.div_lt_iff_lt_mul (by omega)]; rw [Nat.pow_succ] at h; exact h)
      simp; omega

theorem info5 : (Try.prog.info? 5).map (fun i => (i.zero, i.size, i.bytes)) = some (some (.int .u8 0), 1, 1) := by kernel_rfl

theorem bytes_str (w : World) (B g n cap : Nat) (l : List UInt8) (hn : l.length = n) (h : w.ownsRow B 5 1 (.slice (some ⟨g, 0, none⟩) n cap) n (l.map bval)) :
    (convert 45 9 (.slice (some ⟨g, 0, none⟩) n cap)).run Try.prog w = .ok (str l) w := by
  subst hn
  refine run_convert_bytes_back w 45 9 5 ⟨g, 0, none⟩ cap l Try.underlying45 Try.underlying5 Try.underlying9 fun j hj => ?_
  obtain ⟨ad, e, _, hc⟩ := (Reads.of_own h).2 (by omega)
  injection e with e
  subst e
  exact hc j _ (by simp [hj, bval])

-- pack.Number, refused
theorem numberP_no (n : Int) (h : mayN n = false) (w : World) : Calls Try.prog 55 #[.int .i64 n] w fun e w' => e = .returned (.tuple #[str [], .int .i64 1]) ∧ Below w.heap.size w w' := by
  go_enter Try.func55, Try.ntmps55
  go_wp2_with (go_at_call 101; refine (mayP_any _ _).mono ?_; rintro e w' ⟨rfl, rfl⟩; rw [h])
  refine bodyPost_ret (v := .tuple #[str [], .int .i64 1]) (by simp [results, Try.results55, go_sem, str]) rfl ⟨rfl, Below.refl _ _⟩

-- pack.Number
set_option maxRecDepth 100000 in
set_option maxHeartbeats 800000 in
theorem numberP_yes (n : Int) (h : mayN n = true) (w : World) : Calls Try.prog 55 #[.int .i64 n] w fun e w' => e = .returned (.tuple #[str (enc (zz n)), .int .i64 0]) ∧ Below w.heap.size w w' := by
  obtain ⟨i0, hi, hz0, hz1, hz2⟩ := info_parts info5
  have hb : -1152921504606846976 ≤ n ∧ n ≤ 1152921504606846976 := by simpa [mayN] using h
  obtain ⟨hb0, hb1⟩ := hb
  go_enter Try.func55, Try.ntmps55
  go_upto_if 12 with (go_at_call 101; refine (mayP_any _ _).mono ?_; rintro e w' ⟨rfl, rfl⟩; rw [h])
  (try simp only [Act.put, List.setIfInBounds_toArray, List.set_cons_zero, List.set_cons_succ])
  go_cut [4] (fun v4 wc => v4 = .int .i64 (zz n) ∧ w = wc)
  case first =>
    by_cases h0 : n < 0
    · go_wp2
      go_meet
      case rel => exact ⟨by unfold zz; split <;> simp <;> omega, rfl⟩
    · go_wp2
      go_meet
      case rel => exact ⟨by unfold zz; split <;> simp <;> omega, rfl⟩
  case rest =>
    obtain ⟨rfl, rfl⟩ := hcut
    have hz : zz n < 4000000000000000000 := by unfold zz; split <;> omega
    have hlen : (enc (zz n)).length ≤ 9 := enc_len 8 _ (by omega)
    replace hlen := Lib.hid hlen
    clear h hb0 hb1
    go_wp2_with fail
    go_loopw [4, 5] (fun v4 v5 wr => ∃ (x : Nat) (done : List UInt8), v4 = .int .i64 x ∧ x < 4000000000000000000 ∧ Hid (enc (zz n) = done ++ enc x) ∧ done.length ≤ 100 ∧ wr.ownsRow w.heap.size 5 1 v5 done.length (done.map bval) ∧ Below w.heap.size w wr) (fun v4 _ _ => (intOf v4).toNat)
    case atStart => exact ⟨zz n, [], rfl, hz, Lib.hid (by simp), by simp, World.ownsRow_nil _ _ _ _, Below.refl _ _⟩
    case round =>
      obtain ⟨x, done, rfl, hx, he, hd, hown, hB⟩ := hrel
      have hs0 := hB.size
      by_cases h1 : 128 ≤ x
      · have hb := Lib.hid (show Value.int .u8 ((x : Int) % 128 + 128) = bval (UInt8.ofNat (x % 128 + 128)) by simp only [bval, UInt8.toNat_ofNat']; congr 1; omega)
        have he1 : enc x = UInt8.ofNat (x % 128 + 128) :: enc (x / 128) := by rw [enc, dif_neg (by omega)]
        replace he := Lib.hid ((Eq.trans he.out (by rw [he1]) : enc (zz n) = done ++ _))
        clear he1
        go_wp2_with (at_builtin; refine wpList_append_lies _ rfl (.tmp 20) (.tmp 25) 45 rfl w.heap.size 5 i0 _ 1 1 Try.underlying45 hi hz0 hz1 hz2 rfl (by omega) _ done.length (done.map bval) rfl (hown.alloc _) ⟨wr.heap.size, 0, none⟩ 1 1 [.int .u8 ((x : Int) % 128 + 128)] rfl rfl (by intro j u hu; cases j <;> simp at hu; subst hu; simp [go_sem, Addr.add]) (by simp [Value.oneCell']) (by omega) (by simp [maxLen]; omega) (by omega) (by simp; omega) _ rfl ?_; intro g cap w1 hown1 hgr hloc hlt1)
        have hB1 := (hB.alloc hs0 _).grown hgr (by simp; omega) (fun b e => by rcases hown.2 with ⟨rfl, _⟩ | ⟨g', c', cur, rfl, hg', _⟩ <;> simp_all [Act.eval, Value.ownBlock])
        have hd1 : done.length < 100 := by have h2 := he.out; have h3 := hlen.out; rw [h2] at h3; simp at h3; omega
        go_roundw
        case rel =>
          refine ⟨x / 128, done ++ [UInt8.ofNat (x % 128 + 128)], by simp, by omega, Lib.hid (by rw [he.out]; simp), by simp; omega, ?_, hB1⟩
          have := hown1
          rw [hb.out] at this
          simpa using this
        case measure => simp [intOf]; omega
      · have hb := Lib.hid (show Value.int .u8 (x : Int) = bval (UInt8.ofNat x) by simp only [bval, UInt8.toNat_ofNat']; congr 1; omega)
        have he1 : enc x = [UInt8.ofNat x] := by rw [enc, dif_pos (by omega)]
        replace he := Lib.hid ((Eq.trans he.out (by rw [he1]) : enc (zz n) = done ++ _))
        clear he1
        go_wp2_with (at_builtin; refine wpList_append_lies _ rfl (.tmp 27) (.tmp 30) 45 rfl w.heap.size 5 i0 _ 1 1 Try.underlying45 hi hz0 hz1 hz2 rfl (by omega) _ done.length (done.map bval) rfl (hown.alloc _) ⟨wr.heap.size, 0, none⟩ 1 1 [.int .u8 (x : Int)] rfl rfl (by intro j u hu; cases j <;> simp at hu; subst hu; simp [go_sem, Addr.add]) (by simp [Value.oneCell']) (by omega) (by simp [maxLen]; omega) (by omega) (by simp; omega) _ rfl ?_; intro g cap w1 hown1 hgr hloc hlt1; have hB1 := (hB.alloc hs0 _).grown hgr (by simp; omega) (fun b e => by rcases hown.2 with ⟨rfl, _⟩ | ⟨g', c', cur, rfl, hg', _⟩ <;> simp_all [Act.eval, Value.ownBlock]); rw [hb.out] at hown1; have hcv := bytes_str w1 w.heap.size g (done.length + 1) cap (done ++ [UInt8.ofNat x]) (by simp) (by simpa using hown1))
        exact bodyPost_ret (v := .tuple #[str (done ++ [UInt8.ofNat x]), .int .i64 0]) (by simp [results, Try.results55, go_sem]) rfl ⟨by rw [he.out], hB1⟩
end Go.Proofs.Ytejdmefiobgcdaa
