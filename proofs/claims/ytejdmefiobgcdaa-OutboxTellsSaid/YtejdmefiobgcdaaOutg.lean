import Derived.Test.YtejdmefiobgcdaaOutf
import Derived.Test.YtejdmefiobgcdaaDel
namespace Go.Proofs.Ytejdmefiobgcdaa
open Go.RowKit Go.Proofs

theorem zero60 (w : World) : (zeroValue 60).run Try.prog w = .ok (.agg #[.int .i64 0, .int .i64 0, .int .i64 0, .int .i64 0]) w := by kernel_rfl
theorem elem51 : Try.prog.underlying 51 = some (.slice (Try.prog.elem 51)) := by kernel_rfl

-- slices.Delete of one element of a row of the call's own
set_option maxRecDepth 100000 in
set_option maxHeartbeats 1600000 in
theorem oDelete (g k m n p cap : Nat) (l : List O) (w : World) (B : Nat) (hown : w.ownsRow B 60 4 (.slice (some ⟨g, 0, none⟩) n cap) n (l.flatMap O.c)) (hn : n = k + 1 + m) (hp : k + m = p) (hmax : n ≤ 4000000000000) (hll : l.length = n) :
    Calls Try.prog 87 #[.slice (some ⟨g, 0, none⟩) n cap, .int .i64 k, .int .i64 (k + 1)] w
      fun e w' => e = .returned (.slice (some ⟨g, 0, none⟩) p cap) ∧ Reads w' (fun x => x = g) 4 (some ⟨g, 0, none⟩) p ((l.eraseIdx k).flatMap O.c) ∧ Below g w w' := by
  obtain ⟨hB, hg, hnc, hcell, hfr, hsome⟩ := own_block hown
  have hFl : (l.flatMap O.c).length = n * 4 := by rw [flat_len O.c 4 O.len l, hll]
  have hone := flat_one O.c o_one l
  have hFe : (l.flatMap O.c).take (k * 4) ++ (l.flatMap O.c).drop ((k + 1) * 4) = (l.eraseIdx k).flatMap O.c := by
    rw [flat_take O.c 4 O.len, flat_drop O.c 4 O.len, ← List.flatMap_append, List.eraseIdx_eq_take_drop_succ]
  have hEl : ((l.eraseIdx k).flatMap O.c).length = p * 4 := by
    rw [flat_len O.c 4 O.len, List.length_eraseIdx, hll, if_pos (by omega)]; omega
  generalize l.flatMap O.c = F at hFl hone hFe hcell
  generalize (l.eraseIdx k).flatMap O.c = G at hFe hEl ⊢
  have h1 := run_within elem51 size60 g n cap k (k + 1) (by omega) (by omega) hnc (k : Int) (k + 1 : Int) (n : Int) rfl (by omega) rfl
  have h2 := run_head elem51 size60 (some ⟨g, 0, none⟩) n cap k (by omega) .i64 (k : Int) rfl
  have h3 := run_cutO elem51 size60 g n cap (k + 1) m hn (k + 1 : Int) (by omega)
  have h4 := run_part elem51 size60 g p cap p n 1 (by omega) hnc (by omega) (p : Int) (n : Int) rfl rfl
  have hoff : m = 0 ∨ cutO cap (k + 1) 4 = (k + 1) * 4 := by unfold cutO; split <;> omega
  obtain ⟨off, eoff⟩ : ∃ o, o = cutO cap (k + 1) 4 := ⟨_, rfl⟩
  rw [← eoff] at h3 hoff
  clear eoff
  have hkk : ((k : Int) == (k : Int) + 1) = false := by simp; omega
  have hkm : k ≤ 4000000000000 := by omega
  obtain ⟨i0, hi0, _, hz01, _⟩ := info_parts info60
  have hclr := fun W ty hc hf => run_clear_one (P := Try.prog) W 51 60 ty _ Try.underlying51 zero60 (by simp [Value.cells, Value.oneCell']) g (p * 4) (cap - p) hc hf
  replace hclr := Lib.hid hclr
  replace hcell := Lib.hid hcell
  replace hfr := Lib.hid hfr
  replace hsome := Lib.hid hsome
  replace hFl := Lib.hid hFl
  replace hone := Lib.hid hone
  replace hFe := Lib.hid hFe
  replace hEl := Lib.hid hEl
  replace hll := Lib.hid hll
  replace hn := Lib.hid hn
  replace hp := Lib.hid hp
  clear hown
  go_enter Try.func87, Try.ntmps87
  go_upto_region 5 with fail
  go_region_law (refine step_append_del rfl (.tmp 22) (.tmp 25) 51 rfl 60 i0 4 Try.underlying51 hi0 hz01 g k m (k + 1) cap off p F (by rfl) (cap - (k + 1)) (by rfl) hoff hp.out (by rw [hFl.out, hn.out]) (by omega) hcell.out hfr.out hone.out (by have := hn.out; omega) ?_; intro w1 hc1 hs1 hf1 hb1 hz1)
  have hb1' : Below g w w1 := ⟨hb1.os, hb1.tape, hb1.output, hb1.size, hb1.block⟩
  rw [hFe.out] at hc1
  have hc := hclr.out w1
  have hnp := hn.out
  have hpp := hp.out
  have hclr1 : ∀ ty, (Builtin.clear_ #[51] ty #[.slice (some ⟨g, p * 4, none⟩) 1 (cap - p)]).run Try.prog w1 = .ok (.tuple #[]) (w1.setCells g (p * 4) [.int .i64 0, .int .i64 0, .int .i64 0, .int .i64 0]) :=
    fun ty => hclr.out w1 ty (fun j hj => hs1 _ (hsome.out _ (by simp [Value.cells] at hj; omega))) hf1
  have hfin : Reads (w1.setCells g (p * 4) [.int .i64 0, .int .i64 0, .int .i64 0, .int .i64 0]) (fun x => x = g) 4 (some ⟨g, 0, none⟩) p G := by
    refine ⟨hEl.out, fun _ => ⟨_, rfl, rfl, fun j u hu => ?_⟩⟩
    have hj := (List.getElem?_eq_some_iff.1 hu).1
    rw [hEl.out] at hj
    rw [add_plain0, World.cell?_setCells_out g _ _ _ _ (fun _ _ => .inl (by simp; omega))]
    exact hc1 j u hu
  have hbf : Below g w (w1.setCells g (p * 4) [.int .i64 0, .int .i64 0, .int .i64 0, .int .i64 0]) := Go.below_setCells (Nat.le_refl _) _ _ _ hb1'
  replace hfin := Lib.hid hfin
  replace hbf := Lib.hid hbf
  clear hc hclr hc1 hs1 hf1 hb1 hb1' hz1 hnp hpp
  go_wp2_with fail
  go_ret
  exact ⟨rfl, hfin.out, hbf.out⟩
end Go.Proofs.Ytejdmefiobgcdaa
