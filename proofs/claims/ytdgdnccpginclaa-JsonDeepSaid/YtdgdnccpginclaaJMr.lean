/- Proved: the reference's machine of layer 8 in memory: atom, begin, next; its lists are short. -/
import Derived.Test.YtdgdnccpginclaaJMem
import Derived.Deep.CutRange
namespace Go.Proofs.Ytdgdnccpginclaa.JMr
open Go.RowKit Go.Proofs.YtdgdnccpginclaaW.PrintWords Go.Proofs.YtdgdnccpginclaaW.PrintLast Go.Proofs.YtdgdnccpginclaaW.PrintMore
open Go.Proofs.Ytdgdnccpginclaa.JDefs Go.Proofs.Ytdgdnccpginclaa.JBase Go.Proofs.Ytdgdnccpginclaa.JMem
set_option linter.unusedVariables false
set_option linter.unusedSimpArgs false
set_option maxHeartbeats 8000000
set_option maxRecDepth 100000

theorem tokT5 : ∀ q, q ∈ 33 :: tokK.E → q ≠ 5 := by
  intro q hq e
  subst e
  simp [tokK, Kd.pair, Kd.int, Kd.scalar] at hq
set_option maxHeartbeats 16000000 in
theorem atom_calls (W w : World) (g : Nat) (m : Mach) (i : Int) (h : Mt W w g m) (hl : m.l.length ≤ 1000000) (h0 : 0 ≤ m.frm) (h1 : m.frm ≤ i) (h2 : i ≤ 1000000000) :
    Calls Try.prog 20 #[.pointer (some ⟨g, 0, none⟩), .int .i64 i] w fun e w' => e = .returned (.tuple #[]) ∧ Mt W w' g (matom m i) := by
  obtain ⟨st, stk, frm, nm, left, cnt, l⟩ := m
  simp only at hl h0 h1
  have hfr : w.cell? ⟨g, 2, none⟩ = some (.int .i64 frm) := h.1.c2
  obtain ⟨⟨hg, sv, v, hblk, hst, ho⟩, hb⟩ := h
  simp only at hblk hst ho
  have hc6 : w.cell? ⟨g, 6, none⟩ = some v := blk_cell hblk 6
  have hf6 := blk_frozen hblk 6
  have hgl := blk_lt hblk
  have HBK := Aside0.mk hblk
  have HO := Aside0.mk (Kd.R_types ho hblk (tokT 43))
  have HS := Aside0.mk hst
  have HB := Aside0.mk hb
  have HG := Aside0.mk hg
  have HL := Aside0.mk hl
  have hwr : IntKind.i64.wrap (i - frm) = i - frm := IntWalk.i64_in _ (by omega)
  clear hblk ho hb hg hl hst
  obtain ⟨A, c, e_, hle_, hC_⟩ := Kd.R_reads HO.out
  subst e_
  clear hle_ hC_
  go_enter Try.func20, Try.ntmps20
  go_wp2_with fail
  go_region_law ((refine Kd.R_append_step tokK (w0 := W) W.heap.size (by rfl) (.tmp 8) (.tmp 20) 24 33 (.agg #[.int .u8 0, .int .i64 0, .int .i64 0]) 24 (by rfl) Try.underlying24 info33 rfl (by decide) (by omega) (.slice A l.length c) l (5, frm, i - frm) [.int .u8 5, .int .i64 frm, .int .i64 (i - frm)] (fun k_ => True ∧ k_ ≠ g) (fun _ => False) (by rfl) (by rfl) (tokM _ _ _ _ _ _) (fun _ hk => hk.elim) (fun k_ hk => ⟨trivial, by simp at hk; omega⟩) (Kd.R_drew HO.out) (below_drew HB.out) (by simp; have := below_size HB.out; omega) (by have := HL.out; omega) ?_; intro v4 w4 ho hb hgr hat; have hblk4 := blk_grown (blk_drew HBK.out) hgr (fun e_ => (HO.out.1 g e_.symm).2 rfl); have hst4 := Kd.R_over' (Kd.R_drew HS.out) (Kd.R_typed (Kd.R_drew HO.out)) (bytT 33) hgr; have hc46 : w4.cell? ⟨g, 6, none⟩ = some (.slice A l.length c) := blk_cell hblk4 6; have hf46 := blk_frozen hblk4 6; have HO4 := Aside0.mk ho; have HB4 := Aside0.mk hb; have HBLK4 := Aside0.mk hblk4; have HS4 := Aside0.mk hst4; clear ho hb hblk4 hgr hat hst4; obtain ⟨A4, c4, e4, hle4, hC4⟩ := Kd.R_reads HO4.out; subst e4; clear hle4 hC4))
  all_goals
    simp only [Exit.then]
    apply_assumption
    have hr := Kd.R_mono (Kd.R_set HO4.out HBLK4.out (tokT 43) 6 (.slice A4 (l.length + 1) c4)) (ok' := fun _ => True) (fun _ _ => trivial)
    rw [List.length_append] at hr
    have hs := Kd.R_set HS4.out HBLK4.out (bytT 43) 6 (.slice A4 (l.length + 1) c4)
    have hbk := blk_put HBLK4.out 6 (.slice A4 (l.length + 1) c4) rfl
    have hbl := below_set (j := 6) (v := .slice A4 (l.length + 1) c4) HB4.out HG.out
    have HMM := Aside0.mk (show Mt W (w4.setCell ⟨g, 6, none⟩ (.slice A4 (l.length + 1) c4)) g ⟨st, stk, frm, nm, left, cnt, l ++ [(5, frm, i - frm)]⟩ from ⟨⟨HG.out, _, _, hbk, hs, hr⟩, hbl⟩)
    clear hr hs hbk hbl HO4 HBLK4 HS4 HB4 hc46 hf46
    generalize w4.setCell ⟨g, 6, none⟩ (.slice A4 (l.length + 1) c4) = w5 at HMM
    have hd0 : w5.cell? ⟨g, 0, none⟩ = some (.int .u8 st) := HMM.out.1.c0
    have hd3 : w5.cell? ⟨g, 3, none⟩ = some (.bool nm) := HMM.out.1.c3
    have hz0 := HMM.out.1.fz 0
    have hz3 := HMM.out.1.fz 3
    cases nm
    · go_wp2_with fail
      go_end0
      exact ⟨rfl, HMM.out.1.setSt 5, below_set HMM.out.2 HG.out⟩
    · go_wp2_with fail
      go_end0
      exact ⟨rfl, ((HMM.out.1.setSt 5).setSt 4).setNamed false, below_set (below_set (below_set HMM.out.2 HG.out) HG.out) HG.out⟩
end Go.Proofs.Ytdgdnccpginclaa.JMr
