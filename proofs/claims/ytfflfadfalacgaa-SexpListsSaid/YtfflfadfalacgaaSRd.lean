/- Proved: the program's reader of layer 9, in memory: its small methods. -/
import Derived.Test.YtfflfadfalacgaaSRef
import Derived.Deep.RegionLaw
namespace Go.Proofs.Ytfflfadfalacgaa.SRd
open Go.RowKit Go.Proofs.YtfflfadfalacgaaW.PrintWords Go.Proofs.YtfflfadfalacgaaW.PrintLast Go.Proofs.YtfflfadfalacgaaW.PrintMore Go.Proofs.Ytfflfadfalacgaa.SMem Go.Proofs.Ytfflfadfalacgaa.SPlain Go.Proofs.Ytfflfadfalacgaa.SRef
set_option linter.unusedVariables false
set_option linter.unusedSimpArgs false
/-- The reader in memory: its text's slice, the place, the tokens. -/
def RS (w : World) (base g : Nat) (pv : Value) (at_ : Int) (l : List (Int × Int × Int)) : Prop := base ≤ g ∧ ∃ v, w.heap[g]? = some (.cells #[pv, .int .i64 at_, v] 38 (0, 0)) ∧ Kd.R tokK 34 w base (fun _ => True) v l
def stopE (e at_ : Int) : Ending := .panicked [{ v := .iface 40 (.agg #[.int .i64 e, .int .i64 at_]), recovered := false }]
theorem RS.c0 {w : World} {base g : Nat} {pv : Value} {a : Int} {l : List (Int × Int × Int)} (h : RS w base g pv a l) : w.cell? ⟨g, 0, none⟩ = some pv := by obtain ⟨_, v, hb, _⟩ := h; exact blk_cell hb 0
theorem RS.c1 {w : World} {base g : Nat} {pv : Value} {a : Int} {l : List (Int × Int × Int)} (h : RS w base g pv a l) : w.cell? ⟨g, 1, none⟩ = some (.int .i64 a) := by obtain ⟨_, v, hb, _⟩ := h; exact blk_cell hb 1
theorem RS.fz {w : World} {base g : Nat} {pv : Value} {a : Int} {l : List (Int × Int × Int)} (h : RS w base g pv a l) (i : Nat) : w.frozen? ⟨g, i, none⟩ = false := by obtain ⟨_, v, hb, _⟩ := h; exact blk_frozen hb i
set_option maxHeartbeats 4000000 in
set_option maxRecDepth 100000 in
theorem fail_calls (w : World) (base g : Nat) (pv : Value) (a : Int) (l : List (Int × Int × Int)) (h : RS w base g pv a l) :
    Calls Try.prog 18 #[.pointer (some ⟨g, 0, none⟩)] w fun e w' => e = stopE 5 a ∧ w = w' := by
  have c1 := h.c1
  clear h
  have hp : ∀ W : World, (Instr.panic (.iface 40 (.agg #[.int .i64 5, .int .i64 a]))).run Try.prog W = .halt (.panic (.iface 40 (.agg #[.int .i64 5, .int .i64 a]))) W := fun _ => rfl
  go_enter Try.func18, Try.ntmps18
  go_wp2
  exact ⟨rfl, rfl, rfl⟩
theorem RS.setAt {w : World} {base g : Nat} {pv : Value} {a : Int} {l : List (Int × Int × Int)} (h : RS w base g pv a l) (x : Int) : RS (w.setCell ⟨g, 1, none⟩ (.int .i64 x)) base g pv x l := by
  obtain ⟨hg, v, hb, hr⟩ := h; exact ⟨hg, v, blk_put hb 1 _ rfl, Kd.R_set hr hb (fun q hq e => by subst e; simp [tokK, Kd.pair, Kd.int, Kd.scalar] at hq) 1 _⟩
theorem tokE38 : ∀ q, q ∈ 34 :: tokK.E → q ≠ 38 := by
  intro q hq e
  subst e
  simp [tokK, Kd.pair, Kd.int, Kd.scalar] at hq
set_option maxHeartbeats 4000000 in
set_option maxRecDepth 100000 in
theorem take_calls (W w : World) (g : Nat) (pv : Value) (a : Int) (l : List (Int × Int × Int)) (k n : Int) (h : RS w W.heap.size g pv a l) (hb : Below W.heap.size W w) (hl : l.length ≤ 1000000) (h0 : 0 ≤ a) (h1 : a ≤ 1000000000) (h2 : 0 ≤ n) (h3 : n ≤ 1000000000) :
    Calls Try.prog 26 #[.pointer (some ⟨g, 0, none⟩), .int .u8 k, .int .i64 n] w fun e w' => e = .returned (.tuple #[]) ∧ RS w' W.heap.size g pv (a + n) (l ++ [(k, a, n)]) ∧ Below W.heap.size W w' := by
  obtain ⟨hg, v, hblk, ho⟩ := h
  have hc1 : w.cell? ⟨g, 1, none⟩ = some (.int .i64 a) := blk_cell hblk 1
  have hc2 : w.cell? ⟨g, 2, none⟩ = some v := blk_cell hblk 2
  have hf1 := blk_frozen hblk 1
  have hf2 := blk_frozen hblk 2
  have hgl := blk_lt hblk
  have HBLK := Aside0.mk hblk
  have HO := Aside0.mk (Kd.R_types ho hblk tokE38)
  have HB := Aside0.mk hb
  have HG := Aside0.mk hg
  have HL := Aside0.mk hl
  clear hblk ho hb hg hl
  obtain ⟨A, c, e_, hle_, hC_⟩ := Kd.R_reads HO.out
  subst e_
  clear hle_ hC_
  go_enter Try.func26, Try.ntmps26
  go_wp2_with fail
  go_region_law ((refine Kd.R_append_step tokK (w0 := W) W.heap.size (by rfl) (.tmp 10) (.tmp 18) 24 34 (.agg #[.int .u8 0, .int .i64 0, .int .i64 0]) 24 (by rfl) Try.underlying24 info34 rfl (by decide) (by omega) (.slice A l.length c) l (k, a, n) [.int .u8 k, .int .i64 a, .int .i64 n] (fun k_ => True ∧ k_ ≠ g) (fun _ => False) (by rfl) (by rfl) (tokM _ _ _ _ _ _) (fun _ hk => hk.elim) (fun k_ hk => ⟨trivial, by simp at hk; omega⟩) (Kd.R_drew HO.out) (below_drew HB.out) (by simp; have := below_size HB.out; omega) (by have := HL.out; omega) ?_; intro v4 w4 ho hb hgr hat; have hblk4 := blk_grown (blk_drew HBLK.out) hgr (fun e_ => (HO.out.1 g e_.symm).2 rfl); have hc41 : w4.cell? ⟨g, 1, none⟩ = some (.int .i64 a) := blk_cell hblk4 1; have hc42 : w4.cell? ⟨g, 2, none⟩ = some (.slice A l.length c) := blk_cell hblk4 2; have hf42 := blk_frozen hblk4 2; have hf41 := blk_frozen hblk4 1; have HO4 := Aside0.mk ho; have HB4 := Aside0.mk hb; have HBLK4 := Aside0.mk hblk4; clear ho hb hblk4 hgr hat; obtain ⟨A4, c4, e4, hle4, hC4⟩ := Kd.R_reads HO4.out; subst e4; clear hle4 hC4))
  all_goals (simp only [Exit.then]; apply_assumption; go_wp2)
  all_goals
    go_end0
    refine ⟨rfl, ⟨HG.out, _, blk_put (blk_put HBLK4.out 2 _ rfl) 1 _ rfl, ?_⟩, below_set (below_set HB4.out HG.out) HG.out⟩
    have hr := Kd.R_mono (Kd.R_set (Kd.R_set HO4.out HBLK4.out tokE38 2 (.slice A4 (l.length + 1) c4)) (blk_put HBLK4.out 2 _ rfl) tokE38 1 (.int .i64 (a + n))) (ok' := fun _ => True) (fun _ _ => trivial)
    rw [List.length_append] at hr
    exact hr
end Go.Proofs.Ytfflfadfalacgaa.SRd
