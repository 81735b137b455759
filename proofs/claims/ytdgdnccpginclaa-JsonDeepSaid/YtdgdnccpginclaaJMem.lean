/- Proved: the reference's machine of layer 8 in memory: digit, ends, one; its list of tokens is short. -/
import Derived.Test.YtdgdnccpginclaaJBase
import Derived.Deep.CutRange
namespace Go.Proofs.Ytdgdnccpginclaa.JMem
open Go.RowKit Go.Proofs.YtdgdnccpginclaaW.PrintWords Go.Proofs.YtdgdnccpginclaaW.PrintLast Go.Proofs.YtdgdnccpginclaaW.PrintMore
open Go.Proofs.Ytdgdnccpginclaa.JDefs Go.Proofs.Ytdgdnccpginclaa.JBase
set_option linter.unusedVariables false
set_option linter.unusedSimpArgs false
set_option maxHeartbeats 8000000
set_option maxRecDepth 100000

/-- The reference's machine in memory. -/
def MS (w : World) (base g : Nat) (m : Mach) : Prop := base ≤ g ∧ ∃ sv lv, w.heap[g]? = some (.cells #[.int .u8 m.st, sv, .int .i64 m.frm, .bool m.named, .string (strOfNums m.left), .int .i64 m.count, lv] 43 (0, 0)) ∧ (Kd.int .u8).R 5 w base (fun _ => True) sv m.stack ∧ Kd.R tokK 33 w base (fun _ => True) lv m.l
section
variable {w : World} {base g : Nat} {m : Mach}
theorem MS.c0 (h : MS w base g m) : w.cell? ⟨g, 0, none⟩ = some (.int .u8 m.st) := by obtain ⟨_, _, _, hb, _⟩ := h; exact blk_cell hb 0
theorem MS.c2 (h : MS w base g m) : w.cell? ⟨g, 2, none⟩ = some (.int .i64 m.frm) := by obtain ⟨_, _, _, hb, _⟩ := h; exact blk_cell hb 2
theorem MS.c3 (h : MS w base g m) : w.cell? ⟨g, 3, none⟩ = some (.bool m.named) := by obtain ⟨_, _, _, hb, _⟩ := h; exact blk_cell hb 3
theorem MS.c4 (h : MS w base g m) : w.cell? ⟨g, 4, none⟩ = some (.string (strOfNums m.left)) := by obtain ⟨_, _, _, hb, _⟩ := h; exact blk_cell hb 4
theorem MS.c5 (h : MS w base g m) : w.cell? ⟨g, 5, none⟩ = some (.int .i64 m.count) := by obtain ⟨_, _, _, hb, _⟩ := h; exact blk_cell hb 5
theorem MS.fz (h : MS w base g m) (i : Nat) : w.frozen? ⟨g, i, none⟩ = false := by obtain ⟨_, _, _, hb, _⟩ := h; exact blk_frozen hb i
theorem MS.setSt (h : MS w base g m) (x : Int) : MS (w.setCell ⟨g, 0, none⟩ (.int .u8 x)) base g { m with st := x } := by
  obtain ⟨hg, sv, lv, hb, hs, hr⟩ := h; exact ⟨hg, sv, lv, blk_put hb 0 _ rfl, Kd.R_set hs hb (bytT 43) 0 _, Kd.R_set hr hb (tokT 43) 0 _⟩
theorem MS.setFrm (h : MS w base g m) (x : Int) : MS (w.setCell ⟨g, 2, none⟩ (.int .i64 x)) base g { m with frm := x } := by
  obtain ⟨hg, sv, lv, hb, hs, hr⟩ := h; exact ⟨hg, sv, lv, blk_put hb 2 _ rfl, Kd.R_set hs hb (bytT 43) 2 _, Kd.R_set hr hb (tokT 43) 2 _⟩
theorem MS.setNamed (h : MS w base g m) (x : Bool) : MS (w.setCell ⟨g, 3, none⟩ (.bool x)) base g { m with named := x } := by
  obtain ⟨hg, sv, lv, hb, hs, hr⟩ := h; exact ⟨hg, sv, lv, blk_put hb 3 _ rfl, Kd.R_set hs hb (bytT 43) 3 _, Kd.R_set hr hb (tokT 43) 3 _⟩
theorem MS.setLeft (h : MS w base g m) (x : List Int) (s : ByteArray) (hs : s = strOfNums x) : MS (w.setCell ⟨g, 4, none⟩ (.string s)) base g { m with left := x } := by
  subst hs
  obtain ⟨hg, sv, lv, hb, hs, hr⟩ := h; exact ⟨hg, sv, lv, blk_put hb 4 _ rfl, Kd.R_set hs hb (bytT 43) 4 _, Kd.R_set hr hb (tokT 43) 4 _⟩
theorem MS.setCount (h : MS w base g m) (x : Int) : MS (w.setCell ⟨g, 5, none⟩ (.int .i64 x)) base g { m with count := x } := by
  obtain ⟨hg, sv, lv, hb, hs, hr⟩ := h; exact ⟨hg, sv, lv, blk_put hb 5 _ rfl, Kd.R_set hs hb (bytT 43) 5 _, Kd.R_set hr hb (tokT 43) 5 _⟩
theorem MS.drewN (h : MS w base g m) (n : Nat) : MS (w.drewN n) base g m := by
  obtain ⟨hg, sv, lv, hb, hs, hr⟩ := h; exact ⟨hg, sv, lv, blk_drewN hb n, Kd.R_drewN hs n, Kd.R_drewN hr n⟩
end
/-- The machine and old memory. -/
def Mt (W w : World) (g : Nat) (m : Mach) : Prop := MS w W.heap.size g m ∧ Below W.heap.size W w
theorem digit_calls (w : World) (c : Int) : Calls Try.prog 39 #[.int .u8 c] w fun e w' => e = .returned (.bool (dig c)) ∧ w = w' := by
  unfold dig
  by_cases h1 : 48 ≤ c
  · have t1 : decide (48 ≤ c) = true := decide_eq_true h1
    rw [t1, Bool.true_and]
    obtain ⟨b, hb⟩ : ∃ b, b = decide (c ≤ 57) := ⟨_, rfl⟩
    rw [← hb]
    have hb' := hb.symm
    clear hb h1
    go_enter Try.func39, Try.ntmps39
    go_wp2
    go_ret
    exact ⟨rfl, rfl⟩
  · have t1 : decide (48 ≤ c) = false := decide_eq_false h1
    rw [t1, Bool.false_and]
    clear h1
    go_enter Try.func39, Try.ntmps39
    go_wp2
    go_ret
    exact ⟨rfl, rfl⟩
theorem ends_calls (w : World) (s : Int) : Calls Try.prog 19 #[.int .u8 s] w fun e w' => e = .returned (.bool (endsB s)) ∧ w = w' := by
  unfold endsB
  cases h1 : (s == 10) <;> cases h2 : (s == 11) <;> cases h3 : (s == 13) <;> cases h4 : (s == 16)
  all_goals
    go_enter Try.func19, Try.ntmps19
    go_wp2
    go_ret
    exact ⟨rfl, rfl⟩
set_option maxHeartbeats 16000000 in
theorem one_calls (W w : World) (g : Nat) (m : Mach) (k i s : Int) (h : Mt W w g m) (hl : m.l.length ≤ 1000000) :
    Calls Try.prog 33 #[.pointer (some ⟨g, 0, none⟩), .int .u8 k, .int .i64 i, .int .u8 s] w fun e w' => e = .returned (.tuple #[]) ∧ Mt W w' g (mone m k i s) := by
  obtain ⟨⟨hg, sv, v, hblk, hst, ho⟩, hb⟩ := h
  have hc6 : w.cell? ⟨g, 6, none⟩ = some v := blk_cell hblk 6
  have hf6 := blk_frozen hblk 6
  have hgl := blk_lt hblk
  have HBLK := Aside0.mk hblk
  have HO := Aside0.mk (Kd.R_types ho hblk (tokT 43))
  have HS := Aside0.mk hst
  have HB := Aside0.mk hb
  have HG := Aside0.mk hg
  have HL := Aside0.mk hl
  clear hblk ho hb hg hl hst
  obtain ⟨A, c, e_, hle_, hC_⟩ := Kd.R_reads HO.out
  subst e_
  clear hle_ hC_
  go_enter Try.func33, Try.ntmps33
  go_wp2_with (first | ((with_reducible refine gate_builtin (b := .append) (xs := #[.tmp 12, .tmp 16]) rfl ?_); at_builtin; refine Kd.R_append tokK (w0 := W) W.heap.size rfl (.tmp 12) (.tmp 16) 24 33 (.agg #[.int .u8 0, .int .i64 0, .int .i64 0]) 24 rfl Try.underlying24 info33 rfl (by decide) (by omega) (.slice A m.l.length c) m.l (k, i, 1) [.int .u8 k, .int .i64 i, .int .i64 1] (fun k_ => True ∧ k_ ≠ g) (fun _ => False) rfl rfl (tokM _ _ _ _ _ _) (fun _ hk => hk.elim) (fun k_ hk => ⟨trivial, by omega⟩) HO.out HB.out (below_size HB.out) (by have := HL.out; omega) ?_; intro v4 w4 ho hb hgr hat; have hblk4 := blk_grown HBLK.out hgr (Kd.R_ne HO.out HBLK.out (by decide)); have hst4 := Kd.R_over' HS.out (Kd.R_typed HO.out) (bytT 33) hgr; obtain ⟨A4, c4, e4_, hle4_, hC4_⟩ := Kd.R_reads ho; subst e4_; clear hle4_ hC4_; have hc46 : w4.cell? ⟨g, 6, none⟩ = some (.slice A m.l.length c) := blk_cell hblk4 6; have hf46 := blk_frozen hblk4 6; have hf40 := blk_frozen hblk4 0; have hc40 : w4.cell? ⟨g, 0, none⟩ = some (.int .u8 m.st) := blk_cell hblk4 0; have HBLK4 := Aside0.mk hblk4; have HO4 := Aside0.mk ho; have HB4 := Aside0.mk hb; have HS4 := Aside0.mk hst4; clear hblk4 ho hb hgr hat hc6 hf6 hst4))
  go_end0
  have hr := Kd.R_mono (Kd.R_set HO4.out HBLK4.out (tokT 43) 6 (.slice A4 (m.l.length + 1) c4)) (ok' := fun _ => True) (fun _ _ => trivial)
  rw [List.length_append] at hr
  have hs := Kd.R_set HS4.out HBLK4.out (bytT 43) 6 (.slice A4 (m.l.length + 1) c4)
  have hb := blk_put HBLK4.out 6 (.slice A4 (m.l.length + 1) c4) rfl
  exact ⟨rfl, ⟨HG.out, _, _, blk_put hb 0 _ rfl, Kd.R_set hs hb (bytT 43) 0 _, Kd.R_set hr hb (tokT 43) 0 _⟩, below_set (below_set HB4.out HG.out) HG.out⟩
end Go.Proofs.Ytdgdnccpginclaa.JMem
