/- Proved: the reference's machine of layer 9, in memory: token, done, part, start and feed each do to it what a plain function tells; the conditions: the machine lies in one block of the call's own, and its list of tokens is short. -/
import Derived.Test.YtfflfadfalacgaaProg
import Derived.Below
import Derived.Deep.Draws
import Derived.Deep.AppendLies
import Derived.Maps.AppendAt
import Derived.OwnWalk
import Derived.Laws.BytesArg
import Derived.Laws.MakeOwn
import Derived.Laws.OwnMore
import Derived.Deep.OwnRows
import Derived.Tactics
import Derived.Lib.ConvBytes
import Derived.Laws.Slices
import Derived.WalkKit
import Derived.KernelRfl
import Derived.RowKit3
import Derived.Deep.LoopGhost
import Derived.Deep.QuietTactic
import Derived.BigQuiet
import Derived.WideLaws
import Derived.Deep.DeepCutAuto
import Derived.Deep.CutBlock
import Derived.Deep.RegionHeld3
import Derived.Laws.Rows
import Derived.Lib.AppendStr
import Derived.ArgAppend
import Derived.Laws.IdiomCopy
import Derived.OrdersHeld
import Derived.Laws.BitsLemmas
import Derived.RowKit
import Derived.Test.YtfflfadfalacgaaWWords
import Derived.Test.YtfflfadfalacgaaWLast
import Derived.Test.YtfflfadfalacgaaWTab
import Derived.Test.YtfflfadfalacgaaWFour
import Derived.Test.YtfflfadfalacgaaWQPut
import Derived.Test.YtfflfadfalacgaaWApart
import Derived.Test.YtfflfadfalacgaaWArr
import Derived.Test.YtfflfadfalacgaaWZeros
import Derived.Test.YtfflfadfalacgaaWFoot
import Derived.Test.YtfflfadfalacgaaWKept
import Derived.Test.YtfflfadfalacgaaWShare
import Derived.Test.YtfflfadfalacgaaWN
import Derived.Test.YtfflfadfalacgaaWFootNe
import Derived.Test.YtfflfadfalacgaaWAt
import Derived.Test.YtfflfadfalacgaaWEqStruct
import Derived.Test.YtfflfadfalacgaaWRepsOne
import Derived.Test.YtfflfadfalacgaaWInv
import Derived.Test.YtfflfadfalacgaaWInvWords
import Derived.Test.YtfflfadfalacgaaWGuard
import Derived.Test.YtfflfadfalacgaaWNEv
import Derived.Test.YtfflfadfalacgaaWMore
namespace Go.Proofs.Ytfflfadfalacgaa.SMem
open Go.RowKit Go.Proofs.YtfflfadfalacgaaW.PrintWords Go.Proofs.YtfflfadfalacgaaW.PrintLast Go.Proofs.YtfflfadfalacgaaW.PrintMore
set_option linter.unusedVariables false
set_option linter.unusedSimpArgs false
def Tok : Type := Int × Int × Int
def tokK : Kd (Int × Int × Int) := Kd.pair (Kd.int .u8) (Kd.pair (Kd.int .i64) (Kd.int .i64))
theorem tokM (w : World) (base : Nat) (ok : Nat → Prop) (k a n : Int) : tokK.M w base ok (k, a, n) [.int .u8 k, .int .i64 a, .int .i64 n] := ⟨[.int .u8 k], [.int .i64 a, .int .i64 n], rfl, rfl, [.int .i64 a], [.int .i64 n], rfl, rfl, rfl⟩
theorem tokE : ∀ q, q ∈ 34 :: tokK.E → q ≠ 45 := by
  intro q hq e
  subst e
  simp [tokK, Kd.pair, Kd.int, Kd.scalar] at hq
structure Mach where
  st : Int
  dep : Int
  frm : Int
  l : List (Int × Int × Int)
def MS (w : World) (base g : Nat) (m : Mach) : Prop := base ≤ g ∧ ∃ v, w.heap[g]? = some (.cells #[.int .u8 m.st, .int .i64 m.dep, .int .i64 m.frm, v] 45 (0, 0)) ∧ Kd.R tokK 34 w base (fun _ => True) v m.l
def mtok (m : Mach) (k a b : Int) : Mach := { m with l := m.l ++ [(k, a, b - a)] }
def mdone (m : Mach) : Mach := { m with st := if m.dep = 0 then 6 else 1 }
theorem info34 : (Try.prog.info? 34).map (fun i => (i.zero, i.size, i.bytes)) = some (some (.agg #[.int .u8 0, .int .i64 0, .int .i64 0]), 3, 24) := by kernel_rfl
set_option maxHeartbeats 4000000 in
set_option maxRecDepth 100000 in
theorem token_calls (W w : World) (g : Nat) (m : Mach) (k a b : Int) (hm : MS w W.heap.size g m) (hb : Below W.heap.size W w) (hl : m.l.length ≤ 1000000) (h0 : 0 ≤ a) (h1 : a ≤ b) (h2 : b ≤ 1000000000) :
    Calls Try.prog 20 #[.pointer (some ⟨g, 0, none⟩), .int .u8 k, .int .i64 a, .int .i64 b] w fun e w' => e = .returned (.tuple #[]) ∧ MS w' W.heap.size g (mtok m k a b) ∧ Below W.heap.size W w' := by
  obtain ⟨hg, v, hblk, ho⟩ := hm
  have hc3 : w.cell? ⟨g, 3, none⟩ = some v := blk_cell hblk 3
  have hf3 := blk_frozen hblk 3
  have hgl := blk_lt hblk
  have HBLK := Aside0.mk hblk
  have HO := Aside0.mk (Kd.R_types ho hblk tokE)
  have HB := Aside0.mk hb
  have HG := Aside0.mk hg
  have HL := Aside0.mk hl
  clear hblk ho hb hg hl
  have hab : b - a ≤ 1000000000 := by omega
  have hab0 : 0 ≤ b - a := by omega
  obtain ⟨A, c, e_, hle_, hC_⟩ := Kd.R_reads HO.out
  subst e_
  clear hle_ hC_
  go_enter Try.func20, Try.ntmps20
  go_wp2_with (first | ((with_reducible refine gate_builtin (b := .append) (xs := #[.tmp 12, .tmp 19]) rfl ?_); at_builtin; refine Kd.R_append tokK (w0 := W) W.heap.size rfl (.tmp 12) (.tmp 19) 24 34 (.agg #[.int .u8 0, .int .i64 0, .int .i64 0]) 24 rfl Try.underlying24 info34 rfl (by decide) (by omega) (.slice A m.l.length c) m.l (k, a, b - a) [.int .u8 k, .int .i64 a, .int .i64 (b - a)] (fun k_ => True ∧ k_ ≠ g) (fun _ => False) rfl rfl ?aP (fun _ hk => hk.elim) ?aF ?aO ?aB ?aS ?aL ?_; (case aP => exact tokM _ _ _ _ _ _); (case aF => exact (fun k_ hk => ⟨trivial, by omega⟩)); (case aO => exact HO.out); (case aB => exact HB.out); (case aS => exact below_size HB.out); (case aL => have := HL.out; omega); intro v4 w4 ho hb hgr hat; have hblk4 := blk_grown HBLK.out hgr (Kd.R_ne HO.out HBLK.out (by decide)); obtain ⟨A4, c4, e4_, hle4_, hC4_⟩ := Kd.R_reads ho; subst e4_; clear hle4_ hC4_; have hc4 : w4.cell? ⟨g, 3, none⟩ = some (.slice A m.l.length c) := blk_cell hblk4 3; have hf4 := blk_frozen hblk4 3; have HBLK4 := Aside0.mk hblk4; have HO4 := Aside0.mk ho; have HB4 := Aside0.mk hb; clear hblk4 ho hb hgr hat hc3 hf3))
  go_end0
  refine ⟨rfl, ⟨HG.out, _, blk_put HBLK4.out 3 _ rfl, ?_⟩, below_set HB4.out HG.out⟩
  have hr := Kd.R_mono (Kd.R_set HO4.out HBLK4.out tokE 3 (.slice A4 (m.l.length + 1) c4)) (ok' := fun _ => True) (fun _ _ => trivial)
  rw [List.length_append] at hr
  exact hr
theorem MS.c0 {w : World} {base g : Nat} {m : Mach} (h : MS w base g m) : w.cell? ⟨g, 0, none⟩ = some (.int .u8 m.st) := by obtain ⟨_, v, hb, _⟩ := h; exact blk_cell hb 0
theorem MS.c1 {w : World} {base g : Nat} {m : Mach} (h : MS w base g m) : w.cell? ⟨g, 1, none⟩ = some (.int .i64 m.dep) := by obtain ⟨_, v, hb, _⟩ := h; exact blk_cell hb 1
theorem MS.c2 {w : World} {base g : Nat} {m : Mach} (h : MS w base g m) : w.cell? ⟨g, 2, none⟩ = some (.int .i64 m.frm) := by obtain ⟨_, v, hb, _⟩ := h; exact blk_cell hb 2
theorem MS.fz {w : World} {base g : Nat} {m : Mach} (h : MS w base g m) (i : Nat) : w.frozen? ⟨g, i, none⟩ = false := by obtain ⟨_, v, hb, _⟩ := h; exact blk_frozen hb i
theorem MS.setSt {w : World} {base g : Nat} {m : Mach} (h : MS w base g m) (x : Int) : MS (w.setCell ⟨g, 0, none⟩ (.int .u8 x)) base g { m with st := x } := by
  obtain ⟨hg, v, hb, hr⟩ := h; exact ⟨hg, v, blk_put hb 0 _ rfl, Kd.R_set hr hb tokE 0 _⟩
theorem MS.setDep {w : World} {base g : Nat} {m : Mach} (h : MS w base g m) (x : Int) : MS (w.setCell ⟨g, 1, none⟩ (.int .i64 x)) base g { m with dep := x } := by
  obtain ⟨hg, v, hb, hr⟩ := h; exact ⟨hg, v, blk_put hb 1 _ rfl, Kd.R_set hr hb tokE 1 _⟩
theorem MS.setFrm {w : World} {base g : Nat} {m : Mach} (h : MS w base g m) (x : Int) : MS (w.setCell ⟨g, 2, none⟩ (.int .i64 x)) base g { m with frm := x } := by
  obtain ⟨hg, v, hb, hr⟩ := h; exact ⟨hg, v, blk_put hb 2 _ rfl, Kd.R_set hr hb tokE 2 _⟩
theorem bset {w W : World} {g i : Nat} {v : Value} (hb : Below W.heap.size W w) (hg : W.heap.size ≤ g) : Below W.heap.size W (w.setCell ⟨g, i, none⟩ v) := below_set hb hg
set_option maxHeartbeats 4000000 in
set_option maxRecDepth 100000 in
theorem done_calls (W w : World) (g : Nat) (m : Mach) (hm : MS w W.heap.size g m) (hb : Below W.heap.size W w) :
    Calls Try.prog 21 #[.pointer (some ⟨g, 0, none⟩)] w fun e w' => e = .returned (.tuple #[]) ∧ MS w' W.heap.size g (mdone m) ∧ Below W.heap.size W w' := by
  have HM := Aside0.mk hm
  have HB := Aside0.mk hb
  have c0 := hm.c0
  have c1 := hm.c1
  have f0 := hm.fz 0
  clear hm hb
  by_cases hd : m.dep = 0
  · have hdb : (m.dep == 0) = true := beq_iff_eq.2 hd
    have HD := Aside0.mk hd
    clear hd
    go_enter Try.func21, Try.ntmps21
    go_wp2
    go_end0
    exact ⟨rfl, by unfold mdone; rw [if_pos HD.out]; exact (HM.out.setSt 1).setSt 6, bset (bset HB.out HM.out.1) HM.out.1⟩
  · have hdb : (m.dep == 0) = false := beq_eq_false_iff_ne.2 hd
    have HD := Aside0.mk hd
    clear hd
    go_enter Try.func21, Try.ntmps21
    go_wp2
    go_end0
    exact ⟨rfl, by unfold mdone; rw [if_neg HD.out]; exact HM.out.setSt 1, bset HB.out HM.out.1⟩
def partB (c : Int) : Bool := !(c == 40 || c == 41 || c == 34 || c == 39 || c == 96 || c == 44 || c == 59 || c == 127) && decide (32 < c)
set_option maxHeartbeats 4000000 in
set_option maxRecDepth 100000 in
theorem part_calls (w : World) (c : Int) (h0 : 0 ≤ c) (h1 : c ≤ 255) : Calls Try.prog 28 #[.int .u8 c] w fun e w' => e = .returned (.bool (partB c)) ∧ w = w' := by
  obtain ⟨b, hb⟩ : ∃ b, b = partB c := ⟨_, rfl⟩
  rw [← hb]
  have HB := Aside0.mk hb
  clear hb
  go_enter Try.func28, Try.ntmps28
  go_wp2
  all_goals go_ret
  all_goals refine ⟨?_, rfl⟩
  all_goals rw [HB.out]
  all_goals unfold partB
  all_goals simp_all
def mstart (m : Mach) (c i : Int) : Mach × Int :=
  if c = 39 ∨ c = 96 then ({ mtok { m with frm := i } 6 i (i + 1) with st := 0 }, 0)
  else if c = 44 then ({ m with frm := i, st := 2 }, 0)
  else if c = 40 then (if m.dep = 512 then ({ m with frm := i }, 6) else ({ mtok { m with frm := i, dep := m.dep + 1 } 1 i (i + 1) with st := 1 }, 0))
  else if c = 34 then ({ m with frm := i, st := 4 }, 0)
  else if partB c = true ∧ c ≠ 64 then ({ m with frm := i, st := 3 }, 0)
  else ({ m with frm := i }, 5)
set_option maxHeartbeats 8000000 in
set_option maxRecDepth 100000 in
theorem start_calls (W w : World) (g : Nat) (m : Mach) (c i : Int) (hm : MS w W.heap.size g m) (hb : Below W.heap.size W w) (hl : m.l.length ≤ 999999) (h0 : 0 ≤ c) (h1 : c ≤ 255) (h2 : 0 ≤ i) (h3 : i ≤ 900000000) (hd0 : 0 ≤ m.dep) (hd1 : m.dep ≤ 512) :
    Calls Try.prog 29 #[.pointer (some ⟨g, 0, none⟩), .int .u8 c, .int .i64 i] w fun e w' => e = .returned (.int .i64 (mstart m c i).2) ∧ MS w' W.heap.size g (mstart m c i).1 ∧ Below W.heap.size W w' := by
  have HM := Aside0.mk hm
  have HB := Aside0.mk hb
  have HL := Aside0.mk hl
  have c0 := hm.c0
  have c1 := hm.c1
  have c2 := hm.c2
  have f0 := hm.fz 0
  have f1 := hm.fz 1
  have f2 := hm.fz 2
  have HF := Aside0.mk (hm.setFrm i)
  clear hm hb hl
  obtain ⟨R, hR⟩ : ∃ R, R = mstart m c i := ⟨_, rfl⟩
  rw [← hR]
  have HR := Aside0.mk hR
  clear hR
  by_cases q1 : c = 39 ∨ c = 96
  · have HQ := Aside0.mk (show R = ({ mtok { m with frm := i } 6 i (i + 1) with st := 0 }, 0) by rw [HR.out]; unfold mstart; rw [if_pos q1])
    clear HR
    have hor : (c == 39) = true ∨ (c == 39) = false ∧ (c == 96) = true := by
      rcases q1 with h | h
      · exact .inl (beq_iff_eq.2 h)
      · exact .inr ⟨beq_eq_false_iff_ne.2 (by omega), beq_iff_eq.2 h⟩
    clear q1
    rcases hor with e39 | ⟨e39, e96⟩
    all_goals
      go_enter Try.func29, Try.ntmps29
      go_wp2_with (first | (go_at_call 20; refine (token_calls W _ g _ 6 (i) (i + 1) HF.out (bset HB.out HM.out.1) (by have := HL.out; simp; omega) (by omega) (by omega) (by omega)).mono ?_; rintro e w_ ⟨rfl, hm_, hb_⟩; have H2 := Aside0.mk hm_; have HB2 := Aside0.mk hb_; have c0 := hm_.c0; have f0 := hm_.fz 0; clear HB hm_ hb_))
      go_ret
      exact ⟨by rw [HQ.out]; rfl, by rw [HQ.out]; exact H2.out.setSt 0, bset HB2.out HM.out.1⟩
  · have e39 : (c == 39) = false := beq_eq_false_iff_ne.2 (by omega)
    have e96 : (c == 96) = false := beq_eq_false_iff_ne.2 (by omega)
    by_cases q2 : c = 44
    · have HQ := Aside0.mk (show R = ({ m with frm := i, st := 2 }, 0) by rw [HR.out]; unfold mstart; rw [if_neg q1, if_pos q2])
      have e44 : (c == 44) = true := beq_iff_eq.2 q2
      clear HR q1 q2
      go_enter Try.func29, Try.ntmps29
      go_wp2
      go_ret
      exact ⟨by rw [HQ.out]; rfl, by rw [HQ.out]; exact HF.out.setSt 2, bset (bset HB.out HM.out.1) HM.out.1⟩
    · have e44 : (c == 44) = false := beq_eq_false_iff_ne.2 q2
      by_cases q3 : c = 40
      · have e40 : (c == 40) = true := beq_iff_eq.2 q3
        by_cases q4 : m.dep = 512
        · have HQ := Aside0.mk (show R = ({ m with frm := i }, 6) by rw [HR.out]; unfold mstart; rw [if_neg q1, if_neg q2, if_pos q3, if_pos q4])
          have e512 : (m.dep == 512) = true := beq_iff_eq.2 q4
          clear HR q1 q2 q3 q4
          go_enter Try.func29, Try.ntmps29
          go_wp2
          go_ret
          exact ⟨by rw [HQ.out]; rfl, by rw [HQ.out]; exact HF.out, bset HB.out HM.out.1⟩
        · have HQ := Aside0.mk (show R = ({ mtok { m with frm := i, dep := m.dep + 1 } 1 i (i + 1) with st := 1 }, 0) by rw [HR.out]; unfold mstart; rw [if_neg q1, if_neg q2, if_pos q3, if_neg q4])
          have e512 : (m.dep == 512) = false := beq_eq_false_iff_ne.2 q4
          have HF2 := Aside0.mk (HF.out.setDep (m.dep + 1))
          have HB3 := Aside0.mk (bset (i := 1) (v := .int .i64 (m.dep + 1)) (bset (i := 2) (v := .int .i64 i) HB.out HM.out.1) HM.out.1)
          clear HR q1 q2 q3 q4
          go_enter Try.func29, Try.ntmps29
          go_wp2_with (first | (go_at_call 20; refine (token_calls W _ g _ 1 (i) (i + 1) HF2.out HB3.out (by have := HL.out; simp; omega) (by omega) (by omega) (by omega)).mono ?_; rintro e w_ ⟨rfl, hm_, hb_⟩; have H2 := Aside0.mk hm_; have HB2 := Aside0.mk hb_; have c0 := hm_.c0; have f0 := hm_.fz 0; clear HB hm_ hb_))
          go_ret
          exact ⟨by rw [HQ.out]; rfl, by rw [HQ.out]; exact H2.out.setSt 1, bset HB2.out HM.out.1⟩
      · have e40 : (c == 40) = false := beq_eq_false_iff_ne.2 q3
        by_cases q5 : c = 34
        · have HQ := Aside0.mk (show R = ({ m with frm := i, st := 4 }, 0) by rw [HR.out]; unfold mstart; rw [if_neg q1, if_neg q2, if_neg q3, if_pos q5])
          have e34 : (c == 34) = true := beq_iff_eq.2 q5
          clear HR q1 q2 q3 q5
          go_enter Try.func29, Try.ntmps29
          go_wp2
          go_ret
          exact ⟨by rw [HQ.out]; rfl, by rw [HQ.out]; exact HF.out.setSt 4, bset (bset HB.out HM.out.1) HM.out.1⟩
        · have e34 : (c == 34) = false := beq_eq_false_iff_ne.2 q5
          cases hp : partB c with
          | true =>
            by_cases q6 : c = 64
            · have HQ := Aside0.mk (show R = ({ m with frm := i }, 5) by rw [HR.out]; unfold mstart; rw [if_neg q1, if_neg q2, if_neg q3, if_neg q5, if_neg (fun h => h.2 q6)])
              have e64 : (c != 64) = false := by rw [q6]; rfl
              have HP := Aside0.mk hp
              clear HR q1 q2 q3 q5 q6 hp
              go_enter Try.func29, Try.ntmps29
              go_wp2_with (first | (go_at_call 28; refine (part_calls _ c h0 h1).mono ?_; rintro e w_ ⟨rfl, rfl⟩; rw [HP.out]))
              go_ret
              exact ⟨by rw [HQ.out]; rfl, by rw [HQ.out]; exact HF.out, bset HB.out HM.out.1⟩
            · have HQ := Aside0.mk (show R = ({ m with frm := i, st := 3 }, 0) by rw [HR.out]; unfold mstart; rw [if_neg q1, if_neg q2, if_neg q3, if_neg q5, if_pos ⟨hp, q6⟩])
              have e64 : (c != 64) = true := by rw [bne_iff_ne]; exact q6
              have HP := Aside0.mk hp
              clear HR q1 q2 q3 q5 q6 hp
              go_enter Try.func29, Try.ntmps29
              go_wp2_with (first | (go_at_call 28; refine (part_calls _ c h0 h1).mono ?_; rintro e w_ ⟨rfl, rfl⟩; rw [HP.out]))
              go_ret
              exact ⟨by rw [HQ.out]; rfl, by rw [HQ.out]; exact HF.out.setSt 3, bset (bset HB.out HM.out.1) HM.out.1⟩
          | false =>
            have HQ := Aside0.mk (show R = ({ m with frm := i }, 5) by rw [HR.out]; unfold mstart; rw [if_neg q1, if_neg q2, if_neg q3, if_neg q5, if_neg (fun h => by rw [hp] at h; exact Bool.false_ne_true h.1)])
            have HP := Aside0.mk hp
            clear HR q1 q2 q3 q5 hp
            go_enter Try.func29, Try.ntmps29
            go_wp2_with (first | (go_at_call 28; refine (part_calls _ c h0 h1).mono ?_; rintro e w_ ⟨rfl, rfl⟩; rw [HP.out]))
            go_ret
            exact ⟨by rw [HQ.out]; rfl, by rw [HQ.out]; exact HF.out, bset HB.out HM.out.1⟩
def mrest (m : Mach) (c i : Int) : Mach × Int :=
  if c = 32 ∨ c = 9 ∨ c = 10 ∨ c = 13 then (m, 0)
  else if m.st = 6 then (m, 5)
  else if c = 41 ∧ m.st = 1 then (mdone (mtok { m with dep := m.dep - 1 } 2 i (i + 1)), 0)
  else mstart m c i
def mfeed (m : Mach) (c i : Int) : Mach × Int :=
  if m.st = 4 then (if c = 34 then (mdone (mtok m 5 m.frm (i + 1)), 0) else if c = 92 then ({ m with st := 5 }, 0) else (m, 0))
  else if m.st = 5 then ({ m with st := 4 }, 0)
  else if m.st = 3 then (if partB c = true then (m, 0) else mrest (mdone (mtok m 5 m.frm i)) c i)
  else if m.st = 2 then (if c = 64 then (mtok { m with st := 0 } 6 m.frm (i + 1), 0) else mrest (mtok { m with st := 0 } 6 m.frm i) c i)
  else mrest m c i
set_option maxHeartbeats 16000000 in
set_option maxRecDepth 100000 in
theorem feed_calls (W w : World) (g : Nat) (m : Mach) (c i : Int) (hm : MS w W.heap.size g m) (hb : Below W.heap.size W w) (hl : m.l.length ≤ 999900) (h0 : 0 ≤ c) (h1 : c ≤ 255) (h2 : 0 ≤ i) (h3 : i ≤ 800000000) (hd0 : 0 ≤ m.dep) (hd1 : m.dep ≤ 512) (hf0 : 0 ≤ m.frm) (hf1 : m.frm ≤ i) (hd2 : m.st = 1 → 1 ≤ m.dep) :
    Calls Try.prog 19 #[.pointer (some ⟨g, 0, none⟩), .int .u8 c, .int .i64 i] w fun e w' => e = .returned (.int .i64 (mfeed m c i).2) ∧ MS w' W.heap.size g (mfeed m c i).1 ∧ Below W.heap.size W w' := by
  have HM := Aside0.mk hm
  have HB := Aside0.mk hb
  have HL := Aside0.mk hl
  have HD2 := Aside0.mk hd2
  have HG := Aside0.mk hm.1
  have c0 := hm.c0
  have c1 := hm.c1
  have c2 := hm.c2
  have f0 := hm.fz 0
  have f1 := hm.fz 1
  have f2 := hm.fz 2
  clear hm hb hl hd2
  obtain ⟨R, hR⟩ : ∃ R, R = mfeed m c i := ⟨_, rfl⟩
  rw [← hR]
  have HR := Aside0.mk hR
  clear hR
  by_cases s4 : m.st = 4
  · have t4 : (m.st == 4) = true := beq_iff_eq.2 s4
    by_cases q1 : c = 34
    · have HQ := Aside0.mk (show R = (mdone (mtok m 5 m.frm (i + 1)), 0) by rw [HR.out]; unfold mfeed; rw [if_pos s4, if_pos q1])
      have e34 : (c == 34) = true := beq_iff_eq.2 q1
      clear HR s4 q1
      go_enter Try.func19, Try.ntmps19
      go_wp2_with (first | (go_at_call 20; refine (token_calls W _ g _ 5 (m.frm) (i + 1) HM.out HB.out (by have := HL.out; simp; omega) (by omega) (by omega) (by omega)).mono ?_; rintro e w_ ⟨rfl, hm_, hb_⟩; have H2 := Aside0.mk hm_; have HB2 := Aside0.mk hb_; have c0 := hm_.c0; have c1 := hm_.c1; have f0 := hm_.fz 0; have f1 := hm_.fz 1; clear hm_ hb_) | (go_at_call 21; refine (done_calls W _ g _ H2.out HB2.out).mono ?_; rintro e w_ ⟨rfl, hm_, hb_⟩; have H3 := Aside0.mk hm_; have HB3 := Aside0.mk hb_; have c0 := hm_.c0; have c1 := hm_.c1; have c2 := hm_.c2; have f0 := hm_.fz 0; have f1 := hm_.fz 1; clear hm_ hb_))
      go_ret
      exact ⟨by rw [HQ.out]; rfl, by rw [HQ.out]; exact H3.out, HB3.out⟩
    · have e34 : (c == 34) = false := beq_eq_false_iff_ne.2 q1
      by_cases q2 : c = 92
      · have HQ := Aside0.mk (show R = ({ m with st := 5 }, 0) by rw [HR.out]; unfold mfeed; rw [if_pos s4, if_neg q1, if_pos q2])
        have e92 : (c == 92) = true := beq_iff_eq.2 q2
        clear HR s4 q1 q2
        go_enter Try.func19, Try.ntmps19
        go_wp2
        go_ret
        exact ⟨by rw [HQ.out]; rfl, by rw [HQ.out]; exact HM.out.setSt 5, bset HB.out HG.out⟩
      · have HQ := Aside0.mk (show R = (m, 0) by rw [HR.out]; unfold mfeed; rw [if_pos s4, if_neg q1, if_neg q2])
        have e92 : (c == 92) = false := beq_eq_false_iff_ne.2 q2
        clear HR s4 q1 q2
        go_enter Try.func19, Try.ntmps19
        go_wp2
        go_ret
        exact ⟨by rw [HQ.out]; rfl, by rw [HQ.out]; exact HM.out, HB.out⟩
  · have t4 : (m.st == 4) = false := beq_eq_false_iff_ne.2 s4
    by_cases s5 : m.st = 5
    · have t5 : (m.st == 5) = true := beq_iff_eq.2 s5
      have HQ := Aside0.mk (show R = ({ m with st := 4 }, 0) by rw [HR.out]; unfold mfeed; rw [if_neg s4, if_pos s5])
      clear HR s4 s5
      go_enter Try.func19, Try.ntmps19
      go_wp2
      go_ret
      exact ⟨by rw [HQ.out]; rfl, by rw [HQ.out]; exact HM.out.setSt 4, bset HB.out HG.out⟩
    · have t5 : (m.st == 5) = false := beq_eq_false_iff_ne.2 s5
      by_cases s3 : m.st = 3
      · have t3 : (m.st == 3) = true := beq_iff_eq.2 s3
        cases hp : partB c with
        | true =>
          have HQ := Aside0.mk (show R = (m, 0) by rw [HR.out]; unfold mfeed; rw [if_neg s4, if_neg s5, if_pos s3, if_pos hp])
          have HP := Aside0.mk hp
          clear HR s4 s5 s3 hp
          go_enter Try.func19, Try.ntmps19
          go_wp2_with (first | (go_at_call 28; refine (part_calls _ c h0 h1).mono ?_; rintro e w_ ⟨rfl, rfl⟩; rw [HP.out]))
          go_ret
          exact ⟨by rw [HQ.out]; rfl, by rw [HQ.out]; exact HM.out, HB.out⟩
        | false =>
          obtain ⟨m2, hm2⟩ : ∃ m2, m2 = mdone (mtok m 5 m.frm i) := ⟨_, rfl⟩
          have HR2 := Aside0.mk (show R = mrest m2 c i by rw [HR.out, hm2]; unfold mfeed; rw [if_neg s4, if_neg s5, if_pos s3, if_neg (by rw [hp]; simp)])
          have HD := Aside0.mk (show 0 ≤ m2.dep ∧ m2.dep ≤ 512 ∧ (m2.st = 1 → 1 ≤ m2.dep) ∧ m2.l.length ≤ 999901 by
            subst hm2
            refine ⟨hd0, hd1, fun h => ?_, by have := HL.out; simp [mdone, mtok]; omega⟩
            unfold mdone at h ⊢
            by_cases hz : (mtok m 5 m.frm i).dep = 0
            · rw [if_pos hz] at h; simp at h
            · show 1 ≤ (mtok m 5 m.frm i).dep
              have : 0 ≤ (mtok m 5 m.frm i).dep := hd0
              omega)
          have HP := Aside0.mk hp
          have HM2 := Aside0.mk hm2
          clear HR s4 s5 s3 hp hm2
          by_cases bl : c = 32 ∨ c = 9 ∨ c = 10 ∨ c = 13
          · have HQ := Aside0.mk (show R = (m2, 0) by rw [HR2.out]; unfold mrest; rw [if_pos bl])
            have hor : (c == 32) = true ∨ ((c == 32) = false ∧ (c == 9) = true) ∨ ((c == 32) = false ∧ (c == 9) = false ∧ (c == 10) = true) ∨ ((c == 32) = false ∧ (c == 9) = false ∧ (c == 10) = false ∧ (c == 13) = true) := by
              simp only [beq_iff_eq, beq_eq_false_iff_ne]; omega
            clear HR2 bl
            rcases hor with e1 | ⟨e1, e2⟩ | ⟨e1, e2, e3⟩ | ⟨e1, e2, e3, e4⟩
            all_goals
              go_enter Try.func19, Try.ntmps19
              go_wp2_with fail
              refine (part_calls _ c h0 h1).mono ?_
              rintro e w_ ⟨rfl, rfl⟩
              rw [HP.out]
              go_wp2_with fail
              refine (token_calls W _ g _ 5 (m.frm) (i) HM.out HB.out (Nat.le_trans HL.out (by decide)) hf0 hf1 (by omega)).mono ?_
              rintro e w_ ⟨rfl, hm_, hb_⟩
              have H4 := Aside0.mk hm_
              have HB4 := Aside0.mk hb_
              clear c0 c1 c2 f0 f1 f2
              have c1 := hm_.c1
              have c0 := hm_.c0
              have f0 := hm_.fz 0
              clear hm_ hb_
              go_wp2_with fail
              refine (done_calls W _ g _ H4.out HB4.out).mono ?_
              rintro e w_ ⟨rfl, hm_, hb_⟩
              rw [← HM2.out] at hm_
              have H5 := Aside0.mk hm_
              have HB5 := Aside0.mk hb_
              clear c0 c1 f0
              have c0 := hm_.c0
              have c1 := hm_.c1
              have f0 := hm_.fz 0
              have f1 := hm_.fz 1
              clear hm_ hb_
              go_wp2_with fail
              go_ret
              exact ⟨by rw [HQ.out]; rfl, by rw [HQ.out]; exact H5.out, HB5.out⟩
          · have e32 : (c == 32) = false := beq_eq_false_iff_ne.2 (by omega)
            have e9 : (c == 9) = false := beq_eq_false_iff_ne.2 (by omega)
            have e10 : (c == 10) = false := beq_eq_false_iff_ne.2 (by omega)
            have e13 : (c == 13) = false := beq_eq_false_iff_ne.2 (by omega)
            by_cases s6 : m2.st = 6
            · have HQ := Aside0.mk (show R = (m2, 5) by rw [HR2.out]; unfold mrest; rw [if_neg bl, if_pos s6])
              have t6 : (m2.st == 6) = true := beq_iff_eq.2 s6
              clear HR2 bl s6
              go_enter Try.func19, Try.ntmps19
              go_wp2_with fail
              refine (part_calls _ c h0 h1).mono ?_
              rintro e w_ ⟨rfl, rfl⟩
              rw [HP.out]
              go_wp2_with fail
              refine (token_calls W _ g _ 5 (m.frm) (i) HM.out HB.out (Nat.le_trans HL.out (by decide)) hf0 hf1 (by omega)).mono ?_
              rintro e w_ ⟨rfl, hm_, hb_⟩
              have H4 := Aside0.mk hm_
              have HB4 := Aside0.mk hb_
              clear c0 c1 c2 f0 f1 f2
              have c1 := hm_.c1
              have c0 := hm_.c0
              have f0 := hm_.fz 0
              clear hm_ hb_
              go_wp2_with fail
              refine (done_calls W _ g _ H4.out HB4.out).mono ?_
              rintro e w_ ⟨rfl, hm_, hb_⟩
              rw [← HM2.out] at hm_
              have H5 := Aside0.mk hm_
              have HB5 := Aside0.mk hb_
              clear c0 c1 f0
              have c0 := hm_.c0
              have c1 := hm_.c1
              have f0 := hm_.fz 0
              have f1 := hm_.fz 1
              clear hm_ hb_
              go_wp2_with fail
              go_ret
              exact ⟨by rw [HQ.out]; rfl, by rw [HQ.out]; exact H5.out, HB5.out⟩
            · have t6 : (m2.st == 6) = false := beq_eq_false_iff_ne.2 s6
              by_cases cl : c = 41 ∧ m2.st = 1
              · have HQ := Aside0.mk (show R = (mdone (mtok { m2 with dep := m2.dep - 1 } 2 i (i + 1)), 0) by rw [HR2.out]; unfold mrest; rw [if_neg bl, if_neg s6, if_pos cl])
                have e41 : (c == 41) = true := beq_iff_eq.2 cl.1
                have t1 : (m2.st == 1) = true := beq_iff_eq.2 cl.2
                have hdd := HD.out.2.2.1 cl.2
                have hdx := HD.out.2.1
                clear HR2 bl s6 cl
                go_enter Try.func19, Try.ntmps19
                go_wp2_with fail
                refine (part_calls _ c h0 h1).mono ?_
                rintro e w_ ⟨rfl, rfl⟩
                rw [HP.out]
                go_wp2_with fail
                refine (token_calls W _ g _ 5 (m.frm) (i) HM.out HB.out (Nat.le_trans HL.out (by decide)) hf0 hf1 (by omega)).mono ?_
                rintro e w_ ⟨rfl, hm_, hb_⟩
                have H4 := Aside0.mk hm_
                have HB4 := Aside0.mk hb_
                clear c0 c1 c2 f0 f1 f2
                have c1 := hm_.c1
                have c0 := hm_.c0
                have f0 := hm_.fz 0
                clear hm_ hb_
                go_wp2_with fail
                refine (done_calls W _ g _ H4.out HB4.out).mono ?_
                rintro e w_ ⟨rfl, hm_, hb_⟩
                rw [← HM2.out] at hm_
                have H5 := Aside0.mk hm_
                have HB5 := Aside0.mk hb_
                clear c0 c1 f0
                have c0 := hm_.c0
                have c1 := hm_.c1
                have f0 := hm_.fz 0
                have f1 := hm_.fz 1
                clear hm_ hb_
                have HY := Aside0.mk (H5.out.setDep (m2.dep - 1))
                have HBY := Aside0.mk (bset (i := 1) (v := .int .i64 (m2.dep - 1)) HB5.out HG.out)
                go_wp2_with fail
                refine (token_calls W _ g _ 2 (i) (i + 1) HY.out HBY.out (by have := HD.out.2.2.2; simp; omega) h2 (by omega) (by omega)).mono ?_
                rintro e w_ ⟨rfl, hm_, hb_⟩
                have H7 := Aside0.mk hm_
                have HB7 := Aside0.mk hb_
                clear hm_ hb_
                go_wp2_with fail
                refine (done_calls W _ g _ H7.out HB7.out).mono ?_
                rintro e w_ ⟨rfl, hm_, hb_⟩
                have H8 := Aside0.mk hm_
                have HB8 := Aside0.mk hb_
                clear hm_ hb_
                go_wp2_with fail
                go_ret
                exact ⟨by rw [HQ.out]; rfl, by rw [HQ.out]; exact H8.out, HB8.out⟩
              · have HQ := Aside0.mk (show R = mstart m2 c i by rw [HR2.out]; unfold mrest; rw [if_neg bl, if_neg s6, if_neg cl])
                have hor : (c == 41) = false ∨ ((c == 41) = true ∧ (m2.st == 1) = false) := by
                  by_cases h : c = 41
                  · exact .inr ⟨beq_iff_eq.2 h, beq_eq_false_iff_ne.2 (fun h2 => cl ⟨h, h2⟩)⟩
                  · exact .inl (beq_eq_false_iff_ne.2 h)
                clear HR2 bl s6 cl
                rcases hor with e41 | ⟨e41, t1⟩
                all_goals
                  go_enter Try.func19, Try.ntmps19
                  go_wp2_with fail
                  refine (part_calls _ c h0 h1).mono ?_
                  rintro e w_ ⟨rfl, rfl⟩
                  rw [HP.out]
                  go_wp2_with fail
                  refine (token_calls W _ g _ 5 (m.frm) (i) HM.out HB.out (Nat.le_trans HL.out (by decide)) hf0 hf1 (by omega)).mono ?_
                  rintro e w_ ⟨rfl, hm_, hb_⟩
                  have H4 := Aside0.mk hm_
                  have HB4 := Aside0.mk hb_
                  clear c0 c1 c2 f0 f1 f2
                  have c1 := hm_.c1
                  have c0 := hm_.c0
                  have f0 := hm_.fz 0
                  clear hm_ hb_
                  go_wp2_with fail
                  refine (done_calls W _ g _ H4.out HB4.out).mono ?_
                  rintro e w_ ⟨rfl, hm_, hb_⟩
                  rw [← HM2.out] at hm_
                  have H5 := Aside0.mk hm_
                  have HB5 := Aside0.mk hb_
                  clear c0 c1 f0
                  have c0 := hm_.c0
                  have c1 := hm_.c1
                  have f0 := hm_.fz 0
                  have f1 := hm_.fz 1
                  clear hm_ hb_
                  go_wp2_with fail
                  refine (start_calls W _ g _ c i H5.out HB5.out (by have := HD.out.2.2.2; omega) h0 h1 h2 (by omega) HD.out.1 HD.out.2.1).mono ?_
                  rintro e w_ ⟨rfl, hm_, hb_⟩
                  have H7 := Aside0.mk hm_
                  have HB7 := Aside0.mk hb_
                  clear hm_ hb_
                  go_wp2_with fail
                  go_ret
                  exact ⟨by rw [HQ.out]; rfl, by rw [HQ.out]; exact H7.out, HB7.out⟩
      · have t3 : (m.st == 3) = false := beq_eq_false_iff_ne.2 s3
        by_cases s2 : m.st = 2
        · have t2 : (m.st == 2) = true := beq_iff_eq.2 s2
          have HZ := Aside0.mk (HM.out.setSt 0)
          have HBZ := Aside0.mk (bset (i := 0) (v := .int .u8 0) HB.out HG.out)
          by_cases q1 : c = 64
          · have HQ := Aside0.mk (show R = (mtok { m with st := 0 } 6 m.frm (i + 1), 0) by rw [HR.out]; unfold mfeed; rw [if_neg s4, if_neg s5, if_neg s3, if_pos s2, if_pos q1])
            have e64 : (c == 64) = true := beq_iff_eq.2 q1
            clear HR s4 s5 s3 s2 q1
            go_enter Try.func19, Try.ntmps19
            go_wp2_with (first | (go_at_call 20; refine (token_calls W _ g _ 6 (m.frm) (i + 1) HZ.out HBZ.out (by have := HL.out; simp; omega) (by omega) (by omega) (by omega)).mono ?_; rintro e w_ ⟨rfl, hm_, hb_⟩; have H2 := Aside0.mk hm_; have HB2 := Aside0.mk hb_; have c0 := hm_.c0; have c1 := hm_.c1; have f0 := hm_.fz 0; have f1 := hm_.fz 1; clear hm_ hb_))
            go_ret
            exact ⟨by rw [HQ.out]; rfl, by rw [HQ.out]; exact H2.out, HB2.out⟩
          · have e64 : (c == 64) = false := beq_eq_false_iff_ne.2 q1
            obtain ⟨m2, hm2⟩ : ∃ m2, m2 = mtok { m with st := 0 } 6 m.frm i := ⟨_, rfl⟩
            have HR2 := Aside0.mk (show R = mrest m2 c i by rw [HR.out, hm2]; unfold mfeed; rw [if_neg s4, if_neg s5, if_neg s3, if_pos s2, if_neg q1])
            have HD := Aside0.mk (show 0 ≤ m2.dep ∧ m2.dep ≤ 512 ∧ (m2.st = 1 → 1 ≤ m2.dep) ∧ m2.l.length ≤ 999901 by
              subst hm2
              exact ⟨hd0, hd1, fun h => by simp [mtok] at h, by have := HL.out; simp [mtok]; omega⟩)
            have HM2 := Aside0.mk hm2
            clear HR s4 s5 s3 s2 q1 hm2
            by_cases bl : c = 32 ∨ c = 9 ∨ c = 10 ∨ c = 13
            · have HQ := Aside0.mk (show R = (m2, 0) by rw [HR2.out]; unfold mrest; rw [if_pos bl])
              have hor : (c == 32) = true ∨ ((c == 32) = false ∧ (c == 9) = true) ∨ ((c == 32) = false ∧ (c == 9) = false ∧ (c == 10) = true) ∨ ((c == 32) = false ∧ (c == 9) = false ∧ (c == 10) = false ∧ (c == 13) = true) := by
                simp only [beq_iff_eq, beq_eq_false_iff_ne]; omega
              clear HR2 bl
              rcases hor with e1 | ⟨e1, e2⟩ | ⟨e1, e2, e3⟩ | ⟨e1, e2, e3, e4⟩
              all_goals
                go_enter Try.func19, Try.ntmps19
                go_wp2_with fail
                refine (token_calls W _ g _ 6 (m.frm) (i) HZ.out HBZ.out (Nat.le_trans HL.out (by decide)) hf0 hf1 (by omega)).mono ?_
                rintro e w_ ⟨rfl, hm_, hb_⟩
                rw [← HM2.out] at hm_
                have H5 := Aside0.mk hm_
                have HB5 := Aside0.mk hb_
                clear c0 c1 c2 f0 f1 f2
                have c0 := hm_.c0
                have c1 := hm_.c1
                have f0 := hm_.fz 0
                have f1 := hm_.fz 1
                clear hm_ hb_
                go_wp2_with fail
                go_ret
                exact ⟨by rw [HQ.out]; rfl, by rw [HQ.out]; exact H5.out, HB5.out⟩
            · have e32 : (c == 32) = false := beq_eq_false_iff_ne.2 (by omega)
              have e9 : (c == 9) = false := beq_eq_false_iff_ne.2 (by omega)
              have e10 : (c == 10) = false := beq_eq_false_iff_ne.2 (by omega)
              have e13 : (c == 13) = false := beq_eq_false_iff_ne.2 (by omega)
              by_cases s6 : m2.st = 6
              · have HQ := Aside0.mk (show R = (m2, 5) by rw [HR2.out]; unfold mrest; rw [if_neg bl, if_pos s6])
                have t6 : (m2.st == 6) = true := beq_iff_eq.2 s6
                clear HR2 bl s6
                go_enter Try.func19, Try.ntmps19
                go_wp2_with fail
                refine (token_calls W _ g _ 6 (m.frm) (i) HZ.out HBZ.out (Nat.le_trans HL.out (by decide)) hf0 hf1 (by omega)).mono ?_
                rintro e w_ ⟨rfl, hm_, hb_⟩
                rw [← HM2.out] at hm_
                have H5 := Aside0.mk hm_
                have HB5 := Aside0.mk hb_
                clear c0 c1 c2 f0 f1 f2
                have c0 := hm_.c0
                have c1 := hm_.c1
                have f0 := hm_.fz 0
                have f1 := hm_.fz 1
                clear hm_ hb_
                go_wp2_with fail
                go_ret
                exact ⟨by rw [HQ.out]; rfl, by rw [HQ.out]; exact H5.out, HB5.out⟩
              · have t6 : (m2.st == 6) = false := beq_eq_false_iff_ne.2 s6
                by_cases cl : c = 41 ∧ m2.st = 1
                · have HQ := Aside0.mk (show R = (mdone (mtok { m2 with dep := m2.dep - 1 } 2 i (i + 1)), 0) by rw [HR2.out]; unfold mrest; rw [if_neg bl, if_neg s6, if_pos cl])
                  have e41 : (c == 41) = true := beq_iff_eq.2 cl.1
                  have t1 : (m2.st == 1) = true := beq_iff_eq.2 cl.2
                  have hdd := HD.out.2.2.1 cl.2
                  have hdx := HD.out.2.1
                  clear HR2 bl s6 cl
                  go_enter Try.func19, Try.ntmps19
                  go_wp2_with fail
                  refine (token_calls W _ g _ 6 (m.frm) (i) HZ.out HBZ.out (Nat.le_trans HL.out (by decide)) hf0 hf1 (by omega)).mono ?_
                  rintro e w_ ⟨rfl, hm_, hb_⟩
                  rw [← HM2.out] at hm_
                  have H5 := Aside0.mk hm_
                  have HB5 := Aside0.mk hb_
                  clear c0 c1 c2 f0 f1 f2
                  have c0 := hm_.c0
                  have c1 := hm_.c1
                  have f0 := hm_.fz 0
                  have f1 := hm_.fz 1
                  clear hm_ hb_
                  have HY := Aside0.mk (H5.out.setDep (m2.dep - 1))
                  have HBY := Aside0.mk (bset (i := 1) (v := .int .i64 (m2.dep - 1)) HB5.out HG.out)
                  go_wp2_with fail
                  refine (token_calls W _ g _ 2 (i) (i + 1) HY.out HBY.out (by have := HD.out.2.2.2; simp; omega) h2 (by omega) (by omega)).mono ?_
                  rintro e w_ ⟨rfl, hm_, hb_⟩
                  have H7 := Aside0.mk hm_
                  have HB7 := Aside0.mk hb_
                  clear hm_ hb_
                  go_wp2_with fail
                  refine (done_calls W _ g _ H7.out HB7.out).mono ?_
                  rintro e w_ ⟨rfl, hm_, hb_⟩
                  have H8 := Aside0.mk hm_
                  have HB8 := Aside0.mk hb_
                  clear hm_ hb_
                  go_wp2_with fail
                  go_ret
                  exact ⟨by rw [HQ.out]; rfl, by rw [HQ.out]; exact H8.out, HB8.out⟩
                · have HQ := Aside0.mk (show R = mstart m2 c i by rw [HR2.out]; unfold mrest; rw [if_neg bl, if_neg s6, if_neg cl])
                  have hor : (c == 41) = false ∨ ((c == 41) = true ∧ (m2.st == 1) = false) := by
                    by_cases h : c = 41
                    · exact .inr ⟨beq_iff_eq.2 h, beq_eq_false_iff_ne.2 (fun h2 => cl ⟨h, h2⟩)⟩
                    · exact .inl (beq_eq_false_iff_ne.2 h)
                  clear HR2 bl s6 cl
                  rcases hor with e41 | ⟨e41, t1⟩
                  all_goals
                    go_enter Try.func19, Try.ntmps19
                    go_wp2_with fail
                    refine (token_calls W _ g _ 6 (m.frm) (i) HZ.out HBZ.out (Nat.le_trans HL.out (by decide)) hf0 hf1 (by omega)).mono ?_
                    rintro e w_ ⟨rfl, hm_, hb_⟩
                    rw [← HM2.out] at hm_
                    have H5 := Aside0.mk hm_
                    have HB5 := Aside0.mk hb_
                    clear c0 c1 c2 f0 f1 f2
                    have c0 := hm_.c0
                    have c1 := hm_.c1
                    have f0 := hm_.fz 0
                    have f1 := hm_.fz 1
                    clear hm_ hb_
                    go_wp2_with fail
                    refine (start_calls W _ g _ c i H5.out HB5.out (by have := HD.out.2.2.2; omega) h0 h1 h2 (by omega) HD.out.1 HD.out.2.1).mono ?_
                    rintro e w_ ⟨rfl, hm_, hb_⟩
                    have H7 := Aside0.mk hm_
                    have HB7 := Aside0.mk hb_
                    clear hm_ hb_
                    go_wp2_with fail
                    go_ret
                    exact ⟨by rw [HQ.out]; rfl, by rw [HQ.out]; exact H7.out, HB7.out⟩
        · have t2 : (m.st == 2) = false := beq_eq_false_iff_ne.2 s2
          obtain ⟨m2, hm2⟩ : ∃ m2, m2 = m := ⟨_, rfl⟩
          have HR2 := Aside0.mk (show R = mrest m2 c i by rw [HR.out, hm2]; unfold mfeed; rw [if_neg s4, if_neg s5, if_neg s3, if_neg s2])
          have HD := Aside0.mk (show 0 ≤ m2.dep ∧ m2.dep ≤ 512 ∧ (m2.st = 1 → 1 ≤ m2.dep) ∧ m2.l.length ≤ 999901 by
            subst hm2
            exact ⟨hd0, hd1, HD2.out, by have := HL.out; omega⟩)
          subst hm2
          clear HR s4 s5 s3 s2
          by_cases bl : c = 32 ∨ c = 9 ∨ c = 10 ∨ c = 13
          · have HQ := Aside0.mk (show R = (m2, 0) by rw [HR2.out]; unfold mrest; rw [if_pos bl])
            have hor : (c == 32) = true ∨ ((c == 32) = false ∧ (c == 9) = true) ∨ ((c == 32) = false ∧ (c == 9) = false ∧ (c == 10) = true) ∨ ((c == 32) = false ∧ (c == 9) = false ∧ (c == 10) = false ∧ (c == 13) = true) := by
              simp only [beq_iff_eq, beq_eq_false_iff_ne]; omega
            clear HR2 bl
            rcases hor with e1 | ⟨e1, e2⟩ | ⟨e1, e2, e3⟩ | ⟨e1, e2, e3, e4⟩
            all_goals
              go_enter Try.func19, Try.ntmps19
              go_wp2_with fail
              go_ret
              exact ⟨by rw [HQ.out]; rfl, by rw [HQ.out]; exact HM.out, HB.out⟩
          · have e32 : (c == 32) = false := beq_eq_false_iff_ne.2 (by omega)
            have e9 : (c == 9) = false := beq_eq_false_iff_ne.2 (by omega)
            have e10 : (c == 10) = false := beq_eq_false_iff_ne.2 (by omega)
            have e13 : (c == 13) = false := beq_eq_false_iff_ne.2 (by omega)
            by_cases s6 : m2.st = 6
            · have HQ := Aside0.mk (show R = (m2, 5) by rw [HR2.out]; unfold mrest; rw [if_neg bl, if_pos s6])
              have t6 : (m2.st == 6) = true := beq_iff_eq.2 s6
              clear HR2 bl s6
              go_enter Try.func19, Try.ntmps19
              go_wp2_with fail
              go_ret
              exact ⟨by rw [HQ.out]; rfl, by rw [HQ.out]; exact HM.out, HB.out⟩
            · have t6 : (m2.st == 6) = false := beq_eq_false_iff_ne.2 s6
              by_cases cl : c = 41 ∧ m2.st = 1
              · have HQ := Aside0.mk (show R = (mdone (mtok { m2 with dep := m2.dep - 1 } 2 i (i + 1)), 0) by rw [HR2.out]; unfold mrest; rw [if_neg bl, if_neg s6, if_pos cl])
                have e41 : (c == 41) = true := beq_iff_eq.2 cl.1
                have t1 : (m2.st == 1) = true := beq_iff_eq.2 cl.2
                have hdd := HD.out.2.2.1 cl.2
                have hdx := HD.out.2.1
                clear HR2 bl s6 cl
                go_enter Try.func19, Try.ntmps19
                have HY := Aside0.mk (HM.out.setDep (m2.dep - 1))
                have HBY := Aside0.mk (bset (i := 1) (v := .int .i64 (m2.dep - 1)) HB.out HG.out)
                go_wp2_with fail
                refine (token_calls W _ g _ 2 (i) (i + 1) HY.out HBY.out (by have := HD.out.2.2.2; simp; omega) h2 (by omega) (by omega)).mono ?_
                rintro e w_ ⟨rfl, hm_, hb_⟩
                have H7 := Aside0.mk hm_
                have HB7 := Aside0.mk hb_
                clear hm_ hb_
                go_wp2_with fail
                refine (done_calls W _ g _ H7.out HB7.out).mono ?_
                rintro e w_ ⟨rfl, hm_, hb_⟩
                have H8 := Aside0.mk hm_
                have HB8 := Aside0.mk hb_
                clear hm_ hb_
                go_wp2_with fail
                go_ret
                exact ⟨by rw [HQ.out]; rfl, by rw [HQ.out]; exact H8.out, HB8.out⟩
              · have HQ := Aside0.mk (show R = mstart m2 c i by rw [HR2.out]; unfold mrest; rw [if_neg bl, if_neg s6, if_neg cl])
                have hor : (c == 41) = false ∨ ((c == 41) = true ∧ (m2.st == 1) = false) := by
                  by_cases h : c = 41
                  · exact .inr ⟨beq_iff_eq.2 h, beq_eq_false_iff_ne.2 (fun h2 => cl ⟨h, h2⟩)⟩
                  · exact .inl (beq_eq_false_iff_ne.2 h)
                clear HR2 bl s6 cl
                rcases hor with e41 | ⟨e41, t1⟩
                all_goals
                  go_enter Try.func19, Try.ntmps19
                  go_wp2_with fail
                  refine (start_calls W _ g _ c i HM.out HB.out (by have := HD.out.2.2.2; omega) h0 h1 h2 (by omega) HD.out.1 HD.out.2.1).mono ?_
                  rintro e w_ ⟨rfl, hm_, hb_⟩
                  have H7 := Aside0.mk hm_
                  have HB7 := Aside0.mk hb_
                  clear hm_ hb_
                  go_wp2_with fail
                  go_ret
                  exact ⟨by rw [HQ.out]; rfl, by rw [HQ.out]; exact H7.out, HB7.out⟩
end Go.Proofs.Ytfflfadfalacgaa.SMem
