/- Proved: the program's reader of layer 8 in memory: its small methods; the text has at most 100000 bytes. -/
import Derived.Test.YtdgdnccpginclaaJBase
import Derived.Deep.QuietTactic
import Derived.BigQuiet
namespace Go.Proofs.Ytdgdnccpginclaa.JRd
open Go.RowKit Go.Proofs.YtdgdnccpginclaaW.PrintWords Go.Proofs.YtdgdnccpginclaaW.PrintLast Go.Proofs.YtdgdnccpginclaaW.PrintMore
open Go.Proofs.Ytdgdnccpginclaa.JDefs Go.Proofs.Ytdgdnccpginclaa.JBase
set_option linter.unusedVariables false
set_option linter.unusedSimpArgs false
set_option maxHeartbeats 8000000
set_option maxRecDepth 100000

structure Txt (W : World) (P : Option Addr) (cP : Nat) (p : List Int) : Prop where
  c : (Kd.int .u8).C W P p.length p
  b : ByteL p
  n : p.length ≤ 100000
  cap : p.length ≤ cP
/-- The reader in memory: its text's slice, the place, the tokens, the depth. -/
def RS (w : World) (base g : Nat) (pv : Value) (at_ : Int) (l : List (Int × Int × Int)) (d : Int) : Prop := base ≤ g ∧ ∃ v, w.heap[g]? = some (.cells #[pv, .int .i64 at_, v, .int .i64 d] 38 (0, 0)) ∧ Kd.R tokK 33 w base (fun _ => True) v l
def stopE (e at_ : Int) : Ending := .panicked [{ v := .iface 40 (.agg #[.int .i64 e, .int .i64 at_]), recovered := false }]
def St (W w : World) (g : Nat) (P : Option Addr) (cP : Nat) (p : List Int) (a : Nat) (l : List (Int × Int × Int)) (d : Nat) : Prop := RS w W.heap.size g (.slice P p.length cP) (a : Int) l (d : Int) ∧ Below W.heap.size W w ∧ a ≤ p.length
section
variable {W w : World} {g : Nat} {P : Option Addr} {cP : Nat} {p : List Int} {a : Nat} {l : List (Int × Int × Int)} {d : Nat}
theorem St.c0 (h : St W w g P cP p a l d) : w.cell? ⟨g, 0, none⟩ = some (.slice P p.length cP) := by obtain ⟨⟨_, v, hb, _⟩, _⟩ := h; exact blk_cell hb 0
theorem St.c1 (h : St W w g P cP p a l d) : w.cell? ⟨g, 1, none⟩ = some (.int .i64 (a : Int)) := by obtain ⟨⟨_, v, hb, _⟩, _⟩ := h; exact blk_cell hb 1
theorem St.c3 (h : St W w g P cP p a l d) : w.cell? ⟨g, 3, none⟩ = some (.int .i64 (d : Int)) := by obtain ⟨⟨_, v, hb, _⟩, _⟩ := h; exact blk_cell hb 3
theorem St.fz (h : St W w g P cP p a l d) (i : Nat) : w.frozen? ⟨g, i, none⟩ = false := by obtain ⟨⟨_, v, hb, _⟩, _⟩ := h; exact blk_frozen hb i
theorem St.ge (h : St W w g P cP p a l d) : W.heap.size ≤ g := h.1.1
theorem St.le (h : St W w g P cP p a l d) : a ≤ p.length := h.2.2
theorem St.bel (h : St W w g P cP p a l d) : Below W.heap.size W w := h.2.1
theorem St.drewN (h : St W w g P cP p a l d) (n : Nat) : St W (w.drewN n) g P cP p a l d := by
  obtain ⟨⟨hg, v, hb, hr⟩, h2, h3⟩ := h
  exact ⟨⟨hg, v, blk_drewN hb n, Kd.R_drewN hr n⟩, below_then h2 h2.size (pw_below_drewN (Below.refl _ _) n), h3⟩
theorem St.setAt (h : St W w g P cP p a l d) (b : Nat) (hb : b ≤ p.length) (x : Int) (hx : x = (b : Int)) : St W (w.setCell ⟨g, 1, none⟩ (.int .i64 x)) g P cP p b l d := by
  subst hx
  obtain ⟨⟨hg, v, hb1, hr⟩, h2, h3⟩ := h
  exact ⟨⟨hg, v, blk_put hb1 1 _ rfl, Kd.R_set hr hb1 (tokT 38) 1 _⟩, below_set h2 hg, hb⟩
theorem St.setD (h : St W w g P cP p a l d) (d' : Nat) (x : Int) (hx : x = (d' : Int)) : St W (w.setCell ⟨g, 3, none⟩ (.int .i64 x)) g P cP p a l d' := by
  subst hx
  obtain ⟨⟨hg, v, hb1, hr⟩, h2, h3⟩ := h
  exact ⟨⟨hg, v, blk_put hb1 3 _ rfl, Kd.R_set hr hb1 (tokT 38) 3 _⟩, below_set h2 hg, h3⟩
theorem St.cell (h : St W w g P cP p a l d) (hT : Txt W P cP p) (i : Nat) (hi : i < p.length) : ∃ ad, P = some ad ∧ w.cell? (ad.add i) = some (.int .u8 (p.getD i 0)) ∧ 0 ≤ p.getD i 0 ∧ p.getD i 0 ≤ 255 := by
  obtain ⟨ad, ea, hx⟩ := at_nat hT.c i hi
  exact ⟨ad, ea, (h.bel.cell (World.block_lt_of_cell? W _ hx)).trans hx, hT.b _ (by rw [List.getD_eq_getElem?_getD, List.getElem?_eq_getElem hi]; simp)⟩
end
/-- What a part of the reader leaves. -/
def OutP (W : World) (g : Nat) (P : Option Addr) (cP : Nat) (p : List Int) (d : Nat) (o : Out) (e : Ending) (w' : World) : Prop :=
  match o with
  | .ok b l => e = .returned (.tuple #[]) ∧ St W w' g P cP p b l d
  | .stop x a => e = stopE x a ∧ Below W.heap.size W w'
def BP (W : World) (g : Nat) (P : Option Addr) (cP : Nat) (p : List Int) (l : List (Int × Int × Int)) (d : Nat) (r : Bool × Nat) (e : Ending) (w' : World) : Prop :=
  (r.1 = true → e = .returned (.tuple #[]) ∧ St W w' g P cP p r.2 l d) ∧ (r.1 = false → e = stopE 5 r.2 ∧ Below W.heap.size W w')
section
variable (W w : World) (g : Nat) (P : Option Addr) (cP : Nat) (p : List Int) (a : Nat) (l : List (Int × Int × Int)) (d : Nat)
theorem fail_calls (h : St W w g P cP p a l d) : Calls Try.prog 17 #[.pointer (some ⟨g, 0, none⟩)] w fun e w' => e = stopE 5 a ∧ w = w' := by
  have c1 := h.c1
  clear h
  have hp : ∀ W : World, (Instr.panic (.iface 40 (.agg #[.int .i64 5, .int .i64 (a : Int)]))).run Try.prog W = .halt (.panic (.iface 40 (.agg #[.int .i64 5, .int .i64 (a : Int)]))) W := fun _ => rfl
  go_enter Try.func17, Try.ntmps17
  go_wp2
  exact ⟨rfl, rfl, rfl⟩
theorem ib38_calls (s : ByteArray) (c : Int) (w : World) :
    Calls Try.prog 38 #[.string s, .int .u8 c] w fun e w' => e = .returned (.int .i64 (Lib.indexByte s.data.toList c.toNat.toUInt8)) ∧ w' = w := by
  go_enter Try.func38, Try.ntmps38
  go_wp2
  rw [run_callFunc_extern (e := Extern.BytealgIndexByte.indexByte) (fn := Try.f40) Try.func40 (by kernel_rfl) (by kernel_rfl) (by kernel_rfl) (by kernel_rfl), Lib.run_indexByteString]
  simp only [Result.andThen]
  rw [Oper.upon_value]
  go_wp2
  go_ret
  exact ⟨rfl, rfl⟩
theorem ib28_calls (s : ByteArray) (c : Int) (w : World) :
    Calls Try.prog 28 #[.string s, .int .u8 c] w fun e w' => e = .returned (.int .i64 (Lib.indexByte s.data.toList c.toNat.toUInt8)) ∧ w = w' := by
  go_enter Try.func28, Try.ntmps28
  go_wp2_with (first | (go_at_call 38; refine (ib38_calls s c _).mono ?_; rintro e w_ ⟨rfl, rfl⟩))
  go_ret
  exact ⟨rfl, rfl⟩
theorem sees_calls (hT : Txt W P cP p) (h : St W w g P cP p a l d) : Calls Try.prog 21 #[.pointer (some ⟨g, 0, none⟩)] w fun e w' => e = .returned (.int .u8 (sees p a)) ∧ ∃ n, w' = w.drewN n := by
  have HM := Aside0.mk h
  have hn := hT.n
  have hle := h.le
  have c0 := h.c0
  have c1 := h.c1
  have ha : (a : Int) ≤ 100000 := by omega
  by_cases hlt : a < p.length
  · have ht : ((a : Int) == (p.length : Int)) = false := beq_eq_false_iff_ne.2 (by omega)
    obtain ⟨ad, ea, hx, hx0, hx1⟩ := h.cell hT a hlt
    cases ea
    have hs : sees p a = p.getD a 0 := rfl
    rw [hs]
    generalize p.getD a 0 = x at hx hx0 hx1
    clear h hT hs
    have p0 : (0 : Int) ≤ (a : Int) := by omega
    have p1 : (a : Int) < (p.length : Int) := by omega
    go_enter Try.func21, Try.ntmps21
    go_wp2_with fail
    go_quiet (fail)
    simp only [Exit.then]
    apply_assumption
    have HM3 := Aside0.mk (HM.out.drewN nq)
    have hx2 : (w.drewN nq).cell? (ad.add a) = some (.int .u8 x) := hx
    clear c0 c1 HM hx
    have HQ := Aside0.mk (show w.drewN nq = w.drewN nq from rfl)
    obtain ⟨w3, hw3⟩ : ∃ w3, w3 = w.drewN nq := ⟨_, rfl⟩
    rw [← hw3] at HM3 hx2 ⊢
    have HW := Aside0.mk (show ∃ n, w3 = w.drewN n from ⟨nq, hw3⟩)
    clear hw3 HQ
    have c0 := HM3.out.c0
    have c1 := HM3.out.c1
    go_wp2_with fail
    go_quiet (fail)
    simp only [Exit.then]
    apply_assumption
    go_wp2
    go_ret
    obtain ⟨n1, e1⟩ := HW.out
    exact ⟨rfl, n1 + nq, by rw [e1]; first | rfl | rw [World.drewN_drewN]⟩
  · have ht : ((a : Int) == (p.length : Int)) = true := beq_iff_eq.2 (by omega)
    rw [JSim.sees_end (by omega)]
    clear h hT
    go_enter Try.func21, Try.ntmps21
    go_wp2_with fail
    go_quiet (fail)
    simp only [Exit.then]
    apply_assumption
    go_wp2
    go_ret
    exact ⟨rfl, nq, rfl⟩
theorem sees_st (hT : Txt W P cP p) (h : St W w g P cP p a l d) : Calls Try.prog 21 #[.pointer (some ⟨g, 0, none⟩)] w fun e w' => e = .returned (.int .u8 (sees p a)) ∧ St W w' g P cP p a l d :=
  (sees_calls W w g P cP p a l d hT h).mono fun e w' ⟨he, n, hw⟩ => ⟨he, by rw [hw]; exact h.drewN n⟩
theorem sees_byte (hT : Txt W P cP p) : 0 ≤ sees p a ∧ sees p a ≤ 255 := by
  by_cases hlt : a < p.length
  · exact hT.b _ (by unfold sees; rw [List.getD_eq_getElem?_getD, List.getElem?_eq_getElem hlt]; simp)
  · rw [JSim.sees_end (by omega)]; decide
theorem blanks_calls (hT : Txt W P cP p) (h : St W w g P cP p a l d) :
    Calls Try.prog 16 #[.pointer (some ⟨g, 0, none⟩)] w fun e w' => e = .returned (.tuple #[]) ∧ St W w' g P cP p (skip p a) l d := by
  have HT := Aside0.mk hT
  have HM := Aside0.mk h
  have hle := h.le
  have hn := hT.n
  clear hT h
  go_enter Try.func16, Try.ntmps16
  go_wp2
  go_loopg [] (p.length - a) (fun kq w' => ∃ i : Nat, Aside0 (i + kq = p.length) ∧ Aside0 (skip p a = skip p i) ∧ Aside0 (St W w' g P cP p i l d))
  case atStart => exact ⟨a, ⟨by omega⟩, ⟨rfl⟩, HM⟩
  case round =>
    clear HM
    obtain ⟨i, HI, HS, HM⟩ := hrel
    have c0 := HM.out.c0
    have c1 := HM.out.c1
    have f1 := HM.out.fz 1
    have hi1 : (i : Int) ≤ 100000 := by have := HI.out; omega
    by_cases hlt : i < p.length
    · have HLT := Aside0.mk hlt
      have hlt' : decide ((i : Int) < (p.length : Int)) = true := decide_eq_true (by omega)
      have p0 : (0 : Int) ≤ (i : Int) := by omega
      have p1 : (i : Int) < (p.length : Int) := by omega
      obtain ⟨ad, ea, hx, hb0, hb1⟩ := HM.out.cell HT.out i hlt
      cases ea
      generalize hcv : p.getD i 0 = x at hx hb0 hb1
      have HW := Aside0.mk (ws_ix' x hb0 hb1)
      have HCV := Aside0.mk hcv
      clear hcv
      go_wp2_with fail
      go_quiet ((go_at_call 28; exact Calls.quiet_of_same ((ib28_calls _ x _).mono fun _ _ h => ⟨h.1, h.2.symm⟩)))
      simp only [Exit.then]
      apply_assumption
      by_cases hw : 0 ≤ Lib.indexByte [32, 9, 13, 10] (UInt8.ofNat x.toNat)
      · go_wp2
        go_roundg (p.length - (i + 1))
        case measure => have := HI.out; have := HLT.out; omega
        case rel => exact ⟨i + 1, ⟨by have := HLT.out; omega⟩, ⟨by rw [HS.out]; exact skip_yes HLT.out HCV.out (by rw [HW.out]; exact decide_eq_true hw)⟩, ⟨(HM.out.drewN nq).setAt (i + 1) (by have := HLT.out; omega) _ (by omega)⟩⟩
      · go_wp2
        go_end0
        rw [HS.out, skip_no HLT.out HCV.out (by rw [HW.out]; exact decide_eq_false (by omega))]
        exact ⟨rfl, HM.out.drewN nq⟩
    · have hlt' : decide ((i : Int) < (p.length : Int)) = false := decide_eq_false (by omega)
      have hlt2 : decide (i < p.length) = false := decide_eq_false hlt
      go_wp2_with fail
      go_quiet (fail)
      simp only [Exit.then]
      apply_assumption
      go_wp2
      go_end0
      rw [HS.out, skip_end (by omega)]
      exact ⟨rfl, HM.out.drewN nq⟩
/-- want: the byte there. -/
theorem want_calls (c : Int) (hT : Txt W P cP p) (h : St W w g P cP p a l d) :
    Calls Try.prog 35 #[.pointer (some ⟨g, 0, none⟩), .int .u8 c] w (BP W g P cP p l d (if p[a]? = some c then (true, a + 1) else (false, a))) := by
  obtain ⟨V, hV⟩ : ∃ V, V = (if p[a]? = some c then (true, a + 1) else (false, a)) := ⟨_, rfl⟩
  rw [← hV]
  have HT := Aside0.mk hT
  have HM := Aside0.mk h
  have hle := h.le
  have hn := hT.n
  have c0 := h.c0
  have c1 := h.c1
  have ha : (a : Int) ≤ 100000 := by omega
  by_cases hlt : a < p.length
  · have HLT := Aside0.mk hlt
    have ht : ((a : Int) == (p.length : Int)) = false := beq_eq_false_iff_ne.2 (by omega)
    have p0 : (0 : Int) ≤ (a : Int) := by omega
    have p1 : (a : Int) < (p.length : Int) := by omega
    obtain ⟨ad, ea, hx, hb0, hb1⟩ := h.cell hT a hlt
    cases ea
    generalize hcv : p.getD a 0 = x at hx hb0 hb1
    rw [getQ hlt hcv] at hV
    clear hcv h hT
    by_cases hc : x = c
    · rw [if_pos (by rw [hc])] at hV
      have hcb : (x != c) = false := by rw [hc]; simp
      have HV := Aside0.mk hV
      clear hV hc
      go_enter Try.func35, Try.ntmps35
      go_wp2_with fail
      go_quiet (fail)
      simp only [Exit.then]
      apply_assumption
      have HM3 := Aside0.mk (HM.out.drewN nq)
      clear c0 c1 HM hx
      generalize w.drewN nq = w3 at HM3
      have c1 := HM3.out.c1
      have f1 := HM3.out.fz 1
      go_wp2
      go_end0
      rw [HV.out]
      exact ⟨fun _ => ⟨rfl, HM3.out.setAt (a + 1) (by have := HLT.out; omega) _ (by omega)⟩, fun h => by cases h⟩
    · rw [if_neg (by intro h; exact hc (by simpa using h))] at hV
      have hcb : (x != c) = true := by rw [bne_iff_ne]; exact hc
      have HV := Aside0.mk hV
      clear hV hc
      go_enter Try.func35, Try.ntmps35
      go_wp2_with fail
      go_quiet (fail)
      simp only [Exit.then]
      apply_assumption
      go_wp2_with fail
      refine (fail_calls W _ g (some ad) cP p a l d (HM.out.drewN nq)).mono ?_
      rintro e w5 ⟨he_, rfl⟩
      unfold stopE at he_
      subst he_
      go_wp2_with fail
      refine ⟨rfl, ?_⟩
      rw [HV.out]
      exact ⟨(fun h => by cases h), fun _ => ⟨rfl, (HM.out.drewN nq).bel⟩⟩
  · have ht : ((a : Int) == (p.length : Int)) = true := beq_iff_eq.2 (by omega)
    rw [List.getElem?_eq_none (by omega), if_neg (by simp)] at hV
    have HV := Aside0.mk hV
    clear hV h hT
    go_enter Try.func35, Try.ntmps35
    go_wp2_with fail
    go_quiet (fail)
    simp only [Exit.then]
    apply_assumption
    go_wp2_with fail
    refine (fail_calls W _ g P cP p a l d (HM.out.drewN nq)).mono ?_
    rintro e w5 ⟨he_, rfl⟩
    unfold stopE at he_
    subst he_
    go_wp2_with fail
    refine ⟨rfl, ?_⟩
    rw [HV.out]
    exact ⟨(fun h => by cases h), fun _ => ⟨rfl, (HM.out.drewN nq).bel⟩⟩
theorem token_calls (k : Int) (f : Nat) (hn : p.length ≤ 100000) (h : St W w g P cP p a l d) (hf : f ≤ a) (hl : l.length ≤ 1000000) :
    Calls Try.prog 27 #[.pointer (some ⟨g, 0, none⟩), .int .u8 k, .int .i64 (f : Int)] w fun e w' => e = .returned (.tuple #[]) ∧ St W w' g P cP p a (l ++ [(k, (f : Int), (a : Int) - f)]) d := by
  have hle := h.le
  have c1 := h.c1
  obtain ⟨⟨hg, v, hblk, ho⟩, hb, _⟩ := h
  have hc2 : w.cell? ⟨g, 2, none⟩ = some v := blk_cell hblk 2
  have hf2 := blk_frozen hblk 2
  have hgl := blk_lt hblk
  have ha0 : (0 : Int) ≤ (a : Int) - (f : Int) := by omega
  have ha1 : (a : Int) - (f : Int) ≤ 100000 := by omega
  have hwr : IntKind.i64.wrap ((a : Int) - (f : Int)) = (a : Int) - (f : Int) := IntWalk.i64_in _ (by omega)
  have HBLK := Aside0.mk hblk
  have HO := Aside0.mk (Kd.R_types ho hblk (tokT 38))
  have HB := Aside0.mk hb
  have HG := Aside0.mk hg
  have HL := Aside0.mk hl
  have HLE := Aside0.mk hle
  clear hblk ho hb hg hl
  obtain ⟨A, c, e_, hle_, hC_⟩ := Kd.R_reads HO.out
  subst e_
  clear hle_ hC_
  go_enter Try.func27, Try.ntmps27
  go_wp2_with fail
  go_region_law ((refine Kd.R_append_step tokK (w0 := W) W.heap.size (by rfl) (.tmp 10) (.tmp 20) 24 33 (.agg #[.int .u8 0, .int .i64 0, .int .i64 0]) 24 (by rfl) Try.underlying24 info33 rfl (by decide) (by omega) (.slice A l.length c) l (k, (f : Int), (a : Int) - f) [.int .u8 k, .int .i64 (f : Int), .int .i64 ((a : Int) - f)] (fun k_ => True ∧ k_ ≠ g) (fun _ => False) (by rfl) (by rfl) (tokM _ _ _ _ _ _) (fun _ hk => hk.elim) (fun k_ hk => ⟨trivial, by simp at hk; omega⟩) (Kd.R_drew HO.out) (below_drew HB.out) (by simp; have := below_size HB.out; omega) (by have := HL.out; omega) ?_; intro v4 w4 ho hb hgr hat; have hblk4 := blk_grown (blk_drew HBLK.out) hgr (fun e_ => (HO.out.1 g e_.symm).2 rfl); have hc42 : w4.cell? ⟨g, 2, none⟩ = some (.slice A l.length c) := blk_cell hblk4 2; have hf42 := blk_frozen hblk4 2; have HO4 := Aside0.mk ho; have HB4 := Aside0.mk hb; have HBLK4 := Aside0.mk hblk4; clear ho hb hblk4 hgr hat; obtain ⟨A4, c4, e4, hle4, hC4⟩ := Kd.R_reads HO4.out; subst e4; clear hle4 hC4))
  all_goals
    go_end0
    refine ⟨rfl, ⟨HG.out, _, blk_put HBLK4.out 2 _ rfl, ?_⟩, below_set HB4.out HG.out, HLE.out⟩
    have hr := Kd.R_mono (Kd.R_set HO4.out HBLK4.out (tokT 38) 2 (.slice A4 (l.length + 1) c4)) (ok' := fun _ => True) (fun _ _ => trivial)
    rw [List.length_append] at hr
    exact hr
end
end Go.Proofs.Ytdgdnccpginclaa.JRd
