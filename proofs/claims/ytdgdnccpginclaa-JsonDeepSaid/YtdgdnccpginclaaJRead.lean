/- Proved: the program's Read of layer 8 answers what the plain parser tells; the text has at most 100000 bytes. -/
import Derived.Test.YtdgdnccpginclaaJList
import Derived.Defers
import Derived.Recover
import Derived.RegionTactic
import Derived.Laws.Pointers
namespace Go.Proofs.Ytdgdnccpginclaa.JRead
open Go.RowKit Go.Proofs.YtdgdnccpginclaaW.PrintWords Go.Proofs.YtdgdnccpginclaaW.PrintLast Go.Proofs.YtdgdnccpginclaaW.PrintMore
open Go.Proofs.Ytdgdnccpginclaa.JDefs Go.Proofs.Ytdgdnccpginclaa.JSim Go.Proofs.Ytdgdnccpginclaa.JSimb Go.Proofs.Ytdgdnccpginclaa.JSimc Go.Proofs.Ytdgdnccpginclaa.JBase Go.Proofs.Ytdgdnccpginclaa.JRd Go.Proofs.Ytdgdnccpginclaa.JPt Go.Proofs.Ytdgdnccpginclaa.JPu Go.Proofs.Ytdgdnccpginclaa.JPv Go.Proofs.Ytdgdnccpginclaa.JNu Go.Proofs.Ytdgdnccpginclaa.JTx Go.Proofs.Ytdgdnccpginclaa.JVal Go.Proofs.Ytdgdnccpginclaa.JList
set_option linter.unusedVariables false
set_option linter.unusedSimpArgs false
set_option maxHeartbeats 8000000
set_option maxRecDepth 100000
/-- What the deferred closure leaves where it has caught a stop. -/
def Caught (w : World) (B g2 g3 g4 : Nat) (x a : Int) (w' : World) : Prop :=
  w'.heap[g2]? = some (.cells #[.slice none 0 0] 24 (0, 0)) ∧ w'.heap[g3]? = some (.cells #[.int .i64 a] 3 (0, 0)) ∧ w'.heap[g4]? = some (.cells #[.int .i64 x] 25 (0, 0)) ∧ Below B w w'
theorem caught_of {w W1 : World} {B g2 g3 g4 : Nat} {x a : Int} {v2 v3 v4 : Value} (b2 : W1.heap[g2]? = some (.cells #[v2] 24 (0, 0))) (b3 : W1.heap[g3]? = some (.cells #[v3] 3 (0, 0))) (b4 : W1.heap[g4]? = some (.cells #[v4] 25 (0, 0)))
    (n23 : g2 ≠ g3) (n24 : g2 ≠ g4) (n34 : g3 ≠ g4) (l2 : B ≤ g2) (l3 : B ≤ g3) (l4 : B ≤ g4) (hb : Below B w W1) :
    Caught w B g2 g3 g4 x a (((W1.setCell ⟨g2, 0, none⟩ (.slice none 0 0)).setCell ⟨g3, 0, none⟩ (.int .i64 a)).setCell ⟨g4, 0, none⟩ (.int .i64 x)).drew := by
  refine ⟨?_, ?_, ?_, below_drew (((hb.setCell l2 _).setCell l3 _).setCell l4 _)⟩
  · exact blk_far (blk_far (blk_put b2 0 _ rfl) (by exact n23) _) (by exact n24) _
  · exact blk_far (blk_put (blk_far b3 (by exact fun h => n23 h.symm) _) 0 _ rfl) (by exact n34) _
  · exact blk_put (blk_far (blk_far b4 (by exact fun h => n24 h.symm) _) (by exact fun h => n34 h.symm) _) 0 _ rfl
theorem ta_yes (x a : Int) (w : World) : (Instr.typeAssert (.iface 40 (.agg #[.int .i64 x, .int .i64 a])) 20 40 false).run Try.prog w = .ok (.agg #[.int .i64 x, .int .i64 a]) w := by kernel_rfl
theorem catch_panicking (B g2 g3 g4 : Nat) (x a : Int) (w : World) (v2 v3 v4 : Value) (h2 : w.heap[g2]? = some (.cells #[v2] 24 (0, 0))) (h3 : w.heap[g3]? = some (.cells #[v3] 3 (0, 0))) (h4 : w.heap[g4]? = some (.cells #[v4] 25 (0, 0))) (l2 : B ≤ g2) (l3 : B ≤ g3) (l4 : B ≤ g4) :
    CallsD Try.prog 14 #[.pointer (some ⟨g2, 0, none⟩), .pointer (some ⟨g3, 0, none⟩), .pointer (some ⟨g4, 0, none⟩)] (.panicking [{ v := .iface 40 (.agg #[.int .i64 x, .int .i64 a]), recovered := false }]) w fun e u' w' =>
      e = .returned (.tuple #[]) ∧ u' = .panicking [{ v := .iface 40 (.agg #[.int .i64 x, .int .i64 a]), recovered := true }] ∧ Caught w B g2 g3 g4 x a w' := by
  refine callsD_of_wpS Try.func14 rfl fun c₀ cs hu => ?_
  apply wpS_seq
  apply wpS_region
  simp [wpOpsS, go_sem, recoverD, hu, Try.ntmps14, Exit.thenS]
  apply wpS_seq
  apply wpS_region
  simp [wpOpsS, go_sem, Exit.thenS]
  refine wpS_cond (t := true) (by simp [Act.eval, Array.replicate]) ?_
  simp only [if_true]
  apply wpS_seq
  apply wpS_region
  simp [wpOpsS, go_sem, Exit.thenS, ta_yes]
  refine wpS_of_wp ?_
  have hl2 := blk_lt h2
  have hl3 := blk_lt h3
  have hl4 := blk_lt h4
  have s0 : (w.alloc (.cells #[.int .i64 x, .int .i64 a] 40)).cell? ⟨w.heap.size, 0, none⟩ = some (.int .i64 x) := blk_cell (blk_new _ _) 0
  have s1 : (w.alloc (.cells #[.int .i64 x, .int .i64 a] 40)).cell? ⟨w.heap.size, 1, none⟩ = some (.int .i64 a) := blk_cell (blk_new _ _) 1
  have b2 : (w.alloc (.cells #[.int .i64 x, .int .i64 a] 40)).heap[g2]? = some (.cells #[v2] 24 (0, 0)) := ((below_alloc (Below.refl w.heap.size w) _).block g2 hl2).trans h2
  have b3 : (w.alloc (.cells #[.int .i64 x, .int .i64 a] 40)).heap[g3]? = some (.cells #[v3] 3 (0, 0)) := ((below_alloc (Below.refl w.heap.size w) _).block g3 hl3).trans h3
  have b4 : (w.alloc (.cells #[.int .i64 x, .int .i64 a] 40)).heap[g4]? = some (.cells #[v4] 25 (0, 0)) := ((below_alloc (Below.refl w.heap.size w) _).block g4 hl4).trans h4
  have n23 := blk_ne b2 b3 (by decide)
  have n24 := blk_ne b2 b4 (by decide)
  have n34 := blk_ne b3 b4 (by decide)
  have c2 := blk_cell b2 0
  have c3 := blk_cell b3 0
  have c4 := blk_cell b4 0
  have f2 := blk_frozen b2 0
  have f3 := blk_frozen b3 0
  have f4 := blk_frozen b4 0
  have e2 : g2 ≠ w.heap.size := by omega
  have e3 : g3 ≠ w.heap.size := by omega
  have e4 : g4 ≠ w.heap.size := by omega
  simp at c2 c3 c4
  have HC := Aside0.mk (caught_of (x := x) (a := a) b2 b3 b4 n23 n24 n34 l2 l3 l4 ((Below.refl B w).alloc (by omega) (.cells #[.int .i64 x, .int .i64 a] 40)))
  generalize w.heap.size = N at s0 s1 e2 e3 e4
  generalize w.alloc (.cells #[.int .i64 x, .int .i64 a] 40) = W1 at s0 s1 b2 b3 b4 c2 c3 c4 f2 f3 f4 HC
  clear b2 b3 b4 h2 h3 h4 hl2 hl3 hl4
  go_region
  all_goals
    exact ⟨rfl, _, rfl, _, results_none rfl _ _ _, rfl, rfl, HC.out⟩
theorem catch_idle (w : World) (g2 g3 g4 : Nat) :
    CallsD Try.prog 14 #[.pointer (some ⟨g2, 0, none⟩), .pointer (some ⟨g3, 0, none⟩), .pointer (some ⟨g4, 0, none⟩)] .returning w fun e u' w' => e = .returned (.tuple #[]) ∧ u' = .returning ∧ w' = w := by
  refine callsD_of_wpS Try.func14 rfl fun c₀ cs hu => ?_
  apply wpS_seq
  apply wpS_region
  simp [wpOpsS, go_sem, recoverD, hu, Try.ntmps14, Exit.thenS]
  apply wpS_seq
  apply wpS_region
  simp [wpOpsS, go_sem, Exit.thenS]
  refine wpS_cond (t := false) (by simp [Act.eval, Array.replicate]) ?_
  simp only [Bool.false_eq_true, if_false]
  refine wpS_of_wp (wp_skip ?_)
  cases c₀
  simp_all [bodyPostS, results, Try.results14]
set_option maxHeartbeats 16000000 in
theorem read_calls (A : Option Addr) (c : Nat) (p : List Int) (w : World) (hR : (Kd.int .u8).C w A p.length p) (hb : ByteL p) (hn : p.length ≤ 100000) (hc : p.length ≤ c) :
    Calls Try.prog 11 #[.slice A p.length c] w fun e w' => ∃ v, e = .returned (.tuple #[v, .int .i64 (readP p).2.1, .int .i64 (readP p).2.2]) ∧ Kd.R tokK 33 w' w.heap.size (fun _ => True) v (readP p).1 ∧ Below w.heap.size w w' := by
  have hmf : ∀ (fn : Fn) (first cap : Array Value) (w : World), (Instr.makeFunc fn first cap).run Try.prog w = .ok (.func fn first cap) w := fun _ _ _ _ => rfl
  obtain ⟨V, hV⟩ : ∃ V, V = readP p := ⟨_, rfl⟩
  rw [← hV]
  obtain ⟨W3, hW3⟩ : ∃ W3, W3 = ((w.alloc (.cells #[.slice none 0 0] 24)).alloc (.cells #[.int .i64 0] 3)).alloc (.cells #[.int .i64 0] 25) := ⟨_, rfl⟩
  have hsz : W3.heap.size = w.heap.size + 1 + 1 + 1 := by rw [hW3]; simp
  have hb3 : Below w.heap.size w W3 := by rw [hW3]; exact (((Below.refl _ _).alloc (by omega) _).alloc (by simp) _).alloc (by simp; omega) _
  have hT : Txt W3 A c p := ⟨Kd.C_below hR hb3, hb, hn, hc⟩
  have h2 : W3.heap[w.heap.size]? = some (.cells #[.slice none 0 0] 24 (0, 0)) := by rw [hW3]; exact blk_old (blk_old (blk_new w _) _) _
  have h3 : W3.heap[w.heap.size + 1]? = some (.cells #[.int .i64 0] 3 (0, 0)) := by
    have := blk_old (blk_new (w.alloc (.cells #[.slice none 0 0] 24)) (.cells #[.int .i64 0] 3)) (.cells #[.int .i64 0] 25)
    rw [show (w.alloc (.cells #[.slice none 0 0] 24)).heap.size = w.heap.size + 1 by simp] at this
    rw [hW3]; exact this
  have h4 : W3.heap[w.heap.size + 1 + 1]? = some (.cells #[.int .i64 0] 25 (0, 0)) := by
    have := blk_new ((w.alloc (.cells #[.slice none 0 0] 24)).alloc (.cells #[.int .i64 0] 3)) (.cells #[.int .i64 0] 25)
    rw [show ((w.alloc (.cells #[.slice none 0 0] 24)).alloc (.cells #[.int .i64 0] 3)).heap.size = w.heap.size + 1 + 1 by simp] at this
    rw [hW3]; exact this
  have hm0 : St W3 (W3.alloc (.cells #[.slice A p.length c, .int .i64 0, .slice none 0 0, .int .i64 0] 38)) W3.heap.size A c p 0 [] 0 := ⟨⟨Nat.le_refl _, .slice none 0 0, blk_new _ _, Kd.R_nil _ _ _ _ _⟩, below_alloc (Below.refl _ _) _, by omega⟩
  have hone := (all_calls W3 W3.heap.size A c p hT (5 * p.length + 9)).1 _ 0 0 [] hm0 (by simp) (by omega) (by omega)
  have HPS := Aside0.mk (show JSimc.post p 0 (valueP p (5 * p.length + 9) 0 0 []) from ((JSimc.parse_spec p (5 * p.length + 9)).1 [] 0 [] (by omega) (by simp) (by omega)).2)
  unfold readP at hV
  generalize valueP p (5 * p.length + 9) 0 0 [] = o at hone hV HPS
  rw [hW3] at hone
  have e3 : (((w.alloc (.cells #[.slice none 0 0] 24)).alloc (.cells #[.int .i64 0] 3)).alloc (.cells #[.int .i64 0] 25)).heap.size = w.heap.size + 1 + 1 + 1 := by simp
  rw [e3] at hone
  have HONE := Aside0.mk hone
  have HV := Aside0.mk hV
  have H2 := Aside0.mk h2
  have H3 := Aside0.mk h3
  have H4 := Aside0.mk h4
  have HSZ := Aside0.mk hsz
  have HT := Aside0.mk hT
  have HB3 := Aside0.mk hb3
  have HW3 := Aside0.mk hW3
  clear hR hb hc hone hV h2 h3 h4 hsz hT hb3 e3 hm0 hW3
  go_enter_defers Try.func11, Try.ntmps11
  go_wp2_with fail
  refine HONE.out.mono ?_
  rintro e w4 hpost
  clear HONE
  cases o with
  | stop x a =>
    obtain ⟨he_, hb_⟩ := hpost
    unfold stopE at he_
    subst he_
    rw [← HW3.out] at hb_
    have HB4 := Aside0.mk hb_
    clear hb_
    go_wp2_with fail
    have b2 := (HB4.out.block _ (blk_lt H2.out)).trans H2.out
    have b3 := (HB4.out.block _ (blk_lt H3.out)).trans H3.out
    have b4 := (HB4.out.block _ (blk_lt H4.out)).trans H4.out
    refine leaves_cons (f := 14) (args := #[.pointer (some ⟨w.heap.size, 0, none⟩), .pointer (some ⟨w.heap.size + 1, 0, none⟩), .pointer (some ⟨w.heap.size + 1 + 1, 0, none⟩)]) (by simp) (by simp [go_sem]) ?_
    refine (catch_panicking w.heap.size w.heap.size (w.heap.size + 1) (w.heap.size + 1 + 1) x (a : Int) w4 _ _ _ b2 b3 b4 (by omega) (by omega) (by omega)).mono ?_
    rintro e u' w5 ⟨rfl, rfl, d2, d3, d4, db⟩
    have c2 := blk_cell d2 0
    have c3 := blk_cell d3 0
    have c4 := blk_cell d4 0
    simp at c2 c3 c4
    have HE := Aside0.mk (show V = ([], (a : Int), x) from HV.out)
    have HD := Aside0.mk ((HB3.out.trans (HB4.out.mono (by have := HSZ.out; omega))).trans db)
    clear d2 d3 d4 db b2 b3 b4
    simp [Leaves, settle, results, Try.results11, go_sem, c2, c3, c4]
    exact ⟨_, ⟨rfl, by rw [HE.out], by rw [HE.out]⟩, by rw [HE.out]; exact Kd.R_nil _ _ _ _ _, HD.out⟩
  | ok b l =>
    obtain ⟨rfl, hm_⟩ := hpost
    rw [← HW3.out] at hm_
    obtain ⟨x1, x2, x3⟩ := HPS.out
    have hbl := blanks_calls W3 w4 (w.heap.size + 1 + 1 + 1) A c p b l 0 HT.out hm_
    have hs := JSim.skip_le p b x2
    have hv := HV.out
    simp only at hv
    generalize skip p b = k at hbl hs hv
    have HBL := Aside0.mk hbl
    have HVV := Aside0.mk hv
    clear hm_ hbl hv
    go_wp2_with fail
    refine HBL.out.mono ?_
    rintro e w5 ⟨rfl, hm_⟩
    have HM5 := Aside0.mk hm_
    have HB5 := Aside0.mk hm_.bel
    have c1 := hm_.c1
    clear hm_ HBL
    have hk1 : (k : Int) ≤ 100000 := by omega
    have b2 := (HB5.out.block _ (blk_lt H2.out)).trans H2.out
    have b3 := (HB5.out.block _ (blk_lt H3.out)).trans H3.out
    have b4 := (HB5.out.block _ (blk_lt H4.out)).trans H4.out
    have HBL2 := Aside0.mk b2
    have HBL3 := Aside0.mk b3
    have HBL4 := Aside0.mk b4
    clear b2 b3 b4
    by_cases hlt : k < p.length
    · have hlt' : decide ((k : Int) < (p.length : Int)) = true := decide_eq_true (by omega)
      have hv := HVV.out
      rw [if_pos hlt] at hv
      have HE := Aside0.mk hv
      clear hv
      go_wp2_with fail
      refine (fail_calls W3 _ (w.heap.size + 1 + 1 + 1) _ _ _ _ l 0 HM5.out).mono ?_
      rintro e w6 ⟨he_, rfl⟩
      unfold stopE at he_
      subst he_
      go_wp2_with fail
      refine leaves_cons (f := 14) (args := #[.pointer (some ⟨w.heap.size, 0, none⟩), .pointer (some ⟨w.heap.size + 1, 0, none⟩), .pointer (some ⟨w.heap.size + 1 + 1, 0, none⟩)]) (by simp) (by simp [go_sem]) ?_
      refine (catch_panicking w.heap.size w.heap.size (w.heap.size + 1) (w.heap.size + 1 + 1) 5 (k : Int) w5 _ _ _ HBL2.out HBL3.out HBL4.out (by omega) (by omega) (by omega)).mono ?_
      rintro e u' w7 ⟨rfl, rfl, d2, d3, d4, db⟩
      have c2 := blk_cell d2 0
      have c3 := blk_cell d3 0
      have c4 := blk_cell d4 0
      simp at c2 c3 c4
      have HD := Aside0.mk ((HB3.out.trans (HB5.out.mono (by have := HSZ.out; omega))).trans db)
      clear d2 d3 d4 db
      simp [Leaves, settle, results, Try.results11, go_sem, c2, c3, c4]
      exact ⟨_, ⟨rfl, by rw [HE.out], by rw [HE.out]⟩, by rw [HE.out]; exact Kd.R_nil _ _ _ _ _, HD.out⟩
    · have hlt' : decide ((k : Int) < (p.length : Int)) = false := decide_eq_false (by omega)
      have hlt2 : decide (k < p.length) = false := decide_eq_false hlt
      have hv := HVV.out
      rw [if_neg hlt] at hv
      have HE := Aside0.mk hv
      clear hv
      obtain ⟨⟨hg, v, hblk, hr⟩, _, _⟩ := HM5.out
      have cv : w5.cell? ⟨w.heap.size + 1 + 1 + 1, 2, none⟩ = some v := blk_cell hblk 2
      obtain ⟨A5, q5, e5, hle5, hC5⟩ := Kd.R_reads hr
      subst e5
      have HR5 := Aside0.mk (Kd.R_lower hr (show w.heap.size ≤ W3.heap.size by have := HSZ.out; omega))
      have c2 := blk_cell HBL2.out 0
      have c3 := blk_cell HBL3.out 0
      have c4 := blk_cell HBL4.out 0
      have f2 := blk_frozen HBL2.out 0
      have f3 := blk_frozen HBL3.out 0
      have f4 := blk_frozen HBL4.out 0
      simp at c2 c3 c4
      clear hg hblk hr hle5 hC5
      go_wp2_with fail
      have t2 : ∀ q, q ∈ 33 :: tokK.E → q ≠ 24 := by intro q hq e; subst e; simp [tokK, Kd.pair, Kd.int, Kd.scalar] at hq
      have t3 : ∀ q, q ∈ 33 :: tokK.E → q ≠ 3 := by intro q hq e; subst e; simp [tokK, Kd.pair, Kd.int, Kd.scalar] at hq
      have t4 : ∀ q, q ∈ 33 :: tokK.E → q ≠ 25 := by intro q hq e; subst e; simp [tokK, Kd.pair, Kd.int, Kd.scalar] at hq
      have n23 : w.heap.size ≠ w.heap.size + 1 := by omega
      have n24 : w.heap.size ≠ w.heap.size + 1 + 1 := by omega
      have n34 : w.heap.size + 1 ≠ w.heap.size + 1 + 1 := by omega
      have d2 := blk_put HBL2.out 0 (.slice A5 l.length q5) rfl
      have r2 := Kd.R_set HR5.out HBL2.out t2 0 (.slice A5 l.length q5)
      have d3 := blk_far (p := ⟨w.heap.size, 0, none⟩) HBL3.out n23.symm (.slice A5 l.length q5)
      have d4 := blk_far (p := ⟨w.heap.size, 0, none⟩) HBL4.out n24.symm (.slice A5 l.length q5)
      have l5 := below_set (j := 0) (v := .slice A5 l.length q5) (below_then HB3.out HB3.out.size HB5.out) (Nat.le_refl w.heap.size)
      generalize w5.setCell ⟨w.heap.size, 0, none⟩ (.slice A5 l.length q5) = w6 at d2 d3 d4 r2 l5
      have k2 := blk_far (p := ⟨w.heap.size + 1, 0, none⟩) d2 n23 (.int .i64 0)
      have k3 := blk_put d3 0 (.int .i64 0) rfl
      have k4 := blk_far (p := ⟨w.heap.size + 1, 0, none⟩) d4 n34.symm (.int .i64 0)
      have r3 := Kd.R_set r2 d3 t3 0 (.int .i64 0)
      have l6 := below_set (j := 0) (v := .int .i64 0) l5 (show w.heap.size ≤ w.heap.size + 1 by omega)
      generalize w6.setCell ⟨w.heap.size + 1, 0, none⟩ (.int .i64 0) = w7 at k2 k3 k4 r3 l6
      have m2 := blk_far (p := ⟨w.heap.size + 1 + 1, 0, none⟩) k2 n24 (.int .i64 0)
      have m3 := blk_far (p := ⟨w.heap.size + 1 + 1, 0, none⟩) k3 n34 (.int .i64 0)
      have m4 := blk_put k4 0 (.int .i64 0) rfl
      have r4 := Kd.R_set r3 k4 t4 0 (.int .i64 0)
      have l7 := below_set (j := 0) (v := .int .i64 0) l6 (show w.heap.size ≤ w.heap.size + 1 + 1 by omega)
      generalize w7.setCell ⟨w.heap.size + 1 + 1, 0, none⟩ (.int .i64 0) = w8 at m2 m3 m4 r4 l7
      refine leaves_cons (f := 14) (args := #[.pointer (some ⟨w.heap.size, 0, none⟩), .pointer (some ⟨w.heap.size + 1, 0, none⟩), .pointer (some ⟨w.heap.size + 1 + 1, 0, none⟩)]) (by simp) (by simp [go_sem]) ?_
      refine (catch_idle w8 w.heap.size (w.heap.size + 1) (w.heap.size + 1 + 1)).mono ?_
      rintro e u' w9 ⟨rfl, rfl, hw9⟩
      subst hw9
      have z2 := m2
      have z3 := m3
      have z4 := m4
      have r5 := r4
      have l8 := l7
      have c2 := blk_cell z2 0
      have c3 := blk_cell z3 0
      have c4 := blk_cell z4 0
      simp at c2 c3 c4
      have HR9 := Aside0.mk (Kd.R_mono r5 (ok' := fun _ => True) (fun _ _ => trivial))
      have HL9 := Aside0.mk l8
      clear z2 z3 z4 r2 r3 r4 r5 l5 l6 l7 l8 m2 m3 m4 k2 k3 k4 d2 d3 d4 t2 t3 t4 n23 n24 n34 f2 f3 f4
      simp [Leaves, settle, results, Try.results11, go_sem, c2, c3, c4]
      exact ⟨_, ⟨rfl, by rw [HE.out], by rw [HE.out]⟩, by rw [HE.out]; exact HR9.out, HL9.out⟩
/-- The same, told by the reference's machine. -/
theorem jread_calls (A : Option Addr) (c : Nat) (p : List Int) (w : World) (hR : (Kd.int .u8).C w A p.length p) (hb : ByteL p) (hn : p.length ≤ 100000) (hc : p.length ≤ c) :
    Calls Try.prog 11 #[.slice A p.length c] w fun e w' => ∃ v, e = .returned (.tuple #[v, .int .i64 (mread p).2.1, .int .i64 (mread p).2.2]) ∧ Kd.R tokK 33 w' w.heap.size (fun _ => True) v (mread p).1 ∧ Below w.heap.size w w' := by
  rw [← JSimc.readP_mread]; exact read_calls A c p w hR hb hn hc
end Go.Proofs.Ytdgdnccpginclaa.JRead
