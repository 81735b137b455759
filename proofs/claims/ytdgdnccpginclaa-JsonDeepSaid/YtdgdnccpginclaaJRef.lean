/- Proved: the reference's Read of layer 8 (12) answers what the plain function mread tells. -/
import Derived.Test.YtdgdnccpginclaaJMf
import Derived.Test.YtdgdnccpginclaaJInv
import Derived.Deep.CutRange
namespace Go.Proofs.Ytdgdnccpginclaa.JRef
open Go.RowKit Go.Proofs.YtdgdnccpginclaaW.PrintWords Go.Proofs.YtdgdnccpginclaaW.PrintLast Go.Proofs.YtdgdnccpginclaaW.PrintMore
open Go.Proofs.Ytdgdnccpginclaa.JDefs Go.Proofs.Ytdgdnccpginclaa.JBase Go.Proofs.Ytdgdnccpginclaa.JMem Go.Proofs.Ytdgdnccpginclaa.JMr Go.Proofs.Ytdgdnccpginclaa.JMs Go.Proofs.Ytdgdnccpginclaa.JMn Go.Proofs.Ytdgdnccpginclaa.JMi Go.Proofs.Ytdgdnccpginclaa.JMf Go.Proofs.Ytdgdnccpginclaa.JInv
set_option linter.unusedVariables false
set_option linter.unusedSimpArgs false
set_option maxHeartbeats 8000000
set_option maxRecDepth 100000

theorem mgo_cons (m : Mach) (c : Int) (cs : List Int) (i : Int) : mgo m (c :: cs) i = if (mfeed m c i).2 = 0 then mgo (mfeed m c i).1 cs (i + 1) else ((mfeed m c i).1, i, (mfeed m c i).2) := by rw [mgo]
theorem mgo_nil (m : Mach) (i : Int) : mgo m [] i = (m, i, 0) := by rw [mgo]
theorem drop_at (l : List Int) (i : Nat) (h : i < l.length) : l.drop i = l.getD i 0 :: l.drop (i + 1) := by
  rw [List.drop_eq_getElem_cons h]; congr 1; rw [List.getD_eq_getElem?_getD, List.getElem?_eq_getElem h]; rfl
set_option maxHeartbeats 16000000 in
theorem refread_calls (A : Option Addr) (c : Nat) (p : List Int) (w : World) (hR : (Kd.int .u8).C w A p.length p) (hb : ByteL p) (hn : p.length ≤ 100000) :
    Calls Try.prog 12 #[.slice A p.length c] w fun e w' => ∃ v, e = .returned (.tuple #[v, .int .i64 (mread p).2.1, .int .i64 (mread p).2.2]) ∧ Kd.R tokK 33 w' w.heap.size (fun _ => True) v (mread p).1 ∧ Below w.heap.size w w' := by
  have HR := Aside0.mk hR
  have HBY := Aside0.mk hb
  obtain ⟨V, hV⟩ : ∃ V, V = mread p := ⟨_, rfl⟩
  rw [← hV]
  have HV := Aside0.mk hV
  have hm0 : Mt w (w.alloc (.cells #[.int .u8 0, .slice none 0 0, .int .i64 0, .bool false, .string ⟨#[]⟩, .int .i64 0, .slice none 0 0] 43)) w.heap.size m0 := ⟨⟨Nat.le_refl _, .slice none 0 0, .slice none 0 0, blk_new _ _, Kd.R_nil _ _ _ _ _, Kd.R_nil _ _ _ _ _⟩, below_alloc (Below.refl _ _) _⟩
  have HM := Aside0.mk hm0
  clear hR hb hV hm0
  go_enter Try.func12, Try.ntmps12
  go_wp2_with fail
  go_loopg [6] p.length (fun kq v6 w' => ∃ (m : Mach) (i : Int), v6 = .int .i64 i ∧ Aside0 (i = (p.length : Int) - kq ∧ 0 ≤ i) ∧ Aside0 (Iv m i (2 * i)) ∧ Aside0 (mgo m0 p 0 = mgo m (p.drop i.toNat) i) ∧ Aside0 (Mt w w' w.heap.size m))
  case atStart => exact ⟨m0, 0, rfl, ⟨by omega, by omega⟩, ⟨iv_zero⟩, ⟨rfl⟩, HM⟩
  case round =>
    clear HM
    obtain ⟨m, i0, rfl, HI, HINV, HGO, HM⟩ := hrel
    obtain ⟨i, rfl⟩ := Int.eq_ofNat_of_zero_le HI.out.2
    rw [Int.toNat_natCast] at HGO
    have hil : i ≤ p.length := by have := HI.out; omega
    by_cases hlt : i < p.length
    · have hlt' : decide ((i : Int) < (p.length : Int)) = true := decide_eq_true (by omega)
      obtain ⟨ad, ea, hx⟩ := at_nat HR.out i hlt
      cases ea
      replace hx := (HM.out.2.cell (World.block_lt_of_cell? w _ hx)).trans hx
      have hbx := HBY.out (p.getD i 0) (by rw [List.getD_eq_getElem?_getD, List.getElem?_eq_getElem hlt]; simp)
      have hgo := HGO.out
      rw [drop_at p i hlt] at hgo
      generalize hcv : p.getD i 0 = x at hx hbx hgo
      clear hcv
      rw [mgo_cons] at hgo
      have hfeed := feed_calls w wr w.heap.size m x (i : Int) HM.out (by have := HINV.out.len; omega) (by have := HINV.out.sk; omega) HINV.out.f0 HINV.out.f1 (by omega) hbx.1 hbx.2 HINV.out.lf HINV.out.c0 HINV.out.c1
      have hinv := iv_feed HINV.out x (by omega)
      generalize hr : mfeed m x (i : Int) = r at hfeed hinv hgo
      clear hr hbx
      have HFE := Aside0.mk hfeed
      have HIN := Aside0.mk hinv
      have HLT := Aside0.mk hlt
      have p1 : ((i : Int) < (p.length : Int)) = True := eq_true (by omega)
      by_cases hz : r.2 = 0
      · rw [if_pos hz] at hgo
        have hzn : (r.2 != 0) = false := by rw [hz]; rfl
        have HGO2 := Aside0.mk hgo
        clear hgo hfeed hinv hz
        go_wp2_with (go_at_call 18; refine HFE.out.mono ?_; rintro e w_ ⟨rfl, hm_⟩; have HM2 := Aside0.mk hm_; clear hm_)
        go_roundg (p.length - (i + 1))
        case measure => have := HI.out; have := HLT.out; omega
        case rel => exact ⟨r.1, (i : Int) + 1, by go_num, ⟨by have := HLT.out; omega, by omega⟩, HIN, ⟨by rw [show ((i : Int) + 1).toNat = i + 1 by omega]; exact HGO2.out⟩, HM2⟩
      · rw [if_neg hz] at hgo
        have hzn : (r.2 != 0) = true := by rw [bne_iff_ne]; exact hz
        have HE := Aside0.mk (show V = ([], (i : Int), r.2) by rw [HV.out]; unfold mread; rw [hgo, if_neg hz])
        clear hgo hfeed hinv hz
        go_wp2_with (go_at_call 18; refine HFE.out.mono ?_; rintro e w_ ⟨rfl, hm_⟩; have HM2 := Aside0.mk hm_; clear hm_)
        go_ret3
        exact ⟨_, by rw [HE.out]; rfl, by rw [HE.out]; exact Kd.R_nil _ _ _ _ _, HM2.out.2⟩
    · have hlt' : decide ((i : Int) < (p.length : Int)) = false := decide_eq_false (by omega)
      have hlt2 : decide (i < p.length) = false := decide_eq_false hlt
      have e : i = p.length := by omega
      subst e
      have hgo := HGO.out
      rw [List.drop_length, mgo_nil] at hgo
      have HV2 := Aside0.mk (show V = mend m p.length by rw [HV.out]; unfold mread; rw [hgo, if_pos rfl])
      have c0 := HM.out.1.c0
      clear hgo
      obtain ⟨b, hb⟩ : ∃ b, b = endsB m.st := ⟨_, rfl⟩
      have hec : ∀ w, Calls Try.prog 19 #[.int .u8 m.st] w fun e w' => e = .returned (.bool b) ∧ w = w' := fun w => by rw [hb]; exact ends_calls w m.st
      have HEC := Aside0.mk hec
      clear hec
      cases b
      · have HL2 := Aside0.mk (show mlast m p.length = m by unfold mlast; rw [if_neg (by rw [← hb]; decide)])
        clear hb
        by_cases s5 : m.st = 5
        · have t5 : (m.st != 5) = false := by rw [s5]; rfl
          by_cases hk : m.stack = []
          · have HE := Aside0.mk (show V = (m.l, 0, 0) by rw [HV2.out]; unfold mend; rw [HL2.out, if_pos ⟨s5, hk⟩])
            obtain ⟨hgg, sv, vv, hblk, hst, hrow⟩ := HM.out.1
            rw [hk] at hst
            obtain ⟨A3, c3_, e3_, hle3_, hC3_⟩ := Kd.R_reads hst
            subst e3_
            obtain ⟨A4, c4, e4_, hle4_, hC4_⟩ := Kd.R_reads hrow
            subst e4_
            have hc1 : wr.cell? ⟨w.heap.size, 1, none⟩ = some (.slice A3 0 c3_) := blk_cell hblk 1
            have hc6 : wr.cell? ⟨w.heap.size, 6, none⟩ = some (.slice A4 m.l.length c4) := blk_cell hblk 6
            have HROW := Aside0.mk hrow
            clear hgg hblk hle4_ hC4_ hrow hst hle3_ hC3_ hk s5
            go_wp2_with (go_at_call 19; refine (HEC.out _).mono ?_; rintro e w_ ⟨rfl, rfl⟩)
            go_ret3
            exact ⟨_, by rw [HE.out]; rfl, by rw [HE.out]; exact HROW.out, HM.out.2⟩
          · have HE := Aside0.mk (show V = ([], (p.length : Int), 5) by rw [HV2.out]; unfold mend; rw [HL2.out, if_neg (fun h => hk h.2)])
            obtain ⟨hgg, sv, vv, hblk, hst, hrow⟩ := HM.out.1
            obtain ⟨A3, c3_, e3_, hle3_, hC3_⟩ := Kd.R_reads hst
            subst e3_
            have hc1 : wr.cell? ⟨w.heap.size, 1, none⟩ = some (.slice A3 m.stack.length c3_) := blk_cell hblk 1
            have hgt : decide ((0 : Int) < (m.stack.length : Int)) = true := decide_eq_true (by have := List.length_pos_iff.2 hk; omega)
            have hgt3 : decide (0 < m.stack.length) = true := decide_eq_true (List.length_pos_iff.2 hk)
            have hgt2 : decide ((m.stack.length : Int) > 0) = true := hgt
            clear hgg hblk hrow hst hle3_ hC3_ hk s5
            go_wp2_with (go_at_call 19; refine (HEC.out _).mono ?_; rintro e w_ ⟨rfl, rfl⟩)
            go_ret3
            exact ⟨_, by rw [HE.out]; rfl, by rw [HE.out]; exact Kd.R_nil _ _ _ _ _, HM.out.2⟩
        · have t5 : (m.st != 5) = true := by rw [bne_iff_ne]; exact s5
          have HE := Aside0.mk (show V = ([], (p.length : Int), 5) by rw [HV2.out]; unfold mend; rw [HL2.out, if_neg (fun h => s5 h.1)])
          clear s5
          go_wp2_with (go_at_call 19; refine (HEC.out _).mono ?_; rintro e w_ ⟨rfl, rfl⟩)
          go_ret3
          exact ⟨_, by rw [HE.out]; rfl, by rw [HE.out]; exact Kd.R_nil _ _ _ _ _, HM.out.2⟩
      · have HL2 := Aside0.mk (show mlast m p.length = matom m p.length by unfold mlast; rw [if_pos hb.symm])
        clear hb
        go_wp2_with (go_at_call 19; refine (HEC.out _).mono ?_; rintro e w_ ⟨rfl, rfl⟩)
        refine (atom_calls w _ w.heap.size m p.length HM.out (by have := HINV.out.len; omega) HINV.out.f0 HINV.out.f1 (by omega)).mono ?_
        rintro e w_ ⟨rfl, hm_⟩
        obtain ⟨m2, hm2⟩ : ∃ m2, m2 = matom m p.length := ⟨_, rfl⟩
        rw [← hm2] at hm_ HL2
        have HSTK := Aside0.mk (show m2.stack = m.stack by rw [hm2]; rfl)
        have H4 := Aside0.mk hm_
        clear hm_ c0 hm2
        have c0 := H4.out.1.c0
        by_cases s5 : m2.st = 5
        · have t5 : (m2.st != 5) = false := by rw [s5]; rfl
          by_cases hk : m2.stack = []
          · have HE := Aside0.mk (show V = (m2.l, 0, 0) by rw [HV2.out]; unfold mend; rw [HL2.out, if_pos ⟨s5, (HSTK.out.symm.trans hk)⟩])
            obtain ⟨hgg, sv, vv, hblk, hst, hrow⟩ := H4.out.1
            rw [hk] at hst
            obtain ⟨A3, c3_, e3_, hle3_, hC3_⟩ := Kd.R_reads hst
            subst e3_
            obtain ⟨A4, c4, e4_, hle4_, hC4_⟩ := Kd.R_reads hrow
            subst e4_
            have hc1 : w_.cell? ⟨w.heap.size, 1, none⟩ = some (.slice A3 0 c3_) := blk_cell hblk 1
            have hc6 : w_.cell? ⟨w.heap.size, 6, none⟩ = some (.slice A4 m2.l.length c4) := blk_cell hblk 6
            have HROW := Aside0.mk hrow
            clear hgg hblk hle4_ hC4_ hrow hst hle3_ hC3_ hk s5
            go_wp2_with fail
            go_ret3
            exact ⟨_, by rw [HE.out]; rfl, by rw [HE.out]; exact HROW.out, H4.out.2⟩
          · have HE := Aside0.mk (show V = ([], (p.length : Int), 5) by rw [HV2.out]; unfold mend; rw [HL2.out, if_neg (fun h => hk (HSTK.out.trans h.2))])
            obtain ⟨hgg, sv, vv, hblk, hst, hrow⟩ := H4.out.1
            obtain ⟨A3, c3_, e3_, hle3_, hC3_⟩ := Kd.R_reads hst
            subst e3_
            have hc1 : w_.cell? ⟨w.heap.size, 1, none⟩ = some (.slice A3 m2.stack.length c3_) := blk_cell hblk 1
            have hgt : decide ((0 : Int) < (m2.stack.length : Int)) = true := decide_eq_true (by have := List.length_pos_iff.2 hk; omega)
            have hgt3 : decide (0 < m2.stack.length) = true := decide_eq_true (List.length_pos_iff.2 hk)
            have hgt2 : decide ((m2.stack.length : Int) > 0) = true := hgt
            clear hgg hblk hrow hst hle3_ hC3_ hk s5
            go_wp2_with fail
            go_ret3
            exact ⟨_, by rw [HE.out]; rfl, by rw [HE.out]; exact Kd.R_nil _ _ _ _ _, H4.out.2⟩
        · have t5 : (m2.st != 5) = true := by rw [bne_iff_ne]; exact s5
          have HE := Aside0.mk (show V = ([], (p.length : Int), 5) by rw [HV2.out]; unfold mend; rw [HL2.out, if_neg (fun h => s5 h.1)])
          clear s5
          go_wp2_with fail
          go_ret3
          exact ⟨_, by rw [HE.out]; rfl, by rw [HE.out]; exact Kd.R_nil _ _ _ _ _, H4.out.2⟩
end Go.Proofs.Ytdgdnccpginclaa.JRef
