/- Proved: the reference's Read of layer 9, called with at most 100000 bytes, answers what the plain function mread tells, its tokens in a list of its own, and leaves old memory as it was. -/
import Derived.Test.YtfflfadfalacgaaSPlain
namespace Go.Proofs.Ytfflfadfalacgaa.SRef
open Go.RowKit Go.Proofs.YtfflfadfalacgaaW.PrintWords Go.Proofs.YtfflfadfalacgaaW.PrintLast Go.Proofs.YtfflfadfalacgaaW.PrintMore Go.Proofs.Ytfflfadfalacgaa.SMem Go.Proofs.Ytfflfadfalacgaa.SPlain
set_option linter.unusedVariables false
set_option linter.unusedSimpArgs false
def ByteL (p : List Int) : Prop := ∀ x ∈ p, 0 ≤ x ∧ x ≤ 255
theorem at_nat {k : IntKind} {w : World} {A : Option Addr} {n : Nat} {xs : List Int} (h : (Kd.int k).C w A n xs) (i : Nat) (h1 : i < n) : ∃ ad, A = some ad ∧ w.cell? (ad.add i) = some (.int k (xs.getD i 0)) := by
  obtain ⟨ad, e, hc⟩ := Kd.at_int h (i : Int) (by omega) (by omega)
  rw [show rd xs (i : Int) = xs.getD i 0 from by unfold rd; rw [Int.toNat_natCast], Int.toNat_natCast] at hc
  exact ⟨ad, e, hc⟩
theorem drop_at (l : List Int) (i : Nat) (h : i < l.length) : l.drop i = l.getD i 0 :: l.drop (i + 1) := by
  rw [List.drop_eq_getElem_cons h]; congr 1; rw [List.getD_eq_getElem?_getD, List.getElem?_eq_getElem h]; rfl
set_option maxHeartbeats 8000000 in
set_option maxRecDepth 100000 in
theorem refread_calls (A : Option Addr) (c : Nat) (p : List Int) (w : World) (hR : (Kd.int .u8).C w A p.length p) (hb : ByteL p) (hn : p.length ≤ 100000) :
    Calls Try.prog 12 #[.slice A p.length c] w fun e w' => ∃ v, e = .returned (.tuple #[v, .int .i64 (mread p).2.1, .int .i64 (mread p).2.2]) ∧ Kd.R tokK 34 w' w.heap.size (fun _ => True) v (mread p).1 ∧ Below w.heap.size w w' := by
  have HR := Aside0.mk hR
  have HBY := Aside0.mk hb
  obtain ⟨V, hV⟩ : ∃ V, V = mread p := ⟨_, rfl⟩
  rw [← hV]
  have HV := Aside0.mk hV
  obtain ⟨g, hg⟩ : ∃ g, g = w.heap.size := ⟨_, rfl⟩
  have HG := Aside0.mk hg
  have hm0 : MS (w.alloc (.cells #[.int .u8 0, .int .i64 0, .int .i64 0, .slice none 0 0] 45)) w.heap.size w.heap.size m0 := ⟨Nat.le_refl _, .slice none 0 0, blk_new _ _, Kd.R_nil _ _ _ _ _⟩
  have HM := Aside0.mk hm0
  have HB := Aside0.mk (show Below w.heap.size w (w.alloc (.cells #[.int .u8 0, .int .i64 0, .int .i64 0, .slice none 0 0] 45)) from below_alloc (Below.refl _ _) _)
  clear hR hb hV hg hm0
  go_enter Try.func12, Try.ntmps12
  go_wp2
  go_loopg [6] p.length (fun kq v6 w' => ∃ (m : Mach) (i : Int), v6 = .int .i64 i ∧ Aside0 (i = (p.length : Int) - kq ∧ 0 ≤ i) ∧ Aside0 (Inv m i) ∧ Aside0 (mgo m0 p 0 = mgo m (p.drop i.toNat) i) ∧ Aside0 (MS w' w.heap.size w.heap.size m) ∧ Aside0 (Below w.heap.size w w'))
  case atStart => exact ⟨m0, 0, rfl, ⟨by omega, by omega⟩, ⟨⟨by decide, by decide, by decide, by decide, fun h => by simp [m0] at h, by decide⟩⟩, ⟨rfl⟩, HM, HB⟩
  case round =>
    clear HM HB
    obtain ⟨m, i0, rfl, HI, HINV, HGO, HM, HB⟩ := hrel
    obtain ⟨i, rfl⟩ := Int.eq_ofNat_of_zero_le HI.out.2
    rw [Int.toNat_natCast] at HGO
    have hil : i ≤ p.length := by have := HI.out; omega
    by_cases hlt : i < p.length
    · have hlt' : decide ((i : Int) < (p.length : Int)) = true := decide_eq_true (by omega)
      obtain ⟨ad, ea, hx⟩ := at_nat HR.out i hlt
      cases ea
      replace hx := (HB.out.cell (World.block_lt_of_cell? w _ hx)).trans hx
      have hbx := HBY.out (p.getD i 0) (by rw [List.getD_eq_getElem?_getD, List.getElem?_eq_getElem hlt]; simp)
      have hgo := HGO.out
      rw [drop_at p i hlt] at hgo
      generalize hcv : p.getD i 0 = x at hx hbx hgo
      clear hcv
      rw [mgo_cons] at hgo
      have hfeed := feed_calls w wr w.heap.size m x (i : Int) HM.out HB.out (by have := HINV.out.len; omega) hbx.1 hbx.2 (by omega) (by omega) HINV.out.d0 HINV.out.d1 HINV.out.f0 HINV.out.f1 HINV.out.s1
      have hinv := inv_feed (c := x) HINV.out (by omega)
      generalize hr : mfeed m x (i : Int) = r at hfeed hinv hgo
      clear hr hbx
      have HFE := Aside0.mk hfeed
      have HIN := Aside0.mk hinv
      have HLT := Aside0.mk hlt
      have p1 : ((i : Int) < (p.length : Int)) = True := eq_true (by omega)
      by_cases hz : r.2 = 0
      · rw [if_pos hz] at hgo
        have hzn : (r.2 != 0) = false := by rw [hz]; rfl
        have HGO2 := Aside0.mk hgo
        clear hgo hfeed hinv hz
        go_wp2_with (go_at_call 19; refine HFE.out.mono ?_; rintro e w_ ⟨rfl, hm_, hb_⟩; have HM2 := Aside0.mk hm_; have HB2 := Aside0.mk hb_; clear hm_ hb_)
        go_roundg (p.length - (i + 1))
        case measure => have := HI.out; have := HLT.out; omega
        case rel => exact ⟨r.1, (i : Int) + 1, by go_num, ⟨by have := HLT.out; omega, by omega⟩, HIN, ⟨by rw [show ((i : Int) + 1).toNat = i + 1 by omega]; exact HGO2.out⟩, HM2, HB2⟩
      · rw [if_neg hz] at hgo
        have hzn : (r.2 != 0) = true := by rw [bne_iff_ne]; exact hz
        have HE := Aside0.mk (show V = ([], (i : Int), r.2) by rw [HV.out]; unfold mread; rw [hgo, if_neg hz])
        clear hgo hfeed hinv hz
        go_wp2_with (go_at_call 19; refine HFE.out.mono ?_; rintro e w_ ⟨rfl, hm_, hb_⟩; have HM2 := Aside0.mk hm_; have HB2 := Aside0.mk hb_; clear hm_ hb_)
        go_ret3
        exact ⟨_, by rw [HE.out]; rfl, by rw [HE.out]; exact Kd.R_nil _ _ _ _ _, HB2.out⟩
    · have hlt' : decide ((i : Int) < (p.length : Int)) = false := decide_eq_false (by omega)
      have hlt2 : decide (i < p.length) = false := decide_eq_false hlt
      have e : i = p.length := by omega
      subst e
      have hgo := HGO.out
      rw [List.drop_length, mgo_nil] at hgo
      have HV2 := Aside0.mk (show V = mend m p.length by rw [HV.out]; unfold mread; rw [hgo, if_pos rfl])
      have c0 := HM.out.c0
      have c2 := HM.out.c2
      clear hgo
      by_cases s3 : m.st = 3
      · have t3 : (m.st == 3) = true := beq_iff_eq.2 s3
        obtain ⟨m2, hm2⟩ : ∃ m2, m2 = mdone (mtok m 5 m.frm (p.length : Int)) := ⟨_, rfl⟩
        have HL2 := Aside0.mk (show mlast m p.length = m2 by rw [hm2]; unfold mlast; rw [if_pos s3])
        have HM2 := Aside0.mk hm2
        clear s3 hm2
        go_wp2_with fail
        refine (token_calls w _ w.heap.size m 5 m.frm p.length HM.out HB.out (by have := HINV.out.len; omega) HINV.out.f0 HINV.out.f1 (by omega)).mono ?_
        rintro e w_ ⟨rfl, hm_, hb_⟩
        have H4 := Aside0.mk hm_
        have HB4 := Aside0.mk hb_
        clear hm_ hb_ c0 c2
        go_wp2_with fail
        refine (done_calls w _ w.heap.size _ H4.out HB4.out).mono ?_
        rintro e w_ ⟨rfl, hm_, hb_⟩
        rw [← HM2.out] at hm_
        have H3 := Aside0.mk hm_
        have HB3 := Aside0.mk hb_
        have c0 := hm_.c0
        clear hm_ hb_
        by_cases s6 : m2.st = 6
        · have t6 : (m2.st != 6) = false := by rw [s6]; rfl
          have HE := Aside0.mk (show V = (m2.l, 0, 0) by rw [HV2.out]; unfold mend; rw [HL2.out, if_pos s6])
          clear s6
          obtain ⟨hgg, vv, hblk, hrow⟩ := H3.out
          obtain ⟨A4, c4, e4_, hle4_, hC4_⟩ := Kd.R_reads hrow
          subst e4_
          have hc3 : w_.cell? ⟨w.heap.size, 3, none⟩ = some (.slice A4 m2.l.length c4) := blk_cell hblk 3
          have HROW := Aside0.mk hrow
          clear hgg hblk hle4_ hC4_ hrow
          go_wp2
          go_ret3
          exact ⟨_, by rw [HE.out]; rfl, by rw [HE.out]; exact HROW.out, HB3.out⟩
        · have t6 : (m2.st != 6) = true := by rw [bne_iff_ne]; exact s6
          have HE := Aside0.mk (show V = ([], (p.length : Int), 5) by rw [HV2.out]; unfold mend; rw [HL2.out, if_neg s6])
          clear s6
          go_wp2
          go_ret3
          exact ⟨_, by rw [HE.out]; rfl, by rw [HE.out]; exact Kd.R_nil _ _ _ _ _, HB3.out⟩
      · have t3 : (m.st == 3) = false := beq_eq_false_iff_ne.2 s3
        have HL2 := Aside0.mk (show mlast m p.length = m by unfold mlast; rw [if_neg s3])
        clear s3 c2
        by_cases s6 : m.st = 6
        · have t6 : (m.st != 6) = false := by rw [s6]; rfl
          have HE := Aside0.mk (show V = (m.l, 0, 0) by rw [HV2.out]; unfold mend; rw [HL2.out, if_pos s6])
          clear s6
          obtain ⟨hgg, vv, hblk, hrow⟩ := HM.out
          obtain ⟨A4, c4, e4_, hle4_, hC4_⟩ := Kd.R_reads hrow
          subst e4_
          have hc3 : wr.cell? ⟨w.heap.size, 3, none⟩ = some (.slice A4 m.l.length c4) := blk_cell hblk 3
          have HROW := Aside0.mk hrow
          clear hgg hblk hle4_ hC4_ hrow
          go_wp2
          go_ret3
          exact ⟨_, by rw [HE.out]; rfl, by rw [HE.out]; exact HROW.out, HB.out⟩
        · have t6 : (m.st != 6) = true := by rw [bne_iff_ne]; exact s6
          have HE := Aside0.mk (show V = ([], (p.length : Int), 5) by rw [HV2.out]; unfold mend; rw [HL2.out, if_neg s6])
          clear s6
          go_wp2
          go_ret3
          exact ⟨_, by rw [HE.out]; rfl, by rw [HE.out]; exact Kd.R_nil _ _ _ _ _, HB.out⟩
end Go.Proofs.Ytfflfadfalacgaa.SRef
