/- Proved: the law JsonLeast, called with what the form hands it, returns true and leaves old memory as it was; no condition. -/
import Derived.Test.YtdgdnccpginclaaJW
import Derived.Test.YtdgdnccpginclaaJTl
import Derived.Test.YtdgdnccpginclaaJLaws
namespace Go.Proofs.Ytdgdnccpginclaa.LJsonLeast
open Go.RowKit Go.Proofs.YtdgdnccpginclaaW.PrintWords Go.Proofs.YtdgdnccpginclaaW.PrintLast Go.Proofs.YtdgdnccpginclaaW.PrintMore
open Go.Proofs.Ytdgdnccpginclaa.JDefs Go.Proofs.Ytdgdnccpginclaa.JBase Go.Proofs.Ytdgdnccpginclaa.JMem Go.Proofs.Ytdgdnccpginclaa.JInv Go.Proofs.Ytdgdnccpginclaa.JRef Go.Proofs.Ytdgdnccpginclaa.JRead Go.Proofs.Ytdgdnccpginclaa.JW Go.Proofs.Ytdgdnccpginclaa.JTl Go.Proofs.Ytdgdnccpginclaa.JLaws
set_option linter.unusedVariables false
set_option linter.unusedSimpArgs false
set_option maxHeartbeats 8000000
set_option maxRecDepth 100000
set_option maxHeartbeats 16000000 in
theorem jsonLeast_calls (A : Option Addr) (c : Nat) (l : List Int) {w : World} (hR : (Kd.int .u8).C w A l.length l) (hm : l.length ≤ maxLen) (hw : ∀ x ∈ l, (Lit.int .u8 x).wf = true) (hc : l.length ≤ c)
    (B : Option Addr) (d : Nat) (m : List Int) (hR2 : (Kd.int .u8).C w B m.length m) (hm2 : m.length ≤ maxLen) (hw2 : ∀ x ∈ m, (Lit.int .u8 x).wf = true) (hc2 : m.length ≤ d) :
    Calls Try.prog 7 #[.slice A l.length c, .slice B m.length d] w fun e w' => e = .returned (.bool true) ∧ Below w.heap.size w w' := by
  obtain ⟨i5, hi5, hz5, hs5, hb5⟩ := info_parts info5
  clear hz5 hs5 hb5
  have HR := Aside0.mk hR
  have HR2 := Aside0.mk hR2
  have HBY := Aside0.mk (wf_byte hw)
  have HBY2 := Aside0.mk (wf_byte hw2)
  have HB := Aside0.mk (Below.refl w.heap.size w)
  clear hR hw hm hc hR2 hw2 hm2 hc2
  by_cases hg : 100 < l.length
  · have hd : decide ((100 : Int) < (l.length : Int)) = true := decide_eq_true (by omega)
    go_enter Try.func7, Try.ntmps7
    go_wp2_with (first | (go_at_call 10; refine (JW.lists_calls _).mono ?_; rintro e w_ ⟨rfl, hb⟩; have HBb := Aside0.mk (below_step HB.out hb); clear HB; have HB := HBb; clear HBb hb))
    go_ret
    exact ⟨rfl, HB.out⟩
  · have hd : decide ((100 : Int) < (l.length : Int)) = false := decide_eq_false (by omega)
    by_cases hg2 : 100 < m.length
    · have hd2 : decide ((100 : Int) < (m.length : Int)) = true := decide_eq_true (by omega)
      go_enter Try.func7, Try.ntmps7
      go_wp2_with (first | (go_at_call 10; refine (JW.lists_calls _).mono ?_; rintro e w_ ⟨rfl, hb⟩; have HBb := Aside0.mk (below_step HB.out hb); clear HB; have HB := HBb; clear HBb hb))
      go_ret
      exact ⟨rfl, HB.out⟩
    · have hd2 : decide ((100 : Int) < (m.length : Int)) = false := decide_eq_false (by omega)
      go_enter Try.func7, Try.ntmps7
      go_wp2_with (first | (go_at_call 10; refine (JW.lists_calls _).mono ?_; rintro e w_ ⟨rfl, hb⟩; have HBb := Aside0.mk (below_step HB.out hb); clear HB; have HB := HBb; clear HBb hb) | fail)
      go_loopg [5, 6] l.length (fun kq v3 v4 w' => ∃ i : Nat, v4 = .int .i64 (i : Int) ∧ Aside0 (i + kq = l.length) ∧ Aside0 ((Kd.int .u8).R 5 w' w.heap.size (fun _ => True) v3 (txt (l.take i))) ∧ Aside0 (Below w.heap.size w w'))
      case atStart => exact ⟨0, rfl, ⟨by omega⟩, ⟨Kd.R_nil _ _ _ _ _⟩, HB⟩
      case round =>
        clear HB
        obtain ⟨i, rfl, HI, HO, HB⟩ := hrel
        have hi1 : (i : Int) ≤ 100000 := by have := HI.out; omega
        by_cases hlt : i < l.length
        · have HLT := Aside0.mk hlt
          have hlt' : decide ((i : Int) < (l.length : Int)) = true := decide_eq_true (by omega)
          obtain ⟨ad, ea, hx⟩ := at_nat HR.out i hlt
          cases ea
          replace hx := (HB.out.cell (World.block_lt_of_cell? w _ hx)).trans hx
          have hbx := HBY.out (l.getD i 0) (by rw [List.getD_eq_getElem?_getD, List.getElem?_eq_getElem hlt]; simp)
          have HTK := Aside0.mk (txt_step l i hlt)
          generalize l.getD i 0 = x at hx hbx HTK
          obtain ⟨hx0, hx1⟩ := hbx
          have p0 : (0 : Int) ≤ (i : Int) := by omega
          have p1 : (i : Int) < (l.length : Int) := by omega
          have hsg := fun w => sg_run (x % 36) (by omega) (by omega) w
          obtain ⟨A3, c3, e3, hle3, hC3⟩ := Kd.R_reads HO.out
          subst e3
          clear hle3 hC3
          have hsz : (txt (l.take i)).length ≤ 100000 := by rw [txt_length, List.length_take]; omega
          obtain ⟨y, hy⟩ : ∃ y, y = sg x := ⟨_, rfl⟩
          rw [show sgn.getD (x % 36).toNat 0 = y from hy.symm] at hsg
          rw [← hy] at HTK
          have HOx := HO
          generalize txt (l.take i) = t at HO HTK hsz HOx
          clear hy
          go_wp2_with (first | ((with_reducible refine gate_builtin (b := .append) (xs := #[.tmp 36, .tmp 44]) rfl ?_); at_builtin; refine Kd.R_append (Kd.int .u8) (w0 := w) w.heap.size rfl (.tmp 36) (.tmp 44) 22 5 (.int .u8 0) 1 rfl Try.underlying22 info5 rfl (by decide) (by omega) (.slice A3 t.length c3) t y [.int .u8 y] (fun _ => True) (fun _ => False) rfl rfl rfl (fun _ hk => hk.elim) (fun _ _ => trivial) HO.out HB.out (below_size HB.out) (by omega) ?_; intro v4 w4 ho hb hgr hat; have HO4 := Aside0.mk ho; have HB4 := Aside0.mk hb; clear ho hb hat))
          go_roundg (l.length - (i + 1))
          case measure => have := HI.out; have := HLT.out; omega
          case rel => exact ⟨i + 1, by go_num, ⟨by have := HLT.out; omega⟩, ⟨by rw [HTK.out]; exact HO4.out⟩, HB4⟩
        · have hlt' : decide ((i : Int) < (l.length : Int)) = false := decide_eq_false (by omega)
          have hlt2 : decide (i < l.length) = false := decide_eq_false hlt
          have e : i = l.length := by have := HI.out; omega
          subst e
          have ho2 := HO.out
          rw [List.take_length] at ho2
          have HO2 := Aside0.mk ho2
          clear ho2 HO
          obtain ⟨r, at_, er, hmr, h0, h1, h4⟩ := mread_some (txt l)
          have h5 := mread_err (txt l)
          rw [hmr] at h5
          simp only at h5
          have htb := txt_byte l
          have htl := txt_length l
          generalize txt l = p at hmr htb htl HO2 h1 h4 h5
          have hpl : p.length ≤ 100 := by omega
          have HMR := Aside0.mk hmr
          have HTB := Aside0.mk htb
          obtain ⟨A0, c0, e0, hle, hC⟩ := Kd.R_reads HO2.out
          subst e0
          have HB0 := HB
          have HC0 := Aside0.mk (And.intro hC hle)
          clear hmr htb htl h4 hC hle
          clear HB
          go_wp2_with fail
          refine (sread_n A0 c0 p.length p _ rfl HC0.out.1 HTB.out (by omega) HC0.out.2 _ _ _ HMR.out).mono ?_
          rintro e w1 ⟨v1, rfl, hr, hb⟩
          have HB1 := Aside0.mk (below_step HB0.out hb)
          have HC1 := Aside0.mk (Kd.C_below HC0.out.1 hb)
          have HLE := Aside0.mk HC0.out.2
          obtain ⟨A9, c9, rfl, _, _⟩ := Kd.R_reads hr
          clear HB0 hb hr HC0
          by_cases he : er = 0
          · have e0 : (er == 0) = true := beq_iff_eq.2 he
            have e6 : (er != 6) = true := by rw [bne_iff_ne]; omega
            clear he h5
            go_wp2_with fail
            go_ret
            exact ⟨rfl, HB1.out⟩
          · have e0 : (er == 0) = false := beq_eq_false_iff_ne.2 he
            by_cases ha : at_ = p.length
            · have e1 : (at_ == (p.length : Int)) = true := beq_iff_eq.2 ha
              have h55 : er = 5 := by
                by_cases hp : 0 < p.length
                · have := wrong_end p (by rw [HMR.out]; exact ha) hp
                  rw [HMR.out] at this; exact this
                · have hp0 : p = [] := List.eq_nil_of_length_eq_zero (by omega)
                  have := HMR.out
                  rw [hp0, empty_read] at this
                  exact (congrArg (fun z => z.2.2) this).symm
              have e6 : (er != 6) = true := by rw [bne_iff_ne]; omega
              clear he h5 ha h55 h1
              go_wp2_with fail
              go_ret
              exact ⟨rfl, HB1.out⟩
            · have e1 : (at_ == (p.length : Int)) = false := beq_eq_false_iff_ne.2 ha
              obtain ⟨k, hk1, hk2, hk3, hk4⟩ := least_law p m (by rw [HMR.out]; exact he) (by rw [HMR.out]; exact ha)
              rw [HMR.out] at hk2 hk3
              simp only at hk2 hk3
              obtain rfl : at_ = (k : Int) := hk2
              have hkp : (k : Int) ≤ 100 := by omega
              have e2 : decide ((k : Int) < 0) = false := decide_eq_false (by omega)
              have e3 : decide ((p.length : Int) < (k : Int)) = false := decide_eq_false (by omega)
              have e4 : decide (p.length < k) = false := decide_eq_false (by omega)
              have hcut1 := cut_to 22 5 .i64 Try.underlying22 hi5 A0 p.length c0 ((k : Int) + 1) (by omega) (by omega) HLE.out
              have hcut2 := cut_to 22 5 .i64 Try.underlying22 hi5 A0 p.length c0 (k : Int) (by omega) (by omega) HLE.out
              rw [show ((k : Int) + 1).toNat = k + 1 by omega] at hcut1
              rw [Int.toNat_natCast] at hcut2
              obtain ⟨r2, a2, e2_, hmr2⟩ : ∃ r2 a2 e2_, mread (p.take (k + 1) ++ m) = (r2, a2, e2_) := ⟨_, _, _, rfl⟩
              rw [hmr2] at hk3
              simp only [Prod.mk.injEq] at hk3
              obtain ⟨rfl, rfl⟩ := hk3
              obtain ⟨r3, m3, g3, hmr3⟩ : ∃ r3 m3 g3, mread (p.take k) = (r3, m3, g3) := ⟨_, _, _, rfl⟩
              rw [hmr3] at hk4
              simp only at hk4
              have HMR2 := Aside0.mk hmr2
              have HMR3 := Aside0.mk hmr3
              have HK4 := Aside0.mk hk4
              have HCT := Aside0.mk (Kd.C_take (m := k + 1) HC1.out (by omega))
              have HCT2 := Aside0.mk (Kd.C_take (m := k) HC1.out (by omega))
              have hl1 : (p.take (k + 1)).length = k + 1 := by rw [List.length_take]; omega
              have hl2 : (p.take k).length = k := by rw [List.length_take]; omega
              have HL1 := Aside0.mk hl1
              have HL2 := Aside0.mk hl2
              have HKP := Aside0.mk hk1
              have HQ := Aside0.mk (show ByteL (p.take (k + 1) ++ m) by
                intro x hx
                rcases List.mem_append.1 hx with hx | hx
                · exact HTB.out x (List.mem_of_mem_take hx)
                · exact HBY2.out x hx)
              have HQ2 := Aside0.mk (show ByteL (p.take k) from fun x hx => HTB.out x (List.mem_of_mem_take hx))
              have ek : ((k : Int) == (k : Int)) = true := by simp
              have ee : (e2_ == e2_) = true := by simp
              have HBZ := Aside0.mk (Below.refl w1.heap.size w1)
              clear he h5 ha h1 hk1 hk4 hmr2 hmr3 hl1 hl2
              go_wp2_with (first | ((with_reducible refine gate_builtin (b := .append) (xs := #[.tmp 70, .tmp 74]) rfl ?_); at_builtin; refine app_u8 w1.heap.size rfl (.tmp 70) (.tmp 74) rfl (.slice none 0 0) [] (p.take (k + 1)) A0 (k + 1) c0 rfl rfl (Kd.R_nil _ _ _ _ _) HCT.out HL1.out HBZ.out (Nat.le_refl _) (by simp; omega) ?_; intro v4 w4 ho hb; rw [List.nil_append] at ho; obtain ⟨A4, c4, e4, hle4, hC4⟩ := Kd.R_reads ho; rw [HL1.out] at e4; subst e4; clear hle4 hC4; have HO4 := Aside0.mk ho; have HB4 := Aside0.mk hb; clear ho hb) | ((with_reducible refine gate_builtin (b := .append) (xs := #[.tmp 76, .tmp 77]) rfl ?_); at_builtin; refine app_u8 w1.heap.size rfl (.tmp 76) (.tmp 77) rfl (.slice A4 (k + 1) c4) (p.take (k + 1)) m B m.length d rfl rfl HO4.out (Kd.C_below HR2.out (below_step HB1.out HB4.out)) rfl HB4.out (below_size HB4.out) (by rw [HL1.out]; omega) ?_; intro v4 w4 ho hb; obtain ⟨A5, c5, e5, hle5, hC5⟩ := Kd.R_reads ho; rw [List.length_append, HL1.out] at e5 hle5; subst e5; have HC5 := Aside0.mk (And.intro hC5 hle5); have HB5 := Aside0.mk hb; clear ho hb hC5 hle5) | fail)
              refine (sread_n A5 c5 (k + 1 + m.length) (p.take (k + 1) ++ m) _ (by rw [List.length_append, HL1.out]) HC5.out.1 HQ.out (by rw [List.length_append, HL1.out]; omega) HC5.out.2 _ _ _ HMR2.out).mono ?_
              rintro e w7 ⟨v7, rfl, hr, hb⟩
              have HB7 := Aside0.mk (below_step HB5.out hb)
              obtain ⟨A7, c7, rfl, _, _⟩ := Kd.R_reads hr
              clear hr hb
              go_wp2_with fail
              refine (sread_n A0 c0 k (p.take k) _ HL2.out (Kd.C_below HCT2.out HB7.out) HQ2.out (by rw [HL2.out]; omega) (by have := HLE.out; have := HKP.out; omega) _ _ _ HMR3.out).mono ?_
              rintro e w8 ⟨v8, rfl, hr, hb⟩
              have HB8 := Aside0.mk (below_step HB1.out (below_step HB7.out hb))
              obtain ⟨A8, c8, rfl, _, _⟩ := Kd.R_reads hr
              clear hr hb
              rcases HK4.out with h | ⟨h, h'⟩
              · have g0 : (g3 == 0) = true := beq_iff_eq.2 h
                clear h
                go_wp2_with fail
                go_ret
                exact ⟨rfl, HB8.out⟩
              · subst h h'
                go_wp2_with fail
                go_ret
                exact ⟨rfl, HB8.out⟩
end Go.Proofs.Ytdgdnccpginclaa.LJsonLeast
