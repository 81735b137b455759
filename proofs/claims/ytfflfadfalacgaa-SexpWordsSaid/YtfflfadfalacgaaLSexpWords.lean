/- Proved: the law SexpWords, called with what the form hands it, returns true and leaves old memory as it was; no condition. -/
import Derived.Test.YtfflfadfalacgaaSC
namespace Go.Proofs.Ytfflfadfalacgaa.LSexpWords
open Go.RowKit Go.Proofs.YtfflfadfalacgaaW.PrintWords Go.Proofs.YtfflfadfalacgaaW.PrintLast Go.Proofs.YtfflfadfalacgaaW.PrintMore
open Go.Proofs.Ytfflfadfalacgaa.SMem hiding Tok
open Go.Proofs.Ytfflfadfalacgaa.SPlain Go.Proofs.Ytfflfadfalacgaa.SRef Go.Proofs.Ytfflfadfalacgaa.SRd Go.Proofs.Ytfflfadfalacgaa.SParse Go.Proofs.Ytfflfadfalacgaa.STx Go.Proofs.Ytfflfadfalacgaa.SRead Go.Proofs.Ytfflfadfalacgaa.SW Go.Proofs.Ytfflfadfalacgaa.STl
set_option linter.unusedVariables false
set_option linter.unusedSimpArgs false
set_option maxHeartbeats 8000000
set_option maxRecDepth 100000
open Go.Proofs.Ytfflfadfalacgaa.SC

theorem sexpWords_calls (A : Option Addr) (c : Nat) (l : List Int) {w : World} (hR : (Kd.int .u8).C w A l.length l) (hm : l.length ≤ maxLen) (hw : ∀ x ∈ l, (Lit.int .u8 x).wf = true) (hc : l.length ≤ c) :
    Calls Try.prog 4 #[.slice A l.length c] w fun e w' => e = .returned (.bool true) ∧ Below w.heap.size w w' := by
  have HR := Aside0.mk hR
  have HBY := Aside0.mk (wf_byte hw)
  have HB := Aside0.mk (Below.refl w.heap.size w)
  clear hR hw hm
  by_cases hg : 120 < l.length
  · have hd : decide ((120 : Int) < (l.length : Int)) = true := decide_eq_true (by omega)
    go_enter Try.func4, Try.ntmps4
    go_wp2_with (first | (go_at_call 10; refine (SW.quotes_calls _).mono ?_; rintro e w_ ⟨rfl, hb⟩; have HBb := Aside0.mk (below_step HB.out hb); clear HB; have HB := HBb; clear HBb hb))
    go_ret
    exact ⟨rfl, HB.out⟩
  · have hd : decide ((120 : Int) < (l.length : Int)) = false := decide_eq_false (by omega)
    obtain ⟨r, at_, er, hmr, h0, h1, h2, h3, h4, h5⟩ := mread_some (txt l)
    have HMR := Aside0.mk hmr
    have hl1 : r.length ≤ 1000000 := by rw [txt_length] at h4; omega
    have htb := txt_byte l
    have htl := txt_length l
    have HT := Aside0.mk (fun (w0 : World) (h : (Kd.int .u8).C w0 A l.length l) => text_calls A c l w0 h HBY.out (by omega))
    generalize txt l = p at HMR htb htl HT
    have HTB := Aside0.mk htb
    have hpl : p.length ≤ 120 := by omega
    clear hmr h0 h1 h2 h3 h4 h5 htb htl
    go_enter Try.func4, Try.ntmps4
    go_wp2_with (first | (go_at_call 10; refine (SW.quotes_calls _).mono ?_; rintro e w_ ⟨rfl, hb⟩; have HBb := Aside0.mk (below_step HB.out hb); clear HB; have HB := HBb; clear HBb hb) | fail)
    refine (HT.out _ (Kd.C_below HR.out HB.out)).mono ?_
    rintro e w0 ⟨v0, rfl, hr, hb⟩
    have HB0 := Aside0.mk (below_step HB.out hb)
    obtain ⟨A0, c0, rfl, hle, hC⟩ := Kd.R_reads hr
    have HC0 := Aside0.mk (And.intro hC hle)
    clear HB hb hr hC hle
    go_wp2_with fail
    refine (sread_n A0 c0 p.length p _ rfl HC0.out.1 HTB.out (by omega) HC0.out.2 _ _ _ HMR.out).mono ?_
    rintro e w1 ⟨v1, rfl, hr, hb⟩
    have HB1 := Aside0.mk (below_step HB0.out hb)
    have HC4 := Aside0.mk (Kd.C_below HC0.out.1 hb)
    obtain ⟨A1, c1, rfl, _, hC⟩ := Kd.R_reads hr
    have HC1 := Aside0.mk hC
    clear HB0 hb hr hC
    go_wp2_with fail
    refine (sref_n A0 c0 p.length p _ rfl HC4.out HTB.out (by omega) _ _ _ HMR.out).mono ?_
    rintro e w2 ⟨v2, rfl, hr, hb⟩
    have HB2 := Aside0.mk (below_step HB1.out hb)
    have HC2 := Aside0.mk (Kd.C_below HC1.out hb)
    obtain ⟨A2, c2, rfl, _, hC⟩ := Kd.R_reads hr
    have HC3 := Aside0.mk hC
    clear HB1 hb hr hC HC1
    have he1 : (er == er) = true := by simp
    have ha1 : (at_ == at_) = true := by simp
    go_wp2_with fail
    refine (same_calls A1 A2 c1 c2 r _ HC2.out HC3.out hl1).mono ?_
    rintro e w3 ⟨rfl, n, rfl⟩
    go_wp2_with fail
    go_ret
    exact ⟨rfl, pw_below_drewN HB2.out n⟩
end Go.Proofs.Ytfflfadfalacgaa.LSexpWords
