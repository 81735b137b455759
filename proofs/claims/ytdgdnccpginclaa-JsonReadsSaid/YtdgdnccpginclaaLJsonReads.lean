/- Proved: the law JsonReads, called with what the form hands it, returns true and leaves old memory as it was; no condition. -/
import Derived.Test.YtdgdnccpginclaaJW
namespace Go.Proofs.Ytdgdnccpginclaa.LJsonReads
open Go.RowKit Go.Proofs.YtdgdnccpginclaaW.PrintWords Go.Proofs.YtdgdnccpginclaaW.PrintLast Go.Proofs.YtdgdnccpginclaaW.PrintMore
open Go.Proofs.Ytdgdnccpginclaa.JDefs Go.Proofs.Ytdgdnccpginclaa.JBase Go.Proofs.Ytdgdnccpginclaa.JMem Go.Proofs.Ytdgdnccpginclaa.JInv Go.Proofs.Ytdgdnccpginclaa.JRef Go.Proofs.Ytdgdnccpginclaa.JRead Go.Proofs.Ytdgdnccpginclaa.JW
set_option linter.unusedVariables false
set_option linter.unusedSimpArgs false
set_option maxHeartbeats 8000000
set_option maxRecDepth 100000
set_option maxHeartbeats 16000000 in
theorem jsonReads_calls (A : Option Addr) (c : Nat) (l : List Int) {w : World} (hR : (Kd.int .u8).C w A l.length l) (hm : l.length ≤ maxLen) (hw : ∀ x ∈ l, (Lit.int .u8 x).wf = true) (hc : l.length ≤ c) :
    Calls Try.prog 3 #[.slice A l.length c] w fun e w' => e = .returned (.bool true) ∧ Below w.heap.size w w' := by
  have HR := Aside0.mk hR
  have HBY := Aside0.mk (wf_byte hw)
  have HB := Aside0.mk (Below.refl w.heap.size w)
  clear hR hw hm
  by_cases hg : 400 < l.length
  · have hd : decide ((400 : Int) < (l.length : Int)) = true := decide_eq_true (by omega)
    go_enter Try.func3, Try.ntmps3
    go_wp2_with (first | (go_at_call 10; refine (JW.lists_calls _).mono ?_; rintro e w_ ⟨rfl, hb⟩; have HBb := Aside0.mk (below_step HB.out hb); clear HB; have HB := HBb; clear HBb hb))
    go_ret
    exact ⟨rfl, HB.out⟩
  · have hd : decide ((400 : Int) < (l.length : Int)) = false := decide_eq_false (by omega)
    obtain ⟨r, at_, er, hmr, h0, h1, h4⟩ := mread_some l
    have HMR := Aside0.mk hmr
    have hl1 : r.length ≤ 1000000 := by omega
    clear hmr h0 h1 h4
    go_enter Try.func3, Try.ntmps3
    go_wp2_with (first | (go_at_call 10; refine (JW.lists_calls _).mono ?_; rintro e w_ ⟨rfl, hb⟩; have HBb := Aside0.mk (below_step HB.out hb); clear HB; have HB := HBb; clear HBb hb) | fail)
    refine (sread_n A c l.length l _ rfl (Kd.C_below HR.out HB.out) HBY.out (by omega) hc _ _ _ HMR.out).mono ?_
    rintro e w1 ⟨v1, rfl, hr, hb⟩
    have HB1 := Aside0.mk (below_step HB.out hb)
    obtain ⟨A1, c1, rfl, _, hC⟩ := Kd.R_reads hr
    have HC1 := Aside0.mk hC
    clear HB hb hr hC
    go_wp2_with fail
    refine (sref_n A c l.length l _ rfl (Kd.C_below HR.out HB1.out) HBY.out (by omega) _ _ _ HMR.out).mono ?_
    rintro e w2 ⟨v2, rfl, hr, hb⟩
    have HB2 := Aside0.mk (below_step HB1.out hb)
    have HC2 := Aside0.mk (Kd.C_below HC1.out hb)
    obtain ⟨A2, c2, rfl, _, hC⟩ := Kd.R_reads hr
    have HC3 := Aside0.mk hC
    clear HB1 hb hr hC HC1
    have he1 : (er == er) = true := by simp
    have ha1 : (at_ == at_) = true := by simp
    go_wp2_with fail
    refine (same_calls A1 A2 c1 c2 r _ HC2.out HC3.out hl1).mono ?_
    rintro e w3 ⟨rfl, n, rfl⟩
    go_wp2_with fail
    go_ret
    exact ⟨rfl, pw_below_drewN HB2.out n⟩
end Go.Proofs.Ytdgdnccpginclaa.LJsonReads
