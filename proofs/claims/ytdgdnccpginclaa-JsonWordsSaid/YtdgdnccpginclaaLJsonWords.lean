/- Proved: the law JsonWords, called with what the form hands it, returns true and leaves old memory as it was; no condition. -/
import Derived.Test.YtdgdnccpginclaaJW
import Derived.Test.YtdgdnccpginclaaJTl
namespace Go.Proofs.Ytdgdnccpginclaa.LJsonWords
open Go.RowKit Go.Proofs.YtdgdnccpginclaaW.PrintWords Go.Proofs.YtdgdnccpginclaaW.PrintLast Go.Proofs.YtdgdnccpginclaaW.PrintMore
open Go.Proofs.Ytdgdnccpginclaa.JDefs Go.Proofs.Ytdgdnccpginclaa.JBase Go.Proofs.Ytdgdnccpginclaa.JMem Go.Proofs.Ytdgdnccpginclaa.JInv Go.Proofs.Ytdgdnccpginclaa.JRef Go.Proofs.Ytdgdnccpginclaa.JRead Go.Proofs.Ytdgdnccpginclaa.JW Go.Proofs.Ytdgdnccpginclaa.JTl
set_option linter.unusedVariables false
set_option linter.unusedSimpArgs false
set_option maxHeartbeats 8000000
set_option maxRecDepth 100000
set_option maxHeartbeats 16000000 in
theorem jsonWords_calls (A : Option Addr) (c : Nat) (l : List Int) {w : World} (hR : (Kd.int .u8).C w A l.length l) (hm : l.length ≤ maxLen) (hw : ∀ x ∈ l, (Lit.int .u8 x).wf = true) (hc : l.length ≤ c) :
    Calls Try.prog 4 #[.slice A l.length c] w fun e w' => e = .returned (.bool true) ∧ Below w.heap.size w w' := by
  have HR := Aside0.mk hR
  have HBY := Aside0.mk (wf_byte hw)
  have HB := Aside0.mk (Below.refl w.heap.size w)
  clear hR hw hm
  by_cases hg : 120 < l.length
  · have hd : decide ((120 : Int) < (l.length : Int)) = true := decide_eq_true (by omega)
    go_enter Try.func4, Try.ntmps4
    go_wp2_with (first | (go_at_call 10; refine (JW.lists_calls _).mono ?_; rintro e w_ ⟨rfl, hb⟩; have HBb := Aside0.mk (below_step HB.out hb); clear HB; have HB := HBb; clear HBb hb))
    go_ret
    exact ⟨rfl, HB.out⟩
  · have hd : decide ((120 : Int) < (l.length : Int)) = false := decide_eq_false (by omega)
    go_enter Try.func4, Try.ntmps4
    go_wp2_with (first | (go_at_call 10; refine (JW.lists_calls _).mono ?_; rintro e w_ ⟨rfl, hb⟩; have HBb := Aside0.mk (below_step HB.out hb); clear HB; have HB := HBb; clear HBb hb) | fail)
    go_loopg [3, 4] l.length (fun kq v3 v4 w' => ∃ i : Nat, v4 = .int .i64 (i : Int) ∧ Aside0 (i + kq = l.length) ∧ Aside0 ((Kd.int .u8).R 5 w' w.heap.size (fun _ => True) v3 (txt (l.take i))) ∧ Aside0 (Below w.heap.size w w'))
    case atStart => exact ⟨0, rfl, ⟨by omega⟩, ⟨Kd.R_nil _ _ _ _ _⟩, HB⟩
    case round =>
      clear HB
      obtain ⟨i, rfl, HI, HO, HB⟩ := hrel
      have hi1 : (i : Int) ≤ 100000 := by have := HI.out; omega
      by_cases hlt : i < l.length
      · have HLT := Aside0.mk hlt
        have hlt' : decide ((i : Int) < (l.length : Int)) = true := decide_eq_true (by omega)
        obtain ⟨ad, ea, hx⟩ := at_nat HR.out i hlt
        cases ea
        replace hx := (HB.out.cell (World.block_lt_of_cell? w _ hx)).trans hx
        have hbx := HBY.out (l.getD i 0) (by rw [List.getD_eq_getElem?_getD, List.getElem?_eq_getElem hlt]; simp)
        have HTK := Aside0.mk (txt_step l i hlt)
        generalize l.getD i 0 = x at hx hbx HTK
        obtain ⟨hx0, hx1⟩ := hbx
        have p0 : (0 : Int) ≤ (i : Int) := by omega
        have p1 : (i : Int) < (l.length : Int) := by omega
        have hsg := fun w => sg_run (x % 36) (by omega) (by omega) w
        obtain ⟨A3, c3, e3, hle3, hC3⟩ := Kd.R_reads HO.out
        subst e3
        clear hle3 hC3
        have hsz : (txt (l.take i)).length ≤ 100000 := by rw [txt_length, List.length_take]; omega
        obtain ⟨y, hy⟩ : ∃ y, y = sg x := ⟨_, rfl⟩
        rw [show sgn.getD (x % 36).toNat 0 = y from hy.symm] at hsg
        rw [← hy] at HTK
        have HOx := HO
        generalize txt (l.take i) = t at HO HTK hsz HOx
        clear hy
        go_wp2_with (first | ((with_reducible refine gate_builtin (b := .append) (xs := #[.tmp 25, .tmp 33]) rfl ?_); at_builtin; refine Kd.R_append (Kd.int .u8) (w0 := w) w.heap.size rfl (.tmp 25) (.tmp 33) 22 5 (.int .u8 0) 1 rfl Try.underlying22 info5 rfl (by decide) (by omega) (.slice A3 t.length c3) t y [.int .u8 y] (fun _ => True) (fun _ => False) rfl rfl rfl (fun _ hk => hk.elim) (fun _ _ => trivial) HO.out HB.out (below_size HB.out) (by omega) ?_; intro v4 w4 ho hb hgr hat; have HO4 := Aside0.mk ho; have HB4 := Aside0.mk hb; clear ho hb hat))
        go_roundg (l.length - (i + 1))
        case measure => have := HI.out; have := HLT.out; omega
        case rel => exact ⟨i + 1, by go_num, ⟨by have := HLT.out; omega⟩, ⟨by rw [HTK.out]; exact HO4.out⟩, HB4⟩
      · have hlt' : decide ((i : Int) < (l.length : Int)) = false := decide_eq_false (by omega)
        have hlt2 : decide (i < l.length) = false := decide_eq_false hlt
        have e : i = l.length := by have := HI.out; omega
        subst e
        have ho2 := HO.out
        rw [List.take_length] at ho2
        have HO2 := Aside0.mk ho2
        clear ho2 HO
        obtain ⟨r, at_, er, hmr, h0, h1, h4⟩ := mread_some (txt l)
        have HMR := Aside0.mk hmr
        have hl1 : r.length ≤ 1000000 := by rw [txt_length] at h4; omega
        have htb := txt_byte l
        have htl := txt_length l
        generalize txt l = p at HMR htb htl HO2
        have HTB := Aside0.mk htb
        have hpl : p.length ≤ 120 := by omega
        obtain ⟨A0, c0, e0, hle, hC⟩ := Kd.R_reads HO2.out
        subst e0
        have HC0 := Aside0.mk (And.intro hC hle)
        clear hmr h0 h1 h4 htb htl hC hle
        go_wp2_with fail
        refine (sread_n A0 c0 p.length p _ rfl HC0.out.1 HTB.out (by omega) HC0.out.2 _ _ _ HMR.out).mono ?_
        rintro e w1 ⟨v1, rfl, hr, hb⟩
        have HB1 := Aside0.mk (below_step HB.out hb)
        have HC4 := Aside0.mk (Kd.C_below HC0.out.1 hb)
        obtain ⟨A1, c1, rfl, _, hC⟩ := Kd.R_reads hr
        have HC1 := Aside0.mk hC
        clear HB hb hr hC
        go_wp2_with fail
        refine (sref_n A0 c0 p.length p _ rfl HC4.out HTB.out (by omega) _ _ _ HMR.out).mono ?_
        rintro e w2 ⟨v2, rfl, hr, hb⟩
        have HB2 := Aside0.mk (below_step HB1.out hb)
        have HC2 := Aside0.mk (Kd.C_below HC1.out hb)
        obtain ⟨A2, c2, rfl, _, hC⟩ := Kd.R_reads hr
        have HC3 := Aside0.mk hC
        clear HB1 hb hr hC HC1
        have he1 : (er == er) = true := by simp
        have ha1 : (at_ == at_) = true := by simp
        go_wp2_with fail
        refine (same_calls A1 A2 c1 c2 r _ HC2.out HC3.out hl1).mono ?_
        rintro e w3 ⟨rfl, n, rfl⟩
        go_wp2_with fail
        go_ret
        exact ⟨rfl, pw_below_drewN HB2.out n⟩
end Go.Proofs.Ytdgdnccpginclaa.LJsonWords
