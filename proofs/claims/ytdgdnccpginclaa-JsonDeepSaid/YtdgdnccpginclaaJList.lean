/- Proved: the program's reader of layer 8: list; the text has at most 100000 bytes. -/
import Derived.Test.YtdgdnccpginclaaJVal
import Derived.Deep.CutRange
namespace Go.Proofs.Ytdgdnccpginclaa.JList
open Go.RowKit Go.Proofs.YtdgdnccpginclaaW.PrintWords Go.Proofs.YtdgdnccpginclaaW.PrintLast Go.Proofs.YtdgdnccpginclaaW.PrintMore
open Go.Proofs.Ytdgdnccpginclaa.JDefs Go.Proofs.Ytdgdnccpginclaa.JSim Go.Proofs.Ytdgdnccpginclaa.JSimb Go.Proofs.Ytdgdnccpginclaa.JSimc Go.Proofs.Ytdgdnccpginclaa.JBase Go.Proofs.Ytdgdnccpginclaa.JRd Go.Proofs.Ytdgdnccpginclaa.JPt Go.Proofs.Ytdgdnccpginclaa.JPu Go.Proofs.Ytdgdnccpginclaa.JPv Go.Proofs.Ytdgdnccpginclaa.JNu Go.Proofs.Ytdgdnccpginclaa.JTx Go.Proofs.Ytdgdnccpginclaa.JVal
set_option linter.unusedVariables false
set_option linter.unusedSimpArgs false
set_option maxHeartbeats 8000000
set_option maxRecDepth 100000

theorem top_ne (b : Bool) : top b ≠ 0 := by cases b <;> decide
theorem clo_ne (b : Bool) : clo b ≠ 0 := by cases b <;> decide
theorem clo_le (b : Bool) : 0 ≤ clo b ∧ clo b ≤ 255 := by cases b <;> decide
theorem clo_44 (b : Bool) : clo b ≠ 44 := by cases b <;> decide
/-- What is left at the head of list's loop. -/
def headP (p : List Int) (f d : Nat) (b first : Bool) (k : Nat) (l : List (Int × Int × Int)) : Out :=
  if first then (if sees p k = clo b then .ok (k + 1) (l ++ [(2, (k : Int), 1)]) else match itemP p f (d + 1) b k l with
    | .stop e x => .stop e x
    | .ok x l' => restP p f d b (skip p x) l')
  else restP p (f + 1) d b k l
theorem restP_at (p : List Int) (f d : Nat) (b : Bool) (k : Nat) (l : List (Int × Int × Int)) : restP p (f + 1) d b k l = if sees p k = 44 then (match itemP p f (d + 1) b (k + 1) (l ++ [(3, (k : Int), 1)]) with
      | .stop e x => .stop e x
      | .ok x l' => restP p f d b (skip p x) l')
    else if sees p k = clo b then .ok (k + 1) (l ++ [(2, (k : Int), 1)]) else .stop 5 k := by
  conv => lhs; unfold restP
  rfl
theorem item_post (p : List Int) (f : Nat) (d : Nat) (b : Bool) (k : Nat) (l : List (Int × Int × Int)) (hk : k ≤ p.length) (hl : l.length ≤ k) (hf : 3 * (p.length - k) + 2 ≤ f) : JSimc.post p k (itemP p f d b k l) := by
  have := ((JSimc.parse_spec p f).2.2.2 (List.replicate d 0) b k l hk hl hf).2
  rw [List.length_replicate] at this
  exact this
section
variable (W : World) (g : Nat) (P : Option Addr) (cP : Nat) (p : List Int)
set_option maxHeartbeats 32000000 in
theorem list_calls (F : Nat) (hT : Txt W P cP p) (hI : ∀ f, f < F → ItemC W g P cP p f) : ListC W g P cP p F := by
  intro b w d a l h hc hl hd hf
  have hlt := (List.getElem?_eq_some_iff.1 hc).1
  obtain ⟨f, rfl⟩ : ∃ f, F = f + 1 := ⟨F - 1, by omega⟩
  have HIC := Aside0.mk hI
  obtain ⟨V, hV⟩ : ∃ V, V = listP p (f + 1) d b a l := ⟨_, rfl⟩
  rw [← hV]
  unfold listP at hV
  have HT := Aside0.mk hT
  have hn := hT.n
  have hle := h.le
  have HM := Aside0.mk h
  have HF := Aside0.mk hf
  have HLL := Aside0.mk (And.intro hl hlt)
  have hll : l.length ≤ 100000 := by omega
  have c1 := h.c1
  have c3 := h.c3
  have f3 := h.fz 3
  have hd0 : (d : Int) ≤ 512 := by omega
  have HC := Aside0.mk hc
  obtain ⟨cl0, cl1⟩ := clo_le b
  by_cases h512 : d = 512
  · rw [if_pos h512] at hV
    have e512 : ((d : Int) == 512) = true := beq_iff_eq.2 (by omega)
    have HV := Aside0.mk hV
    have hp : ∀ W : World, (Instr.panic (.iface 40 (.agg #[.int .i64 6, .int .i64 (a : Int)]))).run Try.prog W = .halt (.panic (.iface 40 (.agg #[.int .i64 6, .int .i64 (a : Int)]))) W := fun _ => rfl
    clear hV h512 hI hT h hc hl hf hlt
    go_enter Try.func22, Try.ntmps22
    go_wp2
    refine ⟨rfl, ?_⟩
    rw [HV.out]
    exact ⟨rfl, HM.out.bel⟩
  · rw [if_neg h512] at hV
    have e512 : ((d : Int) == 512) = false := beq_eq_false_iff_ne.2 (by omega)
    simp only at hV
    have hcl : (if b = true then (125 : Int) else 93) = clo b := rfl
    rw [hcl] at hV
    have HD := Aside0.mk (show d + 1 ≤ 512 by omega)
    have HV := Aside0.mk hV
    have HMd := Aside0.mk (h.setD (d + 1) ((d : Int) + 1) (by omega))
    clear hV h512 hI hT h hc hl hf hcl
    generalize htb : top b = tb at HC
    generalize hcb : clo b = cb at cl0 cl1
    have HTB := Aside0.mk htb
    have HCB := Aside0.mk hcb
    generalize hfn : fnOf b = fb
    have hrun : ∀ (args : Array Value) (w : World), (callFunc fb args).run Try.prog w = .ok (.enter fb args) w := by
      intro args w
      rw [← hfn]
      cases b
      · show (callFunc 15 args).run Try.prog w = .ok (.enter 15 args) w
        kernel_rfl
      · show (callFunc 23 args).run Try.prog w = .ok (.enter 23 args) w
        kernel_rfl
    have HFN := Aside0.mk hfn
    clear htb hcb hfn
    go_enter Try.func22, Try.ntmps22
    go_wp2_with fail
    have hsg := sign_calls W _ g P cP p a l (d + 1) 1 tb HT.out HMd.out (by omega)
    rw [if_pos HC.out] at hsg
    refine hsg.mono ?_
    rintro e w2 ⟨rfl, hs_⟩
    have HM2 := Aside0.mk hs_
    clear hs_ hsg c1 c3 f3
    have hbl := blanks_calls W w2 g P cP p (a + 1) _ (d + 1) HT.out HM2.out
    have hk := JSim.skip_le p (a + 1) (by have := HLL.out; omega)
    have hk2 := JSim.skip_ge p (a + 1)
    have hv := HV.out
    generalize skip p (a + 1) = k at hbl hk hk2 hv
    have hL0 : (l ++ [(1, (a : Int), 1)]).length ≤ k := by rw [List.length_append, List.length_cons, List.length_nil]; have := HLL.out; omega
    generalize l ++ [(1, (a : Int), 1)] = L at hbl hv hL0
    have HBL := Aside0.mk hbl
    have HV2 := Aside0.mk (show V = headP p f d b true k L from hv)
    clear hv hbl
    go_wp2_with fail
    refine HBL.out.mono ?_
    rintro e w3 ⟨rfl, hs_⟩
    have HM3 := Aside0.mk hs_
    clear hs_ HBL HM2
    go_wp2_with fail
    go_loopg [8] (p.length + 1 - k) (fun kq v8 w' => ∃ (k : Nat) (f' : Nat) (L : List (Int × Int × Int)) (first : Bool), v8 = .bool first ∧ Aside0 (k + kq = p.length + 1 ∧ k ≤ p.length ∧ L.length ≤ k ∧ 3 * (p.length - k) + 2 ≤ f' + (if first then 0 else 2) ∧ f' < f + 1) ∧ Aside0 (V = headP p f' d b first k L) ∧ Aside0 (St W w' g P cP p k L (d + 1)))
    case atStart => exact ⟨k, f, L, true, rfl, ⟨by have h1 := HF.out; have h2 := HLL.out; simp only [if_true]; omega⟩, HV2, HM3⟩
    case round =>
      clear HM3 HV2 HV hL0 hk hk2
      obtain ⟨k, f', L, first, rfl, HI, HV, HM⟩ := hrel
      have hk3 : (k : Int) ≤ 100000 := by have := HI.out; omega
      have hLl : L.length ≤ 100000 := by have := HI.out; omega
      have HSC := Aside0.mk (sees_c W g P cP p L (d + 1) HT.out k)
      have HS44 := Aside0.mk (fun h : sees p k = 44 => sees_some (p := p) h (by omega))
      have HSN := Aside0.mk (fun h : sees p k ≠ clo b => sees_none h)
      have HSY := Aside0.mk (fun h : sees p k = clo b => sees_some (p := p) h (clo_ne b))
      have hv := HV.out
      unfold headP at hv
      rw [restP_at] at hv
      generalize sees p k = x at hv HSC HS44 HSN HSY
      have HVV := Aside0.mk hv
      clear hv
      -- the two ways in which the loop ends
      have hclose : ∀ w1 : World, St W w1 g P cP p k L (d + 1) → (V = if x = clo b then Out.ok (k + 1) (L ++ [(2, (k : Int), 1)]) else .stop 5 k) →
          Calls Try.prog 34 #[.pointer (some ⟨g, 0, none⟩), .int .u8 2, .int .u8 cb] w1 (OutP W g P cP p (d + 1) V) := by
        intro w1 h1 h2
        have := sign_calls W w1 g P cP p k L (d + 1) 2 cb HT.out h1 (by omega)
        rw [h2]
        by_cases hx : x = clo b
        · rw [if_pos hx]
          rw [if_pos (show p[k]? = some cb by rw [← HCB.out]; exact HSY.out hx)] at this
          exact this
        · rw [if_neg hx]
          rw [if_neg (show ¬ p[k]? = some cb by rw [← HCB.out]; exact HSN.out hx)] at this
          exact this
      have HCL := Aside0.mk hclose
      clear hclose
      cases first with
      | true =>
        have hv := HVV.out
        rw [if_pos rfl] at hv
        by_cases hx : x = clo b
        · have HV3 := Aside0.mk (show V = if x = clo b then Out.ok (k + 1) (L ++ [(2, (k : Int), 1)]) else .stop 5 k by rw [hv, if_pos hx, if_pos hx])
          have t1 : (x != cb) = false := by rw [hx, HCB.out]; simp
          clear hv hx
          go_wp2_with fail
          refine (HSC.out _ HM.out).mono ?_
          rintro e w4 ⟨rfl, hs_⟩
          have HM4 := Aside0.mk hs_
          clear hs_
          go_wp2_with fail
          refine (HCL.out _ HM4.out HV3.out).mono ?_
          rintro e w5 hp
          clear HV HVV HV3
          cases V with
          | ok b_ l_ =>
            obtain ⟨rfl, hs_⟩ := hp
            have c3 := hs_.c3
            have f3 := hs_.fz 3
            have hz : ((d + 1 : Nat) : Int) - 1 = (d : Int) := by omega
            have HMo := Aside0.mk (hs_.setD d (d : Int) rfl)
            clear hs_
            go_wp2_with fail
            go_end0
            exact ⟨rfl, HMo.out⟩
          | stop x_ b_ =>
            obtain ⟨he_, hb_⟩ := hp
            have HBo := Aside0.mk hb_
            clear hb_
            unfold stopE at he_
            subst he_
            go_wp2_with fail
            exact ⟨rfl, rfl, HBo.out⟩
        · have t1 : (x != cb) = true := by rw [bne_iff_ne, ← HCB.out]; exact hx
          rw [if_neg hx] at hv
          have hpost := item_post p f' (d + 1) b k L HI.out.2.1 HI.out.2.2.1 (by have h4 := HI.out.2.2.2.1; simp only [if_true] at h4; omega)
          have hic := fun w1 (h1 : St W w1 g P cP p k L (d + 1)) => HIC.out f' HI.out.2.2.2.2 b w1 (d + 1) k L h1 HI.out.2.2.1 HD.out (by have h4 := HI.out.2.2.2.1; simp only [if_true] at h4; omega)
          generalize itemP p f' (d + 1) b k L = o at hv hpost hic
          have HPO := Aside0.mk hpost
          rw [HFN.out] at hic
          have HIC2 := Aside0.mk hic
          have HV3 := Aside0.mk hv
          clear hv hpost hic hx
          go_wp2_with fail
          refine (HSC.out _ HM.out).mono ?_
          rintro e w4 ⟨rfl, hs_⟩
          have HM4 := Aside0.mk hs_
          clear hs_
          go_wp2_with fail
          refine (HIC2.out _ HM4.out).mono ?_
          rintro e w5 hp
          cases o with
          | ok x_ l_ =>
            have hv := HV3.out
            simp only at hv
            obtain ⟨rfl, hs_⟩ := hp
            have HM5 := Aside0.mk hs_
            obtain ⟨q1, q2, q3⟩ := HPO.out
            have hbl := blanks_calls W w5 g P cP p x_ l_ (d + 1) HT.out hs_
            have hk5 := JSim.skip_ge p x_
            have hk6 := JSim.skip_le p x_ q2
            generalize skip p x_ = m at hbl hk5 hk6 hv
            have HBL := Aside0.mk hbl
            have HV4 := Aside0.mk hv
            have HQ := Aside0.mk (show k < x_ ∧ x_ ≤ m ∧ m ≤ p.length ∧ l_.length ≤ x_ from ⟨q1, hk5, hk6, q3⟩)
            have HFP := Aside0.mk (show 1 ≤ f' by have h1 := HI.out; simp only [if_true] at h1; omega)
            clear hs_ hbl hv q1 q2 q3 hk5 hk6
            go_wp2_with fail
            refine HBL.out.mono ?_
            rintro e w6 ⟨rfl, hs_⟩
            have HM6 := Aside0.mk hs_
            clear hs_
            go_wp2_with fail
            go_roundg (p.length + 1 - m)
            case measure => have h1 := HI.out; have h2 := HQ.out; omega
            case rel => exact ⟨m, f' - 1, l_, false, rfl, ⟨by have h1 := HI.out; have h2 := HQ.out; have h3 := HFP.out; simp only [if_true] at h1; simp only [Bool.false_eq_true, if_false]; omega⟩, ⟨by rw [HV4.out]; unfold headP; rw [if_neg (by decide), show f' - 1 + 1 = f' by have h3 := HFP.out; omega]⟩, HM6⟩
          | stop y_ x_ =>
            have hv := HV3.out
            simp only at hv
            have HV4 := Aside0.mk hv
            obtain ⟨he_, hb_⟩ := hp
            have HBo := Aside0.mk hb_
            clear hb_ hv
            unfold stopE at he_
            subst he_
            go_wp2_with fail
            refine ⟨rfl, ?_⟩
            rw [HV4.out]
            exact ⟨rfl, HBo.out⟩
      | false =>
        have hv := HVV.out
        rw [if_neg (by decide)] at hv
        by_cases hx : x = 44
        · rw [if_pos hx] at hv
          have t1 : (x == 44) = true := beq_iff_eq.2 hx
          have h44 := HS44.out hx
          have hkl := (List.getElem?_eq_some_iff.1 h44).1
          have hpost := item_post p f' (d + 1) b (k + 1) (L ++ [(3, (k : Int), 1)]) (by omega) (by have := HI.out.2.2.1; rw [List.length_append, List.length_cons, List.length_nil]; omega) (by have h4 := HI.out.2.2.2.1; simp only [Bool.false_eq_true, if_false] at h4; omega)
          have hic := fun w1 (h1 : St W w1 g P cP p (k + 1) (L ++ [(3, (k : Int), 1)]) (d + 1)) => HIC.out f' HI.out.2.2.2.2 b w1 (d + 1) (k + 1) (L ++ [(3, (k : Int), 1)]) h1 (by have := HI.out.2.2.1; rw [List.length_append, List.length_cons, List.length_nil]; omega) HD.out (by have h4 := HI.out.2.2.2.1; simp only [Bool.false_eq_true, if_false] at h4; omega)
          generalize itemP p f' (d + 1) b (k + 1) (L ++ [(3, (k : Int), 1)]) = o at hv hpost hic
          have HPO := Aside0.mk hpost
          rw [HFN.out] at hic
          have HIC2 := Aside0.mk hic
          have HV3 := Aside0.mk hv
          have H44 := Aside0.mk h44
          have HKL := Aside0.mk hkl
          clear hv hpost hic hx h44 hkl
          go_wp2_with fail
          refine (HSC.out _ HM.out).mono ?_
          rintro e w4 ⟨rfl, hs_⟩
          have HM4 := Aside0.mk hs_
          clear hs_
          go_wp2_with fail
          have hsg := sign_calls W w4 g P cP p k L (d + 1) 3 44 HT.out HM4.out (by omega)
          rw [if_pos H44.out] at hsg
          refine hsg.mono ?_
          rintro e w5 ⟨rfl, hs_⟩
          have HM5 := Aside0.mk hs_
          clear hs_ hsg
          go_wp2_with fail
          refine (HIC2.out _ HM5.out).mono ?_
          rintro e w6 hp
          cases o with
          | ok x_ l_ =>
            have hv := HV3.out
            simp only at hv
            obtain ⟨rfl, hs_⟩ := hp
            have HM6 := Aside0.mk hs_
            obtain ⟨q1, q2, q3⟩ := HPO.out
            have hbl := blanks_calls W w6 g P cP p x_ l_ (d + 1) HT.out hs_
            have hk5 := JSim.skip_ge p x_
            have hk6 := JSim.skip_le p x_ q2
            generalize skip p x_ = m at hbl hk5 hk6 hv
            have HBL := Aside0.mk hbl
            have HV4 := Aside0.mk hv
            have HQ := Aside0.mk (show k + 1 < x_ ∧ x_ ≤ m ∧ m ≤ p.length ∧ l_.length ≤ x_ from ⟨q1, hk5, hk6, q3⟩)
            have HFP := Aside0.mk (show 1 ≤ f' by have h1 := HI.out; have h2 := HKL.out; simp only [Bool.false_eq_true, if_false] at h1; omega)
            clear hs_ hbl hv q1 q2 q3 hk5 hk6
            go_wp2_with fail
            refine HBL.out.mono ?_
            rintro e w7 ⟨rfl, hs_⟩
            have HM7 := Aside0.mk hs_
            clear hs_
            go_wp2_with fail
            go_roundg (p.length + 1 - m)
            case measure => have h1 := HI.out; have h2 := HQ.out; omega
            case rel => exact ⟨m, f' - 1, l_, false, rfl, ⟨by have h1 := HI.out; have h2 := HQ.out; have h3 := HFP.out; simp only [Bool.false_eq_true, if_false] at h1; simp only [Bool.false_eq_true, if_false]; omega⟩, ⟨by rw [HV4.out]; unfold headP; rw [if_neg (by decide), show f' - 1 + 1 = f' by have h3 := HFP.out; omega]⟩, HM7⟩
          | stop y_ x_ =>
            have hv := HV3.out
            simp only at hv
            have HV4 := Aside0.mk hv
            obtain ⟨he_, hb_⟩ := hp
            have HBo := Aside0.mk hb_
            clear hb_ hv
            unfold stopE at he_
            subst he_
            go_wp2_with fail
            refine ⟨rfl, ?_⟩
            rw [HV4.out]
            exact ⟨rfl, HBo.out⟩
        · rw [if_neg hx] at hv
          have t1 : (x == 44) = false := beq_eq_false_iff_ne.2 hx
          have HV3 := Aside0.mk (show V = if x = clo b then Out.ok (k + 1) (L ++ [(2, (k : Int), 1)]) else .stop 5 k from hv)
          clear hv hx
          go_wp2_with fail
          refine (HSC.out _ HM.out).mono ?_
          rintro e w4 ⟨rfl, hs_⟩
          have HM4 := Aside0.mk hs_
          clear hs_
          go_wp2_with fail
          refine (HCL.out _ HM4.out HV3.out).mono ?_
          rintro e w5 hp
          clear HV HVV HV3
          cases V with
          | ok b_ l_ =>
            obtain ⟨rfl, hs_⟩ := hp
            have c3 := hs_.c3
            have f3 := hs_.fz 3
            have HMo := Aside0.mk (hs_.setD d (d : Int) rfl)
            clear hs_
            go_wp2_with fail
            go_end0
            exact ⟨rfl, HMo.out⟩
          | stop x_ b_ =>
            obtain ⟨he_, hb_⟩ := hp
            have HBo := Aside0.mk hb_
            clear hb_
            unfold stopE at he_
            subst he_
            go_wp2_with fail
            exact ⟨rfl, rfl, HBo.out⟩
theorem all_calls (hT : Txt W P cP p) : ∀ f, ValC W g P cP p f ∧ ItemC W g P cP p f := by
  intro f
  induction f using Nat.strongRecOn with
  | _ f ih =>
    cases f with
    | zero =>
      refine ⟨fun w d a l h hl hd hf => by omega, fun b w d a l h hl hd hf => by omega⟩
    | succ f =>
      exact ⟨value_calls W g P cP p f hT (list_calls W g P cP p f hT (fun f' hf' => (ih f' (by omega)).2)), pair_calls W g P cP p f hT (ih f (by omega)).1⟩
end
end Go.Proofs.Ytdgdnccpginclaa.JList
