/- Proved: the law SexpLists, called with what the form hands it, returns true and leaves old memory as it was; no condition. -/
import Derived.Test.YtfflfadfalacgaaSC
import Derived.Deep.CutRange
namespace Go.Proofs.Ytfflfadfalacgaa.LSexpLists
open Go.RowKit Go.Proofs.YtfflfadfalacgaaW.PrintWords Go.Proofs.YtfflfadfalacgaaW.PrintLast Go.Proofs.YtfflfadfalacgaaW.PrintMore
open Go.Proofs.Ytfflfadfalacgaa.SMem hiding Tok
open Go.Proofs.Ytfflfadfalacgaa.SPlain Go.Proofs.Ytfflfadfalacgaa.SRef Go.Proofs.Ytfflfadfalacgaa.SRd Go.Proofs.Ytfflfadfalacgaa.SParse Go.Proofs.Ytfflfadfalacgaa.STx Go.Proofs.Ytfflfadfalacgaa.SRead Go.Proofs.Ytfflfadfalacgaa.SW Go.Proofs.Ytfflfadfalacgaa.STl
set_option linter.unusedVariables false
set_option linter.unusedSimpArgs false
set_option maxHeartbeats 8000000
set_option maxRecDepth 100000
open Go.Proofs.Ytfflfadfalacgaa.SC Go.Proofs.Ytfflfadfalacgaa.SLaws Go.Proofs.Ytfflfadfalacgaa.SLists

def TB (m : Mach) (i : Int) : Prop := (∀ t ∈ m.l, 0 ≤ t.2.1 ∧ t.2.1 ≤ i) ∧ 0 ≤ m.frm ∧ m.frm ≤ i
theorem tb_up {m : Mach} {i j : Int} (h : TB m i) (hij : i ≤ j) : TB m j := ⟨fun t ht => by have := h.1 t ht; omega, h.2.1, by have := h.2.2; omega⟩
theorem tb_tok {m : Mach} {i : Int} (h : TB m i) (k a b : Int) (h0 : 0 ≤ a) (h1 : a ≤ i) : TB (mtok m k a b) i := by
  refine ⟨fun t ht => ?_, h.2⟩
  rcases List.mem_append.1 ht with ht | ht
  · exact h.1 t ht
  · simp at ht; subst ht; exact ⟨h0, h1⟩
theorem tb_st {m : Mach} {i : Int} (h : TB m i) (s d : Int) : TB { m with st := s, dep := d } i := h
theorem tb_frm {m : Mach} {i : Int} (h : TB m i) (h0 : 0 ≤ i) : TB { m with frm := i } i := ⟨h.1, h0, Int.le_refl _⟩
theorem tb_done {m : Mach} {i : Int} (h : TB m i) : TB (mdone m) i := h
theorem tb_start {m : Mach} {i : Int} (h : TB m i) (h0 : 0 ≤ i) (c : Int) : TB (mstart m c i).1 i := by
  have hf := tb_frm h h0
  unfold mstart
  split
  · exact tb_tok hf 6 i (i + 1) h0 (Int.le_refl _)
  · split
    · exact hf
    · split
      · split
        · exact hf
        · exact tb_tok (m := { m with frm := i, dep := m.dep + 1 }) hf 1 i (i + 1) h0 (Int.le_refl _)
      · split
        · exact hf
        · split
          · exact hf
          · exact hf
theorem tb_rest {m : Mach} {i : Int} (h : TB m i) (h0 : 0 ≤ i) (c : Int) : TB (mrest m c i).1 i := by
  unfold mrest
  split
  · exact h
  · split
    · exact h
    · split
      · exact tb_done (tb_tok (m := { m with dep := m.dep - 1 }) h 2 i (i + 1) h0 (Int.le_refl _))
      · exact tb_start h h0 c
theorem tb_feed {m : Mach} {i : Int} (h : TB m i) (h0 : 0 ≤ i) (c : Int) : TB (mfeed m c i).1 i := by
  unfold mfeed
  split
  · split
    · exact tb_done (tb_tok h 5 _ _ h.2.1 h.2.2)
    · split
      · exact h
      · exact h
  · split
    · exact h
    · split
      · split
        · exact h
        · exact tb_rest (tb_done (tb_tok h 5 _ _ h.2.1 h.2.2)) h0 c
      · split
        · split
          · exact tb_tok (m := { m with st := 0 }) h 6 _ _ h.2.1 h.2.2
          · exact tb_rest (tb_tok (m := { m with st := 0 }) h 6 _ _ h.2.1 h.2.2) h0 c
        · exact tb_rest h h0 c
theorem tb_go : ∀ (p : List Int) (m : Mach) (i : Int), TB m i → 0 ≤ i → TB (mgo m p i).1 (i + p.length)
  | [], m, i, h, _ => by simpa [mgo_nil] using h
  | c :: cs, m, i, h, h0 => by
    rw [mgo_cons]
    have hf := tb_feed h h0 c
    split
    · have := tb_go cs _ (i + 1) (tb_up hf (by omega)) (by omega)
      exact tb_up this (by simp; omega)
    · exact tb_up hf (by simp; omega)
theorem tok_bound (p : List Int) : ∀ t ∈ (mread p).1, 0 ≤ t.2.1 ∧ t.2.1 ≤ p.length := by
  have h := tb_go p m0 0 ⟨fun t ht => by simp [m0] at ht, by decide, by decide⟩ (by omega)
  rw [Int.zero_add] at h
  unfold mread
  split
  · unfold mend mlast
    have h2 : TB (if (mgo m0 p 0).1.st = 3 then mdone (mtok (mgo m0 p 0).1 5 (mgo m0 p 0).1.frm p.length) else (mgo m0 p 0).1) p.length := by
      split
      · exact tb_done (tb_tok h 5 _ _ h.2.1 h.2.2)
      · exact h
    generalize (if (mgo m0 p 0).1.st = 3 then mdone (mtok (mgo m0 p 0).1 5 (mgo m0 p 0).1.frm p.length) else (mgo m0 p 0).1) = z at h2
    split
    · exact h2.1
    · intro t ht; simp at ht
  · intro t ht; simp at ht
theorem sexpLists_calls (A : Option Addr) (c : Nat) (a : List Int) {w : World} (hR : (Kd.int .u8).C w A a.length a) (hm : a.length ≤ maxLen) (hw : ∀ x ∈ a, (Lit.int .u8 x).wf = true) (hc : a.length ≤ c)
    (B : Option Addr) (d : Nat) (b : List Int) (hR2 : (Kd.int .u8).C w B b.length b) (hm2 : b.length ≤ maxLen) (hw2 : ∀ x ∈ b, (Lit.int .u8 x).wf = true) (hc2 : b.length ≤ d) :
    Calls Try.prog 6 #[.slice A a.length c, .slice B b.length d] w fun e w' => e = .returned (.bool true) ∧ Below w.heap.size w w' := by
  have HR := Aside0.mk hR
  have HR2 := Aside0.mk hR2
  have HBY := Aside0.mk (wf_byte hw)
  have HBY2 := Aside0.mk (wf_byte hw2)
  have HB := Aside0.mk (Below.refl w.heap.size w)
  clear hR hw hm hc hR2 hw2 hm2 hc2
  by_cases hg : 60 < a.length
  · have hd : decide ((60 : Int) < (a.length : Int)) = true := decide_eq_true (by omega)
    go_enter Try.func6, Try.ntmps6
    go_wp2_with (first | (go_at_call 10; refine (SW.quotes_calls _).mono ?_; rintro e w_ ⟨rfl, hb⟩; have HBb := Aside0.mk (below_step HB.out hb); clear HB; have HB := HBb; clear HBb hb))
    go_ret
    exact ⟨rfl, HB.out⟩
  · have hd : decide ((60 : Int) < (a.length : Int)) = false := decide_eq_false (by omega)
    by_cases hg2 : 60 < b.length
    · have hd2 : decide ((60 : Int) < (b.length : Int)) = true := decide_eq_true (by omega)
      go_enter Try.func6, Try.ntmps6
      go_wp2_with (first | (go_at_call 10; refine (SW.quotes_calls _).mono ?_; rintro e w_ ⟨rfl, hb⟩; have HBb := Aside0.mk (below_step HB.out hb); clear HB; have HB := HBb; clear HBb hb))
      go_ret
      exact ⟨rfl, HB.out⟩
    · have hd2 : decide ((60 : Int) < (b.length : Int)) = false := decide_eq_false (by omega)
      have htb := txt_byte a
      have htl := txt_length a
      have HT := Aside0.mk (fun (w0 : World) (h : (Kd.int .u8).C w0 A a.length a) => text_calls A c a w0 h HBY.out (by omega))
      generalize txt a = p at htb htl HT
      have htb2 := txt_byte b
      have htl2 := txt_length b
      have HT2 := Aside0.mk (fun (w0 : World) (h : (Kd.int .u8).C w0 B b.length b) => text_calls B d b w0 h HBY2.out (by omega))
      generalize txt b = q at htb2 htl2 HT2
      obtain ⟨l, a1, e1, hmr, _, _, k1, _, k2, _⟩ := mread_some p
      obtain ⟨m, a2, e2, hmr2, _, _, j1, _, j2, _⟩ := mread_some q
      have hpl : p.length ≤ 60 := by omega
      have hql : q.length ≤ 60 := by omega
      have HMR := Aside0.mk hmr
      have HMR2 := Aside0.mk hmr2
      have HTB := Aside0.mk htb
      have HTB2 := Aside0.mk htb2
      have HK := Aside0.mk (And.intro k1 j1)
      clear hmr htb htl hg hmr2 htb2 htl2 hg2 k1 j1
      go_enter Try.func6, Try.ntmps6
      go_wp2_with (first | (go_at_call 10; refine (SW.quotes_calls _).mono ?_; rintro e w_ ⟨rfl, hb⟩; have HBb := Aside0.mk (below_step HB.out hb); clear HB; have HB := HBb; clear HBb hb) | fail)
      refine (HT.out _ (Kd.C_below HR.out HB.out)).mono ?_
      rintro e w0 ⟨v0, rfl, hr, hb⟩
      have HB0 := Aside0.mk (below_step HB.out hb)
      obtain ⟨A0, c0, rfl, hle, hC⟩ := Kd.R_reads hr
      have HC0 := Aside0.mk (And.intro hC hle)
      clear HB hb hr hC hle
      go_wp2_with fail
      refine (HT2.out _ (Kd.C_below HR2.out HB0.out)).mono ?_
      rintro e w1 ⟨v1, rfl, hr, hb⟩
      have HB1 := Aside0.mk (below_step HB0.out hb)
      obtain ⟨B0, d0, rfl, hle, hC⟩ := Kd.R_reads hr
      have HD1 := Aside0.mk (And.intro hC hle)
      have HC1 := Aside0.mk (And.intro (Kd.C_below HC0.out.1 hb) HC0.out.2)
      clear HB0 hb hr hC hle HC0
      go_wp2_with fail
      refine (sread_n A0 c0 p.length p _ rfl HC1.out.1 HTB.out (by omega) HC1.out.2 _ _ _ HMR.out).mono ?_
      rintro e w2 ⟨v2, rfl, hr, hb⟩
      have HB2 := Aside0.mk (below_step HB1.out hb)
      have HC2 := Aside0.mk (Kd.C_below HC1.out.1 hb)
      have HD2 := Aside0.mk (And.intro (Kd.C_below HD1.out.1 hb) HD1.out.2)
      obtain ⟨A1, c1, rfl, _, hC⟩ := Kd.R_reads hr
      have HL2 := Aside0.mk hC
      clear HB1 hb hr hC HC1 HD1
      go_wp2_with fail
      refine (sread_n B0 d0 q.length q _ rfl HD2.out.1 HTB2.out (by omega) HD2.out.2 _ _ _ HMR2.out).mono ?_
      rintro e w3 ⟨v3, rfl, hr, hb⟩
      have HB3 := Aside0.mk (below_step HB2.out hb)
      have HC3 := Aside0.mk (Kd.C_below HC2.out hb)
      have HD3 := Aside0.mk (Kd.C_below HD2.out.1 hb)
      have HL3 := Aside0.mk (Kd.C_below HL2.out hb)
      obtain ⟨B1, d1, rfl, _, hC⟩ := Kd.R_reads hr
      clear HB2 hb hr hC HC2 HD2 HL2
      by_cases hz1 : e1 = 0
      · by_cases hz2 : e2 = 0
        · obtain rfl : a1 = 0 := HK.out.1 hz1
          obtain rfl : a2 = 0 := HK.out.2 hz2
          subst hz1 hz2
          have hll := lists_law p q l m HMR.out HMR2.out (by omega) (by omega)
          have hbd := tok_bound p
          rw [HMR.out] at hbd
          simp only at hbd
          obtain ⟨N, hN⟩ : ∃ N, N = ((6, 0, 1) :: (1, 1, 1) :: (shift 2 l ++ (shift (p.length + 3) m ++ [(2, (p.length : Int) + q.length + 3, 1)])) : List (Int × Int × Int)) := ⟨_, rfl⟩
          rw [← hN] at hll
          have hNl : N.length = l.length + m.length + 3 := by rw [hN]; simp [shift]; omega
          have hN0 : N.getD 0 tz = (6, 0, 1) := by rw [hN]; rfl
          have hN1 : N.getD 1 tz = (1, 1, 1) := by rw [hN]; rfl
          have hNi : ∀ i, i < l.length → N.getD (i + 2) tz = ((l.getD i tz).1, (l.getD i tz).2.1 + 2, (l.getD i tz).2.2) := by
            intro i hi
            rw [hN]
            simp [shift, List.getD_eq_getElem?_getD, List.getElem?_append, hi]
          have hNe : (N.getD (l.length + m.length + 2) tz).1 = 2 := by
            rw [hN]
            simp [shift, List.getD_eq_getElem?_getD, List.getElem?_append]
          have HLL := Aside0.mk hll
          have HNL := Aside0.mk hNl
          have HN0 := Aside0.mk (And.intro hN0 hN1)
          have HNI := Aside0.mk hNi
          have HNE := Aside0.mk hNe
          have HBD := Aside0.mk hbd
          have HQ := Aside0.mk (show ByteL ([39, 40] ++ p ++ [32] ++ q ++ [41]) by
            intro x hx
            simp only [List.mem_append, List.mem_cons, List.not_mem_nil, or_false] at hx
            rcases hx with (((hx | hx) | hx) | hx) | hx
            · omega
            · exact HTB.out x hx
            · omega
            · exact HTB2.out x hx
            · omega)
          have HBZ := Aside0.mk (Below.refl w3.heap.size w3)
          have n1 : (N.length : Int) = (l.length : Int) + (m.length : Int) + 3 := by omega
          have n2 : ((N.length : Int) != (l.length : Int) + (m.length : Int) + 3) = false := by rw [n1]; simp
          clear hll hbd hN hNl hN0 hN1 hNi hNe n1
          go_upto_region 8 with (fail)
          go_cut [13] from 53 to 55 (fun v13 wx => Aside0 ((Kd.int .u8).R 5 wx w3.heap.size (fun _ => True) v13 []) ∧ wx = w3)
          case first =>
            go_wp2_with fail
            go_meet
            case rel => exact ⟨⟨Kd.R_nil _ _ _ _ _⟩, rfl⟩
          case rest =>
          obtain ⟨HO4, hwc⟩ := hcut
          replace hwc := hwc.symm
          subst hwc
          obtain ⟨A4, c4, e4, hle4, hC4⟩ := Kd.R_reads HO4.out
          subst e4
          clear hle4 hC4
          go_wp2_with (first | ((with_reducible refine gate_builtin (b := .append) (xs := #[.tmp 53, .tmp 54]) rfl ?_); at_builtin; refine app_u8 w3.heap.size rfl (.tmp 53) (.tmp 54) rfl (.slice A4 0 c4) [] [39, 40] (some ⟨_, 0, none⟩) 2 2 rfl rfl (Kd.R_alloc HO4.out _) (lit_C _ [39, 40] (0, 0) _ rfl (by simp)) rfl (HBZ.out.alloc (by first | exact Nat.le_refl _ | omega) _) (by first | exact Nat.le_refl _ | (simp; done) | (simp; have := below_size HBZ.out; omega) | exact (below_size HBZ.out)) (by first | (simp; done) | (simp; omega)) ?_; intro v4 w4 ho hb; (try (rw [List.nil_append] at ho)); obtain ⟨A5, c5, e5_, hle, hC⟩ := Kd.R_reads ho; have hlen : (([39, 40] : List Int)).length = 2 := (by first | (simp; done) | (simp; omega)); rw [hlen] at e5_ hle; subst e5_; have HC5 := Aside0.mk (And.intro hC hle); have HO5 := Aside0.mk ho; have HB5 := Aside0.mk hb; clear ho hb hC hle hlen) | ((with_reducible refine gate_builtin (b := .append) (xs := #[.tmp 56, .tmp 57]) rfl ?_); at_builtin; refine app_u8 w3.heap.size rfl (.tmp 56) (.tmp 57) rfl (.slice A5 2 c5) [39, 40] p A0 p.length c0 rfl rfl HO5.out (Kd.C_below HC3.out HB5.out) rfl HB5.out (by first | exact Nat.le_refl _ | (simp; done) | (simp; have := below_size HB5.out; omega) | exact (below_size HB5.out)) (by first | (simp; done) | (simp; omega)) ?_; intro v4 w4 ho hb; (try (rw [List.nil_append] at ho)); obtain ⟨A6, c6, e6_, hle, hC⟩ := Kd.R_reads ho; have hlen : (([39, 40] ++ p : List Int)).length = 2 + p.length := (by first | (simp; done) | (simp; omega)); rw [hlen] at e6_ hle; subst e6_; have HC6 := Aside0.mk (And.intro hC hle); have HO6 := Aside0.mk ho; have HB6 := Aside0.mk hb; clear ho hb hC hle hlen) | ((with_reducible refine gate_builtin (b := .append) (xs := #[.tmp 59, .tmp 60]) rfl ?_); at_builtin; refine app_u8 w3.heap.size rfl (.tmp 59) (.tmp 60) rfl (.slice A6 (2 + p.length) c6) ([39, 40] ++ p) [32] (some ⟨_, 0, none⟩) 1 1 rfl rfl (Kd.R_alloc HO6.out _) (lit_C _ [32] (0, 0) _ rfl (by simp)) rfl (HB6.out.alloc (below_size HB6.out) _) (by first | exact Nat.le_refl _ | (simp; done) | (simp; have := below_size HB6.out; omega) | exact (below_size HB6.out)) (by first | (simp; done) | (simp; omega)) ?_; intro v4 w4 ho hb; (try (rw [List.nil_append] at ho)); obtain ⟨A7, c7, e7_, hle, hC⟩ := Kd.R_reads ho; have hlen : ((([39, 40] ++ p) ++ [32] : List Int)).length = 2 + p.length + 1 := (by first | (simp; done) | (simp; omega)); rw [hlen] at e7_ hle; subst e7_; have HC7 := Aside0.mk (And.intro hC hle); have HO7 := Aside0.mk ho; have HB7 := Aside0.mk hb; clear ho hb hC hle hlen) | ((with_reducible refine gate_builtin (b := .append) (xs := #[.tmp 62, .tmp 63]) rfl ?_); at_builtin; refine app_u8 w3.heap.size rfl (.tmp 62) (.tmp 63) rfl (.slice A7 (2 + p.length + 1) c7) ([39, 40] ++ p ++ [32]) q B0 q.length d0 rfl rfl HO7.out (Kd.C_below HD3.out HB7.out) rfl HB7.out (by first | exact Nat.le_refl _ | (simp; done) | (simp; have := below_size HB7.out; omega) | exact (below_size HB7.out)) (by first | (simp; done) | (simp; omega)) ?_; intro v4 w4 ho hb; (try (rw [List.nil_append] at ho)); obtain ⟨A8, c8, e8_, hle, hC⟩ := Kd.R_reads ho; have hlen : ((([39, 40] ++ p ++ [32]) ++ q : List Int)).length = 2 + p.length + 1 + q.length := (by first | (simp; done) | (simp; omega)); rw [hlen] at e8_ hle; subst e8_; have HC8 := Aside0.mk (And.intro hC hle); have HO8 := Aside0.mk ho; have HB8 := Aside0.mk hb; clear ho hb hC hle hlen) | ((with_reducible refine gate_builtin (b := .append) (xs := #[.tmp 65, .tmp 66]) rfl ?_); at_builtin; refine app_u8 w3.heap.size rfl (.tmp 65) (.tmp 66) rfl (.slice A8 (2 + p.length + 1 + q.length) c8) ([39, 40] ++ p ++ [32] ++ q) [41] (some ⟨_, 0, none⟩) 1 1 rfl rfl (Kd.R_alloc HO8.out _) (lit_C _ [41] (0, 0) _ rfl (by simp)) rfl (HB8.out.alloc (below_size HB8.out) _) (by first | exact Nat.le_refl _ | (simp; done) | (simp; have := below_size HB8.out; omega) | exact (below_size HB8.out)) (by first | (simp; done) | (simp; omega)) ?_; intro v4 w4 ho hb; (try (rw [List.nil_append] at ho)); obtain ⟨A9, c9, e9_, hle, hC⟩ := Kd.R_reads ho; have hlen : ((([39, 40] ++ p ++ [32] ++ q) ++ [41] : List Int)).length = 2 + p.length + 1 + q.length + 1 := (by first | (simp; done) | (simp; omega)); rw [hlen] at e9_ hle; subst e9_; have HC9 := Aside0.mk (And.intro hC hle); have HO9 := Aside0.mk ho; have HB9 := Aside0.mk hb; clear ho hb hC hle hlen) | fail)
          refine (sread_n A9 c9 (2 + p.length + 1 + q.length + 1) ([39, 40] ++ p ++ [32] ++ q ++ [41]) _ (by simp; omega) HC9.out.1 HQ.out (by simp; omega) HC9.out.2 _ _ _ (by have := HLL.out; simpa using this)).mono ?_
          rintro e w10 ⟨v10, rfl, hr, hb⟩
          have HBT := Aside0.mk (below_step HB9.out hb)
          have HLT0 := Aside0.mk (Kd.C_below HL3.out HBT.out)
          have HBW := Aside0.mk (below_step HB3.out HBT.out)
          obtain ⟨g, cN, rfl, hgb, hgl, cells, hcells⟩ := Kd.R_form hr (by have := HNL.out; omega)
          obtain ⟨_, _, hC⟩ := Kd.R_reads' hr
          have HCN := Aside0.mk hC
          clear hr hb hgb hgl hcells hC HBZ
          go_wp2_with fail
          go_loopg [17] l.length (fun kq v17 w' => ∃ i : Nat, v17 = .int .i64 (i : Int) ∧ Aside0 (i + kq = l.length) ∧ ∃ n, w' = w10.drewN n)
          case atStart => exact ⟨0, rfl, ⟨by omega⟩, 0, rfl⟩
          case round =>
            obtain ⟨i, rfl, HI, n, rfl⟩ := hrel
            have hi1 : (i : Int) ≤ 1000 := by have := HI.out; omega
            by_cases hlt : i < l.length
            · have HLT := Aside0.mk hlt
              have hlt' : decide ((i : Int) < (l.length : Int)) = true := decide_eq_true (by omega)
              obtain ⟨a1, ea, x1, x2, x3⟩ := tok_C HLT0.out i hlt
              obtain ⟨a2, eb, y1, y2, y3⟩ := tok_C HCN.out (i + 2) (by have := HNL.out; omega)
              cases ea
              cases eb
              rw [HNI.out i hlt] at y1 y2 y3
              rw [add_plain] at y1 y2 y3
              simp only at y1 y2 y3
              have hbd := HBD.out (l.getD i tz) (by rw [List.getD_eq_getElem?_getD, List.getElem?_eq_getElem hlt]; simp)
              have p0 : (0 : Int) ≤ (i : Int) := by omega
              have p1 : (i : Int) < (l.length : Int) := by omega
              have q0 : (0 : Int) ≤ (i : Int) + 2 := by omega
              have q1 : (i : Int) + 2 < (N.length : Int) := by have := HNL.out; omega
              have qt : ((i : Int) + 2).toNat = i + 2 := by omega
              have qw : IntKind.i64.wrap ((i : Int) + 2) = (i : Int) + 2 := IntWalk.i64_in _ (by omega)
              generalize l.getD i tz = t at x1 x2 x3 y1 y2 y3 hbd
              obtain ⟨t1, t2, t3⟩ := t
              simp only at x1 x2 x3 y1 y2 y3 hbd
              obtain ⟨hb0, hb1⟩ := hbd
              have qx : IntKind.i64.wrap (t2 + 2) = t2 + 2 := IntWalk.i64_in _ (by omega)
              have z1 : (t2 + 2 != t2 + 2) = false := by simp
              have z2 : (t3 != t3) = false := by simp
              have z3 : (t1 != t1) = false := by simp
              go_wp2_with fail
              go_quiet (fail)
              simp only [Exit.then]
              apply_assumption
              clear qw qt qx
              go_wp2
              go_roundg (l.length - (i + 1))
              case measure => have := HI.out; have := HLT.out; omega
              case rel => exact ⟨i + 1, by go_num, ⟨by have := HLT.out; omega⟩, n + nq, by first | rfl | rw [World.drewN_drewN]⟩
            · have hlt' : decide ((i : Int) < (l.length : Int)) = false := decide_eq_false (by omega)
              have hlt2 : decide (i < l.length) = false := decide_eq_false hlt
              obtain ⟨a2, eb, y1, _, _⟩ := tok_C HCN.out 0 (by have := HNL.out; omega)
              cases eb
              obtain ⟨a2, eb, y2, _, _⟩ := tok_C HCN.out 1 (by have := HNL.out; omega)
              cases eb
              obtain ⟨a2, eb, y3, _, _⟩ := tok_C HCN.out (l.length + m.length + 2) (by have := HNL.out; omega)
              cases eb
              rw [HN0.out.1] at y1
              rw [HN0.out.2] at y2
              rw [HNE.out] at y3
              have z0 : (w10.drewN n).cell? ⟨g, 0, none⟩ = some (.int .u8 6) := y1
              have z1 : (w10.drewN n).cell? ⟨g, 3, none⟩ = some (.int .u8 1) := y2
              have z2 : (w10.drewN n).cell? ((⟨g, 0, none⟩ : Addr).add ((l.length + m.length + 2) * 3)) = some (.int .u8 2) := y3
              rw [add_plain] at z2
              have hN3 : N.length = l.length + m.length + 3 := HNL.out
              go_wp2_with fail
              go_ret
              exact ⟨rfl, pw_below_drewN HBW.out n⟩
        · have z2 : (e2 != 0) = true := by rw [bne_iff_ne]; exact hz2
          subst hz1
          clear hz2
          go_wp2_with fail
          go_ret
          exact ⟨rfl, HB3.out⟩
      · have z1 : (e1 != 0) = true := by rw [bne_iff_ne]; exact hz1
        clear hz1
        go_wp2_with fail
        go_ret
        exact ⟨rfl, HB3.out⟩
end Go.Proofs.Ytfflfadfalacgaa.LSexpLists
