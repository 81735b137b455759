/- Proved: the law SexpTexts, called with what the form hands it, returns true and leaves old memory as it was; no condition. -/
import Derived.Test.YtfflfadfalacgaaSC
namespace Go.Proofs.Ytfflfadfalacgaa.LSexpTexts
open Go.RowKit Go.Proofs.YtfflfadfalacgaaW.PrintWords Go.Proofs.YtfflfadfalacgaaW.PrintLast Go.Proofs.YtfflfadfalacgaaW.PrintMore
open Go.Proofs.Ytfflfadfalacgaa.SMem hiding Tok
open Go.Proofs.Ytfflfadfalacgaa.SPlain Go.Proofs.Ytfflfadfalacgaa.SRef Go.Proofs.Ytfflfadfalacgaa.SRd Go.Proofs.Ytfflfadfalacgaa.SParse Go.Proofs.Ytfflfadfalacgaa.STx Go.Proofs.Ytfflfadfalacgaa.SRead Go.Proofs.Ytfflfadfalacgaa.SW Go.Proofs.Ytfflfadfalacgaa.STl
set_option linter.unusedVariables false
set_option linter.unusedSimpArgs false
set_option maxHeartbeats 8000000
set_option maxRecDepth 100000
open Go.Proofs.Ytfflfadfalacgaa.SC Go.Proofs.Ytfflfadfalacgaa.SLaws Go.Proofs.Ytfflfadfalacgaa.SLists

def ttq (l : List Int) : List Int := 34 :: esc l
theorem ttq_snoc (l : List Int) (i : Nat) (h : i < l.length) : ttq (l.take (i + 1)) = if l.getD i 0 = 34 ∨ l.getD i 0 = 92 then ttq (l.take i) ++ [92] ++ [l.getD i 0] else ttq (l.take i) ++ [l.getD i 0] := by
  unfold ttq
  rw [List.take_succ_eq_append_getElem h, esc_append, List.getD_eq_getElem?_getD, List.getElem?_eq_getElem h]
  simp only [Option.getD_some, esc]
  split <;> simp
theorem esc_byte {l : List Int} (h : ByteL l) : ByteL (esc l) := by
  induction l with
  | nil => intro x hx; simp [esc] at hx
  | cons c t ih =>
    have hc := h c (by simp)
    have ht := ih (fun x hx => h x (by simp [hx]))
    intro x hx
    unfold esc at hx
    split at hx
    · rcases List.mem_cons.1 hx with rfl | hx
      · decide
      · rcases List.mem_cons.1 hx with rfl | hx
        · exact hc
        · exact ht x hx
    · rcases List.mem_cons.1 hx with rfl | hx
      · exact hc
      · exact ht x hx
theorem esc_len (l : List Int) : (esc l).length ≤ 2 * l.length := by
  induction l with
  | nil => simp [esc]
  | cons c t ih => unfold esc; split <;> simp <;> omega
theorem ttq_len (l : List Int) : (ttq l).length ≤ 2 * l.length + 1 := by unfold ttq; have := esc_len l; simp; omega
theorem ttq_byte {l : List Int} (h : ByteL l) : ByteL (ttq l) := by
  intro x hx
  rcases List.mem_cons.1 hx with rfl | hx
  · decide
  · exact esc_byte h x hx
theorem ttq_read (l : List Int) : mread (ttq l ++ [34]) = ([(5, 0, (((ttq l).length + 1 : Nat) : Int))], 0, 0) ∧ mread (ttq l) = ([], ((ttq l).length : Int), 5) := by
  obtain ⟨h1, h2⟩ := texts_law l
  unfold ttq
  constructor
  · rw [List.cons_append, h1]; simp; omega
  · rw [h2]; simp
theorem sexpTexts_calls (A : Option Addr) (c : Nat) (l : List Int) {w : World} (hR : (Kd.int .u8).C w A l.length l) (hm : l.length ≤ maxLen) (hw : ∀ x ∈ l, (Lit.int .u8 x).wf = true) (hc : l.length ≤ c) :
    Calls Try.prog 9 #[.slice A l.length c] w fun e w' => e = .returned (.bool true) ∧ Below w.heap.size w w' := by
  obtain ⟨i5, hi5, hz5, hs5, hb5⟩ := info_parts info5
  clear hz5 hs5 hb5
  have HR := Aside0.mk hR
  have HBY := Aside0.mk (wf_byte hw)
  have HB := Aside0.mk (Below.refl w.heap.size w)
  clear hR hw hm hc
  by_cases hg : 300 < l.length
  · have hd : decide ((300 : Int) < (l.length : Int)) = true := decide_eq_true (by omega)
    go_enter Try.func9, Try.ntmps9
    go_wp2_with (first | (go_at_call 10; refine (SW.quotes_calls _).mono ?_; rintro e w_ ⟨rfl, hb⟩; have HBb := Aside0.mk (below_step HB.out hb); clear HB; have HB := HBb; clear HBb hb))
    go_ret
    exact ⟨rfl, HB.out⟩
  · have hd : decide ((300 : Int) < (l.length : Int)) = false := decide_eq_false (by omega)
    go_enter Try.func9, Try.ntmps9
    go_wp2_with (first | (go_at_call 10; refine (SW.quotes_calls _).mono ?_; rintro e w_ ⟨rfl, hb⟩; have HBb := Aside0.mk (below_step HB.out hb); clear HB; have HB := HBb; clear HBb hb))
    have HO := Aside0.mk (lit_R _ w.heap.size [34] (below_size HB.out) (by decide) _ rfl)
    go_loopg [3, 4] l.length (fun kq v3 v4 w' => ∃ i : Nat, v4 = .int .i64 (i : Int) ∧ Aside0 (i + kq = l.length) ∧ Aside0 ((Kd.int .u8).R 5 w' w.heap.size (fun _ => True) v3 (ttq (l.take i))) ∧ Aside0 (Below w.heap.size w w'))
    case atStart => exact ⟨0, rfl, ⟨by omega⟩, HO, ⟨below_alloc HB.out _⟩⟩
    case round =>
      clear HB HO
      obtain ⟨i, rfl, HI, HO, HB⟩ := hrel
      have hi1 : (i : Int) ≤ 300 := by have := HI.out; omega
      by_cases hlt : i < l.length
      · have HLT := Aside0.mk hlt
        have hlt' : decide ((i : Int) < (l.length : Int)) = true := decide_eq_true (by omega)
        obtain ⟨ad, ea, hx⟩ := at_nat HR.out i hlt
        cases ea
        have HX := Aside0.mk hx
        replace hx := (HB.out.cell (World.block_lt_of_cell? w _ hx)).trans hx
        have hbx := HBY.out (l.getD i 0) (by rw [List.getD_eq_getElem?_getD, List.getElem?_eq_getElem hlt]; simp)
        have htk := ttq_snoc l i hlt
        generalize l.getD i 0 = x at hx hbx htk HX
        obtain ⟨hx0, hx1⟩ := hbx
        have p0 : (0 : Int) ≤ (i : Int) := by omega
        have p1 : (i : Int) < (l.length : Int) := by omega
        have hsz : (ttq (l.take i)).length ≤ 601 := by have := ttq_len (l.take i); rw [List.length_take] at this; omega
        obtain ⟨A3, c3, e3, hle3, hC3⟩ := Kd.R_reads HO.out
        subst e3
        generalize ttq (l.take i) = t at HO htk hsz
        clear hle3 hC3
        by_cases h34 : x = 34
        · rw [if_pos (.inl h34)] at htk
          have HTK := Aside0.mk htk
          subst h34
          clear htk
          go_wp2_with (first | ((with_reducible refine gate_builtin (b := .append) (xs := #[.tmp 38, .tmp 39]) rfl ?_); at_builtin; refine app_u8 w.heap.size rfl (.tmp 38) (.tmp 39) rfl (.slice A3 t.length c3) t [92] (some ⟨_, 0, none⟩) 1 1 rfl rfl (Kd.R_alloc HO.out _) (lit_C _ [92] (0, 0) _ rfl (by simp)) rfl (below_alloc HB.out _) (by simp; have := below_size HB.out; omega) (by omega) ?_; intro v4 w4 ho hb; have hx4 := (hb.cell (World.block_lt_of_cell? w _ HX.out)).trans HX.out; obtain ⟨A4, c4, e4, hle4, hC4⟩ := Kd.R_reads ho; rw [List.length_append, List.length_cons, List.length_nil, Nat.zero_add] at e4; subst e4; clear hle4 hC4; have HO4 := Aside0.mk ho; have HB4 := Aside0.mk hb; clear ho hb) | ((with_reducible refine gate_builtin (b := .append) (xs := #[.tmp 41, .tmp 46]) rfl ?_); at_builtin; refine app_u8 w.heap.size rfl (.tmp 41) (.tmp 46) rfl (.slice A4 (t.length + 1) c4) (t ++ [92]) [34] (some ⟨_, 0, none⟩) 1 1 rfl rfl (Kd.R_alloc HO4.out _) (lit_C _ [34] (0, 0) _ rfl (by simp)) rfl (below_alloc HB4.out _) (by simp; have := below_size HB4.out; omega) (by simp; omega) ?_; intro v4 w4 ho hb; have HO6 := Aside0.mk ho; have HB6 := Aside0.mk hb; clear ho hb))
          go_roundg (l.length - (i + 1))
          case measure => have := HI.out; have := HLT.out; omega
          case rel => exact ⟨i + 1, by go_num, ⟨by have := HLT.out; omega⟩, ⟨by rw [HTK.out]; exact HO6.out⟩, HB6⟩
        · by_cases h92 : x = 92
          · rw [if_pos (.inr h92)] at htk
            have HTK := Aside0.mk htk
            subst h92
            clear htk
            go_wp2_with (first | ((with_reducible refine gate_builtin (b := .append) (xs := #[.tmp 38, .tmp 39]) rfl ?_); at_builtin; refine app_u8 w.heap.size rfl (.tmp 38) (.tmp 39) rfl (.slice A3 t.length c3) t [92] (some ⟨_, 0, none⟩) 1 1 rfl rfl (Kd.R_alloc HO.out _) (lit_C _ [92] (0, 0) _ rfl (by simp)) rfl (below_alloc HB.out _) (by simp; have := below_size HB.out; omega) (by omega) ?_; intro v4 w4 ho hb; have hx4 := (hb.cell (World.block_lt_of_cell? w _ HX.out)).trans HX.out; obtain ⟨A4, c4, e4, hle4, hC4⟩ := Kd.R_reads ho; rw [List.length_append, List.length_cons, List.length_nil, Nat.zero_add] at e4; subst e4; clear hle4 hC4; have HO4 := Aside0.mk ho; have HB4 := Aside0.mk hb; clear ho hb) | ((with_reducible refine gate_builtin (b := .append) (xs := #[.tmp 41, .tmp 46]) rfl ?_); at_builtin; refine app_u8 w.heap.size rfl (.tmp 41) (.tmp 46) rfl (.slice A4 (t.length + 1) c4) (t ++ [92]) [92] (some ⟨_, 0, none⟩) 1 1 rfl rfl (Kd.R_alloc HO4.out _) (lit_C _ [92] (0, 0) _ rfl (by simp)) rfl (below_alloc HB4.out _) (by simp; have := below_size HB4.out; omega) (by simp; omega) ?_; intro v4 w4 ho hb; have HO6 := Aside0.mk ho; have HB6 := Aside0.mk hb; clear ho hb))
            go_roundg (l.length - (i + 1))
            case measure => have := HI.out; have := HLT.out; omega
            case rel => exact ⟨i + 1, by go_num, ⟨by have := HLT.out; omega⟩, ⟨by rw [HTK.out]; exact HO6.out⟩, HB6⟩
          · rw [if_neg (by omega)] at htk
            have e34 : (x == 34) = false := beq_eq_false_iff_ne.2 h34
            have e92 : (x == 92) = false := beq_eq_false_iff_ne.2 h92
            have HTK := Aside0.mk htk
            clear htk h34 h92
            go_wp2_with (first | ((with_reducible refine gate_builtin (b := .append) (xs := #[.tmp 41, .tmp 46]) rfl ?_); at_builtin; refine app_u8 w.heap.size rfl (.tmp 41) (.tmp 46) rfl (.slice A3 t.length c3) t [x] (some ⟨_, 0, none⟩) 1 1 rfl rfl (Kd.R_alloc HO.out _) (lit_C _ [x] (0, 0) _ rfl (by simp)) rfl (below_alloc HB.out _) (by simp; have := below_size HB.out; omega) (by omega) ?_; intro v4 w4 ho hb; have HO4 := Aside0.mk ho; have HB4 := Aside0.mk hb; clear ho hb))
            go_roundg (l.length - (i + 1))
            case measure => have := HI.out; have := HLT.out; omega
            case rel => exact ⟨i + 1, by go_num, ⟨by have := HLT.out; omega⟩, ⟨by rw [HTK.out]; exact HO4.out⟩, HB4⟩
      · have hlt' : decide ((i : Int) < (l.length : Int)) = false := decide_eq_false (by omega)
        have hlt2 : decide (i < l.length) = false := decide_eq_false hlt
        have e : i = l.length := by have := HI.out; omega
        subst e
        have ho2 := HO.out
        rw [List.take_length] at ho2
        obtain ⟨hm1, hm2⟩ := ttq_read l
        have hby := ttq_byte HBY.out
        have hle := ttq_len l
        have hby2 : ByteL (ttq l ++ [34]) := by
          intro x hx
          rcases List.mem_append.1 hx with hx | hx
          · exact hby x hx
          · simp at hx; subst hx; decide
        generalize ttq l = t at ho2 hm1 hm2 hby hle hby2
        obtain ⟨A3, c3, e3, hle3, hC3⟩ := Kd.R_reads ho2
        subst e3
        have HO2 := Aside0.mk ho2
        have HM1 := Aside0.mk hm1
        have HM2 := Aside0.mk hm2
        have HQB := Aside0.mk hby
        have HQB2 := Aside0.mk hby2
        have hsz : t.length ≤ 601 := by omega
        clear ho2 hm1 hm2 hby hC3 hle3 HO hle hby2
        go_wp2_with (first | ((with_reducible refine gate_builtin (b := .append) (xs := #[.tmp 48, .tmp 49]) rfl ?_); at_builtin; refine app_u8 w.heap.size rfl (.tmp 48) (.tmp 49) rfl (.slice A3 t.length c3) t [34] (some ⟨_, 0, none⟩) 1 1 rfl rfl (Kd.R_alloc HO2.out _) (lit_C _ [34] (0, 0) _ rfl (by simp)) rfl (below_alloc HB.out _) (by simp; have := below_size HB.out; omega) (by omega) ?_; intro v4 w4 ho hb; have HB4 := Aside0.mk hb; obtain ⟨A5, c5, e5, hle5, hC5⟩ := Kd.R_reads ho; rw [List.length_append, List.length_cons, List.length_nil, Nat.zero_add] at e5 hle5; subst e5; have HC5 := Aside0.mk (And.intro hC5 hle5); clear ho hb hle5 hC5) | fail)
        refine (sread_n A5 c5 (t.length + 1) (t ++ [34]) _ (by simp) HC5.out.1 HQB2.out (by simp; omega) HC5.out.2 _ _ _ HM1.out).mono ?_
        rintro e w1 ⟨v1, rfl, hr, hb⟩
        have HB1 := Aside0.mk (below_step HB4.out hb)
        have HC6 := Aside0.mk (Kd.C_below HC5.out.1 hb)
        obtain ⟨g, c1, rfl, hgb, hgl, cells, hcells⟩ := Kd.R_form hr (by simp)
        obtain ⟨_, _, hC⟩ := Kd.R_reads' hr
        obtain ⟨ad, ea, k0, k1, k2⟩ := tok_C hC 0 (by simp)
        cases ea
        have HK := Aside0.mk (show w1.cell? ⟨g, 0, none⟩ = some (.int .u8 5) ∧ w1.cell? ⟨g, 1, none⟩ = some (.int .i64 0) ∧ w1.cell? ⟨g, 2, none⟩ = some (.int .i64 ((t.length + 1 : Nat) : Int)) from ⟨k0, k1, k2⟩)
        have HG := Aside0.mk hgl
        have HCT := Aside0.mk (show (Kd.int .u8).C w1 A5 t.length t by
          have := Kd.C_take (m := t.length) HC6.out (by simp)
          rw [List.take_left'] at this
          · exact this
          · rfl)
        have hcut := cut_to 22 5 .i64 Try.underlying22 hi5 A5 (t.length + 1) c5 (t.length : Int) (by omega) (by omega) HC5.out.2
        clear hr hb hgb hgl hcells hC k0 k1 k2 HB
        go_wp2_with fail
        refine (sread_n A5 c5 t.length t _ rfl HCT.out HQB.out (by omega) (by have := HC5.out.2; omega) _ _ _ HM2.out).mono ?_
        rintro e w2 ⟨v2, rfl, hr, hb⟩
        obtain ⟨A2, c2, rfl, _, _⟩ := Kd.R_reads hr
        have HB2 := Aside0.mk (below_step HB1.out hb)
        have j0 : w2.cell? ⟨g, 0, none⟩ = some (.int .u8 5) := (hb.cell (p := ⟨g, 0, none⟩) HG.out).trans HK.out.1
        have j1 : w2.cell? ⟨g, 1, none⟩ = some (.int .i64 0) := (hb.cell (p := ⟨g, 1, none⟩) HG.out).trans HK.out.2.1
        have j2 : w2.cell? ⟨g, 2, none⟩ = some (.int .i64 ((t.length + 1 : Nat) : Int)) := (hb.cell (p := ⟨g, 2, none⟩) HG.out).trans HK.out.2.2
        have z1 : ((t.length + 1 : Nat) : Int) = (t.length : Int) + 1 := by omega
        rw [z1] at j2
        clear hr hb hcut z1
        go_wp2_with fail
        go_ret
        exact ⟨rfl, HB2.out⟩
end Go.Proofs.Ytfflfadfalacgaa.LSexpTexts
