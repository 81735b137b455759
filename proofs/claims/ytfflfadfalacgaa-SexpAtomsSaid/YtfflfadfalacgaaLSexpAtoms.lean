/- Proved: the law SexpAtoms, called with what the form hands it, returns true and leaves old memory as it was; no condition. -/
import Derived.Test.YtfflfadfalacgaaSC
namespace Go.Proofs.Ytfflfadfalacgaa.LSexpAtoms
open Go.RowKit Go.Proofs.YtfflfadfalacgaaW.PrintWords Go.Proofs.YtfflfadfalacgaaW.PrintLast Go.Proofs.YtfflfadfalacgaaW.PrintMore
open Go.Proofs.Ytfflfadfalacgaa.SMem hiding Tok
open Go.Proofs.Ytfflfadfalacgaa.SPlain Go.Proofs.Ytfflfadfalacgaa.SRef Go.Proofs.Ytfflfadfalacgaa.SRd Go.Proofs.Ytfflfadfalacgaa.SParse Go.Proofs.Ytfflfadfalacgaa.STx Go.Proofs.Ytfflfadfalacgaa.SRead Go.Proofs.Ytfflfadfalacgaa.SW Go.Proofs.Ytfflfadfalacgaa.STl
set_option linter.unusedVariables false
set_option linter.unusedSimpArgs false
set_option maxHeartbeats 8000000
set_option maxRecDepth 100000
open Go.Proofs.Ytfflfadfalacgaa.SC Go.Proofs.Ytfflfadfalacgaa.SLaws Go.Proofs.Ytfflfadfalacgaa.SLists

theorem not_atom {c : Int} (h : ¬ isAtom c = true) : c ≤ 32 ∨ c = 127 ∨ c = 40 ∨ c = 41 ∨ c = 34 ∨ c = 39 ∨ c = 96 ∨ c = 44 ∨ c = 59 := by
  unfold isAtom at h
  simp only [Bool.and_eq_true, bne_iff_ne, ne_eq, Bool.not_eq_true', Bool.or_eq_false_iff, beq_eq_false_iff_ne, decide_eq_true_eq] at h
  omega
theorem yes_atom {c : Int} (h : isAtom c = true) : 32 < c ∧ c ≠ 127 ∧ c ≠ 40 ∧ c ≠ 41 ∧ c ≠ 34 ∧ c ≠ 39 ∧ c ≠ 96 ∧ c ≠ 44 ∧ c ≠ 59 := by
  unfold isAtom at h
  simp only [Bool.and_eq_true, bne_iff_ne, ne_eq, Bool.not_eq_true', Bool.or_eq_false_iff, beq_eq_false_iff_ne, decide_eq_true_eq] at h
  omega
def atq (l : List Int) : List Int := 97 :: l.filter isAtom
theorem atq_read (l : List Int) : mread (atq l) = ([(5, 0, ((atq l).length : Int))], 0, 0) := by
  unfold atq
  rw [atoms_law _ (fun c hc => by have := List.mem_filter.1 hc; exact this.2), List.length_cons]
  simp
theorem atq_byte {l : List Int} (h : ByteL l) : ByteL (atq l) := by
  intro x hx
  rcases List.mem_cons.1 hx with rfl | hx
  · decide
  · exact h x (List.mem_filter.1 hx).1
theorem atq_len (l : List Int) : (atq l).length ≤ l.length + 1 := by
  unfold atq; rw [List.length_cons]; have := List.length_filter_le isAtom l; omega
theorem atq_snoc (l : List Int) (i : Nat) (h : i < l.length) : atq (l.take (i + 1)) = if isAtom (l.getD i 0) = true then atq (l.take i) ++ [l.getD i 0] else atq (l.take i) := by
  unfold atq
  rw [List.take_succ_eq_append_getElem h, List.filter_append, List.getD_eq_getElem?_getD, List.getElem?_eq_getElem h]
  simp only [Option.getD_some]
  by_cases hc : isAtom l[i] = true
  · rw [if_pos hc, List.filter_cons_of_pos hc]; simp
  · rw [if_neg hc, List.filter_cons_of_neg hc]; simp
theorem sexpAtoms_calls (A : Option Addr) (c : Nat) (l : List Int) {w : World} (hR : (Kd.int .u8).C w A l.length l) (hm : l.length ≤ maxLen) (hw : ∀ x ∈ l, (Lit.int .u8 x).wf = true) (hc : l.length ≤ c) :
    Calls Try.prog 8 #[.slice A l.length c] w fun e w' => e = .returned (.bool true) ∧ Below w.heap.size w w' := by
  have HR := Aside0.mk hR
  have HBY := Aside0.mk (wf_byte hw)
  have HB := Aside0.mk (Below.refl w.heap.size w)
  clear hR hw hm hc
  by_cases hg : 300 < l.length
  · have hd : decide ((300 : Int) < (l.length : Int)) = true := decide_eq_true (by omega)
    go_enter Try.func8, Try.ntmps8
    go_wp2_with (first | (go_at_call 10; refine (SW.quotes_calls _).mono ?_; rintro e w_ ⟨rfl, hb⟩; have HBb := Aside0.mk (below_step HB.out hb); clear HB; have HB := HBb; clear HBb hb))
    go_ret
    exact ⟨rfl, HB.out⟩
  · have hd : decide ((300 : Int) < (l.length : Int)) = false := decide_eq_false (by omega)
    go_enter Try.func8, Try.ntmps8
    go_wp2_with (first | (go_at_call 10; refine (SW.quotes_calls _).mono ?_; rintro e w_ ⟨rfl, hb⟩; have HBb := Aside0.mk (below_step HB.out hb); clear HB; have HB := HBb; clear HBb hb))
    have HO := Aside0.mk (lit_R _ w.heap.size [97] (below_size HB.out) (by decide) _ rfl)
    go_loopg [3, 4, 5] l.length (fun kq v3 v4 v5 w' => ∃ i : Nat, v4 = .int .i64 (i : Int) ∧ Aside0 (i + kq = l.length) ∧ Aside0 ((Kd.int .u8).R 5 w' w.heap.size (fun _ => True) v3 (atq (l.take i))) ∧ Aside0 (Below w.heap.size w w'))
    case atStart => exact ⟨0, rfl, ⟨by omega⟩, HO, ⟨below_alloc HB.out _⟩⟩
    case round =>
      clear HB HO
      obtain ⟨i, rfl, HI, HO, HB⟩ := hrel
      have hi1 : (i : Int) ≤ 300 := by have := HI.out; omega
      by_cases hlt : i < l.length
      · have HLT := Aside0.mk hlt
        have hlt' : decide ((i : Int) < (l.length : Int)) = true := decide_eq_true (by omega)
        obtain ⟨ad, ea, hx⟩ := at_nat HR.out i hlt
        cases ea
        replace hx := (HB.out.cell (World.block_lt_of_cell? w _ hx)).trans hx
        have hbx := HBY.out (l.getD i 0) (by rw [List.getD_eq_getElem?_getD, List.getElem?_eq_getElem hlt]; simp)
        have htk := atq_snoc l i hlt
        generalize l.getD i 0 = x at hx hbx htk
        obtain ⟨hx0, hx1⟩ := hbx
        have p0 : (0 : Int) ≤ (i : Int) := by omega
        have p1 : (i : Int) < (l.length : Int) := by omega
        have hsz : (atq (l.take i)).length ≤ 301 := by have := atq_len (l.take i); rw [List.length_take] at this; omega
        obtain ⟨A3, c3, e3, hle3, hC3⟩ := Kd.R_reads HO.out
        subst e3
        generalize atq (l.take i) = t at HO htk hsz
        clear hle3 hC3
        by_cases hA : isAtom x = true
        · rw [if_pos hA] at htk
          obtain ⟨a0, a1, a2, a3, a4, a5, a6, a7, a8⟩ := yes_atom hA
          have d0 : decide ((32 : Int) < x) = true := decide_eq_true a0
          have d1 : (x != 127) = true := by rw [bne_iff_ne]; exact a1
          have d2 : (x != 40) = true := by rw [bne_iff_ne]; exact a2
          have d3 : (x != 41) = true := by rw [bne_iff_ne]; exact a3
          have d4 : (x != 34) = true := by rw [bne_iff_ne]; exact a4
          have d5 : (x != 39) = true := by rw [bne_iff_ne]; exact a5
          have d6 : (x != 96) = true := by rw [bne_iff_ne]; exact a6
          have d7 : (x != 44) = true := by rw [bne_iff_ne]; exact a7
          have d8 : (x != 59) = true := by rw [bne_iff_ne]; exact a8
          have HTK := Aside0.mk htk
          clear hA htk a0 a1 a2 a3 a4 a5 a6 a7 a8
          go_wp2_with (first | ((with_reducible refine gate_builtin (b := .append) (xs := #[.tmp 62, .tmp 64]) rfl ?_); at_builtin; refine app_u8 w.heap.size rfl (.tmp 62) (.tmp 64) rfl (.slice A3 t.length c3) t [x] (some ⟨_, 0, none⟩) 1 1 rfl rfl (Kd.R_alloc HO.out _) (lit_C _ [x] (0, 0) _ rfl (by simp)) rfl (below_alloc HB.out _) (by simp; have := below_size HB.out; omega) (by omega) ?_; intro v4 w4 ho hb; have HO4 := Aside0.mk ho; have HB4 := Aside0.mk hb; clear ho hb))
          go_roundg (l.length - (i + 1))
          case measure => have := HI.out; have := HLT.out; omega
          case rel => exact ⟨i + 1, by go_num, ⟨by have := HLT.out; omega⟩, ⟨by rw [HTK.out]; exact HO4.out⟩, HB4⟩
        · rw [if_neg hA] at htk
          have hN := not_atom hA
          have HTK := Aside0.mk htk
          clear hA htk
          rcases hN with h | h | h | h | h | h | h | h | h
          · have d0 : decide ((32 : Int) < x) = false := decide_eq_false (by omega)
            go_wp2
            go_roundg (l.length - (i + 1))
            case measure => have := HI.out; have := HLT.out; omega
            case rel => exact ⟨i + 1, by go_num, ⟨by have := HLT.out; omega⟩, ⟨by rw [HTK.out]; exact HO.out⟩, HB⟩
          all_goals
            subst h
            go_wp2
            go_roundg (l.length - (i + 1))
            case measure => have := HI.out; have := HLT.out; omega
            case rel => exact ⟨i + 1, by go_num, ⟨by have := HLT.out; omega⟩, ⟨by rw [HTK.out]; exact HO.out⟩, HB⟩
      · have hlt' : decide ((i : Int) < (l.length : Int)) = false := decide_eq_false (by omega)
        have hlt2 : decide (i < l.length) = false := decide_eq_false hlt
        have e : i = l.length := by have := HI.out; omega
        subst e
        have ho2 := HO.out
        rw [List.take_length] at ho2
        have hmr := atq_read l
        have hby := atq_byte HBY.out
        have hle := atq_len l
        generalize atq l = q at ho2 hmr hby hle
        obtain ⟨A3, c3, e3, hle3, hC3⟩ := Kd.R_reads ho2
        subst e3
        have HC3 := Aside0.mk (And.intro hC3 hle3)
        have HMR := Aside0.mk hmr
        have HQB := Aside0.mk hby
        have hq1 : q.length ≤ 301 := by omega
        clear ho2 hmr hby hC3 hle3 HO hle
        go_wp2_with fail
        refine (sread_n A3 c3 q.length q _ rfl HC3.out.1 HQB.out (by omega) HC3.out.2 _ _ _ HMR.out).mono ?_
        rintro e w1 ⟨v1, rfl, hr, hb⟩
        have HB1 := Aside0.mk (below_step HB.out hb)
        obtain ⟨g, c1, rfl, hgb, hgl, cells, hcells⟩ := Kd.R_form hr (by simp)
        obtain ⟨_, _, hC⟩ := Kd.R_reads' hr
        obtain ⟨ad, ea, k0, k1, k2⟩ := tok_C hC 0 (by simp)
        cases ea
        have j0 : w1.cell? ⟨g, 0, none⟩ = some (.int .u8 5) := k0
        have j1 : w1.cell? ⟨g, 1, none⟩ = some (.int .i64 0) := k1
        have j2 : w1.cell? ⟨g, 2, none⟩ = some (.int .i64 (q.length : Int)) := k2
        clear hr hb hgb hgl hcells hC k0 k1 k2 HB
        go_wp2_with fail
        go_ret
        exact ⟨rfl, HB1.out⟩
end Go.Proofs.Ytfflfadfalacgaa.LSexpAtoms
