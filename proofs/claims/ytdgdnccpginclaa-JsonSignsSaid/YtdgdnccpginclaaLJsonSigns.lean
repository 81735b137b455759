/- Proved: the law JsonSigns, called with what the form hands it, returns true and leaves old memory as it was; no condition. -/
import Derived.Test.YtdgdnccpginclaaJW
namespace Go.Proofs.Ytdgdnccpginclaa.LJsonSigns
open Go.RowKit Go.Proofs.YtdgdnccpginclaaW.PrintWords Go.Proofs.YtdgdnccpginclaaW.PrintLast Go.Proofs.YtdgdnccpginclaaW.PrintMore
open Go.Proofs.Ytdgdnccpginclaa.JDefs Go.Proofs.Ytdgdnccpginclaa.JBase Go.Proofs.Ytdgdnccpginclaa.JMem Go.Proofs.Ytdgdnccpginclaa.JInv Go.Proofs.Ytdgdnccpginclaa.JRef Go.Proofs.Ytdgdnccpginclaa.JRead Go.Proofs.Ytdgdnccpginclaa.JW
set_option linter.unusedVariables false
set_option linter.unusedSimpArgs false
set_option maxHeartbeats 8000000
set_option maxRecDepth 100000
def isS (c : Int) : Bool := decide (32 ≤ c) && (c != 34 && c != 92)
theorem feed6 (i : Int) (c : Int) (h : isS c = true) : mfeed ⟨6, [], 0, false, [], 0, []⟩ c i = (⟨6, [], 0, false, [], 0, []⟩, 0) := by
  unfold isS at h
  simp only [Bool.and_eq_true, bne_iff_ne, ne_eq, decide_eq_true_eq] at h
  obtain ⟨h1, h2, h3⟩ := h
  simp [mfeed, num, endsB, mrest, minside, h2, h3, show ¬ c < 32 by omega]
theorem go6 (p : List Int) (h : ∀ c ∈ p, isS c = true) : ∀ i, mgo ⟨6, [], 0, false, [], 0, []⟩ (p ++ [34]) i = (⟨5, [], 0, false, [], 0, [(5, 0, i + p.length + 1)]⟩, i + p.length + 1, 0) := by
  induction p with
  | nil =>
    intro i
    rw [List.nil_append, mgo_cons]
    have : mfeed ⟨6, [], 0, false, [], 0, []⟩ 34 i = (⟨5, [], 0, false, [], 0, [(5, 0, i + 1)]⟩, 0) := by
      simp [mfeed, num, endsB, mrest, minside, matom]
    rw [this, if_pos rfl, mgo_nil]
    simp
  | cons c t ih =>
    intro i
    rw [List.cons_append, mgo_cons, feed6 i c (h c (by simp)), if_pos rfl, ih (fun x hx => h x (by simp [hx]))]
    simp only [List.length_cons]
    have : i + 1 + (t.length : Int) + 1 = i + ((t.length + 1 : Nat) : Int) + 1 := by omega
    rw [this]
def sgq (l : List Int) : List Int := 34 :: l.filter isS
theorem sgq_read (l : List Int) : mread (sgq l ++ [34]) = ([(5, 0, ((sgq l ++ [34]).length : Int))], 0, 0) := by
  unfold sgq
  have e0 : mfeed m0 34 0 = (⟨6, [], 0, false, [], 0, []⟩, 0) := by
    simp [mfeed, m0, num, endsB, mrest, mbegin]
  have e1 := go6 (l.filter isS) (fun c hc => (List.mem_filter.1 hc).2) 1
  unfold mread
  rw [List.cons_append, mgo_cons, e0, if_pos rfl]
  simp only [Int.zero_add]
  rw [e1]
  simp [mend, mlast, endsB]
  omega
theorem sgq_byte {l : List Int} (h : ByteL l) : ByteL (sgq l ++ [34]) := by
  intro x hx
  rcases List.mem_append.1 hx with hx | hx
  · rcases List.mem_cons.1 hx with rfl | hx
    · decide
    · exact h x (List.mem_filter.1 hx).1
  · rw [List.mem_singleton.1 hx]; decide
theorem sgq_len (l : List Int) : (sgq l).length ≤ l.length + 1 := by
  unfold sgq; rw [List.length_cons]; have := List.length_filter_le isS l; omega
theorem sgq_snoc (l : List Int) (i : Nat) (h : i < l.length) : sgq (l.take (i + 1)) = if isS (l.getD i 0) = true then sgq (l.take i) ++ [l.getD i 0] else sgq (l.take i) := by
  unfold sgq
  rw [List.take_succ_eq_append_getElem h, List.filter_append, List.getD_eq_getElem?_getD, List.getElem?_eq_getElem h]
  simp only [Option.getD_some]
  by_cases hc : isS l[i] = true
  · rw [if_pos hc, List.filter_cons_of_pos hc]; simp
  · rw [if_neg hc, List.filter_cons_of_neg hc]; simp
set_option maxHeartbeats 16000000 in
theorem jsonSigns_calls (A : Option Addr) (c : Nat) (l : List Int) {w : World} (hR : (Kd.int .u8).C w A l.length l) (hm : l.length ≤ maxLen) (hw : ∀ x ∈ l, (Lit.int .u8 x).wf = true) (hc : l.length ≤ c) :
    Calls Try.prog 9 #[.slice A l.length c] w fun e w' => e = .returned (.bool true) ∧ Below w.heap.size w w' := by
  have HR := Aside0.mk hR
  have HBY := Aside0.mk (wf_byte hw)
  have HB := Aside0.mk (Below.refl w.heap.size w)
  clear hR hw hm
  by_cases hg : 300 < l.length
  · have hd : decide ((300 : Int) < (l.length : Int)) = true := decide_eq_true (by omega)
    go_enter Try.func9, Try.ntmps9
    go_wp2_with (first | (go_at_call 10; refine (JW.lists_calls _).mono ?_; rintro e w_ ⟨rfl, hb⟩; have HBb := Aside0.mk (below_step HB.out hb); clear HB; have HB := HBb; clear HBb hb))
    go_ret
    exact ⟨rfl, HB.out⟩
  · have hd : decide ((300 : Int) < (l.length : Int)) = false := decide_eq_false (by omega)
    go_enter Try.func9, Try.ntmps9
    go_wp2_with (first | (go_at_call 10; refine (JW.lists_calls _).mono ?_; rintro e w_ ⟨rfl, hb⟩; have HBb := Aside0.mk (below_step HB.out hb); clear HB; have HB := HBb; clear HBb hb))
    have HO := Aside0.mk (lit_R _ w.heap.size [34] (below_size HB.out) (by decide) _ rfl)
    go_loopg [3, 4] l.length (fun kq v3 v4 w' => ∃ i : Nat, v4 = .int .i64 (i : Int) ∧ Aside0 (i + kq = l.length) ∧ Aside0 ((Kd.int .u8).R 5 w' w.heap.size (fun _ => True) v3 (sgq (l.take i))) ∧ Aside0 (Below w.heap.size w w'))
    case atStart => exact ⟨0, rfl, ⟨by omega⟩, HO, ⟨below_alloc HB.out _⟩⟩
    case round =>
      clear HB HO
      obtain ⟨i, rfl, HI, HO, HB⟩ := hrel
      have hi1 : (i : Int) ≤ 300 := by have := HI.out; omega
      by_cases hlt : i < l.length
      · have HLT := Aside0.mk hlt
        have hlt' : decide ((i : Int) < (l.length : Int)) = true := decide_eq_true (by omega)
        obtain ⟨ad, ea, hx⟩ := at_nat HR.out i hlt
        cases ea
        replace hx := (HB.out.cell (World.block_lt_of_cell? w _ hx)).trans hx
        have hbx := HBY.out (l.getD i 0) (by rw [List.getD_eq_getElem?_getD, List.getElem?_eq_getElem hlt]; simp)
        have htk := sgq_snoc l i hlt
        generalize l.getD i 0 = x at hx hbx htk
        obtain ⟨hx0, hx1⟩ := hbx
        have p0 : (0 : Int) ≤ (i : Int) := by omega
        have p1 : (i : Int) < (l.length : Int) := by omega
        have hsz : (sgq (l.take i)).length ≤ 301 := by have := sgq_len (l.take i); rw [List.length_take] at this; omega
        obtain ⟨A3, c3, e3, hle3, hC3⟩ := Kd.R_reads HO.out
        subst e3
        generalize sgq (l.take i) = t at HO htk hsz
        clear hle3 hC3
        by_cases hA : isS x = true
        · rw [if_pos hA] at htk
          unfold isS at hA
          simp only [Bool.and_eq_true, bne_iff_ne, ne_eq, decide_eq_true_eq] at hA
          obtain ⟨a0, a1, a2⟩ := hA
          have d0 : decide ((32 : Int) ≤ x) = true := decide_eq_true a0
          have d1 : (x != 34) = true := by rw [bne_iff_ne]; exact a1
          have d2 : (x != 92) = true := by rw [bne_iff_ne]; exact a2
          have HTK := Aside0.mk htk
          clear htk a0 a1 a2
          go_wp2_with (first | ((with_reducible refine gate_builtin (b := .append) (xs := #[.tmp 42, .tmp 47]) rfl ?_); at_builtin; refine app_u8 w.heap.size rfl (.tmp 42) (.tmp 47) rfl (.slice A3 t.length c3) t [x] (some ⟨_, 0, none⟩) 1 1 rfl rfl (Kd.R_alloc HO.out _) (lit_C _ [x] (0, 0) _ rfl (by simp)) rfl (below_alloc HB.out _) (by simp; have := below_size HB.out; omega) (by omega) ?_; intro v4 w4 ho hb; have HO4 := Aside0.mk ho; have HB4 := Aside0.mk hb; clear ho hb))
          go_roundg (l.length - (i + 1))
          case measure => have := HI.out; have := HLT.out; omega
          case rel => exact ⟨i + 1, by go_num, ⟨by have := HLT.out; omega⟩, ⟨by rw [HTK.out]; exact HO4.out⟩, HB4⟩
        · rw [if_neg hA] at htk
          have hN : x < 32 ∨ x = 34 ∨ x = 92 := by
            unfold isS at hA
            simp only [Bool.and_eq_true, bne_iff_ne, ne_eq, decide_eq_true_eq] at hA
            omega
          have HTK := Aside0.mk htk
          clear hA htk
          rcases hN with h | h | h
          · have d0 : decide ((32 : Int) ≤ x) = false := decide_eq_false (by omega)
            go_wp2
            go_roundg (l.length - (i + 1))
            case measure => have := HI.out; have := HLT.out; omega
            case rel => exact ⟨i + 1, by go_num, ⟨by have := HLT.out; omega⟩, ⟨by rw [HTK.out]; exact HO.out⟩, HB⟩
          all_goals
            subst h
            go_wp2
            go_roundg (l.length - (i + 1))
            case measure => have := HI.out; have := HLT.out; omega
            case rel => exact ⟨i + 1, by go_num, ⟨by have := HLT.out; omega⟩, ⟨by rw [HTK.out]; exact HO.out⟩, HB⟩
      · have hlt' : decide ((i : Int) < (l.length : Int)) = false := decide_eq_false (by omega)
        have hlt2 : decide (i < l.length) = false := decide_eq_false hlt
        have e : i = l.length := by have := HI.out; omega
        subst e
        have ho2 := HO.out
        rw [List.take_length] at ho2
        have hmr := sgq_read l
        have hby := sgq_byte HBY.out
        have hle := sgq_len l
        generalize sgq l = t at ho2 hmr hby hle
        have hsz : t.length ≤ 301 := by omega
        obtain ⟨A3, c3, e3, hle3, hC3⟩ := Kd.R_reads ho2
        subst e3
        have HO := Aside0.mk ho2
        have HMR := Aside0.mk hmr
        have HQB := Aside0.mk hby
        clear ho2 hmr hby hC3 hle3 hle
        go_wp2_with (first | ((with_reducible refine gate_builtin (b := .append) (xs := #[.tmp 49, .tmp 50]) rfl ?_); at_builtin; refine app_u8 w.heap.size rfl (.tmp 49) (.tmp 50) rfl (.slice A3 t.length c3) t [34] (some ⟨_, 0, none⟩) 1 1 rfl rfl (Kd.R_alloc HO.out _) (lit_C _ [34] (0, 0) _ rfl (by simp)) rfl (below_alloc HB.out _) (by simp; have := below_size HB.out; omega) (by omega) ?_; intro v4 w4 ho hb; have HO4 := Aside0.mk ho; have HB4 := Aside0.mk hb; clear ho hb) | fail)
        have ho2 := HO4.out
        generalize hq : t ++ [34] = q at ho2 HMR HQB
        have hq1 : q.length ≤ 400 := by rw [← hq]; simp; omega
        obtain ⟨A5, c5, e5, hle5, hC5⟩ := Kd.R_reads ho2
        subst e5
        have HC3 := Aside0.mk (And.intro hC5 hle5)
        clear ho2 hC5 hle5 HO4 hq
        refine (sread_n A5 c5 q.length q _ rfl HC3.out.1 HQB.out (by omega) HC3.out.2 _ _ _ HMR.out).mono ?_
        rintro e w1 ⟨v1, rfl, hr, hb⟩
        have HB1 := Aside0.mk (below_step HB4.out hb)
        obtain ⟨g, c1, rfl, hgb, hgl, cells, hcells⟩ := Kd.R_form hr (by simp)
        obtain ⟨_, _, hC⟩ := Kd.R_reads' hr
        obtain ⟨ad, ea, k0, k1, k2⟩ := tok_C hC 0 (by simp)
        cases ea
        have j0 : w1.cell? ⟨g, 0, none⟩ = some (.int .u8 5) := k0
        have j1 : w1.cell? ⟨g, 1, none⟩ = some (.int .i64 0) := k1
        have j2 : w1.cell? ⟨g, 2, none⟩ = some (.int .i64 (q.length : Int)) := k2
        clear hr hb hgb hgl hcells hC k0 k1 k2 HB
        go_wp2_with fail
        go_ret
        exact ⟨rfl, HB1.out⟩
end Go.Proofs.Ytdgdnccpginclaa.LJsonSigns
