/- Proved: the law SexpDeep, called with what the form hands it, returns true and leaves old memory as it was; no condition. -/
import Derived.Test.YtfflfadfalacgaaSC
namespace Go.Proofs.Ytfflfadfalacgaa.LSexpDeep
open Go.RowKit Go.Proofs.YtfflfadfalacgaaW.PrintWords Go.Proofs.YtfflfadfalacgaaW.PrintLast Go.Proofs.YtfflfadfalacgaaW.PrintMore
open Go.Proofs.Ytfflfadfalacgaa.SMem hiding Tok
open Go.Proofs.Ytfflfadfalacgaa.SPlain Go.Proofs.Ytfflfadfalacgaa.SRef Go.Proofs.Ytfflfadfalacgaa.SRd Go.Proofs.Ytfflfadfalacgaa.SParse Go.Proofs.Ytfflfadfalacgaa.STx Go.Proofs.Ytfflfadfalacgaa.SRead Go.Proofs.Ytfflfadfalacgaa.SW Go.Proofs.Ytfflfadfalacgaa.STl
set_option linter.unusedVariables false
set_option linter.unusedSimpArgs false
set_option maxHeartbeats 8000000
set_option maxRecDepth 100000
open Go.Proofs.Ytfflfadfalacgaa.SC Go.Proofs.Ytfflfadfalacgaa.SLaws Go.Proofs.Ytfflfadfalacgaa.SLists

def bb (by_ : Int) (i : Nat) : Bool := bits BinOp.and IntKind.u8 by_ (2 ^ (i % 8) % 256) != 0
def fst_ (b : Nat → Bool) (i : Nat) : Int := if i ≤ 512 then -1 else (((opens b 0 512).length + (if b 512 then 1 else 0) : Nat) : Int)
theorem opens_succ (b : Nat → Bool) (i : Nat) : opens b 0 (i + 1) = opens b 0 i ++ (if b i then [39, 40] else [40]) := by
  rw [opens_add, Nat.zero_add]
  congr 1
  cases h : b i <;> simp [opens, h]
theorem opens_len (b : Nat → Bool) (i : Nat) : (opens b 0 i).length ≤ 2 * i := by
  induction i with
  | zero => simp [opens]
  | succ i ih => rw [opens_succ, List.length_append]; split <;> simp <;> omega
theorem opens_byte (b : Nat → Bool) (i : Nat) : ∀ x ∈ opens b 0 i, x = 39 ∨ x = 40 := by
  induction i with
  | zero => simp [opens]
  | succ i ih =>
    rw [opens_succ]
    intro x hx
    rcases List.mem_append.1 hx with hx | hx
    · exact ih x hx
    · split at hx <;> simp at hx <;> omega
def dq (b : Nat → Bool) (D j : Nat) : List Int := opens b 0 D ++ List.replicate j 41
theorem dq_byte (b : Nat → Bool) (D j : Nat) : ByteL (dq b D j) := by
  intro x hx
  rcases List.mem_append.1 hx with hx | hx
  · have := opens_byte b D x hx; omega
  · have := List.eq_of_mem_replicate hx; omega
theorem dq_len (b : Nat → Bool) (D j : Nat) : (dq b D j).length ≤ 2 * D + j := by
  unfold dq; rw [List.length_append, List.length_replicate]; have := opens_len b D; omega
theorem dq_succ (b : Nat → Bool) (D j : Nat) : dq b D (j + 1) = dq b D j ++ [41] := by
  unfold dq; rw [List.replicate_succ', List.append_assoc]
theorem dq_zero (b : Nat → Bool) (D : Nat) : dq b D 0 = opens b 0 D := by unfold dq; simp
theorem sexpDeep_calls (n : Int) (hn : (Lit.int .u16 n).wf = true) (by_ : Int) (hby : (Lit.int .u8 by_).wf = true) {w : World} :
    Calls Try.prog 5 #[.int .u16 n, .int .u8 by_] w fun e w' => e = .returned (.bool true) ∧ Below w.heap.size w w' := by
  have HB := Aside0.mk (Below.refl w.heap.size w)
  have hn0 : 0 ≤ n ∧ n ≤ 65535 := by simp [Lit.wf, IntKind.min, IntKind.max, IntKind.signed, IntKind.bits] at hn; omega
  have hb0 : 0 ≤ by_ ∧ by_ ≤ 255 := by simp [Lit.wf, IntKind.min, IntKind.max, IntKind.signed, IntKind.bits] at hby; omega
  clear hn hby
  obtain ⟨hn1, hn2⟩ := hn0
  obtain ⟨hb1, hb2⟩ := hb0
  obtain ⟨D, hD⟩ : ∃ D : Nat, n % 600 = (D : Int) := ⟨(n % 600).toNat, by omega⟩
  have hD6 : D ≤ 600 := by omega
  go_enter Try.func5, Try.ntmps5
  go_wp2_with (first | (go_at_call 10; refine (SW.quotes_calls _).mono ?_; rintro e w_ ⟨rfl, hb⟩; have HBb := Aside0.mk (below_step HB.out hb); clear HB; have HB := HBb; clear HBb hb))
  try rw [hD]
  clear hD hn1 hn2
  have HH := Aside0.mk (show ∀ i, bb by_ i = bb by_ i from fun _ => rfl)
  go_loopg [5, 7, 8] D (fun kq v5 v7 v8 w' => ∃ i : Nat, v8 = .int .i64 (i : Int) ∧ v7 = .int .i64 (fst_ (bb by_) i) ∧ Aside0 (i + kq = D) ∧ Aside0 ((Kd.int .u8).R 5 w' w.heap.size (fun _ => True) v5 (opens (bb by_) 0 i)) ∧ Aside0 (Below w.heap.size w w'))
  case atStart => exact ⟨0, rfl, rfl, ⟨by omega⟩, ⟨Kd.R_nil _ _ _ _ _⟩, HB⟩
  case round =>
    clear HB
    obtain ⟨i, rfl, rfl, HI, HO, HB⟩ := hrel
    obtain ⟨A3, c3, e3, hle3, hC3⟩ := Kd.R_reads HO.out
    subst e3
    clear hle3 hC3
    have hi1 : (i : Int) ≤ 600 := by have := HI.out; omega
    have hsz : (opens (bb by_) 0 i).length ≤ 1200 := by have := opens_len (bb by_) i; have := HI.out; omega
    have hD7 : (D : Int) ≤ 600 := by omega
    by_cases hlt : i < D
    · have HLT := Aside0.mk hlt
      have hlt' : decide ((i : Int) < (D : Int)) = true := decide_eq_true (by omega)
      have hlt2 : decide (i < D) = true := decide_eq_true hlt
      have htk := opens_succ (bb by_) i
      have hfs : fst_ (bb by_) (i + 1) = if i = 512 then ((((opens (bb by_) 0 512).length + (if bb by_ 512 then 1 else 0) : Nat) : Int)) else fst_ (bb by_) i := by
        unfold fst_
        by_cases h : i = 512
        · rw [if_pos h, if_neg (by omega)]
        · rw [if_neg h]
          by_cases h2 : i ≤ 512
          · rw [if_pos h2, if_pos (by omega)]
          · rw [if_neg h2, if_neg (by omega)]
      cases hbit : bb by_ i with
      | true =>
        rw [hbit, if_pos rfl] at htk
        have hbit2 : (bits BinOp.and IntKind.u8 by_ (2 ^ (i % 8) % 256) != 0) = true := hbit
        by_cases h512 : i = 512
        · rw [if_pos h512, ← h512, hbit, if_pos rfl] at hfs
          have e512 : ((i : Int) == 512) = true := beq_iff_eq.2 (by omega)
          have HTK := Aside0.mk htk
          have HFS := Aside0.mk hfs
          clear htk hfs h512 hbit HH
          generalize opens (bb by_) 0 i = t at HO HTK HFS hsz
          generalize fst_ (bb by_) i = f0
          go_wp2_with (first | ((with_reducible refine gate_builtin (b := .append) (xs := #[.tmp 29, .tmp 30]) rfl ?_); at_builtin; refine app_u8 w.heap.size rfl (.tmp 29) (.tmp 30) rfl (.slice A3 t.length c3) t [39] (some ⟨_, 0, none⟩) 1 1 rfl rfl (Kd.R_alloc HO.out _) (lit_C _ [39] (0, 0) _ rfl (by simp)) rfl (below_alloc HB.out _) (by simp; have := below_size HB.out; omega) (by omega) ?_; intro v4 w4 ho hb; obtain ⟨A4, c4, e4, hle4, hC4⟩ := Kd.R_reads ho; rw [List.length_append, List.length_cons, List.length_nil, Nat.zero_add] at e4; subst e4; clear hle4 hC4; have HO4 := Aside0.mk ho; have HB4 := Aside0.mk hb; clear ho hb) | ((with_reducible refine gate_builtin (b := .append) (xs := #[.tmp 36, .tmp 37]) rfl ?_); at_builtin; refine app_u8 w.heap.size rfl (.tmp 36) (.tmp 37) rfl (.slice A4 (t.length + 1) c4) (t ++ [39]) [40] (some ⟨_, 0, none⟩) 1 1 rfl rfl (Kd.R_alloc HO4.out _) (lit_C _ [40] (0, 0) _ rfl (by simp)) rfl (below_alloc HB4.out _) (by simp; have := below_size HB4.out; omega) (by simp; omega) ?_; intro v4 w4 ho hb; have HO6 := Aside0.mk ho; have HB6 := Aside0.mk hb; clear ho hb))
          go_roundg (D - (i + 1))
          case measure => have := HI.out; have := HLT.out; omega
          case rel => exact ⟨i + 1, by go_num, by rw [HFS.out]; go_num, ⟨by have := HLT.out; omega⟩, ⟨by rw [HTK.out, show t ++ [39, 40] = t ++ [39] ++ [40] by simp]; exact HO6.out⟩, HB6⟩
        · rw [if_neg h512] at hfs
          have e512 : ((i : Int) == 512) = false := beq_eq_false_iff_ne.2 (by omega)
          have HTK := Aside0.mk htk
          have HFS := Aside0.mk hfs
          clear htk hfs h512 hbit HH
          generalize opens (bb by_) 0 i = t at HO HTK HFS hsz
          generalize fst_ (bb by_) i = f0 at HFS
          go_wp2_with (first | ((with_reducible refine gate_builtin (b := .append) (xs := #[.tmp 29, .tmp 30]) rfl ?_); at_builtin; refine app_u8 w.heap.size rfl (.tmp 29) (.tmp 30) rfl (.slice A3 t.length c3) t [39] (some ⟨_, 0, none⟩) 1 1 rfl rfl (Kd.R_alloc HO.out _) (lit_C _ [39] (0, 0) _ rfl (by simp)) rfl (below_alloc HB.out _) (by simp; have := below_size HB.out; omega) (by omega) ?_; intro v4 w4 ho hb; obtain ⟨A4, c4, e4, hle4, hC4⟩ := Kd.R_reads ho; rw [List.length_append, List.length_cons, List.length_nil, Nat.zero_add] at e4; subst e4; clear hle4 hC4; have HO4 := Aside0.mk ho; have HB4 := Aside0.mk hb; clear ho hb) | ((with_reducible refine gate_builtin (b := .append) (xs := #[.tmp 36, .tmp 37]) rfl ?_); at_builtin; refine app_u8 w.heap.size rfl (.tmp 36) (.tmp 37) rfl (.slice A4 (t.length + 1) c4) (t ++ [39]) [40] (some ⟨_, 0, none⟩) 1 1 rfl rfl (Kd.R_alloc HO4.out _) (lit_C _ [40] (0, 0) _ rfl (by simp)) rfl (below_alloc HB4.out _) (by simp; have := below_size HB4.out; omega) (by simp; omega) ?_; intro v4 w4 ho hb; have HO6 := Aside0.mk ho; have HB6 := Aside0.mk hb; clear ho hb))
          go_roundg (D - (i + 1))
          case measure => have := HI.out; have := HLT.out; omega
          case rel => exact ⟨i + 1, by go_num, by rw [HFS.out], ⟨by have := HLT.out; omega⟩, ⟨by rw [HTK.out, show t ++ [39, 40] = t ++ [39] ++ [40] by simp]; exact HO6.out⟩, HB6⟩
      | false =>
        rw [hbit, if_neg (by decide)] at htk
        have hbit2 : (bits BinOp.and IntKind.u8 by_ (2 ^ (i % 8) % 256) != 0) = false := hbit
        by_cases h512 : i = 512
        · rw [if_pos h512, ← h512, hbit, if_neg (by decide)] at hfs
          have e512 : ((i : Int) == 512) = true := beq_iff_eq.2 (by omega)
          have HTK := Aside0.mk htk
          have HFS := Aside0.mk hfs
          clear htk hfs h512 hbit HH
          generalize opens (bb by_) 0 i = t at HO HTK HFS hsz
          generalize fst_ (bb by_) i = f0
          go_wp2_with (first | ((with_reducible refine gate_builtin (b := .append) (xs := #[.tmp 36, .tmp 37]) rfl ?_); at_builtin; refine app_u8 w.heap.size rfl (.tmp 36) (.tmp 37) rfl (.slice A3 t.length c3) t [40] (some ⟨_, 0, none⟩) 1 1 rfl rfl (Kd.R_alloc HO.out _) (lit_C _ [40] (0, 0) _ rfl (by simp)) rfl (below_alloc HB.out _) (by simp; have := below_size HB.out; omega) (by omega) ?_; intro v4 w4 ho hb; have HO6 := Aside0.mk ho; have HB6 := Aside0.mk hb; clear ho hb))
          go_roundg (D - (i + 1))
          case measure => have := HI.out; have := HLT.out; omega
          case rel => exact ⟨i + 1, by go_num, by rw [HFS.out]; go_num, ⟨by have := HLT.out; omega⟩, ⟨by rw [HTK.out]; exact HO6.out⟩, HB6⟩
        · rw [if_neg h512] at hfs
          have e512 : ((i : Int) == 512) = false := beq_eq_false_iff_ne.2 (by omega)
          have HTK := Aside0.mk htk
          have HFS := Aside0.mk hfs
          clear htk hfs h512 hbit HH
          generalize opens (bb by_) 0 i = t at HO HTK HFS hsz
          generalize fst_ (bb by_) i = f0 at HFS
          go_wp2_with (first | ((with_reducible refine gate_builtin (b := .append) (xs := #[.tmp 36, .tmp 37]) rfl ?_); at_builtin; refine app_u8 w.heap.size rfl (.tmp 36) (.tmp 37) rfl (.slice A3 t.length c3) t [40] (some ⟨_, 0, none⟩) 1 1 rfl rfl (Kd.R_alloc HO.out _) (lit_C _ [40] (0, 0) _ rfl (by simp)) rfl (below_alloc HB.out _) (by simp; have := below_size HB.out; omega) (by omega) ?_; intro v4 w4 ho hb; have HO6 := Aside0.mk ho; have HB6 := Aside0.mk hb; clear ho hb))
          go_roundg (D - (i + 1))
          case measure => have := HI.out; have := HLT.out; omega
          case rel => exact ⟨i + 1, by go_num, by rw [HFS.out], ⟨by have := HLT.out; omega⟩, ⟨by rw [HTK.out]; exact HO6.out⟩, HB6⟩
    · have hlt' : decide ((i : Int) < (D : Int)) = false := decide_eq_false (by omega)
      have hlt2 : decide (i < D) = false := decide_eq_false hlt
      have e : i = D := by have := HI.out; omega
      subst e
      obtain ⟨fi, hfi⟩ : ∃ fi, fi = fst_ (bb by_) i := ⟨_, rfl⟩
      rw [← hfi]
      have HFI := Aside0.mk hfi
      have ho2 := HO.out
      rw [← dq_zero] at ho2
      have hz : (opens (bb by_) 0 i).length = (dq (bb by_) i 0).length := by rw [dq_zero]
      rw [hz]
      have HO2 := Aside0.mk ho2
      generalize bb by_ = b at HO2 HFI
      clear hfi ho2 hz HO hlt HI HH hsz
      go_wp2_with fail
      go_loopg [5, 9] i (fun kq v5 v9 w' => ∃ j : Nat, v9 = .int .i64 (j : Int) ∧ Aside0 (j + kq = i) ∧ Aside0 ((Kd.int .u8).R 5 w' w.heap.size (fun _ => True) v5 (dq b i j)) ∧ Aside0 (Below w.heap.size w w'))
      case atStart => exact ⟨0, rfl, ⟨by omega⟩, HO2, HB⟩
      case round =>
        clear HB HO2
        obtain ⟨j, rfl, HJ, HO, HB⟩ := hrel
        obtain ⟨A3, c3, e3, hle3, hC3⟩ := Kd.R_reads HO.out
        subst e3
        have hj1 : (j : Int) ≤ 600 := by have := HJ.out; omega
        have hsz : (dq b i j).length ≤ 1800 := by have := dq_len b i j; have := HJ.out; omega
        by_cases hltj : j < i
        · have HLT := Aside0.mk hltj
          have hl1 : decide ((j : Int) < (i : Int)) = true := decide_eq_true (by omega)
          have hl2 : decide (j < i) = true := decide_eq_true hltj
          have HTK := Aside0.mk (dq_succ b i j)
          generalize dq b i j = t at HO HTK hsz
          clear hle3 hC3
          go_wp2_with (first | ((with_reducible refine gate_builtin (b := .append) (xs := #[.tmp 44, .tmp 45]) rfl ?_); at_builtin; refine app_u8 w.heap.size rfl (.tmp 44) (.tmp 45) rfl (.slice A3 t.length c3) t [41] (some ⟨_, 0, none⟩) 1 1 rfl rfl (Kd.R_alloc HO.out _) (lit_C _ [41] (0, 0) _ rfl (by simp)) rfl (below_alloc HB.out _) (by simp; have := below_size HB.out; omega) (by omega) ?_; intro v4 w4 ho hb; have HO6 := Aside0.mk ho; have HB6 := Aside0.mk hb; clear ho hb))
          go_roundg (i - (j + 1))
          case measure => have := HJ.out; have := HLT.out; omega
          case rel => exact ⟨j + 1, by go_num, ⟨by have := HLT.out; omega⟩, ⟨by rw [HTK.out]; exact HO6.out⟩, HB6⟩
        · have hl1 : decide ((j : Int) < (i : Int)) = false := decide_eq_false (by omega)
          have hl2 : decide (j < i) = false := decide_eq_false hltj
          have e : j = i := by have := HJ.out; omega
          subst e
          have hby := dq_byte b j j
          have HQB := Aside0.mk hby
          obtain ⟨V, hV⟩ : ∃ V, V = mread (dq b j j) := ⟨_, rfl⟩
          have hcase : (512 < j ∧ V = ([], fi, 6) ∧ 0 ≤ fi) ∨ (j = 0 ∧ fi = -1 ∧ V = ([], 0, 5)) ∨ (0 < j ∧ fi = -1 ∧ ∃ l, V = (l, 0, 0) ∧ 2 * j ≤ l.length ∧ l.length ≤ 1800) := by
            rw [hV, HFI.out]
            unfold fst_
            by_cases h5 : 512 < j
            · left
              rw [if_neg (by omega)]
              exact ⟨h5, deep_bad b j h5 _, by omega⟩
            · right
              rw [if_pos (by omega)]
              by_cases h0 : j = 0
              · left; subst h0; exact ⟨rfl, rfl, deep_none⟩
              · right
                obtain ⟨l, h1, h2⟩ := deep_ok b j (by omega) (by omega)
                have h3 := SLaws.mread_at (dq b j j)
                have h4 : mread (dq b j j) = (l, 0, 0) := h2
                rw [h4] at h3
                exact ⟨by omega, rfl, l, h4, h1, by have := h3.2.2.2.2; simp only at this; omega⟩
          have HC3 := Aside0.mk (And.intro hC3 hle3)
          obtain ⟨vl, va, ve⟩ := V
          have HMR := Aside0.mk hV.symm
          have HQL := Aside0.mk hsz
          generalize dq b j j = q at HC3 HMR HQB HQL
          clear hC3 hle3 hV hby HO hltj HJ HFI hsz
          go_wp2_with fail
          refine (sread_n A3 c3 q.length q _ rfl HC3.out.1 HQB.out (by have := HQL.out; omega) HC3.out.2 _ _ _ HMR.out).mono ?_
          rintro e w1 ⟨v1, rfl, hr, hb⟩
          have HB1 := Aside0.mk (below_step HB.out hb)
          obtain ⟨A1, c1, rfl, _, _⟩ := Kd.R_reads hr
          clear hr hb HB
          rcases hcase with ⟨h1, h2, h3⟩ | ⟨h1, h2, h3⟩ | ⟨h1, h2, l, h3, h4, h5⟩
          · simp only [Prod.mk.injEq] at h2
            obtain ⟨rfl, rfl, rfl⟩ := h2
            have k1 : decide ((0 : Int) ≤ va) = true := decide_eq_true h3
            have k2 : (va == va) = true := by simp
            go_wp2_with fail
            go_ret
            exact ⟨rfl, HB1.out⟩
          · simp only [Prod.mk.injEq] at h3
            obtain ⟨rfl, rfl, rfl⟩ := h3
            subst h1 h2
            go_wp2_with fail
            go_ret
            exact ⟨rfl, HB1.out⟩
          · simp only [Prod.mk.injEq] at h3
            obtain ⟨rfl, rfl, rfl⟩ := h3
            subst h2
            have k1 : decide ((0 : Int) < (j : Int)) = true := decide_eq_true (by omega)
            have k2 : decide (0 < j) = true := decide_eq_true h1
            have k3 : ((j : Int) == 0) = false := beq_eq_false_iff_ne.2 (by omega)
            have k4 : decide (2 * (j : Int) ≤ (vl.length : Int)) = true := decide_eq_true (by omega)
            go_wp2_with fail
            go_ret
            exact ⟨rfl, HB1.out⟩
end Go.Proofs.Ytfflfadfalacgaa.LSexpDeep
