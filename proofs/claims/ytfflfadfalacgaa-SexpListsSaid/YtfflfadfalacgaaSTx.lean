/- Proved: the program's reader of layer 9: quotes and text; the text has at most 100000 bytes. -/
import Derived.Test.YtfflfadfalacgaaSQu
import Derived.Test.YtfflfadfalacgaaSLists
import Derived.Lib.Strings
namespace Go.Proofs.Ytfflfadfalacgaa.STx
open Go.RowKit Go.Proofs.YtfflfadfalacgaaW.PrintWords Go.Proofs.YtfflfadfalacgaaW.PrintLast Go.Proofs.YtfflfadfalacgaaW.PrintMore
open Go.Proofs.Ytfflfadfalacgaa.SMem hiding Tok
open Go.Proofs.Ytfflfadfalacgaa.SPlain Go.Proofs.Ytfflfadfalacgaa.SRef Go.Proofs.Ytfflfadfalacgaa.SRd Go.Proofs.Ytfflfadfalacgaa.SLib Go.Proofs.Ytfflfadfalacgaa.SParse Go.Proofs.Ytfflfadfalacgaa.SBl Go.Proofs.Ytfflfadfalacgaa.SQu
set_option linter.unusedVariables false
set_option linter.unusedSimpArgs false
set_option maxHeartbeats 4000000
set_option maxRecDepth 100000
/-- The reader's text: read in W, in a slice with room. -/
structure Txt (W : World) (P : Option Addr) (cP : Nat) (p : List Int) : Prop where
  c : (Kd.int .u8).C W P p.length p
  b : ByteL p
  n : p.length ≤ 100000
  cap : p.length ≤ cP
theorem hp_lists (l m : List UInt8) : hp ⟨l.toArray⟩ ⟨m.toArray⟩ = (decide (m.length ≤ l.length) && l.take m.length == m) := by
  unfold hp
  have e1 : (⟨l.toArray⟩ : ByteArray).size = l.length := by simp [ByteArray.size]
  have e2 : (⟨m.toArray⟩ : ByteArray).size = m.length := by simp [ByteArray.size]
  rw [e1, e2, ByteArray.toList_eq, ByteArray.toList_eq, Lib.extract_data]
  simp
theorem qs_list (xs : List Int) : qs (strOfNums xs) = (if hp ⟨(xs.map fun n => UInt8.ofNat n.toNat).toArray⟩ ⟨#[44, 64]⟩ then 2 else if hp ⟨(xs.map fun n => UInt8.ofNat n.toNat).toArray⟩ ⟨#[39]⟩ then 1 else if hp ⟨(xs.map fun n => UInt8.ofNat n.toNat).toArray⟩ ⟨#[96]⟩ then 1 else if hp ⟨(xs.map fun n => UInt8.ofNat n.toNat).toArray⟩ ⟨#[44]⟩ then 1 else 0) := rfl
theorem u8_eq : ∀ n : Nat, n < 256 → ∀ k : Nat, k < 256 → ((UInt8.ofNat n = UInt8.ofNat k) ↔ n = k) := by
  intro n hn k hk
  constructor
  · intro h
    have := congrArg UInt8.toNat h
    simp at this
    omega
  · rintro rfl; rfl
theorem qn_cons (a : Int) (t : List Int) : qn (a :: t) = if a = 44 then (if t.head? = some 64 then 2 else 1) else if a = 39 then 1 else if a = 96 then 1 else 0 := by
  by_cases h44 : a = 44
  · subst h44
    cases t with
    | nil => rfl
    | cons b t =>
      by_cases h64 : b = 64
      · subst h64; rfl
      · simp only [if_true, List.head?_cons, Option.some.injEq, h64, if_false]
        unfold qn; split <;> simp_all
  · rw [if_neg h44]
    by_cases h39 : a = 39
    · subst h39; rfl
    · rw [if_neg h39]
      by_cases h96 : a = 96
      · subst h96; rfl
      · rw [if_neg h96]
        unfold qn; split <;> simp_all
theorem byte_eq {a : Int} (h : 0 ≤ a ∧ a ≤ 255) (k : Nat) (hk : k < 256) : (UInt8.ofNat a.toNat == UInt8.ofNat k) = decide (a = (k : Int)) := by
  rw [Bool.eq_iff_iff, beq_iff_eq, u8_eq a.toNat (by omega) k hk]; simp; omega
theorem qs_qn (q : List Int) (h : ByteL q) : qs (strOfNums (q.take 2)) = qn q := by
  rw [qs_list]
  have l1 : ∀ (xs : List UInt8) (a : UInt8), hp ⟨xs.toArray⟩ ⟨#[a]⟩ = (decide (1 ≤ xs.length) && xs.take 1 == [a]) := fun xs a => hp_lists xs [a]
  have l2 : ∀ (xs : List UInt8) (a b : UInt8), hp ⟨xs.toArray⟩ ⟨#[a, b]⟩ = (decide (2 ≤ xs.length) && xs.take 2 == [a, b]) := fun xs a b => hp_lists xs [a, b]
  rw [l1, l1, l1, l2]
  match q, h with
  | [], _ => rfl
  | [a], h =>
    have ha := h a (by simp)
    have e39 : (UInt8.ofNat a.toNat == 39) = decide (a = 39) := byte_eq ha 39 (by omega)
    have e96 : (UInt8.ofNat a.toNat == 96) = decide (a = 96) := byte_eq ha 96 (by omega)
    have e44 : (UInt8.ofNat a.toNat == 44) = decide (a = 44) := byte_eq ha 44 (by omega)
    rw [qn_cons]
    simp only [List.take, List.map, List.length_cons, List.length_nil, List.cons_beq_cons, e39, e96, e44]
    by_cases h44 : a = 44
    · subst h44; rfl
    · by_cases h39 : a = 39
      · subst h39; rfl
      · by_cases h96 : a = 96
        · subst h96; rfl
        · simp [h44, h39, h96]
  | a :: b :: t, h =>
    have ha := h a (by simp)
    have hb := h b (by simp)
    have e39 : (UInt8.ofNat a.toNat == 39) = decide (a = 39) := byte_eq ha 39 (by omega)
    have e96 : (UInt8.ofNat a.toNat == 96) = decide (a = 96) := byte_eq ha 96 (by omega)
    have e44 : (UInt8.ofNat a.toNat == 44) = decide (a = 44) := byte_eq ha 44 (by omega)
    have e64 : (UInt8.ofNat b.toNat == 64) = decide (b = 64) := byte_eq hb 64 (by omega)
    rw [qn_cons]
    simp only [List.take, List.map, List.length_cons, List.length_nil, List.cons_beq_cons, e39, e96, e44, e64, List.head?_cons, Option.some.injEq]
    by_cases h44 : a = 44
    · subst h44
      by_cases h64 : b = 64
      · subst h64; rfl
      · simp [h64]
    · by_cases h39 : a = 39
      · subst h39; rfl
      · by_cases h96 : a = 96
        · subst h96; rfl
        · simp [h44, h39, h96]
theorem strOf_size (xs : List Int) : (strOfNums xs).size = xs.length := by simp [strOfNums, ByteArray.size]
theorem take_two (p : List Int) (k m : Nat) (hm : m = min (k + 2) p.length) : (p.take m).drop k = (p.drop k).take 2 := by
  rw [List.take_drop]
  subst hm
  by_cases h : k + 2 ≤ p.length
  · rw [Nat.min_eq_left h]
  · rw [Nat.min_eq_right (by omega), List.take_length, List.take_of_length_le (by omega)]
theorem q_aux {L f i k n : Nat} (h1 : L ≤ f + i) (h2 : i ≤ k) (h3 : ¬ n = 0) (h4 : k < L) : L ≤ f - 1 + (k + n) := by omega
theorem info5 : (Try.prog.info? 5).map (fun i => (i.zero, i.size, i.bytes)) = some (some (.int .u8 0), 1, 1) := by kernel_rfl
set_option maxHeartbeats 8000000 in
theorem quotes_calls (W w : World) (g : Nat) (P : Option Addr) (cP : Nat) (p : List Int) (a : Nat) (l : List (Int × Int × Int)) (hT : Txt W P cP p) (h : RS w W.heap.size g (.slice P p.length cP) a l) (hb : Below W.heap.size W w) (ha : a ≤ p.length) (hl : l.length ≤ a) :
    Calls Try.prog 22 #[.pointer (some ⟨g, 0, none⟩)] w fun e w' => e = .returned (.tuple #[]) ∧ RS w' W.heap.size g (.slice P p.length cP) (quotesP p (p.length + 1) a l).1 (quotesP p (p.length + 1) a l).2 ∧ Below W.heap.size W w' := by
  obtain ⟨V, hV⟩ : ∃ V, V = quotesP p (p.length + 1) a l := ⟨_, rfl⟩
  rw [← hV]
  have HV := Aside0.mk hV
  have HT := Aside0.mk hT
  have HM := Aside0.mk h
  have HB := Aside0.mk hb
  have HA := Aside0.mk (And.intro ha hl)
  clear hT h hb ha hV hl
  go_enter Try.func22, Try.ntmps22
  go_wp2_with fail
  refine (blanks_calls W _ g P cP p a l HT.out.c HT.out.b HT.out.n HM.out HB.out HA.out.1).mono ?_
  rintro e w_ ⟨rfl, hm_, hb_⟩
  have HM2 := Aside0.mk hm_
  have HB2 := Aside0.mk hb_
  clear hm_ hb_ HM HB
  go_wp2_with fail
  go_loopg [] (p.length + 1 - a) (fun kq w' => ∃ (i f : Nat) (l' : List (Int × Int × Int)), Aside0 (i + kq = p.length + 1 ∧ i ≤ p.length ∧ l'.length ≤ i ∧ p.length ≤ f + i) ∧ Aside0 (V = quotesP p (f + 1) i l') ∧ Aside0 (RS w' W.heap.size g (.slice P p.length cP) (skip p i) l') ∧ Aside0 (Below W.heap.size W w'))
  case atStart => exact ⟨a, p.length, l, ⟨by have := HA.out; omega, HA.out.1, HA.out.2, by omega⟩, HV, HM2, HB2⟩
  case round =>
    clear HM2 HB2 HV
    obtain ⟨i, f, l', HI, HV, HM, HB⟩ := hrel
    have HS := Aside0.mk (And.intro (SSim.skip_le p i HI.out.2.1) (SSim.skip_ge p i))
    have hv := HV.out
    unfold quotesP at hv
    simp only at hv
    generalize hk : skip p i = k at HM HS hv
    clear hk
    have c0 := HM.out.c0
    have c1 := HM.out.c1
    have f1 := HM.out.fz 1
    have hkl : k ≤ 100000 := by have := HS.out; have := HT.out.n; omega
    by_cases hlt : k < p.length
    · have HLT := Aside0.mk hlt
      rw [if_pos hlt] at hv
      have hlt' : decide ((k : Int) < (p.length : Int)) = true := decide_eq_true (by omega)
      obtain ⟨m, hm⟩ : ∃ m : Nat, m = min (k + 2) p.length := ⟨_, rfl⟩
      obtain ⟨i5, hi5, hz5, hs5, hb5⟩ := info_parts info5
      have hcut := cut_mid 22 5 .i64 .i64 Try.underlying22 hi5 1 hs5 P p.length cP (k : Int) (m : Int) (by omega) (by omega) (by omega) HT.out.cap
      rw [Int.toNat_natCast, Int.toNat_natCast] at hcut
      have hC := Kd.C_mid (k := Kd.int .u8) HT.out.c (show k ≤ m by omega) (show m ≤ p.length by omega) HT.out.cap
      rw [show k * (Kd.int .u8).sz = k * 1 from rfl] at hC
      generalize (if cP = k then P else P.map (·.add (k * 1))) = A at hcut hC
      have hlen : ((p.take m).drop k).length = m - k := by simp; omega
      rw [hlen] at hC
      go_wp2_with fail
      go_quiet (fail)
      simp only [Exit.then]
      apply_assumption
      go_wp2_with fail
      have HM3 := Aside0.mk (rs_drewN HM.out nq)
      have HB3 := Aside0.mk (below_then HB.out HB.out.size (pw_below_drewN (Below.refl _ _) nq))
      clear c0 c1 f1 HM HB
      generalize wr.drewN nq = w2 at HM3 HB3
      have hstr : ∀ n : Nat, (convert 22 9 (.slice A (m - k) (cP - k))).run Try.prog (w2.drewN n) = .ok (.string (strOfNums ((p.take m).drop k))) (w2.drewN n) := fun n => by
        refine Kd.C_string Try.underlying22 (by kernel_rfl) (by kernel_rfl) ?_
        have := Kd.C_below hC (below_then HB3.out HB3.out.size (pw_below_drewN (Below.refl _ _) n))
        exact this
      have c0 := HM3.out.c0
      have c1 := HM3.out.c1
      have f1 := HM3.out.fz 1
      have hwr : IntKind.i64.wrap ((k : Int) + 2) = (k : Int) + 2 := IntWalk.i64_in _ (by omega)
      have hmin : (if (p.length : Int) < (k : Int) + 2 then (p.length : Int) else (k : Int) + 2) = (m : Int) := by split <;> omega
      have hsz : (strOfNums ((p.take m).drop k)).size ≤ 1000000000 := by rw [strOf_size, hlen]; omega
      have hqs : qs (strOfNums ((p.take m).drop k)) = (qn (p.drop k) : Int) := by
        rw [take_two p k m hm]; exact qs_qn _ (fun x hx => HT.out.b x (List.mem_of_mem_drop hx))
      generalize strOfNums ((p.take m).drop k) = S at hstr hsz hqs
      have hle := SSim.qn_le (p.drop k)
      rw [List.length_drop] at hle
      have hle2 := SSim.qn_two (p.drop k)
      generalize hqn : qn (p.drop k) = n at hqs hv hle hle2
      have HQC := Aside0.mk (fun w => quote_calls S w hsz)
      rw [hqs] at HQC
      clear hm hsz hqs hqn
      go_quiet ((go_at_call 30; exact Calls.quiet_of_same ((HQC.out _).mono fun _ _ h => ⟨h.1, h.2.symm⟩)))
      simp only [Exit.then]
      apply_assumption
      clear hwr hmin hstr HQC hcut hC hlen
      by_cases hn : n = 0
      · rw [if_pos hn] at hv
        have hn' : ((n : Int) == 0) = true := beq_iff_eq.2 (by omega)
        have HV2 := Aside0.mk hv
        clear hv hn
        go_wp2
        refine bodyPost_ret (results_none rfl _ _ _) rfl ?_
        rw [HV2.out]
        exact ⟨rfl, rs_drewN HM3.out nq, HB3.out.trans (pw_below_drewN (Below.refl _ _) nq)⟩
      · rw [if_neg hn] at hv
        have hn' : ((n : Int) == 0) = false := beq_eq_false_iff_ne.2 (by omega)
        have HV2 := Aside0.mk hv
        have HN := Aside0.mk hn
        clear hv hn
        go_wp2_with fail
        refine (take_calls W _ g (.slice P p.length cP) (k : Int) l' 6 (n : Int) (rs_drewN HM3.out nq) (HB3.out.trans (pw_below_drewN (Below.refl _ _) nq)) (by have := HI.out; have := HT.out.n; omega) (by omega) (by omega) (by omega) (by omega)).mono ?_
        rintro e w3 ⟨rfl, hm_, hb_⟩
        rw [show (k : Int) + (n : Int) = ((k + n : Nat) : Int) by omega] at hm_
        have HM4 := Aside0.mk hm_
        have HB4 := Aside0.mk hb_
        clear hm_ hb_ c0 c1 f1 HM3 HB3
        go_wp2_with fail
        refine (blanks_calls W _ g P cP p (k + n) _ HT.out.c HT.out.b HT.out.n HM4.out HB4.out (by omega)).mono ?_
        rintro e w4 ⟨rfl, hm_, hb_⟩
        have HM5 := Aside0.mk hm_
        have HB5 := Aside0.mk hb_
        clear hm_ hb_ HM4 HB4
        go_wp2_with fail
        go_roundg (p.length + 1 - (k + n))
        case measure => have := HI.out; have := HS.out; have := HN.out; omega
        case rel => exact ⟨k + n, f - 1, _, ⟨by have h1 := HI.out; have h2 := HS.out; have h3 := HN.out; rw [List.length_append, List.length_cons, List.length_nil]; have h4 := HLT.out; refine ⟨?_, ?_, ?_, ?_⟩; omega; omega; omega; exact q_aux h1.2.2.2 h2.2 h3 h4⟩, ⟨by rw [HV2.out, show f - 1 + 1 = f by have h1 := HI.out; have h2 := HS.out; have h4 := HLT.out; omega]⟩, HM5, HB5⟩
    · rw [if_neg hlt] at hv
      have hlt' : decide ((k : Int) < (p.length : Int)) = false := decide_eq_false (by omega)
      have hlt2 : decide (k < p.length) = false := decide_eq_false hlt
      have HV2 := Aside0.mk hv
      clear hv
      go_wp2_with fail
      go_quiet (fail)
      simp only [Exit.then]
      apply_assumption
      go_wp2
      go_end0
      rw [HV2.out]
      exact ⟨rfl, rs_drewN HM.out nq, HB.out.trans (pw_below_drewN (Below.refl _ _) nq)⟩
/-- What text comes to. -/
def TextPost (W : World) (g : Nat) (pv : Value) (p : List Int) (a : Nat) (l : List (Int × Int × Int)) (r : Option Nat) (e : Ending) (w' : World) : Prop :=
  (∀ b, r = some b → e = .returned (.tuple #[]) ∧ RS w' W.heap.size g pv b (l ++ [(5, (a : Int), (b : Int) - a)])) ∧ (r = none → e = stopE 5 p.length) ∧ Below W.heap.size W w'
theorem textP_end {p : List Int} {f i : Nat} (h : p.length ≤ i) : textP p (f + 1) i = none := by
  unfold textP; rw [List.getElem?_eq_none h]
theorem textP_at {p : List Int} {f i : Nat} {x : Int} (h : i < p.length) (hx : p.getD i 0 = x) : textP p (f + 1) i = if x = 34 then some (i + 1) else if x = 92 then (if i + 1 = p.length then none else textP p f (i + 2)) else textP p f (i + 1) := by
  rw [List.getD_eq_getElem?_getD, List.getElem?_eq_getElem h] at hx
  simp only [Option.getD_some] at hx
  conv => lhs; unfold textP
  rw [List.getElem?_eq_getElem h, hx]
set_option maxHeartbeats 8000000 in
theorem text_calls (W w : World) (g : Nat) (P : Option Addr) (cP : Nat) (p : List Int) (a : Nat) (l : List (Int × Int × Int)) (hT : Txt W P cP p) (h : RS w W.heap.size g (.slice P p.length cP) a l) (hb : Below W.heap.size W w) (ha : a < p.length) (hl : l.length ≤ a) :
    Calls Try.prog 24 #[.pointer (some ⟨g, 0, none⟩)] w (TextPost W g (.slice P p.length cP) p a l (textP p p.length (a + 1))) := by
  obtain ⟨V, hV⟩ : ∃ V, V = textP p p.length (a + 1) := ⟨_, rfl⟩
  rw [← hV]
  have HV := Aside0.mk hV
  have HT := Aside0.mk hT
  have HM := Aside0.mk h
  have HB := Aside0.mk hb
  have HA := Aside0.mk (And.intro ha hl)
  have c0 := h.c0
  have c1 := h.c1
  have f1 := h.fz 1
  have hn := hT.n
  clear hT h hb ha hV hl
  have haa : (a : Int) ≤ 100000 := by have := HA.out; omega
  go_enter Try.func24, Try.ntmps24
  go_wp2_with fail
  have HM2 := Aside0.mk (HM.out.setAt ((a : Int) + 1))
  have HB2 := Aside0.mk (bset (i := 1) (v := .int .i64 ((a : Int) + 1)) HB.out HM.out.1)
  clear HM HB c0 c1 f1
  go_loopg [] (p.length - a) (fun kq w' => ∃ (i f : Nat), Aside0 (i + kq = p.length + 1 ∧ i ≤ p.length ∧ a < i ∧ p.length ≤ f + i) ∧ Aside0 (V = textP p (f + 1) i) ∧ Aside0 (RS w' W.heap.size g (.slice P p.length cP) i l) ∧ Aside0 (Below W.heap.size W w'))
  case atStart => exact ⟨a + 1, p.length - 1, ⟨by have := HA.out; omega⟩, ⟨by rw [HV.out, show p.length - 1 + 1 = p.length by have := HA.out; omega]⟩, HM2, HB2⟩
  case round =>
    clear HM2 HB2 HV
    obtain ⟨i, f, HI, HV, HM, HB⟩ := hrel
    have c0 := HM.out.c0
    have c1 := HM.out.c1
    have hi1 : (i : Int) ≤ 100000 := by have := HI.out; omega
    by_cases hlt : i < p.length
    · have HLT := Aside0.mk hlt
      have ht : ((i : Int) == (p.length : Int)) = false := beq_eq_false_iff_ne.2 (by omega)
      obtain ⟨ad, ea, hx⟩ := at_nat HT.out.c i hlt
      cases ea
      replace hx := (HB.out.cell (World.block_lt_of_cell? W _ hx)).trans hx
      have hbx := HT.out.b (p.getD i 0) (by rw [List.getD_eq_getElem?_getD, List.getElem?_eq_getElem hlt]; simp)
      have hv := HV.out
      generalize hcv : p.getD i 0 = x at hx hbx
      rw [textP_at hlt hcv] at hv
      clear hcv
      go_wp2_with fail
      go_quiet (fail)
      simp only [Exit.then]
      apply_assumption
      have HM3 := Aside0.mk (rs_drewN HM.out nq)
      have HB3 := Aside0.mk (below_then HB.out HB.out.size (pw_below_drewN (Below.refl _ _) nq))
      have hx2 : (wr.drewN nq).cell? (ad.add i) = some (.int .u8 x) := hx
      clear c0 c1 HM HB hx
      generalize wr.drewN nq = w2 at HM3 HB3 hx2
      have c0 := HM3.out.c0
      have c1 := HM3.out.c1
      have p0 : (0 : Int) ≤ (i : Int) := by omega
      have p1 : (i : Int) < (p.length : Int) := by omega
      go_wp2_with fail
      go_quiet (fail)
      simp only [Exit.then]
      apply_assumption
      have HM4 := Aside0.mk (rs_drewN HM3.out nq)
      have HB4 := Aside0.mk (below_then HB3.out HB3.out.size (pw_below_drewN (Below.refl _ _) nq))
      clear c0 c1 HM3 HB3 hx2
      generalize w2.drewN nq = w3 at HM4 HB4
      have c0 := HM4.out.c0
      have c1 := HM4.out.c1
      have f1 := HM4.out.fz 1
      by_cases h34 : x = 34
      · rw [if_pos h34] at hv
        have e34 : (x == 34) = true := beq_iff_eq.2 h34
        have HV2 := Aside0.mk hv
        clear hv h34
        have HM5 := Aside0.mk ((HM4.out.setAt ((i : Int) + 1)).setAt (a : Int))
        have HB5 := Aside0.mk (bset (i := 1) (v := .int .i64 (a : Int)) (bset (i := 1) (v := .int .i64 ((i : Int) + 1)) HB4.out HM4.out.1) HM4.out.1)
        go_wp2_with fail
        refine (take_calls W _ g (.slice (some ad) p.length cP) (a : Int) l 5 ((i : Int) + 1 - (a : Int)) HM5.out HB5.out (by have := HA.out; omega) (by omega) (by omega) (by have := HI.out; omega) (by omega)).mono ?_
        rintro e w4 ⟨rfl, hm_, hb_⟩
        rw [show (a : Int) + ((i : Int) + 1 - (a : Int)) = ((i + 1 : Nat) : Int) by omega] at hm_
        have HM6 := Aside0.mk hm_
        have HB6 := Aside0.mk hb_
        clear hm_ hb_
        go_wp2_with fail
        go_end0
        refine ⟨fun b hb => ?_, fun hb => ?_, HB6.out⟩
        · rw [HV2.out] at hb
          cases hb
          refine ⟨rfl, ?_⟩
          have := HM6.out
          rw [show (i : Int) + 1 - (a : Int) = ((i + 1 : Nat) : Int) - (a : Int) by omega] at this
          exact this
        · rw [HV2.out] at hb; cases hb
      · rw [if_neg h34] at hv
        have e34 : (x == 34) = false := beq_eq_false_iff_ne.2 h34
        have HM5 := Aside0.mk (HM4.out.setAt ((i : Int) + 1))
        have HB5 := Aside0.mk (bset (i := 1) (v := .int .i64 ((i : Int) + 1)) HB4.out HM4.out.1)
        by_cases h92 : x = 92
        · rw [if_pos h92] at hv
          have e92 : (x == 92) = true := beq_iff_eq.2 h92
          go_wp2_with fail
          clear c0 c1 f1 HM4 HB4
          generalize w3.setCell ⟨g, 1, none⟩ (.int .i64 ((i : Int) + 1)) = w4 at HM5 HB5
          have c0 := HM5.out.c0
          have c1 := HM5.out.c1
          by_cases he : i + 1 = p.length
          · rw [if_pos he] at hv
            have he' : ((i : Int) + 1 == (p.length : Int)) = true := beq_iff_eq.2 (by omega)
            have HV2 := Aside0.mk hv
            have HE := Aside0.mk he
            clear hv he h34 h92
            go_quiet (fail)
            simp only [Exit.then]
            apply_assumption
            go_wp2_with fail
            refine (fail_calls _ W.heap.size g _ _ l (rs_drewN HM5.out nq)).mono ?_
            rintro e w5 ⟨he_, rfl⟩
            unfold stopE at he_
            subst he_
            go_wp2_with fail
            refine ⟨rfl, fun b hb => ?_, fun _ => ?_, HB5.out.trans (pw_below_drewN (Below.refl _ _) nq)⟩
            · rw [HV2.out] at hb; cases hb
            · rw [← HE.out]; rfl
          · rw [if_neg he] at hv
            have he' : ((i : Int) + 1 == (p.length : Int)) = false := beq_eq_false_iff_ne.2 (by omega)
            have HV2 := Aside0.mk hv
            have HE := Aside0.mk he
            clear hv he h34 h92
            go_quiet (fail)
            simp only [Exit.then]
            apply_assumption
            have HM6 := Aside0.mk (rs_drewN HM5.out nq)
            have HB6 := Aside0.mk (below_then HB5.out HB5.out.size (pw_below_drewN (Below.refl _ _) nq))
            clear c0 c1 HM5 HB5
            generalize w4.drewN nq = w5 at HM6 HB6
            have c0 := HM6.out.c0
            have c1 := HM6.out.c1
            have f1 := HM6.out.fz 1
            have HM7 := Aside0.mk (HM6.out.setAt ((i : Int) + 1 + 1))
            have HB7 := Aside0.mk (bset (i := 1) (v := .int .i64 ((i : Int) + 1 + 1)) HB6.out HM6.out.1)
            go_wp2
            go_roundg (p.length - i - 1)
            case measure => have := HI.out; have := HLT.out; omega
            case rel => exact ⟨i + 2, f - 1, ⟨by have h1 := HI.out; have h2 := HLT.out; have h3 := HE.out; omega⟩, ⟨by rw [HV2.out, show f - 1 + 1 = f by have h1 := HI.out; have h2 := HLT.out; omega]⟩, ⟨by have := HM7.out; rw [show (i : Int) + 1 + 1 = ((i + 2 : Nat) : Int) by omega] at this ⊢; exact this⟩, HB7⟩
        · rw [if_neg h92] at hv
          have e92 : (x == 92) = false := beq_eq_false_iff_ne.2 h92
          have HV2 := Aside0.mk hv
          clear hv h34 h92
          go_wp2
          go_roundg (p.length - i)
          case measure => have := HI.out; have := HLT.out; omega
          case rel => exact ⟨i + 1, f - 1, ⟨by have := HI.out; have := HLT.out; omega⟩, ⟨by rw [HV2.out, show f - 1 + 1 = f by have h1 := HI.out; have h2 := HLT.out; omega]⟩, HM5, HB5⟩
    · have ht : ((i : Int) == (p.length : Int)) = true := beq_iff_eq.2 (by have := HI.out; omega)
      have HV2 := Aside0.mk (show V = none by rw [HV.out]; exact textP_end (by omega))
      have HE := Aside0.mk (show i = p.length by have := HI.out; omega)
      go_wp2_with fail
      go_quiet (fail)
      simp only [Exit.then]
      apply_assumption
      go_wp2_with fail
      refine (fail_calls _ W.heap.size g _ _ l (rs_drewN HM.out nq)).mono ?_
      rintro e w5 ⟨he_, rfl⟩
      unfold stopE at he_
      subst he_
      go_wp2_with fail
      refine ⟨rfl, fun b hb => ?_, fun _ => ?_, HB.out.trans (pw_below_drewN (Below.refl _ _) nq)⟩
      · rw [HV2.out] at hb; cases hb
      · rw [← HE.out]; rfl
end Go.Proofs.Ytfflfadfalacgaa.STx
