/- Proved: what the laws of layer 9 share: Same of a list and itself is true; the law's own text; the law's own example (quotes) is true. -/
import Derived.Test.YtfflfadfalacgaaSRead
import Derived.Lib.SlBytesConst
namespace Go.Proofs.Ytfflfadfalacgaa.SW
open Go.RowKit Go.Proofs.YtfflfadfalacgaaW.PrintWords Go.Proofs.YtfflfadfalacgaaW.PrintLast Go.Proofs.YtfflfadfalacgaaW.PrintMore
open Go.Proofs.Ytfflfadfalacgaa.SMem hiding Tok
open Go.Proofs.Ytfflfadfalacgaa.SPlain Go.Proofs.Ytfflfadfalacgaa.SRef Go.Proofs.Ytfflfadfalacgaa.SRd Go.Proofs.Ytfflfadfalacgaa.SParse Go.Proofs.Ytfflfadfalacgaa.STx Go.Proofs.Ytfflfadfalacgaa.SRead
set_option linter.unusedVariables false
set_option linter.unusedSimpArgs false
set_option maxHeartbeats 8000000
set_option maxRecDepth 100000
theorem eqA34 (d : Nat) (w : World) (x0 y0 : Int) (x1 y1 : Int) (x2 y2 : Int) :
    (Op.equalIn (d + 2) 34 (.agg #[.int .u8 x0, .int .i64 x1, .int .i64 x2]) (.agg #[.int .u8 y0, .int .i64 y1, .int .i64 y2])).run Try.prog w = .ok (x0 == y0 && (x1 == y1 && (x2 == y2))) w := by
  refine eqA_of Try.underlying34 (by kernel_rfl) ?_
  refine eqf_cons (by rfl) (by go_simp; rfl) (by go_simp; rfl) (by go_simp) ?_
  refine eqf_cons (by rfl) (by go_simp; rfl) (by go_simp; rfl) (by go_simp) ?_
  exact eqf_last (by rfl) (by go_simp; rfl) (by go_simp; rfl) (by go_simp)
abbrev tz : Int × Int × Int := (0, 0, 0)
theorem tok_C {w : World} {A : Option Addr} {l : List (Int × Int × Int)} (h : tokK.C w A l.length l) (i : Nat) (hi : i < l.length) : ∃ ad, A = some ad ∧ w.cell? (ad.add (i * 3)) = some (.int .u8 (l.getD i tz).1) ∧
    w.cell? ⟨(ad.add (i * 3)).block, (ad.add (i * 3)).off + 1, none⟩ = some (.int .i64 (l.getD i tz).2.1) ∧ w.cell? ⟨(ad.add (i * 3)).block, (ad.add (i * 3)).off + 2, none⟩ = some (.int .i64 (l.getD i tz).2.2) := by
  obtain ⟨ad, c, e, _, hK, hc0⟩ := Kd.C_get h tz (i : Int) (by omega) (by omega)
  rw [Int.toNat_natCast] at hK hc0
  have hc : ∀ j u, c[j]? = some u → w.cell? (ad.add (i * 3 + j)) = some u := hc0
  generalize l.getD i tz = t at hK ⊢
  obtain ⟨x, y, z⟩ := t
  obtain ⟨_, _, rfl, rfl, _, _, rfl, rfl, rfl⟩ := hK
  exact ⟨ad, e, hc 0 _ rfl, by rw [← add_field _ _ 1 (by omega)]; exact hc 1 _ rfl, by rw [← add_field _ _ 2 (by omega)]; exact hc 2 _ rfl⟩
theorem same_calls (A B : Option Addr) (c d : Nat) (l : List (Int × Int × Int)) (w : World) (h1 : tokK.C w A l.length l) (h2 : tokK.C w B l.length l) (hl : l.length ≤ 1000000) :
    Calls Try.prog 13 #[.slice A l.length c, .slice B l.length d] w fun e w' => e = .returned (.bool true) ∧ ∃ n, w' = w.drewN n := by
  have H1 := Aside0.mk h1
  have H2 := Aside0.mk h2
  have hu34 := Try.underlying34
  clear h1 h2
  have hne : ((l.length : Int) != (l.length : Int)) = false := by simp
  go_enter Try.func13, Try.ntmps13
  go_wp2
  go_loopg [5] l.length (fun kq v5 w' => ∃ i : Nat, v5 = .int .i64 (i : Int) ∧ Aside0 (i + kq = l.length) ∧ ∃ n, w' = w.drewN n)
  case atStart => exact ⟨0, rfl, ⟨by omega⟩, 0, rfl⟩
  case round =>
    obtain ⟨i, rfl, HI, n, rfl⟩ := hrel
    have hi1 : (i : Int) ≤ 1000000 := by have := HI.out; omega
    by_cases hlt : i < l.length
    · have hlt' : decide ((i : Int) < (l.length : Int)) = true := decide_eq_true (by omega)
      have HLT := Aside0.mk hlt
      obtain ⟨a1, ea, x1, x2, x3⟩ := tok_C H1.out i hlt
      obtain ⟨a2, eb, y1, y2, y3⟩ := tok_C H2.out i hlt
      cases ea
      cases eb
      have p0 : (0 : Int) ≤ (i : Int) := by omega
      have p1 : (i : Int) < (l.length : Int) := by omega
      generalize l.getD i tz = t at x1 x2 x3 y1 y2 y3
      obtain ⟨t1, t2, t3⟩ := t
      simp only at x1 x2 x3 y1 y2 y3
      go_wp2_with fail
      go_quiet (fail)
      simp only [Exit.then]
      apply_assumption
      go_wp2
      go_roundg (l.length - (i + 1))
      case measure => have := HI.out; have := HLT.out; omega
      case rel => exact ⟨i + 1, by go_num, ⟨by have := HLT.out; omega⟩, n + nq, by first | rfl | rw [World.drewN_drewN]⟩
    · have hlt' : decide ((i : Int) < (l.length : Int)) = false := decide_eq_false (by omega)
      have hlt2 : decide (i < l.length) = false := decide_eq_false hlt
      go_wp2
      go_ret
      exact ⟨rfl, n, rfl⟩
theorem lit_C (w : World) (xs : List Int) (fr : Nat × Nat) (cs : Array Value) (h : cs = (xs.map (Value.int .u8)).toArray) (hn : xs.length ≤ 9223372036854775807) : (Kd.int .u8).C (w.alloc (.cells cs 5 fr)) (some ⟨w.heap.size, 0, none⟩) xs.length xs := by
  refine Kd.C_of_reads (d := (0 : Int)) (h1 := fun _ => rfl) ⟨rfl, hn, fun _ => ⟨_, rfl, fun j hj => ?_⟩⟩
  rw [add_plain]
  have hb : (w.alloc (.cells cs 5 fr)).heap[w.heap.size]? = some (.cells cs 5 fr) := blk_new w _
  subst h
  have : (w.alloc (.cells ((xs.map (Value.int .u8)).toArray) 5 fr)).cell? ⟨w.heap.size, j, none⟩ = ((xs.map (Value.int .u8)).toArray)[j]? := by
    unfold World.cell?
    rw [hb]
    rfl
  rw [this]
  simp [List.getD_eq_getElem?_getD, List.getElem?_eq_getElem hj]
/-- Read, called with a slice whose length is spelled otherwise. -/
theorem sread_n (A : Option Addr) (c n : Nat) (p : List Int) (w : World) (hpn : p.length = n) (hR : (Kd.int .u8).C w A p.length p) (hb : ByteL p) (hn : p.length ≤ 100000) (hc : n ≤ c) (l : List (Int × Int × Int)) (at_ e_ : Int) (hm : mread p = (l, at_, e_)) :
    Calls Try.prog 11 #[.slice A n c] w fun e w' => ∃ v, e = .returned (.tuple #[v, .int .i64 at_, .int .i64 e_]) ∧ Kd.R tokK 34 w' w.heap.size (fun _ => True) v l ∧ Below w.heap.size w w' := by
  subst hpn
  have := sread_calls A c p w hR hb hn hc
  rw [hm] at this
  exact this
def ex1 : List Int := [39, 40, 97, 32, 34, 98, 32, 99, 34, 41]
def ex2 : List Int := [40, 97]
theorem ex1_read : mread ex1 = ([(6, 0, 1), (1, 1, 1), (5, 2, 1), (5, 4, 5), (2, 9, 1)], 0, 0) := by decide +kernel
theorem ex2_read : mread ex2 = ([], 2, 5) := by decide +kernel
theorem ex1_bytes : ByteL ex1 := by unfold ByteL ex1; decide
theorem ex2_bytes : ByteL ex2 := by unfold ByteL ex2; decide
theorem quotes_calls (w : World) : Calls Try.prog 10 #[] w fun e w' => e = .returned (.bool true) ∧ Below w.heap.size w w' := by
  have kc := fun (w : World) (C : Array Value) (n c : Nat) => Lib.run_convert_bytes_const (P := Try.prog) w 22 5 C n c Try.underlying22 Try.underlying5
  have HB := Aside0.mk (Below.refl w.heap.size w)
  go_enter Try.func10, Try.ntmps10
  go_wp2_with fail
  refine (sread_n _ _ _ ex1 _ rfl (lit_C w ex1 (10, 11) _ rfl (by decide)) ex1_bytes (by decide) (by decide) _ _ _ ex1_read).mono ?_
  rintro e w1 ⟨v1, rfl, hr, hb⟩
  have HB1 := Aside0.mk (below_step (below_alloc HB.out _) hb)
  clear HB hb
  obtain ⟨g, c1, rfl, hgb, hgl, cells, hcells⟩ := Kd.R_form hr (by decide)
  obtain ⟨_, _, hC⟩ := Kd.R_reads' hr
  obtain ⟨ad, ea, k0, _, _⟩ := tok_C hC 0 (by decide)
  cases ea
  obtain ⟨ad, ea, k1, _, _⟩ := tok_C hC 1 (by decide)
  cases ea
  obtain ⟨ad, ea, _, _, k3⟩ := tok_C hC 3 (by decide)
  cases ea
  have HG := Aside0.mk (And.intro hgb hgl)
  have HK := Aside0.mk (show w1.cell? ⟨g, 0, none⟩ = some (.int .u8 6) ∧ w1.cell? ⟨g, 3, none⟩ = some (.int .u8 1) ∧ w1.cell? ⟨g, 11, none⟩ = some (.int .i64 5) from ⟨k0, k1, k3⟩)
  clear hr hgb hgl hcells hC k0 k1 k3
  go_wp2_with fail
  refine (sread_n _ _ _ ex2 _ rfl (lit_C w1 ex2 (2, 3) _ rfl (by decide)) ex2_bytes (by decide) (by decide) _ _ _ ex2_read).mono ?_
  rintro e w2 ⟨v2, rfl, hr, hb⟩
  have HB2 := Aside0.mk (below_step (below_alloc HB1.out _) hb)
  have HS := Aside0.mk (below_then (below_alloc (Below.refl w1.heap.size w1) (.cells #[.int .u8 40, .int .u8 97] 5 (2, 3))) (by simp) hb)
  clear HB1 hb
  obtain ⟨A2, c2, rfl, _, _⟩ := Kd.R_reads hr
  have k0 : w2.cell? ⟨g, 0, none⟩ = some (.int .u8 6) := (HS.out.cell (p := ⟨g, 0, none⟩) HG.out.2).trans HK.out.1
  have k1 : w2.cell? ⟨g, 3, none⟩ = some (.int .u8 1) := (HS.out.cell (p := ⟨g, 3, none⟩) HG.out.2).trans HK.out.2.1
  have k3 : w2.cell? ⟨g, 11, none⟩ = some (.int .i64 5) := (HS.out.cell (p := ⟨g, 11, none⟩) HG.out.2).trans HK.out.2.2
  clear hr
  go_wp2_with fail
  go_ret
  exact ⟨rfl, HB2.out⟩
end Go.Proofs.Ytfflfadfalacgaa.SW
