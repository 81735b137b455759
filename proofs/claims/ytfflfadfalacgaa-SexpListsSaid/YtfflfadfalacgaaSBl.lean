/- Proved: the program's reader of layer 9: blanks, quotes, text. -/
import Derived.Test.YtfflfadfalacgaaSLib
import Derived.Test.YtfflfadfalacgaaSParse
import Derived.Deep.QuietTactic
import Derived.BigQuiet
namespace Go.Proofs.Ytfflfadfalacgaa.SBl
open Go.RowKit Go.Proofs.YtfflfadfalacgaaW.PrintWords Go.Proofs.YtfflfadfalacgaaW.PrintLast Go.Proofs.YtfflfadfalacgaaW.PrintMore Go.Proofs.Ytfflfadfalacgaa.SMem Go.Proofs.Ytfflfadfalacgaa.SPlain Go.Proofs.Ytfflfadfalacgaa.SRef Go.Proofs.Ytfflfadfalacgaa.SRd Go.Proofs.Ytfflfadfalacgaa.SLib Go.Proofs.Ytfflfadfalacgaa.SParse
set_option linter.unusedVariables false
set_option linter.unusedSimpArgs false
set_option maxHeartbeats 4000000
set_option maxRecDepth 100000
theorem rs_drewN {w : World} {base g : Nat} {pv : Value} {a : Int} {l : List (Int × Int × Int)} (h : RS w base g pv a l) (n : Nat) : RS (w.drewN n) base g pv a l := by
  obtain ⟨hg, v, hb, hr⟩ := h; exact ⟨hg, v, blk_drewN hb n, Kd.R_drewN hr n⟩
theorem ws_ix : ∀ n : Nat, n < 256 → (ws (n : Int) = decide (0 ≤ Lib.indexByte [32, 9, 13, 10] (UInt8.ofNat n))) := by decide +kernel
theorem ws_ix' (x : Int) (h0 : 0 ≤ x) (h1 : x ≤ 255) : ws x = decide (0 ≤ Lib.indexByte [32, 9, 13, 10] (UInt8.ofNat x.toNat)) := by
  obtain ⟨n, rfl⟩ := Int.eq_ofNat_of_zero_le h0
  rw [ws_ix n (by omega), Int.toNat_natCast]
theorem skip_yes {p : List Int} {i : Nat} {x : Int} (h : i < p.length) (hx : p.getD i 0 = x) (hw : ws x = true) : skip p i = skip p (i + 1) := by
  unfold skip
  rw [drop_at p i h, hx, List.takeWhile_cons_of_pos hw, List.length_cons]
  omega
theorem skip_no {p : List Int} {i : Nat} {x : Int} (h : i < p.length) (hx : p.getD i 0 = x) (hw : ws x = false) : skip p i = i := by
  unfold skip
  rw [drop_at p i h, hx, List.takeWhile_cons_of_neg (by simp [hw])]
  rfl
theorem skip_end {p : List Int} {i : Nat} (h : p.length ≤ i) : skip p i = i := by
  unfold skip
  rw [List.drop_of_length_le h]
  rfl
theorem blanks_calls (W w : World) (g : Nat) (P : Option Addr) (cP : Nat) (p : List Int) (a : Nat) (l : List (Int × Int × Int)) (hR : (Kd.int .u8).C W P p.length p) (hby : ByteL p) (hn : p.length ≤ 100000) (h : RS w W.heap.size g (.slice P p.length cP) a l) (hb : Below W.heap.size W w) (ha : a ≤ p.length) :
    Calls Try.prog 17 #[.pointer (some ⟨g, 0, none⟩)] w fun e w' => e = .returned (.tuple #[]) ∧ RS w' W.heap.size g (.slice P p.length cP) (skip p a) l ∧ Below W.heap.size W w' := by
  have HR := Aside0.mk hR
  have HBY := Aside0.mk hby
  have HM := Aside0.mk h
  have HB := Aside0.mk hb
  have HA := Aside0.mk ha
  clear hR hby h hb ha
  go_enter Try.func17, Try.ntmps17
  go_wp2
  go_loopg [] (p.length - a) (fun kq w' => ∃ i : Nat, Aside0 (i + kq = p.length ∧ a ≤ i) ∧ Aside0 (skip p a = skip p i) ∧ Aside0 (RS w' W.heap.size g (.slice P p.length cP) i l) ∧ Aside0 (Below W.heap.size W w'))
  case atStart => exact ⟨a, ⟨by have := HA.out; omega, Nat.le_refl _⟩, ⟨rfl⟩, HM, HB⟩
  case round =>
    clear HM HB
    obtain ⟨i, HI, HS, HM, HB⟩ := hrel
    have c0 := HM.out.c0
    have c1 := HM.out.c1
    have f1 := HM.out.fz 1
    by_cases hlt : i < p.length
    · have hlt' : decide ((i : Int) < (p.length : Int)) = true := decide_eq_true (by omega)
      have p0 : (0 : Int) ≤ (i : Int) := by omega
      have p1 : (i : Int) < (p.length : Int) := by omega
      obtain ⟨ad, ea, hx⟩ := at_nat HR.out i hlt
      cases ea
      replace hx := (HB.out.cell (World.block_lt_of_cell? W _ hx)).trans hx
      have hbx := HBY.out (p.getD i 0) (by rw [List.getD_eq_getElem?_getD, List.getElem?_eq_getElem hlt]; simp)
      generalize hcv : p.getD i 0 = x at hx hbx
      go_wp2_with fail
      go_quiet ((go_at_call 27; exact Calls.quiet_of_same ((ib27_calls _ x _).mono fun _ _ h => ⟨h.1, h.2.symm⟩)))
      have HM2 := Aside0.mk HM.out
      simp only [Exit.then]
      apply_assumption
      have HW := Aside0.mk (ws_ix' x hbx.1 hbx.2)
      have HCV := Aside0.mk hcv
      clear hcv
      by_cases hw : 0 ≤ Lib.indexByte [32, 9, 13, 10] (UInt8.ofNat x.toNat)
      · go_wp2
        go_roundg (p.length - (i + 1))
        case measure => have := HI.out; omega
        case rel => exact ⟨i + 1, ⟨by have := HI.out; omega, by have := HI.out; omega⟩, ⟨by rw [HS.out]; exact skip_yes hlt HCV.out (by rw [HW.out]; exact decide_eq_true hw)⟩, ⟨by have := (rs_drewN HM2.out nq).setAt ((i : Int) + 1); exact this⟩, ⟨below_set (HB.out.trans (pw_below_drewN (Below.refl _ _) nq)) HM2.out.1⟩⟩
      · go_wp2
        go_end0
        rw [HS.out, skip_no hlt HCV.out (by rw [HW.out]; exact decide_eq_false (by omega))]
        exact ⟨rfl, rs_drewN HM2.out nq, HB.out.trans (pw_below_drewN (Below.refl _ _) nq)⟩
    · have hlt' : decide ((i : Int) < (p.length : Int)) = false := decide_eq_false (by omega)
      have hlt2 : decide (i < p.length) = false := decide_eq_false hlt
      go_wp2_with fail
      go_quiet (fail)
      simp only [Exit.then]
      apply_assumption
      go_wp2
      go_end0
      rw [HS.out, skip_end (by omega)]
      exact ⟨rfl, rs_drewN HM.out nq, HB.out.trans (pw_below_drewN (Below.refl _ _) nq)⟩
end Go.Proofs.Ytfflfadfalacgaa.SBl
