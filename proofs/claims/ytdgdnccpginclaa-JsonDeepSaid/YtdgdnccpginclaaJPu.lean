/- Proved: the program's reader of layer 8: words; the text has at most 100000 bytes. -/
import Derived.Test.YtdgdnccpginclaaJPt
import Derived.Deep.CutRange
namespace Go.Proofs.Ytdgdnccpginclaa.JPu
open Go.RowKit Go.Proofs.YtdgdnccpginclaaW.PrintWords Go.Proofs.YtdgdnccpginclaaW.PrintLast Go.Proofs.YtdgdnccpginclaaW.PrintMore
open Go.Proofs.Ytdgdnccpginclaa.JDefs Go.Proofs.Ytdgdnccpginclaa.JSim Go.Proofs.Ytdgdnccpginclaa.JBase Go.Proofs.Ytdgdnccpginclaa.JRd Go.Proofs.Ytdgdnccpginclaa.JPt
set_option linter.unusedVariables false
set_option linter.unusedSimpArgs false
set_option maxHeartbeats 8000000
set_option maxRecDepth 100000

theorem run_ix (t : TypeId) (ht : t = 9) (s : ByteArray) (j : Nat) (h : j < s.size) (W : World) : (Instr.index t (.string s) (.int .i64 (j : Int))).run Try.prog W = .ok (.int .u8 ((bytesOf s).getD j 0)) W := by
  subst ht
  have hb : (bytesOf s).getD j 0 = ((s[j]'h).toNat : Int) := by
    have h' : j < s.data.toList.length := by rw [data_length]; exact h
    simp [bytesOf, List.getD_eq_getElem?_getD, List.getElem?_eq_getElem h']
    rfl
  rw [hb]
  have := run_index_string (P := Try.prog) W 9 s .i64 (j : Int) (by kernel_rfl)
  rw [this]
  simp [h]
section
variable (W w : World) (g : Nat) (P : Option Addr) (cP : Nat) (p : List Int) (a : Nat) (l : List (Int × Int × Int)) (d : Nat)
theorem word_calls (s : ByteArray) (hs : s.size ≤ 10) (hT : Txt W P cP p) (h : St W w g P cP p a l d) :
    Calls Try.prog 26 #[.pointer (some ⟨g, 0, none⟩), .string s] w (BP W g P cP p l d (wordP p (bytesOf s) a)) := by
  obtain ⟨V, hV⟩ : ∃ V, V = wordP p (bytesOf s) a := ⟨_, rfl⟩
  rw [← hV]
  have HV := Aside0.mk hV
  have HT := Aside0.mk hT
  have HM := Aside0.mk h
  have hn := hT.n
  clear hV hT h
  go_enter Try.func26, Try.ntmps26
  go_wp2
  go_loopg [7] s.size (fun kq v7 w' => ∃ j : Nat, v7 = .int .i64 (j : Int) ∧ Aside0 (j + kq = s.size) ∧ Aside0 (V = wordP p ((bytesOf s).drop j) (a + j)) ∧ Aside0 (St W w' g P cP p (a + j) l d))
  case atStart => exact ⟨0, rfl, ⟨by omega⟩, HV, HM⟩
  case round =>
    clear HM HV
    obtain ⟨j, rfl, HJ, HV, HM⟩ := hrel
    have hj1 : (j : Int) ≤ 10 := by have := HJ.out; omega
    by_cases hlt : j < s.size
    · have HLT := Aside0.mk hlt
      have hlt' : decide ((j : Int) < (s.size : Int)) = true := decide_eq_true (by omega)
      have hix := fun W => run_ix 9 rfl s j hlt W
      have hdr : (bytesOf s).drop j = (bytesOf s).getD j 0 :: (bytesOf s).drop (j + 1) := drop_at _ _ (by rw [bytesOf_length]; exact hlt)
      generalize (bytesOf s).getD j 0 = c at hix hdr
      have hv := HV.out
      rw [hdr] at hv
      unfold wordP at hv
      have hw := want_calls W wr g P cP p (a + j) l d c HT.out HM.out
      by_cases hc : p[a + j]? = some c
      · rw [if_pos hc] at hv hw
        have HW := Aside0.mk hw
        have HV2 := Aside0.mk hv
        clear hv hw hc hdr
        go_wp2_with fail
        refine HW.out.mono ?_
        rintro e w4 hp
        obtain ⟨rfl, hs_⟩ := hp.1 rfl
        have HM4 := Aside0.mk hs_
        clear hp hs_ HW hix
        go_wp2_with fail
        go_roundg (s.size - (j + 1))
        case measure => have := HJ.out; have := HLT.out; omega
        case rel => exact ⟨j + 1, by go_num, ⟨by have := HLT.out; omega⟩, HV2, HM4⟩
      · rw [if_neg hc] at hv hw
        have HW := Aside0.mk hw
        have HV2 := Aside0.mk hv
        clear hv hw hc hdr
        go_wp2_with fail
        refine HW.out.mono ?_
        rintro e w4 hp
        obtain ⟨he_, hb_⟩ := hp.2 rfl
        have HB := Aside0.mk hb_
        clear hp hb_ HW hix
        unfold stopE at he_
        subst he_
        go_wp2_with fail
        refine ⟨rfl, ?_⟩
        rw [HV2.out]
        exact ⟨(fun h => by cases h), fun _ => ⟨rfl, HB.out⟩⟩
    · have hlt' : decide ((j : Int) < (s.size : Int)) = false := decide_eq_false (by omega)
      have hlt2 : decide (j < s.size) = false := decide_eq_false hlt
      have HV2 := Aside0.mk (show V = (true, a + j) by rw [HV.out, List.drop_of_length_le (by rw [bytesOf_length]; omega)]; rfl)
      go_wp2_with fail
      go_end0
      rw [HV2.out]
      exact ⟨fun _ => ⟨rfl, HM.out⟩, fun h => by cases h⟩
theorem esc_ix : ∀ n : Nat, n < 256 → (escB (n : Int) || (n : Int) == 117) = decide (0 ≤ Lib.indexByte [34, 92, 47, 98, 102, 110, 114, 116, 117] (UInt8.ofNat n)) := by decide +kernel
theorem hex_ix : ∀ n : Nat, n < 256 → hexB (n : Int) = decide (0 ≤ Lib.indexByte [48, 49, 50, 51, 52, 53, 54, 55, 56, 57, 97, 98, 99, 100, 101, 102, 65, 66, 67, 68, 69, 70] (UInt8.ofNat n)) := by decide +kernel
end
end Go.Proofs.Ytdgdnccpginclaa.JPu
