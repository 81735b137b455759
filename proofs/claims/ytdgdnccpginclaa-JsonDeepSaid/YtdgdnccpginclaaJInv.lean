/- Plain: what holds of the reference's machine of layer 8 before each byte. -/
import Derived.Test.YtdgdnccpginclaaJBase
namespace Go.Proofs.Ytdgdnccpginclaa.JInv
open Go.RowKit Go.Proofs.YtdgdnccpginclaaW.PrintWords Go.Proofs.YtdgdnccpginclaaW.PrintLast Go.Proofs.YtdgdnccpginclaaW.PrintMore
open Go.Proofs.Ytdgdnccpginclaa.JDefs Go.Proofs.Ytdgdnccpginclaa.JBase
set_option linter.unusedVariables false
set_option linter.unusedSimpArgs false
set_option maxHeartbeats 8000000
set_option maxRecDepth 100000

theorem bl_true : ByteL [114, 117, 101] := by unfold ByteL; decide
theorem bl_false : ByteL [97, 108, 115, 101] := by unfold ByteL; decide
theorem bl_null : ByteL [117, 108, 108] := by unfold ByteL; decide
/-- What holds of the machine before byte i. -/
structure Iv (m : Mach) (f n : Int) : Prop where
  f0 : 0 ≤ m.frm
  f1 : m.frm ≤ f
  c0 : 0 ≤ m.count
  c1 : m.count ≤ 4
  lf : m.st = 17 → m.left ≠ [] ∧ ByteL m.left
  c8 : m.st = 8 → 1 ≤ m.count
  sk : m.stack.length ≤ 512
  len : (m.l.length : Int) ≤ n
theorem Iv.mono {m : Mach} {f n f' n' : Int} (h : Iv m f n) (hf : f ≤ f') (hn : n ≤ n') : Iv m f' n' :=
  ⟨h.f0, by have := h.f1; omega, h.c0, h.c1, h.lf, h.c8, h.sk, by have := h.len; omega⟩
theorem Iv.st {m : Mach} {f n : Int} (h : Iv m f n) (s : Int) (hs : s ≠ 17) (h8 : s ≠ 8) : Iv { m with st := s } f n :=
  ⟨h.f0, h.f1, h.c0, h.c1, fun e => absurd e hs, fun e => absurd e h8, h.sk, h.len⟩
theorem iv_atom {m : Mach} {f n : Int} (h : Iv { m with st := 0 } f n) (i : Int) : Iv (matom m i) f (n + 1) := by
  refine ⟨h.f0, h.f1, h.c0, h.c1, ?_, ?_, h.sk, ?_⟩
  · intro e
    exfalso
    unfold matom at e
    simp only at e
    split at e <;> exact absurd e (by decide)
  · intro e
    exfalso
    unfold matom at e
    simp only at e
    split at e <;> exact absurd e (by decide)
  · have : (m.l.length : Int) ≤ n := h.len
    simp [matom]
    omega
theorem iv_one {m : Mach} {f n : Int} (h : Iv m f n) (k i s : Int) (hs : s ≠ 17) (h8 : s ≠ 8) : Iv (mone m k i s) f (n + 1) := by
  refine ⟨h.f0, h.f1, h.c0, h.c1, fun e => absurd e hs, fun e => absurd e h8, h.sk, ?_⟩
  have := h.len
  simp [mone]
  omega
theorem iv_begin {m : Mach} {f n : Int} (h : Iv m f n) (c i : Int) (hi : 0 ≤ i) : Iv (mbegin m c i).1 i (n + 1) := by
  have hl := h.len
  have h2 : Iv { m with frm := i } i (n + 1) := ⟨hi, Int.le_refl _, h.c0, h.c1, h.lf, h.c8, h.sk, by show (m.l.length : Int) ≤ _; omega⟩
  have h1 : Iv { m with frm := i } i n := ⟨hi, Int.le_refl _, h.c0, h.c1, h.lf, h.c8, h.sk, hl⟩
  unfold mbegin
  simp only
  split
  · split
    · exact h2
    · rename_i hn
      have h3 : Iv { m with frm := i, stack := m.stack ++ [c] } i n := ⟨hi, Int.le_refl _, h.c0, h.c1, h.lf, h.c8, by have := h.sk; simp; omega, hl⟩
      split
      · exact (iv_one h3 1 i 1 (by decide) (by decide)).st 2 (by decide) (by decide)
      · exact iv_one h3 1 i 1 (by decide) (by decide)
  · split
    · exact h2.st 6 (by decide) (by decide)
    · split
      · exact h2.st 9 (by decide) (by decide)
      · split
        · exact h2.st 10 (by decide) (by decide)
        · split
          · exact h2.st 11 (by decide) (by decide)
          · split
            · exact ⟨h2.f0, h2.f1, h2.c0, h2.c1, fun _ => ⟨by simp, bl_true⟩, fun e => absurd (show (17 : Int) = 8 from e) (by decide), h2.sk, h2.len⟩
            · split
              · exact ⟨h2.f0, h2.f1, h2.c0, h2.c1, fun _ => ⟨by simp, bl_false⟩, fun e => absurd (show (17 : Int) = 8 from e) (by decide), h2.sk, h2.len⟩
              · split
                · exact ⟨h2.f0, h2.f1, h2.c0, h2.c1, fun _ => ⟨by simp, bl_null⟩, fun e => absurd (show (17 : Int) = 8 from e) (by decide), h2.sk, h2.len⟩
                · exact h2
theorem iv_next {m : Mach} {f n : Int} (h : Iv m f n) (c i : Int) : Iv (mnext m c i).1 f (n + 1) := by
  have h2 := h.mono (Int.le_refl f) (show n ≤ n + 1 by omega)
  unfold mnext
  split
  · exact h2
  · split
    · exact iv_one h 3 i 0 (by decide) (by decide)
    · split
      · exact iv_one h 3 i 3 (by decide) (by decide)
      · split
        · exact iv_one (m := { m with stack := m.stack.dropLast }) ⟨h.f0, h.f1, h.c0, h.c1, h.lf, h.c8, by have := h.sk; simp; omega, h.len⟩ 2 i 5 (by decide) (by decide)
        · exact h2
theorem iv_inside {m : Mach} {f n : Int} (h : Iv m f n) (c i : Int) (hm : m.st = 6 ∨ m.st = 7 ∨ m.st = 8 ∨ m.st = 17) : Iv (minside m c i).1 f (n + 1) := by
  have h2 := h.mono (Int.le_refl f) (show n ≤ n + 1 by omega)
  unfold minside
  split
  · split
    · exact h2
    · split
      · exact iv_atom (h.st 0 (by decide) (by decide)) _
      · split
        · exact h2.st 7 (by decide) (by decide)
        · exact h2
  · split
    · split
      · exact ⟨h2.f0, h2.f1, by show (0 : Int) ≤ 4; decide, by show (4 : Int) ≤ 4; decide, fun e => absurd (show (8 : Int) = 17 from e) (by decide), fun _ => by show (1 : Int) ≤ 4; decide, h2.sk, h2.len⟩
      · split
        · exact h2.st 6 (by decide) (by decide)
        · exact h2.st 6 (by decide) (by decide)
    · split
      · split
        · split
          · exact ⟨h2.f0, h2.f1, by show (0 : Int) ≤ 0; decide, by show (0 : Int) ≤ 4; decide, fun e => absurd (show (6 : Int) = 17 from e) (by decide), fun e => absurd (show (6 : Int) = 8 from e) (by decide), h2.sk, h2.len⟩
          · rename_i e8 _ hz
            have hc1 := h.c1
            have hc8 := h.c8 e8
            exact ⟨h2.f0, h2.f1, by show 0 ≤ m.count - 1; omega, by show m.count - 1 ≤ 4; omega, h2.lf, fun _ => by show 1 ≤ m.count - 1; omega, h2.sk, h2.len⟩
        · exact h2
      · rename_i n6 n7 n8
        have h17 : m.st = 17 := by omega
        obtain ⟨hne, hb⟩ := h.lf h17
        split
        · split
          · exact iv_atom (m := { m with left := [] }) ⟨h.f0, h.f1, h.c0, h.c1, fun e => absurd (show (0 : Int) = 17 from e) (by decide), fun e => absurd (show (0 : Int) = 8 from e) (by decide), h.sk, h.len⟩ _
          · rename_i ht
            exact ⟨h2.f0, h2.f1, h2.c0, h2.c1, fun _ => ⟨ht, fun x hx => hb x (List.mem_of_mem_tail hx)⟩, h2.c8, h2.sk, h2.len⟩
        · exact h2
theorem num_lt (s c : Int) : (num s c).1 ≠ 17 ∧ (num s c).1 ≠ 8 := by
  unfold num
  repeat' split
  all_goals (constructor <;> simp)
theorem iv_rest {m : Mach} {i n : Int} (h : Iv m i n) (c : Int) (hi : 0 ≤ i) : Iv (mrest m c i).1 i (n + 1) := by
  have h2 := h.mono (Int.le_refl i) (show n ≤ n + 1 by omega)
  unfold mrest
  split
  · rename_i hm
    exact iv_inside h c i hm
  · split
    · exact h2
    · split
      · exact h2
      · split
        · exact iv_begin h c i hi
        · split
          · split
            · exact iv_next h c i
            · exact iv_begin h c i hi
          · split
            · split
              · exact iv_next h c i
              · split
                · exact ⟨hi, Int.le_refl _, h2.c0, h2.c1, fun e => absurd (show (6 : Int) = 17 from e) (by decide), fun e => absurd (show (6 : Int) = 8 from e) (by decide), h2.sk, h2.len⟩
                · exact h2
            · split
              · split
                · exact iv_one h 4 i 0 (by decide) (by decide)
                · exact h2
              · exact iv_next h c i
theorem iv_feed {m : Mach} {i : Int} (h : Iv m i (2 * i)) (c : Int) (hi : 0 ≤ i) : Iv (mfeed m c i).1 (i + 1) (2 * (i + 1)) := by
  unfold mfeed
  split
  · exact (h.st _ (num_lt _ _).1 (num_lt _ _).2).mono (by omega) (by omega)
  · split
    · exact (iv_rest (iv_atom (h.st 0 (by decide) (by decide)) i) c hi).mono (by omega) (by omega)
    · exact (iv_rest h c hi).mono (by omega) (by omega)
theorem iv_zero : Iv m0 0 0 := ⟨by decide, by decide, by decide, by decide, fun e => absurd (show (0 : Int) = 17 from e) (by decide), fun e => absurd (show (0 : Int) = 8 from e) (by decide), by decide, by decide⟩
end Go.Proofs.Ytdgdnccpginclaa.JInv
