/- Plain: each token of an answer lies within the text. -/
import Derived.Test.YtdgdnccpginclaaJW
namespace Go.Proofs.Ytdgdnccpginclaa.JTb
open Go.RowKit Go.Proofs.YtdgdnccpginclaaW.PrintWords Go.Proofs.YtdgdnccpginclaaW.PrintLast Go.Proofs.YtdgdnccpginclaaW.PrintMore
open Go.Proofs.Ytdgdnccpginclaa.JDefs Go.Proofs.Ytdgdnccpginclaa.JBase Go.Proofs.Ytdgdnccpginclaa.JMem Go.Proofs.Ytdgdnccpginclaa.JInv Go.Proofs.Ytdgdnccpginclaa.JRef Go.Proofs.Ytdgdnccpginclaa.JRead Go.Proofs.Ytdgdnccpginclaa.JW
set_option linter.unusedVariables false
set_option linter.unusedSimpArgs false
set_option maxHeartbeats 8000000
set_option maxRecDepth 100000

def TB (l : List Tok) (i : Int) : Prop := ∀ t ∈ l, 0 ≤ t.2.1 ∧ t.2.1 ≤ i
theorem TB.mono {l : List Tok} {i j : Int} (h : TB l i) (hj : i ≤ j) : TB l j := fun t ht => ⟨(h t ht).1, by have := (h t ht).2; omega⟩
theorem TB.snoc {l : List Tok} {i : Int} (h : TB l i) (t : Tok) (h0 : 0 ≤ t.2.1) (h1 : t.2.1 ≤ i) : TB (l ++ [t]) i := by
  intro x hx
  rcases List.mem_append.1 hx with hx | hx
  · exact h x hx
  · rw [List.mem_singleton.1 hx]; exact ⟨h0, h1⟩
theorem tb_atom {m : Mach} {i j : Int} (h : TB m.l i) (h0 : 0 ≤ m.frm) (h1 : m.frm ≤ i) : TB (matom m j).l i := TB.snoc h _ h0 h1
theorem tb_one {m : Mach} {i : Int} (h : TB m.l i) (k s : Int) (h0 : 0 ≤ i) : TB (mone m k i s).l i := TB.snoc h _ h0 (Int.le_refl i)
theorem tb_begin {m : Mach} {i : Int} (h : TB m.l i) (c : Int) (h0 : 0 ≤ i) : TB (mbegin m c i).1.l i := by
  unfold mbegin
  simp only
  repeat' split
  all_goals first | exact h | exact TB.snoc h _ h0 (Int.le_refl i)
theorem tb_next {m : Mach} {i : Int} (h : TB m.l i) (c : Int) (h0 : 0 ≤ i) : TB (mnext m c i).1.l i := by
  unfold mnext
  repeat' split
  all_goals first | exact h | exact TB.snoc h _ h0 (Int.le_refl i)
theorem tb_inside {m : Mach} {i : Int} (h : TB m.l i) (c : Int) (h0 : 0 ≤ m.frm) (h1 : m.frm ≤ i) : TB (minside m c i).1.l i := by
  unfold minside
  repeat' split
  all_goals first | exact h | exact TB.snoc h _ h0 h1
theorem tb_rest {m : Mach} {i : Int} (h : TB m.l i) (c : Int) (hi : 0 ≤ i) (h0 : 0 ≤ m.frm) (h1 : m.frm ≤ i) : TB (mrest m c i).1.l i := by
  unfold mrest
  repeat' split
  all_goals first | exact h | exact tb_inside h c h0 h1 | exact tb_begin h c hi | exact tb_next h c hi | exact tb_one h _ _ hi
theorem tb_feed {m : Mach} {i : Int} (h : TB m.l i) (c : Int) (hi : 0 ≤ i) (h0 : 0 ≤ m.frm) (h1 : m.frm ≤ i) : TB (mfeed m c i).1.l i := by
  unfold mfeed
  split
  · exact h
  · split
    · exact tb_rest (tb_atom h h0 h1) c hi h0 h1
    · exact tb_rest h c hi h0 h1
theorem tb_go (p : List Int) : ∀ (m : Mach) (i : Int), Iv m i (2 * i) → TB m.l i → 0 ≤ i → TB (mgo m p i).1.l (i + p.length) ∧ ((mgo m p i).2.2 = 0 → 0 ≤ (mgo m p i).1.frm ∧ (mgo m p i).1.frm ≤ i + p.length) := by
  induction p with
  | nil => intro m i h hb hi; rw [mgo_nil]; exact ⟨hb.mono (by simp), fun _ => ⟨h.f0, by have := h.f1; simp; omega⟩⟩
  | cons c t ih =>
    intro m i h hb hi
    have hf := iv_feed h c hi
    have hb2 := tb_feed hb c hi h.f0 h.f1
    rw [mgo_cons]
    split
    · have := ih _ _ hf (hb2.mono (by omega)) (by omega)
      simp only [List.length_cons]
      rw [show i + ((t.length + 1 : Nat) : Int) = i + 1 + t.length by omega]
      exact this
    · rename_i hz
      exact ⟨hb2.mono (by simp; omega), fun e => absurd e hz⟩
theorem tb_read (p : List Int) : TB (mread p).1 p.length := by
  obtain ⟨h1, h2⟩ := tb_go p m0 0 iv_zero (fun t ht => absurd ht (by simp [m0])) (by decide)
  rw [Int.zero_add] at h1 h2
  unfold mread
  split
  · next hz =>
    unfold mend
    split
    · unfold mlast
      split
      · exact tb_atom h1 (h2 hz).1 (h2 hz).2
      · exact h1
    · intro t ht; simp at ht
  · intro t ht; simp at ht
end Go.Proofs.Ytdgdnccpginclaa.JTb
