/- Proved: what the laws of layer 8 share: both readers told by three values; the law's own example (lists) is true. -/
import Derived.Test.YtdgdnccpginclaaJRef
import Derived.Test.YtdgdnccpginclaaJRead
import Derived.Lib.SlBytesConst
namespace Go.Proofs.Ytdgdnccpginclaa.JW
open Go.RowKit Go.Proofs.YtdgdnccpginclaaW.PrintWords Go.Proofs.YtdgdnccpginclaaW.PrintLast Go.Proofs.YtdgdnccpginclaaW.PrintMore
open Go.Proofs.Ytdgdnccpginclaa.JDefs Go.Proofs.Ytdgdnccpginclaa.JBase Go.Proofs.Ytdgdnccpginclaa.JMem Go.Proofs.Ytdgdnccpginclaa.JInv Go.Proofs.Ytdgdnccpginclaa.JRef Go.Proofs.Ytdgdnccpginclaa.JRead
set_option linter.unusedVariables false
set_option linter.unusedSimpArgs false
set_option maxHeartbeats 8000000
set_option maxRecDepth 100000

theorem mgo_at (p : List Int) : ∀ (m : Mach) (i : Int), Iv m i (2 * i) → 0 ≤ i → ((mgo m p i).1.l.length : Int) ≤ 2 * (i + p.length) ∧ i ≤ (mgo m p i).2.1 ∧ (mgo m p i).2.1 ≤ i + p.length ∧ ((mgo m p i).2.2 = 0 → (mgo m p i).2.1 = i + p.length) := by
  induction p with
  | nil => intro m i h hi; have := h.len; rw [mgo_nil]; simp; omega
  | cons c cs ih =>
    intro m i h hi
    rw [mgo_cons]
    have hf := iv_feed h c hi
    split
    · have := ih _ _ hf (by omega)
      simp only [List.length_cons]
      omega
    · rename_i hne
      have := hf.len
      simp only [List.length_cons]
      exact ⟨by omega, by omega, by omega, fun e => absurd e hne⟩
theorem mread_len (p : List Int) : ((mread p).1.length : Int) ≤ 2 * p.length + 1 ∧ 0 ≤ (mread p).2.1 ∧ (mread p).2.1 ≤ p.length := by
  have h := mgo_at p m0 0 iv_zero (by decide)
  unfold mread
  split
  · unfold mend
    split
    · unfold mlast
      split
      · simp [matom]; omega
      · simp; omega
    · simp; omega
  · simp; omega
theorem mread_some (p : List Int) : ∃ l a e, mread p = (l, a, e) ∧ 0 ≤ a ∧ a ≤ p.length ∧ (l.length : Int) ≤ 2 * p.length + 1 := by
  obtain ⟨h1, h2, h3⟩ := mread_len p
  exact ⟨_, _, _, rfl, h2, h3, h1⟩
/-- Read, called with a slice whose length is spelled otherwise. -/
theorem sread_n (A : Option Addr) (c n : Nat) (p : List Int) (w : World) (hpn : p.length = n) (hR : (Kd.int .u8).C w A p.length p) (hb : ByteL p) (hn : p.length ≤ 100000) (hc : n ≤ c) (l : List (Int × Int × Int)) (at_ e_ : Int) (hm : mread p = (l, at_, e_)) :
    Calls Try.prog 11 #[.slice A n c] w fun e w' => ∃ v, e = .returned (.tuple #[v, .int .i64 at_, .int .i64 e_]) ∧ Kd.R tokK 33 w' w.heap.size (fun _ => True) v l ∧ Below w.heap.size w w' := by
  subst hpn
  have := jread_calls A c p w hR hb hn hc
  rw [hm] at this
  exact this
theorem sref_n (A : Option Addr) (c n : Nat) (p : List Int) (w : World) (hpn : p.length = n) (hR : (Kd.int .u8).C w A p.length p) (hb : ByteL p) (hn : p.length ≤ 100000) (l : List (Int × Int × Int)) (at_ e_ : Int) (hm : mread p = (l, at_, e_)) :
    Calls Try.prog 12 #[.slice A n c] w fun e w' => ∃ v, e = .returned (.tuple #[v, .int .i64 at_, .int .i64 e_]) ∧ Kd.R tokK 33 w' w.heap.size (fun _ => True) v l ∧ Below w.heap.size w w' := by
  subst hpn
  have := refread_calls A c p w hR hb hn
  rw [hm] at this
  exact this
def ex1 : List Int := [91, 49, 44, 32, 50]
def ex2 : List Int := [91, 48, 49, 93]
def ex3 : List Int := [123, 34, 97, 34, 58, 91, 93, 125]
theorem ex1_read : mread ex1 = ([], 5, 5) := by decide +kernel
theorem ex2_read : mread ex2 = ([], 2, 5) := by decide +kernel
theorem ex3_read : mread ex3 = ([(1, 0, 1), (5, 1, 3), (4, 4, 1), (1, 5, 1), (2, 6, 1), (2, 7, 1)], 0, 0) := by decide +kernel
theorem ex1_bytes : ByteL ex1 := by unfold ByteL ex1; decide
theorem ex2_bytes : ByteL ex2 := by unfold ByteL ex2; decide
theorem ex3_bytes : ByteL ex3 := by unfold ByteL ex3; decide
theorem lists_calls (w : World) : Calls Try.prog 10 #[] w fun e w' => e = .returned (.bool true) ∧ Below w.heap.size w w' := by
  have kc := fun (w : World) (C : Array Value) (n c : Nat) => Lib.run_convert_bytes_const (P := Try.prog) w 22 5 C n c Try.underlying22 Try.underlying5
  have HB := Aside0.mk (Below.refl w.heap.size w)
  go_enter Try.func10, Try.ntmps10
  go_wp2_with fail
  refine (sread_n _ _ _ ex1 _ rfl (lit_C w ex1 _ _ rfl (by decide)) ex1_bytes (by decide) (by decide) _ _ _ ex1_read).mono ?_
  rintro e w1 ⟨v1, rfl, hr, hb⟩
  have HB1 := Aside0.mk (below_step (below_alloc HB.out _) hb)
  clear HB hb
  obtain ⟨A1, c1, rfl, _, _⟩ := Kd.R_reads hr
  clear hr
  go_wp2_with fail
  refine (sread_n _ _ _ ex2 _ rfl (lit_C w1 ex2 _ _ rfl (by decide)) ex2_bytes (by decide) (by decide) _ _ _ ex2_read).mono ?_
  rintro e w2 ⟨v2, rfl, hr, hb⟩
  have HB2 := Aside0.mk (below_step (below_alloc HB1.out _) hb)
  clear HB1 hb hr
  go_wp2_with fail
  refine (sread_n _ _ _ ex3 _ rfl (lit_C w2 ex3 _ _ rfl (by decide)) ex3_bytes (by decide) (by decide) _ _ _ ex3_read).mono ?_
  rintro e w3 ⟨v3, rfl, hr, hb⟩
  have HB3 := Aside0.mk (below_step (below_alloc HB2.out _) hb)
  clear HB2 hb
  obtain ⟨g, c3, rfl, hgb, hgl, cells, hcells⟩ := Kd.R_form hr (by decide)
  obtain ⟨_, _, hC⟩ := Kd.R_reads' hr
  obtain ⟨ad, ea, k0, _, _⟩ := tok_C hC 2 (by decide)
  cases ea
  have k6 : w3.cell? ⟨g, 6, none⟩ = some (.int .u8 4) := k0
  clear hr hcells hC k0
  go_wp2_with fail
  go_ret
  exact ⟨rfl, HB3.out⟩
/-- What follows the guard of a law that compares the two readers. -/
theorem q_step {w w1 w2 : World} (h : Below w.heap.size w w1) (k : Below w1.heap.size w1 w2) : Below w.heap.size w w2 := below_step h k
end Go.Proofs.Ytdgdnccpginclaa.JW
