/- Proved: what the walks of the laws of layer 9 call: both readers, told by three values; no condition beyond the length. -/
import Derived.Test.YtfflfadfalacgaaSTl
namespace Go.Proofs.Ytfflfadfalacgaa.SC
open Go.RowKit Go.Proofs.YtfflfadfalacgaaW.PrintWords Go.Proofs.YtfflfadfalacgaaW.PrintLast Go.Proofs.YtfflfadfalacgaaW.PrintMore
open Go.Proofs.Ytfflfadfalacgaa.SMem hiding Tok
open Go.Proofs.Ytfflfadfalacgaa.SPlain Go.Proofs.Ytfflfadfalacgaa.SRef Go.Proofs.Ytfflfadfalacgaa.SRd Go.Proofs.Ytfflfadfalacgaa.SParse Go.Proofs.Ytfflfadfalacgaa.STx Go.Proofs.Ytfflfadfalacgaa.SRead Go.Proofs.Ytfflfadfalacgaa.SW Go.Proofs.Ytfflfadfalacgaa.STl
set_option linter.unusedVariables false
set_option linter.unusedSimpArgs false
set_option maxHeartbeats 8000000
set_option maxRecDepth 100000

theorem sref_n (A : Option Addr) (c n : Nat) (p : List Int) (w : World) (hpn : p.length = n) (hR : (Kd.int .u8).C w A p.length p) (hb : ByteL p) (hn : p.length ≤ 100000) (l : List (Int × Int × Int)) (at_ e_ : Int) (hm : mread p = (l, at_, e_)) :
    Calls Try.prog 12 #[.slice A n c] w fun e w' => ∃ v, e = .returned (.tuple #[v, .int .i64 at_, .int .i64 e_]) ∧ Kd.R tokK 34 w' w.heap.size (fun _ => True) v l ∧ Below w.heap.size w w' := by
  subst hpn
  have := refread_calls A c p w hR hb hn
  rw [hm] at this
  exact this
theorem wf_byte {l : List Int} (h : ∀ x ∈ l, (Lit.int .u8 x).wf = true) : ByteL l := by
  intro x hx
  have := h x hx
  simp [Lit.wf, IntKind.min, IntKind.max, IntKind.signed, IntKind.bits] at this
  omega
theorem mread_some (p : List Int) : ∃ l a e, mread p = (l, a, e) ∧ 0 ≤ a ∧ a ≤ p.length ∧ (e = 0 → a = 0) ∧ (e ≠ 0 → l = []) ∧ l.length ≤ p.length ∧ (e = 0 ∨ e = 5 ∨ e = 6) := by
  obtain ⟨h1, h2, h3, h4, h5⟩ := SLaws.mread_at p
  have h6 := SLaws.mread_err p
  exact ⟨_, _, _, rfl, h1, h2, h3, h4, h5, h6⟩
section
variable {ops : Array Oper} {rest : List Oper} {o : Oper} {a : Act} {Q : Exit → Act → World → Prop}
theorem app_u8 {w0 W : World} (base : Nat) (hgd : o.guard = none) (s x : Operand) (ho : o.op = .call { callee := .builtin .append, args := #[s, x], argTypes := #[22, 22] })
    (v : Value) (xs ys : List Int) (A : Option Addr) (m c : Nat) (hs : a.eval s = v) (hx : a.eval x = .slice A m c)
    (HO : (Kd.int .u8).R 5 W base (fun _ => True) v xs) (HC : (Kd.int .u8).C W A ys.length ys) (hm : ys.length = m) (HB : Below base w0 W) (hbase : base ≤ W.heap.size) (hl : xs.length + m ≤ 100000000)
    (h : ∀ v1 w1, (Kd.int .u8).R 5 w1 base (fun _ => True) v1 (xs ++ ys) → Below base w0 w1 → wpList Try.prog ops Q rest (a.put o.dst v1) w1) :
    wpList Try.prog ops Q (o :: rest) a W := by
  subst hm
  exact Kd.R_append_rows (Kd.int .u8) (Rr := (Kd.int .u8).K W) base hgd s x 22 5 (.int .u8 0) 1 ho Try.underlying22 info5 rfl (by decide) (by decide) v xs ys A ys.length c (fun _ => True) (fun _ => False) hs hx HO HC (fun _ _ hk => hk) (fun _ hk => hk.elim) (fun _ _ => trivial) HB hbase (by omega) (fun v1 w1 hr hb _ _ => h v1 w1 hr hb)
end
theorem lit_R (w : World) (base : Nat) (xs : List Int) (hb : base ≤ w.heap.size) (hn : xs.length ≤ 1000000) (cs : Array Value) (h : cs = (xs.map (Value.int .u8)).toArray) : (Kd.int .u8).R 5 (w.alloc (.cells cs 5 (0, 0))) base (fun _ => True) (.slice (some ⟨w.heap.size, 0, none⟩) xs.length xs.length) xs := by
  subst h
  refine Kd.R_of_own ?_ (fun _ _ => trivial)
  exact own_lit w base 5 .u8 xs hb (by omega)
/-- What follows the guard of a law that compares the two readers. -/
theorem q_step {w w1 w2 : World} (h : Below w.heap.size w w1) (k : Below w1.heap.size w1 w2) : Below w.heap.size w w2 := below_step h k
end Go.Proofs.Ytfflfadfalacgaa.SC
