/- Proved: shared words of layer 8: tokens in memory, bytes that are read, rows of bytes that are appended to. -/
import Derived.Test.YtdgdnccpginclaaProg
import Derived.Below
import Derived.Deep.Draws
import Derived.Deep.AppendLies
import Derived.Maps.AppendAt
import Derived.OwnWalk
import Derived.Laws.BytesArg
import Derived.Laws.MakeOwn
import Derived.Laws.OwnMore
import Derived.Deep.OwnRows
import Derived.Tactics
import Derived.Lib.ConvBytes
import Derived.Laws.Slices
import Derived.WalkKit
import Derived.KernelRfl
import Derived.RowKit3
import Derived.Deep.LoopGhost
import Derived.Deep.QuietTactic
import Derived.BigQuiet
import Derived.WideLaws
import Derived.Deep.DeepCutAuto
import Derived.Deep.CutBlock
import Derived.Deep.RegionHeld3
import Derived.Laws.Rows
import Derived.Lib.AppendStr
import Derived.ArgAppend
import Derived.Laws.IdiomCopy
import Derived.OrdersHeld
import Derived.Laws.BitsLemmas
import Derived.RowKit
import Derived.Test.YtdgdnccpginclaaWWords
import Derived.Test.YtdgdnccpginclaaWLast
import Derived.Test.YtdgdnccpginclaaWTab
import Derived.Test.YtdgdnccpginclaaWFour
import Derived.Test.YtdgdnccpginclaaWQPut
import Derived.Test.YtdgdnccpginclaaWApart
import Derived.Test.YtdgdnccpginclaaWArr
import Derived.Test.YtdgdnccpginclaaWZeros
import Derived.Test.YtdgdnccpginclaaWFoot
import Derived.Test.YtdgdnccpginclaaWKept
import Derived.Test.YtdgdnccpginclaaWShare
import Derived.Test.YtdgdnccpginclaaWN
import Derived.Test.YtdgdnccpginclaaWFootNe
import Derived.Test.YtdgdnccpginclaaWAt
import Derived.Test.YtdgdnccpginclaaWEqStruct
import Derived.Test.YtdgdnccpginclaaWRepsOne
import Derived.Test.YtdgdnccpginclaaWInv
import Derived.Test.YtdgdnccpginclaaWInvWords
import Derived.Test.YtdgdnccpginclaaWGuard
import Derived.Test.YtdgdnccpginclaaWNEv
import Derived.Test.YtdgdnccpginclaaWMore
import Derived.Test.YtdgdnccpginclaaJSimc
import Derived.Deep.RegionLaw
import Derived.Lib.SlBytesConst
import Derived.Lib.Bytealg
import Derived.Lib.Strings
namespace Go.Proofs.Ytdgdnccpginclaa.JBase
open Go.RowKit Go.Proofs.YtdgdnccpginclaaW.PrintWords Go.Proofs.YtdgdnccpginclaaW.PrintLast Go.Proofs.YtdgdnccpginclaaW.PrintMore
open Go.Proofs.Ytdgdnccpginclaa.JDefs
set_option linter.unusedVariables false
set_option linter.unusedSimpArgs false
set_option maxHeartbeats 8000000
set_option maxRecDepth 100000
def tokK : Kd (Int × Int × Int) := Kd.pair (Kd.int .u8) (Kd.pair (Kd.int .i64) (Kd.int .i64))
theorem tokM (w : World) (base : Nat) (ok : Nat → Prop) (k a n : Int) : tokK.M w base ok (k, a, n) [.int .u8 k, .int .i64 a, .int .i64 n] := ⟨[.int .u8 k], [.int .i64 a, .int .i64 n], rfl, rfl, [.int .i64 a], [.int .i64 n], rfl, rfl, rfl⟩
theorem tokT (t : Nat) (h : t ≠ 33 ∧ t ≠ 3 ∧ t ≠ 5 := by decide) : ∀ q, q ∈ 33 :: tokK.E → q ≠ t := by
  intro q hq e
  subst e
  simp [tokK, Kd.pair, Kd.int, Kd.scalar] at hq
  omega
theorem bytT (t : Nat) (h : t ≠ 5 := by decide) : ∀ q, q ∈ 5 :: (Kd.int .u8).E → q ≠ t := by
  intro q hq e
  subst e
  simp [Kd.int, Kd.scalar] at hq
  omega
theorem info33 : (Try.prog.info? 33).map (fun i => (i.zero, i.size, i.bytes)) = some (some (.agg #[.int .u8 0, .int .i64 0, .int .i64 0]), 3, 24) := by kernel_rfl
theorem info5 : (Try.prog.info? 5).map (fun i => (i.zero, i.size, i.bytes)) = some (some (.int .u8 0), 1, 1) := by kernel_rfl
theorem bset {w W : World} {g i : Nat} {v : Value} (hb : Below W.heap.size W w) (hg : W.heap.size ≤ g) : Below W.heap.size W (w.setCell ⟨g, i, none⟩ v) := below_set hb hg
def ByteL (p : List Int) : Prop := ∀ x ∈ p, 0 ≤ x ∧ x ≤ 255
theorem at_nat {k : IntKind} {w : World} {A : Option Addr} {n : Nat} {xs : List Int} (h : (Kd.int k).C w A n xs) (i : Nat) (h1 : i < n) : ∃ ad, A = some ad ∧ w.cell? (ad.add i) = some (.int k (xs.getD i 0)) := by
  obtain ⟨ad, e, hc⟩ := Kd.at_int h (i : Int) (by omega) (by omega)
  rw [show rd xs (i : Int) = xs.getD i 0 from by unfold rd; rw [Int.toNat_natCast], Int.toNat_natCast] at hc
  exact ⟨ad, e, hc⟩
theorem drop_at (l : List Int) (i : Nat) (h : i < l.length) : l.drop i = l.getD i 0 :: l.drop (i + 1) := by
  rw [List.drop_eq_getElem_cons h]; congr 1; rw [List.getD_eq_getElem?_getD, List.getElem?_eq_getElem h]; rfl
theorem getQ {p : List Int} {i : Nat} (h : i < p.length) {x : Int} (hx : p.getD i 0 = x) : p[i]? = some x := by
  rw [List.getD_eq_getElem?_getD, List.getElem?_eq_getElem h] at hx
  rw [List.getElem?_eq_getElem h, ← hx]; rfl
theorem eqA33 (d : Nat) (w : World) (x0 y0 : Int) (x1 y1 : Int) (x2 y2 : Int) :
    (Op.equalIn (d + 2) 33 (.agg #[.int .u8 x0, .int .i64 x1, .int .i64 x2]) (.agg #[.int .u8 y0, .int .i64 y1, .int .i64 y2])).run Try.prog w = .ok (x0 == y0 && (x1 == y1 && (x2 == y2))) w := by
  refine eqA_of Try.underlying33 (by kernel_rfl) ?_
  refine eqf_cons (by rfl) (by go_simp; rfl) (by go_simp; rfl) (by go_simp) ?_
  refine eqf_cons (by rfl) (by go_simp; rfl) (by go_simp; rfl) (by go_simp) ?_
  exact eqf_last (by rfl) (by go_simp; rfl) (by go_simp; rfl) (by go_simp)
abbrev tz : Int × Int × Int := (0, 0, 0)
theorem tok_C {w : World} {A : Option Addr} {l : List (Int × Int × Int)} (h : tokK.C w A l.length l) (i : Nat) (hi : i < l.length) : ∃ ad, A = some ad ∧ w.cell? (ad.add (i * 3)) = some (.int .u8 (l.getD i tz).1) ∧
    w.cell? ⟨(ad.add (i * 3)).block, (ad.add (i * 3)).off + 1, none⟩ = some (.int .i64 (l.getD i tz).2.1) ∧ w.cell? ⟨(ad.add (i * 3)).block, (ad.add (i * 3)).off + 2, none⟩ = some (.int .i64 (l.getD i tz).2.2) := by
  obtain ⟨ad, c, e, _, hK, hc0⟩ := Kd.C_get h tz (i : Int) (by omega) (by omega)
  rw [Int.toNat_natCast] at hK hc0
  have hc : ∀ j u, c[j]? = some u → w.cell? (ad.add (i * 3 + j)) = some u := hc0
  generalize l.getD i tz = t at hK ⊢
  obtain ⟨x, y, z⟩ := t
  obtain ⟨_, _, rfl, rfl, _, _, rfl, rfl, rfl⟩ := hK
  exact ⟨ad, e, hc 0 _ rfl, by rw [← add_field _ _ 1 (by omega)]; exact hc 1 _ rfl, by rw [← add_field _ _ 2 (by omega)]; exact hc 2 _ rfl⟩
theorem same_calls (A B : Option Addr) (c d : Nat) (l : List (Int × Int × Int)) (w : World) (h1 : tokK.C w A l.length l) (h2 : tokK.C w B l.length l) (hl : l.length ≤ 1000000) :
    Calls Try.prog 13 #[.slice A l.length c, .slice B l.length d] w fun e w' => e = .returned (.bool true) ∧ ∃ n, w' = w.drewN n := by
  have H1 := Aside0.mk h1
  have H2 := Aside0.mk h2
  have hu33 := Try.underlying33
  clear h1 h2
  have hne : ((l.length : Int) != (l.length : Int)) = false := by simp
  go_enter Try.func13, Try.ntmps13
  go_wp2
  go_loopg [5] l.length (fun kq v5 w' => ∃ i : Nat, v5 = .int .i64 (i : Int) ∧ Aside0 (i + kq = l.length) ∧ ∃ n, w' = w.drewN n)
  case atStart => exact ⟨0, rfl, ⟨by omega⟩, 0, rfl⟩
  case round =>
    obtain ⟨i, rfl, HI, n, rfl⟩ := hrel
    have hi1 : (i : Int) ≤ 1000000 := by have := HI.out; omega
    by_cases hlt : i < l.length
    · have hlt' : decide ((i : Int) < (l.length : Int)) = true := decide_eq_true (by omega)
      have HLT := Aside0.mk hlt
      obtain ⟨a1, ea, x1, x2, x3⟩ := tok_C H1.out i hlt
      obtain ⟨a2, eb, y1, y2, y3⟩ := tok_C H2.out i hlt
      cases ea
      cases eb
      have p0 : (0 : Int) ≤ (i : Int) := by omega
      have p1 : (i : Int) < (l.length : Int) := by omega
      generalize l.getD i tz = t at x1 x2 x3 y1 y2 y3
      obtain ⟨t1, t2, t3⟩ := t
      simp only at x1 x2 x3 y1 y2 y3
      go_wp2_with fail
      go_quiet (fail)
      simp only [Exit.then]
      apply_assumption
      go_wp2
      go_roundg (l.length - (i + 1))
      case measure => have := HI.out; have := HLT.out; omega
      case rel => exact ⟨i + 1, by go_num, ⟨by have := HLT.out; omega⟩, n + nq, by first | rfl | rw [World.drewN_drewN]⟩
    · have hlt' : decide ((i : Int) < (l.length : Int)) = false := decide_eq_false (by omega)
      have hlt2 : decide (i < l.length) = false := decide_eq_false hlt
      go_wp2
      go_ret
      exact ⟨rfl, n, rfl⟩
theorem lit_C (w : World) (xs : List Int) (fr : Nat × Nat) (cs : Array Value) (h : cs = (xs.map (Value.int .u8)).toArray) (hn : xs.length ≤ 9223372036854775807) : (Kd.int .u8).C (w.alloc (.cells cs 5 fr)) (some ⟨w.heap.size, 0, none⟩) xs.length xs := by
  refine Kd.C_of_reads (d := (0 : Int)) (h1 := fun _ => rfl) ⟨rfl, hn, fun _ => ⟨_, rfl, fun j hj => ?_⟩⟩
  rw [add_plain]
  have hb : (w.alloc (.cells cs 5 fr)).heap[w.heap.size]? = some (.cells cs 5 fr) := blk_new w _
  subst h
  have : (w.alloc (.cells ((xs.map (Value.int .u8)).toArray) 5 fr)).cell? ⟨w.heap.size, j, none⟩ = ((xs.map (Value.int .u8)).toArray)[j]? := by
    unfold World.cell?
    rw [hb]
    rfl
  rw [this]
  simp [List.getD_eq_getElem?_getD, List.getElem?_eq_getElem hj]
theorem wf_byte {l : List Int} (h : ∀ x ∈ l, (Lit.int .u8 x).wf = true) : ByteL l := by
  intro x hx
  have := h x hx
  simp [Lit.wf, IntKind.min, IntKind.max, IntKind.signed, IntKind.bits] at this
  omega
section
variable {ops : Array Oper} {rest : List Oper} {o : Oper} {a : Act} {Q : Exit → Act → World → Prop}
theorem app_u8 {w0 W : World} (base : Nat) (hgd : o.guard = none) (s x : Operand) (ho : o.op = .call { callee := .builtin .append, args := #[s, x], argTypes := #[22, 22] })
    (v : Value) (xs ys : List Int) (A : Option Addr) (m c : Nat) (hs : a.eval s = v) (hx : a.eval x = .slice A m c)
    (HO : (Kd.int .u8).R 5 W base (fun _ => True) v xs) (HC : (Kd.int .u8).C W A ys.length ys) (hm : ys.length = m) (HB : Below base w0 W) (hbase : base ≤ W.heap.size) (hl : xs.length + m ≤ 100000000)
    (h : ∀ v1 w1, (Kd.int .u8).R 5 w1 base (fun _ => True) v1 (xs ++ ys) → Below base w0 w1 → wpList Try.prog ops Q rest (a.put o.dst v1) w1) :
    wpList Try.prog ops Q (o :: rest) a W := by
  subst hm
  exact Kd.R_append_rows (Kd.int .u8) (Rr := (Kd.int .u8).K W) base hgd s x 22 5 (.int .u8 0) 1 ho Try.underlying22 info5 rfl (by decide) (by decide) v xs ys A ys.length c (fun _ => True) (fun _ => False) hs hx HO HC (fun _ _ hk => hk) (fun _ hk => hk.elim) (fun _ _ => trivial) HB hbase (by omega) (fun v1 w1 hr hb _ _ => h v1 w1 hr hb)
end
theorem lit_R (w : World) (base : Nat) (xs : List Int) (hb : base ≤ w.heap.size) (hn : xs.length ≤ 1000000) (cs : Array Value) (h : cs = (xs.map (Value.int .u8)).toArray) : (Kd.int .u8).R 5 (w.alloc (.cells cs 5 (0, 0))) base (fun _ => True) (.slice (some ⟨w.heap.size, 0, none⟩) xs.length xs.length) xs := by
  subst h
  refine Kd.R_of_own ?_ (fun _ _ => trivial)
  exact own_lit w base 5 .u8 xs hb (by omega)
theorem blk_old {w : World} {g : Nat} {o : Obj} (h : w.heap[g]? = some o) (x : Obj) : (w.alloc x).heap[g]? = some o := ((below_alloc (Below.refl _ _) x).block g (blk_lt h)).trans h
theorem ws_ix : ∀ n : Nat, n < 256 → (ws (n : Int) = decide (0 ≤ Lib.indexByte [32, 9, 13, 10] (UInt8.ofNat n))) := by decide +kernel
theorem ws_ix' (x : Int) (h0 : 0 ≤ x) (h1 : x ≤ 255) : ws x = decide (0 ≤ Lib.indexByte [32, 9, 13, 10] (UInt8.ofNat x.toNat)) := by
  obtain ⟨n, rfl⟩ := Int.eq_ofNat_of_zero_le h0
  rw [ws_ix n (by omega), Int.toNat_natCast]
theorem skip_yes {p : List Int} {i : Nat} {x : Int} (h : i < p.length) (hx : p.getD i 0 = x) (hw : ws x = true) : skip p i = skip p (i + 1) := by
  unfold skip
  rw [drop_at p i h, hx, List.takeWhile_cons_of_pos hw, List.length_cons]
  omega
theorem skip_no {p : List Int} {i : Nat} {x : Int} (h : i < p.length) (hx : p.getD i 0 = x) (hw : ws x = false) : skip p i = i := by
  unfold skip
  rw [drop_at p i h, hx, List.takeWhile_cons_of_neg (by simp [hw])]
  rfl
theorem skip_end {p : List Int} {i : Nat} (h : p.length ≤ i) : skip p i = i := by
  unfold skip
  rw [List.drop_of_length_le h]
  rfl
end Go.Proofs.Ytdgdnccpginclaa.JBase
