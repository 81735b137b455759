/- Proved: the law JsonDeep, called with what the form hands it, returns true and leaves old memory as it was; no condition. -/
import Derived.Test.YtdgdnccpginclaaJW
import Derived.Test.YtdgdnccpginclaaJDeep
import Derived.Test.YtdgdnccpginclaaJLaws
namespace Go.Proofs.Ytdgdnccpginclaa.LJsonDeep
open Go.RowKit Go.Proofs.YtdgdnccpginclaaW.PrintWords Go.Proofs.YtdgdnccpginclaaW.PrintLast Go.Proofs.YtdgdnccpginclaaW.PrintMore
open Go.Proofs.Ytdgdnccpginclaa.JDefs Go.Proofs.Ytdgdnccpginclaa.JBase Go.Proofs.Ytdgdnccpginclaa.JMem Go.Proofs.Ytdgdnccpginclaa.JInv Go.Proofs.Ytdgdnccpginclaa.JRef Go.Proofs.Ytdgdnccpginclaa.JRead Go.Proofs.Ytdgdnccpginclaa.JW Go.Proofs.Ytdgdnccpginclaa.JDeep Go.Proofs.Ytdgdnccpginclaa.JLaws
set_option linter.unusedVariables false
set_option linter.unusedSimpArgs false
set_option maxHeartbeats 8000000
set_option maxRecDepth 100000
def bb (by_ : Int) (i : Nat) : Bool := bits BinOp.and IntKind.u8 by_ (2 ^ (i % 8) % 256) != 0
def backs (b : Nat → Bool) (k : Nat) : List Int := (tops b k).map cl
theorem backs_succ (b : Nat → Bool) (k : Nat) : backs b (k + 1) = backs b k ++ [if b k then 125 else 93] := by
  unfold backs; rw [tops_succ, List.map_append]
  cases b k <;> rfl
theorem backs_len (b : Nat → Bool) (k : Nat) : (backs b k).length = k := by unfold backs; rw [List.length_map, tops_len]
theorem backs_or (b : Nat → Bool) (k : Nat) : ∀ c ∈ backs b k, c = 125 ∨ c = 93 := by
  intro c hc
  obtain ⟨x, hx, rfl⟩ := List.mem_map.1 hc
  unfold cl
  split <;> simp
theorem opens_len (b : Nat → Bool) (i : Nat) : (opens b i).length ≤ 4 * i := by
  induction i with
  | zero => simp [opens]
  | succ i ih => rw [opens_succ, List.length_append]; cases b i <;> simp [opn] <;> omega
theorem opens_byte (b : Nat → Bool) (i : Nat) : ByteL (opens b i) := by
  induction i with
  | zero => intro x hx; simp [opens] at hx
  | succ i ih =>
    rw [opens_succ]
    intro x hx
    rcases List.mem_append.1 hx with hx | hx
    · exact ih x hx
    · cases hb : b i <;> rw [hb] at hx <;> simp [opn] at hx <;> omega
def pt (b : Nat → Bool) (D j : Nat) : List Int := opens b D ++ (48 :: (backs b D).reverse.take j)
theorem pt_zero (b : Nat → Bool) (D : Nat) : pt b D 0 = opens b D ++ [48] := by unfold pt; simp
theorem pt_succ (b : Nat → Bool) (D j : Nat) (h : j < D) : pt b D (j + 1) = pt b D j ++ [(backs b D).getD (D - 1 - j) 0] := by
  unfold pt
  have hl : j < (backs b D).reverse.length := by rw [List.length_reverse, backs_len]; exact h
  rw [List.take_succ_eq_append_getElem hl, List.append_assoc]
  congr 2
  congr 2
  rw [List.getElem_reverse, List.getD_eq_getElem?_getD, List.getElem?_eq_getElem (by rw [backs_len]; omega)]
  simp only [backs_len]
  rfl
theorem pt_len (b : Nat → Bool) (D j : Nat) : (pt b D j).length ≤ 4 * D + 1 + j := by
  unfold pt; rw [List.length_append, List.length_cons, List.length_take]; have := opens_len b D; omega
theorem pt_byte (b : Nat → Bool) (D j : Nat) : ByteL (pt b D j) := by
  intro x hx
  unfold pt at hx
  rcases List.mem_append.1 hx with hx | hx
  · exact opens_byte b D x hx
  · rcases List.mem_cons.1 hx with rfl | hx
    · decide
    · have := backs_or b D x (List.mem_reverse.1 (List.mem_of_mem_take hx)); omega
/-- Two rows of bytes, neither written when the other grows. -/
def Two (w : World) (base : Nat) (v7 v8 : Value) (xs ys : List Int) : Prop :=
  (Kd.int .u8).R 5 w base (fun _ => True) v7 xs ∧ (Kd.int .u8).R 5 w base (fun _ => True) v8 ys ∧ ∀ k, v7.ownBlock = some k → some k ≠ v8.ownBlock
theorem two_alloc {w : World} {base : Nat} {v7 v8 : Value} {xs ys : List Int} (h : Two w base v7 v8 xs ys) (bo : Obj) : Two (w.alloc bo) base v7 v8 xs ys :=
  ⟨Kd.R_alloc h.1 _, Kd.R_alloc h.2.1 _, h.2.2⟩
theorem two_left {w w1 : World} {base : Nat} {v7 v8 v1 : Value} {xs ys zs : List Int} (h : Two w base v7 v8 xs ys) (hr : (Kd.int .u8).R 5 w1 base (fun _ => True) v1 zs) (hg : w.grownBy w1 v7.ownBlock) (ha : v1.ownBlock = v7.ownBlock ∨ ∃ b, v1.ownBlock = some b ∧ w.heap.size ≤ b) : Two w1 base v1 v8 zs ys := by
  refine ⟨hr, Kd.R_grown2 h.2.1 rfl hg h.2.2, ?_⟩
  intro k hk he
  rcases ha with ha | ⟨b, hb, hs⟩
  · exact h.2.2 k (ha ▸ hk) he
  · have := Kd.R_lt h.2.1 k he.symm
    rw [hb] at hk
    injection hk with hk
    omega
theorem two_right {w w1 : World} {base : Nat} {v7 v8 v1 : Value} {xs ys zs : List Int} (h : Two w base v7 v8 xs ys) (hr : (Kd.int .u8).R 5 w1 base (fun _ => True) v1 zs) (hg : w.grownBy w1 v8.ownBlock) (ha : v1.ownBlock = v8.ownBlock ∨ ∃ b, v1.ownBlock = some b ∧ w.heap.size ≤ b) : Two w1 base v7 v1 xs zs := by
  refine ⟨Kd.R_grown2 h.1 rfl hg (fun k hk he => h.2.2 k he.symm hk.symm), hr, ?_⟩
  intro k hk he
  rcases ha with ha | ⟨b, hb, hs⟩
  · exact h.2.2 k hk (ha ▸ he)
  · have := Kd.R_lt h.1 k hk
    rw [hb] at he
    injection he with he
    omega
section
variable {ops : Array Oper} {rest : List Oper} {o : Oper} {a : Act} {Q : Exit → Act → World → Prop}
theorem app_u8h {w0 W : World} (base : Nat) (hgd : o.guard = none) (s x : Operand) (ho : o.op = .call { callee := .builtin .append, args := #[s, x], argTypes := #[22, 22] })
    (v : Value) (xs ys : List Int) (A : Option Addr) (m c : Nat) (hs : a.eval s = v) (hx : a.eval x = .slice A m c)
    (HO : (Kd.int .u8).R 5 W base (fun _ => True) v xs) (HC : (Kd.int .u8).C W A ys.length ys) (hm : ys.length = m) (HB : Below base w0 W) (hbase : base ≤ W.heap.size) (hl : xs.length + m ≤ 100000000)
    (h : ∀ v1 w1, (Kd.int .u8).R 5 w1 base (fun _ => True) v1 (xs ++ ys) → Below base w0 w1 → W.grownBy w1 v.ownBlock → (v1.ownBlock = v.ownBlock ∨ ∃ b, v1.ownBlock = some b ∧ W.heap.size ≤ b) → wpList Try.prog ops Q rest (a.put o.dst v1) w1) :
    wpList Try.prog ops Q (o :: rest) a W := by
  subst hm
  exact Kd.R_append_rows (Kd.int .u8) (Rr := (Kd.int .u8).K W) base hgd s x 22 5 (.int .u8 0) 1 ho Try.underlying22 info5 rfl (by decide) (by decide) v xs ys A ys.length c (fun _ => True) (fun _ => False) hs hx HO HC (fun _ _ hk => hk) (fun _ hk => hk.elim) (fun _ _ => trivial) HB hbase (by omega) (fun v1 w1 hr hb hg ha => h v1 w1 hr hb hg ha)
end
set_option maxHeartbeats 32000000 in
theorem jsonDeep_calls (n : Int) (hn : (Lit.int .u16 n).wf = true) (by_ : Int) (hby : (Lit.int .u8 by_).wf = true) (en : Int) (hen : (Lit.int .u8 en).wf = true) {w : World} :
    Calls Try.prog 5 #[.int .u16 n, .int .u8 by_, .int .u8 en] w fun e w' => e = .returned (.bool true) ∧ Below w.heap.size w w' := by
  have HB := Aside0.mk (Below.refl w.heap.size w)
  have hn0 : 0 ≤ n ∧ n ≤ 65535 := by simp [Lit.wf, IntKind.min, IntKind.max, IntKind.signed, IntKind.bits] at hn; omega
  have hb0 : 0 ≤ by_ ∧ by_ ≤ 255 := by simp [Lit.wf, IntKind.min, IntKind.max, IntKind.signed, IntKind.bits] at hby; omega
  have hx0 : 0 ≤ en ∧ en ≤ 255 := by simp [Lit.wf, IntKind.min, IntKind.max, IntKind.signed, IntKind.bits] at hen; omega
  clear hn hby hen
  obtain ⟨hn1, hn2⟩ := hn0
  obtain ⟨hb1, hb2⟩ := hb0
  obtain ⟨hx1, hx2⟩ := hx0
  obtain ⟨D, hD⟩ : ∃ D : Nat, n % 600 = (D : Int) := ⟨(n % 600).toNat, by omega⟩
  obtain ⟨E, hE⟩ : ∃ E : Nat, en % 3 = (E : Int) := ⟨(en % 3).toNat, by omega⟩
  have hE3 : E ≤ 2 := by omega
  have hD6 : D ≤ 600 := by omega
  have HEE := Aside0.mk hE
  clear hE
  go_enter Try.func5, Try.ntmps5
  go_wp2_with (first | (go_at_call 10; refine (JW.lists_calls _).mono ?_; rintro e w_ ⟨rfl, hb⟩; have HBb := Aside0.mk (below_step HB.out hb); clear HB; have HB := HBb; clear HBb hb))
  try rw [hD]
  clear hD hn1 hn2
  go_loopg [7, 8, 10] D (fun kq v7 v8 v10 w' => ∃ i : Nat, v10 = .int .i64 (i : Int) ∧ Aside0 (i + kq = D) ∧ Aside0 (Two w' w.heap.size v7 v8 (opens (bb by_) i) (backs (bb by_) i)) ∧ Aside0 (Below w.heap.size w w'))
  case atStart => exact ⟨0, rfl, ⟨by omega⟩, ⟨Kd.R_nil _ _ _ _ _, Kd.R_nil _ _ _ _ _, fun k hk => by simp [Value.ownBlock] at hk⟩, HB⟩
  case round =>
    clear HB
    obtain ⟨i, rfl, HI, HO, HB⟩ := hrel
    have hi1 : (i : Int) ≤ 600 := by have := HI.out; omega
    have hD7 : (D : Int) ≤ 600 := by omega
    by_cases hlt : i < D
    · have HLT := Aside0.mk hlt
      have hlt' : decide ((i : Int) < (D : Int)) = true := decide_eq_true (by omega)
      have hlt2 : decide (i < D) = true := decide_eq_true hlt
      have htk := JDeep.opens_succ (bb by_) i
      have hbk := backs_succ (bb by_) i
      have hsz : (opens (bb by_) i).length ≤ 2400 := by have := opens_len (bb by_) i; have := HI.out; omega
      have hsz2 : (backs (bb by_) i).length ≤ 600 := by rw [backs_len]; omega
      cases hbit : bb by_ i with
      | true =>
        rw [hbit] at htk hbk
        have hbit2 : (bits BinOp.and IntKind.u8 by_ (2 ^ (i % 8) % 256) != 0) = true := hbit
        have HTK := Aside0.mk htk
        have HBK := Aside0.mk hbk
        clear htk hbk hbit
        generalize opens (bb by_) i = t at HO HTK hsz
        generalize backs (bb by_) i = u at HO HBK hsz2
        go_wp2_with (first | ((with_reducible refine gate_builtin (b := .append) (xs := #[.tmp 34, .tmp 35]) rfl ?_); at_builtin; refine app_u8h w.heap.size rfl (.tmp 34) (.tmp 35) rfl u7 t [123, 34, 34, 58] (some ⟨_, 0, none⟩) 4 4 rfl rfl (two_alloc HO.out _).1 (lit_C _ [123, 34, 34, 58] (0, 0) _ rfl (by simp)) rfl (below_alloc HB.out _) (by simp; have := below_size HB.out; omega) (by first | omega | (simp; omega)) ?_; intro v4 w4 ho hb hgr hat; have hTw := two_left (two_alloc HO.out _) ho hgr hat; have HO4 := Aside0.mk hTw; have HB4 := Aside0.mk hb; clear ho hb hgr hat hTw) | ((with_reducible refine gate_builtin (b := .append) (xs := #[.tmp 37, .tmp 38]) rfl ?_); at_builtin; refine app_u8h w.heap.size rfl (.tmp 37) (.tmp 38) rfl u8 u [125] (some ⟨_, 0, none⟩) 1 1 rfl rfl (two_alloc HO4.out _).2.1 (lit_C _ [125] (0, 0) _ rfl (by simp)) rfl (below_alloc HB4.out _) (by simp; have := below_size HB4.out; omega) (by first | omega | (simp; omega)) ?_; intro v6 w6 ho hb hgr hat; have hTw := two_right (two_alloc HO4.out _) ho hgr hat; have HO6 := Aside0.mk hTw; have HB6 := Aside0.mk hb; clear ho hb hgr hat hTw))
        go_roundg (D - (i + 1))
        case measure => have := HI.out; have := HLT.out; omega
        case rel => exact ⟨i + 1, by go_num, ⟨by have := HLT.out; omega⟩, ⟨by rw [HTK.out, HBK.out]; exact HO6.out⟩, HB6⟩
      | false =>
        rw [hbit] at htk hbk
        have hbit2 : (bits BinOp.and IntKind.u8 by_ (2 ^ (i % 8) % 256) != 0) = false := hbit
        have HTK := Aside0.mk htk
        have HBK := Aside0.mk hbk
        clear htk hbk hbit
        generalize opens (bb by_) i = t at HO HTK hsz
        generalize backs (bb by_) i = u at HO HBK hsz2
        go_wp2_with (first | ((with_reducible refine gate_builtin (b := .append) (xs := #[.tmp 40, .tmp 41]) rfl ?_); at_builtin; refine app_u8h w.heap.size rfl (.tmp 40) (.tmp 41) rfl u7 t [91] (some ⟨_, 0, none⟩) 1 1 rfl rfl (two_alloc HO.out _).1 (lit_C _ [91] (0, 0) _ rfl (by simp)) rfl (below_alloc HB.out _) (by simp; have := below_size HB.out; omega) (by first | omega | (simp; omega)) ?_; intro v4 w4 ho hb hgr hat; have hTw := two_left (two_alloc HO.out _) ho hgr hat; have HO4 := Aside0.mk hTw; have HB4 := Aside0.mk hb; clear ho hb hgr hat hTw) | ((with_reducible refine gate_builtin (b := .append) (xs := #[.tmp 43, .tmp 44]) rfl ?_); at_builtin; refine app_u8h w.heap.size rfl (.tmp 43) (.tmp 44) rfl u8 u [93] (some ⟨_, 0, none⟩) 1 1 rfl rfl (two_alloc HO4.out _).2.1 (lit_C _ [93] (0, 0) _ rfl (by simp)) rfl (below_alloc HB4.out _) (by simp; have := below_size HB4.out; omega) (by first | omega | (simp; omega)) ?_; intro v6 w6 ho hb hgr hat; have hTw := two_right (two_alloc HO4.out _) ho hgr hat; have HO6 := Aside0.mk hTw; have HB6 := Aside0.mk hb; clear ho hb hgr hat hTw))
        go_roundg (D - (i + 1))
        case measure => have := HI.out; have := HLT.out; omega
        case rel => exact ⟨i + 1, by go_num, ⟨by have := HLT.out; omega⟩, ⟨by rw [HTK.out, HBK.out]; exact HO6.out⟩, HB6⟩
    · have hlt' : decide ((i : Int) < (D : Int)) = false := decide_eq_false (by omega)
      have hlt2 : decide (i < D) = false := decide_eq_false hlt
      have e : D = i := by have := HI.out; omega
      subst e
      generalize bb by_ = b at HO
      obtain ⟨A8, c8, e8, _, _⟩ := Kd.R_reads HO.out.2.1
      subst e8
      rw [backs_len] at HO ⊢
      have hsz : (opens b D).length ≤ 2400 := by have := opens_len b D; omega
      have hD7' : (D : Int) ≤ 600 := by omega
      clear HI hi1 hlt hlt' hlt2
      go_wp2_with (first | ((with_reducible refine gate_builtin (b := .append) (xs := #[.tmp 46, .tmp 47]) rfl ?_); at_builtin; refine app_u8h w.heap.size rfl (.tmp 46) (.tmp 47) rfl u7 (opens b D) [48] (some ⟨_, 0, none⟩) 1 1 rfl rfl (two_alloc HO.out _).1 (lit_C _ [48] (0, 0) _ rfl (by simp)) rfl (below_alloc HB.out _) (by simp; have := below_size HB.out; omega) (by first | omega | (simp; omega)) ?_; intro v4 w4 ho hb hgr hat; have hTw := two_left (two_alloc HO.out _) ho hgr hat; have HO4 := Aside0.mk hTw; have HB4 := Aside0.mk hb; clear ho hb hgr hat hTw))
      have ho5 := HO4.out
      rw [← pt_zero] at ho5
      have HO5 := Aside0.mk ho5
      clear ho5 HO4 HO HB hsz
      go_loopg [7, 11] (D - E) (fun kq v7 v11 w' => ∃ (j : Nat) (x : Int), v11 = .int .i64 x ∧ Aside0 (x = (D : Int) - 1 - j) ∧ Aside0 (j + kq = D - E) ∧ Aside0 (Two w' w.heap.size v7 (.slice A8 D c8) (pt b D j) (backs b D)) ∧ Aside0 (Below w.heap.size w w'))
      case atStart => exact ⟨0, (D : Int) - 1, rfl, ⟨by omega⟩, ⟨by omega⟩, HO5, HB4⟩
      case round =>
        clear HB4 HO5
        obtain ⟨j, x, rfl, HX, HJ, HO, HB⟩ := hrel
        have hEE := HEE.out
        by_cases hj : j < D - E
        · have HLJ := Aside0.mk hj
          obtain ⟨q, rfl⟩ := Int.eq_ofNat_of_zero_le (show 0 ≤ x by have := HX.out; omega)
          have hq : D - 1 - j = q := by have := HX.out; omega
          have hqD : q < D := by omega
          have hc : decide ((E : Int) ≤ (q : Int)) = true := decide_eq_true (by omega)
          have hc2 : decide (en % 3 ≤ (q : Int)) = true := by rw [hEE]; exact hc
          have hc3 : decide (E ≤ q) = true := decide_eq_true (by omega)
          obtain ⟨zz1, zz2, hC8⟩ := Kd.R_reads' HO.out.2.1
          clear zz1 zz2
          have hC9 : (Kd.int .u8).C wr A8 (backs b D).length (backs b D) := by rw [backs_len] at hC8 ⊢; exact hC8
          obtain ⟨ad, ea, hx⟩ := at_nat hC9 q (by rw [backs_len]; exact hqD)
          cases ea
          have htk := pt_succ b D j (by omega)
          rw [hq] at htk
          generalize (backs b D).getD q 0 = x at hx htk
          have HTK := Aside0.mk htk
          have hsz : (pt b D j).length ≤ 3100 := by have := pt_len b D j; omega
          generalize pt b D j = t at HO HTK hsz
          have p0 : (0 : Int) ≤ (q : Int) := by omega
          have p1 : (q : Int) < (D : Int) := by omega
          clear hC8 hC9 htk hq hj hEE hc3 hqD hE3 hD6 hD7'
          go_wp2_with (first | ((with_reducible refine gate_builtin (b := .append) (xs := #[.tmp 59, .tmp 64]) rfl ?_); at_builtin; refine app_u8h w.heap.size rfl (.tmp 59) (.tmp 64) rfl u7 t [x] (some ⟨_, 0, none⟩) 1 1 rfl rfl (two_alloc HO.out _).1 (lit_C _ [x] (0, 0) _ rfl (by simp)) rfl (below_alloc HB.out _) (by simp; have := below_size HB.out; omega) (by first | omega | (simp; omega)) ?_; intro v4 w4 ho hb hgr hat; have hTw := two_left (two_alloc HO.out _) ho hgr hat; have HO6 := Aside0.mk hTw; have HB6 := Aside0.mk hb; clear ho hb hgr hat hTw))
          go_roundg (D - E - (j + 1))
          case measure => have := HJ.out; have := HLJ.out; omega
          case rel => exact ⟨j + 1, (q : Int) - 1, by go_num, ⟨by have := HX.out; omega⟩, ⟨by have := HJ.out; have := HLJ.out; omega⟩, ⟨by rw [HTK.out]; exact HO6.out⟩, HB6⟩
        · have hjj : j = D - E := by have := HJ.out; omega
          have hxx := HX.out
          have hc : decide ((E : Int) ≤ x) = false := decide_eq_false (by omega)
          have hc2 : decide (en % 3 ≤ x) = false := by rw [hEE]; exact hc
          obtain ⟨r, at_, er, hmr, h0, h1, h4⟩ := mread_some (pt b D j)
          have hby := pt_byte b D j
          have hle := pt_len b D j
          have hcase : (512 < D ∧ er = 6 ∧ r = []) ∨ (D ≤ 512 ∧ er = if E = 0 then 0 else if D = 0 then 0 else 5) := by
            by_cases h5 : 512 < D
            · have k1 := deep_too b D h5 (48 :: (backs b D).reverse.take j)
              have k2 : (mread (pt b D j)).2.2 = 6 := k1
              have k3 := mread_nil (pt b D j) (by rw [k2]; decide)
              rw [hmr] at k2 k3
              exact .inl ⟨h5, k2, k3⟩
            · have k1 := Go.Proofs.Ytdgdnccpginclaa.JDeep.deep_law b D j (by omega) (by omega)
              have k2 : (mread (pt b D j)).2.2 = if j = D then 0 else 5 := k1
              rw [hmr] at k2
              simp only at k2
              refine .inr ⟨by omega, ?_⟩
              rw [k2]
              by_cases hE0 : E = 0
              · rw [if_pos (by omega), if_pos hE0]
              · rw [if_neg hE0]
                by_cases hD0 : D = 0
                · rw [if_pos hD0, if_pos (by omega)]
                · rw [if_neg hD0, if_neg (by omega)]
          generalize pt b D j = p at HO hmr hby hle h1 h4
          obtain ⟨A0, c0, e0, hle0, hC⟩ := Kd.R_reads HO.out.1
          subst e0
          have HMR := Aside0.mk hmr
          have HTB := Aside0.mk hby
          have HC0 := Aside0.mk (And.intro hC hle0)
          have hpl : p.length ≤ 4000 := by omega
          have hr1 : r.length ≤ 1000000 := by omega
          clear hmr hby hle h0 h1 h4 hC hle0 HO HX HJ hxx hjj hj
          go_wp2_with fail
          refine (sread_n A0 c0 p.length p _ rfl HC0.out.1 HTB.out (by omega) HC0.out.2 _ _ _ HMR.out).mono ?_
          rintro e w1 ⟨v1, rfl, hr, hb⟩
          have HB1 := Aside0.mk (below_step HB.out hb)
          have HC4 := Aside0.mk (Kd.C_below HC0.out.1 hb)
          obtain ⟨A1, c1, rfl, _, hC⟩ := Kd.R_reads hr
          have HC1 := Aside0.mk hC
          clear HB hb hr hC
          go_wp2_with fail
          refine (sref_n A0 c0 p.length p _ rfl HC4.out HTB.out (by omega) _ _ _ HMR.out).mono ?_
          rintro e w2 ⟨v2, rfl, hr, hb⟩
          have HB2 := Aside0.mk (below_step HB1.out hb)
          have HC2 := Aside0.mk (Kd.C_below HC1.out hb)
          obtain ⟨A2, c2, rfl, _, hC⟩ := Kd.R_reads hr
          have HC3 := Aside0.mk hC
          clear HB1 hb hr hC HC1
          have ha1 : (at_ == at_) = true := by simp
          rcases hcase with ⟨q1, q2, q3⟩ | ⟨q1, q2⟩
          · subst q2 q3
            have d1 : decide ((512 : Int) < (D : Int)) = true := decide_eq_true (by omega)
            have d2 : decide (512 < D) = true := decide_eq_true q1
            go_wp2_with fail
            go_ret
            exact ⟨rfl, HB2.out⟩
          · have d1 : decide ((512 : Int) < (D : Int)) = false := decide_eq_false (by omega)
            have d2 : decide (512 < D) = false := decide_eq_false (by omega)
            have he1 : (er == er) = true := by simp
            by_cases hD3 : D < 3
            · have d3 : decide ((D : Int) < 3) = true := decide_eq_true (by omega)
              have d4 : decide (D < 3) = true := decide_eq_true hD3
              clear q2
              go_wp2_with fail
              refine (same_calls A1 A2 c1 c2 r _ HC2.out HC3.out hr1).mono ?_
              rintro e w3 ⟨rfl, n_, rfl⟩
              go_wp2_with fail
              go_ret
              exact ⟨rfl, pw_below_drewN HB2.out n_⟩
            · have d3 : decide ((D : Int) < 3) = false := decide_eq_false (by omega)
              have d4 : decide (D < 3) = false := decide_eq_false hD3
              have hen : (er == 0) = (en % 3 == 0) := by
                by_cases hE0 : E = 0
                · rw [if_pos hE0] at q2
                  rw [q2, hEE, hE0]; rfl
                · rw [if_neg hE0, if_neg (by omega)] at q2
                  rw [q2, hEE]
                  exact (beq_eq_false_iff_ne.2 (by omega)).symm
              obtain ⟨bq, hbq⟩ : ∃ bq, bq = (en % 3 == 0) := ⟨_, rfl⟩
              rw [← hbq] at hen
              have hbq2 := hbq.symm
              have hbb : (bq == bq) = true := by simp
              clear q2 hbq hEE
              go_wp2_with fail
              refine (same_calls A1 A2 c1 c2 r _ HC2.out HC3.out hr1).mono ?_
              rintro e w3 ⟨rfl, n_, rfl⟩
              go_wp2_with fail
              go_ret
              exact ⟨rfl, pw_below_drewN HB2.out n_⟩
end Go.Proofs.Ytdgdnccpginclaa.LJsonDeep
