/- Proved: the law JsonBlanks, called with what the form hands it, returns true and leaves old memory as it was; no condition. -/
import Derived.Test.YtdgdnccpginclaaJW
import Derived.Test.YtdgdnccpginclaaJTl
import Derived.Test.YtdgdnccpginclaaJShift
import Derived.Test.YtdgdnccpginclaaJTb
namespace Go.Proofs.Ytdgdnccpginclaa.LJsonBlanks
open Go.RowKit Go.Proofs.YtdgdnccpginclaaW.PrintWords Go.Proofs.YtdgdnccpginclaaW.PrintLast Go.Proofs.YtdgdnccpginclaaW.PrintMore
open Go.Proofs.Ytdgdnccpginclaa.JDefs Go.Proofs.Ytdgdnccpginclaa.JBase Go.Proofs.Ytdgdnccpginclaa.JMem Go.Proofs.Ytdgdnccpginclaa.JInv Go.Proofs.Ytdgdnccpginclaa.JRef Go.Proofs.Ytdgdnccpginclaa.JRead Go.Proofs.Ytdgdnccpginclaa.JW Go.Proofs.Ytdgdnccpginclaa.JTl Go.Proofs.Ytdgdnccpginclaa.JShift Go.Proofs.Ytdgdnccpginclaa.JTb
set_option linter.unusedVariables false
set_option linter.unusedSimpArgs false
set_option maxHeartbeats 8000000
set_option maxRecDepth 100000
def bs : List Int := [32, 9, 13, 10]
def bg (i : Nat) : Int := bs.getD (i % 4) 0
def bl (k : Nat) : List Int := (List.range k).map bg
theorem bg_or (i : Nat) : bg i = 32 ∨ bg i = 9 ∨ bg i = 10 ∨ bg i = 13 := by
  have h : ∀ j : Nat, j < 4 → (bs.getD j 0 = 32 ∨ bs.getD j 0 = 9 ∨ bs.getD j 0 = 10 ∨ bs.getD j 0 = 13) := by decide
  exact h _ (by omega)
theorem bl_or (k : Nat) : ∀ c ∈ bl k, c = 32 ∨ c = 9 ∨ c = 10 ∨ c = 13 := by
  intro c hc
  obtain ⟨i, _, rfl⟩ := List.mem_map.1 hc
  exact bg_or i
theorem bl_len (k : Nat) : (bl k).length = k := by unfold bl; simp
theorem bl_succ (k : Nat) : bl (k + 1) = bl k ++ [bg k] := by unfold bl; rw [List.range_succ, List.map_append]; rfl
theorem bl_byte (k : Nat) : ByteL (bl k) := by intro x hx; have := bl_or k x hx; omega
theorem bg_run (i : Nat) (r : Int) (h : r = ((i % 4 : Nat) : Int)) (w : World) : (Instr.index 9 (.string ⟨#[32, 9, 13, 10]⟩) (.int .i64 r)).run Try.prog w = .ok (.int .u8 (bg i)) w := by
  subst h
  have hn : i % 4 < 4 := by omega
  unfold bg
  generalize i % 4 = n at hn
  have : n = 0 ∨ n = 1 ∨ n = 2 ∨ n = 3 := by omega
  clear hn
  rcases this with rfl | rfl | rfl | rfl <;> rfl
section
variable {ops : Array Oper} {rest : List Oper} {o : Oper} {a : Act} {Q : Exit → Act → World → Prop}
theorem app_u8g {w0 W : World} (base : Nat) (hgd : o.guard = none) (s x : Operand) (ho : o.op = .call { callee := .builtin .append, args := #[s, x], argTypes := #[22, 22] })
    (v : Value) (xs ys : List Int) (A : Option Addr) (m c : Nat) (hs : a.eval s = v) (hx : a.eval x = .slice A m c)
    (HO : (Kd.int .u8).R 5 W base (fun _ => True) v xs) (HC : (Kd.int .u8).C W A ys.length ys) (hm : ys.length = m) (HB : Below base w0 W) (hbase : base ≤ W.heap.size) (hl : xs.length + m ≤ 100000000)
    (h : ∀ v1 w1, (Kd.int .u8).R 5 w1 base (fun _ => True) v1 (xs ++ ys) → Below base w0 w1 → W.grownBy w1 v.ownBlock → wpList Try.prog ops Q rest (a.put o.dst v1) w1) :
    wpList Try.prog ops Q (o :: rest) a W := by
  subst hm
  exact Kd.R_append_rows (Kd.int .u8) (Rr := (Kd.int .u8).K W) base hgd s x 22 5 (.int .u8 0) 1 ho Try.underlying22 info5 rfl (by decide) (by decide) v xs ys A ys.length c (fun _ => True) (fun _ => False) hs hx HO HC (fun _ _ hk => hk) (fun _ hk => hk.elim) (fun _ _ => trivial) HB hbase (by omega) (fun v1 w1 hr hb hg _ => h v1 w1 hr hb hg)
end
set_option pp.maxSteps 1000000 in
set_option pp.deepTerms true in
set_option maxHeartbeats 16000000 in
theorem jsonBlanks_calls (A : Option Addr) (c : Nat) (l : List Int) {w : World} (hR : (Kd.int .u8).C w A l.length l) (hm : l.length ≤ maxLen) (hw : ∀ x ∈ l, (Lit.int .u8 x).wf = true) (hc : l.length ≤ c)
    (n : Int) (hn : (Lit.int .u8 n).wf = true) :
    Calls Try.prog 8 #[.slice A l.length c, .int .u8 n] w fun e w' => e = .returned (.bool true) ∧ Below w.heap.size w w' := by
  have HR := Aside0.mk hR
  have HBY := Aside0.mk (wf_byte hw)
  have HB := Aside0.mk (Below.refl w.heap.size w)
  have hn0 : 0 ≤ n ∧ n ≤ 255 := by simp [Lit.wf, IntKind.min, IntKind.max, IntKind.signed, IntKind.bits] at hn; omega
  clear hR hw hm hn
  obtain ⟨hn1, hn2⟩ := hn0
  by_cases hg : 100 < l.length
  · have hd : decide ((100 : Int) < (l.length : Int)) = true := decide_eq_true (by omega)
    go_enter Try.func8, Try.ntmps8
    go_wp2_with (first | (go_at_call 10; refine (JW.lists_calls _).mono ?_; rintro e w_ ⟨rfl, hb⟩; have HBb := Aside0.mk (below_step HB.out hb); clear HB; have HB := HBb; clear HBb hb))
    go_ret
    exact ⟨rfl, HB.out⟩
  · have hd : decide ((100 : Int) < (l.length : Int)) = false := decide_eq_false (by omega)
    obtain ⟨K, hnk⟩ : ∃ K : Nat, n % 9 = (K : Int) := ⟨(n % 9).toNat, by omega⟩
    have hK : K ≤ 8 := by omega
    go_enter Try.func8, Try.ntmps8
    go_wp2_with (first | (go_at_call 10; refine (JW.lists_calls _).mono ?_; rintro e w_ ⟨rfl, hb⟩; have HBb := Aside0.mk (below_step HB.out hb); clear HB; have HB := HBb; clear HBb hb) | fail)
    go_loopg [6, 7] K (fun kq v6 v7 w' => ∃ i : Nat, v7 = .int .i64 (i : Int) ∧ Aside0 (i + kq = K) ∧ Aside0 ((Kd.int .u8).R 5 w' w.heap.size (fun _ => True) v6 (bl i)) ∧ Aside0 (Below w.heap.size w w'))
    case atStart => exact ⟨0, rfl, ⟨by omega⟩, ⟨Kd.R_nil _ _ _ _ _⟩, HB⟩
    case round =>
      clear HB
      obtain ⟨i, rfl, HI, HO, HB⟩ := hrel
      have hi1 : (i : Int) ≤ 8 := by have := HI.out; omega
      have hK8 : (K : Int) ≤ 8 := by omega
      by_cases hlt : i < K
      · have HLT := Aside0.mk hlt
        have hlt' : decide ((i : Int) < (K : Int)) = true := decide_eq_true (by omega)
        have hlt2 : decide (i < K) = true := decide_eq_true hlt
        have hbg := fun w => bg_run i ((i : Int) % 4) (by omega) w
        have hbg2 := fun w => bg_run i ((i % 4 : Nat) : Int) rfl w
        have HTK := Aside0.mk (bl_succ i)
        obtain ⟨A3, c3, e3, hle3, hC3⟩ := Kd.R_reads HO.out
        subst e3
        clear hle3 hC3
        have hsz : (bl i).length ≤ 8 := by rw [bl_len]; omega
        generalize bl i = t at HO HTK hsz
        generalize bg i = y at hbg hbg2 HTK
        go_wp2_with (first | ((with_reducible refine gate_builtin (b := .append) (xs := #[.tmp 31, .tmp 35]) rfl ?_); at_builtin; refine app_u8 w.heap.size rfl (.tmp 31) (.tmp 35) rfl (.slice A3 t.length c3) t [y] (some ⟨_, 0, none⟩) 1 1 rfl rfl (Kd.R_alloc HO.out _) (lit_C _ [y] (0, 0) _ rfl (by simp)) rfl (below_alloc HB.out _) (by simp; have := below_size HB.out; omega) (by omega) ?_; intro v4 w4 ho hb; have HO4 := Aside0.mk ho; have HB4 := Aside0.mk hb; clear ho hb))
        go_roundg (K - (i + 1))
        case measure => have := HI.out; have := HLT.out; omega
        case rel => exact ⟨i + 1, by go_num, ⟨by have := HLT.out; omega⟩, ⟨by rw [HTK.out]; exact HO4.out⟩, HB4⟩
      · have hlt' : decide ((i : Int) < (K : Int)) = false := decide_eq_false (by omega)
        have hlt2 : decide (i < K) = false := decide_eq_false hlt
        have e : K = i := by have := HI.out; omega
        subst e
        obtain ⟨A6, c6, e6, _, _⟩ := Kd.R_reads HO.out
        subst e6
        rw [bl_len] at HO ⊢
        have HQ := HO
        have HBB := HB
        clear HO HI HB
        obtain ⟨wB, hwB⟩ : ∃ x, x = wr := ⟨_, rfl⟩
        subst hwB
        have HRB := Aside0.mk (Kd.C_below HR.out HBB.out)
        have HB := Aside0.mk (Below.refl wB.heap.size wB)
        go_wp2_with fail
        try rw [hnk]
        go_loopg [5, 8] l.length (fun kq v3 v4 w' => ∃ i : Nat, v4 = .int .i64 (i : Int) ∧ Aside0 (i + kq = l.length) ∧ Aside0 ((Kd.int .u8).R 5 w' wB.heap.size (fun _ => True) v3 (txt (l.take i))) ∧ Aside0 (Below wB.heap.size wB w'))
        case atStart => exact ⟨0, rfl, ⟨by omega⟩, ⟨Kd.R_nil _ _ _ _ _⟩, HB⟩
        case round =>
          clear HB
          obtain ⟨i, rfl, HI, HO, HB⟩ := hrel
          have hi1 : (i : Int) ≤ 100000 := by have := HI.out; omega
          by_cases hlt : i < l.length
          · have HLT := Aside0.mk hlt
            have hlt' : decide ((i : Int) < (l.length : Int)) = true := decide_eq_true (by omega)
            obtain ⟨ad, ea, hx⟩ := at_nat HRB.out i hlt
            cases ea
            replace hx := (HB.out.cell (World.block_lt_of_cell? wB _ hx)).trans hx
            have hbx := HBY.out (l.getD i 0) (by rw [List.getD_eq_getElem?_getD, List.getElem?_eq_getElem hlt]; simp)
            have HTK := Aside0.mk (txt_step l i hlt)
            generalize l.getD i 0 = x at hx hbx HTK
            obtain ⟨hx0, hx1⟩ := hbx
            have p0 : (0 : Int) ≤ (i : Int) := by omega
            have p1 : (i : Int) < (l.length : Int) := by omega
            have hsg := fun w => sg_run (x % 36) (by omega) (by omega) w
            obtain ⟨A3, c3, e3, hle3, hC3⟩ := Kd.R_reads HO.out
            subst e3
            clear hle3 hC3
            have hsz : (txt (l.take i)).length ≤ 100000 := by rw [txt_length, List.length_take]; omega
            obtain ⟨y, hy⟩ : ∃ y, y = sg x := ⟨_, rfl⟩
            rw [show sgn.getD (x % 36).toNat 0 = y from hy.symm] at hsg
            rw [← hy] at HTK
            have HOx := HO
            generalize txt (l.take i) = t at HO HTK hsz HOx
            clear hy
            go_wp2_with (first | ((with_reducible refine gate_builtin (b := .append) (xs := #[.tmp 43, .tmp 51]) rfl ?_); at_builtin; refine Kd.R_append (Kd.int .u8) (w0 := wB) wB.heap.size rfl (.tmp 43) (.tmp 51) 22 5 (.int .u8 0) 1 rfl Try.underlying22 info5 rfl (by decide) (by omega) (.slice A3 t.length c3) t y [.int .u8 y] (fun _ => True) (fun _ => False) rfl rfl rfl (fun _ hk => hk.elim) (fun _ _ => trivial) HO.out HB.out (below_size HB.out) (by omega) ?_; intro v4 w4 ho hb hgr hat; have HO4 := Aside0.mk ho; have HB4 := Aside0.mk hb; clear ho hb hat))
            go_roundg (l.length - (i + 1))
            case measure => have := HI.out; have := HLT.out; omega
            case rel => exact ⟨i + 1, by go_num, ⟨by have := HLT.out; omega⟩, ⟨by rw [HTK.out]; exact HO4.out⟩, HB4⟩
          · have hlt' : decide ((i : Int) < (l.length : Int)) = false := decide_eq_false (by omega)
            have hlt2 : decide (i < l.length) = false := decide_eq_false hlt
            have e : i = l.length := by have := HI.out; omega
            subst e
            have ho2 := HO.out
            rw [List.take_length] at ho2
            have HO2 := Aside0.mk ho2
            clear ho2 HO
            have HB2 := HB
            have HQ2 := Aside0.mk (Kd.R_below HQ.out HB2.out)
            have HBW := Aside0.mk (below_step HBB.out HB2.out)
            have hlt2' := Kd.R_lt HQ.out
            obtain ⟨r, at_, er, hmr, h0, h1, h4⟩ := mread_some (txt l)
            have htb := txt_byte l
            have htl := txt_length l
            have hbl := blanks_law (bl K) (txt l) (bl_or K)
            have htt := tb_read (txt l)
            rw [hmr, bl_len] at hbl
            rw [hmr] at htt
            simp only at hbl htt
            generalize txt l = p at hmr htb htl HO2 h1 h4 hbl htt
            have hpl : p.length ≤ 100 := by omega
            have HMR := Aside0.mk hmr
            have HTT := Aside0.mk htt
            have HTB := Aside0.mk htb
            have HP := HO2
            obtain ⟨A0, c0, e0, hle, hC⟩ := Kd.R_reads HO2.out
            subst e0
            have HC0 := Aside0.mk (And.intro hC hle)
            have HNE := Aside0.mk (show ∀ k, (Value.slice A6 K c6).ownBlock = some k → some k ≠ (Value.slice A0 p.length c0).ownBlock from fun k hk he => by have q1 := hlt2' k hk; have q2 := Kd.R_base HP.out k he.symm; omega)
            have hpl2 : (p.length : Int) ≤ 100 := by omega
            have HQB := Aside0.mk (show ByteL (bl K ++ p) by
              intro x hx
              rcases List.mem_append.1 hx with hx | hx
              · exact bl_byte K x hx
              · exact HTB.out x hx)
            have hr1 : r.length ≤ 1000000 := by omega
            have HMQ := Aside0.mk hbl
            clear hmr htb htl h4 hC hle hlt2' hbl htt HO2
            clear HB
            have HB := HBW
            go_wp2_with (first | ((with_reducible refine gate_builtin (b := .append) (xs := #[.tmp 53, .tmp 54]) rfl ?_); at_builtin; refine app_u8g w.heap.size rfl (.tmp 53) (.tmp 54) rfl (.slice A6 K c6) (bl K) p A0 p.length c0 rfl rfl HQ2.out HC0.out.1 rfl HB.out (below_size HB.out) (by rw [bl_len]; omega) ?_; intro v4 w4 ho hb hgr; obtain ⟨A8, c8, e8, hle8, hC8⟩ := Kd.R_reads (Kd.R_grown2 HP.out rfl hgr HNE.out); have HCK : Aside0 ((Kd.int .u8).C w4 A0 p.length p ∧ p.length ≤ c0) := ⟨by injection e8 with q1 q2 q3; rw [q1, q3]; exact ⟨hC8, hle8⟩⟩; clear hgr hC8 hle8 e8; obtain ⟨A5, c5, e5, hle5, hC5⟩ := Kd.R_reads ho; rw [List.length_append, bl_len] at e5 hle5; subst e5; have HC5 := Aside0.mk (And.intro hC5 hle5); have HB5 := Aside0.mk hb; clear ho hb hC5 hle5) | fail)
            refine (sread_n A0 c0 p.length p _ rfl HCK.out.1 HTB.out (by omega) HCK.out.2 _ _ _ HMR.out).mono ?_
            rintro e w1 ⟨v1, rfl, hr, hb⟩
            have HB1 := Aside0.mk (below_step HB5.out hb)
            have HC6 := Aside0.mk (And.intro (Kd.C_below HC5.out.1 hb) HC5.out.2)
            obtain ⟨A1, c1, rfl, _, hC⟩ := Kd.R_reads hr
            have HC1 := Aside0.mk hC
            clear HB5 hb hr hC
            go_wp2_with fail
            refine (sread_n A5 c5 (K + p.length) (bl K ++ p) _ (by rw [List.length_append, bl_len]) HC6.out.1 HQB.out (by rw [List.length_append, bl_len]; omega) HC6.out.2 _ _ _ HMQ.out).mono ?_
            rintro e w2 ⟨v2, rfl, hr, hb⟩
            have HB2 := Aside0.mk (below_step HB1.out hb)
            have HC2 := Aside0.mk (Kd.C_below HC1.out hb)
            obtain ⟨A2, c2, e2, _, hC⟩ := Kd.R_reads hr
            rw [List.length_map] at e2
            subst e2
            have HC3 := Aside0.mk hC
            clear HB1 hb hr hC HC1
            have he1 : (er != er) = false := by simp
            have hl1 : ((r.length : Int) != (r.length : Int)) = false := by simp
            have hz : (er != 0) = false ∨ (er != 0) = true ∧ (if er = 0 then (0 : Int) else at_ + K) = at_ + K ∧ ((at_ + (K : Int)) != at_ + K) = false := by
              by_cases h : er = 0
              · exact .inl (by rw [h]; rfl)
              · exact .inr ⟨by rw [bne_iff_ne]; exact h, if_neg h, by simp⟩
            generalize (if er = 0 then (0 : Int) else at_ + K) = at2 at hz
            have HH1 := Aside0.mk h1
            rcases hz with z1 | ⟨z1, z2, z3⟩
            rotate_left
            subst z2
            all_goals
              go_wp2_with fail
              try rw [hnk]
              go_loopg [15] r.length (fun kq v15 w' => ∃ i : Nat, v15 = .int .i64 (i : Int) ∧ Aside0 (i + kq = r.length) ∧ ∃ n, w' = w2.drewN n)
              case atStart => exact ⟨0, rfl, ⟨by omega⟩, 0, rfl⟩
              case round =>
                obtain ⟨i, rfl, HI, n_, rfl⟩ := hrel
                have hi1 : (i : Int) ≤ 1000000 := by have := HI.out; omega
                by_cases hlt : i < r.length
                · have hlt' : decide ((i : Int) < (r.length : Int)) = true := decide_eq_true (by omega)
                  have HLT := Aside0.mk hlt
                  obtain ⟨a1, ea, x1, x2, x3⟩ := tok_C HC2.out i hlt
                  obtain ⟨a2, eb, y1, y2, y3⟩ := tok_C HC3.out i (by rw [List.length_map]; exact hlt)
                  cases ea
                  cases eb
                  have hsh : (r.map (shT K)).getD i tz = shT K (r.getD i tz) := by
                    rw [List.getD_eq_getElem?_getD, List.getD_eq_getElem?_getD, List.getElem?_map, List.getElem?_eq_getElem hlt]; rfl
                  rw [hsh] at y1 y2 y3
                  have htt := HTT.out (r.getD i tz) (by rw [List.getD_eq_getElem?_getD, List.getElem?_eq_getElem hlt]; simp)
                  have p0 : (0 : Int) ≤ (i : Int) := by omega
                  have p1 : (i : Int) < (r.length : Int) := by omega
                  generalize r.getD i tz = t at x1 x2 x3 y1 y2 y3 htt
                  obtain ⟨t1, t2, t3⟩ := t
                  simp only [shT] at x1 x2 x3 y1 y2 y3 htt
                  obtain ⟨tt0, tt1⟩ := htt
                  have hwr : IntKind.i64.wrap (t2 + (K : Int)) = t2 + (K : Int) := IntWalk.i64_in _ (by omega)
                  have b1 : ((t2 + (K : Int)) != t2 + K) = false := by simp
                  have b2 : (t3 != t3) = false := by simp
                  have b3 : (t1 != t1) = false := by simp
                  clear hsh
                  go_wp2_with fail
                  go_quiet (fail)
                  simp only [Exit.then]
                  apply_assumption
                  go_wp2
                  go_roundg (r.length - (i + 1))
                  case measure => have := HI.out; have := HLT.out; omega
                  case rel => exact ⟨i + 1, by go_num, ⟨by have := HLT.out; omega⟩, n_ + nq, by first | rfl | rw [World.drewN_drewN]⟩
                · have hlt' : decide ((i : Int) < (r.length : Int)) = false := decide_eq_false (by omega)
                  have hlt2 : decide (i < r.length) = false := decide_eq_false hlt
                  go_wp2
                  go_ret
                  exact ⟨rfl, pw_below_drewN HB2.out n_⟩
end Go.Proofs.Ytdgdnccpginclaa.LJsonBlanks
