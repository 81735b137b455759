/- Proved: plain facts about the printed functions' words and about lists of widths; no condition on any program. -/
import Derived.Test.YtkdhfbdecmfhcaaWMore
import Derived.Test.YtkdhfbdecmfhcaaWWords
import Derived.Test.YtkdhfbdecmfhcaaFMath
namespace Go.Proofs.Ytkdhfbdecmfhcaa.FPlain
open Go.RowKit Go.Proofs.YtkdhfbdecmfhcaaW.PrintWords Go.Proofs.YtkdhfbdecmfhcaaW.PrintLast Go.Proofs.Ytkdhfbdecmfhcaa.FMath
set_option linter.unusedVariables false
set_option linter.unusedSimpArgs false
theorem wrap_of {x : Int} (h1 : -9223372036854775808 ≤ x) (h2 : x < 9223372036854775808) : wrap64 x = x := by unfold wrap64; omega
theorem rd_nat (l : List Int) (i : Nat) : rd l (i : Int) = l.getD i 0 := by unfold rd; rw [Int.toNat_natCast]
def Fine (l : List Int) : Prop := l.length ≤ 1000 ∧ ∀ x ∈ l, 1 ≤ x ∧ x ≤ 23
theorem Fine.one {l : List Int} (h : Fine l) : ∀ x ∈ l, 1 ≤ x := fun x hx => (h.2 x hx).1
theorem Fine.drop {l : List Int} (h : Fine l) (k : Nat) : Fine (l.drop k) := ⟨by simp; have := h.1; omega, fun x hx => h.2 x (List.mem_of_mem_drop hx)⟩
theorem Fine.take {l : List Int} (h : Fine l) (k : Nat) : Fine (l.take k) := ⟨by simp; have := h.1; omega, fun x hx => h.2 x (List.mem_of_mem_take hx)⟩
theorem Fine.at {l : List Int} (h : Fine l) {i : Nat} (hi : i < l.length) : 1 ≤ l.getD i 0 ∧ l.getD i 0 ≤ 23 := by
  refine h.2 _ ?_
  rw [List.getD_eq_getElem?_getD, List.getElem?_eq_getElem hi]; simp
theorem wid_bd {l : List Int} (h : Fine l) : ∀ k : Nat, k ≤ l.length → (k : Int) * 2 - 1 ≤ wid l k ∧ wid l k ≤ (k : Int) * 24 - 1
  | 0, _ => by simp [wid]
  | k + 1, hk => by
    have a := wid_bd h k (by omega)
    have b := wid_succ l k (by omega)
    have c := h.at (i := k) (by omega)
    omega
theorem wid_take : ∀ (l : List Int) (t : Nat), wid (l.take t) t = wid l t
  | _, 0 => by simp [wid]
  | [], t + 1 => by simp [wid]
  | w :: ws, t + 1 => by simp [wid, wid_take ws t]
theorem sq_bd {x : Int} (h1 : 0 ≤ x) (h2 : x ≤ 601) : 0 ≤ x * x ∧ x * x ≤ 361201 :=
  ⟨Int.mul_nonneg h1 h1, by have := Int.mul_le_mul h2 h2 h1 (by omega : (0 : Int) ≤ 601); omega⟩
def costOf (l : List Int) (r : Int) : Int × Bool := if l.length = 0 then (0, false) else if r < wid l l.length then (0, decide (l.length = 1)) else ((r - wid l l.length) * (r - wid l l.length), true)
theorem ev_ret {α : Type} {g : Nat → Option α} {r : α} (h : ∀ k, g k = some r) : Ev g r := ⟨0, fun k _ => h k⟩
theorem ev_fin {α : Type} {g : Nat → Option α} {r : α} (h : ∀ k, g (k + 1) = some r) : Ev g r := Ev.step (f := fun _ => some r) h (Ev.now r)
def res (sum : Int) : Option Int → Int × Bool
  | some s => (sum + s, true)
  | none => (0, false)
theorem costOf_line {l : List Int} {r : Int} {t : Nat} (h1 : 1 ≤ t) (h2 : t ≤ l.length) :
    costOf (l.take t) r = if t = 1 ∨ wid l t ≤ r then (lc r (wid l t) false, true) else (0, false) := by
  unfold costOf
  have e : (l.take t).length = t := by simp; omega
  rw [e, if_neg (by omega), wid_take]
  by_cases y : r < wid l t
  · rw [if_pos y]
    by_cases z : t = 1
    · rw [if_pos (.inl z)]; unfold lc; rw [if_neg (by simp), if_neg (by omega)]; simp [z]
    · rw [if_neg (by omega)]; simp [z]
  · rw [if_neg y, if_pos (.inr (by omega))]; unfold lc; rw [if_neg (by simp)]
    by_cases z : 0 < r - wid l t
    · rw [if_pos z]
    · rw [if_neg z]; have : r - wid l t = 0 := by omega
      rw [this]; rfl
theorem drop_at (l : List Int) (i : Nat) (h : i < l.length) : l.drop i = l.getD i 0 :: l.drop (i + 1) := by
  rw [List.drop_eq_getElem_cons h]; congr 1; rw [List.getD_eq_getElem?_getD, List.getElem?_eq_getElem h]; rfl
theorem sumW_bad {r : Int} {l : List Int} {k : Int} {ks : List Int} (h : ¬ (1 ≤ k ∧ k ≤ l.length ∧ (k = 1 ∨ wid l k.toNat ≤ r))) : sumW r l (k :: ks) = none := by
  unfold sumW; rw [if_neg h]
theorem sumW_go {r : Int} {l : List Int} {t : Nat} {ks : List Int} (a : 1 ≤ t) (b : t ≤ l.length) (c : t = 1 ∨ wid l t ≤ r) (sum : Int) :
    res sum (sumW r l ((t : Int) :: ks)) = res (sum + lc r (wid l t) ks.isEmpty) (sumW r (l.drop t) ks) := by
  have e : sumW r l ((t : Int) :: ks) = (sumW r (l.drop t) ks).map (fun s => lc r (wid l t) ks.isEmpty + s) := by
    conv => lhs; unfold sumW
    rw [if_pos ⟨by omega, by omega, by rw [Int.toNat_natCast]; omega⟩, Int.toNat_natCast]
  rw [e]
  cases sumW r (l.drop t) ks with
  | none => rfl
  | some s => simp only [res, Option.map_some]; rw [Int.add_assoc]
def Wf (lines : List Int) : Prop := ∀ x ∈ lines, -9223372036854775808 ≤ x ∧ x < 9223372036854775808
theorem lc_bd {l : List Int} {r : Int} (hl : Fine l) (h0 : 0 ≤ r) (hr : r ≤ 600) (t : Nat) (ht : t ≤ l.length) (b : Bool) : 0 ≤ lc r (wid l t) b ∧ lc r (wid l t) b ≤ 361201 := by
  have x := lc_nonneg r (wid l t) b
  have y := lc_le r (wid l t) b (by have := wid_bd hl t ht; omega) h0
  have z : (r + 1) * (r + 1) ≤ 601 * 601 := Int.mul_le_mul (by omega) (by omega) (by omega) (by omega)
  omega
theorem getD_set_eq (l : List Int) (i : Nat) (v : Int) (h : i < l.length) : (l.set i v).getD i 0 = v := by
  rw [List.getD_eq_getElem?_getD, List.getElem?_set_self h]; rfl
theorem getD_set_ne (l : List Int) (i j : Nat) (v : Int) (h : i ≠ j) : (l.set i v).getD j 0 = l.getD j 0 := by
  rw [List.getD_eq_getElem?_getD, List.getElem?_set_ne h, ← List.getD_eq_getElem?_getD]
theorem set_getD_self (l : List Int) (i : Nat) (h : l.getD i 0 = 0) : l.set i 0 = l := by
  apply List.ext_getElem?
  intro j
  by_cases e : i = j
  · subst e
    rw [List.getElem?_set]
    by_cases hi : i < l.length
    · rw [List.getD_eq_getElem?_getD, List.getElem?_eq_getElem hi] at h
      simp at h
      simp [hi, h]
    · simp [hi]
  · rw [List.getElem?_set_ne e]
def BestArr (l : List Int) (r : Int) (x : List Int) (i : Nat) : Prop := x.length = l.length + 1 ∧ ∀ j, i ≤ j → j ≤ l.length → x.getD j 0 = bst r (l.drop j)
def TakeArr (l : List Int) (r : Int) (x : List Int) (i : Nat) : Prop := x.length = l.length ∧ (∀ j, i ≤ j → j < l.length → x.getD j 0 = tk r (l.drop j)) ∧ ∀ j, j < i → x.getD j 0 = 0
def wds (l : List Int) : List Int := l.map fun x => x % 23 + 1
def Bytes (l : List Int) : Prop := l.length ≤ 1000 ∧ ∀ x ∈ l, 0 ≤ x ∧ x ≤ 255
theorem u8_of {x : Int} (h : (Lit.int .u8 x).wf = true) : 0 ≤ x ∧ x ≤ 255 := by
  simp [Lit.wf, IntKind.min, IntKind.max, IntKind.signed, IntKind.bits] at h; omega
theorem i64_of {x : Int} (h : (Lit.int .i64 x).wf = true) : -9223372036854775808 ≤ x ∧ x < 9223372036854775808 := by
  simp [Lit.wf, IntKind.min, IntKind.max, IntKind.signed, IntKind.bits] at h; omega
theorem good_wds {l : List Int} (h : Bytes l) : Fine (wds l) := by
  refine ⟨by simp [wds]; exact h.1, fun x hx => ?_⟩
  obtain ⟨y, hy, rfl⟩ := List.mem_map.1 hx
  have := h.2 y hy
  omega
theorem room_of {a : Int} (h : (Lit.int .u8 a).wf = true) : wrap64 (wrap64 a + 1) = a + 1 ∧ 0 ≤ a ∧ a ≤ 255 := by
  have := u8_of h
  rw [wrap_of (x := a) (by omega) (by omega), wrap_of (by omega) (by omega)]
  exact ⟨rfl, this⟩
theorem bytes_of {l : List Int} (n : Nat) (hn : n ≤ 1000) (h : ¬ (l.length : Int) > n) (hw : ∀ x ∈ l, (Lit.int .u8 x).wf = true) : Bytes l := ⟨by omega, fun x hx => u8_of (hw x hx)⟩
theorem lns_wf {l : List Int} {r : Int} (hl : Fine l) (h0 : 0 ≤ r) (hr : r ≤ 600) : (lns r l.length l).length ≤ 1000 ∧ Wf (lns r l.length l) := by
  have hs := lns_sum r h0 hr l.length l (by omega) hl.1 hl.one
  have := few r _ l _ hs
  refine ⟨by have := hl.1; omega, ?_⟩
  have key : ∀ (ks l : List Int) (s : Int), l.length ≤ 1000 → sumW r l ks = some s → Wf ks := by
    intro ks
    induction ks with
    | nil => intro l s _ _ x hx; cases hx
    | cons k ks ih =>
      intro l s hl h x hx
      obtain ⟨t, s', rfl, ho, hs', _⟩ := sumW_cons h
      rcases List.mem_cons.1 hx with rfl | hx
      · have := ho.2.1; omega
      · exact ih _ s' (by simp; omega) hs' x hx
  exact key _ _ _ hl.1 hs
theorem cst_bd {l : List Int} {r : Int} (hl : Fine l) (h0 : 0 ≤ r) (hr : r ≤ 600) (k : Nat) (hk : k ≤ l.length) : 0 ≤ cst r l k ∧ cst r l k ≤ 362000000 := by
  have a := lc_bd hl h0 hr k hk (decide (k = l.length))
  have b := bounds r h0 hr _ (l.drop k) rfl (by simp; have := hl.1; omega) (hl.drop k).one
  have : (l.drop k).length ≤ 1000 := by simp; have := hl.1; omega
  unfold cst; omega
theorem lns_one {l : List Int} {r : Int} (hG : Fine l) (h0 : 0 ≤ r) (hr : r ≤ 600) (hne : l ≠ []) (hw : wid l l.length ≤ r) : lns r l.length l = [(l.length : Int)] := by
  obtain ⟨t, B⟩ := best r h0 hr l hG.1 hne hG.one
  have hpos : 0 < l.length := List.length_pos_iff.2 hne
  have hz : cst r l l.length = 0 := by
    unfold cst lc; rw [if_pos (by simp)]; simp [bst, tab]
  have ht := B.ok.2.1
  have e : t = l.length := by
    rcases Nat.lt_or_ge t l.length with h | h
    · have := B.first l.length ⟨hpos, by omega, .inr hw⟩ h
      have := (cst_bd hG h0 hr t ht)
      omega
    · omega
  subst e
  obtain ⟨n, hn⟩ : ∃ n, l.length = n + 1 := ⟨l.length - 1, by omega⟩
  rw [show lns r l.length l = lns r (n + 1) l by rw [hn]]
  unfold lns
  rw [if_neg hne, B.tk, Int.toNat_natCast, List.drop_of_length_le (by omega)]
  cases n <;> simp [lns]
theorem lns_ones {r m : Int} (h0 : 0 ≤ r) (hr : r ≤ 600) (hm : r < 2 * m + 1) : ∀ (n : Nat) (l : List Int), l.length = n → Fine l → (∀ x ∈ l, m ≤ x) → lns r n l = List.replicate n 1
  | 0, l, _, _, _ => rfl
  | n + 1, l, hl, hG, hx => by
    have hne : l ≠ [] := by intro e; subst e; simp at hl
    obtain ⟨t, B⟩ := best r h0 hr l hG.1 hne hG.one
    have ht := B.ok.2.1
    have ht1 := B.ok.1
    have e : t = 1 := by
      rcases B.ok.2.2 with h | h
      · exact h
      · rcases Nat.lt_or_ge t 2 with h2 | h2
        · omega
        · have hle := wid_le l hG.one (t - 2) 2 (by omega)
          have e : 2 + (t - 2) = t := by omega
          rw [e] at hle
          have a := wid_succ l 0 (by omega)
          have b := wid_succ l 1 (by omega)
          have c : wid l 0 = -1 := by cases l <;> rfl
          have m0 := hx (l.getD 0 0) (by rw [List.getD_eq_getElem?_getD, List.getElem?_eq_getElem (by omega)]; simp)
          have m1 := hx (l.getD 1 0) (by rw [List.getD_eq_getElem?_getD, List.getElem?_eq_getElem (by omega)]; simp)
          simp only [Nat.zero_add] at a
          have : wid l 2 = wid l (1 + 1) := rfl
          omega
    subst e
    unfold lns
    rw [if_neg hne, B.tk, Int.toNat_natCast, lns_ones h0 hr hm n _ (by simp; omega) (hG.drop 1) (fun x hx2 => hx x (List.mem_of_mem_drop hx2))]
    rfl
def LeastArr (l : List Int) (r : Int) (x : List Int) (n : Nat) : Prop := x.length = n ∧ n ≤ l.length + 1 ∧ ∀ m, m < n → x.getD m 0 = bst r (l.drop (l.length - m))
def MinTo (r : Int) (l : List Int) (k : Nat) (b : Int) : Prop := (k = 1 ∧ b = -1) ∨ ∃ t, t < k ∧ ok r l t ∧ b = cst r l t ∧ ∀ j, j < k → ok r l j → b ≤ cst r l j
theorem min_step {r : Int} {l : List Int} {k : Nat} {b : Int} (h : MinTo r l k b) (ho : ok r l k) : MinTo r l (k + 1) (if b < 0 ∧ k = 1 then cst r l k else if cst r l k < b then cst r l k else b) := by
  rcases h with ⟨rfl, rfl⟩ | ⟨t, h1, h2, h3, h4⟩
  · rw [if_pos ⟨by omega, rfl⟩]
    refine .inr ⟨1, by omega, ho, rfl, fun j hj hj2 => ?_⟩
    have : j = 1 := by have := hj2.1; omega
    subst this; exact Int.le_refl _
  · have : ¬ k = 1 := by have := h2.1; omega
    rw [if_neg (fun h => this h.2)]
    by_cases hlt : cst r l k < b
    · rw [if_pos hlt]
      refine .inr ⟨k, by omega, ho, rfl, fun j hj hj2 => ?_⟩
      by_cases e : j = k
      · subst e; exact Int.le_refl _
      · have := h4 j (by omega) hj2; omega
    · rw [if_neg hlt]
      refine .inr ⟨t, by omega, h2, h3, fun j hj hj2 => ?_⟩
      by_cases e : j = k
      · subst e; omega
      · exact h4 j (by omega) hj2
def LastTo (r : Int) (l : List Int) (k : Nat) (u : Nat) (t : Int) : Prop := (k ≤ u ∧ ∃ v : Nat, t = v ∧ v ≤ l.length) ∨ (u < k ∧ t = u)
theorem min_end {r : Int} {l : List Int} {k u : Nat} {b : Int} (B : Best r l u) (hm : MinTo r l k b) (hk : 2 ≤ k) (hno : ∀ j, k ≤ j → ¬ ok r l j) : b = bst r l := by
  rcases hm with ⟨h, _⟩ | ⟨t, a1, a2, a3, a4⟩
  · omega
  · have c1 := B.least t a2
    have c2 := a4 u (by rcases Nat.lt_or_ge u k with h | h; exact h; exact absurd B.ok (hno u h)) B.ok
    rw [B.bst]; omega
theorem none_behind {r : Int} {l : List Int} {k : Nat} (h1 : ∀ x ∈ l, 1 ≤ x) (hk : 1 < k) (h : r < wid l k) : ∀ j, k ≤ j → ¬ ok r l j := by
  intro j hj ho
  have := wid_le l h1 (j - k) k (by have := ho.2.1; omega)
  have e : k + (j - k) = j := by omega
  rw [e] at this
  have := ho.2.2; omega
theorem cst_val {r S bv : Int} {l : List Int} {k : Nat} (hS : S = r - wid l k) (hbv : bst r (l.drop k) = bv) (hk : k ≤ l.length) : cst r l k = if 0 < S ∧ k < l.length then bv + S * S else bv := by
  unfold cst lc
  rw [hbv, ← hS]
  by_cases h : k = l.length
  · rw [if_pos (by simp [h]), if_neg (by omega)]; omega
  · rw [if_neg (by simp [h])]
    by_cases h2 : 0 < S
    · rw [if_pos h2, if_pos ⟨h2, by omega⟩]; omega
    · rw [if_neg h2, if_neg (fun h => h2 h.1)]; omega
theorem min_neg {r : Int} {l : List Int} {k : Nat} {b : Int} (hl : Fine l) (h0 : 0 ≤ r) (hr : r ≤ 600) (hm : MinTo r l k b) : (k = 1 ∧ b = -1) ∨ (1 < k ∧ 0 ≤ b ∧ b ≤ 362000000) := by
  rcases hm with h | ⟨t, a1, a2, a3, a4⟩
  · exact .inl h
  · have := cst_bd hl h0 hr t a2.2.1
    have := a2.1
    exact .inr ⟨by omega, by omega, by omega⟩
theorem least_snoc {l : List Int} {r : Int} {x : List Int} {n : Nat} (hA : LeastArr l r x n) (hn : n ≤ l.length) : LeastArr l r (x ++ [bst r (l.drop (l.length - n))]) (n + 1) :=
  ⟨by simp [hA.1], by omega, fun m hm => by
    rw [List.getD_eq_getElem?_getD]
    by_cases e : m = n
    · subst e; rw [List.getElem?_append_right (by rw [hA.1]; omega), hA.1]; simp
    · rw [List.getElem?_append_left (by rw [hA.1]; omega), ← List.getD_eq_getElem?_getD]; exact hA.2.2 m (by omega)⟩
theorem sq_any (x : Int) (h1 : -30100 ≤ x) (h2 : x ≤ 601) : 0 ≤ x * x ∧ x * x ≤ 906010000 := by
  by_cases h : 0 ≤ x
  · have := sq_bd h h2; omega
  · have e : x * x = (-x) * (-x) := by rw [Int.neg_mul_neg]
    rw [e]
    exact ⟨Int.mul_nonneg (by omega) (by omega), by have := Int.mul_le_mul (show -x ≤ 30100 by omega) (show -x ≤ 30100 by omega) (show 0 ≤ -x by omega) (by omega : (0 : Int) ≤ 30100); omega⟩
theorem bst_bd {l : List Int} {r : Int} (hl : Fine l) (h0 : 0 ≤ r) (hr : r ≤ 600) : 0 ≤ bst r l ∧ bst r l ≤ 361201000 := by
  have b := bounds r h0 hr _ l rfl hl.1 hl.one
  have := hl.1
  omega
theorem last_hit {r : Int} {l : List Int} {k u : Nat} (B : Best r l u) (ho : ok r l k) (he : cst r l k = cst r l u) : LastTo r l (k + 1) u (k : Int) := by
  have hku : k ≤ u := by
    rcases Nat.lt_or_ge u k with h | h
    · have := B.first k ho h; omega
    · exact h
  by_cases e : k = u
  · exact .inr ⟨by omega, by omega⟩
  · exact .inl ⟨by omega, k, rfl, ho.2.1⟩
theorem last_miss {r t : Int} {l : List Int} {k u : Nat} (he : cst r l k ≠ cst r l u) (hm : LastTo r l k u t) : LastTo r l (k + 1) u t := by
  rcases hm with ⟨a, b⟩ | ⟨a, b⟩
  · have : k ≠ u := by intro e; subst e; exact he rfl
    exact .inl ⟨by omega, b⟩
  · exact .inr ⟨by omega, b⟩
theorem last_end {r t : Int} {l : List Int} {k u : Nat} (B : Best r l u) (hm : LastTo r l k u t) (hno : ∀ j, k ≤ j → ¬ ok r l j) : t = u := by
  rcases hm with ⟨h, _⟩ | ⟨_, h⟩
  · exact absurd B.ok (hno u h)
  · exact h
theorem lns_step {r : Int} {q : List Int} {u : Nat} (h0 : 0 ≤ r) (hr : r ≤ 600) (hl : Fine q) (hne : q ≠ []) (B : Best r q u) : lns r q.length q = (u : Int) :: lns r (q.length - u) (q.drop u) := by
  have h1 := B.ok.1
  have h2 := B.ok.2.1
  have h3 := hl.1
  obtain ⟨m, hm⟩ : ∃ m, q.length = m + 1 := ⟨q.length - 1, by omega⟩
  rw [show lns r q.length q = lns r (m + 1) q by rw [hm]]
  conv => lhs; unfold lns
  rw [if_neg hne, B.tk, Int.toNat_natCast]
  congr 1
  exact lns_fuel r h0 hr _ _ _ (by simp; omega) (by simp) (by simp; omega) (hl.drop _).one
end Go.Proofs.Ytkdhfbdecmfhcaa.FPlain
