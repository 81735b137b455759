/- Proved: plain facts about parting words into lines: the least cost, which way of lines reaches it, and that it is the first of these; no condition on any program. -/
namespace Go.Proofs.Ytkdhfbdecmfhcaa.FMath

def lc (r s : Int) (last : Bool) : Int := if last = true then 0 else if 0 < r - s then (r - s) * (r - s) else 0

def go (r : Int) : Int → Int → List Int → List (Int × Int) → (Int × Int) → (Int × Int)
  | s, k, w :: ws, T, acc =>
    if r < s + (w + 1) ∧ 1 < k then acc else
    go r (s + (w + 1)) (k + 1) ws T.tail (if lc r (s + (w + 1)) ws.isEmpty + (T.headD (0, 0)).1 ≤ acc.1 then (lc r (s + (w + 1)) ws.isEmpty + (T.headD (0, 0)).1, k) else acc)
  | _, _, [], _, acc => acc

def tab (r : Int) : List Int → List (Int × Int)
  | [] => [(0, 0)]
  | w :: t => go r (-1) 1 (w :: t) (tab r t) (4611686018427387904, 0) :: tab r t

def bst (r : Int) (l : List Int) : Int := ((tab r l).headD (0, 0)).1
def tk (r : Int) (l : List Int) : Int := ((tab r l).headD (0, 0)).2

/-- how wide k words are -/
def wid : List Int → Nat → Int
  | _, 0 => -1
  | [], _ => -1
  | w :: ws, k + 1 => wid ws k + (w + 1)

def ok (r : Int) (l : List Int) (k : Nat) : Prop := 1 ≤ k ∧ k ≤ l.length ∧ (k = 1 ∨ wid l k ≤ r)
def cst (r : Int) (l : List Int) (k : Nat) : Int := lc r (wid l k) (decide (k = l.length)) + bst r (l.drop k)

theorem tab_drop (r : Int) : ∀ (l : List Int) (w : Int) (t : List Int), l = w :: t → (tab r l).tail = tab r t := by
  intro l w t h; subst h; rfl

theorem wid_succ : ∀ (l : List Int) (k : Nat), k < l.length → wid l (k + 1) = wid l k + (l.getD k 0 + 1)
  | [], k, h => by simp at h
  | w :: ws, 0, _ => by cases ws <;> simp [wid]
  | w :: ws, k + 1, h => by
    have := wid_succ ws k (by simpa using h)
    simp only [wid] at this ⊢
    rw [this]; simp; omega

theorem wid_le (l : List Int) (h1 : ∀ x ∈ l, 1 ≤ x) : ∀ (d k : Nat), k + d ≤ l.length → wid l k ≤ wid l (k + d)
  | 0, k, _ => by simp
  | d + 1, k, h => by
    have := wid_le l h1 d k (by omega)
    have e := wid_succ l (k + d) (by omega)
    have hm : l.getD (k + d) 0 ∈ l := by
      rw [List.getD_eq_getElem?_getD, List.getElem?_eq_getElem (by omega)]; simp
    have := h1 _ hm
    have : wid l (k + (d + 1)) = wid l (k + d + 1) := rfl
    omega

theorem lc_nonneg (r s : Int) (b : Bool) : 0 ≤ lc r s b := by
  unfold lc; split
  · omega
  · split
    · exact Int.mul_nonneg (by omega) (by omega)
    · omega

theorem lc_le (r s : Int) (b : Bool) (hs : -1 ≤ s) (hr : 0 ≤ r) : lc r s b ≤ (r + 1) * (r + 1) := by
  unfold lc; split
  · exact Int.mul_nonneg (by omega) (by omega)
  · split
    · exact Int.mul_le_mul (by omega) (by omega) (by omega) (by omega)
    · exact Int.mul_nonneg (by omega) (by omega)

/-- What the scan has found ahead of k. -/
def Found (r : Int) (l : List Int) (k : Nat) (acc : Int × Int) : Prop :=
  (k = 1 ∧ acc.1 = 4611686018427387904) ∨
  ∃ t : Nat, acc.2 = t ∧ t < k ∧ ok r l t ∧ acc.1 = cst r l t ∧ ∀ j, ok r l j → j < k → acc.1 ≤ cst r l j ∧ (t < j → acc.1 < cst r l j)

theorem go_found (r : Int) (l : List Int) (h1 : ∀ x ∈ l, 1 ≤ x) (hb : ∀ k, 1 ≤ k → k ≤ l.length → cst r l k ≤ 4611686018427387904) :
    ∀ (ws : List Int) (k : Nat) (acc : Int × Int) (T : List (Int × Int)), (ws ≠ [] → T = tab r ws.tail) → 1 ≤ k → l.drop (k - 1) = ws → k ≤ l.length + 1 → (k = 1 → l ≠ []) → Found r l k acc →
      Found r l (l.length + 1) (go r (wid l (k - 1)) k ws T acc)
  | [], k, acc, T, hT, hk, hd, hk2, hne, hf => by
    have : l.length ≤ k - 1 := by simpa using hd
    have e : k = l.length + 1 := by omega
    subst e
    simpa [go] using hf
  | w :: ws, k, acc, T, hT, hk, hd, hk2, hne, hf => by
    obtain rfl := hT (by simp)
    have hlt : k - 1 < l.length := by
      rcases Nat.lt_or_ge (k - 1) l.length with h | h
      · exact h
      · rw [List.drop_of_length_le h] at hd; cases hd
    have hw : l.getD (k - 1) 0 = w := by
      have := List.drop_eq_getElem_cons hlt
      rw [hd] at this
      rw [List.getD_eq_getElem?_getD, List.getElem?_eq_getElem hlt]; simpa using (List.cons.inj this).1.symm
    have hws : l.drop k = ws := by
      have := List.drop_eq_getElem_cons hlt
      rw [hd] at this
      have := (List.cons.inj this).2
      rw [this]; congr 1; omega
    have ew : wid l (k - 1) + (w + 1) = wid l k := by
      have := wid_succ l (k - 1) hlt
      rw [hw] at this
      have e : k - 1 + 1 = k := by omega
      rw [e] at this; omega
    have emp : ws.isEmpty = decide (k = l.length) := by
      rw [← hws, Bool.eq_iff_iff]; simp; omega
    have hh : ((tab r (w :: ws).tail).headD (0, 0)).1 = bst r (l.drop k) := by rw [hws]; rfl
    unfold go
    rw [ew]
    by_cases hc : r < wid l k ∧ (1 : Int) < k
    · rw [if_pos hc]
      rcases hf with ⟨e, _⟩ | ⟨t, a1, a2, a3, a4, a5⟩
      · omega
      · refine .inr ⟨t, a1, by omega, a3, a4, fun j hj _ => ?_⟩
        rcases Nat.lt_or_ge j k with h | h
        · exact a5 j hj h
        · exfalso
          obtain ⟨j1, j2, j3⟩ := hj
          have := wid_le l h1 (j - k) k (by omega)
          have e : k + (j - k) = j := by omega
          rw [e] at this
          omega
    · rw [if_neg hc, emp, hh]
      have hok : ok r l k := ⟨hk, by omega, by omega⟩
      have ht : ws ≠ [] → (tab r (w :: ws).tail).tail = tab r ws.tail := by
        cases ws with
        | nil => simp
        | cons a b => exact fun _ => rfl
      have hcst : lc r (wid l k) (decide (k = l.length)) + bst r (l.drop k) = cst r l k := rfl
      rw [hcst]
      have hstep : Found r l (k + 1) (if cst r l k ≤ acc.1 then (cst r l k, (k : Int)) else acc) := by
        rcases hf with ⟨e, e2⟩ | ⟨t, a1, a2, a3, a4, a5⟩
        · subst e
          rw [if_pos (by rw [e2]; exact hb 1 (by omega) (by omega))]
          refine .inr ⟨1, rfl, by omega, hok, rfl, fun j hj hj2 => ?_⟩
          have : j = 1 := by have := hj.1; omega
          subst this
          exact ⟨Int.le_refl _, fun h => by omega⟩
        · by_cases hle : cst r l k ≤ acc.1
          · rw [if_pos hle]
            refine .inr ⟨k, rfl, by omega, hok, rfl, fun j hj hj2 => ?_⟩
            rcases Nat.lt_or_ge j k with h | h
            · have := (a5 j hj h).1
              exact ⟨by simp only; omega, fun h' => by omega⟩
            · have : j = k := by omega
              subst this
              exact ⟨Int.le_refl _, fun h => by omega⟩
          · rw [if_neg hle]
            refine .inr ⟨t, a1, by omega, a3, a4, fun j hj hj2 => ?_⟩
            rcases Nat.lt_or_ge j k with h | h
            · exact a5 j hj h
            · have : j = k := by omega
              subst this
              exact ⟨by omega, fun _ => by omega⟩
      have := go_found r l h1 hb ws (k + 1) _ _ ht (by omega) (by simpa using hws) (by omega) (by omega) hstep
      have e : k + 1 - 1 = k := by omega
      rw [e] at this
      simpa using this

/-- How a list with a word in it begins: the least cost, and the greatest first line that reaches it. -/
structure Best (r : Int) (l : List Int) (t : Nat) : Prop where
  tk : tk r l = t
  ok : ok r l t
  bst : bst r l = cst r l t
  least : ∀ j, FMath.ok r l j → cst r l t ≤ cst r l j
  first : ∀ j, FMath.ok r l j → t < j → cst r l t < cst r l j

theorem best_of (r : Int) (l : List Int) (hne : l ≠ []) (h1 : ∀ x ∈ l, 1 ≤ x) (hb : ∀ k, 1 ≤ k → k ≤ l.length → cst r l k ≤ 4611686018427387904) : ∃ t, Best r l t := by
  obtain ⟨w, t, rfl⟩ : ∃ w t, l = w :: t := by cases l with
    | nil => exact absurd rfl hne
    | cons a b => exact ⟨a, b, rfl⟩
  have := go_found r (w :: t) h1 hb (w :: t) 1 (4611686018427387904, 0) (tab r t) (fun _ => rfl) (by omega) rfl (by omega) (fun _ => hne) (.inl ⟨rfl, rfl⟩)
  have e : wid (w :: t) (1 - 1) = -1 := rfl
  rw [e] at this
  rcases this with ⟨h, _⟩ | ⟨j, a1, a2, a3, a4, a5⟩
  · simp at h
  · refine ⟨j, a1, a3, a4, fun i hi => ?_, fun i hi => ?_⟩
    · rw [← a4]; exact (a5 i hi (by have := hi.2.1; omega)).1
    · rw [← a4]; exact (a5 i hi (by have := hi.2.1; omega)).2

theorem bounds (r : Int) (hr : 0 ≤ r) (hr2 : r ≤ 600) : ∀ (n : Nat) (l : List Int), l.length = n → n ≤ 1000 → (∀ x ∈ l, 1 ≤ x) → 0 ≤ bst r l ∧ bst r l ≤ n * 361201 := by
  intro n
  induction n using Nat.strongRecOn with
  | ind n ih =>
    intro l hl hn h1
    by_cases hne : l = []
    · subst hne; simp [bst, tab]; omega
    · have hw : ∀ k, 1 ≤ k → k ≤ l.length → -1 ≤ wid l k := by
        intro k a b
        have := wid_le l h1 k 0 (by omega)
        simpa [wid] using this
      have hlc : ∀ k, 1 ≤ k → k ≤ l.length → 0 ≤ cst r l k ∧ cst r l k ≤ n * 361201 := by
        intro k a b
        have x := lc_nonneg r (wid l k) (decide (k = l.length))
        have y := lc_le r (wid l k) (decide (k = l.length)) (hw k a b) hr
        have z : (r + 1) * (r + 1) ≤ 601 * 601 := Int.mul_le_mul (by omega) (by omega) (by omega) (by omega)
        have q := ih (n - k) (by omega) (l.drop k) (by simp; omega) (by omega) (fun x hx => h1 x (List.mem_of_mem_drop hx))
        unfold cst
        omega
      obtain ⟨t, b⟩ := best_of r l hne h1 (fun k a c => by have := (hlc k a c).2; omega)
      rw [b.bst]
      exact hlc t b.ok.1 b.ok.2.1

theorem best (r : Int) (hr : 0 ≤ r) (hr2 : r ≤ 600) (l : List Int) (hn : l.length ≤ 1000) (hne : l ≠ []) (h1 : ∀ x ∈ l, 1 ≤ x) : ∃ t, Best r l t := by
  refine best_of r l hne h1 fun k a b => ?_
  have hw : -1 ≤ wid l k := by
    have := wid_le l h1 k 0 (by omega)
    simpa [wid] using this
  have y := lc_le r (wid l k) (decide (k = l.length)) hw hr
  have z : (r + 1) * (r + 1) ≤ 601 * 601 := Int.mul_le_mul (by omega) (by omega) (by omega) (by omega)
  have q := bounds r hr hr2 (l.length - k) (l.drop k) (by simp) (by omega) (fun x hx => h1 x (List.mem_of_mem_drop hx))
  unfold cst
  omega


/-- what words in some lines cost; none: they aren't so -/
def sumW (r : Int) : List Int → List Int → Option Int
  | l, [] => if l = [] then some 0 else none
  | l, k :: ks => if 1 ≤ k ∧ k ≤ l.length ∧ (k = 1 ∨ wid l k.toNat ≤ r) then (sumW r (l.drop k.toNat) ks).map (fun s => lc r (wid l k.toNat) ks.isEmpty + s) else none

def told : Option Int → Int × Bool
  | some s => (s, true)
  | none => (0, false)

def lns (r : Int) : Nat → List Int → List Int
  | 0, _ => []
  | n + 1, l => if l = [] then [] else tk r l :: lns r n (l.drop (tk r l).toNat)

def first : List Int → List Int → Bool
  | a :: as, b :: bs => if a = b then first as bs else decide (a > b)
  | [], [] => true
  | _, _ => false

theorem lns_fuel (r : Int) (hr : 0 ≤ r) (hr2 : r ≤ 600) : ∀ (n m : Nat) (l : List Int), l.length ≤ n → l.length ≤ m → l.length ≤ 1000 → (∀ x ∈ l, 1 ≤ x) → lns r n l = lns r m l
  | 0, 0, l, _, _, _, _ => rfl
  | 0, m + 1, l, h, _, _, _ => by
    have : l = [] := List.length_eq_zero_iff.1 (by omega)
    subst this; simp [lns]
  | n + 1, 0, l, _, h, _, _ => by
    have : l = [] := List.length_eq_zero_iff.1 (by omega)
    subst this; simp [lns]
  | n + 1, m + 1, l, h, h2, h3, h1 => by
    unfold lns
    by_cases hne : l = []
    · rw [if_pos hne, if_pos hne]
    · rw [if_neg hne, if_neg hne]
      obtain ⟨t, b⟩ := best r hr hr2 l h3 hne h1
      have ht := b.ok.1
      rw [lns_fuel r hr hr2 n m _ (by rw [b.tk]; simp; omega) (by rw [b.tk]; simp; omega) (by rw [b.tk]; simp; omega) (fun x hx => h1 x (List.mem_of_mem_drop hx))]

theorem sumW_nil_iff {r : Int} : ∀ {ks l : List Int} {s : Int}, sumW r l ks = some s → (ks.isEmpty = decide (l = []))
  | [], l, s, h => by
    unfold sumW at h
    by_cases hl : l = []
    · simp [hl]
    · rw [if_neg hl] at h; cases h
  | k :: ks, l, s, h => by
    unfold sumW at h
    split at h
    · next hc =>
      have : l ≠ [] := by intro e; subst e; simp at hc; omega
      simp [this]
    · cases h

theorem drop_nil_iff (l : List Int) (k : Nat) (h : k ≤ l.length) : decide (l.drop k = []) = decide (k = l.length) := by
  rw [decide_eq_decide, List.drop_eq_nil_iff]; omega

/-- A way's cost, opened at its first line. -/
theorem sumW_cons {r : Int} {l : List Int} {k : Int} {ks : List Int} {s : Int} (h : sumW r l (k :: ks) = some s) :
    ∃ (t : Nat) (s' : Int), k = t ∧ ok r l t ∧ sumW r (l.drop t) ks = some s' ∧ s = lc r (wid l t) (decide (t = l.length)) + s' := by
  unfold sumW at h
  split at h
  · next hc =>
    obtain ⟨t, rfl⟩ := Int.eq_ofNat_of_zero_le (show 0 ≤ k by omega)
    rw [Int.toNat_natCast] at *
    obtain ⟨s', hs, rfl⟩ := Option.map_eq_some_iff.1 h
    refine ⟨t, s', rfl, ⟨by omega, by omega, by omega⟩, hs, ?_⟩
    rw [sumW_nil_iff hs, drop_nil_iff l t (by omega)]
  · cases h

theorem sumW_mk {r : Int} {l : List Int} {t : Nat} {ks : List Int} {s' : Int} (ho : ok r l t) (hs : sumW r (l.drop t) ks = some s') :
    sumW r l ((t : Int) :: ks) = some (lc r (wid l t) (decide (t = l.length)) + s') := by
  unfold sumW
  obtain ⟨a, b, c⟩ := ho
  rw [if_pos ⟨by omega, by omega, by rw [Int.toNat_natCast]; omega⟩, Int.toNat_natCast, hs, Option.map_some, sumW_nil_iff hs, drop_nil_iff l t b]

theorem lns_sum (r : Int) (hr : 0 ≤ r) (hr2 : r ≤ 600) : ∀ (n : Nat) (l : List Int), l.length ≤ n → l.length ≤ 1000 → (∀ x ∈ l, 1 ≤ x) → sumW r l (lns r n l) = some (bst r l)
  | 0, l, h, _, _ => by
    have : l = [] := List.length_eq_zero_iff.1 (by omega)
    subst this; simp [lns, sumW, bst, tab]
  | n + 1, l, h, h3, h1 => by
    unfold lns
    by_cases hne : l = []
    · subst hne; simp [sumW, bst, tab]
    · rw [if_neg hne]
      obtain ⟨t, b⟩ := best r hr hr2 l h3 hne h1
      have ht := b.ok.1
      rw [b.tk, Int.toNat_natCast, b.bst]
      exact sumW_mk b.ok (lns_sum r hr hr2 n _ (by simp; omega) (by simp; omega) (fun x hx => h1 x (List.mem_of_mem_drop hx)))

theorem least (r : Int) (hr : 0 ≤ r) (hr2 : r ≤ 600) : ∀ (ks l : List Int) (s : Int), l.length ≤ 1000 → (∀ x ∈ l, 1 ≤ x) → sumW r l ks = some s → bst r l ≤ s
  | [], l, s, _, _, h => by
    unfold sumW at h
    split at h
    · next hl => subst hl; cases h; simp [bst, tab]
    · cases h
  | k :: ks, l, s, h3, h1, h => by
    obtain ⟨t, s', rfl, ho, hs, rfl⟩ := sumW_cons h
    have hne : l ≠ [] := by intro e; subst e; have := ho.1; have := ho.2.1; simp at this; omega
    obtain ⟨u, b⟩ := best r hr hr2 l h3 hne h1
    have ih := least r hr hr2 ks _ s' (by simp; omega) (fun x hx => h1 x (List.mem_of_mem_drop hx)) hs
    have := b.least t ho
    rw [b.bst]
    unfold cst at this ⊢
    omega

theorem first_of (r : Int) (hr : 0 ≤ r) (hr2 : r ≤ 600) : ∀ (n : Nat) (ks l : List Int), l.length ≤ n → l.length ≤ 1000 → (∀ x ∈ l, 1 ≤ x) → sumW r l ks = some (bst r l) → first (lns r n l) ks = true
  | 0, ks, l, h, _, _, hs => by
    have : l = [] := List.length_eq_zero_iff.1 (by omega)
    subst this
    have := sumW_nil_iff hs
    have : ks = [] := by simpa using this
    subst this; rfl
  | n + 1, [], l, h, _, _, hs => by
    have := sumW_nil_iff hs
    have : l = [] := by simpa using this
    subst this; simp [lns, first]
  | n + 1, k :: ks, l, h, h3, h1, hs => by
    obtain ⟨t, s', rfl, ho, hs', e⟩ := sumW_cons hs
    have hne : l ≠ [] := by intro e; subst e; have := ho.1; have := ho.2.1; simp at this; omega
    obtain ⟨u, b⟩ := best r hr hr2 l h3 hne h1
    have hm : ∀ x ∈ l.drop t, 1 ≤ x := fun x hx => h1 x (List.mem_of_mem_drop hx)
    have ih := least r hr hr2 ks _ s' (by simp; omega) hm hs'
    have hl := b.least t ho
    have hf := b.first t ho
    rw [b.bst] at e
    unfold lns
    rw [if_neg hne, b.tk, Int.toNat_natCast]
    unfold first
    by_cases hut : u = t
    · subst hut
      rw [if_pos rfl]
      have e2 : s' = bst r (l.drop u) := by unfold cst at e; omega
      rw [e2] at hs'
      exact first_of r hr hr2 n ks _ (by simp; have := ho.1; omega) (by simp; omega) hm hs'
    · rw [if_neg (by omega)]
      have : ¬ u < t := by
        intro hlt
        have := hf hlt
        have e3 : cst r l t = lc r (wid l t) (decide (t = l.length)) + bst r (l.drop t) := rfl
        omega
      simp; omega

theorem wider (r q : Int) (h : r ≤ q) : ∀ (ks l : List Int) (s : Int), sumW r l ks = some s → ∃ s', sumW q l ks = some s'
  | [], l, s, hs => by
    unfold sumW at hs ⊢
    exact ⟨s, hs⟩
  | k :: ks, l, s, hs => by
    obtain ⟨t, s', rfl, ho, hs', _⟩ := sumW_cons hs
    obtain ⟨s2, h2⟩ := wider r q h ks _ s' hs'
    exact ⟨_, sumW_mk ⟨ho.1, ho.2.1, by have := ho.2.2; omega⟩ h2⟩

theorem few (r : Int) : ∀ (ks l : List Int) (s : Int), sumW r l ks = some s → ks.length ≤ l.length
  | [], l, s, hs => by simp
  | k :: ks, l, s, hs => by
    obtain ⟨t, s', rfl, ho, hs', _⟩ := sumW_cons hs
    have := few r ks _ s' hs'
    have := ho.1
    have := ho.2.1
    simp at *; omega

end Go.Proofs.Ytkdhfbdecmfhcaa.FMath
