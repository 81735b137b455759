/- Proved: what the reference's machine of layer 9 keeps while it takes bytes: its depth, its place, its list of tokens stay in their ranges; no condition on memory. -/
import Derived.Test.YtfflfadfalacgaaSMem
namespace Go.Proofs.Ytfflfadfalacgaa.SPlain
open Go.RowKit Go.Proofs.Ytfflfadfalacgaa.SMem
set_option linter.unusedVariables false
def mgo : Mach → List Int → Int → Mach × Int × Int
  | m, [], i => (m, i, 0)
  | m, c :: cs, i => if (mfeed m c i).2 = 0 then mgo (mfeed m c i).1 cs (i + 1) else ((mfeed m c i).1, i, (mfeed m c i).2)
theorem mgo_nil (m : Mach) (i : Int) : mgo m [] i = (m, i, 0) := rfl
theorem mgo_cons (m : Mach) (c : Int) (cs : List Int) (i : Int) : mgo m (c :: cs) i = if (mfeed m c i).2 = 0 then mgo (mfeed m c i).1 cs (i + 1) else ((mfeed m c i).1, i, (mfeed m c i).2) := rfl
def m0 : Mach := ⟨0, 0, 0, []⟩
def mlast (m : Mach) (n : Int) : Mach := if m.st = 3 then mdone (mtok m 5 m.frm n) else m
def mend (m : Mach) (n : Int) : List (Int × Int × Int) × Int × Int := if (mlast m n).st = 6 then ((mlast m n).l, 0, 0) else ([], n, 5)
def mread (p : List Int) : List (Int × Int × Int) × Int × Int :=
  if (mgo m0 p 0).2.2 = 0 then mend (mgo m0 p 0).1 p.length else ([], (mgo m0 p 0).2.1, (mgo m0 p 0).2.2)
structure Inv (m : Mach) (i : Int) : Prop where
  d0 : 0 ≤ m.dep
  d1 : m.dep ≤ 512
  f0 : 0 ≤ m.frm
  f1 : m.frm ≤ i
  s1 : m.st = 1 → 1 ≤ m.dep
  len : (m.l.length : Int) ≤ 2 * i
theorem inv_start {m : Mach} {c i : Int} (hd0 : 0 ≤ m.dep) (hd1 : m.dep ≤ 512) (hi : 0 ≤ i) (hs : m.st = 1 → 1 ≤ m.dep) (hl : (m.l.length : Int) ≤ 2 * i + 1) : Inv (mstart m c i).1 (i + 1) := by
  unfold mstart
  split
  · exact ⟨hd0, hd1, hi, by show i ≤ i + 1; omega, fun h => by simp at h, by simp [mtok]; omega⟩
  · split
    · exact ⟨hd0, hd1, hi, by show i ≤ i + 1; omega, fun h => by simp at h, by show (m.l.length : Int) ≤ _; omega⟩
    · split
      · split
        · exact ⟨hd0, hd1, hi, by show i ≤ i + 1; omega, hs, by show (m.l.length : Int) ≤ _; omega⟩
        · next h => exact ⟨by show 0 ≤ m.dep + 1; omega, by show m.dep + 1 ≤ 512; omega, hi, by show i ≤ i + 1; omega, fun _ => by show 1 ≤ m.dep + 1; omega, by simp [mtok]; omega⟩
      · split
        · exact ⟨hd0, hd1, hi, by show i ≤ i + 1; omega, fun h => by simp at h, by show (m.l.length : Int) ≤ _; omega⟩
        · split
          · exact ⟨hd0, hd1, hi, by show i ≤ i + 1; omega, fun h => by simp at h, by show (m.l.length : Int) ≤ _; omega⟩
          · exact ⟨hd0, hd1, hi, by show i ≤ i + 1; omega, hs, by show (m.l.length : Int) ≤ _; omega⟩
theorem done_s1 {m : Mach} (hd0 : 0 ≤ m.dep) : (mdone m).st = 1 → 1 ≤ (mdone m).dep := by
  intro h
  unfold mdone at h ⊢
  by_cases hz : m.dep = 0
  · rw [if_pos hz] at h; simp at h
  · show 1 ≤ m.dep; omega
theorem inv_rest {m : Mach} {c i : Int} (hd0 : 0 ≤ m.dep) (hd1 : m.dep ≤ 512) (hf0 : 0 ≤ m.frm) (hf1 : m.frm ≤ i) (hi : 0 ≤ i) (hs : m.st = 1 → 1 ≤ m.dep) (hl : (m.l.length : Int) ≤ 2 * i + 1) : Inv (mrest m c i).1 (i + 1) := by
  unfold mrest
  split
  · exact ⟨hd0, hd1, hf0, by show m.frm ≤ i + 1; omega, hs, by show (m.l.length : Int) ≤ _; omega⟩
  · split
    · exact ⟨hd0, hd1, hf0, by show m.frm ≤ i + 1; omega, hs, by show (m.l.length : Int) ≤ _; omega⟩
    · split
      · next h =>
        have := hs h.2
        exact ⟨by show 0 ≤ m.dep - 1; omega, by show m.dep - 1 ≤ 512; omega, hf0, by show m.frm ≤ i + 1; omega, done_s1 (by show 0 ≤ m.dep - 1; omega), by simp [mdone, mtok]; omega⟩
      · exact inv_start hd0 hd1 hi hs hl
theorem inv_feed {m : Mach} {c i : Int} (h : Inv m i) (hi : 0 ≤ i) : Inv (mfeed m c i).1 (i + 1) := by
  obtain ⟨hd0, hd1, hf0, hf1, hs, hl⟩ := h
  unfold mfeed
  split
  · split
    · exact ⟨hd0, hd1, hf0, by show m.frm ≤ i + 1; omega, done_s1 hd0, by simp [mdone, mtok]; omega⟩
    · split
      · exact ⟨hd0, hd1, hf0, by show m.frm ≤ i + 1; omega, fun h => by simp at h, by show (m.l.length : Int) ≤ _; omega⟩
      · exact ⟨hd0, hd1, hf0, by show m.frm ≤ i + 1; omega, hs, by show (m.l.length : Int) ≤ _; omega⟩
  · split
    · exact ⟨hd0, hd1, hf0, by show m.frm ≤ i + 1; omega, fun h => by simp at h, by show (m.l.length : Int) ≤ _; omega⟩
    · split
      · split
        · exact ⟨hd0, hd1, hf0, by show m.frm ≤ i + 1; omega, hs, by show (m.l.length : Int) ≤ _; omega⟩
        · exact inv_rest hd0 hd1 hf0 hf1 hi (done_s1 hd0) (by simp [mdone, mtok]; omega)
      · split
        · split
          · exact ⟨hd0, hd1, hf0, by show m.frm ≤ i + 1; omega, fun h => by simp [mtok] at h, by simp [mtok]; omega⟩
          · exact inv_rest hd0 hd1 hf0 hf1 hi (fun h => by simp [mtok] at h) (by simp [mtok]; omega)
        · exact inv_rest hd0 hd1 hf0 hf1 hi hs (by omega)
end Go.Proofs.Ytfflfadfalacgaa.SPlain
