/- Plain: the reference's machine of layer 8 and the program's reader as plain functions; no Go. -/
import Derived.Test.YtdgdnccpginclaaWWords
namespace Go.Proofs.Ytdgdnccpginclaa.JDefs
abbrev Tok := Int × Int × Int
/-- The reference's machine, field by field. -/
structure Mach where
  st : Int
  stack : List Int
  frm : Int
  named : Bool
  left : List Int
  count : Int
  l : List Tok
def dig (c : Int) : Bool := decide (48 ≤ c) && decide (c ≤ 57)
def num (st c : Int) : Int × Bool :=
  if st = 9 then (if c = 48 then (10, true) else (11, dig c))
  else if st = 10 ∨ st = 11 then (if c = 46 then (12, true) else if c = 101 ∨ c = 69 then (14, true) else (11, st == 11 && dig c))
  else if st = 12 then (13, dig c)
  else if st = 13 then (if c = 101 ∨ c = 69 then (14, true) else (13, dig c))
  else if st = 14 then (if c = 43 ∨ c = 45 then (15, true) else (16, dig c))
  else if st = 15 ∨ st = 16 then (16, dig c)
  else (0, false)
def endsB (st : Int) : Bool := st == 10 || st == 11 || st == 13 || st == 16
def matom (m : Mach) (i : Int) : Mach :=
  { m with l := m.l ++ [(5, m.frm, i - m.frm)], st := if m.named then 4 else 5, named := false }
def mone (m : Mach) (k i s : Int) : Mach := { m with l := m.l ++ [(k, i, 1)], st := s }
def mbegin (m : Mach) (c i : Int) : Mach × Int :=
  let m := { m with frm := i }
  if c = 123 ∨ c = 91 then
    (if m.stack.length = 512 then (m, 6) else
      let m := mone { m with stack := m.stack ++ [c] } 1 i 1
      (if c = 123 then { m with st := 2 } else m, 0))
  else if c = 34 then ({ m with st := 6 }, 0)
  else if c = 45 then ({ m with st := 9 }, 0)
  else if c = 48 then ({ m with st := 10 }, 0)
  else if dig c = true then ({ m with st := 11 }, 0)
  else if c = 116 then ({ m with st := 17, left := [114, 117, 101] }, 0)
  else if c = 102 then ({ m with st := 17, left := [97, 108, 115, 101] }, 0)
  else if c = 110 then ({ m with st := 17, left := [117, 108, 108] }, 0)
  else (m, 5)
def mnext (m : Mach) (c i : Int) : Mach × Int :=
  match m.stack.getLast? with
  | none => (m, 5)
  | some top =>
    if c = 44 ∧ top = 91 then (mone m 3 i 0, 0)
    else if c = 44 then (mone m 3 i 3, 0)
    else if c = 93 ∧ top = 91 ∨ c = 125 ∧ top ≠ 91 then (mone { m with stack := m.stack.dropLast } 2 i 5, 0)
    else (m, 5)
def hexB (c : Int) : Bool := dig c || (decide (97 ≤ c) && decide (c ≤ 102)) || (decide (65 ≤ c) && decide (c ≤ 70))
def escB (c : Int) : Bool := c == 34 || c == 92 || c == 47 || c == 98 || c == 102 || c == 110 || c == 114 || c == 116
def minside (m : Mach) (c i : Int) : Mach × Int :=
  if m.st = 6 then (if c < 32 then (m, 5) else if c = 34 then (matom m (i + 1), 0) else if c = 92 then ({ m with st := 7 }, 0) else (m, 0))
  else if m.st = 7 then (if c = 117 then ({ m with st := 8, count := 4 }, 0) else if escB c = true then ({ m with st := 6 }, 0) else ({ m with st := 6 }, 5))
  else if m.st = 8 then (if hexB c = true then (if m.count - 1 = 0 then ({ m with count := 0, st := 6 }, 0) else ({ m with count := m.count - 1 }, 0)) else (m, 5))
  else if c = m.left.headD 0 then (if m.left.tail = [] then (matom { m with left := [] } (i + 1), 0) else ({ m with left := m.left.tail }, 0))
  else (m, 5)
def mrest (m : Mach) (c i : Int) : Mach × Int :=
  if m.st = 6 ∨ m.st = 7 ∨ m.st = 8 ∨ m.st = 17 then minside m c i
  else if m.st = 9 ∨ m.st = 12 ∨ m.st = 14 ∨ m.st = 15 then (m, 5)
  else if c = 32 ∨ c = 9 ∨ c = 10 ∨ c = 13 then (m, 0)
  else if m.st = 0 then mbegin m c i
  else if m.st = 1 then (if c = 93 then mnext m c i else mbegin m c i)
  else if m.st = 2 ∨ m.st = 3 then (if c = 125 ∧ m.st = 2 then mnext m c i else if c = 34 then ({ m with frm := i, st := 6, named := true }, 0) else (m, 5))
  else if m.st = 4 then (if c = 58 then (mone m 4 i 0, 0) else (m, 5))
  else mnext m c i
def mfeed (m : Mach) (c i : Int) : Mach × Int :=
  if (num m.st c).2 = true then ({ m with st := (num m.st c).1 }, 0)
  else mrest (if endsB m.st then matom m i else m) c i
def mgo : Mach → List Int → Int → Mach × Int × Int
  | m, [], i => (m, i, 0)
  | m, c :: cs, i => if (mfeed m c i).2 = 0 then mgo (mfeed m c i).1 cs (i + 1) else ((mfeed m c i).1, i, (mfeed m c i).2)
def m0 : Mach := ⟨0, [], 0, false, [], 0, []⟩
def mlast (m : Mach) (n : Int) : Mach := if endsB m.st then matom m n else m
def mend (m : Mach) (n : Int) : List Tok × Int × Int := if (mlast m n).st = 5 ∧ m.stack = [] then ((mlast m n).l, 0, 0) else ([], n, 5)
def mread (p : List Int) : List Tok × Int × Int :=
  if (mgo m0 p 0).2.2 = 0 then mend (mgo m0 p 0).1 p.length else ([], (mgo m0 p 0).2.1, (mgo m0 p 0).2.2)
/-- The program's reader as plain functions. -/
inductive Out where
  | ok (at_ : Nat) (l : List Tok)
  | stop (e : Int) (at_ : Nat)
def ws (c : Int) : Bool := c == 32 || c == 9 || c == 13 || c == 10
def skip (p : List Int) (at_ : Nat) : Nat := at_ + ((p.drop at_).takeWhile ws).length
/-- The byte at hand, 0 at the end. -/
def sees (p : List Int) (i : Nat) : Int := p.getD i 0
/-- Whether the bytes of a word stand there: the place behind it, or the first that differs. -/
def wordP (p : List Int) : List Int → Nat → Bool × Nat
  | [], i => (true, i)
  | c :: t, i => if p[i]? = some c then wordP p t (i + 1) else (false, i)
def digitsP (p : List Int) (i : Nat) : Bool × Nat :=
  if dig (sees p i) then (true, i + ((p.drop i).takeWhile dig).length) else (false, i)
def expP (p : List Int) (i : Nat) : Bool × Nat :=
  if sees p i = 101 ∨ sees p i = 69 then
    digitsP p (if sees p (i + 1) = 43 ∨ sees p (i + 1) = 45 then i + 2 else i + 1)
  else (true, i)
def fracP (p : List Int) (i : Nat) : Bool × Nat :=
  if sees p i = 46 then (let r := digitsP p (i + 1); if r.1 then expP p r.2 else r) else expP p i
def intP (p : List Int) (i : Nat) : Bool × Nat :=
  if sees p i = 48 then fracP p (i + 1) else (let r := digitsP p i; if r.1 then fracP p r.2 else r)
def numberP (p : List Int) (i : Nat) : Bool × Nat := if sees p i = 45 then intP p (i + 1) else intP p i
def hexP (p : List Int) : Nat → Nat → Bool × Nat
  | 0, i => (true, i)
  | k + 1, i => if hexB (sees p i) then hexP p k (i + 1) else (false, i)
def escP (p : List Int) (i : Nat) : Bool × Nat :=
  if sees p i = 117 then hexP p 4 (i + 1) else if escB (sees p i) then (true, i + 1) else (false, i)
/-- Behind the opening quote. -/
def signsP (p : List Int) : Nat → Nat → Bool × Nat
  | 0, i => (false, i)
  | f + 1, i => match p[i]? with
    | none => (false, i)
    | some c => if c < 32 then (false, i) else if c = 34 then (true, i + 1) else if c = 92 then (let r := escP p (i + 1); if r.1 then signsP p f r.2 else r) else signsP p f (i + 1)
def textP (p : List Int) (i : Nat) : Bool × Nat := if p[i]? = some 34 then signsP p p.length (i + 1) else (false, i)
def atomO (r : Bool × Nat) (a : Nat) (l : List Tok) : Out := if r.1 then .ok r.2 (l ++ [(5, (a : Int), (r.2 : Int) - a)]) else .stop 5 r.2
mutual
def valueP (p : List Int) : Nat → Nat → Nat → List Tok → Out
  | 0, _, at_, _ => .stop 5 at_
  | f + 1, d, at_, l =>
    let a := skip p at_
    let c := sees p a
    if c = 123 then listP p f d true a l
    else if c = 91 then listP p f d false a l
    else if c = 34 then atomO (textP p a) a l
    else if c = 45 ∨ dig c = true then atomO (numberP p a) a l
    else if c = 116 then atomO (wordP p [116, 114, 117, 101] a) a l
    else if c = 102 then atomO (wordP p [102, 97, 108, 115, 101] a) a l
    else if c = 110 then atomO (wordP p [110, 117, 108, 108] a) a l
    else .stop 5 a
/-- list: b: of pairs. -/
def listP (p : List Int) : Nat → Nat → Bool → Nat → List Tok → Out
  | 0, _, _, at_, _ => .stop 5 at_
  | f + 1, d, b, at_, l =>
    if d = 512 then .stop 6 at_ else
    let a := skip p (at_ + 1)
    let l := l ++ [(1, (at_ : Int), 1)]
    if sees p a = (if b then 125 else 93) then .ok (a + 1) (l ++ [(2, (a : Int), 1)])
    else match itemP p f (d + 1) b a l with
      | .stop e x => .stop e x
      | .ok x l' => restP p f d b (skip p x) l'
/-- Behind an item and blanks. -/
def restP (p : List Int) : Nat → Nat → Bool → Nat → List Tok → Out
  | 0, _, _, at_, _ => .stop 5 at_
  | f + 1, d, b, at_, l =>
    if sees p at_ = 44 then (match itemP p f (d + 1) b (at_ + 1) (l ++ [(3, (at_ : Int), 1)]) with
      | .stop e x => .stop e x
      | .ok x l' => restP p f d b (skip p x) l')
    else if sees p at_ = (if b then 125 else 93) then .ok (at_ + 1) (l ++ [(2, (at_ : Int), 1)])
    else .stop 5 at_
def itemP (p : List Int) : Nat → Nat → Bool → Nat → List Tok → Out
  | 0, _, _, at_, _ => .stop 5 at_
  | f + 1, d, b, at_, l => if b then
      (let a := skip p at_
       let r := textP p a
       if r.1 then
         (let l := l ++ [(5, (a : Int), (r.2 : Int) - a)]
          let k := skip p r.2
          if sees p k = 58 then valueP p f d (k + 1) (l ++ [(4, (k : Int), 1)]) else .stop 5 k)
       else .stop 5 r.2)
    else valueP p f d at_ l
end
def readP (p : List Int) : List Tok × Int × Int :=
  match valueP p (5 * p.length + 9) 0 0 [] with
  | .stop e a => ([], (a : Int), e)
  | .ok b l => if skip p b < p.length then ([], (skip p b : Int), 5) else (l, 0, 0)
end Go.Proofs.Ytdgdnccpginclaa.JDefs
