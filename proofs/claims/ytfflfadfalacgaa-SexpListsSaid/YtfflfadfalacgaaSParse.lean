/- Plain: the program's reader of layer 9 as plain functions (no Go): places are numbers into p. -/
import Derived.Test.YtfflfadfalacgaaSPlain
namespace Go.Proofs.Ytfflfadfalacgaa.SParse
abbrev Tok := Int × Int × Int
/-- What a part of the reader comes to: further on, or a stop. -/
inductive Out where
  | ok (at_ : Nat) (l : List Tok)
  | stop (e : Int) (at_ : Nat)
def ws (c : Int) : Bool := c == 32 || c == 9 || c == 13 || c == 10
def isAtom (c : Int) : Bool := decide (32 < c) && c != 127 && !(c == 40 || c == 41 || c == 34 || c == 39 || c == 96 || c == 44 || c == 59)
def skip (p : List Int) (at_ : Nat) : Nat := at_ + ((p.drop at_).takeWhile ws).length
def qn : List Int → Nat
  | 44 :: 64 :: _ => 2
  | 39 :: _ => 1
  | 96 :: _ => 1
  | 44 :: _ => 1
  | _ => 0
def quotesP (p : List Int) : Nat → Nat → List Tok → Nat × List Tok
  | 0, at_, l => (at_, l)
  | f + 1, at_, l =>
    let a := skip p at_
    if a < p.length then (if qn (p.drop a) = 0 then (a, l) else quotesP p f (a + qn (p.drop a)) (l ++ [(6, (a : Int), (qn (p.drop a) : Int))])) else (a, l)
/-- Behind the opening quote: the place behind the closing one, or the end where none comes. -/
def textP (p : List Int) : Nat → Nat → Option Nat
  | 0, _ => none
  | f + 1, at_ => match p[at_]? with
    | none => none
    | some c => if c = 34 then some (at_ + 1) else if c = 92 then (if at_ + 1 = p.length then none else textP p f (at_ + 2)) else textP p f (at_ + 1)
mutual
/-- one: an expression, so deep (the text's failing place is the end of p). The kinds: open 1, close 2, atom 5, quote 6 (as the walks show). -/
def oneP (p : List Int) : Nat → Nat → Nat → List Tok → Out
  | 0, _, at_, _ => .stop 5 at_
  | f + 1, d, at_, l =>
    let q := quotesP p (p.length + 1) at_ l
    match p[q.1]? with
    | none => .stop 5 q.1
    | some c =>
      if c = 40 then listP p f d q.1 q.2
      else if c = 34 then (match textP p p.length (q.1 + 1) with
        | none => .stop 5 p.length
        | some b => .ok b (q.2 ++ [(5, (q.1 : Int), (b : Int) - q.1)]))
      else if isAtom c && c != 64 then (let n := ((p.drop q.1).takeWhile isAtom).length; .ok (q.1 + n) (q.2 ++ [(5, (q.1 : Int), (n : Int))]))
      else .stop 5 q.1
def listP (p : List Int) : Nat → Nat → Nat → List Tok → Out
  | 0, _, at_, _ => .stop 5 at_
  | f + 1, d, at_, l => if d = 512 then .stop 6 at_ else restP p f d (at_ + 1) (l ++ [(1, (at_ : Int), 1)])
def restP (p : List Int) : Nat → Nat → Nat → List Tok → Out
  | 0, _, at_, _ => .stop 5 at_
  | f + 1, d, at_, l =>
    let a := skip p at_
    match p[a]? with
    | none => .stop 5 a
    | some c => if c = 41 then .ok (a + 1) (l ++ [(2, (a : Int), 1)]) else
      match oneP p f (d + 1) a l with
      | .stop e x => .stop e x
      | .ok b l' => restP p f d b l'
end
def readP (p : List Int) : List Tok × Int × Int :=
  match oneP p (4 * p.length + 8) 0 0 [] with
  | .stop e a => ([], (a : Int), e)
  | .ok b l => if skip p b < p.length then ([], (skip p b : Int), 5) else (l, 0, 0)
end Go.Proofs.Ytfflfadfalacgaa.SParse
