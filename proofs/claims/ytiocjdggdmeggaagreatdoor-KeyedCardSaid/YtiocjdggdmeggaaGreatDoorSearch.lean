/-
  The search of Once as plain data: what is seen, what is to be looked at.
-/
import Derived.Test.YtiocjdggdmeggaaGreatDoorMake
namespace Go.Proofs.YtiocjdggdmeggaaGreatDoor
open Go.RowKit
abbrev SQ := List (Nat × Nat × Nat) × List (Nat × Nat × Nat)
def pushP (t : Nat × Nat × Nat) (st : SQ) : SQ := if st.1.contains t then st else (t :: st.1, st.2 ++ [t])
def bothP (ph : Nat) (A : PA) (i : Nat) (C : PA) (j : Nat) (st : SQ) : SQ :=
  (bitsOf (A.follow.getD i 0)).foldl (fun st x => (bitsOf (C.follow.getD j 0)).foldl (fun st y => if meets (A.signs.getD x (0, 0)).1 (A.signs.getD x (0, 0)).2 (C.signs.getD y (0, 0)).1 (C.signs.getD y (0, 0)).2 then pushP (ph, x, y) st else st) st) st
/-- What Once's look does: what it puts, and whether it has found. -/
def lookP (A C : PA) (p : Nat × Nat × Nat) (st : SQ) : SQ × Bool :=
  match p.1 with
  | 0 => let st := bothP 0 A p.2.1 A p.2.2 st
         (if A.last.testBit p.2.1 then bothP 1 A p.2.2 C 0 st else st, false)
  | 1 => let st := bothP 1 A p.2.1 C p.2.2 st
         (if A.last.testBit p.2.1 then pushP (2, p.2.2, 0) st else st, false)
  | 2 => (bothP 2 C p.2.1 C p.2.2 st, C.last.testBit p.2.1 && C.last.testBit p.2.2)
  | _ => (st, false)
/-- Is a pair one of places that there are? -/
def okP (A C : PA) (p : Nat × Nat × Nat) : Bool :=
  match p.1 with
  | 0 => decide (p.2.1 < A.n) && decide (p.2.2 < A.n)
  | 1 => decide (p.2.1 < A.n) && decide (p.2.2 < C.n)
  | 2 => decide (p.2.1 < C.n) && decide (p.2.2 < C.n)
  | _ => false
/-- What run does, as long as no more than so many pairs are seen; each pair is to be a good one. -/
def runP (look : Nat × Nat × Nat → SQ → SQ × Bool) (ok : Nat × Nat × Nat → Bool) : Nat → SQ → Option Bool
  | 0, _ => none
  | f + 1, (S, xs) =>
    if S.length ≤ 80000 ∧ xs.length ≤ 80000 then
      match xs with
      | [] => some false
      | t :: xs => if ok t then (if (look t (S, xs)).2 then some true else runP look ok f (look t (S, xs)).1) else none
    else none
/-- Once's answer, if the search ends within the fuel. -/
def onceP (A C : PA) (fuel : Nat) : Option Bool := (runP (lookP A C) (okP A C) fuel (pushP (0, 0, 0) ([], []))).map (!·)
end Go.Proofs.YtiocjdggdmeggaaGreatDoor
