/- What the functions of layer 10 compute, in plain words over trees. No program in sight. -/
import Derived.Test.YtdeaeiolehglaaaTree
set_option linter.unusedVariables false
set_option linter.unusedSimpArgs false
namespace Go.Proofs.Ytdeaeiolehglaaa
open Go.RowKit

/-- an instruction -/
structure In where
  op : Int
  x : Int := 0
  a : Int := 0
  name : ByteArray := ⟨#[]⟩
  n : Int := 0
  neg : Bool := false
deriving DecidableEq
/-- a clause: a head, and literals -/
structure Ltl where
  neg : Bool
  t : Tm
structure Cls where
  head : Tm
  body : List Ltl

/-- code that is made: instructions, the next new register, variables and their registers -/
structure St where
  code : List In
  next : Nat
  vars : List Int
  regs : List Int
def St.emit (s : St) (i : In) : St := { s with code := s.code ++ [i] }
def St.bump (s : St) : St := { s with next := s.next + 1 }
def St.addv (s : St) (v r : Int) : St := { s with vars := s.vars ++ [v], regs := s.regs ++ [r] }
/-- a variable's register, and whether it is new -/
def regF (s : St) (v : Int) : St × Int × Bool :=
  match s.regs[(placeI s.vars v).toNat]?, decide (0 ≤ placeI s.vars v) with
  | some r, true => (s, r, false)
  | _, _ => (s.bump.addv v s.next, s.next, true)
/-- an argument that is a variable or a number -/
def oneF (first again number : Int) (s : St) : Tm → St
  | .v n => (regF s n).1.emit { op := if (regF s n).2.2 then first else again, x := (regF s n).2.1 }
  | .i n => s.emit { op := number, n := n }
  | .f _ _ => s
def unisF (s : St) : List Tm → St × List (Tm × Int)
  | [] => (s, [])
  | .f nm as :: ts => ((unisF (s.emit { op := 5, x := s.next }).bump ts).1, (.f nm as, (s.next : Int)) :: (unisF (s.emit { op := 5, x := s.next }).bump ts).2)
  | t :: ts => unisF (oneF 5 6 7 s t) ts
/-- one of the head's row -/
def headF (s : St) : Tm × Int → St × List (Tm × Int)
  | (.v n, reg) => ((regF s n).1.emit { op := if (regF s n).2.2 then 1 else 2, x := (regF s n).2.1, a := reg }, [])
  | (.i n, reg) => (s.emit { op := 3, a := reg, n := n }, [])
  | (.f nm as, reg) => unisF (s.emit { op := 4, a := reg, name := nm, n := as.length }) as
def headsF : Nat → St → List (Tm × Int) → St
  | 0, s, _ => s
  | _ + 1, s, [] => s
  | k + 1, s, a :: row => headsF k (headF s a).1 (row ++ (headF s a).2)
def numbered : Nat → List Tm → List (Tm × Int)
  | _, [] => []
  | k, t :: ts => (t, (k : Int)) :: numbered (k + 1) ts
def setsF (s : St) : List Tm → List Int → St
  | .f _ _ :: ts, x :: xs => setsF (s.emit { op := 10, x := x }) ts xs
  | t :: ts, _ :: xs => setsF (oneF 9 10 11 s t) ts xs
  | _, _ => s
mutual
def buildF (s : St) : Tm → St × Int
  | .f nm as => (setsF ((argsF s as).1.bump.emit { op := 8, a := (argsF s as).1.next, name := nm, n := as.length }) as (argsF s as).2, (argsF s as).1.next)
  | _ => (s, -1)
def argsF (s : St) : List Tm → St × List Int
  | [] => (s, [])
  | t :: ts => ((argsF (buildF s t).1 ts).1, (buildF s t).2 :: (argsF (buildF s t).1 ts).2)
end
def bodyF (s : St) : List Ltl → St
  | [] => s
  | l :: ls => bodyF ((buildF s l.t).1.emit { op := 12, a := (buildF s l.t).2, neg := l.neg }) ls
def lastI (t : Tm) : In := { op := 13, name := t.c0.name, n := t.c0.n }
def startF (t : Tm) : St := ⟨[], t.args.length, [], []⟩
def compF (c : Cls) : List In := (bodyF (headsF (sizes c.head.args) (startF c.head) (numbered 0 c.head.args)) c.body).code ++ [lastI c.head]

/-- how many registers an instruction asks for -/
def regs1 (n : Int) (i : In) : Int :=
  if i.op = 1 ∨ i.op = 2 then max n (max (i.x + 1) (i.a + 1))
  else if i.op = 5 ∨ i.op = 6 ∨ i.op = 9 ∨ i.op = 10 then max n (i.x + 1)
  else if i.op = 3 ∨ i.op = 4 ∨ i.op = 8 ∨ i.op = 12 then max n (i.a + 1)
  else n
def regsF (n : Int) : List In → Int
  | [] => n
  | i :: l => regsF (regs1 n i) l
end Go.Proofs.Ytdeaeiolehglaaa
