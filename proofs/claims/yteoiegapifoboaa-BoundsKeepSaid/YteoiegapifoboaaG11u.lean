/- Bounds as lists, and what is computed of them, in plain words. No condition. -/
import Derived.Test.YteoiegapifoboaaG11n
namespace G11
def toO (x : Int) : Option Int := if x = -1099511627776 then none else some x
def ofO : Option Int → Int
  | some x => x
  | none => -1099511627776
def ent (l : List (List Int)) (i j : Nat) : Int := (l.getD i []).getD j 0
def wt (l : List (List Int)) : Wt := fun i j => toO (ent l i j)
def rowL (n : Nat) (f : Nat → Int) : List Int := (List.range n).map f
def matL (n : Nat) (m : Nat → Nat → Int) : List (List Int) := (List.range n).map fun i => rowL n (m i)
def matO (n : Nat) (d : Wt) : List (List Int) := matL n fun i j => ofO (d i j)
/-- the places from a on, until l comes again -/
def chase (f : Nat → Nat) (l : Nat) : Nat → Nat → List Nat
  | 0, _ => []
  | k + 1, a => if a = l then [] else a :: chase f l k (f a)
def cycL (n : Nat) (s : BF) : List Nat := (itn s.fr (s.last.getD 0) n :: chase s.fr (itn s.fr (s.last.getD 0) n) n (s.fr (itn s.fr (s.last.getD 0) n))).reverse
/-- a cycle that proves a contradiction, or the closed bounds -/
def solve (l : List (List Int)) : List Int ⊕ List (List Int) :=
  match rounds l.length (wt l) l.length bf0 with
  | some s => .inl ((cycL l.length s).map fun x : Nat => (x : Int))
  | none => .inr (matO l.length (fw (wt l) l.length))
def bigE (x : Int) : Bool := x != -1099511627776 && !(decide (x ≥ -64000000) && decide (x ≤ 64000000))
def big (d : List (List Int)) : Bool := d.any fun r => r.any bigE
def neg1 (x : Int) : Int := bif x == -1099511627776 then x else -x
def wit (d : List (List Int)) (n : Nat) : List Int × Int :=
  bif (List.range (n - 1)).any (fun i => ent d (i + 1) 0 == -1099511627776) then ([], 14) else ((List.range (n - 1)).map fun i => -ent d (i + 1) 0, 0)
def pathL (l : List (List Int)) : List (List Int) := matO l.length (pth l.length (wt l) l.length)
def possL (l : List (List Int)) : Bool := (List.range l.length).all fun i => !decide (ent (pathL l) i i < 0)
def forgetL (d : List (List Int)) (n i : Nat) : List (List Int) := matL n fun j k => if j ≠ k ∧ (j = i ∨ k = i) then -1099511627776 else ent d j k
def ord (i x : Nat) : Nat := if x = 0 then i else if x < i then x else x + 1
def shiftL (d : List (List Int)) (n i : Nat) : List (List Int) := matL (n - 1) fun j k => ent d (ord i j) (ord i k)
def freeM (i j : Nat) : Int := if i = j then 0 else -1099511627776
/-- a bound is lowered -/
def addL (l : List (List Int)) (n i j : Nat) (v : Int) : List (List Int) := matL n fun a b => if a = i ∧ b = j ∧ (ent l i j = -1099511627776 ∨ v < ent l i j) then v else ent l a b
/-- one more time -/
def growL (l : List (List Int)) (n : Nat) (lo hi : Int) : List (List Int) := matL (n + 1) fun a b => if a < n ∧ b < n then ent l a b else if a = 0 ∧ b = n then hi else if a = n ∧ b = 0 then -lo else freeM a b
/-- the lesser bound -/
def lessE (x y : Int) : Int := if y ≠ -1099511627776 ∧ (x = -1099511627776 ∨ y < x) then y else x
def meetL (l k : List (List Int)) (n : Nat) : List (List Int) := matL n fun a b => lessE (ent l a b) (ent k a b)
def leqL (d k : List (List Int)) (n : Nat) : Bool := (List.range n).all fun a => (List.range n).all fun b => !(ent k a b != -1099511627776 && (ent d a b == -1099511627776 || decide (ent d a b > ent k a b)))
end G11
