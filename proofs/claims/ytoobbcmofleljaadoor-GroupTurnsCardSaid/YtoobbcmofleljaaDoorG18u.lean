/- A search for rings, in plain words over any relation of steps. No condition. -/
import Derived.Test.YtoobbcmofleljaaDoorAmP0
namespace Go.Pl

def alG (sh : Nat → Nat → Bool) (f k : Nat) : Bool := (List.range k).all fun i => (List.range i).all fun j => !sh (f + i) (f + j)
def bigG (al : Nat → Nat → Bool) (a : Nat) : Nat → Nat
  | 0 => 0
  | m + 1 => bif al a (m + 1) then m + 1 else bigG al a m
def needG (al : Nat → Nat → Bool) : Nat → Nat → Nat → Nat
  | 0, _, _ => 0
  | f + 1, a, b => bif Nat.blt a b then needG al f (a + bigG al a (b - a)) b + 1 else 0
def nextsG (al : Nat → Nat → Bool) (n a : Nat) : List Nat := (List.range' (a + 1) (n - (a + 1))).takeWhile fun k => al a (k - a)
def walkG (al : Nat → Nat → Bool) (n fw : Nat) : Nat → List Nat → Option (List Nat)
  | 0, l => bif Nat.blt fw (l.length - 1 + needG al n (l.getLastD 0) (l.headD 0 + n)) then none else bif Nat.beq l.length fw then some l else none
  | d + 1, l => bif Nat.blt fw (l.length - 1 + needG al n (l.getLastD 0) (l.headD 0 + n)) then none else bif Nat.beq l.length fw then some l else (nextsG al n (l.getLastD 0)).findSome? fun k => walkG al n fw d (l ++ [k])
def fwG (al : Nat → Nat → Bool) (n : Nat) : Nat := (List.range n).foldl (fun m f => min m (needG al n f (f + n))) n
def ringG (sh : Nat → Nat → Bool) (n : Nat) : Option (List Nat) := (List.range n).findSome? fun f => walkG (alG sh) n (fwG (alG sh) n) (fwG (alG sh) n - 1) [f]
end Go.Pl
