/- The values that schedule.slots yields, read from what its function has captured. No condition. -/
import Derived.Test.YtiicggigpcfefaaAmWr
import Derived.Test.YtiicggigpcfefaaG17M
namespace G17
open Go Go.Pl Go.Am Go.Am.As
def dL {α : Type} (d : List AV → Option α) : List (List AV) → Option (List α)
  | [] => some []
  | x :: l => (d x).bind fun y => (dL d l).map (y :: ·)
theorem dL_map {α : Type} {d : List AV → Option α} {C : α → List AV} (h : ∀ a, d (C a) = some a) : ∀ l : List α, dL d (l.map C) = some l
  | [] => rfl
  | x :: l => by simp only [List.map_cons, dL, h, Option.bind_some, dL_map h l, Option.map_some]
def dStroke : List AV → Option SStroke
  | [.int .i64 a, .bool b] => some ⟨a, b⟩
  | _ => none
def dStep : List AV → Option SStep
  | [.ro ss, .int .i64 w] => (dL dStroke ss).map fun l => ⟨l, w⟩
  | _ => none
def dTravel : List AV → Option STravel
  | [.int .i64 a, .int .i64 b, .int .i64 c, .int .i64 d] => some ⟨⟨a, b⟩, ⟨c, d⟩⟩
  | _ => none
/-- what slots yields, as values -/
def C70 (y : Int × SSlot) : List AV := [.int .i64 y.1, .agg [.int .i64 y.2.Begin.Low, .int .i64 y.2.Begin.High, .int .i64 y.2.Moved.Low, .int .i64 y.2.Moved.High, .int .i64 y.2.End.Low, .int .i64 y.2.End.High]]
def gen17 (f : Nat) (cap : List AV) : Option (List (List AV)) :=
  match cap with
  | [.pro [.int .i64 n, .ro ss], .pro [.ro ts]] => if f = 70 then (dL dStep ss).bind fun l => (dL dTravel ts).bind fun p => (gl70 n l p).map fun ys => ys.map C70 else none
  | _ => none
end G17
