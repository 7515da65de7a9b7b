/-
  Rules of functions that take their first argument's row over. Own work; no condition.
-/
import Derived.Test.YtgekegoflaichaaVgFn
namespace Go.Vg
variable {P : Program} {E : Env}

/-- A rule over data; the first argument is a row of the call's own, and is given up. -/
def ruleE {X : Type} (E : Env) (e : Nat) (decA : List (SV E.T) → Option X) (V : X → (List (E.T e) → Prop) → Prop) : Rule E :=
  .row true e fun args K => match decA args with
    | some x => V x K
    | none => False

end Go.Vg
