/-
  A function's rule out of the walk of its body. Own work; no condition.
-/
import Derived.Test.YtkaodeodiakldaaVgX
namespace Go.Vg
open Go.RowKit
variable {P : Program} {E : Env}

/-- The state at a function's entry. -/
def entry (E : Env) (fn : Func) (args : List (SV E.T)) : St E.T := { tmps := args ++ List.replicate (fn.ntmps - args.length) (.tup []), heap := [], next := 0, saved := [] }

/-- What is asked at a function's end. -/
def finB (E : Env) (fn : Func) (K : SV E.T → Prop) (ex : Ex) (st : St E.T) : Prop :=
  match ex with
  | .exit _ => False
  | _ => match resB E st.heap st.tmps fn.results.toList with
    | some vs => match dataArgs E st.heap vs with
      | some vs' => match isDataV (tupV vs') with
        | true => K (tupV vs')
        | false => False
      | none => False
    | none => False

theorem rule_gen (tab : TabOk P E) {C : Ctx E} (hC : CtxOk P E C) (hb : BodiesOk P E C) {f : Nat} {fn : Func} {body : Code} (hfn : E.fn f = some fn) (hbody : fn.body = some body) (hp : PiecesOk P E C f body) (n : Nat)
    {r : List (SV E.T) → (SV E.T → Prop) → Prop} (hr : ∀ args K, r args K → args.length ≤ fn.ntmps ∧ vcCode E C n f body (entry E fn args) (finB E fn K)) : RuleOk P E f (.gen r) := by
  intro args K hrk S w vals hS hrel
  obtain ⟨hlen, hvc⟩ := hr args K hrk
  obtain ⟨hP, hname⟩ := tab.fn f fn hfn
  refine (callsIn_wide (n := 0)).1 (callsIn_of_wp_marks (F := Fr none) hP hbody trivial ?_ rfl)
  have hl := hrel.len
  have hrel' : RelL E [] (fun _ => none) w (sup E w.heap.size S [] (fun _ => none) w) args vals :=
    hrel.goes (goes_more (fun k hk => ⟨⟨.inl hk, hS k hk, fun id b h => by simp [look] at h⟩, rfl⟩) (fun k _ => rfl))
  have g : Gam E w.heap.size S w ⟨[], []⟩ (fun _ => none) (entry E fn args) { tmps := vals.toArray ++ Array.replicate (fn.ntmps - vals.toArray.size) undef, defers := [] } w := by
    refine ⟨Below.refl _ _, Nat.le_refl _, ⟨[], rfl, List.nodup_nil, fun D hD => by cases hD⟩, ?_, .nil, fun id b h => by simp [entry, look] at h, fun i j b c k h => by simp [entry, look] at h, fun id h => by simp [entry, look] at h⟩
    have := hrel'.append (RelL.rep (undef_rel (E := E) (H := []) (σ := fun _ => none) (w := w) (S := sup E w.heap.size S [] (fun _ => none) w)) (fn.ntmps - args.length))
    simpa [entry, hl] using this
  refine wpIn_mono (vcCode_sound tab hC (draw_ok tab hC) hb n none _ _ _ _ _ _ _ _ _ _ _ (.inl rfl) hp g hvc) ?_
  rintro e a2 w2 ⟨ex, st2, σ2, hex, g2, hk⟩
  have fin : (match resB E st2.heap st2.tmps fn.results.toList with
    | some vs => match dataArgs E st2.heap vs with
      | some vs' => match isDataV (tupV vs') with
        | true => K (tupV vs')
        | false => False
      | none => False
    | none => False) → LeavesInM (Fr none) 0 P fn a2.tmps (fun e w' => ∃ v' s, e = .returned v' ∧ isDataV s = true ∧ K s ∧ Below w.heap.size w w' ∧ RelS E [] (fun _ => none) w' (fun k => S k ∨ (w.heap.size ≤ k ∧ k < w'.heap.size)) s v') a2.defers .returning w2 := by
    intro hk
    split at hk
    · rename_i vs hvs
      split at hk
      · rename_i vs' hvs'
        split at hk
        · rename_i hd
          refine leave_ok g2 (fun w3 g3 => ?_)
          obtain ⟨us, h1, h2⟩ := res_run tab g3 _ hvs
          have hids := rowIdsH_free g3 h2
          obtain ⟨_, go3, hlive, _, _, _, _, _⟩ := g3.deads (rowIdsH st2.heap vs) hids
          have hdat := dataArgs_rel tab g3 h2 hvs' go3 (fun j b hj => ⟨(hlive j b hj).1, b, (hlive j b hj).2⟩)
          refine ⟨(if hh : us.toArray.size = 1 then us.toArray[0] else .tuple us.toArray), ?_, _, tupV vs', rfl, hd, hk, g3.below, ?_⟩
          · rw [results_eq]
            simp only [Sem.run_bind, Sem.run_map, h1, Result.andThen_ok, Sem.run_pure]
          · exact (tupV_rel hdat).goes (goes_more (fun k hk => ⟨hk.1.elim (fun h => .inl h) (fun h => .inr ⟨h, hk.2.1⟩), rfl⟩) (fun k _ => rfl))
        · exact hk.elim
      · exact hk.elim
    · exact hk.elim
  cases ex with
  | normal => cases e <;> first | exact hex.elim | exact fin hk
  | ret => cases e <;> first | exact hex.elim | exact fin hk
  | exit i => exact hk.elim

end Go.Vg
