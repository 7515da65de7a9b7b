/-
  Arguments that are read by a row's own reading are the executor's data. Own work; no condition.
-/
import Derived.Test.YtkaodeodiakldaaVgFn
import Derived.Deep.Slices
import Derived.OpenShut
import Derived.ChangeOld
import Derived.WideShapes
namespace Go.Vg
open Go.RowKit Go.Deep Go.WideShapes
variable {P : Program} {E : Env} {H : Type} {henc : TypeId × Value → H} {W : World}

/-- All blocks there are. -/
def top (W : World) (k : Nat) : Prop := k < W.heap.size

/-- Cells that are read at a type. -/
def Rd (henc : TypeId × Value → H) (P : Program) (W : World) (t : Nat) (cs : List Value) : Prop := ∃ fuel x, DataW.trod henc P W 0 (fun _ => true) true fuel t cs = some x

abbrev RC (E : Env) (W : World) := RelC E [] (fun _ => none) W (top W)
abbrev RS (E : Env) (W : World) := RelS E [] (fun _ => none) W (top W)

theorem rd_int {t : Nat} {k : IntKind} (tab : TabOk P E) (hu : (E.ti t).kind = .int k) {cs : List Value} (h : Rd henc P W t cs) : ∃ n, RC E W [.int k n] cs ∧ (Lit.int k n).wf = true := by
  obtain ⟨fuel, x, h⟩ := h
  obtain ⟨n, rfl, _, hw⟩ := DataW.trod_int (tab.int t k hu) h
  exact ⟨n, .cons rfl rfl (.int _ _) .nil, hw⟩

theorem rd_bool {t : Nat} (tab : TabOk P E) (hu : (E.ti t).kind = .bool) {cs : List Value} (h : Rd henc P W t cs) : ∃ n, RC E W [.bool n] cs := by
  obtain ⟨fuel, x, h⟩ := h
  obtain ⟨n, rfl, _⟩ := DataW.trod_bool (tab.bool t hu) h
  exact ⟨n, .cons rfl rfl (.bool _) .nil⟩

theorem rd_slice {t e : Nat} (tab : TabOk P E) (hu : (E.ti t).kind = .slice e) (he : E.has e = true) (ho : (E.ti e).ok = true) (hsz : (E.ti e).size = E.sz e) (hpos : 0 < E.sz e) {G : E.T e → Prop}
    (ih : ∀ cs, Rd henc P W e cs → ∃ y, RC E W (E.enc e y) cs ∧ G y) {cs : List Value} (h : Rd henc P W t cs) : ∃ l : List (E.T e), RC E W [.dat e l] cs ∧ (∀ y ∈ l, G y) ∧ l.length ≤ maxLen := by
  obtain ⟨fuel, x, h⟩ := h
  obtain ⟨i, hi, his, _⟩ := tab.info e ho
  have hc : P.cellsOf e = E.sz e := by simp [Program.cellsOf, hi, his, hsz]
  have hlt := DataW.trod_lt fuel t cs x h
  rcases open_slice (tab.slice t e hu) h with ⟨rfl, _⟩ | ⟨a, len, cap, m, n, D, Pl, rfl, _, hl, hm, hmm, rfl, hx⟩
  · exact ⟨[], .cons rfl rfl (.dat_nil e he) .nil, by simp, Nat.zero_le _⟩
  · have hmm : m = cap := by simpa using hmm
    rw [hc] at hx hlt
    obtain ⟨CS, hCS⟩ := choose_lt (α := List Value) (p := fun i cs' => W.cells? 0 (a.add (i * E.sz e)) (E.sz e) = some cs' ∧ DataW.trod henc P W 0 (fun _ => true) true n e cs' = some (D i, Pl i)) hx
    have : Inhabited (E.T e) := ⟨E.d e⟩
    obtain ⟨Y, hY⟩ := choose_lt (α := E.T e) (n := m) (p := fun i y => RC E W (E.enc e y) (CS i) ∧ G y) (fun i hi => ih (CS i) ⟨n, _, (hCS i hi).2⟩)
    refine ⟨(List.range len).map Y, .cons rfl rfl ?_ .nil, fun y hy => ?_, by simp; omega⟩
    · have hlen : ((List.range len).map Y).length = len := by simp
      have hget : ∀ i x, ((List.range len).map Y)[i]? = some x → i < len ∧ x = Y i := fun i x hx => by
        rw [List.getElem?_map] at hx
        obtain ⟨j, hj, rfl⟩ := Option.map_eq_some_iff.1 hx
        have := List.getElem?_eq_some_iff.1 hj
        obtain ⟨h1, h2⟩ := this
        simp at h1 h2
        subst h2
        exact ⟨h1, rfl⟩
      have := RelS.dat (E := E) (H := []) (σ := fun _ => none) (w := W) (S := top W) e ((List.range len).map Y) a cap CS he (fun hne => ?_) (by simpa using hl) (fun i x hx => ?_) (fun i x hx j v hv => ?_)
      · rw [hlen] at this; exact this
      · refine hlt (.cell a.block a.off) ?_
        have : 0 < len := by
          rcases Nat.eq_zero_or_pos len with rfl | h
          · simp at hne
          · exact h
        refine List.mem_append.2 (.inl ?_)
        refine List.mem_map.2 ⟨0, ?_, rfl⟩
        have : 0 < m * E.sz e := Nat.mul_pos (by omega) hpos
        simp; omega
      · obtain ⟨h1, rfl⟩ := hget i x hx
        exact (hY i (by omega)).1
      · obtain ⟨h1, rfl⟩ := hget i x hx
        obtain ⟨_, h3, h4⟩ := World.cells?_some (hCS i (by omega)).1
        have hj : j < (CS i).length := (List.getElem?_eq_some_iff.1 hv).1
        have := h4 j (by omega)
        rw [hv, add_add] at this
        exact this
    · obtain ⟨i, hi, rfl⟩ := List.mem_map.1 hy
      exact (hY i (by simp at hi; omega)).2

theorem rd_struct {t : Nat} {fs : List (Nat × Nat × Nat)} (tab : TabOk P E) (hu : (E.ti t).kind = .struct fs) (ho : (E.ti t).ok = true) {cs : List Value} (h : Rd henc P W t cs) :
    cs.length = (E.ti t).size ∧ ∀ p ∈ fs, Rd henc P W p.2.2 ((cs.drop p.1).take p.2.1) := by
  obtain ⟨fuel, x, h⟩ := h
  obtain ⟨fds, h1, _, h2⟩ := tab.struct t fs hu
  obtain ⟨i, hi, his, _⟩ := tab.info t ho
  obtain ⟨xs, n, rfl, rfl, hl, hxs, hf⟩ := DataW.trod_struct h1 h
  refine ⟨by rw [hl]; simp [Program.cellsOf, hi, his], fun p hp => ?_⟩
  have nth : ∀ l : List (Nat × Nat × Nat), p ∈ l → ∃ j, nthL l j = some p := by
    intro l hp
    induction l with
    | nil => cases hp
    | cons q r ih =>
      rcases List.mem_cons.1 hp with rfl | hp
      · exact ⟨0, rfl⟩
      · obtain ⟨j, hj⟩ := ih hp; exact ⟨j + 1, hj⟩
  obtain ⟨j, hj⟩ := nth fs hp
  obtain ⟨f, i', hfj, rfl', rfl'', hi', hin⟩ := h2 j p.1 p.2.1 p.2.2 hj
  have := hf j f hfj
  have hcf : P.cellsOf f.type = p.2.1 := by simp [Program.cellsOf, rfl'', hi', hin]
  rw [hcf, rfl', rfl''] at this
  have hjx : j < xs.length := by rw [hxs]; exact (Array.getElem?_eq_some_iff.1 hfj).1
  exact ⟨n, xs[j], by rw [this, List.getElem?_eq_getElem hjx]⟩

theorem rd_array {t n e : Nat} {k : IntKind} (tab : TabOk P E) (hu : (E.ti t).kind = .array n e) (he : (E.ti e).kind = .int k) (ho : (E.ti e).ok = true) (hsz : (E.ti e).size = 1) (hot : (E.ti t).ok = true) (hst : (E.ti t).size = n) {cs : List Value} (h : Rd henc P W t cs) :
    ∃ l : List Int, RC E W [.arr k n l] cs ∧ l.length = n ∧ ∀ x ∈ l, (Lit.int k x).wf = true := by
  obtain ⟨fuel, x, h⟩ := h
  obtain ⟨i, hi, his, _⟩ := tab.info e ho
  obtain ⟨i2, hi2, his2, _⟩ := tab.info t hot
  have hc : P.cellsOf e = 1 := by simp [Program.cellsOf, hi, his, hsz]
  have hct : P.cellsOf t = n := by simp [Program.cellsOf, hi2, his2, hst]
  obtain ⟨xs, m, rfl, rfl, hl, hxs, hf⟩ := DataW.trod_array (tab.array t n e hu) h
  rw [hct] at hl
  have key : ∀ i, i < n → ∃ z : Int, cs[i]? = some (.int k z) ∧ (Lit.int k z).wf = true := fun i hi => by
    have h1 := hf i hi
    rw [hc] at h1
    have hix : i < xs.length := by omega
    rw [List.getElem?_eq_getElem hix] at h1
    obtain ⟨z, hz, _, hw⟩ := DataW.trod_int (tab.int e k he) h1
    refine ⟨z, ?_, hw⟩
    have := congrArg (fun l => l[0]?) hz
    simp at this
    exact this
  obtain ⟨Z, hZ⟩ := choose_lt (α := Int) key
  have hcs : cs = ((List.range n).map Z).map (Value.int k) := by
    apply List.ext_getElem?
    intro i
    by_cases hi : i < n
    · rw [(hZ i hi).1]; simp [hi]
    · rw [List.getElem?_eq_none (by omega), List.getElem?_eq_none (by simp; omega)]
  refine ⟨(List.range n).map Z, ?_, by simp, fun x hx => ?_⟩
  · have := RelC.arr (E := E) (H := []) (σ := fun _ => none) (w := W) (S := top W) (k := k) (n := n) (l := (List.range n).map Z) (r := []) (vs := []) (by simp) .nil
    rw [List.append_nil, ← hcs] at this
    exact this
  · obtain ⟨i, hi, rfl⟩ := List.mem_map.1 hx
    exact (hZ i (by simpa using hi)).2

/-- Segments of cells, one behind the other. -/
theorem rc_append {s r : List (SV E.T)} {vs us : List Value} : RC E W s vs → RC E W r us → RC E W (s ++ r) (vs ++ us)
  | .nil, h => h
  | .cons h0 h00 h1 h2, h => .cons h0 h00 h1 (rc_append h2 h)
  | .arr h1 h2, h => by rw [List.append_assoc]; exact .arr h1 (rc_append h2 h)

theorem rc_seg {s r : List (SV E.T)} {cs : List Value} {a n b : Nat} (h1 : RC E W s ((cs.drop a).take n)) (hb : a + n = b) (h2 : RC E W r (cs.drop b)) : RC E W (s ++ r) (cs.drop a) := by
  have : (cs.drop a).take n ++ cs.drop b = cs.drop a := by
    rw [← hb, ← List.drop_drop, List.take_append_drop]
  rw [← this]
  exact rc_append h1 h2
theorem rc_end {cs : List Value} {a : Nat} (h : cs.length = a) : RC E W [] (cs.drop a) := by
  rw [← h, List.drop_length]; exact .nil

/-! ### Arguments -/
theorem arg_int {t : Nat} {k : IntKind} (tab : TabOk P E) (hu : (E.ti t).kind = .int k) {v : Value} (hv : Value.okWide P W .any 0 t v) (h : Rd henc P W t v.cells.toList) : ∃ n, RS E W (.int k n) v ∧ (Lit.int k n).wf = true := by
  obtain ⟨n, rfl⟩ := okWide_int (tab.int t k hu) hv
  obtain ⟨m, h1, h2⟩ := rd_int tab hu h
  cases h1 with
  | cons _ _ h3 _ => exact ⟨m, h3, h2⟩
theorem arg_bool {t : Nat} (tab : TabOk P E) (hu : (E.ti t).kind = .bool) {v : Value} (hv : Value.okWide P W .any 0 t v) (h : Rd henc P W t v.cells.toList) : ∃ n, RS E W (.bool n) v := by
  obtain ⟨n, rfl⟩ := okWide_bool (tab.bool t hu) hv
  exact ⟨n, .bool n⟩
theorem arg_slice {t e : Nat} (tab : TabOk P E) (hu : (E.ti t).kind = .slice e) {v : Value} (hv : Value.okWide P W .any 0 t v) {s : SV E.T} (h : RC E W [s] v.cells.toList) : RS E W s v := by
  obtain ⟨a, n, c, rfl⟩ := okWide_slice (tab.slice t e hu) hv
  change RelC E [] _ W _ [s] [.slice a n c] at h
  generalize hu : [Value.slice a n c] = us at h
  cases h with
  | cons h0 h00 h1 h2 => cases hu; exact h1
  | arr h1 h2 =>
    rename_i k m l vs
    cases h2
    rcases l with _ | ⟨x, l⟩ <;> simp at hu
theorem arg_struct {t : Nat} {fs : List (Nat × Nat × Nat)} (tab : TabOk P E) (hu : (E.ti t).kind = .struct fs) {v : Value} (hv : Value.okWide P W .any 0 t v) {ss : List (SV E.T)} (h : RC E W ss v.cells.toList) : RS E W (.agg ss) v := by
  obtain ⟨fds, h1, _⟩ := tab.struct t fs hu
  obtain ⟨cs, rfl, _⟩ := okWide_struct h1 hv
  exact .agg _ _ h

theorem arg_array {t n e : Nat} (tab : TabOk P E) (hu : (E.ti t).kind = .array n e) {v : Value} (hv : Value.okWide P W .any 0 t v) {ss : List (SV E.T)} (h : RC E W ss v.cells.toList) : RS E W (.agg ss) v := by
  simp only [Value.okWide, tab.array t n e hu] at hv
  obtain ⟨cs, rfl, _⟩ := hv
  exact .agg _ _ h

/-- A law's own end: it returns true, and below nothing has turned. -/
theorem law_end {X Y : Type} {f : Nat} {decA : List (SV E.T) → Option X} {encR : Y → List (SV E.T)} {V : X → (Y → Prop) → Prop} (hr : RuleOk P E f (ruleF E decA encR V)) {args : List (SV E.T)} {x : X} (hd : decA args = some x) {K : Y → Prop} (hV : V x K)
    {vals : List Value} (hrel : RelL E [] (fun _ => none) W (top W) args vals) :
    Calls P f vals.toArray W fun e w' => ∃ v y, e = .returned v ∧ K y ∧ Go.RowKit.Below W.heap.size W w' ∧ RelS E [] (fun _ => none) w' (fun k => (false = false ∧ top W k) ∨ (W.heap.size ≤ k ∧ k < w'.heap.size)) (tupV (encR y)) v := by
  refine (hr args K (by show (match decA args with | some x => V x K | none => False); rw [hd]; exact hV) (top W) W vals (fun k h => h) hrel).mono ?_
  rintro e w' ⟨v, y, rfl, _, hk, hb, hrel⟩
  exact ⟨v, y, rfl, hk, hb.kit, hrel⟩

end Go.Vg
