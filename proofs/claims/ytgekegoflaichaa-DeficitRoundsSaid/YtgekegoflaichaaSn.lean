/-
  The laws of chapter 22: DeficitRounds. Own work; no condition.
-/
import Derived.Test.YtgekegoflaichaaDe
import Derived.Test.YtgekegoflaichaaL
set_option maxRecDepth 10000
namespace Go.Vg.Ytgekegoflaichaa
open Go.Vg Go.Proofs

theorem fit_u8 {n : Int} (h : fitI .u8 n) : 0 ≤ n ∧ n ≤ 255 := by
  have h : (decide (IntKind.u8.min ≤ n) && decide (n ≤ IntKind.u8.max)) = true := h
  simp only [Bool.and_eq_true, decide_eq_true_eq] at h
  have h1 : IntKind.u8.min = 0 := by kernel_rfl
  have h2 : IntKind.u8.max = 255 := by kernel_rfl
  rw [h1, h2] at h
  exact h

/-- Packets, numbered for each flow. -/
structure Numbered (a : Int) (l : List Packet) (many : List Int) : Prop where
  len : many.length = 8
  ok : ∀ p ∈ l, isPacketS p = true ∧ p.size = a
  num : ∀ f : Nat, f < 8 → ∀ (j : Nat) (x : Packet), (l.filter fun p => p.flow == (f : Int))[j]? = some x → x.number = j
  cnt : ∀ f : Nat, f < 8 → many.getD f 0 = ((l.filter fun p => p.flow == (f : Int)).length : Int)

theorem numbered_snoc {a : Int} (ha : 100 ≤ a ∧ a ≤ 10000) {l : List Packet} (hl : l.length ≤ 1000) {many : List Int} (n : Numbered a l many) {f : Nat} (hf : f < 8) :
    Numbered a (l ++ [⟨f, 0, many.getD f 0, 0, a, 0, false, false⟩]) (many.set f (many.getD f 0 + 1)) := by
  have hc := n.cnt f hf
  have hle : (l.filter fun p => p.flow == (f : Int)).length ≤ l.length := List.length_filter_le _ _
  refine ⟨by simpa using n.len, fun p hp => ?_, fun g hg j x hx => ?_, fun g hg => ?_⟩
  · rcases List.mem_append.1 hp with h | h
    · exact n.ok p h
    · rw [List.mem_singleton.1 h]
      refine ⟨?_, rfl⟩
      simp only [isPacketS, Bool.and_eq_true, inS_iff]
      omega
  · rw [List.filter_append] at hx
    by_cases e : f = g
    · subst e
      simp only [List.filter, beq_self_eq_true] at hx
      rw [List.getElem?_append] at hx
      split at hx
      · exact n.num f hf j x hx
      · rename_i h
        have : j - (l.filter fun p => p.flow == (f : Int)).length = 0 := by
          rcases Nat.eq_zero_or_pos (j - (l.filter fun p => p.flow == (f : Int)).length) with h0 | h0
          · exact h0
          · rw [List.getElem?_eq_none (by simp; omega)] at hx; cases hx
        rw [this] at hx
        simp at hx
        subst hx
        show many.getD f 0 = _
        rw [hc]; omega
    · have : ((f : Int) == (g : Int)) = false := by rw [beq_eq_false_iff_ne]; omega
      simp only [List.filter, this, List.append_nil] at hx
      exact n.num g hg j x hx
  · rw [getD_set (by rw [n.len]; exact hf), List.filter_append, List.length_append]
    by_cases e : f = g
    · subst e
      rw [if_pos rfl]
      simp only [List.filter, beq_self_eq_true, List.length_singleton]
      omega
    · have : ((f : Int) == (g : Int)) = false := by rw [beq_eq_false_iff_ne]; omega
      rw [if_neg e, n.cnt g hg]
      simp only [List.filter, this, List.length_nil]; omega

theorem l87_spec {a : Int} (ha : 100 ≤ a ∧ a ≤ 10000) {fs : List Int} (hfs : ∀ x ∈ fs, 0 ≤ x ∧ x ≤ 255) (hl : fs.length ≤ 100) {x3 x4 : Bool} {k0 : Int → Bool → Bool → List Packet → Prop}
    (hk : ∀ (l : List Packet) (many : List Int), l.length = fs.length → Numbered a l many → k0 a x3 x4 l) :
    ∀ (d : List Int) (i : Nat) (many : List Int) (l : List Packet), fs.drop i = d → i ≤ fs.length → l.length = i → Numbered a l many → ∃ k, l_8_7 k a fs x3 x4 i many l k0 := by
  intro d
  induction d with
  | nil =>
    intro i many l hd hil hi n
    have : fs.length ≤ i := by simpa using hd
    exact ⟨1, br_false (by simp; omega) (hk l many (by omega) n)⟩
  | cons x r ih =>
    intro i many l hd hil hi n
    have hlt := lt_drop hd
    have hg : fs.getD (i : Int).toNat (env.d 5) = x := getD_drop (by simpa using hd)
    have hw : IntKind.i64.wrap ((i : Int) + 1) = ((i + 1 : Nat) : Int) := by rw [wrapi (by omega) (by omega)]; rfl
    have hin : inb (i : Int) (fs.length : Int) = true := inb_of (by omega) (by omega)
    have hx := hfs x (List.mem_of_mem_drop (i := i) (by rw [hd]; exact List.mem_cons_self))
    have hmod : (IntKind.i64.wrap x).tmod 8 = (((x % 8).toNat : Nat) : Int) ∧ (x % 8).toNat < 8 := by
      rw [wrapi (by omega) (by omega), Int.tmod_eq_emod_of_nonneg hx.1]; omega
    obtain ⟨f, hf⟩ : ∃ f, (x % 8).toNat = f := ⟨_, rfl⟩
    rw [hf] at hmod
    have hc := n.cnt f hmod.2
    have hle : (l.filter fun p => p.flow == (f : Int)).length ≤ l.length := List.length_filter_le _ _
    obtain ⟨k, hk⟩ := ih (i + 1) _ _ (drop_next hd) (by omega) (by simp [hi]) (numbered_snoc ha (by omega) n hmod.2)
    refine ⟨k + 1, br_true (by simpa using hlt) (br_true hin ?_)⟩
    rw [hg, hmod.1]
    have h8 : inb (f : Int) 8 = true := inb_of (by omega) (by omega)
    refine br_true h8 (V34_spec (br_true (room30 (by simp; omega)) (br_true h8 (br_true h8 ?_))))
    have ht : (f : Int).toNat = f := by omega
    rw [hw, ht, wrapi (n := many.getD f 0 + 1) (by omega) (by omega)]
    exact hk

theorem l817_spec {x1 : Bool} {out : List Packet} (hl : out.length ≤ 1000) (hr : InRounds out) (hf : ∀ p ∈ out, 0 ≤ p.flow ∧ p.flow < 8) {k2 : Bool → Bool → Prop} (hk : k2 x1 true) : ∀ (m i : Nat), 1 ≤ i → out.length ≤ i + m → ∃ k, l_8_17 k x1 true out i k2 := by
  intro m
  induction m with
  | zero => intro i hi hm; exact ⟨1, br_false (by simp; omega) hk⟩
  | succ m ih =>
    intro i hi hm
    by_cases hlt : i < out.length
    · have hw : IntKind.i64.wrap ((i : Int) + 1) = ((i + 1 : Nat) : Int) := by rw [wrapi (by omega) (by omega)]; rfl
      have hw1 : IntKind.i64.wrap ((i : Int) - 1) = ((i - 1 : Nat) : Int) := by rw [wrapi (by omega) (by omega)]; omega
      obtain ⟨k, hk⟩ := ih (i + 1) (by omega) (by omega)
      have hlt1 : i - 1 < out.length := by omega
      have hgb : out.getD (i : Int).toNat (env.d 30) = out[i] := getD_drop (List.drop_eq_getElem_cons hlt)
      have hga : out.getD ((i - 1 : Nat) : Int).toNat (env.d 30) = out[i - 1] := getD_drop (List.drop_eq_getElem_cons hlt1)
      have hkey := hr (i - 1) out[i - 1] out[i] (List.getElem?_eq_getElem hlt1) (by rw [show i - 1 + 1 = i by omega]; exact List.getElem?_eq_getElem hlt)
      unfold keyS at hkey
      have f1 := hf out[i - 1] (List.getElem_mem hlt1)
      have f2 := hf out[i] (List.getElem_mem hlt)
      refine ⟨k + 1, br_true (by simpa using hlt) ?_⟩
      rw [hw1]
      refine br_true (inb_of (by omega) (by omega)) (br_true (inb_of (by omega) (by omega)) (br_true rfl ?_))
      rw [hga, hgb, hw]
      by_cases e : out[i - 1].number < out[i].number
      · exact br_true (by simpa using e) hk
      · refine br_false (by simpa using e) (br_true (by simp; omega) ?_)
        rw [show decide (out[i - 1].flow < out[i].flow) = true by simp; omega]
        exact hk
    · exact ⟨1, br_false (by simp; omega) hk⟩

theorem pureDeficitRounds (a : Int) (fs : List Int) (_ : fitI .i64 a) (hfs : (∀ z0 ∈ fs, fitI .u8 z0) ∧ List.length fs ≤ 9223372036854775807) : V8 a fs (fun b => b = true) := by
  rw [V8_eq]; unfold B8
  refine V15_spec (br_of (fun _ => rfl) (fun e1 => br_of (fun _ => rfl) (fun e2 => br_of (fun _ => rfl) (fun e3 => ?_))))
  have ha : 100 ≤ a ∧ a ≤ 10000 := by simp at e1 e2; omega
  have hl : fs.length ≤ 100 := by simp at e3; omega
  unfold s_8_4
  refine l87_spec ha (fun x hx => fit_u8 (hfs.1 x hx)) hl (x3 := false) (x4 := true) (fun l many hlen n => ?_) fs 0 [0, 0, 0, 0, 0, 0, 0, 0] [] rfl (by omega) rfl ⟨rfl, fun p hp => by simp at hp, fun f _ j x hx => by simp at hx, fun f hf => ?_⟩
  rotate_left
  · have : f = 0 ∨ f = 1 ∨ f = 2 ∨ f = 3 ∨ f = 4 ∨ f = 5 ∨ f = 6 ∨ f = 7 := by omega
    rcases this with rfl | rfl | rfl | rfl | rfl | rfl | rfl | rfl <;> rfl
  obtain ⟨Q, hQ, fQ⟩ := filled_all l [] _ (filled_empty ha) (fun p h => (n.ok p h).1) (by simp; omega)
  rw [List.nil_append] at fQ
  refine V31_spec (V30_spec (q := emptyS a 500) (by omega) (valid_small (filled_empty ha).valid) ?_)
  rw [hQ]
  have hv8 : Q.vars.length = 8 := by rw [fQ.vars]; rfl
  have hd : ∀ i, i < 8 → (defS Q.vars).getD i 0 = 0 := fun i hi => by rw [fQ.vars]; exact (rep8 i hi).2
  have hmem : ∀ i, i < 8 → ∀ x ∈ Q.lists.getD i [], x.p.size = a := fun i hi x hx => by
    have : x.p ∈ (Q.lists.getD i []).map (·.p) := List.mem_map_of_mem hx
    rw [fQ.lists i hi] at this
    exact (n.ok x.p (List.mem_filter.1 this).1).2
  have hv0 : Q.vars.getD 0 0 = 0 := by rw [fQ.vars]; rfl
  have hv1 : Q.vars.getD 1 0 = 0 := by rw [fQ.vars]; rfl
  have R : Round a Q [] 0 := by
    refine ⟨fQ.valid, hv8, by rw [fQ.pol], ?_, hmem, fun i hi j x hx => ?_, fun h => by omega, fun x hx => by simp at hx, fun i x y hx => by simp at hx, fun p hp => by simp at hp⟩
    · refine ⟨fun i hi _ => ?_, fun i hi _ => ?_, fun i hi x hx => Int.le_of_eq (hmem i hi x hx)⟩
      · rw [hd i hi, hv0, hv1]
        have : turnS i 0 0 = 0 := by
          unfold turnS
          rw [if_neg]
          omega
        rw [this]; simp [bytesS]
      · rw [hd i hi, fQ.pol]; show (0 : Int) < a + a; omega
    · have h1 : ((Q.lists.getD i []).map (·.p))[j]? = some x.p := by rw [List.getElem?_map, hx]; rfl
      rw [fQ.lists i hi] at h1
      rw [n.num i hi j x.p h1]
      simp [bytesS]
  obtain ⟨r, out, h1, h2, h3, h4⟩ := rounds_all ha.1 l.length Q [] 0 R (by rw [fQ.sum]; exact Nat.le_refl _)
  refine V32_spec (n := l.length) (by omega) (valid_small fQ.valid) hv8 ?_
  rw [h1]
  have h2 : out.length = l.length := by simpa using h2
  refine br_false rfl (br_false (by simp [h2]) ?_)
  unfold s_8_16
  exact l817_spec (x1 := false) (k2 := fun _ b => b = true) (by omega) h3 h4 rfl out.length 1 (by omega) (by omega)

end Go.Vg.Ytgekegoflaichaa
