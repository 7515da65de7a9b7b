/-
  Digests: the program's and the reference's, as one plain function. Own work; no condition.
-/
import Derived.Test.YtkaodeodiakldaaWC
namespace Go.Vg.Ytkaodeodiakldaa
open Go.Vg Go.Proofs

theorem brT {A B : Prop} : br true A B = A := rfl
theorem brF {A B : Prop} : br false A B = B := rfl

theorem wrap_i {z : Int} (h1 : -9223372036854775808 ≤ z) (h2 : z < 9223372036854775808) : IntKind.i64.wrap z = z := by
  simp [IntKind.wrap, IntKind.bits, IntKind.signed]; omega
theorem wrap_u {z : Int} (h1 : 0 ≤ z) (h2 : z < 18446744073709551616) : IntKind.u64.wrap z = z := by
  simp [IntKind.wrap, IntKind.bits, IntKind.signed]; omega
theorem wrap_u0 (z : Int) : 0 ≤ IntKind.u64.wrap z ∧ IntKind.u64.wrap z < 18446744073709551616 := by
  simp [IntKind.wrap, IntKind.bits, IntKind.signed]; omega

theorem inbT {i n : Int} (h1 : 0 ≤ i) (h2 : i < n) : inb i n = true := by
  unfold inb; rw [decide_eq_true h1]; exact decide_eq_true h2

/-- One byte. -/
def stepD (d b : Int) : Int := IntKind.u64.wrap (xorI IntKind.u64 d b * 1099511628211)
def eightD : Nat → Int → Int → Int
  | 0, d, _ => d
  | m + 1, d, x => eightD m (stepD d (x.tmod 256)) (IntKind.u64.wrap (x.tdiv 256))
def numS (r : Record) : List Int := [r.at_, r.kind, r.a, r.p.flow, r.p.sub, r.p.number, r.p.data, r.p.size, r.p.sent, (if r.p.able then 1 else 0) + (if r.p.marked then 2 else 0)]
def foldD (d : Int) : List Int → Int
  | [] => d
  | n :: r => foldD (eightD 8 d (IntKind.u64.wrap n)) r
def digS (d : Int) (r : Record) : Int := foldD d (numS r)

theorem V49_spec {r : Record} {K : List Int → Prop} (h : K (numS r)) : V49 r K := by
  rw [V49_eq]
  unfold B49 s_49_4
  have e : IntKind.i64.wrap (1 + 2) = 3 := by decide
  have e' : IntKind.i64.wrap (0 + 2) = 2 := by decide
  rcases h1 : r.p.able <;> rcases h2 : r.p.marked <;> simp only [br, e, e'] <;> simpa [numS, h1, h2] using h

theorem byteD {w : Int} (h1 : 0 ≤ w) (h2 : w < 18446744073709551616) (i : Nat) (hi : i < 8) :
    andI IntKind.u64 (w.fdiv (2 ^ min (8 * i) IntKind.u64.bits)) 255 = (w / 2 ^ (8 * i)).tmod 256 ∧ IntKind.u64.wrap ((w / 2 ^ (8 * i)).tdiv 256) = w / 2 ^ (8 * (i + 1)) := by
  obtain ⟨n, rfl⟩ := Int.eq_ofNat_of_zero_le h1
  have hm : min (8 * i) IntKind.u64.bits = 8 * i := by rw [show IntKind.u64.bits = 64 from rfl]; omega
  have hd : ((n : Int) / 2 ^ (8 * i)) = ((n / 2 ^ (8 * i) : Nat) : Int) := by simp
  have hle : n / 2 ^ (8 * i) ≤ n := Nat.div_le_self _ _
  have hf : (n : Int).fdiv (2 ^ min (8 * i) IntKind.u64.bits) = ((n / 2 ^ (8 * i) : Nat) : Int) := by
    rw [hm, Int.fdiv_eq_ediv_of_nonneg _ (by exact_mod_cast Nat.zero_le _)]; exact hd
  constructor
  · rw [hf, hd]
    unfold andI
    have u1 : uI IntKind.u64 ((n / 2 ^ (8 * i) : Nat) : Int) = n / 2 ^ (8 * i) := by
      unfold uI
      rw [show IntKind.u64.bits = 64 from rfl]
      generalize n / 2 ^ (8 * i) = q at *
      omega
    have u2 : uI IntKind.u64 255 = 2 ^ 8 - 1 := by decide
    have u3 : ∀ a b : Nat, Nat.land a b = a &&& b := fun _ _ => rfl
    rw [u1, u2, u3, Nat.and_two_pow_sub_one_eq_mod]
    generalize n / 2 ^ (8 * i) = q at *
    rw [wrap_u (by omega) (by omega), Int.tmod_eq_emod_of_nonneg (by omega)]
    omega
  · have e2 : n / 2 ^ (8 * (i + 1)) = n / 2 ^ (8 * i) / 256 := by
      rw [Nat.div_div_eq_div_mul, show 8 * (i + 1) = 8 * i + 8 by omega, Nat.pow_add]
    have hd2 : ((n : Int) / 2 ^ (8 * (i + 1))) = ((n / 2 ^ (8 * (i + 1)) : Nat) : Int) := by simp
    rw [hd2, hd, e2]
    generalize n / 2 ^ (8 * i) = q at *
    rw [Int.tdiv_eq_ediv_of_nonneg (by omega), wrap_u (by omega) (by omega)]
    omega

theorem l45_5 {w n x2 x6 : Int} {x5 : List Int} (hw : w = IntKind.u64.wrap n) {k2 : Int → Int → List Int → Int → Prop} : ∀ (m i : Nat) (d : Int), i + m = 8 → k2 (eightD m d (w / 2 ^ (8 * i))) x2 x5 x6 → l_45_5 (m + 1) d x2 n ((8 * i : Nat) : Int) x5 x6 k2
  | 0, i, d, hi, h => by
    unfold l_45_5
    rw [show i = 8 by omega]
    rw [show i = 8 by omega] at h
    exact h
  | m + 1, i, d, hi, h => by
    unfold l_45_5
    have h1 : ((8 * i : Nat) : Int) < 64 := by omega
    have h0 : leb 0 ((8 * i : Nat) : Int) = true := decide_eq_true (by omega)
    rw [decide_eq_true h1, h0]
    simp only [br]
    have b := wrap_u0 n
    rw [← hw] at b
    have hb := byteD b.1 b.2 i (by omega)
    rw [← hw, show ((8 * i : Nat) : Int).toNat = 8 * i by omega, hb.1, wrap_i (by omega) (by omega), show ((8 * i : Nat) : Int) + 8 = ((8 * (i + 1) : Nat) : Int) by omega]
    apply l45_5 hw m (i + 1) _ (by omega)
    rw [← hb.2]
    exact h

theorem l45_2 {x2 : Int} {l : List Int} (hl : l.length = 10) {k0 : Int → Int → Prop} : ∀ (m i : Nat) (d : Int), i + m = 10 → k0 (foldD d (l.drop i)) x2 → l_45_2 (m + 1) d x2 l i k0
  | 0, i, d, hi, h => by
    unfold l_45_2
    rw [show i = 10 by omega]
    rw [show i = 10 by omega, List.drop_of_length_le (by omega)] at h
    exact h
  | m + 1, i, d, hi, h => by
    unfold l_45_2
    have h1 : (i : Int) < 10 := by omega
    rw [decide_eq_true h1, show inb (i : Int) (↑10 : Int) = true from inbT (by omega) (by omega)]
    simp only [br]
    have e := List.drop_eq_getElem_cons (l := l) (i := i) (by omega)
    rw [e] at h
    have g : l.getD (i : Int).toNat 0 = l[i] := by simp [List.getD, show i < l.length by omega]
    rw [g]
    refine ⟨9, ?_⟩
    have := l45_5 (w := IntKind.u64.wrap l[i]) (n := l[i]) (x2 := x2) (x6 := i) (x5 := l) rfl (k2 := fun y8 y9 y10 y11 ↦ l_45_2 (m + 1) y8 y9 y10 (IntKind.i64.wrap (y11 + 1)) k0) 8 0 d rfl ?_
    · exact this
    · rw [wrap_i (by omega) (by omega), show (i : Int) + 1 = ((i + 1 : Nat) : Int) by omega]
      apply l45_2 hl m (i + 1) _ (by omega)
      have z : IntKind.u64.wrap l[i] / 2 ^ (8 * 0) = IntKind.u64.wrap l[i] := by simp
      rw [z]
      exact h

theorem V45_spec {d : Int} {r : Record} {K : Int → Prop} (h : K (digS d r)) : V45 d r K := by
  rw [V45_eq]
  unfold B45
  refine V49_spec ⟨11, ?_⟩
  exact l45_2 (l := numS r) rfl 10 0 d rfl h

end Go.Vg.Ytkaodeodiakldaa
