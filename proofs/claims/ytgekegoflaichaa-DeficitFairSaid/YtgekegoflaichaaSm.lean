/-
  The laws of chapter 22: DeficitFair. Own work; no condition.
-/
import Derived.Test.YtgekegoflaichaaDd
import Derived.Test.YtgekegoflaichaaM
set_option maxRecDepth 10000
namespace Go.Vg.Ytgekegoflaichaa
open Go.Vg Go.Proofs

theorem l333_spec {f j : Int} {l : List Packet} (hl : l.length ≤ 1000000) (hb : ∀ p ∈ l, 1 ≤ p.size ∧ p.size ≤ 10000) {k0 : Int → Int → Prop} : ∀ (d : List Packet) (i : Nat) (acc : Int), l.drop i = d → 0 ≤ acc → acc + 10000 * d.length ≤ 10000000000 → k0 j (acc + bytesS d f) →
    ∃ k, l_33_3 k l f j acc i k0 := by
  intro d
  induction d with
  | nil =>
    intro i acc hd h0 h2 hk
    have : l.length ≤ i := by simpa using hd
    refine ⟨1, br_false (by simp; omega) ?_⟩
    simpa [bytesS] using hk
  | cons x r ih =>
    intro i acc hd h0 h2 hk
    have hlt := lt_drop hd
    have hg : l.getD (i : Int).toNat (env.d 30) = x := getD_drop (by simpa using hd)
    have hw : IntKind.i64.wrap ((i : Int) + 1) = ((i + 1 : Nat) : Int) := by rw [wrapi (by omega) (by omega)]; rfl
    have hin : inb (i : Int) (l.length : Int) = true := inb_of (by omega) (by omega)
    have hx : x ∈ l := List.mem_of_mem_drop (i := i) (by rw [hd]; exact List.mem_cons_self)
    have hsz := hb x hx
    simp only [List.length_cons] at h2
    simp only [bytesS] at hk
    by_cases e : x.flow = f
    · rw [if_pos e] at hk
      obtain ⟨k, hk⟩ := ih (i + 1) (acc + x.size) (drop_next hd) (by omega) (by omega) (by rw [Int.add_assoc]; exact hk)
      refine ⟨k + 1, br_true (by simpa using hlt) (br_true hin ?_)⟩
      rw [hg]
      refine br_true (by simpa using e) (br_true hin ?_)
      rw [hw, wrapi (n := acc + x.size) (by omega) (by omega)]
      exact hk
    · rw [if_neg e, Int.zero_add] at hk
      obtain ⟨k, hk⟩ := ih (i + 1) acc (drop_next hd) (by omega) (by omega) hk
      refine ⟨k + 1, br_true (by simpa using hlt) (br_true hin ?_)⟩
      rw [hg]
      refine br_false (by simpa using e) ?_
      rw [hw]
      exact hk

theorem V33_spec {l : List Packet} {f : Int} (hl : l.length ≤ 1000000) (hb : ∀ p ∈ l, 1 ≤ p.size ∧ p.size ≤ 10000) {K : Int → Prop} (h : K (bytesS l f)) : V33 l f K := by
  rw [V33_eq]; unfold B33
  exact l333_spec (j := 0) (k0 := fun _ => K) hl hb l 0 0 rfl (by omega) (by omega) (by simpa using h)

theorem l66_spec {a : Int} {l : List Packet} (hl : l.length ≤ 1000000) {many : Int} {b up : Bool} {kr : Bool → Prop} {k0 : Int → List Packet → Int → Bool → Bool → Int → Prop} (hkr : kr up)
    (hk : ∀ L : Int, (∀ p ∈ l, isPacketS p = true ∧ p.size ≤ L) → 0 ≤ L → L ≤ 10000 → k0 a l many b up L) :
    ∀ (d : List Packet) (i : Nat) (L : Int), l.drop i = d → 0 ≤ L → L ≤ 10000 → (∀ p ∈ l.take i, isPacketS p = true ∧ p.size ≤ L) → ∃ k, l_6_6 k a l many b up L i kr k0 := by
  intro d
  induction d with
  | nil =>
    intro i L hd h0 h1 hp
    have : l.length ≤ i := by simpa using hd
    rw [List.take_of_length_le this] at hp
    exact ⟨1, br_false (by simp; omega) (hk L hp h0 h1)⟩
  | cons x r ih =>
    intro i L hd h0 h1 hp
    have hlt := lt_drop hd
    have hg : l.getD (i : Int).toNat (env.d 30) = x := getD_drop (by simpa using hd)
    have hw : IntKind.i64.wrap ((i : Int) + 1) = ((i + 1 : Nat) : Int) := by rw [wrapi (by omega) (by omega)]; rfl
    have hin : inb (i : Int) (l.length : Int) = true := inb_of (by omega) (by omega)
    by_cases e : isPacketS x = true
    · have hsz := packet_size e
      have htake : l.take (i + 1) = l.take i ++ [x] := by
        rw [List.take_add_one]
        have : l[i]? = some x := by
          have := congrArg (fun l => l[0]?) hd
          simpa using this
        rw [this]; rfl
      obtain ⟨k, hk⟩ := ih (i + 1) (if x.size > L then x.size else L) (drop_next hd) (by split <;> omega) (by split <;> omega) (fun p hp' => by
        rw [htake] at hp'
        rcases List.mem_append.1 hp' with h | h
        · have := hp p h
          refine ⟨this.1, ?_⟩
          split <;> omega
        · rw [List.mem_singleton.1 h]
          refine ⟨e, ?_⟩
          split <;> omega)
      refine ⟨k + 1, br_true (by simpa using hlt) (br_true hin ?_)⟩
      rw [hg]
      refine V26_spec ?_
      rw [e]
      refine br_false rfl (br_true hin ?_)
      rw [hw]
      exact hk
    · have e : isPacketS x = false := by simpa using e
      refine ⟨1, br_true (by simpa using hlt) (br_true hin ?_)⟩
      rw [hg]
      refine V26_spec ?_
      rw [e]
      exact br_true rfl hkr

theorem l620_spec {a L : Int} (ha : 100 ≤ a ∧ a ≤ 10000) (hL : 0 ≤ L ∧ L ≤ 10000) {x2 x3 : Bool} {out : List Packet} (hl : out.length ≤ 1000000) (hb : ∀ p ∈ out, 1 ≤ p.size ∧ p.size ≤ 10000) {a1 a2 a3 a4 a5 sd : Int} {ls : List (List Queued)} (hls : ls.length = 8) {v : List Int} {kr : Bool → Prop}
    {k4 : Int → Bool → Bool → Int → List Packet → Int → Int → Int → Int → Int → Int → List (List Queued) → List Int → Int → Prop} {i : Nat} (hi : i < 8)
    (hfair : ∀ k : Nat, k < 8 → ls.getD i [] ≠ [] → ls.getD k [] ≠ [] → bytesS out i - bytesS out k ≤ 2 * a + L ∧ -2 * a - L ≤ bytesS out i - bytesS out k)
    (hk : k4 a x2 x3 L out i a1 a2 a3 a4 a5 ls v sd) : ∀ (m j : Nat), j + m = i → ∃ k, l_6_20 k a x2 x3 L out i j a1 a2 a3 a4 a5 ls v sd kr k4 := by
  intro m
  induction m with
  | zero => intro j hj; exact ⟨1, br_false (by simp; omega) hk⟩
  | succ m ih =>
    intro j hj
    have hw : IntKind.i64.wrap ((j : Int) + 1) = ((j + 1 : Nat) : Int) := by rw [wrapi (by omega) (by omega)]; rfl
    obtain ⟨k, hk⟩ := ih (j + 1) (by omega)
    have hk : l_6_20 k a x2 x3 L out i (IntKind.i64.wrap ((j : Int) + 1)) a1 a2 a3 a4 a5 ls v sd kr k4 := by rw [hw]; exact hk
    refine ⟨k + 1, br_true (by simp; omega) (V33_spec hl hb (V33_spec hl hb (br_true (inb_of (by omega) (by omega)) (br_of (fun e => ?_) (fun _ => hk)))))⟩
    refine br_true (inb_of (by omega) (by omega)) (br_of (fun e2 => ?_) (fun _ => hk))
    have e : ls.getD i [] ≠ [] := fun h0 => by
      have e : (decide (((ls.getD i []).length : Int) > 0)) = true := e
      rw [h0] at e; cases e
    have e2 : ls.getD j [] ≠ [] := fun h0 => by
      have e2 : (decide (((ls.getD j []).length : Int) > 0)) = true := e2
      rw [h0] at e2; cases e2
    have hf := hfair j (by omega) e e2
    have b1 := bytes_bound (f := i) hb
    have b2 := bytes_bound (f := j) hb
    have w1 : IntKind.i64.wrap (bytesS out i - bytesS out j) = bytesS out i - bytesS out j := wrapi (by omega) (by omega)
    have w2 : IntKind.i64.wrap (IntKind.i64.wrap (2 * a) + L) = 2 * a + L := by rw [wrapi (n := 2 * a) (by omega) (by omega), wrapi (by omega) (by omega)]
    have w3 : IntKind.i64.wrap (IntKind.i64.wrap (-2 * a) - L) = -2 * a - L := by rw [wrapi (n := -2 * a) (by omega) (by omega), wrapi (by omega) (by omega)]
    rw [w1, w2, w3]
    exact br_false (by simp; omega) (br_false (by simp; omega) hk)

theorem l617_spec {a L : Int} (ha : 100 ≤ a ∧ a ≤ 10000) (hL : 0 ≤ L ∧ L ≤ 10000) {x2 x3 : Bool} {out : List Packet} (hl : out.length ≤ 1000000) (hb : ∀ p ∈ out, 1 ≤ p.size ∧ p.size ≤ 10000) {a1 a2 a3 a4 a5 sd : Int} {ls : List (List Queued)} (hls : ls.length = 8) {v : List Int} {kr : Bool → Prop} {k2 : Bool → Bool → Prop}
    (hfair : ∀ i k : Nat, i < 8 → k < 8 → ls.getD i [] ≠ [] → ls.getD k [] ≠ [] → bytesS out i - bytesS out k ≤ 2 * a + L ∧ -2 * a - L ≤ bytesS out i - bytesS out k)
    (hk : k2 x2 x3) : ∀ (m i : Nat), i + m = 8 → ∃ k, l_6_17 k a x2 x3 L out i a1 a2 a3 a4 a5 ls v sd kr k2 := by
  intro m
  induction m with
  | zero => intro i hi; exact ⟨1, br_false (by simp; omega) hk⟩
  | succ m ih =>
    intro i hi
    have hw : IntKind.i64.wrap ((i : Int) + 1) = ((i + 1 : Nat) : Int) := by rw [wrapi (by omega) (by omega)]; rfl
    obtain ⟨k, hk⟩ := ih (i + 1) (by omega)
    refine ⟨k + 1, br_true (by simp; omega) ?_⟩
    refine l620_spec ha hL hl hb hls (by omega) (fun k hk' => hfair i k (by omega) hk') ?_ i 0 (by omega)
    rw [hw]; exact hk

theorem pureDeficitFair (a : Int) (l : List Packet) (many : Int) (_ : fitI .i64 a) (_ : (∀ z0 ∈ l, fitPacket z0) ∧ List.length l ≤ 9223372036854775807) (_ : fitI .i64 many) : V6 a l many (fun b => b = true) := by
  rw [V6_eq]; unfold B6
  refine V15_spec (br_of (fun _ => rfl) (fun e1 => br_of (fun _ => rfl) (fun e2 => br_of (fun _ => rfl) (fun e3 => br_of (fun _ => rfl) (fun e4 => ?_)))))
  have ha : 100 ≤ a ∧ a ≤ 10000 := by simp at e1 e2; omega
  have hl : l.length ≤ 200 := by simp at e3; omega
  have hm : 0 ≤ many := by simp at e4; omega
  unfold s_6_4
  refine l66_spec (kr := fun b => b = true) (up := true) (by omega) rfl (fun L hp h0 h1 => ?_) l 0 0 rfl (by omega) (by omega) (fun p hp => by simp at hp)
  obtain ⟨Q, hQ, fQ⟩ := filled_all l [] _ (filled_empty ha) (fun p h => (hp p h).1) (by simp; omega)
  rw [List.nil_append] at fQ
  refine V31_spec (V30_spec (q := emptyS a 500) (by omega) (valid_small (filled_empty ha).valid) ?_)
  rw [hQ]
  have hw : IntKind.i64.wrap ((l.length : Int) + 1) = ((l.length + 1 : Nat) : Int) := by rw [wrapi (by omega) (by omega)]; rfl
  have hmod : many.tmod (IntKind.i64.wrap ((l.length : Int) + 1)) = (((many % ((l.length + 1 : Nat) : Int)).toNat : Nat) : Int) ∧ (many % ((l.length + 1 : Nat) : Int)).toNat ≤ l.length := by
    rw [hw, Int.tmod_eq_emod_of_nonneg hm]
    have := Int.emod_nonneg many (show (((l.length + 1 : Nat) : Int)) ≠ 0 by omega)
    have := Int.emod_lt_of_pos many (show (0 : Int) < ((l.length + 1 : Nat) : Int) by omega)
    omega
  have hv8 : Q.vars.length = 8 := by rw [fQ.vars]; rfl
  have hinv : InvQ L (fun i => bytesS [] i) 0 Q := by
    unfold InvQ
    have hd : ∀ i, i < 8 → (defS Q.vars).getD i 0 = 0 := fun i hi => by rw [fQ.vars]; exact (rep8 i hi).2
    refine ⟨fun i hi _ => ?_, fun i hi _ => ?_, fun i hi x hx => ?_⟩
    · rw [hd i hi, fQ.vars]
      have : turnS i ((List.replicate 8 0).getD 0 0) ((List.replicate 8 0).getD 1 0) = 0 := by
        unfold turnS
        rw [if_neg]
        show ¬ ((i : Int) < 0 ∨ ((i : Int) = 0 ∧ (0 : Int) = 1))
        omega
      rw [this]; simp [bytesS]
    · rw [hd i hi, fQ.pol]; show (0 : Int) < a + L; omega
    · have : x.p ∈ (Q.lists.getD i []).map (·.p) := List.mem_map_of_mem hx
      rw [fQ.lists i hi] at this
      exact (hp x.p (List.mem_filter.1 this).1).2
  obtain ⟨r, out, c, h2, h3, h4, h5, h6, h7, h8⟩ := taken_inv (L := L) (many % ((l.length + 1 : Nat) : Int)).toNat Q [] 0 fQ.valid hv8 hinv (by rw [fQ.sum]; exact hmod.2) (by simp)
  have hnz : (!(IntKind.i64.wrap ((l.length : Int) + 1) == 0)) = true := by
    rw [hw]; simp; omega
  refine br_true hnz ⟨(r, out), ?_, ?_⟩
  · rw [hmod.1]
    exact V32_spec (by omega) (valid_small fQ.valid) hv8 (by rw [h2])
  refine br_false rfl (br_false ?_ (br_true hnz (br_false ?_ ?_)))
  · show ((r.lists.length : Int) != 8) = false
    rw [h4.len]; rfl
  · rw [hmod.1, h3]; simp
  unfold s_6_16
  refine l617_spec (kr := fun b => b = true) (k2 := fun _ b => b = true) (x2 := false) (x3 := true) ha ⟨h0, h1⟩ (by rw [h3, List.length_nil, Nat.zero_add]; exact Nat.le_trans hmod.2 (by omega)) h8 h4.len (fun i k hi hk hli hlk => ?_) rfl 8 0 rfl
  have hpol : r.policy.a = a := by rw [h6, fQ.pol]
  unfold InvQ at h7
  have w := h4.way
  rw [hpol] at h7 w
  exact fair h7 w hi hk hli hlk

end Go.Vg.Ytgekegoflaichaa
