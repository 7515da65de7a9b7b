/-
  The laws of chapter 30 (2): acknowledgements. Own work; no condition.
-/
import Derived.Test.YtgekegoflaichaaUd
namespace Go.Vg.Ytgekegoflaichaa
open Go.Vg Go.Proofs

theorem adv_mem : ∀ {l : List Int} {n m : Int}, n ≤ m → m < (adv n l).1 → m ∈ l
  | [], n, m, h1, h2 => by simp only [adv] at h2; omega
  | x :: r, n, m, h1, h2 => by
    by_cases hx : x = n
    · subst hx
      have e : adv x (x :: r) = adv (x + 1) r := by simp [adv]
      rw [e] at h2
      by_cases hm : m = x
      · simp [hm]
      · exact List.mem_cons_of_mem _ (adv_mem (by omega) h2)
    · have e : adv n (x :: r) = (n, x :: r) := by simp [adv, hx]
      rw [e] at h2
      have h2 : m < n := h2
      omega

theorem l13_spec {w : Int} {next : Int} {have_ : List Int} (hl : have_.length ≤ 100000) (h0 : 0 ≤ next ∧ next ≤ 1000000000) {x2 x3 : Bool} {p : Packet} {an : Int} (hb : an ≤ 2000000000) {ah : List Int} {k : Ack} {kr : Bool → Prop} {k0 : Int → Bool → Bool → Int → (List Int) → Int → Int → Int → Int → Int → Int → Bool → Bool → Int → (List Int) → Int → Int → Int → Int → Bool → Prop}
    (hk : k0 w x2 x3 next have_ p.flow p.sub p.number p.data p.size p.sent p.able p.marked an ah k.sub k.number k.next_ k.sent k.marked) :
    ∀ (m : Nat) (n : Int), (an - n).toNat ≤ m → next ≤ n → n ≤ 2000000000 → (∀ q, n ≤ q → q < an → q ≠ p.data → hasS ⟨next, have_⟩ q = true) →
    ∃ c, l_13_8 c w x2 x3 n next have_ p.flow p.sub p.number p.data p.size p.sent p.able p.marked an ah k.sub k.number k.next_ k.sent k.marked kr k0 := by
  intro m
  induction m with
  | zero =>
    intro n hm _ _ _
    exact ⟨1, br_false (by simp; omega) hk⟩
  | succ m ih =>
    intro n hm hn hn2 hq
    by_cases hlt : n < an
    · have hw : IntKind.i64.wrap (n + 1) = n + 1 := wrapi (by omega) (by omega)
      obtain ⟨c, hc⟩ := ih (n + 1) (by omega) (by omega) (by omega) (fun q a b => hq q (by omega) b)
      refine ⟨c + 1, br_true (by simpa using hlt) (br_of (fun _ => ?_) (fun _ => hk))⟩
      unfold s_13_10
      rw [hw]
      refine br_of (fun e => V44_spec (by show have_.length ≤ _; omega) (br_false ?_ hc)) (fun _ => hc)
      have e : n ≠ p.data := by simpa using e
      rw [hq n (Int.le_refl _) hlt e]; rfl
    · exact ⟨1, br_false (by simp; omega) hk⟩

theorem pureReceiverAcks (r : Receiver) (w : Int) (p : Packet) (_ : fitReceiver r) (_ : fitI .i64 w) (_ : fitPacket p) : V13 r w p (fun b => b = true) := by
  rw [V13_eq]; unfold B13
  refine V35_spec (V36_spec (br_of (fun _ => rfl) (fun e => ?_)))
  have hl := few_len (bool_nn e)
  refine V37_spec (by omega) (br_of (fun _ => rfl) (fun e => ?_))
  have e : (recvS r w p).2.2.2 = 0 := by simpa using e
  obtain ⟨hv, hp, h1, h2⟩ := recv_zero e
  have ht := recv_took hv hp h1 h2
  have hv' := took_valid hv hp h1 h2 ht
  have hd := data_lt hp h2
  have hlen := valid_len hv'
  obtain ⟨a1, a2, a3⟩ := valid_iff.1 hv
  obtain ⟨_, b2, b3⟩ := valid_iff.1 hv'
  have e2 : IntKind.i64.wrap (r.next_ + w) = r.next_ + w := wrapi (by omega) (by omega)
  have fin : r.next_ ≤ (recvS r w p).1.next_ ∧ (recvS r w p).1.next_ ≤ r.next_ + w ∧ (recvS r w p).2.1 = ackS p (recvS r w p).1.next_ ∧ (∀ q, r.next_ ≤ q → q < (recvS r w p).1.next_ → q ≠ p.data → hasS r q = true) := by
    generalize recvS r w p = o at ht
    cases ht with
    | next h =>
      have := chain_adv (l := r.have_) (n := r.next_ + 1) (hi := hiS r.next_ w) (by rw [Int.add_sub_cancel]; exact a3) (by unfold hiS; split <;> omega)
      have hh : hiS r.next_ w ≤ r.next_ + w := by unfold hiS; split <;> omega
      refine ⟨by show r.next_ ≤ (adv _ _).1; omega, by show (adv _ _).1 ≤ _; omega, rfl, fun q h3 h4 h5 => ?_⟩
      simp only [hasS, Bool.or_eq_true, decide_eq_true_eq]
      exact .inr (adv_mem (by omega) h4)
    | old h => exact ⟨Int.le_refl _, by show r.next_ ≤ _; omega, rfl, fun q h3 h4 _ => absurd (show q < r.next_ from h4) (by omega)⟩
    | has h h' => exact ⟨Int.le_refl _, by show r.next_ ≤ _; omega, rfl, fun q h3 h4 _ => absurd (show q < r.next_ from h4) (by omega)⟩
    | new h h' => exact ⟨Int.le_refl _, by show r.next_ ≤ _; omega, rfl, fun q h3 h4 _ => absurd (show q < r.next_ from h4) (by omega)⟩
  obtain ⟨f1, f2, f3, f4⟩ := fin
  refine l13_spec (by omega) a2 (by omega) ?_ ((recvS r w p).1.next_ - r.next_).toNat r.next_ (Nat.le_refl _) (Int.le_refl _) (by omega) f4
  rw [e2]
  refine br_t (br_true (by simpa using f1) (br_true (by simpa using f2) (V44_spec (r := ⟨(recvS r w p).1.next_, (recvS r w p).1.have_⟩) (by show (recvS r w p).1.have_.length ≤ _; omega) (br_true ?_ ?_))))
  · have : hasS (recvS r w p).1 (recvS r w p).1.next_ = false := by
      simp only [hasS, Bool.or_eq_false_iff, decide_eq_false_iff_not]
      refine ⟨by omega, fun hm => ?_⟩
      have := ((chain_pair b3).2 _ hm).1; omega
    show (!(hasS (recvS r w p).1 (recvS r w p).1.next_)) = true
    rw [this]; rfl
  · rw [f3]
    simp [ackS, andb]

end Go.Vg.Ytgekegoflaichaa
