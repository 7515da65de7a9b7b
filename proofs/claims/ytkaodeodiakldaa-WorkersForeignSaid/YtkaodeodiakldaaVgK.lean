/-
  The executor's single operations are right: append, slicing. Own work; no condition.
-/
import Derived.Test.YtkaodeodiakldaaVgJ
namespace Go.Vg
open Go.RowKit
variable {P : Program} {E : Env}
section
variable {B : Nat} {S0 : Nat → Prop} {w0 : World} {gv : Gv} {σ : Nat → Option Nat} {st : St E.T} {a : Act} {w w' : World}

theorem roomB_spec {n b : Nat} (h : roomB n b = true) : n * b ≤ 140737488355328 ∧ n ≤ 140737488355328 := by
  unfold roomB andb at h
  split at h
  · rename_i h1; exact ⟨by simpa using h1, by simpa using h⟩
  · cases h

/-- Where the result of an append lies. -/
theorem append_block {t ty e : Nat} {i : TypeInfo} {z : Value} (ht : P.underlying t = some (.slice e)) (hi : P.info? e = some i) (hz : i.zero = some z) (_hsz : 0 < i.size)
    {vs : Value} {n : Nat} {xs : List Value} (hown : w.ownsRow B e i.size vs n xs) {ad : Addr} {m c : Nat} {news : List Value} (hl : news.length = m * i.size) (hnews : ∀ j u, news[j]? = some u → w.cell? (ad.add j) = some u)
    (h1 : ∀ u ∈ news, u.oneCell' = true) (h63 : n + m ≤ 140737488355328) (hbytes : (n + m) * i.bytes ≤ 140737488355328) {v' : Value} {w' : World}
    (hrun : (Builtin.append_ #[t, t] ty #[vs, .slice (some ad) m c]).run P w = .ok v' w') (hnil : v' = .slice none 0 0 ↔ vs = .slice none 0 0 ∧ m = 0) :
    ∀ k, v'.ownBlock = some k → vs.ownBlock = some k ∨ w.heap.size ≤ k := by
  rcases hown.2 with ⟨rfl, rfl⟩ | ⟨g, cap, cur, rfl, hbg, hg, hnc, hcm, hcs, htake⟩
  · by_cases hm : m = 0
    · rw [hnil.2 ⟨rfl, hm⟩]; intro k hk; simp [Value.ownBlock] at hk
    · have hr := run_append_nil (P := P) w t ty e i z ht hi hz ad m c news hl hnews (by omega) (by omega) (by simp only [Nat.zero_add] at hbytes; omega)
      rw [hr] at hrun; cases hrun
      intro k hk; simp [Value.ownBlock] at hk; right; omega
  · by_cases hroom : n + m ≤ cap
    · have hfit : n * i.size + news.length ≤ cur.size := by rw [hl, hcs, ← Nat.add_mul]; exact Nat.mul_le_mul_right _ hroom
      have hr := run_append_room (P := P) w t ty e i ht hi g n cap cur hg ad m c news hl hnews h1 hroom hfit
      rw [hr] at hrun; cases hrun
      intro k hk; left; exact hk
    · have hr := run_append_grow (P := P) w t ty e i z ht hi hz ⟨g, 0, none⟩ n cap xs hown.1 (hown.cells (g := g) rfl) ad m c news hl hnews (by omega) (by omega) (growslice_fits (by omega) hbytes)
      rw [hr] at hrun; cases hrun
      intro k hk; simp [Value.ownBlock] at hk; right; omega

theorem append_law (tab : TabOk P E) (g : Gam E B S0 w0 gv σ st a w) {t ty e : Nat} (hel : elemB E t = some e) (hsz : sizeB E e = some (E.sz e)) (hpos : 1 ≤ E.sz e) (he : E.has e = true) {x : SV E.T} {vs vx : Value} {l1 l2 : List (E.T e)}
    (hl2 : listOf st.heap e x = some l2) (hx : RelS E st.heap σ w (sup E B S0 st.heap σ w) x vx) {xs : List Value}
    (hown : w.ownsRow B e (E.sz e) vs l1.length xs) (hrel : RelC E st.heap σ w (sup E B S0 st.heap σ w) (l1.flatMap (E.enc e)) xs) (hroom : roomB (l1 ++ l2).length (bytesB E e) = true) :
    ∃ v' w' ys, (Builtin.append_ #[t, t] ty #[vs, vx]).run P w = .ok v' w' ∧ w'.ownsRow B e (E.sz e) v' (l1 ++ l2).length ys ∧ w.grownBy w' vs.ownBlock ∧
      RelC E st.heap σ w (sup E B S0 st.heap σ w) ((l1 ++ l2).flatMap (E.enc e)) ys ∧ (∀ k, v'.ownBlock = some k → vs.ownBlock = some k ∨ w.heap.size ≤ k) := by
  have hund := elem_spec tab hel
  obtain ⟨i, hi, his, hok⟩ := size_spec tab hsz
  obtain ⟨i', hi', _, hby, z, hz, hzs, _⟩ := tab.info e hok
  rw [hi] at hi'; cases hi'
  obtain ⟨hr1, hr2⟩ := roomB_spec hroom
  rw [List.length_append] at hr1 hr2
  have hby' : bytesB E e = i.bytes := hby.symm
  rw [hby'] at hr1
  rcases listOf_rel g he hl2 hx with ⟨rfl, rfl⟩ | ⟨ad, c, news, rfl, hnr, hnc⟩
  · refine ⟨vs, w, xs, ?_, by simpa using hown, ⟨rfl, rfl, rfl, Nat.le_refl _, fun _ _ _ => rfl⟩, by simpa using hrel, fun k hk => .inl hk⟩
    exact run_append_owned_none w B t ty e i (E.sz e) hund hi vs l1.length xs hown
  · have hln : news.length = l2.length * E.sz e := (RelC.flat_at he hnr).1
    obtain ⟨v', w', h1, h2, h3, h4⟩ := run_append_own (P := P) (w := w) B t ty e i z (E.sz e) i.bytes hund hi hz his rfl (by rw [hzs, his]) hpos vs l1.length xs hown ad l2.length c news hln hnc hnr.one
      (by simp only [maxLen]; omega) hr1 g.hB
    refine ⟨v', w', xs ++ news, h1, by simpa using h2, h3, by simpa using hrel.append hnr, ?_⟩
    rw [← his] at hpos hown hln
    exact append_block hund hi hz hpos hown hln hnc hnr.one hr2 hr1 h1 h4

theorem Done.append (g : Gam E B S0 w0 gv σ st a w) {fresh e : Nat} (hf : Fresh st fresh) (ds : List Nat) (hds : ∀ i ∈ ds, look st.heap i ≠ .free) {vs : Value} {l : List (E.T e)} {o : Oper} {v' : Value} {ys : List Value} (he : E.has e = true)
    (hown : w'.ownsRow B e (E.sz e) v' l.length ys) (hg : w.grownBy w' vs.ownBlock) (hrel : RelC E st.heap σ w (sup E B S0 st.heap σ w) (l.flatMap (E.enc e)) ys)
    (hk' : ∀ k, v'.ownBlock = some k → vs.ownBlock = some k ∨ w.heap.size ≤ k) (hrow : ∀ k, vs.ownBlock = some k → B ≤ k ∧ ∃ i b, i ∈ ds ∧ look st.heap i = .live b ∧ σ i = some k) {c : Bool}
    (hr : (execOp a.eval o).run P w = .ok (.value v') w') :
    Done P E B S0 w0 gv st a o w ⟨c, .row fresh, Vg.deads ds ++ [(fresh, .live (.row e l))]⟩ := by
  obtain ⟨σ', h1, h2, h3⟩ := g.replace (l := l) ds hds fresh hf vs.ownBlock v'.ownBlock hg (run_drawn P _ _ _ _ hr) hrow hk' (fun H' σ' S' go hs => ⟨he, by
    rcases hown.2 with ⟨rfl, h⟩ | ⟨k, cap, cur, rfl, hb, hh, hnc, hcm, hcs, htake⟩
    · exact .inl ⟨by rw [hs]; rfl, List.length_eq_zero_iff.1 h⟩
    · exact .inr ⟨k, cur, by rw [hs]; rfl, hb, hh, by rw [hcs]; exact Nat.mul_le_mul_right _ hnc, by rw [htake]; exact hrel.goes go⟩⟩)
  refine ⟨v', w', σ', .inl hr, h3, ?_⟩
  rcases hown.2 with ⟨rfl, h⟩ | ⟨k, cap, cur, rfl, hb, hh, hnc, hcm, hcs, htake⟩
  · exact .row_nil _ (by rw [h2]; simp) h1
  · refine .row _ _ _ _ (by rw [h2]; simp) h1 (fun e' l' hl' => ?_)
    rw [h2] at hl'; cases hl'
    exact ⟨rfl, hnc, hcm, cur, hh, hcs⟩

theorem append_sound (tab : TabOk P E) (g : Gam E B S0 w0 gv σ st a w) {t tx fresh ty : Nat} (hf : Fresh st fresh) {s x : SV E.T} {vs vx : Value} {out : Out E.T}
    (hs : RelS E st.heap σ w (sup E B S0 st.heap σ w) s vs) (hx : RelS E st.heap σ w (sup E B S0 st.heap σ w) x vx) (h : appendB E st.heap fresh t tx s x = some out) (hc : out.cond = true) {o : Oper}
    (hr : ∀ v' w', (Builtin.append_ #[t, tx] ty #[vs, vx]).run P w = .ok v' w' → (execOp a.eval o).run P w = .ok (.value v') w') :
    Done P E B S0 w0 gv st a o w out := by
  unfold appendB at h
  split at h
  · rename_i e hel htx
    have htx := Nat.eq_of_beq_eq_true htx
    subst htx
    split at h
    · rename_i sz hsz
      split at h
      · rename_i hb
        simp only [Bool.and_eq_true] at hb
        have hz1 := Nat.eq_of_beq_eq_true hb.1
        have hz2 := Nat.le_of_ble_eq_true hb.2
        subst hz1
        split at h
        · rename_i l2 hl2
          split at h
          · cases h
          · rename_i he
            split at h
            · cases h
              cases hs
              obtain ⟨v', w', ys, h1, h2, h3, h4, h5⟩ := append_law (ty := ty) tab g hel hsz hz2 he (l1 := []) hl2 hx (World.ownsRow_nil _ _ _ _) .nil hc
              exact Done.append g hf [] (by simp) he h2 h3 h4 h5 (fun k hk => by simp [Value.ownBlock] at hk) (hr _ _ h1)
            · rename_i id
              split at h
              · rename_i l1 hl1
                cases h
                have hlook : look st.heap id = .live (.row e l1) := by
                  simp only [listOf] at hl1
                  split at hl1
                  · rename_i e' l' hl
                    split at hl1
                    · rename_i hee; subst hee; cases hl1; exact hl
                    · cases hl1
                  · cases hl1
                obtain ⟨xs, how, hrel, hob, _, hBk⟩ := row_own g hlook hs
                obtain ⟨v', w', ys, h1, h2, h3, h4, h5⟩ := append_law (ty := ty) tab g hel hsz hz2 he hl2 hx how hrel hc
                exact Done.append g hf [id] (by simp [hlook]) he h2 h3 h4 h5 (fun k hk => by rw [hob] at hk; exact ⟨hBk k hk, id, _, by simp, hlook, hk⟩) (hr _ _ h1)
              · cases h
            · cases h
        · cases h
      · cases h
    · cases h
  · cases h

theorem cutOk_spec {lo hi : Option Int} {len : Nat} (h : cutOk lo hi len = true) : 0 ≤ lo.getD 0 ∧ lo.getD 0 ≤ hi.getD len ∧ hi.getD len ≤ (len : Int) := by
  cases lo with
  | none => cases hi with
    | none => simp
    | some b =>
      simp only [cutOk, andb] at h
      split at h
      · rename_i h1; simp [leb] at h1 h; simp; omega
      · cases h
  | some a => cases hi with
    | none =>
      simp only [cutOk, andb] at h
      split at h
      · rename_i h1; simp [leb] at h1 h; simp; omega
      · cases h
    | some b =>
      simp only [cutOk, andb] at h
      split at h
      · rename_i h1
        split at h
        · rename_i h2; simp [leb] at h1 h2 h; simp; omega
        · cases h
      · cases h

theorem bound_run (k : IntKind) (b : Int) (y : Nat) (code : BoundsCode) (h0 : 0 ≤ b) (h1 : b ≤ (y : Int)) (w : World) : (Instr.sliceBound (.int k b) y code).run P w = .ok b.toNat w := by
  simp [Instr.sliceBound, asIntOf, h0, h1]

/-- What an index operand is. -/
inductive RelO : Option Int → Option Value → Prop
  | none : RelO none none
  | some (k b) : RelO (some b) (some (.int k b))

theorem bounds_run {lo hi : Option Int} {vl vh : Option Value} (hl : RelO lo vl) (hh : RelO hi vh) {len cap : Nat} (hc : len ≤ cap) (h : cutOk lo hi len = true) (w : World) :
    (Instr.sliceBounds true len cap vl vh none).run P w = .ok ((lo.getD 0).toNat, (hi.getD len).toNat, cap) w := by
  obtain ⟨h1, h2, h3⟩ := cutOk_spec h
  cases hl with
  | none => cases hh with
    | none => simp [Instr.sliceBounds]
    | some k b =>
      simp only [Option.getD_none, Option.getD_some] at h1 h2 h3
      simp [Instr.sliceBounds, bound_run k b cap _ (by omega) (by omega) w]
  | some k b => cases hh with
    | none =>
      simp only [Option.getD_none, Option.getD_some] at h1 h2 h3
      simp [Instr.sliceBounds, bound_run k b len _ (by omega) (by omega) w]
    | some k' b' =>
      simp only [Option.getD_some] at h1 h2 h3
      simp [Instr.sliceBounds, bound_run k' b' cap _ (by omega) (by omega) w, bound_run k b b'.toNat _ (by omega) (by omega) w]

theorem cutL_get {α : Type} {l : List α} {a b : Int} {i : Nat} {x : α} (h : (cutL l a b)[i]? = some x) : l[a.toNat + i]? = some x := by
  unfold cutL at h
  rw [List.getElem?_drop, List.getElem?_take] at h
  split at h
  · exact h
  · cases h

theorem cutL_len {α : Type} {l : List α} {a b : Int} (h1 : a ≤ b) (h2 : b ≤ (l.length : Int)) : (cutL l a b).length = b.toNat - a.toNat := by
  unfold cutL
  simp; omega

theorem slice_dat {H : List (Nat × HS E.T)} {S : Nat → Prop} (tab : TabOk P E) {t e : Nat} (hel : elemB E t = some e) (hsz : sizeB E e = some (E.sz e)) {l : List (E.T e)} {v : Value} (hv : RelS E H σ w S (.dat e l) v)
    {lo hi : Option Int} {vl vh : Option Value} (hl : RelO lo vl) (hh : RelO hi vh) (h : cutOk lo hi l.length = true) :
    ∃ v', (Instr.sliceAt t v vl vh none).run P w = .ok v' w ∧ RelS E H σ w S (.dat e (cutL l (lo.getD 0) (hi.getD l.length))) v' := by
  have hund := elem_spec tab hel
  obtain ⟨i, hi', his, _⟩ := size_spec tab hsz
  obtain ⟨h1, h2, h3⟩ := cutOk_spec h
  have hrun : ∀ (ad : Option Addr) (cap : Nat), l.length ≤ cap → (Instr.sliceAt t (.slice ad l.length cap) vl vh none).run P w =
      .ok (.slice (if cap = (lo.getD 0).toNat then ad else ad.map (·.add ((lo.getD 0).toNat * E.sz e))) ((hi.getD l.length).toNat - (lo.getD 0).toNat) (cap - (lo.getD 0).toNat)) w := fun ad cap hc => by
    have hb := bounds_run (P := P) hl hh hc h w
    simp [Instr.sliceAt, Instr.slice, run_underlying hund, hb, sizeOf, typeInfo, hi', his]
  have hlen := cutL_len h2 h3
  cases hv with
  | dat_nil _ he =>
    have := hrun none 0 (by simp)
    simp only [List.length_nil] at this h1 h2 h3
    refine ⟨_, this, ?_⟩
    have e1 : (lo.getD 0).toNat = 0 := by omega
    have e2 : (hi.getD ((0 : Nat) : Int)).toNat = 0 := by omega
    simp only [e1, e2, if_true, cutL, List.take_nil, List.drop_nil]
    exact .dat_nil e he
  | dat _ _ ad c vss he hS hc hr hcell =>
    refine ⟨_, hrun (some ad) c hc, ?_⟩
    rw [← hlen]
    have hsub : l.length ≤ c := hc
    split
    · rename_i hm
      have hnil : cutL l (lo.getD 0) (hi.getD l.length) = [] := List.length_eq_zero_iff.1 (by omega)
      rw [hnil]
      exact .dat e [] ad _ (fun _ => []) he (fun h => absurd rfl h) (Nat.zero_le _) (fun i x hx => by simp at hx) (fun i x hx => by simp at hx)
    · refine .dat e _ _ _ (fun i => vss ((lo.getD 0).toNat + i)) he (fun hne => ?_) (by omega) (fun i x hx => hr _ x (cutL_get hx)) (fun i x hx j u hu => ?_)
      · rw [add_block]; exact hS (fun h0 => hne (by rw [h0]; simp [cutL]))
      · rw [add_add]
        have := hcell _ x (cutL_get hx) j u hu
        rw [← this, Nat.add_mul, Nat.add_assoc]

theorem slice_sound (tab : TabOk P E) (g : Gam E B S0 w0 gv σ st a w) {t e : Nat} (hel : elemB E t = some e) (hsz : sizeB E e = some (E.sz e)) {x : SV E.T} {vx : Value} {out : Out E.T}
    (hx : RelS E st.heap σ w (sup E B S0 st.heap σ w) x vx) {lo hi : Option Int} {vl vh : Option Value} (hl : RelO lo vl) (hh : RelO hi vh) (h : sliceB E st.heap e x lo hi = some out) (hc : out.cond = true) {o : Oper}
    (hr : ∀ v', (Instr.sliceAt t vx vl vh none).run P w = .ok v' w → (execOp a.eval o).run P w = .ok (.value v') w) :
    Done P E B S0 w0 gv st a o w out := by
  unfold sliceB at h
  split at h
  · rename_i e' l
    split at h
    · rename_i hb
      have hb := Nat.eq_of_beq_eq_true hb
      subst hb
      cases h
      obtain ⟨v', h1, h2⟩ := slice_dat tab hel hsz hx hl hh hc
      exact Done.same g (hr v' h1) h2
    · cases h
  · rename_i id
    split at h
    · rename_i e' l hlook
      split at h
      · rename_i hb
        have hb := Nat.eq_of_beq_eq_true hb
        subst hb
        cases h
        have hne : look st.heap id ≠ .free := by rw [hlook]; simp
        have g1 := g.kill id hne
        have hd := row_dat g hlook hx (goes_kill E B S0 st.heap σ w id) (fun j b hj => ⟨(kill_live hj).1, b, (kill_live hj).2⟩)
        obtain ⟨v', h1, h2⟩ := slice_dat tab hel hsz hd hl hh hc
        exact ⟨v', w, σ, .inl (hr v' h1), g1, h2⟩
      · cases h
    · cases h
  · cases h
    cases hx
    have hund := elem_spec tab hel
    obtain ⟨i, hi', his, _⟩ := size_spec tab hsz
    have hb := bounds_run (P := P) hl hh (Nat.le_refl 0) hc w
    obtain ⟨h1, h2, h3⟩ := cutOk_spec hc
    have e1 : (lo.getD 0).toNat = 0 := by omega
    have e2 : (hi.getD ((0 : Nat) : Int)).toNat = 0 := by omega
    rw [e1, e2] at hb
    have hrun : (Instr.sliceAt t (.slice none 0 0) vl vh none).run P w = .ok (.slice none 0 0) w := by
      simp [Instr.sliceAt, Instr.slice, run_underlying hund, hb, sizeOf, typeInfo, hi']
    exact Done.same g (hr _ hrun) .nils
  · cases h

end
end Go.Vg
