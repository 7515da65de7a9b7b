/-
  Regions that draw their order: what an operation looks at. Own work; no condition.
-/
import Derived.Test.YtkaodeodiakldaaVgT
namespace Go.Vg
variable {E : Env}
section
variable {H H' : List (Nat × HS E.T)}

theorem loadB_frame {t : Nat} {x : SV E.T} (h : ∀ id ∈ refs x, look H id = look H' id) : loadB E H t x = loadB E H' t x := by
  unfold loadB loadB0
  cases x <;> simp only [refs, List.mem_singleton, forall_eq] at h <;> first | rfl | simp only [h]

theorem rowToDat_frame {x : SV E.T} (h : ∀ id ∈ refs x, look H id = look H' id) : rowToDat H x = rowToDat H' x := by
  unfold rowToDat
  cases x <;> simp only [refs, List.mem_singleton, forall_eq] at h <;> first | rfl | simp only [h]

theorem mapDat_frame : ∀ {cs : List (SV E.T)}, (∀ id ∈ rowIds1 cs, look H id = look H' id) → cs.map (rowToDat H) = cs.map (rowToDat H')
  | [], _ => rfl
  | s :: r, h => by
    have h2 : ∀ id ∈ rowIds1 r, look H id = look H' id := fun id hid => h id (by cases s <;> simp [rowIds1, hid])
    rw [List.map_cons, List.map_cons, mapDat_frame h2]
    congr 1
    unfold rowToDat
    cases s <;> try rfl
    simp only [h _ (show _ ∈ _ by simp [rowIds1]; exact .inl rfl)]

theorem toData_frame {x : SV E.T} (h : ∀ id ∈ refs x, look H id = look H' id) : toData H x = toData H' x := by
  cases x with
  | agg cs => simp only [toData]; rw [mapDat_frame h]
  | _ => exact rowToDat_frame h

theorem cells_refs {v : SV E.T} {cs : List (SV E.T)} (h : cellsB v = some cs) : ∀ id ∈ rowIds1 cs, id ∈ refs v := by
  intro id hid
  cases v with
  | agg cs' => simp only [cellsB, Option.some.injEq] at h; subst h; exact hid
  | _ =>
    simp only [cellsB] at h
    split at h
    · cases h
      first
        | (simp [rowIds1] at hid; done)
        | (simp [rowIds1] at hid; simp [refs, hid])
    · cases h

theorem storeB_frame {t : Nat} {x v : SV E.T} (h : ∀ id ∈ refs x, look H id = look H' id) (h2 : ∀ id ∈ refs v, look H id = look H' id) : storeB E H t x v = storeB E H' t x v := by
  unfold storeB
  cases hc : cellsB v with
  | none => rfl
  | some cs =>
    have hd : cs.map (rowToDat H) = cs.map (rowToDat H') := mapDat_frame (fun id hid => h2 id (cells_refs hc id hid))
    cases hs : sizeB E t with
    | none => rfl
    | some n =>
    simp only [hd]
    cases x <;> simp only [refs, List.mem_singleton, forall_eq] at h <;> first | rfl | simp only [h]

theorem indexB_frame {t : Nat} {x : SV E.T} {i : Int} (h : ∀ id ∈ refs x, look H id = look H' id) : indexB E H t x i = indexB E H' t x i := by
  unfold indexB
  cases x <;> simp only [refs, List.mem_singleton, forall_eq] at h <;> first | rfl | simp only [h]

theorem sliceB_frame {e : Nat} {x : SV E.T} {lo hi : Option Int} (h : ∀ id ∈ refs x, look H id = look H' id) : sliceB E H e x lo hi = sliceB E H' e x lo hi := by
  unfold sliceB
  cases x <;> simp only [refs, List.mem_singleton, forall_eq] at h <;> first | rfl | simp only [h]

theorem listOf_frame {e : Nat} {x : SV E.T} (h : ∀ id ∈ refs x, look H id = look H' id) : listOf H e x = listOf H' e x := by
  unfold listOf
  cases x <;> simp only [refs, List.mem_singleton, forall_eq] at h <;> first | rfl | simp only [h]

theorem lenB_frame {x : SV E.T} (h : ∀ id ∈ refs x, look H id = look H' id) : lenB H x = lenB H' x := by
  unfold lenB
  cases x <;> simp only [refs, List.mem_singleton, forall_eq] at h <;> first | rfl | simp only [h]

theorem appendB_frame {fresh t tx : Nat} {s x : SV E.T} (h : ∀ id ∈ refs s, look H id = look H' id) (h2 : ∀ id ∈ refs x, look H id = look H' id) : appendB E H fresh t tx s x = appendB E H' fresh t tx s x := by
  unfold appendB
  have e1 : ∀ e, listOf H e x = listOf H' e x := fun e => listOf_frame h2
  have e2 : ∀ e, listOf H e s = listOf H' e s := fun e => listOf_frame h
  simp only [e1]
  cases s <;> first | rfl | (simp only [e2])

theorem copyB_frame {t : Nat} {d x : SV E.T} (h : ∀ id ∈ refs d, look H id = look H' id) (h2 : ∀ id ∈ refs x, look H id = look H' id) : copyB E H t d x = copyB E H' t d x := by
  unfold copyB
  have e1 : ∀ e, listOf H e x = listOf H' e x := fun e => listOf_frame h2
  simp only [e1]
  cases elemB E t with
  | none => rfl
  | some e => cases d <;> simp only [refs, List.mem_singleton, forall_eq] at h <;> first | rfl | simp only [h]

theorem mapAt_frame {t : Nat} {x i : SV E.T} {f : (id kt vt : Nat) → List (E.T kt × E.T vt) → E.T kt → E.T vt → Option (Out E.T)} (h : ∀ id ∈ refs x, look H id = look H' id) : mapAt E H t x i f = mapAt E H' t x i f := by
  unfold mapAt
  cases mapB E t with
  | none => cases x <;> rfl
  | some p => cases x <;> simp only [refs, List.mem_singleton, forall_eq] at h <;> first | rfl | simp only [h]

theorem builtinB_frame {fresh : Nat} {b : Builtin} {ts : List Nat} {args : List (SV E.T)} (h : ∀ x ∈ args, ∀ id ∈ refs x, look H id = look H' id) : builtinB E H fresh b ts args = builtinB E H' fresh b ts args := by
  have one : ∀ x, args = [x] → lenB H x = lenB H' x := fun x hx => lenB_frame (h x (by simp [hx]))
  have three : ∀ s x t, args = [s, x] → copyB E H t s x = copyB E H' t s x := fun s x t hx => copyB_frame (h s (by simp [hx])) (h x (by simp [hx]))
  have two : ∀ s x t tx, args = [s, x] → appendB E H fresh t tx s x = appendB E H' fresh t tx s x := fun s x t tx hx => appendB_frame (h s (by simp [hx])) (h x (by simp [hx]))
  unfold builtinB
  split
  · rename_i t x
    have := one x rfl
    cases x <;> first | rfl | simp only [this]
  · rfl
  · rfl
  · exact two _ _ _ _ rfl
  · exact three _ _ _ rfl
  · rfl
end

section
variable {H H' : List (Nat × HS E.T)} {tmps tmps' : List (SV E.T)}

theorem refsL_mem {x : Operand} {l : List Operand} (hx : x ∈ l) {id : Nat} (h : id ∈ refs (ev tmps x)) : id ∈ refsL tmps l := by
  induction l with
  | nil => cases hx
  | cons y r ih =>
    simp only [refsL, List.mem_append]
    rcases List.mem_cons.1 hx with rfl | hx
    · exact .inl h
    · exact .inr (ih hx)

theorem evs_frame {l : List Operand} (h : ∀ x ∈ l, ev tmps x = ev tmps' x) : evs tmps l = evs tmps' l := by
  unfold evs
  exact List.map_congr_left h

theorem optInt_frame {o : Option Operand} (h : ∀ x ∈ o.toList, ev tmps x = ev tmps' x) : optInt tmps o = optInt tmps' o := by
  unfold optInt
  cases o with
  | none => rfl
  | some x => simp only [h x (by simp)]

theorem core_frame {fresh : Nat} {o : Op} (ht : ∀ x ∈ opnds o, ev tmps x = ev tmps' x) (hH : ∀ x ∈ opnds o, ∀ id ∈ refs (ev tmps' x), look H id = look H' id) : core E fresh tmps H o = core E fresh tmps' H' o := by
  cases o <;> try rfl
  case move x => simp only [core, ht x (by simp [opnds])]
  case assign x => simp only [core, ht x (by simp [opnds])]
  case pick c x y => simp only [core, ht c (by simp [opnds]), ht x (by simp [opnds]), ht y (by simp [opnds])]
  case box t x => simp only [core, ht x (by simp [opnds])]
  case build t parts =>
    have : parts.toList.map (fun p => (p.1, ev tmps p.2)) = parts.toList.map (fun p => (p.1, ev tmps' p.2)) := List.map_congr_left fun p hp => by
      rw [ht p.2 (by simp only [opnds]; exact List.mem_map_of_mem hp)]
    simp only [core, this]
  case buildSlice t len parts =>
    have h1 : parts.toList.map (fun p => (p.1, toData H (ev tmps p.2))) = parts.toList.map (fun p => (p.1, toData H' (ev tmps' p.2))) := List.map_congr_left fun p hp => by
      have hm : p.2 ∈ opnds (.buildSlice t len parts) := by simp only [opnds]; exact List.mem_map_of_mem hp
      rw [ht p.2 hm, toData_frame (hH p.2 hm)]
    have h2 : parts.toList.map (fun p => ev tmps p.2) = parts.toList.map (fun p => ev tmps' p.2) := List.map_congr_left fun p hp => by
      rw [ht p.2 (by simp only [opnds]; exact List.mem_map_of_mem hp)]
    simp only [core, h1, h2]
  case load t x => simp only [core, ht x (by simp [opnds]), loadB_frame (hH x (by simp [opnds]))]
  case store t x y => simp only [core, ht x (by simp [opnds]), ht y (by simp [opnds]), storeB_frame (hH x (by simp [opnds])) (hH y (by simp [opnds]))]
  case binOp op t x y ty => simp only [core, ht x (by simp [opnds]), ht y (by simp [opnds])]
  case unOp op t x => simp only [core, ht x (by simp [opnds])]
  case convert s t x => simp only [core, ht x (by simp [opnds])]
  case makeFunc f x y => simp only [core, evs_frame (l := y.toList) (fun z hz => ht z (by simpa [opnds] using hz))]
  case makeSlice t x y => simp only [core, ht x (by simp [opnds]), ht y (by simp [opnds])]
  case slice t x l h m =>
    cases m with
    | some m => rfl
    | none =>
      have hx := hH x (by simp [opnds])
      simp only [core, ht x (by simp [opnds]), optInt_frame (o := l) (fun z hz => ht z (by simp only [opnds, List.mem_cons, List.mem_append]; exact .inr (.inl hz))),
        optInt_frame (o := h) (fun z hz => ht z (by simp only [opnds, List.mem_cons, List.mem_append]; exact .inr (.inr hz))), sliceB_frame hx]
      generalize ev tmps' x = s at hx
      cases arrB E t with
      | none => rfl
      | some p =>
        obtain ⟨n, e⟩ := p
        cases l with
        | some _ => rfl
        | none =>
          cases h with
          | some _ => rfl
          | none => cases hz : sizeB E e <;> simp only [hz] <;> cases s <;> simp only [refs, List.mem_singleton, forall_eq] at hx <;> first | rfl | simp only [hx]
  case makeMap t r => simp only [core, optInt_frame (o := r) (fun z hz => ht z (by simpa [opnds] using hz))]
  case lookup t x i ok =>
    have hx := hH x (by simp [opnds])
    simp only [core, ht x (by simp [opnds]), ht i (by simp [opnds])]
    generalize ev tmps' x = s at hx
    cases s <;> first | rfl | simp only [mapAt_frame hx]
  case mapUpdate t x i y => simp only [core, ht x (by simp [opnds]), ht i (by simp [opnds]), ht y (by simp [opnds]), mapAt_frame (hH x (by simp [opnds]))]
  case mapEntry t x i => simp only [core, ht x (by simp [opnds]), ht i (by simp [opnds]), mapAt_frame (hH x (by simp [opnds]))]
  case entryStore t x i y =>
    have hx := hH x (by simp [opnds])
    simp only [core, ht x (by simp [opnds]), ht i (by simp [opnds]), ht y (by simp [opnds])]
    generalize ev tmps' x = s at hx
    cases mapB E t with
    | none => rfl
    | some p =>
      obtain ⟨k, v⟩ := p
      generalize ev tmps' i = si
      cases si <;> cases s <;> simp only [refs, List.mem_singleton, forall_eq] at hx <;> first | rfl | simp only [hx]
  case fieldAddr t x j => simp only [core, ht x (by simp [opnds])]
  case field t x j => simp only [core, ht x (by simp [opnds])]
  case indexAddr t x i => simp only [core, ht x (by simp [opnds]), ht i (by simp [opnds]), indexB_frame (hH x (by simp [opnds]))]
  case index t x i => simp only [core, ht x (by simp [opnds]), ht i (by simp [opnds])]
  case extract x j => simp only [core, ht x (by simp [opnds])]
  case call c =>
    obtain ⟨callee, args, argTypes⟩ := c
    cases callee <;> try rfl
    rename_i b
    have h1 := evs_frame (tmps := tmps) (tmps' := tmps') (l := args.toList) (fun z hz => ht z (by simpa [opnds] using hz))
    simp only [core, h1]
    refine builtinB_frame (fun x hx id hid => ?_)
    obtain ⟨z, hz, rfl⟩ := List.mem_map.1 hx
    exact hH z (by simpa [opnds] using hz) id hid

theorem crowB_frame {C : Ctx E} {fresh : Nat} {o : Op} (ht : ∀ x ∈ opnds o, ev tmps x = ev tmps' x) : crowB E C fresh tmps o = crowB E C fresh tmps' o := by
  unfold crowB
  cases o <;> try rfl
  case makeSlice t x y => simp only [ht x (by simp [opnds]), ht y (by simp [opnds])]

theorem inner1_frame {s : SV E.T} (h : ∀ id ∈ inner1 H' s, look H id = look H' id) : inner1 H s = inner1 H' s := by
  cases s <;> try rfl
  rename_i id n
  have e : look H id = look H' id := h id (by
    simp only [inner1]; split <;> simp)
  simp only [inner1, e]

theorem frz_frame {s : SV E.T} (h : ∀ id ∈ inner1 H' s, look H id = look H' id) : rowToDat H (frz1 E H s) = rowToDat H (frz1 E H' s) := by
  cases s <;> try rfl
  all_goals try (rename_i id; have e : look H id = look H' id := h id (by simp [inner1]); simp only [frz1, e]; done)
  rename_i id n
  have e : look H id = look H' id := h id (by
    simp only [inner1]; split <;> simp)
  simp only [frz1, e]
  split
  · rename_i t cs hl
    have hm : cs.map (rowToDat H) = cs.map (rowToDat H') := mapDat_frame (fun i hi => h i (by simp only [inner1, hl]; exact List.mem_cons_of_mem _ hi))
    rw [hm]
  · rfl

theorem frz_dat {s : SV E.T} (h : ∀ id ∈ inner1 H' s, look H id = look H' id) (h2 : ∀ id, s = .row id → look H id = look H' id) : rowToDat H (frz1 E H s) = rowToDat H' (frz1 E H' s) := by
  rw [frz_frame h]
  cases s <;> try rfl
  · rename_i id
    simp only [frz1, rowToDat, h2 id rfl]
  · simp only [frz1]
    split
    · split
      · split <;> rfl
      · rfl
    · rfl
  · simp only [frz1]
    split <;> rfl

theorem flatMap_frame {f g : SV E.T → List Nat} : ∀ {cs : List (SV E.T)}, (∀ s ∈ cs, f s = g s) → cs.flatMap f = cs.flatMap g
  | [], _ => rfl
  | c :: r, h => by rw [List.flatMap_cons, List.flatMap_cons, h c (by simp), flatMap_frame (fun s hs => h s (by simp [hs]))]
theorem cvI_frame : ∀ (n : Nat) {s : SV E.T}, (∀ id ∈ cvI H' n s, look H id = look H' id) → cvI H n s = cvI H' n s
  | 0, _, _ => rfl
  | n + 1, s, h => by
    have IH := fun {s : SV E.T} => cvI_frame n (s := s)
    cases s with
    | ptr id off =>
      have e : look H id = look H' id := h id (by simp [cvI])
      simp only [cvI, e] at h ⊢
      split
      · rename_i t cs hl
        rw [hl] at h
        rw [flatMap_frame (fun s hs => IH (fun i hi => h i (List.mem_cons_of_mem _ (List.mem_flatMap.2 ⟨s, hs, hi⟩))))]
      · rfl
    | fn f caps =>
      simp only [cvI] at h ⊢
      exact flatMap_frame (fun s hs => IH (fun i hi => h i (List.mem_flatMap.2 ⟨s, hs, hi⟩)))
    | row id => rfl
    | _ => simp only [cvI] at h ⊢; exact inner1_frame h
theorem cv_frame : ∀ (n : Nat) {s : SV E.T}, (∀ id ∈ cvI H' n s, look H id = look H' id) → cv E H n s = cv E H' n s
  | 0, s, _ => by unfold cv; rfl
  | n + 1, s, h => by
    have IH := fun {s : SV E.T} => cv_frame n (s := s)
    cases s with
    | ptr id off =>
      have e : look H id = look H' id := h id (by simp [cvI])
      simp only [cvI] at h
      simp only [cv, e]
      split
      · rename_i t cs hl
        rw [hl] at h
        rw [List.map_congr_left (fun s hs => IH (fun i hi => h i (List.mem_cons_of_mem _ (List.mem_flatMap.2 ⟨s, hs, hi⟩))))]
      · rfl
    | fn f caps =>
      simp only [cvI] at h
      simp only [cv]
      rw [List.map_congr_left (fun s hs => IH (fun i hi => h i (List.mem_flatMap.2 ⟨s, hs, hi⟩)))]
    | row i => exact frz_dat (H := H) (H' := H') (s := .row i) (fun id hid => by simp [inner1] at hid) (fun id hid => by cases hid; exact h i (by simp [cvI]))
    | _ => simp only [cvI] at h; simp only [cv]; exact frz_dat h (fun _ hid => by cases hid)

theorem toData2_frame {x : SV E.T} (h : ∀ id ∈ idsH H' x, look H id = look H' id) : toData2 E H x = toData2 E H' x := by
  cases x with
  | agg cs =>
    simp only [toData2, SV.agg.injEq]
    refine List.map_congr_left fun s hs => frz_dat (fun id hid => h id ?_) (fun id hid => h id ?_)
    · exact List.mem_append_right _ (List.mem_flatMap.2 ⟨s, hs, hid⟩)
    · subst hid
      refine List.mem_append_left _ ?_
      clear h
      induction cs with
      | nil => cases hs
      | cons c r ih =>
        rcases List.mem_cons.1 hs with rfl | hs
        · simp [rowIds1]
        · have := ih hs
          cases c <;> simp [rowIds1, this]
  | row i => exact frz_dat (H := H) (H' := H') (s := .row i) (fun id hid => by simp [inner1] at hid) (fun id hid => by cases hid; exact h i (by simp [idsH]))
  | crow i n => exact frz_dat (H := H) (H' := H') (s := .crow i n) h (fun id hid => by cases hid)
  | map i => exact frz_dat (H := H) (H' := H') (s := .map i) h (fun id hid => by cases hid)
  | ptr i o => exact cv_frame (H := H) (H' := H') 6 (s := .ptr i o) h
  | fn f c => exact cv_frame (H := H) (H' := H') 6 (s := .fn f c) h
  | _ => rfl

theorem idsH_frame {x : SV E.T} (h : ∀ id ∈ idsH H' x, look H id = look H' id) : idsH H x = idsH H' x := by
  cases x with
  | agg cs =>
    simp only [idsH]
    congr 1
    have : ∀ l : List (SV E.T), (∀ s ∈ l, ∀ id ∈ inner1 H' s, look H id = look H' id) → l.flatMap (inner1 H) = l.flatMap (inner1 H') := by
      intro l
      induction l with
      | nil => intro _; rfl
      | cons c r ih => intro hl; rw [List.flatMap_cons, List.flatMap_cons, inner1_frame (hl c (by simp)), ih (fun s hs => hl s (by simp [hs]))]
    exact this cs (fun s hs id hid => h id (List.mem_append_right _ (List.mem_flatMap.2 ⟨s, hs, hid⟩)))
  | crow i n => exact inner1_frame (H := H) (H' := H') (s := .crow i n) h
  | ptr i o => exact cvI_frame (H := H) (H' := H') 6 (s := .ptr i o) h
  | fn f c => exact cvI_frame (H := H) (H' := H') 6 (s := .fn f c) h
  | _ => rfl

theorem rowIdsH_frame {l : List (SV E.T)} (h : ∀ x ∈ l, ∀ id ∈ idsH H' x, look H id = look H' id) : rowIdsH H l = rowIdsH H' l := by
  induction l with
  | nil => rfl
  | cons c r ih =>
    simp only [rowIdsH, List.flatMap_cons] at ih ⊢
    rw [idsH_frame (h c (by simp)), ih (fun x hx => h x (by simp [hx]))]

theorem dataArgs_frame {args : List (SV E.T)} (h : ∀ x ∈ args, ∀ id ∈ idsH H' x, look H id = look H' id) : dataArgs E H args = dataArgs E H' args := by
  unfold dataArgs
  have : args.map (toData2 E H) = args.map (toData2 E H') := List.map_congr_left fun x hx => toData2_frame (h x hx)
  rw [this]

theorem idsH_sub {x : SV E.T} {id : Nat} (h : id ∈ idsH H x) : id ∈ refsH H x := by
  cases x <;> first | exact h | (simp [idsH, inner1] at h; done) | exact List.mem_append_right _ (List.mem_append_right _ h)

theorem refs_sub {x : SV E.T} {id : Nat} (h : id ∈ refs x) : id ∈ refsH H x := by
  cases x <;> first | exact h | (simp [refs] at h; done) | exact List.mem_append_left _ h | (simp only [refs, List.mem_singleton] at h; subst h; exact List.mem_cons_self) | skip
  simp [refs] at h; subst h
  simp only [refsH, inner1]
  split <;> simp

theorem refsH_agree {x : SV E.T} (h : ∀ id ∈ refsH H x, look H' id = look H id) : refsH H' x = refsH H x := by
  cases x with
  | agg cs => exact idsH_frame (H := H') (H' := H) (x := .agg cs) h
  | crow i n => exact inner1_frame (H := H') (H' := H) (s := .crow i n) h
  | fn f caps =>
    simp only [refsH]
    rw [rowIdsH_frame (H := H') (H' := H) (l := caps) (fun x hx id hid => h id (List.mem_append_right _ (List.mem_append_left _ (List.mem_flatMap.2 ⟨x, hx, hid⟩)))), cvI_frame (H := H') (H' := H) 6 (s := .fn f caps) (fun id hid => h id (List.mem_append_right _ (List.mem_append_right _ hid)))]
  | ptr i o => exact cvI_frame (H := H') (H' := H) 6 (s := .ptr i o) h
  | _ => rfl

theorem refsLH_mem {x : Operand} {l : List Operand} (hx : x ∈ l) {id : Nat} (h : id ∈ refsH H (ev tmps x)) : id ∈ refsLH H tmps l := by
  induction l with
  | nil => cases hx
  | cons y r ih =>
    simp only [refsLH, List.mem_append]
    rcases List.mem_cons.1 hx with rfl | hx
    · exact .inl h
    · exact .inr (ih hx)
end

/-! Keys that are equal are equal cell by cell -/
theorem bytes_eq {a b : ByteArray} (h : (a == b) = true) : a = b := by
  cases a
  cases b
  exact congrArg ByteArray.mk (eq_of_beq h)
theorem eqS_eq {T : Nat → Type} {z : ZC} {x y : SV T} (h : eqS z x y = some true) : x = y := by
  unfold eqS at h
  split at h
  · split at h
    · split at h
      · split at h
        · rename_i h1 h2
          have e1 := kEq_eq h1
          have e2 := kEq_eq h2
          subst e1
          subst e2
          simp only [Option.some.injEq, beq_iff_eq] at h
          rw [h]
        · cases h
      · cases h
    · cases h
  · split at h
    · split at h
      · simp only [Option.some.injEq, beq_iff_eq] at h
        rw [h]
      · cases h
    · cases h
  · split at h
    · split at h
      · simp only [Option.some.injEq] at h
        rw [bytes_eq h]
      · cases h
    · cases h
  · split at h
    · split at h
      · split at h
        · rename_i h1 h2
          simp only [Bool.and_eq_true] at h1 h2
          have e1 := kEq_eq h1.1
          have e2 := kEq_eq h1.2
          have e3 := Nat.eq_of_beq_eq_true h2.1
          have e4 := Nat.eq_of_beq_eq_true h2.2
          subst e1
          subst e2
          subst e3
          subst e4
          simp only [Option.some.injEq, beq_iff_eq] at h
          rw [h]
        · cases h
      · cases h
    · cases h
  · cases h
theorem eqL_eq {T : Nat → Type} : ∀ {zs : List ZC} {a b : List (SV T)}, eqL zs a b = some true → a = b
  | [], a, b, h => by
    cases a with
    | nil => cases b with
      | nil => rfl
      | cons => cases h
    | cons => cases h
  | z :: zs, a, b, h => by
    cases a with
    | nil => cases h
    | cons x r => cases b with
      | nil => cases h
      | cons y r' =>
        unfold eqL at h
        simp only at h
        split at h
        · rename_i a0 ha
          cases zs with
          | nil =>
            simp only at h
            split at h
            · cases h
              rw [eqS_eq ha]
            · cases h
          | cons z' zs =>
            simp only at h
            split at h
            · rename_i b0 hb
              cases a0 with
              | false => simp [andb] at h
              | true =>
                have hb0 : b0 = true := by simpa [andb] using h
                rw [hb0] at hb
                rw [eqS_eq ha, eqL_eq hb]
            · cases h
        · cases h
theorem keyEq_enc {kt : Nat} {x y : E.T kt} (h : keyEq E kt x y = true) : E.enc kt x = E.enc kt y := by
  unfold keyEq at h
  split at h
  · rename_i b hb
    rw [h] at hb
    exact eqL_eq hb
  · cases h
theorem mGet_mEnt {kt : Nat} {β : Type} {k k2 : E.T kt} {z : β} : ∀ l : List (E.T kt × β), mGet (keyEq E kt k2) z (mEnt (keyEq E kt k) k z l) = mGet (keyEq E kt k2) z l
  | [] => by
    simp only [mEnt, mGet]
    split <;> rfl
  | p :: r => by
    cases hp : keyEq E kt k p.1 with
    | true =>
      have e : keyEq E kt k2 k = keyEq E kt k2 p.1 := by
        have := keyEq_enc hp
        simp only [keyEq, this]
      simp only [mEnt, hp, mGet, e]
    | false =>
      simp only [mEnt, hp, mGet, mGet_mEnt r]

/-- Rows as long, maps that answer alike, or the same. -/
def Shaped {E : Env} (a b : HS E.T) : Prop := a = b ∨ (∃ e l l', a = .live (.row e l) ∧ b = .live (.row e l') ∧ l.length = l'.length) ∨
  ∃ kt vt l l', a = .live (.map kt vt l) ∧ b = .live (.map kt vt l') ∧ ∀ key z, (zeroB E vt).bind (E.dec vt) = some z → mGet (keyEq E kt key) z l = mGet (keyEq E kt key) z l'
theorem Shaped.refl (a : HS E.T) : Shaped a a := .inl rfl
theorem Shaped.symm {a b : HS E.T} (h : Shaped a b) : Shaped b a := by
  rcases h with h | ⟨e, l, l', h1, h2, h3⟩ | ⟨kt, vt, l, l', h1, h2, h3⟩
  · exact .inl h.symm
  · exact .inr (.inl ⟨e, l', l, h2, h1, h3.symm⟩)
  · exact .inr (.inr ⟨kt, vt, l', l, h2, h1, fun k z hz => (h3 k z hz).symm⟩)

/-- Two states that an operation cannot tell apart. -/
structure Agree (looks R : List Nat) (st st' : St E.T) : Prop where
  tmp : ∀ t ∈ looks, nth st.tmps t = nth st'.tmps t
  look : ∀ id, 2 * id ∈ R → look st.heap id = look st'.heap id
  fresh : ∀ id, 2 * id ∈ R → freshB st.heap id = freshB st'.heap id
  shape : ∀ id, 2 * id + 1 ∈ R → Shaped (Go.Vg.look st.heap id) (Go.Vg.look st'.heap id)
  next : st.next = st'.next

theorem fullK_mem {l : List Nat} {k : Nat} (h : k ∈ l) : 2 * k ∈ fullK l ∧ 2 * k + 1 ∈ fullK l := by
  induction l with
  | nil => cases h
  | cons x r ih =>
    simp only [fullK, List.mem_cons]
    rcases List.mem_cons.1 h with rfl | h
    · exact ⟨.inl rfl, .inr (.inl rfl)⟩
    · exact ⟨.inr (.inr (ih h).1), .inr (.inr (ih h).2)⟩

theorem indexB_shape {H H' : List (Nat × HS E.T)} {t id : Nat} {i : Int} (h : Shaped (Go.Vg.look H id) (Go.Vg.look H' id)) : indexB E H t (.row id) i = indexB E H' t (.row id) i := by
  rcases h with h | ⟨e, l, l', h1, h2, h3⟩ | ⟨kt, vt, l, l', h1, h2, _⟩
  · unfold indexB; simp only [h]
  · unfold indexB; simp only [h1, h2, h3]
  · unfold indexB; simp only [h1, h2]
theorem lookup_shape {H H' : List (Nat × HS E.T)} {fresh t id : Nat} {tmps tmps' : List (SV E.T)} {x i x' i' : Operand} (hx : ev tmps x = .map id) (hx' : ev tmps' x' = .map id) (hi : ev tmps i = ev tmps' i') (h : Shaped (Go.Vg.look H id) (Go.Vg.look H' id)) : core E fresh tmps H (.lookup t x i false) = core E fresh tmps' H' (.lookup t x' i' false) := by
  simp only [core, hx, hx', hi, mapAt]
  cases mapB E t with
  | none => rfl
  | some kv =>
    obtain ⟨k, v⟩ := kv
    simp only
    rcases h with h | ⟨e, l, l', h1, h2, h3⟩ | ⟨kt, vt, l, l', h1, h2, h3⟩
    · rw [h]
    · simp only [h1, h2]
    · simp only [h1, h2]
      split
      · rename_i key z _ _ hz
        rw [h3 key z hz]
      · rfl

theorem core_agree {fresh : Nat} {o : Op} {st st' : St E.T} {R : List Nat} (ht : ∀ x ∈ opnds o, ev st.tmps x = ev st'.tmps x) (hR : ∀ k ∈ readsK st'.heap st'.tmps o, k ∈ R)
    (hl : ∀ id, 2 * id ∈ R → look st.heap id = look st'.heap id) (hs : ∀ id, 2 * id + 1 ∈ R → Shaped (look st.heap id) (look st'.heap id)) : core E fresh st.tmps st.heap o = core E fresh st'.tmps st'.heap o := by
  have full : readsK st'.heap st'.tmps o = fullK (refsLH st'.heap st'.tmps (opnds o)) → core E fresh st.tmps st.heap o = core E fresh st'.tmps st'.heap o := fun e =>
    core_frame ht (fun x hx id hid => hl id (hR _ (e ▸ (fullK_mem (refsLH_mem hx (refs_sub hid))).1)))
  cases o <;> try exact full rfl
  case move x => simp only [core, ht x (by simp [opnds])]
  case assign x => simp only [core, ht x (by simp [opnds])]
  case indexAddr t x i =>
    cases hx : ev st'.tmps x with
    | row id =>
      have := hs id (hR _ (by simp [readsK, hx]))
      simp only [core, ht x (by simp [opnds]), ht i (by simp [opnds]), hx, indexB_shape this]
    | _ => exact full (by simp only [readsK, hx])
  case lookup t x i ok =>
    cases ok with
    | true => exact full rfl
    | false =>
      cases hx : ev st'.tmps x with
      | map id => exact lookup_shape ((ht x (by simp [opnds])).trans hx) hx (ht i (by simp [opnds])) (hs id (hR _ (by simp [readsK, hx])))
      | _ => exact full (by simp only [readsK, hx])

theorem stepD_frame {C : Ctx E} {orc : SV E.T} {fresh : Nat} {o : Oper} {st st' : St E.T} (h : Agree (tmpsOf (opnds o.op)) ((match allocs o.op with | true => fullK [fresh] | false => []) ++ readsK st'.heap st'.tmps o.op) st st') :
    stepD E C orc fresh o st = stepD E C orc fresh o st' := by
  have ht : ∀ x ∈ opnds o.op, ev st.tmps x = ev st'.tmps x := fun x hx => by
    cases x with
    | tmp t =>
      refine h.tmp t ?_
      generalize opnds o.op = l at hx
      induction l with
      | nil => cases hx
      | cons y r ih =>
        rcases List.mem_cons.1 hx with rfl | hx2
        · simp [tmpsOf]
        · have := ih hx2
          clear hx
          cases y <;> simp [tmpsOf, this]
    | _ => rfl
  have hfr : freshOk o.op st fresh = freshOk o.op st' fresh := by
    unfold freshOk
    cases ha : allocs o.op with
    | false => rfl
    | true => rw [h.fresh fresh (by simp [ha, fullK]), h.next]
  unfold stepD
  rw [hfr, core_agree ht (fun k hk => List.mem_append_right _ hk) h.look h.shape, crowB_frame ht]
  cases hop : o.op <;> try rfl
  case call c =>
    obtain ⟨callee, args, argTypes⟩ := c
    have hHH : ∀ x ∈ opnds o.op, ∀ id ∈ refsH st'.heap (ev st'.tmps x), look st.heap id = look st'.heap id := fun x hx id hid => h.look id (List.mem_append_right _ (by
      rw [hop] at hx ⊢
      exact (fullK_mem (refsLH_mem hx hid)).1))
    rw [hop] at ht hHH
    cases callee <;> try rfl
    rename_i f
    have hf : ev st.tmps f = ev st'.tmps f := ht f (by simp [opnds])
    have ha : evs st.tmps args.toList = evs st'.tmps args.toList := evs_frame (fun z hz => ht z (by simp only [opnds]; exact List.mem_cons_of_mem _ (by simpa using hz)))
    simp only [hf, ha]
    cases hfe : ev st'.tmps f <;> try rfl
    rename_i g caps
    have hids : ∀ x ∈ evs st'.tmps args.toList ++ caps, ∀ id ∈ idsH st'.heap x, look st.heap id = look st'.heap id := fun x hx id hid => by
      rcases List.mem_append.1 hx with hx | hx
      · obtain ⟨z, hz, rfl⟩ := List.mem_map.1 hx
        exact hHH z (by simp only [opnds]; exact List.mem_cons_of_mem _ (by simpa using hz)) id (idsH_sub hid)
      · refine hHH f (by simp [opnds]) id ?_
        rw [hfe]
        exact List.mem_append_right _ (List.mem_append_left _ (List.mem_flatMap.2 ⟨x, hx, hid⟩))
    have hd := dataArgs_frame hids
    have hr := rowIdsH_frame hids
    simp only [hd, hr]

end Go.Vg
