/- Two sides that set two fields: plain. -/
import Derived.Test.YtgeegdnkheckcaaGreatPOne
import Derived.Test.YtgeegdnkheckcaaGreatGSet
import Derived.Test.YtgeegdnkheckcaaGreatFew
set_option linter.unusedVariables false
namespace Go.Proofs.YtgeegdnkheckcaaGreat
open Lay (rep)

/-- An object with a value set, if its id is that. -/
def updO (id : Int) (k : Nat) (v : Vl) (y : Ob) : Ob := if y.id = id then { y with f := y.f.set k v } else y
def updG (g : Gr) (id : Int) (k : Nat) (v : Vl) : Gr := { g with o := g.o.map (updO id k v) }
theorem updO_id (id : Int) (k : Nat) (v : Vl) (y : Ob) : (updO id k v y).id = y.id := by unfold updO; split <;> rfl
theorem updO_t (id : Int) (k : Nat) (v : Vl) (y : Ob) : (updO id k v y).t = y.t := by unfold updO; split <;> rfl
theorem updO_len (id : Int) (k : Nat) (v : Vl) (y : Ob) : (updO id k v y).f.length = y.f.length := by unfold updO; split <;> simp
theorem updO_with (id : Int) (k : Nat) (v : Vl) (y : Ob) : { y with f := (updO id k v y).f } = updO id k v y := by
  cases y with
  | mk a b c => by_cases h : a = id <;> simp [updO, h]
theorem updO_get (id : Int) (k : Nat) (v : Vl) (y : Ob) (m : Nat) (hm : m < y.f.length) : (updO id k v y).f.getD m default = if y.id = id ∧ m = k then v else y.f.getD m default := by
  unfold updO
  by_cases h : y.id = id
  · rw [if_pos h]
    by_cases hk : m = k
    · subst hk; simp [h, List.getD_eq_getElem?_getD, hm]
    · simp [h, hk, List.getD_eq_getElem?_getD, hm, Ne.symm hk]
  · simp [h]
theorem obOf_upd {g : Gr} {id : Int} {k : Nat} {v : Vl} (i : Int) : obOf (updG g id k v) i = (obOf g i).map (updO id k v) := by
  unfold obOf updG
  simp only [List.find?_map]
  congr 2
  funext y
  simp [updO_id]
theorem typ_upd {l : List Ob} {id : Int} {k : Nat} {v : Vl} (i : Int) : typ (l.map (updO id k v)) i = typ l i := by
  unfold typ
  rw [← List.map_reverse, List.find?_map, Option.map_map]
  have e1 : ((fun o : Ob => o.id == i) ∘ updO id k v) = fun o : Ob => o.id == i := by funext y; simp [updO_id]
  have e2 : ((fun o : Ob => o.t) ∘ updO id k v) = fun o : Ob => o.t := by funext y; simp [updO_t]
  rw [e1, e2]
theorem leads_upd {g : Gr} {id : Int} {k : Nat} {v : Vl} (f : Fld) (u : Vl) : leads (updG g id k v) f u = leads g f u := by
  unfold leads
  simp only [updG, typ_upd]
theorem allFrom_iff {α : Type} {p : Nat → α → Bool} {l : List α} : allFrom p 0 l = true ↔ ∀ j (h : j < l.length), p j l[j] = true := by
  refine ⟨fun h j hj => allFrom_get0 h j hj, fun h => ?_⟩
  have : ∀ (l : List α) (k : Nat), (∀ j (h : j < l.length), p (k + j) l[j] = true) → allFrom p k l = true := fun l => by
    induction l with
    | nil => intro k _; rfl
    | cons x l ih =>
      intro k hk
      simp only [allFrom, Bool.and_eq_true]
      refine ⟨by have := hk 0 (by simp); simpa only [Nat.add_zero, List.getElem_cons_zero] using this, ih (k + 1) fun j hj => ?_⟩
      have := hk (j + 1) (by simpa using hj)
      rw [show k + 1 + j = k + (j + 1) by omega]
      simpa using this
  exact this l 0 fun j hj => by rw [Nat.zero_add]; exact h j hj
theorem objOk_upd {g : Gr} {id : Int} {k : Nat} {v : Vl} {la : Int} {y : Ob} (h : objOk g la y = true) (hl : y.id = id → leads g ((fieldsOf g.s y.t).getD k default) v = true) : objOk (updG g id k v) la (updO id k v y) = true := by
  simp only [objOk, Bool.and_eq_true, decide_eq_true_eq, updO_id, updO_t, updO_len] at h ⊢
  obtain ⟨⟨⟨⟨⟨h1, h2⟩, h3⟩, h4⟩, h5⟩, h6⟩ := h
  refine ⟨⟨⟨⟨⟨h1, h2⟩, h3⟩, h4⟩, h5⟩, allFrom_iff.2 fun j hj => ?_⟩
  have hj' : j < y.f.length := by rw [updO_len] at hj; exact hj
  have e : (updO id k v y).f[j] = if y.id = id ∧ j = k then v else y.f[j] := by
    have := updO_get id k v y j hj'
    simpa [List.getD_eq_getElem?_getD, hj', hj] using this
  rw [e, leads_upd]
  show leads g ((fieldsOf g.s y.t).getD j default) _ = true
  split
  · rename_i hh
    rw [hh.2]; exact hl hh.1
  · exact allFrom_get0 h6 j hj'
theorem chain_upd {g : Gr} {id : Int} {k : Nat} {v : Vl} : ∀ {l : List Ob} {la : Int}, chain g la l = true → (∀ y ∈ l, y.id = id → leads g ((fieldsOf g.s y.t).getD k default) v = true) → chain (updG g id k v) la (l.map (updO id k v)) = true
  | [], _, _, _ => rfl
  | y :: l, la, h, hl => by
    simp only [chain, Bool.and_eq_true, List.map_cons, updO_id] at h ⊢
    exact ⟨objOk_upd h.1 (hl y (List.mem_cons_self ..)), chain_upd h.2 fun z hz => hl z (List.mem_cons_of_mem _ hz)⟩
theorem may_upd {g : Gr} {id : Int} {k : Nat} {v : Vl} (M : MayG g) (hl : ∀ y, obOf g id = some y → leads g ((fieldsOf g.s y.t).getD k default) v = true) : MayG (updG g id k v) := by
  refine ⟨M.sch, by simp [updG]; exact M.objs, M.roots, chain_upd M.ch fun y hy he => hl y (by rw [← he]; exact M.obOf hy), ?_⟩
  have := M.rootsOk
  rw [List.any_eq_false] at this ⊢
  intro r hr
  have h2 := this r hr
  simp only [oddRoot, updG, typ_upd] at h2 ⊢
  exact h2
/-- A setting that is done. -/
theorem setM_ok {g a : Gr} {id field : Int} {v : Vl} (h : setM g id field v = (a, 0)) :
    MayG g ∧ ∃ x, obOf g id = some x ∧ ∃ k : Nat, field = k ∧ k < x.f.length ∧ leads g ((fieldsOf g.s x.t).getD k default) v = true ∧ a = updG g id k v := by
  unfold setM at h
  split at h
  case isFalse => simp at h
  case isTrue hm =>
    have M := mayG hm
    refine ⟨M, ?_⟩
    cases ho : obOf g id with
    | none => rw [ho] at h; simp at h
    | some x =>
      rw [ho] at h
      simp only at h
      split at h
      · simp at h
      · rename_i hf
        split at h
        · rename_i hl
          obtain ⟨k, rfl⟩ : ∃ k : Nat, field = k := ⟨field.toNat, by omega⟩
          refine ⟨x, rfl, k, rfl, by omega, by simpa using hl, ?_⟩
          simp only [Prod.mk.injEq, and_true] at h
          rw [← h]
          unfold updG
          congr 1
          rcases gfind_spec g id with ⟨_, h2⟩ | ⟨j, hj, hfi, h2⟩
          · rw [ho] at h2; cases h2
          rw [ho] at h2
          obtain rfl : x = g.o[j] := Option.some.inj h2
          have hid := (obOf_mem ho).2
          rw [hfi]
          apply List.ext_getElem
          · simp
          · intro m h1 h2
            have hm' : m < g.o.length := by simpa using h1
            rw [List.getElem_map]
            by_cases hmj : m = j
            · subst hmj
              simp [updO, hid]
            · have hne : g.o[m].id ≠ id := fun e => by
                have hp := List.pairwise_iff_getElem.1 M.sorted
                rcases Nat.lt_or_gt_of_ne hmj with hlt | hlt
                · have := hp m j hm' hj hlt; omega
                · have := hp j m hj hm' hlt; omega
              have hjm : ¬ j = m := fun e => hmj e.symm
              simp [updO, hne, hjm]
        · simp at h
theorem setM_upd {g : Gr} {id : Int} {k : Nat} {v : Vl} {x : Ob} (M : MayG g) (hx : obOf g id = some x) (hk : k < x.f.length) (hl : leads g ((fieldsOf g.s x.t).getD k default) v = true) : setM g id k v = (updG g id k v, 0) := by
  have h2 : (setM g id k v).2 = 0 := by
    rw [setM_some M.may hx, if_neg (by omega)]
    simp only [Int.toNat_natCast, hl, if_true]
  obtain ⟨_, x', hx', k', hk', _, _, ha⟩ := setM_ok (g := g) (a := (setM g id k v).1) (id := id) (field := k) (v := v) (by rw [← h2])
  obtain rfl : k = k' := by omega
  rw [← ha, ← h2]
theorem fit_few {g : Gr} (h : few08 g = true) : Fit g := by
  simp only [few08, few06, Bool.and_eq_true, decide_eq_true_eq] at h
  obtain ⟨⟨⟨⟨h1, h2⟩, h3⟩, h4⟩, h5⟩ := h
  refine ⟨by omega, fun t ht => ?_, by omega, fun x hx => ?_, by omega⟩
  · obtain ⟨j, hj, rfl⟩ := List.getElem_of_mem ht
    have := allFrom_get0 h1 j hj
    simp only [decide_eq_true_eq] at this
    omega
  · obtain ⟨j, hj, rfl⟩ := List.getElem_of_mem hx
    have := allFrom_get0 h5 j hj
    simp only [decide_eq_true_eq] at this
    omega
theorem diff_upd {g h : Gr} (hg : grMay g = true) (hh : grMay h = true) (hs : g.s = h.s) (ht : ∀ x ∈ g.o, ∀ y, obOf h x.id = some y → x.t = y.t) : (diffOf g h).2 = 0 := by
  rw [diffErr hg hh, if_pos ⟨hs, diffO_iff.2 ht⟩]
section
variable {o : Gr} {i j : Int} {k n : Nat} {v u : Vl} {x y : Ob}
theorem apart (M : MayG o) (hx : obOf o i = some x) (hk : k < x.f.length) (hv : leads o ((fieldsOf o.s x.t).getD k default) v = true) (hy : obOf o j = some y) (hn : n < y.f.length) (hu : leads o ((fieldsOf o.s y.t).getD n default) u = true) (hne : ¬ (i = j ∧ k = n)) :
    mergeM o (updG o i k v) (updG o j n u) = (sweepM (updG (updG o i k v) j n u), chNil, 0) ∧ setM (updG o i k v) j n u = (updG (updG o i k v) j n u, 0) := by
  have Ma : MayG (updG o i k v) := may_upd M fun z hz => by rw [hx] at hz; cases hz; exact hv
  have Mb : MayG (updG o j n u) := may_upd M fun z hz => by rw [hy] at hz; cases hz; exact hu
  have hlu : ∀ z, obOf (updG o i k v) j = some z → leads (updG o i k v) ((fieldsOf o.s z.t).getD n default) u = true := fun z hz => by
    rw [obOf_upd, hy] at hz
    cases hz
    rw [leads_upd, updO_t]; exact hu
  have Mh : MayG (updG (updG o i k v) j n u) := may_upd Ma hlu
  refine ⟨?_, setM_upd (x := updO i k v y) Ma (by rw [obOf_upd, hy]; rfl) (by rw [updO_len]; exact hn) (hlu _ (by rw [obOf_upd, hy]; rfl))⟩
  have htA : ∀ g : Gr, (∀ id z, obOf g id = some z → ∃ z', obOf o id = some z' ∧ z.t = z'.t) → ∀ z ∈ o.o, ∀ z', obOf g z.id = some z' → z.t = z'.t := fun g hg z hz z' hz' => by
    obtain ⟨z'', h1, h2⟩ := hg _ _ hz'
    rw [M.obOf hz] at h1
    cases h1
    exact h2.symm
  have hua : ∀ id z, obOf (updG o i k v) id = some z → ∃ z', obOf o id = some z' ∧ z.t = z'.t := fun id z hz => by
    rw [obOf_upd] at hz
    obtain ⟨z', h1, rfl⟩ := Option.map_eq_some_iff.1 hz
    exact ⟨z', h1, updO_t _ _ _ _⟩
  have hub : ∀ id z, obOf (updG o j n u) id = some z → ∃ z', obOf o id = some z' ∧ z.t = z'.t := fun id z hz => by
    rw [obOf_upd] at hz
    obtain ⟨z', h1, rfl⟩ := Option.map_eq_some_iff.1 hz
    exact ⟨z', h1, updO_t _ _ _ _⟩
  have d1 : (diffOf o (updG o i k v)).2 = 0 := diff_upd M.may Ma.may rfl (htA _ hua)
  have d2 : (diffOf o (updG o j n u)).2 = 0 := diff_upd M.may Mb.may rfl (htA _ hub)
  have d3 : (diffOf (updG o i k v) (updG o j n u)).2 = 0 := diff_upd Ma.may Mb.may rfl fun z hz z' hz' => by
    obtain ⟨z1, h1, h2⟩ := hub _ _ hz'
    obtain ⟨z2, h3, h4⟩ := hua _ _ (Ma.obOf hz)
    rw [h1] at h3
    cases h3
    rw [h4, h2]
  have hc : checkM o (updG o i k v) (updG o j n u) = 0 := by
    rw [check_may M.may Ma.may Mb.may, if_pos ⟨d1, d3, d2⟩]
    simp [chkR, updG]
  have hobj : ∀ id z, obOf o id = some z → objM o (updG o i k v) (updG o j n u) id = (updO j n u (updO i k v z), []) := fun id z hz => by
    have hat : ∀ m, m < z.f.length → mAt (some z.f) (updO i k v z).f (updO j n u z).f m = ((updO j n u (updO i k v z)).f.getD m default, true) := fun m hm => by
      simp only [mAt]
      rw [updO_get j n u (updO i k v z) m (by rw [updO_len]; exact hm), updO_get i k v z m hm, updO_get j n u z m hm, updO_id]
      by_cases h1 : z.id = i ∧ m = k
      · have h2 : ¬ (z.id = j ∧ m = n) := fun h => hne ⟨h1.1.symm.trans h.1, h1.2.symm.trans h.2⟩
        rw [if_pos h1, if_neg h2, if_neg h2, stands_o]
      · rw [if_neg h1, stands_l]
    unfold objM
    simp only [obOf_upd, hz, Option.map_some]
    have e1 : mF (some z.f) (updO i k v z).f (updO j n u z).f = (updO j n u (updO i k v z)).f := by
      unfold mF
      rw [updO_len]
      apply List.ext_getElem
      · simp [updO_len]
      · intro m h1 h2
        have hm : m < z.f.length := by simpa using h1
        simp only [List.getElem_map, List.getElem_range, hat m hm]
        simp [List.getD_eq_getElem?_getD, h2]
    have e2 : mClash (some z.f) (updO i k v z).f (updO j n u z).f (updO i k v z).f.length = [] := by
      unfold mClash
      rw [List.map_eq_nil_iff, List.filter_eq_nil_iff]
      intro m hm
      rw [updO_len] at hm
      rw [hat m (by simpa using hm)]
      simp
    rw [e1, e2]
    exact congrArg (·, []) (updO_with j n u (updO i k v z))
  refine merge_sweep hc (noClash Ma (fun id => ?_) fun m => ?_) Mh.may rfl (roots_of (Nat.le_refl _) fun m => ?_) fun z hz => ?_
  · cases hz : obOf o id with
    | none => exact objM_none (.inl (by rw [obOf_upd, hz]; rfl))
    | some z => rw [hobj id z hz]
  · show (stands (rootAt o m) (rootAt o m) (rootAt o m)).2 = true
    rw [stands_l]
  · show (stands (rootAt o m) (rootAt o m) (rootAt o m)).1 = rootAt o m
    rw [stands_l]
  · obtain ⟨z1, hz1, rfl⟩ := List.mem_map.1 hz
    obtain ⟨z2, hz2, rfl⟩ := List.mem_map.1 (show z1 ∈ o.o.map (updO i k v) from hz1)
    have hm := M.obOf hz2
    rw [updO_id, updO_id, all_look (.inl (by rw [obOf_upd, hm]; rfl)), hobj _ _ hm]
end
end Go.Proofs.YtgeegdnkheckcaaGreat
