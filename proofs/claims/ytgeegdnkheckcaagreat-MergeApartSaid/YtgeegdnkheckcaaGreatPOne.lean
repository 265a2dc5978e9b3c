/- Where one side changed nothing: plain. -/
import Derived.Test.YtgeegdnkheckcaaGreatPMerge
set_option linter.unusedVariables false
namespace Go.Proofs.YtgeegdnkheckcaaGreat
open Lay (rep)

theorem MayG.may {g : Gr} (h : MayG g) : grMay g = true := by
  simp only [grMay, Bool.and_eq_true, decide_eq_true_eq, Bool.not_eq_true']
  exact ⟨⟨⟨⟨h.sch, h.objs⟩, h.roots⟩, h.ch⟩, h.rootsOk⟩
theorem stands_o {α : Type} [DecidableEq α] (o a : α) : stands o a o = (a, true) := by
  unfold stands
  by_cases h : a = o <;> simp [h]
theorem stands_same {α : Type} [DecidableEq α] (o a : α) : stands o a a = (a, true) := by
  unfold stands
  by_cases h : a = o <;> simp [h]
theorem stands_l {α : Type} [DecidableEq α] (o b : α) : stands o o b = (b, true) := by
  unfold stands
  simp
theorem range_getD {α : Type} (l : List α) (d : α) : ((List.range l.length).map fun k => l.getD k d) = l := by
  apply List.ext_getElem
  · simp
  · intro j h1 h2
    simp [List.getD_eq_getElem?_getD, h2]
theorem diff_self {g : Gr} (hm : grMay g = true) : (diffOf g g).2 = 0 := by
  have h : diffO g g.o ≠ none := diffO_iff.2 fun x hx y hy => by
    rw [(mayG hm).obOf hx] at hy
    cases hy
    rfl
  rw [diffErr hm hm, if_pos ⟨rfl, h⟩]
theorem merge_err {o a b : Gr} (h : checkM o a b ≠ 0) : (mergeM o a b).2.2 = checkM o a b := by
  unfold mergeM
  rw [if_pos (by simpa using h)]
theorem check_one {o a : Gr} (ho : grMay o = true) (ha : grMay a = true) :
    checkM o a o = (if (diffOf o a).2 = 0 then (if a.roots.length < o.roots.length then 6 else 0) else 6) ∧ checkM o a a = (if (diffOf o a).2 = 0 then (if a.roots.length < o.roots.length then 6 else 0) else 6) := by
  rw [check_may ho ha ho, check_may ho ha ha, diffErr_comm ha ho, diff_self ho, diff_self ha]
  unfold chkR
  have e1 : (min a.roots.length o.roots.length < o.roots.length) ↔ a.roots.length < o.roots.length := by omega
  have e2 : (min a.roots.length a.roots.length < o.roots.length) ↔ a.roots.length < o.roots.length := by omega
  simp only [e1, e2, and_true, and_self, true_and]

theorem one_bad {o a : Gr} (h : (diffOf o a).2 ≠ 0 ∨ a.roots.length < o.roots.length) : (mergeM o a o).2.2 ≠ 0 ∧ (mergeM o a o).2.2 = (mergeM o a a).2.2 := by
  have key : checkM o a o ≠ 0 ∧ checkM o a o = checkM o a a := by
    by_cases hm : grMay o = true ∧ grMay a = true
    · obtain ⟨h1, h2⟩ := check_one hm.1 hm.2
      rw [h1, h2]
      refine ⟨?_, rfl⟩
      split
      · rename_i h0
        rw [if_pos (h.resolve_left (fun h => h h0))]
        decide
      · decide
    · rw [check_not (fun h => hm ⟨h.1, h.2.1⟩), check_not (fun h => hm ⟨h.1, h.2.1⟩)]
      exact ⟨by decide, rfl⟩
  rw [merge_err key.1, merge_err (by rw [← key.2]; exact key.1)]
  exact key
theorem mF_of {zs : Option (List Vl)} {xs ys : List Vl} (h : ∀ k, mAt zs xs ys k = (xs.getD k default, true)) : mF zs xs ys = xs ∧ mClash zs xs ys xs.length = [] := by
  refine ⟨?_, ?_⟩
  · unfold mF
    rw [show (fun k => (mAt zs xs ys k).1) = fun k => xs.getD k default from funext fun k => by rw [h k]]
    exact range_getD xs default
  · unfold mClash
    rw [List.map_eq_nil_iff, List.filter_eq_nil_iff]
    intro k _
    rw [h k]; simp
theorem objM_o {o a : Gr} {id : Int} {x : Ob} (hx : obOf a id = some x) : objM o a o id = (x, []) := by
  unfold objM
  rw [hx]
  cases hy : obOf o id with
  | none => rfl
  | some y =>
    obtain ⟨e1, e2⟩ := mF_of (zs := some y.f) (xs := x.f) (ys := y.f) (fun k => by simp only [mAt]; exact stands_o _ _)
    simp only [Option.map_some, e1, e2]
theorem objM_o_none {o a : Gr} {id : Int} (hx : obOf a id = none) : (objM o a o id).2 = [] := objM_none (.inl hx)
theorem objM_same {o a : Gr} {id : Int} {x : Ob} (hx : obOf a id = some x) : objM o a a id = (x, []) := by
  unfold objM
  rw [hx]
  simp only
  obtain ⟨e1, e2⟩ := mF_of (zs := (obOf o id).map (·.f)) (xs := x.f) (ys := x.f) (fun k => by
    cases (obOf o id).map (·.f) with
    | none => simp [mAt]
    | some z => simp only [mAt]; exact stands_same _ _)
  rw [e1, e2]
theorem noClash {o a b : Gr} (Ma : MayG a) (h1 : ∀ id, (objM o a b id).2 = []) (h2 : ∀ i, (rootM o a b i).2 = true) : cnone (allM o a b).2.2 = true := by
  have e1 : (allObs o a b (a.o ++ b.o)).2 = [] := by
    rw [allObs_clash Ma, List.flatMap_eq_nil_iff]
    intro x _
    unfold clashOf
    rw [h1]; rfl
  have e2 : rootsClash o a b (max a.roots.length b.roots.length) = [] := by
    unfold rootsClash
    rw [List.map_eq_nil_iff, List.filter_eq_nil_iff]
    intro i _
    rw [h2]; simp
  simp [cnone, allM, e1, e2]
theorem roots_of {o a b : Gr} (hl : b.roots.length ≤ a.roots.length) (h : ∀ i, (rootM o a b i).1 = rootAt a (i : Int)) : (allM o a b).2.1 = a.roots := by
  simp only [allM, Nat.max_eq_left hl, rootsM]
  rw [show (fun i : Nat => (rootM o a b i).1) = fun i : Nat => rootAt a (i : Int) from funext h]
  apply List.ext_getElem
  · simp
  · intro j h1 h2
    simp [rootAt, h2, List.getD_eq_getElem?_getD]
theorem one_ok {o a : Gr} (h0 : (diffOf o a).2 = 0) (h1 : o.roots.length ≤ a.roots.length) : mergeM o a o = (sweepM a, chNil, 0) ∧ mergeM o a a = (sweepM a, chNil, 0) := by
  obtain ⟨Mo, Ma, hs, -⟩ := diffOf_ok h0
  obtain ⟨c1, c2⟩ := check_one Mo.may Ma.may
  rw [if_pos h0, if_neg (by omega)] at c1 c2
  refine ⟨?_, ?_⟩
  · refine merge_sweep c1 (noClash Ma (fun id => ?_) fun i => ?_) Ma.may rfl (roots_of h1 fun i => ?_) fun x hx => ?_
    · cases hx : obOf a id with
      | none => exact objM_none (.inl hx)
      | some x => rw [objM_o hx]
    · unfold rootM; rw [stands_o]
    · unfold rootM; rw [stands_o]
    · have := Ma.obOf hx
      rw [all_look (.inl (by rw [this]; rfl)), objM_o this]
  · refine merge_sweep c2 (noClash Ma (fun id => ?_) fun i => ?_) Ma.may rfl (roots_of (Nat.le_refl _) fun i => ?_) fun x hx => ?_
    · cases hx : obOf a id with
      | none => exact objM_none (.inl hx)
      | some x => rw [objM_same hx]
    · unfold rootM; rw [stands_same]
    · unfold rootM; rw [stands_same]
    · have := Ma.obOf hx
      rw [all_look (.inl (by rw [this]; rfl)), objM_same this]
end Go.Proofs.YtgeegdnkheckcaaGreat
