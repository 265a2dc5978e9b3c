/- What is merged is a graph, swept. -/
import Derived.Test.YtgeegdnkheckcaaGreatPReach
set_option linter.unusedVariables false
namespace Go.Proofs.YtgeegdnkheckcaaGreat
open Lay (rep)

theorem nodup_one {l : List Ob} (hn : (l.map (·.id)).Nodup) {x y : Ob} (hx : x ∈ l) (hy : y ∈ l) (he : x.id = y.id) : x = y := by
  obtain ⟨i, hi, rfl⟩ := List.getElem_of_mem hx
  obtain ⟨j, hj, rfl⟩ := List.getElem_of_mem hy
  have hij : i = j := nodup_get' hn (x := l[i].id) (by simp [hi]) (by simp [hj, he])
  subst hij
  rfl
theorem nodup_of_map {l : List Ob} (h : (l.map (·.id)).Nodup) : l.Nodup := by
  rw [List.nodup_iff_pairwise_ne, List.pairwise_map] at h
  rw [List.nodup_iff_pairwise_ne]
  exact h.imp fun h e => h (by rw [e])
theorem lookOb_self {l : List Ob} (hn : (l.map (·.id)).Nodup) {x : Ob} (hx : x ∈ l) : lookOb l x.id = some x := by
  cases h : lookOb l x.id with
  | none =>
    unfold lookOb at h
    rw [List.find?_eq_none] at h
    exact absurd (h x hx) (by simp)
  | some y =>
    obtain ⟨h1, h2⟩ := lookOb_mem h
    rw [nodup_one hn h1 hx h2]
theorem refs_mem : ∀ {fs : List Fld} {vs : List Vl} {r : Int}, r ∈ refs fs vs → ∃ k, ∃ h : k < vs.length, (fs.getD k default).kind = 5 ∧ vs[k].r = r
  | [], vs, r, h => absurd h (by simp [refs])
  | f :: fs, [], r, h => absurd h (by simp [refs])
  | f :: fs, v :: vs, r, h => by
    simp only [refs] at h
    split at h
    · rename_i h5
      rcases List.mem_cons.1 h with rfl | h
      · exact ⟨0, by simp, by simpa using h5, rfl⟩
      · obtain ⟨k, hk, h1, h2⟩ := refs_mem h
        exact ⟨k + 1, by simpa using hk, by simpa using h1, by simpa using h2⟩
    · obtain ⟨k, hk, h1, h2⟩ := refs_mem h
      exact ⟨k + 1, by simpa using hk, by simpa using h1, by simpa using h2⟩
theorem mem_refs : ∀ {fs : List Fld} {vs : List Vl} (k : Nat) (h : k < vs.length), k < fs.length → (fs.getD k default).kind = 5 → vs[k].r ∈ refs fs vs
  | f :: fs, v :: vs, 0, _, _, h5 => by
    have h5' : f.kind = 5 := by simpa using h5
    simp [refs, h5']
  | f :: fs, v :: vs, k + 1, hk, hf, h5 => by
    have := mem_refs (fs := fs) (vs := vs) k (by simpa using hk) (by simpa using hf) (by simpa using h5)
    simp only [refs, List.getElem_cons_succ]
    split
    · exact List.mem_cons_of_mem _ this
    · exact this
theorem MayG.refs {g : Gr} (h : MayG g) {x : Ob} (hx : x ∈ g.o) {r : Int} (hr : r ∈ Go.Proofs.YtgeegdnkheckcaaGreat.refs (fieldsOf g.s x.t) x.f) : r = -1 ∨ (Go.Proofs.YtgeegdnkheckcaaGreat.obOf g r).isSome = true := by
  obtain ⟨k, hk, h5, rfl⟩ := refs_mem hr
  exact h.ref hx k hk h5
section
variable {o a b : Gr}
theorem all_nodup : ((allM o a b).1.map (·.id)).Nodup := (allObs_inv (o := o) (fun _ => True) (fun _ _ => trivial) (a.o ++ b.o) obOf_in).1
theorem all_ok (Ma : MayG a) (Mb : MayG b) (hs : a.s = b.s) : ∀ x ∈ (allM o a b).1, ObOk a.s x :=
  (allObs_inv (o := o) (fun x => ObOk a.s x) (fun id h => objM_ok Ma Mb hs id h) (a.o ++ b.o) obOf_in).2
theorem all_look {k : Int} (h : (obOf a k).isSome = true ∨ (obOf b k).isSome = true) : lookOb (allM o a b).1 k = some (objM o a b k).1 := by
  obtain ⟨h1, h2⟩ := allObs_mem (o := o) (a.o ++ b.o) obOf_in
  have hk : k ∈ (allM o a b).1.map (·.id) := (h2 k).2 (by
    rw [List.map_append, List.mem_append]
    rcases h with h | h
    · obtain ⟨y, hy⟩ := Option.isSome_iff_exists.1 h
      obtain ⟨e1, e2⟩ := obOf_mem hy
      exact .inl (e2 ▸ List.mem_map_of_mem e1)
    · obtain ⟨y, hy⟩ := Option.isSome_iff_exists.1 h
      obtain ⟨e1, e2⟩ := obOf_mem hy
      exact .inr (e2 ▸ List.mem_map_of_mem e1))
  obtain ⟨y, hy, rfl⟩ := List.mem_map.1 hk
  rw [lookOb_self all_nodup hy]
  exact congrArg some (h1 y hy)
theorem look_all {k : Int} {y : Ob} (h : lookOb (allM o a b).1 k = some y) : y = (objM o a b k).1 ∧ ((obOf a k).isSome = true ∨ (obOf b k).isSome = true) := by
  obtain ⟨h1, h2⟩ := allObs_mem (o := o) (a.o ++ b.o) obOf_in
  obtain ⟨h3, h4⟩ := lookOb_mem h
  refine ⟨h4 ▸ h1 y h3, ?_⟩
  have := (h2 k).1 (h4 ▸ List.mem_map_of_mem h3)
  obtain ⟨x, hx, he⟩ := List.mem_map.1 this
  rw [← he]
  exact obOf_in x hx
/-- Where each object of a graph is there, and each root its, what is merged is that graph, swept. -/
theorem merge_ext {h : Gr} (Ma : MayG a) (Mb : MayG b) (hab : a.s = b.s) (hm : grMay h = true) (hs : h.s = a.s) (hr : (allM o a b).2.1 = h.roots) (hext : ∀ x ∈ h.o, lookOb (allM o a b).1 x.id = some x) :
    sortIds (mergeL o a b) = (sweepM h).o ∧ (mergeL o a b).length ≤ 8 := by
  have Mh := mayG hm
  have hok := all_ok (o := o) Ma Mb hab
  have hnd := all_nodup (o := o) (a := a) (b := b)
  have hneg : lookOb (allM o a b).1 (-1) = none := by
    cases hq : lookOb (allM o a b).1 (-1) with
    | none => rfl
    | some y => obtain ⟨h1, h2⟩ := lookOb_mem hq; have := (hok y h1).i0; omega
  have hlift : ∀ k, (obOf h k).isSome = true → lookOb (allM o a b).1 k = obOf h k := fun k hk => by
    obtain ⟨y, hy⟩ := Option.isSome_iff_exists.1 hk
    obtain ⟨h1, h2⟩ := obOf_mem hy
    rw [hy, ← hext y h1, h2]
  have hsome : ∀ r, (r = -1 ∨ (obOf h r).isSome = true) → (lookOb (allM o a b).1 r).isSome = true → (obOf h r).isSome = true := fun r h1 h2 => by
    rcases h1 with rfl | h1
    · rw [hneg] at h2; cases h2
    · exact h1
  have hrefs : ∀ y x r, obOf h y = some x → r ∈ refs (fieldsOf a.s x.t) x.f → r = -1 ∨ (obOf h r).isSome = true := fun y x r h1 h2 => by
    rw [← hs] at h2
    exact Mh.refs (obOf_mem h1).1 h2
  have hboth : ∀ x, Rch a.s (lookOb (allM o a b).1) h.roots x ↔ Rch h.s (obOf h) h.roots x := fun x => by
    constructor
    · intro H C c1 c2
      refine (H (fun y => C y ∧ (obOf h y).isSome = true) (fun r hr hl => ?_) fun y x r hy hl hr hlr => ?_).1
      · have := hsome r (Mh.root hr) hl
        exact ⟨c1 r hr this, this⟩
      · rw [hlift y hy.2] at hl
        have := hsome r (hrefs y x r hl hr) hlr
        exact ⟨c2 y x r hy.1 hl (by rw [hs]; exact hr) this, this⟩
    · intro H C c1 c2
      refine H C (fun r hr hl => c1 r hr (by rw [hlift r hl]; exact hl)) fun y x r hy hl hr hlr => ?_
      exact c2 y x r hy (by rw [hlift y (by rw [hl]; rfl)]; exact hl) (by rw [← hs]; exact hr) (by rw [hlift r hlr]; exact hlr)
  have hcr : ∀ x, (comeM a.s (allM o a b).1 (allM o a b).2.1).contains x = (reachL h).contains x := fun x => by
    rw [Bool.eq_iff_iff, List.contains_iff_mem, List.contains_iff_mem, come_iff hok, reach_iff hm, hr, hboth]
  have hL : mergeL o a b = (allM o a b).1.filter fun x => (reachL h).contains x.id := by
    unfold mergeL
    apply List.filter_congr
    intro x _
    exact hcr x.id
  have hnL : ((mergeL o a b).map (·.id)).Nodup := by
    rw [hL]; exact (List.filter_sublist.map _).nodup hnd
  have hsw : (sweepM h).o = h.o.filter fun x => (reachL h).contains x.id := by simp [sweepM, hm]
  have hsort := (Mh.sorted.sublist (List.filter_sublist (p := fun x => (reachL h).contains x.id)))
  have hnS : ((h.o.filter fun x => (reachL h).contains x.id).map (·.id)).Nodup := by
    rw [List.nodup_iff_pairwise_ne, List.pairwise_map]
    exact hsort.imp fun h => by omega
  have hperm : (mergeL o a b).Perm (h.o.filter fun x => (reachL h).contains x.id) := by
    refine (List.perm_ext_iff_of_nodup (nodup_of_map hnL) (nodup_of_map hnS)).2 fun x => ?_
    rw [hL, List.mem_filter, List.mem_filter]
    refine ⟨fun ⟨h1, h2⟩ => ⟨?_, h2⟩, fun ⟨h1, h2⟩ => ⟨?_, h2⟩⟩
    · have h3 := (reach_iff hm _).1 (List.contains_iff_mem.1 h2)
      have h4 : (obOf h x.id).isSome = true := h3 (fun y => (obOf h y).isSome = true) (fun _ _ h => h) (fun _ _ _ _ _ _ h => h)
      obtain ⟨y, hy⟩ := Option.isSome_iff_exists.1 h4
      have := hlift _ h4
      rw [hy, lookOb_self hnd h1] at this
      rw [Option.some.inj this]
      exact (obOf_mem hy).1
    · exact (lookOb_mem (hext x h1)).1
  refine ⟨?_, ?_⟩
  · rw [hsw]
    exact sorted_unique ((sortIds_perm _).trans hperm) (sortIds_sorted _) (hsort.imp fun h => by omega) (((sortIds_perm _).map _).nodup_iff.2 hnL)
  · rw [hperm.length_eq]
    have := List.length_filter_le (fun x => (reachL h).contains x.id) h.o
    have := Mh.objs
    omega
theorem merge_sweep {h : Gr} (hc : checkM o a b = 0) (hn : cnone (allM o a b).2.2 = true) (hm : grMay h = true) (hs : h.s = a.s) (hr : (allM o a b).2.1 = h.roots) (hext : ∀ x ∈ h.o, lookOb (allM o a b).1 x.id = some x) :
    mergeM o a b = (sweepM h, chNil, 0) := by
  obtain ⟨Ma, Mb, hab, -⟩ := diffOf_ok (check_ok hc).ab
  obtain ⟨h1, h2⟩ := merge_ext Ma Mb hab hm hs hr hext
  have h3 : ¬ 8 < (mergeL o a b).length := by omega
  unfold mergeM
  rw [hc, hn, if_neg (by simp), if_neg (by simp), if_neg h3, h1, hr, ← hs]
  simp [sweepM, hm]
end
end Go.Proofs.YtgeegdnkheckcaaGreat
