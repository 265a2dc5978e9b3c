/- What is come to, in plain words: by depth, or by breadth. -/
import Derived.Test.YtgeegdnkheckcaaGreatSweep
import Derived.Test.YtgeegdnkheckcaaGreatTurned
set_option linter.unusedVariables false
namespace Go.Proofs.YtgeegdnkheckcaaGreat
open Lay (rep)

/-- What stays among what is come to, a step on. -/
def Step (s : List Typ) (look : Int → Option Ob) (C : Int → Prop) : Prop := ∀ y o r, C y → look y = some o → r ∈ refs (fieldsOf s o.t) o.f → (look r).isSome = true → C r
/-- What is come to from roots. -/
def Rch (s : List Typ) (look : Int → Option Ob) (roots : List Int) (x : Int) : Prop :=
  ∀ C : Int → Prop, (∀ r ∈ roots, (look r).isSome = true → C r) → Step s look C → C x
/-- Where an id leads is there. -/
def Cl (s : List Typ) (look : Int → Option Ob) (R : List Int) (x : Int) : Prop := ∀ o r, look x = some o → r ∈ refs (fieldsOf s o.t) o.f → (look r).isSome = true → r ∈ R
/-- What a search finds, from ids, behind others. -/
structure Found (s : List Typ) (look : Int → Option Ob) (ids vis R : List Int) : Prop where
  sub : ∀ x ∈ vis, x ∈ R
  has : ∀ r ∈ ids, (look r).isSome = true → r ∈ R
  clo : ∀ x ∈ R, x ∈ vis ∨ Cl s look R x
  snd : ∀ C : Int → Prop, (∀ r ∈ ids, (look r).isSome = true → C r) → Step s look C → ∀ x ∈ R, x ∈ vis ∨ C x
theorem Found.iff {s : List Typ} {look : Int → Option Ob} {ids R : List Int} (h : Found s look ids [] R) (x : Int) : x ∈ R ↔ Rch s look ids x := by
  constructor
  · intro hx C h1 h2
    rcases h.snd C h1 h2 x hx with h3 | h3
    · exact absurd h3 (List.not_mem_nil)
    · exact h3
  · intro hx
    refine hx (· ∈ R) h.has fun y o r hy ho hr hs => ?_
    rcases h.clo y hy with h3 | h3
    · exact absurd h3 (List.not_mem_nil)
    · exact h3 o r ho hr hs
theorem Found.skip {s : List Typ} {look : Int → Option Ob} {id : Int} {vis : List Int} (h : (look id).isSome = true → id ∈ vis) : Found s look [id] vis vis :=
  ⟨fun x hx => hx, fun r hr hs => by rw [List.mem_singleton] at hr; subst hr; exact h hs, fun x hx => .inl hx, fun C _ _ x hx => .inl hx⟩
theorem Found.fold {s : List Typ} {look : Int → Option Ob} {r : Int} {l vis v1 R : List Int} (h1 : Found s look [r] vis v1) (h2 : Found s look l v1 R) : Found s look (r :: l) vis R := by
  refine ⟨fun x hx => h2.sub x (h1.sub x hx), fun y hy hs => ?_, fun x hx => ?_, fun C c1 c2 x hx => ?_⟩
  · rcases List.mem_cons.1 hy with rfl | hy
    · exact h2.sub _ (h1.has _ (List.mem_singleton.2 rfl) hs)
    · exact h2.has y hy hs
  · rcases h2.clo x hx with h | h
    · rcases h1.clo x h with h | h
      · exact .inl h
      · exact .inr fun o q ho hq hs => h2.sub _ (h o q ho hq hs)
    · exact .inr h
  · rcases h2.snd C (fun q hq hs => c1 q (List.mem_cons_of_mem _ hq) hs) c2 x hx with h | h
    · exact h1.snd C (fun q hq hs => c1 q (by rw [List.mem_singleton] at hq; subst hq; exact List.mem_cons_self ..) hs) c2 x h
    · exact .inr h
theorem Found.some {s : List Typ} {look : Int → Option Ob} {id : Int} {o : Ob} {vis R : List Int} (ho : look id = .some o) (h : Found s look (refs (fieldsOf s o.t) o.f) (vis ++ [id]) R) : Found s look [id] vis R := by
  refine ⟨fun x hx => h.sub x (List.mem_append_left _ hx), fun r hr _ => ?_, fun x hx => ?_, fun C c1 c2 x hx => ?_⟩
  · rw [List.mem_singleton] at hr; subst hr
    exact h.sub _ (List.mem_append_right _ (List.mem_singleton.2 rfl))
  · rcases h.clo x hx with h1 | h1
    · rcases List.mem_append.1 h1 with h1 | h1
      · exact .inl h1
      · rw [List.mem_singleton] at h1; subst h1
        refine .inr fun o' r ho' hr hs => h.has r ?_ hs
        rw [ho] at ho'
        cases ho'
        exact hr
    · exact .inr h1
  · have hid : C id := c1 id (List.mem_singleton.2 rfl) (by rw [ho]; rfl)
    rcases h.snd C (fun r hr hs => c2 id o r hid ho hr hs) c2 x hx with h1 | h1
    · rcases List.mem_append.1 h1 with h1 | h1
      · exact .inl h1
      · rw [List.mem_singleton] at h1; subst h1; exact .inr hid
    · exact .inr h1
/-! ### By depth -/
theorem found_fold {g : Gr} {n : Nat} (ih : ∀ (id : Int) (vis : List Int), Vis g vis → g.o.length < n + vis.length → Found g.s (obOf g) [id] vis (dfs g n id vis)) :
    ∀ (l : List Int) (vis : List Int), Vis g vis → g.o.length < n + vis.length → Found g.s (obOf g) l vis (l.foldl (fun v r => dfs g n r v) vis)
  | [], vis, _, _ => ⟨fun x hx => hx, fun r hr => absurd hr (List.not_mem_nil), fun x hx => .inl hx, fun _ _ _ x hx => .inl hx⟩
  | r :: l, vis, hv, hn => by
    obtain ⟨v1, v2⟩ := Vis.dfs n (id := r) hv
    exact (ih r vis hv hn).fold (found_fold ih l _ v1 (by omega))
theorem found_dfs {g : Gr} (h1 : obOf g (-1) = none) : ∀ (n : Nat) (id : Int) (vis : List Int), Vis g vis → g.o.length < n + vis.length → Found g.s (obOf g) [id] vis (dfs g n id vis)
  | 0, id, vis, hv, hn => by have := hv.len; omega
  | n + 1, id, vis, hv, hn => by
    unfold dfs
    split
    · rename_i hc
      refine Found.skip fun hs => ?_
      rcases List.mem_cons.1 (List.contains_iff_mem.1 hc) with h | h
      · rw [h, h1] at hs; cases hs
      · exact h
    · rename_i hc
      split
      · rename_i ho
        exact Found.skip fun hs => by rw [ho] at hs; cases hs
      · rename_i o ho
        refine Found.some ho (found_fold (found_dfs h1 n) _ _ (hv.snoc ho (by simpa using hc)) ?_)
        rw [List.length_append]; simp; omega
theorem MayG.none1 {g : Gr} (h : MayG g) : Go.Proofs.YtgeegdnkheckcaaGreat.obOf g (-1) = none := by
  cases ho : Go.Proofs.YtgeegdnkheckcaaGreat.obOf g (-1) with
  | none => rfl
  | some o => obtain ⟨h1, h2⟩ := obOf_mem ho; have := h.ids h1; omega
theorem reach_iff {g : Gr} (hm : grMay g = true) (x : Int) : x ∈ reachL g ↔ Rch g.s (obOf g) g.roots x := by
  have Mg := mayG hm
  unfold reachL
  rw [if_pos hm, sortI_mem]
  exact (found_fold (n := g.o.length + 1) (found_dfs Mg.none1 _) g.roots [] ⟨List.nodup_nil, fun _ h => absurd h (List.not_mem_nil)⟩ (by omega)).iff x
/-! ### By breadth -/
theorem found_come {s : List Typ} {look : Int → Option Ob} {ids : List Int} (hids : ∀ k, (look k).isSome = true → k ∈ ids) (h5 : ∀ k o, look k = some o → (refs (fieldsOf s o.t) o.f).length ≤ 5) :
    ∀ (n : Nat) (q vis : List Int), vis.Nodup → (∀ x ∈ vis, x ∈ ids) → q.length + 6 * (ids.length - vis.length) ≤ n → Found s look q vis (comeF look s n q vis)
  | n, [], vis, _, _, _ => by
    have : comeF look s n [] vis = vis := by cases n <;> rfl
    rw [this]
    exact ⟨fun x hx => hx, fun r hr => absurd hr (List.not_mem_nil), fun x hx => .inl hx, fun _ _ _ x hx => .inl hx⟩
  | 0, id :: q, vis, _, _, hn => by simp at hn
  | n + 1, id :: q, vis, hnd, hin, hn => by
    simp only [List.length_cons] at hn
    unfold comeF
    cases ho : look id with
    | none =>
      exact (Found.skip fun hs => by rw [ho] at hs; cases hs).fold (found_come hids h5 n q vis hnd hin (by omega))
    | some o =>
      simp only
      split
      · rename_i hc
        exact (Found.skip fun _ => List.contains_iff_mem.1 hc).fold (found_come hids h5 n q vis hnd hin (by omega))
      · rename_i hc
        have hnm : id ∉ vis := fun h => hc (List.contains_iff_mem.2 h)
        have hnd' : (vis ++ [id]).Nodup := List.nodup_append.2 ⟨hnd, by simp, by
          intro a ha b hb
          rw [List.mem_singleton] at hb
          rintro rfl
          subst hb
          exact hnm ha⟩
        have hin' : ∀ x ∈ vis ++ [id], x ∈ ids := fun x hx => by
          rcases List.mem_append.1 hx with hx | hx
          · exact hin x hx
          · rw [List.mem_singleton] at hx; subst hx; exact hids _ (by rw [ho]; rfl)
        have hlen := nodup_sub_len hnd' hin'
        rw [List.length_append, List.length_singleton] at hlen
        have h5' := h5 id o ho
        have F := found_come hids h5 n (q ++ refs (fieldsOf s o.t) o.f) (vis ++ [id]) hnd' hin' (by rw [List.length_append, List.length_append, List.length_singleton]; omega)
        refine ⟨fun x hx => F.sub x (List.mem_append_left _ hx), fun r hr hs => ?_, fun x hx => ?_, fun C c1 c2 x hx => ?_⟩
        · rcases List.mem_cons.1 hr with rfl | hr
          · exact F.sub _ (List.mem_append_right _ (List.mem_singleton.2 rfl))
          · exact F.has r (List.mem_append_left _ hr) hs
        · rcases F.clo x hx with h | h
          · rcases List.mem_append.1 h with h | h
            · exact .inl h
            · rw [List.mem_singleton] at h; subst h
              refine .inr fun o' r ho' hr hs => F.has r (List.mem_append_right _ ?_) hs
              rw [ho] at ho'
              cases ho'
              exact hr
          · exact .inr h
        · have hid : C id := c1 id (List.mem_cons_self ..) (by rw [ho]; rfl)
          rcases F.snd C (fun r hr hs => by
            rcases List.mem_append.1 hr with hr | hr
            · exact c1 r (List.mem_cons_of_mem _ hr) hs
            · exact c2 id o r hid ho hr hs) c2 x hx with h | h
          · rcases List.mem_append.1 h with h | h
            · exact .inl h
            · rw [List.mem_singleton] at h; subst h; exact .inr hid
          · exact .inr h
theorem come_iff {s : List Typ} {l : List Ob} {roots : List Int} (hl : ∀ o ∈ l, ObOk s o) (x : Int) : x ∈ comeM s l roots ↔ Rch s (lookOb l) roots x := by
  unfold comeM
  refine (found_come (ids := l.map (·.id)) (fun k hk => ?_) (fun k o ho => ?_) _ roots [] List.nodup_nil (fun _ h => absurd h (List.not_mem_nil)) (by simp; omega)).iff x
  · obtain ⟨o, ho⟩ := Option.isSome_iff_exists.1 hk
    obtain ⟨h1, h2⟩ := lookOb_mem ho
    rw [← h2]; exact List.mem_map_of_mem h1
  · obtain ⟨h1, h2⟩ := lookOb_mem ho
    have h3 := hl o h1
    have := refs_len (fieldsOf s o.t) o.f
    have := h3.len
    have := h3.five
    omega
end Go.Proofs.YtgeegdnkheckcaaGreat
