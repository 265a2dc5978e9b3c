/- The sides of a merging turned round: nothing is otherwise. -/
import Derived.Test.YtgeegdnkheckcaaGreatMPure
set_option linter.unusedVariables false
namespace Go.Proofs.YtgeegdnkheckcaaGreat
open Lay (rep)

theorem chain_lt {g : Gr} : ∀ {l : List Ob} {la : Int}, chain g la l = true → l.Pairwise (fun x y => x.id < y.id) ∧ ∀ x ∈ l, la < x.id
  | [], _, _ => ⟨List.Pairwise.nil, by simp⟩
  | x :: l, la, h => by
    simp only [chain, Bool.and_eq_true] at h
    have hx : la < x.id := by
      have := h.1
      simp only [objOk, Bool.and_eq_true, decide_eq_true_eq] at this
      exact this.1.1.1.1.1
    obtain ⟨h1, h2⟩ := chain_lt h.2
    refine ⟨List.pairwise_cons.2 ⟨h2, h1⟩, fun y hy => ?_⟩
    rcases List.mem_cons.1 hy with rfl | hy
    · exact hx
    · have := h2 y hy; omega
theorem MayG.sorted {g : Gr} (h : MayG g) : g.o.Pairwise (fun x y => x.id < y.id) := (chain_lt h.ch).1
theorem sorted_one {l : List Ob} (h : l.Pairwise fun x y => x.id < y.id) {x y : Ob} (hx : x ∈ l) (hy : y ∈ l) (he : x.id = y.id) : x = y := by
  obtain ⟨i, hi, rfl⟩ := List.getElem_of_mem hx
  obtain ⟨j, hj, rfl⟩ := List.getElem_of_mem hy
  have hp := List.pairwise_iff_getElem.1 h
  rcases Nat.lt_trichotomy i j with hlt | rfl | hlt
  · have := hp i j hi hj hlt; omega
  · rfl
  · have := hp j i hj hi hlt; omega
theorem MayG.obOf {g : Gr} (h : MayG g) {y : Ob} (hy : y ∈ g.o) : obOf g y.id = some y := by
  have hs := obOf_self hy
  obtain ⟨z, hz⟩ := Option.isSome_iff_exists.1 hs
  obtain ⟨h1, h2⟩ := obOf_mem hz
  rw [hz, sorted_one h.sorted h1 hy h2]
theorem nodup_get' {α : Type} {l : List α} (h : l.Nodup) {i j : Nat} {x : α} (h1 : l[i]? = some x) (h2 : l[j]? = some x) : i = j := by
  obtain ⟨h3, rfl⟩ := List.getElem?_eq_some_iff.1 h1
  obtain ⟨h4, h5⟩ := List.getElem?_eq_some_iff.1 h2
  have := List.pairwise_iff_getElem.1 h
  rcases Nat.lt_trichotomy i j with hlt | he | hlt
  · exact absurd h5.symm (this i j h3 h4 hlt)
  · exact he
  · exact absurd h5 (this j i h4 h3 hlt)
theorem diffO_iff {a : Gr} : ∀ {l : List Ob}, diffO a l ≠ none ↔ ∀ x ∈ l, ∀ y, Go.Proofs.YtgeegdnkheckcaaGreat.obOf a x.id = some y → x.t = y.t
  | [] => by simp [diffO]
  | x :: l => by
    have ih := diffO_iff (a := a) (l := l)
    cases ha : Go.Proofs.YtgeegdnkheckcaaGreat.obOf a x.id with
    | none =>
      rw [diffO_none ha]
      simp only [ne_eq, Option.map_eq_none_iff] at ih ⊢
      rw [ih]
      simp [ha]
    | some u =>
      by_cases ht : x.t = u.t
      · rw [diffO_some ha ht]
        simp only [ne_eq, Option.map_eq_none_iff] at ih ⊢
        rw [ih]
        simp [ha, ht]
      · rw [diffO_bad ha ht]
        simp only [ne_eq, not_true_eq_false, false_iff]
        intro h
        exact ht (h x (List.mem_cons_self ..) u ha)
theorem diffO_comm {a b : Gr} (Ma : MayG a) (Mb : MayG b) : diffO b a.o ≠ none ↔ diffO a b.o ≠ none := by
  have key : ∀ {a b : Gr}, MayG a → MayG b → diffO b a.o ≠ none → diffO a b.o ≠ none := fun {a b} Ma Mb h => by
    rw [diffO_iff] at h ⊢
    intro y hy x hx
    obtain ⟨h1, h2⟩ := obOf_mem hx
    exact (h x h1 y (by rw [h2]; exact Mb.obOf hy)).symm
  exact ⟨key Ma Mb, key Mb Ma⟩
theorem diffErr {o a : Gr} (ho : grMay o = true) (ha : grMay a = true) : (diffOf o a).2 = if o.s = a.s ∧ diffO a o.o ≠ none then 0 else 6 := by
  unfold diffOf
  rw [ho, ha]
  simp only [Bool.and_self, Bool.not_true, Bool.false_eq_true, if_false]
  by_cases hs : o.s = a.s
  · simp only [hs, ne_eq, not_true_eq_false, if_false, true_and]
    cases hd : diffO a o.o <;> simp
  · simp [hs]
theorem diffErr_comm {a b : Gr} (ha : grMay a = true) (hb : grMay b = true) : (diffOf a b).2 = (diffOf b a).2 := by
  rw [diffErr ha hb, diffErr hb ha]
  have := diffO_comm (mayG ha) (mayG hb)
  by_cases hs : a.s = b.s
  · by_cases hd : diffO b a.o ≠ none
    · rw [if_pos ⟨hs, hd⟩, if_pos ⟨hs.symm, this.1 hd⟩]
    · rw [if_neg (fun h => hd h.2), if_neg (fun h => hd (this.2 h.2))]
  · rw [if_neg (fun h => hs h.1), if_neg (fun h => hs h.1.symm)]
theorem check_not {o a b : Gr} (h : ¬ (grMay o = true ∧ grMay a = true ∧ grMay b = true)) : checkM o a b = 1 := by
  unfold checkM prs
  cases ho : grMay o <;> cases ha : grMay a <;> cases hb : grMay b <;> simp_all [chk1]
theorem check_may {o a b : Gr} (ho : grMay o = true) (ha : grMay a = true) (hb : grMay b = true) :
    checkM o a b = if (diffOf o a).2 = 0 ∧ (diffOf a b).2 = 0 ∧ (diffOf o b).2 = 0 then chkR o a b else 6 := by
  have h1 := diffErr ho ha
  have h2 := diffErr ha hb
  have h3 := diffErr ho hb
  unfold checkM prs
  simp only [chk1, chk2, ho, ha, hb]
  generalize (diffOf o a).2 = p at *
  generalize (diffOf a b).2 = q at *
  generalize (diffOf o b).2 = r at *
  have hp : p = 0 ∨ p = 6 := by rw [h1]; split <;> simp
  have hq : q = 0 ∨ q = 6 := by rw [h2]; split <;> simp
  have hr : r = 0 ∨ r = 6 := by rw [h3]; split <;> simp
  clear h1 h2 h3
  rcases hp with rfl | rfl <;> rcases hq with rfl | rfl <;> rcases hr with rfl | rfl <;> simp
theorem check_comm (o a b : Gr) : checkM o a b = checkM o b a := by
  by_cases h : grMay o = true ∧ grMay a = true ∧ grMay b = true
  · obtain ⟨ho, ha, hb⟩ := h
    rw [check_may ho ha hb, check_may ho hb ha, diffErr_comm hb ha]
    have hR : chkR o b a = chkR o a b := by unfold chkR; rw [Nat.min_comm]
    rw [hR]
    have : ((diffOf o a).2 = 0 ∧ (diffOf a b).2 = 0 ∧ (diffOf o b).2 = 0) ↔ ((diffOf o b).2 = 0 ∧ (diffOf a b).2 = 0 ∧ (diffOf o a).2 = 0) := ⟨fun h => ⟨h.2.2, h.2.1, h.1⟩, fun h => ⟨h.2.2, h.2.1, h.1⟩⟩
    simp only [this]
  · rw [check_not h, check_not (fun h' => h ⟨h'.1, h'.2.2, h'.2.1⟩)]

/-! ### One value of three -/
theorem stands_flag {α : Type} [DecidableEq α] (o a b : α) : (stands o a b).2 = (stands o b a).2 := by
  unfold stands
  by_cases h1 : a = o <;> by_cases h2 : b = o <;> by_cases h3 : a = b <;> simp_all [eq_comm]
theorem stands_val {α : Type} [DecidableEq α] (o a b : α) (h : (stands o a b).2 = true) : (stands o a b).1 = (stands o b a).1 := by
  unfold stands at h ⊢
  by_cases h1 : a = o <;> by_cases h2 : b = o <;> by_cases h3 : a = b <;> simp_all
theorem mAt_flag (zs : Option (List Vl)) (xs ys : List Vl) (k : Nat) : (mAt zs xs ys k).2 = (mAt zs ys xs k).2 := by
  cases zs with
  | none => simp only [mAt]; exact decide_eq_decide.2 ⟨Eq.symm, Eq.symm⟩
  | some zs => exact stands_flag _ _ _
theorem mAt_val (zs : Option (List Vl)) (xs ys : List Vl) (k : Nat) (h : (mAt zs xs ys k).2 = true) : (mAt zs xs ys k).1 = (mAt zs ys xs k).1 := by
  cases zs with
  | none => simpa [mAt] using h
  | some zs => exact stands_val _ _ _ h
theorem mClash_comm (zs : Option (List Vl)) (xs ys : List Vl) (n : Nat) : mClash zs xs ys n = mClash zs ys xs n := by
  unfold mClash
  congr 1
  apply List.filter_congr
  intro k _
  rw [mAt_flag]
theorem mF_comm (zs : Option (List Vl)) (xs ys : List Vl) (hl : xs.length = ys.length) (h : mClash zs xs ys xs.length = []) : mF zs xs ys = mF zs ys xs := by
  unfold mF
  rw [← hl]
  apply List.map_congr_left
  intro k hk
  refine mAt_val zs xs ys k ?_
  unfold mClash at h
  rw [List.map_eq_nil_iff, List.filter_eq_nil_iff] at h
  simpa using h k hk
/-! ### One object -/
structure Sides (o a b : Gr) : Prop where
  ma : MayG a
  mb : MayG b
  ty : ∀ id x y, obOf a id = some x → obOf b id = some y → x.t = y.t
  len : ∀ id x y, obOf a id = some x → obOf b id = some y → x.f.length = y.f.length
theorem Sides.comm {o a b : Gr} (h : Sides o a b) : Sides o b a := ⟨h.mb, h.ma, fun id x y hx hy => (h.ty id y x hy hx).symm, fun id x y hx hy => (h.len id y x hy hx).symm⟩
theorem ChkOk.sides {o a b : Gr} (h : ChkOk o a b) : Sides o a b := by
  obtain ⟨Ma, Mb, hs, hd⟩ := diffOf_ok h.ab
  refine ⟨Ma, Mb, fun id x y hx hy => ?_, diffOf_len h.ab⟩
  obtain ⟨h1, h2⟩ := obOf_mem hx
  exact diffO_types hd x h1 y (by rw [h2]; exact hy)
theorem objM_clash {o a b : Gr} (h : Sides o a b) (id : Int) : (objM o a b id).2 = (objM o b a id).2 := by
  unfold objM
  cases hx : obOf a id <;> cases hy : obOf b id <;> try rfl
  rename_i x y
  simp only
  rw [mClash_comm]
  rw [show x.f.length = y.f.length from h.len id x y hx hy]
theorem objM_none {o a b : Gr} {id : Int} (h : obOf a id = none ∨ obOf b id = none) : (objM o a b id).2 = [] := by
  unfold objM
  rcases h with h | h
  · rw [h]
  · cases hx : obOf a id <;> simp [h]
theorem objM_comm {o a b : Gr} (h : Sides o a b) (id : Int) (hc : (objM o a b id).2 = []) (hi : (obOf a id).isSome = true ∨ (obOf b id).isSome = true) : (objM o a b id).1 = (objM o b a id).1 := by
  unfold objM at hc ⊢
  cases hx : obOf a id <;> cases hy : obOf b id
  · simp [hx, hy] at hi
  · rfl
  · rfl
  · rename_i x y
    simp only [hx, hy] at hc ⊢
    have hl := h.len id x y hx hy
    rw [mF_comm _ _ _ hl hc]
    have h1 := (obOf_mem hx).2
    have h2 := (obOf_mem hy).2
    have h3 := h.ty id x y hx hy
    cases x; cases y
    simp_all
/-! ### All objects -/
theorem allObs_mem {o a b : Gr} (l : List Ob) (hin : ∀ x ∈ l, (obOf a x.id).isSome = true ∨ (obOf b x.id).isSome = true) :
    (∀ y ∈ (allObs o a b l).1, y = (objM o a b y.id).1) ∧ ∀ k, k ∈ (allObs o a b l).1.map (·.id) ↔ k ∈ l.map (·.id) := by
  unfold allObs
  suffices ∀ (l : List Ob) (s : List Ob × List (Int × Int)), (∀ x ∈ l, (obOf a x.id).isSome = true ∨ (obOf b x.id).isSome = true) → (∀ y ∈ s.1, y = (objM o a b y.id).1) →
      (∀ y ∈ (l.foldl (allStep o a b) s).1, y = (objM o a b y.id).1) ∧ ∀ k, k ∈ (l.foldl (allStep o a b) s).1.map (·.id) ↔ (k ∈ s.1.map (·.id) ∨ k ∈ l.map (·.id)) by
    have := this l ([], []) hin (by simp)
    simpa using this
  intro l
  induction l with
  | nil => intro s _ h; exact ⟨h, by simp⟩
  | cons x l ih =>
    intro s hl hs
    have hx := hl x (List.mem_cons_self ..)
    have hid := objM_id (o := o) hx
    have h1 : ∀ y ∈ (allStep o a b s x).1, y = (objM o a b y.id).1 := by
      unfold allStep
      split
      · exact hs
      · intro y hy
        rcases List.mem_append.1 hy with hy | hy
        · exact hs y hy
        · rw [List.mem_singleton] at hy
          rw [hy, hid]
    obtain ⟨h2, h3⟩ := ih (allStep o a b s x) (fun y hy => hl y (List.mem_cons_of_mem _ hy)) h1
    refine ⟨h2, fun k => ?_⟩
    rw [List.foldl_cons, h3 k]
    have h4 : k ∈ (allStep o a b s x).1.map (·.id) ↔ (k ∈ s.1.map (·.id) ∨ k = x.id) := by
      unfold allStep
      split
      · rename_i ha
        have := any_id.1 ha
        constructor
        · exact .inl
        · rintro (h | rfl)
          · exact h
          · exact this
      · simp only [List.map_append, List.map_cons, List.map_nil, List.mem_append, List.mem_singleton, hid]
    rw [h4, List.map_cons, List.mem_cons, or_assoc]
theorem allObs_perm {o a b : Gr} (h : Sides o a b) (hc : ∀ id, (objM o a b id).2 = []) : (allObs o a b (a.o ++ b.o)).1.Perm (allObs o b a (b.o ++ a.o)).1 := by
  obtain ⟨h1, h2⟩ := allObs_mem (o := o) (a.o ++ b.o) obOf_in
  obtain ⟨h3, h4⟩ := allObs_mem (o := o) (b.o ++ a.o) (obOf_in (a := b) (b := a))
  have n1 := (allObs_inv (o := o) (fun _ => True) (fun _ _ => trivial) (a.o ++ b.o) obOf_in).1
  have n2 := (allObs_inv (o := o) (fun _ => True) (fun _ _ => trivial) (b.o ++ a.o) (obOf_in (a := b) (b := a))).1
  have nd : ∀ {q : List Ob}, (q.map (·.id)).Nodup → q.Nodup := fun h => (List.pairwise_map.1 h).imp fun h e => h (by rw [e])
  have key : ∀ {P Q : List Ob} {f g : Int → Ob}, (∀ y ∈ P, y = f y.id) → (∀ y ∈ Q, y = g y.id) → (∀ k, k ∈ P.map (·.id) → k ∈ Q.map (·.id)) → (∀ k, k ∈ P.map (·.id) → f k = g k) → ∀ x ∈ P, x ∈ Q := fun {P Q f g} p1 p2 p3 p4 x hx => by
    have hk := List.mem_map_of_mem (f := (·.id)) hx
    obtain ⟨y, hy, hyx⟩ := List.mem_map.1 (p3 _ hk)
    have e1 := p1 x hx
    have e2 := p2 y hy
    rw [p4 _ hk] at e1
    replace hyx : y.id = x.id := hyx
    rw [hyx, ← e1] at e2
    rw [← e2]; exact hy
  have hin : ∀ k, k ∈ (a.o ++ b.o).map (·.id) → (obOf a k).isSome = true ∨ (obOf b k).isSome = true := fun k hk => by
    obtain ⟨x, hx, rfl⟩ := List.mem_map.1 hk
    exact obOf_in x hx
  have hab : ∀ k, k ∈ (a.o ++ b.o).map (·.id) ↔ k ∈ (b.o ++ a.o).map (·.id) := fun k => by simp only [List.map_append, List.mem_append]; exact or_comm
  refine (List.perm_ext_iff_of_nodup (nd n1) (nd n2)).2 fun x => ⟨?_, ?_⟩
  · exact key (f := fun k => (objM o a b k).1) (g := fun k => (objM o b a k).1) h1 h3 (fun k hk => (h4 k).2 ((hab k).1 ((h2 k).1 hk))) (fun k hk => objM_comm h k (hc k) (hin k ((h2 k).1 hk))) x
  · exact key (f := fun k => (objM o b a k).1) (g := fun k => (objM o a b k).1) h3 h1 (fun k hk => (h2 k).2 ((hab k).2 ((h4 k).1 hk))) (fun k hk => (objM_comm h k (hc k) (hin k ((hab k).2 ((h4 k).1 hk)))).symm) x
/-! ### What clashes -/
def clashOf (o a b : Gr) (id : Int) : List (Int × Int) := (objM o a b id).2.map fun k => (id, k)
theorem allObs_clash1 {o a b : Gr} : ∀ (l : List Ob) (s : List Ob × List (Int × Int)), (∀ x ∈ l, (obOf a x.id).isSome = true ∨ (obOf b x.id).isSome = true) → l.Pairwise (fun x y => x.id < y.id) → (∀ x ∈ l, x.id ∉ s.1.map (·.id)) →
    (l.foldl (allStep o a b) s).2 = s.2 ++ l.flatMap fun x => clashOf o a b x.id
  | [], s, _, _, _ => by simp
  | x :: l, s, hin, hp, hn => by
    have hx := hin x (List.mem_cons_self ..)
    have hid := objM_id (o := o) hx
    obtain ⟨h1, h2⟩ := List.pairwise_cons.1 hp
    have hs : allStep o a b s x = (s.1 ++ [(objM o a b x.id).1], s.2 ++ clashOf o a b x.id) := by
      unfold allStep clashOf
      rw [if_neg (fun h => hn x (List.mem_cons_self ..) (any_id.1 h))]
    rw [List.foldl_cons, hs, allObs_clash1 l _ (fun y hy => hin y (List.mem_cons_of_mem _ hy)) h2 (fun y hy hm => ?_)]
    · simp
    · simp only [List.map_append, List.map_cons, List.map_nil, List.mem_append, List.mem_singleton, hid] at hm
      rcases hm with hm | hm
      · exact hn y (List.mem_cons_of_mem _ hy) hm
      · have := h1 y hy; omega
theorem allObs_clash2 {o a b : Gr} : ∀ (l : List Ob) (s : List Ob × List (Int × Int)), (∀ x ∈ l, obOf a x.id = none ∨ x.id ∈ s.1.map (·.id)) → (l.foldl (allStep o a b) s).2 = s.2
  | [], s, _ => rfl
  | x :: l, s, h => by
    have hx := h x (List.mem_cons_self ..)
    have hs : (allStep o a b s x).2 = s.2 ∧ ∀ k, k ∈ s.1.map (·.id) → k ∈ (allStep o a b s x).1.map (·.id) := by
      unfold allStep
      split
      · exact ⟨rfl, fun _ h => h⟩
      · rename_i hn
        refine ⟨?_, fun k hk => by simp only [List.map_append, List.mem_append]; exact .inl hk⟩
        rcases hx with hx | hx
        · rw [objM_none (.inl hx)]; simp
        · exact absurd (any_id.2 hx) hn
    rw [List.foldl_cons, allObs_clash2 l _ (fun y hy => ?_), hs.1]
    rcases h y (List.mem_cons_of_mem _ hy) with h | h
    · exact .inl h
    · exact .inr (hs.2 _ h)
theorem allObs_clash {o a b : Gr} (Ma : MayG a) : (allObs o a b (a.o ++ b.o)).2 = a.o.flatMap fun x => clashOf o a b x.id := by
  have h1 := allObs_clash1 (o := o) (a := a) (b := b) a.o ([], []) (fun x hx => .inl (obOf_self hx)) Ma.sorted (by simp)
  have h2 := (allObs_mem (o := o) (a := a) (b := b) a.o (fun x hx => .inl (obOf_self hx))).2
  unfold allObs at h2 ⊢
  rw [List.foldl_append, allObs_clash2, h1]
  · rfl
  · intro x hx
    cases ha : obOf a x.id with
    | none => exact .inl rfl
    | some y =>
      right
      rw [h2]
      obtain ⟨h3, h4⟩ := obOf_mem ha
      rw [← h4]; exact List.mem_map_of_mem h3
theorem flat_both {a b : Gr} (Ma : MayG a) (Mb : MayG b) (f : Int → List (Int × Int)) (hf : ∀ k, obOf a k = none ∨ obOf b k = none → f k = []) : (a.o.flatMap fun x => f x.id) = b.o.flatMap fun x => f x.id := by
  have red : ∀ {g h : Gr}, MayG g → (∀ k, obOf g k = none ∨ obOf h k = none → f k = []) → (g.o.flatMap fun x => f x.id) = ((g.o.map (·.id)).filter fun k => (obOf h k).isSome).flatMap f := fun {g h} _ hf => by
    induction g.o with
    | nil => rfl
    | cons x l ih =>
      rw [List.flatMap_cons, List.map_cons, List.filter_cons, ih]
      cases hh : obOf h x.id with
      | none => rw [hf _ (.inr hh)]; simp
      | some y => simp
  rw [red Ma hf, red Mb (h := a) (fun k h => hf k h.symm)]
  congr 1
  have srt : ∀ {g : Gr} {p : Int → Bool}, MayG g → ((g.o.map (·.id)).filter p).Pairwise (fun x y => x < y) := fun {g p} M => by
    have : (g.o.map (·.id)).Pairwise (fun x y => x < y) := List.pairwise_map.2 M.sorted
    exact this.filter p
  have mem : ∀ {g : Gr} {k : Int}, MayG g → (k ∈ g.o.map (·.id) ↔ (obOf g k).isSome = true) := fun {g k} M => by
    constructor
    · intro h
      obtain ⟨x, hx, rfl⟩ := List.mem_map.1 h
      exact obOf_self hx
    · intro h
      obtain ⟨y, hy⟩ := Option.isSome_iff_exists.1 h
      obtain ⟨h1, h2⟩ := obOf_mem hy
      rw [← h2]; exact List.mem_map_of_mem h1
  have s1 := srt (p := fun k => (obOf b k).isSome) Ma
  have s2 := srt (p := fun k => (obOf a k).isSome) Mb
  have ndp : ∀ {l : List Int}, l.Pairwise (fun x y => x < y) → l.Nodup := fun h => h.imp fun h e => by omega
  refine List.Perm.eq_of_pairwise (le := fun x y : Int => x < y) (fun x y _ _ h1 h2 => by omega) s1 s2 ((List.perm_ext_iff_of_nodup (ndp s1) (ndp s2)).2 fun k => ?_)
  rw [List.mem_filter, List.mem_filter, mem Ma, mem Mb]
  exact and_comm
theorem allObs_clash_comm {o a b : Gr} (h : Sides o a b) : (allObs o a b (a.o ++ b.o)).2 = (allObs o b a (b.o ++ a.o)).2 := by
  rw [allObs_clash h.ma, allObs_clash h.mb]
  have e : (fun x : Ob => clashOf o b a x.id) = fun x => clashOf o a b x.id := by
    funext x; unfold clashOf; rw [objM_clash h]
  rw [e]
  refine flat_both h.ma h.mb (fun k => clashOf o a b k) fun k hk => ?_
  unfold clashOf
  rw [objM_none hk]; rfl
theorem allObs_noclash {o a b : Gr} (h : Sides o a b) (hc : (allObs o a b (a.o ++ b.o)).2 = []) (id : Int) : (objM o a b id).2 = [] := by
  rw [allObs_clash h.ma] at hc
  rw [List.flatMap_eq_nil_iff] at hc
  cases ha : obOf a id with
  | none => exact objM_none (.inl ha)
  | some x =>
    obtain ⟨h1, h2⟩ := obOf_mem ha
    have := hc x h1
    unfold clashOf at this
    rw [h2, List.map_eq_nil_iff] at this
    exact this
/-! ### Roots -/
theorem rootsClash_comm (o a b : Gr) (n : Nat) : rootsClash o a b n = rootsClash o b a n := by
  unfold rootsClash
  congr 1
  apply List.filter_congr
  intro i _
  unfold rootM
  rw [stands_flag]
theorem rootsM_comm (o a b : Gr) (n : Nat) (h : rootsClash o a b n = []) : rootsM o a b n = rootsM o b a n := by
  unfold rootsM
  apply List.map_congr_left
  intro i hi
  unfold rootsClash at h
  rw [List.map_eq_nil_iff, List.filter_eq_nil_iff] at h
  have := h i hi
  unfold rootM at this ⊢
  exact stands_val _ _ _ (by simpa using this)
/-! ### What is come to -/
theorem lookOb_perm {l l' : List Ob} (hp : l.Perm l') (hn : (l.map (·.id)).Nodup) (k : Int) : lookOb l k = lookOb l' k := by
  have hn' : (l'.map (·.id)).Nodup := (hp.map _).nodup_iff.1 hn
  have key : ∀ {l l' : List Ob}, l.Perm l' → (l'.map (·.id)).Nodup → ∀ x, lookOb l k = some x → lookOb l' k = some x := fun {l l'} hp hn x hx => by
    obtain ⟨h1, h2⟩ := lookOb_mem hx
    have h3 := hp.mem_iff.1 h1
    have h4 : (lookOb l' k).isSome = true := by unfold lookOb; rw [List.find?_isSome]; exact ⟨x, h3, by simp [h2]⟩
    obtain ⟨y, hy⟩ := Option.isSome_iff_exists.1 h4
    obtain ⟨h5, h6⟩ := lookOb_mem hy
    obtain ⟨i, hi⟩ := List.mem_iff_getElem?.1 h3
    obtain ⟨j, hj⟩ := List.mem_iff_getElem?.1 h5
    have hij := nodup_get' hn (i := i) (j := j) (x := k) (by rw [List.getElem?_map, hi, Option.map_some, h2]) (by rw [List.getElem?_map, hj, Option.map_some, h6])
    subst hij
    rw [hi] at hj
    rw [hy, Option.some.inj hj]
  cases h : lookOb l k with
  | some x => exact (key hp hn' x h).symm
  | none =>
    cases h' : lookOb l' k with
    | none => rfl
    | some y => rw [key hp.symm hn y h'] at h; cases h
theorem comeM_perm {s : List Typ} {l l' : List Ob} {roots : List Int} (hp : l.Perm l') (hn : (l.map (·.id)).Nodup) : comeM s l roots = comeM s l' roots := by
  unfold comeM
  rw [show lookOb l = lookOb l' from funext (lookOb_perm hp hn), hp.length_eq]
/-! ### The whole -/
theorem clash_comm (o a b : Gr) : clashM o a b = clashM o b a := by
  unfold clashM
  rw [check_comm o b a]
  cases h : checkM o a b != 0
  · have ok := (check_ok (show checkM o a b = 0 by simpa using h)).sides
    have e : (allM o a b).2.2 = (allM o b a).2.2 := by
      simp only [allM]
      rw [allObs_clash_comm ok, rootsClash_comm, Nat.max_comm]
    rw [e]
  · rfl
theorem merge_comm (o a b : Gr) : mergeM o a b = mergeM o b a := by
  unfold mergeM
  rw [check_comm o b a]
  cases h : checkM o a b != 0
  · have okk := check_ok (show checkM o a b = 0 by simpa using h)
    have ok := okk.sides
    have e : (allM o a b).2.2 = (allM o b a).2.2 := by
      simp only [allM]
      rw [allObs_clash_comm ok, rootsClash_comm, Nat.max_comm]
    simp only [Bool.false_eq_true, if_false]
    rw [← e]
    cases hn : cnone (allM o a b).2.2
    · rfl
    · have hz : (allM o a b).2.2.new.length + (allM o a b).2.2.gone.length + (allM o a b).2.2.set.length + (allM o a b).2.2.roots.length = 0 := by simpa [cnone] using hn
      have hz1 : (allM o a b).2.2.set.length = 0 := by omega
      have hz2 : (allM o a b).2.2.roots.length = 0 := by omega
      have hset : (allObs o a b (a.o ++ b.o)).2 = [] := List.length_eq_zero_iff.1 hz1
      have hrt : rootsClash o a b (max a.roots.length b.roots.length) = [] := List.length_eq_zero_iff.1 hz2
      have hp : (allM o a b).1.Perm (allM o b a).1 := allObs_perm ok (allObs_noclash ok hset)
      have hr : (allM o a b).2.1 = (allM o b a).2.1 := by
        simp only [allM]
        rw [rootsM_comm _ _ _ _ hrt, Nat.max_comm]
      have hnd : ((allM o a b).1.map (·.id)).Nodup := (allObs_inv (o := o) (fun _ => True) (fun _ _ => trivial) (a.o ++ b.o) obOf_in).1
      obtain ⟨-, -, hs, -⟩ := diffOf_ok okk.ab
      have hL : (mergeL o a b).Perm (mergeL o b a) := by
        unfold mergeL
        rw [← hr, ← hs, ← comeM_perm hp hnd]
        exact hp.filter _
      have hS : sortIds (mergeL o a b) = sortIds (mergeL o b a) := by
        refine sorted_unique ((sortIds_perm _).trans (hL.trans (sortIds_perm _).symm)) (sortIds_sorted _) (sortIds_sorted _) ?_
        have : ((mergeL o a b).map (·.id)).Nodup := hnd.sublist (List.filter_sublist.map _)
        exact ((sortIds_perm _).map _).nodup_iff.2 this
      rw [hL.length_eq, hS, hr, hs]
  · simp only [if_true]
end Go.Proofs.YtgeegdnkheckcaaGreat
