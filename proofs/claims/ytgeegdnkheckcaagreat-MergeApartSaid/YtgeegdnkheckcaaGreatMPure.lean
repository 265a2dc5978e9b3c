/- What merge's Merge tells, in plain words; the lists on the way. -/
import Derived.Test.YtgeegdnkheckcaaGreatClash
import Derived.Test.YtgeegdnkheckcaaGreatCome
set_option linter.unusedVariables false
namespace Go.Proofs.YtgeegdnkheckcaaGreat
open Lay (rep)

theorem chain_ids {g : Gr} : ∀ {l : List Ob} {la : Int}, chain g la l = true → ∀ x ∈ l, la < x.id ∧ x.id ≤ 1073741824
  | x :: l, la, h, y, hy => by
    simp only [chain, Bool.and_eq_true] at h
    have hx : la < x.id ∧ x.id ≤ 1073741824 := by
      have := h.1
      simp only [objOk, Bool.and_eq_true, decide_eq_true_eq] at this
      exact ⟨this.1.1.1.1.1, this.1.1.1.1.2⟩
    rcases List.mem_cons.1 hy with rfl | hy
    · exact hx
    · have := chain_ids h.2 y hy
      omega
theorem MayG.ids {g : Gr} (h : MayG g) {x : Ob} (hx : x ∈ g.o) : 0 ≤ x.id ∧ x.id ≤ 1073741824 := by
  have := chain_ids h.ch x hx
  omega

theorem schMay_parts {s : List Typ} (h : schMay s = true) : s ≠ [] ∧ s.length ≤ 4 ∧ ∀ t ∈ s, t.f.length ≤ 5 := by
  simp only [schMay, Bool.and_eq_true, decide_eq_true_eq] at h
  refine ⟨fun e => h.1.1 (by rw [e]; rfl), h.1.2, fun t ht => ?_⟩
  obtain ⟨j, hj, rfl⟩ := List.getElem_of_mem ht
  have := allFrom_get h.2 j hj
  simp only [typOk, Bool.and_eq_true, decide_eq_true_eq] at this
  exact this.1.2
theorem any_id {l : List Ob} {k : Int} : l.any (fun y => y.id == k) = true ↔ k ∈ l.map (·.id) := by
  simp only [List.any_eq_true, List.mem_map, beq_iff_eq]
theorem allObs_inv {o a b : Gr} (P : Ob → Prop) (hP : ∀ id, (obOf a id).isSome = true ∨ (obOf b id).isSome = true → P (objM o a b id).1) (l : List Ob) (hin : ∀ x ∈ l, (obOf a x.id).isSome = true ∨ (obOf b x.id).isSome = true) :
    ((allObs o a b l).1.map (·.id)).Nodup ∧ ∀ x ∈ (allObs o a b l).1, P x := by
  unfold allObs
  suffices ∀ (s : List Ob × List (Int × Int)), (s.1.map (·.id)).Nodup → (∀ x ∈ s.1, P x) → ((l.foldl (allStep o a b) s).1.map (·.id)).Nodup ∧ ∀ x ∈ (l.foldl (allStep o a b) s).1, P x from this ([], []) (by simp) (by simp)
  induction l with
  | nil => intro s h1 h2; exact ⟨h1, h2⟩
  | cons x l ih =>
    intro s h1 h2
    have hx := hin x (List.mem_cons_self ..)
    refine ih (fun y hy => hin y (List.mem_cons_of_mem _ hy)) (allStep o a b s x) ?_ ?_
    · unfold allStep
      split
      · exact h1
      · rename_i hn
        simp only [List.map_append, List.map_cons, List.map_nil]
        refine List.nodup_append.2 ⟨h1, by simp, ?_⟩
        intro u hu v hv
        simp only [List.mem_singleton] at hv
        subst hv
        rw [objM_id hx]
        rintro rfl
        exact hn (any_id.2 hu)
    · unfold allStep
      split
      · exact h2
      · intro y hy
        rcases List.mem_append.1 hy with hy | hy
        · exact h2 y hy
        · simp only [List.mem_singleton] at hy
          subst hy
          exact hP _ hx
theorem obOf_in {a b : Gr} : ∀ x ∈ a.o ++ b.o, (obOf a x.id).isSome = true ∨ (obOf b x.id).isSome = true := fun x hx => by
  rcases List.mem_append.1 hx with h | h
  · exact .inl (obOf_self h)
  · exact .inr (obOf_self h)
structure ObOk (s : List Typ) (x : Ob) : Prop where
  t0 : 0 ≤ x.t
  t1 : x.t < s.length
  len : x.f.length = (fieldsOf s x.t).length
  i0 : 0 ≤ x.id
  i1 : x.id ≤ 1073741824
  five : x.f.length ≤ 5
theorem MayG.ok {g : Gr} (h : MayG g) {x : Ob} (hx : x ∈ g.o) : ObOk g.s x := ⟨(h.obj hx).1, (h.obj hx).2.1, (h.obj hx).2.2, (h.ids hx).1, (h.ids hx).2, h.fields hx⟩
theorem objM_ok {o a b : Gr} (Ma : MayG a) (Mb : MayG b) (hs : a.s = b.s) (id : Int) (h : (obOf a id).isSome = true ∨ (obOf b id).isSome = true) : ObOk a.s (objM o a b id).1 := by
  unfold objM
  cases hx : obOf a id with
  | none =>
    cases hy : obOf b id with
    | none => simp [hx, hy] at h
    | some y => rw [hs]; exact Mb.ok (obOf_mem hy).1
  | some x =>
    have hk := Ma.ok (obOf_mem hx).1
    cases hy : obOf b id with
    | none => exact hk
    | some y => exact ⟨hk.t0, hk.t1, by simp [mF]; exact hk.len, hk.i0, hk.i1, by simp [mF]; exact hk.five⟩

def sortIds (l : List Ob) : List Ob := l.mergeSort fun x y => decide (x.id ≤ y.id)
theorem sortIds_sorted (l : List Ob) : (sortIds l).Pairwise fun x y => x.id ≤ y.id := by
  have := List.pairwise_mergeSort (le := fun x y : Ob => decide (x.id ≤ y.id)) (fun a b c h1 h2 => by simp at *; omega) (fun a b => by simp; omega) l
  exact this.imp (by simp)
theorem sortIds_perm (l : List Ob) : (sortIds l).Perm l := List.mergeSort_perm ..
theorem sorted_unique {l1 l2 : List Ob} (hp : l1.Perm l2) (h1 : l1.Pairwise fun x y => x.id ≤ y.id) (h2 : l2.Pairwise fun x y => x.id ≤ y.id) (hn : (l1.map (·.id)).Nodup) : l1 = l2 := by
  induction l1 generalizing l2 with
  | nil => exact (List.nil_perm.1 hp).symm
  | cons x l1 ih =>
    cases l2 with
    | nil => exact absurd hp.length_eq (by simp)
    | cons y l2 =>
      have hxy : x = y := by
        have hx := hp.mem_iff.1 (List.mem_cons_self ..)
        have hy := hp.mem_iff.2 (List.mem_cons_self ..)
        rcases List.mem_cons.1 hx with h | h
        · exact h
        · rcases List.mem_cons.1 hy with h' | h'
          · exact h'.symm
          · have e1 := (List.pairwise_cons.1 h2).1 x h
            have e2 := (List.pairwise_cons.1 h1).1 y h'
            have e3 : x.id = y.id := by omega
            rw [List.map_cons] at hn
            have := (List.nodup_cons.1 hn).1
            exact absurd (e3 ▸ List.mem_map_of_mem h') this
      subst hxy
      rw [ih ((List.perm_cons x).1 hp) (List.pairwise_cons.1 h1).2 (List.pairwise_cons.1 h2).2 (by rw [List.map_cons] at hn; exact (List.nodup_cons.1 hn).2)]

def mergeL (o a b : Gr) : List Ob := (allM o a b).1.filter fun x => (comeM a.s (allM o a b).1 (allM o a b).2.1).contains x.id
def chNil : Ch := ⟨[], [], [], []⟩
def grNil : Gr := ⟨[], [], []⟩
def mergeM (o a b : Gr) : Gr × Ch × Int :=
  if checkM o a b != 0 then (grNil, chNil, checkM o a b)
  else if !cnone (allM o a b).2.2 then (grNil, (allM o a b).2.2, 10)
  else if 8 < (mergeL o a b).length then (grNil, chNil, 8)
  else (⟨a.s, sortIds (mergeL o a b), (allM o a b).2.1⟩, chNil, 0)
end Go.Proofs.YtgeegdnkheckcaaGreat
