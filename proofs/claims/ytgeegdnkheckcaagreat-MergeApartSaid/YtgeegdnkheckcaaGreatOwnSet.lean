/- A list of values that the call owns: an element read, and written. -/
import Derived.Test.YtgeegdnkheckcaaGreatClone
import Derived.Laws.OwnMore
set_option linter.unusedVariables false
namespace Go.Proofs.YtgeegdnkheckcaaGreat
open Lay (rep)
open Go.RowKit

def encV (v : Vl) : List Value := [.int .i64 v.n, .string v.s, .int .i64 v.r]
def encVs (l : List Vl) : List Value := l.flatMap encV
theorem encVs_len (l : List Vl) : (encVs l).length = l.length * 3 := by
  induction l with
  | nil => rfl
  | cons v l ih => simp only [encVs, List.flatMap_cons, List.length_append, List.length_cons] at ih ⊢; rw [ih]; simp [encV]; omega
theorem encVs_chunk : ∀ (l : List Vl) (j : Nat) (h : j < l.length), ((encVs l).drop (j * 3)).take 3 = encV l[j]
  | v :: l, 0, _ => by simp [encVs, encV]
  | v :: l, j + 1, h => by
    have := encVs_chunk l j (by simpa using h)
    simp only [encVs, List.flatMap_cons, List.getElem_cons_succ] at this ⊢
    rw [show (j + 1) * 3 = 3 + j * 3 by omega, ← List.drop_drop, show List.drop 3 (encV v ++ List.flatMap encV l) = List.flatMap encV l from rfl]
    exact this
theorem encVs_get (l : List Vl) (j : Nat) (h : j < l.length) : (encVs l)[j * 3]? = some (.int .i64 l[j].n) ∧ (encVs l)[j * 3 + 1]? = some (.string l[j].s) ∧ (encVs l)[j * 3 + 2]? = some (.int .i64 l[j].r) := by
  have hc := encVs_chunk l j h
  have h0 : (((encVs l).drop (j * 3)).take 3)[0]? = some (.int .i64 l[j].n) := by rw [hc]; rfl
  have h1 : (((encVs l).drop (j * 3)).take 3)[1]? = some (.string l[j].s) := by rw [hc]; rfl
  have h2 : (((encVs l).drop (j * 3)).take 3)[2]? = some (.int .i64 l[j].r) := by rw [hc]; rfl
  rw [List.getElem?_take, if_pos (by omega), List.getElem?_drop] at h0 h1 h2
  exact ⟨h0, h1, h2⟩
theorem encVs_eq : ∀ (l : List Vl) (xs : List Value), xs.length = l.length * 3 → (∀ j (h : j < l.length), (xs.drop (j * 3)).take 3 = encV l[j]) → xs = encVs l
  | [], xs, hl, _ => by simp at hl; subst hl; rfl
  | v :: l, xs, hl, h => by
    have h0 := h 0 (by simp)
    have ht := encVs_eq l (xs.drop 3) (by simp at hl ⊢; omega) (fun j hj => by
      have := h (j + 1) (by simpa using hj)
      rw [show (j + 1) * 3 = 3 + j * 3 by omega, ← List.drop_drop] at this
      simpa using this)
    simp at h0
    rw [← List.take_append_drop 3 xs, h0, ht]; rfl
theorem encVs_set : ∀ (l : List Vl) (k : Nat) (h : k < l.length) (v : Vl), (((encVs l).set (k * 3) (.int .i64 v.n)).set (k * 3 + 1) (.string v.s)).set (k * 3 + 2) (.int .i64 v.r) = encVs (l.set k v)
  | u :: l, 0, _, v => by simp [encVs, encV]
  | u :: l, k + 1, h, v => by
    have := encVs_set l k (by simpa using h) v
    simp only [encVs, List.flatMap_cons, List.set_cons_succ] at this ⊢
    rw [← this]
    simp only [encV, List.cons_append, List.nil_append]
    rw [show (k + 1) * 3 = k * 3 + 1 + 1 + 1 by omega]
    rfl

theorem OwnL.addr {α : Type} [Lay α] {S : Nat → Prop} {w : World} {base n c : Nat} {e : TypeId} {F : Option Addr} {l : List α} (h : OwnL S w base e (.slice F n c) l) (hl : 0 < l.length) : ∃ g, F = some ⟨g, 0, none⟩ := by
  obtain ⟨xs, hx, _⟩ := h.out
  rcases hx.2 with ⟨_, h0⟩ | ⟨g, cap, cur, he, _⟩
  · omega
  · simp only [Value.slice.injEq] at he
    exact ⟨g, he.1⟩
section
variable {S : Nat → Prop} {w : World} {base g cap : Nat} {e : TypeId} {l : List Vl}
theorem OwnL.row (h : OwnL S w base e (.slice (some ⟨g, 0, none⟩) l.length cap) l) : w.ownsRow base e 3 (.slice (some ⟨g, 0, none⟩) l.length cap) l.length (encVs l) ∧ ∀ v ∈ l, v.s.size ≤ maxLen := by
  obtain ⟨xs, hx, hr⟩ := h.out
  have hr' : ∀ j (h : j < l.length), (xs.drop (j * 3)).take 3 = encV l[j] ∧ l[j].s.size ≤ maxLen := fun j hj => hr j hj
  have : xs = encVs l := encVs_eq l xs hx.1 (fun j hj => (hr' j hj).1)
  rw [← this]
  exact ⟨hx, fun v hv => by obtain ⟨j, hj, rfl⟩ := List.getElem_of_mem hv; exact (hr' j hj).2⟩
theorem OwnL.of_row (h : w.ownsRow base e 3 (.slice (some ⟨g, 0, none⟩) l.length cap) l.length (encVs l)) (hs : ∀ v ∈ l, v.s.size ≤ maxLen) : OwnL S w base e (.slice (some ⟨g, 0, none⟩) l.length cap) l :=
  ⟨_, h, fun j hj => ⟨encVs_chunk l j hj, hs _ (List.getElem_mem hj)⟩⟩
theorem OwnL.vlAt (h : OwnL S w base e (.slice (some ⟨g, 0, none⟩) l.length cap) l) (j : Nat) (hj : j < l.length) :
    w.cell? ⟨g, j * 3, none⟩ = some (.int .i64 l[j].n) ∧ w.cell? ⟨g, j * 3 + 1, none⟩ = some (.string l[j].s) ∧ w.cell? ⟨g, j * 3 + 2, none⟩ = some (.int .i64 l[j].r) ∧
      w.frozen? ⟨g, j * 3, none⟩ = false ∧ w.frozen? ⟨g, j * 3 + 1, none⟩ = false ∧ w.frozen? ⟨g, j * 3 + 2, none⟩ = false := by
  have hr := h.row.1
  obtain ⟨h0, h1, h2⟩ := encVs_get l j hj
  exact ⟨by rw [hr.cellAt _ (by omega), h0], by rw [hr.cellAt _ (by omega), h1], by rw [hr.cellAt _ (by omega), h2], hr.frozenAt _, hr.frozenAt _, hr.frozenAt _⟩
theorem OwnL.vlSet (h : OwnL S w base e (.slice (some ⟨g, 0, none⟩) l.length cap) l) (k : Nat) (hk : k < l.length) (v : Vl) (hs : v.s.size ≤ maxLen) :
    OwnL S (((w.setCell ⟨g, k * 3, none⟩ (.int .i64 v.n)).setCell ⟨g, k * 3 + 1, none⟩ (.string v.s)).setCell ⟨g, k * 3 + 2, none⟩ (.int .i64 v.r)) base e (.slice (some ⟨g, 0, none⟩) l.length cap) (l.set k v) := by
  obtain ⟨hr, hz⟩ := h.row
  have h3 := ((hr.stored (k * 3) (.int .i64 v.n)).1.stored (k * 3 + 1) (.string v.s)).1.stored (k * 3 + 2) (.int .i64 v.r)
  rw [encVs_set l k hk v] at h3
  have := OwnL.of_row (S := S) (l := l.set k v) (g := g) (cap := cap) (base := base) (e := e) (by simpa using h3.1) (fun u hu => by
    rcases List.mem_or_eq_of_mem_set hu with hu | rfl
    · exact hz u hu
    · exact hs)
  simpa using this
end
end Go.Proofs.YtgeegdnkheckcaaGreat
