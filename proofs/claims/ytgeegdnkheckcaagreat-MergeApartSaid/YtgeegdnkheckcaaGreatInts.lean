/- Lists of ints of the call's own: sorted, and searched. -/
import Derived.Test.YtgeegdnkheckcaaGreatLayInt
import Derived.Test.YtgeegdnkheckcaaGreatOwn
import Derived.Sort.OwnSortedInts
import Derived.Shelf.Slices.Empties
set_option linter.unusedVariables false
namespace Go.Proofs.YtgeegdnkheckcaaGreat
open Lay (rep)
open Go.RowKit Go.Sort Go.Proofs

/-- A list of ints in order. -/
def sortI (l : List Int) : List Int := l.mergeSort fun x y => decide (x ≤ y)
theorem sortI_len (l : List Int) : (sortI l).length = l.length := List.length_mergeSort l
theorem sortI_mem {l : List Int} {x : Int} : x ∈ sortI l ↔ x ∈ l := List.mem_mergeSort
theorem sortI_sorted (l : List Int) : (sortI l).Pairwise (· ≤ ·) := by
  have := List.pairwise_mergeSort (le := fun x y : Int => decide (x ≤ y)) (fun a b c h1 h2 => by simp at *; omega) (fun a b => by simp; omega) l
  exact this.imp fun h => by simpa using h
theorem take1_drop {α : Type} {l : List α} {j : Nat} (h : j < l.length) : (l.drop j).take 1 = [l[j]] := by rw [List.drop_eq_getElem_cons h]; rfl
theorem own_ints {S : Nat → Prop} {w : World} {base : Nat} {e : TypeId} {v : Value} {L : List Int} (own : OwnL S w base e v L) : w.ownsRow base e 1 v L.length (L.map (Value.int .i64)) := by
  obtain ⟨xs, hx, hr⟩ := own.out
  have hl : xs.length = L.length * 1 := hx.1
  have : xs = L.map (Value.int .i64) := by
    apply List.ext_getElem
    · simp [hl]
    · intro j h1 h2
      have hj : j < L.length := by simpa using h2
      have h3 : (xs.drop (j * 1)).take 1 = [.int .i64 L[j]] := hr j hj
      rw [Nat.mul_one, take1_drop h1] at h3
      simpa using h3
  rw [this] at hx
  exact hx
theorem ints_own {S : Nat → Prop} {w : World} {base : Nat} {e : TypeId} {v : Value} {L : List Int} (h : w.ownsRow base e 1 v L.length (L.map (Value.int .i64))) : OwnL S w base e v L :=
  ⟨_, h, fun j hj => by
    show ((L.map (Value.int .i64)).drop (j * 1)).take 1 = [.int .i64 L[j]]
    rw [Nat.mul_one, take1_drop (by simpa using hj)]
    simp⟩
theorem sort_ints {S : Nat → Prop} {w : World} {base : Nat} {v : Value} {L : List Int} (own : OwnL S w base 3 v L) (hL : L.length ≤ 1000) :
    Calls Tryz.prog 57 #[v] w fun e w' => e = .returned (.tuple #[]) ∧ Kp (fun b => b < w.heap.size ∧ v.ownBlock ≠ some b) w w' ∧ OwnL S w' base 3 v (sortI L) := by
  have hx := own_ints own
  rcases hx.2 with ⟨rfl, h0⟩ | ⟨g, cap, cur, rfl, h1, h2, h3, h4, h5, h6⟩
  · obtain rfl : L = [] := List.length_eq_zero_iff.1 h0
    refine (Any.slices_Sort_int_none Tryz.lays189 none 0 w).mono ?_
    rintro e w' ⟨rfl, rfl⟩
    exact ⟨rfl, Kp.refl _ _, by rw [show sortI [] = [] by simp [sortI]]; exact OwnL.nil⟩
  · have hg : g < w.heap.size := (Array.getElem?_eq_some_iff.1 h2).1
    have hH := holds_of_blockI h2 (by rw [Nat.mul_one] at h6; exact h6)
    refine (Any.slices_Sort_int Tryz.lays189 g 0 cap L w hH hg (by omega)).mono ?_
    rintro e w' ⟨rfl, n, os, rfl⟩
    have hgr := grownBy_sortedI (w := w) (g := g) (n := n) (os := os) (L.mergeSort fun x y => decide (x ≤ y)).toArray
    refine ⟨rfl, ?_, ints_own ?_⟩
    · exact (Kp.refl _ _).grown hgr (fun b hb => hb.1) (fun b hb e => hb.2 (by rw [Value.ownBlock]; exact e.symm))
    · rw [sortI_len]
      exact ownsRow_sortedI (sortI_len L) h1 h2 h3 h4 h5
/-- How a list of ints in order is searched. -/
theorem search_ints {S : Nat → Prop} {w : World} {base : Nat} {e : TypeId} {v : Value} {L : List Int} (own : OwnL S w base e v L) (hL : L.length ≤ 1000) (hs : L.Pairwise (· ≤ ·)) (x : Int) :
    Calls Tryz.prog 32 #[v, .int .i64 x] w fun r w' => (∃ k : Nat, r = .returned (.tuple #[.int .i64 k, .bool (L.contains x)])) ∧ ∃ q, w' = w.drewN q := by
  have hx := own_ints own
  rcases hx.2 with ⟨rfl, h0⟩ | ⟨g, cap, cur, rfl, h1, h2, h3, h4, h5, h6⟩
  · obtain rfl : L = [] := List.length_eq_zero_iff.1 h0
    refine (Any.slices_BinarySearch_int_empty Tryz.lays225 none 0 x w).mono ?_
    rintro r w' ⟨rfl, rfl⟩
    exact ⟨⟨0, rfl⟩, 0, rfl⟩
  · have hH := holds_of_blockI h2 (by rw [Nat.mul_one] at h6; exact h6)
    refine (Any.slices_BinarySearch_int Tryz.lays225 g 0 L.length cap L x w (Nat.le_refl _) (by omega) (fun j hj => ?_) (by rwa [List.take_length])).mono ?_
    · have := (hH j (by simpa using hj)).1
      rw [this]
      simp [List.getD_eq_getElem?_getD, hj]
    · rintro r w' ⟨rfl, q, rfl⟩
      exact ⟨⟨_, by rw [List.take_length]⟩, q, rfl⟩
end Go.Proofs.YtgeegdnkheckcaaGreat
