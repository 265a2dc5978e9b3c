/- Words of this claim: how lists and structs of numbers and strings read in memory, and what leaves such a reading alone. -/
import Derived.Below
import Derived.WalkKit
import Derived.OwnWalk
import Derived.LoopTactic
import Derived.Laws.AppendOwn
import Derived.Lib.Hide
import Derived.Deep.Draws
set_option linter.unusedVariables false
namespace Go.Proofs.YtgeegdnkheckcaaGreat
open Go.RowKit

/-- A Lean type whose elements lie in 'sz' cells; what they lead to lies in blocks of S. -/
class Lay (α : Type) where
  sz : Nat
  rep : (Nat → Prop) → World → List Value → α → Prop
  len : ∀ {S w vs a}, rep S w vs a → vs.length = sz
  mono : ∀ {S S' : Nat → Prop} {w vs a}, rep S w vs a → (∀ b, S b → S' b) → rep S' w vs a
  keep : ∀ {S : Nat → Prop} {w w' : World} {vs a}, rep S w vs a → (∀ b, S b → w'.heap[b]? = w.heap[b]?) → rep S w' vs a
open Lay (rep)

/-- The address of a slice whose elements are l. -/
def RepL {α : Type} [Lay α] (S : Nat → Prop) (w : World) (A : Option Addr) (l : List α) : Prop :=
  l ≠ [] → ∃ b off, A = some ⟨b, off, none⟩ ∧ S b ∧ b < w.heap.size ∧
    ∀ j (h : j < l.length), ∃ us, rep S w us l[j] ∧ ∀ i (hi : i < us.length), w.cell? ⟨b, off + j * Lay.sz α + i, none⟩ = some us[i]

theorem block_lt {w : World} {b o : Nat} {v : Value} (h : w.cell? ⟨b, o, none⟩ = some v) : b < w.heap.size := World.block_lt_of_cell? w _ h

theorem cell_keep {w w' : World} {b o : Nat} (h : w'.heap[b]? = w.heap[b]?) : w'.cell? ⟨b, o, none⟩ = w.cell? ⟨b, o, none⟩ := World.cell?_of_block (w := w) h

theorem size_keep {w w' : World} {b : Nat} (h : w'.heap[b]? = w.heap[b]?) (hb : b < w.heap.size) : b < w'.heap.size := by
  rw [Array.getElem?_eq_getElem hb] at h
  exact (Array.getElem?_eq_some_iff.1 h).1

theorem bcell {W w1 : World} (hb : Below W.heap.size W w1) : (∀ b o, b < W.heap.size → w1.cell? ⟨b, o, none⟩ = W.cell? ⟨b, o, none⟩) ∧ (∀ b o, b < W.heap.size → w1.frozen? ⟨b, o, none⟩ = W.frozen? ⟨b, o, none⟩) :=
  ⟨fun b o h => hb.cell (p := ⟨b, o, none⟩) h, fun b o h => hb.frozen (p := ⟨b, o, none⟩) h⟩
theorem below_drew {W w1 : World} (hb : Below W.drew.heap.size W.drew w1) : Below W.heap.size W w1 := ((Below.refl _ _).drew).trans hb
/-- A cell that stands below a call stands behind it. -/
theorem keep1 {W w1 : World} (hb : Below W.heap.size W w1) {b o : Nat} {v : Value} (h : W.cell? ⟨b, o, none⟩ = some v) : w1.cell? ⟨b, o, none⟩ = some v :=
  (hb.cell (p := ⟨b, o, none⟩) (block_lt h)).trans h
/-- The world at hand by a name. -/
theorem nameW {P : Program} {c : Code} {Q : Exit → Act → World → Prop} {a : Act} {w : World} (h : ∀ W, W = w → Code.wp P c Q a W) : Code.wp P c Q a w := h w rfl
theorem nameC {P : Program} {f : FuncId} {args : Array Value} {R : Ending → World → Prop} {w : World} (h : ∀ W, W = w → Calls P f args W R) : Calls P f args w R := h w rfl
theorem pw_below_drewN {B : Nat} {w W : World} (h : Below B w W) (n : Nat) : Below B w (W.drewN n) := ⟨h.os, h.tape, h.output, h.size, h.block⟩
/-- A call on the way: what lay below the caller's world lies below its own. -/
theorem bthen {a b c : World} (h : Below a.heap.size a b) (k : Below b.heap.size b c) : Below a.heap.size a c := h.trans (k.mono h.size)
theorem balloc {a b : World} (h : Below a.heap.size a b) (o : Obj) : Below a.heap.size a (b.alloc o) := h.alloc h.size o

section
variable {α : Type} [Lay α] {S S' : Nat → Prop} {w w' : World} {A : Option Addr} {l : List α}
theorem RepL.nil : RepL S w A ([] : List α) := fun h => absurd rfl h
theorem RepL.mono (h : RepL S w A l) (hS : ∀ b, S b → S' b) : RepL S' w A l := fun hl => by
  obtain ⟨b, off, e, hb, hb', hc⟩ := h hl
  refine ⟨b, off, e, hS b hb, hb', fun j hj => ?_⟩
  obtain ⟨us, hr, hu⟩ := hc j hj
  exact ⟨us, Lay.mono hr hS, hu⟩
theorem RepL.keep (h : RepL S w A l) (hk : ∀ b, S b → w'.heap[b]? = w.heap[b]?) : RepL S w' A l := fun hl => by
  obtain ⟨b, off, e, hb, hb', hc⟩ := h hl
  refine ⟨b, off, e, hb, size_keep (hk b hb) hb', fun j hj => ?_⟩
  obtain ⟨us, hr, hu⟩ := hc j hj
  exact ⟨us, Lay.keep hr hk, fun i hi => (cell_keep (hk b hb)).trans (hu i hi)⟩
end

instance : Lay Int where
  sz := 1
  rep _ _ vs n := vs = [.int .i64 n]
  len h := by rw [h]; rfl
  mono h _ := h
  keep h _ := h
instance : Lay ByteArray where
  sz := 1
  rep _ _ vs s := vs = [.string s] ∧ s.size ≤ maxLen
  len h := by rw [h.1]; rfl
  mono h _ := h
  keep h _ := h
instance : Lay (Int × Int) where
  sz := 2
  rep _ _ vs x := vs = [.int .i64 x.1, .int .i64 x.2]
  len h := by rw [h]; rfl
  mono h _ := h
  keep h _ := h
instance {α : Type} [Lay α] : Lay (List α) where
  sz := 1
  rep S w vs l := ∃ A c, vs = [.slice A l.length c] ∧ l.length ≤ c ∧ c ≤ maxLen ∧ RepL S w A l
  len := by rintro _ _ _ _ ⟨A, c, h, _⟩; rw [h]; rfl
  mono := by rintro _ _ _ _ _ ⟨A, c, h, h1, h2, h3⟩ hS; exact ⟨A, c, h, h1, h2, h3.mono hS⟩
  keep := by rintro _ _ _ _ _ ⟨A, c, h, h1, h2, h3⟩ hS; exact ⟨A, c, h, h1, h2, h3.keep hS⟩

/-- what reads below w's last block. -/
abbrev Bel (w : World) : Nat → Prop := fun b => b < w.heap.size

theorem rep_below {α : Type} [Lay α] {w W : World} {vs : List Value} {a : α} (h : rep (Bel w) w vs a) (hb : Below w.heap.size w W) : rep (Bel W) W vs a :=
  Lay.mono (Lay.keep h fun b hb' => hb.block b hb') fun b hb' => Nat.lt_of_lt_of_le hb' hb.size
theorem RepL.below {α : Type} [Lay α] {w W : World} {A : Option Addr} {l : List α} (h : RepL (Bel w) w A l) (hb : Below w.heap.size w W) : RepL (Bel W) W A l :=
  RepL.mono (RepL.keep h fun b hb' => hb.block b hb') fun b hb' => Nat.lt_of_lt_of_le hb' hb.size

theorem RepL.int {S : Nat → Prop} {w : World} {A : Option Addr} {l : List Int} (h : RepL S w A l) (hl : l ≠ []) :
    ∃ b off, A = some ⟨b, off, none⟩ ∧ S b ∧ b < w.heap.size ∧ ∀ j (hj : j < l.length), w.cell? ⟨b, off + j, none⟩ = some (.int .i64 l[j]) := by
  obtain ⟨b, off, e, hS, hb, hc⟩ := h hl
  refine ⟨b, off, e, hS, hb, fun j hj => ?_⟩
  obtain ⟨us, hr, hu⟩ := hc j hj
  obtain rfl : us = [.int .i64 l[j]] := hr
  simpa [Lay.sz] using hu 0 (by simp)

/-! Structs -/
structure Fld where
  name : ByteArray
  kind : Int
  to : ByteArray
  deriving DecidableEq
structure Typ where
  name : ByteArray
  f : List Fld
  deriving DecidableEq
structure Vl where
  n : Int
  s : ByteArray
  r : Int
  deriving DecidableEq
structure Ob where
  id : Int
  t : Int
  f : List Vl
  deriving DecidableEq
structure Gr where
  s : List Typ
  o : List Ob
  roots : List Int
  deriving DecidableEq
instance : Inhabited Fld := ⟨⟨⟨#[]⟩, 0, ⟨#[]⟩⟩⟩
instance : Inhabited Typ := ⟨⟨⟨#[]⟩, []⟩⟩
instance : Inhabited Vl := ⟨⟨0, ⟨#[]⟩, 0⟩⟩
instance : Inhabited Ob := ⟨⟨0, 0, []⟩⟩
instance : Inhabited Gr := ⟨⟨[], [], []⟩⟩

instance : Lay Fld where
  sz := 3
  rep _ _ vs x := vs = [.string x.name, .int .i64 x.kind, .string x.to] ∧ x.name.size ≤ maxLen ∧ x.to.size ≤ maxLen
  len h := by rw [h.1]; rfl
  mono h _ := h
  keep h _ := h
instance : Lay Vl where
  sz := 3
  rep _ _ vs x := vs = [.int .i64 x.n, .string x.s, .int .i64 x.r] ∧ x.s.size ≤ maxLen
  len h := by rw [h.1]; rfl
  mono h _ := h
  keep h _ := h
instance : Lay Typ where
  sz := 2
  rep S w vs x := ∃ A c, vs = [.string x.name, .slice A x.f.length c] ∧ x.f.length ≤ c ∧ c ≤ maxLen ∧ RepL S w A x.f ∧ x.name.size ≤ maxLen
  len := by rintro _ _ _ _ ⟨A, c, h, _⟩; rw [h]; rfl
  mono := by rintro _ _ _ _ _ ⟨A, c, h, h1, h2, h3, h4⟩ hS; exact ⟨A, c, h, h1, h2, h3.mono hS, h4⟩
  keep := by rintro _ _ _ _ _ ⟨A, c, h, h1, h2, h3, h4⟩ hS; exact ⟨A, c, h, h1, h2, h3.keep hS, h4⟩
instance : Lay Ob where
  sz := 3
  rep S w vs x := ∃ A c, vs = [.int .i64 x.id, .int .i64 x.t, .slice A x.f.length c] ∧ x.f.length ≤ c ∧ c ≤ maxLen ∧ RepL S w A x.f
  len := by rintro _ _ _ _ ⟨A, c, h, _⟩; rw [h]; rfl
  mono := by rintro _ _ _ _ _ ⟨A, c, h, h1, h2, h3⟩ hS; exact ⟨A, c, h, h1, h2, h3.mono hS⟩
  keep := by rintro _ _ _ _ _ ⟨A, c, h, h1, h2, h3⟩ hS; exact ⟨A, c, h, h1, h2, h3.keep hS⟩

theorem RepL.fld {S : Nat → Prop} {w : World} {A : Option Addr} {l : List Fld} (h : RepL S w A l) (hl : l ≠ []) :
    ∃ b off, A = some ⟨b, off, none⟩ ∧ S b ∧ b < w.heap.size ∧ ∀ j (hj : j < l.length), w.cell? ⟨b, off + j * 3, none⟩ = some (.string l[j].name) ∧
      w.cell? ⟨b, off + j * 3 + 1, none⟩ = some (.int .i64 l[j].kind) ∧ w.cell? ⟨b, off + j * 3 + 2, none⟩ = some (.string l[j].to) ∧ l[j].name.size ≤ maxLen ∧ l[j].to.size ≤ maxLen := by
  obtain ⟨b, off, e, hS, hb, hc⟩ := h hl
  refine ⟨b, off, e, hS, hb, fun j hj => ?_⟩
  obtain ⟨us, ⟨hr, h1, h2⟩, hu⟩ := hc j hj
  obtain rfl : us = [.string l[j].name, .int .i64 l[j].kind, .string l[j].to] := hr
  exact ⟨hu 0 (by simp), hu 1 (by simp), hu 2 (by simp), h1, h2⟩
theorem RepL.pair {S : Nat → Prop} {w : World} {A : Option Addr} {l : List (Int × Int)} (h : RepL S w A l) (hl : l ≠ []) :
    ∃ b off, A = some ⟨b, off, none⟩ ∧ S b ∧ b < w.heap.size ∧ ∀ j (hj : j < l.length), w.cell? ⟨b, off + j * 2, none⟩ = some (.int .i64 l[j].1) ∧
      w.cell? ⟨b, off + j * 2 + 1, none⟩ = some (.int .i64 l[j].2) := by
  obtain ⟨b, off, e, hS, hb, hc⟩ := h hl
  refine ⟨b, off, e, hS, hb, fun j hj => ?_⟩
  obtain ⟨us, hr, hu⟩ := hc j hj
  obtain rfl : us = [.int .i64 l[j].1, .int .i64 l[j].2] := hr
  exact ⟨hu 0 (by simp), hu 1 (by simp)⟩
theorem RepL.vl {S : Nat → Prop} {w : World} {A : Option Addr} {l : List Vl} (h : RepL S w A l) (hl : l ≠ []) :
    ∃ b off, A = some ⟨b, off, none⟩ ∧ S b ∧ b < w.heap.size ∧ ∀ j (hj : j < l.length), w.cell? ⟨b, off + j * 3, none⟩ = some (.int .i64 l[j].n) ∧
      w.cell? ⟨b, off + j * 3 + 1, none⟩ = some (.string l[j].s) ∧ w.cell? ⟨b, off + j * 3 + 2, none⟩ = some (.int .i64 l[j].r) ∧ l[j].s.size ≤ maxLen := by
  obtain ⟨b, off, e, hS, hb, hc⟩ := h hl
  refine ⟨b, off, e, hS, hb, fun j hj => ?_⟩
  obtain ⟨us, ⟨hr, h1⟩, hu⟩ := hc j hj
  obtain rfl : us = [.int .i64 l[j].n, .string l[j].s, .int .i64 l[j].r] := hr
  exact ⟨hu 0 (by simp), hu 1 (by simp), hu 2 (by simp), h1⟩
theorem RepL.typ {S : Nat → Prop} {w : World} {A : Option Addr} {l : List Typ} (h : RepL S w A l) (hl : l ≠ []) :
    ∃ b off, A = some ⟨b, off, none⟩ ∧ S b ∧ b < w.heap.size ∧ ∀ j (hj : j < l.length), ∃ F c, w.cell? ⟨b, off + j * 2, none⟩ = some (.string l[j].name) ∧
      w.cell? ⟨b, off + j * 2 + 1, none⟩ = some (.slice F l[j].f.length c) ∧ l[j].f.length ≤ c ∧ c ≤ maxLen ∧ RepL S w F l[j].f ∧ l[j].name.size ≤ maxLen := by
  obtain ⟨b, off, e, hS, hb, hc⟩ := h hl
  refine ⟨b, off, e, hS, hb, fun j hj => ?_⟩
  obtain ⟨us, hr, hu⟩ := hc j hj
  obtain ⟨F, c, rfl, h1, h2, h3⟩ := hr
  exact ⟨F, c, hu 0 (by simp), hu 1 (by simp), h1, h2, h3⟩
theorem RepL.ob {S : Nat → Prop} {w : World} {A : Option Addr} {l : List Ob} (h : RepL S w A l) (hl : l ≠ []) :
    ∃ b off, A = some ⟨b, off, none⟩ ∧ S b ∧ b < w.heap.size ∧ ∀ j (hj : j < l.length), ∃ F c, w.cell? ⟨b, off + j * 3, none⟩ = some (.int .i64 l[j].id) ∧
      w.cell? ⟨b, off + j * 3 + 1, none⟩ = some (.int .i64 l[j].t) ∧
      w.cell? ⟨b, off + j * 3 + 2, none⟩ = some (.slice F l[j].f.length c) ∧ l[j].f.length ≤ c ∧ c ≤ maxLen ∧ RepL S w F l[j].f := by
  obtain ⟨b, off, e, hS, hb, hc⟩ := h hl
  refine ⟨b, off, e, hS, hb, fun j hj => ?_⟩
  obtain ⟨us, hr, hu⟩ := hc j hj
  obtain ⟨F, c, rfl, h1, h2, h3⟩ := hr
  exact ⟨F, c, hu 0 (by simp), hu 1 (by simp), hu 2 (by simp), h1, h2, h3⟩

end Go.Proofs.YtgeegdnkheckcaaGreat
