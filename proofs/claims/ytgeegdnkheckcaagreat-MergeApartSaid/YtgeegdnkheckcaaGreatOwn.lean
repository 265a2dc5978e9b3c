/- Lists that a call makes itself, by append: what they hold, and what leaves them alone. -/
import Derived.Test.YtgeegdnkheckcaaGreatKit
import Derived.Deep.AppendLies
import Derived.OwnWalk
set_option linter.unusedVariables false
namespace Go.Proofs.YtgeegdnkheckcaaGreat
open Lay (rep)
open Go.RowKit

/-! ### What blocks of S hold stays. -/
structure Kp (S : Nat → Prop) (w w' : World) : Prop where
  os : w'.os = w.os
  tape : w'.tape = w.tape
  output : w'.output = w.output
  size : w.heap.size ≤ w'.heap.size
  block : ∀ b, S b → w'.heap[b]? = w.heap[b]?
section
variable {S S' : Nat → Prop} {w w' w'' : World}
theorem Kp.refl (S : Nat → Prop) (w : World) : Kp S w w := ⟨rfl, rfl, rfl, Nat.le_refl _, fun _ _ => rfl⟩
theorem Kp.trans (h : Kp S w w') (k : Kp S w' w'') : Kp S w w'' :=
  ⟨k.os.trans h.os, k.tape.trans h.tape, k.output.trans h.output, Nat.le_trans h.size k.size, fun i hi => (k.block i hi).trans (h.block i hi)⟩
theorem Kp.mono (h : Kp S w w') (hS : ∀ b, S' b → S b) : Kp S' w w' := ⟨h.os, h.tape, h.output, h.size, fun b hb => h.block b (hS b hb)⟩
theorem Kp.of_below {B : Nat} (h : Below B w w') (hS : ∀ b, S b → b < B) : Kp S w w' := ⟨h.os, h.tape, h.output, h.size, fun b hb => h.block b (hS b hb)⟩
theorem Kp.below {B : Nat} (h : Kp S w w') (hS : ∀ b, b < B → S b) : Below B w w' := ⟨h.os, h.tape, h.output, h.size, fun b hb => h.block b (hS b hb)⟩
theorem Kp.drew (h : Kp S w w') : Kp S w w'.drew := ⟨h.os, h.tape, h.output, h.size, h.block⟩
theorem Kp.drewN (h : Kp S w w') (n : Nat) : Kp S w (w'.drewN n) := ⟨h.os, h.tape, h.output, h.size, h.block⟩
theorem Kp.call (h : Kp S w w') (k : Below w'.heap.size w' w'') (hS : ∀ b, S b → b < w.heap.size) : Kp S w w'' :=
  h.trans (Kp.of_below k fun b hb => Nat.lt_of_lt_of_le (hS b hb) h.size)
theorem Kp.alloc (h : Kp S w w') (hS : ∀ b, S b → b < w.heap.size) (o : Obj) : Kp S w (w'.alloc o) :=
  h.call ((Below.refl _ _).alloc (Nat.le_refl _) o) hS
theorem Kp.setCell (h : Kp S w w') {p : Addr} (hp : ¬ S p.block) (u : Value) : Kp S w (w'.setCell p u) :=
  ⟨h.os, h.tape, h.output, by simpa [World.setCell] using h.size, fun b hb => (Below.heap_setCell w' p u b (fun e => hp (e ▸ hb))).trans (h.block b hb)⟩
theorem Kp.grown {row : Option Nat} (h : Kp S w w') (hg : w'.grownBy w'' row) (hS : ∀ b, S b → b < w.heap.size) (hr : ∀ b, S b → some b ≠ row) : Kp S w w'' :=
  h.trans ⟨hg.os, hg.tape, hg.output, hg.size, fun b hb => hg.block b (Nat.lt_of_lt_of_le (hS b hb) h.size) (hr b hb)⟩
theorem Kp.cell (h : Kp S w w') {b o : Nat} {v : Value} (hb : S b) (hc : w.cell? ⟨b, o, none⟩ = some v) : w'.cell? ⟨b, o, none⟩ = some v := (cell_keep (h.block b hb)).trans hc
theorem rep_kp {α : Type} [Lay α] {vs : List Value} {a : α} (h : rep S w vs a) (k : Kp S w w') : rep S w' vs a := Lay.keep h k.block
theorem RepL.kp {α : Type} [Lay α] {A : Option Addr} {l : List α} (h : RepL S w A l) (k : Kp S w w') : RepL S w' A l := RepL.keep h k.block
end

theorem nameE {K : Act → World → Prop} {Q : Exit → Act → World → Prop} {x : Exit} {a : Act} {w : World} (h : ∀ W, W = w → Exit.then K Q x a W) : Exit.then K Q x a w := h w rfl

/-! ### A block of cells that the call made itself. -/
def Blk (w : World) (b : Nat) (cs : Array Value) (t : TypeId) : Prop := w.heap[b]? = some (.cells cs t (0, 0))
section
variable {w w' : World} {b : Nat} {cs : Array Value} {t : TypeId}
theorem Blk.cell (h : Blk w b cs t) {j : Nat} {v : Value} (hv : cs[j]? = some v) : w.cell? ⟨b, j, none⟩ = some v := by
  unfold Blk at h; simp [World.cell?, h, hv]
theorem Blk.free (h : Blk w b cs t) (j : Nat) : w.frozen? ⟨b, j, none⟩ = false := by
  unfold Blk at h; simp [World.frozen?, h]
theorem Blk.lt (h : Blk w b cs t) : b < w.heap.size := (Array.getElem?_eq_some_iff.1 h).1
theorem Blk.keep (h : Blk w b cs t) (hk : w'.heap[b]? = w.heap[b]?) : Blk w' b cs t := hk.trans h
theorem Blk.below (h : Blk w b cs t) (hb : Below w.heap.size w w') : Blk w' b cs t := h.keep (hb.block b h.lt)
theorem Blk.kp {S : Nat → Prop} (h : Blk w b cs t) (k : Kp S w w') (hS : S b) : Blk w' b cs t := h.keep (k.block b hS)
theorem Blk.grown {row : Option Nat} (h : Blk w b cs t) (hg : w.grownBy w' row) (hne : some b ≠ row) : Blk w' b cs t := h.keep (hg.block b h.lt hne)
theorem Blk.alloc (h : Blk w b cs t) (o : Obj) : Blk (w.alloc o) b cs t := h.below ((Below.refl _ _).alloc (Nat.le_refl _) o)
theorem Blk.drewN (h : Blk w b cs t) (n : Nat) : Blk (w.drewN n) b cs t := h
theorem Blk.set (h : Blk w b cs t) (j : Nat) (v : Value) : Blk (w.setCell ⟨b, j, none⟩ v) b (cs.setIfInBounds j v) t := by
  unfold Blk at *
  simp only [World.setCell, Array.getElem?_modify, if_true, h, Option.map_some]
  simp
theorem Blk.set_ne (h : Blk w b cs t) {p : Addr} (hp : p.block ≠ b) (v : Value) : Blk (w.setCell p v) b cs t := h.keep (Below.heap_setCell w p v b (Ne.symm hp))
theorem Blk.one {v0 : Value} (h : Blk w b #[v0] t) : w.cell? ⟨b, 0, none⟩ = some v0 ∧ w.frozen? ⟨b, 0, none⟩ = false := ⟨h.cell rfl, h.free 0⟩
theorem Blk.two {v0 v1 : Value} (h : Blk w b #[v0, v1] t) : w.cell? ⟨b, 0, none⟩ = some v0 ∧ w.cell? ⟨b, 1, none⟩ = some v1 ∧ w.frozen? ⟨b, 0, none⟩ = false ∧ w.frozen? ⟨b, 1, none⟩ = false := ⟨h.cell rfl, h.cell rfl, h.free 0, h.free 1⟩
theorem Blk.three {v0 v1 v2 : Value} (h : Blk w b #[v0, v1, v2] t) : w.cell? ⟨b, 0, none⟩ = some v0 ∧ w.cell? ⟨b, 1, none⟩ = some v1 ∧ w.cell? ⟨b, 2, none⟩ = some v2 ∧ w.frozen? ⟨b, 0, none⟩ = false ∧ w.frozen? ⟨b, 1, none⟩ = false ∧ w.frozen? ⟨b, 2, none⟩ = false := ⟨h.cell rfl, h.cell rfl, h.cell rfl, h.free 0, h.free 1, h.free 2⟩
theorem Blk.four {v0 v1 v2 v3 : Value} (h : Blk w b #[v0, v1, v2, v3] t) : (w.cell? ⟨b, 0, none⟩ = some v0 ∧ w.cell? ⟨b, 1, none⟩ = some v1 ∧ w.cell? ⟨b, 2, none⟩ = some v2 ∧ w.cell? ⟨b, 3, none⟩ = some v3) ∧ w.frozen? ⟨b, 0, none⟩ = false ∧ w.frozen? ⟨b, 1, none⟩ = false ∧ w.frozen? ⟨b, 2, none⟩ = false ∧ w.frozen? ⟨b, 3, none⟩ = false :=
  ⟨⟨h.cell rfl, h.cell rfl, h.cell rfl, h.cell rfl⟩, h.free 0, h.free 1, h.free 2, h.free 3⟩
theorem Blk.new (w : World) (cs : Array Value) (t : TypeId) : Blk (w.alloc (.cells cs t)) w.heap.size cs t := heap_alloc_new w _
theorem Blk.new' {w : World} {b : Nat} (h : b = w.heap.size) (cs : Array Value) (t : TypeId) : Blk (w.alloc (.cells cs t)) b cs t := by rw [h]; exact Blk.new w cs t
end

/-! ### A list that the call appends to. -/
structure OwnL {α : Type} [Lay α] (S : Nat → Prop) (w : World) (base : Nat) (e : TypeId) (v : Value) (l : List α) : Prop where
  out : ∃ xs, w.ownsRow base e (Lay.sz α) v l.length xs ∧ ∀ j (h : j < l.length), rep S w ((xs.drop (j * Lay.sz α)).take (Lay.sz α)) l[j]

section
variable {α : Type} [Lay α] {S S' : Nat → Prop} {w w' : World} {base : Nat} {e : TypeId} {v : Value} {l : List α}
theorem OwnL.nil : OwnL S w base e (.slice none 0 0) ([] : List α) := ⟨[], World.ownsRow_nil w base e _, fun j h => absurd h (by simp)⟩
theorem OwnL.base_le (h : OwnL S w base e v l) : ∀ k, v.ownBlock = some k → base ≤ k ∧ k < w.heap.size := by
  obtain ⟨xs, hx, _⟩ := h.out
  exact hx.lt
theorem OwnL.mono (h : OwnL S w base e v l) (hS : ∀ b, S b → S' b) : OwnL S' w base e v l := by
  obtain ⟨xs, hx, hr⟩ := h.out
  exact ⟨xs, hx, fun j hj => Lay.mono (hr j hj) hS⟩
theorem OwnL.grown {row : Option Nat} (h : OwnL S w base e v l) (hg : w.grownBy w' row) (hne : v.ownBlock = none ∨ v.ownBlock ≠ row) (hS : ∀ b, S b → b < w.heap.size ∧ some b ≠ row) : OwnL S w' base e v l := by
  obtain ⟨xs, hx, hr⟩ := h.out
  exact ⟨xs, hx.kept hg hne, fun j hj => Lay.keep (hr j hj) fun b hb => hg.block b (hS b hb).1 (hS b hb).2⟩
theorem OwnL.kp {T : Nat → Prop} (h : OwnL S w base e v l) (k : Kp T w w') (hv : ∀ b, v.ownBlock = some b → T b) (hS : ∀ b, S b → T b) : OwnL S w' base e v l := by
  obtain ⟨xs, hx, hr⟩ := h.out
  refine ⟨xs, ?_, fun j hj => Lay.keep (hr j hj) fun b hb => k.block b (hS b hb)⟩
  rcases hx.2 with ⟨rfl, h0⟩ | ⟨g, cap, cur, rfl, h1, h2, h3⟩
  · exact ⟨hx.1, .inl ⟨rfl, h0⟩⟩
  · exact ⟨hx.1, .inr ⟨g, cap, cur, rfl, h1, (k.block g (hv g rfl)).trans h2, h3⟩⟩
theorem OwnL.below {B : Nat} (h : OwnL S w base e v l) (k : Below B w w') (hB : w.heap.size ≤ B) (hS : ∀ b, S b → b < w.heap.size) : OwnL S w' base e v l :=
  h.kp (T := fun b => b < B) (Kp.of_below k fun b hb => hb) (fun b hb => Nat.lt_of_lt_of_le (h.base_le b hb).2 hB) (fun b hb => Nat.lt_of_lt_of_le (hS b hb) hB)

/-- It reads. -/
theorem OwnL.read (h : OwnL S w base e v l) (hsz : 0 < Lay.sz α) (hS : ∀ b, S b → b < w.heap.size) : ∃ A c, v = .slice A l.length c ∧ l.length ≤ c ∧ c ≤ maxLen ∧ RepL (fun b => b < w.heap.size ∧ (base ≤ b ∨ S b)) w A l := by
  obtain ⟨xs, hx, hr⟩ := h.out
  rcases hx.2 with ⟨rfl, h0⟩ | ⟨g, cap, cur, rfl, h1, h2, h3, h4, h5, h6⟩
  · obtain rfl : l = [] := List.length_eq_zero_iff.1 h0
    exact ⟨none, 0, rfl, Nat.le_refl _, Nat.zero_le _, RepL.nil⟩
  · refine ⟨_, cap, rfl, h3, h4, fun _ => ⟨g, 0, rfl, ⟨(Array.getElem?_eq_some_iff.1 h2).1, .inl h1⟩, (Array.getElem?_eq_some_iff.1 h2).1, fun j hj => ⟨_, Lay.mono (hr j hj) (fun b hb => ⟨hS b hb, .inr hb⟩), ?_⟩⟩⟩
    intro i hi
    have hlen : xs.length = l.length * Lay.sz α := hx.1
    have hi' : i < Lay.sz α := by have := Lay.len (hr j hj); omega
    have hle : (j + 1) * Lay.sz α ≤ l.length * Lay.sz α := Nat.mul_le_mul_right _ hj
    have hji : j * Lay.sz α + i < xs.length := by rw [hlen]; rw [Nat.add_mul] at hle; omega
    have hc : cur.toList[j * Lay.sz α + i]? = some xs[j * Lay.sz α + i] := by
      have : xs[j * Lay.sz α + i]? = some xs[j * Lay.sz α + i] := List.getElem?_eq_getElem hji
      rw [← this]
      conv => rhs; rw [← h6]
      rw [List.getElem?_take, if_pos (by omega)]
    have hcell : w.cell? ⟨g, j * Lay.sz α + i, none⟩ = some xs[j * Lay.sz α + i] := by
      have : cur[j * Lay.sz α + i]? = some xs[j * Lay.sz α + i] := by simpa using hc
      simp [World.cell?, h2, this]
    rw [show 0 + j * Lay.sz α + i = j * Lay.sz α + i by omega, hcell]
    simp

theorem OwnL.snoc {v' : Value} {x : α} {xs news : List Value} (hl : xs.length = l.length * Lay.sz α) (hr : ∀ j (h : j < l.length), rep S w ((xs.drop (j * Lay.sz α)).take (Lay.sz α)) l[j])
    (hown : w'.ownsRow base e (Lay.sz α) v' (l.length + 1) (xs ++ news)) (hS : ∀ b, S b → S' b ∧ w'.heap[b]? = w.heap[b]?) (hx : rep S' w' news x) : OwnL S' w' base e v' (l ++ [x]) := by
  refine ⟨xs ++ news, by simpa using hown, fun j hj => ?_⟩
  have hn := Lay.len hx
  by_cases hj' : j < l.length
  · rw [List.getElem_append_left hj']
    have hle : (j + 1) * Lay.sz α ≤ l.length * Lay.sz α := Nat.mul_le_mul_right _ hj'
    rw [Nat.add_mul] at hle
    have : (((xs ++ news).drop (j * Lay.sz α)).take (Lay.sz α)) = ((xs.drop (j * Lay.sz α)).take (Lay.sz α)) := by
      rw [List.drop_append_of_le_length (by omega), List.take_append_of_le_length (by simp; omega)]
    rw [this]
    exact Lay.mono (Lay.keep (hr j hj') fun b hb => (hS b hb).2) fun b hb => (hS b hb).1
  · obtain rfl : j = l.length := by simp at hj; omega
    rw [List.getElem_append_right (Nat.le_refl _)]
    simp only [Nat.sub_self, List.getElem_cons_zero]
    have : (((xs ++ news).drop (l.length * Lay.sz α)).take (Lay.sz α)) = news := by
      rw [← hl, List.drop_append_of_le_length (Nat.le_refl _)]
      simp [← hn]
    rw [this]; exact hx
end

/-- What the walk asks of an element's type. -/
structure Inf (P : Program) (e : TypeId) (size bytes : Nat) : Prop where
  out : ∃ i z, P.info? e = some i ∧ i.zero = some z ∧ i.size = size ∧ i.bytes = bytes ∧ z.cells.size = size
theorem Inf.of {P : Program} {e : TypeId} {z : Value} {size bytes : Nat} (h : (P.info? e).map (fun i => (i.zero, i.size, i.bytes)) = some (some z, size, bytes)) (hz : z.cells.size = size) : Inf P e size bytes := by
  obtain ⟨i, h1, h2, h3, h4⟩ := info_parts h
  exact ⟨i, z, h1, h2, h3, h4, hz⟩

/-- 'append(l, x)', the new element in a block of its own. -/
theorem wpList_append_L {α : Type} [Lay α] {P : Program} {S S' : Nat → Prop} {w : World} {ops : Array Oper} {rest : List Oper} {o : Oper} {a : Act} {Q : Exit → Act → World → Prop} (hgd : o.guard = none) (s x : Operand) (t : TypeId)
    (ho : o.op = .call { callee := .builtin .append, args := #[s, x], argTypes := #[t, t] })
    {base : Nat} {e : TypeId} {bytes : Nat} (ht : P.underlying t = some (.slice e)) (inf : Inf P e (Lay.sz α) bytes) (hsz : 0 < Lay.sz α)
    {v : Value} {l : List α} (hs : a.eval s = v) (own : OwnL S w base e v l)
    {b c : Nat} {y : α} {us : List Value} {ty : TypeId} (hx : a.eval x = .slice (some ⟨b, 0, none⟩) 1 c) (hb : Blk w b us.toArray ty) (h1 : ∀ u ∈ us, u.oneCell' = true)
    (hy : rep S' w us y) (hSS : ∀ k, S k → S' k) (hS' : ∀ k, S' k → k < w.heap.size ∧ some k ≠ v.ownBlock)
    (h63 : l.length + 1 ≤ maxLen) (hbytes : (l.length + 1) * bytes ≤ 140737488355328) (hbase : base ≤ w.heap.size)
    (h : ∀ g cap w', OwnL S' w' base e (.slice (some ⟨g, 0, none⟩) (l.length + 1) cap) (l ++ [y]) → w.grownBy w' v.ownBlock → (v.ownBlock = some g ∨ g = w.heap.size) → g < w'.heap.size →
      wpList P ops Q rest (a.put o.dst (.slice (some ⟨g, 0, none⟩) (l.length + 1) cap)) w') : wpList P ops Q (o :: rest) a w := by
  obtain ⟨xs, hown, hr⟩ := own.out
  obtain ⟨i, z, i1, i2, i3, i4, i5⟩ := inf.out
  have hlen := Lay.len hy
  refine wpList_append_lies w hgd s x t ho base e i z _ bytes ht i1 i2 i3 i4 i5 hsz v l.length xs hs hown ⟨b, 0, none⟩ 1 c us hx (by omega) ?_ h1 (by omega) h63 hbytes hbase _ rfl ?_
  · have := World.news_of_block (w := w) (B := b) (cs := us.toArray) (t := ty) (fr := (0, 0)) hb
    simpa using this
  · intro g cap w' hown' hgrow hat hlt
    refine h g cap w' (OwnL.snoc hown.1 hr hown' (fun k hk => ⟨hSS k hk, hgrow.block k (hS' k (hSS k hk)).1 (hS' k (hSS k hk)).2⟩) (Lay.keep hy fun k hk => hgrow.block k (hS' k hk).1 (hS' k hk).2)) hgrow hat hlt
end Go.Proofs.YtgeegdnkheckcaaGreat
