/- An append that makes a new row, as one step of a region that draws its order. -/
import Derived.Test.YtgeegdnkheckcaaGreatOwnSet
import Derived.Deep.RegionLawGrows
set_option linter.unusedVariables false
namespace Go.Proofs.YtgeegdnkheckcaaGreat
open Lay (rep)
open Go.RowKit

theorem OwnL.ints {w : World} {base : Nat} {e : TypeId} {v : Value} {l : List Int} (h : w.ownsRow base e 1 v l.length (l.map (Value.int .i64))) : OwnL (fun _ => False) w base e v l :=
  ⟨_, h, fun j hj => by
    show ((l.map (Value.int .i64)).drop (j * 1)).take 1 = [.int .i64 l[j]]
    rw [Nat.mul_one, List.drop_eq_getElem_cons (by simpa using hj)]
    simp⟩
theorem RepL.intAt {S : Nat → Prop} {w : World} {b off : Nat} {l : List Int} (h : RepL S w (some ⟨b, off, none⟩) l) (j : Nat) (hj : j < l.length) : w.cell? ⟨b, off + j, none⟩ = some (.int .i64 l[j]) := by
  obtain ⟨b', off', e, _, _, hc⟩ := h.int (by intro e; simp [e] at hj)
  simp only [Option.some.injEq, Addr.mk.injEq, and_true] at e
  obtain ⟨rfl, rfl⟩ := e
  exact hc j hj

/-- 'append(l[:n:n], x)' for whole numbers. -/
theorem step_append_int {P : Program} {ops : Array Oper} {o : Oper} {a : Act} {w : World} {K : Act → World → Prop} {Q : Exit → Act → World → Prop} {E : Prop}
    (hg : o.guard = none) (s x : Operand) (t : TypeId) (hop : o.op = Op.call { callee := Callee.builtin Builtin.append, args := #[s, x], argTypes := #[t, t] })
    (e : TypeId) (inf : Inf P e 1 8) (h1 : P.underlying t = some (.slice e)) {S : Nat → Prop} {l : List Int} {b off : Nat} (hs : a.eval s = .slice (some ⟨b, off, none⟩) l.length l.length)
    (hr : RepL S w (some ⟨b, off, none⟩) l) {d c : Nat} {r : Int} (hx : a.eval x = .slice (some ⟨d, 0, none⟩) 1 c) (hc : w.cell? ⟨d, 0, none⟩ = some (.int .i64 r)) (hl : l.length ≤ 1000000)
    (hK : ∀ g cap w', w.heap.size ≤ g → g < w'.heap.size → RepL (fun b => b = g) w' (some ⟨g, 0, none⟩) (l ++ [r]) → l.length + 1 ≤ cap → cap ≤ maxLen → w.grownBy w' none → K (a.put o.dst (.slice (some ⟨g, 0, none⟩) (l.length + 1) cap)) w') :
    if Region.wanted o (yielded ops a.tmps) = true then Oper.wp P o a w K Q else E := by
  obtain ⟨i, z, i1, i2, i3, i4, i5⟩ := inf.out
  refine step_append_grows hg s x t hop e i z 1 8 h1 i1 i2 i3 i4 i5 (by decide) (some ⟨b, off, none⟩) l.length l.length (l.map (Value.int .i64)) hs (by intro h; cases h) (by simp) ?_ ⟨d, 0, none⟩ 1 c [.int .i64 r] hx rfl ?_ (by simp [Value.oneCell']) (by omega) (by unfold maxLen; omega) (by omega) ?_
  · intro b' hb' j u hu
    obtain rfl := Option.some.inj hb'
    rw [List.getElem?_map] at hu
    obtain ⟨y, hy, rfl⟩ := Option.map_eq_some_iff.1 hu
    obtain ⟨hj, rfl⟩ := List.getElem?_eq_some_iff.1 hy
    have := hr.intAt j hj
    by_cases h0 : j = 0
    · subst h0; simpa [Addr.add] using this
    · simpa [Addr.add, h0] using this
  · intro j u hu
    cases j with
    | zero => simp at hu; subst hu; exact hc
    | succ j => simp at hu
  · intro v' w' hown hgr
    have own : OwnL (fun _ => False) w' w.heap.size e v' (l ++ [r]) := OwnL.ints (by simpa using hown)
    obtain ⟨A, cap, rfl, h2, h3, h4⟩ := own.read (α := Int) (by decide) (fun _ h => h.elim)
    obtain ⟨g, rfl⟩ := own.addr (by simp)
    obtain ⟨b', off', e', h5, h6, h7⟩ := h4 (by simp)
    simp only [Option.some.injEq, Addr.mk.injEq, and_true] at e'
    obtain ⟨rfl, rfl⟩ := e'
    have hbase := (own.base_le g rfl).1
    simp only [List.length_append, List.length_cons, List.length_nil, Nat.zero_add] at h2 ⊢
    exact hK g cap w' hbase h6 (fun hne => by obtain ⟨b'', off'', e'', h8, h9, h10⟩ := h4 hne; simp only [Option.some.injEq, Addr.mk.injEq, and_true] at e''; obtain ⟨rfl, rfl⟩ := e''; exact ⟨g, 0, rfl, rfl, h9, fun j hj => by obtain ⟨us, k1, k2⟩ := h10 j hj; exact ⟨us, k1, k2⟩⟩) h2 h3 hgr
end Go.Proofs.YtgeegdnkheckcaaGreat
