/- A row of objects of the call's own, each with a list of values of the call's own. -/
import Derived.Test.YtgeegdnkheckcaaGreatSchema
import Derived.Test.YtgeegdnkheckcaaGreatGrow
set_option linter.unusedVariables false
namespace Go.Proofs.YtgeegdnkheckcaaGreat
open Lay (rep)
open Go.RowKit

theorem OwnL.base_mono {α : Type} [Lay α] {S : Nat → Prop} {w : World} {base base' : Nat} {e : TypeId} {v : Value} {l : List α} (h : OwnL S w base e v l) (hb : base' ≤ base) : OwnL S w base' e v l := by
  obtain ⟨xs, hx, hr⟩ := h.out
  refine ⟨xs, ⟨hx.1, ?_⟩, hr⟩
  rcases hx.2 with h | ⟨g, cap, cur, h1, h2, h3⟩
  · exact .inl h
  · exact .inr ⟨g, cap, cur, h1, Nat.le_trans hb h2, h3⟩
theorem ownBlock_slice (g n c : Nat) : (Value.slice (some ⟨g, 0, none⟩) n c).ownBlock = some g := rfl
theorem take3 {xs : List Value} {j : Nat} {u v x : Value} (h : (xs.drop (j * 3)).take 3 = [u, v, x]) : xs[j * 3]? = some u ∧ xs[j * 3 + 1]? = some v ∧ xs[j * 3 + 2]? = some x := by
  have h0 : ((xs.drop (j * 3)).take 3)[0]? = some u := by rw [h]; rfl
  have h1 : ((xs.drop (j * 3)).take 3)[1]? = some v := by rw [h]; rfl
  have h2 : ((xs.drop (j * 3)).take 3)[2]? = some x := by rw [h]; rfl
  rw [List.getElem?_take, if_pos (by omega), List.getElem?_drop] at h0 h1 h2
  exact ⟨h0, h1, h2⟩
theorem take3_of {xs : List Value} {j : Nat} {u v x : Value} (h0 : xs[j * 3]? = some u) (h1 : xs[j * 3 + 1]? = some v) (h2 : xs[j * 3 + 2]? = some x) : (xs.drop (j * 3)).take 3 = [u, v, x] := by
  apply List.ext_getElem?
  intro i
  rw [List.getElem?_take]
  split
  · rename_i hi
    rw [List.getElem?_drop]
    have hi' : i = 0 ∨ i = 1 ∨ i = 2 := by omega
    rcases hi' with rfl | rfl | rfl
    · simpa using h0
    · simpa using h1
    · simpa using h2
  · rename_i hi
    rw [List.getElem?_eq_none (by simp; omega)]
theorem RowT.addr {w : World} {base base2 n c k : Nat} {A : Option Addr} {s : List Typ} (h : RowT w base base2 (.slice A n c) k s) (hl : 0 < s.length) : ∃ g, A = some ⟨g, 0, none⟩ := by
  obtain ⟨xs, hx, _⟩ := h.out
  rcases hx.2 with ⟨_, h0⟩ | ⟨g, cap, cur, he, _⟩
  · omega
  · simp only [Value.slice.injEq] at he
    exact ⟨g, he.1⟩
theorem RowT.doneA {w : World} {base base2 n c : Nat} {A : Option Addr} {s : List Typ} (h : RowT w base base2 (.slice A n c) s.length s) (hb : base2 ≤ base) : RepL (fun b => base2 ≤ b ∧ b < w.heap.size) w A s := h.done hb

theorem RepL.flatV {S : Nat → Prop} {w : World} {g off : Nat} {l : List Vl} (h : RepL S w (some ⟨g, off, none⟩) l) : RepL (fun b => b = g) w (some ⟨g, off, none⟩) l := fun hne => by
  obtain ⟨b, o, e, h1, h2, h3⟩ := h hne
  simp only [Option.some.injEq, Addr.mk.injEq, and_true] at e
  obtain ⟨rfl, rfl⟩ := e
  exact ⟨g, off, rfl, rfl, h2, fun j hj => by obtain ⟨us, k1, k2⟩ := h3 j hj; exact ⟨us, k1, k2⟩⟩
theorem set3i (w : World) (q i0 i1 i2 : Nat) (v0 v1 v2 : Value) : Kp (fun b => b ≠ q) w (((w.setCell ⟨q, i0, none⟩ v0).setCell ⟨q, i1, none⟩ v1).setCell ⟨q, i2, none⟩ v2) :=
  (((Kp.refl _ _).setCell (fun h => h rfl) _).setCell (fun h => h rfl) _).setCell (fun h => h rfl) _
/-- A list of values of the call's own lies in one block. -/
theorem OwnL.readB {w : World} {base : Nat} {e : TypeId} {v : Value} {l : List Vl} (h : OwnL (fun _ => False) w base e v l) : ∃ A c, v = .slice A l.length c ∧ l.length ≤ c ∧ c ≤ maxLen ∧ RepL (fun b => b < w.heap.size ∧ base ≤ b ∧ v.ownBlock = some b) w A l := by
  obtain ⟨A, c, rfl, h1, h2, h3⟩ := h.read (Nat.succ_pos _) (fun _ h => h.elim)
  refine ⟨A, c, rfl, h1, h2, ?_⟩
  by_cases hl : l = []
  · subst hl; exact RepL.nil
  · obtain ⟨g, rfl⟩ := h.addr (List.length_pos_iff.2 hl)
    have hg := h.base_le g rfl
    exact h3.flatV.mono fun b hb => by subst hb; exact ⟨hg.2, hg.1, rfl⟩
/-- An object's cells in such a row, its list's slice being f. -/
structure ObAt (w : World) (base : Nat) (v : Value) (O : Prop) (xs : List Value) (j : Nat) (x : Ob) (f : Value) : Prop where
  id : xs[j * 3]? = some (.int .i64 x.id)
  t : xs[j * 3 + 1]? = some (.int .i64 x.t)
  fl : xs[j * 3 + 2]? = some f
  rep : ∃ F c, f = .slice F x.f.length c ∧ x.f.length ≤ c ∧ c ≤ maxLen ∧ RepL (fun b => b < w.heap.size ∧ v.ownBlock ≠ some b ∧ (O → f.ownBlock = some b)) w F x.f
  own : O → OwnL (fun _ => False) w base 47 f x.f
  apart : O → ∀ b, f.ownBlock = some b → v.ownBlock ≠ some b
/-- A row of objects of the call's own, whose first k lists are the call's own too, each in a block of its own. -/
structure RowO (w : World) (base : Nat) (v : Value) (k : Nat) (l : List Ob) : Prop where
  out : ∃ (xs : List Value) (Fs : Nat → Value), w.ownsRow base 45 3 v l.length xs ∧ (∀ j (h : j < l.length), ObAt w base v (j < k) xs j l[j] (Fs j)) ∧ ∀ j j', j < k → j' < k → j < l.length → j' < l.length → j ≠ j' → ∀ b, (Fs j).ownBlock = some b → (Fs j').ownBlock ≠ some b
section
variable {w w' : World} {base : Nat} {v : Value} {k : Nat} {l : List Ob}
theorem RowO.addr {n c : Nat} {A : Option Addr} (h : RowO w base (.slice A n c) k l) (hl : 0 < l.length) : ∃ g, A = some ⟨g, 0, none⟩ := by
  obtain ⟨xs, Fs, hx, _⟩ := h.out
  rcases hx.2 with ⟨_, h0⟩ | ⟨g, cap, cur, he, _⟩
  · omega
  · simp only [Value.slice.injEq] at he
    exact ⟨g, he.1⟩
theorem RowO.lt (h : RowO w base v k l) : ∀ b, v.ownBlock = some b → base ≤ b ∧ b < w.heap.size := by
  obtain ⟨xs, Fs, hx, _⟩ := h.out
  exact hx.lt
theorem RowO.start {S : Nat → Prop} (h : OwnL S w base 45 v l) (hS : ∀ b, S b → b < base ∧ b < w.heap.size) : RowO w base v 0 l := by
  have hb := h.base_le
  obtain ⟨xs, hx, hr⟩ := h.out
  have hr' : ∀ j (hj : j < l.length), ∃ f : Value, ObAt w base v (j < 0) xs j l[j] f := fun j hj => by
    obtain ⟨F, c, h1, h2, h3, h4⟩ := hr j hj
    obtain ⟨h5, h6, h7⟩ := take3 h1
    exact ⟨_, h5, h6, h7, ⟨F, c, rfl, h2, h3, h4.mono fun b hb' => ⟨(hS b hb').2, fun e => by have := (hb b e).1; have := (hS b hb').1; omega, fun h => absurd h (by omega)⟩⟩, fun h => absurd h (by omega), fun h => absurd h (by omega)⟩
  refine ⟨xs, fun j => if h : j < l.length then Classical.choose (hr' j h) else .slice none 0 0, hx, fun j hj => ?_, fun j j' h => absurd h (by omega)⟩
  dsimp only
  rw [dif_pos hj]
  exact Classical.choose_spec (hr' j hj)
theorem ObAt.keep {O : Prop} {xs : List Value} {j : Nat} {x : Ob} {f : Value} (h : ObAt w base v O xs j x f) (hs : w.heap.size ≤ w'.heap.size) (hk : ∀ b, b < w.heap.size → v.ownBlock ≠ some b → (O → f.ownBlock = some b) → w'.heap[b]? = w.heap[b]?) : ObAt w' base v O xs j x f := by
  refine ⟨h.id, h.t, h.fl, ?_, fun ho => ?_, h.apart⟩
  · obtain ⟨F, c, h1, h2, h3, h4⟩ := h.rep
    exact ⟨F, c, h1, h2, h3, (RepL.keep h4 fun q hq => hk q hq.1 hq.2.1 hq.2.2).mono fun q hq => ⟨Nat.lt_of_lt_of_le hq.1 hs, hq.2⟩⟩
  · obtain ⟨ys, hy, hr⟩ := (h.own ho).out
    refine ⟨ys, ⟨hy.1, ?_⟩, fun j hj => hr j hj⟩
    rcases hy.2 with h0 | ⟨g, cap, cur, h1, h2, h3, h4⟩
    · exact .inl h0
    · exact .inr ⟨g, cap, cur, h1, h2, (hk g (Array.getElem?_eq_some_iff.1 h3).1 (h.apart ho g (by rw [h1]; rfl)) (fun _ => by rw [h1]; rfl)).trans h3, h4⟩
theorem RowO.keep (h : RowO w base v k l) (hs : w.heap.size ≤ w'.heap.size) (hk : ∀ b, b < w.heap.size → (base ≤ b ∨ k < l.length) → w'.heap[b]? = w.heap[b]?) : RowO w' base v k l := by
  have hlt := h.lt
  obtain ⟨xs, Fs, hx, hr, hd⟩ := h.out
  refine ⟨xs, Fs, ⟨hx.1, ?_⟩, fun j hj => (hr j hj).keep hs fun b hb _ hb2 => hk b hb ?_, hd⟩
  · rcases hx.2 with h0 | ⟨g, cap, cur, h1, h2, h3, h4⟩
    · exact .inl h0
    · exact .inr ⟨g, cap, cur, h1, h2, (hk g (Array.getElem?_eq_some_iff.1 h3).1 (.inl h2)).trans h3, h4⟩
  · by_cases hjk : j < k
    · exact .inl (((hr j hj).own hjk).base_le b (hb2 hjk)).1
    · exact .inr (by omega)
theorem RowO.below (h : RowO w base v k l) (hb : Below w.heap.size w w') : RowO w' base v k l := h.keep hb.size fun b h1 _ => hb.block b h1
theorem RowO.cells {g cap : Nat} (h : RowO w base (.slice (some ⟨g, 0, none⟩) l.length cap) k l) (j : Nat) (hj : j < l.length) :
    (∃ F c, w.cell? ⟨g, j * 3, none⟩ = some (.int .i64 l[j].id) ∧ w.cell? ⟨g, j * 3 + 1, none⟩ = some (.int .i64 l[j].t) ∧ w.cell? ⟨g, j * 3 + 2, none⟩ = some (.slice F l[j].f.length c) ∧ l[j].f.length ≤ c ∧ c ≤ maxLen ∧ RepL (fun b => b < w.heap.size ∧ b ≠ g) w F l[j].f) ∧ w.frozen? ⟨g, j * 3 + 2, none⟩ = false ∧ g < w.heap.size ∧ base ≤ g := by
  obtain ⟨xs, Fs, hx, hr, _⟩ := h.out
  have ha := hr j hj
  obtain ⟨F, c, h1, h2, h3, h4⟩ := ha.rep
  exact ⟨⟨F, c, by rw [hx.cellAt _ (by omega), ha.id], by rw [hx.cellAt _ (by omega), ha.t], by rw [hx.cellAt _ (by omega), ha.fl, h1], h2, h3, h4.mono fun b hb => ⟨hb.1, fun e => hb.2.1 (by rw [e]; rfl)⟩⟩, hx.frozenAt _, (hx.lt g rfl).2, (hx.lt g rfl).1⟩
theorem RowO.next {w6 : World} {g cap : Nat} (h : RowO w base (.slice (some ⟨g, 0, none⟩) l.length cap) k l) (hb : Below w.heap.size w w6) (hk : k < l.length) {F : Option Addr} {c : Nat} (own : OwnL (fun _ => False) w6 w.heap.size 47 (.slice F l[k].f.length c) l[k].f) :
    RowO (w6.setCell ⟨g, k * 3 + 2, none⟩ (.slice F l[k].f.length c)) base (.slice (some ⟨g, 0, none⟩) l.length cap) (k + 1) l := by
  have hg := h.lt g rfl
  have h6 := h.below hb
  have hbs := hb.size
  obtain ⟨xs, Fs, hx0, hr0, hd0⟩ := h.out
  have hlt0 : ∀ j (hj : j < l.length), j < k → ∀ b, (Fs j).ownBlock = some b → b < w.heap.size := fun j hj hjk b e => ((hr0 j hj).own hjk).base_le b e |>.2
  have hx : w6.ownsRow base 45 3 (.slice (some ⟨g, 0, none⟩) l.length cap) l.length xs := by
    refine ⟨hx0.1, ?_⟩
    rcases hx0.2 with h0 | ⟨g', cap', cur, h1, h2, h3, h4⟩
    · exact .inl h0
    · exact .inr ⟨g', cap', cur, h1, h2, (hb.block g' (Array.getElem?_eq_some_iff.1 h3).1).trans h3, h4⟩
  have hst := hx.stored (k * 3 + 2) (.slice F l[k].f.length c)
  have kz : Kp (fun b => b ≠ g) w6 (w6.setCell ⟨g, k * 3 + 2, none⟩ (.slice F l[k].f.length c)) := (Kp.refl _ _).setCell (fun e => e rfl) _
  have hlen : xs.length = l.length * 3 := hx.1
  have hnb : ∀ b, (Value.slice F l[k].f.length c).ownBlock = some b → w.heap.size ≤ b := fun b e => (own.base_le b e).1
  refine ⟨_, fun j => if j = k then .slice F l[k].f.length c else Fs j, hst.1, fun j hj => ?_, fun j j' h1 h2 h3 h4 hne b => ?_⟩
  · by_cases hjk : j = k
    · subst hjk
      dsimp only
      rw [if_pos rfl]
      have ha := hr0 j hj
      obtain ⟨F', c', he, g1, g2, g3⟩ := own.readB
      simp only [Value.slice.injEq] at he
      obtain ⟨rfl, -, rfl⟩ := he
      refine ⟨by rw [List.getElem?_set_ne (by omega)]; exact ha.id, by rw [List.getElem?_set_ne (by omega)]; exact ha.t, by rw [List.getElem?_set_self (by omega)], ⟨F, c, rfl, g1, g2, (RepL.keep g3 fun q hq => kz.block q (by have := hq.2.1; omega)).mono fun q hq => ?_⟩, fun _ => (own.kp kz (fun b hb' => by have := hnb b hb'; omega) (fun _ h => h.elim)).base_mono (by omega), fun _ b hb' e => ?_⟩
      · exact ⟨Nat.lt_of_lt_of_le hq.1 kz.size, fun e => by have := hq.2.1; simp [Value.ownBlock] at e; omega, fun _ => hq.2.2⟩
      · have := hnb b hb'; simp [Value.ownBlock] at e; omega
    · dsimp only
      rw [if_neg hjk]
      have ha := (hr0 j hj).keep (w' := w6) hbs fun b hb' _ _ => hb.block b hb'
      have ha2 := ha.keep (w' := w6.setCell ⟨g, k * 3 + 2, none⟩ (.slice F l[k].f.length c)) kz.size fun b _ hb2 _ => kz.block b (fun e => hb2 (by rw [e]; rfl))
      refine ⟨by rw [List.getElem?_set_ne (by omega)]; exact ha2.id, by rw [List.getElem?_set_ne (by omega)]; exact ha2.t, by rw [List.getElem?_set_ne (by omega)]; exact ha2.fl, ?_, fun h => ha2.own (by omega), fun h => ha2.apart (by omega)⟩
      obtain ⟨F', c', q1, q2, q3, q4⟩ := ha2.rep
      exact ⟨F', c', q1, q2, q3, q4.mono fun b hb' => ⟨hb'.1, hb'.2.1, fun h => hb'.2.2 (by omega)⟩⟩
  · intro e1 e2
    dsimp only at e1 e2
    split at e1
    · rename_i hjk
      rw [if_neg (by omega)] at e2
      have := hnb b e1
      have := hlt0 j' h4 (by omega) b e2
      omega
    · split at e2
      · have := hnb b e2
        have := hlt0 j h3 (by omega) b e1
        omega
      · exact hd0 j j' (by omega) (by omega) h3 h4 hne b e1 e2
theorem RowO.own (h : RowO w base v l.length l) : OwnL (fun b => base ≤ b ∧ b < w.heap.size ∧ v.ownBlock ≠ some b) w base 45 v l := by
  obtain ⟨xs, Fs, hx, hr, _⟩ := h.out
  exact ⟨xs, hx, fun j hj => by
    have ha := hr j hj
    obtain ⟨F, c, h1, h2, h3, h4⟩ := ha.rep
    exact ⟨F, c, take3_of ha.id ha.t (by rw [ha.fl, h1]), h2, h3, h4.mono fun b hb => ⟨((ha.own hj).base_le b (hb.2.2 hj)).1, hb.1, hb.2.1⟩⟩⟩
theorem RowO.done {A : Option Addr} {n c : Nat} (h : RowO w base (.slice A n c) l.length l) : l.length ≤ c ∧ c ≤ maxLen ∧ RepL (fun b => base ≤ b ∧ b < w.heap.size) w A l := by
  obtain ⟨A', c', he, h1, h2, hrep⟩ := h.own.read (Nat.succ_pos _) (fun b hb => hb.2.1)
  simp only [Value.slice.injEq] at he
  obtain ⟨rfl, -, rfl⟩ := he
  exact ⟨h1, h2, hrep.mono fun b hq => ⟨by rcases hq.2 with h | h; exact h; exact h.1, hq.1⟩⟩
theorem RowO.done' {A : Option Addr} {n c m : Nat} (h : RowO w base (.slice A n c) m l) (hm : m = l.length) : l.length ≤ c ∧ c ≤ maxLen ∧ RepL (fun b => base ≤ b ∧ b < w.heap.size) w A l := by
  subst hm; exact h.done
/-- A value of an object of such a row: its cells, and what is left when another one is laid there. -/
theorem RowO.val {g cap : Nat} (h : RowO w base (.slice (some ⟨g, 0, none⟩) l.length cap) l.length l) (j : Nat) (hj : j < l.length) (m : Nat) (hm : m < l[j].f.length) :
    ∃ q c, w.cell? ⟨g, j * 3 + 2, none⟩ = some (.slice (some ⟨q, 0, none⟩) l[j].f.length c) ∧ l[j].f.length ≤ c ∧ c ≤ maxLen ∧ base ≤ q ∧ q < w.heap.size ∧ q ≠ g ∧ w.cell? ⟨q, m * 3, none⟩ = some (.int .i64 l[j].f[m].n) ∧ w.cell? ⟨q, m * 3 + 1, none⟩ = some (.string l[j].f[m].s) ∧ w.cell? ⟨q, m * 3 + 2, none⟩ = some (.int .i64 l[j].f[m].r) ∧
      w.frozen? ⟨q, m * 3, none⟩ = false ∧ w.frozen? ⟨q, m * 3 + 1, none⟩ = false ∧ w.frozen? ⟨q, m * 3 + 2, none⟩ = false ∧
      ∀ u : Vl, u.s.size ≤ maxLen → RowO (((w.setCell ⟨q, m * 3, none⟩ (.int .i64 u.n)).setCell ⟨q, m * 3 + 1, none⟩ (.string u.s)).setCell ⟨q, m * 3 + 2, none⟩ (.int .i64 u.r)) base (.slice (some ⟨g, 0, none⟩) l.length cap) l.length (l.set j { l[j] with f := l[j].f.set m u }) := by
  obtain ⟨xs, Fs, hx, hr, hd⟩ := h.out
  have ha := hr j hj
  have own := ha.own hj
  have hap := ha.apart hj
  have hfj := ha.fl
  obtain ⟨F, c, hF, h1, h2, h3⟩ := ha.rep
  rw [hF] at own hap hfj
  obtain ⟨q, rfl⟩ := own.addr (by omega)
  have hq := own.base_le q rfl
  have hqg : q ≠ g := fun e => hap q rfl (by rw [e]; rfl)
  obtain ⟨c0, c1, c2, f0, f1, f2⟩ := own.vlAt m hm
  refine ⟨q, c, by rw [hx.cellAt _ (by omega), hfj], h1, h2, hq.1, hq.2, hqg, c0, c1, c2, f0, f1, f2, fun u hu => ?_⟩
  have kz := set3i w q (m * 3) (m * 3 + 1) (m * 3 + 2) (.int .i64 u.n) (.string u.s) (.int .i64 u.r)
  have hset := own.vlSet m hm u hu
  have hx' : (((w.setCell ⟨q, m * 3, none⟩ (.int .i64 u.n)).setCell ⟨q, m * 3 + 1, none⟩ (.string u.s)).setCell ⟨q, m * 3 + 2, none⟩ (.int .i64 u.r)).ownsRow base 45 3 (.slice (some ⟨g, 0, none⟩) l.length cap) l.length xs := by
    refine ⟨hx.1, ?_⟩
    rcases hx.2 with h0 | ⟨g', cap', cur, e1, e2, e3, e4⟩
    · exact .inl h0
    · simp only [Value.slice.injEq, Option.some.injEq, Addr.mk.injEq, and_true] at e1
      exact .inr ⟨g', cap', cur, by rw [e1.1, e1.2.2], e2, (kz.block g' (by rw [← e1.1]; exact hqg.symm)).trans e3, e4⟩
  refine ⟨xs, Fs, by simpa using hx', fun i hi => ?_, by simpa using hd⟩
  have hi' : i < l.length := by simpa using hi
  by_cases hij : i = j
  · subst hij
    obtain ⟨A', c', he, g1, g2, g3⟩ := hset.readB
    rw [List.getElem_set_self]
    rw [hF]
    simp only [Value.slice.injEq, List.length_set, true_and] at he
    obtain ⟨rfl, rfl⟩ := he
    exact ⟨ha.id, ha.t, hfj, ⟨_, c, by simp, by simpa using h1, h2, g3.mono fun b hb => ⟨hb.1, fun e => hap b hb.2.2 e, fun _ => hb.2.2⟩⟩, fun _ => hset, fun _ => hap⟩
  · rw [List.getElem_set_ne (by omega)]
    have hai := (hr i hi').keep (w' := (((w.setCell ⟨q, m * 3, none⟩ (.int .i64 u.n)).setCell ⟨q, m * 3 + 1, none⟩ (.string u.s)).setCell ⟨q, m * 3 + 2, none⟩ (.int .i64 u.r))) kz.size fun b _ _ hb3 => kz.block b (by
      rintro rfl
      exact hd i j hi' hj hi' hj hij b (hb3 hi') (by rw [hF]; rfl))
    simpa using hai
end
end Go.Proofs.YtgeegdnkheckcaaGreat
