/- slices.Clone at the types that this claim needs: a list of the call's own, of the same elements. -/
import Derived.Test.YtgeegdnkheckcaaGreatFew
import Derived.Test.YtgeegdnkheckcaaGreatDiffOf
import Derived.WalkSpells
import Derived.Lib.SliceRun
set_option linter.unusedVariables false
namespace Go.Proofs.YtgeegdnkheckcaaGreat
open Lay (rep)
open Go.RowKit

/-- Each cell of an element is one value. -/
class Lay1 (α : Type) [Lay α] : Prop where
  one : ∀ {S w vs} {a : α}, rep S w vs a → ∀ u ∈ vs, u.oneCell' = true
  pos : 0 < Lay.sz α
instance : Lay1 Int where
  one := by intro S w vs a h u hu; obtain rfl := h; simp at hu; subst hu; rfl
  pos := Nat.one_pos
instance : Lay1 (Int × Int) where
  one := by intro S w vs a h u hu; obtain rfl := h; simp at hu; rcases hu with rfl | rfl <;> rfl
  pos := Nat.succ_pos _
instance : Lay1 ByteArray where
  one := by intro S w vs a h u hu; obtain ⟨rfl, _⟩ := h; simp at hu; subst hu; rfl
  pos := Nat.one_pos
instance : Lay1 Fld where
  one := by intro S w vs a h u hu; obtain ⟨rfl, _, _⟩ := h; simp at hu; rcases hu with rfl | rfl | rfl <;> rfl
  pos := Nat.succ_pos _
instance : Lay1 Vl where
  one := by intro S w vs a h u hu; obtain ⟨rfl, _⟩ := h; simp at hu; rcases hu with rfl | rfl | rfl <;> rfl
  pos := Nat.succ_pos _
instance : Lay1 Typ where
  one := by intro S w vs a h u hu; obtain ⟨A, c, rfl, _⟩ := h; simp at hu; rcases hu with rfl | rfl <;> rfl
  pos := Nat.succ_pos _
instance : Lay1 Ob where
  one := by intro S w vs a h u hu; obtain ⟨A, c, rfl, _⟩ := h; simp at hu; rcases hu with rfl | rfl | rfl <;> rfl
  pos := Nat.succ_pos _

/-- All cells of a list, one behind the other. -/
theorem RepL.flat {α : Type} [Lay α] [Lay1 α] {S : Nat → Prop} {w : World} {b off : Nat} {l : List α}
    (hc : ∀ j (h : j < l.length), ∃ us, rep S w us l[j] ∧ ∀ i (hi : i < us.length), w.cell? ⟨b, off + j * Lay.sz α + i, none⟩ = some us[i]) :
    ∀ k, k ≤ l.length → ∃ us : List Value, us.length = k * Lay.sz α ∧ (∀ j (h : j < l.length), j < k → rep S w ((us.drop (j * Lay.sz α)).take (Lay.sz α)) l[j]) ∧ (∀ i u, us[i]? = some u → w.cell? ⟨b, off + i, none⟩ = some u) ∧ ∀ u ∈ us, u.oneCell' = true
  | 0, _ => ⟨[], by simp, fun j _ h => absurd h (Nat.not_lt_zero _), by simp, by simp⟩
  | k + 1, hk => by
    obtain ⟨us, h1, h2, h3, h4⟩ := RepL.flat hc k (by omega)
    obtain ⟨vs, hr, hv⟩ := hc k (by omega)
    have hn := Lay.len hr
    refine ⟨us ++ vs, by rw [List.length_append, h1, hn, Nat.add_mul]; omega, ?_, ?_, ?_⟩
    · intro j hj hjk
      by_cases e : j < k
      · have hle : (j + 1) * Lay.sz α ≤ k * Lay.sz α := Nat.mul_le_mul_right _ e
        rw [Nat.add_mul] at hle
        rw [List.drop_append_of_le_length (by omega), List.take_append_of_le_length (by simp; omega)]
        exact h2 j hj e
      · obtain rfl : j = k := by omega
        rw [← h1, List.drop_append_of_le_length (Nat.le_refl _)]
        simpa [← hn] using hr
    · intro i u hu
      by_cases e : i < us.length
      · rw [List.getElem?_append_left e] at hu; exact h3 i u hu
      · rw [List.getElem?_append_right (by omega)] at hu
        obtain ⟨hi, rfl⟩ := List.getElem?_eq_some_iff.1 hu
        have := hv (i - us.length) hi
        rwa [show off + k * Lay.sz α + (i - us.length) = off + i by omega] at this
    · intro u hu
      rcases List.mem_append.1 hu with h | h
      · exact h4 u h
      · exact Lay1.one hr u h

theorem add_addr (b off i : Nat) : (⟨b, off, none⟩ : Addr).add i = ⟨b, off + i, none⟩ := by unfold Addr.add; split <;> simp_all

/-- 'append(l, s...)', s a list that reads, of one element at least. -/
theorem wpList_append_S {α : Type} [Lay α] [Lay1 α] {P : Program} {S S' : Nat → Prop} {w : World} {ops : Array Oper} {rest : List Oper} {o : Oper} {a : Act} {Q : Exit → Act → World → Prop} (hgd : o.guard = none) (s x : Operand) (t : TypeId)
    (ho : o.op = .call { callee := .builtin .append, args := #[s, x], argTypes := #[t, t] })
    {base : Nat} {e : TypeId} {bytes : Nat} (ht : P.underlying t = some (.slice e)) (inf : Inf P e (Lay.sz α) bytes)
    {v : Value} {l : List α} (hs : a.eval s = v) (own : OwnL S w base e v l)
    {A : Option Addr} {c : Nat} {m : List α} (hx : a.eval x = .slice A m.length c) (hr : RepL S' w A m) (hm : m ≠ []) (hSS : ∀ k, S k → S' k) (hS' : ∀ k, S' k → k < w.heap.size ∧ some k ≠ v.ownBlock)
    (h63 : l.length + m.length ≤ maxLen) (hbytes : (l.length + m.length) * bytes ≤ 140737488355328) (hbase : base ≤ w.heap.size)
    (h : ∀ g cap w', OwnL S' w' base e (.slice (some ⟨g, 0, none⟩) (l.length + m.length) cap) (l ++ m) → w.grownBy w' v.ownBlock → (v.ownBlock = some g ∨ g = w.heap.size) → g < w'.heap.size →
      wpList P ops Q rest (a.put o.dst (.slice (some ⟨g, 0, none⟩) (l.length + m.length) cap)) w') : wpList P ops Q (o :: rest) a w := by
  obtain ⟨xs, hown, hxr⟩ := own.out
  obtain ⟨i, z, i1, i2, i3, i4, i5⟩ := inf.out
  obtain ⟨b, off, rfl, hSb, hb, hc⟩ := hr hm
  obtain ⟨us, u1, u2, u3, u4⟩ := RepL.flat hc m.length (Nat.le_refl _)
  have hmp : 0 < m.length := List.length_pos_iff.2 hm
  refine wpList_append_lies w hgd s x t ho base e i z _ bytes ht i1 i2 i3 i4 i5 (Lay1.pos (α := α)) v l.length xs hs hown ⟨b, off, none⟩ m.length c us hx u1 (fun j u hu => by rw [add_addr]; exact u3 j u hu) u4 hmp h63 hbytes hbase _ rfl ?_
  intro g cap w' hown' hgrow hat hlt
  have kS : ∀ k, S' k → w'.heap[k]? = w.heap[k]? := fun k hk => hgrow.block k (hS' k hk).1 (hS' k hk).2
  refine h g cap w' ⟨xs ++ us, by simpa using hown', fun j hj => ?_⟩ hgrow hat hlt
  have hl : xs.length = l.length * Lay.sz α := hown.1
  by_cases hj' : j < l.length
  · rw [List.getElem_append_left hj']
    have hle : (j + 1) * Lay.sz α ≤ l.length * Lay.sz α := Nat.mul_le_mul_right _ hj'
    rw [Nat.add_mul] at hle
    rw [List.drop_append_of_le_length (by omega), List.take_append_of_le_length (by simp; omega)]
    exact Lay.keep (Lay.mono (hxr j hj') hSS) kS
  · rw [List.getElem_append_right (by omega)]
    have hjm : j - l.length < m.length := by simp at hj; omega
    have := u2 (j - l.length) hjm hjm
    have e1 : (xs ++ us).drop (j * Lay.sz α) = us.drop ((j - l.length) * Lay.sz α) := by
      rw [List.drop_append, List.drop_of_length_le (by rw [hl]; exact Nat.mul_le_mul_right _ (by omega)), List.nil_append, hl, Nat.sub_mul]
    rw [e1]
    exact Lay.keep this kS

theorem OwnL.empty {α : Type} [Lay α] {S : Nat → Prop} {w : World} {base b : Nat} {e : TypeId} (hb : Blk w b #[] e) (h : base ≤ b) : OwnL S w base e (.slice (some ⟨b, 0, none⟩) 0 0) ([] : List α) :=
  ⟨[], ⟨by simp, .inr ⟨b, 0, #[], rfl, h, hb, Nat.le_refl _, Nat.zero_le _, by simp, by simp⟩⟩, fun j h => absurd h (by simp)⟩
/-- What Clone hands back. -/
def CloneV {α : Type} [Lay α] (S : Nat → Prop) (w w' : World) (t : TypeId) (e : Ending) (l : List α) : Prop := ∃ v', e = .returned v' ∧ Below w.heap.size w w' ∧ OwnL S w' w.heap.size t v' l
section
variable {w : World} {A : Option Addr} {c : Nat} {S : Nat → Prop}

theorem infint : Inf Tryz.prog 3 1 8 := Inf.of (z := .int .i64 0) (by kernel_rfl) rfl
set_option maxRecDepth 100000 in
set_option maxHeartbeats 1000000 in
theorem clone_int {l : List Int} (hc : l.length ≤ c) (hm : c ≤ maxLen) (hA : RepL S w A l) (hS : ∀ b, S b → b < w.heap.size) (hbig : l.length ≤ 1000000000) :
    Calls Tryz.prog 60 #[.slice A l.length c] w fun e w' => CloneV S w w' 3 e l := by
  unfold maxLen at hm
  have HA := Lib.hid hA
  have HS := Lib.hid hS
  clear hA hS
  by_cases hl : l = []
  · subst hl
    clear HA
    cases A with
    | none =>
      have eqn := fun (w : World) => Lib.run_eql_slice_nil (P := Tryz.prog) w 26 3 none 0 c 0 0 Tryz.underlying26
      go_enter Tryz.func60, Tryz.ntmps60
      go_wp2_with fail
      go_ret
      exact ⟨_, rfl, Below.refl _ _, OwnL.nil⟩
    | some ad =>
      have eqn := fun (w : World) => Lib.run_eql_slice_nil (P := Tryz.prog) w 26 3 (some ad) 0 c 0 0 Tryz.underlying26
      go_enter Tryz.func60, Tryz.ntmps60
      go_wp2_with fail
      go_ret
      exact ⟨_, rfl, balloc (Below.refl _ _) _, OwnL.empty (Blk.new _ _ _) (Nat.le_refl _)⟩
  · obtain ⟨b, off, rfl, hSb, _, _⟩ := HA.out hl
    have hb := HS.out b hSb
    have eqn := fun (w : World) => Lib.run_eql_slice_nil (P := Tryz.prog) w 26 3 (some ⟨b, off, none⟩) l.length c 0 0 Tryz.underlying26
    have Hl := Lib.hid hl
    have hk : ∀ k, S k → k < (w.alloc (Obj.cells #[] 3)).heap.size ∧ some k ≠ (Value.slice (some ⟨w.heap.size, 0, none⟩) 0 0).ownBlock := fun k hk => ⟨by have := HS.out k hk; simp; omega, fun e => by
      have := HS.out k hk
      have e2 : k = w.heap.size := by simpa [Value.ownBlock] using e
      omega⟩
    have HK := Lib.hid hk
    clear hl hSb hk
    go_enter Tryz.func60, Tryz.ntmps60
    go_wp2_with (at_builtin; refine wpList_append_S (α := Int) (S := fun _ => False) (S' := S) (l := []) (m := l) (v := .slice (some ⟨w.heap.size, 0, none⟩) 0 0) rfl _ _ _ rfl Tryz.underlying26 infint rfl (OwnL.empty (base := w.heap.size) (Blk.new _ _ _) (Nat.le_refl _)) rfl (HA.out.keep fun b hb => Below.heap_alloc _ _ _ (HS.out b hb)) Hl.out (fun _ h => h.elim) HK.out (by unfold maxLen; simp; omega) (by simp; omega) (by simp) ?_; intro gg cap w6 own6 hg6 hat6 hlt6)
    have own7 : OwnL S w6 w.heap.size 3 (.slice (some ⟨gg, 0, none⟩) l.length cap) l := by simpa using own6
    go_ret
    refine ⟨_, rfl, ?_, own7⟩
    exact (balloc (Below.refl _ _) _).grown hg6 (by simp) (fun k hk => Nat.le_of_eq (by simpa [Value.ownBlock] using hk))

theorem infVal : Inf Tryz.prog 47 3 32 := Inf.of (z := .agg #[.int .i64 0, .string ⟨#[]⟩, .int .i64 0]) (by kernel_rfl) rfl
set_option maxRecDepth 100000 in
set_option maxHeartbeats 1000000 in
theorem clone_Val {l : List Vl} (hc : l.length ≤ c) (hm : c ≤ maxLen) (hA : RepL S w A l) (hS : ∀ b, S b → b < w.heap.size) (hbig : l.length ≤ 1000000000) :
    Calls Tryz.prog 59 #[.slice A l.length c] w fun e w' => CloneV S w w' 47 e l := by
  unfold maxLen at hm
  have HA := Lib.hid hA
  have HS := Lib.hid hS
  clear hA hS
  by_cases hl : l = []
  · subst hl
    clear HA
    cases A with
    | none =>
      have eqn := fun (w : World) => Lib.run_eql_slice_nil (P := Tryz.prog) w 43 47 none 0 c 0 0 Tryz.underlying43
      go_enter Tryz.func59, Tryz.ntmps59
      go_wp2_with fail
      go_ret
      exact ⟨_, rfl, Below.refl _ _, OwnL.nil⟩
    | some ad =>
      have eqn := fun (w : World) => Lib.run_eql_slice_nil (P := Tryz.prog) w 43 47 (some ad) 0 c 0 0 Tryz.underlying43
      go_enter Tryz.func59, Tryz.ntmps59
      go_wp2_with fail
      go_ret
      exact ⟨_, rfl, balloc (Below.refl _ _) _, OwnL.empty (Blk.new _ _ _) (Nat.le_refl _)⟩
  · obtain ⟨b, off, rfl, hSb, _, _⟩ := HA.out hl
    have hb := HS.out b hSb
    have eqn := fun (w : World) => Lib.run_eql_slice_nil (P := Tryz.prog) w 43 47 (some ⟨b, off, none⟩) l.length c 0 0 Tryz.underlying43
    have Hl := Lib.hid hl
    have hk : ∀ k, S k → k < (w.alloc (Obj.cells #[] 47)).heap.size ∧ some k ≠ (Value.slice (some ⟨w.heap.size, 0, none⟩) 0 0).ownBlock := fun k hk => ⟨by have := HS.out k hk; simp; omega, fun e => by
      have := HS.out k hk
      have e2 : k = w.heap.size := by simpa [Value.ownBlock] using e
      omega⟩
    have HK := Lib.hid hk
    clear hl hSb hk
    go_enter Tryz.func59, Tryz.ntmps59
    go_wp2_with (at_builtin; refine wpList_append_S (α := Vl) (S := fun _ => False) (S' := S) (l := []) (m := l) (v := .slice (some ⟨w.heap.size, 0, none⟩) 0 0) rfl _ _ _ rfl Tryz.underlying43 infVal rfl (OwnL.empty (base := w.heap.size) (Blk.new _ _ _) (Nat.le_refl _)) rfl (HA.out.keep fun b hb => Below.heap_alloc _ _ _ (HS.out b hb)) Hl.out (fun _ h => h.elim) HK.out (by unfold maxLen; simp; omega) (by simp; omega) (by simp) ?_; intro gg cap w6 own6 hg6 hat6 hlt6)
    have own7 : OwnL S w6 w.heap.size 47 (.slice (some ⟨gg, 0, none⟩) l.length cap) l := by simpa using own6
    go_ret
    refine ⟨_, rfl, ?_, own7⟩
    exact (balloc (Below.refl _ _) _).grown hg6 (by simp) (fun k hk => Nat.le_of_eq (by simpa [Value.ownBlock] using hk))

theorem infField : Inf Tryz.prog 87 3 40 := Inf.of (z := .agg #[.string ⟨#[]⟩, .int .i64 0, .string ⟨#[]⟩]) (by kernel_rfl) rfl
set_option maxRecDepth 100000 in
set_option maxHeartbeats 1000000 in
theorem clone_Field {l : List Fld} (hc : l.length ≤ c) (hm : c ≤ maxLen) (hA : RepL S w A l) (hS : ∀ b, S b → b < w.heap.size) (hbig : l.length ≤ 1000000000) :
    Calls Tryz.prog 50 #[.slice A l.length c] w fun e w' => CloneV S w w' 87 e l := by
  unfold maxLen at hm
  have HA := Lib.hid hA
  have HS := Lib.hid hS
  clear hA hS
  by_cases hl : l = []
  · subst hl
    clear HA
    cases A with
    | none =>
      have eqn := fun (w : World) => Lib.run_eql_slice_nil (P := Tryz.prog) w 88 87 none 0 c 0 0 Tryz.underlying88
      go_enter Tryz.func50, Tryz.ntmps50
      go_wp2_with fail
      go_ret
      exact ⟨_, rfl, Below.refl _ _, OwnL.nil⟩
    | some ad =>
      have eqn := fun (w : World) => Lib.run_eql_slice_nil (P := Tryz.prog) w 88 87 (some ad) 0 c 0 0 Tryz.underlying88
      go_enter Tryz.func50, Tryz.ntmps50
      go_wp2_with fail
      go_ret
      exact ⟨_, rfl, balloc (Below.refl _ _) _, OwnL.empty (Blk.new _ _ _) (Nat.le_refl _)⟩
  · obtain ⟨b, off, rfl, hSb, _, _⟩ := HA.out hl
    have hb := HS.out b hSb
    have eqn := fun (w : World) => Lib.run_eql_slice_nil (P := Tryz.prog) w 88 87 (some ⟨b, off, none⟩) l.length c 0 0 Tryz.underlying88
    have Hl := Lib.hid hl
    have hk : ∀ k, S k → k < (w.alloc (Obj.cells #[] 87)).heap.size ∧ some k ≠ (Value.slice (some ⟨w.heap.size, 0, none⟩) 0 0).ownBlock := fun k hk => ⟨by have := HS.out k hk; simp; omega, fun e => by
      have := HS.out k hk
      have e2 : k = w.heap.size := by simpa [Value.ownBlock] using e
      omega⟩
    have HK := Lib.hid hk
    clear hl hSb hk
    go_enter Tryz.func50, Tryz.ntmps50
    go_wp2_with (at_builtin; refine wpList_append_S (α := Fld) (S := fun _ => False) (S' := S) (l := []) (m := l) (v := .slice (some ⟨w.heap.size, 0, none⟩) 0 0) rfl _ _ _ rfl Tryz.underlying88 infField rfl (OwnL.empty (base := w.heap.size) (Blk.new _ _ _) (Nat.le_refl _)) rfl (HA.out.keep fun b hb => Below.heap_alloc _ _ _ (HS.out b hb)) Hl.out (fun _ h => h.elim) HK.out (by unfold maxLen; simp; omega) (by simp; omega) (by simp) ?_; intro gg cap w6 own6 hg6 hat6 hlt6)
    have own7 : OwnL S w6 w.heap.size 87 (.slice (some ⟨gg, 0, none⟩) l.length cap) l := by simpa using own6
    go_ret
    refine ⟨_, rfl, ?_, own7⟩
    exact (balloc (Below.refl _ _) _).grown hg6 (by simp) (fun k hk => Nat.le_of_eq (by simpa [Value.ownBlock] using hk))

theorem infType : Inf Tryz.prog 90 2 40 := Inf.of (z := .agg #[.string ⟨#[]⟩, .slice none 0 0]) (by kernel_rfl) rfl
set_option maxRecDepth 100000 in
set_option maxHeartbeats 1000000 in
theorem clone_Type {l : List Typ} (hc : l.length ≤ c) (hm : c ≤ maxLen) (hA : RepL S w A l) (hS : ∀ b, S b → b < w.heap.size) (hbig : l.length ≤ 1000000000) :
    Calls Tryz.prog 49 #[.slice A l.length c] w fun e w' => CloneV S w w' 90 e l := by
  unfold maxLen at hm
  have HA := Lib.hid hA
  have HS := Lib.hid hS
  clear hA hS
  by_cases hl : l = []
  · subst hl
    clear HA
    cases A with
    | none =>
      have eqn := fun (w : World) => Lib.run_eql_slice_nil (P := Tryz.prog) w 22 90 none 0 c 0 0 Tryz.underlying22
      go_enter Tryz.func49, Tryz.ntmps49
      go_wp2_with fail
      go_ret
      exact ⟨_, rfl, Below.refl _ _, OwnL.nil⟩
    | some ad =>
      have eqn := fun (w : World) => Lib.run_eql_slice_nil (P := Tryz.prog) w 22 90 (some ad) 0 c 0 0 Tryz.underlying22
      go_enter Tryz.func49, Tryz.ntmps49
      go_wp2_with fail
      go_ret
      exact ⟨_, rfl, balloc (Below.refl _ _) _, OwnL.empty (Blk.new _ _ _) (Nat.le_refl _)⟩
  · obtain ⟨b, off, rfl, hSb, _, _⟩ := HA.out hl
    have hb := HS.out b hSb
    have eqn := fun (w : World) => Lib.run_eql_slice_nil (P := Tryz.prog) w 22 90 (some ⟨b, off, none⟩) l.length c 0 0 Tryz.underlying22
    have Hl := Lib.hid hl
    have hk : ∀ k, S k → k < (w.alloc (Obj.cells #[] 90)).heap.size ∧ some k ≠ (Value.slice (some ⟨w.heap.size, 0, none⟩) 0 0).ownBlock := fun k hk => ⟨by have := HS.out k hk; simp; omega, fun e => by
      have := HS.out k hk
      have e2 : k = w.heap.size := by simpa [Value.ownBlock] using e
      omega⟩
    have HK := Lib.hid hk
    clear hl hSb hk
    go_enter Tryz.func49, Tryz.ntmps49
    go_wp2_with (at_builtin; refine wpList_append_S (α := Typ) (S := fun _ => False) (S' := S) (l := []) (m := l) (v := .slice (some ⟨w.heap.size, 0, none⟩) 0 0) rfl _ _ _ rfl Tryz.underlying22 infType rfl (OwnL.empty (base := w.heap.size) (Blk.new _ _ _) (Nat.le_refl _)) rfl (HA.out.keep fun b hb => Below.heap_alloc _ _ _ (HS.out b hb)) Hl.out (fun _ h => h.elim) HK.out (by unfold maxLen; simp; omega) (by simp; omega) (by simp) ?_; intro gg cap w6 own6 hg6 hat6 hlt6)
    have own7 : OwnL S w6 w.heap.size 90 (.slice (some ⟨gg, 0, none⟩) l.length cap) l := by simpa using own6
    go_ret
    refine ⟨_, rfl, ?_, own7⟩
    exact (balloc (Below.refl _ _) _).grown hg6 (by simp) (fun k hk => Nat.le_of_eq (by simpa [Value.ownBlock] using hk))

theorem infObj : Inf Tryz.prog 45 3 40 := Inf.of (z := .agg #[.int .i64 0, .int .i64 0, .slice none 0 0]) (by kernel_rfl) rfl
set_option maxRecDepth 100000 in
set_option maxHeartbeats 1000000 in
theorem clone_Obj {l : List Ob} (hc : l.length ≤ c) (hm : c ≤ maxLen) (hA : RepL S w A l) (hS : ∀ b, S b → b < w.heap.size) (hbig : l.length ≤ 1000000000) :
    Calls Tryz.prog 58 #[.slice A l.length c] w fun e w' => CloneV S w w' 45 e l := by
  unfold maxLen at hm
  have HA := Lib.hid hA
  have HS := Lib.hid hS
  clear hA hS
  by_cases hl : l = []
  · subst hl
    clear HA
    cases A with
    | none =>
      have eqn := fun (w : World) => Lib.run_eql_slice_nil (P := Tryz.prog) w 25 45 none 0 c 0 0 Tryz.underlying25
      go_enter Tryz.func58, Tryz.ntmps58
      go_wp2_with fail
      go_ret
      exact ⟨_, rfl, Below.refl _ _, OwnL.nil⟩
    | some ad =>
      have eqn := fun (w : World) => Lib.run_eql_slice_nil (P := Tryz.prog) w 25 45 (some ad) 0 c 0 0 Tryz.underlying25
      go_enter Tryz.func58, Tryz.ntmps58
      go_wp2_with fail
      go_ret
      exact ⟨_, rfl, balloc (Below.refl _ _) _, OwnL.empty (Blk.new _ _ _) (Nat.le_refl _)⟩
  · obtain ⟨b, off, rfl, hSb, _, _⟩ := HA.out hl
    have hb := HS.out b hSb
    have eqn := fun (w : World) => Lib.run_eql_slice_nil (P := Tryz.prog) w 25 45 (some ⟨b, off, none⟩) l.length c 0 0 Tryz.underlying25
    have Hl := Lib.hid hl
    have hk : ∀ k, S k → k < (w.alloc (Obj.cells #[] 45)).heap.size ∧ some k ≠ (Value.slice (some ⟨w.heap.size, 0, none⟩) 0 0).ownBlock := fun k hk => ⟨by have := HS.out k hk; simp; omega, fun e => by
      have := HS.out k hk
      have e2 : k = w.heap.size := by simpa [Value.ownBlock] using e
      omega⟩
    have HK := Lib.hid hk
    clear hl hSb hk
    go_enter Tryz.func58, Tryz.ntmps58
    go_wp2_with (at_builtin; refine wpList_append_S (α := Ob) (S := fun _ => False) (S' := S) (l := []) (m := l) (v := .slice (some ⟨w.heap.size, 0, none⟩) 0 0) rfl _ _ _ rfl Tryz.underlying25 infObj rfl (OwnL.empty (base := w.heap.size) (Blk.new _ _ _) (Nat.le_refl _)) rfl (HA.out.keep fun b hb => Below.heap_alloc _ _ _ (HS.out b hb)) Hl.out (fun _ h => h.elim) HK.out (by unfold maxLen; simp; omega) (by simp; omega) (by simp) ?_; intro gg cap w6 own6 hg6 hat6 hlt6)
    have own7 : OwnL S w6 w.heap.size 45 (.slice (some ⟨gg, 0, none⟩) l.length cap) l := by simpa using own6
    go_ret
    refine ⟨_, rfl, ?_, own7⟩
    exact (balloc (Below.refl _ _) _).grown hg6 (by simp) (fun k hk => Nat.le_of_eq (by simpa [Value.ownBlock] using hk))
end
end Go.Proofs.YtgeegdnkheckcaaGreat
