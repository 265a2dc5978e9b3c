/- Maps by whole numbers: what a map's block holds, in the order in which it was put, and what the operations on it do. -/
import Derived.Test.YtgeegdnkheckcaaGreatKit
import Derived.Maps.Own
import Derived.Maps.OwnOps
import Derived.Maps.OwnSet
set_option linter.unusedVariables false
set_option linter.unusedSimpArgs false
namespace Go.Proofs.YtgeegdnkheckcaaGreat
open Lay (rep)
open Go.RowKit

abbrev MP := List (Int × Value)
def mlook (m : MP) (k : Int) : Option Value := (m.find? fun p => p.1 == k).map (·.2)
def mput : MP → Int → Value → MP
  | [], k, v => [(k, v)]
  | p :: m, k, v => if p.1 == k then (k, v) :: m else p :: mput m k v
def mdel (m : MP) (k : Int) : MP := m.eraseP fun p => p.1 == k

/-- Block b holds the map m. -/
structure IMap (w : World) (b : Nat) (m : MP) : Prop where
  out : ∃ es clock, w.heap[b]? = some (.map es clock) ∧ es.toList.map (fun e => (e.key, e.val)) = m.map (fun p => ((.int .i64 p.1 : Value), p.2)) ∧
    (∀ e ∈ es.toList, e.born < clock) ∧ (es.toList.map (·.born)).Nodup

theorem IMap.lt {w : World} {b : Nat} {m : MP} (h : IMap w b m) : b < w.heap.size := by
  obtain ⟨es, c, h, _⟩ := h.out
  exact (Array.getElem?_eq_some_iff.1 h).1
theorem IMap.keep {w w' : World} {b : Nat} {m : MP} (h : IMap w b m) (hk : w'.heap[b]? = w.heap[b]?) : IMap w' b m := by
  obtain ⟨es, c, h1, h2⟩ := h.out
  exact ⟨es, c, hk.trans h1, h2⟩
theorem IMap.below {w w' : World} {b : Nat} {m : MP} (h : IMap w b m) (hb : Below w.heap.size w w') : IMap w' b m := h.keep (hb.block b h.lt)
theorem IMap.grown {w w' : World} {b : Nat} {m : MP} {row : Option Nat} (h : IMap w b m) (hg : w.grownBy w' row) (hne : some b ≠ row) : IMap w' b m := h.keep (hg.block b h.lt hne)
theorem IMap.made (w : World) : IMap (w.alloc (.map #[] 0)) w.heap.size [] := ⟨#[], 0, heap_alloc_new w _, by simp, by simp, by simp⟩
theorem IMap.made' {w : World} {b : Nat} (h : b = w.heap.size) : IMap (w.alloc (.map #[] 0)) b [] := by rw [h]; exact IMap.made w
theorem IMap.alloc {w : World} {b : Nat} {m : MP} (h : IMap w b m) (o : Obj) : IMap (w.alloc o) b m := h.below ((Below.refl _ _).alloc (Nat.le_refl _) o)

section
variable {P : Program} {kt : TypeId}
theorem findNow_int (k : Int) : ∀ (es : List MapEntry) (m : MP) (i : Nat), es.map (fun e => (e.key, e.val)) = m.map (fun p => ((.int .i64 p.1 : Value), p.2)) →
    (Instr.findNow (.int .i64) (.int .i64 k) es i = some none ∧ mlook m k = none ∧ ∀ v, mput m k v = m ++ [(k, v)]) ∨
    ∃ j e v, Instr.findNow (.int .i64) (.int .i64 k) es i = some (some (i + j, v)) ∧ es[j]? = some e ∧ e.key = .int .i64 k ∧ e.val = v ∧ mlook m k = some v ∧
      (∀ v', (es.modify j fun e => { e with key := (.int .i64 k : Value), val := v' }).map (fun e => (e.key, e.val)) = (mput m k v').map (fun p => ((.int .i64 p.1 : Value), p.2))) ∧
      (es.eraseIdx j).map (fun e => (e.key, e.val)) = (mdel m k).map (fun p => ((.int .i64 p.1 : Value), p.2))
  | [], m, i, h => by
    obtain rfl : m = [] := by cases m <;> simp_all
    exact .inl ⟨rfl, rfl, fun _ => rfl⟩
  | e :: es, m, i, h => by
    cases m with
    | nil => simp at h
    | cons p m =>
      simp only [List.map_cons, List.cons.injEq, Prod.mk.injEq] at h
      obtain ⟨⟨hk, hv⟩, hr⟩ := h
      by_cases hp : p.1 = k
      · refine .inr ⟨0, e, e.val, ?_, rfl, by rw [hk, hp], rfl, ?_, ?_, ?_⟩
        · simp [Instr.findNow, Instr.sameNow, hk, hp]
        · simp [mlook, hp, hv]
        · intro v'; simp [mput, hp, hr]
        · simp [mdel, hp, hr]
      · have hne : (k == p.1) = false := by rw [beq_eq_false_iff_ne]; exact fun h => hp h.symm
        rcases findNow_int k es m (i + 1) hr with ⟨h1, h2, h3⟩ | ⟨j, e', v, h1, h2, h3, h4, h5, h6, h7⟩
        · refine .inl ⟨?_, ?_, ?_⟩
          · simp [Instr.findNow, Instr.sameNow, hk, hne, h1]
          · simp only [mlook, Option.map_eq_none_iff] at h2 ⊢
            simp [hp, h2]
          · intro v; simp [mput, hp, h3]
        · refine .inr ⟨j + 1, e', v, ?_, by simpa using h2, h3, h4, ?_, ?_, ?_⟩
          · simp [Instr.findNow, Instr.sameNow, hk, hne, h1]; rw [show i + 1 + j = i + (j + 1) by omega]
          · simp only [mlook] at h5 ⊢
            simpa [hp] using h5
          · intro v'
            have h6' : List.map (fun e => (e.key, e.val)) (es.modify j fun e => { key := Value.int IntKind.i64 k, val := v', born := e.born }) = _ := h6 v'
            simp [mput, hp, hk, hv, h6']
          · simp only [mdel] at h7 ⊢
            simp [hp, hk, hv, h7]

theorem run_checkKey_n (hk : P.underlying kt = some (.int .i64)) (em : Bool) (k : Int) (w : World) (n : Nat) : (Instr.checkKey em (n + 1) kt (.int .i64 k)).run P w = .ok () w := by
  simp [Instr.checkKey, run_underlying hk, go_sem, Result.andThen]
theorem run_checkKey_i (hk : P.underlying kt = some (.int .i64)) (em : Bool) (k : Int) (w : World) : (Instr.checkKey em 10000 kt (.int .i64 k)).run P w = .ok () w := run_checkKey_n hk em k w 9999

/-- 'm[k]', 'v, is := m[k]'. -/
theorem run_lookup_i {t e : TypeId} {z : Value} {b : Nat} {m : MP} {w : World} (ht : P.underlying t = some (.map kt e)) (hk : P.underlying kt = some (.int .i64))
    (hz : (zeroValue e).run P w = .ok z w) (h : IMap w b m) (k : Int) (ok : Bool) :
    (Instr.lookup t (.map (some b)) (.int .i64 k) ok).run P w = .ok (if ok then .tuple #[(mlook m k).getD z, .bool (mlook m k).isSome] else (mlook m k).getD z) w := by
  obtain ⟨es, c, hb, hm, _⟩ := h.out
  rcases findNow_int k es.toList m 0 hm with ⟨h1, h2, h3⟩ | ⟨j, e', v, h1, h2, h3, h4, h5, h6, h7⟩
  · simp [Instr.lookup, run_underlying ht, getObj, Sem.run, hb, run_checkKey_i hk, Instr.findKey, run_underlying hk, h1, h2, hz, Result.andThen, go_sem]
  · simp [Instr.lookup, run_underlying ht, getObj, Sem.run, hb, run_checkKey_i hk, Instr.findKey, run_underlying hk, h1, h5, hz, Result.andThen, go_sem]
theorem run_lookup_nil {t e : TypeId} {z : Value} {w : World} (ht : P.underlying t = some (.map kt e)) (hk : P.underlying kt = some (.int .i64))
    (hz : (zeroValue e).run P w = .ok z w) (k : Int) (ok : Bool) :
    (Instr.lookup t (.map none) (.int .i64 k) ok).run P w = .ok (if ok then .tuple #[z, .bool false] else z) w := by
  simp [Instr.lookup, run_underlying ht, Sem.run, run_checkKey_i hk, Instr.findKey, run_underlying hk, Instr.findNow, hz, Result.andThen, go_sem]

theorem grownBy_setObj {w : World} {b : Nat} {o : Obj} : w.grownBy { w with heap := w.heap.setIfInBounds b o } (some b) := by
  refine ⟨rfl, rfl, rfl, by simp, fun i hi hne => ?_⟩
  have : b ≠ i := fun e => hne (by rw [e])
  simp [Array.getElem?_setIfInBounds, this]

theorem run_sameBits (k : Int) : Instr.sameBits 10000 (.int .i64 k) (.int .i64 k) = true := by
  have : ∀ n, Instr.sameBits (n + 1) (.int .i64 k) (.int .i64 k) = true := fun n => by simp [Instr.sameBits]
  exact this 9999

/-- 'm[k] = v'. -/
theorem run_mapUpdate_i {t e : TypeId} {b : Nat} {m : MP} {w : World} (ht : P.underlying t = some (.map kt e)) (hk : P.underlying kt = some (.int .i64)) (h : IMap w b m) (k : Int) (v : Value) :
    ∃ w', (Instr.mapUpdate t (.map (some b)) (.int .i64 k) v).run P w = .ok () w' ∧ IMap w' b (mput m k v) ∧ w.grownBy w' (some b) := by
  obtain ⟨es, c, hb, hm, hbn, hnd⟩ := h.out
  have hlt := h.lt
  rcases findNow_int k es.toList m 0 hm with ⟨h1, h2, h3⟩ | ⟨j, e', v', h1, h2, h3, h4, h5, h6, h7⟩
  · refine ⟨{ w with heap := w.heap.setIfInBounds b (.map (es.push { key := .int .i64 k, val := v, born := c }) (c + 1)) }, ?_, ⟨es.push { key := .int .i64 k, val := v, born := c }, c + 1, ?_, ?_, ?_, ?_⟩, grownBy_setObj⟩
    · simp [Instr.mapUpdate, run_underlying ht, getObj, setObj, Sem.run, hb, run_checkKey_i hk, Instr.findKey, run_underlying hk, h1, Result.andThen, go_sem]
    · simp [Array.getElem?_setIfInBounds, hlt]
    · rw [h3]; simp [hm]
    · intro x hx
      simp at hx
      rcases hx with hx | rfl
      · have := hbn x (by simpa using hx); omega
      · simp
    · simp only [Array.toList_push, List.map_append, List.map_cons, List.map_nil]
      refine List.nodup_append.2 ⟨hnd, by simp, ?_⟩
      intro a ha b' hb' hab
      simp at hb' ha
      obtain ⟨x, hx, rfl⟩ := ha
      have := hbn x (by simpa using hx)
      omega
  · have hj : es.toList[j]? = some e' := h2
    have hj' : j < es.size := by
      have := (List.getElem?_eq_some_iff.1 hj).1
      simpa using this
    have hst : (Instr.keyThatStays (.int .i64 k) (.int .i64 k)).run P w = .ok (.int .i64 k) w := by
      simp [Instr.keyThatStays, run_sameBits, go_sem]
    refine ⟨{ w with heap := w.heap.setIfInBounds b (.map (es.modify j fun e => { e with key := (.int .i64 k : Value), val := v }) c) }, ?_, ⟨es.modify j fun e => { e with key := (.int .i64 k : Value), val := v }, c, ?_, ?_, ?_, ?_⟩, grownBy_setObj⟩
    · have hjj : es[j]? = some e' := by simpa using hj
      simp [Instr.mapUpdate, run_underlying ht, getObj, setObj, Sem.run, hb, run_checkKey_i hk, Instr.findKey, run_underlying hk, h1, Result.andThen, go_sem, hjj, h3, hst]
    · simp [Array.getElem?_setIfInBounds, hlt]
    · rw [Array.toList_modify]; exact h6 v
    · intro x hx
      rw [Array.toList_modify] at hx
      obtain ⟨i, hi⟩ := List.mem_iff_getElem?.1 hx
      rw [List.getElem?_modify] at hi
      cases hq : es.toList[i]? with
      | none => simp [hq] at hi
      | some y =>
        have := hbn y (List.mem_of_getElem? hq)
        simp only [hq, Option.map_eq_map, Option.map_some, Option.some.injEq] at hi
        split at hi <;> (subst hi; simpa using this)
    · rw [Array.toList_modify]
      have : (List.modify es.toList j fun e => { e with key := (.int .i64 k : Value), val := v }).map (·.born) = es.toList.map (·.born) := by
        apply List.ext_getElem?
        intro i
        simp only [List.getElem?_map, List.getElem?_modify]
        cases es.toList[i]? <;> simp
        split <;> rfl
      rw [this]; exact hnd

theorem run_makeMap_i {t e : TypeId} (ht : P.underlying t = some (.map kt e)) (w : World) : (Instr.makeMap t none).run P w = .ok (.map (some w.heap.size)) (w.alloc (.map #[] 0)) := by
  simp [Instr.makeMap, newObj, go_sem, Result.andThen, Sem.run]
variable {ops : Array Oper} {rest : List Oper} {o : Oper} {a : Act} {Q : Exit → Act → World → Prop}
theorem wpList_mapUpdate_i {w : World} (hg : o.guard = none) (mo ko vo : Operand) (t : TypeId) (hop : o.op = Op.mapUpdate t mo ko vo) {e : TypeId} (ht : P.underlying t = some (.map kt e)) (hk : P.underlying kt = some (.int .i64))
    {b : Nat} {m : MP} {k : Int} {v : Value} (em : a.eval mo = .map (some b)) (ek : a.eval ko = .int .i64 k) (ev : a.eval vo = v) (h : IMap w b m)
    (hK : ∀ w', IMap w' b (mput m k v) → w.grownBy w' (some b) → wpList P ops Q rest (a.put o.dst undef) w') : wpList P ops Q (o :: rest) a w := by
  refine wpList_plain hg fun K' hK' => ?_
  obtain ⟨w', hrun, r1, r2⟩ := run_mapUpdate_i ht hk h k v
  unfold Oper.wp
  simp [execOp, hop, em, ek, ev, hrun, Result.andThen]
  exact hK' _ _ (hK w' r1 r2)
theorem wpList_insert_i {w : World} (hg : o.guard = none) (mo ko vo : Operand) (t : TypeId) (hop : o.op = Op.insert t mo ko vo) {e : TypeId} (ht : P.underlying t = some (.map kt e)) (hk : P.underlying kt = some (.int .i64))
    {b : Nat} {m : MP} {k : Int} {v : Value} (em : a.eval mo = .map (some b)) (ek : a.eval ko = .int .i64 k) (ev : a.eval vo = v) (h : IMap w b m)
    (hK : ∀ w', IMap w' b (mput m k v) → w.grownBy w' (some b) → wpList P ops Q rest (a.put o.dst undef) w') : wpList P ops Q (o :: rest) a w := by
  refine wpList_plain hg fun K' hK' => ?_
  obtain ⟨w', hrun, r1, r2⟩ := run_mapUpdate_i ht hk h k v
  unfold Oper.wp
  simp [execOp, hop, em, ek, ev, hrun, Result.andThen]
  exact hK' _ _ (hK w' r1 r2)
end
end Go.Proofs.YtgeegdnkheckcaaGreat
