/- A loop over a map by whole numbers, whose round may delete what came: what is to come, and the operations' laws. -/
import Derived.Test.YtgeegdnkheckcaaGreatMap
import Derived.Maps.RangeWalk
set_option linter.unusedVariables false
set_option linter.unusedSimpArgs false
namespace Go.Proofs.YtgeegdnkheckcaaGreat
open Lay (rep)
open Go.RowKit
open Go.ChangeMaps (setBlock)

/-- A loop over the map in block b, its iterator in block r: m is what the map holds now, 'done' the keys that came. -/
structure IRange (w : World) (b r : Nat) (m : MP) (done : List Int) : Prop where
  out : ∃ es clock since seen c0, w.heap[b]? = some (.map es clock) ∧ es.toList.map (fun e => (e.key, e.val)) = m.map (fun p => ((.int .i64 p.1 : Value), p.2)) ∧ (∀ e ∈ es.toList, e.born < clock) ∧ (es.toList.map (·.born)).Nodup ∧ (m.map (·.1)).Nodup ∧
    w.heap[r]? = some (.mapIter (some b) since seen c0) ∧ (∀ x ∈ es.toList, x.born < since) ∧ since ≤ c0 ∧ since ≤ clock ∧ ∀ (i : Nat) (e : MapEntry) (p : Int × Value), es.toList[i]? = some e → m[i]? = some p → (seen.contains e.born = true ↔ p.1 ∈ done)

section
variable {w w' : World} {b r : Nat} {m : MP} {done : List Int}
theorem IRange.imap (h : IRange w b r m done) : IMap w b m := by
  obtain ⟨es, clock, since, seen, c0, h1, h2, h3, h4, _⟩ := h.out
  exact ⟨es, clock, h1, h2, h3, h4⟩
theorem IRange.rlt (h : IRange w b r m done) : r < w.heap.size := by
  obtain ⟨es, clock, since, seen, c0, _, _, _, _, _, h6, _⟩ := h.out
  exact (Array.getElem?_eq_some_iff.1 h6).1
theorem IRange.ne (h : IRange w b r m done) : r ≠ b := by
  obtain ⟨es, clock, since, seen, c0, h1, _, _, _, _, h6, _⟩ := h.out
  intro e
  rw [e, h1] at h6
  cases h6
theorem IRange.keep (h : IRange w b r m done) (hb : w'.heap[b]? = w.heap[b]?) (hr : w'.heap[r]? = w.heap[r]?) : IRange w' b r m done ∧ w'.rangeLeft b r = w.rangeLeft b r := by
  obtain ⟨es, clock, since, seen, c0, h1, h2, h3, h4, h5, h6, h7⟩ := h.out
  exact ⟨⟨es, clock, since, seen, c0, hb.trans h1, h2, h3, h4, h5, hr.trans h6, h7⟩, by simp only [World.rangeLeft, hb, hr]⟩
theorem IRange.below (h : IRange w b r m done) (hb : Below w.heap.size w w') : IRange w' b r m done ∧ w'.rangeLeft b r = w.rangeLeft b r := h.keep (hb.block b h.imap.lt) (hb.block r h.rlt)
theorem IRange.grown {row : Option Nat} (h : IRange w b r m done) (hg : w.grownBy w' row) (h1 : some b ≠ row) (h2 : some r ≠ row) : IRange w' b r m done ∧ w'.rangeLeft b r = w.rangeLeft b r := h.keep (hg.block b h.imap.lt h1) (hg.block r h.rlt h2)

theorem nodup_get {α : Type} {l : List α} (h : l.Nodup) {i j : Nat} {x : α} (h1 : l[i]? = some x) (h2 : l[j]? = some x) : i = j := by
  obtain ⟨h3, rfl⟩ := List.getElem?_eq_some_iff.1 h1
  obtain ⟨h4, h5⟩ := List.getElem?_eq_some_iff.1 h2
  have := List.pairwise_iff_getElem.1 h
  rcases Nat.lt_trichotomy i j with hlt | he | hlt
  · exact absurd h5.symm (this i j h3 h4 hlt)
  · exact he
  · exact absurd h5 (this j i h4 h3 hlt)

variable {P : Program}
theorem IRange.next (h : IRange w b r m done) (ty : TypeId) :
    ((∀ p ∈ m, p.1 ∈ done) ∧ (Instr.next (.pointer (some ⟨r, 0, none⟩)) false ty).run P w = .ok (.tuple #[.bool false]) w) ∨
    ∃ k v w', (k, v) ∈ m ∧ k ∉ done ∧ (Instr.next (.pointer (some ⟨r, 0, none⟩)) false ty).run P w = .ok (.tuple #[.bool true, .int .i64 k, v]) w' ∧ IRange w' b r m (k :: done) ∧ w'.rangeLeft b r < w.rangeLeft b r ∧
      w.grownBy w' (some r) ∧ w'.heap.size = w.heap.size ∧ (Instr.entry (.pointer (some ⟨r, 0, none⟩))).run P w' = .ok (.tuple #[.int .i64 k, v]) w' := by
  have hne := h.ne
  obtain ⟨es, clock, since, seen, c0, hb, hm, hbn, hnd, hkd, hr, hold, hsc, hsk, hdone⟩ := h.out
  have hlen : es.toList.length = m.length := by have := congrArg List.length hm; simpa using this
  rcases run_next_at (P := P) w ty r b since c0 seen es clock hr hb hold hsc with ⟨h0, hrun⟩ | ⟨e, he, w1, hal, hrun⟩
  · refine .inl ⟨fun p hp => ?_, hrun⟩
    obtain ⟨i, hi⟩ := List.mem_iff_getElem?.1 hp
    have hil : i < es.toList.length := by rw [hlen]; exact (List.getElem?_eq_some_iff.1 hi).1
    have hei := List.getElem?_eq_getElem hil
    exact (hdone i _ p hei hi).1 (all_seen es seen h0 _ (List.getElem_mem hil))
  · obtain ⟨hem, hes⟩ := mem_left he
    obtain ⟨i, hi⟩ := List.mem_iff_getElem?.1 hem
    have hil : i < m.length := by rw [← hlen]; exact (List.getElem?_eq_some_iff.1 hi).1
    have hmi := List.getElem?_eq_getElem hil
    have hp : (e.key, e.val) = ((.int .i64 m[i].1 : Value), m[i].2) := by
      have := congrArg (fun l => l[i]?) hm
      simpa [List.getElem?_map, hi, hmi] using this
    generalize hpe : m[i] = p at hmi hp
    obtain ⟨k, v⟩ := p
    simp only [Prod.mk.injEq] at hp
    obtain ⟨hk, hv⟩ := hp
    have hnk : k ∉ done := fun hd => by rw [(hdone i e (k, v) hi hmi).2 hd] at hes; cases hes
    have hr1 : w1.heap[r]? = some (.mapIter (some b) since seen c0) := by rcases hal with rfl | rfl <;> exact hr
    have hb1 : w1.heap[b]? = some (.map es clock) := by rcases hal with rfl | rfl <;> exact hb
    have hset := MapKept.heap_set (o' := .mapIter (some b) since (seen.push e.born) clock) hr1
    have hb' : (setBlock w1 r (.mapIter (some b) since (seen.push e.born) clock)).heap[b]? = some (.map es clock) := (hset.2 b (fun e1 => hne e1.symm)).trans hb1
    have hen := run_entry_at (P := P) _ r b since seen es clock e hset.1 hb' hem hnd
    rw [hk, hv] at hrun hen
    refine .inr ⟨k, v, _, List.mem_of_getElem? hmi, hnk, hrun, ⟨es, clock, since, seen.push e.born, clock, hb', hm, hbn, hnd, hkd, hset.1, hold, hsk, hsk, fun j ej pj hj hpj => ?_⟩, ?_, ?_, ?_, hen⟩
    · rw [contains_push, Bool.or_eq_true, hdone j ej pj hj hpj, List.mem_cons, beq_iff_eq]
      constructor
      · rintro (h | h)
        · exact .inr h
        · have hji : j = i := nodup_get hnd (x := e.born) (by rw [List.getElem?_map, hj, Option.map_some, h]) (by rw [List.getElem?_map, hi]; rfl)
          subst hji
          rw [hmi] at hpj
          obtain rfl := Option.some.inj hpj
          exact .inl rfl
      · rintro (h | h)
        · have hji : j = i := nodup_get hkd (x := k) (by rw [List.getElem?_map, hpj, Option.map_some, h]) (by rw [List.getElem?_map, hmi]; rfl)
          subst hji
          rw [hi] at hj
          obtain rfl := Option.some.inj hj
          exact .inr rfl
        · exact .inl h
    · have hl := left_shrinks es seen e he
      simp only [World.rangeLeft, hb, hr]
      rw [hb', show (setBlock w1 r (.mapIter (some b) since (seen.push e.born) clock)).heap[r]? = _ from hset.1]
      exact hl
    · rcases hal with rfl | rfl <;> exact ⟨rfl, rfl, rfl, by simp [setBlock], fun i _ hi => hset.2 i (fun e1 => hi (by rw [e1]))⟩
    · rcases hal with rfl | rfl <;> simp [setBlock]

theorem IMap.range {t kt e : TypeId} (h : IMap w b m) (hn : (m.map (·.1)).Nodup) (ht : P.underlying t = some (.map kt e)) :
    ∃ w', (Instr.range t (.map (some b))).run P w = .ok (.pointer (some ⟨w.heap.size, 0, none⟩)) w' ∧ IRange w' b w.heap.size m [] ∧ Below w.heap.size w w' ∧ w'.heap.size = w.heap.size + 1 := by
  have hlt := h.lt
  obtain ⟨es, clock, hb, hm, hbn, hnd⟩ := h.out
  refine ⟨_, run_range_map w t kt e b es clock ht hb, ⟨es, clock, clock, #[], clock, ((MapKept.heap_alloc w _).2 b hlt).trans hb, hm, hbn, hnd, hn, (MapKept.heap_alloc w _).1, hbn, Nat.le_refl _, Nat.le_refl _, ?_⟩, (Below.refl _ _).alloc (Nat.le_refl _) _, by simp⟩
  intro i e p _ _
  simp

theorem mdel_filter : ∀ {m : MP} {k : Int}, (m.map (·.1)).Nodup → mdel m k = m.filter fun p => p.1 != k
  | [], _, _ => rfl
  | p :: m, k, h => by
    rw [List.map_cons, List.nodup_cons] at h
    by_cases hp : p.1 = k
    · subst hp
      have : m.filter (fun q => q.1 != p.1) = m := List.filter_eq_self.2 fun q hq => by
        simp only [bne_iff_ne, ne_eq]; intro e; exact h.1 (e ▸ List.mem_map_of_mem hq)
      simp [mdel, this]
    · have := mdel_filter (k := k) h.2
      simp only [mdel] at this ⊢
      simp [hp, this]

theorem IRange.drop {t kt e ty : TypeId} {k : Int} (h : IRange w b r m done) (ht : P.underlying t = some (.map kt e)) (hkt : P.underlying kt = some (.int .i64)) :
    ∃ w', (Builtin.delete_ #[t, kt] ty #[.map (some b), .int .i64 k]).run P w = .ok (.tuple #[]) w' ∧ IRange w' b r (m.filter fun p => p.1 != k) done ∧ w'.rangeLeft b r ≤ w.rangeLeft b r ∧ w.grownBy w' (some b) ∧ w'.heap.size = w.heap.size := by
  have hne := h.ne
  have hlt := h.imap.lt
  obtain ⟨es, clock, since, seen, c0, hb, hm, hbn, hnd, hkd, hr, hold, hsc, hsk, hdone⟩ := h.out
  have hset : ∀ o', (setBlock w b o').heap[b]? = some o' ∧ ∀ i, i ≠ b → (setBlock w b o').heap[i]? = w.heap[i]? := fun o' => MapKept.heap_set hb
  have hgr : ∀ o', w.grownBy (setBlock w b o') (some b) := fun o' => ⟨rfl, rfl, rfl, by simp [setBlock], fun i _ hi => (hset o').2 i (fun e1 => hi (by rw [e1]))⟩
  rcases findNow_int k es.toList m 0 hm with ⟨h1, h2, h3⟩ | ⟨j, e', v, h1, h2, h3, h4, h5, h6, h7⟩
  · have hf : (m.filter fun p => p.1 != k) = m := List.filter_eq_self.2 fun p hp => by
      simp only [bne_iff_ne, ne_eq]
      intro e
      simp only [mlook, Option.map_eq_none_iff, List.find?_eq_none] at h2
      exact h2 p hp (by simp [e])
    rw [hf]
    refine ⟨setBlock w b (.map es clock), ?_, ⟨es, clock, since, seen, c0, (hset _).1, hm, hbn, hnd, hkd, ((hset _).2 r hne).trans hr, hold, hsc, hsk, hdone⟩, ?_, hgr _, by simp [setBlock]⟩
    · simp [Builtin.delete_, run_underlying ht, getObj, Sem.run, hb, run_checkKey_i hkt, Instr.findKey, run_underlying hkt, h1, Result.andThen, go_sem, setObj, setBlock]
    · simp only [World.rangeLeft]
      rw [(hset _).1, (hset _).2 r hne, hb]
      exact Nat.le_refl _
  · have hj : j < es.size := by
      have := (List.getElem?_eq_some_iff.1 h2).1
      simpa using this
    have hsub : (es.eraseIdxIfInBounds j).toList = es.toList.eraseIdx j := by
      unfold Array.eraseIdxIfInBounds
      rw [dif_pos hj]
      simp
    have hjm : j < m.length := by
      have := congrArg List.length hm
      simp at this
      omega
    have hmj : m[j].1 = k := by
      have := congrArg (fun l => l[j]?) hm
      simp only [List.getElem?_map, h2, List.getElem?_eq_getElem hjm, Option.map_some, Option.some.injEq, Prod.mk.injEq, h3, Value.int.injEq, true_and] at this
      exact this.1.symm
    have hmf : (m.filter fun p => p.1 != k) = m.eraseIdx j := by
      rw [← mdel_filter hkd, mdel]
      have hfi : m.findIdx? (fun p => p.1 == k) = some j := by
        rw [List.findIdx?_eq_some_iff_getElem]
        refine ⟨hjm, by simp [hmj], fun i hi => ?_⟩
        simp only [Bool.not_eq_true, beq_eq_false_iff_ne, ne_eq]
        intro e
        have := nodup_get hkd (i := i) (j := j) (x := k) (by rw [List.getElem?_map, List.getElem?_eq_getElem (by omega), Option.map_some, e]) (by rw [List.getElem?_map, List.getElem?_eq_getElem hjm, Option.map_some, hmj])
        omega
      rw [List.eraseP_eq_eraseIdx, hfi]
    have hes : ∀ x, x ∈ es.toList.eraseIdx j → x ∈ es.toList := fun x hx => (List.eraseIdx_sublist _ _).subset hx
    refine ⟨setBlock w b (.map (es.eraseIdxIfInBounds j) clock), ?_, ⟨es.eraseIdxIfInBounds j, clock, since, seen, c0, (hset _).1, ?_, ?_, ?_, ?_, ((hset _).2 r hne).trans hr, ?_, hsc, hsk, ?_⟩, ?_, hgr _, by simp [setBlock]⟩
    · simp [Builtin.delete_, run_underlying ht, getObj, Sem.run, hb, run_checkKey_i hkt, Instr.findKey, run_underlying hkt, h1, Result.andThen, go_sem, setObj, setBlock]
    · rw [hsub, h7, mdel_filter hkd]
    · rw [hsub]; exact fun x hx => hbn x (hes x hx)
    · rw [hsub]; exact hnd.sublist ((List.eraseIdx_sublist _ _).map _)
    · exact hkd.sublist ((List.filter_sublist).map _)
    · rw [hsub]; exact fun x hx => hold x (hes x hx)
    · intro i x p hx hp
      rw [hsub, List.getElem?_eraseIdx] at hx
      rw [hmf, List.getElem?_eraseIdx] at hp
      split at hx
      · rename_i hij
        rw [if_pos hij] at hp
        exact hdone i x p hx hp
      · rename_i hij
        rw [if_neg hij] at hp
        exact hdone (i + 1) x p hx hp
    · simp only [World.rangeLeft]
      rw [(hset _).1, (hset _).2 r hne, hb, hr]
      have e1 : ∀ a : Array MapEntry, (leftOf a seen).size = (a.toList.filter fun e => !seen.contains e.born).length := fun a => by
        unfold leftOf
        rw [← Array.toList_filter, Array.length_toList]
      show (leftOf (es.eraseIdxIfInBounds j) seen).size ≤ (leftOf es seen).size
      rw [e1, e1, hsub]
      exact ((List.eraseIdx_sublist _ _).filter _).length_le

/-- Each key came. -/
structure AllDone (m : MP) (done : List Int) : Prop where
  out : ∀ p ∈ m, p.1 ∈ done
structure OneLeft (m : MP) (done : List Int) (k : Int) (v : Value) : Prop where
  mem : (k, v) ∈ m
  new : k ∉ done
variable {ops : Array Oper} {rest : List Oper} {o : Oper} {a : Act} {Q : Exit → Act → World → Prop} {kt : TypeId}
theorem wpList_range_i (hg : o.guard = none) (mo : Operand) (t : TypeId) (hop : o.op = Op.range t mo) {e : TypeId} (ht : P.underlying t = some (.map kt e)) (hm : a.eval mo = .map (some b)) (h : IMap w b m) (hn : (m.map (·.1)).Nodup)
    (hK : ∀ w', IRange w' b w.heap.size m [] → Below w.heap.size w w' → w'.heap.size = w.heap.size + 1 → wpList P ops Q rest (a.put o.dst (.pointer (some ⟨w.heap.size, 0, none⟩))) w') : wpList P ops Q (o :: rest) a w := by
  refine wpList_plain hg fun K' hK' => ?_
  obtain ⟨w', hrun, r1, r2, r3⟩ := h.range (P := P) hn ht
  unfold Oper.wp
  simp [execOp, hop, hm, hrun, Result.andThen]
  exact hK' _ _ (hK w' r1 r2 r3)
theorem wpList_next_i (hg : o.guard = none) (it : Operand) (hop : o.op = Op.next it false) (hit : a.eval it = .pointer (some ⟨r, 0, none⟩)) (h : IRange w b r m done)
    (hDone : AllDone m done → wpList P ops Q rest (a.put o.dst (.tuple #[.bool false])) w)
    (hMore : ∀ k v w', OneLeft m done k v → Hid (IRange w' b r m (k :: done)) → w'.rangeLeft b r < w.rangeLeft b r → w.grownBy w' (some r) → w'.heap.size = w.heap.size →
      (Instr.entry (.pointer (some ⟨r, 0, none⟩))).run P w' = .ok (.tuple #[.int .i64 k, v]) w' → wpList P ops Q rest (a.put o.dst (.tuple #[.bool true, .int .i64 k, v])) w') : wpList P ops Q (o :: rest) a w := by
  refine wpList_plain hg fun K' hK' => ?_
  unfold Oper.wp
  rcases h.next (P := P) o.type with ⟨h0, hrun⟩ | ⟨k, v, w', h1, h2, hrun, h3, h4, h5, h6, h7⟩
  · simp [execOp, hop, hit, hrun, Result.andThen]
    exact hK' _ _ (hDone ⟨h0⟩)
  · simp [execOp, hop, hit, hrun, Result.andThen]
    exact hK' _ _ (hMore k v w' ⟨h1, h2⟩ (Lib.hid h3) h4 h5 h6 h7)
theorem wpList_delete_i (hg : o.guard = none) (mo x : Operand) (t : TypeId) (hop : o.op = Op.call { callee := Callee.builtin Builtin.delete, args := #[mo, x], argTypes := #[t, kt] }) {e : TypeId} {k : Int} (ht : P.underlying t = some (.map kt e)) (hkt : P.underlying kt = some (.int .i64))
    (hm : a.eval mo = .map (some b)) (hx : a.eval x = .int .i64 k) (h : IRange w b r m done)
    (hK : ∀ w', IRange w' b r (m.filter fun p => p.1 != k) done → w'.rangeLeft b r ≤ w.rangeLeft b r → w.grownBy w' (some b) → w'.heap.size = w.heap.size → wpList P ops Q rest (a.put o.dst (.tuple #[])) w') : wpList P ops Q (o :: rest) a w := by
  refine wpList_plain hg fun K' hK' => ?_
  obtain ⟨w', hrun, r1, r2, r3, r4⟩ := h.drop (P := P) (ty := o.type) (k := k) ht hkt
  unfold Oper.wp
  simp [execOp, hop, resolve, invoke, builtin, hm, hx, hrun, Result.andThen]
  exact hK' _ _ (hK w' r1 r2 r3 r4)
theorem wpList_len_i (hg : o.guard = none) (mo : Operand) (t : TypeId) (hop : o.op = Op.call { callee := Callee.builtin Builtin.len, args := #[mo], argTypes := #[t] }) {e : TypeId} (ht : P.underlying t = some (.map kt e)) (hm : a.eval mo = .map (some b)) (h : IMap w b m)
    (hK : wpList P ops Q rest (a.put o.dst (.int .i64 (m.length : Int))) w) : wpList P ops Q (o :: rest) a w := by
  refine wpList_plain hg fun K' hK' => ?_
  obtain ⟨es, c, h1, h2, _⟩ := h.out
  have hl : es.size = m.length := by have := congrArg List.length h2; simpa using this
  unfold Oper.wp
  have hrun : (Builtin.len_ #[t] o.type #[.map (some b)]).run P w = .ok (.int .i64 (m.length : Int)) w := by
    simp [Builtin.len_, run_underlying ht, getObj, Sem.run, h1, Result.andThen, go_sem, hl]
  simp [execOp, hop, resolve, invoke, builtin, hm, hrun, Result.andThen]
  exact hK' _ _ hK
end
end Go.Proofs.YtgeegdnkheckcaaGreat
