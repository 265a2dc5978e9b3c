/- The walk of slices.DeleteFunc at objects. -/
import Derived.Test.YtgeegdnkheckcaaGreatDiff
import Derived.Test.YtgeegdnkheckcaaGreatOwn
import Derived.Lib.SliceRun
set_option linter.unusedVariables false
namespace Go.Proofs.YtgeegdnkheckcaaGreat
open Lay (rep)
open Go.RowKit

/-! ### Plain -/
/-- An object, and where its list is. -/
abbrev ObW := Ob × (Option Addr × Nat)
/-- An object's cells, within a block. -/
structure RowC (cur : Array Value) (i : Nat) (x : ObW) : Prop where
  id : cur[i * 3]? = some (.int .i64 x.1.id)
  t : cur[i * 3 + 1]? = some (.int .i64 x.1.t)
  f : cur[i * 3 + 2]? = some (.slice x.2.1 x.1.f.length x.2.2)
theorem RowC.lt {cur : Array Value} {i : Nat} {x : ObW} (h : RowC cur i x) : i * 3 + 2 < cur.size := (Array.getElem?_eq_some_iff.1 h.f).1
def put3 (cur : Array Value) (i : Nat) (x : ObW) : Array Value := ((cur.setIfInBounds (i * 3) (.int .i64 x.1.id)).setIfInBounds (i * 3 + 1) (.int .i64 x.1.t)).setIfInBounds (i * 3 + 2) (.slice x.2.1 x.1.f.length x.2.2)
theorem RowC.put {cur : Array Value} {i : Nat} {x : ObW} (h : i * 3 + 2 < cur.size) : RowC (put3 cur i x) i x := by
  have h0 : i * 3 < cur.size := by omega
  have h1 : i * 3 + 1 < cur.size := by omega
  refine ⟨?_, ?_, ?_⟩ <;> simp [put3, Array.getElem?_setIfInBounds, h, h0, h1]
theorem RowC.put_ne {cur : Array Value} {i j : Nat} {x y : ObW} (h : RowC cur j y) (hne : j ≠ i) : RowC (put3 cur i x) j y := by
  have a0 : i * 3 ≠ j * 3 := by omega
  have a1 : i * 3 + 1 ≠ j * 3 := by omega
  have a2 : i * 3 + 2 ≠ j * 3 := by omega
  have b0 : i * 3 ≠ j * 3 + 1 := by omega
  have b2 : i * 3 + 2 ≠ j * 3 + 1 := by omega
  have c0 : i * 3 ≠ j * 3 + 2 := by omega
  have c1 : i * 3 + 1 ≠ j * 3 + 2 := by omega
  refine ⟨?_, ?_, ?_⟩
  · simpa [put3, Array.getElem?_setIfInBounds, hne, Ne.symm hne, a0, a1, a2] using h.id
  · simpa [put3, Array.getElem?_setIfInBounds, hne, Ne.symm hne, a0, b0, b2] using h.t
  · simpa [put3, Array.getElem?_setIfInBounds, hne, Ne.symm hne, a0, b0, c0, c1] using h.f
theorem put3_size {cur : Array Value} {i : Nat} {x : ObW} : (put3 cur i x).size = cur.size := by simp [put3]
/-- A block's rows of objects. -/
def RowD (w : World) (g : Nat) (D : List ObW) : Prop := ∀ i (h : i < D.length), w.cell? ⟨g, i * 3, none⟩ = some (.int .i64 D[i].1.id) ∧ w.cell? ⟨g, i * 3 + 1, none⟩ = some (.int .i64 D[i].1.t) ∧ w.cell? ⟨g, i * 3 + 2, none⟩ = some (.slice D[i].2.1 D[i].1.f.length D[i].2.2)
/-- The loop's relation. -/
structure DelR (q : ObW → Bool) (D : List ObW) (w : World) (g : Nat) (wr : World) (i j : Nat) : Prop where
  lt : i < j
  le : j ≤ D.length
  len : ((D.take j).filter q).length = i
  kp : Kp (fun b => b < w.heap.size ∧ b ≠ g) w wr
  row : ∃ cur, Blk wr g cur 45 ∧ D.length * 3 ≤ cur.size ∧ (∀ k (h : k < ((D.take j).filter q).length), RowC cur k ((D.take j).filter q)[k]) ∧ ∀ k (h : k < D.length), j ≤ k → RowC cur k D[k]
/-- What the predicate tells, whatever stands in the list's block. -/
structure PredD (P : Program) (gf : FuncId) (caps : Array Value) (g : Option Nat) (w : World) (p : Ob → Bool) : Prop where
  enters : ∀ args w, (callFunc gf args).run P w = .ok (.enter gf args) w
  calls : ∀ W (x : Ob) (F : Option Addr) n c, Kp (fun b => b < w.heap.size ∧ g ≠ some b) w W → Calls P gf (#[.agg #[.int .i64 x.id, .int .i64 x.t, .slice F n c]] ++ caps) W fun e w' => e = .returned (.bool (p x)) ∧ Below W.heap.size W w'
theorem PredD.predC {P : Program} {gf : FuncId} {caps : Array Value} {g : Option Nat} {w : World} {p : Ob → Bool} (h : PredD P gf caps g w p) (l : List Ob) : PredC P gf caps w l p :=
  ⟨h.enters, fun W x us _ hW hr => by
    obtain ⟨F, c, rfl, _⟩ := hr
    exact h.calls W x F _ c (Kp.of_below hW fun b hb => hb.1)⟩
theorem kp_setCells (g : Nat) : ∀ (vs : List Value) (o : Nat) (w : World), Kp (fun b => b ≠ g) w (w.setCells g o vs)
  | [], _, w => Kp.refl _ _
  | v :: vs, o, w => ((Kp.refl _ w).setCell (p := ⟨g, o, none⟩) (fun h => h rfl) v).trans (kp_setCells g vs (o + 1) _)
theorem run_clear_any {P : Program} (w : World) (t e : TypeId) (z : Value) (ht : P.underlying t = some (.slice e)) (hv : ∀ w, (zeroValue e).run P w = .ok z w) (h1 : ∀ i, i < z.cells.size → z.cells[i]!.oneCell' = true) (hz : 0 < z.cells.size) (b o n c : Nat) (hn : 0 < n)
    (hc : ∀ j, j < n * z.cells.size → (w.cell? ⟨b, o + j, none⟩).isSome = true) (hf : ∀ j, j < n * z.cells.size → w.frozen? ⟨b, o + j, none⟩ = false) :
    ∃ zs : List Value, zs.length = n * z.cells.size ∧ ∀ ty, (Builtin.clear_ #[t] ty #[.slice (some ⟨b, o, none⟩) n c]).run P w = .ok (.tuple #[]) (w.setCells b o zs) := by
  have hl : (Builtin.zeroCells z.cells n).toList.length = n * z.cells.size := by simp [Builtin.zeroCells]
  refine ⟨(Builtin.zeroCells z.cells n).toList, hl, fun ty => ?_⟩
  have hst := run_storeCells_cells (P := P) b o (Builtin.zeroCells z.cells n).toList 0 w (by rw [hl]; simpa using hc) (by rw [hl]; simpa using hf) (by
    intro v hv'
    simp only [Builtin.zeroCells, Array.toList_map, List.mem_map] at hv'
    obtain ⟨i, _, rfl⟩ := hv'
    exact h1 _ (Nat.mod_lt _ hz))
  simp only [Nat.add_zero] at hst
  obtain ⟨m, rfl⟩ : ∃ m, n = m + 1 := ⟨n - 1, by omega⟩
  simp [Builtin.clear_, run_underlying ht, hv, hst]
theorem idxFrom_first {α : Type} (p : α → Bool) : ∀ (l : List α) (k : Nat), (idxFrom p k l = -1 ∧ ∀ x ∈ l, p x = false) ∨ ∃ j : Nat, ∃ h : j < l.length, idxFrom p k l = ((k + j : Nat) : Int) ∧ p l[j] = true ∧ ∀ x ∈ l.take j, p x = false
  | [], k => .inl ⟨rfl, fun _ h => absurd h (List.not_mem_nil)⟩
  | x :: l, k => by
    simp only [idxFrom]
    cases hx : p x
    · rcases idxFrom_first p l (k + 1) with ⟨h1, h2⟩ | ⟨j, hj, h1, h2, h3⟩
      · refine .inl ⟨by simpa [hx] using h1, fun y hy => ?_⟩
        rcases List.mem_cons.1 hy with rfl | hy
        · exact hx
        · exact h2 y hy
      · refine .inr ⟨j + 1, by simpa using hj, by simp [h1]; omega, by simpa using h2, fun y hy => ?_⟩
        rw [List.take_succ_cons] at hy
        rcases List.mem_cons.1 hy with rfl | hy
        · exact hx
        · exact h3 y hy
    · exact .inr ⟨0, by simp, by simp, by simpa using hx, by simp⟩
section
variable {w : World} {gf : FuncId} {caps : Array Value} {p : Ob → Bool}
set_option maxRecDepth 100000 in
set_option maxHeartbeats 4000000 in
theorem del_none {A : Option Addr} {c : Nat} {l : List Ob} (hc : l.length ≤ c) (hm : c ≤ maxLen) (hA : RepL (Bel w) w A l) (hp : PredC Tryz.prog gf caps w l p) (hn : ∀ x ∈ l, p x = false) :
    Calls Tryz.prog 30 #[.slice A l.length c, .func (.func gf) #[] caps] w fun e w' => e = .returned (.slice A l.length c) ∧ Below w.heap.size w w' := by
  have hi : idx p l = -1 := by
    rcases idxFrom_first p l 0 with ⟨h1, _⟩ | ⟨j, hj, _, h2, _⟩
    · exact h1
    · rw [hn _ (List.getElem_mem hj)] at h2; cases h2
  have Hi := Lib.hid hi
  have call := Lib.hid (indexFunc_Obj hc hm hA hp)
  clear hi hn hA hp
  go_enter Tryz.func30, Tryz.ntmps30
  go_wp2_with (go_at_call 61; refine call.out.mono ?_; rintro e w1 ⟨rfl, hb1⟩; rw [Hi.out])
  go_ret
  exact ⟨rfl, hb1⟩
set_option maxRecDepth 100000 in
set_option maxHeartbeats 4000000 in
theorem del_some {g cap k0 : Nat} {cur0 : Array Value} {D : List ObW} (hB : Blk w g cur0 45) (hsz : D.length * 3 ≤ cur0.size) (hD : ∀ i (h : i < D.length), RowC cur0 i D[i]) (hc : D.length ≤ cap) (hm : cap ≤ maxLen)
    (hA : RepL (Bel w) w (some ⟨g, 0, none⟩) (D.map (·.1))) (hp : PredD Tryz.prog gf caps (some g) w p) (hk0 : k0 < D.length) (hk1 : p D[k0].1 = true) (hk2 : ∀ x ∈ D.take k0, p x.1 = false) :
    Calls Tryz.prog 30 #[.slice (some ⟨g, 0, none⟩) D.length cap, .func (.func gf) #[] caps] w fun e w' =>
      e = .returned (.slice (some ⟨g, 0, none⟩) (D.filter fun x => !p x.1).length cap) ∧ Kp (fun b => b < w.heap.size ∧ b ≠ g) w w' ∧ RowD w' g (D.filter fun x => !p x.1) := by
  have hi : idx p (D.map (·.1)) = (k0 : Int) := by
    rcases idxFrom_first p (D.map (·.1)) 0 with ⟨_, h1⟩ | ⟨j, hj, h1, h2, h3⟩
    · have := h1 _ (List.mem_map_of_mem (List.getElem_mem hk0)); rw [hk1] at this; cases this
    · have hj' : j < D.length := by simpa using hj
      have : j = k0 := by
        rcases Nat.lt_trichotomy j k0 with h | h | h
        · have := hk2 D[j] (by rw [List.mem_take_iff_getElem]; exact ⟨j, by omega, rfl⟩)
          simp only [List.getElem_map] at h2
          rw [h2] at this; cases this
        · exact h
        · have := h3 D[k0].1 (by rw [List.mem_take_iff_getElem]; exact ⟨k0, by simp; omega, by simp⟩)
          rw [hk1] at this; cases this
      subst this
      simpa [idx] using h1
  have Hi := Lib.hid hi
  have call := Lib.hid (indexFunc_Obj (p := p) (l := D.map (·.1)) (c := cap) (by simpa using hc) hm hA (hp.predC _))
  rw [List.length_map] at call
  have eg := hp.enters
  have Hp := Lib.hid hp.calls
  have zg := hB.lt
  have hF0 : (D.take (k0 + 1)).filter (fun x => !p x.1) = D.take k0 := by
    rw [List.take_succ_eq_append_getElem hk0, List.filter_append, List.filter_eq_self.2 (fun x hx => by rw [hk2 x hx]; rfl)]
    simp [hk1]
  have R0 := Lib.hid (show ∀ W, Below w.heap.size w W → DelR (fun x => !p x.1) D w g W k0 (k0 + 1) from fun W hb =>
    ⟨by omega, hk0, by rw [hF0]; simp; omega, Kp.of_below hb fun b h => h.1, cur0, hB.below hb, hsz, fun k h => by
      simp only [hF0] at h ⊢
      rw [List.getElem_take]; exact hD k (by simp at h; omega), fun k h _ => hD k h⟩)
  have hne1 : ((k0 : Int) == -1) = false := beq_eq_false_iff_ne.2 (by omega)
  clear hi hA hp hk1 hk2 hF0 hD
  unfold maxLen at hm
  go_enter Tryz.func30, Tryz.ntmps30
  go_wp2_with (go_at_call 61; refine call.out.mono ?_; rintro e w1 ⟨rfl, hb1⟩; rw [Hi.out])
  go_loopw [5, 6, 7] (fun s5 s6 _ wr => ∃ i j : Nat, s5 = .int .i64 i ∧ s6 = .int .i64 j ∧ DelR (fun x => !p x.1) D w g wr i j) (fun _ s6 _ _ => D.length - (intOf s6).toNat)
  case atStart => exact ⟨k0, k0 + 1, rfl, by go_num, R0.out _ hb1⟩
  case round =>
    obtain ⟨i, j, rfl, rfl, ri⟩ := hrel
    have Ri := Lib.hid ri
    have hij := ri.lt
    have hjl := ri.le
    clear ri
    obtain ⟨cur, hbl, hcs, hrows, hrest⟩ := Ri.out.row
    have Hbl := Lib.hid hbl
    have Hrows := Lib.hid hrows
    have Hrest := Lib.hid hrest
    have kpr := Ri.out.kp
    have szr := kpr.size
    have Kpr := Lib.hid kpr
    clear hrows hrest kpr
    by_cases hlt : j < D.length
    · have hx := Hrest.out j hlt (Nat.le_refl _)
      have Htk := Lib.hid (show (D.take (j + 1)).filter (fun x => !p x.1) = (D.take j).filter (fun x => !p x.1) ++ if p D[j].1 then [] else [D[j]] by
        rw [List.take_succ_eq_append_getElem hlt, List.filter_append]; cases hpx : p D[j].1 <;> simp [hpx])
      have hj3 : j * 3 + 2 < cur.size := hx.lt
      generalize D[j] = x at hx Htk
      have c0 := hbl.cell hx.id
      have c1 := hbl.cell hx.t
      have c2 := hbl.cell hx.f
      have hj0 : (0 : Int) ≤ (j : Int) := Int.natCast_nonneg _
      have hj1 : (j : Int) < (D.length : Int) := by omega
      have Hx := Lib.hid hx
      clear hx hbl
      go_wp2_with fail
      refine nameC fun W hW => ?_
      have bW : Below wr.heap.size wr W := by rw [hW]; exact balloc (Below.refl _ _) _
      have x7 : Blk W wr.heap.size #[.int .i64 x.1.id, .int .i64 x.1.t, .slice x.2.1 x.1.f.length x.2.2] 45 := by rw [hW]; exact Blk.new _ _ _
      clear hW c0 c1 c2
      refine (Hp.out W x.1 x.2.1 x.1.f.length x.2.2 ((Kpr.out.mono fun b hb => ⟨hb.1, fun e => hb.2 (by rw [e])⟩).trans (Kp.of_below bW fun b hb => by have := hb.1; omega))).mono ?_
      rintro e w8 ⟨rfl, hb8⟩
      have G8 := Lib.hid ((Hbl.out.below bW).below hb8)
      have zgr := Hbl.out.lt
      have K8 := Lib.hid ((Kpr.out.trans (Kp.of_below bW fun b hb => by have := hb.1; omega)).trans (Kp.of_below hb8 fun b hb => by have := bW.size; have := hb.1; omega))
      obtain ⟨y0, y1, y2, -⟩ := (x7.below hb8).three
      have hi0 : (0 : Int) ≤ (i : Int) := Int.natCast_nonneg _
      have hi1 : (i : Int) < (D.length : Int) := by omega
      clear x7 bW hb8
      cases hq : p x.1
      · have Htk2 := Lib.hid (show (D.take (j + 1)).filter (fun x => !p x.1) = (D.take j).filter (fun x => !p x.1) ++ [x] by have := Htk.out; rw [hq] at this; exact this)
        obtain ⟨u0, hu0⟩ : ∃ u, cur[i * 3]? = some u := ⟨_, Array.getElem?_eq_getElem (by omega)⟩
        obtain ⟨u1, hu1⟩ : ∃ u, cur[i * 3 + 1]? = some u := ⟨_, Array.getElem?_eq_getElem (by omega)⟩
        obtain ⟨u2, hu2⟩ : ∃ u, cur[i * 3 + 2]? = some u := ⟨_, Array.getElem?_eq_getElem (by omega)⟩
        have d0 := G8.out.cell hu0
        have d1 := G8.out.cell hu1
        have d2 := G8.out.cell hu2
        have f0 := G8.out.free (i * 3)
        have f1 := G8.out.free (i * 3 + 1)
        have f2 := G8.out.free (i * 3 + 2)
        have Hlen := Lib.hid Ri.out.len
        clear hq hu0 hu1 hu2
        go_wp2_with fail
        go_roundw
        case rel =>
          refine ⟨i + 1, j + 1, by go_num, by go_num, by omega, hlt, by rw [Htk2.out, List.length_append, Hlen.out]; rfl, ?_, put3 cur i x, ((G8.out.set _ _).set _ _).set _ _, by rw [put3_size]; exact hcs, ?_, fun k h hk => (Hrest.out k h (by omega)).put_ne (by omega)⟩
          · exact ((K8.out.setCell (fun h => h.2 rfl) _).setCell (fun h => h.2 rfl) _).setCell (fun h => h.2 rfl) _
          · intro k h
            have hl := Hlen.out
            simp only [Htk2.out] at h ⊢
            rw [List.length_append, hl] at h
            by_cases hk : k < i
            · rw [List.getElem_append_left (by omega)]
              exact (Hrows.out k (by omega)).put_ne (by omega)
            · obtain rfl : k = i := by simp at h; omega
              rw [List.getElem_append_right (by omega)]
              simp only [hl, Nat.sub_self, List.getElem_cons_zero]
              exact RowC.put (by omega)
        case measure => simp [intOf]; omega
      · have Htk2 := Lib.hid (show (D.take (j + 1)).filter (fun x => !p x.1) = (D.take j).filter (fun x => !p x.1) by have := Htk.out; rw [hq] at this; simpa using this)
        clear hq
        go_wp2_with fail
        go_roundw
        case rel =>
          refine ⟨i, j + 1, rfl, by go_num, by omega, hlt, by rw [Htk2.out]; exact Ri.out.len, K8.out, cur, G8.out, hcs, ?_, fun k h hk => Hrest.out k h (by omega)⟩
          intro k h
          simp only [Htk2.out] at h ⊢
          exact Hrows.out k h
        case measure => simp [intOf]; omega
    · obtain rfl : j = D.length := by omega
      have Hlen := Lib.hid Ri.out.len
      have Htk := Lib.hid (show (D.take D.length).filter (fun x => !p x.1) = D.filter (fun x => !p x.1) by rw [List.take_length])
      have hi0 : (0 : Int) ≤ (i : Int) := Int.natCast_nonneg _
      have hi1 : (i : Int) < (D.length : Int) := by omega
      have hcell : ∀ k, k < (D.length - i) * 3 → (wr.cell? ⟨g, i * 3 + k, none⟩).isSome = true := fun k hk => by
        obtain ⟨u, hu⟩ : ∃ u, cur[i * 3 + k]? = some u := ⟨_, Array.getElem?_eq_getElem (by omega)⟩
        rw [hbl.cell hu]; rfl
      obtain ⟨zs, hzl, hzr⟩ := run_clear_any wr 25 45 _ Tryz.underlying25 Tryz.zeroValue45 (by decide) (by decide) g (i * 3) (D.length - i) (cap - i) (by omega) hcell (fun k _ => hbl.free _)
      clear hbl hcell
      go_wp2_with fail
      go_ret
      have hfl : (D.filter fun x => !p x.1).length = i := by rw [← Htk.out]; exact Hlen.out
      refine ⟨by rw [hfl]; rfl, Kpr.out.trans ((kp_setCells g zs (i * 3) wr).mono fun b hb => hb.2), fun k hk => ?_⟩
      have hk' : k < i := by omega
      have hrow := Hrows.out k (by rw [Htk.out]; exact hk)
      simp only [Htk.out] at hrow
      have hout : ∀ a, a < i * 3 → (wr.setCells g (i * 3) zs).cell? ⟨g, a, none⟩ = wr.cell? ⟨g, a, none⟩ := fun a ha => World.cell?_setCells_out g zs (i * 3) wr ⟨g, a, none⟩ fun _ _ => .inl ha
      exact ⟨(hout _ (by omega)).trans (Hbl.out.cell hrow.id), (hout _ (by omega)).trans (Hbl.out.cell hrow.t), (hout _ (by omega)).trans (Hbl.out.cell hrow.f)⟩
end
end Go.Proofs.YtgeegdnkheckcaaGreat
