/- The walk of merge's object: one of an id that is in a, or in b. -/
import Derived.Test.YtgeegdnkheckcaaGreatStands
import Derived.Test.YtgeegdnkheckcaaGreatOwnSet
set_option linter.unusedVariables false
namespace Go.Proofs.YtgeegdnkheckcaaGreat
open Lay (rep)
open Go.RowKit

/-! ### Pure -/
def mAt (zs : Option (List Vl)) (xs ys : List Vl) (k : Nat) : Vl × Bool :=
  match zs with
  | some zs => stands (zs.getD k default) (xs.getD k default) (ys.getD k default)
  | none => (xs.getD k default, decide (xs.getD k default = ys.getD k default))
def mF (zs : Option (List Vl)) (xs ys : List Vl) : List Vl := (List.range xs.length).map fun k => (mAt zs xs ys k).1
def mClash (zs : Option (List Vl)) (xs ys : List Vl) (n : Nat) : List Int := ((List.range n).filter fun k => !(mAt zs xs ys k).2).map fun k : Nat => (k : Int)
def objM (o a b : Gr) (id : Int) : Ob × List Int :=
  match obOf a id, obOf b id with
  | none, y => (y.getD default, [])
  | some x, none => (x, [])
  | some x, some y => ({ x with f := mF ((obOf o id).map (·.f)) x.f y.f }, mClash ((obOf o id).map (·.f)) x.f y.f x.f.length)
/-- The row behind k rounds. -/
def mRow (zs : Option (List Vl)) (xs ys : List Vl) (k : Nat) : List Vl := ((List.range k).map fun k => (mAt zs xs ys k).1) ++ xs.drop k
theorem mRow_len {zs : Option (List Vl)} {xs ys : List Vl} {k : Nat} (h : k ≤ xs.length) : (mRow zs xs ys k).length = xs.length := by simp [mRow]; omega
theorem mRow_get {zs : Option (List Vl)} {xs ys : List Vl} {k : Nat} (h : k < xs.length) : (mRow zs xs ys k)[k]'(by rw [mRow_len (by omega)]; exact h) = xs[k] := by
  simp [mRow, List.getElem_append_right]
theorem mRow_set {zs : Option (List Vl)} {xs ys : List Vl} {k : Nat} (h : k < xs.length) : (mRow zs xs ys k).set k (mAt zs xs ys k).1 = mRow zs xs ys (k + 1) := by
  unfold mRow
  rw [List.set_append_right _ _ (by simp), List.range_succ, List.map_append]
  simp
  rw [List.drop_eq_getElem_cons h]
  rfl
theorem mRow_none {xs ys : List Vl} {k : Nat} (h : k < xs.length) : mRow none xs ys (k + 1) = mRow none xs ys k := by
  rw [← mRow_set h]
  have h2 : k < (mRow none xs ys k).length := by rw [mRow_len (by omega)]; exact h
  have h3 := mRow_get (zs := none) (ys := ys) h
  conv => rhs; rw [← List.set_getElem_self h2, h3]
  simp [mAt, List.getD_eq_getElem?_getD, h]
theorem mRow_zero {zs : Option (List Vl)} {xs ys : List Vl} : mRow zs xs ys 0 = xs := by simp [mRow]
theorem mRow_end {zs : Option (List Vl)} {xs ys : List Vl} : mRow zs xs ys xs.length = mF zs xs ys := by simp [mRow, mF]
theorem mClash_snoc (zs : Option (List Vl)) (xs ys : List Vl) (n : Nat) : mClash zs xs ys (n + 1) = mClash zs xs ys n ++ (if (mAt zs xs ys n).2 then [] else [(n : Int)]) := by
  unfold mClash
  rw [List.range_succ, List.filter_append, List.map_append]
  cases h : (mAt zs xs ys n).2 <;> simp [h]
theorem mClash_len (zs : Option (List Vl)) (xs ys : List Vl) (n : Nat) : (mClash zs xs ys n).length ≤ n := by
  unfold mClash; rw [List.length_map]; exact Nat.le_trans (List.length_filter_le _ _) (by simp)

/-- Three graphs' value. -/
@[reducible] def tv (As : Option Addr) (cs : Nat) (Ao : Option Addr) (co : Nat) (Ar : Option Addr) (cr : Nat) (o : Gr) (Bs : Option Addr) (ds : Nat) (Bo : Option Addr) (dO : Nat) (Br : Option Addr) (dr : Nat) (a : Gr)
    (Cs : Option Addr) (es : Nat) (Co : Option Addr) (eo : Nat) (Cr : Option Addr) (er : Nat) (b : Gr) : Value :=
  .agg #[.slice As o.s.length cs, .slice Ao o.o.length co, .slice Ar o.roots.length cr, .slice Bs a.s.length ds, .slice Bo a.o.length dO, .slice Br a.roots.length dr, .slice Cs b.s.length es, .slice Co b.o.length eo, .slice Cr b.roots.length er]

/-- What 'object' tells: an object whose fields lie in memory of the call's own, and what clashes. -/
def ObjV (w w' : World) (e : Ending) (r : Ob × List Int) : Prop :=
  ∃ F cF A c, e = .returned (.tuple #[.agg #[.int .i64 r.1.id, .int .i64 r.1.t, .slice F r.1.f.length cF], .slice A r.2.length c]) ∧ r.1.f.length ≤ cF ∧ cF ≤ maxLen ∧ RepL (fun b => w.heap.size ≤ b ∧ b < w'.heap.size) w' F r.1.f ∧
    r.2.length ≤ c ∧ c ≤ maxLen ∧ RepL (fun b => w.heap.size ≤ b ∧ b < w'.heap.size) w' A r.2

theorem OwnL.flatV {S : Nat → Prop} {w : World} {base : Nat} {e : TypeId} {v : Value} {l : List Vl} (h : OwnL S w base e v l) : OwnL (fun _ => False) w base e v l := ⟨h.out⟩
theorem CloneV.val {S : Nat → Prop} {w w' : World} {t : TypeId} {e : Ending} {l : List Vl} (h : CloneV S w w' t e l) :
    ∃ F c, e = .returned (.slice F l.length c) ∧ Below w.heap.size w w' ∧ l.length ≤ c ∧ c ≤ maxLen ∧ RepL (fun b => w.heap.size ≤ b ∧ b < w'.heap.size) w' F l := by
  obtain ⟨v, rfl, hb, own⟩ := h
  obtain ⟨F, c, rfl, h1, h2, h3⟩ := own.flatV.read (Nat.succ_pos _) (fun _ h => h.elim)
  exact ⟨F, c, rfl, hb, h1, h2, h3.mono fun b hb => ⟨by rcases hb.2 with h | h; exact h; exact h.elim, hb.1⟩⟩
theorem set3 (w : World) (R : Nat) (v0 v1 v2 : Value) : Kp (fun b => b ≠ R) w (((w.setCell ⟨R, 0, none⟩ v0).setCell ⟨R, 1, none⟩ v1).setCell ⟨R, 2, none⟩ v2) :=
  (((Kp.refl _ _).setCell (fun h => h rfl) _).setCell (fun h => h rfl) _).setCell (fun h => h rfl) _
theorem cell_set3 {w : World} {g b o i0 i1 i2 : Nat} {v u0 u1 u2 : Value} (h : w.cell? ⟨b, o, none⟩ = some v) (hne : b ≠ g) : (((w.setCell ⟨g, i0, none⟩ u0).setCell ⟨g, i1, none⟩ u1).setCell ⟨g, i2, none⟩ u2).cell? ⟨b, o, none⟩ = some v :=
  Kp.cell (S := fun k => k ≠ g) ((((Kp.refl _ _).setCell (fun h => h rfl) _).setCell (fun h => h rfl) _).setCell (fun h => h rfl) _) hne h
/-- The relation of the loop over an object's fields. -/
def MRel (B : Nat) (WL : World) (zs : Option (List Vl)) (xs ys : List Vl) (vF : Value) (c i : Value) (wr : World) : Prop :=
  ∃ j : Nat, j ≤ xs.length ∧ i = .int .i64 j ∧ Below B WL wr ∧ WL.heap.size ≤ wr.heap.size ∧ OwnL (fun _ => False) wr B 47 vF (mRow zs xs ys j) ∧ OwnL (fun _ => False) wr WL.heap.size 3 c (mClash zs xs ys j)
section
variable {w : World} {As : Option Addr} {cs : Nat} {Ao : Option Addr} {co : Nat} {Ar : Option Addr} {cr : Nat} {o : Gr}
variable {Bs : Option Addr} {ds : Nat} {Bo : Option Addr} {dO : Nat} {Br : Option Addr} {dr : Nat} {a : Gr}
variable {Cs : Option Addr} {es : Nat} {Co : Option Addr} {eo : Nat} {Cr : Option Addr} {er : Nat} {b : Gr}
set_option maxRecDepth 100000 in
set_option maxHeartbeats 4000000 in
theorem merge_object {id : Int} (ho : GOK w As cs Ao co Ar cr o) (ha : GOK w Bs ds Bo dO Br dr a) (hb : GOK w Cs es Co eo Cr er b) (Mo : MayG o) (Ma : MayG a) (Mb : MayG b)
    (hab : ∀ x y, obOf a id = some x → obOf b id = some y → x.f.length = y.f.length) (hao : ∀ x z, obOf a id = some x → obOf o id = some z → x.f.length = z.f.length) :
    Calls Tryz.prog 46 #[tv As cs Ao co Ar cr o Bs ds Bo dO Br dr a Cs es Co eo Cr er b, .int .i64 id] w fun e w' => Below w.heap.size w w' ∧ ObjV w w' e (objM o a b id) := by
  have HO := Lib.hid ho
  have HA := Lib.hid ha
  have HB := Lib.hid hb
  have Hab := Lib.hid hab
  have Hao := Lib.hid hao
  clear ho ha hb hab hao
  go_enter Tryz.func46, Tryz.ntmps46
  go_wp2_with fail
  refine nameC fun W hW => ?_
  have bW : Below w.heap.size w W := by rw [hW]; exact balloc (balloc (Below.refl _ _) _) _
  have t0 : Blk W w.heap.size #[.slice As o.s.length cs, .slice Ao o.o.length co, .slice Ar o.roots.length cr, .slice Bs a.s.length ds, .slice Bo a.o.length dO, .slice Br a.roots.length dr, .slice Cs b.s.length es, .slice Co b.o.length eo, .slice Cr b.roots.length er] 56 := by rw [hW]; exact (Blk.new _ _ _).alloc _
  have r0 : Blk W (w.heap.size + 1) #[.int .i64 0, .int .i64 0, .slice none 0 0] 45 := by rw [hW]; exact Blk.new' (by simp) _ _
  clear hW
  refine (merge_side (HA.out.below bW)).mono ?_
  rintro e w1 ⟨hb1, F1, c1, rfl, u1, u2, u3⟩
  have t1 := t0.below hb1
  have r1 := r0.below hb1
  have b1 := bthen bW hb1
  have U3 := Lib.hid (RepL.keep (u3 (Bel w) (RepL.keep HA.out.o fun k hk => bW.block k hk)) fun k hk => hb1.block k (Nat.lt_of_lt_of_le hk bW.size))
  clear t0 r0 bW hb1 u3
  have z1 := t1.lt
  have c6 := t1.cell (j := 6) rfl
  have c7 := t1.cell (j := 7) rfl
  have c8 := t1.cell (j := 8) rfl
  generalize hxo : (obOf a id).getD default = x at U3 u1
  go_wp2_with fail
  refine nameC fun W hW => ?_
  have bW : Below w1.heap.size w1 W := by rw [hW]; exact balloc (Below.refl _ _) _
  have x0 : Blk W w1.heap.size #[.int .i64 x.id, .int .i64 x.t, .slice F1 x.f.length c1] 45 := by rw [hW]; exact Blk.new _ _ _
  have t2 := t1.below bW
  have r2 := r1.below bW
  have b2 := bthen b1 bW
  clear hW c6 c7 c8
  refine (merge_side (HB.out.below b2)).mono ?_
  rintro e w2 ⟨hb2, F2, c2, rfl, v1, v2, v3⟩
  have t3 := t2.below hb2
  have r3 := r2.below hb2
  have x1 := x0.below hb2
  have V3 := Lib.hid (RepL.keep (v3 (Bel w) (RepL.keep HB.out.o fun k hk => b2.block k hk)) fun k hk => hb2.block k (Nat.lt_of_lt_of_le hk b2.size))
  have b3 := bthen b2 hb2
  have U4 := Lib.hid (RepL.keep U3.out fun k hk => (bthen bW hb2).block k (Nat.lt_of_lt_of_le hk b1.size))
  have r1lt := r1.lt
  clear t2 r2 x0 b2 v3 U3 t1 r1
  generalize hyo : (obOf b id).getD default = y at V3 v1
  have hy5 : y.f.length ≤ 1000000000 := by
    subst hyo
    cases h : obOf b id with
    | none => exact Nat.zero_le _
    | some q => have := Mb.fields (obOf_mem h).1; simp; omega
  have zx := x1.lt
  have z3 := t3.lt
  have zr := r3.lt
  cases hxs : (obOf a id).isSome
  · have hx : obOf a id = none := by simpa using hxs
    have Hr := Lib.hid (show objM o a b id = (y, []) by simp [objM, hx, ← hyo])
    have T3 := Lib.hid t3
    have R3 := Lib.hid r3
    have X1 := Lib.hid x1
    clear t3 r3 x1 hx hxo hyo
    go_wp2_with fail
    refine nameC fun W hW => ?_
    have bW : Below w2.heap.size w2 W := by rw [hW]; exact balloc (Below.refl _ _) _
    have y0 : Blk W w2.heap.size #[.int .i64 y.id, .int .i64 y.t, .slice F2 y.f.length c2] 45 := by rw [hW]; exact Blk.new _ _ _
    have b4 := bthen b3 bW
    have V4 := Lib.hid (RepL.keep V3.out fun k hk => bW.block k (Nat.lt_of_lt_of_le hk b3.size))
    have r4 := R3.out.below bW
    have zW := bW.size
    have z4 := y0.lt
    clear hW
    refine (clone_Val (S := Bel w) v1 v2 V4.out (fun k hk => Nat.lt_of_lt_of_le hk b4.size) hy5).mono ?_
    rintro e w3 hcl
    obtain ⟨F, cF, rfl, hb3, f1, f2, f3⟩ := hcl.val
    have y1 := y0.below hb3
    have r5 := r4.below hb3
    have HF := Lib.hid f3
    have b5 := bthen b4 hb3
    clear hcl y0 r4 f3 b4
    obtain ⟨d0, d1, d2, e0, e1, e2⟩ := y1.three
    obtain ⟨g0, g1, g2, h0, h1, h2⟩ := r5.three
    have zy := y1.lt
    have zr5 := r5.lt
    clear y1 r5
    go_wp2_with fail
    refine bodyPost_ret (v := .tuple #[.agg #[.int .i64 y.id, .int .i64 y.t, .slice F y.f.length cF], .slice none 0 0]) (by simp [results, Tryz.results46, go_sem, *]) rfl ?_
    have kf : Kp (fun k => w.heap.size + 1 + 1 ≤ k ∧ k ≠ w2.heap.size ∨ k < w.heap.size) w3 ((((w3.setCell ⟨w2.heap.size, 2, none⟩ (.slice F y.f.length cF)).setCell ⟨w.heap.size + 1, 0, none⟩ (.int .i64 y.id)).setCell ⟨w.heap.size + 1, 1, none⟩ (.int .i64 y.t)).setCell ⟨w.heap.size + 1, 2, none⟩ (.slice F y.f.length cF)) :=
      ((Kp.refl _ _).setCell (by simp; omega) _).trans ((set3 _ _ _ _ _).mono fun k hk => by omega)
    refine ⟨b5.trans (kf.below fun k hk => .inr hk), ?_⟩
    rw [Hr.out]
    exact ⟨F, cF, none, 0, rfl, f1, f2, (RepL.keep HF.out fun k hk => kf.block k (.inl ⟨by omega, by omega⟩)).mono fun k hk => ⟨by omega, Nat.lt_of_lt_of_le hk.2 kf.size⟩, Nat.zero_le _, Nat.zero_le _, RepL.nil⟩
  · obtain ⟨x', hx⟩ : ∃ x', obOf a id = some x' := Option.isSome_iff_exists.1 hxs
    obtain rfl : x' = x := by rw [hx] at hxo; exact hxo
    have hx5 := Ma.fields (obOf_mem hx).1
    cases hys : (obOf b id).isSome
    · have hy : obOf b id = none := by simpa using hys
      have Hr := Lib.hid (show objM o a b id = (x', []) by simp [objM, hx, hy])
      have T3 := Lib.hid t3
      have R3 := Lib.hid r3
      have X1 := Lib.hid x1
      obtain ⟨s0, s1, s2, -⟩ := x1.three
      clear t3 r3 x1 hx hy hxo hyo
      go_wp2_with fail
      refine nameC fun W hW => ?_
      have bW : Below w2.heap.size w2 W := by rw [hW]; exact balloc (Below.refl _ _) _
      have b4 := bthen b3 bW
      have U5 := Lib.hid (RepL.keep U4.out fun k hk => bW.block k (Nat.lt_of_lt_of_le hk b3.size))
      have x4 := X1.out.below bW
      have r4 := R3.out.below bW
      have zW := bW.size
      clear hW s0 s1 s2
      refine (clone_Val (S := Bel w) u1 u2 U5.out (fun k hk => Nat.lt_of_lt_of_le hk b4.size) (by omega)).mono ?_
      rintro e w3 hcl
      obtain ⟨F, cF, rfl, hb3, f1, f2, f3⟩ := hcl.val
      have x5 := x4.below hb3
      have r5 := r4.below hb3
      have HF := Lib.hid f3
      have b5 := bthen b4 hb3
      clear hcl x4 r4 f3 b4
      obtain ⟨d0, d1, d2, e0, e1, e2⟩ := x5.three
      obtain ⟨g0, g1, g2, h0, h1, h2⟩ := r5.three
      have zy := x5.lt
      have zr5 := r5.lt
      have zx1 := r1lt
      clear x5 r5
      go_wp2_with fail
      refine bodyPost_ret (v := .tuple #[.agg #[.int .i64 x'.id, .int .i64 x'.t, .slice F x'.f.length cF], .slice none 0 0]) (by simp [results, Tryz.results46, go_sem, *]) rfl ?_
      have kf : Kp (fun k => w.heap.size + 1 + 1 ≤ k ∧ k ≠ w1.heap.size ∨ k < w.heap.size) w3 ((((w3.setCell ⟨w1.heap.size, 2, none⟩ (.slice F x'.f.length cF)).setCell ⟨w.heap.size + 1, 0, none⟩ (.int .i64 x'.id)).setCell ⟨w.heap.size + 1, 1, none⟩ (.int .i64 x'.t)).setCell ⟨w.heap.size + 1, 2, none⟩ (.slice F x'.f.length cF)) :=
        ((Kp.refl _ _).setCell (by simp; omega) _).trans ((set3 _ _ _ _ _).mono fun k hk => by omega)
      refine ⟨b5.trans (kf.below fun k hk => .inr hk), ?_⟩
      rw [Hr.out]
      exact ⟨F, cF, none, 0, rfl, f1, f2, (RepL.keep HF.out fun k hk => kf.block k (.inl ⟨by omega, by omega⟩)).mono fun k hk => ⟨by omega, Nat.lt_of_lt_of_le hk.2 kf.size⟩, Nat.zero_le _, Nat.zero_le _, RepL.nil⟩
    · obtain ⟨y', hy⟩ : ∃ y', obOf b id = some y' := Option.isSome_iff_exists.1 hys
      obtain rfl : y' = y := by rw [hy] at hyo; exact hyo
      have hxy := Hab.out _ _ hx hy
      have T3 := Lib.hid t3
      have R3 := Lib.hid r3
      have X1 := Lib.hid x1
      have c0 := t3.cell (j := 0) rfl
      have c1' := t3.cell (j := 1) rfl
      have c2' := t3.cell (j := 2) rfl
      have Hx := Lib.hid hx
      have Hy := Lib.hid hy
      have Hxy := Lib.hid hxy
      clear t3 r3 x1 hxo hyo hx hy hxy
      go_wp2_with fail
      refine nameC fun W hW => ?_
      have bW : Below w2.heap.size w2 W := by rw [hW]; exact balloc (Below.refl _ _) _
      have y0 : Blk W w2.heap.size #[.int .i64 y'.id, .int .i64 y'.t, .slice F2 y'.f.length c2] 45 := by rw [hW]; exact Blk.new _ _ _
      have b4 := bthen b3 bW
      clear hW c0 c1' c2'
      refine (merge_side (HO.out.below b4)).mono ?_
      rintro e w3 ⟨hb3, F3, c3, rfl, p1, p2, p3⟩
      have P3 := Lib.hid (RepL.keep (p3 (Bel w) (RepL.keep HO.out.o fun k hk => b4.block k hk)) fun k hk => hb3.block k (Nat.lt_of_lt_of_le hk b4.size))
      have b23 := bthen bW hb3
      have y1 := y0.below hb3
      have x2 := X1.out.below b23
      have r4 := R3.out.below b23
      have b5 := bthen b4 hb3
      have U5 := Lib.hid (RepL.keep U4.out fun k hk => b23.block k (Nat.lt_of_lt_of_le hk b3.size))
      have V5 := Lib.hid (RepL.keep V3.out fun k hk => b23.block k (Nat.lt_of_lt_of_le hk b3.size))
      have z23 : w2.heap.size < w3.heap.size := y1.lt
      clear y0 b4 p3 T3 R3 X1 U4 V3 hb3
      generalize hzo : (obOf o id).getD default = z at P3 p1
      obtain ⟨s0, s1, s2, -⟩ := x2.three
      have zx3 := x2.lt
      have R4 := Lib.hid r4
      have X2 := Lib.hid x2
      have Y1 := Lib.hid y1
      clear x2 y1 r4
      go_wp2_with fail
      refine nameC fun W2 hW => ?_
      have bW2 : Below w3.heap.size w3 W2 := by rw [hW]; exact balloc (Below.refl _ _) _
      have z0 : Blk W2 w3.heap.size #[.int .i64 z.id, .int .i64 z.t, .slice F3 z.f.length c3] 45 := by rw [hW]; exact Blk.new _ _ _
      have b6 := bthen b5 bW2
      have U6 := Lib.hid (RepL.keep U5.out fun k hk => bW2.block k (Nat.lt_of_lt_of_le hk b5.size))
      clear hW s0 s1 s2
      refine (clone_Val (S := Bel w) u1 u2 U6.out (fun k hk => Nat.lt_of_lt_of_le hk b6.size) (by omega)).mono ?_
      rintro e w4 ⟨vF, rfl, hb4, own⟩
      have b34 := bthen bW2 hb4
      have x3 := X2.out.below b34
      have y2 := Y1.out.below b34
      have z1' := z0.below hb4
      have r5 := R4.out.below b34
      have b7 := bthen b6 hb4
      have V7 := Lib.hid (RepL.keep V5.out fun k hk => b34.block k (Nat.lt_of_lt_of_le hk b5.size))
      have P7 := Lib.hid (RepL.keep P3.out fun k hk => b34.block k (Nat.lt_of_lt_of_le hk b5.size))
      have own' := own.flatV
      obtain ⟨F, cF, rfl, f1, f2, f3⟩ := own'.read (Nat.succ_pos _) (fun _ h => h.elim)
      have Own := Lib.hid own'
      clear own' f3
      have z34 := bW2.size
      have z3W : w3.heap.size < W2.heap.size := z0.lt
      have z4W := hb4.size
      clear z0 X2 Y1 R4 U5 U6 V5 P3 b6 hb4 own bW2
      obtain ⟨d0, d1, d2, e0, e1, e2⟩ := x3.three
      have zx4 := x3.lt
      have X3 := Lib.hid x3
      have Y2 := Lib.hid y2
      have Z1 := Lib.hid z1'
      have R5 := Lib.hid r5
      clear x3 y2 z1' r5
      go_wp2_with fail
      refine nameW fun WL hW => ?_
      have kL : Kp (fun k => k ≠ w1.heap.size) w4 WL := by rw [hW]; exact (Kp.refl _ _).setCell (fun h => h rfl) _
      have xL : Blk WL w1.heap.size #[.int .i64 x'.id, .int .i64 x'.t, .slice F x'.f.length cF] 45 := by rw [hW]; exact X3.out.set 2 _
      clear hW d0 d1 d2 e0 e1 e2
      have yL := Y2.out.kp kL (by omega)
      have zL := Z1.out.kp kL (by omega)
      have rL := R5.out.kp kL (by omega)
      have hF : ∀ k, (Value.slice F x'.f.length cF).ownBlock = some k → W2.heap.size ≤ k ∧ k < WL.heap.size := fun k hk => ⟨(Own.out.base_le k hk).1, Nat.lt_of_lt_of_le (Own.out.base_le k hk).2 kL.size⟩
      have ownL : OwnL (fun _ => False) WL W2.heap.size 47 (.slice F x'.f.length cF) x'.f := Own.out.kp kL (fun k hk => by have := (Own.out.base_le k hk).1; omega) (fun _ h => h.elim)
      have bL : Below w.heap.size w WL := b7.trans (kL.below fun k hk => by omega)
      have V8 := Lib.hid (RepL.keep V7.out fun k hk => kL.block k (by omega))
      have P8 := Lib.hid (RepL.keep P7.out fun k hk => kL.block k (by omega))
      have OwnL' := Lib.hid ownL
      have HF := Lib.hid hF
      have XL := Lib.hid xL
      have YL := Lib.hid yL
      have ZL := Lib.hid zL
      have RL := Lib.hid rL
      have BL := Lib.hid bL
      have zy := yL.lt
      have zz := zL.lt
      have z4L := kL.size
      clear ownL hF xL yL zL rL bL Own X3 Y2 Z1 R5 V7 P7 b7 kL
      cases hzs : (obOf o id).isSome
      · have Hz := Lib.hid (show obOf o id = none by simpa using hzs)
        clear hzs hzo
        go_loopw [12, 60] (fun c i wr => MRel W2.heap.size WL none x'.f y'.f (.slice F x'.f.length cF) c i wr) (fun _ i _ => x'.f.length - (intOf i).toNat)
        case atStart => exact ⟨0, Nat.zero_le _, rfl, Below.refl _ _, Nat.le_refl _, by rw [mRow_zero]; exact OwnL'.out, OwnL.nil⟩
        case round =>
          obtain ⟨j, hj, rfl, kb, ksz, ownR, ownC⟩ := hrel
          have Kb := Lib.hid kb
          have OwnR := Lib.hid ownR
          have OwnC := Lib.hid ownC
          clear kb ownR ownC
          by_cases hlt : j < x'.f.length
          · have hlt2 : j < y'.f.length := by have := Hxy.out; omega
            obtain ⟨g, rfl⟩ := OwnR.out.addr (by rw [mRow_len (by omega)]; omega)
            have hrl : (mRow none x'.f y'.f j).length = x'.f.length := mRow_len (by omega)
            have ownR2 : OwnL (fun _ => False) wr W2.heap.size 47 (.slice (some ⟨g, 0, none⟩) (mRow none x'.f y'.f j).length cF) (mRow none x'.f y'.f j) := by rw [hrl]; exact OwnR.out
            have hat := ownR2.vlAt j (by rw [hrl]; omega)
            rw [mRow_get hlt] at hat
            have bwr : Below w.heap.size w wr := BL.out.trans (Kb.out.mono (by omega))
            obtain ⟨bu, offu, rfl, _, _, hus⟩ := (RepL.keep V8.out fun k hk => Kb.out.block k (by omega)).vl (by intro e; simp [e] at hlt2)
            have Hcl := Lib.hid (mClash_snoc none x'.f y'.f j)
            have Hm := Lib.hid (show mAt none x'.f y'.f j = (x'.f[j], decide (x'.f[j] = y'.f[j])) by simp [mAt, List.getD_eq_getElem?_getD, hlt, hlt2])
            have Hrow := Lib.hid (mRow_none (ys := y'.f) hlt)
            replace hus := hus j hlt2
            generalize x'.f[j] = p at hat Hm
            generalize y'.f[j] = q at hus Hm
            obtain ⟨v0, v1, v2, -⟩ := hat
            obtain ⟨t0, t1, t2, -⟩ := hus
            have hj0 : (0 : Int) ≤ (j : Int) := Int.natCast_nonneg _
            have hj1 : (j : Int) < (x'.f.length : Int) := by omega
            have hj2 : (j : Int) < (y'.f.length : Int) := by omega
            have yw := YL.out.keep (Kb.out.block _ (by omega))
            obtain ⟨s0, s1, s2, -⟩ := yw.three
            have zyw := yw.lt
            have eqv := fun (d : Nat) (w : World) => eqVl d w p q
            clear yw ownR2 hrl
            have hcl5 : (mClash none x'.f y'.f j).length ≤ 5 := Nat.le_trans (mClash_len _ _ _ _) (by omega)
            go_wp2_with fail
            go_quiet (fail)
            refine nameE fun W5 hW => ?_
            have b5 : Below wr.heap.size wr W5 := by rw [hW]; exact pw_below_drewN (balloc (Below.refl _ _) _) _
            have k5 := Kb.out.trans (b5.mono (B' := W2.heap.size) (by omega))
            have ownR5 := Lib.hid (OwnR.out.below b5 (Nat.le_refl _) (fun _ h => h.elim))
            have ownC5 := Lib.hid (OwnC.out.below b5 (Nat.le_refl _) (fun _ h => h.elim))
            have sz5 := b5.size
            clear hW v0 v1 v2 t0 t1 t2 s0 s1 s2 zyw
            rcases Bool.eq_false_or_eq_true (decide (p = q)) with hpq | hpq
            · have Hc := Lib.hid (show mClash none x'.f y'.f (j + 1) = mClash none x'.f y'.f j by rw [Hcl.out, Hm.out, hpq]; simp)
              go_wp2_with fail
              go_roundw
              case rel => exact ⟨j + 1, by omega, by go_num, k5, by omega, by rw [Hrow.out]; exact ownR5.out, by rw [Hc.out]; exact ownC5.out⟩
              case measure => simp [intOf]; omega
            · have Hc := Lib.hid (show mClash none x'.f y'.f (j + 1) = mClash none x'.f y'.f j ++ [(j : Int)] by rw [Hcl.out, Hm.out, hpq]; simp)
              have hWL : W2.heap.size ≤ WL.heap.size := by omega
              go_wp2_with (at_builtin; refine wpList_append_L (α := Int) (S := fun _ => False) (S' := fun _ => False) (us := [.int .i64 j]) (y := (j : Int)) (v := u12) rfl _ _ _ rfl Tryz.underlying26 infI szI rfl (ownC5.out.below (balloc (Below.refl _ _) _) (Nat.le_refl _) (fun _ h => h.elim)) rfl (Blk.new' (by simp) _ _) (by simp [Value.oneCell']) rfl (fun _ h => h) (fun _ h => h.elim) (by unfold maxLen; omega) (by omega) (by simp; omega) ?_; intro gg cap w6 own6 hg6 hat6 hlt6)
              go_roundw
              case rel =>
                have hz6 := hg6.size
                simp at hz6
                refine ⟨j + 1, by omega, by go_num, ?_, by omega, ?_, by rw [Hc.out]; exact own6⟩
                · exact (k5.alloc (by omega) _).grown hg6 (by simp; omega) (fun k hk => by have := (ownC5.out.base_le k hk).1; omega)
                · rw [Hrow.out]
                  refine (ownR5.out.below (balloc (Below.refl _ _) _) (Nat.le_refl _) (fun _ h => h.elim)).grown hg6 (.inr fun e => ?_) (fun _ h => h.elim)
                  have h1 := (HF.out g rfl).2
                  have h2 := (ownC5.out.base_le g (by rw [← e]; rfl)).1
                  omega
              case measure => simp [intOf]; omega
          · have hjn : j = x'.f.length := by omega
            have Hr := Lib.hid (show objM o a b id = ({ x' with f := mF none x'.f y'.f }, mClash none x'.f y'.f x'.f.length) by simp [objM, Hx.out, Hy.out, Hz.out])
            have OwnR2 := Lib.hid (show OwnL (fun _ => False) wr W2.heap.size 47 (.slice F x'.f.length cF) (mF none x'.f y'.f) by have h1 := OwnR.out; rw [hjn, mRow_end] at h1; exact h1)
            have OwnC2 := Lib.hid (show OwnL (fun _ => False) wr WL.heap.size 3 u12 (mClash none x'.f y'.f x'.f.length) by have h1 := OwnC.out; rw [hjn] at h1; exact h1)
            clear hjn OwnR OwnC
            have hlen : (mF none x'.f y'.f).length = x'.f.length := by simp [mF]
            obtain ⟨A9, c9, rfl, w1', w2', w3'⟩ := OwnC2.out.read szI (fun _ h => h.elim)
            have hRR := OwnR2.out.read (Nat.succ_pos _) (fun _ h => h.elim)
            obtain ⟨A8, c8, he8, y1', y2', y3'⟩ := hRR
            simp only [Value.slice.injEq] at he8
            obtain ⟨rfl, -, rfl⟩ := he8
            have W3 := Lib.hid w3'
            have Y3 := Lib.hid y3'
            have Hlen := Lib.hid hlen
            have xw := XL.out.keep (Kb.out.block _ (by omega))
            have rw' := RL.out.keep (Kb.out.block _ (by omega))
            obtain ⟨s0, s1, s2, -⟩ := xw.three
            obtain ⟨g0, g1, g2, h0, h1, h2⟩ := rw'.three
            have zx9 := xw.lt
            have zr9 := rw'.lt
            have bwr : Below w.heap.size w wr := BL.out.trans (Kb.out.mono (by omega))
            have BWR := Lib.hid bwr
            clear xw rw' w3' y3' hlen bwr
            go_wp2_with fail
            refine bodyPost_ret (v := .tuple #[.agg #[.int .i64 x'.id, .int .i64 x'.t, .slice F x'.f.length cF], .slice A9 (mClash none x'.f y'.f x'.f.length).length c9]) (by simp [results, Tryz.results46, go_sem, *]) rfl ?_
            have kf := set3 wr (w.heap.size + 1) (.int .i64 x'.id) (.int .i64 x'.t) (.slice F x'.f.length cF)
            refine ⟨BWR.out.trans (kf.below (B := w.heap.size) fun k hk => by omega), ?_⟩
            rw [Hr.out]
            exact ⟨F, cF, A9, c9, by rw [Hlen.out], y1', y2', (RepL.keep Y3.out fun k hk => kf.block k (by rcases hk.2 with h | h; omega; exact h.elim)).mono fun k hk => ⟨by rcases hk.2 with h | h; omega; exact h.elim, Nat.lt_of_lt_of_le hk.1 kf.size⟩, w1', w2',
              (RepL.keep W3.out fun k hk => kf.block k (by rcases hk.2 with h | h; omega; exact h.elim)).mono fun k hk => ⟨by rcases hk.2 with h | h; omega; exact h.elim, Nat.lt_of_lt_of_le hk.1 kf.size⟩⟩
      · obtain ⟨z', hz⟩ : ∃ z', obOf o id = some z' := Option.isSome_iff_exists.1 hzs
        obtain rfl : z' = z := by rw [hz] at hzo; exact hzo
        have hxz := Hao.out _ _ Hx.out hz
        have Hz := Lib.hid hz
        have Hxz := Lib.hid hxz
        clear hzs hzo hz hxz
        go_loopw [12, 60] (fun c i wr => MRel W2.heap.size WL (some z'.f) x'.f y'.f (.slice F x'.f.length cF) c i wr) (fun _ i _ => x'.f.length - (intOf i).toNat)
        case atStart => exact ⟨0, Nat.zero_le _, rfl, Below.refl _ _, Nat.le_refl _, by rw [mRow_zero]; exact OwnL'.out, OwnL.nil⟩
        case round =>
          obtain ⟨j, hj, rfl, kb, ksz, ownR, ownC⟩ := hrel
          have Kb := Lib.hid kb
          have OwnR := Lib.hid ownR
          have OwnC := Lib.hid ownC
          clear kb ownR ownC
          by_cases hlt : j < x'.f.length
          · have hlt2 : j < y'.f.length := by have := Hxy.out; omega
            have hlt3 : j < z'.f.length := by have := Hxz.out; omega
            obtain ⟨g, rfl⟩ := OwnR.out.addr (by rw [mRow_len (by omega)]; omega)
            have hrl : (mRow (some z'.f) x'.f y'.f j).length = x'.f.length := mRow_len (by omega)
            have Hrl := Lib.hid hrl
            have ownR2 : OwnL (fun _ => False) wr W2.heap.size 47 (.slice (some ⟨g, 0, none⟩) (mRow (some z'.f) x'.f y'.f j).length cF) (mRow (some z'.f) x'.f y'.f j) := by rw [hrl]; exact OwnR.out
            have hat := ownR2.vlAt j (by rw [hrl]; omega)
            rw [mRow_get hlt] at hat
            have hgg := HF.out g rfl
            have bwr : Below w.heap.size w wr := BL.out.trans (Kb.out.mono (by omega))
            obtain ⟨bu, offu, rfl, hbu, _, hus⟩ := (RepL.keep V8.out fun k hk => Kb.out.block k (by omega)).vl (by intro e; simp [e] at hlt2)
            obtain ⟨bq, offq, rfl, hbq, _, hqs⟩ := (RepL.keep P8.out fun k hk => Kb.out.block k (by omega)).vl (by intro e; simp [e] at hlt3)
            have Hcl := Lib.hid (mClash_snoc (some z'.f) x'.f y'.f j)
            have Hm := Lib.hid (show mAt (some z'.f) x'.f y'.f j = stands z'.f[j] x'.f[j] y'.f[j] by simp [mAt, List.getD_eq_getElem?_getD, hlt, hlt2, hlt3])
            have Hrow := Lib.hid (mRow_set (zs := some z'.f) (ys := y'.f) hlt)
            have hns : (stands z'.f[j] x'.f[j] y'.f[j]).1.s.size ≤ maxLen := by
              unfold stands
              split
              · exact (hus j hlt2).2.2.2
              · exact ownR2.row.2 _ (by rw [← mRow_get (zs := some z'.f) (ys := y'.f) hlt]; exact List.getElem_mem _)
            have Hns := Lib.hid hns
            replace hus := hus j hlt2
            replace hqs := hqs j hlt3
            clear hns hrl ownR2
            generalize x'.f[j] = p at hat Hm Hns
            generalize y'.f[j] = q at hus Hm Hns
            generalize z'.f[j] = r at hqs Hm Hns
            obtain ⟨v0, v1, v2, -⟩ := hat
            obtain ⟨t0, t1, t2, -⟩ := hus
            obtain ⟨n0, n1, n2, -⟩ := hqs
            have hj0 : (0 : Int) ≤ (j : Int) := Int.natCast_nonneg _
            have hj1 : (j : Int) < (x'.f.length : Int) := by omega
            have hj2 : (j : Int) < (y'.f.length : Int) := by omega
            have hj3 : (j : Int) < (z'.f.length : Int) := by omega
            have yw := YL.out.keep (Kb.out.block _ (by omega))
            obtain ⟨s0, s1, s2, -⟩ := yw.three
            have zyw := yw.lt
            have eqv := fun (d : Nat) (w : World) => eqVl d w p q
            clear yw
            have hcl5 : (mClash (some z'.f) x'.f y'.f j).length ≤ 5 := Nat.le_trans (mClash_len _ _ _ _) (by omega)
            go_wp2_with fail
            go_quiet (fail)
            refine nameE fun W5 hW => ?_
            have b5 : Below wr.heap.size wr W5 := by rw [hW]; exact pw_below_drewN (balloc (Below.refl _ _) _) _
            have vb : Blk W5 wr.heap.size #[.int .i64 p.n, .string p.s, .int .i64 p.r] 47 := by rw [hW]; exact Blk.drewN (Blk.new _ _ _) _
            have k5 := Kb.out.trans (b5.mono (B' := W2.heap.size) (by omega))
            have ownR5 := Lib.hid (OwnR.out.below b5 (Nat.le_refl _) (fun _ h => h.elim))
            have ownC5 := Lib.hid (OwnC.out.below b5 (Nat.le_refl _) (fun _ h => h.elim))
            have sz5 := b5.size
            replace t0 := keep1 b5 t0
            replace t1 := keep1 b5 t1
            replace t2 := keep1 b5 t2
            replace n0 := keep1 b5 n0
            replace n1 := keep1 b5 n1
            replace n2 := keep1 b5 n2
            clear hW v0 v1 v2 s0 s1 s2 zyw eqv
            have y5 := YL.out.keep (k5.block _ (by omega))
            have x5 := XL.out.keep (k5.block _ (by omega))
            have z5 := ZL.out.keep (k5.block _ (by omega))
            have s2 := y5.cell (j := 2) rfl
            have m2 := x5.cell (j := 2) rfl
            have l2 := z5.cell (j := 2) rfl
            obtain ⟨o0, o1, o2, -⟩ := vb.three
            have zvb := vb.lt
            clear x5 y5 z5 vb
            have hne1 : w1.heap.size ≠ g := by omega
            have hne2 : w2.heap.size ≠ g := by omega
            have hne3 : w3.heap.size ≠ g := by omega
            have hne4 : wr.heap.size ≠ g := by omega
            have hne5 : bu ≠ g := by omega
            have hne6 : bq ≠ g := by omega
            have hjg : (Value.slice (some ⟨g, 0, none⟩) x'.f.length cF).ownBlock = some g := rfl
            have hb0 : Below W5.heap.size W5 W5.drew := (Below.refl _ _).drew
            go_wp2_with fail
            go_region_held3 (fun w' => w'.cell? ⟨w1.heap.size, 2, none⟩ = some (.slice (some ⟨g, 0, none⟩) x'.f.length cF) ∧ w'.cell? ⟨w3.heap.size, 2, none⟩ = some (.slice (some ⟨bq, offq, none⟩) z'.f.length c3) ∧
                w'.cell? ⟨bq, offq + j * 3, none⟩ = some (.int .i64 r.n) ∧ w'.cell? ⟨bq, offq + j * 3 + 1, none⟩ = some (.string r.s) ∧ w'.cell? ⟨bq, offq + j * 3 + 2, none⟩ = some (.int .i64 r.r) ∧
                w'.cell? ⟨wr.heap.size, 0, none⟩ = some (.int .i64 p.n) ∧ w'.cell? ⟨wr.heap.size, 1, none⟩ = some (.string p.s) ∧ w'.cell? ⟨wr.heap.size, 2, none⟩ = some (.int .i64 p.r) ∧
                w'.cell? ⟨w2.heap.size, 2, none⟩ = some (.slice (some ⟨bu, offu, none⟩) y'.f.length c2) ∧
                w'.cell? ⟨bu, offu + j * 3, none⟩ = some (.int .i64 q.n) ∧ w'.cell? ⟨bu, offu + j * 3 + 1, none⟩ = some (.string q.s) ∧ w'.cell? ⟨bu, offu + j * 3 + 2, none⟩ = some (.int .i64 q.r))
              (first | exact ⟨m2, l2, n0, n1, n2, o0, o1, o2, s2, t0, t1, t2⟩ | exact ⟨keep1 hb6 m2, keep1 hb6 l2, keep1 hb6 n0, keep1 hb6 n1, keep1 hb6 n2, keep1 hb6 o0, keep1 hb6 o1, keep1 hb6 o2, keep1 hb6 s2, keep1 hb6 t0, keep1 hb6 t1, keep1 hb6 t2⟩ | exact ⟨cell_set3 (keep1 hb6 m2) hne1, cell_set3 (keep1 hb6 l2) hne3, cell_set3 (keep1 hb6 n0) hne6, cell_set3 (keep1 hb6 n1) hne6, cell_set3 (keep1 hb6 n2) hne6, cell_set3 (keep1 hb6 o0) hne4, cell_set3 (keep1 hb6 o1) hne4, cell_set3 (keep1 hb6 o2) hne4, cell_set3 (keep1 hb6 s2) hne2, cell_set3 (keep1 hb6 t0) hne5, cell_set3 (keep1 hb6 t1) hne5, cell_set3 (keep1 hb6 t2) hne5⟩)
              (first | (go_at_call 72; refine (stands_Val (o := r) (a := p) (b := q)).mono ?_; rintro e w6 ⟨rfl, hb6'⟩; have hb6 := below_drew hb6'; have ownR6 := ownR5.out.below hb6 (Nat.le_refl _) (fun _ h => h.elim); have hat6 := OwnL.vlAt (l := mRow (some z'.f) x'.f y'.f j) (by rw [Hrl.out]; exact ownR6) j (by rw [Hrl.out]; exact hlt); obtain ⟨aa0, aa1, aa2, ff0, ff1, ff2⟩ := hat6; have OwnR6 := Lib.hid ownR6; clear ownR6))
            refine nameE fun W7 hW => ?_
            have row7 := OwnL.vlSet (l := mRow (some z'.f) x'.f y'.f j) (by rw [Hrl.out]; exact OwnR6.out) j (by rw [Hrl.out]; exact hlt) (stands r p q).1 Hns.out
            rw [Hrl.out, ← hW, ← congrArg Prod.fst Hm.out, Hrow.out] at row7
            have ownR7 := Lib.hid row7
            have k6 : Kp (fun k => k ≠ g) w6 W7 := by rw [hW]; exact (((Kp.refl _ _).setCell (fun h => h rfl) _).setCell (fun h => h rfl) _).setCell (fun h => h rfl) _
            have c6 := ownC5.out.below hb6 (Nat.le_refl _) (fun _ h => h.elim)
            have ownC7 := Lib.hid (c6.kp k6 (fun k hk => by have := (c6.base_le k hk).1; omega) (fun _ h => h.elim))
            have k7 : Below W2.heap.size WL W7 := (k5.trans (hb6.mono (by omega))).trans (k6.below (fun k hk => by omega))
            have sz7 : WL.heap.size ≤ W7.heap.size := k7.size
            clear hW row7 c6 k6 aa0 aa1 aa2 ff0 ff1 ff2 m2 l2 n0 n1 n2 o0 o1 o2 s2 t0 t1 t2 OwnR6
            rcases Bool.eq_false_or_eq_true (stands r p q).2 with hpq | hpq
            · have Hc := Lib.hid (show mClash (some z'.f) x'.f y'.f (j + 1) = mClash (some z'.f) x'.f y'.f j by rw [Hcl.out, Hm.out, hpq]; simp)
              go_wp2_with fail
              go_roundw
              case rel => exact ⟨j + 1, by omega, by go_num, k7, by omega, ownR7.out, by rw [Hc.out]; exact ownC7.out⟩
              case measure => simp [intOf]; omega
            · have Hc := Lib.hid (show mClash (some z'.f) x'.f y'.f (j + 1) = mClash (some z'.f) x'.f y'.f j ++ [(j : Int)] by rw [Hcl.out, Hm.out, hpq]; simp)
              have hWL : W2.heap.size ≤ WL.heap.size := by omega
              go_wp2_with (at_builtin; refine wpList_append_L (α := Int) (S := fun _ => False) (S' := fun _ => False) (us := [.int .i64 j]) (y := (j : Int)) (v := u12) rfl _ _ _ rfl Tryz.underlying26 infI szI rfl (ownC7.out.below (balloc (Below.refl _ _) _) (Nat.le_refl _) (fun _ h => h.elim)) rfl (Blk.new' (by simp) _ _) (by simp [Value.oneCell']) rfl (fun _ h => h) (fun _ h => h.elim) (by unfold maxLen; omega) (by omega) (by simp; omega) ?_; intro gg cap w8 own8 hg8 hat8 hlt8)
              go_roundw
              case rel =>
                have hz8 := hg8.size
                simp at hz8
                refine ⟨j + 1, by omega, by go_num, ?_, by omega, ?_, by rw [Hc.out]; exact own8⟩
                · exact (k7.alloc (by omega) _).grown hg8 (by simp; omega) (fun k hk => by have := (ownC7.out.base_le k hk).1; omega)
                · refine (ownR7.out.below (balloc (Below.refl _ _) _) (Nat.le_refl _) (fun _ h => h.elim)).grown hg8 (.inr fun e => ?_) (fun _ h => h.elim)
                  have h2 := (ownC7.out.base_le g (by rw [← e]; rfl)).1
                  omega
              case measure => simp [intOf]; omega
          · have hjn : j = x'.f.length := by omega
            have Hr := Lib.hid (show objM o a b id = ({ x' with f := mF (some z'.f) x'.f y'.f }, mClash (some z'.f) x'.f y'.f x'.f.length) by simp [objM, Hx.out, Hy.out, Hz.out])
            have OwnR2 := Lib.hid (show OwnL (fun _ => False) wr W2.heap.size 47 (.slice F x'.f.length cF) (mF (some z'.f) x'.f y'.f) by have h1 := OwnR.out; rw [hjn, mRow_end] at h1; exact h1)
            have OwnC2 := Lib.hid (show OwnL (fun _ => False) wr WL.heap.size 3 u12 (mClash (some z'.f) x'.f y'.f x'.f.length) by have h1 := OwnC.out; rw [hjn] at h1; exact h1)
            clear hjn OwnR OwnC
            have hlen : (mF (some z'.f) x'.f y'.f).length = x'.f.length := by simp [mF]
            obtain ⟨A9, c9, rfl, w1', w2', w3'⟩ := OwnC2.out.read szI (fun _ h => h.elim)
            have hRR := OwnR2.out.read (Nat.succ_pos _) (fun _ h => h.elim)
            obtain ⟨A8, c8, he8, y1', y2', y3'⟩ := hRR
            simp only [Value.slice.injEq] at he8
            obtain ⟨rfl, -, rfl⟩ := he8
            have W3 := Lib.hid w3'
            have Y3 := Lib.hid y3'
            have Hlen := Lib.hid hlen
            have xw := XL.out.keep (Kb.out.block _ (by omega))
            have rw' := RL.out.keep (Kb.out.block _ (by omega))
            obtain ⟨s0, s1, s2, -⟩ := xw.three
            obtain ⟨g0, g1, g2, h0, h1, h2⟩ := rw'.three
            have zx9 := xw.lt
            have zr9 := rw'.lt
            have bwr : Below w.heap.size w wr := BL.out.trans (Kb.out.mono (by omega))
            have BWR := Lib.hid bwr
            clear xw rw' w3' y3' hlen bwr
            go_wp2_with fail
            refine bodyPost_ret (v := .tuple #[.agg #[.int .i64 x'.id, .int .i64 x'.t, .slice F x'.f.length cF], .slice A9 (mClash (some z'.f) x'.f y'.f x'.f.length).length c9]) (by simp [results, Tryz.results46, go_sem, *]) rfl ?_
            have kf := set3 wr (w.heap.size + 1) (.int .i64 x'.id) (.int .i64 x'.t) (.slice F x'.f.length cF)
            refine ⟨BWR.out.trans (kf.below (B := w.heap.size) fun k hk => by omega), ?_⟩
            rw [Hr.out]
            exact ⟨F, cF, A9, c9, by rw [Hlen.out], y1', y2', (RepL.keep Y3.out fun k hk => kf.block k (by rcases hk.2 with h | h; omega; exact h.elim)).mono fun k hk => ⟨by rcases hk.2 with h | h; omega; exact h.elim, Nat.lt_of_lt_of_le hk.1 kf.size⟩, w1', w2',
              (RepL.keep W3.out fun k hk => kf.block k (by rcases hk.2 with h | h; omega; exact h.elim)).mono fun k hk => ⟨by rcases hk.2 with h | h; omega; exact h.elim, Nat.lt_of_lt_of_le hk.1 kf.size⟩⟩
end
end Go.Proofs.YtgeegdnkheckcaaGreat
