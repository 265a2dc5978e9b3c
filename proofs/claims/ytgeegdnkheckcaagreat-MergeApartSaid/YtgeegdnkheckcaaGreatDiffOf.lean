/- The walk of diff.Of: what is another one in a graph than in another one. -/
import Derived.Test.YtgeegdnkheckcaaGreatDiff
set_option linter.unusedVariables false
namespace Go.Proofs.YtgeegdnkheckcaaGreat
open Lay (rep)
open Go.RowKit

/-! ### What a graph that may be is like. -/
theorem allFrom_get {α : Type} {p : Nat → α → Bool} : ∀ {l : List α} {k : Nat}, allFrom p k l = true → ∀ j (h : j < l.length), p (k + j) l[j] = true
  | x :: l, k, h, 0, _ => by simp only [allFrom, Bool.and_eq_true] at h; simpa using h.1
  | x :: l, k, h, j + 1, hj => by
    simp only [allFrom, Bool.and_eq_true] at h
    have := allFrom_get h.2 j (by simpa using hj)
    simpa [Nat.add_assoc, Nat.add_comm 1 j] using this
theorem chain_mem {g : Gr} : ∀ {l : List Ob} {last : Int}, chain g last l = true → ∀ x ∈ l, ∃ la, objOk g la x = true
  | y :: l, last, h, x, hx => by
    simp only [chain, Bool.and_eq_true] at h
    rcases List.mem_cons.1 hx with rfl | hx
    · exact ⟨last, h.1⟩
    · exact chain_mem h.2 x hx
structure MayG (g : Gr) : Prop where
  sch : schMay g.s = true
  objs : g.o.length ≤ 8
  roots : g.roots.length ≤ 3
  ch : chain g (-1) g.o = true
  rootsOk : g.roots.any (oddRoot g.o) = false
theorem mayG {g : Gr} (h : grMay g = true) : MayG g := by
  simp only [grMay, Bool.and_eq_true, decide_eq_true_eq, Bool.not_eq_true'] at h
  exact ⟨h.1.1.1.1, h.1.1.1.2, h.1.1.2, h.1.2, h.2⟩
theorem MayG.obj {g : Gr} (h : MayG g) {x : Ob} (hx : x ∈ g.o) : 0 ≤ x.t ∧ x.t < g.s.length ∧ x.f.length = (fieldsOf g.s x.t).length := by
  obtain ⟨la, ho⟩ := chain_mem h.ch x hx
  simp only [objOk, Bool.and_eq_true, decide_eq_true_eq] at ho
  exact ⟨ho.1.1.1.2, ho.1.1.2, ho.1.2⟩
theorem MayG.fields {g : Gr} (h : MayG g) {x : Ob} (hx : x ∈ g.o) : x.f.length ≤ 5 := by
  obtain ⟨h0, h1, h2⟩ := h.obj hx
  have hs := h.sch
  simp only [schMay, Bool.and_eq_true] at hs
  have hj : x.t.toNat < g.s.length := by omega
  have := allFrom_get hs.2 x.t.toNat hj
  simp only [typOk, Bool.and_eq_true, decide_eq_true_eq] at this
  rw [h2]
  simpa [fieldsOf, List.getD_eq_getElem?_getD, hj] using this.1.2

/-! ### Pure -/
def setsFrom (id : Int) : Nat → List Vl → List Vl → List (Int × Int)
  | k, x :: xs, y :: ys => if x = y then setsFrom id (k + 1) xs ys else (id, (k : Int)) :: setsFrom id (k + 1) xs ys
  | _, _, _ => []
def newL (o : Gr) (l : List Ob) : List Int := (l.filter fun x => !(obOf o x.id).isSome).map (·.id)
def diffO (a : Gr) : List Ob → Option (List Int × List (Int × Int))
  | [] => some ([], [])
  | x :: l => match obOf a x.id with
    | none => (diffO a l).map fun p => (x.id :: p.1, p.2)
    | some y => if x.t = y.t then (diffO a l).map fun p => (p.1, setsFrom x.id 0 x.f y.f ++ p.2) else none
def rootsD (o a : Gr) : List Int := ((List.range (max o.roots.length a.roots.length)).filter fun i : Nat => rootAt o (i : Int) != rootAt a (i : Int)).map fun i : Nat => (i : Int)
/-- What changed, and the error. -/
def diffOf (o a : Gr) : Ch × Int :=
  if !(grMay o && grMay a) then (⟨[], [], [], []⟩, 1)
  else if o.s ≠ a.s then (⟨[], [], [], []⟩, 6)
  else match diffO a o.o with
    | none => (⟨[], [], [], []⟩, 6)
    | some p => (⟨newL o a.o, p.1, p.2, rootsD o a⟩, 0)

theorem obOf_mem {g : Gr} {id : Int} {y : Ob} (h : obOf g id = some y) : y ∈ g.o ∧ y.id = id :=
  ⟨List.mem_of_find?_eq_some h, by have := List.find?_some h; simpa using this⟩
theorem same_len {g h : Gr} (G : MayG g) (H : MayG h) (hs : g.s = h.s) {x y : Ob} (hx : x ∈ g.o) (hy : y ∈ h.o) (ht : x.t = y.t) : x.f.length = y.f.length := by
  rw [(G.obj hx).2.2, (H.obj hy).2.2, hs, ht]
theorem newL_snoc (o : Gr) (l : List Ob) (x : Ob) : newL o (l ++ [x]) = newL o l ++ (if (obOf o x.id).isSome then [] else [x.id]) := by
  unfold newL
  rw [List.filter_append, List.map_append]
  cases h : obOf o x.id <;> simp [h]
theorem newL_len (o : Gr) (l : List Ob) : (newL o l).length ≤ l.length := by
  unfold newL; rw [List.length_map]; exact List.length_filter_le _ _

theorem diffO_none {a : Gr} {x : Ob} {l : List Ob} (h : obOf a x.id = none) : diffO a (x :: l) = (diffO a l).map fun p => (x.id :: p.1, p.2) := by simp [diffO, h]
theorem diffO_some {a : Gr} {x y : Ob} {l : List Ob} (h : obOf a x.id = some y) (ht : x.t = y.t) : diffO a (x :: l) = (diffO a l).map fun p => (p.1, setsFrom x.id 0 x.f y.f ++ p.2) := by simp [diffO, h, ht]
theorem diffO_bad {a : Gr} {x y : Ob} {l : List Ob} (h : obOf a x.id = some y) (ht : ¬ x.t = y.t) : diffO a (x :: l) = none := by simp [diffO, h, ht]
theorem setsFrom_step {id : Int} {j : Nat} {xs ys : List Vl} (hx : j < xs.length) (hy : j < ys.length) :
    setsFrom id j (xs.drop j) (ys.drop j) = if xs[j] = ys[j] then setsFrom id (j + 1) (xs.drop (j + 1)) (ys.drop (j + 1)) else (id, (j : Int)) :: setsFrom id (j + 1) (xs.drop (j + 1)) (ys.drop (j + 1)) := by
  rw [List.drop_eq_getElem_cons hx, List.drop_eq_getElem_cons hy]; rfl
theorem setsFrom_end {id : Int} {j : Nat} {xs ys : List Vl} (hx : xs.length ≤ j) : setsFrom id j (xs.drop j) ys = [] := by
  rw [List.drop_of_length_le hx]; rfl
theorem infI : Inf Tryz.prog 3 1 8 := Inf.of (z := .int .i64 0) (by kernel_rfl) rfl
theorem infP : Inf Tryz.prog 69 2 16 := Inf.of (z := .agg #[.int .i64 0, .int .i64 0]) (by kernel_rfl) rfl

theorem szI : 0 < Lay.sz Int := Nat.one_pos
theorem szP : 0 < Lay.sz (Int × Int) := Nat.succ_pos _
/-- What is told: the change as four slices in memory of the call's own, and the error. -/
def ChV (w : World) (e : Ending) (c : Ch) (n : Int) : Prop :=
  ∃ An cn Ag cg As cs Ar cr, e = .returned (.tuple #[cv An cn Ag cg As cs Ar cr c, .int .i64 n]) ∧ COK w An cn Ag cg As cs Ar cr c

theorem ChV.zero {w : World} (n : Int) : ChV w (.returned (.tuple #[.agg #[.slice none 0 0, .slice none 0 0, .slice none 0 0, .slice none 0 0], .int .i64 n])) ⟨[], [], [], []⟩ n :=
  ⟨none, 0, none, 0, none, 0, none, 0, rfl, ⟨Nat.le_refl _, Nat.zero_le _, RepL.nil, Nat.le_refl _, Nat.zero_le _, RepL.nil, Nat.le_refl _, Nat.zero_le _, RepL.nil, Nat.le_refl _, Nat.zero_le _, RepL.nil⟩⟩
theorem below_set4 {B b : Nat} {w W : World} (h : Below B w W) (hb : B ≤ b) (v0 v1 v2 v3 : Value) : Below B w ((((W.setCell ⟨b, 0, none⟩ v0).setCell ⟨b, 1, none⟩ v1).setCell ⟨b, 2, none⟩ v2).setCell ⟨b, 3, none⟩ v3) :=
  (((h.setCell hb _).setCell hb _).setCell hb _).setCell hb _
theorem fin4 {α : Type} [Lay α] {S : Nat → Prop} {wr WF : World} {R : Nat} {A : Option Addr} {l : List α} (h : RepL S wr A l) (kf : Kp (fun b => b ≠ R) wr WF) (hS : ∀ b, S b → b < wr.heap.size ∧ b ≠ R) : RepL (Bel WF) WF A l :=
  (RepL.kp (h.mono (S' := fun b => b < wr.heap.size ∧ b ≠ R) hS) (kf.mono fun _ hb => hb.2)).mono fun b hb => Nat.lt_of_lt_of_le hb.1 kf.size
theorem set4 (w : World) (R : Nat) (v0 v1 v2 v3 : Value) : Kp (fun b => b ≠ R) w ((((w.setCell ⟨R, 0, none⟩ v0).setCell ⟨R, 1, none⟩ v1).setCell ⟨R, 2, none⟩ v2).setCell ⟨R, 3, none⟩ v3) :=
  ((((Kp.refl _ _).setCell (fun h => h rfl) _).setCell (fun h => h rfl) _).setCell (fun h => h rfl) _).setCell (fun h => h rfl) _
/-- The relation of the last loop: the roots so far. -/
def RelR (g d : Gr) (m C : Nat) (wo : World) (a b c : Value) (i : Value) (wr : World) : Prop :=
  ∃ (n : Nat) (vR : Value) (rk : List Int), n ≤ m ∧ i = .int .i64 n ∧ Kp (fun b => b < wo.heap.size ∧ b ≠ C) wo wr ∧ Blk wr C #[a, b, c, vR] 33 ∧ OwnL (fun _ => False) wr wo.heap.size 3 vR rk ∧ rk.length ≤ n ∧
    rk = ((List.range n).filter fun i : Nat => rootAt g (i : Int) != rootAt d (i : Int)).map fun i : Nat => (i : Int)
section
variable {w : World} {As : Option Addr} {cs : Nat} {Ao : Option Addr} {co : Nat} {Ar : Option Addr} {cr : Nat} {g : Gr}
variable {Bs : Option Addr} {ds : Nat} {Bo : Option Addr} {do_ : Nat} {Br : Option Addr} {dr : Nat} {d : Gr}
set_option maxRecDepth 100000 in
set_option maxHeartbeats 4000000 in
theorem diff_Of (hg : GOK w As cs Ao co Ar cr g) (hh : GOK w Bs ds Bo do_ Br dr d) :
    Calls Tryz.prog 9 #[gv As cs Ao co Ar cr g, gv Bs ds Bo do_ Br dr d] w fun e w' => Below w.heap.size w w' ∧ ChV w' e (diffOf g d).1 (diffOf g d).2 := by
  have Hg := Lib.hid hg
  have Hh := Lib.hid hh
  clear hg hh
  go_enter Tryz.func9, Tryz.ntmps9
  go_wp2_with fail
  refine nameC fun W hW => ?_
  have bW : Below w.heap.size w W := by rw [hW]; exact balloc (balloc (balloc (Below.refl _ _) _) _) _
  have g0 : Blk W w.heap.size #[.slice As g.s.length cs, .slice Ao g.o.length co, .slice Ar g.roots.length cr] 28 := by rw [hW]; exact ((Blk.new _ _ _).alloc _).alloc _
  have g1 : Blk W (w.heap.size + 1) #[.slice Bs d.s.length ds, .slice Bo d.o.length do_, .slice Br d.roots.length dr] 28 := by rw [hW]; exact (Blk.new' (by simp) _ _).alloc _
  have g2 : Blk W (w.heap.size + 2) #[.slice none 0 0, .slice none 0 0, .slice none 0 0, .slice none 0 0] 33 := by rw [hW]; exact Blk.new' (by simp) _ _
  clear hW
  refine (graph_May (Hg.out.below bW)).mono ?_
  rintro e w1 ⟨rfl, hb1⟩
  replace g0 := g0.below hb1
  replace g1 := g1.below hb1
  replace g2 := g2.below hb1
  have b1 := bthen bW hb1
  clear bW hb1
  cases hm1 : grMay g
  · have Hr := Lib.hid (show diffOf g d = (⟨[], [], [], []⟩, 1) by simp [diffOf, hm1])
    obtain ⟨⟨c0, c1, c2, c3⟩, f0, f1, f2, f3⟩ := g2.four
    have z := g2.lt
    clear hm1 g0 g1 g2
    go_wp2_with fail
    refine bodyPost_ret (v := .tuple #[.agg #[.slice none 0 0, .slice none 0 0, .slice none 0 0, .slice none 0 0], .int .i64 1]) (by simp [results, Tryz.results9, go_sem, *]) rfl ⟨below_set4 b1 (by omega) _ _ _ _, ?_⟩
    rw [Hr.out]; exact ChV.zero 1
  have G := mayG hm1
  have Hm1 := Lib.hid hm1
  clear hm1
  obtain ⟨p0, p1, p2, -⟩ := g1.three
  go_wp2_with fail
  clear p0 p1 p2
  refine (graph_May (Hh.out.below b1)).mono ?_
  rintro e w2 ⟨rfl, hb1⟩
  replace g0 := g0.below hb1
  replace g1 := g1.below hb1
  replace g2 := g2.below hb1
  have b2 := bthen b1 hb1
  clear b1 hb1
  cases hm2 : grMay d
  · have Hr := Lib.hid (show diffOf g d = (⟨[], [], [], []⟩, 1) by simp [diffOf, hm2])
    obtain ⟨⟨c0, c1, c2, c3⟩, f0, f1, f2, f3⟩ := g2.four
    have z := g2.lt
    clear hm2 g0 g1 g2
    go_wp2_with fail
    refine bodyPost_ret (v := .tuple #[.agg #[.slice none 0 0, .slice none 0 0, .slice none 0 0, .slice none 0 0], .int .i64 1]) (by simp [results, Tryz.results9, go_sem, *]) rfl ⟨below_set4 b2 (by omega) _ _ _ _, ?_⟩
    rw [Hr.out]; exact ChV.zero 1
  have H := mayG hm2
  have Hm2 := Lib.hid hm2
  clear hm2
  obtain ⟨q0, q1, q2, -⟩ := g0.three
  obtain ⟨p0, p1, p2, -⟩ := g1.three
  have z0 := g0.lt
  have z1 := g1.lt
  have z2 := g2.lt
  go_wp2_with fail
  clear q0 q1 q2 p0 p1 p2
  refine (schema_Same Hg.out.s1 Hg.out.s2 (Hg.out.s.below b2) Hh.out.s1 Hh.out.s2 (Hh.out.s.below b2)).mono ?_
  rintro e w3 ⟨rfl, hb1⟩
  replace g0 := g0.below hb1
  replace g1 := g1.below hb1
  replace g2 := g2.below hb1
  have b3 := bthen b2 hb1
  clear b2 hb1 z0 z1 z2
  rcases Bool.eq_false_or_eq_true (decide (g.s = d.s)) with e1 | e1
  case inr =>
    have Hr := Lib.hid (show diffOf g d = (⟨[], [], [], []⟩, 6) by
      have : g.s ≠ d.s := by simpa using e1
      simp [diffOf, Hm1.out, Hm2.out, this])
    obtain ⟨⟨c0, c1, c2, c3⟩, f0, f1, f2, f3⟩ := g2.four
    have z := g2.lt
    clear g0 g1 g2
    go_wp2_with fail
    refine bodyPost_ret (v := .tuple #[.agg #[.slice none 0 0, .slice none 0 0, .slice none 0 0, .slice none 0 0], .int .i64 6]) (by simp [results, Tryz.results9, go_sem, *]) rfl ⟨below_set4 b3 (by omega) _ _ _ _, ?_⟩
    rw [Hr.out]; exact ChV.zero 6
  have Hs := Lib.hid (show g.s = d.s by simpa using e1)
  obtain ⟨q0, q1, q2, -⟩ := g0.three
  obtain ⟨p0, p1, p2, -⟩ := g1.three
  have z0 := g0.lt
  have z1 := g1.lt
  have z2 := g2.lt
  go_wp2_with fail
  clear q0 q1 q2 p0 p1 p2
  refine nameW fun WL hW => ?_
  have b4 : Below w3.heap.size w3 WL := by rw [hW]; exact balloc (Below.refl _ _) _
  have gC : Blk WL w3.heap.size #[.slice none 0 0, .slice none 0 0, .slice none 0 0, .slice none 0 0] 33 := by rw [hW]; exact Blk.new _ _ _
  clear hW
  replace g0 := g0.below b4
  replace g1 := g1.below b4
  replace g2 := g2.below b4
  replace b3 := bthen b3 b4
  have y3 := gC.lt
  clear b4
  have hho1 := Hh.out.o1
  have hho2 := Hh.out.o2
  unfold maxLen at hho2
  have hL8 := H.objs
  have B3 := Lib.hid b3
  have G0 := Lib.hid g0
  have G1 := Lib.hid g1
  have G2 := Lib.hid g2
  have GC := Lib.hid gC
  clear b3 g0 g1 g2 gC z0 z1
  go_loopw [36] (fun i wr => ∃ (k : Nat) (vN : Value), k ≤ d.o.length ∧ i = .int .i64 k ∧ Kp (fun b => b < WL.heap.size ∧ b ≠ w3.heap.size) WL wr ∧ Blk wr w3.heap.size #[vN, .slice none 0 0, .slice none 0 0, .slice none 0 0] 33 ∧
      OwnL (fun _ => False) wr WL.heap.size 3 vN (newL g (d.o.take k))) (fun i _ => d.o.length - (intOf i).toNat)
  case atStart => exact ⟨0, _, Nat.zero_le _, rfl, Kp.refl _ _, GC.out, OwnL.nil⟩
  case round =>
    obtain ⟨k, vN, hk, rfl, kp, bC, own⟩ := hrel
    have bwr : Below w.heap.size w wr := B3.out.trans (kp.below fun b hb => ⟨by omega, by omega⟩)
    have Kpp := Lib.hid kp
    have Own := Lib.hid own
    clear kp own
    by_cases hlt : k < d.o.length
    · obtain ⟨b, off, rfl, _, hbz, hcs⟩ := (Hh.out.o.below bwr).ob (by intro e; simp [e] at hlt)
      have Ht := Lib.hid (take_snoc d.o k hlt)
      replace hcs := hcs k hlt
      generalize d.o[k] = x at hcs Ht
      obtain ⟨F, cF, a0, a1, a2, _, _, _⟩ := hcs
      have g0 := G0.out.kp Kpp.out ⟨by omega, by omega⟩
      obtain ⟨q0, q1, q2, -⟩ := g0.three
      have z0 := g0.lt
      go_wp2_with fail
      refine nameC fun W hW => ?_
      have bW : Below wr.heap.size wr W := by rw [hW]; exact balloc (Below.refl _ _) _
      have x0 : Blk W wr.heap.size #[.int .i64 x.id, .int .i64 x.t, .slice F x.f.length cF] 45 := by rw [hW]; exact Blk.new _ _ _
      clear hW q0 q1 q2 z0 a0 a1 a2
      refine (diff_other (Hg.out.below (bthen bwr bW))).mono ?_
      rintro e w5 ⟨hb5, F2, cF2, rfl, _, _, _⟩
      have x1 := x0.below hb5
      have kp5 := Kpp.out.call (bthen bW hb5) (fun b hb => hb.1)
      have bC5 := (bC.below bW).below hb5
      have own5 := (Own.out.below (bthen bW hb5) (Nat.le_refl _) (fun _ d => d.elim))
      have Kp5 := Lib.hid kp5
      have Own5 := Lib.hid own5
      clear x0 bC hb5 bW kp5 own5
      obtain ⟨s0, s1, s2, -⟩ := x1.three
      obtain ⟨⟨c0, c1, c2, c3⟩, f0, f1, f2, f3⟩ := bC5.four
      have BC5 := Lib.hid bC5
      have zx := x1.lt
      have zc := bC5.lt
      clear x1 bC5
      have hl1 : (newL g (d.o.take k)).length ≤ 8 := by
        have h1 := newL_len g (d.o.take k)
        have h2 : (d.o.take k).length ≤ k := List.length_take_le _ _
        omega
      have hyy : ((obOf g x.id).isSome = true) ∨ ((obOf g x.id).isSome = false) := by cases (obOf g x.id).isSome <;> simp
      rcases hyy with hy | hy
      · have Hy := Lib.hid (show newL g (d.o.take (k + 1)) = newL g (d.o.take k) by rw [Ht.out, newL_snoc, hy]; simp)
        rw [hy]
        clear hy
        generalize (obOf g x.id).getD default = y
        go_wp2_with fail
        go_roundw
        case rel => exact ⟨k + 1, vN, by omega, by go_num, Kp5.out.alloc (fun b hb => hb.1) _, BC5.out.alloc _, by rw [Hy.out]; exact Own5.out.below ((Below.refl _ _).alloc (Nat.le_refl _) _) (Nat.le_refl _) (fun _ d => d.elim)⟩
        case measure => simp [intOf]; omega
      · have Hy := Lib.hid (show newL g (d.o.take (k + 1)) = newL g (d.o.take k) ++ [x.id] by rw [Ht.out, newL_snoc, hy]; simp)
        rw [hy]
        clear hy
        generalize (obOf g x.id).getD default = y
        have hb48 := B3.out.size
        have h5 : WL.heap.size ≤ w5.heap.size := Kp5.out.size
        have hne : some w3.heap.size ≠ vN.ownBlock := fun e => by have := (Own5.out.base_le _ e.symm).1; omega
        go_wp2_with (at_builtin; refine wpList_append_L (α := Int) (S := fun _ => False) (S' := fun _ => False) (us := [.int .i64 x.id]) (y := x.id) rfl _ _ _ rfl Tryz.underlying26 infI szI rfl (Own5.out.below (balloc (balloc (Below.refl _ _) _) _) (Nat.le_refl _) (fun _ d => d.elim)) rfl (Blk.new' (by simp) _ _) (by simp [Value.oneCell']) rfl (fun _ d => d) (fun _ d => d.elim) (by unfold maxLen; omega) (by omega) (by simp; omega) ?_; intro gg cap w6 own6 hg6 hat6 hlt6; have bC6 := ((BC5.out.alloc _).alloc _).grown hg6 hne; have BC6 := Lib.hid bC6; obtain ⟨⟨d0, d1, d2, d3⟩, e0, e1, e2, e3⟩ := bC6.four; clear bC6)
        go_roundw
        case rel => exact ⟨k + 1, _, by omega, by go_num, (((Kp5.out.alloc (fun b hb => hb.1) _).alloc (fun b hb => hb.1) _).grown hg6 (fun b hb => hb.1) (fun b hb e => by have := (Own5.out.base_le b e.symm).1; have := hb.1; omega)).setCell (fun d => d.2 rfl) _, BC6.out.set 0 _, by
          rw [Hy.out]
          have o7 := own6.kp (T := fun b => b ≠ w3.heap.size) (w' := w6.setCell ⟨w3.heap.size, 0, none⟩ (.slice (some ⟨gg, 0, none⟩) ((newL g (d.o.take k)).length + 1) cap)) ((Kp.refl _ _).setCell (fun d => d rfl) _) (fun b hb => by have := (own6.base_le b hb).1; omega) (fun _ d => d.elim)
          exact o7⟩
        case measure => simp [intOf]; omega
    · obtain ⟨k0, rfl⟩ : ∃ k0, k0 = k := ⟨_, rfl⟩
      have hkk : k0 = d.o.length := by omega
      have Hn := Lib.hid (show newL g (d.o.take k0) = newL g d.o by rw [hkk, List.take_length])
      obtain ⟨AN, cN, rfl, hN1, hN2, hN3⟩ := Own.out.read szI (fun _ d => d.elim)
      have HN3 := Lib.hid hN3
      have BWr := Lib.hid bwr
      have zz := Kpp.out.size
      have g0 := G0.out.kp Kpp.out ⟨by omega, by omega⟩
      have g1 := G1.out.kp Kpp.out ⟨by omega, by omega⟩
      have g2 := G2.out.kp Kpp.out ⟨by omega, by omega⟩
      obtain ⟨q0, q1, q2, -⟩ := g0.three
      clear hN3 bwr hkk
      have BC := Lib.hid bC
      clear bC
      go_wp2_with fail
      refine nameW fun W2 hW => ?_
      rw [← hW] at HN3 BWr zz g0 g1 g2 BC
      clear hW q0 q1 q2 Kpp Own G0 G1 G2
      have G0 := Lib.hid g0
      have G1 := Lib.hid g1
      have G2 := Lib.hid g2
      clear g0 g1 g2
      have hgo1 := Hg.out.o1
      have hgo2 := Hg.out.o2
      unfold maxLen at hgo2
      have hG8 := G.objs
      have hB3 := B3.out.size
      clear hk hlt
      go_loopw [60] (fun i wr => ∃ (k : Nat) (vG vS : Value) (gk : List Int) (sk : List (Int × Int)), k ≤ g.o.length ∧ i = .int .i64 k ∧ Kp (fun b => b < W2.heap.size ∧ b ≠ w3.heap.size) W2 wr ∧
          Blk wr w3.heap.size #[.slice AN (newL g (d.o.take k0)).length cN, vG, vS, .slice none 0 0] 33 ∧
          OwnL (fun _ => False) wr W2.heap.size 3 vG gk ∧ OwnL (fun _ => False) wr W2.heap.size 69 vS sk ∧ (∀ b, vG.ownBlock = some b → vS.ownBlock ≠ some b) ∧ gk.length ≤ k ∧ sk.length ≤ 5 * k ∧
          diffO d g.o = (diffO d (g.o.drop k)).map (fun p => (gk ++ p.1, sk ++ p.2))) (fun i _ => g.o.length - (intOf i).toNat)
      case atStart => exact ⟨0, _, _, [], [], Nat.zero_le _, rfl, Kp.refl _ _, BC.out, OwnL.nil, OwnL.nil, (fun b hb => by cases hb), Nat.le_refl _, Nat.le_refl _, by simp⟩
      case round =>
        obtain ⟨wo, rfl⟩ : ∃ wo : World, wo = wr := ⟨_, rfl⟩
        obtain ⟨k, vG, vS, gk, sk, hk, rfl, kp, bC, ownG, ownS, hdis, hgl, hsl, hD⟩ := hrel
        have bwr : Below w.heap.size w wo := BWr.out.trans (kp.below fun b hb => ⟨by omega, by omega⟩)
        have Kpp := Lib.hid kp
        have OwnG := Lib.hid ownG
        have OwnS := Lib.hid ownS
        have HD := Lib.hid hD
        have Hdis := Lib.hid hdis
        clear kp ownG ownS hD hdis
        by_cases hlt : k < g.o.length
        · obtain ⟨b, off, rfl, _, hbz, hcs⟩ := (Hg.out.o).ob (by intro e; simp [e] at hlt)
          have Hd := Lib.hid (show g.o.drop k = g.o[k] :: g.o.drop (k + 1) from List.drop_eq_getElem_cons hlt)
          have hmem : g.o[k] ∈ g.o := List.getElem_mem hlt
          replace hcs := hcs k hlt
          generalize g.o[k] = x at hcs Hd hmem
          have hx5 := G.fields hmem
          have Hmem := Lib.hid hmem
          obtain ⟨F, cF, a0, a1, a2, hF1, hF2, hF3⟩ := hcs
          have HF3 := Lib.hid hF3
          replace a0 := keep1 bwr a0
          replace a1 := keep1 bwr a1
          replace a2 := keep1 bwr a2
          have g1 := G1.out.kp Kpp.out ⟨by omega, by omega⟩
          obtain ⟨q0, q1, q2, -⟩ := g1.three
          have z0 := g1.lt
          clear hF3 hmem
          go_wp2_with fail
          refine nameC fun W hW => ?_
          have bW : Below wo.heap.size wo W := by rw [hW]; exact balloc (Below.refl _ _) _
          have x0 : Blk W wo.heap.size #[.int .i64 x.id, .int .i64 x.t, .slice F x.f.length cF] 45 := by rw [hW]; exact Blk.new _ _ _
          clear hW q0 q1 q2 z0 a0 a1 a2 g1
          have bw4 := bthen bwr bW
          refine (diff_other (Hh.out.below bw4)).mono ?_
          rintro e w5 ⟨hb5, F2, cF2, rfl, hE1, hE2, hE3⟩
          have x1 := x0.below hb5
          have b5 := bthen bW hb5
          have kp5 := Kpp.out.call b5 (fun b hb => hb.1)
          have bC5 := bC.below b5
          have ownG5 := OwnG.out.below b5 (Nat.le_refl _) (fun _ d => d.elim)
          have ownS5 := OwnS.out.below b5 (Nat.le_refl _) (fun _ d => d.elim)
          have Kp5 := Lib.hid kp5
          have OwnG5 := Lib.hid ownG5
          have OwnS5 := Lib.hid ownS5
          have bw5 := bthen bw4 hb5
          have hE3' := hE3 (Bel w) (RepL.keep Hh.out.o fun b hb => bw4.block b hb)
          have HE3 := Lib.hid (RepL.keep hE3' fun b hb => (hb5.block b (Nat.lt_of_lt_of_le hb bw4.size)))
          clear hE3' x0 bC hb5 bW kp5 ownG5 ownS5 hE3
          obtain ⟨s0, s1, s2, -⟩ := x1.three
          obtain ⟨⟨c0, c1, c2, c3⟩, f0, f1, f2, f3⟩ := bC5.four
          have BC5 := Lib.hid bC5
          have X1 := Lib.hid x1
          have zx := x1.lt
          have zc := bC5.lt
          have h5 : W2.heap.size ≤ wo.heap.size := Kpp.out.size
          clear x1 bC5
          cases hy : obOf d x.id
          case none =>
            have Hy := Lib.hid (show diffO d g.o = (diffO d (g.o.drop (k + 1))).map (fun p => ((gk ++ [x.id]) ++ p.1, sk ++ p.2)) by
              rw [HD.out, Hd.out, diffO_none hy, Option.map_map]; congr 1; funext p; simp)
            simp only [Option.isSome_none, Option.getD_none]
            clear hy
            have hne : some w3.heap.size ≠ vG.ownBlock := fun e => by have := (OwnG5.out.base_le _ e.symm).1; omega
            go_wp2_with (at_builtin; refine wpList_append_L (α := Int) (S := fun _ => False) (S' := fun _ => False) (us := [.int .i64 x.id]) (y := x.id) rfl _ _ _ rfl Tryz.underlying26 infI szI rfl (OwnG5.out.below (balloc (balloc (Below.refl _ _) _) _) (Nat.le_refl _) (fun _ d => d.elim)) rfl (Blk.new' (by simp) _ _) (by simp [Value.oneCell']) rfl (fun _ d => d) (fun _ d => d.elim) (by unfold maxLen; omega) (by omega) (by simp; omega) ?_; intro gg cap w6 own6 hg6 hat6 hlt6; have bC6 := ((BC5.out.alloc _).alloc _).grown hg6 hne; have BC6 := Lib.hid bC6; obtain ⟨⟨d0, d1, d2, d3⟩, e0, e1, e2, e3⟩ := bC6.four; clear bC6)
            go_roundw
            case rel =>
              have kz : Kp (fun b => b ≠ w3.heap.size) w6 (w6.setCell ⟨w3.heap.size, 1, none⟩ (.slice (some ⟨gg, 0, none⟩) (gk.length + 1) cap)) := (Kp.refl _ _).setCell (fun d => d rfl) _
              refine ⟨k + 1, _, _, gk ++ [x.id], sk, by omega, by go_num, (((Kp5.out.alloc (fun b hb => hb.1) _).alloc (fun b hb => hb.1) _).grown hg6 (fun b hb => hb.1) (fun b hb e => by have := (OwnG5.out.base_le b e.symm).1; have := hb.1; omega)).setCell (fun d => d.2 rfl) _, BC6.out.set 1 _, ?_, ?_, ?_, by simp; omega, by omega, Hy.out⟩
              · exact own6.kp kz (fun b hb => by have := (own6.base_le b hb).1; omega) (fun _ d => d.elim)
              · have oS := (OwnS5.out.below (balloc (balloc (Below.refl _ _) _) _) (Nat.le_refl _) (fun _ d => d.elim)).grown hg6 (by
                  cases hv : vS.ownBlock with
                  | none => exact .inl rfl
                  | some q => exact .inr (fun e => Hdis.out q e.symm hv)) (fun _ d => d.elim)
                exact oS.kp kz (fun b hb => by have := (oS.base_le b hb).1; omega) (fun _ d => d.elim)
              · intro b hb
                obtain rfl : gg = b := by simpa [Value.ownBlock] using hb
                rcases hat6 with h6 | h6
                · exact Hdis.out gg h6
                · intro e
                  have := (OwnS5.out.base_le _ e).2
                  simp at h6
                  omega
            case measure => simp [intOf]; omega
          case some y =>
            simp only [Option.isSome_some, Option.getD_some]
            simp only [hy, Option.getD_some] at hE1 HE3
            have Hy := Lib.hid hy
            have hym := (obOf_mem hy).1
            clear hy
            rcases Bool.eq_false_or_eq_true (x.t != y.t) with e2 | e2
            · have Hr := Lib.hid (show diffOf g d = (⟨[], [], [], []⟩, 6) by
                have ht : ¬ x.t = y.t := by simpa using e2
                have : diffO d g.o = none := by rw [HD.out, Hd.out, diffO_bad Hy.out ht]; rfl
                simp [diffOf, Hm1.out, Hm2.out, Hs.out, this])
              have g2 := G2.out.kp Kp5.out ⟨by omega, by omega⟩
              obtain ⟨⟨r0, r1, r2, r3⟩, t0, t1, t2, t3⟩ := g2.four
              have zr := g2.lt
              clear g2
              go_wp2_with fail
              refine bodyPost_ret (v := .tuple #[.agg #[.slice none 0 0, .slice none 0 0, .slice none 0 0, .slice none 0 0], .int .i64 6]) (by simp [results, Tryz.results9, go_sem, *]) rfl ⟨(below_set4 bw5 (by omega) _ _ _ _).alloc (by have := bw5.size; simp; omega) _, ?_⟩
              rw [Hr.out]; exact ChV.zero 6
            · have ht : x.t = y.t := by simpa using e2
              have hxy := same_len G H Hs.out Hmem.out hym ht
              have Hx := Lib.hid (show diffO d g.o = (diffO d (g.o.drop (k + 1))).map (fun p => (gk ++ p.1, (sk ++ setsFrom x.id 0 x.f y.f) ++ p.2)) by
                rw [HD.out, Hd.out, diffO_some Hy.out ht, Option.map_map]; congr 1; funext p; simp)
              have Hxy := Lib.hid hxy
              clear ht hxy
              go_wp2_with fail
              refine nameW fun W3 hW => ?_
              have b6 : Below w5.heap.size w5 W3 := by rw [hW]; exact balloc (Below.refl _ _) _
              have y0 : Blk W3 w5.heap.size #[.int .i64 y.id, .int .i64 y.t, .slice F2 y.f.length cF2] 45 := by rw [hW]; exact Blk.new _ _ _
              clear hW s0 s1 s2 c0 c1 c2 c3 f0 f1 f2 f3
              have x2 := X1.out.below b6
              have bC6 := BC5.out.below b6
              have kp6 := Kp5.out.call b6 (fun b hb => hb.1)
              have ownG6 := OwnG5.out.below b6 (Nat.le_refl _) (fun _ d => d.elim)
              have ownS6 := OwnS5.out.below b6 (Nat.le_refl _) (fun _ d => d.elim)
              have hE4 := RepL.keep HE3.out fun b hb => (b6.block b (Nat.lt_of_lt_of_le hb bw5.size))
              have Y0 := Lib.hid y0
              have X2 := Lib.hid x2
              have BC6 := Lib.hid bC6
              have Kp6 := Lib.hid kp6
              have OwnG6 := Lib.hid ownG6
              have OwnS6 := Lib.hid ownS6
              have HE4 := Lib.hid hE4
              have bw6 := bthen bw5 b6
              have BW6 := Lib.hid bw6
              have B6 := Lib.hid b6
              have zy := y0.lt
              clear y0 x2 bC6 kp6 ownG6 ownS6 hE4 OwnG5 OwnS5 Kp5 BC5 X1 HE3 bw6 b6
              have hvs : ∀ b, vS.ownBlock = some b → b ≠ wo.heap.size ∧ b ≠ w5.heap.size := fun b hb => by have := (OwnS.out.base_le b hb).2; omega
              have Hvs := Lib.hid hvs
              clear hvs
              obtain ⟨s0, s1, s2, -⟩ := X2.out.three
              have zx3 := X2.out.lt
              go_wp2_with fail
              clear s0 s1 s2 zx3
              go_loopw [91] (fun i wr => ∃ (j : Nat) (vT : Value) (sj : List (Int × Int)), j ≤ x.f.length ∧ i = .int .i64 j ∧ Kp (fun b => b < W2.heap.size ∧ b ≠ w3.heap.size) W2 wr ∧ W3.heap.size ≤ wr.heap.size ∧
                  Blk wr wo.heap.size #[.int .i64 x.id, .int .i64 x.t, .slice F x.f.length cF] 45 ∧ Blk wr w5.heap.size #[.int .i64 y.id, .int .i64 y.t, .slice F2 y.f.length cF2] 45 ∧
                  Blk wr w3.heap.size #[.slice AN (newL g (d.o.take k0)).length cN, vG, vT, .slice none 0 0] 33 ∧
                  OwnL (fun _ => False) wr W2.heap.size 3 vG gk ∧ OwnL (fun _ => False) wr W2.heap.size 69 vT sj ∧ (∀ b, vG.ownBlock = some b → vT.ownBlock ≠ some b) ∧
                  (∀ b, vT.ownBlock = some b → b ≠ wo.heap.size ∧ b ≠ w5.heap.size) ∧ sj.length ≤ sk.length + j ∧
                  sk ++ setsFrom x.id 0 x.f y.f = sj ++ setsFrom x.id j (x.f.drop j) (y.f.drop j)) (fun i _ => x.f.length - (intOf i).toNat)
              case atStart => exact ⟨0, _, sk, Nat.zero_le _, rfl, Kp6.out, Nat.le_refl _, X2.out, Y0.out, BC6.out, OwnG6.out, OwnS6.out, Hdis.out, Hvs.out, by omega, rfl⟩
              case round =>
                obtain ⟨j, vT, sj, hj, rfl, kp, hsz, xb, yb, bC, ownG, ownT, hdis, hvt, hsl2, hset⟩ := hrel
                have bwr2 : Below w.heap.size w wr := BWr.out.trans (kp.below fun b hb => ⟨by omega, by omega⟩)
                have Kpp3 := Lib.hid kp
                have XB := Lib.hid xb
                have YB := Lib.hid yb
                have BC := Lib.hid bC
                have OwnG3 := Lib.hid ownG
                have OwnT := Lib.hid ownT
                have Hdis3 := Lib.hid hdis
                have Hvt := Lib.hid hvt
                have Hset := Lib.hid hset
                clear kp bC ownG ownT hdis hvt hset
                obtain ⟨s0, s1, s2, -⟩ := xb.three
                obtain ⟨r0, r1, r2, -⟩ := yb.three
                clear xb yb
                by_cases hjl : j < x.f.length
                · have hjl2 : j < y.f.length := by have := Hxy.out; omega
                  obtain ⟨bv, offv, rfl, _, _, hvs⟩ := (RepL.keep HF3.out fun b hb => bwr2.block b hb).vl (by intro e; simp [e] at hjl)
                  obtain ⟨bu, offu, rfl, _, _, hus⟩ := (RepL.keep HE4.out fun b hb => (bwr2.block b hb).trans (BW6.out.block b hb).symm).vl (by intro e; simp [e] at hjl2)
                  have Hd3 := Lib.hid (setsFrom_step (id := x.id) hjl hjl2)
                  replace hvs := hvs j hjl
                  replace hus := hus j hjl2
                  generalize x.f[j] = p at hvs Hd3
                  generalize y.f[j] = q at hus Hd3
                  obtain ⟨v0, v1, v2, _⟩ := hvs
                  obtain ⟨t0, t1, t2, _⟩ := hus
                  have hj0 : (0 : Int) ≤ (j : Int) := Int.natCast_nonneg _
                  have hj1 : (j : Int) < (x.f.length : Int) := by omega
                  have hj2 : (j : Int) < (y.f.length : Int) := by omega
                  have eqv := fun (d : Nat) (w : World) => eqVl d w p q
                  rcases Bool.eq_false_or_eq_true (decide (p = q)) with hpq | hpq
                  · have Hq := Lib.hid (show sk ++ setsFrom x.id 0 x.f y.f = sj ++ setsFrom x.id (j + 1) (x.f.drop (j + 1)) (y.f.drop (j + 1)) by
                      have : p = q := by simpa using hpq
                      rw [Hset.out, Hd3.out, if_pos this])
                    go_wp2_with fail
                    go_quiet (fail)
                    go_wp2_with fail
                    go_roundw
                    case rel => exact ⟨j + 1, vT, sj, by omega, by go_num, Kpp3.out.drewN _, hsz, XB.out.drewN _, YB.out.drewN _, BC.out.drewN _, OwnG3.out.kp (T := fun _ => True) ((Kp.refl _ _).drewN _) (fun _ _ => trivial) (fun _ _ => trivial), OwnT.out.kp (T := fun _ => True) ((Kp.refl _ _).drewN _) (fun _ _ => trivial) (fun _ _ => trivial), Hdis3.out, Hvt.out, by omega, Hq.out⟩
                    case measure => simp [intOf]; omega
                  · have Hq := Lib.hid (show sk ++ setsFrom x.id 0 x.f y.f = (sj ++ [(x.id, (j : Int))]) ++ setsFrom x.id (j + 1) (x.f.drop (j + 1)) (y.f.drop (j + 1)) by
                      have : ¬ p = q := by simpa using hpq
                      rw [Hset.out, Hd3.out, if_neg this]; simp)
                    go_wp2_with fail
                    go_quiet (fail)
                    refine nameE fun Wn hW => ?_
                    have kn : Kp (fun _ => True) wr Wn := by rw [hW]; exact (Kp.refl _ _).drewN _
                    have szn : wr.heap.size ≤ Wn.heap.size := kn.size
                    clear hW
                    have Kpp4 := Lib.hid (Kpp3.out.trans (kn.mono fun _ _ => trivial))
                    have xb := XB.out.kp kn trivial
                    have bC := BC.out.kp kn trivial
                    have YB4 := Lib.hid (YB.out.kp kn trivial)
                    have OwnG4 := Lib.hid (OwnG3.out.kp kn (fun _ _ => trivial) (fun _ _ => trivial))
                    have OwnT4 := Lib.hid (OwnT.out.kp kn (fun _ _ => trivial) (fun _ _ => trivial))
                    clear s0 s1 s2 r0 r1 r2 v0 v1 v2 t0 t1 t2 kn
                    obtain ⟨s0, s1, s2, -⟩ := xb.three
                    obtain ⟨⟨c0, c1, c2, c3⟩, f0, f1, f2, f3⟩ := bC.four
                    have zx := xb.lt
                    have zc := bC.lt
                    have XB4 := Lib.hid xb
                    have BC4 := Lib.hid bC
                    clear xb bC
                    have hne : some w3.heap.size ≠ vT.ownBlock := fun e => by have := (OwnT4.out.base_le _ e.symm).1; omega
                    have hnx : some wo.heap.size ≠ vT.ownBlock := fun e => (Hvt.out _ e.symm).1 rfl
                    have hny : some w5.heap.size ≠ vT.ownBlock := fun e => (Hvt.out _ e.symm).2 rfl
                    have hsl : sj.length ≤ 60 := by omega
                    go_wp2_with (at_builtin; refine wpList_append_L (α := Int × Int) (S := fun _ => False) (S' := fun _ => False) (us := [.int .i64 x.id, .int .i64 j]) (y := (x.id, (j : Int))) rfl _ _ _ rfl Tryz.underlying31 infP szP rfl (OwnT4.out.below (balloc (Below.refl _ _) _) (Nat.le_refl _) (fun _ d => d.elim)) rfl (Blk.new' (by simp) _ _) (by simp [Value.oneCell']) rfl (fun _ d => d) (fun _ d => d.elim) (by unfold maxLen; omega) (by omega) (by simp; omega) ?_; intro gg cap w6 own6 hg6 hat6 hlt6; have bC6 := (BC4.out.alloc _).grown hg6 hne; have BC6 := Lib.hid bC6; obtain ⟨⟨d0, d1, d2, d3⟩, e0, e1, e2, e3⟩ := bC6.four; clear bC6)
                    go_roundw
                    case rel =>
                      have kz : Kp (fun b => b ≠ w3.heap.size) w6 (w6.setCell ⟨w3.heap.size, 2, none⟩ (.slice (some ⟨gg, 0, none⟩) (sj.length + 1) cap)) := (Kp.refl _ _).setCell (fun d => d rfl) _
                      refine ⟨j + 1, _, sj ++ [(x.id, (j : Int))], by omega, by go_num, ((Kpp4.out.alloc (fun b hb => hb.1) _).grown hg6 (fun b hb => hb.1) (fun b hb e => by have := (OwnT4.out.base_le b e.symm).1; have := hb.1; omega)).setCell (fun d => d.2 rfl) _, ?_, ?_, ?_, BC6.out.set 2 _, ?_, ?_, ?_, ?_, by simp; omega, Hq.out⟩
                      · have h1 := hg6.size
                        have h2 := kz.size
                        simp at h1
                        omega
                      · exact ((XB4.out.alloc _).grown hg6 hnx).set_ne (by simp; omega) _
                      · exact ((YB4.out.alloc _).grown hg6 hny).set_ne (by simp; omega) _
                      · have oG := (OwnG4.out.below (balloc (Below.refl _ _) _) (Nat.le_refl _) (fun _ d => d.elim)).grown hg6 (by
                          cases hv : vG.ownBlock with
                          | none => exact .inl rfl
                          | some q => exact .inr (fun e => Hdis3.out q hv e.symm)) (fun _ d => d.elim)
                        exact oG.kp kz (fun b hb => by have := (oG.base_le b hb).1; omega) (fun _ d => d.elim)
                      · exact own6.kp kz (fun b hb => by have := (own6.base_le b hb).1; omega) (fun _ d => d.elim)
                      · intro b hb e
                        obtain rfl : gg = b := by simpa [Value.ownBlock] using e
                        rcases hat6 with h6 | h6
                        · exact Hdis3.out gg hb h6
                        · have := (OwnG4.out.base_le _ hb).2
                          simp at h6
                          omega
                      · intro b hb
                        obtain rfl : gg = b := by simpa [Value.ownBlock] using hb
                        rcases hat6 with h6 | h6
                        · exact Hvt.out gg h6
                        · simp at h6
                          have := XB4.out.lt
                          have := YB4.out.lt
                          omega
                    case measure => simp [intOf]; omega
                · have Hz := Lib.hid (show diffO d g.o = (diffO d (g.o.drop (k + 1))).map (fun p => (gk ++ p.1, sj ++ p.2)) by
                    rw [Hx.out, Hset.out, setsFrom_end (by omega), List.append_nil])
                  go_wp2_with fail
                  go_roundw
                  case rel => exact ⟨k + 1, vG, vT, gk, sj, by omega, by go_num, Kpp3.out, BC.out, OwnG3.out, OwnT.out, Hdis3.out, by omega, by omega, Hz.out⟩
                  case measure => simp [intOf]; omega
        · have Hds := Lib.hid (show diffO d g.o = some (gk, sk) by rw [HD.out, List.drop_of_length_le (by omega)]; simp [diffO])
          obtain ⟨AG, cG, rfl, hV1, hV2, hV3⟩ := OwnG.out.read szI (fun _ d => d.elim)
          obtain ⟨AS, cS, rfl, hS1, hS2, hS3⟩ := OwnS.out.read szP (fun _ d => d.elim)
          have sz2 := Kpp.out.size
          have hN4 : RepL (fun b => w.heap.size + 2 < b ∧ b < wo.heap.size ∧ b ≠ w3.heap.size) wo AN (newL g (d.o.take k0)) := ((RepL.mono HN3.out fun b hb => ⟨by rcases hb.2 with h | h; omega; exact h.elim, hb.1, by rcases hb.2 with h | h; omega; exact h.elim⟩).kp (S := fun b => w.heap.size + 2 < b ∧ b < W2.heap.size ∧ b ≠ w3.heap.size) (Kpp.out.mono fun b hb => hb.2)).mono fun b hb => ⟨hb.1, by omega, hb.2.2⟩
          have hV4 : RepL (fun b => w.heap.size + 2 < b ∧ b < wo.heap.size ∧ b ≠ w3.heap.size) wo AG gk := hV3.mono fun b hb => ⟨by rcases hb.2 with h | h; omega; exact h.elim, hb.1, by rcases hb.2 with h | h; omega; exact h.elim⟩
          have hS4 : RepL (fun b => w.heap.size + 2 < b ∧ b < wo.heap.size ∧ b ≠ w3.heap.size) wo AS sk := hS3.mono fun b hb => ⟨by rcases hb.2 with h | h; omega; exact h.elim, hb.1, by rcases hb.2 with h | h; omega; exact h.elim⟩
          rw [Hn.out] at hN4 bC hN1
          have HN4 := Lib.hid hN4
          have HV4 := Lib.hid hV4
          have HS4 := Lib.hid hS4
          have BC := Lib.hid bC
          clear hV3 hS3 hN4 hV4 hS4 bC
          have g0 := G0.out.kp Kpp.out ⟨by omega, by omega⟩
          have g1 := G1.out.kp Kpp.out ⟨by omega, by omega⟩
          have g2 := G2.out.kp Kpp.out ⟨by omega, by omega⟩
          obtain ⟨q0, q1, q2, -⟩ := g0.three
          obtain ⟨p0, p1, p2, -⟩ := g1.three
          have hgr1 := Hg.out.r1
          have hgr2 := Hg.out.r2
          have hhr1 := Hh.out.r1
          have hhr2 := Hh.out.r2
          unfold maxLen at hgr2 hhr2
          have BWo := Lib.hid bwr
          clear bwr
          have hgh : (g.roots.length < d.roots.length) ∨ (d.roots.length ≤ g.roots.length) := Nat.lt_or_ge _ _
          rcases hgh with hgh | hgh
          · have hmx := Lib.hid (show max g.roots.length d.roots.length = d.roots.length by omega)
            go_wp2_with fail
            go_loopw [123] (fun i wr => RelR g d d.roots.length w3.heap.size wo (.slice AN (newL g d.o).length cN) (.slice AG gk.length cG) (.slice AS sk.length cS) i wr) (fun i _ => d.roots.length - (intOf i).toNat)
            case atStart => exact ⟨0, _, [], Nat.zero_le _, rfl, Kp.refl _ _, BC.out, OwnL.nil, Nat.le_refl _, rfl⟩
            case round =>
              obtain ⟨n, vR, rk, hn, rfl, kp, bC, ownR, hrl, hrk⟩ := hrel
              have bwr : Below w.heap.size w wr := BWo.out.trans (kp.below fun b hb => ⟨by omega, by omega⟩)
              have BW := Lib.hid bwr
              have Kp4 := Lib.hid kp
              have BC4 := Lib.hid bC
              have OwnR := Lib.hid ownR
              have Hrk := Lib.hid hrk
              have szw := kp.size
              have zc := bC.lt
              clear bwr kp bC ownR hrk
              by_cases hlt : n < d.roots.length
              · have g0 := G0.out.kp Kpp.out ⟨by omega, by omega⟩ |>.kp Kp4.out ⟨by omega, by omega⟩
                have g1 := G1.out.kp Kpp.out ⟨by omega, by omega⟩ |>.kp Kp4.out ⟨by omega, by omega⟩
                obtain ⟨q0, q1, q2, -⟩ := g0.three
                obtain ⟨p0, p1, p2, -⟩ := g1.three
                have hb0 : Below wr.heap.size wr wr.drew := (Below.refl _ _).drew
                have hr3 : rk.length ≤ 3 := by have := G.roots; have := H.roots; omega
                have Hs1 := Lib.hid (show ((List.range (n + 1)).filter fun i : Nat => rootAt g (i : Int) != rootAt d (i : Int)).map (fun i : Nat => (i : Int)) = rk ++ (if rootAt g n != rootAt d n then [(n : Int)] else []) by
                  rw [List.range_succ, List.filter_append, List.map_append, ← Hrk.out]
                  cases hq : (rootAt g n != rootAt d n) <;> simp [hq])
                go_wp2_with fail
                go_region_held3 (fun w' => Below wr.heap.size wr w' ∧ w'.cell? ⟨w.heap.size, 0, none⟩ = some (.slice As g.s.length cs) ∧ w'.cell? ⟨w.heap.size, 1, none⟩ = some (.slice Ao g.o.length co) ∧ w'.cell? ⟨w.heap.size, 2, none⟩ = some (.slice Ar g.roots.length cr) ∧
                    w'.cell? ⟨w.heap.size + 1, 0, none⟩ = some (.slice Bs d.s.length ds) ∧ w'.cell? ⟨w.heap.size + 1, 1, none⟩ = some (.slice Bo d.o.length do_) ∧ w'.cell? ⟨w.heap.size + 1, 2, none⟩ = some (.slice Br d.roots.length dr))
                  (first | exact ⟨hb0, q0, q1, q2, p0, p1, p2⟩ | exact ⟨hbn, keep1 hbn q0, keep1 hbn q1, keep1 hbn q2, keep1 hbn p0, keep1 hbn p1, keep1 hbn p2⟩)
                  (first | (go_at_call 27; refine (diff_root (i := n) (by first | exact Hg.out.below (bthen BW.out (by first | exact hb0 | assumption)) | exact Hh.out.below (bthen BW.out (by first | exact hb0 | assumption)))).mono ?_; rintro e wn ⟨rfl, hbn'⟩; have hbn : Below wr.heap.size wr wn := bthen (by first | exact hb0 | assumption) hbn'))
                have kpn := Kp4.out.trans (Kp.of_below hbn fun b hb => Nat.lt_of_lt_of_le hb.1 szw)
                have bCn := BC4.out.below hbn
                have ownn := OwnR.out.below hbn (Nat.le_refl _) (fun _ d => d.elim)
                have Kpn := Lib.hid kpn
                have BCn := Lib.hid bCn
                have Ownn := Lib.hid ownn
                have szn := hbn.size
                clear kpn ownn q0 q1 q2 p0 p1 p2
                obtain ⟨⟨c0, c1, c2, c3⟩, f0, f1, f2, f3⟩ := bCn.four
                have zcn := bCn.lt
                clear bCn hbn hb0
                rcases Bool.eq_false_or_eq_true (rootAt g n != rootAt d n) with hq | hq
                · have Hq := Lib.hid (Hs1.out.trans (by rw [hq]))
                  have hne : some w3.heap.size ≠ vR.ownBlock := fun e => by have := (Ownn.out.base_le _ e.symm).1; omega
                  go_wp2_with (at_builtin; refine wpList_append_L (α := Int) (S := fun _ => False) (S' := fun _ => False) (us := [.int .i64 n]) (y := (n : Int)) rfl _ _ _ rfl Tryz.underlying26 infI szI rfl (Ownn.out.below (balloc (Below.refl _ _) _) (Nat.le_refl _) (fun _ d => d.elim)) rfl (Blk.new' (by simp) _ _) (by simp [Value.oneCell']) rfl (fun _ d => d) (fun _ d => d.elim) (by unfold maxLen; omega) (by omega) (by simp; omega) ?_; intro gg cap w6 own6 hg6 hat6 hlt6; have bC6 := (BCn.out.alloc _).grown hg6 hne; have BC6 := Lib.hid bC6; obtain ⟨⟨d0, d1, d2, d3⟩, e0, e1, e2, e3⟩ := bC6.four; clear bC6)
                  go_roundw
                  case rel => (have hz : RelR g d d.roots.length w3.heap.size wo (.slice AN (newL g d.o).length cN) (.slice AG gk.length cG) (.slice AS sk.length cS) (.int .i64 ((n : Int) + 1)) _ := ⟨n + 1, _, rk ++ [(n : Int)], by omega, by go_num, ((Kpn.out.alloc (fun b hb => hb.1) _).grown hg6 (fun b hb => hb.1) (fun b hb e => by have := (Ownn.out.base_le b e.symm).1; have := hb.1; omega)).setCell (fun d => d.2 rfl) _, BC6.out.set 3 _, own6.kp ((Kp.refl (fun b => b ≠ w3.heap.size) _).setCell (fun d => d rfl) _) (fun b hb => by have := (own6.base_le b hb).1; omega) (fun _ d => d.elim), by simp; omega, Hq.out.symm⟩; first | exact hz | ((repeat apply Exists.intro); exact ⟨hz, rfl⟩))
                  case measure => simp [intOf]; omega
                · have Hq := Lib.hid (Hs1.out.trans (show _ = rk by rw [hq]; simp))
                  go_wp2_with fail
                  go_roundw
                  case rel => (have hz : RelR g d d.roots.length w3.heap.size wo (.slice AN (newL g d.o).length cN) (.slice AG gk.length cG) (.slice AS sk.length cS) (.int .i64 ((n : Int) + 1)) _ := ⟨n + 1, vR, rk, by omega, by go_num, Kpn.out, BCn.out, Ownn.out, by omega, Hq.out.symm⟩; first | exact hz | ((repeat apply Exists.intro); exact ⟨hz, rfl⟩))
                  case measure => simp [intOf]; omega
              · have hmn : n = max g.roots.length d.roots.length := by have := hmx.out; omega
                have Hrr := Lib.hid (show rk = rootsD g d by rw [Hrk.out, hmn]; rfl)
                obtain ⟨AR, cR, rfl, hR1, hR2, hR3⟩ := OwnR.out.read szI (fun _ d => d.elim)
                have g2 := G2.out.kp Kpp.out ⟨by omega, by omega⟩ |>.kp Kp4.out ⟨by omega, by omega⟩
                have HR3 := Lib.hid hR3
                clear hmn hR3
                obtain ⟨⟨c0, c1, c2, c3⟩, f0, f1, f2, f3⟩ := BC4.out.four
                obtain ⟨⟨r0, r1, r2, r3⟩, t0, t1, t2, t3⟩ := g2.four
                have zr := g2.lt
                clear g2
                have Hr := Lib.hid (show diffOf g d = (⟨newL g d.o, gk, sk, rk⟩, 0) by simp [diffOf, Hm1.out, Hm2.out, Hs.out, Hds.out, Hrr.out])
                go_wp2_with fail
                refine bodyPost_ret (v := .tuple #[.agg #[.slice AN (newL g d.o).length cN, .slice AG gk.length cG, .slice AS sk.length cS, .slice AR rk.length cR], .int .i64 0]) (by simp [results, Tryz.results9, go_sem, *]) rfl ⟨below_set4 BW.out (by omega) _ _ _ _, ?_⟩
                rw [Hr.out]
                have k5 : Kp (fun b => w.heap.size + 2 < b ∧ b < wo.heap.size ∧ b ≠ w3.heap.size) wo wr := Kp4.out.mono fun b hb => hb.2
                have ks := set4 wr (w.heap.size + 1 + 1) (.slice AN (newL g d.o).length cN) (.slice AG gk.length cG) (.slice AS sk.length cS) (.slice AR rk.length cR)
                exact ⟨AN, cN, AG, cG, AS, cS, AR, cR, rfl, hN1, hN2, fin4 (HN4.out.kp k5) ks (fun b hb => ⟨by omega, by omega⟩), hV1, hV2, fin4 (HV4.out.kp k5) ks (fun b hb => ⟨by omega, by omega⟩), hS1, hS2, fin4 (HS4.out.kp k5) ks (fun b hb => ⟨by omega, by omega⟩), hR1, hR2, fin4 HR3.out ks (fun b hb => ⟨hb.1, by rcases hb.2 with h | h; omega; exact h.elim⟩)⟩
          · have hmx := Lib.hid (show max g.roots.length d.roots.length = g.roots.length by omega)
            go_wp2_with fail
            go_loopw [123] (fun i wr => RelR g d g.roots.length w3.heap.size wo (.slice AN (newL g d.o).length cN) (.slice AG gk.length cG) (.slice AS sk.length cS) i wr) (fun i _ => g.roots.length - (intOf i).toNat)
            case atStart => exact ⟨0, _, [], Nat.zero_le _, rfl, Kp.refl _ _, BC.out, OwnL.nil, Nat.le_refl _, rfl⟩
            case round =>
              obtain ⟨n, vR, rk, hn, rfl, kp, bC, ownR, hrl, hrk⟩ := hrel
              have bwr : Below w.heap.size w wr := BWo.out.trans (kp.below fun b hb => ⟨by omega, by omega⟩)
              have BW := Lib.hid bwr
              have Kp4 := Lib.hid kp
              have BC4 := Lib.hid bC
              have OwnR := Lib.hid ownR
              have Hrk := Lib.hid hrk
              have szw := kp.size
              have zc := bC.lt
              clear bwr kp bC ownR hrk
              by_cases hlt : n < g.roots.length
              · have g0 := G0.out.kp Kpp.out ⟨by omega, by omega⟩ |>.kp Kp4.out ⟨by omega, by omega⟩
                have g1 := G1.out.kp Kpp.out ⟨by omega, by omega⟩ |>.kp Kp4.out ⟨by omega, by omega⟩
                obtain ⟨q0, q1, q2, -⟩ := g0.three
                obtain ⟨p0, p1, p2, -⟩ := g1.three
                have hb0 : Below wr.heap.size wr wr.drew := (Below.refl _ _).drew
                have hr3 : rk.length ≤ 3 := by have := G.roots; have := H.roots; omega
                have Hs1 := Lib.hid (show ((List.range (n + 1)).filter fun i : Nat => rootAt g (i : Int) != rootAt d (i : Int)).map (fun i : Nat => (i : Int)) = rk ++ (if rootAt g n != rootAt d n then [(n : Int)] else []) by
                  rw [List.range_succ, List.filter_append, List.map_append, ← Hrk.out]
                  cases hq : (rootAt g n != rootAt d n) <;> simp [hq])
                go_wp2_with fail
                go_region_held3 (fun w' => Below wr.heap.size wr w' ∧ w'.cell? ⟨w.heap.size, 0, none⟩ = some (.slice As g.s.length cs) ∧ w'.cell? ⟨w.heap.size, 1, none⟩ = some (.slice Ao g.o.length co) ∧ w'.cell? ⟨w.heap.size, 2, none⟩ = some (.slice Ar g.roots.length cr) ∧
                    w'.cell? ⟨w.heap.size + 1, 0, none⟩ = some (.slice Bs d.s.length ds) ∧ w'.cell? ⟨w.heap.size + 1, 1, none⟩ = some (.slice Bo d.o.length do_) ∧ w'.cell? ⟨w.heap.size + 1, 2, none⟩ = some (.slice Br d.roots.length dr))
                  (first | exact ⟨hb0, q0, q1, q2, p0, p1, p2⟩ | exact ⟨hbn, keep1 hbn q0, keep1 hbn q1, keep1 hbn q2, keep1 hbn p0, keep1 hbn p1, keep1 hbn p2⟩)
                  (first | (go_at_call 27; refine (diff_root (i := n) (by first | exact Hg.out.below (bthen BW.out (by first | exact hb0 | assumption)) | exact Hh.out.below (bthen BW.out (by first | exact hb0 | assumption)))).mono ?_; rintro e wn ⟨rfl, hbn'⟩; have hbn : Below wr.heap.size wr wn := bthen (by first | exact hb0 | assumption) hbn'))
                have kpn := Kp4.out.trans (Kp.of_below hbn fun b hb => Nat.lt_of_lt_of_le hb.1 szw)
                have bCn := BC4.out.below hbn
                have ownn := OwnR.out.below hbn (Nat.le_refl _) (fun _ d => d.elim)
                have Kpn := Lib.hid kpn
                have BCn := Lib.hid bCn
                have Ownn := Lib.hid ownn
                have szn := hbn.size
                clear kpn ownn q0 q1 q2 p0 p1 p2
                obtain ⟨⟨c0, c1, c2, c3⟩, f0, f1, f2, f3⟩ := bCn.four
                have zcn := bCn.lt
                clear bCn hbn hb0
                rcases Bool.eq_false_or_eq_true (rootAt g n != rootAt d n) with hq | hq
                · have Hq := Lib.hid (Hs1.out.trans (by rw [hq]))
                  have hne : some w3.heap.size ≠ vR.ownBlock := fun e => by have := (Ownn.out.base_le _ e.symm).1; omega
                  go_wp2_with (at_builtin; refine wpList_append_L (α := Int) (S := fun _ => False) (S' := fun _ => False) (us := [.int .i64 n]) (y := (n : Int)) rfl _ _ _ rfl Tryz.underlying26 infI szI rfl (Ownn.out.below (balloc (Below.refl _ _) _) (Nat.le_refl _) (fun _ d => d.elim)) rfl (Blk.new' (by simp) _ _) (by simp [Value.oneCell']) rfl (fun _ d => d) (fun _ d => d.elim) (by unfold maxLen; omega) (by omega) (by simp; omega) ?_; intro gg cap w6 own6 hg6 hat6 hlt6; have bC6 := (BCn.out.alloc _).grown hg6 hne; have BC6 := Lib.hid bC6; obtain ⟨⟨d0, d1, d2, d3⟩, e0, e1, e2, e3⟩ := bC6.four; clear bC6)
                  go_roundw
                  case rel => (have hz : RelR g d g.roots.length w3.heap.size wo (.slice AN (newL g d.o).length cN) (.slice AG gk.length cG) (.slice AS sk.length cS) (.int .i64 ((n : Int) + 1)) _ := ⟨n + 1, _, rk ++ [(n : Int)], by omega, by go_num, ((Kpn.out.alloc (fun b hb => hb.1) _).grown hg6 (fun b hb => hb.1) (fun b hb e => by have := (Ownn.out.base_le b e.symm).1; have := hb.1; omega)).setCell (fun d => d.2 rfl) _, BC6.out.set 3 _, own6.kp ((Kp.refl (fun b => b ≠ w3.heap.size) _).setCell (fun d => d rfl) _) (fun b hb => by have := (own6.base_le b hb).1; omega) (fun _ d => d.elim), by simp; omega, Hq.out.symm⟩; first | exact hz | ((repeat apply Exists.intro); exact ⟨hz, rfl⟩))
                  case measure => simp [intOf]; omega
                · have Hq := Lib.hid (Hs1.out.trans (show _ = rk by rw [hq]; simp))
                  go_wp2_with fail
                  go_roundw
                  case rel => (have hz : RelR g d g.roots.length w3.heap.size wo (.slice AN (newL g d.o).length cN) (.slice AG gk.length cG) (.slice AS sk.length cS) (.int .i64 ((n : Int) + 1)) _ := ⟨n + 1, vR, rk, by omega, by go_num, Kpn.out, BCn.out, Ownn.out, by omega, Hq.out.symm⟩; first | exact hz | ((repeat apply Exists.intro); exact ⟨hz, rfl⟩))
                  case measure => simp [intOf]; omega
              · have hmn : n = max g.roots.length d.roots.length := by have := hmx.out; omega
                have Hrr := Lib.hid (show rk = rootsD g d by rw [Hrk.out, hmn]; rfl)
                obtain ⟨AR, cR, rfl, hR1, hR2, hR3⟩ := OwnR.out.read szI (fun _ d => d.elim)
                have g2 := G2.out.kp Kpp.out ⟨by omega, by omega⟩ |>.kp Kp4.out ⟨by omega, by omega⟩
                have HR3 := Lib.hid hR3
                clear hmn hR3
                obtain ⟨⟨c0, c1, c2, c3⟩, f0, f1, f2, f3⟩ := BC4.out.four
                obtain ⟨⟨r0, r1, r2, r3⟩, t0, t1, t2, t3⟩ := g2.four
                have zr := g2.lt
                clear g2
                have Hr := Lib.hid (show diffOf g d = (⟨newL g d.o, gk, sk, rk⟩, 0) by simp [diffOf, Hm1.out, Hm2.out, Hs.out, Hds.out, Hrr.out])
                go_wp2_with fail
                refine bodyPost_ret (v := .tuple #[.agg #[.slice AN (newL g d.o).length cN, .slice AG gk.length cG, .slice AS sk.length cS, .slice AR rk.length cR], .int .i64 0]) (by simp [results, Tryz.results9, go_sem, *]) rfl ⟨below_set4 BW.out (by omega) _ _ _ _, ?_⟩
                rw [Hr.out]
                have k5 : Kp (fun b => w.heap.size + 2 < b ∧ b < wo.heap.size ∧ b ≠ w3.heap.size) wo wr := Kp4.out.mono fun b hb => hb.2
                have ks := set4 wr (w.heap.size + 1 + 1) (.slice AN (newL g d.o).length cN) (.slice AG gk.length cG) (.slice AS sk.length cS) (.slice AR rk.length cR)
                exact ⟨AN, cN, AG, cG, AS, cS, AR, cR, rfl, hN1, hN2, fin4 (HN4.out.kp k5) ks (fun b hb => ⟨by omega, by omega⟩), hV1, hV2, fin4 (HV4.out.kp k5) ks (fun b hb => ⟨by omega, by omega⟩), hS1, hS2, fin4 (HS4.out.kp k5) ks (fun b hb => ⟨by omega, by omega⟩), hR1, hR2, fin4 HR3.out ks (fun b hb => ⟨hb.1, by rcases hb.2 with h | h; omega; exact h.elim⟩)⟩
end
end Go.Proofs.YtgeegdnkheckcaaGreat
