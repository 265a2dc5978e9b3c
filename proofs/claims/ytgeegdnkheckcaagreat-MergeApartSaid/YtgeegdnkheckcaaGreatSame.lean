/- The walks of schema.Same, graph.Same, diff.Same, diff.None. -/
import Derived.Test.YtgeegdnkheckcaaGreatEqf
set_option linter.unusedVariables false
namespace Go.Proofs.YtgeegdnkheckcaaGreat
open Lay (rep)
open Go.RowKit

section
variable {w W : World}
set_option maxRecDepth 100000 in
set_option maxHeartbeats 1000000 in
theorem ssame1_Calls {x y : Typ} {us vs : List Value} (hx : rep (Bel W) W us x) (hy : rep (Bel W) W vs y) :
    Calls Tryz.prog 54 (#[argOf us, argOf vs] ++ #[]) W fun e w' => e = .returned (.bool (decide (x = y))) ∧ Below W.heap.size W w' := by
  obtain ⟨F, cF, rfl, h1, h2, h3, _⟩ := hx
  obtain ⟨G, cG, rfl, g1, g2, g3, _⟩ := hy
  have hxy : x = y ↔ x.name = y.name ∧ x.f = y.f := by cases x; cases y; simp
  have hd : decide (x = y) = decide (x.name = y.name ∧ x.f = y.f) := decide_eq_decide.2 hxy
  have H3 := Lib.hid h3
  have G3 := Lib.hid g3
  have H2 := Lib.hid h2
  have G2 := Lib.hid g2
  clear h3 g3 h2 g2
  show Calls _ _ #[.agg #[.string x.name, .slice F x.f.length cF], .agg #[.string y.name, .slice G y.f.length cG]] _ _
  rcases Bool.eq_false_or_eq_true (decide (x.name = y.name)) with e1 | e1
  · have Hd := Lib.hid (show decide (x = y) = decide (x.f = y.f) by rw [hd, Bool.decide_and, e1, Bool.true_and])
    have e2 : (x.name.toList == y.name.toList) = true := by rw [beqs]; exact e1
    clear hd hxy e1
    go_enter Tryz.func54, Tryz.ntmps54
    go_wp2_with fail
    refine nameC fun V hV => ?_
    have bV : Below W.heap.size W V := by rw [hV]; exact balloc (balloc (Below.refl _ _) _) _
    clear hV
    refine (equal_Field h1 H2.out (H3.out.below bV) g1 G2.out (G3.out.below bV)).mono ?_
    rintro e w1 ⟨rfl, hb1⟩
    go_wp2_with fail
    go_ret
    exact ⟨by rw [Hd.out]; rfl, bthen bV hb1⟩
  · have Hd := Lib.hid (show decide (x = y) = false by rw [hd, Bool.decide_and, e1, Bool.false_and])
    have e2 : (x.name.toList == y.name.toList) = false := by rw [beqs]; exact e1
    clear hd hxy e1
    go_enter Tryz.func54, Tryz.ntmps54
    go_wp2_with fail
    go_ret
    exact ⟨by rw [Hd.out]; rfl, balloc (balloc (Below.refl _ _) _) _⟩

theorem ssame1_Pred : PredC2 Tryz.prog 54 #[] w (fun x y : Typ => decide (x = y)) :=
  ⟨enters_of Tryz.func54 (by kernel_rfl) rfl, fun W x us y vs _ hx hy => ssame1_Calls hx hy⟩

set_option maxRecDepth 100000 in
theorem schema_Same {A B : Option Addr} {c d : Nat} {s t : List Typ} (hc : s.length ≤ c) (hm : c ≤ maxLen) (hA : RepL (Bel w) w A s) (hd : t.length ≤ d) (hn : d ≤ maxLen) (hB : RepL (Bel w) w B t) :
    Calls Tryz.prog 25 #[.agg #[.slice A s.length c], .agg #[.slice B t.length d]] w fun e w' => e = .returned (.bool (decide (s = t))) ∧ Below w.heap.size w w' := by
  have Hm := Lib.hid hm
  have Hn := Lib.hid hn
  have HA := Lib.hid hA
  have HB := Lib.hid hB
  have He := Lib.hid (eqBy_dec s t)
  clear hm hn hA hB
  go_enter Tryz.func25, Tryz.ntmps25
  go_wp2_with fail
  refine nameC fun V hV => ?_
  have bV : Below w.heap.size w V := by rw [hV]; exact balloc (balloc (Below.refl _ _) _) _
  clear hV
  refine (equalFunc_Type hc Hm.out (HA.out.below bV) hd Hn.out (HB.out.below bV) ssame1_Pred).mono ?_
  rintro e w1 ⟨rfl, hb1⟩
  rw [He.out]
  go_wp2_with fail
  go_ret
  exact ⟨rfl, bthen bV hb1⟩

set_option maxRecDepth 100000 in
set_option maxHeartbeats 2000000 in
theorem gsame1_Calls {x y : Ob} {us vs : List Value} (hx : rep (Bel W) W us x) (hy : rep (Bel W) W vs y) :
    Calls Tryz.prog 33 (#[argOf us, argOf vs] ++ #[]) W fun e w' => e = .returned (.bool (decide (x = y))) ∧ Below W.heap.size W w' := by
  obtain ⟨F, cF, rfl, h1, h2, h3⟩ := hx
  obtain ⟨G, cG, rfl, g1, g2, g3⟩ := hy
  have hxy : x = y ↔ x.id = y.id ∧ x.t = y.t ∧ x.f = y.f := by cases x; cases y; simp
  have hd : decide (x = y) = decide (x.id = y.id ∧ x.t = y.t ∧ x.f = y.f) := decide_eq_decide.2 hxy
  have H3 := Lib.hid h3
  have G3 := Lib.hid g3
  have H2 := Lib.hid h2
  have G2 := Lib.hid g2
  clear h3 g3 h2 g2
  show Calls _ _ #[.agg #[.int .i64 x.id, .int .i64 x.t, .slice F x.f.length cF], .agg #[.int .i64 y.id, .int .i64 y.t, .slice G y.f.length cG]] _ _
  rcases Bool.eq_false_or_eq_true (x.id == y.id) with e1 | e1
  case inr =>
    have Hd := Lib.hid (show decide (x = y) = false by rw [hd]; have : ¬ x.id = y.id := by simpa using e1
                                                       simp [this])
    clear hd hxy
    go_enter Tryz.func33, Tryz.ntmps33
    go_wp2_with fail
    go_ret
    exact ⟨by rw [Hd.out]; rfl, balloc (balloc (Below.refl _ _) _) _⟩
  rcases Bool.eq_false_or_eq_true (x.t == y.t) with e2 | e2
  case inr =>
    have Hd := Lib.hid (show decide (x = y) = false by rw [hd]; have : ¬ x.t = y.t := by simpa using e2
                                                       simp [this])
    clear hd hxy
    go_enter Tryz.func33, Tryz.ntmps33
    go_wp2_with fail
    go_ret
    exact ⟨by rw [Hd.out]; rfl, balloc (balloc (Below.refl _ _) _) _⟩
  have Hd := Lib.hid (show decide (x = y) = decide (x.f = y.f) by
    rw [hd]
    have h1 : x.id = y.id := by simpa using e1
    have h2 : x.t = y.t := by simpa using e2
    simp [h1, h2])
  clear hd hxy
  go_enter Tryz.func33, Tryz.ntmps33
  go_wp2_with fail
  refine nameC fun V hV => ?_
  have bV : Below W.heap.size W V := by rw [hV]; exact balloc (balloc (Below.refl _ _) _) _
  clear hV
  refine (equal_Val h1 H2.out (H3.out.below bV) g1 G2.out (G3.out.below bV)).mono ?_
  rintro e w1 ⟨rfl, hb1⟩
  go_wp2_with fail
  go_ret
  exact ⟨by rw [Hd.out]; rfl, bthen bV hb1⟩

theorem gsame1_Pred : PredC2 Tryz.prog 33 #[] w (fun x y : Ob => decide (x = y)) :=
  ⟨enters_of Tryz.func33 (by kernel_rfl) rfl, fun W x us y vs _ hx hy => gsame1_Calls hx hy⟩

variable {As : Option Addr} {cs : Nat} {Ao : Option Addr} {co : Nat} {Ar : Option Addr} {cr : Nat} {g : Gr}
variable {Bs : Option Addr} {ds : Nat} {Bo : Option Addr} {do_ : Nat} {Br : Option Addr} {dr : Nat} {h : Gr}
set_option maxRecDepth 100000 in
set_option maxHeartbeats 2000000 in
theorem graph_Same (hg : GOK w As cs Ao co Ar cr g) (hh : GOK w Bs ds Bo do_ Br dr h) :
    Calls Tryz.prog 12 #[gv As cs Ao co Ar cr g, gv Bs ds Bo do_ Br dr h] w fun e w' => e = .returned (.bool (decide (g = h))) ∧ Below w.heap.size w w' := by
  have Hg := Lib.hid hg
  have Hh := Lib.hid hh
  clear hg hh
  have hxy : g = h ↔ g.s = h.s ∧ g.roots = h.roots ∧ g.o = h.o := by
    cases g; cases h; simp only [Gr.mk.injEq]
    constructor
    · rintro ⟨a, b, c⟩; exact ⟨a, c, b⟩
    · rintro ⟨a, b, c⟩; exact ⟨a, c, b⟩
  have Hd := Lib.hid (show decide (g = h) = (decide (g.s = h.s) && (decide (g.roots = h.roots) && decide (g.o = h.o))) by rw [show decide (g = h) = decide (g.s = h.s ∧ g.roots = h.roots ∧ g.o = h.o) from decide_eq_decide.2 hxy]; simp)
  have He := Lib.hid (eqBy_dec g.o h.o)
  clear hxy
  go_enter Tryz.func12, Tryz.ntmps12
  go_wp2_with fail
  refine nameC fun V hV => ?_
  have bV : Below w.heap.size w V := by rw [hV]; exact balloc (balloc (Below.refl _ _) _) _
  have q1 : V.cell? ⟨w.heap.size, 1, none⟩ = some (.slice Ao g.o.length co) := by rw [hV]; go_simp
  have q2 : V.cell? ⟨w.heap.size, 2, none⟩ = some (.slice Ar g.roots.length cr) := by rw [hV]; go_simp
  have p1 : V.cell? ⟨w.heap.size + 1, 1, none⟩ = some (.slice Bo h.o.length do_) := by rw [hV]; go_simp
  have p2 : V.cell? ⟨w.heap.size + 1, 2, none⟩ = some (.slice Br h.roots.length dr) := by rw [hV]; go_simp
  clear hV
  refine (schema_Same Hg.out.s1 Hg.out.s2 (Hg.out.s.below bV) Hh.out.s1 Hh.out.s2 (Hh.out.s.below bV)).mono ?_
  rintro e w1 ⟨rfl, hb1⟩
  replace q1 := keep1 hb1 q1
  replace q2 := keep1 hb1 q2
  replace p1 := keep1 hb1 p1
  replace p2 := keep1 hb1 p2
  have b1 := bthen bV hb1
  clear bV hb1
  rcases Bool.eq_false_or_eq_true (decide (g.s = h.s)) with e1 | e1
  case inr =>
    have Hf := Lib.hid (Hd.out.trans (by rw [e1, Bool.false_and]))
    go_wp2_with fail
    go_ret
    exact ⟨by rw [Hf.out]; rfl, b1⟩
  have E1 := Lib.hid e1
  go_wp2_with fail
  refine (equal_int Hg.out.r1 Hg.out.r2 (Hg.out.r.below b1) Hh.out.r1 Hh.out.r2 (Hh.out.r.below b1)).mono ?_
  rintro e w2 ⟨rfl, hb2⟩
  replace q1 := keep1 hb2 q1
  replace p1 := keep1 hb2 p1
  have b2 := bthen b1 hb2
  clear hb2
  rcases Bool.eq_false_or_eq_true (decide (g.roots = h.roots)) with e2 | e2
  case inr =>
    have Hf := Lib.hid (Hd.out.trans (by rw [e1, e2, Bool.true_and, Bool.false_and]))
    go_wp2_with fail
    go_ret
    exact ⟨by rw [Hf.out]; rfl, b2⟩
  have Hf := Lib.hid (Hd.out.trans (by rw [e1, e2, Bool.true_and, Bool.true_and]))
  go_wp2_with fail
  refine (equalFunc_Obj Hg.out.o1 Hg.out.o2 (Hg.out.o.below b2) Hh.out.o1 Hh.out.o2 (Hh.out.o.below b2) gsame1_Pred).mono ?_
  rintro e w3 ⟨rfl, hb3⟩
  rw [He.out]
  go_wp2_with fail
  go_ret
  exact ⟨by rw [Hf.out]; rfl, bthen b2 hb3⟩
end
end Go.Proofs.YtgeegdnkheckcaaGreat
