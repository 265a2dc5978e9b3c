/- The walks of diff.Same and diff.None: changes. -/
import Derived.Test.YtmadgnaffpkccaaSame
import Derived.ChangeKeysEq
set_option linter.unusedVariables false
namespace Go.Proofs.Ytmadgnaffpkccaa
open Lay (rep)
open Go.RowKit

structure Ch where
  new : List Int
  gone : List Int
  set : List (Int × Int)
  roots : List Int
  deriving DecidableEq
instance : Inhabited Ch := ⟨⟨[], [], [], []⟩⟩
/-- A change's value: four slices. -/
@[reducible] def cv (An : Option Addr) (cn : Nat) (Ag : Option Addr) (cg : Nat) (As : Option Addr) (cs : Nat) (Ar : Option Addr) (cr : Nat) (c : Ch) : Value :=
  .agg #[.slice An c.new.length cn, .slice Ag c.gone.length cg, .slice As c.set.length cs, .slice Ar c.roots.length cr]
structure COK (w : World) (An : Option Addr) (cn : Nat) (Ag : Option Addr) (cg : Nat) (As : Option Addr) (cs : Nat) (Ar : Option Addr) (cr : Nat) (c : Ch) : Prop where
  n1 : c.new.length ≤ cn
  n2 : cn ≤ maxLen
  n : RepL (Bel w) w An c.new
  g1 : c.gone.length ≤ cg
  g2 : cg ≤ maxLen
  g : RepL (Bel w) w Ag c.gone
  s1 : c.set.length ≤ cs
  s2 : cs ≤ maxLen
  s : RepL (Bel w) w As c.set
  r1 : c.roots.length ≤ cr
  r2 : cr ≤ maxLen
  r : RepL (Bel w) w Ar c.roots
theorem COK.below {w W : World} {An : Option Addr} {cn : Nat} {Ag : Option Addr} {cg : Nat} {As : Option Addr} {cs : Nat} {Ar : Option Addr} {cr : Nat} {c : Ch} (h : COK w An cn Ag cg As cs Ar cr c) (hb : Below w.heap.size w W) : COK W An cn Ag cg As cs Ar cr c :=
  ⟨h.n1, h.n2, h.n.below hb, h.g1, h.g2, h.g.below hb, h.s1, h.s2, h.s.below hb, h.r1, h.r2, h.r.below hb⟩

theorem eqPair (d : Nat) (w : World) (x y : Int × Int) : (Op.equalIn (d + 3) 75 (.agg #[.int .i64 x.1, .int .i64 x.2]) (.agg #[.int .i64 y.1, .int .i64 y.2])).run Try.prog w = .ok (decide (x = y)) w := by
  have hd : decide (x = y) = (x.1 == y.1 && x.2 == y.2) := by rw [Bool.eq_iff_iff]; cases x; cases y; simp
  rw [hd]
  clear hd
  obtain ⟨i, hi, _⟩ := infoInt
  have hc : Try.prog.cellsOf 3 = 1 := by kernel_rfl
  rw [show d + 3 = (d + 2) + 1 from rfl, run_equalIn_array (P := Try.prog) w (d + 2) _ _ Try.underlying75 hi, hc]
  have hr : List.range 2 = [0, 1] := rfl
  rw [hr]
  by_cases h1 : x.1 = y.1 <;> by_cases h2 : x.2 = y.2
  all_goals
    simp only [Op.eqItems]
    go_simp

section
variable {w W : World}
set_option maxRecDepth 100000 in
set_option maxHeartbeats 1000000 in
theorem dsame1_Calls {x y : Int × Int} {us vs : List Value} (hx : rep (Bel W) W us x) (hy : rep (Bel W) W vs y) :
    Calls Try.prog 33 (#[argOf us, argOf vs] ++ #[]) W fun e w' => e = .returned (.bool (decide (x = y))) ∧ Below W.heap.size W w' := by
  obtain rfl : us = [.int .i64 x.1, .int .i64 x.2] := hx
  obtain rfl : vs = [.int .i64 y.1, .int .i64 y.2] := hy
  have eqv := fun (d : Nat) (w : World) => eqPair d w x y
  show Calls _ _ #[.agg #[.int .i64 x.1, .int .i64 x.2], .agg #[.int .i64 y.1, .int .i64 y.2]] _ _
  go_enter Try.func33, Try.ntmps33
  go_wp2_with fail
  go_ret
  exact ⟨rfl, balloc (balloc (Below.refl _ _) _) _⟩
theorem dsame1_Pred : PredC2 Try.prog 33 #[] w (fun x y : Int × Int => decide (x = y)) :=
  ⟨enters_of Try.func33 (by kernel_rfl) rfl, fun W x us y vs _ hx hy => dsame1_Calls hx hy⟩

variable {An : Option Addr} {cn : Nat} {Ag : Option Addr} {cg : Nat} {As : Option Addr} {cs : Nat} {Ar : Option Addr} {cr : Nat} {c : Ch}
variable {Bn : Option Addr} {dn : Nat} {Bg : Option Addr} {dg : Nat} {Bs : Option Addr} {ds : Nat} {Br : Option Addr} {dr : Nat} {d : Ch}
set_option maxRecDepth 100000 in
set_option maxHeartbeats 2000000 in
theorem diff_Same (hc : COK w An cn Ag cg As cs Ar cr c) (hd : COK w Bn dn Bg dg Bs ds Br dr d) :
    Calls Try.prog 10 #[cv An cn Ag cg As cs Ar cr c, cv Bn dn Bg dg Bs ds Br dr d] w fun e w' => e = .returned (.bool (decide (c = d))) ∧ Below w.heap.size w w' := by
  have Hc := Lib.hid hc
  have Hh := Lib.hid hd
  clear hc hd
  have hxy : c = d ↔ c.set = d.set ∧ c.new = d.new ∧ c.gone = d.gone ∧ c.roots = d.roots := by
    cases c; cases d; simp only [Ch.mk.injEq]
    constructor
    · rintro ⟨a, b, c, d⟩; exact ⟨c, a, b, d⟩
    · rintro ⟨a, b, c, d⟩; exact ⟨b, c, a, d⟩
  have Hd := Lib.hid (show decide (c = d) = (decide (c.set = d.set) && (decide (c.new = d.new) && (decide (c.gone = d.gone) && decide (c.roots = d.roots)))) by
    rw [show decide (c = d) = decide (c.set = d.set ∧ c.new = d.new ∧ c.gone = d.gone ∧ c.roots = d.roots) from decide_eq_decide.2 hxy]; simp)
  have He := Lib.hid (eqBy_dec c.set d.set)
  clear hxy
  go_enter Try.func10, Try.ntmps10
  go_wp2_with fail
  refine nameC fun V hV => ?_
  have bV : Below w.heap.size w V := by rw [hV]; exact balloc (balloc (Below.refl _ _) _) _
  have q0 : V.cell? ⟨w.heap.size, 0, none⟩ = some (.slice An c.new.length cn) := by rw [hV]; go_simp
  have q1 : V.cell? ⟨w.heap.size, 1, none⟩ = some (.slice Ag c.gone.length cg) := by rw [hV]; go_simp
  have q3 : V.cell? ⟨w.heap.size, 3, none⟩ = some (.slice Ar c.roots.length cr) := by rw [hV]; go_simp
  have p0 : V.cell? ⟨w.heap.size + 1, 0, none⟩ = some (.slice Bn d.new.length dn) := by rw [hV]; go_simp
  have p1 : V.cell? ⟨w.heap.size + 1, 1, none⟩ = some (.slice Bg d.gone.length dg) := by rw [hV]; go_simp
  have p3 : V.cell? ⟨w.heap.size + 1, 3, none⟩ = some (.slice Br d.roots.length dr) := by rw [hV]; go_simp
  clear hV
  refine (equalFunc_pair Hc.out.s1 Hc.out.s2 (Hc.out.s.below bV) Hh.out.s1 Hh.out.s2 (Hh.out.s.below bV) dsame1_Pred).mono ?_
  rintro e w1 ⟨rfl, hb1⟩
  rw [He.out]
  replace q0 := keep1 hb1 q0
  replace q1 := keep1 hb1 q1
  replace q3 := keep1 hb1 q3
  replace p0 := keep1 hb1 p0
  replace p1 := keep1 hb1 p1
  replace p3 := keep1 hb1 p3
  have b1 := bthen bV hb1
  clear bV hb1
  rcases Bool.eq_false_or_eq_true (decide (c.set = d.set)) with e1 | e1
  case inr =>
    have Hf := Lib.hid (Hd.out.trans (by rw [e1, Bool.false_and]))
    go_wp2_with fail
    go_ret
    exact ⟨by rw [Hf.out]; rfl, b1⟩
  go_wp2_with fail
  refine (equal_int Hc.out.n1 Hc.out.n2 (Hc.out.n.below b1) Hh.out.n1 Hh.out.n2 (Hh.out.n.below b1)).mono ?_
  rintro e w2 ⟨rfl, hb2⟩
  replace q1 := keep1 hb2 q1
  replace p1 := keep1 hb2 p1
  replace q3 := keep1 hb2 q3
  replace p3 := keep1 hb2 p3
  have b2 := bthen b1 hb2
  clear hb2 q0 p0
  rcases Bool.eq_false_or_eq_true (decide (c.new = d.new)) with e2 | e2
  case inr =>
    have Hf := Lib.hid (Hd.out.trans (by rw [e1, e2, Bool.true_and, Bool.false_and]))
    go_wp2_with fail
    go_ret
    exact ⟨by rw [Hf.out]; rfl, b2⟩
  go_wp2_with fail
  refine (equal_int Hc.out.g1 Hc.out.g2 (Hc.out.g.below b2) Hh.out.g1 Hh.out.g2 (Hh.out.g.below b2)).mono ?_
  rintro e w3 ⟨rfl, hb3⟩
  replace q3 := keep1 hb3 q3
  replace p3 := keep1 hb3 p3
  have b3 := bthen b2 hb3
  clear hb3 q1 p1
  rcases Bool.eq_false_or_eq_true (decide (c.gone = d.gone)) with e3 | e3
  case inr =>
    have Hf := Lib.hid (Hd.out.trans (by rw [e1, e2, e3, Bool.true_and, Bool.true_and, Bool.false_and]))
    go_wp2_with fail
    go_ret
    exact ⟨by rw [Hf.out]; rfl, b3⟩
  have Hf := Lib.hid (Hd.out.trans (by rw [e1, e2, e3, Bool.true_and, Bool.true_and, Bool.true_and]))
  go_wp2_with fail
  refine (equal_int Hc.out.r1 Hc.out.r2 (Hc.out.r.below b3) Hh.out.r1 Hh.out.r2 (Hh.out.r.below b3)).mono ?_
  rintro e w4 ⟨rfl, hb4⟩
  go_wp2_with fail
  go_ret
  exact ⟨by rw [Hf.out]; rfl, bthen b3 hb4⟩

def cnone (c : Ch) : Bool := decide (c.new.length + c.gone.length + c.set.length + c.roots.length = 0)
set_option maxRecDepth 100000 in
theorem diff_None (hl : c.new.length + c.gone.length + c.set.length + c.roots.length ≤ 1000000) :
    Calls Try.prog 20 #[cv An cn Ag cg As cs Ar cr c] w fun e w' => e = .returned (.bool (cnone c)) ∧ Below w.heap.size w w' := by
  have H := Lib.hid (show cnone c = (((c.new.length : Int) + c.gone.length + c.set.length + c.roots.length) == 0) by
    unfold cnone; rw [Bool.eq_iff_iff, decide_eq_true_iff, beq_iff_eq]; omega)
  go_enter Try.func20, Try.ntmps20
  go_wp2_with fail
  go_ret
  exact ⟨by rw [H.out]; rfl, balloc (Below.refl _ _) _⟩
end
end Go.Proofs.Ytmadgnaffpkccaa
