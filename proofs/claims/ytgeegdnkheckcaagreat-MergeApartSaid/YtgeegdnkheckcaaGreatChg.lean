/- The walks of diff.Same and diff.None: changes. -/
import Derived.Test.YtgeegdnkheckcaaGreatSame
import Derived.ChangeKeysEq
set_option linter.unusedVariables false
namespace Go.Proofs.YtgeegdnkheckcaaGreat
open Lay (rep)
open Go.RowKit

structure Ch where
  new : List Int
  gone : List Int
  set : List (Int × Int)
  roots : List Int
  deriving DecidableEq
instance : Inhabited Ch := ⟨⟨[], [], [], []⟩⟩
/-- A change's value: four slices. -/
@[reducible] def cv (An : Option Addr) (cn : Nat) (Ag : Option Addr) (cg : Nat) (As : Option Addr) (cs : Nat) (Ar : Option Addr) (cr : Nat) (c : Ch) : Value :=
  .agg #[.slice An c.new.length cn, .slice Ag c.gone.length cg, .slice As c.set.length cs, .slice Ar c.roots.length cr]
structure COK (w : World) (An : Option Addr) (cn : Nat) (Ag : Option Addr) (cg : Nat) (As : Option Addr) (cs : Nat) (Ar : Option Addr) (cr : Nat) (c : Ch) : Prop where
  n1 : c.new.length ≤ cn
  n2 : cn ≤ maxLen
  n : RepL (Bel w) w An c.new
  g1 : c.gone.length ≤ cg
  g2 : cg ≤ maxLen
  g : RepL (Bel w) w Ag c.gone
  s1 : c.set.length ≤ cs
  s2 : cs ≤ maxLen
  s : RepL (Bel w) w As c.set
  r1 : c.roots.length ≤ cr
  r2 : cr ≤ maxLen
  r : RepL (Bel w) w Ar c.roots
theorem COK.below {w W : World} {An : Option Addr} {cn : Nat} {Ag : Option Addr} {cg : Nat} {As : Option Addr} {cs : Nat} {Ar : Option Addr} {cr : Nat} {c : Ch} (h : COK w An cn Ag cg As cs Ar cr c) (hb : Below w.heap.size w W) : COK W An cn Ag cg As cs Ar cr c :=
  ⟨h.n1, h.n2, h.n.below hb, h.g1, h.g2, h.g.below hb, h.s1, h.s2, h.s.below hb, h.r1, h.r2, h.r.below hb⟩

theorem eqPair (d : Nat) (w : World) (x y : Int × Int) : (Op.equalIn (d + 3) 69 (.agg #[.int .i64 x.1, .int .i64 x.2]) (.agg #[.int .i64 y.1, .int .i64 y.2])).run Tryz.prog w = .ok (decide (x = y)) w := by
  have hd : decide (x = y) = (x.1 == y.1 && x.2 == y.2) := by rw [Bool.eq_iff_iff]; cases x; cases y; simp
  rw [hd]
  clear hd
  obtain ⟨i, hi, _⟩ := infoInt
  have hc : Tryz.prog.cellsOf 3 = 1 := by kernel_rfl
  rw [show d + 3 = (d + 2) + 1 from rfl, run_equalIn_array (P := Tryz.prog) w (d + 2) _ _ Tryz.underlying69 hi, hc]
  have hr : List.range 2 = [0, 1] := rfl
  rw [hr]
  by_cases h1 : x.1 = y.1 <;> by_cases h2 : x.2 = y.2
  all_goals
    simp only [Op.eqItems]
    go_simp

section
variable {w W : World}
variable {An : Option Addr} {cn : Nat} {Ag : Option Addr} {cg : Nat} {As : Option Addr} {cs : Nat} {Ar : Option Addr} {cr : Nat} {c : Ch}
variable {Bn : Option Addr} {dn : Nat} {Bg : Option Addr} {dg : Nat} {Bs : Option Addr} {ds : Nat} {Br : Option Addr} {dr : Nat} {d : Ch}
def cnone (c : Ch) : Bool := decide (c.new.length + c.gone.length + c.set.length + c.roots.length = 0)
set_option maxRecDepth 100000 in
theorem diff_None (hl : c.new.length + c.gone.length + c.set.length + c.roots.length ≤ 1000000) :
    Calls Tryz.prog 11 #[cv An cn Ag cg As cs Ar cr c] w fun e w' => e = .returned (.bool (cnone c)) ∧ Below w.heap.size w w' := by
  have H := Lib.hid (show cnone c = (((c.new.length : Int) + c.gone.length + c.set.length + c.roots.length) == 0) by
    unfold cnone; rw [Bool.eq_iff_iff, decide_eq_true_iff, beq_iff_eq]; omega)
  go_enter Tryz.func11, Tryz.ntmps11
  go_wp2_with fail
  go_ret
  exact ⟨by rw [H.out]; rfl, balloc (Below.refl _ _) _⟩
end
end Go.Proofs.YtgeegdnkheckcaaGreat
