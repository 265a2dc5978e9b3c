/- The walks of package value: what a field may hold. -/
import Derived.Test.YtgeegdnkheckcaaGreatName
import Derived.Deep.RegionHeld3
import Derived.Laws.StructEq
import Derived.Laws.Shifts
import Derived.Laws.ShiftsVar
set_option linter.unusedVariables false
namespace Go.Proofs.YtgeegdnkheckcaaGreat
open Lay (rep)
open Go.RowKit

/-- What a value holds as a field of that kind has it. -/
def ofV (k : Int) (v : Vl) : Value :=
  if 0 ≤ k ∧ k ≤ 3 ∧ v.s.toList = [] ∧ v.r = 0 then .iface 3 (.int .i64 v.n)
  else if k = 4 ∧ v.n = 0 ∧ v.r = 0 then .iface 9 (.string v.s)
  else if k = 5 ∧ v.n = 0 ∧ v.s.toList = [] then .iface 152 (.int .i64 v.r)
  else .nilIface

set_option maxRecDepth 100000 in
set_option maxHeartbeats 1000000 in
theorem value_of {w : World} {k : Int} {v : Vl}  :
    Calls Tryz.prog 91 #[.int .i64 k, .agg #[.int .i64 v.n, .string v.s, .int .i64 v.r]] w fun e w' => e = .returned (ofV k v) ∧ Below w.heap.size w w' := by
  rcases Bool.eq_false_or_eq_true (decide ((0 : Int) ≤ k)) with e1 | e1 <;> rcases Bool.eq_false_or_eq_true (decide (k ≤ 3)) with e2 | e2
  all_goals
    have H1 := Lib.hid e1
    have H2 := Lib.hid e2
    go_enter Tryz.func91, Tryz.ntmps91
    go_wp2
    all_goals
      go_ret
      refine ⟨?_, (Below.refl _ _).alloc (Nat.le_refl _) _⟩
      have h1 := H1.out
      have h2 := H2.out
      simp at h1 h2
      first
        | (simp [ofV, *]; done)
        | (simp [ofV, *]; omega)
end Go.Proofs.YtgeegdnkheckcaaGreat
