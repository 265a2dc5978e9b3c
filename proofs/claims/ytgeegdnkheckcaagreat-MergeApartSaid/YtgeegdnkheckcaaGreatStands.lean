/- The walks of merge.stands, at numbers and at values. -/
import Derived.Test.YtgeegdnkheckcaaGreatSide
import Derived.Test.YtgeegdnkheckcaaGreatClone
import Derived.RegionTactic
set_option linter.unusedVariables false
namespace Go.Proofs.YtgeegdnkheckcaaGreat
open Lay (rep)
open Go.RowKit

/-- The one of three that stands, and whether they do not clash. -/
def stands {α : Type} [DecidableEq α] (o a b : α) : α × Bool := if a = o then (b, true) else (a, decide (b = o) || decide (a = b))

theorem decide_beq (a b : Int) : decide (a = b) = (a == b) := by rw [Bool.eq_iff_iff]; simp

section
variable {w : World}
set_option maxRecDepth 100000 in
set_option maxHeartbeats 1000000 in
theorem stands_int {o a b : Int} :
    Calls Tryz.prog 47 #[.int .i64 o, .int .i64 a, .int .i64 b] w fun e w' => e = .returned (.tuple #[.int .i64 (stands o a b).1, .bool (stands o a b).2]) ∧ Below w.heap.size w w' := by
  rcases Bool.eq_false_or_eq_true (a == o) with e1 | e1
  · have H := Lib.hid (show stands o a b = (b, true) by have : a = o := by simpa using e1
                                                        simp [stands, this])
    go_enter Tryz.func47, Tryz.ntmps47
    go_wp2_with fail
    go_ret2
    exact ⟨by rw [H.out]; rfl, Below.refl _ _⟩
  · have hao : ¬ a = o := by simpa using e1
    rcases Bool.eq_false_or_eq_true (b == o) with e2 | e2
    · have H := Lib.hid (show stands o a b = (a, true) by have : b = o := by simpa using e2
                                                          simp [stands, hao, this])
      clear hao
      go_enter Tryz.func47, Tryz.ntmps47
      go_wp2_with fail
      go_ret2
      exact ⟨by rw [H.out]; rfl, Below.refl _ _⟩
    · have hbo : ¬ b = o := by simpa using e2
      rcases Bool.eq_false_or_eq_true (a == b) with e3 | e3
      all_goals
        have E3 := Lib.hid e3
        have H := Lib.hid (show stands o a b = (a, a == b) by rw [← decide_beq]; simp [stands, hao, hbo])
      · clear hao hbo
        go_enter Tryz.func47, Tryz.ntmps47
        go_wp2_with fail
        go_ret2
        exact ⟨by rw [H.out, E3.out]; rfl, Below.refl _ _⟩
      · clear hao hbo
        go_enter Tryz.func47, Tryz.ntmps47
        go_wp2_with fail
        go_ret2
        exact ⟨by rw [H.out, E3.out]; rfl, Below.refl _ _⟩

set_option maxRecDepth 100000 in
set_option maxHeartbeats 2000000 in
theorem stands_Val {o a b : Vl} :
    Calls Tryz.prog 72 #[.agg #[.int .i64 o.n, .string o.s, .int .i64 o.r], .agg #[.int .i64 a.n, .string a.s, .int .i64 a.r], .agg #[.int .i64 b.n, .string b.s, .int .i64 b.r]] w fun e w' =>
      e = .returned (.tuple #[.agg #[.int .i64 (stands o a b).1.n, .string (stands o a b).1.s, .int .i64 (stands o a b).1.r], .bool (stands o a b).2]) ∧ Below w.heap.size w w' := by
  have q1 := fun (d : Nat) (w : World) => eqVl d w a o
  have q2 := fun (d : Nat) (w : World) => eqVl d w b o
  have q3 := fun (d : Nat) (w : World) => eqVl d w a b
  rcases Bool.eq_false_or_eq_true (decide (a = o)) with e1 | e1
  · have H := Lib.hid (show stands o a b = (b, true) by have : a = o := by simpa using e1
                                                        simp [stands, this])
    go_enter Tryz.func72, Tryz.ntmps72
    go_wp2_with fail
    refine bodyPost_ret (v := .tuple #[.agg #[.int .i64 b.n, .string b.s, .int .i64 b.r], .bool true]) (by simp [results, Tryz.results72, go_sem, *]) rfl ⟨by rw [H.out], ?_⟩
    exact balloc (balloc (balloc (balloc (Below.refl _ _) _) _) _) _
  · have hao : ¬ a = o := by simpa using e1
    have H := Lib.hid (show stands o a b = (a, decide (b = o) || decide (a = b)) by simp [stands, hao])
    clear hao
    rcases Bool.eq_false_or_eq_true (decide (b = o)) with e2 | e2 <;> rcases Bool.eq_false_or_eq_true (decide (a = b)) with e3 | e3
    all_goals
      have E2 := Lib.hid e2
      have E3 := Lib.hid e3
      go_enter Tryz.func72, Tryz.ntmps72
      go_wp2_with fail
      go_region
      go_wp2
      refine bodyPost_ret (v := .tuple #[.agg #[.int .i64 a.n, .string a.s, .int .i64 a.r], .bool (decide (b = o) || decide (a = b))]) (by simp [results, Tryz.results72, go_sem, *]) rfl ⟨by rw [H.out], ?_⟩
      exact (balloc (balloc (balloc (balloc (Below.refl _ _) _) _) _) _).drew
end
end Go.Proofs.YtgeegdnkheckcaaGreat
