/- The walks of package value: what a field may hold. -/
import Derived.Test.YtgeegdnkheckcaaGreatVal
set_option linter.unusedVariables false
namespace Go.Proofs.YtgeegdnkheckcaaGreat
open Lay (rep)
open Go.RowKit

section
variable {P : Program} {w : World}
theorem run_ta_yes {T xT : TypeId} {d : TypeDesc} (v : Value) (h : P.underlying T = some d) (hd : (match d with | .interface _ => true | _ => false) = false) :
    (Instr.typeAssert (.iface T v) xT T true).run P w = .ok (.tuple #[v, .bool true]) w := by
  cases d <;> simp_all [Instr.typeAssert, run_underlying h, go_sem, Result.andThen]
theorem run_ta_no {t T xT : TypeId} {d : TypeDesc} {i : TypeInfo} {z : Value} (v : Value) (h : P.underlying T = some d) (hd : (match d with | .interface _ => true | _ => false) = false) (hne : (t == T) = false)
    (hi : P.info? T = some i) (hz : i.zero = some z) :
    (Instr.typeAssert (.iface t v) xT T true).run P w = .ok (.tuple #[z, .bool false]) w := by
  have : t ≠ T := by simpa using hne
  cases d <;> simp_all [Instr.typeAssert, run_underlying h, go_sem, Result.andThen, zeroValue, typeInfo]
theorem run_ta_nil {T xT : TypeId} {d : TypeDesc} {i : TypeInfo} {z : Value} (h : P.underlying T = some d) (hd : (match d with | .interface _ => true | _ => false) = false)
    (hi : P.info? T = some i) (hz : i.zero = some z) :
    (Instr.typeAssert .nilIface xT T true).run P w = .ok (.tuple #[z, .bool false]) w := by
  cases d <;> simp_all [Instr.typeAssert, run_underlying h, go_sem, Result.andThen, zeroValue, typeInfo]
end

theorem info_zero {P : Program} {T : TypeId} {z : Value} (h : (P.info? T).map (·.zero) = some (some z)) : ∃ i, P.info? T = some i ∧ i.zero = some z := by
  obtain ⟨i, hi, hz⟩ := Option.map_eq_some_iff.1 h
  exact ⟨i, hi, hz⟩
theorem infoInt : ∃ i, Tryz.prog.info? 3 = some i ∧ i.zero = some (.int .i64 0) := info_zero (by kernel_rfl)
theorem infoStr : ∃ i, Tryz.prog.info? 9 = some i ∧ i.zero = some (.string ⟨#[]⟩) := info_zero (by kernel_rfl)
theorem infoId : ∃ i, Tryz.prog.info? 152 = some i ∧ i.zero = some (.int .i64 0) := info_zero (by kernel_rfl)

set_option maxRecDepth 100000 in
set_option maxHeartbeats 1000000 in
theorem value_fits_int0 {w : World} {n : Int} :
    Calls Tryz.prog 90 #[.int .i64 0, .iface 3 (.int .i64 n)] w fun e w' => e = .returned (.bool (n / 2 ^ 7 == 0 || n / 2 ^ 7 == -1)) ∧ w = w' := by
  have ta := fun (w : World) => run_ta_yes (P := Tryz.prog) (w := w) (xT := 20) (.int .i64 n) Tryz.underlying3 rfl
  go_enter Tryz.func90, Tryz.ntmps90
  go_wp2
  all_goals
    go_ret
    refine ⟨?_, rfl⟩
    first
      | rfl
      | (simp [*]; done)
      | (simp [*]; rfl)
set_option maxRecDepth 100000 in
set_option maxHeartbeats 1000000 in
theorem value_fits_int1 {w : World} {n : Int} :
    Calls Tryz.prog 90 #[.int .i64 1, .iface 3 (.int .i64 n)] w fun e w' => e = .returned (.bool (n / 2 ^ 15 == 0 || n / 2 ^ 15 == -1)) ∧ w = w' := by
  have ta := fun (w : World) => run_ta_yes (P := Tryz.prog) (w := w) (xT := 20) (.int .i64 n) Tryz.underlying3 rfl
  go_enter Tryz.func90, Tryz.ntmps90
  go_wp2
  all_goals
    go_ret
    refine ⟨?_, rfl⟩
    first
      | rfl
      | (simp [*]; done)
      | (simp [*]; rfl)
set_option maxRecDepth 100000 in
set_option maxHeartbeats 1000000 in
theorem value_fits_int2 {w : World} {n : Int} :
    Calls Tryz.prog 90 #[.int .i64 2, .iface 3 (.int .i64 n)] w fun e w' => e = .returned (.bool (n / 2 ^ 31 == 0 || n / 2 ^ 31 == -1)) ∧ w = w' := by
  have ta := fun (w : World) => run_ta_yes (P := Tryz.prog) (w := w) (xT := 20) (.int .i64 n) Tryz.underlying3 rfl
  go_enter Tryz.func90, Tryz.ntmps90
  go_wp2
  all_goals
    go_ret
    refine ⟨?_, rfl⟩
    first
      | rfl
      | (simp [*]; done)
      | (simp [*]; rfl)
set_option maxRecDepth 100000 in
set_option maxHeartbeats 1000000 in
theorem value_fits_int3 {w : World} {n : Int} :
    Calls Tryz.prog 90 #[.int .i64 3, .iface 3 (.int .i64 n)] w fun e w' => e = .returned (.bool (n / 2 ^ 63 == 0 || n / 2 ^ 63 == -1)) ∧ w = w' := by
  have ta := fun (w : World) => run_ta_yes (P := Tryz.prog) (w := w) (xT := 20) (.int .i64 n) Tryz.underlying3 rfl
  go_enter Tryz.func90, Tryz.ntmps90
  go_wp2
  all_goals
    go_ret
    refine ⟨?_, rfl⟩
    first
      | rfl
      | (simp [*]; done)
      | (simp [*]; rfl)

/-- A value that may be a field's of that kind. -/
def vfitsK (k : Int) (v : Vl) : Bool :=
  if 0 ≤ k ∧ k ≤ 3 ∧ v.s.toList = [] ∧ v.r = 0 then v.n / 2 ^ (8 * 2 ^ k.toNat - 1) == 0 || v.n / 2 ^ (8 * 2 ^ k.toNat - 1) == -1
  else if k = 4 ∧ v.n = 0 ∧ v.r = 0 then decide (v.s.size ≤ 12)
  else if k = 5 ∧ v.n = 0 ∧ v.s.toList = [] then decide (-1 ≤ v.r) && decide (v.r ≤ 1073741824)
  else false

set_option maxRecDepth 100000 in
theorem value_fits_str {w : World} {k : Int} {s : ByteArray} :
    Calls Tryz.prog 90 #[.int .i64 k, .iface 9 (.string s)] w fun e w' => e = .returned (.bool (decide (s.size ≤ 12))) ∧ w = w' := by
  obtain ⟨i, hi, hz⟩ := infoInt
  have ta1 := fun (w : World) => run_ta_no (P := Tryz.prog) (w := w) (xT := 20) (.string s) Tryz.underlying3 rfl (rfl : (9 == 3) = false) hi hz
  clear hi hz
  have ta := fun (w : World) => run_ta_yes (P := Tryz.prog) (w := w) (xT := 20) (.string s) Tryz.underlying9 rfl
  have H := Lib.hid (show decide (s.size ≤ 12) = decide ((s.size : Int) ≤ 12) from decide_eq_decide.2 (by omega))
  go_enter Tryz.func90, Tryz.ntmps90
  go_wp2
  go_ret
  exact ⟨by rw [H.out]; rfl, rfl⟩
set_option maxRecDepth 100000 in
theorem value_fits_id {w : World} {k n : Int} :
    Calls Tryz.prog 90 #[.int .i64 k, .iface 152 (.int .i64 n)] w fun e w' => e = .returned (.bool (decide (-1 ≤ n) && decide (n ≤ 1073741824))) ∧ w = w' := by
  obtain ⟨i, hi, hz⟩ := infoInt
  have ta1 := fun (w : World) => run_ta_no (P := Tryz.prog) (w := w) (xT := 20) (.int .i64 n) Tryz.underlying3 rfl (rfl : (152 == 3) = false) hi hz
  clear hi hz
  obtain ⟨i, hi, hz⟩ := infoStr
  have ta2 := fun (w : World) => run_ta_no (P := Tryz.prog) (w := w) (xT := 20) (.int .i64 n) Tryz.underlying9 rfl (rfl : (152 == 9) = false) hi hz
  clear hi hz
  have ta := fun (w : World) => run_ta_yes (P := Tryz.prog) (w := w) (xT := 20) (.int .i64 n) Tryz.underlying152 rfl
  rcases Bool.eq_false_or_eq_true (decide (-1 ≤ n)) with e1 | e1
  all_goals
    have H := Lib.hid e1
    go_enter Tryz.func90, Tryz.ntmps90
    go_wp2
    all_goals
      go_ret
      exact ⟨by rw [H.out]; rfl, rfl⟩
set_option maxRecDepth 100000 in
theorem value_fits_nil {w : World} {k : Int} :
    Calls Tryz.prog 90 #[.int .i64 k, .nilIface] w fun e w' => e = .returned (.bool false) ∧ w = w' := by
  obtain ⟨i, hi, hz⟩ := infoInt
  have ta1 := fun (w : World) => run_ta_nil (P := Tryz.prog) (w := w) (xT := 20) Tryz.underlying3 rfl hi hz
  clear hi hz
  obtain ⟨i, hi, hz⟩ := infoStr
  have ta2 := fun (w : World) => run_ta_nil (P := Tryz.prog) (w := w) (xT := 20) Tryz.underlying9 rfl hi hz
  clear hi hz
  obtain ⟨i, hi, hz⟩ := infoId
  have ta3 := fun (w : World) => run_ta_nil (P := Tryz.prog) (w := w) (xT := 20) Tryz.underlying152 rfl hi hz
  clear hi hz
  go_enter Tryz.func90, Tryz.ntmps90
  go_wp2
  go_ret
  exact ⟨rfl, rfl⟩

theorem value_fits {w : World} {k : Int} {v : Vl} :
    Calls Tryz.prog 90 #[.int .i64 k, ofV k v] w fun e w' => e = .returned (.bool (vfitsK k v)) ∧ w = w' := by
  unfold ofV vfitsK
  split
  · rename_i h
    obtain rfl | rfl | rfl | rfl : k = 0 ∨ k = 1 ∨ k = 2 ∨ k = 3 := by omega
    · exact value_fits_int0
    · exact value_fits_int1
    · exact value_fits_int2
    · exact value_fits_int3
  · split
    · exact value_fits_str
    · split
      · exact value_fits_id
      · exact value_fits_nil

def vfits (f : Fld) (v : Vl) : Bool := vfitsK f.kind v

set_option maxRecDepth 100000 in
set_option maxHeartbeats 1000000 in
theorem value_Fits {w : World} {f : Fld} {v : Vl} :
    Calls Tryz.prog 70 #[.agg #[.string f.name, .int .i64 f.kind, .string f.to], .agg #[.int .i64 v.n, .string v.s, .int .i64 v.r]] w fun e w' => e = .returned (.bool (vfits f v)) ∧ Below w.heap.size w w' := by
  go_enter Tryz.func70, Tryz.ntmps70
  go_wp2_with fail
  refine nameW fun W hW => ?_
  have b2 : Below w.heap.size w W := by rw [hW]; exact balloc (balloc (Below.refl _ _) _) _
  have f1 : W.cell? ⟨w.heap.size, 1, none⟩ = some (.int .i64 f.kind) := by rw [hW]; simp
  have f2 : W.cell? ⟨w.heap.size + 1, 0, none⟩ = some (.int .i64 v.n) := by rw [hW]; simp
  have f3 : W.cell? ⟨w.heap.size + 1, 1, none⟩ = some (.string v.s) := by rw [hW]; simp
  have f4 : W.cell? ⟨w.heap.size + 1, 2, none⟩ = some (.int .i64 v.r) := by rw [hW]; simp
  clear hW
  go_region_held3 (fun w' => Below W.heap.size W w' ∧ w'.cell? ⟨w.heap.size, 1, none⟩ = some (.int .i64 f.kind) ∧ w'.cell? ⟨w.heap.size + 1, 0, none⟩ = some (.int .i64 v.n) ∧ w'.cell? ⟨w.heap.size + 1, 1, none⟩ = some (.string v.s) ∧ w'.cell? ⟨w.heap.size + 1, 2, none⟩ = some (.int .i64 v.r))
    (first | exact ⟨(Below.refl _ _).drew, f1, f2, f3, f4⟩ | exact ⟨hb1, keep1 hb1 f1, keep1 hb1 f2, keep1 hb1 f3, keep1 hb1 f4⟩)
    (first | (go_at_call 91; refine value_of.mono ?_; rintro e w1 ⟨rfl, hb1⟩; replace hb1 := below_drew hb1) | (go_at_call 90; refine value_fits.mono ?_; rintro e w2 ⟨rfl, rfl⟩))
  go_wp2
  go_ret
  exact ⟨rfl, bthen b2 hb1⟩

/-- The value that a field has at first. -/
def vzero (f : Fld) : Vl := if f.kind = 5 then ⟨0, ⟨#[]⟩, -1⟩ else ⟨0, ⟨#[]⟩, 0⟩
end Go.Proofs.YtgeegdnkheckcaaGreat
