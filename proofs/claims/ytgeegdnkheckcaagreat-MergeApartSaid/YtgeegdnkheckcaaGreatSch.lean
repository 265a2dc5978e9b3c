/- The walks of package schema, and what it calls: types and fields by their names. -/
import Derived.Test.YtgeegdnkheckcaaGreatVal2
import Derived.Shelf.Abstract
import Derived.KernelRfl
set_option linter.unusedVariables false
namespace Go.Proofs.YtgeegdnkheckcaaGreat
open Lay (rep)
open Go.RowKit

theorem beqs (a b : ByteArray) : (a.toList == b.toList) = decide (a = b) := by
  rw [ByteArray.toList_eq, ByteArray.toList_eq, Bool.eq_iff_iff, beq_iff_eq, decide_eq_true_iff]
  constructor
  · intro h
    cases a; cases b
    simp only [ByteArray.mk.injEq]
    exact Array.toList_inj.1 h
  · rintro rfl; rfl

set_option maxRecDepth 100000 in
theorem find1_Calls {w W : World} {x : Typ} {us : List Value} {n : ByteArray} {B : Nat} (hc : w.cell? ⟨B, 0, none⟩ = some (.string n)) (hb : Below w.heap.size w W) (hr : rep (Bel W) W us x) :
    Calls Tryz.prog 87 #[argOf us, .pointer (some ⟨B, 0, none⟩)] W fun e w' => e = .returned (.bool (decide (x.name = n))) ∧ Below W.heap.size W w' := by
  obtain ⟨F, cF, rfl, h1, h2, h3⟩ := hr
  have hB := hb.size
  have hB' := block_lt hc
  have hc' := (cell_keep (hb.block B hB')).trans hc
  clear hc h3
  have hB2 : B < W.heap.size := by omega
  show Calls _ _ #[.agg #[.string x.name, .slice F x.f.length cF], .pointer (some ⟨B, 0, none⟩)] _ _
  go_enter Tryz.func87, Tryz.ntmps87
  go_wp2
  go_ret
  exact ⟨by rw [← beqs]; rfl, (Below.refl _ _).alloc (Nat.le_refl _) _⟩

set_option maxRecDepth 100000 in
theorem field1_Calls {w W : World} {x : Fld} {us : List Value} {n : ByteArray} {B : Nat} (hc : w.cell? ⟨B, 0, none⟩ = some (.string n)) (hb : Below w.heap.size w W) (hr : rep (Bel W) W us x) :
    Calls Tryz.prog 89 #[argOf us, .pointer (some ⟨B, 0, none⟩)] W fun e w' => e = .returned (.bool (decide (x.name = n))) ∧ Below W.heap.size W w' := by
  obtain ⟨rfl, _, _⟩ := hr
  have hB := hb.size
  have hB' := block_lt hc
  have hc' := (cell_keep (hb.block B hB')).trans hc
  clear hc
  have hB2 : B < W.heap.size := by omega
  show Calls _ _ #[.agg #[.string x.name, .int .i64 x.kind, .string x.to], .pointer (some ⟨B, 0, none⟩)] _ _
  go_enter Tryz.func89, Tryz.ntmps89
  go_wp2
  go_ret
  exact ⟨by rw [← beqs]; rfl, (Below.refl _ _).alloc (Nat.le_refl _) _⟩

set_option maxRecDepth 100000 in
theorem schema_Find {w : World} {A : Option Addr} {c : Nat} {s : List Typ} {n : ByteArray} (hc : s.length ≤ c) (hm : c ≤ maxLen) (hA : RepL (Bel w) w A s) :
    Calls Tryz.prog 65 #[.agg #[.slice A s.length c], .string n] w fun e w' => e = .returned (.int .i64 (sfind s n)) ∧ Below w.heap.size w w' := by
  have Hm := Lib.hid hm
  unfold maxLen at hm
  have HA := Lib.hid hA
  clear hA
  go_enter Tryz.func65, Tryz.ntmps65
  go_wp2_with fail
  refine nameC fun W hW => ?_
  have b2 : Below w.heap.size w W := by rw [hW]; exact balloc (balloc (Below.refl _ _) _) _
  have f1 : W.cell? ⟨w.heap.size + 1, 0, none⟩ = some (.string n) := by rw [hW]; simp
  clear hW
  have hp : PredC Tryz.prog 87 #[.pointer (some ⟨w.heap.size + 1, 0, none⟩)] W s (fun t => decide (t.name = n)) := ⟨enters_of Tryz.func87 (by kernel_rfl) rfl, fun W x us _ hb hr => find1_Calls f1 hb hr⟩
  refine (indexFunc_Type hc Hm.out (HA.out.below b2) hp).mono ?_
  rintro e w' ⟨rfl, hb⟩
  go_wp2
  go_ret
  exact ⟨rfl, bthen b2 hb⟩

set_option maxRecDepth 100000 in
theorem schema_Field {w : World} {A : Option Addr} {c : Nat} {t : Typ} {n : ByteArray} (hc : t.f.length ≤ c) (hm : c ≤ maxLen) (hA : RepL (Bel w) w A t.f) :
    Calls Tryz.prog 67 #[.agg #[.string t.name, .slice A t.f.length c], .string n] w fun e w' => e = .returned (.int .i64 (tfield t n)) ∧ Below w.heap.size w w' := by
  have Hm := Lib.hid hm
  unfold maxLen at hm
  have HA := Lib.hid hA
  clear hA
  go_enter Tryz.func67, Tryz.ntmps67
  go_wp2_with fail
  refine nameC fun W hW => ?_
  have b2 : Below w.heap.size w W := by rw [hW]; exact balloc (balloc (Below.refl _ _) _) _
  have f1 : W.cell? ⟨w.heap.size + 1, 0, none⟩ = some (.string n) := by rw [hW]; simp
  clear hW
  have hp : PredC Tryz.prog 89 #[.pointer (some ⟨w.heap.size + 1, 0, none⟩)] W t.f (fun f => decide (f.name = n)) := ⟨enters_of Tryz.func89 (by kernel_rfl) rfl, fun W x us _ hb hr => field1_Calls f1 hb hr⟩
  refine (indexFunc_Field hc Hm.out (HA.out.below b2) hp).mono ?_
  rintro e w' ⟨rfl, hb⟩
  go_wp2
  go_ret
  exact ⟨rfl, bthen b2 hb⟩

set_option maxRecDepth 100000 in
set_option maxHeartbeats 1000000 in
theorem schema_field {w : World} {A : Option Addr} {c : Nat} {s : List Typ} {f : Fld} (hc : s.length ≤ c) (hm : c ≤ maxLen) (hn : f.name.size ≤ 9223372036854775807) (hA : RepL (Bel w) w A s) :
    Calls Tryz.prog 66 #[.agg #[.slice A s.length c], .agg #[.string f.name, .int .i64 f.kind, .string f.to]] w fun e w' => e = .returned (.bool (fieldOk s f)) ∧ Below w.heap.size w w' := by
  have Hm := Lib.hid hm
  unfold maxLen at hm
  have Hn := Lib.hid hn
  clear hn
  have HA := Lib.hid hA
  clear hA
  by_cases hk : f.kind = 5
  · have Hk := Lib.hid hk
    have e1 : (f.kind == 5) = true := by simp [hk]
    have k0 : decide ((0 : Int) ≤ f.kind) = true := by simp [hk]
    have k6 : decide (f.kind < 6) = true := by simp [hk]
    clear hk
    go_enter Tryz.func66, Tryz.ntmps66
    go_wp2_with fail
    refine nameC fun W hW => ?_
    have b2 : Below w.heap.size w W := by rw [hW]; exact balloc (balloc (Below.refl _ _) _) _
    have f1 : W.cell? ⟨w.heap.size + 1, 0, none⟩ = some (.string f.name) := by rw [hW]; simp
    have f2 : W.cell? ⟨w.heap.size + 1, 1, none⟩ = some (.int .i64 f.kind) := by rw [hW]; simp
    clear hW
    refine (schema_Find hc Hm.out (HA.out.below b2)).mono ?_
    rintro e w1 ⟨rfl, hb⟩
    replace f1 := keep1 hb f1
    replace f2 := keep1 hb f2
    rcases Bool.eq_false_or_eq_true (sfind s f.to != -1) with e2 | e2
    · have Hf := Lib.hid (show fieldOk s f = nameMay f.name by
        have : (sfind s f.to == -1) = false := by simpa using e2
        simp [fieldOk, Hk.out, this])
      go_wp2_with fail
      refine (name_May Hn.out).mono ?_
      rintro e w2 ⟨rfl, hb2⟩
      replace f2 := keep1 hb2 f2
      rcases Bool.eq_false_or_eq_true (nameMay f.name) with e3 | e3
      all_goals
        have H3 := Lib.hid e3
        go_wp2_with fail
        go_ret
        exact ⟨by rw [Hf.out, H3.out]; rfl, bthen (bthen b2 hb) hb2⟩
    · have Hf := Lib.hid (show fieldOk s f = false by
        have : (sfind s f.to == -1) = true := by simpa using e2
        simp [fieldOk, Hk.out, this])
      go_wp2_with fail
      go_ret
      exact ⟨by rw [Hf.out]; rfl, bthen b2 hb⟩
  · have Hk := Lib.hid hk
    have e1 : (f.kind == 5) = false := by simp [hk]
    clear hk
    rcases Bool.eq_false_or_eq_true (decide (f.to = ⟨#[]⟩)) with e2 | e2
    · have e2' : f.to.toList.isEmpty = true := by
        have : f.to = ⟨#[]⟩ := by simpa using e2
        rw [this, ByteArray.toList_eq]; rfl
      rcases Bool.eq_false_or_eq_true (decide ((0 : Int) ≤ f.kind)) with k0 | k0 <;> rcases Bool.eq_false_or_eq_true (decide (f.kind < 6)) with k6 | k6
      all_goals
        have Hf := Lib.hid (show fieldOk s f = (nameMay f.name && decide ((0 : Int) ≤ f.kind) && decide (f.kind < 6)) by simp only [fieldOk, if_neg Hk.out, e2, Bool.true_and])
        have H0 := Lib.hid k0
        have H6 := Lib.hid k6
        clear e2
        go_enter Tryz.func66, Tryz.ntmps66
        go_wp2_with fail
        refine nameC fun W hW => ?_
        have b2 : Below w.heap.size w W := by rw [hW]; exact balloc (balloc (Below.refl _ _) _) _
        have f2 : W.cell? ⟨w.heap.size + 1, 1, none⟩ = some (.int .i64 f.kind) := by rw [hW]; simp
        clear hW
        refine (name_May Hn.out).mono ?_
        rintro e w2 ⟨rfl, hb2⟩
        replace f2 := keep1 hb2 f2
        rcases Bool.eq_false_or_eq_true (nameMay f.name) with e3 | e3
        all_goals
          have H3 := Lib.hid e3
          go_wp2_with fail
          go_ret
          exact ⟨by rw [Hf.out, H3.out, H0.out, H6.out]; rfl, bthen b2 hb2⟩
    · have Hf := Lib.hid (show fieldOk s f = false by simp only [fieldOk, if_neg Hk.out, e2, Bool.false_and])
      have e2' : f.to.toList.isEmpty = false := by
        have : ¬ f.to = ⟨#[]⟩ := by simpa using e2
        rw [Bool.eq_false_iff]
        intro h
        apply this
        have h2 := beqs f.to ⟨#[]⟩
        rw [List.isEmpty_iff.1 h] at h2
        simpa using h2.symm
      clear e2
      go_enter Tryz.func66, Tryz.ntmps66
      go_wp2_with fail
      go_ret
      exact ⟨by rw [Hf.out]; rfl, balloc (balloc (Below.refl _ _) _) _⟩
end Go.Proofs.YtgeegdnkheckcaaGreat
