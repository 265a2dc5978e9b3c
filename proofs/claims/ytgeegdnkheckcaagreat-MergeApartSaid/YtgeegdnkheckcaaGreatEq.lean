/- slices.Equal at the types that this claim needs. -/
import Derived.Test.YtgeegdnkheckcaaGreatGMay
import Derived.Deep.QuietTactic
import Derived.BigQuiet
set_option linter.unusedVariables false
namespace Go.Proofs.YtgeegdnkheckcaaGreat
open Lay (rep)
open Go.RowKit

theorem toList_inj {a b : ByteArray} (h : a.toList = b.toList) : a = b := by
  have := beqs a b
  rw [h] at this
  simpa using this.symm

/-- From place k on: are two lists the same? -/
def eqFrom {α : Type} [DecidableEq α] (a b : List α) (k : Nat) : Bool := decide (a.drop k = b.drop k)
theorem eqFrom_step {α : Type} [DecidableEq α] {a b : List α} {k : Nat} (ha : k < a.length) (hb : k < b.length) : eqFrom a b k = (decide (a[k] = b[k]) && eqFrom a b (k + 1)) := by
  unfold eqFrom
  rw [List.drop_eq_getElem_cons ha, List.drop_eq_getElem_cons hb]
  simp only [List.cons.injEq, Bool.decide_and]
theorem eqFrom_end {α : Type} [DecidableEq α] {a b : List α} {k : Nat} (ha : a.length ≤ k) (hb : b.length ≤ k) : eqFrom a b k = true := by
  unfold eqFrom
  rw [List.drop_of_length_le ha, List.drop_of_length_le hb]; simp

theorem eqVl (d : Nat) (w : World) (x y : Vl) : (Op.equalIn (d + 3) 47 (.agg #[.int .i64 x.n, .string x.s, .int .i64 x.r]) (.agg #[.int .i64 y.n, .string y.s, .int .i64 y.r])).run Tryz.prog w = .ok (decide (x = y)) w := by
  have hx : x = y ↔ x.n = y.n ∧ x.s.toList = y.s.toList ∧ x.r = y.r := by
    constructor
    · rintro rfl; exact ⟨rfl, rfl, rfl⟩
    · rintro ⟨h1, h2, h3⟩
      cases x; cases y
      simp only [Vl.mk.injEq]
      exact ⟨h1, toList_inj h2, h3⟩
  have hd : decide (x = y) = (x.n == y.n && (x.s.toList == y.s.toList && x.r == y.r)) := by rw [Bool.eq_iff_iff]; simp [hx]
  rw [hd]
  clear hx hd
  by_cases h1 : x.n = y.n <;> by_cases h2 : x.s.toList = y.s.toList <;> by_cases h3 : x.r = y.r
  all_goals go_simp
theorem eqFld (d : Nat) (w : World) (x y : Fld) : (Op.equalIn (d + 3) 87 (.agg #[.string x.name, .int .i64 x.kind, .string x.to]) (.agg #[.string y.name, .int .i64 y.kind, .string y.to])).run Tryz.prog w = .ok (decide (x = y)) w := by
  have hx : x = y ↔ x.name.toList = y.name.toList ∧ x.kind = y.kind ∧ x.to.toList = y.to.toList := by
    constructor
    · rintro rfl; exact ⟨rfl, rfl, rfl⟩
    · rintro ⟨h1, h2, h3⟩
      cases x; cases y
      simp only [Fld.mk.injEq]
      exact ⟨toList_inj h1, h2, toList_inj h3⟩
  have hd : decide (x = y) = (x.name.toList == y.name.toList && (x.kind == y.kind && x.to.toList == y.to.toList)) := by rw [Bool.eq_iff_iff]; simp [hx]
  rw [hd]
  clear hx hd
  by_cases h1 : x.name.toList = y.name.toList <;> by_cases h2 : x.kind = y.kind <;> by_cases h3 : x.to.toList = y.to.toList
  all_goals go_simp

section
variable {w : World} {A B : Option Addr} {c d : Nat}

set_option maxRecDepth 100000 in
set_option maxHeartbeats 1000000 in
theorem equal_Val {a b : List Vl} (hc : a.length ≤ c) (hm : c ≤ maxLen) (hA : RepL (Bel w) w A a) (hd : b.length ≤ d) (hn : d ≤ maxLen) (hB : RepL (Bel w) w B b) :
    Calls Tryz.prog 34 #[.slice A a.length c, .slice B b.length d] w fun e w' => e = .returned (.bool (decide (a = b))) ∧ Below w.heap.size w w' := by
  unfold maxLen at hm hn
  have HA := Lib.hid hA
  have HB := Lib.hid hB
  clear hA hB
  by_cases hl : a.length = b.length
  case neg =>
    have e1 : ((a.length : Int) != (b.length : Int)) = true := by simp; omega
    have Hr := Lib.hid (show decide (a = b) = false by simp; intro h; exact hl (by rw [h]))
    clear hl
    go_enter Tryz.func34, Tryz.ntmps34
    go_wp2_with fail
    go_ret
    exact ⟨by rw [Hr.out]; rfl, Below.refl _ _⟩
  have e1 : ((a.length : Int) != (b.length : Int)) = false := by simp; omega
  have HL := Lib.hid hl
  clear hl
  go_enter Tryz.func34, Tryz.ntmps34
  go_wp2_with fail
  go_loopw [13] (fun i wr => ∃ k : Nat, k ≤ a.length ∧ i = .int .i64 k ∧ Below w.heap.size w wr ∧ decide (a = b) = eqFrom a b k) (fun i _ => a.length - (intOf i).toNat)
  case atStart => exact ⟨0, Nat.zero_le _, rfl, Below.refl _ _, rfl⟩
  case round =>
    obtain ⟨k, hk, rfl, hbl, hi⟩ := hrel
    have Hi := Lib.hid hi
    clear hi
    by_cases hlt : k < a.length
    · have hlt2 : k < b.length := by have := HL.out; omega
      obtain ⟨ba, offa, rfl, _, hba, has⟩ := (HA.out.below hbl).vl (by intro e; simp [e] at hlt)
      obtain ⟨bb, offb, rfl, _, hbb, hbs⟩ := (HB.out.below hbl).vl (by intro e; simp [e] at hlt2)
      have Hd := Lib.hid (eqFrom_step hlt hlt2)
      replace has := has k hlt
      replace hbs := hbs k hlt2
      generalize a[k] = x at has Hd
      generalize b[k] = y at hbs Hd
      obtain ⟨a0, a1, a2, _⟩ := has
      obtain ⟨b0, b1, b2, _⟩ := hbs
      have hk0 : (0 : Int) ≤ (k : Int) := Int.natCast_nonneg _
      have hk1 : (k : Int) < (a.length : Int) := by omega
      have hk2 : (k : Int) < (b.length : Int) := by omega
      have Hbl := Lib.hid hbl
      clear hbl
      have eqv := fun (d : Nat) (w : World) => eqVl d w x y
      rcases Bool.eq_false_or_eq_true (decide (x = y)) with hxy | hxy
      · have Hx := Lib.hid hxy
        skip
        go_wp2_with fail
        go_quiet (fail)
        go_wp2_with fail
        go_roundw
        case rel => exact ⟨k + 1, by omega, by go_num, pw_below_drewN Hbl.out _, by rw [Hi.out, Hd.out, Hx.out]; rfl⟩
        case measure => simp [intOf]; omega
      · have Hx := Lib.hid hxy
        skip
        go_wp2_with fail
        go_quiet (fail)
        go_wp2_with fail
        go_ret
        exact ⟨by rw [Hi.out, Hd.out, Hx.out]; rfl, pw_below_drewN Hbl.out _⟩
    · go_wp2_with fail
      go_ret
      exact ⟨by rw [Hi.out, eqFrom_end (by omega) (by have := HL.out; omega)]; rfl, hbl⟩

set_option maxRecDepth 100000 in
set_option maxHeartbeats 1000000 in
theorem equal_Field {a b : List Fld} (hc : a.length ≤ c) (hm : c ≤ maxLen) (hA : RepL (Bel w) w A a) (hd : b.length ≤ d) (hn : d ≤ maxLen) (hB : RepL (Bel w) w B b) :
    Calls Tryz.prog 55 #[.slice A a.length c, .slice B b.length d] w fun e w' => e = .returned (.bool (decide (a = b))) ∧ Below w.heap.size w w' := by
  unfold maxLen at hm hn
  have HA := Lib.hid hA
  have HB := Lib.hid hB
  clear hA hB
  by_cases hl : a.length = b.length
  case neg =>
    have e1 : ((a.length : Int) != (b.length : Int)) = true := by simp; omega
    have Hr := Lib.hid (show decide (a = b) = false by simp; intro h; exact hl (by rw [h]))
    clear hl
    go_enter Tryz.func55, Tryz.ntmps55
    go_wp2_with fail
    go_ret
    exact ⟨by rw [Hr.out]; rfl, Below.refl _ _⟩
  have e1 : ((a.length : Int) != (b.length : Int)) = false := by simp; omega
  have HL := Lib.hid hl
  clear hl
  go_enter Tryz.func55, Tryz.ntmps55
  go_wp2_with fail
  go_loopw [13] (fun i wr => ∃ k : Nat, k ≤ a.length ∧ i = .int .i64 k ∧ Below w.heap.size w wr ∧ decide (a = b) = eqFrom a b k) (fun i _ => a.length - (intOf i).toNat)
  case atStart => exact ⟨0, Nat.zero_le _, rfl, Below.refl _ _, rfl⟩
  case round =>
    obtain ⟨k, hk, rfl, hbl, hi⟩ := hrel
    have Hi := Lib.hid hi
    clear hi
    by_cases hlt : k < a.length
    · have hlt2 : k < b.length := by have := HL.out; omega
      obtain ⟨ba, offa, rfl, _, hba, has⟩ := (HA.out.below hbl).fld (by intro e; simp [e] at hlt)
      obtain ⟨bb, offb, rfl, _, hbb, hbs⟩ := (HB.out.below hbl).fld (by intro e; simp [e] at hlt2)
      have Hd := Lib.hid (eqFrom_step hlt hlt2)
      replace has := has k hlt
      replace hbs := hbs k hlt2
      generalize a[k] = x at has Hd
      generalize b[k] = y at hbs Hd
      obtain ⟨a0, a1, a2, _, _⟩ := has
      obtain ⟨b0, b1, b2, _, _⟩ := hbs
      have hk0 : (0 : Int) ≤ (k : Int) := Int.natCast_nonneg _
      have hk1 : (k : Int) < (a.length : Int) := by omega
      have hk2 : (k : Int) < (b.length : Int) := by omega
      have Hbl := Lib.hid hbl
      clear hbl
      have eqv := fun (d : Nat) (w : World) => eqFld d w x y
      rcases Bool.eq_false_or_eq_true (decide (x = y)) with hxy | hxy
      · have Hx := Lib.hid hxy
        skip
        go_wp2_with fail
        go_quiet (fail)
        go_wp2_with fail
        go_roundw
        case rel => exact ⟨k + 1, by omega, by go_num, pw_below_drewN Hbl.out _, by rw [Hi.out, Hd.out, Hx.out]; rfl⟩
        case measure => simp [intOf]; omega
      · have Hx := Lib.hid hxy
        skip
        go_wp2_with fail
        go_quiet (fail)
        go_wp2_with fail
        go_ret
        exact ⟨by rw [Hi.out, Hd.out, Hx.out]; rfl, pw_below_drewN Hbl.out _⟩
    · go_wp2_with fail
      go_ret
      exact ⟨by rw [Hi.out, eqFrom_end (by omega) (by have := HL.out; omega)]; rfl, hbl⟩

set_option maxRecDepth 100000 in
set_option maxHeartbeats 1000000 in
theorem equal_int {a b : List Int} (hc : a.length ≤ c) (hm : c ≤ maxLen) (hA : RepL (Bel w) w A a) (hd : b.length ≤ d) (hn : d ≤ maxLen) (hB : RepL (Bel w) w B b) :
    Calls Tryz.prog 35 #[.slice A a.length c, .slice B b.length d] w fun e w' => e = .returned (.bool (decide (a = b))) ∧ Below w.heap.size w w' := by
  unfold maxLen at hm hn
  have HA := Lib.hid hA
  have HB := Lib.hid hB
  clear hA hB
  by_cases hl : a.length = b.length
  case neg =>
    have e1 : ((a.length : Int) != (b.length : Int)) = true := by simp; omega
    have Hr := Lib.hid (show decide (a = b) = false by simp; intro h; exact hl (by rw [h]))
    clear hl
    go_enter Tryz.func35, Tryz.ntmps35
    go_wp2_with fail
    go_ret
    exact ⟨by rw [Hr.out]; rfl, Below.refl _ _⟩
  have e1 : ((a.length : Int) != (b.length : Int)) = false := by simp; omega
  have HL := Lib.hid hl
  clear hl
  go_enter Tryz.func35, Tryz.ntmps35
  go_wp2_with fail
  go_loopw [13] (fun i wr => ∃ k : Nat, k ≤ a.length ∧ i = .int .i64 k ∧ Below w.heap.size w wr ∧ decide (a = b) = eqFrom a b k) (fun i _ => a.length - (intOf i).toNat)
  case atStart => exact ⟨0, Nat.zero_le _, rfl, Below.refl _ _, rfl⟩
  case round =>
    obtain ⟨k, hk, rfl, hbl, hi⟩ := hrel
    have Hi := Lib.hid hi
    clear hi
    by_cases hlt : k < a.length
    · have hlt2 : k < b.length := by have := HL.out; omega
      obtain ⟨ba, offa, rfl, _, hba, has⟩ := (HA.out.below hbl).int (by intro e; simp [e] at hlt)
      obtain ⟨bb, offb, rfl, _, hbb, hbs⟩ := (HB.out.below hbl).int (by intro e; simp [e] at hlt2)
      have Hd := Lib.hid (eqFrom_step hlt hlt2)
      replace has := has k hlt
      replace hbs := hbs k hlt2
      generalize a[k] = x at has Hd
      generalize b[k] = y at hbs Hd
      skip
      have hk0 : (0 : Int) ≤ (k : Int) := Int.natCast_nonneg _
      have hk1 : (k : Int) < (a.length : Int) := by omega
      have hk2 : (k : Int) < (b.length : Int) := by omega
      have Hbl := Lib.hid hbl
      clear hbl
      skip
      rcases Bool.eq_false_or_eq_true (decide (x = y)) with hxy | hxy
      · have Hx := Lib.hid hxy
        have hne : (x != y) = false := by simpa using hxy
        clear hxy
        go_wp2_with fail
        go_quiet (fail)
        go_wp2_with fail
        go_roundw
        case rel => exact ⟨k + 1, by omega, by go_num, pw_below_drewN Hbl.out _, by rw [Hi.out, Hd.out, Hx.out]; rfl⟩
        case measure => simp [intOf]; omega
      · have Hx := Lib.hid hxy
        have hne : (x != y) = true := by simpa using hxy
        clear hxy
        go_wp2_with fail
        go_quiet (fail)
        go_wp2_with fail
        go_ret
        exact ⟨by rw [Hi.out, Hd.out, Hx.out]; rfl, pw_below_drewN Hbl.out _⟩
    · go_wp2_with fail
      go_ret
      exact ⟨by rw [Hi.out, eqFrom_end (by omega) (by have := HL.out; omega)]; rfl, hbl⟩
end
end Go.Proofs.YtgeegdnkheckcaaGreat
