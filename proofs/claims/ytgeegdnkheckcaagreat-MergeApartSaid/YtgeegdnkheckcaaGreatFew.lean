/- The walks of Few (schemas, graphs) and of Ints: small functions of the statements. -/
import Derived.Test.YtgeegdnkheckcaaGreatSame
set_option linter.unusedVariables false
namespace Go.Proofs.YtgeegdnkheckcaaGreat
open Lay (rep)
open Go.RowKit

def few06 (s : List Typ) (m : Int) : Bool := allFrom (fun _ t => decide ((t.f.length : Int) ≤ m)) 0 s && decide ((s.length : Int) ≤ m)
def few08 (g : Gr) : Bool := few06 g.s 10 && decide (g.o.length ≤ 12) && decide (g.roots.length ≤ 10) && allFrom (fun _ o => decide (o.f.length ≤ 10)) 0 g.o

section
variable {w : World} {A B : Option Addr} {c d : Nat}
set_option maxRecDepth 100000 in
set_option maxHeartbeats 2000000 in
theorem few06_Calls {s : List Typ} {m : Int} (hc : s.length ≤ c) (hm : c ≤ maxLen) (hA : RepL (Bel w) w A s) :
    Calls Tryz.prog 45 #[.agg #[.slice A s.length c], .int .i64 m] w fun e w' => e = .returned (.bool (few06 s m)) ∧ Below w.heap.size w w' := by
  unfold maxLen at hm
  have HA := Lib.hid hA
  clear hA
  go_enter Tryz.func45, Tryz.ntmps45
  go_wp2_with fail
  refine nameW fun W hW => ?_
  have bW : Below w.heap.size w W := by rw [hW]; exact balloc (Below.refl _ _) _
  have q0 : W.cell? ⟨w.heap.size, 0, none⟩ = some (.slice A s.length c) := by rw [hW]; go_simp
  clear hW
  go_loopw [5] (fun i wr => ∃ k : Nat, k ≤ s.length ∧ i = .int .i64 k ∧ wr = W ∧ few06 s m = (allFrom (fun _ t => decide ((t.f.length : Int) ≤ m)) k (s.drop k) && decide ((s.length : Int) ≤ m))) (fun i _ => s.length - (intOf i).toNat)
  case atStart => exact ⟨0, Nat.zero_le _, rfl, rfl, rfl⟩
  case round =>
    obtain ⟨k, hk, rfl, rfl, hi⟩ := hrel
    have Hi := Lib.hid hi
    clear hi
    by_cases hlt : k < s.length
    · obtain ⟨ba, offa, rfl, _, hba, has⟩ := (HA.out.below bW).typ (by intro e; simp [e] at hlt)
      have Hd := Lib.hid (allFrom_drop (fun _ (t : Typ) => decide ((t.f.length : Int) ≤ m)) s k hlt)
      replace has := has k hlt
      generalize s[k] = x at has Hd
      obtain ⟨F, cF, a0, a1, h1, h2, _, _⟩ := has
      have hk0 : (0 : Int) ≤ (k : Int) := Int.natCast_nonneg _
      have hk1 : (k : Int) < (s.length : Int) := by omega
      rcases Bool.eq_false_or_eq_true (decide (m < (x.f.length : Int))) with e1 | e1
      · have Hf := Lib.hid (show few06 s m = false by
          have : decide ((x.f.length : Int) ≤ m) = false := by simp at e1 ⊢; omega
          rw [Hi.out, Hd.out, this]; rfl)
        go_wp2_with fail
        go_ret
        exact ⟨by rw [Hf.out]; rfl, bW⟩
      · have Hx := Lib.hid (show decide ((x.f.length : Int) ≤ m) = true by simp at e1 ⊢; omega)
        go_wp2_with fail
        go_roundw
        case rel => exact ⟨k + 1, by omega, by go_num, trivial, by rw [Hi.out, Hd.out, Hx.out]; rfl⟩
        case measure => simp [intOf]; omega
    · have Hz := Lib.hid (Hi.out.trans (by rw [allFrom_end _ _ _ hlt, Bool.true_and]))
      go_wp2_with fail
      go_ret
      exact ⟨by rw [Hz.out]; rfl, bW⟩

variable {As : Option Addr} {cs : Nat} {Ao : Option Addr} {co : Nat} {Ar : Option Addr} {cr : Nat} {g : Gr}
set_option maxRecDepth 100000 in
set_option maxHeartbeats 2000000 in
theorem few08_Calls (hg : GOK w As cs Ao co Ar cr g) :
    Calls Tryz.prog 18 #[gv As cs Ao co Ar cr g] w fun e w' => e = .returned (.bool (few08 g)) ∧ Below w.heap.size w w' := by
  have ho1 := hg.o1
  have ho2 := hg.o2
  unfold maxLen at ho2
  have Hg := Lib.hid hg
  clear hg
  go_enter Tryz.func18, Tryz.ntmps18
  go_wp2_with fail
  refine nameC fun W hW => ?_
  have bW : Below w.heap.size w W := by rw [hW]; exact balloc (Below.refl _ _) _
  have q1 : W.cell? ⟨w.heap.size, 1, none⟩ = some (.slice Ao g.o.length co) := by rw [hW]; go_simp
  have q2 : W.cell? ⟨w.heap.size, 2, none⟩ = some (.slice Ar g.roots.length cr) := by rw [hW]; go_simp
  clear hW
  refine (few06_Calls Hg.out.s1 Hg.out.s2 (Hg.out.s.below bW)).mono ?_
  rintro e w1 ⟨rfl, hb1⟩
  replace q1 := keep1 hb1 q1
  replace q2 := keep1 hb1 q2
  have b1 := bthen bW hb1
  clear bW hb1
  rcases Bool.eq_false_or_eq_true (few06 g.s 10) with e1 | e1
  case inr =>
    have Hf := Lib.hid (show few08 g = false by simp [few08, e1])
    go_wp2_with fail
    go_ret
    exact ⟨by rw [Hf.out]; rfl, b1⟩
  rcases Bool.eq_false_or_eq_true (decide ((12 : Int) < g.o.length)) with e2 | e2
  case inl =>
    have Hf := Lib.hid (show few08 g = false by
      have : ¬ g.o.length ≤ 12 := by simp at e2; omega
      simp [few08, this])
    go_wp2_with fail
    go_ret
    exact ⟨by rw [Hf.out]; rfl, b1⟩
  rcases Bool.eq_false_or_eq_true (decide ((10 : Int) < g.roots.length)) with e3 | e3
  case inl =>
    have Hf := Lib.hid (show few08 g = false by
      have : ¬ g.roots.length ≤ 10 := by simp at e3; omega
      simp [few08, this])
    go_wp2_with fail
    go_ret
    exact ⟨by rw [Hf.out]; rfl, b1⟩
  have Hr := Lib.hid (show few08 g = allFrom (fun _ o => decide (o.f.length ≤ 10)) 0 (g.o.drop 0) by
    have h2 : g.o.length ≤ 12 := by simp at e2; omega
    have h3 : g.roots.length ≤ 10 := by simp at e3; omega
    simp [few08, e1, h2, h3])
  go_wp2_with fail
  go_loopw [4] (fun i wr => ∃ k : Nat, k ≤ g.o.length ∧ i = .int .i64 k ∧ wr = w1 ∧ few08 g = allFrom (fun _ o => decide (o.f.length ≤ 10)) k (g.o.drop k)) (fun i _ => g.o.length - (intOf i).toNat)
  case atStart => exact ⟨0, Nat.zero_le _, rfl, rfl, Hr.out⟩
  case round =>
    obtain ⟨k, hk, rfl, rfl, hi⟩ := hrel
    have Hi := Lib.hid hi
    clear hi
    by_cases hlt : k < g.o.length
    · obtain ⟨ba, offa, rfl, _, hba, has⟩ := (Hg.out.o.below b1).ob (by intro e; simp [e] at hlt)
      have Hd := Lib.hid (allFrom_drop (fun _ (o : Ob) => decide (o.f.length ≤ 10)) g.o k hlt)
      replace has := has k hlt
      generalize g.o[k] = x at has Hd
      obtain ⟨F, cF, a0, a1, a2, h1, h2, _⟩ := has
      have hk0 : (0 : Int) ≤ (k : Int) := Int.natCast_nonneg _
      have hk1 : (k : Int) < (g.o.length : Int) := by omega
      rcases Bool.eq_false_or_eq_true (decide ((10 : Int) < (x.f.length : Int))) with e4 | e4
      · have Hf := Lib.hid (show few08 g = false by
          have : decide (x.f.length ≤ 10) = false := by simp at e4 ⊢; omega
          rw [Hi.out, Hd.out, this]; rfl)
        go_wp2_with fail
        go_ret
        exact ⟨by rw [Hf.out]; rfl, b1⟩
      · have Hx := Lib.hid (show decide (x.f.length ≤ 10) = true by simp at e4 ⊢; omega)
        go_wp2_with fail
        go_roundw
        case rel => exact ⟨k + 1, by omega, by go_num, trivial, by rw [Hi.out, Hd.out, Hx.out]; rfl⟩
        case measure => simp [intOf]; omega
    · have Hz := Lib.hid (Hi.out.trans (allFrom_end _ _ _ hlt))
      go_wp2_with fail
      go_ret
      exact ⟨by rw [Hz.out]; rfl, b1⟩

end
end Go.Proofs.YtgeegdnkheckcaaGreat
