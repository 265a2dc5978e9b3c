/- slices.EqualFunc at the types that this claim needs. -/
import Derived.Test.YtgeegdnkheckcaaGreatEq
set_option linter.unusedVariables false
namespace Go.Proofs.YtgeegdnkheckcaaGreat
open Lay (rep)
open Go.RowKit

def eqBy {α : Type} (p : α → α → Bool) : List α → List α → Bool
  | [], [] => true
  | x :: a, y :: b => p x y && eqBy p a b
  | _, _ => false
theorem eqBy_len {α : Type} {p : α → α → Bool} : ∀ {a b : List α}, a.length ≠ b.length → eqBy p a b = false
  | [], [], h => absurd rfl h
  | [], _ :: _, _ => rfl
  | _ :: _, [], _ => rfl
  | x :: a, y :: b, h => by simp only [eqBy]; rw [eqBy_len (a := a) (b := b) (by simpa using h)]; simp
theorem eqBy_step {α : Type} {p : α → α → Bool} {a b : List α} {k : Nat} (ha : k < a.length) (hb : k < b.length) : eqBy p (a.drop k) (b.drop k) = (p a[k] b[k] && eqBy p (a.drop (k + 1)) (b.drop (k + 1))) := by
  rw [List.drop_eq_getElem_cons ha, List.drop_eq_getElem_cons hb]; rfl
theorem eqBy_end {α : Type} {p : α → α → Bool} {a b : List α} {k : Nat} (ha : a.length ≤ k) (hb : b.length ≤ k) : eqBy p (a.drop k) (b.drop k) = true := by
  rw [List.drop_of_length_le ha, List.drop_of_length_le hb]; rfl
theorem eqBy_dec {α : Type} [DecidableEq α] : ∀ (a b : List α), eqBy (fun x y => decide (x = y)) a b = decide (a = b)
  | [], [] => by simp [eqBy]
  | [], _ :: _ => by simp [eqBy]
  | _ :: _, [] => by simp [eqBy]
  | x :: a, y :: b => by simp only [eqBy, eqBy_dec a b, List.cons.injEq, Bool.decide_and]

/-- A function value that tells p of each pair, in whatever world behind w. -/
def PredC2 {α : Type} [Lay α] (P : Program) (g : FuncId) (caps : Array Value) (w : World) (p : α → α → Bool) : Prop :=
  (∀ args w, (callFunc g args).run P w = .ok (.enter g args) w) ∧ ∀ W x us y vs, Below w.heap.size w W → rep (Bel W) W us x → rep (Bel W) W vs y → Calls P g (#[argOf us, argOf vs] ++ caps) W fun e w' => e = .returned (.bool (p x y)) ∧ Below W.heap.size W w'

section
variable {w : World} {A B : Option Addr} {c d g : Nat} {caps : Array Value}

set_option maxRecDepth 100000 in
set_option maxHeartbeats 2000000 in
theorem equalFunc_Obj {a b : List Ob} {p : Ob → Ob → Bool} (hc : a.length ≤ c) (hm : c ≤ maxLen) (hA : RepL (Bel w) w A a) (hd : b.length ≤ d) (hn : d ≤ maxLen) (hB : RepL (Bel w) w B b) (hp : PredC2 Tryz.prog g caps w p) :
    Calls Tryz.prog 36 #[.slice A a.length c, .slice B b.length d, .func (.func g) #[] caps] w fun e w' => e = .returned (.bool (eqBy p a b)) ∧ Below w.heap.size w w' := by
  unfold maxLen at hm hn
  have HA := Lib.hid hA
  have HB := Lib.hid hB
  have eg := hp.1
  have Hp := Lib.hid hp.2
  clear hA hB hp
  by_cases hl : a.length = b.length
  case neg =>
    have e1 : ((a.length : Int) != (b.length : Int)) = true := by simp; omega
    have Hr := Lib.hid (eqBy_len (p := p) hl)
    clear hl
    go_enter Tryz.func36, Tryz.ntmps36
    go_wp2_with fail
    go_ret
    exact ⟨by rw [Hr.out]; rfl, Below.refl _ _⟩
  have e1 : ((a.length : Int) != (b.length : Int)) = false := by simp; omega
  have HL := Lib.hid hl
  clear hl
  go_enter Tryz.func36, Tryz.ntmps36
  go_wp2_with fail
  go_loopw [17] (fun i wr => ∃ k : Nat, k ≤ a.length ∧ i = .int .i64 k ∧ Below w.heap.size w wr ∧ eqBy p a b = eqBy p (a.drop k) (b.drop k)) (fun i _ => a.length - (intOf i).toNat)
  case atStart => exact ⟨0, Nat.zero_le _, rfl, Below.refl _ _, rfl⟩
  case round =>
    obtain ⟨k, hk, rfl, hbl, hi⟩ := hrel
    have Hi := Lib.hid hi
    clear hi
    by_cases hlt : k < a.length
    · have hlt2 : k < b.length := by have := HL.out; omega
      obtain ⟨ba, offa, rfl, _, hba, has⟩ := (HA.out.below hbl).ob (by intro e; simp [e] at hlt)
      obtain ⟨bb, offb, rfl, _, hbb, hbs⟩ := (HB.out.below hbl).ob (by intro e; simp [e] at hlt2)
      have Hd := Lib.hid (eqBy_step (p := p) hlt hlt2)
      replace has := has k hlt
      replace hbs := hbs k hlt2
      generalize a[k] = x at has Hd
      generalize b[k] = y at hbs Hd
      obtain ⟨F, cF, a0, a1, a2, h1, h2, h3⟩ := has
      obtain ⟨G, cG, b0, b1, b2, g1, g2, g3⟩ := hbs
      have H3 := Lib.hid h3
      have G3 := Lib.hid g3
      clear h3 g3
      have hk0 : (0 : Int) ≤ (k : Int) := Int.natCast_nonneg _
      have hk1 : (k : Int) < (a.length : Int) := by omega
      have hk2 : (k : Int) < (b.length : Int) := by omega
      have Hbl := Lib.hid hbl
      clear hbl
      go_wp2_with fail
      refine nameC fun W hW => ?_
      have bW : Below wr.heap.size wr W := by rw [hW]; exact balloc (balloc (Below.refl _ _) _) _
      clear hW
      refine (Hp.out W x _ y _ (bthen Hbl.out bW) (rep_below (w := wr) ⟨F, cF, rfl, h1, h2, H3.out⟩ bW) (rep_below (w := wr) ⟨G, cG, rfl, g1, g2, G3.out⟩ bW)).mono ?_
      rintro e w1 ⟨rfl, hb1⟩
      cases hxy : p x y
      · have Hf := Lib.hid (Hi.out.trans (Hd.out.trans (by rw [hxy])))
        clear hxy
        go_wp2_with fail
        go_ret
        exact ⟨by rw [Hf.out]; rfl, bthen Hbl.out (bthen bW hb1)⟩
      · have Hx := Lib.hid hxy
        clear hxy
        go_wp2_with fail
        go_roundw
        case rel => exact ⟨k + 1, by omega, by go_num, bthen Hbl.out (bthen bW hb1), by rw [Hi.out, Hd.out, Hx.out]; rfl⟩
        case measure => simp [intOf]; omega
    · go_wp2_with fail
      go_ret
      exact ⟨by rw [Hi.out, eqBy_end (by omega) (by have := HL.out; omega)]; rfl, hbl⟩

set_option maxRecDepth 100000 in
set_option maxHeartbeats 2000000 in
theorem equalFunc_Type {a b : List Typ} {p : Typ → Typ → Bool} (hc : a.length ≤ c) (hm : c ≤ maxLen) (hA : RepL (Bel w) w A a) (hd : b.length ≤ d) (hn : d ≤ maxLen) (hB : RepL (Bel w) w B b) (hp : PredC2 Tryz.prog g caps w p) :
    Calls Tryz.prog 53 #[.slice A a.length c, .slice B b.length d, .func (.func g) #[] caps] w fun e w' => e = .returned (.bool (eqBy p a b)) ∧ Below w.heap.size w w' := by
  unfold maxLen at hm hn
  have HA := Lib.hid hA
  have HB := Lib.hid hB
  have eg := hp.1
  have Hp := Lib.hid hp.2
  clear hA hB hp
  by_cases hl : a.length = b.length
  case neg =>
    have e1 : ((a.length : Int) != (b.length : Int)) = true := by simp; omega
    have Hr := Lib.hid (eqBy_len (p := p) hl)
    clear hl
    go_enter Tryz.func53, Tryz.ntmps53
    go_wp2_with fail
    go_ret
    exact ⟨by rw [Hr.out]; rfl, Below.refl _ _⟩
  have e1 : ((a.length : Int) != (b.length : Int)) = false := by simp; omega
  have HL := Lib.hid hl
  clear hl
  go_enter Tryz.func53, Tryz.ntmps53
  go_wp2_with fail
  go_loopw [17] (fun i wr => ∃ k : Nat, k ≤ a.length ∧ i = .int .i64 k ∧ Below w.heap.size w wr ∧ eqBy p a b = eqBy p (a.drop k) (b.drop k)) (fun i _ => a.length - (intOf i).toNat)
  case atStart => exact ⟨0, Nat.zero_le _, rfl, Below.refl _ _, rfl⟩
  case round =>
    obtain ⟨k, hk, rfl, hbl, hi⟩ := hrel
    have Hi := Lib.hid hi
    clear hi
    by_cases hlt : k < a.length
    · have hlt2 : k < b.length := by have := HL.out; omega
      obtain ⟨ba, offa, rfl, _, hba, has⟩ := (HA.out.below hbl).typ (by intro e; simp [e] at hlt)
      obtain ⟨bb, offb, rfl, _, hbb, hbs⟩ := (HB.out.below hbl).typ (by intro e; simp [e] at hlt2)
      have Hd := Lib.hid (eqBy_step (p := p) hlt hlt2)
      replace has := has k hlt
      replace hbs := hbs k hlt2
      generalize a[k] = x at has Hd
      generalize b[k] = y at hbs Hd
      obtain ⟨F, cF, a0, a1, h1, h2, h3, h4⟩ := has
      obtain ⟨G, cG, b0, b1, g1, g2, g3, g4⟩ := hbs
      have H3 := Lib.hid h3
      have G3 := Lib.hid g3
      clear h3 g3
      have hk0 : (0 : Int) ≤ (k : Int) := Int.natCast_nonneg _
      have hk1 : (k : Int) < (a.length : Int) := by omega
      have hk2 : (k : Int) < (b.length : Int) := by omega
      have Hbl := Lib.hid hbl
      clear hbl
      go_wp2_with fail
      refine nameC fun W hW => ?_
      have bW : Below wr.heap.size wr W := by rw [hW]; exact balloc (balloc (Below.refl _ _) _) _
      clear hW
      refine (Hp.out W x _ y _ (bthen Hbl.out bW) (rep_below (w := wr) ⟨F, cF, rfl, h1, h2, H3.out, h4⟩ bW) (rep_below (w := wr) ⟨G, cG, rfl, g1, g2, G3.out, g4⟩ bW)).mono ?_
      rintro e w1 ⟨rfl, hb1⟩
      cases hxy : p x y
      · have Hf := Lib.hid (Hi.out.trans (Hd.out.trans (by rw [hxy])))
        clear hxy
        go_wp2_with fail
        go_ret
        exact ⟨by rw [Hf.out]; rfl, bthen Hbl.out (bthen bW hb1)⟩
      · have Hx := Lib.hid hxy
        clear hxy
        go_wp2_with fail
        go_roundw
        case rel => exact ⟨k + 1, by omega, by go_num, bthen Hbl.out (bthen bW hb1), by rw [Hi.out, Hd.out, Hx.out]; rfl⟩
        case measure => simp [intOf]; omega
    · go_wp2_with fail
      go_ret
      exact ⟨by rw [Hi.out, eqBy_end (by omega) (by have := HL.out; omega)]; rfl, hbl⟩

end
end Go.Proofs.YtgeegdnkheckcaaGreat
