/- slices.IndexFunc at the types that this claim needs: where the first is of which a predicate holds. -/
import Derived.Test.YtgeegdnkheckcaaGreatProg
import Derived.Test.YtgeegdnkheckcaaGreatPure
set_option linter.unusedVariables false
namespace Go.Proofs.YtgeegdnkheckcaaGreat
open Lay (rep)
open Go.RowKit

def argOf : List Value → Value
  | [v] => v
  | us => .agg us.toArray

/-- A function value that tells p of each of l, in whatever world behind w. -/
def PredC {α : Type} [Lay α] (P : Program) (g : FuncId) (caps : Array Value) (w : World) (l : List α) (p : α → Bool) : Prop :=
  (∀ args w, (callFunc g args).run P w = .ok (.enter g args) w) ∧ ∀ W x us, x ∈ l → Below w.heap.size w W → rep (Bel W) W us x → Calls P g (#[argOf us] ++ caps) W fun e w' => e = .returned (.bool (p x)) ∧ Below W.heap.size W w'

theorem PredC.below {α : Type} [Lay α] {P : Program} {g : FuncId} {caps : Array Value} {w w' : World} {l : List α} {p : α → Bool} (h : PredC P g caps w l p) (hb : Below w.heap.size w w') : PredC P g caps w' l p :=
  ⟨h.1, fun W x us hx hW hr => h.2 W x us hx (hb.trans (hW.mono hb.size)) hr⟩

section
variable {w : World} {A : Option Addr} {c g : Nat} {caps : Array Value}

set_option maxRecDepth 100000 in
set_option maxHeartbeats 400000 in
theorem indexFunc_Type {l : List Typ} {p : Typ → Bool} (hc : l.length ≤ c) (hm : c ≤ maxLen) (hA : RepL (Bel w) w A l) (hp : PredC Tryz.prog g caps w l p) :
    Calls Tryz.prog 86 #[.slice A l.length c, .func (.func g) #[] caps] w fun e w' => e = .returned (.int .i64 (idx p l)) ∧ Below w.heap.size w w' := by
  unfold maxLen at hm
  have eg := hp.1
  have Hp := Lib.hid hp.2
  clear hp
  go_enter Tryz.func86, Tryz.ntmps86
  go_wp2
  go_loopw [5, 8] (fun _ i wr => ∃ k : Nat, k ≤ l.length ∧ i = .int .i64 k ∧ Below w.heap.size w wr ∧ idx p l = idxFrom p k (l.drop k)) (fun _ i _ => l.length - (intOf i).toNat)
  case atStart => exact ⟨0, Nat.zero_le _, rfl, Below.refl _ _, rfl⟩
  case round =>
    obtain ⟨k, hk, rfl, hbl, hi⟩ := hrel
    have Hi := Lib.hid hi
    clear hi
    by_cases hlt : k < l.length
    · obtain ⟨b, off, rfl, hS, hbz, hcs⟩ := (hA.below hbl).typ (by intro e; simp [e] at hlt)
      have hx := List.getElem_mem hlt
      have hd := idxFrom_drop p l k hlt
      replace hcs := hcs k hlt
      generalize l[k] = x at hx hd hcs
      obtain ⟨F, cF, c0, c1, h1, h2, h3⟩ := hcs
      have Hq := Lib.hid (Hp.out wr x _ hx hbl ⟨F, cF, rfl, h1, h2, h3⟩)
      cases hpk : p x
      all_goals
        have Hd := Lib.hid (hd.trans (by rw [hpk]))
        clear hd
        have Hpk := Lib.hid hpk
        clear hpk hx h1 h2 h3
      · go_wp2_with fail
        refine Hq.out.mono ?_
        rintro e w' ⟨rfl, hb'⟩
        rw [Hpk.out]
        go_wp2
        go_roundw
        case rel => exact ⟨k + 1, by omega, by go_num, hbl.trans (hb'.mono hbl.size), by rw [Hi.out, Hd.out]; rfl⟩
        case measure => simp [intOf]; omega
      · go_wp2_with fail
        refine Hq.out.mono ?_
        rintro e w' ⟨rfl, hb'⟩
        rw [Hpk.out]
        go_wp2
        go_ret
        exact ⟨by rw [Hi.out, Hd.out]; rfl, hbl.trans (hb'.mono hbl.size)⟩
    · go_wp2
      go_ret
      exact ⟨by rw [Hi.out, List.drop_of_length_le (by omega)]; rfl, hbl⟩

set_option maxRecDepth 100000 in
set_option maxHeartbeats 400000 in
theorem indexFunc_Field {l : List Fld} {p : Fld → Bool} (hc : l.length ≤ c) (hm : c ≤ maxLen) (hA : RepL (Bel w) w A l) (hp : PredC Tryz.prog g caps w l p) :
    Calls Tryz.prog 88 #[.slice A l.length c, .func (.func g) #[] caps] w fun e w' => e = .returned (.int .i64 (idx p l)) ∧ Below w.heap.size w w' := by
  unfold maxLen at hm
  have eg := hp.1
  have Hp := Lib.hid hp.2
  clear hp
  go_enter Tryz.func88, Tryz.ntmps88
  go_wp2
  go_loopw [5, 8] (fun _ i wr => ∃ k : Nat, k ≤ l.length ∧ i = .int .i64 k ∧ Below w.heap.size w wr ∧ idx p l = idxFrom p k (l.drop k)) (fun _ i _ => l.length - (intOf i).toNat)
  case atStart => exact ⟨0, Nat.zero_le _, rfl, Below.refl _ _, rfl⟩
  case round =>
    obtain ⟨k, hk, rfl, hbl, hi⟩ := hrel
    have Hi := Lib.hid hi
    clear hi
    by_cases hlt : k < l.length
    · obtain ⟨b, off, rfl, hS, hbz, hcs⟩ := (hA.below hbl).fld (by intro e; simp [e] at hlt)
      have hx := List.getElem_mem hlt
      have hd := idxFrom_drop p l k hlt
      replace hcs := hcs k hlt
      generalize l[k] = x at hx hd hcs
      obtain ⟨c0, c1, c2, h1, h2⟩ := hcs
      have Hq := Lib.hid (Hp.out wr x _ hx hbl ⟨rfl, h1, h2⟩)
      cases hpk : p x
      all_goals
        have Hd := Lib.hid (hd.trans (by rw [hpk]))
        clear hd
        have Hpk := Lib.hid hpk
        clear hpk hx h1 h2
      · go_wp2_with fail
        refine Hq.out.mono ?_
        rintro e w' ⟨rfl, hb'⟩
        rw [Hpk.out]
        go_wp2
        go_roundw
        case rel => exact ⟨k + 1, by omega, by go_num, hbl.trans (hb'.mono hbl.size), by rw [Hi.out, Hd.out]; rfl⟩
        case measure => simp [intOf]; omega
      · go_wp2_with fail
        refine Hq.out.mono ?_
        rintro e w' ⟨rfl, hb'⟩
        rw [Hpk.out]
        go_wp2
        go_ret
        exact ⟨by rw [Hi.out, Hd.out]; rfl, hbl.trans (hb'.mono hbl.size)⟩
    · go_wp2
      go_ret
      exact ⟨by rw [Hi.out, List.drop_of_length_le (by omega)]; rfl, hbl⟩

set_option maxRecDepth 100000 in
set_option maxHeartbeats 400000 in
theorem indexFunc_Obj {l : List Ob} {p : Ob → Bool} (hc : l.length ≤ c) (hm : c ≤ maxLen) (hA : RepL (Bel w) w A l) (hp : PredC Tryz.prog g caps w l p) :
    Calls Tryz.prog 61 #[.slice A l.length c, .func (.func g) #[] caps] w fun e w' => e = .returned (.int .i64 (idx p l)) ∧ Below w.heap.size w w' := by
  unfold maxLen at hm
  have eg := hp.1
  have Hp := Lib.hid hp.2
  clear hp
  go_enter Tryz.func61, Tryz.ntmps61
  go_wp2
  go_loopw [5, 8] (fun _ i wr => ∃ k : Nat, k ≤ l.length ∧ i = .int .i64 k ∧ Below w.heap.size w wr ∧ idx p l = idxFrom p k (l.drop k)) (fun _ i _ => l.length - (intOf i).toNat)
  case atStart => exact ⟨0, Nat.zero_le _, rfl, Below.refl _ _, rfl⟩
  case round =>
    obtain ⟨k, hk, rfl, hbl, hi⟩ := hrel
    have Hi := Lib.hid hi
    clear hi
    by_cases hlt : k < l.length
    · obtain ⟨b, off, rfl, hS, hbz, hcs⟩ := (hA.below hbl).ob (by intro e; simp [e] at hlt)
      have hx := List.getElem_mem hlt
      have hd := idxFrom_drop p l k hlt
      replace hcs := hcs k hlt
      generalize l[k] = x at hx hd hcs
      obtain ⟨F, cF, c0, c1, c2, h1, h2, h3⟩ := hcs
      have Hq := Lib.hid (Hp.out wr x _ hx hbl ⟨F, cF, rfl, h1, h2, h3⟩)
      cases hpk : p x
      all_goals
        have Hd := Lib.hid (hd.trans (by rw [hpk]))
        clear hd
        have Hpk := Lib.hid hpk
        clear hpk hx h1 h2 h3
      · go_wp2_with fail
        refine Hq.out.mono ?_
        rintro e w' ⟨rfl, hb'⟩
        rw [Hpk.out]
        go_wp2
        go_roundw
        case rel => exact ⟨k + 1, by omega, by go_num, hbl.trans (hb'.mono hbl.size), by rw [Hi.out, Hd.out]; rfl⟩
        case measure => simp [intOf]; omega
      · go_wp2_with fail
        refine Hq.out.mono ?_
        rintro e w' ⟨rfl, hb'⟩
        rw [Hpk.out]
        go_wp2
        go_ret
        exact ⟨by rw [Hi.out, Hd.out]; rfl, hbl.trans (hb'.mono hbl.size)⟩
    · go_wp2
      go_ret
      exact ⟨by rw [Hi.out, List.drop_of_length_le (by omega)]; rfl, hbl⟩

set_option maxRecDepth 100000 in
set_option maxHeartbeats 400000 in
theorem indexFunc_int {l : List Int} {p : Int → Bool} (hc : l.length ≤ c) (hm : c ≤ maxLen) (hA : RepL (Bel w) w A l) (hp : PredC Tryz.prog g caps w l p) :
    Calls Tryz.prog 68 #[.slice A l.length c, .func (.func g) #[] caps] w fun e w' => e = .returned (.int .i64 (idx p l)) ∧ Below w.heap.size w w' := by
  unfold maxLen at hm
  have eg := hp.1
  have Hp := Lib.hid hp.2
  clear hp
  go_enter Tryz.func68, Tryz.ntmps68
  go_wp2
  go_loopw [5, 8] (fun _ i wr => ∃ k : Nat, k ≤ l.length ∧ i = .int .i64 k ∧ Below w.heap.size w wr ∧ idx p l = idxFrom p k (l.drop k)) (fun _ i _ => l.length - (intOf i).toNat)
  case atStart => exact ⟨0, Nat.zero_le _, rfl, Below.refl _ _, rfl⟩
  case round =>
    obtain ⟨k, hk, rfl, hbl, hi⟩ := hrel
    have Hi := Lib.hid hi
    clear hi
    by_cases hlt : k < l.length
    · obtain ⟨b, off, rfl, hS, hbz, hcs⟩ := (hA.below hbl).int (by intro e; simp [e] at hlt)
      have hx := List.getElem_mem hlt
      have hd := idxFrom_drop p l k hlt
      replace hcs := hcs k hlt
      generalize l[k] = x at hx hd hcs
      obtain c0 := hcs
      have Hq := Lib.hid (Hp.out wr x _ hx hbl rfl)
      cases hpk : p x
      all_goals
        have Hd := Lib.hid (hd.trans (by rw [hpk]))
        clear hd
        have Hpk := Lib.hid hpk
        clear hpk hx
      · go_wp2_with fail
        refine Hq.out.mono ?_
        rintro e w' ⟨rfl, hb'⟩
        rw [Hpk.out]
        go_wp2
        go_roundw
        case rel => exact ⟨k + 1, by omega, by go_num, hbl.trans (hb'.mono hbl.size), by rw [Hi.out, Hd.out]; rfl⟩
        case measure => simp [intOf]; omega
      · go_wp2_with fail
        refine Hq.out.mono ?_
        rintro e w' ⟨rfl, hb'⟩
        rw [Hpk.out]
        go_wp2
        go_ret
        exact ⟨by rw [Hi.out, Hd.out]; rfl, hbl.trans (hb'.mono hbl.size)⟩
    · go_wp2
      go_ret
      exact ⟨by rw [Hi.out, List.drop_of_length_le (by omega)]; rfl, hbl⟩
end
end Go.Proofs.YtgeegdnkheckcaaGreat
