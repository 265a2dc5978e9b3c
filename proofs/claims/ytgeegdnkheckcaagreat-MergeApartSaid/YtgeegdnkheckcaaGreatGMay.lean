/- The walk of graph.May. -/
import Derived.Test.YtgeegdnkheckcaaGreatObject
set_option linter.unusedVariables false
namespace Go.Proofs.YtgeegdnkheckcaaGreat
open Lay (rep)
open Go.RowKit

theorem idxFrom_any {α : Type} (p : α → Bool) (l : List α) (k : Nat) : decide (0 ≤ idxFrom p k l) = l.any p := by
  induction l generalizing k with
  | nil => rfl
  | cons x l ih =>
    simp only [idxFrom, List.any_cons]
    by_cases h : p x = true
    · simp [h]
    · simpa [h] using ih (k + 1)
theorem idx_any {α : Type} (p : α → Bool) (l : List α) : decide (0 ≤ idx p l) = l.any p := idxFrom_any p l 0

set_option maxRecDepth 100000 in
theorem containsFunc_int {w : World} {A : Option Addr} {c g : Nat} {caps : Array Value} {l : List Int} {p : Int → Bool} (hc : l.length ≤ c) (hm : c ≤ maxLen) (hA : RepL (Bel w) w A l) (hp : PredC Tryz.prog g caps w l p) :
    Calls Tryz.prog 41 #[.slice A l.length c, .func (.func g) #[] caps] w fun e w' => e = .returned (.bool (l.any p)) ∧ Below w.heap.size w w' := by
  have H := Lib.hid (idx_any p l)
  have Hp := Lib.hid hp
  clear hp
  go_enter Tryz.func41, Tryz.ntmps41
  go_wp2_with fail
  refine (indexFunc_int hc hm hA Hp.out).mono ?_
  rintro e w' ⟨rfl, hb⟩
  go_wp2_with fail
  go_ret
  exact ⟨by rw [← H.out]; rfl, hb⟩

/-- A root that leads to no object. -/
def oddRoot (l : List Ob) (r : Int) : Bool := r != -1 && !(typ l r).isSome
/-- Are objects of rising ids, and each one may be? -/
def chain (g : Gr) : Int → List Ob → Bool
  | _, [] => true
  | last, o :: l => objOk g last o && chain g o.id l
def grMay (g : Gr) : Bool :=
  schMay g.s && decide (g.o.length ≤ 8) && decide (g.roots.length ≤ 3) && chain g (-1) g.o && !(g.roots.any (oddRoot g.o))

set_option maxRecDepth 100000 in
theorem may1_Calls {w W : World} {l : List Ob} {x : Int} {us : List Value} {b B : Nat} (hc : w.cell? ⟨B, 0, none⟩ = some (.map (some b))) (hm : IMap w b (typesM l)) (hb : Below w.heap.size w W) (hr : rep (Bel W) W us x) :
    Calls Tryz.prog 40 #[argOf us, .pointer (some ⟨B, 0, none⟩)] W fun e w' => e = .returned (.bool (oddRoot l x)) ∧ Below W.heap.size W w' := by
  unfold oddRoot
  obtain rfl : us = [.int .i64 x] := hr
  have hc' := keep1 hb hc
  have lk := run_lookup_i Tryz.underlying80 Tryz.underlying3 (zeroInt W) (hm.below hb) x true
  rw [mlook_types] at lk
  clear hc hm hb
  show Calls _ _ #[.int .i64 x, .pointer (some ⟨B, 0, none⟩)] _ _
  rcases Bool.eq_false_or_eq_true (x != -1) with e2 | e2 <;> cases ht : typ l x
  all_goals
    rw [ht] at lk
    have H2 := Lib.hid e2
    have Ht := Lib.hid ht
    clear ht
    go_enter Tryz.func40, Tryz.ntmps40
    go_wp2_with fail
    go_ret
    first | exact ⟨rfl, Below.refl _ _⟩ | exact ⟨by rw [H2.out]; rfl, Below.refl _ _⟩

set_option maxRecDepth 100000 in
set_option maxHeartbeats 4000000 in
theorem graph_May {w : World} {As : Option Addr} {cs : Nat} {Ao : Option Addr} {co : Nat} {Ar : Option Addr} {cr : Nat} {g : Gr} (hg : GOK w As cs Ao co Ar cr g) :
    Calls Tryz.prog 13 #[gv As cs Ao co Ar cr g] w fun e w' => e = .returned (.bool (grMay g)) ∧ Below w.heap.size w w' := by
  have ho1 := hg.o1
  have ho2 := hg.o2
  unfold maxLen at ho2
  have Hg := Lib.hid hg
  clear hg
  go_enter Tryz.func13, Tryz.ntmps13
  go_wp2_with fail
  refine nameC fun W hW => ?_
  have b1 : Below w.heap.size w W := by rw [hW]; exact balloc (Below.refl _ _) _
  have q0 : W.cell? ⟨w.heap.size, 0, none⟩ = some (.slice As g.s.length cs) := by rw [hW]; go_simp
  have q1 : W.cell? ⟨w.heap.size, 1, none⟩ = some (.slice Ao g.o.length co) := by rw [hW]; go_simp
  have q2 : W.cell? ⟨w.heap.size, 2, none⟩ = some (.slice Ar g.roots.length cr) := by rw [hW]; go_simp
  clear hW
  refine (schema_May Hg.out.s1 Hg.out.s2 (Hg.out.s.below b1)).mono ?_
  rintro e w1 ⟨rfl, hb⟩
  replace q0 := keep1 hb q0
  replace q1 := keep1 hb q1
  replace q2 := keep1 hb q2
  have b2 := bthen b1 hb
  clear hb b1
  cases h1 : schMay g.s
  · have Hr := Lib.hid (show grMay g = false by simp [grMay, h1])
    clear h1
    go_wp2_with fail
    go_ret
    exact ⟨by rw [Hr.out]; rfl, b2⟩
  by_cases h2 : g.o.length ≤ 8
  case neg =>
    have Hr := Lib.hid (show grMay g = false by simp [grMay, h2])
    have e2 : decide ((8 : Int) < g.o.length) = true := by simp; omega
    clear h1 h2
    go_wp2_with fail
    go_ret
    exact ⟨by rw [Hr.out]; rfl, b2⟩
  have e2 : decide ((8 : Int) < g.o.length) = false := by simp; omega
  by_cases h3 : g.roots.length ≤ 3
  case neg =>
    have Hr := Lib.hid (show grMay g = false by simp [grMay, h3])
    have e3 : decide ((3 : Int) < g.roots.length) = true := by simp; omega
    clear h1 h2 h3
    go_wp2_with fail
    go_ret
    exact ⟨by rw [Hr.out]; rfl, b2⟩
  have e3 : decide ((3 : Int) < g.roots.length) = false := by simp; omega
  have Hr := Lib.hid (show grMay g = (chain g (-1) g.o && !(g.roots.any (oddRoot g.o))) by simp [grMay, h1, h2, h3])
  clear h1 h2 h3
  go_wp2_with fail
  refine (graph_types (Hg.out.below b2)).mono ?_
  rintro e w2 ⟨b, rfl, hb, im⟩
  replace q0 := keep1 hb q0
  replace q1 := keep1 hb q1
  replace q2 := keep1 hb q2
  have b3 := bthen b2 hb
  clear hb b2
  have Im := Lib.hid im
  clear im
  have z := block_lt q0
  go_wp2_with fail
  refine nameW fun WL hW => ?_
  have b4 : Below w2.heap.size w2 WL := by rw [hW]; exact balloc (Below.refl _ _) _
  replace q0 := keep1 b4 q0
  replace q1 := keep1 b4 q1
  replace q2 := keep1 b4 q2
  have q3 : WL.cell? ⟨w2.heap.size, 0, none⟩ = some (.map (some b)) := by rw [hW]; go_simp
  have Im2 := Lib.hid (Im.out.below b4)
  have b5 := bthen b3 b4
  clear hW b4 b3
  have Q := Lib.hid (And.intro q0 (And.intro q1 (And.intro q2 q3)))
  clear q0 q1 q2
  go_wp2_with fail
  go_loopw [4, 29] (fun la i wr => ∃ (k : Nat) (last : Int), k ≤ g.o.length ∧ i = .int .i64 k ∧ la = .int .i64 last ∧ Below WL.heap.size WL wr ∧ grMay g = (chain g last (g.o.drop k) && !(g.roots.any (oddRoot g.o)))) (fun _ i _ => g.o.length - (intOf i).toNat)
  case atStart => exact ⟨0, -1, Nat.zero_le _, rfl, rfl, Below.refl _ _, Hr.out⟩
  case round =>
    obtain ⟨k, last, hk, rfl, rfl, hbl, hi⟩ := hrel
    have Hi := Lib.hid hi
    have bwr := bthen b5 hbl
    clear hi Hr
    have hQ := Q.out
    have q0 := keep1 hbl hQ.1
    have q1 := keep1 hbl hQ.2.1
    have q2 := keep1 hbl hQ.2.2.1
    have q3' := keep1 hbl hQ.2.2.2
    clear hQ q3
    have Bwr := Lib.hid bwr
    have Hbl := Lib.hid hbl
    clear bwr hbl
    by_cases hlt : k < g.o.length
    · obtain ⟨b', off, rfl, hS, hbz, hcs⟩ := (Hg.out.o.below Bwr.out).ob (by intro e; simp [e] at hlt)
      have Hd := Lib.hid (show g.o.drop k = g.o[k] :: g.o.drop (k + 1) from List.drop_eq_getElem_cons hlt)
      replace hcs := hcs k hlt
      generalize g.o[k] = x at hcs Hd
      obtain ⟨F, cF, c0, c1, c2, hF1, hF2, hF3⟩ := hcs
      have HF3 := Lib.hid hF3
      clear hF3
      have z1 := block_lt q0
      have z2 := block_lt q3'
      go_wp2_with fail
      refine nameC fun W hW => ?_
      have bW : Below wr.heap.size wr W := by rw [hW]; exact balloc (Below.refl _ _) _
      replace q0 := keep1 bW q0
      replace q1 := keep1 bW q1
      replace q2 := keep1 bW q2
      replace q3' := keep1 bW q3'
      have t0 : W.cell? ⟨wr.heap.size, 0, none⟩ = some (.int .i64 x.id) := by rw [hW]; go_simp
      clear hW c0 c1 c2
      have bw := bthen Bwr.out bW
      refine (graph_object (o := x) (Hg.out.below bw) (Im2.out.below (bthen Hbl.out bW)) hF1 hF2 (HF3.out.below bW)).mono ?_
      rintro e w3 ⟨rfl, hb3⟩
      replace q0 := keep1 hb3 q0
      replace q1 := keep1 hb3 q1
      replace q2 := keep1 hb3 q2
      replace q3' := keep1 hb3 q3'
      replace t0 := keep1 hb3 t0
      cases ho : objOk g last x
      · have Hf := Lib.hid (show grMay g = false by rw [Hi.out, Hd.out]; simp [chain, ho])
        clear ho
        go_wp2_with fail
        go_ret
        exact ⟨by rw [Hf.out]; rfl, bthen bw hb3⟩
      · have Ho := Lib.hid ho
        clear ho
        go_wp2_with fail
        go_roundw
        case rel => exact ⟨k + 1, x.id, by omega, by go_num, rfl, bthen Hbl.out (bthen bW hb3), by rw [Hi.out, Hd.out]; simp [chain, Ho.out]⟩
        case measure => simp [intOf]; omega
    · have Hz := Lib.hid (show grMay g = !(g.roots.any (oddRoot g.o)) by rw [Hi.out, List.drop_of_length_le (by omega)]; simp [chain])
      go_wp2_with fail
      refine nameC fun W hW => ?_
      have bW : Below wr.heap.size wr W := by rw [hW]; exact Below.refl _ _
      have f3 := keep1 bW q3'
      have imW := Im2.out.below (bthen Hbl.out bW)
      have hp : PredC Tryz.prog 40 #[.pointer (some ⟨w2.heap.size, 0, none⟩)] W g.roots (oddRoot g.o) :=
        ⟨enters_of Tryz.func40 (by kernel_rfl) rfl, fun W x us _ hb hr => may1_Calls f3 imW hb hr⟩
      refine (containsFunc_int Hg.out.r1 Hg.out.r2 (Hg.out.r.below (bthen Bwr.out bW)) hp).mono ?_
      rintro e w3 ⟨rfl, hb3⟩
      go_wp2_with fail
      go_ret
      exact ⟨by rw [Hz.out]; rfl, bthen (bthen Bwr.out bW) hb3⟩
end Go.Proofs.YtgeegdnkheckcaaGreat
