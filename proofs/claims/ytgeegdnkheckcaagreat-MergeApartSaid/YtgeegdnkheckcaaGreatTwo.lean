/- The walks of the statements' small graph: One, Two. -/
import Derived.Test.YtgeegdnkheckcaaGreatGSet
set_option linter.unusedVariables false
namespace Go.Proofs.YtgeegdnkheckcaaGreat
open Lay (rep)
open Go.RowKit

def sA : ByteArray := ⟨#[97]⟩
def oneS : List Typ := [⟨⟨#[97]⟩, [⟨⟨#[110]⟩, 2, ⟨#[]⟩⟩, ⟨⟨#[111]⟩, 5, ⟨#[97]⟩⟩]⟩]
def twoG : Gr := ⟨oneS, [⟨0, 0, [⟨7, ⟨#[]⟩, 0⟩, ⟨0, ⟨#[]⟩, -1⟩]⟩, ⟨5, 0, [⟨8, ⟨#[]⟩, 0⟩, ⟨0, ⟨#[]⟩, 0⟩]⟩], [0]⟩
section
variable {w : World}
/-- A block that the call made reads as a list of one or two elements. -/
theorem RepL.blk1 {α : Type} [Lay α] {S : Nat → Prop} {b : Nat} {us : List Value} {t : TypeId} {x : α} (hb : Blk w b us.toArray t) (hS : S b) (hx : rep S w us x) : RepL S w (some ⟨b, 0, none⟩) [x] := fun _ =>
  ⟨b, 0, rfl, hS, hb.lt, fun j hj => by
    obtain rfl : j = 0 := by simpa using hj
    refine ⟨us, hx, fun i hi => ?_⟩
    have := hb.cell (j := i) (v := us[i]) (by simp [hi])
    simpa using this⟩
theorem RepL.blk2 {α : Type} [Lay α] {S : Nat → Prop} {b : Nat} {us vs : List Value} {t : TypeId} {x y : α} (hb : Blk w b (us ++ vs).toArray t) (hS : S b) (hx : rep S w us x) (hy : rep S w vs y) : RepL S w (some ⟨b, 0, none⟩) [x, y] := fun _ =>
  ⟨b, 0, rfl, hS, hb.lt, fun j hj => by
    have hl := Lay.len hx
    have hj' : j = 0 ∨ j = 1 := by simp at hj; omega
    rcases hj' with rfl | rfl
    · refine ⟨us, hx, fun i hi => ?_⟩
      have := hb.cell (j := i) (v := us[i]) (by simp [List.getElem?_append_left hi, hi])
      simpa using this
    · refine ⟨vs, hy, fun i hi => ?_⟩
      have := hb.cell (j := us.length + i) (v := vs[i]) (by simp [hi])
      rw [← hl]; simpa using this⟩
set_option maxRecDepth 100000 in
set_option maxHeartbeats 1000000 in
theorem one_Calls : Calls Tryz.prog 44 #[] w fun e w' => Below w.heap.size w w' ∧ ∃ b, e = .returned (.agg #[.slice (some ⟨b, 0, none⟩) 1 1]) ∧ RepL (fun k => w.heap.size ≤ k ∧ k < w'.heap.size) w' (some ⟨b, 0, none⟩) oneS := by
  go_enter Tryz.func44, Tryz.ntmps44
  go_wp2
  refine bodyPost_ret (v := .agg #[.slice (some ⟨w.heap.size + 1 + 1, 0, none⟩) 1 1]) (by simp [results, Tryz.results44, go_sem]) rfl ?_
  refine ⟨balloc (balloc (balloc (Below.refl _ _) _) _) _, w.heap.size + 1 + 1, rfl, ?_⟩
  have g1 : Blk (((w.alloc (.cells #[.slice (some ⟨w.heap.size + 1 + 1, 0, none⟩) 1 1] 24)).alloc (.cells #[.string ⟨#[110]⟩, .int .i64 2, .string ⟨#[]⟩, .string ⟨#[111]⟩, .int .i64 5, .string ⟨#[97]⟩] 87)).alloc (.cells #[.string ⟨#[97]⟩, .slice (some ⟨w.heap.size + 1, 0, none⟩) 2 2] 90)) (w.heap.size + 1) #[.string ⟨#[110]⟩, .int .i64 2, .string ⟨#[]⟩, .string ⟨#[111]⟩, .int .i64 5, .string ⟨#[97]⟩] 87 := (Blk.new' (by simp) _ _).alloc _
  have g2 : Blk (((w.alloc (.cells #[.slice (some ⟨w.heap.size + 1 + 1, 0, none⟩) 1 1] 24)).alloc (.cells #[.string ⟨#[110]⟩, .int .i64 2, .string ⟨#[]⟩, .string ⟨#[111]⟩, .int .i64 5, .string ⟨#[97]⟩] 87)).alloc (.cells #[.string ⟨#[97]⟩, .slice (some ⟨w.heap.size + 1, 0, none⟩) 2 2] 90)) (w.heap.size + 1 + 1) #[.string ⟨#[97]⟩, .slice (some ⟨w.heap.size + 1, 0, none⟩) 2 2] 90 := Blk.new' (by simp) _ _
  refine RepL.blk1 (us := [.string ⟨#[97]⟩, .slice (some ⟨w.heap.size + 1, 0, none⟩) 2 2]) g2 ⟨by omega, by simp⟩ ?_
  refine ⟨some ⟨w.heap.size + 1, 0, none⟩, 2, rfl, Nat.le_refl _, by unfold maxLen; decide, ?_, by unfold maxLen; decide⟩
  exact RepL.blk2 (us := [.string ⟨#[110]⟩, .int .i64 2, .string ⟨#[]⟩]) (vs := [.string ⟨#[111]⟩, .int .i64 5, .string ⟨#[97]⟩]) g1 ⟨by omega, by simp⟩ ⟨rfl, by unfold maxLen; decide, by unfold maxLen; decide⟩ ⟨rfl, by unfold maxLen; decide, by unfold maxLen; decide⟩
set_option maxRecDepth 100000 in
set_option maxHeartbeats 1000000 in
theorem two_Calls : Calls Tryz.prog 16 #[] w fun e w' => Below w.heap.size w w' ∧ ∃ As cs Ao co Ar cr, e = .returned (gv As cs Ao co Ar cr twoG) ∧ GOK w' As cs Ao co Ar cr twoG := by
  go_enter Tryz.func16, Tryz.ntmps16
  go_wp2_with fail
  refine nameC fun W hW => ?_
  have bW : Below w.heap.size w W := by rw [hW]; exact balloc (Below.refl _ _) _
  have g0 : Blk W w.heap.size #[.slice none 0 0, .slice none 0 0, .slice none 0 0] 28 := by rw [hW]; exact Blk.new _ _ _
  clear hW
  refine one_Calls.mono ?_
  rintro e w1 ⟨hb1, b, rfl, hr⟩
  have G0 := Lib.hid (g0.below hb1)
  have b1 := bthen bW hb1
  have Hr := Lib.hid hr
  obtain ⟨c0, c1, c2, f0, f1, f2⟩ := G0.out.three
  have z := G0.out.lt
  have zW := g0.lt
  clear g0 bW hb1 hr
  have b4 : ∀ p q r s : Obj, Below w1.heap.size w1 ((((w1.alloc p).alloc q).alloc r).alloc s) := fun p q r s => balloc (balloc (balloc (balloc (Below.refl _ _) _) _) _) _
  have hk : ∀ p q r s : Obj, (∀ o v, w1.cell? ⟨w.heap.size, o, none⟩ = some v → ((((w1.alloc p).alloc q).alloc r).alloc s).cell? ⟨w.heap.size, o, none⟩ = some v) ∧ ∀ o, ((((w1.alloc p).alloc q).alloc r).alloc s).frozen? ⟨w.heap.size, o, none⟩ = w1.frozen? ⟨w.heap.size, o, none⟩ := fun p q r s => ⟨fun o v h => keep1 (b4 p q r s) h, fun o => (bcell (b4 p q r s)).2 _ _ z⟩
  have c0' := fun p q r s => (hk p q r s).1 _ _ c0
  have c1' := fun p q r s => (hk p q r s).1 _ _ c1
  have c2' := fun p q r s => (hk p q r s).1 _ _ c2
  have f0' := fun p q r s => ((hk p q r s).2 0).trans f0
  have f1' := fun p q r s => ((hk p q r s).2 1).trans f1
  have f2' := fun p q r s => ((hk p q r s).2 2).trans f2
  have B4 := Lib.hid b4
  clear hk b4
  go_wp2_with fail
  refine bodyPost_ret (v := .agg #[.slice (some ⟨b, 0, none⟩) 1 1, .slice (some ⟨w1.heap.size + 1 + 1, 0, none⟩) 2 2, .slice (some ⟨w1.heap.size + 1 + 1 + 1, 0, none⟩) 1 1]) (by simp [results, Tryz.results16, go_sem, *]) rfl ?_
  have q0 : Blk ((((w1.alloc (.cells #[.int .i64 7, .string ⟨#[]⟩, .int .i64 0, .int .i64 0, .string ⟨#[]⟩, .int .i64 (-1)] 47)).alloc (.cells #[.int .i64 8, .string ⟨#[]⟩, .int .i64 0, .int .i64 0, .string ⟨#[]⟩, .int .i64 0] 47)).alloc (.cells #[.int .i64 0, .int .i64 0, .slice (some ⟨w1.heap.size, 0, none⟩) 2 2, .int .i64 5, .int .i64 0, .slice (some ⟨w1.heap.size + 1, 0, none⟩) 2 2] 45)).alloc (.cells #[.int .i64 0] 3)) w1.heap.size #[.int .i64 7, .string ⟨#[]⟩, .int .i64 0, .int .i64 0, .string ⟨#[]⟩, .int .i64 (-1)] 47 := ((((Blk.new _ _ _).alloc _).alloc _).alloc _)
  have q1 : Blk ((((w1.alloc (.cells #[.int .i64 7, .string ⟨#[]⟩, .int .i64 0, .int .i64 0, .string ⟨#[]⟩, .int .i64 (-1)] 47)).alloc (.cells #[.int .i64 8, .string ⟨#[]⟩, .int .i64 0, .int .i64 0, .string ⟨#[]⟩, .int .i64 0] 47)).alloc (.cells #[.int .i64 0, .int .i64 0, .slice (some ⟨w1.heap.size, 0, none⟩) 2 2, .int .i64 5, .int .i64 0, .slice (some ⟨w1.heap.size + 1, 0, none⟩) 2 2] 45)).alloc (.cells #[.int .i64 0] 3)) (w1.heap.size + 1) #[.int .i64 8, .string ⟨#[]⟩, .int .i64 0, .int .i64 0, .string ⟨#[]⟩, .int .i64 0] 47 := (((Blk.new' (by simp) _ _).alloc _).alloc _)
  have q2 : Blk ((((w1.alloc (.cells #[.int .i64 7, .string ⟨#[]⟩, .int .i64 0, .int .i64 0, .string ⟨#[]⟩, .int .i64 (-1)] 47)).alloc (.cells #[.int .i64 8, .string ⟨#[]⟩, .int .i64 0, .int .i64 0, .string ⟨#[]⟩, .int .i64 0] 47)).alloc (.cells #[.int .i64 0, .int .i64 0, .slice (some ⟨w1.heap.size, 0, none⟩) 2 2, .int .i64 5, .int .i64 0, .slice (some ⟨w1.heap.size + 1, 0, none⟩) 2 2] 45)).alloc (.cells #[.int .i64 0] 3)) (w1.heap.size + 1 + 1) #[.int .i64 0, .int .i64 0, .slice (some ⟨w1.heap.size, 0, none⟩) 2 2, .int .i64 5, .int .i64 0, .slice (some ⟨w1.heap.size + 1, 0, none⟩) 2 2] 45 := ((Blk.new' (by simp) _ _).alloc _)
  have q3 : Blk ((((w1.alloc (.cells #[.int .i64 7, .string ⟨#[]⟩, .int .i64 0, .int .i64 0, .string ⟨#[]⟩, .int .i64 (-1)] 47)).alloc (.cells #[.int .i64 8, .string ⟨#[]⟩, .int .i64 0, .int .i64 0, .string ⟨#[]⟩, .int .i64 0] 47)).alloc (.cells #[.int .i64 0, .int .i64 0, .slice (some ⟨w1.heap.size, 0, none⟩) 2 2, .int .i64 5, .int .i64 0, .slice (some ⟨w1.heap.size + 1, 0, none⟩) 2 2] 45)).alloc (.cells #[.int .i64 0] 3)) (w1.heap.size + 1 + 1 + 1) #[.int .i64 0] 3 := (Blk.new' (by simp) _ _)
  have bb := B4.out (.cells #[.int .i64 7, .string ⟨#[]⟩, .int .i64 0, .int .i64 0, .string ⟨#[]⟩, .int .i64 (-1)] 47) (.cells #[.int .i64 8, .string ⟨#[]⟩, .int .i64 0, .int .i64 0, .string ⟨#[]⟩, .int .i64 0] 47) (.cells #[.int .i64 0, .int .i64 0, .slice (some ⟨w1.heap.size, 0, none⟩) 2 2, .int .i64 5, .int .i64 0, .slice (some ⟨w1.heap.size + 1, 0, none⟩) 2 2] 45) (.cells #[.int .i64 0] 3)
  have kf := set3 ((((w1.alloc (.cells #[.int .i64 7, .string ⟨#[]⟩, .int .i64 0, .int .i64 0, .string ⟨#[]⟩, .int .i64 (-1)] 47)).alloc (.cells #[.int .i64 8, .string ⟨#[]⟩, .int .i64 0, .int .i64 0, .string ⟨#[]⟩, .int .i64 0] 47)).alloc (.cells #[.int .i64 0, .int .i64 0, .slice (some ⟨w1.heap.size, 0, none⟩) 2 2, .int .i64 5, .int .i64 0, .slice (some ⟨w1.heap.size + 1, 0, none⟩) 2 2] 45)).alloc (.cells #[.int .i64 0] 3)) w.heap.size (.slice (some ⟨b, 0, none⟩) 1 1) (.slice (some ⟨w1.heap.size + 1 + 1, 0, none⟩) 2 2) (.slice (some ⟨w1.heap.size + 1 + 1 + 1, 0, none⟩) 1 1)
  have hz0 := q3.lt
  have hkf := kf.size
  generalize ((((w1.alloc (.cells #[.int .i64 7, .string ⟨#[]⟩, .int .i64 0, .int .i64 0, .string ⟨#[]⟩, .int .i64 (-1)] 47)).alloc (.cells #[.int .i64 8, .string ⟨#[]⟩, .int .i64 0, .int .i64 0, .string ⟨#[]⟩, .int .i64 0] 47)).alloc (.cells #[.int .i64 0, .int .i64 0, .slice (some ⟨w1.heap.size, 0, none⟩) 2 2, .int .i64 5, .int .i64 0, .slice (some ⟨w1.heap.size + 1, 0, none⟩) 2 2] 45)).alloc (.cells #[.int .i64 0] 3)) = wx at *
  have hwz := b1.size
  refine ⟨(bthen b1 bb).trans (kf.below fun q hq => by omega), some ⟨b, 0, none⟩, 1, some ⟨w1.heap.size + 1 + 1, 0, none⟩, 2, some ⟨w1.heap.size + 1 + 1 + 1, 0, none⟩, 1, rfl, ?_⟩
  have p0 := q0.kp kf (by omega)
  have p1 := q1.kp kf (by omega)
  have p2 := q2.kp kf (by omega)
  have p3 := q3.kp kf (by omega)
  refine ⟨Nat.le_refl _, by unfold maxLen; decide, ?_, Nat.le_refl _, by unfold maxLen; decide, ?_, Nat.le_refl _, by unfold maxLen; decide, ?_⟩
  · exact (RepL.keep Hr.out fun q hq => (kf.block q (by omega)).trans (bb.block q hq.2)).mono fun q hq => by show q < _; have := hq.2; omega
  · refine RepL.blk2 (us := [.int .i64 0, .int .i64 0, .slice (some ⟨w1.heap.size, 0, none⟩) 2 2]) (vs := [.int .i64 5, .int .i64 0, .slice (some ⟨w1.heap.size + 1, 0, none⟩) 2 2]) p2 (by show _ < _; omega) ⟨some ⟨w1.heap.size, 0, none⟩, 2, rfl, Nat.le_refl _, by unfold maxLen; decide, ?_⟩ ⟨some ⟨w1.heap.size + 1, 0, none⟩, 2, rfl, Nat.le_refl _, by unfold maxLen; decide, ?_⟩
    · exact RepL.blk2 (us := [.int .i64 7, .string ⟨#[]⟩, .int .i64 0]) (vs := [.int .i64 0, .string ⟨#[]⟩, .int .i64 (-1)]) p0 (by show _ < _; omega) ⟨rfl, by unfold maxLen; decide⟩ ⟨rfl, by unfold maxLen; decide⟩
    · exact RepL.blk2 (us := [.int .i64 8, .string ⟨#[]⟩, .int .i64 0]) (vs := [.int .i64 0, .string ⟨#[]⟩, .int .i64 0]) p1 (by show _ < _; omega) ⟨rfl, by unfold maxLen; decide⟩ ⟨rfl, by unfold maxLen; decide⟩
  · exact RepL.blk1 (us := [.int .i64 0]) p3 (by show _ < _; omega) rfl
end
end Go.Proofs.YtgeegdnkheckcaaGreat
