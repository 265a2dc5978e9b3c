/- The walks of diff.other, diff.root, merge.side, merge.root: what stands in a graph by an id, or at a root's place. -/
import Derived.Test.YtgeegdnkheckcaaGreatChg
import Derived.Test.YtgeegdnkheckcaaGreatOwn
set_option linter.unusedVariables false
namespace Go.Proofs.YtgeegdnkheckcaaGreat
open Lay (rep)
open Go.RowKit

/-- The object of an id. -/
def obOf (g : Gr) (id : Int) : Option Ob := g.o.find? fun o => decide (o.id = id)
theorem idxFrom_spec {α : Type} (p : α → Bool) (l : List α) (k : Nat) :
    (idxFrom p k l = -1 ∧ l.find? p = none) ∨ ∃ j : Nat, ∃ h : j < l.length, idxFrom p k l = ((k + j : Nat) : Int) ∧ l.find? p = some l[j] ∧ p l[j] = true := by
  induction l generalizing k with
  | nil => exact .inl ⟨rfl, rfl⟩
  | cons x l ih =>
    simp only [idxFrom]
    by_cases hx : p x = true
    · exact .inr ⟨0, by simp, by simp [hx], by simp [hx], by simpa using hx⟩
    · rcases ih (k + 1) with ⟨h1, h2⟩ | ⟨j, hj, h1, h2, h3⟩
      · exact .inl ⟨by simp [hx, h1], by simp [hx, h2]⟩
      · refine .inr ⟨j + 1, by simpa using hj, ?_, by simp [hx, h2], by simpa using h3⟩
        rw [if_neg hx, h1]; congr 1; omega
theorem gfind_spec (g : Gr) (id : Int) : (gfind g id = -1 ∧ obOf g id = none) ∨ ∃ j : Nat, ∃ h : j < g.o.length, gfind g id = (j : Int) ∧ obOf g id = some g.o[j] := by
  rcases idxFrom_spec (fun o : Ob => decide (o.id = id)) g.o 0 with ⟨h1, h2⟩ | ⟨j, hj, h1, h2, _⟩
  · exact .inl ⟨h1, h2⟩
  · exact .inr ⟨j, hj, by simpa [gfind, idx] using h1, h2⟩
/-- The root at a place. -/
def rootAt (g : Gr) (i : Int) : Int := if i < g.roots.length then g.roots.getD i.toNat 0 else -1

/-- What 'other' and 'side' tell: the object, and whether it is there. -/
def OtherV (w : World) (Ao : Option Addr) (g : Gr) (e : Ending) (x : Option Ob) : Prop :=
  ∃ F cF, e = .returned (.tuple #[.agg #[.int .i64 (x.getD default).id, .int .i64 (x.getD default).t, .slice F (x.getD default).f.length cF], .bool x.isSome]) ∧
    (x.getD default).f.length ≤ cF ∧ cF ≤ maxLen ∧ (∀ S, RepL S w Ao g.o → RepL S w F (x.getD default).f)
theorem ob_same {S S' : Nat → Prop} {w : World} {b off j cF : Nat} {l : List Ob} {F : Option Addr} (h : RepL S w (some ⟨b, off, none⟩) l) (hj : j < l.length) (hF : w.cell? ⟨b, off + j * 3 + 2, none⟩ = some (.slice F l[j].f.length cF)) : RepL S w F l[j].f := by
  obtain ⟨b', off', e, _, _, hc⟩ := h.ob (by intro e; simp [e] at hj)
  simp only [Option.some.injEq, Addr.mk.injEq] at e
  obtain ⟨rfl, rfl, _⟩ := e
  obtain ⟨F', cF', _, _, a2, _, _, hr⟩ := hc j hj
  rw [hF] at a2
  simp only [Option.some.injEq, Value.slice.injEq] at a2
  rw [a2.1]; exact hr
section
variable {w : World} {As : Option Addr} {cs : Nat} {Ao : Option Addr} {co : Nat} {Ar : Option Addr} {cr : Nat} {g : Gr}
set_option maxRecDepth 100000 in
set_option maxHeartbeats 1000000 in
theorem diff_root {i : Nat} (hg : GOK w As cs Ao co Ar cr g) :
    Calls Tryz.prog 27 #[gv As cs Ao co Ar cr g, .int .i64 (i : Int)] w fun e w' => e = .returned (.int .i64 (rootAt g i)) ∧ Below w.heap.size w w' := by
  have h1 := hg.r1
  have h2 := hg.r2
  unfold maxLen at h2
  have Hg := Lib.hid hg
  clear hg
  by_cases hi : i < g.roots.length
  · obtain ⟨b, off, rfl, _, hb, hc⟩ := Hg.out.r.int (by intro e; simp [e] at hi)
    have hr := hc i hi
    have Hv := Lib.hid (show rootAt g i = g.roots[i] by simp [rootAt, hi, List.getD_eq_getElem?_getD])
    generalize g.roots[i] = x at hr Hv
    have hi0 : (0 : Int) ≤ (i : Int) := Int.natCast_nonneg _
    have hi1 : (i : Int) < (g.roots.length : Int) := by omega
    clear hc
    go_enter Tryz.func27, Tryz.ntmps27
    go_wp2_with fail
    go_ret
    exact ⟨by rw [Hv.out]; rfl, balloc (Below.refl _ _) _⟩
  · have Hv := Lib.hid (show rootAt g i = -1 by simp [rootAt, hi])
    have hi1 : ¬ (i : Int) < (g.roots.length : Int) := by omega
    go_enter Tryz.func27, Tryz.ntmps27
    go_wp2_with fail
    go_ret
    exact ⟨by rw [Hv.out]; rfl, balloc (Below.refl _ _) _⟩

set_option maxRecDepth 100000 in
set_option maxHeartbeats 2000000 in
theorem diff_other {id : Int} (hg : GOK w As cs Ao co Ar cr g) :
    Calls Tryz.prog 26 #[gv As cs Ao co Ar cr g, .int .i64 id] w fun e w' => Below w.heap.size w w' ∧ OtherV w Ao g e (obOf g id) := by
  have h1 := hg.o1
  have h2 := hg.o2
  unfold maxLen at h2
  have Hg := Lib.hid hg
  clear hg
  rcases gfind_spec g id with ⟨hf, ho⟩ | ⟨j, hj, hf, ho⟩
  · have e1 : (gfind g id == -1) = true := by simp [hf]
    have Ho := Lib.hid ho
    clear hf ho
    go_enter Tryz.func26, Tryz.ntmps26
    go_wp2_with fail
    refine nameC fun W hW => ?_
    have bW : Below w.heap.size w W := by rw [hW]; exact balloc (balloc (Below.refl _ _) _) _
    have k1 : Blk W (w.heap.size + 1) #[.int .i64 0, .int .i64 0, .slice none 0 0] 45 := by rw [hW]; exact Blk.new' (by simp) _ _
    clear hW
    refine (graph_Find (Hg.out.below bW)).mono ?_
    rintro e w1 ⟨rfl, hb1⟩
    replace k1 := k1.below hb1
    have b1 := bthen bW hb1
    clear bW hb1
    have z := k1.lt
    have c0 := k1.cell (j := 0) rfl
    have c1 := k1.cell (j := 1) rfl
    have c2 := k1.cell (j := 2) rfl
    have f0 := k1.free 0
    have f1 := k1.free 1
    have f2 := k1.free 2
    have K1 := Lib.hid k1
    clear k1
    go_wp2_with fail
    refine bodyPost_ret (v := .tuple #[.agg #[.int .i64 0, .int .i64 0, .slice none 0 0], .bool false]) (by simp [results, Tryz.results26, go_sem, *]) rfl ⟨?_, ?_⟩
    · exact ((b1.setCell (by simp) _).setCell (by simp) _).setCell (by simp) _
    · rw [Ho.out]
      exact ⟨none, 0, rfl, Nat.le_refl _, Nat.zero_le _, fun _ _ => RepL.nil⟩
  · have e1 : ((j : Int) == -1) = false := by rw [beq_eq_false_iff_ne]; omega
    have Ho := Lib.hid ho
    have Hf := Lib.hid hf
    have hj0 : (0 : Int) ≤ (j : Int) := Int.natCast_nonneg _
    have hj1 : (j : Int) < (g.o.length : Int) := by omega
    clear hf ho
    go_enter Tryz.func26, Tryz.ntmps26
    go_wp2_with fail
    refine nameC fun W hW => ?_
    have bW : Below w.heap.size w W := by rw [hW]; exact balloc (balloc (Below.refl _ _) _) _
    have k1 : Blk W (w.heap.size + 1) #[.int .i64 0, .int .i64 0, .slice none 0 0] 45 := by rw [hW]; exact Blk.new' (by simp) _ _
    have q1 : W.cell? ⟨w.heap.size, 1, none⟩ = some (.slice Ao g.o.length co) := by rw [hW]; go_simp
    clear hW
    refine (graph_Find (Hg.out.below bW)).mono ?_
    rintro e w1 ⟨rfl, hb1⟩
    rw [Hf.out]
    replace k1 := k1.below hb1
    replace q1 := keep1 hb1 q1
    have b1 := bthen bW hb1
    clear bW hb1
    obtain ⟨b, off, rfl, _, hb, hc⟩ := (Hg.out.o).ob (by intro e; simp [e] at hj)
    replace hc := hc j hj
    obtain ⟨F, cF, a0, a1, a2, hF1, hF2, hF3⟩ := hc
    have HF3 := Lib.hid (fun S (hr : RepL S w (some ⟨b, off, none⟩) g.o) => ob_same (S' := S) hr hj a2)
    clear hF3
    generalize g.o[j] = x at *
    replace a0 := keep1 b1 a0
    replace a1 := keep1 b1 a1
    replace a2 := keep1 b1 a2
    have hbne : ¬ b = w.heap.size + 1 := by omega
    have z := k1.lt
    have c0 := k1.cell (j := 0) rfl
    have c1 := k1.cell (j := 1) rfl
    have c2 := k1.cell (j := 2) rfl
    have f0 := k1.free 0
    have f1 := k1.free 1
    have f2 := k1.free 2
    have K1 := Lib.hid k1
    clear k1
    go_wp2_with fail
    refine bodyPost_ret (v := .tuple #[.agg #[.int .i64 x.id, .int .i64 x.t, .slice F x.f.length cF], .bool true]) (by simp [results, Tryz.results26, go_sem, *]) rfl ?_
    have bz := ((b1.setCell (p := ⟨w.heap.size + 1, 0, none⟩) (by simp) (.int .i64 x.id)).setCell (p := ⟨w.heap.size + 1, 1, none⟩) (by simp) (.int .i64 x.t)).setCell (p := ⟨w.heap.size + 1, 2, none⟩) (by simp) (.slice F x.f.length cF)
    refine ⟨bz, ?_⟩
    rw [Ho.out]
    exact ⟨F, cF, rfl, hF1, hF2, HF3.out⟩
end
end Go.Proofs.YtgeegdnkheckcaaGreat
