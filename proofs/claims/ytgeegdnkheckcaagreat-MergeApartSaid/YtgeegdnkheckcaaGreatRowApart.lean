/- Two sides that set two fields are made one with both: for all graphs the statement's answer is true, and what came in reads as it did. -/
import Derived.Test.YtgeegdnkheckcaaGreatRows
import Derived.Test.YtgeegdnkheckcaaGreatLawApart
import Derived.Test.YtgeegdnkheckcaaGreatOpens
import Derived.WalkKit
import Derived.ProofKit
import Derived.OpenShut
import Derived.ShutString
import Derived.ChangeOld
import Derived.Below
import Derived.SizedLaws
set_option linter.unusedVariables false
namespace Go.Proofs.YtgeegdnkheckcaaGreat
open Lay (rep)
set_option maxRecDepth 100000 in
/-- A value that comes in. -/
theorem open_val {H : Type} {enc : TypeId × Value → H} {w : World} {spare : TypeId → Bool} {held : Bool} {r : Reach} {b0 : Nat} {v : Value} {d : DataW H} {p : List MemPlace} (hv : Value.okWide Tryz.prog w r b0 47 v) (h : DataW.Trod enc Tryz.prog w 0 spare held 47 v d p) :
    ∃ a : Vl, v = .agg #[.int .i64 a.n, .string a.s, .int .i64 a.r] ∧ a.s.size ≤ maxLen := by
  obtain ⟨v0, v1, v2, y0, y1, y2, n, rfl, _, _, h0, h1, h2⟩ := Joins.open_agg3 Tryz.underlying47 (by kernel_rfl) cellsVal hv h
  have h0' : DataW.trod enc Tryz.prog w 0 spare held n 3 [v0] = some y0 := h0
  have h1' : DataW.trod enc Tryz.prog w 0 spare held n 9 [v1] = some y1 := h1
  have h2' : DataW.trod enc Tryz.prog w 0 spare held n 3 [v2] = some y2 := h2
  obtain ⟨a, e0, _⟩ := DataW.trod_int Tryz.underlying3 h0'
  obtain ⟨s, e1, _, hs⟩ := DataW.trod_string Tryz.underlying9 h1'
  obtain ⟨b, e2, _⟩ := DataW.trod_int Tryz.underlying3 h2'
  simp only [List.cons.injEq, and_true] at e0 e1 e2
  subst e0 e1 e2
  exact ⟨⟨a, s, b⟩, rfl, hs⟩
end Go.Proofs.YtgeegdnkheckcaaGreat
namespace Go.Proofs.YtgeegdnkheckcaaGreat.mergeApart
open Go.ChangeShapes Go.WideShapes Go.ChangeAt Go.RowKit

theorem own : ownKnob Tryz.prog.godebug = none := by kernel_rfl
theorem laidOut : laidOutB Tryz.prog = true := by kernel_rfl
set_option maxRecDepth 100000 in
theorem lifted (os : Os) (started : os.Started) (H : Type) (enc : TypeId × Value → H) :
    ReturnsInHanded {} Tryz.checked os 5 .any (Rows.mergeApartSpec.pre6 enc Tryz.prog Tryz.f5 Rows.mergeApartRow.domain false) (Rows.mergeApartSpec.post enc Tryz.prog Tryz.f5 false true false false) := by
  refine returnsInHanded_of_change_sized (C := Tryz.checked) own started (by kernel_rfl) Tryz.func5
    (ChangeSpec.witness6 (enc := enc) (C := Tryz.checked) false ⟨#[], #[.agg #[.slice none 0 0, .slice none 0 0, .slice none 0 0], .int .i64 0, .int .i64 0, .agg #[.int .i64 0, .string ⟨#[]⟩, .int .i64 0], .int .i64 0, .int .i64 0, .agg #[.int .i64 0, .string ⟨#[]⟩, .int .i64 0]], []⟩ 8 (by kernel_rfl) (by kernel_rfl) (by kernel_rfl) (by kernel_rfl)) ?_
  intro W base args ds gs before hval0 hW hcnd hsz0 _
  have hval : ∀ (j : Nat) t v, Tryz.f5.params[j]? = some t → args[j]? = some v → Value.okWide Tryz.prog W .any base t v := hval0
  have hW' := hW
  obtain ⟨p, q, hA0, hV, rfl, hfz, hnd⟩ := hW
  have hA : DataW.TrodAll enc Tryz.prog W 0 (fun _ => true) true Tryz.f5.params.toList args.toList ds p := hA0
  rw [Tryz.params5] at hA hval
  obtain ⟨v0, vs0, d0, ds0, p0, q0, hargs, rfl, rfl, h0, r0⟩ := trodAll_cons hA
  obtain ⟨v1, vs1, d1, ds1, p1, q1, rfl, rfl, rfl, h1, r1⟩ := trodAll_cons r0
  obtain ⟨v2, vs2, d2, ds2, p2, q2, rfl, rfl, rfl, h2, r2⟩ := trodAll_cons r1
  obtain ⟨v3, vs3, d3, ds3, p3, q3, rfl, rfl, rfl, h3, r3⟩ := trodAll_cons r2
  obtain ⟨v4, vs4, d4, ds4, p4, q4, rfl, rfl, rfl, h4, r4⟩ := trodAll_cons r3
  obtain ⟨v5, vs5, d5, ds5, p5, q5, rfl, rfl, rfl, h5, r5⟩ := trodAll_cons r4
  obtain ⟨v6, vs6, d6, ds6, p6, q6, rfl, rfl, rfl, h6, r6⟩ := trodAll_cons r5
  obtain ⟨rfl, rfl, rfl⟩ := trodAll_nil r6
  obtain rfl : args = #[v0, v1, v2, v3, v4, v5, v6] := by cases args; simp_all
  obtain ⟨rfl, rfl⟩ := trodVars_none hV
  have k0 := h0
  have k1 := h1
  have k2 := h2
  have k3 := h3
  have k4 := h4
  have k5 := h5
  have k6 := h6
  have lt0 : ∀ x ∈ p0, x.block < W.heap.size := by obtain ⟨m, hm⟩ := k0; exact DataW.trod_lt m _ _ _ hm
  have lt1 : ∀ x ∈ p1, x.block < W.heap.size := by obtain ⟨m, hm⟩ := k1; exact DataW.trod_lt m _ _ _ hm
  have lt2 : ∀ x ∈ p2, x.block < W.heap.size := by obtain ⟨m, hm⟩ := k2; exact DataW.trod_lt m _ _ _ hm
  have lt3 : ∀ x ∈ p3, x.block < W.heap.size := by obtain ⟨m, hm⟩ := k3; exact DataW.trod_lt m _ _ _ hm
  have lt4 : ∀ x ∈ p4, x.block < W.heap.size := by obtain ⟨m, hm⟩ := k4; exact DataW.trod_lt m _ _ _ hm
  have lt5 : ∀ x ∈ p5, x.block < W.heap.size := by obtain ⟨m, hm⟩ := k5; exact DataW.trod_lt m _ _ _ hm
  have lt6 : ∀ x ∈ p6, x.block < W.heap.size := by obtain ⟨m, hm⟩ := k6; exact DataW.trod_lt m _ _ _ hm
  obtain ⟨As, cs, Ao, co, Ar, cr, o, rfl, ho⟩ := open_graph (hval 0 28 v0 rfl rfl) h0
  obtain ⟨i1, rfl, -, -, -⟩ := Go.ChangeShapes.open_int Tryz.underlying3 (hval 1 3 v1 rfl rfl) h1
  obtain ⟨i2, rfl, -, -, -⟩ := Go.ChangeShapes.open_int Tryz.underlying3 (hval 2 3 v2 rfl rfl) h2
  obtain ⟨i4, rfl, -, -, -⟩ := Go.ChangeShapes.open_int Tryz.underlying3 (hval 4 3 v4 rfl rfl) h4
  obtain ⟨i5, rfl, -, -, -⟩ := Go.ChangeShapes.open_int Tryz.underlying3 (hval 5 3 v5 rfl rfl) h5
  obtain ⟨u3, rfl, hu3⟩ := open_val (hval 3 47 v3 rfl rfl) h3
  obtain ⟨u6, rfl, hu6⟩ := open_val (hval 6 47 v6 rfl rfl) h6
  clear hA0 hval0 hsz0
  refine (mergeApart_Calls ho hu3 hu6).mono fun e W' ⟨he, bel⟩ => ?_
  subst he
  exact ⟨_, rfl, _, _, _, [], _, [], hW', trodAll_mk1 (shut_bool Tryz.underlying4 _), (trodAll_cons_mk (Below.trod laidOut (by kernel_rfl) (of_decide_eq_true (by kernel_rfl)) k0 bel lt0) (trodAll_cons_mk (Below.trod laidOut (by kernel_rfl) (of_decide_eq_true (by kernel_rfl)) k1 bel lt1) (trodAll_cons_mk (Below.trod laidOut (by kernel_rfl) (of_decide_eq_true (by kernel_rfl)) k2 bel lt2) (trodAll_cons_mk (Below.trod laidOut (by kernel_rfl) (of_decide_eq_true (by kernel_rfl)) k3 bel lt3) (trodAll_cons_mk (Below.trod laidOut (by kernel_rfl) (of_decide_eq_true (by kernel_rfl)) k4 bel lt4) (trodAll_cons_mk (Below.trod laidOut (by kernel_rfl) (of_decide_eq_true (by kernel_rfl)) k5 bel lt5) (trodAll_cons_mk (Below.trod laidOut (by kernel_rfl) (of_decide_eq_true (by kernel_rfl)) k6 bel lt6) trodAll_mk0))))))), rfl, bel.frame _, fun h => by cases h⟩
theorem over : Rows.mergeApartRow.holds Tryz.pinned (OpenSpec.ofChange Rows.mergeApartSpec) :=
  OpenClaim.holds_of_wide 5 Tryz.f5 rfl rfl rfl rfl rfl rfl rfl ⟨rfl, rfl, rfl, rfl, rfl⟩ rfl rfl rfl rfl rfl (by kernel_rfl) Tryz.func5 (by kernel_rfl)
    (of_decide_eq_true (by kernel_rfl)) (by unfold Func.isWrapper; first | (rw [if_pos (by decide +kernel)]; kernel_rfl) | (rw [if_neg (by decide +kernel)]; exact ⟨rfl, rfl⟩))
    (fun os started H enc _ => lifted os started H enc)
theorem proved : Rows.MergeApartSaid := over
#print axioms proved
end Go.Proofs.YtgeegdnkheckcaaGreat.mergeApart
namespace Go.Proofs.YtgeegdnkheckcaaGreat
open Lay (rep)
/-- The statement, under a short name, for the claim. -/
theorem mergeApart_holds : Rows.MergeApartSaid := mergeApart.proved
end Go.Proofs.YtgeegdnkheckcaaGreat
