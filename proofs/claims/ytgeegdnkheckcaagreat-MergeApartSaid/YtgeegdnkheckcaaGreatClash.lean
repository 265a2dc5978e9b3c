/- The walk of merge.Clash. -/
import Derived.Test.YtgeegdnkheckcaaGreatCheck
set_option linter.unusedVariables false
namespace Go.Proofs.YtgeegdnkheckcaaGreat
open Lay (rep)
open Go.RowKit

theorem diffO_types {a : Gr} : ∀ {l : List Ob}, diffO a l ≠ none → ∀ x ∈ l, ∀ y, obOf a x.id = some y → x.t = y.t
  | x :: l, h, z, hz, y, hy => by
    cases ha : obOf a x.id with
    | none =>
      rw [diffO_none ha] at h
      have h' : diffO a l ≠ none := fun e => h (by rw [e]; rfl)
      rcases List.mem_cons.1 hz with rfl | hz
      · rw [ha] at hy; cases hy
      · exact diffO_types h' z hz y hy
    | some u =>
      by_cases ht : x.t = u.t
      · rw [diffO_some ha ht] at h
        have h' : diffO a l ≠ none := fun e => h (by rw [e]; rfl)
        rcases List.mem_cons.1 hz with rfl | hz
        · rw [ha] at hy; cases hy; exact ht
        · exact diffO_types h' z hz y hy
      · exact absurd (diffO_bad ha ht) h
theorem diffOf_ok {o a : Gr} (h : (diffOf o a).2 = 0) : MayG o ∧ MayG a ∧ o.s = a.s ∧ diffO a o.o ≠ none := by
  unfold diffOf at h
  split at h
  · simp at h
  · rename_i hm
    split at h
    · simp at h
    · rename_i hs
      simp only [ne_eq, Decidable.not_not] at hs
      have hm' : grMay o = true ∧ grMay a = true := by simpa using hm
      split at h
      · simp at h
      · rename_i p hp
        exact ⟨mayG hm'.1, mayG hm'.2, hs, by rw [hp]; simp⟩
theorem diffOf_len {o a : Gr} (h : (diffOf o a).2 = 0) (id : Int) (x y : Ob) (hx : obOf o id = some x) (hy : obOf a id = some y) : x.f.length = y.f.length := by
  obtain ⟨Mo, Ma, hs, hd⟩ := diffOf_ok h
  obtain ⟨h1, h2⟩ := obOf_mem hx
  obtain ⟨h3, _⟩ := obOf_mem hy
  exact same_len Mo Ma hs h1 h3 (diffO_types hd x h1 y (by rw [h2]; exact hy))
theorem chk2_ok {fin : Int} : ∀ {l : List (Gr × Gr)}, chk2 fin l = 0 → fin = 0 ∧ ∀ p ∈ l, (diffOf p.1 p.2).2 = 0
  | [], h => ⟨h, fun _ hp => by cases hp⟩
  | p :: l, h => by
    unfold chk2 at h
    split at h
    · rename_i hb
      simp [h] at hb
    · rename_i hb
      obtain ⟨h1, h2⟩ := chk2_ok h
      refine ⟨h1, fun q hq => ?_⟩
      rcases List.mem_cons.1 hq with rfl | hq
      · simpa using hb
      · exact h2 q hq
theorem chk1_ok {e : Int} : ∀ {l : List (Gr × Gr)}, chk1 e l = 0 → e = 0
  | [], h => h
  | p :: l, h => by
    unfold chk1 at h
    split at h
    · simp at h
    · exact chk1_ok h
structure ChkOk (o a b : Gr) : Prop where
  oa : (diffOf o a).2 = 0
  ab : (diffOf a b).2 = 0
  ob : (diffOf o b).2 = 0
  rt : chkR o a b = 0
theorem check_ok {o a b : Gr} (h : checkM o a b = 0) : ChkOk o a b := by
  unfold checkM at h
  obtain ⟨h1, h2⟩ := chk2_ok (chk1_ok h)
  exact ⟨h2 (o, a) (List.mem_cons_self ..), h2 (a, b) (List.mem_cons_of_mem _ (List.mem_cons_self ..)), h2 (o, b) (List.mem_cons_of_mem _ (List.mem_cons_of_mem _ (List.mem_cons_self ..))), h1⟩

def clashM (o a b : Gr) : Ch × Int := if checkM o a b != 0 then (⟨[], [], [], []⟩, checkM o a b) else ((allM o a b).2.2, 0)
section
variable {w : World} {As : Option Addr} {cs : Nat} {Ao : Option Addr} {co : Nat} {Ar : Option Addr} {cr : Nat} {o : Gr}
variable {Bs : Option Addr} {ds : Nat} {Bo : Option Addr} {dO : Nat} {Br : Option Addr} {dr : Nat} {a : Gr}
variable {Cs : Option Addr} {es : Nat} {Co : Option Addr} {eo : Nat} {Cr : Option Addr} {er : Nat} {b : Gr}
set_option maxRecDepth 100000 in
set_option maxHeartbeats 4000000 in
theorem merge_Clash (ho : GOK w As cs Ao co Ar cr o) (ha : GOK w Bs ds Bo dO Br dr a) (hb : GOK w Cs es Co eo Cr er b) :
    Calls Tryz.prog 17 #[gv As cs Ao co Ar cr o, gv Bs ds Bo dO Br dr a, gv Cs es Co eo Cr er b] w fun e w' => Below w.heap.size w w' ∧ ChV w' e (clashM o a b).1 (clashM o a b).2 := by
  have HO := Lib.hid ho
  have HA := Lib.hid ha
  have HB := Lib.hid hb
  clear ho ha hb
  go_enter Tryz.func17, Tryz.ntmps17
  go_wp2_with fail
  refine nameC fun W hW => ?_
  have bW : Below w.heap.size w W := by rw [hW]; exact balloc (balloc (balloc (balloc (balloc (Below.refl _ _) _) _) _) _) _
  have g6 : Blk W (w.heap.size + 3) #[.slice none 0 0, .slice none 0 0, .slice none 0 0, .slice none 0 0] 33 := by rw [hW]; exact (Blk.new' (by simp) _ _).alloc _
  have t8 : Blk W (w.heap.size + 4) #[.slice As o.s.length cs, .slice Ao o.o.length co, .slice Ar o.roots.length cr, .slice Bs a.s.length ds, .slice Bo a.o.length dO, .slice Br a.roots.length dr, .slice Cs b.s.length es, .slice Co b.o.length eo, .slice Cr b.roots.length er] 56 := by rw [hW]; exact Blk.new' (by simp) _ _
  clear hW
  refine (merge_check (HO.out.below bW) (HA.out.below bW) (HB.out.below bW)).mono ?_
  rintro e w1 ⟨rfl, hb1⟩
  have b1 := bthen bW hb1
  have g6' := g6.below hb1
  have t8' := t8.below hb1
  have z6 := g6'.lt
  have z8 := t8'.lt
  obtain ⟨⟨c0, c1, c2, c3⟩, f0, f1, f2, f3⟩ := g6'.four
  have G6 := Lib.hid g6'
  have T8 := Lib.hid t8'
  clear g6 t8 bW hb1 g6' t8'
  rcases Bool.eq_false_or_eq_true (checkM o a b != 0) with he | he
  · have Hr := Lib.hid (show clashM o a b = (⟨[], [], [], []⟩, checkM o a b) by simp only [clashM, he, if_true])
    generalize checkM o a b = ee at *
    go_wp2_with fail
    refine bodyPost_ret (v := .tuple #[.agg #[.slice none 0 0, .slice none 0 0, .slice none 0 0, .slice none 0 0], .int .i64 ee]) (by simp [results, Tryz.results17, go_sem, *]) rfl ⟨below_set4 b1 (by omega) _ _ _ _, ?_⟩
    rw [Hr.out]; exact ChV.zero ee
  · have Hr := Lib.hid (show clashM o a b = ((allM o a b).2.2, 0) by simp only [clashM, he]; rfl)
    have ok := check_ok (show checkM o a b = 0 by simpa using he)
    generalize checkM o a b = ee at *
    obtain ⟨Mo, Ma, -, -⟩ := diffOf_ok ok.oa
    obtain ⟨-, Mb, -, -⟩ := diffOf_ok ok.ab
    have Hab := Lib.hid (diffOf_len ok.ab)
    have Hoa := Lib.hid (diffOf_len ok.oa)
    have q0 := T8.out.cell (j := 0) rfl
    have q1 := T8.out.cell (j := 1) rfl
    have q2 := T8.out.cell (j := 2) rfl
    have q3 := T8.out.cell (j := 3) rfl
    have q4 := T8.out.cell (j := 4) rfl
    have q5 := T8.out.cell (j := 5) rfl
    have q6 := T8.out.cell (j := 6) rfl
    have q7 := T8.out.cell (j := 7) rfl
    have q8 := T8.out.cell (j := 8) rfl
    clear ok c0 c1 c2 c3 f0 f1 f2 f3
    go_wp2_with fail
    refine (merge_all (HO.out.below b1) (HA.out.below b1) (HB.out.below b1) Mo Ma Mb Hab.out (fun id x z h1 h2 => (Hoa.out id z x h2 h1).symm)).mono ?_
    rintro e w2 ⟨hb2, bm, m, AR, cR, AS, cS, AC, cC, rfl, hbm, im, mo, r1, r2, r3, s1, s2, s3, k1, k2, k3⟩
    have b2 := bthen b1 hb2
    have g6 := G6.out.below hb2
    have z6b := g6.lt
    obtain ⟨⟨c0, c1, c2, c3⟩, f0, f1, f2, f3⟩ := g6.four
    have HS3 := Lib.hid s3
    have HK3 := Lib.hid k3
    have Hn := Lib.hid (show (allM o a b).2.2.new = [] from rfl)
    have Hg := Lib.hid (show (allM o a b).2.2.gone = [] from rfl)
    generalize (allM o a b).2.2 = c at *
    clear q0 q1 q2 q3 q4 q5 q6 q7 q8 im mo r3 s3 k3 g6
    go_wp2_with fail
    refine bodyPost_ret (v := .tuple #[.agg #[.slice none c.new.length 0, .slice none c.gone.length 0, .slice AS c.set.length cS, .slice AC c.roots.length cC], .int .i64 0]) (by simp [results, Tryz.results17, go_sem, *]) rfl ?_
    have kf := (set4 w2 (w.heap.size + 1 + 1 + 1) (.slice none c.new.length 0) (.slice none c.gone.length 0) (.slice AS c.set.length cS) (.slice AC c.roots.length cC))
    have kb := Kp.below (B := w.heap.size) kf (fun k hk => by omega)
    refine ⟨(b2.trans kb).alloc (by have := b2.size; have := kf.size; omega) _, ?_⟩
    rw [Hr.out]
    have hz := b1.size
    refine ⟨none, 0, none, 0, AS, cS, AC, cC, rfl, COK.below ⟨by rw [Hn.out]; exact Nat.le_refl _, Nat.zero_le _, by rw [Hn.out]; exact RepL.nil, by rw [Hg.out]; exact Nat.le_refl _, Nat.zero_le _, by rw [Hg.out]; exact RepL.nil, s1, s2, fin4 HS3.out kf (fun q hq => ⟨hq.2.1, by have := hq.1; omega⟩), k1, k2, fin4 HK3.out kf (fun q hq => ⟨hq.2.1, by have := hq.1; omega⟩)⟩ (balloc (Below.refl _ _) _)⟩
end
end Go.Proofs.YtgeegdnkheckcaaGreat
