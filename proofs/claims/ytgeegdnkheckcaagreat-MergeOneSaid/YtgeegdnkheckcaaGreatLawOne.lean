/- The walk of MergeOne. -/
import Derived.Test.YtgeegdnkheckcaaGreatAwake15
import Derived.Test.YtgeegdnkheckcaaGreatPOne
set_option linter.unusedVariables false
namespace Go.Proofs.YtgeegdnkheckcaaGreat
open Lay (rep)
open Go.RowKit

theorem few_fit {g : Gr} (h : few08 g = true) : Fit g := by
  simp only [few08, few06, Bool.and_eq_true, decide_eq_true_eq] at h
  obtain ⟨⟨⟨⟨h1, h2⟩, h3⟩, h4⟩, h5⟩ := h
  refine ⟨by omega, fun t ht => ?_, by omega, fun x hx => ?_, by omega⟩
  · obtain ⟨j, hj, rfl⟩ := List.getElem_of_mem ht
    have := allFrom_get0 h1 j hj
    simp only [decide_eq_true_eq] at this
    omega
  · obtain ⟨j, hj, rfl⟩ := List.getElem_of_mem hx
    have := allFrom_get0 h5 j hj
    simp only [decide_eq_true_eq] at this
    omega
section
variable {w : World} {As : Option Addr} {cs : Nat} {Ao : Option Addr} {co : Nat} {Ar : Option Addr} {cr : Nat} {o : Gr}
variable {Bs : Option Addr} {ds : Nat} {Bo : Option Addr} {dO : Nat} {Br : Option Addr} {dr : Nat} {a : Gr}
set_option maxRecDepth 100000 in
set_option maxHeartbeats 4000000 in
theorem mergeOne_Calls (ho : GOK w As cs Ao co Ar cr o) (ha : GOK w Bs ds Bo dO Br dr a) :
    Calls Tryz.prog 3 #[gv As cs Ao co Ar cr o, gv Bs ds Bo dO Br dr a] w fun e w' => e = .returned (.bool true) ∧ Below w.heap.size w w' := by
  have HO := Lib.hid ho
  have HA := Lib.hid ha
  clear ho ha
  have Hbad := Lib.hid (one_bad (o := o) (a := a))
  have Hok := Lib.hid (one_ok (o := o) (a := a))
  go_enter Tryz.func3, Tryz.ntmps3
  go_wp2_with fail
  refine nameC fun W hW => ?_
  have bW : Below w.heap.size w W := by rw [hW]; exact balloc (balloc (Below.refl _ _) _) _
  have g3 : Blk W w.heap.size #[.slice As o.s.length cs, .slice Ao o.o.length co, .slice Ar o.roots.length cr] 28 := by rw [hW]; exact (Blk.new _ _ _).alloc _
  have g4 : Blk W (w.heap.size + 1) #[.slice Bs a.s.length ds, .slice Bo a.o.length dO, .slice Br a.roots.length dr] 28 := by rw [hW]; exact Blk.new' (by simp) _ _
  clear hW
  refine awake15_Calls.mono ?_
  rintro e w1 ⟨rfl, hb1⟩
  have b1 := bthen bW hb1
  have G3 := Lib.hid (g3.below hb1)
  have G4 := Lib.hid (g4.below hb1)
  have hz3' := (g4.below hb1).lt
  have hz3'' : w.heap.size < w1.heap.size := by omega
  clear g3 g4 bW hb1
  obtain ⟨c0, c1, c2, -⟩ := G3.out.three
  obtain ⟨d0, d1, d2, -⟩ := G4.out.three
  go_wp2_with fail
  refine (few15_Calls (HO.out.below b1) (HA.out.below b1) (HA.out.below b1)).mono ?_
  rintro e w2 ⟨rfl, hb2⟩
  have b2 := bthen b1 hb2
  have G32 := Lib.hid (G3.out.below hb2)
  have G42 := Lib.hid (G4.out.below hb2)
  have hz4' := G42.out.lt
  have hz4'' : w.heap.size < w2.heap.size := by omega
  clear c0 c1 c2 d0 d1 d2 hb2
  obtain ⟨c0, c1, c2, -⟩ := G32.out.three
  obtain ⟨d0, d1, d2, -⟩ := G42.out.three
  cases hf : few15 o a a
  · clear hf
    go_wp2_with fail
    go_ret
    exact ⟨rfl, b2⟩
  have HF := Lib.hid (few_fit (g := a) (by simp only [few15, Bool.and_eq_true] at hf; exact hf.2))
  clear hf
  go_wp2_with fail
  refine (merge_Merge (HO.out.below b2) (HA.out.below b2) (HO.out.below b2)).mono ?_
  rintro e w3 ⟨hb3, hv⟩
  generalize mergeM o a o = r at hv Hbad Hok
  obtain ⟨Ds, fs, Do, fo, Dr, fr, An, an, Ag, ag, Acs, acs, Acr, acr, rfl, hm, hc⟩ := hv
  have b3 := bthen b2 hb3
  have G33 := Lib.hid (G32.out.below hb3)
  have G43 := Lib.hid (G42.out.below hb3)
  have HM3 := Lib.hid hm
  have hz5' := G43.out.lt
  have hz5'' : w.heap.size < w3.heap.size := by omega
  clear c0 c1 c2 d0 d1 d2 hb3 hm hc
  obtain ⟨c0, c1, c2, -⟩ := G33.out.three
  obtain ⟨d0, d1, d2, -⟩ := G43.out.three
  go_wp2_with fail
  refine nameC fun W3 hW => ?_
  have bb : Below w3.heap.size w3 W3 := by rw [hW]; exact balloc (balloc (Below.refl _ _) _) _
  have m3 : Blk W3 w3.heap.size #[.slice Ds r.1.s.length fs, .slice Do r.1.o.length fo, .slice Dr r.1.roots.length fr] 28 := by rw [hW]; exact (Blk.new _ _ _).alloc _
  have n3 : Blk W3 (w3.heap.size + 1) #[.slice An r.2.1.new.length an, .slice Ag r.2.1.gone.length ag, .slice Acs r.2.1.set.length acs, .slice Acr r.2.1.roots.length acr] 33 := by rw [hW]; exact Blk.new' (by simp) _ _
  have M4 := Lib.hid m3
  have N4 := Lib.hid n3
  have G34 := Lib.hid (G33.out.below bb)
  have G44 := Lib.hid (G43.out.below bb)
  have HM4 := Lib.hid (HM3.out.below bb)
  have b4 := bthen b3 bb
  clear hW bb m3 n3 c0 c1 c2 d0 d1 d2
  refine (merge_Merge (HO.out.below b4) (HA.out.below b4) (HA.out.below b4)).mono ?_
  rintro e w5 ⟨hb5, hv⟩
  generalize mergeM o a a = q at hv Hbad Hok
  obtain ⟨Es, gs, Eo, go, Er, gr, Bn, bn, Bg, bg, Bcs, bcs, Bcr, bcr, rfl, hm, hc⟩ := hv
  have b5 := bthen b4 hb5
  have G35 := Lib.hid (G34.out.below hb5)
  have G45 := Lib.hid (G44.out.below hb5)
  have M5 := Lib.hid (M4.out.below hb5)
  have N5 := Lib.hid (N4.out.below hb5)
  have HM5 := Lib.hid (HM4.out.below hb5)
  have HK5 := Lib.hid hm
  have hz6' := G45.out.lt
  have hz6'' : w.heap.size < w5.heap.size := by omega
  clear hb5 hm hc
  obtain ⟨c0, c1, c2, -⟩ := G35.out.three
  obtain ⟨d0, d1, d2, -⟩ := G45.out.three
  go_wp2_with fail
  refine nameC fun W5 hW => ?_
  have bb : Below w5.heap.size w5 W5 := by rw [hW]; exact balloc (balloc (Below.refl _ _) _) _
  have m3 : Blk W5 w5.heap.size #[.slice Es q.1.s.length gs, .slice Eo q.1.o.length go, .slice Er q.1.roots.length gr] 28 := by rw [hW]; exact (Blk.new _ _ _).alloc _
  have n3 : Blk W5 (w5.heap.size + 1) #[.slice Bn q.2.1.new.length bn, .slice Bg q.2.1.gone.length bg, .slice Bcs q.2.1.set.length bcs, .slice Bcr q.2.1.roots.length bcr] 33 := by rw [hW]; exact Blk.new' (by simp) _ _
  have K6 := Lib.hid m3
  have L6 := Lib.hid n3
  have G36 := Lib.hid (G35.out.below bb)
  have G46 := Lib.hid (G45.out.below bb)
  have M6 := Lib.hid (M5.out.below bb)
  have N6 := Lib.hid (N5.out.below bb)
  have HM6 := Lib.hid (HM5.out.below bb)
  have HK6 := Lib.hid (HK5.out.below bb)
  have b6 := bthen b5 bb
  clear hW bb m3 n3 c0 c1 c2 d0 d1 d2
  refine (diff_Of (HO.out.below b6) (HA.out.below b6)).mono ?_
  rintro e w7 ⟨hb7, hv⟩
  generalize (diffOf o a).2 = n at hv Hbad Hok
  obtain ⟨Fn, fn, Fg, fg, Fcs, fcs, Fcr, fcr, rfl, hc⟩ := hv
  have b7 := bthen b6 hb7
  have G37 := Lib.hid (G36.out.below hb7)
  have G47 := Lib.hid (G46.out.below hb7)
  have M7 := Lib.hid (M6.out.below hb7)
  have N7 := Lib.hid (N6.out.below hb7)
  have K7 := Lib.hid (K6.out.below hb7)
  have L7 := Lib.hid (L6.out.below hb7)
  have HM7 := Lib.hid (HM6.out.below hb7)
  have HK7 := Lib.hid (HK6.out.below hb7)
  have hz7' := G47.out.lt
  have hz7'' : w.heap.size < w7.heap.size := by omega
  clear hb7 hc
  obtain ⟨c0, c1, c2, -⟩ := G37.out.three
  obtain ⟨d0, d1, d2, -⟩ := G47.out.three
  by_cases hn : n = 0
  case neg =>
    have e1 : (n == 0) = false := beq_eq_false_iff_ne.2 hn
    have e1' : (n != 0) = true := by simp [hn]
    obtain ⟨hr, hq⟩ := Hbad.out (.inl hn)
    have e2 : (r.2.2 != 0) = true := by simp [hr]
    have e3 : (q.2.2 != 0) = true := by rw [← hq]; exact e2
    have e4 : (r.2.2 == q.2.2) = true := by simp [hq]
    clear hr hq hn
    go_wp2_with fail
    go_ret
    exact ⟨rfl, balloc b7 _⟩
  case pos =>
    have e1 : (n == 0) = true := by simp [hn]
    have e1' : (n != 0) = false := by simp [hn]
    by_cases hlt : a.roots.length < o.roots.length
    · obtain ⟨hr, hq⟩ := Hbad.out (.inr hlt)
      have e2 : (r.2.2 != 0) = true := by simp [hr]
      have e3 : (q.2.2 != 0) = true := by rw [← hq]; exact e2
      have e4 : (r.2.2 == q.2.2) = true := by simp [hq]
      have hlt' : (a.roots.length : Int) < (o.roots.length : Int) := by omega
      clear hr hq hn
      go_wp2_with fail
      go_ret
      exact ⟨rfl, balloc b7 _⟩
    · obtain ⟨hr, hq⟩ := Hok.out hn (by omega)
      have Hr := Lib.hid hr
      have Hq := Lib.hid hq
      have e2 : (r.2.2 == 0) = true := by rw [hr]; rfl
      have e3 : (q.2.2 == 0) = true := by rw [hq]; rfl
      have hlt' : ¬ (a.roots.length : Int) < (o.roots.length : Int) := by omega
      clear hr hq hn
      go_wp2_with fail
      refine nameC fun W7 hW => ?_
      have bb : Below w7.heap.size w7 W7 := by rw [hW]; exact balloc (Below.refl _ _) _
      have b8 := bthen b7 bb
      have M8 := Lib.hid (M7.out.below bb)
      have N8 := Lib.hid (N7.out.below bb)
      have K8 := Lib.hid (K7.out.below bb)
      have L8 := Lib.hid (L7.out.below bb)
      have HM8 := Lib.hid (HM7.out.below bb)
      have HK8 := Lib.hid (HK7.out.below bb)
      clear hW bb c0 c1 c2 d0 d1 d2
      refine (graph_Sweep (HA.out.below b8) HF.out).mono ?_
      rintro e w9 ⟨hb9, Ss, ss, So, so, Sr, sr, rfl, hS⟩
      have b9 := bthen b8 hb9
      have M9 := Lib.hid (M8.out.below hb9)
      have N9 := Lib.hid (N8.out.below hb9)
      have K9 := Lib.hid (K8.out.below hb9)
      have L9 := Lib.hid (L8.out.below hb9)
      have HM9 := Lib.hid (HM8.out.below hb9)
      have HK9 := Lib.hid (HK8.out.below hb9)
      have HS9 := Lib.hid hS
      have zN := N9.out.lt
      have zL := L9.out.lt
      obtain ⟨⟨c0, c1, c2, c3⟩, -⟩ := N9.out.four
      clear hS hb9
      go_wp2_with fail
      refine nameC fun W9 hW => ?_
      have bb : Below w9.heap.size w9 W9 := by rw [hW]; exact balloc (Below.refl _ _) _
      have s9 : Blk W9 w9.heap.size #[.slice Ss (sweepM a).s.length ss, .slice So (sweepM a).o.length so, .slice Sr (sweepM a).roots.length sr] 28 := by rw [hW]; exact Blk.new _ _ _
      have S10 := Lib.hid s9
      have b10 := bthen b9 bb
      have M10 := Lib.hid (M9.out.below bb)
      have K10 := Lib.hid (K9.out.below bb)
      have L10 := Lib.hid (L9.out.below bb)
      have HM10 := Lib.hid (HM9.out.below bb)
      have HK10 := Lib.hid (HK9.out.below bb)
      have HS10 := Lib.hid (HS9.out.below bb)
      clear hW bb s9 c0 c1 c2 c3
      refine (diff_None (by rw [Hr.out]; exact Nat.zero_le _)).mono ?_
      rintro e w11 ⟨rfl, hb11⟩
      rw [show cnone r.2.1 = true by rw [Hr.out]; rfl]
      have b11 := bthen b10 hb11
      have S11 := Lib.hid (S10.out.below hb11)
      have M11 := Lib.hid (M10.out.below hb11)
      have K11 := Lib.hid (K10.out.below hb11)
      have L11 := Lib.hid (L10.out.below hb11)
      have HM11 := Lib.hid (HM10.out.below hb11)
      have HK11 := Lib.hid (HK10.out.below hb11)
      have HS11 := Lib.hid (HS10.out.below hb11)
      obtain ⟨⟨c0, c1, c2, c3⟩, -⟩ := L11.out.four
      clear hb11
      go_wp2_with fail
      refine (diff_None (by rw [Hq.out]; exact Nat.zero_le _)).mono ?_
      rintro e w12 ⟨rfl, hb12⟩
      rw [show cnone q.2.1 = true by rw [Hq.out]; rfl]
      have b12 := bthen b11 hb12
      have S12 := Lib.hid (S11.out.below hb12)
      have M12 := Lib.hid (M11.out.below hb12)
      have K12 := Lib.hid (K11.out.below hb12)
      have HM12 := Lib.hid (HM11.out.below hb12)
      have HK12 := Lib.hid (HK11.out.below hb12)
      have HS12 := Lib.hid (HS11.out.below hb12)
      clear hb12 c0 c1 c2 c3
      obtain ⟨c0, c1, c2, -⟩ := M12.out.three
      obtain ⟨d0, d1, d2, -⟩ := S12.out.three
      go_wp2_with fail
      refine (graph_Same HM12.out HS12.out).mono ?_
      rw [show decide (r.1 = sweepM a) = true by rw [Hr.out]; exact decide_eq_true rfl]
      rintro e w13 ⟨rfl, hb13⟩
      have b13 := bthen b12 hb13
      have S13 := Lib.hid (S12.out.below hb13)
      have K13 := Lib.hid (K12.out.below hb13)
      have HK13 := Lib.hid (HK12.out.below hb13)
      have HS13 := Lib.hid (HS12.out.below hb13)
      clear hb13 c0 c1 c2 d0 d1 d2
      obtain ⟨c0, c1, c2, -⟩ := K13.out.three
      obtain ⟨d0, d1, d2, -⟩ := S13.out.three
      go_wp2_with fail
      refine (graph_Same HK13.out HS13.out).mono ?_
      rw [show decide (q.1 = sweepM a) = true by rw [Hq.out]; exact decide_eq_true rfl]
      rintro e w14 ⟨rfl, hb14⟩
      have b14 := bthen b13 hb14
      clear hb14 c0 c1 c2 d0 d1 d2
      go_wp2_with fail
      go_ret
      exact ⟨rfl, b14⟩
end
end Go.Proofs.YtgeegdnkheckcaaGreat
