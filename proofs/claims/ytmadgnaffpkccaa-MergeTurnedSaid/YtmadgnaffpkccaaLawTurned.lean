/- The walk of MergeTurned. -/
import Derived.Test.YtmadgnaffpkccaaAwake15
import Derived.Test.YtmadgnaffpkccaaTurned
import Derived.Test.YtmadgnaffpkccaaChg
set_option linter.unusedVariables false
namespace Go.Proofs.Ytmadgnaffpkccaa
open Lay (rep)
open Go.RowKit

section
variable {w : World} {As : Option Addr} {cs : Nat} {Ao : Option Addr} {co : Nat} {Ar : Option Addr} {cr : Nat} {o : Gr}
variable {Bs : Option Addr} {ds : Nat} {Bo : Option Addr} {dO : Nat} {Br : Option Addr} {dr : Nat} {a : Gr}
variable {Cs : Option Addr} {es : Nat} {Co : Option Addr} {eo : Nat} {Cr : Option Addr} {er : Nat} {b : Gr}
set_option maxRecDepth 100000 in
set_option maxHeartbeats 4000000 in
theorem mergeTurned_Calls (ho : GOK w As cs Ao co Ar cr o) (ha : GOK w Bs ds Bo dO Br dr a) (hb : GOK w Cs es Co eo Cr er b) :
    Calls Try.prog 3 #[gv As cs Ao co Ar cr o, gv Bs ds Bo dO Br dr a, gv Cs es Co eo Cr er b] w fun e w' => e = .returned (.bool true) ∧ Below w.heap.size w w' := by
  have HO := Lib.hid ho
  have HA := Lib.hid ha
  have HB := Lib.hid hb
  clear ho ha hb
  go_enter Try.func3, Try.ntmps3
  go_wp2_with fail
  refine nameC fun W hW => ?_
  have bW : Below w.heap.size w W := by rw [hW]; exact balloc (balloc (balloc (Below.refl _ _) _) _) _
  have g3 : Blk W w.heap.size #[.slice As o.s.length cs, .slice Ao o.o.length co, .slice Ar o.roots.length cr] 28 := by rw [hW]; exact ((Blk.new _ _ _).alloc _).alloc _
  have g4 : Blk W (w.heap.size + 1) #[.slice Bs a.s.length ds, .slice Bo a.o.length dO, .slice Br a.roots.length dr] 28 := by rw [hW]; exact (Blk.new' (by simp) _ _).alloc _
  have g5 : Blk W (w.heap.size + 1 + 1) #[.slice Cs b.s.length es, .slice Co b.o.length eo, .slice Cr b.roots.length er] 28 := by rw [hW]; exact (Blk.new' (by simp) _ _)
  clear hW
  refine awake15_Calls.mono ?_
  rintro e w1 ⟨rfl, hb1⟩
  have b1 := bthen bW hb1
  have G3 := Lib.hid (g3.below hb1)
  have G4 := Lib.hid (g4.below hb1)
  have G5 := Lib.hid (g5.below hb1)
  have zW : w.heap.size + 3 ≤ W.heap.size := g5.lt
  have sz1 := hb1.size
  have hz3 : w.heap.size + 2 < w1.heap.size := by omega
  have hz3' : w.heap.size + 1 < w1.heap.size := by omega
  have hz3'' : w.heap.size < w1.heap.size := by omega
  clear g3 g4 g5 bW hb1
  obtain ⟨c0, c1, c2, -⟩ := G3.out.three
  obtain ⟨d0, d1, d2, -⟩ := G4.out.three
  obtain ⟨e0, e1, e2, -⟩ := G5.out.three
  go_wp2_with fail
  refine (few15_Calls (HO.out.below b1) (HA.out.below b1) (HB.out.below b1)).mono ?_
  rintro e w2 ⟨rfl, hb2⟩
  have b2 := bthen b1 hb2
  have G32 := Lib.hid (G3.out.below hb2)
  have G42 := Lib.hid (G4.out.below hb2)
  have G52 := Lib.hid (G5.out.below hb2)
  have sz2 := hb2.size
  have hz4 : w.heap.size + 2 < w2.heap.size := by omega
  have hz4' : w.heap.size + 1 < w2.heap.size := by omega
  have hz4'' : w.heap.size < w2.heap.size := by omega
  clear c0 c1 c2 d0 d1 d2 e0 e1 e2 hb2
  obtain ⟨c0, c1, c2, -⟩ := G32.out.three
  obtain ⟨d0, d1, d2, -⟩ := G42.out.three
  obtain ⟨e0, e1, e2, -⟩ := G52.out.three
  cases hf : few15 o a b
  · clear hf
    go_wp2_with fail
    go_ret
    exact ⟨rfl, b2⟩
  clear hf
  go_wp2_with fail
  have Hcm := Lib.hid (merge_comm o a b)
  have Hcc := Lib.hid (clash_comm o a b)
  refine (merge_Merge (HO.out.below b2) (HA.out.below b2) (HB.out.below b2)).mono ?_
  rintro e w3 ⟨hb3, hv⟩
  generalize mergeM o a b = r at hv Hcm
  obtain ⟨Ds, fs, Do, fo, Dr, fr, An, an, Ag, ag, Acs, acs, Acr, acr, rfl, hm, hc⟩ := hv
  have b3 := bthen b2 hb3
  have G33 := Lib.hid (G32.out.below hb3)
  have G43 := Lib.hid (G42.out.below hb3)
  have G53 := Lib.hid (G52.out.below hb3)
  have HM3 := Lib.hid hm
  have HC3 := Lib.hid hc
  have sz3 := hb3.size
  have hz5 : w.heap.size + 2 < w3.heap.size := by omega
  have hz5' : w.heap.size + 1 < w3.heap.size := by omega
  have hz5'' : w.heap.size < w3.heap.size := by omega
  clear c0 c1 c2 d0 d1 d2 e0 e1 e2 hb3 hm hc
  obtain ⟨c0, c1, c2, -⟩ := G33.out.three
  obtain ⟨d0, d1, d2, -⟩ := G43.out.three
  obtain ⟨e0, e1, e2, -⟩ := G53.out.three
  go_wp2_with fail
  refine nameC fun W3 hW => ?_
  have bb : Below w3.heap.size w3 W3 := by rw [hW]; exact balloc (balloc (Below.refl _ _) _) _
  have m3 : Blk W3 w3.heap.size #[.slice Ds r.1.s.length fs, .slice Do r.1.o.length fo, .slice Dr r.1.roots.length fr] 28 := by rw [hW]; exact (Blk.new _ _ _).alloc _
  have n3 : Blk W3 (w3.heap.size + 1) #[.slice An r.2.1.new.length an, .slice Ag r.2.1.gone.length ag, .slice Acs r.2.1.set.length acs, .slice Acr r.2.1.roots.length acr] 33 := by rw [hW]; exact Blk.new' (by simp) _ _
  have M4 := Lib.hid m3
  have N4 := Lib.hid n3
  have G34 := Lib.hid (G33.out.below bb)
  have G44 := Lib.hid (G43.out.below bb)
  have G54 := Lib.hid (G53.out.below bb)
  have HM4 := Lib.hid (HM3.out.below bb)
  have HC4 := Lib.hid (HC3.out.below bb)
  have b4 := bthen b3 bb
  have sz4 := bb.size
  clear hW bb m3 n3 c0 c1 c2 d0 d1 d2 e0 e1 e2
  refine (merge_Merge (HO.out.below b4) (HB.out.below b4) (HA.out.below b4)).mono ?_
  rintro e w5 ⟨hb5, hv⟩
  rw [← Hcm.out] at hv
  obtain ⟨Es, gs, Eo, go, Er, gr, Bn, bn, Bg, bg, Bcs, bcs, Bcr, bcr, rfl, hm, hc⟩ := hv
  have b5 := bthen b4 hb5
  have G35 := Lib.hid (G34.out.below hb5)
  have G45 := Lib.hid (G44.out.below hb5)
  have G55 := Lib.hid (G54.out.below hb5)
  have M5 := Lib.hid (M4.out.below hb5)
  have N5 := Lib.hid (N4.out.below hb5)
  have HM5 := Lib.hid (HM4.out.below hb5)
  have HC5 := Lib.hid (HC4.out.below hb5)
  have HK5 := Lib.hid hm
  have HL5 := Lib.hid hc
  have sz5 := hb5.size
  have hz6 : w.heap.size + 2 < w5.heap.size := by omega
  have hz6' : w.heap.size + 1 < w5.heap.size := by omega
  have hz6'' : w.heap.size < w5.heap.size := by omega
  clear hb5 hm hc
  obtain ⟨c0, c1, c2, -⟩ := G35.out.three
  obtain ⟨d0, d1, d2, -⟩ := G45.out.three
  obtain ⟨e0, e1, e2, -⟩ := G55.out.three
  go_wp2_with fail
  refine nameC fun W5 hW => ?_
  have bb : Below w5.heap.size w5 W5 := by rw [hW]; exact balloc (balloc (Below.refl _ _) _) _
  have m3 : Blk W5 w5.heap.size #[.slice Es r.1.s.length gs, .slice Eo r.1.o.length go, .slice Er r.1.roots.length gr] 28 := by rw [hW]; exact (Blk.new _ _ _).alloc _
  have n3 : Blk W5 (w5.heap.size + 1) #[.slice Bn r.2.1.new.length bn, .slice Bg r.2.1.gone.length bg, .slice Bcs r.2.1.set.length bcs, .slice Bcr r.2.1.roots.length bcr] 33 := by rw [hW]; exact Blk.new' (by simp) _ _
  have K6 := Lib.hid m3
  have L6 := Lib.hid n3
  have G36 := Lib.hid (G35.out.below bb)
  have G46 := Lib.hid (G45.out.below bb)
  have G56 := Lib.hid (G55.out.below bb)
  have M6 := Lib.hid (M5.out.below bb)
  have N6 := Lib.hid (N5.out.below bb)
  have HM6 := Lib.hid (HM5.out.below bb)
  have HC6 := Lib.hid (HC5.out.below bb)
  have HK6 := Lib.hid (HK5.out.below bb)
  have HL6 := Lib.hid (HL5.out.below bb)
  have b6 := bthen b5 bb
  have sz6 := bb.size
  clear hW bb m3 n3 c0 c1 c2 d0 d1 d2 e0 e1 e2
  refine (merge_Clash (HO.out.below b6) (HA.out.below b6) (HB.out.below b6)).mono ?_
  rintro e w7 ⟨hb7, hv⟩
  generalize clashM o a b = q at hv Hcc
  obtain ⟨Fn, fn, Fg, fg, Fcs, fcs, Fcr, fcr, rfl, hc⟩ := hv
  have b7 := bthen b6 hb7
  have G37 := Lib.hid (G36.out.below hb7)
  have G47 := Lib.hid (G46.out.below hb7)
  have G57 := Lib.hid (G56.out.below hb7)
  have M7 := Lib.hid (M6.out.below hb7)
  have N7 := Lib.hid (N6.out.below hb7)
  have K7 := Lib.hid (K6.out.below hb7)
  have L7 := Lib.hid (L6.out.below hb7)
  have HM7 := Lib.hid (HM6.out.below hb7)
  have HC7 := Lib.hid (HC6.out.below hb7)
  have HK7 := Lib.hid (HK6.out.below hb7)
  have HL7 := Lib.hid (HL6.out.below hb7)
  have HP7 := Lib.hid hc
  have sz7 := hb7.size
  have hz7 : w.heap.size + 2 < w7.heap.size := by omega
  have hz7' : w.heap.size + 1 < w7.heap.size := by omega
  have hz7'' : w.heap.size < w7.heap.size := by omega
  clear hb7 hc
  obtain ⟨c0, c1, c2, -⟩ := G37.out.three
  obtain ⟨d0, d1, d2, -⟩ := G47.out.three
  obtain ⟨e0, e1, e2, -⟩ := G57.out.three
  go_wp2_with fail
  refine nameC fun W7 hW => ?_
  have bb : Below w7.heap.size w7 W7 := by rw [hW]; exact balloc (Below.refl _ _) _
  have n3 : Blk W7 w7.heap.size #[.slice Fn q.1.new.length fn, .slice Fg q.1.gone.length fg, .slice Fcs q.1.set.length fcs, .slice Fcr q.1.roots.length fcr] 33 := by rw [hW]; exact Blk.new _ _ _
  have P8 := Lib.hid n3
  have M8 := Lib.hid (M7.out.below bb)
  have N8 := Lib.hid (N7.out.below bb)
  have K8 := Lib.hid (K7.out.below bb)
  have L8 := Lib.hid (L7.out.below bb)
  have HM8 := Lib.hid (HM7.out.below bb)
  have HC8 := Lib.hid (HC7.out.below bb)
  have HK8 := Lib.hid (HK7.out.below bb)
  have HL8 := Lib.hid (HL7.out.below bb)
  have HP8 := Lib.hid (HP7.out.below bb)
  have b8 := bthen b7 bb
  have sz8 := bb.size
  clear hW bb n3 c0 c1 c2 d0 d1 d2 e0 e1 e2
  refine (merge_Clash (HO.out.below b8) (HB.out.below b8) (HA.out.below b8)).mono ?_
  rintro e w9 ⟨hb9, hv⟩
  rw [← Hcc.out] at hv
  obtain ⟨Jn, jn, Jg, jg, Jcs, jcs, Jcr, jcr, rfl, hc⟩ := hv
  have bb : ∀ o : Obj, Below W7.heap.size W7 (w9.alloc o) := fun o => balloc hb9 o
  have b9 := bthen b8 hb9
  have M9 := Lib.hid (M8.out.below hb9)
  have N9 := Lib.hid (N8.out.below hb9)
  have K9 := Lib.hid (K8.out.below hb9)
  have L9 := Lib.hid (L8.out.below hb9)
  have P9 := Lib.hid (P8.out.below hb9)
  have HM9 := Lib.hid (HM8.out.below hb9)
  have HC9 := Lib.hid (HC8.out.below hb9)
  have HK9 := Lib.hid (HK8.out.below hb9)
  have HL9 := Lib.hid (HL8.out.below hb9)
  have HP9 := Lib.hid (HP8.out.below hb9)
  have HQ9 := Lib.hid hc
  have zM := M9.out.lt
  have zN := N9.out.lt
  have zK := K9.out.lt
  have zL := L9.out.lt
  have zP := P9.out.lt
  have sz9 := hb9.size
  clear hb9 hc bb
  obtain ⟨c0, c1, c2, -⟩ := M9.out.three
  obtain ⟨d0, d1, d2, -⟩ := K9.out.three
  have ee : (r.2.2 == r.2.2) = true := by simp
  go_wp2_with fail
  refine nameC fun W9 hW => ?_
  have bb : Below w9.heap.size w9 W9 := by rw [hW]; exact balloc (Below.refl _ _) _
  have q9 : Blk W9 w9.heap.size #[.slice Jn q.1.new.length jn, .slice Jg q.1.gone.length jg, .slice Jcs q.1.set.length jcs, .slice Jcr q.1.roots.length jcr] 33 := by rw [hW]; exact Blk.new _ _ _
  have Q10 := Lib.hid q9
  have b10 := bthen b9 bb
  have HM10 := Lib.hid (HM9.out.below bb)
  have HK10 := Lib.hid (HK9.out.below bb)
  have N10 := Lib.hid (N9.out.below bb)
  have L10 := Lib.hid (L9.out.below bb)
  have P10 := Lib.hid (P9.out.below bb)
  have HC10 := Lib.hid (HC9.out.below bb)
  have HL10 := Lib.hid (HL9.out.below bb)
  have HP10 := Lib.hid (HP9.out.below bb)
  have HQ10 := Lib.hid (HQ9.out.below bb)
  clear hW q9 bb c0 c1 c2 d0 d1 d2
  refine (graph_Same HM10.out HK10.out).mono ?_
  rw [show decide (r.1 = r.1) = true from decide_eq_true rfl]
  rintro e w11 ⟨rfl, hb11⟩
  have b11 := bthen b10 hb11
  have N11 := Lib.hid (N10.out.below hb11)
  have L11 := Lib.hid (L10.out.below hb11)
  have P11 := Lib.hid (P10.out.below hb11)
  have Q11 := Lib.hid (Q10.out.below hb11)
  have HC11 := Lib.hid (HC10.out.below hb11)
  have HL11 := Lib.hid (HL10.out.below hb11)
  have HP11 := Lib.hid (HP10.out.below hb11)
  have HQ11 := Lib.hid (HQ10.out.below hb11)
  have zN1 := N11.out.lt
  have zL1 := L11.out.lt
  obtain ⟨⟨c0, c1, c2, c3⟩, -⟩ := N11.out.four
  obtain ⟨⟨d0, d1, d2, d3⟩, -⟩ := L11.out.four
  clear hb11
  go_wp2_with fail
  refine (diff_Same HC11.out HL11.out).mono ?_
  rw [show decide (r.2.1 = r.2.1) = true from decide_eq_true rfl]
  rintro e w12 ⟨rfl, hb12⟩
  have b12 := bthen b11 hb12
  have P12 := Lib.hid (P11.out.below hb12)
  have Q12 := Lib.hid (Q11.out.below hb12)
  have HP12 := Lib.hid (HP11.out.below hb12)
  have HQ12 := Lib.hid (HQ11.out.below hb12)
  have zP2 := P12.out.lt
  have zQ2 := Q12.out.lt
  have ef : (q.2 == q.2) = true := by simp
  clear hb12 c0 c1 c2 c3 d0 d1 d2 d3
  obtain ⟨⟨c0, c1, c2, c3⟩, -⟩ := P12.out.four
  obtain ⟨⟨d0, d1, d2, d3⟩, -⟩ := Q12.out.four
  go_wp2_with fail
  refine (diff_Same HP12.out HQ12.out).mono ?_
  rw [show decide (q.1 = q.1) = true from decide_eq_true rfl]
  rintro e w13 ⟨rfl, hb13⟩
  have b13 := bthen b12 hb13
  clear hb13 c0 c1 c2 c3 d0 d1 d2 d3
  go_wp2_with fail
  go_ret
  exact ⟨rfl, b13⟩
end
end Go.Proofs.Ytmadgnaffpkccaa
