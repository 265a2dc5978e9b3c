/- The walks of the merging statements' awake and few. -/
import Derived.Test.YtgeegdnkheckcaaGreatWake15
import Derived.Test.YtgeegdnkheckcaaGreatFew
set_option linter.unusedVariables false
namespace Go.Proofs.YtgeegdnkheckcaaGreat
open Lay (rep)
open Go.RowKit

theorem fitTwo : Fit twoG := ⟨by decide, by decide, by decide, by decide, by decide⟩
section
variable {w : World}
theorem GrV.of {e : Ending} {r r' : Gr × Int} (h : GrV w e r) (he : r = r') : GrV w e r' := he ▸ h
set_option maxRecDepth 100000 in
set_option maxHeartbeats 4000000 in
theorem awake15_Calls : Calls Tryz.prog 6 #[] w fun e w' => e = .returned (.bool true) ∧ Below w.heap.size w w' := by
  go_enter Tryz.func6, Tryz.ntmps6
  go_wp2_with fail
  refine two_Calls.mono ?_
  rintro e w1 ⟨b1, As, cs, Ao, co, Ar, cr, rfl, hg⟩
  have Hg := Lib.hid hg
  clear hg
  go_wp2_with fail
  refine nameC fun W hW => ?_
  have b2 : Below w1.heap.size w1 W := by rw [hW]; exact balloc (Below.refl _ _) _
  have x1 : Blk W w1.heap.size #[.slice As twoG.s.length cs, .slice Ao twoG.o.length co, .slice Ar twoG.roots.length cr] 28 := by rw [hW]; exact Blk.new _ _ _
  have X1 := Lib.hid x1
  have G1 := Lib.hid (Hg.out.below b2)
  have B := Lib.hid (bthen b1 b2)
  clear hW x1 b1 b2
  refine (graph_Set (v := ⟨9, ⟨#[]⟩, 0⟩) G1.out fitTwo (by unfold maxLen; decide)).mono ?_
  rintro e w2 ⟨hb2, hv⟩
  obtain ⟨Bs, ds, Bo, dO, Br, dr, rfl, ha⟩ := hv.of twoSetA
  have B2 := Lib.hid (bthen B.out hb2)
  have X2 := Lib.hid (X1.out.below hb2)
  have HA := Lib.hid ha
  have G2 := Lib.hid (G1.out.below hb2)
  obtain ⟨c0, c1, c2, -⟩ := X2.out.three
  have zx2 := X2.out.lt
  clear hb2 ha hv
  go_wp2_with fail
  refine nameC fun W2 hW => ?_
  have b2 : Below w2.heap.size w2 W2 := by rw [hW]; exact balloc (Below.refl _ _) _
  have y1 : Blk W2 w2.heap.size #[.slice Bs twoA.s.length ds, .slice Bo twoA.o.length dO, .slice Br twoA.roots.length dr] 28 := by rw [hW]; exact Blk.new _ _ _
  have Y1 := Lib.hid y1
  have X3 := Lib.hid (X2.out.below b2)
  have G3 := Lib.hid (G2.out.below b2)
  have HA3 := Lib.hid (HA.out.below b2)
  have B3 := Lib.hid (bthen B2.out b2)
  clear hW y1 b2 c0 c1 c2
  refine (graph_Set (v := ⟨0, ⟨#[]⟩, 5⟩) G3.out fitTwo (by unfold maxLen; decide)).mono ?_
  rintro e w3 ⟨hb3, hv⟩
  obtain ⟨Cs, es, Co, eo, Cr, er, rfl, hb⟩ := hv.of twoSetB
  have B4 := Lib.hid (bthen B3.out hb3)
  have X4 := Lib.hid (X3.out.below hb3)
  have Y4 := Lib.hid (Y1.out.below hb3)
  have HB := Lib.hid hb
  have HA4 := Lib.hid (HA3.out.below hb3)
  have G4 := Lib.hid (G3.out.below hb3)
  obtain ⟨c0, c1, c2, -⟩ := X4.out.three
  obtain ⟨d0, d1, d2, -⟩ := Y4.out.three
  have zx4 := X4.out.lt
  have zy4 := Y4.out.lt
  clear hb3 hb hv
  go_wp2_with fail
  refine nameC fun W4 hW => ?_
  have b2 : Below w3.heap.size w3 W4 := by rw [hW]; exact balloc (Below.refl _ _) _
  have X5 := Lib.hid (X4.out.below b2)
  have Y5 := Lib.hid (Y4.out.below b2)
  have G5 := Lib.hid (G4.out.below b2)
  have HA5 := Lib.hid (HA4.out.below b2)
  have HB5 := Lib.hid (HB.out.below b2)
  have B5 := Lib.hid (bthen B4.out b2)
  clear hW b2 c0 c1 c2 d0 d1 d2
  refine (merge_Merge G5.out HA5.out HB5.out).mono ?_
  rw [twoMerge]
  rintro e w5 ⟨hb5, Ds, fs, Do, fo, Dr, fr, Bn, cn, Bg, cg, Bcs, bcs, Bcr, bcr, rfl, hm, -⟩
  have B6 := Lib.hid (bthen B5.out hb5)
  have X6 := Lib.hid (X5.out.below hb5)
  have Y6 := Lib.hid (Y5.out.below hb5)
  have G6 := Lib.hid (G5.out.below hb5)
  have HA6 := Lib.hid (HA5.out.below hb5)
  have HM := Lib.hid hm
  obtain ⟨c0, c1, c2, -⟩ := X6.out.three
  have zx6 := X6.out.lt
  clear hb5 hm
  go_wp2_with fail
  refine nameC fun W6 hW => ?_
  have b2 : Below w5.heap.size w5 W6 := by rw [hW]; exact balloc (balloc (Below.refl _ _) _) _
  have m6 : Blk W6 w5.heap.size #[.slice Ds twoM.s.length fs, .slice Do twoM.o.length fo, .slice Dr twoM.roots.length fr] 28 := by rw [hW]; exact (Blk.new _ _ _).alloc _
  have n6 : Blk W6 (w5.heap.size + 1) #[.slice Bn 0 cn, .slice Bg 0 cg, .slice Bcs 0 bcs, .slice Bcr 0 bcr] 33 := by rw [hW]; exact Blk.new' (by simp) _ _
  have M7 := Lib.hid m6
  have N7 := Lib.hid n6
  have X7 := Lib.hid (X6.out.below b2)
  have Y7 := Lib.hid (Y6.out.below b2)
  have G7 := Lib.hid (G6.out.below b2)
  have HA7 := Lib.hid (HA6.out.below b2)
  have HM7 := Lib.hid (HM.out.below b2)
  have B7 := Lib.hid (bthen B6.out b2)
  clear hW b2 m6 n6 c0 c1 c2
  refine (graph_Set (v := ⟨8, ⟨#[]⟩, 0⟩) G7.out fitTwo (by unfold maxLen; decide)).mono ?_
  rintro e w7 ⟨hb7, hv⟩
  obtain ⟨Es, gs, Eo, go, Er, gr, rfl, hd⟩ := hv.of twoSetD
  have B8 := Lib.hid (bthen B7.out hb7)
  have X8 := Lib.hid (X7.out.below hb7)
  have Y8 := Lib.hid (Y7.out.below hb7)
  have M8 := Lib.hid (M7.out.below hb7)
  have N8 := Lib.hid (N7.out.below hb7)
  have HD := Lib.hid hd
  have G8 := Lib.hid (G7.out.below hb7)
  have HA8 := Lib.hid (HA7.out.below hb7)
  have HM8 := Lib.hid (HM7.out.below hb7)
  obtain ⟨c0, c1, c2, -⟩ := X8.out.three
  obtain ⟨d0, d1, d2, -⟩ := Y8.out.three
  have zx8 := X8.out.lt
  have zy8 := Y8.out.lt
  clear hb7 hd hv
  go_wp2_with fail
  refine nameC fun W8 hW => ?_
  have b2 : Below w7.heap.size w7 W8 := by rw [hW]; exact balloc (Below.refl _ _) _
  have M9 := Lib.hid (M8.out.below b2)
  have N9 := Lib.hid (N8.out.below b2)
  have G9 := Lib.hid (G8.out.below b2)
  have HA9 := Lib.hid (HA8.out.below b2)
  have HD9 := Lib.hid (HD.out.below b2)
  have HM9 := Lib.hid (HM8.out.below b2)
  have B9 := Lib.hid (bthen B8.out b2)
  clear hW b2 c0 c1 c2 d0 d1 d2
  refine (merge_Clash G9.out HA9.out HD9.out).mono ?_
  rw [twoClash]
  rintro e w9 ⟨hb9, Fn, hn, Fg, hg', Fs, hs, Fr, hr, rfl, -⟩
  have B10 := Lib.hid (bthen B9.out hb9)
  have M10 := Lib.hid (M9.out.below hb9)
  have N10 := Lib.hid (N9.out.below hb9)
  have HM10 := Lib.hid (HM9.out.below hb9)
  obtain ⟨⟨n0, n1, n2, n3⟩, -⟩ := N10.out.four
  have zN := N10.out.lt
  go_wp2_with fail
  refine nameC fun W10 hW => ?_
  have b2 : Below w9.heap.size w9 W10 := by rw [hW]; exact balloc (Below.refl _ _) _
  have c11 : Blk W10 w9.heap.size #[.slice Fn 0 hn, .slice Fg 0 hg', .slice Fs 1 hs, .slice Fr 0 hr] 33 := by rw [hW]; exact Blk.new _ _ _
  have C11 := Lib.hid c11
  have M11 := Lib.hid (M10.out.below b2)
  have HM11 := Lib.hid (HM10.out.below b2)
  have B11 := Lib.hid (bthen B10.out b2)
  clear hW c11 b2 n0 n1 n2 n3
  refine (diff_None (c := chNil) (by decide)).mono ?_
  rintro e w12 ⟨rfl, hb12⟩
  rw [show cnone chNil = true from rfl]
  have C12 := Lib.hid (C11.out.below hb12)
  have M12 := Lib.hid (M11.out.below hb12)
  have HM12 := Lib.hid (HM11.out.below hb12)
  have B12 := Lib.hid (bthen B11.out hb12)
  obtain ⟨ob, oo, rfl, _, zob, hos⟩ := HM12.out.o.ob (by simp [twoM])
  obtain ⟨F0, c0', o00, o01, o02, _, _, hf⟩ := hos 0 (by decide)
  obtain ⟨fb, fo', rfl, _, zfb, hfs⟩ := hf.vl (by simp [twoM])
  obtain ⟨f00, f01, f02, _⟩ := hfs 0 (by decide)
  obtain ⟨f10, f11, f12, _⟩ := hfs 1 (by decide)
  obtain ⟨m0, m1, m2, -⟩ := M12.out.three
  obtain ⟨⟨n0, n1, n2, n3⟩, -⟩ := C12.out.four
  have f00' : w12.cell? ⟨fb, fo', none⟩ = some (.int .i64 9) := f00
  have f12' : w12.cell? ⟨fb, fo' + 3 + 2, none⟩ = some (.int .i64 5) := f12
  have o02' : w12.cell? ⟨ob, oo + 2, none⟩ = some (.slice (some ⟨fb, fo', none⟩) 2 c0') := o02
  have zM := M12.out.lt
  have zC := C12.out.lt
  clear hos hf hfs hb12 o00 o01 f01 f02 f10 f11 f00 f12 o02
  go_wp2_with fail
  go_ret
  exact ⟨rfl, B12.out⟩

def few15 (o a b : Gr) : Bool := few08 o && few08 a && few08 b
variable {As : Option Addr} {cs : Nat} {Ao : Option Addr} {co : Nat} {Ar : Option Addr} {cr : Nat} {o : Gr}
variable {Bs : Option Addr} {ds : Nat} {Bo : Option Addr} {dO : Nat} {Br : Option Addr} {dr : Nat} {a : Gr}
variable {Cs : Option Addr} {es : Nat} {Co : Option Addr} {eo : Nat} {Cr : Option Addr} {er : Nat} {b : Gr}
set_option maxRecDepth 100000 in
set_option maxHeartbeats 4000000 in
theorem few15_Calls (ho : GOK w As cs Ao co Ar cr o) (ha : GOK w Bs ds Bo dO Br dr a) (hb : GOK w Cs es Co eo Cr er b) :
    Calls Tryz.prog 7 #[gv As cs Ao co Ar cr o, gv Bs ds Bo dO Br dr a, gv Cs es Co eo Cr er b] w fun e w' => e = .returned (.bool (few15 o a b)) ∧ Below w.heap.size w w' := by
  have HO := Lib.hid ho
  have HA := Lib.hid ha
  have HB := Lib.hid hb
  clear ho ha hb
  go_enter Tryz.func7, Tryz.ntmps7
  go_wp2_with fail
  refine nameC fun W hW => ?_
  have bW : Below w.heap.size w W := by rw [hW]; exact balloc (balloc (balloc (Below.refl _ _) _) _) _
  have g4 : Blk W (w.heap.size + 1) #[.slice Bs a.s.length ds, .slice Bo a.o.length dO, .slice Br a.roots.length dr] 28 := by rw [hW]; exact (Blk.new' (by simp) _ _).alloc _
  have g5 : Blk W (w.heap.size + 1 + 1) #[.slice Cs b.s.length es, .slice Co b.o.length eo, .slice Cr b.roots.length er] 28 := by rw [hW]; exact (Blk.new' (by simp) _ _)
  clear hW
  refine (few08_Calls (HO.out.below bW)).mono ?_
  rintro e w1 ⟨rfl, hb1⟩
  have G4 := Lib.hid (g4.below hb1)
  have G5 := Lib.hid (g5.below hb1)
  have b1 := bthen bW hb1
  obtain ⟨c0, c1, c2, -⟩ := G4.out.three
  have z4 := G4.out.lt
  clear g4 g5 bW hb1
  have Hf := Lib.hid (show few15 o a b = (few08 o && few08 a && few08 b) from rfl)
  generalize few08 o = p at *
  go_wp2_with fail
  refine (few08_Calls (HA.out.below b1)).mono ?_
  rintro e w2 ⟨rfl, hb2⟩
  have G52 := Lib.hid (G5.out.below hb2)
  have b2 := bthen b1 hb2
  clear c0 c1 c2 hb2 b1
  obtain ⟨c0, c1, c2, -⟩ := G52.out.three
  have z5 := G52.out.lt
  generalize few08 a = q at *
  go_wp2_with fail
  refine (few08_Calls (HB.out.below b2)).mono ?_
  rintro e w3 ⟨rfl, hb3⟩
  have b3 := bthen b2 hb3
  generalize few08 b = r at *
  clear c0 c1 c2 hb3 b2
  cases p <;> cases q <;> cases r
  all_goals
    go_wp2_with fail
    go_ret
    exact ⟨by rw [Hf.out]; rfl, b3⟩
end
end Go.Proofs.YtgeegdnkheckcaaGreat
