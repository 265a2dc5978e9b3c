/- The walk of merge's check: why three graphs may not be made one. -/
import Derived.Test.YtgeegdnkheckcaaGreatAll
set_option linter.unusedVariables false
namespace Go.Proofs.YtgeegdnkheckcaaGreat
open Lay (rep)
open Go.RowKit

def prs (o a b : Gr) : List (Gr × Gr) := [(o, a), (a, b), (o, b)]
def chk2 (fin : Int) : List (Gr × Gr) → Int
  | [] => fin
  | p :: l => if (diffOf p.1 p.2).2 != 0 then (diffOf p.1 p.2).2 else chk2 fin l
def chk1 (e : Int) : List (Gr × Gr) → Int
  | [] => e
  | p :: l => if !grMay p.1 || !grMay p.2 then 1 else chk1 e l
def chkR (o a b : Gr) : Int := if min a.roots.length b.roots.length < o.roots.length then 6 else 0
def checkM (o a b : Gr) : Int := chk1 (chk2 (chkR o a b) (prs o a b)) (prs o a b)
section
variable {w : World} {As : Option Addr} {cs : Nat} {Ao : Option Addr} {co : Nat} {Ar : Option Addr} {cr : Nat} {o : Gr}
variable {Bs : Option Addr} {ds : Nat} {Bo : Option Addr} {dO : Nat} {Br : Option Addr} {dr : Nat} {a : Gr}
variable {Cs : Option Addr} {es : Nat} {Co : Option Addr} {eo : Nat} {Cr : Option Addr} {er : Nat} {b : Gr}
set_option maxRecDepth 100000 in
set_option maxHeartbeats 4000000 in
theorem merge_check (ho : GOK w As cs Ao co Ar cr o) (ha : GOK w Bs ds Bo dO Br dr a) (hb : GOK w Cs es Co eo Cr er b) :
    Calls Tryz.prog 19 #[tv As cs Ao co Ar cr o Bs ds Bo dO Br dr a Cs es Co eo Cr er b] w fun e w' => e = .returned (.int .i64 (checkM o a b)) ∧ Below w.heap.size w w' := by
  have HO := Lib.hid ho
  have HA := Lib.hid ha
  have HB := Lib.hid hb
  have hro1 := ho.r1
  have hro2 := ho.r2
  have hra1 := ha.r1
  have hra2 := ha.r2
  have hrb1 := hb.r1
  have hrb2 := hb.r2
  unfold maxLen at hro2 hra2 hrb2
  clear ho ha hb
  go_enter Tryz.func19, Tryz.ntmps19
  go_wp2_with fail
  refine nameW fun W hW => ?_
  have bW : Below w.heap.size w W := by rw [hW]; exact balloc (Below.refl _ _) _
  have t0 : Blk W w.heap.size #[.slice As o.s.length cs, .slice Ao o.o.length co, .slice Ar o.roots.length cr, .slice Bs a.s.length ds, .slice Bo a.o.length dO, .slice Br a.roots.length dr, .slice Cs b.s.length es, .slice Co b.o.length eo, .slice Cr b.roots.length er] 56 := by rw [hW]; exact Blk.new _ _ _
  have HT := Lib.hid t0
  have BW := Lib.hid bW
  have zW := t0.lt
  clear hW t0 bW
  go_loopw [25] (fun i wr => ∃ k : Nat, k ≤ 3 ∧ i = .int .i64 k ∧ Below W.heap.size W wr ∧ checkM o a b = chk1 (chk2 (chkR o a b) (prs o a b)) ((prs o a b).drop k)) (fun i _ => 3 - (intOf i).toNat)
  case atStart => exact ⟨0, by omega, rfl, Below.refl _ _, rfl⟩
  case round =>
    obtain ⟨k, hk, rfl, kb, hc⟩ := hrel
    have Kb := Lib.hid kb
    have Hc := Lib.hid hc
    have bwr := Lib.hid (bthen BW.out kb)
    clear kb hc
    by_cases hlt : k < 3
    · obtain ⟨Gs, gs, Go', go', Gr', gr', d, Es, es', Eo, eo', Er, er', f, hd, Hd, Hf, Hp⟩ : ∃ Gs gs Go' go' Gr' gr' d Es es' Eo eo' Er er' f, (∀ w : World, Sem.run Tryz.prog (Instr.index 94 (.agg #[.slice As o.s.length cs, .slice Ao o.o.length co, .slice Ar o.roots.length cr, .slice Bs a.s.length ds, .slice Bo a.o.length dO, .slice Br a.roots.length dr, .slice Bs a.s.length ds, .slice Bo a.o.length dO, .slice Br a.roots.length dr, .slice Cs b.s.length es, .slice Co b.o.length eo, .slice Cr b.roots.length er, .slice As o.s.length cs, .slice Ao o.o.length co, .slice Ar o.roots.length cr, .slice Cs b.s.length es, .slice Co b.o.length eo, .slice Cr b.roots.length er]) (.int .i64 (k : Int))) w = .ok (.agg #[.slice Gs d.s.length gs, .slice Go' d.o.length go', .slice Gr' d.roots.length gr', .slice Es f.s.length es', .slice Eo f.o.length eo', .slice Er f.roots.length er']) w) ∧
          Hid (GOK w Gs gs Go' go' Gr' gr' d) ∧ Hid (GOK w Es es' Eo eo' Er er' f) ∧ Hid ((prs o a b).drop k = (d, f) :: (prs o a b).drop (k + 1)) := by
        obtain rfl | rfl | rfl : k = 0 ∨ k = 1 ∨ k = 2 := by omega
        · exact ⟨_, _, _, _, _, _, o, _, _, _, _, _, _, a, fun w => by kernel_rfl, HO, HA, Lib.hid rfl⟩
        · exact ⟨_, _, _, _, _, _, a, _, _, _, _, _, _, b, fun w => by kernel_rfl, HA, HB, Lib.hid rfl⟩
        · exact ⟨_, _, _, _, _, _, o, _, _, _, _, _, _, b, fun w => by kernel_rfl, HO, HB, Lib.hid rfl⟩
      have hk0 : (0 : Int) ≤ (k : Int) := Int.natCast_nonneg _
      have hk1 : (k : Int) < 3 := by omega
      go_wp2_with fail
      refine nameC fun W1 hW => ?_
      have b1 : Below wr.heap.size wr W1 := by rw [hW]; exact balloc (Below.refl _ _) _
      have x1 : Blk W1 wr.heap.size #[.slice Gs d.s.length gs, .slice Go' d.o.length go', .slice Gr' d.roots.length gr', .slice Es f.s.length es', .slice Eo f.o.length eo', .slice Er f.roots.length er'] 93 := by rw [hW]; exact Blk.new _ _ _
      clear hW hd
      refine (graph_May (Hd.out.below (bthen bwr.out b1))).mono ?_
      rintro e w2 ⟨rfl, hb2⟩
      have x2 := x1.below hb2
      have b2 := bthen b1 hb2
      have zx := x2.lt
      have q3 := x2.cell (j := 3) rfl
      have q4 := x2.cell (j := 4) rfl
      have q5 := x2.cell (j := 5) rfl
      clear x1 hb2 b1 x2
      cases hm : grMay d
      · have Hr := Lib.hid (show checkM o a b = 1 by rw [Hc.out, Hp.out]; simp [chk1, hm])
        clear hm
        go_wp2_with fail
        go_ret
        exact ⟨by rw [Hr.out]; rfl, bthen bwr.out b2⟩
      · have Hm := Lib.hid hm
        clear hm
        go_wp2_with fail
        refine (graph_May (Hf.out.below (bthen bwr.out b2))).mono ?_
        rintro e w3 ⟨rfl, hb3⟩
        have b3 := bthen b2 hb3
        clear hb3 b2 q3 q4 q5
        cases hn : grMay f
        · have Hr := Lib.hid (show checkM o a b = 1 by rw [Hc.out, Hp.out]; simp [chk1, hn])
          clear hn
          go_wp2_with fail
          go_ret
          exact ⟨by rw [Hr.out]; rfl, bthen bwr.out b3⟩
        · have Hr := Lib.hid (show checkM o a b = chk1 (chk2 (chkR o a b) (prs o a b)) ((prs o a b).drop (k + 1)) by rw [Hc.out, Hp.out]; simp [chk1, hn, Hm.out])
          clear hn
          go_wp2_with fail
          go_roundw
          case rel => exact ⟨k + 1, by omega, by go_num, bthen Kb.out b3, Hr.out⟩
          case measure => simp [intOf]; omega
    · obtain rfl : k = 3 := by omega
      obtain ⟨wo, rfl⟩ : ∃ wo : World, wo = wr := ⟨_, rfl⟩
      have Hc2 := Lib.hid (show checkM o a b = chk2 (chkR o a b) (prs o a b) from Hc.out)
      have tw := HT.out.below Kb.out
      have q0 := tw.cell (j := 0) rfl
      have q1 := tw.cell (j := 1) rfl
      have q2 := tw.cell (j := 2) rfl
      have q3 := tw.cell (j := 3) rfl
      have q4 := tw.cell (j := 4) rfl
      have q5 := tw.cell (j := 5) rfl
      have q6 := tw.cell (j := 6) rfl
      have q7 := tw.cell (j := 7) rfl
      have q8 := tw.cell (j := 8) rfl
      have ztw := tw.lt
      have TW := Lib.hid tw
      clear tw Hc hk hlt
      rw [show Value.int IntKind.i64 ((3 : Nat) : Int) = .int .i64 (3 : Int) from rfl]
      go_wp2_with fail
      clear q0 q1 q2 q3 q4 q5 q6 q7 q8
      go_loopw [55] (fun i wr => ∃ k : Nat, k ≤ 3 ∧ i = .int .i64 k ∧ Below wo.heap.size wo wr ∧ checkM o a b = chk2 (chkR o a b) ((prs o a b).drop k)) (fun i _ => 3 - (intOf i).toNat)
      case atStart => exact ⟨0, by omega, rfl, Below.refl _ _, Hc2.out⟩
      case round =>
        obtain ⟨k, hk, rfl, kb2, hc⟩ := hrel
        have Hc := Lib.hid hc
        have bwr2 := Lib.hid (bthen bwr.out kb2)
        have Kb2 := Lib.hid kb2
        clear hc kb2
        by_cases hlt : k < 3
        · obtain ⟨Gs, gs, Go', go', Gr', gr', d, Es, es', Eo, eo', Er, er', f, hd, Hd, Hf, Hp⟩ : ∃ Gs gs Go' go' Gr' gr' d Es es' Eo eo' Er er' f, (∀ w : World, Sem.run Tryz.prog (Instr.index 94 (.agg #[.slice As o.s.length cs, .slice Ao o.o.length co, .slice Ar o.roots.length cr, .slice Bs a.s.length ds, .slice Bo a.o.length dO, .slice Br a.roots.length dr, .slice Bs a.s.length ds, .slice Bo a.o.length dO, .slice Br a.roots.length dr, .slice Cs b.s.length es, .slice Co b.o.length eo, .slice Cr b.roots.length er, .slice As o.s.length cs, .slice Ao o.o.length co, .slice Ar o.roots.length cr, .slice Cs b.s.length es, .slice Co b.o.length eo, .slice Cr b.roots.length er]) (.int .i64 (k : Int))) w = .ok (.agg #[.slice Gs d.s.length gs, .slice Go' d.o.length go', .slice Gr' d.roots.length gr', .slice Es f.s.length es', .slice Eo f.o.length eo', .slice Er f.roots.length er']) w) ∧
              Hid (GOK w Gs gs Go' go' Gr' gr' d) ∧ Hid (GOK w Es es' Eo eo' Er er' f) ∧ Hid ((prs o a b).drop k = (d, f) :: (prs o a b).drop (k + 1)) := by
            obtain rfl | rfl | rfl : k = 0 ∨ k = 1 ∨ k = 2 := by omega
            · exact ⟨_, _, _, _, _, _, o, _, _, _, _, _, _, a, fun w => by kernel_rfl, HO, HA, Lib.hid rfl⟩
            · exact ⟨_, _, _, _, _, _, a, _, _, _, _, _, _, b, fun w => by kernel_rfl, HA, HB, Lib.hid rfl⟩
            · exact ⟨_, _, _, _, _, _, o, _, _, _, _, _, _, b, fun w => by kernel_rfl, HO, HB, Lib.hid rfl⟩
          have hk0 : (0 : Int) ≤ (k : Int) := Int.natCast_nonneg _
          have hk1 : (k : Int) < 3 := by omega
          go_wp2_with fail
          refine nameC fun W1 hW => ?_
          have b1 : Below wr.heap.size wr W1 := by rw [hW]; exact balloc (Below.refl _ _) _
          have bw1 := bthen bwr2.out b1
          clear hW hd
          refine (diff_Of (Hd.out.below bw1) (Hf.out.below bw1)).mono ?_
          rintro e w2 ⟨hb2, An, cn, Ag, cg, Ac, cc, Ax, cx, rfl, hcok⟩
          have b2 := bthen b1 hb2
          clear hb2 hcok b1 bw1
          rcases Bool.eq_false_or_eq_true ((diffOf d f).2 != 0) with he | he
          · have Hr := Lib.hid (show checkM o a b = (diffOf d f).2 by rw [Hc.out, Hp.out]; simp only [chk2, he, if_true])
            generalize (diffOf d f).2 = ee at *
            go_wp2_with fail
            go_ret
            exact ⟨by rw [Hr.out]; rfl, (bthen bwr2.out b2).alloc (by have := bwr2.out.size; have := b2.size; omega) _⟩
          · have Hr := Lib.hid (show checkM o a b = chk2 (chkR o a b) ((prs o a b).drop (k + 1)) by rw [Hc.out, Hp.out]; simp only [chk2, he]; simp)
            generalize (diffOf d f).2 = ee at *
            go_wp2_with fail
            go_roundw
            case rel => exact ⟨k + 1, by omega, by go_num, balloc (bthen Kb2.out b2) _, Hr.out⟩
            case measure => simp [intOf]; omega
        · obtain rfl : k = 3 := by omega
          have Hc3 := Lib.hid (show checkM o a b = chkR o a b from Hc.out)
          have tw := TW.out.below Kb2.out
          have q0 := tw.cell (j := 0) rfl
          have q1 := tw.cell (j := 1) rfl
          have q2 := tw.cell (j := 2) rfl
          have q3 := tw.cell (j := 3) rfl
          have q4 := tw.cell (j := 4) rfl
          have q5 := tw.cell (j := 5) rfl
          have q6 := tw.cell (j := 6) rfl
          have q7 := tw.cell (j := 7) rfl
          have q8 := tw.cell (j := 8) rfl
          have ztw2 := tw.lt
          clear tw Hc hk hlt
          rcases Classical.em (b.roots.length < a.roots.length) with h1 | h1
          · rcases Classical.em (b.roots.length < o.roots.length) with h2 | h2
            · have Hr := Lib.hid (show checkM o a b = 6 by rw [Hc3.out]; unfold chkR; split <;> omega)
              go_wp2_with fail
              go_ret
              exact ⟨by rw [Hr.out]; rfl, bwr2.out⟩
            · have Hr := Lib.hid (show checkM o a b = 0 by rw [Hc3.out]; unfold chkR; split <;> omega)
              go_wp2_with fail
              go_ret
              exact ⟨by rw [Hr.out]; rfl, bwr2.out⟩
          · rcases Classical.em (a.roots.length < o.roots.length) with h2 | h2
            · have Hr := Lib.hid (show checkM o a b = 6 by rw [Hc3.out]; unfold chkR; split <;> omega)
              go_wp2_with fail
              go_ret
              exact ⟨by rw [Hr.out]; rfl, bwr2.out⟩
            · have Hr := Lib.hid (show checkM o a b = 0 by rw [Hc3.out]; unfold chkR; split <;> omega)
              go_wp2_with fail
              go_ret
              exact ⟨by rw [Hr.out]; rfl, bwr2.out⟩
end
end Go.Proofs.YtgeegdnkheckcaaGreat
