/- The walk of MergeApart. -/
import Derived.Test.YtgeegdnkheckcaaGreatAwake15
import Derived.Test.YtgeegdnkheckcaaGreatPApart
set_option linter.unusedVariables false
namespace Go.Proofs.YtgeegdnkheckcaaGreat
open Lay (rep)
open Go.RowKit

theorem fit_upd {g : Gr} {id : Int} {k : Nat} {v : Vl} (h : Fit g) : Fit (updG g id k v) := by
  refine ⟨h.s, h.sf, by simp [updG]; exact h.o, fun x hx => ?_, h.r⟩
  obtain ⟨y, hy, rfl⟩ := List.mem_map.1 hx
  rw [updO_len]
  exact h.of y hy
/-- What the statement asks, in plain words. -/
theorem apart_all {o a b : Gr} {i k j n : Int} {v u : Vl} (h1 : setM o i k v = (a, 0)) (h2 : setM o j n u = (b, 0)) (hne : ¬ (i = j ∧ k = n)) :
    ∃ h, mergeM o a b = (sweepM h, chNil, 0) ∧ setM a j n u = (h, 0) ∧ (Fit o → Fit a ∧ Fit b ∧ Fit h) := by
  obtain ⟨M, x, hx, k', rfl, hk, hv, rfl⟩ := setM_ok h1
  obtain ⟨_, y, hy, n', rfl, hn, hu, rfl⟩ := setM_ok h2
  obtain ⟨e1, e2⟩ := apart M hx hk hv hy hn hu (fun h => hne ⟨h.1, by rw [h.2]⟩)
  exact ⟨_, e1, e2, fun hf => ⟨fit_upd hf, fit_upd hf, fit_upd (fit_upd hf)⟩⟩
section
variable {w : World} {As : Option Addr} {cs : Nat} {Ao : Option Addr} {co : Nat} {Ar : Option Addr} {cr : Nat} {o : Gr}
set_option maxRecDepth 100000 in
set_option maxHeartbeats 4000000 in
theorem mergeApart_Calls {i k j n : Int} {v u : Vl} (ho : GOK w As cs Ao co Ar cr o) (hv : v.s.size ≤ maxLen) (hu : u.s.size ≤ maxLen) :
    Calls Tryz.prog 5 #[gv As cs Ao co Ar cr o, .int .i64 i, .int .i64 k, .agg #[.int .i64 v.n, .string v.s, .int .i64 v.r], .int .i64 j, .int .i64 n, .agg #[.int .i64 u.n, .string u.s, .int .i64 u.r]] w fun e w' => e = .returned (.bool true) ∧ Below w.heap.size w w' := by
  have HO := Lib.hid ho
  have HV := Lib.hid hv
  have HU := Lib.hid hu
  clear ho hv hu
  have Hall := Lib.hid (fun a b => apart_all (o := o) (a := a) (b := b) (i := i) (k := k) (j := j) (n := n) (v := v) (u := u))
  go_enter Tryz.func5, Tryz.ntmps5
  go_wp2_with fail
  refine nameC fun W hW => ?_
  have bW : Below w.heap.size w W := by rw [hW]; exact balloc (balloc (balloc (Below.refl _ _) _) _) _
  have g3 : Blk W w.heap.size #[.slice As o.s.length cs, .slice Ao o.o.length co, .slice Ar o.roots.length cr] 28 := by rw [hW]; exact ((Blk.new _ _ _).alloc _).alloc _
  have g4 : Blk W (w.heap.size + 1) #[.int .i64 v.n, .string v.s, .int .i64 v.r] 47 := by rw [hW]; exact (Blk.new' (by simp) _ _).alloc _
  have g5 : Blk W (w.heap.size + 1 + 1) #[.int .i64 u.n, .string u.s, .int .i64 u.r] 47 := by rw [hW]; exact Blk.new' (by simp) _ _
  clear hW
  refine awake15_Calls.mono ?_
  rintro e w1 ⟨rfl, hb1⟩
  have b1 := bthen bW hb1
  have G3 := Lib.hid (g3.below hb1)
  have G4 := Lib.hid (g4.below hb1)
  have G5 := Lib.hid (g5.below hb1)
  have z1 := G5.out.lt
  have z1' : w.heap.size + 1 < w1.heap.size := by omega
  have z1'' : w.heap.size < w1.heap.size := by omega
  clear g3 g4 g5 bW hb1
  obtain ⟨c0, c1, c2, -⟩ := G3.out.three
  go_wp2_with fail
  refine (few15_Calls (HO.out.below b1) (HO.out.below b1) (HO.out.below b1)).mono ?_
  rintro e w2 ⟨rfl, hb2⟩
  have b2 := bthen b1 hb2
  have G32 := Lib.hid (G3.out.below hb2)
  have G42 := Lib.hid (G4.out.below hb2)
  have G52 := Lib.hid (G5.out.below hb2)
  have z2 := G52.out.lt
  have z2' : w.heap.size + 1 < w2.heap.size := by omega
  have z2'' : w.heap.size < w2.heap.size := by omega
  clear c0 c1 c2 hb2
  obtain ⟨c0, c1, c2, -⟩ := G32.out.three
  obtain ⟨d0, d1, d2, -⟩ := G42.out.three
  obtain ⟨e0, e1, e2, -⟩ := G52.out.three
  cases hf : few15 o o o
  · clear hf
    go_wp2_with fail
    go_ret
    exact ⟨rfl, b2⟩
  have HF := Lib.hid (fit_few (g := o) (by simp only [few15, Bool.and_eq_true] at hf; exact hf.2))
  clear hf
  have hcase : (∃ h : (i == j) = true, (k == n) = true) ∨ (((i == j) = false ∨ ((i == j) = true ∧ (k == n) = false)) ∧ ¬ (i = j ∧ k = n)) := by
    by_cases h1 : i = j
    · by_cases h2 : k = n
      · exact .inl ⟨by simp [h1], by simp [h2]⟩
      · exact .inr ⟨.inr ⟨by simp [h1], by simp [h2]⟩, fun h => h2 h.2⟩
    · exact .inr ⟨.inl (by simp [h1]), fun h => h1 h.1⟩
  rcases hcase with ⟨x1, x2⟩ | ⟨hx, hne⟩
  · go_wp2_with fail
    go_ret
    exact ⟨rfl, b2⟩
  have Hne := Lib.hid hne
  clear hne
  rcases hx with x1 | ⟨x1, x2⟩
  all_goals
    go_wp2_with fail
    refine (graph_Set (HO.out.below b2) HF.out HV.out).mono ?_
    rintro e w3 ⟨hb3, hv⟩
    generalize hr1 : setM o i k v = r1 at hv
    have Hr1 := Lib.hid hr1
    obtain ⟨Ds, fs, Do, fo, Dr, fr, rfl, hm⟩ := hv
    have b3 := bthen b2 hb3
    have G33 := Lib.hid (G32.out.below hb3)
    have G53 := Lib.hid (G52.out.below hb3)
    have HM3 := Lib.hid hm
    have z3 := G53.out.lt
    have z3'' : w.heap.size < w3.heap.size := by omega
    clear hr1 hb3 hm c0 c1 c2 d0 d1 d2 e0 e1 e2
    obtain ⟨c0, c1, c2, -⟩ := G33.out.three
    obtain ⟨e0, e1, e2, -⟩ := G53.out.three
    go_wp2_with fail
    refine nameC fun W3 hW => ?_
    have bb : Below w3.heap.size w3 W3 := by rw [hW]; exact balloc (Below.refl _ _) _
    have m3 : Blk W3 w3.heap.size #[.slice Ds r1.1.s.length fs, .slice Do r1.1.o.length fo, .slice Dr r1.1.roots.length fr] 28 := by rw [hW]; exact Blk.new _ _ _
    have M4 := Lib.hid m3
    have G34 := Lib.hid (G33.out.below bb)
    have G54 := Lib.hid (G53.out.below bb)
    have HM4 := Lib.hid (HM3.out.below bb)
    have b4 := bthen b3 bb
    clear hW bb m3 c0 c1 c2 e0 e1 e2
    refine (graph_Set (HO.out.below b4) HF.out HU.out).mono ?_
    rintro e w5 ⟨hb5, hv⟩
    generalize hr2 : setM o j n u = r2 at hv
    have Hr2 := Lib.hid hr2
    obtain ⟨Es, gs, Eo, go, Er, gr, rfl, hm⟩ := hv
    have b5 := bthen b4 hb5
    have G35 := Lib.hid (G34.out.below hb5)
    have G55 := Lib.hid (G54.out.below hb5)
    have M5 := Lib.hid (M4.out.below hb5)
    have HM5 := Lib.hid (HM4.out.below hb5)
    have HK5 := Lib.hid hm
    have z5 := G55.out.lt
    have z5'' : w.heap.size < w5.heap.size := by omega
    have z5m := M5.out.lt
    clear hr2 hb5 hm
    have hcase : (r1.2 != 0) = true ∨ ((r1.2 != 0) = false ∧ (r2.2 != 0) = true) ∨ ((r1.2 != 0) = false ∧ (r2.2 != 0) = false) := by
      cases r1.2 != 0 <;> cases r2.2 != 0 <;> simp
    rcases hcase with y1 | ⟨y1, y2⟩ | ⟨y1, y2⟩
    · go_wp2_with fail
      go_ret
      exact ⟨rfl, balloc b5 _⟩
    · go_wp2_with fail
      go_ret
      exact ⟨rfl, balloc b5 _⟩
    · obtain ⟨c0, c1, c2, -⟩ := G35.out.three
      obtain ⟨d0, d1, d2, -⟩ := M5.out.three
      obtain ⟨h, q1, q2, q3⟩ := Hall.out r1.1 r2.1 (by rw [Hr1.out]; exact Prod.ext rfl (by simpa using y1)) (by rw [Hr2.out]; exact Prod.ext rfl (by simpa using y2)) Hne.out
      have Q1 := Lib.hid q1
      have Q2 := Lib.hid q2
      have Q3 := Lib.hid (q3 HF.out)
      clear q1 q2 q3
      go_wp2_with fail
      refine nameC fun W5 hW => ?_
      have bb : Below w5.heap.size w5 W5 := by rw [hW]; exact balloc (Below.refl _ _) _
      have b6 := bthen b5 bb
      have M6 := Lib.hid (M5.out.below bb)
      have G56 := Lib.hid (G55.out.below bb)
      have HM6 := Lib.hid (HM5.out.below bb)
      have HK6 := Lib.hid (HK5.out.below bb)
      clear hW bb c0 c1 c2 d0 d1 d2
      refine (merge_Merge (HO.out.below b6) HM6.out HK6.out).mono ?_
      rintro e w7 ⟨hb7, hv⟩
      rw [Q1.out] at hv
      obtain ⟨Fs, hs, Fo, ho, Fr, hr, An, an, Ag, ag, Acs, acs, Acr, acr, rfl, hm, hc⟩ := hv
      have b7 := bthen b6 hb7
      have M7 := Lib.hid (M6.out.below hb7)
      have G57 := Lib.hid (G56.out.below hb7)
      have HM7 := Lib.hid (HM6.out.below hb7)
      have HR7 := Lib.hid hm
      have z7 := G57.out.lt
      have z7m := M7.out.lt
      have z72 : w.heap.size + 2 < w7.heap.size := z7
      clear hb7 hm hc
      obtain ⟨d0, d1, d2, -⟩ := M7.out.three
      obtain ⟨e0', e1', e2', -⟩ := G57.out.three
      have e0 : ∀ o1 o2 : Obj, ((w7.alloc o1).alloc o2).cell? ⟨w.heap.size + 1 + 1, 0, none⟩ = some (.int .i64 u.n) := fun o1 o2 => keep1 (balloc (balloc (Below.refl _ _) _) _) e0'
      have e1 : ∀ o1 o2 : Obj, ((w7.alloc o1).alloc o2).cell? ⟨w.heap.size + 1 + 1, 1, none⟩ = some (.string u.s) := fun o1 o2 => keep1 (balloc (balloc (Below.refl _ _) _) _) e1'
      have e2 : ∀ o1 o2 : Obj, ((w7.alloc o1).alloc o2).cell? ⟨w.heap.size + 1 + 1, 2, none⟩ = some (.int .i64 u.r) := fun o1 o2 => keep1 (balloc (balloc (Below.refl _ _) _) _) e2'
      clear e0' e1' e2'
      go_wp2_with fail
      refine nameC fun W7 hW => ?_
      have bb : Below w7.heap.size w7 W7 := by rw [hW]; exact balloc (balloc (Below.refl _ _) _) _
      have m3 : Blk W7 w7.heap.size #[.slice Fs (sweepM h).s.length hs, .slice Fo (sweepM h).o.length ho, .slice Fr (sweepM h).roots.length hr] 28 := by rw [hW]; exact (Blk.new _ _ _).alloc _
      have n3 : Blk W7 (w7.heap.size + 1) #[.slice An 0 an, .slice Ag 0 ag, .slice Acs 0 acs, .slice Acr 0 acr] 33 := by rw [hW]; exact Blk.new' (by simp) _ _
      have R8 := Lib.hid m3
      have N8 := Lib.hid n3
      have b8 := bthen b7 bb
      have HR8 := Lib.hid (HR7.out.below bb)
      have HM8 := Lib.hid (HM7.out.below bb)
      clear hW bb m3 n3 d0 d1 d2 e0 e1 e2
      refine (graph_Set HM8.out Q3.out.1 HU.out).mono ?_
      rintro e w9 ⟨hb9, hv⟩
      rw [Q2.out] at hv
      obtain ⟨Ts, ts, To, to, Tr, tr, rfl, hm⟩ := hv
      have b9 := bthen b8 hb9
      have R9 := Lib.hid (R8.out.below hb9)
      have N9 := Lib.hid (N8.out.below hb9)
      have HR9 := Lib.hid (HR8.out.below hb9)
      have HT9 := Lib.hid hm
      have zR := R9.out.lt
      have zN := N9.out.lt
      clear hb9 hm
      obtain ⟨⟨c0, c1, c2, c3⟩, -⟩ := N9.out.four
      go_wp2_with fail
      refine nameW fun W9 hW => ?_
      have bb : Below w9.heap.size w9 W9 := by rw [hW]; exact balloc (Below.refl _ _) _
      have t9 : Blk W9 w9.heap.size #[.slice Ts h.s.length ts, .slice To h.o.length to, .slice Tr h.roots.length tr] 28 := by rw [hW]; exact Blk.new _ _ _
      have b10 := bthen b9 bb
      have HR10 := Lib.hid (HR9.out.below bb)
      have HT10 := Lib.hid (HT9.out.below bb)
      have R10 := R9.out.below bb
      have N10 := N9.out.below bb
      clear hW c0 c1 c2 c3
      obtain ⟨⟨c0, c1, c2, c3⟩, -⟩ := N10.four
      obtain ⟨d0, d1, d2, -⟩ := R10.three
      obtain ⟨e0, e1, e2, -⟩ := t9.three
      have zR10 := R10.lt
      have zN10 := N10.lt
      have zT10 := t9.lt
      have hb0 : Below W9.heap.size W9 W9.drew := (Below.refl _ _).drew
      clear bb t9 R10 N10
      have P0 : ∀ w', Below W9.heap.size W9 w' → w'.cell? ⟨w7.heap.size + 1, 0, none⟩ = some (.slice An 0 an) ∧ w'.cell? ⟨w7.heap.size + 1, 1, none⟩ = some (.slice Ag 0 ag) ∧ w'.cell? ⟨w7.heap.size + 1, 2, none⟩ = some (.slice Acs 0 acs) ∧ w'.cell? ⟨w7.heap.size + 1, 3, none⟩ = some (.slice Acr 0 acr) ∧
          w'.cell? ⟨w7.heap.size, 0, none⟩ = some (.slice Fs (sweepM h).s.length hs) ∧ w'.cell? ⟨w7.heap.size, 1, none⟩ = some (.slice Fo (sweepM h).o.length ho) ∧ w'.cell? ⟨w7.heap.size, 2, none⟩ = some (.slice Fr (sweepM h).roots.length hr) ∧
          w'.cell? ⟨w9.heap.size, 0, none⟩ = some (.slice Ts h.s.length ts) ∧ w'.cell? ⟨w9.heap.size, 1, none⟩ = some (.slice To h.o.length to) ∧ w'.cell? ⟨w9.heap.size, 2, none⟩ = some (.slice Tr h.roots.length tr) := fun w' hb =>
        ⟨keep1 hb c0, keep1 hb c1, keep1 hb c2, keep1 hb c3, keep1 hb d0, keep1 hb d1, keep1 hb d2, keep1 hb e0, keep1 hb e1, keep1 hb e2⟩
      have PP := Lib.hid P0
      clear P0 c0 c1 c2 c3 d0 d1 d2 e0 e1 e2
      have HN := Lib.hid (show ∀ W', Calls Tryz.prog 11 #[.agg #[.slice An 0 an, .slice Ag 0 ag, .slice Acs 0 acs, .slice Acr 0 acr]] W' fun e w' => e = .returned (.bool true) ∧ Below W'.heap.size W' w' from fun W' => (diff_None (c := chNil) (Nat.zero_le _)).mono fun e w' hh => hh)
      go_region_held3 (fun w' => w'.cell? ⟨w7.heap.size + 1, 0, none⟩ = some (.slice An 0 an) ∧ w'.cell? ⟨w7.heap.size + 1, 1, none⟩ = some (.slice Ag 0 ag) ∧ w'.cell? ⟨w7.heap.size + 1, 2, none⟩ = some (.slice Acs 0 acs) ∧ w'.cell? ⟨w7.heap.size + 1, 3, none⟩ = some (.slice Acr 0 acr) ∧
          w'.cell? ⟨w7.heap.size, 0, none⟩ = some (.slice Fs (sweepM h).s.length hs) ∧ w'.cell? ⟨w7.heap.size, 1, none⟩ = some (.slice Fo (sweepM h).o.length ho) ∧ w'.cell? ⟨w7.heap.size, 2, none⟩ = some (.slice Fr (sweepM h).roots.length hr) ∧
          w'.cell? ⟨w9.heap.size, 0, none⟩ = some (.slice Ts h.s.length ts) ∧ w'.cell? ⟨w9.heap.size, 1, none⟩ = some (.slice To h.o.length to) ∧ w'.cell? ⟨w9.heap.size, 2, none⟩ = some (.slice Tr h.roots.length tr))
        (first | exact PP.out _ hb0 | exact PP.out _ hb11 | exact PP.out _ hb12 | exact PP.out _ hb13)
        (first | (go_at_call 11; refine (HN.out _).mono ?_; rintro e w11 ⟨rfl, hb11'⟩; have hb11 := bthen hb0 hb11') | (go_at_call 10; refine (graph_Sweep (HT10.out.below hb11) Q3.out.2.2).mono ?_; rintro e w12 ⟨hb12', Us, us, Uo, uo, Ur, ur, rfl, hU⟩; have hb12 := bthen hb11 hb12'; have HU12 := Lib.hid hU; clear hU) | (go_at_call 12; refine (graph_Same (HR10.out.below hb12) HU12.out).mono ?_; rw [show decide (sweepM h = sweepM h) = true from decide_eq_true rfl]; rintro e w13 ⟨rfl, hb13'⟩; have hb13 := bthen hb12 hb13'))
      all_goals
        go_wp2_with fail
        go_ret
        exact ⟨rfl, bthen b10 hb13⟩
end
end Go.Proofs.YtgeegdnkheckcaaGreat
