/- The walk of merge.Merge. -/
import Derived.Test.YtgeegdnkheckcaaGreatMPure
import Derived.Test.YtgeegdnkheckcaaGreatRange
import Derived.Test.YtgeegdnkheckcaaGreatSortOb
import Derived.RegionTactic
set_option linter.unusedVariables false
namespace Go.Proofs.YtgeegdnkheckcaaGreat
open Lay (rep)
open Go.RowKit

section
variable {S : Nat → Prop} {w : World}
theorem MObs.keys : ∀ {m : MP} {l : List Ob}, MObs S w m l → m.map (·.1) = l.map (·.id)
  | [], [], _ => rfl
  | p :: m, x :: l, ⟨⟨us, h1, h2⟩, h3⟩ => by simp only [List.map_cons, h3.keys, h1]
theorem MObs.filter (q : Int → Bool) : ∀ {m : MP} {l : List Ob}, MObs S w m l → MObs S w (m.filter fun p => q p.1) (l.filter fun x => q x.id)
  | [], [], _ => trivial
  | p :: m, x :: l, ⟨⟨us, h1, h2⟩, h3⟩ => by
    have h4 := h3.filter q
    subst h1
    simp only [List.filter_cons]
    split
    · exact ⟨⟨us, rfl, h2⟩, h4⟩
    · exact h4
theorem MObs.mem {k : Int} {v : Value} : ∀ {m : MP} {l : List Ob}, MObs S w m l → (k, v) ∈ m → ∃ x us, x ∈ l ∧ x.id = k ∧ v = .agg us.toArray ∧ rep S w us x
  | p :: m, x :: l, ⟨⟨us, h1, h2⟩, h3⟩, h => by
    rcases List.mem_cons.1 h with h | h
    · rw [h1] at h
      simp only [Prod.mk.injEq] at h
      exact ⟨x, us, List.mem_cons_self .., h.1.symm, h.2, h2⟩
    · obtain ⟨y, vs, g1, g2⟩ := h3.mem h
      exact ⟨y, vs, List.mem_cons_of_mem _ g1, g2⟩
end
/-- What Merge tells. -/
def MergeV (w : World) (e : Ending) (r : Gr × Ch × Int) : Prop :=
  ∃ As cs Ao co Ar cr Bn cn Bg cg Bs ds Br dr, e = .returned (.tuple #[gv As cs Ao co Ar cr r.1, cv Bn cn Bg cg Bs ds Br dr r.2.1, .int .i64 r.2.2]) ∧ GOK w As cs Ao co Ar cr r.1 ∧ COK w Bn cn Bg cg Bs ds Br dr r.2.1
theorem GOK.nil (w : World) : GOK w none 0 none 0 none 0 grNil := ⟨Nat.le_refl _, Nat.zero_le _, RepL.nil, Nat.le_refl _, Nat.zero_le _, RepL.nil, Nat.le_refl _, Nat.zero_le _, RepL.nil⟩
theorem COK.nil (w : World) : COK w none 0 none 0 none 0 none 0 chNil := ⟨Nat.le_refl _, Nat.zero_le _, RepL.nil, Nat.le_refl _, Nat.zero_le _, RepL.nil, Nat.le_refl _, Nat.zero_le _, RepL.nil, Nat.le_refl _, Nat.zero_le _, RepL.nil⟩
theorem MergeV.zero {w : World} (n : Int) : MergeV w (.returned (.tuple #[.agg #[.slice none 0 0, .slice none 0 0, .slice none 0 0], .agg #[.slice none 0 0, .slice none 0 0, .slice none 0 0, .slice none 0 0], .int .i64 n])) (grNil, chNil, n) :=
  ⟨none, 0, none, 0, none, 0, none, 0, none, 0, none, 0, none, 0, rfl, GOK.nil w, COK.nil w⟩
theorem set34 (w : World) (R T : Nat) (v0 v1 v2 u0 u1 u2 u3 : Value) : Kp (fun b => b ≠ R ∧ b ≠ T) w (((((((w.setCell ⟨R, 0, none⟩ v0).setCell ⟨R, 1, none⟩ v1).setCell ⟨R, 2, none⟩ v2).setCell ⟨T, 0, none⟩ u0).setCell ⟨T, 1, none⟩ u1).setCell ⟨T, 2, none⟩ u2).setCell ⟨T, 3, none⟩ u3) :=
  ((set3 w R v0 v1 v2).mono fun b hb => hb.1).trans ((set4 _ T u0 u1 u2 u3).mono fun b hb => hb.2)
/-- What is left of a map in the loop that deletes. -/
def delM (vis done : List Int) (m : MP) : MP := m.filter fun p => vis.contains p.1 || !done.contains p.1
/-- The relation of the loop that deletes. -/
def RDel (W0 : World) (bm r : Nat) (m : MP) (vis : List Int) (wr : World) : Prop :=
  ∃ done, IRange wr bm r (delM vis done m) done ∧ Kp (fun b => b < W0.heap.size ∧ b ≠ bm ∧ b ≠ r) W0 wr
theorem delM_start (vis : List Int) (m : MP) : delM vis [] m = m := List.filter_eq_self.2 (by simp)
theorem RDel.step {w' : World} {bm r : Nat} {m : MP} {vis done : List Int} {k : Int} (h : IRange w' bm r (delM vis done m) (k :: done)) (hv : vis.contains k = true) :
    IRange w' bm r (delM vis (k :: done) m) (k :: done) := by
  have e : (fun p : Int × Value => vis.contains p.1 || !(k :: done).contains p.1) = fun p => vis.contains p.1 || !done.contains p.1 := by
    funext p
    rw [List.contains_cons]
    by_cases hp : p.1 = k
    · rw [hp, hv]; rfl
    · have : (p.1 == k) = false := by simpa using hp
      rw [this, Bool.false_or]
  unfold delM
  rw [e]; exact h
theorem RDel.cut {w' : World} {bm r : Nat} {m : MP} {vis done : List Int} {k : Int} (h : IRange w' bm r ((delM vis done m).filter fun p => p.1 != k) (k :: done)) (hv : vis.contains k = false) :
    IRange w' bm r (delM vis (k :: done) m) (k :: done) := by
  have e : (fun p : Int × Value => (p.1 != k) && (vis.contains p.1 || !done.contains p.1)) = fun p => vis.contains p.1 || !(k :: done).contains p.1 := by
    funext p
    rw [List.contains_cons]
    by_cases hp : p.1 = k
    · rw [hp, hv]; simp
    · have : (p.1 == k) = false := by simpa using hp
      simp [this, hp]
  unfold delM at h ⊢
  rw [List.filter_filter, e] at h; exact h
theorem RDel.done {wr : World} {bm r : Nat} {m : MP} {vis done : List Int} (h : IRange wr bm r (delM vis done m) done) (hd : AllDone (delM vis done m) done) :
    IMap wr bm (m.filter fun p => vis.contains p.1) := by
  have e : delM vis done m = m.filter fun p => vis.contains p.1 := by
    apply List.filter_congr
    intro p hp
    cases hv : vis.contains p.1
    · cases hn : done.contains p.1
      · have := hd.out p (List.mem_filter.2 ⟨hp, by rw [hv, hn]; rfl⟩)
        rw [List.contains_iff_mem.2 this] at hn
        cases hn
      · rfl
    · rfl
  rw [← e]; exact h.imap
theorem infO : Inf Tryz.prog 45 3 40 := Inf.of (z := .agg #[.int .i64 0, .int .i64 0, .slice none 0 0]) (by kernel_rfl) rfl
/-- The relation of the loop that collects. -/
def RCol (W0 : World) (bm r g : Nat) (u0 u2 : Value) (S : Nat → Prop) (m : MP) (l : List Ob) (wr : World) : Prop :=
  ∃ (done : List Int) (L : List Ob) (v : Value), IRange wr bm r m done ∧ (∀ k, k ∈ done ↔ k ∈ L.map (·.id)) ∧ (L.map (·.id)).Nodup ∧ (∀ x ∈ L, x ∈ l) ∧ Blk wr g #[u0, v, u2] 28 ∧ OwnL S wr W0.heap.size 45 v L ∧ Kp (fun b => b < W0.heap.size ∧ b ≠ r ∧ b ≠ g) W0 wr
theorem col_perm {L l : List Ob} {done : List Int} {m : MP} (h1 : ∀ k, k ∈ done ↔ k ∈ L.map (·.id)) (nL : (L.map (·.id)).Nodup) (h3 : ∀ x ∈ L, x ∈ l) (hk : m.map (·.1) = l.map (·.id)) (hn : (l.map (·.id)).Nodup) (hd : ∀ p ∈ m, p.1 ∈ done) : L.Perm l := by
  have nd : ∀ {q : List Ob}, (q.map (·.id)).Nodup → q.Nodup := fun h => (List.pairwise_map.1 h).imp fun h e => h (by rw [e])
  refine (List.perm_ext_iff_of_nodup (nd nL) (nd hn)).2 fun x => ⟨h3 x, fun hx => ?_⟩
  have hxk : x.id ∈ m.map (·.1) := by rw [hk]; exact List.mem_map_of_mem hx
  obtain ⟨p, hp, hpx⟩ := List.mem_map.1 hxk
  have hxd : x.id ∈ L.map (·.id) := by rw [← h1, ← hpx]; exact hd p hp
  obtain ⟨y, hy, hyx⟩ := List.mem_map.1 hxd
  obtain ⟨i, hi⟩ := List.mem_iff_getElem?.1 (h3 y hy)
  obtain ⟨j, hj⟩ := List.mem_iff_getElem?.1 hx
  have hij := nodup_get hn (i := i) (j := j) (x := x.id) (by rw [List.getElem?_map, hi, Option.map_some, hyx]) (by rw [List.getElem?_map, hj, Option.map_some])
  subst hij
  rw [hi] at hj
  obtain rfl := Option.some.inj hj
  exact hy
section
variable {w : World} {As : Option Addr} {cs : Nat} {Ao : Option Addr} {co : Nat} {Ar : Option Addr} {cr : Nat} {o : Gr}
variable {Bs : Option Addr} {ds : Nat} {Bo : Option Addr} {dO : Nat} {Br : Option Addr} {dr : Nat} {a : Gr}
variable {Cs : Option Addr} {es : Nat} {Co : Option Addr} {eo : Nat} {Cr : Option Addr} {er : Nat} {b : Gr}
set_option maxRecDepth 100000 in
set_option maxHeartbeats 4000000 in
theorem merge_Merge (ho : GOK w As cs Ao co Ar cr o) (ha : GOK w Bs ds Bo dO Br dr a) (hb : GOK w Cs es Co eo Cr er b) :
    Calls Tryz.prog 8 #[gv As cs Ao co Ar cr o, gv Bs ds Bo dO Br dr a, gv Cs es Co eo Cr er b] w fun e w' => Below w.heap.size w w' ∧ MergeV w' e (mergeM o a b) := by
  have HO := Lib.hid ho
  have HA := Lib.hid ha
  have HB := Lib.hid hb
  clear ho ha hb
  go_enter Tryz.func8, Tryz.ntmps8
  go_wp2_with fail
  refine nameC fun W hW => ?_
  have bW : Below w.heap.size w W := by rw [hW]; exact balloc (balloc (balloc (balloc (balloc (balloc (Below.refl _ _) _) _) _) _) _) _
  have a4 : Blk W (w.heap.size + 1) #[.slice Bs a.s.length ds, .slice Bo a.o.length dO, .slice Br a.roots.length dr] 28 := by rw [hW]; exact ((((Blk.new' (by simp) _ _).alloc _).alloc _).alloc _).alloc _
  have g6 : Blk W (w.heap.size + 3) #[.slice none 0 0, .slice none 0 0, .slice none 0 0] 28 := by rw [hW]; exact ((Blk.new' (by simp) _ _).alloc _).alloc _
  have g7 : Blk W (w.heap.size + 4) #[.slice none 0 0, .slice none 0 0, .slice none 0 0, .slice none 0 0] 33 := by rw [hW]; exact (Blk.new' (by simp) _ _).alloc _
  have t9 : Blk W (w.heap.size + 5) #[.slice As o.s.length cs, .slice Ao o.o.length co, .slice Ar o.roots.length cr, .slice Bs a.s.length ds, .slice Bo a.o.length dO, .slice Br a.roots.length dr, .slice Cs b.s.length es, .slice Co b.o.length eo, .slice Cr b.roots.length er] 56 := by rw [hW]; exact Blk.new' (by simp) _ _
  clear hW
  refine (merge_check (HO.out.below bW) (HA.out.below bW) (HB.out.below bW)).mono ?_
  rintro e w1 ⟨rfl, hb1⟩
  have b1 := bthen bW hb1
  have T9 := Lib.hid (t9.below hb1)
  have G6 := Lib.hid (g6.below hb1)
  have G7 := Lib.hid (g7.below hb1)
  have A4 := Lib.hid (a4.below hb1)
  have z9 := T9.out.lt
  have zW : w.heap.size + 6 ≤ W.heap.size := t9.lt
  have sz1 := hb1.size
  clear a4 g6 g7 t9 bW hb1
  rcases Bool.eq_false_or_eq_true (checkM o a b != 0) with he | he
  · have Hr := Lib.hid (show mergeM o a b = (grNil, chNil, checkM o a b) by simp only [mergeM, he, if_true])
    generalize checkM o a b = ee at *
    obtain ⟨c0, c1, c2, f0, f1, f2⟩ := G6.out.three
    obtain ⟨⟨d0, d1, d2, d3⟩, e0, e1, e2, e3⟩ := G7.out.four
    go_wp2_with fail
    refine bodyPost_ret (v := .tuple #[.agg #[.slice none 0 0, .slice none 0 0, .slice none 0 0], .agg #[.slice none 0 0, .slice none 0 0, .slice none 0 0, .slice none 0 0], .int .i64 ee]) (by simp [results, Tryz.results8, go_sem, *]) rfl ⟨?_, ?_⟩
    · exact b1.trans ((set34 _ _ _ _ _ _ _ _ _ _).below fun k hk => by omega)
    · rw [Hr.out]; exact MergeV.zero ee
  · have ok := check_ok (show checkM o a b = 0 by simpa using he)
    have Hck := Lib.hid he
    generalize checkM o a b = ee at he
    obtain ⟨Mo, Ma, -, -⟩ := diffOf_ok ok.oa
    obtain ⟨-, Mb, hsab, -⟩ := diffOf_ok ok.ab
    have Hab := Lib.hid (diffOf_len ok.ab)
    have Hoa := Lib.hid (diffOf_len ok.oa)
    have Hsab := Lib.hid hsab
    have q0 := T9.out.cell (j := 0) rfl
    have q1 := T9.out.cell (j := 1) rfl
    have q2 := T9.out.cell (j := 2) rfl
    have q3 := T9.out.cell (j := 3) rfl
    have q4 := T9.out.cell (j := 4) rfl
    have q5 := T9.out.cell (j := 5) rfl
    have q6 := T9.out.cell (j := 6) rfl
    have q7 := T9.out.cell (j := 7) rfl
    have q8 := T9.out.cell (j := 8) rfl
    clear ok hsab
    go_wp2_with fail
    refine (merge_all (HO.out.below b1) (HA.out.below b1) (HB.out.below b1) Mo Ma Mb Hab.out (fun id x z h1 h2 => (Hoa.out id z x h2 h1).symm)).mono ?_
    rintro e w2 ⟨hb2, bm, m, AR, cR, AS, cS, AC, cC, rfl, hbm, im, mo, r1, r2, r3, s1, s2, s3, k1, k2, k3⟩
    have b2 := bthen b1 hb2
    have Im := Lib.hid im
    have Mob := Lib.hid mo
    have R3 := Lib.hid r3
    have S3 := Lib.hid s3
    have K3 := Lib.hid k3
    have zbm := im.lt
    clear q0 q1 q2 q3 q4 q5 q6 q7 q8 im mo r3 s3 k3
    have Hn := Lib.hid (show (allM o a b).2.2.new = [] from rfl)
    have Hg := Lib.hid (show (allM o a b).2.2.gone = [] from rfl)
    have hRs : (allM o a b).2.1.length ≤ 3 := by
      have h1 : (allM o a b).2.1.length = _ := rootsM_len o a b _
      have := Ma.roots
      have := Mb.roots
      omega
    have hObs := allObs_len (o := o) (b := b) Ma (a.o ++ b.o)
    have hOL : (a.o ++ b.o).length ≤ 16 := by have := Ma.objs; have := Mb.objs; simp; omega
    have hL16 : (allM o a b).1.length ≤ 16 := Nat.le_trans hObs.2 hOL
    have hC1 : (allM o a b).2.2.set.length ≤ 80 := Nat.le_trans hObs.1 (by omega)
    have hC2 : (allM o a b).2.2.roots.length ≤ 3 := Nat.le_trans (rootsClash_len o a b _) (by have := Ma.roots; have := Mb.roots; omega)
    have Hinv := Lib.hid (allObs_inv (ObOk a.s) (objM_ok (o := o) Ma Mb Hsab.out) (a.o ++ b.o) obOf_in)
    rw [show (allObs o a b (a.o ++ b.o)).1 = (allM o a b).1 from rfl] at Hinv
    have Hm1 : Hid (mergeM o a b = if !cnone (allM o a b).2.2 then (grNil, (allM o a b).2.2, 10) else if 8 < (mergeL o a b).length then (grNil, chNil, 8) else (⟨a.s, sortIds (mergeL o a b), (allM o a b).2.1⟩, chNil, 0)) := Lib.hid (by simp only [mergeM, Hck.out]; rfl)
    have HmL : Hid (mergeL o a b = (allM o a b).1.filter fun x => (comeM a.s (allM o a b).1 (allM o a b).2.1).contains x.id) := Lib.hid rfl
    clear hObs hOL
    generalize mergeL o a b = mL at *
    generalize (allM o a b).1 = l at *
    generalize (allM o a b).2.1 = roots at *
    generalize (allM o a b).2.2 = c at *
    go_wp2_with fail
    refine nameC fun W3 hW => ?_
    have b3 : Below w2.heap.size w2 W3 := by rw [hW]; exact balloc (Below.refl _ _) _
    have x3 : Blk W3 w2.heap.size #[.slice none c.new.length 0, .slice none c.gone.length 0, .slice AS c.set.length cS, .slice AC c.roots.length cC] 33 := by rw [hW]; exact Blk.new _ _ _
    clear hW
    refine (diff_None (c := c) (by rw [Hn.out, Hg.out]; simp; omega)).mono ?_
    rintro e w4 ⟨rfl, hb4⟩
    have b24 := bthen b3 hb4
    have X4 := Lib.hid (x3.below hb4)
    have sz2 := hb2.size
    have sz4 := b24.size
    have zx4 := X4.out.lt
    clear x3 b3 hb4
    cases hnn : cnone c
    · have Hr := Lib.hid (show mergeM o a b = (grNil, c, 10) by rw [Hm1.out, hnn]; rfl)
      have b4 := bthen b2 b24
      have g6 := G6.out.below (bthen hb2 b24)
      have g7 := G7.out.below (bthen hb2 b24)
      obtain ⟨c0, c1, c2, f0, f1, f2⟩ := g6.three
      obtain ⟨⟨d0, d1, d2, d3⟩, e0, e1, e2, e3⟩ := g7.four
      obtain ⟨⟨x0, x1, x2, x3⟩, y0, y1, y2, y3⟩ := X4.out.four
      have zg6 := g6.lt
      clear hnn g6 g7
      go_wp2_with fail
      go_region
      go_wp2
      refine bodyPost_ret (v := .tuple #[.agg #[.slice none 0 0, .slice none 0 0, .slice none 0 0], .agg #[.slice none c.new.length 0, .slice none c.gone.length 0, .slice AS c.set.length cS, .slice AC c.roots.length cC], .int .i64 10]) (by simp [results, Tryz.results8, go_sem, *]) rfl ⟨?_, ?_⟩
      · exact (b4.trans ((set34 _ _ _ _ _ _ _ _ _ _).below fun k hk => by omega)).drew
      · rw [Hr.out]
        have kf := (set34 w4 (w.heap.size + 1 + 1 + 1) (w.heap.size + 1 + 1 + 1 + 1) (.slice none 0 0) (.slice none 0 0) (.slice none 0 0) (.slice none c.new.length 0) (.slice none c.gone.length 0) (.slice AS c.set.length cS) (.slice AC c.roots.length cC)).drew
        have kk : ∀ {α : Type} [Lay α] {A : Option Addr} {l : List α}, RepL (fun k => w1.heap.size ≤ k ∧ k < w2.heap.size ∧ k ≠ bm) w2 A l → RepL (Bel _) _ A l := fun h => (RepL.keep h fun q hq => (kf.block q ⟨by omega, by omega⟩).trans (b24.block q hq.2.1)).mono fun q hq => Nat.lt_of_lt_of_le hq.2.1 (Nat.le_trans sz4 kf.size)
        exact ⟨none, 0, none, 0, none, 0, none, 0, none, 0, AS, cS, AC, cC, rfl, GOK.nil _, ⟨by rw [Hn.out]; exact Nat.le_refl _, Nat.zero_le _, by rw [Hn.out]; exact RepL.nil, by rw [Hg.out]; exact Nat.le_refl _, Nat.zero_le _, by rw [Hg.out]; exact RepL.nil, s1, s2, kk S3.out, k1, k2, kk K3.out⟩⟩
    · have Hr := Lib.hid (show mergeM o a b = if 8 < mL.length then (grNil, chNil, 8) else (⟨a.s, sortIds mL, roots⟩, chNil, 0) by rw [Hm1.out, hnn]; rfl)
      have b4 := bthen b2 b24
      have a4 := A4.out.below (bthen hb2 b24)
      obtain ⟨c0, -⟩ := a4.three
      have za4 := a4.lt
      have Ma4 := Lib.hid (RepL.keep R3.out fun q hq => b24.block q hq.2.1)
      have hvis : ∀ vis : List Int, True := fun _ => trivial
      clear hnn a4
      go_wp2_with fail
      have hs5 := (schMay_parts Ma.sch).2.2
      refine (merge_come HA.out.s1 HA.out.s2 (HA.out.s.below b4) (Im.out.below b24) (Mob.out.keep (S' := Bel w4) fun q hq => ⟨by have := hq.2.1; show q < w4.heap.size; omega, b24.block q hq.2.1⟩) r1 r2 (Ma4.out.mono fun q hq => by have := hq.2.1; show q < w4.heap.size; omega) hL16 hRs hs5 (fun x hx => ⟨(Hinv.out.2 x hx).t0, (Hinv.out.2 x hx).t1, (Hinv.out.2 x hx).len⟩)).mono ?_
      rintro e w5 ⟨hb5, bo, rfl, hbo, imv⟩
      generalize hvs : comeM a.s l roots = vis at imv HmL
      clear hvs c0
      have b25 := bthen b24 hb5
      have sz5 := hb5.size
      have Imv := Lib.hid imv
      have Im5 := Lib.hid (Im.out.below b25)
      have Mo5 := Lib.hid (show MObs (fun k => w1.heap.size ≤ k ∧ k < w2.heap.size ∧ k ≠ bm) w5 m l from Mob.out.keep fun q hq => ⟨hq, b25.block q hq.2.1⟩)
      have Hnk := Lib.hid (show (m.map (·.1)).Nodup by rw [Mob.out.keys]; exact Hinv.out.1)
      clear imv
      go_wp2_with (at_range; refine wpList_range_i rfl _ 58 rfl Tryz.underlying58 rfl Im5.out Hnk.out ?_; intro w6 ir6 hb6 hs6)
      have Ir6 := Lib.hid ir6
      have Imv6 := Lib.hid (Imv.out.below hb6)
      have zbo := Imv.out.lt
      clear ir6
      go_frame
      go_loopw [15] (fun _ wr => RDel w6 bm w5.heap.size m vis wr) (fun _ wr => wr.rangeLeft bm w5.heap.size)
      case atStart => exact ⟨[], by rw [delM_start]; exact Ir6.out, Kp.refl _ _⟩
      case round =>
        obtain ⟨done, ir, kp⟩ := hrel
        have Ir := Lib.hid ir
        have Kpp := Lib.hid kp
        have ImvR := Lib.hid (Imv6.out.keep (kp.block bo ⟨by omega, by omega, by omega⟩))
        clear ir kp
        go_wp2_with (at_next; refine wpList_next_i rfl _ rfl rfl Ir.out ?_ ?_)
        · intro hdn
          have ImD := Lib.hid (RDel.done Ir.out hdn)
          have kR := Lib.hid (show Kp (fun q => q < w5.heap.size ∧ q ≠ bm) w5 wr from (Kp.of_below hb6 fun q hq => hq.1).trans (Kpp.out.mono fun q hq => ⟨by omega, hq.2, by omega⟩))
          have MoF := Lib.hid (show MObs (fun k => w1.heap.size ≤ k ∧ k < w2.heap.size ∧ k ≠ bm) wr (m.filter fun p => vis.contains p.1) mL from by
            rw [HmL.out]; exact (Mo5.out.filter vis.contains).keep fun q hq => ⟨hq, kR.out.block q ⟨by omega, hq.2.2⟩⟩)
          have HLen := Lib.hid MoF.out.len
          have HKeys := Lib.hid MoF.out.keys
          have HInvF := Lib.hid (show (mL.map (·.id)).Nodup ∧ ∀ x ∈ mL, ObOk a.s x from by
            rw [HmL.out]; exact ⟨Hinv.out.1.sublist (List.filter_sublist.map _), fun x hx => Hinv.out.2 x (List.mem_filter.1 hx).1⟩)
          generalize m.filter (fun p => vis.contains p.1) = mf at *
          have hmf : mf.length = mL.length := HLen.out
          have hmL16 : mL.length ≤ 16 := by rw [HmL.out]; exact Nat.le_trans (List.length_filter_le _ _) hL16
          have szR := kR.out.size
          have G6R := Lib.hid ((G6.out.below (bthen hb2 b25)).kp kR.out ⟨by omega, by omega⟩)
          have G7R := Lib.hid ((G7.out.below (bthen hb2 b25)).kp kR.out ⟨by omega, by omega⟩)
          have A4R := Lib.hid ((A4.out.below (bthen hb2 b25)).kp kR.out ⟨by omega, by omega⟩)
          have bR := Lib.hid (show Below w.heap.size w wr from (bthen b4 hb5).trans (kR.out.below fun k hk => by omega))
          clear hdn Ir ImvR Imv Imv6 Ir6
          by_cases h8 : 8 < mL.length
          · have Hr2 := Lib.hid (show mergeM o a b = (grNil, chNil, 8) by rw [Hr.out, if_pos h8])
            have h8' : (8 : Int) < (mf.length : Int) := by omega
            obtain ⟨c0, c1, c2, f0, f1, f2⟩ := G6R.out.three
            obtain ⟨⟨d0, d1, d2, d3⟩, e0, e1, e2, e3⟩ := G7R.out.four
            have zg7 := G7R.out.lt
            clear h8 hmf
            go_wp2_with (at_len; refine wpList_len_i rfl _ 58 rfl Tryz.underlying58 rfl ImD.out ?_)
            refine bodyPost_ret (v := .tuple #[.agg #[.slice none 0 0, .slice none 0 0, .slice none 0 0], .agg #[.slice none 0 0, .slice none 0 0, .slice none 0 0, .slice none 0 0], .int .i64 8]) (by simp [results, Tryz.results8, go_sem, *]) rfl ⟨?_, ?_⟩
            · exact bR.out.trans ((set34 _ _ _ _ _ _ _ _ _ _).below fun k hk => by omega)
            · rw [Hr2.out]; exact MergeV.zero 8
          · have Hr2 := Lib.hid (show mergeM o a b = (⟨a.s, sortIds mL, roots⟩, chNil, 0) by rw [Hr.out, if_neg h8])
            have h8' : ¬ (8 : Int) < (mf.length : Int) := by omega
            obtain ⟨c0, -⟩ := A4R.out.three
            have za4 := A4R.out.lt
            clear hmf
            go_wp2_with (at_len; refine wpList_len_i rfl _ 58 rfl Tryz.underlying58 rfl ImD.out ?_)
            clear c0
            have hs5 := (schMay_parts Ma.sch).2.2
            have hs4 := (schMay_parts Ma.sch).2.1
            have hs0 := (schMay_parts Ma.sch).1
            refine (merge_schema HA.out.s1 HA.out.s2 (HA.out.s.below bR.out) hs4 hs0 hs5).mono ?_
            rintro e w9 ⟨hb9, A9, c9, rfl, n1, n2, n3⟩
            have N3 := Lib.hid n3
            have im9 := ImD.out.below hb9
            have MoF9 := Lib.hid (show MObs (fun k => w1.heap.size ≤ k ∧ k < w2.heap.size ∧ k ≠ bm) w9 mf mL from MoF.out.keep fun q hq => ⟨hq, hb9.block q (by omega)⟩)
            have HnkF := Lib.hid (show (mf.map (·.1)).Nodup by rw [HKeys.out]; exact HInvF.out.1)
            have sz9 := hb9.size
            have b9 := bthen bR.out hb9
            clear n3 h8'
            go_wp2_with (at_range; refine wpList_range_i rfl _ 58 rfl Tryz.underlying58 rfl (im9.alloc _) HnkF.out ?_; intro w10 ir10 hb10 hs10)
            go_frame
            have Ir10 := Lib.hid ir10
            have R9 := Lib.hid (show RepL (fun k => w1.heap.size ≤ k ∧ k < w2.heap.size ∧ k ≠ bm) w9 AR roots from RepL.keep Ma4.out fun q hq => (hb9.block q (by omega)).trans ((kR.out.block q ⟨by omega, hq.2.2⟩).trans (hb5.block q (by omega))))
            have G6R9 := Lib.hid (G6R.out.below hb9)
            have G7R9 := Lib.hid (G7R.out.below hb9)
            have hs11 : (w9.alloc (.cells #[.slice A9 a.s.length c9, .slice none 0 0, .slice AR roots.length cR] 28)).heap.size = w9.heap.size + 1 := by simp
            rw [hs11] at Ir10 hs10 ⊢
            have g16 : Blk w10 w9.heap.size #[.slice A9 a.s.length c9, .slice none 0 0, .slice AR roots.length cR] 28 := (Blk.new w9 _ _).below hb10
            have G16 := Lib.hid g16
            have kp10 := Lib.hid (show Below w9.heap.size w9 w10 from (balloc (Below.refl _ _) _).trans (hb10.mono (by simp)))
            clear ir10 g16 hb10 hs11
            go_loopw [18] (fun _ wr => RCol w10 bm (w9.heap.size + 1) w9.heap.size (.slice A9 a.s.length c9) (.slice AR roots.length cR) (fun k => w1.heap.size ≤ k ∧ k < w2.heap.size ∧ k ≠ bm) mf mL wr) (fun _ wr => wr.rangeLeft bm (w9.heap.size + 1))
            case atStart => exact ⟨[], [], .slice none 0 0, Ir10.out, by simp, List.nodup_nil, by simp, G16.out, OwnL.nil, Kp.refl _ _⟩
            case round =>
              obtain ⟨done2, L, v, ir, hdl, hnL, hLm, blk, own, kp⟩ := hrel
              have Ir2 := Lib.hid ir
              have Hdl := Lib.hid hdl
              have HnL := Lib.hid hnL
              have HLm := Lib.hid hLm
              have Blk16 := Lib.hid blk
              have Own := Lib.hid own
              have Kp2 := Lib.hid kp
              have zwr2 := kp.size
              clear ir hdl hnL hLm blk own kp
              go_wp2_with (at_next; refine wpList_next_i rfl _ rfl rfl Ir2.out ?_ ?_)
              · intro hdn
                have Hpm := Lib.hid (col_perm Hdl.out HnL.out HLm.out HKeys.out HInvF.out.1 hdn.out)
                clear hdn
                obtain ⟨c0, c1, c2, f0, f1, f2⟩ := Blk16.out.three
                have zg16 := Blk16.out.lt
                have hL12 : L.length ≤ 12 := by rw [Hpm.out.length_eq]; omega
                have hcon := sort_own Own.out (fun x hx => ⟨(HInvF.out.2 x (HLm.out x hx)).i0, (HInvF.out.2 x (HLm.out x hx)).i1⟩) hL12 (fun q hq => ⟨by omega, by omega⟩)
                have Hcon := Lib.hid hcon
                clear hcon
                go_wp2_with fail
                refine Hcon.out.mono ?_
                rintro e w13 ⟨rfl, kps, A13, cap, L', hv, hl1, hl2, hp, hs, hrep⟩
                have HL' := Lib.hid (show L' = sortIds mL from sorted_unique (hp.trans (Hpm.out.trans (sortIds_perm mL).symm)) hs (sortIds_sorted mL) (((hp.trans Hpm.out).map _).nodup_iff.2 HInvF.out.1))
                subst hv
                have Hrep := Lib.hid hrep
                have Kps := Lib.hid kps
                have szs := kps.size
                have k916 := Blk16.out.kp kps ⟨by omega, by omega⟩
                have KK := Lib.hid (show ∀ q, q < w9.heap.size → w13.heap[q]? = w9.heap[q]? from fun q hq => (Kps.out.block q ⟨by omega, by omega⟩).trans ((Kp2.out.block q ⟨by omega, by omega, by omega⟩).trans (kp10.out.block q hq)))
                have g613 := G6R9.out.keep (KK.out _ (by omega))
                have g713 := G7R9.out.keep (KK.out _ (by omega))
                clear hp hs hrep kps c0 c1 c2 f0 f1 f2
                obtain ⟨c0, c1, c2, f0, f1, f2⟩ := k916.three
                obtain ⟨p0, p1, p2, q0, q1, q2⟩ := g613.three
                obtain ⟨⟨d0, d1, d2, d3⟩, e0, e1, e2, e3⟩ := g713.four
                have zz := k916.lt
                clear k916 g613 g713
                go_wp2_with fail
                refine bodyPost_ret (v := .tuple #[.agg #[.slice A9 a.s.length c9, .slice A13 L'.length cap, .slice AR roots.length cR], .agg #[.slice none 0 0, .slice none 0 0, .slice none 0 0, .slice none 0 0], .int .i64 0]) (by simp [results, Tryz.results8, go_sem, *]) rfl ⟨?_, ?_⟩
                · refine (Below.trans b9 ?_).trans ((set34 _ _ _ _ _ _ _ _ _ _).below fun k hk => by omega)
                  exact ⟨Kps.out.os.trans (Kp2.out.os.trans kp10.out.os), Kps.out.tape.trans (Kp2.out.tape.trans kp10.out.tape), Kps.out.output.trans (Kp2.out.output.trans kp10.out.output), by omega, fun q hq => KK.out q (by have := b9.size; omega)⟩
                · rw [Hr2.out]
                  have kf := set34 w13 (w.heap.size + 1 + 1 + 1) (w.heap.size + 1 + 1 + 1 + 1) (.slice A9 a.s.length c9) (.slice A13 L'.length cap) (.slice AR roots.length cR) (.slice none 0 0) (.slice none 0 0) (.slice none 0 0) (.slice none 0 0)
                  have szf := kf.size
                  refine ⟨A9, c9, A13, cap, AR, cR, none, 0, none, 0, none, 0, none, 0, by rw [← HL'.out]; rfl, ⟨n1, n2, ?_, by rw [← HL'.out]; exact hl1, hl2, ?_, r1, r2, ?_⟩, COK.nil _⟩
                  · exact (RepL.keep N3.out fun q hq => (kf.block q ⟨by omega, by omega⟩).trans (KK.out q hq.2)).mono fun q hq => by have := hq.2; show q < _; omega
                  · rw [← HL'.out]
                    exact (RepL.keep Hrep.out fun q hq => kf.block q (by rcases hq with h | h <;> exact ⟨by omega, by omega⟩)).mono fun q hq => by show q < _; rcases hq with h | h <;> omega
                  · exact (RepL.keep R9.out fun q hq => (kf.block q ⟨by omega, by omega⟩).trans (KK.out q (by omega))).mono fun q hq => by show q < _; omega
              · intro k v2 w11 hkv ir11 hlt11 hg11 hs11 hen
                have MoR := Mo5.out
                have moR : MObs (fun k => w1.heap.size ≤ k ∧ k < w2.heap.size ∧ k ≠ bm) wr mf mL := MoF9.out.keep fun q hq => ⟨hq, (Kp2.out.block q ⟨by omega, by omega, by omega⟩).trans (kp10.out.block q (by omega))⟩
                obtain ⟨x, us, hxl, hxk, rfl, hrx⟩ := moR.mem hkv.mem
                have Hrx := Lib.hid hrx
                obtain ⟨F, cF, rfl, hF1, hF2, hF3⟩ := hrx
                have Hx := Lib.hid (And.intro hxl hxk)
                have Hkv := Lib.hid hkv.new
                have hbase : ∀ q, v.ownBlock = some q → w10.heap.size ≤ q ∧ q < wr.heap.size := fun q e => Own.out.base_le q e
                have blk11 := Lib.hid (Blk16.out.grown hg11 (fun e => by have := Option.some.inj e; omega))
                have own11 := Lib.hid (Own.out.grown hg11 (.inr fun e => by have := (hbase _ e).1; omega) (fun q hq => ⟨by omega, fun e => by have := Option.some.inj e; omega⟩))
                have rep11 : ∀ q, (w1.heap.size ≤ q ∧ q < w2.heap.size ∧ q ≠ bm) → w11.heap[q]? = wr.heap[q]? := fun q hq => hg11.block q (by omega) (fun e => by have := Option.some.inj e; omega)
                have Rep11 := Lib.hid (show rep (fun k => w1.heap.size ≤ k ∧ k < w2.heap.size ∧ k ≠ bm) w11 [.int .i64 x.id, .int .i64 x.t, .slice F x.f.length cF] x from Lay.keep Hrx.out rep11)
                have kp11 := Lib.hid (Kp2.out.grown hg11 (fun b hb => hb.1) (fun b hb e => hb.2.1 (Option.some.inj e)))
                obtain ⟨c0, c1, c2, f0, f1, f2⟩ := blk11.out.three
                have zg11 := blk11.out.lt
                have hne : some w9.heap.size ≠ v.ownBlock := fun e => by have := (hbase _ e.symm).1; omega
                have hneS : ∀ q, (w1.heap.size ≤ q ∧ q < w2.heap.size ∧ q ≠ bm) → some q ≠ v.ownBlock := fun q hq e => by have := (hbase _ e.symm).1; omega
                have hneR : v.ownBlock ≠ some (w9.heap.size + 1) := fun e => by have := (hbase _ e).1; omega
                have hneM : v.ownBlock ≠ some bm := fun e => by have := (hbase _ e).1; omega
                have Hbase := Lib.hid hbase
                have HneS := Lib.hid hneS
                have hL16' : L.length ≤ 16 := by
                  have h1 : L.length = (L.map (·.id)).length := by simp
                  have h2 := nodup_sub_len HnL.out (ids := mL.map (·.id)) (fun y hy => by obtain ⟨z, hz, rfl⟩ := List.mem_map.1 hy; exact List.mem_map_of_mem (HLm.out z hz))
                  simp at h2; omega
                have zw11 : wr.heap.size ≤ w11.heap.size := by omega
                have Hlt11 := Lib.hid hlt11
                clear hF3 hxl hxk moR hkv MoR rep11 hg11 hbase hneS hs11 hlt11
                go_wp2_with (at_builtin; refine wpList_append_L (α := Ob) (S := fun k => w1.heap.size ≤ k ∧ k < w2.heap.size ∧ k ≠ bm) (S' := fun k => w1.heap.size ≤ k ∧ k < w2.heap.size ∧ k ≠ bm) (us := [.int .i64 x.id, .int .i64 x.t, .slice F x.f.length cF]) (y := x) (v := v) rfl _ _ _ rfl Tryz.underlying25 infO (Nat.succ_pos _) rfl (own11.out.below (balloc (balloc (Below.refl _ _) _) _) (Nat.le_refl _) (fun q hq => by omega)) rfl (Blk.new' (by simp) _ _) (by simp [Value.oneCell']) (Lay.keep Rep11.out fun q hq => (balloc (balloc (Below.refl _ _) _) _).block q (by omega)) (fun _ d => d) (fun q hq => ⟨by simp; omega, HneS.out q hq⟩) (by unfold maxLen; omega) (by omega) (by simp; omega) ?_; intro gg cap w12 own12 hg12 hat12 hlt12; have bC12 := ((blk11.out.alloc _).alloc _).grown hg12 hne; have BC12 := Lib.hid bC12; have zg12 := bC12.lt; obtain ⟨g0, g1, g2, h0, h1, h2⟩ := bC12.three; clear bC12)
                have kz : Kp (fun b => b ≠ w9.heap.size) w12 (w12.setCell ⟨w9.heap.size, 1, none⟩ (.slice (some ⟨gg, 0, none⟩) (L.length + 1) cap)) := (Kp.refl _ _).setCell (fun d => d rfl) _
                have i1 := ir11.out.below (balloc (balloc (Below.refl w11.heap.size w11) (.cells #[.int .i64 x.id, .int .i64 x.t, .slice F x.f.length cF] 45)) (.cells #[.int .i64 x.id, .int .i64 x.t, .slice F x.f.length cF] 45))
                have i2 := i1.1.grown hg12 hneM.symm hneR.symm
                have i3 := i2.1.keep (kz.block bm (by omega)) (kz.block (w9.heap.size + 1) (by omega))
                have hrl : (w12.setCell ⟨w9.heap.size, 1, none⟩ (.slice (some ⟨gg, 0, none⟩) (L.length + 1) cap)).rangeLeft bm (w9.heap.size + 1) < wr.rangeLeft bm (w9.heap.size + 1) := by rw [i3.2, i2.2, i1.2]; exact Hlt11.out
                have Hrl := Lib.hid hrl
                have I3 := Lib.hid i3.1
                have Kz := Lib.hid kz
                have HGat := Lib.hid hat12
                have kpF := Lib.hid (((((kp11.out.alloc (fun b hb => hb.1) (.cells #[.int .i64 x.id, .int .i64 x.t, .slice F x.f.length cF] 45)).alloc (fun b hb => hb.1) (.cells #[.int .i64 x.id, .int .i64 x.t, .slice F x.f.length cF] 45)).grown hg12 (fun b hb => hb.1) (fun b hb e => by have := (Hbase.out _ e.symm).1; have := hb.1; omega)).setCell (p := ⟨w9.heap.size, 1, none⟩) (fun e => e.2.2 rfl) (.slice (some ⟨gg, 0, none⟩) (L.length + 1) cap)))
                have ownF := Lib.hid (own12.kp kz (fun b hb => by have := (own12.base_le b hb).1; omega) (fun q hq => by omega))
                clear i1 i2 i3 hrl kz hg12 hat12 own12
                go_roundw
                case rel =>
                  refine ⟨k :: done2, L ++ [x], _, I3.out, fun q => ?_, ?_, ?_, BC12.out.set 1 _, ownF.out, kpF.out⟩
                  · rw [List.mem_cons, Hdl.out, List.map_append, List.mem_append, List.map_cons, List.map_nil, List.mem_singleton, Hx.out.2]
                    exact ⟨fun h => h.symm, fun h => h.symm⟩
                  · rw [List.map_append, List.map_cons, List.map_nil]
                    refine List.nodup_append.2 ⟨HnL.out, by simp, ?_⟩
                    intro u hu v hv
                    rw [List.mem_singleton] at hv
                    rintro rfl
                    subst hv
                    rw [Hx.out.2] at hu
                    exact Hkv.out ((Hdl.out k).2 hu)
                  · intro y hy
                    rcases List.mem_append.1 hy with hy | hy
                    · exact HLm.out y hy
                    · rw [List.mem_singleton] at hy; subst hy; exact Hx.out.1
                case measure => exact Hrl.out
        · intro k v w7 hkv ir7 hlt7 hg7 hs7 hen
          have im7 := ImvR.out.grown hg7 (fun e => by have := Option.some.inj e; omega)
          have kp7 := Lib.hid (Kpp.out.grown hg7 (fun b hb => hb.1) (fun b hb e => hb.2.2 (Option.some.inj e)))
          have lk := run_lookup_i Tryz.underlying61 Tryz.underlying3 (zeroBool _) im7 k false
          rw [look_vis] at lk
          have Hlt := Lib.hid hlt7
          have zw7 := hs7
          clear im7 hg7 hs7 hlt7
          cases hv : vis.contains k
          · have Hv := Lib.hid hv
            rw [hv] at lk
            clear hv
            revert hen
            intro hen
            go_wp2_with (at_delete; refine wpList_delete_i rfl _ _ _ rfl Tryz.underlying58 Tryz.underlying3 rfl rfl ir7.out ?_; intro w8 ir8 hl8 hg8 hs8; go_frame)
            have IrC := Lib.hid (RDel.cut ir8 Hv.out)
            have kp8 := Lib.hid (kp7.out.grown hg8 (fun b hb => hb.1) (fun b hb e => hb.2.1 (Option.some.inj e)))
            clear ir8 hg8
            go_roundw
            case rel => exact ⟨_, IrC.out, kp8.out⟩
            case measure => have := Hlt.out; omega
          · have Hv := Lib.hid hv
            rw [hv] at lk
            clear hv
            have IrC := Lib.hid (RDel.step ir7.out Hv.out)
            go_wp2_with fail
            go_roundw
            case rel => exact ⟨_, IrC.out, kp7.out⟩
            case measure => exact Hlt.out
end
end Go.Proofs.YtgeegdnkheckcaaGreat
