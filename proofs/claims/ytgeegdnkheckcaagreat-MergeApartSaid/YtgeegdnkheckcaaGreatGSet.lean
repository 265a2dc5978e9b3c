/- The walk of graph.Set. -/
import Derived.Test.YtgeegdnkheckcaaGreatGOwn
import Derived.Test.YtgeegdnkheckcaaGreatMPure
import Derived.RegionTactic
set_option linter.unusedVariables false
namespace Go.Proofs.YtgeegdnkheckcaaGreat
open Lay (rep)
open Go.RowKit

def setM (g : Gr) (id field : Int) (v : Vl) : Gr × Int :=
  if grMay g then
    match obOf g id with
    | none => (g, 11)
    | some o =>
      if field < 0 ∨ (o.f.length : Int) ≤ field then (g, 11)
      else if leads g ((fieldsOf g.s o.t).getD field.toNat default) v then ({ g with o := g.o.set (gfind g id).toNat { o with f := o.f.set field.toNat v } }, 0) else (g, 6)
  else (g, 1)
theorem setM_some {g : Gr} {id field : Int} {v : Vl} {o : Ob} (hm : grMay g = true) (ho : obOf g id = some o) :
    setM g id field v = if field < 0 ∨ (o.f.length : Int) ≤ field then (g, 11)
      else if leads g ((fieldsOf g.s o.t).getD field.toNat default) v then ({ g with o := g.o.set (gfind g id).toNat { o with f := o.f.set field.toNat v } }, 0) else (g, 6) := by
  simp only [setM, hm, ho, if_true]
/-- A graph, and a number. -/
def GrV (w : World) (e : Ending) (r : Gr × Int) : Prop :=
  ∃ As cs Ao co Ar cr, e = .returned (.tuple #[gv As cs Ao co Ar cr r.1, .int .i64 r.2]) ∧ GOK w As cs Ao co Ar cr r.1
section
variable {w : World} {As : Option Addr} {cs : Nat} {Ao : Option Addr} {co : Nat} {Ar : Option Addr} {cr : Nat} {g : Gr}
set_option maxRecDepth 100000 in
set_option maxHeartbeats 4000000 in
theorem graph_Set {id field : Int} {v : Vl} (hg : GOK w As cs Ao co Ar cr g) (hf : Fit g) (hv : v.s.size ≤ maxLen) :
    Calls Tryz.prog 15 #[gv As cs Ao co Ar cr g, .int .i64 id, .int .i64 field, .agg #[.int .i64 v.n, .string v.s, .int .i64 v.r]] w fun e w' => Below w.heap.size w w' ∧ GrV w' e (setM g id field v) := by
  have Hg := Lib.hid hg
  have Hf := Lib.hid hf
  have Hv := Lib.hid hv
  have ho1 := hg.o1
  have ho2 := hg.o2
  have hs1 := hg.s1
  have hs2 := hg.s2
  unfold maxLen at ho2 hs2
  clear hg hf hv
  go_enter Tryz.func15, Tryz.ntmps15
  go_wp2_with fail
  refine nameC fun W hW => ?_
  have bW : Below w.heap.size w W := by rw [hW]; exact balloc (balloc (balloc (Below.refl _ _) _) _) _
  have g4 : Blk W w.heap.size #[.slice As g.s.length cs, .slice Ao g.o.length co, .slice Ar g.roots.length cr] 28 := by rw [hW]; exact ((Blk.new _ _ _).alloc _).alloc _
  have v7 : Blk W (w.heap.size + 1) #[.int .i64 v.n, .string v.s, .int .i64 v.r] 47 := by rw [hW]; exact (Blk.new' (by simp) _ _).alloc _
  have g8 : Blk W (w.heap.size + 2) #[.slice none 0 0, .slice none 0 0, .slice none 0 0] 28 := by rw [hW]; exact Blk.new' (by simp) _ _
  clear hW
  refine (graph_own (Hg.out.below bW) Hf.out).mono ?_
  rintro e w1 ⟨hb1, As', cs', Ao', co', Ar', cr', rfl, own⟩
  have b1 := bthen bW hb1
  have G4 := Lib.hid (g4.below hb1)
  have V7 := Lib.hid (v7.below hb1)
  have G8 := Lib.hid (g8.below hb1)
  have zW : w.heap.size + 3 ≤ W.heap.size := g8.lt
  have sz1 := hb1.size
  have Own := Lib.hid own
  obtain ⟨c0, c1, c2, -⟩ := G4.out.three
  have z4 := G4.out.lt
  clear g4 v7 g8 bW hb1 own
  go_wp2_with fail
  refine nameC fun W2 hW => ?_
  have b2 : Below w1.heap.size w1 W2 := by rw [hW]; exact balloc (Below.refl _ _) _
  have g10 : Blk W2 w1.heap.size #[.slice As' g.s.length cs', .slice Ao' g.o.length co', .slice Ar' g.roots.length cr'] 28 := by rw [hW]; exact Blk.new _ _ _
  have bw2 := bthen b1 b2
  clear hW c0 c1 c2
  refine (graph_May (Hg.out.below bw2)).mono ?_
  rintro e w3 ⟨rfl, hb3⟩
  have b13 := bthen b2 hb3
  have b3 := bthen b1 b13
  have G10 := Lib.hid (g10.below hb3)
  have z10 := G10.out.lt
  have sz13 := b13.size
  have G43 := Lib.hid (G4.out.below b13)
  have V73 := Lib.hid (V7.out.below b13)
  have G83 := Lib.hid (G8.out.below b13)
  have z83 := G83.out.lt
  have OwnH := Lib.hid (show ∀ wf : World, Kp (fun b => b < w1.heap.size ∧ W.heap.size ≤ b) w1 wf → GOK wf As' cs' Ao' co' Ar' cr' g from fun wf k => by
    obtain ⟨x1, x2, h1, h2, h3, h4, h5, h6, h7, h8⟩ := Own.out.row
    have hks := k.size
    obtain ⟨k1, k2, k3⟩ := h7.done
    obtain ⟨A', c', he, r1, r2, r3⟩ := h8.read (Nat.succ_pos _) (fun _ h => h.elim)
    simp only [Value.slice.injEq] at he
    obtain ⟨rfl, -, rfl⟩ := he
    exact ⟨h4, h5, (RepL.keep h6 fun b hb => k.block b ⟨by omega, hb.1⟩).mono fun b hb => by show b < _; omega, k1, k2, (RepL.keep k3 fun b hb => k.block b ⟨hb.2, by omega⟩).mono fun b hb => by show b < _; omega, r1, r2, (RepL.keep r3 fun b hb => k.block b ⟨hb.1, by rcases hb.2 with h | h; omega; exact h.elim⟩).mono fun b hb => by show b < _; omega⟩)
  have Hk13 := Lib.hid (show ∀ wf, Kp (fun b => b ≠ w.heap.size + 1 + 1) w3 wf → Kp (fun b => b < w1.heap.size ∧ W.heap.size ≤ b) w1 wf from fun wf k => (Kp.of_below b13 fun b hb => hb.1).trans (k.mono fun b hb => by omega))
  clear hb3 b2 g10 bw2 b13
  cases hm : grMay g
  · have Hr := Lib.hid (show setM g id field v = (g, 1) by simp [setM, hm])
    obtain ⟨c0, c1, c2, -⟩ := G10.out.three
    obtain ⟨d0, d1, d2, e0, e1, e2⟩ := G83.out.three
    clear hm
    go_wp2_with fail
    refine bodyPost_ret (v := .tuple #[.agg #[.slice As' g.s.length cs', .slice Ao' g.o.length co', .slice Ar' g.roots.length cr'], .int .i64 1]) (by simp [results, Tryz.results15, go_sem, *]) rfl ?_
    have kf := set3 w3 (w.heap.size + 1 + 1) (.slice As' g.s.length cs') (.slice Ao' g.o.length co') (.slice Ar' g.roots.length cr')
    exact ⟨b3.trans (kf.below fun b hb => by omega), by rw [Hr.out]; exact ⟨As', cs', Ao', co', Ar', cr', rfl, OwnH.out _ (Hk13.out _ kf)⟩⟩
  · have Hm := Lib.hid hm
    obtain ⟨c0, c1, c2, -⟩ := G43.out.three
    have z43 := G43.out.lt
    clear hm
    go_wp2_with fail
    refine (graph_Find (Hg.out.below b3)).mono ?_
    rintro e w4 ⟨rfl, hb4⟩
    have b4 := bthen b3 hb4
    have sz4 := hb4.size
    have G104 := Lib.hid (G10.out.below hb4)
    have G44 := Lib.hid (G43.out.below hb4)
    have G84 := Lib.hid (G83.out.below hb4)
    have V74 := Lib.hid (V73.out.below hb4)
    have Hk14 := Lib.hid (show ∀ wf, Kp (fun b => b ≠ w.heap.size + 1 + 1) w4 wf → Kp (fun b => b < w1.heap.size ∧ W.heap.size ≤ b) w1 wf from fun wf k => (Hk13.out w3 (Kp.refl _ _)).trans (((Kp.of_below hb4 fun b hb => hb).mono fun b hb => by omega).trans (k.mono fun b hb => by omega)))
    have z104 := G104.out.lt
    have z84 := G84.out.lt
    clear c0 c1 c2
    rcases gfind_spec g id with ⟨hfi, ho⟩ | ⟨j, hj, hfi, ho⟩
    · have Hr := Lib.hid (show setM g id field v = (g, 11) by simp [setM, Hm.out, ho])
      have hfi' : (gfind g id == -1) = true := by simp [hfi]
      obtain ⟨c0, c1, c2, -⟩ := G104.out.three
      obtain ⟨d0, d1, d2, e0, e1, e2⟩ := G84.out.three
      clear hfi ho
      go_wp2_with fail
      refine bodyPost_ret (v := .tuple #[.agg #[.slice As' g.s.length cs', .slice Ao' g.o.length co', .slice Ar' g.roots.length cr'], .int .i64 11]) (by simp [results, Tryz.results15, go_sem, *]) rfl ?_
      have kf := set3 w4 (w.heap.size + 1 + 1) (.slice As' g.s.length cs') (.slice Ao' g.o.length co') (.slice Ar' g.roots.length cr')
      exact ⟨b4.trans (kf.below fun b hb => by omega), by rw [Hr.out]; exact ⟨As', cs', Ao', co', Ar', cr', rfl, OwnH.out _ (Hk14.out _ kf)⟩⟩
    · have e1 : ((j : Int) == -1) = false := by rw [beq_eq_false_iff_ne]; omega
      have Hfi := Lib.hid hfi
      have hso := setM_some Hm.out ho (field := field) (v := v)
      have hMo := (mayG Hm.out).ok (List.getElem_mem hj)
      rw [hfi] at hso ⊢
      rw [show ((j : Int)).toNat = j from rfl] at hso
      have hj0 : (0 : Int) ≤ (j : Int) := Int.natCast_nonneg _
      have hj1 : (j : Int) < (g.o.length : Int) := by omega
      have hval := fun (h : 0 < g.o.length) (wx : World) (b1 gb cap : Nat) (hr : RowO wx b1 (.slice (some ⟨gb, 0, none⟩) g.o.length cap) g.o.length g.o) => hr.val j hj
      have Hval := Lib.hid hval
      obtain ⟨bo, offo, rfl, _, hbo, hos⟩ := (Hg.out.o.below b4).ob (by intro e; simp [e] at hj)
      replace hos := hos j hj
      clear hval hfi ho
      generalize g.o[j] = x at *
      obtain ⟨F, cF, o0, o1, o2, hF1, hF2, hF3⟩ := hos
      have HF3 := Lib.hid hF3
      obtain ⟨d0, d1, d2, -⟩ := G44.out.three
      have z44 := G44.out.lt
      obtain ⟨c0, c1, c2, -⟩ := G104.out.three
      obtain ⟨p0, p1, p2, e0, e1', e2⟩ := G84.out.three
      have HMo := Lib.hid hMo
      have Hso := Lib.hid hso
      clear hF3 hMo hso
      by_cases hn : field < 0
      · have Hr := Lib.hid (show setM g id field v = (g, 11) by rw [Hso.out, if_pos (.inl hn)])
        have hn' : decide (field < 0) = true := by simpa using hn
        go_wp2_with fail
        refine bodyPost_ret (v := .tuple #[.agg #[.slice As' g.s.length cs', .slice Ao' g.o.length co', .slice Ar' g.roots.length cr'], .int .i64 11]) (by simp [results, Tryz.results15, go_sem, *]) rfl ?_
        have kf := set3 w4 (w.heap.size + 1 + 1) (.slice As' g.s.length cs') (.slice Ao' g.o.length co') (.slice Ar' g.roots.length cr')
        exact ⟨b4.trans (kf.below fun b hb => by omega), by rw [Hr.out]; exact ⟨As', cs', Ao', co', Ar', cr', rfl, OwnH.out _ (Hk14.out _ kf)⟩⟩
      by_cases hl : (x.f.length : Int) ≤ field
      · have Hr := Lib.hid (show setM g id field v = (g, 11) by rw [Hso.out, if_pos (.inr hl)])
        have hn' : decide (field < 0) = false := by simpa using hn
        have hl' : decide ((x.f.length : Int) ≤ field) = true := by simpa using hl
        go_wp2_with fail
        refine bodyPost_ret (v := .tuple #[.agg #[.slice As' g.s.length cs', .slice Ao' g.o.length co', .slice Ar' g.roots.length cr'], .int .i64 11]) (by simp [results, Tryz.results15, go_sem, *]) rfl ?_
        have kf := set3 w4 (w.heap.size + 1 + 1) (.slice As' g.s.length cs') (.slice Ao' g.o.length co') (.slice Ar' g.roots.length cr')
        exact ⟨b4.trans (kf.below fun b hb => by omega), by rw [Hr.out]; exact ⟨As', cs', Ao', co', Ar', cr', rfl, OwnH.out _ (Hk14.out _ kf)⟩⟩
      obtain ⟨k, rfl⟩ : ∃ k : Nat, field = k := ⟨field.toNat, by omega⟩
      have hkl : k < x.f.length := by omega
      have hn' : decide ((k : Int) < 0) = false := by simp
      have hl' : decide ((x.f.length : Int) ≤ (k : Int)) = false := by simp; omega
      have hl2 : decide (x.f.length ≤ k) = false := by simp; omega
      rw [if_neg (by omega)] at Hso
      obtain ⟨ti, hti⟩ : ∃ t : Nat, x.t = t := ⟨x.t.toNat, by have := HMo.out.t0; omega⟩
      have hlt : ti < g.s.length := by have := HMo.out.t1; omega
      obtain ⟨bs, offs, hAs, _, hbs, hss⟩ := (Hg.out.s.below b4).typ (by intro e; simp [e] at hlt)
      subst hAs
      have Hfs := Lib.hid (show fieldsOf g.s x.t = g.s[ti].f by simp [fieldsOf, hti, List.getD_eq_getElem?_getD, hlt])
      replace hss := hss ti hlt
      have Hlx := Lib.hid HMo.out.len
      generalize g.s[ti] = ty at hss Hfs
      obtain ⟨Ft, ct, s0, s1, hT1, hT2, hT3, _⟩ := hss
      have hkf : k < ty.f.length := by have := Hlx.out; rw [Hfs.out] at this; omega
      obtain ⟨bf, offf, hFt, _, hbf, hfs⟩ := hT3.fld (by intro e; simp [e] at hkf)
      subst hFt
      have Hx := Lib.hid (show (fieldsOf g.s x.t).getD k default = ty.f[k] by rw [Hfs.out]; simp [List.getD_eq_getElem?_getD, hkf])
      replace hfs := hfs k hkf
      generalize ty.f[k] = f at hfs Hx
      obtain ⟨t0, t1, t2, _, _⟩ := hfs
      obtain ⟨u0, u1, u2, -⟩ := V74.out.three
      have hk0 : (0 : Int) ≤ (k : Int) := Int.natCast_nonneg _
      have hk1 : (k : Int) < (ty.f.length : Int) := by omega
      have hti0 : (0 : Int) ≤ (ti : Int) := Int.natCast_nonneg _
      have hti1 : (ti : Int) < (g.s.length : Int) := by omega
      have zv7 := V74.out.lt
      rw [hti] at o1
      have Hti := Lib.hid hti
      clear p0 p1 p2 e0 e1' e2 c0 c1 c2 hn hl o0 s0 hti hT3
      go_wp2_with fail
      have hbd : Below w4.heap.size w4 w4.drew := (Below.refl _ _).drew
      have HbT := Lib.hid (bthen b4 hbd)
      cases hld : leads g f v
      all_goals
        have Hld := Lib.hid hld
        clear hld
        go_region_held3 (fun w' => Below w4.heap.size w4 w' ∧ w'.cell? ⟨w.heap.size, 0, none⟩ = some (.slice (some ⟨bs, offs, none⟩) g.s.length cs) ∧ w'.cell? ⟨w.heap.size, 1, none⟩ = some (.slice (some ⟨bo, offo, none⟩) g.o.length co) ∧ w'.cell? ⟨w.heap.size, 2, none⟩ = some (.slice Ar g.roots.length cr) ∧
            w'.cell? ⟨bo, offo + j * 3 + 1, none⟩ = some (.int .i64 (ti : Int)) ∧ w'.cell? ⟨bs, offs + ti * 2 + 1, none⟩ = some (.slice (some ⟨bf, offf, none⟩) ty.f.length ct) ∧
            w'.cell? ⟨bf, offf + k * 3, none⟩ = some (.string f.name) ∧ w'.cell? ⟨bf, offf + k * 3 + 1, none⟩ = some (.int .i64 f.kind) ∧ w'.cell? ⟨bf, offf + k * 3 + 2, none⟩ = some (.string f.to) ∧
            w'.cell? ⟨w.heap.size + 1, 0, none⟩ = some (.int .i64 v.n) ∧ w'.cell? ⟨w.heap.size + 1, 1, none⟩ = some (.string v.s) ∧ w'.cell? ⟨w.heap.size + 1, 2, none⟩ = some (.int .i64 v.r))
          (first | exact ⟨hbd, d0, d1, d2, o1, s1, t0, t1, t2, u0, u1, u2⟩ | exact ⟨hb5, keep1 hb5 d0, keep1 hb5 d1, keep1 hb5 d2, keep1 hb5 o1, keep1 hb5 s1, keep1 hb5 t0, keep1 hb5 t1, keep1 hb5 t2, keep1 hb5 u0, keep1 hb5 u1, keep1 hb5 u2⟩ | exact ⟨hb56, keep1 hb56 d0, keep1 hb56 d1, keep1 hb56 d2, keep1 hb56 o1, keep1 hb56 s1, keep1 hb56 t0, keep1 hb56 t1, keep1 hb56 t2, keep1 hb56 u0, keep1 hb56 u1, keep1 hb56 u2⟩)
          (first | (go_at_call 38; refine (graph_types (Hg.out.below HbT.out)).mono ?_; rintro e w5 ⟨bm, rfl, hb5, im⟩; replace hb5 := below_drew hb5; have Im5 := Lib.hid im; clear im) | (go_at_call 43; refine (graph_leads (Hg.out.below (bthen b4 hb5)) Im5.out).mono ?_; rintro e w6 ⟨rfl, hb6⟩; rw [Hld.out]; have hb56 := bthen hb5 hb6))
        clear d0 d1 d2 o1 s1 t0 t1 t2 u0 u1 u2
        have b6 := bthen b4 hb56
        have G106 := Lib.hid (G104.out.below hb56)
        have G86 := Lib.hid (G84.out.below hb56)
        have V76 := Lib.hid (V74.out.below hb56)
        have sz6 := hb56.size
        have z106 := G106.out.lt
        have z86 := G86.out.lt
        have Hk16 := Lib.hid (show Kp (fun b => b < w1.heap.size ∧ W.heap.size ≤ b) w1 w6 from (Hk14.out w4 (Kp.refl _ _)).trans ((Kp.of_below hb56 fun b hb => hb).mono fun b hb => by omega))
        obtain ⟨c0, c1, c2, h0, h1, h2⟩ := G106.out.three
        obtain ⟨p0, p1, p2, e0, e1', e2⟩ := G86.out.three
      · have Hr := Lib.hid (show setM g id k v = (g, 6) by rw [Hso.out, show ((k : Int)).toNat = k from rfl, Hx.out, Hld.out]; rfl)
        go_wp2_with fail
        refine bodyPost_ret (v := .tuple #[.agg #[.slice As' g.s.length cs', .slice Ao' g.o.length co', .slice Ar' g.roots.length cr'], .int .i64 6]) (by simp [results, Tryz.results15, go_sem, *]) rfl ?_
        have kf := set3 w6 (w.heap.size + 1 + 1) (.slice As' g.s.length cs') (.slice Ao' g.o.length co') (.slice Ar' g.roots.length cr')
        exact ⟨b6.trans (kf.below fun b hb => by omega), by rw [Hr.out]; exact ⟨As', cs', Ao', co', Ar', cr', rfl, OwnH.out _ (Hk16.out.trans (kf.mono fun b hb => by omega))⟩⟩
      · have Hr := Lib.hid (show setM g id k v = ({ g with o := g.o.set j { x with f := x.f.set k v } }, 0) by rw [Hso.out, show ((k : Int)).toNat = k from rfl, Hx.out, Hld.out]; rfl)
        obtain ⟨y1, y2, i1, i2, i3, i4, i5, i6, ⟨wq, i7, i8, i9, i10⟩, i11⟩ := Own.out.out
        have I6 := Lib.hid i6
        have I11 := Lib.hid i11
        obtain ⟨gb, hgb⟩ := i9.addr (by omega)
        subst hgb
        have hgl := i9.lt gb rfl
        obtain ⟨q0, cq0, m0, -, -, hq1, hq2, hq3, -⟩ := Hval.out (by omega) wq y1 gb co' i9 k hkl
        have row6 : RowO w6 y1 (.slice (some ⟨gb, 0, none⟩) g.o.length co') g.o.length g.o := i9.keep (by omega) fun b hb hb2 => (Hk16.out.block b ⟨by omega, by rcases hb2 with h | h <;> omega⟩).trans (i10 b (by rcases hb2 with h | h <;> omega) hb)
        obtain ⟨q, cq, m1, hcq1, hcq2, -, hqs, -, n0, n1, n2, r0, r1, r2, hset⟩ := Hval.out (by omega) w6 y1 gb co' row6 k hkl
        obtain rfl : q0 = q := by
          have e := (cell_keep (o := j * 3 + 2) ((Hk16.out.block gb ⟨by omega, by omega⟩).trans (i10 gb (by omega) hgl.2))).trans m0
          rw [m1] at e
          simp at e
          exact e.1.symm
        have Hset := Lib.hid (hset v Hv.out)
        obtain ⟨u0, u1, u2, -⟩ := V76.out.three
        have zv76 := V76.out.lt
        have hk2 : (k : Int) < (x.f.length : Int) := by omega
        have Hcq2 := Lib.hid hcq2
        have I5 := Lib.hid i5
        unfold maxLen at hcq2 i5
        have hqne : q0 ≠ w.heap.size + 1 + 1 := by omega
        have hqne2 : q0 ≠ w1.heap.size := by omega
        have hqne3 : q0 ≠ w.heap.size + 1 := by omega
        clear i6 i11 i9 i10 m0 row6 hset
        go_wp2_with fail
        go_region
        go_wp2
        refine bodyPost_ret (v := .tuple #[.agg #[.slice As' g.s.length cs', .slice (some ⟨gb, 0, none⟩) g.o.length co', .slice Ar' g.roots.length cr'], .int .i64 0]) (by simp [results, Tryz.results15, go_sem, *]) rfl ?_
        have kq := set3i w6 q0 (k * 3) (k * 3 + 1) (k * 3 + 2) (.int .i64 v.n) (.string v.s) (.int .i64 v.r)
        have kf := set3 (((w6.setCell ⟨q0, k * 3, none⟩ (.int .i64 v.n)).setCell ⟨q0, k * 3 + 1, none⟩ (.string v.s)).setCell ⟨q0, k * 3 + 2, none⟩ (.int .i64 v.r)) (w.heap.size + 1 + 1) (.slice As' g.s.length cs') (.slice (some ⟨gb, 0, none⟩) g.o.length co') (.slice Ar' g.roots.length cr')
        have kz : Kp (fun b => b ≠ q0 ∧ b ≠ w.heap.size + 1 + 1) w6 _ := ((kq.mono fun b hb => hb.1).trans (kf.mono fun b hb => hb.2)).drew
        have hkz := kz.size
        have hkq := kq.size
        have hkf : _ ≤ _ := kf.drew.size
        refine ⟨b6.trans (kz.below fun b hb => by omega), ?_⟩
        rw [Hr.out]
        have row' := (Hset.out.below (Below.refl _ _)).keep (w' := _) hkf fun b hb hb2 => kf.drew.block b (by rcases hb2 with h | h; omega; simp at h)
        obtain ⟨k1, k2, k3⟩ := row'.done' (by simp)
        obtain ⟨A', c', he, t1, t2, t3⟩ := I11.out.read (Nat.succ_pos _) (fun _ h => h.elim)
        simp only [Value.slice.injEq] at he
        obtain ⟨rfl, -, rfl⟩ := he
        refine ⟨As', cs', some ⟨gb, 0, none⟩, co', Ar', cr', by simp [gv], ⟨i4, I5.out, ?_, k1, k2, k3.mono fun b hb => hb.2, t1, t2, ?_⟩⟩
        · exact (RepL.keep I6.out fun b hb => (kz.block b ⟨by omega, by omega⟩).trans (Hk16.out.block b ⟨by omega, by omega⟩)).mono fun b hb => by show b < _; omega
        · exact (RepL.keep t3 fun b hb => (kz.block b ⟨by rcases hb.2 with h | h; omega; exact h.elim, by rcases hb.2 with h | h; omega; exact h.elim⟩).trans (Hk16.out.block b ⟨hb.1, by rcases hb.2 with h | h; omega; exact h.elim⟩)).mono fun b hb => by show b < _; have := hb.1; omega
end
end Go.Proofs.YtgeegdnkheckcaaGreat
