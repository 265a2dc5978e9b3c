/- The walk of graph.Sweep. -/
import Derived.Test.YtgeegdnkheckcaaGreatReach
import Derived.Test.YtgeegdnkheckcaaGreatDel
import Derived.Test.YtgeegdnkheckcaaGreatGOwn
set_option linter.unusedVariables false
namespace Go.Proofs.YtgeegdnkheckcaaGreat
open Lay (rep)
open Go.RowKit

/-! ### Deleting out of a row of the call's own. -/
theorem RepL.andV {S S' : Nat → Prop} {w : World} {A : Option Addr} {l : List Vl} (h : RepL S w A l) (h' : RepL S' w A l) : RepL (fun b => S b ∧ S' b) w A l := fun hl => by
  obtain ⟨b, off, e, hS, hb, hc⟩ := h hl
  obtain ⟨b', off', e', hS', _, _⟩ := h' hl
  rw [e] at e'
  simp only [Option.some.injEq, Addr.mk.injEq] at e'
  obtain ⟨rfl, -, -⟩ := e'
  exact ⟨b, off, e, ⟨hS, hS'⟩, hb, hc⟩
theorem RowO.rows {S : Nat → Prop} {w : World} {base g cap k : Nat} {l : List Ob} (h : RowO w base (.slice (some ⟨g, 0, none⟩) l.length cap) k l) (hrep : RepL S w (some ⟨g, 0, none⟩) l) :
    ∃ (cur : Array Value) (D : List ObW), Blk w g cur 45 ∧ D.length * 3 ≤ cur.size ∧ D.map (·.1) = l ∧ (∀ i (h : i < D.length), RowC cur i D[i]) ∧ l.length ≤ cap ∧ cap ≤ maxLen ∧
      ∀ x ∈ D, x.1.f.length ≤ x.2.2 ∧ x.2.2 ≤ maxLen ∧ RepL (fun b => (b < w.heap.size ∧ b ≠ g) ∧ S b) w x.2.1 x.1.f := by
  have hcells : ∀ j (hj : j < l.length), ∃ F c, w.cell? ⟨g, j * 3, none⟩ = some (.int .i64 l[j].id) ∧ w.cell? ⟨g, j * 3 + 1, none⟩ = some (.int .i64 l[j].t) ∧ w.cell? ⟨g, j * 3 + 2, none⟩ = some (.slice F l[j].f.length c) ∧ l[j].f.length ≤ c ∧ c ≤ maxLen ∧ RepL (fun b => (b < w.heap.size ∧ b ≠ g) ∧ S b) w F l[j].f := fun j hj => by
    obtain ⟨F, c, a0, a1, a2, a3, a4, a5⟩ := (h.cells j hj).1
    obtain ⟨b, off, e, _, _, hb⟩ := hrep.ob (by intro e; simp [e] at hj)
    simp only [Option.some.injEq, Addr.mk.injEq] at e
    obtain ⟨rfl, rfl, -⟩ := e
    obtain ⟨F', c', _, _, b2, _, _, b5⟩ := hb j hj
    rw [Nat.zero_add, a2] at b2
    simp only [Option.some.injEq, Value.slice.injEq] at b2
    obtain ⟨rfl, -, rfl⟩ := b2
    exact ⟨F, c, a0, a1, a2, a3, a4, a5.andV b5⟩
  obtain ⟨xs, Fs, hx, _⟩ := h.out
  rcases hx.2 with ⟨he, _⟩ | ⟨g', cap', cur, he, h1, h2, h3, h4, h5, h6⟩
  · cases he
  simp only [Value.slice.injEq, Option.some.injEq, Addr.mk.injEq] at he
  obtain ⟨⟨rfl, -⟩, -, rfl⟩ := he
  have hB : Blk w g cur 45 := h2
  have hcur : ∀ a v, w.cell? ⟨g, a, none⟩ = some v → cur[a]? = some v := fun a v hv => by
    cases hq : cur[a]? with
    | none =>
      have hh : w.heap[g]? = some (.cells cur 45 (0, 0)) := h2
      simp [World.cell?, hh, hq] at hv
    | some u => rw [hB.cell hq] at hv; exact hv
  refine ⟨cur, List.ofFn fun j : Fin l.length => (l[j.1], (Classical.choose (hcells j.1 j.2), Classical.choose (Classical.choose_spec (hcells j.1 j.2)))), hB, by rw [List.length_ofFn]; omega, ?_, ?_, h3, h4, ?_⟩
  · apply List.ext_getElem
    · simp
    · intro j a1 a2; simp
  · intro i hi
    have hi' : i < l.length := by simpa using hi
    have hs := Classical.choose_spec (Classical.choose_spec (hcells i hi'))
    simp only [List.getElem_ofFn]
    exact ⟨hcur _ _ hs.1, hcur _ _ hs.2.1, hcur _ _ hs.2.2.1⟩
  · intro x hx
    rw [List.mem_ofFn] at hx
    obtain ⟨j, rfl⟩ := hx
    have hs := Classical.choose_spec (Classical.choose_spec (hcells j.1 j.2))
    exact hs.2.2.2
theorem repL_rows {S : Nat → Prop} {w : World} {g : Nat} {D : List ObW} (hg : g < w.heap.size) (hR : RowD w g D) (hr : ∀ x ∈ D, x.1.f.length ≤ x.2.2 ∧ x.2.2 ≤ maxLen ∧ RepL S w x.2.1 x.1.f) : RepL (fun b => b = g ∨ S b) w (some ⟨g, 0, none⟩) (D.map (·.1)) := fun _ => by
  refine ⟨g, 0, rfl, .inl rfl, hg, fun j hj => ?_⟩
  have hj' : j < D.length := by simpa using hj
  obtain ⟨c0, c1, c2⟩ := hR j hj'
  obtain ⟨r1, r2, r3⟩ := hr _ (List.getElem_mem hj')
  refine ⟨[.int .i64 D[j].1.id, .int .i64 D[j].1.t, .slice D[j].2.1 D[j].1.f.length D[j].2.2], ?_, fun i hi => ?_⟩
  · simp only [List.getElem_map]
    exact ⟨D[j].2.1, D[j].2.2, rfl, r1, r2, r3.mono fun b hb => .inr hb⟩
  · rw [Nat.zero_add]
    match i, hi with
    | 0, _ => exact c0
    | 1, _ => exact c1
    | 2, _ => exact c2
theorem del_own {S : Nat → Prop} {w : World} {gf : FuncId} {caps : Array Value} {p : Ob → Bool} {base k : Nat} {A : Option Addr} {cap : Nat} {l : List Ob} (h : RowO w base (.slice A l.length cap) k l) (hc : l.length ≤ cap) (hm : cap ≤ maxLen) (hrep : RepL S w A l) (hS : ∀ b, S b → b < w.heap.size) (hp : PredD Tryz.prog gf caps (Value.slice A l.length cap).ownBlock w p) :
    Calls Tryz.prog 30 #[.slice A l.length cap, .func (.func gf) #[] caps] w fun e w' =>
      e = .returned (.slice A (l.filter fun x => !p x).length cap) ∧ Kp (fun b => b < w.heap.size ∧ (Value.slice A l.length cap).ownBlock ≠ some b) w w' ∧ (l.filter fun x => !p x).length ≤ cap ∧ cap ≤ maxLen ∧ RepL S w' A (l.filter fun x => !p x) := by
  have hA : RepL (Bel w) w A l := hrep.mono hS
  rcases idxFrom_first p l 0 with ⟨_, hn⟩ | ⟨k0, hk0, _, h2, h3⟩
  · have hf : l.filter (fun x => !p x) = l := List.filter_eq_self.2 fun x hx => by rw [hn x hx]; rfl
    refine (del_none hc hm hA (hp.predC l) hn).mono ?_
    rintro e w' ⟨rfl, hb⟩
    rw [hf]
    exact ⟨rfl, Kp.of_below hb fun b h => h.1, hc, hm, RepL.keep hrep fun b h => hb.block b (hS b h)⟩
  · obtain ⟨g, rfl⟩ := h.addr (by omega)
    obtain ⟨cur, D, hB, hsz, hD, hrow, _, _, hx⟩ := h.rows hrep
    have hl : l.length = D.length := by rw [← hD, List.length_map]
    have hpd : PredD Tryz.prog gf caps (some g) w p := hp
    have e1 : l[k0] = (D[k0]'(by omega)).1 := by simp [← hD]
    have hfil : (D.filter fun x => !p x.1).map (·.1) = l.filter fun x => !p x := by rw [← hD, List.filter_map]; rfl
    have hcall := del_some (k0 := k0) hB hsz hrow (by omega) hm (by rw [hD]; exact hA) hpd (by omega) (by rw [← e1]; exact h2) (fun x hx => h3 _ (by rw [← hD, ← List.map_take]; exact List.mem_map_of_mem hx))
    rw [hl]
    refine hcall.mono ?_
    rintro e w' ⟨rfl, kp, hR⟩
    rw [show (D.filter fun x => !p x.1).length = (l.filter fun x => !p x).length by rw [← hfil, List.length_map]]
    refine ⟨rfl, kp.mono fun b hb => ⟨hb.1, fun e => hb.2 (by simp [Value.ownBlock, e])⟩, by have := List.length_filter_le (fun x => !p x) l; omega, hm, ?_⟩
    rw [← hfil]
    have hg := hB.lt
    have hSg : S g := by
      obtain ⟨b, off, e, hb, _⟩ := hrep (by intro e; simp [e] at hk0)
      simp only [Option.some.injEq, Addr.mk.injEq] at e
      obtain ⟨rfl, -, -⟩ := e
      exact hb
    refine (repL_rows (S := fun b => (b < w.heap.size ∧ b ≠ g) ∧ S b) (Nat.lt_of_lt_of_le hg kp.size) hR fun x hx' => ?_).mono fun b hb => ?_
    · obtain ⟨r1, r2, r3⟩ := hx x (List.mem_filter.1 hx').1
      exact ⟨r1, r2, RepL.keep r3 fun b hb => kp.block b hb.1⟩
    · rcases hb with rfl | hb
      · exact hSg
      · exact hb.2
/-! ### What is not come to. -/
set_option maxRecDepth 100000 in
set_option maxHeartbeats 4000000 in
theorem sweep1_Calls {W : World} {b3 : Nat} {v : Value} {base : Nat} {e3 : TypeId} {L : List Int} (hb : Blk W b3 #[v] 26) (own : OwnL (fun _ => False) W base e3 v L) (hL : L.length ≤ 1000) (hs : L.Pairwise (· ≤ ·)) (x : Ob) (F : Option Addr) (n c : Nat) :
    Calls Tryz.prog 31 #[.agg #[.int .i64 x.id, .int .i64 x.t, .slice F n c], .pointer (some ⟨b3, 0, none⟩)] W fun e w' => e = .returned (.bool (!L.contains x.id)) ∧ Below W.heap.size W w' := by
  have hz := hb.lt
  obtain ⟨c0, -⟩ := hb.one
  have Own := Lib.hid own
  have Hs := Lib.hid hs
  clear hb own hs
  go_enter Tryz.func31, Tryz.ntmps31
  go_wp2_with (go_at_call 32; refine (search_ints (Own.out.below (balloc (Below.refl _ _) _) (Nat.le_refl _) (fun _ h => h.elim)) hL Hs.out x.id).mono ?_; rintro e w2 ⟨⟨k, rfl⟩, q, rfl⟩)
  go_ret
  exact ⟨by simp, ((Kp.of_below (balloc (Below.refl _ _) _) fun b h => h).drewN q).below fun b h => h⟩
/-! ### The sweep. -/
def sweepM (g : Gr) : Gr := if grMay g then { g with o := g.o.filter fun x => (reachL g).contains x.id } else ⟨[], [], []⟩
/-- A graph that comes back. -/
def GrO (w : World) (e : Ending) (r : Gr) : Prop := ∃ As cs Ao co Ar cr, e = .returned (gv As cs Ao co Ar cr r) ∧ GOK w As cs Ao co Ar cr r
theorem reachL_sorted (g : Gr) : (reachL g).Pairwise (· ≤ ·) := by
  unfold reachL
  split
  · exact sortI_sorted _
  · exact List.Pairwise.nil
theorem reachL_len {g : Gr} (h : MayG g) : (reachL g).length ≤ 8 := by
  unfold reachL
  split
  · rw [sortI_len]
    have := (visFold (g := g) (g.o.length + 1) g.roots (v := []) ⟨List.nodup_nil, fun _ h => absurd h (List.not_mem_nil)⟩).1.len
    have := h.objs
    omega
  · simp
section
variable {w : World} {As : Option Addr} {cs : Nat} {Ao : Option Addr} {co : Nat} {Ar : Option Addr} {cr : Nat} {g : Gr}
set_option maxRecDepth 100000 in
set_option maxHeartbeats 4000000 in
theorem graph_Sweep (hg : GOK w As cs Ao co Ar cr g) (hf : Fit g) :
    Calls Tryz.prog 10 #[gv As cs Ao co Ar cr g] w fun e w' => Below w.heap.size w w' ∧ GrO w' e (sweepM g) := by
  have Hg := Lib.hid hg
  have Hf := Lib.hid hf
  clear hg hf
  go_enter Tryz.func10, Tryz.ntmps10
  go_wp2_with fail
  refine nameC fun W hW => ?_
  have bW : Below w.heap.size w W := by rw [hW]; exact balloc (balloc (Below.refl _ _) _) _
  have g1 : Blk W w.heap.size #[.slice As g.s.length cs, .slice Ao g.o.length co, .slice Ar g.roots.length cr] 28 := by rw [hW]; exact (Blk.new _ _ _).alloc _
  have g2 : Blk W (w.heap.size + 1) #[.slice none 0 0, .slice none 0 0, .slice none 0 0] 28 := by rw [hW]; exact Blk.new' (by simp) _ _
  clear hW
  refine (graph_May (Hg.out.below bW)).mono ?_
  rintro e w1 ⟨rfl, hb1⟩
  have b1 := bthen bW hb1
  have G1 := Lib.hid (g1.below hb1)
  have G2 := Lib.hid (g2.below hb1)
  have z2 := G2.out.lt
  clear g1 g2 bW hb1
  obtain ⟨c0, c1, c2, -⟩ := G1.out.three
  obtain ⟨d0, d1, d2, e0, e1, e2⟩ := G2.out.three
  cases hm : grMay g
  · have Hr := Lib.hid (show sweepM g = ⟨[], [], []⟩ by simp [sweepM, hm])
    clear hm
    go_wp2_with fail
    refine bodyPost_ret (v := gv none 0 none 0 none 0 ⟨[], [], []⟩) (by simp [results, Tryz.results10, go_sem, *]) rfl ?_
    rw [Hr.out]
    exact ⟨b1.trans ((set3 w1 (w.heap.size + 1) (.slice none 0 0) (.slice none 0 0) (.slice none 0 0)).below fun b hb => by omega), none, 0, none, 0, none, 0, rfl, ⟨Nat.le_refl _, Nat.zero_le _, RepL.nil, Nat.le_refl _, Nat.zero_le _, RepL.nil, Nat.le_refl _, Nat.zero_le _, RepL.nil⟩⟩
  · have Mg := Lib.hid (mayG hm)
    have Hr := Lib.hid (show sweepM g = { g with o := g.o.filter fun x => (reachL g).contains x.id } by simp [sweepM, hm])
    clear hm
    go_wp2_with fail
    refine (graph_Reach (Hg.out.below b1)).mono ?_
    rintro e w2 ⟨hb2, v, rfl, own2⟩
    obtain ⟨Av, cv, hv, -⟩ := own2.read (Nat.succ_pos _) (fun _ h => h.elim)
    subst hv
    have b2 := bthen b1 hb2
    have G1' := Lib.hid (G1.out.below hb2)
    have G2' := Lib.hid (G2.out.below hb2)
    have sz2 := hb2.size
    have Own2 := Lib.hid own2
    clear own2 hb2 d0 d1 d2 e0 e1 e2 c0 c1 c2 b1
    obtain ⟨c0, c1, c2, -⟩ := G1'.out.three
    have z1 := G1'.out.lt
    go_wp2_with fail
    refine nameC fun W3 hW => ?_
    have b23 : Below w2.heap.size w2 W3 := by rw [hW]; exact balloc (Below.refl _ _) _
    have x3 : Blk W3 w2.heap.size #[.slice Av (reachL g).length cv] 26 := by rw [hW]; exact Blk.new _ _ _
    clear hW c0 c1 c2
    refine (graph_own (Hg.out.below (bthen b2 b23)) Hf.out).mono ?_
    rintro e w4 ⟨hb4, As', cs', Ao', co', Ar', cr', rfl, own⟩
    have b24 := bthen b23 hb4
    have b4 := bthen b2 b24
    have X3 := Lib.hid (x3.below hb4)
    have z3 := x3.lt
    have sz4 := hb4.size
    have G2'' := Lib.hid (G2'.out.below b24)
    have G1'' := Lib.hid (G1'.out.below b24)
    have Own2' := Lib.hid (Own2.out.below b24 (Nat.le_refl _) (fun _ h => h.elim))
    have Own := Lib.hid own
    have zg2 := G2'.out.lt
    obtain ⟨c0, c1, c2, -⟩ := G1''.out.three
    clear own x3 b2 b23 hb4 b24
    go_wp2_with fail
    refine nameC fun W5 hW => ?_
    have b45 : Below w4.heap.size w4 W5 := by rw [hW]; exact balloc (Below.refl _ _) _
    have x5 : Blk W5 w4.heap.size #[.slice As' g.s.length cs', .slice Ao' g.o.length co', .slice Ar' g.roots.length cr'] 28 := by rw [hW]; exact Blk.new _ _ _
    clear hW c0 c1 c2
    obtain ⟨b1', b2', h1, h2, h3, h4, h5, h6, h7, h8⟩ := Own.out.row
    obtain ⟨_, _, k1, k2, k3, _, _, _, ⟨wo, k7, k8, k9, _⟩, _⟩ := Own.out.out
    have hob : ∀ b, (Value.slice Ao' g.o.length co').ownBlock = some b → W3.heap.size ≤ b ∧ b < w4.heap.size := fun b hb => ⟨by have := (h7.lt b hb).1; omega, (h7.lt b hb).2⟩
    have Hob := Lib.hid hob
    have row5 := h7.below b45
    have sz5 := b45.size
    have Own5 := Lib.hid (Own2'.out.below b45 (Nat.le_refl _) (fun _ h => h.elim))
    have X35 := Lib.hid (X3.out.below b45)
    have G25 := Lib.hid (G2''.out.below b45)
    have hown2 := Own2.out.base_le
    have hpd : PredD Tryz.prog 31 #[.pointer (some ⟨w2.heap.size, 0, none⟩)] (Value.slice Ao' g.o.length co').ownBlock W5 (fun x => !(reachL g).contains x.id) :=
      ⟨enters_of Tryz.func31 (by kernel_rfl) rfl, fun W x F n c k =>
        sweep1_Calls (X35.out.kp k ⟨by omega, fun e => by have := (Hob.out _ e).1; omega⟩) (Own5.out.kp k (fun b hb => ⟨by have := (hown2 b hb).2; omega, fun e => by have := (Hob.out _ e).1; have := (hown2 b hb).2; omega⟩) (fun _ h => h.elim)) (by have := reachL_len Mg.out; omega) (reachL_sorted g) x F n c⟩
    obtain ⟨q1, q2, q3⟩ := h7.done
    have dl := Lib.hid (del_own (S := fun b => b1' ≤ b ∧ b < w4.heap.size) row5 q1 q2 (RepL.keep q3 fun b hb => b45.block b hb.2) (fun b hb => by have := hb.2; omega) hpd)
    have X5 := Lib.hid x5
    have B45 := Lib.hid b45
    clear x5 b45 hob row5 hown2 hpd h7 h8 h6 k9 q1 q2 q3
    refine dl.out.mono ?_
    rintro e w6 ⟨rfl, kp6, l1, l2, l3⟩
    simp only [Bool.not_not] at l1 l3 ⊢
    have z5 := X5.out.lt
    have x6 := X5.out.kp kp6 ⟨z5, fun e => by have := (Hob.out _ e).2; omega⟩
    have g6 := G25.out.kp kp6 ⟨by omega, fun e => by have := (Hob.out _ e).1; omega⟩
    obtain ⟨c0, c1, c2, f0, f1, f2⟩ := x6.three
    obtain ⟨d0, d1, d2, e0, e1, e2⟩ := g6.three
    have z6 := x6.lt
    have Kp6 := Lib.hid kp6
    have L1 := Lib.hid l1
    have L3 := Lib.hid l3
    have hne : w4.heap.size ≠ w.heap.size + 1 := by omega
    clear x6 g6 l1 l3 kp6
    go_wp2_with fail
    have hfe : (g.o.filter fun x => decide (x.id ∈ reachL g)) = g.o.filter fun x => (reachL g).contains x.id := by congr 1; funext x; simp
    refine bodyPost_ret (v := .agg #[.slice As' g.s.length cs', .slice Ao' (g.o.filter fun x => decide (x.id ∈ reachL g)).length co', .slice Ar' g.roots.length cr']) (by simp [results, Tryz.results10, go_sem, *]) rfl ?_
    have kf := ((((Kp.refl (fun b => b ≠ w4.heap.size ∧ b ≠ w.heap.size + 1) w6).setCell (p := ⟨w4.heap.size, 1, none⟩) (fun h => h.1 rfl) (.slice Ao' (g.o.filter fun x => decide (x.id ∈ reachL g)).length co')).setCell (p := ⟨w.heap.size + 1, 0, none⟩) (fun h => h.2 rfl) (.slice As' g.s.length cs')).setCell (p := ⟨w.heap.size + 1, 1, none⟩) (fun h => h.2 rfl) (.slice Ao' (g.o.filter fun x => decide (x.id ∈ reachL g)).length co')).setCell (p := ⟨w.heap.size + 1, 2, none⟩) (fun h => h.2 rfl) (.slice Ar' g.roots.length cr')
    generalize (((w6.setCell _ _).setCell _ _).setCell _ _).setCell _ _ = wf at kf ⊢
    have ks := kf.size
    have k6s := Kp6.out.size
    have k46 : Kp (fun b => b < w4.heap.size ∧ (Value.slice Ao' g.o.length co').ownBlock ≠ some b) w4 w6 := (Kp.of_below B45.out fun b hb => hb.1).trans (Kp6.out.mono fun b hb => ⟨by omega, hb.2⟩)
    obtain ⟨b1, b2, i1, i2, i3, i4, i5, i6, ⟨wo, i7, i8, i9, i10⟩, i11⟩ := Own.out.out
    have hlt := i9.lt
    have k4f : Kp (fun b => b < w4.heap.size ∧ W3.heap.size ≤ b ∧ (Value.slice Ao' g.o.length co').ownBlock ≠ some b) w4 wf := (k46.mono fun b hb => ⟨hb.1, hb.2.2⟩).trans (kf.mono fun b hb => ⟨by omega, by omega⟩)
    refine ⟨b4.trans ((k46.below (B := w.heap.size) fun b hb => ⟨by omega, fun e => by have := (Hob.out _ e).1; omega⟩).trans (kf.below fun b hb => ⟨by omega, by omega⟩)), As', cs', Ao', co', Ar', cr', by rw [Hr.out, hfe], ?_⟩
    obtain ⟨A', c', he, r1, r2, r3⟩ := i11.read (Nat.succ_pos _) (fun _ h => h.elim)
    simp only [Value.slice.injEq] at he
    obtain ⟨rfl, -, rfl⟩ := he
    rw [Hr.out]
    refine ⟨i4, i5, (RepL.keep i6 fun b hb => k4f.block b ⟨by omega, hb.1, fun e => by have := (hlt b e).1; omega⟩).mono fun b hb => by show b < _; omega, L1.out, l2, (RepL.keep L3.out fun b hb => kf.block b ⟨?_, by omega⟩).mono fun b hb => by show b < _; omega, r1, r2, (RepL.keep r3 fun b hb => k4f.block b ⟨hb.1, ?_, ?_⟩).mono fun b hb => by show b < _; omega⟩
    · have := hb.2; omega
    · rcases hb.2 with h | h
      · omega
      · exact h.elim
    · intro e
      have := hlt b e
      rcases hb.2 with h | h
      · omega
      · exact h.elim
end
end Go.Proofs.YtgeegdnkheckcaaGreat
