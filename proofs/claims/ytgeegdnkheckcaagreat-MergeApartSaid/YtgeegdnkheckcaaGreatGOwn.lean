/- The walk of graph.own: a graph of its own. -/
import Derived.Test.YtgeegdnkheckcaaGreatOwnRow
set_option linter.unusedVariables false
namespace Go.Proofs.YtgeegdnkheckcaaGreat
open Lay (rep)
open Go.RowKit

/-- A graph that lies in memory of the call's own, from block base on: types, objects, roots, each in blocks behind the ones before. -/
structure OwnG (w : World) (base : Nat) (As : Option Addr) (cs : Nat) (Ao : Option Addr) (co : Nat) (Ar : Option Addr) (cr : Nat) (g : Gr) : Prop where
  out : ∃ b1 b2, base ≤ b1 ∧ b1 ≤ b2 ∧ b2 ≤ w.heap.size ∧ g.s.length ≤ cs ∧ cs ≤ maxLen ∧ RepL (fun b => base ≤ b ∧ b < b1) w As g.s ∧
    (∃ w1 : World, w1.heap.size ≤ b2 ∧ b1 ≤ w1.heap.size ∧ RowO w1 b1 (.slice Ao g.o.length co) g.o.length g.o ∧ ∀ b, b1 ≤ b → b < w1.heap.size → w.heap[b]? = w1.heap[b]?) ∧
    OwnL (fun _ => False) w b2 3 (.slice Ar g.roots.length cr) g.roots
/-- What a graph takes at most here. -/
structure Fit (g : Gr) : Prop where
  s : g.s.length ≤ 1000000
  sf : ∀ t ∈ g.s, t.f.length ≤ 1000000
  o : g.o.length ≤ 1000000
  of : ∀ x ∈ g.o, x.f.length ≤ 1000000
  r : g.roots.length ≤ 1000000
section
variable {w : World} {As : Option Addr} {cs : Nat} {Ao : Option Addr} {co : Nat} {Ar : Option Addr} {cr : Nat} {g : Gr}
theorem OwnG.row {base : Nat} (h : OwnG w base As cs Ao co Ar cr g) : ∃ b1 b2, base ≤ b1 ∧ b1 ≤ b2 ∧ b2 ≤ w.heap.size ∧ g.s.length ≤ cs ∧ cs ≤ maxLen ∧ RepL (fun b => base ≤ b ∧ b < b1) w As g.s ∧ RowO w b1 (.slice Ao g.o.length co) g.o.length g.o ∧ OwnL (fun _ => False) w b2 3 (.slice Ar g.roots.length cr) g.roots := by
  obtain ⟨b1, b2, h1, h2, h3, h4, h5, h6, ⟨w1, h7, h8, h9, h10⟩, h11⟩ := h.out
  exact ⟨b1, b2, h1, h2, h3, h4, h5, h6, h9.keep (by omega) fun b hb hb2 => h10 b (by rcases hb2 with h | h; exact h; omega) hb, h11⟩
theorem OwnG.gok {base : Nat} (h : OwnG w base As cs Ao co Ar cr g) : GOK w As cs Ao co Ar cr g := by
  obtain ⟨b1, b2, h1, h2, h3, h4, h5, h6, h7, h8⟩ := h.row
  obtain ⟨k1, k2, k3⟩ := h7.done
  obtain ⟨A', c', he, r1, r2, r3⟩ := h8.read (Nat.succ_pos _) (fun _ h => h.elim)
  simp only [Value.slice.injEq] at he
  obtain ⟨rfl, -, rfl⟩ := he
  exact ⟨h4, h5, h6.mono fun b hb => by show b < _; omega, k1, k2, k3.mono fun b hb => hb.2, r1, r2, r3.mono fun b hb => hb.1⟩

set_option maxRecDepth 100000 in
set_option maxHeartbeats 4000000 in
theorem graph_own (hg : GOK w As cs Ao co Ar cr g) (hf : Fit g) :
    Calls Tryz.prog 29 #[gv As cs Ao co Ar cr g] w fun e w' => Below w.heap.size w w' ∧ ∃ As' cs' Ao' co' Ar' cr', e = .returned (gv As' cs' Ao' co' Ar' cr' g) ∧ OwnG w' w.heap.size As' cs' Ao' co' Ar' cr' g := by
  have Hg := Lib.hid hg
  have Hf := Lib.hid hf
  have hs1 := hg.s1
  have hs2 := hg.s2
  have hfs := hf.s
  have hfo := hf.o
  have hfr := hf.r
  unfold maxLen at hs2
  clear hg hf
  go_enter Tryz.func29, Tryz.ntmps29
  go_wp2_with fail
  refine nameC fun W hW => ?_
  have bW : Below w.heap.size w W := by rw [hW]; exact balloc (balloc (Below.refl _ _) _) _
  have g1 : Blk W w.heap.size #[.slice As g.s.length cs, .slice Ao g.o.length co, .slice Ar g.roots.length cr] 28 := by rw [hW]; exact (Blk.new _ _ _).alloc _
  have g2 : Blk W (w.heap.size + 1) #[.slice none 0 0, .slice none 0 0, .slice none 0 0] 28 := by rw [hW]; exact Blk.new' (by simp) _ _
  clear hW
  refine (clone_Type (S := Bel w) Hg.out.s1 Hg.out.s2 (RepL.keep Hg.out.s fun b hb => bW.block b hb) (fun b hb => Nat.lt_of_lt_of_le hb bW.size) (by omega)).mono ?_
  rintro e w1 ⟨v, rfl, hb1, own⟩
  obtain ⟨A1, cap, rfl, hcap1, hcap2, -⟩ := own.read (Nat.succ_pos _) (fun b hb => Nat.lt_of_lt_of_le hb (bthen bW hb1).size)
  have b1 := bthen bW hb1
  have g1' := g1.below hb1
  have g2' := g2.below hb1
  have hWs : w.heap.size + 2 ≤ W.heap.size := by have := g2.lt; omega
  have sz1 := hb1.size
  obtain ⟨c0, c1, c2, f0, f1, f2⟩ := g1'.three
  have z1 := g1'.lt
  have G1 := Lib.hid g1'
  have G2 := Lib.hid g2'
  have Own := Lib.hid own
  unfold maxLen at hcap2
  clear g1 g2 g1' g2' own bW hb1
  go_wp2_with fail
  refine nameW fun W2 hW => ?_
  have kz : Kp (fun b => b ≠ w.heap.size) w1 W2 := by rw [hW]; exact (Kp.refl _ _).setCell (fun e => e rfl) _
  have b2 : Below w.heap.size w W2 := b1.trans (kz.below fun b hb => by omega)
  have t1 : Blk W2 w.heap.size #[.slice A1 g.s.length cap, .slice Ao g.o.length co, .slice Ar g.roots.length cr] 28 := by rw [hW]; exact G1.out.set 0 _
  have t2 : Blk W2 (w.heap.size + 1) #[.slice none 0 0, .slice none 0 0, .slice none 0 0] 28 := by rw [hW]; exact G2.out.set_ne (by simp) _
  have own2 := Own.out.kp kz (fun b hb => by have := (Own.out.base_le b hb).1; omega) (fun b (hb : b < w.heap.size) => by omega)
  have row := Lib.hid (RowT.start (base2 := W.heap.size) own2 (fun b (hb : b < w.heap.size) => ⟨by omega, by have := b2.size; omega⟩))
  have T1 := Lib.hid t1
  have T2 := Lib.hid t2
  have B2 := Lib.hid b2
  have zs2 : w1.heap.size ≤ W2.heap.size := kz.size
  clear hW kz b2 t1 t2 own2 c0 c1 c2 f0 f1 f2 b1
  have hk5 : g.s.length ≤ cap := hcap1
  go_loopw [17] (fun i wr => ∃ k : Nat, k ≤ g.s.length ∧ i = .int .i64 k ∧ Kp (fun b => b < W2.heap.size ∧ A1 ≠ some ⟨b, 0, none⟩) W2 wr ∧ RowT wr W.heap.size W.heap.size (.slice A1 g.s.length cap) k g.s) (fun i _ => g.s.length - (intOf i).toNat)
  case atStart => exact ⟨0, by omega, rfl, Kp.refl _ _, row.out⟩
  case round =>
    obtain ⟨k, hk, rfl, kp, rw'⟩ := hrel
    have Kpp := Lib.hid kp
    have Row := Lib.hid rw'
    have szw := kp.size
    by_cases hlt : k < g.s.length
    · obtain ⟨gb, rfl⟩ := rw'.addr (by omega)
      have hgb := (rw'.cells k hlt).2.2.2
      have t1 := T1.out.kp kp ⟨by omega, fun e => by simp only [Option.some.injEq, Addr.mk.injEq, and_true] at e; omega⟩
      have zt1 := t1.lt
      obtain ⟨c0, c1, c2, f0, f1, f2⟩ := t1.three
      clear kp rw' t1
      obtain ⟨⟨F, c, q0, q1, hF1, hF2, hF3⟩, fr, zg, _⟩ := Row.out.cells k hlt
      have ht5 := Hf.out.sf _ (List.getElem_mem hlt)
      have Hst := Lib.hid (fun (wx : World) (h : RowT wx W.heap.size W.heap.size (.slice (some ⟨gb, 0, none⟩) g.s.length cap) k g.s) (F : Option Addr) (c : Nat) => h.set (g := gb) (cap := cap) hlt (F := F) (c := c))
      generalize g.s[k] = t at *
      have HF3 := Lib.hid hF3
      have hk0 : (0 : Int) ≤ (k : Int) := Int.natCast_nonneg _
      have hk1 : (k : Int) < (g.s.length : Int) := by omega
      clear hF3 c1 c2 f1 f2 f0
      go_wp2_with fail
      refine nameW fun W3 hW => ?_
      have b3 : Below wr.heap.size wr W3 := by rw [hW]; exact balloc (Below.refl _ _) _
      have x3 : Blk W3 wr.heap.size #[.string t.name, .slice F t.f.length c] 90 := by rw [hW]; exact Blk.new _ _ _
      have HF4 := Lib.hid (RepL.keep HF3.out fun q hq => b3.block q hq.1)
      have R3 := Lib.hid (Row.out.below b3)
      have K3 := Lib.hid (Kpp.out.call b3 (fun b hb => hb.1))
      replace c0 := keep1 b3 c0
      have fr3 : W3.frozen? ⟨gb, k * 2 + 1, none⟩ = false := ((bcell b3).2 gb _ zg).trans fr
      obtain ⟨x0, x1, -, -⟩ := x3.two
      have zx := x3.lt
      have hb0 : Below W3.heap.size W3 W3.drew := (Below.refl _ _).drew
      have sz3 := b3.size
      replace q1 := keep1 b3 q1
      clear hW q0 fr x3 b3
      have HF5 := Lib.hid (show RepL (fun b => b < wr.heap.size ∧ b ≠ gb) W3.drew F t.f from RepL.keep HF4.out fun _ _ => rfl)
      have hne1 : w.heap.size ≠ gb := by omega
      have hne2 : wr.heap.size ≠ gb := by omega
      go_region_held3 (fun w' => w'.cell? ⟨w.heap.size, 0, none⟩ = some (.slice (some ⟨gb, 0, none⟩) g.s.length cap) ∧ w'.cell? ⟨wr.heap.size, 1, none⟩ = some (.slice F t.f.length c))
        (first | exact ⟨c0, x1⟩ | exact ⟨keep1 hb6 c0, keep1 hb6 x1⟩ | exact ⟨Kp.cell kz hne1 (keep1 hb6 c0), Kp.cell kz hne2 (keep1 hb6 x1)⟩ | exact ⟨Kp.cell ((Kp.refl (fun b => b ≠ gb) _).setCell (fun e => e rfl) _) hne1 (keep1 hb6 c0), Kp.cell ((Kp.refl (fun b => b ≠ gb) _).setCell (fun e => e rfl) _) hne2 (keep1 hb6 x1)⟩)
        (first | (go_at_call 50; refine (clone_Field (S := fun b => b < wr.heap.size ∧ b ≠ gb) hF1 hF2 HF5.out (fun b hb => by have := hb.1; have := hb0.size; omega) (by omega)).mono ?_; intro e w6 hv; obtain ⟨F6, c6, rfl, hb6', v1, v2, v3⟩ := hv.valF; have hb6 := below_drew hb6'; have V3 := Lib.hid v3; clear v3; have fr6 : w6.frozen? ⟨gb, k * 2 + 1, none⟩ = false := ((bcell hb6).2 gb _ (by omega)).trans fr3; have q16 := keep1 hb6 q1; have zg6 : gb < w6.heap.size := block_lt q16))
      have R6 := R3.out.below hb6
      have R7 := Hst.out w6 R6 F6 c6 v1 v2 (V3.out.mono fun q hq => ⟨hq.2, by have : W3.heap.size ≤ q := hq.1; omega, by have : W3.heap.size ≤ q := hq.1; omega⟩)
      have R8 := Lib.hid R7
      have K6 := Lib.hid (K3.out.call hb6 (fun b hb => hb.1))
      clear R6 R7
      go_wp2_with fail
      go_roundw
      case rel => exact ⟨k + 1, by omega, by go_num, K6.out.setCell (fun e => e.2 rfl) _, R8.out⟩
      case measure => simp [intOf]; omega
    · obtain rfl : k = g.s.length := by omega
      obtain ⟨wo, rfl⟩ : ∃ wo : World, wo = wr := ⟨_, rfl⟩
      have hA1 : ∀ b, b < W.heap.size → A1 ≠ some ⟨b, 0, none⟩ := fun b hb e => by
        subst e
        obtain ⟨xs, hx, _⟩ := rw'.out
        have := (hx.lt b rfl).1
        omega
      have G1o := Lib.hid (T1.out.kp kp ⟨by omega, hA1 _ (by omega)⟩)
      have G2o := Lib.hid (T2.out.kp kp ⟨by omega, hA1 _ (by omega)⟩)
      have Bwo := Lib.hid (B2.out.trans (kp.below fun b hb => ⟨by have := B2.out.size; omega, hA1 b (by omega)⟩))
      have Hd := Lib.hid (rw'.doneA (Nat.le_refl _))
      obtain ⟨c0, c1, c2, f0, f1, f2⟩ := G1o.out.three
      have zwo := G2o.out.lt
      clear kp rw' hlt hk hA1
      go_wp2_with fail
      refine (clone_Obj (S := Bel w) Hg.out.o1 Hg.out.o2 (RepL.keep Hg.out.o fun b hb => Bwo.out.block b hb) (fun b hb => Nat.lt_of_lt_of_le hb Bwo.out.size) (by omega)).mono ?_
      rintro e w4 ⟨v, rfl, hb4, own⟩
      obtain ⟨A4, cap4, rfl, hcap4, hcap5, -⟩ := own.read (Nat.succ_pos _) (fun b hb => Nat.lt_of_lt_of_le hb (bthen Bwo.out hb4).size)
      have b4 := bthen Bwo.out hb4
      have sz4 := hb4.size
      have g1' := G1o.out.below hb4
      have g2' := G2o.out.below hb4
      clear c0 c1 c2 f0 f1 f2
      obtain ⟨c0, c1, c2, f0, f1, f2⟩ := g1'.three
      have z4 := g2'.lt
      have G14 := Lib.hid g1'
      have G24 := Lib.hid g2'
      have Own4 := Lib.hid own
      have Hd4 := Lib.hid (RepL.keep Hd.out fun b hb => hb4.block b hb.2)
      unfold maxLen at hcap5
      clear g1' g2' own hb4
      go_wp2_with fail
      refine nameW fun W5 hW => ?_
      have kz : Kp (fun b => b ≠ w.heap.size) w4 W5 := by rw [hW]; exact (Kp.refl _ _).setCell (fun e => e rfl) _
      have b5 : Below w.heap.size w W5 := b4.trans (kz.below fun b hb => by omega)
      have t1 : Blk W5 w.heap.size #[.slice A1 g.s.length cap, .slice A4 g.o.length cap4, .slice Ar g.roots.length cr] 28 := by rw [hW]; exact G14.out.set 1 _
      have t2 : Blk W5 (w.heap.size + 1) #[.slice none 0 0, .slice none 0 0, .slice none 0 0] 28 := by rw [hW]; exact G24.out.set_ne (by simp) _
      have own5 := Own4.out.kp kz (fun b hb => by have := (Own4.out.base_le b hb).1; omega) (fun b (hb : b < w.heap.size) => by omega)
      have row5 := Lib.hid (RowO.start own5 (fun b (hb : b < w.heap.size) => ⟨by omega, by have := b5.size; omega⟩))
      have Hd5 := Lib.hid (RepL.keep Hd4.out fun b hb => kz.block b (by have := hb.1; omega))
      have T15 := Lib.hid t1
      have T25 := Lib.hid t2
      have B5 := Lib.hid b5
      have zs5 : w4.heap.size ≤ W5.heap.size := kz.size
      clear hW kz b5 t1 t2 own5 c0 c1 c2 f0 f1 f2 b4
      have hk6 : g.o.length ≤ cap4 := hcap4
      go_loopw [39] (fun i wr => ∃ k : Nat, k ≤ g.o.length ∧ i = .int .i64 k ∧ Kp (fun b => b < W5.heap.size ∧ A4 ≠ some ⟨b, 0, none⟩) W5 wr ∧ RowO wr wo.heap.size (.slice A4 g.o.length cap4) k g.o) (fun i _ => g.o.length - (intOf i).toNat)
      case atStart => exact ⟨0, by omega, rfl, Kp.refl _ _, row5.out⟩
      case round =>
        obtain ⟨k, hk, rfl, kp, rw'⟩ := hrel
        have Kpp := Lib.hid kp
        have Row := Lib.hid rw'
        have szw := kp.size
        by_cases hlt : k < g.o.length
        · obtain ⟨gb, rfl⟩ := rw'.addr (by omega)
          have hgb := (rw'.cells k hlt).2.2.2
          have t1 := T15.out.kp kp ⟨by omega, fun e => by simp only [Option.some.injEq, Addr.mk.injEq, and_true] at e; omega⟩
          have zt1 := t1.lt
          obtain ⟨c0, c1, c2, f0, f1, f2⟩ := t1.three
          clear kp rw' t1
          obtain ⟨⟨F, c, q0, q1, q2, hF1, hF2, hF3⟩, fr, zg, _⟩ := Row.out.cells k hlt
          have ht5 := Hf.out.of _ (List.getElem_mem hlt)
          have Hst := Lib.hid (fun (w0 w6 : World) (h : RowO w0 wo.heap.size (.slice (some ⟨gb, 0, none⟩) g.o.length cap4) k g.o) (hb : Below w0.heap.size w0 w6) (F : Option Addr) (c : Nat) => h.next (g := gb) (cap := cap4) hb hlt (F := F) (c := c))
          generalize g.o[k] = x at *
          have HF3 := Lib.hid hF3
          have hk0 : (0 : Int) ≤ (k : Int) := Int.natCast_nonneg _
          have hk1 : (k : Int) < (g.o.length : Int) := by omega
          clear hF3 c0 c2 f1 f2 f0
          go_wp2_with fail
          refine nameW fun W6 hW => ?_
          have b6 : Below wr.heap.size wr W6 := by rw [hW]; exact balloc (Below.refl _ _) _
          have x6 : Blk W6 wr.heap.size #[.int .i64 x.id, .int .i64 x.t, .slice F x.f.length c] 45 := by rw [hW]; exact Blk.new _ _ _
          have HF4 := Lib.hid (RepL.keep HF3.out fun q hq => b6.block q hq.1)
          have R6 := Lib.hid (Row.out.below b6)
          have K6 := Lib.hid (Kpp.out.call b6 (fun b hb => hb.1))
          replace c1 := keep1 b6 c1
          have fr6 : W6.frozen? ⟨gb, k * 3 + 2, none⟩ = false := ((bcell b6).2 gb _ zg).trans fr
          obtain ⟨x0, x1, x2, -⟩ := x6.three
          have zx := x6.lt
          have hb0 : Below W6.heap.size W6 W6.drew := (Below.refl _ _).drew
          have sz6 := b6.size
          replace q2 := keep1 b6 q2
          clear hW q0 q1 fr x6 b6 x0 x1
          have HF5 := Lib.hid (show RepL (fun b => b < wr.heap.size ∧ b ≠ gb) W6.drew F x.f from RepL.keep HF4.out fun _ _ => rfl)
          have hne1 : w.heap.size ≠ gb := by omega
          have hne2 : wr.heap.size ≠ gb := by omega
          go_region_held3 (fun w' => w'.cell? ⟨w.heap.size, 1, none⟩ = some (.slice (some ⟨gb, 0, none⟩) g.o.length cap4) ∧ w'.cell? ⟨wr.heap.size, 2, none⟩ = some (.slice F x.f.length c))
            (first | exact ⟨c1, x2⟩ | exact ⟨keep1 hb7 c1, keep1 hb7 x2⟩ | exact ⟨Kp.cell kz hne1 (keep1 hb7 c1), Kp.cell kz hne2 (keep1 hb7 x2)⟩ | exact ⟨Kp.cell ((Kp.refl (fun b => b ≠ gb) _).setCell (fun e => e rfl) _) hne1 (keep1 hb7 c1), Kp.cell ((Kp.refl (fun b => b ≠ gb) _).setCell (fun e => e rfl) _) hne2 (keep1 hb7 x2)⟩)
            (first | (go_at_call 59; refine (clone_Val (S := fun b => b < wr.heap.size ∧ b ≠ gb) hF1 hF2 HF5.out (fun b hb => by have := hb.1; have := hb0.size; omega) (by omega)).mono ?_; intro e w7 hv; obtain ⟨v7, rfl, hb7', own7⟩ := hv; obtain ⟨F7, c7, rfl, v1, v2, -⟩ := own7.flatV.readB; have hb7 := below_drew hb7'; have Own7 := Lib.hid own7.flatV; clear own7; have fr7 : w7.frozen? ⟨gb, k * 3 + 2, none⟩ = false := ((bcell hb7).2 gb _ (by omega)).trans fr6; have q27 := keep1 hb7 q2; have zg7 : gb < w7.heap.size := block_lt q27))
          have R8 := Lib.hid (Hst.out W6 w7 R6.out hb7 F7 c7 Own7.out)
          have K7 := Lib.hid (K6.out.call hb7 (fun b hb => hb.1))
          go_wp2_with fail
          go_roundw
          case rel => exact ⟨k + 1, by omega, by go_num, K7.out.setCell (fun e => e.2 rfl) _, R8.out⟩
          case measure => simp [intOf]; omega
        · obtain rfl : k = g.o.length := by omega
          have hA4 : ∀ b, b < wo.heap.size → A4 ≠ some ⟨b, 0, none⟩ := fun b hb e => by
            subst e
            have := (rw'.lt b rfl).1
            omega
          have G1r := Lib.hid (T15.out.kp kp ⟨by omega, hA4 _ (by omega)⟩)
          have G2r := Lib.hid (T25.out.kp kp ⟨by omega, hA4 _ (by omega)⟩)
          have Bwr := Lib.hid (B5.out.trans (kp.below fun b hb => ⟨by have := B5.out.size; omega, hA4 b (by have := Bwo.out.size; omega)⟩))
          have Hdr := Lib.hid (RepL.keep Hd5.out fun b hb => kp.block b ⟨by have := hb.2; omega, hA4 b hb.2⟩)
          obtain ⟨c0, c1, c2, f0, f1, f2⟩ := G1r.out.three
          have zwr := G2r.out.lt
          clear kp rw' hlt hk hA4
          go_wp2_with fail
          refine (clone_int (S := Bel w) Hg.out.r1 Hg.out.r2 (RepL.keep Hg.out.r fun b hb => Bwr.out.block b hb) (fun b hb => Nat.lt_of_lt_of_le hb Bwr.out.size) (by omega)).mono ?_
          rintro e w8 ⟨v, rfl, hb8, own⟩
          have own8 : OwnL (fun _ => False) w8 wr.heap.size 3 v g.roots := ⟨own.out⟩
          obtain ⟨A8, cap8, rfl, hcap8, hcap9, -⟩ := own8.read (Nat.succ_pos _) (fun _ h => h.elim)
          have g1' := G1r.out.below hb8
          have g2' := G2r.out.below hb8
          have sz8 := hb8.size
          clear c0 c1 c2 f0 f1 f2
          obtain ⟨c0, c1, c2, f0, f1, f2⟩ := g1'.three
          obtain ⟨d0, d1, d2, e0, e1, e2⟩ := g2'.three
          have z8 := g2'.lt
          have Own8 := Lib.hid own8
          have B8 := Lib.hid (bthen Bwr.out hb8)
          have Hb8 := Lib.hid hb8
          clear g1' g2' own own8 hb8
          go_wp2_with fail
          refine bodyPost_ret (v := .agg #[.slice A1 g.s.length cap, .slice A4 g.o.length cap4, .slice A8 g.roots.length cap8]) (by simp [results, Tryz.results29, go_sem, *]) rfl ?_
          have kf : Kp (fun b => b ≠ w.heap.size ∧ b ≠ w.heap.size + 1) w8 ((((w8.setCell ⟨w.heap.size, 2, none⟩ (.slice A8 g.roots.length cap8)).setCell ⟨w.heap.size + 1, 0, none⟩ (.slice A1 g.s.length cap)).setCell ⟨w.heap.size + 1, 1, none⟩ (.slice A4 g.o.length cap4)).setCell ⟨w.heap.size + 1, 2, none⟩ (.slice A8 g.roots.length cap8)) :=
            ((Kp.refl _ _).setCell (fun e => e.1 rfl) _).trans ((set3 _ _ _ _ _).mono fun b hb => hb.2)
          have szf := kf.size
          have hwz := Bwr.out.size
          refine ⟨B8.out.trans (kf.below fun b hb => by omega), A1, cap, A4, cap4, A8, cap8, rfl, wo.heap.size, wr.heap.size, by omega, by omega, by omega, hcap1, by unfold maxLen; exact hcap2, ?_, ⟨wr, Nat.le_refl _, by omega, Row.out, fun b h1 h2 => (kf.block b (by omega)).trans (Hb8.out.block b h2)⟩, Own8.out.kp kf (fun b hb => by have := (Own8.out.base_le b hb).1; omega) (fun _ h => h.elim)⟩
          exact (RepL.keep Hdr.out fun b hb => (kf.block b (by have := hb.1; omega)).trans (Hb8.out.block b (by have := hb.2; omega))).mono fun b hb => by have := hb.1; have := hb.2; omega
end
end Go.Proofs.YtgeegdnkheckcaaGreat
