/- The walk of merge's schema: types of its own. -/
import Derived.Test.YtgeegdnkheckcaaGreatClash
set_option linter.unusedVariables false
namespace Go.Proofs.YtgeegdnkheckcaaGreat
open Lay (rep)
open Go.RowKit

/-- A row of types of the call's own, whose first k fields' lists are the call's own too. -/
structure RowT (w : World) (base base2 : Nat) (v : Value) (k : Nat) (s : List Typ) : Prop where
  out : ∃ xs, w.ownsRow base 90 2 v s.length xs ∧ ∀ j (h : j < s.length), ∃ F c, xs[j * 2]? = some (.string s[j].name) ∧ xs[j * 2 + 1]? = some (.slice F s[j].f.length c) ∧ s[j].f.length ≤ c ∧ c ≤ maxLen ∧
    RepL (fun b => b < w.heap.size ∧ v.ownBlock ≠ some b ∧ (j < k → base2 ≤ b)) w F s[j].f ∧ s[j].name.size ≤ maxLen
theorem take2 {xs : List Value} {j : Nat} {u v : Value} (h : (xs.drop (j * 2)).take 2 = [u, v]) : xs[j * 2]? = some u ∧ xs[j * 2 + 1]? = some v := by
  have h0 : ((xs.drop (j * 2)).take 2)[0]? = some u := by rw [h]; rfl
  have h1 : ((xs.drop (j * 2)).take 2)[1]? = some v := by rw [h]; rfl
  rw [List.getElem?_take, if_pos (by omega), List.getElem?_drop] at h0 h1
  exact ⟨h0, h1⟩
section
variable {w w' : World} {base base2 : Nat} {v : Value} {k : Nat} {s : List Typ}
theorem RowT.start {S : Nat → Prop} (h : OwnL S w base 90 v s) (hS : ∀ b, S b → b < base ∧ b < w.heap.size) : RowT w base base2 v 0 s := by
  have hb := h.base_le
  obtain ⟨xs, hx, hr⟩ := h.out
  refine ⟨xs, hx, fun j hj => ?_⟩
  obtain ⟨F, c, h1, h2, h3, h4⟩ := hr j hj
  obtain ⟨h5, h6⟩ := take2 h1
  exact ⟨F, c, h5, h6, h2, h3, h4.1.mono fun b hb' => ⟨(hS b hb').2, fun e => by have := (hb b e).1; have := (hS b hb').1; omega, fun h => absurd h (by omega)⟩, h4.2⟩
theorem RowT.below (h : RowT w base base2 v k s) (hb : Below w.heap.size w w') : RowT w' base base2 v k s := by
  obtain ⟨xs, hx, hr⟩ := h.out
  have hlt := hx.lt
  refine ⟨xs, ?_, fun j hj => ?_⟩
  · rcases hx.2 with ⟨rfl, h0⟩ | ⟨g, cap, cur, rfl, h1, h2, h3⟩
    · exact ⟨hx.1, .inl ⟨rfl, h0⟩⟩
    · exact ⟨hx.1, .inr ⟨g, cap, cur, rfl, h1, (hb.block g (hlt g rfl).2).trans h2, h3⟩⟩
  · obtain ⟨F, c, h1, h2, h3, h4, h5, h6⟩ := hr j hj
    exact ⟨F, c, h1, h2, h3, h4, (RepL.keep h5 fun q hq => hb.block q hq.1).mono fun q hq => ⟨Nat.lt_of_lt_of_le hq.1 hb.size, hq.2⟩, h6⟩
theorem RowT.cells {g cap : Nat} (h : RowT w base base2 (.slice (some ⟨g, 0, none⟩) s.length cap) k s) (j : Nat) (hj : j < s.length) :
    (∃ F c, w.cell? ⟨g, j * 2, none⟩ = some (.string s[j].name) ∧ w.cell? ⟨g, j * 2 + 1, none⟩ = some (.slice F s[j].f.length c) ∧ s[j].f.length ≤ c ∧ c ≤ maxLen ∧ RepL (fun b => b < w.heap.size ∧ b ≠ g) w F s[j].f) ∧ w.frozen? ⟨g, j * 2 + 1, none⟩ = false ∧ g < w.heap.size ∧ base ≤ g := by
  obtain ⟨xs, hx, hr⟩ := h.out
  obtain ⟨F, c, h1, h2, h3, h4, h5, h6⟩ := hr j hj
  exact ⟨⟨F, c, by rw [hx.cellAt _ (by omega), h1], by rw [hx.cellAt _ (by omega), h2], h3, h4, h5.mono fun b hb => ⟨hb.1, fun e => hb.2.1 (by rw [e]; rfl)⟩⟩, hx.frozenAt _, (hx.lt g rfl).2, (hx.lt g rfl).1⟩
theorem RowT.set {g cap : Nat} (h : RowT w base base2 (.slice (some ⟨g, 0, none⟩) s.length cap) k s) (hk : k < s.length) {F : Option Addr} {c : Nat} (h1 : s[k].f.length ≤ c) (h2 : c ≤ maxLen) (h3 : RepL (fun b => b < w.heap.size ∧ b ≠ g ∧ base2 ≤ b) w F s[k].f) :
    RowT (w.setCell ⟨g, k * 2 + 1, none⟩ (.slice F s[k].f.length c)) base base2 (.slice (some ⟨g, 0, none⟩) s.length cap) (k + 1) s := by
  obtain ⟨xs, hx, hr⟩ := h.out
  have hst := hx.stored (k * 2 + 1) (.slice F s[k].f.length c)
  have kz : Kp (fun b => b ≠ g) w (w.setCell ⟨g, k * 2 + 1, none⟩ (.slice F s[k].f.length c)) := (Kp.refl _ _).setCell (fun e => e rfl) _
  refine ⟨_, hst.1, fun j hj => ?_⟩
  obtain ⟨F', c', g1, g2, g3, g4, g5, g6⟩ := hr j hj
  have hlen : xs.length = s.length * 2 := hx.1
  by_cases hjk : j = k
  · subst hjk
    refine ⟨F, c, by rw [List.getElem?_set_ne (by omega)]; exact g1, by rw [List.getElem?_set_self (by omega)], h1, h2, (RepL.keep h3 fun q hq => kz.block q hq.2.1).mono fun q hq => ⟨Nat.lt_of_lt_of_le hq.1 kz.size, fun e => hq.2.1 (by simpa [Value.ownBlock] using e.symm), fun _ => hq.2.2⟩, g6⟩
  · refine ⟨F', c', by rw [List.getElem?_set_ne (by omega)]; exact g1, by rw [List.getElem?_set_ne (by omega)]; exact g2, g3, g4, (RepL.keep g5 fun q hq => kz.block q (fun e => hq.2.1 (by rw [e]; rfl))).mono fun q hq => ⟨Nat.lt_of_lt_of_le hq.1 kz.size, hq.2.1, fun h => hq.2.2 (by omega)⟩, g6⟩
theorem RowT.done {A : Option Addr} {n c : Nat} (h : RowT w base base2 (.slice A n c) s.length s) (hb : base2 ≤ base) : RepL (fun b => base2 ≤ b ∧ b < w.heap.size) w A s := by
  obtain ⟨xs, hx, hr⟩ := h.out
  have own : OwnL (fun b => base2 ≤ b ∧ b < w.heap.size) w base 90 (.slice A n c) s := ⟨xs, hx, fun j hj => by
    obtain ⟨F', c', g1, g2, g3, g4, g5, g6⟩ := hr j hj
    refine ⟨F', c', ?_, g3, g4, g5.mono fun q hq => ⟨hq.2.2 hj, hq.1⟩, g6⟩
    have hlen : xs.length = s.length * 2 := hx.1
    show (xs.drop (j * 2)).take 2 = _
    apply List.ext_getElem?
    intro i
    rw [List.getElem?_take]
    split
    · rename_i hi
      rw [List.getElem?_drop]
      have hi' : i = 0 ∨ i = 1 := by omega
      rcases hi' with rfl | rfl
      · simpa using g1
      · simpa using g2
    · rename_i hi
      rw [List.getElem?_eq_none (by simp; omega)]⟩
  obtain ⟨A', c', he, _, _, hrep⟩ := own.read (Nat.succ_pos _) (fun b hb => hb.2)
  simp only [Value.slice.injEq] at he
  obtain ⟨rfl, -, -⟩ := he
  exact hrep.mono fun b hq => ⟨by rcases hq.2 with h | h; omega; exact h.1, hq.1⟩
end
theorem OwnL.flatF {S : Nat → Prop} {w : World} {base : Nat} {e : TypeId} {v : Value} {l : List Fld} (h : OwnL S w base e v l) : OwnL (fun _ => False) w base e v l := ⟨h.out⟩
theorem CloneV.valF {S : Nat → Prop} {w w' : World} {t : TypeId} {e : Ending} {l : List Fld} (h : CloneV S w w' t e l) :
    ∃ F c, e = .returned (.slice F l.length c) ∧ Below w.heap.size w w' ∧ l.length ≤ c ∧ c ≤ maxLen ∧ RepL (fun b => w.heap.size ≤ b ∧ b < w'.heap.size) w' F l := by
  obtain ⟨v, rfl, hb, own⟩ := h
  obtain ⟨F, c, rfl, h1, h2, h3⟩ := own.flatF.read (Nat.succ_pos _) (fun _ h => h.elim)
  exact ⟨F, c, rfl, hb, h1, h2, h3.mono fun b hb => ⟨by rcases hb.2 with h | h; exact h; exact h.elim, hb.1⟩⟩
section
variable {w : World} {As : Option Addr} {cs : Nat} {s : List Typ}
set_option maxRecDepth 100000 in
set_option maxHeartbeats 4000000 in
theorem merge_schema (h1 : s.length ≤ cs) (h2 : cs ≤ maxLen) (h3 : RepL (Bel w) w As s) (h4 : s.length ≤ 4) (h5 : s ≠ []) (h6 : ∀ t ∈ s, t.f.length ≤ 5) :
    Calls Tryz.prog 22 #[.agg #[.slice As s.length cs]] w fun e w' => Below w.heap.size w w' ∧ ∃ A c, e = .returned (.agg #[.slice A s.length c]) ∧ s.length ≤ c ∧ c ≤ maxLen ∧ RepL (fun b => w.heap.size ≤ b ∧ b < w'.heap.size) w' A s := by
  have H3 := Lib.hid h3
  have H5 := Lib.hid h5
  have H6 := Lib.hid h6
  clear h3 h5 h6
  unfold maxLen at h2
  go_enter Tryz.func22, Tryz.ntmps22
  go_wp2_with fail
  refine nameC fun W hW => ?_
  have bW : Below w.heap.size w W := by rw [hW]; exact balloc (balloc (Below.refl _ _) _) _
  have g1 : Blk W w.heap.size #[.slice As s.length cs] 24 := by rw [hW]; exact (Blk.new _ _ _).alloc _
  have g2 : Blk W (w.heap.size + 1) #[.slice none 0 0] 24 := by rw [hW]; exact Blk.new' (by simp) _ _
  clear hW
  have h3W := RepL.keep H3.out fun b hb => bW.block b hb
  refine (clone_Type (S := Bel w) h1 (by unfold maxLen; exact h2) h3W (fun b hb => Nat.lt_of_lt_of_le hb bW.size) (by omega)).mono ?_
  rintro e w1 ⟨v, rfl, hb1, own⟩
  obtain ⟨g, cap, rfl, hcap1, hcap2⟩ : ∃ g cap, v = .slice (some ⟨g, 0, none⟩) s.length cap ∧ s.length ≤ cap ∧ cap ≤ maxLen := by
    obtain ⟨xs, hx, _⟩ := own.out
    rcases hx.2 with ⟨_, h0⟩ | ⟨g, cap, cur, he, _, _, h7, h8, _⟩
    · exact absurd (List.length_eq_zero_iff.1 h0) H5.out
    · exact ⟨g, cap, he, h7, h8⟩
  have hg := own.base_le g rfl
  have b1 := bthen bW hb1
  have g1' := g1.below hb1
  have g2' := g2.below hb1
  have z1 := g1'.lt
  have z2 := g2'.lt
  have hWs : w.heap.size + 2 ≤ W.heap.size := by have := g2.lt; omega
  obtain ⟨c0, f0⟩ := g1'.one
  have G1 := Lib.hid g1'
  have G2 := Lib.hid g2'
  have Own := Lib.hid own
  clear g1 g2 g1' g2' own h3W bW hb1
  have hk5 : s.length ≤ cap := hcap1
  unfold maxLen at hcap2
  go_wp2_with fail
  refine nameW fun W2 hW => ?_
  have kz : Kp (fun b => b ≠ w.heap.size) w1 W2 := by rw [hW]; exact (Kp.refl _ _).setCell (fun e => e rfl) _
  have b2 : Below w.heap.size w W2 := b1.trans (kz.below fun b hb => by omega)
  have t1 : Blk W2 w.heap.size #[.slice (some ⟨g, 0, none⟩) s.length cap] 24 := by rw [hW]; exact G1.out.set 0 _
  have t2 : Blk W2 (w.heap.size + 1) #[.slice none 0 0] 24 := by rw [hW]; exact G2.out.set_ne (by simp) _
  have own2 := Own.out.kp kz (fun b hb => by have := (Own.out.base_le b hb).1; omega) (fun b (hb : b < w.heap.size) => by omega)
  have row := Lib.hid (RowT.start (base2 := W.heap.size) own2 (fun b (hb : b < w.heap.size) => ⟨by omega, by have := b2.size; omega⟩))
  have T1 := Lib.hid t1
  have T2 := Lib.hid t2
  have B2 := Lib.hid b2
  have zs2 : w1.heap.size ≤ W2.heap.size := kz.size
  clear hW kz b2 t1 t2 own2 c0 f0 b1
  go_loopw [12] (fun i wr => ∃ k : Nat, k ≤ s.length ∧ i = .int .i64 k ∧ Kp (fun b => b < W2.heap.size ∧ b ≠ g) W2 wr ∧ RowT wr W.heap.size W.heap.size (.slice (some ⟨g, 0, none⟩) s.length cap) k s) (fun i _ => s.length - (intOf i).toNat)
  case atStart => exact ⟨0, by omega, rfl, Kp.refl _ _, row.out⟩
  case round =>
    obtain ⟨k, hk, rfl, kp, rw'⟩ := hrel
    have Kpp := Lib.hid kp
    have Row := Lib.hid rw'
    have t1 := T1.out.kp kp ⟨by omega, by omega⟩
    have zt1 := t1.lt
    obtain ⟨c0, f0⟩ := t1.one
    have szw := kp.size
    clear kp rw' t1
    by_cases hlt : k < s.length
    · obtain ⟨⟨F, c, q0, q1, hF1, hF2, hF3⟩, fr, zg, _⟩ := Row.out.cells k hlt
      have ht5 := H6.out _ (List.getElem_mem hlt)
      have Hst := Lib.hid (fun (wx : World) (h : RowT wx W.heap.size W.heap.size (.slice (some ⟨g, 0, none⟩) s.length cap) k s) (F : Option Addr) (c : Nat) => h.set (g := g) (cap := cap) hlt (F := F) (c := c))
      generalize s[k] = t at *
      have HF3 := Lib.hid hF3
      have hk0 : (0 : Int) ≤ (k : Int) := Int.natCast_nonneg _
      have hk1 : (k : Int) < (s.length : Int) := by omega
      clear hF3
      go_wp2_with fail
      refine nameW fun W3 hW => ?_
      have b3 : Below wr.heap.size wr W3 := by rw [hW]; exact balloc (Below.refl _ _) _
      have x3 : Blk W3 wr.heap.size #[.string t.name, .slice F t.f.length c] 90 := by rw [hW]; exact Blk.new _ _ _
      have HF4 := Lib.hid (RepL.keep HF3.out fun q hq => b3.block q hq.1)
      have R3 := Lib.hid (Row.out.below b3)
      have K3 := Lib.hid (Kpp.out.call b3 (fun b hb => hb.1))
      replace c0 := keep1 b3 c0
      have fr3 : W3.frozen? ⟨g, k * 2 + 1, none⟩ = false := ((bcell b3).2 g _ zg).trans fr
      obtain ⟨x0, x1, -, -⟩ := x3.two
      have zx := x3.lt
      have hb0 : Below W3.heap.size W3 W3.drew := (Below.refl _ _).drew
      have sz3 := b3.size
      replace q1 := keep1 b3 q1
      clear hW q0 fr x3 b3 f0
      have HF5 := Lib.hid (show RepL (fun b => b < wr.heap.size ∧ b ≠ g) W3.drew F t.f from RepL.keep HF4.out fun _ _ => rfl)
      have hne1 : w.heap.size ≠ g := by omega
      have hne2 : wr.heap.size ≠ g := by omega
      go_region_held3 (fun w' => w'.cell? ⟨w.heap.size, 0, none⟩ = some (.slice (some ⟨g, 0, none⟩) s.length cap) ∧ w'.cell? ⟨wr.heap.size, 1, none⟩ = some (.slice F t.f.length c))
        (first | exact ⟨c0, x1⟩ | exact ⟨keep1 hb6 c0, keep1 hb6 x1⟩ | exact ⟨Kp.cell kz hne1 (keep1 hb6 c0), Kp.cell kz hne2 (keep1 hb6 x1)⟩ | exact ⟨Kp.cell ((Kp.refl (fun b => b ≠ g) _).setCell (fun e => e rfl) _) hne1 (keep1 hb6 c0), Kp.cell ((Kp.refl (fun b => b ≠ g) _).setCell (fun e => e rfl) _) hne2 (keep1 hb6 x1)⟩)
        (first | (go_at_call 50; refine (clone_Field (S := fun b => b < wr.heap.size ∧ b ≠ g) hF1 hF2 HF5.out (fun b hb => by have := hb.1; have := hb0.size; omega) (by omega)).mono ?_; intro e w6 hv; obtain ⟨F6, c6, rfl, hb6', v1, v2, v3⟩ := hv.valF; have hb6 := below_drew hb6'; have V3 := Lib.hid v3; clear v3; have fr6 : w6.frozen? ⟨g, k * 2 + 1, none⟩ = false := ((bcell hb6).2 g _ (by omega)).trans fr3; have q16 := keep1 hb6 q1; have zg6 : g < w6.heap.size := block_lt q16))
      have R6 := R3.out.below hb6
      have R7 := Hst.out w6 R6 F6 c6 v1 v2 (V3.out.mono fun q hq => ⟨hq.2, by have : W3.heap.size ≤ q := hq.1; omega, by have : W3.heap.size ≤ q := hq.1; omega⟩)
      have R8 := Lib.hid R7
      have K6 := Lib.hid (K3.out.call hb6 (fun b hb => hb.1))
      clear R6 R7
      go_wp2_with fail
      go_roundw
      case rel => exact ⟨k + 1, by omega, by go_num, K6.out.setCell (fun e => e.2 rfl) _, R8.out⟩
      case measure => simp [intOf]; omega
    · obtain rfl : k = s.length := by omega
      have t2 := T2.out.kp Kpp.out ⟨by omega, by omega⟩
      have z2' := t2.lt
      obtain ⟨d0, e0⟩ := t2.one
      have hd := Lib.hid (Row.out.done (by omega))
      have bwr := B2.out.trans (Kpp.out.below fun b hb => ⟨by have := B2.out.size; omega, by omega⟩)
      have BWR := Lib.hid bwr
      have Row' := Lib.hid Row.out
      clear t2 bwr hlt hk
      go_wp2_with fail
      refine bodyPost_ret (v := .agg #[.slice (some ⟨g, 0, none⟩) s.length cap]) (by simp [results, Tryz.results22, go_sem, *]) rfl ?_
      have kf : Kp (fun b => b ≠ w.heap.size + 1) wr (wr.setCell ⟨w.heap.size + 1, 0, none⟩ (.slice (some ⟨g, 0, none⟩) s.length cap)) := (Kp.refl _ _).setCell (fun e => e rfl) _
      refine ⟨BWR.out.trans (kf.below fun b hb => by omega), some ⟨g, 0, none⟩, cap, rfl, hcap1, by unfold maxLen; exact hcap2, ?_⟩
      exact (RepL.keep hd.out fun q hq => kf.block q (by have := hq.1; omega)).mono fun q hq => ⟨by have := hq.1; omega, Nat.lt_of_lt_of_le hq.2 kf.size⟩
end
end Go.Proofs.YtgeegdnkheckcaaGreat
