/- The walk of what graph.Reach calls for each id: it comes to an id, and to what that leads to. -/
import Derived.Test.YtgeegdnkheckcaaGreatGSet
import Derived.Test.YtgeegdnkheckcaaGreatCome
set_option linter.unusedVariables false
namespace Go.Proofs.YtgeegdnkheckcaaGreat
open Lay (rep)
open Go.RowKit

/-! ### Pure -/
/-- What is come to, from an id on, behind others. -/
def dfs (g : Gr) : Nat → Int → List Int → List Int
  | 0, _, vis => vis
  | n + 1, id, vis => if (-1 :: vis).contains id then vis else match obOf g id with
    | none => vis
    | some o => (refs (fieldsOf g.s o.t) o.f).foldl (fun v r => dfs g n r v) (vis ++ [id])
theorem typ_some {l : List Ob} {id : Int} (h : (typ l id).isSome = true) : ∃ x ∈ l, x.id = id := by
  unfold typ at h
  rw [Option.isSome_map, List.find?_isSome] at h
  obtain ⟨x, h1, h2⟩ := h
  exact ⟨x, by simpa using h1, by simpa using h2⟩
theorem obOf_of_mem {g : Gr} {id : Int} (h : ∃ x ∈ g.o, x.id = id) : (obOf g id).isSome = true := by
  obtain ⟨x, hx, rfl⟩ := h
  exact obOf_self hx
theorem allFrom_get0 {α : Type} {p : Nat → α → Bool} {l : List α} (h : allFrom p 0 l = true) (j : Nat) (hj : j < l.length) : p j l[j] = true := by
  have := allFrom_get h j hj
  rwa [Nat.zero_add] at this
/-- Where a Ref of an object leads. -/
theorem MayG.ref {g : Gr} (h : MayG g) {x : Ob} (hx : x ∈ g.o) (k : Nat) (hk : k < x.f.length) (h5 : ((fieldsOf g.s x.t).getD k default).kind = 5) : x.f[k].r = -1 ∨ (obOf g x.f[k].r).isSome = true := by
  obtain ⟨la, ho⟩ := chain_mem h.ch x hx
  simp only [objOk, Bool.and_eq_true] at ho
  have hl := allFrom_get0 ho.2 k hk
  simp only [leads, Bool.and_eq_true] at hl
  have h2 := hl.2
  rw [h5] at h2
  simp only [bne_self_eq_false, Bool.false_or, Bool.or_eq_true, beq_iff_eq] at h2
  rcases h2 with h2 | h2
  · exact .inl h2
  · right
    cases ht : typ g.o x.f[k].r with
    | none => rw [ht] at h2; cases h2
    | some t => exact obOf_of_mem (typ_some (by rw [ht]; rfl))
theorem MayG.root {g : Gr} (h : MayG g) {r : Int} (hr : r ∈ g.roots) : r = -1 ∨ (obOf g r).isSome = true := by
  have := h.rootsOk
  rw [List.any_eq_false] at this
  have h2 := this r hr
  simp only [oddRoot, Bool.and_eq_true, bne_iff_ne, ne_eq, Bool.not_eq_true', not_and, Bool.not_eq_false] at h2
  by_cases h3 : r = -1
  · exact .inl h3
  · exact .inr (obOf_of_mem (typ_some (by simpa using h2 h3)))
/-- What is come to: each once, and objects' ids all. -/
structure Vis (g : Gr) (vis : List Int) : Prop where
  nd : vis.Nodup
  mem : ∀ x ∈ vis, x ∈ g.o.map (·.id)
theorem Vis.len {g : Gr} {vis : List Int} (h : Vis g vis) : vis.length ≤ g.o.length := by
  have := nodup_sub_len h.nd h.mem
  simpa using this
theorem Vis.snoc {g : Gr} {vis : List Int} {id : Int} {o : Ob} (h : Vis g vis) (ho : obOf g id = some o) (hn : (-1 :: vis).contains id = false) : Vis g (vis ++ [id]) := by
  obtain ⟨h1, h2⟩ := obOf_mem ho
  have hn' : id ∉ vis := fun hm => by rw [List.contains_iff_mem.2 (List.mem_cons_of_mem _ hm)] at hn; cases hn
  refine ⟨List.nodup_append.2 ⟨h.nd, by simp, ?_⟩, fun x hx => ?_⟩
  · intro a ha b hb
    rw [List.mem_singleton] at hb
    rintro rfl
    subst hb
    exact hn' ha
  · rcases List.mem_append.1 hx with hx | hx
    · exact h.mem x hx
    · rw [List.mem_singleton] at hx
      subst hx
      rw [← h2]; exact List.mem_map_of_mem h1
theorem Vis.dfs {g : Gr} : ∀ (n : Nat) {id : Int} {vis : List Int}, Vis g vis → Vis g (dfs g n id vis) ∧ vis.length ≤ (dfs g n id vis).length
  | 0, id, vis, h => ⟨h, Nat.le_refl _⟩
  | n + 1, id, vis, h => by
    unfold Go.Proofs.YtgeegdnkheckcaaGreat.dfs
    split
    · exact ⟨h, Nat.le_refl _⟩
    · rename_i hc
      split
      · exact ⟨h, Nat.le_refl _⟩
      · rename_i o ho
        have h2 := h.snoc ho (by simpa using hc)
        have : ∀ (l : List Int) (v : List Int), Vis g v → Vis g (l.foldl (fun v r => Go.Proofs.YtgeegdnkheckcaaGreat.dfs g n r v) v) ∧ v.length ≤ (l.foldl (fun v r => Go.Proofs.YtgeegdnkheckcaaGreat.dfs g n r v) v).length := fun l => by
          induction l with
          | nil => intro v hv; exact ⟨hv, Nat.le_refl _⟩
          | cons r l ih =>
            intro v hv
            obtain ⟨a1, a2⟩ := Vis.dfs n (id := r) hv
            obtain ⟨a3, a4⟩ := ih _ a1
            exact ⟨a3, Nat.le_trans a2 a4⟩
        obtain ⟨a1, a2⟩ := this (refs (fieldsOf g.s o.t) o.f) _ h2
        refine ⟨a1, Nat.le_trans ?_ a2⟩
        simp

theorem visFold {g : Gr} (n : Nat) (l : List Int) {v : List Int} (hv : Vis g v) : Vis g (l.foldl (fun v r => dfs g n r v) v) ∧ v.length ≤ (l.foldl (fun v r => dfs g n r v) v).length := by
  induction l generalizing v with
  | nil => exact ⟨hv, Nat.le_refl _⟩
  | cons r l ih =>
    obtain ⟨a1, a2⟩ := Vis.dfs n (id := r) hv
    obtain ⟨a3, a4⟩ := ih a1
    exact ⟨a3, Nat.le_trans a2 a4⟩
/-- What the calls on the way find: the boxes of what is captured, what was come to, and the graph. -/
structure RInv (w00 : World) (pg bw : Nat) (G0 G1 G2 : Value) (w : World) (vis : List Int) (v : Value) : Prop where
  was : Blk w (bw + 1) #[.map (some bw)] 61
  im : IMap w bw (visM (-1 :: vis))
  outb : Blk w (bw + 2) #[v] 26
  own : OwnL (fun _ => False) w (bw + 4) 3 v vis
  g : Blk w pg #[G0, G1, G2] 28
  fn : Blk w (bw + 3) #[.func (.func 56) #[] #[.pointer (some ⟨bw + 1, 0, none⟩), .pointer (some ⟨bw + 2, 0, none⟩), .pointer (some ⟨pg, 0, none⟩), .pointer (some ⟨bw + 3, 0, none⟩)]] 106
  below : Below w00.heap.size w00 w
  bs : bw + 4 ≤ w.heap.size
  d0 : w00.heap.size ≤ pg
  d1 : pg < bw
theorem RInv.keep {w00 w w' : World} {pg bw : Nat} {G0 G1 G2 : Value} {vis : List Int} {v : Value} (h : RInv w00 pg bw G0 G1 G2 w vis v) (hb : Below w.heap.size w w') : RInv w00 pg bw G0 G1 G2 w' vis v :=
  ⟨h.was.below hb, h.im.below hb, h.outb.below hb, h.own.below hb (Nat.le_refl _) (fun _ h => h.elim), h.g.below hb, h.fn.below hb, h.below.trans (hb.mono h.below.size), Nat.le_trans h.bs hb.size, h.d0, h.d1⟩
theorem visM_put2 {vis : List Int} {id : Int} (h : (-1 :: vis).contains id = false) : mput (visM (-1 :: vis)) id (.bool true) = visM (-1 :: (vis ++ [id])) := by
  rw [visM_put h]; rfl
/-- What a call of it leaves. -/
def RPost (w00 : World) (pg bw : Nat) (G0 G1 G2 : Value) (w : World) (vis' : List Int) (v : Value) (e : Ending) (w' : World) : Prop :=
  e = .returned (.tuple #[]) ∧ ∃ v', RInv w00 pg bw G0 G1 G2 w' vis' v' ∧ Kp (fun b => b < w.heap.size ∧ b ≠ bw + 2 ∧ b ≠ bw ∧ v.ownBlock ≠ some b) w w' ∧ ∀ q, v'.ownBlock = some q → v.ownBlock = some q ∨ w.heap.size ≤ q
section
variable {w00 : World} {As : Option Addr} {cs : Nat} {Ao : Option Addr} {co : Nat} {Ar : Option Addr} {cr : Nat} {g : Gr} {pg bw : Nat}
set_option maxRecDepth 100000 in
set_option maxHeartbeats 4000000 in
theorem reach1_Calls (hg : GOK w00 As cs Ao co Ar cr g) (Mg : MayG g) : ∀ (n : Nat) {id : Int} {vis : List Int} {v : Value} {w : World},
    RInv w00 pg bw (.slice As g.s.length cs) (.slice Ao g.o.length co) (.slice Ar g.roots.length cr) w vis v → Vis g vis → (id = -1 ∨ (obOf g id).isSome = true) → g.o.length < n + vis.length →
    Calls Tryz.prog 56 #[.int .i64 id, .pointer (some ⟨bw + 1, 0, none⟩), .pointer (some ⟨bw + 2, 0, none⟩), .pointer (some ⟨pg, 0, none⟩), .pointer (some ⟨bw + 3, 0, none⟩)] w fun e w' =>
      RPost w00 pg bw (.slice As g.s.length cs) (.slice Ao g.o.length co) (.slice Ar g.roots.length cr) w (dfs g n id vis) v e w' := by
  intro n
  induction n with
  | zero => intro id vis v w _ hv _ hn; have := hv.len; omega
  | succ n ih =>
    intro id vis v w hi hv hid hn
    have Hi := Lib.hid hi
    have Hv := Lib.hid hv
    have HIdd := Lib.hid hid
    have Hg := Lib.hid hg
    have IH := Lib.hid (fun (id : Int) (vis : List Int) (v : Value) (w : World) => @ih id vis v w)
    have hpg := hi.d1
    have hbs := hi.bs
    have h00 := hi.d0
    obtain ⟨c0, f0⟩ := hi.was.one
    obtain ⟨d0, e0⟩ := hi.outb.one
    have zg := hi.g.lt
    have lk := run_lookup_i Tryz.underlying61 Tryz.underlying3 (zeroBool _) hi.im id false
    rw [look_vis] at lk
    clear hi hv hid hg ih
    cases hc : (-1 :: vis).contains id
    case true =>
      rw [hc] at lk
      have Hd := Lib.hid (show dfs g (n + 1) id vis = vis by unfold dfs; rw [hc]; rfl)
      clear hc
      go_enter Tryz.func56, Tryz.ntmps56
      go_wp2_with fail
      go_end0
      exact ⟨rfl, v, by rw [Hd.out]; exact Hi.out, Kp.refl _ _, fun q e => .inl e⟩
    case false =>
      rw [hc] at lk
      have Hc := Lib.hid hc
      clear hc
      go_enter Tryz.func56, Tryz.ntmps56
      obtain ⟨o, ho⟩ : ∃ o, obOf g id = some o := by
        rcases HIdd.out with h | h
        · have := Hc.out; rw [h] at this; simp at this
        · exact Option.isSome_iff_exists.1 h
      have Ho := Lib.hid ho
      have hlen := Hv.out.len
      have hobj := Mg.objs
      have Hob := Lib.hid (show ∀ q, v.ownBlock = some q → bw + 4 ≤ q ∧ q < w.heap.size from fun q e => Hi.out.own.base_le q e)
      clear ho
      go_wp2_with (first
        | (at_mapUpdate; refine wpList_mapUpdate_i rfl _ _ _ _ rfl Tryz.underlying61 Tryz.underlying3 rfl rfl rfl Hi.out.im ?_; intro w1 im1 hg1; have Im1 : Hid (IMap w1 bw (mput (visM (-1 :: vis)) id (.bool true))) := Lib.hid im1; have Hg1 := Lib.hid hg1; have outb1 := Hi.out.outb.grown hg1 (fun e => by have := Option.some.inj e; omega); have own1 := Lib.hid (Hi.out.own.grown hg1 (.inr fun e => by have := (Hob.out _ e).1; omega) (fun _ h => h.elim)); have zs1 : w.heap.size ≤ w1.heap.size := hg1.size; have Outb1 := Lib.hid outb1; obtain ⟨d1, e1⟩ := outb1.one; have zo1 := outb1.lt; clear im1 hg1 outb1)
        | (at_builtin; refine wpList_append_L (α := Int) (S := fun _ => False) (S' := fun _ => False) (us := [.int .i64 id]) (y := id) (v := v) rfl _ _ _ rfl Tryz.underlying26 infI szI rfl (own1.out.below (balloc (Below.refl _ _) _) (Nat.le_refl _) (fun _ d => d.elim)) rfl (Blk.new' (by simp) _ _) (by simp [Value.oneCell']) rfl (fun _ d => d) (fun _ d => d.elim) (by unfold maxLen; omega) (by omega) (by simp; omega) ?_; intro gg cap w2 own2 hg2 hat2 hlt2; have hne : some (bw + 2) ≠ v.ownBlock := (fun e => by have := (Hob.out _ e.symm).1; omega); have outb2 := (Outb1.out.alloc _).grown hg2 hne; have Outb2 := Lib.hid outb2; obtain ⟨d2, e2⟩ := outb2.one; have zo2 := outb2.lt; clear outb2))
      refine nameW fun W3 hW => ?_
      have kz : Kp (fun b => b ≠ bw + 2) w2 W3 := by rw [hW]; exact (Kp.refl _ _).setCell (fun e => e rfl) _
      have outb3 : Blk W3 (bw + 2) #[.slice (some ⟨gg, 0, none⟩) (vis.length + 1) cap] 26 := by rw [hW]; exact Outb2.out.set 0 _
      clear hW d1 e1 d2 e2 c0 f0 d0 e0 lk
      have hs2 := hg2.size
      simp at hs2
      have hggb : bw + 4 ≤ gg := (own2.base_le gg rfl).1
      have blk3 : ∀ b, b < w.heap.size → b ≠ bw + 2 → b ≠ bw → v.ownBlock ≠ some b → W3.heap[b]? = w.heap[b]? := fun b h1 h2 h3 h4 => (kz.block b h2).trans ((hg2.block b (by simp; omega) (fun e => h4 e.symm)).trans (((balloc (Below.refl _ _) _).block b (by omega)).trans (Hg1.out.block b h1 (fun e => h3 (Option.some.inj e)))))
      have hkz := kz.size
      have k03 : Kp (fun b => b < w.heap.size ∧ b ≠ bw + 2 ∧ b ≠ bw ∧ v.ownBlock ≠ some b) w W3 := ⟨by rw [kz.os, hg2.os]; exact Hg1.out.os, by rw [kz.tape, hg2.tape]; exact Hg1.out.tape, by rw [kz.output, hg2.output]; exact Hg1.out.output, by omega, fun b hb => blk3 b hb.1 hb.2.1 hb.2.2.1 hb.2.2.2⟩
      have hvb : ∀ b, b < bw + 4 → v.ownBlock ≠ some b := fun b hb e => by have := (Hob.out b e).1; omega
      have im3 : IMap W3 bw (visM (-1 :: (vis ++ [id]))) := by
        have := Im1.out
        rw [visM_put2 Hc.out] at this
        exact this.keep ((kz.block bw (by omega)).trans ((hg2.block bw (by simp; omega) (fun e => hvb bw (by omega) e.symm)).trans ((balloc (Below.refl _ _) _).block bw (by omega))))
      have own3 : OwnL (fun _ => False) W3 (bw + 4) 3 (.slice (some ⟨gg, 0, none⟩) (vis.length + 1) cap) (vis ++ [id]) := own2.kp kz (fun b hb => by have := (own2.base_le b hb).1; omega) (fun _ h => h.elim)
      have K03 := Lib.hid k03
      have R3 := Lib.hid (show RInv w00 pg bw (.slice As g.s.length cs) (.slice Ao g.o.length co) (.slice Ar g.roots.length cr) W3 (vis ++ [id]) (.slice (some ⟨gg, 0, none⟩) (vis.length + 1) cap) from
        ⟨Hi.out.was.keep (blk3 _ (by omega) (by omega) (by omega) (hvb _ (by omega))), im3, outb3, own3, Hi.out.g.keep (blk3 _ (by omega) (by omega) (by omega) (hvb _ (by omega))), Hi.out.fn.keep (blk3 _ (by omega) (by omega) (by omega) (hvb _ (by omega))),
          Hi.out.below.trans (k03.below fun b hb => ⟨by omega, by omega, by omega, hvb b (by omega)⟩), by omega, h00, hpg⟩)
      have Hat := Lib.hid (show ∀ q, (Value.slice (some ⟨gg, 0, none⟩) (vis.length + 1) cap).ownBlock = some q → v.ownBlock = some q ∨ w.heap.size ≤ q from fun q e => by
        obtain rfl : gg = q := by simpa [Value.ownBlock] using e
        rcases hat2 with h | h
        · exact .inl h
        · simp at h; right; omega)
      have hs3 := k03.size
      clear kz outb3 own2 hg2 hat2 hlt2 blk3 k03 im3 own3 Im1 Hg1 own1 Outb1 Outb2 hvb hs2 hkz zo1 zo2 hne
      have GW := Lib.hid (Hg.out.below R3.out.below)
      rcases gfind_spec g id with ⟨hfi, ho'⟩ | ⟨j, hj, hfi, ho'⟩
      · have := Ho.out; rw [ho'] at this; cases this
      obtain rfl : o = g.o[j] := by have := Ho.out; rw [ho'] at this; exact (Option.some.inj this).symm
      have hmem := List.getElem_mem hj
      have Hok := Lib.hid (Mg.ok hmem)
      have Href := Lib.hid (fun k hk => Mg.ref hmem k hk)
      obtain ⟨bo, offo, hAo, _, hbo, hos⟩ := (Hg.out.o).ob (by intro e; simp [e] at hj)
      subst hAo
      replace hos := hos j hj
      have Hfi := Lib.hid hfi
      have hj0 : (0 : Int) ≤ (j : Int) := Int.natCast_nonneg _
      have hj1 : (j : Int) < (g.o.length : Int) := by omega
      clear hfi ho'
      generalize g.o[j] = x at *
      obtain ⟨F, cF, o0, o1, o2, hF1, hF2, hF3⟩ := hos
      have HF3 := Lib.hid hF3
      have rb := R3.out.below
      replace o0 := keep1 rb o0
      replace o1 := keep1 rb o1
      replace o2 := keep1 rb o2
      obtain ⟨g0, g1, g2, -⟩ := R3.out.g.three
      have zg3 := R3.out.g.lt
      have GW3 := Lib.hid (show GOK W3.drew As cs (some ⟨bo, offo, none⟩) co Ar cr g from GW.out.below ((Below.refl _ _).drew))
      have hb0 : Below W3.heap.size W3 W3.drew := (Below.refl _ _).drew
      clear rb hF3
      have hbA : ∀ ob : Obj, Below W3.heap.size W3 (W3.alloc ob).drew := fun ob => (balloc (Below.refl _ _) ob).drew
      have GWA := Lib.hid (show ∀ ob : Obj, GOK (W3.alloc ob).drew As cs (some ⟨bo, offo, none⟩) co Ar cr g from fun ob => GW.out.below (hbA ob))
      have HbA := Lib.hid hbA
      have zo1 := block_lt o0
      clear hbA
      go_region_held3 (fun w' => Below W3.heap.size W3 w' ∧ w'.cell? ⟨pg, 0, none⟩ = some (.slice As g.s.length cs) ∧ w'.cell? ⟨pg, 1, none⟩ = some (.slice (some ⟨bo, offo, none⟩) g.o.length co) ∧ w'.cell? ⟨pg, 2, none⟩ = some (.slice Ar g.roots.length cr) ∧
          w'.cell? ⟨bo, offo + j * 3, none⟩ = some (.int .i64 x.id) ∧ w'.cell? ⟨bo, offo + j * 3 + 1, none⟩ = some (.int .i64 x.t) ∧ w'.cell? ⟨bo, offo + j * 3 + 2, none⟩ = some (.slice F x.f.length cF))
        (first | exact ⟨hb0, g0, g1, g2, o0, o1, o2⟩ | exact ⟨hb4, keep1 hb4 g0, keep1 hb4 g1, keep1 hb4 g2, keep1 hb4 o0, keep1 hb4 o1, keep1 hb4 o2⟩ | exact ⟨balloc hb4 _, keep1 (balloc hb4 _) g0, keep1 (balloc hb4 _) g1, keep1 (balloc hb4 _) g2, keep1 (balloc hb4 _) o0, keep1 (balloc hb4 _) o1, keep1 (balloc hb4 _) o2⟩ | exact ⟨HbA.out _, keep1 (HbA.out _) g0, keep1 (HbA.out _) g1, keep1 (HbA.out _) g2, keep1 (HbA.out _) o0, keep1 (HbA.out _) o1, keep1 (HbA.out _) o2⟩ | exact ⟨HbS.out _ _ _, keep1 (HbS.out _ _ _) g0, keep1 (HbS.out _ _ _) g1, keep1 (HbS.out _ _ _) g2, keep1 (HbS.out _ _ _) o0, keep1 (HbS.out _ _ _) o1, keep1 (HbS.out _ _ _) o2⟩)
        (first | (go_at_call 42; refine (graph_Find GW3.out).mono ?_; rintro e w4 ⟨rfl, hb4⟩; rw [Hfi.out]; replace hb4 := below_drew hb4) | (go_at_call 42; refine (graph_Find (GWA.out _)).mono ?_; rintro e w4 ⟨rfl, hb5⟩; rw [Hfi.out]; have hb4 := bthen (HbA.out _) hb5; have xb := Blk.below (show Blk (W3.alloc (.cells #[.int .i64 0, .int .i64 0, .slice none 0 0] 45)).drew W3.heap.size #[.int .i64 0, .int .i64 0, .slice none 0 0] 45 from Blk.new _ _ _) hb5; have Xb := Lib.hid xb; have HbS := Lib.hid (show ∀ u0 u1 u2 : Value, Below W3.heap.size W3 (((w4.setCell ⟨W3.heap.size, 0, none⟩ u0).setCell ⟨W3.heap.size, 1, none⟩ u1).setCell ⟨W3.heap.size, 2, none⟩ u2) from fun u0 u1 u2 => ((hb4.setCell (Nat.le_refl _) _).setCell (Nat.le_refl _) _).setCell (Nat.le_refl _) _); obtain ⟨x0, x1, x2, y0, y1, y2⟩ := xb.three; have zx4 := xb.lt; clear xb))
      all_goals
        refine nameE fun W5 hW => ?_
        obtain ⟨q6, hq6, b35, x5, zq6⟩ : ∃ q6, ((q6 = w4.heap.size ∧ W5 = w4.alloc (.cells #[.int .i64 x.id, .int .i64 x.t, .slice F x.f.length cF] 45)) ∨ (q6 = W3.heap.size ∧ W5 = (((w4.setCell ⟨W3.heap.size, 0, none⟩ (.int .i64 x.id)).setCell ⟨W3.heap.size, 1, none⟩ (.int .i64 x.t)).setCell ⟨W3.heap.size, 2, none⟩ (.slice F x.f.length cF)))) ∧
            Hid (Below W3.heap.size W3 W5) ∧ Hid (Blk W5 q6 #[.int .i64 x.id, .int .i64 x.t, .slice F x.f.length cF] 45) ∧ W3.heap.size ≤ q6 := by
          first
            | exact ⟨w4.heap.size, .inl ⟨rfl, hW⟩, Lib.hid (by rw [hW]; exact balloc hb4 _), Lib.hid (by rw [hW]; exact Blk.new _ _ _), hb4.size⟩
            | exact ⟨W3.heap.size, .inr ⟨rfl, hW⟩, Lib.hid (by rw [hW]; exact HbS.out _ _ _), Lib.hid (by rw [hW]; exact ((Xb.out.set 0 _).set 1 _).set 2 _), Nat.le_refl _⟩
        first
          | (have hq : w4.heap.size = q6 := (by rcases hq6 with ⟨h, _⟩ | ⟨h, h2⟩; exact h.symm; exact absurd (hW.symm.trans h2) (fun h => by have := congrArg (fun w => w.heap.size) h; simp [World.setCell] at this)); rw [hq])
          | (have hq : W3.heap.size = q6 := (by rcases hq6 with ⟨h, h2⟩ | ⟨h, _⟩; exact absurd (hW.symm.trans h2) (fun h => by have := congrArg (fun w => w.heap.size) h; simp [World.setCell] at this); exact h.symm); rw [hq])
        clear hq hq6 hW
        have R5 := Lib.hid (R3.out.keep b35.out)
        have sz5 := b35.out.size
        have zq5 := x5.out.lt
        obtain ⟨ti, hti⟩ : ∃ t : Nat, x.t = t := ⟨x.t.toNat, by have := Hok.out.t0; omega⟩
        have hlt : ti < g.s.length := by have := Hok.out.t1; omega
        have X5 := Lib.hid x5.out
        rw [hti] at X5
        have G5 := Lib.hid (GW.out.below b35.out)
        obtain ⟨bs, offs, hAs, _, hbs, hss⟩ := (Hg.out.s).typ (by intro e; simp [e] at hlt)
        subst hAs
        have Hfs := Lib.hid (show fieldsOf g.s x.t = g.s[ti].f by simp [fieldsOf, hti, List.getD_eq_getElem?_getD, hlt])
        replace hss := hss ti hlt
        have Hlen := Lib.hid (show x.f.length = g.s[ti].f.length by rw [Hok.out.len, Hfs.out])
        have hf5 := Hok.out.five
        generalize g.s[ti] = ty at hss Hfs Hlen
        obtain ⟨Fx, cx, s0, s1, hT1, hT2, hT3, _⟩ := hss
        have HX3 := Lib.hid hT3
        have hty := Hlen.out
        have Hty := Lib.hid hty
        have b05 := R5.out.below
        have B05 := Lib.hid b05
        replace s1 := keep1 b05 s1
        obtain ⟨g0', g1', g2', -⟩ := R5.out.g.three
        obtain ⟨x0', x1', x2', -⟩ := X5.out.three
        have hti0 : (0 : Int) ≤ (ti : Int) := Int.natCast_nonneg _
        have hti1 : (ti : Int) < (g.s.length : Int) := by omega
        have hpq : pg < W5.heap.size := by omega
        clear s0 hT3 hti hty b05
        go_wp2_with fail
        clear g0' g1' g2' s1 x0' x1' x2' g0 g1 g2 o0 o1 o2
        go_loopw [34] (fun i wr => ∃ (k : Nat) (vk : Value), k ≤ ty.f.length ∧ i = .int .i64 k ∧ RInv w00 pg bw (.slice (some ⟨bs, offs, none⟩) g.s.length cs) (.slice (some ⟨bo, offo, none⟩) g.o.length co) (.slice Ar g.roots.length cr) wr ((refs (ty.f.take k) (x.f.take k)).foldl (fun v r => dfs g n r v) (vis ++ [id])) vk ∧
          Kp (fun b => b < W5.heap.size ∧ b ≠ bw + 2 ∧ b ≠ bw ∧ (Value.slice (some ⟨gg, 0, none⟩) (vis.length + 1) cap).ownBlock ≠ some b) W5 wr ∧ ∀ q, vk.ownBlock = some q → (Value.slice (some ⟨gg, 0, none⟩) (vis.length + 1) cap).ownBlock = some q ∨ W5.heap.size ≤ q) (fun i _ => ty.f.length - (intOf i).toNat)
        case atStart => exact ⟨0, _, Nat.zero_le _, rfl, by simpa [refs] using R5.out, Kp.refl _ _, fun q e => .inl e⟩
        case round =>
          obtain ⟨k, vk, hk, rfl, ri, kp, hvk⟩ := hrel
          have Ri := Lib.hid ri
          have Kpp := Lib.hid kp
          have Hvk := Lib.hid hvk
          have szw := kp.size
          have zbs := ri.bs
          clear ri kp hvk
          have Hvis := Lib.hid (show Vis g ((refs (ty.f.take k) (x.f.take k)).foldl (fun v r => dfs g n r v) (vis ++ [id])) ∧ (vis ++ [id]).length ≤ ((refs (ty.f.take k) (x.f.take k)).foldl (fun v r => dfs g n r v) (vis ++ [id])).length from
            visFold n _ (Hv.out.snoc Ho.out Hc.out))
          by_cases hlk : k < ty.f.length
          · have hlk2 : k < x.f.length := by have := Hty.out; omega
            have Hrs := Lib.hid (refs_snoc ty.f x.f k hlk hlk2)
            have Hrf := Lib.hid (Href.out k hlk2)
            have Hgd := Lib.hid (show (fieldsOf g.s x.t).getD k default = ty.f[k] by rw [Hfs.out]; simp [List.getD_eq_getElem?_getD, hlk])
            obtain ⟨bf, offf, hFx, _, hbf, hfs⟩ := (HX3.out.below Ri.out.below).fld (by intro e; simp [e] at hlk)
            obtain ⟨bv, offv, hF, hbv0, hbv, hvs⟩ := HF3.out.vl (by intro e; simp [e] at hlk2)
            subst hFx
            subst hF
            replace hfs := hfs k hlk
            replace hvs := (hvs k hlk2).2.2.1
            rw [Hgd.out] at Hrf
            generalize ty.f[k] = f at hfs Hrs Hrf
            generalize x.f[k] = u at hvs Hrs Hrf
            obtain ⟨d0, d1, d2, _, _⟩ := hfs
            have hvw := keep1 Ri.out.below hvs
            have hk0 : (0 : Int) ≤ (k : Int) := Int.natCast_nonneg _
            have hk1 : (k : Int) < (ty.f.length : Int) := by omega
            have hk2 : (k : Int) < (x.f.length : Int) := by omega
            rcases Bool.eq_false_or_eq_true (f.kind == 5) with e1 | e1
            · have Hr2 := Lib.hid (show refs (ty.f.take (k + 1)) (x.f.take (k + 1)) = refs (ty.f.take k) (x.f.take k) ++ [u.r] by rw [Hrs.out]; simp at e1; simp [e1])
              have Hur := Lib.hid (Hrf.out (by simpa using e1))
              go_wp2_with fail
              refine nameW fun W6 hW => ?_
              have b6 : Below wr.heap.size wr W6 := by rw [hW]; exact balloc (Below.refl _ _) _
              have R6 := Lib.hid (Ri.out.keep b6)
              have hgq : gg ≠ q6 := by have := (R3.out.own.base_le gg rfl).2; omega
              have x6 := X5.out.kp Kpp.out ⟨by omega, by omega, by omega, by rw [ownBlock_slice]; exact fun e => hgq (Option.some.inj e)⟩
              have X6 := Lib.hid (x6.below b6)
              obtain ⟨x0', x1', x2', -⟩ := X6.out.three
              obtain ⟨fn0, -⟩ := R6.out.fn.one
              have hv6 := keep1 b6 hvw
              have hb0 : Below W6.heap.size W6 W6.drew := (Below.refl _ _).drew
              have R6d := Lib.hid (R6.out.keep hb0)
              have sz6 := b6.size
              have zq66 := X6.out.lt
              clear hW d0 d1 d2 x6
              have ihr := Lib.hid (IH.out u.r _ vk W6.drew R6d.out Hvis.out.1 Hur.out (by have := Hvis.out.2; simp at this; omega))
              have eg : ∀ args w, (callFunc 56 args).run Tryz.prog w = .ok (.enter 56 args) w := enters_of Tryz.func56 (by kernel_rfl) rfl
              go_region_held3 (fun w' => w'.cell? ⟨bw + 3, 0, none⟩ = some (.func (.func 56) #[] #[.pointer (some ⟨bw + 1, 0, none⟩), .pointer (some ⟨bw + 2, 0, none⟩), .pointer (some ⟨pg, 0, none⟩), .pointer (some ⟨bw + 3, 0, none⟩)]) ∧ w'.cell? ⟨q6, 2, none⟩ = some (.slice (some ⟨bv, offv, none⟩) x.f.length cF) ∧ w'.cell? ⟨bv, offv + k * 3 + 2, none⟩ = some (.int .i64 u.r))
                (first | exact ⟨fn0, x2', hv6⟩ | exact ⟨S7.out.1, S7.out.2.1, S7.out.2.2⟩)
                (first | (go_at_call 56; refine ihr.out.mono ?_; rintro e w7 ⟨rfl, v7, ri7, kp7, hv7⟩; have Ri7 := Lib.hid ri7; have Kp7 := Lib.hid kp7; have Hv7 := Lib.hid hv7; clear ri7 kp7 hv7; have S7 : Hid (w7.cell? ⟨bw + 3, 0, none⟩ = some (.func (.func 56) #[] #[.pointer (some ⟨bw + 1, 0, none⟩), .pointer (some ⟨bw + 2, 0, none⟩), .pointer (some ⟨pg, 0, none⟩), .pointer (some ⟨bw + 3, 0, none⟩)]) ∧ w7.cell? ⟨q6, 2, none⟩ = some (.slice (some ⟨bv, offv, none⟩) x.f.length cF) ∧ w7.cell? ⟨bv, offv + k * 3 + 2, none⟩ = some (.int .i64 u.r)) := Lib.hid ⟨Ri7.out.fn.one.1, Kp7.out.cell ⟨zq66, by omega, by omega, fun e => by rcases Hvk.out _ e with h | h; exact hgq (by rw [ownBlock_slice] at h; exact Option.some.inj h); omega⟩ x2', keep1 Ri7.out.below hvs⟩))
              have sz7 := Kp7.out.size
              have KF := Lib.hid (show Kp (fun b => b < W5.heap.size ∧ b ≠ bw + 2 ∧ b ≠ bw ∧ (Value.slice (some ⟨gg, 0, none⟩) (vis.length + 1) cap).ownBlock ≠ some b) W5 w7 from
                (Kpp.out.trans ((Kp.of_below b6.drew fun b hb => hb).mono fun b hb => by omega)).trans (Kp7.out.mono fun b hb => ⟨by show b < W6.heap.size; omega, hb.2.1, hb.2.2.1, fun e => by rcases Hvk.out _ e with h | h; exact hb.2.2.2 h; omega⟩))
              have HvF := Lib.hid (show ∀ q, v7.ownBlock = some q → (Value.slice (some ⟨gg, 0, none⟩) (vis.length + 1) cap).ownBlock = some q ∨ W5.heap.size ≤ q from fun q e => by
                rcases Hv7.out q e with h | h
                · exact Hvk.out q h
                · right; have : W6.heap.size ≤ q := h; omega)
              go_wp2_with fail
              go_roundw
              case rel => exact ⟨k + 1, v7, by omega, by go_num, by rw [Hr2.out, List.foldl_append]; exact Ri7.out, KF.out, HvF.out⟩
              case measure => simp [intOf]; omega
            · have Hr2 := Lib.hid (show refs (ty.f.take (k + 1)) (x.f.take (k + 1)) = refs (ty.f.take k) (x.f.take k) by rw [Hrs.out]; simp at e1; simp [e1])
              go_wp2_with fail
              go_roundw
              case rel => exact ⟨k + 1, vk, by omega, by go_num, by rw [Hr2.out]; exact Ri.out.keep (balloc (Below.refl _ _) _), Kpp.out.alloc (fun b hb => hb.1) _, Hvk.out⟩
              case measure => simp [intOf]; omega
          · have Hr2 := Lib.hid (show refs (ty.f.take k) (x.f.take k) = refs ty.f x.f by rw [List.take_of_length_le (by omega), List.take_of_length_le (by have := Hty.out; omega)])
            have Hd := Lib.hid (show dfs g (n + 1) id vis = (refs (ty.f.take k) (x.f.take k)).foldl (fun v r => dfs g n r v) (vis ++ [id]) by
              rw [Hr2.out]; conv => lhs; unfold dfs
              rw [Hc.out, Ho.out]
              simp only [Bool.false_eq_true, if_false, Hfs.out])
            go_wp2_with fail
            go_end0
            refine ⟨rfl, vk, by rw [Hd.out]; exact Ri.out, ?_, fun q e => ?_⟩
            · exact (K03.out.trans ((Kp.of_below b35.out fun b hb => hb).mono fun b hb => by omega)).trans (Kpp.out.mono fun b hb => ⟨by omega, hb.2.1, hb.2.2.1, fun e => by rcases Hat.out b e with h | h; exact hb.2.2.2 h; omega⟩)
            · rcases Hvk.out q e with h | h
              · exact Hat.out q h
              · right; omega
end
end Go.Proofs.YtgeegdnkheckcaaGreat
