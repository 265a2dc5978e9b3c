/- The walk of merge's come: those to which one comes, from roots. -/
import Derived.Test.YtgeegdnkheckcaaGreatSchema
import Derived.Test.YtgeegdnkheckcaaGreatGrow
import Derived.ArgAppend
import Derived.Deep.RegionLawGrows
set_option linter.unusedVariables false
namespace Go.Proofs.YtgeegdnkheckcaaGreat
open Lay (rep)
open Go.RowKit

/-! ### Pure -/
def refs : List Fld → List Vl → List Int
  | f :: fs, v :: vs => if f.kind = 5 then v.r :: refs fs vs else refs fs vs
  | _, _ => []
def lookOb (l : List Ob) (id : Int) : Option Ob := l.find? fun y => y.id == id
def comeF (look : Int → Option Ob) (s : List Typ) : Nat → List Int → List Int → List Int
  | _, [], vis => vis
  | 0, _ :: _, vis => vis
  | n + 1, id :: q, vis => match look id with
    | none => comeF look s n q vis
    | some o => if vis.contains id then comeF look s n q vis else comeF look s n (q ++ refs (fieldsOf s o.t) o.f) (vis ++ [id])
def comeM (s : List Typ) (l : List Ob) (roots : List Int) : List Int := comeF (lookOb l) s (6 * l.length + roots.length) roots []
theorem refs_snoc : ∀ (fs : List Fld) (vs : List Vl) (k : Nat) (hf : k < fs.length) (hv : k < vs.length), refs (fs.take (k + 1)) (vs.take (k + 1)) = refs (fs.take k) (vs.take k) ++ (if fs[k].kind = 5 then [vs[k].r] else [])
  | f :: fs, v :: vs, 0, _, _ => by simp [refs]
  | f :: fs, v :: vs, k + 1, hf, hv => by
    have := refs_snoc fs vs k (by simpa using hf) (by simpa using hv)
    simp only [List.take_succ_cons, refs, List.getElem_cons_succ] at this ⊢
    split
    · rw [this]; rfl
    · exact this
theorem refs_len : ∀ (fs : List Fld) (vs : List Vl), (refs fs vs).length ≤ fs.length
  | [], _ => by simp [refs]
  | _ :: _, [] => by simp [refs]
  | f :: fs, v :: vs => by
    have := refs_len fs vs
    simp only [refs]
    split <;> simp <;> omega
theorem lookOb_mem {l : List Ob} {id : Int} {o : Ob} (h : lookOb l id = some o) : o ∈ l ∧ o.id = id :=
  ⟨List.mem_of_find?_eq_some h, by have := List.find?_some h; simpa using this⟩
/-- The set's map. -/
def visM (vis : List Int) : MP := vis.map fun i => (i, .bool true)
theorem look_vis (vis : List Int) (id : Int) : mlook (visM vis) id = if vis.contains id then some (.bool true) else none := by
  induction vis with
  | nil => rfl
  | cons i vis ih =>
    unfold mlook visM at ih ⊢
    rw [List.map_cons, List.find?_cons]
    by_cases h : i = id
    · simp [h]
    · have h1 : (i == id) = false := by simpa using h
      have h2 : (id == i) = false := by simpa using fun e => h e.symm
      simp only [h1, List.contains_cons, h2, Bool.false_or]
      exact ih
/-- How many entries a map's block has. -/
def mapN (w : World) (b : Nat) : Nat := match w.heap[b]? with
  | some (.map es _) => es.size
  | _ => 0
theorem IMap.num {w : World} {b : Nat} {m : MP} (h : IMap w b m) : mapN w b = m.length := by
  obtain ⟨es, c, h1, h2, _⟩ := h.out
  have := congrArg List.length h2
  simp at this
  simp [mapN, h1, this]
theorem nodup_sub_len {vis ids : List Int} (hn : vis.Nodup) (hs : ∀ x ∈ vis, x ∈ ids) : vis.length ≤ ids.length := by
  induction vis generalizing ids with
  | nil => simp
  | cons x vis ih =>
    have hx := hs x (by simp)
    have hn' := List.nodup_cons.1 hn
    have := ih (ids := ids.erase x) hn'.2 (fun y hy => (List.mem_erase_of_ne (by rintro rfl; exact hn'.1 hy)).2 (hs y (by simp [hy])))
    rw [List.length_erase_of_mem hx] at this
    have := List.length_pos_of_mem hx
    simp; omega
theorem RepL.tailI {S : Nat → Prop} {w : World} {b off : Nat} {x : Int} {l : List Int} (h : RepL S w (some ⟨b, off, none⟩) (x :: l)) : RepL S w (some ⟨b, off + 1, none⟩) l := by
  intro hl
  obtain ⟨b', off', e, h1, h2, h3⟩ := h (by simp)
  simp only [Option.some.injEq, Addr.mk.injEq, and_true] at e
  obtain ⟨rfl, rfl⟩ := e
  refine ⟨b, off + 1, rfl, h1, h2, fun j hj => ?_⟩
  obtain ⟨us, g1, g2⟩ := h3 (j + 1) (by simpa using hj)
  refine ⟨us, by simpa using g1, fun i hi => ?_⟩
  have := g2 i hi
  simp only [Lay.sz, Nat.mul_one] at this ⊢
  rw [show off + 1 + j + i = off + (j + 1) + i by omega]
  exact this
/-- The relation of the outer loop. -/
def RCome (s : List Typ) (l : List Ob) (roots : List Int) (W0 : World) (bo : Nat) (t : Value) (wr : World) : Prop :=
  ∃ (n : Nat) (q vis : List Int) (A : Option Addr) (c : Nat), t = .slice A q.length c ∧ q.length ≤ c ∧ c ≤ maxLen ∧  RepL (fun b => b < wr.heap.size ∧ b ≠ bo) wr A q ∧ IMap wr bo (visM vis) ∧ Kp (fun b => b < W0.heap.size ∧ b ≠ bo) W0 wr ∧
    comeF (lookOb l) s n q vis = comeM s l roots ∧ 6 * (l.length - vis.length) + q.length ≤ n ∧ n ≤ 6 * l.length + roots.length ∧ vis.Nodup ∧ ∀ x ∈ vis, x ∈ l.map (·.id)
/-- The relation of the inner one. -/
def RRef (q0 : List Int) (fs : List Fld) (vs : List Vl) (WI : World) (bo : Nat) (t i : Value) (wr : World) : Prop :=
  ∃ (k : Nat) (b off : Nat) (c : Nat), k ≤ fs.length ∧ i = .int .i64 k ∧ t = .slice (some ⟨b, off, none⟩) (q0 ++ refs (fs.take k) (vs.take k)).length c ∧ (q0 ++ refs (fs.take k) (vs.take k)).length ≤ c ∧ c ≤ maxLen ∧
    RepL (fun b => b < wr.heap.size ∧ b ≠ bo) wr (some ⟨b, off, none⟩) (q0 ++ refs (fs.take k) (vs.take k)) ∧ Below WI.heap.size WI wr
theorem zeroBool (w : World) : (zeroValue 4).run Tryz.prog w = .ok (.bool false) w := by kernel_rfl
theorem visM_put {vis : List Int} {id : Int} (h : vis.contains id = false) : mput (visM vis) id (.bool true) = visM (vis ++ [id]) := by
  rw [mput_new (by rw [look_vis, h]; rfl)]; simp [visM]
section
variable {w : World} {As : Option Addr} {cs : Nat} {s : List Typ} {Ar : Option Addr} {cr : Nat} {roots : List Int} {bm : Nat} {m : MP} {l : List Ob}
def sliLen : Value → Nat
  | .slice _ n _ => n
  | _ => 0
set_option maxRecDepth 100000 in
set_option maxHeartbeats 4000000 in
theorem merge_come (h1 : s.length ≤ cs) (h2 : cs ≤ maxLen) (h3 : RepL (Bel w) w As s) (im : IMap w bm m) (mo : MObs (Bel w) w m l) (g1 : roots.length ≤ cr) (g2 : cr ≤ maxLen) (g3 : RepL (Bel w) w Ar roots)
    (hl : l.length ≤ 16) (hr : roots.length ≤ 3) (hs5 : ∀ t ∈ s, t.f.length ≤ 5) (ht : ∀ o ∈ l, 0 ≤ o.t ∧ o.t < s.length ∧ o.f.length = (fieldsOf s o.t).length) :
    Calls Tryz.prog 21 #[.agg #[.slice As s.length cs], .map (some bm), .slice Ar roots.length cr] w fun e w' => Below w.heap.size w w' ∧ ∃ bo, e = .returned (.map (some bo)) ∧ w.heap.size ≤ bo ∧ IMap w' bo (visM (comeM s l roots)) := by
  have H3 := Lib.hid h3
  have Im := Lib.hid im
  have Mo := Lib.hid mo
  have G3 := Lib.hid g3
  have Ht := Lib.hid ht
  have Hs5 := Lib.hid hs5
  have zbm := im.lt
  clear h3 im mo g3 ht hs5
  unfold maxLen at h2 g2
  have mk := fun (w : World) => run_makeMap_i (P := Tryz.prog) Tryz.underlying61 w
  go_enter Tryz.func21, Tryz.ntmps21
  go_wp2_with fail
  refine nameW fun W hW => ?_
  have bW : Below w.heap.size w W := by rw [hW]; exact balloc (balloc (Below.refl _ _) _) _
  have x0 : Blk W w.heap.size #[.slice As s.length cs] 24 := by rw [hW]; exact (Blk.new _ _ _).alloc _
  have imo : IMap W (w.heap.size + 1) [] := by rw [hW]; exact IMap.made' (by simp)
  clear hW
  have X0 := Lib.hid x0
  have BW := Lib.hid bW
  have Imo := Lib.hid imo
  have zW : w.heap.size + 2 ≤ W.heap.size := imo.lt
  clear x0 bW imo
  go_loopw [2] (fun t wr => RCome s l roots W (w.heap.size + 1) t wr) (fun t wr => 6 * (l.length - mapN wr (w.heap.size + 1)) + sliLen t)
  case atStart =>
    exact ⟨6 * l.length + roots.length, roots, [], Ar, cr, rfl, g1, by unfold maxLen; exact g2, (RepL.keep G3.out fun b hb => BW.out.block b hb).mono fun b hb => ⟨by have : b < w.heap.size := hb; omega, by have : b < w.heap.size := hb; omega⟩, Imo.out, Kp.refl _ _, rfl, by simp, Nat.le_refl _, List.nodup_nil, by simp⟩
  case round =>
    obtain ⟨n, q, vis, A, c, rfl, hq1, hq2, hrep, imv, kp, hcf, hn1, hn2, hnd, hsub⟩ := hrel
    unfold maxLen at hq2
    have Hrep := Lib.hid hrep
    have Imv := Lib.hid imv
    have Kpp := Lib.hid kp
    have Hcf := Lib.hid hcf
    have Hnd := Lib.hid hnd
    have Hsub := Lib.hid hsub
    have HN := Lib.hid imv.num
    have zwr : W.heap.size ≤ wr.heap.size := kp.size
    clear hrep imv kp hcf hnd hsub
    cases q with
    | nil =>
      have Hv := Lib.hid (show vis = comeM s l roots by rw [← Hcf.out]; cases n <;> rfl)
      clear hn1 hq1
      go_wp2_with fail
      go_ret
      exact ⟨BW.out.trans (Kpp.out.below fun b hb => ⟨by omega, by omega⟩), _, rfl, by omega, by rw [← Hv.out]; exact Imv.out⟩
    | cons id q =>
      obtain ⟨b, off, rfl, ⟨hb1, hb2⟩, hbz, hc⟩ := Hrep.out.int (by simp)
      have c0 : wr.cell? ⟨b, off, none⟩ = some (.int .i64 id) := hc 0 (by simp)
      simp only [List.length_cons] at hq1 hn1
      clear hc
      obtain ⟨off', hoff, hsl⟩ : ∃ off', Hid (q ≠ [] → off' = off + 1) ∧ ∀ w : World, (Instr.slice 26 (.slice (some ⟨b, off, none⟩) (q.length + 1) c) (some (.int .i64 1)) none none).run Tryz.prog w = .ok (.slice (some ⟨b, off', none⟩) q.length (c - 1)) w := by
        refine ⟨if c = 1 then off else off + 1, Lib.hid (fun h => by have := List.length_pos_iff.2 h; rw [if_neg (by omega)]), fun w => ?_⟩
        rw [run_slice_l w 26 (some ⟨b, off, none⟩) (q.length + 1) c (by kernel_rfl) .i64 1 (by omega) (by omega)]
        go_simp
        split <;> rfl
      have imw : IMap wr bm m := (Im.out.below BW.out).keep (Kpp.out.block bm ⟨by omega, by omega⟩)
      have mow : MObs (Bel w) wr m l := Mo.out.keep fun b hb => ⟨hb, (Kpp.out.block b ⟨by have : b < w.heap.size := hb; omega, by have : b < w.heap.size := hb; omega⟩).trans (BW.out.block b hb)⟩
      have lk := run_lookup_i Tryz.underlying58 Tryz.underlying3 (zeroObj _) imw id true
      obtain ⟨n, rfl⟩ : ∃ n', n = n' + 1 := ⟨n - 1, by omega⟩
      have Hrt := Lib.hid (show RepL (fun b => b < wr.heap.size ∧ b ≠ w.heap.size + 1) wr (some ⟨b, off', none⟩) q from fun hq => by rw [hoff.out hq]; exact Hrep.out.tailI hq)
      rcases mow.look (k := id) with ⟨hl1, hany⟩ | ⟨o, us, hf, hid, hl1, hro, hany⟩
      · have Hlo := Lib.hid (show lookOb l id = none by unfold lookOb; rw [List.find?_eq_none]; simpa using hany)
        rw [hl1] at lk
        clear hany imw mow hl1
        go_wp2_with fail
        go_roundw
        case rel => exact ⟨n, q, vis, _, _, rfl, by omega, by unfold maxLen; omega, (RepL.keep Hrt.out fun k hk => (balloc (Below.refl _ _) _).block k hk.1).mono fun k hk => ⟨by simp; omega, hk.2⟩, Imv.out.alloc _, Kpp.out.alloc (fun k hk => hk.1) _, by rw [← Hcf.out]; simp only [comeF, Hlo.out], by omega, by omega, Hnd.out, Hsub.out⟩
        case measure => rw [(Imv.out.alloc _).num, Imv.out.num]; simp [sliLen]
      · have Hlo := Lib.hid (show lookOb l id = some o from hf)
        rw [hl1] at lk
        have lk2 := fun o1 => run_lookup_i Tryz.underlying61 Tryz.underlying3 (zeroBool _) (Imv.out.alloc o1) id false
        rw [look_vis] at lk2
        have hmem := (lookOb_mem hf).1
        cases hv : vis.contains id
        case true =>
          obtain ⟨F, cF, rfl, -, -, -⟩ := hro
          have Hv := Lib.hid hv
          rw [hv] at lk2
          clear hany imw mow hl1 hf hid hmem hv
          go_wp2_with fail
          go_roundw
          case rel => exact ⟨n, q, vis, _, _, rfl, by omega, by unfold maxLen; omega, (RepL.keep Hrt.out fun k hk => (balloc (Below.refl _ _) _).block k hk.1).mono fun k hk => ⟨by simp; omega, hk.2⟩, Imv.out.alloc _, Kpp.out.alloc (fun k hk => hk.1) _, by rw [← Hcf.out]; simp only [comeF, Hlo.out, Hv.out, if_true], by omega, by omega, Hnd.out, Hsub.out⟩
          case measure => rw [(Imv.out.alloc _).num, Imv.out.num]; simp [sliLen]
        case false =>
          have Hv := Lib.hid hv
          rw [hv] at lk2
          have hids : id ∈ l.map (·.id) := by rw [← hid]; exact List.mem_map_of_mem hmem
          have hnv : id ∉ vis := by simpa using hv
          have hnd2 : (vis ++ [id]).Nodup := List.nodup_append.2 ⟨Hnd.out, by simp, by intro a ha b hb; simp at hb; subst hb; rintro rfl; exact hnv ha⟩
          have hsub2 : ∀ x ∈ vis ++ [id], x ∈ l.map (·.id) := by intro x hx; rcases List.mem_append.1 hx with h | h; exact Hsub.out x h; simp at h; subst h; exact hids
          have hvl := nodup_sub_len hnd2 hsub2
          simp only [List.length_append, List.length_map, List.length_cons, List.length_nil] at hvl
          have Hnd2 := Lib.hid hnd2
          have Hsub2 := Lib.hid hsub2
          obtain ⟨F, cF, rfl, hF1, hF2, hF3⟩ := hro
          have hof := Ht.out o hmem
          obtain ⟨ti, hti⟩ : ∃ t : Nat, o.t = t := ⟨o.t.toNat, by omega⟩
          have hlt : ti < s.length := by omega
          obtain ⟨bs, offs, hAs, hSs, hbsz, hcs⟩ := H3.out.typ (by intro e; simp [e] at hlt)
          subst hAs
          have Hfs := Lib.hid (show fieldsOf s o.t = s[ti].f by simp [fieldsOf, hti, List.getD_eq_getElem?_getD, hlt])
          have hx5 := Hs5.out _ (List.getElem_mem hlt)
          replace hcs := hcs ti hlt
          generalize s[ti] = x at hcs Hfs hx5
          obtain ⟨Fx, cx, x0, x1, hx1, hx2, hx3, _⟩ := hcs
          have Hlen := Lib.hid (show o.f.length = x.f.length by rw [hof.2.2, Hfs.out])
          have Hti := Lib.hid hti
          have HF3 := Lib.hid hF3
          have HX3 := Lib.hid hx3
          have k1 : ∀ {b o v}, w.cell? ⟨b, o, none⟩ = some v → wr.cell? ⟨b, o, none⟩ = some v := fun {b o v} h => Kpp.out.cell ⟨by have := block_lt h; omega, by have := block_lt h; omega⟩ (keep1 BW.out h)
          have X1 := Lib.hid (And.intro (k1 x0) (k1 x1))
          have t0 := Kpp.out.cell (b := w.heap.size) (o := 0) ⟨by omega, by omega⟩ (X0.out.cell (j := 0) rfl)
          have T0 := Lib.hid t0
          have hti0 : (0 : Int) ≤ (ti : Int) := Int.natCast_nonneg _
          have hti1 : (ti : Int) < (s.length : Int) := by omega
          clear hany imw mow hl1 hf hid hmem hv hids hnv hnd2 hsub2 hof hti hF3 hx3 k1 x0 x1 t0
          have xo : Blk (wr.alloc (.cells #[.int .i64 o.id, .int .i64 o.t, .slice F o.f.length cF] 45)) wr.heap.size #[.int .i64 o.id, .int .i64 (ti : Int), .slice F o.f.length cF] 45 := by rw [Hti.out]; exact Blk.new _ _ _
          have XO := Lib.hid xo
          clear xo
          go_wp2_with (at_mapUpdate; refine wpList_mapUpdate_i rfl _ _ _ _ rfl Tryz.underlying61 Tryz.underlying3 rfl rfl rfl (Imv.out.alloc _) ?_; intro w7 im7 hg7; have xo := XO.out.grown hg7 (fun e => by have := Option.some.inj e; omega); obtain ⟨y0, y1, y2, -⟩ := xo.three; have k7 : ∀ {b o v}, wr.cell? ⟨b, o, none⟩ = some v → b ≠ w.heap.size + 1 → w7.cell? ⟨b, o, none⟩ = some v := fun {b o v} h hne => (cell_keep (hg7.block b (by have := block_lt h; simp; omega) (fun e => hne (Option.some.inj e)))).trans (keep1 (balloc (Below.refl _ _) _) h); have s0 := k7 T0.out (by omega); have s1 := k7 X1.out.1 (by omega); have s2 := k7 X1.out.2 (by omega); clear k7 xo)
          obtain ⟨wo, rfl⟩ : ∃ wo : World, wo = wr := ⟨_, rfl⟩
          have Im7 : Hid (IMap w7 (w.heap.size + 1) (mput (visM vis) id (.bool true))) := Lib.hid im7
          have Hg7 := Lib.hid hg7
          have z7 : wo.heap.size + 1 ≤ w7.heap.size := by have := hg7.size; simpa using this
          have Y := Lib.hid (And.intro y0 (And.intro y1 y2))
          have HX7 := Lib.hid (RepL.keep (HX3.out.below BW.out) fun k hk => rfl)
          have K7 := Lib.hid (show ∀ k, k < wo.heap.size → k ≠ w.heap.size + 1 → w7.heap[k]? = wo.heap[k]? from fun k hk hne => (hg7.block k (by simp; omega) (fun e => hne (Option.some.inj e))).trans ((balloc (Below.refl _ _) _).block k hk))
          clear im7 hg7 y0 y1 y2 s0 s1 s2 lk
          go_loopw [2, 45] (fun t i wr => RRef q x.f o.f w7 (w.heap.size + 1) t i wr) (fun _ i _ => x.f.length - (intOf i).toNat)
          case atStart => exact ⟨0, b, off', c - 1, by omega, rfl, by simp [refs], by simp [refs]; omega, by unfold maxLen; omega, by simp only [refs, List.take_zero, List.append_nil]; exact (RepL.keep Hrt.out fun k hk => K7.out k hk.1 hk.2).mono fun k hk => ⟨by omega, hk.2⟩, Below.refl _ _⟩
          case round =>
            obtain ⟨k, gb, go, cc, hk, rfl, rfl, hcc1, hcc2, hrq, hbi⟩ := hrel
            unfold maxLen at hcc2
            have Hrq := Lib.hid hrq
            have Hbi := Lib.hid hbi
            have zbi := hbi.size
            clear hrq hbi
            have hnq : (q ++ refs (x.f.take k) (o.f.take k)).length ≤ 200 := by
              have := refs_len (x.f.take k) (o.f.take k)
              simp only [List.length_append, List.length_take] at this ⊢
              omega
            by_cases hlk : k < x.f.length
            · have hlk2 : k < o.f.length := by have := Hlen.out; omega
              have Hrs := Lib.hid (refs_snoc x.f o.f k hlk hlk2)
              have KW := Lib.hid (show ∀ k, k < w.heap.size → wr.heap[k]? = w.heap[k]? from fun k hk => (Hbi.out.block k (by omega)).trans ((K7.out k (by omega) (by omega)).trans ((Kpp.out.block k ⟨by omega, by omega⟩).trans (BW.out.block k hk))))
              obtain ⟨bf, offf, hFx, _, hbf, hfs⟩ := (RepL.keep HX3.out KW.out).fld (by intro e; simp [e] at hlk)
              obtain ⟨bv, offv, hF, _, hbv, hvs⟩ := (RepL.keep HF3.out fun k (hk : k < w.heap.size) => (Hbi.out.block k (by omega)).trans (K7.out k (by omega) (by omega))).vl (by intro e; simp [e] at hlk2)
              subst hFx
              subst hF
              replace hfs := hfs k hlk
              replace hvs := (hvs k hlk2).2.2.1
              generalize x.f[k] = f at hfs Hrs
              generalize o.f[k] = v at hvs Hrs
              obtain ⟨d0, d1, d2, _, _⟩ := hfs
              have hk0 : (0 : Int) ≤ (k : Int) := Int.natCast_nonneg _
              have hk1 : (k : Int) < (x.f.length : Int) := by omega
              have hk2 : (k : Int) < (o.f.length : Int) := by omega
              generalize hqn : q ++ refs (x.f.take k) (o.f.take k) = ql at Hrq hcc1 hnq
              have Hqn := Lib.hid hqn
              clear hqn
              rcases Bool.eq_false_or_eq_true (f.kind == 5) with e1 | e1
              · have Hr2 := Lib.hid (show q ++ refs (x.f.take (k + 1)) (o.f.take (k + 1)) = ql ++ [v.r] by rw [Hrs.out, ← List.append_assoc, Hqn.out]; simp at e1; simp [e1])
                have y2 := keep1 Hbi.out Y.out.2.2
                have hsl2 : ∀ w : World, (Instr.slice 26 (.slice (some ⟨gb, go, none⟩) ql.length cc) none (some (.int .i64 (ql.length : Int))) (some (.int .i64 (ql.length : Int)))).run Tryz.prog w = .ok (.slice (some ⟨gb, go, none⟩) ql.length ql.length) w := fun w => by
                  rw [run_slice_hm w 26 (some ⟨gb, go, none⟩) ql.length cc (by kernel_rfl) .i64 .i64 _ _ (by omega) (by omega) (by omega)]
                  go_simp
                go_wp2_with fail
                refine nameW fun W8 hW => ?_
                have b8 : Below wr.heap.size wr W8 := by rw [hW]; exact balloc (Below.refl _ _) _
                have Hrq8 := Lib.hid ((RepL.keep Hrq.out fun k hk => b8.block k hk.1).mono fun k hk => (⟨by have := b8.size; omega, hk.2⟩ : k < W8.heap.size ∧ k ≠ w.heap.size + 1))
                replace y2 := keep1 b8 y2
                have hv8 := keep1 b8 hvs
                have B8 := Lib.hid b8
                clear hW hvs d0 d1 d2 b8
                go_region_law (refine step_append_int rfl (.tmp 58) (.tmp 65) 26 rfl 3 infI Tryz.underlying26 (S := fun b => b < W8.heap.size ∧ b ≠ w.heap.size + 1) (l := ql) (b := gb) (off := go) (by simp [Act.eval]) (RepL.keep Hrq8.out fun b hb => (by first | rfl | exact (balloc (Below.refl _ _) _).block b hb.1 | exact (balloc (Below.refl _ _) _).drew.block b hb.1)) (d := W8.heap.size) (c := 1) (r := v.r) (by simp [Act.eval]) (by go_simp) (by omega) ?_; intro g9 cap9 w9 z9 zz9 hr9 hcap9 hcm9 hg9)
                simp at z9
                have z8 := B8.out.size
                have b9 := Lib.hid ((((bthen Hbi.out B8.out).alloc (by omega) _).drew).grown hg9 (by simp; omega) (by intro k h; cases h))
                clear hg9
                go_wp2_with fail
                go_roundw
                case rel => exact ⟨k + 1, g9, 0, cap9, by omega, by go_num, by rw [Hr2.out]; simp, by rw [Hr2.out]; simpa using hcap9, hcm9, by rw [Hr2.out]; exact hr9.mono fun k hk => ⟨by omega, by omega⟩, b9.out⟩
                case measure => simp [intOf]; omega
              · have Hr2 := Lib.hid (show q ++ refs (x.f.take (k + 1)) (o.f.take (k + 1)) = ql by rw [Hrs.out, ← List.append_assoc, Hqn.out]; simp at e1; simp [e1])
                go_wp2_with fail
                go_roundw
                case rel => exact ⟨k + 1, gb, go, cc, by omega, by go_num, by rw [Hr2.out], by rw [Hr2.out]; exact hcc1, by unfold maxLen; omega, by rw [Hr2.out]; exact (RepL.keep Hrq.out fun k hk => (balloc (Below.refl _ _) _).block k hk.1).mono fun k hk => ⟨by simp; omega, hk.2⟩, balloc Hbi.out _⟩
                case measure => simp [intOf]; omega
            · have Hr2 := Lib.hid (show refs (x.f.take k) (o.f.take k) = refs x.f o.f by rw [List.take_of_length_le (by omega), List.take_of_length_le (by have := Hlen.out; omega)])
              rw [Hr2.out] at Hrq hcc1 hnq
              rw [Hr2.out]
              have hrl := refs_len x.f o.f
              have Hcv := Lib.hid (show comeF (lookOb l) s n (q ++ refs x.f o.f) (vis ++ [id]) = comeM s l roots by rw [← Hcf.out]; simp only [comeF, Hlo.out, Hv.out, Hfs.out]; rfl)
              have imr := Lib.hid (Im7.out.below Hbi.out)
              rw [visM_put Hv.out] at imr
              go_wp2_with fail
              go_roundw
              case rel => exact ⟨n, q ++ refs x.f o.f, vis ++ [id], _, _, rfl, hcc1, by unfold maxLen; omega, Hrq.out, imr.out, (Kpp.out.trans ⟨Hg7.out.os, Hg7.out.tape, Hg7.out.output, by omega, fun k hk => K7.out k (by omega) hk.2⟩).call Hbi.out (fun k hk => hk.1), Hcv.out, by simp only [List.length_append, List.length_cons, List.length_nil]; omega, by omega, Hnd2.out, Hsub2.out⟩
              case measure => rw [imr.out.num, Imv.out.num]; simp [sliLen, visM]; omega
end
end Go.Proofs.YtgeegdnkheckcaaGreat
