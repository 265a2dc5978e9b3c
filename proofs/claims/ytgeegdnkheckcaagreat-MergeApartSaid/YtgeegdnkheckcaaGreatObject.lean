/- The walk of graph.object: may an object be? -/
import Derived.Test.YtgeegdnkheckcaaGreatGraph
set_option linter.unusedVariables false
namespace Go.Proofs.YtgeegdnkheckcaaGreat
open Lay (rep)
open Go.RowKit

def fieldsOf (s : List Typ) (t : Int) : List Fld := (s.getD t.toNat default).f
def objOk (g : Gr) (last : Int) (o : Ob) : Bool :=
  decide (last < o.id) && decide (o.id ≤ 1073741824) && decide (0 ≤ o.t) && decide (o.t < g.s.length) && decide (o.f.length = (fieldsOf g.s o.t).length) &&
    allFrom (fun k v => leads g ((fieldsOf g.s o.t).getD k default) v) 0 o.f

set_option maxRecDepth 100000 in
set_option maxHeartbeats 4000000 in
theorem graph_object {w : World} {As : Option Addr} {cs : Nat} {Ao : Option Addr} {co : Nat} {Ar : Option Addr} {cr : Nat} {g : Gr} {b : Nat} {o : Ob} {last : Int} {Af : Option Addr} {cf : Nat}
    (hg : GOK w As cs Ao co Ar cr g) (hm : IMap w b (typesM g.o)) (hf1 : o.f.length ≤ cf) (hf2 : cf ≤ maxLen) (hf : RepL (Bel w) w Af o.f) :
    Calls Tryz.prog 39 #[gv As cs Ao co Ar cr g, .map (some b), .agg #[.int .i64 o.id, .int .i64 o.t, .slice Af o.f.length cf], .int .i64 last] w
      fun e w' => e = .returned (.bool (objOk g last o)) ∧ Below w.heap.size w w' := by
  have Hg := Lib.hid hg
  have Hm := Lib.hid hm
  have Hf2 := Lib.hid hf2
  have Hf := Lib.hid hf
  have hs1 := hg.s1
  have hs2 := hg.s2
  unfold maxLen at hs2 hf2
  clear hg hm hf
  have bal : ∀ o1 o2, Below w.heap.size w ((w.alloc o1).alloc o2) := fun _ _ => balloc (balloc (Below.refl _ _) _) _
  have Bal := Lib.hid bal
  clear bal
  by_cases h1 : last < o.id
  case neg =>
    have e1 : decide (o.id ≤ last) = true := by simp; omega
    have Hr := Lib.hid (show objOk g last o = false by simp [objOk, h1])
    clear h1
    go_enter Tryz.func39, Tryz.ntmps39
    go_wp2_with fail
    go_ret
    exact ⟨by rw [Hr.out]; rfl, Bal.out _ _⟩
  have e1 : decide (o.id ≤ last) = false := by simp; omega
  by_cases h2 : o.id ≤ 1073741824
  case neg =>
    have e2 : decide (1073741824 < o.id) = true := by simp; omega
    have Hr := Lib.hid (show objOk g last o = false by simp [objOk, h2])
    clear h1 h2
    go_enter Tryz.func39, Tryz.ntmps39
    go_wp2_with fail
    go_ret
    exact ⟨by rw [Hr.out]; rfl, Bal.out _ _⟩
  have e2 : decide (1073741824 < o.id) = false := by simp; omega
  by_cases h3 : 0 ≤ o.t
  case neg =>
    have e3 : decide (o.t < 0) = true := by simp; omega
    have Hr := Lib.hid (show objOk g last o = false by simp [objOk, h3])
    clear h1 h2 h3
    go_enter Tryz.func39, Tryz.ntmps39
    go_wp2_with fail
    go_ret
    exact ⟨by rw [Hr.out]; rfl, Bal.out _ _⟩
  have e3 : decide (o.t < 0) = false := by simp; omega
  by_cases h4 : o.t < g.s.length
  case neg =>
    have e4 : decide ((g.s.length : Int) ≤ o.t) = true := by simp; omega
    have Hr := Lib.hid (show objOk g last o = false by simp [objOk, h4])
    clear h1 h2 h3 h4
    go_enter Tryz.func39, Tryz.ntmps39
    go_wp2_with fail
    go_ret
    exact ⟨by rw [Hr.out]; rfl, Bal.out _ _⟩
  have e4 : decide ((g.s.length : Int) ≤ o.t) = false := by simp; omega
  obtain ⟨t, ht⟩ : ∃ t : Nat, o.t = t := ⟨o.t.toNat, by omega⟩
  have hlt : t < g.s.length := by omega
  obtain ⟨bs, offs, rfl, hS, hbz, hcs⟩ := (Hg.out.s).typ (by intro e; simp [e] at hlt)
  have Hfs := Lib.hid (show fieldsOf g.s o.t = g.s[t].f by simp [fieldsOf, ht, List.getD_eq_getElem?_getD, hlt])
  replace hcs := hcs t hlt
  generalize g.s[t] = x at hcs Hfs
  obtain ⟨F, cF, c0, c1, hF1, hF2, hF3, _⟩ := hcs
  have HF3 := Lib.hid hF3
  clear hF3
  rw [ht] at e3 e4
  by_cases h5 : o.f.length = x.f.length
  case neg =>
    have e5 : ((o.f.length : Int) != (x.f.length : Int)) = true := by simp; omega
    have Hr := Lib.hid (show objOk g last o = false by simp [objOk, Hfs.out, h5])
    have Ht := Lib.hid ht
    rw [ht]
    clear h1 h2 h3 h4 h5 ht
    go_enter Tryz.func39, Tryz.ntmps39
    go_wp2_with fail
    go_ret
    exact ⟨by rw [Hr.out]; rfl, Bal.out _ _⟩
  have e5 : ((o.f.length : Int) != (x.f.length : Int)) = false := by simp; omega
  have e4n : decide (g.s.length ≤ t) = false := by simp; omega
  have Hr := Lib.hid (show objOk g last o = allFrom (fun k v => leads g (x.f.getD k default) v) 0 (o.f.drop 0) by simp [objOk, Hfs.out, h5, h1, h2, h3, h4])
  have Ht := Lib.hid ht
  rw [ht]
  have HL := Lib.hid h5
  clear h1 h2 h3 h4 ht h5
  go_enter Tryz.func39, Tryz.ntmps39
  go_wp2_with fail
  refine nameW fun WL hW => ?_
  have b1 : Below w.heap.size w WL := by rw [hW]; exact balloc (balloc (Below.refl _ _) _) _
  have q0 : WL.cell? ⟨w.heap.size, 0, none⟩ = some (.slice (some ⟨bs, offs, none⟩) g.s.length cs) := by rw [hW]; go_simp
  have q1 : WL.cell? ⟨w.heap.size, 1, none⟩ = some (.slice Ao g.o.length co) := by rw [hW]; go_simp
  have q2 : WL.cell? ⟨w.heap.size, 2, none⟩ = some (.slice Ar g.roots.length cr) := by rw [hW]; go_simp
  clear hW
  have Q := Lib.hid (And.intro q0 (And.intro q1 q2))
  clear q0 q1 q2 c0 c1 hbz hS
  go_loopw [52] (fun i wr => ∃ k : Nat, k ≤ o.f.length ∧ i = .int .i64 k ∧ Below WL.heap.size WL wr ∧ objOk g last o = allFrom (fun k v => leads g (x.f.getD k default) v) k (o.f.drop k)) (fun i _ => o.f.length - (intOf i).toNat)
  case atStart => exact ⟨0, Nat.zero_le _, rfl, Below.refl _ _, Hr.out⟩
  case round =>
    obtain ⟨k, hk, rfl, hbl, hi⟩ := hrel
    have Hi := Lib.hid hi
    have bwr := bthen b1 hbl
    have Hbl := Lib.hid hbl
    have B1 := Lib.hid b1
    clear hi hbl b1 Hr
    by_cases hlt2 : k < o.f.length
    · have hkx : k < x.f.length := by have := HL.out; omega
      obtain ⟨bv, offv, rfl, _, hbv, hvs⟩ := (Hf.out.below bwr).vl (by intro e; simp [e] at hlt2)
      obtain ⟨bf, offf, rfl, _, hbf, hfs⟩ := (HF3.out.below bwr).fld (by intro e; simp [e] at hkx)
      have Hd := Lib.hid (allFrom_drop (fun k v => leads g (x.f.getD k default) v) o.f k hlt2)
      have Hx := Lib.hid (show x.f.getD k default = x.f[k] by simp [List.getD_eq_getElem?_getD, hkx])
      replace hvs := hvs k hlt2
      replace hfs := hfs k hkx
      generalize o.f[k] = v at hvs Hd
      generalize x.f[k] = f at hfs Hx
      obtain ⟨v0, v1, v2, _⟩ := hvs
      obtain ⟨d0, d1, d2, _, _⟩ := hfs
      have Bwr := Lib.hid bwr
      clear bwr
      have hk0 : (0 : Int) ≤ (k : Int) := Int.natCast_nonneg _
      have hk1 : (k : Int) < (x.f.length : Int) := by omega
      go_wp2_with fail
      refine nameW fun W hW => ?_
      have bW : Below wr.heap.size wr W := by rw [hW]; exact balloc (Below.refl _ _) _
      have hQ := Q.out
      have s0 := keep1 bW (keep1 Hbl.out hQ.1)
      have s1 := keep1 bW (keep1 Hbl.out hQ.2.1)
      have s2 := keep1 bW (keep1 Hbl.out hQ.2.2)
      clear hQ
      have t0 := keep1 bW d0
      have t1 := keep1 bW d1
      have t2 := keep1 bW d2
      have u0 : W.cell? ⟨wr.heap.size, 0, none⟩ = some (.int .i64 v.n) := by rw [hW]; go_simp
      have u1 : W.cell? ⟨wr.heap.size, 1, none⟩ = some (.string v.s) := by rw [hW]; go_simp
      have u2' : W.cell? ⟨wr.heap.size, 2, none⟩ = some (.int .i64 v.r) := by rw [hW]; go_simp
      clear hW v0 v1 v2 d0 d1 d2
      have bWd : Below w.heap.size w W.drew := (bthen Bwr.out bW).drew
      have hb0 : Below W.heap.size W W.drew := (Below.refl _ _).drew
      cases hl : leads g f v
      all_goals
        have HlH := Lib.hid hl
        clear hl
        go_region_held3 (fun w' => Below W.heap.size W w' ∧ w'.cell? ⟨w.heap.size, 0, none⟩ = some (.slice (some ⟨bs, offs, none⟩) g.s.length cs) ∧ w'.cell? ⟨w.heap.size, 1, none⟩ = some (.slice Ao g.o.length co) ∧ w'.cell? ⟨w.heap.size, 2, none⟩ = some (.slice Ar g.roots.length cr) ∧
            w'.cell? ⟨bf, offf + k * 3, none⟩ = some (.string f.name) ∧ w'.cell? ⟨bf, offf + k * 3 + 1, none⟩ = some (.int .i64 f.kind) ∧ w'.cell? ⟨bf, offf + k * 3 + 2, none⟩ = some (.string f.to) ∧
            w'.cell? ⟨wr.heap.size, 0, none⟩ = some (.int .i64 v.n) ∧ w'.cell? ⟨wr.heap.size, 1, none⟩ = some (.string v.s) ∧ w'.cell? ⟨wr.heap.size, 2, none⟩ = some (.int .i64 v.r))
          (first | exact ⟨hb0, s0, s1, s2, t0, t1, t2, u0, u1, u2'⟩ | exact ⟨hb1, keep1 hb1 s0, keep1 hb1 s1, keep1 hb1 s2, keep1 hb1 t0, keep1 hb1 t1, keep1 hb1 t2, keep1 hb1 u0, keep1 hb1 u1, keep1 hb1 u2'⟩)
          (first | (go_at_call 43; refine (graph_leads (Hg.out.below bWd) (Hm.out.below bWd)).mono ?_; rintro e w1 ⟨rfl, hb1⟩; rw [HlH.out]; replace hb1 := below_drew hb1))
        go_wp2_with fail
      · go_ret
        exact ⟨by rw [Hi.out, Hd.out, Hx.out, HlH.out]; rfl, bthen (bthen Bwr.out bW) hb1⟩
      · go_roundw
        case rel => exact ⟨k + 1, by omega, by go_num, bthen Hbl.out (bthen bW hb1), by rw [Hi.out, Hd.out, Hx.out, HlH.out]; rfl⟩
        case measure => simp [intOf]; omega
    · go_wp2_with fail
      go_ret
      exact ⟨by rw [Hi.out, allFrom_end _ _ _ hlt2]; rfl, bwr⟩
end Go.Proofs.YtgeegdnkheckcaaGreat
