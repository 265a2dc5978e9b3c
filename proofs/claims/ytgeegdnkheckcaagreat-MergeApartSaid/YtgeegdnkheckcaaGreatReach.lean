/- The walk of graph.Reach. -/
import Derived.Test.YtgeegdnkheckcaaGreatReachC
import Derived.Test.YtgeegdnkheckcaaGreatInts
import Derived.Laws.EntriesVeiled
set_option linter.unusedVariables false
namespace Go.Proofs.YtgeegdnkheckcaaGreat
open Lay (rep)
open Go.RowKit

/-- What is come to, in order. -/
def reachL (g : Gr) : List Int := if grMay g then sortI (g.roots.foldl (fun v r => dfs g (g.o.length + 1) r v) []) else []
section
variable {P : Program} {kt : TypeId} {ops : Array Oper} {rest : List Oper} {o : Oper} {a : Act} {Q : Exit → Act → World → Prop}
theorem run_insert_empty {t e : TypeId} {W : World} {b : Nat} (hb : W.heap[b]? = some (.map #[] 0)) (ht : P.underlying t = some (.map kt e)) (hk : P.underlying kt = some (.int .i64)) (k : Int) (v : Value) :
    (Instr.mapUpdate t (.map (some b)) (.int .i64 k) v).run P W = .ok () { W with heap := W.heap.setIfInBounds b (.map (#[].push { key := .int .i64 k, val := v, born := 0 }) 1) } := by
  have h1 : Instr.findNow (.int .i64) (.int .i64 k) [] 0 = some none := rfl
  have hlt : b < W.heap.size := (Array.getElem?_eq_some_iff.1 hb).1
  simp [Instr.mapUpdate, run_underlying ht, getObj, setObj, Sem.run, hb, run_checkKey_i hk, Instr.findKey, run_underlying hk, h1, Result.andThen, go_sem]
theorem run_insert_made {t e : TypeId} (w0 : World) (ht : P.underlying t = some (.map kt e)) (hk : P.underlying kt = some (.int .i64)) (k : Int) (v : Value) :
    ∃ w', (Instr.mapUpdate t (.map (some w0.heap.size)) (.int .i64 k) v).run P (w0.alloc (.map #[] 0)) = .ok () w' ∧ IMap w' w0.heap.size [(k, v)] ∧ Below w0.heap.size w0 w' ∧ w'.heap.size = w0.heap.size + 1 := by
  refine ⟨_, run_insert_empty (heap_alloc_new w0 (.map #[] 0)) ht hk k v, ⟨#[].push { key := .int .i64 k, val := v, born := 0 }, 1, ?_, ?_, ?_, ?_⟩, ?_, ?_⟩
  · simp [Array.getElem?_setIfInBounds]
  · simp
  · simp
  · simp
  · refine ((Below.refl _ w0).alloc (Nat.le_refl _) (.map #[] 0)).trans ?_
    refine ⟨rfl, rfl, rfl, by simp, fun i hi => ?_⟩
    have : w0.heap.size ≠ i := fun e => by omega
    simp [Array.getElem?_setIfInBounds, this]
  · simp
theorem wpList_insert_made {w0 : World} (hg : o.guard = none) (mo ko vo : Operand) (t : TypeId) (hop : o.op = Op.insert t mo ko vo) {e : TypeId} (ht : P.underlying t = some (.map kt e)) (hk : P.underlying kt = some (.int .i64))
    {k : Int} {v : Value} (em : a.eval mo = .map (some w0.heap.size)) (ek : a.eval ko = .int .i64 k) (ev : a.eval vo = v)
    (hK : ∀ w', IMap w' w0.heap.size [(k, v)] → Below w0.heap.size w0 w' → w'.heap.size = w0.heap.size + 1 → wpList P ops Q rest (a.put o.dst undef) w') : wpList P ops Q (o :: rest) a (w0.alloc (.map #[] 0)) := by
  refine wpList_plain hg fun K' hK' => ?_
  obtain ⟨w', hrun, r1, r2, r3⟩ := run_insert_made w0 ht hk k v
  unfold Oper.wp
  simp [execOp, hop, em, ek, ev, hrun, Result.andThen]
  exact hK' _ _ (hK w' r1 r2 r3)
end
theorem OwnL.lower {α : Type} [Lay α] {S : Nat → Prop} {w : World} {b1 b2 : Nat} {e : TypeId} {v : Value} {l : List α} (h : OwnL S w b1 e v l) (hle : b2 ≤ b1) : OwnL S w b2 e v l := by
  obtain ⟨xs, hx, hr⟩ := h.out
  exact ⟨xs, ⟨hx.1, hx.2.imp id fun ⟨g, cap, cur, h1, h2, h3⟩ => ⟨g, cap, cur, h1, Nat.le_trans hle h2, h3⟩⟩, hr⟩
section
variable {w : World} {As : Option Addr} {cs : Nat} {Ao : Option Addr} {co : Nat} {Ar : Option Addr} {cr : Nat} {g : Gr}
set_option maxRecDepth 100000 in
set_option maxHeartbeats 4000000 in
theorem graph_Reach (hg : GOK w As cs Ao co Ar cr g) :
    Calls Tryz.prog 28 #[gv As cs Ao co Ar cr g] w fun e w' => Below w.heap.size w w' ∧ ∃ v, e = .returned v ∧ OwnL (fun _ => False) w' w.heap.size 3 v (reachL g) := by
  have Hg := Lib.hid hg
  have hr1 := hg.r1
  have hr2 := hg.r2
  unfold maxLen at hr2
  clear hg
  have mk := fun (w : World) => run_makeMap_i (P := Tryz.prog) Tryz.underlying61 w
  go_enter Tryz.func28, Tryz.ntmps28
  go_wp2_with fail
  refine nameC fun W hW => ?_
  have bW : Below w.heap.size w W := by rw [hW]; exact balloc (Below.refl _ _) _
  have g0 : Blk W w.heap.size #[.slice As g.s.length cs, .slice Ao g.o.length co, .slice Ar g.roots.length cr] 28 := by rw [hW]; exact Blk.new _ _ _
  clear hW
  refine (graph_May (Hg.out.below bW)).mono ?_
  rintro e w1 ⟨rfl, hb1⟩
  have b1 := bthen bW hb1
  have G0 := Lib.hid (g0.below hb1)
  have zg := G0.out.lt
  have sz1 := b1.size
  clear g0 bW hb1
  cases hm : grMay g
  · have Hr := Lib.hid (show reachL g = [] by simp [reachL, hm])
    clear hm
    go_wp2_with fail
    go_ret
    exact ⟨b1, _, rfl, by rw [Hr.out]; exact OwnL.nil⟩
  · have Mg := Lib.hid (mayG hm)
    have Hr := Lib.hid (show reachL g = sortI (g.roots.foldl (fun v r => dfs g (g.o.length + 1) r v) []) by simp [reachL, hm])
    clear hm
    obtain ⟨c0, c1, c2, -⟩ := G0.out.three
    go_wp2_with (refine wpList_insert_made rfl _ _ _ _ rfl Tryz.underlying61 Tryz.underlying3 rfl rfl rfl ?_; intro w2 im2 hb2 hs2; have Hs2 := Lib.hid hs2; clear hs2; have hc2 : ∀ o1 o2 o3, (((w2.alloc o1).alloc o2).alloc o3).cell? ⟨w.heap.size, 2, none⟩ = some (.slice Ar g.roots.length cr) := fun o1 o2 o3 => keep1 (balloc (balloc (balloc hb2 _) _) _) c2)
    refine nameW fun W3 hW => ?_
    have b13 : Below w1.heap.size w1 W3 := by rw [hW]; exact balloc (balloc (balloc hb2 _) _) _
    have hwas : Blk W3 (w1.heap.size + 1) #[.map (some w1.heap.size)] 61 := by rw [hW, ← Hs2.out]; exact ((Blk.new _ _ _).alloc _).alloc _
    have houtb : Blk W3 (w1.heap.size + 2) #[.slice none 0 0] 26 := by rw [hW]; exact (Blk.new' (by simp [Hs2.out]) _ _).alloc _
    have hfn : Blk W3 (w1.heap.size + 3) #[.func (.func 56) #[] #[.pointer (some ⟨w1.heap.size + 1, 0, none⟩), .pointer (some ⟨w1.heap.size + 2, 0, none⟩), .pointer (some ⟨w.heap.size, 0, none⟩), .pointer (some ⟨w1.heap.size + 3, 0, none⟩)]] 106 := by
      rw [hW, Hs2.out]; exact Blk.new' (by simp [Hs2.out]) _ _
    have him : IMap W3 w1.heap.size (visM (-1 :: [])) := by rw [hW]; exact ((im2.alloc _).alloc _).alloc _
    have hs3 : W3.heap.size = w1.heap.size + 4 := by rw [hW]; simp [Hs2.out]
    have e3 : w2.heap.size + 1 + 1 = w1.heap.size + 3 := by rw [Hs2.out]
    have e2 : w2.heap.size + 1 = w1.heap.size + 2 := by rw [Hs2.out]
    have e1 : w2.heap.size = w1.heap.size + 1 := Hs2.out
    rw [e3, e2, e1]
    have R3 := Lib.hid (show RInv w w.heap.size w1.heap.size (.slice As g.s.length cs) (.slice Ao g.o.length co) (.slice Ar g.roots.length cr) W3 [] (.slice none 0 0) from
      ⟨hwas, him, houtb, OwnL.nil, G0.out.below b13, hfn, bthen b1 b13, by omega, Nat.le_refl _, zg⟩)
    clear hwas him houtb hfn e1 e2 e3 hb2 hc2 im2 Hs2 hW c0 c1 c2 hs3 b13
    generalize w1.heap.size = bw at *
    go_loopw [17] (fun i wr => ∃ (k : Nat) (v : Value), k ≤ g.roots.length ∧ i = .int .i64 k ∧ RInv w w.heap.size bw (.slice As g.s.length cs) (.slice Ao g.o.length co) (.slice Ar g.roots.length cr) wr ((g.roots.take k).foldl (fun v r => dfs g (g.o.length + 1) r v) []) v) (fun i _ => g.roots.length - (intOf i).toNat)
    case atStart => exact ⟨0, _, Nat.zero_le _, rfl, by simpa using R3.out⟩
    case round =>
      obtain ⟨k, v, hk, rfl, ri⟩ := hrel
      have Ri := Lib.hid ri
      clear ri
      have Hvis := Lib.hid (visFold (g := g) (g.o.length + 1) (g.roots.take k) (v := []) ⟨List.nodup_nil, fun _ h => absurd h (List.not_mem_nil)⟩).1
      by_cases hlk : k < g.roots.length
      · obtain ⟨br, offr, hAr, _, hbr, hrs⟩ := (Hg.out.r).int (by intro e; simp [e] at hlk)
        subst hAr
        have hrk := keep1 Ri.out.below (hrs k hlk)
        have Hrt := Lib.hid (Mg.out.root (List.getElem_mem hlk))
        have Htk := Lib.hid (show (g.roots.take (k + 1)).foldl (fun v r => dfs g (g.o.length + 1) r v) [] = dfs g (g.o.length + 1) g.roots[k] ((g.roots.take k).foldl (fun v r => dfs g (g.o.length + 1) r v) []) by
          rw [List.take_succ_eq_append_getElem hlk, List.foldl_append]; rfl)
        generalize g.roots[k] = r at hrk Hrt Htk
        have hk0 : (0 : Int) ≤ (k : Int) := Int.natCast_nonneg _
        have hk1 : (k : Int) < (g.roots.length : Int) := by omega
        obtain ⟨f0, -⟩ := Ri.out.fn.one
        have zf := Ri.out.fn.lt
        have ihr := Lib.hid (reach1_Calls Hg.out Mg.out (g.o.length + 1) Ri.out Hvis.out Hrt.out (by omega))
        have eg : ∀ args w, (callFunc 56 args).run Tryz.prog w = .ok (.enter 56 args) w := enters_of Tryz.func56 (by kernel_rfl) rfl
        clear hrs
        go_wp2_with (go_at_call 56; refine ihr.out.mono ?_; rintro e w7 ⟨rfl, v7, ri7, kp7, hv7⟩)
        go_roundw
        case rel => exact ⟨k + 1, v7, by omega, by go_num, by rw [Htk.out]; exact ri7⟩
        case measure => simp [intOf]; omega
      · obtain ⟨f0, -⟩ := Ri.out.outb.one
        have Hall := Lib.hid (show g.roots.take k = g.roots from List.take_of_length_le (by omega))
        have hvl := Hvis.out.len
        have ho8 := Mg.out.objs
        have srt := Lib.hid (sort_ints Ri.out.own (by omega))
        have hvb : ∀ b, b < bw + 4 → v.ownBlock ≠ some b := fun b hb e => by have := (Ri.out.own.base_le b e).1; omega
        have zf := Ri.out.outb.lt
        go_wp2_with (go_at_call 57; refine srt.out.mono ?_; rintro e w8 ⟨rfl, kp8, own8⟩; have f8 := kp8.cell ⟨zf, hvb _ (by omega)⟩ f0)
        go_ret
        exact ⟨Ri.out.below.trans (kp8.below fun b hb => ⟨by have := Ri.out.below.size; omega, hvb b (by omega)⟩), v, rfl, by rw [Hr.out, ← Hall.out]; exact own8.lower (by omega)⟩
end
end Go.Proofs.YtgeegdnkheckcaaGreat
