/- The walk of merge's all: all objects that are in a, or in b, all roots, and what clashes. -/
import Derived.Test.YtgeegdnkheckcaaGreatMObj
import Derived.Test.YtgeegdnkheckcaaGreatMap
set_option linter.unusedVariables false
namespace Go.Proofs.YtgeegdnkheckcaaGreat
open Lay (rep)
open Go.RowKit

/-! ### Pure -/
/-- One more object of a side: nothing, if its id is there. -/
def allStep (o a b : Gr) (s : List Ob × List (Int × Int)) (x : Ob) : List Ob × List (Int × Int) :=
  if s.1.any (fun y => y.id == x.id) then s else (s.1 ++ [(objM o a b x.id).1], s.2 ++ (objM o a b x.id).2.map fun k => (x.id, k))
def allObs (o a b : Gr) (l : List Ob) : List Ob × List (Int × Int) := l.foldl (allStep o a b) ([], [])
theorem allObs_snoc (o a b : Gr) (l : List Ob) (x : Ob) : allObs o a b (l ++ [x]) = allStep o a b (allObs o a b l) x := by simp [allObs]
def rootM (o a b : Gr) (i : Nat) : Int × Bool := stands (rootAt o (i : Int)) (rootAt a (i : Int)) (rootAt b (i : Int))
def rootsM (o a b : Gr) (n : Nat) : List Int := (List.range n).map fun i => (rootM o a b i).1
def rootsClash (o a b : Gr) (n : Nat) : List Int := ((List.range n).filter fun i => !(rootM o a b i).2).map fun i : Nat => (i : Int)
def allM (o a b : Gr) : List Ob × List Int × Ch :=
  let n := max a.roots.length b.roots.length
  ((allObs o a b (a.o ++ b.o)).1, rootsM o a b n, ⟨[], [], (allObs o a b (a.o ++ b.o)).2, rootsClash o a b n⟩)
theorem rootsM_snoc (o a b : Gr) (n : Nat) : rootsM o a b (n + 1) = rootsM o a b n ++ [(rootM o a b n).1] := by
  unfold rootsM; rw [List.range_succ, List.map_append]; rfl
theorem rootsClash_snoc (o a b : Gr) (n : Nat) : rootsClash o a b (n + 1) = rootsClash o a b n ++ (if (rootM o a b n).2 then [] else [(n : Int)]) := by
  unfold rootsClash
  rw [List.range_succ, List.filter_append, List.map_append]
  cases h : (rootM o a b n).2 <;> simp [h]
theorem rootsM_len (o a b : Gr) (n : Nat) : (rootsM o a b n).length = n := by simp [rootsM]
theorem rootsClash_len (o a b : Gr) (n : Nat) : (rootsClash o a b n).length ≤ n := by
  unfold rootsClash; rw [List.length_map]; exact Nat.le_trans (List.length_filter_le _ _) (by simp)
theorem objM_len {o a b : Gr} (Ma : MayG a) (id : Int) : (objM o a b id).2.length ≤ 5 := by
  unfold objM
  cases hx : obOf a id with
  | none => simp
  | some x =>
    cases hy : obOf b id with
    | none => simp
    | some y =>
      have h1 := Ma.fields (obOf_mem hx).1
      exact Nat.le_trans (mClash_len _ _ _ _) h1
theorem objM_fields {o a b : Gr} (Ma : MayG a) (Mb : MayG b) (id : Int) : (objM o a b id).1.f.length ≤ 5 := by
  unfold objM
  cases hx : obOf a id with
  | none =>
    cases hy : obOf b id with
    | none => exact Nat.zero_le _
    | some y => exact Mb.fields (obOf_mem hy).1
  | some x =>
    have h1 := Ma.fields (obOf_mem hx).1
    cases hy : obOf b id with
    | none => exact h1
    | some y => simp [mF]; exact h1
theorem objM_id {o a b : Gr} {id : Int} (h : (obOf a id).isSome = true ∨ (obOf b id).isSome = true) : (objM o a b id).1.id = id := by
  unfold objM
  cases hx : obOf a id with
  | none =>
    cases hy : obOf b id with
    | none => simp [hx, hy] at h
    | some y => exact (obOf_mem hy).2
  | some x =>
    cases hy : obOf b id with
    | none => exact (obOf_mem hx).2
    | some y => exact (obOf_mem hx).2
theorem allStep_len {o a b : Gr} (Ma : MayG a) (s : List Ob × List (Int × Int)) (x : Ob) : (allStep o a b s x).2.length ≤ s.2.length + 5 ∧ (allStep o a b s x).1.length ≤ s.1.length + 1 := by
  unfold allStep
  split
  · exact ⟨by omega, by omega⟩
  · have := objM_len (o := o) (b := b) Ma x.id
    simp; exact this
theorem allObs_len {o a b : Gr} (Ma : MayG a) (l : List Ob) : (allObs o a b l).2.length ≤ 5 * l.length ∧ (allObs o a b l).1.length ≤ l.length := by
  unfold allObs
  suffices ∀ (s : List Ob × List (Int × Int)), (l.foldl (allStep o a b) s).2.length ≤ s.2.length + 5 * l.length ∧ (l.foldl (allStep o a b) s).1.length ≤ s.1.length + l.length by simpa using this ([], [])
  induction l with
  | nil => intro s; simp
  | cons x l ih =>
    intro s
    have h1 := ih (allStep o a b s x)
    have h2 := allStep_len (o := o) (b := b) Ma s x
    simp only [List.foldl_cons, List.length_cons]
    omega

/-! ### A map that holds objects. -/
def MObs (S : Nat → Prop) (w : World) : MP → List Ob → Prop
  | [], [] => True
  | p :: m, x :: l => (∃ us : List Value, p = (x.id, .agg us.toArray) ∧ rep S w us x) ∧ MObs S w m l
  | _, _ => False
section
variable {S S' : Nat → Prop} {w w' : World}
theorem MObs.keep : ∀ {m : MP} {l : List Ob}, MObs S w m l → (∀ b, S b → S' b ∧ w'.heap[b]? = w.heap[b]?) → MObs S' w' m l
  | [], [], h, _ => h
  | p :: m, x :: l, ⟨⟨us, h1, h2⟩, h3⟩, hS => ⟨⟨us, h1, Lay.mono (Lay.keep h2 fun b hb => (hS b hb).2) fun b hb => (hS b hb).1⟩, h3.keep hS⟩
theorem MObs.len : ∀ {m : MP} {l : List Ob}, MObs S w m l → m.length = l.length
  | [], [], _ => rfl
  | p :: m, x :: l, ⟨_, h3⟩ => by simp [h3.len]
theorem MObs.look {k : Int} : ∀ {m : MP} {l : List Ob}, MObs S w m l → (mlook m k = none ∧ l.any (fun y => y.id == k) = false) ∨ ∃ x us, l.find? (fun y => y.id == k) = some x ∧ x.id = k ∧ mlook m k = some (.agg us.toArray) ∧ rep S w us x ∧ l.any (fun y => y.id == k) = true
  | [], [], _ => .inl ⟨rfl, rfl⟩
  | p :: m, x :: l, ⟨⟨us, h1, h2⟩, h3⟩ => by
    subst h1
    by_cases hx : x.id = k
    · exact .inr ⟨x, us, by simp [hx], hx, by simp [mlook, hx], h2, by simp [hx]⟩
    · rcases h3.look (k := k) with ⟨h4, h5⟩ | ⟨y, vs, h4, h5, h6, h7, h8⟩
      · refine .inl ⟨?_, by simp [hx]; simpa using h5⟩
        simp only [mlook, Option.map_eq_none_iff] at h4 ⊢
        simp [hx, h4]
      · refine .inr ⟨y, vs, by simp [hx, h4], h5, ?_, h7, by rw [List.any_cons, h8]; simp⟩
        simp only [mlook] at h6 ⊢
        simpa [hx] using h6
theorem mput_new {k : Int} {v : Value} : ∀ {m : MP}, mlook m k = none → mput m k v = m ++ [(k, v)]
  | [], _ => rfl
  | p :: m, h => by
    by_cases hp : p.1 = k
    · simp [mlook, hp] at h
    · have : mlook m k = none := by
        simp only [mlook, Option.map_eq_none_iff] at h ⊢
        simpa [hp] using h
      simp [mput, hp, mput_new this]
theorem MObs.snoc {x : Ob} {us : List Value} (hr : rep S w us x) : ∀ {m : MP} {l : List Ob}, MObs S w m l → MObs S w (m ++ [(x.id, .agg us.toArray)]) (l ++ [x])
  | [], [], _ => ⟨⟨us, rfl, hr⟩, trivial⟩
  | p :: m, y :: l, ⟨h1, h3⟩ => ⟨h1, h3.snoc hr⟩
end

/-- The first of all objects, behind k sides. -/
def outL (a b : Gr) : Nat → List Ob
  | 0 => []
  | 1 => a.o
  | _ => a.o ++ b.o
def nilS : Value := .slice none 0 0
/-- The relation of the loops over the sides, and over a side's objects: l is done. -/
def RAll (o a b : Gr) (W0 : World) (bm b5 : Nat) (l : List Ob) (wr : World) : Prop :=
  ∃ (m : MP) (vS : Value), Kp (fun k => k < W0.heap.size ∧ k ≠ bm ∧ k ≠ b5) W0 wr ∧ IMap wr bm m ∧ MObs (fun k => W0.heap.size ≤ k ∧ k < wr.heap.size ∧ vS.ownBlock ≠ some k) wr m (allObs o a b l).1 ∧
    Blk wr b5 #[.slice none 0 0, .slice none 0 0, vS, .slice none 0 0] 33 ∧ OwnL (fun _ => False) wr W0.heap.size 69 vS (allObs o a b l).2
theorem RAll.below {o a b : Gr} {W0 wr w' : World} {bm b5 : Nat} {l : List Ob} (h : RAll o a b W0 bm b5 l wr) (k : Below wr.heap.size wr w') : RAll o a b W0 bm b5 l w' := by
  obtain ⟨m, vS, kp, im, mo, blk, own⟩ := h
  exact ⟨m, vS, kp.call k (fun b hb => hb.1), im.below k, mo.keep fun q hq => ⟨⟨hq.1, Nat.lt_of_lt_of_le hq.2.1 k.size, hq.2.2⟩, k.block q hq.2.1⟩, blk.below k, own.below k (Nat.le_refl _) fun _ h => h.elim⟩
theorem RAll.base {o a b : Gr} {w W0 wr : World} {bm b5 : Nat} {l : List Ob} (h : RAll o a b W0 bm b5 l wr) (hb : Below w.heap.size w W0) (h1 : w.heap.size ≤ bm) (h2 : w.heap.size ≤ b5) : Below w.heap.size w wr := by
  obtain ⟨m, vS, kp, _⟩ := h
  exact hb.trans (kp.below fun b hb' => ⟨Nat.lt_of_lt_of_le hb' hb.size, by omega, by omega⟩)
theorem obOf_self {g : Gr} {x : Ob} (h : x ∈ g.o) : (obOf g x.id).isSome = true := by
  unfold obOf; rw [List.find?_isSome]; exact ⟨x, h, by simp⟩
theorem zeroObj (w : World) : (zeroValue 45).run Tryz.prog w = .ok (.agg #[.int .i64 0, .int .i64 0, .slice none 0 0]) w := by kernel_rfl
/-- The relation of the loop over what clashes of one object. -/
def RIn (WI : World) (b5 base : Nat) (vS : Value) (s : List (Int × Int)) (id : Int) (clash : List Int) (i : Value) (wr : World) : Prop :=
  ∃ (j : Nat) (vT : Value), j ≤ clash.length ∧ i = .int .i64 j ∧ Kp (fun k => k < WI.heap.size ∧ k ≠ b5 ∧ vS.ownBlock ≠ some k) WI wr ∧ Blk wr b5 #[.slice none 0 0, .slice none 0 0, vT, .slice none 0 0] 33 ∧
    OwnL (fun _ => False) wr base 69 vT (s ++ (clash.take j).map fun k => (id, k)) ∧ ∀ q, vT.ownBlock = some q → vS.ownBlock = some q ∨ WI.heap.size ≤ q
/-- The relation of the loop over the roots. -/
def RelM (o a b : Gr) (N b5 : Nat) (wo : World) (vS : Value) (r i : Value) (wr : World) : Prop :=
  ∃ (n : Nat) (vC : Value), n ≤ N ∧ i = .int .i64 n ∧ Kp (fun k => k < wo.heap.size ∧ k ≠ b5) wo wr ∧ Blk wr b5 #[.slice none 0 0, .slice none 0 0, vS, vC] 33 ∧
    OwnL (fun _ => False) wr wo.heap.size 3 r (rootsM o a b n) ∧ OwnL (fun _ => False) wr wo.heap.size 3 vC (rootsClash o a b n) ∧ ∀ q, r.ownBlock = some q → vC.ownBlock ≠ some q
/-- What 'all' tells. -/
def AllV (w w' : World) (e : Ending) (r : List Ob × List Int × Ch) : Prop :=
  ∃ bm m AR cR As cs Ar cr, e = .returned (.tuple #[.map (some bm), .slice AR r.2.1.length cR, cv none 0 none 0 As cs Ar cr r.2.2]) ∧ w.heap.size ≤ bm ∧ IMap w' bm m ∧
    MObs (fun k => w.heap.size ≤ k ∧ k < w'.heap.size ∧ k ≠ bm) w' m r.1 ∧ r.2.1.length ≤ cR ∧ cR ≤ maxLen ∧ RepL (fun k => w.heap.size ≤ k ∧ k < w'.heap.size ∧ k ≠ bm) w' AR r.2.1 ∧ r.2.2.set.length ≤ cs ∧ cs ≤ maxLen ∧ RepL (fun k => w.heap.size ≤ k ∧ k < w'.heap.size ∧ k ≠ bm) w' As r.2.2.set ∧
    r.2.2.roots.length ≤ cr ∧ cr ≤ maxLen ∧ RepL (fun k => w.heap.size ≤ k ∧ k < w'.heap.size ∧ k ≠ bm) w' Ar r.2.2.roots
section
variable {w : World} {As : Option Addr} {cs : Nat} {Ao : Option Addr} {co : Nat} {Ar : Option Addr} {cr : Nat} {o : Gr}
variable {Bs : Option Addr} {ds : Nat} {Bo : Option Addr} {dO : Nat} {Br : Option Addr} {dr : Nat} {a : Gr}
variable {Cs : Option Addr} {es : Nat} {Co : Option Addr} {eo : Nat} {Cr : Option Addr} {er : Nat} {b : Gr}
set_option maxRecDepth 100000 in
set_option maxHeartbeats 4000000 in
theorem merge_all (ho : GOK w As cs Ao co Ar cr o) (ha : GOK w Bs ds Bo dO Br dr a) (hb : GOK w Cs es Co eo Cr er b) (Mo : MayG o) (Ma : MayG a) (Mb : MayG b)
    (hab : ∀ id x y, obOf a id = some x → obOf b id = some y → x.f.length = y.f.length) (hao : ∀ id x z, obOf a id = some x → obOf o id = some z → x.f.length = z.f.length) :
    Calls Tryz.prog 20 #[tv As cs Ao co Ar cr o Bs ds Bo dO Br dr a Cs es Co eo Cr er b] w fun e w' => Below w.heap.size w w' ∧ AllV w w' e (allM o a b) := by
  have HO := Lib.hid ho
  have HA := Lib.hid ha
  have HB := Lib.hid hb
  have Hab := Lib.hid hab
  have Hao := Lib.hid hao
  clear ho ha hb hab hao
  have mk := fun (w : World) => run_makeMap_i (P := Tryz.prog) Tryz.underlying58 w
  go_enter Tryz.func20, Tryz.ntmps20
  go_wp2_with fail
  refine nameW fun W hW => ?_
  have bW : Below w.heap.size w W := by rw [hW]; exact balloc (balloc (balloc (balloc (Below.refl _ _) _) _) _) _
  have t0 : Blk W w.heap.size #[.slice As o.s.length cs, .slice Ao o.o.length co, .slice Ar o.roots.length cr, .slice Bs a.s.length ds, .slice Bo a.o.length dO, .slice Br a.roots.length dr, .slice Cs b.s.length es, .slice Co b.o.length eo, .slice Cr b.roots.length er] 56 := by rw [hW]; exact (((Blk.new _ _ _).alloc _).alloc _).alloc _
  have g4 : Blk W (w.heap.size + 1) #[.slice none 0 0, .slice none 0 0, .slice none 0 0, .slice none 0 0] 33 := by rw [hW]; exact ((Blk.new' (by simp) _ _).alloc _).alloc _
  have g5 : Blk W (w.heap.size + 2) #[.slice none 0 0, .slice none 0 0, .slice none 0 0, .slice none 0 0] 33 := by rw [hW]; exact (Blk.new' (by simp) _ _).alloc _
  have im : IMap W (w.heap.size + 3) [] := by rw [hW]; exact IMap.made' (by simp)
  clear hW
  have HT := Lib.hid t0
  have H4 := Lib.hid g4
  have H5 := Lib.hid g5
  have HM := Lib.hid im
  have BW := Lib.hid bW
  have zW : w.heap.size + 4 ≤ W.heap.size := im.lt
  clear t0 g4 g5 im bW
  have c3 := HT.out.cell (j := 3) rfl
  have c4 := HT.out.cell (j := 4) rfl
  have c5 := HT.out.cell (j := 5) rfl
  have c6 := HT.out.cell (j := 6) rfl
  have c7 := HT.out.cell (j := 7) rfl
  have c8 := HT.out.cell (j := 8) rfl
  go_wp2_with fail
  clear c3 c4 c5 c6 c7 c8
  go_loopw [27] (fun i wr => ∃ k : Nat, k ≤ 2 ∧ i = .int .i64 k ∧ RAll o a b W (w.heap.size + 3) (w.heap.size + 2) (outL a b k) wr) (fun i _ => 2 - (intOf i).toNat)
  case atStart => exact ⟨0, by omega, rfl, [], nilS, Kp.refl _ _, HM.out, trivial, H5.out, OwnL.nil⟩
  case round =>
    obtain ⟨k, hk, rfl, hrel⟩ := hrel
    have Hrel := Lib.hid hrel
    clear hrel
    by_cases hlt : k < 2
    · obtain ⟨Gs, gs, Go', go', Gr', gr', d, hd, Hd, Md, Hin, Ho⟩ : ∃ Gs gs Go' go' Gr' gr' d, (∀ w : World, Sem.run Tryz.prog (Instr.index 93 (.agg #[.slice Bs a.s.length ds, .slice Bo a.o.length dO, .slice Br a.roots.length dr, .slice Cs b.s.length es, .slice Co b.o.length eo, .slice Cr b.roots.length er]) (.int .i64 (k : Int))) w = .ok (gv Gs gs Go' go' Gr' gr' d) w) ∧ Hid (GOK w Gs gs Go' go' Gr' gr' d) ∧ MayG d ∧ Hid (∀ x ∈ d.o, (obOf a x.id).isSome = true ∨ (obOf b x.id).isSome = true) ∧ Hid (outL a b (k + 1) = outL a b k ++ d.o) := by
        obtain rfl | rfl : k = 0 ∨ k = 1 := by omega
        · exact ⟨_, _, _, _, _, _, a, fun w => by kernel_rfl, HA, Ma, Lib.hid (fun x hx => .inl (obOf_self hx)), Lib.hid (show a.o = [] ++ a.o from rfl)⟩
        · exact ⟨_, _, _, _, _, _, b, fun w => by kernel_rfl, HB, Mb, Lib.hid (fun x hx => .inr (obOf_self hx)), Lib.hid (show a.o ++ b.o = a.o ++ b.o from rfl)⟩
      have hk0 : (0 : Int) ≤ (k : Int) := Int.natCast_nonneg _
      have hk1 : (k : Int) < 2 := by omega
      go_wp2_with fail
      refine nameW fun W1 hW => ?_
      have b1 : Below wr.heap.size wr W1 := by rw [hW]; exact balloc (Below.refl _ _) _
      have R1 := Lib.hid (Hrel.out.below b1)
      clear hW b1 hd Hrel hk0 hk1
      have hdo1 := Hd.out.o1
      have hdo2 := Hd.out.o2
      unfold maxLen at hdo2
      have hD8 := Md.objs
      go_loopw [33] (fun i wr => ∃ j : Nat, j ≤ d.o.length ∧ i = .int .i64 j ∧ RAll o a b W (w.heap.size + 3) (w.heap.size + 2) (outL a b k ++ d.o.take j) wr) (fun i _ => d.o.length - (intOf i).toNat)
      case atStart => exact ⟨0, by omega, rfl, by simpa using R1.out⟩
      case round =>
        clear R1
        obtain ⟨wo, rfl⟩ : ∃ wo : World, wo = wr := ⟨_, rfl⟩
        obtain ⟨j, hj, rfl, hrel⟩ := hrel
        have bwo := hrel.base BW.out (by omega) (by omega)
        have Hrel := Lib.hid hrel
        clear hrel
        by_cases hlj : j < d.o.length
        · obtain ⟨bo, off, rfl, _, hbz, hcs⟩ := (Hd.out.o.below bwo).ob (by intro e; simp [e] at hlj)
          have Hs := Lib.hid (take_snoc d.o j hlj)
          have hin := Hin.out _ (List.getElem_mem hlj)
          replace hcs := hcs j hlj
          generalize d.o[j] = x at hcs Hs hin
          obtain ⟨F, cF, a0, a1, a2, _, _, _⟩ := hcs
          obtain ⟨m, vS, kp, im, mo, blk, own⟩ := Hrel.out
          have bX : Below wo.heap.size wo (wo.alloc (.cells #[.int .i64 x.id, .int .i64 x.t, .slice F x.f.length cF] 45)) := balloc (Below.refl _ _) _
          have lk := run_lookup_i Tryz.underlying58 Tryz.underlying3 (zeroObj _) (im.below bX) x.id true
          rcases mo.look (k := x.id) with ⟨hl, hany⟩ | ⟨y, us, hf, hid, hl, hrep, hany⟩
          · rw [hl] at lk
            have Hst := Lib.hid (show allObs o a b (outL a b k ++ d.o.take (j + 1)) = ((allObs o a b (outL a b k ++ d.o.take j)).1 ++ [(objM o a b x.id).1], (allObs o a b (outL a b k ++ d.o.take j)).2 ++ (objM o a b x.id).2.map fun k => (x.id, k)) by rw [Hs.out, ← List.append_assoc, allObs_snoc]; simp [allStep, hany])
            have hid1 := objM_id (o := o) hin
            have Hid1 := Lib.hid hid1
            have hm5 := objM_len (o := o) (b := b) Ma x.id
            have hs5 := (allObs_len (o := o) (b := b) Ma (outL a b k ++ d.o.take j)).1
            have hl40 : (outL a b k ++ d.o.take j).length ≤ 16 := by
              have h1 : (d.o.take j).length ≤ 8 := Nat.le_trans (List.length_take_le' _ _) hD8
              have h2 : (outL a b k).length ≤ 8 := by
                obtain rfl | rfl : k = 0 ∨ k = 1 := by omega
                · exact Nat.zero_le _
                · exact Ma.objs
              simp only [List.length_append]; omega
            generalize allObs o a b (outL a b k ++ d.o.take j) = al at mo own hs5 Hst
            have Im := Lib.hid im
            have Mo' := Lib.hid mo
            have Own := Lib.hid own
            have Blk5 := Lib.hid blk
            have Kpp := Lib.hid kp
            have Hl := Lib.hid hl
            have tw := HT.out.kp kp ⟨by omega, by omega, by omega⟩
            have q0 := tw.cell (j := 0) rfl
            have q1 := tw.cell (j := 1) rfl
            have q2 := tw.cell (j := 2) rfl
            have q3 := tw.cell (j := 3) rfl
            have q4 := tw.cell (j := 4) rfl
            have q5 := tw.cell (j := 5) rfl
            have q6 := tw.cell (j := 6) rfl
            have q7 := tw.cell (j := 7) rfl
            have q8 := tw.cell (j := 8) rfl
            have ztw := tw.lt
            clear im mo own blk kp hl hany hin hid1 Hrel tw
            go_wp2_with fail
            refine nameC fun WX hW => ?_
            have bX2 : Below wo.heap.size wo WX := by rw [hW]; exact balloc (balloc (Below.refl _ _) _) _
            have x0 : Blk WX wo.heap.size #[.int .i64 x.id, .int .i64 x.t, .slice F x.f.length cF] 45 := by rw [hW]; exact (Blk.new _ _ _).alloc _
            have bwX := bwo.trans (bX2.mono bwo.size)
            clear hW lk bX a0 a1 a2 q0 q1 q2 q3 q4 q5 q6 q7 q8
            refine (merge_object (id := x.id) (HO.out.below bwX) (HA.out.below bwX) (HB.out.below bwX) Mo Ma Mb (fun _ _ h1 h2 => Hab.out _ _ _ h1 h2) (fun _ _ h1 h2 => Hao.out _ _ _ h1 h2)).mono ?_
            rintro e w6 ⟨hb6, F2, cF2, A2, c2, rfl, v1, v2, v3, v4, v5, v6⟩
            generalize objM o a b x.id = r at *
            have k6 : Below wo.heap.size wo w6 := bX2.trans (hb6.mono bX2.size)
            have x1 := x0.below hb6
            obtain ⟨z0, z1, z2, -⟩ := x1.three
            have zx := x1.lt
            have V3 := Lib.hid v3
            have V6 := Lib.hid v6
            have X1 := Lib.hid x1
            have Im6 := Lib.hid (Im.out.below k6)
            have zX : wo.heap.size < WX.heap.size := x0.lt
            have z6 : WX.heap.size ≤ w6.heap.size := hb6.size
            clear v3 v6 x1 x0 bX2
            go_wp2_with (at_mapUpdate; refine wpList_mapUpdate_i rfl _ _ _ _ rfl Tryz.underlying58 Tryz.underlying3 rfl rfl rfl (Im6.out.alloc _) ?_; intro w7 im7 hg7)
            have zWo : W.heap.size ≤ wo.heap.size := Kpp.out.size
            have hs7 : w6.heap.size + 1 ≤ w7.heap.size := by have := hg7.size; simpa using this
            have kp7 := Lib.hid (((Kpp.out.call k6 (fun b hb => hb.1)).alloc (fun b hb => hb.1) _).grown hg7 (fun b hb => hb.1) (fun b hb e => hb.2.1 (Option.some.inj e)))
            have x7 := Lib.hid ((X1.out.alloc _).grown hg7 (fun e => by have := Option.some.inj e; omega))
            have blk7 := Lib.hid (((Blk5.out.below k6).alloc _).grown hg7 (fun e => by have := Option.some.inj e; omega))
            have own7 := Lib.hid (((Own.out.below k6 (Nat.le_refl _) (fun _ h => h.elim)).below (balloc (Below.refl _ _) _) (Nat.le_refl _) (fun _ h => h.elim)).grown hg7 (.inr fun e => by have := (Own.out.base_le _ e).1; omega) (fun _ h => h.elim))
            have keep7 : ∀ q, q < w6.heap.size → q ≠ w.heap.size + 3 → w7.heap[q]? = w6.heap[q]? := fun q h1 h2 => (hg7.block q (by simp; omega) (fun e => h2 (Option.some.inj e))).trans ((balloc (Below.refl _ _) _).block q h1)
            have hgS : ∀ q, vS.ownBlock = some q → W.heap.size ≤ q ∧ q < wo.heap.size := fun q e => Own.out.base_le q e
            have mo7 : MObs (fun k => W.heap.size ≤ k ∧ k < w7.heap.size ∧ vS.ownBlock ≠ some k) w7 (mput m x.id (.agg #[.int .i64 r.1.id, .int .i64 r.1.t, .slice F2 r.1.f.length cF2])) (al.1 ++ [r.1]) := by
              rw [mput_new Hl.out, ← Hid1.out]
              refine MObs.snoc (us := [.int .i64 r.1.id, .int .i64 r.1.t, .slice F2 r.1.f.length cF2]) ⟨F2, cF2, rfl, v1, v2, (RepL.keep V3.out fun q hq => keep7 q hq.2 (by omega)).mono fun q hq => ⟨by omega, by omega, fun e => by have := (hgS q e).2; omega⟩⟩ (Mo'.out.keep fun q hq => ⟨⟨hq.1, by have := hq.2.1; omega, hq.2.2⟩, (keep7 q (by have := hq.2.1; omega) (by omega)).trans (k6.block q hq.2.1)⟩)
            have Im7 := Lib.hid im7
            have Mo7 := Lib.hid mo7
            have V7 := Lib.hid (RepL.keep V6.out fun q hq => keep7 q hq.2 (by omega))
            have HgS := Lib.hid hgS
            clear im7 mo7 V3 V6 hgS keep7 Im6 Mo' Own Blk5 Kpp Im hg7 z0 z1 z2 Hl X1
            go_loopw [58] (fun i wr => RIn w7 (w.heap.size + 2) W.heap.size vS al.2 x.id r.2 i wr) (fun i _ => r.2.length - (intOf i).toNat)
            case atStart => exact ⟨0, vS, by omega, rfl, Kp.refl _ _, blk7.out, by simpa using own7.out, fun q e => .inl e⟩
            case round =>
              obtain ⟨n, vT, hn, rfl, kpi, blk, own, hvT⟩ := hrel
              have Kpi := Lib.hid kpi
              have OwnT := Lib.hid own
              have HvT := Lib.hid hvT
              have BlkT := Lib.hid blk
              have hsz := kpi.size
              have zWb : w.heap.size + 3 < W.heap.size := by omega
              clear own hvT kpi
              by_cases hln : n < r.2.length
              · obtain ⟨bi, offi, hAi, hSi, _, hci⟩ := V7.out.int (by intro e; simp [e] at hln)
                subst hAi
                have Hts := Lib.hid (take_snoc r.2 n hln)
                replace hci := hci n hln
                generalize r.2[n] = cl at hci Hts
                replace hci := Kpi.out.cell ⟨by omega, by omega, fun e => by have := (HgS.out _ e).2; omega⟩ hci
                have xw := x7.out.kp Kpi.out ⟨by omega, by omega, fun e => by have := (HgS.out _ e).2; omega⟩
                have y0 := xw.cell (j := 0) rfl
                obtain ⟨⟨d0, d1, d2, d3⟩, e0, e1, e2, e3⟩ := blk.four
                have zb := blk.lt
                have hn0 : (0 : Int) ≤ (n : Int) := Int.natCast_nonneg _
                have hn1 : (n : Int) < (r.2.length : Int) := by omega
                have hne : some (w.heap.size + 2) ≠ vT.ownBlock := fun e => by have := (OwnT.out.base_le _ e.symm).1; omega
                have hlen : (al.2 ++ (r.2.take n).map fun k => (x.id, k)).length ≤ 100 := by simp; omega
                have htl : W.heap.size ≤ wr.heap.size := by omega
                clear xw blk
                generalize hq : (al.2 ++ (r.2.take n).map fun k => (x.id, k)) = sj at OwnT hlen
                have Hq := Lib.hid hq
                clear hq
                go_wp2_with (at_builtin; refine wpList_append_L (α := Int × Int) (S := fun _ => False) (S' := fun _ => False) (us := [.int .i64 x.id, .int .i64 cl]) (y := (x.id, cl)) rfl _ _ _ rfl Tryz.underlying31 infP szP rfl (OwnT.out.below (balloc (Below.refl _ _) _) (Nat.le_refl _) (fun _ d => d.elim)) rfl (Blk.new' (by simp) _ _) (by simp [Value.oneCell']) rfl (fun _ d => d) (fun _ d => d.elim) (by unfold maxLen; omega) (by omega) (by simp; omega) ?_; intro gg cap w8 own8 hg8 hat8 hlt8; have bC8 := (BlkT.out.alloc _).grown hg8 hne; have BC8 := Lib.hid bC8; obtain ⟨⟨dd0, dd1, dd2, dd3⟩, ee0, ee1, ee2, ee3⟩ := bC8.four; clear bC8)
                go_roundw
                case rel =>
                  have kz : Kp (fun b => b ≠ w.heap.size + 2) w8 (w8.setCell ⟨w.heap.size + 2, 2, none⟩ (.slice (some ⟨gg, 0, none⟩) (sj.length + 1) cap)) := (Kp.refl _ _).setCell (fun d => d rfl) _
                  refine ⟨n + 1, _, by omega, by go_num, ((Kpi.out.alloc (fun b hb => hb.1) _).grown hg8 (fun b hb => hb.1) (fun b hb e => ?_)).setCell (fun d => d.2.1 rfl) _, BC8.out.set 2 _, ?_, ?_⟩
                  · rcases HvT.out b e.symm with h | h
                    · exact hb.2.2 h
                    · have := hb.1; omega
                  · rw [Hts.out, List.map_append, ← List.append_assoc, Hq.out]
                    exact own8.kp kz (fun b hb => by have := (own8.base_le b hb).1; omega) (fun _ d => d.elim)
                  · intro q e
                    obtain rfl : gg = q := by simpa [Value.ownBlock] using e
                    rcases hat8 with h | h
                    · exact HvT.out gg h
                    · simp at h; right; omega
                case measure => simp [intOf]; omega
              · have hnn : r.2.take n = r.2 := List.take_of_length_le (by omega)
                have own' : OwnL (fun _ => False) wr W.heap.size 69 vT (al.2 ++ r.2.map fun k => (x.id, k)) := by have h := OwnT.out; rwa [hnn] at h
                have HF := Lib.hid (show RAll o a b W (w.heap.size + 3) (w.heap.size + 2) (outL a b k ++ d.o.take (j + 1)) wr by
                  unfold RAll
                  rw [Hst.out]
                  have hst : ∀ q, q < w7.heap.size → q ≠ w.heap.size + 2 → vS.ownBlock ≠ some q → wr.heap[q]? = w7.heap[q]? := fun q h1 h2 h3 => Kpi.out.block q ⟨h1, h2, h3⟩
                  refine ⟨_, vT, kp7.out.trans (Kpi.out.mono fun q hq => ⟨by omega, hq.2.2, fun e => by have := (HgS.out _ e).1; omega⟩), Im7.out.keep (hst _ (by omega) (by omega) (fun e => by have := (HgS.out _ e).1; omega)), Mo7.out.keep (fun q hq => ⟨⟨hq.1, by omega, fun e => ?_⟩, hst q hq.2.1 (by omega) hq.2.2⟩), BlkT.out, own'⟩
                  rcases HvT.out q e with h | h
                  · exact hq.2.2 h
                  · omega)
                clear own' hnn
                go_wp2_with fail
                go_roundw
                case rel => exact ⟨j + 1, by omega, by go_num, HF.out⟩
                case measure => simp [intOf]; omega
          · obtain ⟨F2, c2, rfl, -, -, -⟩ := hrep
            rw [hl] at lk
            have Hst := Lib.hid (show allObs o a b (outL a b k ++ d.o.take (j + 1)) = allObs o a b (outL a b k ++ d.o.take j) by rw [Hs.out, ← List.append_assoc, allObs_snoc]; simp [allStep, hany])
            clear hf hid hl hany hin kp im mo blk own
            go_wp2_with fail
            go_roundw
            case rel => exact ⟨j + 1, by omega, by go_num, by unfold RAll; rw [Hst.out]; exact Hrel.out.below (balloc (balloc (Below.refl _ _) _) _)⟩
            case measure => simp [intOf]; omega
        · have Hjn := Lib.hid (show outL a b (k + 1) = outL a b k ++ d.o.take j by rw [Ho.out, List.take_of_length_le (by omega)])
          have HD := Lib.hid Hrel.out
          go_wp2_with fail
          go_roundw
          case rel => exact ⟨k + 1, by omega, by go_num, by rw [Hjn.out]; exact Hrel.out⟩
          case measure => simp [intOf]; omega
    · obtain rfl : k = 2 := by omega
      obtain ⟨wo, rfl⟩ : ∃ wo : World, wo = wr := ⟨_, rfl⟩
      have bwo := Hrel.out.base BW.out (by omega) (by omega)
      obtain ⟨m, vS, kp, im, mo, blk, own⟩ := Hrel.out
      have Kpp := Lib.hid kp
      have Im := Lib.hid im
      have Mo' := Lib.hid mo
      have Blk5 := Lib.hid blk
      have Own := Lib.hid own
      have BWO := Lib.hid bwo
      have tw := HT.out.kp kp ⟨by omega, by omega, by omega⟩
      have q0 := tw.cell (j := 0) rfl
      have q1 := tw.cell (j := 1) rfl
      have q2 := tw.cell (j := 2) rfl
      have q3 := tw.cell (j := 3) rfl
      have q4 := tw.cell (j := 4) rfl
      have q5 := tw.cell (j := 5) rfl
      have q6 := tw.cell (j := 6) rfl
      have q7 := tw.cell (j := 7) rfl
      have q8 := tw.cell (j := 8) rfl
      have ztw := tw.lt
      have zWo : W.heap.size ≤ wo.heap.size := kp.size
      have TW := Lib.hid tw
      have hra1 := HA.out.r1
      have hra2 := HA.out.r2
      have hrb1 := HB.out.r1
      have hrb2 := HB.out.r2
      have hRa := Ma.roots
      have hRb := Mb.roots
      unfold maxLen at hra2 hrb2
      clear kp im mo blk own bwo tw Hrel hk hlt
      have hgh : (a.roots.length < b.roots.length) ∨ (b.roots.length ≤ a.roots.length) := Nat.lt_or_ge _ _
      obtain ⟨N, hN⟩ : ∃ N : Nat, Hid (N = max a.roots.length b.roots.length) := ⟨_, Lib.hid rfl⟩
      have hN3 : N ≤ 3 := by have := hN.out; omega
      rcases hgh with hgh | hgh
      · go_wp2_with fail
        rw [show Value.int IntKind.i64 (b.roots.length : Int) = .int .i64 (N : Int) by rw [hN.out, show max a.roots.length b.roots.length = b.roots.length by omega]]
        clear hgh q0 q1 q2 q3 q4 q5 q6 q7 q8
        go_loopw [17, 83] (fun r i wr => RelM o a b N (w.heap.size + 2) wo vS r i wr) (fun _ i _ => N - (intOf i).toNat)
        case atStart => exact ⟨0, _, Nat.zero_le _, rfl, Kp.refl _ _, Blk5.out, OwnL.nil, OwnL.nil, fun q e => by cases e⟩
        case round =>
          obtain ⟨n, vC, hn, rfl, kp, blk, ownR, ownC, hdis⟩ := hrel
          have bwr : Below w.heap.size w wr := BWO.out.trans (kp.below fun b hb => ⟨by omega, by omega⟩)
          have BWR := Lib.hid bwr
          have Kp4 := Lib.hid kp
          have BC4 := Lib.hid blk
          have OwnR := Lib.hid ownR
          have OwnC := Lib.hid ownC
          have Hdis := Lib.hid hdis
          have szw := kp.size
          have zc := blk.lt
          have tw := TW.out.kp kp ⟨by omega, by omega⟩
          clear bwr kp blk ownR ownC hdis
          by_cases hlt : n < N
          · have q0 := tw.cell (j := 0) rfl
            have q1 := tw.cell (j := 1) rfl
            have q2 := tw.cell (j := 2) rfl
            have q3 := tw.cell (j := 3) rfl
            have q4 := tw.cell (j := 4) rfl
            have q5 := tw.cell (j := 5) rfl
            have q6 := tw.cell (j := 6) rfl
            have q7 := tw.cell (j := 7) rfl
            have q8 := tw.cell (j := 8) rfl
            have ztw2 := tw.lt
            clear tw
            have hb0 : Below wr.heap.size wr wr.drew := (Below.refl _ _).drew
            go_wp2_with fail
            go_region_held3 (fun w' => Below wr.heap.size wr w' ∧ w'.cell? ⟨w.heap.size, 0, none⟩ = some (.slice As o.s.length cs) ∧ w'.cell? ⟨w.heap.size, 1, none⟩ = some (.slice Ao o.o.length co) ∧ w'.cell? ⟨w.heap.size, 2, none⟩ = some (.slice Ar o.roots.length cr) ∧
                w'.cell? ⟨w.heap.size, 3, none⟩ = some (.slice Bs a.s.length ds) ∧ w'.cell? ⟨w.heap.size, 4, none⟩ = some (.slice Bo a.o.length dO) ∧ w'.cell? ⟨w.heap.size, 5, none⟩ = some (.slice Br a.roots.length dr) ∧
                w'.cell? ⟨w.heap.size, 6, none⟩ = some (.slice Cs b.s.length es) ∧ w'.cell? ⟨w.heap.size, 7, none⟩ = some (.slice Co b.o.length eo) ∧ w'.cell? ⟨w.heap.size, 8, none⟩ = some (.slice Cr b.roots.length er))
              (first | exact ⟨hb0, q0, q1, q2, q3, q4, q5, q6, q7, q8⟩ | exact ⟨hbn, keep1 hbn q0, keep1 hbn q1, keep1 hbn q2, keep1 hbn q3, keep1 hbn q4, keep1 hbn q5, keep1 hbn q6, keep1 hbn q7, keep1 hbn q8⟩)
              (first | (go_at_call 48; refine (merge_root (i := n) (by first | exact HO.out.below (bthen BWR.out (by first | exact hb0 | assumption)) | exact HA.out.below (bthen BWR.out (by first | exact hb0 | assumption)) | exact HB.out.below (bthen BWR.out (by first | exact hb0 | assumption)))).mono ?_; rintro e wn ⟨rfl, hbn'⟩; have hbn : Below wr.heap.size wr wn := bthen (by first | exact hb0 | assumption) hbn') | (go_at_call 47; refine (stands_int (o := rootAt o n) (a := rootAt a n) (b := rootAt b n)).mono ?_; rintro e wn ⟨rfl, hbn'⟩; have hbn : Below wr.heap.size wr wn := bthen (by first | exact hb0 | assumption) hbn'))
            have kpn := Kp4.out.trans (Kp.of_below hbn fun b hb => Nat.lt_of_lt_of_le hb.1 szw)
            have bCn := BC4.out.below hbn
            have Kpn := Lib.hid kpn
            have BCn := Lib.hid bCn
            have OwnRn := Lib.hid (OwnR.out.below hbn (Nat.le_refl _) (fun _ d => d.elim))
            have OwnCn := Lib.hid (OwnC.out.below hbn (Nat.le_refl _) (fun _ d => d.elim))
            have szn := hbn.size
            have hlr : (rootsM o a b n).length ≤ 3 := by rw [rootsM_len]; omega
            have hlc := rootsClash_len o a b n
            have Hs1 := Lib.hid (rootsM_snoc o a b n)
            have Hs2 := Lib.hid (rootsClash_snoc o a b n)
            clear kpn q0 q1 q2 q3 q4 q5 q6 q7 q8 hb0
            obtain ⟨⟨c0, c1, c2, c3⟩, f0, f1, f2, f3⟩ := bCn.four
            have zcn := bCn.lt
            clear bCn hbn
            have hne : some (w.heap.size + 2) ≠ u17.ownBlock := fun e => by have := (OwnRn.out.base_le _ e.symm).1; omega
            have hne2 : some (w.heap.size + 2) ≠ vC.ownBlock := fun e => by have := (OwnCn.out.base_le _ e.symm).1; omega
            have hcr : vC.ownBlock = none ∨ vC.ownBlock ≠ u17.ownBlock := by
              cases hv : vC.ownBlock with
              | none => exact .inl rfl
              | some q => exact .inr (fun e => Hdis.out q e.symm hv)
            have Hcr := Lib.hid hcr
            clear hcr
            change Hid (rootsM o a b (n + 1) = rootsM o a b n ++ [(stands (rootAt o (n : Int)) (rootAt a (n : Int)) (rootAt b (n : Int))).1]) at Hs1
            change Hid (rootsClash o a b (n + 1) = rootsClash o a b n ++ (if (stands (rootAt o (n : Int)) (rootAt a (n : Int)) (rootAt b (n : Int))).2 then [] else [(n : Int)])) at Hs2
            generalize (stands (rootAt o (n : Int)) (rootAt a (n : Int)) (rootAt b (n : Int))).1 = rr at Hs1
            rcases Bool.eq_false_or_eq_true (stands (rootAt o (n : Int)) (rootAt a (n : Int)) (rootAt b (n : Int))).2 with hq | hq
            · have Hq := Lib.hid (Hs2.out.trans (show _ = rootsClash o a b n by rw [hq]; simp))
              go_wp2_with (at_builtin; refine wpList_append_L (α := Int) (S := fun _ => False) (S' := fun _ => False) (us := [.int .i64 rr]) (y := rr) (v := u17) rfl _ _ _ rfl Tryz.underlying26 infI szI rfl (OwnRn.out.below (balloc (Below.refl _ _) _) (Nat.le_refl _) (fun _ d => d.elim)) rfl (Blk.new' (by simp) _ _) (by simp [Value.oneCell']) rfl (fun _ d => d) (fun _ d => d.elim) (by unfold maxLen; omega) (by omega) (by simp; omega) ?_; intro gg cap w8 own8 hg8 hat8 hlt8)
              go_roundw
              case rel =>
                have hz : RelM o a b N (w.heap.size + 2) wo vS (.slice (some ⟨gg, 0, none⟩) ((rootsM o a b n).length + 1) cap) (.int .i64 ((n : Int) + 1)) w8 := by
                 refine ⟨n + 1, vC, by omega, by go_num, (Kpn.out.alloc (fun b hb => hb.1) _).grown hg8 (fun b hb => hb.1) (fun b hb e => by have := (OwnRn.out.base_le b e.symm).1; have := hb.1; omega), (BCn.out.alloc _).grown hg8 hne, by rw [Hs1.out]; exact own8, ?_, ?_⟩
                 · rw [Hq.out]; exact (OwnCn.out.below (balloc (Below.refl _ _) _) (Nat.le_refl _) (fun _ d => d.elim)).grown hg8 Hcr.out (fun _ d => d.elim)
                 · intro q e
                   obtain rfl : gg = q := by simpa [Value.ownBlock] using e
                   rcases hat8 with h | h
                   · exact Hdis.out gg h
                   · intro e2
                     have := (OwnCn.out.base_le _ e2).2
                     simp at h
                     omega
                first | exact hz | ((repeat apply Exists.intro); exact ⟨hz, rfl⟩)
              case measure => simp [intOf]; omega
            · have Hq := Lib.hid (Hs2.out.trans (show _ = rootsClash o a b n ++ [(n : Int)] by rw [hq]; simp))
              go_wp2_with (first | (at_builtin; refine wpList_append_L (α := Int) (S := fun _ => False) (S' := fun _ => False) (us := [.int .i64 rr]) (y := rr) (v := u17) rfl _ _ _ rfl Tryz.underlying26 infI szI rfl (OwnRn.out.below (balloc (Below.refl _ _) _) (Nat.le_refl _) (fun _ d => d.elim)) rfl (Blk.new' (by simp) _ _) (by simp [Value.oneCell']) rfl (fun _ d => d) (fun _ d => d.elim) (by unfold maxLen; omega) (by omega) (by simp; omega) ?_; intro gg cap w8 own8 hg8 hat8 hlt8; have z8 : wo.heap.size ≤ w8.heap.size := (by have := hg8.size; simp at this; omega); have bC8 := (BCn.out.alloc _).grown hg8 hne; have BC8 := Lib.hid bC8; have OwnC8 := Lib.hid ((OwnCn.out.below (balloc (Below.refl _ _) _) (Nat.le_refl _) (fun _ d => d.elim)).grown hg8 Hcr.out (fun _ d => d.elim)); have zb8 := bC8.lt; obtain ⟨⟨cc0, cc1, cc2, cc3⟩, ff0, ff1, ff2, ff3⟩ := bC8.four; clear bC8) | (at_builtin; refine wpList_append_L (α := Int) (S := fun _ => False) (S' := fun _ => False) (us := [.int .i64 n]) (y := (n : Int)) (v := vC) rfl _ _ _ rfl Tryz.underlying26 infI szI rfl (OwnC8.out.below (balloc (Below.refl _ _) _) (Nat.le_refl _) (fun _ d => d.elim)) rfl (Blk.new' (by simp) _ _) (by simp [Value.oneCell']) rfl (fun _ d => d) (fun _ d => d.elim) (by unfold maxLen; omega) (by omega) (by simp; omega) ?_; intro g9 cap9 w9 own9 hg9 hat9 hlt9; have bC9 := (BC8.out.alloc _).grown hg9 hne2; have BC9 := Lib.hid bC9; have zb9 := bC9.lt; obtain ⟨⟨ccc0, ccc1, ccc2, ccc3⟩, fff0, fff1, fff2, fff3⟩ := bC9.four; clear bC9))
              go_roundw
              case rel =>
                have hz : RelM o a b N (w.heap.size + 2) wo vS (.slice (some ⟨gg, 0, none⟩) ((rootsM o a b n).length + 1) cap) (.int .i64 ((n : Int) + 1)) (w9.setCell ⟨w.heap.size + 2, 3, none⟩ (.slice (some ⟨g9, 0, none⟩) ((rootsClash o a b n).length + 1) cap9)) := by
                 have k8 := (Kpn.out.alloc (fun b hb => hb.1) _).grown hg8 (fun b hb => hb.1) (fun b hb e => by have := (OwnRn.out.base_le b e.symm).1; have := hb.1; omega)
                 have kz : Kp (fun b => b ≠ w.heap.size + 2) w9 (w9.setCell ⟨w.heap.size + 2, 3, none⟩ (.slice (some ⟨g9, 0, none⟩) ((rootsClash o a b n).length + 1) cap9)) := (Kp.refl _ _).setCell (fun d => d rfl) _
                 have hd8 : ∀ q, gg = q → vC.ownBlock ≠ some q := by
                   rintro q rfl
                   rcases hat8 with h | h
                   · exact Hdis.out gg h
                   · intro e2
                     have := (OwnCn.out.base_le _ e2).2
                     simp at h
                     omega
                 have o8 := (own8.below (balloc (Below.refl _ _) _) (Nat.le_refl _) (fun _ d => d.elim)).grown hg9 (.inr fun e => hd8 gg rfl e.symm) (fun _ d => d.elim)
                 refine ⟨n + 1, _, by omega, by go_num, ((k8.alloc (fun b hb => hb.1) _).grown hg9 (fun b hb => hb.1) (fun b hb e => by have := (OwnCn.out.base_le b e.symm).1; have := hb.1; omega)).setCell (fun d => d.2 rfl) _, BC9.out.set 3 _, ?_, ?_, ?_⟩
                 · rw [Hs1.out]; exact o8.kp kz (fun b hb => by have := (o8.base_le b hb).1; omega) (fun _ d => d.elim)
                 · rw [Hq.out]; exact own9.kp kz (fun b hb => by have := (own9.base_le b hb).1; omega) (fun _ d => d.elim)
                 · intro q e
                   obtain rfl : gg = q := by simpa [Value.ownBlock] using e
                   intro e2
                   obtain rfl : g9 = gg := by simpa [Value.ownBlock] using e2
                   rcases hat9 with h | h
                   · exact hd8 g9 rfl h
                   · simp at h; omega
                first | exact hz | ((repeat apply Exists.intro); exact ⟨hz, rfl⟩)
              case measure => simp [intOf]; omega
          · have hnN : n = max a.roots.length b.roots.length := by have := hN.out; omega
            have Hr := Lib.hid (show allM o a b = ((allObs o a b (outL a b 2)).1, rootsM o a b n, ⟨[], [], (allObs o a b (outL a b 2)).2, rootsClash o a b n⟩) by rw [hnN]; rfl)
            obtain ⟨AR, cR, rfl, r1', r2', r3'⟩ := OwnR.out.read szI (fun _ d => d.elim)
            obtain ⟨AC, cC, rfl, s1', s2', s3'⟩ := OwnC.out.read szI (fun _ d => d.elim)
            obtain ⟨AS, cS, hAS, t1', t2', t3'⟩ := Own.out.read szP (fun _ d => d.elim)
            subst hAS
            have R3 := Lib.hid r3'
            have S3 := Lib.hid s3'
            have T3 := Lib.hid t3'
            have g4 := (H4.out.kp Kpp.out ⟨by omega, by omega, by omega⟩).kp Kp4.out ⟨by omega, by omega⟩
            have z4 := g4.lt
            obtain ⟨⟨d0, d1, d2, d3⟩, e0, e1, e2, e3⟩ := g4.four
            obtain ⟨⟨c0, c1, c2, c3⟩, f0, f1, f2, f3⟩ := BC4.out.four
            clear r3' s3' t3' g4 tw hnN
            go_wp2_with fail
            go_region
            go_wp2
            refine bodyPost_ret (v := .tuple #[.map (some (w.heap.size + 1 + 1 + 1)), .slice AR (rootsM o a b n).length cR, .agg #[.slice none 0 0, .slice none 0 0, .slice AS (allObs o a b (outL a b 2)).2.length cS, .slice AC (rootsClash o a b n).length cC]]) (by simp [results, Tryz.results20, go_sem, *]) rfl ?_
            have kf := (set4 wr (w.heap.size + 1) (.slice none 0 0) (.slice none 0 0) (.slice AS (allObs o a b (outL a b 2)).2.length cS) (.slice AC (rootsClash o a b n).length cC)).drew
            refine ⟨BWR.out.trans (kf.below (B := w.heap.size) fun k hk => by omega), ?_⟩
            rw [Hr.out]
            generalize World.drew _ = WF at kf ⊢
            have hkeep : ∀ q, W.heap.size ≤ q → q < wo.heap.size → WF.heap[q]? = wo.heap[q]? := fun q h1 h2 => (kf.block q (by omega)).trans (Kp4.out.block q ⟨h2, by omega⟩)
            have hszF := kf.size
            refine ⟨w.heap.size + 1 + 1 + 1, m, AR, cR, AS, cS, AC, cC, rfl, by omega, Im.out.keep ((kf.block _ (by omega)).trans (Kp4.out.block _ ⟨by omega, by omega⟩)), Mo'.out.keep (fun q hq => ⟨⟨by omega, by omega, by omega⟩, hkeep q hq.1 hq.2.1⟩), r1', r2',
              (RepL.keep R3.out fun q hq => kf.block q (by rcases hq.2 with h | h; omega; exact h.elim)).mono fun q hq => ⟨by rcases hq.2 with h | h; omega; exact h.elim, by omega, by rcases hq.2 with h | h; omega; exact h.elim⟩, ?_⟩
            exact ⟨t1', t2', (RepL.keep T3.out fun q hq => hkeep q (by rcases hq.2 with h | h; exact h; exact h.elim) hq.1).mono fun q hq => ⟨by rcases hq.2 with h | h; omega; exact h.elim, by omega, by rcases hq.2 with h | h; omega; exact h.elim⟩,
              s1', s2', (RepL.keep S3.out fun q hq => kf.block q (by rcases hq.2 with h | h; omega; exact h.elim)).mono fun q hq => ⟨by rcases hq.2 with h | h; omega; exact h.elim, by omega, by rcases hq.2 with h | h; omega; exact h.elim⟩⟩
      · go_wp2_with fail
        rw [show Value.int IntKind.i64 (a.roots.length : Int) = .int .i64 (N : Int) by rw [hN.out, show max a.roots.length b.roots.length = a.roots.length by omega]]
        clear hgh q0 q1 q2 q3 q4 q5 q6 q7 q8
        go_loopw [17, 83] (fun r i wr => RelM o a b N (w.heap.size + 2) wo vS r i wr) (fun _ i _ => N - (intOf i).toNat)
        case atStart => exact ⟨0, _, Nat.zero_le _, rfl, Kp.refl _ _, Blk5.out, OwnL.nil, OwnL.nil, fun q e => by cases e⟩
        case round =>
          obtain ⟨n, vC, hn, rfl, kp, blk, ownR, ownC, hdis⟩ := hrel
          have bwr : Below w.heap.size w wr := BWO.out.trans (kp.below fun b hb => ⟨by omega, by omega⟩)
          have BWR := Lib.hid bwr
          have Kp4 := Lib.hid kp
          have BC4 := Lib.hid blk
          have OwnR := Lib.hid ownR
          have OwnC := Lib.hid ownC
          have Hdis := Lib.hid hdis
          have szw := kp.size
          have zc := blk.lt
          have tw := TW.out.kp kp ⟨by omega, by omega⟩
          clear bwr kp blk ownR ownC hdis
          by_cases hlt : n < N
          · have q0 := tw.cell (j := 0) rfl
            have q1 := tw.cell (j := 1) rfl
            have q2 := tw.cell (j := 2) rfl
            have q3 := tw.cell (j := 3) rfl
            have q4 := tw.cell (j := 4) rfl
            have q5 := tw.cell (j := 5) rfl
            have q6 := tw.cell (j := 6) rfl
            have q7 := tw.cell (j := 7) rfl
            have q8 := tw.cell (j := 8) rfl
            have ztw2 := tw.lt
            clear tw
            have hb0 : Below wr.heap.size wr wr.drew := (Below.refl _ _).drew
            go_wp2_with fail
            go_region_held3 (fun w' => Below wr.heap.size wr w' ∧ w'.cell? ⟨w.heap.size, 0, none⟩ = some (.slice As o.s.length cs) ∧ w'.cell? ⟨w.heap.size, 1, none⟩ = some (.slice Ao o.o.length co) ∧ w'.cell? ⟨w.heap.size, 2, none⟩ = some (.slice Ar o.roots.length cr) ∧
                w'.cell? ⟨w.heap.size, 3, none⟩ = some (.slice Bs a.s.length ds) ∧ w'.cell? ⟨w.heap.size, 4, none⟩ = some (.slice Bo a.o.length dO) ∧ w'.cell? ⟨w.heap.size, 5, none⟩ = some (.slice Br a.roots.length dr) ∧
                w'.cell? ⟨w.heap.size, 6, none⟩ = some (.slice Cs b.s.length es) ∧ w'.cell? ⟨w.heap.size, 7, none⟩ = some (.slice Co b.o.length eo) ∧ w'.cell? ⟨w.heap.size, 8, none⟩ = some (.slice Cr b.roots.length er))
              (first | exact ⟨hb0, q0, q1, q2, q3, q4, q5, q6, q7, q8⟩ | exact ⟨hbn, keep1 hbn q0, keep1 hbn q1, keep1 hbn q2, keep1 hbn q3, keep1 hbn q4, keep1 hbn q5, keep1 hbn q6, keep1 hbn q7, keep1 hbn q8⟩)
              (first | (go_at_call 48; refine (merge_root (i := n) (by first | exact HO.out.below (bthen BWR.out (by first | exact hb0 | assumption)) | exact HA.out.below (bthen BWR.out (by first | exact hb0 | assumption)) | exact HB.out.below (bthen BWR.out (by first | exact hb0 | assumption)))).mono ?_; rintro e wn ⟨rfl, hbn'⟩; have hbn : Below wr.heap.size wr wn := bthen (by first | exact hb0 | assumption) hbn') | (go_at_call 47; refine (stands_int (o := rootAt o n) (a := rootAt a n) (b := rootAt b n)).mono ?_; rintro e wn ⟨rfl, hbn'⟩; have hbn : Below wr.heap.size wr wn := bthen (by first | exact hb0 | assumption) hbn'))
            have kpn := Kp4.out.trans (Kp.of_below hbn fun b hb => Nat.lt_of_lt_of_le hb.1 szw)
            have bCn := BC4.out.below hbn
            have Kpn := Lib.hid kpn
            have BCn := Lib.hid bCn
            have OwnRn := Lib.hid (OwnR.out.below hbn (Nat.le_refl _) (fun _ d => d.elim))
            have OwnCn := Lib.hid (OwnC.out.below hbn (Nat.le_refl _) (fun _ d => d.elim))
            have szn := hbn.size
            have hlr : (rootsM o a b n).length ≤ 3 := by rw [rootsM_len]; omega
            have hlc := rootsClash_len o a b n
            have Hs1 := Lib.hid (rootsM_snoc o a b n)
            have Hs2 := Lib.hid (rootsClash_snoc o a b n)
            clear kpn q0 q1 q2 q3 q4 q5 q6 q7 q8 hb0
            obtain ⟨⟨c0, c1, c2, c3⟩, f0, f1, f2, f3⟩ := bCn.four
            have zcn := bCn.lt
            clear bCn hbn
            have hne : some (w.heap.size + 2) ≠ u17.ownBlock := fun e => by have := (OwnRn.out.base_le _ e.symm).1; omega
            have hne2 : some (w.heap.size + 2) ≠ vC.ownBlock := fun e => by have := (OwnCn.out.base_le _ e.symm).1; omega
            have hcr : vC.ownBlock = none ∨ vC.ownBlock ≠ u17.ownBlock := by
              cases hv : vC.ownBlock with
              | none => exact .inl rfl
              | some q => exact .inr (fun e => Hdis.out q e.symm hv)
            have Hcr := Lib.hid hcr
            clear hcr
            change Hid (rootsM o a b (n + 1) = rootsM o a b n ++ [(stands (rootAt o (n : Int)) (rootAt a (n : Int)) (rootAt b (n : Int))).1]) at Hs1
            change Hid (rootsClash o a b (n + 1) = rootsClash o a b n ++ (if (stands (rootAt o (n : Int)) (rootAt a (n : Int)) (rootAt b (n : Int))).2 then [] else [(n : Int)])) at Hs2
            generalize (stands (rootAt o (n : Int)) (rootAt a (n : Int)) (rootAt b (n : Int))).1 = rr at Hs1
            rcases Bool.eq_false_or_eq_true (stands (rootAt o (n : Int)) (rootAt a (n : Int)) (rootAt b (n : Int))).2 with hq | hq
            · have Hq := Lib.hid (Hs2.out.trans (show _ = rootsClash o a b n by rw [hq]; simp))
              go_wp2_with (at_builtin; refine wpList_append_L (α := Int) (S := fun _ => False) (S' := fun _ => False) (us := [.int .i64 rr]) (y := rr) (v := u17) rfl _ _ _ rfl Tryz.underlying26 infI szI rfl (OwnRn.out.below (balloc (Below.refl _ _) _) (Nat.le_refl _) (fun _ d => d.elim)) rfl (Blk.new' (by simp) _ _) (by simp [Value.oneCell']) rfl (fun _ d => d) (fun _ d => d.elim) (by unfold maxLen; omega) (by omega) (by simp; omega) ?_; intro gg cap w8 own8 hg8 hat8 hlt8)
              go_roundw
              case rel =>
                have hz : RelM o a b N (w.heap.size + 2) wo vS (.slice (some ⟨gg, 0, none⟩) ((rootsM o a b n).length + 1) cap) (.int .i64 ((n : Int) + 1)) w8 := by
                 refine ⟨n + 1, vC, by omega, by go_num, (Kpn.out.alloc (fun b hb => hb.1) _).grown hg8 (fun b hb => hb.1) (fun b hb e => by have := (OwnRn.out.base_le b e.symm).1; have := hb.1; omega), (BCn.out.alloc _).grown hg8 hne, by rw [Hs1.out]; exact own8, ?_, ?_⟩
                 · rw [Hq.out]; exact (OwnCn.out.below (balloc (Below.refl _ _) _) (Nat.le_refl _) (fun _ d => d.elim)).grown hg8 Hcr.out (fun _ d => d.elim)
                 · intro q e
                   obtain rfl : gg = q := by simpa [Value.ownBlock] using e
                   rcases hat8 with h | h
                   · exact Hdis.out gg h
                   · intro e2
                     have := (OwnCn.out.base_le _ e2).2
                     simp at h
                     omega
                first | exact hz | ((repeat apply Exists.intro); exact ⟨hz, rfl⟩)
              case measure => simp [intOf]; omega
            · have Hq := Lib.hid (Hs2.out.trans (show _ = rootsClash o a b n ++ [(n : Int)] by rw [hq]; simp))
              go_wp2_with (first | (at_builtin; refine wpList_append_L (α := Int) (S := fun _ => False) (S' := fun _ => False) (us := [.int .i64 rr]) (y := rr) (v := u17) rfl _ _ _ rfl Tryz.underlying26 infI szI rfl (OwnRn.out.below (balloc (Below.refl _ _) _) (Nat.le_refl _) (fun _ d => d.elim)) rfl (Blk.new' (by simp) _ _) (by simp [Value.oneCell']) rfl (fun _ d => d) (fun _ d => d.elim) (by unfold maxLen; omega) (by omega) (by simp; omega) ?_; intro gg cap w8 own8 hg8 hat8 hlt8; have z8 : wo.heap.size ≤ w8.heap.size := (by have := hg8.size; simp at this; omega); have bC8 := (BCn.out.alloc _).grown hg8 hne; have BC8 := Lib.hid bC8; have OwnC8 := Lib.hid ((OwnCn.out.below (balloc (Below.refl _ _) _) (Nat.le_refl _) (fun _ d => d.elim)).grown hg8 Hcr.out (fun _ d => d.elim)); have zb8 := bC8.lt; obtain ⟨⟨cc0, cc1, cc2, cc3⟩, ff0, ff1, ff2, ff3⟩ := bC8.four; clear bC8) | (at_builtin; refine wpList_append_L (α := Int) (S := fun _ => False) (S' := fun _ => False) (us := [.int .i64 n]) (y := (n : Int)) (v := vC) rfl _ _ _ rfl Tryz.underlying26 infI szI rfl (OwnC8.out.below (balloc (Below.refl _ _) _) (Nat.le_refl _) (fun _ d => d.elim)) rfl (Blk.new' (by simp) _ _) (by simp [Value.oneCell']) rfl (fun _ d => d) (fun _ d => d.elim) (by unfold maxLen; omega) (by omega) (by simp; omega) ?_; intro g9 cap9 w9 own9 hg9 hat9 hlt9; have bC9 := (BC8.out.alloc _).grown hg9 hne2; have BC9 := Lib.hid bC9; have zb9 := bC9.lt; obtain ⟨⟨ccc0, ccc1, ccc2, ccc3⟩, fff0, fff1, fff2, fff3⟩ := bC9.four; clear bC9))
              go_roundw
              case rel =>
                have hz : RelM o a b N (w.heap.size + 2) wo vS (.slice (some ⟨gg, 0, none⟩) ((rootsM o a b n).length + 1) cap) (.int .i64 ((n : Int) + 1)) (w9.setCell ⟨w.heap.size + 2, 3, none⟩ (.slice (some ⟨g9, 0, none⟩) ((rootsClash o a b n).length + 1) cap9)) := by
                 have k8 := (Kpn.out.alloc (fun b hb => hb.1) _).grown hg8 (fun b hb => hb.1) (fun b hb e => by have := (OwnRn.out.base_le b e.symm).1; have := hb.1; omega)
                 have kz : Kp (fun b => b ≠ w.heap.size + 2) w9 (w9.setCell ⟨w.heap.size + 2, 3, none⟩ (.slice (some ⟨g9, 0, none⟩) ((rootsClash o a b n).length + 1) cap9)) := (Kp.refl _ _).setCell (fun d => d rfl) _
                 have hd8 : ∀ q, gg = q → vC.ownBlock ≠ some q := by
                   rintro q rfl
                   rcases hat8 with h | h
                   · exact Hdis.out gg h
                   · intro e2
                     have := (OwnCn.out.base_le _ e2).2
                     simp at h
                     omega
                 have o8 := (own8.below (balloc (Below.refl _ _) _) (Nat.le_refl _) (fun _ d => d.elim)).grown hg9 (.inr fun e => hd8 gg rfl e.symm) (fun _ d => d.elim)
                 refine ⟨n + 1, _, by omega, by go_num, ((k8.alloc (fun b hb => hb.1) _).grown hg9 (fun b hb => hb.1) (fun b hb e => by have := (OwnCn.out.base_le b e.symm).1; have := hb.1; omega)).setCell (fun d => d.2 rfl) _, BC9.out.set 3 _, ?_, ?_, ?_⟩
                 · rw [Hs1.out]; exact o8.kp kz (fun b hb => by have := (o8.base_le b hb).1; omega) (fun _ d => d.elim)
                 · rw [Hq.out]; exact own9.kp kz (fun b hb => by have := (own9.base_le b hb).1; omega) (fun _ d => d.elim)
                 · intro q e
                   obtain rfl : gg = q := by simpa [Value.ownBlock] using e
                   intro e2
                   obtain rfl : g9 = gg := by simpa [Value.ownBlock] using e2
                   rcases hat9 with h | h
                   · exact hd8 g9 rfl h
                   · simp at h; omega
                first | exact hz | ((repeat apply Exists.intro); exact ⟨hz, rfl⟩)
              case measure => simp [intOf]; omega
          · have hnN : n = max a.roots.length b.roots.length := by have := hN.out; omega
            have Hr := Lib.hid (show allM o a b = ((allObs o a b (outL a b 2)).1, rootsM o a b n, ⟨[], [], (allObs o a b (outL a b 2)).2, rootsClash o a b n⟩) by rw [hnN]; rfl)
            obtain ⟨AR, cR, rfl, r1', r2', r3'⟩ := OwnR.out.read szI (fun _ d => d.elim)
            obtain ⟨AC, cC, rfl, s1', s2', s3'⟩ := OwnC.out.read szI (fun _ d => d.elim)
            obtain ⟨AS, cS, hAS, t1', t2', t3'⟩ := Own.out.read szP (fun _ d => d.elim)
            subst hAS
            have R3 := Lib.hid r3'
            have S3 := Lib.hid s3'
            have T3 := Lib.hid t3'
            have g4 := (H4.out.kp Kpp.out ⟨by omega, by omega, by omega⟩).kp Kp4.out ⟨by omega, by omega⟩
            have z4 := g4.lt
            obtain ⟨⟨d0, d1, d2, d3⟩, e0, e1, e2, e3⟩ := g4.four
            obtain ⟨⟨c0, c1, c2, c3⟩, f0, f1, f2, f3⟩ := BC4.out.four
            clear r3' s3' t3' g4 tw hnN
            go_wp2_with fail
            go_region
            go_wp2
            refine bodyPost_ret (v := .tuple #[.map (some (w.heap.size + 1 + 1 + 1)), .slice AR (rootsM o a b n).length cR, .agg #[.slice none 0 0, .slice none 0 0, .slice AS (allObs o a b (outL a b 2)).2.length cS, .slice AC (rootsClash o a b n).length cC]]) (by simp [results, Tryz.results20, go_sem, *]) rfl ?_
            have kf := (set4 wr (w.heap.size + 1) (.slice none 0 0) (.slice none 0 0) (.slice AS (allObs o a b (outL a b 2)).2.length cS) (.slice AC (rootsClash o a b n).length cC)).drew
            refine ⟨BWR.out.trans (kf.below (B := w.heap.size) fun k hk => by omega), ?_⟩
            rw [Hr.out]
            generalize World.drew _ = WF at kf ⊢
            have hkeep : ∀ q, W.heap.size ≤ q → q < wo.heap.size → WF.heap[q]? = wo.heap[q]? := fun q h1 h2 => (kf.block q (by omega)).trans (Kp4.out.block q ⟨h2, by omega⟩)
            have hszF := kf.size
            refine ⟨w.heap.size + 1 + 1 + 1, m, AR, cR, AS, cS, AC, cC, rfl, by omega, Im.out.keep ((kf.block _ (by omega)).trans (Kp4.out.block _ ⟨by omega, by omega⟩)), Mo'.out.keep (fun q hq => ⟨⟨by omega, by omega, by omega⟩, hkeep q hq.1 hq.2.1⟩), r1', r2',
              (RepL.keep R3.out fun q hq => kf.block q (by rcases hq.2 with h | h; omega; exact h.elim)).mono fun q hq => ⟨by rcases hq.2 with h | h; omega; exact h.elim, by omega, by rcases hq.2 with h | h; omega; exact h.elim⟩, ?_⟩
            exact ⟨t1', t2', (RepL.keep T3.out fun q hq => hkeep q (by rcases hq.2 with h | h; exact h; exact h.elim) hq.1).mono fun q hq => ⟨by rcases hq.2 with h | h; omega; exact h.elim, by omega, by rcases hq.2 with h | h; omega; exact h.elim⟩,
              s1', s2', (RepL.keep S3.out fun q hq => kf.block q (by rcases hq.2 with h | h; omega; exact h.elim)).mono fun q hq => ⟨by rcases hq.2 with h | h; omega; exact h.elim, by omega, by rcases hq.2 with h | h; omega; exact h.elim⟩⟩
end
end Go.Proofs.YtgeegdnkheckcaaGreat
