/- The walks of package graph that a graph's 'May' needs. -/
import Derived.Test.YtgeegdnkheckcaaGreatSchMay
import Derived.Test.YtgeegdnkheckcaaGreatMap
set_option linter.unusedVariables false
namespace Go.Proofs.YtgeegdnkheckcaaGreat
open Lay (rep)
open Go.RowKit

/-- A graph's value: three slices. -/
@[reducible] def gv (As : Option Addr) (cs : Nat) (Ao : Option Addr) (co : Nat) (Ar : Option Addr) (cr : Nat) (g : Gr) : Value :=
  .agg #[.slice As g.s.length cs, .slice Ao g.o.length co, .slice Ar g.roots.length cr]
structure GOK (w : World) (As : Option Addr) (cs : Nat) (Ao : Option Addr) (co : Nat) (Ar : Option Addr) (cr : Nat) (g : Gr) : Prop where
  s1 : g.s.length ≤ cs
  s2 : cs ≤ maxLen
  s : RepL (Bel w) w As g.s
  o1 : g.o.length ≤ co
  o2 : co ≤ maxLen
  o : RepL (Bel w) w Ao g.o
  r1 : g.roots.length ≤ cr
  r2 : cr ≤ maxLen
  r : RepL (Bel w) w Ar g.roots
theorem GOK.below {w W : World} {As : Option Addr} {cs : Nat} {Ao : Option Addr} {co : Nat} {Ar : Option Addr} {cr : Nat} {g : Gr} (h : GOK w As cs Ao co Ar cr g) (hb : Below w.heap.size w W) : GOK W As cs Ao co Ar cr g :=
  ⟨h.s1, h.s2, h.s.below hb, h.o1, h.o2, h.o.below hb, h.r1, h.r2, h.r.below hb⟩

/-! Pure -/
def gfind (g : Gr) (id : Int) : Int := idx (fun o => decide (o.id = id)) g.o
def typesM (l : List Ob) : MP := l.foldl (fun m o => mput m o.id (.int .i64 o.t)) []
def typ (l : List Ob) (id : Int) : Option Int := (l.reverse.find? fun o => o.id == id).map (·.t)
theorem mlook_mput (m : MP) (k : Int) (v : Value) (k' : Int) : mlook (mput m k v) k' = if k == k' then some v else mlook m k' := by
  induction m with
  | nil =>
    simp only [mput, mlook, List.find?]
    cases h : (k == k') <;> simp
  | cons p m ih =>
    simp only [mput]
    by_cases h : p.1 = k
    · rw [if_pos (by simp [h])]
      simp only [mlook, List.find?, h]
      cases h' : (k == k') <;> simp
    · rw [if_neg (by simp [h])]
      simp only [mlook, List.find?] at ih ⊢
      by_cases h2 : p.1 = k'
      · have h3 : (k == k') = false := by rw [beq_eq_false_iff_ne]; exact fun e => h (h2.trans e.symm)
        simp [h2, h3]
      · have h3 : (p.1 == k') = false := by rw [beq_eq_false_iff_ne]; exact h2
        simp only [h3]
        exact ih
theorem mlook_types (l : List Ob) (id : Int) : mlook (typesM l) id = (typ l id).map (fun t => (.int .i64 t : Value)) := by
  have : ∀ (l : List Ob) (m : MP), mlook (l.foldl (fun m o => mput m o.id (.int .i64 o.t)) m) id = ((typ l id).map (fun t => (.int .i64 t : Value))).or (mlook m id) := by
    intro l
    induction l with
    | nil => intro m; simp [typ]
    | cons o l ih =>
      intro m
      simp only [List.foldl_cons]
      rw [ih, mlook_mput]
      simp only [typ, List.reverse_cons, List.find?_append]
      cases hq : List.find? (fun o => o.id == id) l.reverse with
      | some x => simp
      | none =>
        simp only [Option.none_or, List.find?]
        cases h' : (o.id == id) <;> simp
  rw [typesM, this l []]; simp [mlook]
def leads (g : Gr) (f : Fld) (v : Vl) : Bool :=
  vfits f v && (f.kind != 5 || v.r == -1 || (match typ g.o v.r with | some t => t == sfind g.s f.to | none => false))

set_option maxRecDepth 100000 in
theorem gfind1_Calls {w W : World} {x : Ob} {us : List Value} {n : Int} {B : Nat} (hc : w.cell? ⟨B, 0, none⟩ = some (.int .i64 n)) (hb : Below w.heap.size w W) (hr : rep (Bel W) W us x) :
    Calls Tryz.prog 69 #[argOf us, .pointer (some ⟨B, 0, none⟩)] W fun e w' => e = .returned (.bool (decide (x.id = n))) ∧ Below W.heap.size W w' := by
  obtain ⟨F, cF, rfl, _, _, _⟩ := hr
  have hB := hb.size
  have hB' := block_lt hc
  have hc' := (cell_keep (hb.block B hB')).trans hc
  clear hc
  have hB2 : B < W.heap.size := by omega
  show Calls _ _ #[.agg #[.int .i64 x.id, .int .i64 x.t, .slice F x.f.length cF], .pointer (some ⟨B, 0, none⟩)] _ _
  have H := Lib.hid (show decide (x.id = n) = (x.id == n) by rw [Bool.eq_iff_iff]; simp)
  go_enter Tryz.func69, Tryz.ntmps69
  go_wp2
  go_ret
  exact ⟨by rw [H.out]; rfl, (Below.refl _ _).alloc (Nat.le_refl _) _⟩

set_option maxRecDepth 100000 in
theorem graph_Find {w : World} {As : Option Addr} {cs : Nat} {Ao : Option Addr} {co : Nat} {Ar : Option Addr} {cr : Nat} {g : Gr} {id : Int} (hg : GOK w As cs Ao co Ar cr g) :
    Calls Tryz.prog 42 #[gv As cs Ao co Ar cr g, .int .i64 id] w fun e w' => e = .returned (.int .i64 (gfind g id)) ∧ Below w.heap.size w w' := by
  have Hg := Lib.hid hg
  clear hg
  go_enter Tryz.func42, Tryz.ntmps42
  go_wp2_with fail
  refine nameC fun W hW => ?_
  have b2 : Below w.heap.size w W := by rw [hW]; exact balloc (balloc (Below.refl _ _) _) _
  have f1 : W.cell? ⟨w.heap.size + 1, 0, none⟩ = some (.int .i64 id) := by rw [hW]; simp
  clear hW
  have hp : PredC Tryz.prog 69 #[.pointer (some ⟨w.heap.size + 1, 0, none⟩)] W g.o (fun o => decide (o.id = id)) := ⟨enters_of Tryz.func69 (by kernel_rfl) rfl, fun W x us _ hb hr => gfind1_Calls f1 hb hr⟩
  refine (indexFunc_Obj Hg.out.o1 Hg.out.o2 (Hg.out.o.below b2) hp).mono ?_
  rintro e w' ⟨rfl, hb⟩
  go_wp2
  go_ret
  exact ⟨rfl, bthen b2 hb⟩

theorem take_snoc {α : Type} (l : List α) (k : Nat) (h : k < l.length) : l.take (k + 1) = l.take k ++ [l[k]] := by
  rw [List.take_succ_eq_append_getElem h]
theorem typesM_snoc (l : List Ob) (o : Ob) : typesM (l ++ [o]) = mput (typesM l) o.id (.int .i64 o.t) := by
  simp [typesM]

set_option maxRecDepth 100000 in
set_option maxHeartbeats 1000000 in
theorem graph_types {w : World} {As : Option Addr} {cs : Nat} {Ao : Option Addr} {co : Nat} {Ar : Option Addr} {cr : Nat} {g : Gr} (hg : GOK w As cs Ao co Ar cr g) :
    Calls Tryz.prog 38 #[gv As cs Ao co Ar cr g] w fun e w' => ∃ b, e = .returned (.map (some b)) ∧ Below w.heap.size w w' ∧ IMap w' b (typesM g.o) := by
  have ho1 := hg.o1
  have ho2 := hg.o2
  unfold maxLen at ho2
  have Hg := Lib.hid hg
  clear hg
  have mk := fun (w : World) => run_makeMap_i (P := Tryz.prog) Tryz.underlying80 w
  go_enter Tryz.func38, Tryz.ntmps38
  go_wp2_with fail
  refine nameW fun W hW => ?_
  have b2 : Below w.heap.size w W := by rw [hW]; exact balloc (balloc (Below.refl _ _) _) _
  have im : IMap W (w.heap.size + 1) (typesM (g.o.take 0)) := by rw [hW]; exact IMap.made' (by simp)
  clear hW
  go_loopw [10] (fun i wr => ∃ k : Nat, k ≤ g.o.length ∧ i = .int .i64 k ∧ Below w.heap.size w wr ∧ IMap wr (w.heap.size + 1) (typesM (g.o.take k))) (fun i _ => g.o.length - (intOf i).toNat)
  case atStart => exact ⟨0, Nat.zero_le _, rfl, b2, im⟩
  case round =>
    clear im b2
    obtain ⟨k, hk, rfl, hbl, im⟩ := hrel
    have Hbl := Lib.hid hbl
    clear hbl
    have Im := Lib.hid im
    clear im
    by_cases hlt : k < g.o.length
    · obtain ⟨b, off, rfl, hS, hbz, hcs⟩ := (Hg.out.o.below Hbl.out).ob (by intro e; simp [e] at hlt)
      have Hs := Lib.hid (take_snoc g.o k hlt)
      replace hcs := hcs k hlt
      generalize g.o[k] = x at Hs hcs
      obtain ⟨F, cF, c0, c1, c2, _, _, _⟩ := hcs
      go_wp2_with (at_mapUpdate; refine wpList_mapUpdate_i rfl _ _ _ _ rfl Tryz.underlying80 Tryz.underlying3 rfl rfl rfl (Im.out.alloc _) ?_; intro w2 im2 hg2)
      go_roundw
      case rel => exact ⟨k + 1, by omega, by go_num, (balloc Hbl.out _).grown hg2 (by have := Hbl.out.size; simp; omega) (by intro k h; cases h; omega), by rw [Hs.out, typesM_snoc]; exact im2⟩
      case measure => simp [intOf]; omega
    · go_wp2_with fail
      go_ret
      exact ⟨_, rfl, Hbl.out, by have := Im.out; rwa [List.take_of_length_le (by omega)] at this⟩

theorem zeroInt (w : World) : (zeroValue 3).run Tryz.prog w = .ok (.int .i64 0) w := by kernel_rfl

set_option maxRecDepth 100000 in
set_option maxHeartbeats 2000000 in
theorem graph_leads {w : World} {As : Option Addr} {cs : Nat} {Ao : Option Addr} {co : Nat} {Ar : Option Addr} {cr : Nat} {g : Gr} {b : Nat} {f : Fld} {v : Vl} (hg : GOK w As cs Ao co Ar cr g)
    (hm : IMap w b (typesM g.o)) :
    Calls Tryz.prog 43 #[gv As cs Ao co Ar cr g, .map (some b), .agg #[.string f.name, .int .i64 f.kind, .string f.to], .agg #[.int .i64 v.n, .string v.s, .int .i64 v.r]] w
      fun e w' => e = .returned (.bool (leads g f v)) ∧ Below w.heap.size w w' := by
  have Hg := Lib.hid hg
  have Hm := Lib.hid hm
  clear hg hm
  go_enter Tryz.func43, Tryz.ntmps43
  go_wp2_with fail
  refine nameC fun W hW => ?_
  have b2 : Below w.heap.size w W := by rw [hW]; exact balloc (balloc (balloc (Below.refl _ _) _) _) _
  have f0 : W.cell? ⟨w.heap.size, 0, none⟩ = some (.slice As g.s.length cs) := by rw [hW]; go_simp
  have f1 : W.cell? ⟨w.heap.size + 1, 1, none⟩ = some (.int .i64 f.kind) := by rw [hW]; go_simp
  have f2 : W.cell? ⟨w.heap.size + 1, 2, none⟩ = some (.string f.to) := by rw [hW]; go_simp
  have f3 : W.cell? ⟨w.heap.size + 2, 2, none⟩ = some (.int .i64 v.r) := by rw [hW]; go_simp
  clear hW
  refine value_Fits.mono ?_
  rintro e w1 ⟨rfl, hb1⟩
  replace f0 := keep1 hb1 f0
  replace f1 := keep1 hb1 f1
  replace f2 := keep1 hb1 f2
  replace f3 := keep1 hb1 f3
  have b3 := bthen b2 hb1
  clear hb1 b2
  rcases Bool.eq_false_or_eq_true (vfits f v) with e1 | e1
  case inr =>
    have Hf := Lib.hid (show leads g f v = false by simp [leads, e1])
    go_wp2_with fail
    go_ret
    exact ⟨by rw [Hf.out]; rfl, b3⟩
  have H1 := Lib.hid e1
  have lk := run_lookup_i Tryz.underlying80 Tryz.underlying3 (zeroInt w1) (Hm.out.below b3) v.r true
  rw [mlook_types] at lk
  rcases Bool.eq_false_or_eq_true (f.kind != 5) with e2 | e2
  case inl =>
    have Hf := Lib.hid (show leads g f v = true by simp [leads, e1, e2])
    cases ht : typ g.o v.r
    all_goals
      rw [ht] at lk
      go_wp2_with fail
      go_ret
      exact ⟨by rw [Hf.out]; rfl, b3⟩
  rcases Bool.eq_false_or_eq_true (v.r == -1) with e3 | e3
  case inl =>
    have Hf := Lib.hid (show leads g f v = true by simp [leads, e1, e3])
    cases ht : typ g.o v.r
    all_goals
      rw [ht] at lk
      go_wp2_with fail
      go_ret
      exact ⟨by rw [Hf.out]; rfl, b3⟩
  cases ht : typ g.o v.r
  case none =>
    have Hf := Lib.hid (show leads g f v = false by simp only [leads, e1, e2, e3, ht]; rfl)
    rw [ht] at lk
    clear ht
    go_wp2_with fail
    go_ret
    exact ⟨by rw [Hf.out]; rfl, b3⟩
  case some t =>
    have Hf := Lib.hid (show leads g f v = (t == sfind g.s f.to) by simp only [leads, e1, e2, e3, ht]; rfl)
    rw [ht] at lk
    clear ht
    go_wp2_with fail
    refine (schema_Find Hg.out.s1 Hg.out.s2 (Hg.out.s.below b3)).mono ?_
    rintro e w2 ⟨rfl, hb2⟩
    go_wp2_with fail
    go_ret
    exact ⟨by rw [Hf.out]; rfl, bthen b3 hb2⟩
end Go.Proofs.YtgeegdnkheckcaaGreat
