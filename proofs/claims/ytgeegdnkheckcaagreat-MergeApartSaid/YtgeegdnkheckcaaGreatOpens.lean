/- What comes in, as the readings of this claim have it: numbers, texts, slices, structs; a graph. -/
import Derived.Test.YtgeegdnkheckcaaGreatGraph
import Derived.Lib.SmallJoins
set_option linter.unusedVariables false
namespace Go.Proofs.YtgeegdnkheckcaaGreat
open Lay (rep)
open Go.RowKit Go.Deep Go.ChangeShapes

section
variable {H : Type} {enc : TypeId × Value → H} {w : World} {spare : Nat → Bool} {held : Bool} {fuel : Nat} {cs : List Value} {x : DataW H × List MemPlace}

theorem cellsVal : Tryz.prog.cellsOf 47 = 3 := by kernel_rfl
theorem cellsField : Tryz.prog.cellsOf 87 = 3 := by kernel_rfl
theorem cellsObj : Tryz.prog.cellsOf 45 = 3 := by kernel_rfl
theorem cellsType : Tryz.prog.cellsOf 90 = 2 := by kernel_rfl
theorem cellsInt : Tryz.prog.cellsOf 3 = 1 := by kernel_rfl
theorem cellsGraph : Tryz.prog.cellsOf 28 = 3 := by kernel_rfl
theorem list3 {α : Type} {l : List α} (h : l.length = 3) : ∃ a b c, l = [a, b, c] := by
  match l, h with
  | [a, b, c], _ => exact ⟨a, b, c, rfl⟩
theorem list2 {α : Type} {l : List α} (h : l.length = 2) : ∃ a b, l = [a, b] := by
  match l, h with
  | [a, b], _ => exact ⟨a, b, rfl⟩
theorem spot_none {w : World} {a : Addr} {v : Value} (h : w.cell? a = some v) : a = ⟨a.block, a.off, none⟩ ∧ a.block < w.heap.size := by
  unfold World.cell? at h
  split at h
  · rename_i c e f hb
    split at h
    · cases h
    · rename_i hs
      have hs' : a.spot = none := by simpa using hs
      refine ⟨by cases a; simp_all, (Array.getElem?_eq_some_iff.1 hb).1⟩
  · cases h
theorem add_spot {a : Addr} (h : a.spot = none) (q : Nat) : a.add q = ⟨a.block, a.off + q, none⟩ := by
  obtain ⟨b, o, s⟩ := a
  subst h
  unfold Addr.add
  split
  · rename_i h; subst h; rfl
  · rfl
theorem cells_get {w : World} {base n : Nat} {a : Addr} {cs : List Value} (h : w.cells? base a n = some cs) : cs.length = n ∧ ∀ i (hi : i < cs.length), w.cell? (a.add i) = some cs[i] := by
  unfold World.cells? at h
  split at h
  · have hl := mapM_some_length h
    have hl' : cs.length = n := by simpa using hl
    refine ⟨hl', fun i hi => ?_⟩
    have := mapM_some_get h i i (show (List.range n)[i]? = some i by rw [List.getElem?_range (by omega)])
    rw [this, List.getElem?_eq_getElem hi]
  · cases h
theorem trod_slice_L {α : Type} [Lay α] {T E : TypeId} (hsz : 0 < Lay.sz α) (ht : Tryz.prog.underlying T = some (.slice E)) (hc : Tryz.prog.cellsOf E = Lay.sz α)
    (he : ∀ {n : Nat} {cs : List Value} {x : DataW H × List MemPlace}, DataW.trod enc Tryz.prog w 0 spare held n E cs = some x → ∃ a : α, rep (Bel w) w cs a)
    (h : DataW.trod enc Tryz.prog w 0 spare held fuel T cs = some x) : ∃ (A : Option Addr) (c : Nat) (l : List α), cs = [.slice A l.length c] ∧ l.length ≤ c ∧ c ≤ maxLen ∧ RepL (Bel w) w A l := by
  rcases open_slice ht h with ⟨rfl, _⟩ | ⟨a, len, cap, m, n, D, Pl, rfl, _, hl, hm, hmm, _, hx⟩
  · exact ⟨none, 0, [], rfl, Nat.le_refl _, Nat.zero_le _, RepL.nil⟩
  · have hlm : len ≤ m := by rw [hmm]; split <;> omega
    have hx' : ∀ i (hi : i < len), ∃ us, ∃ y : α, rep (Bel w) w us y ∧ us.length = Lay.sz α ∧ ∀ k (hk : k < us.length), w.cell? ((a.add (i * Lay.sz α)).add k) = some us[k] := fun i hi => by
      obtain ⟨us, h1, h2⟩ := hx i (by omega)
      rw [hc] at h1
      obtain ⟨y, hy⟩ := he h2
      obtain ⟨h3, h4⟩ := cells_get h1
      exact ⟨us, y, hy, h3, h4⟩
    refine ⟨some a, cap, List.ofFn fun i : Fin len => Classical.choose (Classical.choose_spec (hx' i.1 i.2)), by simp, by simpa using hl, hm, fun hne => ?_⟩
    have h0 : 0 < len := by
      rcases Nat.eq_zero_or_pos len with h | h
      · subst h; simp at hne
      · exact h
    obtain ⟨us0, y0, hy0, hl0, hc0⟩ := hx' 0 h0
    have hz := hc0 0 (by omega)
    rw [Nat.zero_mul, add_add] at hz
    obtain ⟨hsp, hlt⟩ := spot_none hz
    rw [show a.add (0 + 0) = a by simp [Addr.add]] at hsp hlt
    have hs : a.spot = none := by rw [hsp]
    have hab := hlt
    refine ⟨a.block, a.off, congrArg some hsp, hab, hab, fun j hj => ?_⟩
    have hj' : j < len := by simpa using hj
    have hspec := Classical.choose_spec (Classical.choose_spec (hx' j hj'))
    refine ⟨Classical.choose (hx' j hj'), ?_, fun k hk => ?_⟩
    · simp only [List.getElem_ofFn]
      exact hspec.1
    · have := hspec.2.2 k hk
      rw [add_add, add_spot hs, ← Nat.add_assoc] at this
      exact this
set_option maxRecDepth 100000 in
theorem trod_int_L (h : DataW.trod enc Tryz.prog w 0 spare held fuel 3 cs = some x) : ∃ a : Int, rep (Bel w) w cs a := by
  obtain ⟨n, rfl, _⟩ := DataW.trod_int Tryz.underlying3 h
  exact ⟨n, rfl⟩
set_option maxRecDepth 100000 in
theorem trod_val_L (h : DataW.trod enc Tryz.prog w 0 spare held fuel 47 cs = some x) : ∃ a : Vl, rep (Bel w) w cs a := by
  obtain ⟨y0, y1, y2, n, _, hl, h0, h1, h2⟩ := trod_struct3 Tryz.underlying47 h
  rw [cellsVal] at hl
  obtain ⟨u0, u1, u2, rfl⟩ := list3 hl
  have h0' : DataW.trod enc Tryz.prog w 0 spare held n 3 [u0] = some y0 := h0
  have h1' : DataW.trod enc Tryz.prog w 0 spare held n 9 [u1] = some y1 := h1
  have h2' : DataW.trod enc Tryz.prog w 0 spare held n 3 [u2] = some y2 := h2
  obtain ⟨a, e0, _⟩ := DataW.trod_int Tryz.underlying3 h0'
  obtain ⟨s, e1, _, hs⟩ := DataW.trod_string Tryz.underlying9 h1'
  obtain ⟨b, e2, _⟩ := DataW.trod_int Tryz.underlying3 h2'
  simp only [List.cons.injEq, and_true] at e0 e1 e2
  subst e0 e1 e2
  exact ⟨⟨a, s, b⟩, rfl, hs⟩
set_option maxRecDepth 100000 in
theorem trod_field_L (h : DataW.trod enc Tryz.prog w 0 spare held fuel 87 cs = some x) : ∃ a : Fld, rep (Bel w) w cs a := by
  obtain ⟨y0, y1, y2, n, _, hl, h0, h1, h2⟩ := trod_struct3 Tryz.underlying87 h
  rw [cellsField] at hl
  obtain ⟨u0, u1, u2, rfl⟩ := list3 hl
  have h0' : DataW.trod enc Tryz.prog w 0 spare held n 9 [u0] = some y0 := h0
  have h1' : DataW.trod enc Tryz.prog w 0 spare held n 3 [u1] = some y1 := h1
  have h2' : DataW.trod enc Tryz.prog w 0 spare held n 9 [u2] = some y2 := h2
  obtain ⟨a, e0, _, ha⟩ := DataW.trod_string Tryz.underlying9 h0'
  obtain ⟨k, e1, _⟩ := DataW.trod_int Tryz.underlying3 h1'
  obtain ⟨b, e2, _, hb⟩ := DataW.trod_string Tryz.underlying9 h2'
  simp only [List.cons.injEq, and_true] at e0 e1 e2
  subst e0 e1 e2
  exact ⟨⟨a, k, b⟩, rfl, ha, hb⟩
set_option maxRecDepth 100000 in
theorem trod_type_L (h : DataW.trod enc Tryz.prog w 0 spare held fuel 90 cs = some x) : ∃ a : Typ, rep (Bel w) w cs a := by
  obtain ⟨y0, y1, n, _, hl, h0, h1⟩ := trod_struct2 Tryz.underlying90 h
  rw [cellsType] at hl
  obtain ⟨u0, u1, rfl⟩ := list2 hl
  have h0' : DataW.trod enc Tryz.prog w 0 spare held n 9 [u0] = some y0 := h0
  have h1' : DataW.trod enc Tryz.prog w 0 spare held n 88 [u1] = some y1 := h1
  obtain ⟨a, e0, _, ha⟩ := DataW.trod_string Tryz.underlying9 h0'
  obtain ⟨A, c, l, e1, hl1, hl2, hr⟩ := trod_slice_L (α := Fld) (by decide) Tryz.underlying88 cellsField (fun h => trod_field_L h) h1'
  simp only [List.cons.injEq, and_true] at e0 e1
  subst e0 e1
  exact ⟨⟨a, l⟩, A, c, rfl, hl1, hl2, hr, ha⟩
set_option maxRecDepth 100000 in
theorem trod_obj_L (h : DataW.trod enc Tryz.prog w 0 spare held fuel 45 cs = some x) : ∃ a : Ob, rep (Bel w) w cs a := by
  obtain ⟨y0, y1, y2, n, _, hl, h0, h1, h2⟩ := trod_struct3 Tryz.underlying45 h
  rw [cellsObj] at hl
  obtain ⟨u0, u1, u2, rfl⟩ := list3 hl
  have h0' : DataW.trod enc Tryz.prog w 0 spare held n 3 [u0] = some y0 := h0
  have h1' : DataW.trod enc Tryz.prog w 0 spare held n 3 [u1] = some y1 := h1
  have h2' : DataW.trod enc Tryz.prog w 0 spare held n 43 [u2] = some y2 := h2
  obtain ⟨a, e0, _⟩ := DataW.trod_int Tryz.underlying3 h0'
  obtain ⟨b, e1, _⟩ := DataW.trod_int Tryz.underlying3 h1'
  obtain ⟨A, c, l, e2, hl1, hl2, hr⟩ := trod_slice_L (α := Vl) (by decide) Tryz.underlying43 cellsVal (fun h => trod_val_L h) h2'
  simp only [List.cons.injEq, and_true] at e0 e1 e2
  subst e0 e1 e2
  exact ⟨⟨a, b, l⟩, A, c, rfl, hl1, hl2, hr⟩
set_option maxRecDepth 100000 in
theorem open_graph {r : Reach} {b0 : Nat} {v : Value} {d : DataW H} {p : List MemPlace} (hv : Value.okWide Tryz.prog w r b0 28 v) (h : DataW.Trod enc Tryz.prog w 0 spare held 28 v d p) :
    ∃ As cs Ao co Ar cr g, v = gv As cs Ao co Ar cr g ∧ GOK w As cs Ao co Ar cr g := by
  obtain ⟨v0, v1, v2, y0, y1, y2, n, rfl, _, _, h0, h1, h2⟩ := Joins.open_agg3 Tryz.underlying28 (by kernel_rfl) cellsGraph hv h
  have h0' : DataW.trod enc Tryz.prog w 0 spare held n 24 [v0] = some y0 := h0
  have h1' : DataW.trod enc Tryz.prog w 0 spare held n 25 [v1] = some y1 := h1
  have h2' : DataW.trod enc Tryz.prog w 0 spare held n 26 [v2] = some y2 := h2
  obtain ⟨z0, m, _, _, hs⟩ := trod_struct1 Tryz.underlying24 h0'
  have hs' : DataW.trod enc Tryz.prog w 0 spare held m 22 [v0] = some z0 := hs
  obtain ⟨As, cs, ls, e0, s1, s2, s3⟩ := trod_slice_L (α := Typ) (by decide) Tryz.underlying22 cellsType (fun h => trod_type_L h) hs'
  obtain ⟨Ao, co, lo, e1, o1, o2, o3⟩ := trod_slice_L (α := Ob) (by decide) Tryz.underlying25 cellsObj (fun h => trod_obj_L h) h1'
  obtain ⟨Ar, cr, lr, e2, r1, r2, r3⟩ := trod_slice_L (α := Int) (by decide) Tryz.underlying26 cellsInt (fun h => trod_int_L h) h2'
  simp only [List.cons.injEq, and_true] at e0 e1 e2
  subst e0 e1 e2
  exact ⟨As, cs, Ao, co, Ar, cr, ⟨ls, lo, lr⟩, rfl, s1, s2, s3, o1, o2, o3, r1, r2, r3⟩
end
end Go.Proofs.YtgeegdnkheckcaaGreat
