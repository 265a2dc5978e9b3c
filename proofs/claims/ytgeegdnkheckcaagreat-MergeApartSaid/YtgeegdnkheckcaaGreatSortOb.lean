/- The library's sorting of objects by ids: at most 12 of them. -/
import Derived.Test.YtgeegdnkheckcaaGreatLaySort
import Derived.Test.YtgeegdnkheckcaaGreatDiff
import Derived.Shelf.SlSortCmp.NoneTotal
set_option linter.unusedVariables false
namespace Go.Proofs.YtgeegdnkheckcaaGreat
open Lay (rep)
open Go.RowKit Go.Shelf Go.Sort

/-- An object and where its fields lie. -/
abbrev SOb := { x : Ob × (Option Addr × Nat) // 0 ≤ x.1.id ∧ x.1.id ≤ 1073741824 }
instance : Inhabited SOb := ⟨⟨(⟨0, 0, []⟩, (none, 0)), by simp⟩⟩
def encO (x : SOb) : List Value := [.int .i64 x.1.1.id, .int .i64 x.1.1.t, .slice x.1.2.1 x.1.1.f.length x.1.2.2]
def cmpO (x y : SOb) : Int := x.1.1.id - y.1.1.id
theorem ltO (x y : SOb) : ltOf cmpO x y = decide (x.1.1.id < y.1.1.id) := decide_eq_decide.2 (by unfold cmpO; omega)
theorem swoO : SWO (ltOf cmpO) := ⟨fun x => by rw [ltO]; simp, fun x y z h1 h2 => by rw [ltO, decide_eq_true_iff] at *; omega, fun x y z h1 h2 => by rw [ltO, decide_eq_false_iff_not] at *; omega⟩

set_option maxRecDepth 100000 in
theorem merge1_Calls (x y : SOb) (W : World) : Calls Tryz.prog 24 #[.agg (encO x).toArray, .agg (encO y).toArray] W fun e w' => e = .returned (.int .i64 (cmpO x y)) ∧ ∃ q os', w' = grow (W.drewN q) os' := by
  obtain ⟨⟨x, Fx, cx⟩, hx1, hx2⟩ := x
  obtain ⟨⟨y, Fy, cy⟩, hy1, hy2⟩ := y
  simp only at hx1 hx2 hy1 hy2
  show Calls _ _ #[.agg #[.int .i64 x.id, .int .i64 x.t, .slice Fx x.f.length cx], .agg #[.int .i64 y.id, .int .i64 y.t, .slice Fy y.f.length cy]] _ _
  have hw : IntKind.i64.wrap (x.id - y.id) = x.id - y.id := IntWalk.i64_in _ (by omega)
  go_enter Tryz.func24, Tryz.ntmps24
  go_wp2
  go_ret
  exact ⟨rfl, 0, _, by rw [alloc_eq_grow, alloc_eq_grow, grow_grow]; rfl⟩

theorem hlenO (n : Nat) (W : World) (h : n ≤ 12) : Calls Tryz.prog 52 #[.int .u64 n] W fun e w' => (∃ l : Int, e = .returned (.int .i64 l)) ∧ w' = W :=
  (Any.bits_Len Tryz.lays125 n W (by omega) (by omega)).mono fun _ _ ⟨he, hw⟩ => ⟨⟨_, he⟩, hw⟩

theorem kp_sort (w : World) (g m : Nat) (d : Array SOb) (os : Array Obj) : Kp (fun b => b < w.heap.size ∧ b ≠ g) w (sortWorldK encO 3 w g 0 m d os) := by
  refine ⟨rfl, rfl, rfl, ?_, fun b hb => ?_⟩
  · exact size_sortWorldK_c encO 3 w g 0 m d os
  · unfold sortWorldK
    rw [heap_grow_old _ _ (by rw [show (putRowK encO 3 (Sort.ahead w m) g 0 d).heap.size = w.heap.size by show (w.heap.modify g _).size = _; simp]; exact hb.1)]
    show (w.heap.modify g _)[b]? = _
    rw [Array.getElem?_modify, if_neg (fun e => hb.2 e.symm)]

theorem holdsO {S : Nat → Prop} {w : World} {base g cap : Nat} {L : List Ob} (own : OwnL S w base 45 (.slice (some ⟨g, 0, none⟩) L.length cap) L) (hid : ∀ x ∈ L, 0 ≤ x.id ∧ x.id ≤ 1073741824) :
    ∃ d : Array SOb, d.toList.map (·.1.1) = L ∧ HoldsK encO 3 w g 0 d ∧ ∀ x ∈ d.toList, rep S w (encO x) x.1.1 := by
  obtain ⟨xs, hx, hr⟩ := own.out
  have hch : ∀ j (h : j < L.length), ∃ y : SOb, (xs.drop (j * 3)).take 3 = encO y ∧ y.1.1 = L[j] ∧ rep S w (encO y) y.1.1 := fun j hj => by
    obtain ⟨F, c, h1, h2, h3, h4⟩ := hr j hj
    exact ⟨⟨(L[j], (F, c)), hid _ (List.getElem_mem hj)⟩, h1, rfl, F, c, rfl, h2, h3, h4⟩
  have hd := Array.ofFn fun j : Fin L.length => Classical.choose (hch j.1 j.2)
  refine ⟨Array.ofFn fun j : Fin L.length => Classical.choose (hch j.1 j.2), ?_, ?_, ?_⟩
  · apply List.ext_getElem
    · simp
    · intro j h1 h2
      simp only [List.getElem_map, Array.toList_ofFn, List.getElem_ofFn]
      exact (Classical.choose_spec (hch j h2)).2.1
  · intro t ht
    rw [size_flatK, Array.size_ofFn] at ht
    rw [get_flatK _ _ _ _ (by rw [Array.size_ofFn]; exact ht)]
    have hj : t / 3 < L.length := by omega
    have hrow : w.ownsRow base 45 3 (.slice (some ⟨g, 0, none⟩) L.length cap) L.length xs := hx
    have hlen : xs.length = L.length * 3 := hx.1
    refine ⟨?_, by rw [Nat.zero_add]; exact hrow.frozenAt _⟩
    rw [Nat.zero_add, hrow.cellAt _ (by omega)]
    rw [getElem!_pos _ (t / 3) (by simpa using hj), Array.getElem_ofFn]
    have hs := (Classical.choose_spec (hch (t / 3) hj)).1
    rw [← hs]
    have h3 : t % 3 < 3 := Nat.mod_lt _ (by omega)
    have hl3 : ((xs.drop (t / 3 * 3)).take 3).length = 3 := by simp; omega
    rw [getElem!_pos _ (t % 3) (by omega), List.getElem_take, List.getElem_drop]
    rw [List.getElem?_eq_getElem (by omega)]
    congr 1
    congr 1
    omega
  · intro x hx
    simp only [Array.toList_ofFn, List.mem_ofFn] at hx
    obtain ⟨j, rfl⟩ := hx
    exact (Classical.choose_spec (hch j.1 j.2)).2.2

theorem repL_holds {S : Nat → Prop} {w : World} {g : Nat} {d : Array SOb} (hH : HoldsK encO 3 w g 0 d) (hg : g < w.heap.size) (hr : ∀ x ∈ d.toList, rep S w (encO x) x.1.1) : RepL (fun b => b = g ∨ S b) w (some ⟨g, 0, none⟩) (d.toList.map (·.1.1)) := fun _ => by
  refine ⟨g, 0, rfl, .inl rfl, hg, fun j hj => ?_⟩
  have hj' : j < d.size := by simpa using hj
  refine ⟨encO d[j], ?_, fun i hi => ?_⟩
  · simp only [List.getElem_map, Array.getElem_toList]
    exact Lay.mono (hr d[j] (Array.getElem_mem_toList hj')) fun b hb => .inr hb
  · have h3 : i < 3 := hi
    have := (hH.cell hj' h3).1
    rw [getElem!_pos d j hj', getElem!_pos (encO d[j]) i hi] at this
    exact this

theorem sort_Obj {S : Nat → Prop} {w : World} {base g cap : Nat} {L : List Ob} (own : OwnL S w base 45 (.slice (some ⟨g, 0, none⟩) L.length cap) L) (hid : ∀ x ∈ L, 0 ≤ x.id ∧ x.id ≤ 1073741824) (hL : L.length ≤ 12) (hS : ∀ b, S b → b < w.heap.size ∧ b ≠ g) :
    Calls Tryz.prog 23 #[.slice (some ⟨g, 0, none⟩) L.length cap, .func (.func 24) #[] #[]] w fun e w' =>
      e = .returned (.tuple #[]) ∧ Kp (fun b => b < w.heap.size ∧ b ≠ g) w w' ∧ ∃ L', L'.Perm L ∧ L'.Pairwise (fun x y => x.id ≤ y.id) ∧ RepL (fun b => b = g ∨ S b) w' (some ⟨g, 0, none⟩) L' := by
  obtain ⟨d, hd, hH, hr⟩ := holdsO own hid
  have hsz : d.size = L.length := by rw [← hd]; simp
  have hg := (own.base_le g rfl).2
  have eg : ∀ args w, (callFunc 24 args).run Tryz.prog w = .ok (.enter 24 args) w := enters_of Tryz.func24 (by kernel_rfl) rfl
  have hcon := AnyQ.slices_SortFunc_small_sorted Tryz.sortOb 3 Tryz.isAgg45 Tryz.sizeOf45 encO (fun _ => rfl) (fun x v hv => by simp [encO] at hv; rcases hv with rfl | rfl | rfl <;> rfl) cmpO 24 #[] swoO g 0 cap d w eg (fun _ _ _ _ x y => merge1_Calls x y _) hH hg (by omega) hlenO
  rw [hsz] at hcon
  refine Calls.mono hcon ?_
  rintro e w' ⟨rfl, d', n, os, hp, hs, rfl⟩
  have hkp := kp_sort w g n d' os
  have hp' : d'.toList.Perm d.toList := by
    have h3 := hp.2.2
    have e1 : d'.extract 0 L.length = d' := by rw [← hsz, ← hp.1]; exact Array.extract_size
    have e2 : d.extract 0 L.length = d := by rw [← hsz]; exact Array.extract_size
    rwa [e1, e2] at h3
  refine ⟨rfl, hkp, d'.toList.map (·.1.1), ?_, ?_, ?_⟩
  · rw [← hd]; exact hp'.map _
  · rw [List.pairwise_map, List.pairwise_iff_getElem]
    intro i j hi hj hij
    have hi' : i < d'.size := by simpa using hi
    have hj' : j < d'.size := by simpa using hj
    have := hs i j (Nat.zero_le _) hij (by rw [← hsz, ← hp.1]; exact hj')
    rw [getElem!_pos d' i hi', getElem!_pos d' j hj'] at this
    simp only [Array.getElem_toList]
    rw [ltO, decide_eq_false_iff_not] at this
    omega
  · refine repL_holds (holdsK_sortWorldK_c encO 3 w g 0 d d' n os hH hg hp.1) (Nat.lt_of_lt_of_le hg hkp.size) (fun x hx => ?_)
    exact Lay.keep (hr x (hp'.mem_iff.1 hx)) fun b hb => hkp.block b (hS b hb)
theorem sort_nil {w : World} : Calls Tryz.prog 23 #[.slice none 0 0, .func (.func 24) #[] #[]] w fun e w' => e = .returned (.tuple #[]) ∧ w' = w :=
  AnyF.slices_SortFunc_none Tryz.sortOb none 0 _ w
/-- What the sorting leaves of a list of the call's own. -/
theorem sort_own {S : Nat → Prop} {w : World} {base : Nat} {v : Value} {L : List Ob} (own : OwnL S w base 45 v L) (hid : ∀ x ∈ L, 0 ≤ x.id ∧ x.id ≤ 1073741824) (hL : L.length ≤ 12) (hS : ∀ b, S b → b < w.heap.size ∧ b < base) :
    Calls Tryz.prog 23 #[v, .func (.func 24) #[] #[]] w fun e w' =>
      e = .returned (.tuple #[]) ∧ Kp (fun b => b < w.heap.size ∧ b < base) w w' ∧ ∃ A cap L', v = .slice A L'.length cap ∧ L'.length ≤ cap ∧ cap ≤ maxLen ∧ L'.Perm L ∧ L'.Pairwise (fun x y => x.id ≤ y.id) ∧ RepL (fun b => base ≤ b ∧ b < w'.heap.size ∨ S b) w' A L' := by
  obtain ⟨xs, hx, hr⟩ := own.out
  rcases hx.2 with ⟨rfl, h0⟩ | ⟨g, cap, cur, rfl, h1, h2, h3, h4, h5⟩
  · obtain rfl : L = [] := List.length_eq_zero_iff.1 h0
    refine sort_nil.mono ?_
    rintro e w' ⟨rfl, rfl⟩
    exact ⟨rfl, Kp.refl _ _, none, 0, [], rfl, Nat.le_refl _, Nat.zero_le _, List.Perm.refl _, List.Pairwise.nil, RepL.nil⟩
  · refine (sort_Obj own hid hL (fun b hb => ⟨(hS b hb).1, by have := (hS b hb).2; omega⟩)).mono ?_
    rintro e w' ⟨rfl, kp, L', hp, hs, hrep⟩
    have hl := hp.length_eq
    have hg : g < w.heap.size := (Array.getElem?_eq_some_iff.1 h2).1
    exact ⟨rfl, kp.mono fun b hb => ⟨hb.1, by omega⟩, _, cap, L', by rw [hl], by omega, h4, hp, hs, hrep.mono fun b hb => by
      rcases hb with rfl | hb
      · exact .inl ⟨h1, Nat.lt_of_lt_of_le hg kp.size⟩
      · exact .inr hb⟩
end Go.Proofs.YtgeegdnkheckcaaGreat
