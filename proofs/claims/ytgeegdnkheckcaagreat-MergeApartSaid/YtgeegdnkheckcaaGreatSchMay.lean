/- The walk of schema.May. -/
import Derived.Test.YtgeegdnkheckcaaGreatSch
import Derived.Outline
set_option linter.unusedVariables false
namespace Go.Proofs.YtgeegdnkheckcaaGreat
open Lay (rep)
open Go.RowKit

set_option maxRecDepth 100000 in
set_option maxHeartbeats 1000000 in
theorem schema_May {w : World} {A : Option Addr} {c : Nat} {s : List Typ} (hc : s.length ≤ c) (hm : c ≤ maxLen) (hA : RepL (Bel w) w A s) :
    Calls Tryz.prog 37 #[.agg #[.slice A s.length c]] w fun e w' => e = .returned (.bool (schMay s)) ∧ Below w.heap.size w w' := by
  have Hm := Lib.hid hm
  unfold maxLen at hm
  have HA := Lib.hid hA
  clear hA
  have b1 : Below w.heap.size w (w.alloc (Obj.cells #[Value.slice A s.length c] 24)) := (Below.refl _ _).alloc (Nat.le_refl _) _
  by_cases h0 : s.length = 0
  · have Hp := Lib.hid (show schMay s = false by simp [schMay, h0])
    have e0 : ((s.length : Int) == 0) = true := by simp [h0]
    clear h0
    go_enter Tryz.func37, Tryz.ntmps37
    go_wp2_with fail
    go_ret
    exact ⟨by rw [Hp.out]; rfl, b1⟩
  have e0 : ((s.length : Int) == 0) = false := by rw [beq_eq_false_iff_ne]; omega
  by_cases h4 : s.length ≤ 4
  case neg =>
    have Hp := Lib.hid (show schMay s = false by simp [schMay, h4])
    have h4' : decide ((4 : Int) < s.length) = true := by simp; omega
    clear h0 h4
    go_enter Tryz.func37, Tryz.ntmps37
    go_wp2_with fail
    go_ret
    exact ⟨by rw [Hp.out]; rfl, b1⟩
  have Hp := Lib.hid (show schMay s = allFrom (typOk s) 0 (s.drop 0) by simp [schMay, h4, h0])
  have h4' : decide ((4 : Int) < s.length) = false := by simp; omega
  clear h0
  go_enter Tryz.func37, Tryz.ntmps37
  go_wp2_with fail
  have hcell : (w.alloc (Obj.cells #[Value.slice A s.length c] 24)).cell? ⟨w.heap.size, 0, none⟩ = some (.slice A s.length c) := by simp
  have hsz : w.heap.size < (w.alloc (Obj.cells #[Value.slice A s.length c] 24)).heap.size := by simp
  generalize w.alloc (Obj.cells #[Value.slice A s.length c] 24) = WL at *
  go_loopw [20] (fun i wr => ∃ k : Nat, k ≤ s.length ∧ i = .int .i64 k ∧ Below WL.heap.size WL wr ∧ schMay s = allFrom (typOk s) k (s.drop k)) (fun i _ => s.length - (intOf i).toNat)
  case atStart => exact ⟨0, Nat.zero_le _, rfl, Below.refl _ _, Hp.out⟩
  case round =>
    obtain ⟨k, hk, rfl, hbl, hi⟩ := hrel
    obtain ⟨wo, rfl⟩ : ∃ wo : World, wo = wr := ⟨_, rfl⟩
    have Hi := Lib.hid hi
    clear hi Hp
    by_cases hlt : k < s.length
    · have bwr := b1.trans (hbl.mono b1.size)
      have HAr := HA.out.below bwr
      obtain ⟨b, off, rfl, hS, hbz, hcs⟩ := HAr.typ (by intro e; simp [e] at hlt)
      have HAr := Lib.hid HAr
      have hx := List.getElem_mem hlt
      have Hd := Lib.hid (allFrom_drop (typOk s) s k hlt)
      replace hcs := hcs k hlt
      generalize s[k] = x at hx hcs Hd
      obtain ⟨F, cF, c0, c1, h1, h2, h3, hns⟩ := hcs
      have Hns := Lib.hid hns
      clear hns
      have h3 := Lib.hid h3
      have hcell' := (hbl.cell (p := ⟨w.heap.size, 0, none⟩) hsz).trans hcell
      have hsz' : w.heap.size < wo.heap.size := Nat.lt_of_lt_of_le hsz hbl.size
      clear hcell hsz
      go_wp2_with fail
      refine (name_May Hns.out).mono ?_
      rintro e w1 ⟨rfl, hb1⟩
      obtain ⟨r1, r1'⟩ := bcell hb1
      have bw1 : Below wo.heap.size wo w1 := ((Below.refl _ _).alloc (Nat.le_refl _) _).trans (hb1.mono (by simp))
      have z1 : wo.heap.size < w1.heap.size := by have := hb1.size; simp at this; omega
      have y1 : w.heap.size < w1.heap.size := by omega
      cases hn : nameMay x.name
      · have Hf := Lib.hid (show schMay s = false by rw [Hi.out, Hd.out]; simp [typOk, hn])
        clear hn
        go_wp2_with fail
        go_ret
        exact ⟨by rw [Hf.out]; rfl, bwr.trans (bw1.mono bwr.size)⟩
      have Hn := Lib.hid hn
      clear hn
      go_wp2_with fail
      refine (schema_Find hc Hm.out (HAr.out.below bw1)).mono ?_
      rintro e w2 ⟨rfl, hb2⟩
      obtain ⟨r2, r2'⟩ := bcell hb2
      have bw2 := bw1.trans (hb2.mono bw1.size)
      have z2 : wo.heap.size < w2.heap.size := by have := hb2.size; omega
      have y2 : w.heap.size < w2.heap.size := by omega
      by_cases hf : sfind s x.name = (k : Int)
      case neg =>
        have Hf := Lib.hid (show schMay s = false by rw [Hi.out, Hd.out]; simp [typOk, hf])
        have hf' : (sfind s x.name != (k : Int)) = true := by simpa using hf
        clear hf
        go_wp2_with fail
        go_ret
        exact ⟨by rw [Hf.out]; rfl, bwr.trans (bw2.mono bwr.size)⟩
      have Hn2 := Lib.hid hf
      have hf' : (sfind s x.name != (k : Int)) = false := by simpa using hf
      clear hf
      by_cases h5 : x.f.length ≤ 5
      case neg =>
        have Hf := Lib.hid (show schMay s = false by rw [Hi.out, Hd.out]; simp [typOk, h5])
        have h5' : decide ((5 : Int) < x.f.length) = true := by simp; omega
        clear h5
        go_wp2_with fail
        go_ret
        exact ⟨by rw [Hf.out]; rfl, bwr.trans (bw2.mono bwr.size)⟩
      have h5' : decide ((5 : Int) < x.f.length) = false := by simp; omega
      have Hx := Lib.hid (show schMay s = (allFrom (fun k f => fieldOk s f && (tfield x f.name == (k : Int))) 0 x.f && allFrom (typOk s) (k + 1) (s.drop (k + 1))) by
        rw [Hi.out, Hd.out, typOk, Hn.out, Hn2.out]; simp [h5])
      clear Hi Hd
      go_wp2_with fail
      go_loopw [46] (fun i wr => ∃ j : Nat, j ≤ x.f.length ∧ i = .int .i64 j ∧ Below w2.heap.size w2 wr ∧ schMay s = (allFrom (fun k f => fieldOk s f && (tfield x f.name == (k : Int))) j (x.f.drop j) && allFrom (typOk s) (k + 1) (s.drop (k + 1)))) (fun i _ => x.f.length - (intOf i).toNat)
      case atStart => exact ⟨0, Nat.zero_le _, rfl, Below.refl _ _, Hx.out⟩
      case round =>
        obtain ⟨j, hj, rfl, hbq, hi⟩ := hrel
        have Hi := Lib.hid hi
        clear hi Hx
        obtain ⟨rq, rq'⟩ := bcell hbq
        have zq : wo.heap.size < wr.heap.size := by have := hbq.size; omega
        have yq : w.heap.size < wr.heap.size := by omega
        have bwq := bw2.trans (hbq.mono bw2.size)
        by_cases hjl : j < x.f.length
        · obtain ⟨bF, offF, rfl, hSF, hbF, hfs⟩ := (h3.out.below bwq).fld (by intro e; simp [e] at hjl)
          have Hd := Lib.hid (allFrom_drop (fun k f => fieldOk s f && (tfield x f.name == (k : Int))) x.f j hjl)
          replace hfs := hfs j hjl
          generalize x.f[j] = y at hfs Hd
          obtain ⟨d0, d1, d2, hys, _⟩ := hfs
          have Hys := Lib.hid hys
          clear hys
          go_wp2_with fail
          have bwa : Below wo.heap.size wo (wr.alloc (Obj.cells #[Value.string y.name, Value.int .i64 y.kind, Value.string y.to] 87)) := bwq.alloc bwq.size _
          refine (schema_field hc Hm.out Hys.out (HAr.out.below bwa)).mono ?_
          rintro e w3 ⟨rfl, hb3⟩
          obtain ⟨r3, r3'⟩ := bcell hb3
          have v3 : wr.heap.size < w3.heap.size := by have := hb3.size; simp at this; omega
          have z3 : wo.heap.size < w3.heap.size := by omega
          have y3 : w.heap.size < w3.heap.size := by omega
          have bw3 := bwa.trans (hb3.mono bwa.size)
          cases hn : fieldOk s y
          · have Hf := Lib.hid (show schMay s = false by rw [Hi.out, Hd.out]; simp [hn])
            clear hn
            go_wp2_with fail
            go_ret
            exact ⟨by rw [Hf.out]; rfl, bwr.trans (bw3.mono bwr.size)⟩
          have Hn3 := Lib.hid hn
          clear hn
          go_wp2_with fail
          refine (schema_Field h1 h2 (h3.out.below bw3)).mono ?_
          rintro e w4 ⟨rfl, hb4⟩
          have bw4 := bw3.trans (hb4.mono bw3.size)
          by_cases hf : tfield x y.name = (j : Int)
          case neg =>
            have Hf := Lib.hid (show schMay s = false by rw [Hi.out, Hd.out]; simp [hf])
            have hf' : (tfield x y.name != (j : Int)) = true := by simpa using hf
            clear hf
            go_wp2_with fail
            go_ret
            exact ⟨by rw [Hf.out]; rfl, bwr.trans (bw4.mono bwr.size)⟩
          have Hn4 := Lib.hid hf
          have hf' : (tfield x y.name != (j : Int)) = false := by simpa using hf
          clear hf
          go_wp2_with fail
          go_roundw
          case rel => exact ⟨j + 1, by omega, by go_num, (hbq.alloc hbq.size _).trans ((hb3.mono (by simp; have := hbq.size; omega)).trans (hb4.mono (by have := hbq.size; omega))), by rw [Hi.out, Hd.out, Hn3.out, Hn4.out]; simp⟩
          case measure => simp [intOf]; omega
        · go_wp2_with fail
          go_roundw
          case rel => exact ⟨k + 1, by omega, by go_num, hbl.trans (bwq.mono hbl.size), by rw [Hi.out, allFrom_end _ _ _ hjl]; simp⟩
          case measure => simp [intOf]; omega
    · go_wp2
      go_ret
      exact ⟨by rw [Hi.out, allFrom_end _ _ _ hlt]; rfl, b1.trans (hbl.mono b1.size)⟩
end Go.Proofs.YtgeegdnkheckcaaGreat
