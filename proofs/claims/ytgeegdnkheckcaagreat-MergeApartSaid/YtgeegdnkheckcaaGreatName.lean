/- The walks of package name: is a text a name? -/
import Derived.Test.YtgeegdnkheckcaaGreatProg
import Derived.Test.YtgeegdnkheckcaaGreatIdx
import Derived.Outline
import Derived.BigQuiet
import Derived.Laws.RangeAny
import Derived.Laws.RangeString
import Derived.Laws.Runes
set_option linter.unusedVariables false
namespace Go.Proofs.YtgeegdnkheckcaaGreat
open Lay (rep)
open Go.RowKit




set_option maxRecDepth 100000 in
theorem name_digit {w : World} {c : Nat} (hc : c ≤ 2147483647) :
    Calls Tryz.prog 106 #[.int .i32 (c : Int)] w fun e w' => e = .returned (.bool (digit c)) ∧ w = w' := by
  by_cases h1 : 48 ≤ c
  · have e1 : decide ((48 : Int) ≤ c) = true := by simp; omega
    have Hf := Lib.hid (show digit c = decide ((c : Int) ≤ 57) by simp [digit, h1]; omega)
    clear h1
    go_enter Tryz.func106, Tryz.ntmps106
    go_wp2
    all_goals
      go_ret
      exact ⟨by rw [Hf.out]; rfl, rfl⟩
  · have e1 : decide ((48 : Int) ≤ c) = false := by simp; omega
    have Hf := Lib.hid (show digit c = false by simp [digit, h1])
    clear h1
    go_enter Tryz.func106, Tryz.ntmps106
    go_wp2
    all_goals
      go_ret
      exact ⟨by rw [Hf.out]; rfl, rfl⟩

theorem letter_eq (c : Nat) : letter c = (decide ((97 : Int) ≤ c) && decide ((c : Int) ≤ 122) || (decide ((223 : Int) ≤ c) && decide ((c : Int) ≤ 255) && (c : Int) != 247)) := by
  unfold letter
  have h1 : decide (97 ≤ c) = decide ((97 : Int) ≤ c) := decide_eq_decide.2 (by omega)
  have h2 : decide (c ≤ 122) = decide ((c : Int) ≤ 122) := decide_eq_decide.2 (by omega)
  have h3 : decide (223 ≤ c) = decide ((223 : Int) ≤ c) := decide_eq_decide.2 (by omega)
  have h4 : decide (c ≤ 255) = decide ((c : Int) ≤ 255) := decide_eq_decide.2 (by omega)
  have h5 : (c != 247) = ((c : Int) != 247) := by rw [Bool.eq_iff_iff]; simp; omega
  rw [h1, h2, h3, h4, h5]

set_option maxRecDepth 100000 in
theorem name_letter {w : World} {c : Nat} (hc : c ≤ 2147483647) :
    Calls Tryz.prog 105 #[.int .i32 (c : Int)] w fun e w' => e = .returned (.bool (letter c)) ∧ w = w' := by
  have Hl := Lib.hid (letter_eq c)
  rcases Bool.eq_false_or_eq_true (decide ((97 : Int) ≤ c)) with e1 | e1 <;> rcases Bool.eq_false_or_eq_true (decide ((c : Int) ≤ 122)) with e2 | e2 <;>
  rcases Bool.eq_false_or_eq_true (decide ((223 : Int) ≤ c)) with e3 | e3 <;> rcases Bool.eq_false_or_eq_true (decide ((c : Int) ≤ 255)) with e4 | e4 <;>
  rcases Bool.eq_false_or_eq_true ((c : Int) != 247) with e5 | e5
  all_goals
    have Hf := Lib.hid (Hl.out.trans (by rw [e1, e2, e3, e4, e5]))
    go_enter Tryz.func105, Tryz.ntmps105
    go_wp2
    all_goals
      go_ret
      exact ⟨by rw [Hf.out]; rfl, rfl⟩
theorem width_pos (s : ByteArray) (pos : Nat) (h : pos < s.size) : 1 ≤ (Utf8.decode s pos).2 := by
  by_cases ha : (s[pos]'h).toNat < 128
  · rw [decode_ascii s pos h ha]
    exact Nat.le_refl _
  · exact (decode_high s pos h (by omega)).2

set_option maxRecDepth 1000000 in
set_option maxHeartbeats 1000000 in
theorem name_Len {w : World} {s : ByteArray} (hs : s.size ≤ 9223372036854775807) :
    Calls Tryz.prog 85 #[.string s] w fun e w' => e = .returned (.int .i64 (nameLen s)) ∧ Below w.heap.size w w' := by
  go_enter Tryz.func85, Tryz.ntmps85
  go_wp2
  go_loopw [3] (fun n w' => ∃ (pos b : Nat) (acc : Nat), w' = w.iter s pos ∧ n = .int .i64 acc ∧ signs s b pos acc = signs s s.size 0 0 ∧ s.size ≤ pos + b ∧ acc + b ≤ s.size) (fun _ w' => s.size - w'.iterPos w.heap.size)
  case atStart => exact ⟨0, s.size, 0, rfl, rfl, rfl, by omega, by omega⟩
  case round =>
    obtain ⟨pos, b, acc, rfl, rfl, hc, hb, ha⟩ := hrel
    have Hc := Lib.hid hc
    clear hc
    by_cases hp : pos < s.size
    · have hnx : ∀ ty, (Instr.next (.pointer (some ⟨w.heap.size, 0, none⟩)) true ty).run Tryz.prog (w.iter s pos) = _ := fun ty => run_next_any w s pos ty hp
      have hle := decode_le s pos
      have hwd := width_pos s pos hp
      obtain ⟨b, rfl⟩ : ∃ b', b = b' + 1 := ⟨b - 1, by omega⟩
      have Hs := Lib.hid (show signs s (b + 1) pos acc = if !letter (Utf8.decode s pos).1 && (pos == 0 || !digit (Utf8.decode s pos).1) then 0 else signs s b (pos + (Utf8.decode s pos).2) (acc + 1) by simp [signs, hp])
      have hnp : ((pos : Int) == 0) = (pos == 0) := by rw [Bool.eq_iff_iff]; simp
      generalize hd : Utf8.decode s pos = d at hnx hle hwd Hs
      clear hd
      have Hnp := Lib.hid hnp
      clear hnp
      have hle2 : d.1 ≤ 2147483647 := by omega
      rcases Bool.eq_false_or_eq_true (letter d.1) with e1 | e1
      · have Hf := Lib.hid (Hc.out.symm.trans (Hs.out.trans (by rw [e1])))
        go_wp2_with fail
        refine (name_letter (w := w.iter s (pos + d.2)) hle2).mono ?_
        rintro e w' ⟨rfl, rfl⟩
        go_wp2_with fail
        go_roundw
        case rel => exact ⟨pos + d.2, b, acc + 1, rfl, by go_num, by rw [← Hc.out, Hs.out, e1]; rfl, by omega, by omega⟩
        case measure => simp; omega
      · by_cases h0 : pos = 0
        · have e0 : ((pos : Int) == 0) = true := by simp [h0]
          have Hf := Lib.hid (show nameLen s = 0 by unfold nameLen; rw [← Hc.out, Hs.out, e1, h0]; simp)
          clear h0
          go_wp2_with fail
          refine (name_letter (w := w.iter s (pos + d.2)) hle2).mono ?_
          rintro e w' ⟨rfl, rfl⟩
          go_wp2_with fail
          go_ret
          exact ⟨by rw [Hf.out]; rfl, (Below.refl _ _).alloc (Nat.le_refl _) _⟩
        · have e0 : ((pos : Int) == 0) = false := by simp [h0]
          have h0' : (pos == 0) = false := by simp [h0]
          rcases Bool.eq_false_or_eq_true (digit d.1) with e2 | e2
          · go_wp2_with fail
            refine (name_letter (w := w.iter s (pos + d.2)) hle2).mono ?_
            rintro e w' ⟨rfl, rfl⟩
            go_wp2_with fail
            refine (name_digit (w := w.iter s (pos + d.2)) hle2).mono ?_
            rintro e w' ⟨rfl, rfl⟩
            go_wp2_with fail
            go_roundw
            case rel => exact ⟨pos + d.2, b, acc + 1, rfl, by go_num, by rw [← Hc.out, Hs.out, e1, e2, h0']; rfl, by omega, by omega⟩
            case measure => simp; omega
          · have Hf := Lib.hid (show nameLen s = 0 by unfold nameLen; rw [← Hc.out, Hs.out, e1, e2, h0']; simp)
            go_wp2_with fail
            refine (name_letter (w := w.iter s (pos + d.2)) hle2).mono ?_
            rintro e w' ⟨rfl, rfl⟩
            go_wp2_with fail
            refine (name_digit (w := w.iter s (pos + d.2)) hle2).mono ?_
            rintro e w' ⟨rfl, rfl⟩
            go_wp2_with fail
            go_ret
            exact ⟨by rw [Hf.out]; rfl, (Below.refl _ _).alloc (Nat.le_refl _) _⟩
    · have hnx : ∀ ty, (Instr.next (.pointer (some ⟨w.heap.size, 0, none⟩)) true ty).run Tryz.prog (w.iter s pos) = _ := fun ty => run_next_end w s pos ty hp
      have he : signs s b pos acc = acc := by cases b <;> simp [signs, hp]
      by_cases h8 : 8 < (acc : Int)
      · have Hf := Lib.hid (show nameLen s = 0 by unfold nameLen; rw [← Hc.out, he]; simp; omega)
        clear he
        go_wp2_with fail
        go_ret
        exact ⟨by rw [Hf.out]; rfl, (Below.refl _ _).alloc (Nat.le_refl _) _⟩
      · have Hf := Lib.hid (show nameLen s = acc by unfold nameLen; rw [← Hc.out, he]; simp; omega)
        clear he
        go_wp2_with fail
        go_ret
        exact ⟨by rw [Hf.out]; rfl, (Below.refl _ _).alloc (Nat.le_refl _) _⟩

set_option maxRecDepth 1000000 in
theorem name_May {w : World} {s : ByteArray} (hs : s.size ≤ 9223372036854775807) :
    Calls Tryz.prog 64 #[.string s] w fun e w' => e = .returned (.bool (nameMay s)) ∧ Below w.heap.size w w' := by
  go_enter Tryz.func64, Tryz.ntmps64
  go_wp2_with fail
  refine (name_Len hs).mono ?_
  rintro e w' ⟨rfl, hb⟩
  go_wp2_with fail
  go_ret
  exact ⟨rfl, hb⟩

end Go.Proofs.YtgeegdnkheckcaaGreat
