/- The program's functions as plain functions of lists and numbers: schemas, values, graphs. -/
import Derived.Test.YtgeegdnkheckcaaGreatKit
import GoSem.Core.Utf8
set_option linter.unusedVariables false
namespace Go.Proofs.YtgeegdnkheckcaaGreat
open Lay (rep)

/-- Where the first is of which p holds, counted from k on; -1. -/
def idxFrom {α : Type} (p : α → Bool) : Nat → List α → Int
  | _, [] => -1
  | k, x :: l => if p x then (k : Int) else idxFrom p (k + 1) l
def idx {α : Type} (p : α → Bool) (l : List α) : Int := idxFrom p 0 l
theorem idxFrom_drop {α : Type} (p : α → Bool) (l : List α) (k : Nat) (h : k < l.length) :
    idxFrom p k (l.drop k) = if p l[k] then (k : Int) else idxFrom p (k + 1) (l.drop (k + 1)) := by
  rw [List.drop_eq_getElem_cons h]; rfl

/-- Does p hold of each, with its place, counted from k on? -/
def allFrom {α : Type} (p : Nat → α → Bool) : Nat → List α → Bool
  | _, [] => true
  | k, x :: l => p k x && allFrom p (k + 1) l
theorem allFrom_drop {α : Type} (p : Nat → α → Bool) (l : List α) (k : Nat) (h : k < l.length) :
    allFrom p k (l.drop k) = (p k l[k] && allFrom p (k + 1) (l.drop (k + 1))) := by
  rw [List.drop_eq_getElem_cons h]; rfl
theorem allFrom_end {α : Type} (p : Nat → α → Bool) (l : List α) (k : Nat) (h : ¬ k < l.length) : allFrom p k (l.drop k) = true := by
  rw [List.drop_of_length_le (by omega)]; rfl

/-! Names -/
def letter (c : Nat) : Bool := (97 ≤ c && c ≤ 122) || (223 ≤ c && c ≤ 255 && c != 247)
def digit (c : Nat) : Bool := 48 ≤ c && c ≤ 57
/-- How many signs from a byte on, n being those ahead; -1: one may not be. -/
def signs (s : ByteArray) : Nat → Nat → Int → Int
  | 0, _, n => n
  | b + 1, at_, n =>
    if at_ < s.size then
      let d := Utf8.decode s at_
      if !letter d.1 && (at_ == 0 || !digit d.1) then 0 else signs s b (at_ + d.2) (n + 1)
    else n
def nameLen (s : ByteArray) : Int := let n := signs s s.size 0 0; if n > 8 then 0 else n
def nameMay (s : ByteArray) : Bool := decide (nameLen s > 0)

/-! Schemas -/
def sfind (s : List Typ) (n : ByteArray) : Int := idx (fun t => decide (t.name = n)) s
def tfield (t : Typ) (n : ByteArray) : Int := idx (fun f => decide (f.name = n)) t.f
def fieldOk (s : List Typ) (f : Fld) : Bool :=
  (if f.kind = 5 then !(sfind s f.to == -1) else decide (f.to = ⟨#[]⟩)) && nameMay f.name && decide (0 ≤ f.kind) && decide (f.kind < 6)
def typOk (s : List Typ) (i : Nat) (t : Typ) : Bool :=
  nameMay t.name && (sfind s t.name == (i : Int)) && decide (t.f.length ≤ 5) && allFrom (fun k f => fieldOk s f && (tfield t f.name == (k : Int))) 0 t.f
def schMay (s : List Typ) : Bool := decide (s.length ≠ 0) && decide (s.length ≤ 4) && allFrom (typOk s) 0 s
end Go.Proofs.YtgeegdnkheckcaaGreat
