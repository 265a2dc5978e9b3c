/- What the merging statements' example comes to. -/
import Derived.Test.YtgeegdnkheckcaaGreatTwo
import Derived.Test.YtgeegdnkheckcaaGreatMerge
import Derived.KernelRfl
set_option linter.unusedVariables false
namespace Go.Proofs.YtgeegdnkheckcaaGreat
open Lay (rep)

def twoA : Gr := ⟨oneS, [⟨0, 0, [⟨9, ⟨#[]⟩, 0⟩, ⟨0, ⟨#[]⟩, -1⟩]⟩, ⟨5, 0, [⟨8, ⟨#[]⟩, 0⟩, ⟨0, ⟨#[]⟩, 0⟩]⟩], [0]⟩
def twoB : Gr := ⟨oneS, [⟨0, 0, [⟨7, ⟨#[]⟩, 0⟩, ⟨0, ⟨#[]⟩, 5⟩]⟩, ⟨5, 0, [⟨8, ⟨#[]⟩, 0⟩, ⟨0, ⟨#[]⟩, 0⟩]⟩], [0]⟩
def twoD : Gr := ⟨oneS, [⟨0, 0, [⟨8, ⟨#[]⟩, 0⟩, ⟨0, ⟨#[]⟩, -1⟩]⟩, ⟨5, 0, [⟨8, ⟨#[]⟩, 0⟩, ⟨0, ⟨#[]⟩, 0⟩]⟩], [0]⟩
def twoM : Gr := ⟨oneS, [⟨0, 0, [⟨9, ⟨#[]⟩, 0⟩, ⟨0, ⟨#[]⟩, 5⟩]⟩, ⟨5, 0, [⟨8, ⟨#[]⟩, 0⟩, ⟨0, ⟨#[]⟩, 0⟩]⟩], [0]⟩
theorem toList_nil : (⟨#[]⟩ : ByteArray).toList = [] := by rw [ByteArray.toList_eq]
theorem twoMay : grMay twoG = true := by kernel_rfl
theorem twoSetA : setM twoG 0 0 ⟨9, ⟨#[]⟩, 0⟩ = (twoA, 0) := by kernel_rfl
theorem twoSetB : setM twoG 0 1 ⟨0, ⟨#[]⟩, 5⟩ = (twoB, 0) := by kernel_rfl
theorem twoSetD : setM twoG 0 0 ⟨8, ⟨#[]⟩, 0⟩ = (twoD, 0) := by kernel_rfl
theorem twoClash : clashM twoG twoA twoD = (⟨[], [], [(0, 0)], []⟩, 0) := by kernel_rfl
theorem twoL : mergeL twoG twoA twoB = twoM.o := by kernel_rfl
theorem sortIds_id {l : List Ob} (h : l.Pairwise fun x y => x.id ≤ y.id) (hn : (l.map (·.id)).Nodup) : sortIds l = l :=
  (sorted_unique (sortIds_perm l).symm h (sortIds_sorted l) hn).symm
theorem twoMerge : mergeM twoG twoA twoB = (twoM, chNil, 0) := by
  have h1 : checkM twoG twoA twoB = 0 := by kernel_rfl
  have h2 : cnone (allM twoG twoA twoB).2.2 = true := by kernel_rfl
  have h3 : (allM twoG twoA twoB).2.1 = [0] := by kernel_rfl
  have h4 : sortIds twoM.o = twoM.o := sortIds_id (by simp [twoM]) (by simp [twoM])
  simp only [mergeM, h1, h2, h3, twoL, h4]
  rfl
end Go.Proofs.YtgeegdnkheckcaaGreat
