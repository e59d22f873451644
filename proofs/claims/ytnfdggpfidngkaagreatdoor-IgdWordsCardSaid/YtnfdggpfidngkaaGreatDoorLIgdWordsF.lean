/-
  What the row of 'hearthlaw21.IgdWords' says of the program's closed facts, limb by limb.
-/
import Derived.Test.YtnfdggpfidngkaaGreatDoorCards
import Derived.WalkKit
import Derived.ProofKit
import Derived.OpenShut
import Derived.Deep.DeepHandedRow
namespace Go.Proofs.YtnfdggpfidngkaaGreatDoor.igdWords
open Go.ChangeShapes Go.WideShapes Go.ChangeAt Go.RowKit
theorem c1 : (Rows.igdWordsRow.unfollowed == Tryz.pinned.checked.prog.unfollowed 8) = true := by kernel_rfl
theorem c2 : (Rows.igdWordsRow.recurses == Tryz.pinned.checked.prog.recurses 8) = true := by kernel_rfl
theorem c4 : (Rows.igdWordsRow.inPlace == Tryz.pinned.checked.prog.inPlace 8) = true := by kernel_rfl
theorem c5 : (Rows.igdWordsRow.named == Tryz.pinned.checked.prog.varsNamed 8) = true := by kernel_rfl
theorem wrapper : Tryz.f8.isWrapper Tryz.pinned.checked.prog Rows.igdWordsRow.wrapper Rows.igdWordsRow.mainSum := by
  unfold Func.isWrapper; rw [if_neg (of_decide_eq_false (by kernel_rfl))]; exact ⟨rfl, rfl⟩
theorem closed : joinedFacts Tryz.pinned.checked.prog 8 Tryz.f8 (OpenSpec.ofChange Rows.igdWordsSpec).bare Rows.igdWordsRow = true := by
  unfold joinedFacts
  rw [c4, c1, c2, c5]
  kernel_rfl
end Go.Proofs.YtnfdggpfidngkaaGreatDoor.igdWords
