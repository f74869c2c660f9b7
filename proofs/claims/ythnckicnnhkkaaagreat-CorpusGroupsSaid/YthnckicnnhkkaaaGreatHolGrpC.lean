/- The closed facts of the row CorpusGroups. No condition. -/
import Derived.Test.YthnckicnnhkkaaaGreatRows
import Derived.JoinedOf
namespace Go.Proofs.YthnckicnnhkkaaaGreat
theorem holGrpC_0 : (Rows.corpusGroupsRow.inPlace == Tryz.checked.prog.inPlace 9) = true := by kernel_rfl
theorem holGrpC_1 : (Rows.corpusGroupsRow.unfollowed == Tryz.checked.prog.unfollowed 9) = true := by kernel_rfl
theorem holGrpC_2 : (Rows.corpusGroupsRow.recurses == Tryz.checked.prog.recurses 9) = true := by kernel_rfl
theorem holGrpC_3 : (Rows.corpusGroupsRow.named == Tryz.checked.prog.varsNamed 9) = true := by kernel_rfl
theorem holGrpC_closed : joinedFacts Tryz.checked.prog 9 Tryz.f9 Rows.corpusGroupsSpec Rows.corpusGroupsRow = true := by
  unfold joinedFacts
  simp only [Bool.and_eq_true]
  and_intros
  · kernel_rfl
  · kernel_rfl
  · kernel_rfl
  · kernel_rfl
  · kernel_rfl
  · kernel_rfl
  · kernel_rfl
  · kernel_rfl
  · kernel_rfl
  · exact holGrpC_0
  · exact holGrpC_1
  · exact holGrpC_2
  · exact holGrpC_3
  all_goals kernel_rfl
end Go.Proofs.YthnckicnnhkkaaaGreat
