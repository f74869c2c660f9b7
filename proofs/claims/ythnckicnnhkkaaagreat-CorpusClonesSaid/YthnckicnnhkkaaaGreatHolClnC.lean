/- The closed facts of the row CorpusClones. No condition. -/
import Derived.Test.YthnckicnnhkkaaaGreatRows
import Derived.JoinedOf
namespace Go.Proofs.YthnckicnnhkkaaaGreat
theorem holClnC_0 : (Rows.corpusClonesRow.inPlace == Tryz.checked.prog.inPlace 10) = true := by kernel_rfl
theorem holClnC_1 : (Rows.corpusClonesRow.unfollowed == Tryz.checked.prog.unfollowed 10) = true := by kernel_rfl
theorem holClnC_2 : (Rows.corpusClonesRow.recurses == Tryz.checked.prog.recurses 10) = true := by kernel_rfl
theorem holClnC_3 : (Rows.corpusClonesRow.named == Tryz.checked.prog.varsNamed 10) = true := by kernel_rfl
theorem holClnC_closed : joinedFacts Tryz.checked.prog 10 Tryz.f10 Rows.corpusClonesSpec Rows.corpusClonesRow = true := by
  unfold joinedFacts
  simp only [Bool.and_eq_true]
  and_intros
  · kernel_rfl
  · kernel_rfl
  · kernel_rfl
  · kernel_rfl
  · kernel_rfl
  · kernel_rfl
  · kernel_rfl
  · kernel_rfl
  · kernel_rfl
  · exact holClnC_0
  · exact holClnC_1
  · exact holClnC_2
  · exact holClnC_3
  all_goals kernel_rfl
end Go.Proofs.YthnckicnnhkkaaaGreat
