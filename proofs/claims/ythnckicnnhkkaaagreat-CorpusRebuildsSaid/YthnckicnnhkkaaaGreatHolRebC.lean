/- The closed facts of the row CorpusRebuilds. No condition. -/
import Derived.Test.YthnckicnnhkkaaaGreatRows
import Derived.JoinedOf
namespace Go.Proofs.YthnckicnnhkkaaaGreat
theorem holRebC_0 : (Rows.corpusRebuildsRow.inPlace == Tryz.checked.prog.inPlace 4) = true := by kernel_rfl
theorem holRebC_1 : (Rows.corpusRebuildsRow.unfollowed == Tryz.checked.prog.unfollowed 4) = true := by kernel_rfl
theorem holRebC_2 : (Rows.corpusRebuildsRow.recurses == Tryz.checked.prog.recurses 4) = true := by kernel_rfl
theorem holRebC_3 : (Rows.corpusRebuildsRow.named == Tryz.checked.prog.varsNamed 4) = true := by kernel_rfl
theorem holRebC_closed : joinedFacts Tryz.checked.prog 4 Tryz.f4 Rows.corpusRebuildsSpec Rows.corpusRebuildsRow = true := by
  unfold joinedFacts
  simp only [Bool.and_eq_true]
  and_intros
  · kernel_rfl
  · kernel_rfl
  · kernel_rfl
  · kernel_rfl
  · kernel_rfl
  · kernel_rfl
  · kernel_rfl
  · kernel_rfl
  · kernel_rfl
  · exact holRebC_0
  · exact holRebC_1
  · exact holRebC_2
  · exact holRebC_3
  all_goals kernel_rfl
end Go.Proofs.YthnckicnnhkkaaaGreat
