/- The closed facts of the row CorpusIdentifies. No condition. -/
import Derived.Test.YthnckicnnhkkaaaGreatRows
import Derived.JoinedOf
namespace Go.Proofs.YthnckicnnhkkaaaGreat
theorem holIdnC_0 : (Rows.corpusIdentifiesRow.inPlace == Tryz.checked.prog.inPlace 6) = true := by kernel_rfl
theorem holIdnC_1 : (Rows.corpusIdentifiesRow.unfollowed == Tryz.checked.prog.unfollowed 6) = true := by kernel_rfl
theorem holIdnC_2 : (Rows.corpusIdentifiesRow.recurses == Tryz.checked.prog.recurses 6) = true := by kernel_rfl
theorem holIdnC_3 : (Rows.corpusIdentifiesRow.named == Tryz.checked.prog.varsNamed 6) = true := by kernel_rfl
theorem holIdnC_closed : joinedFacts Tryz.checked.prog 6 Tryz.f6 Rows.corpusIdentifiesSpec Rows.corpusIdentifiesRow = true := by
  unfold joinedFacts
  simp only [Bool.and_eq_true]
  and_intros
  · kernel_rfl
  · kernel_rfl
  · kernel_rfl
  · kernel_rfl
  · kernel_rfl
  · kernel_rfl
  · kernel_rfl
  · kernel_rfl
  · kernel_rfl
  · exact holIdnC_0
  · exact holIdnC_1
  · exact holIdnC_2
  · exact holIdnC_3
  all_goals kernel_rfl
end Go.Proofs.YthnckicnnhkkaaaGreat
