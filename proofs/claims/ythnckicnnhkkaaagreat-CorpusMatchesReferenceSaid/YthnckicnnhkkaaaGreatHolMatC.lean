/- The closed facts of the row CorpusMatchesReference. No condition. -/
import Derived.Test.YthnckicnnhkkaaaGreatRows
import Derived.JoinedOf
namespace Go.Proofs.YthnckicnnhkkaaaGreat
theorem holMatC_0 : (Rows.corpusMatchesReferenceRow.inPlace == Tryz.checked.prog.inPlace 3) = true := by kernel_rfl
theorem holMatC_1 : (Rows.corpusMatchesReferenceRow.unfollowed == Tryz.checked.prog.unfollowed 3) = true := by kernel_rfl
theorem holMatC_2 : (Rows.corpusMatchesReferenceRow.recurses == Tryz.checked.prog.recurses 3) = true := by kernel_rfl
theorem holMatC_3 : (Rows.corpusMatchesReferenceRow.named == Tryz.checked.prog.varsNamed 3) = true := by kernel_rfl
theorem holMatC_closed : joinedFacts Tryz.checked.prog 3 Tryz.f3 Rows.corpusMatchesReferenceSpec Rows.corpusMatchesReferenceRow = true := by
  unfold joinedFacts
  simp only [Bool.and_eq_true]
  and_intros
  · kernel_rfl
  · kernel_rfl
  · kernel_rfl
  · kernel_rfl
  · kernel_rfl
  · kernel_rfl
  · kernel_rfl
  · kernel_rfl
  · kernel_rfl
  · exact holMatC_0
  · exact holMatC_1
  · exact holMatC_2
  · exact holMatC_3
  all_goals kernel_rfl
end Go.Proofs.YthnckicnnhkkaaaGreat
