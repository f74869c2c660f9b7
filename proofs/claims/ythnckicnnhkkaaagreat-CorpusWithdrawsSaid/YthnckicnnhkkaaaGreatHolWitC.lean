/- The closed facts of the row CorpusWithdraws. No condition. -/
import Derived.Test.YthnckicnnhkkaaaGreatRows
import Derived.JoinedOf
namespace Go.Proofs.YthnckicnnhkkaaaGreat
theorem holWitC_0 : (Rows.corpusWithdrawsRow.inPlace == Tryz.checked.prog.inPlace 5) = true := by kernel_rfl
theorem holWitC_1 : (Rows.corpusWithdrawsRow.unfollowed == Tryz.checked.prog.unfollowed 5) = true := by kernel_rfl
theorem holWitC_2 : (Rows.corpusWithdrawsRow.recurses == Tryz.checked.prog.recurses 5) = true := by kernel_rfl
theorem holWitC_3 : (Rows.corpusWithdrawsRow.named == Tryz.checked.prog.varsNamed 5) = true := by kernel_rfl
theorem holWitC_closed : joinedFacts Tryz.checked.prog 5 Tryz.f5 Rows.corpusWithdrawsSpec Rows.corpusWithdrawsRow = true := by
  unfold joinedFacts
  simp only [Bool.and_eq_true]
  and_intros
  · kernel_rfl
  · kernel_rfl
  · kernel_rfl
  · kernel_rfl
  · kernel_rfl
  · kernel_rfl
  · kernel_rfl
  · kernel_rfl
  · kernel_rfl
  · exact holWitC_0
  · exact holWitC_1
  · exact holWitC_2
  · exact holWitC_3
  all_goals kernel_rfl
end Go.Proofs.YthnckicnnhkkaaaGreat
