/- CacheNilAndCapacity: the row's closed facts. -/
import Derived.Test.YtbgilebgdbgddaaGreatDoorRows
import Derived.JoinedOf
set_option linter.unusedVariables false
set_option linter.unusedSimpArgs false
namespace Go.Proofs.YtbgilebgdbgddaaGreatDoor
theorem and_of {a b : Bool} (h : a = true) (k : b = true) : (a && b) = true := by rw [h, k]; rfl
theorem cap_inPlace : (Rows.cacheNilAndCapacityRow.inPlace == Tryz.pinned.checked.prog.inPlace 8) = true := by kernel_rfl
theorem cap_unfollowed : (Rows.cacheNilAndCapacityRow.unfollowed == Tryz.pinned.checked.prog.unfollowed 8) = true := by kernel_rfl
theorem cap_recurses : (Rows.cacheNilAndCapacityRow.recurses == Tryz.pinned.checked.prog.recurses 8) = true := by kernel_rfl
theorem cap_named : (Rows.cacheNilAndCapacityRow.named == Tryz.pinned.checked.prog.varsNamed 8) = true := by kernel_rfl
set_option maxHeartbeats 8000000 in
set_option maxRecDepth 100000 in
theorem cap_closed : joinedFacts Tryz.pinned.checked.prog 8 Tryz.f8 Rows.cacheNilAndCapacitySpec Rows.cacheNilAndCapacityRow = true := by
  unfold joinedFacts
  repeat' with_reducible apply and_of
  all_goals first | (with_reducible exact cap_inPlace) | (with_reducible exact cap_unfollowed) | (with_reducible exact cap_recurses) | (with_reducible exact cap_named) | (as_aux_lemma => kernel_rfl)
end Go.Proofs.YtbgilebgdbgddaaGreatDoor
