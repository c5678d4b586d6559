/- Walk: the law TreeLeads. -/
import Derived.Test.YtahlfafcjjkliaaGreatDoorM8
namespace Go.Proofs.YtahlfafcjjkliaaGreatDoor
open Go.RowKit

theorem chgAt_len (a b : List FV) (p : ByteArray) : (chgAt a b p).length ≤ 1 := by
  unfold chgAt
  split
  · simp
  · split <;> simp
theorem changesF_len (a b : List FV) : (changesF a b).length ≤ a.length + b.length := by
  have h1 := namesOf_len (a ++ b)
  rw [List.length_append] at h1
  have h2 : ∀ ns : List ByteArray, (ns.flatMap (chgAt a b)).length ≤ ns.length := by
    intro ns
    induction ns with
    | nil => simp
    | cons p ns ih => have := chgAt_len a b p; rw [List.flatMap_cons, List.length_append, List.length_cons]; omega
  have := h2 (namesOf (a ++ b))
  unfold changesF
  omega
theorem firstF_len (c : List ChV) : (firstF c).length ≤ 2 * c.length := by
  have h1 := List.length_filter_le (fun x : ChV => x.del) c
  have h2 := List.length_filter_le (fun x : ChV => !x.del) c
  rw [firstF, List.length_append]; omega


end Go.Proofs.YtahlfafcjjkliaaGreatDoor
