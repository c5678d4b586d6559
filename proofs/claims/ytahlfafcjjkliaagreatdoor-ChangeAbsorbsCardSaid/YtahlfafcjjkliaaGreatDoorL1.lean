/- Walk: the law TreeTells. -/
import Derived.Test.YtahlfafcjjkliaaGreatDoorL0
namespace Go.Proofs.YtahlfafcjjkliaaGreatDoor
open Go.RowKit

theorem sortedIn_len (l : List FV) (f : FV) : (sortedIn l f).length = l.length + 1 := by
  have := congrArg List.length (List.takeWhile_append_dropWhile (p := lessF f) (l := l))
  rw [List.length_append] at this
  rw [sortedIn, List.length_append, List.length_cons]
  omega
theorem putF_len (l : List FV) (f : FV) : (putF l f).1.length ≤ l.length + 1 := by
  unfold putF
  have := sortedIn_len l f
  have := sortedIn_len (without l f.path) f
  have := without_len l f.path
  repeat' split
  all_goals simp only [List.length_nil] <;> omega
theorem dropF_len (l : List FV) (p : ByteArray) : (dropF l p).1.length ≤ l.length := by
  unfold dropF
  have := without_len l p
  repeat' split
  all_goals simp only [List.length_nil] <;> omega
def file71 : FV := ⟨⟨#[55, 49]⟩, false, ⟨#[]⟩⟩
set_option maxRecDepth 100000 in
theorem run_file71 (w : World) : (Instr.build 35 #[(0, .string ⟨#[55, 49]⟩)]).run Tryz.prog w = .ok (.agg #[.string ⟨#[55, 49]⟩, .bool false, .string ⟨#[]⟩]) w := by
  go_simp


end Go.Proofs.YtahlfafcjjkliaaGreatDoor
