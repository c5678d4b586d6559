/- Plain laws of TreeFull: as many files as may be, and one more. -/
import Derived.Test.YtahlfafcjjkliaaDoorM7
import Derived.Test.YtahlfafcjjkliaaDoorD0
namespace Go.Proofs.YtahlfafcjjkliaaDoor

def fullFile (i : Nat) : FV := ⟨⟨#[102]⟩ ++ dec i, false, ⟨#[]⟩⟩
def fullName (i : Nat) : Bs := 102 :: decD i
theorem fullFile_p (i : Nat) : (fullFile i).p = fullName i := by simp [fullFile, FV.p, dec, fullName]
theorem full_ok : (List.range 100).all (fun i => pathOk (fullName i) && !(fullName i).contains 47) = true := by decide +kernel
theorem full_nodup : ((List.range 100).map fullName).Nodup := by decide +kernel
theorem no_slash {p d : Bs} (h : p.contains 47 = false) : within p d = false := by
  cases e : within p d with
  | false => rfl
  | true =>
    obtain ⟨r, rfl⟩ := within_iff.1 e
    simp at h
theorem full_apply {n : Nat} (hn : n ≤ 100) : ∃ cur : List FV, cur.length = n ∧ applyF [] (((List.range n).map fullFile).map putC) = (cur, 0) := by
  have hall : ∀ i, i < 100 → pathOk (fullName i) = true ∧ (fullName i).contains 47 = false := fun i hi => by
    have := List.all_eq_true.1 full_ok i (List.mem_range.2 hi)
    simpa using this
  have hnd : ((List.range n).map fullFile).Pairwise fun x y => x.path ≠ y.path := by
    have h1 : ((List.range n).map fullName).Nodup := by
      refine full_nodup.sublist (List.Sublist.map _ ?_)
      rw [show 100 = n + (100 - n) by omega, List.range_add]
      exact List.sublist_append_left _ _
    rw [List.nodup_iff_pairwise_ne, List.pairwise_map] at h1
    rw [List.pairwise_map]
    refine h1.imp fun {a b} hab e => hab ?_
    rw [← fullFile_p, ← fullFile_p]
    exact FV.p_inj.2 e
  have hmem : ∀ y ∈ (List.range n).map fullFile, ∃ i, i < n ∧ y = fullFile i := fun y hy => by
    obtain ⟨i, hi, rfl⟩ := List.mem_map.1 hy
    exact ⟨i, List.mem_range.1 hi, rfl⟩
  obtain ⟨cur, h1, _, h3, h4⟩ := go_puts ((List.range n).map fullFile) (cur := []) treeOk_nil hnd (fun y hy => by
    obtain ⟨i, hi, rfl⟩ := hmem y hy
    refine ⟨?_, Nat.zero_le _⟩
    rw [fullFile_p]; exact (hall i (by omega)).1) (fun y hy g hg => by
    obtain ⟨i, hi, rfl⟩ := hmem y hy
    rcases hg with hg | hg
    · cases hg
    · obtain ⟨j, hj, rfl⟩ := hmem g hg
      rw [fullFile_p, fullFile_p]
      exact ⟨no_slash (hall j (by omega)).2, no_slash (hall i (by omega)).2⟩) (by simp; omega)
  refine ⟨cur, ?_, ?_⟩
  · rw [h4 (fun y _ => rfl)]; simp
  · rw [applyF, if_neg (by rw [treeOk_nil]; decide), if_neg (by simp; omega)]
    exact h3
theorem full_over {n : Nat} (hn : 100 < n) : applyF [] (((List.range n).map fullFile).map putC) = ([], 6) := by
  rw [applyF, if_neg (by rw [treeOk_nil]; decide), if_pos (by simpa using hn)]
end Go.Proofs.YtahlfafcjjkliaaDoor
