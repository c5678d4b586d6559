/- Hunks as they lie in memory; which are right. -/
import Derived.Test.YtabiegbbbljhlaaBase
namespace Go.Proofs.Ytabiegbbbljhlaa
open Go.RowKit

structure HV where
  at_ : Int
  oA : Option Addr
  oc : Nat
  old : List ByteArray
  nA : Option Addr
  nc : Nat
  new : List ByteArray
def HV.cells (h : HV) : List Value := [.int .i64 h.at_, .slice h.oA h.old.length h.oc, .slice h.nA h.new.length h.nc]

structure RdH (w : World) (B : Nat) (A : Option Addr) (n c : Nat) (hs : List HV) : Prop where
  row : Rd w B 3 A n c (hs.flatMap HV.cells)
  len : hs.length = n
  parts : ∀ h ∈ hs, Rd w B 1 h.oA h.old.length h.oc (h.old.map .string) ∧ Rd w B 1 h.nA h.new.length h.nc (h.new.map .string) ∧ h.old.length ≤ 70368744177664 ∧ h.new.length ≤ 70368744177664 ∧ -9223372036854775808 ≤ h.at_ ∧ h.at_ ≤ 9223372036854775807

theorem cells3 {hs : List HV} {k : Nat} {h : HV} (hk : hs[k]? = some h) : (hs.flatMap HV.cells)[k * 3]? = some (.int .i64 h.at_) ∧ (hs.flatMap HV.cells)[k * 3 + 1]? = some (.slice h.oA h.old.length h.oc) ∧ (hs.flatMap HV.cells)[k * 3 + 2]? = some (.slice h.nA h.new.length h.nc) := by
  induction hs generalizing k with
  | nil => simp at hk
  | cons x xs ih =>
    cases k with
    | zero => simp at hk; subst hk; simp [HV.cells]
    | succ k =>
      simp at hk
      have := ih hk
      simpa [HV.cells, Nat.succ_mul, show k * 3 + 3 + 1 = (k*3+1) + 3 from by omega, show k * 3 + 3 + 2 = (k*3+2) + 3 from by omega] using this

theorem RdH.get {w : World} {B n c : Nat} {A : Option Addr} {hs : List HV} (h : RdH w B A n c hs) {k : Nat} (hk : k < n) :
    ∃ b o u, A = some ⟨b, o, none⟩ ∧ b < B ∧ hs[k]? = some u ∧ u ∈ hs ∧ w.cell? ⟨b, o + k * 3, none⟩ = some (.int .i64 u.at_) ∧
     w.cell? ⟨b, o + k * 3 + 1, none⟩ = some (.slice u.oA u.old.length u.oc) ∧ w.cell? ⟨b, o + k * 3 + 2, none⟩ = some (.slice u.nA u.new.length u.nc) := by
  obtain ⟨b, o, e, hb, hc⟩ := h.row.at_ (by omega)
  have hl : k < hs.length := by rw [h.len]; exact hk
  have hg : hs[k]? = some hs[k] := List.getElem?_eq_getElem hl
  obtain ⟨h0, h1, h2⟩ := cells3 hg
  exact ⟨b, o, hs[k], e, hb, hg, List.getElem_mem hl, hc _ _ h0, hc _ _ h1, hc _ _ h2⟩

def okHd (u : HV) : Bool := decide (0 ≤ u.at_) && decide (u.at_ ≤ 2147483647) && decide (u.old.length + u.new.length ≠ 0)
def okAt (hs : List HV) (k : Nat) : Bool :=
  match hs[k]?, (if k = 0 then none else hs[k-1]?) with
  | some u, some p => okHd u && decide (p.at_ + p.old.length ≤ u.at_)
  | some u, none => okHd u
  | none, _ => true
def right (hs : List HV) : Bool := (List.range hs.length).all (okAt hs)

theorem okAt_no {hs : List HV} {k : Nat} {u : HV} (hx : hs[k]? = some u) (h : okHd u = false) : okAt hs k = false := by
  unfold okAt; rw [hx]; split <;> simp_all
theorem ok_at {hs : List HV} {k : Nat} {u : HV} (h : okAt hs k = true) (hx : hs[k]? = some u) : 0 ≤ u.at_ ∧ u.at_ ≤ 2147483647 := by
  unfold okAt at h; rw [hx] at h; split at h <;> simp_all [okHd]
theorem okAt_bad {hs : List HV} {k : Nat} {u : HV} (hx : hs[k]? = some u) (h : u.at_ < 0 ∨ 2147483647 < u.at_ ∨ (u.old.length : Int) + u.new.length = 0) : okAt hs k = false := by
  refine okAt_no hx ?_
  simp only [okHd, Bool.and_eq_false_iff, decide_eq_false_iff_not]
  omega
theorem okHd_yes {u : HV} (h1 : ¬ u.at_ < 0) (h2 : ¬ 2147483647 < u.at_) (h3 : ¬ (u.old.length : Int) + u.new.length = 0) : okHd u = true := by
  simp only [okHd, Bool.and_eq_true, decide_eq_true_eq]
  omega
theorem okAt_first {hs : List HV} {u : HV} (hx : hs[0]? = some u) (h : okHd u = true) : okAt hs 0 = true := by
  simp only [okAt, hx, if_true, h]
theorem okAt_next {hs : List HV} {k : Nat} {u p : HV} (hx : hs[k]? = some u) (hp : hs[k-1]? = some p) (hk : 0 < k) (h : okHd u = true) : okAt hs k = !decide (u.at_ - p.at_ < p.old.length) := by
  simp only [okAt, hx, if_neg (show ¬ k = 0 by omega), hp, h, Bool.true_and]
  by_cases hc : u.at_ - p.at_ < p.old.length
  · rw [decide_eq_false (by omega), decide_eq_true hc]; rfl
  · rw [decide_eq_true (by omega), decide_eq_false hc]; rfl
theorem right_false {hs : List HV} {k : Nat} (hk : k < hs.length) (h : okAt hs k = false) : right hs = false := by
  rw [right, List.all_eq_false]; exact ⟨k, List.mem_range.2 hk, by simp [h]⟩
theorem right_true {hs : List HV} (h : ∀ j, j < hs.length → okAt hs j = true) : right hs = true := by
  rw [right, List.all_eq_true]; intro j hj; exact h j (List.mem_range.1 hj)

/-- One hunk more: what is laid down, and how far the old lines are used up. -/
def stp (a : List ByteArray) (s : List ByteArray × Nat) (h : HV) : List ByteArray × Nat := (s.1 ++ (a.take h.at_.toNat).drop s.2 ++ h.new, h.at_.toNat + h.old.length)
def sts (a : List ByteArray) (l : List HV) : List ByteArray × Nat := l.foldl (stp a) ([], 0)
def matchOk (a : List ByteArray) (h : HV) : Bool :=
  decide (h.at_ ≤ a.length) && decide ((h.old.length : Int) ≤ a.length - h.at_) && decide ((a.take (h.at_.toNat + h.old.length)).drop h.at_.toNat = h.old)
def matchAt (a : List ByteArray) (l : List HV) (k : Nat) : Bool := match l[k]? with | some h => matchOk a h | none => true
def matches_ (a : List ByteArray) (l : List HV) : Bool := (List.range l.length).all (matchAt a l)
def errOf (a : List ByteArray) (l : List HV) : Int := if right l = true then (if matches_ a l = true then 0 else 13) else 1
def resOf (a : List ByteArray) (l : List HV) : List ByteArray := if right l = true ∧ matches_ a l = true then (sts a l).1 ++ a.drop (sts a l).2 else []

theorem sts_succ {a : List ByteArray} {l : List HV} {k : Nat} {h : HV} (hk : l[k]? = some h) : sts a (l.take (k + 1)) = stp a (sts a (l.take k)) h := by
  have hlt : k < l.length := (List.getElem?_eq_some_iff.1 hk).1
  have he : l[k] = h := (List.getElem?_eq_some_iff.1 hk).2
  rw [sts, List.take_succ_eq_append_getElem hlt, List.foldl_append, he]; rfl
theorem right_at {l : List HV} (h : right l = true) {k : Nat} (hk : k < l.length) : okAt l k = true := by
  rw [right, List.all_eq_true] at h
  exact h k (List.mem_range.2 hk)
theorem matches_false {a : List ByteArray} {l : List HV} {k : Nat} {h : HV} (hk : l[k]? = some h) (hm : matchOk a h = false) : matches_ a l = false := by
  have hlt : k < l.length := (List.getElem?_eq_some_iff.1 hk).1
  rw [matches_, List.all_eq_false]; exact ⟨k, List.mem_range.2 hlt, by simp [matchAt, hk, hm]⟩
theorem matches_true {a : List ByteArray} {l : List HV} (h : ∀ j, j < l.length → matchAt a l j = true) : matches_ a l = true := by
  rw [matches_, List.all_eq_true]; intro j hj; exact h j (List.mem_range.1 hj)
/-- How far one is, is at most where the next hunk stands. -/
theorem at_le {a : List ByteArray} {l : List HV} (hr : right l = true) {k : Nat} {h : HV} (hk : l[k]? = some h) : (sts a (l.take k)).2 ≤ h.at_.toNat := by
  cases k with
  | zero => simp [sts]
  | succ k =>
    have hlt : k + 1 < l.length := (List.getElem?_eq_some_iff.1 hk).1
    have hp : l[k]? = some l[k] := List.getElem?_eq_getElem (by omega)
    rw [sts_succ hp]
    have h1 := right_at hr (k := k) (by omega)
    have h2 := right_at hr hlt
    have r1 := ok_at h1 hp
    have r2 := ok_at h2 hk
    have : l[k].at_ + l[k].old.length ≤ h.at_ := by
      simp only [okAt, hk, if_neg (show ¬ k + 1 = 0 by omega), Nat.add_sub_cancel, hp, Bool.and_eq_true, decide_eq_true_eq] at h2
      exact h2.2
    simp only [stp]
    omega
def newLen (l : List HV) : Nat := (l.map (·.new.length)).sum
theorem sts_len {a : List ByteArray} (l : List HV) (s : List ByteArray × Nat) : (l.foldl (stp a) s).1.length ≤ s.1.length + l.length * a.length + newLen l := by
  induction l generalizing s with
  | nil => simp [newLen]
  | cons h l ih =>
    rw [List.foldl_cons]
    refine Nat.le_trans (ih _) ?_
    simp only [stp, newLen, List.map_cons, List.sum_cons, List.length_append, List.length_drop, List.length_take, List.length_cons, Nat.add_mul]
    have : min h.at_.toNat a.length ≤ a.length := Nat.min_le_right _ _
    omega
theorem newLen_take (l : List HV) (k : Nat) : newLen (l.take k) ≤ newLen l := by
  induction l generalizing k with
  | nil => simp
  | cons h l ih => cases k with
    | zero => simp [newLen]
    | succ k => have := ih k; simp only [newLen, List.take_succ_cons, List.map_cons, List.sum_cons] at *; omega

theorem err13 {a : List ByteArray} {l : List HV} (hr : right l = true) (hm : matches_ a l = false) : errOf a l = 13 ∧ resOf a l = [] := by
  simp [errOf, resOf, hr, hm]
theorem err0 {a : List ByteArray} {l : List HV} (hr : right l = true) (hm : matches_ a l = true) : errOf a l = 0 ∧ resOf a l = (sts a l).1 ++ a.drop (sts a l).2 := by
  simp [errOf, resOf, hr, hm]

theorem le_newLen {l : List HV} {u : HV} (h : u ∈ l) : u.new.length ≤ newLen l := by
  induction l with
  | nil => cases h
  | cons x l ih =>
    simp only [newLen, List.map_cons, List.sum_cons] at *
    rcases List.mem_cons.1 h with rfl | h
    · omega
    · have := ih h; omega

end Go.Proofs.Ytabiegbbbljhlaa
