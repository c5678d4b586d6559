/- What it is for a view to be sound, in plain words. -/
import Derived.Test.YtnkboccngialiaaDoorV1
import Derived.Test.YtnkboccngialiaaDoorN0
namespace Go.Proofs.YtnkboccngialiaaDoor
open Go.RowKit

/-- One commit at its place. -/
def ComOk (l : List EV) (k : Nat) (c : EV) : Prop := (∀ d, 1 ≤ k → l[k - 1]? = some d → d.num < c.num) ∧ (c.parent = -1 ∨ c.parent ∈ (l.take k).map EV.num) ∧ TreeOk c.files
def ComsTo (l : List EV) (k : Nat) : Prop := ∀ j c, j < k → l[j]? = some c → ComOk l j c
/-- One bookmark at its place. -/
def MarkRise (l : List NV) (k : Nat) (m : NV) : Prop := ∀ d, 1 ≤ k → l[k - 1]? = some d → d.name.data.toList < m.name.data.toList
def MarksRise (l : List NV) (k : Nat) : Prop := ∀ j m, j < k → l[j]? = some m → MarkRise l j m
def MarksIn (l : List NV) (ns : List Int) (k : Nat) : Prop := ∀ j m, j < k → l[j]? = some m → m.commit ∈ ns
def Nothing (p : PV) : Prop := p.restack = false ∧ p.source = 0 ∧ p.dest = 0 ∧ p.commit = 0 ∧ p.settled.length = 0 ∧ p.clashes.length = 0
def Sound (v : VV) : Prop := ComsTo v.commits v.commits.length ∧ MarksIn v.marks (v.commits.map EV.num) v.marks.length ∧ (v.working = -1 ∨ v.working ∈ v.commits.map EV.num) ∧
  MarksRise v.marks v.marks.length ∧ 0 ≤ v.undos ∧ 0 ≤ v.redos ∧ (v.pend.on = true ∨ Nothing v.pend)
open Classical in
noncomputable def soundB (v : VV) : Bool := decide (Sound v)
theorem sound_no {v : VV} (h : ¬ Sound v) : soundB v = false := by simp [soundB, h]
theorem sound_yes {v : VV} (h : Sound v) : soundB v = true := by simp [soundB, h]
theorem ComsTo.zero (l : List EV) : ComsTo l 0 := fun _ _ h => absurd h (Nat.not_lt_zero _)
theorem ComsTo.next {l : List EV} {k : Nat} {c : EV} (h : ComsTo l k) (hc : l[k]? = some c) (h1 : ComOk l k c) : ComsTo l (k + 1) := by
  intro j g hj hg
  by_cases e : j = k
  · subst e; rw [hc] at hg; injection hg with hg; subst hg; exact h1
  · exact h j g (by omega) hg
theorem com_bad {v : VV} {k : Nat} {c : EV} (hc : v.commits[k]? = some c) (h : ¬ ComOk v.commits k c) : soundB v = false :=
  sound_no fun hs => h (hs.1 k c (List.getElem?_eq_some_iff.1 hc).1 hc)
theorem MarksIn.zero (l : List NV) (ns : List Int) : MarksIn l ns 0 := fun _ _ h => absurd h (Nat.not_lt_zero _)
theorem MarksIn.next {l : List NV} {ns : List Int} {k : Nat} {c : NV} (h : MarksIn l ns k) (hc : l[k]? = some c) (h1 : c.commit ∈ ns) : MarksIn l ns (k + 1) := by
  intro j g hj hg
  by_cases e : j = k
  · subst e; rw [hc] at hg; injection hg with hg; subst hg; exact h1
  · exact h j g (by omega) hg
theorem MarksRise.zero (l : List NV) : MarksRise l 0 := fun _ _ h => absurd h (Nat.not_lt_zero _)
theorem MarksRise.next {l : List NV} {k : Nat} {c : NV} (h : MarksRise l k) (hc : l[k]? = some c) (h1 : MarkRise l k c) : MarksRise l (k + 1) := by
  intro j g hj hg
  by_cases e : j = k
  · subst e; rw [hc] at hg; injection hg with hg; subst hg; exact h1
  · exact h j g (by omega) hg
theorem markIn_bad {v : VV} {k : Nat} {c : NV} (hc : v.marks[k]? = some c) (h : ¬ c.commit ∈ v.commits.map EV.num) : soundB v = false :=
  sound_no fun hs => h (hs.2.1 k c (List.getElem?_eq_some_iff.1 hc).1 hc)
theorem markRise_bad {v : VV} {k : Nat} {c : NV} (hc : v.marks[k]? = some c) (h : ¬ MarkRise v.marks k c) : soundB v = false :=
  sound_no fun hs => h (hs.2.2.2.1 k c (List.getElem?_eq_some_iff.1 hc).1 hc)
open Classical in
noncomputable def riseB (l : List NV) : Bool := decide (MarksRise l l.length)
def nothingB (p : PV) : Bool := !p.restack && decide (p.source = 0) && decide (p.dest = 0) && decide (p.commit = 0) && decide (p.settled.length = 0) && decide (p.clashes.length = 0)
theorem nothingB_iff {p : PV} : nothingB p = true ↔ Nothing p := by
  simp [nothingB, Nothing, and_assoc]
theorem nothing_eq (p : PV) (h : p.on = false) : eqPV p ⟨false, false, 0, 0, none, 0, [], 0, none, 0, []⟩ = nothingB p := by
  have e : lall2 eqSV p.settled [] = decide (p.settled.length = 0) := by cases p.settled <;> simp [lall2]
  simp only [eqPV, nothingB, h, e]
  cases p.restack <;> cases p.clashes <;> simp [Bool.and_assoc]
/-- Numbers that are no greater than what a word holds. -/
structure Nums (v : VV) : Prop where
  com : ∀ c ∈ v.commits, I64 c.num ∧ I64 c.parent
  mark : ∀ m ∈ v.marks, I64 m.commit
  work : I64 v.working
  un : I64 v.undos
  re : I64 v.redos
end Go.Proofs.YtnkboccngialiaaDoor
