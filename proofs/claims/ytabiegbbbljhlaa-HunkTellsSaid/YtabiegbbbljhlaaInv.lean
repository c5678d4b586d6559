/- Hunks inverted: the inverted hunks of edits are the hunks of the edits the other way about; inverted twice they are as they were. -/
import Derived.Test.YtabiegbbbljhlaaSay
namespace Go.Proofs.Ytabiegbbbljhlaa
open Go.RowKit

def invL : Int → List PH → List PH
  | _, [] => []
  | m, h :: l => ⟨h.at_ + m, h.new, h.old⟩ :: invL (m + h.new.length - h.old.length) l
/-- How much longer the new side is. -/
def gain : List PH → Int
  | [] => 0
  | h :: l => (h.new.length : Int) - h.old.length + gain l
theorem gain_app (l m : List PH) : gain (l ++ m) = gain l + gain m := by
  induction l with
  | nil => simp [gain]
  | cons x l ih => rw [List.cons_append, gain, gain, ih]; omega
theorem invL_app (l m : List PH) (k : Int) : invL k (l ++ m) = invL k l ++ invL (k + gain l) m := by
  induction l generalizing k with
  | nil => simp [invL, gain]
  | cons x l ih =>
    rw [List.cons_append, invL, invL, ih, List.cons_append, gain]
    rw [show k + x.new.length - x.old.length + gain l = k + ((x.new.length : Int) - x.old.length + gain l) by omega]
theorem invL_len (l : List PH) (k : Int) : (invL k l).length = l.length := by
  induction l generalizing k with
  | nil => rfl
  | cons x l ih => simp [invL, ih]
theorem invL_twice (l : List PH) (k : Int) : invL (-k) (invL k l) = l := by
  induction l generalizing k with
  | nil => rfl
  | cons x l ih =>
    rw [invL, invL]
    have h : -k + (x.old.length : Int) - x.new.length = -(k + x.new.length - x.old.length) := by omega
    simp only [h, ih]
    rw [show x.at_ + k + -k = x.at_ by omega]
/-- The edit the other way about. -/
def swp (e : EV) : EV := if e.kind = 2 then ⟨3, e.line⟩ else if e.kind = 3 then ⟨2, e.line⟩ else e
theorem swp_says {es : List EV} (hk : kinds es) : olds (es.map swp) = news es ∧ news (es.map swp) = olds es ∧ kinds (es.map swp) := by
  induction es with
  | nil => simp [olds, news, kinds]
  | cons e es ih =>
    obtain ⟨h1, h2, h3⟩ := ih (kinds_tail hk)
    simp only [olds, news, List.map_cons, List.flatMap_cons] at *
    rw [h1, h2]
    rcases hk e (by simp) with h | h | h
    · refine ⟨by simp [swp, h], by simp [swp, h], fun x hx => ?_⟩
      rcases List.mem_cons.1 hx with rfl | hx
      · simp [swp, h]
      · exact h3 x hx
    · refine ⟨by simp [swp, h], by simp [swp, h], fun x hx => ?_⟩
      rcases List.mem_cons.1 hx with rfl | hx
      · simp [swp, h]
      · exact h3 x hx
    · refine ⟨by simp [swp, h], by simp [swp, h], fun x hx => ?_⟩
      rcases List.mem_cons.1 hx with rfl | hx
      · simp [swp, h]
      · exact h3 x hx
def cgain (c : Option PH) : Int := match c with | none => 0 | some c => (c.new.length : Int) - c.old.length
structure Sw (s s' : HS) : Prop where
  dn : s'.dn = invL 0 s.dn
  cur : s'.cur = s.cur.map fun c => ⟨c.at_ + gain s.dn, c.new, c.old⟩
  at_ : s'.at_ = s.at_ + gain s.dn + cgain s.cur
theorem sw_step {s s' : HS} {e : EV} (h : Sw s s') (hk : e.kind = 1 ∨ e.kind = 2 ∨ e.kind = 3) : Sw (hstep s e) (hstep s' (swp e)) := by
  obtain ⟨d, c, at1⟩ := s
  obtain ⟨d', c', at2⟩ := s'
  obtain ⟨h1, h2, h3⟩ := h
  simp only at h1 h2 h3
  subst h1 h2 h3
  rcases hk with hk | hk | hk
  · have e1 : swp e = e := by simp [swp, hk]
    rw [e1]
    cases c with
    | none =>
      simp only [hstep, hk, if_true, Option.toList_none, List.append_nil, Option.map_none]
      exact ⟨rfl, rfl, by simp [cgain]; omega⟩
    | some c =>
      simp only [hstep, hk, if_true, Option.toList_some, Option.map_some]
      refine ⟨?_, rfl, ?_⟩
      · simp only [invL_app, invL, Int.zero_add]
      · simp only [gain_app, gain, cgain]; omega
  · have e1 : (swp e) = ⟨3, e.line⟩ := by simp [swp, hk]
    rw [e1]
    cases c with
    | none =>
      simp only [hstep, hk, Option.map_none, Option.getD_none]
      refine ⟨rfl, ?_, ?_⟩
      · simp [cgain]
      · simp [cgain]; omega
    | some c =>
      simp only [hstep, hk, Option.map_some, Option.getD_some]
      refine ⟨rfl, ?_, ?_⟩
      · simp
      · simp [cgain]; omega
  · have e1 : (swp e) = ⟨2, e.line⟩ := by simp [swp, hk]
    rw [e1]
    cases c with
    | none =>
      simp only [hstep, hk, Option.map_none, Option.getD_none]
      refine ⟨rfl, ?_, ?_⟩
      · simp [cgain]
      · simp [cgain]
    | some c =>
      simp only [hstep, hk, Option.map_some, Option.getD_some]
      refine ⟨rfl, ?_, ?_⟩
      · simp
      · simp [cgain]; omega
theorem inv_hunks {es : List EV} (hk : kinds es) : invL 0 (hunksL es) = hunksL (es.map swp) := by
  have key : ∀ (es : List EV) (s s' : HS), Sw s s' → kinds es → Sw (es.foldl hstep s) ((es.map swp).foldl hstep s') := by
    intro es
    induction es with
    | nil => intro s s' h _; exact h
    | cons e es ih => intro s s' h hk; exact ih _ _ (sw_step h (hk e (by simp))) (kinds_tail hk)
  obtain ⟨h1, h2, h3⟩ := key es ⟨[], none, 0⟩ ⟨[], none, 0⟩ ⟨rfl, rfl, rfl⟩ hk
  unfold hunksL hst
  rw [h1, h2, invL_app]
  cases (es.foldl hstep ⟨[], none, 0⟩).cur with
  | none => rfl
  | some c => simp [invL]
/-- The inverted hunks lead back. -/
theorem inv_says {es : List EV} {a b : List ByteArray} (hk : kinds es) (ha : olds es = a) (hb : news es = b) : Says b a (invL 0 (hunksL es)) := by
  obtain ⟨h1, h2, h3⟩ := swp_says hk
  rw [inv_hunks hk]
  exact hunks_say h3 (h1.trans hb) (h2.trans ha)
/-- What Invert hands back. -/
def inv (hs : List HV) : List PH := if right hs = true then invL 0 (hs.map HV.pure) else []
theorem inv_succ {hs : List HV} {k : Nat} {u : HV} (hu : hs[k]? = some u) :
    invL 0 ((hs.take (k + 1)).map HV.pure) = invL 0 ((hs.take k).map HV.pure) ++ [⟨u.at_ + gain ((hs.take k).map HV.pure), u.new, u.old⟩] ∧
    gain ((hs.take (k + 1)).map HV.pure) = gain ((hs.take k).map HV.pure) + u.new.length - u.old.length := by
  rw [List.take_add_one, hu, List.map_append, invL_app, gain_app]
  refine ⟨?_, ?_⟩
  · simp [invL, HV.pure]
  · simp [gain, HV.pure]; omega
theorem gain_le {hs : List HV} {b : Nat} (h : ∀ u ∈ hs, u.old.length ≤ b ∧ u.new.length ≤ b) : -((hs.length * b : Nat) : Int) ≤ gain (hs.map HV.pure) ∧ gain (hs.map HV.pure) ≤ ((hs.length * b : Nat) : Int) := by
  induction hs with
  | nil => simp [gain]
  | cons x l ih =>
    have h1 := h x (by simp)
    have h2 := ih fun u hu => h u (by simp [hu])
    simp only [List.map_cons, gain, HV.pure, List.length_cons, Nat.succ_mul]
    omega
end Go.Proofs.Ytabiegbbbljhlaa
