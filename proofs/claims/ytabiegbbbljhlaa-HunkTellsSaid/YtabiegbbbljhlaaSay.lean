/- What the hunks of a script say: they may be, they stand there, and they lead from the one text to the other; one by one from behind, too. -/
import Derived.Test.YtabiegbbbljhlaaScr
namespace Go.Proofs.Ytabiegbbbljhlaa
open Go.RowKit

theorem kinds_tail {e : EV} {es : List EV} (h : kinds (e :: es)) : kinds es := fun x hx => h x (List.mem_cons_of_mem _ hx)

/-- One hunk more, of plain hunks. -/
def pst (a : List ByteArray) (s : List ByteArray × Nat) (h : PH) : List ByteArray × Nat := (s.1 ++ (a.take h.at_.toNat).drop s.2 ++ h.new, h.at_.toNat + h.old.length)
def psts (a : List ByteArray) (l : List PH) : List ByteArray × Nat := l.foldl (pst a) ([], 0)
theorem psts_snoc (a : List ByteArray) (l : List PH) (h : PH) : psts a (l ++ [h]) = pst a (psts a l) h := by simp [psts]
theorem sts_pure (a : List ByteArray) (l : List HV) : sts a l = psts a (l.map HV.pure) := by
  unfold sts psts
  rw [List.foldl_map]
  rfl

/-- A hunk that stands in a, ahead of place p. -/
structure FitH (a : List ByteArray) (p : Nat) (h : PH) : Prop where
  pos : 0 ≤ h.at_
  le : h.at_.toNat + h.old.length ≤ p
  old : (a.take (h.at_.toNat + h.old.length)).drop h.at_.toNat = h.old
  some_ : h.old.length + h.new.length ≠ 0
def PH.end_ (h : PH) : Nat := h.at_.toNat + h.old.length
structure Inv (a b : List ByteArray) (p q : Nat) (s : HS) : Prop where
  at_ : s.at_ = p
  pa : p ≤ a.length
  qb : q ≤ b.length
  sep : s.dn.Pairwise fun h h' => h.end_ < h'.at_.toNat
  fit : ∀ h ∈ s.dn, FitH a p h
  cur : ∀ c, s.cur = some c → FitH a p c ∧ c.end_ = p ∧ (∀ h ∈ s.dn, h.end_ < c.at_.toNat) ∧ (psts a (s.dn ++ [c])).1 = b.take q
  none_ : s.cur = none → (∀ h ∈ s.dn, h.end_ < p) ∧ (psts a s.dn).1 ++ (a.take p).drop (psts a s.dn).2 = b.take q

theorem FitH.more {a : List ByteArray} {p p' : Nat} {h : PH} (hf : FitH a p h) (hp : p ≤ p') : FitH a p' h := ⟨hf.pos, Nat.le_trans hf.le hp, hf.old, hf.some_⟩
theorem psts_end {a : List ByteArray} {l : List PH} {p : Nat} (h : ∀ x ∈ l, x.end_ ≤ p) : (psts a l).2 ≤ p := by
  rcases List.eq_nil_or_concat l with rfl | ⟨i, c, rfl⟩
  · exact Nat.zero_le _
  · rw [List.concat_eq_append] at *
    rw [psts_snoc]
    exact h c (by simp)
theorem take_succ_at {a : List ByteArray} {p : Nat} {x : ByteArray} (hx : a[p]? = some x) : a.take (p + 1) = a.take p ++ [x] := by rw [List.take_add_one, hx]; rfl

theorem inv_step {a b : List ByteArray} {p q : Nat} {s : HS} {e : EV} {es : List EV} (h : Inv a b p q s) (hk : kinds (e :: es)) (ha : a.drop p = olds (e :: es)) (hb : b.drop q = news (e :: es)) :
    ∃ p' q', Inv a b p' q' (hstep s e) ∧ a.drop p' = olds es ∧ b.drop q' = news es := by
  have h1 := h.at_
  have cons_at : ∀ {l : List ByteArray} {k : Nat} {x : ByteArray} {r : List ByteArray}, l.drop k = x :: r → l[k]? = some x ∧ l.drop (k + 1) = r ∧ k < l.length := by
    intro l k x r hd
    have hlt : k < l.length := by
      rcases Nat.lt_or_ge k l.length with hl | hl
      · exact hl
      · rw [List.drop_of_length_le hl] at hd; cases hd
    rw [List.drop_eq_getElem_cons hlt] at hd
    injection hd with e1 e2
    exact ⟨by rw [List.getElem?_eq_getElem hlt, e1], e2, hlt⟩
  rcases hk e (by simp) with hk | hk | hk
  · have ha' : a.drop p = e.line :: olds es := by rw [ha]; simp [olds, hk]
    have hb' : b.drop q = e.line :: news es := by rw [hb]; simp [news, hk]
    obtain ⟨a1, a2, a3⟩ := cons_at ha'
    obtain ⟨b1, b2, b3⟩ := cons_at hb'
    refine ⟨p + 1, q + 1, ?_, a2, b2⟩
    have hs : hstep s e = ⟨s.dn ++ s.cur.toList, none, s.at_ + 1⟩ := by unfold hstep; rw [if_pos hk]
    rw [hs]
    refine ⟨by simp only; omega, by omega, by omega, ?_, ?_, (by simp), fun _ => ?_⟩
    · cases hc : s.cur with
      | none => simpa [hc] using h.sep
      | some c =>
        obtain ⟨_, _, c3, _⟩ := h.cur c hc
        simp only [Option.toList_some]
        rw [List.pairwise_append]
        exact ⟨h.sep, by simp, fun x hx y hy => by obtain rfl := List.mem_singleton.1 hy; exact c3 x hx⟩
    · intro x hx
      rcases List.mem_append.1 hx with hx | hx
      · exact (h.fit x hx).more (by omega)
      · cases hc : s.cur with
        | none => rw [hc] at hx; cases hx
        | some c => rw [hc] at hx; obtain rfl := List.mem_singleton.1 hx; exact (h.cur _ hc).1.more (by omega)
    · cases hc : s.cur with
      | none =>
        obtain ⟨n1, n2⟩ := h.none_ hc
        simp only [Option.toList_none, List.append_nil]
        refine ⟨fun x hx => by have := n1 x hx; omega, ?_⟩
        have hle : (psts a s.dn).2 ≤ p := psts_end fun x hx => by have := n1 x hx; omega
        rw [take_succ_at a1, take_succ_at b1, List.drop_append_of_le_length (by rw [List.length_take]; omega), ← List.append_assoc, n2]
      | some c =>
        obtain ⟨c1, c2, c3, c4⟩ := h.cur c hc
        simp only [Option.toList_some]
        refine ⟨fun x hx => ?_, ?_⟩
        · rcases List.mem_append.1 hx with hx | hx
          · have e1 := c3 x hx
            have e2 : c.at_.toNat + c.old.length = p := c2
            omega
          · obtain rfl := List.mem_singleton.1 hx; omega
        · have e2 : (psts a (s.dn ++ [c])).2 = p := by rw [psts_snoc]; exact c2
          rw [c4, e2, take_succ_at a1, take_succ_at b1, List.drop_append_of_le_length (by rw [List.length_take]; omega), List.drop_of_length_le (by rw [List.length_take]; omega)]
          rfl
  · have ha' : a.drop p = e.line :: olds es := by rw [ha]; simp [olds, hk]
    have hb' : b.drop q = news es := by rw [hb]; simp [news, hk]
    obtain ⟨a1, a2, a3⟩ := cons_at ha'
    refine ⟨p + 1, q, ?_, a2, hb'⟩
    have hs : hstep s e = ⟨s.dn, some ⟨(s.cur.getD ⟨s.at_, [], []⟩).at_, (s.cur.getD ⟨s.at_, [], []⟩).old ++ [e.line], (s.cur.getD ⟨s.at_, [], []⟩).new⟩, s.at_ + 1⟩ := by
      unfold hstep; rw [if_neg (by omega), if_pos hk]
    rw [hs]
    refine ⟨by simp only; omega, by omega, h.qb, h.sep, fun x hx => (h.fit x hx).more (by omega), fun c hc => ?_, fun hc => by cases hc⟩
    have hc' := (Option.some.inj hc).symm
    cases hcur : s.cur with
    | none =>
      rw [hcur] at hc'
      simp only [Option.getD_none, List.nil_append] at hc'
      subst hc'
      obtain ⟨n1, n2⟩ := h.none_ hcur
      refine ⟨⟨by simp only; omega, by simp only [List.length_singleton]; omega, ?_, by simp⟩, by simp only [PH.end_, List.length_singleton]; omega, fun x hx => by have := n1 x hx; simp only; omega, ?_⟩
      · simp only [List.length_singleton, h1, Int.toNat_natCast]
        rw [take_succ_at a1, List.drop_append_of_le_length (by rw [List.length_take]; omega), List.drop_of_length_le (by rw [List.length_take]; omega)]
        rfl
      · rw [psts_snoc]
        simp only [pst, h1, Int.toNat_natCast, List.append_nil]
        exact n2
    | some d =>
      rw [hcur] at hc'
      simp only [Option.getD_some] at hc'
      subst hc'
      obtain ⟨c1, c2, c3, c4⟩ := h.cur d hcur
      have e2 : d.at_.toNat + d.old.length = p := c2
      refine ⟨⟨c1.pos, by simp only [List.length_append, List.length_singleton]; omega, ?_, by simp⟩, by simp only [PH.end_, List.length_append, List.length_singleton]; omega, c3, ?_⟩
      · have e3 := c1.old
        rw [e2] at e3
        simp only [List.length_append, List.length_singleton]
        rw [show d.at_.toNat + (d.old.length + 1) = p + 1 by omega, take_succ_at a1, List.drop_append_of_le_length (by rw [List.length_take]; omega), e3]
      · rw [psts_snoc] at *
        simp only [pst] at *
        exact c4
  · have ha' : a.drop p = olds es := by rw [ha]; simp [olds, hk]
    have hb' : b.drop q = e.line :: news es := by rw [hb]; simp [news, hk]
    obtain ⟨b1, b2, b3⟩ := cons_at hb'
    refine ⟨p, q + 1, ?_, ha', b2⟩
    have hs : hstep s e = ⟨s.dn, some ⟨(s.cur.getD ⟨s.at_, [], []⟩).at_, (s.cur.getD ⟨s.at_, [], []⟩).old, (s.cur.getD ⟨s.at_, [], []⟩).new ++ [e.line]⟩, s.at_⟩ := by
      unfold hstep; rw [if_neg (by omega), if_neg (by omega), if_pos hk]
    rw [hs]
    refine ⟨h.at_, h.pa, by omega, h.sep, h.fit, fun c hc => ?_, fun hc => by cases hc⟩
    have hc' := (Option.some.inj hc).symm
    cases hcur : s.cur with
    | none =>
      rw [hcur] at hc'
      simp only [Option.getD_none, List.nil_append] at hc'
      subst hc'
      obtain ⟨n1, n2⟩ := h.none_ hcur
      refine ⟨⟨by simp only; omega, by simp only [List.length_nil]; omega, ?_, by simp⟩, by simp only [PH.end_, List.length_nil]; omega, fun x hx => by have := n1 x hx; simp only; omega, ?_⟩
      · simp only [List.length_nil, h1, Int.toNat_natCast, Nat.add_zero]
        rw [List.drop_of_length_le (by rw [List.length_take]; omega)]
      · rw [psts_snoc, take_succ_at b1, ← n2]
        simp only [pst, h1, Int.toNat_natCast]
    | some d =>
      rw [hcur] at hc'
      simp only [Option.getD_some] at hc'
      subst hc'
      obtain ⟨c1, c2, c3, c4⟩ := h.cur d hcur
      have e2 : d.at_.toNat + d.old.length = p := c2
      refine ⟨⟨c1.pos, c1.le, c1.old, by simp only [List.length_append, List.length_singleton]; omega⟩, c2, c3, ?_⟩
      rw [psts_snoc] at *
      simp only [pst] at *
      rw [take_succ_at b1, ← c4]
      simp only [List.append_assoc]
theorem inv_all : ∀ {es : List EV} {a b : List ByteArray} {p q : Nat} {s : HS}, Inv a b p q s → kinds es → a.drop p = olds es → b.drop q = news es → Inv a b a.length b.length (es.foldl hstep s)
  | [], a, b, p, q, s, h, _, ha, hb => by
    have e1 : a.length ≤ p := by have := congrArg List.length ha; simp [olds] at this; omega
    have e2 : b.length ≤ q := by have := congrArg List.length hb; simp [news] at this; omega
    obtain rfl : p = a.length := Nat.le_antisymm h.pa e1
    obtain rfl : q = b.length := Nat.le_antisymm h.qb e2
    exact h
  | e :: es, a, b, p, q, s, h, hk, ha, hb => by
    obtain ⟨p', q', h', ha', hb'⟩ := inv_step h hk ha hb
    exact inv_all (es := es) h' (kinds_tail hk) ha' hb'
/-- The hunks of edits with the sides a and b. -/
structure Says (a b : List ByteArray) (l : List PH) : Prop where
  sep : l.Pairwise fun h h' => h.end_ < h'.at_.toNat
  fit : ∀ h ∈ l, FitH a a.length h
  out : (psts a l).1 ++ a.drop (psts a l).2 = b
theorem hunks_say {es : List EV} {a b : List ByteArray} (hk : kinds es) (ha : olds es = a) (hb : news es = b) : Says a b (hunksL es) := by
  have h0 : Inv a b 0 0 ⟨[], none, 0⟩ := ⟨rfl, Nat.zero_le _, Nat.zero_le _, List.Pairwise.nil, by simp, by simp, by simp [psts]⟩
  have h := inv_all h0 hk (by rw [ha]; rfl) (by rw [hb]; rfl)
  have h : Inv a b a.length b.length (hst es) := h
  unfold hunksL
  cases hc : (hst es).cur with
  | none =>
    obtain ⟨n1, n2⟩ := h.none_ hc
    simp only [Option.toList_none, List.append_nil]
    rw [List.take_of_length_le (Nat.le_refl _), List.take_of_length_le (Nat.le_refl _)] at n2
    exact ⟨h.sep, h.fit, n2⟩
  | some c =>
    obtain ⟨c1, c2, c3, c4⟩ := h.cur c hc
    simp only [Option.toList_some]
    rw [List.take_of_length_le (Nat.le_refl _)] at c4
    refine ⟨?_, ?_, ?_⟩
    · rw [List.pairwise_append]
      exact ⟨h.sep, by simp, fun x hx y hy => by obtain rfl := List.mem_singleton.1 hy; exact c3 x hx⟩
    · intro x hx
      rcases List.mem_append.1 hx with hx | hx
      · exact h.fit x hx
      · obtain rfl := List.mem_singleton.1 hx; exact c1
    · have e2 : (psts a ((hst es).dn ++ [c])).2 = a.length := by rw [psts_snoc]; exact c2
      rw [c4, e2, List.drop_length, List.append_nil]

/-! ### What Apply makes of them -/
section
variable {a b : List ByteArray} {hs : List HV}
theorem FitH.match_ {h : HV} (hf : FitH a a.length h.pure) : matchOk a h = true := by
  have h1 := hf.pos
  have h2 := hf.le
  have h3 := hf.old
  simp only [HV.pure] at h1 h2 h3
  simp only [matchOk, Bool.and_eq_true, decide_eq_true_eq]
  exact ⟨⟨by omega, by omega⟩, h3⟩
theorem FitH.hd {h : HV} (hf : FitH a a.length h.pure) (hl : a.length ≤ 2147483647) : okHd h = true := by
  have h1 := hf.pos
  have h2 := hf.le
  have h3 := hf.some_
  simp only [HV.pure] at h1 h2 h3
  exact okHd_yes (by omega) (by omega) (by omega)
theorem Says.right (h : Says a b (hs.map HV.pure)) (hl : a.length ≤ 2147483647) : right hs = true := by
  refine right_true fun j hj => ?_
  have hx : hs[j]? = some hs[j] := List.getElem?_eq_getElem hj
  have hd := (h.fit hs[j].pure (List.mem_map.2 ⟨_, List.getElem_mem hj, rfl⟩)).hd hl
  cases j with
  | zero => exact okAt_first hx hd
  | succ j =>
    have hp : hs[j]? = some hs[j] := List.getElem?_eq_getElem (by omega)
    rw [okAt_next (p := hs[j]) hx (by rw [Nat.add_sub_cancel]; exact hp) (by omega) hd]
    have hs1 := (List.pairwise_iff_getElem.1 h.sep) j (j + 1) (by rw [List.length_map]; omega) (by rw [List.length_map]; omega) (by omega)
    have hf := (h.fit hs[j].pure (List.mem_map.2 ⟨_, List.getElem_mem (by omega), rfl⟩)).pos
    simp only [List.getElem_map, PH.end_, HV.pure] at hs1 hf
    rw [decide_eq_false (by omega)]
    rfl
theorem Says.matches_ (h : Says a b (hs.map HV.pure)) : matches_ a hs = true := by
  refine matches_true fun j hj => ?_
  have hx : hs[j]? = some hs[j] := List.getElem?_eq_getElem hj
  unfold matchAt
  rw [hx]
  exact (h.fit hs[j].pure (List.mem_map.2 ⟨_, List.getElem_mem hj, rfl⟩)).match_
theorem Says.apply (h : Says a b (hs.map HV.pure)) (hl : a.length ≤ 2147483647) : errOf a hs = 0 ∧ resOf a hs = b := by
  obtain ⟨e1, e2⟩ := err0 (h.right hl) h.matches_
  refine ⟨e1, ?_⟩
  rw [e2, sts_pure]
  exact h.out

/-- Behind the last hunks, done one by one from behind. -/
structure Back (a : List ByteArray) (hs : List HV) (k : Nat) (b y : List ByteArray) : Prop where
  ahead : y.take (sts a (hs.take k)).2 = a.take (sts a (hs.take k)).2
  le : (sts a (hs.take k)).2 ≤ y.length
  all : (sts a (hs.take k)).1 ++ y.drop (sts a (hs.take k)).2 = b
theorem Says.start (h : Says a b (hs.map HV.pure)) : Back a hs hs.length b a := by
  have hle : (sts a hs).2 ≤ a.length := by
    rw [sts_pure]
    exact psts_end fun x hx => (h.fit x hx).le
  refine ⟨rfl, ?_, ?_⟩
  · rw [List.take_length]; exact hle
  · rw [List.take_length, sts_pure]; exact h.out
theorem Back.done {y : List ByteArray} (h : Back a hs 0 b y) : y = b := by
  have := h.all
  simpa [sts] using this
theorem Back.step {y : List ByteArray} {k : Nat} {u : HV} (hb : Back a hs (k + 1) b y) (h : Says a b (hs.map HV.pure)) (hl : a.length ≤ 2147483647) (hu : hs[k]? = some u) :
    errOf y [u] = 0 ∧ Back a hs k b (resOf y [u]) := by
  obtain ⟨h1, h2, h3⟩ := hb
  rw [sts_succ hu] at h1 h2 h3
  simp only [stp] at h1 h2 h3
  have hf := h.fit u.pure (List.mem_map.2 ⟨_, List.mem_of_getElem? hu, rfl⟩)
  have hd := hf.hd hl
  have f1 := hf.pos
  have f2 := hf.le
  have f3 := hf.old
  simp only [HV.pure] at f1 f2 f3
  have hq := at_le (a := a) (h.right hl) hu
  have hR : right [u] = true := by simp [Go.Proofs.Ytabiegbbbljhlaa.right, okAt, hd]
  have hM : Go.Proofs.Ytabiegbbbljhlaa.matches_ y [u] = true := by
    have : matchOk y u = true := by
      simp only [matchOk, Bool.and_eq_true, decide_eq_true_eq]
      exact ⟨⟨by omega, by omega⟩, by rw [h1]; exact f3⟩
    simp [Go.Proofs.Ytabiegbbbljhlaa.matches_, matchAt, this]
  obtain ⟨e1, e2⟩ := err0 hR hM
  refine ⟨e1, ?_⟩
  have e3 : resOf y [u] = y.take u.at_.toNat ++ u.new ++ y.drop (u.at_.toNat + u.old.length) := by
    rw [e2]; simp [sts, stp]
  have htk : ∀ j, j ≤ u.at_.toNat + u.old.length → y.take j = a.take j := fun j hj => by
    have := congrArg (List.take j) h1
    rwa [List.take_take, List.take_take, Nat.min_eq_left hj] at this
  have hlen : (y.take u.at_.toNat).length = u.at_.toNat := by rw [List.length_take]; omega
  rw [e3]
  refine ⟨?_, ?_, ?_⟩
  · rw [List.append_assoc, List.take_append_of_le_length (by omega), List.take_take, Nat.min_eq_left hq]
    exact htk _ (by omega)
  · simp only [List.length_append]; omega
  · rw [List.append_assoc, List.drop_append_of_le_length (by omega), htk _ (by omega : u.at_.toNat ≤ _)]
    rw [← h3]
    simp only [List.append_assoc]
end
end Go.Proofs.Ytabiegbbbljhlaa
