/- Rows of a call's own that lie apart; edits as they lie in memory; hunks that are being built. -/
import Derived.Test.YtabiegbbbljhlaaHunks
import Derived.Test.YtabiegbbbljhlaaLate
namespace Go.Proofs.Ytabiegbbbljhlaa
open Go.RowKit

/-! ### Rows of the call's own -/
structure OR where
  e : TypeId
  sz : Nat
  v : Value
  n : Nat
  xs : List Value
/-- They are the call's own, and no two of them share a block. -/
structure Owns (w : World) (base : Nat) (l : List OR) : Prop where
  own : ∀ r ∈ l, w.ownsRow base r.e r.sz r.v r.n r.xs
  nd : (l.filterMap fun r => r.v.ownBlock).Nodup

section
variable {w w' : World} {base : Nat} {l l1 l2 : List OR} {r r' : OR}
theorem Owns.get (h : Owns w base l) {i : Nat} (hi : l[i]? = some r) : w.ownsRow base r.e r.sz r.v r.n r.xs := h.own r (List.mem_of_getElem? hi)
theorem Owns.turn (h : Owns w base (l1 ++ r :: l2)) (hg : w.grownBy w' r.v.ownBlock) (ho : w'.ownsRow base r'.e r'.sz r'.v r'.n r'.xs)
    (hb : r'.v.ownBlock = r.v.ownBlock ∨ r'.v.ownBlock = some w.heap.size) : Owns w' base (l1 ++ r' :: l2) := by
  have hnd := h.nd
  simp only [List.filterMap_append, List.filterMap_cons] at hnd
  have hlt : ∀ s ∈ l1 ++ l2, ∀ g, s.v.ownBlock = some g → g < w.heap.size := fun s hs g hg => ((h.own s (by
    simp only [List.mem_append, List.mem_cons] at *; rcases hs with hs | hs <;> simp [hs])).lt g hg).2
  have hne : ∀ s ∈ l1 ++ l2, s.v.ownBlock = none ∨ s.v.ownBlock ≠ r.v.ownBlock := by
    intro s hs
    cases hv : s.v.ownBlock with
    | none => exact .inl rfl
    | some g =>
      right
      intro e
      rw [← e] at hnd
      simp only at hnd
      have hmem : g ∈ l1.filterMap (fun r => r.v.ownBlock) ∨ g ∈ l2.filterMap (fun r => r.v.ownBlock) := by
        rcases List.mem_append.1 hs with hs | hs
        · exact .inl (List.mem_filterMap.2 ⟨s, hs, hv⟩)
        · exact .inr (List.mem_filterMap.2 ⟨s, hs, hv⟩)
      rw [List.nodup_append] at hnd
      rcases hmem with hm | hm
      · exact hnd.2.2 g hm g (by simp) rfl
      · exact (List.nodup_cons.1 hnd.2.1).1 hm
  refine ⟨fun s hs => ?_, ?_⟩
  · simp only [List.mem_append, List.mem_cons] at hs
    rcases hs with hs | rfl | hs
    · exact (h.own s (by simp [hs])).kept hg (hne s (by simp [hs]))
    · exact ho
    · exact (h.own s (by simp [hs])).kept hg (hne s (by simp [hs]))
  · simp only [List.filterMap_append, List.filterMap_cons]
    rcases hb with e | e
    · rw [e]; exact hnd
    · rw [e]
      simp only
      have h12 : (l1.filterMap (fun r => r.v.ownBlock) ++ l2.filterMap (fun r => r.v.ownBlock)).Nodup := by
        cases hv : r.v.ownBlock with
        | none => rw [hv] at hnd; exact hnd
        | some g =>
          rw [hv] at hnd
          simp only at hnd
          rw [List.nodup_append] at hnd ⊢
          exact ⟨hnd.1, (List.nodup_cons.1 hnd.2.1).2, fun a ha b hb => hnd.2.2 a ha b (List.mem_cons_of_mem _ hb)⟩
      have hn1 : ∀ l : List OR, (∀ s ∈ l, s ∈ l1 ++ l2) → w.heap.size ∉ l.filterMap (fun r => r.v.ownBlock) := by
        intro l hl hm
        obtain ⟨s, hs, hv⟩ := List.mem_filterMap.1 hm
        exact absurd (hlt s (hl s hs) _ hv) (Nat.lt_irrefl _)
      rw [List.nodup_append] at h12 ⊢
      refine ⟨h12.1, List.nodup_cons.2 ⟨hn1 l2 (fun s hs => by simp [hs]), h12.2.1⟩, fun a ha b hb => ?_⟩
      rcases List.mem_cons.1 hb with rfl | hb
      · intro e2; subst e2; exact hn1 l1 (fun s hs => by simp [hs]) ha
      · exact h12.2.2 a ha b hb
theorem Owns.same (h : Owns w base l) (hg : w.grownBy w' none) : Owns w' base l :=
  ⟨fun s hs => (h.own s hs).kept hg (by cases s.v.ownBlock <;> simp), h.nd⟩
theorem Owns.alloc (h : Owns w base l) (o : Obj) : Owns (w.alloc o) base l := h.same (World.grownBy_alloc w o none)
theorem Owns.drew (h : Owns w base l) : Owns w.drew base l := ⟨fun s hs => (h.own s hs).drew, h.nd⟩
theorem Owns.drewN (h : Owns w base l) (k : Nat) : Owns (w.drewN k) base l := ⟨fun s hs => h.own s hs, h.nd⟩
/-- Empty rows more. -/
theorem Owns.nils (h : Owns w base l) {m : List OR} (hm : ∀ r ∈ m, r.v = .slice none 0 0 ∧ r.n = 0 ∧ r.xs = []) : Owns w base (l ++ m) := by
  refine ⟨fun s hs => ?_, ?_⟩
  · rcases List.mem_append.1 hs with hs | hs
    · exact h.own s hs
    · obtain ⟨e1, e2, e3⟩ := hm s hs
      rw [e1, e2, e3]
      exact World.ownsRow_nil _ _ _ _
  · have : m.filterMap (fun r => r.v.ownBlock) = [] := by
      rw [List.filterMap_eq_nil_iff]
      intro s hs
      rw [(hm s hs).1]; rfl
    rw [List.filterMap_append, this, List.append_nil]
    exact h.nd
/-- One row apart from another. -/
theorem Owns.ne (h : Owns w base (l1 ++ r :: l2)) {s : OR} (hs : s ∈ l1 ++ l2) {g : Nat} (hg : r.v.ownBlock = some g) : s.v.ownBlock ≠ some g := by
  intro e
  have hnd := h.nd
  simp only [List.filterMap_append, List.filterMap_cons, hg] at hnd
  rw [List.nodup_append] at hnd
  rcases List.mem_append.1 hs with hs | hs
  · exact hnd.2.2 g (List.mem_filterMap.2 ⟨s, hs, e⟩) g (by simp) rfl
  · exact (List.nodup_cons.1 hnd.2.1).1 (List.mem_filterMap.2 ⟨s, hs, e⟩)
end

theorem len_flat {α : Type} {f : α → List Value} {k : Nat} (hf : ∀ a, (f a).length = k) : ∀ l : List α, (l.flatMap f).length = l.length * k
  | [] => by simp
  | a :: l => by rw [List.flatMap_cons, List.length_append, hf, len_flat hf l, List.length_cons, Nat.succ_mul]; omega

/-! ### Edits -/
structure EV where
  kind : Int
  line : ByteArray
def EV.cells (e : EV) : List Value := [.int .i64 e.kind, .string e.line]
theorem cells2 {es : List EV} {k : Nat} {e : EV} (hk : es[k]? = some e) : (es.flatMap EV.cells)[k * 2]? = some (.int .i64 e.kind) ∧ (es.flatMap EV.cells)[k * 2 + 1]? = some (.string e.line) := by
  induction es generalizing k with
  | nil => simp at hk
  | cons x xs ih =>
    cases k with
    | zero => simp at hk; subst hk; simp [EV.cells]
    | succ k =>
      simp at hk
      have := ih hk
      simpa [EV.cells, Nat.succ_mul, show k * 2 + 2 + 1 = (k*2+1) + 2 from by omega] using this
theorem rdE_get {w : World} {B n c : Nat} {A : Option Addr} {es : List EV} (h : Rd w B 2 A n c (es.flatMap EV.cells)) {k : Nat} (hk : k < n) :
    ∃ b o u, A = some ⟨b, o, none⟩ ∧ b < B ∧ es[k]? = some u ∧ w.cell? ⟨b, o + k * 2, none⟩ = some (.int .i64 u.kind) ∧ w.cell? ⟨b, o + k * 2 + 1, none⟩ = some (.string u.line) := by
  obtain ⟨b, o, e, hb, hc⟩ := h.at_ (by omega)
  have hl : es.length = n := by
    have h1 := h.len
    have h2 : (es.flatMap EV.cells).length = es.length * 2 := len_flat (f := EV.cells) (k := 2) (fun _ => rfl) es
    omega
  have hg : es[k]? = some es[k] := List.getElem?_eq_getElem (by omega)
  obtain ⟨h0, h1⟩ := cells2 hg
  exact ⟨b, o, es[k], e, hb, hg, hc _ _ h0, hc _ _ h1⟩
theorem rdE_len {w : World} {B n c : Nat} {A : Option Addr} {es : List EV} (h : Rd w B 2 A n c (es.flatMap EV.cells)) : es.length = n := by
  have h1 := h.len
  have h2 : (es.flatMap EV.cells).length = es.length * 2 := len_flat (f := EV.cells) (k := 2) (fun _ => rfl) es
  omega

/-! ### Hunks of edits -/
structure PH where
  at_ : Int
  old : List ByteArray
  new : List ByteArray
def HV.pure (h : HV) : PH := ⟨h.at_, h.old, h.new⟩
structure HS where
  dn : List PH
  cur : Option PH
  at_ : Int
def hstep (s : HS) (e : EV) : HS :=
  if e.kind = 1 then ⟨s.dn ++ s.cur.toList, none, s.at_ + 1⟩
  else if e.kind = 2 then ⟨s.dn, some ⟨(s.cur.getD ⟨s.at_, [], []⟩).at_, (s.cur.getD ⟨s.at_, [], []⟩).old ++ [e.line], (s.cur.getD ⟨s.at_, [], []⟩).new⟩, s.at_ + 1⟩
  else if e.kind = 3 then ⟨s.dn, some ⟨(s.cur.getD ⟨s.at_, [], []⟩).at_, (s.cur.getD ⟨s.at_, [], []⟩).old, (s.cur.getD ⟨s.at_, [], []⟩).new ++ [e.line]⟩, s.at_⟩
  else ⟨s.dn, some (s.cur.getD ⟨s.at_, [], []⟩), s.at_⟩
def hst (es : List EV) : HS := es.foldl hstep ⟨[], none, 0⟩
def hunksL (es : List EV) : List PH := (hst es).dn ++ (hst es).cur.toList

theorem hst_succ {es : List EV} {k : Nat} {e : EV} (hk : es[k]? = some e) : hst (es.take (k + 1)) = hstep (hst (es.take k)) e := by
  rw [List.take_add_one, hk]
  simp [hst, List.foldl_append]
theorem hst_at (es : List EV) : 0 ≤ (hst es).at_ ∧ (hst es).at_ ≤ es.length := by
  unfold hst
  have key : ∀ (es : List EV) (s : HS), 0 ≤ s.at_ → 0 ≤ (es.foldl hstep s).at_ ∧ (es.foldl hstep s).at_ ≤ s.at_ + es.length := by
    intro es
    induction es with
    | nil => intro s h; simp; omega
    | cons e es ih =>
      intro s h
      have h1 : 0 ≤ (hstep s e).at_ ∧ (hstep s e).at_ ≤ s.at_ + 1 := by
        unfold hstep; split
        · simp only; omega
        · split
          · simp only; omega
          · split
            · simp only; omega
            · simp only; omega
      have := ih (hstep s e) h1.1
      simp only [List.foldl_cons, List.length_cons]
      omega
  have := key es ⟨[], none, 0⟩ (by decide)
  simpa using this
def hsz (s : HS) : Nat := s.dn.length + s.cur.toList.length
/-- No more lines, and no more hunks, than edits. -/
theorem hst_few (es : List EV) : (∀ h ∈ hunksL es, h.old.length ≤ es.length ∧ h.new.length ≤ es.length ∧ 0 ≤ h.at_ ∧ h.at_ ≤ es.length) ∧ (hunksL es).length ≤ es.length := by
  have key : ∀ (es : List EV) (s : HS) (n : Nat), 0 ≤ s.at_ → s.at_ ≤ n → (∀ h ∈ s.dn ++ s.cur.toList, h.old.length ≤ n ∧ h.new.length ≤ n ∧ 0 ≤ h.at_ ∧ h.at_ ≤ n) → (s.dn ++ s.cur.toList).length ≤ n →
      (∀ h ∈ (es.foldl hstep s).dn ++ (es.foldl hstep s).cur.toList, h.old.length ≤ n + es.length ∧ h.new.length ≤ n + es.length ∧ 0 ≤ h.at_ ∧ h.at_ ≤ ((n + es.length : Nat) : Int)) ∧ ((es.foldl hstep s).dn ++ (es.foldl hstep s).cur.toList).length ≤ n + es.length := by
    intro es
    induction es with
    | nil => intro s n h0 h1 h2 h3; exact ⟨h2, h3⟩
    | cons e es ih =>
      intro s n h0 h1 h2 h3
      have hc : ∀ h ∈ s.cur.toList, h.old.length ≤ n ∧ h.new.length ≤ n ∧ 0 ≤ h.at_ ∧ h.at_ ≤ n := fun h hh => h2 h (by simp only [List.mem_append]; exact .inr hh)
      have hd : ∀ h ∈ s.dn, h.old.length ≤ n ∧ h.new.length ≤ n ∧ 0 ≤ h.at_ ∧ h.at_ ≤ n := fun h hh => h2 h (by simp only [List.mem_append]; exact .inl hh)
      have hg : (s.cur.getD ⟨s.at_, [], []⟩).old.length ≤ n ∧ (s.cur.getD ⟨s.at_, [], []⟩).new.length ≤ n ∧ 0 ≤ (s.cur.getD ⟨s.at_, [], []⟩).at_ ∧ (s.cur.getD ⟨s.at_, [], []⟩).at_ ≤ n := by
        cases hcur : s.cur with
        | none => simp; omega
        | some c => exact hc c (by simp [hcur])
      have hlen : s.dn.length ≤ n := by rw [List.length_append] at h3; omega
      have := ih (hstep s e) (n + 1) (by unfold hstep; (repeat' split) <;> simp only <;> omega) (by unfold hstep; (repeat' split) <;> simp only <;> omega) ?_ ?_
      · simp only [List.foldl_cons, List.length_cons]
        rw [show n + (es.length + 1) = n + 1 + es.length from by omega]
        exact this
      · intro h hh
        unfold hstep at hh
        split at hh
        · simp only [Option.toList_none, List.append_nil] at hh
          have := h2 h hh
          omega
        · split at hh
          · simp only [Option.toList_some, List.mem_append, List.mem_singleton] at hh
            rcases hh with hh | rfl
            · have := hd h hh; omega
            · simp only [List.length_append, List.length_singleton]; omega
          · split at hh
            · simp only [Option.toList_some, List.mem_append, List.mem_singleton] at hh
              rcases hh with hh | rfl
              · have := hd h hh; omega
              · simp only [List.length_append, List.length_singleton]; omega
            · simp only [Option.toList_some, List.mem_append, List.mem_singleton] at hh
              rcases hh with hh | rfl
              · have := hd h hh; omega
              · omega
      · unfold hstep
        split
        · simp only [Option.toList_none, List.append_nil]; omega
        · split
          · simp only [Option.toList_some, List.length_append, List.length_singleton]; omega
          · split
            · simp only [Option.toList_some, List.length_append, List.length_singleton]; omega
            · simp only [Option.toList_some, List.length_append, List.length_singleton]; omega
  have := key es ⟨[], none, 0⟩ 0 (by decide) (by decide) (by simp) (by simp)
  simpa [hunksL, hst] using this

/-! ### Hunks that are being built -/
def HV.rows (h : HV) : List OR := [⟨9, 1, .slice h.oA h.old.length h.oc, h.old.length, h.old.map .string⟩, ⟨9, 1, .slice h.nA h.new.length h.nc, h.new.length, h.new.map .string⟩]
def hrow (v : Value) (hs : List HV) : OR := ⟨29, 3, v, hs.length, hs.flatMap HV.cells⟩
/-- The list and all its parts are the call's own. -/
def HB (w : World) (base : Nat) (v : Value) (hs : List HV) : Prop := Owns w base (hrow v hs :: hs.flatMap HV.rows)

section
variable {w w' : World} {base : Nat} {v : Value} {hs : List HV} {h : HV}
theorem HB.nil (w : World) (base : Nat) : HB w base (.slice none 0 0) [] := ⟨fun r hr => by obtain rfl := List.mem_singleton.1 hr; exact World.ownsRow_nil _ _ _ _, by simp [hrow, Value.ownBlock]⟩
theorem HB.row (h : HB w base v hs) : w.ownsRow base 29 3 v hs.length (hs.flatMap HV.cells) := h.own (hrow v hs) (by simp)
theorem len3 (hs : List HV) : (hs.flatMap HV.cells).length = hs.length * 3 := len_flat (f := HV.cells) (k := 3) (fun _ => rfl) hs

/-- A new hunk at the end. -/
theorem HB.push (hb : HB w base v hs) {v' : Value} {t : Int} (ho : w'.ownsRow base 29 3 v' (hs.length + 1) (hs.flatMap HV.cells ++ [.int .i64 t, .slice none 0 0, .slice none 0 0]))
    (hg : w.grownBy w' v.ownBlock) (hat : v'.ownBlock = v.ownBlock ∨ v'.ownBlock = some w.heap.size) : HB w' base v' (hs ++ [⟨t, none, 0, [], none, 0, []⟩]) := by
  have h1 : Owns w' base (hrow v' (hs ++ [⟨t, none, 0, [], none, 0, []⟩]) :: hs.flatMap HV.rows) :=
    Owns.turn (l1 := []) (r := hrow v hs) (r' := hrow v' (hs ++ [(⟨t, none, 0, [], none, 0, []⟩ : HV)])) hb hg (by simpa [hrow, HV.cells, List.flatMap_append] using ho) hat
  have h2 := h1.nils (m := HV.rows ⟨t, none, 0, [], none, 0, []⟩) (by simp [HV.rows])
  unfold HB
  rw [List.flatMap_append]
  simpa [List.flatMap_cons] using h2

theorem HB.last (hb : HB w base v (hs ++ [h])) : ∃ g c, v = .slice (some ⟨g, 0, none⟩) (hs.length + 1) c ∧ base ≤ g ∧ g < w.heap.size ∧
    w.cell? ⟨g, hs.length * 3, none⟩ = some (.int .i64 h.at_) ∧ w.cell? ⟨g, hs.length * 3 + 1, none⟩ = some (.slice h.oA h.old.length h.oc) ∧ w.cell? ⟨g, hs.length * 3 + 2, none⟩ = some (.slice h.nA h.new.length h.nc) ∧
    w.frozen? ⟨g, hs.length * 3 + 1, none⟩ = false ∧ w.frozen? ⟨g, hs.length * 3 + 2, none⟩ = false ∧
    w.ownsRow base 9 1 (.slice h.oA h.old.length h.oc) h.old.length (h.old.map .string) ∧ w.ownsRow base 9 1 (.slice h.nA h.new.length h.nc) h.new.length (h.new.map .string) ∧
    (Value.slice h.oA h.old.length h.oc).ownBlock ≠ some g ∧ (Value.slice h.nA h.new.length h.nc).ownBlock ≠ some g := by
  have hr := hb.row
  rw [List.length_append, List.length_singleton] at hr
  obtain ⟨g, c, rfl, hbg, hlt⟩ := hr.form (by omega)
  obtain ⟨c0, c1, c2⟩ := cells3 (hs := hs ++ [h]) (k := hs.length) (h := h) (by simp)
  have m1 : (⟨9, 1, .slice h.oA h.old.length h.oc, h.old.length, h.old.map .string⟩ : OR) ∈ (hs ++ [h]).flatMap HV.rows := by simp [HV.rows]
  have m2 : (⟨9, 1, .slice h.nA h.new.length h.nc, h.new.length, h.new.map .string⟩ : OR) ∈ (hs ++ [h]).flatMap HV.rows := by simp [HV.rows]
  refine ⟨g, c, rfl, hbg, hlt, ?_, ?_, ?_, hr.frozenAt _, hr.frozenAt _, ?_, ?_, ?_, ?_⟩
  · rw [hr.cellAt _ (by omega), c0]
  · rw [hr.cellAt _ (by omega), c1]
  · rw [hr.cellAt _ (by omega), c2]
  · exact hb.own _ (List.mem_cons_of_mem _ m1)
  · exact hb.own _ (List.mem_cons_of_mem _ m2)
  · exact Owns.ne (l1 := []) hb (by simpa using m1) rfl
  · exact Owns.ne (l1 := []) hb (by simpa using m2) rfl

theorem set_cells (hs : List HV) (h h' : HV) (j : Nat) (u : Value) (hj : j < 3) (he : h.cells.set j u = h'.cells) :
    ((hs ++ [h]).flatMap HV.cells).set (hs.length * 3 + j) u = (hs ++ [h']).flatMap HV.cells := by
  rw [List.flatMap_append, List.flatMap_append, List.set_append_right _ _ (by rw [len3]; omega), len3]
  simp only [List.flatMap_cons, List.flatMap_nil, List.append_nil, Nat.add_sub_cancel_left, he]

/-- A line more among the old ones: the append, and then the store. -/
theorem HB.old (hb : HB w base v (hs ++ [h])) {g c : Nat} (hv : v = .slice (some ⟨g, 0, none⟩) (hs.length + 1) c) {A' : Option Addr} {c' : Nat} {x : ByteArray}
    (ho : w'.ownsRow base 9 1 (.slice A' (h.old.length + 1) c') (h.old.length + 1) (h.old.map .string ++ [.string x])) (hg : w.grownBy w' (Value.slice h.oA h.old.length h.oc).ownBlock)
    (hat : (Value.slice A' (h.old.length + 1) c').ownBlock = (Value.slice h.oA h.old.length h.oc).ownBlock ∨ (Value.slice A' (h.old.length + 1) c').ownBlock = some w.heap.size) :
    HB (w'.setCell ⟨g, hs.length * 3 + 1, none⟩ (.slice A' (h.old.length + 1) c')) base v (hs ++ [{ h with oA := A', oc := c', old := h.old ++ [x] }]) := by
  subst hv
  have h1 := Owns.turn (l1 := hrow (.slice (some ⟨g, 0, none⟩) (hs.length + 1) c) (hs ++ [h]) :: hs.flatMap HV.rows) (r := ⟨9, 1, .slice h.oA h.old.length h.oc, h.old.length, h.old.map .string⟩)
    (l2 := [⟨9, 1, .slice h.nA h.new.length h.nc, h.new.length, h.new.map .string⟩]) (r' := ⟨9, 1, .slice A' (h.old.length + 1) c', h.old.length + 1, h.old.map .string ++ [.string x]⟩)
    (by unfold HB at hb; rw [List.flatMap_append] at hb; simpa [HV.rows] using hb) hg ho hat
  have hrow' := h1.own (hrow (.slice (some ⟨g, 0, none⟩) (hs.length + 1) c) (hs ++ [h])) (by simp)
  have e : (hs ++ [h]).length = hs.length + 1 := by simp
  simp only [hrow, e] at hrow'
  have hs1 := World.ownsRow.stored (w := w') (g := g) (n := hs.length + 1) (cap := c) hrow' (hs.length * 3 + 1) (.slice A' (h.old.length + 1) c')
  have h2 := Owns.turn (l1 := []) (r := hrow (.slice (some ⟨g, 0, none⟩) (hs.length + 1) c) (hs ++ [h]))
    (r' := hrow (.slice (some ⟨g, 0, none⟩) (hs.length + 1) c) (hs ++ [{ h with oA := A', oc := c', old := h.old ++ [x] }])) h1 hs1.2
    (by have := hs1.1
        rw [set_cells hs h { h with oA := A', oc := c', old := h.old ++ [x] } 1 _ (by omega) (by simp [HV.cells])] at this
        simpa [hrow] using this) (.inl rfl)
  unfold HB
  rw [List.flatMap_append]
  simpa [HV.rows] using h2
theorem HB.new (hb : HB w base v (hs ++ [h])) {g c : Nat} (hv : v = .slice (some ⟨g, 0, none⟩) (hs.length + 1) c) {A' : Option Addr} {c' : Nat} {x : ByteArray}
    (ho : w'.ownsRow base 9 1 (.slice A' (h.new.length + 1) c') (h.new.length + 1) (h.new.map .string ++ [.string x])) (hg : w.grownBy w' (Value.slice h.nA h.new.length h.nc).ownBlock)
    (hat : (Value.slice A' (h.new.length + 1) c').ownBlock = (Value.slice h.nA h.new.length h.nc).ownBlock ∨ (Value.slice A' (h.new.length + 1) c').ownBlock = some w.heap.size) :
    HB (w'.setCell ⟨g, hs.length * 3 + 2, none⟩ (.slice A' (h.new.length + 1) c')) base v (hs ++ [{ h with nA := A', nc := c', new := h.new ++ [x] }]) := by
  subst hv
  have h1 := Owns.turn (l1 := hrow (.slice (some ⟨g, 0, none⟩) (hs.length + 1) c) (hs ++ [h]) :: hs.flatMap HV.rows ++ [⟨9, 1, .slice h.oA h.old.length h.oc, h.old.length, h.old.map .string⟩]) (r := ⟨9, 1, .slice h.nA h.new.length h.nc, h.new.length, h.new.map .string⟩)
    (l2 := []) (r' := ⟨9, 1, .slice A' (h.new.length + 1) c', h.new.length + 1, h.new.map .string ++ [.string x]⟩)
    (by unfold HB at hb; rw [List.flatMap_append] at hb; simpa [HV.rows] using hb) hg ho hat
  have hrow' := h1.own (hrow (.slice (some ⟨g, 0, none⟩) (hs.length + 1) c) (hs ++ [h])) (by simp)
  have e : (hs ++ [h]).length = hs.length + 1 := by simp
  simp only [hrow, e] at hrow'
  have hs1 := World.ownsRow.stored (w := w') (g := g) (n := hs.length + 1) (cap := c) hrow' (hs.length * 3 + 2) (.slice A' (h.new.length + 1) c')
  have h2 := Owns.turn (l1 := []) (r := hrow (.slice (some ⟨g, 0, none⟩) (hs.length + 1) c) (hs ++ [h]))
    (r' := hrow (.slice (some ⟨g, 0, none⟩) (hs.length + 1) c) (hs ++ [{ h with nA := A', nc := c', new := h.new ++ [x] }])) h1 hs1.2
    (by have := hs1.1
        rw [set_cells hs h { h with nA := A', nc := c', new := h.new ++ [x] } 2 _ (by omega) (by simp [HV.cells])] at this
        simpa [hrow] using this) (.inl rfl)
  unfold HB
  rw [List.flatMap_append]
  simpa [HV.rows] using h2
/-- Done: they read as hunks. -/
theorem HB.rdH (hb : HB w base v hs) (hp : ∀ h ∈ hs, h.old.length ≤ 70368744177664 ∧ h.new.length ≤ 70368744177664 ∧ -9223372036854775808 ≤ h.at_ ∧ h.at_ ≤ 9223372036854775807) :
    ∃ A c, v = .slice A hs.length c ∧ RdH w w.heap.size A hs.length c hs := by
  obtain ⟨A, c, rfl, hc⟩ := ownsRow_cap hb.row
  refine ⟨A, c, rfl, ⟨Rd.of_own hb.row hc, rfl, fun h hh => ?_⟩⟩
  have m1 : (⟨9, 1, .slice h.oA h.old.length h.oc, h.old.length, h.old.map .string⟩ : OR) ∈ hs.flatMap HV.rows := List.mem_flatMap.2 ⟨h, hh, by simp [HV.rows]⟩
  have m2 : (⟨9, 1, .slice h.nA h.new.length h.nc, h.new.length, h.new.map .string⟩ : OR) ∈ hs.flatMap HV.rows := List.mem_flatMap.2 ⟨h, hh, by simp [HV.rows]⟩
  have o1 := hb.own _ (List.mem_cons_of_mem _ m1)
  have o2 := hb.own _ (List.mem_cons_of_mem _ m2)
  obtain ⟨A1, c1, e1, k1⟩ := ownsRow_cap o1
  obtain ⟨A2, c2, e2, k2⟩ := ownsRow_cap o2
  simp only at o1 o2 e1 e2
  cases e1; cases e2
  obtain ⟨p1, p2, p3, p4⟩ := hp h hh
  exact ⟨Rd.of_own o1 k1, Rd.of_own o2 k2, p1, p2, p3, p4⟩
end
end Go.Proofs.Ytabiegbbbljhlaa
