/- Sets of numbers in maps; the keys of one, sorted; rows cut. -/
import Derived.Test.YtnkboccngialiaaM7
import Derived.Test.YtnkboccngialiaaM5
namespace Go.Proofs.Ytnkboccngialiaa
open Go.RowKit Go.Maps Go.Sort Go.Shelf

/-- A map that is a set of numbers. -/
structure SetIs (w : World) (b : Nat) (L : List Int) (D : DataW Value) : Prop where
  own : w.ownsMap Try.prog 3 (plainElem Try.prog 4) b L.length D
  at_ : ∀ x, D.atKey (.int .i64 x) (.lit (.bool false)) = .lit (.bool (decide (x ∈ L)))
  has : ∀ x, Maps.has D (.int .i64 x) = decide (x ∈ L)
theorem int_ne_lit {x y : Int} (h : x ≠ y) : (Lit.int .i64 x) ≠ .int .i64 y := fun e => h (by injection e)
theorem SetIs.start (w : World) : SetIs (w.alloc (.map #[] 0)) w.heap.size [] (.map []) :=
  ⟨World.ownsMap_made _ _ _ _, fun x => by simp [DataW.atKey], fun x => rfl⟩
theorem SetIs.put {w w' : World} {b : Nat} {L L' : List Int} {D : DataW Value} {k : Int} (h : SetIs w b L D) (hk : I64 k) (hown : w'.ownsMap Try.prog 3 (plainElem Try.prog 4) b (L.length + 1) (D.put (.int .i64 k) (.lit (.bool true))))
    (hL : ∀ x, x ∈ L' ↔ x ∈ L ∨ x = k) (hl : L'.length = L.length + 1) : SetIs w' b L' (D.put (.int .i64 k) (.lit (.bool true))) := by
  refine ⟨by rw [hl]; exact hown, fun x => ?_, fun x => ?_⟩
  · by_cases e : x = k
    · subst e
      rw [Maps.atKey_put_same h.own.isMap (K3.key (key3 hk)), decide_eq_true ((hL x).2 (.inr rfl))]
    · rw [Maps.atKey_put_other (int_ne_lit e), h.at_]
      congr 2; exact decide_eq_decide.2 (by rw [hL]; simp [e])
  · by_cases e : x = k
    · subst e
      rw [Maps.has_put_same h.own.isMap (K3.key (key3 hk)), decide_eq_true ((hL x).2 (.inr rfl))]
    · rw [Maps.has_put_other (int_ne_lit e), h.has]
      exact decide_eq_decide.2 (by rw [hL]; simp [e])
theorem SetIs.kept {w w' : World} {b : Nat} {L : List Int} {D : DataW Value} {row : Option Nat} (h : SetIs w b L D) (hg : w.grownBy w' row) (hne : some b ≠ row) : SetIs w' b L D :=
  ⟨h.own.kept hg hne, h.at_, h.has⟩
theorem SetIs.same {w : World} {b : Nat} {L L' : List Int} {D : DataW Value} (h : SetIs w b L D) (hL : ∀ x, x ∈ L' ↔ x ∈ L) (hl : L'.length = L.length) : SetIs w b L' D :=
  ⟨by rw [hl]; exact h.own, fun x => by rw [h.at_]; congr 2; exact decide_eq_decide.2 (hL x).symm, fun x => by rw [h.has]; exact decide_eq_decide.2 (hL x).symm⟩
theorem bool_elem (x : Bool) : plainElem (H := Value) Try.prog 4 (.bool x) = some (.lit (.bool x), []) := plainElem_bool Try.underlying4 x
theorem bool_elem_inv {v : Value} {x : Bool} {ps : List MemPlace} (h : plainElem (H := Value) Try.prog 4 v = some (.lit (.bool x), ps)) : v = .bool x := by
  unfold plainElem at h
  rw [Try.underlying4] at h
  cases v <;> simp at h
  rw [h.1]
/-- m[x] -/
theorem SetIs.look {w : World} {b : Nat} {L : List Int} {D : DataW Value} (h : SetIs w b L D) {x : Int} (hx : I64 x) : (Instr.lookup 57 (.map (some b)) (.int .i64 x) false).run Try.prog w = .ok (.bool (decide (x ∈ L))) w := by
  obtain ⟨v, ps, hrun, hv⟩ := h.own.lookup K3 Try.underlying57 (Try.zeroValue4 w) (bool_elem false) (key3 hx)
  rw [h.at_] at hv
  rw [bool_elem_inv hv] at hrun
  exact hrun
theorem SetIs.perm {w : World} {b : Nat} {L ss : List Int} {D : DataW Value} (h : SetIs w b L D) (hL : L.Nodup) (hs : ss.Perm (intKeys D)) : ss.Perm L := by
  obtain ⟨es, rfl, hp⟩ := h.own.tidy K3
  refine hs.trans (List.Perm.symm (perm_intKeys hp (fun p hp' => ?_) hL fun x => ?_))
  · obtain ⟨es', clock, _, Ft, _, hD⟩ := h.own
    have hk := Maps.fit_keys Ft
    injection hD with hD
    have : p ∈ es'.toList.map (WideElems.rg Try.prog 3 (plainElem Try.prog 4)) := by
      rw [hD] at hp'
      exact (Go.WideShapes.sorted_perm _).mem_iff.1 hp'
    obtain ⟨v, hv⟩ := hk p this
    obtain ⟨x, _, e, _⟩ := Maps.keyOf_i64 Try.underlying3 hv
    exact ⟨x, e⟩
  · rw [h.has]; simp

theorem keys_c (mb : Option Nat) (W : World) : Calls Try.prog 46 #[.map mb] W fun e w' => e = .returned (.func (.func 61) #[] #[.pointer (some ⟨W.heap.size, 0, none⟩)]) ∧ w' = W.alloc (.cells #[.map mb] 57) :=
  callsIn_wide.1 (AnyZI.keys_in Try.keys Fence.wide 5 trivial rfl mb W)
theorem sorts_c (m : Nat) : AnyZI.SortsIn Try.prog Try.sorted_ren Fence.wide m :=
  ⟨fun blk off cap ss W hH hblk hsz => callsIn_wide.2 (AnyM.slices_Sort_int Try.sort blk off cap ss W hH hblk hsz),
   fun p cap W => callsIn_wide.2 (AnyM.slices_Sort_int_none Try.sort p cap W)⟩
set_option maxHeartbeats 1000000 in
theorem sorted_c (b nn : Nat) (D0 : DataW Value) (R : Value → Option (DataW Value × List MemPlace)) (w : World) (hown : w.ownsMap Try.prog 3 R b nn D0) (hmax : Maps.size D0 ≤ maxLen) (hbytes : Maps.size D0 * 8 ≤ 140737488355328) :
    Calls Try.prog 45 #[.func (.func 61) #[] #[.pointer (some ⟨w.heap.size, 0, none⟩)]] (w.alloc (.cells #[.map (some b)] 57)) fun e w' => ∃ (v : Value) (ss : List Int), e = .returned v ∧ ss.Perm (intKeys D0) ∧
      w'.ownsRow w.heap.size 3 1 v ss.length ((ss.mergeSort (fun x y => decide (x ≤ y))).map encZ) ∧ Below w.heap.size w w' := by
  have hbl := hown.lt
  have hseq : SeqGives Fence.wide 2 Try.prog 61 #[.pointer (some ⟨w.heap.size, 0, none⟩)] encZ (fun ss => ss.Perm (intKeys D0)) (Maps.size D0) (w.alloc (.cells #[.map (some b)] 57)) :=
    AnyZI.keys_gives (ρ := Try.keys_ren) { Try.keys with } Fence.wide _ trivial rfl (by omega) w.heap.size b nn D0 _ (by simp) (by simp) (by
      obtain ⟨es, clock, hb, Ft, hs, hD⟩ := hown
      exact ⟨es, clock, (Below.heap_alloc _ _ b hbl).trans hb, Ft, hs, hD⟩)
  have cS := AnyZI.sorted_in Try.sorted Fence.wide 5 trivial trivial trivial trivial rfl (by omega) (sorts_c _) (enters_of Try.func41 (by kernel_rfl) rfl) 61 #[.pointer (some ⟨w.heap.size, 0, none⟩)] trivial (enters_of Try.func61 (by kernel_rfl) rfl) _ _ hmax hbytes _ hseq
  change CallsIn _ _ Try.prog 45 _ _ _ at cS
  refine Calls.mono (callsIn_wide.1 cS) ?_
  rintro e w' ⟨v, ss, rfl, hS, hrow, hnil, hb⟩
  exact ⟨v, ss, rfl, hS, ownsRow_base_a hrow (by simp), ((Below.refl _ w).alloc (Nat.le_refl _) _).trans (hb.mono (by simp))⟩

theorem ownsRow_cut {w : World} {base : Nat} {e : TypeId} {g n cap k : Nat} {xs : List Value} (h : w.ownsRow base e 1 (.slice (some ⟨g, 0, none⟩) n cap) n xs) (hk : k ≤ n) :
    w.ownsRow base e 1 (.slice (some ⟨g, 0, none⟩) k cap) k (xs.take k) := by
  rcases h.2 with ⟨h', _⟩ | ⟨g', cap', cur, h', hb, hg, hnc, hcm, hcs, ht⟩
  · simp at h'
  · simp only [Value.slice.injEq, Option.some.injEq, Addr.mk.injEq, and_true, true_and] at h'
    obtain ⟨rfl, rfl⟩ := h'
    have hl := h.1
    refine ⟨by rw [List.length_take]; omega, .inr ⟨g, cap, cur, rfl, hb, hg, by omega, hcm, hcs, ?_⟩⟩
    rw [← ht, List.take_take]; congr 1; omega
end Go.Proofs.Ytnkboccngialiaa
