/- The engine, for a region whose last operations write what the earlier ones have read: behind those the class of worlds is no longer asked for. Effects: a store, a slice of one place. -/
import Derived.Test.YtahlfafcjjkliaaGreatDoorBase
import Derived.Laws.OwnMore
import Derived.Laws.IdiomCopy
namespace Go.Proofs.YtahlfafcjjkliaaGreatDoor
open Go.RowKit

section
variable {P : Program} {ops : Array Oper} {S : World → Prop} {F : List Nat}

def wpAnyL (P : Program) (ops : Array Oper) (Q : Exit → Act → World → Prop) (S : World → Prop) (F : List Nat) : Nat → Array Bool → Act → World → Prop
  | 0, listed, a, w => Region.ready .any ops listed = [] ∧ Q .normal a w
  | fuel + 1, listed, a, w =>
    (Region.ready .any ops listed = [] → Q .normal a w) ∧
    ∀ i ∈ Region.ready .any ops listed, wpOp P ops Q i (fun a' w' => (i ∉ F → S w') ∧ wpAnyL P ops Q S F fuel (listed.setIfInBounds i true) a' w') a w

variable {Q : Exit → Act → World → Prop}

theorem wpAny_of_late : ∀ (fuel : Nat) (listed : Array Bool) (a : Act) (w : World), wpAnyL P ops Q S F fuel listed a w → wpAny P .any ops Q fuel listed a w
  | 0, _, _, _, h => h
  | fuel + 1, _, _, _, h => ⟨h.1, fun i hi => wpOp_mono (fun a' w' h' => wpAny_of_late fuel _ a' w' h'.2) (h.2 i hi)⟩

/-- Whoever has come up, all that it waits for has come up. -/
def Closed (ops : Array Oper) (listed : Array Bool) : Prop :=
  ∀ j oj, ops[j]? = some oj → listed.getD j true = true → ∀ e ∈ oj.after, Region.binds .any e = true → listed.getD e.on false = true

theorem Closed.set {listed : Array Bool} (h : Closed ops listed) {j : Nat} (hj : j ∈ Region.ready .any ops listed) : Closed ops (listed.setIfInBounds j true) := by
  intro k ok hk hl e he hb
  have key : listed.getD e.on false = true := by
    by_cases hkj : j = k
    · subst hkj
      obtain ⟨_, o, ho, hall⟩ := mem_ready.1 hj
      rw [hk] at ho
      cases ho
      exact hall e he hb
    · rw [getD_set_ne true hkj] at hl
      exact h k ok hk hl e he hb
  by_cases hej : j = e.on
  · subst hej
    have hsz : e.on < listed.size := by
      rcases Nat.lt_or_ge e.on listed.size with h' | h'
      · exact h'
      · simp [Array.getElem?_eq_none h'] at key
    simp [hsz]
  · rw [getD_set_ne false hej]
    exact key

/-- The late ones come last. -/
def LateOk (ops : Array Oper) (F : List Nat) : Prop :=
  ∀ listed, Closed ops listed → ∀ j ∈ F, j ∈ Region.ready .any ops listed → ∀ i, i < ops.size → i ∉ F → listed.getD i true = true

theorem wpAnyL_first {i : Nat} {oi : Oper} {v : Value} (hi : ops[i]? = some oi) (hsel : ∀ (j : Nat) (o : Oper) cs b, ops[j]? = some o → o.op ≠ .select cs b)
    (hQ : ∀ c a w, Q (.panic c) (a.put oi.dst v) w → Q (.panic c) a w) (hF : LateOk ops F) (hiF : i ∉ F) :
    ∀ (fuel : Nat) (listed : Array Bool) (a : Act) (w : World), Closed ops listed →
      (∀ j oj, ops[j]? = some oj → j ≠ i → listed.getD j true = false → (∀ e ∈ oj.after, Region.binds .any e = true → e.on ≠ i) → oi.apart ops oj = true) →
      i ∈ Region.ready .any ops listed → YieldsIf P ops S oi v a → S w →
      wpAnyL P ops Q S F fuel (listed.setIfInBounds i true) (a.put oi.dst v) w → wpAnyL P ops Q S F (fuel + 1) listed a w := by
  intro fuel
  induction fuel with
  | zero =>
    intro listed a w _ hfree hr hy hS H
    refine ⟨fun h => (by rw [h] at hr; cases hr), fun j hj => ?_⟩
    by_cases hji : j = i
    · subst hji; exact hy.wpOp hi hS ⟨fun _ => hS, H⟩
    · have := ready_mono hj hji
      rw [H.1] at this
      cases this
  | succ fuel ih =>
    intro listed a w hcl hfree hr hy hS H
    refine ⟨fun h => (by rw [h] at hr; cases hr), fun j hj => ?_⟩
    by_cases hji : j = i
    · subst hji; exact hy.wpOp hi hS ⟨fun _ => hS, H⟩
    · have hjF : j ∉ F := fun hjF => by
        have h1 := hF listed hcl j hjF hj i (Array.getElem?_eq_some_iff.1 hi).1 hiF
        rw [(mem_ready.1 hr).1] at h1
        cases h1
      have h1 := H.2 j (ready_mono hj hji)
      obtain ⟨hjun, oj, hoj, hall⟩ := mem_ready.1 hj
      have hnot : ∀ e ∈ oj.after, Region.binds .any e = true → e.on ≠ i := fun e he hb heq => by
        have h1 := hall e he hb
        have h0 := (mem_ready.1 hr).1
        rw [heq] at h1
        rcases Nat.lt_or_ge i listed.size with h' | h'
        · simp [h'] at h0 h1; rw [h0] at h1; cases h1
        · simp [Array.getElem?_eq_none h'] at h1
      have h2 := wpOp_putIf hoj (hfree j oj hoj hji hjun hnot) (fun cs b => hsel i oi cs b hi) (fun cs b => hsel j oj cs b hoj) hQ hy h1
      have hfree' : ∀ k ok, ops[k]? = some ok → k ≠ i → (listed.setIfInBounds j true).getD k true = false →
          (∀ e ∈ ok.after, Region.binds .any e = true → e.on ≠ i) → oi.apart ops ok = true := fun k ok hk hki hun hno => by
        refine hfree k ok hk hki ?_ hno
        by_cases hjk : j = k
        · subst hjk; exact hjun
        · rw [getD_set_ne true hjk] at hun; exact hun
      refine wpOp_mono (fun a' w' h3 => ⟨h3.2.1, ih (listed.setIfInBounds j true) a' w' (hcl.set hj) hfree' (ready_mono hr (Ne.symm hji)) h3.1 (h3.2.1 hjF) ?_⟩) h2
      rw [Array.setIfInBounds_comm _ _ hji]
      exact h3.2.2

theorem wpAnyL_done {listed : Array Bool} {a : Act} {w : World} (hr : Region.ready .any ops listed = []) (h : Q .normal a w) :
    ∀ fuel, wpAnyL P ops Q S F fuel listed a w
  | 0 => ⟨hr, h⟩
  | _ + 1 => ⟨fun _ => h, by rw [hr]; simp⟩

/-- The late part. -/
theorem late_sound {Qn : Act → World → Prop} (hQ : ∀ a w, Qn a w → Q .normal a w) :
    ∀ (π : List (Bool × Nat)) (listed : Array Bool) (fuel : Nat) (a : Act) (w : World), planOk ops π listed = true → π.length ≤ fuel → (∀ x ∈ π, x.1 = false ∧ x.2 ∈ F) →
      wl P ops (fun _ => True) Qn π a w → wpAnyL P ops Q S F fuel listed a w
  | [], listed, fuel, a, w, hp, _, _, h => wpAnyL_done (by simpa [planOk] using hp) (hQ _ _ h) fuel
  | (q, i) :: r, listed, fuel, a, w, hp, hf, hl, h => by
    obtain ⟨fuel, rfl⟩ : ∃ k, fuel = k + 1 := ⟨fuel - 1, by simp at hf; omega⟩
    simp only [List.length_cons, Nat.add_le_add_iff_right] at hf
    obtain ⟨h0, hiF⟩ := hl (q, i) (by simp)
    simp only at h0 hiF
    subst h0
    have hl' : ∀ x ∈ r, x.1 = false ∧ x.2 ∈ F := fun x hx => hl x (by simp [hx])
    simp only [wl] at h
    cases ho : ops[i]? with
    | none => simp only [ho] at h
    | some o =>
      simp only [ho] at h
      simp only [planOk, Bool.and_eq_true, beq_iff_eq] at hp
      obtain ⟨p1, p2⟩ := hp
      refine ⟨fun h0 => (by rw [p1] at h0; cases h0), ?_⟩
      rw [p1]
      intro j hj
      obtain rfl : j = i := by simpa using hj
      unfold wpOp
      simp only [ho]
      by_cases hw : Region.wanted o (yielded ops a.tmps) = true
      · rw [if_pos hw]
        rw [if_pos hw] at h
        simp only [Bool.false_eq_true, if_false] at h
        exact .inl (wp_monoQ (fun a' w' hh => ⟨fun hn => absurd hiF hn, late_sound hQ r _ fuel a' w' p2 hf hl' hh.2⟩) (fun _ _ _ hh => hh.elim) h)
      · rw [if_neg hw]
        rw [if_neg hw] at h
        exact ⟨fun hn => absurd hiF hn, late_sound hQ r _ fuel _ w p2 hf hl' h⟩

theorem early_sound {Qn : Act → World → Prop} (hs : Region.noSelect ops = true) (hP : ∀ c a w, ¬ Q (.panic c) a w) (hF : LateOk ops F) (ρ : List (Bool × Nat)) (hρ : ∀ x ∈ ρ, x.1 = false ∧ x.2 ∈ F)
    (hQ : ∀ a w, Qn a w → Q .normal a w) :
    ∀ (π : List (Bool × Nat)) (listed : Array Bool) (fuel : Nat) (a : Act) (w : World), planOk ops (π ++ ρ) listed = true → (π ++ ρ).length ≤ fuel → (∀ x ∈ π, x.2 ∉ F) → Closed ops listed → S w →
      wl P ops S (fun a w => wl P ops (fun _ => True) Qn ρ a w) π a w → wpAnyL P ops Q S F fuel listed a w
  | [], listed, fuel, a, w, hp, hf, _, _, _, h => late_sound hQ ρ listed fuel a w (by simpa using hp) (by simpa using hf) hρ h
  | (q, i) :: r, listed, fuel, a, w, hp, hf, hn, hcl, hS, h => by
    obtain ⟨fuel, rfl⟩ : ∃ k, fuel = k + 1 := ⟨fuel - 1, by simp at hf; omega⟩
    simp only [List.cons_append, List.length_cons, Nat.add_le_add_iff_right] at hf
    have hiF : i ∉ F := hn (q, i) (by simp)
    have hn' : ∀ x ∈ r, x.2 ∉ F := fun x hx => hn x (by simp [hx])
    simp only [wl] at h
    cases ho : ops[i]? with
    | none => simp only [ho] at h
    | some o =>
      simp only [ho] at h
      cases q with
      | true =>
        simp only [List.cons_append, planOk, Bool.and_eq_true] at hp
        obtain ⟨⟨p1, p2⟩, p3⟩ := hp
        have hri : i ∈ Region.ready .any ops listed := by simpa using p2
        by_cases hw : Region.wanted o (yielded ops a.tmps) = true
        · rw [if_pos hw, if_pos rfl] at h
          obtain ⟨v, hv, hr⟩ := h
          exact wpAnyL_first ho (Region.noSelect_spec hs) (fun c a w hh => absurd hh (hP _ _ _)) hF hiF fuel listed a w hcl (Region.free_spec ho p1) hri (.inl ⟨hw, fun w hw' => hv w _ _ _ _ hw'⟩) hS
            (early_sound hs hP hF ρ hρ hQ r _ fuel _ w p3 hf hn' (hcl.set hri) hS hr)
        · rw [if_neg hw] at h
          exact wpAnyL_first ho (Region.noSelect_spec hs) (fun c a w hh => absurd hh (hP _ _ _)) hF hiF fuel listed a w hcl (Region.free_spec ho p1) hri (.inr ⟨by simpa using hw, rfl⟩) hS
            (early_sound hs hP hF ρ hρ hQ r _ fuel _ w p3 hf hn' (hcl.set hri) hS h)
      | false =>
        simp only [List.cons_append, planOk, Bool.and_eq_true, beq_iff_eq] at hp
        obtain ⟨p1, p2⟩ := hp
        refine ⟨fun h0 => (by rw [p1] at h0; cases h0), fun j hj => ?_⟩
        have hri := hj
        rw [p1] at hj
        obtain rfl : j = i := by simpa using hj
        unfold wpOp
        simp only [ho]
        by_cases hw : Region.wanted o (yielded ops a.tmps) = true
        · rw [if_pos hw]
          rw [if_pos hw] at h
          simp only [Bool.false_eq_true, if_false] at h
          exact .inl (wp_monoQ (fun a' w' hh => ⟨fun _ => hh.1, early_sound hs hP hF ρ hρ hQ r _ fuel a' w' p2 hf hn' (hcl.set hri) hh.1 hh.2⟩) (fun _ _ _ hh => hh.elim) h)
        · rw [if_neg hw]
          rw [if_neg hw] at h
          exact ⟨fun _ => hS, early_sound hs hP hF ρ hρ hQ r _ fuel _ w p2 hf hn' (hcl.set hri) hS h⟩

/-! ### Who comes last, by bits -/
def depm (ops : Array Oper) (j : Nat) : Nat :=
  match ops[j]? with
  | some o => bitsOf ((o.after.toList.filter (Region.binds .any)).map (·.on))
  | none => 0
def closB (ops : Array Oper) : List Nat → Nat → Nat
  | [], m => m
  | j :: js, m => closB ops js (bif m.testBit j then Nat.lor m (depm ops j) else m)
theorem closB_spec {listed : Array Bool} (hcl : Closed ops listed) {f : Nat} (hf : f ∈ Region.ready .any ops listed) :
    ∀ (js : List Nat) (m : Nat), (∀ t, m.testBit t = true → t = f ∨ listed.getD t false = true) → ∀ t, (closB ops js m).testBit t = true → t = f ∨ listed.getD t false = true
  | [], m, h, t, ht => h t ht
  | j :: js, m, h, t, ht => by
    refine closB_spec hcl hf js _ (fun t ht => ?_) t ht
    cases hj : m.testBit j with
    | false => rw [hj] at ht; exact h t ht
    | true =>
      rw [hj] at ht
      simp only [cond_true] at ht
      rw [show Nat.lor m (depm ops j) = m ||| depm ops j from rfl, Nat.testBit_or, Bool.or_eq_true] at ht
      rcases ht with ht | ht
      · exact h t ht
      · right
        unfold depm at ht
        cases ho : ops[j]? with
        | none => rw [ho] at ht; simp at ht
        | some o =>
          rw [ho] at ht
          simp only [testBit_bitsOf, decide_eq_true_eq, List.mem_map, List.mem_filter] at ht
          obtain ⟨e, ⟨he, hb⟩, rfl⟩ := ht
          have he' : e ∈ o.after := by simpa using he
          rcases h j hj with rfl | hl
          · obtain ⟨_, o', ho', hall⟩ := mem_ready.1 hf
            rw [ho] at ho'
            cases ho'
            exact hall e he' hb
          · refine hcl j o ho ?_ e he' hb
            rcases Nat.lt_or_ge j listed.size with h' | h'
            · simpa [h'] using hl
            · simp [Array.getElem?_eq_none h'] at hl
def lateChk (ops : Array Oper) (F : List Nat) : Bool :=
  F.all fun f => let m := closB ops (List.range ops.size).reverse (2 ^ f); (List.range ops.size).all fun i => F.contains i || m.testBit i
theorem lateOk_of {F : List Nat} (h : lateChk ops F = true) : LateOk ops F := by
  intro listed hcl f hf hr i hi hiF
  have h1 := List.all_eq_true.1 h f hf
  have h2 := List.all_eq_true.1 h1 i (List.mem_range.2 hi)
  simp only [Bool.or_eq_true] at h2
  rcases h2 with h2 | h2
  · exact absurd (by simpa using h2) hiF
  · rcases closB_spec hcl hr _ _ (fun t ht => by rw [Nat.testBit_two_pow] at ht; left; exact (of_decide_eq_true ht).symm) i h2 with h3 | h3
    · exact absurd (h3 ▸ hf) hiF
    · rcases Nat.lt_or_ge i listed.size with h' | h'
      · simpa [h'] using h3
      · simp [Array.getElem?_eq_none h'] at h3

def lates (F : List Nat) : List (Bool × Nat) := F.map fun i => (false, i)
def planChkL (ops : Array Oper) (π : List (Bool × Nat)) (F : List Nat) : Bool :=
  planChk ops (π ++ lates F) && lateChk ops F && (π.all fun x => !F.contains x.2)

/-- **A region that draws its order, and ends in writes.** -/
theorem wp_region_l {id : Nat} {Q' : Exit → Act → World → Prop} {a : Act} {w : World} (S : World → Prop) (π : List (Bool × Nat)) (F : List Nat) (hm : P.follows .mixedOrders = true)
    (hc : planChkL ops π F = true)
    (hS : S w.drew)
    (h : ∀ (T : World → Prop) (M : Addr → Option Value) (Q Q2 : Act → World → Prop), (∀ w, S w → T w) → (∀ w, T w → S w) → (∀ p v, (∀ w, S w → w.cell? p = some v) → M p = some v) →
      (∀ a w, wq P (fun _ => True) (fun _ => none) Q2 (cmp ops (lates F)) a w → Q a w) → (∀ a w, Q' .normal a w → Q2 a w) → wq P T M Q (cmp ops π) a w.drew) :
    (Code.region id ops true).wp P Q' a w := by
  simp only [planChkL, Bool.and_eq_true] at hc
  obtain ⟨⟨hc, hl⟩, hπ⟩ := hc
  simp only [planChk, Bool.and_eq_true, Nat.ble_eq] at hc
  obtain ⟨⟨⟨c1, c2⟩, c3⟩, c4⟩ := hc
  have c5 : planOk ops (π ++ lates F) (Array.replicate ops.size false) = true := planOk_of_planF _ 0 _ (by simp) (fun j hj => by simp [hj]) (fun j _ => by simp) c3
  have hcl : Closed ops (Array.replicate ops.size false) := by
    intro j oj hj hlj
    have := (Array.getElem?_eq_some_iff.1 hj).1
    simp [this] at hlj
  rw [List.all_append, Bool.and_eq_true] at c4
  have hM : ∀ p v, (Classical.epsilon fun o : Option Value => ∀ v, o = some v ↔ ∀ w, S w → w.cell? p = some v) = some v ↔ ∀ w, S w → w.cell? p = some v := by
    intro p
    have hex : ∃ o : Option Value, ∀ v, o = some v ↔ ∀ w, S w → w.cell? p = some v := by
      by_cases hx : ∃ v, ∀ w, S w → w.cell? p = some v
      · obtain ⟨v, hv⟩ := hx
        refine ⟨some v, fun u => ⟨fun e => (by cases e; exact hv), fun hu => ?_⟩⟩
        have h1 := hv _ hS
        rw [hu _ hS] at h1
        exact h1.symm
      · exact ⟨none, fun u => ⟨fun e => (by cases e), fun hu => absurd ⟨u, hu⟩ hx⟩⟩
    exact Classical.epsilon_spec hex
  refine wp_region_noPanic (wp_region_any hm (wpAny_of_late (S := S) (F := F) _ _ _ _ ?_))
  refine early_sound (S := S) (F := F) (Qn := Q' .normal) c1 (fun c a w h => h) (lateOk_of hl) (lates F) (fun x hx => by obtain ⟨i, hi, rfl⟩ := List.mem_map.1 hx; exact ⟨rfl, hi⟩) (fun a w hh => NoPanic.normal hh) π _ _ _ _ c5 c2
    (fun x hx => by have := List.all_eq_true.1 hπ x hx; simpa using this) hcl hS ?_
  refine wl_of_wq (M := fun p => Classical.epsilon fun o : Option Value => ∀ v, o = some v ↔ ∀ w, S w → w.cell? p = some v) (fun p v h => (hM p v).1 h) π a w.drew c4.1 ?_
  refine h S _ _ _ (fun _ h => h) (fun _ h => h) (fun p v h => (hM p v).2 h) (fun a' w' hh => ?_) (fun _ _ h => h)
  exact wl_of_wq (M := fun _ => none) (fun p v h => by cases h) (lates F) a' w' c4.2 hh
end

/-! ### Effects -/
section
variable {P : Program} {S : World → Prop} {a : Act} {w : World} {K : Act → World → Prop}
theorem cells_one {v : Value} (h : v.oneCell' = true) : v.cells = #[v] := by cases v <;> first | rfl | cases h
/-- A store into one cell. -/
theorem eff_store {dst : Option Tmp} {t ty : TypeId} {x y : Operand} {q : Bool} {g : Option (Tmp × Bool)} {b o : Nat} {v : Value} (hi : (P.info? t).map (·.size) = some 1)
    (hx : a.eval x = .pointer (some ⟨b, o, none⟩)) (hy : a.eval y = v) (hc : (w.cell? ⟨b, o, none⟩).isSome = true) (hf : w.frozen? ⟨b, o, none⟩ = false) (h1 : v.oneCell' = true)
    (hK : S (w.setCell ⟨b, o, none⟩ v) ∧ K (a.put dst undef) (w.setCell ⟨b, o, none⟩ v)) :
    effq P S ⟨q, dst, .store t x y, ty, g⟩ a w K := by
  intro p af g
  have hc0 : ∀ j, j < [v].length → (w.cell? ⟨b, o + 0 + j, none⟩).isSome = true := by
    intro j hj
    obtain rfl : j = 0 := by simpa using hj
    exact hc
  have hf0 : ∀ j, j < [v].length → w.frozen? ⟨b, o + 0 + j, none⟩ = false := by
    intro j hj
    obtain rfl : j = 0 := by simpa using hj
    exact hf
  have hr := run_storeCells_cells (P := P) b o [v] 0 w hc0 hf0 (fun u hu => by obtain rfl := List.mem_singleton.1 hu; exact h1)
  have hi' : ∃ i, P.info? t = some i ∧ i.size = 1 := by
    obtain ⟨i, h1, h2⟩ := Option.map_eq_some_iff.1 hi
    exact ⟨i, h1, h2⟩
  obtain ⟨i, hi1, hi2⟩ := hi'
  unfold Oper.wp execOp
  have hst : (storeVar t ⟨b, o, none⟩ v).run P w = .ok () (w.setCell ⟨b, o, none⟩ v) := by
    simp [storeVar, sizeOf, typeInfo, hi1, hi2, cells_one h1, hr, World.setCells]
  simp only [hx, hy, Instr.storeAt, Instr.sureAddr, Sem.run_bind, Sem.run_pure, Result.andThen_ok, hst]
  exact hK
/-- A literal of one place, of one cell. -/
theorem eff_lit {dst : Option Tmp} {t e ty : TypeId} {x : Operand} {q : Bool} {g : Option (Tmp × Bool)} {bytes : Nat} {v : Value} (E : Elem P t e 1 bytes)
    (hx : a.eval x = v) (h1 : v.oneCell' = true)
    (hK : S (w.alloc (.cells #[v] e)) ∧ K (a.put dst (.slice (some ⟨w.heap.size, 0, none⟩) 1 1)) (w.alloc (.cells #[v] e))) :
    effq P S ⟨q, dst, .buildSlice t 1 #[(0, x)], ty, g⟩ a w K := by
  intro p af g
  obtain ⟨i, z, hi, hz, hsz, hby, hzs⟩ := E.row
  unfold Oper.wp execOp
  have hv := cells_one h1
  have hr : (Instr.buildSlice t 1 #[(0, v)]).run P w = .ok (.slice (some ⟨w.heap.size, 0, none⟩) 1 1) (w.alloc (.cells #[v] e)) := by
    simp [Instr.buildSlice, run_underlying E.und, sizeOf, typeInfo, hi, hsz, zeroValue, hz, Instr.fill, hv, hzs, newRow, show Array.range 1 = #[0] from rfl]
  simp only [List.map_toArray, List.map_cons, List.map_nil, hx, hr, Sem.run_bind, Sem.run_pure, Result.andThen_ok]
  exact hK
end
end Go.Proofs.YtahlfafcjjkliaaGreatDoor
