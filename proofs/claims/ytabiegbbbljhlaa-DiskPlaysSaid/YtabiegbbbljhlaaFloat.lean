/- The engine, for a region whose last operations write what the earlier ones have read, while some quiet operations that read no memory (Z) may come anywhere. -/
import Derived.Test.YtabiegbbbljhlaaLate
namespace Go.Proofs.Ytabiegbbbljhlaa
open Go.RowKit

section
variable {P : Program} {ops : Array Oper} {S : World → Prop} {F Z : List Nat}

def wpAnyZ (P : Program) (ops : Array Oper) (Q : Exit → Act → World → Prop) (S : World → Prop) (F : List Nat) : Nat → Array Bool → Act → World → Prop
  | 0, listed, a, w => Region.ready .any ops listed = [] ∧ Q .normal a w
  | fuel + 1, listed, a, w =>
    (Region.ready .any ops listed = [] → Q .normal a w) ∧
    ∀ i ∈ Region.ready .any ops listed, wpOp P ops Q i (fun a' w' => (i ∉ F → S w → S w') ∧ wpAnyZ P ops Q S F fuel (listed.setIfInBounds i true) a' w') a w

variable {Q : Exit → Act → World → Prop}

theorem wpAny_of_float : ∀ (fuel : Nat) (listed : Array Bool) (a : Act) (w : World), wpAnyZ P ops Q S F fuel listed a w → wpAny P .any ops Q fuel listed a w
  | 0, _, _, _, h => h
  | fuel + 1, _, _, _, h => ⟨h.1, fun i hi => wpOp_mono (fun a' w' h' => wpAny_of_float fuel _ a' w' h'.2) (h.2 i hi)⟩

/-- The late ones come last. -/
def LateOkZ (ops : Array Oper) (F Z : List Nat) : Prop :=
  ∀ listed, Closed ops listed → ∀ j ∈ F, j ∈ Region.ready .any ops listed → ∀ i, i < ops.size → i ∉ F → i ∉ Z → listed.getD i true = true

theorem wpAnyZ_first {i : Nat} {oi : Oper} {v : Value} (hi : ops[i]? = some oi) (hsel : ∀ (j : Nat) (o : Oper) cs b, ops[j]? = some o → o.op ≠ .select cs b)
    (hQ : ∀ c a w, Q (.panic c) (a.put oi.dst v) w → Q (.panic c) a w) (hF : LateOkZ ops F Z) (hiF : i ∉ F) (hiZ : i ∉ Z) :
    ∀ (fuel : Nat) (listed : Array Bool) (a : Act) (w : World), Closed ops listed →
      (∀ j oj, ops[j]? = some oj → j ≠ i → listed.getD j true = false → (∀ e ∈ oj.after, Region.binds .any e = true → e.on ≠ i) → oi.apart ops oj = true) →
      i ∈ Region.ready .any ops listed → YieldsIf P ops S oi v a → S w →
      wpAnyZ P ops Q S F fuel (listed.setIfInBounds i true) (a.put oi.dst v) w → wpAnyZ P ops Q S F (fuel + 1) listed a w := by
  intro fuel
  induction fuel with
  | zero =>
    intro listed a w _ hfree hr hy hS H
    refine ⟨fun h => (by rw [h] at hr; cases hr), fun j hj => ?_⟩
    by_cases hji : j = i
    · subst hji; exact hy.wpOp hi hS ⟨fun _ _ => hS, H⟩
    · have := ready_mono hj hji
      rw [H.1] at this
      cases this
  | succ fuel ih =>
    intro listed a w hcl hfree hr hy hS H
    refine ⟨fun h => (by rw [h] at hr; cases hr), fun j hj => ?_⟩
    by_cases hji : j = i
    · subst hji; exact hy.wpOp hi hS ⟨fun _ _ => hS, H⟩
    · have hjF : j ∉ F := fun hjF => by
        have h1 := hF listed hcl j hjF hj i (Array.getElem?_eq_some_iff.1 hi).1 hiF hiZ
        rw [(mem_ready.1 hr).1] at h1
        cases h1
      have h1 := H.2 j (ready_mono hj hji)
      obtain ⟨hjun, oj, hoj, hall⟩ := mem_ready.1 hj
      have hnot : ∀ e ∈ oj.after, Region.binds .any e = true → e.on ≠ i := fun e he hb heq => by
        have h1 := hall e he hb
        have h0 := (mem_ready.1 hr).1
        rw [heq] at h1
        rcases Nat.lt_or_ge i listed.size with h' | h'
        · simp [h'] at h0 h1; rw [h0] at h1; cases h1
        · simp [Array.getElem?_eq_none h'] at h1
      have h2 := wpOp_putIf hoj (hfree j oj hoj hji hjun hnot) (fun cs b => hsel i oi cs b hi) (fun cs b => hsel j oj cs b hoj) hQ hy h1
      have hfree' : ∀ k ok, ops[k]? = some ok → k ≠ i → (listed.setIfInBounds j true).getD k true = false →
          (∀ e ∈ ok.after, Region.binds .any e = true → e.on ≠ i) → oi.apart ops ok = true := fun k ok hk hki hun hno => by
        refine hfree k ok hk hki ?_ hno
        by_cases hjk : j = k
        · subst hjk; exact hjun
        · rw [getD_set_ne true hjk] at hun; exact hun
      refine wpOp_mono (fun a' w' h3 => ⟨h3.2.1, ih (listed.setIfInBounds j true) a' w' (hcl.set hj) hfree' (ready_mono hr (Ne.symm hji)) h3.1 (h3.2.1 hjF hS) ?_⟩) h2
      rw [Array.setIfInBounds_comm _ _ hji]
      exact h3.2.2

theorem wpAnyZ_done {listed : Array Bool} {a : Act} {w : World} (hr : Region.ready .any ops listed = []) (h : Q .normal a w) :
    ∀ fuel, wpAnyZ P ops Q S F fuel listed a w
  | 0 => ⟨hr, h⟩
  | _ + 1 => ⟨fun _ => h, by rw [hr]; simp⟩

theorem wpAnyZ_firstT {i : Nat} {oi : Oper} {v : Value} (hi : ops[i]? = some oi) (hsel : ∀ (j : Nat) (o : Oper) cs b, ops[j]? = some o → o.op ≠ .select cs b)
    (hQ : ∀ c a w, Q (.panic c) (a.put oi.dst v) w → Q (.panic c) a w) :
    ∀ (fuel : Nat) (listed : Array Bool) (a : Act) (w : World), Closed ops listed →
      (∀ j oj, ops[j]? = some oj → j ≠ i → listed.getD j true = false → (∀ e ∈ oj.after, Region.binds .any e = true → e.on ≠ i) → oi.apart ops oj = true) →
      i ∈ Region.ready .any ops listed → YieldsIf P ops (fun _ => True) oi v a →
      wpAnyZ P ops Q S F fuel (listed.setIfInBounds i true) (a.put oi.dst v) w → wpAnyZ P ops Q S F (fuel + 1) listed a w := by
  intro fuel
  induction fuel with
  | zero =>
    intro listed a w _ hfree hr hy H
    refine ⟨fun h => (by rw [h] at hr; cases hr), fun j hj => ?_⟩
    by_cases hji : j = i
    · subst hji; exact hy.wpOp hi trivial ⟨fun _ h => h, H⟩
    · have := ready_mono hj hji
      rw [H.1] at this
      cases this
  | succ fuel ih =>
    intro listed a w hcl hfree hr hy H
    refine ⟨fun h => (by rw [h] at hr; cases hr), fun j hj => ?_⟩
    by_cases hji : j = i
    · subst hji; exact hy.wpOp hi trivial ⟨fun _ h => h, H⟩
    · have h1 := H.2 j (ready_mono hj hji)
      obtain ⟨hjun, oj, hoj, hall⟩ := mem_ready.1 hj
      have hnot : ∀ e ∈ oj.after, Region.binds .any e = true → e.on ≠ i := fun e he hb heq => by
        have h1 := hall e he hb
        have h0 := (mem_ready.1 hr).1
        rw [heq] at h1
        rcases Nat.lt_or_ge i listed.size with h' | h'
        · simp [h'] at h0 h1; rw [h0] at h1; cases h1
        · simp [Array.getElem?_eq_none h'] at h1
      have h2 := wpOp_putIf hoj (hfree j oj hoj hji hjun hnot) (fun cs b => hsel i oi cs b hi) (fun cs b => hsel j oj cs b hoj) hQ hy h1
      have hfree' : ∀ k ok, ops[k]? = some ok → k ≠ i → (listed.setIfInBounds j true).getD k true = false →
          (∀ e ∈ ok.after, Region.binds .any e = true → e.on ≠ i) → oi.apart ops ok = true := fun k ok hk hki hun hno => by
        refine hfree k ok hk hki ?_ hno
        by_cases hjk : j = k
        · subst hjk; exact hjun
        · rw [getD_set_ne true hjk] at hun; exact hun
      refine wpOp_mono (fun a' w' h3 => ⟨h3.2.1, ih (listed.setIfInBounds j true) a' w' (hcl.set hj) hfree' (ready_mono hr (Ne.symm hji)) h3.1 ?_⟩) h2
      rw [Array.setIfInBounds_comm _ _ hji]
      exact h3.2.2

/-- The part ahead of the late one. -/
theorem seg_sound {C : Act → World → Prop} (hs : Region.noSelect ops = true) (hP : ∀ c a w, ¬ Q (.panic c) a w) (hF : LateOkZ ops F Z) (ρ : List (Bool × Nat))
    (hC : ∀ (listed : Array Bool) (fuel : Nat) (a : Act) (w : World), planOk ops ρ listed = true → ρ.length ≤ fuel → Closed ops listed → S w → C a w → wpAnyZ P ops Q S F fuel listed a w) :
    ∀ (π : List (Bool × Nat)) (listed : Array Bool) (fuel : Nat) (a : Act) (w : World), planOk ops (π ++ ρ) listed = true → (π ++ ρ).length ≤ fuel → (∀ x ∈ π, x.2 ∉ F ∧ x.2 ∉ Z) → Closed ops listed → S w →
      wl P ops S C π a w → wpAnyZ P ops Q S F fuel listed a w
  | [], listed, fuel, a, w, hp, hf, _, hcl, hS, h => hC listed fuel a w (by simpa using hp) (by simpa using hf) hcl hS h
  | (q, i) :: r, listed, fuel, a, w, hp, hf, hn, hcl, hS, h => by
    obtain ⟨fuel, rfl⟩ : ∃ k, fuel = k + 1 := ⟨fuel - 1, by simp at hf; omega⟩
    simp only [List.cons_append, List.length_cons, Nat.add_le_add_iff_right] at hf
    obtain ⟨hiF, hiZ⟩ := hn (q, i) (by simp)
    have hn' : ∀ x ∈ r, x.2 ∉ F ∧ x.2 ∉ Z := fun x hx => hn x (by simp [hx])
    simp only [wl] at h
    cases ho : ops[i]? with
    | none => simp only [ho] at h
    | some o =>
      simp only [ho] at h
      cases q with
      | true =>
        simp only [List.cons_append, planOk, Bool.and_eq_true] at hp
        obtain ⟨⟨p1, p2⟩, p3⟩ := hp
        have hri : i ∈ Region.ready .any ops listed := by simpa using p2
        by_cases hw : Region.wanted o (yielded ops a.tmps) = true
        · rw [if_pos hw, if_pos rfl] at h
          obtain ⟨v, hv, hr⟩ := h
          exact wpAnyZ_first ho (Region.noSelect_spec hs) (fun c a w hh => absurd hh (hP _ _ _)) hF hiF hiZ fuel listed a w hcl (Region.free_spec ho p1) hri (.inl ⟨hw, fun w hw' => hv w _ _ _ _ hw'⟩) hS
            (seg_sound hs hP hF ρ hC r _ fuel _ w p3 hf hn' (hcl.set hri) hS hr)
        · rw [if_neg hw] at h
          exact wpAnyZ_first ho (Region.noSelect_spec hs) (fun c a w hh => absurd hh (hP _ _ _)) hF hiF hiZ fuel listed a w hcl (Region.free_spec ho p1) hri (.inr ⟨by simpa using hw, rfl⟩) hS
            (seg_sound hs hP hF ρ hC r _ fuel _ w p3 hf hn' (hcl.set hri) hS h)
      | false =>
        simp only [List.cons_append, planOk, Bool.and_eq_true, beq_iff_eq] at hp
        obtain ⟨p1, p2⟩ := hp
        refine ⟨fun h0 => (by rw [p1] at h0; cases h0), fun j hj => ?_⟩
        have hri := hj
        rw [p1] at hj
        obtain rfl : j = i := by simpa using hj
        unfold wpOp
        simp only [ho]
        by_cases hw : Region.wanted o (yielded ops a.tmps) = true
        · rw [if_pos hw]
          rw [if_pos hw] at h
          simp only [Bool.false_eq_true, if_false] at h
          exact .inl (wp_monoQ (fun a' w' hh => ⟨fun _ _ => hh.1, seg_sound hs hP hF ρ hC r _ fuel a' w' p2 hf hn' (hcl.set hri) hh.1 hh.2⟩) (fun _ _ _ hh => hh.elim) h)
        · rw [if_neg hw]
          rw [if_neg hw] at h
          exact ⟨fun _ h => h, seg_sound hs hP hF ρ hC r _ fuel _ w p2 hf hn' (hcl.set hri) hS h⟩
/-- Those that may come anywhere. -/
theorem float_sound {C : Act → World → Prop} (hs : Region.noSelect ops = true) (hP : ∀ c a w, ¬ Q (.panic c) a w) (ρ : List (Bool × Nat))
    (hC : ∀ (listed : Array Bool) (fuel : Nat) (a : Act) (w : World), planOk ops ρ listed = true → ρ.length ≤ fuel → Closed ops listed → S w → C a w → wpAnyZ P ops Q S F fuel listed a w) :
    ∀ (π : List (Bool × Nat)) (listed : Array Bool) (fuel : Nat) (a : Act) (w : World), planOk ops (π ++ ρ) listed = true → (π ++ ρ).length ≤ fuel → (∀ x ∈ π, x.1 = true) → Closed ops listed → S w →
      wl P ops (fun _ => True) C π a w → wpAnyZ P ops Q S F fuel listed a w
  | [], listed, fuel, a, w, hp, hf, _, hcl, hS, h => hC listed fuel a w (by simpa using hp) (by simpa using hf) hcl hS h
  | (q, i) :: r, listed, fuel, a, w, hp, hf, hn, hcl, hS, h => by
    obtain ⟨fuel, rfl⟩ : ∃ k, fuel = k + 1 := ⟨fuel - 1, by simp at hf; omega⟩
    simp only [List.cons_append, List.length_cons, Nat.add_le_add_iff_right] at hf
    have hq := hn (q, i) (by simp)
    simp only at hq
    subst hq
    have hn' : ∀ x ∈ r, x.1 = true := fun x hx => hn x (by simp [hx])
    simp only [wl] at h
    cases ho : ops[i]? with
    | none => simp only [ho] at h
    | some o =>
      simp only [ho] at h
      simp only [List.cons_append, planOk, Bool.and_eq_true] at hp
      obtain ⟨⟨p1, p2⟩, p3⟩ := hp
      have hri : i ∈ Region.ready .any ops listed := by simpa using p2
      by_cases hw : Region.wanted o (yielded ops a.tmps) = true
      · rw [if_pos hw] at h
        simp only [if_true] at h
        obtain ⟨v, hv, hr⟩ := h
        exact wpAnyZ_firstT ho (Region.noSelect_spec hs) (fun c a w hh => absurd hh (hP _ _ _)) fuel listed a w hcl (Region.free_spec ho p1) hri (.inl ⟨hw, fun w hw' => hv w _ _ _ _ hw'⟩)
          (float_sound hs hP ρ hC r _ fuel _ w p3 hf hn' (hcl.set hri) hS hr)
      · rw [if_neg hw] at h
        exact wpAnyZ_firstT ho (Region.noSelect_spec hs) (fun c a w hh => absurd hh (hP _ _ _)) fuel listed a w hcl (Region.free_spec ho p1) hri (.inr ⟨by simpa using hw, rfl⟩)
          (float_sound hs hP ρ hC r _ fuel _ w p3 hf hn' (hcl.set hri) hS h)
/-- The late part. -/
theorem last_sound {Qn : Act → World → Prop} (hs : Region.noSelect ops = true) (hP : ∀ c a w, ¬ Q (.panic c) a w) (hQ : ∀ a w, Qn a w → Q .normal a w) :
    ∀ (π : List (Bool × Nat)) (listed : Array Bool) (fuel : Nat) (a : Act) (w : World), planOk ops π listed = true → π.length ≤ fuel → (∀ x ∈ π, x.2 ∈ F) → Closed ops listed →
      wl P ops (fun _ => True) Qn π a w → wpAnyZ P ops Q S F fuel listed a w
  | [], listed, fuel, a, w, hp, _, _, _, h => wpAnyZ_done (by simpa [planOk] using hp) (hQ _ _ h) fuel
  | (q, i) :: r, listed, fuel, a, w, hp, hf, hl, hcl, h => by
    obtain ⟨fuel, rfl⟩ : ∃ k, fuel = k + 1 := ⟨fuel - 1, by simp at hf; omega⟩
    simp only [List.length_cons, Nat.add_le_add_iff_right] at hf
    have hiF := hl (q, i) (by simp)
    simp only at hiF
    have hl' : ∀ x ∈ r, x.2 ∈ F := fun x hx => hl x (by simp [hx])
    simp only [wl] at h
    cases ho : ops[i]? with
    | none => simp only [ho] at h
    | some o =>
      simp only [ho] at h
      cases q with
      | true =>
        simp only [planOk, Bool.and_eq_true] at hp
        obtain ⟨⟨p1, p2⟩, p3⟩ := hp
        have hri : i ∈ Region.ready .any ops listed := by simpa using p2
        by_cases hw : Region.wanted o (yielded ops a.tmps) = true
        · rw [if_pos hw, if_pos rfl] at h
          obtain ⟨v, hv, hr⟩ := h
          exact wpAnyZ_firstT ho (Region.noSelect_spec hs) (fun c a w hh => absurd hh (hP _ _ _)) fuel listed a w hcl (Region.free_spec ho p1) hri (.inl ⟨hw, fun w hw' => hv w _ _ _ _ hw'⟩)
            (last_sound hs hP hQ r _ fuel _ w p3 hf hl' (hcl.set hri) hr)
        · rw [if_neg hw] at h
          exact wpAnyZ_firstT ho (Region.noSelect_spec hs) (fun c a w hh => absurd hh (hP _ _ _)) fuel listed a w hcl (Region.free_spec ho p1) hri (.inr ⟨by simpa using hw, rfl⟩)
            (last_sound hs hP hQ r _ fuel _ w p3 hf hl' (hcl.set hri) h)
      | false =>
        simp only [planOk, Bool.and_eq_true, beq_iff_eq] at hp
        obtain ⟨p1, p2⟩ := hp
        refine ⟨fun h0 => (by rw [p1] at h0; cases h0), fun j hj => ?_⟩
        have hri := hj
        rw [p1] at hj
        obtain rfl : j = i := by simpa using hj
        unfold wpOp
        simp only [ho]
        by_cases hw : Region.wanted o (yielded ops a.tmps) = true
        · rw [if_pos hw]
          rw [if_pos hw] at h
          simp only [Bool.false_eq_true, if_false] at h
          exact .inl (wp_monoQ (fun a' w' hh => ⟨fun hn => absurd hiF hn, last_sound hs hP hQ r _ fuel a' w' p2 hf hl' (hcl.set hri) hh.2⟩) (fun _ _ _ hh => hh.elim) h)
        · rw [if_neg hw]
          rw [if_neg hw] at h
          exact ⟨fun hn => absurd hiF hn, last_sound hs hP hQ r _ fuel _ w p2 hf hl' (hcl.set hri) h⟩

def floatChk (ops : Array Oper) (F Z : List Nat) : Bool :=
  F.all fun f => let m := closB ops (List.range ops.size).reverse (2 ^ f); (List.range ops.size).all fun i => F.contains i || Z.contains i || m.testBit i
theorem lateOkZ_of {F Z : List Nat} (h : floatChk ops F Z = true) : LateOkZ ops F Z := by
  intro listed hcl f hf hr i hi hiF hiZ
  have h1 := List.all_eq_true.1 h f hf
  have h2 := List.all_eq_true.1 h1 i (List.mem_range.2 hi)
  simp only [Bool.or_eq_true] at h2
  rcases h2 with (h2 | h2) | h2
  · exact absurd (by simpa using h2) hiF
  · exact absurd (by simpa using h2) hiZ
  · rcases closB_spec hcl hr _ _ (fun t ht => by rw [Nat.testBit_two_pow] at ht; left; exact (of_decide_eq_true ht).symm) i h2 with h3 | h3
    · exact absurd (h3 ▸ hf) hiF
    · rcases Nat.lt_or_ge i listed.size with h' | h'
      · simpa [h'] using h3
      · simp [Array.getElem?_eq_none h'] at h3

def quiets (Z : List Nat) : List (Bool × Nat) := Z.map fun i => (true, i)
def planChkZ (ops : Array Oper) (π Z' σ ρ : List (Bool × Nat)) (F Z : List Nat) : Bool :=
  planChk ops (π ++ (Z' ++ (σ ++ ρ))) && floatChk ops F Z && (π.all fun x => !F.contains x.2 && !Z.contains x.2) && (σ.all fun x => !F.contains x.2 && !Z.contains x.2) && (ρ.all fun x => F.contains x.2)

/-- **A region that draws its order, and ends in writes, with quiet operations that may come anywhere**: first π, then Z, then σ, then ρ (of F). -/
theorem wp_region_z {id : Nat} {Q' : Exit → Act → World → Prop} {a : Act} {w : World} (S : World → Prop) (π : List (Bool × Nat)) (Z : List Nat) (σ ρ : List (Bool × Nat)) (F : List Nat) (hm : P.follows .mixedOrders = true)
    (hc : planChkZ ops π (quiets Z) σ ρ F Z = true)
    (hS : S w.drew)
    (h : ∀ (T : World → Prop) (M : Addr → Option Value) (Q1 Q2 Q3 Q4 : Act → World → Prop), (∀ w, S w → T w) → (∀ w, T w → S w) → (∀ p v, (∀ w, S w → w.cell? p = some v) → M p = some v) →
      (∀ a w, wq P (fun _ => True) (fun _ => none) Q2 (cmp ops (quiets Z)) a w → Q1 a w) → (∀ a w, wq P T M Q3 (cmp ops σ) a w → Q2 a w) → (∀ a w, wq P (fun _ => True) (fun _ => none) Q4 (cmp ops ρ) a w → Q3 a w) → (∀ a w, Q' .normal a w → Q4 a w) → wq P T M Q1 (cmp ops π) a w.drew) :
    (Code.region id ops true).wp P Q' a w := by
  simp only [planChkZ, Bool.and_eq_true] at hc
  obtain ⟨⟨⟨⟨hc, hl⟩, hπ⟩, hσ⟩, hρ⟩ := hc
  simp only [planChk, Bool.and_eq_true, Nat.ble_eq] at hc
  obtain ⟨⟨⟨c1, c2⟩, c3⟩, c4⟩ := hc
  have c5 : planOk ops (π ++ (quiets Z ++ (σ ++ ρ))) (Array.replicate ops.size false) = true := planOk_of_planF _ 0 _ (by simp) (fun j hj => by simp [hj]) (fun j _ => by simp) c3
  have hcl : Closed ops (Array.replicate ops.size false) := by
    intro j oj hj hlj
    have := (Array.getElem?_eq_some_iff.1 hj).1
    simp [this] at hlj
  simp only [List.all_append, Bool.and_eq_true] at c4
  have hM : ∀ p v, (Classical.epsilon fun o : Option Value => ∀ v, o = some v ↔ ∀ w, S w → w.cell? p = some v) = some v ↔ ∀ w, S w → w.cell? p = some v := by
    intro p
    have hex : ∃ o : Option Value, ∀ v, o = some v ↔ ∀ w, S w → w.cell? p = some v := by
      by_cases hx : ∃ v, ∀ w, S w → w.cell? p = some v
      · obtain ⟨v, hv⟩ := hx
        refine ⟨some v, fun u => ⟨fun e => (by cases e; exact hv), fun hu => ?_⟩⟩
        have h1 := hv _ hS
        rw [hu _ hS] at h1
        exact h1.symm
      · exact ⟨none, fun u => ⟨fun e => (by cases e), fun hu => absurd ⟨u, hu⟩ hx⟩⟩
    exact Classical.epsilon_spec hex
  have hOk := lateOkZ_of hl
  have nin : ∀ {l : List (Bool × Nat)}, (l.all fun x => !F.contains x.2 && !Z.contains x.2) = true → ∀ x ∈ l, x.2 ∉ F ∧ x.2 ∉ Z := fun hl x hx => by
    have := List.all_eq_true.1 hl x hx
    simpa using this
  refine wp_region_noPanic (wp_region_any hm (wpAny_of_float (S := S) (F := F) _ _ _ _ ?_))
  refine seg_sound (C := fun a w => wl P ops (fun _ => True) (fun a w => wl P ops S (fun a w => wl P ops (fun _ => True) (Q' .normal) ρ a w) σ a w) (quiets Z) a w) c1 (fun c a w h => h) hOk (quiets Z ++ (σ ++ ρ)) (fun listed fuel a w q1 q2 q3 q4 q5 => ?_) π _ _ _ _ c5 c2 (nin hπ) hcl hS ?_
  · refine float_sound (C := fun a w => wl P ops S (fun a w => wl P ops (fun _ => True) (Q' .normal) ρ a w) σ a w) c1 (fun c a w h => h) (σ ++ ρ) (fun listed fuel a w q1 q2 q3 q4 q5 => ?_) (quiets Z) _ _ _ _ q1 q2 (fun x hx => by obtain ⟨i, _, rfl⟩ := List.mem_map.1 hx; rfl) q3 q4 q5
    refine seg_sound (C := fun a w => wl P ops (fun _ => True) (Q' .normal) ρ a w) c1 (fun c a w h => h) hOk ρ (fun listed fuel a w q1 q2 q3 q4 q5 => ?_) σ _ _ _ _ q1 q2 (nin hσ) q3 q4 q5
    exact last_sound (Qn := Q' .normal) c1 (fun c a w h => h) (fun a w hh => NoPanic.normal hh) ρ _ _ _ _ q1 q2 (fun x hx => by have := List.all_eq_true.1 hρ x hx; simpa using this) q3 q5
  refine wl_of_wq (M := fun p => Classical.epsilon fun o : Option Value => ∀ v, o = some v ↔ ∀ w, S w → w.cell? p = some v) (fun p v h => (hM p v).1 h) π a w.drew c4.1 ?_
  refine h S _ (fun a w => wl P ops (fun _ => True) (fun a w => wl P ops S (fun a w => wl P ops (fun _ => True) (Q' .normal) ρ a w) σ a w) (quiets Z) a w) (fun a w => wl P ops S (fun a w => wl P ops (fun _ => True) (Q' .normal) ρ a w) σ a w) (fun a w => wl P ops (fun _ => True) (Q' .normal) ρ a w) (Q' .normal) (fun _ h => h) (fun _ h => h) (fun p v h => (hM p v).2 h) (fun a' w' hh => ?_) (fun a' w' hh => ?_) (fun a' w' hh => ?_) (fun _ _ h => h)
  · exact wl_of_wq (M := fun _ => none) (fun p v h => by cases h) (quiets Z) a' w' c4.2.1 hh
  · exact wl_of_wq (M := fun p => Classical.epsilon fun o : Option Value => ∀ v, o = some v ↔ ∀ w, S w → w.cell? p = some v) (fun p v h => (hM p v).1 h) σ a' w' c4.2.2.1 hh
  · exact wl_of_wq (M := fun _ => none) (fun p v h => by cases h) ρ a' w' c4.2.2.2 hh
end
end Go.Proofs.Ytabiegbbbljhlaa
