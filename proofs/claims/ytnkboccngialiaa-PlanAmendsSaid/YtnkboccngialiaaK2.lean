/- Markers, plainly: what the laws on final ones and on chains say. -/
import Derived.Test.YtnkboccngialiaaK1
namespace Go.Proofs.Ytnkboccngialiaa
open Go.RowKit

theorem mem_nexts {ms : List MV} {k x : Int} : x ∈ nexts ms k ↔ ∃ m ∈ ms, m.old = k ∧ x ∈ m.new := by
  unfold nexts
  rw [List.mem_flatMap]
  constructor
  · rintro ⟨m, hm, hx⟩
    split at hx
    · rename_i e; exact ⟨m, hm, e, hx⟩
    · cases hx
  · rintro ⟨m, hm, e, hx⟩; exact ⟨m, hm, by rw [if_pos e]; exact hx⟩
theorem obs_iff {ms : List MV} {k : Int} : obs ms k = true ↔ ∃ m ∈ ms, m.old = k := by
  unfold obs; rw [List.any_eq_true]; simp

/-- What plays makes: each follow-up is greater. -/
def Rising (ms : List MV) : Prop := ∀ m ∈ ms, ∀ x ∈ m.new, m.old < x
theorem Rising.next {ms : List MV} (h : Rising ms) {k x : Int} (hx : x ∈ nexts ms k) : k < x := by
  obtain ⟨m, hm, e, hx⟩ := mem_nexts.1 hx
  have := h m hm x hx; omega
theorem next_nil {ms : List MV} {i : Int} {l : List Int} (h : NextIs ms i l) (ho : obs ms i = false) : l = [] := by
  refine List.eq_nil_iff_forall_not_mem.2 fun x hx => ?_
  have := (h.mem x).1 hx
  rw [obs_no ho] at this; cases this
theorem final_self {ms : List MV} {i : Int} {l : List Int} (h : FinalIs ms i l) (ho : obs ms i = false) : l = [i] := h.uniq (FinalIs.self ho)
theorem final_gt {ms : List MV} {i x : Int} {l : List Int} (h : FinalIs ms i l) (ho : obs ms i = true) (hx : x ∈ l) : i < x := by
  obtain ⟨h1, h2⟩ := (h.mem x).1 hx
  have := h1.le
  rcases Int.lt_or_eq_of_le this with h | h
  · exact h
  · subst h; rw [ho] at h2; cases h2
/-- All, of what comes next. -/
def AllIs (ms : List MV) (next : List Int) (t : Nat) (all : List Int) : Prop := ∀ x, x ∈ all ↔ ∃ y ∈ next.take t, Reach ms y x ∧ obs ms x = false
theorem AllIs.zero (ms : List MV) (next : List Int) : AllIs ms next 0 [] := fun x => by simp
theorem AllIs.step {ms : List MV} {next all f : List Int} {t : Nat} {y : Int} (h : AllIs ms next t all) (hy : next[t]? = some y) (hf : FinalIs ms y f) : AllIs ms next (t + 1) (all ++ f) := by
  intro x
  obtain ⟨ht, rfl⟩ := List.getElem?_eq_some_iff.1 hy
  rw [List.mem_append, h, hf.mem, List.take_succ_eq_append_getElem ht]
  simp only [List.mem_append, List.mem_singleton]
  constructor
  · rintro (⟨y, hy, h⟩ | h)
    · exact ⟨y, .inl hy, h⟩
    · exact ⟨_, .inr rfl, h⟩
  · rintro ⟨y, hy | rfl, h⟩
    · exact .inl ⟨y, hy, h⟩
    · exact .inr h
theorem all_of_final {ms : List MV} {i x : Int} {next all f : List Int} {t : Nat} (hn : NextIs ms i next) (ht : next.length ≤ t) (ha : AllIs ms next t all) (hf : FinalIs ms i f) (ho : obs ms i = true) (hx : x ∈ f) : x ∈ all := by
  obtain ⟨h1, h2⟩ := (hf.mem x).1 hx
  rw [ha, List.take_of_length_le ht]
  rcases h1.head with rfl | ⟨y, hy, _, hr⟩
  · rw [ho] at h2; cases h2
  · exact ⟨y, (hn.mem y).2 hy, hr, h2⟩
theorem final_of_all {ms : List MV} {i x : Int} {next all f : List Int} {t : Nat} (hn : NextIs ms i next) (ha : AllIs ms next t all) (hf : FinalIs ms i f) (hr : Rising ms) (hx : x ∈ all) : x ∈ f := by
  obtain ⟨y, hy, h1, h2⟩ := (ha x).1 hx
  have hyn := (hn.mem y).1 (List.mem_of_mem_take hy)
  exact (hf.mem x).2 ⟨Reach.trans (.step .refl hyn (hr.next hyn)) h1, h2⟩

/-! ### chains -/
structure ChainIs (n : Nat) (ms : List MV) : Prop where
  len : ms.length = n - 1
  at_ : ∀ (k : Nat) (m : MV), ms[k]? = some m → m.old = (k : Int) ∧ m.new = [(k : Int) + 1]
theorem ChainIs.obs {n : Nat} {ms : List MV} (h : ChainIs n ms) (k : Int) : obs ms k = true ↔ 0 ≤ k ∧ k < n - 1 := by
  rw [obs_iff]
  constructor
  · rintro ⟨m, hm, rfl⟩
    obtain ⟨j, hj⟩ := List.getElem?_of_mem hm
    have hlt := (List.getElem?_eq_some_iff.1 hj).1
    rw [(h.at_ j m hj).1]; have := h.len; omega
  · rintro ⟨h1, h2⟩
    have hlt : k.toNat < ms.length := by have := h.len; omega
    refine ⟨ms[k.toNat], List.getElem_mem hlt, ?_⟩
    rw [(h.at_ _ _ (List.getElem?_eq_getElem hlt)).1]; omega
theorem ChainIs.nexts {n : Nat} {ms : List MV} (h : ChainIs n ms) (k x : Int) : x ∈ nexts ms k ↔ (0 ≤ k ∧ k < n - 1) ∧ x = k + 1 := by
  rw [mem_nexts]
  constructor
  · rintro ⟨m, hm, rfl, hx⟩
    refine ⟨(h.obs _).1 (obs_iff.2 ⟨m, hm, rfl⟩), ?_⟩
    obtain ⟨j, hj⟩ := List.getElem?_of_mem hm
    obtain ⟨e1, e2⟩ := h.at_ j m hj
    rw [e2, List.mem_singleton] at hx; rw [e1, hx]
  · rintro ⟨hk, rfl⟩
    obtain ⟨m, hm, e⟩ := obs_iff.1 ((h.obs k).2 hk)
    refine ⟨m, hm, e, ?_⟩
    obtain ⟨j, hj⟩ := List.getElem?_of_mem hm
    obtain ⟨e1, e2⟩ := h.at_ j m hj
    rw [e2, List.mem_singleton, ← e1, e]
theorem reach_chain {ms : List MV} {n : Nat} {at' : Int} (h0 : 0 ≤ at') (h : ∀ k : Int, 0 ≤ k → k < n - 1 → k + 1 ∈ nexts ms k) : ∀ d : Nat, at' + d ≤ n - 1 → Reach ms at' (at' + d)
  | 0, _ => by rw [Int.natCast_zero, Int.add_zero]; exact .refl
  | d + 1, hd => by
    have := reach_chain h0 h d (by omega)
    have e : at' + ((d + 1 : Nat) : Int) = (at' + d) + 1 := by omega
    rw [e]
    exact .step this (h _ (by omega) (by omega)) (by omega)
theorem reach_chain' {ms : List MV} {n : Nat} {at' x : Int} (h0 : 0 ≤ at') (h : ∀ k : Int, 0 ≤ k → k < n - 1 → k + 1 ∈ nexts ms k) (h1 : at' ≤ x) (h2 : x ≤ n - 1) : Reach ms at' x := by
  have := reach_chain h0 h (x - at').toNat (by omega)
  rwa [show at' + ((x - at').toNat : Int) = x from by omega] at this
theorem chain_final {ms : List MV} {n : Nat} {at' : Int} {f : List Int} (h : ChainIs n ms) (h0 : 0 ≤ at') (h1 : at' < n) (hf : FinalIs ms at' f) : f = [(n : Int) - 1] := by
  refine hf.uniq ⟨by simp, fun x => ?_⟩
  rw [reach_iff (S := fun x => at' ≤ x ∧ x ≤ n - 1) (by omega) (fun x hx => reach_chain' h0 (fun k hk hk' => (h.nexts k _).2 ⟨⟨hk, hk'⟩, rfl⟩) hx.1 hx.2)
    (fun k x hk hx hl => by have := (h.nexts k x).1 hx; omega), List.mem_singleton]
  have := h.obs x
  cases ho : Proofs.Ytnkboccngialiaa.obs ms x with
  | false => rw [ho] at this; simp only [Bool.false_eq_true, false_iff] at this; simp only [and_true]; omega
  | true => rw [ho] at this; simp only [true_iff] at this; simp only [Bool.true_eq_false, and_false, iff_false]; omega
theorem chain_obs {ms : List MV} {n : Nat} (h : ChainIs n ms) : obs ms (n - 1) = false := by
  cases ho : Proofs.Ytnkboccngialiaa.obs ms (n - 1) with
  | false => rfl
  | true => have := (h.obs _).1 ho; omega
theorem chain_both {ms : List MV} {m : MV} {n : Nat} {at' : Int} {f : List Int} (h : ChainIs n ms) (hm : m.old = n - 1) (hn : m.new = [(n : Int), n + 1]) (h0 : 0 ≤ at') (h1 : at' < n) (hf : FinalIs (ms ++ [m]) at' f) : f = [(n : Int), n + 1] := by
  have hob : ∀ x, obs (ms ++ [m]) x = true ↔ 0 ≤ x ∧ x ≤ n - 1 := fun x => by
    rw [obs_snoc, Bool.or_eq_true, h.obs, decide_eq_true_eq, hm]; omega
  have hnx : ∀ k x, x ∈ nexts (ms ++ [m]) k ↔ ((0 ≤ k ∧ k < n - 1) ∧ x = k + 1) ∨ (k = n - 1 ∧ (x = n ∨ x = n + 1)) := fun k x => by
    rw [nexts_snoc, hm]
    split
    · rw [List.mem_append, h.nexts, hn]; simp; omega
    · rw [h.nexts]; omega
  refine hf.uniq ⟨by simp; omega, fun x => ?_⟩
  have hr : ∀ k : Int, 0 ≤ k → k < n - 1 → k + 1 ∈ nexts (ms ++ [m]) k := fun k hk hk' => (hnx k _).2 (.inl ⟨⟨hk, hk'⟩, rfl⟩)
  have hlast : Reach (ms ++ [m]) at' (n - 1) := reach_chain' h0 hr (by omega) (Int.le_refl _)
  rw [reach_iff (S := fun x => at' ≤ x ∧ x ≤ n + 1) (by omega) (fun x hx => by
      by_cases hle : x ≤ n - 1
      · exact reach_chain' h0 hr hx.1 hle
      · exact .step hlast ((hnx _ _).2 (.inr ⟨rfl, by omega⟩)) (by omega))
    (fun k x hk hx hl => by have := (hnx k x).1 hx; omega)]
  have := hob x
  simp only [List.mem_cons, List.not_mem_nil, or_false]
  cases ho : Proofs.Ytnkboccngialiaa.obs (ms ++ [m]) x with
  | false => rw [ho] at this; simp only [Bool.false_eq_true, false_iff] at this; simp only [and_true]; omega
  | true => rw [ho] at this; simp only [true_iff] at this; simp only [Bool.true_eq_false, and_false, iff_false]; omega
theorem chain_none {ms : List MV} {m : MV} {n : Nat} {at' : Int} {f : List Int} (h : ChainIs n ms) (hm : m.old = n - 1) (hn : m.new = []) (h0 : 0 ≤ at') (h1 : at' < n) (hf : FinalIs (ms ++ [m]) at' f) : f = [] := by
  have hob : ∀ x, obs (ms ++ [m]) x = true ↔ 0 ≤ x ∧ x ≤ n - 1 := fun x => by
    rw [obs_snoc, Bool.or_eq_true, h.obs, decide_eq_true_eq, hm]; omega
  have hnx : ∀ k x, x ∈ nexts (ms ++ [m]) k ↔ ((0 ≤ k ∧ k < n - 1) ∧ x = k + 1) := fun k x => by
    rw [nexts_snoc, hm]
    split
    · rw [List.mem_append, h.nexts, hn]; simp
    · rw [h.nexts]
  refine hf.uniq ⟨by simp, fun x => ?_⟩
  rw [reach_iff (S := fun x => at' ≤ x ∧ x ≤ n - 1) (by omega) (fun x hx => reach_chain' h0 (fun k hk hk' => (hnx k _).2 ⟨⟨hk, hk'⟩, rfl⟩) hx.1 hx.2)
    (fun k x hk hx hl => by have := (hnx k x).1 hx; omega)]
  have := hob x
  simp only [List.not_mem_nil, false_iff]
  rintro ⟨h1, h2⟩
  rw [h2] at this; simp only [Bool.false_eq_true, false_iff] at this; omega
theorem chain_right {ms : List MV} {n : Nat} (h : ChainIs n ms) {N : Int} (hN : (n : Int) ≤ N) : rightM N ms = true := by
  unfold rightM
  rw [List.all_eq_true]
  intro m hm
  obtain ⟨j, hj⟩ := List.getElem?_of_mem hm
  obtain ⟨e1, e2⟩ := h.at_ j m hj
  have hlt := (List.getElem?_eq_some_iff.1 hj).1
  have := h.len
  simp only [okM, e1, e2, Bool.and_eq_true, decide_eq_true_eq, List.all_cons, List.all_nil, List.length_singleton, and_true]
  omega
theorem rightM_snoc (n : Int) (ms : List MV) (m : MV) : rightM n (ms ++ [m]) = (rightM n ms && okM n m) := by
  unfold rightM; simp
end Go.Proofs.Ytnkboccngialiaa
