/- Markers, plainly: the two ways to what is final. -/
import Derived.Test.YtnkboccngialiaaK0
namespace Go.Proofs.Ytnkboccngialiaa
open Go.RowKit

/-- What the program's way keeps: what is done, what is still to do. -/
structure FinInv (ms : List MV) (i : Int) (done todo : List Int) : Prop where
  nd : (done ++ todo).Nodup
  univ : ∀ x ∈ done ++ todo, x ∈ univ ms i
  start : i ∈ done ++ todo
  reach : ∀ x ∈ done ++ todo, Reach ms i x
  closed : ∀ k ∈ done, ∀ x ∈ nexts ms k, k < x → x ∈ done ++ todo
/-- .. while the follow-ups of one are looked at. -/
structure FinMid (ms : List MV) (i : Int) (done : List Int) (k : Int) (t : Nat) (todo : List Int) : Prop where
  nd : ((done ++ [k]) ++ todo).Nodup
  univ : ∀ x ∈ (done ++ [k]) ++ todo, x ∈ univ ms i
  start : i ∈ (done ++ [k]) ++ todo
  reach : ∀ x ∈ (done ++ [k]) ++ todo, Reach ms i x
  closed : ∀ k' ∈ done, ∀ x ∈ nexts ms k', k' < x → x ∈ (done ++ [k]) ++ todo
  part : ∀ x ∈ (nexts ms k).take t, k < x → x ∈ (done ++ [k]) ++ todo

theorem FinInv.init (ms : List MV) (i : Int) : FinInv ms i [] [i] :=
  ⟨by simp, by simp [Proofs.Ytnkboccngialiaa.univ], by simp, by simp only [List.nil_append, List.mem_singleton]; rintro x rfl; exact .refl, by simp⟩
theorem mem_perm3 {done todo : List Int} {k x : Int} : x ∈ done ++ (todo ++ [k]) ↔ x ∈ (done ++ [k]) ++ todo := by
  simp only [List.mem_append, List.mem_singleton]
  constructor
  · rintro (h | h | h) <;> simp [h]
  · rintro ((h | h) | h) <;> simp [h]
theorem nodup_perm3 {done todo : List Int} {k : Int} (h : (done ++ (todo ++ [k])).Nodup) : ((done ++ [k]) ++ todo).Nodup := by
  refine (List.Perm.nodup_iff ?_).1 h
  rw [List.append_assoc]
  exact List.Perm.append_left _ List.perm_append_comm
theorem FinInv.mid {ms : List MV} {i : Int} {done todo : List Int} {k : Int} (h : FinInv ms i done (todo ++ [k])) : FinMid ms i done k 0 todo :=
  ⟨nodup_perm3 h.nd, fun x hx => h.univ x (mem_perm3.2 hx), mem_perm3.1 h.start, fun x hx => h.reach x (mem_perm3.2 hx), fun k' hk' x hx hl => mem_perm3.1 (h.closed k' hk' x hx hl), by simp⟩
/-- Nothing follows. -/
theorem FinMid.stop {ms : List MV} {i : Int} {done todo : List Int} {k : Int} {t : Nat} (h : FinMid ms i done k t todo) (ht : (nexts ms k).length ≤ t) : FinInv ms i (done ++ [k]) todo := by
  refine ⟨h.nd, h.univ, h.start, h.reach, fun k' hk' x hx hl => ?_⟩
  rcases List.mem_append.1 hk' with h1 | h1
  · exact h.closed k' h1 x hx hl
  · rw [List.mem_singleton] at h1; subst h1
    refine h.part x ?_ hl
    rw [List.take_of_length_le ht]; exact hx
theorem FinMid.skip {ms : List MV} {i : Int} {done todo : List Int} {k x : Int} {t : Nat} (h : FinMid ms i done k t todo) (hx : (nexts ms k)[t]? = some x) (hs : k < x → x ∈ (done ++ [k]) ++ todo) : FinMid ms i done k (t + 1) todo := by
  refine ⟨h.nd, h.univ, h.start, h.reach, h.closed, fun y hy hl => ?_⟩
  obtain ⟨ht, rfl⟩ := List.getElem?_eq_some_iff.1 hx
  rw [List.take_succ_eq_append_getElem ht, List.mem_append, List.mem_singleton] at hy
  rcases hy with hy | rfl
  · exact h.part y hy hl
  · exact hs hl
theorem FinMid.push {ms : List MV} {i : Int} {done todo : List Int} {k x : Int} {t : Nat} (h : FinMid ms i done k t todo) (hx : (nexts ms k)[t]? = some x) (hl : k < x) (hn : x ∉ (done ++ [k]) ++ todo) : FinMid ms i done k (t + 1) (todo ++ [x]) := by
  have hxm : x ∈ nexts ms k := List.mem_of_getElem? hx
  have up : ∀ y, y ∈ (done ++ [k]) ++ todo → y ∈ (done ++ [k]) ++ (todo ++ [x]) := fun y hy => by rw [← List.append_assoc]; exact List.mem_append_left _ hy
  have dn : ∀ y, y ∈ (done ++ [k]) ++ (todo ++ [x]) → y ∈ (done ++ [k]) ++ todo ∨ y = x := fun y hy => by rw [← List.append_assoc, List.mem_append, List.mem_singleton] at hy; exact hy
  refine ⟨?_, fun y hy => ?_, up _ h.start, fun y hy => ?_, fun k' hk' y hy hl' => up _ (h.closed k' hk' y hy hl'), fun y hy hl' => ?_⟩
  · rw [← List.append_assoc, List.nodup_append]
    exact ⟨h.nd, by simp, fun a ha b hb e => hn (by rw [List.mem_singleton] at hb; subst hb; subst e; exact ha)⟩
  · rcases dn y hy with hy | rfl
    · exact h.univ y hy
    · exact nexts_univ hxm
  · rcases dn y hy with hy | rfl
    · exact h.reach y hy
    · exact .step (h.reach k (by simp)) hxm hl
  · obtain ⟨ht, rfl⟩ := List.getElem?_eq_some_iff.1 hx
    rw [List.take_succ_eq_append_getElem ht, List.mem_append, List.mem_singleton] at hy
    rcases hy with hy | rfl
    · exact up _ (h.part y hy hl')
    · simp
theorem FinInv.le {ms : List MV} {i : Int} {done todo : List Int} (h : FinInv ms i done todo) (hf : fewM ms = true) : done.length + todo.length ≤ 481 := by
  have := nodup_le h.nd h.univ; have := univ_le (i := i) hf; rw [List.length_append] at *; omega
theorem FinMid.le {ms : List MV} {i : Int} {done todo : List Int} {k : Int} {t : Nat} (h : FinMid ms i done k t todo) (hf : fewM ms = true) : done.length + 1 + todo.length ≤ 481 := by
  have := nodup_le h.nd h.univ; have := univ_le (i := i) hf; simp only [List.length_append, List.length_singleton] at *; omega
theorem FinInv.final {ms : List MV} {i : Int} {done : List Int} (h : FinInv ms i done []) (x : Int) : x ∈ done.filter (fun x => !obs ms x) ↔ Reach ms i x ∧ obs ms x = false := by
  have e := reach_iff (S := fun x => x ∈ done) (by simpa using h.start) (fun x hx => h.reach x (by simpa using hx)) (fun k x hk hx hl => by simpa using h.closed k hk x hx hl) x
  rw [List.mem_filter, e]; simp
theorem FinInv.nodupF {ms : List MV} {i : Int} {done todo : List Int} (h : FinInv ms i done todo) : (done.filter (fun x => !obs ms x)).Nodup :=
  (List.nodup_append.1 h.nd).1.sublist List.filter_sublist
/-- Sorted, without doubles. -/
theorem finalIs_sort {ms : List MV} {i : Int} {done ss : List Int} (h : FinInv ms i done []) (hp : ss.Perm (done.filter (fun x => !obs ms x))) : FinalIs ms i (ss.mergeSort fun x y => decide (x ≤ y)) := by
  have hp2 := (List.mergeSort_perm ss fun x y => decide (x ≤ y)).trans hp
  refine ⟨?_, fun x => by rw [hp2.mem_iff, h.final]⟩
  have h1 : (ss.mergeSort fun x y => decide (x ≤ y)).Pairwise fun a b => decide (a ≤ b) = true :=
    List.pairwise_mergeSort (fun a b c h1 h2 => by simp only [decide_eq_true_eq] at *; omega) (fun a b => by simp only [Bool.or_eq_true, decide_eq_true_eq]; omega) ss
  have h2 : (ss.mergeSort fun x y => decide (x ≤ y)).Nodup := hp2.nodup_iff.2 h.nodupF
  exact List.Pairwise.imp₂ (fun a b h1 h2 => by simp only [decide_eq_true_eq] at h1; omega) h1 h2
theorem finalIs_perm {ms : List MV} {i : Int} {done ss r : List Int} (h : FinInv ms i done []) (hp : ss.Perm (done.filter (fun x => !obs ms x))) (hr : r = ss.mergeSort fun x y => decide (x ≤ y)) : FinalIs ms i r := hr ▸ finalIs_sort h hp

/-! ### the document's way -/
structure RefInv (ms : List MV) (i : Int) (seen todo out : List Int) : Prop where
  start : ∀ x ∈ nexts ms i, i < x → x ∈ seen ∨ x ∈ todo
  gt : ∀ x ∈ seen, i < x
  reach : ∀ x ∈ seen, Reach ms i x
  todoR : ∀ x ∈ todo, i < x → Reach ms i x
  closed : ∀ k ∈ seen, ∀ x ∈ nexts ms k, k < x → x ∈ seen ∨ x ∈ todo
  nd : seen.Nodup
  univ : ∀ x ∈ seen, x ∈ univ ms i
  todoU : ∀ x ∈ todo, x ∈ Proofs.Ytnkboccngialiaa.univ ms i
  sorted : out.Pairwise (· < ·)
  out : ∀ x, x ∈ out ↔ x ∈ seen ∧ obs ms x = false
theorem RefInv.init {ms : List MV} {i : Int} {l : List Int} (h : NextIs ms i l) : RefInv ms i [] l [] :=
  ⟨fun x hx _ => .inr ((h.mem x).2 hx), by simp, by simp, fun x hx hl => .step .refl ((h.mem x).1 hx) hl, by simp, by simp, by simp, fun x hx => nexts_univ ((h.mem x).1 hx), by simp, by simp⟩
theorem RefInv.skip {ms : List MV} {i x : Int} {seen todo out : List Int} (h : RefInv ms i seen (x :: todo) out) (hx : x ≤ i ∨ x ∈ seen) : RefInv ms i seen todo out := by
  have aux : ∀ y, i < y → y ∈ seen ∨ y ∈ x :: todo → y ∈ seen ∨ y ∈ todo := by
    intro y hy hh
    rcases hh with hh | hh
    · exact .inl hh
    · rcases List.mem_cons.1 hh with rfl | hh
      · rcases hx with hx | hx
        · omega
        · exact .inl hx
      · exact .inr hh
  exact ⟨fun y hy hl => aux y hl (h.start y hy hl), h.gt, h.reach, fun y hy => h.todoR y (by simp [hy]), fun k hk y hy hl => aux y (by have := h.gt k hk; omega) (h.closed k hk y hy hl), h.nd, h.univ, fun y hy => h.todoU y (by simp [hy]), h.sorted, h.out⟩
theorem RefInv.leaf {ms : List MV} {i x : Int} {seen todo out out' : List Int} (h : RefInv ms i seen (x :: todo) out) (h1 : i < x) (h2 : x ∉ seen) (ho : obs ms x = false) (ha : AddIs out x out') : RefInv ms i (seen ++ [x]) todo out' := by
  have aux : ∀ y, y ∈ seen ∨ y ∈ x :: todo → y ∈ seen ++ [x] ∨ y ∈ todo := by
    intro y hh
    rw [List.mem_append, List.mem_singleton]
    rcases hh with hh | hh
    · exact .inl (.inl hh)
    · rcases List.mem_cons.1 hh with rfl | hh
      · exact .inl (.inr rfl)
      · exact .inr hh
  have mem : ∀ {p : Int → Prop}, (∀ y ∈ seen, p y) → p x → ∀ y ∈ seen ++ [x], p y := by
    intro p hp hx y hy
    rw [List.mem_append, List.mem_singleton] at hy
    rcases hy with hy | rfl
    · exact hp y hy
    · exact hx
  refine ⟨fun y hy hl => aux y (h.start y hy hl), mem h.gt h1, mem h.reach (h.todoR x (by simp) h1), fun y hy => h.todoR y (by simp [hy]), fun k hk => ?_, ?_, mem h.univ (h.todoU x (by simp)), fun y hy => h.todoU y (by simp [hy]), ha.sorted h.sorted, fun y => ?_⟩
  · rw [List.mem_append, List.mem_singleton] at hk
    rcases hk with hk | rfl
    · exact fun y hy hl => aux y (h.closed k hk y hy hl)
    · intro y hy; rw [obs_no ho] at hy; cases hy
  · rw [List.nodup_append]
    exact ⟨h.nd, by simp, fun a haa b hb e => h2 (by rw [List.mem_singleton] at hb; subst hb; subst e; exact haa)⟩
  · rw [ha.mem, h.out, List.mem_append, List.mem_singleton]
    constructor
    · rintro (⟨h1, h2⟩ | rfl)
      · exact ⟨.inl h1, h2⟩
      · exact ⟨.inr rfl, ho⟩
    · rintro ⟨h1 | rfl, h2⟩
      · exact .inl ⟨h1, h2⟩
      · exact .inr rfl
/-- .. while what follows one is put behind. -/
structure RefMid (ms : List MV) (i : Int) (seen : List Int) (x : Int) (more : List Int) (t : Nat) (todo out : List Int) : Prop where
  start : ∀ x ∈ nexts ms i, i < x → x ∈ seen ∨ x ∈ todo
  gt : ∀ x ∈ seen, i < x
  mem : x ∈ seen
  reach : ∀ x ∈ seen, Reach ms i x
  todoR : ∀ x ∈ todo, i < x → Reach ms i x
  closed : ∀ k ∈ seen, k ≠ x → ∀ x ∈ nexts ms k, k < x → x ∈ seen ∨ x ∈ todo
  part : ∀ y ∈ more.take t, x < y → y ∈ seen ∨ y ∈ todo
  nd : seen.Nodup
  univ : ∀ x ∈ seen, x ∈ univ ms i
  todoU : ∀ x ∈ todo, x ∈ Proofs.Ytnkboccngialiaa.univ ms i
  sorted : out.Pairwise (· < ·)
  out : ∀ x, x ∈ out ↔ x ∈ seen ∧ obs ms x = false
theorem RefInv.mid {ms : List MV} {i x : Int} {seen todo out more : List Int} (h : RefInv ms i seen (x :: todo) out) (h1 : i < x) (h2 : x ∉ seen) (ho : obs ms x = true) : RefMid ms i (seen ++ [x]) x more 0 todo out := by
  have aux : ∀ y, y ∈ seen ∨ y ∈ x :: todo → y ∈ seen ++ [x] ∨ y ∈ todo := by
    intro y hh
    rw [List.mem_append, List.mem_singleton]
    rcases hh with hh | hh
    · exact .inl (.inl hh)
    · rcases List.mem_cons.1 hh with rfl | hh
      · exact .inl (.inr rfl)
      · exact .inr hh
  have mem : ∀ {p : Int → Prop}, (∀ y ∈ seen, p y) → p x → ∀ y ∈ seen ++ [x], p y := by
    intro p hp hx y hy
    rw [List.mem_append, List.mem_singleton] at hy
    rcases hy with hy | rfl
    · exact hp y hy
    · exact hx
  refine ⟨fun y hy hl => aux y (h.start y hy hl), mem h.gt h1, by simp, mem h.reach (h.todoR x (by simp) h1), fun y hy => h.todoR y (by simp [hy]), fun k hk hne y hy hl => ?_, by simp, ?_, mem h.univ (h.todoU x (by simp)), fun y hy => h.todoU y (by simp [hy]), h.sorted, fun y => ?_⟩
  · rw [List.mem_append, List.mem_singleton] at hk
    rcases hk with hk | rfl
    · exact aux y (h.closed k hk y hy hl)
    · exact absurd rfl hne
  · rw [List.nodup_append]
    exact ⟨h.nd, by simp, fun a haa b hb e => h2 (by rw [List.mem_singleton] at hb; subst hb; subst e; exact haa)⟩
  · rw [h.out, List.mem_append, List.mem_singleton]
    constructor
    · rintro ⟨h1, h2⟩; exact ⟨.inl h1, h2⟩
    · rintro ⟨h1 | rfl, h3⟩
      · exact ⟨h1, h3⟩
      · rw [ho] at h3; cases h3
theorem RefMid.skip {ms : List MV} {i x y : Int} {seen todo out more : List Int} {t : Nat} (h : RefMid ms i seen x more t todo out) (hy : more[t]? = some y) (hle : ¬ x < y) : RefMid ms i seen x more (t + 1) todo out := by
  refine ⟨h.start, h.gt, h.mem, h.reach, h.todoR, h.closed, fun z hz hl => ?_, h.nd, h.univ, h.todoU, h.sorted, h.out⟩
  obtain ⟨ht, rfl⟩ := List.getElem?_eq_some_iff.1 hy
  rw [List.take_succ_eq_append_getElem ht, List.mem_append, List.mem_singleton] at hz
  rcases hz with hz | rfl
  · exact h.part z hz hl
  · exact absurd hl hle
theorem RefMid.push {ms : List MV} {i x y : Int} {seen todo out more : List Int} {t : Nat} (h : RefMid ms i seen x more t todo out) (hm : NextIs ms x more) (hy : more[t]? = some y) (hlt : x < y) : RefMid ms i seen x more (t + 1) (todo ++ [y]) out := by
  have up : ∀ z, z ∈ seen ∨ z ∈ todo → z ∈ seen ∨ z ∈ todo ++ [y] := fun z hz => hz.imp id fun h => List.mem_append_left _ h
  have hyn : y ∈ nexts ms x := (hm.mem y).1 (List.mem_of_getElem? hy)
  have mem : ∀ {p : Int → Prop}, (∀ y ∈ todo, p y) → p y → ∀ z ∈ todo ++ [y], p z := by
    intro p hp hx z hz
    rw [List.mem_append, List.mem_singleton] at hz
    rcases hz with hz | rfl
    · exact hp z hz
    · exact hx
  refine ⟨fun z hz hl => up z (h.start z hz hl), h.gt, h.mem, h.reach, mem h.todoR fun _ => .step (h.reach x h.mem) hyn hlt, fun k hk hne z hz hl => up z (h.closed k hk hne z hz hl), fun z hz hl => ?_, h.nd, h.univ, mem h.todoU (nexts_univ hyn), h.sorted, h.out⟩
  obtain ⟨ht, rfl⟩ := List.getElem?_eq_some_iff.1 hy
  rw [List.take_succ_eq_append_getElem ht, List.mem_append, List.mem_singleton] at hz
  rcases hz with hz | rfl
  · exact up z (h.part z hz hl)
  · exact .inr (by simp)
theorem RefMid.stop {ms : List MV} {i x : Int} {seen todo out more : List Int} {t : Nat} (h : RefMid ms i seen x more t todo out) (hm : NextIs ms x more) (ht : more.length ≤ t) : RefInv ms i seen todo out := by
  refine ⟨h.start, h.gt, h.reach, h.todoR, fun k hk y hy hl => ?_, h.nd, h.univ, h.todoU, h.sorted, h.out⟩
  by_cases e : k = x
  · subst e
    refine h.part y ?_ hl
    rw [List.take_of_length_le ht]
    exact (hm.mem y).2 hy
  · exact h.closed k hk e y hy hl
theorem RefInv.final {ms : List MV} {i : Int} {seen out : List Int} (h : RefInv ms i seen [] out) (hi : obs ms i = true) : FinalIs ms i out := by
  refine ⟨h.sorted, fun x => ?_⟩
  have e := reach_iff (S := fun x => x = i ∨ x ∈ seen) (.inl rfl) (fun x hx => hx.elim (fun e => e ▸ .refl) (h.reach x)) (fun k x hk hx hl => by
    rcases hk with rfl | hk
    · exact .inr ((h.start x hx hl).resolve_right (by simp))
    · exact .inr ((h.closed k hk x hx hl).resolve_right (by simp))) x
  rw [h.out, e]
  constructor
  · rintro ⟨h1, h2⟩; exact ⟨.inr h1, h2⟩
  · rintro ⟨rfl | h1, h2⟩
    · rw [hi] at h2; cases h2
    · exact ⟨h1, h2⟩
/-- How far it is still. -/
theorem RefInv.seen_le {ms : List MV} {i : Int} {seen todo out : List Int} (h : RefInv ms i seen todo out) (hf : fewM ms = true) : seen.length ≤ 481 := by
  have := nodup_le h.nd h.univ; have := univ_le (i := i) hf; omega
theorem RefMid.seen_le {ms : List MV} {i x : Int} {seen todo out more : List Int} {t : Nat} (h : RefMid ms i seen x more t todo out) (hf : fewM ms = true) : seen.length ≤ 481 := by
  have := nodup_le h.nd h.univ; have := univ_le (i := i) hf; omega
end Go.Proofs.Ytnkboccngialiaa
