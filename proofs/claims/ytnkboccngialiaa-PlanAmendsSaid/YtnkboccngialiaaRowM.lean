/- Slices of markers, and of numbers, among a law's arguments: opened. -/
import Derived.Test.YtnkboccngialiaaM1
import Derived.ChangeArms
import Derived.ChangeSame
import Derived.ChangeOld
import Derived.ChangeSlices
import Derived.Test.YtnkboccngialiaaOwns
namespace Go.Proofs.Ytnkboccngialiaa
open Go.ChangeShapes Go.WideShapes Go.ChangeAt Go.RowKit

theorem list_of {α : Type} {P : Nat → α → Prop} : ∀ {n : Nat}, (∀ i, i < n → ∃ a, P i a) → ∃ l : List α, l.length = n ∧ ∀ i a, l[i]? = some a → P i a
  | 0, _ => ⟨[], rfl, by simp⟩
  | n + 1, h => by
    obtain ⟨l, hl, hp⟩ := list_of (n := n) fun i hi => h i (by omega)
    obtain ⟨a, ha⟩ := h n (by omega)
    refine ⟨l ++ [a], by simp [hl], fun i x hx => ?_⟩
    rcases Nat.lt_or_ge i n with hi | hi
    · rw [List.getElem?_append_left (by omega)] at hx; exact hp i x hx
    · have hlt := (List.getElem?_eq_some_iff.1 hx).1
      rw [List.length_append, List.length_singleton] at hlt
      obtain rfl : i = n := by omega
      rw [List.getElem?_append_right (by omega), hl, Nat.sub_self] at hx
      obtain rfl := Option.some.inj hx
      exact ha
theorem flat_get {α : Type} {f : α → List Value} {k : Nat} (hf : ∀ a, (f a).length = k) (hk : 0 < k) : ∀ {l : List α} {j : Nat} {u : Value}, (l.flatMap f)[j]? = some u → ∃ a, l[j / k]? = some a ∧ (f a)[j % k]? = some u
  | [], j, u, h => by simp at h
  | x :: l, j, u, h => by
    rw [List.flatMap_cons] at h
    rcases Nat.lt_or_ge j k with hj | hj
    · rw [List.getElem?_append_left (by rw [hf]; exact hj)] at h
      exact ⟨x, by rw [Nat.div_eq_of_lt hj]; rfl, by rw [Nat.mod_eq_of_lt hj]; exact h⟩
    · rw [List.getElem?_append_right (by rw [hf]; exact hj), hf] at h
      obtain ⟨a, h1, h2⟩ := flat_get hf hk h
      refine ⟨a, ?_, ?_⟩
      · rw [Nat.div_eq_sub_div hk hj, List.getElem?_cons_succ]; exact h1
      · rw [Nat.mod_eq_sub_mod hj]; exact h2
theorem rd_elems {W : World} {a : Addr} {len cap sz : Nat} {α : Type} {f : α → List Value} {es : List α} (hf : ∀ x, (f x).length = sz) (hsz : 0 < sz) (hl : es.length = len) (hcap : len ≤ cap)
    (hb : 0 < len → a.block < W.heap.size) (hcell : ∀ i e, es[i]? = some e → ∀ t u, (f e)[t]? = some u → W.cell? ((a.add (i * sz)).add t) = some u) : Rd W W.heap.size sz (some a) len cap (es.flatMap f) := by
  refine ⟨by rw [len_flat hf, hl], hcap, fun hn => ?_⟩
  obtain ⟨b, off, spot⟩ := a
  have hspot : spot = none := by
    have h0 := hcell 0 (es[0]'(by omega)) (List.getElem?_eq_getElem _) 0 ((f (es[0]'(by omega)))[0]'(by rw [hf]; exact hsz)) (List.getElem?_eq_getElem _)
    simpa [Addr.add] using World.cell?_spot h0
  subst hspot
  refine ⟨b, off, rfl, hb hn, fun j u hu => ?_⟩
  obtain ⟨x, h1, h2⟩ := flat_get hf hsz hu
  have := hcell _ x h1 _ u h2
  rw [add_plain, add_plain] at this
  rw [show off + j = off + j / sz * sz + j % sz by rw [Nat.add_assoc, Nat.mul_comm (j / sz) sz, Nat.div_add_mod]]
  exact this

section
variable {H : Type} {enc : TypeId × Value → H} {W : World}
theorem int_bounds {k : Int} (h : (Lit.int .i64 k).wf = true) : -9223372036854775808 ≤ k ∧ k ≤ 9223372036854775807 := by
  simp only [Lit.wf, Bool.and_eq_true, decide_eq_true_eq] at h
  have e1 : IntKind.i64.min = -9223372036854775808 := by decide
  have e2 : IntKind.i64.max = 9223372036854775807 := by decide
  rw [e1, e2] at h
  exact h
set_option maxRecDepth 100000 in
theorem open_nums {ts : List TypeId} {ds : List (DataW H)} {t e : TypeId} {k : IntKind} {bytes : Nat} {v : Value} {d : DataW H} {ps : List MemPlace} {j b0 : Nat} (hu : Try.prog.underlying t = some (.slice e))
    (he : Try.prog.underlying e = some (.int k)) (hc1 : Try.prog.cellsOf e = 1) (hb : Try.prog.bytesOf e = bytes)
    (hsz : (DataW.weightsEach Try.prog ts ds).all (· ≤ reachBytes) = true) (ht : ts[j]? = some t) (hd : ds[j]? = some d)
    (hval : Value.okWide Try.prog W .any b0 t v) (h : DataW.Trod enc Try.prog W 0 (fun _ => true) true t v d ps) :
    ∃ (A : Option Addr) (n c : Nat) (zs : List Int), v = .slice A n c ∧ Rd W W.heap.size 1 A n c (zs.map (.int k)) ∧ c * bytes ≤ 140737488351232 ∧ ∀ z ∈ zs, (Lit.int k z).wf = true := by
  obtain ⟨a0, len, cap, rfl⟩ := okWide_slice hu hval
  obtain ⟨fuel, hf⟩ := h
  rcases open_ints hu he hc1 hf with ⟨hcs, hx⟩ | ⟨a, len', cap', zs, hcs, _, hl, hm, hz, hx, hcell, hws⟩
  · simp [Value.cells] at hcs
    obtain ⟨rfl, rfl, rfl⟩ := hcs
    exact ⟨none, 0, 0, [], rfl, Rd.none_ _ _ _, by omega, by simp⟩
  · simp [Value.cells] at hcs
    obtain ⟨rfl, rfl, rfl⟩ := hcs
    simp only [Prod.mk.injEq] at hx
    obtain ⟨rfl, rfl⟩ := hx
    simp only [if_true] at hz
    refine ⟨_, _, _, zs.take len, rfl, ⟨by simp; omega, hl, fun hn => ?_⟩, ?_, fun z hz' => hws z (List.mem_of_mem_take hz')⟩
    · obtain ⟨b, off, spot⟩ := a
      have hspot : spot = none := by simpa [Addr.add] using World.cell?_spot (hcell 0 (by omega))
      subst hspot
      have hblk : b < W.heap.size := by
        have h0 := hcell 0 (by omega)
        rw [add_plain] at h0
        exact World.block_lt_of_cell? _ _ h0
      refine ⟨b, off, rfl, hblk, fun j u hu' => ?_⟩
      rw [List.getElem?_map, List.getElem?_take] at hu'
      split at hu'
      · rename_i hj
        have := hcell j (by omega)
        rw [add_plain] at this
        rw [this, List.getD]
        cases hs : zs[j]? with
        | none => rw [hs] at hu'; cases hu'
        | some s => rw [hs] at hu'; simpa using hu'
      · cases hu'
    · have := sized_slice hsz (j := j) (t := t) (e := e) ht hd hu
      rw [hb] at this
      simp only [lits, List.length_map, List.length_take, List.length_drop, reachBytes] at this
      rw [hz, Nat.min_eq_left hl, show len + (cap - len) = cap by omega] at this
      omega
set_option maxRecDepth 100000 in
theorem open_i64s {ts : List TypeId} {ds : List (DataW H)} {v : Value} {d : DataW H} {ps : List MemPlace} {j b0 : Nat}
    (hsz : (DataW.weightsEach Try.prog ts ds).all (· ≤ reachBytes) = true) (ht : ts[j]? = some 28) (hd : ds[j]? = some d)
    (hval : Value.okWide Try.prog W .any b0 28 v) (h : DataW.Trod enc Try.prog W 0 (fun _ => true) true 28 v d ps) :
    ∃ (A : Option Addr) (n c : Nat) (l : List Int), v = .slice A n c ∧ Rd W W.heap.size 1 A n c (l.map (.int .i64)) ∧ c * 8 ≤ 140737488351232 ∧ ∀ k ∈ l, -9223372036854775808 ≤ k ∧ k ≤ 9223372036854775807 := by
  obtain ⟨A, n, c, zs, rfl, hr, hc, hw⟩ := open_nums (k := .i64) (bytes := 8) Try.underlying28 Try.underlying3 (by kernel_rfl) (by kernel_rfl) hsz ht hd hval h
  refine ⟨A, n, c, zs, rfl, hr, hc, fun z hz => ?_⟩
  have h1 := hw z hz
  simp only [Lit.wf, Bool.and_eq_true, decide_eq_true_eq] at h1
  have e1 : IntKind.i64.min = -9223372036854775808 := by decide
  have e2 : IntKind.i64.max = 9223372036854775807 := by decide
  rw [e1, e2] at h1
  exact h1

/-- A slice of numbers, within a datum. -/
theorem open_part {fuel : Nat} {c : Value} {x : DataW H × List MemPlace} (h : DataW.trod enc Try.prog W 0 (fun _ => true) true fuel 28 [c] = some x) (hw : ∀ n ∈ DataW.weights Try.prog 28 x.1, n ≤ reachBytes) :
    ∃ (A : Option Addr) (n c' : Nat) (l : List Int), c = .slice A n c' ∧ l.length = n ∧ Rd W W.heap.size 1 A n c' (l.map (.int .i64)) ∧ n ≤ 17592186044416 ∧ ∀ z ∈ l, I64 z := by
  rcases open_ints Try.underlying28 Try.underlying3 (by kernel_rfl) h with ⟨hcs, hx⟩ | ⟨a, len, cap, zs, hcs, _, hl, hm, hz, hx, hcell, hws⟩
  · cases hcs
    exact ⟨none, 0, 0, [], rfl, rfl, Rd.none_ _ _ _, by decide, by simp⟩
  · cases hcs
    simp only [if_true] at hz
    subst hx
    have hb8 : Try.prog.bytesOf 3 = 8 := by kernel_rfl
    have hcap := hw ((len + (cap - len)) * 8) (by
      simp only [DataW.weights, Try.underlying28, hb8, lits, List.length_map, List.length_take, List.length_drop, hz, Nat.min_eq_left hl]
      exact List.mem_cons_self ..)
    refine ⟨some a, len, cap, zs.take len, rfl, by rw [List.length_take]; omega, ⟨by simp; omega, hl, fun hn => ?_⟩, by simp only [reachBytes] at hcap; omega, fun z hz' => int_bounds (hws z (List.mem_of_mem_take hz'))⟩
    obtain ⟨b, off, spot⟩ := a
    have hspot : spot = none := by simpa [Addr.add] using World.cell?_spot (hcell 0 (by omega))
    subst hspot
    have hblk : b < W.heap.size := by
      have h0 := hcell 0 (by omega)
      rw [add_plain] at h0
      exact World.block_lt_of_cell? _ _ h0
    refine ⟨b, off, rfl, hblk, fun j u hu' => ?_⟩
    rw [List.getElem?_map, List.getElem?_take] at hu'
    split at hu'
    · rename_i hj
      have := hcell j (by omega)
      rw [add_plain] at this
      rw [this, List.getD]
      cases hs : zs[j]? with
      | none => rw [hs] at hu'; cases hu'
      | some s => rw [hs] at hu'; simpa using hu'
    · cases hu'

set_option maxRecDepth 100000 in
theorem open_markers {ts : List TypeId} {ds : List (DataW H)} {t : TypeId} {v : Value} {d : DataW H} {ps : List MemPlace} {j b0 : Nat} (hu : Try.prog.underlying t = some (.slice 35))
    (hsz : (DataW.weightsEach Try.prog ts ds).all (· ≤ reachBytes) = true) (ht : ts[j]? = some t) (hd : ds[j]? = some d) (hval : Value.okWide Try.prog W .any b0 t v)
    (h : DataW.Trod enc Try.prog W 0 (fun _ => true) true t v d ps) : ∃ (A : Option Addr) (n c : Nat) (hs : List MV), v = .slice A n c ∧ RdM W W.heap.size A n c hs ∧ n ≤ 70368744177664 := by
  obtain ⟨a0, len, cap, rfl⟩ := okWide_slice hu hval
  obtain ⟨fuel, hf⟩ := h
  rcases DataW.trod_slice hu hf with ⟨hcs, hx⟩ | ⟨a, len', cap', elems, rest, n, _, hcs, hx, _, hl, _, hlen, hel, _, _⟩
  · simp [Value.cells] at hcs
    obtain ⟨rfl, rfl, rfl⟩ := hcs
    exact ⟨none, 0, 0, [], rfl, ⟨Rd.none_ _ _ _, rfl, by simp⟩, by decide⟩
  · simp [Value.cells] at hcs
    obtain ⟨rfl, rfl, rfl⟩ := hcs
    have hc : Try.prog.cellsOf 35 = 2 := by kernel_rfl
    have hc3 : Try.prog.cellsOf 3 = 1 := by kernel_rfl
    have hc28 : Try.prog.cellsOf 28 = 1 := by kernel_rfl
    have hb35 : Try.prog.bytesOf 35 = 32 := by kernel_rfl
    rw [hc] at hel
    simp only [Prod.mk.injEq] at hx
    have hwt : ∀ n ∈ DataW.weights Try.prog t d, n ≤ reachBytes := fun n hn => by
      have := List.all_eq_true.1 hsz _ (DataW.weights_mem_each ht hd n hn)
      simpa using this
    rw [hx.1] at hwt
    simp only [DataW.weights, hu, hb35, List.mem_cons, List.mem_append] at hwt
    have hlen2 : len ≤ 70368744177664 := by
      have := hwt _ (.inl rfl)
      simp only [List.length_map, hlen, reachBytes] at this
      omega
    have each : ∀ i, i < len → ∃ e : MV, ((∀ t u, e.cells[t]? = some u → W.cell? ((a.add (i * 2)).add t) = some u) ∧ (a.add (i * 2)).block < W.heap.size) ∧
        (Rd W W.heap.size 1 e.A e.new.length e.c (e.new.map (.int .i64)) ∧ e.new.length ≤ 17592186044416 ∧ I64 e.old ∧ ∀ x ∈ e.new, I64 x) := by
      intro i hi
      have h1 := hel i hi
      have hmem := List.getElem_mem (by omega : i < elems.length)
      rw [List.getElem?_eq_getElem (by omega : i < elems.length), Option.bind_eq_some_iff] at h1
      obtain ⟨cs, hcs, htr⟩ := h1
      obtain ⟨_, hl2, hcell⟩ := World.cells?_some hcs
      have hblk := World.cells?_block hcs (by omega)
      obtain ⟨y0, y1, m, hy, _, t0, t1⟩ := trod_struct2 Try.underlying35 htr
      have hw2 : ∀ n ∈ DataW.weights Try.prog 35 elems[i].1, n ≤ reachBytes := fun n hn => hwt n (.inr (.inl (weights_mem_all (List.mem_map.2 ⟨_, hmem, rfl⟩) n hn)))
      rw [hy] at hw2
      simp only [DataW.weights, Try.underlying35] at hw2
      match cs, hl2 with
      | [c0, c1], _ =>
        simp only [hc3, hc28, List.drop_zero, List.drop_succ_cons, List.take_succ_cons, List.take_zero] at t0 t1
        obtain ⟨K, e0, _, hwf⟩ := DataW.trod_int Try.underlying3 t0
        obtain ⟨A1, n1, k1, l1, e1, hl1, hr1, hn1, hb1⟩ := open_part t1 (fun n hn => hw2 n (DataW.weights_mem_each (j := 1) rfl rfl n hn))
        cases e0
        subst e1 hl1
        refine ⟨⟨K, A1, k1, l1⟩, ⟨fun t u hu => ?_, hblk⟩, hr1, hn1, int_bounds hwf, hb1⟩
        have ht : t < 2 := by have := (List.getElem?_eq_some_iff.1 hu).1; simpa [MV.cells] using this
        rw [hcell t ht]
        exact hu
    obtain ⟨es, hes, hp⟩ := list_of each
    refine ⟨_, _, _, es, rfl, ⟨rd_elems (fun _ => rfl) (by omega) hes hl (fun h0 => ?_) fun i e he => (hp i e he).1.1, hes, fun x hx => ?_⟩, hlen2⟩
    · have := (hp 0 (es[0]'(by omega)) (List.getElem?_eq_getElem _)).1.2
      rwa [block_add] at this
    · obtain ⟨i, hi, rfl⟩ := List.getElem_of_mem hx
      exact (hp i _ (List.getElem?_eq_getElem hi)).2
end
end Go.Proofs.Ytnkboccngialiaa
