/- Slices of edits, and of hunks, among a law's arguments: opened. -/
import Derived.Test.YtabiegbbbljhlaaRow
import Derived.Test.YtabiegbbbljhlaaOwn
import Derived.ChangeArms
import Derived.ChangeSame
import Derived.ChangeOld
namespace Go.Proofs.Ytabiegbbbljhlaa
open Go.ChangeShapes Go.WideShapes Go.ChangeAt Go.RowKit

theorem list_of {α : Type} {P : Nat → α → Prop} : ∀ {n : Nat}, (∀ i, i < n → ∃ a, P i a) → ∃ l : List α, l.length = n ∧ ∀ i a, l[i]? = some a → P i a
  | 0, _ => ⟨[], rfl, by simp⟩
  | n + 1, h => by
    obtain ⟨l, hl, hp⟩ := list_of (n := n) fun i hi => h i (by omega)
    obtain ⟨a, ha⟩ := h n (by omega)
    refine ⟨l ++ [a], by simp [hl], fun i x hx => ?_⟩
    rcases Nat.lt_or_ge i n with hi | hi
    · rw [List.getElem?_append_left (by omega)] at hx; exact hp i x hx
    · have hlt := (List.getElem?_eq_some_iff.1 hx).1
      rw [List.length_append, List.length_singleton] at hlt
      obtain rfl : i = n := by omega
      rw [List.getElem?_append_right (by omega), hl, Nat.sub_self] at hx
      obtain rfl := Option.some.inj hx
      exact ha
theorem flat_get {α : Type} {f : α → List Value} {k : Nat} (hf : ∀ a, (f a).length = k) (hk : 0 < k) : ∀ {l : List α} {j : Nat} {u : Value}, (l.flatMap f)[j]? = some u → ∃ a, l[j / k]? = some a ∧ (f a)[j % k]? = some u
  | [], j, u, h => by simp at h
  | x :: l, j, u, h => by
    rw [List.flatMap_cons] at h
    rcases Nat.lt_or_ge j k with hj | hj
    · rw [List.getElem?_append_left (by rw [hf]; exact hj)] at h
      exact ⟨x, by rw [Nat.div_eq_of_lt hj]; rfl, by rw [Nat.mod_eq_of_lt hj]; exact h⟩
    · rw [List.getElem?_append_right (by rw [hf]; exact hj), hf] at h
      obtain ⟨a, h1, h2⟩ := flat_get hf hk h
      refine ⟨a, ?_, ?_⟩
      · rw [Nat.div_eq_sub_div hk hj, List.getElem?_cons_succ]; exact h1
      · rw [Nat.mod_eq_sub_mod hj]; exact h2
theorem rd_elems {W : World} {a : Addr} {len cap sz : Nat} {α : Type} {f : α → List Value} {es : List α} (hf : ∀ x, (f x).length = sz) (hsz : 0 < sz) (hl : es.length = len) (hcap : len ≤ cap)
    (hb : 0 < len → a.block < W.heap.size) (hcell : ∀ i e, es[i]? = some e → ∀ t u, (f e)[t]? = some u → W.cell? ((a.add (i * sz)).add t) = some u) : Rd W W.heap.size sz (some a) len cap (es.flatMap f) := by
  refine ⟨by rw [len_flat hf, hl], hcap, fun hn => ?_⟩
  obtain ⟨b, off, spot⟩ := a
  have hspot : spot = none := by
    have h0 := hcell 0 (es[0]'(by omega)) (List.getElem?_eq_getElem _) 0 ((f (es[0]'(by omega)))[0]'(by rw [hf]; exact hsz)) (List.getElem?_eq_getElem _)
    simpa [Addr.add] using World.cell?_spot h0
  subst hspot
  refine ⟨b, off, rfl, hb hn, fun j u hu => ?_⟩
  obtain ⟨x, h1, h2⟩ := flat_get hf hsz hu
  have := hcell _ x h1 _ u h2
  rw [add_plain, add_plain] at this
  rw [show off + j = off + j / sz * sz + j % sz by rw [Nat.add_assoc, Nat.mul_comm (j / sz) sz, Nat.div_add_mod]]
  exact this

section
variable {H : Type} {enc : TypeId × Value → H} {W : World}
theorem int_bounds {k : Int} (h : (Lit.int .i64 k).wf = true) : -9223372036854775808 ≤ k ∧ k ≤ 9223372036854775807 := by
  simp only [Lit.wf, Bool.and_eq_true, decide_eq_true_eq] at h
  have e1 : IntKind.i64.min = -9223372036854775808 := by decide
  have e2 : IntKind.i64.max = 9223372036854775807 := by decide
  rw [e1, e2] at h
  exact h
set_option maxRecDepth 100000 in
theorem open_edits {t : TypeId} {v : Value} {d : DataW H} {ps : List MemPlace} {b0 : Nat} (hu : Try.prog.underlying t = some (.slice 37)) (hval : Value.okWide Try.prog W .any b0 t v)
    (h : DataW.Trod enc Try.prog W 0 (fun _ => true) true t v d ps) : ∃ (A : Option Addr) (n c : Nat) (es : List EV), v = .slice A n c ∧ Rd W W.heap.size 2 A n c (es.flatMap EV.cells) := by
  obtain ⟨a0, len, cap, rfl⟩ := okWide_slice hu hval
  obtain ⟨fuel, hf⟩ := h
  rcases DataW.trod_slice hu hf with ⟨hcs, hx⟩ | ⟨a, len', cap', elems, rest, n, _, hcs, hx, _, hl, _, hlen, hel, _, _⟩
  · simp [Value.cells] at hcs
    obtain ⟨rfl, rfl, rfl⟩ := hcs
    exact ⟨none, 0, 0, [], rfl, Rd.none_ _ _ _⟩
  · simp [Value.cells] at hcs
    obtain ⟨rfl, rfl, rfl⟩ := hcs
    have hc : Try.prog.cellsOf 37 = 2 := by kernel_rfl
    have hc3 : Try.prog.cellsOf 3 = 1 := by kernel_rfl
    have hc9 : Try.prog.cellsOf 9 = 1 := by kernel_rfl
    rw [hc] at hel
    have each : ∀ i, i < len → ∃ e : EV, (∀ t u, e.cells[t]? = some u → W.cell? ((a.add (i * 2)).add t) = some u) ∧ (a.add (i * 2)).block < W.heap.size := by
      intro i hi
      have h1 := hel i hi
      rw [List.getElem?_eq_getElem (by omega : i < elems.length), Option.bind_eq_some_iff] at h1
      obtain ⟨cs, hcs, htr⟩ := h1
      obtain ⟨_, hl2, hcell⟩ := World.cells?_some hcs
      have hblk := World.cells?_block hcs (by omega)
      obtain ⟨y0, y1, m, _, _, t0, t1⟩ := trod_struct2 Try.underlying37 htr
      match cs, hl2 with
      | [c0, c1], _ =>
        simp only [hc3, hc9, List.drop_zero, List.drop_succ_cons, List.take_succ_cons, List.take_zero] at t0 t1
        obtain ⟨K, e0, _, _⟩ := DataW.trod_int Try.underlying3 t0
        obtain ⟨s, e1, _, _⟩ := DataW.trod_string Try.underlying9 t1
        cases e0; cases e1
        refine ⟨⟨K, s⟩, fun t u hu => ?_, hblk⟩
        have ht : t < 2 := by have := (List.getElem?_eq_some_iff.1 hu).1; simpa [EV.cells] using this
        rw [hcell t ht]
        exact hu
    obtain ⟨es, hes, hp⟩ := list_of each
    refine ⟨_, _, _, es, rfl, rd_elems (fun _ => rfl) (by omega) hes hl (fun h0 => ?_) fun i e he => (hp i e he).1⟩
    have := (hp 0 (es[0]'(by omega)) (List.getElem?_eq_getElem _)).2
    rwa [block_add] at this
/-- A slice of strings, within a datum. -/
theorem open_part {fuel : Nat} {c : Value} {x : DataW H × List MemPlace} (h : DataW.trod enc Try.prog W 0 (fun _ => true) true fuel 22 [c] = some x) (hw : ∀ n ∈ DataW.weights Try.prog 22 x.1, n ≤ reachBytes) :
    ∃ (A : Option Addr) (n c' : Nat) (l : List ByteArray), c = .slice A n c' ∧ l.length = n ∧ Rd W W.heap.size 1 A n c' (l.map .string) ∧ n ≤ 70368744177664 := by
  have h' := h
  rcases open_strings Try.underlying22 Try.underlying9 (by kernel_rfl) h with ⟨hcs, hx⟩ | ⟨a, len, cap, ss, hcs, _, hl, hm, hz, hx, hcell, hws⟩
  · cases hcs
    exact ⟨none, 0, 0, [], rfl, rfl, Rd.none_ _ _ _, by decide⟩
  · cases hcs
    simp only [if_true] at hz
    subst hx
    have hb16 : Try.prog.bytesOf 9 = 16 := by kernel_rfl
    have hcap := hw ((len + (cap - len)) * 16) (by
      simp only [DataW.weights, Try.underlying22, hb16, strs, List.length_map, List.length_take, List.length_drop, hz, Nat.min_eq_left hl]
      exact List.mem_cons_self ..)
    refine ⟨some a, len, cap, ss.take len, rfl, by rw [List.length_take]; omega, ⟨by simp; omega, hl, fun hn => ?_⟩, by simp only [reachBytes] at hcap; omega⟩
    obtain ⟨b, off, spot⟩ := a
    have hspot : spot = none := by simpa [Addr.add] using World.cell?_spot (hcell 0 (by omega))
    subst hspot
    have hblk : b < W.heap.size := by
      have h0 := hcell 0 (by omega)
      rw [add_plain] at h0
      exact World.block_lt_of_cell? _ _ h0
    refine ⟨b, off, rfl, hblk, fun j u hu' => ?_⟩
    rw [List.getElem?_map, List.getElem?_take] at hu'
    split at hu'
    · rename_i hj
      have := hcell j (by omega)
      rw [add_plain] at this
      rw [this, List.getD]
      cases hs : ss[j]? with
      | none => rw [hs] at hu'; cases hu'
      | some s => rw [hs] at hu'; simpa using hu'
    · cases hu'
theorem trod_struct3 {P : Program} {w : World} {base : Nat} {spare : Nat → Bool} {held : Bool} {t : TypeId} {f0 f1 f2 : Field} {fuel : Nat} {cs : List Value} {x : DataW H × List MemPlace} (ht : P.underlying t = some (.struct #[f0, f1, f2]))
    (h : DataW.trod enc P w base spare held fuel t cs = some x) :
    ∃ y0 y1 y2 n, x.1 = .agg [y0.1, y1.1, y2.1] ∧ DataW.trod enc P w base spare held n f0.type ((cs.drop f0.offset).take (P.cellsOf f0.type)) = some y0 ∧
      DataW.trod enc P w base spare held n f1.type ((cs.drop f1.offset).take (P.cellsOf f1.type)) = some y1 ∧ DataW.trod enc P w base spare held n f2.type ((cs.drop f2.offset).take (P.cellsOf f2.type)) = some y2 := by
  obtain ⟨xs, n, _, rfl, hl, hlen, hf⟩ := DataW.trod_struct ht h
  match xs, hlen with
  | [y0, y1, y2], _ => exact ⟨y0, y1, y2, n, by simp, by simpa using hf 0 f0 rfl, by simpa using hf 1 f1 rfl, by simpa using hf 2 f2 rfl⟩

set_option maxRecDepth 100000 in
theorem open_hunks {ts : List TypeId} {ds : List (DataW H)} {t : TypeId} {v : Value} {d : DataW H} {ps : List MemPlace} {j b0 : Nat} (hu : Try.prog.underlying t = some (.slice 29))
    (hsz : (DataW.weightsEach Try.prog ts ds).all (· ≤ reachBytes) = true) (ht : ts[j]? = some t) (hd : ds[j]? = some d) (hval : Value.okWide Try.prog W .any b0 t v)
    (h : DataW.Trod enc Try.prog W 0 (fun _ => true) true t v d ps) : ∃ (A : Option Addr) (n c : Nat) (hs : List HV), v = .slice A n c ∧ RdH W W.heap.size A n c hs ∧ n ≤ 70368744177664 := by
  obtain ⟨a0, len, cap, rfl⟩ := okWide_slice hu hval
  obtain ⟨fuel, hf⟩ := h
  rcases DataW.trod_slice hu hf with ⟨hcs, hx⟩ | ⟨a, len', cap', elems, rest, n, _, hcs, hx, _, hl, _, hlen, hel, _, _⟩
  · simp [Value.cells] at hcs
    obtain ⟨rfl, rfl, rfl⟩ := hcs
    exact ⟨none, 0, 0, [], rfl, ⟨Rd.none_ _ _ _, rfl, by simp⟩, by decide⟩
  · simp [Value.cells] at hcs
    obtain ⟨rfl, rfl, rfl⟩ := hcs
    have hc : Try.prog.cellsOf 29 = 3 := by kernel_rfl
    have hc3 : Try.prog.cellsOf 3 = 1 := by kernel_rfl
    have hc22 : Try.prog.cellsOf 22 = 1 := by kernel_rfl
    have hb29 : Try.prog.bytesOf 29 = 56 := by kernel_rfl
    rw [hc] at hel
    simp only [Prod.mk.injEq] at hx
    have hwt : ∀ n ∈ DataW.weights Try.prog t d, n ≤ reachBytes := fun n hn => by
      have := List.all_eq_true.1 hsz _ (DataW.weights_mem_each ht hd n hn)
      simpa using this
    rw [hx.1] at hwt
    simp only [DataW.weights, hu, hb29, List.mem_cons, List.mem_append] at hwt
    have hlen2 : len ≤ 70368744177664 := by
      have := hwt _ (.inl rfl)
      simp only [List.length_map, hlen, reachBytes] at this
      omega
    have each : ∀ i, i < len → ∃ e : HV, ((∀ t u, e.cells[t]? = some u → W.cell? ((a.add (i * 3)).add t) = some u) ∧ (a.add (i * 3)).block < W.heap.size) ∧
        (Rd W W.heap.size 1 e.oA e.old.length e.oc (e.old.map .string) ∧ Rd W W.heap.size 1 e.nA e.new.length e.nc (e.new.map .string) ∧ e.old.length ≤ 70368744177664 ∧ e.new.length ≤ 70368744177664 ∧ -9223372036854775808 ≤ e.at_ ∧ e.at_ ≤ 9223372036854775807) := by
      intro i hi
      have h1 := hel i hi
      have hmem := List.getElem_mem (by omega : i < elems.length)
      rw [List.getElem?_eq_getElem (by omega : i < elems.length), Option.bind_eq_some_iff] at h1
      obtain ⟨cs, hcs, htr⟩ := h1
      obtain ⟨_, hl2, hcell⟩ := World.cells?_some hcs
      have hblk := World.cells?_block hcs (by omega)
      obtain ⟨y0, y1, y2, m, hy, t0, t1, t2⟩ := trod_struct3 Try.underlying29 htr
      have hw2 : ∀ n ∈ DataW.weights Try.prog 29 elems[i].1, n ≤ reachBytes := fun n hn => hwt n (.inr (.inl (weights_mem_all (List.mem_map.2 ⟨_, hmem, rfl⟩) n hn)))
      rw [hy] at hw2
      simp only [DataW.weights, Try.underlying29] at hw2
      match cs, hl2 with
      | [c0, c1, c2], _ =>
        simp only [hc3, hc22, List.drop_zero, List.drop_succ_cons, List.take_succ_cons, List.take_zero] at t0 t1 t2
        obtain ⟨K, e0, _, hwf⟩ := DataW.trod_int Try.underlying3 t0
        obtain ⟨A1, n1, k1, l1, e1, hl1, hr1, hn1⟩ := open_part t1 (fun n hn => hw2 n (DataW.weights_mem_each (j := 1) rfl rfl n hn))
        obtain ⟨A2, n2, k2, l2, e2, hl2', hr2, hn2⟩ := open_part t2 (fun n hn => hw2 n (DataW.weights_mem_each (j := 2) rfl rfl n hn))
        cases e0
        subst e1 e2 hl1 hl2'
        obtain ⟨b1, b2⟩ := int_bounds hwf
        refine ⟨⟨K, A1, k1, l1, A2, k2, l2⟩, ⟨fun t u hu => ?_, hblk⟩, hr1, hr2, hn1, hn2, b1, b2⟩
        have ht : t < 3 := by have := (List.getElem?_eq_some_iff.1 hu).1; simpa [HV.cells] using this
        rw [hcell t ht]
        exact hu
    obtain ⟨es, hes, hp⟩ := list_of each
    refine ⟨_, _, _, es, rfl, ⟨rd_elems (fun _ => rfl) (by omega) hes hl (fun h0 => ?_) fun i e he => (hp i e he).1.1, hes, fun x hx => ?_⟩, hlen2⟩
    · have := (hp 0 (es[0]'(by omega)) (List.getElem?_eq_getElem _)).1.2
      rwa [block_add] at this
    · obtain ⟨i, hi, rfl⟩ := List.getElem_of_mem hx
      exact (hp i _ (List.getElem?_eq_getElem hi)).2
end
end Go.Proofs.Ytabiegbbbljhlaa
