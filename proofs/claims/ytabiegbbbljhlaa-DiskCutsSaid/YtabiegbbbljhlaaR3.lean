/- Slices of bytes, and of numbers, among a law's arguments: opened. -/
import Derived.Test.YtabiegbbbljhlaaRow
import Derived.Test.YtabiegbbbljhlaaX0
import Derived.Test.YtabiegbbbljhlaaRow2
import Derived.ChangeSlices
namespace Go.Proofs.Ytabiegbbbljhlaa
open Go.ChangeShapes Go.WideShapes Go.ChangeAt Go.RowKit
section
variable {H : Type} {enc : TypeId × Value → H}
theorem open_nums {ts : List TypeId} {ds : List (DataW H)} {W : World} {t e : TypeId} {k : IntKind} {bytes : Nat} {v : Value} {d : DataW H} {ps : List MemPlace} {j b0 : Nat} (hu : Try.prog.underlying t = some (.slice e))
    (he : Try.prog.underlying e = some (.int k)) (hc1 : Try.prog.cellsOf e = 1) (hb : Try.prog.bytesOf e = bytes)
    (hsz : (DataW.weightsEach Try.prog ts ds).all (· ≤ reachBytes) = true) (ht : ts[j]? = some t) (hd : ds[j]? = some d)
    (hval : Value.okWide Try.prog W .any b0 t v) (h : DataW.Trod enc Try.prog W 0 (fun _ => true) true t v d ps) :
    ∃ (A : Option Addr) (n c : Nat) (zs : List Int), v = .slice A n c ∧ Rd W W.heap.size 1 A n c (zs.map (.int k)) ∧ c * bytes ≤ 140737488351232 ∧ ∀ z ∈ zs, (Lit.int k z).wf = true := by
  obtain ⟨a0, len, cap, rfl⟩ := okWide_slice hu hval
  obtain ⟨fuel, hf⟩ := h
  rcases open_ints hu he hc1 hf with ⟨hcs, hx⟩ | ⟨a, len', cap', zs, hcs, _, hl, hm, hz, hx, hcell, hws⟩
  · simp [Value.cells] at hcs
    obtain ⟨rfl, rfl, rfl⟩ := hcs
    exact ⟨none, 0, 0, [], rfl, Rd.none_ _ _ _, by omega, by simp⟩
  · simp [Value.cells] at hcs
    obtain ⟨rfl, rfl, rfl⟩ := hcs
    simp only [Prod.mk.injEq] at hx
    obtain ⟨rfl, rfl⟩ := hx
    simp only [if_true] at hz
    refine ⟨_, _, _, zs.take len, rfl, ⟨by simp; omega, hl, fun hn => ?_⟩, ?_, fun z hz' => hws z (List.mem_of_mem_take hz')⟩
    · obtain ⟨b, off, spot⟩ := a
      have hspot : spot = none := by simpa [Addr.add] using World.cell?_spot (hcell 0 (by omega))
      subst hspot
      have hblk : b < W.heap.size := by
        have h0 := hcell 0 (by omega)
        rw [add_plain] at h0
        exact World.block_lt_of_cell? _ _ h0
      refine ⟨b, off, rfl, hblk, fun j u hu' => ?_⟩
      rw [List.getElem?_map, List.getElem?_take] at hu'
      split at hu'
      · rename_i hj
        have := hcell j (by omega)
        rw [add_plain] at this
        rw [this, List.getD]
        cases hs : zs[j]? with
        | none => rw [hs] at hu'; cases hu'
        | some s => rw [hs] at hu'; simpa using hu'
      · cases hu'
    · have := sized_slice hsz (j := j) (t := t) (e := e) ht hd hu
      rw [hb] at this
      simp only [lits, List.length_map, List.length_take, List.length_drop, reachBytes] at this
      rw [hz, Nat.min_eq_left hl, show len + (cap - len) = cap by omega] at this
      omega
set_option maxRecDepth 100000 in
theorem open_bytes {ts : List TypeId} {ds : List (DataW H)} {W : World} {v : Value} {d : DataW H} {ps : List MemPlace} {j b0 : Nat}
    (hsz : (DataW.weightsEach Try.prog ts ds).all (· ≤ reachBytes) = true) (ht : ts[j]? = some 48) (hd : ds[j]? = some d)
    (hval : Value.okWide Try.prog W .any b0 48 v) (h : DataW.Trod enc Try.prog W 0 (fun _ => true) true 48 v d ps) :
    ∃ (A : Option Addr) (n c : Nat) (l : List UInt8), v = .slice A n c ∧ Rd W W.heap.size 1 A n c (by8 l) ∧ c ≤ 140737488351232 := by
  obtain ⟨A, n, c, zs, rfl, hr, hc, hw⟩ := open_nums (k := .u8) (bytes := 1) Try.underlying48 Try.underlying5 (by kernel_rfl) (by kernel_rfl) hsz ht hd hval h
  refine ⟨A, n, c, zs.map fun z => UInt8.ofNat z.toNat, rfl, ?_, by omega⟩
  have : by8 (zs.map fun z => UInt8.ofNat z.toNat) = zs.map (.int .u8) := by
    unfold by8
    rw [List.map_map]
    refine List.map_congr_left fun z hz => ?_
    have h1 := hw z hz
    simp only [Lit.wf, Bool.and_eq_true, decide_eq_true_eq] at h1
    have e1 : IntKind.u8.min = 0 := by decide
    have e2 : IntKind.u8.max = 255 := by decide
    rw [e1, e2] at h1
    simp only [Function.comp]
    have h3 : (UInt8.ofNat z.toNat).toNat = z.toNat := by
      rw [UInt8.toNat_ofNat']
      exact Nat.mod_eq_of_lt (by omega)
    rw [h3, Int.toNat_of_nonneg h1.1]
  rw [this]
  exact hr
set_option maxRecDepth 100000 in
theorem open_i64s {ts : List TypeId} {ds : List (DataW H)} {W : World} {v : Value} {d : DataW H} {ps : List MemPlace} {j b0 : Nat}
    (hsz : (DataW.weightsEach Try.prog ts ds).all (· ≤ reachBytes) = true) (ht : ts[j]? = some 64) (hd : ds[j]? = some d)
    (hval : Value.okWide Try.prog W .any b0 64 v) (h : DataW.Trod enc Try.prog W 0 (fun _ => true) true 64 v d ps) :
    ∃ (A : Option Addr) (n c : Nat) (l : List Int), v = .slice A n c ∧ Rd W W.heap.size 1 A n c (i64s l) ∧ c * 8 ≤ 140737488351232 ∧ ∀ k ∈ l, -9223372036854775808 ≤ k ∧ k ≤ 9223372036854775807 := by
  obtain ⟨A, n, c, zs, rfl, hr, hc, hw⟩ := open_nums (k := .i64) (bytes := 8) Try.underlying64 Try.underlying3 (by kernel_rfl) (by kernel_rfl) hsz ht hd hval h
  refine ⟨A, n, c, zs, rfl, hr, hc, fun z hz => ?_⟩
  have h1 := hw z hz
  simp only [Lit.wf, Bool.and_eq_true, decide_eq_true_eq] at h1
  have e1 : IntKind.i64.min = -9223372036854775808 := by decide
  have e2 : IntKind.i64.max = 9223372036854775807 := by decide
  rw [e1, e2] at h1
  exact h1
theorem flat1 {α : Type} (f : α → Value) (l : List α) : (l.flatMap fun x => [f x]) = l.map f := by
  induction l with
  | nil => rfl
  | cons x l ih => rw [List.flatMap_cons, ih]; rfl
/-- A slice of bytes among others. -/
structure BP where
  A : Option Addr
  c : Nat
  l : List UInt8
def BP.cell (p : BP) : Value := .slice p.A p.l.length p.c
theorem open_bpart {W : World} {fuel : Nat} {c : Value} {x : DataW H × List MemPlace} (h : DataW.trod enc Try.prog W 0 (fun _ => true) true fuel 48 [c] = some x) :
    ∃ p : BP, c = p.cell ∧ Rd W W.heap.size 1 p.A p.l.length p.c (by8 p.l) := by
  rcases open_ints Try.underlying48 Try.underlying5 (by kernel_rfl) h with ⟨hcs, hx⟩ | ⟨a, len, cap, zs, hcs, _, hl, hm, hz, hx, hcell, hws⟩
  · cases hcs
    exact ⟨⟨none, 0, []⟩, rfl, Rd.none_ _ _ _⟩
  · cases hcs
    simp only [if_true] at hz
    have hlen : ((zs.take len).map fun z => UInt8.ofNat z.toNat).length = len := by simp; omega
    have hb8 : by8 ((zs.take len).map fun z => UInt8.ofNat z.toNat) = (zs.take len).map (.int .u8) := by
      unfold by8
      rw [List.map_map]
      refine List.map_congr_left fun z hz => ?_
      have h1 := hws z (List.mem_of_mem_take hz)
      simp only [Lit.wf, Bool.and_eq_true, decide_eq_true_eq] at h1
      have e1 : IntKind.u8.min = 0 := by decide
      have e2 : IntKind.u8.max = 255 := by decide
      rw [e1, e2] at h1
      simp only [Function.comp]
      have h3 : (UInt8.ofNat z.toNat).toNat = z.toNat := by
        rw [UInt8.toNat_ofNat']
        exact Nat.mod_eq_of_lt (by omega)
      rw [h3, Int.toNat_of_nonneg h1.1]
    refine ⟨⟨some a, cap, (zs.take len).map fun z => UInt8.ofNat z.toNat⟩, by unfold BP.cell; rw [hlen], ?_⟩
    simp only [hlen, hb8]
    refine ⟨by simp; omega, hl, fun hn => ?_⟩
    obtain ⟨b, off, spot⟩ := a
    have hspot : spot = none := by simpa [Addr.add] using World.cell?_spot (hcell 0 (by omega))
    subst hspot
    have hblk : b < W.heap.size := by
      have h0 := hcell 0 (by omega)
      rw [add_plain] at h0
      exact World.block_lt_of_cell? _ _ h0
    refine ⟨b, off, rfl, hblk, fun j u hu' => ?_⟩
    rw [List.getElem?_map, List.getElem?_take] at hu'
    split at hu'
    · rename_i hj
      have := hcell j (by omega)
      rw [add_plain] at this
      rw [this, List.getD]
      cases hs : zs[j]? with
      | none => rw [hs] at hu'; cases hu'
      | some s => rw [hs] at hu'; simpa using hu'
    · cases hu'
set_option maxRecDepth 100000 in
theorem open_parts {W : World} {v : Value} {d : DataW H} {ps : List MemPlace} {b0 : Nat} (hval : Value.okWide Try.prog W .any b0 62 v) (h : DataW.Trod enc Try.prog W 0 (fun _ => true) true 62 v d ps) :
    ∃ (A : Option Addr) (n c : Nat) (l : List BP), v = .slice A n c ∧ Rd W W.heap.size 1 A n c (l.map BP.cell) ∧ ∀ p ∈ l, Rd W W.heap.size 1 p.A p.l.length p.c (by8 p.l) := by
  obtain ⟨a0, len, cap, rfl⟩ := okWide_slice Try.underlying62 hval
  obtain ⟨fuel, hf⟩ := h
  rcases DataW.trod_slice Try.underlying62 hf with ⟨hcs, hx⟩ | ⟨a, len', cap', elems, rest, n, _, hcs, hx, _, hl, _, hlen, hel, _, _⟩
  · simp [Value.cells] at hcs
    obtain ⟨rfl, rfl, rfl⟩ := hcs
    exact ⟨none, 0, 0, [], rfl, Rd.none_ _ _ _, by simp⟩
  · simp [Value.cells] at hcs
    obtain ⟨rfl, rfl, rfl⟩ := hcs
    have hc : Try.prog.cellsOf 48 = 1 := by kernel_rfl
    rw [hc] at hel
    have each : ∀ i, i < len → ∃ e : BP, ((∀ t u, [e.cell][t]? = some u → W.cell? ((a.add (i * 1)).add t) = some u) ∧ (a.add (i * 1)).block < W.heap.size) ∧ Rd W W.heap.size 1 e.A e.l.length e.c (by8 e.l) := by
      intro i hi
      have h1 := hel i hi
      rw [List.getElem?_eq_getElem (by omega : i < elems.length), Option.bind_eq_some_iff] at h1
      obtain ⟨cs, hcs, htr⟩ := h1
      obtain ⟨_, hl2, hcell⟩ := World.cells?_some hcs
      have hblk := World.cells?_block hcs (by omega)
      match cs, hl2 with
      | [c0], _ =>
        obtain ⟨p, rfl, hp⟩ := open_bpart htr
        refine ⟨p, ⟨fun t u hu => ?_, hblk⟩, hp⟩
        have ht : t < 1 := by have := (List.getElem?_eq_some_iff.1 hu).1; simpa using this
        rw [hcell t ht]
        exact hu
    obtain ⟨es, hes, hp⟩ := list_of each
    refine ⟨_, _, _, es, rfl, ?_, fun x hx => ?_⟩
    · have := rd_elems (sz := 1) (f := fun e : BP => [e.cell]) (fun _ => rfl) (by omega) hes hl (fun h0 => ?_) fun i e he => (hp i e he).1.1
      · rwa [flat1] at this
      · have := (hp 0 (es[0]'(by omega)) (List.getElem?_eq_getElem _)).1.2
        rwa [block_add] at this
    · obtain ⟨i, hi, rfl⟩ := List.getElem_of_mem hx
      exact (hp i _ (List.getElem?_eq_getElem hi)).2
set_option maxRecDepth 100000 in
theorem open_bools {W : World} {v : Value} {d : DataW H} {ps : List MemPlace} {b0 : Nat} (hval : Value.okWide Try.prog W .any b0 63 v) (h : DataW.Trod enc Try.prog W 0 (fun _ => true) true 63 v d ps) :
    ∃ (A : Option Addr) (n c : Nat) (l : List Bool), v = .slice A n c ∧ Rd W W.heap.size 1 A n c (l.map .bool) := by
  obtain ⟨a0, len, cap, rfl⟩ := okWide_slice Try.underlying63 hval
  obtain ⟨fuel, hf⟩ := h
  rcases DataW.trod_slice Try.underlying63 hf with ⟨hcs, hx⟩ | ⟨a, len', cap', elems, rest, n, _, hcs, hx, _, hl, _, hlen, hel, _, _⟩
  · simp [Value.cells] at hcs
    obtain ⟨rfl, rfl, rfl⟩ := hcs
    exact ⟨none, 0, 0, [], rfl, Rd.none_ _ _ _⟩
  · simp [Value.cells] at hcs
    obtain ⟨rfl, rfl, rfl⟩ := hcs
    have hc : Try.prog.cellsOf 4 = 1 := by kernel_rfl
    rw [hc] at hel
    have each : ∀ i, i < len → ∃ e : Bool, (∀ t u, [Value.bool e][t]? = some u → W.cell? ((a.add (i * 1)).add t) = some u) ∧ (a.add (i * 1)).block < W.heap.size := by
      intro i hi
      have h1 := hel i hi
      rw [List.getElem?_eq_getElem (by omega : i < elems.length), Option.bind_eq_some_iff] at h1
      obtain ⟨cs, hcs, htr⟩ := h1
      obtain ⟨_, hl2, hcell⟩ := World.cells?_some hcs
      have hblk := World.cells?_block hcs (by omega)
      match cs, hl2 with
      | [c0], _ =>
        obtain ⟨b, e0, _⟩ := DataW.trod_bool Try.underlying4 htr
        cases e0
        refine ⟨b, fun t u hu => ?_, hblk⟩
        have ht : t < 1 := by have := (List.getElem?_eq_some_iff.1 hu).1; simpa using this
        rw [hcell t ht]
        exact hu
    obtain ⟨es, hes, hp⟩ := list_of each
    refine ⟨_, _, _, es, rfl, ?_⟩
    have := rd_elems (sz := 1) (f := fun e : Bool => [Value.bool e]) (fun _ => rfl) (by omega) hes hl (fun h0 => ?_) fun i e he => (hp i e he).1
    · rwa [flat1] at this
    · have := (hp 0 (es[0]'(by omega)) (List.getElem?_eq_getElem _)).2
      rwa [block_add] at this
end
end Go.Proofs.Ytabiegbbbljhlaa
