/- Slices of bytes, and of numbers, among a law's arguments: opened. -/
import Derived.Test.YtnkboccngialiaaDoorPlain
import Derived.Test.YtnkboccngialiaaDoorS1
import Derived.ChangeSlices
namespace Go.Proofs.YtnkboccngialiaaDoor
open Go.ChangeShapes Go.WideShapes Go.ChangeAt Go.RowKit
section
variable {H : Type} {enc : TypeId × Value → H}
set_option maxRecDepth 100000 in
theorem open_nums {ts : List TypeId} {ds : List (DataW H)} {W : World} {t e : TypeId} {k : IntKind} {bytes : Nat} {v : Value} {d : DataW H} {ps : List MemPlace} {j b0 : Nat} (hu : Tryd.prog.underlying t = some (.slice e))
    (he : Tryd.prog.underlying e = some (.int k)) (hc1 : Tryd.prog.cellsOf e = 1) (hb : Tryd.prog.bytesOf e = bytes)
    (hsz : (DataW.weightsEach Tryd.prog ts ds).all (· ≤ reachBytes) = true) (ht : ts[j]? = some t) (hd : ds[j]? = some d)
    (hval : Value.okWide Tryd.prog W .any b0 t v) (h : DataW.Trod enc Tryd.prog W 0 (fun _ => true) true t v d ps) :
    ∃ (A : Option Addr) (n c : Nat) (zs : List Int), v = .slice A n c ∧ Rd W W.heap.size 1 A n c (zs.map (.int k)) ∧ c * bytes ≤ 140737488351232 ∧ ∀ z ∈ zs, (Lit.int k z).wf = true := by
  obtain ⟨a0, len, cap, rfl⟩ := okWide_slice hu hval
  obtain ⟨fuel, hf⟩ := h
  rcases open_ints hu he hc1 hf with ⟨hcs, hx⟩ | ⟨a, len', cap', zs, hcs, _, hl, hm, hz, hx, hcell, hws⟩
  · simp [Value.cells] at hcs
    obtain ⟨rfl, rfl, rfl⟩ := hcs
    exact ⟨none, 0, 0, [], rfl, Rd.none_ _ _ _, by omega, by simp⟩
  · simp [Value.cells] at hcs
    obtain ⟨rfl, rfl, rfl⟩ := hcs
    simp only [Prod.mk.injEq] at hx
    obtain ⟨rfl, rfl⟩ := hx
    simp only [if_true] at hz
    refine ⟨_, _, _, zs.take len, rfl, ⟨by simp; omega, hl, fun hn => ?_⟩, ?_, fun z hz' => hws z (List.mem_of_mem_take hz')⟩
    · obtain ⟨b, off, spot⟩ := a
      have hspot : spot = none := by simpa [Addr.add] using World.cell?_spot (hcell 0 (by omega))
      subst hspot
      have hblk : b < W.heap.size := by
        have h0 := hcell 0 (by omega)
        rw [add_plain] at h0
        exact World.block_lt_of_cell? _ _ h0
      refine ⟨b, off, rfl, hblk, fun j u hu' => ?_⟩
      rw [List.getElem?_map, List.getElem?_take] at hu'
      split at hu'
      · rename_i hj
        have := hcell j (by omega)
        rw [add_plain] at this
        rw [this, List.getD]
        cases hs : zs[j]? with
        | none => rw [hs] at hu'; cases hu'
        | some s => rw [hs] at hu'; simpa using hu'
      · cases hu'
    · have := sized_slice hsz (j := j) (t := t) (e := e) ht hd hu
      rw [hb] at this
      simp only [lits, List.length_map, List.length_take, List.length_drop, reachBytes] at this
      rw [hz, Nat.min_eq_left hl, show len + (cap - len) = cap by omega] at this
      omega
set_option maxRecDepth 100000 in
theorem open_bytes {ts : List TypeId} {ds : List (DataW H)} {W : World} {v : Value} {d : DataW H} {ps : List MemPlace} {j b0 : Nat}
    (hsz : (DataW.weightsEach Tryd.prog ts ds).all (· ≤ reachBytes) = true) (ht : ts[j]? = some 22) (hd : ds[j]? = some d)
    (hval : Value.okWide Tryd.prog W .any b0 22 v) (h : DataW.Trod enc Tryd.prog W 0 (fun _ => true) true 22 v d ps) :
    ∃ (A : Option Addr) (n c : Nat) (l : List UInt8), v = .slice A n c ∧ Rd W W.heap.size 1 A n c (by8 l) ∧ c ≤ 140737488351232 := by
  obtain ⟨A, n, c, zs, rfl, hr, hc, hw⟩ := open_nums (k := .u8) (bytes := 1) Tryd.underlying22 Tryd.underlying5 (by kernel_rfl) (by kernel_rfl) hsz ht hd hval h
  refine ⟨A, n, c, zs.map fun z => UInt8.ofNat z.toNat, rfl, ?_, by omega⟩
  have : by8 (zs.map fun z => UInt8.ofNat z.toNat) = zs.map (.int .u8) := by
    unfold by8
    rw [List.map_map]
    refine List.map_congr_left fun z hz => ?_
    have h1 := hw z hz
    simp only [Lit.wf, Bool.and_eq_true, decide_eq_true_eq] at h1
    have e1 : IntKind.u8.min = 0 := by decide
    have e2 : IntKind.u8.max = 255 := by decide
    rw [e1, e2] at h1
    simp only [Function.comp]
    have h3 : (UInt8.ofNat z.toNat).toNat = z.toNat := by
      rw [UInt8.toNat_ofNat']
      exact Nat.mod_eq_of_lt (by omega)
    rw [h3, Int.toNat_of_nonneg h1.1]
  rw [this]
  exact hr
set_option maxRecDepth 100000 in
theorem open_i64s {ts : List TypeId} {ds : List (DataW H)} {W : World} {v : Value} {d : DataW H} {ps : List MemPlace} {j b0 : Nat}
    (hsz : (DataW.weightsEach Tryd.prog ts ds).all (· ≤ reachBytes) = true) (ht : ts[j]? = some 38) (hd : ds[j]? = some d)
    (hval : Value.okWide Tryd.prog W .any b0 38 v) (h : DataW.Trod enc Tryd.prog W 0 (fun _ => true) true 38 v d ps) :
    ∃ (A : Option Addr) (n c : Nat) (l : List Int), v = .slice A n c ∧ Rd W W.heap.size 1 A n c (l.map (.int .i64)) ∧ c * 8 ≤ 140737488351232 ∧ ∀ k ∈ l, -9223372036854775808 ≤ k ∧ k ≤ 9223372036854775807 := by
  obtain ⟨A, n, c, zs, rfl, hr, hc, hw⟩ := open_nums (k := .i64) (bytes := 8) Tryd.underlying38 Tryd.underlying39 (by kernel_rfl) (by kernel_rfl) hsz ht hd hval h
  refine ⟨A, n, c, zs, rfl, hr, hc, fun z hz => ?_⟩
  have h1 := hw z hz
  simp only [Lit.wf, Bool.and_eq_true, decide_eq_true_eq] at h1
  have e1 : IntKind.i64.min = -9223372036854775808 := by decide
  have e2 : IntKind.i64.max = 9223372036854775807 := by decide
  rw [e1, e2] at h1
  exact h1
end
end Go.Proofs.YtnkboccngialiaaDoor
