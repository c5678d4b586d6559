/- Slices of steps, among a law's arguments: opened. -/
import Derived.Test.YtabiegbbbljhlaaDsk
import Derived.Test.YtabiegbbbljhlaaRow2
import Derived.ChangeSlices
namespace Go.Proofs.Ytabiegbbbljhlaa
open Go.ChangeShapes Go.WideShapes Go.ChangeAt Go.RowKit

/-- A step for a disk, among others. -/
structure OV where
  what : Int
  file : Int
  num : Int
  bA : Option Addr
  bc : Nat
  bytes : List UInt8
  kA : Option Addr
  kc : Nat
  keep : List Int
def OV.cells (o : OV) : List Value := [.int .i64 o.what, .int .i64 o.file, .int .i64 o.num, .slice o.bA o.bytes.length o.bc, .slice o.kA o.keep.length o.kc]
structure OV.ok (w : World) (B : Nat) (o : OV) : Prop where
  b : Rd w B 1 o.bA o.bytes.length o.bc (by8 o.bytes)
  k : Rd w B 1 o.kA o.keep.length o.kc (i64s o.keep)
  kb : ∀ k ∈ o.keep, -9223372036854775808 ≤ k ∧ k ≤ 9223372036854775807
  nb : -9223372036854775808 ≤ o.num ∧ o.num ≤ 9223372036854775807
section
variable {H : Type} {enc : TypeId × Value → H}
theorem trod_struct5 {P : Program} {w : World} {base : Nat} {spare : Nat → Bool} {held : Bool} {t : TypeId} {f0 f1 f2 f3 f4 : Field} {fuel : Nat} {cs : List Value} {x : DataW H × List MemPlace} (ht : P.underlying t = some (.struct #[f0, f1, f2, f3, f4]))
    (h : DataW.trod enc P w base spare held fuel t cs = some x) :
    ∃ y0 y1 y2 y3 y4 n, DataW.trod enc P w base spare held n f0.type ((cs.drop f0.offset).take (P.cellsOf f0.type)) = some y0 ∧
      DataW.trod enc P w base spare held n f1.type ((cs.drop f1.offset).take (P.cellsOf f1.type)) = some y1 ∧ DataW.trod enc P w base spare held n f2.type ((cs.drop f2.offset).take (P.cellsOf f2.type)) = some y2 ∧
      DataW.trod enc P w base spare held n f3.type ((cs.drop f3.offset).take (P.cellsOf f3.type)) = some y3 ∧ DataW.trod enc P w base spare held n f4.type ((cs.drop f4.offset).take (P.cellsOf f4.type)) = some y4 := by
  obtain ⟨xs, n, _, rfl, hl, hlen, hf⟩ := DataW.trod_struct ht h
  match xs, hlen with
  | [y0, y1, y2, y3, y4], _ => exact ⟨y0, y1, y2, y3, y4, n, by simpa using hf 0 f0 rfl, by simpa using hf 1 f1 rfl, by simpa using hf 2 f2 rfl, by simpa using hf 3 f3 rfl, by simpa using hf 4 f4 rfl⟩
theorem open_ipart {t e : TypeId} {k : IntKind} (hu : Try.prog.underlying t = some (.slice e)) (he : Try.prog.underlying e = some (.int k)) (hc1 : Try.prog.cellsOf e = 1) {W : World} {fuel : Nat} {c : Value} {x : DataW H × List MemPlace}
    (h : DataW.trod enc Try.prog W 0 (fun _ => true) true fuel t [c] = some x) :
    ∃ (A : Option Addr) (n c' : Nat) (zs : List Int), c = .slice A n c' ∧ zs.length = n ∧ Rd W W.heap.size 1 A n c' (zs.map (.int k)) ∧ ∀ z ∈ zs, (Lit.int k z).wf = true := by
  rcases open_ints hu he hc1 h with ⟨hcs, hx⟩ | ⟨a, len, cap, zs, hcs, _, hl, hm, hz, hx, hcell, hws⟩
  · cases hcs
    exact ⟨none, 0, 0, [], rfl, rfl, Rd.none_ _ _ _, by simp⟩
  · cases hcs
    simp only [if_true] at hz
    refine ⟨some a, len, cap, zs.take len, rfl, by rw [List.length_take]; omega, ⟨by simp; omega, hl, fun hn => ?_⟩, fun z hz' => hws z (List.mem_of_mem_take hz')⟩
    obtain ⟨b, off, spot⟩ := a
    have hspot : spot = none := by simpa [Addr.add] using World.cell?_spot (hcell 0 (by omega))
    subst hspot
    have hblk : b < W.heap.size := by
      have h0 := hcell 0 (by omega)
      rw [add_plain] at h0
      exact World.block_lt_of_cell? _ _ h0
    refine ⟨b, off, rfl, hblk, fun j u hu' => ?_⟩
    rw [List.getElem?_map, List.getElem?_take] at hu'
    split at hu'
    · rename_i hj
      have := hcell j (by omega)
      rw [add_plain] at this
      rw [this, List.getD]
      cases hs : zs[j]? with
      | none => rw [hs] at hu'; cases hu'
      | some s => rw [hs] at hu'; simpa using hu'
    · cases hu'
theorem by8_of {zs : List Int} (hw : ∀ z ∈ zs, (Lit.int .u8 z).wf = true) : by8 (zs.map fun z => UInt8.ofNat z.toNat) = zs.map (.int .u8) := by
  unfold by8
  rw [List.map_map]
  refine List.map_congr_left fun z hz => ?_
  have h1 := hw z hz
  simp only [Lit.wf, Bool.and_eq_true, decide_eq_true_eq] at h1
  have e1 : IntKind.u8.min = 0 := by decide
  have e2 : IntKind.u8.max = 255 := by decide
  rw [e1, e2] at h1
  simp only [Function.comp]
  have h3 : (UInt8.ofNat z.toNat).toNat = z.toNat := by
    rw [UInt8.toNat_ofNat']
    exact Nat.mod_eq_of_lt (by omega)
  rw [h3, Int.toNat_of_nonneg h1.1]
set_option maxRecDepth 100000 in
theorem open_ops {W : World} {v : Value} {d : DataW H} {ps : List MemPlace} {b0 : Nat} (hval : Value.okWide Try.prog W .any b0 67 v) (h : DataW.Trod enc Try.prog W 0 (fun _ => true) true 67 v d ps) :
    ∃ (A : Option Addr) (n c : Nat) (l : List OV), v = .slice A n c ∧ Rd W W.heap.size 5 A n c (l.flatMap OV.cells) ∧ l.length = n ∧ ∀ o ∈ l, o.ok W W.heap.size := by
  obtain ⟨a0, len, cap, rfl⟩ := okWide_slice Try.underlying67 hval
  obtain ⟨fuel, hf⟩ := h
  rcases DataW.trod_slice Try.underlying67 hf with ⟨hcs, hx⟩ | ⟨a, len', cap', elems, rest, n, _, hcs, hx, _, hl, _, hlen, hel, _, _⟩
  · simp [Value.cells] at hcs
    obtain ⟨rfl, rfl, rfl⟩ := hcs
    exact ⟨none, 0, 0, [], rfl, Rd.none_ _ _ _, rfl, by simp⟩
  · simp [Value.cells] at hcs
    obtain ⟨rfl, rfl, rfl⟩ := hcs
    have hc : Try.prog.cellsOf 71 = 5 := by kernel_rfl
    have hc3 : Try.prog.cellsOf 3 = 1 := by kernel_rfl
    have hc48 : Try.prog.cellsOf 48 = 1 := by kernel_rfl
    have hc64 : Try.prog.cellsOf 64 = 1 := by kernel_rfl
    rw [hc] at hel
    have each : ∀ i, i < len → ∃ o : OV, ((∀ t u, o.cells[t]? = some u → W.cell? ((a.add (i * 5)).add t) = some u) ∧ (a.add (i * 5)).block < W.heap.size) ∧ o.ok W W.heap.size := by
      intro i hi
      have h1 := hel i hi
      rw [List.getElem?_eq_getElem (by omega : i < elems.length), Option.bind_eq_some_iff] at h1
      obtain ⟨cs, hcs, htr⟩ := h1
      obtain ⟨_, hl2, hcell⟩ := World.cells?_some hcs
      have hblk := World.cells?_block hcs (by omega)
      obtain ⟨y0, y1, y2, y3, y4, m, t0, t1, t2, t3, t4⟩ := trod_struct5 Try.underlying71 htr
      match cs, hl2 with
      | [c0, c1, c2, c3, c4], _ =>
        simp only [hc3, hc48, hc64, List.drop_zero, List.drop_succ_cons, List.take_succ_cons, List.take_zero] at t0 t1 t2 t3 t4
        obtain ⟨K0, e0, _, hwf0⟩ := DataW.trod_int Try.underlying3 t0
        obtain ⟨K1, e1, _, hwf1⟩ := DataW.trod_int Try.underlying3 t1
        obtain ⟨K2, e2, _, hwf2⟩ := DataW.trod_int Try.underlying3 t2
        obtain ⟨A3, n3, k3, l3, e3, hl3, hr3, hw3⟩ := open_ipart Try.underlying48 Try.underlying5 (by kernel_rfl) t3
        obtain ⟨A4, n4, k4, l4, e4, hl4, hr4, hw4⟩ := open_ipart Try.underlying64 Try.underlying3 (by kernel_rfl) t4
        cases e0
        cases e1
        cases e2
        subst e3 e4 hl3 hl4
        have h8 := by8_of hw3
        refine ⟨⟨K0, K1, K2, A3, k3, l3.map fun z => UInt8.ofNat z.toNat, A4, k4, l4⟩, ⟨fun t u hu => ?_, hblk⟩, ?_, hr4, fun k hk => int_bounds (hw4 k hk), int_bounds hwf2⟩
        · have ht : t < 5 := by have := (List.getElem?_eq_some_iff.1 hu).1; simpa [OV.cells] using this
          rw [hcell t ht]
          simpa [OV.cells] using hu
        · simp only [List.length_map, h8]
          exact hr3
    obtain ⟨es, hes, hp⟩ := list_of each
    refine ⟨_, _, _, es, rfl, rd_elems (fun _ => rfl) (by omega) hes hl (fun h0 => ?_) fun i e he => (hp i e he).1.1, hes, fun x hx => ?_⟩
    · have := (hp 0 (es[0]'(by omega)) (List.getElem?_eq_getElem _)).1.2
      rwa [block_add] at this
    · obtain ⟨i, hi, rfl⟩ := List.getElem_of_mem hx
      exact (hp i _ (List.getElem?_eq_getElem hi)).2
end
end Go.Proofs.Ytabiegbbbljhlaa
