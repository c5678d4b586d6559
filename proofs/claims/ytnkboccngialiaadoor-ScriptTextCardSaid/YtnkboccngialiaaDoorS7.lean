/- Walk: script.Text. -/
import Derived.Test.YtnkboccngialiaaDoorS6
namespace Go.Proofs.YtnkboccngialiaaDoor
open Go.RowKit

def tx (l : List Int) : List UInt8 := l.flatMap fun e => Lib.decDigits e.toNat ++ [10]
theorem tx_take {l : List Int} {k : Nat} {e : Int} (h : l[k]? = some e) : tx (l.take (k + 1)) = tx (l.take k) ++ (Lib.decDigits e.toNat ++ [10]) := by
  rw [List.take_add_one, h]; simp [tx, List.flatMap_append]
theorem tx_next {l : List Int} {k : Nat} {e : Int} (h : l[k]? = some e) : Lib.byteCells (tx (l.take k)) ++ Lib.strCells (dec e.toNat ++ ⟨#[10]⟩) = Lib.byteCells (tx (l.take (k + 1))) := by
  rw [tx_take h, Lib.strCells_eq]
  simp [Lib.byteCells, dec]
/-- At most 4 bytes a number. -/
theorem tx_len {l : List Int} (h : ∀ e ∈ l, 0 ≤ e ∧ e < 1000) : ∀ k, (tx (l.take k)).length ≤ 4 * k
  | 0 => by simp [tx]
  | k + 1 => by
    have ih := tx_len h k
    cases hk : l[k]? with
    | none => rw [List.take_of_length_le (by have := List.getElem?_eq_none_iff.1 hk; omega)]; rw [List.take_of_length_le (by have := List.getElem?_eq_none_iff.1 hk; omega)] at ih; omega
    | some e =>
      rw [tx_take hk, List.length_append]
      have he := h e (List.mem_of_getElem? hk)
      have := dec_len 3 e.toNat (by omega) (by omega)
      have h2 : (Lib.decDigits e.toNat).length = (dec e.toNat).size := rfl
      rw [List.length_append, h2, List.length_singleton]; omega

def TextPost (l : List Int) (w : World) (e : Ending) (w' : World) : Prop :=
  ∃ A c, e = .returned (.slice A (tx l).length c) ∧ Rd w' w'.heap.size 1 A (tx l).length c (by8 (tx l)) ∧ Below w.heap.size w w'

theorem text_end {l : List Int} {w w2 : World} (hb : Below w.heap.size w w2) :
    TextPost l w (.returned (.slice (some ⟨w2.heap.size, 0, none⟩) (tx l).length (grownCap w2 (tx l).length 0 5)))
      ((w2.alloc (.cells (bytesRow ⟨(tx l).toArray⟩ (grownCap w2 (tx l).length 0 5)) 5 ((bytesRow ⟨(tx l).toArray⟩ (grownCap w2 (tx l).length 0 5)).size, (bytesRow ⟨(tx l).toArray⟩ (grownCap w2 (tx l).length 0 5)).size + 1))).drew) := by
  refine ⟨_, _, rfl, ⟨by rw [by8_len, Nat.mul_one], grownCap_ge _ _ _ _, fun _ => ⟨_, _, rfl, by simp, fun j u hu => ?_⟩⟩, (hb.alloc hb.size _).drew⟩
  have hj : j < (tx l).length := by have := (List.getElem?_eq_some_iff.1 hu).1; rwa [by8_len] at this
  rw [Nat.zero_add]
  show World.cell? (w2.alloc _) _ = _
  rw [World.cell?_alloc_mark, bytesRow_at _ _ _ (by simpa using hj)]
  rw [by8, List.getElem?_map, List.getElem?_eq_getElem hj] at hu
  simpa using hu

set_option maxRecDepth 100000 in
set_option maxHeartbeats 8000000 in
theorem text_any {A : Option Addr} {n c B : Nat} {l : List Int} {w : World} (hn : n ≤ 300) (hB : B ≤ w.heap.size) (hr : Rd w B 1 A n c (l.map (.int .i64)))
    (hl : ∀ e ∈ l, 0 ≤ e ∧ e < 1000) (hI : ∀ e ∈ l, ∀ w', Below w.heap.size w w' → Calls Tryd.prog 31 #[.int .i64 e] w' fun e' w'' => e' = .returned (.string (dec e.toNat)) ∧ Below w'.heap.size w' w'') :
    Calls Tryd.prog 15 #[.slice A n c] w (TextPost l w) := by
  have HL := Lib.hid (show l.length = n by have := hr.len; rw [List.length_map] at this; omega)
  have HI := Lib.hid hI
  have HT := Lib.hid (tx_len hl)
  have HLL := Lib.hid hl
  clear hI hl
  go_enter Tryd.func15, Tryd.ntmps15
  go_wp2
  go_loopw [8] (fun i wr => ∃ k : Nat, k ≤ n ∧ i = .int .i64 k ∧ Hid (Lib.IsBuilderF 66 5 w.heap.size w.heap.size (Lib.byteCells (tx (l.take k))) wr) ∧ Hid (Below w.heap.size w wr)) (fun i _ => n - (intOf i).toNat)
  case atStart => exact ⟨0, by omega, rfl, (Lib.IsBuilderF.of (Lib.fresh_isBuilder 66 5 w)), (Below.refl _ w).alloc (Nat.le_refl _) _⟩
  case round =>
    obtain ⟨k, hk, rfl, HIB, HB⟩ := hrel
    have hbs := HB.out.size
    by_cases hlt : k < n
    · obtain ⟨b, o, u, rfl, hb, hx, h0⟩ := hr.int_ hlt
      have h1 : wr.cell? ⟨b, o + k, none⟩ = some (.int .i64 u) := (HB.out.cell (p := ⟨b, o + k, none⟩) (by show b < _; omega)).trans h0
      have hul := HLL.out u (List.mem_of_getElem? hx)
      have HC := Lib.hid (HI.out u (List.mem_of_getElem? hx) wr HB.out)
      have HN := Lib.hid (tx_next hx)
      have hdl := dec_len 3 u.toNat (by omega) (by omega)
      have htl := HT.out k
      clear hx h0
      go_wp2_with fail
      refine HC.out.mono ?_
      rintro e w2 ⟨rfl, hb2⟩
      have HI2 := Lib.hid (builder_below HIB.out hb2)
      have HB2 := Lib.hid (HB.out.trans (hb2.mono hbs))
      have hs2 := HB2.out.size
      clear HIB HB hb2 h1 HC
      generalize dec u.toNat = D at *
      go_wp2_with fail
      refine (Tryd.Builder_WriteString_k w.heap.size w.heap.size _ _ _ HI2.out (by rw [Lib.byteCells_length, ByteArray.size_append]; show _ + (_ + 1) ≤ _; omega) (by omega)).mono ?_
      rintro e w3 ⟨rfl, h3, hb3, _⟩
      have H3 := Lib.hid (Or.inr h3 : Lib.IsBuilderF 66 5 w.heap.size w.heap.size _ w3)
      have HB3 := Lib.hid (HB2.out.trans hb3)
      rw [HN.out] at H3
      clear h3 hb3 HI2 HB2 hs2 HN
      go_wp2
      go_roundw
      case rel => exact ⟨k + 1, by omega, by go_num, H3, HB3⟩
      case measure => simp [intOf]; omega
    · obtain rfl : k = n := by omega
      have htl := HT.out k
      have ht : l.take k = l := List.take_of_length_le (by rw [HL.out]; exact Nat.le_refl _)
      rw [ht] at HIB htl
      go_wp2_with fail
      refine (Tryd.Builder_String_any_k w.heap.size w.heap.size _ _ HIB.out (by omega)).mono ?_
      rintro e w2 ⟨rfl, _, hb2, _⟩
      have HB2 := Lib.hid (HB.out.trans hb2)
      have hconv := run_bytes_of_string w2 9 22 5 ⟨(tx l).toArray⟩ Tryd.underlying9 Tryd.underlying22 Tryd.underlying5
      clear HIB HB hb2
      have hfin := text_end (w := w) (l := l) (w2 := w2) HB2.out
      have HF := Lib.hid hfin
      clear hfin HB2
      go_wp2
      go_ret
      exact HF.out
end Go.Proofs.YtnkboccngialiaaDoor
