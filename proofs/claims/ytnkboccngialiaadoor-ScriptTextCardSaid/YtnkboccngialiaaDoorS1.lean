/- Walks: the reader's next byte; a letter. -/
import Derived.Test.YtnkboccngialiaaDoorS0
import Derived.Test.YtnkboccngialiaaDoorFork
import Derived.Laws.IdiomStrings
import Derived.Laws.BytesArg
namespace Go.Proofs.YtnkboccngialiaaDoor
open Go.RowKit


theorem E22 : Elem Tryd.prog 22 5 1 1 := elem_of (by kernel_rfl)
theorem E26 : Elem Tryd.prog 26 3 1 8 := elem_of (by kernel_rfl)
theorem E28 : Elem Tryd.prog 28 9 1 16 := elem_of (by kernel_rfl)
theorem E27 : Elem Tryd.prog 27 61 4 40 := elem_of (by kernel_rfl)
theorem E33 : Elem Tryd.prog 33 32 11 152 := elem_of (by kernel_rfl)

/-- Bytes, as cells. -/
def by8 (l : List UInt8) : List Value := l.map fun b => .int .u8 (b.toNat : Int)
theorem by8_len (l : List UInt8) : (by8 l).length = l.length := List.length_map _
theorem by8_app (l m : List UInt8) : by8 (l ++ m) = by8 l ++ by8 m := List.map_append
theorem by8_one (l : List UInt8) : ∀ u ∈ by8 l, u.oneCell' = true := by
  intro u hu
  obtain ⟨s, _, rfl⟩ := List.mem_map.1 hu
  rfl

/-- A reader that has come to place p of bytes. -/
def RS (w : World) (g B : Nat) (xs : List UInt8) (p : Nat) : Prop :=
  ∃ A n c, w.heap[g]? = some (.cells #[.slice A n c] 57 (0, 0)) ∧ B ≤ g ∧ Rd w B 1 A n c (by8 (xs.drop p))
theorem RS.keep {w w' : World} {g B : Nat} {xs : List UInt8} {p : Nat} (h : RS w g B xs p) (hk : ∀ k, k ≤ g → w'.heap[k]? = w.heap[k]?) : RS w' g B xs p := by
  obtain ⟨A, n, c, h1, h2, h3⟩ := h
  exact ⟨A, n, c, (hk g (Nat.le_refl _)).trans h1, h2, h3.keep fun q hq => World.cell?_of_block (hk q.block (by omega))⟩
theorem RS.lt {w : World} {g B : Nat} {xs : List UInt8} {p : Nat} (h : RS w g B xs p) : g < w.heap.size := by
  obtain ⟨A, n, c, h1, _⟩ := h
  exact (Array.getElem?_eq_some_iff.1 h1).1

theorem RS.next {w : World} {g B b o n c : Nat} {xs : List UInt8} {p : Nat} (hg : w.heap[g]? = some (.cells #[.slice (some ⟨b, o, none⟩) n c] 57 (0, 0))) (hB : B ≤ g)
    (hr : Rd w B 1 (some ⟨b, o, none⟩) n c (by8 (xs.drop p))) (hn : 1 ≤ n) {C' : Nat} (hC : C' = c - 1) {A' : Option Addr} (hA : c ≠ 1 → A' = some ⟨b, o + 1, none⟩) :
    RS (w.setCell ⟨g, 0, none⟩ (.slice A' (n - 1) C')) g B xs (p + 1) ∧ w.grownBy (w.setCell ⟨g, 0, none⟩ (.slice A' (n - 1) C')) (some g) ∧ (w.setCell ⟨g, 0, none⟩ (.slice A' (n - 1) C')).heap.size = w.heap.size := by
  subst hC
  have hk : ∀ k, k ≠ g → (w.setCell ⟨g, 0, none⟩ (.slice A' (n - 1) (c - 1))).heap[k]? = w.heap[k]? := fun k hk => Below.heap_setCell _ _ _ _ (fun e => hk (by simp [e]))
  refine ⟨⟨A', n - 1, c - 1, ?_, hB, ?_⟩, ⟨rfl, rfl, rfl, by simp [World.setCell], fun k _ hk2 => hk k (fun e => hk2 (by rw [e]))⟩, by simp [World.setCell]⟩
  · simp [World.setCell, Array.getElem?_modify, hg]
  · have h1 := hr.keep (w' := w.setCell ⟨g, 0, none⟩ (.slice A' (n - 1) (c - 1))) fun q hq => World.cell?_of_block (hk q.block (by omega))
    have h2 := h1.cut1 (l := 1) (k := n) hn (Nat.le_refl _)
    have hlen : (by8 (xs.drop p)).length = n := by have := hr.len; omega
    rw [List.take_of_length_le (by omega)] at h2
    have e : (by8 (xs.drop p)).drop 1 = by8 (xs.drop (p + 1)) := by
      unfold by8; rw [← List.map_drop, List.drop_drop]
    rw [e] at h2
    refine ⟨h2.len, h2.cap, fun h0 => ?_⟩
    have hc := hr.cap
    have hc1 : c ≠ 1 := by omega
    obtain ⟨b', o', e1, e2, e3⟩ := h2.at_ h0
    rw [if_neg hc1] at e1
    refine ⟨b', o', ?_, e2, e3⟩
    rw [hA hc1, ← e1]
    simp [Addr.add]

set_option maxRecDepth 100000 in
set_option maxHeartbeats 4000000 in
theorem next_any {w : World} {g B : Nat} {xs : List UInt8} {p : Nat} (h : RS w g B xs p) :
    Calls Tryd.prog 48 #[.pointer (some ⟨g, 0, none⟩)] w fun e w' => e = .returned (.int .i64 (by_ xs p : Nat)) ∧ RS w' g B xs (p + 1) ∧ w.grownBy w' (some g) ∧ w'.heap.size = w.heap.size := by
  obtain ⟨A, n, c, hg, hB, hr⟩ := h
  have hlen : xs.length - p = n := by have := hr.len; rw [by8_len, List.length_drop] at this; omega
  have h0 : w.cell? ⟨g, 0, none⟩ = some (.slice A n c) := by rw [World.cell?, hg]; rfl
  have hf0 : w.frozen? ⟨g, 0, none⟩ = false := by simp [World.frozen?, hg]
  have HG := Lib.hid hg
  have HR := Lib.hid hr
  have HL := Lib.hid hlen
  clear hlen
  by_cases hn : n = 0
  · subst hn
    clear hr hg
    go_enter Tryd.func48, Tryd.ntmps48
    go_wp2
    go_ret
    refine ⟨?_, ⟨A, 0, c, HG.out, hB, ?_⟩, World.grownBy.refl w _, rfl⟩
    · rw [by_none (by have := HL.out; omega)]; rfl
    · have := HL.out
      have h1 := HR.out
      rw [List.drop_eq_nil_of_le (by omega)] at h1 ⊢
      exact h1
  · obtain ⟨b, o, rfl, hb, hc⟩ := hr.at_ (by omega)
    have hx : ∃ x, xs[p]? = some x := ⟨xs[p]'(by have := HL.out; omega), List.getElem?_eq_getElem _⟩
    obtain ⟨x, hx⟩ := hx
    have h1 : w.cell? ⟨b, o, none⟩ = some (.int .u8 (x.toNat : Int)) := by
      have := hc 0 (.int .u8 (x.toNat : Int)) (by rw [by8, List.getElem?_map, List.getElem?_drop, Nat.add_zero, hx]; rfl)
      simpa using this
    have hx' := Lib.hid hx
    have hlt : x.toNat < 256 := x.toNat_lt
    have hcap := hr.cap
    clear hx hc hr hg
    obtain ⟨z, hz⟩ : ∃ z, x.toNat = z := ⟨_, rfl⟩
    have HZ := Lib.hid hz
    rw [hz] at h1 hlt
    clear hz
    have hn1 : (1 : Int) ≤ n := by omega
    go_enter Tryd.func48, Tryd.ntmps48
    go_wp2
    all_goals
      go_ret
      refine ⟨by rw [by_get hx'.out, HZ.out]; rfl, RS.next HG.out hB HR.out (by omega) (by omega) (fun hc => ?_)⟩
      first | rfl | exact absurd rfl hc | (exfalso; omega)

/-- 'string(b)': what is read. -/
theorem run_conv {A : Option Addr} {n c BB : Nat} {l : List UInt8} {w : World} (h : Rd w BB 1 A n c (by8 l)) : (convert 22 9 (.slice A n c)).run Tryd.prog w = .ok (.string ⟨l.toArray⟩) w := by
  have hl : l.length = n := by have := h.len; rw [by8_len] at this; omega
  rcases A with _ | a
  · have hn : n = 0 := by
      rcases Nat.eq_zero_or_pos n with h0 | h0
      · exact h0
      · obtain ⟨b, o, e, _⟩ := h.at_ h0
        cases e
    subst hn
    obtain rfl : l = [] := List.eq_nil_of_length_eq_zero hl
    exact run_convert_bytes_nil w 22 5 Tryd.underlying22 Tryd.underlying5 0 c 9 Tryd.underlying9
  · subst hl
    refine run_convert_bytes_back w 22 9 5 a c l Tryd.underlying22 Tryd.underlying5 Tryd.underlying9 fun j hj => ?_
    obtain ⟨b, o, e, _, hc⟩ := h.at_ (by omega)
    cases e
    rw [show (⟨b, o, none⟩ : Addr).add j = ⟨b, o + j, none⟩ from by unfold Addr.add; split <;> simp_all]
    exact hc j _ (by rw [by8, List.getElem?_map, List.getElem?_eq_getElem hj]; rfl)
theorem conv_one {w : World} {z : Nat} (hz : z < 256) : (convert 22 9 (.slice (some ⟨w.heap.size, 0, none⟩) 1 1)).run Tryd.prog (w.alloc (.cells #[.int .u8 (z : Int)] 5)) = .ok (.string ⟨#[UInt8.ofNat z]⟩) (w.alloc (.cells #[.int .u8 (z : Int)] 5)) :=
  run_conv (l := [UInt8.ofNat z]) (BB := w.heap.size + 1) ⟨rfl, Nat.le_refl _, fun _ => ⟨_, _, rfl, by omega, fun j u hu => by
    have hz' : (UInt8.ofNat z).toNat = z := by rw [UInt8.toNat_ofNat']; exact Nat.mod_eq_of_lt (by omega)
    cases j with
    | zero => simp only [by8, List.map_cons, List.getElem?_cons_zero, Option.some.injEq, hz'] at hu; subst hu; simp
    | succ j => simp [by8] at hu⟩⟩

set_option maxRecDepth 100000 in
set_option maxHeartbeats 4000000 in
theorem letter_any {w : World} {n : Nat} (hn : n < 26) : Calls Tryd.prog 49 #[.int .i64 n] w fun e w' => e = .returned (.string (ltr n)) ∧ Below w.heap.size w w' := by
  have hc : (convert 22 9 (.slice (some ⟨w.heap.size, 0, none⟩) 1 1)).run Tryd.prog (w.alloc (.cells #[.int .u8 (97 + (n : Int))] 5)) = .ok (.string (ltr n)) (w.alloc (.cells #[.int .u8 (97 + (n : Int))] 5)) := by
    have := conv_one (w := w) (z := 97 + n) (by omega)
    rwa [show ((97 + n : Nat) : Int) = 97 + (n : Int) from by omega] at this
  go_enter Tryd.func49, Tryd.ntmps49
  go_wp2
  go_ret
  exact ⟨rfl, (Below.refl _ w).alloc (Nat.le_refl _) _⟩
set_option maxRecDepth 100000 in
set_option maxHeartbeats 4000000 in
theorem rletter_any {w : World} {n : Nat} (hn : n < 26) : Calls Tryd.prog 26 #[.int .i64 n] w fun e w' => e = .returned (.string (ltr n)) ∧ Below w.heap.size w w' := by
  have hc : (convert 22 9 (.slice (some ⟨w.heap.size, 0, none⟩) 1 1)).run Tryd.prog (w.alloc (.cells #[.int .u8 (97 + (n : Int))] 5)) = .ok (.string (ltr n)) (w.alloc (.cells #[.int .u8 (97 + (n : Int))] 5)) := by
    have := conv_one (w := w) (z := 97 + n) (by omega)
    rwa [show ((97 + n : Nat) : Int) = 97 + (n : Int) from by omega] at this
  go_enter Tryd.func26, Tryd.ntmps26
  go_wp2
  go_ret
  exact ⟨rfl, (Below.refl _ w).alloc (Nat.le_refl _) _⟩
set_option maxRecDepth 100000 in
set_option maxHeartbeats 4000000 in
/-- The document's byte at a place. -/
theorem at_any {w : World} {A : Option Addr} {n c B i : Nat} {xs : List UInt8} (hr : Rd w B 1 A n c (by8 xs)) :
    Calls Tryd.prog 25 #[.slice A n c, .int .i64 i] w fun e w' => e = .returned (.int .i64 (by_ xs i : Nat)) ∧ w' = w := by
  have hl : xs.length = n := by have := hr.len; rw [by8_len] at this; omega
  have HL := Lib.hid hl
  clear hl
  by_cases hn : i < n
  · obtain ⟨b, o, rfl, hb, hc⟩ := hr.at_ (by omega)
    obtain ⟨x, hx⟩ : ∃ x, xs[i]? = some x := ⟨xs[i]'(by have := HL.out; omega), List.getElem?_eq_getElem _⟩
    have h1 : w.cell? ⟨b, o + i, none⟩ = some (.int .u8 (x.toNat : Int)) := hc i _ (by rw [by8, List.getElem?_map, hx]; rfl)
    have hx' := Lib.hid (by_get hx)
    have hlt : x.toNat < 256 := x.toNat_lt
    clear hx hc hr
    generalize x.toNat = z at *
    go_enter Tryd.func25, Tryd.ntmps25
    go_wp2
    go_ret
    exact ⟨by rw [hx'.out]; rfl, rfl⟩
  · have hx' := Lib.hid (by_none (xs := xs) (i := i) (by have := HL.out; omega))
    clear hr
    go_enter Tryd.func25, Tryd.ntmps25
    go_wp2
    go_ret
    exact ⟨by rw [hx'.out]; rfl, rfl⟩
end Go.Proofs.YtnkboccngialiaaDoor
