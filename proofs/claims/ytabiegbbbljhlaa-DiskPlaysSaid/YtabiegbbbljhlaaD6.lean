/- Walks: Fork; two texts of bytes held against each other; the law's awake. -/
import Derived.Test.YtabiegbbbljhlaaD5
import Derived.Test.YtabiegbbbljhlaaW1
import Derived.Laws.BytesArg
import Derived.Laws.IdiomStrings
namespace Go.Proofs.Ytabiegbbbljhlaa
open Go.RowKit

theorem run_conv {A : Option Addr} {n c BB : Nat} {l : List UInt8} {w : World} (h : Rd w BB 1 A n c (by8 l)) : (convert 48 9 (.slice A n c)).run Try.prog w = .ok (.string ⟨l.toArray⟩) w := by
  have hl : l.length = n := by have := h.len; rw [by8_len] at this; omega
  cases A with
  | none =>
    have h0 : n = 0 := by
      rcases Nat.eq_zero_or_pos n with h0 | h0
      · exact h0
      · obtain ⟨_, _, e, _⟩ := h.at_ h0; cases e
    subst h0
    have : l = [] := List.eq_nil_of_length_eq_zero hl
    subst this
    exact run_convert_bytes_nil w 48 5 Try.underlying48 Try.underlying5 0 c 9 Try.underlying9
  | some a =>
    subst hl
    refine run_convert_bytes_back w 48 9 5 a c l Try.underlying48 Try.underlying5 Try.underlying9 fun j hj => ?_
    obtain ⟨b, o, e, _, hc⟩ := h.at_ (by omega)
    cases e
    rw [Addr.add_lit]
    refine hc j _ ?_
    simp [by8, List.getElem?_map, List.getElem?_eq_getElem hj]

set_option maxHeartbeats 1000000 in
theorem bytes_any {A B : Option Addr} {n c m cb BB : Nat} {l l' : List UInt8} {w : World} (h : Rd w BB 1 A n c (by8 l)) (h' : Rd w BB 1 B m cb (by8 l')) :
    Calls Try.prog 39 #[.slice A n c, .slice B m cb] w (fun e w' => e = .returned (.bool (decide (l = l'))) ∧ w' = w) := by
  have hc1 := run_conv h
  have hc2 := run_conv h'
  have he : decide ((⟨l.toArray⟩ : ByteArray) = ⟨l'.toArray⟩) = decide (l = l') := by simp
  have HE := Lib.hid he
  clear he
  generalize (⟨l.toArray⟩ : ByteArray) = x at *
  generalize (⟨l'.toArray⟩ : ByteArray) = y at *
  have hs := str_eq x y
  go_enter Try.func39, Try.ntmps39
  go_wp2
  go_ret
  exact ⟨by rw [← HE.out]; rfl, rfl⟩

theorem put0_self (d : PD) : d.put 0 d.f0 d.s0 = d := by unfold PD.put; rw [if_pos rfl]
theorem put1_self (d : PD) : d.put 1 d.f1 d.s1 = d := by unfold PD.put; rw [if_neg (by decide)]
set_option maxRecDepth 100000 in
set_option maxHeartbeats 4000000 in
theorem fork_any {N g : Nat} {d : PD} {w : World} (h : DK N w g d) : Calls Try.prog 36 #[.pointer (some ⟨g, 0, none⟩)] w (DNew N d w) := by
  have hlt := h.lt
  obtain ⟨A0, c0, A1, c1, Ak, ck, hD⟩ := h
  have q0 := hD.d0.cap
  have q1 := hD.d1.cap
  have hroom := hD.wf.room
  have hfull := hD.wf.full
  have e0 : w.cell? ⟨g, 0, none⟩ = some (.int .i64 d.room) := hD.at_ rfl
  have e1 : w.cell? ⟨g, 1, none⟩ = some (.slice A0 d.f0.length c0) := hD.at_ rfl
  have e2 : w.cell? ⟨g, 2, none⟩ = some (.int .i64 d.s0) := hD.at_ rfl
  have e3 : w.cell? ⟨g, 3, none⟩ = some (.slice A1 d.f1.length c1) := hD.at_ rfl
  have e4 : w.cell? ⟨g, 4, none⟩ = some (.int .i64 d.s1) := hD.at_ rfl
  have e5 : w.cell? ⟨g, 5, none⟩ = some (.bool d.armed) := hD.at_ rfl
  have e6 : w.cell? ⟨g, 6, none⟩ = some (.int .i64 d.steps) := hD.at_ rfl
  have e7 : w.cell? ⟨g, 7, none⟩ = some (.slice Ak d.keep.length ck) := hD.at_ rfl
  have e8 : w.cell? ⟨g, 8, none⟩ = some (.bool d.down) := hD.at_ rfl
  have hbA := (Below.refl w.heap.size w).alloc (Nat.le_refl _) (.cells (dcells d A0 c0 A1 c1 Ak ck) 89)
  have HDA := Lib.hid (show DL N (w.alloc (.cells (dcells d A0 c0 A1 c1 Ak ck) 89)) w.heap.size d A0 c0 A1 c1 Ak ck from
    ⟨heap_alloc_new _ _, by omega, hD.d0.below hbA, hD.d1.below hbA, hD.dk.below hbA, hD.wf⟩)
  have HBA := Lib.hid hbA
  simp only [dcells] at HDA HBA
  clear hbA hD
  go_enter Try.func36, Try.ntmps36
  go_wp2
  go_loopw [10] (fun i wr => ∃ k x y : Nat, k ≤ 2 ∧ i = .int .i64 k ∧ Hid (DL N wr w.heap.size d A0 x A1 y Ak ck) ∧ Below w.heap.size w wr) (fun i _ => 2 - (intOf i).toNat)
  case atStart => exact ⟨0, c0, c1, by omega, rfl, HDA, HBA.out⟩
  case round =>
    clear HDA HBA e0 e1 e2 e3 e4 e5 e6 e7 e8
    obtain ⟨k, x, y, hk, rfl, HL, hb⟩ := hrel
    obtain rfl | rfl | rfl : k = 0 ∨ k = 1 ∨ k = 2 := by omega
    · rw [show ((0 : Nat) : Int) = 0 from rfl]
      have e : wr.cell? ⟨w.heap.size, 1, none⟩ = some (.slice A0 d.f0.length x) := HL.out.at_ rfl
      have f : wr.frozen? ⟨w.heap.size, 1, none⟩ = false := HL.out.fr 1
      have hcp := HL.out.d0.cap
      have hD' := HL.out.set0 (l := d.f0) (A := A0) (c := d.f0.length) rfl ⟨HL.out.d0.len, Nat.le_refl _, HL.out.d0.at_⟩ (by rw [put0_self]; exact HL.out.wf)
      rw [put0_self] at hD'
      have HD' := Lib.hid hD'
      have hb' := hb.grown (set_grown wr w.heap.size 1 (.slice A0 d.f0.length d.f0.length)) hb.size (fun g hg => by cases hg; exact Nat.le_refl _)
      clear hD'
      go_wp2_with fail
      refine (clip_any hcp (by omega)).mono ?_
      rintro e w1 ⟨rfl, rfl⟩
      go_wp2
      exact ⟨⟨1, d.f0.length, y, by omega, rfl, HD', hb'⟩, by simp [intOf]⟩
    · rw [show ((1 : Nat) : Int) = 1 from rfl]
      have e : wr.cell? ⟨w.heap.size, 3, none⟩ = some (.slice A1 d.f1.length y) := HL.out.at_ rfl
      have f : wr.frozen? ⟨w.heap.size, 3, none⟩ = false := HL.out.fr 3
      have hcp := HL.out.d1.cap
      have hD' := HL.out.set1 (l := d.f1) (A := A1) (c := d.f1.length) rfl ⟨HL.out.d1.len, Nat.le_refl _, HL.out.d1.at_⟩ (by rw [put1_self]; exact HL.out.wf)
      rw [put1_self] at hD'
      have HD' := Lib.hid hD'
      have hb' := hb.grown (set_grown wr w.heap.size 3 (.slice A1 d.f1.length d.f1.length)) hb.size (fun g hg => by cases hg; exact Nat.le_refl _)
      clear hD'
      go_wp2_with fail
      refine (clip_any hcp (by omega)).mono ?_
      rintro e w1 ⟨rfl, rfl⟩
      go_wp2
      exact ⟨⟨2, x, d.f1.length, by omega, rfl, HD', hb'⟩, by simp [intOf]⟩
    · go_wp2
      go_ret
      exact ⟨w.heap.size, rfl, ⟨_, _, _, _, _, _, HL.out⟩, Nat.le_refl _, hb⟩
end Go.Proofs.Ytabiegbbbljhlaa
