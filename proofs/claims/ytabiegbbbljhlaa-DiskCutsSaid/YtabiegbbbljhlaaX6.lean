/- Walks: Fork; two texts of bytes held against each other; the law's awake. -/
import Derived.Test.YtabiegbbbljhlaaX5
import Derived.Test.YtabiegbbbljhlaaW1
import Derived.Laws.BytesArg
import Derived.Laws.IdiomStrings
namespace Go.Proofs.Ytabiegbbbljhlaa
open Go.RowKit

theorem run_conv {A : Option Addr} {n c BB : Nat} {l : List UInt8} {w : World} (h : Rd w BB 1 A n c (by8 l)) : (convert 48 9 (.slice A n c)).run Try.prog w = .ok (.string ⟨l.toArray⟩) w := by
  have hl : l.length = n := by have := h.len; rw [by8_len] at this; omega
  cases A with
  | none =>
    have h0 : n = 0 := by
      rcases Nat.eq_zero_or_pos n with h0 | h0
      · exact h0
      · obtain ⟨_, _, e, _⟩ := h.at_ h0; cases e
    subst h0
    have : l = [] := List.eq_nil_of_length_eq_zero hl
    subst this
    exact run_convert_bytes_nil w 48 5 Try.underlying48 Try.underlying5 0 c 9 Try.underlying9
  | some a =>
    subst hl
    refine run_convert_bytes_back w 48 9 5 a c l Try.underlying48 Try.underlying5 Try.underlying9 fun j hj => ?_
    obtain ⟨b, o, e, _, hc⟩ := h.at_ (by omega)
    cases e
    rw [Addr.add_lit]
    refine hc j _ ?_
    simp [by8, List.getElem?_map, List.getElem?_eq_getElem hj]

set_option maxHeartbeats 1000000 in
theorem bytes_any {A B : Option Addr} {n c m cb BB : Nat} {l l' : List UInt8} {w : World} (h : Rd w BB 1 A n c (by8 l)) (h' : Rd w BB 1 B m cb (by8 l')) :
    Calls Try.prog 39 #[.slice A n c, .slice B m cb] w (fun e w' => e = .returned (.bool (decide (l = l'))) ∧ w' = w) := by
  have hc1 := run_conv h
  have hc2 := run_conv h'
  have he : decide ((⟨l.toArray⟩ : ByteArray) = ⟨l'.toArray⟩) = decide (l = l') := by simp
  have HE := Lib.hid he
  clear he
  generalize (⟨l.toArray⟩ : ByteArray) = x at *
  generalize (⟨l'.toArray⟩ : ByteArray) = y at *
  have hs := str_eq x y
  go_enter Try.func39, Try.ntmps39
  go_wp2
  go_ret
  exact ⟨by rw [← HE.out]; rfl, rfl⟩

end Go.Proofs.Ytabiegbbbljhlaa
