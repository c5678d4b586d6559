/- Walks: maps.Copy; the keys of a set of paths, collected; tree.Changes. -/
import Derived.Test.YtahlfafcjjkliaaGreatDoorU10
import Derived.Maps.OwnSet
namespace Go.Proofs.YtahlfafcjjkliaaGreatDoor
open Go.RowKit

theorem SetP.same {w : World} {b n : Nat} {D : DataW Value} {S S' : Bs → Bool} (h : SetP w b n D S) (hS : ∀ q : ByteArray, q.size ≤ maxLen → S' q.data.toList = S q.data.toList) : SetP w b n D S' :=
  ⟨h.own, fun q hq => by rw [h.at_ q hq, hS q hq], fun q hq => by rw [h.has q hq, hS q hq]⟩
theorem SetP.more {w : World} {b n m : Nat} {D : DataW Value} {S : Bs → Bool} (h : SetP w b n D S) (hm : n ≤ m) : SetP w b m D S := ⟨h.own.mono hm, h.at_, h.has⟩
/-- Those that came out are there. -/
def CopyTo (S1 S2 S : Bs → Bool) (left : Lit → Bool) : Prop := ∀ q : ByteArray, q.size ≤ maxLen → S q.data.toList = (S1 q.data.toList || (S2 q.data.toList && !left (klP q)))
theorem CopyTo.step {S1 S2 S : Bs → Bool} {left : Lit → Bool} {x : ByteArray} (h : CopyTo S1 S2 S left) (hx : x.size ≤ maxLen) (hS : S2 x.data.toList = true) :
    CopyTo S1 S2 (fun y => S y || decide (x.data.toList = y)) (fun z => left z && !z.sameKey (klP x)) := by
  intro q hq
  by_cases e : q = x
  · subst e
    have : (klP q).sameKey (klP q) = true := by simp [Lit.sameKey, klP]
    simp [hS, this]
  · have h1 : (klP q).sameKey (klP x) = false := Maps.sameKey_ne (klP_ne hq hx e)
    have h2 : decide (x.data.toList = q.data.toList) = false := decide_eq_false fun h => e (ba_ext h.symm)
    simp only [h1, h2, h q hq, Bool.or_false, Bool.not_false, Bool.and_true]

set_option maxRecDepth 100000 in
set_option maxHeartbeats 4000000 in
theorem copy_any {b1 n1 b2 n2 : Nat} {D1 D2 : DataW Value} {S1 S2 : Bs → Bool} {w : World} (h1 : SetP w b1 n1 D1 S1) (h2 : SetP w b2 n2 D2 S2) (hne : b1 ≠ b2) (hn : n1 + n2 ≤ 35184372088832) :
    Calls Tryz.prog 43 #[.map (some b1), .map (some b2)] w
      fun e w' => e = .returned (.tuple #[]) ∧ ∃ (D : DataW Value), SetP w' b1 (n1 + n2) D (fun q => S1 q || S2 q) ∧ w.grownBy w' (some b1) := by
  have hb1l := h1.own.lt
  have hb2l := h2.own.lt
  go_enter Tryz.func43, Tryz.ntmps43
  go_wp2_with (first
    | (at_range; refine wpList_range_own _ rfl _ 61 rfl 65 4 KP Tryz.underlying61 _ b2 n2 _ rfl h2.own ?_; intro w0 hrg0 hg0 hs0)
    | go_in)
  go_frame
  have hsz2 := h2.own.size_le
  go_loopw [4, 5] (fun _ _ wr => ∃ (left : Lit → Bool) (cnt k : Nat) (D : DataW Value) (S : Bs → Bool), wr.ranges Tryz.prog 65 (plainElem Tryz.prog 4) b2 w.heap.size n2 D2 left cnt ∧ k + cnt ≤ n2 ∧ SetP wr b1 (n1 + k) D S ∧ w.grownBy wr (some b1) ∧ w.heap.size < wr.heap.size ∧ Hid (CopyTo S1 S2 S left))
    (fun _ _ wr => wr.rangeLeft b2 w.heap.size)
  case atStart =>
    exact ⟨_, _, 0, D1, S1, hrg0, by omega, h1.kept hg0 (by simp), hg0.but _, by omega, fun q hq => by rw [h2.has q hq]; cases S2 q.data.toList <;> simp⟩
  case round =>
    clear hrg0 hg0 hs0
    obtain ⟨left, cnt, k, D, S, hrg, hkc, hS, hg, hz, hC⟩ := hrel
    go_wp2_with (first
      | (at_next; refine wpList_next_ranges _ rfl _ rfl 65 KP (plainElem Tryz.prog 4) (fun x : ByteArray => .agg #[.string x]) (fun c : Value => c) (fun key kl hk => by obtain ⟨x, e, _⟩ := keyP_inv hk; exact ⟨x, e⟩) (fun v y hv => ⟨v, rfl⟩) b2 w.heap.size n2 _ _ _ rfl hrg ?_ ?_)
      | go_in)
    · intro hc0 hl0
      have hfin : SetP wr b1 (n1 + n2) D (fun q => S1 q || S2 q) := (hS.same fun q hq => by rw [hC.out q hq, hl0]; simp).more (by omega)
      go_wp2
      go_end0
      exact ⟨rfl, D, hfin, hg⟩
    · intro x c kl a ps w1 cnt1 hkey hlx hrx hat hrg1 hlt hg1 hs1 hen
      obtain ⟨x', ex, hxs, rfl⟩ := keyP_inv hkey
      obtain rfl : x = x' := by simpa using ex
      have hSx : S2 x.data.toList = true := by rw [← h2.has x hxs]; exact Maps.has_true_of_atKey hat
      have ha : a = .lit (.bool true) := by
        have := hat (.lit (.bool false))
        rw [h2.at_ x hxs, hSx] at this
        exact this.symm
      subst ha
      obtain rfl := boolT_inv hrx
      have hS1 := hS.kept hg1 (by intro e; injection e with e; omega)
      have hS2 := hS1.kept (World.grownBy_alloc w1 (.cells #[.string x] 65) none) (by simp)
      have hgr : w.grownBy (w1.alloc (.cells #[.string x] 65)) (some b1) :=
        (hg.andThen hg1 (fun j hj => by injection hj with hj; left; omega)).andThen (World.grownBy_alloc w1 _ none) (fun j hj => by cases hj)
      have hrg2 := hrg1.alloc (.cells #[.string x] 65)
      have HC := Lib.hid (hC.out.step hxs hSx)
      clear ex hkey hat hrx hlx
      go_wp2_with (at_mapUpdate; refine wpList_mapUpdate_own _ rfl _ _ _ 61 rfl 65 4 KP Tryz.underlying61 (plainElem Tryz.prog 4) b1 (n1 + k) D rfl hS2.own (by unfold maxLen; omega) _ _ _ rfl rfl (keyP hxs) _ [] (boolT true) ?_; intro w5 hown5 hg5; go_frame)
      have hrg3 := hrg2.kept hg5 (fun e => by injection e with e; omega) (fun e => by injection e with e; omega)
      have HM := Lib.hid (show w5.rangeLeft b2 w.heap.size < wr.rangeLeft b2 w.heap.size by rw [hrg3.left_eq, hrg.left_eq]; exact hlt)
      go_roundw
      case rel =>
        refine ⟨_, cnt1, k + 1, _, _, hrg3, by omega, hS2.put hxs hown5 (fun _ => rfl), hgr.andThen hg5 (fun j hj => .inr hj), ?_, HC.out⟩
        have := hg5.size
        have h3 : w1.heap.size ≤ (w1.alloc (.cells #[.string x] 65)).heap.size := by simp
        have := hg1.size
        omega
      case measure => exact HM.out
end Go.Proofs.YtahlfafcjjkliaaGreatDoor
