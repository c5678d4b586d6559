/- Walk: DiskDown. -/
import Derived.Test.YtabiegbbbljhlaaD8
namespace Go.Proofs.Ytabiegbbbljhlaa
open Go.RowKit

/-- Armed with k steps, i of them done: a byte to each file by turns. -/
def DD (k i : Nat) : PD := ⟨1000, List.replicate ((i + 1) / 2) 1, 0, List.replicate (i / 2) 1, 0, true, (k : Int) - i, [], decide ((k : Int) - i ≤ 0)⟩
theorem DD_arm (k : Nat) : (D1 [] 0).arm k [] = DD k 0 := by
  have h1 : max (k : Int) 0 = k := by omega
  have h2 : decide ((k : Int) = 0) = decide ((k : Int) - ((0 : Nat) : Int) ≤ 0) := by
    by_cases h : (k : Int) = 0
    · rw [decide_eq_true h, decide_eq_true (by omega)]
    · rw [decide_eq_false h, decide_eq_false (by omega)]
  unfold PD.arm D1 DD
  simp only [h1, h2]
  simp
theorem DD_down (k i : Nat) : (DD k i).down = decide ((k : Int) - i ≤ 0) := rfl
theorem DD_ask {k i : Nat} (h : i < k) (f : Int) : (DD k i).ask f = if f < 0 ∨ 2 ≤ f then 1 else 0 := by
  unfold PD.ask
  rw [if_neg (by rw [DD_down, decide_eq_false (by omega)]; simp)]
theorem DD_append {k i : Nat} (h : i < k) (hk : k < 40) : (DD k i).append ((i % 2 : Nat) : Int) [1] = (0, DD k (i + 1)) := by
  have hask : (DD k i).ask ((i % 2 : Nat) : Int) = 0 := by rw [DD_ask h, if_neg (by omega)]
  have hfree : ¬ (DD k i).free < (([1] : List UInt8).length : Int) := by
    simp only [PD.free, DD, List.length_replicate, List.length_singleton]
    omega
  unfold PD.append
  rw [if_neg (by omega), if_neg hfree]
  have hr : ∀ n : Nat, List.replicate n (1 : UInt8) ++ [1] = List.replicate (n + 1) 1 := fun n => List.replicate_succ'.symm
  rcases Nat.mod_two_eq_zero_or_one i with h2 | h2
  · have q1 : (i + 1) / 2 + 1 = (i + 1 + 1) / 2 := by omega
    have q2 : i / 2 = (i + 1) / 2 := by omega
    rw [h2]
    simp only [PD.put, PD.file, PD.syn, DD, PD.step]
    simp [q2]
    exact ⟨by rw [hr, q1], by omega, by omega⟩
  · have q1 : i / 2 + 1 = (i + 1) / 2 := by omega
    have q2 : (i + 1) / 2 = (i + 1 + 1) / 2 := by omega
    rw [h2]
    simp only [PD.put, PD.file, PD.syn, DD, PD.step]
    simp [q2]
    exact ⟨by rw [hr, q1, q2], by omega, by omega⟩
theorem DD_cut {k i : Nat} (h : i < k) (hk : k < 40) : (DD k i).cut 0 5000 = (1, DD k i) := by
  unfold PD.cut
  rw [if_neg (by rw [DD_ask h]; simp), if_pos (.inr (by simp only [PD.file, DD, if_true, List.length_replicate]; omega))]
theorem DD_end (k : Nat) (f : Int) : (DD k k).ask f = 7 := by
  unfold PD.ask
  rw [if_pos (by rw [DD_down, decide_eq_true (by omega)])]
theorem DD_free (k : Nat) : (DD k k).free = 1000 - k := by
  simp only [PD.free, DD, List.length_replicate]
  omega
theorem k40 (t : Int) : ∃ kk : Nat, wrap64 ((IntKind.u64.wrap t).tmod 40) = kk ∧ kk < 40 := by
  have h0 : 0 ≤ IntKind.u64.wrap t := by rw [IntKind.wrap_u64]; omega
  rw [Int.tmod_eq_emod_of_nonneg h0]
  generalize IntKind.u64.wrap t = u at *
  have : 0 ≤ u % 40 := Int.emod_nonneg _ (by omega)
  have h2 : u % 40 < 40 := Int.emod_lt_of_pos _ (by omega)
  generalize u % 40 = v at *
  refine ⟨v.toNat, ?_, by omega⟩
  unfold wrap64
  omega

set_option maxRecDepth 100000 in
set_option maxHeartbeats 8000000 in
theorem diskDown_any {t f : Int} (w : World) : Calls Try.prog 9 #[.int .i64 t, .int .i64 f] w (BoolBelow true w) := by
  obtain ⟨kk, hkk, hk40⟩ := k40 t
  go_enter Try.func9, Try.ntmps9
  go_wp2_with fail
  rw [hkk]
  clear hkk
  refine (new_any (N := w.heap.size) (Nat.le_refl _)).mono ?_
  rintro e w1 ⟨g, rfl, hK, hg, hb1⟩
  rw [D1_new] at hK
  have HG := Lib.hid hg
  have HB1 := Lib.hid hb1
  have HK1 := Lib.hid hK
  have hs1 := hb1.size
  clear hK hg hb1
  -- awake
  go_wp2_with fail
  refine (awake3_any _).mono ?_
  rintro e w2 ⟨rfl, hb2⟩
  have HB2 := Lib.hid (HB1.out.trans (hb2.mono hs1))
  have HK2 := Lib.hid (HK1.out.below hb2)
  have hs2 := HB2.out.size
  clear hb2 HB1 HK1
  -- Arm
  go_wp2_with fail
  refine (arm_any (st := kk) (keep := []) (BB := w2.heap.size) HK2.out (by omega) (Nat.le_refl _) (Rd.none_ _ _ _) (by simp) (by omega)).mono ?_
  rw [DD_arm]
  rintro e w3 ⟨rfl, hK3, hg3⟩
  have HB3 := Lib.hid (HB2.out.grown hg3 hs2 (fun k hk => by cases hk; exact HG.out))
  have HK3 := Lib.hid hK3
  clear hK3 hg3 HB2 HK2
  go_wp2
  go_loopw [6] (fun i wr => ∃ q : Nat, q ≤ kk ∧ i = .int .i64 q ∧ Hid (DK w.heap.size wr g (DD kk q)) ∧ Hid (Below w.heap.size w wr)) (fun i _ => kk - (intOf i).toNat)
  case atStart => exact ⟨0, Nat.zero_le _, rfl, HK3, HB3⟩
  case round =>
    clear HB3 HK3
    obtain ⟨q, hq, rfl, HK, HB⟩ := hrel
    have hws := HB.out.size
    by_cases hlt : q < kk
    · go_wp2_with fail
      refine (down_any HK.out).mono ?_
      rintro e w4 ⟨rfl, rfl⟩
      rw [DD_down, decide_eq_false (by omega)]
      go_wp2_with fail
      refine (cut_no (f := 0) (n := 5000) HK.out (fun _ => .inr (by simp only [PD.file, DD, if_true, List.length_replicate]; omega))).mono ?_
      rw [DD_cut hlt hk40]
      rintro e w5 ⟨rfl, hK5, hg5⟩
      have HB5 := Lib.hid (HB.out.grown hg5 hws (fun k hk => by cases hk; exact HG.out))
      have HK5 := Lib.hid hK5
      have hs5 := HB5.out.size
      clear hK5 hg5 HB HK
      have hb6 := (Below.refl w5.heap.size w5).alloc (Nat.le_refl _) (.cells #[.int .u8 1] 5)
      have hlit : Rd (w5.alloc (.cells #[.int .u8 1] 5)) (w5.alloc (.cells #[.int .u8 1] 5)).heap.size 1 (some ⟨w5.heap.size, 0, none⟩) 1 1 (by8 [1]) := Rd.lit (alloc_at rfl) (by simp) rfl (Nat.le_refl _)
      have HA := Lib.hid (append_any (f := ((q % 2 : Nat) : Int)) (HK5.out.below hb6) (Nat.le_refl _) hlit (by decide))
      rw [DD_append hlt hk40, show ((q % 2 : Nat) : Int) = (q : Int) % 2 by omega] at HA
      have HB6 := Lib.hid (HB5.out.trans (hb6.mono hs5))
      clear hb6 hlit HB5 HK5
      go_wp2_with fail
      refine HA.out.mono ?_
      rintro e w7 ⟨rfl, hK7, hg7⟩
      have HB7 := Lib.hid (HB6.out.grown hg7 HB6.out.size (fun k hk => by cases hk; exact HG.out))
      have HK7 := Lib.hid hK7
      clear hK7 hg7 HB6 HA
      go_wp2
      go_roundw
      case rel => exact ⟨q + 1, by omega, by go_num, HK7, HB7⟩
      case measure => simp [intOf]; omega
    · have hqk : q = kk := by omega
      subst hqk
      -- Read
      go_wp2_with fail
      refine (read_any (f := 0) HK.out).mono ?_
      rw [show (DD q q).read 0 = ([], 7) from by unfold PD.read; rw [if_pos (by rw [DD_end]; decide), DD_end]]
      rintro e w4 ⟨v, rfl, _, hb4⟩
      have HK4 := Lib.hid (HK.out.below hb4)
      have HB4 := Lib.hid (HB.out.trans (hb4.mono hws))
      have hs4 := HB4.out.size
      clear hb4 HK HB
      go_wp2_with fail
      refine (down_any HK4.out).mono ?_
      rintro e w5 ⟨rfl, rfl⟩
      rw [DD_down, decide_eq_true (by omega)]
      -- Append
      go_wp2_with fail
      refine (append_any (f := f) (bs := []) HK4.out (Nat.le_refl _) (Rd.none_ _ _ _) (by decide)).mono ?_
      rw [show (DD q q).append f [] = (7, DD q q) from by unfold PD.append; rw [if_pos (by rw [DD_end]; decide), DD_end]]
      rintro e w6 ⟨rfl, hK6, hg6⟩
      have HB6 := Lib.hid (HB4.out.grown hg6 hs4 (fun k hk => by cases hk; exact HG.out))
      have HK6 := Lib.hid hK6
      have hs6 := HB6.out.size
      clear hK6 hg6 HB4 HK4
      -- Sync
      go_wp2_with fail
      refine (sync_any (f := 0) HK6.out).mono ?_
      rw [show (DD q q).sync 0 = (7, DD q q) from by unfold PD.sync; rw [if_pos (by rw [DD_end]; decide), DD_end]]
      rintro e w7 ⟨rfl, hK7, hg7⟩
      have HB7 := Lib.hid (HB6.out.grown hg7 hs6 (fun k hk => by cases hk; exact HG.out))
      have HK7 := Lib.hid hK7
      have hs7 := HB7.out.size
      clear hK7 hg7 HB6 HK6
      -- Cut
      go_wp2_with fail
      refine (cut_no (f := 0) (n := 0) HK7.out (fun h => by rw [DD_end] at h; cases h)).mono ?_
      rw [show (DD q q).cut 0 0 = (7, DD q q) from by unfold PD.cut; rw [if_pos (by rw [DD_end]; decide), DD_end]]
      rintro e w8 ⟨rfl, hK8, hg8⟩
      have HB8 := Lib.hid (HB7.out.grown hg8 hs7 (fun k hk => by cases hk; exact HG.out))
      have HK8 := Lib.hid hK8
      have hs8 := HB8.out.size
      clear hK8 hg8 HB7 HK7
      -- Free
      go_wp2_with fail
      refine (free_any HK8.out).mono ?_
      rintro e w9 ⟨rfl, hb9⟩
      rw [DD_free]
      have HB9 := Lib.hid (HB8.out.trans (hb9.mono hs8))
      clear hb9
      go_wp2
      go_ret
      exact ⟨by simp, HB9.out⟩
end Go.Proofs.Ytabiegbbbljhlaa
