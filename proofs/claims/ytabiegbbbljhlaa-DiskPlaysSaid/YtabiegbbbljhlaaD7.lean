/- Walk: the disk law's awake. -/
import Derived.Test.YtabiegbbbljhlaaD6
import Derived.Test.YtabiegbbbljhlaaW4
namespace Go.Proofs.Ytabiegbbbljhlaa
open Go.RowKit

def awD : PD := ((PD.new 10).append 0 [1, 2]).2
theorem aw1 : ((PD.new 10).append 0 [1, 2]).1 = 0 := by decide
theorem aw2 : awD.free = 8 := by decide
theorem aw3 : awD.synced 0 = 0 := by decide
theorem aw4 : (awD.read 0).2 = 0 ∧ (awD.read 0).1 = [1, 2] := by decide
theorem aw5 : (awD.sync 0).1 = 0 := by decide
theorem aw6 : (awD.sync 0).2.synced 0 = 2 := by decide

set_option maxRecDepth 100000 in
set_option maxHeartbeats 4000000 in
theorem awake3_any (w : World) : Calls Try.prog 33 #[] w (BoolBelow true w) := by
  go_enter Try.func33, Try.ntmps33
  go_wp2_with fail
  refine (new_any (N := w.heap.size) (Nat.le_refl _)).mono ?_
  rintro e w1 ⟨g, rfl, hK, hg, hb1⟩
  have hs1 := hb1.size
  have hb1' := (Below.refl w1.heap.size w1).alloc (Nat.le_refl _) (.cells #[.int .u8 1, .int .u8 2] 5)
  have hlit : Rd (w1.alloc (.cells #[.int .u8 1, .int .u8 2] 5)) (w1.alloc (.cells #[.int .u8 1, .int .u8 2] 5)).heap.size 1 (some ⟨w1.heap.size, 0, none⟩) 2 2 (by8 [1, 2]) := Rd.lit (alloc_at rfl) (by simp) rfl (Nat.le_refl _)
  have HA := Lib.hid (append_any (f := 0) (hK.below hb1') (Nat.le_refl _) hlit (by decide))
  have HB1 := Lib.hid (hb1.trans (hb1'.mono hs1))
  have HG := Lib.hid hg
  clear hlit hb1' hb1 hg hK
  go_wp2_with fail
  refine HA.out.mono ?_
  rintro e w2 ⟨rfl, hK2, hg2⟩
  rw [aw1]
  have hK2 : DK w.heap.size w2 g awD := hK2
  have HB2 := Lib.hid (HB1.out.grown hg2 HB1.out.size (fun k hk => by cases hk; have := HG.out; omega))
  have HK2 := Lib.hid hK2
  clear hK2 hg2 HA
  go_wp2_with fail
  refine (free_any HK2.out).mono ?_
  rintro e w3 ⟨rfl, hb3⟩
  rw [aw2]
  have HK3 := Lib.hid (HK2.out.below hb3)
  have HB3 := Lib.hid (HB2.out.trans (hb3.mono HB2.out.size))
  clear hb3 HK2 HB2
  go_wp2_with fail
  refine (synced_any HK3.out).mono ?_
  rintro e w4 ⟨rfl, rfl⟩
  rw [aw3]
  go_wp2_with fail
  refine (read_any HK3.out).mono ?_
  rintro e w5 ⟨v, rfl, ho, hb5⟩
  obtain ⟨A, c, rfl, hc⟩ := ownsRow_cap ho
  rw [aw4.1]
  rw [show (awD.read 0).1.length = 2 from by rw [aw4.2]; rfl]
  have HK5 := Lib.hid (HK3.out.below hb5)
  have HB5 := Lib.hid (HB3.out.trans (hb5.mono HB3.out.size))
  clear hb5 HK3 HB3 ho
  go_wp2_with fail
  refine (sync_any HK5.out).mono ?_
  rintro e w6 ⟨rfl, hK6, hg6⟩
  rw [aw5]
  have HB6 := Lib.hid (HB5.out.grown hg6 HB5.out.size (fun k hk => by cases hk; have := HG.out; omega))
  have HK6 := Lib.hid hK6
  clear hK6 hg6 HK5 HB5
  go_wp2_with fail
  refine (synced_any HK6.out).mono ?_
  rintro e w7 ⟨rfl, rfl⟩
  rw [aw6]
  go_wp2
  go_ret
  exact ⟨rfl, HB6.out⟩
end Go.Proofs.Ytabiegbbbljhlaa
