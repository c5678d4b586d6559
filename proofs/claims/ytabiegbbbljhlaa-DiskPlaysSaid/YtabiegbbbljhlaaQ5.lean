/- Walk: two disks, alike. -/
import Derived.Test.YtabiegbbbljhlaaQ4
namespace Go.Proofs.Ytabiegbbbljhlaa
open Go.RowKit

set_option maxRecDepth 100000 in
set_option maxHeartbeats 4000000 in
theorem alike_any {N g r : Nat} {d : PD} {w : World} (hd : DK N w g d) (hr : RK N w r d) :
    Calls Try.prog 54 #[.pointer (some ⟨g, 0, none⟩), .pointer (some ⟨r, 0, none⟩)] w (BoolBelow true w) := by
  have HD := Lib.hid hd
  have HR := Lib.hid hr
  clear hd hr
  go_enter Try.func54, Try.ntmps54
  go_wp2_with fail
  refine (down_any HD.out).mono ?_
  rintro e w1 ⟨rfl, rfl⟩
  go_wp2_with fail
  refine (rdown_any HR.out).mono ?_
  rintro e w2 ⟨rfl, rfl⟩
  generalize d.down = dn
  cases dn
  all_goals
    go_wp2_with fail
    refine (free_any HD.out).mono ?_
    rintro e w3 ⟨rfl, hb3⟩
    have HR3 := Lib.hid (HR.out.below hb3)
    have HB3 := Lib.hid hb3
    clear hb3
    go_wp2_with fail
    refine (rfree_any HR3.out).mono ?_
    rintro e w4 ⟨rfl, rfl⟩
    generalize d.free = fr
    clear HR3
    go_wp2
    go_loopw [5] (fun i wr => ∃ k : Nat, k ≤ 4 ∧ i = .int .i64 ((k : Int) - 1) ∧ Hid (Below w2.heap.size w2 wr)) (fun i _ => (3 - intOf i).toNat)
    case atStart => exact ⟨0, by omega, rfl, HB3⟩
    case round =>
      clear HB3
      obtain ⟨k, hk, rfl, HB⟩ := hrel
      have hws := HB.out.size
      have HDr := Lib.hid (HD.out.below HB.out)
      have HRr := Lib.hid (HR.out.below HB.out)
      by_cases hlt : k < 4
      · have h1 : (k : Int) - 1 ≤ 2 := by omega
        go_wp2_with fail
        refine (read_any HDr.out).mono ?_
        rintro e w5 ⟨v, rfl, ho, hb⟩
        obtain ⟨A5, c5, rfl, hc5⟩ := ownsRow_cap ho
        have HV5 := Lib.hid (Rd.of_own ho hc5)
        have HB5 := Lib.hid (HB.out.trans (hb.mono hws))
        have HD5 := Lib.hid (HDr.out.below hb)
        have HR5 := Lib.hid (HRr.out.below hb)
        have hs5 := HB5.out.size
        clear ho hb HB HDr HRr hws
        go_wp2_with fail
        refine (rread_any HR5.out).mono ?_
        rintro e w6 ⟨v, rfl, ho, hb⟩
        obtain ⟨A6, c6, rfl, hc6⟩ := ownsRow_cap ho
        have HW6 := Lib.hid (Rd.of_own ho hc6)
        have HV6 := Lib.hid (HV5.out.to hb hb.size)
        have HB6 := Lib.hid (HB5.out.trans (hb.mono hs5))
        have HD6 := Lib.hid (HD5.out.below hb)
        have HR6 := Lib.hid (HR5.out.below hb)
        have hs6 := HB6.out.size
        clear ho hb HB5 HD5 HR5 hs5 HV5
        generalize (d.read ((k : Int) - 1)).1 = L at *
        generalize (d.read ((k : Int) - 1)).2 = er at *
        go_wp2_with fail
        refine (bytes_any HV6.out HW6.out).mono ?_
        rintro e w7 ⟨rfl, rfl⟩
        rw [decide_eq_true rfl]
        go_wp2_with fail
        refine (synced_any HD6.out).mono ?_
        rintro e w8 ⟨rfl, rfl⟩
        go_wp2_with fail
        refine (rsynced_any HR6.out).mono ?_
        rintro e w9 ⟨rfl, rfl⟩
        generalize d.synced ((k : Int) - 1) = sy at *
        go_wp2
        exact ⟨⟨k + 1, by omega, by go_num, HB6⟩, by simp [intOf]; omega⟩
      · have h1 : ¬ (k : Int) - 1 ≤ 2 := by omega
        go_wp2
        go_ret
        exact ⟨rfl, HB.out⟩
end Go.Proofs.Ytabiegbbbljhlaa
