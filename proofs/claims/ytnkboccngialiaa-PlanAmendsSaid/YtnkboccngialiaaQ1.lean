/- Walks: PlanMoves. -/
import Derived.Test.YtnkboccngialiaaP10
import Derived.Test.YtnkboccngialiaaQ0
namespace Go.Proofs.Ytnkboccngialiaa
open Go.RowKit

theorem play_new {N : Nat} {ms : List MV} (h : PlayIs N ms) : ∀ m ∈ ms, ∀ y ∈ m.new, y < (N : Int) := fun m hm y hy => ((h.all m hm).2.2.2 y hy).2

set_option maxRecDepth 100000 in
set_option maxHeartbeats 8000000 in
theorem planMoves_any {A A2 : Option Addr} {n c m c2 : Nat} {l : List Int} {ms : List MV} {i0 : Int} (w : World) (hn : n ≤ maxLen) (h : Rd w w.heap.size 1 A n c (l.map (.int .i64))) (hm : m ≤ maxLen) (h2 : RdM w w.heap.size A2 m c2 ms) :
    Calls Try.prog 7 #[.slice A n c, .slice A2 m c2, .int .i64 i0] w (BoolBelow true w) := by
  have step : ∀ {u v : World}, Below w.heap.size w u → Below u.heap.size u v → Below w.heap.size w v := fun a b => a.trans (b.mono a.size)
  have C1 := pfew_any hm h2
  cases hf : fewM ms with
  | false =>
    rw [hf] at C1
    go_enter Try.func7, Try.ntmps7
    go_wp2_with fail
    refine C1.mono ?_
    rintro e w1 ⟨rfl, hb1⟩
    go_wp2_with fail
    refine (pawake_any w1).mono ?_
    rintro e w2 ⟨rfl, hb2⟩
    go_wp2
    go_ret
    exact ⟨rfl, step hb1 hb2⟩
  | true =>
    rw [hf] at C1
    go_enter Try.func7, Try.ntmps7
    go_wp2_with fail
    refine C1.mono ?_
    rintro e w1 ⟨rfl, hb⟩
    go_wp2_with fail
    refine (parents_any (M := 30) hn (h.to hb hb.size) (by omega)).mono ?_
    rintro e w2 ⟨Ag, cg, g, rfl, hg, hb0, hp⟩
    replace hb := step hb hb0
    obtain ⟨hrp, hg30⟩ := hp
    go_wp2_with fail
    refine (markers_any (N := g.length) hm (h2.to hb hb.size) (by omega)).mono ?_
    rintro e w3 ⟨Ak, ck, k, rfl, hM, hpl, hb0'⟩
    replace hb := step hb hb0'
    replace hg := hg.to hb0' hb0'.size
    have hkm : k.length ≤ maxLen := by have := hpl.len; unfold maxLen; omega
    have hfk := hpl.few
    clear hb0 hb0' C1 h h2 hf
    by_cases hz : g.length = 0
    · go_wp2_with fail
      refine (pawake_any _).mono ?_
      rintro e w4 ⟨rfl, hb4⟩
      go_wp2
      go_ret
      exact ⟨rfl, step hb hb4⟩
    · have hzi : ¬ (g.length : Int) = 0 := by omega
      obtain ⟨ki, hki, hkil⟩ := mod_at i0 (N := g.length) (by omega) (by omega)
      have hw := u64_nat (N := g.length) (by omega)
      go_wp2_with fail
      try rw [hki]
      refine (moved_any (s := (ki : Int)) (by omega) hg hkm hM).mono ?_
      rintro e w4 ⟨Av, cv, v, rfl, hv, hb4, hveq⟩
      replace hb := step hb hb4
      replace hg := hg.to hb4 hb4.size
      replace hM := hM.to hb4 hb4.size
      clear hb4 hki
      have hvl : v.length ≤ 30 := by rw [hveq]; exact Nat.le_trans (moved_len _ _ _) hg30
      have HV := Lib.hid hveq
      clear hveq
      have hself := moved_self (ms := k) hrp (s := (ki : Int)) (by omega) (by omega)
      have CI := in_any (x := (ki : Int)) (by unfold maxLen; omega) hv
      rw [HV.out] at CI
      rw [hself, ← HV.out] at CI
      have HR := Lib.hid hrp
      clear hrp hself
      have CT : ∀ u : World, Below w4.heap.size w4 u → Calls Try.prog 31 #[.slice Ag g.length cg, .slice Ak k.length ck, .int .i64 ki] u (Tgt g k ki u) := fun u hu => target_any (by omega) (hg.to hu hu.size) hkm (hM.to hu hu.size) hfk
      go_wp2_with fail
      refine CI.mono ?_
      rintro e w5 ⟨rfl, hb5⟩
      have CO := robs_any (x := (ki : Int)) hkm (hM.to hb5 hb5.size)
      go_wp2_with fail
      refine CO.mono ?_
      rintro e w6 ⟨rfl, hb6⟩
      have hb56 := hb5.trans (hb6.mono hb5.size)
      have hob : ∃ b, obs k ki = b := ⟨_, rfl⟩
      obtain ⟨bo, hbo⟩ := hob
      rw [hbo]
      have HBO := Lib.hid hbo
      clear hbo CI CO hb5 hb6
      cases bo
      all_goals
        go_wp2
        go_loopw [10] (fun tv wr => ∃ t : Nat, t ≤ v.length ∧ tv = .int .i64 t ∧ Below w4.heap.size w4 wr) (fun tv _ => v.length - (intOf tv).toNat)
        case atStart => exact ⟨0, Nat.zero_le _, rfl, hb56⟩
        case round =>
          obtain ⟨t, ht, rfl, hbr⟩ := hrel
          by_cases hlt : t < v.length
          · obtain ⟨bv, ov, x, rfl, hbv, hx, v0⟩ := hv.int_ hlt
            have hxm : x ∈ moved g k ki := by rw [← HV.out]; exact List.mem_of_getElem? hx
            obtain ⟨f1, f2, f3, f4, f5⟩ := moved_at hxm
            obtain ⟨bg, og, p, rfl, hbg, hxp, g0⟩ := hg.int_ (k := x.toNat) (by omega)
            have hpar := par_get hxp
            rw [Int.toNat_of_nonneg f2] at hpar
            have hprev : 0 < t → ∃ y, w4.cell? ⟨bv, ov + (t - 1), none⟩ = some (.int .i64 y) ∧ y < x := fun h0 => by
              obtain ⟨b', o', y, e, _, hy, g1⟩ := hv.int_ (k := t - 1) (by omega)
              cases e
              refine ⟨y, g1, ?_⟩
              have h1 := (List.getElem?_eq_some_iff.1 hx)
              have h2 := (List.getElem?_eq_some_iff.1 hy)
              have hs := moved_sorted g k ki
              rw [← HV.out] at hs
              have := List.pairwise_iff_getElem.1 hs (t - 1) t h2.1 h1.1 (by omega)
              rw [h1.2, h2.2] at this
              exact this
            have v1 := (hbr.cell (p := ⟨bv, ov + t, none⟩) hbv).trans v0
            have C15 := robs_any (x := x) hkm (hM.to hbr hbr.size)
            rw [f4] at C15
            clear hxp hx
            go_wp2_with fail
            refine C15.mono ?_
            rintro e u1 ⟨rfl, hu1⟩
            have hbr1 := hbr.trans (hu1.mono hbr.size)
            clear C15 hu1
            by_cases hxk : x = (ki : Int)
            · have hxk2 : (x == (ki : Int)) = true := by rw [hxk]; simp
              subst hxk
              rcases Nat.eq_zero_or_pos t with ht0 | ht0
              · subst ht0
                go_wp2
                go_roundw
                case rel => exact ⟨1, by omega, by go_num, hbr1⟩
                case measure => simp [intOf]; omega
              · obtain ⟨y, y0, hyx⟩ := hprev ht0
                have y1 := (hbr1.cell (p := ⟨bv, ov + (t - 1), none⟩) hbv).trans y0
                have v2 := (hbr1.cell (p := ⟨bv, ov + t, none⟩) hbv).trans v0
                have e3 : ((t : Int) - 1).toNat = t - 1 := by omega
                go_wp2
                go_roundw
                case rel => exact ⟨t + 1, by omega, by go_num, hbr1⟩
                case measure => simp [intOf]; omega
            · obtain ⟨e1, e2⟩ := int_ne hxk
              have hpm : p ∈ v := by rw [HV.out, ← hpar]; exact f5.resolve_left hxk
              have C22 := in_any (x := p) (by unfold maxLen; omega) (hv.to hbr1 hbr1.size)
              rw [decide_eq_true hpm] at C22
              have g1 := (hbr1.cell (p := ⟨bg, og + x.toNat, none⟩) hbg).trans g0
              clear hpm
              go_wp2_with fail
              refine C22.mono ?_
              rintro e u2 ⟨rfl, hu2⟩
              have hbr2 := hbr1.trans (hu2.mono hbr1.size)
              clear C22 hu2
              rcases Nat.eq_zero_or_pos t with ht0 | ht0
              · subst ht0
                go_wp2
                go_roundw
                case rel => exact ⟨1, by omega, by go_num, hbr2⟩
                case measure => simp [intOf]; omega
              · obtain ⟨y, y0, hyx⟩ := hprev ht0
                have y1 := (hbr2.cell (p := ⟨bv, ov + (t - 1), none⟩) hbv).trans y0
                have v2 := (hbr2.cell (p := ⟨bv, ov + t, none⟩) hbv).trans v0
                have e3 : ((t : Int) - 1).toNat = t - 1 := by omega
                go_wp2
                go_roundw
                case rel => exact ⟨t + 1, by omega, by go_num, hbr2⟩
                case measure => simp [intOf]; omega
          · go_wp2
            go_loopw [12] (fun xv wr => ∃ x : Nat, x ≤ g.length ∧ xv = .int .i64 x ∧ Below w4.heap.size w4 wr) (fun xv _ => g.length - (intOf xv).toNat)
            case atStart => exact ⟨0, Nat.zero_le _, rfl, hbr⟩
            case round =>
              clear hbr
              obtain ⟨x, hxl, rfl, hbr⟩ := hrel
              by_cases hlt2 : x < g.length
              · obtain ⟨bg, og, p, rfl, hbg, hxp, g0⟩ := hg.int_ hlt2
                have hpar := par_get hxp
                clear hxp
                have C1 := in_any (x := (x : Int)) (by unfold maxLen; omega) (hv.to hbr hbr.size)
                by_cases hxm : (x : Int) ∈ v
                · rw [decide_eq_true hxm] at C1
                  clear hxm
                  go_wp2_with fail
                  refine C1.mono ?_
                  rintro e u1 ⟨rfl, hu1⟩
                  go_wp2
                  go_roundw
                  case rel => exact ⟨x + 1, by omega, by go_num, hbr.trans (hu1.mono hbr.size)⟩
                  case measure => simp [intOf]; omega
                · rw [decide_eq_false hxm] at C1
                  go_wp2_with fail
                  refine C1.mono ?_
                  rintro e u1 ⟨rfl, hu1⟩
                  have hbr1 := hbr.trans (hu1.mono hbr.size)
                  have g1 := (hbr1.cell (p := ⟨bg, og + x, none⟩) hbg).trans g0
                  have C2 := in_any (x := p) (by unfold maxLen; omega) (hv.to hbr1 hbr1.size)
                  by_cases hpm : p ∈ v
                  · rw [decide_eq_true hpm] at C2
                    have hox : obs k (x : Int) = true := by
                      cases hob : obs k (x : Int) with
                      | true => rfl
                      | false => exact absurd (by rw [HV.out]; exact moved_closed (by omega) (by omega) (by rw [hpar, ← HV.out]; exact hpm) hob) hxm
                    clear hpm hxm
                    go_wp2_with fail
                    refine C2.mono ?_
                    rintro e u2 ⟨rfl, hu2⟩
                    have hbr2 := hbr1.trans (hu2.mono hbr1.size)
                    have C3 := robs_any (x := (x : Int)) hkm (hM.to hbr2 hbr2.size)
                    rw [hox] at C3
                    go_wp2_with fail
                    refine C3.mono ?_
                    rintro e u3 ⟨rfl, hu3⟩
                    go_wp2
                    go_roundw
                    case rel => exact ⟨x + 1, by omega, by go_num, hbr2.trans (hu3.mono hbr2.size)⟩
                    case measure => simp [intOf]; omega
                  · rw [decide_eq_false hpm] at C2
                    clear hpm hxm
                    go_wp2_with fail
                    refine C2.mono ?_
                    rintro e u2 ⟨rfl, hu2⟩
                    go_wp2
                    go_roundw
                    case rel => exact ⟨x + 1, by omega, by go_num, hbr1.trans (hu2.mono hbr1.size)⟩
                    case measure => simp [intOf]; omega
              · go_wp2_with fail
                refine (CT _ hbr).mono ?_
                rintro e u1 ⟨t, rfl, hT, hu1⟩
                have hta := target_at (play_new hpl) hT
                have hts := fun ho => target_self HR.out (by omega) (by omega) ho hT
                have HTS : Hid (obs k ki = false → t = ki) := hts
                have hbr1 := hbr.trans (hu1.mono hbr.size)
                clear hts hT hu1
                go_wp2_with fail
                refine (pawake_any u1).mono ?_
                rintro e u2 ⟨rfl, hu2⟩
                have hbr2 := hbr1.trans (hu2.mono hbr1.size)
                clear hu2
                have CK : ∀ u : World, Below w4.heap.size w4 u → Calls Try.prog 15 #[.slice Ak k.length ck, .int .i64 ki] u (BoolBelow (obs k ki) u) := fun u hu => robs_any hkm (hM.to hu hu.size)
                rw [HBO.out] at CK
                rcases hta with rfl | ⟨ht0, ht1, hto⟩
                · go_wp2_with fail
                  refine (CK _ hbr2).mono ?_
                  rintro e u9 ⟨rfl, hu9⟩
                  have hbr9 := hbr2.trans (hu9.mono hbr2.size)
                  first
                    | (exfalso; have hte := HTS.out HBO.out; omega)
                    | (have hte := HTS.out HBO.out
                       subst hte
                       go_wp2
                       go_ret
                       exact ⟨rfl, step hb hbr9⟩)
                    | (go_wp2
                       go_ret
                       exact ⟨rfl, step hb hbr9⟩)
                · have CTo := robs_any (x := t) hkm (hM.to hbr2 hbr2.size)
                  rw [hto] at CTo
                  clear hto
                  go_wp2_with fail
                  refine CTo.mono ?_
                  rintro e u3 ⟨rfl, hu3⟩
                  have hbr3 := hbr2.trans (hu3.mono hbr2.size)
                  go_wp2_with fail
                  refine (CK _ hbr3).mono ?_
                  rintro e u9 ⟨rfl, hu9⟩
                  have hbr9 := hbr3.trans (hu9.mono hbr3.size)
                  first
                    | (exfalso; have hte := HTS.out HBO.out; omega)
                    | (have hte := HTS.out HBO.out
                       subst hte
                       go_wp2
                       go_ret
                       exact ⟨rfl, step hb hbr9⟩)
                    | (go_wp2
                       go_ret
                       exact ⟨rfl, step hb hbr9⟩)
end Go.Proofs.Ytnkboccngialiaa
