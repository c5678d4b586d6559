/- Walks: PlanOrphans. -/
import Derived.Test.YtnkboccngialiaaQ1
namespace Go.Proofs.Ytnkboccngialiaa
open Go.RowKit

set_option maxRecDepth 100000 in
set_option maxHeartbeats 8000000 in
theorem planOrphans_any {A A2 : Option Addr} {n c m c2 : Nat} {l : List Int} {ms : List MV} (w : World) (hn : n ≤ maxLen) (h : Rd w w.heap.size 1 A n c (l.map (.int .i64))) (hm : m ≤ maxLen) (h2 : RdM w w.heap.size A2 m c2 ms) :
    Calls Try.prog 8 #[.slice A n c, .slice A2 m c2] w (BoolBelow true w) := by
  have step : ∀ {u v : World}, Below w.heap.size w u → Below u.heap.size u v → Below w.heap.size w v := fun a b => a.trans (b.mono a.size)
  have C1 := pfew_any hm h2
  cases hf : fewM ms with
  | false =>
    rw [hf] at C1
    go_enter Try.func8, Try.ntmps8
    go_wp2_with fail
    refine C1.mono ?_
    rintro e w1 ⟨rfl, hb1⟩
    go_wp2_with fail
    refine (pawake_any w1).mono ?_
    rintro e w2 ⟨rfl, hb2⟩
    go_wp2
    go_ret
    exact ⟨rfl, step hb1 hb2⟩
  | true =>
    rw [hf] at C1
    go_enter Try.func8, Try.ntmps8
    go_wp2_with fail
    refine C1.mono ?_
    rintro e w1 ⟨rfl, hb⟩
    go_wp2_with fail
    refine (parents_any (M := 30) hn (h.to hb hb.size) (by omega)).mono ?_
    rintro e w2 ⟨Ag, cg, g, rfl, hg, hb0, hp⟩
    replace hb := step hb hb0
    obtain ⟨hrp, hg30⟩ := hp
    go_wp2_with fail
    refine (markers_any (N := g.length) hm (h2.to hb hb.size) (by omega)).mono ?_
    rintro e w3 ⟨Ak, ck, k, rfl, hM, hpl, hb0'⟩
    replace hb := step hb hb0'
    replace hg := hg.to hb0' hb0'.size
    have hkm : k.length ≤ maxLen := by have := hpl.len; unfold maxLen; omega
    have hfk := hpl.few
    have HR := Lib.hid hrp
    clear hb0 hb0' C1 h h2 hf hrp
    go_wp2_with fail
    refine (orphan_any (by omega) hg hkm hM hfk).mono ?_
    rintro e w4 ⟨a, b, s, rfl, ho, hb4⟩
    replace hb := step hb hb4
    replace hg := hg.to hb4 hb4.size
    replace hM := hM.to hb4 hb4.size
    clear hb4
    cases ho with
    | none_ hno =>
      have HN := Lib.hid (hno HR.out)
      clear hno
      go_wp2
      go_loopw [10] (fun iv wr => ∃ i : Nat, i ≤ g.length ∧ iv = .int .i64 i ∧ Below w4.heap.size w4 wr) (fun iv _ => g.length - (intOf iv).toNat)
      case atStart => exact ⟨0, Nat.zero_le _, rfl, Below.refl _ _⟩
      case round =>
        obtain ⟨i, hi, rfl, hbr⟩ := hrel
        by_cases hlt : i < g.length
        · obtain ⟨bg, og, p, rfl, hbg, hxp, g0⟩ := hg.int_ hlt
          have hpar := par_get hxp
          have HP := Lib.hid hpar
          clear hxp hpar
          have g1 := (hbr.cell (p := ⟨bg, og + i, none⟩) hbg).trans g0
          by_cases hp0 : p < 0
          · go_wp2
            go_roundw
            case rel => exact ⟨i + 1, by omega, by go_num, hbr⟩
            case measure => simp [intOf]; omega
          · have C2 := robs_any (x := (i : Int)) hkm (hM.to hbr hbr.size)
            cases ho1 : obs k (i : Int) with
            | true =>
              rw [ho1] at C2
              clear ho1
              go_wp2_with fail
              refine C2.mono ?_
              rintro e u1 ⟨rfl, hu1⟩
              go_wp2
              go_roundw
              case rel => exact ⟨i + 1, by omega, by go_num, hbr.trans (hu1.mono hbr.size)⟩
              case measure => simp [intOf]; omega
            | false =>
              rw [ho1] at C2
              have HO1 := Lib.hid ho1
              clear ho1
              go_wp2_with fail
              refine C2.mono ?_
              rintro e u1 ⟨rfl, hu1⟩
              have hbr1 := hbr.trans (hu1.mono hbr.size)
              have g2 := (hbr1.cell (p := ⟨bg, og + i, none⟩) hbg).trans g0
              have C3 := robs_any (x := p) hkm (hM.to hbr1 hbr1.size)
              clear C2 hu1
              cases ho2 : obs k p with
              | false =>
                rw [ho2] at C3
                clear ho2
                go_wp2_with fail
                refine C3.mono ?_
                rintro e u2 ⟨rfl, hu2⟩
                go_wp2
                go_roundw
                case rel => exact ⟨i + 1, by omega, by go_num, hbr1.trans (hu2.mono hbr1.size)⟩
                case measure => simp [intOf]; omega
              | true =>
                rw [ho2] at C3
                have HO2 := Lib.hid ho2
                clear ho2
                go_wp2_with fail
                refine C3.mono ?_
                rintro e u2 ⟨rfl, hu2⟩
                have hbr2 := hbr1.trans (hu2.mono hbr1.size)
                have g3 := (hbr2.cell (p := ⟨bg, og + i, none⟩) hbg).trans g0
                clear C3 hu2
                go_wp2_with fail
                refine (rtarget_any (i := p) (by omega) (hg.to hbr2 hbr2.size) hkm (hM.to hbr2 hbr2.size) hfk).mono ?_
                rintro e u3 ⟨t, rfl, hT, hu3⟩
                have hbr3 := hbr2.trans (hu3.mono hbr2.size)
                have hor : t = (i : Int) ∨ above g i t = true := by
                  by_cases e1 : t = (i : Int)
                  · exact .inl e1
                  · cases hab : above g i t with
                    | true => exact .inr rfl
                    | false => exact absurd ⟨by rw [HP.out]; omega, HO1.out, by rw [HP.out]; exact HO2.out, by rw [HP.out]; exact hT, e1, hab⟩ (HN.out i hlt t)
                clear hT hu3
                by_cases hti : t = (i : Int)
                · subst hti
                  go_wp2
                  go_roundw
                  case rel => exact ⟨i + 1, by omega, by go_num, hbr3⟩
                  case measure => simp [intOf]; omega
                · obtain ⟨e1, e2⟩ := int_ne hti
                  have C4 := rabove_any (a := (i : Int)) (b := t) (by omega) (hg.to hbr3 hbr3.size)
                  rw [hor.resolve_left hti] at C4
                  clear hor
                  go_wp2_with fail
                  refine C4.mono ?_
                  rintro e u4 ⟨rfl, hu4⟩
                  go_wp2
                  go_roundw
                  case rel => exact ⟨i + 1, by omega, by go_num, hbr3.trans (hu4.mono hbr3.size)⟩
                  case measure => simp [intOf]; omega
        · go_wp2_with fail
          refine (pawake_any _).mono ?_
          rintro e u1 ⟨rfl, hu1⟩
          go_wp2
          go_ret
          exact ⟨rfl, step hb (hbr.trans (hu1.mono hbr.size))⟩
    | @some_ i t hr hi hio hno =>
      obtain ⟨q1, q2, q3, q4, q5, q6⟩ := hio
      obtain ⟨bg, og, p, rfl, hbg, hxp, g0⟩ := hg.int_ hi
      have hpar := par_get hxp
      rw [hpar] at q1 q3 q4
      clear hxp hpar hno hr
      go_wp2_with fail
      refine (pawake_any w4).mono ?_
      rintro e u1 ⟨rfl, hbr⟩
      have g1 := (hbr.cell (p := ⟨bg, og + i, none⟩) hbg).trans g0
      have C1 := robs_any (x := (i : Int)) hkm (hM.to hbr hbr.size)
      rw [q2] at C1
      go_wp2_with fail
      refine C1.mono ?_
      rintro e u2 ⟨rfl, hu2⟩
      replace hbr := hbr.trans (hu2.mono hbr.size)
      have g2 := (hbr.cell (p := ⟨bg, og + i, none⟩) hbg).trans g0
      have C2 := robs_any (x := p) hkm (hM.to hbr hbr.size)
      rw [q3] at C2
      clear C1 hu2 q2 q3
      go_wp2_with fail
      refine C2.mono ?_
      rintro e u3 ⟨rfl, hu3⟩
      replace hbr := hbr.trans (hu3.mono hbr.size)
      have g3 := (hbr.cell (p := ⟨bg, og + i, none⟩) hbg).trans g0
      clear C2 hu3
      go_wp2_with fail
      refine (rtarget_any (i := p) (by omega) (hg.to hbr hbr.size) hkm (hM.to hbr hbr.size) hfk).mono ?_
      rintro e u4 ⟨t', rfl, hT, hu4⟩
      obtain rfl := hT.uniq q4
      replace hbr := hbr.trans (hu4.mono hbr.size)
      obtain ⟨e1, e2⟩ := int_ne q5
      have C3 := rabove_any (a := (i : Int)) (b := t') (by omega) (hg.to hbr hbr.size)
      rw [q6] at C3
      clear hT q4 hu4 q6
      go_wp2_with fail
      refine C3.mono ?_
      rintro e u5 ⟨rfl, hu5⟩
      go_wp2
      go_ret
      exact ⟨rfl, step hb (hbr.trans (hu5.mono hbr.size))⟩
end Go.Proofs.Ytnkboccngialiaa
