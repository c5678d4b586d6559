/- Walks: the document's Moved; the greatest; where one leads to. -/
import Derived.Test.YtnkboccngialiaaP5
namespace Go.Proofs.Ytnkboccngialiaa
open Go.RowKit

theorem ref_moved (l : List Int) (ms : List MV) (s : Int) : (underTo l s l.length).filter (fun x => okTo ms s (chain l x)) = moved l ms s := by
  unfold moved
  split
  · rename_i h
    unfold underTo movedTo
    rw [List.filter_filter]
    refine List.filter_congr fun x hx => ?_
    obtain ⟨k, hk, rfl⟩ := List.mem_map.1 hx
    have hlt := List.mem_range.1 hk
    show (okTo ms s (chain l (k : Int)) && above l s (k : Int)) = (decide (s ≤ (k : Int)) && mv l ms s (k : Int))
    by_cases hs : s ≤ (k : Int)
    · rw [decide_eq_true hs, Bool.true_and, ← okTo_mv h.1 h.2.1 (k := (k : Int)) (by omega) (by omega) hs, Bool.and_comm]
    · have : above l s (k : Int) = false := by
        unfold above
        refine decide_eq_false fun hx => ?_
        have := chain_mem hx; omega
      rw [this, decide_eq_false hs]; simp
  · rename_i h
    rw [List.filter_eq_nil_iff]
    intro x hx
    unfold underTo at hx
    rw [List.mem_filter] at hx
    have ha := hx.2
    unfold above at ha
    have := chain_mem (of_decide_eq_true ha)
    exact absurd ⟨this.1, this.2.1, by omega⟩ h

theorem okTo_step {ms : List MV} {s x : Int} {ch : List Int} {j : Nat} {b : Bool} (h : okTo ms s ch = (b && okTo ms s (ch.drop j))) (hx : ch[j]? = some x) :
    okTo ms s ch = ((b && !obs ms x) && (decide (x = s) || okTo ms s (ch.drop (j + 1)))) := by
  obtain ⟨hj, rfl⟩ := List.getElem?_eq_some_iff.1 hx
  rw [h, List.drop_eq_getElem_cons hj]
  simp only [okTo, Bool.and_assoc]

set_option maxRecDepth 100000 in
set_option maxHeartbeats 8000000 in
theorem rmoved_any {A A2 : Option Addr} {c m c2 : Nat} {l : List Int} {ms : List MV} {s : Int} {w : World} (hn : l.length ≤ 64) (h : Rd w w.heap.size 1 A l.length c (l.map (.int .i64))) (hm : m ≤ maxLen) (h2 : RdM w w.heap.size A2 m c2 ms) :
    Calls Try.prog 30 #[.slice A l.length c, .slice A2 m c2, .int .i64 s] w (Ints (· = moved l ms s) w) := by
  rw [← ref_moved]
  have hul := underTo_len l s l.length
  have C53 := under_any (i := s) (by omega) h
  obtain ⟨f, hf⟩ : ∃ f : Int → Bool, f = fun x => okTo ms s (chain l x) := ⟨_, rfl⟩
  rw [← hf]
  have HF : Hid (∀ x, f x = okTo ms s (chain l x)) := fun x => by rw [hf]
  clear hf
  generalize underTo l s l.length = un at *
  go_enter Try.func30, Try.ntmps30
  go_wp2_with fail
  refine C53.mono ?_
  rintro e w1 ⟨A3, c3, un, rfl, hr3, hb1, rfl⟩
  clear C53
  go_wp2
  go_loopw [7, 9] (fun ov kv wr => ∃ k : Nat, k ≤ un.length ∧ kv = .int .i64 k ∧ Below w.heap.size w wr ∧ Below w1.heap.size w1 wr ∧ wr.ownsRow w1.heap.size 3 1 ov ((un.take k).filter f).length (((un.take k).filter f).map (.int .i64))) (fun _ kv _ => un.length - (intOf kv).toNat)
  case atStart => exact ⟨0, Nat.zero_le _, rfl, hb1, Below.refl _ _, by rw [List.take_zero]; exact World.ownsRow_nil _ _ _ _⟩
  case round =>
    obtain ⟨k, hk, rfl, hb, hbn, hro⟩ := hrel
    have hml : ((un.take k).filter f).length ≤ un.length := Nat.le_trans (List.length_filter_le _ _) (by rw [List.length_take]; omega)
    by_cases hlt : k < un.length
    · obtain ⟨b3, o3, x, rfl, hb3, hx, g0⟩ := hr3.int_ hlt
      have g1 := (hbn.cell (p := ⟨b3, o3 + k, none⟩) hb3).trans g0
      have hsu : (un.take (k + 1)).filter f = (un.take k).filter f ++ if f x = true then [x] else [] := by
        rw [List.take_add_one, hx, Option.toList_some, List.filter_append]
        cases hfx : f x <;> simp [hfx]
      have HS := Lib.hid hsu; clear hsu hx
      have C54 := chain_any (i := x) (by omega) (h.to hb hb.size)
      have hchl := chain_len (l := l) (b := x)
      go_wp2_with fail
      refine C54.mono ?_
      rintro e w2 ⟨A4, c4, ch, rfl, hr4, hb2, hch⟩
      rw [← hch] at hchl
      have hbw := hb.trans (hb2.mono hb.size)
      have hbnw := hbn.trans (hb2.mono hbn.size)
      have hro2 := hro.kept (grown_none hb2 (Nat.le_refl _)) (by cases (Value.ownBlock u7) <;> simp)
      have HX := Lib.hid ((HF.out x).trans (congrArg (okTo ms s) hch.symm))
      clear hch hro hb2 hb hbn C54
      obtain ⟨ov, hov⟩ : ∃ v, v = u7 := ⟨_, rfl⟩
      rw [← hov] at hro2 ⊢
      clear hov
      go_wp2
      go_loopw [11, 12] (fun okv jv wr => ∃ (j : Nat) (b : Bool), j ≤ ch.length ∧ okv = .bool b ∧ jv = .int .i64 j ∧ Below w2.heap.size w2 wr ∧ Hid (okTo ms s ch = (b && okTo ms s (ch.drop j)))) (fun _ jv _ => ch.length - (intOf jv).toNat)
      case atStart => exact ⟨0, true, Nat.zero_le _, rfl, rfl, Below.refl _ _, by simp [Hid]⟩
      case round =>
        obtain ⟨j, b, hj, rfl, rfl, hbr, hjj⟩ := hrel
        by_cases hlt2 : j < ch.length
        · obtain ⟨b4, o4, y, rfl, hb4, hy, y0⟩ := hr4.int_ hlt2
          have y1 := (hbr.cell (p := ⟨b4, o4 + j, none⟩) hb4).trans y0
          have HST := Lib.hid (okTo_step hjj.out hy)
          clear hy
          cases b with
          | false =>
            have HST2 : Hid (okTo ms s ch = (false && (decide (y = s) || okTo ms s (ch.drop (j + 1))))) := HST.out.trans (by simp)
            by_cases hys : y = s
            · have HV : Hid (f x = false) := HX.out.trans (HST2.out.trans (by simp))
              subst hys
              go_wp2
              go_roundw
              case rel =>
                refine ⟨k + 1, by omega, by go_num, hbw.trans (hbr.mono hbw.size), hbnw.trans (hbr.mono hbnw.size), ?_⟩
                rw [HS.out, HV.out]
                simp only [Bool.false_eq_true, if_false, List.append_nil]
                exact hro2.kept (grown_none hbr (Nat.le_refl _)) (by cases ov.ownBlock <;> simp)
              case measure => simp [intOf]; omega
            · obtain ⟨e1, _⟩ := int_ne hys
              go_wp2
              go_roundw
              case rel => exact ⟨j + 1, false, by omega, rfl, by go_num, hbr, HST2.out.trans (by simp)⟩
              case measure => simp [intOf]; omega
          | true =>
            have hbo := hbw.trans (hbr.mono hbw.size)
            have C15 := robs_any (x := y) hm (h2.to hbo hbo.size)
            cases ho : obs ms y with
            | true =>
              rw [ho] at C15
              have HST2 : Hid (okTo ms s ch = false) := HST.out.trans (by simp [ho])
              clear ho
              by_cases hys : y = s
              · have HV : Hid (f x = false) := HX.out.trans HST2.out
                subst hys
                go_wp2_with fail
                refine C15.mono ?_
                rintro e w5 ⟨rfl, hb5⟩
                have hbr5 := hbr.trans (hb5.mono hbr.size)
                have y2 := (hb5.cell (p := ⟨b4, o4 + j, none⟩) (Nat.lt_of_lt_of_le hb4 hbr.size)).trans y1
                go_wp2
                go_roundw
                case rel =>
                  refine ⟨k + 1, by omega, by go_num, hbw.trans (hbr5.mono hbw.size), hbnw.trans (hbr5.mono hbnw.size), ?_⟩
                  rw [HS.out, HV.out]
                  simp only [Bool.false_eq_true, if_false, List.append_nil]
                  exact hro2.kept (grown_none hbr5 (Nat.le_refl _)) (by cases ov.ownBlock <;> simp)
                case measure => simp [intOf]; omega
              · obtain ⟨e1, _⟩ := int_ne hys
                go_wp2_with fail
                refine C15.mono ?_
                rintro e w5 ⟨rfl, hb5⟩
                have y2 := (hb5.cell (p := ⟨b4, o4 + j, none⟩) (Nat.lt_of_lt_of_le hb4 hbr.size)).trans y1
                go_wp2
                go_roundw
                case rel => exact ⟨j + 1, false, by omega, rfl, by go_num, hbr.trans (hb5.mono hbr.size), HST2.out.trans (by simp)⟩
                case measure => simp [intOf]; omega
            | false =>
              rw [ho] at C15
              have HST2 : Hid (okTo ms s ch = (decide (y = s) || okTo ms s (ch.drop (j + 1)))) := HST.out.trans (by simp [ho])
              clear ho
              by_cases hys : y = s
              · have HV : Hid (f x = true) := HX.out.trans (HST2.out.trans (by simp [hys]))
                subst hys
                go_wp2_with fail
                refine C15.mono ?_
                rintro e w5 ⟨rfl, hb5⟩
                have hbr5 := hbr.trans (hb5.mono hbr.size)
                have y2 := (hb5.cell (p := ⟨b4, o4 + j, none⟩) (Nat.lt_of_lt_of_le hb4 hbr.size)).trans y1
                have hb6 := (hbnw.trans (hbr5.mono hbnw.size)).alloc (hbnw.trans (hbr5.mono hbnw.size)).size (.cells #[.int .i64 x] 3)
                have hb6w := (hbw.trans (hbr5.mono hbw.size)).alloc (hbw.trans (hbr5.mono hbw.size)).size (.cells #[.int .i64 x] 3)
                have hro6 := (hro2.kept (grown_none hbr5 (Nat.le_refl _)) (by cases ov.ownBlock <;> simp)).alloc (.cells #[.int .i64 x] 3)
                have g3 := ((hbnw.trans (hbr5.mono hbnw.size)).cell (p := ⟨b3, o3 + k, none⟩) hb3).trans g0
                go_wp2_with (at_builtin; refine wpl_append rfl (.tmp 51) (.tmp 56) 28 rfl E28 rfl rfl hro6 (rd_lit1 w5 x) (one_ints _) (by unfold maxLen; omega) (by omega) hb6.size ?_; intro v9 w9 ho9 hg9 hv9)
                go_roundw
                case rel =>
                  refine ⟨k + 1, by omega, by go_num, hb6w.grown hg9 hb6w.size (fun q hq => Nat.le_trans hb1.size (hro6.lt q hq).1), hb6.grown hg9 hb6.size (fun q hq => (hro6.lt q hq).1), ?_⟩
                  rw [HS.out, HV.out]
                  simp only [if_true]
                  rw [List.length_append, List.map_append]; exact ho9
                case measure => simp [intOf]; omega
              · obtain ⟨e1, _⟩ := int_ne hys
                go_wp2_with fail
                refine C15.mono ?_
                rintro e w5 ⟨rfl, hb5⟩
                have y2 := (hb5.cell (p := ⟨b4, o4 + j, none⟩) (Nat.lt_of_lt_of_le hb4 hbr.size)).trans y1
                go_wp2
                go_roundw
                case rel => exact ⟨j + 1, true, by omega, rfl, by go_num, hbr.trans (hb5.mono hbr.size), HST2.out.trans (by simp [hys])⟩
                case measure => simp [intOf]; omega
        · have hjn : j = ch.length := by omega
          have hd : ch.drop j = [] := List.drop_eq_nil_of_le (by omega)
          have HE : Hid (f x = b) := HX.out.trans (hjj.out.trans (by rw [hd]; simp [okTo]))
          clear hd hjj
          cases b with
          | false =>
            have HV : Hid (f x = false) := HE.out
            go_wp2
            go_roundw
            case rel =>
              refine ⟨k + 1, by omega, by go_num, hbw.trans (hbr.mono hbw.size), hbnw.trans (hbr.mono hbnw.size), ?_⟩
              rw [HS.out, HV.out]
              simp only [Bool.false_eq_true, if_false, List.append_nil]
              exact hro2.kept (grown_none hbr (Nat.le_refl _)) (by cases ov.ownBlock <;> simp)
            case measure => simp [intOf]; omega
          | true =>
            have HV : Hid (f x = true) := HE.out
            have hb6 := (hbnw.trans (hbr.mono hbnw.size)).alloc (hbnw.trans (hbr.mono hbnw.size)).size (.cells #[.int .i64 x] 3)
            have hb6w := (hbw.trans (hbr.mono hbw.size)).alloc (hbw.trans (hbr.mono hbw.size)).size (.cells #[.int .i64 x] 3)
            have hro6 := (hro2.kept (grown_none hbr (Nat.le_refl _)) (by cases ov.ownBlock <;> simp)).alloc (.cells #[.int .i64 x] 3)
            have g3 := ((hbnw.trans (hbr.mono hbnw.size)).cell (p := ⟨b3, o3 + k, none⟩) hb3).trans g0
            go_wp2_with (at_builtin; refine wpl_append rfl (.tmp 51) (.tmp 56) 28 rfl E28 rfl rfl hro6 (rd_lit1 wr x) (one_ints _) (by unfold maxLen; omega) (by omega) hb6.size ?_; intro v9 w9 ho9 hg9 hv9)
            go_roundw
            case rel =>
              refine ⟨k + 1, by omega, by go_num, hb6w.grown hg9 hb6w.size (fun q hq => Nat.le_trans hb1.size (hro6.lt q hq).1), hb6.grown hg9 hb6.size (fun q hq => (hro6.lt q hq).1), ?_⟩
              rw [HS.out, HV.out]
              simp only [if_true]
              rw [List.length_append, List.map_append]; exact ho9
            case measure => simp [intOf]; omega
    · have hkn : k = un.length := by omega
      subst hkn
      rw [List.take_of_length_le (Nat.le_refl _)] at hro
      obtain ⟨A5, c5, rfl, hc5⟩ := ownsRow_cap hro
      go_wp2
      go_ret
      exact ⟨A5, c5, _, rfl, Rd.of_own hro hc5, hb, rfl⟩
end Go.Proofs.Ytnkboccngialiaa
