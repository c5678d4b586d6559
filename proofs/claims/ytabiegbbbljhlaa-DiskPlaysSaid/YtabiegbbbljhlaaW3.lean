/- Walk: hunk.Apply. -/
import Derived.Test.YtabiegbbbljhlaaW2
namespace Go.Proofs.Ytabiegbbbljhlaa
open Go.RowKit

/-- A call that hands back lines and a number, and makes memory of its own. -/
def LinesErr (l : List ByteArray) (k : Int) (w : World) (e : Ending) (w' : World) : Prop :=
  ∃ A n c, e = .returned (.tuple #[.slice A n c, .int .i64 k]) ∧ Rd w' w'.heap.size 1 A n c (l.map .string) ∧ Below w.heap.size w w'

theorem E22 : Elem Try.prog 22 9 1 16 := elem_of (by kernel_rfl)

theorem matchOk_1 {a : List ByteArray} {h : HV} {z : Nat} (hz : h.at_ = z) (hn : (a.length : Int) < z) : matchOk a h = false := by
  simp only [matchOk, hz, Bool.and_eq_false_iff, decide_eq_false_iff_not]; omega
theorem matchOk_2 {a : List ByteArray} {h : HV} {z : Nat} (hz : h.at_ = z) (hn : (a.length : Int) - z < h.old.length) : matchOk a h = false := by
  simp only [matchOk, hz, Bool.and_eq_false_iff, decide_eq_false_iff_not]; omega
theorem matchOk_3 {a : List ByteArray} {h : HV} {z : Nat} (hz : h.at_ = z) (h1 : ¬ (a.length : Int) < z) (h2 : ¬ (a.length : Int) - z < h.old.length) :
    matchOk a h = decide ((a.take (z + h.old.length)).drop z = h.old) := by
  simp only [matchOk, hz, Int.toNat_natCast]
  rw [decide_eq_true (by omega), decide_eq_true (by omega)]; rfl

set_option maxRecDepth 100000 in
set_option maxHeartbeats 8000000 in
theorem apply_wide {A L : Option Addr} {n ca nl cl : Nat} {a : List ByteArray} {hs : List HV} {w : World} (hn : n ≤ 1048576)
    (ha : Rd w w.heap.size 1 A n ca (a.map .string)) (h : RdH w w.heap.size L nl cl hs) (hnl : nl ≤ 1048576) (hnew : newLen hs ≤ 1048576) :
    Calls Try.prog 15 #[.slice A n ca, .slice L nl cl] w (LinesErr (resOf a hs) (errOf a hs) w) := by
  have HA := Lib.hid (show a.length = n by have := ha.len; simpa using this)
  have C := right_any (w := w) (by simp only [maxLen]; omega) h
  cases hr : right hs with
  | false =>
    rw [hr] at C
    have HC := Lib.hid C; clear C
    have HR := Lib.hid hr; clear hr
    go_enter Try.func15, Try.ntmps15
    go_wp2_with fail
    refine HC.out.mono ?_
    rintro e w' ⟨rfl, hb'⟩
    go_wp2
    go_ret2
    exact ⟨none, 0, 0, by simp [errOf, HR.out], by rw [show resOf a hs = [] by simp [resOf, HR.out]]; exact Rd.none_ _ _ _, hb'⟩
  | true =>
    rw [hr] at C
    have HC := Lib.hid C; clear C
    have HR := Lib.hid hr; clear hr
    go_enter Try.func15, Try.ntmps15
    go_wp2_with fail
    refine HC.out.mono ?_
    rintro e w1 ⟨rfl, hb1⟩
    go_wp2
    go_loopw [6, 7, 15] (fun out at_ i wr => ∃ k : Nat, k ≤ nl ∧ i = .int .i64 k ∧ at_ = .int .i64 ((sts a (hs.take k)).2 : Nat) ∧ Below w.heap.size w wr ∧
        wr.ownsRow w.heap.size 9 1 out (sts a (hs.take k)).1.length ((sts a (hs.take k)).1.map .string) ∧ Hid (∀ j, j < k → matchAt a hs j = true) ∧ Hid ((sts a (hs.take k)).2 ≤ a.length))
      (fun _ _ i _ => nl - (intOf i).toNat)
    case atStart =>
      refine ⟨0, Nat.zero_le _, rfl, ?_, hb1, ?_, fun j hj => absurd hj (Nat.not_lt_zero _), ?_⟩
      · rw [List.take_zero]; rfl
      · rw [List.take_zero]; exact World.ownsRow_nil _ _ _ _
      · rw [List.take_zero]; exact Nat.zero_le _
    case round =>
      obtain ⟨k, hk, rfl, rfl, hb, hown, hj, hat⟩ := hrel
      by_cases hlt : k < nl
      · obtain ⟨b0, o0, u, rfl, hbb, hx, hu, h0, h1, h2⟩ := h.get hlt
        replace h0 := (hb.cell hbb).trans h0
        replace h1 := (hb.cell hbb).trans h1
        replace h2 := (hb.cell hbb).trans h2
        have HX := Lib.hid hx; clear hx
        obtain ⟨hro, hrn, ho, hnn, ha0, ha1⟩ := h.parts u hu
        have hok := ok_at (right_at HR.out (k := k) (by rw [h.len]; exact hlt)) HX.out
        obtain ⟨z, hz⟩ : ∃ z : Nat, u.at_ = z := ⟨u.at_.toNat, by omega⟩
        have HZ := Lib.hid hz
        have HL := Lib.hid (at_le (a := a) HR.out HX.out)
        rw [hz] at h0 hok
        clear hz ha0 ha1
        obtain ⟨hz0, hz1⟩ := hok
        go_wp2
        refine wp_region_q (fun w' => Below w.heap.size w w' ∧ w'.heap[wr.heap.size]? = some (.cells #[.int .i64 z, .slice u.oA u.old.length u.oc, .slice u.nA u.new.length u.nc] 29 (0, 0))) (qe [29] 32) mixed (by kernel_rfl) ?_ ?_
        · exact ⟨((hb.alloc hb.size _).drew), heap_alloc_new _ _⟩
        intro T M Q hT hT' hM hQ
        have m0 : M ⟨wr.heap.size, 0, none⟩ = some (.int .i64 z) := hM _ _ fun w' hw => by rw [cell_of_row w' _ _ _ _ _ hw.2]; rfl
        have m1 : M ⟨wr.heap.size, 1, none⟩ = some (.slice u.oA u.old.length u.oc) := hM _ _ fun w' hw => by rw [cell_of_row w' _ _ _ _ _ hw.2]; rfl
        have e1 : ((z : Int) + (u.old.length : Int)).toNat = z + u.old.length := by omega
        clear hM
        simp only [qcmp, Nat.reduceBEq]
        simp (maxSteps := 5000000) only [↓qpre, qpost, qfacts, qnorm, m0, m1, e1, sliced]
        have hbE : Below w.heap.size w ((wr.alloc (Obj.cells #[Value.int IntKind.i64 z, Value.slice u.oA u.old.length u.oc, Value.slice u.nA u.new.length u.nc] 29)).drew) := (hb.alloc hb.size _).drew
        refine gsym_i ?_ ?_
        · intro c1
          have HM := Lib.hid (err13 HR.out (matches_false HX.out (matchOk_1 HZ.out (by rw [HA.out]; exact of_decide_eq_true c1))))
          refine hQ _ _ ?_
          clear hQ hT hT' m0 m1 c1
          go_wp2
          go_ret2
          exact ⟨none, 0, 0, by rw [HM.out.1]; rfl, by rw [HM.out.2]; exact Rd.none_ _ _ _, hbE⟩
        intro c1
        replace c1 := of_decide_eq_false c1
        refine ⟨⟨by omega, by omega⟩, gsym_i ?_ ?_⟩
        · intro c2
          have HM := Lib.hid (err13 HR.out (matches_false HX.out (matchOk_2 HZ.out (by rw [HA.out]; exact of_decide_eq_true c2))))
          refine hQ _ _ ?_
          clear hQ hT hT' m0 m1 c1 c2
          go_wp2
          go_ret2
          exact ⟨none, 0, 0, by rw [HM.out.1]; rfl, by rw [HM.out.2]; exact Rd.none_ _ _ _, hbE⟩
        intro c2
        replace c2 := of_decide_eq_false c2
        have hcap := ha.cap
        refine ⟨⟨by omega, by omega⟩, ⟨by omega, by omega, by omega⟩, ?_⟩
        have hle : z + u.old.length ≤ n := by omega
        have hrE := ((ha.below hbE).cut1 (l := z) (k := z + u.old.length) (by omega) hle)
        rw [← List.map_take, ← List.map_drop] at hrE
        have C := equal_any (by simp only [maxLen]; omega) (by simp only [maxLen]; omega) hrE (hro.below hbE)
        refine eff_call (by kernel_rfl) C rfl rfl ?_
        clear C
        rintro e w2 ⟨rfl, kk, rfl⟩
        have hbF := below_drewN hbE kk
        refine ⟨_, rfl, hT _ ⟨hbF, heap_alloc_new _ _⟩, ?_⟩
        have HD := Lib.hid (matchOk_3 (a := a) HZ.out (by rw [HA.out]; exact c1) (by rw [HA.out]; exact c2))
        simp (maxSteps := 5000000) only [↓qpre, qpost, qnorm]
        refine hQ _ _ ?_
        clear hQ hT hT' m0 m1 e1 c1 c2
        generalize Value.slice (if ca = z then A else Option.map (fun x => x.add z) A) (z + u.old.length - z) (ca - z) = s45
        cases hd : decide ((a.take (z + u.old.length)).drop z = u.old)
        · rw [hd] at HD
          clear hd
          have HM := Lib.hid (err13 HR.out (matches_false HX.out HD.out))
          go_wp2
          go_ret2
          exact ⟨none, 0, 0, by rw [HM.out.1]; rfl, by rw [HM.out.2]; exact Rd.none_ _ _ _, hbF⟩
        rw [hd] at HD
        clear hd
        clear hrE
        have hown2 : (((wr.alloc (Obj.cells #[Value.int IntKind.i64 z, Value.slice u.oA u.old.length u.oc, Value.slice u.nA u.new.length u.nc] 29)).drew).drewN kk).ownsRow w.heap.size 9 1 u6 (sts a (List.take k hs)).1.length ((sts a (List.take k hs)).1.map .string) := hown.alloc _
        have hbox : ((((wr.alloc (Obj.cells #[Value.int IntKind.i64 z, Value.slice u.oA u.old.length u.oc, Value.slice u.nA u.new.length u.nc] 29)).drew).drewN kk).heap[wr.heap.size]? = some (.cells #[.int .i64 z, .slice u.oA u.old.length u.oc, .slice u.nA u.new.length u.nc] 29 (0, 0))) := heap_alloc_new _ _
        have hneq : ∀ g, u6.ownBlock = some g → g < wr.heap.size := fun g hg => (hown.lt g hg).2
        have hbase : w.heap.size ≤ wr.heap.size := hb.size
        have hsz : wr.heap.size < ((((wr.alloc (Obj.cells #[Value.int IntKind.i64 z, Value.slice u.oA u.old.length u.oc, Value.slice u.nA u.new.length u.nc] 29)).drew).drewN kk).heap.size) := by
          show wr.heap.size < (wr.heap.push _).size; simp
        generalize (((wr.alloc (Obj.cells #[Value.int IntKind.i64 z, Value.slice u.oA u.old.length u.oc, Value.slice u.nA u.new.length u.nc] 29)).drew).drewN kk) = w2 at *
        clear hown hbE hb
        generalize hg0 : wr.heap.size = g0 at *
        clear hg0
        go_wp2
        refine wp_region_q (fun w' => Below w.heap.size w w' ∧ w'.heap[g0]? = some (.cells #[.int .i64 z, .slice u.oA u.old.length u.oc, .slice u.nA u.new.length u.nc] 29 (0, 0))) [(true, 0), (true, 1), (true, 2), (true, 3), (true, 4), (true, 5), (true, 7), (true, 8), (false, 6), (false, 9), (true, 10)] mixed (by kernel_rfl) ⟨hbF.drew, hbox⟩ ?_
        intro T M Q hT hT' hM hQ
        have m0 : M ⟨g0, 0, none⟩ = some (.int .i64 z) := hM _ _ fun w' hw => by rw [cell_of_row w' _ _ _ _ _ hw.2]; rfl
        have m1 : M ⟨g0, 2, none⟩ = some (.slice u.nA u.new.length u.nc) := hM _ _ fun w' hw => by rw [cell_of_row w' _ _ _ _ _ hw.2]; rfl
        clear hM
        simp only [qcmp]
        simp (maxSteps := 5000000) only [↓qpre, qpost, qfacts, qnorm, m0, m1, sliced]
        have hst : (sts a (hs.take k)).2 ≤ z := by have := HL.out; have e := HZ.out; omega
        have hlen : (sts a (hs.take k)).1.length ≤ 1099512676352 := by
          have g1 := sts_len (a := a) (hs.take k) ([], 0)
          have g2 := newLen_take hs k
          have g3 : (hs.take k).length * a.length ≤ 1048576 * 1048576 := Nat.mul_le_mul (by rw [List.length_take, h.len]; omega) (by rw [HA.out]; omega)
          simp only [sts] at *
          simp only [List.length_nil] at g1
          omega
        have hnu := le_newLen hu
        have hr1 := (ha.below hbF.drew).cut1 hst (show z ≤ n by omega)
        rw [← List.map_take, ← List.map_drop] at hr1
        refine ⟨⟨by omega, by omega, by omega⟩, ?_⟩
        refine eff_append (v := u6) E22 rfl rfl hown2.drew hr1 (oneCell_str _) (by simp only [maxLen]; omega) (by omega) (by show _ ≤ w2.heap.size; omega) ?_
        intro v1 w3 hown3 hgrow3 hat3
        have hb3 : Below w.heap.size w w3 := hbF.drew.grown hgrow3 (by show _ ≤ w2.heap.size; omega) (fun g hg => (hown2.lt g hg).1)
        have hbox3 : w3.heap[g0]? = some (.cells #[.int .i64 z, .slice u.oA u.old.length u.oc, .slice u.nA u.new.length u.nc] 29 (0, 0)) :=
          (hgrow3.block g0 hsz (fun e => absurd (hneq _ e.symm) (Nat.lt_irrefl _))).trans hbox
        refine ⟨hT _ ⟨hb3, hbox3⟩, ?_⟩
        simp (maxSteps := 5000000) only [qpost, qnorm]
        have hsz3 : w.heap.size ≤ w3.heap.size := hb3.size
        refine eff_append (v := v1) E22 rfl rfl hown3 (hrn.below hb3) (oneCell_str _) (by simp only [maxLen]; omega) (by omega) hsz3 ?_
        intro v2 w4 hown4 hgrow4 hat4
        have hb4 : Below w.heap.size w w4 := hb3.grown hgrow4 hsz3 (fun g hg => (hown3.lt g hg).1)
        have hsz4 : g0 < w3.heap.size := Nat.lt_of_lt_of_le hsz hgrow3.size
        have hbox4 : w4.heap[g0]? = some (.cells #[.int .i64 z, .slice u.oA u.old.length u.oc, .slice u.nA u.new.length u.nc] 29 (0, 0)) := by
          refine (hgrow4.block g0 hsz4 (fun e => ?_)).trans hbox3
          rcases hat3 with e3 | e3
          · rw [e3] at e; exact absurd (hneq _ e.symm) (Nat.lt_irrefl _)
          · rw [e3] at e; injection e with e; exact absurd hsz (by show ¬ g0 < w2.heap.size; rw [e]; exact Nat.lt_irrefl _)
        refine ⟨hT _ ⟨hb4, hbox4⟩, ?_⟩
        simp (maxSteps := 5000000) only [↓qpre, qpost, qnorm]
        refine hQ _ _ ?_
        clear hQ hT hT' m0 m1 hown2 hown3 hgrow3 hgrow4 hat3 hat4 hbox hbox3 hb3 hbF
        have c0 : w4.cell? ⟨g0, 0, none⟩ = some (.int .i64 z) := by rw [cell_of_row w4 _ _ _ _ _ hbox4]; rfl
        have c1 : w4.cell? ⟨g0, 1, none⟩ = some (.slice u.oA u.old.length u.oc) := by rw [cell_of_row w4 _ _ _ _ _ hbox4]; rfl
        have HB4 := Lib.hid hbox4; clear hbox4
        generalize hs56 : Value.slice (if ca = (sts a (List.take k hs)).snd then A else Option.map (fun x => x.add (sts a (List.take k hs)).snd) A) (z - (sts a (List.take k hs)).snd) (ca - (sts a (List.take k hs)).snd) = s56
        clear hs56 hr1
        go_wp2
        go_roundw
        case rel =>
          have e : sts a (hs.take (k + 1)) = ((sts a (hs.take k)).1 ++ (a.take z).drop (sts a (hs.take k)).2 ++ u.new, z + u.old.length) := by
            rw [sts_succ HX.out, stp, HZ.out]; rfl
          have hal := HA.out
          refine ⟨k + 1, by omega, by go_num, by rw [e]; go_num, hb4, ?_, upto_succ hj.out (by simp only [matchAt, HX.out]; exact HD.out), ?_⟩
          · have e2 : (sts a (hs.take (k + 1))).1.length = (sts a (hs.take k)).1.length + (z - (sts a (hs.take k)).2) + u.new.length := by
              rw [e]
              simp only [List.length_append, List.length_drop, List.length_take, HA.out]
              omega
            rw [e2, e]
            simp only [List.map_append]
            exact hown4
          · rw [e]; show z + u.old.length ≤ a.length; omega
        case measure => simp [intOf]; omega
      · have hkn : k = nl := by omega
        subst hkn
        have hall := Lib.hid (matches_true (a := a) (l := hs) (fun j hj' => hj.out j (by rw [h.len] at hj'; exact hj')))
        have HM := Lib.hid (err0 HR.out hall.out)
        have htk : hs.take k = hs := List.take_of_length_le (by rw [h.len]; omega)
        rw [htk] at hown hat
        rw [htk]
        have hlen : (sts a hs).1.length ≤ 1099512676352 := by
          have g1 := sts_len (a := a) hs ([], 0)
          have g3 : hs.length * a.length ≤ 1048576 * 1048576 := Nat.mul_le_mul (by rw [h.len]; omega) (by rw [HA.out]; omega)
          simp only [sts] at *
          simp only [List.length_nil] at g1
          omega
        have hat' := hat.out
        have hal := HA.out
        have hr1 := (ha.below hb).cut1 (l := (sts a hs).2) (k := n) (by omega) (Nat.le_refl _)
        rw [← List.map_take, ← List.map_drop] at hr1
        have HO := Lib.hid hown; clear hown hat' hal
        have hcap := ha.cap
        have hb0 := hb.size
        have hatn : (sts a hs).2 ≤ n := by have := hat.out; rw [HA.out] at this; exact this
        clear HC hall
        go_wp2_with (at_builtin; refine wpl_append rfl (.tmp 68) (.tmp 71) 22 rfl E22 (v := u6) rfl rfl HO.out hr1 (oneCell_str _) (by simp only [maxLen]; omega) (by omega) hb0 ?_; intro v2 w4 hown4 hgrow4 hat4)
        all_goals
          obtain ⟨A', c', rfl, hc'⟩ := ownsRow_cap hown4
          have hb4 : Below w.heap.size w w4 := hb.grown hgrow4 hb0 (fun g hg => (HO.out.lt g hg).1)
          go_ret2
          refine ⟨A', _, c', by rw [HM.out.1]; rfl, ?_, hb4⟩
          rw [HM.out.2, List.map_append]
          have hdr : a.drop (sts a hs).2 = (a.take n).drop (sts a hs).2 := by rw [List.take_of_length_le (by rw [HA.out]; omega)]
          rw [hdr]
          exact Rd.of_own hown4 hc'
theorem apply_any {A L : Option Addr} {n ca nl cl : Nat} {a : List ByteArray} {hs : List HV} {w : World} (hn : n ≤ 1048576)
    (ha : Rd w w.heap.size 1 A n ca (a.map .string)) (_ : ca ≤ 70368744177664) (h : RdH w w.heap.size L nl cl hs) (hnl : nl ≤ 1048576) (hnew : newLen hs ≤ 1048576) :
    Calls Try.prog 15 #[.slice A n ca, .slice L nl cl] w (LinesErr (resOf a hs) (errOf a hs) w) := apply_wide hn ha h hnl hnew
end Go.Proofs.Ytabiegbbbljhlaa
