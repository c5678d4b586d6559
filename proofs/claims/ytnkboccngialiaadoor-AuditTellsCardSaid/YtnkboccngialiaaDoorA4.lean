/- Walks: the document's Sound. -/
import Derived.Test.YtnkboccngialiaaDoorA3
namespace Go.Proofs.YtnkboccngialiaaDoor
open Go.RowKit

theorem flat_take {α : Type} {f : α → List Value} {sz : Nat} (hf : ∀ a, (f a).length = sz) : ∀ (l : List α) (k : Nat), (l.flatMap f).take (k * sz) = (l.take k).flatMap f
  | [], k => by simp
  | x :: l, 0 => by simp
  | x :: l, k + 1 => by
    rw [List.flatMap_cons, List.take_succ_cons, List.flatMap_cons, Nat.succ_mul, Nat.add_comm, List.take_append, hf, List.take_of_length_le (by rw [hf]; omega), show sz + k * sz - sz = k * sz by omega, flat_take hf l k]
theorem rdE_cut {w : World} {B n c k : Nat} {A : Option Addr} {l : List EV} (h : Rd w B 5 A n c (l.flatMap EV.cells)) (hl : l.length = n) (hk : k ≤ n) :
    ∃ A' c', sliced A 0 k c 5 = .slice A' k c' ∧ Rd w B 5 A' k c' ((l.take k).flatMap EV.cells) := by
  have h1 := h.cut (l := 0) (k := k) (Nat.zero_le _) hk
  rw [Nat.zero_mul, List.drop_zero, flat_take EV.cells_len] at h1
  exact ⟨_, _, rfl, h1⟩

set_option maxRecDepth 100000 in
theorem run_pend0 (w : World) : (Instr.build 50 #[]).run Tryd.prog w = .ok (.agg #[.bool false, .bool false, .int .i64 0, .int .i64 0, .slice none 0 0, .int .i64 0, .slice none 0 0]) w := by
  go_simp
set_option maxRecDepth 100000 in
set_option maxHeartbeats 16000000 in
theorem rsound_any {v : VV} {w : World} (hI : v.In w w.heap.size) :
    Calls Tryd.prog 19 #[.agg #[.slice v.A v.commits.length v.c, .slice v.mA v.marks.length v.mc, .int .i64 v.working, .bool v.pend.on, .bool v.pend.restack, .int .i64 v.pend.source, .int .i64 v.pend.dest, .slice v.pend.sA v.pend.settled.length v.pend.sc, .int .i64 v.pend.commit, .slice v.pend.kA v.pend.clashes.length v.pend.kc, .int .i64 v.undos, .int .i64 v.redos]] w (BoolBelow (soundB v) w) := by
  have hlc := hI.lc
  have hlm := hI.lm
  have hcap := hI.row.cap
  obtain ⟨W, hW⟩ : ∃ u, u = w.alloc (.cells #[.slice v.A v.commits.length v.c, .slice v.mA v.marks.length v.mc, .int .i64 v.working, .bool v.pend.on, .bool v.pend.restack, .int .i64 v.pend.source, .int .i64 v.pend.dest, .slice v.pend.sA v.pend.settled.length v.pend.sc, .int .i64 v.pend.commit, .slice v.pend.kA v.pend.clashes.length v.pend.kc, .int .i64 v.undos, .int .i64 v.redos] 52) := ⟨_, rfl⟩
  have hbx : Below w.heap.size w W := by rw [hW]; exact (Below.refl _ _).alloc (Nat.le_refl _) _
  have hzW : W.heap.size = w.heap.size + 1 := by rw [hW]; simp
  have hx1 : ∀ i u, [Value.slice v.A v.commits.length v.c, .slice v.mA v.marks.length v.mc, .int .i64 v.working, .bool v.pend.on, .bool v.pend.restack, .int .i64 v.pend.source, .int .i64 v.pend.dest, .slice v.pend.sA v.pend.settled.length v.pend.sc, .int .i64 v.pend.commit, .slice v.pend.kA v.pend.clashes.length v.pend.kc, .int .i64 v.undos, .int .i64 v.redos][i]? = some u → W.cell? ⟨w.heap.size, i, none⟩ = some u := fun i u hu => by
    rw [hW, World.cell?, heap_alloc_new]; simpa using hu
  have hx : ∀ i u, [Value.slice v.A v.commits.length v.c, .slice v.mA v.marks.length v.mc, .int .i64 v.working, .bool v.pend.on, .bool v.pend.restack, .int .i64 v.pend.source, .int .i64 v.pend.dest, .slice v.pend.sA v.pend.settled.length v.pend.sc, .int .i64 v.pend.commit, .slice v.pend.kA v.pend.clashes.length v.pend.kc, .int .i64 v.undos, .int .i64 v.redos][i]? = some u → ∀ u', Below (w.heap.size + 1) W u' → u'.cell? ⟨w.heap.size, i, none⟩ = some u := fun i u hu u' hu' =>
    (hu'.cell (p := ⟨w.heap.size, i, none⟩) (Nat.lt_succ_self _)).trans (hx1 i u hu)
  clear hx1
  have HB := Lib.hid hx
  clear hx
  go_enter Tryd.func19, Tryd.ntmps19
  go_wp2
  rw [← hW]
  clear hW
  go_loopw [3] (fun i wr => ∃ k : Nat, k ≤ v.commits.length ∧ i = .int .i64 k ∧ Below (w.heap.size + 1) W wr ∧ Hid (ComsTo v.commits k)) (fun i _ => v.commits.length - (intOf i).toNat)
  case atStart => exact ⟨0, Nat.zero_le _, rfl, Below.refl _ _, ComsTo.zero _⟩
  case round =>
    obtain ⟨k, hk, rfl, hb, hj⟩ := hrel
    have hbr : Below w.heap.size w wr := hbx.trans (hb.mono (by omega))
    have hzr : w.heap.size + 1 ≤ wr.heap.size := by have := hb.size; omega
    have y0 := HB.out 0 _ rfl wr hb
    by_cases hlt : k < v.commits.length
    · obtain ⟨b0, o0, c, eA, hbb, hcx, hcm, hcc⟩ := T.rd_flat EV.cells_len (by omega) hI.row rfl hlt
      rw [eA] at y0
      have h0 := (hbr.cell (p := ⟨b0, o0 + k * 5, none⟩) (by show b0 < _; omega)).trans (hcc 0 _ rfl)
      have h1 := (hbr.cell (p := ⟨b0, o0 + k * 5 + 1, none⟩) (by show b0 < _; omega)).trans (hcc 1 _ rfl)
      have h2 := (hbr.cell (p := ⟨b0, o0 + k * 5 + 2, none⟩) (by show b0 < _; omega)).trans (hcc 2 _ rfl)
      have h3 := (hbr.cell (p := ⟨b0, o0 + k * 5 + 3, none⟩) (by show b0 < _; omega)).trans (hcc 3 _ rfl)
      have h4 := (hbr.cell (p := ⟨b0, o0 + k * 5 + 4, none⟩) (by show b0 < _; omega)).trans (hcc 4 _ rfl)
      have HX := Lib.hid hcx
      have HE := hI.each c hcm
      clear hcx hcc
      obtain ⟨wN, hwN⟩ : ∃ x, x = wr.alloc (.cells #[.int .i64 c.num, .int .i64 c.parent, .string c.msg, .slice c.A c.files.length c.c, .bool c.obs] 74) := ⟨_, rfl⟩
      have hbN : Below wr.heap.size wr wN := by rw [hwN]; exact (Below.refl _ _).alloc (Nat.le_refl _) _
      have hzN : wN.heap.size = wr.heap.size + 1 := by rw [hwN]; simp
      have hcN : ∀ t u, c.cells[t]? = some u → wN.cell? ⟨wr.heap.size, t, none⟩ = some u := by
        intro t u hu; rw [hwN, World.cell?, heap_alloc_new]; simpa [EV.cells] using hu
      have c0 := hcN 0 _ rfl
      have c1 := hcN 1 _ rfl
      have c3 := hcN 3 _ rfl
      clear hcN
      have hbWN : Below (w.heap.size + 1) W wN := hb.trans (hbN.mono (by omega))
      have hbwN : Below w.heap.size w wN := hbr.trans (hbN.mono (by omega))
      have HR : ∀ u, Below wN.heap.size wN u → Calls Tryd.prog 38 #[.slice c.A c.files.length c.c] u (BoolBelow (treeOk c.files) u) := fun u hu =>
        rright_any HE.2 (HE.1.to (hbwN.trans (hu.mono hbwN.size)) (hbwN.trans (hu.mono hbwN.size)).size)
      have BAD : ∀ u, Below wN.heap.size wN u → ¬ ComOk v.commits k c → BoolBelow (soundB v) w (.returned (.bool false)) u := fun u hu hc => ⟨ret_bool (com_bad HX.out hc).symm, hbwN.trans (hu.mono hbwN.size)⟩
      go_wp2
      rw [← hwN]
      clear hwN h0 h1 h2 h3 h4 y0
      refine wp_region_q (fun w' => Below wN.heap.size wN w') (qe [17] 20) mixed (by kernel_rfl) (Below.refl _ _).drew ?_
      have hd0 : Below wN.heap.size wN wN.drew := (Below.refl _ _).drew
      intro Tp M Q hT hT' hM hQ
      have m0 : M ⟨wr.heap.size, 0, none⟩ = some (.int .i64 c.num) := hM _ _ fun w' hw => (hw.cell (p := ⟨wr.heap.size, 0, none⟩) (by show wr.heap.size < _; omega)).trans c0
      have m1 : M ⟨wr.heap.size, 1, none⟩ = some (.int .i64 c.parent) := hM _ _ fun w' hw => (hw.cell (p := ⟨wr.heap.size, 1, none⟩) (by show wr.heap.size < _; omega)).trans c1
      have m3 : M ⟨wr.heap.size, 3, none⟩ = some (.slice c.A c.files.length c.c) := hM _ _ fun w' hw => (hw.cell (p := ⟨wr.heap.size, 3, none⟩) (by show wr.heap.size < _; omega)).trans c3
      have mb : M ⟨w.heap.size, 0, none⟩ = some (.slice (some ⟨b0, o0, none⟩) v.commits.length v.c) := hM _ _ fun w' hw => by rw [← eA]; exact HB.out 0 _ rfl w' (hbWN.trans (hw.mono (by omega)))
      simp only [qcmp, Nat.reduceBEq, Bool.or_self]
      by_cases hn : ∀ d, 1 ≤ k → v.commits[k - 1]? = some d → d.num < c.num
      case neg =>
        have hk1' : 1 ≤ k := Nat.one_le_iff_ne_zero.2 fun e => hn fun d hd => by omega
        obtain ⟨b1, o1, g1, eA1, hbb1, hx1, _, p⟩ := T.rd_flat EV.cells_len (by omega) hI.row rfl (k := k - 1) (by omega)
        rw [eA] at eA1
        cases eA1
        have hk1 : decide ((0 : Int) < k) = true := decide_eq_true (by omega)
        have e1 : ((k : Int) - 1).toNat = k - 1 := by omega
        have m5 : M ⟨b0, o0 + (k - 1) * 5, none⟩ = some (.int .i64 g1.num) := hM _ _ fun w' hw => (hw.cell (p := ⟨b0, o0 + (k - 1) * 5, none⟩) (by show b0 < _; omega)).trans ((hbwN.cell (p := ⟨b0, o0 + (k - 1) * 5, none⟩) (by show b0 < _; omega)).trans (p 0 _ rfl))
        have hle : decide (c.num ≤ g1.num) = true := decide_eq_true (Int.not_lt.1 fun h => hn fun d _ hd => by rw [hx1] at hd; injection hd with hd; subst hd; exact h)
        have HO := BAD wN.drew (Below.refl _ _).drew (fun hf => hn hf.1)
        clear HR BAD hn
        simp (maxSteps := 5000000) only [↓qpre, qpost, qfacts, qnorm, m0, mb, hk1, e1, m5, hle]
        refine ⟨by unfold inI64; omega, ⟨by omega, by omega⟩, hQ _ _ ?_⟩
        clear hQ hT hT' hM m0 m1 m3 mb m5 p
        go_wp2
        go_ret
        exact HO
      case pos =>
        have HP := Lib.hid hn
        by_cases hk0 : k = 0
        · have hk1 : decide ((0 : Int) < k) = false := decide_eq_false (by omega)
          clear hn
          simp (maxSteps := 5000000) only [↓qpre, qpost, qfacts, qnorm, m3, hk1]
          refine eff_call (by kernel_rfl) (HR _ hd0) rfl rfl ?_
          rintro e v1 ⟨rfl, hv1⟩
          have hb3 : Below wN.heap.size wN v1 := hd0.trans (hv1.mono hd0.size)
          refine ⟨_, rfl, hT _ hb3, ?_⟩
          cases ht : treeOk c.files with
          | false =>
            have HO := BAD v1 hb3 (fun hf => by rw [treeOk_iff.2 hf.2.2] at ht; cases ht)
            clear HR BAD
            simp (maxSteps := 5000000) only [↓qpre, qpost, qnorm]
            refine hQ _ _ ?_
            clear hQ hT hT' hM m0 m1 m3 mb
            go_wp2
            go_ret
            exact HO
          | true =>
            clear HR
            simp (maxSteps := 5000000) only [↓qpre, qpost, qnorm]
            refine hQ _ _ ?_
            clear hQ hT hT' hM m0 m1 m3 mb hv1 Tp M Q
            go_wp2
            have hbv : Below w.heap.size w v1 := hbwN.trans (hb3.mono hbwN.size)
            have hbV : Below (w.heap.size + 1) W v1 := hbWN.trans (hb3.mono (by omega))
            obtain ⟨A2, c2, es, hr2⟩ := rdE_cut (hI.row.to hbv hbv.size) rfl (Nat.le_of_lt hlt)
            have HP2 : ∀ u, Below v1.heap.size v1 u → Calls Tryd.prog 39 #[.slice A2 k c2, .int .i64 c.parent] u (PlaceB (decide (c.parent ∈ (v.commits.take k).map EV.num)) u) := fun u hu =>
              place_any (by omega) (hr2.to hu hu.size) (by rw [List.length_take]; omega)
            rw [eA] at es
            refine wp_region_q (fun w' => Below v1.heap.size v1 w') (qe [10] 13) mixed (by kernel_rfl) (Below.refl _ _).drew ?_
            have hd1 : Below v1.heap.size v1 v1.drew := (Below.refl _ _).drew
            intro Tp M Q hT hT' hM hQ
            have m1 : M ⟨wr.heap.size, 1, none⟩ = some (.int .i64 c.parent) := hM _ _ fun w' hw => (hw.cell (p := ⟨wr.heap.size, 1, none⟩) (by show wr.heap.size < _; have := hb3.size; omega)).trans ((hb3.cell (p := ⟨wr.heap.size, 1, none⟩) (by show wr.heap.size < _; omega)).trans c1)
            have mb : M ⟨w.heap.size, 0, none⟩ = some (.slice (some ⟨b0, o0, none⟩) v.commits.length v.c) := hM _ _ fun w' hw => by rw [← eA]; exact HB.out 0 _ rfl w' (hbV.trans (hw.mono (by have := hb3.size; omega)))
            simp only [qcmp, Nat.reduceBEq, Bool.or_self]
            by_cases hp : c.parent = -1
            · have hpd : decide (c.parent = -1) = true := decide_eq_true hp
              have HO := Lib.hid (ComsTo.next hj.out HX.out ⟨HP.out, .inl hp, treeOk_iff.1 ht⟩)
              clear hp HP2 BAD
              simp (maxSteps := 5000000) only [↓qpre, qpost, qfacts, qnorm, m1, hpd]
              have hbe := hbV.trans (hd1.mono (by have := hb3.size; omega))
              refine hQ _ _ ?_
              clear hQ hT hT' hM m1 mb
              go_wp2
              go_roundw
              case rel => exact ⟨k + 1, by omega, by go_num, hbe, HO.out⟩
              case measure => simp [intOf]; omega
            · have hpd : decide (c.parent = -1) = false := decide_eq_false hp
              simp (maxSteps := 5000000) only [↓qpre, qpost, qfacts, qnorm, m1, mb, hpd, es]
              refine ⟨⟨by omega, by omega⟩, eff_call (by kernel_rfl) (HP2 _ hd1) rfl rfl ?_⟩
              rintro e v2 ⟨r, rfl, hr, hv2⟩
              have hb4 : Below v1.heap.size v1 v2 := hd1.trans (hv2.mono hd1.size)
              refine ⟨_, rfl, hT _ hb4, ?_⟩
              cases hin : decide (c.parent ∈ (v.commits.take k).map EV.num) with
              | false =>
                rw [hin] at hr
                have hr' : decide (r < 0) = true := hr
                have HO := BAD v2 (hb3.trans (hb4.mono hb3.size)) (fun hf => by rcases hf.2.1 with h | h; exact hp h; exact of_decide_eq_false hin h)
                clear HP2 BAD
                simp (maxSteps := 5000000) only [↓qpre, qpost, qnorm, hr']
                refine hQ _ _ ?_
                clear hQ hT hT' hM m1 mb
                go_wp2
                go_ret
                exact HO
              | true =>
                rw [hin] at hr
                have hr' : decide (r < 0) = false := hr
                have HO := Lib.hid (ComsTo.next hj.out HX.out ⟨HP.out, .inr (of_decide_eq_true hin), treeOk_iff.1 ht⟩)
                have hbe := hbV.trans (hb4.mono (by have := hb3.size; omega))
                clear HP2 BAD hp
                simp (maxSteps := 5000000) only [↓qpre, qpost, qnorm, hr']
                refine hQ _ _ ?_
                clear hQ hT hT' hM m1 mb
                go_wp2
                go_roundw
                case rel => exact ⟨k + 1, by omega, by go_num, hbe, HO.out⟩
                case measure => simp [intOf]; omega

        · have hk1 : decide ((0 : Int) < k) = true := decide_eq_true (by omega)
          obtain ⟨b1, o1, g1, eA1, hbb1, hx1, _, p⟩ := T.rd_flat EV.cells_len (by omega) hI.row rfl (k := k - 1) (by omega)
          rw [eA] at eA1
          cases eA1
          have e1 : ((k : Int) - 1).toNat = k - 1 := by omega
          have m5 : M ⟨b0, o0 + (k - 1) * 5, none⟩ = some (.int .i64 g1.num) := hM _ _ fun w' hw => (hw.cell (p := ⟨b0, o0 + (k - 1) * 5, none⟩) (by show b0 < _; omega)).trans ((hbwN.cell (p := ⟨b0, o0 + (k - 1) * 5, none⟩) (by show b0 < _; omega)).trans (p 0 _ rfl))
          have hlt5 := hn g1 (by omega) hx1
          have hle : decide (c.num ≤ g1.num) = false := decide_eq_false (Int.not_le.2 hlt5)
          clear hn hlt5
          simp (maxSteps := 5000000) only [↓qpre, qpost, qfacts, qnorm, m0, m3, mb, hk1, e1, m5, hle]
          refine ⟨by unfold inI64; omega, ⟨by omega, by omega⟩, ?_⟩
          clear hx1 p
          refine eff_call (by kernel_rfl) (HR _ hd0) rfl rfl ?_
          rintro e v1 ⟨rfl, hv1⟩
          have hb3 : Below wN.heap.size wN v1 := hd0.trans (hv1.mono hd0.size)
          refine ⟨_, rfl, hT _ hb3, ?_⟩
          cases ht : treeOk c.files with
          | false =>
            have HO := BAD v1 hb3 (fun hf => by rw [treeOk_iff.2 hf.2.2] at ht; cases ht)
            clear HR BAD
            simp (maxSteps := 5000000) only [↓qpre, qpost, qnorm]
            refine hQ _ _ ?_
            clear hQ hT hT' hM m0 m1 m3 mb
            go_wp2
            go_ret
            exact HO
          | true =>
            clear HR
            simp (maxSteps := 5000000) only [↓qpre, qpost, qnorm]
            refine hQ _ _ ?_
            clear hQ hT hT' hM m0 m1 m3 mb m5 hle hv1 Tp M Q
            go_wp2
            have hbv : Below w.heap.size w v1 := hbwN.trans (hb3.mono hbwN.size)
            have hbV : Below (w.heap.size + 1) W v1 := hbWN.trans (hb3.mono (by omega))
            obtain ⟨A2, c2, es, hr2⟩ := rdE_cut (hI.row.to hbv hbv.size) rfl (Nat.le_of_lt hlt)
            have HP2 : ∀ u, Below v1.heap.size v1 u → Calls Tryd.prog 39 #[.slice A2 k c2, .int .i64 c.parent] u (PlaceB (decide (c.parent ∈ (v.commits.take k).map EV.num)) u) := fun u hu =>
              place_any (by omega) (hr2.to hu hu.size) (by rw [List.length_take]; omega)
            rw [eA] at es
            refine wp_region_q (fun w' => Below v1.heap.size v1 w') (qe [10] 13) mixed (by kernel_rfl) (Below.refl _ _).drew ?_
            have hd1 : Below v1.heap.size v1 v1.drew := (Below.refl _ _).drew
            intro Tp M Q hT hT' hM hQ
            have m1 : M ⟨wr.heap.size, 1, none⟩ = some (.int .i64 c.parent) := hM _ _ fun w' hw => (hw.cell (p := ⟨wr.heap.size, 1, none⟩) (by show wr.heap.size < _; have := hb3.size; omega)).trans ((hb3.cell (p := ⟨wr.heap.size, 1, none⟩) (by show wr.heap.size < _; omega)).trans c1)
            have mb : M ⟨w.heap.size, 0, none⟩ = some (.slice (some ⟨b0, o0, none⟩) v.commits.length v.c) := hM _ _ fun w' hw => by rw [← eA]; exact HB.out 0 _ rfl w' (hbV.trans (hw.mono (by have := hb3.size; omega)))
            simp only [qcmp, Nat.reduceBEq, Bool.or_self]
            by_cases hp : c.parent = -1
            · have hpd : decide (c.parent = -1) = true := decide_eq_true hp
              have HO := Lib.hid (ComsTo.next hj.out HX.out ⟨HP.out, .inl hp, treeOk_iff.1 ht⟩)
              clear hp HP2 BAD
              simp (maxSteps := 5000000) only [↓qpre, qpost, qfacts, qnorm, m1, hpd]
              have hbe := hbV.trans (hd1.mono (by have := hb3.size; omega))
              refine hQ _ _ ?_
              clear hQ hT hT' hM m1 mb
              go_wp2
              go_roundw
              case rel => exact ⟨k + 1, by omega, by go_num, hbe, HO.out⟩
              case measure => simp [intOf]; omega
            · have hpd : decide (c.parent = -1) = false := decide_eq_false hp
              simp (maxSteps := 5000000) only [↓qpre, qpost, qfacts, qnorm, m1, mb, hpd, es]
              refine ⟨⟨by omega, by omega⟩, eff_call (by kernel_rfl) (HP2 _ hd1) rfl rfl ?_⟩
              rintro e v2 ⟨r, rfl, hr, hv2⟩
              have hb4 : Below v1.heap.size v1 v2 := hd1.trans (hv2.mono hd1.size)
              refine ⟨_, rfl, hT _ hb4, ?_⟩
              cases hin : decide (c.parent ∈ (v.commits.take k).map EV.num) with
              | false =>
                rw [hin] at hr
                have hr' : decide (r < 0) = true := hr
                have HO := BAD v2 (hb3.trans (hb4.mono hb3.size)) (fun hf => by rcases hf.2.1 with h | h; exact hp h; exact of_decide_eq_false hin h)
                clear HP2 BAD
                simp (maxSteps := 5000000) only [↓qpre, qpost, qnorm, hr']
                refine hQ _ _ ?_
                clear hQ hT hT' hM m1 mb
                go_wp2
                go_ret
                exact HO
              | true =>
                rw [hin] at hr
                have hr' : decide (r < 0) = false := hr
                have HO := Lib.hid (ComsTo.next hj.out HX.out ⟨HP.out, .inr (of_decide_eq_true hin), treeOk_iff.1 ht⟩)
                have hbe := hbV.trans (hb4.mono (by have := hb3.size; omega))
                clear HP2 BAD hp
                simp (maxSteps := 5000000) only [↓qpre, qpost, qnorm, hr']
                refine hQ _ _ ?_
                clear hQ hT hT' hM m1 mb
                go_wp2
                go_roundw
                case rel => exact ⟨k + 1, by omega, by go_num, hbe, HO.out⟩
                case measure => simp [intOf]; omega

    · obtain rfl : k = v.commits.length := by omega
      have HC := Lib.hid hj.out
      clear hj hzr
      go_wp2
      clear y0 hbr hk hlt
      go_loopw [5] (fun i wr => ∃ k : Nat, k ≤ v.marks.length ∧ i = .int .i64 k ∧ Below (w.heap.size + 1) W wr ∧ Hid (MarksRise v.marks k) ∧ Hid (MarksIn v.marks (v.commits.map EV.num) k)) (fun i _ => v.marks.length - (intOf i).toNat)
      case atStart => exact ⟨0, Nat.zero_le _, rfl, hb, MarksRise.zero _, MarksIn.zero _ _⟩
      case round =>
        obtain ⟨k, hk, rfl, hb, hj, hj2⟩ := hrel
        have hbr : Below w.heap.size w wr := hbx.trans (hb.mono (by omega))
        have hzr : w.heap.size + 1 ≤ wr.heap.size := by have := hb.size; omega
        have y1 := HB.out 1 _ rfl wr hb
        by_cases hlt : k < v.marks.length
        · obtain ⟨b0, o0, c, eA, hbb, hcx, hcm, hcc⟩ := T.rd_flat NV.cells_len (by omega) hI.marks rfl hlt
          rw [eA] at y1
          have h0 := (hbr.cell (p := ⟨b0, o0 + k * 2, none⟩) (by show b0 < _; omega)).trans (hcc 0 _ rfl)
          have h1 := (hbr.cell (p := ⟨b0, o0 + k * 2 + 1, none⟩) (by show b0 < _; omega)).trans (hcc 1 _ rfl)
          have HX := Lib.hid hcx
          clear hcx hcc
          have HPl : ∀ u, Below wr.heap.size wr u → Calls Tryd.prog 39 #[.slice v.A v.commits.length v.c, .int .i64 c.commit] u (PlaceB (decide (c.commit ∈ v.commits.map EV.num)) u) := fun u hu =>
            place_any hlc (hI.row.to (hbr.trans (hu.mono hbr.size)) (hbr.trans (hu.mono hbr.size)).size) rfl
          have hd0 : Below wr.heap.size wr wr.drew := (Below.refl _ _).drew
          by_cases hk0 : k = 0
          · go_wp2
            clear y1
            refine wp_region_q (fun w' => Below wr.heap.size wr w') (qe [27] 30) mixed (by kernel_rfl) (Below.refl _ _).drew ?_
            intro Tp M Q hT hT' hM hQ
            have mn : M ⟨b0, o0 + k * 2, none⟩ = some (.string c.name) := hM _ _ fun w' hw => (hw.cell (p := ⟨b0, o0 + k * 2, none⟩) (by show b0 < _; have := hbr.size; omega)).trans h0
            have mc : M ⟨b0, o0 + k * 2 + 1, none⟩ = some (.int .i64 c.commit) := hM _ _ fun w' hw => (hw.cell (p := ⟨b0, o0 + k * 2 + 1, none⟩) (by show b0 < _; have := hbr.size; omega)).trans h1
            have mb0 : M ⟨w.heap.size, 0, none⟩ = some (.slice v.A v.commits.length v.c) := hM _ _ fun w' hw => HB.out 0 _ rfl w' (hb.trans (hw.mono hzr))
            have mb1 : M ⟨w.heap.size, 1, none⟩ = some (.slice (some ⟨b0, o0, none⟩) v.marks.length v.mc) := hM _ _ fun w' hw => by rw [← eA]; exact HB.out 1 _ rfl w' (hb.trans (hw.mono hzr))
            simp only [qcmp, Nat.reduceBEq, Bool.or_self]
            have hk1 : decide ((0 : Int) < k) = false := decide_eq_false (by omega)
            have HP : Hid (MarkRise v.marks k c) := fun d h1 _ => absurd h1 (by omega)
            simp (maxSteps := 5000000) only [↓qpre, qpost, qfacts, qnorm, mc, mb0, mb1, hk1]
            refine ⟨⟨by omega, by omega⟩, ?_⟩
            refine eff_call (by kernel_rfl) (HPl _ hd0) rfl rfl ?_
            rintro e v1 ⟨r, rfl, hr, hv1⟩
            have hb3 : Below wr.heap.size wr v1 := hd0.trans (hv1.mono hd0.size)
            refine ⟨_, rfl, hT _ hb3, ?_⟩
            cases hin : decide (c.commit ∈ v.commits.map EV.num) with
            | false =>
              rw [hin] at hr
              have hr' : decide (r < 0) = true := hr
              have HO := Lib.hid (markIn_bad HX.out (of_decide_eq_false hin))
              have hbe := hbr.trans (hb3.mono hbr.size)
              clear HPl
              simp (maxSteps := 5000000) only [↓qpre, qpost, qnorm, hr']
              refine hQ _ _ ?_
              clear hQ hT hT' hM mn mc mb0 mb1
              go_wp2
              go_ret
              exact ⟨ret_bool HO.out.symm, hbe⟩
            | true =>
              rw [hin] at hr
              have hr' : decide (r < 0) = false := hr
              have HO := Lib.hid (MarksIn.next hj2.out HX.out (of_decide_eq_true hin))
              have HO2 := Lib.hid (MarksRise.next hj.out HX.out HP.out)
              have hbe := hb.trans (hb3.mono hzr)
              clear HPl hin
              simp (maxSteps := 5000000) only [↓qpre, qpost, qnorm, hr']
              refine hQ _ _ ?_
              clear hQ hT hT' hM mn mc mb0 mb1
              go_wp2
              go_roundw
              case rel => exact ⟨k + 1, by omega, by go_num, hbe, HO2.out, HO.out⟩
              case measure => simp [intOf]; omega

          · obtain ⟨b1, o1, g1, eA1, hbb1, hx1, _, p⟩ := T.rd_flat NV.cells_len (by omega) hI.marks rfl (k := k - 1) (by omega)
            rw [eA] at eA1
            cases eA1
            have p0 := (hbr.cell (p := ⟨b0, o0 + (k - 1) * 2, none⟩) (by show b0 < _; omega)).trans (p 0 _ rfl)
            clear p
            go_wp2
            clear y1
            refine wp_region_q (fun w' => Below wr.heap.size wr w') (qe [27] 30) mixed (by kernel_rfl) (Below.refl _ _).drew ?_
            intro Tp M Q hT hT' hM hQ
            have mn : M ⟨b0, o0 + k * 2, none⟩ = some (.string c.name) := hM _ _ fun w' hw => (hw.cell (p := ⟨b0, o0 + k * 2, none⟩) (by show b0 < _; have := hbr.size; omega)).trans h0
            have mc : M ⟨b0, o0 + k * 2 + 1, none⟩ = some (.int .i64 c.commit) := hM _ _ fun w' hw => (hw.cell (p := ⟨b0, o0 + k * 2 + 1, none⟩) (by show b0 < _; have := hbr.size; omega)).trans h1
            have mb0 : M ⟨w.heap.size, 0, none⟩ = some (.slice v.A v.commits.length v.c) := hM _ _ fun w' hw => HB.out 0 _ rfl w' (hb.trans (hw.mono hzr))
            have mb1 : M ⟨w.heap.size, 1, none⟩ = some (.slice (some ⟨b0, o0, none⟩) v.marks.length v.mc) := hM _ _ fun w' hw => by rw [← eA]; exact HB.out 1 _ rfl w' (hb.trans (hw.mono hzr))
            have m5 : M ⟨b0, o0 + (k - 1) * 2, none⟩ = some (.string g1.name) := hM _ _ fun w' hw => (hw.cell (p := ⟨b0, o0 + (k - 1) * 2, none⟩) (by show b0 < _; have := hbr.size; omega)).trans p0
            simp only [qcmp, Nat.reduceBEq, Bool.or_self]
            have hk1 : decide ((0 : Int) < k) = true := decide_eq_true (by omega)
            have e1 : ((k : Int) - 1).toNat = k - 1 := by omega
            have hle := leq_str c.name g1.name
            by_cases hlt2 : g1.name.data.toList < c.name.data.toList
            · have hle2 := hle.trans (by rw [decide_eq_true hlt2]; rfl : _ = false)
              have HP : Hid (MarkRise v.marks k c) := fun d _ hd => by rw [hx1] at hd; injection hd with hd; subst hd; exact hlt2
              clear hlt2 hle
              simp (maxSteps := 5000000) only [↓qpre, qpost, qfacts, qnorm, mn, mc, mb0, mb1, hk1, e1, m5, hle2]
              refine ⟨⟨by omega, by omega⟩, by unfold inI64; omega, ⟨by omega, by omega⟩, ⟨by omega, by omega⟩, ?_⟩
              refine eff_call (by kernel_rfl) (HPl _ hd0) rfl rfl ?_
              rintro e v1 ⟨r, rfl, hr, hv1⟩
              have hb3 : Below wr.heap.size wr v1 := hd0.trans (hv1.mono hd0.size)
              refine ⟨_, rfl, hT _ hb3, ?_⟩
              cases hin : decide (c.commit ∈ v.commits.map EV.num) with
              | false =>
                rw [hin] at hr
                have hr' : decide (r < 0) = true := hr
                have HO := Lib.hid (markIn_bad HX.out (of_decide_eq_false hin))
                have hbe := hbr.trans (hb3.mono hbr.size)
                clear HPl
                simp (maxSteps := 5000000) only [↓qpre, qpost, qnorm, hr']
                refine hQ _ _ ?_
                clear hQ hT hT' hM mn mc mb0 mb1 m5 hle2 p0
                go_wp2
                go_ret
                exact ⟨ret_bool HO.out.symm, hbe⟩
              | true =>
                rw [hin] at hr
                have hr' : decide (r < 0) = false := hr
                have HO := Lib.hid (MarksIn.next hj2.out HX.out (of_decide_eq_true hin))
                have HO2 := Lib.hid (MarksRise.next hj.out HX.out HP.out)
                have hbe := hb.trans (hb3.mono hzr)
                clear HPl hin
                simp (maxSteps := 5000000) only [↓qpre, qpost, qnorm, hr']
                refine hQ _ _ ?_
                clear hQ hT hT' hM mn mc mb0 mb1 m5 hle2 p0
                go_wp2
                go_roundw
                case rel => exact ⟨k + 1, by omega, by go_num, hbe, HO2.out, HO.out⟩
                case measure => simp [intOf]; omega

            · have hle2 := hle.trans (by rw [decide_eq_false hlt2]; rfl : _ = true)
              have HO := Lib.hid (markRise_bad HX.out (fun hf => hlt2 (hf g1 (by omega) hx1)))
              have hbe := hbr.trans (hd0.mono hbr.size)
              clear HPl hle hlt2
              simp (maxSteps := 5000000) only [↓qpre, qpost, qfacts, qnorm, mn, mb1, hk1, e1, m5, hle2]
              refine ⟨⟨by omega, by omega⟩, by unfold inI64; omega, ⟨by omega, by omega⟩, hQ _ _ ?_⟩
              clear hQ hT hT' hM mn mc mb0 mb1 m5 hle2 p0
              go_wp2
              go_ret
              exact ⟨ret_bool HO.out.symm, hbe⟩
        · obtain rfl : k = v.marks.length := by omega
          have HR := Lib.hid hj.out
          have HM := Lib.hid hj2.out
          have y2 := HB.out 2 _ rfl wr hb
          have y0 := HB.out 0 _ rfl wr hb
          clear hj hj2
          by_cases hwk : v.working = -1
          · have e1 := int_eq2 hwk
            have HQ : v.working = -1 ∨ v.working ∈ v.commits.map EV.num := .inl hwk
            clear hwk
            have hbW1 := hb
            have hbwr := hbr
            have y3 := HB.out 3 _ rfl wr hbW1
            have y4 := HB.out 4 _ rfl wr hbW1
            have y5 := HB.out 5 _ rfl wr hbW1
            have y6 := HB.out 6 _ rfl wr hbW1
            have y7 := HB.out 7 _ rfl wr hbW1
            have y8 := HB.out 8 _ rfl wr hbW1
            have y9 := HB.out 9 _ rfl wr hbW1
            have y10 := HB.out 10 _ rfl wr hbW1
            have y11 := HB.out 11 _ rfl wr hbW1
            by_cases hu : 0 ≤ v.undos
            case neg =>
              have HO := Lib.hid (sound_no (v := v) fun hs => hu hs.2.2.2.2.1)
              go_wp2
              go_ret
              exact ⟨ret_bool HO.out.symm, hbwr⟩

            by_cases hd : 0 ≤ v.redos
            case neg =>
              have HO := Lib.hid (sound_no (v := v) fun hs => hd hs.2.2.2.2.2.1)
              go_wp2
              go_ret
              exact ⟨ret_bool HO.out.symm, hbwr⟩

            cases hon : v.pend.on with
            | true =>
              rw [hon] at y3
              have HO := Lib.hid (sound_yes ⟨HC.out, HM.out, HQ, HR.out, hu, hd, .inl hon⟩)
              clear hon
              go_wp2
              go_ret
              exact ⟨ret_bool HO.out.symm, hbwr⟩
            | false =>
              rw [hon] at y3
              have C3 := pend1_any (x := v.pend) (y := ⟨false, false, 0, 0, none, 0, [], 0, none, 0, []⟩) (w := wr) (hI.pend.to hbwr hbwr.size) ⟨Rd.none_ _ _ _, by simp, Rd.none_ _ _ _, by simp, by simp⟩
              rw [hon, nothing_eq _ hon] at C3
              have hz0 := run_pend0 wr
              have HON := Lib.hid hon
              clear hon
              go_wp2_with fail
              refine C3.mono ?_
              rintro e w3 ⟨rfl, hv3⟩
              have hbw3 := hbwr.trans (hv3.mono hbwr.size)
              have HO : soundB v = nothingB v.pend := by
                cases hnb : nothingB v.pend with
                | true => exact sound_yes ⟨HC.out, HM.out, HQ, HR.out, hu, hd, .inr (nothingB_iff.1 hnb)⟩
                | false =>
                  refine sound_no fun hs => ?_
                  rcases hs.2.2.2.2.2.2 with h | h
                  · rw [HON.out] at h; cases h
                  · rw [nothingB_iff.2 h] at hnb; cases hnb
              clear C3
              cases hnb : nothingB v.pend with
              | true =>
                have HO2 := Lib.hid (HO.trans hnb)
                clear HO hnb
                go_wp2
                go_ret
                exact ⟨ret_bool HO2.out.symm, hbw3⟩
              | false =>
                have HO2 := Lib.hid (HO.trans hnb)
                clear HO hnb
                go_wp2
                go_ret
                exact ⟨ret_bool HO2.out.symm, hbw3⟩

          · have e1 := int_ne hwk
            have HWK := Lib.hid hwk
            clear hwk
            have C := place_any (x := v.working) hlc (hI.row.to hbr hbr.size) rfl
            go_wp2_with fail
            refine C.mono ?_
            rintro e w1 ⟨r, rfl, hr, hv1⟩
            have hbW1 : Below (w.heap.size + 1) W w1 := hb.trans (hv1.mono hzr)
            have hbw1 : Below w.heap.size w w1 := hbr.trans (hv1.mono hbr.size)
            clear C hv1
            cases hin : decide (v.working ∈ v.commits.map EV.num) with
            | false =>
              rw [hin] at hr
              have hr0 : r < 0 := of_decide_eq_true hr
              have HO := Lib.hid (sound_no (v := v) fun hs => by rcases hs.2.2.1 with h | h; exact HWK.out h; exact of_decide_eq_false hin h)
              clear hin hr
              go_wp2
              go_ret
              exact ⟨ret_bool HO.out.symm, hbw1⟩
            | true =>
              rw [hin] at hr
              have hr0 : ¬ r < 0 := of_decide_eq_false hr
              have HQ : v.working = -1 ∨ v.working ∈ v.commits.map EV.num := .inr (of_decide_eq_true hin)
              clear hin hr
              have y3 := HB.out 3 _ rfl w1 hbW1
              have y4 := HB.out 4 _ rfl w1 hbW1
              have y5 := HB.out 5 _ rfl w1 hbW1
              have y6 := HB.out 6 _ rfl w1 hbW1
              have y7 := HB.out 7 _ rfl w1 hbW1
              have y8 := HB.out 8 _ rfl w1 hbW1
              have y9 := HB.out 9 _ rfl w1 hbW1
              have y10 := HB.out 10 _ rfl w1 hbW1
              have y11 := HB.out 11 _ rfl w1 hbW1
              by_cases hu : 0 ≤ v.undos
              case neg =>
                have HO := Lib.hid (sound_no (v := v) fun hs => hu hs.2.2.2.2.1)
                go_wp2
                go_ret
                exact ⟨ret_bool HO.out.symm, hbw1⟩

              by_cases hd : 0 ≤ v.redos
              case neg =>
                have HO := Lib.hid (sound_no (v := v) fun hs => hd hs.2.2.2.2.2.1)
                go_wp2
                go_ret
                exact ⟨ret_bool HO.out.symm, hbw1⟩

              cases hon : v.pend.on with
              | true =>
                rw [hon] at y3
                have HO := Lib.hid (sound_yes ⟨HC.out, HM.out, HQ, HR.out, hu, hd, .inl hon⟩)
                clear hon
                go_wp2
                go_ret
                exact ⟨ret_bool HO.out.symm, hbw1⟩
              | false =>
                rw [hon] at y3
                have C3 := pend1_any (x := v.pend) (y := ⟨false, false, 0, 0, none, 0, [], 0, none, 0, []⟩) (w := w1) (hI.pend.to hbw1 hbw1.size) ⟨Rd.none_ _ _ _, by simp, Rd.none_ _ _ _, by simp, by simp⟩
                rw [hon, nothing_eq _ hon] at C3
                have hz0 := run_pend0 w1
                have HON := Lib.hid hon
                clear hon
                go_wp2_with fail
                refine C3.mono ?_
                rintro e w3 ⟨rfl, hv3⟩
                have hbw3 := hbw1.trans (hv3.mono hbw1.size)
                have HO : soundB v = nothingB v.pend := by
                  cases hnb : nothingB v.pend with
                  | true => exact sound_yes ⟨HC.out, HM.out, HQ, HR.out, hu, hd, .inr (nothingB_iff.1 hnb)⟩
                  | false =>
                    refine sound_no fun hs => ?_
                    rcases hs.2.2.2.2.2.2 with h | h
                    · rw [HON.out] at h; cases h
                    · rw [nothingB_iff.2 h] at hnb; cases hnb
                clear C3
                cases hnb : nothingB v.pend with
                | true =>
                  have HO2 := Lib.hid (HO.trans hnb)
                  clear HO hnb
                  go_wp2
                  go_ret
                  exact ⟨ret_bool HO2.out.symm, hbw3⟩
                | false =>
                  have HO2 := Lib.hid (HO.trans hnb)
                  clear HO hnb
                  go_wp2
                  go_ret
                  exact ⟨ret_bool HO2.out.symm, hbw3⟩

end Go.Proofs.YtnkboccngialiaaDoor
