/- Walks: audit.Sound. -/
import Derived.Test.YtnkboccngialiaaDoorA2
namespace Go.Proofs.YtnkboccngialiaaDoor
open Go.RowKit

theorem SetAt.put {w w' : World} {g b n : Nat} {D : DataW Value} {L L' : List Int} {k : Int} (h : SetAt w g b n D L) (hne : g ≠ b) (hk : I64 k)
    (hown : w'.ownsMap Tryd.prog 77 (plainElem Tryd.prog 4) b (n + 1) (D.put (klN k) (.lit (.bool true)))) (hg : w.grownBy w' (some b)) (hS : ∀ x, x ∈ L' ↔ x ∈ L ∨ x = k) :
    SetAt w' g b (n + 1) (D.put (klN k) (.lit (.bool true))) L' :=
  ⟨(World.cell?_of_block (hg.block g h.2.1 (fun e => hne (Option.some.inj e)))).trans h.1, Nat.lt_of_lt_of_le h.2.1 hg.size, Nat.lt_of_lt_of_le h.2.2.1 hg.size, h.2.2.2.put hk hown hS⟩
theorem int_eq2 {u v : Int} (h : u = v) : (u == v) = true ∧ (u != v) = false := by subst h; simp

set_option maxRecDepth 100000 in
set_option maxHeartbeats 16000000 in
theorem sound_any {v : VV} {w : World} (hI : v.In w w.heap.size) (hN : Nums v) (hm : Lm w) :
    Calls Tryd.prog 18 #[.agg #[.slice v.A v.commits.length v.c, .slice v.mA v.marks.length v.mc, .int .i64 v.working, .bool v.pend.on, .bool v.pend.restack, .int .i64 v.pend.source, .int .i64 v.pend.dest, .slice v.pend.sA v.pend.settled.length v.pend.sc, .int .i64 v.pend.commit, .slice v.pend.kA v.pend.clashes.length v.pend.kc, .int .i64 v.undos, .int .i64 v.redos]] w (BoolBelow (soundB v) w) := by
  have hlc := hI.lc
  have hlm := hI.lm
  have hmm := @run_makeMap Tryd.prog
  obtain ⟨W1, hW1⟩ : ∃ u, u = w.alloc (.cells #[.slice v.A v.commits.length v.c, .slice v.mA v.marks.length v.mc, .int .i64 v.working, .bool v.pend.on, .bool v.pend.restack, .int .i64 v.pend.source, .int .i64 v.pend.dest, .slice v.pend.sA v.pend.settled.length v.pend.sc, .int .i64 v.pend.commit, .slice v.pend.kA v.pend.clashes.length v.pend.kc, .int .i64 v.undos, .int .i64 v.redos] 52) := ⟨_, rfl⟩
  have hb1 : Below w.heap.size w W1 := by rw [hW1]; exact (Below.refl _ _).alloc (Nat.le_refl _) _
  have hz1 : W1.heap.size = w.heap.size + 1 := by rw [hW1]; simp
  have hx1 : ∀ i u, [Value.slice v.A v.commits.length v.c, .slice v.mA v.marks.length v.mc, .int .i64 v.working, .bool v.pend.on, .bool v.pend.restack, .int .i64 v.pend.source, .int .i64 v.pend.dest, .slice v.pend.sA v.pend.settled.length v.pend.sc, .int .i64 v.pend.commit, .slice v.pend.kA v.pend.clashes.length v.pend.kc, .int .i64 v.undos, .int .i64 v.redos][i]? = some u → W1.cell? ⟨w.heap.size, i, none⟩ = some u := fun i u hu => by
    rw [hW1, World.cell?, heap_alloc_new]; simpa using hu
  have hS1 := SetN.start W1
  obtain ⟨W, hW⟩ : ∃ u, u = (W1.alloc (.map #[] 0)).alloc (.cells #[.map (some (w.heap.size + 1))] 75) := ⟨_, rfl⟩
  have hbW : Below W1.heap.size W1 W := by rw [hW]; exact ((Below.refl _ _).alloc (Nat.le_refl _) _).alloc (by simp) _
  have hzW : W.heap.size = w.heap.size + 3 := by rw [hW]; simp [hz1]
  have hA : SetAt W (w.heap.size + 2) (w.heap.size + 1) 0 (.map []) [] := by
    refine ⟨?_, by omega, by omega, ?_⟩
    · rw [hW, World.cell?, show w.heap.size + 2 = (W1.alloc (.map #[] 0)).heap.size by simp [hz1], heap_alloc_new]; rfl
    · rw [hW, ← hz1]; exact hS1.kept (World.grownBy_alloc _ _ none) (by simp)
  have hbx : Below w.heap.size w W := hb1.trans (hbW.mono (by omega))
  have hW0 : W.heap.size = w.heap.size + 3 := hzW
  have hx : ∀ i u, [Value.slice v.A v.commits.length v.c, .slice v.mA v.marks.length v.mc, .int .i64 v.working, .bool v.pend.on, .bool v.pend.restack, .int .i64 v.pend.source, .int .i64 v.pend.dest, .slice v.pend.sA v.pend.settled.length v.pend.sc, .int .i64 v.pend.commit, .slice v.pend.kA v.pend.clashes.length v.pend.kc, .int .i64 v.undos, .int .i64 v.redos][i]? = some u → ∀ u', Below (w.heap.size + 1) W u' → u'.cell? ⟨w.heap.size, i, none⟩ = some u := fun i u hu u' hu' =>
    (hu'.cell (p := ⟨w.heap.size, i, none⟩) (Nat.lt_succ_self _)).trans ((hbW.cell (p := ⟨w.heap.size, i, none⟩) (by show w.heap.size < _; omega)).trans (hx1 i u hu))
  clear hx1 hS1
  go_enter Tryd.func18, Tryd.ntmps18
  have x0 := hx 0 _ rfl W (Below.refl _ _)
  go_wp2
  rw [← hW1, hz1] at *
  rw [← hW] at *
  clear hW hW1
  have HB := Lib.hid hx
  clear hx hmm x0 hz1 hW0
  go_loopw [4, 10] (fun _ i wr => ∃ (k : Nat) (D : DataW Value), k ≤ v.commits.length ∧ i = .int .i64 k ∧ Below (w.heap.size + 1) W wr ∧ SetAt wr (w.heap.size + 2) (w.heap.size + 1) k D ((v.commits.take k).map EV.num) ∧ Hid (ComsTo v.commits k)) (fun _ i _ => v.commits.length - (intOf i).toNat)
  case atStart => exact ⟨0, _, Nat.zero_le _, rfl, Below.refl _ _, by rw [List.take_zero]; exact hA, ComsTo.zero _⟩
  case round =>
    obtain ⟨k, D, hk, rfl, hb, hS, hj⟩ := hrel
    have hbr : Below w.heap.size w wr := hbx.trans (hb.mono (by omega))
    have hzr : w.heap.size + 3 ≤ wr.heap.size := by have := hb.size; omega
    clear hA
    by_cases hlt : k < v.commits.length
    · obtain ⟨b0, o0, c, eA, hbb, hcx, hcm, hcc⟩ := T.rd_flat EV.cells_len (by omega) hI.row rfl hlt
      have h0 := (hbr.cell (p := ⟨b0, o0 + k * 5, none⟩) (by show b0 < _; omega)).trans (hcc 0 _ rfl)
      have h1 := (hbr.cell (p := ⟨b0, o0 + k * 5 + 1, none⟩) (by show b0 < _; omega)).trans (hcc 1 _ rfl)
      have h2 := (hbr.cell (p := ⟨b0, o0 + k * 5 + 2, none⟩) (by show b0 < _; omega)).trans (hcc 2 _ rfl)
      have h3 := (hbr.cell (p := ⟨b0, o0 + k * 5 + 3, none⟩) (by show b0 < _; omega)).trans (hcc 3 _ rfl)
      have h4 := (hbr.cell (p := ⟨b0, o0 + k * 5 + 4, none⟩) (by show b0 < _; omega)).trans (hcc 4 _ rfl)
      have HX := Lib.hid hcx
      have HN := hN.com c hcm
      have HE := hI.each c hcm
      clear hcx hcc
      rw [eA]
      obtain ⟨wN, hwN⟩ : ∃ x, x = wr.alloc (.cells #[.int .i64 c.num, .int .i64 c.parent, .string c.msg, .slice c.A c.files.length c.c, .bool c.obs] 74) := ⟨_, rfl⟩
      have hbN : Below wr.heap.size wr wN := by rw [hwN]; exact (Below.refl _ _).alloc (Nat.le_refl _) _
      have hzN : wN.heap.size = wr.heap.size + 1 := by rw [hwN]; simp
      have hcN : ∀ t u, c.cells[t]? = some u → wN.cell? ⟨wr.heap.size, t, none⟩ = some u := by
        intro t u hu; rw [hwN, World.cell?, heap_alloc_new]; simpa [EV.cells] using hu
      have c0 := hcN 0 _ rfl
      have c1 := hcN 1 _ rfl
      have c3 := hcN 3 _ rfl
      clear hcN
      have hbWN : Below (w.heap.size + 1) W wN := hb.trans (hbN.mono (by omega))
      have hbwN : Below w.heap.size w wN := hbr.trans (hbN.mono (by omega))
      have hSN := hS.below hbN
      go_wp2
      rw [← hwN]
      clear hwN h0 h1 h2 h3 h4
      have HR : ∀ u, Below wN.heap.size wN u → Calls Tryd.prog 33 #[.slice c.A c.files.length c.c] u (BoolBelow (treeOk c.files) u) := fun u hu =>
        treeRight_any HE.2 (hm.to (hbwN.trans (hu.mono hbwN.size))) (HE.1.to (hbwN.trans (hu.mono hbwN.size)) (hbwN.trans (hu.mono hbwN.size)).size)
      have BAD : ∀ u, Below wN.heap.size wN u → ¬ ComOk v.commits k c → BoolBelow (soundB v) w (.returned (.bool false)) u := fun u hu hc => ⟨ret_bool (com_bad HX.out hc).symm, hbwN.trans (hu.mono hbwN.size)⟩
      refine wp_region_q (fun w' => Below wN.heap.size wN w') (qe [22, 23, 30] 33) mixed (by kernel_rfl) (Below.refl _ _).drew ?_
      have hd0 : Below wN.heap.size wN wN.drew := (Below.refl _ _).drew
      intro Tp M Q hT hT' hM hQ
      have m0 : M ⟨wr.heap.size, 0, none⟩ = some (.int .i64 c.num) := hM _ _ fun w' hw => (hw.cell (p := ⟨wr.heap.size, 0, none⟩) (by show wr.heap.size < _; omega)).trans c0
      have m1 : M ⟨wr.heap.size, 1, none⟩ = some (.int .i64 c.parent) := hM _ _ fun w' hw => (hw.cell (p := ⟨wr.heap.size, 1, none⟩) (by show wr.heap.size < _; omega)).trans c1
      have m3 : M ⟨wr.heap.size, 3, none⟩ = some (.slice c.A c.files.length c.c) := hM _ _ fun w' hw => (hw.cell (p := ⟨wr.heap.size, 3, none⟩) (by show wr.heap.size < _; omega)).trans c3
      have mb : M ⟨w.heap.size, 0, none⟩ = some (.slice (some ⟨b0, o0, none⟩) v.commits.length v.c) := hM _ _ fun w' hw => by rw [← eA]; exact HB.out 0 _ rfl w' (hbWN.trans (hw.mono (by omega)))
      have mt : M ⟨w.heap.size + 2, 0, none⟩ = some (.map (some (w.heap.size + 1))) := hM _ _ fun w' hw => (hSN.below hw).1
      simp only [qcmp, Nat.reduceBEq, Bool.or_self, Bool.or_true]
      by_cases hn : ∀ d, 1 ≤ k → v.commits[k - 1]? = some d → d.num < c.num
      case neg =>
        have hk1' : 1 ≤ k := Nat.one_le_iff_ne_zero.2 fun e => hn fun d hd => by omega
        obtain ⟨b1, o1, g1, eA1, hbb1, hx1, _, p⟩ := T.rd_flat EV.cells_len (by omega) hI.row rfl (k := k - 1) (by omega)
        rw [eA] at eA1
        cases eA1
        have hk1 : decide ((0 : Int) < k) = true := decide_eq_true (by omega)
        have e1 : ((k : Int) - 1).toNat = k - 1 := by omega
        have m5 : M ⟨b0, o0 + (k - 1) * 5, none⟩ = some (.int .i64 g1.num) := hM _ _ fun w' hw => (hw.cell (p := ⟨b0, o0 + (k - 1) * 5, none⟩) (by show b0 < _; omega)).trans ((hbwN.cell (p := ⟨b0, o0 + (k - 1) * 5, none⟩) (by show b0 < _; omega)).trans (p 0 _ rfl))
        have hle : decide (c.num ≤ g1.num) = true := decide_eq_true (Int.not_lt.1 fun h => hn fun d _ hd => by rw [hx1] at hd; injection hd with hd; subst hd; exact h)
        have HO := BAD wN.drew (Below.refl _ _).drew (fun hf => hn hf.1)
        clear HR BAD hn
        simp (maxSteps := 5000000) only [↓qpre, qpost, qfacts, qnorm, m0, mb, hk1, e1, m5, hle]
        refine ⟨by unfold inI64; omega, ⟨by omega, by omega⟩, hQ _ _ ?_⟩
        clear hQ hT hT' hM m0 m1 m3 mb mt m5 p
        go_wp2
        go_ret
        exact HO
      case pos =>
        have HP := Lib.hid hn
        by_cases hk0 : k = 0
        · have hk1 : decide ((0 : Int) < k) = false := decide_eq_false (by omega)
          clear hn
          by_cases hp : c.parent = -1
          · have hpd : decide (c.parent = -1) = true := decide_eq_true hp
            have HQ : c.parent = -1 ∨ c.parent ∈ (v.commits.take k).map EV.num := .inl hp
            clear hp
            simp (maxSteps := 5000000) only [↓qpre, qpost, qfacts, qnorm, m1, m3, hk1, hpd]
            refine eff_call (by kernel_rfl) (HR _ (Below.refl _ _).drew) rfl rfl ?_
            rintro e v1 ⟨rfl, hv1⟩
            have hb3 : Below wN.heap.size wN v1 := hd0.trans (hv1.mono hd0.size)
            refine ⟨_, rfl, hT _ hb3, ?_⟩
            cases ht : treeOk c.files with
            | false =>
              have HO := BAD v1 hb3 (fun hf => by rw [treeOk_iff.2 hf.2.2] at ht; cases ht)
              clear HR BAD
              simp (maxSteps := 5000000) only [↓qpre, qpost, qnorm]
              refine hQ _ _ ?_
              clear hQ hT hT' hM m0 m1 m3 mb mt
              go_wp2
              go_ret
              exact HO
            | true =>
              have HO := Lib.hid (ComsTo.next hj.out HX.out ⟨HP.out, HQ, treeOk_iff.1 ht⟩)
              have hS1 := hSN.below hb3
              have x3 := hS1.1
              have x0 : v1.cell? ⟨wr.heap.size, 0, none⟩ = some (.int .i64 c.num) := (hb3.cell (p := ⟨wr.heap.size, 0, none⟩) (by show wr.heap.size < _; omega)).trans c0
              have hrk := run_keyN v1 c.num
              have hbe : Below (w.heap.size + 1) W v1 := hbWN.trans (hb3.mono (by omega))
              have hze := hb3.size
              have HM : ∀ x, x ∈ (v.commits.take (k + 1)).map EV.num ↔ x ∈ (v.commits.take k).map EV.num ∨ x = c.num := fun x => by
                rw [List.take_add_one, HX.out]; simp
              have HMh := Lib.hid HM
              clear HR BAD HM
              simp (maxSteps := 5000000) only [↓qpre, qpost, qnorm]
              refine hQ _ _ ?_
              clear hQ hT hT' hM m0 m1 m3 mb mt hv1
              go_wp2_with (at_mapUpdate; refine wpList_mapUpdate_own _ rfl _ _ _ 75 rfl 77 4 KN Tryd.underlying75 (plainElem Tryd.prog 4) (w.heap.size + 1) k D rfl hS1.2.2.2.own (by unfold maxLen; omega) _ _ _ rfl rfl (keyN HN.1) _ [] (boolT true) ?_; intro w5 hown5 hg5)
              go_roundw
              case rel => exact ⟨k + 1, _, by omega, by go_num, hbe.grown hg5 (by omega) (fun g hg => by injection hg with hg; omega), hS1.put (by omega) HN.1 hown5 hg5 HMh.out, HO.out⟩
              case measure => simp [intOf]; omega

          · have hpd : decide (c.parent = -1) = false := decide_eq_false hp
            simp (maxSteps := 5000000) only [↓qpre, qpost, qfacts, qnorm, m1, mt, hk1, hpd]
            refine T.eff_build rfl (run_keyN _ c.parent) ⟨hT _ (Below.refl _ _).drew, ?_⟩
            simp (maxSteps := 5000000) only [↓qpre, qpost, qnorm]
            refine T.eff_lookup rfl rfl ((hSN.below (Below.refl _ _).drew).2.2.2.look HN.2) ⟨hT _ (Below.refl _ _).drew, ?_⟩
            cases hin : decide (c.parent ∈ (v.commits.take k).map EV.num) with
            | false =>
              have HO := BAD _ (Below.refl _ _).drew (fun hf => by rcases hf.2.1 with h | h; exact hp h; exact of_decide_eq_false hin h)
              clear HR BAD
              simp (maxSteps := 5000000) only [↓qpre, qpost, qnorm]
              refine hQ _ _ ?_
              clear hQ hT hT' hM m0 m1 m3 mb mt
              go_wp2
              go_ret
              exact HO

            | true =>
              have HQ : c.parent = -1 ∨ c.parent ∈ (v.commits.take k).map EV.num := .inr (of_decide_eq_true hin)
              clear hp hin
              simp (maxSteps := 5000000) only [↓qpre, qpost, qfacts, qnorm, m3]
              refine eff_call (by kernel_rfl) (HR _ (Below.refl _ _).drew) rfl rfl ?_
              rintro e v1 ⟨rfl, hv1⟩
              have hb3 : Below wN.heap.size wN v1 := hd0.trans (hv1.mono hd0.size)
              refine ⟨_, rfl, hT _ hb3, ?_⟩
              cases ht : treeOk c.files with
              | false =>
                have HO := BAD v1 hb3 (fun hf => by rw [treeOk_iff.2 hf.2.2] at ht; cases ht)
                clear HR BAD
                simp (maxSteps := 5000000) only [↓qpre, qpost, qnorm]
                refine hQ _ _ ?_
                clear hQ hT hT' hM m0 m1 m3 mb mt
                go_wp2
                go_ret
                exact HO
              | true =>
                have HO := Lib.hid (ComsTo.next hj.out HX.out ⟨HP.out, HQ, treeOk_iff.1 ht⟩)
                have hS1 := hSN.below hb3
                have x3 := hS1.1
                have x0 : v1.cell? ⟨wr.heap.size, 0, none⟩ = some (.int .i64 c.num) := (hb3.cell (p := ⟨wr.heap.size, 0, none⟩) (by show wr.heap.size < _; omega)).trans c0
                have hrk := run_keyN v1 c.num
                have hbe : Below (w.heap.size + 1) W v1 := hbWN.trans (hb3.mono (by omega))
                have hze := hb3.size
                have HM : ∀ x, x ∈ (v.commits.take (k + 1)).map EV.num ↔ x ∈ (v.commits.take k).map EV.num ∨ x = c.num := fun x => by
                  rw [List.take_add_one, HX.out]; simp
                have HMh := Lib.hid HM
                clear HR BAD HM
                simp (maxSteps := 5000000) only [↓qpre, qpost, qnorm]
                refine hQ _ _ ?_
                clear hQ hT hT' hM m0 m1 m3 mb mt hv1
                go_wp2_with (at_mapUpdate; refine wpList_mapUpdate_own _ rfl _ _ _ 75 rfl 77 4 KN Tryd.underlying75 (plainElem Tryd.prog 4) (w.heap.size + 1) k D rfl hS1.2.2.2.own (by unfold maxLen; omega) _ _ _ rfl rfl (keyN HN.1) _ [] (boolT true) ?_; intro w5 hown5 hg5)
                go_roundw
                case rel => exact ⟨k + 1, _, by omega, by go_num, hbe.grown hg5 (by omega) (fun g hg => by injection hg with hg; omega), hS1.put (by omega) HN.1 hown5 hg5 HMh.out, HO.out⟩
                case measure => simp [intOf]; omega


        · have hk1 : decide ((0 : Int) < k) = true := decide_eq_true (by omega)
          obtain ⟨b1, o1, g1, eA1, hbb1, hx1, _, p⟩ := T.rd_flat EV.cells_len (by omega) hI.row rfl (k := k - 1) (by omega)
          rw [eA] at eA1
          cases eA1
          have e1 : ((k : Int) - 1).toNat = k - 1 := by omega
          have m5 : M ⟨b0, o0 + (k - 1) * 5, none⟩ = some (.int .i64 g1.num) := hM _ _ fun w' hw => (hw.cell (p := ⟨b0, o0 + (k - 1) * 5, none⟩) (by show b0 < _; omega)).trans ((hbwN.cell (p := ⟨b0, o0 + (k - 1) * 5, none⟩) (by show b0 < _; omega)).trans (p 0 _ rfl))
          have hlt5 := hn g1 (by omega) hx1
          have hle : decide (c.num ≤ g1.num) = false := decide_eq_false (Int.not_le.2 hlt5)
          clear hn hlt5
          by_cases hp : c.parent = -1
          · have hpd : decide (c.parent = -1) = true := decide_eq_true hp
            have HQ : c.parent = -1 ∨ c.parent ∈ (v.commits.take k).map EV.num := .inl hp
            clear hp
            simp (maxSteps := 5000000) only [↓qpre, qpost, qfacts, qnorm, m0, m1, m3, mb, hk1, e1, m5, hle, hpd]
            refine ⟨by unfold inI64; omega, ⟨by omega, by omega⟩, ?_⟩
            clear hx1 p
            refine eff_call (by kernel_rfl) (HR _ (Below.refl _ _).drew) rfl rfl ?_
            rintro e v1 ⟨rfl, hv1⟩
            have hb3 : Below wN.heap.size wN v1 := hd0.trans (hv1.mono hd0.size)
            refine ⟨_, rfl, hT _ hb3, ?_⟩
            cases ht : treeOk c.files with
            | false =>
              have HO := BAD v1 hb3 (fun hf => by rw [treeOk_iff.2 hf.2.2] at ht; cases ht)
              clear HR BAD
              simp (maxSteps := 5000000) only [↓qpre, qpost, qnorm]
              refine hQ _ _ ?_
              clear hQ hT hT' hM m0 m1 m3 mb mt
              go_wp2
              go_ret
              exact HO
            | true =>
              have HO := Lib.hid (ComsTo.next hj.out HX.out ⟨HP.out, HQ, treeOk_iff.1 ht⟩)
              have hS1 := hSN.below hb3
              have x3 := hS1.1
              have x0 : v1.cell? ⟨wr.heap.size, 0, none⟩ = some (.int .i64 c.num) := (hb3.cell (p := ⟨wr.heap.size, 0, none⟩) (by show wr.heap.size < _; omega)).trans c0
              have hrk := run_keyN v1 c.num
              have hbe : Below (w.heap.size + 1) W v1 := hbWN.trans (hb3.mono (by omega))
              have hze := hb3.size
              have HM : ∀ x, x ∈ (v.commits.take (k + 1)).map EV.num ↔ x ∈ (v.commits.take k).map EV.num ∨ x = c.num := fun x => by
                rw [List.take_add_one, HX.out]; simp
              have HMh := Lib.hid HM
              clear HR BAD HM
              simp (maxSteps := 5000000) only [↓qpre, qpost, qnorm]
              refine hQ _ _ ?_
              clear hQ hT hT' hM m0 m1 m3 mb mt hv1
              go_wp2_with (at_mapUpdate; refine wpList_mapUpdate_own _ rfl _ _ _ 75 rfl 77 4 KN Tryd.underlying75 (plainElem Tryd.prog 4) (w.heap.size + 1) k D rfl hS1.2.2.2.own (by unfold maxLen; omega) _ _ _ rfl rfl (keyN HN.1) _ [] (boolT true) ?_; intro w5 hown5 hg5)
              go_roundw
              case rel => exact ⟨k + 1, _, by omega, by go_num, hbe.grown hg5 (by omega) (fun g hg => by injection hg with hg; omega), hS1.put (by omega) HN.1 hown5 hg5 HMh.out, HO.out⟩
              case measure => simp [intOf]; omega

          · have hpd : decide (c.parent = -1) = false := decide_eq_false hp
            simp (maxSteps := 5000000) only [↓qpre, qpost, qfacts, qnorm, m0, m1, mb, mt, hk1, e1, m5, hle, hpd]
            refine ⟨by unfold inI64; omega, ⟨by omega, by omega⟩, ?_⟩
            clear hx1 p
            refine T.eff_build rfl (run_keyN _ c.parent) ⟨hT _ (Below.refl _ _).drew, ?_⟩
            simp (maxSteps := 5000000) only [↓qpre, qpost, qnorm]
            refine T.eff_lookup rfl rfl ((hSN.below (Below.refl _ _).drew).2.2.2.look HN.2) ⟨hT _ (Below.refl _ _).drew, ?_⟩
            cases hin : decide (c.parent ∈ (v.commits.take k).map EV.num) with
            | false =>
              have HO := BAD _ (Below.refl _ _).drew (fun hf => by rcases hf.2.1 with h | h; exact hp h; exact of_decide_eq_false hin h)
              clear HR BAD
              simp (maxSteps := 5000000) only [↓qpre, qpost, qnorm]
              refine hQ _ _ ?_
              clear hQ hT hT' hM m0 m1 m3 mb mt
              go_wp2
              go_ret
              exact HO

            | true =>
              have HQ : c.parent = -1 ∨ c.parent ∈ (v.commits.take k).map EV.num := .inr (of_decide_eq_true hin)
              clear hp hin
              simp (maxSteps := 5000000) only [↓qpre, qpost, qfacts, qnorm, m3]
              refine eff_call (by kernel_rfl) (HR _ (Below.refl _ _).drew) rfl rfl ?_
              rintro e v1 ⟨rfl, hv1⟩
              have hb3 : Below wN.heap.size wN v1 := hd0.trans (hv1.mono hd0.size)
              refine ⟨_, rfl, hT _ hb3, ?_⟩
              cases ht : treeOk c.files with
              | false =>
                have HO := BAD v1 hb3 (fun hf => by rw [treeOk_iff.2 hf.2.2] at ht; cases ht)
                clear HR BAD
                simp (maxSteps := 5000000) only [↓qpre, qpost, qnorm]
                refine hQ _ _ ?_
                clear hQ hT hT' hM m0 m1 m3 mb mt
                go_wp2
                go_ret
                exact HO
              | true =>
                have HO := Lib.hid (ComsTo.next hj.out HX.out ⟨HP.out, HQ, treeOk_iff.1 ht⟩)
                have hS1 := hSN.below hb3
                have x3 := hS1.1
                have x0 : v1.cell? ⟨wr.heap.size, 0, none⟩ = some (.int .i64 c.num) := (hb3.cell (p := ⟨wr.heap.size, 0, none⟩) (by show wr.heap.size < _; omega)).trans c0
                have hrk := run_keyN v1 c.num
                have hbe : Below (w.heap.size + 1) W v1 := hbWN.trans (hb3.mono (by omega))
                have hze := hb3.size
                have HM : ∀ x, x ∈ (v.commits.take (k + 1)).map EV.num ↔ x ∈ (v.commits.take k).map EV.num ∨ x = c.num := fun x => by
                  rw [List.take_add_one, HX.out]; simp
                have HMh := Lib.hid HM
                clear HR BAD HM
                simp (maxSteps := 5000000) only [↓qpre, qpost, qnorm]
                refine hQ _ _ ?_
                clear hQ hT hT' hM m0 m1 m3 mb mt hv1
                go_wp2_with (at_mapUpdate; refine wpList_mapUpdate_own _ rfl _ _ _ 75 rfl 77 4 KN Tryd.underlying75 (plainElem Tryd.prog 4) (w.heap.size + 1) k D rfl hS1.2.2.2.own (by unfold maxLen; omega) _ _ _ rfl rfl (keyN HN.1) _ [] (boolT true) ?_; intro w5 hown5 hg5)
                go_roundw
                case rel => exact ⟨k + 1, _, by omega, by go_num, hbe.grown hg5 (by omega) (fun g hg => by injection hg with hg; omega), hS1.put (by omega) HN.1 hown5 hg5 HMh.out, HO.out⟩
                case measure => simp [intOf]; omega


    · obtain rfl : k = v.commits.length := by omega
      rw [List.take_length] at hS
      have HC := Lib.hid hj.out
      have y1 := HB.out 1 _ rfl wr hb
      have y2 := HB.out 2 _ rfl wr hb
      have C := marksOut_any hlm (hI.marks.to hbr hbr.size) rfl hN.mark hS
      clear hj
      go_wp2_with fail
      refine C.mono ?_
      rintro e w1 ⟨o, rfl, h1, h2, hv1⟩
      have hbW1 : Below (w.heap.size + 1) W w1 := hb.trans (hv1.mono (by have := hb.size; omega))
      have hbw1 : Below w.heap.size w w1 := hbr.trans (hv1.mono hbr.size)
      clear y1
      cases o with
      | true =>
        obtain ⟨j, x, hx, hn⟩ := h2 rfl
        have HO := Lib.hid (markIn_bad hx hn)
        clear h1 h2 hx hn C
        go_wp2
        go_ret
        exact ⟨ret_bool HO.out.symm, hbw1⟩
      | false =>
        have HM := Lib.hid (h1 rfl)
        have hS1 := hS.below hv1
        have y2 := HB.out 2 _ rfl w1 hbW1
        clear h1 h2
        by_cases hwk : v.working = -1
        · have e1 := int_eq2 hwk
          have HQ : v.working = -1 ∨ v.working ∈ v.commits.map EV.num := .inl hwk
          clear hwk
          have y1 := HB.out 1 _ rfl w1 hbW1
          have C2 := rise_any hlm (hI.marks.to hbw1 hbw1.size) rfl
          go_wp2_with fail
          refine C2.mono ?_
          rintro e w2 ⟨rfl, hv2⟩
          have hbw2 := hbw1.trans (hv2.mono hbw1.size)
          have hbW2 : Below (w.heap.size + 1) W w2 := hbW1.trans (hv2.mono (by have := hbW1.size; omega))
          have y3 := HB.out 3 _ rfl w2 hbW2
          have y4 := HB.out 4 _ rfl w2 hbW2
          have y5 := HB.out 5 _ rfl w2 hbW2
          have y6 := HB.out 6 _ rfl w2 hbW2
          have y7 := HB.out 7 _ rfl w2 hbW2
          have y8 := HB.out 8 _ rfl w2 hbW2
          have y9 := HB.out 9 _ rfl w2 hbW2
          have y10 := HB.out 10 _ rfl w2 hbW2
          have y11 := HB.out 11 _ rfl w2 hbW2
          have HIP := Lib.hid hI.pend
          have HBW2 := Lib.hid hbw2
          clear C2 C y1 hv1 hv2 hbW2 hS hS1 hI hb hbr hbW hbx hb1 hbw1 hbW1 hbw2 hzr hzW
          have hbw2 := HBW2.out
          cases hr : riseB v.marks with
          | false =>
            have hr2 := Lib.hid hr
            clear hr
            have HO := Lib.hid (sound_no (v := v) fun hs => by have h3 := hr2.out; simp only [riseB, decide_eq_false_iff_not] at h3; exact h3 hs.2.2.2.1)
            go_wp2
            go_ret
            exact ⟨ret_bool HO.out.symm, hbw2⟩

          | true =>
            have hr2 := Lib.hid (show MarksRise v.marks v.marks.length by simpa only [riseB, decide_eq_true_eq] using hr)
            clear hr
            by_cases hu : 0 ≤ v.undos
            case neg =>
              have HO := Lib.hid (sound_no (v := v) fun hs => hu hs.2.2.2.2.1)
              go_wp2
              go_ret
              exact ⟨ret_bool HO.out.symm, hbw2⟩

            by_cases hd : 0 ≤ v.redos
            case neg =>
              have HO := Lib.hid (sound_no (v := v) fun hs => hd hs.2.2.2.2.2.1)
              go_wp2
              go_ret
              exact ⟨ret_bool HO.out.symm, hbw2⟩

            cases hon : v.pend.on with
            | true =>
              rw [hon] at y3
              have HO := Lib.hid (sound_yes ⟨HC.out, HM.out, HQ, hr2.out, hu, hd, .inl hon⟩)
              clear hon
              go_wp2
              go_ret
              exact ⟨ret_bool HO.out.symm, hbw2⟩
            | false =>
              rw [hon] at y3
              have C3 := nothing_any (p := v.pend) (w := w2) HIP.out.ls HIP.out.lk
              rw [hon] at C3
              have HON := Lib.hid hon
              clear hon
              go_wp2_with fail
              refine C3.mono ?_
              rintro e w3 ⟨rfl, hv3⟩
              have hbw3 := hbw2.trans (hv3.mono hbw2.size)
              have HO : soundB v = nothingB v.pend := by
                cases hnb : nothingB v.pend with
                | true => exact sound_yes ⟨HC.out, HM.out, HQ, hr2.out, hu, hd, .inr (nothingB_iff.1 hnb)⟩
                | false =>
                  refine sound_no fun hs => ?_
                  rcases hs.2.2.2.2.2.2 with h | h
                  · rw [HON.out] at h; cases h
                  · rw [nothingB_iff.2 h] at hnb; cases hnb
              clear C3
              cases hnb : nothingB v.pend with
              | true =>
                have HO2 := Lib.hid (HO.trans hnb)
                clear HO hnb
                go_wp2
                go_ret
                exact ⟨ret_bool HO2.out.symm, hbw3⟩
              | false =>
                have HO2 := Lib.hid (HO.trans hnb)
                clear HO hnb
                go_wp2
                go_ret
                exact ⟨ret_bool HO2.out.symm, hbw3⟩

        · have e1 := int_ne hwk
          have hrk := run_keyN w1 v.working
          have x3 := hS1.1
          have hlk := hS1.2.2.2.look hN.work
          have HWK := Lib.hid hwk
          clear hwk
          cases hin : decide (v.working ∈ v.commits.map EV.num) with
          | false =>
            rw [hin] at hlk
            have HO := Lib.hid (sound_no (v := v) fun hs => by rcases hs.2.2.1 with h | h; exact HWK.out h; exact of_decide_eq_false hin h)
            clear hin C
            go_wp2
            go_ret
            exact ⟨ret_bool HO.out.symm, hbw1⟩
          | true =>
            rw [hin] at hlk
            have HQ : v.working = -1 ∨ v.working ∈ v.commits.map EV.num := .inr (of_decide_eq_true hin)
            clear hin
            have y1 := HB.out 1 _ rfl w1 hbW1
            have C2 := rise_any hlm (hI.marks.to hbw1 hbw1.size) rfl
            go_wp2_with fail
            refine C2.mono ?_
            rintro e w2 ⟨rfl, hv2⟩
            have hbw2 := hbw1.trans (hv2.mono hbw1.size)
            have hbW2 : Below (w.heap.size + 1) W w2 := hbW1.trans (hv2.mono (by have := hbW1.size; omega))
            have y3 := HB.out 3 _ rfl w2 hbW2
            have y4 := HB.out 4 _ rfl w2 hbW2
            have y5 := HB.out 5 _ rfl w2 hbW2
            have y6 := HB.out 6 _ rfl w2 hbW2
            have y7 := HB.out 7 _ rfl w2 hbW2
            have y8 := HB.out 8 _ rfl w2 hbW2
            have y9 := HB.out 9 _ rfl w2 hbW2
            have y10 := HB.out 10 _ rfl w2 hbW2
            have y11 := HB.out 11 _ rfl w2 hbW2
            have HIP := Lib.hid hI.pend
            have HBW2 := Lib.hid hbw2
            clear C2 C y1 hv1 hv2 hbW2 hS hS1 hI hb hbr hbW hbx hb1 hbw1 hbW1 hbw2 hzr hzW
            have hbw2 := HBW2.out
            cases hr : riseB v.marks with
            | false =>
              have hr2 := Lib.hid hr
              clear hr
              have HO := Lib.hid (sound_no (v := v) fun hs => by have h3 := hr2.out; simp only [riseB, decide_eq_false_iff_not] at h3; exact h3 hs.2.2.2.1)
              go_wp2
              go_ret
              exact ⟨ret_bool HO.out.symm, hbw2⟩

            | true =>
              have hr2 := Lib.hid (show MarksRise v.marks v.marks.length by simpa only [riseB, decide_eq_true_eq] using hr)
              clear hr
              by_cases hu : 0 ≤ v.undos
              case neg =>
                have HO := Lib.hid (sound_no (v := v) fun hs => hu hs.2.2.2.2.1)
                go_wp2
                go_ret
                exact ⟨ret_bool HO.out.symm, hbw2⟩

              by_cases hd : 0 ≤ v.redos
              case neg =>
                have HO := Lib.hid (sound_no (v := v) fun hs => hd hs.2.2.2.2.2.1)
                go_wp2
                go_ret
                exact ⟨ret_bool HO.out.symm, hbw2⟩

              cases hon : v.pend.on with
              | true =>
                rw [hon] at y3
                have HO := Lib.hid (sound_yes ⟨HC.out, HM.out, HQ, hr2.out, hu, hd, .inl hon⟩)
                clear hon
                go_wp2
                go_ret
                exact ⟨ret_bool HO.out.symm, hbw2⟩
              | false =>
                rw [hon] at y3
                have C3 := nothing_any (p := v.pend) (w := w2) HIP.out.ls HIP.out.lk
                rw [hon] at C3
                have HON := Lib.hid hon
                clear hon
                go_wp2_with fail
                refine C3.mono ?_
                rintro e w3 ⟨rfl, hv3⟩
                have hbw3 := hbw2.trans (hv3.mono hbw2.size)
                have HO : soundB v = nothingB v.pend := by
                  cases hnb : nothingB v.pend with
                  | true => exact sound_yes ⟨HC.out, HM.out, HQ, hr2.out, hu, hd, .inr (nothingB_iff.1 hnb)⟩
                  | false =>
                    refine sound_no fun hs => ?_
                    rcases hs.2.2.2.2.2.2 with h | h
                    · rw [HON.out] at h; cases h
                    · rw [nothingB_iff.2 h] at hnb; cases hnb
                clear C3
                cases hnb : nothingB v.pend with
                | true =>
                  have HO2 := Lib.hid (HO.trans hnb)
                  clear HO hnb
                  go_wp2
                  go_ret
                  exact ⟨ret_bool HO2.out.symm, hbw3⟩
                | false =>
                  have HO2 := Lib.hid (HO.trans hnb)
                  clear HO hnb
                  go_wp2
                  go_ret
                  exact ⟨ret_bool HO2.out.symm, hbw3⟩

end Go.Proofs.YtnkboccngialiaaDoor
