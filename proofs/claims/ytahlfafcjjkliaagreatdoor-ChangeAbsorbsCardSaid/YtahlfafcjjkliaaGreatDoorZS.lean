/- Several texts in one: Walks over stacks: the document's Toucher and Split; Same of stacks; ContainsFunc and EqualFunc of stacks; rows of headers that are written. Plain law of Absorb; a stack that is written tree by tree; walk: the document's Absorb. Walk: the document's Absorb. change.Absorb: the search for what is no tree; the map of touchers; boxes of changes. Walk: change.Absorb. Seven arguments of a law: opened. -/
import Derived.Test.YtahlfafcjjkliaaGreatDoorZM
import Derived.Test.YtahlfafcjjkliaaGreatDoorLaidU
import Derived.Test.YtahlfafcjjkliaaGreatDoorR1
namespace Go.Proofs.YtahlfafcjjkliaaGreatDoor
open Go.RowKit

set_option maxRecDepth 100000 in
set_option maxHeartbeats 16000000 in
theorem rtoucher_any {A : Option Addr} {n c : Nat} {ts : List TV} {p : ByteArray} {w : World} (hn : n ≤ 1000000) (h : RdS w w.heap.size A n c ts) :
    Calls Tryz.prog 28 #[.slice A n c, .string p] w (IntBelow (touchF (ts.map TV.l) p) w) := by
  have HL := Lib.hid h.len
  by_cases h0 : n = 0
  · have HO := Lib.hid (show touchF (ts.map TV.l) p = 0 by
      have : ts = [] := List.eq_nil_of_length_eq_zero (HL.out.trans h0)
      rw [this]; rfl)
    subst h0
    go_enter Tryz.func28, Tryz.ntmps28
    go_wp2
    go_loopw [5] (fun i wr => wr = w ∧ i = .int .i64 (-1)) (fun _ _ => 0)
    case atStart => exact ⟨rfl, rfl⟩
    case round =>
      obtain ⟨rfl, rfl⟩ := hrel
      go_wp2
      go_ret
      exact ⟨by rw [HO.out]; rfl, Below.refl _ _⟩
  · go_enter Tryz.func28, Tryz.ntmps28
    go_wp2
    go_loopw [5] (fun i wr => ∃ k : Nat, k < n ∧ i = .int .i64 k ∧ Below w.heap.size w wr ∧ Hid (touchFrom (ts.map TV.l) p k = touchF (ts.map TV.l) p)) (fun i _ => (intOf i).toNat)
    case atStart => exact ⟨n - 1, by omega, by go_num, Below.refl _ _, Lib.hid (by rw [touchF, List.length_map, HL.out])⟩
    case round =>
      obtain ⟨k, hk, rfl, hb, hT⟩ := hrel
      by_cases hk0 : k = 0
      · subst hk0
        have HO := Lib.hid (show touchF (ts.map TV.l) p = 0 from hT.out.symm)
        go_wp2
        go_ret
        exact ⟨by rw [HO.out]; rfl, hb⟩
      · obtain ⟨b0, o0, t, rfl, hbb, hx, ht, h1⟩ := h.get hk
        obtain ⟨_, _, s, e0, _, hy, hs, h2⟩ := h.get (k := k - 1) (by omega)
        cases e0
        have HX := Lib.hid hx
        have HY := Lib.hid hy
        obtain ⟨TA, tc, tl⟩ := t
        obtain ⟨SA, sc, sl⟩ := s
        dsimp only [TV.hdr] at h1 h2
        obtain ⟨ht1, ht2⟩ := ht
        obtain ⟨hs1, hs2⟩ := hs
        dsimp only at ht1 ht2 hs1 hs2
        have HST := Lib.hid (show touchFrom (ts.map TV.l) p k = if findP tl p = findP sl p then touchFrom (ts.map TV.l) p (k - 1) else k by
          obtain ⟨k', rfl⟩ : ∃ k', k = k' + 1 := ⟨k - 1, by omega⟩
          have g1 : (ts.map TV.l).getD (k' + 1) [] = tl := by rw [List.getD_eq_getElem?_getD, List.getElem?_map, HX.out]; rfl
          have g2 : (ts.map TV.l).getD k' [] = sl := by
            have hy' := HY.out
            rw [show k' + 1 - 1 = k' by omega] at hy'
            rw [List.getD_eq_getElem?_getD, List.getElem?_map, hy']; rfl
          rw [touchFrom, g1, g2]; rfl)
        clear hx hy
        generalize hfa : findP tl p = fa at *
        generalize hfb : findP sl p = fb at *
        have C1 := rfind_any (p := p) ht2 (ht1.to hb hb.size)
        rw [hfa] at C1
        clear hfa
        generalize hga : optF fa = ga at *
        generalize hia : fa.isSome = ia at *
        have h1' := (hb.cell (p := ⟨b0, o0 + k, none⟩) hbb).trans h1
        go_wp2_with fail
        refine C1.mono ?_
        rintro e x1 ⟨rfl, hx1⟩
        rw [hga, hia]
        have hb1 := hb.trans (hx1.mono hb.size)
        obtain ⟨x2, hx2⟩ : ∃ u, u = x1.alloc (.cells #[.string ga.path, .bool ga.exec, .string ga.text] 35) := ⟨_, rfl⟩
        have hb2 : Below w.heap.size w x2 := by rw [hx2]; exact hb1.alloc hb1.size _
        have xa : Box ga x1.heap.size x2 := by rw [hx2]; exact Box.new _ _
        have C2 := rfind_any (p := p) hs2 (hs1.to hb2 hb2.size)
        rw [hfb] at C2
        clear hfb
        generalize hgb : optF fb = gb at *
        generalize hib : fb.isSome = ib at *
        have h2' := (hb2.cell (p := ⟨b0, o0 + (k - 1), none⟩) hbb).trans h2
        have ek : ((k : Int) - 1).toNat = k - 1 := by omega
        rw [hx2] at h2'
        have HX2 := Lib.hid hx2
        clear hx2 C1 hx1 hb1 h1'
        go_wp2_with fail
        rw [← HX2.out]
        refine C2.mono ?_
        rintro e x3 ⟨rfl, hx3⟩
        rw [hgb, hib]
        have hb3 := hb2.trans (hx3.mono hb2.size)
        replace xa := xa.re hx3
        obtain ⟨x4, hx4⟩ : ∃ u, u = x3.alloc (.cells #[.string gb.path, .bool gb.exec, .string gb.text] 35) := ⟨_, rfl⟩
        have hx5 : Below x3.heap.size x3 x4 := by rw [hx4]; exact (Below.refl _ _).alloc (Nat.le_refl _) _
        have hb4 := hb3.trans (hx5.mono hb3.size)
        have xb : Box gb x3.heap.size x4 := by rw [hx4]; exact Box.new _ _
        replace xa := xa.re hx5
        have a0 := xa.2 0 _ rfl
        have a1 := xa.2 1 _ rfl
        have a2 := xa.2 2 _ rfl
        have c0 := xb.2 0 _ rfl
        have c1 := xb.2 1 _ rfl
        have c2 := xb.2 2 _ rfl
        rw [hx4] at a0 a1 a2 c0 c1 c2
        have HX4 := Lib.hid hx4
        have hE := fun u => run_neqF ga gb u
        have HD : fa = fb ↔ (decide (ga = gb) = true ∧ ia = ib) := by
          rw [ver_iff, decide_eq_true_eq, FV.eq_iff, ← hga, ← hgb, ← hia, ← hib]
          exact and_comm
        generalize decide (ga = gb) = d at *
        clear hga hgb hia hib hx4 hx3 hx5 hb3 hb2 xa xb C2 h2' ht1 hs1 h1 h2 h ht2 hs2 HX2 HX HY
        by_cases hq : fa = fb
        · have HN := Lib.hid (show touchFrom (ts.map TV.l) p (k - 1) = touchF (ts.map TV.l) p by rw [← hT.out, HST.out, if_pos hq])
          obtain ⟨rfl, rfl⟩ := HD.1 hq
          clear hq HD HST
          go_wp2
          rw [← HX4.out]
          go_roundw
          case rel => exact ⟨k - 1, by omega, by go_num, hb4, HN.out⟩
          case measure => simp [intOf]; omega
        · have HN := Lib.hid (show touchF (ts.map TV.l) p = k by rw [← hT.out, HST.out, if_neg hq])
          have hna : ¬ (d = true ∧ ia = ib) := fun e => hq (HD.2 e)
          clear hq HD HST
          have HNA := Lib.hid hna
          clear hna
          cases d with
          | false =>
            go_wp2
            go_ret
            exact ⟨by rw [HN.out]; rfl, by rw [← HX4.out]; exact hb4⟩
          | true =>
            have hni : ¬ ia = ib := fun e => HNA.out ⟨rfl, e⟩
            clear HNA
            cases ia <;> cases ib
            · exact absurd rfl hni
            · clear hni
              go_wp2
              go_ret
              exact ⟨by rw [HN.out]; rfl, by rw [← HX4.out]; exact hb4⟩
            · clear hni
              go_wp2
              go_ret
              exact ⟨by rw [HN.out]; rfl, by rw [← HX4.out]; exact hb4⟩
            · exact absurd rfl hni

set_option maxRecDepth 100000 in
set_option maxHeartbeats 16000000 in
theorem rsplit_any {A A' A'' : Option Addr} {n c n' c' m c'' : Nat} {a b : List FV} {ps : List ByteArray} {w : World} (hn : n ≤ 17592186044416) (hn' : n' ≤ 17592186044416) (hmp : m ≤ 1000000)
    (ha : RdF w w.heap.size A n c a) (hb : RdF w w.heap.size A' n' c' b) (hp : Rd w w.heap.size 1 A'' m c'' (ps.map .string)) :
    Calls Tryz.prog 23 #[.slice A n c, .slice A' n' c', .slice A'' m c''] w (FilesErr (splitF a b ps) w) := by
  have hw : Below w.heap.size w w := Below.refl _ _
  have HLa := Lib.hid ha.len
  have HLb := Lib.hid hb.len
  go_enter Tryz.func23, Tryz.ntmps23
  go_wp2_with fail
  refine (rright_any hn ha).mono ?_
  rintro e v1 ⟨rfl, hx⟩
  replace hw := hw.trans (hx.mono hw.size)
  replace ha := ha.to hx hx.size
  replace hb := hb.to hx hx.size
  replace hp := hp.to hx hx.size
  clear hx
  cases hta : treeOk a with
  | false =>
    have HO := Lib.hid (show splitF a b ps = ([], 5) by rw [splitF, if_pos (.inl hta)])
    clear hta
    go_wp2
    go_ret2
    exact filesErr_none HO.out hw
  | true =>
    have hal := treeOk_len hta
    rw [HLa.out] at hal
    go_wp2_with fail
    refine (rright_any hn' hb).mono ?_
    rintro e v2 ⟨rfl, hx⟩
    replace hw := hw.trans (hx.mono hw.size)
    replace ha := ha.to hx hx.size
    replace hb := hb.to hx hx.size
    replace hp := hp.to hx hx.size
    clear hx
    cases htb : treeOk b with
    | false =>
      have HO := Lib.hid (show splitF a b ps = ([], 5) by rw [splitF, if_pos (.inr htb)])
      clear hta htb
      go_wp2
      go_ret2
      exact filesErr_none HO.out hw
    | true =>
      have hbl := treeOk_len htb
      rw [HLb.out] at hbl
      have HO := Lib.hid (show splitF a b ps = if (applyF a (firstF (onlyF (changesF a b) ps))).2 ≠ 0 then ([], (applyF a (firstF (onlyF (changesF a b) ps))).2) else if (applyF a (firstF (onlyF (changesF a b) ps))).1 = a ∨ (applyF a (firstF (onlyF (changesF a b) ps))).1 = b then ([], 14) else ((applyF a (firstF (onlyF (changesF a b) ps))).1, 0) by rw [splitF, if_neg (by rw [hta, htb]; simp)])
      have hc1 := changesF_len a b
      rw [HLa.out, HLb.out] at hc1
      have ho1 := onlyF_len (changesF a b) ps
      have hf1 := firstF_len (onlyF (changesF a b) ps)
      have hx1 := applyF_len a (firstF (onlyF (changesF a b) ps))
      rw [HLa.out] at hx1
      clear hta htb
      go_wp2_with fail
      refine (rchanges_any (by omega) (by omega) ha hb).mono ?_
      rintro e v3 ⟨A1, c1, q, rfl, eq, hrq, hx⟩
      replace hw := hw.trans (hx.mono hw.size)
      replace ha := ha.to hx hx.size
      replace hb := hb.to hx hx.size
      replace hp := hp.to hx hx.size
      clear hx
      rw [← eq] at HO hc1 ho1 hf1 hx1
      clear eq
      go_wp2_with fail
      refine (ronly_any (by omega) (by omega) hrq hp).mono ?_
      rintro e v4 ⟨A2, c2, r, rfl, er, hrr, hx⟩
      replace hw := hw.trans (hx.mono hw.size)
      replace ha := ha.to hx hx.size
      replace hb := hb.to hx hx.size
      clear hx
      rw [← er] at HO ho1 hf1 hx1
      clear er hrq hp
      go_wp2_with fail
      refine (first_any (by omega) hrr).mono ?_
      rintro e v5 ⟨A3, c3, s, rfl, es, hrs, hx⟩
      replace hw := hw.trans (hx.mono hw.size)
      replace ha := ha.to hx hx.size
      replace hb := hb.to hx hx.size
      clear hx
      rw [← es] at HO hf1 hx1
      clear es hrr
      go_wp2_with fail
      refine (rapply_new (by omega) (by omega) ha hrs).mono ?_
      rintro e v6 ⟨A4, c4, rfl, hrx, hx, _⟩
      replace hw := hw.trans (hx.mono hw.size)
      replace ha := ha.to hx hx.size
      replace hb := hb.to hx hx.size
      clear hx
      clear hrs
      generalize applyF a s = x at *
      obtain ⟨x, xk⟩ := x
      dsimp only at hrx hx1 HO ⊢
      by_cases hz : xk = 0
      · subst hz
        go_wp2_with fail
        refine (plainF_any (by omega) (by omega) hrx.row ha.row rfl HLa.out).mono ?_
        rintro e v7 ⟨rfl, hx⟩
        replace hw := hw.trans (hx.mono hw.size)
        replace hb := hb.to hx hx.size
        replace hrx := hrx.to hx hx.size
        clear hx ha
        by_cases hxa : x = a
        · have HE := Lib.hid (show splitF a b ps = ([], 14) by rw [HO.out, if_neg (by simp), if_pos (.inl hxa)])
          rw [decide_eq_true hxa]
          clear hxa
          go_wp2
          go_ret2
          exact filesErr_none HE.out hw
        · rw [decide_eq_false hxa]
          have HXA := Lib.hid hxa
          clear hxa
          go_wp2_with fail
          refine (plainF_any (by omega) (by omega) hrx.row hb.row rfl HLb.out).mono ?_
          rintro e v8 ⟨rfl, hx⟩
          replace hw := hw.trans (hx.mono hw.size)
          replace hrx := hrx.to hx hx.size
          clear hx hb
          by_cases hxb : x = b
          · have HE := Lib.hid (show splitF a b ps = ([], 14) by rw [HO.out, if_neg (by simp), if_pos (.inr hxb)])
            rw [decide_eq_true hxb]
            clear hxb
            go_wp2
            go_ret2
            exact filesErr_none HE.out hw
          · have HE := Lib.hid (show splitF a b ps = (x, 0) by rw [HO.out, if_neg (by simp), if_neg (by rintro (h | h); exact HXA.out h; exact hxb h)])
            rw [decide_eq_false hxb]
            clear hxb
            go_wp2
            go_ret2
            exact filesErr_ok rfl HE.out hrx hw
      · have HE := Lib.hid (show splitF a b ps = ([], xk) by rw [HO.out, if_pos hz])
        clear hrx
        go_wp2
        go_ret2
        exact filesErr_none HE.out hw

/-! ### stacks held against each other -/
theorem stacks_ne {xs ys : List TV} {k : Nat} {x y : TV} (hx : xs[k]? = some x) (hy : ys[k]? = some y) (h : x.l ≠ y.l) : xs.map TV.l ≠ ys.map TV.l := fun e => by
  have h1 : (xs.map TV.l)[k]? = some x.l := by rw [List.getElem?_map, hx]; rfl
  rw [e, List.getElem?_map, hy] at h1
  exact h (by injection h1 with h1; exact h1.symm)
theorem stacks_eq {xs ys : List TV} {n : Nat} (hx : xs.length = n) (hy : ys.length = n) (h : ∀ j x y, j < n → xs[j]? = some x → ys[j]? = some y → x.l = y.l) : xs.map TV.l = ys.map TV.l := by
  refine List.ext_getElem? fun j => ?_
  rw [List.getElem?_map, List.getElem?_map]
  by_cases hj : j < n
  · rw [List.getElem?_eq_getElem (by omega : j < xs.length), List.getElem?_eq_getElem (by omega : j < ys.length)]
    exact congrArg some (h j _ _ hj (List.getElem?_eq_getElem _) (List.getElem?_eq_getElem _))
  · rw [List.getElem?_eq_none (by omega), List.getElem?_eq_none (by omega)]
set_option maxRecDepth 100000 in
set_option maxHeartbeats 8000000 in
theorem sameS_any {A B : Option Addr} {n ca m cb : Nat} {xs ys : List TV} {w : World} (hn : n ≤ 17592186044416) (hm : m ≤ 17592186044416) (ha : RdS w w.heap.size A n ca xs) (hb : RdS w w.heap.size B m cb ys) :
    Calls Tryz.prog 26 #[.slice A n ca, .slice B m cb, .func (.func 11) #[] #[]] w (BoolBelow (decide (xs.map TV.l = ys.map TV.l)) w) := by
  have HX := Lib.hid ha.len
  have HY := Lib.hid hb.len
  by_cases h : n = m
  · subst h
    go_enter Tryz.func26, Tryz.ntmps26
    go_wp2
    go_loopw [7] (fun i wr => ∃ k : Nat, k ≤ n ∧ i = .int .i64 k ∧ Below w.heap.size w wr ∧ Hid (∀ j x y, j < k → xs[j]? = some x → ys[j]? = some y → x.l = y.l)) (fun i _ => n - (intOf i).toNat)
    case atStart => exact ⟨0, Nat.zero_le _, rfl, Below.refl _ _, Lib.hid (fun j _ _ hj => absurd hj (Nat.not_lt_zero _))⟩
    case round =>
      obtain ⟨k, hk, rfl, hbw, hj⟩ := hrel
      by_cases hlt : k < n
      · obtain ⟨b0, o0, t, rfl, hbb, hx, ht, h1⟩ := ha.get hlt
        obtain ⟨b1, o1, s, rfl, hbb1, hy, hs, h2⟩ := hb.get hlt
        have HU := Lib.hid hx
        have HV := Lib.hid hy
        clear hx hy
        obtain ⟨TA, tc, tl⟩ := t
        obtain ⟨SA, sc, sl⟩ := s
        dsimp only [TV.hdr] at h1 h2
        obtain ⟨ht1, ht2⟩ := ht
        obtain ⟨hs1, hs2⟩ := hs
        dsimp only at ht1 ht2 hs1 hs2
        have hbd := hbw.drew
        have C := plainF_any ht2 hs2 (ht1.to hbd hbd.size).row (hs1.to hbd hbd.size).row rfl rfl
        go_wp2
        refine wp_region_q (fun w' => Below w.heap.size w w') [(true, 0), (true, 1), (true, 2), (true, 3), (true, 4), (true, 5), (true, 6), (true, 7), (true, 8), (false, 9), (true, 10)] mixed (by kernel_rfl) hbd ?_
        intro Tp F Q hT hT' hF hQ
        have m0 : F ⟨b0, o0 + k, none⟩ = some (.slice TA tl.length tc) := hF _ _ fun w' hw => (hw.cell (p := ⟨b0, o0 + k, none⟩) hbb).trans h1
        have m1 : F ⟨b1, o1 + k, none⟩ = some (.slice SA sl.length sc) := hF _ _ fun w' hw => (hw.cell (p := ⟨b1, o1 + k, none⟩) hbb1).trans h2
        clear hF
        simp only [qcmp, Nat.reduceBEq]
        simp (maxSteps := 5000000) only [↓qpre, qpost, qfacts, qnorm, m0, m1]
        refine ⟨⟨by omega, by omega⟩, ⟨by omega, by omega⟩, eff_call (by kernel_rfl) C rfl rfl ?_⟩
        rintro e w1 ⟨rfl, hx1⟩
        have hb1 := hbd.trans (hx1.mono hbd.size)
        refine ⟨_, rfl, hT _ hb1, ?_⟩
        simp (maxSteps := 5000000) only [↓qpre, qpost, qfacts, qnorm]
        refine hQ _ _ ?_
        clear hQ hT hT' m0 m1 C hx1
        by_cases hq : tl = sl
        · have HO := Lib.hid (show ∀ j x y, j < k + 1 → xs[j]? = some x → ys[j]? = some y → x.l = y.l from fun j x y hj' hx hy => by
            by_cases e : j = k
            · subst e
              rw [HU.out] at hx; rw [HV.out] at hy
              injection hx with hx; injection hy with hy
              rw [← hx, ← hy]; exact hq
            · exact hj.out j x y (by omega) hx hy)
          rw [decide_eq_true hq]
          clear hq
          go_wp2
          go_roundw
          case rel => exact ⟨k + 1, by omega, by go_num, hb1, HO.out⟩
          case measure => simp [intOf]; omega
        · have HO := Lib.hid (stacks_ne HU.out HV.out hq)
          rw [decide_eq_false hq]
          clear hq
          go_wp2
          go_ret
          exact ⟨ret_bool (decide_eq_false HO.out).symm, hb1⟩
      · obtain rfl : k = n := by omega
        have HO := Lib.hid (stacks_eq HX.out HY.out hj.out)
        go_wp2
        go_ret
        exact ⟨ret_bool (decide_eq_true HO.out).symm, hbw⟩
  · obtain ⟨h1, h2⟩ := int_ne (u := (n : Int)) (v := (m : Int)) (by omega)
    have HO := Lib.hid (show xs.map TV.l ≠ ys.map TV.l from fun e => h (by rw [← HX.out, ← HY.out, ← List.length_map (f := TV.l), e, List.length_map]))
    go_enter Tryz.func26, Tryz.ntmps26
    go_wp2
    go_ret
    exact ⟨ret_bool (decide_eq_false HO.out).symm, Below.refl _ _⟩
set_option maxRecDepth 100000 in
set_option maxHeartbeats 8000000 in
theorem equalS_any {A B : Option Addr} {n ca cb : Nat} {xs ys : List TV} {w : World} (hn : n ≤ 17592186044416) (ha : RdS w w.heap.size A n ca xs) (hb : RdS w w.heap.size B n cb ys) :
    Calls Tryz.prog 54 #[.slice A n ca, .slice B n cb, .func (.func 32) #[] #[]] w (BoolBelow (decide (xs.map TV.l = ys.map TV.l)) w) := by
  have HX := Lib.hid ha.len
  have HY := Lib.hid hb.len
  go_enter Tryz.func54, Tryz.ntmps54
  go_wp2
  go_loopw [17] (fun i wr => ∃ k : Nat, k ≤ n ∧ i = .int .i64 k ∧ Below w.heap.size w wr ∧ Hid (∀ j x y, j < k → xs[j]? = some x → ys[j]? = some y → x.l = y.l)) (fun i _ => n - (intOf i).toNat)
  case atStart => exact ⟨0, Nat.zero_le _, rfl, Below.refl _ _, Lib.hid (fun j _ _ hj => absurd hj (Nat.not_lt_zero _))⟩
  case round =>
    obtain ⟨k, hk, rfl, hbw, hj⟩ := hrel
    by_cases hlt : k < n
    · obtain ⟨b0, o0, t, rfl, hbb, hx, ht, h1⟩ := ha.get hlt
      obtain ⟨b1, o1, s, rfl, hbb1, hy, hs, h2⟩ := hb.get hlt
      have HU := Lib.hid hx
      have HV := Lib.hid hy
      clear hx hy
      obtain ⟨TA, tc, tl⟩ := t
      obtain ⟨SA, sc, sl⟩ := s
      dsimp only [TV.hdr] at h1 h2
      obtain ⟨ht1, ht2⟩ := ht
      obtain ⟨hs1, hs2⟩ := hs
      dsimp only at ht1 ht2 hs1 hs2
      replace h1 := (hbw.cell (p := ⟨b0, o0 + k, none⟩) hbb).trans h1
      replace h2 := (hbw.cell (p := ⟨b1, o1 + k, none⟩) hbb1).trans h2
      have C := treeSame_any ht2 hs2 (ht1.to hbw hbw.size) (hs1.to hbw hbw.size)
      go_wp2_with fail
      refine C.mono ?_
      rintro e w1 ⟨rfl, hx1⟩
      have hb1 := hbw.trans (hx1.mono hbw.size)
      clear C hx1 h1 h2
      by_cases hq : tl = sl
      · have HO := Lib.hid (show ∀ j x y, j < k + 1 → xs[j]? = some x → ys[j]? = some y → x.l = y.l from fun j x y hj' hx hy => by
          by_cases e : j = k
          · subst e
            rw [HU.out] at hx; rw [HV.out] at hy
            injection hx with hx; injection hy with hy
            rw [← hx, ← hy]; exact hq
          · exact hj.out j x y (by omega) hx hy)
        rw [decide_eq_true hq]
        clear hq
        go_wp2
        go_roundw
        case rel => exact ⟨k + 1, by omega, by go_num, hb1, HO.out⟩
        case measure => simp [intOf]; omega
      · have HO := Lib.hid (stacks_ne HU.out HV.out hq)
        rw [decide_eq_false hq]
        clear hq
        go_wp2
        go_ret
        exact ⟨ret_bool (decide_eq_false HO.out).symm, hb1⟩
    · obtain rfl : k = n := by omega
      have HO := Lib.hid (stacks_eq HX.out HY.out hj.out)
      go_wp2
      go_ret
      exact ⟨ret_bool (decide_eq_true HO.out).symm, hbw⟩
end Go.Proofs.YtahlfafcjjkliaaGreatDoor
namespace Go.Proofs.YtahlfafcjjkliaaGreatDoor
open Go.RowKit

/-- One change, from a tree of the stack on. -/
noncomputable def absFrom (c : ChV) : List (List FV) → Nat → Nat → List (List FV) × Int
  | out, _, 0 => (out, 0)
  | out, k, m + 1 => if (applyF (out.getD k []) [c]).2 = 0 then absFrom c (out.set k (applyF (out.getD k []) [c]).1) (k + 1) m else ([], (applyF (out.getD k []) [c]).2)
noncomputable def absOne (L out : List (List FV)) (c : ChV) : List (List FV) × Int :=
  if touchF L c.path = 0 then (out, 0) else absFrom c out (touchF L c.path) (out.length - touchF L c.path)
noncomputable def absAll (L : List (List FV)) : List (List FV) → List ChV → List (List FV) × Int
  | out, [] => (out, 0)
  | out, c :: cs => if (absOne L out c).2 = 0 then absAll L (absOne L out c).1 cs else ([], (absOne L out c).2)
open Classical in
noncomputable def absorbF (L : List (List FV)) (cs : List ChV) : List (List FV) × Int :=
  if L.length < 2 ∨ L.any (fun t => !treeOk t) = true then ([], 5) else
  if (absAll L L cs).2 ≠ 0 then ([], (absAll L L cs).2) else if (absAll L L cs).1 = L then ([], 14) else ((absAll L L cs).1, 0)
theorem absFrom_len (c : ChV) : ∀ (m : Nat) (out : List (List FV)) (k : Nat), (absFrom c out k m).2 = 0 → (absFrom c out k m).1.length = out.length
  | 0, out, k, _ => rfl
  | m + 1, out, k, h => by
    rw [absFrom] at h ⊢
    split at h
    · rename_i h1
      rw [if_pos h1, absFrom_len c m _ _ h, List.length_set]
    · rename_i h1
      exact absurd h h1
theorem absOne_len {L out : List (List FV)} {c : ChV} (h : (absOne L out c).2 = 0) : (absOne L out c).1.length = out.length := by
  unfold absOne at h ⊢
  split
  · rfl
  · rename_i h1; rw [if_neg h1] at h; exact absFrom_len c _ _ _ h
theorem touchF_lt {L : List (List FV)} {p : ByteArray} (h : 0 < L.length) : touchF L p < L.length := by
  have := touchFrom_le L p (L.length - 1)
  unfold touchF; omega

/-! ### a row of headers that is written -/
theorem TV.In.setRow {w : World} {g : Nat} {cs : Array Value} {t : TV} (h : t.In w w.heap.size) (hne : ∀ b o s, t.A = some ⟨b, o, s⟩ → 0 < t.l.length → b ≠ g) : t.In (w.setRow g cs) (w.setRow g cs).heap.size := by
  obtain ⟨q1, q2⟩ := h
  have hz : (w.setRow g cs).heap.size = w.heap.size := by simp [World.setRow]
  refine ⟨⟨⟨q1.row.len, q1.row.cap, fun h0 => ?_⟩, q1.len, q1.fits⟩, q2⟩
  obtain ⟨b, o, hA, hlt, hc⟩ := q1.row.at_ h0
  refine ⟨b, o, hA, by rw [hz]; exact hlt, fun j u hu => ?_⟩
  rw [cell_setRow_other w g cs ⟨b, o + j, none⟩ (hne b o none hA h0)]
  exact hc j u hu
structure OutRow (w : World) (g n : Nat) (us : List TV) : Prop where
  row : ∃ cur, w.heap[g]? = some (.cells cur 22 (0, 0)) ∧ n ≤ cur.size ∧ cur.toList.take n = us.map TV.hdr
  len : us.length = n
  trees : ∀ t ∈ us, t.In w w.heap.size ∧ ∀ b o s, t.A = some ⟨b, o, s⟩ → 0 < t.l.length → b ≠ g
theorem OutRow.lt {w : World} {g n : Nat} {us : List TV} (h : OutRow w g n us) : g < w.heap.size := by
  obtain ⟨cur, hg, _⟩ := h.row
  exact (Array.getElem?_eq_some_iff.1 hg).1
theorem OutRow.to {w w' : World} {g n : Nat} {us : List TV} (h : OutRow w g n us) (hb : Below w.heap.size w w') : OutRow w' g n us := by
  obtain ⟨cur, hg, h1, h2⟩ := h.row
  exact ⟨⟨cur, (hb.block g h.lt).trans hg, h1, h2⟩, h.len, fun t ht => ⟨⟨(h.trees t ht).1.1.to hb hb.size, (h.trees t ht).1.2⟩, (h.trees t ht).2⟩⟩
theorem OutRow.get {w : World} {g n : Nat} {us : List TV} (h : OutRow w g n us) {k : Nat} (hk : k < n) :
    ∃ t, us[k]? = some t ∧ t.In w w.heap.size ∧ w.cell? ⟨g, k, none⟩ = some t.hdr := by
  obtain ⟨cur, hg, h1, h2⟩ := h.row
  have hl := h.len
  have hu : us[k]? = some (us[k]'(by omega)) := List.getElem?_eq_getElem _
  refine ⟨_, hu, (h.trees _ (List.getElem_mem _)).1, ?_⟩
  have h3 : (cur.toList.take n)[k]? = some (us[k]'(by omega)).hdr := by rw [h2, List.getElem?_map, hu]; rfl
  rw [List.getElem?_take_of_lt hk, Array.getElem?_toList] at h3
  rw [World.cell?, hg]
  exact h3
theorem OutRow.rdS {w : World} {g n c : Nat} {us : List TV} (h : OutRow w g n us) (hc : n ≤ c) : RdS w w.heap.size (some ⟨g, 0, none⟩) n c us := by
  refine ⟨⟨by rw [List.length_map, h.len, Nat.mul_one], hc, fun _ => ⟨g, 0, rfl, h.lt, fun j u hu => ?_⟩⟩, h.len, fun t ht => (h.trees t ht).1⟩
  have hj : j < n := by have := (List.getElem?_eq_some_iff.1 hu).1; rw [List.length_map, h.len] at this; exact this
  obtain ⟨t, h1, _, h3⟩ := h.get hj
  rw [List.getElem?_map, h1] at hu
  rw [Nat.zero_add, h3]
  exact hu
theorem take_put {α : Type} {l : List α} {xs : List α} {n k : Nat} {v : α} (h : l.take n = xs) (hn : n ≤ l.length) (hk : k < n) : (l.take k ++ [v] ++ l.drop (k + 1)).take n = xs.set k v := by
  subst h
  refine List.ext_getElem? fun j => ?_
  rw [List.getElem?_set]
  by_cases hj : j < n
  · rw [List.getElem?_take_of_lt hj, List.getElem?_take_of_lt hj]
    rcases Nat.lt_trichotomy j k with h1 | h1 | h1
    · rw [if_neg (by omega), List.append_assoc, List.getElem?_append_left (by rw [List.length_take]; omega), List.getElem?_take_of_lt h1]
    · subst h1
      rw [if_pos rfl, if_pos (by rw [List.length_take]; omega), List.getElem?_append_left (by rw [List.length_append, List.length_take, List.length_singleton]; omega), List.getElem?_append_right (by rw [List.length_take]; omega), List.length_take]
      rw [show j - min j l.length = 0 by omega]; rfl
    · rw [if_neg (by omega), List.getElem?_append_right (by rw [List.length_append, List.length_take, List.length_singleton]; omega), List.length_append, List.length_take, List.length_singleton, List.getElem?_drop]
      rw [show k + 1 + (j - (min k l.length + 1)) = j by omega]
  · rw [List.getElem?_eq_none (by rw [List.length_take]; omega), if_neg (by omega), List.getElem?_eq_none (by rw [List.length_take]; omega)]
theorem OutRow.set {w : World} {g n k : Nat} {us : List TV} {t : TV} {cur : Array Value} (h : OutRow w g n us) (hk : k < n) (ht : t.In w w.heap.size) (hne : ∀ b o s, t.A = some ⟨b, o, s⟩ → 0 < t.l.length → b ≠ g)
    (hg : w.heap[g]? = some (.cells cur 22 (0, 0))) : OutRow (w.setRow g (cur.toList.take k ++ #[t.hdr].toList ++ cur.toList.drop (k + #[t.hdr].size)).toArray) g n (us.set k t) := by
  obtain ⟨cur', hg', h1, h2⟩ := h.row
  rw [hg] at hg'
  injection hg' with hg'
  injection hg' with hg'
  subst hg'
  refine ⟨⟨_, setRow_heap _ _ _ _ _ _ hg, ?_, ?_⟩, by rw [List.length_set]; exact h.len, fun s hs => ?_⟩
  · have h3 : cur.toList.length = cur.size := Array.length_toList
    simp only [List.size_toArray, List.length_append, List.length_take, List.length_drop, h3]
    show n ≤ min k cur.size + 1 + (cur.size - (k + 1))
    omega
  · rw [List.map_set]
    exact take_put h2 (by rw [Array.length_toList]; exact h1) hk
  · rcases List.mem_or_eq_of_mem_set hs with hs | rfl
    · exact ⟨(h.trees s hs).1.setRow (h.trees s hs).2, (h.trees s hs).2⟩
    · exact ⟨ht.setRow hne, hne⟩
/-- A store of a one-cell value within a row. -/
theorem wpl_store_one {P : Program} {w : World} {a : Act} {ops : Array Oper} {rest : List Oper} {o : Oper} {Q : Exit → Act → World → Prop} (hgd : o.guard = none) (t : TypeId) (x y : Operand)
    (ho : o.op = .store t x y) {g d : Nat} {e : TypeId} {cur : Array Value} {v : Value} (hi : (P.info? t).map (·.size) = some 1) (hx : a.eval x = .pointer (some ⟨g, d, none⟩)) (hy : a.eval y = v) (hv : v.cells = #[v])
    (hg : w.heap[g]? = some (.cells cur e (0, 0))) (hfit : d + 1 ≤ cur.size) (h1 : v.oneCell' = true)
    (hK : wpList P ops Q rest (a.put o.dst undef) (w.setRow g (cur.toList.take d ++ #[v].toList ++ cur.toList.drop (d + #[v].size)).toArray)) : wpList P ops Q (o :: rest) a w := by
  refine wpList_plain hgd fun K hK' => ?_
  have hr := run_storeCells_at P g d e [v] 0 cur w hg (by simpa using hfit) (by simpa using h1)
  obtain ⟨i, hi1, hi2⟩ := Option.map_eq_some_iff.1 hi
  unfold Oper.wp execOp
  have hst : (storeVar t ⟨g, d, none⟩ v).run P w = .ok () (w.setRow g (cur.toList.take d ++ #[v].toList ++ cur.toList.drop (d + #[v].size)).toArray) := by
    simp only [Nat.add_zero] at hr
    simp [storeVar, sizeOf, typeInfo, hi1, hi2, hv, hr]
  simp only [ho, hx, hy, Instr.storeAt, Instr.sureAddr, Sem.run_bind, Sem.run_pure, Result.andThen_ok, hst]
  exact hK' _ _ hK
/-- A stack, or why none. -/
def StackErr (r : List (List FV) × Int) (w : World) (e : Ending) (w' : World) : Prop :=
  ∃ (A : Option Addr) (c : Nat) (us : List TV), e = .returned (.tuple #[.slice A us.length c, .int .i64 r.2]) ∧ us.map TV.l = r.1 ∧ RdS w' w'.heap.size A us.length c us ∧ Below w.heap.size w w'
theorem RdS.none_ (w : World) (B : Nat) : RdS w B none 0 0 [] := ⟨Rd.none_ _ _ _, rfl, by simp⟩
theorem stackErr_none {r : List (List FV) × Int} {k : Int} {w w' : World} (h : r = ([], k)) (hb : Below w.heap.size w w') : StackErr r w (.returned (.tuple #[.slice none 0 0, .int .i64 k])) w' := by
  subst h
  exact ⟨none, 0, [], rfl, rfl, RdS.none_ _ _, hb⟩
theorem stackErr_ok {r : List (List FV) × Int} {A : Option Addr} {c n : Nat} {us : List TV} {w w' : World} (h : r = (us.map TV.l, 0)) (hr : RdS w' w'.heap.size A n c us) (hb : Below w.heap.size w w') : StackErr r w (.returned (.tuple #[.slice A n c, .int .i64 0])) w' := by
  subst h
  have hn := hr.len
  subst hn
  exact ⟨A, c, us, rfl, rfl, hr, hb⟩
theorem rdC_cut {w : World} {B n c l k : Nat} {A : Option Addr} {xs : List ChV} (h : RdC w B A n c xs) (hl : l ≤ k) (hk : k ≤ n) :
    ∃ A', sliced A l k c 4 = .slice A' (k - l) (c - l) ∧ RdC w B A' (k - l) (c - l) ((xs.take k).drop l) := by
  refine ⟨_, rfl, ?_, ?_, fun f hf => h.fits f (List.mem_of_mem_take (List.mem_of_mem_drop hf))⟩
  · have := h.row.cut hl hk
    rw [T.flat_take ChV.cells_len, T.flat_drop ChV.cells_len] at this
    exact this
  · rw [List.length_drop, List.length_take, h.len]; omega
theorem drop_take_one' {α : Type} {l : List α} {r : Nat} {p : α} (h : l[r]? = some p) : (l.take (r + 1)).drop r = [p] := by
  have hr := (List.getElem?_eq_some_iff.1 h).1
  rw [List.take_add_one, h]
  exact List.drop_left' (by rw [List.length_take]; omega)
end Go.Proofs.YtahlfafcjjkliaaGreatDoor
namespace Go.Proofs.YtahlfafcjjkliaaGreatDoor
open Go.RowKit

theorem absorbF_bad {L : List (List FV)} {cs : List ChV} {t : List FV} (ht : t ∈ L) (hb : treeOk t = false) : absorbF L cs = ([], 5) := by
  rw [absorbF, if_pos]
  exact .inr (List.any_eq_true.2 ⟨t, ht, by rw [hb]; rfl⟩)
theorem absorbF_short {L : List (List FV)} {cs : List ChV} (h : L.length < 2) : absorbF L cs = ([], 5) := by
  rw [absorbF, if_pos (.inl h)]
open Classical in
theorem absorbF_go {L : List (List FV)} {cs : List ChV} (h : ¬ L.length < 2) (ht : ∀ t ∈ L, treeOk t = true) :
    absorbF L cs = if (absAll L L cs).2 ≠ 0 then ([], (absAll L L cs).2) else if (absAll L L cs).1 = L then ([], 14) else ((absAll L L cs).1, 0) := by
  rw [absorbF, if_neg]
  rintro (h1 | h1)
  · exact h h1
  · obtain ⟨t, h2, h3⟩ := List.any_eq_true.1 h1
    rw [ht t h2] at h3; cases h3
theorem absAll_next {L out : List (List FV)} {cs : List ChV} {k : Nat} {x : ChV} (h : cs[k]? = some x) :
    absAll L out (cs.drop k) = if (absOne L out x).2 = 0 then absAll L (absOne L out x).1 (cs.drop (k + 1)) else ([], (absOne L out x).2) := by
  obtain ⟨hk, e⟩ := List.getElem?_eq_some_iff.1 h
  rw [List.drop_eq_getElem_cons hk, e]; rfl
theorem absFrom_next {c : ChV} {out : List (List FV)} {k n : Nat} {t : List FV} (hk : k < n) (ht : out[k]? = some t) :
    absFrom c out k (n - k) = if (applyF t [c]).2 = 0 then absFrom c (out.set k (applyF t [c]).1) (k + 1) (n - (k + 1)) else ([], (applyF t [c]).2) := by
  obtain ⟨m, hm⟩ : ∃ m, n - k = m + 1 := ⟨n - k - 1, by omega⟩
  have hg : out.getD k [] = t := by rw [List.getD_eq_getElem?_getD, ht]; rfl
  rw [hm, absFrom, hg, show n - (k + 1) = m by omega]

theorem applyGo_tree : ∀ (cs : List ChV) {l : List FV}, treeOk l = true → (applyGo l cs).2 = 0 → treeOk (applyGo l cs).1 = true
  | [], l, h, _ => h
  | x :: cs, l, h, h0 => by
    rw [applyGo] at h0 ⊢
    split at h0
    · rename_i h1
      rw [if_pos h1]
      exact applyGo_tree cs (applyOne_tree h1) h0
    · rename_i h1
      exact absurd h0 h1
theorem applyF_tree {l : List FV} {cs : List ChV} (h : (applyF l cs).2 = 0) : treeOk (applyF l cs).1 = true := by
  unfold applyF at h ⊢
  split at h
  · cases h
  · rename_i h1
    rw [if_neg h1]
    split at h
    · cases h
    · rename_i h2
      rw [if_neg h2]
      exact applyGo_tree cs (by simpa using h1) h
set_option maxRecDepth 100000 in
set_option maxHeartbeats 32000000 in
theorem rabsorb_any {A A' : Option Addr} {n c n' c' : Nat} {ts : List TV} {cs : List ChV} {w : World} (hn : n ≤ 1000000) (hn' : n' ≤ 17592186044416) (h : RdS w w.heap.size A n c ts) (h' : RdC w w.heap.size A' n' c' cs) :
    Calls Tryz.prog 25 #[.slice A n c, .slice A' n' c'] w (StackErr (absorbF (ts.map TV.l) cs) w) := by
  have HL := Lib.hid h.len
  have HL' := Lib.hid h'.len
  go_enter Tryz.func25, Tryz.ntmps25
  go_wp2
  go_loopw [6] (fun i wr => ∃ k : Nat, k ≤ n ∧ i = .int .i64 k ∧ Below w.heap.size w wr ∧ Hid (∀ j t, j < k → ts[j]? = some t → treeOk t.l = true)) (fun i _ => n - (intOf i).toNat)
  case atStart => exact ⟨0, Nat.zero_le _, rfl, Below.refl _ _, Lib.hid (fun j t hj => absurd hj (Nat.not_lt_zero _))⟩
  case round =>
    obtain ⟨k, hk, rfl, hb, hT⟩ := hrel
    by_cases hlt : k < n
    · obtain ⟨b0, o0, t, rfl, hbb, hx, ht, h1⟩ := h.get hlt
      have HX := Lib.hid hx
      clear hx
      obtain ⟨TA, tc, tl⟩ := t
      dsimp only [TV.hdr] at h1
      obtain ⟨ht1, ht2⟩ := ht
      dsimp only at ht1 ht2
      replace h1 := (hb.cell (p := ⟨b0, o0 + k, none⟩) hbb).trans h1
      go_wp2_with fail
      refine (rright_any ht2 (ht1.to hb hb.size)).mono ?_
      rintro e w1 ⟨rfl, hx⟩
      have hb1 := hb.trans (hx.mono hb.size)
      clear hx h1
      cases hok : treeOk tl with
      | false =>
        have HO := Lib.hid (show absorbF (ts.map TV.l) cs = ([], 5) from absorbF_bad (List.mem_map.2 ⟨_, List.mem_of_getElem? HX.out, rfl⟩) hok)
        clear hok
        go_wp2
        go_ret2
        exact stackErr_none HO.out hb1
      | true =>
        have HO := Lib.hid (show ∀ j t, j < k + 1 → ts[j]? = some t → treeOk t.l = true from fun j t hj hx => by
          by_cases e : j = k
          · subst e; rw [HX.out] at hx; injection hx with hx; rw [← hx]; exact hok
          · exact hT.out j t (by omega) hx)
        clear hok
        go_wp2
        go_roundw
        case rel => exact ⟨k + 1, by omega, by go_num, hb1, HO.out⟩
        case measure => simp [intOf]; omega
    · obtain rfl : k = n := by omega
      have HT := Lib.hid (show ∀ t ∈ ts.map TV.l, treeOk t = true from fun t ht => by
        obtain ⟨s, hs, rfl⟩ := List.mem_map.1 ht
        obtain ⟨j, hj, rfl⟩ := List.getElem_of_mem hs
        exact hT.out j _ (by rw [← HL.out]; exact hj) (List.getElem?_eq_getElem _))
      clear hT
      by_cases h2 : k < 2
      · have HO := Lib.hid (show absorbF (ts.map TV.l) cs = ([], 5) from absorbF_short (by rw [List.length_map, HL.out]; exact h2))
        go_wp2
        go_ret2
        exact stackErr_none HO.out hb
      · have HO := Lib.hid (absorbF_go (cs := cs) (by rw [List.length_map, HL.out]; exact h2) HT.out)
        have hrow := (h.to hb hb.size).row
        go_wp2_with (at_builtin; refine wpl_append rfl (.const (.slice none 0 0)) (.tmp 30) 41 rfl E_stack rfl rfl (World.ownsRow_nil wr wr.heap.size _ _) hrow (one_hdrs _) (by unfold maxLen; omega) (by omega) (Nat.le_refl _) ?_; intro v1 w1 ho hg1 hv1)
        rw [Nat.zero_add, List.nil_append] at ho
        have hw1 : Below wr.heap.size wr w1 := (Below.refl _ _).grown hg1 (Nat.le_refl _) (fun g hg => by cases hg)
        have hb1 : Below w.heap.size w w1 := hb.trans (hw1.mono hb.size)
        rcases ho.2 with ⟨_, h0⟩ | ⟨g, cap, cur, rfl, hgb, hg, hnc, hcm, hcs, htake⟩
        · omega
        have hsw := hb.size
        have hwg : w.heap.size ≤ g := by omega
        have hOut : OutRow w1 g k ts := ⟨⟨cur, hg, by omega, by rw [← htake, Nat.mul_one]⟩, HL.out, fun t ht => ⟨⟨((h.trees t ht).1).to hb1 hb1.size, (h.trees t ht).2⟩, fun b o s hA h0 => by
          obtain ⟨b', o', hA', hlt', _⟩ := (h.trees t ht).1.row.at_ h0
          rw [hA'] at hA
          injection hA with hA
          injection hA with hA1 _ _
          omega⟩⟩
        clear ho hg1 hv1 hrow hg hcs htake hcm hw1
        go_wp2
        go_loopw [8] (fun i wr' => ∃ (j : Nat) (us : List TV), j ≤ n' ∧ i = .int .i64 j ∧ OutRow wr' g k us ∧ Below w.heap.size w wr' ∧ Hid (absAll (ts.map TV.l) (us.map TV.l) (cs.drop j) = absAll (ts.map TV.l) (ts.map TV.l) cs)) (fun i _ => n' - (intOf i).toNat)
        case atStart => exact ⟨0, ts, by omega, rfl, hOut, hb1, Lib.hid (by rw [List.drop_zero])⟩
        case round =>
          clear hOut hb1 hb
          obtain ⟨j, us, hj, rfl, hOut, hb, HA⟩ := hrel
          have HUL := Lib.hid hOut.len
          by_cases hlt2 : j < n'
          · obtain ⟨b2, o2, x, rfl, hbb2, hx, hxm, k0, k1, k2, k3⟩ := h'.get hlt2
            have HX := Lib.hid hx
            clear hx k1 k2 k3
            have k0' := (hb.cell (p := ⟨b2, o2 + j * 4, none⟩) hbb2).trans k0
            have HF1 := touchF_lt (L := ts.map TV.l) (p := x.path) (by rw [List.length_map, HL.out]; omega)
            rw [List.length_map, HL.out] at HF1
            have C := rtoucher_any (p := x.path) hn (h.to hb hb.size)
            have HN := Lib.hid (absAll_next (L := ts.map TV.l) (out := us.map TV.l) HX.out)
            have HONE := Lib.hid (show absOne (ts.map TV.l) (us.map TV.l) x = if touchF (ts.map TV.l) x.path = 0 then (us.map TV.l, 0) else absFrom x (us.map TV.l) (touchF (ts.map TV.l) x.path) (k - touchF (ts.map TV.l) x.path) by rw [absOne, List.length_map, HUL.out])
            generalize touchF (ts.map TV.l) x.path = F at *
            go_wp2_with fail
            refine C.mono ?_
            rintro e w2 ⟨rfl, hx2⟩
            have hb2 := hb.trans (hx2.mono hb.size)
            have hO2 := hOut.to hx2
            clear C hx2 hb k0' hOut
            by_cases hF : F = 0
            · subst hF
              have HE := Lib.hid (show absAll (ts.map TV.l) (us.map TV.l) (cs.drop (j + 1)) = absAll (ts.map TV.l) (ts.map TV.l) cs by rw [← HA.out, HN.out, HONE.out, if_pos rfl, if_pos rfl])
              go_wp2
              go_loopw [10] (fun _ wr' => wr' = w2) (fun _ _ => 0)
              case atStart => rfl
              case round =>
                obtain rfl := hrel
                go_wp2
                go_roundw
                case rel => exact ⟨j + 1, us, by omega, by go_num, hO2, hb2, HE.out⟩
                case measure => simp [intOf]; omega
            · have HONE2 := Lib.hid (show absOne (ts.map TV.l) (us.map TV.l) x = absFrom x (us.map TV.l) F (k - F) by rw [HONE.out, if_neg hF])
              go_wp2
              go_loopw [10] (fun i wr' => ∃ (q : Nat) (vs : List TV), F ≤ q ∧ q ≤ k ∧ i = .int .i64 q ∧ OutRow wr' g k vs ∧ Below w.heap.size w wr' ∧ Hid (absFrom x (vs.map TV.l) q (k - q) = absFrom x (us.map TV.l) F (k - F))) (fun i _ => k - (intOf i).toNat)
              case atStart => exact ⟨F, us, Nat.le_refl _, by omega, rfl, hO2, hb2, Lib.hid rfl⟩
              case round =>
                clear hO2 hb2
                obtain ⟨q, vs, hFq, hqk, rfl, hO, hb, HQ⟩ := hrel
                by_cases hlt3 : q < k
                · obtain ⟨t, ht, htI, hc⟩ := hO.get hlt3
                  obtain ⟨TA, tc, tl⟩ := t
                  dsimp only [TV.hdr] at hc
                  obtain ⟨ht1, ht2⟩ := htI
                  dsimp only at ht1 ht2
                  have HTL := Lib.hid (absFrom_next (c := x) (n := k) (out := vs.map TV.l) hlt3 (show (vs.map TV.l)[q]? = some tl by rw [List.getElem?_map, ht]; rfl))
                  clear ht
                  have hgl := hO.lt
                  have hcc := h'.row.cap
                  go_wp2
                  refine wp_region_q (fun w' => Below wr.heap.size wr w') [(true, 0), (true, 1), (true, 2), (true, 3), (true, 4), (true, 5), (true, 6), (true, 7), (true, 8), (false, 9), (true, 10), (true, 11), (true, 12), (true, 13), (true, 14)] mixed (by kernel_rfl) (Below.refl _ _).drew ?_
                  intro Tp M Q hT1 hT2 hM hQ
                  have m0 : M ⟨g, q, none⟩ = some (.slice TA tl.length tc) := hM _ _ fun w' hw => (hw.cell (p := ⟨g, q, none⟩) hgl).trans hc
                  have ej : ((j : Int) + 1).toNat = j + 1 := by omega
                  simp only [qcmp, Nat.reduceBEq]
                  simp (maxSteps := 5000000) only [↓qpre, qpost, qfacts, qnorm, m0, ej]
                  have hbd : Below wr.heap.size wr wr.drew := (Below.refl _ _).drew
                  have hbw := hb.drew
                  obtain ⟨A3, q3, r3⟩ := rdC_cut (h'.to hbw hbw.size) (l := j) (k := j + 1) (by omega) (by omega)
                  rw [q3]
                  rw [drop_take_one' HX.out] at r3
                  clear q3 m0 hM hc
                  refine ⟨⟨by omega, by omega⟩, ⟨by omega, by omega⟩, ⟨by omega, by omega, by omega⟩, ?_⟩
                  refine eff_call (by kernel_rfl) (rapply_new ht2 (by omega) (ht1.to hbd hbd.size) r3) rfl rfl ?_
                  rintro e w4 ⟨A4, c4, rfl, h4, hx4, hN4⟩
                  have hb5 : Below wr.heap.size wr w4 := hbd.trans (hx4.mono hbd.size)
                  have hb6 := hb.trans (hb5.mono hb.size)
                  have htr := applyF_tree (l := tl) (cs := [x])
                  have hzd := hbd.size
                  generalize applyF tl [x] = r at *
                  obtain ⟨rl, rk⟩ := r
                  dsimp only at h4 HTL htr ⊢
                  refine ⟨_, rfl, hT1 _ hb5, ?_⟩
                  simp (maxSteps := 5000000) only [↓qpre, qpost, qfacts, qnorm]
                  refine hQ _ _ ?_
                  clear hQ hT1 hT2 r3 ht1 hx4 hbw hbd
                  by_cases hz : rk = 0
                  · subst hz
                    have hO4 := hO.to hb5
                    obtain ⟨cur, hg, hsz, _⟩ := hO4.row
                    have hlen := treeOk_len (htr rfl)
                    have hO5 := hO4.set (t := ⟨A4, c4, rl⟩) hlt3 ⟨h4, by show rl.length ≤ _; omega⟩ (fun b o s hA _ e => by have := hN4 b o s hA; omega) hg
                    have hb7 := below_setRow (cs := (cur.toList.take q ++ #[(⟨A4, c4, rl⟩ : TV).hdr].toList ++ cur.toList.drop (q + #[(⟨A4, c4, rl⟩ : TV).hdr].size)).toArray) hb6 hwg
                    generalize hW5 : w4.setRow g (cur.toList.take q ++ #[(⟨A4, c4, rl⟩ : TV).hdr].toList ++ cur.toList.drop (q + #[(⟨A4, c4, rl⟩ : TV).hdr].size)).toArray = W5 at *
                    have HW5 := Lib.hid hW5
                    have HE := Lib.hid (show absFrom x ((vs.set q ⟨A4, c4, rl⟩).map TV.l) (q + 1) (k - (q + 1)) = absFrom x (us.map TV.l) F (k - F) by
                      rw [List.map_set, ← HQ.out, HTL.out, if_pos rfl])
                    clear hW5 htr hO4 hO h4 hN4 hb6 hb5 hb
                    go_wp2_with (refine wpl_store_one rfl 22 (.tmp 75) (.tmp 74) rfl (v := (⟨A4, c4, rl⟩ : TV).hdr) (by kernel_rfl) rfl rfl rfl hg (by omega) rfl ?_; rw [HW5.out])
                    go_roundw
                    case rel => exact ⟨q + 1, _, by omega, by omega, by go_num, hO5, hb7, HE.out⟩
                    case measure => simp [intOf]; omega
                  · have HE := Lib.hid (show absorbF (ts.map TV.l) cs = ([], rk) by
                      have e1 : absOne (ts.map TV.l) (us.map TV.l) x = ([], rk) := by rw [HONE2.out, ← HQ.out, HTL.out, if_neg hz]
                      have e2 : absAll (ts.map TV.l) (ts.map TV.l) cs = ([], rk) := by rw [← HA.out, HN.out, e1, if_neg hz]
                      rw [HO.out, e2, if_pos hz])
                    clear htr h4 hN4 hb5 hb hO
                    go_wp2
                    go_ret2
                    exact stackErr_none HE.out hb6
                · obtain rfl : q = k := by omega
                  have HE := Lib.hid (show absAll (ts.map TV.l) (vs.map TV.l) (cs.drop (j + 1)) = absAll (ts.map TV.l) (ts.map TV.l) cs by
                    have e1 : absOne (ts.map TV.l) (us.map TV.l) x = (vs.map TV.l, 0) := by rw [HONE2.out, ← HQ.out, Nat.sub_self]; rfl
                    rw [← HA.out, HN.out, e1, if_pos rfl])
                  go_wp2
                  go_roundw
                  case rel => exact ⟨j + 1, vs, by omega, by go_num, hO, hb, HE.out⟩
                  case measure => simp [intOf]; omega
          · obtain rfl : j = n' := by omega
            have HF := Lib.hid (show absAll (ts.map TV.l) (ts.map TV.l) cs = (us.map TV.l, 0) by rw [← HA.out, List.drop_of_length_le (by rw [HL'.out]; exact Nat.le_refl _)]; rfl)
            go_wp2
            go_loopw [13, 14] (fun sv i wr' => ∃ (q : Nat) (b : Bool), q ≤ k ∧ i = .int .i64 q ∧ sv = .bool b ∧ OutRow wr' g k us ∧ Below w.heap.size w wr' ∧ Hid (b = true ↔ ∀ i x y, i < q → us[i]? = some x → ts[i]? = some y → x.l = y.l)) (fun _ i _ => k - (intOf i).toNat)
            case atStart => exact ⟨0, true, Nat.zero_le _, rfl, rfl, hOut, hb, Lib.hid ⟨fun _ i _ _ hi => absurd hi (Nat.not_lt_zero _), fun _ => rfl⟩⟩
            case round =>
              clear hOut hb
              obtain ⟨q, bb, hqk, rfl, rfl, hO, hb, HB⟩ := hrel
              by_cases hlt3 : q < k
              · obtain ⟨t, ht, htI, hc⟩ := hO.get hlt3
                obtain ⟨b0, o0, s, rfl, hbb, hs, hsI, h1⟩ := h.get hlt3
                have HTT := Lib.hid ht
                have HSS := Lib.hid hs
                clear ht hs
                obtain ⟨TA, tc, tl⟩ := t
                obtain ⟨SA, sc, sl⟩ := s
                dsimp only [TV.hdr] at hc h1
                obtain ⟨ht1, ht2⟩ := htI
                obtain ⟨hs1, hs2⟩ := hsI
                dsimp only at ht1 ht2 hs1 hs2
                have hgl := hO.lt
                have hbd : Below wr.heap.size wr wr.drew := (Below.refl _ _).drew
                have hbw := hb.drew
                have hO2 := hO.to hbd
                have hbs := hb.size
                replace h1 := (hb.cell (p := ⟨b0, o0 + q, none⟩) hbb).trans h1
                go_wp2
                refine wp_region_q (fun w' => Below wr.heap.size wr w') [(true, 0), (true, 1), (true, 2), (true, 3), (true, 4), (true, 5), (true, 6), (true, 7), (true, 8), (true, 9), (false, 10), (true, 11), (true, 12)] mixed (by kernel_rfl) hbd ?_
                intro Tp M Q hT1 hT2 hM hQ
                have m0 : M ⟨g, q, none⟩ = some (.slice TA tl.length tc) := hM _ _ fun w' hw => (hw.cell (p := ⟨g, q, none⟩) hgl).trans hc
                have m1 : M ⟨b0, o0 + q, none⟩ = some (.slice SA sl.length sc) := hM _ _ fun w' hw => (hw.cell (p := ⟨b0, o0 + q, none⟩) (by show b0 < _; omega)).trans h1
                clear hM h1 hc
                simp only [qcmp, Nat.reduceBEq]
                cases bb with
                | false =>
                  have HB2 := Lib.hid (show false = true ↔ ∀ i x y, i < q + 1 → us[i]? = some x → ts[i]? = some y → x.l = y.l from ⟨fun h => (by cases h), fun h => HB.out.2 fun i x y hi => h i x y (by omega)⟩)
                  simp (maxSteps := 5000000) only [↓qpre, qpost, qfacts, qnorm, m0, m1]
                  refine hQ _ _ ?_
                  clear hQ hT1 hT2 m0 m1 hO hb
                  go_wp2
                  go_roundw
                  case rel => exact ⟨q + 1, false, by omega, by go_num, rfl, hO2, hbw, HB2.out⟩
                  case measure => simp [intOf]; omega
                | true =>
                  have HB2 := Lib.hid (show decide (tl = sl) = true ↔ ∀ i x y, i < q + 1 → us[i]? = some x → ts[i]? = some y → x.l = y.l from by
                    rw [decide_eq_true_eq]
                    constructor
                    · intro e i x y hi hx hy
                      by_cases e2 : i = q
                      · subst e2
                        rw [HTT.out] at hx; rw [HSS.out] at hy
                        injection hx with hx; injection hy with hy
                        rw [← hx, ← hy]; exact e
                      · exact HB.out.1 rfl i x y (by omega) hx hy
                    · intro h
                      exact h q _ _ (by omega) HTT.out HSS.out)
                  simp (maxSteps := 5000000) only [↓qpre, qpost, qfacts, qnorm, m0, m1]
                  refine ⟨⟨by omega, by omega⟩, ⟨by omega, by omega⟩, ?_⟩
                  refine eff_call (by kernel_rfl) (plainF_any ht2 hs2 (ht1.to hbd hbd.size).row (hs1.to hbw hbw.size).row rfl rfl) rfl rfl ?_
                  rintro e w4 ⟨rfl, hx4⟩
                  have hb5 : Below wr.heap.size wr w4 := hbd.trans (hx4.mono hbd.size)
                  have hb6 := hb.trans (hb5.mono hb.size)
                  have hO4 := hO.to hb5
                  refine ⟨_, rfl, hT1 _ hb5, ?_⟩
                  simp (maxSteps := 5000000) only [↓qpre, qpost, qfacts, qnorm]
                  refine hQ _ _ ?_
                  clear hQ hT1 hT2 m0 m1 hO hb hb5 hx4 hbw hbd ht1 hs1
                  generalize decide (tl = sl) = d at *
                  go_wp2
                  go_roundw
                  case rel => exact ⟨q + 1, d, by omega, by go_num, rfl, hO4, hb6, HB2.out⟩
                  case measure => simp [intOf]; omega
              · obtain rfl : q = k := by omega
                cases bb with
                | true =>
                  have HE := Lib.hid (show absorbF (ts.map TV.l) cs = ([], 14) by
                    rw [HO.out, HF.out, if_neg (by simp), if_pos (stacks_eq HUL.out HL.out (HB.out.1 rfl))])
                  go_wp2
                  go_ret2
                  exact stackErr_none HE.out hb
                | false =>
                  have HE := Lib.hid (show absorbF (ts.map TV.l) cs = (us.map TV.l, 0) by
                    rw [HO.out, HF.out, if_neg (by simp), if_neg]
                    intro e
                    replace e : us.map TV.l = ts.map TV.l := e
                    have := HB.out.2 fun i x y hi hx hy => by
                      have e1 : (us.map TV.l)[i]? = some x.l := by rw [List.getElem?_map, hx]; rfl
                      rw [e, List.getElem?_map, hy] at e1
                      injection e1 with e1
                      exact e1.symm
                    cases this)
                  go_wp2
                  go_ret2
                  exact stackErr_ok HE.out (hO.rdS hnc) hb
end Go.Proofs.YtahlfafcjjkliaaGreatDoor
namespace Go.Proofs.YtahlfafcjjkliaaGreatDoor
open Go.RowKit

theorem splitF_len (a b : List FV) (ps : List ByteArray) : (splitF a b ps).1.length ≤ 100 := by
  by_cases h : (splitF a b ps).2 = 0
  · unfold splitF at h ⊢
    split
    · simp
    · rename_i h1
      rw [if_neg h1] at h
      split
      · simp
      · rename_i h2
        rw [if_neg h2] at h
        split
        · simp
        · exact treeOk_len (applyF_tree (by simpa using h2))
  · rw [split_no h]; simp
theorem absAll_len {L : List (List FV)} : ∀ (cs : List ChV) {out : List (List FV)}, (absAll L out cs).2 = 0 → (absAll L out cs).1.length = out.length
  | [], _, _ => rfl
  | c :: cs, out, h => by
    rw [absAll] at h ⊢
    split at h
    · rename_i h1
      rw [if_pos h1, absAll_len cs h, absOne_len h1]
    · rename_i h1
      exact absurd h h1
theorem absorbF_len (L : List (List FV)) (cs : List ChV) : (absorbF L cs).1.length ≤ L.length := by
  unfold absorbF
  split
  · simp
  · split
    · simp
    · rename_i h1
      split
      · simp
      · have := absAll_len (L := L) cs (out := L) (by simpa using h1)
        show (absAll L L cs).1.length ≤ _
        omega

/-! ### is one no tree? -/
set_option maxRecDepth 100000 in
set_option maxHeartbeats 4000000 in
theorem absorb1_any {A : Option Addr} {n c : Nat} {l : List FV} {w : World} (hn : n ≤ 17592186044416) (hm : Lm w) (h : RdF w w.heap.size A n c l) :
    Calls Tryz.prog 53 #[.slice A n c] w (BoolBelow (!treeOk l) w) := by
  go_enter Tryz.func53, Tryz.ntmps53
  go_wp2_with fail
  refine (treeRight_any hn hm h).mono ?_
  rintro e w1 ⟨rfl, hx⟩
  go_wp2
  go_ret
  exact ⟨rfl, hx⟩
def PlaceT (L : List TV) (w : World) (e : Ending) (w' : World) : Prop :=
  ∃ k : Int, e = .returned (.int .i64 k) ∧ ((k = -1 ∧ ∀ t ∈ L, treeOk t.l = true) ∨ (0 ≤ k ∧ ∃ t ∈ L, treeOk t.l = false)) ∧ Below w.heap.size w w'
set_option maxRecDepth 100000 in
set_option maxHeartbeats 4000000 in
theorem indexT_any {A : Option Addr} {n c : Nat} {ts : List TV} {w : World} (hn : n ≤ 17592186044416) (hm : Lm w) (h : RdS w w.heap.size A n c ts) :
    Calls Tryz.prog 73 #[.slice A n c, .func (.func 53) #[] #[]] w (PlaceT ts w) := by
  have HL := Lib.hid h.len
  go_enter Tryz.func73, Tryz.ntmps73
  go_wp2
  go_loopw [8] (fun i wr => ∃ k : Nat, k ≤ n ∧ i = .int .i64 k ∧ Below w.heap.size w wr ∧ Hid (∀ j t, j < k → ts[j]? = some t → treeOk t.l = true)) (fun i _ => n - (intOf i).toNat)
  case atStart => exact ⟨0, Nat.zero_le _, rfl, Below.refl _ _, Lib.hid (fun j t hj => absurd hj (Nat.not_lt_zero _))⟩
  case round =>
    obtain ⟨k, hk, rfl, hb, hT⟩ := hrel
    by_cases hlt : k < n
    · obtain ⟨b0, o0, t, rfl, hbb, hx, ht, h1⟩ := h.get hlt
      have HX := Lib.hid hx
      clear hx
      obtain ⟨TA, tc, tl⟩ := t
      dsimp only [TV.hdr] at h1
      obtain ⟨ht1, ht2⟩ := ht
      dsimp only at ht1 ht2
      replace h1 := (hb.cell (p := ⟨b0, o0 + k, none⟩) hbb).trans h1
      go_wp2_with fail
      refine (absorb1_any ht2 (hm.below hb hm.lt) (ht1.to hb hb.size)).mono ?_
      rintro e w1 ⟨rfl, hx⟩
      have hb1 := hb.trans (hx.mono hb.size)
      clear hx h1
      cases hok : treeOk tl with
      | false =>
        have HO := Lib.hid (show ∃ t ∈ ts, treeOk t.l = false from ⟨_, List.mem_of_getElem? HX.out, hok⟩)
        clear hok
        go_wp2
        go_ret
        exact ⟨k, rfl, .inr ⟨by omega, HO.out⟩, hb1⟩
      | true =>
        have HO := Lib.hid (show ∀ j t, j < k + 1 → ts[j]? = some t → treeOk t.l = true from fun j t hj hx => by
          by_cases e : j = k
          · subst e; rw [HX.out] at hx; injection hx with hx; rw [← hx]; exact hok
          · exact hT.out j t (by omega) hx)
        clear hok
        go_wp2
        go_roundw
        case rel => exact ⟨k + 1, by omega, by go_num, hb1, HO.out⟩
        case measure => simp [intOf]; omega
    · obtain rfl : k = n := by omega
      have HO := Lib.hid (show ∀ t ∈ ts, treeOk t.l = true from fun t ht => by
        obtain ⟨j, hj, rfl⟩ := List.getElem_of_mem ht
        exact hT.out j _ (by rw [← HL.out]; exact hj) (List.getElem?_eq_getElem _))
      go_wp2
      go_ret
      exact ⟨-1, rfl, .inl ⟨rfl, HO.out⟩, hb⟩
def BadIs (L : List TV) (w : World) (e : Ending) (w' : World) : Prop :=
  ∃ b : Bool, e = .returned (.bool b) ∧ ((b = false ∧ ∀ t ∈ L, treeOk t.l = true) ∨ (b = true ∧ ∃ t ∈ L, treeOk t.l = false)) ∧ Below w.heap.size w w'
set_option maxRecDepth 100000 in
set_option maxHeartbeats 4000000 in
theorem containsT_any {A : Option Addr} {n c : Nat} {ts : List TV} {w : World} (hn : n ≤ 17592186044416) (hm : Lm w) (h : RdS w w.heap.size A n c ts) :
    Calls Tryz.prog 52 #[.slice A n c, .func (.func 53) #[] #[]] w (BadIs ts w) := by
  go_enter Tryz.func52, Tryz.ntmps52
  go_wp2_with fail
  refine (indexT_any hn hm h).mono ?_
  rintro e w1 ⟨k, rfl, hk, hx⟩
  rcases hk with ⟨rfl, hk⟩ | ⟨h0, hk⟩
  · have HK := Lib.hid hk
    clear hk
    go_wp2
    go_ret
    exact ⟨false, rfl, .inl ⟨rfl, HK.out⟩, hx⟩
  · have HK := Lib.hid hk
    clear hk
    go_wp2
    go_ret
    exact ⟨true, ret_bool (by simp [h0]), .inr ⟨rfl, HK.out⟩, hx⟩

/-! ### the map of touchers -/
set_option maxRecDepth 100000 in
theorem wideQ : (match Tryz.prog.underlying 75 with | some (.array _ _) | some (.struct _) => true | _ => false) = true := by kernel_rfl
set_option maxRecDepth 100000 in
theorem KQ : Maps.Keyed Tryz.prog 75 := Maps.Keyed.of_law (deep_law_laid T.laidOut (m := 2) (by omega) (of_decide_eq_true (by kernel_rfl)) (by kernel_rfl) wideQ)
set_option maxRecDepth 100000 in
theorem keyQ_type : Tryz.prog.keyType 75 = true := by kernel_rfl
set_option maxRecDepth 100000 in
theorem cellsQ : Tryz.prog.cellsOf 75 = 1 := by kernel_rfl
theorem keyQ {x : ByteArray} (h : x.size ≤ maxLen) : keyOf Tryz.prog 75 (.agg #[.string x]) = some (klP x) :=
  key_str Tryz.underlying75 rfl rfl rfl cellsQ cells_str Tryz.underlying9 keyQ_type T.types_pos h
set_option maxRecDepth 100000 in
theorem run_keyQ (w : World) (x : ByteArray) : (Instr.build 75 #[(0, .string x)]).run Tryz.prog w = .ok (.agg #[.string x]) w := by
  go_simp
theorem wf_small {F : Nat} (h : F < 2000000) : (Lit.int .i64 (F : Int)).wf = true := by
  simp only [Lit.wf, Bool.and_eq_true, decide_eq_true_eq]
  have e1 : IntKind.i64.min = -9223372036854775808 := by decide
  have e2 : IntKind.i64.max = 9223372036854775807 := by decide
  rw [e1, e2]
  omega
/-- The touchers that are known. -/
structure TouchM (w : World) (b n : Nat) (D : DataW Value) (L : List (List FV)) : Prop where
  own : w.ownsMap Tryz.prog 75 (plainElem Tryz.prog 3) b n D
  ok : ∀ q : ByteArray, q.size ≤ maxLen → Maps.has D (klP q) = true → D.atKey (klP q) (.lit (.int .i64 0)) = .lit (.int .i64 (touchF L q))
theorem TouchM.start (w : World) (L : List (List FV)) : TouchM (w.alloc (.map #[] 0)) w.heap.size 0 (.map []) L :=
  ⟨World.ownsMap_made _ _ _ _, fun q _ h => by cases h⟩
theorem TouchM.kept {w w' : World} {b n : Nat} {D : DataW Value} {L : List (List FV)} {row : Option Nat} (h : TouchM w b n D L) (hg : w.grownBy w' row) (hne : some b ≠ row) : TouchM w' b n D L := ⟨h.own.kept hg hne, h.ok⟩
theorem TouchM.below {w w' : World} {b n : Nat} {D : DataW Value} {L : List (List FV)} (h : TouchM w b n D L) (hb : Below w.heap.size w w') : TouchM w' b n D L := h.kept (below_grown hb) (by simp)
theorem TouchM.isMap {w : World} {b n : Nat} {D : DataW Value} {L : List (List FV)} (h : TouchM w b n D L) : ∃ es cl, w.heap[b]? = some (.map es cl) := by
  obtain ⟨es, cl, hb, _⟩ := h.own
  exact ⟨es, cl, hb⟩
set_option maxRecDepth 100000 in
theorem TouchM.look {w : World} {b n : Nat} {D : DataW Value} {L : List (List FV)} (h : TouchM w b n D L) {x : ByteArray} (hx : x.size ≤ maxLen) :
    ∃ (c : Int) (hh : Bool), (Instr.lookup 72 (.map (some b)) (.agg #[.string x]) true).run Tryz.prog w = .ok (.tuple #[.int .i64 c, .bool hh]) w ∧ (hh = true → c = touchF L x) := by
  obtain ⟨v, ps, hrun, hv⟩ := h.own.look_ok KQ Tryz.underlying72 (Tryz.zeroValue3 w) (plainElem_int Tryz.underlying3 (by decide)) (keyQ hx)
  obtain ⟨c, rfl, hc, hwc⟩ := plainElem_int_inv Tryz.underlying3 hv
  refine ⟨c, _, hrun, fun e => ?_⟩
  rw [h.ok x hx e] at hc
  have h1 : (DataW.lit (Lit.int .i64 (touchF L x)) : DataW Value) = .lit (.int .i64 c) := congrArg Prod.fst hc
  exact (Lit.int.inj (DataW.lit.inj h1)).2.symm
theorem TouchM.put {w w' : World} {b n : Nat} {D : DataW Value} {L : List (List FV)} {k : ByteArray} (h : TouchM w b n D L) (hk : k.size ≤ maxLen)
    (hown : w'.ownsMap Tryz.prog 75 (plainElem Tryz.prog 3) b (n + 1) (D.put (klP k) (.lit (.int .i64 (touchF L k))))) : TouchM w' b (n + 1) (D.put (klP k) (.lit (.int .i64 (touchF L k)))) L := by
  refine ⟨hown, fun x hx hh => ?_⟩
  by_cases e : x = k
  · subst e
    rw [Maps.atKey_put_same h.own.isMap (klP_key hk)]
  · rw [Maps.atKey_put_other (klP_ne hx hk e)]
    rw [Maps.has_put_other (klP_ne hx hk e)] at hh
    exact h.ok x hx hh
theorem grown_setRow2 (w : World) (g : Nat) (cs : Array Value) : w.grownBy (w.setRow g cs) (some g) :=
  ⟨rfl, rfl, rfl, by simp [World.setRow], fun k _ hne => setRow_other _ _ _ _ (fun e => hne (by rw [e]))⟩

/-! ### boxes of changes -/
def BoxC (x : ChV) (b : Nat) (u : World) : Prop := b < u.heap.size ∧ ∀ i v, x.cells[i]? = some v → u.cell? ⟨b, i, none⟩ = some v
theorem BoxC.grown {x : ChV} {b : Nat} {u u' : World} {row : Option Nat} (h : BoxC x b u) (hg : u.grownBy u' row) (hne : some b ≠ row) : BoxC x b u' :=
  ⟨Nat.lt_of_lt_of_le h.1 hg.size, fun i v hv => by rw [World.cell?, hg.block b h.1 hne]; exact h.2 i v hv⟩
theorem BoxC.re {x : ChV} {b : Nat} {u u' : World} (h : BoxC x b u) (hb : Below u.heap.size u u') : BoxC x b u' := h.grown (below_grown hb) (by simp)
theorem BoxC.new (w : World) (x : ChV) : BoxC x w.heap.size (w.alloc (.cells #[.string x.path, .bool x.del, .bool x.exec, .string x.text] 29)) :=
  ⟨by simp, fun i v hv => by rw [World.cell?, heap_alloc_new]; simpa [ChV.cells] using hv⟩
theorem BoxC.noMap {x : ChV} {b m : Nat} {u : World} (h : BoxC x b u) (hm : ∃ es cl, u.heap[m]? = some (.map es cl)) : b ≠ m := by
  rintro rfl
  obtain ⟨es, cl, hm⟩ := hm
  have := h.2 0 _ rfl
  rw [World.cell?, hm] at this
  cases this
/-! ### the row of headers, whole -/
structure OutF (w : World) (g n : Nat) (us : List TV) : Prop where
  out : OutRow w g n us
  full : ∃ cur, w.heap[g]? = some (.cells cur 22 (0, 0)) ∧ cur.size = n
theorem OutF.to {w w' : World} {g n : Nat} {us : List TV} (h : OutF w g n us) (hb : Below w.heap.size w w') : OutF w' g n us := by
  obtain ⟨cur, hg, hs⟩ := h.full
  exact ⟨h.out.to hb, cur, (hb.block g h.out.lt).trans hg, hs⟩
theorem OutF.noMap {w : World} {g n m : Nat} {us : List TV} (h : OutF w g n us) (hm : ∃ es cl, w.heap[m]? = some (.map es cl)) : g ≠ m := by
  rintro rfl
  obtain ⟨cur, hg, _⟩ := h.full
  obtain ⟨es, cl, hm⟩ := hm
  rw [hm] at hg; cases hg
theorem OutF.mapped {w w' : World} {g n m : Nat} {us : List TV} (h : OutF w g n us) (hg : w.grownBy w' (some m)) (hm : ∃ es cl, w.heap[m]? = some (.map es cl)) : OutF w' g n us := by
  have hgm := h.noMap hm
  obtain ⟨cur, h1, h2, h3⟩ := h.out.row
  obtain ⟨cur', h4, h5⟩ := h.full
  have hb := hg.block g h.out.lt (fun e => hgm (by injection e))
  refine ⟨⟨⟨cur, hb.trans h1, h2, h3⟩, h.out.len, fun t ht => ⟨?_, (h.out.trees t ht).2⟩⟩, cur', hb.trans h4, h5⟩
  obtain ⟨q1, q2⟩ := (h.out.trees t ht).1
  refine ⟨⟨⟨q1.row.len, q1.row.cap, fun h0 => ?_⟩, q1.len, q1.fits⟩, q2⟩
  obtain ⟨b, o, hA, hlt, hc⟩ := q1.row.at_ h0
  obtain ⟨es, cl, hm⟩ := hm
  have hbm : b ≠ m := by
    rintro rfl
    have hl := q1.row.len
    have hx : 0 < (t.l.flatMap FV.cells).length := by omega
    have := hc 0 _ (List.getElem?_eq_getElem hx)
    rw [World.cell?, hm] at this
    cases this
  refine ⟨b, o, hA, Nat.lt_of_lt_of_le hlt hg.size, fun j u hu => ?_⟩
  have h9 := hc j u hu
  rw [World.cell?, hg.block b hlt (fun e => hbm (by injection e))]
  exact h9
/-- No tree lies in the row of headers. -/
theorem OutF.apart {w : World} {g n : Nat} {us : List TV} (h : OutF w g n us) {t : TV} (ht : t.In w w.heap.size) : ∀ b o s, t.A = some ⟨b, o, s⟩ → 0 < t.l.length → b ≠ g := by
  rintro b o s hA h0 rfl
  obtain ⟨cur, hg, hn, hk⟩ := h.out.row
  obtain ⟨cur', hg', hs⟩ := h.full
  rw [hg] at hg'
  injection hg' with hg'
  injection hg' with hg'
  subst hg'
  obtain ⟨b', o', f, hA', hb', hx, hfm, p0, _, _⟩ := ht.1.get h0
  rw [hA] at hA'
  injection hA' with hA'
  injection hA' with e1 e2 e3
  rw [← e1, World.cell?, hg] at p0
  rw [List.take_of_length_le (by rw [Array.length_toList]; omega)] at hk
  have p1 : cur[o' + 0 * 3]? = some (Value.string f.path) := p0
  rw [← Array.getElem?_toList, hk, List.getElem?_map] at p1
  cases hu : us[o' + 0 * 3]? with
  | none => rw [hu] at p1; cases p1
  | some u =>
    rw [hu] at p1
    injection p1 with p1
    cases p1
theorem OutF.set {w : World} {g n k : Nat} {us : List TV} {t : TV} {cur : Array Value} (h : OutF w g n us) (hk : k < n) (ht : t.In w w.heap.size)
    (hg : w.heap[g]? = some (.cells cur 22 (0, 0))) : OutF (w.setRow g (cur.toList.take k ++ #[t.hdr].toList ++ cur.toList.drop (k + #[t.hdr].size)).toArray) g n (us.set k t) := by
  refine ⟨h.out.set hk ht (h.apart ht) hg, _, setRow_heap _ _ _ _ _ _ hg, ?_⟩
  obtain ⟨cur', hg', hs⟩ := h.full
  rw [hg] at hg'
  injection hg' with hg'
  injection hg' with hg'
  subst hg'
  have h3 : cur.toList.length = cur.size := Array.length_toList
  simp only [List.size_toArray, List.length_append, List.length_take, List.length_drop, h3]
  show min k cur.size + 1 + (cur.size - (k + 1)) = n
  omega
/-- make([]T, n). -/
theorem wpl_full {P : Program} {w : World} {a : Act} {ops : Array Oper} {rest : List Oper} {o : Oper} {Q : Exit → Act → World → Prop} (hgd : o.guard = none) (l c : Operand) (t : TypeId)
    (ho : o.op = .makeSlice t l c) {e : TypeId} {bytes : Nat} {z : Value} (E : Elem P t e 1 bytes) (hz : ∀ i, P.info? e = some i → i.zero = some z) (h1 : z.cells = #[z]) (base n : Nat)
    {L : Int} (hl : a.eval l = .int .i64 L) (hc : a.eval c = .int .i64 L) (hC : L = (n : Int)) (hb : bytes * n ≤ 281474976710656) (h63 : n ≤ maxLen) (hbase : base ≤ w.heap.size)
    (hK : ∀ w', w'.ownsRow base e 1 (.slice (some ⟨w.heap.size, 0, none⟩) n n) n (List.replicate n z) → w.grownBy w' none → wpList P ops Q rest (a.put o.dst (.slice (some ⟨w.heap.size, 0, none⟩) n n)) w') :
    wpList P ops Q (o :: rest) a w := by
  obtain ⟨i, z', hi, hz', hsz, hby, hzs⟩ := E.row
  have hzz := hz i hi
  refine wpList_make_full w hgd l c t ho base e i z 1 E.und hi hzz hsz .i64 .i64 L L n hl hc hC hC (by rw [hby]; exact hb) h63 hbase ?_
  intro w' ho' hg'
  rw [Nat.mul_one, h1, toList_madeCells_one] at ho'
  exact hK w' ho' hg'
theorem zero_of_run {P : Program} {e : TypeId} {z : Value} {w : World} (h : (zeroValue e).run P w = .ok z w) : ∀ i, P.info? e = some i → i.zero = some z := by
  intro i hi
  cases hz : i.zero with
  | none => simp [zeroValue, typeInfo, hi, hz, unsupported] at h
  | some v =>
    have : (zeroValue e).run P w = .ok v w := by simp [zeroValue, typeInfo, hi, hz]
    rw [this] at h
    injection h with h
    rw [h]
theorem zero_files : ∀ i, Tryz.prog.info? 22 = some i → i.zero = some (.slice none 0 0) := zero_of_run (Tryz.zeroValue22 default)
theorem outF_made {w : World} {B g n : Nat} (ho : w.ownsRow B 22 1 (.slice (some ⟨g, 0, none⟩) n n) n (List.replicate n (.slice none 0 0))) : OutF w g n (List.replicate n ⟨none, 0, []⟩) := by
  rcases ho.2 with ⟨h0, _⟩ | ⟨g', cap, cur, h0, hgb, hg, hnc, hcm, hcs, htake⟩
  · simp at h0
  · simp only [Value.slice.injEq, Option.some.injEq, Addr.mk.injEq, and_true, true_and] at h0
    obtain ⟨rfl, rfl⟩ := h0
    rw [Nat.mul_one] at hcs htake
    refine ⟨⟨⟨cur, hg, by omega, ?_⟩, List.length_replicate, fun t ht => ?_⟩, cur, hg, hcs⟩
    · rw [htake, List.map_replicate]; rfl
    · obtain rfl := (List.mem_replicate.1 ht).2
      exact ⟨⟨RdF.none_ _ _, by show 0 ≤ _; omega⟩, fun b o s hA => by cases hA⟩
end Go.Proofs.YtahlfafcjjkliaaGreatDoor
namespace Go.Proofs.YtahlfafcjjkliaaGreatDoor
open Go.RowKit

set_option maxRecDepth 100000 in
set_option maxHeartbeats 64000000 in
theorem absorb_any {A A' : Option Addr} {n c n' c' : Nat} {ts : List TV} {cs : List ChV} {w : World} (hn : n ≤ 1000000) (hn' : n' ≤ 17592186044416) (hm : Lm w) (h : RdS w w.heap.size A n c ts) (h' : RdC w w.heap.size A' n' c' cs) :
    Calls Tryz.prog 24 #[.slice A n c, .slice A' n' c'] w (StackErr (absorbF (ts.map TV.l) cs) w) := by
  have HL := Lib.hid h.len
  have HL' := Lib.hid h'.len
  have hmm := @run_makeMap Tryz.prog
  by_cases h2 : n < 2
  · have HO := Lib.hid (show absorbF (ts.map TV.l) cs = ([], 5) from absorbF_short (by rw [List.length_map, HL.out]; exact h2))
    go_enter Tryz.func24, Tryz.ntmps24
    go_wp2
    go_ret2
    exact stackErr_none HO.out (Below.refl _ _)
  go_enter Tryz.func24, Tryz.ntmps24
  go_wp2_with fail
  refine (containsT_any (by omega) hm h).mono ?_
  rintro e w1 ⟨bad, rfl, hbad, hb1⟩
  rcases hbad with ⟨rfl, hall⟩ | ⟨rfl, hex⟩
  case inr =>
    have HO := Lib.hid (show absorbF (ts.map TV.l) cs = ([], 5) by
      obtain ⟨t, ht, hb⟩ := hex
      exact absorbF_bad (List.mem_map.2 ⟨t, ht, rfl⟩) hb)
    clear hex
    go_wp2
    go_ret2
    exact stackErr_none HO.out hb1
  have HT := Lib.hid hall
  have HO := Lib.hid (absorbF_go (cs := cs) (L := ts.map TV.l) (by rw [List.length_map, HL.out]; exact h2) (fun t ht => by
    obtain ⟨s, hs, rfl⟩ := List.mem_map.1 ht
    exact hall s hs))
  clear hall
  obtain ⟨wm, hwm⟩ : ∃ u, u = w1.alloc (.map #[] 0) := ⟨_, rfl⟩
  have hM0 : TouchM wm w1.heap.size 0 (.map []) (ts.map TV.l) := by rw [hwm]; exact TouchM.start _ _
  have hbm : Below w1.heap.size w1 wm := by rw [hwm]; exact (Below.refl _ _).alloc (Nat.le_refl _) _
  have hb2 := hb1.trans (hbm.mono hb1.size)
  have HWM := Lib.hid hwm
  clear hwm
  generalize hbmn : w1.heap.size = bm at *
  have hwb : w.heap.size ≤ bm := by rw [← hbmn]; exact hb1.size
  have HBM := Lib.hid hbmn
  clear hbmn
  go_wp2_with (rw [HBM.out, ← HWM.out]; refine wpl_full rfl (.tmp 26) (.tmp 26) 41 rfl E_stack zero_files rfl wm.heap.size n rfl rfl rfl (by omega) (by unfold maxLen; omega) (Nat.le_refl _) ?_; intro w2 ho hg2)
  have hM2 := hM0.kept hg2 (by simp)
  have hwg2 : Below wm.heap.size wm w2 := grown_b hg2
  have hb3 := hb2.trans (hwg2.mono hb2.size)
  have hF2 := outF_made ho
  have hwg : w.heap.size ≤ wm.heap.size := hb2.size
  generalize wm.heap.size = g at *
  clear ho hg2 hM0 hb2 hb1 hbm hwg2
  go_wp2
  go_loopw [30] (fun i wr => ∃ (k : Nat) (us : List TV), k ≤ n ∧ i = .int .i64 k ∧ OutF wr g n us ∧ TouchM wr bm 0 (.map []) (ts.map TV.l) ∧ Below w.heap.size w wr ∧ Hid (∀ j t s, j < k → us[j]? = some t → ts[j]? = some s → t.l = s.l)) (fun i _ => n - (intOf i).toNat)
  case atStart => exact ⟨0, _, Nat.zero_le _, rfl, hF2, hM2, hb3, Lib.hid (fun j _ _ hj => absurd hj (Nat.not_lt_zero _))⟩
  case round =>
    clear hF2 hM2 hb3
    obtain ⟨k, us, hk, rfl, hO, hMM, hb, HE⟩ := hrel
    by_cases hlt : k < n
    · obtain ⟨b0, o0, t, rfl, hbb, hx, ht, h1⟩ := h.get hlt
      have HX := Lib.hid hx
      have htl := treeOk_len (HT.out t (List.mem_of_getElem? hx))
      clear hx
      obtain ⟨TA, tc, tl⟩ := t
      dsimp only [TV.hdr] at h1 htl
      obtain ⟨ht1, ht2⟩ := ht
      dsimp only at ht1 ht2
      replace h1 := (hb.cell (p := ⟨b0, o0 + k, none⟩) hbb).trans h1
      go_wp2_with fail
      refine (cloneF_any (by omega) (ht1.to hb hb.size)).mono ?_
      rintro e w4 ⟨v, rfl, ho, hx⟩
      obtain ⟨A4, c4, rfl, hc4⟩ := ownsRow_cap ho
      have hr4 : RdF w4 w4.heap.size A4 tl.length c4 tl := ⟨Rd.of_own ho hc4, rfl, ht1.fits⟩
      have hO4 := hO.to hx
      have hM4 := hMM.below hx
      have hb6 := hb.trans (hx.mono hb.size)
      obtain ⟨cur, hg, hsz, _⟩ := hO4.out.row
      have hul := hO4.out.len
      have hO5 := hO4.set (t := ⟨A4, c4, tl⟩) hlt ⟨hr4, ht2⟩ hg
      have hgm := hO4.noMap hM4.isMap
      have hgr := grown_setRow2 w4 g (cur.toList.take k ++ #[(⟨A4, c4, tl⟩ : TV).hdr].toList ++ cur.toList.drop (k + #[(⟨A4, c4, tl⟩ : TV).hdr].size)).toArray
      have hM5 := hM4.kept hgr (fun e => hgm (by injection e with e; exact e.symm))
      have hb7 := below_setRow (cs := (cur.toList.take k ++ #[(⟨A4, c4, tl⟩ : TV).hdr].toList ++ cur.toList.drop (k + #[(⟨A4, c4, tl⟩ : TV).hdr].size)).toArray) hb6 hwg
      generalize hW5 : w4.setRow g (cur.toList.take k ++ #[(⟨A4, c4, tl⟩ : TV).hdr].toList ++ cur.toList.drop (k + #[(⟨A4, c4, tl⟩ : TV).hdr].size)).toArray = W5 at *
      have HW5 := Lib.hid hW5
      have HE2 := Lib.hid (show ∀ j t s, j < k + 1 → (us.set k ⟨A4, c4, tl⟩)[j]? = some t → ts[j]? = some s → t.l = s.l from fun j t s hj h3 h4 => by
        by_cases e : j = k
        · subst e
          rw [List.getElem?_set_self (by omega)] at h3
          rw [HX.out] at h4
          injection h3 with h3; injection h4 with h4
          rw [← h3, ← h4]
        · rw [List.getElem?_set_ne (fun e2 => e e2.symm)] at h3
          exact HE.out j t s (by omega) h3 h4)
      clear hW5 hO4 hO hr4 ho hx hb6 hb hgr hM4 hMM h1 hul
      go_wp2_with (refine wpl_store_one rfl 22 (.tmp 39) (.tmp 38) rfl (v := (⟨A4, c4, tl⟩ : TV).hdr) (by kernel_rfl) rfl rfl rfl hg (by omega) rfl ?_; rw [HW5.out])
      go_roundw
      case rel => exact ⟨k + 1, _, by omega, by go_num, hO5, hM5, hb7, HE2.out⟩
      case measure => simp [intOf]; omega
    · obtain rfl : k = n := by omega
      have HEQ := Lib.hid (stacks_eq hO.out.len HL.out HE.out)
      go_wp2
      go_loopw [43] (fun i wr' => ∃ (j : Nat) (us : List TV) (DD : DataW Value) (nn : Nat), j ≤ n' ∧ i = .int .i64 j ∧ OutF wr' g k us ∧ Below w.heap.size w wr' ∧ TouchM wr' bm nn DD (ts.map TV.l) ∧ nn ≤ j ∧ Hid (absAll (ts.map TV.l) (us.map TV.l) (cs.drop j) = absAll (ts.map TV.l) (ts.map TV.l) cs)) (fun i _ => n' - (intOf i).toNat)
      case atStart => exact ⟨0, us, _, 0, by omega, rfl, hO, hb, hMM, by omega, Lib.hid (by rw [List.drop_zero, HEQ.out])⟩
      case round =>
        clear hO hb hMM HE HEQ us
        obtain ⟨j, us, DD, nn, hj, rfl, hO, hb, hMM, hnn, HA⟩ := hrel
        have HUL := Lib.hid hO.out.len
        by_cases hlt2 : j < n'
        · obtain ⟨b2, o2, x, rfl, hbb2, hx, hxm, k0, k1, k2, k3⟩ := h'.get hlt2
          have HX := Lib.hid hx
          have HXF := Lib.hid (h'.fits x hxm)
          have hxs : x.path.size ≤ maxLen := by have := HXF.out.1; unfold maxLen; omega
          clear hx
          replace k0 := (hb.cell (p := ⟨b2, o2 + j * 4, none⟩) hbb2).trans k0
          replace k1 := (hb.cell (p := ⟨b2, o2 + j * 4 + 1, none⟩) hbb2).trans k1
          replace k2 := (hb.cell (p := ⟨b2, o2 + j * 4 + 2, none⟩) hbb2).trans k2
          replace k3 := (hb.cell (p := ⟨b2, o2 + j * 4 + 3, none⟩) hbb2).trans k3
          have HF1 := touchF_lt (L := ts.map TV.l) (p := x.path) (by rw [List.length_map, HL.out]; omega)
          rw [List.length_map, HL.out] at HF1
          have HN := Lib.hid (absAll_next (L := ts.map TV.l) (out := us.map TV.l) HX.out)
          have HONE := Lib.hid (show absOne (ts.map TV.l) (us.map TV.l) x = if touchF (ts.map TV.l) x.path = 0 then (us.map TV.l, 0) else absFrom x (us.map TV.l) (touchF (ts.map TV.l) x.path) (k - touchF (ts.map TV.l) x.path) by rw [absOne, List.length_map, HUL.out])
          obtain ⟨V, hV⟩ : ∃ u, u = wr.alloc (.cells #[.string x.path, .bool x.del, .bool x.exec, .string x.text] 29) := ⟨_, rfl⟩
          have hxV : Below wr.heap.size wr V := by rw [hV]; exact (Below.refl _ _).alloc (Nat.le_refl _) _
          have hBV : BoxC x wr.heap.size V := by rw [hV]; exact BoxC.new _ _
          have hOV := hO.to hxV
          have hMV := hMM.below hxV
          have hbV := hb.trans (hxV.mono hb.size)
          obtain ⟨F0, hh, hlk, hhF⟩ := hMV.look hxs
          have hkq := run_keyQ V x.path
          have HHF := Lib.hid hhF
          have bx0 := hBV.2 0 _ rfl
          rw [hV] at hlk hkq bx0
          have HV := Lib.hid hV
          clear hhF hV hxV hO hMM hb
          generalize hFE : touchF (ts.map TV.l) x.path = F at *
          have HFE := Lib.hid hFE
          clear hFE
          cases hh with
          | true =>
            have hF0 := HHF.out rfl
            subst hF0
            have hO2 := hOV
            have hM2 := hMV
            have hB2 := hBV
            have hb2 := hbV
            clear hOV hMV hBV hbV HHF
            go_wp2
            rw [← HV.out]
            clear hlk hkq bx0 HV
            generalize wr.heap.size = bx at *
            go_loopw [14] (fun i wr' => ∃ (q : Nat) (vs : List TV) (DD : DataW Value) (nn : Nat), F ≤ q ∧ (q ≤ k) ∧ i = .int .i64 q ∧ OutF wr' g k vs ∧ Below w.heap.size w wr' ∧ TouchM wr' bm nn DD (ts.map TV.l) ∧ nn ≤ j + 1 ∧ BoxC x bx wr' ∧ Hid (F = 0 → vs = us) ∧ Hid (absFrom x (vs.map TV.l) q (k - q) = absFrom x (us.map TV.l) F (k - F))) (fun i _ => k - (intOf i).toNat)
            case atStart => exact ⟨F, us, _, _, Nat.le_refl _, by omega, rfl, hO2, hb2, hM2, by omega, hB2, Lib.hid (fun _ => rfl), Lib.hid rfl⟩
            case round =>
              clear hO2 hb2 hM2 hB2
              obtain ⟨q, vs, DD, nn, hFq, hqk, rfl, hO, hb, hMM, hnn, hBB, HZ, HQ⟩ := hrel
              by_cases hlt3 : 0 < F ∧ q < k
              · obtain ⟨hF0, hlt3⟩ := hlt3
                obtain ⟨t, ht, htI, hc⟩ := hO.out.get hlt3
                obtain ⟨TA, tc, tl⟩ := t
                dsimp only [TV.hdr] at hc
                obtain ⟨ht1, ht2⟩ := htI
                dsimp only at ht1 ht2
                have HTL := Lib.hid (absFrom_next (c := x) (n := k) (out := vs.map TV.l) hlt3 (show (vs.map TV.l)[q]? = some tl by rw [List.getElem?_map, ht]; rfl))
                clear ht
                have hgl := hO.out.lt
                go_wp2
                refine wp_region_q (fun w' => Below wr.heap.size wr w') [(true, 0), (true, 1), (true, 2), (true, 3), (true, 4), (false, 5), (false, 6), (true, 7), (true, 8), (true, 9), (true, 10), (true, 11)] mixed (by kernel_rfl) (Below.refl _ _).drew ?_
                intro Tp M Q hT1 hT2 hM hQ
                have m0 : M ⟨g, q, none⟩ = some (.slice TA tl.length tc) := hM _ _ fun w' hw => (hw.cell (p := ⟨g, q, none⟩) hgl).trans hc
                have m1 : M ⟨bx, 0, none⟩ = some (.string x.path) := hM _ _ fun w' hw => (hw.cell (p := ⟨bx, 0, none⟩) hBB.1).trans (hBB.2 0 _ rfl)
                have m2 : M ⟨bx, 1, none⟩ = some (.bool x.del) := hM _ _ fun w' hw => (hw.cell (p := ⟨bx, 1, none⟩) hBB.1).trans (hBB.2 1 _ rfl)
                have m3 : M ⟨bx, 2, none⟩ = some (.bool x.exec) := hM _ _ fun w' hw => (hw.cell (p := ⟨bx, 2, none⟩) hBB.1).trans (hBB.2 2 _ rfl)
                have m4 : M ⟨bx, 3, none⟩ = some (.string x.text) := hM _ _ fun w' hw => (hw.cell (p := ⟨bx, 3, none⟩) hBB.1).trans (hBB.2 3 _ rfl)
                simp only [qcmp, Nat.reduceBEq]
                simp (maxSteps := 5000000) only [↓qpre, qpost, qfacts, qnorm, m0, m1, m2, m3, m4]
                have hbd : Below wr.heap.size wr wr.drew := (Below.refl _ _).drew
                clear m0 m1 m2 m3 m4 hM hc
                refine ⟨⟨by omega, by omega⟩, ?_⟩
                have hbe := hbd.alloc hbd.size (.cells #[.string x.path, .bool x.del, .bool x.exec, .string x.text] 29)
                refine T.eff_lits (T.run_lits4 E_changes (.string x.path) (.bool x.del) (.bool x.exec) (.string x.text) _) rfl ⟨hT1 _ hbe, ?_⟩
                simp (maxSteps := 5000000) only [↓qpre, qpost, qfacts, qnorm]
                refine eff_call (by kernel_rfl) (apply_any (cs := [x]) ht2 (by omega) (hm.below (hb.trans (hbe.mono hb.size)) hm.lt) (ht1.to hbe hbe.size) ⟨rd_litC3 _ x _ rfl, rfl, fun f hf => by simp only [List.mem_singleton] at hf; subst hf; exact HXF.out⟩) rfl rfl ?_
                rintro e w4 ⟨A4, c4, rfl, h4, hx4⟩
                have hb5 : Below wr.heap.size wr w4 := hbe.trans (hx4.mono hbe.size)
                have hb6 := hb.trans (hb5.mono hb.size)
                have htr := applyF_tree (l := tl) (cs := [x])
                generalize applyF tl [x] = r at *
                obtain ⟨rl, rk⟩ := r
                dsimp only at h4 HTL htr ⊢
                refine ⟨_, rfl, hT1 _ hb5, ?_⟩
                simp (maxSteps := 5000000) only [↓qpre, qpost, qfacts, qnorm]
                refine hQ _ _ ?_
                clear hQ hT1 hT2 ht1 hx4 hbe hbd
                by_cases hz : rk = 0
                · subst hz
                  have hO4 := hO.to hb5
                  have hM4 := hMM.below hb5
                  have hB4 := hBB.re hb5
                  obtain ⟨cur, hg, hsz, _⟩ := hO4.out.row
                  have hlen := treeOk_len (htr rfl)
                  have hO5 := hO4.set (t := ⟨A4, c4, rl⟩) hlt3 ⟨h4, by show rl.length ≤ _; omega⟩ hg
                  have hgm := hO4.noMap hM4.isMap
                  have hgx : bx ≠ g := by
                    rintro rfl
                    have h9 := hB4.2 0 _ rfl
                    obtain ⟨t', _, _, h8⟩ := hO4.out.get (k := 0) (by omega)
                    rw [h8] at h9
                    cases h9
                  have hgr := grown_setRow2 w4 g (cur.toList.take q ++ #[(⟨A4, c4, rl⟩ : TV).hdr].toList ++ cur.toList.drop (q + #[(⟨A4, c4, rl⟩ : TV).hdr].size)).toArray
                  have hM5 := hM4.kept hgr (fun e => hgm (by injection e with e; exact e.symm))
                  have hB5 := hB4.grown hgr (fun e => hgx (by injection e))
                  have hb7 := below_setRow (cs := (cur.toList.take q ++ #[(⟨A4, c4, rl⟩ : TV).hdr].toList ++ cur.toList.drop (q + #[(⟨A4, c4, rl⟩ : TV).hdr].size)).toArray) hb6 hwg
                  generalize hW5 : w4.setRow g (cur.toList.take q ++ #[(⟨A4, c4, rl⟩ : TV).hdr].toList ++ cur.toList.drop (q + #[(⟨A4, c4, rl⟩ : TV).hdr].size)).toArray = W5 at *
                  have HW5 := Lib.hid hW5
                  have HE := Lib.hid (show absFrom x ((vs.set q ⟨A4, c4, rl⟩).map TV.l) (q + 1) (k - (q + 1)) = absFrom x (us.map TV.l) F (k - F) by
                    rw [List.map_set, ← HQ.out, HTL.out, if_pos rfl])
                  clear hW5 htr hO4 hO h4 hb6 hb5 hb hgr hM4 hB4 hMM hBB
                  go_wp2_with (refine wpl_store_one rfl 22 (.tmp 93) (.tmp 92) rfl (v := (⟨A4, c4, rl⟩ : TV).hdr) (by kernel_rfl) rfl rfl rfl hg (by omega) rfl ?_; rw [HW5.out])
                  go_roundw
                  case rel => exact ⟨q + 1, _, DD, nn, by omega, by omega, by go_num, hO5, hb7, hM5, hnn, hB5, Lib.hid (fun e => absurd e (by omega)), HE.out⟩
                  case measure => simp [intOf]; omega
                · have HE := Lib.hid (show absorbF (ts.map TV.l) cs = ([], rk) by
                    have e1 : absOne (ts.map TV.l) (us.map TV.l) x = ([], rk) := by rw [HONE.out, if_neg (by omega), ← HQ.out, HTL.out, if_neg hz]
                    have e2 : absAll (ts.map TV.l) (ts.map TV.l) cs = ([], rk) := by rw [← HA.out, HN.out, e1, if_neg hz]
                    rw [HO.out, e2, if_pos hz])
                  clear htr h4 hb5 hb hO hMM hBB
                  go_wp2
                  go_ret2
                  exact stackErr_none HE.out hb6
              · have HE := Lib.hid (show absAll (ts.map TV.l) (vs.map TV.l) (cs.drop (j + 1)) = absAll (ts.map TV.l) (ts.map TV.l) cs by
                  have e1 : absOne (ts.map TV.l) (us.map TV.l) x = (vs.map TV.l, 0) := by
                    rw [HONE.out]
                    by_cases hF0 : F = 0
                    · rw [if_pos hF0, HZ.out hF0]
                    · obtain rfl : q = k := by omega
                      rw [if_neg hF0, ← HQ.out, Nat.sub_self]; rfl
                  rw [← HA.out, HN.out, e1, if_pos rfl])
                by_cases hF0 : 0 < F
                · obtain rfl : q = k := by omega
                  go_wp2
                  go_roundw
                  case rel => exact ⟨j + 1, vs, DD, nn, by omega, by go_num, hO, hb, hMM, hnn, HE.out⟩
                  case measure => simp [intOf]; omega
                · obtain rfl : F = 0 := by omega
                  go_wp2
                  go_roundw
                  case rel => exact ⟨j + 1, vs, DD, nn, by omega, by go_num, hO, hb, hMM, hnn, HE.out⟩
                  case measure => simp [intOf]; omega
          | false =>
            clear HHF
            go_wp2_with fail
            rw [← HV.out]
            clear hlk hkq bx0
            have C := toucher_any (p := x.path) hn (h.to hbV hbV.size)
            rw [HFE.out] at C
            refine C.mono ?_
            rintro e w4 ⟨rfl, hx4⟩
            have hO4 := hOV.to hx4
            have hM4 := hMV.below hx4
            have hB4 := hBV.re hx4
            have hb4 := hbV.trans (hx4.mono hbV.size)
            clear hOV hMV hBV hbV hx4 C HV
            have bx0 := hB4.2 0 _ rfl
            have hkq := run_keyQ w4 x.path
            have hbm2 := hB4.noMap hM4.isMap
            go_wp2_with (at_mapUpdate; go_loud (refine wpList_mapUpdate_own _ rfl _ _ _ 72 rfl 75 3 KQ Tryz.underlying72 (plainElem Tryz.prog 3) bm nn DD rfl hM4.own (by unfold maxLen; omega) _ _ _ rfl rfl (keyQ hxs) _ [] (plainElem_int Tryz.underlying3 (wf_small (F := F) (by omega))) ?_); intro w5 hown5 hg5; go_frame)
            have hO2 := hO4.mapped hg5 hM4.isMap
            have hB2 := hB4.grown hg5 (fun e => hbm2 (by injection e))
            have hb2 := hb4.grown hg5 hb4.size (fun g hg => by injection hg with hg; omega)
            rw [← HFE.out] at hown5
            have hM2 := hM4.put hxs hown5
            clear hO4 hM4 hB4 hb4 bx0 hkq hbm2 hg5 hown5
            generalize wr.heap.size = bx at *
            go_loopw [14] (fun i wr' => ∃ (q : Nat) (vs : List TV) (DD : DataW Value) (nn : Nat), F ≤ q ∧ (q ≤ k) ∧ i = .int .i64 q ∧ OutF wr' g k vs ∧ Below w.heap.size w wr' ∧ TouchM wr' bm nn DD (ts.map TV.l) ∧ nn ≤ j + 1 ∧ BoxC x bx wr' ∧ Hid (F = 0 → vs = us) ∧ Hid (absFrom x (vs.map TV.l) q (k - q) = absFrom x (us.map TV.l) F (k - F))) (fun i _ => k - (intOf i).toNat)
            case atStart => exact ⟨F, us, _, _, Nat.le_refl _, by omega, rfl, hO2, hb2, hM2, by omega, hB2, Lib.hid (fun _ => rfl), Lib.hid rfl⟩
            case round =>
              clear hO2 hb2 hM2 hB2
              obtain ⟨q, vs, DD, nn, hFq, hqk, rfl, hO, hb, hMM, hnn, hBB, HZ, HQ⟩ := hrel
              by_cases hlt3 : 0 < F ∧ q < k
              · obtain ⟨hF0, hlt3⟩ := hlt3
                obtain ⟨t, ht, htI, hc⟩ := hO.out.get hlt3
                obtain ⟨TA, tc, tl⟩ := t
                dsimp only [TV.hdr] at hc
                obtain ⟨ht1, ht2⟩ := htI
                dsimp only at ht1 ht2
                have HTL := Lib.hid (absFrom_next (c := x) (n := k) (out := vs.map TV.l) hlt3 (show (vs.map TV.l)[q]? = some tl by rw [List.getElem?_map, ht]; rfl))
                clear ht
                have hgl := hO.out.lt
                go_wp2
                refine wp_region_q (fun w' => Below wr.heap.size wr w') [(true, 0), (true, 1), (true, 2), (true, 3), (true, 4), (false, 5), (false, 6), (true, 7), (true, 8), (true, 9), (true, 10), (true, 11)] mixed (by kernel_rfl) (Below.refl _ _).drew ?_
                intro Tp M Q hT1 hT2 hM hQ
                have m0 : M ⟨g, q, none⟩ = some (.slice TA tl.length tc) := hM _ _ fun w' hw => (hw.cell (p := ⟨g, q, none⟩) hgl).trans hc
                have m1 : M ⟨bx, 0, none⟩ = some (.string x.path) := hM _ _ fun w' hw => (hw.cell (p := ⟨bx, 0, none⟩) hBB.1).trans (hBB.2 0 _ rfl)
                have m2 : M ⟨bx, 1, none⟩ = some (.bool x.del) := hM _ _ fun w' hw => (hw.cell (p := ⟨bx, 1, none⟩) hBB.1).trans (hBB.2 1 _ rfl)
                have m3 : M ⟨bx, 2, none⟩ = some (.bool x.exec) := hM _ _ fun w' hw => (hw.cell (p := ⟨bx, 2, none⟩) hBB.1).trans (hBB.2 2 _ rfl)
                have m4 : M ⟨bx, 3, none⟩ = some (.string x.text) := hM _ _ fun w' hw => (hw.cell (p := ⟨bx, 3, none⟩) hBB.1).trans (hBB.2 3 _ rfl)
                simp only [qcmp, Nat.reduceBEq]
                simp (maxSteps := 5000000) only [↓qpre, qpost, qfacts, qnorm, m0, m1, m2, m3, m4]
                have hbd : Below wr.heap.size wr wr.drew := (Below.refl _ _).drew
                clear m0 m1 m2 m3 m4 hM hc
                refine ⟨⟨by omega, by omega⟩, ?_⟩
                have hbe := hbd.alloc hbd.size (.cells #[.string x.path, .bool x.del, .bool x.exec, .string x.text] 29)
                refine T.eff_lits (T.run_lits4 E_changes (.string x.path) (.bool x.del) (.bool x.exec) (.string x.text) _) rfl ⟨hT1 _ hbe, ?_⟩
                simp (maxSteps := 5000000) only [↓qpre, qpost, qfacts, qnorm]
                refine eff_call (by kernel_rfl) (apply_any (cs := [x]) ht2 (by omega) (hm.below (hb.trans (hbe.mono hb.size)) hm.lt) (ht1.to hbe hbe.size) ⟨rd_litC3 _ x _ rfl, rfl, fun f hf => by simp only [List.mem_singleton] at hf; subst hf; exact HXF.out⟩) rfl rfl ?_
                rintro e w4 ⟨A4, c4, rfl, h4, hx4⟩
                have hb5 : Below wr.heap.size wr w4 := hbe.trans (hx4.mono hbe.size)
                have hb6 := hb.trans (hb5.mono hb.size)
                have htr := applyF_tree (l := tl) (cs := [x])
                generalize applyF tl [x] = r at *
                obtain ⟨rl, rk⟩ := r
                dsimp only at h4 HTL htr ⊢
                refine ⟨_, rfl, hT1 _ hb5, ?_⟩
                simp (maxSteps := 5000000) only [↓qpre, qpost, qfacts, qnorm]
                refine hQ _ _ ?_
                clear hQ hT1 hT2 ht1 hx4 hbe hbd
                by_cases hz : rk = 0
                · subst hz
                  have hO4 := hO.to hb5
                  have hM4 := hMM.below hb5
                  have hB4 := hBB.re hb5
                  obtain ⟨cur, hg, hsz, _⟩ := hO4.out.row
                  have hlen := treeOk_len (htr rfl)
                  have hO5 := hO4.set (t := ⟨A4, c4, rl⟩) hlt3 ⟨h4, by show rl.length ≤ _; omega⟩ hg
                  have hgm := hO4.noMap hM4.isMap
                  have hgx : bx ≠ g := by
                    rintro rfl
                    have h9 := hB4.2 0 _ rfl
                    obtain ⟨t', _, _, h8⟩ := hO4.out.get (k := 0) (by omega)
                    rw [h8] at h9
                    cases h9
                  have hgr := grown_setRow2 w4 g (cur.toList.take q ++ #[(⟨A4, c4, rl⟩ : TV).hdr].toList ++ cur.toList.drop (q + #[(⟨A4, c4, rl⟩ : TV).hdr].size)).toArray
                  have hM5 := hM4.kept hgr (fun e => hgm (by injection e with e; exact e.symm))
                  have hB5 := hB4.grown hgr (fun e => hgx (by injection e))
                  have hb7 := below_setRow (cs := (cur.toList.take q ++ #[(⟨A4, c4, rl⟩ : TV).hdr].toList ++ cur.toList.drop (q + #[(⟨A4, c4, rl⟩ : TV).hdr].size)).toArray) hb6 hwg
                  generalize hW5 : w4.setRow g (cur.toList.take q ++ #[(⟨A4, c4, rl⟩ : TV).hdr].toList ++ cur.toList.drop (q + #[(⟨A4, c4, rl⟩ : TV).hdr].size)).toArray = W5 at *
                  have HW5 := Lib.hid hW5
                  have HE := Lib.hid (show absFrom x ((vs.set q ⟨A4, c4, rl⟩).map TV.l) (q + 1) (k - (q + 1)) = absFrom x (us.map TV.l) F (k - F) by
                    rw [List.map_set, ← HQ.out, HTL.out, if_pos rfl])
                  clear hW5 htr hO4 hO h4 hb6 hb5 hb hgr hM4 hB4 hMM hBB
                  go_wp2_with (refine wpl_store_one rfl 22 (.tmp 93) (.tmp 92) rfl (v := (⟨A4, c4, rl⟩ : TV).hdr) (by kernel_rfl) rfl rfl rfl hg (by omega) rfl ?_; rw [HW5.out])
                  go_roundw
                  case rel => exact ⟨q + 1, _, DD, nn, by omega, by omega, by go_num, hO5, hb7, hM5, hnn, hB5, Lib.hid (fun e => absurd e (by omega)), HE.out⟩
                  case measure => simp [intOf]; omega
                · have HE := Lib.hid (show absorbF (ts.map TV.l) cs = ([], rk) by
                    have e1 : absOne (ts.map TV.l) (us.map TV.l) x = ([], rk) := by rw [HONE.out, if_neg (by omega), ← HQ.out, HTL.out, if_neg hz]
                    have e2 : absAll (ts.map TV.l) (ts.map TV.l) cs = ([], rk) := by rw [← HA.out, HN.out, e1, if_neg hz]
                    rw [HO.out, e2, if_pos hz])
                  clear htr h4 hb5 hb hO hMM hBB
                  go_wp2
                  go_ret2
                  exact stackErr_none HE.out hb6
              · have HE := Lib.hid (show absAll (ts.map TV.l) (vs.map TV.l) (cs.drop (j + 1)) = absAll (ts.map TV.l) (ts.map TV.l) cs by
                  have e1 : absOne (ts.map TV.l) (us.map TV.l) x = (vs.map TV.l, 0) := by
                    rw [HONE.out]
                    by_cases hF0 : F = 0
                    · rw [if_pos hF0, HZ.out hF0]
                    · obtain rfl : q = k := by omega
                      rw [if_neg hF0, ← HQ.out, Nat.sub_self]; rfl
                  rw [← HA.out, HN.out, e1, if_pos rfl])
                by_cases hF0 : 0 < F
                · obtain rfl : q = k := by omega
                  go_wp2
                  go_roundw
                  case rel => exact ⟨j + 1, vs, DD, nn, by omega, by go_num, hO, hb, hMM, hnn, HE.out⟩
                  case measure => simp [intOf]; omega
                · obtain rfl : F = 0 := by omega
                  go_wp2
                  go_roundw
                  case rel => exact ⟨j + 1, vs, DD, nn, by omega, by go_num, hO, hb, hMM, hnn, HE.out⟩
                  case measure => simp [intOf]; omega
        · obtain rfl : j = n' := by omega
          have HF := Lib.hid (show absAll (ts.map TV.l) (ts.map TV.l) cs = (us.map TV.l, 0) by rw [← HA.out, List.drop_of_length_le (by rw [HL'.out]; exact Nat.le_refl _)]; rfl)
          have hrs := hO.out.rdS (Nat.le_refl k)
          go_wp2_with fail
          refine (equalS_any (by omega) hrs (h.to hb hb.size)).mono ?_
          rintro e w4 ⟨rfl, hx4⟩
          have hb4 := hb.trans (hx4.mono hb.size)
          have hr4 := hrs.to hx4 hx4.size
          clear hrs hx4 hb hO hMM
          by_cases hq : us.map TV.l = ts.map TV.l
          · have HE := Lib.hid (show absorbF (ts.map TV.l) cs = ([], 14) by rw [HO.out, HF.out, if_neg (by simp), if_pos hq])
            rw [decide_eq_true hq]
            clear hq
            go_wp2
            go_ret2
            exact stackErr_none HE.out hb4
          · have HE := Lib.hid (show absorbF (ts.map TV.l) cs = (us.map TV.l, 0) by rw [HO.out, HF.out, if_neg (by simp), if_neg hq])
            rw [decide_eq_false hq]
            clear hq
            go_wp2
            go_ret2
            exact stackErr_ok HE.out hr4 hb4
end Go.Proofs.YtahlfafcjjkliaaGreatDoor
namespace Go.Proofs.YtahlfafcjjkliaaGreatDoor
open Go.ChangeShapes Go.WideShapes Go.ChangeAt Go.RowKit
theorem trodAll_seven {H : Type} {enc : TypeId × Value → H} {P : Program} {w : World} {base : Nat} {spare : Nat → Bool} {held : Bool} {t0 t1 t2 t3 t4 t5 t6 : TypeId} {args : Array Value} {ds : List (DataW H)} {ps : List MemPlace}
    (h : DataW.TrodAll enc P w base spare held [t0, t1, t2, t3, t4, t5, t6] args.toList ds ps) :
    ∃ v0 v1 v2 v3 v4 v5 v6 d0 d1 d2 d3 d4 d5 d6 p0 p1 p2 p3 p4 p5 p6, args = #[v0, v1, v2, v3, v4, v5, v6] ∧ ds = [d0, d1, d2, d3, d4, d5, d6] ∧ ps = p0 ++ (p1 ++ (p2 ++ (p3 ++ (p4 ++ (p5 ++ p6))))) ∧
      DataW.Trod enc P w base spare held t0 v0 d0 p0 ∧ DataW.Trod enc P w base spare held t1 v1 d1 p1 ∧ DataW.Trod enc P w base spare held t2 v2 d2 p2 ∧ DataW.Trod enc P w base spare held t3 v3 d3 p3 ∧
      DataW.Trod enc P w base spare held t4 v4 d4 p4 ∧ DataW.Trod enc P w base spare held t5 v5 d5 p5 ∧ DataW.Trod enc P w base spare held t6 v6 d6 p6 := by
  obtain ⟨v0, vs, d0, ds', p0, q, e, rfl, rfl, h0, h⟩ := trodAll_cons h
  obtain ⟨v1, vs, d1, ds', p1, q, rfl, rfl, rfl, h1, h⟩ := trodAll_cons h
  obtain ⟨v2, vs, d2, ds', p2, q, rfl, rfl, rfl, h2, h⟩ := trodAll_cons h
  obtain ⟨v3, vs, d3, ds', p3, q, rfl, rfl, rfl, h3, h⟩ := trodAll_cons h
  obtain ⟨v4, vs, d4, ds', p4, q, rfl, rfl, rfl, h4, h⟩ := trodAll_cons h
  obtain ⟨v5, vs, d5, ds', p5, q, rfl, rfl, rfl, h5, h⟩ := trodAll_cons h
  obtain ⟨v6, vs, d6, ds', p6, q, rfl, rfl, rfl, h6, h⟩ := trodAll_cons h
  obtain ⟨rfl, rfl, rfl⟩ := trodAll_nil h
  exact ⟨v0, v1, v2, v3, v4, v5, v6, d0, d1, d2, d3, d4, d5, d6, p0, p1, p2, p3, p4, p5, p6, Array.ext' e, rfl, by simp, h0, h1, h2, h3, h4, h5, h6⟩
end Go.Proofs.YtahlfafcjjkliaaGreatDoor
