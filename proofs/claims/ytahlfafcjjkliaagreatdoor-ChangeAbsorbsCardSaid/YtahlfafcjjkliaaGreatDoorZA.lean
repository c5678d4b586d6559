/- Several texts in one: Plain law: what is absorbed is in the last tree. Walk: the law ChangeAbsorbs. -/
import Derived.Test.YtahlfafcjjkliaaGreatDoorZS
namespace Go.Proofs.YtahlfafcjjkliaaGreatDoor

/-- What a change leaves of a path's file. -/
def wantStep (q : ByteArray) (o : Option FV) (c : ChV) : Option FV := if c.path = q then (if c.del = true then none else some ⟨c.path, c.exec, c.text⟩) else o
theorem applyF_one {t : List FV} {c : ChV} (h : (applyF t [c]).2 = 0) (q : ByteArray) : findP (applyF t [c]).1 q = wantStep q (findP t q) c := by
  have htr := applyF_tree h
  unfold applyF at h htr ⊢
  split at h
  · cases h
  · rename_i h1
    have ht : treeOk t = true := by simpa using h1
    have hrt := (treeOk_iff.1 ht).2.2.1
    rw [if_neg h1] at htr ⊢
    rw [if_neg (by simp)] at h htr ⊢
    rw [applyGo] at h htr ⊢
    by_cases h2 : (applyOne t c).2 = 0
    · rw [if_pos h2, applyGo] at htr ⊢
      dsimp only at htr ⊢
      clear h
      unfold applyOne at h2 htr ⊢
      unfold wantStep
      by_cases hd : c.del = true
      · rw [if_pos hd] at h2 htr ⊢
        rw [if_pos hd]
        unfold dropF at h2 htr ⊢
        rw [if_neg (by rw [ht]; decide)] at h2 htr ⊢
        split at h2
        · cases h2
        · rename_i h3
          rw [if_neg h3] at htr ⊢
          by_cases e : c.path = q
          · rw [if_pos e, ← e]
            exact findP_none.2 (hasP_without _ _)
          · rw [if_neg e]
            refine findP_ext (without_rise hrt _) hrt fun g hg => ?_
            rw [without_mem]
            exact ⟨fun h => h.1, fun h => ⟨h, fun e2 => e (by rw [← e2, hg])⟩⟩
      · rw [if_neg hd] at h2 htr ⊢
        rw [if_neg hd]
        by_cases hk : PutOk t ⟨c.path, c.exec, c.text⟩
        · rw [putF_ok hk]
          by_cases e : c.path = q
          · rw [if_pos e, ← e]; exact hk.found
          · rw [if_neg e]; exact (hk.other (fun e2 => e e2.symm)).symm
        · exact absurd h2 (putF_no hk).1
    · rw [if_neg h2] at h
      exact absurd h h2
theorem absFrom_low (c : ChV) : ∀ (m : Nat) (out : List (List FV)) (k i : Nat), (absFrom c out k m).2 = 0 → i < k → (absFrom c out k m).1.getD i [] = out.getD i []
  | 0, _, _, _, _, _ => rfl
  | m + 1, out, k, i, h, hi => by
    rw [absFrom] at h ⊢
    split at h
    · rename_i h1
      rw [if_pos h1, absFrom_low c m _ (k + 1) i h (by omega)]
      rw [List.getD_eq_getElem?_getD, List.getElem?_set_ne (by omega), ← List.getD_eq_getElem?_getD]
    · rename_i h1
      exact absurd h h1
theorem absFrom_last (c : ChV) : ∀ (m : Nat) (out : List (List FV)) (k : Nat), (absFrom c out k (m + 1)).2 = 0 → k + m + 1 ≤ out.length →
    (applyF (out.getD (k + m) []) [c]).2 = 0 ∧ (absFrom c out k (m + 1)).1.getD (k + m) [] = (applyF (out.getD (k + m) []) [c]).1
  | 0, out, k, h, hl => by
    rw [absFrom] at h ⊢
    split at h
    · rename_i h1
      rw [if_pos h1]
      refine ⟨h1, ?_⟩
      rw [absFrom, Nat.add_zero, List.getD_eq_getElem?_getD, List.getElem?_set_self (by omega)]
      rfl
    · rename_i h1
      exact absurd h h1
  | m + 1, out, k, h, hl => by
    rw [absFrom] at h ⊢
    split at h
    · rename_i h1
      rw [if_pos h1]
      have ih := absFrom_last c m (out.set k (applyF (out.getD k []) [c]).1) (k + 1) h (by rw [List.length_set]; omega)
      have e : (out.set k (applyF (out.getD k []) [c]).1).getD (k + 1 + m) [] = out.getD (k + (m + 1)) [] := by
        rw [List.getD_eq_getElem?_getD, List.getElem?_set_ne (by omega), ← List.getD_eq_getElem?_getD, show k + 1 + m = k + (m + 1) by omega]
      rw [e, show k + 1 + m = k + (m + 1) by omega] at ih
      exact ih
    · rename_i h1
      exact absurd h h1
theorem absAll_first {L : List (List FV)} : ∀ (cs : List ChV) {out : List (List FV)}, (absAll L out cs).2 = 0 → (absAll L out cs).1.getD 0 [] = out.getD 0 []
  | [], _, _ => rfl
  | c :: cs, out, h => by
    rw [absAll] at h ⊢
    split at h
    · rename_i h1
      rw [if_pos h1, absAll_first cs h]
      unfold absOne at h1 ⊢
      split
      · rfl
      · rename_i h2
        rw [if_neg h2] at h1
        exact absFrom_low c _ _ _ 0 h1 (by omega)
    · rename_i h1
      exact absurd h h1
theorem absAll_last {L : List (List FV)} (hL : 0 < L.length) (q : ByteArray) : ∀ (cs : List ChV) {out : List (List FV)}, out.length = L.length → (absAll L out cs).2 = 0 →
    findP ((absAll L out cs).1.getD (L.length - 1) []) q = if touchF L q = 0 then findP (out.getD (L.length - 1) []) q else cs.foldl (wantStep q) (findP (out.getD (L.length - 1) []) q)
  | [], out, _, _ => by simp [absAll]
  | c :: cs, out, hl, h => by
    rw [absAll] at h ⊢
    split at h
    · rename_i h1
      rw [if_pos h1, absAll_last hL q cs (by rw [absOne_len h1]; exact hl) h, List.foldl_cons]
      have hlt := touchF_lt (L := L) (p := c.path) hL
      by_cases h2 : touchF L c.path = 0
      · rw [show absOne L out c = (out, 0) by rw [absOne, if_pos h2]]
        dsimp only
        by_cases h3 : touchF L q = 0
        · rw [if_pos h3, if_pos h3]
        · rw [if_neg h3, if_neg h3]
          have hne : ¬ c.path = q := fun e => h3 (by rw [← e]; exact h2)
          rw [show wantStep q (findP (out.getD (L.length - 1) []) q) c = findP (out.getD (L.length - 1) []) q by rw [wantStep, if_neg hne]]
      · have e1 : absOne L out c = absFrom c out (touchF L c.path) (out.length - touchF L c.path) := by rw [absOne, if_neg h2]
        rw [e1] at h1 ⊢
        obtain ⟨m, hm⟩ : ∃ m, out.length - touchF L c.path = m + 1 := ⟨out.length - touchF L c.path - 1, by omega⟩
        rw [hm] at h1 ⊢
        obtain ⟨k1, k2⟩ := absFrom_last c m out (touchF L c.path) h1 (by omega)
        rw [show touchF L c.path + m = L.length - 1 by omega] at k1 k2
        rw [k2, applyF_one k1 q]
        by_cases h3 : touchF L q = 0
        · rw [if_pos h3, if_pos h3]
          have hne : ¬ c.path = q := fun e => h2 (by rw [e]; exact h3)
          rw [wantStep, if_neg hne]
        · rw [if_neg h3, if_neg h3]
    · rename_i h1
      exact absurd h h1
/-- What the law asks. -/
structure AbsOk (L X : List (List FV)) (cs : List ChV) : Prop where
  len : X.length = L.length
  two : 2 ≤ L.length
  first : X.getD 0 [] = L.getD 0 []
  last : ∀ q, findP (X.getD (L.length - 1) []) q = if touchF L q = 0 then findP (L.getD (L.length - 1) []) q else cs.foldl (wantStep q) (findP (L.getD (L.length - 1) []) q)
theorem absorb_ok {L : List (List FV)} {cs : List ChV} (h : (absorbF L cs).2 = 0) : AbsOk L (absorbF L cs).1 cs := by
  unfold absorbF at h ⊢
  split at h
  · cases h
  · rename_i h1
    rw [if_neg h1]
    split at h
    · rename_i h2; exact absurd h h2
    · rename_i h2
      rw [if_neg h2]
      split at h
      · cases h
      · rename_i h3
        rw [if_neg h3]
        have h4 : (absAll L L cs).2 = 0 := by simpa using h2
        have h5 : 2 ≤ L.length := Nat.le_of_not_lt fun e => h1 (.inl e)
        exact ⟨absAll_len cs h4, h5, absAll_first cs h4, fun q => absAll_last (by omega) q cs rfl h4⟩
theorem absorb_no {L : List (List FV)} {cs : List ChV} (h : (absorbF L cs).2 ≠ 0) : (absorbF L cs).1 = [] := by
  unfold absorbF at h ⊢
  split
  · rfl
  · split
    · rfl
    · split
      · rfl
      · rename_i h1 h2 h3
        rw [if_neg h1, if_neg h2, if_neg h3] at h
        exact absurd rfl h
end Go.Proofs.YtahlfafcjjkliaaGreatDoor
namespace Go.Proofs.YtahlfafcjjkliaaGreatDoor
open Go.RowKit

theorem owns_lit1 (w : World) (p : ByteArray) : (w.alloc (.cells #[.string p] 9)).ownsRow w.heap.size 9 1 (.slice (some ⟨w.heap.size, 0, none⟩) 1 1) 1 [.string p] :=
  ⟨rfl, .inr ⟨w.heap.size, 1, #[.string p], rfl, Nat.le_refl _, heap_alloc_new _ _, Nat.le_refl _, by unfold maxLen; omega, rfl, rfl⟩⟩
theorem getD_map {ts : List TV} {k : Nat} {t : TV} (h : ts[k]? = some t) : (ts.map TV.l).getD k [] = t.l := by
  rw [List.getD_eq_getElem?_getD, List.getElem?_map, h]; rfl
/-- What a path's file should be, by the first changes. -/
def wantTo (q : ByteArray) (o : Option FV) (c : List ChV) (j : Nat) : Option FV := (c.take j).foldl (wantStep q) o
theorem wantTo_next {q : ByteArray} {o : Option FV} {c : List ChV} {j : Nat} {x : ChV} (h : c[j]? = some x) : wantTo q o c (j + 1) = wantStep q (wantTo q o c j) x := by
  rw [wantTo, List.take_add_one, h, List.foldl_append]; rfl
set_option maxRecDepth 100000 in
set_option maxHeartbeats 64000000 in
theorem changeAbsorbs_any {A A' : Option Addr} {cl cc : Nat} {ts : List TV} {c : List ChV} {p : ByteArray} {w : World} (hm : Lm w) (hl5 : ts.length ≤ 17592186044416) (hl3 : c.length ≤ 3518437208782)
    (hs : RdS w w.heap.size A ts.length cl ts) (hc : RdC w w.heap.size A' c.length cc c) :
    Calls Tryz.prog 5 #[.slice A ts.length cl, .slice A' c.length cc, .string p] w (BoolBelow true w) := by
  have hw : Below w.heap.size w w := Below.refl _ _
  go_enter Tryz.func5, Tryz.ntmps5
  go_wp2_with fail
  refine (few22_any hl5 (by omega) hs hc).mono ?_
  rintro e v1 ⟨⟨f, rfl, hf⟩, hv⟩
  subst hv
  cases f with
  | false =>
    clear hf
    go_wp2_with fail
    refine (awake22_any hm).mono ?_
    rintro e v2 ⟨rfl, hx⟩
    go_wp2
    go_ret
    exact ⟨rfl, hx⟩
  | true =>
    have hn8 := hf rfl
    clear hf
    go_wp2_with fail
    refine (stackOf_any (by omega) hs).mono ?_
    rintro e v2 ⟨A9, c9, us, rfl, hus, rs, hx⟩
    replace hw := hw.trans (hx.mono hw.size)
    replace hm := hm.below hx hm.lt
    replace hc := hc.to hx hx.size
    clear hx hs
    have hul : us.length ≤ 8 := by
      have := congrArg List.length hus
      simp only [List.length_map] at this
      omega
    have HU30 := Lib.hid (show ∀ t ∈ us, t.l.length ≤ 30 from fun t ht => by
      have h1 : t.l ∈ us.map TV.l := List.mem_map.2 ⟨t, ht, rfl⟩
      rw [hus] at h1
      obtain ⟨s, _, e⟩ := List.mem_map.1 h1
      rw [← e]; exact playF_len s)
    clear hus
    have C := absorb_any (by omega) (by omega) hm rs hc
    have HOK := Lib.hid (show (absorbF (us.map TV.l) c).2 = 0 → AbsOk (us.map TV.l) (absorbF (us.map TV.l) c).1 c from absorb_ok)
    have HNO := Lib.hid (show (absorbF (us.map TV.l) c).2 ≠ 0 → (absorbF (us.map TV.l) c).1 = [] from absorb_no)
    generalize absorbF (us.map TV.l) c = r at *
    obtain ⟨X, kk⟩ := r
    dsimp only at C HOK HNO
    go_wp2_with fail
    refine C.mono ?_
    rintro e v3 ⟨A5, c5, xs, rfl, e5, h5, hx⟩
    dsimp only at e5 ⊢
    replace hw := hw.trans (hx.mono hw.size)
    replace hm := hm.below hx hm.lt
    replace hc := hc.to hx hx.size
    replace rs := rs.to hx hx.size
    clear hx C
    have HE5 := Lib.hid e5
    clear e5
    go_wp2_with fail
    refine (awake22_any hm).mono ?_
    rintro e v4 ⟨rfl, hx⟩
    replace hw := hw.trans (hx.mono hw.size)
    replace hm := hm.below hx hm.lt
    replace hc := hc.to hx hx.size
    replace rs := rs.to hx hx.size
    replace h5 := h5.to hx hx.size
    clear hx
    by_cases hk : kk = 0
    · subst hk
      have HAK := Lib.hid (HOK.out rfl)
      clear HOK HNO
      have hxl : xs.length = us.length := by
        have h1 := HAK.out.len
        rw [← HE5.out, List.length_map, List.length_map] at h1
        exact h1
      have hn2 : 2 ≤ us.length := by have := HAK.out.two; rw [List.length_map] at this; exact this
      have HLN := Lib.hid (show (us.map TV.l).length = us.length from List.length_map ..)
      rw [hxl] at h5 ⊢
      clear hxl
      generalize us.length = n at *
      obtain ⟨b0, o0, u0, rfl, hbb0, hu0, hu0I, g0⟩ := rs.get (k := 0) (by omega)
      obtain ⟨_, _, ul, e0, _, hul9, hulI, g1⟩ := rs.get (k := n - 1) (by omega)
      cases e0
      obtain ⟨b1, o1, x0, rfl, hbb1, hx0, hx0I, g2⟩ := h5.get (k := 0) (by omega)
      obtain ⟨_, _, xl, e0, _, hxl9, hxlI, g3⟩ := h5.get (k := n - 1) (by omega)
      cases e0
      have HFI : x0.l = u0.l := by
        have h1 := HAK.out.first
        rw [← HE5.out, getD_map hx0, getD_map hu0] at h1
        exact h1
      have HLA := Lib.hid (show ∀ q, findP xl.l q = if touchF (us.map TV.l) q = 0 then findP ul.l q else c.foldl (wantStep q) (findP ul.l q) from fun q => by
        have h1 := HAK.out.last q
        rw [HLN.out, ← HE5.out, getD_map hxl9, getD_map hul9] at h1
        exact h1)
      have hul30 := HU30.out ul (List.mem_of_getElem? hul9)
      clear HAK HE5 HU30 hu0 hul9 hx0 hxl9 HLN
      obtain ⟨UA, uc, u0⟩ := u0
      obtain ⟨LA, lc, ul⟩ := ul
      obtain ⟨XA, xc, x0⟩ := x0
      obtain ⟨YA, yc, xl⟩ := xl
      dsimp only [TV.hdr] at g0 g1 g2 g3 HFI HLA hul30
      subst HFI
      obtain ⟨ru0, lu0⟩ := hu0I
      obtain ⟨rt, lt⟩ := hulI
      obtain ⟨rx0, lx0⟩ := hx0I
      obtain ⟨rxl, RXL⟩ := hxlI
      dsimp only at ru0 lu0 rt lt rx0 lx0 rxl RXL
      go_wp2
      have hbd : Below v4.heap.size v4 v4.drew := (Below.refl _ _).drew
      refine wp_region_q (fun w' => Below v4.heap.size v4 w') [(true, 0), (true, 1), (true, 2), (true, 3), (true, 4), (true, 5), (true, 6), (true, 7), (true, 8), (true, 9), (true, 10), (true, 11), (true, 12), (true, 13), (true, 14), (true, 15), (true, 16), (false, 17), (true, 18), (true, 19)] mixed (by kernel_rfl) hbd ?_
      intro Tp M Q hT1 hT2 hM hQ
      have m0 : M ⟨b0, o0, none⟩ = some (.slice UA x0.length uc) := hM _ _ fun w' hw => (hw.cell (p := ⟨b0, o0, none⟩) hbb0).trans g0
      have m1 : M ⟨b1, o1, none⟩ = some (.slice XA x0.length xc) := hM _ _ fun w' hw => (hw.cell (p := ⟨b1, o1, none⟩) hbb1).trans g2
      have k1 : decide ((n : Int) < 2) = false := decide_eq_false (by omega)
      simp only [qcmp, Nat.reduceBEq]
      simp (maxSteps := 5000000) only [↓qpre, qpost, qfacts, qnorm, m0, m1, k1]
      refine ⟨⟨by omega, by omega⟩, ⟨by omega, by omega⟩, ?_⟩
      refine eff_call (by kernel_rfl) (plainF_any lx0 lu0 (rx0.to hbd hbd.size).row (ru0.to hbd hbd.size).row rfl rfl) rfl rfl ?_
      rintro e v5 ⟨rfl, hx5⟩
      rw [decide_eq_true (rfl : x0 = x0)]
      have hx := hbd.trans (hx5.mono hbd.size)
      refine ⟨_, rfl, hT1 _ hx, ?_⟩
      simp (maxSteps := 5000000) only [↓qpre, qpost, qfacts, qnorm]
      refine hQ _ _ ?_
      clear hQ hT1 hT2 hM m0 m1 k1 hx5 hbd ru0 rx0 g0 g2
      replace hw := hw.trans (hx.mono hw.size)
      replace hm := hm.below hx hm.lt
      replace hc := hc.to hx hx.size
      replace rs := rs.to hx hx.size
      replace rt := rt.to hx hx.size
      replace rxl := rxl.to hx hx.size
      replace g1 := (hx.cell (p := ⟨b0, o0 + (n - 1), none⟩) hbb0).trans g1
      replace g3 := (hx.cell (p := ⟨b1, o1 + (n - 1), none⟩) hbb1).trans g3
      have hbb0' := Nat.lt_of_lt_of_le hbb0 hx.size
      have hbb1' := Nat.lt_of_lt_of_le hbb1 hx.size
      clear hx hbb0 hbb1 h5
      go_wp2
      have hx : Below v5.heap.size v5 v5.drew := (Below.refl _ _).drew
      refine wp_region_q (fun w' => Below v5.heap.size v5 w') [(true, 0), (true, 1), (true, 2), (true, 3), (true, 4), (true, 5), (true, 6), (true, 7), (true, 8), (true, 9), (true, 10), (true, 11), (true, 12), (true, 13)] mixed (by kernel_rfl) hx ?_
      intro Tp M Q hT1 hT2 hM hQ
      have m0 : M ⟨b0, o0 + (n - 1), none⟩ = some (.slice LA ul.length lc) := hM _ _ fun w' hw => (hw.cell (p := ⟨b0, o0 + (n - 1), none⟩) hbb0').trans g1
      have m1 : M ⟨b1, o1 + (n - 1), none⟩ = some (.slice YA xl.length yc) := hM _ _ fun w' hw => (hw.cell (p := ⟨b1, o1 + (n - 1), none⟩) hbb1').trans g3
      have e1 : ((n : Int) - 1).toNat = n - 1 := by omega
      simp only [qcmp, Nat.reduceBEq]
      simp (maxSteps := 5000000) only [↓qpre, qpost, qfacts, qnorm, m0, m1, e1]
      refine ⟨⟨by omega, by omega⟩, ⟨by omega, by omega⟩, ⟨by omega, by omega⟩, ⟨by omega, by omega⟩, ?_⟩
      refine hQ _ _ ?_
      clear hQ hT1 hT2 hM m0 m1 e1 g1 g3 hbb0' hbb1'
      replace hw := hw.trans (hx.mono hw.size)
      replace hm := hm.below hx hm.lt
      replace hc := hc.to hx hx.size
      replace rs := rs.to hx hx.size
      replace rt := rt.to hx hx.size
      replace rxl := rxl.to hx hx.size
      clear hx
      generalize v5.drew = v6 at *
      have ho0 := owns_lit1 v6 p
      have hy0 : Below v6.heap.size v6 (v6.alloc (.cells #[.string p] 9)) := (Below.refl _ _).alloc (Nat.le_refl _) _
      have HCL := Lib.hid hc.len
      go_wp2
      go_loopw [12, 13] (fun sv i wr => ∃ k : Nat, k ≤ ul.length ∧ i = .int .i64 k ∧ Below v6.heap.size v6 wr ∧ wr.ownsRow v6.heap.size 9 1 sv (1 + k) (([p] ++ (ul.take k).map FV.path).map .string)) (fun _ i _ => ul.length - (intOf i).toNat)
      case atStart => exact ⟨0, by omega, rfl, hy0, by rw [List.take_zero, List.map_nil, List.append_nil]; exact ho0⟩
      case round =>
        clear hy0 ho0
        obtain ⟨k, hk, rfl, hb, ho⟩ := hrel
        by_cases hlt : k < ul.length
        · obtain ⟨b3, o3, f, rfl, hbb, hx, hfm, h0, _, _⟩ := rt.get hlt
          replace h0 := (hb.cell (p := ⟨b3, o3 + k * 3, none⟩) (by show b3 < _; omega)).trans h0
          have HT := Lib.hid (show (ul.take (k + 1)).map FV.path = (ul.take k).map FV.path ++ [f.path] by rw [List.take_add_one, hx]; simp)
          have hb1 := hb.alloc hb.size (.cells #[.string f.path] 9)
          have ho1 := ho.alloc (.cells #[.string f.path] 9)
          clear hx ho
          go_wp2_with (at_builtin; refine wpl_append rfl (.tmp 86) (.tmp 92) 24 rfl E_strs2 rfl rfl ho1 (rd_litS3 _ f.path _ rfl) (oneCell_str [f.path]) (by unfold maxLen; omega) (by omega) hb1.size ?_; intro v9 w9 ho9 hg9 hv9)
          go_roundw
          case rel =>
            refine ⟨k + 1, by omega, by go_num, hb1.grown hg9 hb1.size (fun g hg => (ho1.lt g hg).1), ?_⟩
            rw [HT.out, ← List.append_assoc, List.map_append]
            exact ho9
          case measure => simp [intOf]; omega
        · obtain rfl : k = ul.length := by omega
          rw [List.take_length] at ho
          go_wp2
          go_loopw [12, 14] (fun sv i wr => ∃ k : Nat, k ≤ c.length ∧ i = .int .i64 k ∧ Below v6.heap.size v6 wr ∧ wr.ownsRow v6.heap.size 9 1 sv (1 + ul.length + k) (([p] ++ ul.map FV.path ++ (c.take k).map ChV.path).map .string)) (fun _ i _ => c.length - (intOf i).toNat)
          case atStart => exact ⟨0, by omega, rfl, hb, by rw [List.take_zero, List.map_nil, List.append_nil]; exact ho⟩
          case round =>
            clear hb ho
            obtain ⟨k, hk, rfl, hb, ho⟩ := hrel
            by_cases hlt : k < c.length
            · obtain ⟨b3, o3, f, rfl, hbb, hx, hfm, h0, _, _, _⟩ := hc.get hlt
              replace h0 := (hb.cell (p := ⟨b3, o3 + k * 4, none⟩) (by show b3 < _; omega)).trans h0
              have HT := Lib.hid (show (c.take (k + 1)).map ChV.path = (c.take k).map ChV.path ++ [f.path] by rw [List.take_add_one, hx]; simp)
              have hb1 := hb.alloc hb.size (.cells #[.string f.path] 9)
              have ho1 := ho.alloc (.cells #[.string f.path] 9)
              clear hx ho
              go_wp2_with (at_builtin; refine wpl_append rfl (.tmp 100) (.tmp 106) 24 rfl E_strs2 rfl rfl ho1 (rd_litS3 _ f.path _ rfl) (oneCell_str [f.path]) (by unfold maxLen; omega) (by omega) hb1.size ?_; intro v9 w9 ho9 hg9 hv9)
              go_roundw
              case rel =>
                refine ⟨k + 1, by omega, by go_num, hb1.grown hg9 hb1.size (fun g hg => (ho1.lt g hg).1), ?_⟩
                rw [HT.out, ← List.append_assoc, List.map_append]
                exact ho9
              case measure => simp [intOf]; omega
            · obtain rfl : k = c.length := by omega
              rw [List.take_length] at ho
              obtain ⟨N, hN⟩ : ∃ N, 1 + ul.length + c.length = N := ⟨_, rfl⟩
              have hN2 : N ≤ 3518437209000 := by omega
              rw [hN] at ho
              obtain ⟨As, cs, rfl, hcs⟩ := ownsRow_cap ho
              have hS := Rd.of_own ho hcs
              generalize [p] ++ ul.map FV.path ++ c.map ChV.path = S at hS
              replace hw := hw.trans (hb.mono hw.size)
              replace hm := hm.below hb hm.lt
              replace hc := hc.to hb hb.size
              replace rs := rs.to hb hb.size
              replace rt := rt.to hb hb.size
              replace rxl := rxl.to hb hb.size
              obtain ⟨U, hU⟩ : ∃ U, U = wr := ⟨_, rfl⟩
              rw [← hU] at hS hw hm hc rs rt rxl
              have hst : Below U.heap.size U wr := by rw [hU]; exact Below.refl _ _
              have hi24 : (Tryz.prog.info? 35).map (·.size) = some 3 := by kernel_rfl
              clear hb ho hN hcs hU
              go_wp2
              go_loopw [15] (fun i wr => ∃ k : Nat, k ≤ N ∧ i = .int .i64 k ∧ Below U.heap.size U wr) (fun i _ => N - (intOf i).toNat)
              case atStart => exact ⟨0, by omega, rfl, hst⟩
              case round =>
                clear hst
                obtain ⟨k, hk, rfl, hb⟩ := hrel
                by_cases hlt : k < N
                · obtain ⟨b3, o3, q, rfl, hbb, hq, h0⟩ := hS.str hlt
                  have h1 := (hb.cell (p := ⟨b3, o3 + k, none⟩) hbb).trans h0
                  have HQL := Lib.hid (HLA.out q)
                  clear hq
                  go_wp2_with fail
                  refine (rfind_any (p := q) lt (rt.to hb hb.size)).mono ?_
                  rintro e x1 ⟨rfl, hx1⟩
                  have hb1 := hb.trans (hx1.mono hb.size)
                  obtain ⟨x2, hx2⟩ : ∃ u, u = x1.alloc (.cells #[.string (optF (findP ul q)).path, .bool (optF (findP ul q)).exec, .string (optF (findP ul q)).text] 35) := ⟨_, rfl⟩
                  have hb2 : Below U.heap.size U x2 := by rw [hx2]; exact hb1.alloc hb1.size _
                  have hbx0 : x2.heap[x1.heap.size]? = some (.cells #[.string (optF (findP ul q)).path, .bool (optF (findP ul q)).exec, .string (optF (findP ul q)).text] 35 (0, 0)) := by rw [hx2]; exact heap_alloc_new _ _
                  have hle := hb1.size
                  have HX2 := Lib.hid hx2
                  clear hx2 hx1 h1 hb hb1
                  go_wp2
                  rw [← HX2.out]
                  clear HX2
                  generalize x1.heap.size = bx at *
                  go_loopw [17, 18] (fun sv i wr => ∃ (j : Nat) (s : Bool) (g : FV), j ≤ c.length ∧ i = .int .i64 j ∧ sv = .bool s ∧ Below U.heap.size U wr ∧ wr.heap[bx]? = some (.cells #[.string g.path, .bool g.exec, .string g.text] 35 (0, 0)) ∧ Hid (s = (wantTo q (findP ul q) c j).isSome ∧ (s = true → g = optF (wantTo q (findP ul q) c j))) ∧ Hid (touchF (us.map TV.l) q = 0 → j = 0)) (fun _ i _ => c.length - (intOf i).toNat)
                  case atStart => exact ⟨0, _, _, by omega, rfl, rfl, hb2, hbx0, Lib.hid ⟨rfl, fun _ => rfl⟩, Lib.hid (fun _ => rfl)⟩
                  case round =>
                    clear hb2 hbx0
                    obtain ⟨j, s, g, hj, rfl, rfl, hb, hbox, HS, HZ⟩ := hrel
                    by_cases hltj : j < c.length
                    · obtain ⟨b4, o4, x, rfl, hbb4, hx, hxm, k0, k1, k2, k3⟩ := hc.get hltj
                      have HX := Lib.hid (wantTo_next (q := q) (o := findP ul q) hx)
                      clear hx
                      have h1 := (hb.cell (p := ⟨b3, o3 + k, none⟩) hbb).trans h0
                      go_wp2_with fail
                      refine (rtoucher_any (p := q) (by omega) (rs.to hb hb.size)).mono ?_
                      rintro e x3 ⟨rfl, hx3⟩
                      have hbd := hb.trans (hx3.mono hb.size)
                      have hbox3 := (hx3.block bx (Array.getElem?_eq_some_iff.1 hbox).1).trans hbox
                      clear hx3 hb hbox h1
                      by_cases hF : touchF (us.map TV.l) q = 0
                      · have HW := Lib.hid (show s = (findP xl q).isSome ∧ (s = true → g = optF (findP xl q)) by
                          have h8 := HS.out
                          rw [HZ.out hF] at h8
                          rw [HQL.out, if_pos hF]
                          exact h8)
                        have hbox := hbox3
                        have h1 := (hbd.cell (p := ⟨b3, o3 + k, none⟩) hbb).trans h0
                        rw [hF]
                        clear HS HZ HX hF hbox3 k0 k1 k2 k3
                        go_wp2_with fail
                        refine (rfind_any (p := q) RXL (rxl.to hbd hbd.size)).mono ?_
                        rintro e y1 ⟨rfl, hy1⟩
                        have hbe := hbd.trans (hy1.mono hbd.size)
                        have hbox1 := (hy1.block bx (Array.getElem?_eq_some_iff.1 hbox).1).trans hbox
                        have hltx := Nat.lt_of_lt_of_le (Array.getElem?_eq_some_iff.1 hbox).1 hy1.size
                        obtain ⟨hs1, hs2⟩ := HW.out
                        clear HW
                        generalize optF (findP xl q) = ga at *
                        generalize (findP xl q).isSome = ia at *
                        subst hs1
                        obtain ⟨y2, hy2⟩ : ∃ u, u = y1.alloc (.cells #[.string ga.path, .bool ga.exec, .string ga.text] 35) := ⟨_, rfl⟩
                        have hy3 : Below y1.heap.size y1 y2 := by rw [hy2]; exact (Below.refl _ _).alloc (Nat.le_refl _) _
                        have hbf := hbe.trans (hy3.mono hbe.size)
                        have xb : Box ga y1.heap.size y2 := by rw [hy2]; exact Box.new _ _
                        have hbox2 := (hy3.block bx hltx).trans hbox1
                        have HY2 := Lib.hid hy2
                        clear hbox hbox1 hltx hy1 hy3 hbe hbd
                        cases s with
                        | false =>
                          clear hs2 xb hbox2 hy2
                          go_wp2
                          rw [← HY2.out]
                          go_roundw
                          case rel => exact ⟨k + 1, by omega, by go_num, hbf⟩
                          case measure => simp [intOf]; omega
                        | true =>
                          obtain rfl := hs2 rfl
                          clear hs2
                          have b0 := xb.2 0 _ rfl
                          have b1 := xb.2 1 _ rfl
                          have b2 := xb.2 2 _ rfl
                          have d0 : y2.cell? ⟨bx, 0, none⟩ = some (.string g.path) := by rw [World.cell?, hbox2]; rfl
                          have d1 : y2.cell? ⟨bx, 1, none⟩ = some (.bool g.exec) := by rw [World.cell?, hbox2]; rfl
                          have d2 : y2.cell? ⟨bx, 2, none⟩ = some (.string g.text) := by rw [World.cell?, hbox2]; rfl
                          rw [hy2] at b0 b1 b2 d0 d1 d2
                          clear hbox2 xb hy2
                          go_wp2
                          rw [← HY2.out]
                          go_roundw
                          case rel => exact ⟨k + 1, by omega, by go_num, hbf⟩
                          case measure => simp [intOf]; omega
                      · have HF := Lib.hid hF
                        generalize hFF : touchF (us.map TV.l) q = F at *
                        have HFF := Lib.hid hFF
                        clear hFF
                        have hF0 : 0 < F := by omega
                        have hsb := hbd.size
                        go_wp2
                        refine wp_region_q (fun w' => Below U.heap.size U w' ∧ w'.heap[bx]? = some (.cells #[.string g.path, .bool g.exec, .string g.text] 35 (0, 0))) (qs 10) mixed (by kernel_rfl) ⟨hbd.drew, hbox3⟩ ?_
                        intro Tp M Q hT1 hT2 hM hQ
                        have m0 : M ⟨b4, o4 + j * 4, none⟩ = some (.string x.path) := hM _ _ fun w' hw => (hw.1.cell (p := ⟨b4, o4 + j * 4, none⟩) hbb4).trans k0
                        have m1 : M ⟨b3, o3 + k, none⟩ = some (.string q) := hM _ _ fun w' hw => (hw.1.cell (p := ⟨b3, o3 + k, none⟩) hbb).trans h0
                        simp only [qcmp, Nat.reduceBEq]
                        by_cases hq : x.path = q
                        · have e1 : (x.path.toList == q.toList) = true := by rw [hq]; exact beq_self_eq_true _
                          have HN := Lib.hid (show wantTo q (findP ul q) c (j + 1) = if x.del = true then none else some ⟨x.path, x.exec, x.text⟩ by rw [HX.out, wantStep, if_pos hq])
                          simp (maxSteps := 5000000) only [↓qpre, qpost, qfacts, qnorm, m0, m1, e1]
                          refine ⟨⟨by omega, by omega⟩, ⟨by omega, by omega⟩, hQ _ _ ?_⟩
                          clear hQ hT1 hT2 hM m0 m1 e1
                          cases hd : x.del with
                          | true =>
                            rw [hd] at k1
                            go_wp2
                            refine wp_region_q (fun w' => Below U.heap.size U w') [(true, 0), (true, 1), (true, 2), (true, 3), (true, 4), (true, 5), (true, 6), (true, 7), (true, 8), (true, 9), (true, 10), (true, 11), (true, 12), (true, 13), (true, 14), (true, 16), (true, 17), (true, 18), (true, 19), (true, 20), (true, 21), (false, 15), (false, 22), (true, 23)] mixed (by kernel_rfl) hbd.drew.drew ?_
                            intro Tp M Q hT1 hT2 hM hQ
                            have m0 : M ⟨b4, o4 + j * 4, none⟩ = some (.string x.path) := hM _ _ fun w' hw => (hw.cell (p := ⟨b4, o4 + j * 4, none⟩) hbb4).trans k0
                            have m1 : M ⟨b4, o4 + j * 4 + 1, none⟩ = some (.bool true) := hM _ _ fun w' hw => (hw.cell (p := ⟨b4, o4 + j * 4 + 1, none⟩) hbb4).trans k1
                            have m2 : M ⟨b4, o4 + j * 4 + 2, none⟩ = some (.bool x.exec) := hM _ _ fun w' hw => (hw.cell (p := ⟨b4, o4 + j * 4 + 2, none⟩) hbb4).trans k2
                            have m3 : M ⟨b4, o4 + j * 4 + 3, none⟩ = some (.string x.text) := hM _ _ fun w' hw => (hw.cell (p := ⟨b4, o4 + j * 4 + 3, none⟩) hbb4).trans k3
                            simp only [qcmp, Nat.reduceBEq]
                            simp (maxSteps := 5000000) only [↓qpre, qpost, qfacts, qnorm, m0, m1, m2, m3]
                            refine ⟨⟨by omega, by omega⟩, ⟨by omega, by omega⟩, ⟨by omega, by omega⟩, ⟨by omega, by omega⟩, ?_⟩
                            have hbf := hbd.drew.drew
                            have hbox4 : x3.drew.drew.heap[bx]? = some (.cells #[.string g.path, .bool g.exec, .string g.text] 35 (0, 0)) := hbox3
                            generalize x3.drew.drew = x6 at *
                            refine T.eff_build rfl (run_file3 _ x.path x.text x.exec) ⟨hT1 _ hbf, ?_⟩
                            simp (maxSteps := 5000000) only [↓qpre, qpost, qfacts, qnorm]
                            have hbg := below_setRow (cs := #[.string x.path, .bool x.exec, .string x.text]) hbf hle
                            have hbox5 := setRow_heap _ _ _ #[.string x.path, .bool x.exec, .string x.text] _ _ hbox4
                            refine eff_store_row rfl rfl hbox4 hi24 rfl (by simp [Value.oneCell']) ⟨hT1 _ hbg, ?_⟩
                            simp (maxSteps := 5000000) only [↓qpre, qpost, qfacts, qnorm]
                            refine hQ _ _ ?_
                            have HS2 := Lib.hid (show false = (wantTo q (findP ul q) c (j + 1)).isSome ∧ (false = true → (⟨x.path, x.exec, x.text⟩ : FV) = optF (wantTo q (findP ul q) c (j + 1))) by rw [HN.out, hd]; exact ⟨rfl, fun h => by cases h⟩)
                            clear hQ hT1 hT2 hM m0 m1 m2 m3 hbf hbox4 hbox3 hbd hd hq k0 k1 k2 k3 HS
                            generalize x6.setRow bx #[.string x.path, .bool x.exec, .string x.text] = x7 at *
                            go_wp2
                            go_roundw
                            case rel => exact ⟨j + 1, false, ⟨x.path, x.exec, x.text⟩, by omega, by go_num, rfl, hbg, hbox5, HS2.out, Lib.hid (fun e => absurd (HFF.out.symm.trans e) HF.out)⟩
                            case measure => simp [intOf]; omega
                          | false =>
                            rw [hd] at k1
                            go_wp2
                            refine wp_region_q (fun w' => Below U.heap.size U w') [(true, 0), (true, 1), (true, 2), (true, 3), (true, 4), (true, 5), (true, 6), (true, 7), (true, 8), (true, 9), (true, 10), (true, 11), (true, 12), (true, 13), (true, 14), (true, 16), (true, 17), (true, 18), (true, 19), (true, 20), (true, 21), (false, 15), (false, 22), (true, 23)] mixed (by kernel_rfl) hbd.drew.drew ?_
                            intro Tp M Q hT1 hT2 hM hQ
                            have m0 : M ⟨b4, o4 + j * 4, none⟩ = some (.string x.path) := hM _ _ fun w' hw => (hw.cell (p := ⟨b4, o4 + j * 4, none⟩) hbb4).trans k0
                            have m1 : M ⟨b4, o4 + j * 4 + 1, none⟩ = some (.bool false) := hM _ _ fun w' hw => (hw.cell (p := ⟨b4, o4 + j * 4 + 1, none⟩) hbb4).trans k1
                            have m2 : M ⟨b4, o4 + j * 4 + 2, none⟩ = some (.bool x.exec) := hM _ _ fun w' hw => (hw.cell (p := ⟨b4, o4 + j * 4 + 2, none⟩) hbb4).trans k2
                            have m3 : M ⟨b4, o4 + j * 4 + 3, none⟩ = some (.string x.text) := hM _ _ fun w' hw => (hw.cell (p := ⟨b4, o4 + j * 4 + 3, none⟩) hbb4).trans k3
                            simp only [qcmp, Nat.reduceBEq]
                            simp (maxSteps := 5000000) only [↓qpre, qpost, qfacts, qnorm, m0, m1, m2, m3]
                            refine ⟨⟨by omega, by omega⟩, ⟨by omega, by omega⟩, ⟨by omega, by omega⟩, ⟨by omega, by omega⟩, ?_⟩
                            have hbf := hbd.drew.drew
                            have hbox4 : x3.drew.drew.heap[bx]? = some (.cells #[.string g.path, .bool g.exec, .string g.text] 35 (0, 0)) := hbox3
                            generalize x3.drew.drew = x6 at *
                            refine T.eff_build rfl (run_file3 _ x.path x.text x.exec) ⟨hT1 _ hbf, ?_⟩
                            simp (maxSteps := 5000000) only [↓qpre, qpost, qfacts, qnorm]
                            have hbg := below_setRow (cs := #[.string x.path, .bool x.exec, .string x.text]) hbf hle
                            have hbox5 := setRow_heap _ _ _ #[.string x.path, .bool x.exec, .string x.text] _ _ hbox4
                            refine eff_store_row rfl rfl hbox4 hi24 rfl (by simp [Value.oneCell']) ⟨hT1 _ hbg, ?_⟩
                            simp (maxSteps := 5000000) only [↓qpre, qpost, qfacts, qnorm]
                            refine hQ _ _ ?_
                            have HS2 := Lib.hid (show true = (wantTo q (findP ul q) c (j + 1)).isSome ∧ (true = true → (⟨x.path, x.exec, x.text⟩ : FV) = optF (wantTo q (findP ul q) c (j + 1))) by rw [HN.out, hd]; exact ⟨rfl, fun _ => rfl⟩)
                            clear hQ hT1 hT2 hM m0 m1 m2 m3 hbf hbox4 hbox3 hbd hd hq k0 k1 k2 k3 HS
                            generalize x6.setRow bx #[.string x.path, .bool x.exec, .string x.text] = x7 at *
                            go_wp2
                            go_roundw
                            case rel => exact ⟨j + 1, true, ⟨x.path, x.exec, x.text⟩, by omega, by go_num, rfl, hbg, hbox5, HS2.out, Lib.hid (fun e => absurd (HFF.out.symm.trans e) HF.out)⟩
                            case measure => simp [intOf]; omega
                        · have e1 := ba_ne hq
                          have HN := Lib.hid (show wantTo q (findP ul q) c (j + 1) = wantTo q (findP ul q) c j by rw [HX.out, wantStep, if_neg hq])
                          simp (maxSteps := 5000000) only [↓qpre, qpost, qfacts, qnorm, m0, m1, e1]
                          refine ⟨⟨by omega, by omega⟩, ⟨by omega, by omega⟩, hQ _ _ ?_⟩
                          clear hQ hT1 hT2 hM m0 m1 k0 k1 k2 k3
                          have hbf := hbd.drew
                          have HS2 := Lib.hid (show s = (wantTo q (findP ul q) c (j + 1)).isSome ∧ (s = true → g = optF (wantTo q (findP ul q) c (j + 1))) by rw [HN.out]; exact HS.out)
                          go_wp2
                          go_roundw
                          case rel => exact ⟨j + 1, s, g, by omega, by go_num, rfl, hbf, hbox3, HS2.out, Lib.hid (fun e => absurd (HFF.out.symm.trans e) HF.out)⟩
                          case measure => simp [intOf]; omega
                    · obtain rfl : j = c.length := by omega
                      have hbd := hb
                      have h1 := (hb.cell (p := ⟨b3, o3 + k, none⟩) hbb).trans h0
                      have HW := Lib.hid (show s = (findP xl q).isSome ∧ (s = true → g = optF (findP xl q)) by
                        have h8 := HS.out
                        rw [HQL.out]
                        by_cases hF : touchF (us.map TV.l) q = 0
                        · rw [if_pos hF]
                          rw [HZ.out hF] at h8
                          exact h8
                        · rw [if_neg hF]
                          rw [wantTo, List.take_length] at h8
                          exact h8)
                      clear HS HZ hb
                      go_wp2_with fail
                      refine (rfind_any (p := q) RXL (rxl.to hbd hbd.size)).mono ?_
                      rintro e y1 ⟨rfl, hy1⟩
                      have hbe := hbd.trans (hy1.mono hbd.size)
                      have hbox1 := (hy1.block bx (Array.getElem?_eq_some_iff.1 hbox).1).trans hbox
                      have hltx := Nat.lt_of_lt_of_le (Array.getElem?_eq_some_iff.1 hbox).1 hy1.size
                      obtain ⟨hs1, hs2⟩ := HW.out
                      clear HW
                      generalize optF (findP xl q) = ga at *
                      generalize (findP xl q).isSome = ia at *
                      subst hs1
                      obtain ⟨y2, hy2⟩ : ∃ u, u = y1.alloc (.cells #[.string ga.path, .bool ga.exec, .string ga.text] 35) := ⟨_, rfl⟩
                      have hy3 : Below y1.heap.size y1 y2 := by rw [hy2]; exact (Below.refl _ _).alloc (Nat.le_refl _) _
                      have hbf := hbe.trans (hy3.mono hbe.size)
                      have xb : Box ga y1.heap.size y2 := by rw [hy2]; exact Box.new _ _
                      have hbox2 := (hy3.block bx hltx).trans hbox1
                      have HY2 := Lib.hid hy2
                      clear hbox hbox1 hltx hy1 hy3 hbe hbd
                      cases s with
                      | false =>
                        clear hs2 xb hbox2 hy2
                        go_wp2
                        rw [← HY2.out]
                        go_roundw
                        case rel => exact ⟨k + 1, by omega, by go_num, hbf⟩
                        case measure => simp [intOf]; omega
                      | true =>
                        obtain rfl := hs2 rfl
                        clear hs2
                        have b0 := xb.2 0 _ rfl
                        have b1 := xb.2 1 _ rfl
                        have b2 := xb.2 2 _ rfl
                        have d0 : y2.cell? ⟨bx, 0, none⟩ = some (.string g.path) := by rw [World.cell?, hbox2]; rfl
                        have d1 : y2.cell? ⟨bx, 1, none⟩ = some (.bool g.exec) := by rw [World.cell?, hbox2]; rfl
                        have d2 : y2.cell? ⟨bx, 2, none⟩ = some (.string g.text) := by rw [World.cell?, hbox2]; rfl
                        rw [hy2] at b0 b1 b2 d0 d1 d2
                        clear hbox2 xb hy2
                        go_wp2
                        rw [← HY2.out]
                        go_roundw
                        case rel => exact ⟨k + 1, by omega, by go_num, hbf⟩
                        case measure => simp [intOf]; omega
                · obtain rfl : k = N := by omega
                  replace hw := hw.trans (hb.mono hw.size)
                  go_wp2
                  go_ret
                  exact ⟨rfl, hw⟩
    · obtain rfl : X = [] := HNO.out hk
      have hx0 : xs = [] := List.map_eq_nil_iff.1 HE5.out
      subst hx0
      clear HOK HNO HE5
      go_wp2_with fail
      refine (awake22_any hm).mono ?_
      rintro e v5 ⟨rfl, hx⟩
      replace hw := hw.trans (hx.mono hw.size)
      go_wp2
      go_ret
      exact ⟨rfl, hw⟩
end Go.Proofs.YtahlfafcjjkliaaGreatDoor
