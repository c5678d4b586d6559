/- Several texts in one: Lists of api.Change: held against each other. Walks: rickhelp.Own, Kept of changes. Walks: the document's Drop (what it hands back is new), Apply, Only. Changes among a law's arguments: opened. -/
import Derived.Test.YtahlfafcjjkliaaGreatDoorCN
import Derived.Test.YtahlfafcjjkliaaGreatDoorC3
namespace Go.Proofs.YtahlfafcjjkliaaGreatDoor
open Go.RowKit

theorem ChV.eq_iff {x y : ChV} : x = y ↔ x.path = y.path ∧ x.del = y.del ∧ x.exec = y.exec ∧ x.text = y.text := by
  cases x; cases y; simp
theorem eqC_run (x y : ChV) (w : World) : (Op.equalIn 10000 29 (.agg #[.string x.path, .bool x.del, .bool x.exec, .string x.text]) (.agg #[.string y.path, .bool y.del, .bool y.exec, .string y.text])).run Tryz.prog w = .ok (decide (x = y)) w := by
  by_cases h_path : x.path = y.path
  case neg => rw [decide_eq_false (fun e => h_path (by rw [e]))]; have hn2 : ¬ x.path.toList = y.path.toList := beq_eq_false_iff_ne.1 (ba_ne h_path); go_simp <;> simp_all
  by_cases h_del : x.del = y.del
  case neg => rw [decide_eq_false (fun e => h_del (by rw [e]))]; go_simp <;> simp_all
  by_cases h_exec : x.exec = y.exec
  case neg => rw [decide_eq_false (fun e => h_exec (by rw [e]))]; go_simp <;> simp_all
  by_cases h_text : x.text = y.text
  case neg => rw [decide_eq_false (fun e => h_text (by rw [e]))]; have hn2 : ¬ x.text.toList = y.text.toList := beq_eq_false_iff_ne.1 (ba_ne h_text); go_simp <;> simp_all
  rw [decide_eq_true (ChV.eq_iff.2 ⟨h_path, h_del, h_exec, h_text⟩)]; go_simp <;> simp_all
set_option maxRecDepth 100000 in
set_option maxHeartbeats 4000000 in
theorem plain1C_any (x y : ChV) (w : World) : Calls Tryz.prog 41 #[.agg #[.string x.path, .bool x.del, .bool x.exec, .string x.text], .agg #[.string y.path, .bool y.del, .bool y.exec, .string y.text]] w (BoolBelow (decide (x = y)) w) := by
  have hb : ∀ o1 o2 : Obj, Below w.heap.size w ((w.alloc o1).alloc o2) := fun o1 o2 => ((Below.refl _ _).alloc (Nat.le_refl _) _).alloc (by simp) _
  cases hd : decide (x = y) with
  | true =>
    obtain rfl := of_decide_eq_true hd
    clear hd
    go_enter Tryz.func41, Tryz.ntmps41
    go_wp2
    go_ret
    exact ⟨rfl, hb _ _⟩
  | false =>
    have he := of_decide_eq_false hd
    clear hd
    by_cases h_path : x.path = y.path
    case neg =>
      have hn2 : ¬ x.path.toList = y.path.toList := beq_eq_false_iff_ne.1 (ba_ne h_path)
      clear he
      go_enter Tryz.func41, Tryz.ntmps41
      go_wp2
      go_ret
      exact ⟨rfl, hb _ _⟩
    have e_path := h_path
    by_cases h_del : x.del = y.del
    case neg =>
      clear he
      go_enter Tryz.func41, Tryz.ntmps41
      go_wp2
      go_ret
      exact ⟨rfl, hb _ _⟩
    have e_del := h_del
    by_cases h_exec : x.exec = y.exec
    case neg =>
      clear he
      go_enter Tryz.func41, Tryz.ntmps41
      go_wp2
      go_ret
      exact ⟨rfl, hb _ _⟩
    have e_exec := h_exec
    by_cases h_text : x.text = y.text
    case neg =>
      have hn2 : ¬ x.text.toList = y.text.toList := beq_eq_false_iff_ne.1 (ba_ne h_text)
      clear he
      go_enter Tryz.func41, Tryz.ntmps41
      go_wp2
      go_ret
      exact ⟨rfl, hb _ _⟩
    have e_text := h_text
    exact absurd (ChV.eq_iff.2 ⟨h_path, h_del, h_exec, h_text⟩) he
set_option maxRecDepth 100000 in
set_option maxHeartbeats 4000000 in
theorem sameC_any {G : FuncId} {A B : Option Addr} {n ca m cb : Nat} {xs ys : List ChV} {w : World} (eq : ChV → ChV → Bool) (hn : n ≤ 17592186044416) (hm : m ≤ 17592186044416)
    (ha : Rd w w.heap.size 4 A n ca (xs.flatMap ChV.cells)) (hb : Rd w w.heap.size 4 B m cb (ys.flatMap ChV.cells)) (hxl : xs.length = n) (hyl : ys.length = m) (hG : isGo Tryz.prog G = true)
    (HC : ∀ x ∈ xs, ∀ y ∈ ys, ∀ v, Below w.heap.size w v → Calls Tryz.prog G #[.agg #[.string x.path, .bool x.del, .bool x.exec, .string x.text], .agg #[.string y.path, .bool y.del, .bool y.exec, .string y.text]] v (BoolBelow (eq x y) v)) :
    Calls Tryz.prog 40 #[.slice A n ca, .slice B m cb, .func (.func G) #[] #[]] w (BoolBelow (lall2 eq xs ys) w) := by
  have HX := Lib.hid hxl
  have HY := Lib.hid hyl
  by_cases h : n = m
  · subst h
    go_enter Tryz.func40, Tryz.ntmps40
    go_wp2
    go_loopw [7] (fun i wr => ∃ k : Nat, k ≤ n ∧ i = .int .i64 k ∧ Below w.heap.size w wr ∧ Hid (EqTo eq xs ys k)) (fun i _ => n - (intOf i).toNat)
    case atStart => exact ⟨0, Nat.zero_le _, rfl, Below.refl _ _, fun j _ _ hj => absurd hj (Nat.not_lt_zero _)⟩
    case round =>
      obtain ⟨k, hk, rfl, hbw, hj⟩ := hrel
      by_cases hlt : k < n
      · obtain ⟨b0, o0, u, eA, hb0, hx, hxm, p⟩ := T.rd_flat ChV.cells_len (by omega) ha HX.out hlt
        obtain ⟨b1, o1, v, eB, hb1, hy, hym, r⟩ := T.rd_flat ChV.cells_len (by omega) hb HY.out hlt
        cases eA
        cases eB
        have HU := Lib.hid hx
        have HV := Lib.hid hy
        clear hx hy
        have hbs := hbw.size
        have C := HC u hxm v hym
        go_wp2
        refine wp_region_q (fun w' => Below w.heap.size w w') (qe [9] 11) mixed (by kernel_rfl) hbw.drew ?_
        intro T M Q hT hT' hM hQ
        have mp : ∀ j v, (ChV.cells u)[j]? = some v → M ⟨b0, o0 + k * 4 + j, none⟩ = some v := fun j v hv => hM _ _ fun w' hw => (hw.cell (p := ⟨b0, o0 + k * 4 + j, none⟩) (by show b0 < _; omega)).trans (p j v hv)
        have mr : ∀ j x, (ChV.cells v)[j]? = some x → M ⟨b1, o1 + k * 4 + j, none⟩ = some x := fun j v hv => hM _ _ fun w' hw => (hw.cell (p := ⟨b1, o1 + k * 4 + j, none⟩) (by show b1 < _; omega)).trans (r j v hv)
        have m0 : M ⟨b0, o0 + k * 4, none⟩ = some (.string u.path) := mp 0 _ rfl
        have q0 : M ⟨b1, o1 + k * 4, none⟩ = some (.string v.path) := mr 0 _ rfl
        have m1 : M ⟨b0, o0 + k * 4 + 1, none⟩ = some (.bool u.del) := mp 1 _ rfl
        have q1 : M ⟨b1, o1 + k * 4 + 1, none⟩ = some (.bool v.del) := mr 1 _ rfl
        have m2 : M ⟨b0, o0 + k * 4 + 2, none⟩ = some (.bool u.exec) := mp 2 _ rfl
        have q2 : M ⟨b1, o1 + k * 4 + 2, none⟩ = some (.bool v.exec) := mr 2 _ rfl
        have m3 : M ⟨b0, o0 + k * 4 + 3, none⟩ = some (.string u.text) := mp 3 _ rfl
        have q3 : M ⟨b1, o1 + k * 4 + 3, none⟩ = some (.string v.text) := mr 3 _ rfl
        clear hM mp mr p r
        simp only [qcmp, Nat.reduceBEq]
        simp (maxSteps := 5000000) only [↓qpre, qpost, qfacts, qnorm, m0, q0, m1, q1, m2, q2, m3, q3]
        refine ⟨⟨by omega, by omega⟩, ⟨by omega, by omega⟩, eff_call hG (C _ hbw.drew) rfl rfl ?_⟩
        rintro e w1 ⟨rfl, hb1⟩
        have hbd : Below w.heap.size w w1 := hbw.drew.trans (hb1.mono hbs)
        refine ⟨_, rfl, hT _ hbd, ?_⟩
        simp (maxSteps := 5000000) only [↓qpre, qpost, qnorm]
        refine hQ _ _ ?_
        clear hQ hT hT' m0 q0 m1 q1 m2 q2 m3 q3 C
        cases he : eq u v with
        | true =>
          have HO := Lib.hid (hj.out.next HU.out HV.out he)
          clear he
          go_wp2
          go_roundw
          case rel => exact ⟨k + 1, by omega, by go_num, hbd, HO.out⟩
          case measure => simp [intOf]; omega
        | false =>
          have HO := Lib.hid (lall2_bad HU.out HV.out he)
          clear he
          go_wp2
          go_ret
          exact ⟨ret_bool HO.out.symm, hbd⟩
      · obtain rfl : k = n := by omega
        have HO := Lib.hid (hj.out.done HX.out HY.out)
        go_wp2
        go_ret
        exact ⟨ret_bool HO.out.symm, hbw⟩
  · obtain ⟨h1, h2⟩ := int_ne (u := (n : Int)) (v := (m : Int)) (by omega)
    have HO := Lib.hid (lall2_len (eq := eq) (xs := xs) (ys := ys) (by rw [HX.out, HY.out]; exact h))
    go_enter Tryz.func40, Tryz.ntmps40
    go_wp2
    go_ret
    exact ⟨ret_bool HO.out.symm, Below.refl _ _⟩
set_option maxRecDepth 100000 in
set_option maxHeartbeats 4000000 in
theorem plainC_any {A B : Option Addr} {n ca m cb : Nat} {xs ys : List ChV} {w : World} (hn : n ≤ 17592186044416) (hm : m ≤ 17592186044416)
    (ha : Rd w w.heap.size 4 A n ca (xs.flatMap ChV.cells)) (hb : Rd w w.heap.size 4 B m cb (ys.flatMap ChV.cells)) (hxl : xs.length = n) (hyl : ys.length = m) :
    Calls Tryz.prog 12 #[.slice A n ca, .slice B m cb] w (BoolBelow (decide (xs = ys)) w) := by
  have C := sameC_any (G := 41) (fun x y => decide (x = y)) hn hm ha hb hxl hyl (by kernel_rfl) fun x _ y _ v _ => plain1C_any x y v
  rw [lall2_eq] at C
  go_enter Tryz.func12, Tryz.ntmps12
  go_wp2_with fail
  refine C.mono ?_
  rintro e w1 ⟨rfl, hb1⟩
  go_wp2
  go_ret
  exact ⟨rfl, hb1⟩
end Go.Proofs.YtahlfafcjjkliaaGreatDoor
namespace Go.Proofs.YtahlfafcjjkliaaGreatDoor
open Go.RowKit

set_option maxRecDepth 100000 in
set_option maxHeartbeats 4000000 in
theorem ownC_any {A : Option Addr} {n c : Nat} {l : List ChV} {f : ChV} {w : World} (hn : n ≤ 3518437208782) (ha : Rd w w.heap.size 4 A n c (l.flatMap ChV.cells)) :
    Calls Tryz.prog 8 #[.slice A n c, .agg #[.string f.path, .bool f.del, .bool f.exec, .string f.text]] w (OwnIs 29 4 n (l.flatMap ChV.cells) f.cells w) := by
  have HL := Lib.hid (show (l.flatMap ChV.cells).length = n * 4 from ha.len)
  have hi45 : (Tryz.prog.info? 29).map (·.size) = some 4 := by kernel_rfl
  obtain ⟨W, hW⟩ : ∃ u, u = w.alloc (.cells #[.string f.path, .bool f.del, .bool f.exec, .string f.text] 29) := ⟨_, rfl⟩
  have hbW : Below w.heap.size w W := by rw [hW]; exact (Below.refl _ _).alloc (Nat.le_refl _) _
  have hzW : W.heap.size = w.heap.size + 1 := by rw [hW]; simp
  have hx : ∀ i u, f.cells[i]? = some u → ∀ u', Below W.heap.size W u' → u'.cell? ⟨w.heap.size, i, none⟩ = some u := fun i u hu u' hu' =>
    (hu'.cell (p := ⟨w.heap.size, i, none⟩) (by show w.heap.size < _; omega)).trans (by rw [hW, World.cell?, heap_alloc_new]; simpa [ChV.cells] using hu)
  have XB := Lib.hid hx
  clear hx
  have haW := ha.to hbW hbW.size
  have HzW := Lib.hid hzW
  clear hzW
  go_enter Tryz.func8, Tryz.ntmps8
  go_wp2_with (first
    | (rw [← hW]; refine wpl_make0 rfl (.const (.int .i64 0)) (.tmp 10) 23 rfl E_changes W.heap.size (n + 3) rfl rfl (by omega) (by omega) (by simp only [maxLen]; omega) (Nat.le_refl _) ?_; intro w1 ho1 hg1; rw [HzW.out] at ho1)
    | (at_builtin; refine wpl_fits rfl (.tmp 12) (.tmp 13) 23 rfl E_changes rfl rfl ho1 (haW.below ((Below.refl _ _).grown hg1 (Nat.le_refl _) (fun g hg => by cases hg))) (one_changes _) (by omega) ?_; intro w2 ho2 hg2))
  rw [Nat.zero_add, List.nil_append] at ho2
  clear hW
  have hb2 : Below W.heap.size W w2 := ((Below.refl _ _).grown hg1 (Nat.le_refl _) (fun g hg => by cases hg)).grown hg2 hg1.size (fun g hg => by cases hg; have := HzW.out; omega)
  obtain ⟨ys, hy, ho⟩ := ownsRow_whole ho2
  have hyl : ys.length = 12 := by omega
  rcases ho.2 with ⟨h0, _⟩ | ⟨g, cap, cur, h0, hgb, hg, hnc, hcm, hcs, htake⟩
  · simp at h0
  simp only [Value.slice.injEq, Option.some.injEq, Addr.mk.injEq, and_true, true_and] at h0
  obtain ⟨rfl, rfl⟩ := h0
  have hcur : cur = (l.flatMap ChV.cells ++ ys).toArray := by
    rw [← htake, List.take_of_length_le (by rw [Array.length_toList]; omega)]
  subst hcur
  have HG := Lib.hid hg
  clear ho1 hg1 ho2 hg2 ho hg htake hcs hy hgb
  go_loopw [7] (fun i wr => ∃ k : Nat, k ≤ 3 ∧ i = .int .i64 ((n + k : Nat) : Int) ∧ Hid (wr.heap[w.heap.size + 1]? = some (.cells (l.flatMap ChV.cells ++ ((List.replicate k f.cells).flatten ++ ys.drop (k * 4))).toArray 29 (0, 0))) ∧ Below W.heap.size W wr)
      (fun i _ => n + 3 - (intOf i).toNat)
  case atStart => exact ⟨0, by omega, rfl, Lib.hid (by simpa using HG.out), hb2⟩
  case round =>
    clear HG
    obtain ⟨k, hk, rfl, HO, hbw⟩ := hrel
    by_cases hlt : k < 3
    · have x0 := XB.out 0 _ rfl wr hbw
      have x1 := XB.out 1 _ rfl wr hbw
      have x2 := XB.out 2 _ rfl wr hbw
      have x3 := XB.out 3 _ rfl wr hbw
      have hsz : (l.flatMap ChV.cells ++ ((List.replicate k f.cells).flatten ++ ys.drop (k * 4))).toArray.size = (n + 3) * 4 := by
        have : f.cells.length = 4 := rfl
        simp only [List.size_toArray, List.length_append, HL.out, List.length_flatten, List.map_replicate, List.sum_replicate_nat, List.length_drop, hyl, this]
        omega
      have HS := Lib.hid (fun cs => setRow_heap wr (w.heap.size + 1) _ cs _ _ HO.out)
      have hbw' : ∀ cs, Below W.heap.size W (wr.setRow (w.heap.size + 1) cs) := fun cs => below_setRow hbw (by have := HzW.out; omega)
      have HFl := Lib.hid (fillK (ys := ys) (k := k) HL.out (show f.cells.length = 4 from rfl) (by omega))
      have HQ := Lib.hid (show ((l.flatMap ChV.cells ++ ((List.replicate k f.cells).flatten ++ ys.drop (k * 4))).toArray.toList.take ((n + k) * 4) ++ #[Value.string f.path, .bool f.del, .bool f.exec, .string f.text].toList ++ (l.flatMap ChV.cells ++ ((List.replicate k f.cells).flatten ++ ys.drop (k * 4))).toArray.toList.drop ((n + k) * 4 + #[Value.string f.path, .bool f.del, .bool f.exec, .string f.text].size)).toArray = (l.flatMap ChV.cells ++ ((List.replicate (k + 1) f.cells).flatten ++ ys.drop ((k + 1) * 4))).toArray from congrArg List.toArray HFl.out)
      go_wp2_with (refine wpl_store_mid rfl 29 (.tmp 31) (.tmp 30) rfl (cs := #[.string f.path, .bool f.del, .bool f.exec, .string f.text]) hi45 rfl rfl HO.out (by rw [hsz]; show (n + k) * 4 + 4 ≤ _; omega) (one_changes [f]) ?_; rw [HQ.out])
      refine ⟨⟨k + 1, by omega, by go_num, HS.out _, hbw' _⟩, by simp [intOf]; omega⟩
    · obtain rfl : k = 3 := by omega
      have HE := Lib.hid HO.out
      have hcm' := hcm
      go_wp2
      go_ret
      refine ⟨w.heap.size + 1, rfl, ⟨?_, .inr ⟨w.heap.size + 1, n + 3, _, rfl, by omega, HE.out, Nat.le_refl _, by unfold maxLen; omega, ?_, ?_⟩⟩, hbW.trans (hbw.mono hbW.size)⟩
      · have : f.cells.length = 4 := rfl
        simp only [List.length_append, HL.out, this]; omega
      · have : f.cells.length = 4 := rfl
        simp only [List.size_toArray, List.length_append, HL.out, List.length_flatten, List.map_replicate, List.sum_replicate_nat, List.length_drop, hyl, this]; omega
      · have : f.cells.length = 4 := rfl
        rw [List.take_of_length_le (by simp only [Array.length_toList, List.size_toArray, List.length_append, HL.out, List.length_flatten, List.map_replicate, List.sum_replicate_nat, List.length_drop, hyl, this]; omega)]
        rw [List.drop_of_length_le (by omega)]
        simp [List.replicate]
set_option maxRecDepth 100000 in
set_option maxHeartbeats 4000000 in
theorem keptC_any {A : Option Addr} {g n c BB : Nat} {l : List ChV} {f : ChV} {w : World} (hn : n ≤ 3518437208782) (hBB : BB ≤ w.heap.size)
    (hi : Rd w BB 4 (some ⟨g, 0, none⟩) (n + 3) (n + 3) (l.flatMap ChV.cells ++ (f.cells ++ (f.cells ++ f.cells)))) (ha : Rd w BB 4 A n c (l.flatMap ChV.cells)) (hln : l.length = n) :
    Calls Tryz.prog 17 #[.slice (some ⟨g, 0, none⟩) n (n + 3), .slice A n c, .agg #[.string f.path, .bool f.del, .bool f.exec, .string f.text]] w (BoolBelow true w) := by
  have HL := Lib.hid (show (l.flatMap ChV.cells).length = n * 4 from ha.len)
  have hr := rd_front (k := 3) hi ha.len (by omega)
  obtain ⟨b0, o0, e0, hb0, hc0⟩ := hi.at_ (by omega)
  cases e0
  obtain ⟨W, hW⟩ : ∃ u, u = w.alloc (.cells #[.string f.path, .bool f.del, .bool f.exec, .string f.text] 29) := ⟨_, rfl⟩
  have hbW : Below w.heap.size w W := by rw [hW]; exact (Below.refl _ _).alloc (Nat.le_refl _) _
  have hzW : W.heap.size = w.heap.size + 1 := by rw [hW]; simp
  have hx : ∀ i u, f.cells[i]? = some u → ∀ u', Below W.heap.size W u' → u'.cell? ⟨w.heap.size, i, none⟩ = some u := fun i u hu u' hu' =>
    (hu'.cell (p := ⟨w.heap.size, i, none⟩) (by show w.heap.size < _; omega)).trans (by rw [hW, World.cell?, heap_alloc_new]; simpa [ChV.cells] using hu)
  have XB := Lib.hid hx
  clear hx
  have C := plainC_any (w := W) (by omega) (by omega) (hr.to (hbW.mono hBB) (by omega)) (ha.to (hbW.mono hBB) (by omega)) hln hln
  rw [decide_eq_true (rfl : l = l)] at C
  go_enter Tryz.func17, Tryz.ntmps17
  go_wp2_with fail
  rw [← hW]
  clear hW hzW
  refine C.mono ?_
  rintro e w1 ⟨rfl, hb1⟩
  have hw1 : Below w.heap.size w w1 := hbW.trans (hb1.mono hbW.size)
  have HC := Lib.hid (show ∀ k t u, k < 3 → f.cells[t]? = some u → w1.cell? ⟨g, (n + k) * 4 + t, none⟩ = some u from fun k t u hk hu => by
    have ht : t < 4 := by have := (List.getElem?_eq_some_iff.1 hu).1; exact this
    rw [hw1.cell (p := ⟨g, (n + k) * 4 + t, none⟩) (by show g < _; omega)]
    have d0 := hc0 ((n + k) * 4 + t) u (by
      rw [List.getElem?_append_right (by rw [HL.out]; omega), HL.out, show (n + k) * 4 + t - n * 4 = k * 4 + t by omega]
      obtain rfl | rfl | rfl : k = 0 ∨ k = 1 ∨ k = 2 := by omega
      · rw [List.getElem?_append_left (by show _ < 4; omega), Nat.zero_mul, Nat.zero_add]; exact hu
      · rw [List.getElem?_append_right (by show 4 ≤ _; omega), List.getElem?_append_left (by show _ - 4 < 4; omega)]
        show f.cells[1 * 4 + t - 4]? = _
        rw [show 1 * 4 + t - 4 = t by omega]; exact hu
      · rw [List.getElem?_append_right (by show 4 ≤ _; omega), List.getElem?_append_right (by show 4 ≤ _ - 4; omega)]
        show f.cells[2 * 4 + t - 4 - 4]? = _
        rw [show 2 * 4 + t - 4 - 4 = t by omega]; exact hu)
    simpa using d0)
  have HB := Lib.hid hw1
  have HB1 := Lib.hid hb1
  clear hc0 hb1 hr hw1 C
  go_wp2
  go_loopw [8] (fun i wr => Below W.heap.size W wr ∧ (∀ p : Addr, wr.cell? p = w1.cell? p) ∧ Below w.heap.size w wr ∧ ∃ k : Nat, k ≤ 3 ∧ i = .int .i64 ((n + k : Nat) : Int)) (fun i _ => n + 3 - (intOf i).toNat)
  case atStart => exact ⟨HB1.out, fun _ => rfl, HB.out, 0, by omega, rfl⟩
  case round =>
    obtain ⟨hbx, hs, hbw, k, hk, rfl⟩ := hrel
    have HS := Lib.hid hs
    clear hs
    by_cases hlt : k < 3
    · go_wp2
      refine wp_region_q (fun w' => Below W.heap.size W w' ∧ ∀ p : Addr, w'.cell? p = w1.cell? p) [(true, 0), (true, 1), (true, 2), (true, 3), (true, 4), (false, 5)] mixed (by kernel_rfl) ⟨hbx.drew, HS.out⟩ ?_
      intro T M Q hT hT' hM hQ
      have m0 : M ⟨g, (n + k) * 4, none⟩ = some (.string f.path) := hM _ _ fun w' hw => (hw.2 _).trans (HC.out k 0 _ hlt rfl)
      have m1 : M ⟨g, (n + k) * 4 + 1, none⟩ = some (.bool f.del) := hM _ _ fun w' hw => (hw.2 _).trans (HC.out k 1 _ hlt rfl)
      have m2 : M ⟨g, (n + k) * 4 + 2, none⟩ = some (.bool f.exec) := hM _ _ fun w' hw => (hw.2 _).trans (HC.out k 2 _ hlt rfl)
      have m3 : M ⟨g, (n + k) * 4 + 3, none⟩ = some (.string f.text) := hM _ _ fun w' hw => (hw.2 _).trans (HC.out k 3 _ hlt rfl)
      have x0 : M ⟨w.heap.size, 0, none⟩ = some (.string f.path) := hM _ _ fun w' hw => XB.out 0 _ rfl w' hw.1
      have x1 : M ⟨w.heap.size, 1, none⟩ = some (.bool f.del) := hM _ _ fun w' hw => XB.out 1 _ rfl w' hw.1
      have x2 : M ⟨w.heap.size, 2, none⟩ = some (.bool f.exec) := hM _ _ fun w' hw => XB.out 2 _ rfl w' hw.1
      have x3 : M ⟨w.heap.size, 3, none⟩ = some (.string f.text) := hM _ _ fun w' hw => XB.out 3 _ rfl w' hw.1
      clear hM
      simp only [qcmp, Nat.reduceBEq]
      simp (maxSteps := 5000000) only [↓qpre, qpost, qfacts, qnorm, m0, m1, m2, m3, x0, x1, x2, x3]
      refine ⟨⟨by omega, by omega⟩, eff_neq rfl rfl (by kernel_rfl) (eqC_run f f _) ⟨hT _ ⟨hbx.drew, HS.out⟩, ?_⟩⟩
      rw [decide_eq_true (rfl : f = f)]
      simp (maxSteps := 5000000) only [qpost, qnorm]
      refine hQ _ _ ?_
      clear hQ hT hT' m0 m1 m2 m3 x0 x1 x2 x3
      have hs' : ∀ p : Addr, wr.drew.cell? p = w1.cell? p := HS.out
      have HS' := Lib.hid hs'
      have hbd := hbw.drew
      have hbxd := hbx.drew
      clear hs'
      go_wp2
      go_roundw
      case rel => exact ⟨hbxd, HS'.out, hbd, k + 1, by omega, by go_num⟩
      case measure => simp [intOf]; omega
    · obtain rfl : k = 3 := by omega
      go_wp2
      go_ret
      exact ⟨rfl, hbw⟩
end Go.Proofs.YtahlfafcjjkliaaGreatDoor
namespace Go.Proofs.YtahlfafcjjkliaaGreatDoor
open Go.RowKit

set_option maxRecDepth 100000 in
set_option maxHeartbeats 4000000 in
theorem without_new {A : Option Addr} {n c : Nat} {l : List FV} {p : ByteArray} {w : World} (hn : n ≤ 1000000) (h : RdF w w.heap.size A n c l) :
    Calls Tryz.prog 67 #[.slice A n c, .string p] w (FilesIsN (· = without l p) w) := by
  have HL := Lib.hid h.len
  have HF := Lib.hid h.fits
  go_enter Tryz.func67, Tryz.ntmps67
  go_wp2
  go_loopw [5, 6] (fun lv i wr => ∃ (k m : Nat), k ≤ n ∧ i = .int .i64 k ∧ Below w.heap.size w wr ∧ m ≤ k ∧ Hid ((without (l.take k) p).length = m) ∧ wr.ownsRow w.heap.size 35 3 lv m ((without (l.take k) p).flatMap FV.cells)) (fun _ i _ => n - (intOf i).toNat)
  case atStart => exact ⟨0, 0, Nat.zero_le _, rfl, Below.refl _ _, Nat.le_refl _, by rw [List.take_zero]; exact rfl, by rw [List.take_zero]; exact World.ownsRow_nil _ _ _ _⟩
  case round =>
    obtain ⟨k, m, hk, rfl, hb, hmk, hm, ho⟩ := hrel
    by_cases hlt : k < n
    · obtain ⟨b0, o0, f, rfl, hbb, hx, hfm, h0, h1, h2⟩ := h.get hlt
      replace h0 := (hb.cell (p := ⟨b0, o0 + k * 3, none⟩) (by show b0 < _; omega)).trans h0
      replace h1 := (hb.cell (p := ⟨b0, o0 + k * 3 + 1, none⟩) (by show b0 < _; omega)).trans h1
      replace h2 := (hb.cell (p := ⟨b0, o0 + k * 3 + 2, none⟩) (by show b0 < _; omega)).trans h2
      by_cases hq : f.path = p
      · have e1 : (f.path.toList == p.toList) = true := by rw [hq]; exact beq_self_eq_true _
        have HW := Lib.hid (show without (l.take (k + 1)) p = without (l.take k) p by rw [List.take_add_one, hx, without, List.filter_append]; simp [hq, without])
        clear hx hq
        go_wp2
        go_roundw
        case rel => exact ⟨k + 1, m, by omega, by go_num, hb, by omega, by rw [HW.out]; exact hm, by rw [HW.out]; exact ho⟩
        case measure => simp [intOf]; omega
      · have e1 := ba_ne hq
        have HW := Lib.hid (show without (l.take (k + 1)) p = without (l.take k) p ++ [f] by rw [List.take_add_one, hx, without, List.filter_append]; simp [hq, without])
        have hb1 := hb.alloc hb.size (.cells #[.string f.path, .bool f.exec, .string f.text] 35)
        have ho1 := ho.alloc (.cells #[.string f.path, .bool f.exec, .string f.text] 35)
        clear hx hq
        go_wp2_with (at_builtin; refine wpl_append rfl (.tmp 20) (.tmp 25) 22 rfl E_files rfl rfl ho1 (rd_litF wr f) (one_files _) (by unfold maxLen; omega) (by omega) hb1.size ?_; intro v7 w7 ho7 hg7 hv7)
        go_roundw
        case rel =>
          refine ⟨k + 1, m + 1, by omega, by go_num, hb1.grown hg7 hb1.size (fun g hg => (ho1.lt g hg).1), by omega, ?_, ?_⟩
          · show (without (l.take (k + 1)) p).length = m + 1
            rw [HW.out, List.length_append, hm.out]; rfl
          · rw [HW.out, List.flatMap_append]; exact ho7
        case measure => simp [intOf]; omega
    · have hkn : k = n := by omega
      subst hkn
      rw [List.take_of_length_le (by rw [HL.out]; omega)] at hm ho
      go_wp2
      go_ret
      obtain ⟨A7, c7, rfl, hc7⟩ := ownsRow_cap ho
      have HN := Lib.hid (show NewAt A7 w.heap.size from fun b o s hA => (ho.lt b (by rw [hA]; rfl)).1)
      have hr := Rd.of_own ho hc7
      rw [← hm.out] at hr ⊢
      exact ⟨A7, c7, _, rfl, rfl, ⟨hr, rfl, fun x hx => HF.out x ((List.mem_filter.1 hx).1)⟩, hb, HN.out⟩
set_option maxRecDepth 100000 in
set_option maxHeartbeats 8000000 in
theorem rdrop_new {A : Option Addr} {n c : Nat} {l : List FV} {p : ByteArray} {w : World} (hn : n ≤ 17592186044416) (h : RdF w w.heap.size A n c l) :
    Calls Tryz.prog 36 #[.slice A n c, .string p] w (FilesErrN (dropF l p) w) := by
  have HL := Lib.hid h.len
  have MORE : ∀ {u v : World}, Below w.heap.size w u → Below u.heap.size u v → Below w.heap.size w v := fun h1 h2 => h1.trans (h2.mono h1.size)
  have RD : ∀ u, Below w.heap.size w u → RdF u u.heap.size A n c l := fun u hu => h.to hu hu.size
  go_enter Tryz.func36, Tryz.ntmps36
  go_wp2_with fail
  refine (rright_any hn (RD w (Below.refl _ _))).mono ?_
  rintro e w1 ⟨rfl, hb1⟩
  cases ht : treeOk l with
  | false =>
    have HP := Lib.hid (show dropF l p = ([], 5) by simp [dropF, ht])
    clear ht
    go_wp2
    go_ret2
    exact filesErrN_none HP.out hb1
  | true =>
  have hlen := treeOk_len ht
  rw [HL.out] at hlen
  have HT := Lib.hid ht
  clear ht
  go_wp2_with fail
  refine (rfind_any hn (RD _ hb1)).mono ?_
  rintro e w3 ⟨rfl, hv⟩
  have hb3 := MORE hb1 hv
  clear hb1 hv
  obtain ⟨w4, hw4⟩ : ∃ u, u = w3.alloc (.cells #[.string (optF (findP l p)).path, .bool (optF (findP l p)).exec, .string (optF (findP l p)).text] 35) := ⟨_, rfl⟩
  have hb4 : Below w.heap.size w w4 := by rw [hw4]; exact hb3.alloc hb3.size _
  rw [findP_isSome]
  cases hh : hasP l p with
  | false =>
    have HP := Lib.hid (show dropF l p = ([], 8) by simp [dropF, HT.out, hh])
    clear hh
    go_wp2
    go_ret2
    exact filesErrN_none HP.out (by rw [← hw4]; exact hb4)
  | true =>
    have HP := Lib.hid (show dropF l p = (without l p, 0) by simp [dropF, HT.out, hh])
    clear hh
    go_wp2_with fail
    rw [← hw4]
    clear hw4 hb3
    refine (without_new (p := p) (by omega) (RD _ hb4)).mono ?_
    rintro e w5 ⟨A5, c5, l5, rfl, rfl, hr5, hv, hN⟩
    have HN := Lib.hid (show NewAt A5 w.heap.size from fun b o s hA => Nat.le_trans hb4.size (hN b o s hA))
    clear hN
    have hb5 := MORE hb4 hv
    generalize hm : (without l p).length = m at *
    go_wp2
    go_ret2
    exact filesErrN_ok hm HP.out hr5 hb5 HN.out

set_option maxRecDepth 100000 in
set_option maxHeartbeats 8000000 in
theorem rapply_new {A A' : Option Addr} {n c n' c' : Nat} {l : List FV} {cs : List ChV} {w : World} (hn : n ≤ 17592186044416) (hn' : n' ≤ 17592186044416) (h : RdF w w.heap.size A n c l) (h' : RdC w w.heap.size A' n' c' cs) :
    Calls Tryz.prog 10 #[.slice A n c, .slice A' n' c'] w (FilesErrN (applyF l cs) w) := by
  have HL := Lib.hid h.len
  have HL' := Lib.hid h'.len
  have C := rright_any hn h
  cases ht : treeOk l with
  | false =>
    rw [ht] at C
    have HO := Lib.hid (show applyF l cs = ([], 5) by rw [applyF, if_pos ht])
    clear ht
    go_enter Tryz.func10, Tryz.ntmps10
    go_wp2_with fail
    refine C.mono ?_
    rintro e w1 ⟨rfl, hb1⟩
    go_wp2
    go_ret2
    exact filesErrN_none HO.out hb1
  | true =>
    rw [ht] at C
    by_cases hbig : 100 < n'
    · have HO := Lib.hid (show applyF l cs = ([], 6) by rw [applyF, if_neg (by rw [ht]; decide), if_pos (by rw [HL'.out]; exact hbig)])
      clear ht
      go_enter Tryz.func10, Tryz.ntmps10
      go_wp2_with fail
      refine C.mono ?_
      rintro e w1 ⟨rfl, hb1⟩
      go_wp2
      go_ret2
      exact filesErrN_none HO.out hb1
    · have HO := Lib.hid (show applyF l cs = applyGo l cs by rw [applyF, if_neg (by rw [ht]; decide), if_neg (by rw [HL'.out]; exact hbig)])
      have hl100 := treeOk_len ht
      rw [HL.out] at hl100
      have HT := Lib.hid ht
      have HFI := Lib.hid h.fits
      clear ht
      go_enter Tryz.func10, Tryz.ntmps10
      go_wp2_with fail
      refine C.mono ?_
      rintro e w1 ⟨rfl, hb1⟩
      clear C
      have hr1 := (h.to hb1 hb1.size).row
      go_wp2_with (at_builtin; refine wpl_append rfl (.const (.slice none 0 0)) (.tmp 16) 22 rfl E_files rfl rfl (World.ownsRow_nil w1 w1.heap.size _ _) hr1 (one_files _) (by unfold maxLen; omega) (by omega) (Nat.le_refl _) ?_; intro v2 w2 ho hg hv2)
      rw [Nat.zero_add, List.nil_append] at ho
      have hb2 : Below w.heap.size w w2 := hb1.grown hg hb1.size (fun g hg => by cases hg)
      obtain ⟨A2, c2, rfl, hc2⟩ := ownsRow_cap ho
      have hN2 : NewAt A2 w.heap.size := fun b o s hA => Nat.le_trans hb1.size (ho.lt b (by rw [hA]; rfl)).1
      have hr2 : RdF w2 w2.heap.size A2 n c2 l := ⟨Rd.of_own ho hc2, HL.out, HFI.out⟩
      clear ho hg hv2 hb1 hr1
      go_wp2
      go_loopw [6, 7] (fun lv i wr => ∃ (k : Nat) (A1 : Option Addr) (c1 : Nat) (cur : List FV), k ≤ n' ∧ i = .int .i64 k ∧ lv = .slice A1 cur.length c1 ∧ Hid (treeOk cur = true) ∧ Hid (applyGo cur (cs.drop k) = applyF l cs) ∧ RdF wr wr.heap.size A1 cur.length c1 cur ∧ Below w.heap.size w wr ∧ NewAt A1 w.heap.size) (fun _ i _ => n' - (intOf i).toNat)
      case atStart => exact ⟨0, A2, c2, l, by omega, rfl, by rw [HL.out], HT.out, by rw [List.drop_zero]; exact HO.out.symm, by rw [HL.out]; exact hr2, hb2, hN2⟩
      case round =>
        clear hr2 hb2 hN2
        obtain ⟨k, A1, c1, cur, hk, rfl, rfl, hT, hG, hr, hb, hN1⟩ := hrel
        have HN1 := Lib.hid hN1
        clear hN1
        by_cases hlt : k < n'
        · obtain ⟨b0, o0, x, rfl, hbb, hx, hxm, k0, k1, k2, k3⟩ := h'.get hlt
          have h0 := (hb.cell (p := ⟨b0, o0 + k * 4, none⟩) (by show b0 < _; omega)).trans k0
          have h1 := (hb.cell (p := ⟨b0, o0 + k * 4 + 1, none⟩) (by show b0 < _; omega)).trans k1
          have hfit := h'.fits x hxm
          have hcl := treeOk_len hT.out
          have HN := Lib.hid (show applyGo cur (cs.drop k) = if (applyOne cur x).2 = 0 then applyGo (applyOne cur x).1 (cs.drop (k + 1)) else ([], (applyOne cur x).2) by
            obtain ⟨hk', e⟩ := List.getElem?_eq_some_iff.1 hx
            rw [List.drop_eq_getElem_cons hk', e]; rfl)
          have hsz := hb.size
          cases hd : x.del with
          | true =>
            rw [hd] at h1
            have HA := Lib.hid (show applyOne cur x = dropF cur x.path by rw [applyOne, if_pos hd])
            have htr := dropF_tree (l := cur) (p := x.path)
            clear hd hx k0 k1 k2 k3
            go_wp2_with fail
            refine (rdrop_new (p := x.path) (by omega) hr).mono ?_
            rintro e v1 ⟨A3, c3, rfl, hr3, hv3, hN3⟩
            have hb3 := hb.trans (hv3.mono hb.size)
            have HN3 := Lib.hid (show NewAt A3 w.heap.size from fun b o s hA => Nat.le_trans hsz (hN3 b o s hA))
            clear hv3 h0 h1 hr hb hN3
            generalize dropF cur x.path = r at *
            obtain ⟨rl, rk⟩ := r
            dsimp only at hr3 htr ⊢
            by_cases hz : rk = 0
            · subst hz
              have HTR := Lib.hid (htr rfl)
              clear htr
              go_wp2
              go_roundw
              case rel => exact ⟨k + 1, A3, c3, rl, by omega, by go_num, rfl, HTR, Lib.hid (by rw [← hG.out, HN.out, HA.out, if_pos rfl]), hr3, hb3, HN3.out⟩
              case measure => simp [intOf]; omega
            · have HE := Lib.hid (show applyF l cs = ([], rk) by rw [← hG.out, HN.out, HA.out, if_neg hz])
              clear htr hr3
              go_wp2
              go_ret2
              exact filesErrN_none HE.out hb3
          | false =>
            rw [hd] at h1
            have HA := Lib.hid (show applyOne cur x = putF cur ⟨x.path, x.exec, x.text⟩ by rw [applyOne, if_neg (by rw [hd]; decide)])
            have htr := putF_tree (l := cur) (f := ⟨x.path, x.exec, x.text⟩)
            clear hd hx
            go_wp2
            refine wp_region_q (fun w' => Below w.heap.size w w') [(true, 0), (true, 1), (true, 2), (true, 3), (true, 4), (true, 5), (true, 6), (true, 7), (true, 8), (true, 9), (true, 10), (true, 11), (true, 12), (true, 13), (true, 14), (true, 15), (false, 16), (false, 17), (true, 18), (true, 19), (true, 20), (true, 21), (true, 22)] mixed (by kernel_rfl) hb.drew ?_
            intro Tp F Q hT1 hT2 hF hQ
            have m0 : F ⟨b0, o0 + k * 4, none⟩ = some (.string x.path) := hF _ _ fun w' hw => (hw.cell (p := ⟨b0, o0 + k * 4, none⟩) (by show b0 < _; omega)).trans k0
            have m2 : F ⟨b0, o0 + k * 4 + 2, none⟩ = some (.bool x.exec) := hF _ _ fun w' hw => (hw.cell (p := ⟨b0, o0 + k * 4 + 2, none⟩) (by show b0 < _; omega)).trans k2
            have m3 : F ⟨b0, o0 + k * 4 + 3, none⟩ = some (.string x.text) := hF _ _ fun w' hw => (hw.cell (p := ⟨b0, o0 + k * 4 + 3, none⟩) (by show b0 < _; omega)).trans k3
            simp only [qcmp, Nat.reduceBEq]
            simp (maxSteps := 5000000) only [↓qpre, qpost, qfacts, qnorm, m0, m2, m3]
            have hbd := hb.drew
            have hrd := hr.to (Below.refl _ _).drew (Below.refl wr.heap.size wr).drew.size
            clear m0 m2 m3 hF h0 h1 k0 k1 k2 k3
            refine ⟨⟨by omega, by omega⟩, ⟨by omega, by omega⟩, ⟨by omega, by omega⟩, ?_⟩
            refine T.eff_build rfl (run_file3 _ x.path x.text x.exec) ⟨hT1 _ hbd, ?_⟩
            simp (maxSteps := 5000000) only [↓qpre, qpost, qfacts, qnorm]
            refine eff_call (by kernel_rfl) (rput_new (f := ⟨x.path, x.exec, x.text⟩) (by omega) hrd hfit) rfl rfl ?_
            rintro e v1 ⟨A3, c3, rfl, hr3, hv3, hN3⟩
            have hb3 := hbd.trans (hv3.mono hbd.size)
            have HN3 := Lib.hid (show NewAt A3 w.heap.size from fun b o s hA => Nat.le_trans hbd.size (hN3 b o s hA))
            generalize putF cur ⟨x.path, x.exec, x.text⟩ = r at *
            obtain ⟨rl, rk⟩ := r
            dsimp only at hr3 htr ⊢
            refine ⟨_, rfl, hT1 _ hb3, ?_⟩
            simp (maxSteps := 5000000) only [↓qpre, qpost, qfacts, qnorm]
            refine hQ _ _ ?_
            clear hQ hT1 hT2 hv3 hrd hbd hr hb hN3
            by_cases hz : rk = 0
            · subst hz
              have HTR := Lib.hid (htr rfl)
              clear htr
              go_wp2
              go_roundw
              case rel => exact ⟨k + 1, A3, c3, rl, by omega, by go_num, rfl, HTR, Lib.hid (by rw [← hG.out, HN.out, HA.out, if_pos rfl]), hr3, hb3, HN3.out⟩
              case measure => simp [intOf]; omega
            · have HE := Lib.hid (show applyF l cs = ([], rk) by rw [← hG.out, HN.out, HA.out, if_neg hz])
              clear htr hr3
              go_wp2
              go_ret2
              exact filesErrN_none HE.out hb3
        · obtain rfl : k = n' := by omega
          have HE := Lib.hid (show applyF l cs = (cur, 0) by rw [← hG.out, List.drop_of_length_le (by rw [HL'.out]; exact Nat.le_refl _)]; rfl)
          go_wp2
          go_ret2
          exact filesErrN_ok rfl HE.out hr hb HN1.out

theorem onlyF_step {l : List ChV} {k : Nat} {x : ChV} {ps : List ByteArray} (hx : l[k]? = some x) : onlyF (l.take (k + 1)) ps = onlyF (l.take k) ps ++ if hasS ps x.path = true then [x] else [] := by
  rw [List.take_add_one, hx, onlyF, List.filter_append]
  by_cases e : hasS ps x.path = true
  · simp [e, onlyF]
  · simp [e, onlyF]
set_option maxRecDepth 100000 in
set_option maxHeartbeats 8000000 in
theorem ronly_any {A A' : Option Addr} {n c n' c' : Nat} {l : List ChV} {ps : List ByteArray} {w : World} (hn : n ≤ 1000000) (hn' : n' ≤ 17592186044416) (h : RdC w w.heap.size A n c l) (hp : Rd w w.heap.size 1 A' n' c' (ps.map .string)) :
    Calls Tryz.prog 16 #[.slice A n c, .slice A' n' c'] w (ChgsIs (· = onlyF l ps) w) := by
  have HL := Lib.hid h.len
  have HF := Lib.hid h.fits
  go_enter Tryz.func16, Tryz.ntmps16
  go_wp2
  go_loopw [5, 6] (fun lv i wr => ∃ (k m : Nat), k ≤ n ∧ i = .int .i64 k ∧ Below w.heap.size w wr ∧ m ≤ k ∧ Hid ((onlyF (l.take k) ps).length = m) ∧ wr.ownsRow w.heap.size 29 4 lv m ((onlyF (l.take k) ps).flatMap ChV.cells)) (fun _ i _ => n - (intOf i).toNat)
  case atStart => exact ⟨0, 0, Nat.zero_le _, rfl, Below.refl _ _, Nat.le_refl _, by rw [List.take_zero]; exact rfl, by rw [List.take_zero]; exact World.ownsRow_nil _ _ _ _⟩
  case round =>
    obtain ⟨k, m, hk, rfl, hb, hmk, hm, ho⟩ := hrel
    by_cases hlt : k < n
    · obtain ⟨b0, o0, x, rfl, hbb, hx, hxm, h0, h1, h2, h3⟩ := h.get hlt
      replace h0 := (hb.cell (p := ⟨b0, o0 + k * 4, none⟩) (by show b0 < _; omega)).trans h0
      replace h1 := (hb.cell (p := ⟨b0, o0 + k * 4 + 1, none⟩) (by show b0 < _; omega)).trans h1
      replace h2 := (hb.cell (p := ⟨b0, o0 + k * 4 + 2, none⟩) (by show b0 < _; omega)).trans h2
      replace h3 := (hb.cell (p := ⟨b0, o0 + k * 4 + 3, none⟩) (by show b0 < _; omega)).trans h3
      have HS := Lib.hid (onlyF_step (ps := ps) hx)
      clear hx
      have C := inS_any (p := x.path) hn' (hp.to hb hb.size)
      cases hin : hasS ps x.path with
      | true =>
        rw [hin] at C
        have HW := Lib.hid (show onlyF (l.take (k + 1)) ps = onlyF (l.take k) ps ++ [x] by rw [HS.out, if_pos hin])
        have hb1 := hb.alloc hb.size (.cells #[.string x.path, .bool x.del, .bool x.exec, .string x.text] 29)
        have ho1 := ho.alloc (.cells #[.string x.path, .bool x.del, .bool x.exec, .string x.text] 29)
        clear hin
        go_wp2_with fail
        refine C.mono ?_
        rintro e w3 ⟨rfl, hw3⟩
        subst hw3
        clear C
        go_wp2_with (at_builtin; refine wpl_append rfl (.tmp 20) (.tmp 25) 23 rfl E_changes rfl rfl ho1 (rd_litC3 _ x _ rfl) (one_changes _) (by unfold maxLen; omega) (by omega) hb1.size ?_; intro v7 w7 ho7 hg7 hv7)
        go_roundw
        case rel =>
          refine ⟨k + 1, m + 1, by omega, by go_num, hb1.grown hg7 hb1.size (fun g hg => (ho1.lt g hg).1), by omega, ?_, ?_⟩
          · show (onlyF (l.take (k + 1)) ps).length = m + 1
            rw [HW.out, List.length_append, hm.out]; rfl
          · rw [HW.out, List.flatMap_append]; exact ho7
        case measure => simp [intOf]; omega
      | false =>
        rw [hin] at C
        have HW := Lib.hid (show onlyF (l.take (k + 1)) ps = onlyF (l.take k) ps by rw [HS.out, if_neg (by rw [hin]; decide), List.append_nil])
        clear hin
        go_wp2_with fail
        refine C.mono ?_
        rintro e w3 ⟨rfl, hw3⟩
        subst hw3
        clear C
        go_wp2
        go_roundw
        case rel => exact ⟨k + 1, m, by omega, by go_num, hb, by omega, by rw [HW.out]; exact hm, by rw [HW.out]; exact ho⟩
        case measure => simp [intOf]; omega
    · obtain rfl : k = n := by omega
      rw [List.take_of_length_le (by rw [HL.out]; exact Nat.le_refl _)] at hm ho
      go_wp2
      go_ret
      obtain ⟨A7, c7, rfl, hc7⟩ := ownsRow_cap ho
      have hr := Rd.of_own ho hc7
      rw [← hm.out] at hr ⊢
      exact ⟨A7, c7, _, rfl, rfl, ⟨hr, rfl, fun x hx => HF.out x ((List.mem_filter.1 hx).1)⟩, hb⟩
end Go.Proofs.YtahlfafcjjkliaaGreatDoor
namespace Go.Proofs.YtahlfafcjjkliaaGreatDoor
open Go.ChangeShapes Go.WideShapes Go.ChangeAt Go.RowKit
section
variable {H : Type} {enc : TypeId × Value → H} {W : World}
def ChgCells (cs : List Value) : Prop := ∃ f : ChV, cs = f.cells ∧ f.path.size ≤ 140737488351232 ∧ f.text.size ≤ 140737488351232
set_option maxRecDepth 100000 in
theorem opens_chg : Opens enc W 29 ChgCells := by
  refine (opens_struct (E := fun i => match i with | 0 => fun cs => ∃ s : ByteArray, cs = [.string s] ∧ s.size ≤ 140737488351232 | 1 => fun cs => ∃ b : Bool, cs = [.bool b] | 2 => fun cs => ∃ b : Bool, cs = [.bool b] | _ => fun cs => ∃ s : ByteArray, cs = [.string s] ∧ s.size ≤ 140737488351232) Tryz.underlying29 ?_).mono ?_
  · intro i f hf
    rcases i with _ | _ | _ | _ | i <;> simp at hf
    · subst hf; exact opens_str Tryz.underlying9
    · subst hf; exact opens_bool Tryz.underlying4
    · subst hf; exact opens_bool Tryz.underlying4
    · subst hf; exact opens_str Tryz.underlying9
  · rintro cs ⟨hl, h⟩
    have hl3 : cs.length = 4 := hl
    match cs, hl3 with
    | [a, b, c, d], _ =>
      obtain ⟨p, e1, h1⟩ := h 0 _ rfl
      obtain ⟨x, e2⟩ := h 1 _ rfl
      obtain ⟨y, e3⟩ := h 2 _ rfl
      obtain ⟨t, e4, h4⟩ := h 3 _ rfl
      have e1' : [a] = [Value.string p] := e1
      have e2' : [b] = [Value.bool x] := e2
      have e3' : [c] = [Value.bool y] := e3
      have e4' : [d] = [Value.string t] := e4
      cases e1'
      cases e2'
      cases e3'
      cases e4'
      exact ⟨⟨p, x, y, t⟩, rfl, h1, h4⟩
/-- A slice of changes. -/
def ChgsCells (W : World) (cs : List Value) : Prop := ∃ (A : Option Addr) (c : Nat) (l : List ChV), cs = [.slice A l.length c] ∧ RdC W W.heap.size A l.length c l ∧ l.length ≤ 3518437208782
set_option maxRecDepth 100000 in
theorem opens_chgs : Opens enc W 23 (ChgsCells W) := by
  refine (opens_slice (f := ChV.cells) (Q := fun f => f.path.size ≤ 140737488351232 ∧ f.text.size ≤ 140737488351232) Tryz.underlying23 (by kernel_rfl) (sz := 4) (bytes := 40) (by kernel_rfl) ChV.cells_len (by omega) (opens_chg.mono ?_)).mono ?_
  · rintro cs ⟨f, h1, h2, h3⟩; exact ⟨f, h1, h2, h3⟩
  · rintro cs ⟨A, n, c, es, rfl, rfl, hr, hq, hb⟩
    exact ⟨A, c, es, rfl, ⟨hr, rfl, hq⟩, by omega⟩
end
end Go.Proofs.YtahlfafcjjkliaaGreatDoor
