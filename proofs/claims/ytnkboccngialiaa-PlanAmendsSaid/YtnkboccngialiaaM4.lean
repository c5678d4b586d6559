/- Walks: marker.Next; the document's add and Next. -/
import Derived.Test.YtnkboccngialiaaM3
import Derived.Test.YtnkboccngialiaaShelf
import Derived.Test.YtnkboccngialiaaFork
namespace Go.Proofs.Ytnkboccngialiaa
open Go.RowKit

theorem E28 : Elem Try.prog 28 3 1 8 := elem_of (by kernel_rfl)
theorem one_ints (l : List Int) : ∀ u ∈ l.map (Value.int .i64), u.oneCell' = true := by
  intro u hu
  obtain ⟨s, _, rfl⟩ := List.mem_map.1 hu
  rfl
theorem grown_b {w w' : World} (h : w.grownBy w' none) : Below w.heap.size w w' := ⟨h.os, h.tape, h.output, h.size, fun k hk => h.block k hk (by simp)⟩
/-- A new row of one number. -/
theorem rd_lit1 (w : World) (x : Int) : Rd (w.alloc (.cells #[.int .i64 x] 3)) (w.alloc (.cells #[.int .i64 x] 3)).heap.size 1 (some ⟨w.heap.size, 0, none⟩) 1 1 ([x].map (.int .i64)) :=
  ⟨rfl, Nat.le_refl _, fun _ => ⟨_, _, rfl, by simp, fun j u hu => by
    rw [Nat.zero_add, cell_of_row _ _ _ _ _ _ (heap_alloc_new _ _)]
    cases j with
    | zero => simpa using hu
    | succ j => simp at hu⟩⟩
/-- What a call hands back: a slice of numbers. -/
def Ints (Q : List Int → Prop) (w : World) (e : Ending) (w' : World) : Prop :=
  ∃ (A : Option Addr) (c : Nat) (l : List Int), e = .returned (.slice A l.length c) ∧ Rd w' w'.heap.size 1 A l.length c (l.map (.int .i64)) ∧ Below w.heap.size w w' ∧ Q l

/-- .. which lies in a block that the call has made, or is the one that was handed in. -/
def IntsF (A0 : Option Addr) (n0 : Nat) (Q : List Int → Prop) (w : World) (e : Ending) (w' : World) : Prop :=
  ∃ (A : Option Addr) (c : Nat) (l : List Int), e = .returned (.slice A l.length c) ∧ Rd w' w'.heap.size 1 A l.length c (l.map (.int .i64)) ∧ Below w.heap.size w w' ∧ Q l ∧ ∀ a, A = some a → (A = A0 ∧ 0 < n0) ∨ w.heap.size ≤ a.block
theorem IntsF.ints {A0 : Option Addr} {n0 : Nat} {Q : List Int → Prop} {w w' : World} {e : Ending} (h : IntsF A0 n0 Q w e w') : Ints Q w e w' := by
  obtain ⟨A, c, l, h1, h2, h3, h4, _⟩ := h
  exact ⟨A, c, l, h1, h2, h3, h4⟩
theorem own_base {w : World} {base : Nat} {e : TypeId} {sz n m c : Nat} {A : Option Addr} {xs : List Value} (h : w.ownsRow base e sz (.slice A m c) n xs) : ∀ a, A = some a → base ≤ a.block := by
  rintro a rfl
  rcases h.2 with ⟨h', _⟩ | ⟨g, cap, cur, h', hb, _⟩
  · simp at h'
  · simp only [Value.slice.injEq, Option.some.injEq] at h'
    rw [h'.1]; exact hb

set_option maxRecDepth 100000 in
set_option maxHeartbeats 4000000 in
theorem next_any {A : Option Addr} {n c : Nat} {ms : List MV} {x : Int} {w : World} (hn : n ≤ maxLen) (h : RdM w w.heap.size A n c ms) (hf : fewM ms = true) :
    Calls Try.prog 17 #[.slice A n c, .int .i64 x] w (Ints (fun l => NextIs ms x l ∧ l.length ≤ 480) w) := by
  unfold maxLen at hn
  have HL := Lib.hid h.len
  obtain ⟨F1, F2⟩ := few_iff hf
  go_enter Try.func17, Try.ntmps17
  go_wp2
  go_loopw [5, 10] (fun o i wr => ∃ k : Nat, k ≤ n ∧ i = .int .i64 k ∧ Below w.heap.size w wr ∧ wr.ownsRow w.heap.size 3 1 o (nexts (ms.take k) x).length ((nexts (ms.take k) x).map (.int .i64))) (fun _ i _ => n - (intOf i).toNat)
  case atStart => exact ⟨0, Nat.zero_le _, rfl, Below.refl _ _, by rw [List.take_zero]; exact World.ownsRow_nil _ _ _ _⟩
  case round =>
    obtain ⟨k, hk, rfl, hb, ho⟩ := hrel
    by_cases hlt : k < n
    · obtain ⟨b0, o0, u, rfl, hbb, hx, hu, h0, h1⟩ := h.get hlt
      replace h0 := (hb.cell hbb).trans h0
      replace h1 := (hb.cell hbb).trans h1
      have HX := Lib.hid hx; clear hx
      obtain ⟨hrd, hnl, _, _⟩ := h.parts u hu
      have hbE := hb.alloc hb.size (.cells #[.int .i64 u.old, .slice u.A u.new.length u.c] 35)
      have hoE := ho.alloc (.cells #[.int .i64 u.old, .slice u.A u.new.length u.c] 35)
      have hle := nexts_le x fun m hm => F1 m (List.mem_of_mem_take (i := k) hm)
      have hkl : (ms.take k).length ≤ 40 := by rw [List.length_take]; omega
      have hul := F1 u hu
      have hsn : nexts (ms.take (k + 1)) x = if u.old = x then nexts (ms.take k) x ++ u.new else nexts (ms.take k) x := by
        rw [List.take_add_one, HX.out, Option.toList_some, nexts_snoc]
      by_cases he : u.old = x
      · subst he
        rw [if_pos rfl] at hsn
        go_wp2_with (at_builtin; refine wpl_append rfl (.tmp 18) (.tmp 20) 28 rfl E28 rfl rfl hoE (hrd.below hbE) (one_ints _) (by simp only [maxLen]; omega) (by omega) (by have := hb.size; simp; omega) ?_; intro v' w' ho' hg' hb')
        go_roundw
        case rel =>
          refine ⟨k + 1, by omega, by go_num, hbE.grown hg' hbE.size (fun g hg => (hoE.lt g hg).1), ?_⟩
          rw [hsn, List.length_append, List.map_append]; exact ho'
        case measure => simp [intOf]; omega
      · rw [if_neg he] at hsn
        obtain ⟨e1, _⟩ := int_ne he
        go_wp2
        go_roundw
        case rel =>
          refine ⟨k + 1, by omega, by go_num, hbE, ?_⟩
          rw [hsn]; exact hoE
        case measure => simp [intOf]; omega
    · have hkn : k = n := by omega
      subst hkn
      rw [List.take_of_length_le (by rw [HL.out]; omega)] at ho
      have hle := nexts_le x F1
      go_wp2_with (first
        | (go_at_call 41; refine (sort_row ho (by omega)).mono ?_; rintro e w1 ⟨rfl, ho1, hg1⟩; have hs1 : ((nexts ms x).mergeSort fun x y => decide (x ≤ y)).length = (nexts ms x).length := List.length_mergeSort _)
        | (go_at_call 42; refine (compact_row (by rw [hs1]; exact ho1) (by rw [hs1]; omega) ((List.pairwise_mergeSort (fun a b c h1 h2 => by simp only [decide_eq_true_eq] at *; omega) (fun a b => by simp only [Bool.or_eq_true, decide_eq_true_eq]; omega) _).imp fun h => by simpa using h)).mono ?_; rintro e w2 ⟨A2, c2, l2, rfl, hr2, hg2, hs2, hm2, hl2⟩))
      go_ret
      have hb1 := hb.grown hg1 hb.size (fun g hg => (ho.lt g hg).1)
      refine ⟨A2, c2, l2, rfl, hr2, hb1.grown hg2 hb1.size (fun g hg => (ho1.lt g hg).1), ⟨hs2, fun y => ?_⟩, by rw [hs1] at hl2; omega⟩
      rw [hm2, (List.mergeSort_perm _ _).mem_iff]

/-! ### the document's -/
theorem rd_sliced {w : World} {B n c l k : Nat} {A : Option Addr} {xs : List Int} (h : Rd w B 1 A n c (xs.map (.int .i64))) (hl : l ≤ k) (hk : k ≤ n) :
    ∃ A', sliced A l k c 1 = .slice A' (k - l) (c - l) ∧ Rd w B 1 A' (k - l) (c - l) (((xs.take k).drop l).map (.int .i64)) := by
  refine ⟨_, rfl, ?_⟩
  have := h.cut1 hl hk
  rw [Nat.mul_one, List.map_drop, List.map_take]
  exact this
theorem rd_block {w w' : World} {B n c sz : Nat} {A : Option Addr} {xs : List Value} (h : Rd w B sz A n c xs) (hb : Below w.heap.size w w') (hB : B ≤ w.heap.size) : Rd w' B sz A n c xs := h.below (hb.mono hB)

set_option maxRecDepth 100000 in
set_option maxHeartbeats 8000000 in
theorem add_any {A : Option Addr} {c : Nat} {l : List Int} {v : Int} {w : World} (hn : l.length ≤ 1000000) (h : Rd w w.heap.size 1 A l.length c (l.map (.int .i64))) :
    Calls Try.prog 43 #[.slice A l.length c, .int .i64 v] w (IntsF A l.length (AddIs l v) w) := by
  have C := in_any (x := v) (by unfold maxLen; omega) h
  by_cases hv : v ∈ l
  · rw [decide_eq_true hv] at C
    go_enter Try.func43, Try.ntmps43
    go_wp2_with (go_at_call 22; refine C.mono ?_; rintro e w' ⟨rfl, hb⟩)
    go_ret
    exact ⟨A, c, l, rfl, h.to hb hb.size, hb, addIs_in hv, fun a ha => .inl ⟨rfl, List.length_pos_of_mem hv⟩⟩
  · rw [decide_eq_false hv] at C
    have HV := Lib.hid hv; clear hv
    generalize hL : l.length = n at *
    have HL := Lib.hid hL; clear hL
    have hcap := h.cap
    go_enter Try.func43, Try.ntmps43
    go_wp2_with (go_at_call 22; refine C.mono ?_; rintro e w0 ⟨rfl, hb0⟩)
    go_loopw [5] (fun i wr => ∃ k : Nat, k ≤ n ∧ i = .int .i64 k ∧ Below w.heap.size w wr ∧ Hid (∀ (j : Nat) (x : Int), k ≤ j → l[j]? = some x → v < x)) (fun i _ => (intOf i).toNat)
    case atStart => exact ⟨n, Nat.le_refl _, rfl, hb0, fun j x hj hx => by have := (List.getElem?_eq_some_iff.1 hx).1; rw [HL.out] at this; omega⟩
    case round =>
      obtain ⟨k, hk, rfl, hb, hj⟩ := hrel
      have FIN : ∀ (hpl : PlaceIs l v k), PlaceIs l v k := fun h => h
      by_cases hpos : 0 < k
      · obtain ⟨b0, o0, x, rfl, hbb, hx, g0⟩ := h.int_ (k := k - 1) (by omega)
        have h0 := (hb.cell (p := ⟨b0, o0 + (k - 1), none⟩) hbb).trans g0
        have e1 : ((k : Int) - 1).toNat = k - 1 := by omega
        have HX := Lib.hid hx; clear hx
        by_cases hgt : v < x
        · go_wp2
          go_roundw
          case rel =>
            refine ⟨k - 1, by omega, by go_num, hb, fun j y hj' hy => ?_⟩
            by_cases e : j = k - 1
            · subst e; rw [HX.out] at hy; cases hy; exact hgt
            · exact hj.out j y (by omega) hy
          case measure => simp [intOf]; omega
        · have HP := Lib.hid (show PlaceIs l v k from ⟨by rw [HL.out]; exact hk, fun j x hj' hx => hj.out j x hj' hx, .inr ⟨x, HX.out, by omega⟩⟩)
          clear hj HX
          have HR := Lib.hid h
          go_wp2
          clear h0 g0
          refine wp_region_t (fun v' => Below w.heap.size w v') (.q 0 (.q 1 (.q 2 (.q 4 (.q 7 (.q 8 (.q 9 (.two 3 (.one 5 (.one 6 (.one 10 (.q 11 .leaf)))) 5 (.one 3 (.one 6 (.one 10 (.q 11 .leaf)))))))))))) mixed (by kernel_rfl) hb.drew ?_
          intro T M Q hT hT' hM hQ
          clear hM
          refine wt_gen ?_
          intro O hO
          have t0 := hO true 0
          have t1 := hO true 1
          have t2 := hO true 2
          have t4 := hO true 4
          have t7 := hO true 7
          have t8 := hO true 8
          have t9 := hO true 9
          have t11 := hO true 11
          have e3 := hO false 3
          have e5 := hO false 5
          have e6 := hO false 6
          have e10 := hO false 10
          simp only [qcmp] at t0 t1 t2 t4 t7 t8 t9 t11 e3 e5 e6 e10
          clear hO
          simp (maxSteps := 5000000) only [↓wt_q, ↓wt_two, t0, t1, t2, t4, t7, t8, t9, e3, e5, ↓qpre, qpost, qfacts, qnorm]
          clear t0 t1 t2 t4 t7 t8 t9
          have hrd := (HR.out.below hb).drew
          have hbd : Below w.heap.size w wr.drew := hb.drew
          clear hb
          generalize wr.drew = w1 at *
          obtain ⟨A1, q1, r1⟩ := rd_sliced hrd (l := 0) (k := k) (by omega) hk
          obtain ⟨A2, q2, r2⟩ := rd_sliced hrd (l := k) (k := n) hk (Nat.le_refl _)
          rw [q1, q2]
          rw [Nat.sub_zero, List.drop_zero] at r1
          rw [List.take_of_length_le (by rw [HL.out]; omega)] at r2
          clear q1 q2 hrd
          have hlk : (l.take k).length = k := by rw [List.length_take, HL.out]; omega
          have hbs := hbd.size
          simp only [Nat.sub_zero]
          refine ⟨⟨by omega, by omega⟩, ⟨by omega, by omega⟩, ?_, ?_⟩
          · refine eff_append E28 (base := w.heap.size) (n := 0) (xs := []) rfl rfl (World.ownsRow_nil _ _ _ _) r1 (one_ints _) (by simp only [maxLen]; omega) (by omega) hbs ?_
            intro v1 w2 ho1 hg1 _
            rw [Nat.zero_add, List.nil_append] at ho1
            have hb2 := hbd.grown hg1 hbs (fun g hg => by cases hg)
            replace r2 := r2.below (grown_b (w := w1) (w' := w2) hg1 |>.mono hbs)
            refine ⟨hT _ hb2, ?_⟩
            simp (maxSteps := 5000000) only [↓wt_one, e5, qpost, qnorm]
            refine eff_lit E28 rfl rfl ⟨hT _ (hb2.alloc hb2.size _), ?_⟩
            have ho1' := ho1.alloc (.cells #[.int .i64 v] 3)
            have hv := rd_lit1 w2 v
            have hb3 := hb2.alloc hb2.size (.cells #[.int .i64 v] 3)
            replace r2 := r2.below ((Below.refl w2.heap.size w2).alloc (Nat.le_refl _) (.cells #[.int .i64 v] 3) |>.mono hb2.size)
            clear ho1 hg1 hb2 r1 hbd hbs
            simp (maxSteps := 5000000) only [↓wt_one, e6, qpost, qnorm]
            generalize w2.alloc (.cells #[.int .i64 v] 3) = w3 at *
            refine eff_append E28 (base := w.heap.size) (n := k) rfl rfl ho1' hv (one_ints _) (by simp only [maxLen]; omega) (by omega) hb3.size ?_
            intro v4 w4 ho4 hg4 _
            have hb4 := hb3.grown hg4 hb3.size (fun g hg => (ho1'.lt g hg).1)
            replace r2 := r2.grown hg4 hb3.size (fun g hg => (ho1'.lt g hg).1)
            refine ⟨hT _ hb4, ?_⟩
            simp (maxSteps := 5000000) only [↓wt_one, e10, qpost, qnorm]
            refine eff_append E28 (base := w.heap.size) (n := k + 1) rfl rfl ho4 r2 (one_ints _) (by simp only [maxLen]; omega) (by omega) hb4.size ?_
            intro v5 w5 ho5 hg5 _
            have hb5 := hb4.grown hg5 hb4.size (fun g hg => (ho4.lt g hg).1)
            refine ⟨hT _ hb5, ?_⟩
            simp (maxSteps := 5000000) only [↓wt_leaf, ↓wt_q, t11, ↓qpre, qpost, qnorm]
            refine hQ _ _ ?_
            have HB := Lib.hid hb5
            have HO := Lib.hid ho5
            clear hQ hT hT' C t11 e3 e5 e6 e10 ho1' hv hb3 ho4 hg4 hb4 r2 hb5 ho5 hg5
            go_wp2
            go_ret
            obtain ⟨A5, c5, rfl, hc5⟩ := ownsRow_cap HO.out
            have hr5 := Rd.of_own HO.out hc5
            have hll : (l.take k ++ [v] ++ l.drop k).length = k + 1 + (n - k) := by rw [List.length_append, List.length_append, hlk, List.length_drop, HL.out]; rfl
            rw [← List.map_append, ← List.map_append] at hr5
            rw [← hll] at hr5 ⊢
            exact ⟨A5, c5, l.take k ++ [v] ++ l.drop k, rfl, hr5, HB.out, addIs_place HV.out HP.out, fun a ha => .inr (own_base HO.out a ha)⟩
          · refine eff_lit E28 rfl rfl ⟨hT _ (hbd.alloc hbs _), ?_⟩
            have hv0 := rd_lit1 w1 v
            have hb2 := hbd.alloc hbs (.cells #[.int .i64 v] 3)
            replace r1 := r1.below ((Below.refl w1.heap.size w1).alloc (Nat.le_refl _) (.cells #[.int .i64 v] 3) |>.mono hbs)
            replace r2 := r2.below ((Below.refl w1.heap.size w1).alloc (Nat.le_refl _) (.cells #[.int .i64 v] 3) |>.mono hbs)
            simp (maxSteps := 5000000) only [↓wt_one, e3, qpost, qnorm]
            generalize w1.alloc (.cells #[.int .i64 v] 3) = w2 at *
            have hbs2 := hb2.size
            refine eff_append E28 (base := w.heap.size) (n := 0) (xs := []) rfl rfl (World.ownsRow_nil _ _ _ _) r1 (one_ints _) (by simp only [maxLen]; omega) (by omega) hbs2 ?_
            intro v1 w3 ho1' hg1 _
            rw [Nat.zero_add, List.nil_append] at ho1'
            have hb3 := hb2.grown hg1 hbs2 (fun g hg => by cases hg)
            have hgb := grown_b (w := w2) (w' := w3) hg1
            replace r2 := r2.below (hgb.mono hbs2)
            have hv := hv0.below hgb
            clear hv0 hg1 hb2 r1 hbd hbs hbs2 hgb
            refine ⟨hT _ hb3, ?_⟩
            simp (maxSteps := 5000000) only [↓wt_one, e6, qpost, qnorm]
            refine eff_append E28 (base := w.heap.size) (n := k) rfl rfl ho1' hv (one_ints _) (by simp only [maxLen]; omega) (by omega) hb3.size ?_
            intro v4 w4 ho4 hg4 _
            have hb4 := hb3.grown hg4 hb3.size (fun g hg => (ho1'.lt g hg).1)
            replace r2 := r2.grown hg4 hb3.size (fun g hg => (ho1'.lt g hg).1)
            refine ⟨hT _ hb4, ?_⟩
            simp (maxSteps := 5000000) only [↓wt_one, e10, qpost, qnorm]
            refine eff_append E28 (base := w.heap.size) (n := k + 1) rfl rfl ho4 r2 (one_ints _) (by simp only [maxLen]; omega) (by omega) hb4.size ?_
            intro v5 w5 ho5 hg5 _
            have hb5 := hb4.grown hg5 hb4.size (fun g hg => (ho4.lt g hg).1)
            refine ⟨hT _ hb5, ?_⟩
            simp (maxSteps := 5000000) only [↓wt_leaf, ↓wt_q, t11, ↓qpre, qpost, qnorm]
            refine hQ _ _ ?_
            have HB := Lib.hid hb5
            have HO := Lib.hid ho5
            clear hQ hT hT' C t11 e3 e5 e6 e10 ho1' hv hb3 ho4 hg4 hb4 r2 hb5 ho5 hg5
            go_wp2
            go_ret
            obtain ⟨A5, c5, rfl, hc5⟩ := ownsRow_cap HO.out
            have hr5 := Rd.of_own HO.out hc5
            have hll : (l.take k ++ [v] ++ l.drop k).length = k + 1 + (n - k) := by rw [List.length_append, List.length_append, hlk, List.length_drop, HL.out]; rfl
            rw [← List.map_append, ← List.map_append] at hr5
            rw [← hll] at hr5 ⊢
            exact ⟨A5, c5, l.take k ++ [v] ++ l.drop k, rfl, hr5, HB.out, addIs_place HV.out HP.out, fun a ha => .inr (own_base HO.out a ha)⟩
      · have hk0 : k = 0 := by omega
        have HP := Lib.hid (show PlaceIs l v k from ⟨by rw [HL.out]; exact hk, fun j x hj' hx => hj.out j x hj' hx, .inl hk0⟩)
        have HR := Lib.hid h
        clear hj
        go_wp2
        refine wp_region_t (fun v' => Below w.heap.size w v') (.q 0 (.q 1 (.q 2 (.q 4 (.q 7 (.q 8 (.q 9 (.two 3 (.one 5 (.one 6 (.one 10 (.q 11 .leaf)))) 5 (.one 3 (.one 6 (.one 10 (.q 11 .leaf)))))))))))) mixed (by kernel_rfl) hb.drew ?_
        intro T M Q hT hT' hM hQ
        clear hM
        refine wt_gen ?_
        intro O hO
        have t0 := hO true 0
        have t1 := hO true 1
        have t2 := hO true 2
        have t4 := hO true 4
        have t7 := hO true 7
        have t8 := hO true 8
        have t9 := hO true 9
        have t11 := hO true 11
        have e3 := hO false 3
        have e5 := hO false 5
        have e6 := hO false 6
        have e10 := hO false 10
        simp only [qcmp] at t0 t1 t2 t4 t7 t8 t9 t11 e3 e5 e6 e10
        clear hO
        simp (maxSteps := 5000000) only [↓wt_q, ↓wt_two, t0, t1, t2, t4, t7, t8, t9, e3, e5, ↓qpre, qpost, qfacts, qnorm]
        clear t0 t1 t2 t4 t7 t8 t9
        have hrd := (HR.out.below hb).drew
        have hbd : Below w.heap.size w wr.drew := hb.drew
        clear hb
        generalize wr.drew = w1 at *
        obtain ⟨A1, q1, r1⟩ := rd_sliced hrd (l := 0) (k := k) (by omega) hk
        obtain ⟨A2, q2, r2⟩ := rd_sliced hrd (l := k) (k := n) hk (Nat.le_refl _)
        rw [q1, q2]
        rw [Nat.sub_zero, List.drop_zero] at r1
        rw [List.take_of_length_le (by rw [HL.out]; omega)] at r2
        clear q1 q2 hrd
        have hlk : (l.take k).length = k := by rw [List.length_take, HL.out]; omega
        have hbs := hbd.size
        simp only [Nat.sub_zero]
        refine ⟨⟨by omega, by omega⟩, ⟨by omega, by omega⟩, ?_, ?_⟩
        · refine eff_append E28 (base := w.heap.size) (n := 0) (xs := []) rfl rfl (World.ownsRow_nil _ _ _ _) r1 (one_ints _) (by simp only [maxLen]; omega) (by omega) hbs ?_
          intro v1 w2 ho1 hg1 _
          rw [Nat.zero_add, List.nil_append] at ho1
          have hb2 := hbd.grown hg1 hbs (fun g hg => by cases hg)
          replace r2 := r2.below (grown_b (w := w1) (w' := w2) hg1 |>.mono hbs)
          refine ⟨hT _ hb2, ?_⟩
          simp (maxSteps := 5000000) only [↓wt_one, e5, qpost, qnorm]
          refine eff_lit E28 rfl rfl ⟨hT _ (hb2.alloc hb2.size _), ?_⟩
          have ho1' := ho1.alloc (.cells #[.int .i64 v] 3)
          have hv := rd_lit1 w2 v
          have hb3 := hb2.alloc hb2.size (.cells #[.int .i64 v] 3)
          replace r2 := r2.below ((Below.refl w2.heap.size w2).alloc (Nat.le_refl _) (.cells #[.int .i64 v] 3) |>.mono hb2.size)
          clear ho1 hg1 hb2 r1 hbd hbs
          simp (maxSteps := 5000000) only [↓wt_one, e6, qpost, qnorm]
          generalize w2.alloc (.cells #[.int .i64 v] 3) = w3 at *
          refine eff_append E28 (base := w.heap.size) (n := k) rfl rfl ho1' hv (one_ints _) (by simp only [maxLen]; omega) (by omega) hb3.size ?_
          intro v4 w4 ho4 hg4 _
          have hb4 := hb3.grown hg4 hb3.size (fun g hg => (ho1'.lt g hg).1)
          replace r2 := r2.grown hg4 hb3.size (fun g hg => (ho1'.lt g hg).1)
          refine ⟨hT _ hb4, ?_⟩
          simp (maxSteps := 5000000) only [↓wt_one, e10, qpost, qnorm]
          refine eff_append E28 (base := w.heap.size) (n := k + 1) rfl rfl ho4 r2 (one_ints _) (by simp only [maxLen]; omega) (by omega) hb4.size ?_
          intro v5 w5 ho5 hg5 _
          have hb5 := hb4.grown hg5 hb4.size (fun g hg => (ho4.lt g hg).1)
          refine ⟨hT _ hb5, ?_⟩
          simp (maxSteps := 5000000) only [↓wt_leaf, ↓wt_q, t11, ↓qpre, qpost, qnorm]
          refine hQ _ _ ?_
          have HB := Lib.hid hb5
          have HO := Lib.hid ho5
          clear hQ hT hT' C t11 e3 e5 e6 e10 ho1' hv hb3 ho4 hg4 hb4 r2 hb5 ho5 hg5
          go_wp2
          go_ret
          obtain ⟨A5, c5, rfl, hc5⟩ := ownsRow_cap HO.out
          have hr5 := Rd.of_own HO.out hc5
          have hll : (l.take k ++ [v] ++ l.drop k).length = k + 1 + (n - k) := by rw [List.length_append, List.length_append, hlk, List.length_drop, HL.out]; rfl
          rw [← List.map_append, ← List.map_append] at hr5
          rw [← hll] at hr5 ⊢
          exact ⟨A5, c5, l.take k ++ [v] ++ l.drop k, rfl, hr5, HB.out, addIs_place HV.out HP.out, fun a ha => .inr (own_base HO.out a ha)⟩
        · refine eff_lit E28 rfl rfl ⟨hT _ (hbd.alloc hbs _), ?_⟩
          have hv0 := rd_lit1 w1 v
          have hb2 := hbd.alloc hbs (.cells #[.int .i64 v] 3)
          replace r1 := r1.below ((Below.refl w1.heap.size w1).alloc (Nat.le_refl _) (.cells #[.int .i64 v] 3) |>.mono hbs)
          replace r2 := r2.below ((Below.refl w1.heap.size w1).alloc (Nat.le_refl _) (.cells #[.int .i64 v] 3) |>.mono hbs)
          simp (maxSteps := 5000000) only [↓wt_one, e3, qpost, qnorm]
          generalize w1.alloc (.cells #[.int .i64 v] 3) = w2 at *
          have hbs2 := hb2.size
          refine eff_append E28 (base := w.heap.size) (n := 0) (xs := []) rfl rfl (World.ownsRow_nil _ _ _ _) r1 (one_ints _) (by simp only [maxLen]; omega) (by omega) hbs2 ?_
          intro v1 w3 ho1' hg1 _
          rw [Nat.zero_add, List.nil_append] at ho1'
          have hb3 := hb2.grown hg1 hbs2 (fun g hg => by cases hg)
          have hgb := grown_b (w := w2) (w' := w3) hg1
          replace r2 := r2.below (hgb.mono hbs2)
          have hv := hv0.below hgb
          clear hv0 hg1 hb2 r1 hbd hbs hbs2 hgb
          refine ⟨hT _ hb3, ?_⟩
          simp (maxSteps := 5000000) only [↓wt_one, e6, qpost, qnorm]
          refine eff_append E28 (base := w.heap.size) (n := k) rfl rfl ho1' hv (one_ints _) (by simp only [maxLen]; omega) (by omega) hb3.size ?_
          intro v4 w4 ho4 hg4 _
          have hb4 := hb3.grown hg4 hb3.size (fun g hg => (ho1'.lt g hg).1)
          replace r2 := r2.grown hg4 hb3.size (fun g hg => (ho1'.lt g hg).1)
          refine ⟨hT _ hb4, ?_⟩
          simp (maxSteps := 5000000) only [↓wt_one, e10, qpost, qnorm]
          refine eff_append E28 (base := w.heap.size) (n := k + 1) rfl rfl ho4 r2 (one_ints _) (by simp only [maxLen]; omega) (by omega) hb4.size ?_
          intro v5 w5 ho5 hg5 _
          have hb5 := hb4.grown hg5 hb4.size (fun g hg => (ho4.lt g hg).1)
          refine ⟨hT _ hb5, ?_⟩
          simp (maxSteps := 5000000) only [↓wt_leaf, ↓wt_q, t11, ↓qpre, qpost, qnorm]
          refine hQ _ _ ?_
          have HB := Lib.hid hb5
          have HO := Lib.hid ho5
          clear hQ hT hT' C t11 e3 e5 e6 e10 ho1' hv hb3 ho4 hg4 hb4 r2 hb5 ho5 hg5
          go_wp2
          go_ret
          obtain ⟨A5, c5, rfl, hc5⟩ := ownsRow_cap HO.out
          have hr5 := Rd.of_own HO.out hc5
          have hll : (l.take k ++ [v] ++ l.drop k).length = k + 1 + (n - k) := by rw [List.length_append, List.length_append, hlk, List.length_drop, HL.out]; rfl
          rw [← List.map_append, ← List.map_append] at hr5
          rw [← hll] at hr5 ⊢
          exact ⟨A5, c5, l.take k ++ [v] ++ l.drop k, rfl, hr5, HB.out, addIs_place HV.out HP.out, fun a ha => .inr (own_base HO.out a ha)⟩
end Go.Proofs.Ytnkboccngialiaa
