/- Walks: the document's Final. -/
import Derived.Test.YtnkboccngialiaaM9
namespace Go.Proofs.Ytnkboccngialiaa
open Go.RowKit

theorem Rd.keepA {w w' : World} {B sz n c : Nat} {A : Option Addr} {xs : List Value} (h : Rd w B sz A n c xs) (hA : 0 < n → ∀ a, A = some a → w'.heap[a.block]? = w.heap[a.block]?) : Rd w' B sz A n c xs :=
  ⟨h.len, h.cap, fun hn => by
    obtain ⟨b, o, rfl, hb, hc⟩ := h.at_ hn
    refine ⟨b, o, rfl, hb, fun j u hu => ?_⟩
    rw [← hc j u hu]
    exact World.cell?_of_block (w := w) (hA hn ⟨b, o, none⟩ rfl)⟩
theorem Rd.lt_ {w : World} {B sz n c : Nat} {A : Option Addr} {xs : List Value} (h : Rd w B sz A n c xs) (hn : 0 < n) : ∀ a, A = some a → a.block < B := by
  obtain ⟨b, o, rfl, hb, _⟩ := h.at_ hn
  rintro a e; cases e; exact hb
/-- A slice of numbers that reads, in another block than that one. -/
def Apart (sv : Value) (l : List Int) (w : World) (v : Value) : Prop :=
  ∃ (A : Option Addr) (c : Nat), v = .slice A l.length c ∧ Rd w w.heap.size 1 A l.length c (l.map (.int .i64)) ∧ (0 < l.length → ∀ a, A = some a → some a.block ≠ sv.ownBlock)
theorem Apart.nil (sv : Value) (w : World) : Apart sv [] w (.slice none 0 0) :=
  ⟨none, 0, rfl, Rd.none_ _ _ _, fun h => absurd h (by simp)⟩
theorem Apart.to {sv v : Value} {l : List Int} {w w' : World} (h : Apart sv l w v) (hb : Below w.heap.size w w') : Apart sv l w' v := by
  obtain ⟨A, c, rfl, hr, ha⟩ := h
  exact ⟨A, c, rfl, hr.to hb hb.size, ha⟩
/-- The other row grows. -/
theorem Apart.grown {sv sv' v : Value} {l : List Int} {w w' : World} (h : Apart sv l w v) (hg : w.grownBy w' sv.ownBlock) (hv : sv'.ownBlock = sv.ownBlock ∨ ∃ k, sv'.ownBlock = some k ∧ w.heap.size ≤ k) : Apart sv' l w' v := by
  obtain ⟨A, c, rfl, hr, ha⟩ := h
  refine ⟨A, c, rfl, (hr.keepA fun h0 a h => hg.block _ (hr.lt_ h0 a h) (ha h0 a h)).more hg.size, fun h0 a h => ?_⟩
  rcases hv with e | ⟨k, e, hk⟩
  · rw [e]; exact ha h0 a h
  · rw [e]; intro e2; injection e2 with e2; have := hr.lt_ h0 a h; omega
theorem Apart.cut1 {sv : Value} {x : Int} {l : List Int} {w : World} {A : Option Addr} {n c : Nat} (h : Apart sv (x :: l) w (.slice A n c)) : n = l.length + 1 ∧ n ≤ c ∧ Apart sv l w (sliced A 1 n c 1) := by
  obtain ⟨A', c', e, hr, ha⟩ := h
  cases e
  have hcap := hr.cap
  simp only [List.length_cons] at hr hcap ha ⊢
  refine ⟨trivial, hcap, ?_⟩
  obtain ⟨A2, e2, r2⟩ := rd_sliced hr (l := 1) (k := l.length + 1) (by omega) (Nat.le_refl _)
  refine ⟨A2, c - 1, e2.trans (by simp), ?_, fun h0 a h => ?_⟩
  · have : ((List.take (l.length + 1) (x :: l)).drop 1) = l := by simp
    rw [this] at r2
    simpa using r2
  · simp only [sliced, Value.slice.injEq] at e2
    have e3 := e2.1
    rw [h] at e3
    split at e3
    · exact ha (by omega) a e3
    · cases A with
      | none => cases e3
      | some a' =>
        simp at e3
        have := ha (by omega) a' rfl
        rw [← e3, block_add]; exact this
theorem Apart.fresh {sv : Value} {l : List Int} {w w' : World} {A : Option Addr} {c : Nat} (hr : Rd w' w'.heap.size 1 A l.length c (l.map (.int .i64))) (hs : ∀ k, sv.ownBlock = some k → k < w.heap.size) (ha : ∀ a, A = some a → w.heap.size ≤ a.block) : Apart sv l w' (.slice A l.length c) :=
  ⟨A, c, rfl, hr, fun _ a h e => by have := hs _ e.symm; have := ha a h; omega⟩

structure RefSt (w wr : World) (ms : List MV) (i : Int) (ov tv sv : Value) (seen todo out : List Int) : Prop where
  below : Below w.heap.size w wr
  inv : RefInv ms i seen todo out
  ho : Apart sv out wr ov
  ht : Apart sv todo wr tv
  row : wr.ownsRow w.heap.size 3 1 sv seen.length (seen.map (.int .i64))
  tl : todo.length ≤ 480 * (seen.length + 1)

set_option maxRecDepth 100000 in
set_option maxHeartbeats 8000000 in
theorem rfinal_any {A : Option Addr} {n c : Nat} {ms : List MV} {i : Int} {w : World} (hn : n ≤ maxLen) (h : RdM w w.heap.size A n c ms) (hf : fewM ms = true) :
    Calls Try.prog 20 #[.slice A n c, .int .i64 i] w (Ints (FinalIs ms i) w) := by
  have HF := Lib.hid hf
  have C1 := robs_any (x := i) hn h
  cases ho : obs ms i with
  | false =>
    rw [ho] at C1
    go_enter Try.func20, Try.ntmps20
    go_wp2_with (go_at_call 15; refine C1.mono ?_; rintro e w1 ⟨rfl, hb1⟩)
    go_ret
    exact ⟨some ⟨w1.heap.size, 0, none⟩, 1, [i], rfl, rd_lit1 w1 i, hb1.alloc hb1.size _, FinalIs.self ho⟩
  | true =>
    rw [ho] at C1
    go_enter Try.func20, Try.ntmps20
    go_wp2_with (first
      | (go_at_call 15; refine C1.mono ?_; rintro e w1 ⟨rfl, hb1⟩; have h1 := h.to hb1 hb1.size)
      | (go_at_call 18; refine (rnext_any hn h1 hf).mono ?_; rintro e w2 ⟨A2, c2, l2, rfl, hr2, hb2, ⟨hp2, hl2⟩, hA2⟩))
    have hbw := hb1.trans (hb2.mono hb1.size)
    have hAp2 : Apart (.slice none 0 0) l2 w2 (.slice A2 l2.length c2) := ⟨A2, c2, rfl, hr2, fun _ a _ => by simp [Value.ownBlock]⟩
    have hst0 : RefSt w w2 ms i (.slice none 0 0) (.slice A2 l2.length c2) (.slice none 0 0) [] l2 [] := ⟨hbw, RefInv.init hp2, Apart.nil _ _, hAp2, World.ownsRow_nil _ _ _ _, by simp; omega⟩
    clear hA2 hAp2 hr2 hb2 h1 hb1 hbw C1
    go_loopg [5, 6, 7] 300000 (fun gg ov tv sv wr => ∃ seen todo out, (482 - seen.length) * 481 + todo.length ≤ gg ∧ RefSt w wr ms i ov tv sv seen todo out)
    case atStart => exact ⟨[], l2, [], by simp; omega, hst0⟩
    case round =>
      clear hst0
      obtain ⟨seen, todo, out, hg, hb, hinv, hro, hrt, hrow, htl⟩ := hrel
      have hsl := hinv.seen_le HF.out
      rcases todo with _ | ⟨x, todo'⟩
      · obtain ⟨A6, c6, rfl, hr6, _⟩ := hrt
        obtain ⟨A5, c5, rfl, hr5, _⟩ := hro
        have hfi := hinv.final ho
        clear ho
        go_wp2
        go_ret
        exact ⟨A5, c5, out, rfl, hr5, hb, hfi⟩
      · obtain ⟨A6, c6, rfl, hr6, ha6⟩ := hrt
        obtain ⟨b0, o0, x0, rfl, hb0, hx0, h0⟩ := hr6.int_ (k := 0) (by simp)
        simp only [List.getElem?_cons_zero, Option.some.injEq] at hx0
        subst hx0
        rw [Nat.add_zero] at h0
        have hcut := Apart.cut1 ⟨_, c6, rfl, hr6, ha6⟩
        obtain ⟨_, hcap6, hcut⟩ := hcut
        rw [List.length_cons] at hg htl hcap6 hcut
        obtain ⟨A7, c7, rfl, hc7⟩ := ownsRow_cap hrow
        have hin := in_any (x := x) (by unfold maxLen; omega) (Rd.of_own hrow hc7)
        by_cases hc6 : c6 = 1
        · subst hc6
          have hl0 : todo'.length = 0 := by omega
          have hV : Apart (.slice A7 seen.length c7) todo' wr (.slice (some ⟨b0, o0, none⟩) 0 0) := by
            have hcc := hcut
            rw [hl0] at hcc
            simpa [sliced] using hcc
          clear hcut hr6 ha6
          by_cases hxi : x ≤ i
          · go_wp2
            go_roundg ((482 - seen.length) * 481 + todo'.length)
            case measure => omega
            case rel => exact ⟨seen, todo', out, Nat.le_refl _, hb, hinv.skip (.inl hxi), hro, hV, hrow, by omega⟩
          · by_cases hse : x ∈ seen
            · rw [decide_eq_true hse] at hin
              have HSE := Lib.hid hse; clear hse
              go_wp2_with (go_at_call 22; refine hin.mono ?_; rintro e w3 ⟨rfl, hb3⟩)
              go_roundg ((482 - seen.length) * 481 + todo'.length)
              case measure => omega
              case rel => exact ⟨seen, todo', out, Nat.le_refl _, hb.trans (hb3.mono hb.size), hinv.skip (.inr HSE.out), hro.to hb3, hV.to hb3, hrow.kept (grown_none hb3 (Nat.le_refl _)) (by cases (Value.slice A7 seen.length c7).ownBlock <;> simp), by omega⟩
            · rw [decide_eq_false hse] at hin
              have HSE := Lib.hid hse; clear hse
              have hol : out.length ≤ 481 := Nat.le_trans (nodup_le (sorted_nodup hinv.sorted) fun y hy => ((hinv.out y).1 hy).1) hsl
              obtain ⟨A5, c5, rfl, hr5, ha5⟩ := hro
              have hro : Apart (.slice A7 seen.length c7) out wr (.slice A5 out.length c5) := ⟨A5, c5, rfl, hr5, ha5⟩
              clear hr5 ha5
              cases hox : obs ms x with
              | false =>
                go_wp2_with (first
                  | (go_at_call 22; refine hin.mono ?_; rintro e w3 ⟨rfl, hb3⟩; have hro4 := hro.to (hb3.trans (((Below.refl _ w3).alloc (Nat.le_refl _) (.cells #[.int .i64 x] 3)).mono hb3.size)); have hV4 := hV.to (hb3.trans (((Below.refl _ w3).alloc (Nat.le_refl _) (.cells #[.int .i64 x] 3)).mono hb3.size)); have hrow4 := (hrow.kept (grown_none hb3 (Nat.le_refl _)) (by cases (Value.slice A7 seen.length c7).ownBlock <;> simp)).alloc (.cells #[.int .i64 x] 3); have hb4 := (hb.trans (hb3.mono hb.size)).alloc (hb.trans (hb3.mono hb.size)).size (.cells #[.int .i64 x] 3))
                  | (at_builtin; refine wpl_append rfl (.tmp 36) (.tmp 38) 28 rfl E28 rfl rfl hrow4 (rd_lit1 w3 x) (one_ints _) (by unfold maxLen; omega) (by omega) hb4.size ?_; intro v5 w5 hrow5 hg5 hv5; have hro5 := hro4.grown (sv' := v5) hg5 (hv5.imp id fun e => ⟨_, e, Nat.le_refl _⟩); have hV5 := hV4.grown (sv' := v5) hg5 (hv5.imp id fun e => ⟨_, e, Nat.le_refl _⟩); have hb5 := hb4.grown hg5 hb4.size (fun g hg => (hrow4.lt g hg).1); have hC := robs_any (x := x) hn (h.to hb5 hb5.size); rw [hox] at hC)
                  | (go_at_call 15; refine hC.mono ?_; rintro e w6 ⟨rfl, hb6⟩; obtain ⟨A9, c9, e9, hr9, ha9⟩ := hro5.to hb6; cases e9)
                  | (go_at_call 43; refine (add_any (by omega) hr9).mono ?_; rintro e w7 ⟨A10, c10, l10, rfl, hr10, hb7, had10, hA10⟩))
                have hbl5 : ∀ k, v5.ownBlock = some k → k < w6.heap.size := fun k hk => Nat.lt_of_lt_of_le (hrow5.lt k hk).2 hb6.size
                go_roundg ((482 - (seen.length + 1)) * 481 + todo'.length)
                case measure => omega
                case rel =>
                  refine ⟨seen ++ [x], todo', l10, by simp, hb5.trans ((hb6.mono hb5.size).trans (hb7.mono (Nat.le_trans hb5.size hb6.size))), hinv.leaf (by omega) HSE.out hox had10, ?_, (hV5.to hb6).to hb7, ?_, by simp; omega⟩
                  · refine ⟨A10, c10, rfl, hr10, fun h0 a ha => ?_⟩
                    rcases hA10 a ha with e | e
                    · rw [ha] at e
                      exact ha9 e.2 a e.1.symm
                    · intro e2; have := hbl5 _ e2.symm; omega
                  · rw [List.length_append, List.map_append]
                    exact (hrow5.kept (grown_none hb6 (Nat.le_refl _)) (by cases v5.ownBlock <;> simp)).kept (grown_none hb7 (Nat.le_refl _)) (by cases v5.ownBlock <;> simp)
              | true =>
                go_wp2_with (first
                  | (go_at_call 22; refine hin.mono ?_; rintro e w3 ⟨rfl, hb3⟩; have hro4 := hro.to (hb3.trans (((Below.refl _ w3).alloc (Nat.le_refl _) (.cells #[.int .i64 x] 3)).mono hb3.size)); have hV4 := hV.to (hb3.trans (((Below.refl _ w3).alloc (Nat.le_refl _) (.cells #[.int .i64 x] 3)).mono hb3.size)); have hrow4 := (hrow.kept (grown_none hb3 (Nat.le_refl _)) (by cases (Value.slice A7 seen.length c7).ownBlock <;> simp)).alloc (.cells #[.int .i64 x] 3); have hb4 := (hb.trans (hb3.mono hb.size)).alloc (hb.trans (hb3.mono hb.size)).size (.cells #[.int .i64 x] 3))
                  | (at_builtin; refine wpl_append rfl (.tmp 36) (.tmp 38) 28 rfl E28 rfl rfl hrow4 (rd_lit1 w3 x) (one_ints _) (by unfold maxLen; omega) (by omega) hb4.size ?_; intro v5 w5 hrow5 hg5 hv5; have hro5 := hro4.grown (sv' := v5) hg5 (hv5.imp id fun e => ⟨_, e, Nat.le_refl _⟩); have hV5 := hV4.grown (sv' := v5) hg5 (hv5.imp id fun e => ⟨_, e, Nat.le_refl _⟩); have hb5 := hb4.grown hg5 hb4.size (fun g hg => (hrow4.lt g hg).1); have hC := robs_any (x := x) hn (h.to hb5 hb5.size); rw [hox] at hC)
                  | (go_at_call 15; refine hC.mono ?_; rintro e w6 ⟨rfl, hb6⟩; have hb6' := hb5.trans (hb6.mono hb5.size))
                  | (go_at_call 18; refine (rnext_any (x := x) hn (h.to hb6' hb6'.size) HF.out).mono ?_; rintro e w7 ⟨A9, c9, l9, rfl, hr9, hb7, ⟨hp9, hl9⟩, _⟩))
                have hbl7 := Lib.hid (show ∀ k, v5.ownBlock = some k → k < w7.heap.size from fun k hk => Nat.lt_of_lt_of_le (hrow5.lt k hk).2 (Nat.le_trans hb6.size hb7.size))
                have hb7' := hb6'.trans (hb7.mono hb6'.size)
                have hrow7 := (hrow5.kept (grown_none hb6 (Nat.le_refl _)) (by cases v5.ownBlock <;> simp)).kept (grown_none hb7 (Nat.le_refl _)) (by cases v5.ownBlock <;> simp)
                have hro7 := (hro5.to hb6).to hb7
                have hV7 := (hV5.to hb6).to hb7
                have hmid := hinv.mid (more := l9) (by omega) HSE.out hox
                clear hin hro hro4 hV4 hrow4 hb4 hg5 hv5 hro5 hV5 hb5 hC hb6 hb6' hb7 hrow5 hV hrow hb h0 hb0
                go_loopw [6, 10] (fun tv jv wr' => ∃ t todo2, t ≤ l9.length ∧ jv = .int .i64 t ∧ Below w7.heap.size w7 wr' ∧ RefMid ms i (seen ++ [x]) x l9 t todo2 out ∧ Apart v5 todo2 wr' tv ∧ todo2.length ≤ todo'.length + t) (fun _ j _ => l9.length - (intOf j).toNat)
                case atStart => exact ⟨0, todo', Nat.zero_le _, rfl, Below.refl _ _, hmid, hV7, Nat.le_refl _⟩
                case round =>
                  clear hmid hV7
                  obtain ⟨t, todo2, ht, rfl, hb8, hm8, hap8, htl8⟩ := hrel
                  by_cases hlt : t < l9.length
                  · obtain ⟨b9, o9, y, rfl, hb9, hy, h9⟩ := hr9.int_ hlt
                    have h9' := (hb8.cell (p := ⟨b9, o9 + t, none⟩) hb9).trans h9
                    have HY := Lib.hid hy; clear hy
                    by_cases hgt : x < y
                    · obtain ⟨A8, c8, rfl, r8, _⟩ := hap8
                      go_wp2
                      refine wp_region_t (fun v => Below w7.heap.size w7 v) (.q 0 (.q 2 (.q 3 (.q 4 (.q 5 (.two 1 (.one 6 (.one 7 (.q 8 .leaf))) 6 (.one 1 (.one 7 (.q 8 .leaf))))))))) mixed (by kernel_rfl) hb8.drew ?_
                      intro T M Q hT hT' hM hQ
                      have m0 : M ⟨b9, o9 + t, none⟩ = some (.int .i64 y) := hM _ _ fun w' hw => (hw.cell (p := ⟨b9, o9 + t, none⟩) hb9).trans h9
                      clear hM
                      refine wt_gen ?_
                      intro O hO
                      have t0 := hO true 0
                      have t2 := hO true 2
                      have t3 := hO true 3
                      have t4 := hO true 4
                      have t5 := hO true 5
                      have t8 := hO true 8
                      have e1 := hO false 1
                      have e6 := hO false 6
                      have e7 := hO false 7
                      simp only [qcmp] at t0 t2 t3 t4 t5 t8 e1 e6 e7
                      clear hO
                      simp (maxSteps := 5000000) only [↓wt_q, ↓wt_two, t0, t2, t3, t4, t5, e1, e6, ↓qpre, qpost, qfacts, qnorm, m0]
                      clear t0 t2 t3 t4 t5 m0
                      have hbd := hb8.drew
                      have r8q : Rd wr.drew wr.heap.size 1 A8 todo2.length c8 (todo2.map (.int .i64)) := r8.drew
                      have hB8 : wr.heap.size ≤ wr.drew.heap.size := Nat.le_refl _
                      generalize wr.drew = u1 at *
                      have hbs := hbd.size
                      refine ⟨⟨by omega, by omega⟩, ?_, ?_⟩
                      · refine eff_append E28 (base := w7.heap.size) (n := 0) (xs := []) rfl rfl (World.ownsRow_nil _ _ _ _) r8q (one_ints _) (by simp only [maxLen]; omega) (by omega) hbs ?_
                        intro v1 u2 ho1 hg1 _
                        rw [Nat.zero_add, List.nil_append] at ho1
                        have hb2 := hbd.grown hg1 hbs (fun g hg => by cases hg)
                        refine ⟨hT _ hb2, ?_⟩
                        simp (maxSteps := 5000000) only [↓wt_one, e6, qpost, qnorm]
                        refine eff_lit E28 rfl rfl ⟨hT _ (hb2.alloc hb2.size _), ?_⟩
                        have ho1' := ho1.alloc (.cells #[.int .i64 y] 3)
                        have hv := rd_lit1 u2 y
                        have hb3 := hb2.alloc hb2.size (.cells #[.int .i64 y] 3)
                        clear ho1 hg1 hb2 r8q hbd hbs
                        simp (maxSteps := 5000000) only [↓wt_one, e7, qpost, qnorm]
                        generalize u2.alloc (.cells #[.int .i64 y] 3) = u3 at *
                        refine eff_append E28 (base := w7.heap.size) (n := todo2.length) rfl rfl ho1' hv (one_ints _) (by simp only [maxLen]; omega) (by omega) hb3.size ?_
                        intro v4 u4 ho4 hg4 _
                        have hb4 := hb3.grown hg4 hb3.size (fun g hg => (ho1'.lt g hg).1)
                        refine ⟨hT _ hb4, ?_⟩
                        simp (maxSteps := 5000000) only [↓wt_leaf, ↓wt_q, t8, ↓qpre, qpost, qnorm]
                        refine hQ _ _ ?_
                        have HB := Lib.hid hb4
                        have HO := Lib.hid ho4
                        clear hQ hT hT' t8 e1 e6 e7 ho1' hv hb3 ho4 hg4 hb4
                        go_wp2
                        go_roundw
                        case rel =>
                          obtain ⟨A10, c10, e10, hc10⟩ := ownsRow_cap HO.out
                          have hO := HO.out
                          rw [e10] at hO
                          refine ⟨t + 1, todo2 ++ [y], by omega, by go_num, HB.out, hm8.push hp9 HY.out hgt, ?_, by simp; omega⟩
                          rw [e10, show todo2.length + 1 = (todo2 ++ [y]).length from by simp]
                          have hr10 := Rd.of_own hO hc10
                          rw [← List.map_append, show todo2.length + 1 = (todo2 ++ [y]).length from by simp] at hr10
                          exact Apart.fresh (w := w7) hr10 hbl7.out (own_base hO)
                        case measure => simp [intOf]; omega
                      · refine eff_lit E28 rfl rfl ⟨hT _ (hbd.alloc hbs _), ?_⟩
                        have hv0 := rd_lit1 u1 y
                        have hb2 := hbd.alloc hbs (.cells #[.int .i64 y] 3)
                        have r8r := (r8q.below ((Below.refl u1.heap.size u1).alloc (Nat.le_refl _) (.cells #[.int .i64 y] 3) |>.mono hB8))
                        simp (maxSteps := 5000000) only [↓wt_one, e1, qpost, qnorm]
                        generalize u1.alloc (.cells #[.int .i64 y] 3) = u2 at *
                        have hbs2 := hb2.size
                        refine eff_append E28 (base := w7.heap.size) (n := 0) (xs := []) rfl rfl (World.ownsRow_nil _ _ _ _) r8r (one_ints _) (by simp only [maxLen]; omega) (by omega) hbs2 ?_
                        intro v1 u3 ho1' hg1 _
                        rw [Nat.zero_add, List.nil_append] at ho1'
                        have hb3 := hb2.grown hg1 hbs2 (fun g hg => by cases hg)
                        have hv := hv0.below (grown_b hg1)
                        clear hv0 hg1 hb2 r8q r8r hbd hbs hbs2
                        refine ⟨hT _ hb3, ?_⟩
                        simp (maxSteps := 5000000) only [↓wt_one, e7, qpost, qnorm]
                        refine eff_append E28 (base := w7.heap.size) (n := todo2.length) rfl rfl ho1' hv (one_ints _) (by simp only [maxLen]; omega) (by omega) hb3.size ?_
                        intro v4 u4 ho4 hg4 _
                        have hb4 := hb3.grown hg4 hb3.size (fun g hg => (ho1'.lt g hg).1)
                        refine ⟨hT _ hb4, ?_⟩
                        simp (maxSteps := 5000000) only [↓wt_leaf, ↓wt_q, t8, ↓qpre, qpost, qnorm]
                        refine hQ _ _ ?_
                        have HB := Lib.hid hb4
                        have HO := Lib.hid ho4
                        clear hQ hT hT' t8 e1 e6 e7 ho1' hv hb3 ho4 hg4 hb4
                        go_wp2
                        go_roundw
                        case rel =>
                          obtain ⟨A10, c10, e10, hc10⟩ := ownsRow_cap HO.out
                          have hO := HO.out
                          rw [e10] at hO
                          refine ⟨t + 1, todo2 ++ [y], by omega, by go_num, HB.out, hm8.push hp9 HY.out hgt, ?_, by simp; omega⟩
                          rw [e10, show todo2.length + 1 = (todo2 ++ [y]).length from by simp]
                          have hr10 := Rd.of_own hO hc10
                          rw [← List.map_append, show todo2.length + 1 = (todo2 ++ [y]).length from by simp] at hr10
                          exact Apart.fresh (w := w7) hr10 hbl7.out (own_base hO)
                        case measure => simp [intOf]; omega
                    · go_wp2
                      go_roundw
                      case rel => exact ⟨t + 1, todo2, by omega, by go_num, hb8, hm8.skip HY.out hgt, hap8, by omega⟩
                      case measure => simp [intOf]; omega
                  · go_wp2
                    go_roundg ((482 - (seen.length + 1)) * 481 + todo2.length)
                    case measure => omega
                    case rel =>
                      refine ⟨seen ++ [x], todo2, out, by simp, hb7'.trans (hb8.mono hb7'.size), hm8.stop hp9 (by omega), hro7.to hb8, hap8, ?_, by simp; omega⟩
                      rw [List.length_append, List.map_append]
                      exact hrow7.kept (grown_none hb8 (Nat.le_refl _)) (by cases v5.ownBlock <;> simp)
        · have hV : Apart (.slice A7 seen.length c7) todo' wr (.slice (some ⟨b0, o0 + 1, none⟩) todo'.length (c6 - 1)) := by simpa [sliced, hc6, Addr.add] using hcut
          clear hcut hr6 ha6
          by_cases hxi : x ≤ i
          · go_wp2
            go_roundg ((482 - seen.length) * 481 + todo'.length)
            case measure => omega
            case rel => exact ⟨seen, todo', out, Nat.le_refl _, hb, hinv.skip (.inl hxi), hro, hV, hrow, by omega⟩
          · by_cases hse : x ∈ seen
            · rw [decide_eq_true hse] at hin
              have HSE := Lib.hid hse; clear hse
              go_wp2_with (go_at_call 22; refine hin.mono ?_; rintro e w3 ⟨rfl, hb3⟩)
              go_roundg ((482 - seen.length) * 481 + todo'.length)
              case measure => omega
              case rel => exact ⟨seen, todo', out, Nat.le_refl _, hb.trans (hb3.mono hb.size), hinv.skip (.inr HSE.out), hro.to hb3, hV.to hb3, hrow.kept (grown_none hb3 (Nat.le_refl _)) (by cases (Value.slice A7 seen.length c7).ownBlock <;> simp), by omega⟩
            · rw [decide_eq_false hse] at hin
              have HSE := Lib.hid hse; clear hse
              have hol : out.length ≤ 481 := Nat.le_trans (nodup_le (sorted_nodup hinv.sorted) fun y hy => ((hinv.out y).1 hy).1) hsl
              obtain ⟨A5, c5, rfl, hr5, ha5⟩ := hro
              have hro : Apart (.slice A7 seen.length c7) out wr (.slice A5 out.length c5) := ⟨A5, c5, rfl, hr5, ha5⟩
              clear hr5 ha5
              cases hox : obs ms x with
              | false =>
                go_wp2_with (first
                  | (go_at_call 22; refine hin.mono ?_; rintro e w3 ⟨rfl, hb3⟩; have hro4 := hro.to (hb3.trans (((Below.refl _ w3).alloc (Nat.le_refl _) (.cells #[.int .i64 x] 3)).mono hb3.size)); have hV4 := hV.to (hb3.trans (((Below.refl _ w3).alloc (Nat.le_refl _) (.cells #[.int .i64 x] 3)).mono hb3.size)); have hrow4 := (hrow.kept (grown_none hb3 (Nat.le_refl _)) (by cases (Value.slice A7 seen.length c7).ownBlock <;> simp)).alloc (.cells #[.int .i64 x] 3); have hb4 := (hb.trans (hb3.mono hb.size)).alloc (hb.trans (hb3.mono hb.size)).size (.cells #[.int .i64 x] 3))
                  | (at_builtin; refine wpl_append rfl (.tmp 36) (.tmp 38) 28 rfl E28 rfl rfl hrow4 (rd_lit1 w3 x) (one_ints _) (by unfold maxLen; omega) (by omega) hb4.size ?_; intro v5 w5 hrow5 hg5 hv5; have hro5 := hro4.grown (sv' := v5) hg5 (hv5.imp id fun e => ⟨_, e, Nat.le_refl _⟩); have hV5 := hV4.grown (sv' := v5) hg5 (hv5.imp id fun e => ⟨_, e, Nat.le_refl _⟩); have hb5 := hb4.grown hg5 hb4.size (fun g hg => (hrow4.lt g hg).1); have hC := robs_any (x := x) hn (h.to hb5 hb5.size); rw [hox] at hC)
                  | (go_at_call 15; refine hC.mono ?_; rintro e w6 ⟨rfl, hb6⟩; obtain ⟨A9, c9, e9, hr9, ha9⟩ := hro5.to hb6; cases e9)
                  | (go_at_call 43; refine (add_any (by omega) hr9).mono ?_; rintro e w7 ⟨A10, c10, l10, rfl, hr10, hb7, had10, hA10⟩))
                have hbl5 : ∀ k, v5.ownBlock = some k → k < w6.heap.size := fun k hk => Nat.lt_of_lt_of_le (hrow5.lt k hk).2 hb6.size
                go_roundg ((482 - (seen.length + 1)) * 481 + todo'.length)
                case measure => omega
                case rel =>
                  refine ⟨seen ++ [x], todo', l10, by simp, hb5.trans ((hb6.mono hb5.size).trans (hb7.mono (Nat.le_trans hb5.size hb6.size))), hinv.leaf (by omega) HSE.out hox had10, ?_, (hV5.to hb6).to hb7, ?_, by simp; omega⟩
                  · refine ⟨A10, c10, rfl, hr10, fun h0 a ha => ?_⟩
                    rcases hA10 a ha with e | e
                    · rw [ha] at e
                      exact ha9 e.2 a e.1.symm
                    · intro e2; have := hbl5 _ e2.symm; omega
                  · rw [List.length_append, List.map_append]
                    exact (hrow5.kept (grown_none hb6 (Nat.le_refl _)) (by cases v5.ownBlock <;> simp)).kept (grown_none hb7 (Nat.le_refl _)) (by cases v5.ownBlock <;> simp)
              | true =>
                go_wp2_with (first
                  | (go_at_call 22; refine hin.mono ?_; rintro e w3 ⟨rfl, hb3⟩; have hro4 := hro.to (hb3.trans (((Below.refl _ w3).alloc (Nat.le_refl _) (.cells #[.int .i64 x] 3)).mono hb3.size)); have hV4 := hV.to (hb3.trans (((Below.refl _ w3).alloc (Nat.le_refl _) (.cells #[.int .i64 x] 3)).mono hb3.size)); have hrow4 := (hrow.kept (grown_none hb3 (Nat.le_refl _)) (by cases (Value.slice A7 seen.length c7).ownBlock <;> simp)).alloc (.cells #[.int .i64 x] 3); have hb4 := (hb.trans (hb3.mono hb.size)).alloc (hb.trans (hb3.mono hb.size)).size (.cells #[.int .i64 x] 3))
                  | (at_builtin; refine wpl_append rfl (.tmp 36) (.tmp 38) 28 rfl E28 rfl rfl hrow4 (rd_lit1 w3 x) (one_ints _) (by unfold maxLen; omega) (by omega) hb4.size ?_; intro v5 w5 hrow5 hg5 hv5; have hro5 := hro4.grown (sv' := v5) hg5 (hv5.imp id fun e => ⟨_, e, Nat.le_refl _⟩); have hV5 := hV4.grown (sv' := v5) hg5 (hv5.imp id fun e => ⟨_, e, Nat.le_refl _⟩); have hb5 := hb4.grown hg5 hb4.size (fun g hg => (hrow4.lt g hg).1); have hC := robs_any (x := x) hn (h.to hb5 hb5.size); rw [hox] at hC)
                  | (go_at_call 15; refine hC.mono ?_; rintro e w6 ⟨rfl, hb6⟩; have hb6' := hb5.trans (hb6.mono hb5.size))
                  | (go_at_call 18; refine (rnext_any (x := x) hn (h.to hb6' hb6'.size) HF.out).mono ?_; rintro e w7 ⟨A9, c9, l9, rfl, hr9, hb7, ⟨hp9, hl9⟩, _⟩))
                have hbl7 := Lib.hid (show ∀ k, v5.ownBlock = some k → k < w7.heap.size from fun k hk => Nat.lt_of_lt_of_le (hrow5.lt k hk).2 (Nat.le_trans hb6.size hb7.size))
                have hb7' := hb6'.trans (hb7.mono hb6'.size)
                have hrow7 := (hrow5.kept (grown_none hb6 (Nat.le_refl _)) (by cases v5.ownBlock <;> simp)).kept (grown_none hb7 (Nat.le_refl _)) (by cases v5.ownBlock <;> simp)
                have hro7 := (hro5.to hb6).to hb7
                have hV7 := (hV5.to hb6).to hb7
                have hmid := hinv.mid (more := l9) (by omega) HSE.out hox
                clear hin hro hro4 hV4 hrow4 hb4 hg5 hv5 hro5 hV5 hb5 hC hb6 hb6' hb7 hrow5 hV hrow hb h0 hb0
                go_loopw [6, 10] (fun tv jv wr' => ∃ t todo2, t ≤ l9.length ∧ jv = .int .i64 t ∧ Below w7.heap.size w7 wr' ∧ RefMid ms i (seen ++ [x]) x l9 t todo2 out ∧ Apart v5 todo2 wr' tv ∧ todo2.length ≤ todo'.length + t) (fun _ j _ => l9.length - (intOf j).toNat)
                case atStart => exact ⟨0, todo', Nat.zero_le _, rfl, Below.refl _ _, hmid, hV7, Nat.le_refl _⟩
                case round =>
                  clear hmid hV7
                  obtain ⟨t, todo2, ht, rfl, hb8, hm8, hap8, htl8⟩ := hrel
                  by_cases hlt : t < l9.length
                  · obtain ⟨b9, o9, y, rfl, hb9, hy, h9⟩ := hr9.int_ hlt
                    have h9' := (hb8.cell (p := ⟨b9, o9 + t, none⟩) hb9).trans h9
                    have HY := Lib.hid hy; clear hy
                    by_cases hgt : x < y
                    · obtain ⟨A8, c8, rfl, r8, _⟩ := hap8
                      go_wp2
                      refine wp_region_t (fun v => Below w7.heap.size w7 v) (.q 0 (.q 2 (.q 3 (.q 4 (.q 5 (.two 1 (.one 6 (.one 7 (.q 8 .leaf))) 6 (.one 1 (.one 7 (.q 8 .leaf))))))))) mixed (by kernel_rfl) hb8.drew ?_
                      intro T M Q hT hT' hM hQ
                      have m0 : M ⟨b9, o9 + t, none⟩ = some (.int .i64 y) := hM _ _ fun w' hw => (hw.cell (p := ⟨b9, o9 + t, none⟩) hb9).trans h9
                      clear hM
                      refine wt_gen ?_
                      intro O hO
                      have t0 := hO true 0
                      have t2 := hO true 2
                      have t3 := hO true 3
                      have t4 := hO true 4
                      have t5 := hO true 5
                      have t8 := hO true 8
                      have e1 := hO false 1
                      have e6 := hO false 6
                      have e7 := hO false 7
                      simp only [qcmp] at t0 t2 t3 t4 t5 t8 e1 e6 e7
                      clear hO
                      simp (maxSteps := 5000000) only [↓wt_q, ↓wt_two, t0, t2, t3, t4, t5, e1, e6, ↓qpre, qpost, qfacts, qnorm, m0]
                      clear t0 t2 t3 t4 t5 m0
                      have hbd := hb8.drew
                      have r8q : Rd wr.drew wr.heap.size 1 A8 todo2.length c8 (todo2.map (.int .i64)) := r8.drew
                      have hB8 : wr.heap.size ≤ wr.drew.heap.size := Nat.le_refl _
                      generalize wr.drew = u1 at *
                      have hbs := hbd.size
                      refine ⟨⟨by omega, by omega⟩, ?_, ?_⟩
                      · refine eff_append E28 (base := w7.heap.size) (n := 0) (xs := []) rfl rfl (World.ownsRow_nil _ _ _ _) r8q (one_ints _) (by simp only [maxLen]; omega) (by omega) hbs ?_
                        intro v1 u2 ho1 hg1 _
                        rw [Nat.zero_add, List.nil_append] at ho1
                        have hb2 := hbd.grown hg1 hbs (fun g hg => by cases hg)
                        refine ⟨hT _ hb2, ?_⟩
                        simp (maxSteps := 5000000) only [↓wt_one, e6, qpost, qnorm]
                        refine eff_lit E28 rfl rfl ⟨hT _ (hb2.alloc hb2.size _), ?_⟩
                        have ho1' := ho1.alloc (.cells #[.int .i64 y] 3)
                        have hv := rd_lit1 u2 y
                        have hb3 := hb2.alloc hb2.size (.cells #[.int .i64 y] 3)
                        clear ho1 hg1 hb2 r8q hbd hbs
                        simp (maxSteps := 5000000) only [↓wt_one, e7, qpost, qnorm]
                        generalize u2.alloc (.cells #[.int .i64 y] 3) = u3 at *
                        refine eff_append E28 (base := w7.heap.size) (n := todo2.length) rfl rfl ho1' hv (one_ints _) (by simp only [maxLen]; omega) (by omega) hb3.size ?_
                        intro v4 u4 ho4 hg4 _
                        have hb4 := hb3.grown hg4 hb3.size (fun g hg => (ho1'.lt g hg).1)
                        refine ⟨hT _ hb4, ?_⟩
                        simp (maxSteps := 5000000) only [↓wt_leaf, ↓wt_q, t8, ↓qpre, qpost, qnorm]
                        refine hQ _ _ ?_
                        have HB := Lib.hid hb4
                        have HO := Lib.hid ho4
                        clear hQ hT hT' t8 e1 e6 e7 ho1' hv hb3 ho4 hg4 hb4
                        go_wp2
                        go_roundw
                        case rel =>
                          obtain ⟨A10, c10, e10, hc10⟩ := ownsRow_cap HO.out
                          have hO := HO.out
                          rw [e10] at hO
                          refine ⟨t + 1, todo2 ++ [y], by omega, by go_num, HB.out, hm8.push hp9 HY.out hgt, ?_, by simp; omega⟩
                          rw [e10, show todo2.length + 1 = (todo2 ++ [y]).length from by simp]
                          have hr10 := Rd.of_own hO hc10
                          rw [← List.map_append, show todo2.length + 1 = (todo2 ++ [y]).length from by simp] at hr10
                          exact Apart.fresh (w := w7) hr10 hbl7.out (own_base hO)
                        case measure => simp [intOf]; omega
                      · refine eff_lit E28 rfl rfl ⟨hT _ (hbd.alloc hbs _), ?_⟩
                        have hv0 := rd_lit1 u1 y
                        have hb2 := hbd.alloc hbs (.cells #[.int .i64 y] 3)
                        have r8r := (r8q.below ((Below.refl u1.heap.size u1).alloc (Nat.le_refl _) (.cells #[.int .i64 y] 3) |>.mono hB8))
                        simp (maxSteps := 5000000) only [↓wt_one, e1, qpost, qnorm]
                        generalize u1.alloc (.cells #[.int .i64 y] 3) = u2 at *
                        have hbs2 := hb2.size
                        refine eff_append E28 (base := w7.heap.size) (n := 0) (xs := []) rfl rfl (World.ownsRow_nil _ _ _ _) r8r (one_ints _) (by simp only [maxLen]; omega) (by omega) hbs2 ?_
                        intro v1 u3 ho1' hg1 _
                        rw [Nat.zero_add, List.nil_append] at ho1'
                        have hb3 := hb2.grown hg1 hbs2 (fun g hg => by cases hg)
                        have hv := hv0.below (grown_b hg1)
                        clear hv0 hg1 hb2 r8q r8r hbd hbs hbs2
                        refine ⟨hT _ hb3, ?_⟩
                        simp (maxSteps := 5000000) only [↓wt_one, e7, qpost, qnorm]
                        refine eff_append E28 (base := w7.heap.size) (n := todo2.length) rfl rfl ho1' hv (one_ints _) (by simp only [maxLen]; omega) (by omega) hb3.size ?_
                        intro v4 u4 ho4 hg4 _
                        have hb4 := hb3.grown hg4 hb3.size (fun g hg => (ho1'.lt g hg).1)
                        refine ⟨hT _ hb4, ?_⟩
                        simp (maxSteps := 5000000) only [↓wt_leaf, ↓wt_q, t8, ↓qpre, qpost, qnorm]
                        refine hQ _ _ ?_
                        have HB := Lib.hid hb4
                        have HO := Lib.hid ho4
                        clear hQ hT hT' t8 e1 e6 e7 ho1' hv hb3 ho4 hg4 hb4
                        go_wp2
                        go_roundw
                        case rel =>
                          obtain ⟨A10, c10, e10, hc10⟩ := ownsRow_cap HO.out
                          have hO := HO.out
                          rw [e10] at hO
                          refine ⟨t + 1, todo2 ++ [y], by omega, by go_num, HB.out, hm8.push hp9 HY.out hgt, ?_, by simp; omega⟩
                          rw [e10, show todo2.length + 1 = (todo2 ++ [y]).length from by simp]
                          have hr10 := Rd.of_own hO hc10
                          rw [← List.map_append, show todo2.length + 1 = (todo2 ++ [y]).length from by simp] at hr10
                          exact Apart.fresh (w := w7) hr10 hbl7.out (own_base hO)
                        case measure => simp [intOf]; omega
                    · go_wp2
                      go_roundw
                      case rel => exact ⟨t + 1, todo2, by omega, by go_num, hb8, hm8.skip HY.out hgt, hap8, by omega⟩
                      case measure => simp [intOf]; omega
                  · go_wp2
                    go_roundg ((482 - (seen.length + 1)) * 481 + todo2.length)
                    case measure => omega
                    case rel =>
                      refine ⟨seen ++ [x], todo2, out, by simp, hb7'.trans (hb8.mono hb7'.size), hm8.stop hp9 (by omega), hro7.to hb8, hap8, ?_, by simp; omega⟩
                      rw [List.length_append, List.map_append]
                      exact hrow7.kept (grown_none hb8 (Nat.le_refl _)) (by cases v5.ownBlock <;> simp)
end Go.Proofs.Ytnkboccngialiaa
