/- Walks: plan.Moved. -/
import Derived.Test.YtnkboccngialiaaP4
namespace Go.Proofs.Ytnkboccngialiaa
open Go.RowKit

theorem rd_lit2 (w : World) (x : Int) {q : Nat} (hq : q = w.heap.size) : Rd (w.alloc (.cells #[.int .i64 x] 3)) (w.alloc (.cells #[.int .i64 x] 3)).heap.size 1 (some ⟨q, 0, none⟩) 1 1 ([x].map (.int .i64)) := by
  subst hq; exact rd_lit1 w x
/-- What a round of Moved keeps. -/
structure MvSt (w wr : World) (l : List Int) (ms : List MV) (s : Int) (g k W : Nat) (v8 ov : Value) (bl : List Bool) : Prop where
  below : Below w.heap.size w wr
  set_ : SetW wr w.heap.size v8 l.length W
  inn : wr.ownsRow g 4 1 (.slice (some ⟨g, 0, none⟩) l.length l.length) l.length (bl.map .bool)
  bits : ∀ j : Nat, s ≤ (j : Int) → j < k → bl[j]? = some (mv l ms s j)
  row : wr.ownsRow (g + 1) 3 1 ov (movedTo l ms s k).length ((movedTo l ms s k).map (.int .i64))
  sz : g + 1 ≤ wr.heap.size

set_option maxRecDepth 100000 in
set_option maxHeartbeats 8000000 in
theorem moved_any {A A2 : Option Addr} {c m c2 : Nat} {l : List Int} {ms : List MV} {s : Int} {w : World} (hn : l.length ≤ 64) (h : Rd w w.heap.size 1 A l.length c (l.map (.int .i64))) (hm : m ≤ maxLen) (h2 : RdM w w.heap.size A2 m c2 ms) :
    Calls Try.prog 29 #[.slice A l.length c, .slice A2 m c2, .int .i64 s] w (Ints (· = moved l ms s) w) := by
  have C := gright_any (by omega) h
  by_cases hok : rightP l = true ∧ 0 ≤ s ∧ s < l.length
  · obtain ⟨hr, hs0, hs1⟩ := hok
    rw [hr] at C
    have e : moved l ms s = movedTo l ms s l.length := by unfold moved; rw [if_pos ⟨hr, hs0, hs1⟩]
    rw [e]
    clear e
    have HR := Lib.hid hr; clear hr
    go_enter Try.func29, Try.ntmps29
    go_wp2_with fail
    refine C.mono ?_
    rintro e w1 ⟨rfl, hb1⟩
    go_wp2_with fail
    refine (liveL_any hn (h.to hb1 hb1.size) hm (h2.to hb1 hb1.size)).mono ?_
    rintro e w2 ⟨A3, c3, l3, rfl, hr3, hb2, hl3⟩
    have hb12 := hb1.trans (hb2.mono hb1.size)
    have hll : l3.length ≤ 64 := by rw [hl3]; exact Nat.le_trans (liveL_len l ms) hn
    have hin3 : ∀ x ∈ l3, 0 ≤ x ∧ x < (l.length : Int) := fun x hx => by rw [hl3] at hx; have := mem_liveL.1 hx; omega
    have CO := of_any hn hll hr3 hin3
    have HL3 := Lib.hid hl3
    clear hl3
    go_wp2_with (first
      | (go_at_call 47; refine CO.mono ?_; rintro e w3 ⟨v8, W, rfl, hset, hW, hb3⟩; have hb13 := hb12.trans (hb3.mono hb12.size))
      | (refine wpl_full rfl (.tmp 31) (.tmp 31) 70 rfl E70 zero4 rfl w3.heap.size l.length (L := (l.length : Int)) rfl rfl rfl (by omega) (by unfold maxLen; omega) (Nat.le_refl _) ?_; intro w4 ho4 hg4))
    have hset4 := hset.kept hg4 (by cases v8.ownBlock <;> simp)
    have hv8 : ∀ g, v8.ownBlock = some g → g < w3.heap.size := fun g hg => (hset.2.lt g hg).2
    have hWW : ∀ i : Nat, i < l.length → W.testBit i = !obs ms i := fun i hi => by
      rw [hW i hi]
      cases ho : obs ms i with
      | true => exact decide_eq_false fun hx => by rw [HL3.out, mem_liveL] at hx; rw [hx.2.2.2] at ho; cases ho
      | false => exact decide_eq_true (by rw [HL3.out]; exact mem_liveL.2 ⟨HR.out, by omega, by omega, ho⟩)
    have HWW := Lib.hid hWW
    have hb4 := hb13.grown hg4 hb13.size (fun g hg => by cases hg)
    have hB : w.heap.size ≤ w3.heap.size := hb13.size
    obtain ⟨g, hgd⟩ : ∃ g, g = w3.heap.size := ⟨_, rfl⟩
    have hsz4 : w3.heap.size + 1 ≤ w4.heap.size := by have := (ho4.lt w3.heap.size rfl).2; omega
    rw [← hgd] at ho4 hv8 hB hsz4 ⊢
    have hset5 : SetW w4 w.heap.size v8 l.length W := ⟨hset4.1, ownsRow_base_a hset4.2 (Nat.le_trans hb12.size (Nat.le_refl _))⟩
    have hrep : (List.replicate l.length (Value.bool false)) = (List.replicate l.length false).map Value.bool := by simp
    rw [hrep] at ho4
    obtain ⟨s', hs'⟩ : ∃ k : Nat, s = (k : Int) := ⟨s.toNat, by omega⟩
    subst hs'
    have hst : MvSt w w4 l ms (s' : Int) g s' W v8 (.slice none 0 0) (List.replicate l.length false) :=
      ⟨hb4, hset5, ho4, fun j h1 h2 => by omega, by rw [movedTo_none (Int.le_refl _)]; exact World.ownsRow_nil _ _ _ _, hsz4⟩
    clear hrep hset5 hset4 hset ho4 hb4 hsz4 hgd hg4 hW hWW CO hr3 hin3 hll hb1 hb2 hb3 hb13 hb12 C HL3
    have hd1 : decide ((s' : Int) < 0) = false := decide_eq_false (by omega)
    have hd2 : decide ((l.length : Int) ≤ (s' : Int)) = false := decide_eq_false (by omega)
    rw [hd1, hd2, Bool.or_false]
    clear hd1 hd2
    go_loopw [10, 11] (fun ov kv wr => ∃ (k : Nat) (bl : List Bool), s' ≤ k ∧ k ≤ l.length ∧ kv = .int .i64 k ∧ MvSt w wr l ms (s' : Int) g k W v8 ov bl) (fun _ kv _ => l.length - (intOf kv).toNat)
    case atStart => exact ⟨s', _, Nat.le_refl _, by omega, rfl, hst⟩
    case round =>
      clear hst
      obtain ⟨k, bl, hsk, hk, rfl, hb, hset, hin, hbits, hro, hsz⟩ := hrel
      have hml := movedTo_len l ms (s' : Int) k
      by_cases hlt : k < l.length
      · obtain ⟨b0, o0, p, rfl, hbb, hx, g0⟩ := h.int_ hlt
        have hpar := par_get hx
        have hp := rightP_at HR.out (i := (k : Int)) (by omega) (by omega)
        have hmv := mv_eq (ms := ms) (s := (s' : Int)) HR.out hs0 (k := (k : Int)) (by omega) (by omega)
        have hsu := movedTo_succ l ms (s' : Int) k
        rw [hpar] at hp hmv
        have hdk : decide ((s' : Int) ≤ (k : Int)) = true := decide_eq_true (by omega)
        rw [hdk, Bool.true_and] at hsu
        have hbll : bl.length = l.length := by have := hin.1; simpa using this
        have C5 := has50_any (i := k) hn hlt hset
        rw [HWW.out k hlt] at C5
        clear hx hpar hdk
        have step : ∀ (b : Bool) (wn : World) (ov' : Value), mv l ms (s' : Int) (k : Int) = b → Below w.heap.size w wn → SetW wn w.heap.size v8 l.length W →
            wn.ownsRow g 4 1 (.slice (some ⟨g, 0, none⟩) l.length l.length) l.length ((bl.set k b).map .bool) → wn.ownsRow (g + 1) 3 1 ov' (movedTo l ms (s' : Int) (k + 1)).length ((movedTo l ms (s' : Int) (k + 1)).map (.int .i64)) → g + 1 ≤ wn.heap.size →
            MvSt w wn l ms (s' : Int) g (k + 1) W v8 ov' (bl.set k b) := fun b wn ov' he h1 h2 h3 h4 h5 =>
          ⟨h1, h2, h3, fun j hj1 hj2 => by
            by_cases e : j = k
            · subst e; rw [List.getElem?_set_self (by omega), he]
            · rw [List.getElem?_set_ne (fun e2 => e e2.symm)]; exact hbits j hj1 (by omega), h4, h5⟩
        have STEP := Lib.hid step; clear step
        cases hob : obs ms k with
        | true =>
          rw [hob] at C5 hmv
          simp only [Bool.not_true, Bool.false_and] at hmv
          rw [hmv] at hsu
          simp only [Bool.false_eq_true, if_false, List.append_nil] at hsu
          have HS := Lib.hid hsu
          have HM := Lib.hid hmv
          clear hsu hmv
          go_wp2_with fail
          refine C5.mono ?_
          rintro e w5 ⟨rfl, hb5⟩
          have hb5w := hb.trans (hb5.mono hb.size)
          have hin5 := hin.kept (grown_none hb5 (Nat.le_refl _)) (.inr (by simp [Value.ownBlock]))
          have hro5 := hro.kept (grown_none hb5 (Nat.le_refl _)) (by cases (Value.ownBlock u10) <;> simp)
          have hset5 := hset.below hb5
          have ck : w5.cell? ⟨g, k, none⟩ = some (.bool (bl[k]'(by omega))) := by
            rw [hin5.cellAt k (by omega), List.getElem?_map, List.getElem?_eq_getElem (by omega)]; rfl
          have fk := hin5.frozenAt k
          have g5 := (hb5w.cell (p := ⟨b0, o0 + k, none⟩) hbb).trans g0
          have hst5 := hin5.stored k (.bool false)
          have hset6 := hset5.kept hst5.2 (hset5.2.lt |> fun f => by
            cases hv : v8.ownBlock with
            | none => exact .inl rfl
            | some q => right; intro e; injection e with e; have := hv8 q hv; omega)
          have hro6 := hro5.kept hst5.2 (by
            cases hv : (Value.ownBlock u10) with
            | none => exact .inl rfl
            | some q => right; intro e; injection e with e; have := (hro5.lt q hv).1; omega)
          have hb6 := hb5w.grown hst5.2 hb5w.size (fun q hq => by injection hq with hq; omega)
          have hsz6 : g + 1 ≤ (w5.setCell ⟨g, k, none⟩ (.bool false)).heap.size := by have := hb5.size; simp; omega
          have cs : (w5.setCell ⟨g, k, none⟩ (.bool false)).cell? ⟨g, k, none⟩ = some (.bool false) := by
            rw [hst5.1.cellAt k (by omega), List.getElem?_set_self (by simp; omega)]
          go_wp2
          go_roundw
          case rel =>
            refine ⟨k + 1, bl.set k false, by omega, by omega, by go_num, STEP.out false _ _ HM.out hb6 hset6 ?_ ?_ hsz6⟩
            · have := hst5.1; rwa [← List.map_set] at this
            · rw [HS.out]; exact hro6
          case measure => simp [intOf]; omega
        | false =>
          rw [hob] at C5 hmv
          simp only [Bool.not_false, Bool.true_and] at hmv
          by_cases hks : k = s'
          · rw [decide_eq_true (by omega : (k : Int) = (s' : Int)), Bool.true_or] at hmv
            subst hks
            rw [hmv] at hsu
            simp only [if_true] at hsu
            have HS := Lib.hid hsu
            have HM := Lib.hid hmv
            clear hsu hmv
            go_wp2_with fail
            refine C5.mono ?_
            rintro e w5 ⟨rfl, hb5⟩
            have hb5w := hb.trans (hb5.mono hb.size)
            have hin5 := hin.kept (grown_none hb5 (Nat.le_refl _)) (.inr (by simp [Value.ownBlock]))
            have hro5 := hro.kept (grown_none hb5 (Nat.le_refl _)) (by cases (Value.ownBlock u10) <;> simp)
            have hset5 := hset.below hb5
            have ck : w5.cell? ⟨g, k, none⟩ = some (.bool (bl[k]'(by omega))) := by
              rw [hin5.cellAt k (by omega), List.getElem?_map, List.getElem?_eq_getElem (by omega)]; rfl
            have fk := hin5.frozenAt k
            have g5 := (hb5w.cell (p := ⟨b0, o0 + k, none⟩) hbb).trans g0
            have hst5 := hin5.stored k (.bool true)
            have hset6 := hset5.kept hst5.2 (hset5.2.lt |> fun f => by
              cases hv : v8.ownBlock with
              | none => exact .inl rfl
              | some q => right; intro e; injection e with e; have := hv8 q hv; omega)
            have hro6 := hro5.kept hst5.2 (by
              cases hv : (Value.ownBlock u10) with
              | none => exact .inl rfl
              | some q => right; intro e; injection e with e; have := (hro5.lt q hv).1; omega)
            have hb6 := hb5w.grown hst5.2 hb5w.size (fun q hq => by injection hq with hq; omega)
            have hsz6 : g + 1 ≤ (w5.setCell ⟨g, k, none⟩ (.bool true)).heap.size := by have := hb5.size; simp; omega
            have cs : (w5.setCell ⟨g, k, none⟩ (.bool true)).cell? ⟨g, k, none⟩ = some (.bool true) := by
              rw [hst5.1.cellAt k (by omega), List.getElem?_set_self (by simp; omega)]
            have hro7 := hro6.alloc (.cells #[.int .i64 (k : Int)] 3)
            have hb7 := hb6.alloc hb6.size (.cells #[.int .i64 (k : Int)] 3)
            go_wp2_with (at_builtin; refine wpl_append rfl (.tmp 71) (.tmp 73) 28 rfl E28 rfl rfl hro7 (rd_lit2 (w5.setCell ⟨g, k, none⟩ (.bool true)) (k : Int) (q := w5.heap.size) (by simp)) (one_ints _) (by unfold maxLen; omega) (by omega) (by have := hb5.size; simp; omega) ?_; intro v9 w9 ho9 hg9 hv9)
            go_roundw
            case rel =>
              have hgne : ∀ q, (Value.ownBlock u10) = some q → g + 1 ≤ q := fun q hq => (hro6.lt q hq).1
              refine ⟨k + 1, bl.set k true, by omega, by omega, by go_num, STEP.out true _ _ HM.out (hb7.grown hg9 hb7.size (fun q hq => by have := hgne q hq; omega)) ?_ ?_ ?_ ?_⟩
              · refine (hset6.kept (World.grownBy_alloc _ _ none) (by cases v8.ownBlock <;> simp)).kept hg9 ?_
                cases hv : v8.ownBlock with
                | none => exact .inl rfl
                | some q => right; intro e; have := hgne q e.symm; have := hv8 q hv; omega
              · have := (hst5.1.alloc (.cells #[.int .i64 (k : Int)] 3)).kept hg9 (.inr (fun e => by have := hgne g e.symm; omega))
                rwa [← List.map_set] at this
              · rw [HS.out, List.length_append, List.map_append]; exact ho9
              · have := hg9.size; have := hb5.size; simp at *; omega
            case measure => simp [intOf]; omega
          · rw [decide_eq_false (by omega : ¬ (k : Int) = (s' : Int)), Bool.false_or] at hmv
            have hks' : ¬ (k : Int) = (s' : Int) := by omega
            clear hks
            by_cases hps : (s' : Int) ≤ p
            · rw [decide_eq_true hps, Bool.true_and] at hmv
              have hbp := hbits p.toNat (by omega) (by omega)
              rw [Int.toNat_of_nonneg (by omega)] at hbp
              cases hmp : mv l ms (s' : Int) p with
              | true =>
                rw [hmp] at hbp hmv
                rw [hmv] at hsu
                simp only [if_true] at hsu
                have HS := Lib.hid hsu
                have HM := Lib.hid hmv
                clear hsu hmv
                go_wp2_with fail
                refine C5.mono ?_
                rintro e w5 ⟨rfl, hb5⟩
                have hb5w := hb.trans (hb5.mono hb.size)
                have hin5 := hin.kept (grown_none hb5 (Nat.le_refl _)) (.inr (by simp [Value.ownBlock]))
                have hro5 := hro.kept (grown_none hb5 (Nat.le_refl _)) (by cases (Value.ownBlock u10) <;> simp)
                have hset5 := hset.below hb5
                have ck : w5.cell? ⟨g, k, none⟩ = some (.bool (bl[k]'(by omega))) := by
                  rw [hin5.cellAt k (by omega), List.getElem?_map, List.getElem?_eq_getElem (by omega)]; rfl
                have fk := hin5.frozenAt k
                have g5 := (hb5w.cell (p := ⟨b0, o0 + k, none⟩) hbb).trans g0
                have cp : w5.cell? ⟨g, p.toNat, none⟩ = some (.bool true) := by
                  rw [hin5.cellAt p.toNat (by omega), List.getElem?_map, hbp]; rfl
                have hp0 : 0 ≤ p := by omega
                have hpl : p < (l.length : Int) := by omega
                clear hbp
                have hst5 := hin5.stored k (.bool true)
                have hset6 := hset5.kept hst5.2 (hset5.2.lt |> fun f => by
                  cases hv : v8.ownBlock with
                  | none => exact .inl rfl
                  | some q => right; intro e; injection e with e; have := hv8 q hv; omega)
                have hro6 := hro5.kept hst5.2 (by
                  cases hv : (Value.ownBlock u10) with
                  | none => exact .inl rfl
                  | some q => right; intro e; injection e with e; have := (hro5.lt q hv).1; omega)
                have hb6 := hb5w.grown hst5.2 hb5w.size (fun q hq => by injection hq with hq; omega)
                have hsz6 : g + 1 ≤ (w5.setCell ⟨g, k, none⟩ (.bool true)).heap.size := by have := hb5.size; simp; omega
                have cs : (w5.setCell ⟨g, k, none⟩ (.bool true)).cell? ⟨g, k, none⟩ = some (.bool true) := by
                  rw [hst5.1.cellAt k (by omega), List.getElem?_set_self (by simp; omega)]
                have hro7 := hro6.alloc (.cells #[.int .i64 (k : Int)] 3)
                have hb7 := hb6.alloc hb6.size (.cells #[.int .i64 (k : Int)] 3)
                go_wp2_with (at_builtin; refine wpl_append rfl (.tmp 71) (.tmp 73) 28 rfl E28 rfl rfl hro7 (rd_lit2 (w5.setCell ⟨g, k, none⟩ (.bool true)) (k : Int) (q := w5.heap.size) (by simp)) (one_ints _) (by unfold maxLen; omega) (by omega) (by have := hb5.size; simp; omega) ?_; intro v9 w9 ho9 hg9 hv9)
                go_roundw
                case rel =>
                  have hgne : ∀ q, (Value.ownBlock u10) = some q → g + 1 ≤ q := fun q hq => (hro6.lt q hq).1
                  refine ⟨k + 1, bl.set k true, by omega, by omega, by go_num, STEP.out true _ _ HM.out (hb7.grown hg9 hb7.size (fun q hq => by have := hgne q hq; omega)) ?_ ?_ ?_ ?_⟩
                  · refine (hset6.kept (World.grownBy_alloc _ _ none) (by cases v8.ownBlock <;> simp)).kept hg9 ?_
                    cases hv : v8.ownBlock with
                    | none => exact .inl rfl
                    | some q => right; intro e; have := hgne q e.symm; have := hv8 q hv; omega
                  · have := (hst5.1.alloc (.cells #[.int .i64 (k : Int)] 3)).kept hg9 (.inr (fun e => by have := hgne g e.symm; omega))
                    rwa [← List.map_set] at this
                  · rw [HS.out, List.length_append, List.map_append]; exact ho9
                  · have := hg9.size; have := hb5.size; simp at *; omega
                case measure => simp [intOf]; omega
              | false =>
                rw [hmp] at hbp hmv
                rw [hmv] at hsu
                simp only [Bool.false_eq_true, if_false, List.append_nil] at hsu
                have HS := Lib.hid hsu
                have HM := Lib.hid hmv
                clear hsu hmv
                go_wp2_with fail
                refine C5.mono ?_
                rintro e w5 ⟨rfl, hb5⟩
                have hb5w := hb.trans (hb5.mono hb.size)
                have hin5 := hin.kept (grown_none hb5 (Nat.le_refl _)) (.inr (by simp [Value.ownBlock]))
                have hro5 := hro.kept (grown_none hb5 (Nat.le_refl _)) (by cases (Value.ownBlock u10) <;> simp)
                have hset5 := hset.below hb5
                have ck : w5.cell? ⟨g, k, none⟩ = some (.bool (bl[k]'(by omega))) := by
                  rw [hin5.cellAt k (by omega), List.getElem?_map, List.getElem?_eq_getElem (by omega)]; rfl
                have fk := hin5.frozenAt k
                have g5 := (hb5w.cell (p := ⟨b0, o0 + k, none⟩) hbb).trans g0
                have cp : w5.cell? ⟨g, p.toNat, none⟩ = some (.bool false) := by
                  rw [hin5.cellAt p.toNat (by omega), List.getElem?_map, hbp]; rfl
                have hp0 : 0 ≤ p := by omega
                have hpl : p < (l.length : Int) := by omega
                clear hbp
                have hst5 := hin5.stored k (.bool false)
                have hset6 := hset5.kept hst5.2 (hset5.2.lt |> fun f => by
                  cases hv : v8.ownBlock with
                  | none => exact .inl rfl
                  | some q => right; intro e; injection e with e; have := hv8 q hv; omega)
                have hro6 := hro5.kept hst5.2 (by
                  cases hv : (Value.ownBlock u10) with
                  | none => exact .inl rfl
                  | some q => right; intro e; injection e with e; have := (hro5.lt q hv).1; omega)
                have hb6 := hb5w.grown hst5.2 hb5w.size (fun q hq => by injection hq with hq; omega)
                have hsz6 : g + 1 ≤ (w5.setCell ⟨g, k, none⟩ (.bool false)).heap.size := by have := hb5.size; simp; omega
                have cs : (w5.setCell ⟨g, k, none⟩ (.bool false)).cell? ⟨g, k, none⟩ = some (.bool false) := by
                  rw [hst5.1.cellAt k (by omega), List.getElem?_set_self (by simp; omega)]
                go_wp2
                go_roundw
                case rel =>
                  refine ⟨k + 1, bl.set k false, by omega, by omega, by go_num, STEP.out false _ _ HM.out hb6 hset6 ?_ ?_ hsz6⟩
                  · have := hst5.1; rwa [← List.map_set] at this
                  · rw [HS.out]; exact hro6
                case measure => simp [intOf]; omega
            · rw [decide_eq_false hps, Bool.false_and] at hmv
              rw [hmv] at hsu
              simp only [Bool.false_eq_true, if_false, List.append_nil] at hsu
              have HS := Lib.hid hsu
              have HM := Lib.hid hmv
              clear hsu hmv
              go_wp2_with fail
              refine C5.mono ?_
              rintro e w5 ⟨rfl, hb5⟩
              have hb5w := hb.trans (hb5.mono hb.size)
              have hin5 := hin.kept (grown_none hb5 (Nat.le_refl _)) (.inr (by simp [Value.ownBlock]))
              have hro5 := hro.kept (grown_none hb5 (Nat.le_refl _)) (by cases (Value.ownBlock u10) <;> simp)
              have hset5 := hset.below hb5
              have ck : w5.cell? ⟨g, k, none⟩ = some (.bool (bl[k]'(by omega))) := by
                rw [hin5.cellAt k (by omega), List.getElem?_map, List.getElem?_eq_getElem (by omega)]; rfl
              have fk := hin5.frozenAt k
              have g5 := (hb5w.cell (p := ⟨b0, o0 + k, none⟩) hbb).trans g0
              have hst5 := hin5.stored k (.bool false)
              have hset6 := hset5.kept hst5.2 (hset5.2.lt |> fun f => by
                cases hv : v8.ownBlock with
                | none => exact .inl rfl
                | some q => right; intro e; injection e with e; have := hv8 q hv; omega)
              have hro6 := hro5.kept hst5.2 (by
                cases hv : (Value.ownBlock u10) with
                | none => exact .inl rfl
                | some q => right; intro e; injection e with e; have := (hro5.lt q hv).1; omega)
              have hb6 := hb5w.grown hst5.2 hb5w.size (fun q hq => by injection hq with hq; omega)
              have hsz6 : g + 1 ≤ (w5.setCell ⟨g, k, none⟩ (.bool false)).heap.size := by have := hb5.size; simp; omega
              have cs : (w5.setCell ⟨g, k, none⟩ (.bool false)).cell? ⟨g, k, none⟩ = some (.bool false) := by
                rw [hst5.1.cellAt k (by omega), List.getElem?_set_self (by simp; omega)]
              go_wp2
              go_roundw
              case rel =>
                refine ⟨k + 1, bl.set k false, by omega, by omega, by go_num, STEP.out false _ _ HM.out hb6 hset6 ?_ ?_ hsz6⟩
                · have := hst5.1; rwa [← List.map_set] at this
                · rw [HS.out]; exact hro6
              case measure => simp [intOf]; omega
      · have hkn : k = l.length := by omega
        subst hkn
        obtain ⟨A5, c5, rfl, hc5⟩ := ownsRow_cap hro
        go_wp2
        go_ret
        exact ⟨A5, c5, _, rfl, Rd.of_own hro hc5, hb, rfl⟩
  · have e : moved l ms s = [] := by unfold moved; rw [if_neg hok]
    rw [e]
    clear e
    cases hr : rightP l with
    | false =>
      rw [hr] at C
      go_enter Try.func29, Try.ntmps29
      go_wp2_with fail
      refine C.mono ?_
      rintro e w1 ⟨rfl, hb1⟩
      go_wp2
      go_ret
      exact ⟨none, 0, [], rfl, Rd.none_ _ _ _, hb1, rfl⟩
    | true =>
      rw [hr] at C
      have hbad : s < 0 ∨ (l.length : Int) ≤ s := by
        by_cases h0 : s < 0
        · exact .inl h0
        · exact .inr (by by_cases h1 : (l.length : Int) ≤ s; exact h1; exact absurd ⟨hr, by omega, by omega⟩ hok)
      clear hok
      by_cases h0 : s < 0
      · clear hbad
        go_enter Try.func29, Try.ntmps29
        go_wp2_with fail
        refine C.mono ?_
        rintro e w1 ⟨rfl, hb1⟩
        go_wp2
        go_ret
        exact ⟨none, 0, [], rfl, Rd.none_ _ _ _, hb1, rfl⟩
      · have h1 : (l.length : Int) ≤ s := by omega
        clear hbad
        go_enter Try.func29, Try.ntmps29
        go_wp2_with fail
        refine C.mono ?_
        rintro e w1 ⟨rfl, hb1⟩
        go_wp2
        go_ret
        exact ⟨none, 0, [], rfl, Rd.none_ _ _ _, hb1, rfl⟩
end Go.Proofs.Ytnkboccngialiaa
