/- Walk: the reader's next step. -/
import Derived.Test.YtnkboccngialiaaDoorS2d
namespace Go.Proofs.YtnkboccngialiaaDoor
open Go.RowKit

set_option maxRecDepth 100000 in
set_option maxHeartbeats 8000000 in
theorem step_any {w : World} {g B : Nat} {xs : List UInt8} {p : Nat} (h : RS w g B xs p) :
    Calls Tryd.prog 24 #[.pointer (some ⟨g, 0, none⟩)] w (StepPost w g B xs p) := by
  have HS := Lib.hid h
  have hgs := h.lt
  clear h
  go_enter Tryd.func24, Tryd.ntmps24
  go_wp2
  go_loopw [8] (fun i wr => ∃ k : Nat, k ≤ 8 ∧ i = .int .i64 k ∧ wr.heap.size = w.heap.size + 2 ∧ Hid (wr.heap[w.heap.size]? = some (.cells zstep 32 (0, 0))) ∧ Hid (wr.heap[w.heap.size + 1]? = some (.cells (farr xs p k) 90 (0, 0))) ∧
      Hid (RS wr g B xs (p + k)) ∧ Hid (w.grownBy wr (some g))) (fun i _ => 8 - (intOf i).toNat)
  case atStart =>
    refine ⟨0, by omega, rfl, by simp, ?_, ?_, ?_, ?_⟩
    · show _ = _; rw [Lib.alloc_old _ _ _ (by simp)]; exact heap_alloc_new _ _
    · show _ = _
      have := heap_alloc_new (w.alloc (.cells zstep 32)) (.cells (farr xs p 0) 90)
      simpa [farr, zstep] using this
    · exact HS.out.keep fun k hk => by rw [Lib.alloc_old _ _ _ (by simp; omega), Lib.alloc_old _ _ _ (by omega)]
    · exact (World.grownBy_alloc w _ _).trans (World.grownBy_alloc _ _ _)
  case round =>
    obtain ⟨k, hk, rfl, hsz, HZ, HF, HR, HG⟩ := hrel
    by_cases hlt : k < 8
    · go_wp2_with fail
      refine (next_any HR.out).mono ?_
      rintro e w1 ⟨rfl, hr1, hg1, hs1⟩
      have hne : ∀ j, w.heap.size ≤ j → j < wr.heap.size → w1.heap[j]? = wr.heap[j]? := fun j h1 h2 => hg1.block j h2 (by rintro ⟨⟩; omega)
      have HZ1 := Lib.hid ((hne _ (Nat.le_refl _) (by omega)).trans HZ.out)
      have hF1 := (hne (w.heap.size + 1) (by omega) (by omega)).trans HF.out
      have hc1 : w1.cell? ⟨w.heap.size + 1, k, none⟩ = (farr xs p k)[k]? := by rw [World.cell?, hF1]; rfl
      have hfz : w1.frozen? ⟨w.heap.size + 1, k, none⟩ = false := by simp [World.frozen?, hF1]
      have HR1 := Lib.hid hr1
      have HG1 := Lib.hid (HG.out.trans hg1)
      have HF1 := Lib.hid hF1
      have hsz1 : w1.heap.size = w.heap.size + 2 := by omega
      obtain ⟨u, hu⟩ : ∃ u, (farr xs p k)[k]? = some u := ⟨(farr xs p k)[k]'(by simp [farr]; omega), Array.getElem?_eq_getElem _⟩
      rw [hu] at hc1
      clear hr1 hg1 hF1 hs1 hsz HZ HF HR HG hu hne
      obtain ⟨z, hz⟩ : ∃ z, by_ xs (p + k) = z := ⟨_, rfl⟩
      have HZv := Lib.hid hz
      rw [hz]
      clear hz
      go_wp2
      go_roundw
      case rel =>
        have hk2 : ∀ j, j ≠ w.heap.size + 1 → (w1.setCell ⟨w.heap.size + 1, k, none⟩ (.int .i64 (z : Int))).heap[j]? = w1.heap[j]? := fun j hj => Below.heap_setCell _ _ _ _ (fun e => hj (by simp [e]))
        refine ⟨k + 1, by omega, by go_num, by simp [World.setCell]; omega, ?_, ?_, ?_, ?_⟩
        · show _ = _; rw [hk2 _ (by omega)]; exact HZ1.out
        · show _ = _
          have := HF1.out
          rw [← farr_set xs p k hlt, HZv.out]
          simp [World.setCell, Array.getElem?_modify, this]
        · exact HR1.out.keep fun j hj => hk2 j (by omega)
        · exact grown_store HG1.out (by omega) _
      case measure => simp [intOf]; omega
    · obtain rfl : k = 8 := by omega
      have h8 : farr xs p 8 = #[.int .i64 (by_ xs p : Nat), .int .i64 (by_ xs (p + 1) : Nat), .int .i64 (by_ xs (p + 2) : Nat), .int .i64 (by_ xs (p + 3) : Nat), .int .i64 (by_ xs (p + 4) : Nat), .int .i64 (by_ xs (p + 5) : Nat), .int .i64 (by_ xs (p + 6) : Nat), .int .i64 (by_ xs (p + 7) : Nat)] := rfl
      have hF := HF.out
      rw [h8] at hF
      clear h8 HF
      have HP := Lib.hid (stepAt_of xs p)
      have b0 := by_lt xs p; have b1 := by_lt xs (p + 1); have b2 := by_lt xs (p + 2); have b3 := by_lt xs (p + 3)
      have b4 := by_lt xs (p + 4); have b5 := by_lt xs (p + 5); have b6 := by_lt xs (p + 6); have b7 := by_lt xs (p + 7)
      generalize by_ xs p = x0 at *
      generalize by_ xs (p + 1) = x1 at *
      generalize by_ xs (p + 2) = x2 at *
      generalize by_ xs (p + 3) = x3 at *
      generalize by_ xs (p + 4) = x4 at *
      generalize by_ xs (p + 5) = x5 at *
      generalize by_ xs (p + 6) = x6 at *
      generalize by_ xs (p + 7) = x7 at *
      have c0 : wr.cell? ⟨w.heap.size + 1, 0, none⟩ = some (.int .i64 x0) := by rw [World.cell?, hF]; rfl
      have c1 : wr.cell? ⟨w.heap.size + 1, 1, none⟩ = some (.int .i64 x1) := by rw [World.cell?, hF]; rfl
      have c2 : wr.cell? ⟨w.heap.size + 1, 2, none⟩ = some (.int .i64 x2) := by rw [World.cell?, hF]; rfl
      have c3 : wr.cell? ⟨w.heap.size + 1, 3, none⟩ = some (.int .i64 x3) := by rw [World.cell?, hF]; rfl
      have HFF := Lib.hid hF
      clear hF hlt
      by_cases hx : 239 < x0
      · have hxi : (239 : Int) < x0 := by omega
        have hz2 : (wr.alloc (.cells #[.int .i64 (x2 : Int), .int .i64 (x3 : Int)] 3)).heap[w.heap.size]? = some (.cells zstep 32 (0, 0)) := by
          rw [Lib.alloc_old _ _ _ (by omega)]; exact HZ.out
        have hi32 : (Tryd.prog.info? 32).map (·.size) = some 11 := by kernel_rfl
        go_wp2_with (refine wpList_store_row rfl 32 (.tmp 2) (.tmp 27) rfl w.heap.size (SV.cells ⟨true, x1 % 6, some ⟨w.heap.size + 2, 0, none⟩, 2, [(x2 : Int), (x3 : Int)], 0, ⟨#[]⟩, none, 0, [], none, 0, [], 0, 0, 0, ⟨#[]⟩⟩).toArray rfl rfl 32 zstep hz2 hi32 rfl (SV.one _) ?_)
        have hz3 := setRow_heap _ w.heap.size zstep (SV.cells ⟨true, x1 % 6, some ⟨w.heap.size + 2, 0, none⟩, 2, [(x2 : Int), (x3 : Int)], 0, ⟨#[]⟩, none, 0, [], none, 0, [], 0, 0, 0, ⟨#[]⟩⟩).toArray 32 (0, 0) hz2
        refine bodyPost_ret_by (v := SV.val ⟨true, x1 % 6, some ⟨w.heap.size + 2, 0, none⟩, 2, [(x2 : Int), (x3 : Int)], 0, ⟨#[]⟩, none, 0, [], none, 0, [], 0, 0, 0, ⟨#[]⟩⟩) ?_ ?_ ?_
        · exact results_cell_row rfl _ _ w.heap.size 32 _ (0, 0) _ rfl hz3 Tryd.underlying32 rfl (by kernel_rfl)
        · rfl
        have hso : ∀ j, j ≠ w.heap.size → ((wr.alloc (.cells #[.int .i64 (x2 : Int), .int .i64 (x3 : Int)] 3)).setRow w.heap.size (SV.cells ⟨true, x1 % 6, some ⟨w.heap.size + 2, 0, none⟩, 2, [(x2 : Int), (x3 : Int)], 0, ⟨#[]⟩, none, 0, [], none, 0, [], 0, 0, 0, ⟨#[]⟩⟩).toArray).heap[j]? = (wr.alloc (.cells #[.int .i64 (x2 : Int), .int .i64 (x3 : Int)] 3)).heap[j]? := fun j hj => setRow_other _ _ _ _ hj
        refine ⟨⟨true, x1 % 6, some ⟨w.heap.size + 2, 0, none⟩, 2, [(x2 : Int), (x3 : Int)], 0, ⟨#[]⟩, none, 0, [], none, 0, [], 0, 0, 0, ⟨#[]⟩⟩, rfl, ?_, ⟨⟨rfl, Nat.le_refl _, fun _ => ⟨_, _, rfl, by simp [World.setRow]; omega, fun j u hu => ?_⟩⟩, Rd.none_ _ _ _, Rd.none_ _ _ _, ?_⟩, ?_, ?_⟩
        · rw [HP.out, stepOf, if_pos hx]; simp [SV.pure]
        · rw [World.cell?_of_block (hso _ (by show w.heap.size + 2 ≠ w.heap.size; omega)), show w.heap.size + 2 = wr.heap.size from hsz.symm, World.cell?, heap_alloc_new]
          have : j = 0 ∨ j = 1 := by
            have := (List.getElem?_eq_some_iff.1 hu).1
            simp [ints] at this; omega
          rcases this with rfl | rfl <;> simp [ints] at hu <;> subst hu <;> rfl
        · rintro b o (h | h | h) <;> simp at h
          exact ⟨by omega, by simp [World.setRow]; omega, by simp⟩
        · exact HR.out.keep fun j hj => by rw [hso j (by omega), Lib.alloc_old _ _ _ (by omega)]
        · exact ⟨HG.out.os, HG.out.tape, HG.out.output, by simp [World.setRow]; omega, fun j hj hne => by rw [hso j (by omega), Lib.alloc_old _ _ _ (by omega)]; exact HG.out.block j hj hne⟩
      · have hxi : ¬ (239 : Int) < x0 := by omega
        have C := letter_any (w := wr) (n := x2 % 4) (by omega)
        rw [show ((x2 % 4 : Nat) : Int) = (x2 : Int) % 4 from by omega] at C
        have hS := HP.out
        rw [stepOf, if_neg hx] at hS
        have HP2 := Lib.hid hS
        clear hS HP
        generalize ltr (x2 % 4) = L at *
        go_wp2_with fail
        refine C.mono ?_
        rintro e w1 ⟨rfl, hb1⟩
        clear C
        have hsz1 := hb1.size
        have HZ1 := Lib.hid ((hb1.block _ (by omega)).trans HZ.out)
        have HF1 := Lib.hid ((hb1.block _ (by omega)).trans HFF.out)
        have HR1 := Lib.hid (HR.out.keep fun j hj => hb1.block j (by have := HR.out.lt; omega))
        have HG1 := Lib.hid (grown_below HG.out hb1 (by omega))
        have hF1 := HF1.out
        clear c0 c1 c2 c3 HFF HZ HR HG hb1
        have c4 : ∀ o : Obj, (w1.alloc o).cell? ⟨w.heap.size + 1, 4, none⟩ = some (.int .i64 x4) := fun o => by rw [World.cell?, Lib.alloc_old _ _ _ (by show w.heap.size + 1 < _; omega), hF1]; rfl
        clear hF1
        obtain ⟨m, hm⟩ : ∃ m, x4 % 4 = m := ⟨_, rfl⟩
        have hmi : (x4 : Int) % 4 = (m : Int) := by omega
        have hm4 : m < 4 := by omega
        have HM := Lib.hid hmi
        clear hmi
        have HP3 := Lib.hid (HP2.out)
        rw [hm] at HP3
        clear HP2 hm
        go_wp2
        go_loopw [35] (fun i v2 => ∃ k : Nat, k ≤ m ∧ i = .int .i64 k ∧ Hid (Lib.IsBuilderF 66 5 w1.heap.size w1.heap.size (Lib.byteCells (txt x5 k)) v2) ∧ Hid (Below w1.heap.size w1 v2)) (fun i _ => m - (intOf i).toNat)
        case atStart =>
          refine ⟨0, by omega, rfl, (Lib.IsBuilderF.of (Lib.fresh_isBuilder 66 5 w1)), (Below.refl _ w1).alloc (Nat.le_refl _) _⟩
        case round =>
          obtain ⟨k, hk4, rfl, HI, HB⟩ := hrel
          by_cases hlt : k < m
          · have hlt2 : (k : Int) < (x4 : Int) % 4 := by have := HM.out; omega
            have hF2 := (HB.out.block _ (by omega)).trans HF1.out
            have c5 : wr.cell? ⟨w.heap.size + 1, 5, none⟩ = some (.int .i64 x5) := by rw [World.cell?, hF2]; rfl
            have hsB := HB.out.size
            clear hF2
            have C := letter_any (w := wr) (n := (x5 + k) % 6) (by omega)
            rw [show (((x5 + k) % 6 : Nat) : Int) = ((x5 : Int) + k) % 6 from by omega] at C
            have hL2 : (ltr ((x5 + k) % 6)).size = 1 := rfl
            have HT := Lib.hid (txt_next x5 k)
            generalize ltr ((x5 + k) % 6) = L2 at *
            go_wp2_with fail
            refine C.mono ?_
            rintro e w2 ⟨rfl, hb2⟩
            clear C c5
            have HI2 := Lib.hid (builder_below HI.out hb2)
            have HB2 := Lib.hid (HB.out.trans (hb2.mono hsB))
            have hs2 := HB2.out.size
            clear HI HB hb2 hsB
            go_wp2_with fail
            refine (Tryd.Builder_WriteString_k w1.heap.size w1.heap.size _ _ _ HI2.out (by rw [Lib.byteCells_length, txt_len, ByteArray.size_append, hL2]; show _ + (1 + 1) ≤ _; omega) (by omega)).mono ?_
            rintro e w3 ⟨rfl, h3, hb3, _⟩
            have H3 := Lib.hid (Or.inr h3 : Lib.IsBuilderF 66 5 w1.heap.size w1.heap.size _ w3)
            have HB3 := Lib.hid (HB2.out.trans hb3)
            rw [HT.out] at H3
            clear h3 hb3 HI2 HB2 hs2 HT
            go_wp2
            go_roundw
            case rel => exact ⟨k + 1, by omega, by go_num, H3, HB3⟩
            case measure => simp [intOf]; omega
          · obtain rfl : k = m := by omega
            have hlt2 : ¬ (k : Int) < (x4 : Int) % 4 := by have := HM.out; omega
            have hF2 := (HB.out.block _ (by omega)).trans HF1.out
            have hsB := HB.out.size
            go_wp2_with fail
            refine wp_region_t (fun v' => w1.grownBy v' (some w.heap.size)) (.q 0 (.q 1 (.q 2 (.q 3 (.q 4 (.q 5 (.q 6 (.q 9 (.q 10 (.q 11 (.q 12 (.q 13 (.q 14 (.q 15 (.q 16 (.q 17 (.q 21 (.q 23 (.q 24 (.q 25 (.q 26 (.q 27 (.q 28 (.q 29 (.q 30 (.q 31 (.q 32 (.q 33 (.q 34 (.q 35 (.q 36 (.two 7 (.q 8 (.two 18 (.b 19 (.three 20 (.two 22 (.one 37 (.q 38 (.b 39 (.b 40 (.one 41 .leaf))))) 37 (.q 38 (.one 22 (.b 39 (.b 40 (.one 41 .leaf)))))) 22 (.two 20 (.one 37 (.q 38 (.b 39 (.b 40 (.one 41 .leaf))))) 37 (.q 38 (.one 20 (.b 39 (.b 40 (.one 41 .leaf)))))) 37 (.q 38 (.two 20 (.one 22 (.b 39 (.b 40 (.one 41 .leaf)))) 22 (.one 20 (.b 39 (.b 40 (.one 41 .leaf)))))))) 22 (.one 18 (.b 19 (.two 20 (.one 37 (.q 38 (.b 39 (.b 40 (.one 41 .leaf))))) 37 (.q 38 (.one 20 (.b 39 (.b 40 (.one 41 .leaf)))))))))) 22 (.one 7 (.q 8 (.one 18 (.b 19 (.two 20 (.one 37 (.q 38 (.b 39 (.b 40 (.one 41 .leaf))))) 37 (.q 38 (.one 20 (.b 39 (.b 40 (.one 41 .leaf)))))))))))))))))))))))))))))))))))))))))) mixed (by kernel_rfl) (below_grown HB.out.drew) ?_
            intro T M Q hT hT' hM hQ
            have hcell : ∀ j u, (#[.int .i64 (x0 : Int), .int .i64 (x1 : Int), .int .i64 (x2 : Int), .int .i64 (x3 : Int), .int .i64 (x4 : Int), .int .i64 (x5 : Int), .int .i64 (x6 : Int), .int .i64 (x7 : Int)] : Array Value)[j]? = some u → M ⟨w.heap.size + 1, j, none⟩ = some u := fun j u hu =>
              hM _ _ fun w' hw => by rw [World.cell?, (hw.block _ (by show w.heap.size + 1 < _; omega) (by simp)).trans HF1.out]; exact hu
            have m0 : M ⟨w.heap.size + 1, 0, none⟩ = some (.int .i64 (x0 : Int)) := hcell 0 _ rfl
            have m1 : M ⟨w.heap.size + 1, 1, none⟩ = some (.int .i64 (x1 : Int)) := hcell 1 _ rfl
            have m3 : M ⟨w.heap.size + 1, 3, none⟩ = some (.int .i64 (x3 : Int)) := hcell 3 _ rfl
            have m6 : M ⟨w.heap.size + 1, 6, none⟩ = some (.int .i64 (x6 : Int)) := hcell 6 _ rfl
            have m7 : M ⟨w.heap.size + 1, 7, none⟩ = some (.int .i64 (x7 : Int)) := hcell 7 _ rfl
            clear hcell hM
            refine wt_gen ?_
            intro O hO
            have t0 := hO true 0
            have t1 := hO true 1
            have t2 := hO true 2
            have t3 := hO true 3
            have t4 := hO true 4
            have t5 := hO true 5
            have t6 := hO true 6
            have t8 := hO true 8
            have t9 := hO true 9
            have t10 := hO true 10
            have t11 := hO true 11
            have t12 := hO true 12
            have t13 := hO true 13
            have t14 := hO true 14
            have t15 := hO true 15
            have t16 := hO true 16
            have t17 := hO true 17
            have t19 := hO true 19
            have t21 := hO true 21
            have t23 := hO true 23
            have t24 := hO true 24
            have t25 := hO true 25
            have t26 := hO true 26
            have t27 := hO true 27
            have t28 := hO true 28
            have t29 := hO true 29
            have t30 := hO true 30
            have t31 := hO true 31
            have t32 := hO true 32
            have t33 := hO true 33
            have t34 := hO true 34
            have t35 := hO true 35
            have t36 := hO true 36
            have t38 := hO true 38
            have t39 := hO true 39
            have t40 := hO true 40
            have e7 := hO false 7
            have e18 := hO false 18
            have e20 := hO false 20
            have e22 := hO false 22
            have e37 := hO false 37
            have e41 := hO false 41
            simp only [qcmp] at t0 t1 t2 t3 t4 t5 t6 t8 t9 t10 t11 t12 t13 t14 t15 t16 t17 t19 t21 t23 t24 t25 t26 t27 t28 t29 t30 t31 t32 t33 t34 t35 t36 t38 t39 t40 e7 e18 e20 e22 e37 e41
            clear hO
            simp (maxSteps := 5000000) only [↓wt_q, ↓wt_two, t0, t1, t2, t3, t4, t5, t6, t9, t10, t11, t12, t13, t14, t15, t16, t17, t21, t23, t24, t25, t26, t27, t28, t29, t30, t31, t32, t33, t34, t35, t36, e7, e22, ↓qpre, qpost, qfacts, qnorm, m0, m1, m3, m6, m7, Int.reduceLT, Int.reduceLE, Int.reduceToNat, true_and, and_true]
            clear t0 t1 t2 t3 t4 t5 t6 t9 t10 t11 t12 t13 t14 t15 t16 t17 t21 t23 t24 t25 t26 t27 t28 t29 t30 t31 t32 t33 t34 t35 t36
            repeat (refine And.intro ?h ?_; (case h => first | omega | (unfold inI64; omega)))
            have C7 := fun v => itoa_one (w := v) (n := x1 % 10) (by omega)
            rw [show ((x1 % 10 : Nat) : Int) = (x1 : Int) % 10 from by omega] at C7
            have C37 := fun v => itoa_one (w := v) (n := x7 % 3) (by omega)
            rw [show ((x7 % 3 : Nat) : Int) = (x7 : Int) % 3 from by omega] at C37
            have hd1 : (dg (x1 % 10)).size = 1 := rfl
            have hd2 : (dg (x7 % 3)).size = 1 := rfl
            have HP4 := HP3.out
            rw [← lnum_dg 109 (x1 % 10), ← lnum_dg 110 (x7 % 3)] at HP4
            replace HP3 := Lib.hid HP4
            clear HP4
            generalize dg (x1 % 10) = D1 at *
            generalize dg (x7 % 3) = D2 at *
            have hY : Y w1 (txt x5 k) L wr.drew false none none := ⟨HB.out.drew, by have := (HI.out.elim (·.lt) (·.lt)); exact this, fun _ => HI.out.drew', fun _ h => (by cases h), fun _ h => (by cases h)⟩
            clear m0 m1 m3 m6 m7 hF2 HI HB
            generalize wr.drew = v at *
            have hi32 : (Tryd.prog.info? 32).map (·.size) = some 11 := by kernel_rfl
            refine ⟨?_, ?_⟩
            · refine eff_call (by kernel_rfl) (C7 _) rfl rfl ?_
              rintro e w' ⟨rfl, rfl⟩
              refine ⟨_, rfl, hT _ (below_grown hY.below), ?_⟩
              simp (maxSteps := 5000000) only [↓wt_q, ↓wt_two, t8, e18, e22, ↓qpre, qpost, qnorm]
              refine ⟨by rw [hd1]; decide, ?_⟩
              refine ⟨?_, ?_⟩
              · refine eff_call (by kernel_rfl) (Tryd.Builder_String_any_k w1.heap.size w1.heap.size _ _ (hY.bld rfl) (by have := hY.big; omega)) rfl rfl ?_
                rintro e v' ⟨rfl, hI, hb, ho⟩
                replace hY := hY.s18 hb ho
                refine ⟨_, rfl, hT _ (below_grown hY.below), ?_⟩
                clear hI hb ho
                simp (maxSteps := 5000000) only [↓wt_b, t19, qpost, qnorm]
                refine bq_build rfl (fun w => run_build61 w _ _ _ _) ?_
                simp (maxSteps := 5000000) only [↓wt_three, e20, e22, e37, qpost, qnorm]
                refine ⟨?_, ?_, ?_⟩
                · replace hY := hY.s20 L ⟨(txt x5 k).toArray⟩ (decide ((x3 : Int) % 7 = 0)) (decide ((x3 : Int) % 2 = 1))
                  refine eff_lit27 rfl ⟨hT _ (below_grown hY.below), ?_⟩
                  simp (maxSteps := 5000000) only [↓wt_two, e22, e37, qpost, qnorm]
                  refine ⟨?_, ?_⟩
                  · replace hY := hY.s22
                    refine eff_lit E28 rfl rfl ⟨hT _ (below_grown hY.below), ?_⟩
                    simp (maxSteps := 5000000) only [↓wt_one, e37, qpost, qnorm]
                    refine eff_call (by kernel_rfl) (C37 _) rfl rfl ?_
                    rintro e w' ⟨rfl, rfl⟩
                    refine ⟨_, rfl, hT _ (below_grown hY.below), ?_⟩
                    simp (maxSteps := 5000000) only [↓wt_q, ↓wt_b, t38, t39, ↓qpre, qpost, qnorm]
                    refine ⟨by rw [hd2]; decide, ?_⟩
                    refine bq_build rfl (fun w => run_build30 w _ _ _ _ _ _ _ _ _ _ _ _) ?_
                    simp (maxSteps := 5000000) only [↓wt_b, t40, qpost, qnorm]
                    refine bq_build rfl (fun w => run_build32 w _ _ _ _ _ _ _ _ _ _ _ _) ?_
                    simp (maxSteps := 5000000) only [↓wt_one, e41, qpost, qnorm]
                    obtain ⟨hzv, _, hl⟩ := step_leaf hY (by omega) HZ1.out HR1.out HG1.out hgs HP3.out rfl
                    have HL := Lib.hid hl
                    have HZ3 := Lib.hid (fun cs => setRow_heap _ w.heap.size zstep cs 32 (0, 0) hzv)
                    refine eff_store_row (g := w.heap.size) (old := zstep) (e := 32) rfl rfl hzv hi32 rfl (by simp [Value.oneCell']) ⟨hT _ (grown_row (below_grown hY.below) _), ?_⟩
                    simp (maxSteps := 5000000) only [↓wt_leaf, qpost]
                    refine hQ _ _ ?_
                    clear hQ hT hT' hl hzv hY HZ1 HR1 HG1 C7 C37 t8 t19 t38 t39 t40 e7 e18 e20 e22 e37 e41
                    go_wp2
                    refine bodyPost_ret_by (v := SV.val _) ?_ ?_ HL.out
                    · exact results_cell_row rfl _ _ w.heap.size 32 _ (0, 0) _ rfl (HZ3.out _) Tryd.underlying32 rfl hi32
                    · rfl
                  · refine eff_call (by kernel_rfl) (C37 _) rfl rfl ?_
                    rintro e w' ⟨rfl, rfl⟩
                    refine ⟨_, rfl, hT _ (below_grown hY.below), ?_⟩
                    simp (maxSteps := 5000000) only [↓wt_q, ↓wt_one, t38, e22, ↓qpre, qpost, qnorm]
                    refine ⟨by rw [hd2]; decide, ?_⟩
                    replace hY := hY.s22
                    refine eff_lit E28 rfl rfl ⟨hT _ (below_grown hY.below), ?_⟩
                    simp (maxSteps := 5000000) only [↓wt_b, t39, qpost, qnorm]
                    refine bq_build rfl (fun w => run_build30 w _ _ _ _ _ _ _ _ _ _ _ _) ?_
                    simp (maxSteps := 5000000) only [↓wt_b, t40, qpost, qnorm]
                    refine bq_build rfl (fun w => run_build32 w _ _ _ _ _ _ _ _ _ _ _ _) ?_
                    simp (maxSteps := 5000000) only [↓wt_one, e41, qpost, qnorm]
                    obtain ⟨hzv, _, hl⟩ := step_leaf hY (by omega) HZ1.out HR1.out HG1.out hgs HP3.out rfl
                    have HL := Lib.hid hl
                    have HZ3 := Lib.hid (fun cs => setRow_heap _ w.heap.size zstep cs 32 (0, 0) hzv)
                    refine eff_store_row (g := w.heap.size) (old := zstep) (e := 32) rfl rfl hzv hi32 rfl (by simp [Value.oneCell']) ⟨hT _ (grown_row (below_grown hY.below) _), ?_⟩
                    simp (maxSteps := 5000000) only [↓wt_leaf, qpost]
                    refine hQ _ _ ?_
                    clear hQ hT hT' hl hzv hY HZ1 HR1 HG1 C7 C37 t8 t19 t38 t39 t40 e7 e18 e20 e22 e37 e41
                    go_wp2
                    refine bodyPost_ret_by (v := SV.val _) ?_ ?_ HL.out
                    · exact results_cell_row rfl _ _ w.heap.size 32 _ (0, 0) _ rfl (HZ3.out _) Tryd.underlying32 rfl hi32
                    · rfl
                · replace hY := hY.s22
                  refine eff_lit E28 rfl rfl ⟨hT _ (below_grown hY.below), ?_⟩
                  simp (maxSteps := 5000000) only [↓wt_two, e20, e37, qpost, qnorm]
                  refine ⟨?_, ?_⟩
                  · replace hY := hY.s20 L ⟨(txt x5 k).toArray⟩ (decide ((x3 : Int) % 7 = 0)) (decide ((x3 : Int) % 2 = 1))
                    refine eff_lit27 rfl ⟨hT _ (below_grown hY.below), ?_⟩
                    simp (maxSteps := 5000000) only [↓wt_one, e37, qpost, qnorm]
                    refine eff_call (by kernel_rfl) (C37 _) rfl rfl ?_
                    rintro e w' ⟨rfl, rfl⟩
                    refine ⟨_, rfl, hT _ (below_grown hY.below), ?_⟩
                    simp (maxSteps := 5000000) only [↓wt_q, ↓wt_b, t38, t39, ↓qpre, qpost, qnorm]
                    refine ⟨by rw [hd2]; decide, ?_⟩
                    refine bq_build rfl (fun w => run_build30 w _ _ _ _ _ _ _ _ _ _ _ _) ?_
                    simp (maxSteps := 5000000) only [↓wt_b, t40, qpost, qnorm]
                    refine bq_build rfl (fun w => run_build32 w _ _ _ _ _ _ _ _ _ _ _ _) ?_
                    simp (maxSteps := 5000000) only [↓wt_one, e41, qpost, qnorm]
                    obtain ⟨hzv, _, hl⟩ := step_leaf hY (by omega) HZ1.out HR1.out HG1.out hgs HP3.out rfl
                    have HL := Lib.hid hl
                    have HZ3 := Lib.hid (fun cs => setRow_heap _ w.heap.size zstep cs 32 (0, 0) hzv)
                    refine eff_store_row (g := w.heap.size) (old := zstep) (e := 32) rfl rfl hzv hi32 rfl (by simp [Value.oneCell']) ⟨hT _ (grown_row (below_grown hY.below) _), ?_⟩
                    simp (maxSteps := 5000000) only [↓wt_leaf, qpost]
                    refine hQ _ _ ?_
                    clear hQ hT hT' hl hzv hY HZ1 HR1 HG1 C7 C37 t8 t19 t38 t39 t40 e7 e18 e20 e22 e37 e41
                    go_wp2
                    refine bodyPost_ret_by (v := SV.val _) ?_ ?_ HL.out
                    · exact results_cell_row rfl _ _ w.heap.size 32 _ (0, 0) _ rfl (HZ3.out _) Tryd.underlying32 rfl hi32
                    · rfl
                  · refine eff_call (by kernel_rfl) (C37 _) rfl rfl ?_
                    rintro e w' ⟨rfl, rfl⟩
                    refine ⟨_, rfl, hT _ (below_grown hY.below), ?_⟩
                    simp (maxSteps := 5000000) only [↓wt_q, ↓wt_one, t38, e20, ↓qpre, qpost, qnorm]
                    refine ⟨by rw [hd2]; decide, ?_⟩
                    replace hY := hY.s20 L ⟨(txt x5 k).toArray⟩ (decide ((x3 : Int) % 7 = 0)) (decide ((x3 : Int) % 2 = 1))
                    refine eff_lit27 rfl ⟨hT _ (below_grown hY.below), ?_⟩
                    simp (maxSteps := 5000000) only [↓wt_b, t39, qpost, qnorm]
                    refine bq_build rfl (fun w => run_build30 w _ _ _ _ _ _ _ _ _ _ _ _) ?_
                    simp (maxSteps := 5000000) only [↓wt_b, t40, qpost, qnorm]
                    refine bq_build rfl (fun w => run_build32 w _ _ _ _ _ _ _ _ _ _ _ _) ?_
                    simp (maxSteps := 5000000) only [↓wt_one, e41, qpost, qnorm]
                    obtain ⟨hzv, _, hl⟩ := step_leaf hY (by omega) HZ1.out HR1.out HG1.out hgs HP3.out rfl
                    have HL := Lib.hid hl
                    have HZ3 := Lib.hid (fun cs => setRow_heap _ w.heap.size zstep cs 32 (0, 0) hzv)
                    refine eff_store_row (g := w.heap.size) (old := zstep) (e := 32) rfl rfl hzv hi32 rfl (by simp [Value.oneCell']) ⟨hT _ (grown_row (below_grown hY.below) _), ?_⟩
                    simp (maxSteps := 5000000) only [↓wt_leaf, qpost]
                    refine hQ _ _ ?_
                    clear hQ hT hT' hl hzv hY HZ1 HR1 HG1 C7 C37 t8 t19 t38 t39 t40 e7 e18 e20 e22 e37 e41
                    go_wp2
                    refine bodyPost_ret_by (v := SV.val _) ?_ ?_ HL.out
                    · exact results_cell_row rfl _ _ w.heap.size 32 _ (0, 0) _ rfl (HZ3.out _) Tryd.underlying32 rfl hi32
                    · rfl
                · refine eff_call (by kernel_rfl) (C37 _) rfl rfl ?_
                  rintro e w' ⟨rfl, rfl⟩
                  refine ⟨_, rfl, hT _ (below_grown hY.below), ?_⟩
                  simp (maxSteps := 5000000) only [↓wt_q, ↓wt_two, t38, e20, e22, ↓qpre, qpost, qnorm]
                  refine ⟨by rw [hd2]; decide, ?_⟩
                  refine ⟨?_, ?_⟩
                  · replace hY := hY.s20 L ⟨(txt x5 k).toArray⟩ (decide ((x3 : Int) % 7 = 0)) (decide ((x3 : Int) % 2 = 1))
                    refine eff_lit27 rfl ⟨hT _ (below_grown hY.below), ?_⟩
                    simp (maxSteps := 5000000) only [↓wt_one, e22, qpost, qnorm]
                    replace hY := hY.s22
                    refine eff_lit E28 rfl rfl ⟨hT _ (below_grown hY.below), ?_⟩
                    simp (maxSteps := 5000000) only [↓wt_b, t39, qpost, qnorm]
                    refine bq_build rfl (fun w => run_build30 w _ _ _ _ _ _ _ _ _ _ _ _) ?_
                    simp (maxSteps := 5000000) only [↓wt_b, t40, qpost, qnorm]
                    refine bq_build rfl (fun w => run_build32 w _ _ _ _ _ _ _ _ _ _ _ _) ?_
                    simp (maxSteps := 5000000) only [↓wt_one, e41, qpost, qnorm]
                    obtain ⟨hzv, _, hl⟩ := step_leaf hY (by omega) HZ1.out HR1.out HG1.out hgs HP3.out rfl
                    have HL := Lib.hid hl
                    have HZ3 := Lib.hid (fun cs => setRow_heap _ w.heap.size zstep cs 32 (0, 0) hzv)
                    refine eff_store_row (g := w.heap.size) (old := zstep) (e := 32) rfl rfl hzv hi32 rfl (by simp [Value.oneCell']) ⟨hT _ (grown_row (below_grown hY.below) _), ?_⟩
                    simp (maxSteps := 5000000) only [↓wt_leaf, qpost]
                    refine hQ _ _ ?_
                    clear hQ hT hT' hl hzv hY HZ1 HR1 HG1 C7 C37 t8 t19 t38 t39 t40 e7 e18 e20 e22 e37 e41
                    go_wp2
                    refine bodyPost_ret_by (v := SV.val _) ?_ ?_ HL.out
                    · exact results_cell_row rfl _ _ w.heap.size 32 _ (0, 0) _ rfl (HZ3.out _) Tryd.underlying32 rfl hi32
                    · rfl
                  · replace hY := hY.s22
                    refine eff_lit E28 rfl rfl ⟨hT _ (below_grown hY.below), ?_⟩
                    simp (maxSteps := 5000000) only [↓wt_one, e20, qpost, qnorm]
                    replace hY := hY.s20 L ⟨(txt x5 k).toArray⟩ (decide ((x3 : Int) % 7 = 0)) (decide ((x3 : Int) % 2 = 1))
                    refine eff_lit27 rfl ⟨hT _ (below_grown hY.below), ?_⟩
                    simp (maxSteps := 5000000) only [↓wt_b, t39, qpost, qnorm]
                    refine bq_build rfl (fun w => run_build30 w _ _ _ _ _ _ _ _ _ _ _ _) ?_
                    simp (maxSteps := 5000000) only [↓wt_b, t40, qpost, qnorm]
                    refine bq_build rfl (fun w => run_build32 w _ _ _ _ _ _ _ _ _ _ _ _) ?_
                    simp (maxSteps := 5000000) only [↓wt_one, e41, qpost, qnorm]
                    obtain ⟨hzv, _, hl⟩ := step_leaf hY (by omega) HZ1.out HR1.out HG1.out hgs HP3.out rfl
                    have HL := Lib.hid hl
                    have HZ3 := Lib.hid (fun cs => setRow_heap _ w.heap.size zstep cs 32 (0, 0) hzv)
                    refine eff_store_row (g := w.heap.size) (old := zstep) (e := 32) rfl rfl hzv hi32 rfl (by simp [Value.oneCell']) ⟨hT _ (grown_row (below_grown hY.below) _), ?_⟩
                    simp (maxSteps := 5000000) only [↓wt_leaf, qpost]
                    refine hQ _ _ ?_
                    clear hQ hT hT' hl hzv hY HZ1 HR1 HG1 C7 C37 t8 t19 t38 t39 t40 e7 e18 e20 e22 e37 e41
                    go_wp2
                    refine bodyPost_ret_by (v := SV.val _) ?_ ?_ HL.out
                    · exact results_cell_row rfl _ _ w.heap.size 32 _ (0, 0) _ rfl (HZ3.out _) Tryd.underlying32 rfl hi32
                    · rfl
              · replace hY := hY.s22
                refine eff_lit E28 rfl rfl ⟨hT _ (below_grown hY.below), ?_⟩
                simp (maxSteps := 5000000) only [↓wt_one, e18, qpost, qnorm]
                refine eff_call (by kernel_rfl) (Tryd.Builder_String_any_k w1.heap.size w1.heap.size _ _ (hY.bld rfl) (by have := hY.big; omega)) rfl rfl ?_
                rintro e v' ⟨rfl, hI, hb, ho⟩
                replace hY := hY.s18 hb ho
                refine ⟨_, rfl, hT _ (below_grown hY.below), ?_⟩
                clear hI hb ho
                simp (maxSteps := 5000000) only [↓wt_b, t19, qpost, qnorm]
                refine bq_build rfl (fun w => run_build61 w _ _ _ _) ?_
                simp (maxSteps := 5000000) only [↓wt_two, e20, e37, qpost, qnorm]
                refine ⟨?_, ?_⟩
                · replace hY := hY.s20 L ⟨(txt x5 k).toArray⟩ (decide ((x3 : Int) % 7 = 0)) (decide ((x3 : Int) % 2 = 1))
                  refine eff_lit27 rfl ⟨hT _ (below_grown hY.below), ?_⟩
                  simp (maxSteps := 5000000) only [↓wt_one, e37, qpost, qnorm]
                  refine eff_call (by kernel_rfl) (C37 _) rfl rfl ?_
                  rintro e w' ⟨rfl, rfl⟩
                  refine ⟨_, rfl, hT _ (below_grown hY.below), ?_⟩
                  simp (maxSteps := 5000000) only [↓wt_q, ↓wt_b, t38, t39, ↓qpre, qpost, qnorm]
                  refine ⟨by rw [hd2]; decide, ?_⟩
                  refine bq_build rfl (fun w => run_build30 w _ _ _ _ _ _ _ _ _ _ _ _) ?_
                  simp (maxSteps := 5000000) only [↓wt_b, t40, qpost, qnorm]
                  refine bq_build rfl (fun w => run_build32 w _ _ _ _ _ _ _ _ _ _ _ _) ?_
                  simp (maxSteps := 5000000) only [↓wt_one, e41, qpost, qnorm]
                  obtain ⟨hzv, _, hl⟩ := step_leaf hY (by omega) HZ1.out HR1.out HG1.out hgs HP3.out rfl
                  have HL := Lib.hid hl
                  have HZ3 := Lib.hid (fun cs => setRow_heap _ w.heap.size zstep cs 32 (0, 0) hzv)
                  refine eff_store_row (g := w.heap.size) (old := zstep) (e := 32) rfl rfl hzv hi32 rfl (by simp [Value.oneCell']) ⟨hT _ (grown_row (below_grown hY.below) _), ?_⟩
                  simp (maxSteps := 5000000) only [↓wt_leaf, qpost]
                  refine hQ _ _ ?_
                  clear hQ hT hT' hl hzv hY HZ1 HR1 HG1 C7 C37 t8 t19 t38 t39 t40 e7 e18 e20 e22 e37 e41
                  go_wp2
                  refine bodyPost_ret_by (v := SV.val _) ?_ ?_ HL.out
                  · exact results_cell_row rfl _ _ w.heap.size 32 _ (0, 0) _ rfl (HZ3.out _) Tryd.underlying32 rfl hi32
                  · rfl
                · refine eff_call (by kernel_rfl) (C37 _) rfl rfl ?_
                  rintro e w' ⟨rfl, rfl⟩
                  refine ⟨_, rfl, hT _ (below_grown hY.below), ?_⟩
                  simp (maxSteps := 5000000) only [↓wt_q, ↓wt_one, t38, e20, ↓qpre, qpost, qnorm]
                  refine ⟨by rw [hd2]; decide, ?_⟩
                  replace hY := hY.s20 L ⟨(txt x5 k).toArray⟩ (decide ((x3 : Int) % 7 = 0)) (decide ((x3 : Int) % 2 = 1))
                  refine eff_lit27 rfl ⟨hT _ (below_grown hY.below), ?_⟩
                  simp (maxSteps := 5000000) only [↓wt_b, t39, qpost, qnorm]
                  refine bq_build rfl (fun w => run_build30 w _ _ _ _ _ _ _ _ _ _ _ _) ?_
                  simp (maxSteps := 5000000) only [↓wt_b, t40, qpost, qnorm]
                  refine bq_build rfl (fun w => run_build32 w _ _ _ _ _ _ _ _ _ _ _ _) ?_
                  simp (maxSteps := 5000000) only [↓wt_one, e41, qpost, qnorm]
                  obtain ⟨hzv, _, hl⟩ := step_leaf hY (by omega) HZ1.out HR1.out HG1.out hgs HP3.out rfl
                  have HL := Lib.hid hl
                  have HZ3 := Lib.hid (fun cs => setRow_heap _ w.heap.size zstep cs 32 (0, 0) hzv)
                  refine eff_store_row (g := w.heap.size) (old := zstep) (e := 32) rfl rfl hzv hi32 rfl (by simp [Value.oneCell']) ⟨hT _ (grown_row (below_grown hY.below) _), ?_⟩
                  simp (maxSteps := 5000000) only [↓wt_leaf, qpost]
                  refine hQ _ _ ?_
                  clear hQ hT hT' hl hzv hY HZ1 HR1 HG1 C7 C37 t8 t19 t38 t39 t40 e7 e18 e20 e22 e37 e41
                  go_wp2
                  refine bodyPost_ret_by (v := SV.val _) ?_ ?_ HL.out
                  · exact results_cell_row rfl _ _ w.heap.size 32 _ (0, 0) _ rfl (HZ3.out _) Tryd.underlying32 rfl hi32
                  · rfl
            · replace hY := hY.s22
              refine eff_lit E28 rfl rfl ⟨hT _ (below_grown hY.below), ?_⟩
              simp (maxSteps := 5000000) only [↓wt_one, e7, qpost, qnorm]
              refine eff_call (by kernel_rfl) (C7 _) rfl rfl ?_
              rintro e w' ⟨rfl, rfl⟩
              refine ⟨_, rfl, hT _ (below_grown hY.below), ?_⟩
              simp (maxSteps := 5000000) only [↓wt_q, ↓wt_one, t8, e18, ↓qpre, qpost, qnorm]
              refine ⟨by rw [hd1]; decide, ?_⟩
              refine eff_call (by kernel_rfl) (Tryd.Builder_String_any_k w1.heap.size w1.heap.size _ _ (hY.bld rfl) (by have := hY.big; omega)) rfl rfl ?_
              rintro e v' ⟨rfl, hI, hb, ho⟩
              replace hY := hY.s18 hb ho
              refine ⟨_, rfl, hT _ (below_grown hY.below), ?_⟩
              clear hI hb ho
              simp (maxSteps := 5000000) only [↓wt_b, t19, qpost, qnorm]
              refine bq_build rfl (fun w => run_build61 w _ _ _ _) ?_
              simp (maxSteps := 5000000) only [↓wt_two, e20, e37, qpost, qnorm]
              refine ⟨?_, ?_⟩
              · replace hY := hY.s20 L ⟨(txt x5 k).toArray⟩ (decide ((x3 : Int) % 7 = 0)) (decide ((x3 : Int) % 2 = 1))
                refine eff_lit27 rfl ⟨hT _ (below_grown hY.below), ?_⟩
                simp (maxSteps := 5000000) only [↓wt_one, e37, qpost, qnorm]
                refine eff_call (by kernel_rfl) (C37 _) rfl rfl ?_
                rintro e w' ⟨rfl, rfl⟩
                refine ⟨_, rfl, hT _ (below_grown hY.below), ?_⟩
                simp (maxSteps := 5000000) only [↓wt_q, ↓wt_b, t38, t39, ↓qpre, qpost, qnorm]
                refine ⟨by rw [hd2]; decide, ?_⟩
                refine bq_build rfl (fun w => run_build30 w _ _ _ _ _ _ _ _ _ _ _ _) ?_
                simp (maxSteps := 5000000) only [↓wt_b, t40, qpost, qnorm]
                refine bq_build rfl (fun w => run_build32 w _ _ _ _ _ _ _ _ _ _ _ _) ?_
                simp (maxSteps := 5000000) only [↓wt_one, e41, qpost, qnorm]
                obtain ⟨hzv, _, hl⟩ := step_leaf hY (by omega) HZ1.out HR1.out HG1.out hgs HP3.out rfl
                have HL := Lib.hid hl
                have HZ3 := Lib.hid (fun cs => setRow_heap _ w.heap.size zstep cs 32 (0, 0) hzv)
                refine eff_store_row (g := w.heap.size) (old := zstep) (e := 32) rfl rfl hzv hi32 rfl (by simp [Value.oneCell']) ⟨hT _ (grown_row (below_grown hY.below) _), ?_⟩
                simp (maxSteps := 5000000) only [↓wt_leaf, qpost]
                refine hQ _ _ ?_
                clear hQ hT hT' hl hzv hY HZ1 HR1 HG1 C7 C37 t8 t19 t38 t39 t40 e7 e18 e20 e22 e37 e41
                go_wp2
                refine bodyPost_ret_by (v := SV.val _) ?_ ?_ HL.out
                · exact results_cell_row rfl _ _ w.heap.size 32 _ (0, 0) _ rfl (HZ3.out _) Tryd.underlying32 rfl hi32
                · rfl
              · refine eff_call (by kernel_rfl) (C37 _) rfl rfl ?_
                rintro e w' ⟨rfl, rfl⟩
                refine ⟨_, rfl, hT _ (below_grown hY.below), ?_⟩
                simp (maxSteps := 5000000) only [↓wt_q, ↓wt_one, t38, e20, ↓qpre, qpost, qnorm]
                refine ⟨by rw [hd2]; decide, ?_⟩
                replace hY := hY.s20 L ⟨(txt x5 k).toArray⟩ (decide ((x3 : Int) % 7 = 0)) (decide ((x3 : Int) % 2 = 1))
                refine eff_lit27 rfl ⟨hT _ (below_grown hY.below), ?_⟩
                simp (maxSteps := 5000000) only [↓wt_b, t39, qpost, qnorm]
                refine bq_build rfl (fun w => run_build30 w _ _ _ _ _ _ _ _ _ _ _ _) ?_
                simp (maxSteps := 5000000) only [↓wt_b, t40, qpost, qnorm]
                refine bq_build rfl (fun w => run_build32 w _ _ _ _ _ _ _ _ _ _ _ _) ?_
                simp (maxSteps := 5000000) only [↓wt_one, e41, qpost, qnorm]
                obtain ⟨hzv, _, hl⟩ := step_leaf hY (by omega) HZ1.out HR1.out HG1.out hgs HP3.out rfl
                have HL := Lib.hid hl
                have HZ3 := Lib.hid (fun cs => setRow_heap _ w.heap.size zstep cs 32 (0, 0) hzv)
                refine eff_store_row (g := w.heap.size) (old := zstep) (e := 32) rfl rfl hzv hi32 rfl (by simp [Value.oneCell']) ⟨hT _ (grown_row (below_grown hY.below) _), ?_⟩
                simp (maxSteps := 5000000) only [↓wt_leaf, qpost]
                refine hQ _ _ ?_
                clear hQ hT hT' hl hzv hY HZ1 HR1 HG1 C7 C37 t8 t19 t38 t39 t40 e7 e18 e20 e22 e37 e41
                go_wp2
                refine bodyPost_ret_by (v := SV.val _) ?_ ?_ HL.out
                · exact results_cell_row rfl _ _ w.heap.size 32 _ (0, 0) _ rfl (HZ3.out _) Tryd.underlying32 rfl hi32
                · rfl

end Go.Proofs.YtnkboccngialiaaDoor
