/- Walks: marker's made. -/
import Derived.Test.YtnkboccngialiaaM6
namespace Go.Proofs.Ytnkboccngialiaa
open Go.RowKit

theorem run_build60 (w : World) (x : Int) : (Instr.build 60 #[(0, .int .i64 x)]).run Try.prog w = .ok (.agg #[.int .i64 x]) w := by
  go_simp

/-- What made hands back. -/
def Made (ms : List MV) (w : World) (e : Ending) (w' : World) : Prop :=
  ∃ (F : Int → Value) (D : DataW Value), e = .returned (.map (some w.heap.size)) ∧ Mp w' w.heap.size w.heap.size ms F D ∧ Below w.heap.size w w'

set_option maxRecDepth 100000 in
set_option maxHeartbeats 8000000 in
theorem made_any {A : Option Addr} {n c : Nat} {ms : List MV} {w : World} (hn : n ≤ maxLen) (h : RdM w w.heap.size A n c ms) (hf : fewM ms = true) :
    Calls Try.prog 44 #[.slice A n c] w (Made ms w) := by
  unfold maxLen at hn
  have HL := Lib.hid h.len
  obtain ⟨F1, F2⟩ := few_iff hf
  have hmm := @run_makeMap Try.prog
  go_enter Try.func44, Try.ntmps44
  go_wp2
  go_loopw [9] (fun i wr => ∃ (k : Nat) (F : Int → Value) (D : DataW Value), k ≤ n ∧ i = .int .i64 k ∧ Below w.heap.size w wr ∧ Mp wr w.heap.size w.heap.size (ms.take k) F D) (fun i _ => n - (intOf i).toNat)
  case atStart => exact ⟨0, _, _, Nat.zero_le _, rfl, (Below.refl _ _).alloc (Nat.le_refl _) _, by rw [List.take_zero]; exact Mp.start w⟩
  case round =>
    obtain ⟨k, F, D, hk, rfl, hb, ho⟩ := hrel
    by_cases hlt : k < n
    · obtain ⟨b0, o0, u, rfl, hbb, hx, hu, h0, h1⟩ := h.get hlt
      replace h0 := (hb.cell hbb).trans h0
      replace h1 := (hb.cell hbb).trans h1
      have HX := Lib.hid hx; clear hx
      obtain ⟨hrd, hnl, hio, _⟩ := h.parts u hu
      have hul := F1 u hu
      have hle := nexts_le u.old fun m hm => F1 m (List.mem_of_mem_take (i := k) hm)
      have hkl : (ms.take k).length ≤ 40 := by rw [List.length_take]; omega
      clear hmm
      go_wp2
      have hbE := hb.alloc hb.size (.cells #[.int .i64 u.old, .slice u.A u.new.length u.c] 35)
      have hcell : (wr.alloc (.cells #[.int .i64 u.old, .slice u.A u.new.length u.c] 35)).heap[wr.heap.size]? = some (.cells #[.int .i64 u.old, .slice u.A u.new.length u.c] 35 (0, 0)) := heap_alloc_new _ _
      have hME := ho.below (w' := (wr.alloc (.cells #[.int .i64 u.old, .slice u.A u.new.length u.c] 35)).drew) ((Below.refl _ _).alloc (Nat.le_refl _) _).drew
      have hlt3 : w.heap.size < wr.heap.size := ho.own.lt
      have hFn : (F u.old).ownBlock ≠ some wr.heap.size := fun e => by have := ((ho.row u.old).lt _ e).2; omega
      have hbD := hbE.drew
      have hsz : w.heap.size ≤ (wr.alloc (.cells #[.int .i64 u.old, .slice u.A u.new.length u.c] 35)).drew.heap.size := by have := hb.size; simp; omega
      have hrdD : Rd (wr.alloc (.cells #[.int .i64 u.old, .slice u.A u.new.length u.c] 35)).drew w.heap.size 1 u.A u.new.length u.c (u.new.map (.int .i64)) := hrd.below hbD
      refine wp_region_t (fun v => v.heap[wr.heap.size]? = some (.cells #[.int .i64 u.old, .slice u.A u.new.length u.c] 35 (0, 0))) (.q 0 (.q 1 (.q 2 (.b 3 (.q 4 (.q 5 (.q 6 (.b 7 (.q 9 (.q 10 (.one 8 (.one 11 (.one 12 .leaf))))))))))))) mixed (by kernel_rfl) hcell ?_
      intro T M Q hT hT' hM hQ
      have m0 : M ⟨wr.heap.size, 0, none⟩ = some (.int .i64 u.old) := hM _ _ fun w' hw => by rw [cell_of_row w' _ _ _ _ _ hw]; rfl
      have m1 : M ⟨wr.heap.size, 1, none⟩ = some (.slice u.A u.new.length u.c) := hM _ _ fun w' hw => by rw [cell_of_row w' _ _ _ _ _ hw]; rfl
      clear hM
      refine wt_gen ?_
      intro O hO
      have t0 := hO true 0
      have t1 := hO true 1
      have t2 := hO true 2
      have t3 := hO true 3
      have t4 := hO true 4
      have t5 := hO true 5
      have t6 := hO true 6
      have t7 := hO true 7
      have t9 := hO true 9
      have t10 := hO true 10
      have e8 := hO false 8
      have e11 := hO false 11
      have e12 := hO false 12
      simp only [qcmp] at t0 t1 t2 t3 t4 t5 t6 t7 t9 t10 e8 e11 e12
      clear hO
      simp (maxSteps := 5000000) only [↓wt_q, ↓wt_b, t0, t1, t2, t3, ↓qpre, qpost, qfacts, qnorm, m0, m1]
      refine bq_build rfl (fun w => run_build60 w _) ?_
      simp (maxSteps := 5000000) only [↓wt_q, ↓wt_b, t4, t5, t6, t7, ↓qpre, qpost, qfacts, qnorm, m0, m1]
      refine bq_build rfl (fun w => run_build60 w _) ?_
      simp (maxSteps := 5000000) only [↓wt_q, ↓wt_one, t9, t10, e8, ↓qpre, qpost, qfacts, qnorm, m0, m1]
      have hcD : (wr.alloc (.cells #[.int .i64 u.old, .slice u.A u.new.length u.c] 35)).drew.heap[wr.heap.size]? = some (.cells #[.int .i64 u.old, .slice u.A u.new.length u.c] 35 (0, 0)) := hcell
      have hat := ho.at_ u.old hio
      clear hcell hbE m0 m1 t0 t1 t2 t3 t4 t5 t6 t7 t9 t10 h0 h1 ho hb hrd h hbb
      generalize (wr.alloc (.cells #[.int .i64 u.old, .slice u.A u.new.length u.c] 35)).drew = w1 at *
      obtain ⟨v, ps, hrun, hv⟩ := hME.own.lookup K60 Try.underlying55 (Try.zeroValue28 w1) (zd := .held (.slice none 0 0)) (zp := []) rfl (key60 hio)
      have hvF : v = F u.old := by
        rw [hat] at hv
        simp only [Rv, Option.some.injEq, Prod.mk.injEq] at hv
        exact held_inj hv.1
      subst hvF
      refine eff_lookup rfl rfl hrun ⟨hT _ hcD, ?_⟩
      simp (maxSteps := 5000000) only [↓wt_one, e11, qpost, qnorm]
      refine eff_append E28 rfl rfl (hME.row u.old) hrdD (one_ints _) (by simp only [maxLen]; omega) (by omega) hsz ?_
      intro v' w2 ho2 hg2 hv2
      have hcD2 := (hg2.block wr.heap.size ((Array.getElem?_eq_some_iff.1 hcD).1) (Ne.symm hFn)).trans hcD
      have hown2 := hME.own.kept hg2 (Ne.symm (hME.nb u.old))
      obtain ⟨w3, hrun3, hown3, hg3⟩ := hown2.update K60 Try.underlying55 (by rw [List.length_take]; unfold maxLen; omega) (key60 hio) (d := .held v') (ps := []) rfl (val := v')
      have hcD3 := (hg3.block wr.heap.size ((Array.getElem?_eq_some_iff.1 hcD2).1) (by intro e; injection e with e; omega)).trans hcD2
      have hb2 := hbD.grown hg2 hsz (fun g hg => ((hME.row u.old).lt g hg).1)
      have hb3 := hb2.grown hg3 hb2.size (fun g hg => by injection hg with hg; omega)
      have hM3 := hME.step hio ho2 hg2 hv2 hown3 hg3
      refine ⟨hT _ hcD2, ?_⟩
      simp (maxSteps := 5000000) only [↓wt_one, e12, qpost, qnorm]
      refine eff_mapUpdate rfl rfl rfl hrun3 ⟨hT _ hcD3, ?_⟩
      simp (maxSteps := 5000000) only [↓wt_leaf, qpost, qnorm]
      refine hQ _ _ ?_
      clear hQ hT hT' e8 e11 e12 hrun hrun3
      have HB := Lib.hid hb3
      have HM := Lib.hid hM3
      clear hb3 hM3 hME hown2 hown3 ho2 hg2 hg3 hcD hcD2 hcD3 hb2
      go_wp2
      go_roundw
      case rel =>
        refine ⟨k + 1, (fun x => if x = u.old then v' else F x), D.put (kl u.old) (.held v'), by omega, by go_num, HB.out, ?_⟩
        rw [List.take_add_one, HX.out, Option.toList_some]
        exact HM.out
      case measure => simp [intOf]; omega
    · have hkn : k = n := by omega
      subst hkn
      rw [List.take_of_length_le (by rw [HL.out]; omega)] at ho
      go_wp2
      go_ret
      exact ⟨F, D, rfl, ho, hb⟩
end Go.Proofs.Ytnkboccngialiaa
