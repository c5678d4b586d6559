/- Walk: Restart. -/
import Derived.Test.YtabiegbbbljhlaaD7
namespace Go.Proofs.Ytabiegbbbljhlaa
open Go.RowKit

theorem kept_ge (d : PD) (i : Nat) (f : List UInt8) (s : Nat) : s ≤ d.kept i f s := by unfold PD.kept; omega
theorem kept_le (d : PD) (i : Nat) {f : List UInt8} {s : Nat} (hs : s ≤ f.length) : d.kept i f s ≤ f.length := by
  have key : ∀ k : Int, s + (min (max k 0) ((f.length : Int) - s)).toNat ≤ f.length := by
    intro k
    have h1 : min (max k 0) ((f.length : Int) - s) ≤ (f.length : Int) - s := Int.min_le_right _ _
    have h0 : 0 ≤ min (max k 0) ((f.length : Int) - s) := by omega
    have h2 := Int.toNat_of_nonneg h0
    omega
  unfold PD.kept
  split
  · split
    · exact key _
    · exact hs
  · exact hs
theorem kept_arm {d : PD} {i : Nat} {k : Int} (f : List UInt8) (s : Nat) (ha : d.armed = true) (hk : d.keep[i]? = some k) : d.kept i f s = s + (min (max k 0) ((f.length : Int) - s)).toNat := by unfold PD.kept; rw [if_pos ha, hk]
theorem kept_out {d : PD} {i : Nat} (f : List UInt8) (s : Nat) (hk : d.keep.length ≤ i) : d.kept i f s = s := by
  unfold PD.kept; rw [List.getElem?_eq_none hk]; split <;> rfl
theorem kept_no {d : PD} {i : Nat} (f : List UInt8) (s : Nat) (ha : d.armed = false) : d.kept i f s = s := by
  unfold PD.kept; rw [if_neg (by simp [ha])]; rfl
theorem addr0 (c : Nat) (A : Option Addr) : (if c = 0 then A else Option.map (fun x => x.add 0) A) = A := by
  split
  · rfl
  · cases A with
    | none => rfl
    | some a =>
      simp only [Option.map_some, Option.some.injEq]
      unfold Addr.add
      split <;> simp_all
/-- The new disk, when k files are there. -/
def rdk (d : PD) (k : Nat) : PD :=
  ⟨d.room, if 0 < k then d.f0.take (d.kept 0 d.f0 d.s0) else [], if 0 < k then d.kept 0 d.f0 d.s0 else 0, if 1 < k then d.f1.take (d.kept 1 d.f1 d.s1) else [], if 1 < k then d.kept 1 d.f1 d.s1 else 0, false, 0, [], false⟩
theorem rdk_wf {d : PD} (h : d.wf) (k : Nat) : (rdk d k).wf := by
  have h0 := kept_le d 0 h.s0
  have h1 := kept_le d 1 h.s1
  have hf := h.full
  refine ⟨h.room, ?_, ?_, ?_, by simp [rdk], by simp [rdk], by simp [rdk], by simp [rdk]⟩
  · simp only [rdk]
    split <;> split <;> simp only [List.length_take, List.length_nil] <;> omega
  · simp only [rdk]
    split <;> simp only [List.length_take, List.length_nil] <;> omega
  · simp only [rdk]
    split <;> simp only [List.length_take, List.length_nil] <;> omega
/-- Both cells of a file. -/
theorem DL.file0 {N g : Nat} {w : World} {d d' : PD} {A0 A1 Ak A : Option Addr} {c0 c1 ck n c : Nat} {s : Int} {l : List UInt8} (h : DL N w g d A0 c0 A1 c1 Ak ck) (hn : l.length = n) (hd : Dat N 5 w A n c (by8 l)) {s' : Nat} (hs : s = s') (he : d' = d.put 0 l s') (hwf : d'.wf) :
    DL N ((w.setCell ⟨g, 1, none⟩ (.slice A n c)).setCell ⟨g, 2, none⟩ (.int .i64 s)) g d' A c A1 c1 Ak ck := by
  subst hn hs he
  have h1 := heap_setCell_same w g 1 _ 89 (.slice A l.length c) h.blk
  have h2 := heap_setCell_same _ g 2 _ 89 (.int .i64 s') h1
  have hg := (set_grown w g 1 (.slice A l.length c)).trans (set_grown _ g 2 (.int .i64 s'))
  exact ⟨h2, h.base, hd.grown hg h.base h.blk (by decide), h.d1.grown hg h.base h.blk (by decide), h.dk.grown hg h.base h.blk (by decide), hwf⟩
theorem DL.file1 {N g : Nat} {w : World} {d d' : PD} {A0 A1 Ak A : Option Addr} {c0 c1 ck n c : Nat} {s : Int} {l : List UInt8} (h : DL N w g d A0 c0 A1 c1 Ak ck) (hn : l.length = n) (hd : Dat N 5 w A n c (by8 l)) {s' : Nat} (hs : s = s') (he : d' = d.put 1 l s') (hwf : d'.wf) :
    DL N ((w.setCell ⟨g, 3, none⟩ (.slice A n c)).setCell ⟨g, 4, none⟩ (.int .i64 s)) g d' A0 c0 A c Ak ck := by
  subst hn hs he
  have h1 := heap_setCell_same w g 3 _ 89 (.slice A l.length c) h.blk
  have h2 := heap_setCell_same _ g 4 _ 89 (.int .i64 s') h1
  have hg := (set_grown w g 3 (.slice A l.length c)).trans (set_grown _ g 4 (.int .i64 s'))
  exact ⟨h2, h.base, h.d0.grown hg h.base h.blk (by decide), hd.grown hg h.base h.blk (by decide), h.dk.grown hg h.base h.blk (by decide), hwf⟩
theorem DL.drew {N g : Nat} {w : World} {d : PD} {A0 A1 Ak : Option Addr} {c0 c1 ck : Nat} (h : DL N w g d A0 c0 A1 c1 Ak ck) : DL N w.drew g d A0 c0 A1 c1 Ak ck := ⟨h.blk, h.base, h.d0.drew, h.d1.drew, h.dk.drew, h.wf⟩
/-- A store of two cells, in a drawn region. -/
theorem eff_store2 {P : Program} {S : World → Prop} {a : Act} {w : World} {K : Act → World → Prop} {dst : Option Tmp} {t ty : TypeId} {x y : Operand} {q : Bool} {g : Option (Tmp × Bool)} {b o : Nat} {u0 u1 : Value} (hi : (P.info? t).map (·.size) = some 2)
    (hx : a.eval x = .pointer (some ⟨b, o, none⟩)) (hy : a.eval y = .agg #[u0, u1]) (hc0 : (w.cell? ⟨b, o, none⟩).isSome = true) (hc1 : (w.cell? ⟨b, o + 1, none⟩).isSome = true)
    (hf0 : w.frozen? ⟨b, o, none⟩ = false) (hf1 : w.frozen? ⟨b, o + 1, none⟩ = false) (h0 : u0.oneCell' = true) (h1 : u1.oneCell' = true)
    (hK : S ((w.setCell ⟨b, o, none⟩ u0).setCell ⟨b, o + 1, none⟩ u1) ∧ K (a.put dst undef) ((w.setCell ⟨b, o, none⟩ u0).setCell ⟨b, o + 1, none⟩ u1)) :
    effq P S ⟨q, dst, .store t x y, ty, g⟩ a w K := by
  intro p af g
  have hc : ∀ j, j < [u0, u1].length → (w.cell? ⟨b, o + 0 + j, none⟩).isSome = true := by
    intro j hj
    have : j = 0 ∨ j = 1 := by simp at hj; omega
    rcases this with rfl | rfl
    · exact hc0
    · exact hc1
  have hf : ∀ j, j < [u0, u1].length → w.frozen? ⟨b, o + 0 + j, none⟩ = false := by
    intro j hj
    have : j = 0 ∨ j = 1 := by simp at hj; omega
    rcases this with rfl | rfl
    · exact hf0
    · exact hf1
  have hr := run_storeCells_cells (P := P) b o [u0, u1] 0 w hc hf (fun u hu => by simp at hu; rcases hu with rfl | rfl <;> assumption)
  obtain ⟨i, hi1, hi2⟩ := Option.map_eq_some_iff.1 hi
  unfold Oper.wp execOp
  have hst : (storeVar t ⟨b, o, none⟩ (.agg #[u0, u1])).run P w = .ok () ((w.setCell ⟨b, o, none⟩ u0).setCell ⟨b, o + 1, none⟩ u1) := by
    simp [storeVar, sizeOf, typeInfo, hi1, hi2, Value.cells, hr, World.setCells]
  simp only [hx, hy, Instr.storeAt, Instr.sureAddr, Sem.run_bind, Sem.run_pure, Result.andThen_ok, hst]
  exact hK
theorem eff_buildN {P : Program} {S : World → Prop} {a : Act} {w : World} {K : Act → World → Prop} {dst : Option Tmp} {t ty : TypeId} {parts : Array (Nat × Operand)} {q : Bool} {g : Option (Tmp × Bool)} {vs : Array (Nat × Value)} {v : Value}
    (hv : (parts.toList.map fun p => (p.1, a.eval p.2)).toArray = vs) (hr : (Instr.build t vs).run P w = .ok v w) (hK : S w ∧ K (a.put dst v) w) : effq P S ⟨q, dst, .build t parts, ty, g⟩ a w K := by
  intro p af g
  have hv' : (parts.map fun p => (p.1, a.eval p.2)) = vs := by rw [← hv]; apply Array.toList_inj.1; simp
  unfold Oper.wp execOp
  simp only [hv', hr, Sem.run_bind, Sem.run_pure, Result.andThen_ok]
  exact hK
theorem run_build86 (w : World) (x : Int) (A : Option Addr) (n c : Nat) :
    (Instr.build 86 #[(0, .slice A n c), (1, .int .i64 x)]).run Try.prog w = .ok (.agg #[.slice A n c, .int .i64 x]) w := by
  go_simp

set_option maxRecDepth 100000 in
set_option maxHeartbeats 8000000 in
theorem restart_any {N g : Nat} {d : PD} {w : World} (h : DK N w g d) : Calls Try.prog 45 #[.pointer (some ⟨g, 0, none⟩)] w (DNew N d.restart w) := by
  have hlt := h.lt
  have hwf := h.wf
  have hroom := hwf.room
  have hfull := hwf.full
  have hs0 := hwf.s0
  have hs1 := hwf.s1
  have hkl := hwf.kl
  have HWF := Lib.hid (fun k => rdk_wf hwf k)
  have HKB := Lib.hid hwf.keep
  obtain ⟨A0, c0, A1, c1, Ak, ck, hD⟩ := h
  have q0 := hD.d0.cap
  have q1 := hD.d1.cap
  have e0 : w.cell? ⟨g, 0, none⟩ = some (.int .i64 d.room) := hD.at_ rfl
  have e1 : w.cell? ⟨g, 1, none⟩ = some (.slice A0 d.f0.length c0) := hD.at_ rfl
  have e2 : w.cell? ⟨g, 2, none⟩ = some (.int .i64 d.s0) := hD.at_ rfl
  have e3 : w.cell? ⟨g, 3, none⟩ = some (.slice A1 d.f1.length c1) := hD.at_ rfl
  have e4 : w.cell? ⟨g, 4, none⟩ = some (.int .i64 d.s1) := hD.at_ rfl
  have hb0 := (Below.refl w.heap.size w).alloc (Nat.le_refl _) (.cells #[.int .i64 d.room, .slice none 0 0, .int .i64 0, .slice none 0 0, .int .i64 0, .bool false, .int .i64 0, .slice none 0 0, .bool false] 89)
  have HR0 := Lib.hid (show DL N (w.alloc (.cells #[.int .i64 d.room, .slice none 0 0, .int .i64 0, .slice none 0 0, .int .i64 0, .bool false, .int .i64 0, .slice none 0 0, .bool false] 89)) w.heap.size (rdk d 0) none 0 none 0 none 0 from
    ⟨heap_alloc_new _ _, by omega, Dat.none_ _ _ _, Dat.none_ _ _ _, Dat.none_ _ _ _, rdk_wf hwf 0⟩)
  have HB0 := Lib.hid hb0
  have HD := Lib.hid hD
  clear hD hb0 hwf
  go_enter Try.func45, Try.ntmps45
  go_wp2
  go_loopw [19] (fun i wr => ∃ (k : Nat) (B0 : Option Addr) (b0 : Nat) (B1 : Option Addr) (b1 : Nat), k ≤ 2 ∧ i = .int .i64 k ∧ Hid (DL N wr w.heap.size (rdk d k) B0 b0 B1 b1 none 0) ∧ Hid (Below w.heap.size w wr)) (fun i _ => 2 - (intOf i).toNat)
  case atStart => exact ⟨0, none, 0, none, 0, by omega, rfl, HR0, HB0⟩
  case round =>
    clear HR0 HB0 e0 e1 e2 e3 e4
    obtain ⟨k, B0, b0, B1, b1, hk, rfl, HL, HB⟩ := hrel
    have hws := HB.out.size
    obtain rfl | rfl | rfl : k = 0 ∨ k = 1 ∨ k = 2 := by omega
    · rw [show ((0 : Nat) : Int) = 0 from rfl]
      have hWb : Below wr.heap.size wr (wr.alloc (.cells #[.slice A0 d.f0.length c0, .int .i64 d.s0] 86)) := (Below.refl _ _).alloc (Nat.le_refl _) _
      have hWh : (wr.alloc (.cells #[.slice A0 d.f0.length c0, .int .i64 d.s0] 86)).heap[wr.heap.size]? = some (.cells #[.slice A0 d.f0.length c0, .int .i64 d.s0] 86 (0, 0)) := heap_alloc_new _ _
      have hrl := HL.out.lt
      have hB := HB.out.trans (hWb.mono hws)
      have hL := HL.out.below hWb
      have hDW := HD.out.below hB
      have e5 : (wr.alloc (.cells #[.slice A0 d.f0.length c0, .int .i64 d.s0] 86)).cell? ⟨g, 5, none⟩ = some (.bool d.armed) := hDW.at_ rfl
      have e7 : (wr.alloc (.cells #[.slice A0 d.f0.length c0, .int .i64 d.s0] 86)).cell? ⟨g, 7, none⟩ = some (.slice Ak d.keep.length ck) := hDW.at_ rfl
      have x0 : (wr.alloc (.cells #[.slice A0 d.f0.length c0, .int .i64 d.s0] 86)).cell? ⟨wr.heap.size, 0, none⟩ = some (.slice A0 d.f0.length c0) := by rw [cell_of_row _ _ _ _ _ _ hWh]; rfl
      have x1 : (wr.alloc (.cells #[.slice A0 d.f0.length c0, .int .i64 d.s0] 86)).cell? ⟨wr.heap.size, 1, none⟩ = some (.int .i64 d.s0) := by rw [cell_of_row _ _ _ _ _ _ hWh]; rfl
      have r1 : ((wr.alloc (.cells #[.slice A0 d.f0.length c0, .int .i64 d.s0] 86)).cell? ⟨w.heap.size, 1, none⟩).isSome = true := by rw [cell_of_row _ _ _ _ _ _ hL.blk]; rfl
      have r2 : ((wr.alloc (.cells #[.slice A0 d.f0.length c0, .int .i64 d.s0] 86)).cell? ⟨w.heap.size, 2, none⟩).isSome = true := by rw [cell_of_row _ _ _ _ _ _ hL.blk]; rfl
      have v1 := hL.fr 1
      have v2 := hL.fr 2
      have HLW := Lib.hid hL
      have HBW := Lib.hid hB
      have hkle := kept_le d 0 hs0
      have hkge := kept_ge d 0 d.f0 d.s0
      have HDF := Lib.hid (show Dat N 5 (wr.alloc (.cells #[.slice A0 d.f0.length c0, .int .i64 d.s0] 86)) A0 (d.kept 0 d.f0 d.s0) (d.kept 0 d.f0 d.s0) (by8 (d.f0.take (d.kept 0 d.f0 d.s0))) from by rw [by8_take]; exact hDW.d0.head hkle _ (Nat.le_refl _))
      have HKD := Lib.hid hDW.dk
      clear hL hB hWh hDW hWb
      have TN : ∀ n : Nat, (n : Int).toNat = n := fun n => rfl
      cases har : d.armed
      · rw [har] at e5
        have hkp := kept_no (i := 0) d.f0 d.s0 har
        rw [hkp] at HDF
        go_wp2
        rw [run_index87_0]
        go_wp2
        generalize wr.alloc (.cells #[.slice A0 d.f0.length c0, .int .i64 d.s0] 86) = W at *
        refine wp_region_l (fun w' => ∀ p : Addr, w'.cell? p = W.cell? p) [(true, 0), (true, 1), (true, 2), (true, 3), (true, 4), (true, 5), (true, 7), (true, 9), (true, 10), (false, 6), (false, 8), (true, 11)] [12] mixed (by kernel_rfl) (fun p => rfl) ?_
        intro T M Q Q2 hT hT' hM hQ hQ2
        have m0 : M ⟨wr.heap.size, 0, none⟩ = some (.slice A0 d.f0.length c0) := hM _ _ fun w' hw => (hw _).trans x0
        clear hM
        have t1 : 1 + Int.toNat 1 * 2 = 3 := rfl
        have t2 : 3 + 1 = 4 := rfl
        simp only [qcmp]
        simp (maxSteps := 5000000) only [↓qpre, qpost, qfacts, qnorm, m0, sliced, Nat.sub_zero, TN, addr0]
        refine ⟨⟨by omega, by omega⟩, ?_⟩
        refine eff_call (by kernel_rfl) (clip_any (n := d.s0) (c := c0) (by omega) (by omega)) rfl rfl ?_
        rintro e w2 ⟨rfl, rfl⟩
        refine ⟨_, rfl, hT _ (fun p => rfl), ?_⟩
        simp (maxSteps := 5000000) only [qpost, qnorm]
        refine eff_buildN rfl (run_build86 _ _ _ _ _) ⟨hT _ (fun p => rfl), ?_⟩
        simp (maxSteps := 5000000) only [↓qpre, qpost, qfacts, qnorm]
        refine ⟨⟨by omega, by omega⟩, hQ _ _ ?_⟩
        simp only [lates, List.map, qcmp]
        simp (maxSteps := 5000000) only [qpost]
        refine eff_store2 (u0 := .slice A0 (d.s0) (d.s0)) (u1 := .int .i64 ((d.s0 : Nat) : Int)) (b := w.heap.size) (o := 1) (by kernel_rfl) rfl rfl (by show (W.cell? _).isSome = true; exact r1) (by show (W.cell? _).isSome = true; exact r2) v1 v2 rfl rfl ⟨trivial, ?_⟩
        simp (maxSteps := 5000000) only [qpost]
        refine hQ2 _ _ ?_
        have HN := Lib.hid (HLW.out.file0 (d' := rdk d 1) (l := d.f0.take (d.s0)) (s' := d.s0) (by rw [List.length_take]; omega) HDF.out rfl (by simp [rdk, PD.put, hkp]) (HWF.out 1))
        have HBN := Lib.hid ((HBW.out.grown (set_grown W w.heap.size 1 (.slice A0 (d.s0) (d.s0))) HBW.out.size (fun g hg => by cases hg; exact Nat.le_refl _)).grown (set_grown _ w.heap.size 2 (.int .i64 ((d.s0 : Nat) : Int))) (by rw [show (W.setCell ⟨w.heap.size, 1, none⟩ (.slice A0 (d.s0) (d.s0))).heap.size = W.heap.size by simp]; exact HBW.out.size) (fun g hg => by cases hg; exact Nat.le_refl _))
        clear hQ hQ2 hT hT' m0 t1 t2
        go_wp2
        exact ⟨⟨1, _, _, _, _, by omega, rfl, HN.out.drew, HBN.out.drew⟩, by simp [intOf]⟩
      · rw [har] at e5
        by_cases hi : 0 < d.keep.length
        · have hkv := List.getElem?_eq_getElem hi
          obtain ⟨kl, ku⟩ := HKB.out _ (List.getElem_mem hi)
          generalize d.keep[0] = kv at *
          obtain ⟨bk, ok, rfl, _, _, hcel⟩ := HKD.out.at_ (by omega)
          have y0 := hcel 0 (.int .i64 kv) (by simp [i64s, List.getElem?_map, hkv])
          have HKP := Lib.hid (kept_arm d.f0 d.s0 har hkv)
          have hv : ((d.s0 : Nat) : Int) + min (max kv 0) ((d.f0.length : Int) - (d.s0 : Nat)) = ((d.kept 0 d.f0 d.s0 : Nat) : Int) := by
            rw [HKP.out]
            have h0 : 0 ≤ min (max kv 0) ((d.f0.length : Int) - (d.s0 : Nat)) := by omega
            have := Int.toNat_of_nonneg h0
            omega
          have HV := Lib.hid hv
          clear hcel hv hkv
          go_wp2
          rw [run_index87_0]
          go_wp2
          generalize wr.alloc (.cells #[.slice A0 d.f0.length c0, .int .i64 d.s0] 86) = W at *
          refine wp_region_q (fun w' => ∀ p : Addr, w'.cell? p = W.cell? p) (qs 18) mixed (by kernel_rfl) (fun p => rfl) ?_
          intro T M Q hT hT' hM hQ
          have m1 : M ⟨g, 7, none⟩ = some (.slice (some ⟨bk, ok, none⟩) d.keep.length ck) := hM _ _ fun w' hw => (hw _).trans e7
          have m2 : M ⟨bk, ok, none⟩ = some (.int .i64 kv) := hM _ _ fun w' hw => (hw _).trans y0
          have m3 : M ⟨wr.heap.size, 0, none⟩ = some (.slice A0 d.f0.length c0) := hM _ _ fun w' hw => (hw _).trans x0
          have m4 : M ⟨wr.heap.size, 1, none⟩ = some (.int .i64 d.s0) := hM _ _ fun w' hw => (hw _).trans x1
          clear hM
          have u1 : Int.toNat 1 = 1 := rfl
          have u0 : Int.toNat 0 = 0 := rfl
          simp only [qcmp]
          simp (maxSteps := 5000000) only [↓qpre, qpost, qfacts, qnorm, m1, m2, m3, m4, u0]
          refine ⟨⟨by omega, by omega⟩, ⟨by omega, by omega⟩, ⟨by omega, by omega⟩, hQ _ _ ?_⟩
          clear hQ hT hT' m1 m2 m3 m4 u0 u1
          rw [HV.out]
          go_wp2
          refine wp_region_l (fun w' => ∀ p : Addr, w'.cell? p = W.cell? p) [(true, 0), (true, 1), (true, 2), (true, 3), (true, 4), (true, 5), (true, 7), (true, 9), (true, 10), (false, 6), (false, 8), (true, 11)] [12] mixed (by kernel_rfl) (fun p => rfl) ?_
          intro T M Q Q2 hT hT' hM hQ hQ2
          have m0 : M ⟨wr.heap.size, 0, none⟩ = some (.slice A0 d.f0.length c0) := hM _ _ fun w' hw => (hw _).trans x0
          clear hM
          have t1 : 1 + Int.toNat 1 * 2 = 3 := rfl
          have t2 : 3 + 1 = 4 := rfl
          simp only [qcmp]
          simp (maxSteps := 5000000) only [↓qpre, qpost, qfacts, qnorm, m0, sliced, Nat.sub_zero, TN, addr0]
          refine ⟨⟨by omega, by omega⟩, ?_⟩
          refine eff_call (by kernel_rfl) (clip_any (n := d.kept 0 d.f0 d.s0) (c := c0) (by omega) (by omega)) rfl rfl ?_
          rintro e w2 ⟨rfl, rfl⟩
          refine ⟨_, rfl, hT _ (fun p => rfl), ?_⟩
          simp (maxSteps := 5000000) only [qpost, qnorm]
          refine eff_buildN rfl (run_build86 _ _ _ _ _) ⟨hT _ (fun p => rfl), ?_⟩
          simp (maxSteps := 5000000) only [↓qpre, qpost, qfacts, qnorm]
          refine ⟨⟨by omega, by omega⟩, hQ _ _ ?_⟩
          simp only [lates, List.map, qcmp]
          simp (maxSteps := 5000000) only [qpost]
          refine eff_store2 (u0 := .slice A0 (d.kept 0 d.f0 d.s0) (d.kept 0 d.f0 d.s0)) (u1 := .int .i64 ((d.kept 0 d.f0 d.s0 : Nat) : Int)) (b := w.heap.size) (o := 1) (by kernel_rfl) rfl rfl (by show (W.cell? _).isSome = true; exact r1) (by show (W.cell? _).isSome = true; exact r2) v1 v2 rfl rfl ⟨trivial, ?_⟩
          simp (maxSteps := 5000000) only [qpost]
          refine hQ2 _ _ ?_
          have HN := Lib.hid (HLW.out.file0 (d' := rdk d 1) (l := d.f0.take (d.kept 0 d.f0 d.s0)) (s' := d.kept 0 d.f0 d.s0) (by rw [List.length_take]; omega) HDF.out rfl (by simp [rdk, PD.put]) (HWF.out 1))
          have HBN := Lib.hid ((HBW.out.grown (set_grown W w.heap.size 1 (.slice A0 (d.kept 0 d.f0 d.s0) (d.kept 0 d.f0 d.s0))) HBW.out.size (fun g hg => by cases hg; exact Nat.le_refl _)).grown (set_grown _ w.heap.size 2 (.int .i64 ((d.kept 0 d.f0 d.s0 : Nat) : Int))) (by rw [show (W.setCell ⟨w.heap.size, 1, none⟩ (.slice A0 (d.kept 0 d.f0 d.s0) (d.kept 0 d.f0 d.s0))).heap.size = W.heap.size by simp]; exact HBW.out.size) (fun g hg => by cases hg; exact Nat.le_refl _))
          clear hQ hQ2 hT hT' m0 t1 t2
          go_wp2
          exact ⟨⟨1, _, _, _, _, by omega, rfl, HN.out.drew.drew, HBN.out.drew.drew⟩, by simp [intOf]⟩
        · have hkp := kept_out (d := d) (i := 0) d.f0 d.s0 (by omega)
          rw [hkp] at HDF
          go_wp2
          rw [run_index87_0]
          go_wp2
          generalize wr.alloc (.cells #[.slice A0 d.f0.length c0, .int .i64 d.s0] 86) = W at *
          refine wp_region_l (fun w' => ∀ p : Addr, w'.cell? p = W.cell? p) [(true, 0), (true, 1), (true, 2), (true, 3), (true, 4), (true, 5), (true, 7), (true, 9), (true, 10), (false, 6), (false, 8), (true, 11)] [12] mixed (by kernel_rfl) (fun p => rfl) ?_
          intro T M Q Q2 hT hT' hM hQ hQ2
          have m0 : M ⟨wr.heap.size, 0, none⟩ = some (.slice A0 d.f0.length c0) := hM _ _ fun w' hw => (hw _).trans x0
          clear hM
          have t1 : 1 + Int.toNat 1 * 2 = 3 := rfl
          have t2 : 3 + 1 = 4 := rfl
          simp only [qcmp]
          simp (maxSteps := 5000000) only [↓qpre, qpost, qfacts, qnorm, m0, sliced, Nat.sub_zero, TN, addr0]
          refine ⟨⟨by omega, by omega⟩, ?_⟩
          refine eff_call (by kernel_rfl) (clip_any (n := d.s0) (c := c0) (by omega) (by omega)) rfl rfl ?_
          rintro e w2 ⟨rfl, rfl⟩
          refine ⟨_, rfl, hT _ (fun p => rfl), ?_⟩
          simp (maxSteps := 5000000) only [qpost, qnorm]
          refine eff_buildN rfl (run_build86 _ _ _ _ _) ⟨hT _ (fun p => rfl), ?_⟩
          simp (maxSteps := 5000000) only [↓qpre, qpost, qfacts, qnorm]
          refine ⟨⟨by omega, by omega⟩, hQ _ _ ?_⟩
          simp only [lates, List.map, qcmp]
          simp (maxSteps := 5000000) only [qpost]
          refine eff_store2 (u0 := .slice A0 (d.s0) (d.s0)) (u1 := .int .i64 ((d.s0 : Nat) : Int)) (b := w.heap.size) (o := 1) (by kernel_rfl) rfl rfl (by show (W.cell? _).isSome = true; exact r1) (by show (W.cell? _).isSome = true; exact r2) v1 v2 rfl rfl ⟨trivial, ?_⟩
          simp (maxSteps := 5000000) only [qpost]
          refine hQ2 _ _ ?_
          have HN := Lib.hid (HLW.out.file0 (d' := rdk d 1) (l := d.f0.take (d.s0)) (s' := d.s0) (by rw [List.length_take]; omega) HDF.out rfl (by simp [rdk, PD.put, hkp]) (HWF.out 1))
          have HBN := Lib.hid ((HBW.out.grown (set_grown W w.heap.size 1 (.slice A0 (d.s0) (d.s0))) HBW.out.size (fun g hg => by cases hg; exact Nat.le_refl _)).grown (set_grown _ w.heap.size 2 (.int .i64 ((d.s0 : Nat) : Int))) (by rw [show (W.setCell ⟨w.heap.size, 1, none⟩ (.slice A0 (d.s0) (d.s0))).heap.size = W.heap.size by simp]; exact HBW.out.size) (fun g hg => by cases hg; exact Nat.le_refl _))
          clear hQ hQ2 hT hT' m0 t1 t2
          go_wp2
          exact ⟨⟨1, _, _, _, _, by omega, rfl, HN.out.drew, HBN.out.drew⟩, by simp [intOf]⟩
    · rw [show ((1 : Nat) : Int) = 1 from rfl]
      have hWb : Below wr.heap.size wr (wr.alloc (.cells #[.slice A1 d.f1.length c1, .int .i64 d.s1] 86)) := (Below.refl _ _).alloc (Nat.le_refl _) _
      have hWh : (wr.alloc (.cells #[.slice A1 d.f1.length c1, .int .i64 d.s1] 86)).heap[wr.heap.size]? = some (.cells #[.slice A1 d.f1.length c1, .int .i64 d.s1] 86 (0, 0)) := heap_alloc_new _ _
      have hrl := HL.out.lt
      have hB := HB.out.trans (hWb.mono hws)
      have hL := HL.out.below hWb
      have hDW := HD.out.below hB
      have e5 : (wr.alloc (.cells #[.slice A1 d.f1.length c1, .int .i64 d.s1] 86)).cell? ⟨g, 5, none⟩ = some (.bool d.armed) := hDW.at_ rfl
      have e7 : (wr.alloc (.cells #[.slice A1 d.f1.length c1, .int .i64 d.s1] 86)).cell? ⟨g, 7, none⟩ = some (.slice Ak d.keep.length ck) := hDW.at_ rfl
      have x0 : (wr.alloc (.cells #[.slice A1 d.f1.length c1, .int .i64 d.s1] 86)).cell? ⟨wr.heap.size, 0, none⟩ = some (.slice A1 d.f1.length c1) := by rw [cell_of_row _ _ _ _ _ _ hWh]; rfl
      have x1 : (wr.alloc (.cells #[.slice A1 d.f1.length c1, .int .i64 d.s1] 86)).cell? ⟨wr.heap.size, 1, none⟩ = some (.int .i64 d.s1) := by rw [cell_of_row _ _ _ _ _ _ hWh]; rfl
      have r1 : ((wr.alloc (.cells #[.slice A1 d.f1.length c1, .int .i64 d.s1] 86)).cell? ⟨w.heap.size, 3, none⟩).isSome = true := by rw [cell_of_row _ _ _ _ _ _ hL.blk]; rfl
      have r2 : ((wr.alloc (.cells #[.slice A1 d.f1.length c1, .int .i64 d.s1] 86)).cell? ⟨w.heap.size, 4, none⟩).isSome = true := by rw [cell_of_row _ _ _ _ _ _ hL.blk]; rfl
      have v1 := hL.fr 3
      have v2 := hL.fr 4
      have HLW := Lib.hid hL
      have HBW := Lib.hid hB
      have hkle := kept_le d 1 hs1
      have hkge := kept_ge d 1 d.f1 d.s1
      have HDF := Lib.hid (show Dat N 5 (wr.alloc (.cells #[.slice A1 d.f1.length c1, .int .i64 d.s1] 86)) A1 (d.kept 1 d.f1 d.s1) (d.kept 1 d.f1 d.s1) (by8 (d.f1.take (d.kept 1 d.f1 d.s1))) from by rw [by8_take]; exact hDW.d1.head hkle _ (Nat.le_refl _))
      have HKD := Lib.hid hDW.dk
      clear hL hB hWh hDW hWb
      have TN : ∀ n : Nat, (n : Int).toNat = n := fun n => rfl
      cases har : d.armed
      · rw [har] at e5
        have hkp := kept_no (i := 1) d.f1 d.s1 har
        rw [hkp] at HDF
        go_wp2
        rw [run_index87_1]
        go_wp2
        generalize wr.alloc (.cells #[.slice A1 d.f1.length c1, .int .i64 d.s1] 86) = W at *
        refine wp_region_l (fun w' => ∀ p : Addr, w'.cell? p = W.cell? p) [(true, 0), (true, 1), (true, 2), (true, 3), (true, 4), (true, 5), (true, 7), (true, 9), (true, 10), (false, 6), (false, 8), (true, 11)] [12] mixed (by kernel_rfl) (fun p => rfl) ?_
        intro T M Q Q2 hT hT' hM hQ hQ2
        have m0 : M ⟨wr.heap.size, 0, none⟩ = some (.slice A1 d.f1.length c1) := hM _ _ fun w' hw => (hw _).trans x0
        clear hM
        have t1 : 1 + Int.toNat 1 * 2 = 3 := rfl
        have t2 : 3 + 1 = 4 := rfl
        simp only [qcmp]
        simp (maxSteps := 5000000) only [↓qpre, qpost, qfacts, qnorm, m0, sliced, Nat.sub_zero, TN, addr0]
        refine ⟨⟨by omega, by omega⟩, ?_⟩
        refine eff_call (by kernel_rfl) (clip_any (n := d.s1) (c := c1) (by omega) (by omega)) rfl rfl ?_
        rintro e w2 ⟨rfl, rfl⟩
        refine ⟨_, rfl, hT _ (fun p => rfl), ?_⟩
        simp (maxSteps := 5000000) only [qpost, qnorm]
        refine eff_buildN rfl (run_build86 _ _ _ _ _) ⟨hT _ (fun p => rfl), ?_⟩
        simp (maxSteps := 5000000) only [↓qpre, qpost, qfacts, qnorm, t1]
        refine ⟨⟨by omega, by omega⟩, hQ _ _ ?_⟩
        simp only [lates, List.map, qcmp]
        simp (maxSteps := 5000000) only [qpost]
        refine eff_store2 (u0 := .slice A1 (d.s1) (d.s1)) (u1 := .int .i64 ((d.s1 : Nat) : Int)) (b := w.heap.size) (o := 3) (by kernel_rfl) rfl rfl (by show (W.cell? _).isSome = true; exact r1) (by show (W.cell? _).isSome = true; exact r2) v1 v2 rfl rfl ⟨trivial, ?_⟩
        simp (maxSteps := 5000000) only [qpost]
        refine hQ2 _ _ ?_
        have HN := Lib.hid (HLW.out.file1 (d' := rdk d 2) (l := d.f1.take (d.s1)) (s' := d.s1) (by rw [List.length_take]; omega) HDF.out rfl (by simp [rdk, PD.put, hkp]) (HWF.out 2))
        have HBN := Lib.hid ((HBW.out.grown (set_grown W w.heap.size 3 (.slice A1 (d.s1) (d.s1))) HBW.out.size (fun g hg => by cases hg; exact Nat.le_refl _)).grown (set_grown _ w.heap.size 4 (.int .i64 ((d.s1 : Nat) : Int))) (by rw [show (W.setCell ⟨w.heap.size, 3, none⟩ (.slice A1 (d.s1) (d.s1))).heap.size = W.heap.size by simp]; exact HBW.out.size) (fun g hg => by cases hg; exact Nat.le_refl _))
        clear hQ hQ2 hT hT' m0 t1 t2
        go_wp2
        exact ⟨⟨2, _, _, _, _, by omega, rfl, HN.out.drew, HBN.out.drew⟩, by simp [intOf]⟩
      · rw [har] at e5
        by_cases hi : 1 < d.keep.length
        · have hkv := List.getElem?_eq_getElem hi
          obtain ⟨kl, ku⟩ := HKB.out _ (List.getElem_mem hi)
          generalize d.keep[1] = kv at *
          obtain ⟨bk, ok, rfl, _, _, hcel⟩ := HKD.out.at_ (by omega)
          have y0 := hcel 1 (.int .i64 kv) (by simp [i64s, List.getElem?_map, hkv])
          have HKP := Lib.hid (kept_arm d.f1 d.s1 har hkv)
          have hv : ((d.s1 : Nat) : Int) + min (max kv 0) ((d.f1.length : Int) - (d.s1 : Nat)) = ((d.kept 1 d.f1 d.s1 : Nat) : Int) := by
            rw [HKP.out]
            have h0 : 0 ≤ min (max kv 0) ((d.f1.length : Int) - (d.s1 : Nat)) := by omega
            have := Int.toNat_of_nonneg h0
            omega
          have HV := Lib.hid hv
          clear hcel hv hkv
          go_wp2
          rw [run_index87_1]
          go_wp2
          generalize wr.alloc (.cells #[.slice A1 d.f1.length c1, .int .i64 d.s1] 86) = W at *
          refine wp_region_q (fun w' => ∀ p : Addr, w'.cell? p = W.cell? p) (qs 18) mixed (by kernel_rfl) (fun p => rfl) ?_
          intro T M Q hT hT' hM hQ
          have m1 : M ⟨g, 7, none⟩ = some (.slice (some ⟨bk, ok, none⟩) d.keep.length ck) := hM _ _ fun w' hw => (hw _).trans e7
          have m2 : M ⟨bk, ok + 1, none⟩ = some (.int .i64 kv) := hM _ _ fun w' hw => (hw _).trans y0
          have m3 : M ⟨wr.heap.size, 0, none⟩ = some (.slice A1 d.f1.length c1) := hM _ _ fun w' hw => (hw _).trans x0
          have m4 : M ⟨wr.heap.size, 1, none⟩ = some (.int .i64 d.s1) := hM _ _ fun w' hw => (hw _).trans x1
          clear hM
          have u1 : Int.toNat 1 = 1 := rfl
          have u0 : Int.toNat 0 = 0 := rfl
          simp only [qcmp]
          simp (maxSteps := 5000000) only [↓qpre, qpost, qfacts, qnorm, m1, m2, m3, m4, u1]
          refine ⟨⟨by omega, by omega⟩, ⟨by omega, by omega⟩, ⟨by omega, by omega⟩, hQ _ _ ?_⟩
          clear hQ hT hT' m1 m2 m3 m4 u0 u1
          rw [HV.out]
          go_wp2
          refine wp_region_l (fun w' => ∀ p : Addr, w'.cell? p = W.cell? p) [(true, 0), (true, 1), (true, 2), (true, 3), (true, 4), (true, 5), (true, 7), (true, 9), (true, 10), (false, 6), (false, 8), (true, 11)] [12] mixed (by kernel_rfl) (fun p => rfl) ?_
          intro T M Q Q2 hT hT' hM hQ hQ2
          have m0 : M ⟨wr.heap.size, 0, none⟩ = some (.slice A1 d.f1.length c1) := hM _ _ fun w' hw => (hw _).trans x0
          clear hM
          have t1 : 1 + Int.toNat 1 * 2 = 3 := rfl
          have t2 : 3 + 1 = 4 := rfl
          simp only [qcmp]
          simp (maxSteps := 5000000) only [↓qpre, qpost, qfacts, qnorm, m0, sliced, Nat.sub_zero, TN, addr0]
          refine ⟨⟨by omega, by omega⟩, ?_⟩
          refine eff_call (by kernel_rfl) (clip_any (n := d.kept 1 d.f1 d.s1) (c := c1) (by omega) (by omega)) rfl rfl ?_
          rintro e w2 ⟨rfl, rfl⟩
          refine ⟨_, rfl, hT _ (fun p => rfl), ?_⟩
          simp (maxSteps := 5000000) only [qpost, qnorm]
          refine eff_buildN rfl (run_build86 _ _ _ _ _) ⟨hT _ (fun p => rfl), ?_⟩
          simp (maxSteps := 5000000) only [↓qpre, qpost, qfacts, qnorm, t1]
          refine ⟨⟨by omega, by omega⟩, hQ _ _ ?_⟩
          simp only [lates, List.map, qcmp]
          simp (maxSteps := 5000000) only [qpost]
          refine eff_store2 (u0 := .slice A1 (d.kept 1 d.f1 d.s1) (d.kept 1 d.f1 d.s1)) (u1 := .int .i64 ((d.kept 1 d.f1 d.s1 : Nat) : Int)) (b := w.heap.size) (o := 3) (by kernel_rfl) rfl rfl (by show (W.cell? _).isSome = true; exact r1) (by show (W.cell? _).isSome = true; exact r2) v1 v2 rfl rfl ⟨trivial, ?_⟩
          simp (maxSteps := 5000000) only [qpost]
          refine hQ2 _ _ ?_
          have HN := Lib.hid (HLW.out.file1 (d' := rdk d 2) (l := d.f1.take (d.kept 1 d.f1 d.s1)) (s' := d.kept 1 d.f1 d.s1) (by rw [List.length_take]; omega) HDF.out rfl (by simp [rdk, PD.put]) (HWF.out 2))
          have HBN := Lib.hid ((HBW.out.grown (set_grown W w.heap.size 3 (.slice A1 (d.kept 1 d.f1 d.s1) (d.kept 1 d.f1 d.s1))) HBW.out.size (fun g hg => by cases hg; exact Nat.le_refl _)).grown (set_grown _ w.heap.size 4 (.int .i64 ((d.kept 1 d.f1 d.s1 : Nat) : Int))) (by rw [show (W.setCell ⟨w.heap.size, 3, none⟩ (.slice A1 (d.kept 1 d.f1 d.s1) (d.kept 1 d.f1 d.s1))).heap.size = W.heap.size by simp]; exact HBW.out.size) (fun g hg => by cases hg; exact Nat.le_refl _))
          clear hQ hQ2 hT hT' m0 t1 t2
          go_wp2
          exact ⟨⟨2, _, _, _, _, by omega, rfl, HN.out.drew.drew, HBN.out.drew.drew⟩, by simp [intOf]⟩
        · have hkp := kept_out (d := d) (i := 1) d.f1 d.s1 (by omega)
          rw [hkp] at HDF
          go_wp2
          rw [run_index87_1]
          go_wp2
          generalize wr.alloc (.cells #[.slice A1 d.f1.length c1, .int .i64 d.s1] 86) = W at *
          refine wp_region_l (fun w' => ∀ p : Addr, w'.cell? p = W.cell? p) [(true, 0), (true, 1), (true, 2), (true, 3), (true, 4), (true, 5), (true, 7), (true, 9), (true, 10), (false, 6), (false, 8), (true, 11)] [12] mixed (by kernel_rfl) (fun p => rfl) ?_
          intro T M Q Q2 hT hT' hM hQ hQ2
          have m0 : M ⟨wr.heap.size, 0, none⟩ = some (.slice A1 d.f1.length c1) := hM _ _ fun w' hw => (hw _).trans x0
          clear hM
          have t1 : 1 + Int.toNat 1 * 2 = 3 := rfl
          have t2 : 3 + 1 = 4 := rfl
          simp only [qcmp]
          simp (maxSteps := 5000000) only [↓qpre, qpost, qfacts, qnorm, m0, sliced, Nat.sub_zero, TN, addr0]
          refine ⟨⟨by omega, by omega⟩, ?_⟩
          refine eff_call (by kernel_rfl) (clip_any (n := d.s1) (c := c1) (by omega) (by omega)) rfl rfl ?_
          rintro e w2 ⟨rfl, rfl⟩
          refine ⟨_, rfl, hT _ (fun p => rfl), ?_⟩
          simp (maxSteps := 5000000) only [qpost, qnorm]
          refine eff_buildN rfl (run_build86 _ _ _ _ _) ⟨hT _ (fun p => rfl), ?_⟩
          simp (maxSteps := 5000000) only [↓qpre, qpost, qfacts, qnorm, t1]
          refine ⟨⟨by omega, by omega⟩, hQ _ _ ?_⟩
          simp only [lates, List.map, qcmp]
          simp (maxSteps := 5000000) only [qpost]
          refine eff_store2 (u0 := .slice A1 (d.s1) (d.s1)) (u1 := .int .i64 ((d.s1 : Nat) : Int)) (b := w.heap.size) (o := 3) (by kernel_rfl) rfl rfl (by show (W.cell? _).isSome = true; exact r1) (by show (W.cell? _).isSome = true; exact r2) v1 v2 rfl rfl ⟨trivial, ?_⟩
          simp (maxSteps := 5000000) only [qpost]
          refine hQ2 _ _ ?_
          have HN := Lib.hid (HLW.out.file1 (d' := rdk d 2) (l := d.f1.take (d.s1)) (s' := d.s1) (by rw [List.length_take]; omega) HDF.out rfl (by simp [rdk, PD.put, hkp]) (HWF.out 2))
          have HBN := Lib.hid ((HBW.out.grown (set_grown W w.heap.size 3 (.slice A1 (d.s1) (d.s1))) HBW.out.size (fun g hg => by cases hg; exact Nat.le_refl _)).grown (set_grown _ w.heap.size 4 (.int .i64 ((d.s1 : Nat) : Int))) (by rw [show (W.setCell ⟨w.heap.size, 3, none⟩ (.slice A1 (d.s1) (d.s1))).heap.size = W.heap.size by simp]; exact HBW.out.size) (fun g hg => by cases hg; exact Nat.le_refl _))
          clear hQ hQ2 hT hT' m0 t1 t2
          go_wp2
          exact ⟨⟨2, _, _, _, _, by omega, rfl, HN.out.drew, HBN.out.drew⟩, by simp [intOf]⟩
    · go_wp2
      go_ret
      exact ⟨w.heap.size, rfl, ⟨_, _, _, _, _, _, HL.out⟩, Nat.le_refl _, HB.out⟩
end Go.Proofs.Ytabiegbbbljhlaa
