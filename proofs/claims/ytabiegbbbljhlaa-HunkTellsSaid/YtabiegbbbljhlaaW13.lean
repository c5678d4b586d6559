/- Walk: slices.Clone, hunk.Invert. -/
import Derived.Test.YtabiegbbbljhlaaW6
import Derived.Test.YtabiegbbbljhlaaInv
namespace Go.Proofs.Ytabiegbbbljhlaa
open Go.RowKit

theorem ownsRow_below {w w' : World} {base : Nat} {e : TypeId} {sz k : Nat} {v : Value} {xs : List Value} (h : w.ownsRow base e sz v k xs) (hb : Below w.heap.size w w') : w'.ownsRow base e sz v k xs := by
  refine ⟨h.1, ?_⟩
  rcases h.2 with hn | ⟨g, cap, cur, rfl, hbg, hg, rest⟩
  · exact .inl hn
  · exact .inr ⟨g, cap, cur, rfl, hbg, by rw [hb.block g (Array.getElem?_eq_some_iff.1 hg).1]; exact hg, rest⟩
theorem ownsRow_base {w : World} {base base' : Nat} {e : TypeId} {sz k : Nat} {v : Value} {xs : List Value} (h : w.ownsRow base e sz v k xs) (hb : base' ≤ base) : w.ownsRow base' e sz v k xs := by
  refine ⟨h.1, ?_⟩
  rcases h.2 with hn | ⟨g, cap, cur, rfl, hbg, rest⟩
  · exact .inl hn
  · exact .inr ⟨g, cap, cur, rfl, by omega, rest⟩
theorem Owns.below {w w' : World} {base : Nat} {l : List OR} (h : Owns w base l) (hb : Below w.heap.size w w') : Owns w' base l := ⟨fun s hs => ownsRow_below (h.own s hs) hb, h.nd⟩
/-- A row more, of memory that is new. -/
theorem Owns.fresh {w w' : World} {base : Nat} {l : List OR} {r : OR} (h : Owns w base l) (hb : Below w.heap.size w w') (hr : w'.ownsRow w.heap.size r.e r.sz r.v r.n r.xs) (hbase : base ≤ w.heap.size) : Owns w' base (l ++ [r]) := by
  refine ⟨fun s hs => ?_, ?_⟩
  · rcases List.mem_append.1 hs with hs | hs
    · exact ownsRow_below (h.own s hs) hb
    · obtain rfl := List.mem_singleton.1 hs
      exact ownsRow_base hr hbase
  · rw [List.filterMap_append]
    cases hv : r.v.ownBlock with
    | none => simpa [hv] using h.nd
    | some g =>
      have hg := (hr.lt g hv).1
      simp only [List.filterMap_cons, hv, List.filterMap_nil]
      rw [List.nodup_append]
      refine ⟨h.nd, by simp, fun a ha b hb' e => ?_⟩
      obtain rfl := List.mem_singleton.1 hb'
      subst e
      obtain ⟨s, hs, hsv⟩ := List.mem_filterMap.1 ha
      have := ((h.own s hs).lt a hsv).2
      omega
/-- A whole hunk more, whose parts are the call's own already. -/
theorem HB.full {w w' : World} {base : Nat} {v v' : Value} {hs : List HV} {h : HV} (hb : Owns w base (hrow v hs :: (hs.flatMap HV.rows ++ h.rows)))
    (ho : w'.ownsRow base 29 3 v' (hs.length + 1) (hs.flatMap HV.cells ++ h.cells)) (hg : w.grownBy w' v.ownBlock) (hat : v'.ownBlock = v.ownBlock ∨ v'.ownBlock = some w.heap.size) : HB w' base v' (hs ++ [h]) := by
  have h1 : Owns w' base (hrow v' (hs ++ [h]) :: (hs.flatMap HV.rows ++ h.rows)) :=
    Owns.turn (l1 := []) (r := hrow v hs) (r' := hrow v' (hs ++ [h])) hb hg (by simpa [hrow, HV.cells, List.flatMap_append] using ho) hat
  unfold HB
  rw [List.flatMap_append]
  simpa [HV.rows] using h1

/-- What hands back a row of its own, and touches nothing. -/
def RowBelow (e : TypeId) (sz n : Nat) (xs : List Value) (w : World) (en : Ending) (w' : World) : Prop :=
  ∃ v, en = .returned v ∧ w'.ownsRow w.heap.size e sz v n xs ∧ Below w.heap.size w w'

set_option maxRecDepth 100000 in
set_option maxHeartbeats 4000000 in
theorem clone_any {A : Option Addr} {n c BB : Nat} {l : List ByteArray} {w : World} (hn : n ≤ 1048576) (hBB : BB ≤ w.heap.size) (ha : Rd w BB 1 A n c (l.map .string)) :
    Calls Try.prog 59 #[.slice A n c] w (RowBelow 9 1 n (l.map .string) w) := by
  have HL := Lib.hid (show l.length = n by have := ha.len; simpa using this)
  cases A with
  | none =>
    have h0 : n = 0 := by
      rcases Nat.eq_zero_or_pos n with h | h
      · exact h
      · obtain ⟨b, o, e, _⟩ := ha.at_ h; cases e
    subst h0
    have hN := Lib.run_eql_slice_nil (P := Try.prog) w 22 9 none 0 c 0 0 Try.underlying22
    go_enter Try.func59, Try.ntmps59
    go_wp2
    go_ret
    have : l = [] := List.eq_nil_of_length_eq_zero HL.out
    subst this
    exact ⟨_, rfl, World.ownsRow_nil _ _ _ _, Below.refl _ _⟩
  | some p =>
    have hown : (w.alloc (.cells #[] 9)).ownsRow w.heap.size 9 1 (.slice (some ⟨w.heap.size, 0, none⟩) 0 0) 0 [] :=
      ⟨rfl, .inr ⟨w.heap.size, 0, #[], rfl, Nat.le_refl _, alloc_at rfl, Nat.le_refl _, Nat.zero_le _, rfl, rfl⟩⟩
    have HO := Lib.hid hown
    clear hown
    have hN := Lib.run_eql_slice_nil (P := Try.prog) w 22 9 (some p) n c 0 0 Try.underlying22
    go_enter Try.func59, Try.ntmps59
    go_wp2_with (at_builtin; refine wpl_append rfl (.tmp 5) (.tmp 6) 22 rfl E22 (base := w.heap.size) (B := w.heap.size) rfl rfl HO.out ((ha.more hBB).below ((Below.refl _ _).alloc (Nat.le_refl _) _)) (oneCell_str _) (by simp only [maxLen]; omega) (by omega) (by simp) ?_; intro v4 w4 ho4 hg4 hat4)
    go_ret
    rw [Nat.zero_add, List.nil_append] at ho4
    exact ⟨v4, rfl, ho4, ((Below.refl _ _).alloc (Nat.le_refl _) _).grown hg4 (by simp) (fun g hg => by obtain rfl := (Option.some.inj hg); exact Nat.le_refl _)⟩

theorem run_build29 (w : World) (x : Int) (A B : Option Addr) (n c m d : Nat) :
    (Instr.build 29 #[(0, .int .i64 x), (1, .slice A n c), (2, .slice B m d)]).run Try.prog w = .ok (.agg #[.int .i64 x, .slice A n c, .slice B m d]) w := by
  go_simp
theorem run_lit30 (w : World) (x : Int) (A B : Option Addr) (n c m d : Nat) :
    (Instr.buildSlice 30 1 #[(0, .agg #[.int .i64 x, .slice A n c, .slice B m d])]).run Try.prog w = .ok (.slice (some ⟨w.heap.size, 0, none⟩) 1 1) (w.alloc (.cells #[.int .i64 x, .slice A n c, .slice B m d] 29)) := by
  go_simp
section
variable {P : Program} {S : World → Prop} {a : Act} {w : World} {K : Act → World → Prop}
theorem eff_build {dst : Option Tmp} {t ty : TypeId} {parts : Array (Nat × Operand)} {q : Bool} {g : Option (Tmp × Bool)} {vs : Array (Nat × Value)} {v : Value}
    (hv : (parts.toList.map fun p => (p.1, a.eval p.2)).toArray = vs) (hr : (Instr.build t vs).run P w = .ok v w) (hK : S w ∧ K (a.put dst v) w) : effq P S ⟨q, dst, .build t parts, ty, g⟩ a w K := by
  intro p af g
  have hv' : (parts.map fun p => (p.1, a.eval p.2)) = vs := by rw [← hv]; apply Array.toList_inj.1; simp
  unfold Oper.wp execOp
  simp only [hv', hr, Sem.run_bind, Sem.run_pure, Result.andThen_ok]
  exact hK
theorem eff_slice {dst : Option Tmp} {t ty : TypeId} {k : Nat} {parts : Array (Nat × Operand)} {q : Bool} {g : Option (Tmp × Bool)} {vs : Array (Nat × Value)} {v : Value} {w' : World}
    (hv : (parts.toList.map fun p => (p.1, a.eval p.2)).toArray = vs) (hr : (Instr.buildSlice t k vs).run P w = .ok v w') (hK : S w' ∧ K (a.put dst v) w') : effq P S ⟨q, dst, .buildSlice t k parts, ty, g⟩ a w K := by
  intro p af g
  have hv' : (parts.map fun p => (p.1, a.eval p.2)) = vs := by rw [← hv]; apply Array.toList_inj.1; simp
  unfold Oper.wp execOp
  simp only [hv', hr, Sem.run_bind, Sem.run_pure, Result.andThen_ok]
  exact hK
end

theorem invL_mem {l : List PH} {k : Int} {x : PH} (h : x ∈ invL k l) : ∃ (i : Nat) (u : PH), l[i]? = some u ∧ x = ⟨u.at_ + (k + gain (l.take i)), u.new, u.old⟩ := by
  induction l generalizing k with
  | nil => simp [invL] at h
  | cons y l ih =>
    rcases List.mem_cons.1 h with rfl | h
    · exact ⟨0, y, rfl, by simp [gain]⟩
    · obtain ⟨i, u, hu, rfl⟩ := ih h
      refine ⟨i + 1, u, by simpa using hu, ?_⟩
      simp only [List.take_succ_cons, gain]
      congr 1
      omega
theorem inv_bounds {hs : List HV} {n : Nat} {x : HV} (hl : ∀ u ∈ hs, u.old.length ≤ 1048576 ∧ u.new.length ≤ 1048576) (hR : right hs = true) (hL : hs.length = n) (hn : n ≤ 1048576) (hx : x.pure ∈ invL 0 (hs.map HV.pure)) :
    x.old.length ≤ 70368744177664 ∧ x.new.length ≤ 70368744177664 ∧ -9223372036854775808 ≤ x.at_ ∧ x.at_ ≤ 9223372036854775807 := by
  obtain ⟨i, u, hu, e⟩ := invL_mem hx
  rw [List.getElem?_map] at hu
  obtain ⟨v, hv, rfl⟩ := Option.map_eq_some_iff.1 hu
  have hi : i < hs.length := (List.getElem?_eq_some_iff.1 hv).1
  have ok := ok_at (right_at hR hi) hv
  obtain ⟨l1, l2⟩ := hl v (List.mem_of_getElem? hv)
  obtain ⟨g1, g2⟩ := gain_le (hs := hs.take i) (b := 1048576) (fun v hv => hl v (List.mem_of_mem_take hv))
  rw [List.map_take] at g1 g2
  have hg3 : (hs.take i).length * 1048576 ≤ 1048576 * 1048576 := Nat.mul_le_mul_right _ (by rw [List.length_take]; omega)
  have e1 := congrArg PH.at_ e
  have e2 := congrArg PH.old e
  have e3 := congrArg PH.new e
  simp only [HV.pure] at e1 e2 e3
  rw [e2, e3, e1]
  generalize gain ((hs.map HV.pure).take i) = g0 at *
  omega

set_option maxRecDepth 100000 in
set_option maxHeartbeats 8000000 in
theorem invert_any {A : Option Addr} {n c : Nat} {hs : List HV} {w : World} (hn : n ≤ 1048576) (h : RdH w w.heap.size A n c hs) (hl : ∀ u ∈ hs, u.old.length ≤ 1048576 ∧ u.new.length ≤ 1048576) :
    Calls Try.prog 29 #[.slice A n c] w (HunksBelow (inv hs) w) := by
  have HL := Lib.hid h.len
  have C := right_any (w := w) (by simp only [maxLen]; omega) h
  cases hR : right hs
  · rw [hR] at C
    go_enter Try.func29, Try.ntmps29
    go_wp2_with fail
    refine C.mono ?_
    clear C
    rintro e w1 ⟨rfl, hb1⟩
    go_wp2
    go_ret
    exact ⟨none, 0, 0, [], rfl, ⟨Rd.none_ _ _ _, rfl, by simp⟩, by simp [inv, hR], hb1⟩
  · rw [hR] at C
    have HI := Lib.hid (show inv hs = invL 0 (hs.map HV.pure) by simp [inv, hR])
    rw [HI.out]
    go_enter Try.func29, Try.ntmps29
    go_wp2_with fail
    refine C.mono ?_
    clear C
    rintro e w1 ⟨rfl, hb1⟩
    have HW1 := Lib.hid hb1
    clear hb1
    go_wp2
    go_loopw [3, 4, 12] (fun out m i wr => ∃ (k : Nat) (gs : List HV), k ≤ n ∧ m = .int .i64 (gain ((hs.take k).map HV.pure)) ∧ i = .int .i64 k ∧ Below w.heap.size w wr ∧ Hid (HB wr w.heap.size out gs) ∧ Hid (gs.map HV.pure = invL 0 ((hs.take k).map HV.pure)))
      (fun _ _ i _ => n - (intOf i).toNat)
    case atStart => exact ⟨0, [], Nat.zero_le _, rfl, rfl, HW1.out, HB.nil _ _, rfl⟩
    case round =>
      clear HW1
      obtain ⟨k, gs, hk, rfl, rfl, hbw, HO, HP⟩ := hrel
      have hws := hbw.size
      have HW := Lib.hid hbw
      clear hbw
      by_cases hlt : k < n
      · obtain ⟨b0, o0, u, rfl, hb0, hx, hu, h0, h1, h2⟩ := h.get hlt
        replace h0 := (HW.out.cell (p := ⟨b0, o0 + k * 3, none⟩) hb0).trans h0
        replace h1 := (HW.out.cell (p := ⟨b0, o0 + k * 3 + 1, none⟩) hb0).trans h1
        replace h2 := (HW.out.cell (p := ⟨b0, o0 + k * 3 + 2, none⟩) hb0).trans h2
        obtain ⟨i1, i2⟩ := inv_succ hx
        have HI1 := Lib.hid i1
        have HI2 := Lib.hid i2
        have hok := ok_at (right_at hR (k := k) (by rw [HL.out]; exact hlt)) hx
        obtain ⟨g1, g2⟩ := gain_le (hs := hs.take k) (b := 1048576) (fun v hv => hl v (List.mem_of_mem_take hv))
        have hg3 : (hs.take k).length * 1048576 ≤ 1048576 * 1048576 := Nat.mul_le_mul_right _ (by rw [List.length_take]; omega)
        obtain ⟨x1, x2, _, _, _, _⟩ := h.parts u hu
        obtain ⟨ul1, ul2⟩ := hl u hu
        generalize hgg : gain ((hs.take k).map HV.pure) = g0 at *
        have h63 : gs.length ≤ 1048576 := by
          have e1 := congrArg List.length HP.out
          rw [List.length_map, invL_len, List.length_map, List.length_take] at e1
          omega
        have hgg1 : -1099511627776 ≤ g0 ∧ g0 ≤ 1099511627776 := by omega
        clear i1 i2 hx g1 g2 hg3 hgg
        go_wp2
        refine wp_region_q (fun w' => Below w.heap.size w w' ∧ w'.heap[wr.heap.size]? = some (.cells #[.int .i64 u.at_, .slice u.oA u.old.length u.oc, .slice u.nA u.new.length u.nc] 29 (0, 0))) [(true, 0), (true, 1), (true, 2), (true, 3), (true, 4), (true, 5), (true, 6), (true, 8), (true, 9), (false, 7), (false, 10), (false, 11), (false, 12), (false, 13), (true, 14)] mixed (by kernel_rfl) ⟨(HW.out.alloc hws _).drew, heap_alloc_new _ _⟩ ?_
        intro T M Q hT hT' hM hQ
        have m0 : M ⟨wr.heap.size, 0, none⟩ = some (.int .i64 u.at_) := hM _ _ fun w' hw => by rw [cell_of_row w' _ _ _ _ _ hw.2]; rfl
        have m1 : M ⟨wr.heap.size, 1, none⟩ = some (.slice u.oA u.old.length u.oc) := hM _ _ fun w' hw => by rw [cell_of_row w' _ _ _ _ _ hw.2]; rfl
        have m2 : M ⟨wr.heap.size, 2, none⟩ = some (.slice u.nA u.new.length u.nc) := hM _ _ fun w' hw => by rw [cell_of_row w' _ _ _ _ _ hw.2]; rfl
        clear hM
        simp only [qcmp]
        simp (maxSteps := 5000000) only [↓qpre, qpost, qfacts, qnorm, m0, m1, m2]
        refine ⟨⟨by omega, by omega⟩, ?_⟩
        generalize hW : (wr.alloc (Obj.cells #[Value.int IntKind.i64 u.at_, Value.slice u.oA u.old.length u.oc, Value.slice u.nA u.new.length u.nc] 29)).drew = W
        have hWb : Below w.heap.size w W := by subst hW; exact (HW.out.alloc hws _).drew
        have hWs : W.heap.size = wr.heap.size + 1 := by subst hW; show (wr.alloc _).heap.size = _; simp
        have hWh : W.heap[wr.heap.size]? = some (.cells #[.int .i64 u.at_, .slice u.oA u.old.length u.oc, .slice u.nA u.new.length u.nc] 29 (0, 0)) := by subst hW; exact heap_alloc_new _ _
        have hWO : Owns W w.heap.size (hrow u3 gs :: gs.flatMap HV.rows) := by subst hW; exact (Owns.alloc HO.out _).drew
        clear hW
        refine eff_call (by kernel_rfl) (clone_any (BB := w.heap.size) (by omega) (by omega) (x2.below hWb)) rfl rfl ?_
        rintro e w2 ⟨v2, rfl, ho2, hb2⟩
        have hs2 := hb2.size
        have hWO2 := hWO.fresh (r := ⟨9, 1, v2, u.new.length, u.new.map .string⟩) hb2 ho2 (by omega)
        have hWb2 : Below w.heap.size w w2 := hWb.trans (hb2.mono (by omega))
        have hWh2 := (hb2.block wr.heap.size (by omega)).trans hWh
        obtain ⟨A2, c2, rfl, hc2⟩ := ownsRow_cap ho2
        refine ⟨_, rfl, hT _ ⟨hWb2, hWh2⟩, ?_⟩
        simp (maxSteps := 5000000) only [qpost, qnorm]
        refine eff_call (by kernel_rfl) (clone_any (BB := w.heap.size) (by omega) (by omega) (x1.below hWb2)) rfl rfl ?_
        rintro e w3 ⟨v3, rfl, ho3, hb3⟩
        have hs3 := hb3.size
        have hWO3 := hWO2.fresh (r := ⟨9, 1, v3, u.old.length, u.old.map .string⟩) hb3 ho3 (by omega)
        have hWb3 : Below w.heap.size w w3 := hWb2.trans (hb3.mono (by omega))
        have hWh3 := (hb3.block wr.heap.size (by omega)).trans hWh2
        obtain ⟨A3, c3, rfl, hc3⟩ := ownsRow_cap ho3
        refine ⟨_, rfl, hT _ ⟨hWb3, hWh3⟩, ?_⟩
        clear hWO hWO2 hWh hWh2 hWb hWb2 ho2 ho3
        simp (maxSteps := 5000000) only [qpost, qnorm]
        refine eff_build rfl (run_build29 _ _ _ _ _ _ _ _) ⟨hT _ ⟨hWb3, hWh3⟩, ?_⟩
        simp (maxSteps := 5000000) only [qpost, qnorm]
        have hWb4 : Below w.heap.size w (w3.alloc (.cells #[.int .i64 (u.at_ + g0), .slice A2 u.new.length c2, .slice A3 u.old.length c3] 29)) := hWb3.alloc (by omega) _
        have hWh4 := alloc_old hWh3 (.cells #[.int .i64 (u.at_ + g0), .slice A2 u.new.length c2, .slice A3 u.old.length c3] 29)
        have hWO4 := hWO3.alloc (.cells #[.int .i64 (u.at_ + g0), .slice A2 u.new.length c2, .slice A3 u.old.length c3] 29)
        have hrw : (w3.alloc (.cells #[.int .i64 (u.at_ + g0), .slice A2 u.new.length c2, .slice A3 u.old.length c3] 29)).ownsRow w.heap.size 29 3 u3 gs.length (gs.flatMap HV.cells) := hWO4.own (hrow u3 gs) (by simp)
        refine eff_slice rfl (run_lit30 _ _ _ _ _ _ _ _) ⟨hT _ ⟨hWb4, hWh4⟩, ?_⟩
        simp (maxSteps := 5000000) only [qpost, qnorm]
        refine eff_append (v := u3) (base := w.heap.size) E30 rfl rfl hrw (Rd.lit (alloc_at rfl) (Nat.lt_succ_self _) rfl (Nat.le_refl _)) (by simp [Value.oneCell']) (by simp only [maxLen]; omega) (by omega) (by simp; omega) ?_
        intro v5 w5 ho5 hg5 hat5
        have hne : some wr.heap.size ≠ u3.ownBlock := fun e => by have := ((HO.out.row).lt _ e.symm).2; omega
        have hWh5 := (hg5.block wr.heap.size (by simp; omega) hne).trans hWh4
        have hWb5 : Below w.heap.size w w5 := hWb4.grown hg5 hWb4.size (fun g hg => ((HO.out.row).lt _ hg).1)
        have hHB := HB.full (h := ⟨u.at_ + g0, A2, c2, u.new, A3, c3, u.old⟩) (by simpa [HV.rows] using hWO4) (by simpa [hrow, HV.cells] using ho5) hg5 hat5
        have HO5 := Lib.hid hHB
        have HW5 := Lib.hid hWb5
        have c1 : w5.cell? ⟨wr.heap.size, 1, none⟩ = some (.slice u.oA u.old.length u.oc) := by rw [cell_of_row w5 _ _ _ _ _ hWh5]; rfl
        have c2' : w5.cell? ⟨wr.heap.size, 2, none⟩ = some (.slice u.nA u.new.length u.nc) := by rw [cell_of_row w5 _ _ _ _ _ hWh5]; rfl
        refine ⟨hT _ ⟨hWb5, hWh5⟩, ?_⟩
        simp (maxSteps := 5000000) only [↓qpre, qpost, qnorm]
        refine hQ _ _ ?_
        clear hQ hT hT' m0 m1 m2 hWO3 hWO4 hWh3 hWh4 hWb3 hWb4 ho5 hg5 hat5 hHB hWb5 hWh5 hne
        go_wp2
        go_roundw
        case rel =>
          refine ⟨k + 1, gs ++ [⟨u.at_ + g0, A2, c2, u.new, A3, c3, u.old⟩], by omega, ?_, by go_num, HW5.out, HO5, ?_⟩
          · rw [HI2.out]; congr 1; omega
          · unfold Hid; rw [HI1.out, List.map_append, HP.out]; rfl
        case measure => simp [intOf]; omega
      · have hkn : k = n := by omega
        subst hkn
        rw [List.take_of_length_le (by rw [HL.out]; exact Nat.le_refl _)] at HP
        go_wp2
        go_ret
        obtain ⟨A', c', rfl, hR'⟩ := HO.out.rdH fun x hx => by
          obtain ⟨e1, e2⟩ : x.pure ∈ invL 0 (hs.map HV.pure) ∧ True := ⟨by rw [← HP.out]; exact List.mem_map.2 ⟨x, hx, rfl⟩, trivial⟩
          exact inv_bounds hl hR HL.out hn e1
        exact ⟨A', _, c', gs, rfl, hR', HP.out, HW.out⟩
end Go.Proofs.Ytabiegbbbljhlaa
