/- Walk: the reference's Hunks. -/
import Derived.Test.YtabiegbbbljhlaaW6
namespace Go.Proofs.Ytabiegbbbljhlaa
open Go.RowKit

/-- At a hunk's lines: the list, and its last hunk. -/
structure HuAt (w : World) (base g cg : Nat) (hs : List HV) (h : HV) : Prop where
  hb : HB w base (.slice (some ⟨g, 0, none⟩) (hs.length + 1) cg) (hs ++ [h])
structure HuFacts (w : World) (base g : Nat) (hs : List HV) (h : HV) : Prop where
  gb : base ≤ g
  gl : g < w.heap.size
  q1 : w.cell? ⟨g, hs.length * 3 + 1, none⟩ = some (.slice h.oA h.old.length h.oc)
  q2 : w.cell? ⟨g, hs.length * 3 + 2, none⟩ = some (.slice h.nA h.new.length h.nc)
  f1 : w.frozen? ⟨g, hs.length * 3 + 1, none⟩ = false
  f2 : w.frozen? ⟨g, hs.length * 3 + 2, none⟩ = false
  o1 : w.ownsRow base 9 1 (.slice h.oA h.old.length h.oc) h.old.length (h.old.map .string)
  o2 : w.ownsRow base 9 1 (.slice h.nA h.new.length h.nc) h.new.length (h.new.map .string)
  n1 : (Value.slice h.oA h.old.length h.oc).ownBlock ≠ some g
  n2 : (Value.slice h.nA h.new.length h.nc).ownBlock ≠ some g
theorem HuAt.facts {w : World} {base g cg : Nat} {hs : List HV} {h : HV} (H : HuAt w base g cg hs h) : HuFacts w base g hs h := by
  obtain ⟨g', c', e, hbg, hgl, q0, q1, q2, f1, f2, o1, o2, n1, n2⟩ := H.hb.last
  simp only [Value.slice.injEq, Option.some.injEq, Addr.mk.injEq, and_true, true_and] at e
  obtain ⟨rfl, rfl⟩ := e
  exact ⟨hbg, hgl, q1, q2, f1, f2, o1, o2, n1, n2⟩
theorem hu_push {W w2 : World} {base : Nat} {v v2 : Value} {hs : List HV} {at_ : Int} (hB : HB W base v hs)
    (ho : w2.ownsRow base 29 3 v2 (hs.length + 1) (hs.flatMap HV.cells ++ [.int .i64 at_, .slice none 0 0, .slice none 0 0]))
    (hg : W.grownBy w2 v.ownBlock) (hat : v2.ownBlock = v.ownBlock ∨ v2.ownBlock = some W.heap.size) :
    ∃ g cg, v2 = .slice (some ⟨g, 0, none⟩) (hs.length + 1) cg ∧ HuAt w2 base g cg hs ⟨at_, none, 0, [], none, 0, []⟩ := by
  have hB2 := hB.push ho hg hat
  obtain ⟨g, cg, rfl, _⟩ := hB2.last
  exact ⟨g, cg, rfl, ⟨hB2⟩⟩

set_option maxRecDepth 100000 in
set_option maxHeartbeats 8000000 in
theorem hunks_any {A : Option Addr} {n ca : Nat} {es : List EV} {w : World} (hn : n ≤ 1073741824)
    (ha : Rd w w.heap.size 2 A n ca (es.flatMap EV.cells)) :
    Calls Try.prog 25 #[.slice A n ca] w (HunksBelow (hunksL es) w) := by
  have HA := Lib.hid (rdE_len ha)
  have hcap := ha.cap
  go_enter Try.func25, Try.ntmps25
  go_wp2
  go_loopw [3, 4, 5, 6] (fun out at_ wi i wr => ∃ k : Nat, k ≤ n ∧ i = .int .i64 k ∧ Below w.heap.size w wr ∧ OfSt w.heap.size wr out at_ wi (hst (es.take k)))
      (fun _ _ _ i _ => n - (intOf i).toNat)
  case atStart =>
    refine ⟨0, Nat.zero_le _, rfl, Below.refl _ _, ?_⟩
    rw [List.take_zero]
    exact ⟨[], HB.nil _ _, rfl, rfl, rfl⟩
  case round =>
    obtain ⟨k, hk, rfl, hb, hs, hB, hpu, rfl, rfl⟩ := hrel
    by_cases hlt : k < n
    · obtain ⟨b0, o0, ⟨kd, ln⟩, rfl, hbb, hx, h0, h1⟩ := rdE_get ha hlt
      simp only at h0 h1
      have K0 := Lib.hid h0
      have K1 := Lib.hid h1
      clear h1
      replace h0 := (hb.cell hbb).trans h0
      have HX := Lib.hid hx; clear hx
      have hnx := hst_succ HX.out
      have hat := hst_at (es.take k)
      rw [List.length_take] at hat
      have hfe := hst_dn es k (by rw [HA.out]; omega)
      have hbs := hb.size
      have HL := Lib.hid (hst_cur es k (by rw [HA.out]; omega))
      generalize hst (es.take k) = s at *
      obtain ⟨dn, cur, at_⟩ := s
      simp only at *
      have hfew : hs.length ≤ 1073741824 := by
        have := congrArg List.length hpu
        rw [List.length_map, List.length_append] at this
        omega
      have HN := Lib.hid hnx; clear hnx
      by_cases e1 : kd = 1
      · subst e1
        have HP := Lib.hid hpu; clear hpu
        go_wp2
        go_roundw
        case rel =>
          refine ⟨k + 1, by omega, by go_num, hb, ?_⟩
          rw [HN.out]
          refine ⟨hs, hB, ?_, rfl, rfl⟩
          rw [HP.out, hstep1]
          simp
        case measure => simp [intOf]; omega
      · have e1' := int_ne e1
        have E1 := Lib.hid e1; clear e1
        by_cases e2 : kd = 2
        · subst e2
          cases cur
          case' none =>
            have HP := Lib.hid (show hs.map HV.pure = dn by simpa using hpu); clear hpu
            have HB0 := Lib.hid hB; clear hB
            have HL1 := Lib.hid (show hs.length + 1 ≤ maxLen by simp only [maxLen]; omega)
            have HL2 := Lib.hid (show (hs.length + 1) * 56 ≤ 140737488355328 by omega)
            have HL3 := Lib.hid (show w.heap.size ≤ (wr.alloc (Obj.cells #[.int .i64 at_, .slice none 0 0, .slice none 0 0] 29)).heap.size by simp; omega)
            have HR : Hid (Rd (wr.alloc (Obj.cells #[.int .i64 at_, .slice none 0 0, .slice none 0 0] 29)) (wr.heap.size + 1) 3 (some ⟨wr.heap.size, 0, none⟩) 1 1 [.int .i64 at_, .slice none 0 0, .slice none 0 0]) := Rd.lit (alloc_at (by simp)) (by omega) rfl (Nat.le_refl _)
            have HO : Hid ((wr.alloc (Obj.cells #[.int .i64 at_, .slice none 0 0, .slice none 0 0] 29)).ownsRow w.heap.size 29 3 u3 hs.length (hs.flatMap HV.cells)) := HB0.out.row.alloc _
            have HBB : Hid (Below w.heap.size w (wr.alloc (Obj.cells #[.int .i64 at_, .slice none 0 0, .slice none 0 0] 29))) := hb.alloc hbs _
            have HB2 : Hid (HB (wr.alloc (Obj.cells #[.int .i64 at_, .slice none 0 0, .slice none 0 0] 29)) w.heap.size u3 hs) := HB0.out.alloc _
            clear hb
            go_wp2_with (at_builtin; refine wpl_append rfl (.tmp 24) (.tmp 27) 30 rfl E30 (v := u3) rfl rfl HO.out HR.out (one3 _) HL1.out HL2.out HL3.out ?_; intro v2 w2 hown2 hgrow2 hat2; have hb2 := Lib.hid (HBB.out.grown hgrow2 HL3.out (fun g hg => (HO.out.lt g hg).1)); obtain ⟨g, cg, rfl, HAT⟩ := hu_push HB2.out hown2 hgrow2 hat2; have HAT := Lib.hid HAT; have c0 := (hb2.out.cell (p := ⟨b0, o0 + k * 2, none⟩) hbb).trans K0.out; clear h0 hown2 hgrow2 hat2 HB2 HBB HO HR HL1 HL2 HL3 HB0)
            have HC : Hid ((⟨at_, none, 0, [], none, 0, []⟩ : HV).pure = (none : Option PH).getD ⟨at_, [], []⟩) := rfl
            generalize (⟨at_, none, 0, [], none, 0, []⟩ : HV) = hv at *
            generalize (none : Option PH) = cu at *
          case' some c =>
            obtain ⟨hs, hv, rfl, hp1, hp2⟩ := split_last (show hs.map HV.pure = dn ++ [c] from hpu); clear hpu
            have HP := Lib.hid hp1; clear hp1
            have HC : Hid (hv.pure = (some c : Option PH).getD ⟨at_, [], []⟩) := hp2; clear hp2
            obtain ⟨g, cg, rfl, hgb, hgl, _, _, _, _, _, ho1, ho2, _, _⟩ := hB.last
            replace hfew : hs.length ≤ 1073741824 := by rw [List.length_append] at hfew; omega
            have HAT : Hid (HuAt wr w.heap.size g cg hs hv) := ⟨hB⟩
            have hb2 : Hid (Below w.heap.size w wr) := hb
            have c0 := h0
            clear hb hB hgb hgl ho1 ho2 h0
            go_wp2_with fail
            simp only [Option.isSome_some]
            generalize (some c : Option PH) = cu at *
            generalize wr = w2 at *
          all_goals
            have HFC := Lib.hid HAT.out.facts
            have hold : hv.old.length ≤ n := by have h1 := HL.out.1; rw [← HC.out] at h1; exact Nat.le_trans h1 hk
            refine wp_region_l (fun w' => w'.heap[g]? = w2.heap[g]? ∧ Below w.heap.size w w') (qe [10, 11] 14) [14] mixed (by kernel_rfl) ⟨rfl, hb2.out.drew⟩ ?_
            intro T M Q Q2 hT hT' hM hQ hQ2
            have m0 : M ⟨g, hs.length * 3 + 1, none⟩ = some (.slice hv.oA hv.old.length hv.oc) := hM _ _ fun w' hw => (World.cell?_of_block (w := w2) (a := ⟨g, hs.length * 3 + 1, none⟩) hw.1).trans HFC.out.q1
            have m1 : M ⟨b0, o0 + k * 2 + 1, none⟩ = some (.string ln) := hM _ _ fun w' hw => (hw.2.cell (p := ⟨b0, o0 + k * 2 + 1, none⟩) hbb).trans K1.out
            clear hM
            simp only [qcmp, Nat.reduceBEq]
            simp (maxSteps := 5000000) only [↓qpre, qpost, qfacts, qnorm, m0, m1]
            refine ⟨⟨by omega, by omega⟩, ?_⟩
            have HALL := Lib.hid HAT.out
            have hws : w.heap.size ≤ w2.heap.size := by have := HFC.out.gb; have := HFC.out.gl; omega
            refine eff_lit E22 rfl rfl ⟨hT _ ⟨Below.heap_alloc _ _ _ HFC.out.gl, hb2.out.drew.alloc hws _⟩, ?_⟩
            simp (maxSteps := 5000000) only [qpost, qnorm]
            refine eff_append (v := .slice hv.oA hv.old.length hv.oc) (base := w.heap.size) E22 rfl rfl ((HFC.out.o1.drew).alloc _) (Rd.lit (n := 1) (alloc_at rfl) (Nat.lt_succ_self _) rfl (Nat.le_refl _)) (oneCell_str [ln]) (by simp only [maxLen]; omega) (by omega) (by show _ ≤ (w2.heap.push _).size; simp; omega) ?_
            intro v3 w3 hown3 hgrow3 hat3
            obtain ⟨A3, c3, rfl, hc3⟩ := ownsRow_cap hown3
            have hk1 : w3.heap[g]? = w2.heap[g]? := (hgrow3.block g (by show g < (w2.heap.push _).size; have := HFC.out.gl; simp; omega) (fun e => HFC.out.n1 e.symm)).trans (Below.heap_alloc _ _ _ HFC.out.gl)
            have hk2 : Below w.heap.size w w3 := ((hb2.out.drew).alloc hws (Obj.cells #[Value.string ln] 9)).grown hgrow3 (by show _ ≤ (w2.heap.push _).size; simp; omega) (fun g hg => (HFC.out.o1.lt g hg).1)
            refine ⟨hT _ ⟨hk1, hk2⟩, ?_⟩
            simp (maxSteps := 5000000) only [↓qpre, qpost, qfacts, qnorm]
            refine hQ _ _ ?_
            simp only [lates, List.map, qcmp]
            simp (maxSteps := 5000000) only [qpost]
            refine eff_store (v := .slice A3 (hv.old.length + 1) c3) (b := g) (o := hs.length * 3 + 1) (by kernel_rfl) rfl rfl (by rw [World.cell?_of_block (w := w2) (a := ⟨g, hs.length * 3 + 1, none⟩) hk1, HFC.out.q1]; rfl) (by rw [World.frozen?_of_block (w := w2) (a := ⟨g, hs.length * 3 + 1, none⟩) hk1, HFC.out.f1]) rfl ⟨trivial, ?_⟩
            simp (maxSteps := 5000000) only [qpost]
            refine hQ2 _ _ ?_
            have HBn := Lib.hid (HB.old (HALL.out.hb.drew.alloc (Obj.cells #[Value.string ln] 9)) rfl hown3 hgrow3 hat3)
            have HBF := Lib.hid (hk2.setCell (p := ⟨g, hs.length * 3 + 1, none⟩) HFC.out.gb (Value.slice A3 (hv.old.length + 1) c3))
            clear hQ hQ2 hT hT' m0 m1 hk1 hk2 hown3 hgrow3 hat3 HALL HFC HAT c0 hc3
            generalize w3.setCell ⟨g, hs.length * 3 + 1, none⟩ (Value.slice A3 (hv.old.length + 1) c3) = w4 at *
            go_wp2
            go_roundw
            case rel =>
              refine ⟨k + 1, by omega, by go_num, HBF.out, ?_⟩
              rw [HN.out]
              exact ofSt_old HBn.out HP.out HC.out
            case measure => simp [intOf]; omega

        · by_cases e3 : kd = 3
          · subst e3
            have e2' := int_ne e2
            cases cur
            case' none =>
              have HP := Lib.hid (show hs.map HV.pure = dn by simpa using hpu); clear hpu
              have HB0 := Lib.hid hB; clear hB
              have HL1 := Lib.hid (show hs.length + 1 ≤ maxLen by simp only [maxLen]; omega)
              have HL2 := Lib.hid (show (hs.length + 1) * 56 ≤ 140737488355328 by omega)
              have HL3 := Lib.hid (show w.heap.size ≤ (wr.alloc (Obj.cells #[.int .i64 at_, .slice none 0 0, .slice none 0 0] 29)).heap.size by simp; omega)
              have HR : Hid (Rd (wr.alloc (Obj.cells #[.int .i64 at_, .slice none 0 0, .slice none 0 0] 29)) (wr.heap.size + 1) 3 (some ⟨wr.heap.size, 0, none⟩) 1 1 [.int .i64 at_, .slice none 0 0, .slice none 0 0]) := Rd.lit (alloc_at (by simp)) (by omega) rfl (Nat.le_refl _)
              have HO : Hid ((wr.alloc (Obj.cells #[.int .i64 at_, .slice none 0 0, .slice none 0 0] 29)).ownsRow w.heap.size 29 3 u3 hs.length (hs.flatMap HV.cells)) := HB0.out.row.alloc _
              have HBB : Hid (Below w.heap.size w (wr.alloc (Obj.cells #[.int .i64 at_, .slice none 0 0, .slice none 0 0] 29))) := hb.alloc hbs _
              have HB2 : Hid (HB (wr.alloc (Obj.cells #[.int .i64 at_, .slice none 0 0, .slice none 0 0] 29)) w.heap.size u3 hs) := HB0.out.alloc _
              clear hb
              go_wp2_with (at_builtin; refine wpl_append rfl (.tmp 24) (.tmp 27) 30 rfl E30 (v := u3) rfl rfl HO.out HR.out (one3 _) HL1.out HL2.out HL3.out ?_; intro v2 w2 hown2 hgrow2 hat2; have hb2 := Lib.hid (HBB.out.grown hgrow2 HL3.out (fun g hg => (HO.out.lt g hg).1)); obtain ⟨g, cg, rfl, HAT⟩ := hu_push HB2.out hown2 hgrow2 hat2; have HAT := Lib.hid HAT; have c0 := (hb2.out.cell (p := ⟨b0, o0 + k * 2, none⟩) hbb).trans K0.out; clear h0 hown2 hgrow2 hat2 HB2 HBB HO HR HL1 HL2 HL3 HB0)
              have HC : Hid ((⟨at_, none, 0, [], none, 0, []⟩ : HV).pure = (none : Option PH).getD ⟨at_, [], []⟩) := rfl
              generalize (⟨at_, none, 0, [], none, 0, []⟩ : HV) = hv at *
              generalize (none : Option PH) = cu at *
            case' some c =>
              obtain ⟨hs, hv, rfl, hp1, hp2⟩ := split_last (show hs.map HV.pure = dn ++ [c] from hpu); clear hpu
              have HP := Lib.hid hp1; clear hp1
              have HC : Hid (hv.pure = (some c : Option PH).getD ⟨at_, [], []⟩) := hp2; clear hp2
              obtain ⟨g, cg, rfl, hgb, hgl, _, _, _, _, _, ho1, ho2, _, _⟩ := hB.last
              replace hfew : hs.length ≤ 1073741824 := by rw [List.length_append] at hfew; omega
              have HAT : Hid (HuAt wr w.heap.size g cg hs hv) := ⟨hB⟩
              have hb2 : Hid (Below w.heap.size w wr) := hb
              have c0 := h0
              clear hb hB hgb hgl ho1 ho2 h0
              go_wp2_with fail
              simp only [Option.isSome_some]
              generalize (some c : Option PH) = cu at *
              generalize wr = w2 at *
            all_goals
              have HFC := Lib.hid HAT.out.facts
              have hold : hv.new.length ≤ n := by have h1 := HL.out.2; rw [← HC.out] at h1; exact Nat.le_trans h1 hk
              refine wp_region_l (fun w' => w'.heap[g]? = w2.heap[g]? ∧ Below w.heap.size w w') (qe [10, 11] 14) [14] mixed (by kernel_rfl) ⟨rfl, hb2.out.drew⟩ ?_
              intro T M Q Q2 hT hT' hM hQ hQ2
              have m0 : M ⟨g, hs.length * 3 + 2, none⟩ = some (.slice hv.nA hv.new.length hv.nc) := hM _ _ fun w' hw => (World.cell?_of_block (w := w2) (a := ⟨g, hs.length * 3 + 2, none⟩) hw.1).trans HFC.out.q2
              have m1 : M ⟨b0, o0 + k * 2 + 1, none⟩ = some (.string ln) := hM _ _ fun w' hw => (hw.2.cell (p := ⟨b0, o0 + k * 2 + 1, none⟩) hbb).trans K1.out
              clear hM
              simp only [qcmp, Nat.reduceBEq]
              simp (maxSteps := 5000000) only [↓qpre, qpost, qfacts, qnorm, m0, m1]
              refine ⟨⟨by omega, by omega⟩, ?_⟩
              have HALL := Lib.hid HAT.out
              have hws : w.heap.size ≤ w2.heap.size := by have := HFC.out.gb; have := HFC.out.gl; omega
              refine eff_lit E22 rfl rfl ⟨hT _ ⟨Below.heap_alloc _ _ _ HFC.out.gl, hb2.out.drew.alloc hws _⟩, ?_⟩
              simp (maxSteps := 5000000) only [qpost, qnorm]
              refine eff_append (v := .slice hv.nA hv.new.length hv.nc) (base := w.heap.size) E22 rfl rfl ((HFC.out.o2.drew).alloc _) (Rd.lit (n := 1) (alloc_at rfl) (Nat.lt_succ_self _) rfl (Nat.le_refl _)) (oneCell_str [ln]) (by simp only [maxLen]; omega) (by omega) (by show _ ≤ (w2.heap.push _).size; simp; omega) ?_
              intro v3 w3 hown3 hgrow3 hat3
              obtain ⟨A3, c3, rfl, hc3⟩ := ownsRow_cap hown3
              have hk1 : w3.heap[g]? = w2.heap[g]? := (hgrow3.block g (by show g < (w2.heap.push _).size; have := HFC.out.gl; simp; omega) (fun e => HFC.out.n2 e.symm)).trans (Below.heap_alloc _ _ _ HFC.out.gl)
              have hk2 : Below w.heap.size w w3 := ((hb2.out.drew).alloc hws (Obj.cells #[Value.string ln] 9)).grown hgrow3 (by show _ ≤ (w2.heap.push _).size; simp; omega) (fun g hg => (HFC.out.o2.lt g hg).1)
              refine ⟨hT _ ⟨hk1, hk2⟩, ?_⟩
              simp (maxSteps := 5000000) only [↓qpre, qpost, qfacts, qnorm]
              refine hQ _ _ ?_
              simp only [lates, List.map, qcmp]
              simp (maxSteps := 5000000) only [qpost]
              refine eff_store (v := .slice A3 (hv.new.length + 1) c3) (b := g) (o := hs.length * 3 + 2) (by kernel_rfl) rfl rfl (by rw [World.cell?_of_block (w := w2) (a := ⟨g, hs.length * 3 + 2, none⟩) hk1, HFC.out.q2]; rfl) (by rw [World.frozen?_of_block (w := w2) (a := ⟨g, hs.length * 3 + 2, none⟩) hk1, HFC.out.f2]) rfl ⟨trivial, ?_⟩
              simp (maxSteps := 5000000) only [qpost]
              refine hQ2 _ _ ?_
              have HBn := Lib.hid (HB.new (HALL.out.hb.drew.alloc (Obj.cells #[Value.string ln] 9)) rfl hown3 hgrow3 hat3)
              have HBF := Lib.hid (hk2.setCell (p := ⟨g, hs.length * 3 + 2, none⟩) HFC.out.gb (Value.slice A3 (hv.new.length + 1) c3))
              clear hQ hQ2 hT hT' m0 m1 hk1 hk2 hown3 hgrow3 hat3 HALL HFC HAT c0 hc3
              generalize w3.setCell ⟨g, hs.length * 3 + 2, none⟩ (Value.slice A3 (hv.new.length + 1) c3) = w4 at *
              go_wp2
              go_roundw
              case rel =>
                refine ⟨k + 1, by omega, by go_num, HBF.out, ?_⟩
                rw [HN.out]
                exact ofSt_new HBn.out HP.out HC.out
              case measure => simp [intOf]; omega

          ·
            have e2' := int_ne e2
            have e3' := int_ne e3
            cases cur
            case' none =>
              have HP := Lib.hid (show hs.map HV.pure = dn by simpa using hpu); clear hpu
              have HB0 := Lib.hid hB; clear hB
              have HL1 := Lib.hid (show hs.length + 1 ≤ maxLen by simp only [maxLen]; omega)
              have HL2 := Lib.hid (show (hs.length + 1) * 56 ≤ 140737488355328 by omega)
              have HL3 := Lib.hid (show w.heap.size ≤ (wr.alloc (Obj.cells #[.int .i64 at_, .slice none 0 0, .slice none 0 0] 29)).heap.size by simp; omega)
              have HR : Hid (Rd (wr.alloc (Obj.cells #[.int .i64 at_, .slice none 0 0, .slice none 0 0] 29)) (wr.heap.size + 1) 3 (some ⟨wr.heap.size, 0, none⟩) 1 1 [.int .i64 at_, .slice none 0 0, .slice none 0 0]) := Rd.lit (alloc_at (by simp)) (by omega) rfl (Nat.le_refl _)
              have HO : Hid ((wr.alloc (Obj.cells #[.int .i64 at_, .slice none 0 0, .slice none 0 0] 29)).ownsRow w.heap.size 29 3 u3 hs.length (hs.flatMap HV.cells)) := HB0.out.row.alloc _
              have HBB : Hid (Below w.heap.size w (wr.alloc (Obj.cells #[.int .i64 at_, .slice none 0 0, .slice none 0 0] 29))) := hb.alloc hbs _
              have HB2 : Hid (HB (wr.alloc (Obj.cells #[.int .i64 at_, .slice none 0 0, .slice none 0 0] 29)) w.heap.size u3 hs) := HB0.out.alloc _
              clear hb
              go_wp2_with (at_builtin; refine wpl_append rfl (.tmp 24) (.tmp 27) 30 rfl E30 (v := u3) rfl rfl HO.out HR.out (one3 _) HL1.out HL2.out HL3.out ?_; intro v2 w2 hown2 hgrow2 hat2; have hb2 := Lib.hid (HBB.out.grown hgrow2 HL3.out (fun g hg => (HO.out.lt g hg).1)); obtain ⟨g, cg, rfl, HAT⟩ := hu_push HB2.out hown2 hgrow2 hat2; have HAT := Lib.hid HAT; have c0 := (hb2.out.cell (p := ⟨b0, o0 + k * 2, none⟩) hbb).trans K0.out; clear h0 hown2 hgrow2 hat2 HB2 HBB HO HR HL1 HL2 HL3 HB0)
              have HC : Hid ((⟨at_, none, 0, [], none, 0, []⟩ : HV).pure = (none : Option PH).getD ⟨at_, [], []⟩) := rfl
              generalize (⟨at_, none, 0, [], none, 0, []⟩ : HV) = hv at *
              generalize (none : Option PH) = cu at *
            case' some c =>
              obtain ⟨hs, hv, rfl, hp1, hp2⟩ := split_last (show hs.map HV.pure = dn ++ [c] from hpu); clear hpu
              have HP := Lib.hid hp1; clear hp1
              have HC : Hid (hv.pure = (some c : Option PH).getD ⟨at_, [], []⟩) := hp2; clear hp2
              obtain ⟨g, cg, rfl, hgb, hgl, _, _, _, _, _, ho1, ho2, _, _⟩ := hB.last
              replace hfew : hs.length ≤ 1073741824 := by rw [List.length_append] at hfew; omega
              have HAT : Hid (HuAt wr w.heap.size g cg hs hv) := ⟨hB⟩
              have hb2 : Hid (Below w.heap.size w wr) := hb
              have c0 := h0
              clear hb hB hgb hgl ho1 ho2 h0
              go_wp2_with fail
              simp only [Option.isSome_some]
              generalize (some c : Option PH) = cu at *
              generalize wr = w2 at *
            all_goals
              have E2 := Lib.hid e2; have E3 := Lib.hid e3
              clear c0 e2 e3
              go_roundw
              case rel =>
                refine ⟨k + 1, by omega, by go_num, hb2.out, ?_⟩
                rw [HN.out]
                exact ofSt_odd HAT.out.hb HP.out HC.out E1.out E2.out E3.out
              case measure => simp [intOf]; omega
    · have hkn : k = n := by omega
      subst hkn
      have htk : es.take k = es := List.take_of_length_le (by rw [HA.out]; omega)
      rw [htk] at hpu
      have hfw := hst_few es
      have hHP := Lib.hid (show hs.map HV.pure = hunksL es from hpu); clear hpu
      obtain ⟨A', c', rfl, hR⟩ := hB.rdH (fun h hh => by
        have h1 : h.pure ∈ hunksL es := by rw [← hHP.out]; exact List.mem_map.2 ⟨h, hh, rfl⟩
        have h2 := hfw.1 _ h1
        simp only [HV.pure, HA.out] at h2
        omega)
      clear hfw
      have HR := Lib.hid hR; clear hR hB
      have HBF := Lib.hid hb; clear hb
      go_wp2
      go_ret
      exact ⟨_, _, _, hs, rfl, HR.out, hHP.out, HBF.out⟩
end Go.Proofs.Ytabiegbbbljhlaa
