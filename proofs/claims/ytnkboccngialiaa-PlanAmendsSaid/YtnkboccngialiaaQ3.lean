/- Walks: PlanAmends. -/
import Derived.Test.YtnkboccngialiaaQ2
namespace Go.Proofs.Ytnkboccngialiaa
open Go.RowKit

def lineL (k : Nat) : List Int := (List.range k).map fun (j : Nat) => (j : Int) - 1
theorem lineL_succ (k : Nat) : lineL (k + 1) = lineL k ++ [(k : Int) - 1] := by unfold lineL; rw [List.range_succ, List.map_append]; rfl
theorem lineL_len (k : Nat) : (lineL k).length = k := by unfold lineL; simp
theorem line_is (N a : Nat) : LineIs N a (lineL N ++ [(a : Int) - 1]) := by
  refine ⟨by rw [List.length_append, lineL_len]; rfl, fun j hj => ?_, ?_⟩
  · refine par_get ?_
    rw [List.getElem?_append_left (by rw [lineL_len]; exact hj)]
    unfold lineL
    rw [List.getElem?_map, List.getElem?_range hj]; rfl
  · refine par_get ?_
    rw [List.getElem?_append_right (by rw [lineL_len]; exact Nat.le_refl _), lineL_len, Nat.sub_self]; rfl
theorem mod12 (t : Int) : ∃ k : Nat, wrap64 ((IntKind.u64.wrap t).tmod 12) = k ∧ k < 12 := mod_at t (N := 12) (by omega) (by omega)

set_option maxRecDepth 100000 in
set_option maxHeartbeats 8000000 in
theorem planAmends_any {n0 a0 : Int} (w : World) : Calls Try.prog 9 #[.int .i64 n0, .int .i64 a0] w (BoolBelow true w) := by
  have step : ∀ {u v : World}, Below w.heap.size w u → Below u.heap.size u v → Below w.heap.size w v := fun a b => a.trans (b.mono a.size)
  obtain ⟨kn, hkn, hkn12⟩ := mod12 n0
  obtain ⟨N, hN1, hN0, hN30⟩ : ∃ N : Nat, (3 : Int) + kn = (N : Int) ∧ 3 ≤ N ∧ N ≤ 14 := ⟨kn + 3, by omega, by omega, by omega⟩
  have hw64 := u64_nat (N := N - 1) (by omega)
  obtain ⟨a, ha, haN⟩ := mod_at a0 (N := N - 1) (by omega) (by omega)
  rw [show ((N - 1 : Nat) : Int) = (N : Int) - 1 by omega] at hw64 ha
  have hNz : ¬ (N : Int) - 1 = 0 := by omega
  go_enter Try.func9, Try.ntmps9
  go_wp2
  try rw [hN1]
  try rw [ha]
  clear hN1 hkn ha
  go_loopw [5, 6] (fun ov kv wr => ∃ k : Nat, k ≤ N ∧ kv = .int .i64 k ∧ Below w.heap.size w wr ∧ wr.ownsRow w.heap.size 3 1 ov (lineL k).length ((lineL k).map (.int .i64))) (fun _ kv _ => N - (intOf kv).toNat)
  case atStart => exact ⟨0, Nat.zero_le _, rfl, Below.refl _ _, World.ownsRow_nil _ _ _ _⟩
  case round =>
    obtain ⟨k, hk, rfl, hb, ho⟩ := hrel
    have hll := lineL_len k
    by_cases hlt : k < N
    · have ho' := ho.alloc (.cells #[.int .i64 ((k : Int) - 1)] 3)
      have hb' := hb.alloc hb.size (.cells #[.int .i64 ((k : Int) - 1)] 3)
      have HLS := Lib.hid (lineL_succ k)
      go_wp2_with (at_builtin; refine wpl_append rfl (.tmp 29) (.tmp 32) 28 rfl E28 rfl rfl ho' (rd_lit1 wr ((k : Int) - 1)) (one_ints _) (by unfold maxLen; omega) (by omega) hb'.size ?_; intro v7 w7 ho7 hg7 hv7)
      go_roundw
      case rel =>
        refine ⟨k + 1, by omega, by go_num, hb'.grown hg7 hb'.size (fun q hq => (ho'.lt q hq).1), ?_⟩
        rw [HLS.out, List.length_append, List.map_append]; exact ho7
      case measure => simp [intOf]; omega
    · have hkN : k = N := by omega
      subst hkN
      have ho' := ho.alloc (.cells #[.int .i64 ((a : Int) - 1)] 3)
      have hb' := hb.alloc hb.size (.cells #[.int .i64 ((a : Int) - 1)] 3)
      have hex : ¬ (k : Int) < (k : Int) := by omega
      go_wp2_with (at_builtin; refine wpl_append rfl (.tmp 34) (.tmp 37) 28 rfl E28 rfl rfl ho' (rd_lit1 wr ((a : Int) - 1)) (one_ints _) (by unfold maxLen; omega) (by omega) hb'.size ?_; intro v7 w7 ho7 hg7 hv7; obtain ⟨A7, c7, rfl, hc7⟩ := ownsRow_cap ho7)
      have hb7 := hb'.grown hg7 hb'.size (fun q hq => (ho'.lt q hq).1)
      have hG := Rd.of_own ho7 hc7
      have hLI := line_is k a
      have hglen : (lineL k ++ [(a : Int) - 1]).length = k + 1 := by rw [List.length_append, hll]; rfl
      have hlen2 : (lineL k).length + [(a : Int) - 1].length = (lineL k ++ [(a : Int) - 1]).length := by rw [List.length_append]
      rw [← List.map_append, show (lineL k).length + 1 = (lineL k ++ [(a : Int) - 1]).length by rw [List.length_append]; rfl] at hG
      clear hg7 hv7 ho7 ho' hb' ho hb hll hlt hex hlen2
      generalize (lineL k ++ [(a : Int) - 1]) = G at *
      have rB := rd_lit1 w7 (k : Int)
      have bB := (Below.refl w7.heap.size w7).alloc (Nat.le_refl _) (.cells #[.int .i64 (k : Int)] 3)
      have sz2 : w7.heap.size + 1 = (w7.alloc (.cells #[.int .i64 (k : Int)] 3)).heap.size := by simp
      have rC := rd_mk2 (w7.alloc (.cells #[.int .i64 (k : Int)] 3)) ⟨(a : Int), some ⟨w7.heap.size, 0, none⟩, 1, [(k : Int)]⟩ (g := w7.heap.size + 1) sz2
      have bC := (Below.refl _ (w7.alloc (.cells #[.int .i64 (k : Int)] 3))).alloc (Nat.le_refl _) (.cells #[.int .i64 (a : Int), .slice (some ⟨w7.heap.size, 0, none⟩) 1 1] 35)
      have eC : (w7.alloc (.cells #[.int .i64 (k : Int)] 3)).alloc (.cells #[.int .i64 (a : Int), .slice (some ⟨w7.heap.size, 0, none⟩) ([(k : Int)] : List Int).length 1] 35) = (w7.alloc (.cells #[.int .i64 (k : Int)] 3)).alloc (.cells #[.int .i64 (a : Int), .slice (some ⟨w7.heap.size, 0, none⟩) 1 1] 35) := rfl
      simp only [eC] at rC
      have hg0 := (hG.to bB bB.size).to bC bC.size
      have rB2 := rB.to bC bC.size
      have hbw := step hb7 (bB.trans (bC.mono bB.size))
      generalize (w7.alloc (.cells #[.int .i64 (k : Int)] 3)).alloc (.cells #[.int .i64 (a : Int), .slice (some ⟨w7.heap.size, 0, none⟩) 1 1] 35) = w8 at *
      have hm : RdM w8 w8.heap.size (some ⟨w7.heap.size + 1, 0, none⟩) 1 1 [⟨(a : Int), some ⟨w7.heap.size, 0, none⟩, 1, [(k : Int)]⟩] := by
        refine ⟨by simpa using rC, rfl, fun m hm => ?_⟩
        simp only [List.mem_singleton] at hm
        subst hm
        exact ⟨rB2, by simp, by unfold I64; simp only; omega, fun x hx => by unfold I64; simp at hx; omega⟩
      clear rB rB2 rC bB bC eC sz2 hb7 hG
      have L1 := line_orphan (A := some ⟨w7.heap.size, 0, none⟩) (c := 1) hLI (by omega : a + 1 < k)
      have L2 := line_moved_len (A := some ⟨w7.heap.size, 0, none⟩) (c := 1) hLI (by omega : a + 1 < k)
      have L3 := line_moved_none (A := some ⟨w7.heap.size, 0, none⟩) (c := 1) hLI (by omega : a + 1 < k)
      have L4 := fun t => line_target (A := some ⟨w7.heap.size, 0, none⟩) (c := 1) (t := t) hLI (by omega : a + 1 < k)
      have L5 := fun t => line_target2 (A := some ⟨w7.heap.size, 0, none⟩) (c := 1) (t := t) hLI (by omega : a + 1 < k)
      have hfm : fewM [⟨(a : Int), some ⟨w7.heap.size, 0, none⟩, 1, [(k : Int)]⟩] = true := by simp [fewM]
      generalize [(⟨(a : Int), some ⟨w7.heap.size, 0, none⟩, 1, [(k : Int)]⟩ : MV)] = m1 at *
      have hg64 : G.length ≤ 64 := by omega
      have h1m : (1 : Nat) ≤ maxLen := by decide
      have C27 := orphan_any hg64 hg0 h1m hm hfm
      have CM := fun (s : Int) (u : World) (hu : Below w8.heap.size w8 u) => moved_any (s := s) hg64 (hg0.to hu hu.size) h1m (hm.to hu hu.size)
      have CT := fun (s : Int) (u : World) (hu : Below w8.heap.size w8 u) => target_any (i := s) hg64 (hg0.to hu hu.size) h1m (hm.to hu hu.size) hfm
      rw [hglen] at C27
      simp only [hglen] at CM CT
      have LO : ∀ a' b' s', OrphanIs G m1 a' b' s' → a' = (a : Int) + 1 ∧ b' = k ∧ s' = true := fun a' b' s' h => h.uniq L1
      clear hg0 hm hLI hfm L1 hg64 hglen
      refine C27.mono ?_
      rintro e w9 ⟨a', b', s', rfl, ho, hbr⟩
      obtain ⟨rfl, rfl, rfl⟩ := LO _ _ _ ho
      clear C27 LO ho
      go_wp2_with fail
      refine (CM _ _ hbr).mono ?_
      rintro e w10 ⟨A10, c10, l10, rfl, hr10, hb10, rfl⟩
      replace hbr := hbr.trans (hb10.mono hbr.size)
      rw [L2]
      clear hb10 hr10 L2
      have hlv : ((k - 1 - a : Nat) : Int) = (k : Int) - 1 - a := by omega
      rw [show (k - 1 - a : Nat) = ((k : Int) - 1 - a).toNat by omega]
      have hlv2 : ((((k : Int) - 1 - a).toNat : Nat) : Int) = (k : Int) - 1 - a := by omega
      have H4 := Lib.hid L4
      have H5 := Lib.hid L5
      clear L4 L5 hlv
      go_wp2_with fail
      refine (pawake_any w10).mono ?_
      rintro e w11 ⟨rfl, hb11⟩
      replace hbr := hbr.trans (hb11.mono hbr.size)
      clear hb11
      go_wp2_with fail
      refine (CT _ _ hbr).mono ?_
      rintro e w12 ⟨t, rfl, ht, hb12⟩
      obtain rfl := H4.out t ht
      replace hbr := hbr.trans (hb12.mono hbr.size)
      clear hb12 ht
      go_wp2_with fail
      refine (CT _ _ hbr).mono ?_
      rintro e w13 ⟨t, rfl, ht, hb12⟩
      obtain rfl := H5.out t ht
      replace hbr := hbr.trans (hb12.mono hbr.size)
      clear hb12 ht
      go_wp2_with fail
      refine (CM _ _ hbr).mono ?_
      rintro e w14 ⟨A14, c14, l14, rfl, hr14, hb14, rfl⟩
      rw [L3]
      go_wp2
      go_ret
      exact ⟨rfl, step hbw (hbr.trans (hb14.mono hbr.size))⟩
end Go.Proofs.Ytnkboccngialiaa
