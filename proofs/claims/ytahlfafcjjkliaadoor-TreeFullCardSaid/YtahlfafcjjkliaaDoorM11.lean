/- Walk: the law TreeFull. -/
import Derived.Test.YtahlfafcjjkliaaDoorM10
import Derived.Test.YtahlfafcjjkliaaDoorM5
namespace Go.Proofs.YtahlfafcjjkliaaDoor
open Go.RowKit

theorem k6 (t : Int) : ∃ kk : Nat, wrap64 ((IntKind.u64.wrap t).tmod 6) = kk ∧ kk < 6 := by
  have h0 : 0 ≤ IntKind.u64.wrap t := by rw [IntKind.wrap_u64]; omega
  rw [Int.tmod_eq_emod_of_nonneg h0]
  generalize IntKind.u64.wrap t = u at *
  have : 0 ≤ u % 6 := Int.emod_nonneg _ (by omega)
  have h2 : u % 6 < 6 := Int.emod_lt_of_pos _ (by omega)
  generalize u % 6 = v at *
  refine ⟨v.toNat, ?_, by omega⟩
  unfold wrap64
  omega
set_option maxRecDepth 100000 in
theorem run_chgName (w : World) (p : ByteArray) : (Instr.build 45 #[(0, .string p)]).run Tryd.prog w = .ok (.agg #[.string p, .bool false, .bool false, .string ⟨#[]⟩]) w := by
  go_simp
def fullC (k : Nat) : List ChV := ((List.range k).map fullFile).map putC
theorem fullC_succ (k : Nat) : fullC (k + 1) = fullC k ++ [putC (fullFile k)] := by simp [fullC, List.range_succ]
theorem fullC_len (k : Nat) : (fullC k).length = k := by simp [fullC]
theorem fullC_fits {k : Nat} (hk : k ≤ 1000) : ∀ f ∈ fullC k, f.path.size ≤ 140737488351232 ∧ f.text.size ≤ 140737488351232 := by
  intro f hf
  obtain ⟨y, hy, rfl⟩ := List.mem_map.1 hf
  obtain ⟨i, hi, rfl⟩ := List.mem_map.1 hy
  have hi2 := List.mem_range.1 hi
  have := dec_len 4 i (by omega) (by omega)
  refine ⟨?_, Nat.zero_le _⟩
  show (⟨#[102]⟩ ++ dec i : ByteArray).size ≤ _
  rw [ByteArray.size_append]
  have h1 : (⟨#[102]⟩ : ByteArray).size = 1 := rfl
  omega

set_option maxRecDepth 100000 in
set_option maxHeartbeats 16000000 in
theorem treeFull_any {t : Int} {w : World} (hm : Lm w) : Calls Tryd.prog 7 #[.int .i64 t] w (BoolBelow true w) := by
  obtain ⟨kk, hkk, hk6⟩ := k6 t
  have hz := fun u p => run_chgName u p
  go_enter Tryd.func7, Tryd.ntmps7
  go_wp2
  try rw [hkk]
  clear hkk
  go_loopw [3, 4] (fun lv i wr => ∃ k : Nat, k ≤ 97 + kk ∧ i = .int .i64 k ∧ Below w.heap.size w wr ∧ wr.ownsRow w.heap.size 45 4 lv k ((fullC k).flatMap ChV.cells)) (fun _ i _ => 97 + kk - (intOf i).toNat)
  case atStart => exact ⟨0, by omega, rfl, Below.refl _ _, World.ownsRow_nil _ _ _ _⟩
  case round =>
    obtain ⟨k, hk, rfl, hb, ho⟩ := hrel
    by_cases hlt : k < 97 + kk
    · go_wp2_with fail
      refine (dig_any 3 k (by omega) (by omega) (by omega) wr).mono ?_
      rintro e v1 ⟨rfl, hv1⟩
      have hdl := dec_len 3 k (by omega) (by omega)
      have hb1 := hb.trans (hv1.mono hb.size)
      have ho1 := ho.kept (show wr.grownBy v1 none from ⟨hv1.os, hv1.tape, hv1.output, hv1.size, fun k hk _ => hv1.block k hk⟩) (by cases u3.ownBlock <;> simp)
      clear hv1 hb ho
      have hb2 := hb1.alloc hb1.size (.cells #[.string (⟨#[102]⟩ ++ dec k), .bool false, .bool false, .string ⟨#[]⟩] 45)
      have ho2 := ho1.alloc (.cells #[.string (⟨#[102]⟩ ++ dec k), .bool false, .bool false, .string ⟨#[]⟩] 45)
      clear hb1 ho1
      go_wp2_with (at_builtin; refine wpl_append rfl (.tmp 18) (.tmp 23) 40 rfl E_changes rfl rfl ho2 (rd_litC _ (putC (fullFile k))) (one_changes _) (by unfold maxLen; omega) (by omega) hb2.size ?_; intro v7 w7 ho7 hg7 hv7)
      go_roundw
      case rel => exact ⟨k + 1, by omega, by go_num, hb2.grown hg7 hb2.size (fun g hg => (ho2.lt g hg).1), by rw [fullC_succ, List.flatMap_append]; exact ho7⟩
      case measure => simp [intOf]; omega
    · obtain rfl : k = 97 + kk := by omega
      obtain ⟨A7, c7, rfl, hc7⟩ := ownsRow_cap ho
      have hr : RdC wr wr.heap.size A7 (97 + kk) c7 (fullC (97 + kk)) := ⟨Rd.of_own ho hc7, fullC_len _, fullC_fits (by omega)⟩
      have C := apply_any (by omega) (by omega) (hm.below hb hm.lt) (RdF.none_ _ _) hr
      clear ho hc7
      by_cases hbig : 100 < 97 + kk
      · rw [show applyF [] (fullC (97 + kk)) = ([], 6) from full_over hbig] at C
        go_wp2_with fail
        refine C.mono ?_
        rintro e v1 ⟨A1, c1, rfl, hr1, hv1⟩
        have hb1 := hb.trans (hv1.mono hb.size)
        clear C hr1 hv1 hr
        go_wp2_with fail
        refine (awake_any (hm.below hb1 hm.lt)).mono ?_
        rintro e v2 ⟨rfl, hv2⟩
        have hb2 := hb1.trans (hv2.mono hb1.size)
        clear hv2 hb hb1
        go_wp2
        go_ret
        exact ⟨ret_bool (by simp; omega), hb2⟩
      · obtain ⟨cur, hcl, hcur⟩ := full_apply (n := 97 + kk) (by omega)
        rw [show applyF [] (fullC (97 + kk)) = (cur, 0) from hcur] at C
        go_wp2_with fail
        refine C.mono ?_
        rintro e v1 ⟨A1, c1, rfl, hr1, hv1⟩
        have hb1 := hb.trans (hv1.mono hb.size)
        clear C hr1 hv1 hr hcur
        dsimp only
        rw [hcl]
        clear hcl
        go_wp2_with fail
        refine (awake_any (hm.below hb1 hm.lt)).mono ?_
        rintro e v2 ⟨rfl, hv2⟩
        have hb2 := hb1.trans (hv2.mono hb1.size)
        clear hv2 hb hb1
        go_wp2
        go_ret
        exact ⟨ret_bool (by simp), hb2⟩
end Go.Proofs.YtahlfafcjjkliaaDoor
