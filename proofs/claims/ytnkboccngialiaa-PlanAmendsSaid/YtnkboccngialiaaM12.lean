/- Walks: MarkerTells. -/
import Derived.Test.YtnkboccngialiaaM11
namespace Go.Proofs.Ytnkboccngialiaa
open Go.RowKit

set_option maxRecDepth 100000 in
set_option maxHeartbeats 8000000 in
theorem markerTells_any {A : Option Addr} {n c : Nat} {ms : List MV} {N i : Int} (w : World) (hn : n ≤ maxLen) (h : RdM w w.heap.size A n c ms) (hi : I64 i) :
    Calls Try.prog 3 #[.int .i64 N, .slice A n c, .int .i64 i] w (BoolBelow true w) := by
  have C1 := few_any hn h
  cases hf : fewM ms with
  | false =>
    rw [hf] at C1
    go_enter Try.func3, Try.ntmps3
    go_wp2_with fail
    refine C1.mono ?_
    rintro e w1 ⟨rfl, hb1⟩
    go_wp2_with fail
    refine (awake_any w1).mono ?_
    rintro e w2 ⟨rfl, hb2⟩
    go_wp2
    go_ret
    exact ⟨rfl, hb1.trans (hb2.mono hb1.size)⟩
  | true =>
    rw [hf] at C1
    go_enter Try.func3, Try.ntmps3
    go_wp2_with fail
    refine C1.mono ?_
    rintro e w1 ⟨rfl, hb⟩
    have step : ∀ {u v : World}, Below w.heap.size w u → Below u.heap.size u v → Below w.heap.size w v := fun a b => a.trans (b.mono a.size)
    clear C1
    go_wp2_with fail
    refine (awake_any w1).mono ?_
    rintro e w2 ⟨rfl, hb2⟩
    replace hb := step hb hb2
    clear hb2
    go_wp2_with fail
    refine (right_any (N := N) hn (h.to hb hb.size)).mono ?_
    rintro e w3 ⟨rfl, hb3⟩
    replace hb := step hb hb3
    clear hb3
    go_wp2_with fail
    refine (rright_any (N := N) hn (h.to hb hb.size)).mono ?_
    rintro e w4 ⟨rfl, hb4⟩
    replace hb := step hb hb4
    clear hb4
    generalize rightM N ms = b1
    cases b1
    all_goals
      go_wp2_with fail
      refine (obsolete_any (x := i) hn (h.to hb hb.size)).mono ?_
      rintro e w5 ⟨rfl, hb5⟩
      replace hb := step hb hb5
      clear hb5
      go_wp2_with fail
      refine (robs_any (x := i) hn (h.to hb hb.size)).mono ?_
      rintro e w6 ⟨rfl, hb6⟩
      replace hb := step hb hb6
      clear hb6
      generalize obs ms i = b2
      cases b2
    all_goals
      go_wp2_with fail
      refine (next_any (x := i) hn (h.to hb hb.size) hf).mono ?_
      rintro e w7 ⟨A7, c7, l7, rfl, hr7, hb7, hn7, hl7⟩
      replace hb := step hb hb7
      clear hb7
      go_wp2_with fail
      refine (rnext_any (x := i) hn (h.to hb hb.size) hf).mono ?_
      rintro e w8 ⟨A8, c8, l8, rfl, hr8, hb8, ⟨hn8, hl8⟩, _⟩
      replace hb := step hb hb8
      obtain rfl := hn7.uniq hn8
      go_wp2_with fail
      have C := plainI_any (xs := l7) (ys := l7) (by unfold maxLen; omega) (by unfold maxLen; omega) (Nat.le_refl _) (hr7.to hb8 hb8.size) hr8
      rw [decide_eq_true rfl] at C
      refine C.mono ?_
      rintro e w9 ⟨rfl, hb9⟩
      replace hb := step hb hb9
      clear hb8 hb9 C hr7 hr8
      go_wp2_with fail
      refine (final_any (i := i) hn (h.to hb hb.size) hf hi).mono ?_
      rintro e w10 ⟨A10, c10, l10, rfl, hr10, hb10, hf10⟩
      replace hb := step hb hb10
      clear hb10
      go_wp2_with fail
      refine (rfinal_any (i := i) hn (h.to hb hb.size) hf).mono ?_
      rintro e w11 ⟨A11, c11, l11, rfl, hr11, hb11, hf11⟩
      replace hb := step hb hb11
      obtain rfl := hf10.uniq hf11
      go_wp2_with fail
      have hl10 : l10.length ≤ 481 := by
        refine Nat.le_trans (nodup_le (u := univ ms i) (sorted_nodup hf10.sorted) fun x hx => ?_) (univ_le hf)
        rcases ((hf10.mem x).1 hx).1 with _ | ⟨_, h2, _⟩
        · simp [univ]
        · exact nexts_univ h2
      have C := plainI_any (xs := l10) (ys := l10) (by unfold maxLen; omega) (by unfold maxLen; omega) (Nat.le_refl _) (hr10.to hb11 hb11.size) hr11
      rw [decide_eq_true rfl] at C
      refine C.mono ?_
      rintro e w12 ⟨rfl, hb12⟩
      replace hb := step hb hb12
      go_wp2
      go_ret
      exact ⟨rfl, hb⟩
end Go.Proofs.Ytnkboccngialiaa
