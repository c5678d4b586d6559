/- Walks: PlanTells. -/
import Derived.Test.YtnkboccngialiaaP9
namespace Go.Proofs.Ytnkboccngialiaa
open Go.RowKit

theorem rd_front {w : World} {B g n k : Nat} {xs ys : List Value} (h : Rd w B 1 (some ⟨g, 0, none⟩) (n + k) (n + k) (xs ++ ys)) (hx : xs.length = n) : Rd w B 1 (some ⟨g, 0, none⟩) n (n + k) xs :=
  ⟨by omega, by omega, fun h0 => by
    obtain ⟨b, o, e, hb, hc⟩ := h.at_ (by omega)
    refine ⟨b, o, e, hb, fun j u hu => hc j u ?_⟩
    rw [List.getElem?_append_left (List.getElem?_eq_some_iff.1 hu).1]
    exact hu⟩

set_option maxRecDepth 100000 in
set_option maxHeartbeats 8000000 in
theorem planTells_any {A A2 : Option Addr} {n c m c2 : Nat} {l : List Int} {ms : List MV} {i : Int} {raw : Bool} (w : World) (hn : n ≤ maxLen) (h : Rd w w.heap.size 1 A n c (l.map (.int .i64))) (hm : m ≤ maxLen) (h2 : RdM w w.heap.size A2 m c2 ms) :
    Calls Try.prog 6 #[.slice A n c, .slice A2 m c2, .int .i64 i, .bool raw] w (BoolBelow true w) := by
  have hln : n = l.length := by have := h.len; simpa using this.symm
  subst hln
  unfold maxLen at hn
  have step : ∀ {u v : World}, Below w.heap.size w u → Below u.heap.size u v → Below w.heap.size w v := fun a b => a.trans (b.mono a.size)
  by_cases hbig : 40 < l.length
  · go_enter Try.func6, Try.ntmps6
    go_wp2_with fail
    refine (pawake_any w).mono ?_
    rintro e w2 ⟨rfl, hb2⟩
    go_wp2
    go_ret
    exact ⟨rfl, hb2⟩
  · have C1 := pfew_any hm h2
    cases hf : fewM ms with
    | false =>
      rw [hf] at C1
      go_enter Try.func6, Try.ntmps6
      go_wp2_with fail
      refine C1.mono ?_
      rintro e w1 ⟨rfl, hb1⟩
      go_wp2_with fail
      refine (pawake_any w1).mono ?_
      rintro e w2 ⟨rfl, hb2⟩
      go_wp2
      go_ret
      exact ⟨rfl, step hb1 hb2⟩
    | true =>
      rw [hf] at C1
      cases raw with
      | true =>
        go_enter Try.func6, Try.ntmps6
        go_wp2_with fail
        refine C1.mono ?_
        rintro e w1 ⟨rfl, hb⟩
        have hl := h.to hb hb.size
        have hM := h2.to hb hb.size
        have hl40 : l.length ≤ 40 := by omega
        clear C1 h h2
        go_wp2_with fail
        refine (ownI_any (x := 71) (by omega) hl).mono ?_
        rintro e w2 ⟨g, rfl, hin, hb2⟩
        replace hb := step hb hb2
        replace hl := hl.to hb2 hb2.size
        replace hM := hM.to hb2 hb2.size
        have hI := Rd.of_own hin (Nat.le_refl _)
        clear hin hb2
        have hIf := rd_front (k := 3) hI (by simp)
        go_wp2_with fail
        refine (orphan_any (by omega) hIf hm hM hf).mono ?_
        rintro e w3 ⟨a, b, s, rfl, ho, hb3⟩
        replace hb := step hb hb3
        replace hl := hl.to hb3 hb3.size
        replace hM := hM.to hb3 hb3.size
        replace hI := hI.to hb3 hb3.size
        clear hb3 hIf
        go_wp2_with fail
        refine (rorphan_any (by omega) hl hm hM hf).mono ?_
        rintro e w4 ⟨a', b', s', rfl, ho', hb3⟩
        obtain ⟨rfl, rfl, rfl⟩ := ho.uniq ho'
        replace hb := step hb hb3
        replace hl := hl.to hb3 hb3.size
        replace hM := hM.to hb3 hb3.size
        replace hI := hI.to hb3 hb3.size
        clear hb3 ho ho'
        go_wp2_with fail
        refine (pawake_any w4).mono ?_
        rintro e w5 ⟨rfl, hb3⟩
        replace hb := step hb hb3
        replace hl := hl.to hb3 hb3.size
        replace hM := hM.to hb3 hb3.size
        replace hI := hI.to hb3 hb3.size
        have hIf := rd_front (k := 3) hI (by simp)
        clear hb3
        go_wp2_with fail
        refine (moved_any (s := i) (by omega) hIf hm hM).mono ?_
        rintro e w6 ⟨A6, c6, l6, rfl, hr6, hb3, rfl⟩
        replace hb := step hb hb3
        replace hl := hl.to hb3 hb3.size
        replace hM := hM.to hb3 hb3.size
        replace hI := hI.to hb3 hb3.size
        clear hb3 hIf
        go_wp2_with fail
        refine (rmoved_any (s := i) (by omega) hl hm hM).mono ?_
        rintro e w7 ⟨A7, c7, l7, rfl, hr7, hb3, rfl⟩
        replace hb := step hb hb3
        replace hl := hl.to hb3 hb3.size
        replace hM := hM.to hb3 hb3.size
        replace hI := hI.to hb3 hb3.size
        replace hr6 := hr6.to hb3 hb3.size
        clear hb3
        have hml : (moved l ms i).length ≤ maxLen := by
          refine Nat.le_trans (nodup_le (u := (List.range l.length).map Int.ofNat) (sorted_nodup (moved_sorted l ms i)) fun x hx => ?_) (by simp [maxLen]; omega)
          have := mem_moved.1 hx
          exact List.mem_map.2 ⟨x.toNat, List.mem_range.2 (by omega), by simp; omega⟩
        have C := plainI_any (xs := moved l ms i) (ys := moved l ms i) hml hml (Nat.le_refl _) hr6 hr7
        rw [decide_eq_true rfl] at C
        generalize moved l ms i = mvv at *
        go_wp2_with fail
        refine C.mono ?_
        rintro e w8 ⟨rfl, hb3⟩
        replace hb := step hb hb3
        replace hl := hl.to hb3 hb3.size
        replace hM := hM.to hb3 hb3.size
        replace hI := hI.to hb3 hb3.size
        have hIf := rd_front (k := 3) hI (by simp)
        clear hb3 C hr6 hr7
        go_wp2_with fail
        refine (target_any (i := i) (by omega) hIf hm hM hf).mono ?_
        rintro e w9 ⟨t, rfl, ht, hb3⟩
        replace hb := step hb hb3
        replace hl := hl.to hb3 hb3.size
        replace hM := hM.to hb3 hb3.size
        replace hI := hI.to hb3 hb3.size
        clear hb3 hIf
        go_wp2_with fail
        refine (rtarget_any (i := i) (by omega) hl hm hM hf).mono ?_
        rintro e w10 ⟨t', rfl, ht', hb3⟩
        obtain rfl := ht.uniq ht'
        replace hb := step hb hb3
        replace hl := hl.to hb3 hb3.size
        replace hI := hI.to hb3 hb3.size
        clear hb3 ht ht'
        have CK := keptI_any (x := 71) (n := l.length) (by omega) (Nat.le_refl _) hI hl
        go_wp2_with fail
        refine CK.mono ?_
        rintro e w11 ⟨rfl, hb3⟩
        go_wp2
        go_ret
        exact ⟨rfl, step hb hb3⟩
      | false =>
        go_enter Try.func6, Try.ntmps6
        go_wp2_with fail
        refine C1.mono ?_
        rintro e w1 ⟨rfl, hb⟩
        go_wp2_with fail
        refine (parents_any (M := 40) (by unfold maxLen; omega) (h.to hb hb.size) (by omega)).mono ?_
        rintro e w0 ⟨A', c', l', rfl, hl, hb0, hp⟩
        replace hb := step hb hb0
        obtain ⟨hrp, hl40⟩ := hp
        go_wp2_with fail
        refine (markers_any (N := l'.length) hm (h2.to hb hb.size) (by omega)).mono ?_
        rintro e w00 ⟨A2', c2', ms', rfl, hM, hpl, hb0⟩
        replace hb := step hb hb0
        replace hl := hl.to hb0 hb0.size
        replace hf := hpl.few
        replace hm : ms'.length ≤ maxLen := by have := hpl.len; unfold maxLen; omega
        clear hb0 C1 h h2 hrp hpl
        go_wp2_with fail
        refine (ownI_any (x := 71) (by omega) hl).mono ?_
        rintro e w2 ⟨g, rfl, hin, hb2⟩
        replace hb := step hb hb2
        replace hl := hl.to hb2 hb2.size
        replace hM := hM.to hb2 hb2.size
        have hI := Rd.of_own hin (Nat.le_refl _)
        clear hin hb2
        have hIf := rd_front (k := 3) hI (by simp)
        go_wp2_with fail
        refine (orphan_any (by omega) hIf hm hM hf).mono ?_
        rintro e w3 ⟨a, b, s, rfl, ho, hb3⟩
        replace hb := step hb hb3
        replace hl := hl.to hb3 hb3.size
        replace hM := hM.to hb3 hb3.size
        replace hI := hI.to hb3 hb3.size
        clear hb3 hIf
        go_wp2_with fail
        refine (rorphan_any (by omega) hl hm hM hf).mono ?_
        rintro e w4 ⟨a', b', s', rfl, ho', hb3⟩
        obtain ⟨rfl, rfl, rfl⟩ := ho.uniq ho'
        replace hb := step hb hb3
        replace hl := hl.to hb3 hb3.size
        replace hM := hM.to hb3 hb3.size
        replace hI := hI.to hb3 hb3.size
        clear hb3 ho ho'
        go_wp2_with fail
        refine (pawake_any w4).mono ?_
        rintro e w5 ⟨rfl, hb3⟩
        replace hb := step hb hb3
        replace hl := hl.to hb3 hb3.size
        replace hM := hM.to hb3 hb3.size
        replace hI := hI.to hb3 hb3.size
        have hIf := rd_front (k := 3) hI (by simp)
        clear hb3
        go_wp2_with fail
        refine (moved_any (s := i) (by omega) hIf hm hM).mono ?_
        rintro e w6 ⟨A6, c6, l6, rfl, hr6, hb3, rfl⟩
        replace hb := step hb hb3
        replace hl := hl.to hb3 hb3.size
        replace hM := hM.to hb3 hb3.size
        replace hI := hI.to hb3 hb3.size
        clear hb3 hIf
        go_wp2_with fail
        refine (rmoved_any (s := i) (by omega) hl hm hM).mono ?_
        rintro e w7 ⟨A7, c7, l7, rfl, hr7, hb3, rfl⟩
        replace hb := step hb hb3
        replace hl := hl.to hb3 hb3.size
        replace hM := hM.to hb3 hb3.size
        replace hI := hI.to hb3 hb3.size
        replace hr6 := hr6.to hb3 hb3.size
        clear hb3
        have hml : (moved l' ms' i).length ≤ maxLen := by
          refine Nat.le_trans (nodup_le (u := (List.range l'.length).map Int.ofNat) (sorted_nodup (moved_sorted l' ms' i)) fun x hx => ?_) (by simp [maxLen]; omega)
          have := mem_moved.1 hx
          exact List.mem_map.2 ⟨x.toNat, List.mem_range.2 (by omega), by simp; omega⟩
        have C := plainI_any (xs := moved l' ms' i) (ys := moved l' ms' i) hml hml (Nat.le_refl _) hr6 hr7
        rw [decide_eq_true rfl] at C
        generalize moved l' ms' i = mvv at *
        go_wp2_with fail
        refine C.mono ?_
        rintro e w8 ⟨rfl, hb3⟩
        replace hb := step hb hb3
        replace hl := hl.to hb3 hb3.size
        replace hM := hM.to hb3 hb3.size
        replace hI := hI.to hb3 hb3.size
        have hIf := rd_front (k := 3) hI (by simp)
        clear hb3 C hr6 hr7
        go_wp2_with fail
        refine (target_any (i := i) (by omega) hIf hm hM hf).mono ?_
        rintro e w9 ⟨t, rfl, ht, hb3⟩
        replace hb := step hb hb3
        replace hl := hl.to hb3 hb3.size
        replace hM := hM.to hb3 hb3.size
        replace hI := hI.to hb3 hb3.size
        clear hb3 hIf
        go_wp2_with fail
        refine (rtarget_any (i := i) (by omega) hl hm hM hf).mono ?_
        rintro e w10 ⟨t', rfl, ht', hb3⟩
        obtain rfl := ht.uniq ht'
        replace hb := step hb hb3
        replace hl := hl.to hb3 hb3.size
        replace hI := hI.to hb3 hb3.size
        clear hb3 ht ht'
        have CK := keptI_any (x := 71) (n := l'.length) (by omega) (Nat.le_refl _) hI hl
        go_wp2_with fail
        refine CK.mono ?_
        rintro e w11 ⟨rfl, hb3⟩
        go_wp2
        go_ret
        exact ⟨rfl, step hb hb3⟩
end Go.Proofs.Ytnkboccngialiaa
