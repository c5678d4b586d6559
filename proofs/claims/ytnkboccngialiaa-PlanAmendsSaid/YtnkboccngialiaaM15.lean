/- Walks: MarkerChain. -/
import Derived.Test.YtnkboccngialiaaM14
namespace Go.Proofs.Ytnkboccngialiaa
open Go.RowKit

theorem mod20 (t : Int) : ∃ k : Nat, wrap64 ((IntKind.u64.wrap t).tmod 20) = k ∧ k < 20 := mod_at t (N := 20) (by omega) (by omega)
theorem one_all (ms : List MV) : ∀ u ∈ ms.flatMap MV.cells, u.oneCell' = true := by
  intro u hu
  obtain ⟨m, _, h⟩ := List.mem_flatMap.1 hu
  exact one_cells m u h
theorem rd_mk2 (w : World) (m : MV) {g : Nat} (hg : g = w.heap.size) : Rd (w.alloc (.cells #[.int .i64 m.old, .slice m.A m.new.length m.c] 35)) (w.alloc (.cells #[.int .i64 m.old, .slice m.A m.new.length m.c] 35)).heap.size 2 (some ⟨g, 0, none⟩) 1 1 m.cells := by
  subst hg; exact rd_mk1 w m
/-- A chain so far. -/
structure Chn (w wr : World) (ov : Value) (ms : List MV) (k : Nat) : Prop where
  below : Below w.heap.size w wr
  row : wr.ownsRow w.heap.size 35 2 ov ms.length (ms.flatMap MV.cells)
  chain : ChainIs (k + 1) ms
  part : ∀ m ∈ ms, Apart ov m.new wr (.slice m.A m.new.length m.c)
theorem Chn.to {w wr wr' : World} {k : Nat} {ov : Value} {ms : List MV} (h : Chn w wr ov ms k) (hb : Below wr.heap.size wr wr') : Chn w wr' ov ms k :=
  ⟨h.below.trans (hb.mono h.below.size), h.row.kept (grown_none hb (Nat.le_refl _)) (by cases ov.ownBlock <;> simp), h.chain, fun m hm => (h.part m hm).to hb⟩
theorem ChainIs.mem {n : Nat} {ms : List MV} (h : ChainIs n ms) {m : MV} (hm : m ∈ ms) : ∃ k : Nat, k < ms.length ∧ m.old = k ∧ m.new = [(k : Int) + 1] := by
  obtain ⟨k, hk, rfl⟩ := List.getElem_of_mem hm
  exact ⟨k, hk, h.at_ k _ (List.getElem?_eq_getElem hk)⟩
theorem Chn.rdm {w wr : World} {k : Nat} {ov : Value} {ms : List MV} (h : Chn w wr ov ms k) (hk : k ≤ 1000) : ∃ A c, ov = .slice A ms.length c ∧ RdM wr wr.heap.size A ms.length c ms := by
  obtain ⟨A, c, rfl, hc⟩ := ownsRow_cap h.row
  refine ⟨A, c, rfl, Rd.of_own h.row hc, rfl, fun m hm => ?_⟩
  obtain ⟨A1, c1, e, hr, _⟩ := h.part m hm
  cases e
  have hl := h.chain.len
  obtain ⟨j, hj, h1, h2⟩ := h.chain.mem hm
  exact ⟨hr, by rw [h2]; simp, by unfold I64; omega, fun x hx => by rw [h2, List.mem_singleton] at hx; unfold I64; omega⟩
theorem chain_few {n : Nat} {ms : List MV} (h : ChainIs n ms) (hn : n ≤ 39) : fewM ms = true := by
  simp only [fewM, Bool.and_eq_true, List.all_eq_true, decide_eq_true_eq]
  exact ⟨fun m hm => by obtain ⟨k, _, _, h2⟩ := h.mem hm; rw [h2]; simp, by have := h.len; omega⟩
theorem chain_snoc {k : Nat} {ms : List MV} (h : ChainIs (k + 1) ms) {m : MV} (h1 : m.old = k) (h2 : m.new = [(k : Int) + 1]) : ChainIs (k + 1 + 1) (ms ++ [m]) := by
  have hl := h.len
  refine ⟨by simp; omega, fun j x hx => ?_⟩
  rcases Nat.lt_or_ge j ms.length with hj | hj
  · rw [List.getElem?_append_left hj] at hx; exact h.at_ j x hx
  · have hlt := (List.getElem?_eq_some_iff.1 hx).1
    rw [List.length_append, List.length_singleton] at hlt
    obtain rfl : j = ms.length := by omega
    rw [List.getElem?_append_right (Nat.le_refl _), Nat.sub_self] at hx
    obtain rfl := Option.some.inj hx
    have e : ms.length = k := by omega
    rw [e]; exact ⟨h1, h2⟩

set_option maxRecDepth 100000 in
set_option maxHeartbeats 8000000 in
theorem markerChain_any {n0 a0 : Int} (w : World) : Calls Try.prog 5 #[.int .i64 n0, .int .i64 a0] w (BoolBelow true w) := by
  have step : ∀ {u v : World}, Below w.heap.size w u → Below u.heap.size u v → Below w.heap.size w v := fun a b => a.trans (b.mono a.size)
  obtain ⟨kn, hkn, hkn20⟩ := mod20 n0
  obtain ⟨N, hN1, hN0, hN30⟩ : ∃ N : Nat, (2 : Int) + kn = (N : Int) ∧ 2 ≤ N ∧ N ≤ 22 := ⟨kn + 2, by omega, by omega, by omega⟩
  have hw64 := u64_nat (N := N) (by omega)
  obtain ⟨at_, hat, hatN⟩ := mod_at a0 (N := N) (by omega) (by omega)
  have hNz : ¬ (N : Int) = 0 := by omega
  go_enter Try.func5, Try.ntmps5
  go_wp2
  try rw [hN1]
  try rw [hat]
  clear hN1 hkn hat
  go_loopw [5, 6] (fun lv iv wr => ∃ (k : Nat) (ms : List MV), k ≤ N - 1 ∧ iv = .int .i64 k ∧ Chn w wr lv ms k) (fun _ iv _ => N - 1 - (intOf iv).toNat)
  case atStart => exact ⟨0, [], Nat.zero_le _, rfl, Below.refl _ _, World.ownsRow_nil _ _ _ _, ⟨rfl, by simp⟩, by simp⟩
  case round =>
    obtain ⟨k, ms, hk, rfl, hc⟩ := hrel
    have hml := hc.chain.len
    by_cases hlt : k < N - 1
    · have hlt2 : (k : Int) < N - 1 := by omega
      have hb1 := (Below.refl wr.heap.size wr).alloc (Nat.le_refl _) (.cells #[.int .i64 ((k : Int) + 1)] 3)
      have hc1 := hc.to hb1
      have hap := (show Apart u5 [(k : Int) + 1] (wr.alloc (.cells #[.int .i64 ((k : Int) + 1)] 3)) (.slice (some ⟨wr.heap.size, 0, none⟩) 1 1) from ⟨_, _, rfl, rd_lit1 wr _, fun _ a ha e => by cases ha; have := (hc.row.lt _ e.symm).2; simp at this⟩)
      have hb2 := (Below.refl (wr.alloc (.cells #[.int .i64 ((k : Int) + 1)] 3)).heap.size (wr.alloc (.cells #[.int .i64 ((k : Int) + 1)] 3))).alloc (Nat.le_refl _) (.cells #[.int .i64 (k : Int), .slice (some ⟨wr.heap.size, 0, none⟩) 1 1] 35)
      have hc2 := hc1.to hb2
      have hap2 := hap.to hb2
      go_wp2_with (at_builtin; refine wpl_append rfl (.tmp 26) (.tmp 32) 22 rfl E22 rfl rfl hc2.row (rd_mk2 (wr.alloc (.cells #[.int .i64 ((k : Int) + 1)] 3)) ⟨(k : Int), some ⟨wr.heap.size, 0, none⟩, 1, [(k : Int) + 1]⟩ (g := wr.heap.size + 1) (by simp)) (one_cells ⟨(k : Int), some ⟨wr.heap.size, 0, none⟩, 1, [(k : Int) + 1]⟩) (by unfold maxLen; omega) (by omega) hc2.below.size ?_; intro v7 w7 ho7 hg7 hv7)
      go_roundw
      case rel =>
        have hv7' := hv7.imp id fun e => (⟨_, e, Nat.le_refl _⟩ : ∃ k, v7.ownBlock = some k ∧ _ ≤ k)
        refine ⟨k + 1, ms ++ [⟨(k : Int), some ⟨wr.heap.size, 0, none⟩, 1, [(k : Int) + 1]⟩], by omega, by go_num, hc2.below.grown hg7 hc2.below.size (fun g hg => (hc2.row.lt g hg).1), ?_, chain_snoc hc.chain rfl rfl, fun m hm => ?_⟩
        · rw [List.length_append, List.flatMap_append]
          simpa using ho7
        · rw [List.mem_append, List.mem_singleton] at hm
          rcases hm with hm | rfl
          · exact (hc2.part m hm).grown hg7 hv7'
          · exact hap2.grown hg7 hv7'
      case measure => simp [intOf]; omega
    · have hkn : k = N - 1 := by omega
      have hlt2 : ¬ (k : Int) < N - 1 := by omega
      obtain ⟨A5, c5, rfl, hm⟩ := hc.rdm (by omega)
      have hch := hc.chain
      rw [show k + 1 = N by omega] at hch
      have hb := hc.below
      clear hc
      have hmn : ms.length ≤ maxLen := by unfold maxLen; omega
      have hml2 : ms.length ≤ 22 := by omega
      clear hml hkn hk hlt
      obtain ⟨wo, hwo⟩ : ∃ x, x = wr := ⟨_, rfl⟩
      subst hwo
      go_wp2_with (first
        | (at_builtin; refine wpl_append rfl (.const (.slice none 0 0)) (.tmp 34) 22 rfl E22 (base := wo.heap.size) (n := 0) (xs := []) rfl rfl (World.ownsRow_nil _ _ _ _) hm.row (one_all ms) (by unfold maxLen; omega) (by omega) (Nat.le_refl _) ?_; intro v1 w1 ho1 hg1 hv1; rw [Nat.zero_add, List.nil_append] at ho1; have hb1 := grown_b hg1; have hr2 := rd_cells (w := w1.alloc (.cells #[.int .i64 (N : Int), .int .i64 ((N : Int) + 1)] 3)) (sz := 1) (n := 2) (heap_alloc_new w1 (.cells #[.int .i64 (N : Int), .int .i64 ((N : Int) + 1)] 3)) rfl rfl; have hb2 := hb1.alloc hb1.size (.cells #[.int .i64 (N : Int), .int .i64 ((N : Int) + 1)] 3); have ho2 := ho1.alloc (.cells #[.int .i64 (N : Int), .int .i64 ((N : Int) + 1)] 3); have ho3 := ho2.alloc (.cells #[.int .i64 ((N : Int) - 1), .slice (some ⟨w1.heap.size, 0, none⟩) 2 2] 35); have hb3 := hb2.alloc hb2.size (.cells #[.int .i64 ((N : Int) - 1), .slice (some ⟨w1.heap.size, 0, none⟩) 2 2] 35))
        | (at_builtin; refine wpl_append rfl (.tmp 35) (.tmp 43) 22 rfl E22 rfl rfl ho3 (rd_mk2 (w1.alloc (.cells #[.int .i64 (N : Int), .int .i64 ((N : Int) + 1)] 3)) ⟨(N : Int) - 1, some ⟨w1.heap.size, 0, none⟩, 2, [(N : Int), (N : Int) + 1]⟩ (g := w1.heap.size + 1) (by simp)) (one_cells ⟨(N : Int) - 1, some ⟨w1.heap.size, 0, none⟩, 2, [(N : Int), (N : Int) + 1]⟩) (by unfold maxLen; omega) (by omega) hb3.size ?_; intro v4 w4 ho4 hg4 hv4; have hg4' : World.grownBy _ w4 v1.ownBlock := hg4; have hb4 := hb3.grown hg4 hb3.size (fun g hg => (ho3.lt g hg).1); have hm4 := hm.to hb4 hb4.size)
        | (at_builtin; refine wpl_append rfl (.const (.slice none 0 0)) (.tmp 45) 22 rfl E22 (base := w4.heap.size) (n := 0) (xs := []) rfl rfl (World.ownsRow_nil _ _ _ _) hm4.row (one_all ms) (by unfold maxLen; omega) (by omega) (Nat.le_refl _) ?_; intro v5 w5 ho5 hg5 hv5; rw [Nat.zero_add, List.nil_append] at ho5; have hb5 := grown_b hg5; have ho6 := ho5.alloc (.cells #[.int .i64 ((N : Int) - 1), .slice none 0 0] 35); have hb6 := hb5.alloc hb5.size (.cells #[.int .i64 ((N : Int) - 1), .slice none 0 0] 35))
        | (at_builtin; refine wpl_append rfl (.tmp 46) (.tmp 50) 22 rfl E22 rfl rfl ho6 (rd_mk2 w5 ⟨(N : Int) - 1, none, 0, []⟩ (g := w5.heap.size) rfl) (one_cells ⟨(N : Int) - 1, none, 0, []⟩) (by unfold maxLen; omega) (by omega) hb6.size ?_; intro v7 w7 ho7 hg7 hv7))
      have hb7 := hb6.grown hg7 hb6.size (fun g hg => (ho6.lt g hg).1)
      have hr2' : Rd w7 w7.heap.size 1 (some ⟨w1.heap.size, 0, none⟩) 2 2 ([(N : Int), (N : Int) + 1].map (.int .i64)) := by
        have h3 := (Below.refl _ (w1.alloc (.cells #[.int .i64 (N : Int), .int .i64 ((N : Int) + 1)] 3))).alloc (Nat.le_refl _) (.cells #[.int .i64 ((N : Int) - 1), .slice (some ⟨w1.heap.size, 0, none⟩) 2 2] 35)
        have h4 := hr2.to h3 h3.size
        have h5 := h4.keepA (w' := w4) (fun _ a ha => by
          cases ha
          exact hg4'.block w1.heap.size (by simp; omega) (fun e => by have := (ho1.lt _ e.symm).2; omega))
        exact (h5.more hg4'.size).to hb7 hb7.size
      have hbA := hb4.trans (hb7.mono hb4.size)
      have hmA := hm.to hbA hbA.size
      have ho4' := ho4.kept (grown_none hb7 (Nat.le_refl _)) (by cases v4.ownBlock <;> simp)
      have hbw := step hb hbA
      obtain ⟨mB, hmB⟩ : ∃ m : MV, m = ⟨(N : Int) - 1, some ⟨w1.heap.size, 0, none⟩, 2, [(N : Int), (N : Int) + 1]⟩ := ⟨_, rfl⟩
      obtain ⟨mZ, hmZ⟩ : ∃ m : MV, m = ⟨(N : Int) - 1, none, 0, []⟩ := ⟨_, rfl⟩
      have hB : ∃ A c, v4 = .slice A (ms ++ [mB]).length c ∧ RdM w7 w7.heap.size A (ms ++ [mB]).length c (ms ++ [mB]) := by
        obtain ⟨A, c, rfl, hc⟩ := ownsRow_cap ho4'
        refine ⟨A, c, by simp, ?_, rfl, fun m hm' => ?_⟩
        · have := Rd.of_own ho4' hc
          rw [List.flatMap_append, List.length_append]
          subst hmB
          simpa using this
        · rw [List.mem_append, List.mem_singleton] at hm'
          rcases hm' with hm' | rfl
          · exact hmA.parts m hm'
          · subst hmB
            exact ⟨hr2', by simp, by unfold I64; simp only; omega, fun x hx => by unfold I64; simp at hx; omega⟩
      have hZ : ∃ A c, v7 = .slice A (ms ++ [mZ]).length c ∧ RdM w7 w7.heap.size A (ms ++ [mZ]).length c (ms ++ [mZ]) := by
        obtain ⟨A, c, rfl, hc⟩ := ownsRow_cap ho7
        refine ⟨A, c, by simp, ?_, rfl, fun m hm' => ?_⟩
        · have := Rd.of_own ho7 hc
          rw [List.flatMap_append, List.length_append]
          subst hmZ
          simpa using this
        · rw [List.mem_append, List.mem_singleton] at hm'
          rcases hm' with hm' | rfl
          · exact hmA.parts m hm'
          · subst hmZ
            exact ⟨Rd.none_ _ _ _, by simp, by unfold I64; simp only; omega, fun x hx => by simp at hx⟩
      have fewA := chain_few hch (by omega)
      have fewB : fewM (ms ++ [mB]) = true := by
        obtain ⟨f1, f2⟩ := few_iff fewA
        subst hmB
        simp only [fewM, Bool.and_eq_true, List.all_eq_true, decide_eq_true_eq, List.mem_append, List.mem_singleton, List.length_append, List.length_singleton]
        exact ⟨fun m hm' => hm'.elim (f1 m) (fun e => by rw [e]; simp), by omega⟩
      have fewZ : fewM (ms ++ [mZ]) = true := by
        obtain ⟨f1, f2⟩ := few_iff fewA
        subst hmZ
        simp only [fewM, Bool.and_eq_true, List.all_eq_true, decide_eq_true_eq, List.mem_append, List.mem_singleton, List.length_append, List.length_singleton]
        exact ⟨fun m hm' => hm'.elim (f1 m) (fun e => by rw [e]; simp), by omega⟩
      have R1 := chain_right hch (N := (N : Int)) (Int.le_refl _)
      have R2 : rightM N (ms ++ [mB]) = false := by rw [rightM_snoc, hmB]; simp [okM]
      have R3 : rightM ((N : Int) + 2) (ms ++ [mB]) = true := by
        rw [rightM_snoc, chain_right hch (N := (N : Int) + 2) (by omega), hmB]
        simp [okM]; omega
      have fA : ∀ {l}, FinalIs ms at_ l → l = [(N : Int) - 1] := fun hf => chain_final hch (by omega) (by omega) hf
      have fB : ∀ {l}, FinalIs (ms ++ [mB]) at_ l → l = [(N : Int), N + 1] := fun hf => chain_both hch (by rw [hmB]) (by rw [hmB]) (by omega) (by omega) hf
      have fZ : ∀ {l}, FinalIs (ms ++ [mZ]) at_ l → l = [] := fun hf => chain_none hch (by rw [hmZ]) (by rw [hmZ]) (by omega) (by omega) hf
      have oA := chain_obs hch
      have hI : I64 (at_ : Int) := by unfold I64; omega
      obtain ⟨AB, cB, rfl, hmBB⟩ := hB
      obtain ⟨AZ, cZ, rfl, hmZZ⟩ := hZ
      have hbl : (ms ++ [mB]).length ≤ maxLen := by simp [maxLen]; omega
      have hzl : (ms ++ [mZ]).length ≤ maxLen := by simp [maxLen]; omega
      clear hr2' ho4' hbA hm hb hmB hmZ hb7 hb4 ho4 ho7 hm4 hr2 ho1 ho2 ho3 ho5 ho6 hb1 hb2 hb3 hb5 hb6 hg1 hg4 hg4' hg5 hg7 hv1 hv4 hv5 hv7 hch
      generalize (ms ++ [mB]) = mbs at *
      generalize (ms ++ [mZ]) = mzs at *
      refine (awake_any w7).mono ?_
      rintro e w8 ⟨rfl, hb8⟩
      have C1 := right_any (N := (N : Int)) hmn (hmA.to hb8 hb8.size)
      rw [R1] at C1
      go_wp2_with fail
      refine C1.mono ?_
      rintro e w9 ⟨rfl, hb9⟩
      replace hb8 := hb8.trans (hb9.mono hb8.size)
      have C2 := right_any (N := (N : Int)) hbl (hmBB.to hb8 hb8.size)
      rw [R2] at C2
      clear hb9 C1
      go_wp2_with fail
      refine C2.mono ?_
      rintro e w10 ⟨rfl, hb9⟩
      replace hb8 := hb8.trans (hb9.mono hb8.size)
      have C3 := right_any (N := (N : Int) + 2) hbl (hmBB.to hb8 hb8.size)
      rw [R3] at C3
      clear hb9 C2
      go_wp2_with fail
      refine C3.mono ?_
      rintro e w11 ⟨rfl, hb9⟩
      replace hb8 := hb8.trans (hb9.mono hb8.size)
      clear hb9 C3
      go_wp2_with fail
      refine (final_any (i := at_) hmn (hmA.to hb8 hb8.size) fewA hI).mono ?_
      rintro e w12 ⟨A12, c12, l12, rfl, hr12, hb9, hf12⟩
      obtain rfl := fA hf12
      replace hb8 := hb8.trans (hb9.mono hb8.size)
      have hb12 := (Below.refl w12.heap.size w12).alloc (Nat.le_refl _) (.cells #[.int .i64 ((N : Int) - 1)] 3)
      have C4 := plainI_any (xs := [(N : Int) - 1]) (ys := [(N : Int) - 1]) (by simp [maxLen]) (by simp [maxLen]) (Nat.le_refl _) (hr12.to hb12 hb12.size) (rd_lit1 w12 ((N : Int) - 1))
      rw [decide_eq_true rfl] at C4
      clear hb9
      go_wp2_with fail
      refine C4.mono ?_
      rintro e w13 ⟨rfl, hb9⟩
      replace hb8 := hb8.trans ((hb12.trans (hb9.mono hb12.size)).mono hb8.size)
      clear hb9 hb12 C4 hr12
      go_wp2_with fail
      refine (final_any (i := at_) hbl (hmBB.to hb8 hb8.size) fewB hI).mono ?_
      rintro e w14 ⟨A14, c14, l14, rfl, hr14, hb9, hf14⟩
      obtain rfl := fB hf14
      replace hb8 := hb8.trans (hb9.mono hb8.size)
      have hb14 := (Below.refl w14.heap.size w14).alloc (Nat.le_refl _) (.cells #[.int .i64 (N : Int), .int .i64 ((N : Int) + 1)] 3)
      have C5 := plainI_any (xs := [(N : Int), (N : Int) + 1]) (ys := [(N : Int), (N : Int) + 1]) (by simp [maxLen]) (by simp [maxLen]) (Nat.le_refl _) (hr14.to hb14 hb14.size) (rd_cells (sz := 1) (n := 2) (heap_alloc_new w14 (.cells #[.int .i64 (N : Int), .int .i64 ((N : Int) + 1)] 3)) rfl rfl)
      rw [decide_eq_true rfl] at C5
      clear hb9
      go_wp2_with fail
      refine C5.mono ?_
      rintro e w15 ⟨rfl, hb9⟩
      replace hb8 := hb8.trans ((hb14.trans (hb9.mono hb14.size)).mono hb8.size)
      clear hb9 hb14 C5 hr14
      go_wp2_with fail
      refine (final_any (i := at_) hzl (hmZZ.to hb8 hb8.size) fewZ hI).mono ?_
      rintro e w16 ⟨A16, c16, l16, rfl, hr16, hb9, hf16⟩
      obtain rfl := fZ hf16
      replace hb8 := hb8.trans (hb9.mono hb8.size)
      have C6 := obsolete_any (x := (N : Int) - 1) hmn (hmA.to hb8 hb8.size)
      rw [oA] at C6
      clear hb9
      go_wp2_with fail
      refine C6.mono ?_
      rintro e w17 ⟨rfl, hb9⟩
      replace hb8 := hb8.trans (hb9.mono hb8.size)
      go_wp2
      go_ret
      exact ⟨rfl, step hbw hb8⟩
end Go.Proofs.Ytnkboccngialiaa
