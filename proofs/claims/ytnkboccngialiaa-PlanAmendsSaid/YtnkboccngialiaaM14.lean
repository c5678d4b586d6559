/- Walks: MarkerFinal. -/
import Derived.Test.YtnkboccngialiaaM13
namespace Go.Proofs.Ytnkboccngialiaa
open Go.RowKit

theorem final_len {ms : List MV} {i : Int} {l : List Int} (h : FinalIs ms i l) (hf : fewM ms = true) : l.length ≤ 481 := by
  refine Nat.le_trans (nodup_le (u := univ ms i) (sorted_nodup h.sorted) fun x hx => ?_) (univ_le hf)
  rcases ((h.mem x).1 hx).1 with _ | ⟨_, h2, _⟩
  · simp [univ]
  · exact nexts_univ h2
theorem mod30 (t : Int) : ∃ k : Nat, wrap64 ((IntKind.u64.wrap t).tmod 30) = k ∧ k < 30 := mod_at t (N := 30) (by omega) (by omega)

set_option maxRecDepth 100000 in
set_option maxHeartbeats 8000000 in
theorem markerFinal_any {A : Option Addr} {n c : Nat} {ms : List MV} {N0 i0 : Int} (w : World) (hn : n ≤ maxLen) (h : RdM w w.heap.size A n c ms) :
    Calls Try.prog 4 #[.int .i64 N0, .slice A n c, .int .i64 i0] w (BoolBelow true w) := by
  have C1 := few_any hn h
  have step : ∀ {u v : World}, Below w.heap.size w u → Below u.heap.size u v → Below w.heap.size w v := fun a b => a.trans (b.mono a.size)
  cases hf : fewM ms with
  | false =>
    rw [hf] at C1
    go_enter Try.func4, Try.ntmps4
    go_wp2_with fail
    refine C1.mono ?_
    rintro e w1 ⟨rfl, hb1⟩
    go_wp2_with fail
    refine (awake_any w1).mono ?_
    rintro e w2 ⟨rfl, hb2⟩
    go_wp2
    go_ret
    exact ⟨rfl, hb1.trans (hb2.mono hb1.size)⟩
  | true =>
    rw [hf] at C1
    obtain ⟨kn, hkn, hkn30⟩ := mod30 N0
    obtain ⟨N, hN1, hN0, hN30⟩ : ∃ N : Nat, (1 : Int) + kn = (N : Int) ∧ 0 < N ∧ N ≤ 30 := ⟨kn + 1, by omega, by omega, by omega⟩
    have hw64 := u64_nat (N := N) (by omega)
    obtain ⟨ki, hki, hkiN⟩ := mod_at i0 (N := N) (by omega) (by omega)
    go_enter Try.func4, Try.ntmps4
    go_wp2_with fail
    refine C1.mono ?_
    rintro e w1 ⟨rfl, hb⟩
    clear C1
    go_wp2_with fail
    try rw [hN1]
    refine (markers_any hn (h.to hb hb.size) (by omega : N ≤ 1000)).mono ?_
    rintro e w2 ⟨Am, cm, mk, rfl, hm, hp, hb2⟩
    replace hb := step hb hb2
    clear hb2 h hN1 hkn
    have hmn : mk.length ≤ maxLen := by have := hp.len; unfold maxLen; omega
    have hNz : ¬ (N : Int) = 0 := by omega
    have hkI : I64 (ki : Int) := by unfold I64; omega
    have hpf := hp.few
    go_wp2_with fail
    refine (final_any (i := ki) hmn hm hpf hkI).mono ?_
    rintro e w3 ⟨A3, c3, f, rfl, hr3, hb3, hf3⟩
    have hfl := final_len hf3 hpf
    replace hb := step hb hb3
    replace hm := hm.to hb3 hb3.size
    clear hb3
    have CO := obsolete_any (x := ki) hmn hm
    cases ho : obs mk ki with
    | false =>
      rw [ho] at CO
      obtain rfl := final_self hf3 ho
      go_wp2_with fail
      refine CO.mono ?_
      rintro e w4 ⟨rfl, hb4⟩
      replace hb := step hb hb4
      replace hm := hm.to hb4 hb4.size
      replace hr3 := hr3.to hb4 hb4.size
      clear hb4 CO
      go_wp2_with fail
      refine (awake_any w4).mono ?_
      rintro e w5 ⟨rfl, hb5⟩
      replace hb := step hb hb5
      replace hm := hm.to hb5 hb5.size
      replace hr3 := hr3.to hb5 hb5.size
      clear hb5
      have hb5' := (Below.refl w5.heap.size w5).alloc (Nat.le_refl _) (.cells #[.int .i64 (ki : Int)] 3)
      have C := plainI_any (xs := [(ki : Int)]) (ys := [(ki : Int)]) (by simp [maxLen]) (by simp [maxLen]) (Nat.le_refl _) (hr3.to hb5' hb5'.size) (rd_lit1 w5 (ki : Int))
      rw [decide_eq_true rfl] at C
      go_wp2_with fail
      refine C.mono ?_
      rintro e w6 ⟨rfl, hb6⟩
      replace hb := step (step hb hb5') hb6
      replace hm := (hm.to hb5' hb5'.size).to hb6 hb6.size
      clear C hb5' hb6 hr3
      go_wp2_with fail
      refine (next_any (x := ki) hmn hm hpf).mono ?_
      rintro e w7 ⟨A7, c7, l7, rfl, hr7, hb7, hn7, hl7⟩
      obtain rfl := next_nil hn7 ho
      go_wp2
      go_ret
      exact ⟨rfl, step hb hb7⟩
    | true =>
      rw [ho] at CO
      go_wp2_with fail
      refine CO.mono ?_
      rintro e w4 ⟨rfl, hb4⟩
      replace hb := step hb hb4
      replace hm := hm.to hb4 hb4.size
      replace hr3 := hr3.to hb4 hb4.size
      clear hb4 CO
      go_wp2_with fail
      refine (next_any (x := ki) hmn hm hpf).mono ?_
      rintro e w5 ⟨A5, c5, nx, rfl, hr5, hb5, hn5, hl5⟩
      replace hb := step hb hb5
      replace hm := hm.to hb5 hb5.size
      replace hr3 := hr3.to hb5 hb5.size
      clear hb5
      have hHO := Lib.hid ho
      clear ho
      go_wp2
      go_loopw [10, 11] (fun av kv wr => ∃ (t : Nat) (all : List Int), t ≤ nx.length ∧ kv = .int .i64 t ∧ Below w5.heap.size w5 wr ∧ wr.ownsRow w5.heap.size 3 1 av all.length (all.map (.int .i64)) ∧ AllIs mk nx t all ∧ all.length ≤ 481 * t) (fun _ kv _ => nx.length - (intOf kv).toNat)
      case atStart => exact ⟨0, [], Nat.zero_le _, rfl, Below.refl _ _, World.ownsRow_nil _ _ _ _, AllIs.zero _ _, by simp⟩
      case round =>
        obtain ⟨t, all, ht, rfl, hbr, hro, hai, hal⟩ := hrel
        by_cases hlt : t < nx.length
        · obtain ⟨b1, o1, y, rfl, hb1, hy, g0⟩ := hr5.int_ hlt
          have g1 := (hbr.cell (p := ⟨b1, o1 + t, none⟩) hb1).trans g0
          have hyU : I64 y := by
            have h1 := (hn5.mem y).1 (List.mem_of_getElem? hy)
            obtain ⟨m, hmm, _, hx⟩ := mem_nexts.1 h1
            exact (hm.parts m hmm).2.2.2 y hx
          have HY := Lib.hid hy; clear hy
          go_wp2_with (first
            | (go_at_call 19; refine (final_any (i := y) hmn (hm.to hbr hbr.size) hpf hyU).mono ?_; rintro e w6 ⟨A6, c6, l6, rfl, hr6, hb6, hf6⟩; have hl6 := final_len hf6 hpf; have hbr6 := hbr.trans (hb6.mono hbr.size); have hro6 := hro.kept (grown_none hb6 (Nat.le_refl _)) (by cases (Value.ownBlock u10) <;> simp))
            | (at_builtin; refine wpl_append rfl (.tmp 62) (.tmp 68) 28 rfl E28 rfl rfl hro6 hr6 (one_ints _) (by unfold maxLen; omega) (by omega) hbr6.size ?_; intro v7 w7 ho7 hg7 hv7))
          go_roundw
          case rel =>
            refine ⟨t + 1, all ++ l6, by omega, by go_num, hbr6.grown hg7 hbr6.size (fun g hg => (hro6.lt g hg).1), ?_, hai.step HY.out hf6, by rw [List.length_append]; omega⟩
            rw [List.length_append, List.map_append]; exact ho7
          case measure => simp [intOf]; omega
        · have hte : t = nx.length := by omega
          subst hte
          obtain ⟨wo, hwo⟩ : ∃ x, x = wr := ⟨_, rfl⟩
          subst hwo
          obtain ⟨A10, c10, rfl, hc10⟩ := ownsRow_cap hro
          have hall := Rd.of_own hro hc10
          have hbo := step hb hbr
          have hmo := hm.to hbr hbr.size
          have hfo := hr3.to hbr hbr.size
          have hall_l : all.length ≤ 481 * 480 := by omega
          clear hro hr5 hm hr3 hbr hb hal ht hlt
          go_wp2
          go_loopw [12] (fun kv wr => ∃ t : Nat, t ≤ f.length ∧ kv = .int .i64 t ∧ Below wo.heap.size wo wr) (fun kv _ => f.length - (intOf kv).toNat)
          case atStart => exact ⟨0, Nat.zero_le _, rfl, Below.refl _ _⟩
          case round =>
            obtain ⟨t, ht, rfl, hbr⟩ := hrel
            by_cases hlt : t < f.length
            · obtain ⟨bf, of, x, rfl, hbf, hx, g0⟩ := hfo.int_ hlt
              have hxf : x ∈ f := List.mem_of_getElem? hx
              have hxo := ((hf3.mem x).1 hxf).2
              have hgt := final_gt hf3 hHO.out hxf
              have hxa := all_of_final hn5 (Nat.le_refl _) hai hf3 hHO.out hxf
              have hd1 : decide (x ≤ (ki : Int)) = false := decide_eq_false (by omega)
              have C14 := obsolete_any (x := x) hmn (hmo.to hbr.drew hbr.drew.size)
              rw [hxo] at C14
              have C22 : ∀ v : World, Below wo.heap.size wo v → Calls Try.prog 22 #[.slice A10 all.length c10, .int .i64 x] v (BoolBelow true v) := fun v hv => by
                have := in_any (x := x) (w := v) (by unfold maxLen; omega) (hall.to hv hv.size)
                rwa [decide_eq_true hxa] at this
              have hprev : 0 < t → ∃ y, wo.cell? ⟨bf, of + (t - 1), none⟩ = some (.int .i64 y) ∧ y < x := fun h0 => by
                obtain ⟨b', o', y, e, _, hy, g1⟩ := hfo.int_ (k := t - 1) (by omega)
                cases e
                refine ⟨y, g1, ?_⟩
                have h1 := (List.getElem?_eq_some_iff.1 hx)
                have h2 := (List.getElem?_eq_some_iff.1 hy)
                have := List.pairwise_iff_getElem.1 hf3.sorted (t - 1) t h2.1 h1.1 (by omega)
                rw [h1.2, h2.2] at this
                exact this
              clear hxo hgt hxa hx hxf hai hall hmo hfo hf3 hHO hn5
              go_wp2
              refine wp_region_q (fun w' => Below wo.heap.size wo w') [(true, 0), (true, 1), (true, 2), (true, 3), (true, 4), (false, 5), (true, 6), (true, 7), (true, 8), (true, 9), (true, 10), (true, 11), (true, 12), (true, 13), (true, 14), (true, 15), (true, 16), (true, 17), (true, 18), (true, 19), (false, 20), (true, 21), (true, 22), (true, 23), (true, 24), (true, 25), (true, 26), (true, 27), (true, 28), (true, 29), (true, 30), (true, 31), (true, 32), (true, 33), (true, 34), (true, 35), (true, 36), (true, 37), (true, 38)] mixed (by kernel_rfl) hbr.drew (fun T M Q hT hT' hM hQ => ?_)
              have m0 : M ⟨bf, of + t, none⟩ = some (.int .i64 x) := hM _ _ fun w' hw => (hw.cell (p := ⟨bf, of + t, none⟩) hbf).trans g0
              have hM' := Lib.hid hM
              clear hM
              simp only [qcmp, Nat.reduceBEq]
              simp (maxSteps := 5000000) only [↓qpre, qpost, qfacts, qnorm, m0]
              refine ⟨⟨by omega, by omega⟩, eff_call (by kernel_rfl) C14 rfl rfl ?_⟩
              rintro e v1 ⟨rfl, hbv⟩
              have hb1 := hbr.drew.trans (hbv.mono hbr.drew.size)
              refine ⟨_, rfl, hT _ hb1, ?_⟩
              simp (maxSteps := 5000000) only [↓qpre, qpost, qfacts, qnorm, m0, hd1]
              refine ⟨⟨by omega, by omega⟩, ⟨by omega, by omega⟩, eff_call (by kernel_rfl) (C22 _ hb1) rfl rfl ?_⟩
              rintro e v2 ⟨rfl, hbv2⟩
              have hb2 := hb1.trans (hbv2.mono hb1.size)
              refine ⟨_, rfl, hT _ hb2, ?_⟩
              simp (maxSteps := 5000000) only [↓qpre, qpost, qfacts, qnorm, m0, hd1]
              refine gsym_i (fun c1 => ?_) (fun c1 => hQ _ _ ?_)
              · have ht0 : 0 < t := by have := of_decide_eq_true c1; omega
                obtain ⟨y, hy0, hyx⟩ := hprev ht0
                have e1 : ((t : Int) - 1).toNat = t - 1 := by omega
                have m1 : M ⟨bf, of + (t - 1), none⟩ = some (.int .i64 y) := hM'.out _ _ fun w' hw => (hw.cell (p := ⟨bf, of + (t - 1), none⟩) hbf).trans hy0
                have hd3 : decide (x ≤ y) = false := decide_eq_false (by omega)
                simp (maxSteps := 5000000) only [↓qpre, qpost, qfacts, qnorm, m0, m1, e1, hd3]
                refine ⟨⟨by omega, by omega⟩, by unfold inI64; omega, ⟨by omega, by omega⟩, hQ _ _ ?_⟩
                clear hQ hT hT' hM' m0 m1 C14 C22 e1
                go_wp2
                go_roundw
                case rel => exact ⟨t + 1, by omega, by go_num, hb2⟩
                case measure => simp [intOf]; omega
              · clear hQ hT hT' hM' m0 C14 C22
                go_wp2
                go_roundw
                case rel => exact ⟨t + 1, by omega, by go_num, hb2⟩
                case measure => simp [intOf]; omega
            · have hte : t = f.length := by omega
              subst hte
              have hmo' := hmo.to hbr hbr.size
              have hfo' := hfo.to hbr hbr.size
              have hall' := hall.to hbr hbr.size
              have hbo' := step hbo hbr
              clear hmo hfo hall hbo hbr ht hlt
              obtain ⟨wq, hwq⟩ : ∃ x, x = wr := ⟨_, rfl⟩
              subst hwq
              go_wp2
              go_loopw [13] (fun kv wr => ∃ t : Nat, t ≤ all.length ∧ kv = .int .i64 t ∧ Below wq.heap.size wq wr) (fun kv _ => all.length - (intOf kv).toNat)
              case atStart => exact ⟨0, Nat.zero_le _, rfl, Below.refl _ _⟩
              case round =>
                obtain ⟨t, ht, rfl, hbr⟩ := hrel
                by_cases hlt : t < all.length
                · obtain ⟨ba, oa, x, rfl, hba, hx, g0⟩ := hall'.int_ hlt
                  replace g0 := (hbr.cell (p := ⟨ba, oa + t, none⟩) hba).trans g0
                  have hxf := final_of_all hn5 hai hf3 hp.rising (List.mem_of_getElem? hx)
                  have C := in_any (x := x) (by unfold maxLen; omega) (hfo'.to hbr hbr.size)
                  rw [decide_eq_true hxf] at C
                  clear hx hxf
                  go_wp2_with fail
                  refine C.mono ?_
                  rintro e v1 ⟨rfl, hb1⟩
                  go_wp2
                  go_roundw
                  case rel => exact ⟨t + 1, by omega, by go_num, hbr.trans (hb1.mono hbr.size)⟩
                  case measure => simp [intOf]; omega
                · go_wp2_with fail
                  refine (awake_any _).mono ?_
                  rintro e v1 ⟨rfl, hb1⟩
                  have hb2 := hbr.trans (hb1.mono hbr.size)
                  have C := right_any (N := (N : Int)) hmn (hmo'.to hb2 hb2.size)
                  rw [hp.right] at C
                  go_wp2_with fail
                  refine C.mono ?_
                  rintro e v2 ⟨rfl, hb3⟩
                  go_wp2
                  go_ret
                  exact ⟨rfl, step hbo' (hb2.trans (hb3.mono hb2.size))⟩
end Go.Proofs.Ytnkboccngialiaa
