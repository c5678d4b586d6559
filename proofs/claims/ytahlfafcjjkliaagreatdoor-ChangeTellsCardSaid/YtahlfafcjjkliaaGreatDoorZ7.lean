/- Walk: the law ChangeTells. -/
import Derived.Test.YtahlfafcjjkliaaGreatDoorZS
namespace Go.Proofs.YtahlfafcjjkliaaGreatDoor
open Go.RowKit

def ch71 : ChV := ⟨⟨#[55, 49]⟩, false, false, ⟨#[]⟩⟩
set_option maxRecDepth 100000 in
theorem run_ch71 (w : World) : (Instr.build 29 #[(0, .string ⟨#[55, 49]⟩)]).run Tryz.prog w = .ok (.agg #[.string ⟨#[55, 49]⟩, .bool false, .bool false, .string ⟨#[]⟩]) w := by
  go_simp
set_option maxRecDepth 100000 in
set_option maxHeartbeats 16000000 in
theorem changeTells_any {A A' A'' B B' : Option Addr} {ca cb cc cp cl : Nat} {a b : List FV} {ps : List ByteArray} {ts : List TV} {c : List ChV} {p : ByteArray} {raw : Bool} {w : World} (hm : Lm w) (hl1 : a.length ≤ 17592186044416) (hl2 : b.length ≤ 17592186044416) (hl3 : c.length ≤ 3518437208782) (hl4 : ps.length ≤ 17592186044416) (hl5 : ts.length ≤ 17592186044416)
    (ha : RdF w w.heap.size A a.length ca a) (hb : RdF w w.heap.size A' b.length cb b) (hp : Rd w w.heap.size 1 B ps.length cp (ps.map .string)) (hpf : ∀ s ∈ ps, s.size ≤ 140737488351232) (hs : RdS w w.heap.size B' ts.length cl ts) (hc : RdC w w.heap.size A'' c.length cc c) :
    Calls Tryz.prog 4 #[.slice A a.length ca, .slice A' b.length cb, .slice B ps.length cp, .slice B' ts.length cl, .slice A'' c.length cc, .string p, .bool raw] w (BoolBelow true w) := by
  have hw : Below w.heap.size w w := Below.refl _ _
  have hz := fun u => run_ch71 u
  have HPF := Lib.hid (show ∀ s ∈ ps, s.size ≤ maxLen from fun s hs => by have := hpf s hs; unfold maxLen; omega)
  have HCF := Lib.hid hc.fits
  clear hpf
  go_enter Tryz.func4, Tryz.ntmps4
  go_wp2_with fail
  refine (few22_any hl5 (by omega) hs hc).mono ?_
  rintro e v1 ⟨⟨f, rfl, hf⟩, hv⟩
  subst hv
  cases f with
  | false =>
    clear hf
    go_wp2_with fail
    refine (awake22_any hm).mono ?_
    rintro e v1 ⟨rfl, hx⟩
    replace hw := hw.trans (hx.mono hw.size)
    replace hm := hm.below hx hm.lt
    replace ha := ha.to hx hx.size
    replace hb := hb.to hx hx.size
    replace hp := hp.to hx hx.size
    replace hs := hs.to hx hx.size
    replace hc := hc.to hx hx.size
    clear hx
    go_wp2
    go_ret
    exact ⟨rfl, hw⟩
  | true =>
    have hn8 := hf rfl
    clear hf
    obtain ⟨V, hV⟩ : ∃ u, u = v1.alloc (.cells #[.slice A a.length ca, .slice A' b.length cb] 22) := ⟨_, rfl⟩
    have hx : Below v1.heap.size v1 V := by rw [hV]; exact (Below.refl _ _).alloc (Nat.le_refl _) _
    have rs : RdS V V.heap.size (some ⟨v1.heap.size, 0, none⟩) 2 2 [⟨A, ca, a⟩, ⟨A', cb, b⟩] := by rw [hV]; exact rdS_two v1 ⟨A, ca, a⟩ ⟨A', cb, b⟩ ⟨ha, hl1⟩ ⟨hb, hl2⟩
    replace hw := hw.trans (hx.mono hw.size)
    replace hm := hm.below hx hm.lt
    replace ha := ha.to hx hx.size
    replace hb := hb.to hx hx.size
    replace hp := hp.to hx hx.size
    replace hs := hs.to hx hx.size
    replace hc := hc.to hx hx.size
    clear hx
    replace hV := Lib.hid hV
    go_wp2_with fail
    rw [← hV.out]
    clear hV
    refine (few22_any (by omega) (by omega) rs (rdC_none V)).mono ?_
    rintro e v2 ⟨⟨f, rfl, hf⟩, hv⟩
    clear hf
    subst hv
    clear rs
    cases f with
    | false =>
      go_wp2_with fail
      refine (awake22_any hm).mono ?_
      rintro e v1 ⟨rfl, hx⟩
      replace hw := hw.trans (hx.mono hw.size)
      replace hm := hm.below hx hm.lt
      replace ha := ha.to hx hx.size
      replace hb := hb.to hx hx.size
      replace hp := hp.to hx hx.size
      replace hs := hs.to hx hx.size
      replace hc := hc.to hx hx.size
      clear hx
      go_wp2
      go_ret
      exact ⟨rfl, hw⟩
    | true =>
      by_cases h20 : 20 < ps.length
      · go_wp2_with fail
        refine (awake22_any hm).mono ?_
        rintro e v1 ⟨rfl, hx⟩
        replace hw := hw.trans (hx.mono hw.size)
        replace hm := hm.below hx hm.lt
        replace ha := ha.to hx hx.size
        replace hb := hb.to hx hx.size
        replace hp := hp.to hx hx.size
        replace hs := hs.to hx hx.size
        replace hc := hc.to hx hx.size
        clear hx
        go_wp2
        go_ret
        exact ⟨rfl, hw⟩
      · cases raw with
        | true =>
          go_wp2_with fail
          refine (ownC_any (f := ch71) (by omega) hc.row).mono ?_
          rintro e v3 ⟨g, rfl, ho, hx⟩
          replace hw := hw.trans (hx.mono hw.size)
          replace hm := hm.below hx hm.lt
          replace ha := ha.to hx hx.size
          replace hb := hb.to hx hx.size
          replace hp := hp.to hx hx.size
          replace hs := hs.to hx hx.size
          replace hc := hc.to hx hx.size
          clear hx
          have hi := Rd.of_own ho (Nat.le_refl _)
          have hin : RdC v3 v3.heap.size (some ⟨g, 0, none⟩) c.length (c.length + 3) c := ⟨rd_front (k := 3) hi hc.row.len (by omega), rfl, HCF.out⟩
          clear ho
          go_wp2_with fail
          refine (split_any hl1 hl2 (by omega) hm ha hb hp HPF.out).mono ?_
          rintro e v4 ⟨A3, c3, rfl, h3, hx⟩
          replace hw := hw.trans (hx.mono hw.size)
          replace hm := hm.below hx hm.lt
          replace ha := ha.to hx hx.size
          replace hb := hb.to hx hx.size
          replace hp := hp.to hx hx.size
          replace hs := hs.to hx hx.size
          replace hc := hc.to hx hx.size
          replace hi := hi.to hx hx.size
          replace hin := hin.to hx hx.size
          clear hx
          go_wp2_with fail
          refine (rsplit_any hl1 hl2 (by omega) ha hb hp).mono ?_
          rintro e v5 ⟨A4, c4, rfl, h4, hx⟩
          replace hw := hw.trans (hx.mono hw.size)
          replace hm := hm.below hx hm.lt
          replace ha := ha.to hx hx.size
          replace hb := hb.to hx hx.size
          replace hp := hp.to hx hx.size
          replace hs := hs.to hx hx.size
          replace hc := hc.to hx hx.size
          replace hi := hi.to hx hx.size
          replace hin := hin.to hx hx.size
          replace h3 := h3.to hx hx.size
          clear hx
          have hrl := splitF_len a b ps
          generalize splitF a b ps = r at *
          obtain ⟨rl, rk⟩ := r
          dsimp only at h3 h4 hrl ⊢
          go_wp2_with fail
          refine (absorb_any (by omega) (by omega) hm hs hin).mono ?_
          rintro e v6 ⟨A5, c5, us5, rfl, e5, h5, hx⟩
          replace hw := hw.trans (hx.mono hw.size)
          replace hm := hm.below hx hm.lt
          replace ha := ha.to hx hx.size
          replace hb := hb.to hx hx.size
          replace hp := hp.to hx hx.size
          replace hs := hs.to hx hx.size
          replace hc := hc.to hx hx.size
          replace hi := hi.to hx hx.size
          replace hin := hin.to hx hx.size
          replace h3 := h3.to hx hx.size
          replace h4 := h4.to hx hx.size
          clear hx
          go_wp2_with fail
          refine (rabsorb_any (by omega) (by omega) hs hc).mono ?_
          rintro e v7 ⟨A6, c6, us6, rfl, e6, h6, hx⟩
          replace hw := hw.trans (hx.mono hw.size)
          replace hm := hm.below hx hm.lt
          replace ha := ha.to hx hx.size
          replace hb := hb.to hx hx.size
          replace hp := hp.to hx hx.size
          replace hs := hs.to hx hx.size
          replace hc := hc.to hx hx.size
          replace hi := hi.to hx hx.size
          replace hin := hin.to hx hx.size
          replace h3 := h3.to hx hx.size
          replace h4 := h4.to hx hx.size
          replace h5 := h5.to hx hx.size
          clear hx
          have hal := absorbF_len (ts.map TV.l) c
          rw [List.length_map] at hal
          generalize absorbF (ts.map TV.l) c = q at *
          obtain ⟨ql, qk⟩ := q
          dsimp only at e5 e6 hal ⊢
          have hu5 : us5.length = ql.length := by rw [← e5, List.length_map]
          have hu6 : us6.length = ql.length := by rw [← e6, List.length_map]
          have E56 := Lib.hid (show us5.map TV.l = us6.map TV.l by rw [e5, e6])
          have hu56 : us5.length ≤ 1000 := by omega
          have hu66 : us6.length ≤ 1000 := by omega
          clear e5 e6 hu5 hu6
          go_wp2_with fail
          refine (awake22_any hm).mono ?_
          rintro e v8 ⟨rfl, hx⟩
          replace hw := hw.trans (hx.mono hw.size)
          replace hm := hm.below hx hm.lt
          replace ha := ha.to hx hx.size
          replace hb := hb.to hx hx.size
          replace hp := hp.to hx hx.size
          replace hs := hs.to hx hx.size
          replace hc := hc.to hx hx.size
          replace hi := hi.to hx hx.size
          replace hin := hin.to hx hx.size
          replace h3 := h3.to hx hx.size
          replace h4 := h4.to hx hx.size
          replace h5 := h5.to hx hx.size
          replace h6 := h6.to hx hx.size
          clear hx
          go_wp2_with fail
          refine (plainF_any (by omega) (by omega) h3.row h4.row rfl rfl).mono ?_
          rintro e v9 ⟨rfl, hx⟩
          replace hw := hw.trans (hx.mono hw.size)
          replace hm := hm.below hx hm.lt
          replace ha := ha.to hx hx.size
          replace hb := hb.to hx hx.size
          replace hp := hp.to hx hx.size
          replace hs := hs.to hx hx.size
          replace hc := hc.to hx hx.size
          replace hi := hi.to hx hx.size
          replace hin := hin.to hx hx.size
          replace h3 := h3.to hx hx.size
          replace h4 := h4.to hx hx.size
          replace h5 := h5.to hx hx.size
          replace h6 := h6.to hx hx.size
          clear hx
          rw [decide_eq_true (rfl : rl = rl)]
          clear h3 h4
          go_wp2_with fail
          refine (sameS_any (by omega) (by omega) h5 h6).mono ?_
          rintro e v10 ⟨rfl, hx⟩
          replace hw := hw.trans (hx.mono hw.size)
          replace hm := hm.below hx hm.lt
          replace ha := ha.to hx hx.size
          replace hb := hb.to hx hx.size
          replace hp := hp.to hx hx.size
          replace hs := hs.to hx hx.size
          replace hc := hc.to hx hx.size
          replace hi := hi.to hx hx.size
          replace hin := hin.to hx hx.size
          replace h5 := h5.to hx hx.size
          replace h6 := h6.to hx hx.size
          clear hx
          rw [decide_eq_true E56.out]
          clear h5 h6 E56
          go_wp2_with fail
          refine (toucher_any (p := p) (by omega) hs).mono ?_
          rintro e v11 ⟨rfl, hx⟩
          replace hw := hw.trans (hx.mono hw.size)
          replace hm := hm.below hx hm.lt
          replace ha := ha.to hx hx.size
          replace hb := hb.to hx hx.size
          replace hp := hp.to hx hx.size
          replace hs := hs.to hx hx.size
          replace hc := hc.to hx hx.size
          replace hi := hi.to hx hx.size
          replace hin := hin.to hx hx.size
          clear hx
          go_wp2_with fail
          refine (rtoucher_any (p := p) (by omega) hs).mono ?_
          rintro e v12 ⟨rfl, hx⟩
          replace hw := hw.trans (hx.mono hw.size)
          replace hm := hm.below hx hm.lt
          replace ha := ha.to hx hx.size
          replace hb := hb.to hx hx.size
          replace hp := hp.to hx hx.size
          replace hs := hs.to hx hx.size
          replace hc := hc.to hx hx.size
          replace hi := hi.to hx hx.size
          replace hin := hin.to hx hx.size
          clear hx
          generalize touchF (ts.map TV.l) p = tk
          go_wp2_with fail
          refine (keptC_any (f := ch71) (by omega) (Nat.le_refl _) hi hc.row rfl).mono ?_
          rintro e v13 ⟨rfl, hx⟩
          replace hw := hw.trans (hx.mono hw.size)
          replace hm := hm.below hx hm.lt
          replace ha := ha.to hx hx.size
          replace hb := hb.to hx hx.size
          replace hp := hp.to hx hx.size
          replace hs := hs.to hx hx.size
          replace hc := hc.to hx hx.size
          replace hi := hi.to hx hx.size
          replace hin := hin.to hx hx.size
          clear hx
          go_wp2
          go_ret
          exact ⟨rfl, hw⟩
        | false =>
          go_wp2_with fail
          refine (playTree_any hl1 ha).mono ?_
          rintro e v3 ⟨A1, c1, a1, rfl, e1, ra, hx⟩
          replace hw := hw.trans (hx.mono hw.size)
          replace hm := hm.below hx hm.lt
          replace ha := ha.to hx hx.size
          replace hb := hb.to hx hx.size
          replace hp := hp.to hx hx.size
          replace hs := hs.to hx hx.size
          replace hc := hc.to hx hx.size
          clear hx
          clear ha
          have hal1 := playF_len a
          rw [← e1] at hal1
          clear e1
          go_wp2_with fail
          refine (playTree_any hl2 hb).mono ?_
          rintro e v4 ⟨A2, c2, b1, rfl, e2, rb, hx⟩
          replace hw := hw.trans (hx.mono hw.size)
          replace hm := hm.below hx hm.lt
          replace ra := ra.to hx hx.size
          replace hb := hb.to hx hx.size
          replace hp := hp.to hx hx.size
          replace hs := hs.to hx hx.size
          replace hc := hc.to hx hx.size
          clear hx
          clear hb
          have hbl1 := playF_len b
          rw [← e2] at hbl1
          clear e2
          go_wp2_with fail
          refine (stackOf_any (by omega) hs).mono ?_
          rintro e v5 ⟨A9, c9, us, rfl, hus, rs, hx⟩
          replace hw := hw.trans (hx.mono hw.size)
          replace hm := hm.below hx hm.lt
          replace ra := ra.to hx hx.size
          replace rb := rb.to hx hx.size
          replace hp := hp.to hx hx.size
          replace hc := hc.to hx hx.size
          clear hx hs
          have hul : us.length ≤ 8 := by
            have := congrArg List.length hus
            simp only [List.length_map] at this
            omega
          clear hus hl1 hl2 hl5
          have hl1 : a1.length ≤ 17592186044416 := by omega
          have hl2 : b1.length ≤ 17592186044416 := by omega
          go_wp2_with fail
          refine (ownC_any (f := ch71) (by omega) hc.row).mono ?_
          rintro e v6 ⟨g, rfl, ho, hx⟩
          replace hw := hw.trans (hx.mono hw.size)
          replace hm := hm.below hx hm.lt
          replace ra := ra.to hx hx.size
          replace rb := rb.to hx hx.size
          replace hp := hp.to hx hx.size
          replace rs := rs.to hx hx.size
          replace hc := hc.to hx hx.size
          clear hx
          have hi := Rd.of_own ho (Nat.le_refl _)
          have hin : RdC v6 v6.heap.size (some ⟨g, 0, none⟩) c.length (c.length + 3) c := ⟨rd_front (k := 3) hi hc.row.len (by omega), rfl, HCF.out⟩
          clear ho
          go_wp2_with fail
          refine (split_any hl1 hl2 (by omega) hm ra rb hp HPF.out).mono ?_
          rintro e v7 ⟨A3, c3, rfl, h3, hx⟩
          replace hw := hw.trans (hx.mono hw.size)
          replace hm := hm.below hx hm.lt
          replace ra := ra.to hx hx.size
          replace rb := rb.to hx hx.size
          replace hp := hp.to hx hx.size
          replace rs := rs.to hx hx.size
          replace hc := hc.to hx hx.size
          replace hi := hi.to hx hx.size
          replace hin := hin.to hx hx.size
          clear hx
          go_wp2_with fail
          refine (rsplit_any hl1 hl2 (by omega) ra rb hp).mono ?_
          rintro e v8 ⟨A4, c4, rfl, h4, hx⟩
          replace hw := hw.trans (hx.mono hw.size)
          replace hm := hm.below hx hm.lt
          replace ra := ra.to hx hx.size
          replace rb := rb.to hx hx.size
          replace hp := hp.to hx hx.size
          replace rs := rs.to hx hx.size
          replace hc := hc.to hx hx.size
          replace hi := hi.to hx hx.size
          replace hin := hin.to hx hx.size
          replace h3 := h3.to hx hx.size
          clear hx
          have hrl := splitF_len a1 b1 ps
          generalize splitF a1 b1 ps = r at *
          obtain ⟨rl, rk⟩ := r
          dsimp only at h3 h4 hrl ⊢
          go_wp2_with fail
          refine (absorb_any (by omega) (by omega) hm rs hin).mono ?_
          rintro e v9 ⟨A5, c5, us5, rfl, e5, h5, hx⟩
          replace hw := hw.trans (hx.mono hw.size)
          replace hm := hm.below hx hm.lt
          replace ra := ra.to hx hx.size
          replace rb := rb.to hx hx.size
          replace hp := hp.to hx hx.size
          replace rs := rs.to hx hx.size
          replace hc := hc.to hx hx.size
          replace hi := hi.to hx hx.size
          replace hin := hin.to hx hx.size
          replace h3 := h3.to hx hx.size
          replace h4 := h4.to hx hx.size
          clear hx
          go_wp2_with fail
          refine (rabsorb_any (by omega) (by omega) rs hc).mono ?_
          rintro e v10 ⟨A6, c6, us6, rfl, e6, h6, hx⟩
          replace hw := hw.trans (hx.mono hw.size)
          replace hm := hm.below hx hm.lt
          replace ra := ra.to hx hx.size
          replace rb := rb.to hx hx.size
          replace hp := hp.to hx hx.size
          replace rs := rs.to hx hx.size
          replace hc := hc.to hx hx.size
          replace hi := hi.to hx hx.size
          replace hin := hin.to hx hx.size
          replace h3 := h3.to hx hx.size
          replace h4 := h4.to hx hx.size
          replace h5 := h5.to hx hx.size
          clear hx
          have hal := absorbF_len (us.map TV.l) c
          rw [List.length_map] at hal
          generalize absorbF (us.map TV.l) c = q at *
          obtain ⟨ql, qk⟩ := q
          dsimp only at e5 e6 hal ⊢
          have hu5 : us5.length = ql.length := by rw [← e5, List.length_map]
          have hu6 : us6.length = ql.length := by rw [← e6, List.length_map]
          have E56 := Lib.hid (show us5.map TV.l = us6.map TV.l by rw [e5, e6])
          have hu56 : us5.length ≤ 1000 := by omega
          have hu66 : us6.length ≤ 1000 := by omega
          clear e5 e6 hu5 hu6
          go_wp2_with fail
          refine (awake22_any hm).mono ?_
          rintro e v11 ⟨rfl, hx⟩
          replace hw := hw.trans (hx.mono hw.size)
          replace hm := hm.below hx hm.lt
          replace ra := ra.to hx hx.size
          replace rb := rb.to hx hx.size
          replace hp := hp.to hx hx.size
          replace rs := rs.to hx hx.size
          replace hc := hc.to hx hx.size
          replace hi := hi.to hx hx.size
          replace hin := hin.to hx hx.size
          replace h3 := h3.to hx hx.size
          replace h4 := h4.to hx hx.size
          replace h5 := h5.to hx hx.size
          replace h6 := h6.to hx hx.size
          clear hx
          go_wp2_with fail
          refine (plainF_any (by omega) (by omega) h3.row h4.row rfl rfl).mono ?_
          rintro e v12 ⟨rfl, hx⟩
          replace hw := hw.trans (hx.mono hw.size)
          replace hm := hm.below hx hm.lt
          replace ra := ra.to hx hx.size
          replace rb := rb.to hx hx.size
          replace hp := hp.to hx hx.size
          replace rs := rs.to hx hx.size
          replace hc := hc.to hx hx.size
          replace hi := hi.to hx hx.size
          replace hin := hin.to hx hx.size
          replace h3 := h3.to hx hx.size
          replace h4 := h4.to hx hx.size
          replace h5 := h5.to hx hx.size
          replace h6 := h6.to hx hx.size
          clear hx
          rw [decide_eq_true (rfl : rl = rl)]
          clear h3 h4
          go_wp2_with fail
          refine (sameS_any (by omega) (by omega) h5 h6).mono ?_
          rintro e v13 ⟨rfl, hx⟩
          replace hw := hw.trans (hx.mono hw.size)
          replace hm := hm.below hx hm.lt
          replace ra := ra.to hx hx.size
          replace rb := rb.to hx hx.size
          replace hp := hp.to hx hx.size
          replace rs := rs.to hx hx.size
          replace hc := hc.to hx hx.size
          replace hi := hi.to hx hx.size
          replace hin := hin.to hx hx.size
          replace h5 := h5.to hx hx.size
          replace h6 := h6.to hx hx.size
          clear hx
          rw [decide_eq_true E56.out]
          clear h5 h6 E56
          go_wp2_with fail
          refine (toucher_any (p := p) (by omega) rs).mono ?_
          rintro e v14 ⟨rfl, hx⟩
          replace hw := hw.trans (hx.mono hw.size)
          replace hm := hm.below hx hm.lt
          replace ra := ra.to hx hx.size
          replace rb := rb.to hx hx.size
          replace hp := hp.to hx hx.size
          replace rs := rs.to hx hx.size
          replace hc := hc.to hx hx.size
          replace hi := hi.to hx hx.size
          replace hin := hin.to hx hx.size
          clear hx
          go_wp2_with fail
          refine (rtoucher_any (p := p) (by omega) rs).mono ?_
          rintro e v15 ⟨rfl, hx⟩
          replace hw := hw.trans (hx.mono hw.size)
          replace hm := hm.below hx hm.lt
          replace ra := ra.to hx hx.size
          replace rb := rb.to hx hx.size
          replace hp := hp.to hx hx.size
          replace rs := rs.to hx hx.size
          replace hc := hc.to hx hx.size
          replace hi := hi.to hx hx.size
          replace hin := hin.to hx hx.size
          clear hx
          generalize touchF (us.map TV.l) p = tk
          go_wp2_with fail
          refine (keptC_any (f := ch71) (by omega) (Nat.le_refl _) hi hc.row rfl).mono ?_
          rintro e v16 ⟨rfl, hx⟩
          replace hw := hw.trans (hx.mono hw.size)
          replace hm := hm.below hx hm.lt
          replace ra := ra.to hx hx.size
          replace rb := rb.to hx hx.size
          replace hp := hp.to hx hx.size
          replace rs := rs.to hx hx.size
          replace hc := hc.to hx hx.size
          replace hi := hi.to hx hx.size
          replace hin := hin.to hx hx.size
          clear hx
          go_wp2
          go_ret
          exact ⟨rfl, hw⟩
end Go.Proofs.YtahlfafcjjkliaaGreatDoor
