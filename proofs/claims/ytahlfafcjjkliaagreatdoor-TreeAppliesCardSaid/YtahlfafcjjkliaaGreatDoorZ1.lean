/- Walk: the law TreeApplies. -/
import Derived.Test.YtahlfafcjjkliaaGreatDoorZM
namespace Go.Proofs.YtahlfafcjjkliaaGreatDoor
open Go.RowKit

def ch71 : ChV := ⟨⟨#[55, 49]⟩, false, false, ⟨#[]⟩⟩
set_option maxRecDepth 100000 in
theorem run_ch71 (w : World) : (Instr.build 29 #[(0, .string ⟨#[55, 49]⟩)]).run Tryz.prog w = .ok (.agg #[.string ⟨#[55, 49]⟩, .bool false, .bool false, .string ⟨#[]⟩]) w := by
  go_simp
set_option maxRecDepth 100000 in
set_option maxHeartbeats 16000000 in
theorem treeApplies_any {A A' A'' B : Option Addr} {ca cb cc cp : Nat} {l m : List FV} {c : List ChV} {ps : List ByteArray} {w : World} (hm : Lm w) (hl1 : l.length ≤ 17592186044416) (hl2 : m.length ≤ 17592186044416) (hl3 : c.length ≤ 17592186044416) (hl4 : ps.length ≤ 17592186044416)
    (ha : RdF w w.heap.size A l.length ca l) (hb : RdF w w.heap.size A' m.length cb m) (hc : RdC w w.heap.size A'' c.length cc c) (hp : Rd w w.heap.size 1 B ps.length cp (ps.map .string)) (hpf : ∀ s ∈ ps, s.size ≤ 140737488351232) :
    Calls Tryz.prog 3 #[.slice A l.length ca, .slice A' m.length cb, .slice A'' c.length cc, .slice B ps.length cp] w (BoolBelow true w) := by
  have hw : Below w.heap.size w w := Below.refl _ _
  have hz := fun u => run_ch71 u
  have HPF := Lib.hid (show ∀ s ∈ ps, s.size ≤ maxLen from fun s hs => by have := hpf s hs; unfold maxLen; omega)
  have HCF := Lib.hid hc.fits
  clear hpf
  go_enter Tryz.func3, Tryz.ntmps3
  go_wp2_with fail
  refine (few_any hl1 hl3 ha hc).mono ?_
  rintro e w1 ⟨rfl, hw1⟩
  rw [hw1]
  clear hw1 w1
  cases h1 : fewF l c with
  | false =>
    clear h1
    go_wp2_with fail
    refine (awake_any hm).mono ?_
    rintro e v1 ⟨rfl, hx⟩
    replace hw := hw.trans (hx.mono hw.size)
    replace hm := hm.below hx hm.lt
    replace ha := ha.to hx hx.size
    replace hb := hb.to hx hx.size
    replace hc := hc.to hx hx.size
    replace hp := hp.to hx hx.size
    clear hx
    go_wp2
    go_ret
    exact ⟨rfl, hw⟩
  | true =>
    have hl40 := (fewF_iff.1 h1).2.2.1
    have hc40 := (fewF_iff.1 h1).2.2.2
    clear h1
    go_wp2_with fail
    refine (few_any hl2 (by omega) hb (rdC_none _)).mono ?_
    rintro e w1 ⟨rfl, hw1⟩
    rw [hw1]
    clear hw1 w1
    cases h1 : fewF m [] with
    | false =>
      clear h1
      go_wp2_with fail
      refine (awake_any hm).mono ?_
      rintro e v1 ⟨rfl, hx⟩
      replace hw := hw.trans (hx.mono hw.size)
      replace hm := hm.below hx hm.lt
      replace ha := ha.to hx hx.size
      replace hb := hb.to hx hx.size
      replace hc := hc.to hx hx.size
      replace hp := hp.to hx hx.size
      clear hx
      go_wp2
      go_ret
      exact ⟨rfl, hw⟩
    | true =>
      have hm40 := (fewF_iff.1 h1).2.2.1
      clear h1
      by_cases h20 : 20 < ps.length
      · go_wp2_with fail
        refine (awake_any hm).mono ?_
        rintro e v1 ⟨rfl, hx⟩
        replace hw := hw.trans (hx.mono hw.size)
        replace hm := hm.below hx hm.lt
        replace ha := ha.to hx hx.size
        replace hb := hb.to hx hx.size
        replace hc := hc.to hx hx.size
        replace hp := hp.to hx hx.size
        clear hx
        go_wp2
        go_ret
        exact ⟨rfl, hw⟩
      · clear hl1 hl2 hl3 hl4
        go_wp2_with fail
        refine (ownC_any (f := ch71) (by omega) hc.row).mono ?_
        rintro e v1 ⟨g, rfl, ho, hx⟩
        replace hw := hw.trans (hx.mono hw.size)
        replace hm := hm.below hx hm.lt
        replace ha := ha.to hx hx.size
        replace hb := hb.to hx hx.size
        replace hc := hc.to hx hx.size
        replace hp := hp.to hx hx.size
        clear hx
        have hi := Rd.of_own ho (Nat.le_refl _)
        have hin : RdC v1 v1.heap.size (some ⟨g, 0, none⟩) c.length (c.length + 3) c := ⟨rd_front (k := 3) hi hc.row.len (by omega), rfl, HCF.out⟩
        clear ho
        go_wp2_with fail
        refine (apply_any (by omega) (by omega) hm ha hin).mono ?_
        rintro e v2 ⟨A3, c3, rfl, h3, hx⟩
        replace hw := hw.trans (hx.mono hw.size)
        replace hm := hm.below hx hm.lt
        replace ha := ha.to hx hx.size
        replace hb := hb.to hx hx.size
        replace hc := hc.to hx hx.size
        replace hp := hp.to hx hx.size
        replace hi := hi.to hx hx.size
        replace hin := hin.to hx hx.size
        clear hx
        go_wp2_with fail
        refine (rapply_new (by omega) (by omega) ha hc).mono ?_
        rintro e v3 ⟨A4, c4, rfl, h4, hx, _⟩
        replace hw := hw.trans (hx.mono hw.size)
        replace hm := hm.below hx hm.lt
        replace ha := ha.to hx hx.size
        replace hb := hb.to hx hx.size
        replace hc := hc.to hx hx.size
        replace hp := hp.to hx hx.size
        replace hi := hi.to hx hx.size
        replace hin := hin.to hx hx.size
        replace h3 := h3.to hx hx.size
        clear hx
        have hrl := applyF_len l c
        generalize applyF l c = r at *
        obtain ⟨rl, rk⟩ := r
        dsimp only at h3 h4 hrl ⊢
        go_wp2_with fail
        refine (awake_any hm).mono ?_
        rintro e v4 ⟨rfl, hx⟩
        replace hw := hw.trans (hx.mono hw.size)
        replace hm := hm.below hx hm.lt
        replace ha := ha.to hx hx.size
        replace hb := hb.to hx hx.size
        replace hc := hc.to hx hx.size
        replace hp := hp.to hx hx.size
        replace hi := hi.to hx hx.size
        replace hin := hin.to hx hx.size
        replace h3 := h3.to hx hx.size
        replace h4 := h4.to hx hx.size
        clear hx
        go_wp2_with fail
        refine (plainF_any (by omega) (by omega) h3.row h4.row rfl rfl).mono ?_
        rintro e v5 ⟨rfl, hx⟩
        replace hw := hw.trans (hx.mono hw.size)
        replace hm := hm.below hx hm.lt
        replace ha := ha.to hx hx.size
        replace hb := hb.to hx hx.size
        replace hc := hc.to hx hx.size
        replace hp := hp.to hx hx.size
        replace hi := hi.to hx hx.size
        replace hin := hin.to hx hx.size
        replace h3 := h3.to hx hx.size
        replace h4 := h4.to hx hx.size
        clear hx
        rw [decide_eq_true (rfl : rl = rl)]
        clear h3 h4
        go_wp2_with fail
        refine (changes_any (by omega) (by omega) ha hb).mono ?_
        rintro e v6 ⟨A5, c5, q5, rfl, e5, h5, hx⟩
        replace hw := hw.trans (hx.mono hw.size)
        replace hm := hm.below hx hm.lt
        replace ha := ha.to hx hx.size
        replace hb := hb.to hx hx.size
        replace hc := hc.to hx hx.size
        replace hp := hp.to hx hx.size
        replace hi := hi.to hx hx.size
        replace hin := hin.to hx hx.size
        clear hx
        have hql := changesF_len l m
        rw [← e5] at hql
        have E5 := Lib.hid e5
        clear e5
        go_wp2_with fail
        refine (rchanges_any (by omega) (by omega) ha hb).mono ?_
        rintro e v7 ⟨A6, c6, q6, rfl, e6, h6, hx⟩
        replace hw := hw.trans (hx.mono hw.size)
        replace hm := hm.below hx hm.lt
        replace ha := ha.to hx hx.size
        replace hb := hb.to hx hx.size
        replace hc := hc.to hx hx.size
        replace hp := hp.to hx hx.size
        replace hi := hi.to hx hx.size
        replace hin := hin.to hx hx.size
        replace h5 := h5.to hx hx.size
        clear hx
        rw [← E5.out] at e6
        subst e6
        go_wp2_with fail
        refine (plainC_any (by omega) (by omega) h5.row h6.row rfl rfl).mono ?_
        rintro e v8 ⟨rfl, hx⟩
        replace hw := hw.trans (hx.mono hw.size)
        replace hm := hm.below hx hm.lt
        replace ha := ha.to hx hx.size
        replace hb := hb.to hx hx.size
        replace hc := hc.to hx hx.size
        replace hp := hp.to hx hx.size
        replace hi := hi.to hx hx.size
        replace hin := hin.to hx hx.size
        replace h5 := h5.to hx hx.size
        replace h6 := h6.to hx hx.size
        clear hx
        rw [decide_eq_true (rfl : q6 = q6)]
        clear h5 h6 hql E5
        go_wp2_with fail
        refine (only_any (by omega) (by omega) hin hp HPF.out).mono ?_
        rintro e v9 ⟨A7, c7, q7, rfl, e7, h7, hx⟩
        replace hw := hw.trans (hx.mono hw.size)
        replace hm := hm.below hx hm.lt
        replace ha := ha.to hx hx.size
        replace hb := hb.to hx hx.size
        replace hc := hc.to hx hx.size
        replace hp := hp.to hx hx.size
        replace hi := hi.to hx hx.size
        replace hin := hin.to hx hx.size
        clear hx
        have hol := onlyF_len c ps
        rw [← e7] at hol
        have E7 := Lib.hid e7
        clear e7
        go_wp2_with fail
        refine (ronly_any (by omega) (by omega) hc hp).mono ?_
        rintro e v10 ⟨A8, c8, q8, rfl, e8, h8, hx⟩
        replace hw := hw.trans (hx.mono hw.size)
        replace hm := hm.below hx hm.lt
        replace ha := ha.to hx hx.size
        replace hb := hb.to hx hx.size
        replace hc := hc.to hx hx.size
        replace hp := hp.to hx hx.size
        replace hi := hi.to hx hx.size
        replace hin := hin.to hx hx.size
        replace h7 := h7.to hx hx.size
        clear hx
        rw [← E7.out] at e8
        subst e8
        go_wp2_with fail
        refine (plainC_any (by omega) (by omega) h7.row h8.row rfl rfl).mono ?_
        rintro e v11 ⟨rfl, hx⟩
        replace hw := hw.trans (hx.mono hw.size)
        replace hm := hm.below hx hm.lt
        replace ha := ha.to hx hx.size
        replace hb := hb.to hx hx.size
        replace hc := hc.to hx hx.size
        replace hp := hp.to hx hx.size
        replace hi := hi.to hx hx.size
        replace hin := hin.to hx hx.size
        replace h7 := h7.to hx hx.size
        replace h8 := h8.to hx hx.size
        clear hx
        rw [decide_eq_true (rfl : q8 = q8)]
        clear h7 h8 hol E7
        go_wp2_with fail
        refine (keptC_any (f := ch71) (by omega) (Nat.le_refl _) hi hc.row rfl).mono ?_
        rintro e v12 ⟨rfl, hx⟩
        replace hw := hw.trans (hx.mono hw.size)
        replace hm := hm.below hx hm.lt
        replace ha := ha.to hx hx.size
        replace hb := hb.to hx hx.size
        replace hc := hc.to hx hx.size
        replace hp := hp.to hx hx.size
        replace hi := hi.to hx hx.size
        replace hin := hin.to hx hx.size
        clear hx
        go_wp2
        go_ret
        exact ⟨rfl, hw⟩
end Go.Proofs.YtahlfafcjjkliaaGreatDoor
