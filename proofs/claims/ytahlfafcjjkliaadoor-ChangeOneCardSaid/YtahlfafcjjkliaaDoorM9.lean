/- Walk: the law TreeLeads. -/
import Derived.Test.YtahlfafcjjkliaaDoorM8
namespace Go.Proofs.YtahlfafcjjkliaaDoor
open Go.RowKit

theorem chgAt_len (a b : List FV) (p : ByteArray) : (chgAt a b p).length ≤ 1 := by
  unfold chgAt
  split
  · simp
  · split <;> simp
theorem changesF_len (a b : List FV) : (changesF a b).length ≤ a.length + b.length := by
  have h1 := namesOf_len (a ++ b)
  rw [List.length_append] at h1
  have h2 : ∀ ns : List ByteArray, (ns.flatMap (chgAt a b)).length ≤ ns.length := by
    intro ns
    induction ns with
    | nil => simp
    | cons p ns ih => have := chgAt_len a b p; rw [List.flatMap_cons, List.length_append, List.length_cons]; omega
  have := h2 (namesOf (a ++ b))
  unfold changesF
  omega
theorem firstF_len (c : List ChV) : (firstF c).length ≤ 2 * c.length := by
  have h1 := List.length_filter_le (fun x : ChV => x.del) c
  have h2 := List.length_filter_le (fun x : ChV => !x.del) c
  rw [firstF, List.length_append]; omega

set_option maxRecDepth 100000 in
set_option maxHeartbeats 16000000 in
theorem treeLeads_any {A A' : Option Addr} {n c n' c' : Nat} {l l' : List FV} {w : World} (hn : n ≤ 17592186044416) (hn' : n' ≤ 17592186044416) (hm : Lm w)
    (hl : RdF w w.heap.size A n c l) (hl' : RdF w w.heap.size A' n' c' l') :
    Calls Tryd.prog 5 #[.slice A n c, .slice A' n' c'] w (BoolBelow true w) := by
  have hw : Below w.heap.size w w := Below.refl _ _
  go_enter Tryd.func5, Tryd.ntmps5
  go_wp2_with fail
  refine (playTree_any hn hl).mono ?_
  rintro e v1 ⟨A1, c1, a, rfl, ea, hra, hx⟩
  replace hw := hw.trans (hx.mono hw.size)
  replace hm := hm.below hx hm.lt
  replace hl' := hl'.to hx hx.size
  clear hx
  have hta : treeOk a = true := by rw [ea]; exact playF_ok l
  have hal : a.length ≤ 30 := by rw [ea]; exact playF_len l
  clear ea hl
  go_wp2_with fail
  refine (playTree_any hn' hl').mono ?_
  rintro e v2 ⟨A2, c2, b, rfl, eb, hrb, hx⟩
  replace hw := hw.trans (hx.mono hw.size)
  replace hm := hm.below hx hm.lt
  replace hra := hra.to hx hx.size
  clear hx
  have htb : treeOk b = true := by rw [eb]; exact playF_ok l'
  have hbl : b.length ≤ 30 := by rw [eb]; exact playF_len l'
  clear eb hl'
  have hc1 := changesF_len a b
  have hc2 := changesF_len b a
  have hf1 := firstF_len (changesF a b)
  have hf2 := firstF_len (changesF b a)
  have HAB := Lib.hid (first_changes hta htb hal hbl)
  have HBA := Lib.hid (first_changes htb hta hbl hal)
  have HLN := Lib.hid (changes_len b a)
  have HAA := Lib.hid (changes_self a)
  go_wp2_with fail
  refine (changes_any (by omega) (by omega) hra hrb).mono ?_
  rintro e v3 ⟨A3, c3, c, rfl, ec, hrc, hx⟩
  replace hw := hw.trans (hx.mono hw.size)
  replace hm := hm.below hx hm.lt
  replace hra := hra.to hx hx.size
  replace hrb := hrb.to hx hx.size
  clear hx
  rw [← ec] at HAB HLN hc1 hf1
  clear ec
  go_wp2_with fail
  refine (first_any (by omega) hrc).mono ?_
  rintro e v4 ⟨A4, c4, d, rfl, ed, hrd, hx⟩
  replace hw := hw.trans (hx.mono hw.size)
  replace hm := hm.below hx hm.lt
  replace hra := hra.to hx hx.size
  replace hrb := hrb.to hx hx.size
  replace hrc := hrc.to hx hx.size
  clear hx
  rw [← ed] at HAB hf1
  clear ed
  go_wp2_with fail
  have C := apply_any (by omega) (by omega) hm hra hrd
  rw [HAB.out] at C
  refine (C).mono ?_
  rintro e v5 ⟨A5, c5, rfl, hrx, hx⟩
  replace hw := hw.trans (hx.mono hw.size)
  replace hm := hm.below hx hm.lt
  replace hra := hra.to hx hx.size
  replace hrb := hrb.to hx hx.size
  replace hrc := hrc.to hx hx.size
  replace hrd := hrd.to hx hx.size
  clear hx
  clear C hrd hrc HAB
  dsimp only at hrx ⊢
  go_wp2_with fail
  refine (changes_any (by omega) (by omega) hrb hra).mono ?_
  rintro e v6 ⟨A6, c6, g, rfl, eg, hrg, hx⟩
  replace hw := hw.trans (hx.mono hw.size)
  replace hm := hm.below hx hm.lt
  replace hra := hra.to hx hx.size
  replace hrb := hrb.to hx hx.size
  replace hrx := hrx.to hx hx.size
  clear hx
  rw [← eg] at HBA hc2 hf2
  clear eg
  go_wp2_with fail
  refine (first_any (by omega) hrg).mono ?_
  rintro e v7 ⟨A7, c7, k, rfl, ek, hrk, hx⟩
  replace hw := hw.trans (hx.mono hw.size)
  replace hm := hm.below hx hm.lt
  replace hra := hra.to hx hx.size
  replace hrb := hrb.to hx hx.size
  replace hrx := hrx.to hx hx.size
  replace hrg := hrg.to hx hx.size
  clear hx
  rw [← ek] at HBA hf2
  clear ek
  go_wp2_with fail
  have C := apply_any (by omega) (by omega) hm hrb hrk
  rw [HBA.out] at C
  refine (C).mono ?_
  rintro e v8 ⟨A8, c8, rfl, hry, hx⟩
  replace hw := hw.trans (hx.mono hw.size)
  replace hm := hm.below hx hm.lt
  replace hra := hra.to hx hx.size
  replace hrb := hrb.to hx hx.size
  replace hrx := hrx.to hx hx.size
  replace hrg := hrg.to hx hx.size
  replace hrk := hrk.to hx hx.size
  clear hx
  clear C hrk hrg HBA
  dsimp only at hry ⊢
  go_wp2_with fail
  refine (awake_any hm).mono ?_
  rintro e v9 ⟨rfl, hx⟩
  replace hw := hw.trans (hx.mono hw.size)
  replace hm := hm.below hx hm.lt
  replace hra := hra.to hx hx.size
  replace hrb := hrb.to hx hx.size
  replace hrx := hrx.to hx hx.size
  replace hry := hry.to hx hx.size
  clear hx
  go_wp2_with fail
  refine (treeSame_any (by omega) (by omega) hrx hrb).mono ?_
  rintro e v10 ⟨rfl, hx⟩
  replace hw := hw.trans (hx.mono hw.size)
  replace hm := hm.below hx hm.lt
  replace hra := hra.to hx hx.size
  replace hrb := hrb.to hx hx.size
  replace hrx := hrx.to hx hx.size
  replace hry := hry.to hx hx.size
  clear hx
  rw [decide_eq_true (rfl : b = b)]
  go_wp2_with fail
  refine (treeSame_any (by omega) (by omega) hry hra).mono ?_
  rintro e v11 ⟨rfl, hx⟩
  replace hw := hw.trans (hx.mono hw.size)
  replace hm := hm.below hx hm.lt
  replace hra := hra.to hx hx.size
  replace hrb := hrb.to hx hx.size
  replace hrx := hrx.to hx hx.size
  replace hry := hry.to hx hx.size
  clear hx
  rw [decide_eq_true (rfl : a = a)]
  go_wp2_with fail
  refine (changes_any (by omega) (by omega) hra hra).mono ?_
  rintro e v12 ⟨A9, c9, q, rfl, eq, hrq, hx⟩
  replace hw := hw.trans (hx.mono hw.size)
  replace hm := hm.below hx hm.lt
  replace hra := hra.to hx hx.size
  replace hrb := hrb.to hx hx.size
  replace hrx := hrx.to hx hx.size
  replace hry := hry.to hx hx.size
  clear hx
  obtain rfl : q = [] := eq.trans HAA.out
  clear hrq eq
  go_wp2_with fail
  refine (changes_any (by omega) (by omega) hrb hra).mono ?_
  rintro e v13 ⟨B1, d1, r, rfl, er, hrr, hx⟩
  replace hw := hw.trans (hx.mono hw.size)
  replace hm := hm.below hx hm.lt
  replace hra := hra.to hx hx.size
  replace hrb := hrb.to hx hx.size
  replace hrx := hrx.to hx hx.size
  replace hry := hry.to hx hx.size
  clear hx
  have hrl : r.length = c.length := by rw [er]; exact HLN.out
  rw [hrl]
  clear hrl er hrr
  go_wp2_with fail
  refine (treeRight_any (by omega) hm hrx).mono ?_
  rintro e v14 ⟨rfl, hx⟩
  replace hw := hw.trans (hx.mono hw.size)
  replace hm := hm.below hx hm.lt
  replace hra := hra.to hx hx.size
  replace hrb := hrb.to hx hx.size
  replace hrx := hrx.to hx hx.size
  replace hry := hry.to hx hx.size
  clear hx
  rw [htb]
  clear hrx hry hra hrb hta htb
  go_wp2
  go_ret
  exact ⟨rfl, hw⟩
end Go.Proofs.YtahlfafcjjkliaaDoor
