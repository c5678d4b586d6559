/- Walk: the law TreePuts. -/
import Derived.Test.YtahlfafcjjkliaaDoorM2
namespace Go.Proofs.YtahlfafcjjkliaaDoor
open Go.RowKit

set_option maxRecDepth 100000 in
set_option maxHeartbeats 16000000 in
theorem treePuts_any {A : Option Addr} {n c : Nat} {l : List FV} {f : FV} {p : ByteArray} {w : World} (hn : n ≤ 17592186044416) (hm : Lm w)
    (ha : RdF w w.heap.size A n c l) (hff : f.path.size ≤ 140737488351232 ∧ f.text.size ≤ 140737488351232) :
    Calls Tryd.prog 4 #[.slice A n c, .agg #[.string f.path, .bool f.exec, .string f.text], .string p] w (BoolBelow true w) := by
  have hw : Below w.heap.size w w := Below.refl _ _
  obtain ⟨W, hV⟩ : ∃ u, u = w.alloc (.cells #[.string (f).path, .bool (f).exec, .string (f).text] 24) := ⟨_, rfl⟩
  have hx : Below w.heap.size w W := by rw [hV]; exact (Below.refl _ _).alloc (Nat.le_refl _) _
  have xf : Box (f) w.heap.size W := by rw [hV]; exact Box.new _ _
  replace hw := hw.trans (hx.mono hw.size)
  replace hm := hm.below hx hm.lt
  replace ha := ha.to hx hx.size
  clear hx
  replace hV := Lib.hid hV
  go_enter Tryd.func4, Tryd.ntmps4
  go_wp2_with fail
  rw [← hV.out]
  clear hV
  refine (playTree_any hn ha).mono ?_
  rintro e v1 ⟨A1, c1, a, rfl, ea, hra, hx⟩
  replace hw := hw.trans (hx.mono hw.size)
  replace hm := hm.below hx hm.lt
  replace ha := ha.to hx hx.size
  replace xf := xf.re hx
  clear hx
  replace hra := id hra
  have hta : treeOk a = true := by rw [ea]; exact playF_ok l
  have hal : a.length ≤ 30 := by rw [ea]; exact playF_len l
  clear ea ha
  by_cases hbig : 3000 < f.text.size
  · have xf2 := xf.2 2 _ rfl
    go_wp2_with fail
    clear xf2
    refine (awake_any hm).mono ?_
    rintro e v2 ⟨rfl, hx⟩
    replace hw := hw.trans (hx.mono hw.size)
    replace hm := hm.below hx hm.lt
    replace hra := hra.to hx hx.size
    replace xf := xf.re hx
    clear hx
    go_wp2
    go_ret
    exact ⟨rfl, hw⟩
  · have xf0 := xf.2 0 _ rfl
    have xf1 := xf.2 1 _ rfl
    have xf2 := xf.2 2 _ rfl
    go_wp2_with fail
    clear xf0 xf1 xf2
    refine (put_any (f := f) (by omega) hm hra hff).mono ?_
    rintro e v2 ⟨A2, c2, rfl, hrx, hx⟩
    replace hw := hw.trans (hx.mono hw.size)
    replace hm := hm.below hx hm.lt
    replace hra := hra.to hx hx.size
    replace xf := xf.re hx
    clear hx
    clear hbig
    by_cases hk : PutOk a f
    · have hxe := putF_ok hk
      have hag := hk.again
      have htx := hk.tree_put
      have hfd := hk.found
      have hoth := fun q => hk.other (p := q)
      have hxl := sortedIn_len (without a f.path) f
      have hwl := without_len a f.path
      rw [hxe] at hrx ⊢
      clear hxe
      generalize sortedIn (without a f.path) f = x at *
      dsimp only at hrx ⊢
      have htz := treeOk_without htx f.path
      have hdr : dropF x f.path = (without x f.path, 0) := dropF_ok htx (hasP_iff.2 ⟨f, (findP_some hfd).1, rfl⟩)
      have hnf : findP (without x f.path) f.path = none := findP_none.2 (hasP_without _ _)
      have hzl := without_len x f.path
      generalize without x f.path = z at *
      replace hxl : x.length ≤ 32 := by omega
      replace hzl : z.length ≤ 32 := by omega
      clear hwl hk
      replace hoth := Lib.hid hoth
      replace hag := Lib.hid hag
      replace hdr := Lib.hid hdr
      replace hnf := Lib.hid hnf
      replace hfd := Lib.hid hfd
      go_wp2_with fail
      refine (awake_any hm).mono ?_
      rintro e v3 ⟨rfl, hx⟩
      replace hw := hw.trans (hx.mono hw.size)
      replace hm := hm.below hx hm.lt
      replace hra := hra.to hx hx.size
      replace hrx := hrx.to hx hx.size
      replace xf := xf.re hx
      clear hx
      go_wp2_with fail
      refine (treeRight_any (by omega) hm hra).mono ?_
      rintro e v4 ⟨rfl, hx⟩
      replace hw := hw.trans (hx.mono hw.size)
      replace hm := hm.below hx hm.lt
      replace hra := hra.to hx hx.size
      replace hrx := hrx.to hx hx.size
      replace xf := xf.re hx
      clear hx
      rw [hta]
      have xf0 := xf.2 0 _ rfl
      have xf1 := xf.2 1 _ rfl
      have xf2 := xf.2 2 _ rfl
      go_wp2_with fail
      clear xf0 xf1 xf2
      have C := put_any (f := f) (by omega) hm hrx hff
      rw [hag.out] at C
      refine (C).mono ?_
      rintro e v5 ⟨A3, c3, rfl, hry, hx⟩
      replace hw := hw.trans (hx.mono hw.size)
      replace hm := hm.below hx hm.lt
      replace hra := hra.to hx hx.size
      replace hrx := hrx.to hx hx.size
      replace xf := xf.re hx
      clear hx
      clear C
      have xf0 := xf.2 0 _ rfl
      go_wp2_with fail
      clear xf0
      have C := drop_any (p := f.path) (by omega) hm hrx
      rw [hdr.out] at C
      refine (C).mono ?_
      rintro e v6 ⟨A4, c4, rfl, hrz, hx⟩
      replace hw := hw.trans (hx.mono hw.size)
      replace hm := hm.below hx hm.lt
      replace hra := hra.to hx hx.size
      replace hrx := hrx.to hx hx.size
      replace hry := hry.to hx hx.size
      replace xf := xf.re hx
      clear hx
      clear C
      dsimp only at hry hrz ⊢
      have xf0 := xf.2 0 _ rfl
      go_wp2_with fail
      clear xf0
      have C := find_any (p := f.path) (by omega) hrx
      rw [hfd.out] at C
      refine (C).mono ?_
      rintro e v7 ⟨rfl, hx⟩
      replace hw := hw.trans (hx.mono hw.size)
      replace hm := hm.below hx hm.lt
      replace hra := hra.to hx hx.size
      replace hrx := hrx.to hx hx.size
      replace hry := hry.to hx hx.size
      replace hrz := hrz.to hx hx.size
      replace xf := xf.re hx
      clear hx
      clear C
      rw [show optF (some f) = f from rfl, show (some f).isSome = true from rfl]
      obtain ⟨V2, hV⟩ : ∃ u, u = v7.alloc (.cells #[.string (f).path, .bool (f).exec, .string (f).text] 24) := ⟨_, rfl⟩
      have hx : Below v7.heap.size v7 V2 := by rw [hV]; exact (Below.refl _ _).alloc (Nat.le_refl _) _
      have xg : Box (f) v7.heap.size V2 := by rw [hV]; exact Box.new _ _
      replace hw := hw.trans (hx.mono hw.size)
      replace hm := hm.below hx hm.lt
      replace hra := hra.to hx hx.size
      replace hrx := hrx.to hx hx.size
      replace hry := hry.to hx hx.size
      replace hrz := hrz.to hx hx.size
      replace xf := xf.re hx
      clear hx
      replace hV := Lib.hid hV
      have xf0 := xf.2 0 _ rfl
      rw [hV.out] at xf0
      go_wp2_with fail
      clear xf0
      rw [← hV.out]
      clear hV
      have C := find_any (p := f.path) (by omega) hrz
      rw [hnf.out] at C
      refine (C).mono ?_
      rintro e v8 ⟨rfl, hx⟩
      replace hw := hw.trans (hx.mono hw.size)
      replace hm := hm.below hx hm.lt
      replace hra := hra.to hx hx.size
      replace hrx := hrx.to hx hx.size
      replace hry := hry.to hx hx.size
      replace hrz := hrz.to hx hx.size
      replace xf := xf.re hx
      replace xg := xg.re hx
      clear hx
      clear C
      rw [show (none : Option FV).isSome = false from rfl]
      generalize optF none = g0
      obtain ⟨V3, hV⟩ : ∃ u, u = v8.alloc (.cells #[.string (g0).path, .bool (g0).exec, .string (g0).text] 24) := ⟨_, rfl⟩
      have hx : Below v8.heap.size v8 V3 := by rw [hV]; exact (Below.refl _ _).alloc (Nat.le_refl _) _
      have xz : Box (g0) v8.heap.size V3 := by rw [hV]; exact Box.new _ _
      replace hw := hw.trans (hx.mono hw.size)
      replace hm := hm.below hx hm.lt
      replace hra := hra.to hx hx.size
      replace hrx := hrx.to hx hx.size
      replace hry := hry.to hx hx.size
      replace hrz := hrz.to hx hx.size
      replace xf := xf.re hx
      replace xg := xg.re hx
      clear hx
      replace hV := Lib.hid hV
      go_wp2_with fail
      rw [← hV.out]
      clear hV
      refine (treeRight_any (by omega) hm hrx).mono ?_
      rintro e v9 ⟨rfl, hx⟩
      replace hw := hw.trans (hx.mono hw.size)
      replace hm := hm.below hx hm.lt
      replace hra := hra.to hx hx.size
      replace hrx := hrx.to hx hx.size
      replace hry := hry.to hx hx.size
      replace hrz := hrz.to hx hx.size
      replace xf := xf.re hx
      replace xg := xg.re hx
      replace xz := xz.re hx
      clear hx
      rw [htx]
      go_wp2_with fail
      refine (treeSame_any (by omega) (by omega) hrx hry).mono ?_
      rintro e v10 ⟨rfl, hx⟩
      replace hw := hw.trans (hx.mono hw.size)
      replace hm := hm.below hx hm.lt
      replace hra := hra.to hx hx.size
      replace hrx := hrx.to hx hx.size
      replace hry := hry.to hx hx.size
      replace hrz := hrz.to hx hx.size
      replace xf := xf.re hx
      replace xg := xg.re hx
      replace xz := xz.re hx
      clear hx
      rw [decide_eq_true (rfl : x = x)]
      have xg0 := xg.2 0 _ rfl
      have xg1 := xg.2 1 _ rfl
      have xg2 := xg.2 2 _ rfl
      have xf0 := xf.2 0 _ rfl
      have xf1 := xf.2 1 _ rfl
      have xf2 := xf.2 2 _ rfl
      go_wp2_with fail
      clear xg0 xg1 xg2 xf0 xf1 xf2
      refine (treeRight_any (by omega) hm hrz).mono ?_
      rintro e v11 ⟨rfl, hx⟩
      replace hw := hw.trans (hx.mono hw.size)
      replace hm := hm.below hx hm.lt
      replace hra := hra.to hx hx.size
      replace hrx := hrx.to hx hx.size
      replace hry := hry.to hx hx.size
      replace hrz := hrz.to hx hx.size
      replace xf := xf.re hx
      replace xg := xg.re hx
      replace xz := xz.re hx
      clear hx
      rw [htz]
      by_cases hq : p = f.path
      · have e1 : (p.toList == f.path.toList) = true := by rw [hq]; exact beq_self_eq_true _
        clear hq hoth hta htx htz hag hfd hdr hnf
        have xf0 := xf.2 0 _ rfl
        go_wp2
        go_ret
        exact ⟨rfl, hw⟩
      · have e1 := ba_ne hq
        have ho := hoth.out p hq
        replace ho := Lib.hid ho
        clear hq hoth hta htx htz hag hfd hdr hnf
        have xf0 := xf.2 0 _ rfl
        go_wp2_with fail
        clear xf0
        have C := find_any (p := p) (by omega) hra
        rw [ho.out] at C
        refine (C).mono ?_
        rintro e v12 ⟨rfl, hx⟩
        replace hw := hw.trans (hx.mono hw.size)
        replace hm := hm.below hx hm.lt
        replace hra := hra.to hx hx.size
        replace hrx := hrx.to hx hx.size
        replace hry := hry.to hx hx.size
        replace hrz := hrz.to hx hx.size
        replace xf := xf.re hx
        replace xg := xg.re hx
        replace xz := xz.re hx
        clear hx
        clear C
        generalize hg : optF (findP x p) = g
        generalize hb : (findP x p).isSome = b
        obtain ⟨V4, hV⟩ : ∃ u, u = v12.alloc (.cells #[.string (g).path, .bool (g).exec, .string (g).text] 24) := ⟨_, rfl⟩
        have hx : Below v12.heap.size v12 V4 := by rw [hV]; exact (Below.refl _ _).alloc (Nat.le_refl _) _
        have xh : Box (g) v12.heap.size V4 := by rw [hV]; exact Box.new _ _
        replace hw := hw.trans (hx.mono hw.size)
        replace hm := hm.below hx hm.lt
        replace hra := hra.to hx hx.size
        replace hrx := hrx.to hx hx.size
        replace hry := hry.to hx hx.size
        replace hrz := hrz.to hx hx.size
        replace xf := xf.re hx
        replace xg := xg.re hx
        replace xz := xz.re hx
        clear hx
        replace hV := Lib.hid hV
        go_wp2_with fail
        rw [← hV.out]
        clear hV
        refine (find_any (p := p) (by omega) hrx).mono ?_
        rintro e v13 ⟨rfl, hx⟩
        replace hw := hw.trans (hx.mono hw.size)
        replace hm := hm.below hx hm.lt
        replace hra := hra.to hx hx.size
        replace hrx := hrx.to hx hx.size
        replace hry := hry.to hx hx.size
        replace hrz := hrz.to hx hx.size
        replace xf := xf.re hx
        replace xg := xg.re hx
        replace xz := xz.re hx
        replace xh := xh.re hx
        clear hx
        rw [hg, hb]
        clear hg hb
        obtain ⟨V5, hV⟩ : ∃ u, u = v13.alloc (.cells #[.string (g).path, .bool (g).exec, .string (g).text] 24) := ⟨_, rfl⟩
        have hx : Below v13.heap.size v13 V5 := by rw [hV]; exact (Below.refl _ _).alloc (Nat.le_refl _) _
        have xi : Box (g) v13.heap.size V5 := by rw [hV]; exact Box.new _ _
        replace hw := hw.trans (hx.mono hw.size)
        replace hm := hm.below hx hm.lt
        replace hra := hra.to hx hx.size
        replace hrx := hrx.to hx hx.size
        replace hry := hry.to hx hx.size
        replace hrz := hrz.to hx hx.size
        replace xf := xf.re hx
        replace xg := xg.re hx
        replace xz := xz.re hx
        replace xh := xh.re hx
        clear hx
        replace hV := Lib.hid hV
        have xh0 := xh.2 0 _ rfl
        have xh1 := xh.2 1 _ rfl
        have xh2 := xh.2 2 _ rfl
        have xi0 := xi.2 0 _ rfl
        have xi1 := xi.2 1 _ rfl
        have xi2 := xi.2 2 _ rfl
        rw [hV.out] at xh0 xh1 xh2 xi0 xi1 xi2
        go_wp2
        go_ret
        exact ⟨rfl, by rw [← hV.out]; exact hw⟩
    · obtain ⟨z1, z2⟩ := putF_no hk
      clear hk
      generalize putF a f = r at *
      obtain ⟨rl, rk⟩ := r
      obtain rfl : rl = [] := z2
      have z3 : ¬ rk = 0 := z1
      clear z1
      dsimp only at hrx ⊢
      go_wp2_with fail
      refine (awake_any hm).mono ?_
      rintro e v3 ⟨rfl, hx⟩
      replace hw := hw.trans (hx.mono hw.size)
      replace hm := hm.below hx hm.lt
      replace hra := hra.to hx hx.size
      replace hrx := hrx.to hx hx.size
      replace xf := xf.re hx
      clear hx
      go_wp2_with fail
      refine (treeRight_any (by omega) hm hra).mono ?_
      rintro e v4 ⟨rfl, hx⟩
      replace hw := hw.trans (hx.mono hw.size)
      replace hm := hm.below hx hm.lt
      replace hra := hra.to hx hx.size
      replace hrx := hrx.to hx hx.size
      replace xf := xf.re hx
      clear hx
      rw [hta]
      clear hta
      go_wp2
      go_ret
      exact ⟨rfl, hw⟩
end Go.Proofs.YtahlfafcjjkliaaDoor
