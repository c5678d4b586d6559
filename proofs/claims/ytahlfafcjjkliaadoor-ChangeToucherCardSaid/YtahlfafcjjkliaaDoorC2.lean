/- Walk: the law ChangeToucher. -/
import Derived.Test.YtahlfafcjjkliaaDoorCN
namespace Go.Proofs.YtahlfafcjjkliaaDoor
open Go.RowKit

theorem run_eqlF (x y : FV) (w : World) : (binOp .eql 24 (.agg #[.string x.path, .bool x.exec, .string x.text]) (.agg #[.string y.path, .bool y.exec, .string y.text])).run Tryd.prog w = .ok (.bool (decide (x = y))) w := by
  rw [run_eql_struct, eqF_run]; rfl
set_option maxRecDepth 100000 in
set_option maxHeartbeats 16000000 in
theorem changeToucher_any {A : Option Addr} {n c : Nat} {ts : List TV} {p : ByteArray} {w : World} (hm : Lm w) (hn : n ≤ 17592186044416) (h : RdS w w.heap.size A n c ts) :
    Calls Tryd.prog 9 #[.slice A n c, .string p] w (BoolBelow true w) := by
  have hw : Below w.heap.size w w := Below.refl _ _
  have HL := Lib.hid h.len
  go_enter Tryd.func9, Tryd.ntmps9
  go_wp2_with fail
  refine (few22_any hn (by omega) h (rdC_none w)).mono ?_
  rintro e v1 ⟨⟨b, rfl, hb⟩, rfl⟩
  cases b with
  | false =>
    clear hb
    go_wp2_with fail
    refine (awake22_any hm).mono ?_
    rintro e v2 ⟨rfl, hx⟩
    go_wp2
    go_ret
    exact ⟨rfl, hx⟩
  | true =>
    have hn8 := hb rfl
    clear hb
    go_wp2_with fail
    refine (stackOf_any (by omega) h).mono ?_
    rintro e v2 ⟨A2, c2, us, rfl, hus, hr, hx⟩
    replace hw := hw.trans (hx.mono hw.size)
    replace hm := hm.below hx hm.lt
    clear hx
    have hlen : us.length = n := by
      have := congrArg List.length hus
      simp only [List.length_map] at this
      have := HL.out
      omega
    have HUL := Lib.hid hlen
    rw [hlen] at hr ⊢
    clear hlen
    generalize hL : us.map TV.l = L at *
    have hLl : L.length = n := by rw [← hL, List.length_map, HUL.out]
    have HLL := Lib.hid hLl
    have HLE := Lib.hid hL
    clear hLl hL hus
    have hk1 : touchF L p ≤ n - 1 := by have := touchFrom_le L p (L.length - 1); rw [HLL.out] at this; unfold touchF; rw [HLL.out]; exact this
    have HAB := Lib.hid (show ∀ i, touchF L p < i → i < n → findP (L.getD i []) p = findP (L.getD (i - 1) []) p from fun i h1 h2 => touchFrom_above h1 (by rw [HLL.out]; omega))
    have HAT := Lib.hid (show ∀ i, touchF L p = i → 0 < i → findP (L.getD i []) p ≠ findP (L.getD (i - 1) []) p from fun i h1 h2 => touchFrom_at h1 h2)
    have C := toucher_any (p := p) (by omega) hr
    rw [HLE.out] at C
    generalize touchF L p = K at *
    go_wp2_with fail
    refine C.mono ?_
    rintro e v3 ⟨rfl, hx⟩
    replace hw := hw.trans (hx.mono hw.size)
    replace hm := hm.below hx hm.lt
    replace hr := hr.to hx hx.size
    clear hx C
    go_wp2_with fail
    refine (awake22_any hm).mono ?_
    rintro e v4 ⟨rfl, hx⟩
    replace hw := hw.trans (hx.mono hw.size)
    replace hr := hr.to hx hx.size
    clear hx hm
    go_wp2
    have e1 : decide ((K : Int) < 0) = false := decide_eq_false (by omega)
    have e2 : decide (max 1 (n : Int) ≤ K) = false := decide_eq_false (by omega)
    rw [e1, e2, show (false || false) = false from rfl]
    clear e1 e2
    generalize max 1 (n : Int) = mx
    go_loopw [7] (fun i wr => ∃ k : Nat, 1 ≤ k ∧ (k ≤ n ∨ k = 1) ∧ i = .int .i64 k ∧ Below v4.heap.size v4 wr) (fun i _ => n + 1 - (intOf i).toNat)
    case atStart => exact ⟨1, by omega, .inr rfl, rfl, Below.refl _ _⟩
    case round =>
      obtain ⟨k, hk1, hkn, rfl, hb⟩ := hrel
      have hwr := hw.trans (hb.mono hw.size)
      by_cases hlt : k < n
      · obtain ⟨b0, o0, t, rfl, hbb, hx, ht, h1⟩ := hr.get hlt
        obtain ⟨_, _, s, e0, _, hy, hs, h2⟩ := hr.get (k := k - 1) (by omega)
        cases e0
        have G1 : L.getD k [] = t.l := by rw [← HLE.out, List.getD_eq_getElem?_getD, List.getElem?_map, hx]; rfl
        have G2 : L.getD (k - 1) [] = s.l := by rw [← HLE.out, List.getD_eq_getElem?_getD, List.getElem?_map, hy]; rfl
        have A1 := HAB.out k
        have A2 := HAT.out k
        rw [G1, G2] at A1 A2
        clear G1 G2 hx hy
        obtain ⟨TA, tc, tl⟩ := t
        obtain ⟨SA, sc, sl⟩ := s
        dsimp only [TV.hdr] at h1 h2 A1 A2
        obtain ⟨ht1, ht2⟩ := ht
        obtain ⟨hs1, hs2⟩ := hs
        dsimp only at ht1 ht2 hs1 hs2
        generalize hfa : findP tl p = fa at *
        generalize hfb : findP sl p = fb at *
        have KEY := Lib.hid (show (K < k → fa = fb) ∧ (k = K → fa ≠ fb) from ⟨fun h => A1 h hlt, fun h => A2 h.symm (by omega)⟩)
        clear A1 A2
        have C1 := rfind_any (p := p) ht2 (ht1.to hb hb.size)
        rw [hfa] at C1
        clear hfa
        generalize hga : optF fa = ga at *
        generalize hia : fa.isSome = ia at *
        have h1' := (hb.cell (p := ⟨b0, o0 + k, none⟩) hbb).trans h1
        go_wp2_with fail
        refine C1.mono ?_
        rintro e x1 ⟨rfl, hx1⟩
        rw [hga, hia]
        have hb1 := hb.trans (hx1.mono hb.size)
        obtain ⟨x2, hx2⟩ : ∃ u, u = x1.alloc (.cells #[.string ga.path, .bool ga.exec, .string ga.text] 24) := ⟨_, rfl⟩
        have hb2 : Below v4.heap.size v4 x2 := by rw [hx2]; exact hb1.alloc hb1.size _
        have xa : Box ga x1.heap.size x2 := by rw [hx2]; exact Box.new _ _
        have C2 := rfind_any (p := p) hs2 (hs1.to hb2 hb2.size)
        rw [hfb] at C2
        clear hfb
        generalize hgb : optF fb = gb at *
        generalize hib : fb.isSome = ib at *
        have h2' := (hb2.cell (p := ⟨b0, o0 + (k - 1), none⟩) hbb).trans h2
        have ek : ((k : Int) - 1).toNat = k - 1 := by omega
        rw [hx2] at h2'
        have HX2 := Lib.hid hx2
        clear hx2 C1 hx1 hb1 h1'
        go_wp2_with fail
        rw [← HX2.out]
        refine C2.mono ?_
        rintro e x3 ⟨rfl, hx3⟩
        rw [hgb, hib]
        have hb3 := hb2.trans (hx3.mono hb2.size)
        replace xa := xa.re hx3
        obtain ⟨x4, hx4⟩ : ∃ u, u = x3.alloc (.cells #[.string gb.path, .bool gb.exec, .string gb.text] 24) := ⟨_, rfl⟩
        have hx5 : Below x3.heap.size x3 x4 := by rw [hx4]; exact (Below.refl _ _).alloc (Nat.le_refl _) _
        have hb4 := hb3.trans (hx5.mono hb3.size)
        have xb : Box gb x3.heap.size x4 := by rw [hx4]; exact Box.new _ _
        replace xa := xa.re hx5
        have a0 := xa.2 0 _ rfl
        have a1 := xa.2 1 _ rfl
        have a2 := xa.2 2 _ rfl
        have c0 := xb.2 0 _ rfl
        have c1 := xb.2 1 _ rfl
        have c2 := xb.2 2 _ rfl
        rw [hx4] at a0 a1 a2 c0 c1 c2
        have HX4 := Lib.hid hx4
        have hE := fun u => run_eqlF ga gb u
        have HD : fa = fb ↔ (decide (ga = gb) = true ∧ ia = ib) := by
          rw [ver_iff, decide_eq_true_eq, FV.eq_iff, ← hga, ← hgb, ← hia, ← hib]
          exact and_comm
        generalize decide (ga = gb) = d at *
        have CASE : ((d = true ∧ ia = ib) ∧ k ≠ K) ∨ (¬ (d = true ∧ ia = ib) ∧ k ≤ K) := by
          by_cases h : d = true ∧ ia = ib
          · exact .inl ⟨h, fun e => KEY.out.2 e (HD.2 h)⟩
          · exact .inr ⟨h, Nat.le_of_not_lt fun e => h (HD.1 (KEY.out.1 e))⟩
        clear KEY HD hga hgb hia hib hx4 hx3 hx5 hb3 hb2 xa xb C2 h2' ht1 hs1 h1 h2 hr ht2 hs2 HX2 HAB HAT
        rcases CASE with ⟨⟨rfl, rfl⟩, hne⟩ | ⟨hna, hle⟩
        · by_cases hgt : K < k
          · go_wp2
            rw [← HX4.out]
            go_roundw
            case rel => exact ⟨k + 1, by omega, .inl (by omega), by go_num, hb4⟩
            case measure => simp [intOf]; omega
          · go_wp2
            rw [← HX4.out]
            go_roundw
            case rel => exact ⟨k + 1, by omega, .inl (by omega), by go_num, hb4⟩
            case measure => simp [intOf]; omega
        · have HNA := Lib.hid hna
          clear hna
          cases d with
          | false =>
            by_cases heq : k = K
            · go_wp2
              rw [← HX4.out]
              go_roundw
              case rel => exact ⟨k + 1, by omega, .inl (by omega), by go_num, hb4⟩
              case measure => simp [intOf]; omega
            · go_wp2
              rw [← HX4.out]
              go_roundw
              case rel => exact ⟨k + 1, by omega, .inl (by omega), by go_num, hb4⟩
              case measure => simp [intOf]; omega
          | true =>
            have hni : ¬ ia = ib := fun e => HNA.out ⟨rfl, e⟩
            clear HNA
            cases ia <;> cases ib
            · exact absurd rfl hni
            · clear hni
              by_cases heq : k = K
              · go_wp2
                rw [← HX4.out]
                go_roundw
                case rel => exact ⟨k + 1, by omega, .inl (by omega), by go_num, hb4⟩
                case measure => simp [intOf]; omega
              · go_wp2
                rw [← HX4.out]
                go_roundw
                case rel => exact ⟨k + 1, by omega, .inl (by omega), by go_num, hb4⟩
                case measure => simp [intOf]; omega
            · clear hni
              by_cases heq : k = K
              · go_wp2
                rw [← HX4.out]
                go_roundw
                case rel => exact ⟨k + 1, by omega, .inl (by omega), by go_num, hb4⟩
                case measure => simp [intOf]; omega
              · go_wp2
                rw [← HX4.out]
                go_roundw
                case rel => exact ⟨k + 1, by omega, .inl (by omega), by go_num, hb4⟩
                case measure => simp [intOf]; omega
            · exact absurd rfl hni
      · go_wp2
        go_ret
        exact ⟨rfl, hwr⟩
end Go.Proofs.YtahlfafcjjkliaaDoor
