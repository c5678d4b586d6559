/- Walks: the law's awake; ScriptTail. -/
import Derived.Test.YtnkboccngialiaaDoorS7
namespace Go.Proofs.YtnkboccngialiaaDoor
open Go.RowKit

set_option maxRecDepth 100000 in
set_option maxHeartbeats 8000000 in
theorem awake_any (w : World) : Calls Tryd.prog 7 #[] w (BoolBelow true w) := by
  have hr0 : Rd (w.alloc (.cells #[.int .u8 0, .int .u8 1, .int .u8 2] 5)) (w.heap.size + 1) 1 (some ⟨w.heap.size, 0, none⟩) 3 3 (by8 [0, 1, 2]) :=
    ⟨rfl, by omega, fun _ => ⟨_, _, rfl, by omega, fun j u hu => by rw [World.cell?, heap_alloc_new, Nat.zero_add]; simpa [by8] using hu⟩⟩
  have C := decode_any (n := 3) (by omega) (by simp) hr0
  have hb0 : Below w.heap.size w (w.alloc (.cells #[.int .u8 0, .int .u8 1, .int .u8 2] 5)) := (Below.refl _ w).alloc (Nat.le_refl _) _
  clear hr0
  go_enter Tryd.func7, Tryd.ntmps7
  go_wp2_with fail
  refine C.mono ?_
  clear C
  rintro e w1 ⟨A1, c1, ss, rfl, hS, hp, hb⟩
  rw [show nst ([0, 1, 2] : List UInt8).length = 1 from by decide] at hS ⊢
  have hp0 : ss.map SV.pure = [stepAt [0, 1, 2] 0] := hp
  obtain ⟨b, o, s, rfl, hbl, hs, hc⟩ := rd_flat (f := SV.cells) (k := 11) SV.len (by omega) hS.row (i := 0) (by omega)
  have hsp : s.pure = stepAt [0, 1, 2] 0 := by
    have := congrArg (·[0]?) hp0
    simp only [List.getElem?_map, hs, Option.map_some, List.getElem?_cons_zero, Option.some.injEq] at this
    exact this
  have k3 : w1.cell? ⟨b, o + 3, none⟩ = some (.int .i64 1) := by
    have := hc 3 _ rfl
    rw [Nat.zero_mul, Nat.add_zero] at this
    rw [this, show s.kind = 1 from congrArg PS.kind hsp]
  have k4 : w1.cell? ⟨b, o + 4, none⟩ = some (.string ⟨#[109, 49]⟩) := by
    have := hc 4 _ rfl
    rw [Nat.zero_mul, Nat.add_zero] at this
    rw [this, show s.msg = ⟨#[109, 49]⟩ from congrArg PS.msg hsp]
  have HB := Lib.hid (hb0.trans (hb.mono (by simp)))
  have hbs := HB.out.size
  clear hS hp hp0 hc hs hsp hb hb0 ss
  have hr5 : Rd (w1.alloc (.cells #[.int .i64 5] 39)) (w1.heap.size + 1) 1 (some ⟨w1.heap.size, 0, none⟩) 1 1 ([5].map (.int .i64)) :=
    ⟨rfl, by omega, fun _ => ⟨_, _, rfl, by omega, fun j u hu => by rw [World.cell?, heap_alloc_new, Nat.zero_add]; simpa using hu⟩⟩
  have C := text_any (n := 1) (by omega) (by simp) hr5 (fun e he => by obtain rfl := List.mem_singleton.1 he; omega)
    (fun e he w' _ => by
      obtain rfl := List.mem_singleton.1 he
      refine (itoa_one (w := w') (n := 5) (by omega)).mono ?_
      rintro e' w'' ⟨rfl, rfl⟩
      exact ⟨by rw [show dec (5 : Int).toNat = dg 5 from dec_small (by decide)], Below.refl _ _⟩)
  clear hr5
  go_wp2_with fail
  refine C.mono ?_
  clear C
  rintro e w2 ⟨A2, c2, rfl, hr2, hb2⟩
  have h5 : Lib.decDigits 5 = [53] := by rw [Lib.decDigits, dif_pos (by omega)]; rfl
  have htx : tx [5] = [53, 10] := by show (Lib.decDigits 5 ++ [10]) ++ [] = _; rw [h5]; rfl
  rw [htx] at hr2 ⊢
  rw [show ([53, 10] : List UInt8).length = 2 from rfl] at hr2 ⊢
  have hcv := run_conv hr2
  have HB2 := Lib.hid (HB.out.trans (((Below.refl _ w1).alloc (Nat.le_refl _) _).trans (hb2.mono (by simp)) |>.mono hbs))
  clear hr2 hb2 htx k3 k4 HB
  go_wp2
  go_ret
  exact ⟨rfl, HB2.out⟩

theorem grown_b {w w' : World} (h : w.grownBy w' none) : Below w.heap.size w w' := ⟨h.os, h.tape, h.output, h.size, fun k hk => h.block k hk (by simp)⟩
theorem rd_take {w : World} {B n c k : Nat} {A : Option Addr} {xs : List UInt8} (h : Rd w B 1 A n c (by8 xs)) (hk : k ≤ n) : Rd w B 1 A k c (by8 (xs.take k)) := by
  have hl : xs.length = n := by have := h.len; rw [by8_len] at this; omega
  have hc := h.cap
  refine ⟨by rw [by8_len, List.length_take]; omega, by omega, fun h0 => ?_⟩
  obtain ⟨b, o, e, hb, hcell⟩ := h.at_ (by omega)
  refine ⟨b, o, e, hb, fun j u hu => hcell j u ?_⟩
  rw [by8, List.map_take, List.getElem?_take] at hu
  split at hu
  · exact hu
  · cases hu
theorem RdS.take {w : World} {B n c k : Nat} {A : Option Addr} {ss : List SV} (h : RdS w B A n c ss) (hk : k ≤ n) : RdS w B A k c (ss.take k) := by
  have hl := h.len
  have hc := h.row.cap
  have he : (ss.take k).flatMap SV.cells = (ss.flatMap SV.cells).take (k * 11) := by
    have h1 : ss.flatMap SV.cells = (ss.take k).flatMap SV.cells ++ (ss.drop k).flatMap SV.cells := by rw [← List.flatMap_append, List.take_append_drop]
    rw [h1, List.take_left' (by rw [slen, List.length_take]; congr 1; omega)]
  refine ⟨⟨by rw [slen, List.length_take]; congr 1; omega, by omega, fun h0 => ?_⟩, fun s hs => h.parts s (List.mem_of_mem_take hs), fun s hs => h.few s (List.mem_of_mem_take hs)⟩
  obtain ⟨b, o, e, hb, hcell⟩ := h.row.at_ (by omega)
  refine ⟨b, o, e, hb, fun j u hu => hcell j u ?_⟩
  rw [he, List.getElem?_take] at hu
  split at hu
  · exact hu
  · cases hu

set_option maxRecDepth 100000 in
set_option maxHeartbeats 8000000 in
theorem tail_any {A A' : Option Addr} {n c m c' : Nat} {xs ys : List UInt8} {w : World} (hr : Rd w w.heap.size 1 A n c (by8 xs)) (hr' : Rd w w.heap.size 1 A' m c' (by8 ys)) (hc : c ≤ 140737488351232) (hc' : c' ≤ 140737488351232) :
    Calls Tryd.prog 5 #[.slice A n c, .slice A' m c'] w (BoolBelow true w) := by
  have hn1 := hr.cap
  have hm1 := hr'.cap
  have HR := Lib.hid hr
  have HR' := Lib.hid hr'
  clear hr hr'
  by_cases hn : 900 < n
  · have hn2 : (900 : Int) < n := by omega
    go_enter Tryd.func5, Tryd.ntmps5
    go_wp2_with fail
    refine (awake_any w).mono ?_
    rintro e w1 ⟨rfl, hb⟩
    go_wp2
    go_ret
    exact ⟨rfl, hb⟩
  have hn2 : ¬ (900 : Int) < n := by omega
  by_cases hm : 900 < m
  · have hm2 : (900 : Int) < m := by omega
    go_enter Tryd.func5, Tryd.ntmps5
    go_wp2_with fail
    refine (awake_any w).mono ?_
    rintro e w1 ⟨rfl, hb⟩
    go_wp2
    go_ret
    exact ⟨rfl, hb⟩
  have hm2 : ¬ (900 : Int) < m := by omega
  obtain ⟨q, hq⟩ : ∃ q, n / 8 = q := ⟨_, rfl⟩
  have hqi : (n : Int) / 8 = (q : Int) := by omega
  have hq8 : q * 8 ≤ n := by omega
  have HL := Lib.hid (show xs.length = n by have := HR.out.len; rw [by8_len] at this; omega)
  have HL' := Lib.hid (show ys.length = m by have := HR'.out.len; rw [by8_len] at this; omega)
  go_enter Tryd.func5, Tryd.ntmps5
  go_wp2_with fail
  have hxl := HL.out
  have HT := Lib.hid (show (xs.take (q * 8)).length = q * 8 by rw [List.length_take]; omega)
  refine (decode_any (by omega) (Nat.le_refl _) (rd_take HR.out hq8)).mono ?_
  rintro e w1 ⟨A1, c1, ss, rfl, hS, hp, hb⟩
  rw [HT.out] at hS ⊢
  have HS := Lib.hid hS
  have HP := Lib.hid hp
  have HB := Lib.hid hb
  have hbs := hb.size
  clear hS hp hb hxl
  go_wp2_with (first
    | (at_builtin; refine wpl_append rfl (.const (.slice none 0 0)) (.tmp 28) 22 rfl E22 (base := w1.heap.size) (n := 0) (xs := []) rfl rfl (World.ownsRow_nil _ _ _ _) ((rd_take HR.out hq8).below HB.out) (by8_one _) (by simp only [maxLen]; omega) (by omega) (Nat.le_refl _) ?_; intro v1 w2 ho1 hg1 hb1)
    | (at_builtin; refine wpl_append rfl (.tmp 29) (.tmp 30) 22 rfl E22 (base := w1.heap.size) (n := 0 + q * 8) rfl rfl ho1 (HR'.out.below (HB.out.trans ((grown_b hg1).mono hbs))) (by8_one _) (by simp only [maxLen]; omega) (by omega) hg1.size ?_; intro v2 w3 ho2 hg2 hb2))
  obtain ⟨A2, c2, rfl, hc2⟩ := ownsRow_cap ho2
  have hrx := Rd.of_own ho2 hc2
  rw [List.nil_append, ← by8_app] at hrx
  have hB2 := HB.out.trans ((grown_b hg1).mono hbs)
  have hB3 : Below w.heap.size w w3 := hB2.grown hg2 hB2.size (fun g hg => by
    have := ho1.lt g hg
    omega)
  have hS3 : RdS w3 w3.heap.size A1 (nst (q * 8)) c1 ss := HS.out.to (((grown_b hg1)).grown hg2 hg1.size (fun g hg => (ho1.lt g hg).1)) (Nat.le_trans hg1.size hg2.size)
  have HS3 := Lib.hid hS3
  have HB3 := Lib.hid hB3
  have HX := Lib.hid (show (xs.take (q * 8) ++ ys).length = q * 8 + m by rw [List.length_append, HT.out, HL'.out])
  clear ho1 hg1 hb1 ho2 hg2 hb2 hB2 hB3 hS3 HS HB
  rw [Nat.zero_add] at hrx ⊢
  have hmm : q * 8 + m ≤ 1048576 := by omega
  refine (decode_any hmm (Nat.le_refl _) hrx).mono ?_
  rintro e w4 ⟨A3, c3, ss2, rfl, hS, hp, hb⟩
  rw [HX.out] at hS ⊢
  have HS4 := Lib.hid hS
  have HP4 := Lib.hid hp
  have HB4 := Lib.hid (HB3.out.trans (hb.mono HB3.out.size))
  have HS34 := Lib.hid (HS3.out.to hb hb.size)
  clear hS hp hb HS3 hrx
  obtain ⟨N, hN⟩ : ∃ N, min 200 q = N := ⟨_, rfl⟩
  have e1 : nst (q * 8) = N := by unfold nst; omega
  obtain ⟨N2, hN2⟩ : ∃ N2, nst (q * 8 + m) = N2 := ⟨_, rfl⟩
  have e2 : N2 = min 200 (q + (m + 7) / 8) := by rw [← hN2]; unfold nst; omega
  rw [e1] at HS34 ⊢
  rw [hN2] at HS4 ⊢
  have hNN : N ≤ N2 := by omega
  have hle : N2 ≤ 200 := by omega
  have hc3 := HS4.out.row.cap
  have hmin : min (200 : Int) (q : Int) = (N : Int) := by omega
  have hmin2 : min (200 : Int) ((q : Int) + ((m : Int) + 7) / 8) = (N2 : Int) := by omega
  have hs4 := HB4.out.size
  go_wp2_with fail
  refine (awake_any w4).mono ?_
  rintro e w5 ⟨rfl, hb5⟩
  have HS5 := Lib.hid ((HS4.out.to hb5 hb5.size).take hNN)
  have HS35 := Lib.hid (HS34.out.to hb5 hb5.size)
  have HB5 := Lib.hid (HB4.out.trans (hb5.mono hs4))
  have hs5 := HB5.out.size
  clear hb5 HS4 HS34 HB4
  have heq : (ss2.take N).map SV.pure = ss.map SV.pure := by
    have := steps_tail xs ys
    rw [HL.out, hq, hN] at this
    rw [List.map_take, HP4.out, HP.out, this]
  have HE := Lib.hid heq
  clear heq
  go_wp2_with fail
  refine (sameS_eq (by omega) (Nat.le_refl _) HS5.out HS35.out HE.out).mono ?_
  rintro e w6 ⟨rfl, hb6⟩
  have HB6 := Lib.hid (HB5.out.trans (hb6.mono hs5))
  clear hb6 HS5 HS35 HB5 HE
  go_wp2
  go_ret
  exact ⟨rfl, HB6.out⟩
end Go.Proofs.YtnkboccngialiaaDoor
