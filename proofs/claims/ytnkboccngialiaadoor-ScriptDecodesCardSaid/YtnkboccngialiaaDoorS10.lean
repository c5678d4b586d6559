/- Walk: the document's Decode. -/
import Derived.Test.YtnkboccngialiaaDoorS8
namespace Go.Proofs.YtnkboccngialiaaDoor
open Go.RowKit

theorem at_int {w : World} {A : Option Addr} {n c B i : Nat} {z : Int} {xs : List UInt8} (hr : Rd w B 1 A n c (by8 xs)) (hz : z = (i : Int)) :
    Calls Tryd.prog 25 #[.slice A n c, .int .i64 z] w fun e w' => e = .returned (.int .i64 (by_ xs i : Nat)) ∧ w' = w := by
  subst hz; exact at_any hr
theorem alloc_at' {w : World} {o : Obj} {g : Nat} (hg : g = w.heap.size) : (w.alloc o).heap[g]? = some o := by subst hg; exact heap_alloc_new _ _
theorem rd_new2 (w : World) (s : SV) {g : Nat} (hg : g = w.heap.size) : Rd (w.alloc (.cells s.cells.toArray 32)) (g + 1) 11 (some ⟨g, 0, none⟩) 1 1 s.cells := by
  subst hg; exact rd_new w s
theorem SB.below {w w1 : World} {lo : Nat} {v : Value} {ss : List SV} (h : SB w lo v ss) (hb : Below w.heap.size w w1) : SB w1 lo v ss :=
  ⟨h.own.kept (row := none) (below_grown hb) (by cases v.ownBlock <;> simp), fun s hs => (h.parts s hs).stay hb.size (fun b _ hl _ => hb.block b hl) (fun _ _ _ h => h)⟩

theorem txt_str (v k : Nat) : (⟨(txt v k).toArray⟩ : ByteArray) ++ ltr ((v + k) % 6) ++ ⟨#[10]⟩ = ⟨(txt v (k + 1)).toArray⟩ := by
  apply ByteArray.ext
  simp [txt, ltr]

set_option maxRecDepth 100000 in
set_option maxHeartbeats 8000000 in
theorem rdecode_any {A : Option Addr} {n c B : Nat} {xs : List UInt8} {w : World} (hn : n ≤ 1048576) (hB : B ≤ w.heap.size) (hr : Rd w B 1 A n c (by8 xs)) :
    Calls Tryd.prog 11 #[.slice A n c] w (DecPost xs w) := by
  have HL := Lib.hid (show xs.length = n by have := hr.len; rw [by8_len] at this; omega)
  have HR := Lib.hid (hr.to (Below.refl B w) hB)
  clear hr hB
  go_enter Tryd.func11, Tryd.ntmps11
  go_wp2
  go_loopw [3, 4] (fun l i wr => ∃ (j : Nat) (ss : List SV), i = .int .i64 ((8 * j : Nat) : Int) ∧ Hid (SB wr w.heap.size l ss) ∧ Hid (ss.map SV.pure = stepsTo xs j) ∧ j ≤ nst n ∧ Hid (Below w.heap.size w wr))
    (fun _ i _ => 1608 - (intOf i).toNat)
  case atStart => exact ⟨0, [], rfl, SB.nil _ _, rfl, by omega, Below.refl _ w⟩
  case round =>
    obtain ⟨j, ss, rfl, HS, HP, hj, HB⟩ := hrel
    obtain ⟨A1, c1, hv, hc1⟩ := ownsRow_cap HS.out.own
    have hsl : ss.length = j := by have := congrArg List.length HP.out; rw [List.length_map, stepsTo_len] at this; exact this
    subst hv
    rw [hsl] at HS
    by_cases hlt : 8 * j < n
    · by_cases hlt2 : j < 200
      · have hRr := Lib.hid (HR.out.below HB.out)
        obtain ⟨I, hI⟩ : ∃ I : Nat, 8 * j = I := ⟨_, rfl⟩
        rw [hI]
        have hIn : (I : Int) < (n : Int) := by omega
        have hI2 : (I : Int) ≤ 1600 := by omega
        go_wp2_with fail
        refine (at_int (i := I) hRr.out (by omega)).mono ?_
        rintro e w1 ⟨rfl, rfl⟩
        go_wp2_with fail
        refine (at_int (i := I + 1) hRr.out (by omega)).mono ?_
        rintro e w1 ⟨rfl, rfl⟩
        go_wp2_with fail
        refine (at_int (i := I + 2) hRr.out (by omega)).mono ?_
        rintro e w1 ⟨rfl, rfl⟩
        go_wp2_with fail
        refine (at_int (i := I + 3) hRr.out (by omega)).mono ?_
        rintro e w1 ⟨rfl, rfl⟩
        go_wp2_with fail
        refine (at_int (i := I + 4) hRr.out (by omega)).mono ?_
        rintro e w1 ⟨rfl, rfl⟩
        go_wp2_with fail
        refine (at_int (i := I + 5) hRr.out (by omega)).mono ?_
        rintro e w1 ⟨rfl, rfl⟩
        go_wp2_with fail
        refine (at_int (i := I + 6) hRr.out (by omega)).mono ?_
        rintro e w1 ⟨rfl, rfl⟩
        go_wp2_with fail
        refine (at_int (i := I + 7) hRr.out (by omega)).mono ?_
        rintro e w1 ⟨rfl, rfl⟩
        have HQ := Lib.hid (stepAt_of xs I)
        have b0 := by_lt xs I; have b1 := by_lt xs (I + 1); have b2 := by_lt xs (I + 2); have b3 := by_lt xs (I + 3)
        have b4 := by_lt xs (I + 4); have b5 := by_lt xs (I + 5); have b6 := by_lt xs (I + 6); have b7 := by_lt xs (I + 7)
        generalize by_ xs I = x0 at *
        generalize by_ xs (I + 1) = x1 at *
        generalize by_ xs (I + 2) = x2 at *
        generalize by_ xs (I + 3) = x3 at *
        generalize by_ xs (I + 4) = x4 at *
        generalize by_ xs (I + 5) = x5 at *
        generalize by_ xs (I + 6) = x6 at *
        generalize by_ xs (I + 7) = x7 at *
        by_cases hx : 239 < x0
        · have hxi : (239 : Int) < x0 := by omega
          have hs0 : SB w1 w.heap.size (.slice A1 j c1) ss := HS.out
          have hSl : w1.ownsRow w.heap.size 32 11 (.slice A1 j c1) j (ss.flatMap SV.cells) := hsl ▸ hs0.own
          have hbs := HB.out.size
          have HK := Lib.hid (hSl.alloc (.cells #[.int .i64 (x2 : Int), .int .i64 (x3 : Int)] 3))
          have HK2 := Lib.hid (HK.out.alloc (.cells (SV.cells ⟨true, x1 % 6, some ⟨w1.heap.size, 0, none⟩, 2, [(x2 : Int), (x3 : Int)], 0, ⟨#[]⟩, none, 0, [], none, 0, [], 0, 0, 0, ⟨#[]⟩⟩).toArray 32))
          go_wp2_with (at_builtin; refine wpl_append rfl (.tmp 61) (.tmp 68) 33 rfl E33 (B := w1.heap.size + 1 + 1) (A := some ⟨w1.heap.size + 1, 0, none⟩) (m := 1) (c := 1) (news := SV.cells ⟨true, x1 % 6, some ⟨w1.heap.size, 0, none⟩, 2, [(x2 : Int), (x3 : Int)], 0, ⟨#[]⟩, none, 0, [], none, 0, [], 0, 0, 0, ⟨#[]⟩⟩) (n := j) rfl rfl HK2.out (rd_new2 (w1.alloc (.cells #[.int .i64 (x2 : Int), .int .i64 (x3 : Int)] 3)) ⟨true, x1 % 6, some ⟨w1.heap.size, 0, none⟩, 2, [(x2 : Int), (x3 : Int)], 0, ⟨#[]⟩, none, 0, [], none, 0, [], 0, 0, 0, ⟨#[]⟩⟩ (by simp)) (SV.one' _) (by simp only [maxLen]; omega) (by omega) (by simp; omega) ?_; intro v' w' ho hg' hb')
          have hs2 : SB ((w1.alloc (.cells #[.int .i64 (x2 : Int), .int .i64 (x3 : Int)] 3)).alloc (.cells (SV.cells ⟨true, x1 % 6, some ⟨w1.heap.size, 0, none⟩, 2, [(x2 : Int), (x3 : Int)], 0, ⟨#[]⟩, none, 0, [], none, 0, [], 0, 0, 0, ⟨#[]⟩⟩).toArray 32)) w.heap.size (.slice A1 j c1) ss := (hs0.alloc _).alloc _
          have hlt2 := hSl.lt
          have hok : SV.ok ⟨true, x1 % 6, some ⟨w1.heap.size, 0, none⟩, 2, [(x2 : Int), (x3 : Int)], 0, ⟨#[]⟩, none, 0, [], none, 0, [], 0, 0, 0, ⟨#[]⟩⟩ ((w1.alloc (.cells #[.int .i64 (x2 : Int), .int .i64 (x3 : Int)] 3)).alloc (.cells (SV.cells ⟨true, x1 % 6, some ⟨w1.heap.size, 0, none⟩, 2, [(x2 : Int), (x3 : Int)], 0, ⟨#[]⟩, none, 0, [], none, 0, [], 0, 0, 0, ⟨#[]⟩⟩).toArray 32)) w.heap.size ((w1.alloc (.cells #[.int .i64 (x2 : Int), .int .i64 (x3 : Int)] 3)).alloc (.cells (SV.cells ⟨true, x1 % 6, some ⟨w1.heap.size, 0, none⟩, 2, [(x2 : Int), (x3 : Int)], 0, ⟨#[]⟩, none, 0, [], none, 0, [], 0, 0, 0, ⟨#[]⟩⟩).toArray 32)).heap.size (Value.slice A1 j c1).ownBlock := by
            refine ⟨⟨rfl, Nat.le_refl _, fun _ => ⟨_, _, rfl, by simp; omega, fun k u hu => ?_⟩⟩, Rd.none_ _ _ _, Rd.none_ _ _ _, ?_⟩
            · rw [World.cell?, Lib.alloc_old _ _ _ (by simp), heap_alloc_new, Nat.zero_add]
              have : k = 0 ∨ k = 1 := by
                have := (List.getElem?_eq_some_iff.1 hu).1
                simp [ints] at this; omega
              rcases this with rfl | rfl <;> simp [ints] at hu <;> subst hu <;> rfl
            · rintro b o (h | h | h) <;> simp at h
              refine ⟨by omega, by simp; omega, fun e => ?_⟩
              have := (hlt2 b e.symm).2
              omega
          have hpush := SB.push hs2 hok (by rw [hsl]; exact ho) hg' hb'
          refine ⟨⟨j + 1, ss ++ [⟨true, x1 % 6, some ⟨w1.heap.size, 0, none⟩, 2, [(x2 : Int), (x3 : Int)], 0, ⟨#[]⟩, none, 0, [], none, 0, [], 0, 0, 0, ⟨#[]⟩⟩], by rw [show ((8 * (j + 1) : Nat) : Int) = (I : Int) + 8 from by omega], Lib.hid hpush, ?_, nst_more hj hlt (by omega), ?_⟩, by simp [intOf]; omega⟩
          · show _ = _
            rw [List.map_append, HP.out, stepsTo_succ, List.map_singleton, hI, HQ.out, stepOf, if_pos hx]
            simp [SV.pure]
          · exact ((HB.out.alloc hbs _).alloc (by simp; omega) _).grown hg' (by simp; omega) (fun g hg => (hlt2 g hg).1)
        · have hxi : ¬ (239 : Int) < x0 := by omega
          have hs0 : SB w1 w.heap.size (.slice A1 j c1) ss := HS.out
          obtain ⟨m, hm⟩ : ∃ m, x4 % 4 = m := ⟨_, rfl⟩
          have hmi : (x4 : Int) % 4 = (m : Int) := by omega
          have HM := Lib.hid hmi
          have HS1 := Lib.hid hs0
          clear hmi hs0 HS
          have hbs := HB.out.size
          go_wp2
          go_loopw [13, 14] (fun t i v2 => ∃ k : Nat, k ≤ m ∧ i = .int .i64 k ∧ t = .string ⟨(txt x5 k).toArray⟩ ∧ Hid (Below w1.heap.size w1 v2)) (fun _ i _ => m - (intOf i).toNat)
          case atStart => exact ⟨0, by omega, rfl, rfl, Below.refl _ _⟩
          case round =>
            obtain ⟨k, hk4, rfl, rfl, HBt⟩ := hrel
            by_cases hlt3 : k < m
            · have hl3 : (k : Int) < (x4 : Int) % 4 := by have := HM.out; omega
              have C := rletter_any (w := wr) (n := (x5 + k) % 6) (by omega)
              rw [show (((x5 + k) % 6 : Nat) : Int) = ((x5 : Int) + k) % 6 from by omega] at C
              have hL2 : (ltr ((x5 + k) % 6)).size = 1 := rfl
              have HTX := Lib.hid (txt_str x5 k)
              have hts := txt_len x5 k
              obtain ⟨S, hS⟩ : ∃ S : ByteArray, (⟨(txt x5 k).toArray⟩ : ByteArray) = S := ⟨_, rfl⟩
              have hSs : S.size ≤ 8 := by rw [← hS]; show (txt x5 k).toArray.size ≤ 8; simp; omega
              rw [hS] at HTX ⊢
              have hsB := HBt.out.size
              generalize ltr ((x5 + k) % 6) = L2 at *
              clear hS hts
              go_wp2_with fail
              refine C.mono ?_
              rintro e w2 ⟨rfl, hb2⟩
              clear C
              have HB2 := Lib.hid (HBt.out.trans (hb2.mono hsB))
              clear HBt hb2
              go_wp2
              go_roundw
              case rel => exact ⟨k + 1, by omega, by go_num, by rw [HTX.out], HB2⟩
              case measure => simp [intOf]; omega
            · obtain rfl : k = m := by omega
              have hl3 : ¬ (k : Int) < (x4 : Int) % 4 := by have := HM.out; omega
              have C := rletter_any (w := wr) (n := x2 % 4) (by omega)
              rw [show ((x2 % 4 : Nat) : Int) = (x2 : Int) % 4 from by omega] at C
              have C1 := fun v => dig_any 1 (x1 % 10) (by omega) (by omega) (by omega) v
              rw [show ((x1 % 10 : Nat) : Int) = (x1 : Int) % 10 from by omega, dec_small (show x1 % 10 < 10 by omega)] at C1
              have C2 := fun v => dig_any 1 (x7 % 3) (by omega) (by omega) (by omega) v
              rw [show ((x7 % 3 : Nat) : Int) = (x7 : Int) % 3 from by omega, dec_small (show x7 % 3 < 10 by omega)] at C2
              have hd1 : (dg (x1 % 10)).size = 1 := rfl
              have hd2 : (dg (x7 % 3)).size = 1 := rfl
              have hq := HQ.out
              rw [stepOf, if_neg hx, hm, ← lnum_dg 109 (x1 % 10), ← lnum_dg 110 (x7 % 3)] at hq
              have HQ2 := Lib.hid hq
              clear hq HQ hm
              generalize ltr (x2 % 4) = L at *
              generalize dg (x1 % 10) = D1 at *
              generalize dg (x7 % 3) = D2 at *
              have hSr := HS1.out.below HBt.out
              have hbr := HB.out.trans (HBt.out.mono hbs)
              have hsr := hbr.size
              go_wp2_with fail
              refine C.mono ?_
              rintro e w2 ⟨rfl, hb2⟩
              go_wp2_with fail
              refine (C1 _).mono ?_
              rintro e w3 ⟨rfl, hb3⟩
              go_wp2_with fail
              refine (C2 _).mono ?_
              rintro e w4 ⟨rfl, hb4⟩
              have hS4 := (((hSr.below hb2).below hb3).alloc (.cells #[.string L] 9)).below hb4
              have hP4 : w4.heap[w3.heap.size]? = some (.cells #[.string L] 9 (0, 0)) := (hb4.block _ (by simp)).trans (heap_alloc_new _ _)
              have hB4 : Below w.heap.size w w4 := ((hbr.trans (hb2.mono hsr)).trans (hb3.mono (by have := hb2.size; omega))).trans ((((Below.refl _ w3).alloc (Nat.le_refl _) (.cells #[.string L] 9)).trans (hb4.mono (by simp))).mono (by have := hb2.size; have := hb3.size; omega))
              have hg34 : w3.heap.size < w4.heap.size := (Array.getElem?_eq_some_iff.1 hP4).1
              have HS4 := Lib.hid hS4
              have HP4 := Lib.hid hP4
              have HB4 := Lib.hid hB4
              have hw3 : w.heap.size ≤ w3.heap.size := by have := hb2.size; have := hb3.size; omega
              have hwr3 : wr.heap.size ≤ w3.heap.size := by have := hb2.size; have := hb3.size; omega
              clear hS4 hP4 hB4 hb2 hb3 hb4 C C1 C2 hSr hbr hsr
              have HSr := Lib.hid (HS1.out.below HBt.out)
              clear HBt HS1
              have hsW : SB (((w4.alloc (.cells #[.int .i64 ((x0 : Int) % 15 + 1), .string ((⟨#[109]⟩ : ByteArray) ++ D1), .slice (some ⟨w4.heap.size + 1, 0, none⟩) 1 1, .slice (some ⟨w3.heap.size, 0, none⟩) 1 1, .int .i64 (2 + (x6 : Int) % 2), .int .i64 ((x6 : Int) % 8), .int .i64 ((x7 : Int) % 9 - 1), .string ((⟨#[110]⟩ : ByteArray) ++ D2)] 30)).alloc (.cells #[.string L, .bool ((x3 : Int) % 7 == 0), .bool ((x3 : Int) % 2 == 1), .string ⟨(txt x5 k).toArray⟩] 61)).alloc (.cells (SV.cells ⟨false, 0, none, 0, [], (x0 : Int) % 15 + 1, (⟨#[109]⟩ : ByteArray) ++ D1, some ⟨w4.heap.size + 1, 0, none⟩, 1, [⟨L, (x3 : Int) % 7 == 0, (x3 : Int) % 2 == 1, ⟨(txt x5 k).toArray⟩⟩], some ⟨w3.heap.size, 0, none⟩, 1, [L], 2 + (x6 : Int) % 2, (x6 : Int) % 8, (x7 : Int) % 9 - 1, (⟨#[110]⟩ : ByteArray) ++ D2⟩).toArray 32)) w.heap.size (.slice A1 j c1) ss := ((HS4.out.alloc _).alloc _).alloc _
              have hSl : (((w4.alloc (.cells #[.int .i64 ((x0 : Int) % 15 + 1), .string ((⟨#[109]⟩ : ByteArray) ++ D1), .slice (some ⟨w4.heap.size + 1, 0, none⟩) 1 1, .slice (some ⟨w3.heap.size, 0, none⟩) 1 1, .int .i64 (2 + (x6 : Int) % 2), .int .i64 ((x6 : Int) % 8), .int .i64 ((x7 : Int) % 9 - 1), .string ((⟨#[110]⟩ : ByteArray) ++ D2)] 30)).alloc (.cells #[.string L, .bool ((x3 : Int) % 7 == 0), .bool ((x3 : Int) % 2 == 1), .string ⟨(txt x5 k).toArray⟩] 61)).alloc (.cells (SV.cells ⟨false, 0, none, 0, [], (x0 : Int) % 15 + 1, (⟨#[109]⟩ : ByteArray) ++ D1, some ⟨w4.heap.size + 1, 0, none⟩, 1, [⟨L, (x3 : Int) % 7 == 0, (x3 : Int) % 2 == 1, ⟨(txt x5 k).toArray⟩⟩], some ⟨w3.heap.size, 0, none⟩, 1, [L], 2 + (x6 : Int) % 2, (x6 : Int) % 8, (x7 : Int) % 9 - 1, (⟨#[110]⟩ : ByteArray) ++ D2⟩).toArray 32)).ownsRow w.heap.size 32 11 (.slice A1 j c1) j (ss.flatMap SV.cells) := hsl ▸ hsW.own
              have hol := HSr.out.own.lt
              have hok : SV.ok ⟨false, 0, none, 0, [], (x0 : Int) % 15 + 1, (⟨#[109]⟩ : ByteArray) ++ D1, some ⟨w4.heap.size + 1, 0, none⟩, 1, [⟨L, (x3 : Int) % 7 == 0, (x3 : Int) % 2 == 1, ⟨(txt x5 k).toArray⟩⟩], some ⟨w3.heap.size, 0, none⟩, 1, [L], 2 + (x6 : Int) % 2, (x6 : Int) % 8, (x7 : Int) % 9 - 1, (⟨#[110]⟩ : ByteArray) ++ D2⟩ (((w4.alloc (.cells #[.int .i64 ((x0 : Int) % 15 + 1), .string ((⟨#[109]⟩ : ByteArray) ++ D1), .slice (some ⟨w4.heap.size + 1, 0, none⟩) 1 1, .slice (some ⟨w3.heap.size, 0, none⟩) 1 1, .int .i64 (2 + (x6 : Int) % 2), .int .i64 ((x6 : Int) % 8), .int .i64 ((x7 : Int) % 9 - 1), .string ((⟨#[110]⟩ : ByteArray) ++ D2)] 30)).alloc (.cells #[.string L, .bool ((x3 : Int) % 7 == 0), .bool ((x3 : Int) % 2 == 1), .string ⟨(txt x5 k).toArray⟩] 61)).alloc (.cells (SV.cells ⟨false, 0, none, 0, [], (x0 : Int) % 15 + 1, (⟨#[109]⟩ : ByteArray) ++ D1, some ⟨w4.heap.size + 1, 0, none⟩, 1, [⟨L, (x3 : Int) % 7 == 0, (x3 : Int) % 2 == 1, ⟨(txt x5 k).toArray⟩⟩], some ⟨w3.heap.size, 0, none⟩, 1, [L], 2 + (x6 : Int) % 2, (x6 : Int) % 8, (x7 : Int) % 9 - 1, (⟨#[110]⟩ : ByteArray) ++ D2⟩).toArray 32)) w.heap.size (((w4.alloc (.cells #[.int .i64 ((x0 : Int) % 15 + 1), .string ((⟨#[109]⟩ : ByteArray) ++ D1), .slice (some ⟨w4.heap.size + 1, 0, none⟩) 1 1, .slice (some ⟨w3.heap.size, 0, none⟩) 1 1, .int .i64 (2 + (x6 : Int) % 2), .int .i64 ((x6 : Int) % 8), .int .i64 ((x7 : Int) % 9 - 1), .string ((⟨#[110]⟩ : ByteArray) ++ D2)] 30)).alloc (.cells #[.string L, .bool ((x3 : Int) % 7 == 0), .bool ((x3 : Int) % 2 == 1), .string ⟨(txt x5 k).toArray⟩] 61)).alloc (.cells (SV.cells ⟨false, 0, none, 0, [], (x0 : Int) % 15 + 1, (⟨#[109]⟩ : ByteArray) ++ D1, some ⟨w4.heap.size + 1, 0, none⟩, 1, [⟨L, (x3 : Int) % 7 == 0, (x3 : Int) % 2 == 1, ⟨(txt x5 k).toArray⟩⟩], some ⟨w3.heap.size, 0, none⟩, 1, [L], 2 + (x6 : Int) % 2, (x6 : Int) % 8, (x7 : Int) % 9 - 1, (⟨#[110]⟩ : ByteArray) ++ D2⟩).toArray 32)).heap.size (Value.slice A1 j c1).ownBlock := by
                refine ⟨Rd.none_ _ _ _, ⟨rfl, Nat.le_refl _, fun _ => ⟨_, _, rfl, by simp, fun q u hu => ?_⟩⟩, ⟨rfl, Nat.le_refl _, fun _ => ⟨_, _, rfl, by simp; omega, fun q u hu => ?_⟩⟩, ?_⟩
                · rw [World.cell?, Lib.alloc_old _ _ _ (by simp), alloc_at' (by simp), Nat.zero_add]
                  simpa [PC.cells] using hu
                · rw [World.cell?, Lib.alloc_old _ _ _ (by simp; omega), Lib.alloc_old _ _ _ (by simp; omega), Lib.alloc_old _ _ _ (by show w3.heap.size < _; omega), HP4.out, Nat.zero_add]
                  simpa using hu
                · rintro b o (h | h | h) <;> simp at h
                  · refine ⟨by have := HB4.out.size; omega, by simp; omega, fun e => ?_⟩
                    have := (hol b e.symm).2
                    omega
                  · refine ⟨by omega, by simp; omega, fun e => ?_⟩
                    have := (hol b e.symm).2
                    omega
              have HW := Lib.hid hsW
              have HK := Lib.hid hSl
              have HOK := Lib.hid hok
              clear hsW hSl hok
              go_wp2_with (at_builtin; refine wpl_append rfl (.tmp 120) (.tmp 123) 33 rfl E33 (B := w4.heap.size + 1 + 1 + 1) (A := some ⟨w4.heap.size + 1 + 1, 0, none⟩) (m := 1) (c := 1) (news := SV.cells ⟨false, 0, none, 0, [], (x0 : Int) % 15 + 1, (⟨#[109]⟩ : ByteArray) ++ D1, some ⟨w4.heap.size + 1, 0, none⟩, 1, [⟨L, (x3 : Int) % 7 == 0, (x3 : Int) % 2 == 1, ⟨(txt x5 k).toArray⟩⟩], some ⟨w3.heap.size, 0, none⟩, 1, [L], 2 + (x6 : Int) % 2, (x6 : Int) % 8, (x7 : Int) % 9 - 1, (⟨#[110]⟩ : ByteArray) ++ D2⟩) (n := j) rfl rfl HK.out (rd_new2 ((w4.alloc (.cells #[.int .i64 ((x0 : Int) % 15 + 1), .string ((⟨#[109]⟩ : ByteArray) ++ D1), .slice (some ⟨w4.heap.size + 1, 0, none⟩) 1 1, .slice (some ⟨w3.heap.size, 0, none⟩) 1 1, .int .i64 (2 + (x6 : Int) % 2), .int .i64 ((x6 : Int) % 8), .int .i64 ((x7 : Int) % 9 - 1), .string ((⟨#[110]⟩ : ByteArray) ++ D2)] 30)).alloc (.cells #[.string L, .bool ((x3 : Int) % 7 == 0), .bool ((x3 : Int) % 2 == 1), .string ⟨(txt x5 k).toArray⟩] 61)) ⟨false, 0, none, 0, [], (x0 : Int) % 15 + 1, (⟨#[109]⟩ : ByteArray) ++ D1, some ⟨w4.heap.size + 1, 0, none⟩, 1, [⟨L, (x3 : Int) % 7 == 0, (x3 : Int) % 2 == 1, ⟨(txt x5 k).toArray⟩⟩], some ⟨w3.heap.size, 0, none⟩, 1, [L], 2 + (x6 : Int) % 2, (x6 : Int) % 8, (x7 : Int) % 9 - 1, (⟨#[110]⟩ : ByteArray) ++ D2⟩ (by simp)) (SV.one' _) (by simp only [maxLen]; omega) (by omega) (by simp; have := HB4.out.size; omega) ?_; intro v' w' ho hg' hb')
              have hpush := SB.push HW.out HOK.out (by rw [hsl]; exact ho) hg' hb'
              have hs4 := HB4.out.size
              refine ⟨⟨j + 1, ss ++ [⟨false, 0, none, 0, [], (x0 : Int) % 15 + 1, (⟨#[109]⟩ : ByteArray) ++ D1, some ⟨w4.heap.size + 1, 0, none⟩, 1, [⟨L, (x3 : Int) % 7 == 0, (x3 : Int) % 2 == 1, ⟨(txt x5 k).toArray⟩⟩], some ⟨w3.heap.size, 0, none⟩, 1, [L], 2 + (x6 : Int) % 2, (x6 : Int) % 8, (x7 : Int) % 9 - 1, (⟨#[110]⟩ : ByteArray) ++ D2⟩], by rw [show ((8 * (j + 1) : Nat) : Int) = (I : Int) + 8 from by omega], Lib.hid hpush, ?_, nst_more hj hlt (by omega), ?_⟩, by simp [intOf]; omega⟩
              · show _ = _
                rw [List.map_append, HP.out, stepsTo_succ, List.map_singleton, hI, HQ2.out]
                simp only [SV.pure, List.append_cancel_left_eq, List.cons.injEq, PS.mk.injEq, PC.mk.injEq, and_true, true_and]
                refine ⟨by omega, ⟨?_, ?_⟩, by omega, by omega, by omega⟩
                · rw [Bool.eq_iff_iff]; simp; omega
                · rw [Bool.eq_iff_iff]; simp; omega
              · exact (((HB4.out.alloc hs4 _).alloc (by simp; omega) _).alloc (by simp; omega) _).grown hg' (by simp; omega) (fun g hg => (HK.out.lt g hg).1)
      · have hj2 : j = nst n := nst_end hj (fun h => hlt2 h.2)
        have HF := Lib.hid (decPost_of (xs := xs) (w := w) HS.out (HL.out ▸ hj2) HP.out HB.out)
        have hIn : ((8 * j : Nat) : Int) < (n : Int) := by omega
        clear hj2
        go_wp2
        go_ret
        exact HF.out
    · have hj2 : j = nst n := nst_end hj (fun h => hlt h.1)
      have HF := Lib.hid (decPost_of (xs := xs) (w := w) HS.out (HL.out ▸ hj2) HP.out HB.out)
      have hIn : ¬ ((8 * j : Nat) : Int) < (n : Int) := by omega
      clear hj2
      go_wp2
      go_ret
      exact HF.out
end Go.Proofs.YtnkboccngialiaaDoor
