/- Walk: the law ChangeSplits. -/
import Derived.Test.YtahlfafcjjkliaaDoorCN
namespace Go.Proofs.YtahlfafcjjkliaaDoor
open Go.RowKit

set_option maxRecDepth 100000 in
set_option maxHeartbeats 32000000 in
theorem changeSplits_any {A A' A'' : Option Addr} {ca cb cp : Nat} {a b : List FV} {ps : List ByteArray} {p : ByteArray} {w : World} (hm : Lm w) (hla : a.length ≤ 17592186044416) (hlb : b.length ≤ 17592186044416) (hlp : ps.length ≤ 17592186044416)
    (ha : RdF w w.heap.size A a.length ca a) (hb : RdF w w.heap.size A' b.length cb b) (hp : Rd w w.heap.size 1 A'' ps.length cp (ps.map .string)) (hpf : ∀ s ∈ ps, s.size ≤ 140737488351232) :
    Calls Tryd.prog 8 #[.slice A a.length ca, .slice A' b.length cb, .slice A'' ps.length cp, .string p] w (BoolBelow true w) := by
  have hw : Below w.heap.size w w := Below.refl _ _
  have HPF := Lib.hid (show ∀ s ∈ ps, s.size ≤ maxLen from fun s hs => by have := hpf s hs; unfold maxLen; omega)
  clear hpf
  obtain ⟨V, hV⟩ : ∃ u, u = w.alloc (.cells #[.slice A a.length ca, .slice A' b.length cb] 22) := ⟨_, rfl⟩
  have hx : Below w.heap.size w V := by rw [hV]; exact (Below.refl _ _).alloc (Nat.le_refl _) _
  have rs : RdS V V.heap.size (some ⟨w.heap.size, 0, none⟩) 2 2 [⟨A, ca, a⟩, ⟨A', cb, b⟩] := by rw [hV]; exact rdS_two w ⟨A, ca, a⟩ ⟨A', cb, b⟩ ⟨ha, hla⟩ ⟨hb, hlb⟩
  replace hw := hw.trans (hx.mono hw.size)
  replace hm := hm.below hx hm.lt
  replace ha := ha.to hx hx.size
  replace hb := hb.to hx hx.size
  replace hp := hp.to hx hx.size
  clear hx
  replace hV := Lib.hid hV
  go_enter Tryd.func8, Tryd.ntmps8
  go_wp2_with fail
  rw [← hV.out]
  clear hV
  refine (few22_any (by omega) (by omega) rs (rdC_none V)).mono ?_
  rintro e v1 ⟨⟨f, rfl, hf⟩, hv⟩
  clear hf
  subst hv
  clear rs
  cases f with
  | false =>
    go_wp2_with fail
    refine (awake22_any hm).mono ?_
    rintro e v2 ⟨rfl, hx⟩
    replace hw := hw.trans (hx.mono hw.size)
    replace hm := hm.below hx hm.lt
    replace ha := ha.to hx hx.size
    replace hb := hb.to hx hx.size
    replace hp := hp.to hx hx.size
    clear hx
    go_wp2
    go_ret
    exact ⟨rfl, hw⟩
  | true =>
    by_cases h20 : 20 < ps.length
    · go_wp2_with fail
      refine (awake22_any hm).mono ?_
      rintro e v2 ⟨rfl, hx⟩
      replace hw := hw.trans (hx.mono hw.size)
      replace hm := hm.below hx hm.lt
      replace ha := ha.to hx hx.size
      replace hb := hb.to hx hx.size
      replace hp := hp.to hx hx.size
      clear hx
      go_wp2
      go_ret
      exact ⟨rfl, hw⟩
    · go_wp2_with fail
      refine (playTree_any hla ha).mono ?_
      rintro e v2 ⟨A1, c1, a1, rfl, e1, ra, hx⟩
      replace hw := hw.trans (hx.mono hw.size)
      replace hm := hm.below hx hm.lt
      replace ha := ha.to hx hx.size
      replace hb := hb.to hx hx.size
      replace hp := hp.to hx hx.size
      clear hx
      clear ha
      replace e1 := Lib.hid e1
      go_wp2_with fail
      refine (playTree_any hlb hb).mono ?_
      rintro e v3 ⟨A2, c2, b1, rfl, e2, rb, hx⟩
      replace hw := hw.trans (hx.mono hw.size)
      replace hm := hm.below hx hm.lt
      replace ra := ra.to hx hx.size
      replace hb := hb.to hx hx.size
      replace hp := hp.to hx hx.size
      clear hx
      replace e1 := e1.out
      have hal := playF_len a
      have hbl := playF_len b
      rw [← e1] at hal
      rw [← e2] at hbl
      have hta : treeOk a1 = true := by rw [e1]; exact playF_ok a
      have htb : treeOk b1 = true := by rw [e2]; exact playF_ok b
      have HS := Lib.hid (show (splitF a1 b1 ps).2 = 0 → SplitOk a1 b1 (splitF a1 b1 ps).1 ps from split_ok hta htb)
      have HN := Lib.hid (show (splitF a1 b1 ps).2 ≠ 0 → (splitF a1 b1 ps).1 = [] from split_no)
      clear hb e1 e2 hta htb hla hlb
      go_wp2_with fail
      refine (split_any (by omega) (by omega) (by omega) hm ra rb hp HPF.out).mono ?_
      rintro e v4 ⟨A3, c3, rfl, rx, hx⟩
      replace hw := hw.trans (hx.mono hw.size)
      replace hm := hm.below hx hm.lt
      replace ra := ra.to hx hx.size
      replace rb := rb.to hx hx.size
      replace hp := hp.to hx hx.size
      clear hx
      generalize splitF a1 b1 ps = r at *
      obtain ⟨x, k⟩ := r
      dsimp only at rx HS HN ⊢
      by_cases hk : k = 0
      · subst hk
        have HSP := Lib.hid (HS.out rfl)
        clear HS HN
        have hxl := treeOk_len HSP.out.tree
        go_wp2_with fail
        refine (awake22_any hm).mono ?_
        rintro e v5 ⟨rfl, hx⟩
        replace hw := hw.trans (hx.mono hw.size)
        replace hm := hm.below hx hm.lt
        replace ra := ra.to hx hx.size
        replace rb := rb.to hx hx.size
        replace hp := hp.to hx hx.size
        replace rx := rx.to hx hx.size
        clear hx
        go_wp2_with (at_builtin; first
          | (refine wpl_append rfl (.const (.slice none 0 0)) (.tmp 53) 50 rfl E_strs2 rfl rfl (World.ownsRow_nil v5 v5.heap.size _ _) hp (oneCell_str _) (by unfold maxLen; omega) (by omega) (Nat.le_refl _) ?_
             intro u1 w1 ho1 hg1 hv1
             rw [Nat.zero_add, List.nil_append] at ho1
             have hy1 : Below v5.heap.size v5 w1 := (Below.refl _ _).grown hg1 (Nat.le_refl _) (fun g hg => by cases hg)
             have hy2 := hy1.alloc hy1.size (.cells #[.string p] 9)
             have ho2 := ho1.alloc (.cells #[.string p] 9))
          | (refine wpl_append rfl (.tmp 54) (.tmp 56) 50 rfl E_strs2 rfl rfl ho2 (rd_litS3 _ p _ rfl) (oneCell_str [p]) (by unfold maxLen; omega) (by omega) hy2.size ?_
             intro u2 w2 ho3 hg3 hv3))
        rw [← List.map_append] at ho3
        have hy3 := hy2.grown hg3 hy2.size (fun g hg => (ho2.lt g hg).1)
        clear ho1 ho2 hg1 hg3 hv1 hv3 hy1 hy2
        go_wp2
        go_loopw [11, 12] (fun sv i wr => ∃ k : Nat, k ≤ a1.length ∧ i = .int .i64 k ∧ Below v5.heap.size v5 wr ∧ wr.ownsRow v5.heap.size 9 1 sv (ps.length + 1 + k) ((ps ++ [p] ++ (a1.take k).map FV.path).map .string)) (fun _ i _ => a1.length - (intOf i).toNat)
        case atStart => exact ⟨0, by omega, rfl, hy3, by rw [List.take_zero, List.map_nil, List.append_nil]; exact ho3⟩
        case round =>
          clear hy3 ho3
          obtain ⟨k, hk, rfl, hb, ho⟩ := hrel
          by_cases hlt : k < a1.length
          · obtain ⟨b0, o0, f, rfl, hbb, hx, hfm, h0, _, _⟩ := ra.get hlt
            replace h0 := (hb.cell (p := ⟨b0, o0 + k * 3, none⟩) (by show b0 < _; omega)).trans h0
            have HT := Lib.hid (show (a1.take (k + 1)).map FV.path = (a1.take k).map FV.path ++ [f.path] by rw [List.take_add_one, hx]; simp)
            have hb1 := hb.alloc hb.size (.cells #[.string f.path] 9)
            have ho1 := ho.alloc (.cells #[.string f.path] 9)
            clear hx ho
            go_wp2_with (at_builtin; refine wpl_append rfl (.tmp 64) (.tmp 70) 50 rfl E_strs2 rfl rfl ho1 (rd_litS3 _ f.path _ rfl) (oneCell_str [f.path]) (by unfold maxLen; omega) (by omega) hb1.size ?_; intro v9 w9 ho9 hg9 hv9)
            go_roundw
            case rel =>
              refine ⟨k + 1, by omega, by go_num, hb1.grown hg9 hb1.size (fun g hg => (ho1.lt g hg).1), ?_⟩
              rw [HT.out, ← List.append_assoc, List.map_append]
              exact ho9
            case measure => simp [intOf]; omega
          · obtain rfl : k = a1.length := by omega
            rw [List.take_length] at ho
            go_wp2
            go_loopw [11, 13] (fun sv i wr => ∃ k : Nat, k ≤ b1.length ∧ i = .int .i64 k ∧ Below v5.heap.size v5 wr ∧ wr.ownsRow v5.heap.size 9 1 sv (ps.length + 1 + a1.length + k) ((ps ++ [p] ++ a1.map FV.path ++ (b1.take k).map FV.path).map .string)) (fun _ i _ => b1.length - (intOf i).toNat)
            case atStart => exact ⟨0, by omega, rfl, hb, by rw [List.take_zero, List.map_nil, List.append_nil]; exact ho⟩
            case round =>
              clear hb ho
              obtain ⟨k, hk, rfl, hb, ho⟩ := hrel
              by_cases hlt : k < b1.length
              · obtain ⟨b0, o0, f, rfl, hbb, hx, hfm, h0, _, _⟩ := rb.get hlt
                replace h0 := (hb.cell (p := ⟨b0, o0 + k * 3, none⟩) (by show b0 < _; omega)).trans h0
                have HT := Lib.hid (show (b1.take (k + 1)).map FV.path = (b1.take k).map FV.path ++ [f.path] by rw [List.take_add_one, hx]; simp)
                have hb1 := hb.alloc hb.size (.cells #[.string f.path] 9)
                have ho1 := ho.alloc (.cells #[.string f.path] 9)
                clear hx ho
                go_wp2_with (at_builtin; refine wpl_append rfl (.tmp 78) (.tmp 84) 50 rfl E_strs2 rfl rfl ho1 (rd_litS3 _ f.path _ rfl) (oneCell_str [f.path]) (by unfold maxLen; omega) (by omega) hb1.size ?_; intro v9 w9 ho9 hg9 hv9)
                go_roundw
                case rel =>
                  refine ⟨k + 1, by omega, by go_num, hb1.grown hg9 hb1.size (fun g hg => (ho1.lt g hg).1), ?_⟩
                  rw [HT.out, ← List.append_assoc, List.map_append]
                  exact ho9
                case measure => simp [intOf]; omega
              · obtain rfl : k = b1.length := by omega
                rw [List.take_length] at ho
                obtain ⟨N, hN⟩ : ∃ N, ps.length + 1 + a1.length + b1.length = N := ⟨_, rfl⟩
                have hN2 : N ≤ 200 := by omega
                rw [hN] at ho
                obtain ⟨As, cs, rfl, hcs⟩ := ownsRow_cap ho
                have hS := Rd.of_own ho hcs
                generalize ps ++ [p] ++ a1.map FV.path ++ b1.map FV.path = S at hS
                replace hw := hw.trans (hb.mono hw.size)
                replace hm := hm.below hb hm.lt
                replace ra := ra.to hb hb.size
                replace rb := rb.to hb hb.size
                replace hp := hp.to hb hb.size
                replace rx := rx.to hb hb.size
                obtain ⟨U, hU⟩ : ∃ U, U = wr := ⟨_, rfl⟩
                rw [← hU] at hS hw hm ra rb hp rx
                have hst : Below U.heap.size U wr := by rw [hU]; exact Below.refl _ _
                have hi24 : (Tryd.prog.info? 24).map (·.size) = some 3 := by kernel_rfl
                clear hb ho hN hcs hU
                go_wp2
                go_loopw [14] (fun i wr => ∃ k : Nat, k ≤ N ∧ i = .int .i64 k ∧ Below U.heap.size U wr) (fun i _ => N - (intOf i).toNat)
                case atStart => exact ⟨0, by omega, rfl, hst⟩
                case round =>
                  clear hst
                  obtain ⟨k, hk, rfl, hb⟩ := hrel
                  by_cases hlt : k < N
                  · obtain ⟨b0, o0, q, rfl, hbb, hq, h0⟩ := hS.str hlt
                    have hat := HSP.out.at_ q
                    have C1 := rfind_any (p := q) (by omega) (rx.to hb hb.size)
                    have h1 := (hb.cell (p := ⟨b0, o0 + k, none⟩) hbb).trans h0
                    clear hq
                    cases hin : hasS ps q with
                    | true =>
                      rw [if_pos hin] at hat
                      rw [hat] at C1
                      clear hat
                      go_wp2_with fail
                      refine C1.mono ?_
                      rintro e x1 ⟨rfl, hx1⟩
                      have hb1 := hb.trans (hx1.mono hb.size)
                      obtain ⟨x2, hx2⟩ : ∃ u, u = x1.alloc (.cells #[.string (optF (findP b1 q)).path, .bool (optF (findP b1 q)).exec, .string (optF (findP b1 q)).text] 24) := ⟨_, rfl⟩
                      have hb2 : Below U.heap.size U x2 := by rw [hx2]; exact hb1.alloc hb1.size _
                      have xa : Box (optF (findP b1 q)) x1.heap.size x2 := by rw [hx2]; exact Box.new _ _
                      have h2 := (hb2.cell (p := ⟨b0, o0 + k, none⟩) hbb).trans h0
                      rw [hx2] at h2
                      have HX2 := Lib.hid hx2
                      clear hx2 C1 hx1 h1
                      go_wp2_with fail
                      rw [← HX2.out]
                      refine (rfind_any (p := q) (by omega) (ra.to hb2 hb2.size)).mono ?_
                      rintro e x3 ⟨rfl, hx3⟩
                      have hlt13 : x1.heap.size < x3.heap.size := Nat.lt_of_lt_of_le xa.1 hx3.size
                      have hb3 := hb2.trans (hx3.mono hb2.size)
                      have hle3 := hb3.size
                      replace xa := xa.re hx3
                      clear h2 HX2
                      obtain ⟨x4, hx4⟩ : ∃ u, u = x3.alloc (.cells #[.string (optF (findP a1 q)).path, .bool (optF (findP a1 q)).exec, .string (optF (findP a1 q)).text] 24) := ⟨_, rfl⟩
                      have hx5 : Below x3.heap.size x3 x4 := by rw [hx4]; exact (Below.refl _ _).alloc (Nat.le_refl _) _
                      have hb4 := hb3.trans (hx5.mono hb3.size)
                      have xb : Box (optF (findP a1 q)) x3.heap.size x4 := by rw [hx4]; exact Box.new _ _
                      have hbx : x4.heap[x3.heap.size]? = some (.cells #[.string (optF (findP a1 q)).path, .bool (optF (findP a1 q)).exec, .string (optF (findP a1 q)).text] 24 (0, 0)) := by rw [hx4]; exact heap_alloc_new _ _
                      replace xa := xa.re hx5
                      have h4 := (hb4.cell (p := ⟨b0, o0 + k, none⟩) hbb).trans h0
                      have CIN := inS_any (p := q) (by omega) (hp.to hb4 hb4.size)
                      rw [hx4] at h4
                      have HX4 := Lib.hid hx4
                      clear hx4 hx3 hx5 hb1 hb2 hb3
                      go_wp2_with fail
                      rw [← HX4.out]
                      refine CIN.mono ?_
                      rintro e y4 ⟨rfl, hy⟩
                      subst hy
                      rw [hin]
                      clear CIN hin
                      have h5 := (hb4.cell (p := ⟨b0, o0 + k, none⟩) hbb).trans h0
                      go_wp2_with fail
                      clear h5
                      refine (rfind_any (p := q) (by omega) (rb.to hb4 hb4.size)).mono ?_
                      rintro e y5 ⟨rfl, hy5⟩
                      have hb5 := hb4.trans (hy5.mono hb4.size)
                      replace xa := xa.re hy5
                      have hbox := (hy5.block _ xb.1).trans hbx
                      generalize optF (findP b1 q) = g at *
                      generalize (findP b1 q).isSome = s at *
                      have xa2 : Box g x1.heap.size (y5.setRow x3.heap.size #[.string g.path, .bool g.exec, .string g.text]) := by
                        have hk := below_setRow (Below.refl x3.heap.size y5) (Nat.le_refl _) (cs := #[.string g.path, .bool g.exec, .string g.text])
                        exact ⟨Nat.lt_of_lt_of_le hlt13 (Nat.le_of_lt (Nat.lt_of_lt_of_le xb.1 (Nat.le_trans hy5.size hk.size))), fun i v hv => (hk.cell (p := ⟨x1.heap.size, i, none⟩) hlt13).trans (xa.2 i v hv)⟩
                      have hrow := setRow_heap y5 x3.heap.size _ #[.string g.path, .bool g.exec, .string g.text] _ _ hbox
                      have xb2 : ∀ i v, g.cells[i]? = some v → (y5.setRow x3.heap.size #[.string g.path, .bool g.exec, .string g.text]).cell? ⟨x3.heap.size, i, none⟩ = some v := fun i v hv => by
                        rw [World.cell?, hrow]; simpa [FV.cells] using hv
                      have xa0 := xa2.2 0 _ rfl
                      have xa1 := xa2.2 1 _ rfl
                      have xa22 := xa2.2 2 _ rfl
                      have xc0 := xb2 0 _ rfl
                      have xc1 := xb2 1 _ rfl
                      have xc2 := xb2 2 _ rfl
                      have hb6 := below_setRow (cs := #[.string g.path, .bool g.exec, .string g.text]) hb5 hle3
                      clear xa xb xa2 xb2 hrow hbx
                      go_wp2_with (refine wpList_store_row rfl 24 (.tmp 17) (.tmp 123) rfl x3.heap.size #[.string g.path, .bool g.exec, .string g.text] rfl rfl _ _ hbox hi24 rfl (by simp [Value.oneCell']) ?_)
                      go_wp2
                      go_roundw
                      case rel => exact ⟨k + 1, by omega, by go_num, hb6⟩
                      case measure => simp [intOf]; omega
                    | false =>
                      rw [if_neg (by rw [hin]; decide)] at hat
                      rw [hat] at C1
                      clear hat
                      go_wp2_with fail
                      refine C1.mono ?_
                      rintro e x1 ⟨rfl, hx1⟩
                      have hb1 := hb.trans (hx1.mono hb.size)
                      obtain ⟨x2, hx2⟩ : ∃ u, u = x1.alloc (.cells #[.string (optF (findP a1 q)).path, .bool (optF (findP a1 q)).exec, .string (optF (findP a1 q)).text] 24) := ⟨_, rfl⟩
                      have hb2 : Below U.heap.size U x2 := by rw [hx2]; exact hb1.alloc hb1.size _
                      have xa : Box (optF (findP a1 q)) x1.heap.size x2 := by rw [hx2]; exact Box.new _ _
                      have h2 := (hb2.cell (p := ⟨b0, o0 + k, none⟩) hbb).trans h0
                      rw [hx2] at h2
                      have HX2 := Lib.hid hx2
                      clear hx2 C1 hx1 h1
                      go_wp2_with fail
                      rw [← HX2.out]
                      refine (rfind_any (p := q) (by omega) (ra.to hb2 hb2.size)).mono ?_
                      rintro e x3 ⟨rfl, hx3⟩
                      have hlt13 : x1.heap.size < x3.heap.size := Nat.lt_of_lt_of_le xa.1 hx3.size
                      have hb3 := hb2.trans (hx3.mono hb2.size)
                      have hle3 := hb3.size
                      replace xa := xa.re hx3
                      clear h2 HX2
                      obtain ⟨x4, hx4⟩ : ∃ u, u = x3.alloc (.cells #[.string (optF (findP a1 q)).path, .bool (optF (findP a1 q)).exec, .string (optF (findP a1 q)).text] 24) := ⟨_, rfl⟩
                      have hx5 : Below x3.heap.size x3 x4 := by rw [hx4]; exact (Below.refl _ _).alloc (Nat.le_refl _) _
                      have hb4 := hb3.trans (hx5.mono hb3.size)
                      have xb : Box (optF (findP a1 q)) x3.heap.size x4 := by rw [hx4]; exact Box.new _ _
                      have hbx : x4.heap[x3.heap.size]? = some (.cells #[.string (optF (findP a1 q)).path, .bool (optF (findP a1 q)).exec, .string (optF (findP a1 q)).text] 24 (0, 0)) := by rw [hx4]; exact heap_alloc_new _ _
                      replace xa := xa.re hx5
                      have h4 := (hb4.cell (p := ⟨b0, o0 + k, none⟩) hbb).trans h0
                      have CIN := inS_any (p := q) (by omega) (hp.to hb4 hb4.size)
                      rw [hx4] at h4
                      have HX4 := Lib.hid hx4
                      clear hx4 hx3 hx5 hb1 hb2 hb3
                      go_wp2_with fail
                      rw [← HX4.out]
                      refine CIN.mono ?_
                      rintro e y4 ⟨rfl, hy⟩
                      subst hy
                      rw [hin]
                      clear CIN hin
                      have xa0 := xa.2 0 _ rfl
                      have xa1 := xa.2 1 _ rfl
                      have xa22 := xa.2 2 _ rfl
                      have xc0 := xb.2 0 _ rfl
                      have xc1 := xb.2 1 _ rfl
                      have xc2 := xb.2 2 _ rfl
                      clear xa xb hbx
                      generalize optF (findP a1 q) = g at *
                      generalize (findP a1 q).isSome = s at *
                      go_wp2
                      go_roundw
                      case rel => exact ⟨k + 1, by omega, by go_num, hb4⟩
                      case measure => simp [intOf]; omega
                  · obtain rfl : k = N := by omega
                    replace hw := hw.trans (hb.mono hw.size)
                    replace hm := hm.below hb hm.lt
                    replace ra := ra.to hb hb.size
                    replace rb := rb.to hb hb.size
                    replace rx := rx.to hb hb.size
                    clear hb hS
                    go_wp2_with fail
                    refine (rright_any (by omega) rx).mono ?_
                    rintro e y1 ⟨rfl, hx⟩
                    rw [HSP.out.tree]
                    replace hw := hw.trans (hx.mono hw.size)
                    replace ra := ra.to hx hx.size
                    replace rb := rb.to hx hx.size
                    replace rx := rx.to hx hx.size
                    clear hx
                    go_wp2_with fail
                    refine (plainF_any (by omega) (by omega) rx.row ra.row rfl rfl).mono ?_
                    rintro e y2 ⟨rfl, hx⟩
                    rw [decide_eq_false HSP.out.notA]
                    replace hw := hw.trans (hx.mono hw.size)
                    replace rb := rb.to hx hx.size
                    replace rx := rx.to hx hx.size
                    clear hx
                    go_wp2_with fail
                    refine (plainF_any (by omega) (by omega) rx.row rb.row rfl rfl).mono ?_
                    rintro e y3 ⟨rfl, hx⟩
                    rw [decide_eq_false HSP.out.notB]
                    replace hw := hw.trans (hx.mono hw.size)
                    clear hx
                    go_wp2
                    go_ret
                    exact ⟨rfl, hw⟩
      · obtain rfl : x = [] := HN.out hk
        clear HS HN
        go_wp2_with fail
        refine (awake22_any hm).mono ?_
        rintro e v5 ⟨rfl, hx⟩
        replace hw := hw.trans (hx.mono hw.size)
        replace hm := hm.below hx hm.lt
        replace ra := ra.to hx hx.size
        replace rb := rb.to hx hx.size
        replace hp := hp.to hx hx.size
        replace rx := rx.to hx hx.size
        clear hx
        go_wp2_with fail
        refine (awake22_any hm).mono ?_
        rintro e v6 ⟨rfl, hx⟩
        replace hw := hw.trans (hx.mono hw.size)
        replace hm := hm.below hx hm.lt
        replace ra := ra.to hx hx.size
        replace rb := rb.to hx hx.size
        replace hp := hp.to hx hx.size
        replace rx := rx.to hx hx.size
        clear hx
        go_wp2
        go_ret
        exact ⟨rfl, hw⟩
end Go.Proofs.YtahlfafcjjkliaaDoor
