/- Walk: the law ChangeOne. -/
import Derived.Test.YtahlfafcjjkliaaDoorC3
namespace Go.Proofs.YtahlfafcjjkliaaDoor
open Go.RowKit

theorem drop_take_one {α : Type} {l : List α} {r : Nat} {p : α} (h : l[r]? = some p) : (l.take (r + 1)).drop r = [p] := by
  have hr := (List.getElem?_eq_some_iff.1 h).1
  rw [List.take_add_one, h]
  exact List.drop_left' (by rw [List.length_take]; omega)
theorem wrap64_id {x : Int} (h1 : 0 ≤ x) (h2 : x < 1000) : wrap64 x = x := by
  unfold wrap64
  omega
theorem rem_at (x : Int) (N : Nat) (h1 : 0 < N) (h2 : N ≤ 60) : ∃ r : Nat, r < N ∧ wrap64 ((IntKind.u64.wrap x).tmod ↑N) = (r : Int) := by
  have h3 : 0 ≤ IntKind.u64.wrap x := by
    show 0 ≤ IntKind.wrap .u64 x
    unfold IntKind.wrap
    simp [IntKind.bits, IntKind.signed, IntKind.min, IntKind.max]
    omega
  have h4 : (IntKind.u64.wrap x).tmod ↑N = (IntKind.u64.wrap x) % N := Int.tmod_eq_emod_of_nonneg h3
  have h5 := Int.emod_nonneg (IntKind.u64.wrap x) (b := (N : Int)) (by omega)
  have h6 := Int.emod_lt_of_pos (IntKind.u64.wrap x) (b := (N : Int)) (by omega)
  refine ⟨((IntKind.u64.wrap x) % N).toNat, by omega, ?_⟩
  rw [h4, wrap64_id h5 (by omega)]
  omega
set_option maxRecDepth 100000 in
set_option maxHeartbeats 32000000 in
theorem changeOne_any {A A' : Option Addr} {ca cb : Nat} {a b : List FV} {at_ : Int} {w : World} (hm : Lm w) (hla : a.length ≤ 17592186044416) (hlb : b.length ≤ 17592186044416) (hat1 : -9223372036854775808 ≤ at_) (hat2 : at_ ≤ 9223372036854775807)
    (ha : RdF w w.heap.size A a.length ca a) (hb : RdF w w.heap.size A' b.length cb b) :
    Calls Tryd.prog 10 #[.slice A a.length ca, .slice A' b.length cb, .int .i64 at_] w (BoolBelow true w) := by
  have hw : Below w.heap.size w w := Below.refl _ _
  obtain ⟨V, hV⟩ : ∃ u, u = w.alloc (.cells #[.slice A a.length ca, .slice A' b.length cb] 22) := ⟨_, rfl⟩
  have hx : Below w.heap.size w V := by rw [hV]; exact (Below.refl _ _).alloc (Nat.le_refl _) _
  have rs : RdS V V.heap.size (some ⟨w.heap.size, 0, none⟩) 2 2 [⟨A, ca, a⟩, ⟨A', cb, b⟩] := by rw [hV]; exact rdS_two w ⟨A, ca, a⟩ ⟨A', cb, b⟩ ⟨ha, hla⟩ ⟨hb, hlb⟩
  replace hw := hw.trans (hx.mono hw.size)
  replace hm := hm.below hx hm.lt
  replace ha := ha.to hx hx.size
  replace hb := hb.to hx hx.size
  clear hx
  replace hV := Lib.hid hV
  go_enter Tryd.func10, Tryd.ntmps10
  go_wp2_with fail
  rw [← hV.out]
  clear hV
  refine (few22_any (by omega) (by omega) rs (rdC_none V)).mono ?_
  rintro e v1 ⟨⟨f, rfl, hf⟩, hv⟩
  clear hf
  subst hv
  clear rs
  cases f with
  | false =>
    go_wp2_with fail
    refine (awake22_any hm).mono ?_
    rintro e v2 ⟨rfl, hx⟩
    replace hw := hw.trans (hx.mono hw.size)
    replace hm := hm.below hx hm.lt
    replace ha := ha.to hx hx.size
    replace hb := hb.to hx hx.size
    clear hx
    go_wp2
    go_ret
    exact ⟨rfl, hw⟩
  | true =>
    go_wp2_with fail
    refine (playTree_any hla ha).mono ?_
    rintro e v2 ⟨A1, c1, a1, rfl, e1, ra, hx⟩
    replace hw := hw.trans (hx.mono hw.size)
    replace hm := hm.below hx hm.lt
    replace ha := ha.to hx hx.size
    replace hb := hb.to hx hx.size
    clear hx
    clear ha
    replace e1 := Lib.hid e1
    go_wp2_with fail
    refine (playTree_any hlb hb).mono ?_
    rintro e v3 ⟨A2, c2, b1, rfl, e2, rb, hx⟩
    replace hw := hw.trans (hx.mono hw.size)
    replace hm := hm.below hx hm.lt
    replace ra := ra.to hx hx.size
    replace hb := hb.to hx hx.size
    clear hx
    replace e1 := e1.out
    have hal := playF_len a
    have hbl := playF_len b
    rw [← e1] at hal
    rw [← e2] at hbl
    have HTA := Lib.hid (show treeOk a1 = true by rw [e1]; exact playF_ok a)
    have HTB := Lib.hid (show treeOk b1 = true by rw [e2]; exact playF_ok b)
    clear hb e1 e2 hla hlb
    have hcl := changesF_len a1 b1
    go_wp2_with fail
    refine (rchanges_any (by omega) (by omega) ra rb).mono ?_
    rintro e v4 ⟨A3, c3, q, rfl, eq, rq, hx⟩
    replace hw := hw.trans (hx.mono hw.size)
    replace hm := hm.below hx hm.lt
    replace ra := ra.to hx hx.size
    replace rb := rb.to hx hx.size
    clear hx
    rw [← eq] at hcl
    have HQ := Lib.hid (show q = changesF a1 b1 from eq)
    clear eq
    have hql : q.length ≤ 60 := by omega
    go_wp2
    go_loopw [8, 9] (fun sv i wr => ∃ k : Nat, k ≤ q.length ∧ i = .int .i64 k ∧ Below v4.heap.size v4 wr ∧ wr.ownsRow v4.heap.size 9 1 sv k (((q.take k).map ChV.path).map .string)) (fun _ i _ => q.length - (intOf i).toNat)
    case atStart => exact ⟨0, by omega, rfl, Below.refl _ _, by rw [List.take_zero]; exact World.ownsRow_nil _ _ _ _⟩
    case round =>
      obtain ⟨k, hk, rfl, hb, ho⟩ := hrel
      by_cases hlt : k < q.length
      · obtain ⟨b0, o0, f, rfl, hbb, hx, hfm, h0, _, _, _⟩ := rq.get hlt
        replace h0 := (hb.cell (p := ⟨b0, o0 + k * 4, none⟩) (by show b0 < _; omega)).trans h0
        have HT := Lib.hid (show (q.take (k + 1)).map ChV.path = (q.take k).map ChV.path ++ [f.path] by rw [List.take_add_one, hx]; simp)
        have hb1 := hb.alloc hb.size (.cells #[.string f.path] 9)
        have ho1 := ho.alloc (.cells #[.string f.path] 9)
        clear hx ho
        go_wp2_with (at_builtin; refine wpl_append rfl (.tmp 36) (.tmp 42) 50 rfl E_strs2 rfl rfl ho1 (rd_litS3 _ f.path _ rfl) (oneCell_str [f.path]) (by unfold maxLen; omega) (by omega) hb1.size ?_; intro v9 w9 ho9 hg9 hv9)
        go_roundw
        case rel =>
          refine ⟨k + 1, by omega, by go_num, hb1.grown hg9 hb1.size (fun g hg => (ho1.lt g hg).1), ?_⟩
          rw [HT.out, List.map_append]
          exact ho9
        case measure => simp [intOf]; omega
      · obtain rfl : k = q.length := by omega
        rw [List.take_length] at ho
        obtain ⟨N, hN⟩ : ∃ N, q.length = N := ⟨_, rfl⟩
        have hN2 : N ≤ 60 := by omega
        have HNQ := Lib.hid hN
        rw [hN] at ho
        obtain ⟨As, cs, rfl, hcs⟩ := ownsRow_cap ho
        have hS := Rd.of_own ho hcs
        have HD := Lib.hid (show q.map ChV.path = diffs a1 b1 by rw [HQ.out]; rfl)
        rw [HD.out] at hS
        have HDL := Lib.hid (show (diffs a1 b1).length = N by rw [← HD.out, List.length_map]; exact hN)
        have HDF := Lib.hid (show ∀ s ∈ diffs a1 b1, s.size ≤ maxLen from fun s hs => by
          rw [← HD.out] at hs
          obtain ⟨f, hf, rfl⟩ := List.mem_map.1 hs
          have := (rq.fits f hf).1
          unfold maxLen; omega)
        replace hw := hw.trans (hb.mono hw.size)
        replace hm := hm.below hb hm.lt
        replace ra := ra.to hb hb.size
        replace rb := rb.to hb hb.size
        rw [hN] at hk hlt
        rw [hN]
        clear hb ho rq hN hcl hql
        have C := split_any (by omega) (by omega) (by omega) hm ra rb hS HDF.out
        rw [split_all HTA.out HTB.out hal hbl] at C
        go_wp2_with fail
        refine C.mono ?_
        rintro e y1 ⟨Z1, z1, rfl, _, hx⟩
        replace hw := hw.trans (hx.mono hw.size)
        replace hm := hm.below hx hm.lt
        replace ra := ra.to hx hx.size
        replace rb := rb.to hx hx.size
        replace hS := hS.to hx hx.size
        clear hx C
        have C := split_any (A'' := none) (m := 0) (c'' := 0) (ps := []) (by omega) (by omega) (by omega) hm ra rb (Rd.none_ _ _ _) (fun s hs => by cases hs)
        rw [split_none HTA.out HTB.out] at C
        go_wp2_with fail
        refine C.mono ?_
        rintro e y2 ⟨Z2, z2, rfl, _, hx⟩
        replace hw := hw.trans (hx.mono hw.size)
        replace hm := hm.below hx hm.lt
        replace ra := ra.to hx hx.size
        replace rb := rb.to hx hx.size
        replace hS := hS.to hx hx.size
        clear hx C
        go_wp2_with fail
        refine (awake22_any hm).mono ?_
        rintro e y3 ⟨rfl, hx⟩
        replace hw := hw.trans (hx.mono hw.size)
        replace hm := hm.below hx hm.lt
        replace ra := ra.to hx hx.size
        replace rb := rb.to hx hx.size
        replace hS := hS.to hx hx.size
        clear hx
        by_cases h2 : N < 2
        · go_wp2
          go_ret
          exact ⟨rfl, hw⟩
        · obtain ⟨r, hr, he⟩ : ∃ r : Nat, r < N ∧ wrap64 ((IntKind.u64.wrap at_).tmod ↑N) = (r : Int) := rem_at at_ N (by omega) (by omega)
          obtain ⟨p, hp⟩ : ∃ p, (diffs a1 b1)[r]? = some p := ⟨_, List.getElem?_eq_getElem (by rw [HDL.out]; exact hr)⟩
          have hcut : Rd y3 y3.heap.size 1 (Option.map (fun x => x.add r) As) 1 (cs - r) ([p].map .string) := by
            have := hS.cut (l := r) (k := r + 1) (by omega) (by omega)
            simp only [Nat.mul_one] at this
            rw [if_neg (by omega), show r + 1 - r = 1 by omega, ← List.map_take, ← List.map_drop, drop_take_one hp] at this
            exact this
          have HPM := Lib.hid (List.mem_of_getElem? hp)
          have HPS := Lib.hid (show ∀ s ∈ [p], s.size ≤ maxLen from fun s hs => by
            simp only [List.mem_singleton] at hs
            rw [hs]
            exact HDF.out p HPM.out)
          have HS := Lib.hid (show (splitF a1 b1 [p]).2 = 0 → treeOk (splitF a1 b1 [p]).1 = true ∧ (changesF a1 (splitF a1 b1 [p]).1).length = 1 ∧ (changesF (splitF a1 b1 [p]).1 b1).length + 1 = N from fun h => by
            have h1 := split_ok HTA.out HTB.out h
            have h2 := split_one h1 HPM.out
            rw [← HQ.out, HNQ.out] at h2
            exact ⟨h1.tree, h2⟩)
          have hr1 : wrap64 ((r : Int) + 1) = (r : Int) + 1 := wrap64_id (by omega) (by omega)
          clear hp hat1 hat2
          go_wp2_with fail
          have C := split_any (by omega) (by omega) (by omega) hm ra rb hcut HPS.out
          generalize splitF a1 b1 [p] = g at *
          obtain ⟨x, k⟩ := g
          dsimp only at C HS
          refine C.mono ?_
          rintro e y4 ⟨A5, c5, rfl, rx, hx⟩
          dsimp only at rx ⊢
          replace hw := hw.trans (hx.mono hw.size)
          replace ra := ra.to hx hx.size
          replace rb := rb.to hx hx.size
          clear hx C hcut hS he hr1
          by_cases hk : k = 0
          · subst hk
            obtain ⟨t1, t2, t3⟩ := HS.out rfl
            have hxl := treeOk_len t1
            have T2 := Lib.hid t2
            have T3 := Lib.hid t3
            clear HS t1 t2 t3
            go_wp2_with fail
            refine (rchanges_any (by omega) (by omega) ra rx).mono ?_
            rintro e y5 ⟨A6, c6, l6, rfl, e6, _, hx⟩
            rw [show l6.length = 1 by rw [e6]; exact T2.out]
            replace hw := hw.trans (hx.mono hw.size)
            replace rx := rx.to hx hx.size
            replace rb := rb.to hx hx.size
            clear hx e6 ra
            go_wp2_with fail
            refine (rchanges_any (by omega) (by omega) rx rb).mono ?_
            rintro e y6 ⟨A7, c7, l7, rfl, e7, _, hx⟩
            have e8 : l7.length = N - 1 := by
              have := T3.out
              rw [← e7] at this; omega
            rw [e8]
            have e9 : ((N - 1 : Nat) : Int) = (N : Int) - 1 := by omega
            replace hw := hw.trans (hx.mono hw.size)
            clear hx e7 e8 rx rb
            go_wp2
            go_ret
            exact ⟨rfl, hw⟩
          · go_wp2
            go_ret
            exact ⟨rfl, hw⟩
end Go.Proofs.YtahlfafcjjkliaaDoor
