/- Walk: tree.Apply. -/
import Derived.Test.YtahlfafcjjkliaaGreatDoorM2
namespace Go.Proofs.YtahlfafcjjkliaaGreatDoor
open Go.RowKit

noncomputable def applyOne (l : List FV) (x : ChV) : List FV × Int := if x.del = true then dropF l x.path else putF l ⟨x.path, x.exec, x.text⟩
noncomputable def applyGo : List FV → List ChV → List FV × Int
  | l, [] => (l, 0)
  | l, x :: cs => if (applyOne l x).2 = 0 then applyGo (applyOne l x).1 cs else ([], (applyOne l x).2)
noncomputable def applyF (l : List FV) (cs : List ChV) : List FV × Int := if treeOk l = false then ([], 5) else if 100 < cs.length then ([], 6) else applyGo l cs
theorem putF_tree {l : List FV} {f : FV} (h : (putF l f).2 = 0) : treeOk (putF l f).1 = true := by
  by_cases hk : PutOk l f
  · rw [putF_ok hk]; exact hk.tree_put
  · exact absurd h (putF_no hk).1
theorem dropF_tree {l : List FV} {p : ByteArray} (h : (dropF l p).2 = 0) : treeOk (dropF l p).1 = true := by
  unfold dropF at h ⊢
  split at h
  · cases h
  · rename_i h1
    rw [if_neg h1]
    split at h
    · cases h
    · rename_i h2
      rw [if_neg h2]
      exact treeOk_without (by simpa using h1) p
theorem applyOne_tree {l : List FV} {x : ChV} (h : (applyOne l x).2 = 0) : treeOk (applyOne l x).1 = true := by
  unfold applyOne at h ⊢
  split
  · rename_i hd; rw [if_pos hd] at h; exact dropF_tree h
  · rename_i hd; rw [if_neg hd] at h; exact putF_tree h
set_option maxRecDepth 100000 in
theorem run_file3 (w : World) (p t : ByteArray) (x : Bool) : (Instr.build 35 #[(0, .string p), (1, .bool x), (2, .string t)]).run Tryz.prog w = .ok (.agg #[.string p, .bool x, .string t]) w := by
  go_simp

set_option maxRecDepth 100000 in
set_option maxHeartbeats 4000000 in
theorem apply_any {A A' : Option Addr} {n c n' c' : Nat} {l : List FV} {cs : List ChV} {w : World} (hn : n ≤ 17592186044416) (hn' : n' ≤ 17592186044416) (hm : Lm w) (h : RdF w w.heap.size A n c l) (h' : RdC w w.heap.size A' n' c' cs) :
    Calls Tryz.prog 9 #[.slice A n c, .slice A' n' c'] w (FilesErr (applyF l cs) w) := by
  have HL := Lib.hid h.len
  have HL' := Lib.hid h'.len
  have C := treeRight_any hn hm h
  cases ht : treeOk l with
  | false =>
    rw [ht] at C
    have HO := Lib.hid (show applyF l cs = ([], 5) by rw [applyF, if_pos ht])
    clear ht
    go_enter Tryz.func9, Tryz.ntmps9
    go_wp2_with fail
    refine C.mono ?_
    rintro e w1 ⟨rfl, hb1⟩
    go_wp2
    go_ret2
    exact filesErr_none HO.out hb1
  | true =>
    rw [ht] at C
    by_cases hbig : 100 < n'
    · have HO := Lib.hid (show applyF l cs = ([], 6) by rw [applyF, if_neg (by rw [ht]; decide), if_pos (by rw [HL'.out]; exact hbig)])
      clear ht
      go_enter Tryz.func9, Tryz.ntmps9
      go_wp2_with fail
      refine C.mono ?_
      rintro e w1 ⟨rfl, hb1⟩
      go_wp2
      go_ret2
      exact filesErr_none HO.out hb1
    · have HO := Lib.hid (show applyF l cs = applyGo l cs by rw [applyF, if_neg (by rw [ht]; decide), if_neg (by rw [HL'.out]; exact hbig)])
      have hl100 := treeOk_len ht
      rw [HL.out] at hl100
      have HT := Lib.hid ht
      clear ht
      go_enter Tryz.func9, Tryz.ntmps9
      go_wp2_with fail
      refine C.mono ?_
      rintro e w1 ⟨rfl, hb1⟩
      clear C
      go_wp2_with fail
      refine (cloneF_any (by omega) (h.to hb1 hb1.size)).mono ?_
      rintro e w2 ⟨v, rfl, ho, hv⟩
      have hb2 := hb1.trans (hv.mono hb1.size)
      obtain ⟨A2, c2, rfl, hc2⟩ := ownsRow_cap ho
      have hr2 : RdF w2 w2.heap.size A2 n c2 l := ⟨Rd.of_own ho hc2, HL.out, h.fits⟩
      clear ho hv hb1
      go_wp2
      go_loopw [6, 22] (fun lv i wr => ∃ (k : Nat) (A1 : Option Addr) (c1 : Nat) (cur : List FV), k ≤ n' ∧ i = .int .i64 k ∧ lv = .slice A1 cur.length c1 ∧ Hid (treeOk cur = true) ∧ Hid (applyGo cur (cs.drop k) = applyF l cs) ∧ RdF wr wr.heap.size A1 cur.length c1 cur ∧ Below w.heap.size w wr) (fun _ i _ => n' - (intOf i).toNat)
      case atStart => exact ⟨0, A2, c2, l, by omega, rfl, by rw [HL.out], HT.out, by rw [List.drop_zero]; exact HO.out.symm, by rw [HL.out]; exact hr2, hb2⟩
      case round =>
        clear hr2 hb2
        obtain ⟨k, A1, c1, cur, hk, rfl, rfl, hT, hG, hr, hb⟩ := hrel
        by_cases hlt : k < n'
        · obtain ⟨b0, o0, x, rfl, hbb, hx, hxm, h0, h1, h2, h3⟩ := h'.get hlt
          replace h0 := (hb.cell (p := ⟨b0, o0 + k * 4, none⟩) (by show b0 < _; omega)).trans h0
          replace h1 := (hb.cell (p := ⟨b0, o0 + k * 4 + 1, none⟩) (by show b0 < _; omega)).trans h1
          replace h2 := (hb.cell (p := ⟨b0, o0 + k * 4 + 2, none⟩) (by show b0 < _; omega)).trans h2
          replace h3 := (hb.cell (p := ⟨b0, o0 + k * 4 + 3, none⟩) (by show b0 < _; omega)).trans h3
          have hfit := h'.fits x hxm
          have hcl := treeOk_len hT.out
          have HN := Lib.hid (show applyGo cur (cs.drop k) = if (applyOne cur x).2 = 0 then applyGo (applyOne cur x).1 (cs.drop (k + 1)) else ([], (applyOne cur x).2) by
            obtain ⟨hk', e⟩ := List.getElem?_eq_some_iff.1 hx
            rw [List.drop_eq_getElem_cons hk', e]; rfl)
          have hbA := hb.alloc hb.size (.cells #[.string x.path, .bool x.del, .bool x.exec, .string x.text] 29)
          have hbB : Below wr.heap.size wr (wr.alloc (.cells #[.string x.path, .bool x.del, .bool x.exec, .string x.text] 29)) := (Below.refl _ _).alloc (Nat.le_refl _) _
          have hrA := hr.to hbB hbB.size
          have hmA := hm.below hbA hm.lt
          cases hd : x.del with
          | true =>
            rw [hd] at h1 hbA hrA hmA
            have HA := Lib.hid (show applyOne cur x = dropF cur x.path by rw [applyOne, if_pos hd])
            have htr := dropF_tree (l := cur) (p := x.path)
            clear hd hx hbB
            have hz24 := fun u => run_file3 u x.path x.text x.exec
            go_wp2_with fail
            clear hz24
            refine (drop_any (p := x.path) (by omega) hmA hrA).mono ?_
            rintro e v1 ⟨A3, c3, rfl, hr3, hv3⟩
            have hb3 := hbA.trans (hv3.mono hbA.size)
            clear hbA hrA hmA hv3 h0 h1 h2 h3 hr hb
            generalize dropF cur x.path = r at *
            obtain ⟨rl, rk⟩ := r
            dsimp only at hr3 htr ⊢
            by_cases hz : rk = 0
            · subst hz
              have HTR := Lib.hid (htr rfl)
              clear htr
              go_wp2
              go_roundw
              case rel => exact ⟨k + 1, A3, c3, rl, by omega, by go_num, rfl, HTR, Lib.hid (by rw [← hG.out, HN.out, HA.out, if_pos rfl]), hr3, hb3⟩
              case measure => simp [intOf]; omega
            · have HE := Lib.hid (show applyF l cs = ([], rk) by rw [← hG.out, HN.out, HA.out, if_neg hz])
              clear htr hr3
              go_wp2
              go_ret2
              exact filesErr_none HE.out hb3
          | false =>
            rw [hd] at h1 hbA hrA hmA
            have HA := Lib.hid (show applyOne cur x = putF cur ⟨x.path, x.exec, x.text⟩ by rw [applyOne, if_neg (by rw [hd]; decide)])
            have htr := putF_tree (l := cur) (f := ⟨x.path, x.exec, x.text⟩)
            clear hd hx hbB
            have hz24 := fun u => run_file3 u x.path x.text x.exec
            go_wp2_with fail
            clear hz24
            refine (put_any (f := ⟨x.path, x.exec, x.text⟩) (by omega) hmA hrA hfit).mono ?_
            rintro e v1 ⟨A3, c3, rfl, hr3, hv3⟩
            have hb3 := hbA.trans (hv3.mono hbA.size)
            clear hbA hrA hmA hv3 h0 h1 h2 h3 hr hb
            generalize putF cur ⟨x.path, x.exec, x.text⟩ = r at *
            obtain ⟨rl, rk⟩ := r
            dsimp only at hr3 htr ⊢
            by_cases hz : rk = 0
            · subst hz
              have HTR := Lib.hid (htr rfl)
              clear htr
              go_wp2
              go_roundw
              case rel => exact ⟨k + 1, A3, c3, rl, by omega, by go_num, rfl, HTR, Lib.hid (by rw [← hG.out, HN.out, HA.out, if_pos rfl]), hr3, hb3⟩
              case measure => simp [intOf]; omega
            · have HE := Lib.hid (show applyF l cs = ([], rk) by rw [← hG.out, HN.out, HA.out, if_neg hz])
              clear htr hr3
              go_wp2
              go_ret2
              exact filesErr_none HE.out hb3
        · have hkn : k = n' := by omega
          have HE := Lib.hid (show applyF l cs = (cur, 0) by rw [← hG.out, List.drop_of_length_le (by rw [HL'.out]; omega)]; rfl)
          go_wp2
          go_ret2
          exact filesErr_ok rfl HE.out hr hb
end Go.Proofs.YtahlfafcjjkliaaGreatDoor
