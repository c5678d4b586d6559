/- Walk: play.Tree. -/
import Derived.Test.YtahlfafcjjkliaaGreatDoorM0
namespace Go.Proofs.YtahlfafcjjkliaaGreatDoor
open Go.RowKit

theorem playF_next {l : List FV} {k : Nat} {f : FV} (hk : k < 30) (hx : l[k]? = some f) : (l.take (k + 1)).foldl playStep [] = playStep ((l.take k).foldl playStep []) f := by
  rw [List.take_add_one, hx, List.foldl_append]; rfl
set_option maxRecDepth 100000 in
set_option maxHeartbeats 4000000 in
theorem playTree_new {A : Option Addr} {n c : Nat} {l : List FV} {w : World} (hn : n ≤ 17592186044416) (h : RdF w w.heap.size A n c l) :
    Calls Tryz.prog 20 #[.slice A n c] w (FilesIsN (· = playF l) w) := by
  have HL := Lib.hid h.len
  go_enter Tryz.func20, Tryz.ntmps20
  go_wp2
  go_loopw [3, 4] (fun lv i wr => ∃ (k : Nat) (A' : Option Addr) (c' : Nat) (out : List FV), k ≤ n ∧ k ≤ 30 ∧ i = .int .i64 k ∧ lv = .slice A' out.length c' ∧ Hid (out = (l.take k).foldl playStep []) ∧ RdF wr wr.heap.size A' out.length c' out ∧ Below w.heap.size w wr ∧ Hid (NewAt A' w.heap.size)) (fun _ i _ => n - (intOf i).toNat)
  case atStart => exact ⟨0, none, 0, [], Nat.zero_le _, Nat.zero_le _, rfl, rfl, by rw [List.take_zero]; exact Lib.hid rfl, RdF.none_ _ _, Below.refl _ _, NewAt.none_ _⟩
  case round =>
    obtain ⟨k, A', c', out, hk, hk30, rfl, rfl, hO, hr, hb, hN⟩ := hrel
    have FIN : k = n ∨ k = 30 → FilesIsN (· = playF l) w (.returned (.slice A' out.length c')) wr := fun e => ⟨A', c', out, rfl, by
      rw [hO.out, playF]
      rcases e with e | e
      · subst e
        have hl : l.length = k := HL.out
        rw [List.take_of_length_le (by omega), List.take_of_length_le (by omega)]
      · rw [e], hr, hb, hN.out⟩
    have HFIN := Lib.hid FIN
    clear FIN
    by_cases hlt : k < n
    · by_cases hlt2 : k < 30
      · obtain ⟨b0, o0, f, rfl, hbb, hx, hfm, h0, h1, h2⟩ := h.get hlt
        replace h0 := (hb.cell (p := ⟨b0, o0 + k * 3, none⟩) (by show b0 < _; omega)).trans h0
        replace h1 := (hb.cell (p := ⟨b0, o0 + k * 3 + 1, none⟩) (by show b0 < _; omega)).trans h1
        replace h2 := (hb.cell (p := ⟨b0, o0 + k * 3 + 2, none⟩) (by show b0 < _; omega)).trans h2
        have hff := h.fits f hfm
        have HN := Lib.hid (show (l.take (k + 1)).foldl playStep [] = playStep out f by rw [hO.out]; exact playF_next hlt2 hx)
        clear hx
        by_cases hq : 2000 < f.text.size
        · have HS := Lib.hid (show playStep out f = out by rw [playStep, if_pos hq])
          go_wp2
          go_roundw
          case rel => exact ⟨k + 1, A', c', out, by omega, by omega, by go_num, rfl, by rw [HN.out, HS.out]; exact Lib.hid rfl, hr, hb, hN⟩
          case measure => simp [intOf]; omega
        · have hol : out.length ≤ 30 := by
            have h3 := (playFold_ok (l.take k) treeOk_nil).2
            rw [← hO.out] at h3
            have := List.length_take_le k l
            simp only [List.length_nil] at h3
            omega
          go_wp2_with fail
          refine (rput_new (f := f) (by omega) hr hff).mono ?_
          rintro e w1 ⟨A1, c1, rfl, hr1, hb1, hN1⟩
          have HN1 := Lib.hid (show NewAt A1 w.heap.size from fun b o s hA => Nat.le_trans hb.size (hN1 b o s hA))
          clear hN1
          have hbb1 := hb.trans (hb1.mono hb.size)
          have hr0 := hr.to hb1 hb1.size
          clear hr hb hb1 h0 h1 h2
          by_cases hz : (putF out f).2 = 0
          · have HS := Lib.hid (show playStep out f = (putF out f).1 by rw [playStep, if_neg hq, if_pos hz])
            generalize putF out f = r at *
            obtain ⟨rl, rk⟩ := r
            obtain rfl : rk = 0 := hz
            clear hq hr0
            go_wp2
            go_roundw
            case rel => exact ⟨k + 1, A1, c1, rl, by omega, by omega, by go_num, rfl, by rw [HN.out, HS.out]; exact Lib.hid rfl, hr1, hbb1, HN1⟩
            case measure => simp [intOf]; omega
          · have HS := Lib.hid (show playStep out f = out by rw [playStep, if_neg hq, if_neg hz])
            generalize putF out f = r at *
            obtain ⟨rl, rk⟩ := r
            have hz' : ¬ rk = 0 := hz
            clear hq hr1
            go_wp2
            go_roundw
            case rel => exact ⟨k + 1, A', c', out, by omega, by omega, by go_num, rfl, by rw [HN.out, HS.out]; exact Lib.hid rfl, hr0, hbb1, hN⟩
            case measure => simp [intOf]; omega
      · have e := HFIN.out (.inr (by omega))
        have he := Lib.hid e
        clear e
        go_wp2
        go_ret
        exact he.out
    · have e := HFIN.out (.inl (by omega))
      have he := Lib.hid e
      clear e
      go_wp2
      go_ret
      exact he.out
theorem playTree_any {A : Option Addr} {n c : Nat} {l : List FV} {w : World} (hn : n ≤ 17592186044416) (h : RdF w w.heap.size A n c l) :
    Calls Tryz.prog 20 #[.slice A n c] w (FilesIs (· = playF l) w) := (playTree_new hn h).mono fun _ _ h => h.old
end Go.Proofs.YtahlfafcjjkliaaGreatDoor
