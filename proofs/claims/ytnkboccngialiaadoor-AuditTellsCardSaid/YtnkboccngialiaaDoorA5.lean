/- Walks: few and awake of the law on audit. -/
import Derived.Test.YtnkboccngialiaaDoorA4
namespace Go.Proofs.YtnkboccngialiaaDoor
open Go.RowKit

def BoolSome (w : World) (e : Ending) (w' : World) : Prop := ∃ b : Bool, e = .returned (.bool b) ∧ Below w.heap.size w w'
set_option maxRecDepth 100000 in
set_option maxHeartbeats 8000000 in
theorem few_any {v : VV} {w : World} (hI : v.In w w.heap.size) :
    Calls Tryd.prog 16 #[.agg #[.slice v.A v.commits.length v.c, .slice v.mA v.marks.length v.mc, .int .i64 v.working, .bool v.pend.on, .bool v.pend.restack, .int .i64 v.pend.source, .int .i64 v.pend.dest, .slice v.pend.sA v.pend.settled.length v.pend.sc, .int .i64 v.pend.commit, .slice v.pend.kA v.pend.clashes.length v.pend.kc, .int .i64 v.undos, .int .i64 v.redos]] w (BoolSome w) := by
  have hlc := hI.lc
  have hlm := hI.lm
  obtain ⟨W, hW⟩ : ∃ u, u = w.alloc (.cells #[.slice v.A v.commits.length v.c, .slice v.mA v.marks.length v.mc, .int .i64 v.working, .bool v.pend.on, .bool v.pend.restack, .int .i64 v.pend.source, .int .i64 v.pend.dest, .slice v.pend.sA v.pend.settled.length v.pend.sc, .int .i64 v.pend.commit, .slice v.pend.kA v.pend.clashes.length v.pend.kc, .int .i64 v.undos, .int .i64 v.redos] 52) := ⟨_, rfl⟩
  have hbx : Below w.heap.size w W := by rw [hW]; exact (Below.refl _ _).alloc (Nat.le_refl _) _
  have hzW : W.heap.size = w.heap.size + 1 := by rw [hW]; simp
  have hx : ∀ i u, [Value.slice v.A v.commits.length v.c, .slice v.mA v.marks.length v.mc, .int .i64 v.working, .bool v.pend.on, .bool v.pend.restack, .int .i64 v.pend.source, .int .i64 v.pend.dest, .slice v.pend.sA v.pend.settled.length v.pend.sc, .int .i64 v.pend.commit, .slice v.pend.kA v.pend.clashes.length v.pend.kc, .int .i64 v.undos, .int .i64 v.redos][i]? = some u → ∀ u', Below (w.heap.size + 1) W u' → u'.cell? ⟨w.heap.size, i, none⟩ = some u := fun i u hu u' hu' =>
    (hu'.cell (p := ⟨w.heap.size, i, none⟩) (Nat.lt_succ_self _)).trans (by rw [hW, World.cell?, heap_alloc_new]; simpa using hu)
  have HB := Lib.hid hx
  clear hx
  go_enter Tryd.func16, Tryd.ntmps16
  go_wp2
  rw [← hW]
  clear hW
  go_loopw [3, 4] (fun z i wr => ∃ (k : Nat) (x : Int), k ≤ v.commits.length ∧ z = .int .i64 x ∧ i = .int .i64 k ∧ Below (w.heap.size + 1) W wr) (fun _ i _ => v.commits.length - (intOf i).toNat)
  case atStart => exact ⟨0, 0, Nat.zero_le _, rfl, rfl, Below.refl _ _⟩
  case round =>
    obtain ⟨k, x, hk, rfl, rfl, hb⟩ := hrel
    have hbr : Below w.heap.size w wr := hbx.trans (hb.mono (by omega))
    have y0 := HB.out 0 _ rfl wr hb
    by_cases hlt : k < v.commits.length
    · obtain ⟨b0, o0, c, eA, hbb, hcx, hcm, hcc⟩ := T.rd_flat EV.cells_len (by omega) hI.row rfl hlt
      rw [eA] at y0
      have h3 := (hbr.cell (p := ⟨b0, o0 + k * 5 + 3, none⟩) (by show b0 < _; omega)).trans (hcc 3 _ rfl)
      clear hcx hcc
      go_wp2
      go_roundw
      case rel => exact ⟨k + 1, _, by omega, rfl, by go_num, hb⟩
      case measure => simp [intOf]; omega
    · have hbe := hbr
      have y1 := HB.out 1 _ rfl wr hb
      have y7 := HB.out 7 _ rfl wr hb
      by_cases h1 : x < 200
      · by_cases h2 : v.marks.length ≤ 50
        · by_cases h3 : v.pend.settled.length ≤ 20
          · go_wp2
            go_ret
            exact ⟨_, rfl, hbe⟩
          · go_wp2
            go_ret
            exact ⟨_, rfl, hbe⟩
        · go_wp2
          go_ret
          exact ⟨_, rfl, hbe⟩
      · go_wp2
        go_ret
        exact ⟨_, rfl, hbe⟩

def zPV : PV := ⟨false, false, 0, 0, none, 0, [], 0, none, 0, []⟩
/-- A view with nothing in it. -/
def vA (k u : Int) : VV := ⟨none, 0, [], none, 0, [], k, zPV, u, 0⟩
theorem zPV_in (w : World) (B : Nat) : zPV.In w B := ⟨Rd.none_ _ _ _, by simp [zPV], Rd.none_ _ _ _, by simp [zPV], by simp [zPV]⟩
theorem vA_in (k u : Int) (w : World) (B : Nat) : (vA k u).In w B := ⟨Rd.none_ _ _ _, by simp [vA], Rd.none_ _ _ _, zPV_in _ _, by simp [vA], by simp [vA], by simp [vA]⟩
theorem vA_nums {k u : Int} (hk : I64 k) (hu : I64 u) : Nums (vA k u) := ⟨by simp [vA], by simp [vA], hk, hu, by simp [vA, I64]⟩
theorem vA_sound : soundB (vA (-1) 0) = true := sound_yes ⟨fun j c h => absurd h (Nat.not_lt_zero _), fun j c h => absurd h (Nat.not_lt_zero _), .inl rfl, fun j c h => absurd h (Nat.not_lt_zero _), by simp [vA], by simp [vA], .inr ⟨rfl, rfl, rfl, rfl, rfl, rfl⟩⟩
theorem vA_unsound : soundB (vA 0 0) = false := sound_no fun h => by rcases h.2.2.1 with h | h <;> simp [vA] at h
theorem eqPV_zero : eqPV zPV zPV = true := by simp [eqPV, zPV, lall2]
theorem vA_same : eqVV (vA (-1) 0) (vA (-1) 0) = true := by simp [eqVV, heldVV, vA, lall2, eqPV_zero]
theorem vA_other : eqVV (vA (-1) 0) (vA 0 0) = false := by simp [eqVV, heldVV, vA]
theorem vA_held : heldVV (vA (-1) 0) (vA (-1) 3) = true := by simp [heldVV, vA, lall2, eqPV_zero]
set_option maxRecDepth 100000 in
theorem run_view1 (w : World) : (Instr.build 52 #[(2, .int .i64 (-1))]).run Tryd.prog w = .ok (.agg #[.slice none 0 0, .slice none 0 0, .int .i64 (-1), .bool false, .bool false, .int .i64 0, .int .i64 0, .slice none 0 0, .int .i64 0, .slice none 0 0, .int .i64 0, .int .i64 0]) w := by
  go_simp
set_option maxRecDepth 100000 in
theorem run_view0 (w : World) : (Instr.build 52 #[]).run Tryd.prog w = .ok (.agg #[.slice none 0 0, .slice none 0 0, .int .i64 0, .bool false, .bool false, .int .i64 0, .int .i64 0, .slice none 0 0, .int .i64 0, .slice none 0 0, .int .i64 0, .int .i64 0]) w := by
  go_simp
set_option maxRecDepth 100000 in
theorem run_view3 (w : World) : (Instr.build 52 #[(2, .int .i64 (-1)), (4, .int .i64 3)]).run Tryd.prog w = .ok (.agg #[.slice none 0 0, .slice none 0 0, .int .i64 (-1), .bool false, .bool false, .int .i64 0, .int .i64 0, .slice none 0 0, .int .i64 0, .slice none 0 0, .int .i64 3, .int .i64 0]) w := by
  go_simp
theorem I64_m1 : I64 (-1) := by unfold I64; omega
theorem I64_0 : I64 0 := by unfold I64; omega
theorem I64_3 : I64 3 := by unfold I64; omega
def zcells : List Value := [.slice none 0 0, .slice none 0 0, .int .i64 (-1), .bool false, .bool false, .int .i64 0, .int .i64 0, .slice none 0 0, .int .i64 0, .slice none 0 0, .int .i64 0, .int .i64 0]

set_option maxRecDepth 100000 in
set_option maxHeartbeats 8000000 in
theorem aawake_any {w : World} (hm : Lm w) : Calls Tryd.prog 17 #[] w (BoolBelow true w) := by
  obtain ⟨W, hW⟩ : ∃ u, u = w.alloc (.cells #[.slice none 0 0, .slice none 0 0, .int .i64 (-1), .bool false, .bool false, .int .i64 0, .int .i64 0, .slice none 0 0, .int .i64 0, .slice none 0 0, .int .i64 0, .int .i64 0] 52) := ⟨_, rfl⟩
  have hbx : Below w.heap.size w W := by rw [hW]; exact (Below.refl _ _).alloc (Nat.le_refl _) _
  have hzW : W.heap.size = w.heap.size + 1 := by rw [hW]; simp
  have hx : ∀ i u, zcells[i]? = some u → ∀ u', Below W.heap.size W u' → u'.cell? ⟨w.heap.size, i, none⟩ = some u := fun i u hu u' hu' =>
    (hu'.cell (p := ⟨w.heap.size, i, none⟩) (by show w.heap.size < _; omega)).trans (by rw [hW, World.cell?, heap_alloc_new]; simpa [zcells] using hu)
  have HB := Lib.hid hx
  clear hx
  have hr1 := run_view1 w
  have C1 : ∀ u, Below W.heap.size W u → Calls Tryd.prog 18 #[.agg #[.slice none 0 0, .slice none 0 0, .int .i64 (-1), .bool false, .bool false, .int .i64 0, .int .i64 0, .slice none 0 0, .int .i64 0, .slice none 0 0, .int .i64 0, .int .i64 0]] u (BoolBelow true u) := fun u hu => by
    have := sound_any (v := vA (-1) 0) (w := u) (vA_in _ _ _ _) (vA_nums I64_m1 I64_0) (hm.to (hbx.trans (hu.mono hbx.size)))
    rw [vA_sound] at this; exact this
  have C2 : ∀ u, Below W.heap.size W u → Calls Tryd.prog 18 #[.agg #[.slice none 0 0, .slice none 0 0, .int .i64 0, .bool false, .bool false, .int .i64 0, .int .i64 0, .slice none 0 0, .int .i64 0, .slice none 0 0, .int .i64 0, .int .i64 0]] u (BoolBelow false u) := fun u hu => by
    have := sound_any (v := vA 0 0) (w := u) (vA_in _ _ _ _) (vA_nums I64_0 I64_0) (hm.to (hbx.trans (hu.mono hbx.size)))
    rw [vA_unsound] at this; exact this
  have C3 : ∀ u, Calls Tryd.prog 20 #[.agg #[.slice none 0 0, .slice none 0 0, .int .i64 (-1), .bool false, .bool false, .int .i64 0, .int .i64 0, .slice none 0 0, .int .i64 0, .slice none 0 0, .int .i64 0, .int .i64 0], .agg #[.slice none 0 0, .slice none 0 0, .int .i64 (-1), .bool false, .bool false, .int .i64 0, .int .i64 0, .slice none 0 0, .int .i64 0, .slice none 0 0, .int .i64 0, .int .i64 0]] u (BoolBelow true u) := fun u => by
    have := view2_any (x := vA (-1) 0) (y := vA (-1) 0) (w := u) (vA_in _ _ _ _) (vA_in _ _ _ _)
    rw [vA_same] at this; exact this
  have C4 : ∀ u, Calls Tryd.prog 20 #[.agg #[.slice none 0 0, .slice none 0 0, .int .i64 (-1), .bool false, .bool false, .int .i64 0, .int .i64 0, .slice none 0 0, .int .i64 0, .slice none 0 0, .int .i64 0, .int .i64 0], .agg #[.slice none 0 0, .slice none 0 0, .int .i64 0, .bool false, .bool false, .int .i64 0, .int .i64 0, .slice none 0 0, .int .i64 0, .slice none 0 0, .int .i64 0, .int .i64 0]] u (BoolBelow false u) := fun u => by
    have := view2_any (x := vA (-1) 0) (y := vA 0 0) (w := u) (vA_in _ _ _ _) (vA_in _ _ _ _)
    rw [vA_other] at this; exact this
  have C5 : ∀ u, Calls Tryd.prog 22 #[.agg #[.slice none 0 0, .slice none 0 0, .int .i64 (-1), .bool false, .bool false, .int .i64 0, .int .i64 0, .slice none 0 0, .int .i64 0, .slice none 0 0, .int .i64 0, .int .i64 0], .agg #[.slice none 0 0, .slice none 0 0, .int .i64 (-1), .bool false, .bool false, .int .i64 0, .int .i64 0, .slice none 0 0, .int .i64 0, .slice none 0 0, .int .i64 3, .int .i64 0]] u (BoolBelow true u) := fun u => by
    have := held2_any (x := vA (-1) 0) (y := vA (-1) 3) (w := u) (vA_in _ _ _ _) (vA_in _ _ _ _)
    rw [vA_held] at this; exact this
  have H1 := Lib.hid C1
  have H2 := Lib.hid C2
  have H3 := Lib.hid C3
  have H4 := Lib.hid C4
  have H5 := Lib.hid C5
  clear C1 C2 C3 C4 C5
  go_enter Tryd.func17, Tryd.ntmps17
  have g0 := HB.out 0 _ rfl W (Below.refl _ _)
  have g1 := HB.out 1 _ rfl W (Below.refl _ _)
  have g2 := HB.out 2 _ rfl W (Below.refl _ _)
  have g3 := HB.out 3 _ rfl W (Below.refl _ _)
  have g4 := HB.out 4 _ rfl W (Below.refl _ _)
  have g5 := HB.out 5 _ rfl W (Below.refl _ _)
  have g6 := HB.out 6 _ rfl W (Below.refl _ _)
  have g7 := HB.out 7 _ rfl W (Below.refl _ _)
  have g8 := HB.out 8 _ rfl W (Below.refl _ _)
  have g9 := HB.out 9 _ rfl W (Below.refl _ _)
  have g10 := HB.out 10 _ rfl W (Below.refl _ _)
  have g11 := HB.out 11 _ rfl W (Below.refl _ _)
  go_wp2_with fail
  rw [← hW]
  refine (H1.out W (Below.refl _ _)).mono ?_
  rintro e w1 ⟨rfl, hb1⟩
  clear hW hr1 g0 g1 g2 g3 g4 g5 g6 g7 g8 g9 g10 g11
  have hr0 := run_view0 w1
  go_wp2_with fail
  refine (H2.out w1 hb1).mono ?_
  rintro e w2 ⟨rfl, hb2'⟩
  have hb2 := hb1.trans (hb2'.mono hb1.size)
  clear hr0 hb2'
  have g0 := HB.out 0 _ rfl w2 hb2
  have g1 := HB.out 1 _ rfl w2 hb2
  have g2 := HB.out 2 _ rfl w2 hb2
  have g3 := HB.out 3 _ rfl w2 hb2
  have g4 := HB.out 4 _ rfl w2 hb2
  have g5 := HB.out 5 _ rfl w2 hb2
  have g6 := HB.out 6 _ rfl w2 hb2
  have g7 := HB.out 7 _ rfl w2 hb2
  have g8 := HB.out 8 _ rfl w2 hb2
  have g9 := HB.out 9 _ rfl w2 hb2
  have g10 := HB.out 10 _ rfl w2 hb2
  have g11 := HB.out 11 _ rfl w2 hb2
  go_wp2_with fail
  refine (H3.out w2).mono ?_
  rintro e w3 ⟨rfl, hb3'⟩
  have hb3 := hb2.trans (hb3'.mono hb2.size)
  clear hb3' g0 g1 g2 g3 g4 g5 g6 g7 g8 g9 g10 g11
  have g0 := HB.out 0 _ rfl w3 hb3
  have g1 := HB.out 1 _ rfl w3 hb3
  have g2 := HB.out 2 _ rfl w3 hb3
  have g3 := HB.out 3 _ rfl w3 hb3
  have g4 := HB.out 4 _ rfl w3 hb3
  have g5 := HB.out 5 _ rfl w3 hb3
  have g6 := HB.out 6 _ rfl w3 hb3
  have g7 := HB.out 7 _ rfl w3 hb3
  have g8 := HB.out 8 _ rfl w3 hb3
  have g9 := HB.out 9 _ rfl w3 hb3
  have g10 := HB.out 10 _ rfl w3 hb3
  have g11 := HB.out 11 _ rfl w3 hb3
  have hr0 := run_view0 w3
  go_wp2_with fail
  refine (H4.out w3).mono ?_
  rintro e w4 ⟨rfl, hb4'⟩
  have hb4 := hb3.trans (hb4'.mono hb3.size)
  clear hb4' hr0 g0 g1 g2 g3 g4 g5 g6 g7 g8 g9 g10 g11
  have g0 := HB.out 0 _ rfl w4 hb4
  have g1 := HB.out 1 _ rfl w4 hb4
  have g2 := HB.out 2 _ rfl w4 hb4
  have g3 := HB.out 3 _ rfl w4 hb4
  have g4 := HB.out 4 _ rfl w4 hb4
  have g5 := HB.out 5 _ rfl w4 hb4
  have g6 := HB.out 6 _ rfl w4 hb4
  have g7 := HB.out 7 _ rfl w4 hb4
  have g8 := HB.out 8 _ rfl w4 hb4
  have g9 := HB.out 9 _ rfl w4 hb4
  have g10 := HB.out 10 _ rfl w4 hb4
  have g11 := HB.out 11 _ rfl w4 hb4
  have hr0 := run_view3 w4
  go_wp2_with fail
  refine (H5.out w4).mono ?_
  rintro e w5 ⟨rfl, hb5'⟩
  have hb5 := hb4.trans (hb5'.mono hb4.size)
  clear hb5' hr0 g0 g1 g2 g3 g4 g5 g6 g7 g8 g9 g10 g11
  go_wp2
  go_ret
  exact ⟨rfl, hbx.trans (hb5.mono hbx.size)⟩
end Go.Proofs.YtnkboccngialiaaDoor
