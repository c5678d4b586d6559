/- Walks: the markers that plays draw. -/
import Derived.Test.YtnkboccngialiaaM12
namespace Go.Proofs.Ytnkboccngialiaa
open Go.RowKit

theorem E22 : Elem Try.prog 22 35 2 32 := elem_of (by kernel_rfl)
theorem u64_nat {N : Nat} (hN : N ≤ 1000) : IntKind.u64.wrap (N : Int) = N := by rw [IntKind.wrap_u64]; omega
theorem mod_at (t : Int) {N : Nat} (h0 : 0 < N) (hN : N ≤ 1000) : ∃ k : Nat, wrap64 ((IntKind.u64.wrap t).tmod (N : Int)) = k ∧ k < N := by
  have h0 : 0 ≤ IntKind.u64.wrap t := by rw [IntKind.wrap_u64]; omega
  rw [Int.tmod_eq_emod_of_nonneg h0]
  generalize IntKind.u64.wrap t = u at *
  have : 0 ≤ u % (N : Int) := Int.emod_nonneg _ (by omega)
  have h2 : u % (N : Int) < (N : Int) := Int.emod_lt_of_pos _ (by omega)
  generalize u % (N : Int) = v at *
  refine ⟨v.toNat, ?_, by omega⟩
  unfold wrap64
  omega
/-- A marker as plays draw it, of N numbers. -/
def playM (N : Nat) (m : MV) : Prop := 0 ≤ m.old ∧ m.old < N ∧ m.new.length ≤ 4 ∧ ∀ x ∈ m.new, m.old < x ∧ x < N
structure PlayIs (N : Nat) (ms : List MV) : Prop where
  len : ms.length ≤ 40
  all : ∀ m ∈ ms, playM N m
theorem PlayIs.few {N : Nat} {ms : List MV} (h : PlayIs N ms) : fewM ms = true := by
  simp only [fewM, Bool.and_eq_true, List.all_eq_true, decide_eq_true_eq]
  exact ⟨fun m hm => by have := (h.all m hm).2.2.1; omega, h.len⟩
theorem PlayIs.right {N : Nat} {ms : List MV} (h : PlayIs N ms) : rightM N ms = true := by
  simp only [rightM, List.all_eq_true]
  intro m hm
  obtain ⟨h1, h2, h3, h4⟩ := h.all m hm
  simp only [okM, Bool.and_eq_true, decide_eq_true_eq, List.all_eq_true]
  exact ⟨⟨⟨h1, h2⟩, by omega⟩, h4⟩
theorem PlayIs.rising {N : Nat} {ms : List MV} (h : PlayIs N ms) : Rising ms := fun m hm x hx => ((h.all m hm).2.2.2 x hx).1
theorem one_cells (m : MV) : ∀ u ∈ m.cells, u.oneCell' = true := by
  intro u hu
  simp only [MV.cells, List.mem_cons, List.not_mem_nil, or_false] at hu
  rcases hu with rfl | rfl <;> rfl
/-- A marker laid down in a row of its own. -/
theorem rd_mk1 (w : World) (m : MV) : Rd (w.alloc (.cells #[.int .i64 m.old, .slice m.A m.new.length m.c] 35)) (w.alloc (.cells #[.int .i64 m.old, .slice m.A m.new.length m.c] 35)).heap.size 2 (some ⟨w.heap.size, 0, none⟩) 1 1 m.cells :=
  rd_cells (heap_alloc_new _ _) rfl rfl
theorem mset {w : World} {g : Nat} {a b c : Value} {t : TypeId} (h : w.heap[g]? = some (.cells #[a, b] t (0, 0))) : (w.setCell ⟨g, 1, none⟩ c).heap[g]? = some (.cells #[a, c] t (0, 0)) :=
  (heap_setCell_same w g 1 _ t c h).trans rfl

/-- What has been drawn so far. -/
structure Drawn (w wr : World) (N : Nat) (ov : Value) (ms : List MV) : Prop where
  below : Below w.heap.size w wr
  row : wr.ownsRow w.heap.size 35 2 ov ms.length (ms.flatMap MV.cells)
  play : PlayIs N ms
  part : ∀ m ∈ ms, Apart ov m.new wr (.slice m.A m.new.length m.c)
theorem Drawn.to {w wr wr' : World} {N : Nat} {ov : Value} {ms : List MV} (h : Drawn w wr N ov ms) (hb : Below wr.heap.size wr wr') : Drawn w wr' N ov ms :=
  ⟨h.below.trans (hb.mono h.below.size), h.row.kept (grown_none hb (Nat.le_refl _)) (by cases ov.ownBlock <;> simp), h.play, fun m hm => (h.part m hm).to hb⟩
theorem Drawn.rdm {w wr : World} {N : Nat} {ov : Value} {ms : List MV} (h : Drawn w wr N ov ms) (hN : N ≤ 1000) : ∃ A c, ov = .slice A ms.length c ∧ RdM wr wr.heap.size A ms.length c ms := by
  obtain ⟨A, c, rfl, hc⟩ := ownsRow_cap h.row
  refine ⟨A, c, rfl, Rd.of_own h.row hc, rfl, fun m hm => ?_⟩
  obtain ⟨A1, c1, e, hr, _⟩ := h.part m hm
  cases e
  obtain ⟨h1, h2, h3, h4⟩ := h.play.all m hm
  exact ⟨hr, by omega, by unfold I64; omega, fun x hx => by have := h4 x hx; unfold I64; omega⟩

set_option maxRecDepth 100000 in
set_option maxHeartbeats 8000000 in
theorem markers_any {A : Option Addr} {n c N : Nat} {ms : List MV} {w : World} (hn : n ≤ maxLen) (h : RdM w w.heap.size A n c ms) (hN : N ≤ 1000) :
    Calls Try.prog 21 #[.int .i64 N, .slice A n c] w fun e w' => ∃ (A' : Option Addr) (c' : Nat) (ms' : List MV), e = .returned (.slice A' ms'.length c') ∧ RdM w' w'.heap.size A' ms'.length c' ms' ∧ PlayIs N ms' ∧ Below w.heap.size w w' := by
  unfold maxLen at hn
  have hw := u64_nat hN
  go_enter Try.func21, Try.ntmps21
  go_wp2
  go_loopw [5, 6] (fun ov iv wr => ∃ (k : Nat) (ms' : List MV), k ≤ n ∧ k ≤ 40 ∧ iv = .int .i64 k ∧ ms'.length = k ∧ Drawn w wr N ov ms') (fun _ i _ => n - (intOf i).toNat)
  case atStart => exact ⟨0, [], Nat.zero_le _, by omega, rfl, rfl, ⟨Below.refl _ _, World.ownsRow_nil _ _ _ _, ⟨by simp, by simp⟩, by simp⟩⟩
  case round =>
    obtain ⟨k, ms', hk, hk40, rfl, hl, hd⟩ := hrel
    obtain ⟨wo, hwo⟩ : ∃ x, x = wr := ⟨_, rfl⟩
    subst hwo
    by_cases hgo : k < n ∧ k < 40 ∧ 0 < N
    · obtain ⟨hlt, hlt40, hN0⟩ := hgo
      obtain ⟨b0, o0, u, rfl, hbb, hx, hu, h0, h1⟩ := h.get hlt
      have h00 := (hd.below.cell hbb).trans h0
      have h10 := (hd.below.cell hbb).trans h1
      obtain ⟨hrd, hnl, _, _⟩ := h.parts u hu
      obtain ⟨old, hold, holdN⟩ := mod_at u.old hN0 hN
      have HS := Lib.hid hd.below
      go_wp2
      rw [hold]
      have hcell : (wo.alloc (.cells #[.int .i64 (old : Int), .slice none 0 0] 35)).heap[wo.heap.size]? = some (.cells #[.int .i64 (old : Int), .slice none 0 0] 35 (0, 0)) := heap_alloc_new _ _
      have hba : Below wo.heap.size wo (wo.alloc (.cells #[.int .i64 (old : Int), .slice none 0 0] 35)) := (Below.refl _ _).alloc (Nat.le_refl _) _
      have hsa : wo.heap.size + 1 ≤ (wo.alloc (.cells #[.int .i64 (old : Int), .slice none 0 0] 35)).heap.size := by simp
      go_loopw [8] (fun kv wi => ∃ (j : Nat) (xs : List Int) (nv : Value), j ≤ u.new.length ∧ j ≤ 4 ∧ kv = .int .i64 j ∧ Below wo.heap.size wo wi ∧ wi.heap[wo.heap.size]? = some (.cells #[.int .i64 (old : Int), nv] 35 (0, 0)) ∧
        wi.ownsRow (wo.heap.size + 1) 3 1 nv xs.length (xs.map (.int .i64)) ∧ xs.length ≤ j ∧ (∀ x ∈ xs, (old : Int) < x ∧ x < N) ∧ wo.heap.size + 1 ≤ wi.heap.size) (fun kv _ => u.new.length - (intOf kv).toNat)
      case atStart => exact ⟨0, [], _, Nat.zero_le _, by omega, rfl, hba, hcell, World.ownsRow_nil _ _ _ _, by simp, by simp, hsa⟩
      case round =>
        clear hcell hba hsa
        obtain ⟨j, xs, nv, hj, hj4, rfl, hbi, hci, hro, hxl, hxr, hsi⟩ := hrel
        have h0i := (hbi.cell (p := ⟨b0, o0 + k * 2, none⟩) (Nat.lt_of_lt_of_le hbb HS.out.size)).trans h00
        have h1i := (hbi.cell (p := ⟨b0, o0 + k * 2 + 1, none⟩) (Nat.lt_of_lt_of_le hbb HS.out.size)).trans h10
        have c0 : wr.cell? ⟨wo.heap.size, 0, none⟩ = some (.int .i64 (old : Int)) := (cell_of_row _ _ _ _ _ _ hci).trans rfl
        have c1 : wr.cell? ⟨wo.heap.size, 1, none⟩ = some nv := (cell_of_row _ _ _ _ _ _ hci).trans rfl
        by_cases hgo2 : j < u.new.length ∧ j < 4
        · obtain ⟨hlt2, hlt4⟩ := hgo2
          obtain ⟨b1, o1, y, eA, hb1, hy, g0⟩ := hrd.int_ hlt2
          have g0i := (hbi.cell (p := ⟨b1, o1 + j, none⟩) (Nat.lt_of_lt_of_le hb1 HS.out.size)).trans ((HS.out.cell (p := ⟨b1, o1 + j, none⟩) hb1).trans g0)
          rw [eA] at h1i
          obtain ⟨vv, hvv, hvN⟩ := mod_at y hN0 hN
          by_cases hgt : (old : Int) < vv
          · obtain ⟨A5, c5, rfl, hc5⟩ := ownsRow_cap hro
            have hnb : ∀ g, (Value.slice A5 xs.length c5).ownBlock = some g → wo.heap.size + 1 ≤ g := fun g hg => (hro.lt g hg).1
            have hro' := hro.alloc (.cells #[.int .i64 (vv : Int)] 3)
            have hbi' := hbi.alloc hbi.size (.cells #[.int .i64 (vv : Int)] 3)
            have hci' := (heap_alloc_old wr (.cells #[.int .i64 (vv : Int)] 3) (r := wo.heap.size) (by omega)).trans hci
            have hne : some wo.heap.size ≠ (Value.slice A5 xs.length c5).ownBlock := fun e => by have := hnb _ e.symm; omega
            go_wp2_with (at_builtin; refine wpl_append rfl (.tmp 67) (.tmp 69) 28 rfl E28 rfl rfl hro' (rd_lit1 wr (vv : Int)) (one_ints _) (by unfold maxLen; omega) (by omega) (by simp; omega) ?_; intro v6 w6 ho6 hg6 hv6; obtain ⟨A6, c6, rfl, hc6⟩ := ownsRow_cap ho6; have hci6 := (hg6.block wo.heap.size (by simp; omega) hne).trans hci'; have c16 : w6.cell? ⟨wo.heap.size, 1, none⟩ = some (.slice A5 xs.length c5) := (cell_of_row _ _ _ _ _ _ hci6).trans rfl; have fr6 : w6.frozen? ⟨wo.heap.size, 1, none⟩ = false := by simp [World.frozen?, hci6])
            go_roundw
            case rel =>
              have hb6 := hbi'.grown hg6 hbi'.size (fun g hg => by have := hnb g hg; omega)
              have hs6 := hg6.size
              simp at hs6
              refine ⟨j + 1, xs ++ [(vv : Int)], .slice A6 (xs.length + 1) c6, by omega, by omega, by go_num, hb6.setCell (Nat.le_refl _) _, mset hci6, ?_, by simp; omega, fun x hx => ?_, ?_⟩
              · rw [List.length_append, List.map_append]
                refine ho6.kept (row := some wo.heap.size) ⟨rfl, rfl, rfl, by simp, fun k _ hk => heap_setCell_other _ _ k _ (fun e => hk (by rw [e]))⟩ (.inr fun e => by have := (ho6.lt _ e).1; omega)
              · rw [List.mem_append, List.mem_singleton] at hx
                rcases hx with hx | rfl
                · exact hxr x hx
                · exact ⟨hgt, by omega⟩
              · simp; omega
            case measure => simp [intOf]; omega
          · go_wp2
            go_roundw
            case rel => exact ⟨j + 1, xs, nv, by omega, by omega, by go_num, hbi, hci, hro, by omega, hxr, hsi⟩
            case measure => simp [intOf]; omega
        · have hend : ¬ (j < u.new.length) ∨ ¬ (j < 4) := by omega
          obtain ⟨A5, c5, rfl, hc5⟩ := ownsRow_cap hro
          have hdi := hd.to hbi
          have hRD := Lib.hid hd.row
          clear hd
          have hdA := hdi.to ((Below.refl wr.heap.size wr).alloc (Nat.le_refl _) (.cells #[.int .i64 (old : Int), .slice A5 xs.length c5] 35))
          have hov : ∀ g, Value.ownBlock u5 = some g → g < wo.heap.size := fun g hg => (hRD.out.lt g hg).2
          have hap := (show Apart u5 xs wr (.slice A5 xs.length c5) from ⟨A5, c5, rfl, Rd.of_own hro hc5, fun _ a ha e => by have := hov _ e.symm; have := own_base hro a ha; omega⟩).to ((Below.refl wr.heap.size wr).alloc (Nat.le_refl _) (.cells #[.int .i64 (old : Int), .slice A5 xs.length c5] 35))
          go_wp2_with (at_builtin; refine wpl_append rfl (.tmp 72) (.tmp 74) 22 rfl E22 rfl rfl hdA.row (rd_mk1 wr ⟨old, A5, c5, xs⟩) (one_cells ⟨old, A5, c5, xs⟩) (by unfold maxLen; omega) (by omega) hdA.below.size ?_; intro v7 w7 ho7 hg7 hv7)
          all_goals
            go_roundw
            case rel =>
              have hv7' := hv7.imp id fun e => (⟨_, e, Nat.le_refl _⟩ : ∃ k, v7.ownBlock = some k ∧ _ ≤ k)
              refine ⟨k + 1, ms' ++ [⟨old, A5, c5, xs⟩], by omega, by omega, by go_num, by simp; omega, hdA.below.grown hg7 hdA.below.size (fun g hg => (hdA.row.lt g hg).1), ?_, ?_, fun m hm => ?_⟩
              · rw [List.length_append, List.flatMap_append]
                simpa using ho7
              · refine ⟨by simp; omega, fun m hm => ?_⟩
                rw [List.mem_append, List.mem_singleton] at hm
                rcases hm with hm | rfl
                · exact hdi.play.all m hm
                · exact ⟨by show (0 : Int) ≤ (old : Int); omega, by show (old : Int) < N; omega, by show xs.length ≤ 4; omega, hxr⟩
              · rw [List.mem_append, List.mem_singleton] at hm
                rcases hm with hm | rfl
                · exact (hdA.part m hm).grown hg7 hv7'
                · exact hap.grown hg7 hv7'
            case measure => simp [intOf]; omega
    · go_wp2
      all_goals
        go_ret
        obtain ⟨A', c', rfl, hr⟩ := hd.rdm hN
        exact ⟨A', c', ms', rfl, hr, hd.play, hd.below⟩
end Go.Proofs.Ytnkboccngialiaa
