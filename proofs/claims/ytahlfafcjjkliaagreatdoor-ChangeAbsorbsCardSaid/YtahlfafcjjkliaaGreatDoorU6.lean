/- Walks: slices.Insert of one file. -/
import Derived.Test.YtahlfafcjjkliaaGreatDoorU5
namespace Go.Proofs.YtahlfafcjjkliaaGreatDoor
open Go.RowKit

theorem grownCap_lo (w : World) (n c : Nat) (e : TypeId) (h : c < n) (hn : n ≤ maxLen) : n ≤ grownCap w n c e ∧ grownCap w n c e ≤ maxLen := ⟨grownCap_ge w _ _ _, grownCap_le_maxLen w n c e (by omega)⟩
/-- Rows of three. -/
def ins3 (xs ys : List Value) (i : Nat) : List Value := xs.take (i * 3) ++ ys ++ xs.drop (i * 3)
def InsIs (n : Nat) (v : Value) (xs ys : List Value) (i : Nat) (w : World) (e : Ending) (w' : World) : Prop :=
  ∃ (A : Option Addr) (c : Nat), e = .returned (.slice A (n + 1) c) ∧ Rd w' w'.heap.size 3 A (n + 1) c (ins3 xs ys i) ∧ w.grownBy w' v.ownBlock
theorem grown_setRow {w w1 : World} {g : Nat} {row : Option Nat} {cs : Array Value} (h : w.grownBy w1 row) (hg : w.heap.size ≤ g ∨ row = some g) : w.grownBy (w1.setRow g cs) row :=
  ⟨h.os, h.tape, h.output, by have := h.size; simpa [World.setRow] using this, fun k hk hne => by
    rw [setRow_other _ _ _ _ (fun e => by
      rcases hg with hg | hg
      · omega
      · exact hne (by rw [hg, e]))]
    exact h.block k hk hne⟩
theorem rd_setRow {w : World} {g n c sz : Nat} {cur cs : Array Value} {e : TypeId} {xs : List Value} (hg : w.heap[g]? = some (.cells cur e (0, 0))) (hn : n ≤ c) (hx : xs.length = n * sz) (hcs : ∀ (j : Nat) (u : Value), xs[j]? = some u → cs[j]? = some u) :
    Rd (w.setRow g cs) (w.setRow g cs).heap.size sz (some ⟨g, 0, none⟩) n c xs := by
  have hlt : g < w.heap.size := (Array.getElem?_eq_some_iff.1 hg).1
  refine ⟨hx, hn, fun _ => ⟨g, 0, rfl, by simpa [World.setRow] using hlt, fun j u hu => ?_⟩⟩
  rw [Nat.zero_add, cell_of_row _ _ _ _ _ _ (setRow_heap _ _ _ _ _ _ hg)]
  exact hcs j u hu
theorem list_get_of {l r : List Value} {n : Nat} (h : l.take n = r) {j : Nat} {u : Value} (hj : r[j]? = some u) : l[j]? = some u := by
  rw [← h, List.getElem?_take] at hj
  split at hj
  · exact hj
  · cases hj

set_option maxRecDepth 100000 in
set_option maxHeartbeats 8000000 in
theorem insEnd_any {base n vb : Nat} {v : Value} {xs : List Value} {f : FV} {w : World} (hn : n ≤ 1000000) (hown : w.ownsRow base 35 3 v n xs) (hbase : base ≤ w.heap.size)
    (hvb : w.heap[vb]? = some (.cells #[.string f.path, .bool f.exec, .string f.text] 35 (0, 0))) :
    Calls Tryz.prog 61 #[v, .int .i64 n, .slice (some ⟨vb, 0, none⟩) 1 1] w (InsIs n v xs f.cells n w) := by
  have hlt : vb < w.heap.size := (Array.getElem?_eq_some_iff.1 hvb).1
  have hr : Rd w w.heap.size 3 (some ⟨vb, 0, none⟩) 1 1 ([f].flatMap FV.cells) := ⟨rfl, Nat.le_refl _, fun _ => ⟨vb, 0, rfl, hlt, fun j u hu => by
    rw [Nat.zero_add, cell_of_row _ _ _ _ _ _ hvb]; simpa [FV.cells] using hu⟩⟩
  have hxl := hown.1
  have HE := Lib.hid (show xs ++ [f].flatMap FV.cells = ins3 xs f.cells n by
    rw [ins3, List.take_of_length_le (by omega), List.drop_of_length_le (by omega), List.append_nil]; simp)
  rcases hown.2 with ⟨rfl, rfl⟩ | ⟨g, cap, cur, rfl, hb, hg, hnc, hcm, hcs, htake⟩
  · go_enter Tryz.func61, Tryz.ntmps61
    go_wp2_with (at_builtin; refine wpl_append rfl (.tmp 23) (.tmp 24) 22 rfl E_files rfl rfl hown hr (one_files _) (by unfold maxLen; omega) (by omega) hbase ?_; intro v7 w7 ho7 hg7 hv7)
    go_ret
    obtain ⟨A7, c7, rfl, hc7⟩ := ownsRow_cap ho7
    rw [HE.out] at ho7
    exact ⟨A7, c7, rfl, Rd.of_own ho7 hc7, hg7⟩
  · unfold maxLen at hcm
    go_enter Tryz.func61, Tryz.ntmps61
    go_wp2_with (at_builtin; refine wpl_append rfl (.tmp 23) (.tmp 24) 22 rfl E_files rfl rfl hown hr (one_files _) (by unfold maxLen; omega) (by omega) hbase ?_; intro v7 w7 ho7 hg7 hv7)
    all_goals
      go_ret
      obtain ⟨A7, c7, rfl, hc7⟩ := ownsRow_cap ho7
      rw [HE.out] at ho7
      exact ⟨A7, c7, rfl, Rd.of_own ho7 hc7, hg7⟩

theorem ins_row {cur zs xs ys : List Value} {i n : Nat} (h0 : cur.take (i * 3) = xs.take (i * 3)) (hx : xs.length = n * 3) (hi : i < n) (hy : ys.length = 3) (hc : (n + 1) * 3 ≤ cur.length)
    (hz : zs = (cur.take (i * 3) ++ ys ++ cur.drop (i * 3 + 3)).take ((i + 1) * 3) ++ xs.drop (i * 3) ++ (cur.take (i * 3) ++ ys ++ cur.drop (i * 3 + 3)).drop ((i + 1) * 3 + (n - i) * 3)) :
    zs.take ((n + 1) * 3) = ins3 xs ys i := by
  have hl : (xs.take (i * 3)).length = i * 3 := by rw [List.length_take]; omega
  have hl2 : (xs.take (i * 3) ++ ys).length = (i + 1) * 3 := by rw [List.length_append, hl, hy]; omega
  rw [h0] at hz
  rw [hz, List.take_append_of_le_length (l₁ := xs.take (i * 3) ++ ys) (by omega), List.take_of_length_le (l := xs.take (i * 3) ++ ys) (by omega), ins3]
  rw [List.take_append_of_le_length (by rw [List.length_append, hl2, List.length_drop]; omega), List.take_of_length_le (by rw [List.length_append, hl2, List.length_drop]; omega)]
set_option maxRecDepth 100000 in
set_option maxHeartbeats 8000000 in
/-- No room: a new row. -/
theorem insGrow_any {g n vb i : Nat} {xs : List Value} {cur : Array Value} {f : FV} {w : World} (hn : n ≤ 1000000) (hg : w.heap[g]? = some (.cells cur 35 (0, 0))) (hcs : cur.size = n * 3)
    (htake : cur.toList.take (n * 3) = xs) (h1 : ∀ u ∈ xs, u.oneCell' = true) (hi : i < n)
    (hvb : w.heap[vb]? = some (.cells #[.string f.path, .bool f.exec, .string f.text] 35 (0, 0))) :
    Calls Tryz.prog 61 #[.slice (some ⟨g, 0, none⟩) n n, .int .i64 i, .slice (some ⟨vb, 0, none⟩) 1 1] w (InsIs n (.slice (some ⟨g, 0, none⟩) n n) xs f.cells i w) := by
  have hlt : vb < w.heap.size := (Array.getElem?_eq_some_iff.1 hvb).1
  have hgl : g < w.heap.size := (Array.getElem?_eq_some_iff.1 hg).1
  have hxl : xs.length = n * 3 := by rw [← htake, List.length_take, Array.length_toList]; omega
  obtain ⟨i0, z, hi0, hz0, hzs, hzb, hzc⟩ := E_files.row
  have hgc : ∀ j u, xs[j]? = some u → w.cell? ⟨g, j, none⟩ = some u := fun j u hu => by
    rw [cell_of_row _ _ _ _ _ _ hg]
    have := list_get_of htake hu
    simpa using this
  have hold : (Builtin.firstCells i0.size i (.slice (some ⟨g, 0, none⟩) i n)).run Tryz.prog w.drew = .ok (xs.take (i * 3)).toArray w.drew := by
    rw [hzs]
    exact run_firstCells_some w.drew 3 i ⟨g, 0, none⟩ i n (xs.take (i * 3)) (by rw [List.length_take]; omega) (fun j v hj => by
      rw [List.getElem?_take] at hj
      split at hj
      · have hadd : (⟨g, 0, none⟩ : Addr).add j = ⟨g, 0 + j, none⟩ := by unfold Addr.add; split <;> simp_all
        rw [hadd, Nat.zero_add]; exact hgc j v hj
      · cases hj)
  have hk0 : (n : Int) + 1 - (i : Int) = ((n + 1 - i : Nat) : Int) := by omega
  have hik : i + (n + 1 - i) = n + 1 := by omega
  have hrz : ∀ ty, (Builtin.append_ #[22, 3] ty #[.slice (some ⟨g, 0, none⟩) i n, .int .i64 ((n : Int) + 1 - (i : Int))]).run Tryz.prog w =
      .ok (.slice (some ⟨w.heap.size, 0, none⟩) (n + 1) (grownCap w (n + 1) n 35)) (w.drew.alloc (.cells ((xs.take (i * 3)).toArray ++ Builtin.zeroCells z.cells (n + 1 - i) ++ Builtin.zeroCells z.cells (grownCap w (n + 1) n 35 - (n + 1))) 35)) := fun ty => by
    have h := Lib.run_append_grow_zeros w 22 3 ty 35 i0 z .i64 .i64 Tryz.underlying22 Tryz.underlying3 hi0 hz0 (some ⟨g, 0, none⟩) i n (xs.take (i * 3)) hold (n + 1 - i) (by omega) (by omega) (by omega) (by omega) (by rw [hzb]; omega) (by rw [hzb, hik]; exact growslice_fits (by omega) (by omega))
    rw [hik] at h
    rw [hk0]
    exact h
  have hG := grownCap_lo w (n + 1) n 35 (by omega) (by unfold maxLen; omega)
  obtain ⟨G, eG⟩ : ∃ G, G = grownCap w (n + 1) n 35 := ⟨_, rfl⟩
  rw [← eG] at hrz hG
  obtain ⟨ROW, eR⟩ : ∃ ROW : Array Value, ROW = (xs.take (i * 3)).toArray ++ Builtin.zeroCells z.cells (n + 1 - i) ++ Builtin.zeroCells z.cells (G - (n + 1)) := ⟨_, rfl⟩
  rw [← eR] at hrz
  have hRz : ROW.size = G * 3 := by
    have h1 : (xs.take (i * 3)).length = i * 3 := by rw [List.length_take]; omega
    rw [eR, Array.size_append, Array.size_append, size_zeroCells, size_zeroCells, hzc]
    simp only [List.size_toArray, h1]
    omega
  have hRt : ROW.toList.take (i * 3) = xs.take (i * 3) := by
    rw [eR, Array.toList_append, Array.toList_append, List.append_assoc, List.take_append_of_le_length (by simp; omega), List.take_of_length_le (by simp; omega)]
  obtain ⟨W1, hW1⟩ : ∃ W1, W1 = w.drew.alloc (.cells ROW 35) := ⟨_, rfl⟩
  have hN1 : W1.heap[w.heap.size]? = some (.cells ROW 35 (0, 0)) := by rw [hW1]; exact heap_alloc_new w.drew _
  have hgr1 : w.grownBy W1 (some g) := by
    rw [hW1]
    exact (show w.grownBy w.drew (some g) from ⟨rfl, rfl, rfl, Nat.le_refl _, fun _ _ _ => rfl⟩).trans (World.grownBy_alloc w.drew _ _)
  rw [← hW1] at hrz
  have hb1 : Below w.heap.size w W1 := by rw [hW1]; exact (Below.refl _ _).drew.alloc (Nat.le_refl _) _
  clear hW1
  have hsz3 : (Tryz.prog.info? 35).map (·.size) = some 3 := by kernel_rfl
  obtain ⟨R1, eR1⟩ : ∃ R : Array Value, R = (ROW.toList.take (i * 3) ++ f.cells ++ ROW.toList.drop (i * 3 + f.cells.length)).toArray := ⟨_, rfl⟩
  have hcp1 : ∀ ty dc, (Builtin.copy_ #[22, 22] ty #[.slice (some ⟨w.heap.size, i * 3, none⟩) (n + 1 - i) dc, .slice (some ⟨vb, 0, none⟩) 1 1]).run Tryz.prog W1 = .ok (goInt 1) (W1.setRow w.heap.size R1) := fun ty dc => by
    rw [eR1]
    refine run_copy_rowK W1 _ _ ty 35 (sz := 3) (m := 1) w.heap.size (i * 3) _ dc ⟨vb, 0, none⟩ 1 1 ROW 35 f.cells Tryz.underlying22 hsz3 hN1 (Nat.min_eq_left (by omega)) rfl (fun j v hj => ?_) (by show i * 3 + 3 ≤ _; omega) (fun u hu => one_files [f] u (by simpa using hu))
    have hadd : (⟨vb, 0, none⟩ : Addr).add j = ⟨vb, 0 + j, none⟩ := by unfold Addr.add; split <;> simp_all
    rw [hadd, Nat.zero_add, hb1.cell (p := ⟨vb, j, none⟩) hlt, cell_of_row _ _ _ _ _ _ hvb]
    simpa [FV.cells] using hj
  have hR1z : R1.size = G * 3 := by
    rw [eR1]
    have : f.cells.length = 3 := rfl
    simp only [List.size_toArray, List.length_append, List.length_take, List.length_drop, Array.length_toList, hRz, this]
    omega
  obtain ⟨W2, hW2⟩ : ∃ W2, W2 = W1.setRow w.heap.size R1 := ⟨_, rfl⟩
  have hN2 : W2.heap[w.heap.size]? = some (.cells R1 35 (0, 0)) := by rw [hW2]; exact setRow_heap _ _ _ _ _ _ hN1
  have hgr2 : w.grownBy W2 (some g) := by rw [hW2]; exact grown_setRow hgr1 (.inl (Nat.le_refl _))
  have hb2 : Below w.heap.size w W2 := by rw [hW2]; exact below_setRow hb1 (Nat.le_refl _)
  rw [← hW2] at hcp1
  clear hW2
  have hdl : (xs.drop (i * 3)).length = (n - i) * 3 := by rw [List.length_drop]; omega
  obtain ⟨R2, eR2⟩ : ∃ R : Array Value, R = (R1.toList.take ((i + 1) * 3) ++ xs.drop (i * 3) ++ R1.toList.drop ((i + 1) * 3 + (xs.drop (i * 3)).length)).toArray := ⟨_, rfl⟩
  have hcp2 : ∀ ty dc sc, (Builtin.copy_ #[22, 22] ty #[.slice (some ⟨w.heap.size, (i + 1) * 3, none⟩) (n + 1 - (i + 1)) dc, .slice (some ⟨g, i * 3, none⟩) (n - i) sc]).run Tryz.prog W2.drew = .ok (goInt (n - i : Nat)) (W2.drew.setRow w.heap.size R2) := fun ty dc sc => by
    rw [eR2]
    refine run_copy_rowK W2.drew _ _ ty 35 (sz := 3) (m := n - i) w.heap.size ((i + 1) * 3) _ dc ⟨g, i * 3, none⟩ _ sc R1 35 (xs.drop (i * 3)) Tryz.underlying22 hsz3 hN2 (by simp only [Nat.min_def]; split <;> omega) hdl (fun j v hj => ?_) (by rw [hdl]; omega) (fun u hu => h1 u (List.mem_of_mem_drop hu))
    have hadd : (⟨g, i * 3, none⟩ : Addr).add j = ⟨g, i * 3 + j, none⟩ := by unfold Addr.add; split <;> simp_all
    rw [hadd]
    have hc : W2.drew.cell? ⟨g, i * 3 + j, none⟩ = w.cell? ⟨g, i * 3 + j, none⟩ := hb2.cell (p := ⟨g, i * 3 + j, none⟩) hgl
    rw [hc]
    exact hgc _ v (by rwa [List.getElem?_drop] at hj)
  have hfin : ∀ (j : Nat) (u : Value), (ins3 xs f.cells i)[j]? = some u → R2[j]? = some u := fun j u hu => by
    have := ins_row (cur := ROW.toList) (zs := R2.toList) (xs := xs) (ys := f.cells) (i := i) (n := n) hRt hxl hi rfl (by rw [Array.length_toList]; omega) (by
      rw [eR2, hdl]
      simp only [eR1]
      rfl)
    simpa using list_get_of this hu
  have hil : (ins3 xs f.cells i).length = (n + 1) * 3 := by
    have : f.cells.length = 3 := rfl
    simp only [ins3, List.length_append, List.length_take, List.length_drop, this]; omega
  have HF := Lib.hid hfin
  have HIL := Lib.hid hil
  have hGi : ¬ G = i := by omega
  have hGi1 : G ≠ i + 1 := by omega
  have hci : n ≠ i := by omega
  have hG2 := hG.2
  have hG1 := hG.1
  unfold maxLen at hG2
  clear hfin hil hold hgc htake eR eR1 eR2 hRt hb1 hb2 hgr1 hN1 hG hRz hR1z hk0 hik eG hdl h1 hzb hzc hz0 hzs hi0 hcs
  go_enter Tryz.func61, Tryz.ntmps61
  go_wp2_with (first
    | (at_builtin; refine Lib.wpList_append_run _ rfl _ _ _ _ rfl _ _ rfl rfl _ _ (hrz _) ?_)
    | (at_builtin; refine wpl_copy rfl _ _ 22 22 rfl _ _ rfl rfl (hcp1 _ _) ?_))
  refine wp_region_q (fun _ => True) (qe [8] 9) mixed (by kernel_rfl) trivial ?_
  intro Tp M Q hT hT' hM hQ
  have ei : ((i : Int) + 1).toNat = i + 1 := by omega
  simp only [qcmp, Nat.reduceBEq]
  simp (maxSteps := 5000000) only [↓qpre, qpost, qfacts, qnorm, ei, sliced_some hGi1, sliced_some hci, Nat.zero_add]
  refine ⟨by unfold inI64; omega, ⟨by omega, by omega⟩, ⟨by omega, by omega⟩, ?_⟩
  refine T.eff_copy rfl rfl (hcp2 _ _ _) ⟨hT _ trivial, ?_⟩
  simp (maxSteps := 5000000) only [↓qpre, qpost, qnorm]
  refine hQ _ _ ?_
  have hN3 : W2.drew.heap[w.heap.size]? = some (.cells R1 35 (0, 0)) := hN2
  have hgr3 : w.grownBy W2.drew (some g) := ⟨hgr2.os, hgr2.tape, hgr2.output, hgr2.size, hgr2.block⟩
  clear hQ hT hT' hM hcp1 hcp2 hrz hN2 hgr2
  go_wp2
  go_ret
  exact ⟨_, _, rfl, rd_setRow hN3 (by omega) HIL.out HF.out, grown_setRow hgr3 (.inl (Nat.le_refl _))⟩

set_option maxRecDepth 100000 in
set_option maxHeartbeats 8000000 in
/-- Room: in place. -/
theorem insShift_any {g n cap vb i : Nat} {xs : List Value} {cur : Array Value} {f : FV} {w : World} (hn : n ≤ 1000000) (hg : w.heap[g]? = some (.cells cur 35 (0, 0))) (hcap : n + 1 ≤ cap) (hcm : cap ≤ maxLen) (hcs : cur.size = cap * 3)
    (htake : cur.toList.take (n * 3) = xs) (h1 : ∀ u ∈ xs, u.oneCell' = true) (hi : i < n)
    (hvb : w.heap[vb]? = some (.cells #[.string f.path, .bool f.exec, .string f.text] 35 (0, 0))) (hne : vb ≠ g) :
    Calls Tryz.prog 61 #[.slice (some ⟨g, 0, none⟩) n cap, .int .i64 i, .slice (some ⟨vb, 0, none⟩) 1 1] w (InsIs n (.slice (some ⟨g, 0, none⟩) n cap) xs f.cells i w) := by
  have hxl : xs.length = n * 3 := by rw [← htake, List.length_take, Array.length_toList]; omega
  have hgc : ∀ (W : World), W.heap[g]? = some (.cells cur 35 (0, 0)) → ∀ (j : Nat) (u : Value), xs[j]? = some u → W.cell? ⟨g, j, none⟩ = some u := fun W hW j u hu => by
    rw [cell_of_row _ _ _ _ _ _ hW]
    simpa using list_get_of htake hu
  have hsz3 : (Tryz.prog.info? 35).map (·.size) = some 3 := by kernel_rfl
  have z24 : ∀ w, (Go.sizeOf 35).run Tryz.prog w = .ok 3 w := Tryz.sizeOf35
  have hov : ∀ lb cb, (callFunc 81 #[.slice (some ⟨vb, 0, none⟩) 1 1, .slice (some ⟨g, (i + 1) * 3, none⟩) lb cb]).run Tryz.prog w = .ok (.value (.bool false)) w := fun lb cb => by
    rw [run_callFunc_extern Tryz.func81 (by kernel_rfl) (by kernel_rfl) (by kernel_rfl) (e := Extern.SlicesOverlaps.overlaps #[22, 22] #[4]) (by kernel_rfl),
      Lib.run_overlaps_apart w 22 4 35 Tryz.underlying22 3 z24 ⟨vb, 0, none⟩ ⟨g, (i + 1) * 3, none⟩ 1 1 lb cb hne 35 35 3 cur.size (by simp [World.shape?, hvb]) (by simp [World.shape?, hg]) (by omega) (by simp [World.frozen?, hvb]) (by simp [World.frozen?, hvb])]
    rfl
  have hdl : (xs.drop (i * 3)).length = (n - i) * 3 := by rw [List.length_drop]; omega
  obtain ⟨R1, eR1⟩ : ∃ R : Array Value, R = (cur.toList.take ((i + 1) * 3) ++ xs.drop (i * 3) ++ cur.toList.drop ((i + 1) * 3 + (xs.drop (i * 3)).length)).toArray := ⟨_, rfl⟩
  have hcp1 : ∀ ty dc sc, (Builtin.copy_ #[22, 22] ty #[.slice (some ⟨g, (i + 1) * 3, none⟩) (n + 1 - (i + 1)) dc, .slice (some ⟨g, i * 3, none⟩) (n + 1 - i) sc]).run Tryz.prog w.drew = .ok (goInt (n - i : Nat)) (w.drew.setRow g R1) := fun ty dc sc => by
    rw [eR1]
    refine run_copy_rowK w.drew _ _ ty 35 (sz := 3) (m := n - i) g ((i + 1) * 3) _ dc ⟨g, i * 3, none⟩ _ sc cur 35 (xs.drop (i * 3)) Tryz.underlying22 hsz3 hg (by simp only [Nat.min_def]; split <;> omega) hdl (fun j v hj => ?_) (by rw [hdl]; omega) (fun u hu => h1 u (List.mem_of_mem_drop hu))
    have hadd : (⟨g, i * 3, none⟩ : Addr).add j = ⟨g, i * 3 + j, none⟩ := by unfold Addr.add; split <;> simp_all
    rw [hadd]
    exact hgc w.drew hg _ v (by rwa [List.getElem?_drop] at hj)
  have hR1z : R1.size = cap * 3 := by
    rw [eR1]
    simp only [List.size_toArray, List.length_append, List.length_take, List.length_drop, Array.length_toList, hcs, hxl]
    omega
  obtain ⟨W1, hW1⟩ : ∃ W1, W1 = w.drew.setRow g R1 := ⟨_, rfl⟩
  have hN1 : W1.heap[g]? = some (.cells R1 35 (0, 0)) := by rw [hW1]; exact setRow_heap _ _ _ _ _ _ hg
  have hgr1 : w.grownBy W1 (some g) := by
    rw [hW1]
    exact grown_setRow (show w.grownBy w.drew (some g) from ⟨rfl, rfl, rfl, Nat.le_refl _, fun _ _ _ => rfl⟩) (.inr rfl)
  rw [← hW1] at hcp1
  clear hW1
  obtain ⟨R2, eR2⟩ : ∃ R : Array Value, R = (R1.toList.take (i * 3) ++ f.cells ++ R1.toList.drop (i * 3 + f.cells.length)).toArray := ⟨_, rfl⟩
  have hvl : vb < w.heap.size := (Array.getElem?_eq_some_iff.1 hvb).1
  have hcp2 : ∀ ty dc, (Builtin.copy_ #[22, 22] ty #[.slice (some ⟨g, i * 3, none⟩) (n + 1 - i) dc, .slice (some ⟨vb, 0, none⟩) 1 1]).run Tryz.prog W1 = .ok (goInt 1) (W1.setRow g R2) := fun ty dc => by
    rw [eR2]
    refine run_copy_rowK W1 _ _ ty 35 (sz := 3) (m := 1) g (i * 3) _ dc ⟨vb, 0, none⟩ 1 1 R1 35 f.cells Tryz.underlying22 hsz3 hN1 (Nat.min_eq_left (by omega)) rfl (fun j v hj => ?_) (by show i * 3 + 3 ≤ _; omega) (fun u hu => one_files [f] u (by simpa using hu))
    have hadd : (⟨vb, 0, none⟩ : Addr).add j = ⟨vb, 0 + j, none⟩ := by unfold Addr.add; split <;> simp_all
    rw [hadd, Nat.zero_add, cell_of_row _ _ _ _ _ _ ((hgr1.block vb hvl (fun e => hne (Option.some.inj e))).trans hvb)]
    simpa [FV.cells] using hj
  have hil : (ins3 xs f.cells i).length = (n + 1) * 3 := by
    have : f.cells.length = 3 := rfl
    simp only [ins3, List.length_append, List.length_take, List.length_drop, this]; omega
  have hfin : ∀ (j : Nat) (u : Value), (ins3 xs f.cells i)[j]? = some u → R2[j]? = some u := fun j u hu => by
    have e : R2.toList.take ((n + 1) * 3) = ins3 xs f.cells i := by
      have a1 : cur.toList.take (i * 3) = xs.take (i * 3) := by rw [← htake, List.take_take, Nat.min_eq_left (by omega)]
      have a2 : R1.toList.take (i * 3) = xs.take (i * 3) := by
        rw [eR1]
        simp only [List.append_assoc]
        rw [List.take_append_of_le_length (by rw [List.length_take, Array.length_toList]; omega), List.take_take, Nat.min_eq_left (by omega), a1]
      have a3 : R1.toList.drop (i * 3 + 3) = xs.drop (i * 3) ++ cur.toList.drop ((i + 1) * 3 + (xs.drop (i * 3)).length) := by
        rw [eR1]
        simp only [List.append_assoc]
        rw [show i * 3 + 3 = (cur.toList.take ((i + 1) * 3)).length by rw [List.length_take, Array.length_toList]; omega, List.drop_left]
      rw [eR2]
      show (R1.toList.take (i * 3) ++ f.cells ++ R1.toList.drop (i * 3 + 3)).take _ = _
      rw [a2, a3, ins3, ← List.append_assoc]
      rw [List.take_append_of_le_length (by simp only [List.length_append, List.length_take, hdl, hxl]; have : f.cells.length = 3 := rfl; omega), List.take_of_length_le (by simp only [List.length_append, List.length_take, hdl, hxl]; have : f.cells.length = 3 := rfl; omega)]
    simpa using list_get_of e hu
  have HF := Lib.hid hfin
  have HIL := Lib.hid hil
  have HC := Lib.hid hcap
  have hci1 : cap ≠ i + 1 := by omega
  have hci : cap ≠ i := by omega
  unfold maxLen at hcm
  clear hfin hil hgc htake eR1 eR2 hdl h1 hR1z hcs z24
  go_enter Tryz.func61, Tryz.ntmps61
  go_wp2_with (simp only [hov])
  refine wp_region_q (fun _ => True) (qe [8] 9) mixed (by kernel_rfl) trivial ?_
  intro Tp M Q hT hT' hM hQ
  have ei : ((i : Int) + 1).toNat = i + 1 := by omega
  simp only [qcmp, Nat.reduceBEq]
  simp (maxSteps := 5000000) only [↓qpre, qpost, qfacts, qnorm, ei, sliced_some hci1, sliced_some hci, Nat.zero_add]
  refine ⟨by unfold inI64; omega, ⟨by omega, by omega⟩, ⟨by omega, by omega⟩, ?_⟩
  refine T.eff_copy rfl rfl (hcp1 _ _ _) ⟨hT _ trivial, ?_⟩
  simp (maxSteps := 5000000) only [↓qpre, qpost, qnorm]
  refine hQ _ _ ?_
  clear hQ hT hT' hM hcp1 hov
  go_wp2_with (at_builtin; refine wpl_copy rfl _ _ 22 22 rfl _ _ rfl rfl (hcp2 _ _) ?_)
  go_ret
  exact ⟨_, _, rfl, rd_setRow hN1 (by have := HC.out; omega) HIL.out HF.out, grown_setRow hgr1 (.inr rfl)⟩
end Go.Proofs.YtahlfafcjjkliaaGreatDoor
