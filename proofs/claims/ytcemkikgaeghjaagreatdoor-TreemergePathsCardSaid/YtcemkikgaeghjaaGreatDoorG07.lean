/- Texts of the walks, together: Walks: the document's Find, without, Clashes, Sorted. Walks: the document's Put and Drop. Contracts of the library at this seat, laid by the shelf, in plain words. Walks: the program's Within, Clash, and clashes with a set of paths. Walks: slices.Clone of files; what copies do. -/
import Derived.Shelf.Strings.Prefix
import Derived.Test.YtcemkikgaeghjaaGreatDoorRows
import Derived.Maps.RangeWalk
import Derived.Laws.CopyRow
import Derived.Laws.Externs
import Derived.Lib.AppendZeros
import Derived.Lib.AppendZerosOnto
import Derived.Lib.Overlaps
import Derived.Lib.SliceRun
import Derived.Test.YtcemkikgaeghjaaGreatDoorG06
namespace Go.Proofs.YtcemkikgaeghjaaGreatDoor
open Go.RowKit

theorem E_files : Elem Tryz.prog 22 28 3 40 := elem_of (by kernel_rfl)
theorem one_files (l : List FV) : ∀ u ∈ l.flatMap FV.cells, u.oneCell' = true := by
  intro u hu
  obtain ⟨f, _, hf⟩ := List.mem_flatMap.1 hu
  simp only [FV.cells, List.mem_cons, List.mem_nil_iff, or_false] at hf
  rcases hf with rfl | rfl | rfl <;> rfl
theorem grown_b {w w' : World} (h : w.grownBy w' none) : Below w.heap.size w w' := ⟨h.os, h.tape, h.output, h.size, fun k hk => h.block k hk (by simp)⟩
theorem rd_litF (w : World) (f : FV) : Rd (w.alloc (.cells #[.string f.path, .bool f.exec, .string f.text] 28)) (w.alloc (.cells #[.string f.path, .bool f.exec, .string f.text] 28)).heap.size 3 (some ⟨w.heap.size, 0, none⟩) 1 1 ([f].flatMap FV.cells) :=
  ⟨rfl, Nat.le_refl _, fun _ => ⟨_, 0, rfl, by simp, fun j u hu => by
    rw [Nat.zero_add, World.cell?, heap_alloc_new]
    simpa [FV.cells] using hu⟩⟩
theorem T.flat_take {α : Type} {f : α → List Value} {sz : Nat} (hf : ∀ a, (f a).length = sz) : ∀ (l : List α) (k : Nat), (l.flatMap f).take (k * sz) = (l.take k).flatMap f
  | [], k => by simp
  | x :: l, 0 => by simp
  | x :: l, k + 1 => by
    rw [List.flatMap_cons, List.take_succ_cons, List.flatMap_cons, Nat.succ_mul, Nat.add_comm, List.take_append, hf, List.take_of_length_le (by rw [hf]; omega), show sz + k * sz - sz = k * sz by omega, T.flat_take hf l k]
theorem T.flat_drop {α : Type} {f : α → List Value} {sz : Nat} (hf : ∀ a, (f a).length = sz) : ∀ (l : List α) (k : Nat), (l.flatMap f).drop (k * sz) = (l.drop k).flatMap f
  | [], k => by simp
  | x :: l, 0 => by simp
  | x :: l, k + 1 => by
    rw [List.flatMap_cons, List.drop_succ_cons, Nat.succ_mul, Nat.add_comm, List.drop_append, hf, List.drop_of_length_le (by rw [hf]; omega), List.nil_append, show sz + k * sz - sz = k * sz by omega, T.flat_drop hf l k]
theorem rdF_cut {w : World} {B n c l k : Nat} {A : Option Addr} {xs : List FV} (h : Rd w B 3 A n c (xs.flatMap FV.cells)) (hl : l ≤ k) (hk : k ≤ n) :
    ∃ A', sliced A l k c 3 = .slice A' (k - l) (c - l) ∧ Rd w B 3 A' (k - l) (c - l) (((xs.take k).drop l).flatMap FV.cells) := by
  refine ⟨_, rfl, ?_⟩
  have := h.cut hl hk
  rw [T.flat_take FV.cells_len, T.flat_drop FV.cells_len] at this
  exact this
theorem T.run_lits3 {P : Program} {t e : TypeId} {bytes : Nat} (E : Elem P t e 3 bytes) (a b c : Value) (w : World) :
    (Instr.buildSlice t 1 #[(0, .agg #[a, b, c])]).run P w = .ok (.slice (some ⟨w.heap.size, 0, none⟩) 1 1) (w.alloc (.cells #[a, b, c] e)) := by
  obtain ⟨i, z, hi, hz, hsz, hby, hzs⟩ := E.row
  obtain ⟨z0, z1, z2, hzc⟩ : ∃ z0 z1 z2, z.cells = #[z0, z1, z2] := by
    have := hzs
    match h : z.cells, this with
    | ⟨[z0, z1, z2]⟩, _ => exact ⟨z0, z1, z2, rfl⟩
  simp [Instr.buildSlice, run_underlying E.und, sizeOf, typeInfo, hi, hsz, zeroValue, hz, Instr.fill, Value.cells, newRow, show Array.range 3 = #[0, 1, 2] from rfl]
theorem T.run_lits4 {P : Program} {t e : TypeId} {bytes : Nat} (E : Elem P t e 4 bytes) (a b c d : Value) (w : World) :
    (Instr.buildSlice t 1 #[(0, .agg #[a, b, c, d])]).run P w = .ok (.slice (some ⟨w.heap.size, 0, none⟩) 1 1) (w.alloc (.cells #[a, b, c, d] e)) := by
  obtain ⟨i, z, hi, hz, hsz, hby, hzs⟩ := E.row
  obtain ⟨z0, z1, z2, z3, hzc⟩ : ∃ z0 z1 z2 z3, z.cells = #[z0, z1, z2, z3] := by
    have := hzs
    match h : z.cells, this with
    | ⟨[z0, z1, z2, z3]⟩, _ => exact ⟨z0, z1, z2, z3, rfl⟩
  simp [Instr.buildSlice, run_underlying E.und, sizeOf, typeInfo, hi, hsz, zeroValue, hz, Instr.fill, Value.cells, newRow, show Array.range 4 = #[0, 1, 2, 3] from rfl]
theorem T.eff_lits {P : Program} {S : World → Prop} {a : Act} {w w' : World} {K : Act → World → Prop} {dst : Option Tmp} {t ty : TypeId} {x : Operand} {q : Bool} {g : Option (Tmp × Bool)} {v r : Value}
    (hr : (Instr.buildSlice t 1 #[(0, v)]).run P w = .ok r w') (hx : a.eval x = v) (hK : S w' ∧ K (a.put dst r) w') :
    effq P S ⟨q, dst, .buildSlice t 1 #[(0, x)], ty, g⟩ a w K := by
  refine eff_to (fun p af g => ?_) hK
  unfold execOp
  simp only [List.map_toArray, List.map_cons, List.map_nil, hx, hr, Sem.run_bind, Sem.run_pure, Result.andThen_ok]

def FilesIs (P : List FV → Prop) (w : World) (e : Ending) (w' : World) : Prop :=
  ∃ (A : Option Addr) (c : Nat) (l : List FV), e = .returned (.slice A l.length c) ∧ P l ∧ RdF w' w'.heap.size A l.length c l ∧ Below w.heap.size w w'

set_option maxRecDepth 100000 in
set_option maxHeartbeats 4000000 in
theorem rfind_any {A : Option Addr} {n c : Nat} {l : List FV} {p : ByteArray} {w : World} (hn : n ≤ 17592186044416) (h : RdF w w.heap.size A n c l) :
    Calls Tryz.prog 20 #[.slice A n c, .string p] w (FoundIs (findP l p) w) := by
  have HL := Lib.hid h.len
  obtain ⟨W, hW⟩ : ∃ u, u = w.alloc (.cells #[.string ⟨#[]⟩, .bool false, .string ⟨#[]⟩] 28) := ⟨_, rfl⟩
  have hbW : Below w.heap.size w W := by rw [hW]; exact (Below.refl _ _).alloc (Nat.le_refl _) _
  have hzW : W.heap.size = w.heap.size + 1 := by rw [hW]; simp
  have hbx : W.heap[w.heap.size]? = some (.cells #[.string ⟨#[]⟩, .bool false, .string ⟨#[]⟩] 28 (0, 0)) := by rw [hW]; exact heap_alloc_new _ _
  have HX := Lib.hid hbx
  have hi24 : (Tryz.prog.info? 28).map (·.size) = some 3 := by kernel_rfl
  clear hbx
  go_enter Tryz.func20, Tryz.ntmps20
  go_wp2
  rw [← hW]
  clear hW
  go_loopw [6] (fun i wr => ∃ k : Nat, k ≤ n ∧ i = .int .i64 k ∧ Below W.heap.size W wr ∧ Hid (∀ j g, j < k → l[j]? = some g → isP p g = false)) (fun i _ => n - (intOf i).toNat)
  case atStart => exact ⟨0, Nat.zero_le _, rfl, Below.refl _ _, fun j g hj => absurd hj (Nat.not_lt_zero _)⟩
  case round =>
    obtain ⟨k, hk, rfl, hb, hj⟩ := hrel
    have hbr : Below w.heap.size w wr := hbW.trans (hb.mono hbW.size)
    have hbox : wr.heap[w.heap.size]? = some (.cells #[.string ⟨#[]⟩, .bool false, .string ⟨#[]⟩] 28 (0, 0)) := (hb.block _ (by omega)).trans HX.out
    have HR := Lib.hid (show ∀ cs, (wr.setRow w.heap.size cs).heap[w.heap.size]? = some (.cells cs 28 (0, 0)) from fun cs => setRow_heap _ _ _ _ _ _ hbox)
    by_cases hlt : k < n
    · obtain ⟨b0, o0, f, rfl, hbb, hx, hfm, h0, h1, h2⟩ := h.get hlt
      replace h0 := (hbr.cell (p := ⟨b0, o0 + k * 3, none⟩) (by show b0 < _; omega)).trans h0
      replace h1 := (hbr.cell (p := ⟨b0, o0 + k * 3 + 1, none⟩) (by show b0 < _; omega)).trans h1
      replace h2 := (hbr.cell (p := ⟨b0, o0 + k * 3 + 2, none⟩) (by show b0 < _; omega)).trans h2
      by_cases hq : f.path = p
      · have HO := Lib.hid (show findP l p = some f from FirstAt.find ⟨hx, by simp [hq], hj.out⟩)
        have e1 : (f.path.toList == p.toList) = true := by rw [hq]; exact beq_self_eq_true _
        clear hx hj hq
        go_wp2_with (refine wpList_store_row rfl 28 (.tmp 4) (.tmp 23) rfl w.heap.size #[.string f.path, .bool f.exec, .string f.text] rfl rfl _ _ hbox hi24 rfl (by simp [Value.oneCell']) ?_)
        try simp only [Exit.inBlock, Exit.then]
        refine bodyPost_ret (results_cell_row_tmp rfl _ _ w.heap.size _ _ (0, 0) _ rfl (HR.out _) Tryz.underlying28 rfl (by kernel_rfl)) rfl ?_
        refine ⟨?_, below_setRow hbr (Nat.le_refl _)⟩
        rw [HO.out]; rfl
      · have e1 := ba_ne hq
        have HQ := Lib.hid (show ∀ j g, j < k + 1 → l[j]? = some g → isP p g = false from fun j x hj' hx' => by
          by_cases e : j = k
          · subst e; rw [hx] at hx'; injection hx' with hx'; subst hx'; simp [isP, hq]
          · exact hj.out j x (by omega) hx')
        clear hx hq
        go_wp2
        go_roundw
        case rel => exact ⟨k + 1, by omega, by go_num, hb, HQ.out⟩
        case measure => simp [intOf]; omega
    · have hkn : k = n := by omega
      subst hkn
      have HO := Lib.hid (show findP l p = none from (findP_no fun f hf => by
        obtain ⟨i, hi, rfl⟩ := List.getElem_of_mem hf
        exact hj.out i _ (by have := HL.out; omega) (List.getElem?_eq_getElem hi)).1)
      have hz := run_file0 wr
      clear hj
      go_wp2_with (refine wpList_store_row rfl 28 (.tmp 4) (.tmp 24) rfl w.heap.size #[.string ⟨#[]⟩, .bool false, .string ⟨#[]⟩] rfl rfl _ _ hbox hi24 rfl (by simp [Value.oneCell']) ?_)
      try simp only [Exit.inBlock, Exit.then]
      refine bodyPost_ret (results_cell_row_tmp rfl _ _ w.heap.size _ _ (0, 0) _ rfl (HR.out _) Tryz.underlying28 rfl (by kernel_rfl)) rfl ?_
      refine ⟨?_, below_setRow hbr (Nat.le_refl _)⟩
      rw [HO.out]; rfl

set_option maxRecDepth 100000 in
set_option maxHeartbeats 4000000 in
theorem without_any {A : Option Addr} {n c : Nat} {l : List FV} {p : ByteArray} {w : World} (hn : n ≤ 1000000) (h : RdF w w.heap.size A n c l) :
    Calls Tryz.prog 47 #[.slice A n c, .string p] w (FilesIs (· = without l p) w) := by
  have HL := Lib.hid h.len
  have HF := Lib.hid h.fits
  go_enter Tryz.func47, Tryz.ntmps47
  go_wp2
  go_loopw [5, 6] (fun lv i wr => ∃ (k m : Nat), k ≤ n ∧ i = .int .i64 k ∧ Below w.heap.size w wr ∧ m ≤ k ∧ Hid ((without (l.take k) p).length = m) ∧ wr.ownsRow w.heap.size 28 3 lv m ((without (l.take k) p).flatMap FV.cells)) (fun _ i _ => n - (intOf i).toNat)
  case atStart => exact ⟨0, 0, Nat.zero_le _, rfl, Below.refl _ _, Nat.le_refl _, by rw [List.take_zero]; exact rfl, by rw [List.take_zero]; exact World.ownsRow_nil _ _ _ _⟩
  case round =>
    obtain ⟨k, m, hk, rfl, hb, hmk, hm, ho⟩ := hrel
    by_cases hlt : k < n
    · obtain ⟨b0, o0, f, rfl, hbb, hx, hfm, h0, h1, h2⟩ := h.get hlt
      replace h0 := (hb.cell (p := ⟨b0, o0 + k * 3, none⟩) (by show b0 < _; omega)).trans h0
      replace h1 := (hb.cell (p := ⟨b0, o0 + k * 3 + 1, none⟩) (by show b0 < _; omega)).trans h1
      replace h2 := (hb.cell (p := ⟨b0, o0 + k * 3 + 2, none⟩) (by show b0 < _; omega)).trans h2
      by_cases hq : f.path = p
      · have e1 : (f.path.toList == p.toList) = true := by rw [hq]; exact beq_self_eq_true _
        have HW := Lib.hid (show without (l.take (k + 1)) p = without (l.take k) p by rw [List.take_add_one, hx, without, List.filter_append]; simp [hq, without])
        clear hx hq
        go_wp2
        go_roundw
        case rel => exact ⟨k + 1, m, by omega, by go_num, hb, by omega, by rw [HW.out]; exact hm, by rw [HW.out]; exact ho⟩
        case measure => simp [intOf]; omega
      · have e1 := ba_ne hq
        have HW := Lib.hid (show without (l.take (k + 1)) p = without (l.take k) p ++ [f] by rw [List.take_add_one, hx, without, List.filter_append]; simp [hq, without])
        have hb1 := hb.alloc hb.size (.cells #[.string f.path, .bool f.exec, .string f.text] 28)
        have ho1 := ho.alloc (.cells #[.string f.path, .bool f.exec, .string f.text] 28)
        clear hx hq
        go_wp2_with (at_builtin; refine wpl_append rfl (.tmp 20) (.tmp 25) 22 rfl E_files rfl rfl ho1 (rd_litF wr f) (one_files _) (by unfold maxLen; omega) (by omega) hb1.size ?_; intro v7 w7 ho7 hg7 hv7)
        go_roundw
        case rel =>
          refine ⟨k + 1, m + 1, by omega, by go_num, hb1.grown hg7 hb1.size (fun g hg => (ho1.lt g hg).1), by omega, ?_, ?_⟩
          · show (without (l.take (k + 1)) p).length = m + 1
            rw [HW.out, List.length_append, hm.out]; rfl
          · rw [HW.out, List.flatMap_append]; exact ho7
        case measure => simp [intOf]; omega
    · have hkn : k = n := by omega
      subst hkn
      rw [List.take_of_length_le (by rw [HL.out]; omega)] at hm ho
      go_wp2
      go_ret
      obtain ⟨A7, c7, rfl, hc7⟩ := ownsRow_cap ho
      have hr := Rd.of_own ho hc7
      rw [← hm.out] at hr ⊢
      exact ⟨A7, c7, _, rfl, rfl, ⟨hr, rfl, fun x hx => HF.out x ((List.mem_filter.1 hx).1)⟩, hb⟩

set_option maxRecDepth 100000 in
set_option maxHeartbeats 4000000 in
theorem rclashes_any {A : Option Addr} {n c : Nat} {l : List FV} {p : ByteArray} {w : World} (hn : n ≤ 17592186044416) (hp : p.size ≤ maxLen) (h : RdF w w.heap.size A n c l) :
    Calls Tryz.prog 48 #[.slice A n c, .string p] w (BoolBelow (clashF l p) w) := by
  have HL := Lib.hid h.len
  go_enter Tryz.func48, Tryz.ntmps48
  go_wp2
  go_loopw [5] (fun i wr => ∃ k : Nat, k ≤ n ∧ i = .int .i64 k ∧ Below w.heap.size w wr ∧ Hid (clashF (l.take k) p = false)) (fun i _ => n - (intOf i).toNat)
  case atStart => exact ⟨0, Nat.zero_le _, rfl, Below.refl _ _, by rw [List.take_zero]; exact rfl⟩
  case round =>
    obtain ⟨k, hk, rfl, hb, hj⟩ := hrel
    by_cases hlt : k < n
    · obtain ⟨b0, o0, f, rfl, hbb, hx, hfm, h0, h1, h2⟩ := h.get hlt
      replace h0 := (hb.cell (p := ⟨b0, o0 + k * 3, none⟩) (by show b0 < _; omega)).trans h0
      have hfit := (h.fits f hfm).1
      clear h1 h2
      have HN := Lib.hid (show clashF (l.take (k + 1)) p = (clashF (l.take k) p || (!decide (f.path = p) && clashP f.p p.data.toList)) by rw [List.take_add_one, hx]; simp [clashF])
      by_cases hq : f.path = p
      · have e1 : (f.path.toList == p.toList) = true := by rw [hq]; exact beq_self_eq_true _
        have HO := Lib.hid (show clashF (l.take (k + 1)) p = false by rw [HN.out, hj.out, hq]; simp)
        clear hx hq
        go_wp2
        go_roundw
        case rel => exact ⟨k + 1, by omega, by go_num, hb, HO.out⟩
        case measure => simp [intOf]; omega
      · have e1 := ba_ne hq
        have C := rclash_any (p := f.path) (d := p) (w := wr) (by unfold maxLen; omega) hp
        cases hc : clashP f.path.data.toList p.data.toList with
        | true =>
          rw [hc] at C
          have HO := Lib.hid (show clashF l p = true by
            simp only [clashF, List.any_eq_true, Bool.and_eq_true]
            exact ⟨f, hfm, by simp [hq], hc⟩)
          clear hx hq hc
          go_wp2_with fail
          refine C.mono ?_
          rintro e w1 ⟨rfl, rfl⟩
          clear C
          go_wp2
          go_ret
          exact ⟨ret_bool HO.out.symm, hb⟩
        | false =>
          rw [hc] at C
          have HO := Lib.hid (show clashF (l.take (k + 1)) p = false by rw [HN.out, hj.out, FV.p, hc]; simp)
          clear hx hq hc
          go_wp2_with fail
          refine C.mono ?_
          rintro e w1 ⟨rfl, rfl⟩
          clear C
          go_wp2
          go_roundw
          case rel => exact ⟨k + 1, by omega, by go_num, hb, HO.out⟩
          case measure => simp [intOf]; omega
    · have hkn : k = n := by omega
      subst hkn
      have HO := Lib.hid (show clashF l p = false by have := hj.out; rwa [List.take_of_length_le (by rw [HL.out]; omega)] at this)
      go_wp2
      go_ret
      exact ⟨ret_bool HO.out.symm, hb⟩

def NewAt (A : Option Addr) (B : Nat) : Prop := ∀ b o s, A = some ⟨b, o, s⟩ → B ≤ b
theorem NewAt.none_ (B : Nat) : NewAt none B := fun _ _ _ h => by cases h
def FilesIsN (P : List FV → Prop) (w : World) (e : Ending) (w' : World) : Prop :=
  ∃ (A : Option Addr) (c : Nat) (l : List FV), e = .returned (.slice A l.length c) ∧ P l ∧ RdF w' w'.heap.size A l.length c l ∧ Below w.heap.size w w' ∧ NewAt A w.heap.size
theorem FilesIsN.old {P : List FV → Prop} {w w' : World} {e : Ending} (h : FilesIsN P w e w') : FilesIs P w e w' := by
  obtain ⟨A, c, l, h1, h2, h3, h4, _⟩ := h
  exact ⟨A, c, l, h1, h2, h3, h4⟩

set_option maxRecDepth 100000 in
set_option maxHeartbeats 8000000 in
theorem sorted_new {A : Option Addr} {n c : Nat} {l : List FV} {f : FV} {w : World} (hn : n ≤ 1000000) (h : RdF w w.heap.size A n c l) (hff : f.path.size ≤ 140737488351232 ∧ f.text.size ≤ 140737488351232) :
    Calls Tryz.prog 49 #[.slice A n c, .agg #[.string f.path, .bool f.exec, .string f.text]] w (FilesIsN (· = sortedIn l f) w) := by
  have HL := Lib.hid h.len
  have HF := Lib.hid h.fits
  have hcap := h.row.cap
  obtain ⟨W, hW⟩ : ∃ u, u = w.alloc (.cells #[.string f.path, .bool f.exec, .string f.text] 28) := ⟨_, rfl⟩
  have hbW : Below w.heap.size w W := by rw [hW]; exact (Below.refl _ _).alloc (Nat.le_refl _) _
  have hzW : W.heap.size = w.heap.size + 1 := by rw [hW]; simp
  have hx : ∀ i u, f.cells[i]? = some u → ∀ u', Below W.heap.size W u' → u'.cell? ⟨w.heap.size, i, none⟩ = some u := fun i u hu u' hu' =>
    (hu'.cell (p := ⟨w.heap.size, i, none⟩) (by show w.heap.size < _; omega)).trans (by rw [hW, World.cell?, heap_alloc_new]; simpa [FV.cells] using hu)
  have XB := Lib.hid hx
  clear hx
  have hR := h.row.to hbW hbW.size
  go_enter Tryz.func49, Tryz.ntmps49
  go_wp2
  rw [← hW]
  clear hW
  rename_i K hK
  have TAIL : ∀ (wr : World) (k : Nat) (u6 u7 u8 u9 u10 u11 u12 u13 u14 u15 u16 u17 u18 u19 u20 u21 : Value), k ≤ n → Below W.heap.size W wr → Hid (sortedIn l f = l.take k ++ f :: l.drop k) → K ⟨#[.slice A n c, .agg #[.string f.path, .bool f.exec, .string f.text], undef, .pointer (some ⟨w.heap.size, 0, none⟩), .slice none 0 0, .int .i64 k, u6, u7, u8, u9, u10, u11, u12, u13, u14, u15, u16, u17, u18, u19, u20, u21, undef, undef, undef, undef, undef, undef, undef, undef, undef, undef, undef], []⟩ wr := by
    intro wr k u6 u7 u8 u9 u10 u11 u12 u13 u14 u15 u16 u17 u18 u19 u20 u21 hk hbr HP
    refine hK _ _ ?_
    clear hK
    have HR := Lib.hid (hR.below hbr)
    go_wp2
    refine wp_region_t (fun v' => Below W.heap.size W v') (.q 0 (.q 1 (.q 2 (.q 4 (.q 7 (.q 8 (.q 9 (.two 3 (.one 5 (.one 6 (.one 10 (.q 11 .leaf)))) 5 (.one 3 (.one 6 (.one 10 (.q 11 .leaf)))))))))))) mixed (by kernel_rfl) hbr.drew ?_
    intro Tp M Q hT hT' hM hQ
    have m0 : M ⟨w.heap.size, 0, none⟩ = some (.string f.path) := hM _ _ fun w' hw => XB.out 0 _ rfl w' hw
    have m1 : M ⟨w.heap.size, 1, none⟩ = some (.bool f.exec) := hM _ _ fun w' hw => XB.out 1 _ rfl w' hw
    have m2 : M ⟨w.heap.size, 2, none⟩ = some (.string f.text) := hM _ _ fun w' hw => XB.out 2 _ rfl w' hw
    clear hM
    refine wt_gen ?_
    intro O hO
    have t0 := hO true 0
    have t1 := hO true 1
    have t2 := hO true 2
    have t4 := hO true 4
    have t7 := hO true 7
    have t8 := hO true 8
    have t9 := hO true 9
    have t11 := hO true 11
    have e3 := hO false 3
    have e5 := hO false 5
    have e6 := hO false 6
    have e10 := hO false 10
    simp only [qcmp] at t0 t1 t2 t4 t7 t8 t9 t11 e3 e5 e6 e10
    clear hO
    simp (maxSteps := 5000000) only [↓wt_q, ↓wt_two, t0, t1, t2, t4, t7, t8, t9, e3, e5, ↓qpre, qpost, qfacts, qnorm, m0, m1, m2]
    clear t0 t1 t2 t4 t7 t8 t9 m0 m1 m2
    have hrd := HR.out.drew
    have hbd : Below W.heap.size W wr.drew := hbr.drew
    clear hbr
    generalize wr.drew = w1 at *
    obtain ⟨A1, q1, r1⟩ := rdF_cut hrd (l := 0) (k := k) (by omega) hk
    obtain ⟨A2, q2, r2⟩ := rdF_cut hrd (l := k) (k := n) hk (Nat.le_refl _)
    rw [q1, q2]
    rw [Nat.sub_zero, List.drop_zero] at r1
    rw [List.take_of_length_le (by rw [HL.out]; omega)] at r2
    clear q1 q2 hrd
    have hbs := hbd.size
    simp only [Nat.sub_zero]
    refine ⟨⟨by omega, by omega⟩, ⟨by omega, by omega⟩, ?_, ?_⟩
    · refine eff_append E_files (base := W.heap.size) (n := 0) (xs := []) rfl rfl (World.ownsRow_nil _ _ _ _) r1 (one_files _) (by simp only [maxLen]; omega) (by omega) hbs ?_
      intro v1 w2 ho1 hg1 _
      rw [Nat.zero_add, List.nil_append] at ho1
      have hb2 := hbd.grown hg1 hbs (fun g hg => by cases hg)
      replace r2 := r2.below (grown_b (w := w1) (w' := w2) hg1 |>.mono hbs)
      refine ⟨hT _ hb2, ?_⟩
      simp (maxSteps := 5000000) only [↓wt_one, e5, qpost, qnorm]
      refine T.eff_lits (T.run_lits3 E_files (.string f.path) (.bool f.exec) (.string f.text) _) rfl ⟨hT _ (hb2.alloc hb2.size _), ?_⟩
      have ho1' := ho1.alloc (.cells #[.string f.path, .bool f.exec, .string f.text] 28)
      have hv := rd_litF w2 f
      have hb3 := hb2.alloc hb2.size (.cells #[.string f.path, .bool f.exec, .string f.text] 28)
      replace r2 := r2.below ((Below.refl w2.heap.size w2).alloc (Nat.le_refl _) (.cells #[.string f.path, .bool f.exec, .string f.text] 28) |>.mono hb2.size)
      clear ho1 hg1 hb2 r1 hbd hbs
      simp (maxSteps := 5000000) only [↓wt_one, e6, qpost, qnorm]
      generalize w2.alloc (.cells #[.string f.path, .bool f.exec, .string f.text] 28) = w3 at *
      refine eff_append E_files (base := W.heap.size) (n := k) rfl rfl ho1' hv (one_files _) (by simp only [maxLen]; omega) (by omega) hb3.size ?_
      intro v4 w4 ho4 hg4 _
      have hb4 := hb3.grown hg4 hb3.size (fun g hg => (ho1'.lt g hg).1)
      replace r2 := r2.grown hg4 hb3.size (fun g hg => (ho1'.lt g hg).1)
      refine ⟨hT _ hb4, ?_⟩
      simp (maxSteps := 5000000) only [↓wt_one, e10, qpost, qnorm]
      refine eff_append E_files (base := W.heap.size) (n := k + 1) rfl rfl ho4 r2 (one_files _) (by simp only [maxLen]; omega) (by omega) hb4.size ?_
      intro v5 w5 ho5 hg5 _
      have hb5 := hb4.grown hg5 hb4.size (fun g hg => (ho4.lt g hg).1)
      refine ⟨hT _ hb5, ?_⟩
      simp (maxSteps := 5000000) only [↓wt_leaf, ↓wt_q, t11, ↓qpre, qpost, qnorm]
      refine hQ _ _ ?_
      have HB := Lib.hid hb5
      have HO := Lib.hid ho5
      clear hQ hT hT' t11 e3 e5 e6 e10 ho1' hv hb3 ho4 hg4 hb4 r2 hb5 ho5 hg5
      try clear x0
      go_wp2
      go_ret
      obtain ⟨A5, c5, rfl, hc5⟩ := ownsRow_cap HO.out
      have hr5 := Rd.of_own HO.out hc5
      rw [← List.flatMap_append, ← List.flatMap_append] at hr5
      have hll : (l.take k ++ [f] ++ l.drop k).length = k + 1 + (n - k) := by rw [List.length_append, List.length_append, List.length_take, List.length_drop, HL.out, Nat.min_eq_left hk]; rfl
      rw [← hll] at hr5 ⊢
      refine ⟨A5, c5, _, rfl, ?_, ⟨hr5, rfl, fun x hx => ?_⟩, hbW.trans (HB.out.mono (by omega)), fun b o s hA => by have := (HO.out.lt b (by rw [hA]; rfl)).1; omega⟩
      · rw [HP.out]; simp
      · simp only [List.mem_append, List.mem_singleton] at hx
        rcases hx with (hx | rfl) | hx
        · exact HF.out x (List.mem_of_mem_take hx)
        · exact hff
        · exact HF.out x (List.mem_of_mem_drop hx)
    · refine T.eff_lits (T.run_lits3 E_files (.string f.path) (.bool f.exec) (.string f.text) _) rfl ⟨hT _ (hbd.alloc hbs _), ?_⟩
      have hv0 := rd_litF w1 f
      have hb2 := hbd.alloc hbs (.cells #[.string f.path, .bool f.exec, .string f.text] 28)
      replace r1 := r1.below ((Below.refl w1.heap.size w1).alloc (Nat.le_refl _) (.cells #[.string f.path, .bool f.exec, .string f.text] 28) |>.mono hbs)
      replace r2 := r2.below ((Below.refl w1.heap.size w1).alloc (Nat.le_refl _) (.cells #[.string f.path, .bool f.exec, .string f.text] 28) |>.mono hbs)
      simp (maxSteps := 5000000) only [↓wt_one, e3, qpost, qnorm]
      generalize w1.alloc (.cells #[.string f.path, .bool f.exec, .string f.text] 28) = w2 at *
      have hbs2 := hb2.size
      refine eff_append E_files (base := W.heap.size) (n := 0) (xs := []) rfl rfl (World.ownsRow_nil _ _ _ _) r1 (one_files _) (by simp only [maxLen]; omega) (by omega) hbs2 ?_
      intro v1 w3 ho1' hg1 _
      rw [Nat.zero_add, List.nil_append] at ho1'
      have hb3 := hb2.grown hg1 hbs2 (fun g hg => by cases hg)
      have hgb := grown_b (w := w2) (w' := w3) hg1
      replace r2 := r2.below (hgb.mono hbs2)
      have hv := hv0.below hgb
      clear hv0 hg1 hb2 r1 hbd hbs hbs2 hgb
      refine ⟨hT _ hb3, ?_⟩
      simp (maxSteps := 5000000) only [↓wt_one, e6, qpost, qnorm]
      refine eff_append E_files (base := W.heap.size) (n := k) rfl rfl ho1' hv (one_files _) (by simp only [maxLen]; omega) (by omega) hb3.size ?_
      intro v4 w4 ho4 hg4 _
      have hb4 := hb3.grown hg4 hb3.size (fun g hg => (ho1'.lt g hg).1)
      replace r2 := r2.grown hg4 hb3.size (fun g hg => (ho1'.lt g hg).1)
      refine ⟨hT _ hb4, ?_⟩
      simp (maxSteps := 5000000) only [↓wt_one, e10, qpost, qnorm]
      refine eff_append E_files (base := W.heap.size) (n := k + 1) rfl rfl ho4 r2 (one_files _) (by simp only [maxLen]; omega) (by omega) hb4.size ?_
      intro v5 w5 ho5 hg5 _
      have hb5 := hb4.grown hg5 hb4.size (fun g hg => (ho4.lt g hg).1)
      refine ⟨hT _ hb5, ?_⟩
      simp (maxSteps := 5000000) only [↓wt_leaf, ↓wt_q, t11, ↓qpre, qpost, qnorm]
      refine hQ _ _ ?_
      have HB := Lib.hid hb5
      have HO := Lib.hid ho5
      clear hQ hT hT' t11 e3 e5 e6 e10 ho1' hv hb3 ho4 hg4 hb4 r2 hb5 ho5 hg5
      try clear x0
      go_wp2
      go_ret
      obtain ⟨A5, c5, rfl, hc5⟩ := ownsRow_cap HO.out
      have hr5 := Rd.of_own HO.out hc5
      rw [← List.flatMap_append, ← List.flatMap_append] at hr5
      have hll : (l.take k ++ [f] ++ l.drop k).length = k + 1 + (n - k) := by rw [List.length_append, List.length_append, List.length_take, List.length_drop, HL.out, Nat.min_eq_left hk]; rfl
      rw [← hll] at hr5 ⊢
      refine ⟨A5, c5, _, rfl, ?_, ⟨hr5, rfl, fun x hx => ?_⟩, hbW.trans (HB.out.mono (by omega)), fun b o s hA => by have := (HO.out.lt b (by rw [hA]; rfl)).1; omega⟩
      · rw [HP.out]; simp
      · simp only [List.mem_append, List.mem_singleton] at hx
        rcases hx with (hx | rfl) | hx
        · exact HF.out x (List.mem_of_mem_take hx)
        · exact hff
        · exact HF.out x (List.mem_of_mem_drop hx)

  clear hK
  go_loopw [5] (fun i wr => ∃ k : Nat, k ≤ n ∧ i = .int .i64 k ∧ Below W.heap.size W wr ∧ Hid (∀ j g, j < k → l[j]? = some g → g.p < f.p)) (fun i _ => n - (intOf i).toNat)
  case atStart => exact ⟨0, Nat.zero_le _, rfl, Below.refl _ _, fun j g hj => absurd hj (Nat.not_lt_zero _)⟩
  case round =>
    obtain ⟨k, hk, rfl, hb, hj⟩ := hrel
    have hbr : Below w.heap.size w wr := hbW.trans (hb.mono hbW.size)
    have CUT : (∀ g, l[k]? = some g → ¬ g.p < f.p) → Hid (sortedIn l f = l.take k ++ f :: l.drop k) := fun hn => by
      show sortedIn l f = _
      conv => lhs; rw [← List.take_append_drop k l]
      refine sortedIn_cut (fun x hx => ?_) fun x hx => hn x (by rwa [List.getElem?_drop, Nat.add_zero] at hx)
      obtain ⟨j, hj', e⟩ := List.getElem_of_mem hx
      rw [List.length_take] at hj'
      rw [List.getElem_take] at e
      exact hj.out j x (by omega) (by rw [← e]; exact List.getElem?_eq_getElem _)
    by_cases hlt : k < n
    · obtain ⟨b0, o0, g, rfl, hbb, hx, hfm, h0, _, _⟩ := h.get hlt
      replace h0 := (hbr.cell (p := ⟨b0, o0 + k * 3, none⟩) (by show b0 < _; omega)).trans h0
      go_wp2
      refine wp_region_q (fun w' => Below W.heap.size W w') (qs 14) mixed (by kernel_rfl) hb.drew ?_
      have hbd := hb.drew
      intro Tp M Q hT hT' hM hQ
      have m0 : M ⟨b0, o0 + k * 3, none⟩ = some (.string g.path) := hM _ _ fun w' hw => ((hbW.trans (hw.mono hbW.size)).cell (p := ⟨b0, o0 + k * 3, none⟩) (by show b0 < _; omega)).trans ((hbr.cell (p := ⟨b0, o0 + k * 3, none⟩) (by show b0 < _; omega)).symm.trans h0)
      have mb : M ⟨w.heap.size, 0, none⟩ = some (.string f.path) := hM _ _ fun w' hw => XB.out 0 _ rfl w' hw
      simp only [qcmp]
      have hk1 : decide ((k : Int) < n) = true := decide_eq_true (by omega)
      by_cases hq : g.path.data.toList < f.path.data.toList
      · have hl := (lt_str g.path f.path).trans (decide_eq_true hq)
        have HQ := Lib.hid (show ∀ j x, j < k + 1 → l[j]? = some x → x.p < f.p from fun j x hj' hx' => by
          by_cases e : j = k
          · subst e; rw [hx] at hx'; injection hx' with hx'; subst hx'; exact hq
          · exact hj.out j x (by omega) hx')
        clear hq hx CUT
        simp (maxSteps := 5000000) only [↓qpre, qpost, qfacts, qnorm, m0, mb, hk1, hl]
        refine ⟨⟨by omega, by omega⟩, hQ _ _ ?_⟩
        clear hQ hT hT' hM m0 mb hl TAIL
        go_wp2
        go_roundw
        case rel => exact ⟨k + 1, by omega, by go_num, hbd, HQ.out⟩
        case measure => simp [intOf]; omega
      · have hl := (lt_str g.path f.path).trans (decide_eq_false hq)
        have HC := CUT (fun x hx' => by rw [hx] at hx'; injection hx' with hx'; subst hx'; exact hq)
        clear hq hx CUT
        simp (maxSteps := 5000000) only [↓qpre, qpost, qfacts, qnorm, m0, mb, hk1, hl]
        refine ⟨⟨by omega, by omega⟩, hQ _ _ ?_⟩
        clear hQ hT hT' hM m0 mb hl
        go_wp2
        exact TAIL _ k _ _ _ _ _ _ _ _ _ _ _ _ _ _ _ _ hk hbd HC
    · have hkn : k = n := by omega
      subst hkn
      have HC := CUT (fun x hx' => by have := (List.getElem?_eq_some_iff.1 hx').1; rw [HL.out] at this; omega)
      clear CUT
      go_wp2
      refine wp_region_q (fun w' => Below W.heap.size W w') (qs 14) mixed (by kernel_rfl) hb.drew ?_
      have hbd := hb.drew
      intro Tp M Q hT hT' hM hQ
      simp only [qcmp]
      have hk1 : decide ((k : Int) < k) = false := decide_eq_false (by omega)
      simp (maxSteps := 5000000) only [↓qpre, qpost, qfacts, qnorm, hk1]
      refine hQ _ _ ?_
      clear hQ hT hT' hM
      go_wp2
      exact TAIL _ k _ _ _ _ _ _ _ _ _ _ _ _ _ _ _ _ hk hbd HC
end Go.Proofs.YtcemkikgaeghjaaGreatDoor
namespace Go.Proofs.YtcemkikgaeghjaaGreatDoor
open Go.RowKit

def FilesErr (r : List FV × Int) (w : World) (e : Ending) (w' : World) : Prop :=
  ∃ (A : Option Addr) (c : Nat), e = .returned (.tuple #[.slice A r.1.length c, .int .i64 r.2]) ∧ RdF w' w'.heap.size A r.1.length c r.1 ∧ Below w.heap.size w w'
theorem treeOk_len {l : List FV} (h : treeOk l = true) : l.length ≤ 100 := (treeOk_iff.1 h).1
theorem without_len (l : List FV) (p : ByteArray) : (without l p).length ≤ l.length := List.length_filter_le _ _
theorem findP_isSome (l : List FV) (p : ByteArray) : (findP l p).isSome = hasP l p := by
  cases h : findP l p with
  | none => rw [findP_none.1 h]; rfl
  | some f => rw [(hasP_iff.2 ⟨f, findP_some h⟩)]; rfl

def FilesErrN (r : List FV × Int) (w : World) (e : Ending) (w' : World) : Prop :=
  ∃ (A : Option Addr) (c : Nat), e = .returned (.tuple #[.slice A r.1.length c, .int .i64 r.2]) ∧ RdF w' w'.heap.size A r.1.length c r.1 ∧ Below w.heap.size w w' ∧ NewAt A w.heap.size
theorem filesErrN_none {r : List FV × Int} {k : Int} {w w' : World} (h : r = ([], k)) (hb : Below w.heap.size w w') : FilesErrN r w (.returned (.tuple #[.slice none 0 0, .int .i64 k])) w' := by
  subst h
  exact ⟨none, 0, rfl, RdF.none_ _ _, hb, NewAt.none_ _⟩
theorem filesErrN_ok {r : List FV × Int} {A : Option Addr} {c n : Nat} {l : List FV} {w w' : World} (hn : l.length = n) (h : r = (l, 0)) (hr : RdF w' w'.heap.size A n c l) (hb : Below w.heap.size w w') (hN : NewAt A w.heap.size) : FilesErrN r w (.returned (.tuple #[.slice A n c, .int .i64 0])) w' := by
  subst h
  subst hn
  exact ⟨A, c, rfl, hr, hb, hN⟩
set_option maxRecDepth 100000 in
set_option maxHeartbeats 8000000 in
theorem rput_new {A : Option Addr} {n c : Nat} {l : List FV} {f : FV} {w : World} (hn : n ≤ 17592186044416) (h : RdF w w.heap.size A n c l) (hff : f.path.size ≤ 140737488351232 ∧ f.text.size ≤ 140737488351232) :
    Calls Tryz.prog 22 #[.slice A n c, .agg #[.string f.path, .bool f.exec, .string f.text]] w (FilesErrN (putF l f) w) := by
  have HL := Lib.hid h.len
  obtain ⟨W, hW⟩ : ∃ u, u = w.alloc (.cells #[.string f.path, .bool f.exec, .string f.text] 28) := ⟨_, rfl⟩
  have hbW : Below w.heap.size w W := by rw [hW]; exact (Below.refl _ _).alloc (Nat.le_refl _) _
  have hzW : W.heap.size = w.heap.size + 1 := by rw [hW]; simp
  have hx : ∀ i u, f.cells[i]? = some u → ∀ u', Below W.heap.size W u' → u'.cell? ⟨w.heap.size, i, none⟩ = some u := fun i u hu u' hu' =>
    (hu'.cell (p := ⟨w.heap.size, i, none⟩) (by show w.heap.size < _; omega)).trans (by rw [hW, World.cell?, heap_alloc_new]; simpa [FV.cells] using hu)
  have XB := Lib.hid hx
  clear hx
  have UP : ∀ u, Below W.heap.size W u → Below w.heap.size w u := fun u hu => hbW.trans (hu.mono hbW.size)
  have MORE : ∀ {u v : World}, Below W.heap.size W u → Below u.heap.size u v → Below W.heap.size W v := fun h1 h2 => h1.trans (h2.mono h1.size)
  have RD : ∀ u, Below W.heap.size W u → RdF u u.heap.size A n c l := fun u hu => h.to (UP u hu) (UP u hu).size
  go_enter Tryz.func22, Tryz.ntmps22
  go_wp2_with fail
  rw [← hW]
  clear hW
  refine (rright_any hn (RD W (Below.refl _ _))).mono ?_
  rintro e w1 ⟨rfl, hb1⟩
  cases ht : treeOk l with
  | false =>
    have HP := Lib.hid (show putF l f = ([], 5) by simp [putF, ht])
    clear ht
    go_wp2
    go_ret2
    exact filesErrN_none HP.out (UP _ hb1)
  | true =>
  have hlen := treeOk_len ht
  rw [HL.out] at hlen
  have HT := Lib.hid ht
  clear ht
  have x0 := XB.out 0 _ rfl w1 hb1
  go_wp2_with fail
  refine (rpath_any (s := f.path)).mono ?_
  rintro e w2 ⟨rfl, hv⟩
  have hb2 := MORE hb1 hv
  clear hb1 hv x0
  have hp0 : pathOk f.path.data.toList = pathOk f.p := rfl
  rw [hp0]
  clear hp0
  cases hp : pathOk f.p with
  | false =>
    have HP := Lib.hid (show putF l f = ([], 11) by simp [putF, HT.out, hp])
    clear hp
    go_wp2
    go_ret2
    exact filesErrN_none HP.out (UP _ hb2)
  | true =>
  have HK := Lib.hid hp
  clear hp
  have x2 := XB.out 2 _ rfl w2 hb2
  by_cases hz : 20000 < f.text.size
  · have HP := Lib.hid (show putF l f = ([], 6) by simp [putF, HT.out, HK.out, hz])
    go_wp2
    go_ret2
    exact filesErrN_none HP.out (UP _ hb2)
  have x0 := XB.out 0 _ rfl w2 hb2
  go_wp2_with fail
  refine (rfind_any hn (RD _ hb2)).mono ?_
  rintro e w3 ⟨rfl, hv⟩
  have hb3 := MORE hb2 hv
  clear hb2 hv x0 x2
  obtain ⟨w4, hw4⟩ : ∃ u, u = w3.alloc (.cells #[.string (optF (findP l f.path)).path, .bool (optF (findP l f.path)).exec, .string (optF (findP l f.path)).text] 28) := ⟨_, rfl⟩
  have hb4 : Below W.heap.size W w4 := by rw [hw4]; exact hb3.alloc hb3.size _
  have x0 : (w3.alloc (.cells #[.string (optF (findP l f.path)).path, .bool (optF (findP l f.path)).exec, .string (optF (findP l f.path)).text] 28)).cell? ⟨w.heap.size, 0, none⟩ = some (.string f.path) := by rw [← hw4]; exact XB.out 0 _ rfl w4 hb4
  rw [findP_isSome]
  go_wp2_with fail
  rw [← hw4]
  clear x0 hw4 hb3
  refine (without_any (p := f.path) (by omega) (RD _ hb4)).mono ?_
  rintro e w5 ⟨A5, c5, l5, rfl, rfl, hr5, hv⟩
  have hb5 := MORE hb4 hv
  clear hb4 hv
  have hl5 := without_len l f.path
  rw [HL.out] at hl5
  have x0 := XB.out 0 _ rfl w5 hb5
  cases hh : hasP l f.path with
  | true =>
    have HP := Lib.hid (show putF l f = (sortedIn (without l f.path) f, 0) by simp [putF, HT.out, HK.out, hz, hh])
    clear hh
    have x1 := XB.out 1 _ rfl w5 hb5
    have x2 := XB.out 2 _ rfl w5 hb5
    generalize hm : (without l f.path).length = m at *
    go_wp2_with fail
    refine (sorted_new (f := f) (by omega) hr5 hff).mono ?_
    rintro e w6 ⟨A6, c6, l6, rfl, rfl, hr6, hv, hN6⟩
    have HS5 := Lib.hid hb5
    have hb6 := MORE hb5 hv
    clear x0 x1 x2
    go_wp2
    go_ret2
    exact filesErrN_ok rfl HP.out hr6 (UP _ hb6) (fun b o s hA => Nat.le_trans (UP _ HS5.out).size (hN6 b o s hA))
  | false =>
    have HW := Lib.hid (without_none hh)
    go_wp2_with fail
    refine (rclashes_any (p := f.path) hn (by unfold maxLen; omega) (RD _ hb5)).mono ?_
    rintro e w6 ⟨rfl, hv⟩
    have hb6 := MORE hb5 hv
    have hr6 := hr5.to hv hv.size
    clear hb5 hr5 hv x0
    cases hc : clashF l f.path with
    | true =>
      have HP := Lib.hid (show putF l f = ([], 11) by simp [putF, HT.out, HK.out, hz, hh, hc])
      clear hh hc
      go_wp2
      go_ret2
      exact filesErrN_none HP.out (UP _ hb6)
    | false =>
      by_cases hbig : 100 ≤ n
      · have HP := Lib.hid (show putF l f = ([], 6) by simp [putF, HT.out, HK.out, hz, hh, hc, HL.out, hbig])
        clear hh hc
        go_wp2
        go_ret2
        exact filesErrN_none HP.out (UP _ hb6)
      · have HP := Lib.hid (show putF l f = (sortedIn (without l f.path) f, 0) by simp [putF, HT.out, HK.out, hz, hh, hc, HL.out, hbig, HW.out])
        clear hh hc
        have x0 := XB.out 0 _ rfl w6 hb6
        have x1 := XB.out 1 _ rfl w6 hb6
        have x2 := XB.out 2 _ rfl w6 hb6
        generalize hm : (without l f.path).length = m at *
        go_wp2_with fail
        refine (sorted_new (f := f) (by omega) hr6 hff).mono ?_
        rintro e w7 ⟨A7, c7, l7, rfl, rfl, hr7, hv, hN7⟩
        have HS6 := Lib.hid hb6
        have hb7 := MORE hb6 hv
        clear x0 x1 x2
        go_wp2
        go_ret2
        exact filesErrN_ok rfl HP.out hr7 (UP _ hb7) (fun b o s hA => Nat.le_trans (UP _ HS6.out).size (hN7 b o s hA))

end Go.Proofs.YtcemkikgaeghjaaGreatDoor
namespace Go.Proofs.YtcemkikgaeghjaaGreatDoor
open Go.Shelf
def Tryz.lays99_ren : Go.Shelf.Ren := ⟨fun | 99 => 163 | 206 => 186 | n => n, fun | 9 => 9 | 4 => 4 | 3 => 3 | n => n, fun | n => n⟩
theorem Tryz.lays99 : Go.Proofs.Lays.n99 Tryz.prog Tryz.lays99_ren := {
  mixed := by kernel_rfl
  f99 := Tryz.func163.trans (congrArg some (by kernel_rfl))
  f206 := Tryz.func186.trans (congrArg some (by kernel_rfl))
  t3 := Tryz.underlying3
  a3 := Tryz.isAgg3
  z3 := Tryz.sizeOf3
  v3 := Tryz.zeroValue3
  t4 := Tryz.underlying4
  a4 := Tryz.isAgg4
  z4 := Tryz.sizeOf4
  v4 := Tryz.zeroValue4
  t9 := Tryz.underlying9
  a9 := Tryz.isAgg9
  z9 := Tryz.sizeOf9
  v9 := Tryz.zeroValue9 }
open Go.RowKit Go.Lib in
theorem Tryz.strings_HasPrefix (s p : ByteArray) (w : World) :
    Calls Tryz.prog 163 #[.string s, .string p] w fun e w' => e = .returned (.bool (Lib.hasPrefix s.data.toList p.data.toList)) ∧ w' = w := Any.strings_HasPrefix Tryz.lays99 s p w
def Tryz.lays100_ren : Go.Shelf.Ren := ⟨fun | 100 => 139 | 207 => 172 | n => n, fun | 9 => 9 | 4 => 4 | 3 => 3 | n => n, fun | n => n⟩
theorem Tryz.lays100 : Go.Proofs.Lays.n100 Tryz.prog Tryz.lays100_ren := {
  mixed := by kernel_rfl
  f100 := Tryz.func139.trans (congrArg some (by kernel_rfl))
  f207 := Tryz.func172.trans (congrArg some (by kernel_rfl))
  t3 := Tryz.underlying3
  a3 := Tryz.isAgg3
  z3 := Tryz.sizeOf3
  v3 := Tryz.zeroValue3
  t4 := Tryz.underlying4
  a4 := Tryz.isAgg4
  z4 := Tryz.sizeOf4
  v4 := Tryz.zeroValue4
  t9 := Tryz.underlying9
  a9 := Tryz.isAgg9
  z9 := Tryz.sizeOf9
  v9 := Tryz.zeroValue9 }
open Go.RowKit Go.Lib in
theorem Tryz.strings_HasSuffix (s p : ByteArray) (w : World) (hs : s.size ≤ 9223372036854775807) :
    Calls Tryz.prog 139 #[.string s, .string p] w fun e w' => e = .returned (.bool (Lib.hasSuffix s.data.toList p.data.toList)) ∧ w' = w := Any.strings_HasSuffix Tryz.lays100 s p w hs
end Go.Proofs.YtcemkikgaeghjaaGreatDoor
namespace Go.Proofs.YtcemkikgaeghjaaGreatDoor
open Go.RowKit

set_option maxRecDepth 100000 in
set_option maxHeartbeats 1000000 in
theorem pwithin_any {p d : ByteArray} {w : World} (hd : d.size ≤ 140737488351232) :
    Calls Tryz.prog 129 #[.string p, .string d] w fun e w' => e = .returned (.bool (within p.data.toList d.data.toList)) ∧ w' = w := by
  have C := Tryz.strings_HasPrefix p (d ++ ⟨#[47]⟩) w
  have HO := Lib.hid (show Lib.hasPrefix p.data.toList (d ++ ⟨#[47]⟩ : ByteArray).data.toList = within p.data.toList d.data.toList by
    simp [Lib.hasPrefix, within])
  have hsz : ((d.size : Int) + 1) ≤ 9223372036854775807 := by omega
  go_enter Tryz.func129, Tryz.ntmps129
  go_wp2_with fail
  refine C.mono ?_
  rintro e w1 ⟨rfl, rfl⟩
  go_wp2
  go_ret
  exact ⟨ret_bool HO.out, rfl⟩
set_option maxRecDepth 100000 in
set_option maxHeartbeats 1000000 in
theorem pclash_any {p d : ByteArray} {w : World} (hp : p.size ≤ 140737488351232) (hd : d.size ≤ 140737488351232) :
    Calls Tryz.prog 92 #[.string p, .string d] w fun e w' => e = .returned (.bool (clashP p.data.toList d.data.toList)) ∧ w' = w := by
  by_cases h : p = d
  · have e1 : (p.toList == d.toList) = true := by rw [h]; exact beq_self_eq_true _
    have HO := Lib.hid (show clashP p.data.toList d.data.toList = true by simp [clashP, h])
    clear h
    go_enter Tryz.func92, Tryz.ntmps92
    go_wp2
    go_ret
    exact ⟨ret_bool HO.out.symm, rfl⟩
  · have e1 := ba_ne h
    have hn : decide (p.data.toList = d.data.toList) = false := decide_eq_false fun e => h (ba_ext e)
    have C1 := pwithin_any (p := p) (d := d) (w := w) hd
    have C2 := pwithin_any (p := d) (d := p) (w := w) hp
    have HO := Lib.hid (show clashP p.data.toList d.data.toList = (within p.data.toList d.data.toList || within d.data.toList p.data.toList) by rw [clashP, hn, Bool.false_or])
    clear h hn
    cases h1 : within p.data.toList d.data.toList with
    | true =>
      rw [h1] at C1
      have H1 := Lib.hid h1
      clear h1
      go_enter Tryz.func92, Tryz.ntmps92
      go_wp2_with fail
      refine C1.mono ?_
      rintro e w1 ⟨rfl, rfl⟩
      go_wp2
      go_ret
      exact ⟨ret_bool (by rw [HO.out, H1.out]; rfl), rfl⟩
    | false =>
      rw [h1] at C1
      have H1 := Lib.hid h1
      clear h1
      go_enter Tryz.func92, Tryz.ntmps92
      go_wp2_with fail
      refine C1.mono ?_
      rintro e w1 ⟨rfl, rfl⟩
      go_wp2_with fail
      refine C2.mono ?_
      rintro e w1 ⟨rfl, rfl⟩
      go_wp2
      go_ret
      exact ⟨ret_bool (by rw [HO.out, H1.out]; rfl), rfl⟩

def Passed (S : Bs → Bool) (p : ByteArray) (left : Lit → Bool) : Prop := ∀ q : ByteArray, q.size ≤ maxLen → S q.data.toList = true → left (klP q) = false → (!decide (q = p) && clashP q.data.toList p.data.toList) = false
end Go.Proofs.YtcemkikgaeghjaaGreatDoor
namespace Go.Proofs.YtcemkikgaeghjaaGreatDoor
open Go.RowKit

def CloneIs (e : TypeId) (sz n : Nat) (xs : List Value) (w : World) (en : Ending) (w' : World) : Prop := ∃ v, en = .returned v ∧ w'.ownsRow w.heap.size e sz v n xs ∧ Below w.heap.size w w'

set_option maxRecDepth 100000 in
set_option maxHeartbeats 2000000 in
theorem cloneF_any {A : Option Addr} {n c : Nat} {l : List FV} {w : World} (hn : n ≤ 1000000) (h : RdF w w.heap.size A n c l) :
    Calls Tryz.prog 62 #[.slice A n c] w (CloneIs 28 3 n (l.flatMap FV.cells) w) := by
  have q22 : ∀ (w : World) (a : Option Addr) (n c n' c' : Nat), (binOp .eql 22 (.slice a n c) (.slice none n' c')).run Tryz.prog w = .ok (.bool a.isNone) w := fun w a n c n' c' => Lib.run_eql_slice_nil w _ _ a n c n' c' Tryz.underlying22
  have hr := h.row
  cases A with
  | none =>
    have hn0 : n = 0 := by
      rcases Nat.eq_zero_or_pos n with h0 | h0
      · exact h0
      · obtain ⟨b, o, e, _⟩ := hr.at_ h0; cases e
    subst hn0
    have hl : l.flatMap FV.cells = [] := List.eq_nil_of_length_eq_zero (hr.len.trans (Nat.zero_mul 3))
    have HO := Lib.hid hl
    go_enter Tryz.func62, Tryz.ntmps62
    go_wp2
    go_ret
    exact ⟨_, rfl, by rw [HO.out]; exact World.ownsRow_nil _ _ _ _, Below.refl _ _⟩
  | some a =>
    have ho0 : (w.alloc (.cells #[] 28)).ownsRow w.heap.size 28 3 (.slice (some ⟨w.heap.size, 0, none⟩) 0 0) 0 [] := World.ownsRow_made w #[] 0 (Nat.le_refl _) (Nat.zero_le _) (by simp)
    have hb0 : Below w.heap.size w (w.alloc (.cells #[] 28)) := (Below.refl _ _).alloc (Nat.le_refl _) _
    go_enter Tryz.func62, Tryz.ntmps62
    go_wp2_with (at_builtin; refine wpl_append rfl (.tmp 5) (.tmp 6) 22 rfl E_files rfl rfl ho0 (hr.below hb0) (one_files _) (by unfold maxLen; omega) (by omega) hb0.size ?_; intro v7 w7 ho7 hg7 hv7)
    rw [Nat.zero_add, List.nil_append] at ho7
    go_ret
    exact ⟨_, rfl, ho7, hb0.grown hg7 hb0.size (fun g hg => (ho0.lt g hg).1)⟩

/-! ### copy -/
end Go.Proofs.YtcemkikgaeghjaaGreatDoor
