/- The library's contracts at this seat: slices.Compact, slices.Sort, slices.Sorted over maps.Keys, of ints. Laid by the shelf's program, in plain words; and what they say of a row of the call's own. -/
import Derived.Shelf.Slices.CompactI
import Derived.Shelf.SlIterI.Nil
import Derived.Shelf.SortM.Plain
import Derived.Shelf.SortM.SortNone
import Derived.Test.YtnkboccngialiaaM2
namespace Go.Proofs.Ytnkboccngialiaa
open Go.Shelf
def Try.laysNm220_ren : Go.Shelf.Ren := ⟨fun | 20 => 42 | n => n, fun | 22 => 28 | 3 => 3 | 4 => 4 | 0 => 0 | n => n, fun | n => n⟩
theorem Try.laysNm220 : Go.Proofs.Lays2.n20 Try.prog Try.laysNm220_ren := {
  mixed := by kernel_rfl
  f20 := Try.func42.trans (congrArg some (by kernel_rfl))
  t0 := Try.underlying0
  a0 := Try.isAgg0
  z0 := Try.sizeOf0
  v0 := Try.zeroValue0
  t3 := Try.underlying3
  a3 := Try.isAgg3
  z3 := Try.sizeOf3
  v3 := Try.zeroValue3
  t4 := Try.underlying4
  a4 := Try.isAgg4
  z4 := Try.sizeOf4
  v4 := Try.zeroValue4
  t22 := Try.underlying28
  a22 := Try.isAgg28
  z22 := Try.sizeOf28
  v22 := Try.zeroValue28
  i3 := by kernel_rfl }
open Go.RowKit Go.Lib Go.Sort in
theorem Try.slices_Compact_int (blk off cap : Nat) (zs : List Int) (w : World) (hH : Holds (Value.int .i64) w blk off zs.toArray) (hsz : zs.length ≤ 9223372036854775807) (hcap : zs.length ≤ cap) :
    Calls Try.prog 42 #[.slice (some ⟨blk, off, none⟩) zs.length cap] w fun e w' => e = .returned (.slice (some ⟨blk, off, none⟩) (Lib.compact zs).length cap) ∧ ∃ q, w' = putRow (Value.int .i64) (Sort.ahead w q) blk off (Lib.compact zs ++ List.replicate (zs.length - (Lib.compact zs).length) 0).toArray := Any.slices_Compact_int Try.laysNm220 blk off cap zs w hH hsz hcap
open Go.RowKit Go.Lib Go.Sort in
theorem Try.slices_Compact_int_empty (a : Option Addr) (cap : Nat) (w : World) :
    Calls Try.prog 42 #[.slice a 0 cap] w fun e w' => e = .returned (.slice a 0 cap) ∧ w' = w := Any.slices_Compact_int_empty Try.laysNm220 a cap w
def Try.keys_ren : Go.Shelf.Ren := ⟨fun | 7 => 46 | 10 => 61 | n => n, fun | 23 => 57 | 26 => 3 | 3 => 4 | 28 => 63 | 0 => 0 | 27 => 62 | 33 => 48 | 4 => 4 | n => n, fun | n => n⟩
theorem Try.keys : Go.Proofs.SlLaysZI.n7 Try.prog Try.keys_ren := {
  mixed := by kernel_rfl
  f7 := ⟨Try.f46.name, by decide, Try.func46.trans (congrArg some (by kernel_rfl))⟩
  f10 := ⟨Try.f61.name, by decide, Try.func61.trans (congrArg some (by kernel_rfl))⟩
  t0 := Try.underlying0
  a0 := Try.isAgg0
  z0 := Try.sizeOf0
  v0 := Try.zeroValue0
  t4 := Try.underlying4
  a4 := Try.isAgg4
  z4 := Try.sizeOf4
  v4 := Try.zeroValue4
  t23 := Try.underlying57
  a23 := Try.isAgg57
  z23 := Try.sizeOf57
  v23 := Try.zeroValue57
  t26 := Try.underlying3
  a26 := Try.isAgg3
  z26 := Try.sizeOf3
  v26 := Try.zeroValue3
  t27 := Try.underlying62
  a27 := Try.isAgg62
  z27 := Try.sizeOf62
  v27 := Try.zeroValue62
  t28 := Try.underlying63
  a28 := Try.isAgg63
  z28 := Try.sizeOf63
  v28 := Try.zeroValue63
  t33 := Try.underlying48
  a33 := Try.isAgg48
  z33 := Try.sizeOf48
  v33 := Try.zeroValue48 }
def Try.sorted_ren : Go.Shelf.Ren := ⟨fun | 6 => 45 | 8 => 60 | 9 => 41 | 11 => 76 | 13 => 59 | 12 => 58 | 23 => 74 | 24 => 75 | 14 => 65 | 15 => 66 | 16 => 67 | 17 => 68 | 18 => 69 | 19 => 70 | 20 => 71 | 21 => 72 | 22 => 73 | 25 => 80 | 26 => 81 | 27 => 82 | 28 => 83 | 29 => 84 | 30 => 85 | 31 => 86 | n => n, fun | 26 => 3 | 28 => 63 | 24 => 28 | 0 => 0 | 3 => 3 | 37 => 31 | 48 => 88 | 50 => 76 | 4 => 4 | 40 => 82 | 39 => 81 | 45 => 85 | 5 => 5 | 9 => 9 | 51 => 93 | 55 => 97 | 57 => 99 | 58 => 100 | 33 => 48 | n => n, fun | n => n⟩
theorem Try.sorted : Go.Proofs.SlLaysZI.n6 Try.prog Try.sorted_ren := {
  mixed := by kernel_rfl
  f6 := ⟨Try.f45.name, by decide, Try.func45.trans (congrArg some (by kernel_rfl))⟩
  f8 := ⟨Try.f60.name, by decide, Try.func60.trans (congrArg some (by kernel_rfl))⟩
  f11 := ⟨Try.f76.name, by decide, Try.func76.trans (congrArg some (by kernel_rfl))⟩
  t0 := Try.underlying0
  a0 := Try.isAgg0
  z0 := Try.sizeOf0
  v0 := Try.zeroValue0
  t24 := Try.underlying28
  a24 := Try.isAgg28
  z24 := Try.sizeOf28
  v24 := Try.zeroValue28
  t26 := Try.underlying3
  a26 := Try.isAgg3
  z26 := Try.sizeOf3
  v26 := Try.zeroValue3
  t28 := Try.underlying63
  a28 := Try.isAgg63
  z28 := Try.sizeOf63
  v28 := Try.zeroValue63
  i26 := by kernel_rfl }
def Try.sort_ren : Go.Shelf.Ren := ⟨fun | 5 => 41 | 8 => 59 | 7 => 58 | 19 => 74 | 20 => 75 | 10 => 65 | 11 => 66 | 12 => 67 | 13 => 68 | 14 => 69 | 15 => 70 | 16 => 71 | 17 => 72 | 18 => 73 | 30 => 80 | 31 => 81 | 32 => 82 | 33 => 83 | 34 => 84 | 35 => 85 | 40 => 86 | n => n, fun | 23 => 28 | 25 => 3 | 3 => 3 | 32 => 31 | 22 => 28 | 0 => 0 | 44 => 88 | 46 => 76 | 4 => 4 | 36 => 82 | 35 => 81 | 41 => 85 | 5 => 5 | 9 => 9 | 53 => 93 | 57 => 97 | 63 => 99 | 64 => 100 | n => n, fun | n => n⟩
theorem Try.sort : Go.Proofs.SlLaysM.n5 Try.prog Try.sort_ren := {
  mixed := by kernel_rfl
  f5 := ⟨Try.f41.name, by decide, Try.func41.trans (congrArg some (by kernel_rfl))⟩
  f7 := ⟨Try.f58.name, by decide, Try.func58.trans (congrArg some (by kernel_rfl))⟩
  f8 := Try.func59.trans (congrArg some (by kernel_rfl))
  f10 := ⟨Try.f65.name, by decide, Try.func65.trans (congrArg some (by kernel_rfl))⟩
  f11 := ⟨Try.f66.name, by decide, Try.func66.trans (congrArg some (by kernel_rfl))⟩
  f12 := ⟨Try.f67.name, by decide, Try.func67.trans (congrArg some (by kernel_rfl))⟩
  f13 := ⟨Try.f68.name, by decide, Try.func68.trans (congrArg some (by kernel_rfl))⟩
  f14 := ⟨Try.f69.name, by decide, Try.func69.trans (congrArg some (by kernel_rfl))⟩
  f15 := ⟨Try.f70.name, by decide, Try.func70.trans (congrArg some (by kernel_rfl))⟩
  f16 := ⟨Try.f71.name, by decide, Try.func71.trans (congrArg some (by kernel_rfl))⟩
  f17 := ⟨Try.f72.name, by decide, Try.func72.trans (congrArg some (by kernel_rfl))⟩
  f18 := ⟨Try.f73.name, by decide, Try.func73.trans (congrArg some (by kernel_rfl))⟩
  f19 := Try.func74.trans (congrArg some (by kernel_rfl))
  f20 := Try.func75.trans (congrArg some (by kernel_rfl))
  f30 := ⟨Try.f80.name, by decide, Try.func80.trans (congrArg some (by kernel_rfl))⟩
  f31 := Try.func81.trans (congrArg some (by kernel_rfl))
  f32 := Try.func82.trans (congrArg some (by kernel_rfl))
  f33 := ⟨Try.f83.name, by decide, Try.func83.trans (congrArg some (by kernel_rfl))⟩
  f34 := ⟨Try.f84.name, by decide, Try.func84.trans (congrArg some (by kernel_rfl))⟩
  f35 := ⟨Try.f85.name, by decide, Try.func85.trans (congrArg some (by kernel_rfl))⟩
  f40 := ⟨Try.f86.name, by decide, Try.func86.trans (congrArg some (by kernel_rfl))⟩
  t0 := Try.underlying0
  a0 := Try.isAgg0
  z0 := Try.sizeOf0
  v0 := Try.zeroValue0
  t3 := Try.underlying3
  a3 := Try.isAgg3
  z3 := Try.sizeOf3
  v3 := Try.zeroValue3
  t4 := Try.underlying4
  a4 := Try.isAgg4
  z4 := Try.sizeOf4
  v4 := Try.zeroValue4
  t5 := Try.underlying5
  a5 := Try.isAgg5
  z5 := Try.sizeOf5
  v5 := Try.zeroValue5
  t9 := Try.underlying9
  a9 := Try.isAgg9
  z9 := Try.sizeOf9
  v9 := Try.zeroValue9
  t22 := Try.underlying28
  a22 := Try.isAgg28
  z22 := Try.sizeOf28
  v22 := Try.zeroValue28
  t23 := Try.underlying28
  a23 := Try.isAgg28
  z23 := Try.sizeOf28
  v23 := Try.zeroValue28
  t25 := Try.underlying3
  a25 := Try.isAgg3
  z25 := Try.sizeOf3
  v25 := Try.zeroValue3
  t32 := Try.underlying31
  a32 := Try.isAgg31
  z32 := Try.sizeOf31
  v32 := Try.zeroValue31
  t35 := Try.underlying81
  a35 := Try.isAgg81
  z35 := Try.sizeOf81
  v35 := Try.zeroValue81
  t36 := Try.underlying82
  a36 := Try.isAgg82
  z36 := Try.sizeOf82
  v36 := Try.zeroValue82
  t41 := Try.underlying85
  a41 := Try.isAgg85
  z41 := Try.sizeOf85
  v41 := Try.zeroValue85
  t44 := Try.underlying88
  a44 := Try.isAgg88
  z44 := Try.sizeOf88
  v44 := Try.zeroValue88
  t46 := Try.underlying76
  a46 := Try.isAgg76
  z46 := Try.sizeOf76
  v46 := Try.zeroValue76
  t53 := Try.underlying93
  a53 := Try.isAgg93
  z53 := Try.sizeOf93
  v53 := Try.zeroValue93
  t57 := Try.underlying97
  a57 := Try.isAgg97
  z57 := Try.sizeOf97
  v57 := Try.zeroValue97
  t63 := Try.underlying99
  a63 := Try.isAgg99
  z63 := Try.sizeOf99
  v63 := Try.zeroValue99
  t64 := Try.underlying100
  a64 := Try.isAgg100
  z64 := Try.sizeOf100
  v64 := Try.zeroValue100 }

open Go.RowKit Go.Sort Go.Maps

/-! ### what Compact leaves of a sorted list -/
theorem compact_upto {zs : List Int} (hs : zs.Pairwise (· ≤ ·)) : ∀ m, m ≤ zs.length → (Lib.compactUpTo zs.toArray m).Pairwise (· < ·) ∧ ∀ x, x ∈ Lib.compactUpTo zs.toArray m ↔ x ∈ zs.take m
  | 0, _ => by
    have : Lib.compactUpTo zs.toArray 0 = [] := by simp [Lib.compactUpTo]
    rw [this]; simp
  | m + 1, hm => by
    obtain ⟨h1, h2⟩ := compact_upto hs m (by omega)
    have hlt : m < zs.length := by omega
    have e0 : zs.toArray[m]! = zs[m] := by simp [hlt]
    rw [Lib.compactUpTo_succ, List.take_succ_eq_append_getElem hlt, e0]
    by_cases hk : Lib.keeps zs.toArray m = true
    · rw [if_pos hk]
      have hgt : ∀ x ∈ zs.take m, x < zs[m] := by
        intro x hx
        rcases Nat.eq_zero_or_pos m with rfl | hpos
        · simp at hx
        · have hne : zs[m] ≠ zs[m - 1] := by
            intro e
            have hlt1 : m - 1 < zs.length := by omega
            have : zs.toArray[m]! = zs.toArray[m-1]! := by rw [e0, e]; simp [hlt1]
            rw [Lib.keeps_neg hpos this] at hk; cases hk
          have hlast : zs[m-1] ≤ zs[m] := List.pairwise_iff_getElem.1 hs (m-1) m (by omega) hlt (by omega)
          obtain ⟨j, hj, rfl⟩ := List.getElem_of_mem hx
          rw [List.length_take] at hj
          rw [List.getElem_take]
          have : zs[j] ≤ zs[m-1] := by
            rcases Nat.lt_or_ge j (m-1) with h | h
            · exact List.pairwise_iff_getElem.1 hs j (m-1) (by omega) (by omega) h
            · have : j = m - 1 := by omega
              subst this; exact Int.le_refl _
          omega
      refine ⟨?_, fun x => by rw [List.mem_append, List.mem_append, h2]⟩
      rw [List.pairwise_append]
      exact ⟨h1, by simp, fun a ha b hb => by rw [List.mem_singleton] at hb; subst hb; exact hgt a ((h2 a).1 ha)⟩
    · rw [if_neg hk, List.append_nil]
      refine ⟨h1, fun x => ?_⟩
      rw [h2, List.mem_append, List.mem_singleton]
      refine ⟨.inl, fun h => h.elim id fun e => ?_⟩
      have hpos : 0 < m := by
        rcases Nat.eq_zero_or_pos m with rfl | hpos
        · exact absurd (Lib.keeps_lt_one _ 0 (by omega)) hk
        · exact hpos
      have e1 : zs[m] = zs[m-1]'(by omega) := by
        by_cases e : zs[m] = zs[m-1]'(by omega)
        · exact e
        · have hlt1 : m - 1 < zs.length := by omega
          exact absurd (Lib.keeps_pos (d := zs.toArray) (m := m) (by rw [e0]; simpa [hlt1] using e)) hk
      rw [e, e1]
      exact List.mem_iff_getElem.2 ⟨m - 1, by rw [List.length_take]; omega, by rw [List.getElem_take]⟩
theorem compact_sorted {zs : List Int} (hs : zs.Pairwise (· ≤ ·)) : (Lib.compact zs).Pairwise (· < ·) ∧ ∀ x, x ∈ Lib.compact zs ↔ x ∈ zs := by
  have := compact_upto hs zs.length (Nat.le_refl _)
  rw [List.take_length] at this
  exact this

/-! ### of a row of the call's own -/
theorem sort_row {w : World} {base : Nat} {v : Value} {zs : List Int} (h : w.ownsRow base 3 1 v zs.length (zs.map encZ)) (hz : zs.length < 4611686018427387904) :
    Calls Try.prog 41 #[v] w fun e w' => e = .returned (.tuple #[]) ∧ w'.ownsRow base 3 1 v zs.length ((zs.mergeSort fun x y => decide (x ≤ y)).map encZ) ∧ w.grownBy w' v.ownBlock := by
  rcases h.2 with ⟨rfl, hx⟩ | ⟨g, cap, cur, rfl, hb, hg, hnc, hcm, hcs, ht⟩
  · have : zs = [] := by
      have := h.1
      rcases zs with _ | ⟨a, r⟩
      · rfl
      · simp at hx
    subst this
    refine (AnyM.slices_Sort_int_none Try.sort none 0 w).mono ?_
    rintro e w' ⟨rfl, rfl⟩
    exact ⟨rfl, by simpa using h, World.grownBy.refl _ _⟩
  · rw [Nat.mul_one] at ht
    refine (AnyM.slices_Sort_int Try.sort g 0 cap zs w (holds_of_block_i hg ht) (h.lt g rfl).2 hz).mono ?_
    rintro e w' ⟨rfl, n, os, rfl⟩
    exact ⟨rfl, ownsRow_sorted_i (by rw [List.length_mergeSort]) hb hg hnc hcm hcs, grownBy_sorted_i _⟩
theorem compact_row {w : World} {base : Nat} {v : Value} {zs : List Int} (h : w.ownsRow base 3 1 v zs.length (zs.map encZ)) (hz : zs.length ≤ 9223372036854775807) (hs : zs.Pairwise (· ≤ ·)) :
    Calls Try.prog 42 #[v] w fun e w' => ∃ (A : Option Addr) (c : Nat) (l : List Int), e = .returned (.slice A l.length c) ∧ Rd w' w'.heap.size 1 A l.length c (l.map (.int .i64)) ∧ w.grownBy w' v.ownBlock ∧ l.Pairwise (· < ·) ∧ (∀ x, x ∈ l ↔ x ∈ zs) ∧ l.length ≤ zs.length := by
  rcases h.2 with ⟨rfl, hx⟩ | ⟨g, cap, cur, rfl, hb, hg, hnc, hcm, hcs, ht⟩
  · have : zs = [] := by
      rcases zs with _ | ⟨a, r⟩
      · rfl
      · simp at hx
    subst this
    refine (Try.slices_Compact_int_empty none 0 w).mono ?_
    rintro e w' ⟨rfl, rfl⟩
    exact ⟨none, 0, [], rfl, Rd.none_ _ _ _, World.grownBy.refl _ _, by simp, by simp, by simp⟩
  · rw [Nat.mul_one] at ht
    refine (Try.slices_Compact_int g 0 cap zs w (holds_of_block_i hg ht) hz hnc).mono ?_
    rintro e w' ⟨rfl, q, rfl⟩
    obtain ⟨c1, c2⟩ := compact_sorted hs
    have hle : (Lib.compact zs).length ≤ zs.length := by
      refine nodup_le (c1.imp fun h e => by omega) fun x hx => (c2 x).1 hx
    have hgw := grownBy_sorted_i (w := w) (g := g) (n := q) (os := #[]) (Lib.compact zs ++ List.replicate (zs.length - (Lib.compact zs).length) 0).toArray
    have hgr : ∀ W : World, grow W #[] = W := fun W => by simp [grow]
    rw [hgr] at hgw
    have hown := ownsRow_sorted_i (w := w) (base := base) (g := g) (cap := cap) (n := q) (e := 3) (os := #[]) (cur := cur) (ss := zs) (ts := Lib.compact zs ++ List.replicate (zs.length - (Lib.compact zs).length) 0) (by simp; omega) hb hg hnc hcm hcs
    rw [hgr] at hown
    have hr := Rd.of_own hown hnc
    refine ⟨_, cap, Lib.compact zs, rfl, ⟨by simp, by omega, fun hn => ?_⟩, hgw, c1, c2, hle⟩
    obtain ⟨b, o, e, hb', hcell⟩ := hr.at_ (by omega)
    refine ⟨b, o, e, hb', fun j u hu => hcell j u ?_⟩
    rw [List.map_append, List.getElem?_append_left (by have := (List.getElem?_eq_some_iff.1 hu).1; simpa using this)]
    exact hu
end Go.Proofs.Ytnkboccngialiaa
