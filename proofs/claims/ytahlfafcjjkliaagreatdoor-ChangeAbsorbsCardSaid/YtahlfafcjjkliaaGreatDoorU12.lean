/- Walks: tree.Changes. -/
import Derived.Test.YtahlfafcjjkliaaGreatDoorU11
namespace Go.Proofs.YtahlfafcjjkliaaGreatDoor
open Go.RowKit

theorem E_changes : Elem Tryz.prog 23 29 4 40 := elem_of (by kernel_rfl)
theorem one_changes (l : List ChV) : ∀ u ∈ l.flatMap ChV.cells, u.oneCell' = true := by
  intro u hu
  obtain ⟨f, _, hf⟩ := List.mem_flatMap.1 hu
  simp only [ChV.cells, List.mem_cons, List.mem_nil_iff, or_false] at hf
  rcases hf with rfl | rfl | rfl | rfl <;> rfl
theorem rd_litC (w : World) (f : ChV) : Rd (w.alloc (.cells #[.string f.path, .bool f.del, .bool f.exec, .string f.text] 29)) (w.alloc (.cells #[.string f.path, .bool f.del, .bool f.exec, .string f.text] 29)).heap.size 4 (some ⟨w.heap.size, 0, none⟩) 1 1 ([f].flatMap ChV.cells) :=
  ⟨rfl, Nat.le_refl _, fun _ => ⟨_, 0, rfl, by simp, fun j u hu => by
    rw [Nat.zero_add, World.cell?, heap_alloc_new]
    simpa [ChV.cells] using hu⟩⟩
theorem rd_litC3 (w : World) (f : ChV) (k : Nat) (h : w.heap.size = k) : Rd (w.alloc (.cells #[.string f.path, .bool f.del, .bool f.exec, .string f.text] 29)) (w.alloc (.cells #[.string f.path, .bool f.del, .bool f.exec, .string f.text] 29)).heap.size 4 (some ⟨k, 0, none⟩) 1 1 ([f].flatMap ChV.cells) := by
  subst h; exact rd_litC w f
/-- Changes in memory. -/
structure RdC (w : World) (B : Nat) (A : Option Addr) (n c : Nat) (l : List ChV) : Prop where
  row : Rd w B 4 A n c (l.flatMap ChV.cells)
  len : l.length = n
  fits : ∀ f ∈ l, f.path.size ≤ 140737488351232 ∧ f.text.size ≤ 140737488351232
theorem RdC.get {w : World} {B n c : Nat} {A : Option Addr} {l : List ChV} (h : RdC w B A n c l) {k : Nat} (hk : k < n) :
    ∃ b o f, A = some ⟨b, o, none⟩ ∧ b < B ∧ l[k]? = some f ∧ f ∈ l ∧ w.cell? ⟨b, o + k * 4, none⟩ = some (.string f.path) ∧ w.cell? ⟨b, o + k * 4 + 1, none⟩ = some (.bool f.del) ∧ w.cell? ⟨b, o + k * 4 + 2, none⟩ = some (.bool f.exec) ∧ w.cell? ⟨b, o + k * 4 + 3, none⟩ = some (.string f.text) := by
  obtain ⟨b, o, f, e, hb, hg, hm, hc⟩ := T.rd_flat ChV.cells_len (by omega) h.row h.len hk
  exact ⟨b, o, f, e, hb, hg, hm, hc 0 _ rfl, hc 1 _ rfl, hc 2 _ rfl, hc 3 _ rfl⟩
theorem RdC.to {w w' : World} {B B' n c : Nat} {A : Option Addr} {l : List ChV} (h : RdC w B A n c l) (hb : Below B w w') (hB : B ≤ B') : RdC w' B' A n c l := ⟨h.row.to hb hB, h.len, h.fits⟩
/-- Changes are handed back. -/
def ChgsIs (P : List ChV → Prop) (w : World) (e : Ending) (w' : World) : Prop :=
  ∃ (A : Option Addr) (c : Nat) (l : List ChV), e = .returned (.slice A l.length c) ∧ P l ∧ RdC w' w'.heap.size A l.length c l ∧ Below w.heap.size w w'
set_option maxRecDepth 100000 in
theorem run_chgDel (w : World) (p : ByteArray) : (Instr.build 29 #[(0, .string p), (1, .bool true)]).run Tryz.prog w = .ok (.agg #[.string p, .bool true, .bool false, .string ⟨#[]⟩]) w := by
  go_simp
set_option maxRecDepth 100000 in
theorem run_chgPut (w : World) (p t : ByteArray) (x : Bool) : (Instr.build 29 #[(0, .string p), (2, .bool x), (3, .string t)]).run Tryz.prog w = .ok (.agg #[.string p, .bool false, .bool x, .string t]) w := by
  go_simp
theorem run_neqF (x y : FV) (w : World) : (binOp .neq 35 (.agg #[.string x.path, .bool x.exec, .string x.text]) (.agg #[.string y.path, .bool y.exec, .string y.text])).run Tryz.prog w = .ok (.bool (!decide (x = y))) w := by
  rw [run_neq_struct, eqF_run]; rfl
theorem chgAt_fits {a b : List FV} {p : ByteArray} (hp : p.size ≤ 140737488351232) (hb : ∀ f ∈ b, f.path.size ≤ 140737488351232 ∧ f.text.size ≤ 140737488351232) : ∀ x ∈ chgAt a b p, x.path.size ≤ 140737488351232 ∧ x.text.size ≤ 140737488351232 := by
  intro x hx
  unfold chgAt at hx
  split at hx
  · simp only [List.mem_singleton] at hx; subst hx; exact ⟨hp, by show 0 ≤ _; omega⟩
  · rename_i y hy
    split at hx
    · cases hx
    · simp only [List.mem_singleton] at hx; subst hx; exact ⟨hp, (hb y (findP_some hy).1).2⟩
theorem changesF_fits {a b : List FV} (ha : ∀ f ∈ a, f.path.size ≤ 140737488351232 ∧ f.text.size ≤ 140737488351232) (hb : ∀ f ∈ b, f.path.size ≤ 140737488351232 ∧ f.text.size ≤ 140737488351232) : ∀ x ∈ changesF a b, x.path.size ≤ 140737488351232 ∧ x.text.size ≤ 140737488351232 := by
  intro x hx
  obtain ⟨p, hp, h⟩ := List.mem_flatMap.1 hx
  obtain ⟨f, hf, e⟩ := namesOf_mem.1 hp
  refine chgAt_fits ?_ hb x h
  rw [← e]
  rcases List.mem_append.1 hf with hf | hf
  · exact (ha f hf).1
  · exact (hb f hf).1

/-! ### the names -/
def Coll (S : Bs → Bool) (left : Lit → Bool) (ks : List ByteArray) : Prop := ks.Nodup ∧ (∀ q ∈ ks, q.size ≤ maxLen) ∧ ∀ q : ByteArray, q.size ≤ maxLen → (q ∈ ks ↔ S q.data.toList = true ∧ left (klP q) = false)
theorem Coll.step {S : Bs → Bool} {left : Lit → Bool} {ks : List ByteArray} {x : ByteArray} (h : Coll S left ks) (hx : x.size ≤ maxLen) (hS : S x.data.toList = true) (hl : left (klP x) = true) :
    Coll S (fun z => left z && !z.sameKey (klP x)) (ks ++ [x]) := by
  obtain ⟨h1, h2, h3⟩ := h
  have hn : x ∉ ks := fun hm => by have := ((h3 x hx).1 hm).2; rw [hl] at this; cases this
  refine ⟨List.nodup_append.2 ⟨h1, by simp, fun a ha b hb => ?_⟩, fun q hq => ?_, fun q hq => ?_⟩
  · simp only [List.mem_singleton] at hb; subst hb; intro e; subst e; exact hn ha
  · rcases List.mem_append.1 hq with hq | hq
    · exact h2 q hq
    · simp only [List.mem_singleton] at hq; subst hq; exact hx
  · rw [List.mem_append, h3 q hq, List.mem_singleton]
    by_cases e : q = x
    · subst e
      have : (klP q).sameKey (klP q) = true := by simp [Lit.sameKey, klP]
      simp [hS, this]
    · have h1 : (klP q).sameKey (klP x) = false := Maps.sameKey_ne (klP_ne hq hx e)
      simp [e, h1]
theorem Coll.names {l : List FV} {S : Bs → Bool} {left : Lit → Bool} {ks : List ByteArray} (h : Coll S left ks) (hS : ∀ q : Bs, S q = pathsOf l q) (hl : ∀ z, left z = false) (hf : ∀ f ∈ l, f.path.size ≤ maxLen) :
    ((ks.map (·.data.toList)).mergeSort fun x y => decide (x ≤ y)).map encStr = (namesOf l).map .string ∧ ks.length = (namesOf l).length := by
  obtain ⟨h1, h2, h3⟩ := h
  have hnd : (ks.map (·.data.toList)).Nodup := by
    rw [List.nodup_iff_pairwise_ne] at h1 ⊢
    rw [List.pairwise_map]
    exact h1.imp fun hab e => hab (ba_ext e)
  have hup := sorted_up hnd
  obtain ⟨ns, hns⟩ : ∃ ns : List ByteArray, ns = ((ks.map (·.data.toList)).mergeSort fun x y => decide (x ≤ y)).map (fun x => (⟨x.toArray⟩ : ByteArray)) := ⟨_, rfl⟩
  have hnu : UpP ns := by
    rw [hns, UpP, List.pairwise_map]
    exact hup.imp fun h => h
  have hmem : ∀ x, x ∈ ns ↔ x ∈ namesOf l := fun x => by
    rw [hns, List.mem_map, namesOf_mem]
    constructor
    · rintro ⟨y, hy, rfl⟩
      rw [(List.mergeSort_perm _ _).mem_iff, List.mem_map] at hy
      obtain ⟨q, hq, rfl⟩ := hy
      have := (h3 q (h2 q hq)).1 hq
      obtain ⟨f, hf2, e⟩ := pathsOf_iff.1 ((hS _).symm.trans this.1)
      exact ⟨f, hf2, by rw [show f.path = q from ba_ext e]⟩
    · rintro ⟨f, hf2, rfl⟩
      refine ⟨f.path.data.toList, ?_, by simp⟩
      rw [(List.mergeSort_perm _ _).mem_iff, List.mem_map]
      exact ⟨f.path, (h3 f.path (hf f hf2)).2 ⟨(hS _).trans (pathsOf_iff.2 ⟨f, hf2, rfl⟩), hl _⟩, rfl⟩
  have he := up_uniq hnu (namesOf_up l) hmem
  refine ⟨?_, ?_⟩
  · rw [← he, hns, List.map_map]; rfl
  · rw [← he, hns, List.length_map, List.length_mergeSort, List.length_map]
theorem E_strs2 : Elem Tryz.prog 24 9 1 16 := elem_of (by kernel_rfl)
theorem rd_litS2 (w : World) (x : ByteArray) : Rd (w.alloc (.cells #[.string x] 9)) (w.heap.size + 1) 1 (some ⟨w.heap.size, 0, none⟩) 1 1 ([x].map .string) :=
  ⟨rfl, Nat.le_refl _, fun _ => ⟨_, 0, rfl, by omega, fun j u hu => by
    rw [Nat.zero_add, World.cell?, heap_alloc_new]
    simpa using hu⟩⟩
theorem rd_litS3 (w : World) (x : ByteArray) (k : Nat) (h : w.heap.size = k) : Rd (w.alloc (.cells #[.string x] 9)) (k + 1) 1 (some ⟨k, 0, none⟩) 1 1 ([x].map .string) := by
  subst h; exact rd_litS2 w x

set_option maxRecDepth 100000 in
set_option maxHeartbeats 16000000 in
theorem changes_any {A A' : Option Addr} {n c n' c' : Nat} {a b : List FV} {w : World} (hn : n ≤ 1000000) (hn' : n' ≤ 1000000) (ha : RdF w w.heap.size A n c a) (hb : RdF w w.heap.size A' n' c' b) :
    Calls Tryz.prog 13 #[.slice A n c, .slice A' n' c'] w (ChgsIs (· = changesF a b) w) := by
  have HLa := Lib.hid ha.len
  have HLb := Lib.hid hb.len
  have HFa := Lib.hid ha.fits
  have HFb := Lib.hid hb.fits
  have HF := Lib.hid (show ∀ f ∈ a ++ b, f.path.size ≤ maxLen from fun f hf => by
    have h1 := ha.fits; have h2 := hb.fits
    unfold maxLen
    rcases List.mem_append.1 hf with hf | hf
    · have := (h1 f hf).1; omega
    · have := (h2 f hf).1; omega)
  have MORE : ∀ {u v : World}, Below w.heap.size w u → Below u.heap.size u v → Below w.heap.size w v := fun h1 h2 => h1.trans (h2.mono h1.size)
  have RA : ∀ u, Below w.heap.size w u → RdF u u.heap.size A n c a := fun u hu => ha.to hu hu.size
  have RB : ∀ u, Below w.heap.size w u → RdF u u.heap.size A' n' c' b := fun u hu => hb.to hu hu.size
  go_enter Tryz.func13, Tryz.ntmps13
  go_wp2_with fail
  refine (paths_any (by omega) (RA w (Below.refl _ _))).mono ?_
  rintro e w1 ⟨b1, n1, D1, rfl, hg1, hl1, hn1, hS1, hv1⟩
  go_wp2_with fail
  refine (paths_any (by omega) (RB w1 hv1)).mono ?_
  rintro e w2 ⟨b2, n2, D2, rfl, hg2, hl2, hn2, hS2, hv2⟩
  have hb2 := MORE hv1 hv2
  have hS1' := hS1.below hv2
  clear hS1
  go_wp2_with fail
  refine (copy_any hS1' hS2 (by omega) (by omega)).mono ?_
  rintro e w3 ⟨rfl, D3, hS3, hgr3⟩
  have hb3 : Below w.heap.size w w3 := hb2.grown hgr3 hb2.size (fun j hj => by injection hj with hj; omega)
  clear hS1' hS2 hgr3 hl2 hl1
  have hS4 : SetP w3 b1 (n1 + n2) D3 (pathsOf (a ++ b)) := hS3.same fun q _ => by simp [pathsOf]
  clear hS3
  have hbl := hS4.own.lt
  have hsz := hS4.own.size_le
  go_wp2_with (first
    | (at_range; refine wpList_range_own _ rfl _ 61 rfl 65 4 KP Tryz.underlying61 _ b1 _ _ rfl hS4.own ?_; intro w4 hrg0 hg0 hs0)
    | go_in)
  go_frame
  have hb4 : Below w.heap.size w w4 := MORE hb3 (grown_b hg0)
  have hrow : w3.heap.size < w4.heap.size := by omega
  have hl34 : w.heap.size ≤ w3.heap.size := hb3.size
  go_loopw [6, 7] (fun nv _ wr => ∃ (left : Lit → Bool) (cnt : Nat) (ks : List ByteArray), wr.ranges Tryz.prog 65 (plainElem Tryz.prog 4) b1 w3.heap.size (n1 + n2) D3 left cnt ∧ ks.length + cnt ≤ n1 + n2 ∧ wr.ownsRow w4.heap.size 9 1 nv ks.length (ks.map .string) ∧ Below w.heap.size w wr ∧ w4.heap.size ≤ wr.heap.size ∧ Hid (Coll (pathsOf (a ++ b)) left ks))
    (fun _ _ wr => wr.rangeLeft b1 w3.heap.size)
  case atStart => exact ⟨_, _, [], hrg0, by simpa using hsz, World.ownsRow_nil _ _ _ _, hb4, Nat.le_refl _, List.nodup_nil, by simp, fun q hq => by rw [hS4.has q hq]; simp⟩
  case round =>
    clear hrg0 hg0
    obtain ⟨left, cnt, ks, hrg, hkc, ho, hbw, hz4, hC⟩ := hrel
    go_wp2_with (first
      | (at_next; refine wpList_next_ranges _ rfl _ rfl 65 KP (plainElem Tryz.prog 4) (fun x : ByteArray => .agg #[.string x]) (fun c : Value => c) (fun key kl hk => by obtain ⟨x, e, _⟩ := keyP_inv hk; exact ⟨x, e⟩) (fun v y hv => ⟨v, rfl⟩) b1 w3.heap.size (n1 + n2) _ _ _ rfl hrg ?_ ?_)
      | go_in)
    rotate_left
    · intro x c kl el ps w5 cnt1 hkey hlx hrx hat hrg1 hlt hg1 hs1 hen
      obtain ⟨x', ex, hxs, rfl⟩ := keyP_inv hkey
      obtain rfl : x = x' := by simpa using ex
      have hSx : pathsOf (a ++ b) x.data.toList = true := by rw [← hS4.has x hxs]; exact Maps.has_true_of_atKey hat
      have hb5 := hbw.grown hg1 hbw.size (fun j hj => by cases hj; exact hl34)
      have ho5 := ho.kept hg1 (.inr fun e => by have := (ho.lt _ e).1; omega)
      have hz5 := Nat.le_trans hz4 hg1.size
      have hb6 := hb5.alloc hb5.size (.cells #[.string x] 65)
      have ho6 := ho5.alloc (.cells #[.string x] 65)
      have hrg2 := hrg1.alloc (.cells #[.string x] 65)
      have hb7 := hb6.alloc hb6.size (.cells #[.string x] 9)
      have ho7 := ho6.alloc (.cells #[.string x] 9)
      have hrg3 := hrg2.alloc (.cells #[.string x] 9)
      have HC := Lib.hid (hC.out.step hxs hSx hlx)
      have HS := Lib.hid (show w4.heap.size ≤ ((w5.alloc (.cells #[.string x] 65)).alloc (.cells #[.string x] 9)).heap.size by simp; omega)
      have HK := Lib.hid hkc
      have HZ5 := Lib.hid hs1
      clear hs1
      have HM := Lib.hid (show ((w5.alloc (.cells #[.string x] 65)).alloc (.cells #[.string x] 9)).rangeLeft b1 w3.heap.size < wr.rangeLeft b1 w3.heap.size by rw [hrg3.left_eq, hrg.left_eq]; exact hlt)
      clear ex hkey hat hrx hlx hSx hS4 ho ho5 ho6 hb5 hb6 hrg hrg1 hrg2 hg1 hbw hkc
      go_wp2_with (at_builtin; refine wpl_append rfl (.tmp 27) (.tmp 30) 24 rfl E_strs2 rfl rfl ho7 (rd_litS3 _ x _ (by simp)) (oneCell_str [x]) (by have := HK.out; unfold maxLen; omega) (by have := HK.out; omega) HS.out ?_; intro v9 w9 ho9 hg9 hv9)
      change World.grownBy _ _ u6.ownBlock at hg9
      have hrg4 := hrg3.kept hg9 (fun e => by have := (ho7.lt _ e.symm).1; omega) (fun e => by have := (ho7.lt _ e.symm).1; omega)
      go_roundw
      case rel =>
        refine ⟨_, cnt1, ks ++ [x], hrg4, by have := HK.out; simp; omega, by simpa using ho9, hb7.grown hg9 hb7.size (fun g hg => by have := (ho7.lt g hg).1; omega), Nat.le_trans HS.out hg9.size, HC.out⟩
      case measure => rw [hrg4.left_eq]; have := HM.out; rw [hrg3.left_eq] at this; exact this
    · intro hc0 hl0
      obtain ⟨hN, hNl⟩ := hC.out.names (fun q => rfl) hl0 HF.out
      have hor : wr.ownsRow w4.heap.size 9 1 u6 (ks.map (·.data.toList)).length ((ks.map (·.data.toList)).map encStr) := by
        have e : (ks.map (·.data.toList)).map encStr = ks.map .string := by rw [List.map_map]; rfl
        rw [e, List.length_map]; exact ho
      have HKN := Lib.hid (show (namesOf (a ++ b)).length ≤ n1 + n2 by omega)
      have hsl : (ks.map (·.data.toList)).length < 4611686018427387904 := by rw [List.length_map]; omega
      clear hrg ho hkc hS4 hC
      go_wp2_with fail
      refine (sortS_row hor hsl).mono ?_
      rintro e w5 ⟨rfl, ho5, hg5⟩
      rw [List.length_map, hNl, hN] at ho5
      have hb5 := hbw.grown hg5 hbw.size (fun g hg => by have := (hor.lt g hg).1; omega)
      clear hor hN hNl hg5 hbw hsl hb3 hb4 hz4 hb2 hv1 hv2
      obtain ⟨A5, c5, rfl, hc5⟩ := ownsRow_cap ho5
      have hr5 := Rd.of_own ho5 hc5
      clear ho5
      obtain ⟨N, HN⟩ : ∃ N, Hid (N = namesOf (a ++ b)) := ⟨_, rfl⟩
      rw [← HN.out] at hr5 HKN
      have HX := Lib.hid (show ∀ x ∈ N, x.size ≤ 140737488351232 from fun x hx => by
        rw [HN.out] at hx
        obtain ⟨f, hf, e⟩ := namesOf_mem.1 hx
        rw [← e]
        rcases List.mem_append.1 hf with hf | hf
        · exact (HFa.out f hf).1
        · exact (HFb.out f hf).1)
      rw [← HN.out]
      go_wp2
      go_loopw [8, 36] (fun lv i wr => ∃ (k m : Nat), k ≤ N.length ∧ i = .int .i64 k ∧ Below w5.heap.size w5 wr ∧ m ≤ k ∧ Hid (((N.take k).flatMap (chgAt a b)).length = m) ∧ wr.ownsRow w5.heap.size 29 4 lv m (((N.take k).flatMap (chgAt a b)).flatMap ChV.cells)) (fun _ i _ => N.length - (intOf i).toNat)
      case atStart => exact ⟨0, 0, Nat.zero_le _, rfl, Below.refl _ _, Nat.le_refl _, by rw [List.take_zero]; exact rfl, by rw [List.take_zero]; exact World.ownsRow_nil _ _ _ _⟩
      case round =>
        obtain ⟨k, m, hk, rfl, hb6, hmk, hm, ho6⟩ := hrel
        by_cases hlt : k < N.length
        · have hNb : N.length ≤ 2000000 := by have := HKN.out; omega
          have HK := Lib.hid (show m + 1 ≤ 2000000 by have := HKN.out; omega)
          obtain ⟨b0, o0, x, rfl, hbb, hx, h0⟩ := hr5.str hlt
          replace h0 := (hb6.cell (p := ⟨b0, o0 + k, none⟩) (by show b0 < _; omega)).trans h0
          have hxs := HX.out x (List.mem_of_getElem? hx)
          have HT := Lib.hid (show (N.take (k + 1)).flatMap (chgAt a b) = (N.take k).flatMap (chgAt a b) ++ chgAt a b x by rw [List.take_add_one, hx]; simp)
          have hbw := hb5.trans (hb6.mono hb5.size)
          clear hx
          go_wp2_with fail
          refine (find_any (p := x) (by omega) (RA _ hbw)).mono ?_
          rintro e v1 ⟨rfl, hv1⟩
          have hb7 := hb6.trans (hv1.mono hb6.size)
          have ho7 := ho6.kept (show wr.grownBy v1 none from ⟨hv1.os, hv1.tape, hv1.output, hv1.size, fun k hk _ => hv1.block k hk⟩) (by cases u8.ownBlock <;> simp)
          clear hb6 hv1 ho6 h0
          generalize hfa : findP a x = fa
          generalize hga : optF fa = ga
          have hb8 := hb7.alloc hb7.size (.cells #[.string ga.path, .bool ga.exec, .string ga.text] 35)
          have ho8 := ho7.alloc (.cells #[.string ga.path, .bool ga.exec, .string ga.text] 35)
          have hbv := hb5.trans (hb8.mono hb5.size)
          go_wp2_with fail
          refine (find_any (p := x) (by omega) (RB _ hbv)).mono ?_
          rintro e v2 ⟨rfl, hv2⟩
          have hA : ∀ i u, ga.cells[i]? = some u → v2.cell? ⟨v1.heap.size, i, none⟩ = some u := fun i u hu =>
            (hv2.cell (p := ⟨v1.heap.size, i, none⟩) (by show v1.heap.size < _; simp)).trans (by rw [World.cell?, heap_alloc_new]; simpa [FV.cells] using hu)
          have hzv : v1.heap.size < v2.heap.size := by have := hv2.size; simp at this; omega
          have hb9 := hb8.trans (hv2.mono hb8.size)
          have ho9 := ho8.kept (show World.grownBy _ v2 none from ⟨hv2.os, hv2.tape, hv2.output, hv2.size, fun k hk _ => hv2.block k hk⟩) (by cases u8.ownBlock <;> simp)
          have HA := Lib.hid hA
          clear hb8 hv2 ho8 hA hbv hb7 ho7
          have hcd := fun u => run_chgDel u x
          generalize hfb : findP b x = fb
          generalize hgb : optF fb = gb
          have hb8 := hb9.alloc hb9.size (.cells #[.string gb.path, .bool gb.exec, .string gb.text] 35)
          have ho8 := ho9.alloc (.cells #[.string gb.path, .bool gb.exec, .string gb.text] 35)
          clear hb9 ho9
          cases fb with
          | none =>
            have HC := Lib.hid (show chgAt a b x = [⟨x, true, false, ⟨#[]⟩⟩] by rw [chgAt, hfb])
            clear hfa hga hfb hgb
            have hb9 := hb8.alloc hb8.size (.cells #[.string x, .bool true, .bool false, .string ⟨#[]⟩] 29)
            have ho9 := ho8.alloc (.cells #[.string x, .bool true, .bool false, .string ⟨#[]⟩] 29)
            go_wp2_with (at_builtin; refine wpl_append rfl (.tmp 54) (.tmp 57) 23 rfl E_changes rfl rfl ho9 (rd_litC3 _ ⟨x, true, false, ⟨#[]⟩⟩ _ (by simp)) (one_changes _) (by have := HK.out; unfold maxLen; omega) (by have := HK.out; omega) hb9.size ?_; intro v9 w9 ho10 hg10 hv10)
            change World.grownBy _ _ u8.ownBlock at hg10
            go_roundw
            case rel =>
              refine ⟨k + 1, m + 1, by omega, by go_num, hb9.grown hg10 hb9.size (fun g hg => (ho9.lt g hg).1), by omega, ?_, ?_⟩
              · show ((N.take (k + 1)).flatMap (chgAt a b)).length = m + 1
                rw [HT.out, HC.out, List.length_append, hm.out]; rfl
              · rw [HT.out, HC.out, List.flatMap_append]; exact ho10
            case measure => simp [intOf]; omega
          | some y =>
            obtain rfl : y = gb := hgb
            have hcp := fun u => run_chgPut u x y.text y.exec
            cases fa with
            | none =>
              have HC := Lib.hid (show chgAt a b x = [⟨x, false, y.exec, y.text⟩] by rw [chgAt, hfb, hfa]; simp)
              clear hfa hga hfb hcd
              have hb9 := hb8.alloc hb8.size (.cells #[.string x, .bool false, .bool y.exec, .string y.text] 29)
              have ho9 := ho8.alloc (.cells #[.string x, .bool false, .bool y.exec, .string y.text] 29)
              go_wp2_with (at_builtin; refine wpl_append rfl (.tmp 66) (.tmp 73) 23 rfl E_changes rfl rfl ho9 (rd_litC3 _ ⟨x, false, y.exec, y.text⟩ _ (by simp)) (one_changes _) (by have := HK.out; unfold maxLen; omega) (by have := HK.out; omega) hb9.size ?_; intro v9 w9 ho10 hg10 hv10)
              change World.grownBy _ _ u8.ownBlock at hg10
              go_roundw
              case rel =>
                refine ⟨k + 1, m + 1, by omega, by go_num, hb9.grown hg10 hb9.size (fun g hg => (ho9.lt g hg).1), by omega, ?_, ?_⟩
                · show ((N.take (k + 1)).flatMap (chgAt a b)).length = m + 1
                  rw [HT.out, HC.out, List.length_append, hm.out]; rfl
                · rw [HT.out, HC.out, List.flatMap_append]; exact ho10
              case measure => simp [intOf]; omega
            | some z =>
              obtain rfl : z = ga := hga
              have hne := fun u => run_neqF z y u
              have a0 := HA.out 0 _ rfl
              have a1 := HA.out 1 _ rfl
              have a2 := HA.out 2 _ rfl
              by_cases hq : z = y
              · have HC := Lib.hid (show chgAt a b x = [] by rw [chgAt, hfb, hfa]; simp [hq])
                rw [decide_eq_true hq] at hne
                clear hfa hfb hcd hcp hq
                go_wp2
                go_roundw
                case rel => exact ⟨k + 1, m, by omega, by go_num, hb8, by omega, by rw [HT.out, HC.out, List.append_nil]; exact hm, by rw [HT.out, HC.out, List.append_nil]; exact ho8⟩
                case measure => simp [intOf]; omega
              · have HC := Lib.hid (show chgAt a b x = [⟨x, false, y.exec, y.text⟩] by rw [chgAt, hfb, hfa]; simp [hq])
                rw [decide_eq_false hq] at hne
                clear hfa hfb hcd hq
                have hb9 := hb8.alloc hb8.size (.cells #[.string x, .bool false, .bool y.exec, .string y.text] 29)
                have ho9 := ho8.alloc (.cells #[.string x, .bool false, .bool y.exec, .string y.text] 29)
                go_wp2_with (at_builtin; refine wpl_append rfl (.tmp 66) (.tmp 73) 23 rfl E_changes rfl rfl ho9 (rd_litC3 _ ⟨x, false, y.exec, y.text⟩ _ (by simp)) (one_changes _) (by have := HK.out; unfold maxLen; omega) (by have := HK.out; omega) hb9.size ?_; intro v9 w9 ho10 hg10 hv10)
                change World.grownBy _ _ u8.ownBlock at hg10
                go_roundw
                case rel =>
                  refine ⟨k + 1, m + 1, by omega, by go_num, hb9.grown hg10 hb9.size (fun g hg => (ho9.lt g hg).1), by omega, ?_, ?_⟩
                  · show ((N.take (k + 1)).flatMap (chgAt a b)).length = m + 1
                    rw [HT.out, HC.out, List.length_append, hm.out]; rfl
                  · rw [HT.out, HC.out, List.flatMap_append]; exact ho10
                case measure => simp [intOf]; omega
        · have hkn : k = N.length := by omega
          subst hkn
          rw [List.take_length] at hm ho6
          rw [HN.out, ← changesF] at hm ho6
          have hbw := hb5.trans (hb6.mono hb5.size)
          go_wp2
          go_ret
          obtain ⟨A7, c7, rfl, hc7⟩ := ownsRow_cap ho6
          have hr := Rd.of_own ho6 hc7
          rw [← hm.out] at hr ⊢
          exact ⟨A7, c7, _, rfl, rfl, ⟨hr, rfl, changesF_fits HFa.out HFb.out⟩, hbw⟩
end Go.Proofs.YtahlfafcjjkliaaGreatDoor
