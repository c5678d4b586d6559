/- Files in memory; a tree's set of paths. -/
import Derived.Test.YtahlfafcjjkliaaGreatDoorT4
namespace Go.Proofs.YtahlfafcjjkliaaGreatDoor
open Go.RowKit

theorem T.flat_at {α : Type} {f : α → List Value} {sz : Nat} (hf : ∀ a, (f a).length = sz) : ∀ {l : List α} {k t : Nat} {a : α}, l[k]? = some a → t < sz → (l.flatMap f)[k * sz + t]? = (f a)[t]?
  | x :: l, 0, t, a, h, ht => by
    simp at h; subst h
    rw [List.flatMap_cons, Nat.zero_mul, Nat.zero_add, List.getElem?_append_left (by rw [hf]; exact ht)]
  | x :: l, k + 1, t, a, h, ht => by
    simp at h
    rw [List.flatMap_cons, List.getElem?_append_right (by rw [hf, Nat.succ_mul]; omega), hf, show (k + 1) * sz + t - sz = k * sz + t by rw [Nat.succ_mul]; omega]
    exact T.flat_at hf h ht
theorem T.rd_flat {α : Type} {f : α → List Value} {sz : Nat} (hf : ∀ a, (f a).length = sz) (h0 : 0 < sz) {w : World} {B n c : Nat} {A : Option Addr} {l : List α} (h : Rd w B sz A n c (l.flatMap f)) (hl : l.length = n) {k : Nat} (hk : k < n) :
    ∃ b o a, A = some ⟨b, o, none⟩ ∧ b < B ∧ l[k]? = some a ∧ a ∈ l ∧ ∀ t u, (f a)[t]? = some u → w.cell? ⟨b, o + k * sz + t, none⟩ = some u := by
  obtain ⟨b, o, e, hb, hc⟩ := h.at_ (by omega)
  have hg : l[k]? = some l[k] := List.getElem?_eq_getElem (by omega)
  refine ⟨b, o, l[k], e, hb, hg, List.getElem_mem _, fun t u hu => ?_⟩
  have ht : t < sz := by rw [← hf l[k]]; exact (List.getElem?_eq_some_iff.1 hu).1
  rw [Nat.add_assoc]
  exact hc _ _ ((T.flat_at hf hg ht).trans hu)

theorem FV.cells_len (f : FV) : f.cells.length = 3 := rfl
/-- Files in memory. -/
structure RdF (w : World) (B : Nat) (A : Option Addr) (n c : Nat) (l : List FV) : Prop where
  row : Rd w B 3 A n c (l.flatMap FV.cells)
  len : l.length = n
  fits : ∀ f ∈ l, f.path.size ≤ 140737488351232 ∧ f.text.size ≤ 140737488351232
theorem RdF.get {w : World} {B n c : Nat} {A : Option Addr} {l : List FV} (h : RdF w B A n c l) {k : Nat} (hk : k < n) :
    ∃ b o f, A = some ⟨b, o, none⟩ ∧ b < B ∧ l[k]? = some f ∧ f ∈ l ∧ w.cell? ⟨b, o + k * 3, none⟩ = some (.string f.path) ∧ w.cell? ⟨b, o + k * 3 + 1, none⟩ = some (.bool f.exec) ∧ w.cell? ⟨b, o + k * 3 + 2, none⟩ = some (.string f.text) := by
  obtain ⟨b, o, f, e, hb, hg, hm, hc⟩ := T.rd_flat FV.cells_len (by omega) h.row h.len hk
  exact ⟨b, o, f, e, hb, hg, hm, hc 0 _ rfl, hc 1 _ rfl, hc 2 _ rfl⟩
section
variable {w w' : World} {B B' n c : Nat} {A : Option Addr} {l : List FV}
theorem RdF.keep (h : RdF w B A n c l) (hk : ∀ p : Addr, p.block < B → w'.cell? p = w.cell? p) : RdF w' B A n c l := ⟨h.row.keep hk, h.len, h.fits⟩
theorem RdF.to (h : RdF w B A n c l) (hb : Below B w w') (hB : B ≤ B') : RdF w' B' A n c l := ⟨h.row.to hb hB, h.len, h.fits⟩
theorem RdF.drew (h : RdF w B A n c l) : RdF w.drew B A n c l := ⟨h.row.drew, h.len, h.fits⟩
theorem RdF.none_ (w : World) (B : Nat) : RdF w B none 0 0 [] := ⟨Rd.none_ _ _ _, rfl, by simp⟩
end

/-- The paths of files. -/
def pathsOf (l : List FV) (q : Bs) : Bool := l.any fun f => decide (f.p = q)
theorem pathsOf_iff {l : List FV} {q : Bs} : pathsOf l q = true ↔ ∃ f ∈ l, f.p = q := by simp [pathsOf]
theorem pathsOf_snoc (l : List FV) (f : FV) (q : Bs) : pathsOf (l ++ [f]) q = (pathsOf l q || decide (f.p = q)) := by simp [pathsOf]
/-- A fresh map that is a set of paths. -/
def MapP (B N : Nat) (S : Bs → Bool) (w : World) (e : Ending) (w' : World) : Prop :=
  ∃ (b nn : Nat) (D : DataW Value), e = .returned (.map (some b)) ∧ B ≤ b ∧ b < w'.heap.size ∧ nn ≤ N ∧ SetP w' b nn D S ∧ Below B w w'

set_option maxRecDepth 100000 in
set_option maxHeartbeats 4000000 in
theorem paths_any {A : Option Addr} {n c : Nat} {l : List FV} {w : World} (hn : n ≤ 17592186044416) (h : RdF w w.heap.size A n c l) :
    Calls Tryz.prog 42 #[.slice A n c] w (MapP w.heap.size n (pathsOf l) w) := by
  have HL := Lib.hid h.len
  have hmm := @run_makeMap Tryz.prog
  have hS0 := SetP.start w
  have hb0 : Below w.heap.size w (w.alloc (.map #[] 0)) := (Below.refl _ _).alloc (Nat.le_refl _) _
  have hz0 : (w.alloc (.map #[] 0)).heap.size = w.heap.size + 1 := by simp
  go_enter Tryz.func42, Tryz.ntmps42
  go_wp2
  go_loopw [9] (fun i wr => ∃ (k : Nat) (D : DataW Value), k ≤ n ∧ i = .int .i64 k ∧ Below w.heap.size w wr ∧ w.heap.size < wr.heap.size ∧ SetP wr w.heap.size k D (pathsOf (l.take k))) (fun i _ => n - (intOf i).toNat)
  case atStart => exact ⟨0, _, Nat.zero_le _, rfl, hb0, by omega, hS0⟩
  case round =>
    obtain ⟨k, D, hk, rfl, hb, hz, hS⟩ := hrel
    clear hS0
    by_cases hlt : k < n
    · obtain ⟨b0, o0, f, rfl, hbb, hx, hm, h0, h1, h2⟩ := h.get hlt
      replace h0 := (hb.cell (p := ⟨b0, o0 + k * 3, none⟩) (by show b0 < _; omega)).trans h0
      replace h1 := (hb.cell (p := ⟨b0, o0 + k * 3 + 1, none⟩) (by show b0 < _; omega)).trans h1
      replace h2 := (hb.cell (p := ⟨b0, o0 + k * 3 + 2, none⟩) (by show b0 < _; omega)).trans h2
      have HX := Lib.hid hx; clear hx
      have hfit := (h.fits f hm).1
      have hS1 := hS.kept (World.grownBy_alloc wr (.cells #[.string f.path, .bool f.exec, .string f.text] 35) none) (by simp)
      have hb1 := hb.alloc hb.size (.cells #[.string f.path, .bool f.exec, .string f.text] 35)
      have hrk := run_keyP (wr.alloc (.cells #[.string f.path, .bool f.exec, .string f.text] 35)) f.path
      go_wp2_with (at_mapUpdate; refine wpList_mapUpdate_own _ rfl _ _ _ 61 rfl 65 4 KP Tryz.underlying61 (plainElem Tryz.prog 4) w.heap.size k D rfl hS1.own (by unfold maxLen; omega) _ _ _ rfl rfl (keyP (by unfold maxLen; omega)) _ [] (boolT true) ?_; intro w5 hown5 hg5)
      go_roundw
      case rel =>
        refine ⟨k + 1, _, by omega, by go_num, hb1.grown hg5 (by simp; omega) (fun g hg => by injection hg with hg; omega), Nat.lt_of_lt_of_le (by simp; omega) hg5.size, hS1.put (by unfold maxLen; omega) hown5 fun x => ?_⟩
        rw [List.take_add_one, HX.out]
        exact pathsOf_snoc _ _ _
      case measure => simp [intOf]; omega
    · have hkn : k = n := by omega
      subst hkn
      go_wp2
      go_ret
      rw [List.take_of_length_le (by rw [HL.out]; omega)] at hS
      exact ⟨_, k, D, rfl, Nat.le_refl _, hz, Nat.le_refl _, hS, hb⟩
end Go.Proofs.YtahlfafcjjkliaaGreatDoor
