/- Walk: the law's awake. -/
import Derived.Test.YtabiegbbbljhlaaW3
namespace Go.Proofs.Ytabiegbbbljhlaa
open Go.RowKit

theorem alloc_at {w : World} {g : Nat} {o : Obj} (h : g = w.heap.size) : (w.alloc o).heap[g]? = some o := by subst h; exact heap_alloc_new w o
theorem alloc_old {w : World} {g : Nat} {o : Obj} (h : w.heap[g]? = some o) (o' : Obj) : (w.alloc o').heap[g]? = some o := by
  have hlt : g < w.heap.size := by
    rcases Nat.lt_or_ge g w.heap.size with hl | hl
    · exact hl
    · rw [Array.getElem?_eq_none hl] at h; cases h
  exact (Below.heap_alloc w o' g hlt).trans h
theorem Rd.lit {w : World} {g B sz n c : Nat} {cs : List Value} {t : TypeId} (h : w.heap[g]? = some (.cells cs.toArray t (0, 0))) (hB : g < B) (hl : cs.length = n * sz) (hc : n ≤ c) :
    Rd w B sz (some ⟨g, 0, none⟩) n c cs :=
  ⟨hl, hc, fun _ => ⟨g, 0, rfl, hB, fun j u hu => by rw [cell_of_row w _ _ _ _ _ h]; simpa using hu⟩⟩

theorem RdH.of {w : World} {B n c : Nat} {A : Option Addr} {hs : List HV} (h : Rd w B 3 A n c (hs.flatMap HV.cells)) (hl : hs.length = n)
    (hp : ∀ h ∈ hs, Rd w B 1 h.oA h.old.length h.oc (h.old.map .string) ∧ Rd w B 1 h.nA h.new.length h.nc (h.new.map .string) ∧ h.old.length ≤ 1048576 ∧ h.new.length ≤ 1048576 ∧ -9223372036854775808 ≤ h.at_ ∧ h.at_ ≤ 9223372036854775807) :
    RdH w B A n c hs := ⟨h, hl, fun x hx => by obtain ⟨a, b, c, d, e, f⟩ := hp x hx; exact ⟨a, b, by omega, by omega, e, f⟩⟩

def b97 : ByteArray := ⟨#[97]⟩
def b98 : ByteArray := ⟨#[98]⟩
def b99 : ByteArray := ⟨#[99]⟩
def hv0 (g : Nat) : HV := ⟨1, some ⟨g + 1, 0, none⟩, 1, [b98], some ⟨g + 1 + 1, 0, none⟩, 1, [b99]⟩
theorem awk_err (g : Nat) : errOf [b97, b98] [hv0 g] = 0 := by
  simp only [errOf, show right [hv0 g] = true from rfl, show matches_ [b97, b98] [hv0 g] = true from by
    show ([0] : List Nat).all _ = true
    simp [matchAt, matchOk, hv0], if_true]
theorem awk_res (g : Nat) : resOf [b97, b98] [hv0 g] = [b97, b99] := by
  have h1 : right [hv0 g] = true := rfl
  have h2 : matches_ [b97, b98] [hv0 g] = true := by
    show ([0] : List Nat).all _ = true
    simp [matchAt, matchOk, hv0]
  rw [(err0 h1 h2).2]
  rfl

set_option maxRecDepth 100000 in
set_option maxHeartbeats 4000000 in
theorem awake7_any (w : World) : Calls Try.prog 14 #[] w (BoolBelow true w) := by
  go_enter Try.func14, Try.ntmps14
  go_wp2_with fail
  generalize hW : ((((w.alloc (Obj.cells #[Value.string { data := #[97] }, Value.string { data := #[98] }] 9)).alloc (Obj.cells #[Value.string { data := #[98] }] 9)).alloc (Obj.cells #[Value.string { data := #[99] }] 9)).alloc
      (Obj.cells #[Value.int IntKind.i64 1, Value.slice (some { block := w.heap.size + 1, off := 0 }) 1 1, Value.slice (some { block := w.heap.size + 1 + 1, off := 0 }) 1 1] 29)) = W
  have hsz : W.heap.size = w.heap.size + 1 + 1 + 1 + 1 := by subst hW; simp
  have g0 : W.heap[w.heap.size]? = some (.cells #[Value.string b97, Value.string b98] 9 (0, 0)) := by subst hW; exact alloc_old (alloc_old (alloc_old (alloc_at rfl) _) _) _
  have g1 : W.heap[w.heap.size + 1]? = some (.cells #[Value.string b98] 9 (0, 0)) := by subst hW; exact alloc_old (alloc_old (alloc_at (by simp)) _) _
  have g2 : W.heap[w.heap.size + 1 + 1]? = some (.cells #[Value.string b99] 9 (0, 0)) := by subst hW; exact alloc_old (alloc_at (by simp)) _
  have g3 : W.heap[w.heap.size + 1 + 1 + 1]? = some (.cells #[Value.int IntKind.i64 1, Value.slice (some { block := w.heap.size + 1, off := 0 }) 1 1, Value.slice (some { block := w.heap.size + 1 + 1, off := 0 }) 1 1] 29 (0, 0)) := by subst hW; exact alloc_at (by simp)
  have hbW : Below w.heap.size w W := by subst hW; exact (((((Below.refl _ _).alloc (Nat.le_refl _) _).alloc (by simp) _).alloc (by simp; omega) _).alloc (by simp; omega) _)
  clear hW
  have r0 : Rd W W.heap.size 1 (some ⟨w.heap.size, 0, none⟩) 2 2 ([b97, b98].map .string) := Rd.lit g0 (by omega) rfl (Nat.le_refl _)
  have r1 : Rd W W.heap.size 1 (some ⟨w.heap.size + 1, 0, none⟩) 1 1 ([b98].map .string) := Rd.lit g1 (by omega) rfl (Nat.le_refl _)
  have r2 : Rd W W.heap.size 1 (some ⟨w.heap.size + 1 + 1, 0, none⟩) 1 1 ([b99].map .string) := Rd.lit g2 (by omega) rfl (Nat.le_refl _)
  have r3 : RdH W W.heap.size (some ⟨w.heap.size + 1 + 1 + 1, 0, none⟩) 1 1 [hv0 w.heap.size] := by
    refine RdH.of (Rd.lit g3 (by omega) rfl (Nat.le_refl _)) rfl fun x hx => ?_
    obtain rfl : x = hv0 w.heap.size := by simpa using hx
    exact ⟨r1, r2, by simp [hv0], by simp [hv0], by simp [hv0], by simp [hv0]⟩
  have C := apply_any (by omega) r0 (by omega) r3 (by omega) (by simp [newLen, hv0])
  rw [awk_err, awk_res] at C
  refine C.mono ?_
  clear C r1 r2 r3 g0 g1 g2 g3
  rintro e w1 ⟨A, n, c, rfl, hr, hb⟩
  have hn : n = 2 := by have := hr.len; simpa using this.symm
  subst hn
  go_wp2_with fail
  have hbA : Below w1.heap.size w1 (w1.alloc (Obj.cells #[Value.string { data := #[97] }, Value.string { data := #[99] }] 9)) := (Below.refl _ _).alloc (Nat.le_refl _) _
  refine (plain_any (BB := w1.heap.size + 1) (xs := [b97, b99]) (ys := [b97, b99]) (by simp only [maxLen]; omega) (by simp only [maxLen]; omega) (by simp) (hr.to hbA (by omega)) (Rd.lit (alloc_at rfl) (by omega) rfl (Nat.le_refl _))).mono ?_
  rintro e w2 ⟨rfl, hb2⟩
  rw [decide_eq_true rfl]
  go_wp2
  go_ret
  refine ⟨rfl, ?_⟩
  have h1 := hb.size
  have h2 : (w1.alloc (Obj.cells #[Value.string { data := #[97] }, Value.string { data := #[99] }] 9)).heap.size = w1.heap.size + 1 := by simp
  exact hbW.trans ((hb.mono (by omega)).trans ((hbA.mono (by omega)).trans (hb2.mono (by omega))))
end Go.Proofs.Ytabiegbbbljhlaa
