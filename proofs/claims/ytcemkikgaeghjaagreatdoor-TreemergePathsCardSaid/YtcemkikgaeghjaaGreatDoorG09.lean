/- Texts of the walks, together: The grid of what two lists' rests have in common: what it says, how it lies. Walk: diff.made: the grid of two lists. Walks: diff.edits; slices.Grow, slices.Concat of edits. Walk: slices.Concat of edits. Plain laws: where the lines of base that are kept stand. -/
import Derived.OwnWalk
import Derived.Test.YtcemkikgaeghjaaGreatDoorG08
namespace Go.Proofs.YtcemkikgaeghjaaGreatDoor
open Go.RowKit

theorem i32_wrap {x : Int} (h : 0 ≤ x ∧ x ≤ 2000000000) : IntKind.i32.wrap x = x := by
  simp [IntKind.wrap, IntKind.bits, IntKind.signed]; omega

/-! ### What it says -/
def gcel (a b : List ByteArray) (i j p q : Nat) : Nat := if i < p ∨ (i = p ∧ j ≤ q) then cel a b p q else 0
def gridL (a b : List ByteArray) (i j : Nat) : List Value := (List.range ((a.length + 1) * (b.length + 1))).map fun t => Value.int .i32 ((gcel a b i j (t / (b.length + 1)) (t % (b.length + 1)) : Nat) : Int)
theorem grid_lt {n W i j : Nat} (hi : i ≤ n) (hj : j < W) : i * W + j < (n + 1) * W := by
  have := Nat.mul_le_mul_right W hi
  rw [Nat.add_mul]
  omega
theorem grid_div {W i j : Nat} (hj : j < W) : (i * W + j) / W = i ∧ (i * W + j) % W = j := by
  have hW : 0 < W := by omega
  exact ⟨by rw [Nat.add_comm, Nat.add_mul_div_right _ _ hW, Nat.div_eq_of_lt hj, Nat.zero_add], by rw [Nat.add_comm, Nat.add_mul_mod_self_right, Nat.mod_eq_of_lt hj]⟩
theorem gridL_len (a b : List ByteArray) (i j : Nat) : (gridL a b i j).length = (a.length + 1) * (b.length + 1) := by simp [gridL]
theorem gridL_get {a b : List ByteArray} {i j p q : Nat} (hp : p ≤ a.length) (hq : q ≤ b.length) (h : i < p ∨ (i = p ∧ j ≤ q)) : (gridL a b i j)[p * (b.length + 1) + q]? = some (.int .i32 (cel a b p q : Nat)) := by
  obtain ⟨h1, h2⟩ := grid_div (W := b.length + 1) (i := p) (j := q) (by omega)
  have hlt := grid_lt (n := a.length) (W := b.length + 1) (j := q) hp (by omega)
  rw [gridL, List.getElem?_map, List.getElem?_range hlt, Option.map_some, h1, h2, gcel, if_pos h]
theorem gridL_start (a b : List ByteArray) : gridL a b a.length 0 = List.replicate ((a.length + 1) * (b.length + 1)) (.int .i32 0) := by
  refine List.ext_getElem (by simp [gridL]) fun t h1 h2 => ?_
  simp only [gridL, List.getElem_map, List.getElem_range, List.getElem_replicate]
  rw [gridL_len] at h1
  have : gcel a b a.length 0 (t / (b.length + 1)) (t % (b.length + 1)) = 0 := by
    unfold gcel
    split
    · rename_i h
      have h3 : t / (b.length + 1) < a.length + 1 := Nat.div_lt_of_lt_mul (by rw [Nat.mul_comm]; exact h1)
      rw [show t / (b.length + 1) = a.length by omega]
      exact cel_last a b _
    · rfl
  rw [this]; rfl
theorem gridL_row (a b : List ByteArray) (i : Nat) : gridL a b (i + 1) 0 = gridL a b i b.length := by
  refine List.ext_getElem (by simp [gridL]) fun t h1 h2 => ?_
  simp only [gridL, List.getElem_map, List.getElem_range]
  congr 2
  have hlt : t % (b.length + 1) < b.length + 1 := Nat.mod_lt _ (by omega)
  unfold gcel
  by_cases h : i < t / (b.length + 1)
  · rw [if_pos (by omega), if_pos (by omega)]
  · rw [if_neg (by omega)]
    split
    · rename_i h'
      rw [show t % (b.length + 1) = b.length by omega, cel_far]
    · rfl
theorem gridL_set (a b : List ByteArray) {i j : Nat} (hj : j ≤ b.length) : (gridL a b i (j + 1)).set (i * (b.length + 1) + j) (.int .i32 (cel a b i j : Nat)) = gridL a b i j := by
  refine List.ext_getElem (by simp [gridL]) fun t h1 h2 => ?_
  rw [List.getElem_set]
  split
  · rename_i h
    subst h
    obtain ⟨h1, h2⟩ := grid_div (W := b.length + 1) (i := i) (j := j) (by omega)
    simp only [gridL, List.getElem_map, List.getElem_range, h1, h2, gcel]
    rw [if_pos (Or.inr ⟨trivial, Nat.le_refl _⟩)]
  · rename_i h
    simp only [gridL, List.getElem_map, List.getElem_range]
    congr 2
    have e := Nat.div_add_mod t (b.length + 1)
    unfold gcel
    by_cases c : i < t / (b.length + 1) ∨ (i = t / (b.length + 1) ∧ j + 1 ≤ t % (b.length + 1))
    · rw [if_pos c, if_pos (by omega)]
    · rw [if_neg c, if_neg]
      rintro (g | ⟨g1, g2⟩)
      · omega
      · refine h ?_
        have : j = t % (b.length + 1) := by omega
        rw [this, g1, Nat.mul_comm]; exact e

/-! ### How it lies -/
structure Gr (w : World) (B g bx W N : Nat) (xs : List Value) : Prop where
  c0 : w.cell? ⟨bx, 0, none⟩ = some (.slice (some ⟨g, 0, none⟩) N N)
  c1 : w.cell? ⟨bx, 1, none⟩ = some (.int .i64 W)
  own : w.ownsRow B 21 1 (.slice (some ⟨g, 0, none⟩) N N) N xs
  ne : bx ≠ g
  lo : B ≤ bx
  hi : bx < w.heap.size
theorem ownsRow_below' {B : Nat} {e : TypeId} {k : Nat} {v : Value} {n : Nat} {xs : List Value} {w w' : World} (h : w.ownsRow B e k v n xs) (hb : Below w.heap.size w w') : w'.ownsRow B e k v n xs :=
  h.kept (row := none) ⟨hb.os, hb.tape, hb.output, hb.size, fun j hj _ => hb.block j hj⟩ (by cases hv : v.ownBlock <;> simp)
section
variable {w w' : World} {B g bx W N : Nat} {xs : List Value}
theorem Gr.drew (h : Gr w B g bx W N xs) : Gr w.drew B g bx W N xs := ⟨h.c0, h.c1, h.own.drew, h.ne, h.lo, h.hi⟩
theorem Gr.cell (h : Gr w B g bx W N xs) {k : Nat} {u : Value} (hu : xs[k]? = some u) : w.cell? ⟨g, k, none⟩ = some u := by
  rw [h.own.cellAt k (by rw [← h.own.1]; exact (List.getElem?_eq_some_iff.1 hu).1), hu]
theorem Gr.frz (h : Gr w B g bx W N xs) (k : Nat) : w.frozen? ⟨g, k, none⟩ = false := h.own.frozenAt k
theorem Gr.store (h : Gr w B g bx W N xs) (k : Nat) (u : Value) : Gr (w.setCell ⟨g, k, none⟩ u) B g bx W N (xs.set k u) := by
  have h2 := h.own.stored k u
  have hne : ∀ o : Nat, (⟨g, k, none⟩ : Addr) ≠ ⟨bx, o, none⟩ := fun o e => h.ne (by injection e with e1 _ _; exact e1.symm)
  exact ⟨by rw [World.cell?_setCell_other _ _ _ _ (hne 0)]; exact h.c0, by rw [World.cell?_setCell_other _ _ _ _ (hne 1)]; exact h.c1, h2.1, h.ne, h.lo, by simpa using h.hi⟩
theorem Gr.ge (h : Gr w B g bx W N xs) : B ≤ g ∧ g < w.heap.size := h.own.lt g rfl
end

set_option maxRecDepth 100000 in
set_option maxHeartbeats 4000000 in
theorem gat_any {bx g W N i j o : Nat} {I J : Int} {v : Value} {w : World} (hI : I = (i : Int)) (hJ : J = (j : Int)) (ho : i * W + j = o) (hN : N ≤ 17592186044416) (hoN : o < N)
    (c0 : w.cell? ⟨bx, 0, none⟩ = some (.slice (some ⟨g, 0, none⟩) N N)) (c1 : w.cell? ⟨bx, 1, none⟩ = some (.int .i64 W)) (cv : w.cell? ⟨g, o, none⟩ = some v) :
    Calls Tryz.prog 190 #[.pointer (some ⟨bx, 0, none⟩), .int .i64 I, .int .i64 J] w fun e w' => e = .returned v ∧ w' = w.drew := by
  subst hI; subst hJ
  have e1 : (i : Int) * (W : Int) = ((i * W : Nat) : Int) := (Int.natCast_mul ..).symm
  generalize i * W = s at *
  subst ho
  go_enter Tryz.func190, Tryz.ntmps190
  go_wp2
  refine wp_region_q (fun w' => w' = w.drew) (qs 15) mixed (by kernel_rfl) rfl ?_
  intro Tp M Q hT hT' hM hQ
  have m0 : M ⟨bx, 0, none⟩ = some (.slice (some ⟨g, 0, none⟩) N N) := hM _ _ fun w' hw => by subst hw; exact c0
  have m1 : M ⟨bx, 1, none⟩ = some (.int .i64 W) := hM _ _ fun w' hw => by subst hw; exact c1
  have m2 : M ⟨g, s + j, none⟩ = some v := hM _ _ fun w' hw => by subst hw; exact cv
  have e2 : (s : Int) + (j : Int) = ((s + j : Nat) : Int) := by omega
  simp only [qcmp]
  simp (maxSteps := 5000000) only [↓qpre, qpost, qfacts, qnorm, m0, m1, e1, e2, m2]
  (repeat (refine And.intro (by first | omega | (unfold inI64; omega)) ?_))
  refine hQ _ _ ?_
  clear hQ hT hT' hM m0 m1 m2
  go_wp2
  go_ret
  exact ⟨rfl, rfl⟩
end Go.Proofs.YtcemkikgaeghjaaGreatDoor
namespace Go.Proofs.YtcemkikgaeghjaaGreatDoor
open Go.RowKit

structure Elem1 (P : Program) (t e : TypeId) (bytes : Nat) (z : Value) : Prop where
  und : P.underlying t = some (.slice e)
  row : ∃ i, P.info? e = some i ∧ i.zero = some z ∧ i.size = 1 ∧ i.bytes = bytes
  one : z.cells = #[z]
theorem wpl_make {P : Program} {w : World} {a : Act} {ops : Array Oper} {rest : List Oper} {o : Oper} {Q : Exit → Act → World → Prop} (hgd : o.guard = none) (l c : Operand) (t : TypeId)
    (ho : o.op = .makeSlice t l c) {e : TypeId} {bytes : Nat} {z : Value} (E : Elem1 P t e bytes z) (base n : Nat)
    {L C : Int} (hl : a.eval l = .int .i64 L) (hc : a.eval c = .int .i64 C) (hL : L = (n : Int)) (hC : C = (n : Int)) (hb : bytes * n ≤ 281474976710656) (h63 : n ≤ maxLen) (hbase : base ≤ w.heap.size)
    (hK : ∀ w', w'.ownsRow base e 1 (.slice (some ⟨w.heap.size, 0, none⟩) n n) n (List.replicate n z) → w.grownBy w' none → wpList P ops Q rest (a.put o.dst (.slice (some ⟨w.heap.size, 0, none⟩) n n)) w') :
    wpList P ops Q (o :: rest) a w := by
  obtain ⟨i, hi, hz, hs, hby⟩ := E.row
  refine wpList_make_full w hgd l c t ho base e i z 1 E.und hi hz hs .i64 .i64 L C n hl hc hL hC (by rw [hby]; exact hb) h63 hbase fun w' h1 h2 => hK w' ?_ h2
  rw [E.one, Nat.mul_one, toList_madeCells_one] at h1
  exact h1
theorem elem1_of {P : Program} {t e : TypeId} {bytes : Nat} {z : Value} (E : Elem P t e 1 bytes) (hz : (P.info? e).bind (·.zero) = some z) (h1 : z.cells = #[z]) : Elem1 P t e bytes z := by
  obtain ⟨i, z', hi, hz', hs, hb, _⟩ := E.row
  rw [hi] at hz
  simp only [Option.bind_some, hz'] at hz
  cases hz
  exact ⟨E.und, ⟨i, hi, hz', hs, hb⟩, h1⟩
theorem E_i32 : Elem1 Tryz.prog 223 21 4 (.int .i32 0) := elem1_of (elem_of (by kernel_rfl)) (by kernel_rfl) rfl

def MadeIs (a b : List ByteArray) (w : World) (e : Ending) (w' : World) : Prop :=
  ∃ g bx, e = .returned (.pointer (some ⟨bx, 0, none⟩)) ∧ Gr w' w.heap.size g bx (b.length + 1) ((a.length + 1) * (b.length + 1)) (gridL a b 0 0) ∧ Below w.heap.size w w'

set_option maxRecDepth 100000 in
set_option maxHeartbeats 8000000 in
theorem made_any {A B : Option Addr} {n ca m cb : Nat} {a b : List ByteArray} {w : World} (hn : n ≤ 400) (hm : m ≤ 400) (ha : Rd w w.heap.size 1 A n ca (a.map .string)) (hb : Rd w w.heap.size 1 B m cb (b.map .string)) :
    Calls Tryz.prog 189 #[.slice A n ca, .slice B m cb] w (MadeIs a b w) := by
  have hla : a.length = n := by have := ha.len; rw [List.length_map] at this; omega
  have hlb : b.length = m := by have := hb.len; rw [List.length_map] at this; omega
  have HA := Lib.hid hla
  have HB := Lib.hid hlb
  clear hla hlb
  obtain ⟨W, hW⟩ : ∃ W : Nat, m + 1 = W := ⟨_, rfl⟩
  have hWi : (m : Int) + 1 = (W : Int) := by omega
  obtain ⟨N, hN⟩ : ∃ N : Nat, (n + 1) * W = N := ⟨_, rfl⟩
  have hNle : N ≤ 160801 := by rw [← hN]; exact Nat.mul_le_mul (show n + 1 ≤ 401 by omega) (show W ≤ 401 by omega)
  have hNi : ((n : Int) + 1) * (W : Int) = (N : Int) := by rw [← hN]; push_cast; rfl
  have HN := Lib.hid hN
  go_enter Tryz.func189, Tryz.ntmps189
  go_wp2_with first
    | (at_make; refine wpl_make rfl (.tmp 14) (.tmp 14) 223 rfl E_i32 w.heap.size N rfl rfl rfl rfl (by omega) (by simp only [maxLen]; omega) (Nat.le_refl _) ?_; intro w1 hown1 hgrow1)
  have hB1 : Below w.heap.size w w1 := (Below.refl _ _).grown hgrow1 (Nat.le_refl _) (fun g hg => by cases hg)
  have hlt1 := (hown1.lt _ rfl).2
  have hG : Gr (w1.alloc (.cells #[.slice (some ⟨w.heap.size, 0, none⟩) N N, .int .i64 (W : Int)] 241)) w.heap.size w.heap.size w1.heap.size W N (gridL a b n 0) := by
    refine ⟨?_, ?_, ?_, by intro e; simp only at hlt1; omega, hgrow1.size, by simp⟩
    · rw [World.cell?, heap_alloc_new]; rfl
    · rw [World.cell?, heap_alloc_new]; rfl
    · have e : gridL a b n 0 = List.replicate N (.int .i32 0) := by rw [← HA.out, gridL_start, HA.out, HB.out, hW, HN.out]
      rw [e]
      exact hown1.alloc _
  have HG := Lib.hid hG
  have HB2 := Lib.hid (hB1.alloc (by exact hgrow1.size) (.cells #[.slice (some ⟨w.heap.size, 0, none⟩) N N, .int .i64 (W : Int)] 241))
  clear hG hB1 hown1 hgrow1
  generalize w1.alloc (.cells #[.slice (some ⟨w.heap.size, 0, none⟩) N N, .int .i64 (W : Int)] 241) = w2 at *
  generalize w1.heap.size = bx at *
  go_loopw [6] (fun i wr => ∃ j : Nat, j ≤ n ∧ i = .int .i64 ((j : Int) - 1) ∧ Hid (Below w.heap.size w wr) ∧ Hid (Gr wr w.heap.size w.heap.size bx W N (gridL a b j 0)))
      (fun i _ => (intOf i + 1).toNat)
  case atStart => exact ⟨n, Nat.le_refl _, rfl, HB2, HG⟩
  case round =>
    clear HB2 HG
    obtain ⟨j, hj, rfl, HW, HT⟩ := hrel
    cases j with
    | zero =>
      go_wp2
      go_ret
      exact ⟨w.heap.size, bx, rfl, by rw [HA.out, HB.out, hW, HN.out]; exact HT.out, HW.out⟩
    | succ j =>
      rw [show ((j + 1 : Nat) : Int) - 1 = (j : Int) from by omega]
      obtain ⟨ba, oa, x, rfl, hba, hax, hacell⟩ := ha.str (k := j) (by omega)
      have HX := Lib.hid hax
      clear hax
      go_wp2
      go_loopw [7] (fun k wr => ∃ q : Nat, q ≤ m ∧ k = .int .i64 ((q : Int) - 1) ∧ Hid (Below w.heap.size w wr) ∧ Hid (Gr wr w.heap.size w.heap.size bx W N (gridL a b j q)))
          (fun k _ => (intOf k + 1).toNat)
      case atStart => exact ⟨m, Nat.le_refl _, rfl, HW, by have := HT.out; rw [gridL_row, HB.out] at this; exact this⟩
      case round =>
        clear HW HT
        obtain ⟨q, hq, rfl, HW, HT⟩ := hrel
        cases q with
        | zero =>
          go_wp2
          go_roundw
          case rel => exact ⟨j, by omega, by go_num, HW, HT⟩
          case measure => simp [intOf]
        | succ q =>
          rw [show ((q + 1 : Nat) : Int) - 1 = (q : Int) from by omega]
          obtain ⟨bb, ob, y, rfl, hbb, hby, hbcell⟩ := hb.str (k := q) (by omega)
          have HY := Lib.hid hby; clear hby
          go_wp2
          refine wp_region_q (fun w' => Below w.heap.size w w') (qs 9) mixed (by kernel_rfl) HW.out.drew ?_
          intro T M Q hT hT' hM hQ
          have m0 : M ⟨ba, oa + j, none⟩ = some (.string x) := hM _ _ fun w' hw => (hw.cell (p := ⟨ba, oa + j, none⟩) hba).trans hacell
          have m1 : M ⟨bb, ob + q, none⟩ = some (.string y) := hM _ _ fun w' hw => (hw.cell (p := ⟨bb, ob + q, none⟩) hbb).trans hbcell
          clear hM
          have HW2 := Lib.hid HW.out.drew
          have HT2 := Lib.hid HT.out.drew
          clear HW HT
          have hstep := cel_step HX.out HY.out
          have HS : Hid (cel a b j q ≤ 401) := by have := cel_le a b j q; have := HA.out; unfold Hid; omega
          have hlt : j * W + q < N := by rw [← hN]; exact grid_lt (n := n) (by omega) (by omega)
          have hlt1 : (j + 1) * W + q < N := by rw [← hN]; exact grid_lt (n := n) (by omega) (by omega)
          have hlt2 : (j + 1) * W + (q + 1) < N := by rw [← hN]; exact grid_lt (n := n) (by omega) (by omega)
          have hlt3 : j * W + (q + 1) < N := by rw [← hN]; exact grid_lt (n := n) (by omega) (by omega)
          have hset := gridL_set a b (i := j) (j := q) (by have := HB.out; omega)
          have gD : (gridL a b j (q + 1))[(j + 1) * W + (q + 1)]? = some (.int .i32 (cel a b (j + 1) (q + 1) : Nat)) := by
            have := gridL_get (a := a) (b := b) (i := j) (j := q + 1) (p := j + 1) (q := q + 1) (by have := HA.out; omega) (by have := HB.out; omega) (.inl (by omega))
            rw [HB.out, hW] at this; exact this
          have gL : (gridL a b j (q + 1))[(j + 1) * W + q]? = some (.int .i32 (cel a b (j + 1) q : Nat)) := by
            have := gridL_get (a := a) (b := b) (i := j) (j := q + 1) (p := j + 1) (q := q) (by have := HA.out; omega) (by have := HB.out; omega) (.inl (by omega))
            rw [HB.out, hW] at this; exact this
          have gR : (gridL a b j (q + 1))[j * W + (q + 1)]? = some (.int .i32 (cel a b j (q + 1) : Nat)) := by
            have := gridL_get (a := a) (b := b) (i := j) (j := q + 1) (p := j) (q := q + 1) (by have := HA.out; omega) (by have := HB.out; omega) (.inr ⟨rfl, by omega⟩)
            rw [HB.out, hW] at this; exact this
          rw [HB.out, hW] at hset
          have HSET := Lib.hid hset
          have HD := Lib.hid (And.intro gD (And.intro gL gR))
          clear hset gD gL gR
          simp only [qcmp]
          by_cases hxy : x = y
          · have e1 : (x.toList == y.toList) = true := by rw [hxy]; exact beq_self_eq_true _
            rw [if_pos hxy] at hstep
            simp (maxSteps := 5000000) only [↓qpre, qpost, qfacts, qnorm, m0, m1]
            (repeat (refine And.intro (by first | omega | (unfold inI64; omega)) ?_))
            refine hQ _ _ ?_
            clear hQ hT hT' m0 m1 e1
            go_wp2
            refine wp_region_q (fun w' => w'.cell? ⟨bx, 0, none⟩ = some (.slice (some ⟨w.heap.size, 0, none⟩) N N) ∧ w'.cell? ⟨bx, 1, none⟩ = some (.int .i64 W)) (qe [17, 20] 21) mixed (by kernel_rfl) ⟨HT2.out.c0, HT2.out.c1⟩ ?_
            intro T M Q hT hT' hM hQ
            have m0 : M ⟨bx, 0, none⟩ = some (.slice (some ⟨w.heap.size, 0, none⟩) N N) := hM _ _ fun w' hw => hw.1
            have m1 : M ⟨bx, 1, none⟩ = some (.int .i64 W) := hM _ _ fun w' hw => hw.2
            have i1 : (j : Int) * (W : Int) = ((j * W : Nat) : Int) := (Int.natCast_mul ..).symm
            have i2 : ((j * W : Nat) : Int) + (q : Int) = ((j * W + q : Nat) : Int) := by push_cast; rfl
            simp only [qcmp, Nat.reduceBEq]
            simp (maxSteps := 5000000) only [↓qpre, qpost, qfacts, qnorm, m0, m1, i1, i2]
            (repeat (refine And.intro (by first | omega | (unfold inI64; omega)) ?_))
            have HT3 := Lib.hid HT2.out.drew
            have HW3 := Lib.hid HW2.out.drew
            refine eff_call (by kernel_rfl) (gat_any (i := j + 1) (j := q + 1) (W := W) (N := N) (g := w.heap.size) (by push_cast; rfl) (by push_cast; rfl) rfl (by omega) hlt2 HT3.out.c0 HT3.out.c1 (HT3.out.cell HD.out.1)) rfl rfl ?_
            rintro e w5 ⟨rfl, rfl⟩
            have HT4 := Lib.hid HT3.out.drew
            have HW4 := Lib.hid HW3.out.drew
            refine ⟨_, rfl, hT _ ⟨HT4.out.c0, HT4.out.c1⟩, ?_⟩
            have i3 : IntKind.i32.wrap ((cel a b (j + 1) (q + 1) : Nat) + 1 : Int) = ((cel a b j q : Nat) : Int) := by rw [hstep]; push_cast; exact i32_wrap (by have := HS.out; omega)
            simp (maxSteps := 5000000) only [↓qpre, qpost, qfacts, qnorm, i3]
            (repeat (refine And.intro (by first | omega | (unfold inI64; omega)) ?_))
            have hcur : ∃ u, (gridL a b j (q + 1))[j * W + q]? = some u := ⟨_, List.getElem?_eq_getElem (by rw [gridL_len, HA.out, HB.out, hW, hN]; exact hlt)⟩
            obtain ⟨u, hu⟩ := hcur
            have hst := HT4.out.store (j * W + q) (.int .i32 (cel a b j q : Nat))
            rw [HSET.out] at hst
            have hcs := congrArg Option.isSome (HT4.out.cell hu)
            have HW5 := Lib.hid (HW4.out.setCell (p := ⟨w.heap.size, j * W + q, none⟩) (Nat.le_refl _) (.int .i32 (cel a b j q : Nat)))
            have HST := Lib.hid hst
            refine eff_store (v := .int .i32 (cel a b j q : Nat)) (b := w.heap.size) (o := j * W + q) (by kernel_rfl) rfl rfl hcs (HT4.out.frz _) rfl ⟨hT _ ⟨hst.c0, hst.c1⟩, ?_⟩
            simp (maxSteps := 5000000) only [qpost]
            refine hQ _ _ ?_
            clear hQ hT hT' hM m0 m1 i1 i2 i3 hst hcs hu HD HSET HS hstep HT4 HW4 HT3 HW3 HT2 HW2 HX HY
            go_wp2
            go_roundw
            case rel => exact ⟨q, by omega, by go_num, HW5, HST⟩
            case measure => simp [intOf]
          · have e1 := ba_ne hxy
            rw [if_neg hxy] at hstep
            simp (maxSteps := 5000000) only [↓qpre, qpost, qfacts, qnorm, m0, m1]
            (repeat (refine And.intro (by first | omega | (unfold inI64; omega)) ?_))
            refine hQ _ _ ?_
            clear hQ hT hT' m0 m1 e1
            go_wp2
            refine wp_region_q (fun w' => w'.cell? ⟨bx, 0, none⟩ = some (.slice (some ⟨w.heap.size, 0, none⟩) N N) ∧ w'.cell? ⟨bx, 1, none⟩ = some (.int .i64 W)) [(true, 0), (true, 1), (true, 2), (true, 3), (true, 4), (true, 5), (true, 6), (true, 7), (true, 8), (true, 9), (true, 10), (true, 11), (true, 12), (true, 13), (true, 14), (true, 15), (true, 17), (true, 18), (true, 19), (true, 20), (false, 16), (false, 21), (true, 22), (true, 23), (false, 24)] mixed (by kernel_rfl) ⟨HT2.out.c0, HT2.out.c1⟩ ?_
            intro T M Q hT hT' hM hQ
            have m0 : M ⟨bx, 0, none⟩ = some (.slice (some ⟨w.heap.size, 0, none⟩) N N) := hM _ _ fun w' hw => hw.1
            have m1 : M ⟨bx, 1, none⟩ = some (.int .i64 W) := hM _ _ fun w' hw => hw.2
            have i1 : (j : Int) * (W : Int) = ((j * W : Nat) : Int) := (Int.natCast_mul ..).symm
            have i2 : ((j * W : Nat) : Int) + (q : Int) = ((j * W + q : Nat) : Int) := by push_cast; rfl
            simp only [qcmp]
            simp (maxSteps := 5000000) only [↓qpre, qpost, qfacts, qnorm, m0, m1, i1, i2]
            (repeat (refine And.intro (by first | omega | (unfold inI64; omega)) ?_))
            have HT3 := Lib.hid HT2.out.drew
            have HW3 := Lib.hid HW2.out.drew
            refine eff_call (by kernel_rfl) (gat_any (i := j + 1) (j := q) (W := W) (N := N) (g := w.heap.size) (by push_cast; rfl) rfl rfl (by omega) hlt1 HT3.out.c0 HT3.out.c1 (HT3.out.cell HD.out.2.1)) rfl rfl ?_
            rintro e w5 ⟨rfl, rfl⟩
            have HT3' := Lib.hid HT3.out.drew
            have HW3' := Lib.hid HW3.out.drew
            refine ⟨_, rfl, hT _ ⟨HT3'.out.c0, HT3'.out.c1⟩, ?_⟩
            simp (maxSteps := 5000000) only [qpost, qnorm]
            refine eff_call (by kernel_rfl) (gat_any (i := j) (j := q + 1) (W := W) (N := N) (g := w.heap.size) rfl (by push_cast; rfl) rfl (by omega) hlt3 HT3'.out.c0 HT3'.out.c1 (HT3'.out.cell HD.out.2.2)) rfl rfl ?_
            rintro e w5 ⟨rfl, rfl⟩
            have HT4 := Lib.hid HT3'.out.drew
            have HW4 := Lib.hid HW3'.out.drew
            refine ⟨_, rfl, hT _ ⟨HT4.out.c0, HT4.out.c1⟩, ?_⟩
            have i3 : max ((cel a b (j + 1) q : Nat) : Int) ((cel a b j (q + 1) : Nat) : Int) = ((cel a b j q : Nat) : Int) := by rw [hstep]; omega
            simp (maxSteps := 5000000) only [↓qpre, qpost, qfacts, qnorm, i3]
            (repeat (refine And.intro (by first | omega | (unfold inI64; omega)) ?_))
            have hcur : ∃ u, (gridL a b j (q + 1))[j * W + q]? = some u := ⟨_, List.getElem?_eq_getElem (by rw [gridL_len, HA.out, HB.out, hW, hN]; exact hlt)⟩
            obtain ⟨u, hu⟩ := hcur
            have hst := HT4.out.store (j * W + q) (.int .i32 (cel a b j q : Nat))
            rw [HSET.out] at hst
            have hcs := congrArg Option.isSome (HT4.out.cell hu)
            have HW5 := Lib.hid (HW4.out.setCell (p := ⟨w.heap.size, j * W + q, none⟩) (Nat.le_refl _) (.int .i32 (cel a b j q : Nat)))
            have HST := Lib.hid hst
            refine eff_store (v := .int .i32 (cel a b j q : Nat)) (b := w.heap.size) (o := j * W + q) (by kernel_rfl) rfl rfl hcs (HT4.out.frz _) rfl ⟨hT _ ⟨hst.c0, hst.c1⟩, ?_⟩
            simp (maxSteps := 5000000) only [qpost]
            refine hQ _ _ ?_
            clear hQ hT hT' hM m0 m1 i1 i2 i3 hst hcs hu HD HSET HS hstep HT4 HW4 HT3 HW3 HT2 HW2 HX HY
            go_wp2
            go_roundw
            case rel => exact ⟨q, by omega, by go_num, HW5, HST⟩
            case measure => simp [intOf]
end Go.Proofs.YtcemkikgaeghjaaGreatDoor
namespace Go.Proofs.YtcemkikgaeghjaaGreatDoor
open Go.RowKit

theorem E_edits : Elem Tryz.prog 200 203 2 24 := elem_of (by kernel_rfl)
theorem one_edits (l : List DV) : ∀ u ∈ l.flatMap DV.cells, u.oneCell' = true := by
  intro u hu
  obtain ⟨f, _, hf⟩ := List.mem_flatMap.1 hu
  simp only [DV.cells, List.mem_cons, List.mem_nil_iff, or_false] at hf
  rcases hf with rfl | rfl <;> rfl
theorem rd_litE (w : World) (f : DV) : Rd (w.alloc (.cells #[.int .i64 f.kind, .string f.line] 203)) (w.alloc (.cells #[.int .i64 f.kind, .string f.line] 203)).heap.size 2 (some ⟨w.heap.size, 0, none⟩) 1 1 ([f].flatMap DV.cells) :=
  ⟨rfl, Nat.le_refl _, fun _ => ⟨_, 0, rfl, by simp, fun j u hu => by
    rw [Nat.zero_add, World.cell?, heap_alloc_new]
    simpa [DV.cells] using hu⟩⟩
theorem evs_snoc {k : Int} {a : List ByteArray} {j : Nat} {x : ByteArray} (hx : a[j]? = some x) : evs k (a.take (j + 1)) = evs k (a.take j) ++ [⟨k, x⟩] := by
  rw [List.take_add_one, hx]; simp [evs]
theorem evs_len (k : Int) (a : List ByteArray) : (evs k a).length = a.length := by simp [evs]
def EdIs (L : List DV) (w : World) (e : Ending) (w' : World) : Prop := CloneIs 203 2 L.length (L.flatMap DV.cells) w e w'

set_option maxRecDepth 100000 in
set_option maxHeartbeats 4000000 in
theorem edits_any {A : Option Addr} {n c : Nat} {a : List ByteArray} {k : Int} {w : World} (hn : n ≤ 1000000) (ha : Rd w w.heap.size 1 A n c (a.map .string)) :
    Calls Tryz.prog 187 #[.int .i64 k, .slice A n c] w (EdIs (evs k a) w) := by
  have hla : a.length = n := by have := ha.len; rw [List.length_map] at this; omega
  have HA := Lib.hid hla
  clear hla
  go_enter Tryz.func187, Tryz.ntmps187
  go_wp2
  go_loopw [5, 10] (fun out i wr => ∃ j : Nat, j ≤ n ∧ i = .int .i64 j ∧ Hid (Below w.heap.size w wr) ∧ Hid (wr.ownsRow w.heap.size 203 2 out j ((evs k (a.take j)).flatMap DV.cells))) (fun _ i _ => n - (intOf i).toNat)
  case atStart => exact ⟨0, Nat.zero_le _, rfl, Lib.hid (Below.refl _ _), by rw [List.take_zero]; exact World.ownsRow_nil _ _ _ _⟩
  case round =>
    obtain ⟨j, hj, rfl, HW, HO⟩ := hrel
    have hws := HW.out.size
    by_cases hlt : j < n
    · obtain ⟨b0, o0, x, rfl, hbb, hx, h0⟩ := ha.str hlt
      have c0 := (HW.out.cell (p := ⟨b0, o0 + j, none⟩) hbb).trans h0
      have HX := Lib.hid hx; clear hx
      have hb1 : Below w.heap.size w (wr.alloc (.cells #[.int .i64 k, .string x] 203)) := HW.out.alloc hws _
      have ho1 := HO.out.alloc (.cells #[.int .i64 k, .string x] 203)
      have HB1 := Lib.hid hb1
      have HO1 := Lib.hid ho1
      clear hb1 ho1 HO
      go_wp2_with (at_builtin; refine wpl_append rfl (.tmp 14) (.tmp 18) 200 rfl E_edits rfl rfl HO1.out (rd_litE _ ⟨k, x⟩) (one_edits _) (by unfold maxLen; omega) (by omega) HB1.out.size ?_; intro v7 w7 ho7 hg7 hv7)
      have HW7 := Lib.hid (HB1.out.grown hg7 HB1.out.size (fun g hg => (HO1.out.lt g hg).1))
      have HO7 := Lib.hid ho7
      clear ho7 hg7 hv7 HO1 HB1
      go_roundw
      case rel =>
        refine ⟨j + 1, by omega, by go_num, HW7, ?_⟩
        rw [evs_snoc HX.out, List.flatMap_append]
        exact HO7
      case measure => simp [intOf]; omega
    · have hjn : j = n := by omega
      subst hjn
      rw [List.take_of_length_le (by rw [HA.out]; exact Nat.le_refl _)] at HO
      go_wp2
      go_ret
      exact ⟨_, rfl, by rw [evs_len, HA.out]; exact HO.out, HW.out⟩

set_option maxRecDepth 100000 in
set_option maxHeartbeats 4000000 in
theorem growE_any {n : Nat} {w : World} (hn : n ≤ 1000000) :
    Calls Tryz.prog 199 #[.slice none 0 0, .int .i64 n] w (CloneIs 203 2 0 [] w) := by
  cases n with
  | zero =>
    go_enter Tryz.func199, Tryz.ntmps199
    go_wp2
    go_ret
    exact ⟨_, rfl, World.ownsRow_nil _ _ _ _, Below.refl _ _⟩
  | succ n =>
    obtain ⟨i, z, hi, hz, hsz, hby, hzs⟩ := E_edits.row
    have hr := Lib.run_append_nil_zeros (P := Tryz.prog) w 200 3 200 203 i z .i64 .i64 E_edits.und (by kernel_rfl) hi hz (n + 1) (by omega) (by omega) (by omega) (by rw [hby]; omega)
    have hG := grownCap_lo w (n + 1) 0 203 (by omega) (by unfold maxLen; omega)
    obtain ⟨G, eG⟩ : ∃ G, G = grownCap w (n + 1) 0 203 := ⟨_, rfl⟩
    rw [← eG] at hr hG
    have ho : (w.drew.alloc (.cells (Builtin.zeroCells z.cells (n + 1) ++ Builtin.zeroCells z.cells (G - (n + 1))) 203)).ownsRow w.heap.size 203 2 (.slice (some ⟨w.heap.size, 0, none⟩) 0 G) 0 [] := by
      refine World.ownsRow_made w.drew _ G (Nat.le_refl _) hG.2 ?_
      simp [Builtin.zeroCells, hzs]
      omega
    have hb : Below w.heap.size w (w.drew.alloc (.cells (Builtin.zeroCells z.cells (n + 1) ++ Builtin.zeroCells z.cells (G - (n + 1))) 203)) := (Below.refl _ _).drew.alloc (Nat.le_refl _) _
    generalize w.drew.alloc (.cells (Builtin.zeroCells z.cells (n + 1) ++ Builtin.zeroCells z.cells (G - (n + 1))) 203) = w1 at *
    go_enter Tryz.func199, Tryz.ntmps199
    go_wp2_with (at_builtin; refine Lib.wpList_append_run _ rfl (.tmp 20) (.tmp 21) _ _ rfl _ _ rfl rfl _ _ hr ?_)
    subst eG
    go_ret
    exact ⟨_, rfl, ho, hb⟩
end Go.Proofs.YtcemkikgaeghjaaGreatDoor
namespace Go.Proofs.YtcemkikgaeghjaaGreatDoor
open Go.RowKit

def RdLL (w : World) (B g : Nat) (Ls : List (List DV)) : Prop :=
  ∀ (k : Nat) (L : List DV), Ls[k]? = some L → ∃ A c, w.cell? ⟨g, k, none⟩ = some (.slice A L.length c) ∧ Rd w B 2 A L.length c (L.flatMap DV.cells)
theorem flat_snoc {Ls : List (List DV)} {k : Nat} {L : List DV} (h : Ls[k]? = some L) : (Ls.take (k + 1)).flatten = (Ls.take k).flatten ++ L := by
  rw [List.take_add_one, h]; simp
theorem flat_le (Ls : List (List DV)) (k : Nat) : (Ls.take k).flatten.length ≤ Ls.flatten.length := by
  have : (Ls.take k).flatten ++ (Ls.drop k).flatten = Ls.flatten := by rw [← List.flatten_append, List.take_append_drop]
  rw [← this, List.length_append]; omega
set_option maxRecDepth 100000 in
set_option maxHeartbeats 4000000 in
theorem concatE_any {g q c : Nat} {Ls : List (List DV)} {w : World} (hq : Ls.length = q) (hq2 : q ≤ 1000) (hg : g < w.heap.size) (hn : Ls.flatten.length ≤ 1000000) (h : RdLL w w.heap.size g Ls) :
    Calls Tryz.prog 188 #[.slice (some ⟨g, 0, none⟩) q c] w (EdIs Ls.flatten w) := by
  have HQ := Lib.hid hq; clear hq
  go_enter Tryz.func188, Tryz.ntmps188
  go_wp2
  go_loopw [3, 11] (fun s i wr => ∃ k : Nat, k ≤ q ∧ i = .int .i64 k ∧ s = .int .i64 ((Ls.take k).flatten.length : Nat) ∧ wr = w) (fun _ i _ => q - (intOf i).toNat)
  case atStart => exact ⟨0, Nat.zero_le _, rfl, rfl, rfl⟩
  case round =>
    obtain ⟨k, hk, rfl, rfl, rfl⟩ := hrel
    have hle := flat_le Ls k
    by_cases hlt : k < q
    · have hk2 : k < Ls.length := by rw [HQ.out]; exact hlt
      obtain ⟨L, hL⟩ : ∃ L, Ls[k]? = some L := ⟨_, List.getElem?_eq_getElem hk2⟩
      obtain ⟨A, cc, h0, hr⟩ := h k L hL
      have hle2 := flat_le Ls (k + 1)
      have hs := flat_snoc hL
      rw [hs, List.length_append] at hle2
      have HL := Lib.hid hs
      clear hs hL
      generalize hS : (Ls.take k).flatten.length = s at *
      have HS := Lib.hid hS
      clear hS
      go_wp2
      go_roundw
      case rel => exact ⟨k + 1, by omega, by go_num, by rw [HL.out, List.length_append, HS.out]; push_cast; rfl, trivial⟩
      case measure => simp [intOf]; omega
    · obtain rfl : k = q := by omega
      rw [List.take_of_length_le (by rw [HQ.out]; exact Nat.le_refl _)] at *
      generalize hN : Ls.flatten.length = N at *
      have HN := Lib.hid hN
      clear hN
      have hG := growE_any (n := N) (w := wr) hn
      go_wp2_with fail
      refine hG.mono ?_
      rintro e w1 ⟨v0, rfl, ho0, hb0⟩
      have HB0 := Lib.hid hb0
      have HO0 := Lib.hid ho0
      clear hG hb0 ho0 hle hlt
      go_wp2
      go_loopw [6, 27] (fun v i w2 => ∃ j : Nat, j ≤ k ∧ i = .int .i64 j ∧ Hid (Below wr.heap.size wr w2) ∧ Hid (w2.ownsRow wr.heap.size 203 2 v (Ls.take j).flatten.length ((Ls.take j).flatten.flatMap DV.cells))) (fun _ i _ => k - (intOf i).toNat)
      case atStart => exact ⟨0, Nat.zero_le _, rfl, HB0, HO0⟩
      case round =>
        clear HB0 HO0
        obtain ⟨j, hj, rfl, HW, HO⟩ := hrel
        have hws := HW.out.size
        by_cases hlt : j < k
        · have hj2 : j < Ls.length := by rw [HQ.out]; exact hlt
          obtain ⟨L, hL⟩ : ∃ L, Ls[j]? = some L := ⟨_, List.getElem?_eq_getElem hj2⟩
          obtain ⟨A, cc, h0, hr⟩ := h j L hL
          have hle2 := flat_le Ls (j + 1)
          rw [HN.out] at hle2
          have hs := flat_snoc hL
          rw [hs, List.length_append] at hle2
          have HL := Lib.hid hs
          clear hs hL
          have c0 := (HW.out.cell (p := ⟨g, j, none⟩) hg).trans h0
          have HR := Lib.hid ((hr.below HW.out).more hws)
          clear hr
          have hsum : (Ls.take j).flatten.length + L.length ≤ 1000000 := by omega
          go_wp2_with (at_builtin; refine wpl_append rfl (.tmp 31) (.tmp 32) 200 rfl E_edits rfl rfl HO.out HR.out (one_edits _) (by unfold maxLen; omega) (by omega) hws ?_; intro v7 w7 ho7 hg7 hv7)
          have HW7 := Lib.hid (HW.out.grown hg7 hws (fun g hg => (HO.out.lt g hg).1))
          have HO7 := Lib.hid ho7
          clear ho7 hg7 hv7 HO HW
          go_roundw
          case rel =>
            refine ⟨j + 1, by omega, by go_num, HW7, ?_⟩
            rw [HL.out, List.flatMap_append, List.length_append]
            exact HO7
          case measure => simp [intOf]; omega
        · obtain rfl : j = k := by omega
          rw [List.take_of_length_le (by rw [HQ.out]; exact Nat.le_refl _)] at HO
          go_wp2
          go_ret
          exact ⟨_, rfl, HO.out, HW.out⟩
end Go.Proofs.YtcemkikgaeghjaaGreatDoor
namespace Go.Proofs.YtcemkikgaeghjaaGreatDoor

theorem olds_cons (e : DV) (es : List DV) : olds (e :: es) = (if e.kind = 3 then [] else [e.line]) ++ olds es := rfl
theorem news_cons (e : DV) (es : List DV) : news (e :: es) = (if e.kind = 2 then [] else [e.line]) ++ news es := rfl
theorem placesF_len : ∀ (es : List DV) (j : Nat), kinds es → (placesF es j).length = (olds es).length
  | [], _, _ => rfl
  | e :: es, j, h => by
    have he := h e (by simp)
    have ih := fun j => placesF_len es j (fun x hx => h x (List.mem_cons_of_mem _ hx))
    rw [placesF, olds_cons, List.length_append]
    rcases he with h1 | h1 | h1
    · rw [if_pos h1, if_neg (by omega), List.length_cons, ih]; simp; omega
    · rw [if_neg (by omega), if_pos h1, if_neg (by omega), List.length_cons, ih]; simp; omega
    · rw [if_neg (by omega), if_neg (by omega), if_pos h1, ih]; simp
theorem placesF_at : ∀ (es : List DV) (j : Nat), kinds es → ∀ (i x : Nat), (placesF es j)[i]? = some (some x) → j ≤ x ∧ x - j < (news es).length ∧ (news es)[x - j]? = (olds es)[i]?
  | [], _, _, i, x, h => by simp [placesF] at h
  | e :: es, j, hk, i, x, h => by
    have he := hk e (by simp)
    have ih := fun j i x => placesF_at es j (fun x hx => hk x (List.mem_cons_of_mem _ hx)) i x
    rw [placesF] at h
    rw [news_cons, olds_cons]
    rcases he with h1 | h1 | h1
    · rw [if_pos h1] at h
      rw [if_neg (show ¬ e.kind = 2 by omega), if_neg (show ¬ e.kind = 3 by omega)]
      cases i with
      | zero =>
        simp at h
        subst h
        simp
      | succ i =>
        rw [List.getElem?_cons_succ] at h
        obtain ⟨a, b, c⟩ := ih (j + 1) i x h
        obtain ⟨d, hd⟩ : ∃ d, x - j = d + 1 := ⟨x - j - 1, by omega⟩
        rw [hd]
        have hd2 : x - (j + 1) = d := by omega
        rw [hd2] at b c
        refine ⟨by omega, by simp; omega, ?_⟩
        simpa using c
    · rw [if_neg (show ¬ e.kind = 1 by omega), if_pos h1] at h
      rw [if_pos h1, if_neg (show ¬ e.kind = 3 by omega)]
      cases i with
      | zero => simp at h
      | succ i =>
        rw [List.getElem?_cons_succ] at h
        obtain ⟨a, b, c⟩ := ih j i x h
        exact ⟨a, by simpa using b, by simpa using c⟩
    · rw [if_neg (show ¬ e.kind = 1 by omega), if_neg (show ¬ e.kind = 2 by omega)] at h
      rw [if_neg (show ¬ e.kind = 2 by omega), if_pos h1]
      obtain ⟨a, b, c⟩ := ih (j + 1) i x h
      obtain ⟨d, hd⟩ : ∃ d, x - j = d + 1 := ⟨x - j - 1, by omega⟩
      rw [hd]
      have hd2 : x - (j + 1) = d := by omega
      rw [hd2] at b c
      exact ⟨by omega, by simp; omega, by simpa using c⟩
theorem placesF_up : ∀ (es : List DV) (j : Nat), kinds es → ∀ (i i' x x' : Nat), i < i' → (placesF es j)[i]? = some (some x) → (placesF es j)[i']? = some (some x') → x < x'
  | [], _, _, i, _, x, _, _, h, _ => by simp [placesF] at h
  | e :: es, j, hk, i, i', x, x', hi, h, h' => by
    have he := hk e (by simp)
    have hk' : kinds es := fun x hx => hk x (List.mem_cons_of_mem _ hx)
    rw [placesF] at h h'
    rcases he with h1 | h1 | h1
    · rw [if_pos h1] at h h'
      obtain ⟨k', rfl⟩ : ∃ k', i' = k' + 1 := ⟨i' - 1, by omega⟩
      rw [List.getElem?_cons_succ] at h'
      cases i with
      | zero =>
        simp at h
        have := (placesF_at es (j + 1) hk' k' x' h').1
        omega
      | succ i =>
        rw [List.getElem?_cons_succ] at h
        exact placesF_up es (j + 1) hk' i k' x x' (by omega) h h'
    · rw [if_neg (show ¬ e.kind = 1 by omega), if_pos h1] at h h'
      obtain ⟨k', rfl⟩ : ∃ k', i' = k' + 1 := ⟨i' - 1, by omega⟩
      rw [List.getElem?_cons_succ] at h'
      cases i with
      | zero => simp at h
      | succ i =>
        rw [List.getElem?_cons_succ] at h
        exact placesF_up es j hk' i k' x x' (by omega) h h'
    · rw [if_neg (show ¬ e.kind = 1 by omega), if_neg (show ¬ e.kind = 2 by omega)] at h h'
      exact placesF_up es (j + 1) hk' i i' x x' hi h h'
structure Places (base side : List ByteArray) (ps : List (Option Nat)) : Prop where
  len : ps.length = base.length
  at_ : ∀ (i x : Nat), ps[i]? = some (some x) → x < side.length ∧ side[x]? = base[i]?
  up : ∀ (i i' x x' : Nat), i < i' → ps[i]? = some (some x) → ps[i']? = some (some x') → x < x'
theorem places_ok (base side : List ByteArray) : Places base side (placeF base side) := by
  obtain ⟨h1, h2, h3⟩ := script_says base side
  refine ⟨?_, fun i x h => ?_, placesF_up _ _ h3⟩
  · rw [placeF, placesF_len _ _ h3, h1]
  · obtain ⟨_, a, b⟩ := placesF_at _ _ h3 i x h
    rw [h1, h2] at b
    rw [h2] at a
    exact ⟨a, b⟩
theorem pfx_self : ∀ a : List ByteArray, pfx a a = a.length
  | [] => rfl
  | x :: a => by rw [pfx, if_pos rfl, pfx_self a]; rfl
theorem placesF_keep : ∀ (l : List ByteArray) (j : Nat), placesF (evs 1 l) j = (List.range' j l.length).map some
  | [], _ => rfl
  | x :: l, j => by
    show placesF (⟨1, x⟩ :: evs 1 l) j = _
    rw [placesF, if_pos rfl, placesF_keep l (j + 1), List.length_cons, List.range'_succ]; rfl
theorem place_self (a : List ByteArray) : placeF a a = (List.range' 0 a.length).map some := by
  have : script a a = evs 1 a := by
    rw [script, pfx_self, List.take_length, List.drop_length, rest, if_neg (by simp), scrT, List.append_nil]
  rw [placeF, this, placesF_keep]
end Go.Proofs.YtcemkikgaeghjaaGreatDoor
