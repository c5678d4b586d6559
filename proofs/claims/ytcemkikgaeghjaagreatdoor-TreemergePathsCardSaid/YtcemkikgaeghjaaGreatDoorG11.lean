/- Texts of the walks, together: Plain laws: how long a merged text may be. Walk: diff.Common: how much two lists have in common. -/
import Derived.Test.YtcemkikgaeghjaaGreatDoorG09
import Derived.Test.YtcemkikgaeghjaaGreatDoorG10
namespace Go.Proofs.YtcemkikgaeghjaaGreatDoor

theorem placesF_app : ∀ (l : List ByteArray) (r : List DV) (j : Nat), placesF (evs 1 l ++ r) j = (List.range' j l.length).map some ++ placesF r (j + l.length)
  | [], r, j => by simp [evs]
  | x :: l, r, j => by
    show placesF (⟨1, x⟩ :: (evs 1 l ++ r)) j = _
    rw [placesF, if_pos rfl, placesF_app l r (j + 1), List.length_cons, List.range'_succ, List.map_cons, List.cons_append, show j + 1 + l.length = j + (l.length + 1) by omega]
theorem placesF_none : ∀ (a b : List ByteArray) (j i x : Nat), (placesF (evs 2 a ++ evs 3 b) j)[i]? ≠ some (some x)
  | [], [], j, i, x => by simp [evs, placesF]
  | [], y :: b, j, i, x => by
    show (placesF (⟨3, y⟩ :: (evs 2 [] ++ evs 3 b)) j)[i]? ≠ _
    rw [placesF, if_neg (show ¬ (3 : Int) = 1 by decide), if_neg (show ¬ (3 : Int) = 2 by decide)]
    exact placesF_none [] b (j + 1) i x
  | z :: a, b, j, i, x => by
    show (placesF (⟨2, z⟩ :: (evs 2 a ++ evs 3 b)) j)[i]? ≠ _
    rw [placesF, if_neg (show ¬ (2 : Int) = 1 by decide), if_pos rfl]
    cases i with
    | zero => simp
    | succ i => rw [List.getElem?_cons_succ]; exact placesF_none a b j i x
theorem pfx_le (a b : List ByteArray) : pfx a b ≤ a.length ∧ pfx a b ≤ b.length := by
  have : ∀ (a b : List ByteArray), pfx a b ≤ a.length ∧ pfx a b ≤ b.length := by
    intro a
    induction a with
    | nil => intro b; simp [pfx]
    | cons x a ih =>
      intro b
      cases b with
      | nil => simp [pfx]
      | cons y b =>
        rw [pfx]
        have := ih b
        split <;> simp only [List.length_cons] <;> omega
  exact this a b
structure Ahead (base side : List ByteArray) (ps : List (Option Nat)) (P : Nat) : Prop where
  leB : P ≤ base.length
  leS : P ≤ side.length
  same : side.take P = base.take P
  low : ∀ (i x : Nat), ps[i]? = some (some x) → i < P → x = i
  high : ∀ (i x : Nat), ps[i]? = some (some x) → P ≤ i → P ≤ x ∧ base.length ≤ P + 400 ∧ side.length ≤ P + 400
theorem place_ahead (base side : List ByteArray) : Ahead base side (placeF base side) (pfx base side) := by
  obtain ⟨l1, l2⟩ := pfx_le base side
  have hs : placeF base side = (List.range' 0 (pfx base side)).map some ++ placesF (rest (base.drop (pfx base side)) (side.drop (pfx base side))) (pfx base side) := by
    rw [placeF, script, placesF_app, List.length_take, Nat.min_eq_left l1, Nat.zero_add]
  have hlen : ((List.range' 0 (pfx base side)).map (some : Nat → Option Nat)).length = pfx base side := by rw [List.length_map, List.length_range']
  refine ⟨l1, l2, (pfx_take base side).symm, fun i x h hi => ?_, fun i x h hi => ?_⟩
  · rw [hs, List.getElem?_append_left (by rw [hlen]; exact hi)] at h
    exact range_at h
  · rw [hs, List.getElem?_append_right (by rw [hlen]; exact hi), hlen] at h
    unfold rest at h
    split at h
    · exact absurd h (placesF_none _ _ _ _ _)
    · rename_i hb
      rw [List.length_drop, List.length_drop] at hb
      have hk : kinds (scrT (base.drop (pfx base side)) (side.drop (pfx base side))) := (scrT_says _ _).2.2
      exact ⟨(placesF_at _ _ hk _ _ h).1, by omega, by omega⟩
def clashN (l : List KV) : Nat := (l.filter fun c => decide (c.kind = 5)).length
theorem clashN_app (l m : List KV) : clashN (l ++ m) = clashN l + clashN m := by simp [clashN]
theorem between_clash (b o t : List ByteArray) : clashN (betweenF b o t) ≤ 1 ∧ (o = b → clashN (betweenF b o t) = 0) ∧ (t = b → clashN (betweenF b o t) = 0) ∧ (0 < clashN (betweenF b o t) → 2 ≤ b.length + o.length + t.length) := by
  unfold betweenF
  split
  · simp [clashN]
  · rename_i h0
    unfold kindF
    by_cases e1 : o = b
    · rw [if_pos e1]; simp [clashN]
    · rw [if_neg e1]
      by_cases e2 : t = b
      · rw [if_pos e2]; simp [clashN]
      · rw [if_neg e2]
        by_cases e3 : o = t
        · rw [if_pos e3]; simp [clashN]
        · rw [if_neg e3]
          have hc : clashN [(⟨5, b, o, t⟩ : KV)] = 1 := rfl
          rw [hc]
          refine ⟨Nat.le_refl _, fun e => absurd e e1, fun e => absurd e e2, fun _ => ?_⟩
          -- two of the three are not empty
          cases b with
          | nil =>
            cases o with
            | nil => exact absurd rfl e1
            | cons x o =>
              cases t with
              | nil => exact absurd rfl e2
              | cons y t => simp only [List.length_cons]; omega
          | cons z b =>
            cases o with
            | nil =>
              cases t with
              | nil => exact absurd rfl e3
              | cons y t => simp only [List.length_cons]; omega
            | cons x o => simp only [List.length_cons]; omega
theorem sliceF_len {l : List ByteArray} {i k : Nat} (hk : k ≤ l.length) : (sliceF l i k).length = k - i := by
  rw [sliceF, List.length_drop, List.length_take, Nat.min_eq_left hk]
theorem Pieces.few {base ours theirs : List ByteArray} {zs : List (Option Nat × Option Nat)} {b o t : Nat} {l : List KV} (h : Pieces base ours theirs zs b o t l) :
    5 * clashN l ≤ (base.length - b) + (ours.length - o) + (theirs.length - t) + 3 := by
  induction h with
  | @last b o t hb ho ht =>
    obtain ⟨h1, _, _, h2⟩ := between_clash (base.drop b) (ours.drop o) (theirs.drop t)
    rw [List.length_drop, List.length_drop, List.length_drop] at h2
    by_cases h3 : 0 < clashN (betweenF (base.drop b) (ours.drop o) (theirs.drop t))
    · have := h2 h3; omega
    · omega
  | @more b o t i x y n l hz hn hb ho ht hi hx hy he hf h ih =>
    obtain ⟨h1, _, _, h2⟩ := between_clash (sliceF base b i) (sliceF ours o x) (sliceF theirs t y)
    rw [sliceF_len (by omega), sliceF_len (by omega), sliceF_len (by omega)] at h2
    have h4 : clashN (⟨1, sliceF base i (i + n), sliceF base i (i + n), sliceF base i (i + n)⟩ :: l) = clashN l := rfl
    rw [clashN_app, h4]
    by_cases h3 : 0 < clashN (betweenF (sliceF base b i) (sliceF ours o x) (sliceF theirs t y))
    · have := h2 h3; omega
    · omega
theorem slice_same {base side : List ByteArray} {P b i : Nat} (h : side.take P = base.take P) (hi : i ≤ P) : sliceF side b i = sliceF base b i := by
  unfold sliceF
  have := congrArg (fun l => (l.take i).drop b) h
  simpa [List.take_take, Nat.min_eq_left hi] using this
theorem Pieces.bound {base ours theirs : List ByteArray} {xs ys : List (Option Nat)} {P Q : Nat} (A : Ahead base ours xs P) (B : Ahead base theirs ys Q) {b o t : Nat} {l : List KV}
    (h : Pieces base ours theirs (xs.zip ys) b o t l) (h1 : b < P → o = b) (h2 : b < Q → t = b) : clashN l ≤ 241 := by
  induction h with
  | @last b o t hb ho ht =>
    have := (between_clash (base.drop b) (ours.drop o) (theirs.drop t)).1
    omega
  | @more b o t i x y n l hz hn hb ho ht hi hx hy he hf h ih =>
    obtain ⟨c1, c2, c3, _⟩ := between_clash (sliceF base b i) (sliceF ours o x) (sliceF theirs t y)
    have h4 : clashN (⟨1, sliceF base i (i + n), sliceF base i (i + n), sliceF base i (i + n)⟩ :: l) = clashN l := rfl
    rw [clashN_app, h4]
    obtain ⟨zx, zy⟩ := zip_at (by simpa using hz 0 hn : (xs.zip ys)[i]? = some (some x, some y))
    obtain ⟨wx, wy⟩ := zip_at (by have := hz (n - 1) (by omega); exact this : (xs.zip ys)[i + (n - 1)]? = some (some (x + (n - 1)), some (y + (n - 1))))
    have n1 : i + n < P → x + n = i + n := fun e => by have := A.low _ _ wx (by omega); omega
    have n2 : i + n < Q → y + n = i + n := fun e => by have := B.low _ _ wy (by omega); omega
    by_cases hP : i < P
    · have hx0 := A.low _ _ zx hP
      have ho0 := h1 (by omega)
      have : clashN (betweenF (sliceF base b i) (sliceF ours o x) (sliceF theirs t y)) = 0 := c2 (by rw [hx0, ho0]; exact slice_same A.same (by omega))
      rw [this, Nat.zero_add]
      exact ih n1 n2
    · by_cases hQ : i < Q
      · have hy0 := B.low _ _ zy hQ
        have ht0 := h2 (by omega)
        have : clashN (betweenF (sliceF base b i) (sliceF ours o x) (sliceF theirs t y)) = 0 := c3 (by rw [hy0, ht0]; exact slice_same B.same (by omega))
        rw [this, Nat.zero_add]
        exact ih n1 n2
      · obtain ⟨u1, u2, u3⟩ := A.high _ _ zx (by omega)
        obtain ⟨v1, v2, v3⟩ := B.high _ _ zy (by omega)
        have := h.few
        omega
theorem chunks_bound (base ours theirs : List ByteArray) : clashN (chunksF base ours theirs) ≤ 241 :=
  (chunks_pieces base ours theirs).bound (place_ahead base ours) (place_ahead base theirs) (fun _ => rfl) (fun _ => rfl)

/-! ### how long the text is -/
def bytesF (l : List ByteArray) : Nat := (catF l).length
theorem catF_app (l m : List ByteArray) : catF (l ++ m) = catF l ++ catF m := by simp [catF]
theorem ended_len (s : Bs) : (endedF s).length ≤ s.length + 1 := by
  unfold endedF
  split
  · omega
  · simp
theorem clashText_len (out : Bs) (c : KV) : (clashTextF out c).length ≤ out.length + (bytesF c.base + bytesF c.ours + bytesF c.theirs) + if c.kind = 5 then 53 else 0 := by
  unfold clashTextF
  by_cases h : c.kind = 5
  · rw [if_neg (by simp [h]), if_pos h]
    have e1 := ended_len out
    have e2 := ended_len (endedF out ++ markO ++ catF c.ours)
    have e3 := ended_len (endedF (endedF out ++ markO ++ catF c.ours) ++ markB ++ catF c.base)
    have e4 := ended_len (endedF (endedF (endedF out ++ markO ++ catF c.ours) ++ markB ++ catF c.base) ++ markT ++ catF c.theirs)
    simp only [List.length_append] at e2 e3 e4 ⊢
    have m1 : markO.length = 13 := rfl
    have m2 : markB.length = 13 := rfl
    have m3 : markT.length = 8 := rfl
    have m4 : markE.length = 15 := rfl
    unfold bytesF
    omega
  · rw [if_pos h, if_neg h, List.length_append]
    have : (catF (mergedF [c])).length ≤ bytesF c.ours + bytesF c.theirs := by
      unfold mergedF
      rw [List.flatMap_cons, List.flatMap_nil, List.append_nil]
      unfold bytesF
      split <;> omega
    omega
theorem fold_len : ∀ (l : List KV) (out : Bs), (l.foldl clashTextF out).length ≤ out.length + (bytesF (l.flatMap KV.base) + bytesF (l.flatMap KV.ours) + bytesF (l.flatMap KV.theirs)) + 53 * clashN l
  | [], out => by rw [List.foldl_nil]; omega
  | c :: l, out => by
    rw [List.foldl_cons]
    have h1 := fold_len l (clashTextF out c)
    have h2 := clashText_len out c
    have h3 : clashN (c :: l) = (if c.kind = 5 then 1 else 0) + clashN l := by
      unfold clashN
      rw [List.filter_cons]
      by_cases h : c.kind = 5
      · rw [if_pos (decide_eq_true h), if_pos h, List.length_cons]; omega
      · rw [if_neg (by simp [h]), if_neg h]; omega
    have h4 : ∀ (f : KV → List ByteArray), bytesF ((c :: l).flatMap f) = bytesF (f c) + bytesF (l.flatMap f) := fun f => by
      unfold bytesF; rw [List.flatMap_cons, catF_app, List.length_append]
    rw [h4, h4, h4, h3]
    split at h2
    · rename_i h; rw [if_pos h]; omega
    · rename_i h; rw [if_neg h]; omega
theorem cat_lines (s : ByteArray) : catF (linesF s) = s.data.toList := by
  have h := join_lines s
  have : (joinF (linesF s)).data.toList = s.data.toList := by rw [h]
  rw [← this]
  simp [joinF, ofB, catF]
theorem ofB_size (l : Bs) : (ofB l).size = l.length := by show l.toArray.size = _; simp
theorem size_list (s : ByteArray) : s.data.toList.length = s.size := rfl
theorem merge3_len (b o t : ByteArray) : (merge3F b o t).1.size ≤ b.size + o.size + t.size + 12773 := by
  obtain ⟨s1, s2, s3⟩ := chunks_sides (linesF b) (linesF o) (linesF t)
  have hb := chunks_bound (linesF b) (linesF o) (linesF t)
  rw [merge3F]
  split
  · show (joinF (mergedF _)).size ≤ _
    have h : ∀ l : List KV, (catF (mergedF l)).length ≤ bytesF (l.flatMap KV.ours) + bytesF (l.flatMap KV.theirs) := by
      intro l
      induction l with
      | nil => simp [mergedF, catF]
      | cons c l ih =>
        unfold mergedF at ih ⊢
        have h4 : ∀ (f : KV → List ByteArray), bytesF ((c :: l).flatMap f) = bytesF (f c) + bytesF (l.flatMap f) := fun f => by
          unfold bytesF; rw [List.flatMap_cons, catF_app, List.length_append]
        rw [List.flatMap_cons, catF_app, List.length_append, h4, h4]
        unfold bytesF at ih ⊢
        split <;> omega
    have h1 := h (chunksF (linesF b) (linesF o) (linesF t))
    rw [s2, s3] at h1
    unfold bytesF at h1
    rw [cat_lines, cat_lines, size_list, size_list] at h1
    have h2 : (joinF (mergedF (chunksF (linesF b) (linesF o) (linesF t)))).size = (catF (mergedF (chunksF (linesF b) (linesF o) (linesF t)))).length := by
      exact ofB_size _
    omega
  · show (ofB _).size ≤ _
    have h1 := fold_len (chunksF (linesF b) (linesF o) (linesF t)) []
    rw [s1, s2, s3] at h1
    unfold bytesF at h1
    rw [cat_lines, cat_lines, cat_lines, size_list, size_list, size_list, List.length_nil] at h1
    have h2 : (ofB ((chunksF (linesF b) (linesF o) (linesF t)).foldl clashTextF [])).size = ((chunksF (linesF b) (linesF o) (linesF t)).foldl clashTextF []).length := by
      exact ofB_size _
    omega
end Go.Proofs.YtcemkikgaeghjaaGreatDoor
namespace Go.Proofs.YtcemkikgaeghjaaGreatDoor
open Go.RowKit

def rowC (a b : List ByteArray) (i j : Nat) : List Value := (List.range (b.length + 1)).map fun t => Value.int .i32 ((if j ≤ t then cel a b i t else 0 : Nat) : Int)
theorem rowC_len (a b : List ByteArray) (i j : Nat) : (rowC a b i j).length = b.length + 1 := by simp [rowC]
theorem rowC_get {a b : List ByteArray} {i j q : Nat} (hq : q ≤ b.length) (h : j ≤ q) : (rowC a b i j)[q]? = some (.int .i32 (cel a b i q : Nat)) := by
  rw [rowC, List.getElem?_map, List.getElem?_range (by omega), Option.map_some, if_pos h]
theorem rowC_zero {a b : List ByteArray} {i j : Nat} (h : ∀ t, t ≤ b.length → j ≤ t → cel a b i t = 0) : rowC a b i j = List.replicate (b.length + 1) (.int .i32 0) := by
  refine List.ext_getElem (by simp [rowC]) fun t h1 h2 => ?_
  rw [rowC_len] at h1
  simp only [rowC, List.getElem_map, List.getElem_range, List.getElem_replicate]
  split
  · rw [h t (by omega) (by assumption)]; rfl
  · rfl
theorem rowC_start (a b : List ByteArray) (i : Nat) : rowC a b i b.length = List.replicate (b.length + 1) (.int .i32 0) :=
  rowC_zero fun t h1 h2 => by rw [show t = b.length by omega]; exact cel_far a b i
theorem rowC_last (a b : List ByteArray) : rowC a b a.length 0 = List.replicate (b.length + 1) (.int .i32 0) :=
  rowC_zero fun t _ _ => cel_last a b t
theorem rowC_set (a b : List ByteArray) {i j : Nat} : (rowC a b i (j + 1)).set j (.int .i32 (cel a b i j : Nat)) = rowC a b i j := by
  refine List.ext_getElem (by simp [rowC]) fun t h1 h2 => ?_
  rw [List.getElem_set]
  simp only [rowC, List.getElem_map, List.getElem_range]
  split
  · rename_i h; subst h; rw [if_pos (Nat.le_refl _)]
  · rename_i h
    by_cases h3 : j ≤ t
    · rw [if_pos (by omega), if_pos h3]
    · rw [if_neg (by omega), if_neg h3]

structure Rows2 (w : World) (B g h M : Nat) (xs ys : List Value) : Prop where
  o1 : w.ownsRow B 21 1 (.slice (some ⟨g, 0, none⟩) M M) M xs
  o2 : w.ownsRow B 21 1 (.slice (some ⟨h, 0, none⟩) M M) M ys
  ne : g ≠ h
theorem i32_cell {w : World} {B g M k : Nat} {xs : List Value} {u : Value} (h : w.ownsRow B 21 1 (.slice (some ⟨g, 0, none⟩) M M) M xs) (hu : xs[k]? = some u) : w.cell? ⟨g, k, none⟩ = some u := by
  rw [h.cellAt k (by rw [← h.1]; exact (List.getElem?_eq_some_iff.1 hu).1), hu]
section
variable {w w' : World} {B g h M : Nat} {xs ys : List Value}
theorem Rows2.drew (H : Rows2 w B g h M xs ys) : Rows2 w.drew B g h M xs ys := ⟨H.o1.drew, H.o2.drew, H.ne⟩
theorem Rows2.store (H : Rows2 w B g h M xs ys) (k : Nat) (u : Value) : Rows2 (w.setCell ⟨h, k, none⟩ u) B g h M xs (ys.set k u) :=
  ⟨ownsRow_setCell_other H.o1 (fun e => H.ne (by simpa [Value.ownBlock] using e)) u, (H.o2.stored k u).1, H.ne⟩
end

set_option maxRecDepth 100000 in
set_option maxHeartbeats 8000000 in
theorem common_any {A B : Option Addr} {n ca m cb : Nat} {a b : List ByteArray} {w : World} (hn : n ≤ 400) (hm : m ≤ 400) (ha : Rd w w.heap.size 1 A n ca (a.map .string)) (hb : Rd w w.heap.size 1 B m cb (b.map .string)) :
    Calls Tryz.prog 154 #[.slice A n ca, .slice B m cb] w fun e w' => e = .returned (.int .i64 (lcs a b)) ∧ Below w.heap.size w w' := by
  have HA := Lib.hid (show a.length = n by have := ha.len; simpa using this)
  have HB := Lib.hid (show b.length = m by have := hb.len; simpa using this)
  have hca := ha.cap
  have hcb := hb.cap
  have hB := begin_any (w := w) (by omega) (by omega) ha hb
  go_enter Tryz.func154, Tryz.ntmps154
  go_wp2_with fail
  refine hB.mono ?_
  rintro e w1 ⟨rfl, hb1⟩
  clear hB
  have hp := pfx_le a b
  rw [HA.out, HB.out] at hp
  obtain ⟨hp1, hp2⟩ := hp
  have HPT := Lib.hid (pfx_take a b)
  have HFIN := Lib.hid (fun (q : Nat) => lcs_parts a b (pfx a b) q (pfx_take a b) (pfx_le a b).1 (pfx_le a b).2)
  generalize pfx a b = P at *
  have HW1 := Lib.hid hb1; clear hb1
  go_wp2
  refine wp_region_q (fun w' => Below w.heap.size w w') (qs 8) mixed (by kernel_rfl) HW1.out.drew ?_
  intro T M Q hT hT' hM hQ
  clear hM
  simp only [qcmp]
  simp (maxSteps := 5000000) only [↓qpre, qpost, qfacts, qnorm]
  (repeat (refine And.intro (by first | omega | (unfold inI64; omega)) ?_))
  refine hQ _ _ ?_
  clear hQ hT hT'
  have HW2 := Lib.hid HW1.out.drew
  have hra := ha.cut1 (l := P) (k := n) hp1 (Nat.le_refl _)
  have hrb := hb.cut1 (l := P) (k := m) hp2 (Nat.le_refl _)
  rw [List.take_of_length_le (by rw [List.length_map, HA.out]; exact Nat.le_refl _), ← List.map_drop] at hra
  rw [List.take_of_length_le (by rw [List.length_map, HB.out]; exact Nat.le_refl _), ← List.map_drop] at hrb
  simp only [sliced, Nat.mul_one]
  generalize (if ca = P then A else Option.map (fun x => x.add P) A) = A1 at *
  generalize (if cb = P then B else Option.map (fun x => x.add P) B) = B1 at *
  clear HW1
  generalize w1.drew = w2 at *
  clear ha hb HA HB hca hcb HPT
  generalize a.drop P = a1 at *
  generalize b.drop P = b1 at *
  obtain ⟨n1, hn1⟩ : ∃ x, x = n - P := ⟨_, rfl⟩
  obtain ⟨m1, hm1⟩ : ∃ x, x = m - P := ⟨_, rfl⟩
  rw [← hn1] at hra ⊢
  rw [← hm1] at hrb ⊢
  have hl1 : n1 ≤ 400 := by omega
  have hl2 : m1 ≤ 400 := by omega
  have hP : P ≤ 400 := by omega
  clear hn1 hm1 hp1 hp2
  generalize ca - P = c1 at *
  generalize cb - P = c2 at *
  have HA := Lib.hid (show a1.length = n1 by have := hra.len; simpa using this)
  have HB := Lib.hid (show b1.length = m1 by have := hrb.len; simpa using this)
  have hE := end_any (w := w2) (by omega) (by omega) (hra.to HW2.out HW2.out.size) (hrb.to HW2.out HW2.out.size)
  go_wp2_with fail
  refine hE.mono ?_
  rintro e w3 ⟨rfl, hb3⟩
  clear hE
  have hq := sfx_le a1 b1
  rw [HA.out, HB.out] at hq
  obtain ⟨hq1, hq2⟩ := hq
  have HFIN2 := Lib.hid (HFIN.out (sfx a1 b1) (sfx_drop a1 b1) (by rw [HA.out]; exact hq1) (by rw [HB.out]; exact hq2))
  rw [HA.out, HB.out] at HFIN2
  clear HFIN
  generalize sfx a1 b1 = R at *
  have HW3 := Lib.hid (HW2.out.trans (hb3.mono HW2.out.size))
  clear hb3 HW2
  have i1 : (n1 : Int) - R = ((n1 - R : Nat) : Int) := by omega
  have i2 : (m1 : Int) - R = ((m1 - R : Nat) : Int) := by omega
  have hca := hra.cap
  have hcb := hrb.cap
  go_wp2
  refine wp_region_q (fun w' => Below w.heap.size w w') (qs 14) mixed (by kernel_rfl) HW3.out.drew ?_
  intro T M Q hT hT' hM hQ
  clear hM
  simp only [qcmp]
  simp (maxSteps := 5000000) only [↓qpre, qpost, qfacts, qnorm, i1, i2]
  (repeat (refine And.intro (by first | omega | (unfold inI64; omega)) ?_))
  refine hQ _ _ ?_
  clear hQ hT hT'
  have HW4 := Lib.hid HW3.out.drew
  have hra := hra.cut1 (l := 0) (k := n1 - R) (Nat.zero_le _) (by omega)
  have hrb := hrb.cut1 (l := 0) (k := m1 - R) (Nat.zero_le _) (by omega)
  rw [List.drop_zero, ← List.map_take] at hra hrb
  simp only [sliced, Nat.mul_one]
  generalize (if c1 = 0 then A1 else Option.map (fun x => x.add 0) A1) = A2 at *
  generalize (if c2 = 0 then B1 else Option.map (fun x => x.add 0) B1) = B2 at *
  clear HW3
  generalize w3.drew = w4 at *
  clear HA HB hca hcb i1 i2
  generalize a1.take (n1 - R) = a2 at *
  generalize b1.take (m1 - R) = b2 at *
  obtain ⟨n2, hn2⟩ : ∃ x, x = n1 - R - 0 := ⟨_, rfl⟩
  obtain ⟨m2, hm2⟩ : ∃ x, x = m1 - R - 0 := ⟨_, rfl⟩
  rw [← hn2] at hra ⊢
  rw [← hm2] at hrb ⊢
  have hl3 : n2 ≤ 400 := by omega
  have hl4 : m2 ≤ 400 := by omega
  have hR : R ≤ 400 := by omega
  clear hn2 hm2 hq1 hq2 hl1 hl2
  generalize c1 - 0 = c3 at *
  generalize c2 - 0 = c4 at *
  have HA := Lib.hid (show a2.length = n2 by have := hra.len; simpa using this)
  have HB := Lib.hid (show b2.length = m2 by have := hrb.len; simpa using this)
  obtain ⟨M, hM⟩ : ∃ M : Nat, m2 + 1 = M := ⟨_, rfl⟩
  have hMi : (m2 : Int) + 1 = (M : Int) := by omega
  have hws := HW4.out.size
  go_wp2_with first
    | (at_make; refine wpl_make rfl (.tmp 37) (.tmp 37) 223 rfl E_i32 w.heap.size M rfl rfl rfl rfl (by omega) (by simp only [maxLen]; omega) hws ?_; intro w5 hown5 hgrow5)
  have HB5 := Lib.hid (HW4.out.grown hgrow5 hws (fun g hg => by cases hg))
  have HO5 : Hid (w5.ownsRow w.heap.size 21 1 (.slice (some ⟨w4.heap.size, 0, none⟩) M M) M (rowC a2 b2 n2 0)) := by
    have := hown5
    rw [show List.replicate M (Value.int .i32 0) = rowC a2 b2 n2 0 by rw [← HA.out, rowC_last, HB.out, hM]] at this
    exact this
  clear hown5 hgrow5 HW4 hws
  generalize w4.heap.size = g0 at *
  go_loopw [7, 8] (fun last i wr => ∃ (j g : Nat), j ≤ n2 ∧ i = .int .i64 ((j : Int) - 1) ∧ last = .slice (some ⟨g, 0, none⟩) M M ∧ Hid (Below w.heap.size w wr) ∧ Hid (wr.ownsRow w.heap.size 21 1 (.slice (some ⟨g, 0, none⟩) M M) M (rowC a2 b2 j 0)))
      (fun _ i _ => (intOf i + 1).toNat)
  case atStart => exact ⟨n2, g0, Nat.le_refl _, rfl, rfl, HB5, HO5⟩
  case round =>
    clear HB5 HO5
    obtain ⟨j, g, hj, rfl, rfl, HW, HO⟩ := hrel
    cases j with
    | zero =>
      have HC := Lib.hid (i32_cell HO.out (k := 0) (rowC_get (Nat.zero_le _) (Nat.zero_le _)))
      have hv := cel_le a2 b2 0 0
      rw [HA.out] at hv
      have HF : Hid (lcs a b = P + R + cel a2 b2 0 0) := HFIN2
      generalize cel a2 b2 0 0 = v at *
      have c0 : wr.cell? ⟨g, 0, none⟩ = some (.int .i32 v) := HC.out
      have hM1 : 0 < M := by omega
      go_wp2
      go_ret
      exact ⟨by rw [HF.out]; push_cast; rfl, HW.out⟩
    | succ j =>
      rw [show ((j + 1 : Nat) : Int) - 1 = (j : Int) from by omega]
      obtain ⟨ba, oa, x, rfl, hba, hax, hacell⟩ := hra.str (k := j) (by omega)
      have HX := Lib.hid hax
      clear hax
      have hws := HW.out.size
      go_wp2_with first
        | (at_make; refine wpl_make rfl (.tmp 48) (.tmp 48) 223 rfl E_i32 w.heap.size M rfl rfl rfl rfl (by omega) (by simp only [maxLen]; omega) hws ?_; intro w6 hown6 hgrow6)
      have HB6 := Lib.hid (HW.out.grown hgrow6 hws (fun g hg => by cases hg))
      have HR6 : Hid (Rows2 w6 w.heap.size g wr.heap.size M (rowC a2 b2 (j + 1) 0) (rowC a2 b2 j m2)) := by
        refine ⟨HO.out.kept hgrow6 (.inr (by simp [Value.ownBlock])), ?_, Nat.ne_of_lt (HO.out.lt g rfl).2⟩
        rw [show rowC a2 b2 j m2 = List.replicate M (Value.int .i32 0) by rw [← HB.out, rowC_start, HB.out, hM]]
        exact hown6
      have hgh : w.heap.size ≤ wr.heap.size := hws
      clear hown6 hgrow6 HO
      generalize wr.heap.size = h at *
      go_loopw [10] (fun k wr2 => ∃ q : Nat, q ≤ m2 ∧ k = .int .i64 ((q : Int) - 1) ∧ Hid (Below w.heap.size w wr2) ∧ Hid (Rows2 wr2 w.heap.size g h M (rowC a2 b2 (j + 1) 0) (rowC a2 b2 j q)))
          (fun k _ => (intOf k + 1).toNat)
      case atStart => exact ⟨m2, Nat.le_refl _, rfl, HB6, HR6⟩
      case round =>
        clear HB6 HR6 HW
        rename_i wr0
        obtain ⟨q, hq, rfl, HW, HR⟩ := hrel
        cases q with
        | zero =>
          go_wp2
          go_roundw
          case rel => exact ⟨j, h, by omega, by go_num, rfl, HW, Lib.hid HR.out.o2⟩
          case measure => simp [intOf]
        | succ q =>
          rw [show ((q + 1 : Nat) : Int) - 1 = (q : Int) from by omega]
          obtain ⟨bb, ob, y, rfl, hbb, hby, hbcell⟩ := hrb.str (k := q) (by omega)
          have HY := Lib.hid hby; clear hby
          have hstep := cel_step HX.out HY.out
          have HS : Hid (cel a2 b2 (j + 1) (q + 1) ≤ 400 ∧ cel a2 b2 (j + 1) q ≤ 400 ∧ cel a2 b2 j (q + 1) ≤ 400) := by
            have h1 := cel_le a2 b2 (j + 1) (q + 1)
            have h2 := cel_le a2 b2 (j + 1) q
            have h3 := cel_le a2 b2 j (q + 1)
            have := HA.out
            exact ⟨by omega, by omega, by omega⟩
          have hlb : b2.length = m2 := HB.out
          have gD := (rowC_get (a := a2) (b := b2) (i := j + 1) (j := 0) (q := q + 1) (by omega) (Nat.zero_le _))
          have gL := (rowC_get (a := a2) (b := b2) (i := j + 1) (j := 0) (q := q) (by omega) (Nat.zero_le _))
          have gR := (rowC_get (a := a2) (b := b2) (i := j) (j := q + 1) (q := q + 1) (by omega) (Nat.le_refl _))
          have hset := rowC_set a2 b2 (i := j) (j := q)
          have hcur : ∃ u, (rowC a2 b2 j (q + 1))[q]? = some u := ⟨_, List.getElem?_eq_getElem (by rw [rowC_len]; omega)⟩
          obtain ⟨u, hu⟩ := hcur
          have HSET := Lib.hid hset
          have HU := Lib.hid (i32_cell HR.out.o2 hu)
          have HD := Lib.hid (i32_cell HR.out.o1 gD)
          have HL := Lib.hid (i32_cell HR.out.o1 gL)
          have HRR := Lib.hid (i32_cell HR.out.o2 gR)
          have HFZ := Lib.hid (HR.out.o2.frozenAt q)
          clear gD gL gR hset hu hlb
          have hqM : q + 1 < M := by omega
          go_wp2
          refine wp_region_q (fun w' => Below w.heap.size w w') (qs 9) mixed (by kernel_rfl) HW.out.drew ?_
          intro T M0 Q hT hT' hM hQ
          have m0 : M0 ⟨ba, oa + j, none⟩ = some (.string x) := hM _ _ fun w' hw => (hw.cell (p := ⟨ba, oa + j, none⟩) hba).trans hacell
          have m1 : M0 ⟨bb, ob + q, none⟩ = some (.string y) := hM _ _ fun w' hw => (hw.cell (p := ⟨bb, ob + q, none⟩) hbb).trans hbcell
          clear hM
          simp only [qcmp]
          by_cases hxy : x = y
          · have e1 : (x.toList == y.toList) = true := by rw [hxy]; exact beq_self_eq_true _
            rw [if_pos hxy] at hstep
            simp (maxSteps := 5000000) only [↓qpre, qpost, qfacts, qnorm, m0, m1]
            (repeat (refine And.intro (by first | omega | (unfold inI64; omega)) ?_))
            refine hQ _ _ ?_
            clear hQ hT hT' m0 m1 e1
            have e9 : ((cel a2 b2 j q : Nat) : Int) = ((cel a2 b2 (j + 1) (q + 1) : Nat) : Int) + 1 := by rw [hstep]; push_cast; rfl
            have hst := HR.out.drew.store q (.int .i32 (cel a2 b2 j q : Nat))
            rw [HSET.out, e9] at hst
            have HST := Lib.hid hst
            clear hst e9 hstep
            have c0 : wr.drew.cell? ⟨g, q + 1, none⟩ = some (.int .i32 (cel a2 b2 (j + 1) (q + 1) : Nat)) := HD.out
            have c1 : wr.drew.cell? ⟨h, q, none⟩ = some u := HU.out
            have c2 : wr.drew.frozen? ⟨h, q, none⟩ = false := HFZ.out
            have hv : cel a2 b2 (j + 1) (q + 1) ≤ 400 := HS.out.1
            have T1 : ∀ z : Nat, ((z : Int) + 1).toNat = z + 1 := fun z => by omega
            generalize cel a2 b2 (j + 1) (q + 1) = v1 at *
            have HW7 : Hid (Below w.heap.size w (wr.drew.setCell ⟨h, q, none⟩ (.int .i32 ((v1 : Int) + 1)))) := Lib.hid (HW.out.drew.setCell (p := ⟨h, q, none⟩) hgh _)
            clear HD HL HRR HU HFZ HR HW HSET HS
            go_wp2
            go_roundw
            case rel => exact ⟨q, by omega, by go_num, HW7, HST⟩
            case measure => simp [intOf]
          · have e1 := ba_ne hxy
            rw [if_neg hxy] at hstep
            simp (maxSteps := 5000000) only [↓qpre, qpost, qfacts, qnorm, m0, m1]
            (repeat (refine And.intro (by first | omega | (unfold inI64; omega)) ?_))
            refine hQ _ _ ?_
            clear hQ hT hT' m0 m1 e1
            have e9 : ((cel a2 b2 j q : Nat) : Int) = max ((cel a2 b2 (j + 1) q : Nat) : Int) ((cel a2 b2 j (q + 1) : Nat) : Int) := by rw [hstep]; omega
            have hst := HR.out.drew.drew.store q (.int .i32 (cel a2 b2 j q : Nat))
            rw [HSET.out, e9] at hst
            have HST := Lib.hid hst
            clear hst e9 hstep
            have T1 : ∀ z : Nat, ((z : Int) + 1).toNat = z + 1 := fun z => by omega
            go_wp2
            refine wp_region_l (fun w' => ∀ p : Addr, w'.cell? p = wr.cell? p) (qs 13) [13] mixed (by kernel_rfl) (fun p => rfl) ?_
            intro T M0 Q Q2 hT hT' hM hQ hQ2
            have m0 : M0 ⟨g, q, none⟩ = some (.int .i32 (cel a2 b2 (j + 1) q : Nat)) := hM _ _ fun w' hw => (hw _).trans HL.out
            have m1 : M0 ⟨h, q + 1, none⟩ = some (.int .i32 (cel a2 b2 j (q + 1) : Nat)) := hM _ _ fun w' hw => (hw _).trans HRR.out
            clear hM
            simp only [qcmp]
            simp (maxSteps := 5000000) only [↓qpre, qpost, qfacts, qnorm, m0, m1, T1]
            (repeat (refine And.intro (by first | omega | (unfold inI64; omega)) ?_))
            refine hQ _ _ ?_
            simp only [lates, List.map, qcmp]
            simp (maxSteps := 5000000) only [qpost]
            have hcs : (wr.drew.drew.cell? ⟨h, q, none⟩).isSome = true := congrArg Option.isSome HU.out
            refine eff_store (v := .int .i32 (max ((cel a2 b2 (j + 1) q : Nat) : Int) ((cel a2 b2 j (q + 1) : Nat) : Int))) (b := h) (o := q) (by kernel_rfl) rfl rfl hcs HFZ.out rfl ⟨trivial, ?_⟩
            simp (maxSteps := 5000000) only [qpost]
            refine hQ2 _ _ ?_
            have HW7 := Lib.hid (HW.out.drew.drew.setCell (p := ⟨h, q, none⟩) hgh (.int .i32 (max ((cel a2 b2 (j + 1) q : Nat) : Int) ((cel a2 b2 j (q + 1) : Nat) : Int))))
            clear hQ hQ2 hT hT' m0 m1 hcs HD HL HRR HU HFZ HR HW HSET HS
            go_wp2
            go_roundw
            case rel => exact ⟨q, by omega, by go_num, HW7, HST⟩
            case measure => simp [intOf]
end Go.Proofs.YtcemkikgaeghjaaGreatDoor
