/- Walk: Own and Kept, of strings and of edits. -/
import Derived.Test.YtabiegbbbljhlaaW18
import Derived.OwnWalk
namespace Go.Proofs.Ytabiegbbbljhlaa
open Go.RowKit

theorem wpl_make0 {P : Program} {w : World} {a : Act} {ops : Array Oper} {rest : List Oper} {o : Oper} {Q : Exit → Act → World → Prop} (hgd : o.guard = none) (l c : Operand) (t : TypeId)
    (ho : o.op = .makeSlice t l c) {e : TypeId} {size bytes : Nat} (E : Elem P t e size bytes) (base n : Nat)
    {C : Int} (hl : a.eval l = .int .i64 0) (hc : a.eval c = .int .i64 C) (hC : C = (n : Int)) (hb : bytes * n ≤ 281474976710656) (h63 : n ≤ maxLen) (hbase : base ≤ w.heap.size)
    (hK : ∀ w', w'.ownsRow base e size (.slice (some ⟨w.heap.size, 0, none⟩) 0 n) 0 [] → w.grownBy w' none → wpList P ops Q rest (a.put o.dst (.slice (some ⟨w.heap.size, 0, none⟩) 0 n)) w') :
    wpList P ops Q (o :: rest) a w := by
  obtain ⟨i, z, hi, hz, hsz, hby, hzs⟩ := E.row
  exact wpList_make_own w hgd l c t ho base e i z size E.und hi hz hsz .i64 .i64 C n hl hc hC (by rw [hby]; exact hb) h63 hbase hK
theorem wpl_fits {P : Program} {w : World} {ops : Array Oper} {rest : List Oper} {o : Oper} {a : Act} {Q : Exit → Act → World → Prop} (hgd : o.guard = none) (s x : Operand) (t : TypeId)
    (ho : o.op = .call { callee := .builtin .append, args := #[s, x], argTypes := #[t, t] }) {e : TypeId} {size bytes : Nat} (E : Elem P t e size bytes) {base : Nat}
    {g k cap : Nat} {xs : List Value} {B : Nat} {A : Option Addr} {m c : Nat} {news : List Value}
    (hs : a.eval s = .slice (some ⟨g, 0, none⟩) k cap) (hx : a.eval x = .slice A m c) (hown : w.ownsRow base e size (.slice (some ⟨g, 0, none⟩) k cap) k xs) (hr : Rd w B size A m c news) (h1 : ∀ u ∈ news, u.oneCell' = true)
    (hroom : k + m ≤ cap)
    (hK : ∀ w', w'.ownsRow base e size (.slice (some ⟨g, 0, none⟩) (k + m) cap) (k + m) (xs ++ news) → w.grownBy w' (some g) → wpList P ops Q rest (a.put o.dst (.slice (some ⟨g, 0, none⟩) (k + m) cap)) w') :
    wpList P ops Q (o :: rest) a w := by
  obtain ⟨i, z, hi, hz, hsz, hby, hzs⟩ := E.row
  rcases Nat.eq_zero_or_pos m with rfl | hm
  · have hn : news = [] := List.eq_nil_of_length_eq_zero (by simpa using hr.len)
    subst hn
    cases A with
    | some ad => exact wpList_append_fits w hgd s x t ho base e i size E.und hi hsz g k cap xs hs hown ad 0 c [] hx (by simp) (by simp) h1 hroom hK
    | none =>
      refine wpList_plain hgd fun K hK' => ?_
      have hk : k ≤ cap := by omega
      unfold Oper.wp
      have hrun : (Builtin.append_ #[t, t] o.type #[.slice (some ⟨g, 0, none⟩) k cap, .slice none 0 c]).run P w = .ok (.slice (some ⟨g, 0, none⟩) k cap) w := by
        simp [Builtin.append_, run_underlying E.und, sizeOf, typeInfo, hi, Builtin.lenOf, Builtin.firstCells, hk, storeCells]
      simp [execOp, ho, resolve, invoke, builtin, hs, hx, hrun, Result.andThen]
      exact hK' _ _ (by simpa using hK w (by simpa using hown) (World.grownBy.refl _ _))
  · obtain ⟨b, o', rfl, _, hc⟩ := hr.at_ hm
    exact wpList_append_fits w hgd s x t ho base e i size E.und hi hsz g k cap xs hs hown ⟨b, o', none⟩ m c news hx hr.len (fun j u hu => by
      have hadd : (⟨b, o', none⟩ : Addr).add j = ⟨b, o' + j, none⟩ := by unfold Addr.add; split <;> simp_all
      rw [hadd]; exact hc j u hu) h1 hroom hK
/-- The whole row, up to its capacity. -/
theorem ownsRow_whole {w : World} {base : Nat} {e : TypeId} {size g n cap : Nat} {xs : List Value} (h : w.ownsRow base e size (.slice (some ⟨g, 0, none⟩) n cap) n xs) :
    ∃ ys, ys.length = (cap - n) * size ∧ w.ownsRow base e size (.slice (some ⟨g, 0, none⟩) cap cap) cap (xs ++ ys) := by
  rcases h.2 with ⟨h', _⟩ | ⟨g', cap', cur, h', hb, hg, hnc, hcm, hcs, htake⟩
  · simp at h'
  · simp only [Value.slice.injEq, Option.some.injEq, Addr.mk.injEq, and_true, true_and] at h'
    obtain ⟨rfl, rfl⟩ := h'
    refine ⟨cur.toList.drop (n * size), ?_, ?_, .inr ⟨g, cap, cur, rfl, hb, hg, Nat.le_refl _, hcm, hcs, ?_⟩⟩
    · rw [List.length_drop, Array.length_toList, hcs, Nat.sub_mul]
    · rw [← htake, List.take_append_drop, Array.length_toList, hcs]
    · rw [← htake, List.take_append_drop, List.take_of_length_le (by rw [Array.length_toList, hcs]; exact Nat.le_refl _)]

theorem set_at {p r : List Value} {y c : Value} {j : Nat} (hj : p.length = j) : (p ++ y :: r).set j c = p ++ c :: r := by
  subst hj
  rw [List.set_append_right _ _ (Nat.le_refl _), Nat.sub_self]
  rfl
theorem set_fill {xs ys : List Value} {X : Value} {n k : Nat} (hx : xs.length = n) (hk : k < ys.length) : (xs ++ (List.replicate k X ++ ys.drop k)).set (n + k) X = xs ++ (List.replicate (k + 1) X ++ ys.drop (k + 1)) := by
  rw [List.drop_eq_getElem_cons hk, ← List.append_assoc, set_at (by simp [hx]), List.replicate_succ']
  simp

/-- A copy of its own, with three places more behind it that hold x. -/
def OwnIs (e : TypeId) (sz n : Nat) (xs x : List Value) (w : World) (en : Ending) (w' : World) : Prop :=
  ∃ g, en = .returned (.slice (some ⟨g, 0, none⟩) n (n + 3)) ∧ w'.ownsRow w.heap.size e sz (.slice (some ⟨g, 0, none⟩) (n + 3) (n + 3)) (n + 3) (xs ++ (x ++ (x ++ x))) ∧ Below w.heap.size w w'

set_option maxRecDepth 100000 in
set_option maxHeartbeats 4000000 in
theorem ownS_any {A : Option Addr} {n c : Nat} {l : List ByteArray} {x : ByteArray} {w : World} (hn : n ≤ 1048576) (ha : Rd w w.heap.size 1 A n c (l.map .string)) :
    Calls Try.prog 21 #[.slice A n c, .string x] w (OwnIs 9 1 n (l.map .string) [.string x] w) := by
  have HL := Lib.hid (show l.length = n by have := ha.len; simpa using this)
  go_enter Try.func21, Try.ntmps21
  go_wp2_with (first
    | (refine wpl_make0 rfl (.const (.int .i64 0)) (.tmp 10) 22 rfl E22 w.heap.size (n + 3) rfl rfl (by omega) (by omega) (by simp only [maxLen]; omega) (Nat.le_refl _) ?_; intro w1 ho1 hg1)
    | (at_builtin; refine wpl_fits rfl (.tmp 12) (.tmp 13) 22 rfl E22 rfl rfl ho1 (ha.below ((Below.refl _ _).grown hg1 (Nat.le_refl _) (fun g hg => by cases hg))) (oneCell_str _) (by omega) ?_; intro w2 ho2 hg2))
  rw [Nat.zero_add, List.nil_append] at ho2
  have hw2 : Below w.heap.size w w2 := ((Below.refl _ _).grown hg1 (Nat.le_refl _) (fun g hg => by cases hg)).grown hg2 hg1.size (fun g hg => by cases hg; exact Nat.le_refl _)
  obtain ⟨ys, hy, ho⟩ := ownsRow_whole ho2
  have hy3 : ys.length = 3 := by omega
  have HO := Lib.hid ho
  clear ho1 hg1 ho2 hg2 ho
  go_loopw [7] (fun i wr => ∃ k : Nat, k ≤ 3 ∧ i = .int .i64 ((n + k : Nat) : Int) ∧ Hid (wr.ownsRow w.heap.size 9 1 (.slice (some ⟨w.heap.size, 0, none⟩) (n + 3) (n + 3)) (n + 3) (l.map .string ++ (List.replicate k (.string x) ++ ys.drop k))) ∧ Below w.heap.size w wr)
      (fun i _ => n + 3 - (intOf i).toNat)
  case atStart => exact ⟨0, by omega, rfl, HO, hw2⟩
  case round =>
    clear HO
    obtain ⟨k, hk, rfl, HO, hbw⟩ := hrel
    by_cases hlt : k < 3
    · have c0 : (wr.cell? ⟨w.heap.size, n + k, none⟩) = some (ys[k]'(by omega)) := by
        rw [HO.out.cellAt (n + k) (by omega), List.getElem?_append_right (by rw [List.length_map, HL.out]; omega), List.length_map, HL.out, Nat.add_sub_cancel_left, List.getElem?_append_right (by simp), List.length_replicate, Nat.sub_self, List.getElem?_drop, Nat.add_zero, List.getElem?_eq_getElem]
      have f0 : (wr.frozen? ⟨w.heap.size, n + k, none⟩) = false := HO.out.frozenAt _
      obtain ⟨s1, s2⟩ := HO.out.stored (n + k) (.string x)
      rw [set_fill (by rw [List.length_map, HL.out]) (by omega)] at s1
      have HS := Lib.hid s1
      have hbw' : Below w.heap.size w (wr.setCell ⟨w.heap.size, n + k, none⟩ (.string x)) := hbw.grown s2 hbw.size (fun g hg => by cases hg; exact Nat.le_refl _)
      clear s1 s2
      go_wp2
      refine ⟨⟨k + 1, by omega, by go_num, HS, hbw'⟩, by simp [intOf]; omega⟩
    · obtain rfl : k = 3 := by omega
      have HE := Lib.hid (show wr.ownsRow w.heap.size 9 1 (.slice (some ⟨w.heap.size, 0, none⟩) (n + 3) (n + 3)) (n + 3) (l.map .string ++ ([.string x] ++ ([.string x] ++ [.string x]))) from by
        have := HO.out
        rw [List.drop_of_length_le (by omega), List.append_nil] at this
        exact this)
      go_wp2
      go_ret
      exact ⟨w.heap.size, rfl, HE.out, hbw⟩

theorem E33e : Elem Try.prog 33 37 2 24 := elem_of (by kernel_rfl)
theorem oneCell_ev (l : List EV) : ∀ u ∈ l.flatMap EV.cells, u.oneCell' = true := by
  intro u hu
  obtain ⟨e, _, he⟩ := List.mem_flatMap.1 hu
  simp only [EV.cells, List.mem_cons, List.not_mem_nil, or_false] at he
  rcases he with rfl | rfl <;> rfl
theorem ownsRow_base' {w : World} {base base' : Nat} {e : TypeId} {sz k : Nat} {v : Value} {xs : List Value} (h : w.ownsRow base e sz v k xs) (hb : base' ≤ base) : w.ownsRow base' e sz v k xs := by
  refine ⟨h.1, ?_⟩
  rcases h.2 with hn | ⟨g, cap, cur, rfl, hbg, rest⟩
  · exact .inl hn
  · exact .inr ⟨g, cap, cur, rfl, by omega, rest⟩
theorem set_fill2 {xs ys : List Value} {X Y : Value} {n k : Nat} (hx : xs.length = n) (hk : k * 2 + 1 < ys.length) :
    ((xs ++ ((List.replicate k [X, Y]).flatten ++ ys.drop (k * 2))).set (n + k * 2) X).set (n + k * 2 + 1) Y = xs ++ ((List.replicate (k + 1) [X, Y]).flatten ++ ys.drop ((k + 1) * 2)) := by
  rw [List.drop_eq_getElem_cons (by omega : k * 2 < ys.length), List.drop_eq_getElem_cons (by omega : k * 2 + 1 < ys.length), ← List.append_assoc, set_at (by simp [hx]), List.append_cons, set_at (by simp [hx]; omega)]
  rw [List.replicate_succ']
  simp [show (k + 1) * 2 = k * 2 + 1 + 1 from by omega]

/-- A store of two cells. -/
theorem wpl_store2 {P : Program} {w : World} {a : Act} {ops : Array Oper} {rest : List Oper} {o : Oper} {Q : Exit → Act → World → Prop} (hgd : o.guard = none) (t : TypeId) (x y : Operand)
    (ho : o.op = .store t x y) {b d : Nat} {u0 u1 : Value} (hi : (P.info? t).map (·.size) = some 2) (hx : a.eval x = .pointer (some ⟨b, d, none⟩)) (hy : a.eval y = .agg #[u0, u1])
    (hc0 : (w.cell? ⟨b, d, none⟩).isSome = true) (hc1 : (w.cell? ⟨b, d + 1, none⟩).isSome = true) (hf0 : w.frozen? ⟨b, d, none⟩ = false) (hf1 : w.frozen? ⟨b, d + 1, none⟩ = false)
    (h0 : u0.oneCell' = true) (h1 : u1.oneCell' = true)
    (hK : wpList P ops Q rest (a.put o.dst undef) ((w.setCell ⟨b, d, none⟩ u0).setCell ⟨b, d + 1, none⟩ u1)) : wpList P ops Q (o :: rest) a w := by
  refine wpList_plain hgd fun K hK' => ?_
  have hc : ∀ j, j < [u0, u1].length → (w.cell? ⟨b, d + 0 + j, none⟩).isSome = true := by
    intro j hj
    have : j = 0 ∨ j = 1 := by simp at hj; omega
    rcases this with rfl | rfl
    · exact hc0
    · exact hc1
  have hf : ∀ j, j < [u0, u1].length → w.frozen? ⟨b, d + 0 + j, none⟩ = false := by
    intro j hj
    have : j = 0 ∨ j = 1 := by simp at hj; omega
    rcases this with rfl | rfl
    · exact hf0
    · exact hf1
  have hr := run_storeCells_cells (P := P) b d [u0, u1] 0 w hc hf (fun u hu => by simp at hu; rcases hu with rfl | rfl <;> assumption)
  obtain ⟨i, hi1, hi2⟩ := Option.map_eq_some_iff.1 hi
  unfold Oper.wp execOp
  have hst : (storeVar t ⟨b, d, none⟩ (.agg #[u0, u1])).run P w = .ok () ((w.setCell ⟨b, d, none⟩ u0).setCell ⟨b, d + 1, none⟩ u1) := by
    simp [storeVar, sizeOf, typeInfo, hi1, hi2, Value.cells, hr, World.setCells]
  simp only [ho, hx, hy, Instr.storeAt, Instr.sureAddr, Sem.run_bind, Sem.run_pure, Result.andThen_ok, hst]
  exact hK' _ _ hK

set_option maxRecDepth 100000 in
set_option maxHeartbeats 4000000 in
theorem ownE_any {A : Option Addr} {n c : Nat} {l : List EV} {K : Int} {x : ByteArray} {w : World} (hn : n ≤ 1048576) (ha : Rd w w.heap.size 2 A n c (l.flatMap EV.cells)) :
    Calls Try.prog 22 #[.slice A n c, .agg #[.int .i64 K, .string x]] w (OwnIs 37 2 n (l.flatMap EV.cells) [.int .i64 K, .string x] w) := by
  have HL := Lib.hid (show (l.flatMap EV.cells).length = n * 2 from ha.len)
  have hB : Below w.heap.size w (w.alloc (.cells #[.int .i64 K, .string x] 37)) := (Below.refl _ _).alloc (Nat.le_refl _) _
  have hBs : (w.alloc (.cells #[.int .i64 K, .string x] 37)).heap.size = w.heap.size + 1 := by simp
  have hBh : (w.alloc (.cells #[.int .i64 K, .string x] 37)).heap[w.heap.size]? = some (.cells #[.int .i64 K, .string x] 37 (0, 0)) := heap_alloc_new _ _
  go_enter Try.func22, Try.ntmps22
  go_wp2_with (first
    | (refine wpl_make0 rfl (.const (.int .i64 0)) (.tmp 10) 33 rfl E33e (w.heap.size + 1) (n + 3) rfl rfl (by omega) (by omega) (by simp only [maxLen]; omega) (by rw [hBs]; exact Nat.le_refl _) ?_; intro w1 ho1 hg1; rw [hBs] at ho1)
    | (at_builtin; refine wpl_fits rfl (.tmp 12) (.tmp 13) 33 rfl E33e rfl rfl ho1 ((ha.to hB (by omega)).below ((Below.refl _ _).grown hg1 (Nat.le_refl _) (fun g hg => by cases hg))) (oneCell_ev _) (by omega) ?_; intro w2 ho2 hg2))
  rw [Nat.zero_add, List.nil_append] at ho2
  generalize hW : w.alloc (.cells #[.int .i64 K, .string x] 37) = W at *
  clear hW
  have hbs := hB.size
  have HBS := Lib.hid hBs
  have hw2 : Below W.heap.size W w2 := ((Below.refl _ _).grown hg1 (Nat.le_refl _) (fun g hg => by cases hg)).grown hg2 hg1.size (fun g hg => by cases hg; rw [hBs]; exact Nat.le_refl _)
  obtain ⟨ys, hy, ho⟩ := ownsRow_whole ho2
  have hy3 : ys.length = 6 := by omega
  have HO := Lib.hid ho
  clear ho1 hg1 ho2 hg2 ho hBs
  go_loopw [7] (fun i wr => ∃ k : Nat, k ≤ 3 ∧ i = .int .i64 ((n + k : Nat) : Int) ∧ Hid (wr.ownsRow (w.heap.size + 1) 37 2 (.slice (some ⟨w.heap.size + 1, 0, none⟩) (n + 3) (n + 3)) (n + 3) (l.flatMap EV.cells ++ ((List.replicate k [Value.int .i64 K, .string x]).flatten ++ ys.drop (k * 2)))) ∧ Below W.heap.size W wr)
      (fun i _ => n + 3 - (intOf i).toNat)
  case atStart => exact ⟨0, by omega, rfl, HO, hw2⟩
  case round =>
    clear HO
    obtain ⟨k, hk, rfl, HO, hbw⟩ := hrel
    by_cases hlt : k < 3
    · have hl := HL.out
      have b0 : (wr.cell? ⟨w.heap.size, 0, none⟩) = some (.int .i64 K) := by rw [cell_of_row wr _ _ _ _ _ ((hbw.block w.heap.size (by have := HBS.out; omega)).trans hBh)]; rfl
      have b1 : (wr.cell? ⟨w.heap.size, 1, none⟩) = some (.string x) := by rw [cell_of_row wr _ _ _ _ _ ((hbw.block w.heap.size (by have := HBS.out; omega)).trans hBh)]; rfl
      have c0 : (wr.cell? ⟨w.heap.size + 1, (n + k) * 2, none⟩).isSome = true := by
        rw [HO.out.cellAt _ (by omega), List.getElem?_eq_getElem (by rw [HO.out.1]; omega)]
        rfl
      have c1 : (wr.cell? ⟨w.heap.size + 1, (n + k) * 2 + 1, none⟩).isSome = true := by
        rw [HO.out.cellAt _ (by omega), List.getElem?_eq_getElem (by rw [HO.out.1]; omega)]
        rfl
      have f0 : (wr.frozen? ⟨w.heap.size + 1, (n + k) * 2, none⟩) = false := HO.out.frozenAt _
      have f1 : (wr.frozen? ⟨w.heap.size + 1, (n + k) * 2 + 1, none⟩) = false := HO.out.frozenAt _
      obtain ⟨s1, s2⟩ := HO.out.stored ((n + k) * 2) (.int .i64 K)
      obtain ⟨s3, s4⟩ := World.ownsRow.stored s1 ((n + k) * 2 + 1) (.string x)
      rw [show (n + k) * 2 = n * 2 + k * 2 by omega, set_fill2 hl (by omega)] at s3
      rw [show n * 2 + k * 2 = (n + k) * 2 by omega] at s3
      have HS := Lib.hid s3
      have hbw1 := hbw.grown s2 hbw.size (fun g hg => by cases hg; rw [HBS.out]; exact Nat.le_refl _)
      have hbw' := hbw1.grown s4 hbw1.size (fun g hg => by cases hg; rw [HBS.out]; exact Nat.le_refl _)
      clear hl s1 s2 s3 s4 hbw1
      go_wp2_with (refine wpl_store2 rfl 37 (.tmp 31) (.tmp 30) rfl (by kernel_rfl) rfl rfl c0 c1 f0 f1 rfl rfl ?_)
      refine ⟨⟨k + 1, by omega, by go_num, HS, hbw'⟩, by simp [intOf]; omega⟩
    · obtain rfl : k = 3 := by omega
      have HE := Lib.hid (show wr.ownsRow (w.heap.size + 1) 37 2 (.slice (some ⟨w.heap.size + 1, 0, none⟩) (n + 3) (n + 3)) (n + 3) (l.flatMap EV.cells ++ ([.int .i64 K, .string x] ++ ([.int .i64 K, .string x] ++ [.int .i64 K, .string x]))) from by
        have := HO.out
        rw [List.drop_of_length_le (by omega), List.append_nil] at this
        exact this)
      go_wp2
      go_ret
      exact ⟨w.heap.size + 1, rfl, ownsRow_base' HE.out (by omega), hB.trans (hbw.mono hbs)⟩

set_option maxRecDepth 100000 in
set_option maxHeartbeats 4000000 in
theorem keptS_any {A : Option Addr} {g n c BB : Nat} {l : List ByteArray} {x : ByteArray} {w : World} (hn : n ≤ 1048576) (hBB : BB ≤ w.heap.size)
    (hi : Rd w BB 1 (some ⟨g, 0, none⟩) (n + 3) (n + 3) (l.map .string ++ ([.string x] ++ ([.string x] ++ [.string x])))) (ha : Rd w BB 1 A n c (l.map .string)) :
    Calls Try.prog 31 #[.slice (some ⟨g, 0, none⟩) n (n + 3), .slice A n c, .string x] w (BoolBelow true w) := by
  have HL := Lib.hid (show l.length = n by have := ha.len; simpa using this)
  have hr : Rd w BB 1 (some ⟨g, 0, none⟩) n (n + 3) (l.map .string) := ⟨ha.len, by omega, fun h0 => by
    obtain ⟨b, o, e, hb, hc⟩ := hi.at_ (by omega)
    refine ⟨b, o, e, hb, fun j u hu => hc j u ?_⟩
    rw [List.getElem?_append_left (List.getElem?_eq_some_iff.1 hu).1]
    exact hu⟩
  obtain ⟨b0, o0, e0, hb0, hc0⟩ := hi.at_ (by omega)
  cases e0
  go_enter Try.func31, Try.ntmps31
  go_wp2_with fail
  refine (plain_any (by simp only [maxLen]; omega) (by simp only [maxLen]; omega) hBB hr ha).mono ?_
  rintro e w1 ⟨rfl, hb1⟩
  rw [decide_eq_true rfl]
  have HC := Lib.hid (show ∀ k, k < 3 → w1.cell? ⟨g, n + k, none⟩ = some (.string x) from fun k hk => by
    rw [hb1.cell (p := ⟨g, n + k, none⟩) (by show g < _; omega)]
    have := hc0 (n + k) (.string x) (by
      rw [List.getElem?_append_right (by rw [List.length_map, HL.out]; omega), List.length_map, HL.out, Nat.add_sub_cancel_left]
      obtain rfl | rfl | rfl : k = 0 ∨ k = 1 ∨ k = 2 := by omega
      all_goals rfl)
    simpa using this)
  have HB := Lib.hid hb1
  clear hc0 hb1 hr
  go_wp2
  go_loopw [8] (fun i wr => w1 = wr ∧ ∃ k : Nat, k ≤ 3 ∧ i = .int .i64 ((n + k : Nat) : Int)) (fun i _ => n + 3 - (intOf i).toNat)
  case atStart => exact ⟨rfl, 0, by omega, rfl⟩
  case round =>
    obtain ⟨rfl, k, hk, rfl⟩ := hrel
    by_cases hlt : k < 3
    · have c0 := HC.out k hlt
      go_wp2
      go_roundw
      case rel => exact ⟨trivial, k + 1, by omega, by go_num⟩
      case measure => simp [intOf]; omega
    · obtain rfl : k = 3 := by omega
      go_wp2
      go_ret
      exact ⟨rfl, HB.out⟩

theorem run_neq37 (K : Int) (x : ByteArray) (w : World) : (binOp .neq 37 (.agg #[.int .i64 K, .string x]) (.agg #[.int .i64 K, .string x])).run Try.prog w = .ok (.bool false) w := by
  go_simp
theorem eff_bin {P : Program} {S : World → Prop} {a : Act} {w : World} {K : Act → World → Prop} {dst : Option Tmp} {b : BinOp} {t t' ty : TypeId} {x y : Operand} {q : Bool} {g : Option (Tmp × Bool)} {v : Value}
    (he : (eqGuard b t x y (a.eval x) (a.eval y)).run P w = .ok () w) (hr : (binOp b t (a.eval x) (a.eval y)).run P w = .ok v w) (hK : S w ∧ K (a.put dst v) w) : effq P S ⟨q, dst, .binOp b t x y t', ty, g⟩ a w K := by
  intro p af g
  unfold Oper.wp execOp
  simp only [he, hr, Sem.run_bind, Sem.run_pure, Result.andThen_ok]
  exact hK

set_option maxRecDepth 100000 in
set_option maxHeartbeats 4000000 in
theorem keptE_any {A : Option Addr} {g n c BB : Nat} {l : List EV} {K : Int} {x : ByteArray} {w : World} (hn : n ≤ 1048576) (hBB : BB ≤ w.heap.size)
    (hi : Rd w BB 2 (some ⟨g, 0, none⟩) (n + 3) (n + 3) (l.flatMap EV.cells ++ ([.int .i64 K, .string x] ++ ([.int .i64 K, .string x] ++ [.int .i64 K, .string x])))) (ha : Rd w BB 2 A n c (l.flatMap EV.cells)) :
    Calls Try.prog 32 #[.slice (some ⟨g, 0, none⟩) n (n + 3), .slice A n c, .agg #[.int .i64 K, .string x]] w (BoolBelow true w) := by
  have HL := Lib.hid (show (l.flatMap EV.cells).length = n * 2 from ha.len)
  have hr : Rd w BB 2 (some ⟨g, 0, none⟩) n (n + 3) (l.flatMap EV.cells) := ⟨ha.len, by omega, fun h0 => by
    obtain ⟨b, o, e, hb, hc⟩ := hi.at_ (by omega)
    refine ⟨b, o, e, hb, fun j u hu => hc j u ?_⟩
    rw [List.getElem?_append_left (List.getElem?_eq_some_iff.1 hu).1]
    exact hu⟩
  obtain ⟨b0, o0, e0, hb0, hc0⟩ := hi.at_ (by omega)
  cases e0
  have hB : Below w.heap.size w (w.alloc (.cells #[.int .i64 K, .string x] 37)) := (Below.refl _ _).alloc (Nat.le_refl _) _
  have hBs : (w.alloc (.cells #[.int .i64 K, .string x] 37)).heap.size = w.heap.size + 1 := by simp
  have hBh : (w.alloc (.cells #[.int .i64 K, .string x] 37)).heap[w.heap.size]? = some (.cells #[.int .i64 K, .string x] 37 (0, 0)) := heap_alloc_new _ _
  go_enter Try.func32, Try.ntmps32
  go_wp2_with fail
  refine (plainE_any (by omega) (by omega) (by omega) (hr.below (hB.mono hBB)) (ha.below (hB.mono hBB))).mono ?_
  rintro e w1 ⟨rfl, hb1⟩
  rw [decide_eq_true rfl]
  have hw1 : Below w.heap.size w w1 := hB.trans (hb1.mono (by omega))
  have HC := Lib.hid (show ∀ k, k < 3 → w1.cell? ⟨g, (n + k) * 2, none⟩ = some (.int .i64 K) ∧ w1.cell? ⟨g, (n + k) * 2 + 1, none⟩ = some (.string x) from fun k hk => by
    rw [hw1.cell (p := ⟨g, (n + k) * 2, none⟩) (by show g < _; omega), hw1.cell (p := ⟨g, (n + k) * 2 + 1, none⟩) (by show g < _; omega)]
    have d0 := hc0 ((n + k) * 2) (.int .i64 K) (by
      rw [List.getElem?_append_right (by rw [HL.out]; omega), HL.out, show (n + k) * 2 - n * 2 = k * 2 by omega]
      obtain rfl | rfl | rfl : k = 0 ∨ k = 1 ∨ k = 2 := by omega
      all_goals rfl)
    have d1 := hc0 ((n + k) * 2 + 1) (.string x) (by
      rw [List.getElem?_append_right (by rw [HL.out]; omega), HL.out, show (n + k) * 2 + 1 - n * 2 = k * 2 + 1 by omega]
      obtain rfl | rfl | rfl : k = 0 ∨ k = 1 ∨ k = 2 := by omega
      all_goals rfl)
    exact ⟨by simpa using d0, by simpa using d1⟩)
  have hbox : w1.heap[w.heap.size]? = some (.cells #[.int .i64 K, .string x] 37 (0, 0)) := (hb1.block _ (by omega)).trans hBh
  have e0 := cell_of_row w1 w.heap.size 0 _ _ _ hbox
  have e1 := cell_of_row w1 w.heap.size 1 _ _ _ hbox
  have HE := Lib.hid (show w1.cell? ⟨w.heap.size, 0, none⟩ = some (.int .i64 K) ∧ w1.cell? ⟨w.heap.size, 1, none⟩ = some (.string x) from ⟨e0, e1⟩)
  have HB := Lib.hid hw1
  clear hc0 hb1 hr hBs hBh hB e0 e1 hbox hw1
  go_wp2
  go_loopw [8] (fun i wr => (∀ p : Addr, wr.cell? p = w1.cell? p) ∧ Below w.heap.size w wr ∧ ∃ k : Nat, k ≤ 3 ∧ i = .int .i64 ((n + k : Nat) : Int)) (fun i _ => n + 3 - (intOf i).toNat)
  case atStart => exact ⟨fun _ => rfl, HB.out, 0, by omega, rfl⟩
  case round =>
    obtain ⟨hs, hbw, k, hk, rfl⟩ := hrel
    by_cases hlt : k < 3
    · go_wp2
      refine wp_region_q (fun w' => ∀ p : Addr, w'.cell? p = w1.cell? p) (qe [5] 6) mixed (by kernel_rfl) hs ?_
      intro T M Q hT hT' hM hQ
      have m0 : M ⟨g, (n + k) * 2, none⟩ = some (.int .i64 K) := hM _ _ fun w' hw => (hw _).trans (HC.out k hlt).1
      have m1 : M ⟨g, (n + k) * 2 + 1, none⟩ = some (.string x) := hM _ _ fun w' hw => (hw _).trans (HC.out k hlt).2
      have m2 : M ⟨w.heap.size, 0, none⟩ = some (.int .i64 K) := hM _ _ fun w' hw => (hw _).trans HE.out.1
      have m3 : M ⟨w.heap.size, 1, none⟩ = some (.string x) := hM _ _ fun w' hw => (hw _).trans HE.out.2
      clear hM
      simp only [qcmp, Nat.reduceBEq]
      simp (maxSteps := 5000000) only [↓qpre, qpost, qfacts, qnorm, m0, m1, m2, m3]
      refine ⟨⟨by omega, by omega⟩, ?_⟩
      refine eff_bin (by go_simp) (run_neq37 K x _) ⟨hT _ hs, ?_⟩
      simp (maxSteps := 5000000) only [qpost, qnorm]
      refine hQ _ _ ?_
      clear hQ hT hT' m0 m1 m2 m3
      have hs' : ∀ p : Addr, wr.drew.cell? p = w1.cell? p := hs
      have hbd := hbw.drew
      go_wp2
      go_roundw
      case rel => exact ⟨hs', hbd, k + 1, by omega, by go_num⟩
      case measure => simp [intOf]; omega
    · obtain rfl : k = 3 := by omega
      go_wp2
      go_ret
      exact ⟨rfl, hbw⟩
end Go.Proofs.Ytabiegbbbljhlaa
