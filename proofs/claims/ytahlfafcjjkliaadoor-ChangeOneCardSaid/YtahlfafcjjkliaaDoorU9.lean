/- Walks: files copied, with room behind them, and held against what they were. -/
import Derived.Test.YtahlfafcjjkliaaDoorU8
import Derived.OwnWalk
namespace Go.Proofs.YtahlfafcjjkliaaDoor
open Go.RowKit

theorem wpl_make0 {P : Program} {w : World} {a : Act} {ops : Array Oper} {rest : List Oper} {o : Oper} {Q : Exit → Act → World → Prop} (hgd : o.guard = none) (l c : Operand) (t : TypeId)
    (ho : o.op = .makeSlice t l c) {e : TypeId} {size bytes : Nat} (E : Elem P t e size bytes) (base n : Nat)
    {C : Int} (hl : a.eval l = .int .i64 0) (hc : a.eval c = .int .i64 C) (hC : C = (n : Int)) (hb : bytes * n ≤ 281474976710656) (h63 : n ≤ maxLen) (hbase : base ≤ w.heap.size)
    (hK : ∀ w', w'.ownsRow base e size (.slice (some ⟨w.heap.size, 0, none⟩) 0 n) 0 [] → w.grownBy w' none → wpList P ops Q rest (a.put o.dst (.slice (some ⟨w.heap.size, 0, none⟩) 0 n)) w') :
    wpList P ops Q (o :: rest) a w := by
  obtain ⟨i, z, hi, hz, hsz, hby, hzs⟩ := E.row
  exact wpList_make_own w hgd l c t ho base e i z size E.und hi hz hsz .i64 .i64 C n hl hc hC (by rw [hby]; exact hb) h63 hbase hK
theorem wpl_fits {P : Program} {w : World} {ops : Array Oper} {rest : List Oper} {o : Oper} {a : Act} {Q : Exit → Act → World → Prop} (hgd : o.guard = none) (s x : Operand) (t : TypeId)
    (ho : o.op = .call { callee := .builtin .append, args := #[s, x], argTypes := #[t, t] }) {e : TypeId} {size bytes : Nat} (E : Elem P t e size bytes) {base : Nat}
    {g k cap : Nat} {xs : List Value} {B : Nat} {A : Option Addr} {m c : Nat} {news : List Value}
    (hs : a.eval s = .slice (some ⟨g, 0, none⟩) k cap) (hx : a.eval x = .slice A m c) (hown : w.ownsRow base e size (.slice (some ⟨g, 0, none⟩) k cap) k xs) (hr : Rd w B size A m c news) (h1 : ∀ u ∈ news, u.oneCell' = true)
    (hroom : k + m ≤ cap)
    (hK : ∀ w', w'.ownsRow base e size (.slice (some ⟨g, 0, none⟩) (k + m) cap) (k + m) (xs ++ news) → w.grownBy w' (some g) → wpList P ops Q rest (a.put o.dst (.slice (some ⟨g, 0, none⟩) (k + m) cap)) w') :
    wpList P ops Q (o :: rest) a w := by
  obtain ⟨i, z, hi, hz, hsz, hby, hzs⟩ := E.row
  rcases Nat.eq_zero_or_pos m with rfl | hm
  · have hn : news = [] := List.eq_nil_of_length_eq_zero (by simpa using hr.len)
    subst hn
    cases A with
    | some ad => exact wpList_append_fits w hgd s x t ho base e i size E.und hi hsz g k cap xs hs hown ad 0 c [] hx (by simp) (by simp) h1 hroom hK
    | none =>
      refine wpList_plain hgd fun K hK' => ?_
      have hk : k ≤ cap := by omega
      unfold Oper.wp
      have hrun : (Builtin.append_ #[t, t] o.type #[.slice (some ⟨g, 0, none⟩) k cap, .slice none 0 c]).run P w = .ok (.slice (some ⟨g, 0, none⟩) k cap) w := by
        simp [Builtin.append_, run_underlying E.und, sizeOf, typeInfo, hi, Builtin.lenOf, Builtin.firstCells, hk, storeCells]
      simp [execOp, ho, resolve, invoke, builtin, hs, hx, hrun, Result.andThen]
      exact hK' _ _ (by simpa using hK w (by simpa using hown) (World.grownBy.refl _ _))
  · obtain ⟨b, o', rfl, _, hc⟩ := hr.at_ hm
    exact wpList_append_fits w hgd s x t ho base e i size E.und hi hsz g k cap xs hs hown ⟨b, o', none⟩ m c news hx hr.len (fun j u hu => by
      have hadd : (⟨b, o', none⟩ : Addr).add j = ⟨b, o' + j, none⟩ := by unfold Addr.add; split <;> simp_all
      rw [hadd]; exact hc j u hu) h1 hroom hK
theorem ownsRow_whole {w : World} {base : Nat} {e : TypeId} {size g n cap : Nat} {xs : List Value} (h : w.ownsRow base e size (.slice (some ⟨g, 0, none⟩) n cap) n xs) :
    ∃ ys, ys.length = (cap - n) * size ∧ w.ownsRow base e size (.slice (some ⟨g, 0, none⟩) cap cap) cap (xs ++ ys) := by
  rcases h.2 with ⟨h', _⟩ | ⟨g', cap', cur, h', hb, hg, hnc, hcm, hcs, htake⟩
  · simp at h'
  · simp only [Value.slice.injEq, Option.some.injEq, Addr.mk.injEq, and_true, true_and] at h'
    obtain ⟨rfl, rfl⟩ := h'
    refine ⟨cur.toList.drop (n * size), ?_, ?_, .inr ⟨g, cap, cur, rfl, hb, hg, Nat.le_refl _, hcm, hcs, ?_⟩⟩
    · rw [List.length_drop, Array.length_toList, hcs, Nat.sub_mul]
    · rw [← htake, List.take_append_drop, Array.length_toList, hcs]
    · rw [← htake, List.take_append_drop, List.take_of_length_le (by rw [Array.length_toList, hcs]; exact Nat.le_refl _)]


/-- A copy of its own, with three places more behind it that hold x. -/
def OwnIs (e : TypeId) (sz n : Nat) (xs x : List Value) (w : World) (en : Ending) (w' : World) : Prop :=
  ∃ g, en = .returned (.slice (some ⟨g, 0, none⟩) n (n + 3)) ∧ w'.ownsRow w.heap.size e sz (.slice (some ⟨g, 0, none⟩) (n + 3) (n + 3)) (n + 3) (xs ++ (x ++ (x ++ x))) ∧ Below w.heap.size w w'
theorem fillK {xs ys fc : List Value} {n k s : Nat} (hx : xs.length = n * s) (hf : fc.length = s) (hk : (k + 1) * s ≤ ys.length) :
    (xs ++ ((List.replicate k fc).flatten ++ ys.drop (k * s))).take ((n + k) * s) ++ fc ++ (xs ++ ((List.replicate k fc).flatten ++ ys.drop (k * s))).drop ((n + k) * s + s) = xs ++ ((List.replicate (k + 1) fc).flatten ++ ys.drop ((k + 1) * s)) := by
  have h1 : (xs ++ (List.replicate k fc).flatten).length = (n + k) * s := by rw [List.length_append, hx, List.length_flatten, List.map_replicate, List.sum_replicate_nat, hf, Nat.add_mul]
  rw [← List.append_assoc, List.take_append_of_le_length (by omega), List.take_of_length_le (by omega), List.drop_append, List.drop_of_length_le (by omega), h1, List.nil_append, List.drop_drop, List.replicate_succ']
  rw [show k * s + ((n + k) * s + s - (n + k) * s) = (k + 1) * s by rw [Nat.succ_mul]; omega]
  simp

set_option maxRecDepth 100000 in
set_option maxHeartbeats 4000000 in
theorem ownF_any {A : Option Addr} {n c : Nat} {l : List FV} {f : FV} {w : World} (hn : n ≤ 1000000) (ha : Rd w w.heap.size 3 A n c (l.flatMap FV.cells)) :
    Calls Tryd.prog 13 #[.slice A n c, .agg #[.string f.path, .bool f.exec, .string f.text]] w (OwnIs 24 3 n (l.flatMap FV.cells) f.cells w) := by
  have HL := Lib.hid (show (l.flatMap FV.cells).length = n * 3 from ha.len)
  have hi24 : (Tryd.prog.info? 24).map (·.size) = some 3 := by kernel_rfl
  obtain ⟨W, hW⟩ : ∃ u, u = w.alloc (.cells #[.string f.path, .bool f.exec, .string f.text] 24) := ⟨_, rfl⟩
  have hbW : Below w.heap.size w W := by rw [hW]; exact (Below.refl _ _).alloc (Nat.le_refl _) _
  have hzW : W.heap.size = w.heap.size + 1 := by rw [hW]; simp
  have hx : ∀ i u, f.cells[i]? = some u → ∀ u', Below W.heap.size W u' → u'.cell? ⟨w.heap.size, i, none⟩ = some u := fun i u hu u' hu' =>
    (hu'.cell (p := ⟨w.heap.size, i, none⟩) (by show w.heap.size < _; omega)).trans (by rw [hW, World.cell?, heap_alloc_new]; simpa [FV.cells] using hu)
  have XB := Lib.hid hx
  clear hx
  have haW := ha.to hbW hbW.size
  have HzW := Lib.hid hzW
  clear hzW
  go_enter Tryd.func13, Tryd.ntmps13
  go_wp2_with (first
    | (rw [← hW]; refine wpl_make0 rfl (.const (.int .i64 0)) (.tmp 10) 22 rfl E_files W.heap.size (n + 3) rfl rfl (by omega) (by omega) (by simp only [maxLen]; omega) (Nat.le_refl _) ?_; intro w1 ho1 hg1; rw [HzW.out] at ho1)
    | (at_builtin; refine wpl_fits rfl (.tmp 12) (.tmp 13) 22 rfl E_files rfl rfl ho1 (haW.below ((Below.refl _ _).grown hg1 (Nat.le_refl _) (fun g hg => by cases hg))) (one_files _) (by omega) ?_; intro w2 ho2 hg2))
  rw [Nat.zero_add, List.nil_append] at ho2
  clear hW
  have hb2 : Below W.heap.size W w2 := ((Below.refl _ _).grown hg1 (Nat.le_refl _) (fun g hg => by cases hg)).grown hg2 hg1.size (fun g hg => by cases hg; have := HzW.out; omega)
  obtain ⟨ys, hy, ho⟩ := ownsRow_whole ho2
  have hyl : ys.length = 9 := by omega
  rcases ho.2 with ⟨h0, _⟩ | ⟨g, cap, cur, h0, hgb, hg, hnc, hcm, hcs, htake⟩
  · simp at h0
  simp only [Value.slice.injEq, Option.some.injEq, Addr.mk.injEq, and_true, true_and] at h0
  obtain ⟨rfl, rfl⟩ := h0
  have hcur : cur = (l.flatMap FV.cells ++ ys).toArray := by
    rw [← htake, List.take_of_length_le (by rw [Array.length_toList]; omega)]
  subst hcur
  have HG := Lib.hid hg
  clear ho1 hg1 ho2 hg2 ho hg htake hcs hy hgb
  go_loopw [7] (fun i wr => ∃ k : Nat, k ≤ 3 ∧ i = .int .i64 ((n + k : Nat) : Int) ∧ Hid (wr.heap[w.heap.size + 1]? = some (.cells (l.flatMap FV.cells ++ ((List.replicate k f.cells).flatten ++ ys.drop (k * 3))).toArray 24 (0, 0))) ∧ Below W.heap.size W wr)
      (fun i _ => n + 3 - (intOf i).toNat)
  case atStart => exact ⟨0, by omega, rfl, Lib.hid (by simpa using HG.out), hb2⟩
  case round =>
    clear HG
    obtain ⟨k, hk, rfl, HO, hbw⟩ := hrel
    by_cases hlt : k < 3
    · have x0 := XB.out 0 _ rfl wr hbw
      have x1 := XB.out 1 _ rfl wr hbw
      have x2 := XB.out 2 _ rfl wr hbw
      have hsz : (l.flatMap FV.cells ++ ((List.replicate k f.cells).flatten ++ ys.drop (k * 3))).toArray.size = (n + 3) * 3 := by
        have : f.cells.length = 3 := rfl
        simp only [List.size_toArray, List.length_append, HL.out, List.length_flatten, List.map_replicate, List.sum_replicate_nat, List.length_drop, hyl, this]
        omega
      have HS := Lib.hid (fun cs => setRow_heap wr (w.heap.size + 1) _ cs _ _ HO.out)
      have hbw' : ∀ cs, Below W.heap.size W (wr.setRow (w.heap.size + 1) cs) := fun cs => below_setRow hbw (by have := HzW.out; omega)
      have HFl := Lib.hid (fillK (ys := ys) (k := k) HL.out (show f.cells.length = 3 from rfl) (by omega))
      have HQ := Lib.hid (show ((l.flatMap FV.cells ++ ((List.replicate k f.cells).flatten ++ ys.drop (k * 3))).toArray.toList.take ((n + k) * 3) ++ #[Value.string f.path, .bool f.exec, .string f.text].toList ++ (l.flatMap FV.cells ++ ((List.replicate k f.cells).flatten ++ ys.drop (k * 3))).toArray.toList.drop ((n + k) * 3 + #[Value.string f.path, .bool f.exec, .string f.text].size)).toArray = (l.flatMap FV.cells ++ ((List.replicate (k + 1) f.cells).flatten ++ ys.drop ((k + 1) * 3))).toArray from congrArg List.toArray HFl.out)
      go_wp2_with (refine wpl_store_mid rfl 24 (.tmp 31) (.tmp 30) rfl (cs := #[.string f.path, .bool f.exec, .string f.text]) hi24 rfl rfl HO.out (by rw [hsz]; show (n + k) * 3 + 3 ≤ _; omega) (one_files [f]) ?_; rw [HQ.out])
      refine ⟨⟨k + 1, by omega, by go_num, HS.out _, hbw' _⟩, by simp [intOf]; omega⟩
    · obtain rfl : k = 3 := by omega
      have HE := Lib.hid HO.out
      have hcm' := hcm
      go_wp2
      go_ret
      refine ⟨w.heap.size + 1, rfl, ⟨?_, .inr ⟨w.heap.size + 1, n + 3, _, rfl, by omega, HE.out, Nat.le_refl _, by unfold maxLen; omega, ?_, ?_⟩⟩, hbW.trans (hbw.mono hbW.size)⟩
      · have : f.cells.length = 3 := rfl
        simp only [List.length_append, HL.out, this]; omega
      · have : f.cells.length = 3 := rfl
        simp only [List.size_toArray, List.length_append, HL.out, List.length_flatten, List.map_replicate, List.sum_replicate_nat, List.length_drop, hyl, this]; omega
      · have : f.cells.length = 3 := rfl
        rw [List.take_of_length_le (by simp only [Array.length_toList, List.size_toArray, List.length_append, HL.out, List.length_flatten, List.map_replicate, List.sum_replicate_nat, List.length_drop, hyl, this]; omega)]
        rw [List.drop_of_length_le (by omega)]
        simp [List.replicate]

theorem rd_front {w : World} {B g n k sz : Nat} {xs ys : List Value} (h : Rd w B sz (some ⟨g, 0, none⟩) (n + k) (n + k) (xs ++ ys)) (hx : xs.length = n * sz) (hk : 0 < k) : Rd w B sz (some ⟨g, 0, none⟩) n (n + k) xs :=
  ⟨hx, by omega, fun h0 => by
    obtain ⟨b, o, e, hb, hc⟩ := h.at_ (by omega)
    refine ⟨b, o, e, hb, fun j u hu => hc j u ?_⟩
    rw [List.getElem?_append_left (List.getElem?_eq_some_iff.1 hu).1]
    exact hu⟩
set_option maxRecDepth 100000 in
set_option maxHeartbeats 4000000 in
theorem keptF_any {A : Option Addr} {g n c BB : Nat} {l : List FV} {f : FV} {w : World} (hn : n ≤ 1000000) (hBB : BB ≤ w.heap.size)
    (hi : Rd w BB 3 (some ⟨g, 0, none⟩) (n + 3) (n + 3) (l.flatMap FV.cells ++ (f.cells ++ (f.cells ++ f.cells)))) (ha : Rd w BB 3 A n c (l.flatMap FV.cells)) (hln : l.length = n) :
    Calls Tryd.prog 24 #[.slice (some ⟨g, 0, none⟩) n (n + 3), .slice A n c, .agg #[.string f.path, .bool f.exec, .string f.text]] w (BoolBelow true w) := by
  have HL := Lib.hid (show (l.flatMap FV.cells).length = n * 3 from ha.len)
  have hr := rd_front (k := 3) hi ha.len (by omega)
  obtain ⟨b0, o0, e0, hb0, hc0⟩ := hi.at_ (by omega)
  cases e0
  obtain ⟨W, hW⟩ : ∃ u, u = w.alloc (.cells #[.string f.path, .bool f.exec, .string f.text] 24) := ⟨_, rfl⟩
  have hbW : Below w.heap.size w W := by rw [hW]; exact (Below.refl _ _).alloc (Nat.le_refl _) _
  have hzW : W.heap.size = w.heap.size + 1 := by rw [hW]; simp
  have hx : ∀ i u, f.cells[i]? = some u → ∀ u', Below W.heap.size W u' → u'.cell? ⟨w.heap.size, i, none⟩ = some u := fun i u hu u' hu' =>
    (hu'.cell (p := ⟨w.heap.size, i, none⟩) (by show w.heap.size < _; omega)).trans (by rw [hW, World.cell?, heap_alloc_new]; simpa [FV.cells] using hu)
  have XB := Lib.hid hx
  clear hx
  have C := plainF_any (w := W) (by omega) (by omega) (hr.to (hbW.mono hBB) (by omega)) (ha.to (hbW.mono hBB) (by omega)) hln hln
  rw [decide_eq_true (rfl : l = l)] at C
  go_enter Tryd.func24, Tryd.ntmps24
  go_wp2_with fail
  rw [← hW]
  clear hW hzW
  refine C.mono ?_
  rintro e w1 ⟨rfl, hb1⟩
  have hw1 : Below w.heap.size w w1 := hbW.trans (hb1.mono hbW.size)
  have HC := Lib.hid (show ∀ k t u, k < 3 → f.cells[t]? = some u → w1.cell? ⟨g, (n + k) * 3 + t, none⟩ = some u from fun k t u hk hu => by
    have ht : t < 3 := by have := (List.getElem?_eq_some_iff.1 hu).1; exact this
    rw [hw1.cell (p := ⟨g, (n + k) * 3 + t, none⟩) (by show g < _; omega)]
    have d0 := hc0 ((n + k) * 3 + t) u (by
      rw [List.getElem?_append_right (by rw [HL.out]; omega), HL.out, show (n + k) * 3 + t - n * 3 = k * 3 + t by omega]
      obtain rfl | rfl | rfl : k = 0 ∨ k = 1 ∨ k = 2 := by omega
      · rw [List.getElem?_append_left (by show _ < 3; omega), Nat.zero_mul, Nat.zero_add]; exact hu
      · rw [List.getElem?_append_right (by show 3 ≤ _; omega), List.getElem?_append_left (by show _ - 3 < 3; omega)]
        show f.cells[1 * 3 + t - 3]? = _
        rw [show 1 * 3 + t - 3 = t by omega]; exact hu
      · rw [List.getElem?_append_right (by show 3 ≤ _; omega), List.getElem?_append_right (by show 3 ≤ _ - 3; omega)]
        show f.cells[2 * 3 + t - 3 - 3]? = _
        rw [show 2 * 3 + t - 3 - 3 = t by omega]; exact hu)
    simpa using d0)
  have HB := Lib.hid hw1
  have HB1 := Lib.hid hb1
  clear hc0 hb1 hr hw1 C
  go_wp2
  go_loopw [8] (fun i wr => Below W.heap.size W wr ∧ (∀ p : Addr, wr.cell? p = w1.cell? p) ∧ Below w.heap.size w wr ∧ ∃ k : Nat, k ≤ 3 ∧ i = .int .i64 ((n + k : Nat) : Int)) (fun i _ => n + 3 - (intOf i).toNat)
  case atStart => exact ⟨HB1.out, fun _ => rfl, HB.out, 0, by omega, rfl⟩
  case round =>
    obtain ⟨hbx, hs, hbw, k, hk, rfl⟩ := hrel
    have HS := Lib.hid hs
    clear hs
    by_cases hlt : k < 3
    · go_wp2
      refine wp_region_q (fun w' => Below W.heap.size W w' ∧ ∀ p : Addr, w'.cell? p = w1.cell? p) [(true, 0), (true, 1), (true, 2), (true, 3), (true, 4), (false, 5)] mixed (by kernel_rfl) ⟨hbx.drew, HS.out⟩ ?_
      intro T M Q hT hT' hM hQ
      have m0 : M ⟨g, (n + k) * 3, none⟩ = some (.string f.path) := hM _ _ fun w' hw => (hw.2 _).trans (HC.out k 0 _ hlt rfl)
      have m1 : M ⟨g, (n + k) * 3 + 1, none⟩ = some (.bool f.exec) := hM _ _ fun w' hw => (hw.2 _).trans (HC.out k 1 _ hlt rfl)
      have m2 : M ⟨g, (n + k) * 3 + 2, none⟩ = some (.string f.text) := hM _ _ fun w' hw => (hw.2 _).trans (HC.out k 2 _ hlt rfl)
      have x0 : M ⟨w.heap.size, 0, none⟩ = some (.string f.path) := hM _ _ fun w' hw => XB.out 0 _ rfl w' hw.1
      have x1 : M ⟨w.heap.size, 1, none⟩ = some (.bool f.exec) := hM _ _ fun w' hw => XB.out 1 _ rfl w' hw.1
      have x2 : M ⟨w.heap.size, 2, none⟩ = some (.string f.text) := hM _ _ fun w' hw => XB.out 2 _ rfl w' hw.1
      clear hM
      simp only [qcmp, Nat.reduceBEq]
      simp (maxSteps := 5000000) only [↓qpre, qpost, qfacts, qnorm, m0, m1, m2, x0, x1, x2]
      refine ⟨⟨by omega, by omega⟩, eff_neq rfl rfl (by kernel_rfl) (eqF_run f f _) ⟨hT _ ⟨hbx.drew, HS.out⟩, ?_⟩⟩
      rw [decide_eq_true (rfl : f = f)]
      simp (maxSteps := 5000000) only [qpost, qnorm]
      refine hQ _ _ ?_
      clear hQ hT hT' m0 m1 m2 x0 x1 x2
      have hs' : ∀ p : Addr, wr.drew.cell? p = w1.cell? p := HS.out
      have HS' := Lib.hid hs'
      have hbd := hbw.drew
      have hbxd := hbx.drew
      clear hs'
      go_wp2
      go_roundw
      case rel => exact ⟨hbxd, HS'.out, hbd, k + 1, by omega, by go_num⟩
      case measure => simp [intOf]; omega
    · obtain rfl : k = 3 := by omega
      go_wp2
      go_ret
      exact ⟨rfl, hbw⟩
end Go.Proofs.YtahlfafcjjkliaaDoor
