/- Walks: a slice copied, with room behind it, and held against what it was; parents as plays draw them; few, awake. -/
import Derived.Test.YtnkboccngialiaaP8
import Derived.OwnWalk
import Derived.Test.YtnkboccngialiaaM15
namespace Go.Proofs.Ytnkboccngialiaa
open Go.RowKit

theorem wpl_make0 {P : Program} {w : World} {a : Act} {ops : Array Oper} {rest : List Oper} {o : Oper} {Q : Exit → Act → World → Prop} (hgd : o.guard = none) (l c : Operand) (t : TypeId)
    (ho : o.op = .makeSlice t l c) {e : TypeId} {size bytes : Nat} (E : Elem P t e size bytes) (base n : Nat)
    {C : Int} (hl : a.eval l = .int .i64 0) (hc : a.eval c = .int .i64 C) (hC : C = (n : Int)) (hb : bytes * n ≤ 281474976710656) (h63 : n ≤ maxLen) (hbase : base ≤ w.heap.size)
    (hK : ∀ w', w'.ownsRow base e size (.slice (some ⟨w.heap.size, 0, none⟩) 0 n) 0 [] → w.grownBy w' none → wpList P ops Q rest (a.put o.dst (.slice (some ⟨w.heap.size, 0, none⟩) 0 n)) w') :
    wpList P ops Q (o :: rest) a w := by
  obtain ⟨i, z, hi, hz, hsz, hby, hzs⟩ := E.row
  exact wpList_make_own w hgd l c t ho base e i z size E.und hi hz hsz .i64 .i64 C n hl hc hC (by rw [hby]; exact hb) h63 hbase hK
theorem wpl_fits {P : Program} {w : World} {ops : Array Oper} {rest : List Oper} {o : Oper} {a : Act} {Q : Exit → Act → World → Prop} (hgd : o.guard = none) (s x : Operand) (t : TypeId)
    (ho : o.op = .call { callee := .builtin .append, args := #[s, x], argTypes := #[t, t] }) {e : TypeId} {size bytes : Nat} (E : Elem P t e size bytes) {base : Nat}
    {g k cap : Nat} {xs : List Value} {B : Nat} {A : Option Addr} {m c : Nat} {news : List Value}
    (hs : a.eval s = .slice (some ⟨g, 0, none⟩) k cap) (hx : a.eval x = .slice A m c) (hown : w.ownsRow base e size (.slice (some ⟨g, 0, none⟩) k cap) k xs) (hr : Rd w B size A m c news) (h1 : ∀ u ∈ news, u.oneCell' = true)
    (hroom : k + m ≤ cap)
    (hK : ∀ w', w'.ownsRow base e size (.slice (some ⟨g, 0, none⟩) (k + m) cap) (k + m) (xs ++ news) → w.grownBy w' (some g) → wpList P ops Q rest (a.put o.dst (.slice (some ⟨g, 0, none⟩) (k + m) cap)) w') :
    wpList P ops Q (o :: rest) a w := by
  obtain ⟨i, z, hi, hz, hsz, hby, hzs⟩ := E.row
  rcases Nat.eq_zero_or_pos m with rfl | hm
  · have hn : news = [] := List.eq_nil_of_length_eq_zero (by simpa using hr.len)
    subst hn
    cases A with
    | some ad => exact wpList_append_fits w hgd s x t ho base e i size E.und hi hsz g k cap xs hs hown ad 0 c [] hx (by simp) (by simp) h1 hroom hK
    | none =>
      refine wpList_plain hgd fun K hK' => ?_
      have hk : k ≤ cap := by omega
      unfold Oper.wp
      have hrun : (Builtin.append_ #[t, t] o.type #[.slice (some ⟨g, 0, none⟩) k cap, .slice none 0 c]).run P w = .ok (.slice (some ⟨g, 0, none⟩) k cap) w := by
        simp [Builtin.append_, run_underlying E.und, sizeOf, typeInfo, hi, Builtin.lenOf, Builtin.firstCells, hk, storeCells]
      simp [execOp, ho, resolve, invoke, builtin, hs, hx, hrun, Result.andThen]
      exact hK' _ _ (by simpa using hK w (by simpa using hown) (World.grownBy.refl _ _))
  · obtain ⟨b, o', rfl, _, hc⟩ := hr.at_ hm
    exact wpList_append_fits w hgd s x t ho base e i size E.und hi hsz g k cap xs hs hown ⟨b, o', none⟩ m c news hx hr.len (fun j u hu => by
      have hadd : (⟨b, o', none⟩ : Addr).add j = ⟨b, o' + j, none⟩ := by unfold Addr.add; split <;> simp_all
      rw [hadd]; exact hc j u hu) h1 hroom hK
theorem ownsRow_whole {w : World} {base : Nat} {e : TypeId} {size g n cap : Nat} {xs : List Value} (h : w.ownsRow base e size (.slice (some ⟨g, 0, none⟩) n cap) n xs) :
    ∃ ys, ys.length = (cap - n) * size ∧ w.ownsRow base e size (.slice (some ⟨g, 0, none⟩) cap cap) cap (xs ++ ys) := by
  rcases h.2 with ⟨h', _⟩ | ⟨g', cap', cur, h', hb, hg, hnc, hcm, hcs, htake⟩
  · simp at h'
  · simp only [Value.slice.injEq, Option.some.injEq, Addr.mk.injEq, and_true, true_and] at h'
    obtain ⟨rfl, rfl⟩ := h'
    refine ⟨cur.toList.drop (n * size), ?_, ?_, .inr ⟨g, cap, cur, rfl, hb, hg, Nat.le_refl _, hcm, hcs, ?_⟩⟩
    · rw [List.length_drop, Array.length_toList, hcs, Nat.sub_mul]
    · rw [← htake, List.take_append_drop, Array.length_toList, hcs]
    · rw [← htake, List.take_append_drop, List.take_of_length_le (by rw [Array.length_toList, hcs]; exact Nat.le_refl _)]

theorem set_at {p r : List Value} {y c : Value} {j : Nat} (hj : p.length = j) : (p ++ y :: r).set j c = p ++ c :: r := by
  subst hj
  rw [List.set_append_right _ _ (Nat.le_refl _), Nat.sub_self]
  rfl
theorem set_fill {xs ys : List Value} {X : Value} {n k : Nat} (hx : xs.length = n) (hk : k < ys.length) : (xs ++ (List.replicate k X ++ ys.drop k)).set (n + k) X = xs ++ (List.replicate (k + 1) X ++ ys.drop (k + 1)) := by
  rw [List.drop_eq_getElem_cons hk, ← List.append_assoc, set_at (by simp [hx]), List.replicate_succ']
  simp

/-- A copy of its own, with three places more behind it that hold x. -/
def OwnIs (e : TypeId) (sz n : Nat) (xs x : List Value) (w : World) (en : Ending) (w' : World) : Prop :=
  ∃ g, en = .returned (.slice (some ⟨g, 0, none⟩) n (n + 3)) ∧ w'.ownsRow w.heap.size e sz (.slice (some ⟨g, 0, none⟩) (n + 3) (n + 3)) (n + 3) (xs ++ (x ++ (x ++ x))) ∧ Below w.heap.size w w'

set_option maxRecDepth 100000 in
set_option maxHeartbeats 4000000 in
theorem ownI_any {A : Option Addr} {n c : Nat} {l : List Int} {x : Int} {w : World} (hn : n ≤ 1048576) (ha : Rd w w.heap.size 1 A n c (l.map (.int .i64))) :
    Calls Try.prog 26 #[.slice A n c, .int .i64 x] w (OwnIs 3 1 n (l.map (.int .i64)) [.int .i64 x] w) := by
  have HL := Lib.hid (show l.length = n by have := ha.len; rw [List.length_map] at this; omega)
  go_enter Try.func26, Try.ntmps26
  go_wp2_with (first
    | (refine wpl_make0 rfl (.const (.int .i64 0)) (.tmp 10) 28 rfl E28 w.heap.size (n + 3) rfl rfl (by omega) (by omega) (by simp only [maxLen]; omega) (Nat.le_refl _) ?_; intro w1 ho1 hg1)
    | (at_builtin; refine wpl_fits rfl (.tmp 12) (.tmp 13) 28 rfl E28 rfl rfl ho1 (ha.below ((Below.refl _ _).grown hg1 (Nat.le_refl _) (fun g hg => by cases hg))) (one_ints _) (by omega) ?_; intro w2 ho2 hg2))
  rw [Nat.zero_add, List.nil_append] at ho2
  have hw2 : Below w.heap.size w w2 := ((Below.refl _ _).grown hg1 (Nat.le_refl _) (fun g hg => by cases hg)).grown hg2 hg1.size (fun g hg => by cases hg; exact Nat.le_refl _)
  obtain ⟨ys, hy, ho⟩ := ownsRow_whole ho2
  have hy3 : ys.length = 3 := by omega
  have HO := Lib.hid ho
  clear ho1 hg1 ho2 hg2 ho
  go_loopw [7] (fun i wr => ∃ k : Nat, k ≤ 3 ∧ i = .int .i64 ((n + k : Nat) : Int) ∧ Hid (wr.ownsRow w.heap.size 3 1 (.slice (some ⟨w.heap.size, 0, none⟩) (n + 3) (n + 3)) (n + 3) (l.map (.int .i64) ++ (List.replicate k (.int .i64 x) ++ ys.drop k))) ∧ Below w.heap.size w wr)
      (fun i _ => n + 3 - (intOf i).toNat)
  case atStart => exact ⟨0, by omega, rfl, HO, hw2⟩
  case round =>
    clear HO
    obtain ⟨k, hk, rfl, HO, hbw⟩ := hrel
    by_cases hlt : k < 3
    · have c0 : (wr.cell? ⟨w.heap.size, n + k, none⟩) = some (ys[k]'(by omega)) := by
        rw [HO.out.cellAt (n + k) (by omega), List.getElem?_append_right (by rw [List.length_map, HL.out]; omega), List.length_map, HL.out, Nat.add_sub_cancel_left, List.getElem?_append_right (by simp), List.length_replicate, Nat.sub_self, List.getElem?_drop, Nat.add_zero, List.getElem?_eq_getElem]
      have f0 : (wr.frozen? ⟨w.heap.size, n + k, none⟩) = false := HO.out.frozenAt _
      obtain ⟨s1, s2⟩ := HO.out.stored (n + k) (.int .i64 x)
      rw [set_fill (by rw [List.length_map, HL.out]) (by omega)] at s1
      have HS := Lib.hid s1
      have hbw' : Below w.heap.size w (wr.setCell ⟨w.heap.size, n + k, none⟩ (.int .i64 x)) := hbw.grown s2 hbw.size (fun g hg => by cases hg; exact Nat.le_refl _)
      clear s1 s2
      go_wp2
      refine ⟨⟨k + 1, by omega, by go_num, HS, hbw'⟩, by simp [intOf]; omega⟩
    · obtain rfl : k = 3 := by omega
      have HE := Lib.hid (show wr.ownsRow w.heap.size 3 1 (.slice (some ⟨w.heap.size, 0, none⟩) (n + 3) (n + 3)) (n + 3) (l.map (.int .i64) ++ ([.int .i64 x] ++ ([.int .i64 x] ++ [.int .i64 x]))) from by
        have := HO.out
        rw [List.drop_of_length_le (by omega), List.append_nil] at this
        exact this)
      go_wp2
      go_ret
      exact ⟨w.heap.size, rfl, HE.out, hbw⟩


set_option maxRecDepth 100000 in
set_option maxHeartbeats 4000000 in
theorem keptI_any {A : Option Addr} {g n c BB : Nat} {l : List Int} {x : Int} {w : World} (hn : n ≤ 1048576) (hBB : BB ≤ w.heap.size)
    (hi : Rd w BB 1 (some ⟨g, 0, none⟩) (n + 3) (n + 3) (l.map (.int .i64) ++ ([.int .i64 x] ++ ([.int .i64 x] ++ [.int .i64 x])))) (ha : Rd w BB 1 A n c (l.map (.int .i64))) :
    Calls Try.prog 33 #[.slice (some ⟨g, 0, none⟩) n (n + 3), .slice A n c, .int .i64 x] w (BoolBelow true w) := by
  have HL := Lib.hid (show l.length = n by have := ha.len; rw [List.length_map] at this; omega)
  have hr : Rd w BB 1 (some ⟨g, 0, none⟩) n (n + 3) (l.map (.int .i64)) := ⟨ha.len, by omega, fun h0 => by
    obtain ⟨b, o, e, hb, hc⟩ := hi.at_ (by omega)
    refine ⟨b, o, e, hb, fun j u hu => hc j u ?_⟩
    rw [List.getElem?_append_left (List.getElem?_eq_some_iff.1 hu).1]
    exact hu⟩
  obtain ⟨b0, o0, e0, hb0, hc0⟩ := hi.at_ (by omega)
  cases e0
  go_enter Try.func33, Try.ntmps33
  go_wp2_with fail
  refine (plainI_any (by simp only [maxLen]; omega) (by simp only [maxLen]; omega) hBB hr ha).mono ?_
  rintro e w1 ⟨rfl, hb1⟩
  rw [decide_eq_true rfl]
  have HC := Lib.hid (show ∀ k, k < 3 → w1.cell? ⟨g, n + k, none⟩ = some (.int .i64 x) from fun k hk => by
    rw [hb1.cell (p := ⟨g, n + k, none⟩) (by show g < _; omega)]
    have := hc0 (n + k) (.int .i64 x) (by
      rw [List.getElem?_append_right (by rw [List.length_map, HL.out]; omega), List.length_map, HL.out, Nat.add_sub_cancel_left]
      obtain rfl | rfl | rfl : k = 0 ∨ k = 1 ∨ k = 2 := by omega
      all_goals rfl)
    simpa using this)
  have HB := Lib.hid hb1
  clear hc0 hb1 hr
  go_wp2
  go_loopw [8] (fun i wr => w1 = wr ∧ ∃ k : Nat, k ≤ 3 ∧ i = .int .i64 ((n + k : Nat) : Int)) (fun i _ => n + 3 - (intOf i).toNat)
  case atStart => exact ⟨rfl, 0, by omega, rfl⟩
  case round =>
    obtain ⟨rfl, k, hk, rfl⟩ := hrel
    by_cases hlt : k < 3
    · have c0 := HC.out k hlt
      go_wp2
      go_roundw
      case rel => exact ⟨trivial, k + 1, by omega, by go_num⟩
      case measure => simp [intOf]; omega
    · obtain rfl : k = 3 := by omega
      go_wp2
      go_ret
      exact ⟨rfl, HB.out⟩



set_option maxRecDepth 100000 in
set_option maxHeartbeats 4000000 in
theorem pfew_any {A : Option Addr} {n c : Nat} {ms : List MV} {w : World} (hn : n ≤ maxLen) (h : RdM w w.heap.size A n c ms) :
    Calls Try.prog 23 #[.slice A n c] w (BoolBelow (fewM ms) w) := by
  unfold maxLen at hn
  have HL := Lib.hid h.len
  go_enter Try.func23, Try.ntmps23
  go_wp2
  go_loopw [3] (fun i wr => ∃ k : Nat, k ≤ n ∧ i = .int .i64 k ∧ Below w.heap.size w wr ∧ Hid (∀ m ∈ ms.take k, m.new.length ≤ 12)) (fun i _ => n - (intOf i).toNat)
  case atStart => exact ⟨0, Nat.zero_le _, rfl, Below.refl _ _, by rw [List.take_zero]; intro m hm; cases hm⟩
  case round =>
    obtain ⟨k, hk, rfl, hb, hj⟩ := hrel
    by_cases hlt : k < n
    · obtain ⟨b0, o0, u, rfl, hbb, hx, hu, h0, h1⟩ := h.get hlt
      replace h1 := (hb.cell hbb).trans h1
      clear h0
      have hp := (h.parts u hu).2.1
      have HX := Lib.hid hx; clear hx
      by_cases hbig : 12 < u.new.length
      · go_wp2
        go_ret
        refine ⟨ret_bool ?_, hb⟩
        symm
        cases hf : fewM ms with
        | false => rfl
        | true => have := (few_iff hf).1 u hu; omega
      · go_wp2
        go_roundw
        case rel =>
          refine ⟨k + 1, by omega, by go_num, hb, ?_⟩
          intro m hm
          rw [List.take_add_one, HX.out] at hm
          rcases List.mem_append.1 hm with hm | hm
          · exact hj m hm
          · simp at hm; subst hm; omega
        case measure => simp [intOf]; omega
    · have hkn : k = n := by omega
      subst hkn
      go_wp2
      go_ret
      refine ⟨ret_bool ?_, hb⟩
      have hall : ms.all (fun m => decide (m.new.length ≤ 12)) = true := by
        rw [List.all_eq_true]; intro m hm
        have := hj m (by rw [List.take_of_length_le (by rw [HL.out]; omega)]; exact hm)
        simpa using this
      rw [fewM, hall, HL.out, Bool.true_and]
      have e : (decide ((k : Int) ≤ 40)) = decide (k ≤ 40) := by
        by_cases hc : k ≤ 40
        · rw [decide_eq_true hc, decide_eq_true (by omega)]
        · rw [decide_eq_false hc, decide_eq_false (by omega)]
      first | exact e | simp [e]


/-- A graph as plays draw it. -/
def PlayP (M : Nat) (g : List Int) : Prop := rightP g = true ∧ g.length ≤ M
theorem right_snoc {g : List Int} {x : Int} (h : rightP g = true) (h1 : -1 ≤ x) (h2 : x < g.length) : rightP (g ++ [x]) = true := by
  refine rightP_yes fun j p hp => ?_
  rcases Nat.lt_or_ge j g.length with hj | hj
  · rw [List.getElem?_append_left hj] at hp
    have := rightP_at h (i := (j : Int)) (by omega) (by omega)
    rw [par_get hp] at this
    exact this
  · have hlt := (List.getElem?_eq_some_iff.1 hp).1
    rw [List.length_append, List.length_singleton] at hlt
    obtain rfl : j = g.length := by omega
    rw [List.getElem?_append_right (Nat.le_refl _), Nat.sub_self] at hp
    obtain rfl := Option.some.inj hp
    exact ⟨h1, h2⟩
set_option maxRecDepth 100000 in
set_option maxHeartbeats 4000000 in
theorem parents_any {A : Option Addr} {n c M : Nat} {l : List Int} {w : World} (hn : n ≤ maxLen) (h : Rd w w.heap.size 1 A n c (l.map (.int .i64))) (hM : M ≤ 1000) :
    Calls Try.prog 25 #[.slice A n c, .int .i64 M] w (Ints (PlayP M) w) := by
  unfold maxLen at hn
  go_enter Try.func25, Try.ntmps25
  go_wp2
  go_loopw [5, 6] (fun ov kv wr => ∃ (k : Nat) (g : List Int), k ≤ n ∧ k ≤ M ∧ kv = .int .i64 k ∧ g.length = k ∧ Hid (rightP g = true) ∧ Below w.heap.size w wr ∧ wr.ownsRow w.heap.size 3 1 ov g.length (g.map (.int .i64))) (fun _ kv _ => n - (intOf kv).toNat)
  case atStart => exact ⟨0, [], Nat.zero_le _, Nat.zero_le _, rfl, rfl, rfl, Below.refl _ _, World.ownsRow_nil _ _ _ _⟩
  case round =>
    obtain ⟨k, g, hk, hkM, rfl, hg, hr, hb, ho⟩ := hrel
    by_cases hgo : k < n ∧ k < M
    · obtain ⟨hlt, hltM⟩ := hgo
      obtain ⟨b0, o0, x, rfl, hbb, hx, g0⟩ := h.int_ hlt
      replace g0 := (hb.cell (p := ⟨b0, o0 + k, none⟩) hbb).trans g0
      clear hx
      obtain ⟨kk, hkk, hkkl⟩ := mod_at x (N := k + 1) (by omega) (by omega)
      have hw := u64_nat (N := k + 1) (by omega)
      rw [show ((k + 1 : Nat) : Int) = (k : Int) + 1 by omega] at hkk hw
      have ho' := ho.alloc (.cells #[.int .i64 ((kk : Int) - 1)] 3)
      have hb' := hb.alloc hb.size (.cells #[.int .i64 ((kk : Int) - 1)] 3)
      have hnz : ¬ (k : Int) + 1 = 0 := by omega
      go_wp2_with (at_builtin; refine wpl_append rfl (.tmp 18) (.tmp 30) 28 rfl E28 rfl rfl ho' (rd_lit1 wr ((kk : Int) - 1)) (one_ints _) (by unfold maxLen; omega) (by omega) hb'.size ?_; intro v7 w7 ho7 hg7 hv7)
      go_roundw
      case rel =>
        refine ⟨k + 1, g ++ [(kk : Int) - 1], by omega, by omega, by go_num, by simp; omega, right_snoc hr.out (by omega) (by omega), hb'.grown hg7 hb'.size (fun q hq => (ho'.lt q hq).1), ?_⟩
        rw [List.length_append, List.map_append]; exact ho7
      case measure => simp [intOf]; omega
    · obtain ⟨A5, c5, rfl, hc5⟩ := ownsRow_cap ho
      have hgl : g.length ≤ M := by omega
      clear hg
      go_wp2
      all_goals
        go_ret
        exact ⟨A5, c5, g, rfl, Rd.of_own ho hc5, hb, hr.out, hgl⟩

/-! ### awake -/
def mk1 (g : Nat) : List MV := [⟨0, some ⟨g, 0, none⟩, 1, [2]⟩]
theorem mk1_nexts (g : Nat) (k x : Int) : x ∈ nexts (mk1 g) k ↔ k = 0 ∧ x = 2 := by
  rw [show nexts (mk1 g) k = if 0 = k then [2] else [] by simp [nexts, mk1]]
  by_cases h : k = 0
  · subst h; simp
  · rw [if_neg (fun e => h e.symm)]; simp [h]
theorem mk1_obs (g : Nat) (k : Int) : obs (mk1 g) k = decide (0 = k) := by simp [obs, mk1]
theorem mk1_final (g : Nat) : FinalIs (mk1 g) 0 [2] := by
  refine ⟨by simp, fun x => ?_⟩
  have h0 : Reach (mk1 g) 0 0 := .refl
  rw [reach_iff (S := fun x => x = 0 ∨ x = 2) (.inl rfl) (fun x hx => by
    rcases hx with rfl | rfl
    · exact h0
    · exact .step h0 ((mk1_nexts g 0 2).2 ⟨rfl, rfl⟩) (by omega)) (fun k x hk hx _ => by
    have := (mk1_nexts g k x).1 hx; omega), mk1_obs]
  simp only [List.mem_singleton, decide_eq_false_iff_not]
  omega
theorem mk1_orphan (g : Nat) : OrphanIs [-1, 0, -1] (mk1 g) 1 2 true := by
  have hr : rightP [-1, 0, -1] = true := by decide
  have hp : par [-1, 0, -1] 1 = 0 := by decide
  refine .some_ (i := 1) hr (by decide) ⟨?_, ?_, ?_, ?_, by decide, by decide⟩ fun j hj t ho => ?_
  · show 0 ≤ par [-1, 0, -1] 1; rw [hp]; decide
  · rw [mk1_obs]; rfl
  · show obs (mk1 g) (par [-1, 0, -1] 1) = true; rw [hp, mk1_obs]; rfl
  · show TargetIs _ _ (par [-1, 0, -1] 1) 2; rw [hp]; exact .here hr (by decide) (by decide) (mk1_final g) rfl
  · obtain rfl : j = 0 := by omega
    have := ho.1
    rw [show par [-1, 0, -1] ((0 : Nat) : Int) = -1 by decide] at this
    omega
theorem mk1_few (g : Nat) : fewM (mk1 g) = true := by simp [fewM, mk1]
theorem moved2 : moved [-1, 0] [] 0 = [0, 1] := by decide

set_option maxRecDepth 100000 in
set_option maxHeartbeats 8000000 in
theorem pawake_any (w : World) : Calls Try.prog 24 #[] w (BoolBelow true w) := by
  go_enter Try.func24, Try.ntmps24
  go_wp2_with fail
  have sz1 : (w.alloc (.cells #[.int .i64 (-1), .int .i64 0, .int .i64 (-1)] 3)).heap.size = w.heap.size + 1 := by simp
  have rA := rd_cells (sz := 1) (n := 3) (heap_alloc_new w (.cells #[.int .i64 (-1), .int .i64 0, .int .i64 (-1)] 3)) (xs := [-1, 0, -1].map (.int .i64)) rfl rfl
  have bA := (Below.refl w.heap.size w).alloc (Nat.le_refl _) (.cells #[.int .i64 (-1), .int .i64 0, .int .i64 (-1)] 3)
  generalize w.alloc (.cells #[.int .i64 (-1), .int .i64 0, .int .i64 (-1)] 3) = wA at *
  have rB := rd_lit2 wA 2 (q := w.heap.size + 1) sz1.symm
  have sz2 : (wA.alloc (.cells #[.int .i64 2] 3)).heap.size = w.heap.size + 1 + 1 := by rw [← sz1]; simp
  have bB := (Below.refl wA.heap.size wA).alloc (Nat.le_refl _) (.cells #[.int .i64 2] 3)
  generalize wA.alloc (.cells #[.int .i64 2] 3) = wB at *
  have rC := rd_mk2 wB ⟨0, some ⟨w.heap.size + 1, 0, none⟩, 1, [2]⟩ (g := w.heap.size + 1 + 1) sz2.symm
  have bC := (Below.refl wB.heap.size wB).alloc (Nat.le_refl _) (.cells #[.int .i64 0, .slice (some ⟨w.heap.size + 1, 0, none⟩) 1 1] 35)
  have eC : wB.alloc (.cells #[.int .i64 0, .slice (some ⟨w.heap.size + 1, 0, none⟩) ([2] : List Int).length 1] 35) = wB.alloc (.cells #[.int .i64 0, .slice (some ⟨w.heap.size + 1, 0, none⟩) 1 1] 35) := rfl
  simp only [eC] at rC
  generalize wB.alloc (.cells #[.int .i64 0, .slice (some ⟨w.heap.size + 1, 0, none⟩) 1 1] 35) = wC at *
  have hl : Rd wC wC.heap.size 1 (some ⟨w.heap.size, 0, none⟩) ([-1, 0, -1] : List Int).length 3 ([-1, 0, -1].map (.int .i64)) := (rA.to bB bB.size).to bC bC.size
  have hm : RdM wC wC.heap.size (some ⟨w.heap.size + 1 + 1, 0, none⟩) 1 1 (mk1 (w.heap.size + 1)) := by
    refine ⟨by simpa [mk1] using rC, rfl, fun m hm => ?_⟩
    simp only [mk1, List.mem_singleton] at hm
    subst hm
    exact ⟨rB.to bC bC.size, by simp, by simp [I64], by simp [I64]⟩
  have hbw : Below w.heap.size w wC := (bA.trans (bB.mono bA.size)).trans (bC.mono (Nat.le_trans bA.size bB.size))
  clear rA rB rC bA bB bC sz1 sz2 eC
  refine (orphan_any (by decide) hl (by decide) hm (mk1_few _)).mono ?_
  rintro e w1 ⟨a, b, s, rfl, ho, hb1⟩
  obtain ⟨rfl, rfl, rfl⟩ := ho.uniq (mk1_orphan _)
  have rD := rd_cells (sz := 1) (n := 2) (heap_alloc_new w1 (.cells #[.int .i64 (-1), .int .i64 0] 3)) (xs := [-1, 0].map (.int .i64)) rfl rfl
  have bD := (Below.refl w1.heap.size w1).alloc (Nat.le_refl _) (.cells #[.int .i64 (-1), .int .i64 0] 3)
  go_wp2_with fail
  refine (moved_any (l := [-1, 0]) (ms := []) (s := 0) (by decide) rD (by decide) ⟨Rd.none_ _ _ _, rfl, by simp⟩).mono ?_
  rintro e w2 ⟨A2, c2, l2, rfl, hr2, hb2, rfl⟩
  rw [moved2] at hr2 ⊢
  have bE := (Below.refl w2.heap.size w2).alloc (Nat.le_refl _) (.cells #[.int .i64 0, .int .i64 1] 3)
  have rE := rd_cells (sz := 1) (n := 2) (heap_alloc_new w2 (.cells #[.int .i64 0, .int .i64 1] 3)) (xs := [0, 1].map (.int .i64)) rfl rfl
  have C := plainI_any (xs := [0, 1]) (ys := [0, 1]) (by decide) (by decide) (Nat.le_refl _) (hr2.to bE bE.size) rE
  rw [decide_eq_true rfl] at C
  go_wp2_with fail
  refine C.mono ?_
  rintro e w3 ⟨rfl, hb3⟩
  go_wp2
  go_ret
  refine ⟨rfl, ?_⟩
  have h1 := hbw.trans (hb1.mono hbw.size)
  have h2 := h1.trans (bD.mono h1.size)
  have h3 := h2.trans (hb2.mono h2.size)
  have h4 := h3.trans (bE.mono h3.size)
  exact h4.trans (hb3.mono h4.size)
end Go.Proofs.Ytnkboccngialiaa
