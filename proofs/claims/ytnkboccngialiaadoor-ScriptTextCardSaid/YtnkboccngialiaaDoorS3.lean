/- Walks: bytes, texts and numbers compared, in slices; Own and Kept, of bytes. -/
import Derived.Test.YtnkboccngialiaaDoorS1
import Derived.OwnWalk
namespace Go.Proofs.YtnkboccngialiaaDoor
open Go.RowKit


def EqB (xs ys : List UInt8) (k : Nat) : Prop := ∀ j, j < k → xs[j]? = ys[j]?
theorem rd_byte {w : World} {B n c : Nat} {A : Option Addr} {l : List UInt8} (h : Rd w B 1 A n c (by8 l)) {k : Nat} (hk : k < n) :
    ∃ b o u, A = some ⟨b, o, none⟩ ∧ b < B ∧ l[k]? = some u ∧ w.cell? ⟨b, o + k, none⟩ = some (.int .u8 u.toNat) := by
  obtain ⟨b, o, v, e, hb, hv, hc⟩ := h.one hk
  rw [by8, List.getElem?_map, Option.map_eq_some_iff] at hv
  obtain ⟨u, hu, rfl⟩ := hv
  exact ⟨b, o, u, e, hb, hu, hc⟩
theorem u8_eq (x y : UInt8) : ((x.toNat : Int) == (y.toNat : Int)) = decide (x = y) := by
  by_cases h : x = y
  · subst h; simp
  · have : ¬ x.toNat = y.toNat := fun e => h (UInt8.toNat.inj e)
    rw [decide_eq_false h]
    have h2 : ¬ (x.toNat : Int) = (y.toNat : Int) := by omega
    simp [h2]

set_option maxHeartbeats 1000000 in
theorem plain1B_any (x y : UInt8) (w : World) : Calls Tryd.prog 55 #[.int .u8 x.toNat, .int .u8 y.toNat] w fun e w' => e = .returned (.bool (decide (x = y))) ∧ w' = w := by
  go_enter Tryd.func55, Tryd.ntmps55
  go_wp2
  go_ret
  exact ⟨by simp [u8_eq], rfl⟩

set_option maxRecDepth 100000 in
set_option maxHeartbeats 4000000 in
theorem sameB_any {A B : Option Addr} {n ca m cb BB : Nat} {xs ys : List UInt8} {w : World} (hn : n ≤ maxLen) (hm : m ≤ maxLen) (hBB : BB ≤ w.heap.size)
   (ha : Rd w BB 1 A n ca (by8 xs)) (hb : Rd w BB 1 B m cb (by8 ys)) :
    Calls Tryd.prog 54 #[.slice A n ca, .slice B m cb, .func (.func 55) #[] #[]] w (BoolBelow (decide (xs = ys)) w) := by
  have HX := Lib.hid (show xs.length = n by have := ha.len; rw [by8_len] at this; omega)
  have HY := Lib.hid (show ys.length = m by have := hb.len; rw [by8_len] at this; omega)
  unfold maxLen at hn hm
  by_cases h : n = m
  · subst h
    go_enter Tryd.func54, Tryd.ntmps54
    go_wp2
    go_loopw [7] (fun i wr => ∃ k : Nat, k ≤ n ∧ i = .int .i64 k ∧ Below w.heap.size w wr ∧ EqB xs ys k) (fun i _ => n - (intOf i).toNat)
    case atStart => exact ⟨0, Nat.zero_le _, rfl, Below.refl _ _, fun j hj => absurd hj (Nat.not_lt_zero _)⟩
    case round =>
      obtain ⟨k, hk, rfl, hbw, hj⟩ := hrel
      by_cases hlt : k < n
      · obtain ⟨b0, o0, u, rfl, hb0, hx, h1⟩ := rd_byte ha hlt
        obtain ⟨b1, o1, v, rfl, hb1, hy, h2⟩ := rd_byte hb hlt
        have HX2 := Lib.hid hx; have HY2 := Lib.hid hy; clear hx hy
        go_wp2
        refine wp_region_q (fun w' => Below w.heap.size w w') (qe [9] 11) mixed (by kernel_rfl) hbw.drew (fun T M Q hT hT' hM hQ => ?_)
        have m0 : M ⟨b0, o0 + k, none⟩ = some (.int .u8 u.toNat) := hM _ _ fun w' hw => (hw.cell (p := ⟨b0, o0 + k, none⟩) (by show b0 < _; omega)).trans h1
        have m1 : M ⟨b1, o1 + k, none⟩ = some (.int .u8 v.toNat) := hM _ _ fun w' hw => (hw.cell (p := ⟨b1, o1 + k, none⟩) (by show b1 < _; omega)).trans h2
        simp only [qcmp, Nat.reduceBEq]
        simp (maxSteps := 5000000) only [↓qpre, qpost, qfacts, qnorm, m0, m1]
        refine ⟨⟨by omega, by omega⟩, ⟨by omega, by omega⟩, eff_call (by kernel_rfl) (plain1B_any u v _) rfl rfl ?_⟩
        rintro e w' ⟨rfl, rfl⟩
        refine ⟨_, rfl, hT _ hbw.drew, ?_⟩
        simp (maxSteps := 5000000) only [↓qpre, qpost, qnorm]
        refine hQ _ _ ?_
        have hbd := hbw.drew
        clear hQ hT hT' hM m0 m1
        cases hd : decide (u = v)
        · have he := of_decide_eq_false hd
          clear hd
          go_wp2
          go_ret
          refine ⟨ret_bool (decide_eq_false fun e => ?_).symm, hbd⟩
          subst e
          have := HX2.out; rw [HY2.out] at this; injection this with this; exact he this.symm
        · have he := Lib.hid (of_decide_eq_true hd)
          clear hd
          go_wp2
          go_roundw
          case rel =>
            refine ⟨k + 1, by omega, by go_num, hbd, fun j hj' => ?_⟩
            by_cases e : j = k
            · subst e; rw [HX2.out, HY2.out, he.out]
            · exact hj j (by omega)
          case measure => simp [intOf]; omega
      · have hkn : k = n := by omega
        go_wp2
        go_ret
        refine ⟨ret_bool (decide_eq_true ?_).symm, hbw⟩
        exact ext_get (by rw [HX.out, HY.out]) (fun j hl => hj j (by rw [HX.out] at hl; omega))
  · obtain ⟨h1, h2⟩ := int_ne (u := (n : Int)) (v := (m : Int)) (by omega)
    go_enter Tryd.func54, Tryd.ntmps54
    go_wp2
    go_ret
    refine ⟨ret_bool (decide_eq_false fun e => ?_).symm, Below.refl _ _⟩
    subst e
    exact h (HX.out.symm.trans HY.out)

set_option maxHeartbeats 1000000 in
theorem plainB_any {A B : Option Addr} {n ca m cb BB : Nat} {xs ys : List UInt8} {w : World} (hn : n ≤ maxLen) (hm : m ≤ maxLen) (hBB : BB ≤ w.heap.size)
   (ha : Rd w BB 1 A n ca (by8 xs)) (hb : Rd w BB 1 B m cb (by8 ys)) :
    Calls Tryd.prog 29 #[.slice A n ca, .slice B m cb] w (BoolBelow (decide (xs = ys)) w) := by
  go_enter Tryd.func29, Tryd.ntmps29
  go_wp2_with (go_at_call 54; refine (sameB_any hn hm hBB ha hb).mono ?_; rintro e w' ⟨rfl, hb'⟩)
  go_ret
  exact ⟨rfl, hb'⟩
theorem wpl_make0 {P : Program} {w : World} {a : Act} {ops : Array Oper} {rest : List Oper} {o : Oper} {Q : Exit → Act → World → Prop} (hgd : o.guard = none) (l c : Operand) (t : TypeId)
    (ho : o.op = .makeSlice t l c) {e : TypeId} {size bytes : Nat} (E : Elem P t e size bytes) (base n : Nat)
    {C : Int} (hl : a.eval l = .int .i64 0) (hc : a.eval c = .int .i64 C) (hC : C = (n : Int)) (hb : bytes * n ≤ 281474976710656) (h63 : n ≤ maxLen) (hbase : base ≤ w.heap.size)
    (hK : ∀ w', w'.ownsRow base e size (.slice (some ⟨w.heap.size, 0, none⟩) 0 n) 0 [] → w.grownBy w' none → wpList P ops Q rest (a.put o.dst (.slice (some ⟨w.heap.size, 0, none⟩) 0 n)) w') :
    wpList P ops Q (o :: rest) a w := by
  obtain ⟨i, z, hi, hz, hsz, hby, hzs⟩ := E.row
  exact wpList_make_own w hgd l c t ho base e i z size E.und hi hz hsz .i64 .i64 C n hl hc hC (by rw [hby]; exact hb) h63 hbase hK
theorem wpl_fits {P : Program} {w : World} {ops : Array Oper} {rest : List Oper} {o : Oper} {a : Act} {Q : Exit → Act → World → Prop} (hgd : o.guard = none) (s x : Operand) (t : TypeId)
    (ho : o.op = .call { callee := .builtin .append, args := #[s, x], argTypes := #[t, t] }) {e : TypeId} {size bytes : Nat} (E : Elem P t e size bytes) {base : Nat}
    {g k cap : Nat} {xs : List Value} {B : Nat} {A : Option Addr} {m c : Nat} {news : List Value}
    (hs : a.eval s = .slice (some ⟨g, 0, none⟩) k cap) (hx : a.eval x = .slice A m c) (hown : w.ownsRow base e size (.slice (some ⟨g, 0, none⟩) k cap) k xs) (hr : Rd w B size A m c news) (h1 : ∀ u ∈ news, u.oneCell' = true)
    (hroom : k + m ≤ cap)
    (hK : ∀ w', w'.ownsRow base e size (.slice (some ⟨g, 0, none⟩) (k + m) cap) (k + m) (xs ++ news) → w.grownBy w' (some g) → wpList P ops Q rest (a.put o.dst (.slice (some ⟨g, 0, none⟩) (k + m) cap)) w') :
    wpList P ops Q (o :: rest) a w := by
  obtain ⟨i, z, hi, hz, hsz, hby, hzs⟩ := E.row
  rcases Nat.eq_zero_or_pos m with rfl | hm
  · have hn : news = [] := List.eq_nil_of_length_eq_zero (by simpa using hr.len)
    subst hn
    cases A with
    | some ad => exact wpList_append_fits w hgd s x t ho base e i size E.und hi hsz g k cap xs hs hown ad 0 c [] hx (by simp) (by simp) h1 hroom hK
    | none =>
      refine wpList_plain hgd fun K hK' => ?_
      have hk : k ≤ cap := by omega
      unfold Oper.wp
      have hrun : (Builtin.append_ #[t, t] o.type #[.slice (some ⟨g, 0, none⟩) k cap, .slice none 0 c]).run P w = .ok (.slice (some ⟨g, 0, none⟩) k cap) w := by
        simp [Builtin.append_, run_underlying E.und, sizeOf, typeInfo, hi, Builtin.lenOf, Builtin.firstCells, hk, storeCells]
      simp [execOp, ho, resolve, invoke, builtin, hs, hx, hrun, Result.andThen]
      exact hK' _ _ (by simpa using hK w (by simpa using hown) (World.grownBy.refl _ _))
  · obtain ⟨b, o', rfl, _, hc⟩ := hr.at_ hm
    exact wpList_append_fits w hgd s x t ho base e i size E.und hi hsz g k cap xs hs hown ⟨b, o', none⟩ m c news hx hr.len (fun j u hu => by
      have hadd : (⟨b, o', none⟩ : Addr).add j = ⟨b, o' + j, none⟩ := by unfold Addr.add; split <;> simp_all
      rw [hadd]; exact hc j u hu) h1 hroom hK
/-- The whole row, up to its capacity. -/
theorem ownsRow_whole {w : World} {base : Nat} {e : TypeId} {size g n cap : Nat} {xs : List Value} (h : w.ownsRow base e size (.slice (some ⟨g, 0, none⟩) n cap) n xs) :
    ∃ ys, ys.length = (cap - n) * size ∧ w.ownsRow base e size (.slice (some ⟨g, 0, none⟩) cap cap) cap (xs ++ ys) := by
  rcases h.2 with ⟨h', _⟩ | ⟨g', cap', cur, h', hb, hg, hnc, hcm, hcs, htake⟩
  · simp at h'
  · simp only [Value.slice.injEq, Option.some.injEq, Addr.mk.injEq, and_true, true_and] at h'
    obtain ⟨rfl, rfl⟩ := h'
    refine ⟨cur.toList.drop (n * size), ?_, ?_, .inr ⟨g, cap, cur, rfl, hb, hg, Nat.le_refl _, hcm, hcs, ?_⟩⟩
    · rw [List.length_drop, Array.length_toList, hcs, Nat.sub_mul]
    · rw [← htake, List.take_append_drop, Array.length_toList, hcs]
    · rw [← htake, List.take_append_drop, List.take_of_length_le (by rw [Array.length_toList, hcs]; exact Nat.le_refl _)]

theorem set_at {p r : List Value} {y c : Value} {j : Nat} (hj : p.length = j) : (p ++ y :: r).set j c = p ++ c :: r := by
  subst hj
  rw [List.set_append_right _ _ (Nat.le_refl _), Nat.sub_self]
  rfl
theorem set_fill {xs ys : List Value} {X : Value} {n k : Nat} (hx : xs.length = n) (hk : k < ys.length) : (xs ++ (List.replicate k X ++ ys.drop k)).set (n + k) X = xs ++ (List.replicate (k + 1) X ++ ys.drop (k + 1)) := by
  rw [List.drop_eq_getElem_cons hk, ← List.append_assoc, set_at (by simp [hx]), List.replicate_succ']
  simp

/-- A copy of its own, with three places more behind it that hold x. -/
def OwnIs (e : TypeId) (sz n : Nat) (xs x : List Value) (w : World) (en : Ending) (w' : World) : Prop :=
  ∃ g, en = .returned (.slice (some ⟨g, 0, none⟩) n (n + 3)) ∧ w'.ownsRow w.heap.size e sz (.slice (some ⟨g, 0, none⟩) (n + 3) (n + 3)) (n + 3) (xs ++ (x ++ (x ++ x))) ∧ Below w.heap.size w w'

set_option maxRecDepth 100000 in
set_option maxHeartbeats 4000000 in
theorem ownB_any {A : Option Addr} {n c : Nat} {l : List UInt8} {x : Nat} {w : World} (hn : n ≤ 1048576) (ha : Rd w w.heap.size 1 A n c (by8 l)) :
    Calls Tryd.prog 8 #[.slice A n c, .int .u8 (x : Nat)] w (OwnIs 5 1 n (by8 l) [.int .u8 (x : Nat)] w) := by
  have HL := Lib.hid (show l.length = n by have := ha.len; rw [by8_len] at this; omega)
  go_enter Tryd.func8, Tryd.ntmps8
  go_wp2_with (first
    | (refine wpl_make0 rfl (.const (.int .i64 0)) (.tmp 10) 22 rfl E22 w.heap.size (n + 3) rfl rfl (by omega) (by omega) (by simp only [maxLen]; omega) (Nat.le_refl _) ?_; intro w1 ho1 hg1)
    | (at_builtin; refine wpl_fits rfl (.tmp 12) (.tmp 13) 22 rfl E22 rfl rfl ho1 (ha.below ((Below.refl _ _).grown hg1 (Nat.le_refl _) (fun g hg => by cases hg))) (by8_one _) (by omega) ?_; intro w2 ho2 hg2))
  rw [Nat.zero_add, List.nil_append] at ho2
  have hw2 : Below w.heap.size w w2 := ((Below.refl _ _).grown hg1 (Nat.le_refl _) (fun g hg => by cases hg)).grown hg2 hg1.size (fun g hg => by cases hg; exact Nat.le_refl _)
  obtain ⟨ys, hy, ho⟩ := ownsRow_whole ho2
  have hy3 : ys.length = 3 := by omega
  have HO := Lib.hid ho
  clear ho1 hg1 ho2 hg2 ho
  go_loopw [7] (fun i wr => ∃ k : Nat, k ≤ 3 ∧ i = .int .i64 ((n + k : Nat) : Int) ∧ Hid (wr.ownsRow w.heap.size 5 1 (.slice (some ⟨w.heap.size, 0, none⟩) (n + 3) (n + 3)) (n + 3) (by8 l ++ (List.replicate k (.int .u8 (x : Nat)) ++ ys.drop k))) ∧ Below w.heap.size w wr)
      (fun i _ => n + 3 - (intOf i).toNat)
  case atStart => exact ⟨0, by omega, rfl, HO, hw2⟩
  case round =>
    clear HO
    obtain ⟨k, hk, rfl, HO, hbw⟩ := hrel
    by_cases hlt : k < 3
    · have c0 : (wr.cell? ⟨w.heap.size, n + k, none⟩) = some (ys[k]'(by omega)) := by
        rw [HO.out.cellAt (n + k) (by omega), List.getElem?_append_right (by rw [by8_len, HL.out]; omega), by8_len, HL.out, Nat.add_sub_cancel_left, List.getElem?_append_right (by simp), List.length_replicate, Nat.sub_self, List.getElem?_drop, Nat.add_zero, List.getElem?_eq_getElem]
      have f0 : (wr.frozen? ⟨w.heap.size, n + k, none⟩) = false := HO.out.frozenAt _
      obtain ⟨s1, s2⟩ := HO.out.stored (n + k) (.int .u8 (x : Nat))
      rw [set_fill (by rw [by8_len, HL.out]) (by omega)] at s1
      have HS := Lib.hid s1
      have hbw' : Below w.heap.size w (wr.setCell ⟨w.heap.size, n + k, none⟩ (.int .u8 (x : Nat))) := hbw.grown s2 hbw.size (fun g hg => by cases hg; exact Nat.le_refl _)
      clear s1 s2
      go_wp2
      refine ⟨⟨k + 1, by omega, by go_num, HS, hbw'⟩, by simp [intOf]; omega⟩
    · obtain rfl : k = 3 := by omega
      have HE := Lib.hid (show wr.ownsRow w.heap.size 5 1 (.slice (some ⟨w.heap.size, 0, none⟩) (n + 3) (n + 3)) (n + 3) (by8 l ++ ([.int .u8 (x : Nat)] ++ ([.int .u8 (x : Nat)] ++ [.int .u8 (x : Nat)]))) from by
        have := HO.out
        rw [List.drop_of_length_le (by omega), List.append_nil] at this
        exact this)
      go_wp2
      go_ret
      exact ⟨w.heap.size, rfl, HE.out, hbw⟩

set_option maxRecDepth 100000 in
set_option maxHeartbeats 4000000 in
theorem keptB_any {A : Option Addr} {g n c BB : Nat} {l : List UInt8} {x : Nat} {w : World} (hn : n ≤ 1048576) (hBB : BB ≤ w.heap.size)
    (hi : Rd w BB 1 (some ⟨g, 0, none⟩) (n + 3) (n + 3) (by8 l ++ ([.int .u8 (x : Nat)] ++ ([.int .u8 (x : Nat)] ++ [.int .u8 (x : Nat)])))) (ha : Rd w BB 1 A n c (by8 l)) :
    Calls Tryd.prog 13 #[.slice (some ⟨g, 0, none⟩) n (n + 3), .slice A n c, .int .u8 (x : Nat)] w (BoolBelow true w) := by
  have HL := Lib.hid (show l.length = n by have := ha.len; rw [by8_len] at this; omega)
  have hr : Rd w BB 1 (some ⟨g, 0, none⟩) n (n + 3) (by8 l) := ⟨ha.len, by omega, fun h0 => by
    obtain ⟨b, o, e, hb, hc⟩ := hi.at_ (by omega)
    refine ⟨b, o, e, hb, fun j u hu => hc j u ?_⟩
    rw [List.getElem?_append_left (List.getElem?_eq_some_iff.1 hu).1]
    exact hu⟩
  obtain ⟨b0, o0, e0, hb0, hc0⟩ := hi.at_ (by omega)
  cases e0
  go_enter Tryd.func13, Tryd.ntmps13
  go_wp2_with fail
  refine (plainB_any (by simp only [maxLen]; omega) (by simp only [maxLen]; omega) hBB hr ha).mono ?_
  rintro e w1 ⟨rfl, hb1⟩
  rw [decide_eq_true rfl]
  have HC := Lib.hid (show ∀ k, k < 3 → w1.cell? ⟨g, n + k, none⟩ = some (.int .u8 (x : Nat)) from fun k hk => by
    rw [hb1.cell (p := ⟨g, n + k, none⟩) (by show g < _; omega)]
    have := hc0 (n + k) (.int .u8 (x : Nat)) (by
      rw [List.getElem?_append_right (by rw [by8_len, HL.out]; omega), by8_len, HL.out, Nat.add_sub_cancel_left]
      obtain rfl | rfl | rfl : k = 0 ∨ k = 1 ∨ k = 2 := by omega
      all_goals rfl)
    simpa using this)
  have HB := Lib.hid hb1
  clear hc0 hb1 hr
  go_wp2
  go_loopw [8] (fun i wr => w1 = wr ∧ ∃ k : Nat, k ≤ 3 ∧ i = .int .i64 ((n + k : Nat) : Int)) (fun i _ => n + 3 - (intOf i).toNat)
  case atStart => exact ⟨rfl, 0, by omega, rfl⟩
  case round =>
    obtain ⟨rfl, k, hk, rfl⟩ := hrel
    by_cases hlt : k < 3
    · have c0 := HC.out k hlt
      go_wp2
      go_roundw
      case rel => exact ⟨trivial, k + 1, by omega, by go_num⟩
      case measure => simp [intOf]; omega
    · obtain rfl : k = 3 := by omega
      go_wp2
      go_ret
      exact ⟨rfl, HB.out⟩


def EqTo (xs ys : List ByteArray) (k : Nat) : Prop := ∀ j, j < k → xs[j]? = ys[j]?
def EqI (xs ys : List Int) (k : Nat) : Prop := ∀ j, j < k → xs[j]? = ys[j]?
theorem Rd.int_ {w : World} {B n c : Nat} {A : Option Addr} {l : List Int} (h : Rd w B 1 A n c (l.map (.int .i64))) {k : Nat} (hk : k < n) :
    ∃ b o u, A = some ⟨b, o, none⟩ ∧ b < B ∧ l[k]? = some u ∧ w.cell? ⟨b, o + k, none⟩ = some (.int .i64 u) := by
  obtain ⟨b, o, u, e, hb, hx, hc⟩ := h.one hk
  rw [List.getElem?_map] at hx
  cases hl : l[k]? with
  | none => rw [hl] at hx; cases hx
  | some s => rw [hl] at hx; cases hx; exact ⟨b, o, s, e, hb, rfl, hc⟩


set_option maxHeartbeats 1000000 in
theorem plain1_any (x y : ByteArray) (w : World) : Calls Tryd.prog 77 #[.string x, .string y] w fun e w' => e = .returned (.bool (decide (x = y))) ∧ w' = w := by
  have hs := str_eq x y
  go_enter Tryd.func77, Tryd.ntmps77
  go_wp2
  go_ret
  exact ⟨by simp, rfl⟩

set_option maxRecDepth 100000 in
set_option maxHeartbeats 4000000 in
theorem same_any {A B : Option Addr} {n ca m cb BB : Nat} {xs ys : List ByteArray} {w : World} (hn : n ≤ maxLen) (hm : m ≤ maxLen) (hBB : BB ≤ w.heap.size)
   (ha : Rd w BB 1 A n ca (xs.map .string)) (hb : Rd w BB 1 B m cb (ys.map .string)) :
    Calls Tryd.prog 76 #[.slice A n ca, .slice B m cb, .func (.func 77) #[] #[]] w (BoolBelow (decide (xs = ys)) w) := by
  have HX := Lib.hid (show xs.length = n by have := ha.len; simpa using this)
  have HY := Lib.hid (show ys.length = m by have := hb.len; simpa using this)
  unfold maxLen at hn hm
  by_cases h : n = m
  · subst h
    go_enter Tryd.func76, Tryd.ntmps76
    go_wp2
    go_loopw [7] (fun i wr => ∃ k : Nat, k ≤ n ∧ i = .int .i64 k ∧ Below w.heap.size w wr ∧ EqTo xs ys k) (fun i _ => n - (intOf i).toNat)
    case atStart => exact ⟨0, Nat.zero_le _, rfl, Below.refl _ _, fun j hj => absurd hj (Nat.not_lt_zero _)⟩
    case round =>
      obtain ⟨k, hk, rfl, hbw, hj⟩ := hrel
      by_cases hlt : k < n
      · obtain ⟨b0, o0, u, rfl, hb0, hx, h1⟩ := ha.str hlt
        obtain ⟨b1, o1, v, rfl, hb1, hy, h2⟩ := hb.str hlt
        have HX2 := Lib.hid hx; have HY2 := Lib.hid hy; clear hx hy
        go_wp2
        refine wp_region_q (fun w' => Below w.heap.size w w') (qe [9] 11) mixed (by kernel_rfl) hbw.drew (fun T M Q hT hT' hM hQ => ?_)
        have m0 : M ⟨b0, o0 + k, none⟩ = some (.string u) := hM _ _ fun w' hw => (hw.cell (p := ⟨b0, o0 + k, none⟩) (by show b0 < _; omega)).trans h1
        have m1 : M ⟨b1, o1 + k, none⟩ = some (.string v) := hM _ _ fun w' hw => (hw.cell (p := ⟨b1, o1 + k, none⟩) (by show b1 < _; omega)).trans h2
        simp only [qcmp, Nat.reduceBEq]
        simp (maxSteps := 5000000) only [↓qpre, qpost, qfacts, qnorm, m0, m1]
        refine ⟨⟨by omega, by omega⟩, ⟨by omega, by omega⟩, eff_call (by kernel_rfl) (plain1_any u v _) rfl rfl ?_⟩
        rintro e w' ⟨rfl, rfl⟩
        refine ⟨_, rfl, hT _ hbw.drew, ?_⟩
        simp (maxSteps := 5000000) only [↓qpre, qpost, qnorm]
        refine hQ _ _ ?_
        have hbd := hbw.drew
        clear hQ hT hT' hM m0 m1
        cases hd : decide (u = v)
        · have he := of_decide_eq_false hd
          clear hd
          go_wp2
          go_ret
          refine ⟨ret_bool (decide_eq_false fun e => ?_).symm, hbd⟩
          subst e
          have := HX2.out; rw [HY2.out] at this; injection this with this; exact he this.symm
        · have he := Lib.hid (of_decide_eq_true hd)
          clear hd
          go_wp2
          go_roundw
          case rel =>
            refine ⟨k + 1, by omega, by go_num, hbd, fun j hj' => ?_⟩
            by_cases e : j = k
            · subst e; rw [HX2.out, HY2.out, he.out]
            · exact hj j (by omega)
          case measure => simp [intOf]; omega
      · have hkn : k = n := by omega
        go_wp2
        go_ret
        refine ⟨ret_bool (decide_eq_true ?_).symm, hbw⟩
        exact ext_get (by rw [HX.out, HY.out]) (fun j hl => hj j (by rw [HX.out] at hl; omega))
  · obtain ⟨h1, h2⟩ := int_ne (u := (n : Int)) (v := (m : Int)) (by omega)
    go_enter Tryd.func76, Tryd.ntmps76
    go_wp2
    go_ret
    refine ⟨ret_bool (decide_eq_false fun e => ?_).symm, Below.refl _ _⟩
    subst e
    exact h (HX.out.symm.trans HY.out)

set_option maxHeartbeats 1000000 in
theorem plain_any {A B : Option Addr} {n ca m cb BB : Nat} {xs ys : List ByteArray} {w : World} (hn : n ≤ maxLen) (hm : m ≤ maxLen) (hBB : BB ≤ w.heap.size)
   (ha : Rd w BB 1 A n ca (xs.map .string)) (hb : Rd w BB 1 B m cb (ys.map .string)) :
    Calls Tryd.prog 53 #[.slice A n ca, .slice B m cb] w (BoolBelow (decide (xs = ys)) w) := by
  go_enter Tryd.func53, Tryd.ntmps53
  go_wp2_with (go_at_call 76; refine (same_any hn hm hBB ha hb).mono ?_; rintro e w' ⟨rfl, hb'⟩)
  go_ret
  exact ⟨rfl, hb'⟩


set_option maxHeartbeats 1000000 in
theorem plain1I_any (x y : Int) (w : World) : Calls Tryd.prog 51 #[.int .i64 x, .int .i64 y] w fun e w' => e = .returned (.bool (decide (x = y))) ∧ w' = w := by
  go_enter Tryd.func51, Tryd.ntmps51
  go_wp2
  go_ret
  refine ⟨?_, rfl⟩
  by_cases h : x = y <;> simp [h]

set_option maxRecDepth 100000 in
set_option maxHeartbeats 4000000 in
theorem sameI_any {A B : Option Addr} {n ca m cb BB : Nat} {xs ys : List Int} {w : World} (hn : n ≤ maxLen) (hm : m ≤ maxLen) (hBB : BB ≤ w.heap.size)
   (ha : Rd w BB 1 A n ca (xs.map (.int .i64))) (hb : Rd w BB 1 B m cb (ys.map (.int .i64))) :
    Calls Tryd.prog 50 #[.slice A n ca, .slice B m cb, .func (.func 51) #[] #[]] w (BoolBelow (decide (xs = ys)) w) := by
  have HX := Lib.hid (show xs.length = n by have := ha.len; simpa using this)
  have HY := Lib.hid (show ys.length = m by have := hb.len; simpa using this)
  unfold maxLen at hn hm
  by_cases h : n = m
  · subst h
    go_enter Tryd.func50, Tryd.ntmps50
    go_wp2
    go_loopw [7] (fun i wr => ∃ k : Nat, k ≤ n ∧ i = .int .i64 k ∧ Below w.heap.size w wr ∧ EqI xs ys k) (fun i _ => n - (intOf i).toNat)
    case atStart => exact ⟨0, Nat.zero_le _, rfl, Below.refl _ _, fun j hj => absurd hj (Nat.not_lt_zero _)⟩
    case round =>
      obtain ⟨k, hk, rfl, hbw, hj⟩ := hrel
      by_cases hlt : k < n
      · obtain ⟨b0, o0, u, rfl, hb0, hx, h1⟩ := ha.int_ hlt
        obtain ⟨b1, o1, v, rfl, hb1, hy, h2⟩ := hb.int_ hlt
        have HX2 := Lib.hid hx; have HY2 := Lib.hid hy; clear hx hy
        go_wp2
        refine wp_region_q (fun w' => Below w.heap.size w w') (qe [9] 11) mixed (by kernel_rfl) hbw.drew (fun T M Q hT hT' hM hQ => ?_)
        have m0 : M ⟨b0, o0 + k, none⟩ = some (.int .i64 u) := hM _ _ fun w' hw => (hw.cell (p := ⟨b0, o0 + k, none⟩) (by show b0 < _; omega)).trans h1
        have m1 : M ⟨b1, o1 + k, none⟩ = some (.int .i64 v) := hM _ _ fun w' hw => (hw.cell (p := ⟨b1, o1 + k, none⟩) (by show b1 < _; omega)).trans h2
        simp only [qcmp, Nat.reduceBEq]
        simp (maxSteps := 5000000) only [↓qpre, qpost, qfacts, qnorm, m0, m1]
        refine ⟨⟨by omega, by omega⟩, ⟨by omega, by omega⟩, eff_call (by kernel_rfl) (plain1I_any u v _) rfl rfl ?_⟩
        rintro e w' ⟨rfl, rfl⟩
        refine ⟨_, rfl, hT _ hbw.drew, ?_⟩
        simp (maxSteps := 5000000) only [↓qpre, qpost, qnorm]
        refine hQ _ _ ?_
        have hbd := hbw.drew
        clear hQ hT hT' hM m0 m1
        cases hd : decide (u = v)
        · have he := of_decide_eq_false hd
          clear hd
          go_wp2
          go_ret
          refine ⟨ret_bool (decide_eq_false fun e => ?_).symm, hbd⟩
          subst e
          have := HX2.out; rw [HY2.out] at this; injection this with this; exact he this.symm
        · have he := Lib.hid (of_decide_eq_true hd)
          clear hd
          go_wp2
          go_roundw
          case rel =>
            refine ⟨k + 1, by omega, by go_num, hbd, fun j hj' => ?_⟩
            by_cases e : j = k
            · subst e; rw [HX2.out, HY2.out, he.out]
            · exact hj j (by omega)
          case measure => simp [intOf]; omega
      · have hkn : k = n := by omega
        go_wp2
        go_ret
        refine ⟨ret_bool (decide_eq_true ?_).symm, hbw⟩
        exact ext_get (by rw [HX.out, HY.out]) (fun j hl => hj j (by rw [HX.out] at hl; omega))
  · obtain ⟨h1, h2⟩ := int_ne (u := (n : Int)) (v := (m : Int)) (by omega)
    go_enter Tryd.func50, Tryd.ntmps50
    go_wp2
    go_ret
    refine ⟨ret_bool (decide_eq_false fun e => ?_).symm, Below.refl _ _⟩
    subst e
    exact h (HX.out.symm.trans HY.out)

set_option maxHeartbeats 1000000 in
theorem plainI_any {A B : Option Addr} {n ca m cb BB : Nat} {xs ys : List Int} {w : World} (hn : n ≤ maxLen) (hm : m ≤ maxLen) (hBB : BB ≤ w.heap.size)
   (ha : Rd w BB 1 A n ca (xs.map (.int .i64))) (hb : Rd w BB 1 B m cb (ys.map (.int .i64))) :
    Calls Tryd.prog 27 #[.slice A n ca, .slice B m cb] w (BoolBelow (decide (xs = ys)) w) := by
  go_enter Tryd.func27, Tryd.ntmps27
  go_wp2_with (go_at_call 50; refine (sameI_any hn hm hBB ha hb).mono ?_; rintro e w' ⟨rfl, hb'⟩)
  go_ret
  exact ⟨rfl, hb'⟩
end Go.Proofs.YtnkboccngialiaaDoor
