/- Walk: HunkMatch. -/
import Derived.Test.YtabiegbbbljhlaaW4
namespace Go.Proofs.Ytabiegbbbljhlaa
open Go.RowKit

def hvO (k : Int) (g : Nat) (o : ByteArray) : HV := ⟨k, some ⟨g, 0, none⟩, 1, [o], none, 0, []⟩
def hvN (k : Int) (g : Nat) (o : ByteArray) : HV := ⟨k, none, 0, [], some ⟨g, 0, none⟩, 1, [o]⟩
def hvE (k : Int) : HV := ⟨k, none, 0, [], none, 0, []⟩

theorem range1 : List.range 1 = [0] := rfl
theorem range2 : List.range 2 = [0, 1] := rfl
theorem right_one {h : HV} (hd : okHd h = true) : right [h] = true := by
  simp [right, okAt, hd]
theorem right_none {h : HV} (hd : okHd h = false) : right [h] = false := by
  simp [right, okAt, hd]
theorem match_one {a : List ByteArray} {h : HV} : matches_ a [h] = matchOk a h := by
  simp [matches_, matchAt]

theorem ok_O {k : Int} {g : Nat} {o : ByteArray} (h0 : 0 ≤ k) (h1 : k ≤ 2147483647) : okHd (hvO k g o) = true :=
  okHd_yes (by show ¬ k < 0; omega) (by show ¬ 2147483647 < k; omega) (by show ¬ ((1 : Nat) : Int) + ((0 : Nat) : Int) = 0; omega)
theorem ok_N {k : Int} {g : Nat} {o : ByteArray} (h0 : 0 ≤ k) (h1 : k ≤ 2147483647) : okHd (hvN k g o) = true :=
  okHd_yes (by show ¬ k < 0; omega) (by show ¬ 2147483647 < k; omega) (by show ¬ ((0 : Nat) : Int) + ((1 : Nat) : Int) = 0; omega)
theorem e1_match {a : List ByteArray} {k g : Nat} {o : ByteArray} (hk : k ≤ a.length) (hk2 : k ≤ 50) (hne : a[k]? ≠ some o) : errOf a [hvO k g o] = 13 := by
  refine (err13 (right_one (ok_O (by omega) (by omega))) ?_).1
  rw [match_one]
  by_cases h1 : k < a.length
  · rw [matchOk_3 (z := k) rfl (by omega) (by show ¬ (a.length : Int) - k < ((1 : Nat) : Int); omega)]
    refine decide_eq_false fun he => hne ?_
    have he' : (a.take (k + 1)).drop k = [o] := he
    have := congrArg (·[0]?) he'
    simpa [List.getElem?_drop, List.getElem?_take] using this
  · exact matchOk_2 (z := k) rfl (by show (a.length : Int) - k < ((1 : Nat) : Int); omega)
theorem e2_match {a : List ByteArray} {g : Nat} {o : ByteArray} (hk : a.length ≤ 50) : errOf a [hvN ((a.length : Int) + 1) g o] = 13 := by
  refine (err13 (right_one (ok_N (by omega) (by omega))) ?_).1
  rw [match_one]
  exact matchOk_1 (z := a.length + 1) (by show (a.length : Int) + 1 = _; omega) (by omega)
theorem e3_match {a : List ByteArray} {g : Nat} {o : ByteArray} : errOf a [hvN 1 g o, hvN 0 g o] = 1 := by
  have : right [hvN 1 g o, hvN 0 g o] = false := right_false (k := 1) (by simp) (by
    show (okHd (hvN 0 g o) && decide ((1 : Int) + ((0 : Nat) : Int) ≤ 0)) = false
    rw [decide_eq_false (by omega), Bool.and_false])
  simp [errOf, this]
theorem e4_match {a : List ByteArray} : errOf a [hvE 0] = 1 := by
  have : right [hvE 0] = false := rfl
  simp [errOf, this]
theorem e5_match {a : List ByteArray} {k g : Nat} {o : ByteArray} (hk : k ≤ a.length) (hk2 : k ≤ 50) : errOf a [hvN k g o] = 0 ∧ resOf a [hvN k g o] = a.take k ++ [o] ++ a.drop k := by
  have h1 : right [hvN k g o] = true := right_one (ok_N (by omega) (by omega))
  have h2 : matches_ a [hvN k g o] = true := by
    rw [match_one, matchOk_3 (z := k) rfl (by omega) (by show ¬ (a.length : Int) - k < ((0 : Nat) : Int); omega)]
    refine decide_eq_true ?_
    show (a.take (k + 0)).drop k = []
    simp
  obtain ⟨e1, e2⟩ := err0 h1 h2
  refine ⟨e1, ?_⟩
  rw [e2]
  show ([] ++ (a.take (k : Int).toNat).drop 0 ++ [o]) ++ a.drop ((k : Int).toNat + 0) = _
  simp

theorem cells_len (l : List HV) : (l.flatMap HV.cells).length = l.length * 3 := by
  induction l with
  | nil => rfl
  | cons x l ih => rw [List.flatMap_cons, List.length_append, ih, List.length_cons]; simp only [HV.cells, List.length_cons, List.length_nil]; omega

/-- Apply, called with hunks that were laid in a block just now. -/
theorem app_call {A : Option Addr} {n ca : Nat} {a : List ByteArray} {w W : World} (hn : n ≤ 1048576) (ha : Rd w w.heap.size 1 A n ca (a.map .string)) (hca : ca ≤ 70368744177664) (hb : Below w.heap.size w W)
    (hvs : List HV) (m : Nat) (cs : List Value) (hcs : hvs.flatMap HV.cells = cs) (hm : hvs.length = m) (hm2 : m ≤ 1048576) (hnew : newLen hvs ≤ 1048576)
    (hp : ∀ h ∈ hvs, Rd W W.heap.size 1 h.oA h.old.length h.oc (h.old.map .string) ∧ Rd W W.heap.size 1 h.nA h.new.length h.nc (h.new.map .string) ∧ h.old.length ≤ 1048576 ∧ h.new.length ≤ 1048576 ∧ -9223372036854775808 ≤ h.at_ ∧ h.at_ ≤ 9223372036854775807) :
    Calls Try.prog 15 #[.slice A n ca, .slice (some ⟨W.heap.size, 0, none⟩) m m] (W.alloc (.cells cs.toArray 29)) (LinesErr (resOf a hvs) (errOf a hvs) (W.alloc (.cells cs.toArray 29))) := by
  have hbA : Below W.heap.size W (W.alloc (.cells cs.toArray 29)) := (Below.refl _ _).alloc (Nat.le_refl _) _
  have hsz : (W.alloc (.cells cs.toArray 29)).heap.size = W.heap.size + 1 := by simp
  have hle := hb.size
  subst hcs
  refine apply_any hn (ha.to (hb.trans (hbA.mono hle)) (by omega)) hca (RdH.of (Rd.lit (alloc_at rfl) (by omega) ?_ (Nat.le_refl _)) hm ?_) hm2 hnew
  · rw [cells_len, hm]
  · intro h hh
    obtain ⟨p1, p2, p3⟩ := hp h hh
    exact ⟨p1.to hbA (by omega), p2.to hbA (by omega), p3⟩

theorem next_world {w W w1 : World} {g : Nat} {O o : Obj} (hb : Below w.heap.size w W) (hb1 : Below (W.alloc o).heap.size (W.alloc o) w1) (hoth : W.heap[g]? = some O) :
    Below w.heap.size w w1 ∧ w1.heap[g]? = some O ∧ g < w1.heap.size := by
  have hlt : g < W.heap.size := by
    rcases Nat.lt_or_ge g W.heap.size with hl | hl
    · exact hl
    · rw [Array.getElem?_eq_none hl] at hoth; cases hoth
  have hs : (W.alloc o).heap.size = W.heap.size + 1 := by simp
  have hle := hb.size
  have h1 := hb1.size
  exact ⟨(hb.alloc hle _).trans (hb1.mono (by omega)), (hb1.block g (by omega)).trans (alloc_old hoth _), by omega⟩

theorem size_ne {a b : ByteArray} (h : b = a ++ ⟨#[63]⟩) : a ≠ b := by
  intro e
  have := congrArg ByteArray.size (e.trans h)
  rw [ByteArray.size_append] at this
  have h1 : (⟨#[63]⟩ : ByteArray).size = 1 := rfl
  omega

theorem k_nat (t : Int) (n : Nat) (hn : n ≤ 50) : ∃ kk : Nat, wrap64 ((IntKind.u64.wrap t).tmod (n + 1)) = kk ∧ kk ≤ n := by
  have h0 : 0 ≤ IntKind.u64.wrap t := by rw [IntKind.wrap_u64]; omega
  rw [Int.tmod_eq_emod_of_nonneg h0]
  generalize IntKind.u64.wrap t = u at *
  have : 0 ≤ u % ((n : Int) + 1) := Int.emod_nonneg _ (by omega)
  have h2 : u % ((n : Int) + 1) < n + 1 := Int.emod_lt_of_pos _ (by omega)
  generalize u % ((n : Int) + 1) = v at *
  refine ⟨v.toNat, ?_, by omega⟩
  unfold wrap64
  omega

set_option maxRecDepth 100000 in
set_option maxHeartbeats 8000000 in
theorem hunkMatch_any {A : Option Addr} {n ca : Nat} {a : List ByteArray} {t : Int} {x : ByteArray} (w : World) (hca : ca ≤ 70368744177664)
    (ha : Rd w w.heap.size 1 A n ca (a.map .string)) (hx : x.size ≤ 140737488355328) (hsz : ∀ s ∈ a, s.size ≤ 140737488355328) :
    Calls Try.prog 3 #[.slice A n ca, .int .i64 t, .string x] w (BoolBelow true w) := by
  have hcap := ha.cap
  by_cases c1 : 50 < n
  · go_enter Try.func3, Try.ntmps3
    go_wp2_with (go_at_call 14; refine (awake7_any _).mono ?_; rintro e w1 ⟨rfl, hb1⟩)
    go_ret
    exact ⟨rfl, hb1⟩
  have d1 : decide (50 < n) = false := by simpa using c1
  by_cases c2 : 20 < x.size
  · go_enter Try.func3, Try.ntmps3
    go_wp2_with (go_at_call 14; refine (awake7_any _).mono ?_; rintro e w1 ⟨rfl, hb1⟩)
    go_ret
    exact ⟨rfl, hb1⟩
  have d2 : decide (20 < x.size) = false := by simpa using c2
  obtain ⟨kk, hkk, hkn⟩ := k_nat t n (by omega)
  have HL : a.length = n := by have := ha.len; simpa using this
  have HA := Lib.hid HL; clear HL
  by_cases hlt : kk < n
  case' pos =>
    obtain ⟨b0, o0, u, rfl, hb0, hxu, hcell⟩ := ha.str hlt
    have hu := hsz u (List.mem_of_getElem? hxu)
    have HX := Lib.hid hxu; clear hxu hsz
    have d3 : decide (kk < n) = true := by simpa using hlt
    go_enter Try.func3, Try.ntmps3
    have HN := Lib.hid (show a[kk]? ≠ some (u ++ ⟨#[63]⟩) from fun e => size_ne rfl (Option.some.inj (HX.out.symm.trans e)))
    go_wp2_with fail
    generalize (u ++ { data := #[63] } : ByteArray) = o at *
    clear hcell hu HX d3
  case' neg =>
    have d3 : decide (kk < n) = false := by simpa using hlt
    have HN := Lib.hid (show a[kk]? ≠ some (x ++ ⟨#[63]⟩) from fun e => by
      have h1 := HA.out
      rw [List.getElem?_eq_none (by omega)] at e; cases e)
    go_enter Try.func3, Try.ntmps3
    go_wp2_with fail
    generalize (x ++ { data := #[63] } : ByteArray) = o at *
    clear d3
  all_goals
    generalize hW : w.alloc (Obj.cells #[Value.string o] 9) = W
    have hszW : W.heap.size = w.heap.size + 1 := by subst hW; simp
    have hoth : W.heap[w.heap.size]? = some (.cells #[Value.string o] 9 (0, 0)) := by subst hW; exact alloc_at rfl
    have hbW : Below w.heap.size w W := by subst hW; exact (Below.refl _ _).alloc (Nat.le_refl _) _
    clear hW
    have HP : Hid (∀ (X : World) (g : Nat), X.heap[g]? = some (.cells #[Value.string o] 9 (0, 0)) → g < X.heap.size → Rd X X.heap.size 1 (some ⟨g, 0, none⟩) 1 1 ([o].map .string)) := fun X g h h' => Rd.lit h h' rfl (Nat.le_refl _)
    have C := app_call (W := W) (by omega) ha hca hbW [hvO kk w.heap.size o] 1 [.int .i64 kk, .slice (some ⟨w.heap.size, 0, none⟩) 1 1, .slice none 0 0] rfl rfl (by omega) (by simp [newLen, hvO])
      (fun h hh => by obtain rfl : h = hvO kk w.heap.size o := by simpa using hh
                      exact ⟨HP.out _ _ hoth (by omega), Rd.none_ _ _ _, by simp [hvO], by simp [hvO], by simp only [hvO]; omega, by simp only [hvO]; omega⟩)
    rw [e1_match (by rw [HA.out]; omega) (by omega) HN.out, hszW] at C
    refine C.mono ?_
    clear C
    rintro e w1 ⟨A1, n1, c1', rfl, hr1, hb1⟩
    obtain ⟨hbW1, hoth1, hlt1⟩ := next_world hbW hb1 hoth
    clear hr1 hb1 hoth hbW hszW
    go_wp2_with fail
    have C := app_call (W := w1) (by omega) ha hca hbW1 [hvN ((a.length : Int) + 1) w.heap.size o] 1 [.int .i64 ((n : Int) + 1), .slice none 0 0, .slice (some ⟨w.heap.size, 0, none⟩) 1 1] (by rw [HA.out]; rfl) rfl (by omega) (by simp [newLen, hvN])
      (fun h hh => by obtain rfl : h = hvN ((a.length : Int) + 1) w.heap.size o := by simpa using hh
                      exact ⟨Rd.none_ _ _ _, HP.out _ _ hoth1 (by omega), by simp [hvN], by simp [hvN], by simp only [hvN]; omega, by simp only [hvN, HA.out]; omega⟩)
    rw [e2_match (by rw [HA.out]; omega)] at C
    refine C.mono ?_
    clear C
    rintro e w2 ⟨A2, n2, c2', rfl, hr2, hb2⟩
    obtain ⟨hbW2, hoth2, hlt2⟩ := next_world hbW1 hb2 hoth1
    clear hr2 hb2 hoth1 hbW1 hlt1
    go_wp2_with fail
    have C := app_call (W := w2) (by omega) ha hca hbW2 [hvN 1 w.heap.size o, hvN 0 w.heap.size o] 2 [.int .i64 1, .slice none 0 0, .slice (some ⟨w.heap.size, 0, none⟩) 1 1, .int .i64 0, .slice none 0 0, .slice (some ⟨w.heap.size, 0, none⟩) 1 1] rfl rfl (by omega) (by simp [newLen, hvN])
      (fun h hh => by
        have hh' : h = hvN 1 w.heap.size o ∨ h = hvN 0 w.heap.size o := by simpa using hh
        rcases hh' with rfl | rfl <;> exact ⟨Rd.none_ _ _ _, HP.out _ _ hoth2 (by omega), by simp [hvN], by simp [hvN], by simp only [hvN]; omega, by simp only [hvN]; omega⟩)
    rw [e3_match] at C
    refine C.mono ?_
    clear C
    rintro e w3 ⟨A3, n3, c3', rfl, hr3, hb3⟩
    obtain ⟨hbW3, hoth3, hlt3⟩ := next_world hbW2 hb3 hoth2
    clear hr3 hb3 hoth2 hbW2 hlt2
    go_wp2_with fail
    have C := app_call (W := w3) (by omega) ha hca hbW3 [hvE 0] 1 [.int .i64 0, .slice none 0 0, .slice none 0 0] rfl rfl (by omega) (by simp [newLen, hvE])
      (fun h hh => by
        obtain rfl : h = hvE 0 := by simpa using hh
        exact ⟨Rd.none_ _ _ _, Rd.none_ _ _ _, by simp [hvE], by simp [hvE], by simp only [hvE]; omega, by simp only [hvE]; omega⟩)
    rw [e4_match] at C
    refine C.mono ?_
    clear C
    rintro e w4 ⟨A4, n4, c4', rfl, hr4, hb4⟩
    obtain ⟨hbW4, hoth4, hlt4⟩ := next_world hbW3 hb4 hoth3
    clear hr4 hb4 hoth3 hbW3 hlt3
    go_wp2_with fail
    have C := app_call (W := w4) (by omega) ha hca hbW4 [hvN kk w.heap.size o] 1 [.int .i64 kk, .slice none 0 0, .slice (some ⟨w.heap.size, 0, none⟩) 1 1] rfl rfl (by omega) (by simp [newLen, hvN])
      (fun h hh => by
        obtain rfl : h = hvN kk w.heap.size o := by simpa using hh
        exact ⟨Rd.none_ _ _ _, HP.out _ _ hoth4 (by omega), by simp [hvN], by simp [hvN], by simp only [hvN]; omega, by simp only [hvN]; omega⟩)
    obtain ⟨f1, f2⟩ := e5_match (a := a) (k := kk) (g := w.heap.size) (o := o) (by rw [HA.out]; omega) (by omega)
    rw [f1, f2] at C
    refine C.mono ?_
    clear C f1 f2
    rintro e w5 ⟨A5, n5, c5', rfl, hr5, hb5⟩
    obtain ⟨hbW5, hoth5, hlt5⟩ := next_world hbW4 hb5 hoth4
    clear hb5 hoth4 hbW4 hlt4
    have hn5 : n + 1 = n5 := by
      have e1 := hr5.len
      have e2 := HA.out
      simp only [List.length_map, List.length_append, List.length_take, List.length_drop, List.length_cons, List.length_nil] at e1
      omega
    subst hn5
    go_wp2
    obtain ⟨b5, o5, y, rfl, hb5, hy, hyc⟩ := hr5.str (k := kk) (by omega)
    have hyo : y = o := by
      rw [List.getElem?_append_left (by rw [List.length_append, List.length_take, HA.out]; simp only [List.length_cons, List.length_nil]; omega),
        List.getElem?_append_right (by rw [List.length_take, HA.out]; omega), List.length_take, HA.out, Nat.min_eq_left hkn, Nat.sub_self] at hy
      simpa using hy.symm
    subst hyo
    clear hy hr5
    refine wp_region_q (fun w' => Below w5.heap.size w5 w') ((false, 0) :: (qs 40).tail) mixed (by kernel_rfl) (Below.refl _ _).drew ?_
    intro T M Q hT hT' hM hQ
    have m0 : M ⟨b5, o5 + kk, none⟩ = some (.string y) := hM _ _ fun w' hw => (hw.cell (p := ⟨b5, o5 + kk, none⟩) hb5).trans hyc
    have m1 : M ⟨w.heap.size, 0, none⟩ = some (.string y) := hM _ _ fun w' hw => (hw.cell (p := ⟨w.heap.size, 0, none⟩) hlt5).trans (by rw [cell_of_row w5 _ _ _ _ _ hoth5]; rfl)
    clear hM hoth5 hyc
    simp only [qcmp, List.tail_cons]
    refine eff_call (by kernel_rfl) (awake7_any _) rfl rfl ?_
    rintro e w6 ⟨rfl, hb6⟩
    have hb56 : Below w5.heap.size w5 w6 := (Below.refl _ _).drew.trans hb6
    refine ⟨_, rfl, hT _ hb56, ?_⟩
    simp (maxSteps := 5000000) only [↓qpre, qpost, qfacts, qnorm, m0, m1]
    refine ⟨⟨by omega, by omega⟩, gsym_i ?_ ?_⟩
    · intro _
      refine ⟨⟨by omega, by omega⟩, ⟨by omega, by omega⟩, hQ _ _ ?_⟩
      clear hQ hT hT' m0 m1
      go_wp2
      go_ret
      exact ⟨rfl, hbW5.trans (hb56.mono hbW5.size)⟩
    · intro hh
      exact absurd (of_decide_eq_false hh) (by omega)
end Go.Proofs.Ytabiegbbbljhlaa
