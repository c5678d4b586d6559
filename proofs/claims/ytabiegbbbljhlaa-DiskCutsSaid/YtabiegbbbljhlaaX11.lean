/- Walk: DiskCuts. -/
import Derived.Test.YtabiegbbbljhlaaX10
namespace Go.Proofs.Ytabiegbbbljhlaa
open Go.RowKit

/-- An append under a guard. -/
theorem wpl_appendG {P : Program} {w : World} {a : Act} {ops : Array Oper} {rest : List Oper} {o : Oper} {Q : Exit → Act → World → Prop} (hw : Region.wanted o (yielded ops a.tmps) = true) (s x : Operand) (t : TypeId)
    (ho : o.op = .call { callee := .builtin .append, args := #[s, x], argTypes := #[t, t] }) {e : TypeId} {size bytes : Nat} (E : Elem P t e size bytes) {base : Nat}
    {v : Value} {n : Nat} {xs : List Value} {B : Nat} {A : Option Addr} {m c : Nat} {news : List Value}
    (hs : a.eval s = v) (hx : a.eval x = .slice A m c) (hown : w.ownsRow base e size v n xs) (hr : Rd w B size A m c news) (h1 : ∀ u ∈ news, u.oneCell' = true)
    (h63 : n + m ≤ maxLen) (hbytes : (n + m) * bytes ≤ 140737488355328) (hbase : base ≤ w.heap.size)
    (hK : ∀ v' w', w'.ownsRow base e size v' (n + m) (xs ++ news) → w.grownBy w' v.ownBlock → (v'.ownBlock = v.ownBlock ∨ v'.ownBlock = some w.heap.size) → wpList P ops Q rest (a.put o.dst v') w') :
    wpList P ops Q (o :: rest) a w := by
  obtain ⟨i, z, hi, hz, hsz, hby, hzs⟩ := E.row
  obtain ⟨v', w', hrun, h2, h3, h4⟩ := run_append_rd (P := P) w base t o.type e i z size bytes E.und hi hz hsz hby hzs E.pos v n xs hown B A m c news hr h1 h63 hbytes hbase
  simp only [wpList]
  rw [if_pos hw]
  left
  unfold Oper.wp execOp
  simp only [ho, resolve, invoke, builtin, Sem.run_bind, Sem.run_pure, Result.andThen_ok, List.map_toArray, List.map_cons, List.map_nil, hs, hx, hrun]
  exact hK v' w' h2 h3 h4

/-- A disk that was never armed, with one file. -/
def D1 (a : List UInt8) (s : Nat) : PD := ⟨1000, a, s, [], 0, false, 0, [], false⟩
theorem D1_new : PD.new 1000 = D1 [] 0 := rfl
theorem D1_append {a b : List UInt8} {s : Nat} (h : a.length + b.length ≤ 1000) : (D1 a s).append 0 b = (0, D1 (a ++ b) s) := by
  unfold PD.append
  rw [if_neg (by simp [PD.ask, D1]), if_neg (by simp [PD.free, D1]; omega)]
  rfl
theorem D1_sync (a : List UInt8) (s : Nat) : (D1 a s).sync 0 = (0, D1 a a.length) := by
  unfold PD.sync
  rw [if_neg (by simp [PD.ask, D1])]
  rfl
theorem D1_read (a : List UInt8) (s : Nat) : (D1 a s).read 0 = (a, 0) := by
  unfold PD.read
  rw [if_neg (by simp [PD.ask, D1])]
  rfl
theorem D1_synced (a : List UInt8) (s : Nat) : (D1 a s).synced 0 = s := rfl

theorem D1_cut {a : List UInt8} {k : Nat} (h : k ≤ a.length) : (D1 a a.length).cut 0 (k : Int) = (0, D1 (a.take k) k) := by
  unfold PD.cut
  rw [if_neg (by simp [PD.ask, D1]), if_neg (by show ¬ ((k : Int) < 0 ∨ (a.length : Int) < k); omega)]
  show (0, PD.step ⟨1000, a.take k, min a.length k, [], 0, false, 0, [], false⟩) = _
  rw [Nat.min_eq_right h]
  rfl
theorem D1_restart (a : List UInt8) (s : Nat) : (D1 a s).restart = D1 (a.take s) s := by
  unfold PD.restart
  rw [show (D1 a s).kept 0 (D1 a s).f0 (D1 a s).s0 = s from rfl, show (D1 a s).kept 1 (D1 a s).f1 (D1 a s).s1 = 0 from rfl]
  rfl
theorem D1_free (a : List UInt8) (s : Nat) : (D1 a s).free = 1000 - (a.length : Int) := by
  show ((1000 : Nat) : Int) - a.length - (0 : Nat) = _
  omega
theorem Rd.head' {w : World} {B n c k : Nat} {A : Option Addr} {xs : List Value} (h : Rd w B 1 A n c xs) (hk : k ≤ n) : Rd w B 1 A k c (xs.take k) :=
  ⟨by have := h.len; rw [List.length_take]; omega, by have := h.cap; omega, fun h0 => by
    obtain ⟨b, o, e, hb, hc⟩ := h.at_ (by omega)
    refine ⟨b, o, e, hb, fun j u hu => hc j u ?_⟩
    rw [List.getElem?_take] at hu
    split at hu
    · exact hu
    · cases hu⟩
/-- A place in a row of n + 1. -/
theorem mod_at (t : Int) {n : Nat} (hn : n ≤ 200) : ∃ k : Nat, wrap64 ((IntKind.u64.wrap t).tmod (IntKind.u64.wrap ((n : Int) + 1))) = k ∧ k ≤ n := by
  have h0 : 0 ≤ IntKind.u64.wrap t := by rw [IntKind.wrap_u64]; omega
  have h1 : IntKind.u64.wrap ((n : Int) + 1) = (n : Int) + 1 := by rw [IntKind.wrap_u64]; omega
  rw [h1, Int.tmod_eq_emod_of_nonneg h0]
  generalize IntKind.u64.wrap t = u at *
  have : 0 ≤ u % ((n : Int) + 1) := Int.emod_nonneg _ (by omega)
  have h2 : u % ((n : Int) + 1) < (n : Int) + 1 := Int.emod_lt_of_pos _ (by omega)
  generalize u % ((n : Int) + 1) = v at *
  refine ⟨v.toNat, ?_, by omega⟩
  unfold wrap64
  omega

set_option maxRecDepth 100000 in
set_option maxHeartbeats 8000000 in
theorem diskCuts_any {A B : Option Addr} {n ca m cb : Nat} {a b : List UInt8} {t : Int} {sy : Bool} (w : World)
    (ha : Rd w w.heap.size 1 A n ca (by8 a)) (hb : Rd w w.heap.size 1 B m cb (by8 b)) :
    Calls Try.prog 11 #[.slice A n ca, .slice B m cb, .int .i64 t, .bool sy] w (BoolBelow true w) := by
  have HA := Lib.hid (show a.length = n by have := ha.len; rw [by8_len] at this; omega)
  have HB := Lib.hid (show b.length = m by have := hb.len; rw [by8_len] at this; omega)
  have hca := ha.cap
  by_cases c1 : 200 < n
  · go_enter Try.func11, Try.ntmps11
    go_wp2_with (go_at_call 33; refine (awake3_any _).mono ?_; rintro e w1 ⟨rfl, hb1⟩)
    go_ret
    exact ⟨rfl, hb1⟩
  have d1 : decide (200 < n) = false := by simpa using c1
  by_cases c2 : 200 < m
  · go_enter Try.func11, Try.ntmps11
    go_wp2_with (go_at_call 33; refine (awake3_any _).mono ?_; rintro e w1 ⟨rfl, hb1⟩)
    go_ret
    exact ⟨rfl, hb1⟩
  have d2 : decide (200 < m) = false := by simpa using c2
  have hw : IntKind.u64.wrap ((n : Int) + 1) = (n : Int) + 1 := by rw [IntKind.wrap_u64]; omega
  obtain ⟨k, hkk, hk⟩ := mod_at t (n := n) (by omega)
  rw [hw] at hkk
  go_enter Try.func11, Try.ntmps11
  -- New
  go_wp2_with fail
  rw [hkk]
  clear hkk
  refine (new_any (X := fun _ => False) (fun _ h => h.elim)).mono ?_
  rintro e w1 ⟨g, rfl, hK, hg, hb1⟩
  rw [D1_new] at hK
  have HG := Lib.hid hg
  have HB1 := Lib.hid hb1
  have HK1 := Lib.hid hK
  have hs1 := hb1.size
  clear hK hg hb1
  -- Append
  go_wp2_with fail
  refine (append_any (f := 0) HK1.out hs1 (ha.below HB1.out) (by omega)).mono ?_
  rw [D1_append (by rw [HA.out]; simp; omega), List.nil_append]
  rintro e w2 ⟨rfl, hK2, hg2⟩
  have HB2 := Lib.hid (HB1.out.grown hg2 hs1 (fun k hk => by cases hk; exact HG.out))
  have HK2 := Lib.hid hK2
  have hs2 := HB2.out.size
  clear hK2 hg2 HK1 HB1
  -- Sync
  go_wp2_with fail
  refine (sync_any (f := 0) HK2.out).mono ?_
  rw [D1_sync]
  rintro e w3 ⟨rfl, hK3, hg3⟩
  have HB3 := Lib.hid (HB2.out.grown hg3 hs2 (fun k hk => by cases hk; exact HG.out))
  have HK3 := Lib.hid hK3
  have hs3 := HB3.out.size
  clear hK3 hg3 HK2 HB2
  -- Cut
  go_wp2_with fail
  refine (cut_any (f := 0) HK3.out).mono ?_
  rw [D1_cut (by rw [HA.out]; exact hk)]
  rintro e w4 ⟨rfl, hK4, hg4⟩
  have HB4 := Lib.hid (HB3.out.grown hg4 hs3 (fun k hk => by cases hk; exact HG.out))
  have HK4 := Lib.hid hK4
  have hs4 := HB4.out.size
  have HL := Lib.hid (show (a.take k).length = k by rw [List.length_take, HA.out]; omega)
  clear hK4 hg4 HK3 HB3
  -- Append
  go_wp2_with fail
  refine (append_any (f := 0) HK4.out hs4 (hb.below HB4.out) (by omega)).mono ?_
  rw [D1_append (by rw [HL.out, HB.out]; omega)]
  rintro e w5 ⟨rfl, hK5, hg5⟩
  have HB5 := Lib.hid (HB4.out.grown hg5 hs4 (fun k hk => by cases hk; exact HG.out))
  have HK5 := Lib.hid hK5
  have hs5 := HB5.out.size
  have HLb := Lib.hid (show (a.take k ++ b).length = k + m by rw [List.length_append, HL.out, HB.out])
  clear hK5 hg5 HK4 HB4
  have hu : Tag sy := .mk
  cases sy
  · go_wp2_with fail
    refine (read_any (f := 0) HK5.out).mono ?_
    rw [D1_read]
    rintro e w6 ⟨v, rfl, ho, hbx⟩
    rw [HLb.out] at ho
    obtain ⟨A6, c6, rfl, hc6⟩ := ownsRow_cap ho
    have HV6 := Lib.hid (Rd.of_own ho hc6)
    have HK6 := Lib.hid (HK5.out.below hbx)
    have HB6 := Lib.hid (HB5.out.trans (hbx.mono hs5))
    have hs6 := HB6.out.size
    clear ho hbx HK5 HB5
    -- Restart
    go_wp2_with fail
    refine (restart_any HK6.out).mono ?_
    rw [D1_restart]
    rintro e w7 ⟨x, rfl, hKx, hgx, hbx⟩
    have HX7 := Lib.hid hKx
    have HV7 := Lib.hid (HV6.out.to hbx hbx.size)
    have HK7 := Lib.hid (HK6.out.below hbx)
    have HB7 := Lib.hid (HB6.out.trans (hbx.mono hs6))
    have hs7 := HB7.out.size
    clear hKx hgx hbx HK6 HB6 HV6
    -- Read
    go_wp2_with fail
    refine (read_any (f := 0) HX7.out).mono ?_
    rw [D1_read]
    rintro e w8 ⟨v, rfl, ho, hbx⟩
    rw [show ((a.take k ++ b).take (k)).length = k by rw [List.length_take, HLb.out]; omega] at ho
    obtain ⟨A8, c8, rfl, hc8⟩ := ownsRow_cap ho
    have HW8 := Lib.hid (Rd.of_own ho hc8)
    have HV8 := Lib.hid (HV7.out.to hbx hbx.size)
    have HK8 := Lib.hid (HK7.out.below hbx)
    have HB8 := Lib.hid (HB7.out.trans (hbx.mono hs7))
    have hs8 := HB8.out.size
    clear ho hbx HX7 HK7 HB7 HV7
    go_wp2_with fail
    refine (awake3_any _).mono ?_
    rintro e w9 ⟨rfl, hbx⟩
    have HV9 := Lib.hid (HV8.out.to hbx hbx.size)
    have HW9 := Lib.hid (HW8.out.to hbx hbx.size)
    have HK9 := Lib.hid (HK8.out.below hbx)
    have HB9 := Lib.hid (HB8.out.trans (hbx.mono hs8))
    have hs9 := HB9.out.size
    clear hbx HV8 HW8 HK8 HB8
    have HAk := Lib.hid (show Rd w9 w.heap.size 1 A k ca (by8 (a.take k)) by rw [by8_take]; exact (ha.below HB9.out).head' hk)
    have HBk := Lib.hid (hb.below HB9.out)
    go_wp2_with (first
      | (at_builtin; refine wpl_appendG rfl (.const (.slice none 0 0)) (.tmp 86) 48 rfl E48 (base := w9.heap.size) rfl rfl (World.ownsRow_nil _ _ _ _) HAk.out (by8_one _) (by simp only [maxLen]; omega) (by omega) (Nat.le_refl _) ?_; intro v1 w10 ho1 hg1 hat1)
      | (at_builtin; refine wpl_appendG rfl (.tmp 87) (.tmp 88) 48 rfl E48 (base := w9.heap.size) rfl rfl ho1 (HBk.out.below ((Below.refl w9.heap.size w9).grown hg1 (Nat.le_refl _) (fun k hk => by cases hk) |>.mono hs9)) (by8_one _) (by simp only [maxLen]; omega) (by omega) hg1.size ?_; intro v2 w10' ho2 hg2 hat2))
    rw [Nat.zero_add, List.nil_append, ← by8_app] at ho2
    have hb1 : Below w9.heap.size w9 w10 := (Below.refl w9.heap.size w9).grown hg1 (Nat.le_refl _) (fun k hk => by cases hk)
    have hb2 : Below w9.heap.size w9 w10' := hb1.grown hg2 hg1.size (fun k hk => (ho1.lt k hk).1)
    obtain ⟨At, ct, rfl, hct⟩ := ownsRow_cap ho2
    have HVt := Lib.hid (Rd.of_own ho2 hct)
    have HV10 := Lib.hid (HV9.out.to hb2 hb2.size)
    have HW10 := Lib.hid (HW9.out.to hb2 hb2.size)
    have HU10 := Lib.hid (HAk.out.to (hb2.mono hs9) (Nat.le_trans hs9 hb2.size))
    have HK10 := Lib.hid (HK9.out.below hb2)
    have HB10 := Lib.hid (HB9.out.trans (hb2.mono hs9))
    clear hb1 hb2 ho1 ho2 hg1 hg2 hat1 hat2 HAk HBk HK9 HB9 HV9 HW9
    refine (bytes_any HV10.out HVt.out).mono ?_
    rintro e wa ⟨rfl, rfl⟩
    rw [decide_eq_true rfl]
    go_wp2_with fail
    refine (bytes_any HW10.out HU10.out).mono ?_
    rintro e wb ⟨rfl, rfl⟩
    rw [decide_eq_true (List.take_left' HL.out)]
    go_wp2_with fail
    refine (free_any HK10.out).mono ?_
    rintro e wc ⟨rfl, hbc⟩
    rw [D1_free, HLb.out]
    have HBc := Lib.hid (HB10.out.trans (hbc.mono HB10.out.size))
    clear hbc
    go_wp2
    go_ret
    exact ⟨by simp; omega, HBc.out⟩
  · go_wp2_with fail
    refine (sync_any (f := 0) HK5.out).mono ?_
    rw [D1_sync, HLb.out]
    rintro e w6 ⟨rfl, hK6, hg6⟩
    have HB6 := Lib.hid (HB5.out.grown hg6 hs5 (fun k hk => by cases hk; exact HG.out))
    have HK6 := Lib.hid hK6
    have hs6 := HB6.out.size
    clear hK6 hg6 HK5 HB5
    go_wp2_with fail
    refine (read_any (f := 0) HK6.out).mono ?_
    rw [D1_read]
    rintro e w7 ⟨v, rfl, ho, hbx⟩
    rw [HLb.out] at ho
    obtain ⟨A6, c6, rfl, hc6⟩ := ownsRow_cap ho
    have HV7 := Lib.hid (Rd.of_own ho hc6)
    have HK7 := Lib.hid (HK6.out.below hbx)
    have HB7 := Lib.hid (HB6.out.trans (hbx.mono hs6))
    have hs7 := HB7.out.size
    clear ho hbx HK6 HB6
    -- Restart
    go_wp2_with fail
    refine (restart_any HK7.out).mono ?_
    rw [D1_restart]
    rintro e w8 ⟨x, rfl, hKx, hgx, hbx⟩
    have HX8 := Lib.hid hKx
    have HV8 := Lib.hid (HV7.out.to hbx hbx.size)
    have HK8 := Lib.hid (HK7.out.below hbx)
    have HB8 := Lib.hid (HB7.out.trans (hbx.mono hs7))
    have hs8 := HB8.out.size
    clear hKx hgx hbx HK7 HB7 HV7
    -- Read
    go_wp2_with fail
    refine (read_any (f := 0) HX8.out).mono ?_
    rw [D1_read]
    rintro e w9 ⟨v, rfl, ho, hbx⟩
    rw [show ((a.take k ++ b).take (k + m)).length = k + m by rw [List.length_take, HLb.out]; omega] at ho
    obtain ⟨A8, c8, rfl, hc8⟩ := ownsRow_cap ho
    have HW9 := Lib.hid (Rd.of_own ho hc8)
    have HV9 := Lib.hid (HV8.out.to hbx hbx.size)
    have HK9 := Lib.hid (HK8.out.below hbx)
    have HB9 := Lib.hid (HB8.out.trans (hbx.mono hs8))
    have hs9 := HB9.out.size
    clear ho hbx HX8 HK8 HB8 HV8
    have HAk := Lib.hid (show Rd w9 w.heap.size 1 A k ca (by8 (a.take k)) by rw [by8_take]; exact (ha.below HB9.out).head' hk)
    have HBk := Lib.hid (hb.below HB9.out)
    go_wp2_with (first
      | (at_builtin; refine wpl_append rfl (.const (.slice none 0 0)) (.tmp 69) 48 rfl E48 (base := w9.heap.size) rfl rfl (World.ownsRow_nil _ _ _ _) HAk.out (by8_one _) (by simp only [maxLen]; omega) (by omega) (Nat.le_refl _) ?_; intro v1 w10 ho1 hg1 hat1)
      | (at_builtin; refine wpl_append rfl (.tmp 70) (.tmp 71) 48 rfl E48 (base := w9.heap.size) rfl rfl ho1 (HBk.out.below ((Below.refl w9.heap.size w9).grown hg1 (Nat.le_refl _) (fun k hk => by cases hk) |>.mono hs9)) (by8_one _) (by simp only [maxLen]; omega) (by omega) hg1.size ?_; intro v2 w10' ho2 hg2 hat2))
    rw [Nat.zero_add, List.nil_append, ← by8_app] at ho2
    have hb1 : Below w9.heap.size w9 w10 := (Below.refl w9.heap.size w9).grown hg1 (Nat.le_refl _) (fun k hk => by cases hk)
    have hb2 : Below w9.heap.size w9 w10' := hb1.grown hg2 hg1.size (fun k hk => (ho1.lt k hk).1)
    obtain ⟨At, ct, rfl, hct⟩ := ownsRow_cap ho2
    have HU10 := Lib.hid (Rd.of_own ho2 hct)
    have HV10 := Lib.hid (HV9.out.to hb2 hb2.size)
    have HW10 := Lib.hid (HW9.out.to hb2 hb2.size)
    have HK10 := Lib.hid (HK9.out.below hb2)
    have HB10 := Lib.hid (HB9.out.trans (hb2.mono hs9))
    have hs10 := HB10.out.size
    clear hb1 hb2 ho1 ho2 hg1 hg2 hat1 hat2 HAk HBk HK9 HB9 HV9 HW9
    refine (awake3_any _).mono ?_
    rintro e w11 ⟨rfl, hbx⟩
    have HV11 := Lib.hid (HV10.out.to hbx hbx.size)
    have HW11 := Lib.hid (HW10.out.to hbx hbx.size)
    have HU11 := Lib.hid (HU10.out.to hbx hbx.size)
    have HK11 := Lib.hid (HK10.out.below hbx)
    have HB11 := Lib.hid (HB10.out.trans (hbx.mono hs10))
    have hs11 := HB11.out.size
    clear hbx HV10 HW10 HK10 HB10 HU10
    have HAk := Lib.hid (show Rd w11 w.heap.size 1 A k ca (by8 (a.take k)) by rw [by8_take]; exact (ha.below HB11.out).head' hk)
    have HBk := Lib.hid (hb.below HB11.out)
    go_wp2_with (first
      | (at_builtin; refine wpl_appendG rfl (.const (.slice none 0 0)) (.tmp 86) 48 rfl E48 (base := w11.heap.size) rfl rfl (World.ownsRow_nil _ _ _ _) HAk.out (by8_one _) (by simp only [maxLen]; omega) (by omega) (Nat.le_refl _) ?_; intro v1 w12 ho1 hg1 hat1)
      | (at_builtin; refine wpl_appendG rfl (.tmp 87) (.tmp 88) 48 rfl E48 (base := w11.heap.size) rfl rfl ho1 (HBk.out.below ((Below.refl w11.heap.size w11).grown hg1 (Nat.le_refl _) (fun k hk => by cases hk) |>.mono hs11)) (by8_one _) (by simp only [maxLen]; omega) (by omega) hg1.size ?_; intro v2 w12' ho2 hg2 hat2))
    rw [Nat.zero_add, List.nil_append, ← by8_app] at ho2
    have hb1 : Below w11.heap.size w11 w12 := (Below.refl w11.heap.size w11).grown hg1 (Nat.le_refl _) (fun k hk => by cases hk)
    have hb2 : Below w11.heap.size w11 w12' := hb1.grown hg2 hg1.size (fun k hk => (ho1.lt k hk).1)
    obtain ⟨At, ct, rfl, hct⟩ := ownsRow_cap ho2
    have HVt := Lib.hid (Rd.of_own ho2 hct)
    have HV12 := Lib.hid (HV11.out.to hb2 hb2.size)
    have HW12 := Lib.hid (HW11.out.to hb2 hb2.size)
    have HU12 := Lib.hid (HU11.out.to hb2 hb2.size)
    have HK12 := Lib.hid (HK11.out.below hb2)
    have HB12 := Lib.hid (HB11.out.trans (hb2.mono hs11))
    clear hb1 hb2 ho1 ho2 hg1 hg2 hat1 hat2 HAk HBk HK11 HB11 HV11 HW11
    refine (bytes_any HV12.out HVt.out).mono ?_
    rintro e wa ⟨rfl, rfl⟩
    rw [decide_eq_true rfl]
    go_wp2_with fail
    refine (bytes_any HW12.out HU12.out).mono ?_
    rintro e wb ⟨rfl, rfl⟩
    rw [decide_eq_true (List.take_of_length_le (Nat.le_of_eq HLb.out))]
    go_wp2_with fail
    refine (free_any HK12.out).mono ?_
    rintro e wc ⟨rfl, hbc⟩
    rw [D1_free, HLb.out]
    have HBc := Lib.hid (HB12.out.trans (hbc.mono HB12.out.size))
    clear hbc
    go_wp2
    go_ret
    exact ⟨by simp; omega, HBc.out⟩
end Go.Proofs.Ytabiegbbbljhlaa
