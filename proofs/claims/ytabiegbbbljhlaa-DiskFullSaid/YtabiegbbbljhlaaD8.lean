/- Walk: DiskForks. -/
import Derived.Test.YtabiegbbbljhlaaD7
namespace Go.Proofs.Ytabiegbbbljhlaa
open Go.RowKit

/-- An append under a guard. -/
theorem wpl_appendG {P : Program} {w : World} {a : Act} {ops : Array Oper} {rest : List Oper} {o : Oper} {Q : Exit → Act → World → Prop} (hw : Region.wanted o (yielded ops a.tmps) = true) (s x : Operand) (t : TypeId)
    (ho : o.op = .call { callee := .builtin .append, args := #[s, x], argTypes := #[t, t] }) {e : TypeId} {size bytes : Nat} (E : Elem P t e size bytes) {base : Nat}
    {v : Value} {n : Nat} {xs : List Value} {B : Nat} {A : Option Addr} {m c : Nat} {news : List Value}
    (hs : a.eval s = v) (hx : a.eval x = .slice A m c) (hown : w.ownsRow base e size v n xs) (hr : Rd w B size A m c news) (h1 : ∀ u ∈ news, u.oneCell' = true)
    (h63 : n + m ≤ maxLen) (hbytes : (n + m) * bytes ≤ 140737488355328) (hbase : base ≤ w.heap.size)
    (hK : ∀ v' w', w'.ownsRow base e size v' (n + m) (xs ++ news) → w.grownBy w' v.ownBlock → (v'.ownBlock = v.ownBlock ∨ v'.ownBlock = some w.heap.size) → wpList P ops Q rest (a.put o.dst v') w') :
    wpList P ops Q (o :: rest) a w := by
  obtain ⟨i, z, hi, hz, hsz, hby, hzs⟩ := E.row
  obtain ⟨v', w', hrun, h2, h3, h4⟩ := run_append_rd (P := P) w base t o.type e i z size bytes E.und hi hz hsz hby hzs E.pos v n xs hown B A m c news hr h1 h63 hbytes hbase
  simp only [wpList]
  rw [if_pos hw]
  left
  unfold Oper.wp execOp
  simp only [ho, resolve, invoke, builtin, Sem.run_bind, Sem.run_pure, Result.andThen_ok, List.map_toArray, List.map_cons, List.map_nil, hs, hx, hrun]
  exact hK v' w' h2 h3 h4

/-- A disk that was never armed, with one file. -/
def D1 (a : List UInt8) (s : Nat) : PD := ⟨1000, a, s, [], 0, false, 0, [], false⟩
theorem D1_new : PD.new 1000 = D1 [] 0 := rfl
theorem D1_append {a b : List UInt8} {s : Nat} (h : a.length + b.length ≤ 1000) : (D1 a s).append 0 b = (0, D1 (a ++ b) s) := by
  unfold PD.append
  rw [if_neg (by simp [PD.ask, D1]), if_neg (by simp [PD.free, D1]; omega)]
  rfl
theorem D1_sync (a : List UInt8) (s : Nat) : (D1 a s).sync 0 = (0, D1 a a.length) := by
  unfold PD.sync
  rw [if_neg (by simp [PD.ask, D1])]
  rfl
theorem D1_read (a : List UInt8) (s : Nat) : (D1 a s).read 0 = (a, 0) := by
  unfold PD.read
  rw [if_neg (by simp [PD.ask, D1])]
  rfl
theorem D1_synced (a : List UInt8) (s : Nat) : (D1 a s).synced 0 = s := rfl

set_option maxRecDepth 100000 in
set_option maxHeartbeats 8000000 in
theorem diskForks_any {A B : Option Addr} {n ca m cb : Nat} {a b : List UInt8} (w : World)
    (ha : Rd w w.heap.size 1 A n ca (by8 a)) (hb : Rd w w.heap.size 1 B m cb (by8 b)) :
    Calls Try.prog 8 #[.slice A n ca, .slice B m cb] w (BoolBelow true w) := by
  have HA := Lib.hid (show a.length = n by have := ha.len; rw [by8_len] at this; omega)
  have HB := Lib.hid (show b.length = m by have := hb.len; rw [by8_len] at this; omega)
  by_cases c0 : n = 0
  · subst c0
    go_enter Try.func8, Try.ntmps8
    go_wp2_with (go_at_call 33; refine (awake3_any _).mono ?_; rintro e w1 ⟨rfl, hb1⟩)
    go_ret
    exact ⟨rfl, hb1⟩
  obtain ⟨z1, z2⟩ := int_ne (u := (n : Int)) (v := 0) (by omega)
  by_cases c1 : 200 < n
  · go_enter Try.func8, Try.ntmps8
    go_wp2_with (go_at_call 33; refine (awake3_any _).mono ?_; rintro e w1 ⟨rfl, hb1⟩)
    go_ret
    exact ⟨rfl, hb1⟩
  have d1 : decide (200 < n) = false := by simpa using c1
  by_cases c2 : 200 < m
  · go_enter Try.func8, Try.ntmps8
    go_wp2_with (go_at_call 33; refine (awake3_any _).mono ?_; rintro e w1 ⟨rfl, hb1⟩)
    go_ret
    exact ⟨rfl, hb1⟩
  have d2 : decide (200 < m) = false := by simpa using c2
  go_enter Try.func8, Try.ntmps8
  -- New
  go_wp2_with fail
  refine (new_any (N := w.heap.size) (Nat.le_refl _)).mono ?_
  rintro e w1 ⟨g, rfl, hK, hg, hb1⟩
  rw [D1_new] at hK
  have HG := Lib.hid hg
  have HB1 := Lib.hid hb1
  have HK1 := Lib.hid hK
  have hs1 := hb1.size
  clear hK hg hb1
  -- Append
  go_wp2_with fail
  refine (append_any (f := 0) HK1.out hs1 (ha.below HB1.out) (by omega)).mono ?_
  rw [D1_append (by rw [HA.out]; simp; omega), List.nil_append]
  rintro e w2 ⟨rfl, hK2, hg2⟩
  have HB2 := Lib.hid (HB1.out.grown hg2 hs1 (fun k hk => by cases hk; exact HG.out))
  have HK2 := Lib.hid hK2
  have hs2 := HB2.out.size
  clear hK2 hg2 HK1 HB1
  -- Fork
  go_wp2_with fail
  refine (fork_any HK2.out).mono ?_
  rintro e w3 ⟨g2, rfl, hK3, hg3, hb3⟩
  have hgl := HK2.out.lt
  have HNE := Lib.hid (show g ≠ g2 by omega)
  have HG2 := Lib.hid (show w.heap.size ≤ g2 by omega)
  have HK3 := Lib.hid (HK2.out.below hb3)
  have HF3 := Lib.hid hK3
  have HB3 := Lib.hid (HB2.out.trans (hb3.mono hs2))
  have hs3 := HB3.out.size
  clear hK3 hg3 hb3 HK2 HB2 hgl
  -- Append to the fork
  go_wp2_with fail
  refine (append_any (f := 0) HF3.out hs3 (hb.below HB3.out) (by omega)).mono ?_
  rw [D1_append (by rw [HA.out, HB.out]; omega)]
  rintro e w4 ⟨rfl, hK4, hg4⟩
  have HB4 := Lib.hid (HB3.out.grown hg4 hs3 (fun k hk => by cases hk; exact HG2.out))
  have HF4 := Lib.hid hK4
  have HK4 := Lib.hid (HK3.out.grown hg4 HF3.out HNE.out)
  have hs4 := HB4.out.size
  clear hK4 hg4 HK3 HF3 HB3
  -- Sync the fork
  go_wp2_with fail
  refine (sync_any (f := 0) HF4.out).mono ?_
  rw [D1_sync]
  rintro e w5 ⟨rfl, hK5, hg5⟩
  have HB5 := Lib.hid (HB4.out.grown hg5 hs4 (fun k hk => by cases hk; exact HG2.out))
  have HF5 := Lib.hid hK5
  have HK5 := Lib.hid (HK4.out.grown hg5 HF4.out HNE.out)
  have hs5 := HB5.out.size
  clear hK5 hg5 HK4 HF4 HB4
  -- Read
  go_wp2_with fail
  refine (read_any (f := 0) HK5.out).mono ?_
  rw [D1_read]
  rintro e w6 ⟨v, rfl, ho, hb6⟩
  rw [HA.out] at ho
  obtain ⟨gx, cx, rfl, hgx, hlx⟩ := ho.form (by omega)
  obtain ⟨x0, hx0⟩ : ∃ x0 : UInt8, (by8 a)[0]? = some (.int .u8 x0.toNat) := by
    have hl := HA.out
    cases a with
    | nil => simp at hl; omega
    | cons x l => exact ⟨x, rfl⟩
  have q0 : w6.cell? ⟨gx, 0, none⟩ = some (.int .u8 x0.toNat) := by rw [ho.cellAt 0 (by omega), hx0]
  have q1 : w6.frozen? ⟨gx, 0, none⟩ = false := ho.frozenAt _
  have HX := Lib.hid (show ∀ u, Below w5.heap.size w5 (w6.setCell ⟨gx, 0, none⟩ u) from fun u => hb6.grown (set_grown w6 gx 0 u) hb6.size (fun k hk => by cases hk; exact hgx))
  clear ho hb6 hgx hlx hx0
  go_wp2_with fail
  generalize Value.int IntKind.u8 (bits BinOp.xor IntKind.u8 (x0.toNat : Int) 1) = ux
  have hbx := HX.out ux
  clear HX q0 q1
  generalize w6.setCell ⟨gx, 0, none⟩ ux = w7 at *
  have HB7 := Lib.hid (HB5.out.trans (hbx.mono hs5))
  have HK7 := Lib.hid (HK5.out.below hbx)
  have HF7 := Lib.hid (HF5.out.below hbx)
  have hs7 := HB7.out.size
  clear hbx HB5 HK5 HF5 w6
  -- y
  refine (read_any (f := 0) HK7.out).mono ?_
  rw [D1_read]
  rintro e w8 ⟨vy, rfl, hoy, hb8⟩
  rw [HA.out] at hoy
  obtain ⟨Ay, cy, rfl, hcy⟩ := ownsRow_cap hoy
  have HY8 := Lib.hid (Rd.of_own hoy hcy)
  have HB8 := Lib.hid (HB7.out.trans (hb8.mono hs7))
  have HK8 := Lib.hid (HK7.out.below hb8)
  have HF8 := Lib.hid (HF7.out.below hb8)
  have hs8 := HB8.out.size
  clear hb8 HB7 HK7 HF7 hoy
  -- z
  go_wp2_with fail
  refine (read_any (f := 0) HF8.out).mono ?_
  rw [D1_read]
  rintro e w9 ⟨vz, rfl, hoz, hb9⟩
  rw [show (a ++ b).length = n + m by rw [List.length_append, HA.out, HB.out]] at hoz
  obtain ⟨Az, cz, rfl, hcz⟩ := ownsRow_cap hoz
  have HZ9 := Lib.hid (Rd.of_own hoz hcz)
  have HY9 := Lib.hid (HY8.out.to hb9 hb9.size)
  have HB9 := Lib.hid (HB8.out.trans (hb9.mono hs8))
  have HK9 := Lib.hid (HK8.out.below hb9)
  have HF9 := Lib.hid (HF8.out.below hb9)
  have hs9 := HB9.out.size
  clear hb9 HB8 HK8 HF8 hoz HY8
  -- awake
  go_wp2_with fail
  refine (awake3_any _).mono ?_
  rintro e w10 ⟨rfl, hb10⟩
  have HZ10 := Lib.hid (HZ9.out.to hb10 hb10.size)
  have HY10 := Lib.hid (HY9.out.to hb10 hb10.size)
  have HB10 := Lib.hid (HB9.out.trans (hb10.mono hs9))
  have HK10 := Lib.hid (HK9.out.below hb10)
  have HF10 := Lib.hid (HF9.out.below hb10)
  have hs10 := HB10.out.size
  clear hb10 HB9 HK9 HF9 HY9 HZ9
  have HA10 := Lib.hid (ha.to HB10.out hs10)
  have HBb10 := Lib.hid (hb.below HB10.out)
  have HAa10 := Lib.hid (ha.below HB10.out)
  -- y is a
  go_wp2_with fail
  refine (bytes_any HY10.out HA10.out).mono ?_
  rintro e w11 ⟨rfl, rfl⟩
  rw [decide_eq_true rfl]
  -- z is a, and b behind it
  go_wp2_with (first
    | (at_builtin; refine wpl_appendG rfl (.const (.slice none 0 0)) (.tmp 79) 48 rfl E48 (base := w11.heap.size) rfl rfl (World.ownsRow_nil _ _ _ _) HAa10.out (by8_one _) (by simp only [maxLen]; omega) (by omega) (Nat.le_refl _) ?_; intro v12 w12 ho12 hg12 hat12)
    | (at_builtin; refine wpl_appendG rfl (.tmp 80) (.tmp 81) 48 rfl E48 (base := w11.heap.size) rfl rfl ho12 (HBb10.out.below ((HB10.out.grown hg12 hs10 (fun k hk => by cases hk)) |> fun h => (Below.refl w11.heap.size w11).grown hg12 (Nat.le_refl _) (fun k hk => by cases hk) |>.mono hs10)) (by8_one _) (by simp only [maxLen]; omega) (by omega) hg12.size ?_; intro v13 w13 ho13 hg13 hat13))
  rw [Nat.zero_add, List.nil_append, ← by8_app] at ho13
  have hb12 : Below w11.heap.size w11 w12 := (Below.refl w11.heap.size w11).grown hg12 (Nat.le_refl _) (fun k hk => by cases hk)
  have hb13 : Below w11.heap.size w11 w13 := hb12.grown hg13 hg12.size (fun k hk => (ho12.lt k hk).1)
  obtain ⟨A13, c13, rfl, hc13⟩ := ownsRow_cap ho13
  have HV13 := Lib.hid (Rd.of_own ho13 hc13)
  have HZ13 := Lib.hid (HZ10.out.to hb13 hb13.size)
  have HB13 := Lib.hid (HB10.out.trans (hb13.mono hs10))
  have HK13 := Lib.hid (HK10.out.below hb13)
  have HF13 := Lib.hid (HF10.out.below hb13)
  clear hb12 hb13 ho12 ho13 hg12 hg13 hat12 hat13 HY10 HZ10 HB10 HK10 HF10 HBb10 HAa10 HA10
  refine (bytes_any HZ13.out HV13.out).mono ?_
  rintro e w14 ⟨rfl, rfl⟩
  rw [decide_eq_true rfl]
  go_wp2_with fail
  refine (synced_any HK13.out).mono ?_
  rintro e w15 ⟨rfl, rfl⟩
  rw [D1_synced]
  go_wp2_with fail
  refine (synced_any HF13.out).mono ?_
  rintro e w16 ⟨rfl, rfl⟩
  rw [D1_synced, show (a ++ b).length = n + m by rw [List.length_append, HA.out, HB.out]]
  go_wp2
  go_ret
  exact ⟨by simp, HB13.out⟩
end Go.Proofs.Ytabiegbbbljhlaa
