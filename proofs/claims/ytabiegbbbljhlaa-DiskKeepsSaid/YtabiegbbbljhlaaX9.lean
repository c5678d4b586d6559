/- Walk: DiskKeeps. -/
import Derived.Test.YtabiegbbbljhlaaX8
import Derived.Test.YtabiegbbbljhlaaR3
namespace Go.Proofs.Ytabiegbbbljhlaa
open Go.RowKit

theorem mod_nat' (t : Int) (m : Nat) (hm : 0 < m) (hm2 : m ≤ 1000000) : ∃ kk : Nat, wrap64 ((IntKind.u64.wrap t).tmod m) = kk ∧ kk < m := by
  have h0 : 0 ≤ IntKind.u64.wrap t := by rw [IntKind.wrap_u64]; omega
  rw [Int.tmod_eq_emod_of_nonneg h0]
  generalize IntKind.u64.wrap t = u at *
  have : 0 ≤ u % (m : Int) := Int.emod_nonneg _ (by omega)
  have h2 : u % (m : Int) < m := Int.emod_lt_of_pos _ (by omega)
  generalize u % (m : Int) = v at *
  refine ⟨v.toNat, ?_, by omega⟩
  unfold wrap64
  omega
/-- Another block, of the law's own, was written; maybe a new one. -/
theorem DK.row {X : Nat → Prop} {g : Nat} {w w' : World} {d : PD} {row row' : Option Nat} (h : DK X w g d) (hg : w.grownBy w' row) (hrow : ∀ b, row = some b → X b ∧ b ≠ g) (hr : row' = row ∨ row' = some w.heap.size) (hl : ∀ b, row' = some b → b < w'.heap.size) :
    ∃ X' : Nat → Prop, DK X' w' g d ∧ (∀ b, row' = some b → X' b ∧ b ≠ g) ∧ ∀ b, X' b → X b ∨ b = w.heap.size := by
  obtain ⟨A0, c0, A1, c1, Ak, ck, h⟩ := h
  have hgl := h.lt
  have hblk : w'.heap[g]? = w.heap[g]? := hg.block g hgl (fun e => (hrow g e.symm).2 rfl)
  have key : ∀ {X' : Nat → Prop} {e : TypeId} {A : Option Addr} {n c : Nat} {xs : List Value}, (∀ b, b < w.heap.size → (X' b ↔ X b)) → Dat X e w A n c xs → Dat X' e w' A n c xs := fun hx hd =>
    (hd.ext (fun b hb hx' => (hx b hb).1 hx')).same hg.size fun b hl hn => hg.block b hl fun e => hn ((hx b hl).2 (hrow b e.symm).1)
  rcases hr with rfl | hr
  · refine ⟨X, ⟨A0, c0, A1, c1, Ak, ck, hblk.trans h.blk, h.base, fun b hb => Nat.lt_of_lt_of_le (h.bnd b hb) hg.size, key (fun _ _ => Iff.rfl) h.d0, key (fun _ _ => Iff.rfl) h.d1, key (fun _ _ => Iff.rfl) h.dk, h.wf⟩, hrow, fun b hb => .inl hb⟩
  · have hx : ∀ b, b < w.heap.size → ((X b ∨ b = w.heap.size) ↔ X b) := fun b hb => ⟨fun h => h.elim id (fun h => by omega), .inl⟩
    refine ⟨fun b => X b ∨ b = w.heap.size, ⟨A0, c0, A1, c1, Ak, ck, hblk.trans h.blk, .inl h.base, fun b hb => ?_, key hx h.d0, key hx h.d1, key hx h.dk, h.wf⟩, fun b hb => ?_, fun b hb => hb⟩
    · rcases hb with hb | hb
      · exact Nat.lt_of_lt_of_le (h.bnd b hb) hg.size
      · subst hb; exact hl _ hr
    · rw [hr] at hb
      cases hb
      exact ⟨.inr rfl, by omega⟩

/-- What stays. -/
structure Like (d d' : PD) : Prop where
  armed : d'.armed = d.armed
  keep : d'.keep = d.keep
theorem step_like (d : PD) : Like d d.step ∧ d.step.f1 = d.f1 ∧ d.step.s1 = d.s1 := by
  unfold PD.step; split <;> exact ⟨⟨rfl, rfl⟩, rfl, rfl⟩
theorem app1 (d : PD) (b : List UInt8) : ((d.append 1 b).1 = 0 ∧ Like d (d.append 1 b).2 ∧ (d.append 1 b).2.f1 = d.f1 ++ b ∧ (d.append 1 b).2.s1 = d.s1) ∨ ((d.append 1 b).1 ≠ 0 ∧ (d.append 1 b).2 = d) := by
  unfold PD.append
  split
  · right; exact ⟨by assumption, rfl⟩
  · split
    · right; exact ⟨by simp, rfl⟩
    · left
      obtain ⟨⟨h1, h2⟩, h3, h4⟩ := step_like (d.put 1 (d.file 1 ++ b) (d.syn 1))
      exact ⟨rfl, ⟨h1, h2⟩, h3, h4⟩
theorem syn1 (d : PD) : ((d.sync 1).1 = 0 ∧ Like d (d.sync 1).2 ∧ (d.sync 1).2.f1 = d.f1 ∧ (d.sync 1).2.s1 = d.f1.length) ∨ ((d.sync 1).1 ≠ 0 ∧ (d.sync 1).2 = d) := by
  unfold PD.sync
  split
  · right; exact ⟨by assumption, rfl⟩
  · left
    obtain ⟨⟨h1, h2⟩, h3, h4⟩ := step_like (d.put 1 (d.file 1) (d.file 1).length)
    exact ⟨rfl, ⟨h1, h2⟩, h3, h4⟩
theorem armK (st : Int) (keep : List Int) : ((PD.new 1000000).arm st keep).armed = true ∧ ((PD.new 1000000).arm st keep).keep = keep ∧ ((PD.new 1000000).arm st keep).f1 = [] ∧ ((PD.new 1000000).arm st keep).s1 = 0 := by
  unfold PD.arm
  rw [if_neg (by simp [PD.new])]
  exact ⟨rfl, rfl, rfl, rfl⟩

theorem Rd.take {w : World} {B n c k : Nat} {A : Option Addr} {xs : List Value} (h : Rd w B 1 A n c xs) (hk : k ≤ n) : Rd w B 1 A k c (xs.take k) :=
  ⟨by have := h.len; rw [List.length_take]; omega, by have := h.cap; omega, fun h0 => by
    obtain ⟨b, o, e, hb, hc⟩ := h.at_ (by omega)
    refine ⟨b, o, e, hb, fun j u hu => hc j u ?_⟩
    rw [List.getElem?_take] at hu
    split at hu
    · exact hu
    · cases hu⟩
theorem restart_says (d : PD) : d.restart.read 1 = (d.f1.take (d.kept 1 d.f1 d.s1), 0) ∧ d.restart.down = false ∧ d.restart.synced 1 = d.kept 1 d.f1 d.s1 := by
  refine ⟨?_, rfl, rfl⟩
  unfold PD.read
  rw [if_neg (by simp [PD.ask, PD.restart])]
  rfl

theorem rowStep {X : Nat → Prop} {g base n N N' : Nat} {w w4 w5 : World} {d : PD} {v v5 : Value} {xs ys ys' : List Value} (HK : Hid (DK X w4 g d)) (HX : Hid (∀ b, v.ownBlock = some b → X b ∧ b ≠ g)) (HO : Hid (w4.ownsRow base 5 1 v n xs)) (HB : Hid (Below base w w4)) (hb : base ≤ w4.heap.size)
    (ho : w5.ownsRow base 5 1 v5 N' ys') (hN : N' = N) (hy : ys' = ys) (hg : w4.grownBy w5 v.ownBlock) (hat : v5.ownBlock = v.ownBlock ∨ v5.ownBlock = some w4.heap.size) :
    ∃ X' A c, v5 = .slice A N c ∧ Hid (DK X' w5 g d) ∧ Hid (∀ b, (Value.slice A N c).ownBlock = some b → X' b ∧ b ≠ g) ∧ Hid (w5.ownsRow base 5 1 (.slice A N c) N ys) ∧ Hid (Below base w w5) ∧ Hid (N ≤ c) := by
  subst hN hy
  obtain ⟨A, c, rfl, hc⟩ := ownsRow_cap ho
  obtain ⟨X', hK, hx, _⟩ := HK.out.row hg HX.out hat (fun b hb => (ho.lt b hb).2)
  exact ⟨X', A, c, rfl, Lib.hid hK, Lib.hid hx, Lib.hid ho, Lib.hid (HB.out.grown hg hb (fun k hk => (HO.out.lt k hk).1)), Lib.hid hc⟩
theorem nilStep {X : Nat → Prop} {g base n N N' : Nat} {w w6 w7 : World} {d : PD} {v v7 : Value} {xs ys' : List Value} (HK : Hid (DK X w6 g d)) (HO : Hid (w6.ownsRow base 5 1 v n xs)) (HB : Hid (Below base w w6)) (hb : base ≤ w6.heap.size)
    (ho : w7.ownsRow w6.heap.size 5 1 v7 N' ys') (hN : N' = N) (hg : w6.grownBy w7 none) :
    ∃ A c, v7 = .slice A N c ∧ Hid (DK X w7 g d) ∧ Hid (w7.ownsRow base 5 1 v n xs) ∧ Hid (Below base w w7) := by
  subst hN
  obtain ⟨A, c, rfl, hc⟩ := ownsRow_cap ho
  have hb7 := (Below.refl w6.heap.size w6).grown hg (Nat.le_refl _) (fun k hk => by cases hk)
  refine ⟨A, c, rfl, Lib.hid (HK.out.below hb7), Lib.hid (HO.out.kept hg ?_), Lib.hid (HB.out.trans (hb7.mono hb))⟩
  cases h : v.ownBlock
  · exact .inl rfl
  · exact .inr (by simp)

set_option maxRecDepth 100000 in
set_option maxHeartbeats 8000000 in
theorem diskKeeps_any {P S K : Option Addr} {np cp ns cs nk ck : Nat} {ps : List BP} {ss : List Bool} {keep : List Int} {t : Int} (w : World)
    (hp : Rd w w.heap.size 1 P np cp (ps.map BP.cell)) (hpp : ∀ p ∈ ps, Rd w w.heap.size 1 p.A p.l.length p.c (by8 p.l)) (hs : Rd w w.heap.size 1 S ns cs (ss.map .bool))
    (hk : Rd w w.heap.size 1 K nk ck (i64s keep)) (hkb : ∀ k ∈ keep, -9223372036854775808 ≤ k ∧ k ≤ 9223372036854775807) :
    Calls Try.prog 10 #[.slice P np cp, .slice S ns cs, .int .i64 t, .slice K nk ck] w (BoolBelow true w) := by
  have HPL := Lib.hid (show ps.length = np by have := hp.len; simpa using this)
  have HSL := Lib.hid (show ss.length = ns by have := hs.len; simpa using this)
  have HKL := Lib.hid (show keep.length = nk by have := hk.len; rw [i64s_len] at this; omega)
  by_cases c10 : 10 < nk
  · go_enter Try.func10, Try.ntmps10
    go_wp2_with fail
    refine (new_any (X := fun _ => False) (fun _ h => h.elim)).mono ?_
    rintro e w1 ⟨g, rfl, hK, hg, hb1⟩
    go_wp2_with fail
    refine (awake3_any _).mono ?_
    rintro e w2 ⟨rfl, hb2⟩
    go_wp2_with fail
    refine (awake3_any _).mono ?_
    rintro e w3 ⟨rfl, hb3⟩
    go_wp2
    go_ret
    have h1 := hb1.size
    have h2 := hb2.size
    exact ⟨rfl, (hb1.trans (hb2.mono h1)).trans (hb3.mono (by omega))⟩
  have d10 : decide (10 < nk) = false := by simpa using c10
  obtain ⟨kk, hkk, hk60⟩ := mod_nat' t 60 (by omega) (by omega)
  rw [show ((60 : Nat) : Int) = 60 from rfl] at hkk
  go_enter Try.func10, Try.ntmps10
  go_wp2_with fail
  refine (new_any (X := fun _ => False) (fun _ h => h.elim)).mono ?_
  rintro e w1 ⟨g, rfl, hK, hg, hb1⟩
  have HG := Lib.hid hg
  have HB1 := Lib.hid hb1
  have HK1 := Lib.hid hK
  have hs1 := hb1.size
  clear hK hg hb1
  -- awake
  go_wp2_with fail
  refine (awake3_any _).mono ?_
  rintro e w2 ⟨rfl, hb2⟩
  have HB2 := Lib.hid (HB1.out.trans (hb2.mono hs1))
  have HK2 := Lib.hid (HK1.out.below hb2)
  have hs2 := HB2.out.size
  clear hb2 HB1 HK1
  -- Arm
  go_wp2_with fail
  rw [hkk]
  clear hkk
  refine (arm_any (st := kk) (keep := keep) (BB := w.heap.size) HK2.out (by omega) hs2 (hk.below HB2.out) hkb (by omega)).mono ?_
  rintro e w3 ⟨rfl, hK3, hg3⟩
  have HB3 := Lib.hid (HB2.out.grown hg3 hs2 (fun k hk => by cases hk; exact HG.out))
  have HK3 := Lib.hid hK3
  obtain ⟨a1, a2, a3, a4⟩ := armK kk keep
  have HA := Lib.hid (And.intro a1 (And.intro a2 (And.intro a3 a4)))
  clear hK3 hg3 HB2 HK2 a1 a2 a3 a4
  generalize (PD.new 1000000).arm kk keep = d3 at *
  go_wp2
  rename_i KK hKK
  have TAIL : ∀ {allv safev iv u42 u43 u44 u45 u46 u47 u48 u49 u50 u51 u52 u53 u54 u55 u56 u57 u58 u59 u60 u61 u62 u63 u64 u65 u66 u67 u68 u69 u70 u71 u72 u73 u74 u75 u76 u77 u78 u79 u80 u81 u82 u83 u84 u85 u86 u87 : Value} {X : Nat → Prop} {d : PD} {As : Option Addr} {cs' : Nat} {wr : World}, wr.ownsRow w.heap.size 5 1 allv d.f1.length (by8 d.f1) → safev = .slice As d.s1 cs' → DK X wr g d → d.armed = true → d.keep = keep → Below w.heap.size w wr →
      KK ⟨#[.slice P np cp, .slice S ns cs, .int .i64 kk, .slice K nk ck, undef, undef, undef, undef, .bool false, .pointer (some ⟨g, 0, none⟩), allv, safev, iv, undef, undef, undef, undef, .pointer (some ⟨g, 0, none⟩), .bool true, .bool false, .bool false, .pointer (some ⟨g, 0, none⟩), .bool false, .bool false, .bool false, .slice K nk ck, .int .i64 nk, .bool (decide (10 < (nk : Int))), .bool (decide (10 < (nk : Int))), undef, undef, undef, undef, undef, .int .i64 t, .int .u64 (IntKind.u64.wrap t), .int .u64 ((IntKind.u64.wrap t).tmod 60), .int .i64 kk, .pointer (some ⟨g, 0, none⟩), .int .i64 kk, .slice K nk ck, .tuple #[], u42, u43, u44, u45, u46, u47, u48, u49, u50, u51, u52, u53, u54, u55, u56, u57, u58, u59, u60, u61, u62, u63, u64, u65, u66, u67, u68, u69, u70, u71, u72, u73, u74, u75, u76, u77, u78, u79, u80, u81, u82, u83, u84, u85, u86, u87, undef, undef, undef, undef, undef, undef, undef, undef, undef, undef, undef, undef, undef, undef, undef, undef, undef, undef, undef, undef, undef, undef, undef, undef, undef, undef, undef, undef, undef, undef, undef, undef, undef, undef, undef, undef, undef, undef, undef, undef, undef, undef, undef, undef, undef, undef], []⟩ wr := by
    intro allv safev iv u42 u43 u44 u45 u46 u47 u48 u49 u50 u51 u52 u53 u54 u55 u56 u57 u58 u59 u60 u61 u62 u63 u64 u65 u66 u67 u68 u69 u70 u71 u72 u73 u74 u75 u76 u77 u78 u79 u80 u81 u82 u83 u84 u85 u86 u87 X d As cs' wr ho hsf hD har hkp hb
    subst hsf
    obtain ⟨Aa, ca, rfl, hca⟩ := ownsRow_cap ho
    have HC := Lib.hid (Rd.of_own ho hca)
    have hwf := hD.wf
    have hs1' := hwf.s1
    have hroom := hwf.room
    have hfull := hwf.full
    have hws := hb.size
    have HD := Lib.hid hD
    have HB := Lib.hid hb
    obtain ⟨r1, r2, r3⟩ := restart_says d
    have HR := Lib.hid (And.intro r1 (And.intro r2 r3))
    have hkle := kept_le d 1 hs1'
    have hkge := kept_ge d 1 d.f1 d.s1
    clear ho hD hwf hb r1 r2 r3
    refine hKK _ _ ?_
    clear hKK
    go_wp2_with fail
    refine (restart_any HD.out).mono ?_
    rintro e w5 ⟨x, rfl, hKx, hgx, hbx⟩
    have HX1 := Lib.hid hKx
    have HB1 := Lib.hid (HB.out.trans (hbx.mono hws))
    have HC1 := Lib.hid (HC.out.to hbx hbx.size)
    have hs5 := HB1.out.size
    clear hKx hgx hbx HD HB HC
    go_wp2_with fail
    refine (read_any (f := 1) HX1.out).mono ?_
    rw [HR.out.1]
    rintro e w6 ⟨v6, rfl, ho6, hb6⟩
    have hlen : (d.f1.take (d.kept 1 d.f1 d.s1)).length = d.kept 1 d.f1 d.s1 := by rw [List.length_take]; omega
    rw [hlen] at ho6
    obtain ⟨A6, c6, rfl, hc6⟩ := ownsRow_cap ho6
    have HV2 := Lib.hid (Rd.of_own ho6 hc6)
    have HX2 := Lib.hid (HX1.out.below hb6)
    have HB2 := Lib.hid (HB1.out.trans (hb6.mono hs5))
    have HC2 := Lib.hid (HC1.out.to hb6 hb6.size)
    have hs6 := HB2.out.size
    have HSY := Lib.hid HR.out.2.2
    have HDN := Lib.hid HR.out.2.1
    have HEQ := Lib.hid (show by8 (d.f1.take (d.kept 1 d.f1 d.s1)) = (by8 d.f1).take (d.kept 1 d.f1 d.s1) from by8_take _ _)
    clear ho6 hb6 HX1 HB1 HC1 HR hlen
    clear HEQ
    have HKR := Lib.hid (hk.below HB2.out)
    by_cases hk2 : nk ≤ 1
    · have HE := Lib.hid (show d.kept 1 d.f1 d.s1 = d.s1 from kept_out (d := d) (i := 1) d.f1 d.s1 (by rw [hkp, HKL.out]; exact hk2))
      go_wp2_with fail
      refine (down_any HX2.out).mono ?_
      rintro e w7 ⟨rfl, rfl⟩
      rw [HDN.out]
      go_wp2_with fail
      refine (bytes_any (l' := d.f1.take (d.s1)) HV2.out (by rw [by8_take]; exact HC2.out.take (by have := HE.out; omega))).mono ?_
      rintro e w8 ⟨rfl, rfl⟩
      rw [decide_eq_true (show d.f1.take (d.kept 1 d.f1 d.s1) = d.f1.take (d.s1) by rw [HE.out])]
      go_wp2_with fail
      refine (synced_any HX2.out).mono ?_
      rintro e w9 ⟨rfl, rfl⟩
      rw [HSY.out]
      go_wp2
      go_ret
      exact ⟨by simp, HB2.out⟩
    · obtain ⟨bk, ok, u, rfl, _, hu, hcell⟩ := HKR.out.one (k := 1) (by omega)
      obtain ⟨k1, hk1, rfl⟩ : ∃ k1 : Int, keep[1]? = some k1 ∧ u = .int .i64 k1 := by
        simp only [i64s, List.getElem?_map, Option.map_eq_some_iff] at hu
        obtain ⟨k1, h1, h2⟩ := hu
        exact ⟨k1, h1, h2.symm⟩
      have HKD := Lib.hid (kept_arm d.f1 d.s1 har (by rw [hkp]; exact hk1))
      obtain ⟨kb1, kb2⟩ := hkb k1 (List.mem_of_getElem? hk1)
      clear hu
      by_cases hz : k1 < 0
      · have HE := Lib.hid (show d.kept 1 d.f1 d.s1 = d.s1 from by rw [HKD.out, show min (max k1 0) ((d.f1.length : Int) - d.s1) = 0 by omega]; rfl)
        go_wp2_with fail
        refine (down_any HX2.out).mono ?_
        rintro e w7 ⟨rfl, rfl⟩
        rw [HDN.out]
        go_wp2_with fail
        refine (bytes_any (l' := d.f1.take (d.s1)) HV2.out (by rw [by8_take]; exact HC2.out.take (by have := HE.out; omega))).mono ?_
        rintro e w8 ⟨rfl, rfl⟩
        rw [decide_eq_true (show d.f1.take (d.kept 1 d.f1 d.s1) = d.f1.take (d.s1) by rw [HE.out])]
        go_wp2_with fail
        refine (synced_any HX2.out).mono ?_
        rintro e w9 ⟨rfl, rfl⟩
        rw [HSY.out]
        go_wp2
        go_ret
        exact ⟨by simp, HB2.out⟩
      · by_cases hz0 : k1 = 0
        · subst hz0
          have HE := Lib.hid (show d.kept 1 d.f1 d.s1 = d.s1 from by rw [HKD.out, show min (max (0 : Int) 0) ((d.f1.length : Int) - d.s1) = 0 by omega]; rfl)
          go_wp2_with fail
          refine (down_any HX2.out).mono ?_
          rintro e w7 ⟨rfl, rfl⟩
          rw [HDN.out]
          go_wp2_with fail
          refine (bytes_any (l' := d.f1.take (d.s1)) HV2.out (by rw [by8_take]; exact HC2.out.take (by have := HE.out; omega))).mono ?_
          rintro e w8 ⟨rfl, rfl⟩
          rw [decide_eq_true (show d.f1.take (d.kept 1 d.f1 d.s1) = d.f1.take (d.s1) by rw [HE.out])]
          go_wp2_with fail
          refine (synced_any HX2.out).mono ?_
          rintro e w9 ⟨rfl, rfl⟩
          rw [HSY.out]
          go_wp2
          go_ret
          exact ⟨by simp, HB2.out⟩
        · obtain ⟨nn, rfl⟩ : ∃ nn : Nat, k1 = nn := ⟨k1.toNat, by omega⟩
          by_cases hy : d.s1 + nn ≤ d.f1.length
          · have HE := Lib.hid (show d.kept 1 d.f1 d.s1 = d.s1 + nn from by rw [HKD.out, show min (max (nn : Int) 0) ((d.f1.length : Int) - d.s1) = nn by omega]; rfl)
            go_wp2_with fail
            refine (down_any HX2.out).mono ?_
            rintro e w7 ⟨rfl, rfl⟩
            rw [HDN.out]
            go_wp2_with fail
            refine (bytes_any (l' := d.f1.take (d.s1 + nn)) HV2.out (by rw [by8_take]; exact HC2.out.take (by have := HE.out; omega))).mono ?_
            rintro e w8 ⟨rfl, rfl⟩
            rw [decide_eq_true (show d.f1.take (d.kept 1 d.f1 d.s1) = d.f1.take (d.s1 + nn) by rw [HE.out])]
            go_wp2_with fail
            refine (synced_any HX2.out).mono ?_
            rintro e w9 ⟨rfl, rfl⟩
            rw [HSY.out]
            go_wp2
            go_ret
            exact ⟨by simp, HB2.out⟩
          · by_cases hL : d.s1 < d.f1.length
            · have HE := Lib.hid (show d.kept 1 d.f1 d.s1 = d.f1.length from by rw [HKD.out, show min (max (nn : Int) 0) ((d.f1.length : Int) - d.s1) = ((d.f1.length - d.s1 : Nat) : Int) by omega, Int.toNat_natCast]; omega)
              go_wp2_with fail
              refine (down_any HX2.out).mono ?_
              rintro e w7 ⟨rfl, rfl⟩
              rw [HDN.out]
              go_wp2_with fail
              refine (bytes_any (l' := d.f1.take (d.f1.length)) HV2.out (by rw [by8_take]; exact HC2.out.take (by have := HE.out; omega))).mono ?_
              rintro e w8 ⟨rfl, rfl⟩
              rw [decide_eq_true (show d.f1.take (d.kept 1 d.f1 d.s1) = d.f1.take (d.f1.length) by rw [HE.out])]
              go_wp2_with fail
              refine (synced_any HX2.out).mono ?_
              rintro e w9 ⟨rfl, rfl⟩
              rw [HSY.out]
              go_wp2
              go_ret
              exact ⟨by simp, HB2.out⟩
            · have HE := Lib.hid (show d.kept 1 d.f1 d.s1 = d.s1 from by rw [HKD.out, show min (max (nn : Int) 0) ((d.f1.length : Int) - d.s1) = 0 by omega]; rfl)
              go_wp2_with fail
              refine (down_any HX2.out).mono ?_
              rintro e w7 ⟨rfl, rfl⟩
              rw [HDN.out]
              go_wp2_with fail
              refine (bytes_any (l' := d.f1.take (d.s1)) HV2.out (by rw [by8_take]; exact HC2.out.take (by have := HE.out; omega))).mono ?_
              rintro e w8 ⟨rfl, rfl⟩
              rw [decide_eq_true (show d.f1.take (d.kept 1 d.f1 d.s1) = d.f1.take (d.s1) by rw [HE.out])]
              go_wp2_with fail
              refine (synced_any HX2.out).mono ?_
              rintro e w9 ⟨rfl, rfl⟩
              rw [HSY.out]
              go_wp2
              go_ret
              exact ⟨by simp, HB2.out⟩
  clear hKK
  go_loopw [10, 11, 12] (fun allv safev iv wr => ∃ (i : Nat) (X : Nat → Prop) (d : PD) (As : Option Addr) (cs' : Nat), iv = .int .i64 i ∧ safev = .slice As d.s1 cs' ∧ i ≤ np ∧ Hid (wr.ownsRow w.heap.size 5 1 allv d.f1.length (by8 d.f1)) ∧ Hid (∀ b, allv.ownBlock = some b → X b ∧ b ≠ g) ∧ Hid (DK X wr g d) ∧ Hid (d.armed = true ∧ d.keep = keep) ∧ Hid (Below w.heap.size w wr))
      (fun _ _ i _ => np - (intOf i).toNat)
  case atStart =>
    refine ⟨0, _, d3, none, 0, rfl, by rw [HA.out.2.2.2], Nat.zero_le _, ?_, fun b hb => by simp [Value.ownBlock] at hb, HK3, ⟨HA.out.1, HA.out.2.1⟩, HB3⟩
    rw [HA.out.2.2.1]
    exact World.ownsRow_nil _ _ _ _
  case round =>
    clear HB3 HK3 HA d3
    obtain ⟨i, X, d, As, cs', rfl, rfl, hi, HO, HX, HK, HAK, HB⟩ := hrel
    have hws := HB.out.size
    have hwf := HK.out.wf
    have hroom := hwf.room
    have hfull := hwf.full
    clear hwf
    by_cases h1 : i < np
    · by_cases h2 : i < 30
      · obtain ⟨p, hpi, hmem⟩ : ∃ p : BP, ps[i]? = some p ∧ p ∈ ps := ⟨ps[i]'(by rw [HPL.out]; exact h1), List.getElem?_eq_getElem _, List.getElem_mem _⟩
        obtain ⟨bp, op, u, rfl, hbp, hu, hcell⟩ := hp.one h1
        obtain rfl : u = .slice p.A p.l.length p.c := by
          rw [List.getElem?_map, hpi] at hu
          exact (Option.some.inj hu).symm
        clear hu
        have q0 := (HB.out.cell (p := ⟨bp, op + i, none⟩) hbp).trans hcell
        have HPR := Lib.hid (hpp p hmem)
        by_cases h3 : 200 < p.l.length
        · go_wp2
          exact TAIL HO.out rfl HK.out HAK.out.1 HAK.out.2 HB.out
        clear TAIL
        have HAP := Lib.hid (append_any (f := 1) HK.out hws (HPR.out.below HB.out) (by omega))
        rcases app1 d p.l with ⟨r0, ⟨l1, l2⟩, l3, l4⟩ | ⟨r0, l1⟩
        · have HL := Lib.hid (And.intro l1 (And.intro l2 (And.intro l3 l4)))
          rw [show d.append 1 p.l = (0, (d.append 1 p.l).2) from Prod.ext r0 rfl] at HAP
          clear r0 l1 l2 l3 l4
          generalize (d.append 1 p.l).2 = d4 at *
          by_cases hsn : i < ns
          · obtain ⟨bs, os, us, rfl, hbs, hus, hsc⟩ := hs.one hsn
            obtain ⟨bb, hbb, rfl⟩ : ∃ bb : Bool, ss[i]? = some bb ∧ us = .bool bb := by
              rw [List.getElem?_map, Option.map_eq_some_iff] at hus
              obtain ⟨bb, h1, h2⟩ := hus
              exact ⟨bb, h1, h2.symm⟩
            clear hus hbb
            cases bb
            · go_wp2_with fail
              refine HAP.out.mono ?_
              rintro e w4 ⟨rfl, hK4, hg4⟩
              have hb4 := HB.out.grown hg4 hws (fun k hk => by cases hk; exact HG.out)
              have q4 := (hb4.cell (p := ⟨bp, op + i, none⟩) hbp).trans hcell
              have ho4 := HO.out.kept hg4 (by
                cases hv : u10.ownBlock with
                | none => exact .inl rfl
                | some b => right; intro he; exact (HX.out b hv).2 (Option.some.inj he))
              have HO4 := Lib.hid ho4
              have HK4 := Lib.hid hK4
              have HB4 := Lib.hid hb4
              have HR4 := Lib.hid (HPR.out.below hb4)
              have hbs4 := hb4.size
              clear hK4 hg4 hb4 ho4 q0 HAP HO HK HB
              have HN5 := Lib.hid (show d.f1.length + p.l.length = d4.f1.length by rw [HL.out.2.2.1, List.length_append])
              have HY5 := Lib.hid (show by8 d.f1 ++ by8 p.l = by8 d4.f1 by rw [HL.out.2.2.1, by8_app])
              go_wp2_with (at_builtin; refine wpl_append rfl (.tmp 65) (.tmp 69) 48 rfl E48 (v := u10) (base := w.heap.size) rfl rfl HO4.out HR4.out (by8_one _) (by simp only [maxLen]; omega) (by omega) hbs4 ?_; intro v5 w5 ho5 hg5 hat5; obtain ⟨X5, A5, c5, rfl, HKv, HXv, HOv, HBv, HC5⟩ := rowStep HK4 HX HO4 HB4 hbs4 ho5 HN5.out HY5.out hg5 hat5; have s5 := (HBv.out.cell (p := ⟨bs, os + i, none⟩) hbs).trans hsc; clear ho5 hg5 hat5 HN5 HY5)
              have HLv := Lib.hid (show d4.armed = true ∧ d4.keep = keep from ⟨HL.out.1.trans HAK.out.1, HL.out.2.1.trans HAK.out.2⟩)
              have HSv := Lib.hid (show d4.s1 = d.s1 from HL.out.2.2.2)
              exact ⟨⟨i + 1, X5, d4, As, cs', by go_num, by rw [HSv.out], by omega, HOv, HXv, HKv, HLv, HBv⟩, by simp [intOf]; omega⟩
            · go_wp2_with fail
              refine HAP.out.mono ?_
              rintro e w4 ⟨rfl, hK4, hg4⟩
              have hb4 := HB.out.grown hg4 hws (fun k hk => by cases hk; exact HG.out)
              have q4 := (hb4.cell (p := ⟨bp, op + i, none⟩) hbp).trans hcell
              have ho4 := HO.out.kept hg4 (by
                cases hv : u10.ownBlock with
                | none => exact .inl rfl
                | some b => right; intro he; exact (HX.out b hv).2 (Option.some.inj he))
              have HO4 := Lib.hid ho4
              have HK4 := Lib.hid hK4
              have HB4 := Lib.hid hb4
              have HR4 := Lib.hid (HPR.out.below hb4)
              have hbs4 := hb4.size
              clear hK4 hg4 hb4 ho4 q0 HAP HO HK HB
              have HN5 := Lib.hid (show d.f1.length + p.l.length = d4.f1.length by rw [HL.out.2.2.1, List.length_append])
              have HY5 := Lib.hid (show by8 d.f1 ++ by8 p.l = by8 d4.f1 by rw [HL.out.2.2.1, by8_app])
              go_wp2_with (at_builtin; refine wpl_append rfl (.tmp 65) (.tmp 69) 48 rfl E48 (v := u10) (base := w.heap.size) rfl rfl HO4.out HR4.out (by8_one _) (by simp only [maxLen]; omega) (by omega) hbs4 ?_; intro v5 w5 ho5 hg5 hat5; obtain ⟨X5, A5, c5, rfl, HKv, HXv, HOv, HBv, HC5⟩ := rowStep HK4 HX HO4 HB4 hbs4 ho5 HN5.out HY5.out hg5 hat5; have s5 := (HBv.out.cell (p := ⟨bs, os + i, none⟩) hbs).trans hsc; clear ho5 hg5 hat5 HN5 HY5)
              have HLv := Lib.hid (show d4.armed = true ∧ d4.keep = keep from ⟨HL.out.1.trans HAK.out.1, HL.out.2.1.trans HAK.out.2⟩)
              have HSv := Lib.hid (show d4.s1 = d.s1 from HL.out.2.2.2)
              have hwsv := HBv.out.size
              have HSY := Lib.hid (sync_any (f := 1) HKv.out)
              rcases syn1 d4 with ⟨z0, ⟨y1, y2⟩, y3, y4⟩ | ⟨z0, y1⟩
              · rw [show d4.sync 1 = (0, (d4.sync 1).2) from Prod.ext z0 rfl] at HSY
                have HY := Lib.hid (And.intro y1 (And.intro y2 (And.intro y3 y4)))
                clear z0 y1 y2 y3 y4
                generalize (d4.sync 1).2 = d6 at *
                refine HSY.out.mono ?_
                rintro e w6 ⟨rfl, hK6, hg6⟩
                have hb6 := HBv.out.grown hg6 hwsv (fun k hk => by cases hk; exact HG.out)
                have ho6 := HOv.out.kept hg6 (by
                  cases hv : (Value.slice A5 d4.f1.length c5).ownBlock with
                  | none => exact .inl rfl
                  | some b => right; intro he; exact (HXv.out b hv).2 (Option.some.inj he))
                have HO6 := Lib.hid ho6
                have HK6 := Lib.hid hK6
                have HB6 := Lib.hid hb6
                have HR6 := Lib.hid (Rd.of_own ho6 HC5.out)
                have hwf6 := HKv.out.wf
                have hr6 := hwf6.room
                have hf6 := hwf6.full
                clear hwf6 hK6 hg6 hb6 ho6 HSY
                go_wp2_with (at_builtin; refine wpl_append rfl (.const (.slice none 0 0)) (.tmp 86) 48 rfl E48 (v := .slice none 0 0) (base := w6.heap.size) rfl rfl (World.ownsRow_nil _ _ _ _) HR6.out (by8_one _) (by simp only [maxLen]; omega) (by omega) (Nat.le_refl _) ?_; intro v7 w7 ho7 hg7 hat7; obtain ⟨A7, c7, rfl, HK7, HO7, HB7⟩ := nilStep HK6 HO6 HB6 HB6.out.size ho7 (Nat.zero_add _) hg7; clear ho7 hg7 hat7)
                exact ⟨⟨i + 1, X5, d6, A7, c7, by go_num, by rw [HY.out.2.2.2], by omega, by rw [HY.out.2.2.1]; exact HO7, HXv, HK7, ⟨HY.out.1.trans HLv.out.1, HY.out.2.1.trans HLv.out.2⟩, HB7⟩, by simp [intOf]; omega⟩
              · obtain ⟨z1, z2⟩ := int_ne z0
                rw [show d4.sync 1 = ((d4.sync 1).1, d4) from Prod.ext rfl y1] at HSY
                clear z0 y1
                generalize (d4.sync 1).1 = rr at *
                refine HSY.out.mono ?_
                rintro e w6 ⟨rfl, hK6, hg6⟩
                have hb6 := HBv.out.grown hg6 hwsv (fun k hk => by cases hk; exact HG.out)
                have HO6 := Lib.hid (HOv.out.kept hg6 (by
                  cases hv : (Value.slice A5 d4.f1.length c5).ownBlock with
                  | none => exact .inl rfl
                  | some b => right; intro he; exact (HXv.out b hv).2 (Option.some.inj he)))
                have HK6 := Lib.hid hK6
                have HB6 := Lib.hid hb6
                clear hK6 hg6 hb6 HSY
                go_wp2
                exact ⟨⟨i + 1, X5, d4, As, cs', by go_num, by rw [HSv.out], by omega, HO6, HXv, HK6, HLv, HB6⟩, by simp [intOf]; omega⟩
          · go_wp2_with fail
            refine HAP.out.mono ?_
            rintro e w4 ⟨rfl, hK4, hg4⟩
            have hb4 := HB.out.grown hg4 hws (fun k hk => by cases hk; exact HG.out)
            have q4 := (hb4.cell (p := ⟨bp, op + i, none⟩) hbp).trans hcell
            have ho4 := HO.out.kept hg4 (by
              cases hv : u10.ownBlock with
              | none => exact .inl rfl
              | some b => right; intro he; exact (HX.out b hv).2 (Option.some.inj he))
            have HO4 := Lib.hid ho4
            have HK4 := Lib.hid hK4
            have HB4 := Lib.hid hb4
            have HR4 := Lib.hid (HPR.out.below hb4)
            have hbs4 := hb4.size
            clear hK4 hg4 hb4 ho4 q0 HAP HO HK HB
            have HN5 := Lib.hid (show d.f1.length + p.l.length = d4.f1.length by rw [HL.out.2.2.1, List.length_append])
            have HY5 := Lib.hid (show by8 d.f1 ++ by8 p.l = by8 d4.f1 by rw [HL.out.2.2.1, by8_app])
            go_wp2_with (at_builtin; refine wpl_append rfl (.tmp 65) (.tmp 69) 48 rfl E48 (v := u10) (base := w.heap.size) rfl rfl HO4.out HR4.out (by8_one _) (by simp only [maxLen]; omega) (by omega) hbs4 ?_; intro v5 w5 ho5 hg5 hat5; obtain ⟨X5, A5, c5, rfl, HKv, HXv, HOv, HBv, HC5⟩ := rowStep HK4 HX HO4 HB4 hbs4 ho5 HN5.out HY5.out hg5 hat5; clear ho5 hg5 hat5 HN5 HY5)
            have HLv := Lib.hid (show d4.armed = true ∧ d4.keep = keep from ⟨HL.out.1.trans HAK.out.1, HL.out.2.1.trans HAK.out.2⟩)
            have HSv := Lib.hid (show d4.s1 = d.s1 from HL.out.2.2.2)
            exact ⟨⟨i + 1, X5, d4, As, cs', by go_num, by rw [HSv.out], by omega, HOv, HXv, HKv, HLv, HBv⟩, by simp [intOf]; omega⟩
        · obtain ⟨z1, z2⟩ := int_ne r0
          rw [show d.append 1 p.l = ((d.append 1 p.l).1, d) from Prod.ext rfl l1] at HAP
          clear r0 l1
          generalize (d.append 1 p.l).1 = rr at *
          by_cases hsn : i < ns
          · obtain ⟨bs, os, us, rfl, hbs, hus, hsc⟩ := hs.one hsn
            obtain ⟨bb, hbb, rfl⟩ : ∃ bb : Bool, ss[i]? = some bb ∧ us = .bool bb := by
              rw [List.getElem?_map, Option.map_eq_some_iff] at hus
              obtain ⟨bb, h1, h2⟩ := hus
              exact ⟨bb, h1, h2.symm⟩
            clear hus hbb
            cases bb
            · go_wp2_with fail
              refine HAP.out.mono ?_
              rintro e w4 ⟨rfl, hK4, hg4⟩
              have hb4 := HB.out.grown hg4 hws (fun k hk => by cases hk; exact HG.out)
              have ho4 := HO.out.kept hg4 (by
                cases hv : u10.ownBlock with
                | none => exact .inl rfl
                | some b => right; intro he; exact (HX.out b hv).2 (Option.some.inj he))
              have s5 := (hb4.cell (p := ⟨bs, os + i, none⟩) hbs).trans hsc
              obtain ⟨A5, c5, rfl, hc5⟩ := ownsRow_cap ho4
              have HOv := Lib.hid ho4
              have HXv := Lib.hid HX.out
              have HKv := Lib.hid hK4
              have HBv := Lib.hid hb4
              have HC5 := Lib.hid hc5
              have HLv := Lib.hid HAK.out
              clear hK4 hg4 hb4 ho4 q0 HAP HO HK HB hc5
              go_wp2_with fail
              exact ⟨⟨i + 1, X, d, As, cs', by go_num, rfl, by omega, HOv, HXv, HKv, HLv, HBv⟩, by simp [intOf]; omega⟩
            · go_wp2_with fail
              refine HAP.out.mono ?_
              rintro e w4 ⟨rfl, hK4, hg4⟩
              have hb4 := HB.out.grown hg4 hws (fun k hk => by cases hk; exact HG.out)
              have ho4 := HO.out.kept hg4 (by
                cases hv : u10.ownBlock with
                | none => exact .inl rfl
                | some b => right; intro he; exact (HX.out b hv).2 (Option.some.inj he))
              have s5 := (hb4.cell (p := ⟨bs, os + i, none⟩) hbs).trans hsc
              obtain ⟨A5, c5, rfl, hc5⟩ := ownsRow_cap ho4
              have HOv := Lib.hid ho4
              have HXv := Lib.hid HX.out
              have HKv := Lib.hid hK4
              have HBv := Lib.hid hb4
              have HC5 := Lib.hid hc5
              have HLv := Lib.hid HAK.out
              clear hK4 hg4 hb4 ho4 q0 HAP HO HK HB hc5
              go_wp2_with fail
              have hwsv := HBv.out.size
              have HSY := Lib.hid (sync_any (f := 1) HKv.out)
              rcases syn1 d with ⟨z0, ⟨y1, y2⟩, y3, y4⟩ | ⟨z0, y1⟩
              · rw [show d.sync 1 = (0, (d.sync 1).2) from Prod.ext z0 rfl] at HSY
                have HY := Lib.hid (And.intro y1 (And.intro y2 (And.intro y3 y4)))
                clear z0 y1 y2 y3 y4
                generalize (d.sync 1).2 = d6 at *
                refine HSY.out.mono ?_
                rintro e w6 ⟨rfl, hK6, hg6⟩
                have hb6 := HBv.out.grown hg6 hwsv (fun k hk => by cases hk; exact HG.out)
                have ho6 := HOv.out.kept hg6 (by
                  cases hv : (Value.slice A5 d.f1.length c5).ownBlock with
                  | none => exact .inl rfl
                  | some b => right; intro he; exact (HXv.out b hv).2 (Option.some.inj he))
                have HO6 := Lib.hid ho6
                have HK6 := Lib.hid hK6
                have HB6 := Lib.hid hb6
                have HR6 := Lib.hid (Rd.of_own ho6 HC5.out)
                have hwf6 := HKv.out.wf
                have hr6 := hwf6.room
                have hf6 := hwf6.full
                clear hwf6 hK6 hg6 hb6 ho6 HSY
                go_wp2_with (at_builtin; refine wpl_append rfl (.const (.slice none 0 0)) (.tmp 86) 48 rfl E48 (v := .slice none 0 0) (base := w6.heap.size) rfl rfl (World.ownsRow_nil _ _ _ _) HR6.out (by8_one _) (by simp only [maxLen]; omega) (by omega) (Nat.le_refl _) ?_; intro v7 w7 ho7 hg7 hat7; obtain ⟨A7, c7, rfl, HK7, HO7, HB7⟩ := nilStep HK6 HO6 HB6 HB6.out.size ho7 (Nat.zero_add _) hg7; clear ho7 hg7 hat7)
                exact ⟨⟨i + 1, X, d6, A7, c7, by go_num, by rw [HY.out.2.2.2], by omega, by rw [HY.out.2.2.1]; exact HO7, HXv, HK7, ⟨HY.out.1.trans HLv.out.1, HY.out.2.1.trans HLv.out.2⟩, HB7⟩, by simp [intOf]; omega⟩
              · obtain ⟨z1, z2⟩ := int_ne z0
                rw [show d.sync 1 = ((d.sync 1).1, d) from Prod.ext rfl y1] at HSY
                clear z0 y1
                generalize (d.sync 1).1 = rr at *
                refine HSY.out.mono ?_
                rintro e w6 ⟨rfl, hK6, hg6⟩
                have hb6 := HBv.out.grown hg6 hwsv (fun k hk => by cases hk; exact HG.out)
                have HO6 := Lib.hid (HOv.out.kept hg6 (by
                  cases hv : (Value.slice A5 d.f1.length c5).ownBlock with
                  | none => exact .inl rfl
                  | some b => right; intro he; exact (HXv.out b hv).2 (Option.some.inj he)))
                have HK6 := Lib.hid hK6
                have HB6 := Lib.hid hb6
                clear hK6 hg6 hb6 HSY
                go_wp2
                exact ⟨⟨i + 1, X, d, As, cs', by go_num, rfl, by omega, HO6, HXv, HK6, HLv, HB6⟩, by simp [intOf]; omega⟩
          · go_wp2_with fail
            refine HAP.out.mono ?_
            rintro e w4 ⟨rfl, hK4, hg4⟩
            have hb4 := HB.out.grown hg4 hws (fun k hk => by cases hk; exact HG.out)
            have ho4 := HO.out.kept hg4 (by
              cases hv : u10.ownBlock with
              | none => exact .inl rfl
              | some b => right; intro he; exact (HX.out b hv).2 (Option.some.inj he))
            obtain ⟨A5, c5, rfl, hc5⟩ := ownsRow_cap ho4
            have HOv := Lib.hid ho4
            have HXv := Lib.hid HX.out
            have HKv := Lib.hid hK4
            have HBv := Lib.hid hb4
            have HC5 := Lib.hid hc5
            have HLv := Lib.hid HAK.out
            clear hK4 hg4 hb4 ho4 q0 HAP HO HK HB hc5
            go_wp2_with fail
            exact ⟨⟨i + 1, X, d, As, cs', by go_num, rfl, by omega, HOv, HXv, HKv, HLv, HBv⟩, by simp [intOf]; omega⟩
      · go_wp2
        exact TAIL HO.out rfl HK.out HAK.out.1 HAK.out.2 HB.out
    · go_wp2
      exact TAIL HO.out rfl HK.out HAK.out.1 HAK.out.2 HB.out
end Go.Proofs.Ytabiegbbbljhlaa
