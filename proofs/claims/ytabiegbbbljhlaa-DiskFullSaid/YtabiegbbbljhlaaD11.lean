/- Walk: a nil disk; DiskFull. -/
import Derived.Test.YtabiegbbbljhlaaD9
import Derived.Test.YtabiegbbbljhlaaW8
namespace Go.Proofs.Ytabiegbbbljhlaa
open Go.RowKit

section
variable {w : World} {f n : Int}
def Gives (v : Value) (w : World) (e : Ending) (w' : World) : Prop := e = .returned v ∧ w' = w
set_option maxHeartbeats 1000000
theorem append_nil {B : Option Addr} {m cb : Nat} : Calls Try.prog 35 #[.pointer none, .int .i64 f, .slice B m cb] w (Gives (.int .i64 2) w) := by
  go_enter Try.func35, Try.ntmps35
  go_wp2
  go_ret
  exact ⟨rfl, rfl⟩
theorem sync_nil : Calls Try.prog 37 #[.pointer none, .int .i64 f] w (Gives (.int .i64 2) w) := by
  go_enter Try.func37, Try.ntmps37
  go_wp2
  go_ret
  exact ⟨rfl, rfl⟩
theorem cut_nil : Calls Try.prog 43 #[.pointer none, .int .i64 f, .int .i64 n] w (Gives (.int .i64 2) w) := by
  go_enter Try.func43, Try.ntmps43
  go_wp2
  go_ret
  exact ⟨rfl, rfl⟩
theorem read_nil : Calls Try.prog 38 #[.pointer none, .int .i64 f] w (Gives (.tuple #[.slice none 0 0, .int .i64 2]) w) := by
  go_enter Try.func38, Try.ntmps38
  go_wp2
  go_ret2
  exact ⟨rfl, rfl⟩
theorem down_nil : Calls Try.prog 42 #[.pointer none] w (Gives (.bool false) w) := by
  go_enter Try.func42, Try.ntmps42
  go_wp2
  go_ret
  exact ⟨rfl, rfl⟩
theorem free_nil : Calls Try.prog 44 #[.pointer none] w (Gives (.int .i64 0) w) := by
  go_enter Try.func44, Try.ntmps44
  go_wp2
  go_ret
  exact ⟨rfl, rfl⟩
theorem synced_nil : Calls Try.prog 40 #[.pointer none, .int .i64 f] w (Gives (.int .i64 0) w) := by
  go_enter Try.func40, Try.ntmps40
  go_wp2
  go_ret
  exact ⟨rfl, rfl⟩
theorem restart_nil : Calls Try.prog 45 #[.pointer none] w (Gives (.pointer none) w) := by
  go_enter Try.func45, Try.ntmps45
  go_wp2
  go_ret
  exact ⟨rfl, rfl⟩
theorem fork_nil : Calls Try.prog 36 #[.pointer none] w (Gives (.pointer none) w) := by
  go_enter Try.func36, Try.ntmps36
  go_wp2
  go_ret
  exact ⟨rfl, rfl⟩
theorem arm_nil {K : Option Addr} {nk ck : Nat} : Calls Try.prog 41 #[.pointer none, .int .i64 n, .slice K nk ck] w (Gives (.tuple #[]) w) := by
  go_enter Try.func41, Try.ntmps41
  go_wp2
  refine bodyPost_ret (results_none rfl _ _ _) rfl ?_
  exact ⟨rfl, rfl⟩
end

theorem E48z : Elem1 Try.prog 48 5 1 (.int .u8 0) := elem1_of E48 (by kernel_rfl) rfl
theorem mod_nat (t : Int) (m : Nat) (hm : 0 < m) (hm2 : m ≤ 1000000) : ∃ kk : Nat, wrap64 ((IntKind.u64.wrap t).tmod m) = kk ∧ kk < m := by
  have h0 : 0 ≤ IntKind.u64.wrap t := by rw [IntKind.wrap_u64]; omega
  rw [Int.tmod_eq_emod_of_nonneg h0]
  generalize IntKind.u64.wrap t = u at *
  have : 0 ≤ u % (m : Int) := Int.emod_nonneg _ (by omega)
  have h2 : u % (m : Int) < m := Int.emod_lt_of_pos _ (by omega)
  generalize u % (m : Int) = v at *
  refine ⟨v.toNat, ?_, by omega⟩
  unfold wrap64
  omega
/-- A disk of some room, with one file. -/
def DF (room : Nat) (a : List UInt8) : PD := ⟨room, a, 0, [], 0, false, 0, [], false⟩
theorem DF_new {room : Nat} (h : room < 500) : PD.new room = DF room [] := by
  have : (min (max (room : Int) 0) 1000000).toNat = room := by
    rw [show min (max (room : Int) 0) 1000000 = room by omega]; rfl
  simp only [PD.new, DF, this]
theorem DF_append {room n : Nat} : (DF room []).append 0 (List.replicate n 0) = if room < n then (3, DF room []) else (0, DF room (List.replicate n 0)) := by
  unfold PD.append
  rw [if_neg (by simp [PD.ask, DF])]
  by_cases h : room < n
  · rw [if_pos (by simp [PD.free, DF]; omega), if_pos h]
  · rw [if_neg (by simp [PD.free, DF]; omega), if_neg h]; rfl
theorem DF_read (room : Nat) (a : List UInt8) : (DF room a).read 0 = (a, 0) := by
  unfold PD.read; rw [if_neg (by simp [PD.ask, DF])]; rfl
theorem DF_sync (room : Nat) (a : List UInt8) (f : Int) : ((DF room a).sync f).1 = if f < 0 ∨ 2 ≤ f then 1 else 0 := by
  unfold PD.sync PD.ask
  simp only [DF]
  by_cases h : f < 0 ∨ 2 ≤ f
  · simp [h]
  · simp [h]

set_option maxRecDepth 100000 in
set_option maxHeartbeats 8000000 in
theorem diskFull_any {t u f : Int} (w : World) : Calls Try.prog 13 #[.int .i64 t, .int .i64 u, .int .i64 f] w (BoolBelow true w) := by
  obtain ⟨room, hr, hr5⟩ := mod_nat t 500 (by omega) (by omega)
  obtain ⟨n, hn, hn6⟩ := mod_nat u 600 (by omega) (by omega)
  go_enter Try.func13, Try.ntmps13
  go_wp2_with fail
  rw [show ((500 : Nat) : Int) = 500 from rfl] at hr
  rw [show ((600 : Nat) : Int) = 600 from rfl] at hn
  rw [hr, hn]
  clear hr hn
  refine (new_any (N := w.heap.size) (Nat.le_refl _)).mono ?_
  rintro e w1 ⟨g, rfl, hK, hg, hb1⟩
  rw [DF_new hr5] at hK
  have HG := Lib.hid hg
  have HB1 := Lib.hid hb1
  have HK1 := Lib.hid hK
  have hs1 := hb1.size
  clear hK hg hb1
  -- awake
  go_wp2_with fail
  refine (awake3_any _).mono ?_
  rintro e w2 ⟨rfl, hb2⟩
  have HB2 := Lib.hid (HB1.out.trans (hb2.mono hs1))
  have HK2 := Lib.hid (HK1.out.below hb2)
  have hs2 := HB2.out.size
  clear hb2 HB1 HK1
  -- make
  go_wp2_with (refine wpl_make rfl (.tmp 33) (.tmp 33) 48 rfl E48z w2.heap.size n rfl rfl rfl rfl (by omega) (by simp only [maxLen]; omega) (Nat.le_refl _) ?_; intro w3 ho3 hg3)
  have hrw : List.replicate n (Value.int IntKind.u8 0) = by8 (List.replicate n 0) := by simp [by8]
  rw [hrw] at ho3
  have hb3 : Below w2.heap.size w2 w3 := (Below.refl _ _).grown hg3 (Nat.le_refl _) (fun k hk => by cases hk)
  have HR3 := Lib.hid (Rd.of_own ho3 (Nat.le_refl _))
  have HB3 := Lib.hid (HB2.out.trans (hb3.mono hs2))
  have HK3 := Lib.hid (HK2.out.below hb3)
  have hs3 := HB3.out.size
  clear ho3 hg3 hb3 hrw HB2 HK2
  by_cases c1 : room < n
  · have hz : 0 < n := by omega
    obtain ⟨z1, z2⟩ := int_ne (u := (0 : Int)) (v := (n : Int)) (by omega)
    by_cases c2 : f < 0
    · refine (append_any (f := 0) (bs := List.replicate n 0) HK3.out (Nat.le_refl _) HR3.out (by omega)).mono ?_
      rw [DF_append, if_pos c1]
      rintro e w4 ⟨rfl, hK4, hg4⟩
      have HB4 := Lib.hid (HB3.out.grown hg4 hs3 (fun k hk => by cases hk; exact HG.out))
      have HK4 := Lib.hid hK4
      have hs4 := HB4.out.size
      clear hK4 hg4 HB3 HK3 HR3
      go_wp2_with fail
      refine (read_any (f := 0) HK4.out).mono ?_
      rw [DF_read]
      rintro e w5 ⟨v, rfl, ho, hb5⟩
      have HB5 := Lib.hid (HB4.out.trans (hb5.mono hs4))
      have HK5 := Lib.hid (HK4.out.below hb5)
      have hs5 := HB5.out.size
      obtain ⟨A5, c5, rfl, _⟩ := ownsRow_cap ho
      clear hb5 HB4 HK4 ho
      rw [List.length_nil]
      go_wp2_with fail
      refine read_nil.mono ?_
      rintro e w6 ⟨rfl, rfl⟩
      go_wp2_with fail
      refine arm_nil.mono ?_
      rintro e w7 ⟨rfl, rfl⟩
      go_wp2_with fail
      refine (sync_any (f := f) HK5.out).mono ?_
      rintro e w8 ⟨rfl, hK8, hg8⟩
      rw [DF_sync, if_pos (.inl c2)]
      have HB8 := Lib.hid (HB5.out.grown hg8 hs5 (fun k hk => by cases hk; exact HG.out))
      clear hK8 hg8 HB5 HK5
      go_wp2_with fail
      refine append_nil.mono ?_
      rintro e w9 ⟨rfl, rfl⟩
      go_wp2_with fail
      refine sync_nil.mono ?_
      rintro e w10 ⟨rfl, rfl⟩
      go_wp2_with fail
      refine cut_nil.mono ?_
      rintro e w11 ⟨rfl, rfl⟩
      go_wp2_with fail
      refine down_nil.mono ?_
      rintro e w12 ⟨rfl, rfl⟩
      go_wp2_with fail
      refine free_nil.mono ?_
      rintro e w13 ⟨rfl, rfl⟩
      go_wp2_with fail
      refine synced_nil.mono ?_
      rintro e w14 ⟨rfl, rfl⟩
      go_wp2_with fail
      refine restart_nil.mono ?_
      rintro e w15 ⟨rfl, rfl⟩
      go_wp2_with fail
      refine fork_nil.mono ?_
      rintro e w16 ⟨rfl, rfl⟩
      go_wp2
      go_ret
      exact ⟨by simp, HB8.out⟩
    · by_cases c3 : 2 ≤ f
      · refine (append_any (f := 0) (bs := List.replicate n 0) HK3.out (Nat.le_refl _) HR3.out (by omega)).mono ?_
        rw [DF_append, if_pos c1]
        rintro e w4 ⟨rfl, hK4, hg4⟩
        have HB4 := Lib.hid (HB3.out.grown hg4 hs3 (fun k hk => by cases hk; exact HG.out))
        have HK4 := Lib.hid hK4
        have hs4 := HB4.out.size
        clear hK4 hg4 HB3 HK3 HR3
        go_wp2_with fail
        refine (read_any (f := 0) HK4.out).mono ?_
        rw [DF_read]
        rintro e w5 ⟨v, rfl, ho, hb5⟩
        have HB5 := Lib.hid (HB4.out.trans (hb5.mono hs4))
        have HK5 := Lib.hid (HK4.out.below hb5)
        have hs5 := HB5.out.size
        obtain ⟨A5, c5, rfl, _⟩ := ownsRow_cap ho
        clear hb5 HB4 HK4 ho
        rw [List.length_nil]
        go_wp2_with fail
        refine read_nil.mono ?_
        rintro e w6 ⟨rfl, rfl⟩
        go_wp2_with fail
        refine arm_nil.mono ?_
        rintro e w7 ⟨rfl, rfl⟩
        go_wp2_with fail
        refine (sync_any (f := f) HK5.out).mono ?_
        rintro e w8 ⟨rfl, hK8, hg8⟩
        rw [DF_sync, if_pos (.inr c3)]
        have HB8 := Lib.hid (HB5.out.grown hg8 hs5 (fun k hk => by cases hk; exact HG.out))
        clear hK8 hg8 HB5 HK5
        go_wp2_with fail
        refine append_nil.mono ?_
        rintro e w9 ⟨rfl, rfl⟩
        go_wp2_with fail
        refine sync_nil.mono ?_
        rintro e w10 ⟨rfl, rfl⟩
        go_wp2_with fail
        refine cut_nil.mono ?_
        rintro e w11 ⟨rfl, rfl⟩
        go_wp2_with fail
        refine down_nil.mono ?_
        rintro e w12 ⟨rfl, rfl⟩
        go_wp2_with fail
        refine free_nil.mono ?_
        rintro e w13 ⟨rfl, rfl⟩
        go_wp2_with fail
        refine synced_nil.mono ?_
        rintro e w14 ⟨rfl, rfl⟩
        go_wp2_with fail
        refine restart_nil.mono ?_
        rintro e w15 ⟨rfl, rfl⟩
        go_wp2_with fail
        refine fork_nil.mono ?_
        rintro e w16 ⟨rfl, rfl⟩
        go_wp2
        go_ret
        exact ⟨by simp, HB8.out⟩
      · refine (append_any (f := 0) (bs := List.replicate n 0) HK3.out (Nat.le_refl _) HR3.out (by omega)).mono ?_
        rw [DF_append, if_pos c1]
        rintro e w4 ⟨rfl, hK4, hg4⟩
        have HB4 := Lib.hid (HB3.out.grown hg4 hs3 (fun k hk => by cases hk; exact HG.out))
        have HK4 := Lib.hid hK4
        have hs4 := HB4.out.size
        clear hK4 hg4 HB3 HK3 HR3
        go_wp2_with fail
        refine (read_any (f := 0) HK4.out).mono ?_
        rw [DF_read]
        rintro e w5 ⟨v, rfl, ho, hb5⟩
        have HB5 := Lib.hid (HB4.out.trans (hb5.mono hs4))
        have HK5 := Lib.hid (HK4.out.below hb5)
        have hs5 := HB5.out.size
        obtain ⟨A5, c5, rfl, _⟩ := ownsRow_cap ho
        clear hb5 HB4 HK4 ho
        rw [List.length_nil]
        go_wp2_with fail
        refine read_nil.mono ?_
        rintro e w6 ⟨rfl, rfl⟩
        go_wp2_with fail
        refine arm_nil.mono ?_
        rintro e w7 ⟨rfl, rfl⟩
        go_wp2_with fail
        refine (sync_any (f := f) HK5.out).mono ?_
        rintro e w8 ⟨rfl, hK8, hg8⟩
        rw [DF_sync, if_neg (by omega)]
        have HB8 := Lib.hid (HB5.out.grown hg8 hs5 (fun k hk => by cases hk; exact HG.out))
        clear hK8 hg8 HB5 HK5
        go_wp2_with fail
        refine append_nil.mono ?_
        rintro e w9 ⟨rfl, rfl⟩
        go_wp2_with fail
        refine sync_nil.mono ?_
        rintro e w10 ⟨rfl, rfl⟩
        go_wp2_with fail
        refine cut_nil.mono ?_
        rintro e w11 ⟨rfl, rfl⟩
        go_wp2_with fail
        refine down_nil.mono ?_
        rintro e w12 ⟨rfl, rfl⟩
        go_wp2_with fail
        refine free_nil.mono ?_
        rintro e w13 ⟨rfl, rfl⟩
        go_wp2_with fail
        refine synced_nil.mono ?_
        rintro e w14 ⟨rfl, rfl⟩
        go_wp2_with fail
        refine restart_nil.mono ?_
        rintro e w15 ⟨rfl, rfl⟩
        go_wp2_with fail
        refine fork_nil.mono ?_
        rintro e w16 ⟨rfl, rfl⟩
        go_wp2
        go_ret
        exact ⟨by simp, HB8.out⟩
  · by_cases c2 : f < 0
    · refine (append_any (f := 0) (bs := List.replicate n 0) HK3.out (Nat.le_refl _) HR3.out (by omega)).mono ?_
      rw [DF_append, if_neg c1]
      rintro e w4 ⟨rfl, hK4, hg4⟩
      have HB4 := Lib.hid (HB3.out.grown hg4 hs3 (fun k hk => by cases hk; exact HG.out))
      have HK4 := Lib.hid hK4
      have hs4 := HB4.out.size
      clear hK4 hg4 HB3 HK3 HR3
      go_wp2_with fail
      refine (read_any (f := 0) HK4.out).mono ?_
      rw [DF_read]
      rintro e w5 ⟨v, rfl, ho, hb5⟩
      have HB5 := Lib.hid (HB4.out.trans (hb5.mono hs4))
      have HK5 := Lib.hid (HK4.out.below hb5)
      have hs5 := HB5.out.size
      obtain ⟨A5, c5, rfl, _⟩ := ownsRow_cap ho
      clear hb5 HB4 HK4 ho
      rw [List.length_replicate]
      go_wp2_with fail
      refine read_nil.mono ?_
      rintro e w6 ⟨rfl, rfl⟩
      go_wp2_with fail
      refine arm_nil.mono ?_
      rintro e w7 ⟨rfl, rfl⟩
      go_wp2_with fail
      refine (sync_any (f := f) HK5.out).mono ?_
      rintro e w8 ⟨rfl, hK8, hg8⟩
      rw [DF_sync, if_pos (.inl c2)]
      have HB8 := Lib.hid (HB5.out.grown hg8 hs5 (fun k hk => by cases hk; exact HG.out))
      clear hK8 hg8 HB5 HK5
      go_wp2_with fail
      refine append_nil.mono ?_
      rintro e w9 ⟨rfl, rfl⟩
      go_wp2_with fail
      refine sync_nil.mono ?_
      rintro e w10 ⟨rfl, rfl⟩
      go_wp2_with fail
      refine cut_nil.mono ?_
      rintro e w11 ⟨rfl, rfl⟩
      go_wp2_with fail
      refine down_nil.mono ?_
      rintro e w12 ⟨rfl, rfl⟩
      go_wp2_with fail
      refine free_nil.mono ?_
      rintro e w13 ⟨rfl, rfl⟩
      go_wp2_with fail
      refine synced_nil.mono ?_
      rintro e w14 ⟨rfl, rfl⟩
      go_wp2_with fail
      refine restart_nil.mono ?_
      rintro e w15 ⟨rfl, rfl⟩
      go_wp2_with fail
      refine fork_nil.mono ?_
      rintro e w16 ⟨rfl, rfl⟩
      go_wp2
      go_ret
      exact ⟨by simp, HB8.out⟩
    · by_cases c3 : 2 ≤ f
      · refine (append_any (f := 0) (bs := List.replicate n 0) HK3.out (Nat.le_refl _) HR3.out (by omega)).mono ?_
        rw [DF_append, if_neg c1]
        rintro e w4 ⟨rfl, hK4, hg4⟩
        have HB4 := Lib.hid (HB3.out.grown hg4 hs3 (fun k hk => by cases hk; exact HG.out))
        have HK4 := Lib.hid hK4
        have hs4 := HB4.out.size
        clear hK4 hg4 HB3 HK3 HR3
        go_wp2_with fail
        refine (read_any (f := 0) HK4.out).mono ?_
        rw [DF_read]
        rintro e w5 ⟨v, rfl, ho, hb5⟩
        have HB5 := Lib.hid (HB4.out.trans (hb5.mono hs4))
        have HK5 := Lib.hid (HK4.out.below hb5)
        have hs5 := HB5.out.size
        obtain ⟨A5, c5, rfl, _⟩ := ownsRow_cap ho
        clear hb5 HB4 HK4 ho
        rw [List.length_replicate]
        go_wp2_with fail
        refine read_nil.mono ?_
        rintro e w6 ⟨rfl, rfl⟩
        go_wp2_with fail
        refine arm_nil.mono ?_
        rintro e w7 ⟨rfl, rfl⟩
        go_wp2_with fail
        refine (sync_any (f := f) HK5.out).mono ?_
        rintro e w8 ⟨rfl, hK8, hg8⟩
        rw [DF_sync, if_pos (.inr c3)]
        have HB8 := Lib.hid (HB5.out.grown hg8 hs5 (fun k hk => by cases hk; exact HG.out))
        clear hK8 hg8 HB5 HK5
        go_wp2_with fail
        refine append_nil.mono ?_
        rintro e w9 ⟨rfl, rfl⟩
        go_wp2_with fail
        refine sync_nil.mono ?_
        rintro e w10 ⟨rfl, rfl⟩
        go_wp2_with fail
        refine cut_nil.mono ?_
        rintro e w11 ⟨rfl, rfl⟩
        go_wp2_with fail
        refine down_nil.mono ?_
        rintro e w12 ⟨rfl, rfl⟩
        go_wp2_with fail
        refine free_nil.mono ?_
        rintro e w13 ⟨rfl, rfl⟩
        go_wp2_with fail
        refine synced_nil.mono ?_
        rintro e w14 ⟨rfl, rfl⟩
        go_wp2_with fail
        refine restart_nil.mono ?_
        rintro e w15 ⟨rfl, rfl⟩
        go_wp2_with fail
        refine fork_nil.mono ?_
        rintro e w16 ⟨rfl, rfl⟩
        go_wp2
        go_ret
        exact ⟨by simp, HB8.out⟩
      · refine (append_any (f := 0) (bs := List.replicate n 0) HK3.out (Nat.le_refl _) HR3.out (by omega)).mono ?_
        rw [DF_append, if_neg c1]
        rintro e w4 ⟨rfl, hK4, hg4⟩
        have HB4 := Lib.hid (HB3.out.grown hg4 hs3 (fun k hk => by cases hk; exact HG.out))
        have HK4 := Lib.hid hK4
        have hs4 := HB4.out.size
        clear hK4 hg4 HB3 HK3 HR3
        go_wp2_with fail
        refine (read_any (f := 0) HK4.out).mono ?_
        rw [DF_read]
        rintro e w5 ⟨v, rfl, ho, hb5⟩
        have HB5 := Lib.hid (HB4.out.trans (hb5.mono hs4))
        have HK5 := Lib.hid (HK4.out.below hb5)
        have hs5 := HB5.out.size
        obtain ⟨A5, c5, rfl, _⟩ := ownsRow_cap ho
        clear hb5 HB4 HK4 ho
        rw [List.length_replicate]
        go_wp2_with fail
        refine read_nil.mono ?_
        rintro e w6 ⟨rfl, rfl⟩
        go_wp2_with fail
        refine arm_nil.mono ?_
        rintro e w7 ⟨rfl, rfl⟩
        go_wp2_with fail
        refine (sync_any (f := f) HK5.out).mono ?_
        rintro e w8 ⟨rfl, hK8, hg8⟩
        rw [DF_sync, if_neg (by omega)]
        have HB8 := Lib.hid (HB5.out.grown hg8 hs5 (fun k hk => by cases hk; exact HG.out))
        clear hK8 hg8 HB5 HK5
        go_wp2_with fail
        refine append_nil.mono ?_
        rintro e w9 ⟨rfl, rfl⟩
        go_wp2_with fail
        refine sync_nil.mono ?_
        rintro e w10 ⟨rfl, rfl⟩
        go_wp2_with fail
        refine cut_nil.mono ?_
        rintro e w11 ⟨rfl, rfl⟩
        go_wp2_with fail
        refine down_nil.mono ?_
        rintro e w12 ⟨rfl, rfl⟩
        go_wp2_with fail
        refine free_nil.mono ?_
        rintro e w13 ⟨rfl, rfl⟩
        go_wp2_with fail
        refine synced_nil.mono ?_
        rintro e w14 ⟨rfl, rfl⟩
        go_wp2_with fail
        refine restart_nil.mono ?_
        rintro e w15 ⟨rfl, rfl⟩
        go_wp2_with fail
        refine fork_nil.mono ?_
        rintro e w16 ⟨rfl, rfl⟩
        go_wp2
        go_ret
        exact ⟨by simp, HB8.out⟩
end Go.Proofs.Ytabiegbbbljhlaa
