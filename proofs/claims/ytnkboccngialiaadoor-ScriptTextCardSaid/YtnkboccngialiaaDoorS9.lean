/- Walk: ScriptText. -/
import Derived.Test.YtnkboccngialiaaDoorS8
import Derived.Lib.AppendIntMem
namespace Go.Proofs.YtnkboccngialiaaDoor
open Go.RowKit

theorem E38 : Elem Tryd.prog 38 39 1 8 := elem_of (by kernel_rfl)
theorem below_grow (w : World) (k : Nat) (os : Array Obj) : Below w.heap.size w (Sort.grow (w.drewN k) os) :=
  ⟨rfl, rfl, rfl, by show _ ≤ (w.heap ++ os).size; simp, fun j hj => by show (w.heap ++ os)[j]? = _; rw [Array.getElem?_append_left hj]⟩
theorem itoa_tab {w w' : World} (ht : Lib.TabIs Tryd.prog w "internal/strconv.uint64pow10" .u64 Lib.pow10Tab) (hb : Below w.heap.size w w') {e : Int} (h0 : 0 ≤ e) (h1 : e < 1000) :
    Calls Tryd.prog 31 #[.int .i64 e] w' fun e' w'' => e' = .returned (.string (dec e.toNat)) ∧ Below w'.heap.size w' w'' := by
  refine (Tryd.strconv_Itoa e (by omega) (by omega) w' (Lib.tabBelow_of_tabIs ht w' hb)).mono ?_
  rintro e' w'' ⟨rfl, k, os, rfl⟩
  refine ⟨?_, below_grow _ _ _⟩
  rw [Lib.itoa, if_neg (by omega)]; rfl

/-- A number from 0 to 999. -/
def er (z : Int) : Int := z % 18446744073709551616 % 1000
theorem er_in (z : Int) : 0 ≤ er z ∧ er z < 1000 := by unfold er; omega
theorem er_wrap (z : Int) : wrap64 ((IntKind.u64.wrap z).tmod 1000) = er z := by
  have h : IntKind.u64.wrap z = z % 18446744073709551616 := by simp [IntKind.wrap, IntKind.signed, IntKind.bits]
  have h0 : 0 ≤ z % 18446744073709551616 := by omega
  rw [h, Int.tmod_eq_emod_of_nonneg h0]
  have := er_in z
  unfold er at *
  unfold wrap64
  omega
theorem rd_one (w : World) (t : TypeId) (u : Value) : Rd (w.alloc (.cells #[u] t)) (w.heap.size + 1) 1 (some ⟨w.heap.size, 0, none⟩) 1 1 [u] :=
  ⟨rfl, Nat.le_refl _, fun _ => ⟨_, _, rfl, by omega, fun j v hv => by rw [World.cell?, heap_alloc_new, Nat.zero_add]; simpa using hv⟩⟩
theorem tx_str {l : List Int} {k : Nat} {e : Int} (h : l[k]? = some e) : (⟨(tx (l.take k)).toArray⟩ : ByteArray) ++ dec e.toNat ++ ⟨#[10]⟩ = ⟨(tx (l.take (k + 1))).toArray⟩ := by
  rw [tx_take h]
  apply ByteArray.ext
  simp [dec]

set_option maxRecDepth 100000 in
set_option maxHeartbeats 8000000 in
theorem scriptText_any {A : Option Addr} {n c : Nat} {zs : List Int} {w : World} (hr : Rd w w.heap.size 1 A n c (zs.map (.int .i64))) (hc : c * 8 ≤ 140737488351232) (hz : ∀ z ∈ zs, -9223372036854775808 ≤ z ∧ z ≤ 9223372036854775807)
    (ht : Lib.TabIs Tryd.prog w "internal/strconv.uint64pow10" .u64 Lib.pow10Tab) :
    Calls Tryd.prog 4 #[.slice A n c] w (BoolBelow true w) := by
  have hn1 := hr.cap
  have HL := Lib.hid (show zs.length = n by have := hr.len; rw [List.length_map] at this; omega)
  by_cases hn : 300 < n
  · have hn2 : (300 : Int) < n := by omega
    clear hr
    go_enter Tryd.func4, Tryd.ntmps4
    go_wp2_with fail
    refine (awake_any w).mono ?_
    rintro e w1 ⟨rfl, hb⟩
    go_wp2
    go_ret
    exact ⟨rfl, hb⟩
  have hn2 : ¬ (300 : Int) < n := by omega
  have HTX := Lib.hid (tx_len (l := zs.map er) (fun e he => by obtain ⟨z, _, rfl⟩ := List.mem_map.1 he; exact er_in z))
  have HT := Lib.hid ht
  have HZ := Lib.hid hz
  clear ht hz
  go_enter Tryd.func4, Tryd.ntmps4
  go_wp2
  go_loopw [3, 4, 5] (fun s l i wr => ∃ k : Nat, k ≤ n ∧ i = .int .i64 k ∧ s = .string ⟨(tx ((zs.map er).take k)).toArray⟩ ∧ wr.ownsRow w.heap.size 39 1 l k (((zs.map er).take k).map (.int .i64)) ∧ Hid (Below w.heap.size w wr)) (fun _ _ i _ => n - (intOf i).toNat)
  case atStart => exact ⟨0, by omega, rfl, by rw [List.take_zero]; rfl, by rw [List.take_zero]; exact World.ownsRow_nil _ _ _ _, Below.refl _ _⟩
  case round =>
    obtain ⟨k, hk, rfl, rfl, ho, HB⟩ := hrel
    have hbs := HB.out.size
    by_cases hlt : k < n
    · obtain ⟨b, o, z, rfl, hb, hx, h0⟩ := hr.int_ hlt
      have h1 : wr.cell? ⟨b, o + k, none⟩ = some (.int .i64 z) := (HB.out.cell (p := ⟨b, o + k, none⟩) (by show b < _; omega)).trans h0
      have hzz := HZ.out z (List.mem_of_getElem? hx)
      have hxe : (zs.map er)[k]? = some (er z) := by rw [List.getElem?_map, hx]; rfl
      have HN := Lib.hid (tx_str hxe)
      have hei := er_in z
      have HX := Lib.hid hxe
      have htl := HTX.out k
      have HO := Lib.hid ho
      clear hx hxe ho h0
      obtain ⟨S, hS⟩ : ∃ S : ByteArray, (⟨(tx ((zs.map er).take k)).toArray⟩ : ByteArray) = S := ⟨_, rfl⟩
      have hSs : S.size ≤ 4 * k := by rw [← hS]; simpa [ByteArray.size] using htl
      rw [hS] at HN ⊢
      clear hS htl
      have hw : wrap64 ((IntKind.u64.wrap z).tmod 1000) = er z := er_wrap z
      go_wp2_with (at_builtin; refine wpl_append rfl (.tmp 24) (.tmp 26) 38 rfl E38 (B := wr.heap.size + 1) (A := some ⟨wr.heap.size, 0, none⟩) (m := 1) (c := 1) (news := [.int .i64 (er z)]) rfl rfl (HO.out.alloc _) (rd_one _ _ _) (fun u hu => by obtain rfl := List.mem_singleton.1 hu; rfl) (by simp only [maxLen]; omega) (by omega) (by simp; omega) ?_; intro v' w' ho' hg' hb')
      have hown := HO.out.lt
      have hbw : Below w.heap.size w w' := (HB.out.alloc hbs _).grown hg' (by simp; omega) (fun g hg => (hown g hg).1)
      have hbs' := hbw.size
      have C := dig_any 3 (er z).toNat (by omega) (by omega) (by omega) w'
      rw [show (((er z).toNat : Nat) : Int) = er z from by omega] at C
      have hdl := dec_len 3 (er z).toNat (by omega) (by omega)
      have HO1 := Lib.hid ho'
      have HB1 := Lib.hid hbw
      clear ho' hg' hb' hown hbw HO HB hbs h1
      generalize dec (er z).toNat = D at *
      go_wp2_with fail
      refine C.mono ?_
      rintro e w2 ⟨rfl, hb2⟩
      clear C
      have HO2 := Lib.hid (show w2.ownsRow w.heap.size 39 1 v' (k + 1) (((zs.map er).take (k + 1)).map (.int .i64)) from by
        have := HO1.out.kept (row := none) (below_grown hb2) (by cases v'.ownBlock <;> simp)
        rw [List.take_add_one, HX.out]
        simpa using this)
      have HB2 := Lib.hid (HB1.out.trans (hb2.mono hbs'))
      clear HO1 HB1 hb2
      go_wp2
      go_roundw
      case rel => exact ⟨k + 1, by omega, by go_num, by rw [HN.out], HO2.out, HB2⟩
      case measure => simp [intOf]; omega
    · obtain rfl : k = n := by omega
      have hte : (zs.map er).take k = zs.map er := List.take_of_length_le (by rw [List.length_map, HL.out]; exact Nat.le_refl _)
      rw [hte] at ho ⊢
      have HO := Lib.hid ho
      clear ho hte
      go_wp2_with fail
      refine (awake_any wr).mono ?_
      rintro e w1 ⟨rfl, hb1⟩
      have HO1 := Lib.hid (HO.out.kept (row := none) (below_grown hb1) (by cases u4.ownBlock <;> simp))
      have HB1 := Lib.hid (HB.out.trans (hb1.mono hbs))
      have hbs1 := HB1.out.size
      clear hb1 HO HB
      obtain ⟨A4, c4, rfl, hc4⟩ := ownsRow_cap HO1.out
      have C := text_any (l := zs.map er) (by omega) (Nat.le_refl _) (Rd.of_own HO1.out hc4) (fun e he => by obtain ⟨z, _, rfl⟩ := List.mem_map.1 he; exact er_in z)
        (fun e he w' hb => by
          obtain ⟨z, _, rfl⟩ := List.mem_map.1 he
          exact itoa_tab HT.out (HB1.out.trans (hb.mono hbs1)) (er_in z).1 (er_in z).2)
      go_wp2_with fail
      refine C.mono ?_
      rintro e w2 ⟨A5, c5, rfl, hr5, hb5⟩
      have hcv := run_conv hr5
      have HB2 := Lib.hid (HB1.out.trans (hb5.mono hbs1))
      clear C hr5 hb5 HO1 HB1
      generalize tx (zs.map er) = T at *
      go_wp2
      go_ret
      exact ⟨rfl, HB2.out⟩
end Go.Proofs.YtnkboccngialiaaDoor
