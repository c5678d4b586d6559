/- Walks: the document's Next. -/
import Derived.Test.YtnkboccngialiaaM4
namespace Go.Proofs.Ytnkboccngialiaa
open Go.RowKit

/-- A slice of numbers that reads, in a block from 'base' on, of which more is known. -/
def OutIs (base : Nat) (Q : List Int → Prop) (w : World) (v : Value) : Prop :=
  ∃ (A : Option Addr) (c : Nat) (l : List Int), v = .slice A l.length c ∧ Rd w w.heap.size 1 A l.length c (l.map (.int .i64)) ∧ Q l ∧ ∀ a, A = some a → base ≤ a.block
theorem OutIs.nil (base : Nat) (w : World) {Q : List Int → Prop} (h : Q []) : OutIs base Q w (.slice none 0 0) := ⟨none, 0, [], rfl, Rd.none_ _ _ _, h, fun a ha => by cases ha⟩
theorem OutIs.to {base : Nat} {Q : List Int → Prop} {w w' : World} {v : Value} (h : OutIs base Q w v) (hb : Below w.heap.size w w') : OutIs base Q w' v := by
  obtain ⟨A, c, l, rfl, hr, hq, ha⟩ := h
  exact ⟨A, c, l, rfl, hr.to hb hb.size, hq, ha⟩
theorem OutIs.imp {base : Nat} {Q Q' : List Int → Prop} {w : World} {v : Value} (h : OutIs base Q w v) (hi : ∀ l, Q l → Q' l) : OutIs base Q' w v := by
  obtain ⟨A, c, l, rfl, hr, hq, ha⟩ := h
  exact ⟨A, c, l, rfl, hr, hi l hq, ha⟩
/-- As far as one has come. -/
def PartIs (ms : List MV) (k : Nat) (x : Int) (u : MV) (j : Nat) (l : List Int) : Prop :=
  l.Pairwise (· < ·) ∧ ∀ y, y ∈ l ↔ y ∈ nexts (ms.take k) x ∨ (u.old = x ∧ y ∈ u.new.take j)
theorem sorted_nodup {l : List Int} (h : l.Pairwise (· < ·)) : l.Nodup := h.imp fun h e => by omega
theorem mem_take_flat {ms : List MV} {x y : Int} {k : Nat} (h : y ∈ nexts (ms.take k) x) : y ∈ nexts ms x := by
  obtain ⟨m, hm, h⟩ := mem_nexts.1 h
  exact mem_nexts.2 ⟨m, List.mem_of_mem_take hm, h⟩
theorem PartIs.le {ms : List MV} {k j : Nat} {x : Int} {u : MV} {l : List Int} (h : PartIs ms k x u j l) (hu : u ∈ ms) (hf : fewM ms = true) : l.length ≤ 480 := by
  obtain ⟨F1, F2⟩ := few_iff hf
  have := nexts_le x F1
  refine Nat.le_trans (nodup_le (u := nexts ms x) (sorted_nodup h.1) fun y hy => ?_) (by omega)
  rcases (h.2 y).1 hy with h | ⟨h1, h2⟩
  · exact mem_take_flat h
  · exact mem_nexts.2 ⟨u, hu, h1, List.mem_of_mem_take h2⟩
theorem PartIs.start {ms : List MV} {k : Nat} {x : Int} {u : MV} {l : List Int} (h : NextIs (ms.take k) x l) : PartIs ms k x u 0 l :=
  ⟨h.sorted, fun y => by rw [h.mem]; simp⟩
theorem PartIs.add {ms : List MV} {k j : Nat} {x y : Int} {u : MV} {l l' : List Int} (h : PartIs ms k x u j l) (hy : u.new[j]? = some y) (he : u.old = x) (ha : AddIs l y l') : PartIs ms k x u (j + 1) l' := by
  refine ⟨ha.sorted h.1, fun z => ?_⟩
  rw [ha.mem, h.2, List.take_add_one, hy, Option.toList_some, List.mem_append, List.mem_singleton]
  constructor
  · rintro ((h | ⟨h1, h2⟩) | rfl)
    · exact .inl h
    · exact .inr ⟨h1, .inl h2⟩
    · exact .inr ⟨he, .inr rfl⟩
  · rintro (h | ⟨h1, h2 | rfl⟩)
    · exact .inl (.inl h)
    · exact .inl (.inr ⟨h1, h2⟩)
    · exact .inr rfl
theorem PartIs.stop {ms : List MV} {k j : Nat} {x : Int} {u : MV} {l : List Int} (h : PartIs ms k x u j l) (hx : ms[k]? = some u) (hj : u.old = x → u.new.length ≤ j) : NextIs (ms.take (k + 1)) x l := by
  refine ⟨h.1, fun y => ?_⟩
  rw [h.2, List.take_add_one, hx, Option.toList_some, nexts_snoc]
  by_cases he : u.old = x
  · rw [if_pos he, List.mem_append, List.take_of_length_le (hj he)]
    simp [he]
  · rw [if_neg he]; simp [he]

set_option maxRecDepth 100000 in
set_option maxHeartbeats 8000000 in
theorem rnext_any {A : Option Addr} {n c : Nat} {ms : List MV} {x : Int} {w : World} (hn : n ≤ maxLen) (h : RdM w w.heap.size A n c ms) (hf : fewM ms = true) :
    Calls Try.prog 18 #[.slice A n c, .int .i64 x] w (IntsF none 0 (fun l => NextIs ms x l ∧ l.length ≤ 480) w) := by
  unfold maxLen at hn
  have HL := Lib.hid h.len
  have HF := Lib.hid hf
  obtain ⟨F1, F2⟩ := few_iff hf
  clear hf
  go_enter Try.func18, Try.ntmps18
  go_wp2
  go_loopw [5, 6, 7] (fun o i _ wr => ∃ k : Nat, k ≤ n ∧ i = .int .i64 k ∧ Below w.heap.size w wr ∧ OutIs w.heap.size (NextIs (ms.take k) x) wr o) (fun _ i _ _ => n - (intOf i).toNat)
  case atStart => exact ⟨0, Nat.zero_le _, rfl, Below.refl _ _, OutIs.nil _ _ ⟨by simp, by rw [List.take_zero]; simp [nexts]⟩⟩
  case round =>
    obtain ⟨k, hk, rfl, hb, ho⟩ := hrel
    by_cases hlt : k < n
    · obtain ⟨b0, o0, u, rfl, hbb, hx, hu, h0, h1⟩ := h.get hlt
      have h00 := h0; have h10 := h1
      clear h0 h1
      have HX := Lib.hid hx; clear hx
      obtain ⟨hrd, hnl, _, _⟩ := h.parts u hu
      have hul := F1 u hu
      have ho' := ho.imp (Q' := PartIs ms k x u 0) fun l hl => PartIs.start hl
      clear ho
      go_wp2
      go_loopw [5, 7] (fun o i wr => ∃ j : Nat, j ≤ u.new.length ∧ i = .int .i64 j ∧ Below w.heap.size w wr ∧ OutIs w.heap.size (PartIs ms k x u j) wr o) (fun _ i _ => u.new.length - (intOf i).toNat)
      case atStart => exact ⟨0, Nat.zero_le _, rfl, hb, ho'⟩
      case round =>
        obtain ⟨j, hjl, rfl, hb2, ho2⟩ := hrel
        have h0 := (hb2.cell hbb).trans h00
        have h1 := (hb2.cell hbb).trans h10
        by_cases hlt2 : j < u.new.length
        · by_cases he : u.old = x
          · subst he
            obtain ⟨b1, o1, y, eA, hb1, hx2, g0⟩ := hrd.int_ hlt2
            replace g0 := (hb2.cell hb1).trans g0
            rw [eA] at h1
            have HX2 := Lib.hid hx2; clear hx2
            obtain ⟨A2, c2, l2, rfl, hr2, hp2, hA2⟩ := ho2
            have hle := PartIs.le hp2 hu HF.out
            go_wp2_with (go_at_call 43; refine (add_any (by omega) hr2).mono ?_; rintro e w3 ⟨A3, c3, l3, rfl, hr3, hb3, ha3, hA3⟩)
            go_roundw
            case rel => exact ⟨j + 1, by omega, by go_num, hb2.trans (hb3.mono hb2.size), A3, c3, l3, rfl, hr3, PartIs.add hp2 HX2.out rfl ha3, fun a ha => by
              rcases hA3 a ha with e | e
              · exact hA2 a (e.1 ▸ ha)
              · exact Nat.le_trans hb2.size e⟩
            case measure => simp [intOf]; omega
          · obtain ⟨e1, _⟩ := int_ne he
            go_wp2
            go_roundw
            case rel => exact ⟨k + 1, by omega, by go_num, hb2, ho2.imp fun l hl => hl.stop HX.out (fun e => absurd e he)⟩
            case measure => simp [intOf]; omega
        · go_wp2
          go_roundw
          case rel => exact ⟨k + 1, by omega, by go_num, hb2, ho2.imp fun l hl => hl.stop HX.out (fun e => by omega)⟩
          case measure => simp [intOf]; omega
    · have hkn : k = n := by omega
      subst hkn
      rw [List.take_of_length_le (by rw [HL.out]; omega)] at ho
      go_wp2
      go_ret
      obtain ⟨A2, c2, l2, rfl, hr2, hp2, hA2⟩ := ho
      refine ⟨A2, c2, l2, rfl, hr2, hb, ⟨hp2, ?_⟩, fun a ha => .inr (hA2 a ha)⟩
      have := nexts_le x F1
      exact Nat.le_trans (nodup_le (u := nexts ms x) (sorted_nodup hp2.sorted) fun y hy => (hp2.mem y).1 hy) (by omega)
end Go.Proofs.Ytnkboccngialiaa
