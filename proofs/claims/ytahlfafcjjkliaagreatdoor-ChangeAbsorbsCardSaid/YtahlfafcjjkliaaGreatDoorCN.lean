/- Several texts in one: Walk: change.deletions. Walks: slices.Clone and slices.IndexFunc of changes; the closure of tree.Only. Walk: slices.DeleteFunc of changes. Walk: tree.Only. Walks: change.Split; rickhelp.In. Walks: stacks of trees; ricklaw22's few and stackOf; change.of. Walk: change.of. Walk: change.Toucher. Walk: what the laws of changes share: awake. Walk: ricklaw22's awake. Plain laws of changes: the toucher; what is split off; split by one of them. Lists of strings, stacks of files among a law's arguments: opened. -/
import Derived.Test.YtahlfafcjjkliaaGreatDoorM8
import Derived.Test.YtahlfafcjjkliaaGreatDoorM9
import Derived.Test.YtahlfafcjjkliaaGreatDoorU1
import Derived.Test.YtahlfafcjjkliaaGreatDoorLaidU
import Derived.Test.YtahlfafcjjkliaaGreatDoorR1
namespace Go.Proofs.YtahlfafcjjkliaaGreatDoor
open Go.RowKit

def delsF (l : List ChV) : List ChV := l.filter (·.del)
def putsF (l : List ChV) : List ChV := l.filter (fun x => !x.del)
theorem delsF_step {l : List ChV} {k : Nat} {x : ChV} (hx : l[k]? = some x) : delsF (l.take (k + 1)) = delsF (l.take k) ++ if x.del = true then [x] else [] := by
  rw [List.take_add_one, hx, delsF, List.filter_append]
  by_cases e : x.del = true
  · simp [e, delsF]
  · simp [e, delsF]
theorem putsF_step {l : List ChV} {k : Nat} {x : ChV} (hx : l[k]? = some x) : putsF (l.take (k + 1)) = putsF (l.take k) ++ if x.del = true then [] else [x] := by
  rw [List.take_add_one, hx, putsF, List.filter_append]
  by_cases e : x.del = true
  · simp [e, putsF]
  · simp [e, putsF]
set_option maxRecDepth 100000 in
set_option maxHeartbeats 8000000 in
theorem deletions_any {A : Option Addr} {n c : Nat} {l : List ChV} {w : World} (hn : n ≤ 1000000) (h : RdC w w.heap.size A n c l) :
    Calls Tryz.prog 50 #[.slice A n c] w (ChgsIs (· = firstF l) w) := by
  have HL := Lib.hid h.len
  have HF := Lib.hid h.fits
  go_enter Tryz.func50, Tryz.ntmps50
  go_wp2
  go_loopw [3, 4, 9] (fun lv mv i wr => ∃ (k m1 m2 : Nat), k ≤ n ∧ i = .int .i64 k ∧ Below w.heap.size w wr ∧ m1 ≤ k ∧ m2 ≤ k ∧ Hid ((delsF (l.take k)).length = m1) ∧ Hid ((putsF (l.take k)).length = m2) ∧ wr.ownsRow w.heap.size 29 4 lv m1 ((delsF (l.take k)).flatMap ChV.cells) ∧ wr.ownsRow w.heap.size 29 4 mv m2 ((putsF (l.take k)).flatMap ChV.cells) ∧ Hid (∀ g, lv.ownBlock = some g → mv.ownBlock ≠ some g)) (fun _ _ i _ => n - (intOf i).toNat)
  case atStart => exact ⟨0, 0, 0, by omega, rfl, Below.refl _ _, by omega, by omega, by rw [List.take_zero]; exact rfl, by rw [List.take_zero]; exact rfl, by rw [List.take_zero]; exact World.ownsRow_nil _ _ _ _, by rw [List.take_zero]; exact World.ownsRow_nil _ _ _ _, Lib.hid (fun g hg => by cases hg)⟩
  case round =>
    obtain ⟨k, m1, m2, hk, rfl, hb, hk1, hk2, hm1, hm2, ho1, ho2, hne⟩ := hrel
    by_cases hlt : k < n
    · obtain ⟨b0, o0, x, rfl, hbb, hx, hxm, h0, h1, h2, h3⟩ := h.get hlt
      replace h0 := (hb.cell (p := ⟨b0, o0 + k * 4, none⟩) (by show b0 < _; omega)).trans h0
      replace h1 := (hb.cell (p := ⟨b0, o0 + k * 4 + 1, none⟩) (by show b0 < _; omega)).trans h1
      replace h2 := (hb.cell (p := ⟨b0, o0 + k * 4 + 2, none⟩) (by show b0 < _; omega)).trans h2
      replace h3 := (hb.cell (p := ⟨b0, o0 + k * 4 + 3, none⟩) (by show b0 < _; omega)).trans h3
      have HD := Lib.hid (delsF_step hx)
      have HP := Lib.hid (putsF_step hx)
      clear hx
      cases hd : x.del with
      | true =>
        rw [hd] at h1
        have HW := Lib.hid (show delsF (l.take (k + 1)) = delsF (l.take k) ++ [x] by rw [HD.out, if_pos hd])
        have HV := Lib.hid (show putsF (l.take (k + 1)) = putsF (l.take k) by rw [HP.out, if_pos hd, List.append_nil])
        have hcx : (⟨x.path, true, x.exec, x.text⟩ : ChV) = x := by rw [← hd]
        have hb1 := (hb.alloc hb.size (.cells #[.string x.path, .bool true, .bool x.exec, .string x.text] 29)).alloc (hb.alloc hb.size (.cells #[.string x.path, .bool true, .bool x.exec, .string x.text] 29)).size (.cells #[.string x.path, .bool true, .bool x.exec, .string x.text] 29)
        have ho3 := (ho1.alloc (.cells #[.string x.path, .bool true, .bool x.exec, .string x.text] 29)).alloc (.cells #[.string x.path, .bool true, .bool x.exec, .string x.text] 29)
        have ho4 := (ho2.alloc (.cells #[.string x.path, .bool true, .bool x.exec, .string x.text] 29)).alloc (.cells #[.string x.path, .bool true, .bool x.exec, .string x.text] 29)
        have HCX := Lib.hid hcx
        clear hd hcx ho1 ho2 hb
        go_wp2_with (at_builtin; refine wpl_append rfl (.tmp 15) (.tmp 17) 23 rfl E_changes rfl rfl ho3 (rd_litC3 _ ⟨x.path, true, x.exec, x.text⟩ _ (by simp)) (one_changes _) (by unfold maxLen; omega) (by omega) hb1.size ?_; intro v7 w7 ho7 hg7 hv7)
        change World.grownBy _ _ u3.ownBlock at hg7
        rw [HCX.out] at ho7
        have hne' : u4.ownBlock = none ∨ u4.ownBlock ≠ u3.ownBlock := by
          cases e : u4.ownBlock with
          | none => exact .inl rfl
          | some g => exact .inr fun e2 => hne.out g e2.symm e
        go_roundw
        case rel =>
          refine ⟨k + 1, m1 + 1, m2, by omega, by go_num, hb1.grown hg7 hb1.size (fun g hg => (ho3.lt g hg).1), by omega, by omega, ?_, ?_, ?_, ?_, ?_⟩
          · exact Lib.hid (by rw [HW.out, List.length_append, hm1.out]; rfl)
          · exact Lib.hid (by rw [HV.out]; exact hm2.out)
          · rw [HW.out, List.flatMap_append]; simpa using ho7
          · rw [HV.out]; exact ho4.kept hg7 hne'
          · refine Lib.hid fun g hg e => ?_
            rcases hv7 with h7 | h7
            · exact hne.out g (h7.symm.trans hg) e
            · rw [h7] at hg; injection hg with hg
              have := (ho4.lt g e).2
              omega
        case measure => simp [intOf]; omega
      | false =>
        rw [hd] at h1
        have HW := Lib.hid (show delsF (l.take (k + 1)) = delsF (l.take k) by rw [HD.out, if_neg (by rw [hd]; decide), List.append_nil])
        have HV := Lib.hid (show putsF (l.take (k + 1)) = putsF (l.take k) ++ [x] by rw [HP.out, if_neg (by rw [hd]; decide)])
        have hcx : (⟨x.path, false, x.exec, x.text⟩ : ChV) = x := by rw [← hd]
        have hb1 := (hb.alloc hb.size (.cells #[.string x.path, .bool false, .bool x.exec, .string x.text] 29)).alloc (hb.alloc hb.size (.cells #[.string x.path, .bool false, .bool x.exec, .string x.text] 29)).size (.cells #[.string x.path, .bool false, .bool x.exec, .string x.text] 29)
        have ho3 := (ho1.alloc (.cells #[.string x.path, .bool false, .bool x.exec, .string x.text] 29)).alloc (.cells #[.string x.path, .bool false, .bool x.exec, .string x.text] 29)
        have ho4 := (ho2.alloc (.cells #[.string x.path, .bool false, .bool x.exec, .string x.text] 29)).alloc (.cells #[.string x.path, .bool false, .bool x.exec, .string x.text] 29)
        have HCX := Lib.hid hcx
        clear hd hcx ho1 ho2 hb
        go_wp2_with (at_builtin; refine wpl_append rfl (.tmp 19) (.tmp 21) 23 rfl E_changes rfl rfl ho4 (rd_litC3 _ ⟨x.path, false, x.exec, x.text⟩ _ (by simp)) (one_changes _) (by unfold maxLen; omega) (by omega) hb1.size ?_; intro v7 w7 ho7 hg7 hv7)
        change World.grownBy _ _ u4.ownBlock at hg7
        rw [HCX.out] at ho7
        have hne' : u3.ownBlock = none ∨ u3.ownBlock ≠ u4.ownBlock := by
          cases e : u3.ownBlock with
          | none => exact .inl rfl
          | some g => exact .inr fun e2 => hne.out g e e2.symm
        go_roundw
        case rel =>
          refine ⟨k + 1, m1, m2 + 1, by omega, by go_num, hb1.grown hg7 hb1.size (fun g hg => (ho4.lt g hg).1), by omega, by omega, ?_, ?_, ?_, ?_, ?_⟩
          · exact Lib.hid (by rw [HW.out]; exact hm1.out)
          · exact Lib.hid (by rw [HV.out, List.length_append, hm2.out]; rfl)
          · rw [HW.out]; exact ho3.kept hg7 hne'
          · rw [HV.out, List.flatMap_append]; simpa using ho7
          · refine Lib.hid fun g hg e => ?_
            rcases hv7 with h7 | h7
            · exact hne.out g hg (h7.symm.trans e)
            · rw [h7] at e; injection e with e
              have := (ho3.lt g hg).2
              omega
        case measure => simp [intOf]; omega
    · obtain rfl : k = n := by omega
      rw [List.take_of_length_le (by rw [HL.out]; omega)] at hm1 hm2 ho1 ho2
      obtain ⟨A7, c7, rfl, hc7⟩ := ownsRow_cap ho2
      have hr2 := Rd.of_own ho2 hc7
      have HM2 := Lib.hid hm2
      go_wp2_with (at_builtin; refine wpl_append rfl (.tmp 24) (.tmp 25) 23 rfl E_changes rfl rfl ho1 hr2 (one_changes _) (by unfold maxLen; omega) (by omega) hb.size ?_; intro v7 w7 ho7 hg7 hv7)
      go_ret
      obtain ⟨A8, c8, rfl, hc8⟩ := ownsRow_cap ho7
      have hr := Rd.of_own ho7 hc8
      rw [← List.flatMap_append] at hr
      have hlen : (firstF l).length = m1 + m2 := by
        have e1 := hm1.out
        have e2 := hm2.out
        rw [firstF, List.length_append]
        unfold delsF at e1
        unfold putsF at e2
        omega
      have hr' : Rd w7 w7.heap.size 4 A8 (m1 + m2) c8 ((firstF l).flatMap ChV.cells) := hr
      rw [← hlen] at hr' ⊢
      exact ⟨A8, c8, _, rfl, rfl, ⟨hr', rfl, fun x hx => HF.out x (firstF_mem hx)⟩, hb.grown hg7 hb.size (fun g hg => (ho1.lt g hg).1)⟩
end Go.Proofs.YtahlfafcjjkliaaGreatDoor
namespace Go.Proofs.YtahlfafcjjkliaaGreatDoor
open Go.RowKit

set_option maxRecDepth 100000 in
set_option maxHeartbeats 2000000 in
theorem cloneC_any {A : Option Addr} {n c : Nat} {l : List ChV} {w : World} (hn : n ≤ 1000000) (h : RdC w w.heap.size A n c l) :
    Calls Tryz.prog 48 #[.slice A n c] w (CloneIs 29 4 n (l.flatMap ChV.cells) w) := by
  have q22 : ∀ (w : World) (a : Option Addr) (n c n' c' : Nat), (binOp .eql 23 (.slice a n c) (.slice none n' c')).run Tryz.prog w = .ok (.bool a.isNone) w := fun w a n c n' c' => Lib.run_eql_slice_nil w _ _ a n c n' c' Tryz.underlying23
  have hr := h.row
  cases A with
  | none =>
    have hn0 : n = 0 := by
      rcases Nat.eq_zero_or_pos n with h0 | h0
      · exact h0
      · obtain ⟨b, o, e, _⟩ := hr.at_ h0; cases e
    subst hn0
    have hl : l.flatMap ChV.cells = [] := List.eq_nil_of_length_eq_zero (hr.len.trans (Nat.zero_mul 4))
    have HO := Lib.hid hl
    go_enter Tryz.func48, Tryz.ntmps48
    go_wp2
    go_ret
    exact ⟨_, rfl, by rw [HO.out]; exact World.ownsRow_nil _ _ _ _, Below.refl _ _⟩
  | some a =>
    have ho0 : (w.alloc (.cells #[] 29)).ownsRow w.heap.size 29 4 (.slice (some ⟨w.heap.size, 0, none⟩) 0 0) 0 [] := World.ownsRow_made w #[] 0 (Nat.le_refl _) (Nat.zero_le _) (by simp)
    have hb0 : Below w.heap.size w (w.alloc (.cells #[] 29)) := (Below.refl _ _).alloc (Nat.le_refl _) _
    go_enter Tryz.func48, Tryz.ntmps48
    go_wp2_with (at_builtin; refine wpl_append rfl (.tmp 5) (.tmp 6) 23 rfl E_changes rfl rfl ho0 (hr.below hb0) (one_changes _) (by unfold maxLen; omega) (by omega) hb0.size ?_; intro v7 w7 ho7 hg7 hv7)
    rw [Nat.zero_add, List.nil_append] at ho7
    go_ret
    exact ⟨_, rfl, ho7, hb0.grown hg7 hb0.size (fun g hg => (ho0.lt g hg).1)⟩


/-- The set that the closure of Only holds. -/
structure OnlySet (u : World) (g b nn : Nat) (D : DataW Value) (S : Bs → Bool) : Prop where
  at_ : u.cell? ⟨g, 0, none⟩ = some (.map (some b))
  lt : g < u.heap.size
  set : SetP u b nn D S
theorem OnlySet.kept {u u' : World} {g b nn : Nat} {D : DataW Value} {S : Bs → Bool} {row : Option Nat} (h : OnlySet u g b nn D S) (hg : u.grownBy u' row) (h1 : some g ≠ row) (h2 : some b ≠ row) : OnlySet u' g b nn D S :=
  ⟨by rw [World.cell?, hg.block g h.lt h1]; exact h.at_, Nat.lt_of_lt_of_le h.lt hg.size, h.set.kept hg h2⟩
theorem below_grown {u u' : World} (h : Below u.heap.size u u') : u.grownBy u' none := ⟨h.os, h.tape, h.output, h.size, fun k hk _ => h.block k hk⟩
theorem OnlySet.below {u u' : World} {g b nn : Nat} {D : DataW Value} {S : Bs → Bool} (h : OnlySet u g b nn D S) (hb : Below u.heap.size u u') : OnlySet u' g b nn D S :=
  h.kept (below_grown hb) (by simp) (by simp)
def outS (S : Bs → Bool) (x : ChV) : Bool := !S x.path.data.toList
set_option maxRecDepth 100000 in
set_option maxHeartbeats 4000000 in
theorem only_one {x : ChV} {g b nn : Nat} {D : DataW Value} {S : Bs → Bool} {w : World} (h : OnlySet w g b nn D S) (hx : x.path.size ≤ maxLen) :
    Calls Tryz.prog 49 #[.agg #[.string x.path, .bool x.del, .bool x.exec, .string x.text], .pointer (some ⟨g, 0, none⟩)] w (BoolBelow (outS S x) w) := by
  obtain ⟨W, hW⟩ : ∃ u, u = w.alloc (.cells #[.string x.path, .bool x.del, .bool x.exec, .string x.text] 29) := ⟨_, rfl⟩
  have hbW : Below w.heap.size w W := by rw [hW]; exact (Below.refl _ _).alloc (Nat.le_refl _) _
  have h2 := h.below hbW
  have hc := h2.at_
  have hl := h2.set.look hx
  have hk := run_keyP W x.path
  rw [hW] at hc hl hk
  have HW := Lib.hid hbW
  have HE := Lib.hid hW
  have HS := Lib.hid (show outS S x = !S x.path.data.toList from rfl)
  clear hW hbW h2 h
  generalize S x.path.data.toList = s at *
  go_enter Tryz.func49, Tryz.ntmps49
  go_wp2
  go_ret
  exact ⟨ret_bool HS.out.symm, by rw [← HE.out]; exact HW.out⟩

def FirstC (q : ChV → Bool) (l : List ChV) (k : Nat) (f : ChV) : Prop := l[k]? = some f ∧ q f = true ∧ ∀ j g, j < k → l[j]? = some g → q g = false
def PlaceC (q : ChV → Bool) (l : List ChV) (w : World) (e : Ending) (w' : World) : Prop :=
  ∃ k : Int, e = .returned (.int .i64 k) ∧ ((k = -1 ∧ ∀ f ∈ l, q f = false) ∨ ∃ (j : Nat) (f : ChV), k = j ∧ FirstC q l j f) ∧ Below w.heap.size w w'
set_option maxRecDepth 100000 in
set_option maxHeartbeats 4000000 in
theorem indexC_any {A : Option Addr} {n c g b nn : Nat} {D : DataW Value} {S : Bs → Bool} {l : List ChV} {w : World} (hn : n ≤ 17592186044416) (h : RdC w w.heap.size A n c l) (hs : OnlySet w g b nn D S) :
    Calls Tryz.prog 72 #[.slice A n c, .func (.func 49) #[] #[.pointer (some ⟨g, 0, none⟩)]] w (PlaceC (outS S) l w) := by
  have HL := Lib.hid h.len
  go_enter Tryz.func72, Tryz.ntmps72
  go_wp2
  go_loopw [5, 8] (fun _ i wr => ∃ k : Nat, k ≤ n ∧ i = .int .i64 k ∧ Below w.heap.size w wr ∧ Hid (∀ j g, j < k → l[j]? = some g → outS S g = false)) (fun _ i _ => n - (intOf i).toNat)
  case atStart => exact ⟨0, Nat.zero_le _, rfl, Below.refl _ _, fun j g hj => absurd hj (Nat.not_lt_zero _)⟩
  case round =>
    obtain ⟨k, hk, rfl, hb, hj⟩ := hrel
    by_cases hlt : k < n
    · obtain ⟨b0, o0, f, rfl, hbb, hx, hfm, h0, h1, h2, h3⟩ := h.get hlt
      replace h0 := (hb.cell (p := ⟨b0, o0 + k * 4, none⟩) (by show b0 < _; omega)).trans h0
      replace h1 := (hb.cell (p := ⟨b0, o0 + k * 4 + 1, none⟩) (by show b0 < _; omega)).trans h1
      replace h2 := (hb.cell (p := ⟨b0, o0 + k * 4 + 2, none⟩) (by show b0 < _; omega)).trans h2
      replace h3 := (hb.cell (p := ⟨b0, o0 + k * 4 + 3, none⟩) (by show b0 < _; omega)).trans h3
      have HX := Lib.hid hx
      have hfs := (h.fits f hfm).1
      have C := only_one (x := f) (hs.below hb) (by unfold maxLen; omega)
      clear hx
      cases hq : outS S f with
      | true =>
        rw [hq] at C
        have HQ := Lib.hid (show FirstC (outS S) l k f from ⟨HX.out, hq, hj.out⟩)
        clear hq
        go_wp2_with fail
        refine C.mono ?_
        rintro e w1 ⟨rfl, hb1⟩
        have hbd := hb.trans (hb1.mono hb.size)
        clear C
        go_wp2
        go_ret
        exact ⟨k, rfl, .inr ⟨k, f, rfl, HQ.out⟩, hbd⟩
      | false =>
        rw [hq] at C
        have HQ := Lib.hid (show ∀ j g, j < k + 1 → l[j]? = some g → outS S g = false from fun j x hj' hx => by
          by_cases e : j = k
          · subst e; rw [HX.out] at hx; injection hx with hx; subst hx; exact hq
          · exact hj.out j x (by omega) hx)
        clear hq
        go_wp2_with fail
        refine C.mono ?_
        rintro e w1 ⟨rfl, hb1⟩
        have hbd := hb.trans (hb1.mono hb.size)
        clear C
        go_wp2
        go_roundw
        case rel => exact ⟨k + 1, by omega, by go_num, hbd, HQ.out⟩
        case measure => simp [intOf]; omega
    · have hkn : k = n := by omega
      subst hkn
      have HO := Lib.hid (show ∀ f ∈ l, outS S f = false from fun f hf => by
        obtain ⟨i, hi, rfl⟩ := List.getElem_of_mem hf
        exact hj.out i _ (by have := HL.out; omega) (List.getElem?_eq_getElem hi))
      go_wp2
      go_ret
      exact ⟨-1, rfl, .inl ⟨rfl, HO.out⟩, hb⟩
end Go.Proofs.YtahlfafcjjkliaaGreatDoor
namespace Go.Proofs.YtahlfafcjjkliaaGreatDoor
open Go.RowKit

theorem zeroCells_len (z : Array Value) (n : Nat) : (Builtin.zeroCells z n).toList.length = n * z.size := by simp [Builtin.zeroCells]
theorem zeroCells_one {z : Array Value} {n : Nat} (h0 : 0 < z.size) (h : ∀ v ∈ z.toList, v.oneCell' = true) : ∀ u ∈ (Builtin.zeroCells z n).toList, u.oneCell' = true := by
  intro u hu
  simp only [Builtin.zeroCells, Array.toList_map, List.mem_map] at hu
  obtain ⟨i, _, rfl⟩ := hu
  have hi : i % z.size < z.size := Nat.mod_lt _ h0
  rw [getElem!_pos z (i % z.size) hi]
  exact h _ (by rw [← Array.getElem_toList]; exact List.getElem_mem _)
theorem run_clear_rowN {P : Program} (w : World) (t e ty : TypeId) (z : Value) (ht : P.underlying t = some (.slice e)) (hv : ∀ w, (zeroValue e).run P w = .ok z w) {g d c k : Nat} {cur : Array Value} {et : TypeId} {zs : List Value}
    (hz : (Builtin.zeroCells z.cells (k + 1)).toList = zs) (hg : w.heap[g]? = some (.cells cur et (0, 0))) (hfit : d + zs.length ≤ cur.size) (h1 : ∀ v ∈ zs, v.oneCell' = true) :
    (Builtin.clear_ #[t] ty #[.slice (some ⟨g, d, none⟩) (k + 1) c]).run P w = .ok (.tuple #[]) (w.setRow g (cur.toList.take d ++ zs ++ cur.toList.drop (d + zs.length)).toArray) := by
  have hst := run_storeCells_at P g d et zs 0 cur w hg (by simpa using hfit) h1
  simp only [Nat.add_zero] at hst
  simp [Builtin.clear_, run_underlying ht, hv, hz, hst]
theorem rd_row {w : World} {r n cap sz : Nat} {cur : Array Value} {e : TypeId} {xs : List Value} (hg : w.heap[r]? = some (.cells cur e (0, 0))) (hx : xs.length = n * sz) (hnc : n ≤ cap) (ht : ∀ (j : Nat) (u : Value), xs[j]? = some u → cur[j]? = some u) :
    Rd w w.heap.size sz (some ⟨r, 0, none⟩) n cap xs :=
  ⟨hx, hnc, fun _ => ⟨r, 0, rfl, (Array.getElem?_eq_some_iff.1 hg).1, fun j u hu => by rw [Nat.zero_add, cell_of_row w _ _ _ _ _ hg]; exact ht j u hu⟩⟩
def keepS (S : Bs → Bool) (l : List ChV) : List ChV := l.filter fun x => S x.path.data.toList
theorem keepS_step (S : Bs → Bool) {l : List ChV} {k : Nat} {x : ChV} (hx : l[k]? = some x) : keepS S (l.take (k + 1)) = keepS S (l.take k) ++ if S x.path.data.toList = true then [x] else [] := by
  rw [List.take_add_one, hx, keepS, List.filter_append]
  by_cases e : S x.path.data.toList = true
  · simp [e, keepS]
  · simp [e, keepS]
theorem keepS_all {S : Bs → Bool} {l : List ChV} (h : ∀ f ∈ l, outS S f = false) : keepS S l = l := List.filter_eq_self.2 fun x hx => by
  have := h x hx
  simpa [outS] using this
theorem ChV.len_flat (l : List ChV) : (l.flatMap ChV.cells).length = l.length * 4 := by
  induction l with
  | nil => rfl
  | cons x l ih => rw [List.flatMap_cons, List.length_append, ih, List.length_cons, ChV.cells_len]; omega
/-- One more is kept. -/
theorem keep_row {cur : List Value} {a : List ChV} {x : ChV} {l : List ChV} {i n cap : Nat} (hi : a.length = i) (hin : i < n) (hl : l.length = n) (hc : cur.length = cap * 4) (hnc : n ≤ cap)
    (ht : cur.take (n * 4) = (a ++ l.drop i).flatMap ChV.cells) : (cur.take (i * 4) ++ x.cells ++ cur.drop (i * 4 + 4)).take (n * 4) = ((a ++ [x]) ++ l.drop (i + 1)).flatMap ChV.cells := by
  have h1 : cur.take (i * 4) = a.flatMap ChV.cells := by
    have : (cur.take (n * 4)).take (i * 4) = cur.take (i * 4) := by rw [List.take_take, Nat.min_eq_left (by omega)]
    rw [← this, ht, List.flatMap_append, List.take_append_of_le_length (by rw [ChV.len_flat, hi]; exact Nat.le_refl _), List.take_of_length_le (by rw [ChV.len_flat, hi]; exact Nat.le_refl _)]
  have h2 : (cur.take (n * 4)).drop (i * 4 + 4) = (l.drop (i + 1)).flatMap ChV.cells := by
    obtain ⟨y, hy⟩ : ∃ y, l[i]? = some y := ⟨l[i], List.getElem?_eq_getElem (by omega)⟩
    obtain ⟨hy1, hy2⟩ := List.getElem?_eq_some_iff.1 hy
    rw [ht, List.drop_eq_getElem_cons hy1, List.flatMap_append, List.flatMap_cons, ← List.append_assoc]
    rw [List.drop_append_of_le_length (by rw [List.length_append, ChV.len_flat, hi, ChV.cells_len]; exact Nat.le_refl _), List.drop_of_length_le (by rw [List.length_append, ChV.len_flat, hi, ChV.cells_len]; exact Nat.le_refl _), List.nil_append]
  have h3 : (cur.take (i * 4) ++ x.cells).length = i * 4 + 4 := by rw [List.length_append, List.length_take, ChV.cells_len]; omega
  rw [List.take_append, List.take_of_length_le (by omega), h3, ← List.drop_take, h2, h1]
  simp [List.flatMap_append]
set_option maxRecDepth 100000 in
set_option maxHeartbeats 16000000 in
theorem deleteC_any {r n cap g b nn : Nat} {D : DataW Value} {S : Bs → Bool} {cur : Array Value} {l : List ChV} {w : World} (hn : n ≤ 1000000) (hg : w.heap[r]? = some (.cells cur 29 (0, 0))) (hnc : n ≤ cap) (hcm : cap ≤ maxLen) (hcs : cur.size = cap * 4)
    (htake : cur.toList.take (n * 4) = l.flatMap ChV.cells) (hl : l.length = n) (hf : ∀ f ∈ l, f.path.size ≤ 140737488351232 ∧ f.text.size ≤ 140737488351232) (hs : OnlySet w g b nn D S) (h1 : g ≠ r) (h2 : b ≠ r) :
    Calls Tryz.prog 47 #[.slice (some ⟨r, 0, none⟩) n cap, .func (.func 49) #[] #[.pointer (some ⟨g, 0, none⟩)]] w
      fun e w' => ∃ m, e = .returned (.slice (some ⟨r, 0, none⟩) m cap) ∧ (keepS S l).length = m ∧ RdC w' w'.heap.size (some ⟨r, 0, none⟩) m cap (keepS S l) ∧ w.grownBy w' (some r) := by
  have HL := Lib.hid hl
  have HF := Lib.hid hf
  have hi45 : (Tryz.prog.info? 29).map (·.size) = some 4 := by kernel_rfl
  have zv : ∀ w, (zeroValue 29).run Tryz.prog w = .ok (.agg #[.string ⟨#[]⟩, .bool false, .bool false, .string ⟨#[]⟩]) w := Tryz.zeroValue29
  have hrl : r < w.heap.size := (Array.getElem?_eq_some_iff.1 hg).1
  have hR : RdC w w.heap.size (some ⟨r, 0, none⟩) n cap l := ⟨rd_row hg (by rw [ChV.len_flat, hl]) hnc fun j u hu => by simpa using list_get_of htake hu, hl, hf⟩
  have C0 := indexC_any (by omega) hR hs
  have HT0 := Lib.hid htake
  have HG0 := Lib.hid hg
  have HCS := Lib.hid hcs
  clear htake hg hcs hl hf hR
  go_enter Tryz.func47, Tryz.ntmps47
  go_wp2_with fail
  refine C0.mono ?_
  rintro e w1 ⟨k, rfl, hk, hb1⟩
  clear C0
  have hg1 : w.grownBy w1 (some r) := (below_grown hb1).but _
  have HG1 := Lib.hid ((hb1.block r hrl).trans HG0.out)
  rcases hk with ⟨rfl, hno⟩ | ⟨j, f, rfl, hfj⟩
  · have HK := Lib.hid (keepS_all hno)
    clear hno
    go_wp2
    go_ret
    refine ⟨n, rfl, by rw [HK.out, HL.out], ?_, hg1⟩
    rw [HK.out]
    exact ⟨rd_row HG1.out (by rw [ChV.len_flat, HL.out]) hnc fun j u hu => by simpa using list_get_of HT0.out hu, HL.out, HF.out⟩
  · have hjn : j < n := by have := (List.getElem?_eq_some_iff.1 hfj.1).1; rw [HL.out] at this; exact this
    have HKJ := Lib.hid (show keepS S (l.take (j + 1)) = l.take j by
      rw [keepS_step S hfj.1, if_neg (by have := hfj.2.1; simpa [outS] using this), List.append_nil]
      refine keepS_all fun x hx => ?_
      obtain ⟨i, hi, e⟩ := List.getElem_of_mem hx
      rw [List.length_take] at hi
      rw [List.getElem_take] at e
      exact hfj.2.2 i x (by omega) (by rw [← e]; exact List.getElem?_eq_getElem _))
    clear hfj
    have hj1 : ((j : Int) == -1) = false := beq_eq_false_iff_ne.2 (by omega)
    go_wp2
    try rw [hj1]
    clear hj1
    go_loopw [5, 6] (fun iv jv wr => ∃ (i j' : Nat) (cur' : Array Value), j' ≤ n ∧ i < j' ∧ iv = .int .i64 i ∧ jv = .int .i64 j' ∧ w.grownBy wr (some r) ∧ Hid (wr.heap[r]? = some (.cells cur' 29 (0, 0))) ∧ Hid (cur'.size = cap * 4) ∧ Hid (cur'.toList.take (n * 4) = (keepS S (l.take j') ++ l.drop i).flatMap ChV.cells) ∧ Hid ((keepS S (l.take j')).length = i)) (fun _ jv _ => n - (intOf jv).toNat)
    case atStart => exact ⟨j, j + 1, cur, by omega, by omega, rfl, by go_num, hg1, HG1, HCS, Lib.hid (by rw [HKJ.out, List.take_append_drop]; exact HT0.out), Lib.hid (by rw [HKJ.out, List.length_take, HL.out]; omega)⟩
    case round =>
      clear hg1 HG1 HG0 HT0 HKJ hjn hb1
      obtain ⟨i, j', cur', hj', hij, rfl, rfl, hgr, HG, HC, HT, HI⟩ := hrel
      by_cases hlt : j' < n
      · obtain ⟨x, hx⟩ : ∃ x, l[j']? = some x := ⟨l[j']'(by rw [HL.out]; exact hlt), List.getElem?_eq_getElem _⟩
        have hxf := HF.out x (List.mem_of_getElem? hx)
        have hcell : ∀ t u, x.cells[t]? = some u → wr.cell? ⟨r, j' * 4 + t, none⟩ = some u := fun t u hu => by
          have ht : t < 4 := by have := (List.getElem?_eq_some_iff.1 hu).1; exact this
          rw [cell_of_row wr _ _ _ _ _ HG.out]
          have e1 : (keepS S (l.take j') ++ l.drop i)[j']? = some x := by
            rw [List.getElem?_append_right (by rw [HI.out]; omega), HI.out, List.getElem?_drop, show i + (j' - i) = j' by omega]; exact hx
          have e2 := (T.flat_at (f := ChV.cells) ChV.cells_len e1 ht).trans hu
          simpa using list_get_of HT.out e2
        have h0 : wr.cell? ⟨r, j' * 4, none⟩ = some (.string x.path) := hcell 0 _ rfl
        have h1c : wr.cell? ⟨r, j' * 4 + 1, none⟩ = some (.bool x.del) := hcell 1 _ rfl
        have h2c : wr.cell? ⟨r, j' * 4 + 2, none⟩ = some (.bool x.exec) := hcell 2 _ rfl
        have h3c : wr.cell? ⟨r, j' * 4 + 3, none⟩ = some (.string x.text) := hcell 3 _ rfl
        have HK := Lib.hid (keepS_step S hx)
        obtain ⟨W, hW⟩ : ∃ u, u = wr.alloc (.cells #[.string x.path, .bool x.del, .bool x.exec, .string x.text] 29) := ⟨_, rfl⟩
        have hbW : Below wr.heap.size wr W := by rw [hW]; exact (Below.refl _ _).alloc (Nat.le_refl _) _
        have hgW := hgr.andThen (below_grown hbW) (fun j hj => by cases hj)
        have C := only_one (x := x) (hs.kept hgW (by simpa using h1) (by simpa using h2)) (by unfold maxLen; omega)
        have hbox : ∀ t u, x.cells[t]? = some u → ∀ u', Below W.heap.size W u' → u'.cell? ⟨wr.heap.size, t, none⟩ = some u := fun t u hu u' hu' =>
          (hu'.cell (p := ⟨wr.heap.size, t, none⟩) (by show wr.heap.size < _; rw [hW]; simp)).trans (by rw [hW, World.cell?, heap_alloc_new]; simpa [ChV.cells] using hu)
        have HB := Lib.hid hbox
        have HW := Lib.hid hW
        have hrw : r < wr.heap.size := Nat.lt_of_lt_of_le hrl hgr.size
        have HGW := Lib.hid ((hbW.block r hrw).trans HG.out)
        have hrW := Nat.lt_of_lt_of_le hrw hbW.size
        clear hx hcell hW hbox
        cases hq : outS S x with
        | true =>
          rw [hq] at C
          have HN := Lib.hid (show keepS S (l.take (j' + 1)) = keepS S (l.take j') by rw [HK.out, if_neg (by simpa [outS] using hq), List.append_nil])
          clear hq
          go_wp2_with fail
          rw [← HW.out]
          refine C.mono ?_
          rintro e w2 ⟨rfl, hb2⟩
          have hg2 := hgW.andThen (below_grown hb2) (fun j hj => by cases hj)
          have HG2 := Lib.hid ((hb2.block r hrW).trans HGW.out)
          clear C h0 h1c h2c h3c hbW hgW hb2 hgr
          go_wp2
          go_roundw
          case rel => exact ⟨i, j' + 1, cur', by omega, by omega, rfl, by go_num, hg2, HG2, HC, by rw [HN.out]; exact HT, by rw [HN.out]; exact HI⟩
          case measure => simp [intOf]; omega
        | false =>
          rw [hq] at C
          have HN := Lib.hid (show keepS S (l.take (j' + 1)) = keepS S (l.take j') ++ [x] by rw [HK.out, if_pos (by simpa [outS] using hq)])
          clear hq
          go_wp2_with fail
          rw [← HW.out]
          refine C.mono ?_
          rintro e w2 ⟨rfl, hb2⟩
          have hg2 := hgW.andThen (below_grown hb2) (fun j hj => by cases hj)
          have HG2 := Lib.hid ((hb2.block r hrW).trans HGW.out)
          have x0 := HB.out 0 _ rfl w2 hb2
          have x1 := HB.out 1 _ rfl w2 hb2
          have x2 := HB.out 2 _ rfl w2 hb2
          have x3 := HB.out 3 _ rfl w2 hb2
          clear C h0 h1c h2c h3c hbW hgW hb2 hgr
          go_wp2_with (refine wpl_store_mid rfl 29 (.tmp 33) (.tmp 32) rfl (cs := #[.string x.path, .bool x.del, .bool x.exec, .string x.text]) hi45 rfl rfl HG2.out (by rw [HC.out]; show i * 4 + 4 ≤ _; omega) (one_changes [x]) ?_)
          go_roundw
          case rel =>
            refine ⟨i + 1, j' + 1, _, by omega, by omega, by go_num, by go_num, grown_setRow hg2 (.inr rfl), Lib.hid (setRow_heap _ _ _ _ _ _ HG2.out), Lib.hid ?_, Lib.hid ?_, Lib.hid ?_⟩
            · simp only [List.size_toArray, List.length_append, List.length_cons, List.length_take, List.length_drop, Array.length_toList, HC.out]; omega
            · rw [HN.out]
              have h6 := keep_row (x := x) HI.out (by omega) HL.out (by rw [Array.length_toList]; exact HC.out) hnc HT.out
              rw [List.append_assoc] at h6
              exact h6
            · rw [HN.out, List.length_append, HI.out]; rfl
          case measure => simp [intOf]; omega
      · obtain rfl : n = j' := by omega
        rw [List.take_of_length_le (Nat.le_of_eq HL.out)] at HT HI
        obtain ⟨k, hk⟩ : ∃ k, n - i = k + 1 := ⟨n - i - 1, by omega⟩
        obtain ⟨zs, hzs⟩ : ∃ zs, zs = (Builtin.zeroCells (Value.agg #[.string ⟨#[]⟩, .bool false, .bool false, .string ⟨#[]⟩]).cells (k + 1)).toList := ⟨_, rfl⟩
        have hzl : zs.length = (k + 1) * 4 := by rw [hzs, zeroCells_len]; rfl
        have hz1 : ∀ u ∈ zs, u.oneCell' = true := by
          rw [hzs]
          exact zeroCells_one (by decide) (one_changes [⟨⟨#[]⟩, false, false, ⟨#[]⟩⟩])
        obtain ⟨R2, eR2⟩ : ∃ R : Array Value, R = (cur'.toList.take (i * 4) ++ zs ++ cur'.toList.drop (i * 4 + zs.length)).toArray := ⟨_, rfl⟩
        have hcl : ∀ ty c', (Builtin.clear_ #[23] ty #[.slice (some ⟨r, i * 4, none⟩) (n - i) c']).run Tryz.prog wr = .ok (.tuple #[]) (wr.setRow r R2) := fun ty c' => by
          rw [hk, eR2]
          exact run_clear_rowN wr _ _ ty _ Tryz.underlying23 zv hzs.symm HG.out (by rw [hzl, HC.out]; omega) hz1
        have hpre : cur'.toList.take (i * 4) = (keepS S l).flatMap ChV.cells := by
          have : (cur'.toList.take (n * 4)).take (i * 4) = cur'.toList.take (i * 4) := by rw [List.take_take, Nat.min_eq_left (by omega)]
          rw [← this, HT.out, List.flatMap_append, List.take_append_of_le_length (by rw [ChV.len_flat, HI.out]; exact Nat.le_refl _), List.take_of_length_le (by rw [ChV.len_flat, HI.out]; exact Nat.le_refl _)]
        have hkl : ((keepS S l).flatMap ChV.cells).length = i * 4 := by rw [ChV.len_flat, HI.out]
        have hfin : ∀ (j : Nat) (u : Value), ((keepS S l).flatMap ChV.cells)[j]? = some u → R2[j]? = some u := fun j u hu => by
          have hlt : j < i * 4 := by have := (List.getElem?_eq_some_iff.1 hu).1; omega
          rw [← hpre] at hu
          rw [eR2]
          simp only [List.append_assoc]
          rw [List.getElem?_toArray, List.getElem?_append_left (by rw [List.length_take, Array.length_toList, HC.out]; omega)]
          exact hu
        have HFI := Lib.hid hfin
        have HKL := Lib.hid hkl
        have HCL := Lib.hid hcl
        have hcn : ¬ cap = i := by omega
        clear hfin hkl hpre hcl eR2 hz1 hzl hzs hk zv
        have hcl := HCL.out
        go_wp2
        go_ret
        exact ⟨i, rfl, HI.out, ⟨rd_setRow HG.out (by omega) HKL.out HFI.out, HI.out, fun x hx => HF.out x (List.mem_filter.1 hx).1⟩, grown_setRow hgr (.inr rfl)⟩
end Go.Proofs.YtahlfafcjjkliaaGreatDoor
namespace Go.Proofs.YtahlfafcjjkliaaGreatDoor
open Go.RowKit

def strsOf (ps : List ByteArray) (q : Bs) : Bool := ps.any fun s => decide (s.data.toList = q)
theorem strsOf_snoc (ps : List ByteArray) (s : ByteArray) (q : Bs) : strsOf (ps ++ [s]) q = (strsOf ps q || decide (s.data.toList = q)) := by simp [strsOf]
def onlyF (cs : List ChV) (ps : List ByteArray) : List ChV := cs.filter fun x => hasS ps x.path
theorem keepS_only (cs : List ChV) (ps : List ByteArray) : keepS (strsOf ps) cs = onlyF cs ps := by
  refine List.filter_congr fun x _ => ?_
  simp only [strsOf, hasS]
  refine congrArg (fun f => List.any ps f) (funext fun s => ?_)
  rw [Bool.eq_iff_iff]
  simp only [decide_eq_true_eq]
  exact ⟨fun e => ba_ext e, fun e => by rw [e]⟩
theorem onlyF_mem {cs : List ChV} {ps : List ByteArray} {x : ChV} (h : x ∈ onlyF cs ps) : x ∈ cs ∧ x.path ∈ ps := by
  obtain ⟨h1, h2⟩ := List.mem_filter.1 h
  exact ⟨h1, hasS_iff.1 h2⟩
/-- Nothing is deleted of nothing. -/
theorem deleteC_nil {g b nn : Nat} {D : DataW Value} {S : Bs → Bool} {w : World} (hs : OnlySet w g b nn D S) :
    Calls Tryz.prog 47 #[.slice none 0 0, .func (.func 49) #[] #[.pointer (some ⟨g, 0, none⟩)]] w
      fun e w' => e = .returned (.slice none 0 0) ∧ Below w.heap.size w w' := by
  have C0 := indexC_any (by omega) (rdC_none w) hs
  go_enter Tryz.func47, Tryz.ntmps47
  go_wp2_with fail
  refine C0.mono ?_
  rintro e w1 ⟨k, rfl, hk, hb1⟩
  rcases hk with ⟨rfl, hno⟩ | ⟨j, f, rfl, hfj⟩
  · clear C0 hno
    go_wp2
    go_ret
    exact ⟨rfl, hb1⟩
  · have := hfj.1
    simp at this

set_option maxRecDepth 100000 in
set_option maxHeartbeats 16000000 in
theorem only_any {A A' : Option Addr} {n c n' c' : Nat} {l : List ChV} {ps : List ByteArray} {w : World} (hn : n ≤ 1000000) (hn' : n' ≤ 1000000) (h : RdC w w.heap.size A n c l) (hp : Rd w w.heap.size 1 A' n' c' (ps.map .string)) (hpf : ∀ s ∈ ps, s.size ≤ maxLen) :
    Calls Tryz.prog 15 #[.slice A n c, .slice A' n' c'] w (ChgsIs (· = onlyF l ps) w) := by
  have hpl : ps.length = n' := by have := hp.len; rw [List.length_map] at this; omega
  have HPL := Lib.hid hpl
  have HL := Lib.hid h.len
  have HF := Lib.hid h.fits
  have HPF := Lib.hid hpf
  have hmm := @run_makeMap Tryz.prog
  have hS0 := SetP.start w
  obtain ⟨W, hW⟩ : ∃ u, u = (w.alloc (.map #[] 0)).alloc (.cells #[.map (some w.heap.size)] 61) := ⟨_, rfl⟩
  have hbW : Below w.heap.size w W := by
    rw [hW]
    exact ((Below.refl _ _).alloc (Nat.le_refl _) _).alloc (by simp) _
  have hzW : W.heap.size = w.heap.size + 2 := by rw [hW]; simp
  have hS1 : SetP W w.heap.size 0 (.map []) (strsOf (ps.take 0)) := by
    rw [hW]
    exact hS0.kept (World.grownBy_alloc _ _ none) (by simp)
  have hcell : W.cell? ⟨w.heap.size + 1, 0, none⟩ = some (.map (some w.heap.size)) := by
    rw [hW, World.cell?]
    have := heap_alloc_new (w.alloc (.map #[] 0)) (.cells #[.map (some w.heap.size)] 61)
    rw [show (w.alloc (.map #[] 0)).heap.size = w.heap.size + 1 by simp] at this
    rw [this]; rfl
  have HW := Lib.hid hW
  have HZ := Lib.hid hzW
  clear hW hS0 hpl hzW hpf
  go_enter Tryz.func15, Tryz.ntmps15
  go_wp2
  try rw [← HW.out]
  go_loopw [11] (fun i wr => ∃ (k : Nat) (D : DataW Value), k ≤ n' ∧ i = .int .i64 k ∧ Below w.heap.size w wr ∧ w.heap.size + 1 < wr.heap.size ∧ wr.cell? ⟨w.heap.size + 1, 0, none⟩ = some (.map (some w.heap.size)) ∧ SetP wr w.heap.size k D (strsOf (ps.take k))) (fun i _ => n' - (intOf i).toNat)
  case atStart => exact ⟨0, _, Nat.zero_le _, rfl, hbW, by have := HZ.out; omega, hcell, hS1⟩
  case round =>
    clear hbW hcell hS1
    obtain ⟨k, D, hk, rfl, hb, hz, hc, hS⟩ := hrel
    by_cases hlt : k < n'
    · obtain ⟨b0, o0, x, rfl, hbb, hx, h0⟩ := hp.str hlt
      replace h0 := (hb.cell (p := ⟨b0, o0 + k, none⟩) (by show b0 < _; omega)).trans h0
      have hxs := HPF.out x (List.mem_of_getElem? hx)
      have HX := Lib.hid hx
      clear hx
      have hrk := run_keyP wr x
      go_wp2_with (at_mapUpdate; refine wpList_mapUpdate_own _ rfl _ _ _ 61 rfl 65 4 KP Tryz.underlying61 (plainElem Tryz.prog 4) w.heap.size k D rfl hS.own (by unfold maxLen; omega) _ _ _ rfl rfl (keyP hxs) _ [] (boolT true) ?_; intro w5 hown5 hg5; go_frame)
      go_roundw
      case rel =>
        refine ⟨k + 1, _, by omega, by go_num, hb.grown hg5 hb.size (fun g hg => by injection hg with hg; omega), Nat.lt_of_lt_of_le hz hg5.size, ?_, hS.put hxs hown5 fun q => ?_⟩
        · rw [World.cell?, hg5.block (w.heap.size + 1) hz (by intro e; injection e with e; omega)]; exact hc
        · rw [List.take_add_one, HX.out]
          exact strsOf_snoc _ _ _
      case measure => simp [intOf]; omega
    · obtain rfl : k = n' := by omega
      rw [List.take_of_length_le (by rw [HPL.out]; exact Nat.le_refl _)] at hS
      have hset : OnlySet wr (w.heap.size + 1) w.heap.size k D (strsOf ps) := ⟨hc, hz, hS⟩
      clear hS hc
      go_wp2_with fail
      refine (cloneC_any hn (h.to hb hb.size)).mono ?_
      rintro e w1 ⟨v, rfl, ho, hb1⟩
      have hset1 := hset.below hb1
      have hbb1 := hb.trans (hb1.mono hb.size)
      have hzz := hb1.size
      clear hset hb1
      rcases ho.2 with ⟨rfl, hx0⟩ | ⟨gb, cap, cur, rfl, hgb, hg, hnc, hcm, hcs, htake⟩
      · have hl0 : l = [] := List.eq_nil_of_length_eq_zero (HL.out.trans hx0)
        have HO := Lib.hid (show onlyF l ps = [] by rw [hl0]; rfl)
        clear hx0 ho hl0
        go_wp2_with fail
        refine (deleteC_nil hset1).mono ?_
        rintro e w2 ⟨rfl, hb2⟩
        have hbb2 := hbb1.trans (hb2.mono hbb1.size)
        clear hset1 hb2
        go_wp2
        go_ret
        exact ⟨none, 0, [], rfl, HO.out.symm, rdC_none _, hbb2⟩
      · have C := deleteC_any hn hg hnc hcm hcs htake HL.out HF.out hset1 (by omega) (by omega)
        clear hg htake hcs ho hset1
        go_wp2_with fail
        refine C.mono ?_
        rintro e w2 ⟨m, rfl, hm, hr2, hg2⟩
        have hbb2 := hbb1.grown hg2 hbb1.size (fun g hg => by injection hg with hg; omega)
        rw [keepS_only] at hr2 hm
        have HM := Lib.hid hm
        clear C hg2 hm
        go_wp2
        go_ret
        rw [← HM.out] at hr2 ⊢
        exact ⟨_, cap, _, rfl, rfl, hr2, hbb2⟩
end Go.Proofs.YtahlfafcjjkliaaGreatDoor
namespace Go.Proofs.YtahlfafcjjkliaaGreatDoor
open Go.RowKit

open Classical in
noncomputable def splitF (a b : List FV) (ps : List ByteArray) : List FV × Int :=
  if treeOk a = false ∨ treeOk b = false then ([], 5) else
  if (applyF a (firstF (onlyF (changesF a b) ps))).2 ≠ 0 then ([], (applyF a (firstF (onlyF (changesF a b) ps))).2) else
  if (applyF a (firstF (onlyF (changesF a b) ps))).1 = a ∨ (applyF a (firstF (onlyF (changesF a b) ps))).1 = b then ([], 14) else ((applyF a (firstF (onlyF (changesF a b) ps))).1, 0)
theorem onlyF_len (cs : List ChV) (ps : List ByteArray) : (onlyF cs ps).length ≤ cs.length := List.length_filter_le _ _
theorem applyGo_len : ∀ (cs : List ChV) (l : List FV), (applyGo l cs).1.length ≤ l.length + cs.length
  | [], l => by simp [applyGo]
  | x :: cs, l => by
    unfold applyGo
    split
    · have h1 : (applyOne l x).1.length ≤ l.length + 1 := by
        unfold applyOne
        split
        · have := dropF_len l x.path; omega
        · exact putF_len _ _
      have h2 := applyGo_len cs (applyOne l x).1
      rw [List.length_cons]; omega
    · simp
theorem applyF_len (l : List FV) (cs : List ChV) : (applyF l cs).1.length ≤ l.length + cs.length := by
  unfold applyF
  split
  · simp
  · split
    · simp
    · exact applyGo_len _ _

set_option maxRecDepth 100000 in
set_option maxHeartbeats 16000000 in
theorem split_any {A A' A'' : Option Addr} {n c n' c' m c'' : Nat} {a b : List FV} {ps : List ByteArray} {w : World} (hn : n ≤ 17592186044416) (hn' : n' ≤ 17592186044416) (hmp : m ≤ 1000000) (hm : Lm w)
    (ha : RdF w w.heap.size A n c a) (hb : RdF w w.heap.size A' n' c' b) (hp : Rd w w.heap.size 1 A'' m c'' (ps.map .string)) (hpf : ∀ s ∈ ps, s.size ≤ maxLen) :
    Calls Tryz.prog 22 #[.slice A n c, .slice A' n' c', .slice A'' m c''] w (FilesErr (splitF a b ps) w) := by
  have hw : Below w.heap.size w w := Below.refl _ _
  have HLa := Lib.hid ha.len
  have HLb := Lib.hid hb.len
  have HPF := Lib.hid hpf
  clear hpf
  go_enter Tryz.func22, Tryz.ntmps22
  go_wp2_with fail
  refine (treeRight_any hn hm ha).mono ?_
  rintro e v1 ⟨rfl, hx⟩
  replace hw := hw.trans (hx.mono hw.size)
  replace hm := hm.below hx hm.lt
  replace ha := ha.to hx hx.size
  replace hb := hb.to hx hx.size
  replace hp := hp.to hx hx.size
  clear hx
  cases hta : treeOk a with
  | false =>
    have HO := Lib.hid (show splitF a b ps = ([], 5) by rw [splitF, if_pos (.inl hta)])
    clear hta
    go_wp2
    go_ret2
    exact filesErr_none HO.out hw
  | true =>
    have hal := treeOk_len hta
    rw [HLa.out] at hal
    go_wp2_with fail
    refine (treeRight_any hn' hm hb).mono ?_
    rintro e v2 ⟨rfl, hx⟩
    replace hw := hw.trans (hx.mono hw.size)
    replace hm := hm.below hx hm.lt
    replace ha := ha.to hx hx.size
    replace hb := hb.to hx hx.size
    replace hp := hp.to hx hx.size
    clear hx
    cases htb : treeOk b with
    | false =>
      have HO := Lib.hid (show splitF a b ps = ([], 5) by rw [splitF, if_pos (.inr htb)])
      clear hta htb
      go_wp2
      go_ret2
      exact filesErr_none HO.out hw
    | true =>
      have hbl := treeOk_len htb
      rw [HLb.out] at hbl
      have HO := Lib.hid (show splitF a b ps = if (applyF a (firstF (onlyF (changesF a b) ps))).2 ≠ 0 then ([], (applyF a (firstF (onlyF (changesF a b) ps))).2) else if (applyF a (firstF (onlyF (changesF a b) ps))).1 = a ∨ (applyF a (firstF (onlyF (changesF a b) ps))).1 = b then ([], 14) else ((applyF a (firstF (onlyF (changesF a b) ps))).1, 0) by rw [splitF, if_neg (by rw [hta, htb]; simp)])
      have hc1 := changesF_len a b
      rw [HLa.out, HLb.out] at hc1
      have ho1 := onlyF_len (changesF a b) ps
      have hf1 := firstF_len (onlyF (changesF a b) ps)
      have hx1 := applyF_len a (firstF (onlyF (changesF a b) ps))
      rw [HLa.out] at hx1
      clear hta htb
      go_wp2_with fail
      refine (changes_any (by omega) (by omega) ha hb).mono ?_
      rintro e v3 ⟨A1, c1, q, rfl, eq, hrq, hx⟩
      replace hw := hw.trans (hx.mono hw.size)
      replace hm := hm.below hx hm.lt
      replace ha := ha.to hx hx.size
      replace hb := hb.to hx hx.size
      replace hp := hp.to hx hx.size
      clear hx
      rw [← eq] at HO hc1 ho1 hf1 hx1
      clear eq
      go_wp2_with fail
      refine (only_any (by omega) hmp hrq hp HPF.out).mono ?_
      rintro e v4 ⟨A2, c2, r, rfl, er, hrr, hx⟩
      replace hw := hw.trans (hx.mono hw.size)
      replace hm := hm.below hx hm.lt
      replace ha := ha.to hx hx.size
      replace hb := hb.to hx hx.size
      replace hp := hp.to hx hx.size
      replace hrq := hrq.to hx hx.size
      clear hx
      rw [← er] at HO ho1 hf1 hx1
      clear er hrq hp
      go_wp2_with fail
      refine (deletions_any (by omega) hrr).mono ?_
      rintro e v5 ⟨A3, c3, s, rfl, es, hrs, hx⟩
      replace hw := hw.trans (hx.mono hw.size)
      replace hm := hm.below hx hm.lt
      replace ha := ha.to hx hx.size
      replace hb := hb.to hx hx.size
      replace hrr := hrr.to hx hx.size
      clear hx
      rw [← es] at HO hf1 hx1
      clear es hrr
      go_wp2_with fail
      refine (apply_any (by omega) (by omega) hm ha hrs).mono ?_
      rintro e v6 ⟨A4, c4, rfl, hrx, hx⟩
      replace hw := hw.trans (hx.mono hw.size)
      replace hm := hm.below hx hm.lt
      replace ha := ha.to hx hx.size
      replace hb := hb.to hx hx.size
      replace hrs := hrs.to hx hx.size
      clear hx
      clear hrs
      generalize applyF a s = x at *
      obtain ⟨x, xk⟩ := x
      dsimp only at hrx hx1 HO ⊢
      by_cases hz : xk = 0
      · subst hz
        go_wp2_with fail
        refine (treeSame_any (by omega) (by omega) hrx ha).mono ?_
        rintro e v7 ⟨rfl, hx⟩
        replace hw := hw.trans (hx.mono hw.size)
        replace hm := hm.below hx hm.lt
        replace ha := ha.to hx hx.size
        replace hb := hb.to hx hx.size
        replace hrx := hrx.to hx hx.size
        clear hx
        by_cases hxa : x = a
        · have HE := Lib.hid (show splitF a b ps = ([], 14) by rw [HO.out, if_neg (by simp), if_pos (.inl hxa)])
          rw [decide_eq_true hxa]
          clear hxa
          go_wp2
          go_ret2
          exact filesErr_none HE.out hw
        · rw [decide_eq_false hxa]
          go_wp2_with fail
          refine (treeSame_any (by omega) (by omega) hrx hb).mono ?_
          rintro e v8 ⟨rfl, hx⟩
          replace hw := hw.trans (hx.mono hw.size)
          replace hm := hm.below hx hm.lt
          replace ha := ha.to hx hx.size
          replace hb := hb.to hx hx.size
          replace hrx := hrx.to hx hx.size
          clear hx
          by_cases hxb : x = b
          · have HE := Lib.hid (show splitF a b ps = ([], 14) by rw [HO.out, if_neg (by simp), if_pos (.inr hxb)])
            rw [decide_eq_true hxb]
            clear hxa hxb
            go_wp2
            go_ret2
            exact filesErr_none HE.out hw
          · have HE := Lib.hid (show splitF a b ps = (x, 0) by rw [HO.out, if_neg (by simp), if_neg (by rintro (h | h); exact hxa h; exact hxb h)])
            rw [decide_eq_false hxb]
            clear hxa hxb
            go_wp2
            go_ret2
            exact filesErr_ok rfl HE.out hrx hw
      · have HE := Lib.hid (show splitF a b ps = ([], xk) by rw [HO.out, if_pos hz])
        clear hrx
        go_wp2
        go_ret2
        exact filesErr_none HE.out hw

set_option maxRecDepth 100000 in
set_option maxHeartbeats 4000000 in
theorem inS_any {A : Option Addr} {n c : Nat} {l : List ByteArray} {p : ByteArray} {w : World} (hn : n ≤ 17592186044416) (h : Rd w w.heap.size 1 A n c (l.map .string)) :
    Calls Tryz.prog 46 #[.slice A n c, .string p] w fun e w' => e = .returned (.bool (hasS l p)) ∧ w' = w := by
  have hll : l.length = n := by have := h.len; rw [List.length_map] at this; omega
  have HL := Lib.hid hll
  clear hll
  go_enter Tryz.func46, Tryz.ntmps46
  go_wp2
  go_loopw [5] (fun i wr => wr = w ∧ ∃ k : Nat, k ≤ n ∧ i = .int .i64 k ∧ Hid (∀ s ∈ l.take k, s ≠ p)) (fun i _ => n - (intOf i).toNat)
  case atStart => exact ⟨rfl, 0, Nat.zero_le _, rfl, by rw [List.take_zero]; exact Lib.hid (fun _ h => by cases h)⟩
  case round =>
    obtain ⟨rfl, k, hk, rfl, hj⟩ := hrel
    by_cases hlt : k < n
    · obtain ⟨b0, o0, x, rfl, hbb, hx, h0⟩ := h.str hlt
      by_cases hq : x = p
      · have e1 : (x.toList == p.toList) = true := by rw [hq]; exact beq_self_eq_true _
        have HO := Lib.hid (show hasS l p = true from hasS_iff.2 (hq ▸ List.mem_of_getElem? hx))
        clear hx hq
        go_wp2
        go_ret
        exact ⟨ret_bool HO.out.symm, rfl⟩
      · have e1 := ba_ne hq
        have HN := Lib.hid (show ∀ s ∈ l.take (k + 1), s ≠ p from fun s hs => by
          rw [List.take_add_one, hx] at hs
          rcases List.mem_append.1 hs with hs | hs
          · exact hj.out s hs
          · simp at hs; subst hs; exact hq)
        clear hx hq
        go_wp2
        go_roundw
        case rel => exact ⟨trivial, k + 1, by omega, by go_num, HN.out⟩
        case measure => simp [intOf]; omega
    · have hkn : k = n := by omega
      subst hkn
      rw [List.take_of_length_le (by rw [HL.out]; exact Nat.le_refl _)] at hj
      have HO := Lib.hid (show hasS l p = false by
        cases e : hasS l p with
        | false => rfl
        | true => exact absurd rfl (hj.out p (hasS_iff.1 e)))
      go_wp2
      go_ret
      exact ⟨ret_bool HO.out.symm, rfl⟩
end Go.Proofs.YtahlfafcjjkliaaGreatDoor
namespace Go.Proofs.YtahlfafcjjkliaaGreatDoor
open Go.RowKit

/-- A tree's header. -/
structure TV where
  A : Option Addr
  c : Nat
  l : List FV
def TV.hdr (t : TV) : Value := .slice t.A t.l.length t.c
def TV.In (t : TV) (w : World) (B : Nat) : Prop := RdF w B t.A t.l.length t.c t.l ∧ t.l.length ≤ 17592186044416
/-- A stack in memory. -/
structure RdS (w : World) (B : Nat) (A : Option Addr) (n c : Nat) (ts : List TV) : Prop where
  row : Rd w B 1 A n c (ts.map TV.hdr)
  len : ts.length = n
  trees : ∀ t ∈ ts, t.In w B
theorem RdS.to {w w' : World} {B B' n c : Nat} {A : Option Addr} {ts : List TV} (h : RdS w B A n c ts) (hb : Below B w w') (hB : B ≤ B') : RdS w' B' A n c ts :=
  ⟨h.row.to hb hB, h.len, fun t ht => ⟨(h.trees t ht).1.to hb hB, (h.trees t ht).2⟩⟩
theorem RdS.get {w : World} {B n c : Nat} {A : Option Addr} {ts : List TV} (h : RdS w B A n c ts) {k : Nat} (hk : k < n) :
    ∃ b o t, A = some ⟨b, o, none⟩ ∧ b < B ∧ ts[k]? = some t ∧ t.In w B ∧ w.cell? ⟨b, o + k, none⟩ = some t.hdr := by
  obtain ⟨b, o, e, hb, hc⟩ := h.row.at_ (by omega)
  have hg : ts[k]? = some (ts[k]'(by have := h.len; omega)) := List.getElem?_eq_getElem _
  refine ⟨b, o, _, e, hb, hg, h.trees _ (List.getElem_mem _), hc k _ ?_⟩
  rw [List.getElem?_map, hg]; rfl

/-- True or false; true only of a short stack. -/
def FewIs (n : Nat) (w : World) (e : Ending) (w' : World) : Prop := (∃ b, e = .returned (.bool b) ∧ (b = true → n ≤ 8)) ∧ w' = w
set_option maxRecDepth 100000 in
set_option maxHeartbeats 8000000 in
theorem few22_any {A A' : Option Addr} {n c n' c' : Nat} {ts : List TV} {cs : List ChV} {w : World} (hn : n ≤ 17592186044416) (hn' : n' ≤ 17592186044416) (h : RdS w w.heap.size A n c ts) (h' : RdC w w.heap.size A' n' c' cs) :
    Calls Tryz.prog 18 #[.slice A n c, .slice A' n' c'] w (FewIs n w) := by
  go_enter Tryz.func18, Tryz.ntmps18
  go_wp2
  go_loopw [5, 6] (fun z i wr => wr = w ∧ ∃ (k : Nat) (s : Int), k ≤ n ∧ i = .int .i64 k ∧ z = .int .i64 s) (fun _ i _ => n - (intOf i).toNat)
  case atStart => exact ⟨rfl, 0, 0, Nat.zero_le _, rfl, rfl⟩
  case round =>
    obtain ⟨rfl, k, s, hk, rfl, rfl⟩ := hrel
    by_cases hlt : k < n
    · obtain ⟨b0, o0, t, rfl, hbb, hx, ht, h0⟩ := h.get hlt
      obtain ⟨TA, tc, tl⟩ := t
      obtain ⟨ht1, ht2⟩ := ht
      dsimp only [TV.hdr] at h0 ht1 ht2
      clear hx
      go_wp2
      go_loopw [5, 7] (fun z i wr' => wr' = wr ∧ ∃ (j : Nat) (s : Int), j ≤ tl.length ∧ i = .int .i64 j ∧ z = .int .i64 s) (fun _ i _ => tl.length - (intOf i).toNat)
      case atStart => exact ⟨rfl, 0, s, Nat.zero_le _, rfl, rfl⟩
      case round =>
        obtain ⟨rfl, j, s', hj, rfl, rfl⟩ := hrel
        by_cases hlt2 : j < tl.length
        · obtain ⟨b1, o1, f, rfl, hbb1, hy, hfm, p0, p1, p2⟩ := ht1.get hlt2
          clear hy p0 p1
          go_wp2
          go_roundw
          case rel => exact ⟨trivial, j + 1, _, by omega, by go_num, rfl⟩
          case measure => simp [intOf]; omega
        · obtain rfl : j = tl.length := by omega
          go_wp2
          go_roundw
          case rel => exact ⟨trivial, k + 1, _, by omega, by go_num, rfl⟩
          case measure => simp [intOf]; omega
    · obtain rfl : k = n := by omega
      go_wp2
      go_loopw [5, 8] (fun z i wr' => wr' = wr ∧ ∃ (j : Nat) (s : Int), j ≤ n' ∧ i = .int .i64 j ∧ z = .int .i64 s) (fun _ i _ => n' - (intOf i).toNat)
      case atStart => exact ⟨rfl, 0, s, Nat.zero_le _, rfl, rfl⟩
      case round =>
        obtain ⟨rfl, j, s', hj, rfl, rfl⟩ := hrel
        by_cases hlt2 : j < n'
        · obtain ⟨b1, o1, f, rfl, hbb1, hy, hfm, p0, p1, p2, p3⟩ := h'.get hlt2
          clear hy p0 p1 p2
          go_wp2
          go_roundw
          case rel => exact ⟨trivial, j + 1, _, by omega, by go_num, rfl⟩
          case measure => simp [intOf]; omega
        · obtain rfl : j = n' := by omega
          by_cases hq : k ≤ 8
          · go_wp2
            go_ret
            exact ⟨⟨_, rfl, fun _ => hq⟩, rfl⟩
          · go_wp2
            go_ret
            exact ⟨⟨_, rfl, fun h => by simp at h⟩, rfl⟩

theorem E_stack : Elem Tryz.prog 41 22 1 24 := elem_of (by kernel_rfl)
theorem rd_litT (w : World) (t : TV) (k : Nat) (h : w.heap.size = k) : Rd (w.alloc (.cells #[t.hdr] 22)) (k + 1) 1 (some ⟨k, 0, none⟩) 1 1 ([t].map TV.hdr) := by
  subst h
  exact ⟨rfl, Nat.le_refl _, fun _ => ⟨_, 0, rfl, by omega, fun j u hu => by
    rw [Nat.zero_add, World.cell?, heap_alloc_new]
    simpa using hu⟩⟩
theorem one_hdrs (l : List TV) : ∀ u ∈ l.map TV.hdr, u.oneCell' = true := by
  intro u hu
  obtain ⟨t, _, rfl⟩ := List.mem_map.1 hu
  rfl
/-- A stack of trees. -/
def StackIs (P : List (List FV) → Prop) (w : World) (e : Ending) (w' : World) : Prop :=
  ∃ (A : Option Addr) (c : Nat) (ts : List TV), e = .returned (.slice A ts.length c) ∧ P (ts.map TV.l) ∧ RdS w' w'.heap.size A ts.length c ts ∧ Below w.heap.size w w'
set_option maxRecDepth 100000 in
set_option maxHeartbeats 8000000 in
theorem stackOf_any {A : Option Addr} {n c : Nat} {ts : List TV} {w : World} (hn : n ≤ 1000000) (h : RdS w w.heap.size A n c ts) :
    Calls Tryz.prog 21 #[.slice A n c] w (StackIs (· = (ts.map TV.l).map playF) w) := by
  have HL := Lib.hid h.len
  go_enter Tryz.func21, Tryz.ntmps21
  go_wp2
  go_loopw [3, 4] (fun lv i wr => ∃ (k : Nat) (out : List TV), k ≤ n ∧ i = .int .i64 k ∧ Below w.heap.size w wr ∧ Hid (out.length = k) ∧ Hid (out.map TV.l = ((ts.take k).map TV.l).map playF) ∧ wr.ownsRow w.heap.size 22 1 lv k (out.map TV.hdr) ∧ Hid (∀ t ∈ out, t.In wr wr.heap.size ∧ ∀ b o s, t.A = some ⟨b, o, s⟩ → 0 < t.l.length → lv.ownBlock ≠ some b)) (fun _ i _ => n - (intOf i).toNat)
  case atStart => exact ⟨0, [], Nat.zero_le _, rfl, Below.refl _ _, Lib.hid rfl, by rw [List.take_zero]; exact Lib.hid rfl, World.ownsRow_nil _ _ _ _, Lib.hid (fun _ h => by cases h)⟩
  case round =>
    obtain ⟨k, out, hk, rfl, hb, hol, hom, ho, hot⟩ := hrel
    by_cases hlt : k < n
    · obtain ⟨b0, o0, t, rfl, hbb, hx, ht, h0⟩ := h.get hlt
      replace h0 := (hb.cell (p := ⟨b0, o0 + k, none⟩) (by show b0 < _; omega)).trans h0
      obtain ⟨TA, tc, tl⟩ := t
      obtain ⟨ht1, ht2⟩ := ht
      dsimp only [TV.hdr] at h0 ht1 ht2
      have HX := Lib.hid hx
      clear hx
      go_wp2_with fail
      refine (playTree_new ht2 (ht1.to hb hb.size)).mono ?_
      rintro e w1 ⟨A1, c1, l1, rfl, e1, hr1, hb1, hN1⟩
      have E1 := Lib.hid e1
      have hbb1 := hb.trans (hb1.mono hb.size)
      have ho1 := ho.kept (below_grown hb1) (by cases u3.ownBlock <;> simp)
      have hlen := playF_len tl
      rw [← e1] at hlen
      have HOT := Lib.hid (show ∀ t ∈ out ++ [⟨A1, c1, l1⟩], t.In w1 w1.heap.size ∧ ∀ b o s, t.A = some ⟨b, o, s⟩ → 0 < t.l.length → u3.ownBlock ≠ some b from fun t ht => by
        rcases List.mem_append.1 ht with ht | ht
        · obtain ⟨⟨q1, q2⟩, q3⟩ := hot.out t ht
          exact ⟨⟨q1.to hb1 hb1.size, q2⟩, q3⟩
        · simp only [List.mem_singleton] at ht
          subst ht
          exact ⟨⟨hr1, by show l1.length ≤ _; omega⟩, fun b o s hA _ e => by have h1 := hN1 b o s hA; have h2 := (ho.lt b e).2; omega⟩)
      clear ho hb hb1 h0 e1 hot
      have hb2 := hbb1.alloc hbb1.size (.cells #[.slice A1 l1.length c1] 22)
      have ho2 := ho1.alloc (.cells #[.slice A1 l1.length c1] 22)
      have hbA : Below w1.heap.size w1 (w1.alloc (.cells #[.slice A1 l1.length c1] 22)) := (Below.refl _ _).alloc (Nat.le_refl _) _
      clear ho1
      go_wp2_with (at_builtin; refine wpl_append rfl (.tmp 11) (.tmp 17) 41 rfl E_stack rfl rfl ho2 (rd_litT _ ⟨A1, c1, l1⟩ _ rfl) (one_hdrs _) (by unfold maxLen; omega) (by omega) hb2.size ?_; intro v7 w7 ho7 hg7 hv7)
      change World.grownBy _ _ u3.ownBlock at hg7
      have HFR := Lib.hid (show ∀ t ∈ out ++ [⟨A1, c1, l1⟩], t.In w7 w7.heap.size ∧ ∀ b o s, t.A = some ⟨b, o, s⟩ → 0 < t.l.length → v7.ownBlock ≠ some b from fun t ht => by
        obtain ⟨⟨q1, q2⟩, q3⟩ := HOT.out t ht
        refine ⟨⟨⟨?_, q1.len, q1.fits⟩, q2⟩, fun b o s hA hpos e => ?_⟩
        · refine ⟨q1.row.len, q1.row.cap, fun h0 => ?_⟩
          obtain ⟨b, o, hA, hlt, hc⟩ := q1.row.at_ h0
          have hne := q3 b o none hA h0
          have hbs : b < (w1.alloc (.cells #[.slice A1 l1.length c1] 22)).heap.size := Nat.lt_of_lt_of_le hlt hbA.size
          refine ⟨b, o, hA, Nat.lt_of_lt_of_le hbs hg7.size, fun j u hu => ?_⟩
          have h9 := hc j u hu
          rw [← hbA.cell (p := ⟨b, o + j, none⟩) hlt] at h9
          rw [World.cell?, hg7.block b hbs (fun e => hne e.symm)]
          exact h9
        · obtain ⟨b', o', hA', hlt, _⟩ := q1.row.at_ hpos
          rw [hA'] at hA
          injection hA with hA
          injection hA with hA1 hA2 hA3
          rcases hv7 with h7 | h7
          · exact q3 b o s (by rw [hA', hA1, hA2, hA3]) hpos (h7.symm.trans e)
          · rw [h7] at e; injection e with e
            have := hbA.size
            omega)
      go_roundw
      case rel =>
        refine ⟨k + 1, out ++ [⟨A1, c1, l1⟩], by omega, by go_num, hb2.grown hg7 hb2.size (fun g hg => (ho2.lt g hg).1), Lib.hid (by rw [List.length_append, hol.out]; rfl), Lib.hid ?_, by rw [List.map_append]; exact ho7, Lib.hid ?_⟩
        · rw [List.take_add_one, HX.out, List.map_append, hom.out, List.map_append, List.map_append]
          show _ ++ [l1] = _ ++ [playF tl]
          rw [E1.out]
        · exact HFR.out
      case measure => simp [intOf]; omega
    · obtain rfl : k = n := by omega
      rw [List.take_of_length_le (by rw [HL.out]; exact Nat.le_refl _)] at hom
      go_wp2
      go_ret
      obtain ⟨A7, c7, rfl, hc7⟩ := ownsRow_cap ho
      have hr := Rd.of_own ho hc7
      rw [← hol.out] at hr ⊢
      exact ⟨A7, c7, out, rfl, hom.out, ⟨hr, rfl, fun t ht => (hot.out t ht).1⟩, hb⟩
end Go.Proofs.YtahlfafcjjkliaaGreatDoor
namespace Go.Proofs.YtahlfafcjjkliaaGreatDoor
open Go.RowKit

theorem results_cell_row {P : Program} {fn : Func} {p : Tmp} {ty : TypeId} (h : fn.results = #[.cell p ty]) (tmps : Array Value) (w : World) (g : Nat) (t : TypeId) (cs : Array Value) (fr : Nat × Nat) (d : TypeDesc)
    (hp : tmps.getD p undef = .pointer (some ⟨g, 0, none⟩)) (hg : w.heap[g]? = some (.cells cs t fr))
    (hu : P.underlying ty = some d) (hd : (match d with | .struct _ | .array _ _ => true | _ => false) = true) (hi : (P.info? ty).map (·.size) = some cs.size) :
    (results fn tmps).run P w = .ok (.agg cs) w := by
  simp only [results, h]
  have hp' : tmps[p]?.getD undef = .pointer (some ⟨g, 0, none⟩) := by simpa using hp
  simp [Sem.run_bind, hp', asAddr, run_loadVar_row w g t ty cs fr d hg hu hd hi]
def verV (o : Option FV) : Value := .agg #[.bool o.isSome, .string (optF o).path, .bool (optF o).exec, .string (optF o).text]
def VerIs (o : Option FV) (w : World) (e : Ending) (w' : World) : Prop := e = .returned (verV o) ∧ Below w.heap.size w w'
set_option maxRecDepth 100000 in
theorem run_version (w : World) (b x : Bool) (p t : ByteArray) : (Instr.build 77 #[(0, .bool b), (1, .agg #[.string p, .bool x, .string t])]).run Tryz.prog w = .ok (.agg #[.bool b, .string p, .bool x, .string t]) w := by
  go_simp
set_option maxRecDepth 100000 in
set_option maxHeartbeats 4000000 in
theorem of_any {A : Option Addr} {n c : Nat} {l : List FV} {p : ByteArray} {w : World} (hn : n ≤ 17592186044416) (h : RdF w w.heap.size A n c l) :
    Calls Tryz.prog 55 #[.slice A n c, .string p] w (VerIs (findP l p) w) := by
  have hb : ∀ o, Below w.heap.size w (w.alloc o) := fun o => (Below.refl _ _).alloc (Nat.le_refl _) _
  have C : ∀ o, Calls Tryz.prog 45 #[.slice A n c, .string p] (w.alloc o) (FoundIs (findP l p) (w.alloc o)) := fun o => find_any hn (h.to (hb o) (hb o).size)
  have hi81 : (Tryz.prog.info? 77).map (·.size) = some 4 := by kernel_rfl
  go_enter Tryz.func55, Tryz.ntmps55
  go_wp2_with fail
  refine (C _).mono ?_
  rintro e w1 ⟨rfl, hb1⟩
  have hbd := (hb _).trans (hb1.mono (hb _).size)
  have hbox : w1.heap[w.heap.size]? = some (.cells #[.bool false, .string ⟨#[]⟩, .bool false, .string ⟨#[]⟩] 77 (0, 0)) := (hb1.block _ (by simp)).trans (heap_alloc_new _ _)
  clear C hb1
  generalize hga : optF (findP l p) = ga
  generalize hba : (findP l p).isSome = ba
  have HV := Lib.hid (show verV (findP l p) = .agg #[.bool ba, .string ga.path, .bool ga.exec, .string ga.text] by rw [verV, hga, hba])
  clear hga hba
  obtain ⟨V, hV⟩ : ∃ u, u = w1.alloc (.cells #[.string ga.path, .bool ga.exec, .string ga.text] 35) := ⟨_, rfl⟩
  have hbV : Below w.heap.size w V := by rw [hV]; exact hbd.alloc hbd.size _
  have hwl := (Array.getElem?_eq_some_iff.1 hbox).1
  have hboxV : V.heap[w.heap.size]? = some (.cells #[.bool false, .string ⟨#[]⟩, .bool false, .string ⟨#[]⟩] 77 (0, 0)) := by
    rw [hV]; exact (((Below.refl w1.heap.size w1).alloc (Nat.le_refl _) _).block _ hwl).trans hbox
  have HR := Lib.hid (setRow_heap V _ _ #[.bool ba, .string ga.path, .bool ga.exec, .string ga.text] _ _ hboxV)
  have HVV := Lib.hid hV
  have HBV := Lib.hid hbV
  have hz := fun u => run_version u ba ga.exec ga.path ga.text
  rw [hV] at hboxV
  clear hV hbox hbd hbV
  go_wp2_with (refine wpList_store_row rfl 77 (.tmp 4) (.tmp 15) rfl w.heap.size #[.bool ba, .string ga.path, .bool ga.exec, .string ga.text] rfl rfl _ _ hboxV hi81 rfl (by simp [Value.oneCell']) ?_)
  try simp only [Exit.inBlock, Exit.then]
  rw [← HVV.out]
  refine bodyPost_ret (results_cell_row rfl _ _ w.heap.size _ _ (0, 0) _ rfl HR.out Tryz.underlying77 rfl (by kernel_rfl)) rfl ?_
  exact ⟨by rw [HV.out], below_setRow HBV.out (Nat.le_refl _)⟩
end Go.Proofs.YtahlfafcjjkliaaGreatDoor
namespace Go.Proofs.YtahlfafcjjkliaaGreatDoor
open Go.RowKit

theorem ver_iff {x y : Option FV} : x = y ↔ x.isSome = y.isSome ∧ (optF x).path = (optF y).path ∧ (optF x).exec = (optF y).exec ∧ (optF x).text = (optF y).text := by
  constructor
  · rintro rfl; exact ⟨rfl, rfl, rfl, rfl⟩
  · rintro ⟨h1, h2, h3, h4⟩
    cases x <;> cases y
    · rfl
    · simp at h1
    · simp at h1
    · rename_i a b
      have e : a = b := FV.eq_iff.2 ⟨h2, h3, h4⟩
      rw [e]
theorem eqV_run (x y : Option FV) (w : World) : (Op.equalIn 10000 77 (verV x) (verV y)).run Tryz.prog w = .ok (decide (x = y)) w := by
  unfold verV
  by_cases h0 : x.isSome = y.isSome
  case neg => rw [decide_eq_false (fun e => h0 (by rw [e]))]; generalize optF x = a; generalize optF y = b; go_simp <;> simp_all
  have hk : decide (x = y) = decide (optF x = optF y) := by
    rw [Bool.eq_iff_iff]
    simp only [decide_eq_true_eq]
    rw [ver_iff, FV.eq_iff]
    exact ⟨fun h => h.2, fun h => ⟨h0, h⟩⟩
  rw [hk, h0]
  generalize optF x = a
  generalize optF y = b
  generalize y.isSome = s
  by_cases h_path : a.path = b.path
  case neg => rw [decide_eq_false (fun e => h_path (by rw [e]))]; have hn2 : ¬ a.path.toList = b.path.toList := beq_eq_false_iff_ne.1 (ba_ne h_path); go_simp <;> simp_all
  by_cases h_exec : a.exec = b.exec
  case neg => rw [decide_eq_false (fun e => h_exec (by rw [e]))]; go_simp <;> simp_all
  by_cases h_text : a.text = b.text
  case neg => rw [decide_eq_false (fun e => h_text (by rw [e]))]; have hn2 : ¬ a.text.toList = b.text.toList := beq_eq_false_iff_ne.1 (ba_ne h_text); go_simp <;> simp_all
  rw [decide_eq_true (FV.eq_iff.2 ⟨h_path, h_exec, h_text⟩)]; go_simp <;> simp_all
/-- The last tree that has another file of a path than the one ahead of it. -/
def touchFrom (L : List (List FV)) (p : ByteArray) : Nat → Nat
  | 0 => 0
  | k + 1 => if findP (L.getD (k + 1) []) p = findP (L.getD k []) p then touchFrom L p k else k + 1
def touchF (L : List (List FV)) (p : ByteArray) : Nat := touchFrom L p (L.length - 1)
def IntBelow (k : Int) (w : World) (e : Ending) (w' : World) : Prop := e = .returned (.int .i64 k) ∧ Below w.heap.size w w'

set_option maxRecDepth 100000 in
set_option maxHeartbeats 8000000 in
theorem toucher_any {A : Option Addr} {n c : Nat} {ts : List TV} {p : ByteArray} {w : World} (hn : n ≤ 1000000) (h : RdS w w.heap.size A n c ts) :
    Calls Tryz.prog 27 #[.slice A n c, .string p] w (IntBelow (touchF (ts.map TV.l) p) w) := by
  have HL := Lib.hid h.len
  by_cases h0 : n = 0
  · have HO := Lib.hid (show touchF (ts.map TV.l) p = 0 by
      have : ts = [] := List.eq_nil_of_length_eq_zero (HL.out.trans h0)
      rw [this]; rfl)
    subst h0
    go_enter Tryz.func27, Tryz.ntmps27
    go_wp2
    go_loopw [5] (fun i wr => wr = w ∧ i = .int .i64 (-1)) (fun _ _ => 0)
    case atStart => exact ⟨rfl, rfl⟩
    case round =>
      obtain ⟨rfl, rfl⟩ := hrel
      go_wp2
      go_ret
      exact ⟨by rw [HO.out]; rfl, Below.refl _ _⟩
  · go_enter Tryz.func27, Tryz.ntmps27
    go_wp2
    go_loopw [5] (fun i wr => ∃ k : Nat, k < n ∧ i = .int .i64 k ∧ Below w.heap.size w wr ∧ Hid (touchFrom (ts.map TV.l) p k = touchF (ts.map TV.l) p)) (fun i _ => (intOf i).toNat)
    case atStart => exact ⟨n - 1, by omega, by go_num, Below.refl _ _, Lib.hid (by rw [touchF, List.length_map, HL.out])⟩
    case round =>
      obtain ⟨k, hk, rfl, hb, hT⟩ := hrel
      by_cases hk0 : k = 0
      · subst hk0
        have HO := Lib.hid (show touchF (ts.map TV.l) p = 0 from hT.out.symm)
        go_wp2
        go_ret
        exact ⟨by rw [HO.out]; rfl, hb⟩
      · obtain ⟨b0, o0, t, rfl, hbb, hx, ht, h1⟩ := h.get hk
        obtain ⟨b1, o1, u, e1, hbb1, hy, hu, h2⟩ := h.get (k := k - 1) (by omega)
        cases e1
        replace h1 := (hb.cell (p := ⟨b0, o0 + k, none⟩) (by show b0 < _; omega)).trans h1
        replace h2 := (hb.cell (p := ⟨b0, o0 + (k - 1), none⟩) (by show b0 < _; omega)).trans h2
        obtain ⟨TA, tc, tl⟩ := t
        obtain ⟨UA, uc, ul⟩ := u
        obtain ⟨ht1, ht2⟩ := ht
        obtain ⟨hu1, hu2⟩ := hu
        dsimp only [TV.hdr] at h1 h2 ht1 ht2 hu1 hu2
        have HX := Lib.hid hx
        have HY := Lib.hid hy
        clear hx hy
        go_wp2
        refine wp_region_q (fun w' => Below wr.heap.size wr w') [(true, 0), (true, 1), (true, 2), (true, 3), (true, 4), (true, 6), (true, 7), (true, 8), (true, 9), (true, 10), (true, 11), (false, 5), (false, 12), (false, 13)] mixed (by kernel_rfl) (Below.refl _ _).drew ?_
        intro Tp M Q hT1 hT2 hM hQ
        have hbl : b0 < wr.heap.size := by have := hb.size; omega
        have m0 : M ⟨b0, o0 + k, none⟩ = some (.slice TA tl.length tc) := hM _ _ fun w' hw => (hw.cell (p := ⟨b0, o0 + k, none⟩) hbl).trans h1
        have m1 : M ⟨b0, o0 + (k - 1), none⟩ = some (.slice UA ul.length uc) := hM _ _ fun w' hw => (hw.cell (p := ⟨b0, o0 + (k - 1), none⟩) hbl).trans h2
        have e1 : ((k : Int) - 1).toNat = k - 1 := by omega
        simp only [qcmp, Nat.reduceBEq]
        simp (maxSteps := 5000000) only [↓qpre, qpost, qfacts, qnorm, m0, m1, e1]
        have hbd : Below wr.heap.size wr wr.drew := (Below.refl _ _).drew
        have hwd : Below w.heap.size w wr.drew := hb.drew
        have HST := Lib.hid (show touchFrom (ts.map TV.l) p k = if findP tl p = findP ul p then touchFrom (ts.map TV.l) p (k - 1) else k by
          obtain ⟨k', rfl⟩ : ∃ k', k = k' + 1 := ⟨k - 1, by omega⟩
          have g1 : (ts.map TV.l).getD (k' + 1) [] = tl := by rw [List.getD_eq_getElem?_getD, List.getElem?_map, HX.out]; rfl
          have g2 : (ts.map TV.l).getD k' [] = ul := by
            have hy' := HY.out
            rw [show k' + 1 - 1 = k' by omega] at hy'
            rw [List.getD_eq_getElem?_getD, List.getElem?_map, hy']; rfl
          rw [touchFrom, g1, g2]; rfl)
        refine ⟨⟨by omega, by omega⟩, by unfold inI64; omega, ⟨by omega, by omega⟩, ?_⟩
        refine eff_call (by kernel_rfl) (of_any (p := p) ht2 (ht1.to hwd hwd.size)) rfl rfl ?_
        rintro e w1 ⟨rfl, hv1⟩
        have hb1 := hbd.trans (hv1.mono hbd.size)
        refine ⟨_, rfl, hT1 _ hb1, ?_⟩
        simp (maxSteps := 5000000) only [↓qpre, qpost, qfacts, qnorm, m0, m1, e1]
        have hw1 := hwd.trans (hv1.mono hwd.size)
        refine eff_call (by kernel_rfl) (of_any (p := p) hu2 (hu1.to hw1 hw1.size)) rfl rfl ?_
        rintro e w2 ⟨rfl, hv2⟩
        have hb2 := hb1.trans (hv2.mono hb1.size)
        have hw2 := hw1.trans (hv2.mono hw1.size)
        refine ⟨_, rfl, hT1 _ hb2, ?_⟩
        simp (maxSteps := 5000000) only [↓qpre, qpost, qfacts, qnorm]
        refine eff_neq rfl rfl (by kernel_rfl) (eqV_run _ _ _) ⟨hT1 _ hb2, ?_⟩
        simp (maxSteps := 5000000) only [↓qpre, qpost, qfacts, qnorm]
        refine hQ _ _ ?_
        clear hQ hT1 hT2 hM m0 m1 e1 hv1 hv2 hb1 hw1 hb2 hbd hwd h1 h2 hb
        by_cases hq : findP tl p = findP ul p
        · have HN := Lib.hid (show touchFrom (ts.map TV.l) p (k - 1) = touchF (ts.map TV.l) p by rw [← hT.out, HST.out, if_pos hq])
          rw [decide_eq_true hq]
          clear hq
          generalize verV (findP tl p) = va
          generalize verV (findP ul p) = vb
          go_wp2
          go_roundw
          case rel => exact ⟨k - 1, by omega, by go_num, hw2, HN.out⟩
          case measure => simp [intOf]; omega
        · have HN := Lib.hid (show touchF (ts.map TV.l) p = k by rw [← hT.out, HST.out, if_neg hq])
          rw [decide_eq_false hq]
          clear hq
          generalize verV (findP tl p) = va
          generalize verV (findP ul p) = vb
          go_wp2
          go_ret
          exact ⟨by rw [HN.out]; rfl, hw2⟩
end Go.Proofs.YtahlfafcjjkliaaGreatDoor
namespace Go.Proofs.YtahlfafcjjkliaaGreatDoor
open Go.RowKit

def fA : FV := ⟨⟨#[97]⟩, false, ⟨#[]⟩⟩
def fB : FV := ⟨⟨#[98]⟩, false, ⟨#[]⟩⟩
theorem okFA : FileOk fA := ⟨by decide +kernel, by decide +kernel⟩
theorem okFB : FileOk fB := ⟨by decide +kernel, by decide +kernel⟩
theorem treeAB : treeOk [fA, fB] = true := by
  refine treeOk_iff.2 ⟨by decide, fun f hf => ?_, rise_of_pair ?_, fun f hf g hg => ?_⟩
  · simp only [List.mem_cons, List.mem_nil_iff, or_false] at hf
    rcases hf with rfl | rfl
    · exact okFA
    · exact okFB
  · refine List.pairwise_cons.2 ⟨fun x hx => ?_, List.pairwise_cons.2 ⟨fun x hx => (by cases hx), List.Pairwise.nil⟩⟩
    simp only [List.mem_singleton] at hx
    subst hx
    decide +kernel
  · simp only [List.mem_cons, List.mem_nil_iff, or_false] at hf hg
    rcases hf with rfl | rfl <;> rcases hg with rfl | rfl <;> decide +kernel
theorem splitAB : splitF [] [fA, fB] [⟨#[97]⟩] = ([fA], 0) := by
  have h1 : firstF (onlyF (changesF [] [fA, fB]) [⟨#[97]⟩]) = [putC fA] := by decide +kernel
  have h2 : applyF [] [putC fA] = ([fA], 0) := by
    rw [applyF, if_neg (by rw [treeOk_nil]; decide), if_neg (by decide), applyGo]
    have : applyOne [] (putC fA) = ([fA], 0) := by
      rw [applyOne, if_neg (show ¬ (putC fA).del = true from Bool.false_ne_true)]
      exact put_one okFA
    rw [this, if_pos rfl, applyGo]
  rw [splitF, h1, h2, if_neg (by rw [treeOk_nil, treeAB]; decide), if_neg (by simp), if_neg (by decide +kernel)]
theorem touchA : touchF [[], [fA]] ⟨#[97]⟩ = 1 := by decide +kernel
set_option maxRecDepth 100000 in
theorem run_fA (w : World) (p : ByteArray) : (Instr.build 35 #[(0, .string p)]).run Tryz.prog w = .ok (.agg #[.string p, .bool false, .string ⟨#[]⟩]) w := run_fileName w p
theorem rdF_two (w : World) (x y : FV) (hx : x.path.size ≤ 140737488351232 ∧ x.text.size ≤ 140737488351232) (hy : y.path.size ≤ 140737488351232 ∧ y.text.size ≤ 140737488351232) :
    RdF (w.alloc (.cells #[.string x.path, .bool x.exec, .string x.text, .string y.path, .bool y.exec, .string y.text] 35)) (w.alloc (.cells #[.string x.path, .bool x.exec, .string x.text, .string y.path, .bool y.exec, .string y.text] 35)).heap.size (some ⟨w.heap.size, 0, none⟩) 2 2 [x, y] :=
  ⟨⟨rfl, Nat.le_refl _, fun _ => ⟨_, 0, rfl, by simp, fun j u hu => by
    rw [Nat.zero_add, World.cell?, heap_alloc_new]
    simpa [FV.cells] using hu⟩⟩, rfl, fun f hf => by
      simp only [List.mem_cons, List.mem_nil_iff, or_false] at hf
      rcases hf with rfl | rfl
      · exact hx
      · exact hy⟩
theorem rdF_one (w : World) (x : FV) (hx : x.path.size ≤ 140737488351232 ∧ x.text.size ≤ 140737488351232) :
    RdF (w.alloc (.cells #[.string x.path, .bool x.exec, .string x.text] 35)) (w.alloc (.cells #[.string x.path, .bool x.exec, .string x.text] 35)).heap.size (some ⟨w.heap.size, 0, none⟩) 1 1 [x] :=
  ⟨rd_litF w x, rfl, fun f hf => by
      simp only [List.mem_singleton] at hf
      subst hf
      exact hx⟩
theorem rdS_two (w : World) (x y : TV) (hx : x.In w w.heap.size) (hy : y.In w w.heap.size) :
    RdS (w.alloc (.cells #[x.hdr, y.hdr] 22)) (w.alloc (.cells #[x.hdr, y.hdr] 22)).heap.size (some ⟨w.heap.size, 0, none⟩) 2 2 [x, y] := by
  have hb : Below w.heap.size w (w.alloc (.cells #[x.hdr, y.hdr] 22)) := (Below.refl _ _).alloc (Nat.le_refl _) _
  refine ⟨⟨rfl, Nat.le_refl _, fun _ => ⟨_, 0, rfl, by simp, fun j u hu => by
    rw [Nat.zero_add, World.cell?, heap_alloc_new]
    simpa using hu⟩⟩, rfl, fun t ht => ?_⟩
  simp only [List.mem_cons, List.mem_nil_iff, or_false] at ht
  rcases ht with rfl | rfl
  · exact ⟨hx.1.to hb hb.size, hx.2⟩
  · exact ⟨hy.1.to hb hb.size, hy.2⟩
end Go.Proofs.YtahlfafcjjkliaaGreatDoor
namespace Go.Proofs.YtahlfafcjjkliaaGreatDoor
open Go.RowKit

set_option maxRecDepth 100000 in
set_option maxHeartbeats 16000000 in
theorem awake22_any {w : World} (hm : Lm w) : Calls Tryz.prog 19 #[] w (BoolBelow true w) := by
  have hz := fun u p => run_fA u p
  have hw : Below w.heap.size w w := Below.refl _ _
  obtain ⟨W1, hW1⟩ : ∃ u, u = w.alloc (.cells #[.string ⟨#[97]⟩, .bool false, .string ⟨#[]⟩, .string ⟨#[98]⟩, .bool false, .string ⟨#[]⟩] 35) := ⟨_, rfl⟩
  have hx : Below w.heap.size w W1 := by rw [hW1]; exact (Below.refl _ _).alloc (Nat.le_refl _) _
  have r1 : RdF W1 W1.heap.size (some ⟨w.heap.size, 0, none⟩) 2 2 [fA, fB] := by rw [hW1]; exact rdF_two w fA fB ⟨by decide, by decide⟩ ⟨by decide, by decide⟩
  have hz1 : W1.heap.size = w.heap.size + 1 := by rw [hW1]; simp
  replace hw := hw.trans (hx.mono hw.size)
  replace hm := hm.below hx hm.lt
  clear hx
  obtain ⟨W2, hW2⟩ : ∃ u, u = W1.alloc (.cells #[.string ⟨#[97]⟩] 9) := ⟨_, rfl⟩
  have hx : Below W1.heap.size W1 W2 := by rw [hW2]; exact (Below.refl _ _).alloc (Nat.le_refl _) _
  have r2 : Rd W2 W2.heap.size 1 (some ⟨w.heap.size + 1, 0, none⟩) 1 1 ([(⟨#[97]⟩ : ByteArray)].map .string) := by
    have := rd_litS3 W1 ⟨#[97]⟩ _ hz1
    rw [hW2, show (W1.alloc (.cells #[.string ⟨#[97]⟩] 9)).heap.size = w.heap.size + 1 + 1 by simp [hz1]]
    exact this
  replace hw := hw.trans (hx.mono hw.size)
  replace hm := hm.below hx hm.lt
  replace r1 := r1.to hx hx.size
  clear hx
  have HW1 := Lib.hid hW1
  have HW2 := Lib.hid hW2
  clear hW1 hW2 hz1
  have C := split_any (by omega) (by omega) (by omega) hm (RdF.none_ _ _) r1 r2 (fun s hs => by simp only [List.mem_singleton] at hs; subst hs; decide)
  rw [splitAB] at C
  go_enter Tryz.func19, Tryz.ntmps19
  go_wp2_with fail
  rw [← HW1.out, ← HW2.out]
  refine C.mono ?_
  rintro e v1 ⟨A1, c1, rfl, hr, hx⟩
  replace hr : RdF v1 v1.heap.size A1 1 c1 [fA] := hr
  replace hw := hw.trans (hx.mono hw.size)
  replace hm := hm.below hx hm.lt
  clear hx r1 r2 C
  obtain ⟨V, hV⟩ : ∃ u, u = v1.alloc (.cells #[.string ⟨#[97]⟩, .bool false, .string ⟨#[]⟩] 35) := ⟨_, rfl⟩
  have hx : Below v1.heap.size v1 V := by rw [hV]; exact (Below.refl _ _).alloc (Nat.le_refl _) _
  have rl : RdF V V.heap.size (some ⟨v1.heap.size, 0, none⟩) 1 1 [fA] := by rw [hV]; exact rdF_one v1 fA ⟨by decide, by decide⟩
  replace hw := hw.trans (hx.mono hw.size)
  replace hm := hm.below hx hm.lt
  replace hr := hr.to hx hx.size
  clear hx
  have HV := Lib.hid hV
  clear hV
  go_wp2_with fail
  rw [← HV.out]
  refine (plainF_any (by omega) (by omega) hr.row rl.row rfl rfl).mono ?_
  rintro e v2 ⟨rfl, hx⟩
  rw [decide_eq_true (rfl : [fA] = [fA])]
  replace hw := hw.trans (hx.mono hw.size)
  replace hm := hm.below hx hm.lt
  clear hx rl hr HV
  obtain ⟨V1, hV1⟩ : ∃ u, u = v2.alloc (.cells #[.string ⟨#[97]⟩, .bool false, .string ⟨#[]⟩] 35) := ⟨_, rfl⟩
  have hx : Below v2.heap.size v2 V1 := by rw [hV1]; exact (Below.refl _ _).alloc (Nat.le_refl _) _
  have rl : RdF V1 V1.heap.size (some ⟨v2.heap.size, 0, none⟩) 1 1 [fA] := by rw [hV1]; exact rdF_one v2 fA ⟨by decide, by decide⟩
  have hz1 : V1.heap.size = v2.heap.size + 1 := by rw [hV1]; simp
  replace hw := hw.trans (hx.mono hw.size)
  replace hm := hm.below hx hm.lt
  clear hx
  obtain ⟨V2, hV2⟩ : ∃ u, u = V1.alloc (.cells #[.slice none 0 0, .slice (some ⟨v2.heap.size, 0, none⟩) 1 1] 22) := ⟨_, rfl⟩
  have hx : Below V1.heap.size V1 V2 := by rw [hV2]; exact (Below.refl _ _).alloc (Nat.le_refl _) _
  have rs : RdS V2 V2.heap.size (some ⟨v2.heap.size + 1, 0, none⟩) 2 2 [⟨none, 0, []⟩, ⟨some ⟨v2.heap.size, 0, none⟩, 1, [fA]⟩] := by
    have := rdS_two V1 ⟨none, 0, []⟩ ⟨some ⟨v2.heap.size, 0, none⟩, 1, [fA]⟩ ⟨RdF.none_ _ _, by decide⟩ ⟨rl, by show 1 ≤ _; omega⟩
    rw [hV2, ← hz1]
    exact this
  replace hw := hw.trans (hx.mono hw.size)
  replace hm := hm.below hx hm.lt
  clear hx
  have HV1 := Lib.hid hV1
  have HV2 := Lib.hid hV2
  clear hV1 hV2 hz1
  have C := toucher_any (p := ⟨#[97]⟩) (by omega) rs
  rw [show [(⟨none, 0, []⟩ : TV), ⟨some ⟨v2.heap.size, 0, none⟩, 1, [fA]⟩].map TV.l = [[], [fA]] from rfl, touchA] at C
  go_wp2_with fail
  rw [← HV1.out, ← HV2.out]
  refine C.mono ?_
  rintro e v3 ⟨rfl, hx⟩
  replace hw := hw.trans (hx.mono hw.size)
  clear hx rs rl C
  go_wp2
  go_ret
  exact ⟨rfl, hw⟩
end Go.Proofs.YtahlfafcjjkliaaGreatDoor
namespace Go.Proofs.YtahlfafcjjkliaaGreatDoor

/-! ### the toucher -/
theorem touchFrom_le (L : List (List FV)) (p : ByteArray) : ∀ k, touchFrom L p k ≤ k
  | 0 => Nat.le_refl _
  | k + 1 => by
    rw [touchFrom]
    split
    · exact Nat.le_succ_of_le (touchFrom_le L p k)
    · exact Nat.le_refl _
theorem touchFrom_above {L : List (List FV)} {p : ByteArray} : ∀ {k i : Nat}, touchFrom L p k < i → i ≤ k → findP (L.getD i []) p = findP (L.getD (i - 1) []) p
  | 0, i, h, hi => by omega
  | k + 1, i, h, hi => by
    rw [touchFrom] at h
    split at h
    · rename_i e
      by_cases hk : i = k + 1
      · subst hk; exact e
      · exact touchFrom_above h (by omega)
    · omega
theorem touchFrom_at {L : List (List FV)} {p : ByteArray} : ∀ {k i : Nat}, touchFrom L p k = i → 0 < i → findP (L.getD i []) p ≠ findP (L.getD (i - 1) []) p
  | 0, i, h, hi => by rw [touchFrom] at h; omega
  | k + 1, i, h, hi => by
    rw [touchFrom] at h
    split at h
    · exact touchFrom_at h hi
    · rename_i e; subst h; exact e

/-! ### what is split off -/
theorem go_puts0 : ∀ (ys : List FV) {cur : List FV}, treeOk cur = true → (ys.Pairwise fun x y => x.path ≠ y.path) → (applyGo cur (ys.map putC)).2 = 0 →
    treeOk (applyGo cur (ys.map putC)).1 = true ∧ ∀ g, g ∈ (applyGo cur (ys.map putC)).1 ↔ g ∈ ys ∨ (g ∈ cur ∧ ∀ y ∈ ys, g.path ≠ y.path)
  | [], cur, h, _, _ => by simp [applyGo, h]
  | y :: ys, cur, h, hn, h0 => by
    obtain ⟨hn1, hn2⟩ := List.pairwise_cons.1 hn
    rw [List.map_cons, applyGo] at h0 ⊢
    by_cases hk : PutOk cur y
    · rw [applyOne_put hk, if_pos rfl] at h0 ⊢
      obtain ⟨h1, h2⟩ := go_puts0 ys hk.tree_put hn2 h0
      refine ⟨h1, fun g => ?_⟩
      rw [h2, sortedIn_mem, without_mem]
      constructor
      · rintro (a | ⟨rfl | ⟨a, b⟩, c⟩)
        · exact .inl (List.mem_cons_of_mem _ a)
        · exact .inl (by simp)
        · refine .inr ⟨a, fun z hz => ?_⟩
          rcases List.mem_cons.1 hz with rfl | hz
          · exact b
          · exact c z hz
      · rintro (a | ⟨a, b⟩)
        · rcases List.mem_cons.1 a with rfl | a
          · exact .inr ⟨.inl rfl, fun z hz => hn1 z hz⟩
          · exact .inl a
        · exact .inr ⟨.inr ⟨a, b y (by simp)⟩, fun z hz => b z (List.mem_cons_of_mem _ hz)⟩
    · have h3 : (applyOne cur (putC y)).2 ≠ 0 := by
        rw [applyOne, if_neg (show ¬ (putC y).del = true from Bool.false_ne_true)]
        exact (putF_no hk).1
      rw [if_neg h3] at h0
      exact absurd h0 h3
def dsOf (a b : List FV) (ps : List ByteArray) : List ByteArray := ((namesOf (a ++ b)).filter (fun p => (findP b p).isNone)).filter (hasS ps)
def ysOf (a b : List FV) (ps : List ByteArray) : List FV := ((namesOf (a ++ b)).filterMap (newAt a b)).filter (fun y => hasS ps y.path)
theorem filter_swap {α : Type} (p q : α → Bool) (l : List α) : (l.filter p).filter q = (l.filter q).filter p := by
  rw [List.filter_filter, List.filter_filter]; exact List.filter_congr fun x _ => Bool.and_comm _ _
theorem first_only (a b : List FV) (ps : List ByteArray) : firstF (onlyF (changesF a b) ps) = (dsOf a b ps).map delC ++ (ysOf a b ps).map putC := by
  have h1 : (onlyF (changesF a b) ps).filter (·.del) = (dsOf a b ps).map delC := by
    rw [onlyF, filter_swap, changesF, chg_dels, List.filter_map]
    rfl
  have h2 : (onlyF (changesF a b) ps).filter (fun x => !x.del) = (ysOf a b ps).map putC := by
    rw [onlyF, filter_swap, changesF, chg_puts, List.filter_map]
    rfl
  rw [firstF, h1, h2]
/-- What is split off. -/
structure SplitOk (a b x : List FV) (ps : List ByteArray) : Prop where
  tree : treeOk x = true
  notA : x ≠ a
  notB : x ≠ b
  at_ : ∀ q, findP x q = if hasS ps q = true then findP b q else findP a q
theorem split_ok {a b : List FV} {ps : List ByteArray} (ha : treeOk a = true) (hb : treeOk b = true) (h : (splitF a b ps).2 = 0) : SplitOk a b (splitF a b ps).1 ps := by
  rw [splitF, if_neg (by rw [ha, hb]; simp)] at h ⊢
  by_cases h1 : (applyF a (firstF (onlyF (changesF a b) ps))).2 = 0
  · rw [if_neg (fun e => e h1)] at h ⊢
    by_cases h2 : (applyF a (firstF (onlyF (changesF a b) ps))).1 = a ∨ (applyF a (firstF (onlyF (changesF a b) ps))).1 = b
    · rw [if_pos h2] at h; cases h
    · rw [if_neg h2] at h ⊢
      clear h
      have hra := (treeOk_iff.1 ha).2.2.1
      have hrb := (treeOk_iff.1 hb).2.2.1
      have hnd := up_nodup (namesOf_up (a ++ b))
      suffices hs : treeOk (applyF a (firstF (onlyF (changesF a b) ps))).1 = true ∧ ∀ q, findP (applyF a (firstF (onlyF (changesF a b) ps))).1 q = if hasS ps q = true then findP b q else findP a q from
        ⟨hs.1, fun e => h2 (.inl e), fun e => h2 (.inr e), hs.2⟩
      have hgo : applyF a (firstF (onlyF (changesF a b) ps)) = applyGo a (firstF (onlyF (changesF a b) ps)) := by
        rw [applyF, if_neg (by rw [ha]; decide)] at h1 ⊢
        split at h1
        · cases h1
        · rename_i hl; rw [if_neg hl]
      rw [hgo, first_only] at h1 ⊢
      clear hgo h2
      have hds : ∀ p ∈ dsOf a b ps, p ∈ namesOf (a ++ b) ∧ findP b p = none ∧ hasS ps p = true := fun p hp => by
        obtain ⟨k1, k2⟩ := List.mem_filter.1 hp
        obtain ⟨k3, k4⟩ := List.mem_filter.1 k1
        exact ⟨k3, by simpa using k4, k2⟩
      obtain ⟨cur, c1, c2, _, c4⟩ := go_dels (dsOf a b ps) (cur := a) ((ysOf a b ps).map putC) ha ((hnd.sublist List.filter_sublist).sublist List.filter_sublist) (fun p hp => by
        obtain ⟨k1, k2, _⟩ := hds p hp
        obtain ⟨f, hf, e⟩ := namesOf_mem.1 k1
        rcases List.mem_append.1 hf with hf | hf
        · exact hasP_iff.2 ⟨f, hf, e⟩
        · exact absurd e (hasP_mem (findP_none.1 k2) hf))
      rw [c4] at h1 ⊢
      have hys : ∀ y ∈ ysOf a b ps, y ∈ b ∧ findP b y.path = some y ∧ findP a y.path ≠ some y ∧ hasS ps y.path = true := fun y hy => by
        obtain ⟨k1, k2⟩ := List.mem_filter.1 hy
        obtain ⟨p, _, e⟩ := List.mem_filterMap.1 k1
        obtain ⟨e1, e2⟩ := newAt_some.1 e
        obtain ⟨e3, e4⟩ := findP_some e1
        rw [← e4] at e1 e2
        exact ⟨e3, e1, e2, k2⟩
      have hyd : (ysOf a b ps).Pairwise fun x y => x.path ≠ y.path := by
        refine List.Pairwise.sublist List.filter_sublist ?_
        rw [List.pairwise_filterMap]
        refine hnd.imp fun {x y} hxy u hu v hv e => hxy ?_
        rw [← (findP_some (newAt_some.1 hu).1).2, ← (findP_some (newAt_some.1 hv).1).2, e]
      obtain ⟨k1, k2⟩ := go_puts0 (ysOf a b ps) c1 hyd h1
      refine ⟨k1, fun q => ?_⟩
      have hrx := (treeOk_iff.1 k1).2.2.1
      by_cases hq : hasS ps q = true
      · rw [if_pos hq]
        refine findP_ext hrx hrb fun g hg => ?_
        rw [k2]
        constructor
        · rintro (hy | ⟨hc, hne⟩)
          · exact (hys g hy).1
          · obtain ⟨hga, hgd⟩ := (c2 g).1 hc
            have hgn : g.path ∈ namesOf (a ++ b) := namesOf_mem.2 ⟨g, List.mem_append.2 (.inl hga), rfl⟩
            have hfa : findP a g.path = some g := (findP_iff hra).2 ⟨hga, rfl⟩
            cases e : findP b g.path with
            | none => exact absurd (List.mem_filter.2 ⟨List.mem_filter.2 ⟨hgn, by rw [e]; rfl⟩, by rw [hg]; exact hq⟩) hgd
            | some h =>
              obtain ⟨e3, e4⟩ := findP_some e
              by_cases e2 : findP a g.path = some h
              · rw [hfa] at e2; injection e2 with e2; rw [e2]; exact e3
              · exact absurd e4.symm (hne h (List.mem_filter.2 ⟨List.mem_filterMap.2 ⟨g.path, hgn, newAt_some.2 ⟨e, e2⟩⟩, by rw [e4, hg]; exact hq⟩))
        · intro hgb
          have hfb : findP b g.path = some g := (findP_iff hrb).2 ⟨hgb, rfl⟩
          have hgn : g.path ∈ namesOf (a ++ b) := namesOf_mem.2 ⟨g, List.mem_append.2 (.inr hgb), rfl⟩
          by_cases e2 : findP a g.path = some g
          · refine .inr ⟨(c2 g).2 ⟨(findP_some e2).1, fun hm => ?_⟩, fun y hy e3 => ?_⟩
            · have := (hds _ hm).2.1
              rw [hfb] at this; cases this
            · obtain ⟨h5, _, h6, _⟩ := hys y hy
              have : g = y := rise_inj hrb hgb h5 e3
              subst this
              exact h6 e2
          · exact .inl (List.mem_filter.2 ⟨List.mem_filterMap.2 ⟨g.path, hgn, newAt_some.2 ⟨hfb, e2⟩⟩, by rw [hg]; exact hq⟩)
      · rw [if_neg hq]
        refine findP_ext hrx hra fun g hg => ?_
        rw [k2]
        constructor
        · rintro (hy | ⟨hc, _⟩)
          · exact absurd (by rw [← hg]; exact (hys g hy).2.2.2) hq
          · exact ((c2 g).1 hc).1
        · intro hga
          refine .inr ⟨(c2 g).2 ⟨hga, fun hm => hq (by rw [← hg]; exact (hds _ hm).2.2)⟩, fun y hy e => hq ?_⟩
          rw [← hg, e]; exact (hys y hy).2.2.2
  · rw [if_pos h1] at h
    exact absurd h h1
theorem split_no {a b : List FV} {ps : List ByteArray} (h : (splitF a b ps).2 ≠ 0) : (splitF a b ps).1 = [] := by
  unfold splitF at h ⊢
  split
  · rfl
  · split
    · rfl
    · split
      · rfl
      · rename_i h1 h2 h3
        rw [if_neg h1, if_neg h2, if_neg h3] at h
        exact absurd rfl h

/-! ### by one of the changes -/
noncomputable def diffs (a b : List FV) : List ByteArray := (changesF a b).map (·.path)
theorem chg_diffs (a b : List FV) : ∀ ns : List ByteArray, (∀ p ∈ ns, findP a p = none → findP b p ≠ none) → (ns.flatMap (chgAt a b)).map (·.path) = ns.filter (fun p => decide (findP a p ≠ findP b p))
  | [], _ => rfl
  | p :: ns, hns => by
    rw [List.flatMap_cons, List.map_append, chg_diffs a b ns (fun q hq => hns q (List.mem_cons_of_mem _ hq)), List.filter_cons]
    have hp := hns p (by simp)
    unfold chgAt
    cases h1 : findP a p with
    | none =>
      cases h2 : findP b p with
      | none => exact absurd h2 (hp h1)
      | some y => simp
    | some x =>
      cases h2 : findP b p with
      | none => simp
      | some y =>
        by_cases e2 : x = y
        · simp [e2]
        · simp [e2]
theorem diffs_eq (a b : List FV) : diffs a b = (namesOf (a ++ b)).filter (fun p => decide (findP a p ≠ findP b p)) := by
  refine chg_diffs a b _ fun p hp h1 h2 => ?_
  obtain ⟨f, hf, e⟩ := namesOf_mem.1 hp
  rcases List.mem_append.1 hf with hf | hf
  · exact absurd e (hasP_mem (findP_none.1 h1) hf)
  · exact absurd e (hasP_mem (findP_none.1 h2) hf)
theorem diffs_mem {a b : List FV} {p : ByteArray} : p ∈ diffs a b ↔ findP a p ≠ findP b p := by
  rw [diffs_eq, List.mem_filter, decide_eq_true_eq]
  refine ⟨fun h => h.2, fun h => ⟨?_, h⟩⟩
  cases h1 : findP a p with
  | some x => exact namesOf_mem.2 ⟨x, List.mem_append.2 (.inl (findP_some h1).1), (findP_some h1).2⟩
  | none =>
    cases h2 : findP b p with
    | some x => exact namesOf_mem.2 ⟨x, List.mem_append.2 (.inr (findP_some h2).1), (findP_some h2).2⟩
    | none => rw [h1, h2] at h; exact absurd rfl h
theorem diffs_up (a b : List FV) : UpP (diffs a b) := by
  rw [diffs_eq]
  exact List.Pairwise.sublist List.filter_sublist (namesOf_up _)
theorem diffs_len (a b : List FV) : (diffs a b).length = (changesF a b).length := List.length_map ..
theorem split_all {a b : List FV} (ha : treeOk a = true) (hb : treeOk b = true) (hla : a.length ≤ 30) (hlb : b.length ≤ 30) : splitF a b (diffs a b) = ([], 14) := by
  have h1 : onlyF (changesF a b) (diffs a b) = changesF a b := List.filter_eq_self.2 fun x hx => hasS_iff.2 (List.mem_map.2 ⟨x, hx, rfl⟩)
  rw [splitF, h1, first_changes ha hb hla hlb, if_neg (by rw [ha, hb]; simp), if_neg (by simp), if_pos (.inr rfl)]
theorem split_none {a b : List FV} (ha : treeOk a = true) (hb : treeOk b = true) : splitF a b [] = ([], 14) := by
  have h1 : onlyF (changesF a b) [] = [] := List.filter_eq_nil_iff.2 fun x _ => by simp [hasS]
  have h2 : applyF a (firstF []) = (a, 0) := by rw [applyF, if_neg (by rw [ha]; decide), if_neg (by simp [firstF])]; rfl
  rw [splitF, h1, h2, if_neg (by rw [ha, hb]; simp), if_neg (by simp), if_pos (.inl rfl)]
theorem del_one {p : ByteArray} : ∀ {l : List ByteArray}, l.Nodup → p ∈ l → (l.filter (fun q => decide (q ≠ p))).length + 1 = l.length
  | q :: l, hn, hp => by
    obtain ⟨h1, h2⟩ := List.nodup_cons.1 hn
    rw [List.filter_cons]
    by_cases e : q = p
    · subst e
      have : l.filter (fun r => decide (r ≠ q)) = l := List.filter_eq_self.2 fun r hr => decide_eq_true fun e => h1 (e ▸ hr)
      rw [if_neg (by simp), this, List.length_cons]
    · rcases List.mem_cons.1 hp with e2 | hp
      · exact absurd e2.symm e
      · rw [if_pos (decide_eq_true e), List.length_cons, List.length_cons, del_one h2 hp]
theorem split_one {a b x : List FV} {p : ByteArray} (h : SplitOk a b x [p]) (hp : p ∈ diffs a b) : (changesF a x).length = 1 ∧ (changesF x b).length + 1 = (changesF a b).length := by
  have hat : ∀ q, findP x q = if q = p then findP b q else findP a q := fun q => by
    rw [h.at_ q]
    by_cases e : q = p
    · rw [if_pos e, if_pos (hasS_iff.2 (by simp [e]))]
    · rw [if_neg e, if_neg (fun h => e (by simpa using hasS_iff.1 h))]
  have hpd := diffs_mem.1 hp
  constructor
  · have : diffs a x = [p] := up_uniq (diffs_up a x) (List.pairwise_singleton _ _) fun q => by
      rw [diffs_mem, hat, List.mem_singleton]
      by_cases e : q = p
      · subst e; simp [hpd]
      · simp [e]
    rw [← diffs_len, this]; rfl
  · have : diffs x b = (diffs a b).filter (fun q => decide (q ≠ p)) := up_uniq (diffs_up x b) (List.Pairwise.sublist List.filter_sublist (diffs_up a b)) fun q => by
      rw [diffs_mem, hat, List.mem_filter, diffs_mem, decide_eq_true_eq]
      by_cases e : q = p
      · subst e; simp
      · simp [e]
    rw [← diffs_len, ← diffs_len, this, del_one (up_nodup (diffs_up a b)) hp]
end Go.Proofs.YtahlfafcjjkliaaGreatDoor
namespace Go.Proofs.YtahlfafcjjkliaaGreatDoor
open Go.ChangeShapes Go.WideShapes Go.ChangeAt Go.RowKit
theorem flat_one {α : Type} (f : α → Value) : ∀ l : List α, l.flatMap (fun a => [f a]) = l.map f
  | [] => rfl
  | x :: l => by rw [List.flatMap_cons, flat_one f l]; rfl
section
variable {H : Type} {enc : TypeId × Value → H} {W : World}
/-- A slice of strings. -/
def StrsCells (W : World) (cs : List Value) : Prop := ∃ (A : Option Addr) (c : Nat) (l : List ByteArray), cs = [.slice A l.length c] ∧ Rd W W.heap.size 1 A l.length c (l.map .string) ∧ (∀ s ∈ l, s.size ≤ 140737488351232) ∧ l.length ≤ 17592186044416
set_option maxRecDepth 100000 in
theorem opens_strs : Opens enc W 24 (StrsCells W) := by
  refine (opens_slice (f := fun s : ByteArray => [Value.string s]) (Q := fun s => s.size ≤ 140737488351232) Tryz.underlying24 (by kernel_rfl) (sz := 1) (bytes := 16) (by kernel_rfl) (fun _ => rfl) (by omega) ((opens_str Tryz.underlying9).mono ?_)).mono ?_
  · rintro cs ⟨s, h1, h2⟩; exact ⟨s, h1, h2⟩
  · rintro cs ⟨A, n, c, es, rfl, rfl, hr, hq, hb⟩
    rw [flat_one] at hr
    exact ⟨A, c, es, rfl, hr, hq, by omega⟩
/-- A stack of trees. -/
def StackCells (W : World) (cs : List Value) : Prop := ∃ (A : Option Addr) (c : Nat) (ts : List TV), cs = [.slice A ts.length c] ∧ RdS W W.heap.size A ts.length c ts ∧ ts.length ≤ 17592186044416
set_option maxRecDepth 100000 in
theorem opens_stack : Opens enc W 41 (StackCells W) := by
  refine (opens_slice (f := fun t : TV => [t.hdr]) (Q := fun t => t.In W W.heap.size) Tryz.underlying41 (by kernel_rfl) (sz := 1) (bytes := 24) (by kernel_rfl) (fun _ => rfl) (by omega) (opens_files.mono ?_)).mono ?_
  · rintro cs ⟨A, c, l, rfl, h1, h2⟩; exact ⟨⟨A, c, l⟩, rfl, h1, h2⟩
  · rintro cs ⟨A, n, c, es, rfl, rfl, hr, hq, hb⟩
    rw [flat_one] at hr
    exact ⟨A, c, es, rfl, ⟨hr, rfl, hq⟩, by omega⟩
end
end Go.Proofs.YtahlfafcjjkliaaGreatDoor
