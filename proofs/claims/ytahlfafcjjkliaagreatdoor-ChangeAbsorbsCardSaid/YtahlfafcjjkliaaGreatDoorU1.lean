/- Walks: where a file stands, and what is found. -/
import Derived.Test.YtahlfafcjjkliaaGreatDoorU0
import Derived.Test.YtahlfafcjjkliaaGreatDoorEF
import Derived.Laws.ResultCell
namespace Go.Proofs.YtahlfafcjjkliaaGreatDoor
open Go.RowKit

def PlaceF (q : FV → Bool) (l : List FV) (w : World) (e : Ending) (w' : World) : Prop :=
  ∃ k : Int, e = .returned (.int .i64 k) ∧ ((k = -1 ∧ ∀ f ∈ l, q f = false) ∨ ∃ (j : Nat) (f : FV), k = j ∧ FirstAt q l j f) ∧ Below w.heap.size w w'
def isP (p : ByteArray) (f : FV) : Bool := decide (f.path = p)
def aboveP (p : ByteArray) (f : FV) : Bool := decide (p.data.toList < f.p)
theorem gtr_str (a b : ByteArray) : (!Op.bytesLess a.toList b.toList && !(a.toList == b.toList)) = decide (b.data.toList < a.data.toList) := by
  rw [← Bool.not_or, str_eq, leq_str, Bool.not_not]
theorem below_setRow {B g : Nat} {w w1 : World} {cs : Array Value} (h : Below B w w1) (hg : B ≤ g) : Below B w (w1.setRow g cs) :=
  ⟨h.os, h.tape, h.output, by have := h.size; simpa [World.setRow] using this, fun k hk => by rw [setRow_other _ _ _ _ (fun e => by omega)]; exact h.block k hk⟩
theorem run_gtr_str (P : Program) (t : TypeId) (a b : ByteArray) (w : World) : (binOp .gtr t (.string a) (.string b)).run P w = .ok (.bool (decide (b.data.toList < a.data.toList))) w := by
  rw [← gtr_str]
  simp [binOp, Op.stringOp]

set_option maxRecDepth 100000 in
set_option maxHeartbeats 1000000 in
theorem at_one {f : FV} {g : Nat} {p : ByteArray} {w : World} (hg : w.cell? ⟨g, 0, none⟩ = some (.string p)) (hgl : g < w.heap.size) :
    Calls Tryz.prog 79 #[.agg #[.string f.path, .bool f.exec, .string f.text], .pointer (some ⟨g, 0, none⟩)] w (BoolBelow (isP p f) w) := by
  have hbd : Below w.heap.size w (w.alloc (.cells #[.string f.path, .bool f.exec, .string f.text] 35)) := (Below.refl _ _).alloc (Nat.le_refl _) _
  have h1 : (w.alloc (.cells #[.string f.path, .bool f.exec, .string f.text] 35)).cell? ⟨g, 0, none⟩ = some (.string p) := (hbd.cell (p := ⟨g, 0, none⟩) hgl).trans hg
  by_cases h : f.path = p
  · have HO := Lib.hid (show isP p f = true by simp [isP, h])
    have e1 : (f.path.toList == p.toList) = true := by rw [h]; exact beq_self_eq_true _
    clear h
    go_enter Tryz.func79, Tryz.ntmps79
    go_wp2
    go_ret
    exact ⟨ret_bool HO.out.symm, hbd⟩
  · have HO := Lib.hid (show isP p f = false by simp [isP, h])
    have e1 := ba_ne h
    clear h
    go_enter Tryz.func79, Tryz.ntmps79
    go_wp2
    go_ret
    exact ⟨ret_bool HO.out.symm, hbd⟩
set_option maxRecDepth 100000 in
set_option maxHeartbeats 1000000 in
theorem above_one {f : FV} {g : Nat} {p : ByteArray} {w : World} (hg : w.cell? ⟨g, 0, none⟩ = some (.string p)) (hgl : g < w.heap.size) :
    Calls Tryz.prog 60 #[.agg #[.string f.path, .bool f.exec, .string f.text], .pointer (some ⟨g, 0, none⟩)] w (BoolBelow (aboveP p f) w) := by
  have hbd : Below w.heap.size w (w.alloc (.cells #[.string f.path, .bool f.exec, .string f.text] 35)) := (Below.refl _ _).alloc (Nat.le_refl _) _
  have h1 : (w.alloc (.cells #[.string f.path, .bool f.exec, .string f.text] 35)).cell? ⟨g, 0, none⟩ = some (.string p) := (hbd.cell (p := ⟨g, 0, none⟩) hgl).trans hg
  have HO := Lib.hid (gtr_str f.path p)
  go_enter Tryz.func60, Tryz.ntmps60
  go_wp2
  go_ret
  exact ⟨ret_bool HO.out, hbd⟩

set_option maxRecDepth 100000 in
set_option maxHeartbeats 4000000 in
theorem at_any {A : Option Addr} {n c g : Nat} {l : List FV} {p : ByteArray} {w : World} (hn : n ≤ 17592186044416) (h : RdF w w.heap.size A n c l) (hg : w.cell? ⟨g, 0, none⟩ = some (.string p)) (hgl : g < w.heap.size) :
    Calls Tryz.prog 59 #[.slice A n c, .func (.func 79) #[] #[.pointer (some ⟨g, 0, none⟩)]] w (PlaceF (isP p) l w) := by
  have HL := Lib.hid h.len
  go_enter Tryz.func59, Tryz.ntmps59
  go_wp2
  go_loopw [5, 8] (fun _ i wr => ∃ k : Nat, k ≤ n ∧ i = .int .i64 k ∧ Below w.heap.size w wr ∧ Hid (∀ j g, j < k → l[j]? = some g → (isP p) g = false)) (fun _ i _ => n - (intOf i).toNat)
  case atStart => exact ⟨0, Nat.zero_le _, rfl, Below.refl _ _, fun j g hj => absurd hj (Nat.not_lt_zero _)⟩
  case round =>
    obtain ⟨k, hk, rfl, hb, hj⟩ := hrel
    by_cases hlt : k < n
    · obtain ⟨b0, o0, f, rfl, hbb, hx, hfm, h0, h1, h2⟩ := h.get hlt
      replace h0 := (hb.cell (p := ⟨b0, o0 + k * 3, none⟩) (by show b0 < _; omega)).trans h0
      replace h1 := (hb.cell (p := ⟨b0, o0 + k * 3 + 1, none⟩) (by show b0 < _; omega)).trans h1
      replace h2 := (hb.cell (p := ⟨b0, o0 + k * 3 + 2, none⟩) (by show b0 < _; omega)).trans h2
      have HX := Lib.hid hx
      have C := at_one (f := f) (w := wr) ((hb.cell (p := ⟨g, 0, none⟩) hgl).trans hg) (Nat.lt_of_lt_of_le hgl hb.size)
      clear hx
      cases hq : (isP p) f with
      | true =>
        rw [hq] at C
        have HQ := Lib.hid (show FirstAt (isP p) l k f from ⟨HX.out, hq, hj.out⟩)
        clear hq
        go_wp2_with fail
        refine C.mono ?_
        rintro e w1 ⟨rfl, hb1⟩
        have hbd := hb.trans (hb1.mono hb.size)
        clear C
        go_wp2
        go_ret
        exact ⟨k, rfl, .inr ⟨k, f, rfl, HQ.out⟩, hbd⟩
      | false =>
        rw [hq] at C
        have HQ := Lib.hid (show ∀ j g, j < k + 1 → l[j]? = some g → (isP p) g = false from fun j x hj' hx => by
          by_cases e : j = k
          · subst e; rw [HX.out] at hx; injection hx with hx; subst hx; exact hq
          · exact hj.out j x (by omega) hx)
        clear hq
        go_wp2_with fail
        refine C.mono ?_
        rintro e w1 ⟨rfl, hb1⟩
        have hbd := hb.trans (hb1.mono hb.size)
        clear C
        go_wp2
        go_roundw
        case rel => exact ⟨k + 1, by omega, by go_num, hbd, HQ.out⟩
        case measure => simp [intOf]; omega
    · have hkn : k = n := by omega
      subst hkn
      have HO := Lib.hid (show ∀ f ∈ l, (isP p) f = false from fun f hf => by
        obtain ⟨i, hi, rfl⟩ := List.getElem_of_mem hf
        exact hj.out i _ (by have := HL.out; omega) (List.getElem?_eq_getElem hi))
      go_wp2
      go_ret
      exact ⟨-1, rfl, .inl ⟨rfl, HO.out⟩, hb⟩

set_option maxRecDepth 100000 in
set_option maxHeartbeats 4000000 in
theorem above_any {A : Option Addr} {n c g : Nat} {l : List FV} {p : ByteArray} {w : World} (hn : n ≤ 17592186044416) (h : RdF w w.heap.size A n c l) (hg : w.cell? ⟨g, 0, none⟩ = some (.string p)) (hgl : g < w.heap.size) :
    Calls Tryz.prog 59 #[.slice A n c, .func (.func 60) #[] #[.pointer (some ⟨g, 0, none⟩)]] w (PlaceF (aboveP p) l w) := by
  have HL := Lib.hid h.len
  go_enter Tryz.func59, Tryz.ntmps59
  go_wp2
  go_loopw [5, 8] (fun _ i wr => ∃ k : Nat, k ≤ n ∧ i = .int .i64 k ∧ Below w.heap.size w wr ∧ Hid (∀ j g, j < k → l[j]? = some g → (aboveP p) g = false)) (fun _ i _ => n - (intOf i).toNat)
  case atStart => exact ⟨0, Nat.zero_le _, rfl, Below.refl _ _, fun j g hj => absurd hj (Nat.not_lt_zero _)⟩
  case round =>
    obtain ⟨k, hk, rfl, hb, hj⟩ := hrel
    by_cases hlt : k < n
    · obtain ⟨b0, o0, f, rfl, hbb, hx, hfm, h0, h1, h2⟩ := h.get hlt
      replace h0 := (hb.cell (p := ⟨b0, o0 + k * 3, none⟩) (by show b0 < _; omega)).trans h0
      replace h1 := (hb.cell (p := ⟨b0, o0 + k * 3 + 1, none⟩) (by show b0 < _; omega)).trans h1
      replace h2 := (hb.cell (p := ⟨b0, o0 + k * 3 + 2, none⟩) (by show b0 < _; omega)).trans h2
      have HX := Lib.hid hx
      have C := above_one (f := f) (w := wr) ((hb.cell (p := ⟨g, 0, none⟩) hgl).trans hg) (Nat.lt_of_lt_of_le hgl hb.size)
      clear hx
      cases hq : (aboveP p) f with
      | true =>
        rw [hq] at C
        have HQ := Lib.hid (show FirstAt (aboveP p) l k f from ⟨HX.out, hq, hj.out⟩)
        clear hq
        go_wp2_with fail
        refine C.mono ?_
        rintro e w1 ⟨rfl, hb1⟩
        have hbd := hb.trans (hb1.mono hb.size)
        clear C
        go_wp2
        go_ret
        exact ⟨k, rfl, .inr ⟨k, f, rfl, HQ.out⟩, hbd⟩
      | false =>
        rw [hq] at C
        have HQ := Lib.hid (show ∀ j g, j < k + 1 → l[j]? = some g → (aboveP p) g = false from fun j x hj' hx => by
          by_cases e : j = k
          · subst e; rw [HX.out] at hx; injection hx with hx; subst hx; exact hq
          · exact hj.out j x (by omega) hx)
        clear hq
        go_wp2_with fail
        refine C.mono ?_
        rintro e w1 ⟨rfl, hb1⟩
        have hbd := hb.trans (hb1.mono hb.size)
        clear C
        go_wp2
        go_roundw
        case rel => exact ⟨k + 1, by omega, by go_num, hbd, HQ.out⟩
        case measure => simp [intOf]; omega
    · have hkn : k = n := by omega
      subst hkn
      have HO := Lib.hid (show ∀ f ∈ l, (aboveP p) f = false from fun f hf => by
        obtain ⟨i, hi, rfl⟩ := List.getElem_of_mem hf
        exact hj.out i _ (by have := HL.out; omega) (List.getElem?_eq_getElem hi))
      go_wp2
      go_ret
      exact ⟨-1, rfl, .inl ⟨rfl, HO.out⟩, hb⟩

set_option maxRecDepth 100000 in
set_option maxHeartbeats 1000000 in
theorem treeAt_any {A : Option Addr} {n c : Nat} {l : List FV} {p : ByteArray} {w : World} (hn : n ≤ 17592186044416) (h : RdF w w.heap.size A n c l) :
    Calls Tryz.prog 57 #[.slice A n c, .string p] w (PlaceF (isP p) l w) := by
  have hb : Below w.heap.size w (w.alloc (.cells #[.string p] 9)) := (Below.refl _ _).alloc (Nat.le_refl _) _
  have hg : (w.alloc (.cells #[.string p] 9)).cell? ⟨w.heap.size, 0, none⟩ = some (.string p) := (cell_of_row _ _ _ _ _ _ (heap_alloc_new _ _)).trans rfl
  have C := at_any hn (h.to hb hb.size) hg (by simp)
  go_enter Tryz.func57, Tryz.ntmps57
  go_wp2_with fail
  refine C.mono ?_
  rintro e w1 ⟨k, rfl, h1, hb1⟩
  have H1 := Lib.hid h1
  clear h1 C
  go_wp2
  go_ret
  exact ⟨k, rfl, H1.out, hb.trans (hb1.mono hb.size)⟩

theorem results_cell_row_tmp {P : Program} {fn : Func} {p u : Tmp} {ty : TypeId} (h : fn.results = #[.cell p ty, .tmp u]) (tmps : Array Value) (w : World) (g : Nat) (t : TypeId) (cs : Array Value) (fr : Nat × Nat) (d : TypeDesc)
    (hp : tmps.getD p undef = .pointer (some ⟨g, 0, none⟩)) (hg : w.heap[g]? = some (.cells cs t fr))
    (hu : P.underlying ty = some d) (hd : (match d with | .struct _ | .array _ _ => true | _ => false) = true) (hi : (P.info? ty).map (·.size) = some cs.size) :
    (results fn tmps).run P w = .ok (.tuple #[.agg cs, tmps.getD u undef]) w := by
  rw [results_cell_tmp h, hp]
  simp [asAddr, run_loadVar_row w g t ty cs fr d hg hu hd hi]
def zF : FV := ⟨⟨#[]⟩, false, ⟨#[]⟩⟩
def optF (o : Option FV) : FV := o.getD zF
/-- A file, and whether it is there. -/
def FoundIs (o : Option FV) (w : World) (e : Ending) (w' : World) : Prop := e = .returned (.tuple #[.agg #[.string (optF o).path, .bool (optF o).exec, .string (optF o).text], .bool o.isSome]) ∧ Below w.heap.size w w'
set_option maxRecDepth 100000 in
theorem run_file0 (w : World) : (Instr.build 35 #[]).run Tryz.prog w = .ok (.agg #[.string ⟨#[]⟩, .bool false, .string ⟨#[]⟩]) w := by
  go_simp
set_option maxRecDepth 100000 in
set_option maxHeartbeats 4000000 in
theorem find_any {A : Option Addr} {n c : Nat} {l : List FV} {p : ByteArray} {w : World} (hn : n ≤ 17592186044416) (h : RdF w w.heap.size A n c l) :
    Calls Tryz.prog 45 #[.slice A n c, .string p] w (FoundIs (findP l p) w) := by
  have hb : ∀ o, Below w.heap.size w (w.alloc o) := fun o => (Below.refl _ _).alloc (Nat.le_refl _) _
  have C : ∀ o, Calls Tryz.prog 57 #[.slice A n c, .string p] (w.alloc o) (PlaceF (isP p) l (w.alloc o)) := fun o => treeAt_any hn (h.to (hb o) (hb o).size)
  go_enter Tryz.func45, Tryz.ntmps45
  go_wp2_with fail
  refine (C _).mono ?_
  rintro e w1 ⟨k, rfl, h1, hb1⟩
  have hbd := (hb _).trans (hb1.mono (hb _).size)
  have hbox : w1.heap[w.heap.size]? = some (.cells #[.string ⟨#[]⟩, .bool false, .string ⟨#[]⟩] 35 (0, 0)) := (hb1.block _ (by simp)).trans (heap_alloc_new _ _)
  have HR := Lib.hid (show ∀ cs, (w1.setRow w.heap.size cs).heap[w.heap.size]? = some (.cells cs 35 (0, 0)) from fun cs => setRow_heap _ _ _ _ _ _ hbox)
  have hz := run_file0 w1
  have hi24 : (Tryz.prog.info? 35).map (·.size) = some 3 := by kernel_rfl
  clear C hb1
  rcases h1 with ⟨rfl, hno⟩ | ⟨j, f, rfl, hf⟩
  · have HO := Lib.hid (findP_no (p := p) hno).1
    have c0 := cell_of_row _ _ 0 _ _ _ (HR.out #[.string ⟨#[]⟩, .bool false, .string ⟨#[]⟩])
    have c1 := cell_of_row _ _ 1 _ _ _ (HR.out #[.string ⟨#[]⟩, .bool false, .string ⟨#[]⟩])
    have c2 := cell_of_row _ _ 2 _ _ _ (HR.out #[.string ⟨#[]⟩, .bool false, .string ⟨#[]⟩])
    clear hno
    go_wp2_with (refine wpList_store_row rfl 35 (.tmp 4) (.tmp 12) rfl w.heap.size #[.string ⟨#[]⟩, .bool false, .string ⟨#[]⟩] rfl rfl _ _ hbox hi24 rfl (by simp [Value.oneCell']) ?_)
    try simp only [Exit.inBlock, Exit.then]
    refine bodyPost_ret (results_cell_row_tmp rfl _ _ w.heap.size _ _ (0, 0) _ rfl (HR.out _) Tryz.underlying35 rfl (by kernel_rfl)) rfl ?_
    refine ⟨?_, below_setRow hbd (Nat.le_refl _)⟩
    rw [HO.out]; rfl
  · have hj : j < n := by have := (List.getElem?_eq_some_iff.1 hf.1).1; rw [h.len] at this; exact this
    obtain ⟨b0, o0, f', rfl, hbb, hx, hfm, h0, h1, h2⟩ := h.get hj
    obtain rfl : f' = f := Option.some.inj (hx.symm.trans hf.1)
    replace h0 := (hbd.cell (p := ⟨b0, o0 + j * 3, none⟩) (by show b0 < _; omega)).trans h0
    replace h1 := (hbd.cell (p := ⟨b0, o0 + j * 3 + 1, none⟩) (by show b0 < _; omega)).trans h1
    replace h2 := (hbd.cell (p := ⟨b0, o0 + j * 3 + 2, none⟩) (by show b0 < _; omega)).trans h2
    have HO := Lib.hid (show findP l p = some f' from FirstAt.find hf)
    have c0 := cell_of_row _ _ 0 _ _ _ (HR.out #[.string f'.path, .bool f'.exec, .string f'.text])
    have c1 := cell_of_row _ _ 1 _ _ _ (HR.out #[.string f'.path, .bool f'.exec, .string f'.text])
    have c2 := cell_of_row _ _ 2 _ _ _ (HR.out #[.string f'.path, .bool f'.exec, .string f'.text])
    clear hx hf hz
    go_wp2_with (refine wpList_store_row rfl 35 (.tmp 4) (.tmp 16) rfl w.heap.size #[.string f'.path, .bool f'.exec, .string f'.text] rfl rfl _ _ hbox hi24 rfl (by simp [Value.oneCell']) ?_)
    try simp only [Exit.inBlock, Exit.then]
    refine bodyPost_ret (results_cell_row_tmp rfl _ _ w.heap.size _ _ (0, 0) _ rfl (HR.out _) Tryz.underlying35 rfl (by kernel_rfl)) rfl ?_
    refine ⟨?_, below_setRow hbd (Nat.le_refl _)⟩
    rw [HO.out]; rfl
end Go.Proofs.YtahlfafcjjkliaaGreatDoor
