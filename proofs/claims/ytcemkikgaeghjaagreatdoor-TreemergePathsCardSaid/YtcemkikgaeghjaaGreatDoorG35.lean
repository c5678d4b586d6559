/- Texts of the walks, together: Walks: the document's Split and Common. Walks: the document's Ratio and left. Plain: the bits and the numbers of the document's search for renames. Plain: the document's search for renames, second half. Plain: the document's merge of three trees: where, added, put, both, one, and the whole. -/
import Derived.Test.YtcemkikgaeghjaaGreatDoorG07
import Derived.Test.YtcemkikgaeghjaaGreatDoorG12
import Derived.Test.YtcemkikgaeghjaaGreatDoorG22
import Derived.Test.YtcemkikgaeghjaaGreatDoorG24
import Derived.Test.YtcemkikgaeghjaaGreatDoorG25
import Derived.Test.YtcemkikgaeghjaaGreatDoorG33
import Derived.Test.YtcemkikgaeghjaaGreatDoorG34
namespace Go.Proofs.YtcemkikgaeghjaaGreatDoor
open Go.RowKit

theorem ofB_ext (s : ByteArray) (f i : Nat) : ofB ((s.data.toList.drop f).take (i - f)) = s.extract f i := by
  apply ba_ext
  rw [ext_list]; simp [ofB]
structure CutL (s : ByteArray) (f i : Nat) (ps : List ByteArray) : Prop where
  lines : linesF s = ps ++ (splitL (s.data.toList.drop f)).map ofB
  none_ : 10 ∉ (s.data.toList.drop f).take (i - f)
theorem CutL.start (s : ByteArray) : CutL s 0 0 [] := ⟨rfl, by simp⟩
theorem CutL.skip {s : ByteArray} {f i : Nat} {ps : List ByteArray} (h : CutL s f i ps) (hf : f ≤ i) (_hi : i < s.size) (hb : s.data.toList[i]? ≠ some 10) : CutL s f (i + 1) ps := by
  refine ⟨h.lines, fun hm => ?_⟩
  rw [show i + 1 - f = (i - f) + 1 by omega, List.take_add_one, List.getElem?_drop, show f + (i - f) = i by omega] at hm
  rcases List.mem_append.1 hm with hm | hm
  · exact h.none_ hm
  · cases hx : s.data.toList[i]? with
    | none => rw [hx] at hm; cases hm
    | some x =>
      rw [hx] at hm hb
      simp only [Option.toList_some, List.mem_singleton] at hm
      exact hb (by rw [hm])
theorem CutL.line {s : ByteArray} {f i : Nat} {ps : List ByteArray} (h : CutL s f i ps) (hf : f ≤ i) (hi : i < s.size) (hb : s.data.toList[i]? = some 10) : CutL s (i + 1) (i + 1) (ps ++ [s.extract f (i + 1)]) := by
  refine ⟨?_, by simp⟩
  have hl : i < s.data.toList.length := by rw [Array.length_toList]; exact hi
  have e1 : s.data.toList.drop f = (s.data.toList.drop f).take (i - f) ++ 10 :: s.data.toList.drop (i + 1) := by
    have e2 : (s.data.toList.drop f).drop (i - f) = 10 :: s.data.toList.drop (i + 1) := by
      rw [List.drop_drop, show f + (i - f) = i by omega, List.drop_eq_getElem_cons hl]
      congr 1
      rw [List.getElem?_eq_getElem hl] at hb
      injection hb
    rw [← e2, List.take_append_drop]
  rw [h.lines, e1, splitL_cut h.none_, List.map_cons, List.append_assoc, List.singleton_append]
  congr 2
  rw [← ofB_ext, show i + 1 - f = (i - f) + 1 by omega, List.take_add_one, List.getElem?_drop, show f + (i - f) = i by omega, hb]
  rfl
theorem CutL.done {s : ByteArray} {f : Nat} {ps : List ByteArray} (h : CutL s f s.size ps) (hf : f ≤ s.size) : linesF s = ps ++ if f < s.size then [s.extract f s.size] else [] := by
  have e : (s.data.toList.drop f).take (s.size - f) = s.data.toList.drop f := List.take_of_length_le (by rw [List.length_drop, Array.length_toList]; exact Nat.le_refl _)
  have hn := h.none_
  rw [e] at hn
  rw [h.lines, splitL_none hn]
  congr 1
  by_cases hlt : f < s.size
  · rw [if_pos hlt, if_neg]
    · rw [← ofB_ext, e]; rfl
    · intro e2
      have := congrArg List.length e2
      rw [List.length_drop, Array.length_toList] at this
      have h3 : s.data.size = s.size := rfl
      simp at this; omega
  · rw [if_neg hlt, if_pos]
    · rfl
    · exact List.drop_eq_nil_of_le (by rw [Array.length_toList]; show s.size ≤ f; omega)
set_option maxRecDepth 100000 in
set_option maxHeartbeats 4000000 in
theorem rsplit_any {s : ByteArray} {w : World} (hs : s.size ≤ 1000000) : Calls Tryz.prog 69 #[.string s] w (LinesIs (linesF s) w) := by
  have hl : s.data.toList.length = s.size := by rw [Array.length_toList]; rfl
  go_enter Tryz.func69, Tryz.ntmps69
  go_wp2
  go_loopw [3, 4, 5] (fun lv fv iv wr => ∃ (f i : Nat) (ps : List ByteArray), i ≤ s.size ∧ f ≤ i ∧ fv = .int .i64 f ∧ iv = .int .i64 i ∧ Hid (CutL s f i ps) ∧ ps.length ≤ i ∧
      Below w.heap.size w wr ∧ wr.ownsRow w.heap.size 9 1 lv ps.length (ps.map .string)) (fun _ _ iv _ => s.size - (intOf iv).toNat)
  case atStart => exact ⟨0, 0, [], Nat.zero_le _, Nat.le_refl _, rfl, rfl, Lib.hid (CutL.start _), Nat.le_refl _, Below.refl _ _, World.ownsRow_nil _ _ _ _⟩
  case round =>
    obtain ⟨f, i, ps, hi, hfi, rfl, rfl, hc, hpl, hb, ho⟩ := hrel
    by_cases hlt : i < s.size
    · have hx : s.data.toList[i]? = some s[i] := by
        have := List.getElem?_eq_getElem (l := s.data.toList) (i := i) (by omega)
        rw [this]; rfl
      by_cases h10 : s[i] = 10
      · have h10i : ((s[i].toNat : Int) == 10) = true := by rw [h10]; rfl
        rw [h10] at hx
        have HC := Lib.hid (hc.out.line hfi hlt hx)
        have hb1 := hb.alloc hb.size (.cells #[.string (s.extract f (i + 1))] 9)
        have ho1 := ho.alloc (.cells #[.string (s.extract f (i + 1))] 9)
        clear hx h10
        go_wp2_with (at_builtin; refine wpl_append rfl (.tmp 16) (.tmp 22) 103 rfl E_strs rfl rfl ho1 (rd_litS wr (s.extract f (i + 1))) (oneCell_str _) (by unfold maxLen; omega) (by omega) hb1.size ?_; intro v7 w7 ho7 hg7 hv7)
        go_roundw
        case rel =>
          refine ⟨i + 1, i + 1, ps ++ [s.extract f (i + 1)], by omega, by omega, by go_num, by go_num, HC, by simp; omega, hb1.grown hg7 hb1.size (fun g hg => (ho1.lt g hg).1), ?_⟩
          rw [List.length_append, List.map_append]; exact ho7
        case measure => simp [intOf]; omega
      · have h10i : ((s[i].toNat : Int) == 10) = false := by
          refine beq_eq_false_iff_ne.2 fun e => h10 (UInt8.toNat.inj ?_)
          show s[i].toNat = 10
          omega
        have HC := Lib.hid (hc.out.skip hfi hlt (by rw [hx]; intro e; injection e with e; exact h10 e))
        clear hx h10
        go_wp2
        go_roundw
        case rel => exact ⟨f, i + 1, ps, by omega, by omega, rfl, by go_num, HC, by omega, hb, ho⟩
        case measure => simp [intOf]; omega
    · obtain rfl : i = s.size := by omega
      have HC := Lib.hid (hc.out.done hfi)
      by_cases hf : f < s.size
      · rw [if_pos hf] at HC
        have hb1 := hb.alloc hb.size (.cells #[.string (s.extract f s.size)] 9)
        have ho1 := ho.alloc (.cells #[.string (s.extract f s.size)] 9)
        go_wp2_with (at_builtin; refine wpl_append rfl (.tmp 30) (.tmp 34) 103 rfl E_strs rfl rfl ho1 (rd_litS wr (s.extract f s.size)) (oneCell_str _) (by unfold maxLen; omega) (by omega) hb1.size ?_; intro v7 w7 ho7 hg7 hv7)
        have hb7 := hb1.grown hg7 hb1.size (fun g hg => (ho1.lt g hg).1)
        obtain ⟨A7, c7, rfl, hc7⟩ := ownsRow_cap ho7
        go_ret
        refine ⟨A7, c7, by rw [HC.out, List.length_append]; rfl, ?_, hb7⟩
        have := Rd.of_own ho7 hc7
        rw [HC.out, List.map_append, List.length_append]
        exact this
      · rw [if_neg hf, List.append_nil] at HC
        obtain ⟨A7, c7, rfl, hc7⟩ := ownsRow_cap ho
        have HRD := Lib.hid (Rd.of_own ho hc7)
        have HB := Lib.hid hb
        clear ho hb
        go_wp2
        go_ret
        exact ⟨A7, c7, by rw [HC.out]; rfl, by rw [HC.out]; exact HRD.out, HB.out⟩
set_option maxRecDepth 100000 in
set_option maxHeartbeats 4000000 in
theorem rcommon_any {A B : Option Addr} {n ca m cb : Nat} {a b : List ByteArray} {w : World} (hn : n ≤ 1048576) (hm : m ≤ 1048576)
    (ha : Rd w w.heap.size 1 A n ca (a.map .string)) (hb : Rd w w.heap.size 1 B m cb (b.map .string)) :
    Calls Tryz.prog 75 #[.slice A n ca, .slice B m cb] w fun e w' => e = .returned (.int .i64 (lcs a b : Nat)) ∧ Below w.heap.size w w' := by
  have K := table_any hn hm ha hb
  have HA := Lib.hid (show a.length = n by have := ha.len; simpa using this)
  have HB := Lib.hid (show b.length = m by have := hb.len; simpa using this)
  clear ha hb
  go_enter Tryz.func75, Tryz.ntmps75
  go_wp2_with fail
  refine K.mono ?_
  rintro e w1 ⟨g0, rs, rfl, ht, hc, hb1⟩
  have hlen := ht.len
  obtain ⟨⟨g1, xs⟩, rest, rfl⟩ : ∃ r l, rs = r :: l := by
    cases rs with
    | nil => simp at hlen
    | cons r l => exact ⟨r, l, rfl⟩
  have hx := hc 0 _ rfl
  simp only [Nat.add_zero] at hx
  subst hx
  obtain ⟨t1, o1⟩ := ht.at_ (q := 0) rfl
  have v1 : w1.cell? ⟨g1, 0, none⟩ = some (.int .i64 (cel a b 0 0)) := own_cell o1 (rowP_get (Nat.zero_le _) (Nat.le_refl _))
  have HE : Hid (cel a b 0 0 = lcs a b) := Lib.hid (by unfold cel; rfl)
  have HBB := Lib.hid hb1
  obtain ⟨q1, _⟩ := ht.at_ (q := 0) rfl
  simp only [Nat.zero_add] at q1
  have HT := Lib.hid ht
  have HC := Lib.hid hc
  clear ht hc hb1 t1 o1 K hlen
  go_wp2
  go_ret
  exact ⟨by rw [HE.out]; rfl, HBB.out⟩
end Go.Proofs.YtcemkikgaeghjaaGreatDoor
namespace Go.Proofs.YtcemkikgaeghjaaGreatDoor
open Go.RowKit

set_option maxRecDepth 100000 in
set_option maxHeartbeats 4000000 in
theorem rratio_any {a b : ByteArray} {w : World} (ha : a.size ≤ 1000000) (hb : b.size ≤ 1000000) :
    Calls Tryz.prog 45 #[.string a, .string b] w fun e w' => e = .returned (.int .i64 (ratioF a b)) ∧ Below w.heap.size w w' := by
  have hla := linesF_len a
  have hlb := linesF_len b
  have HRF := Lib.hid (show ratioF a b = if 400 < (linesF a).length ∨ 400 < (linesF b).length then 0 else if (linesF a).length + (linesF b).length = 0 then 100 else ((200 * lcs (linesF a) (linesF b) / ((linesF a).length + (linesF b).length) : Nat) : Int) from rfl)
  generalize ratioF a b = R at *
  have K1 := rsplit_any (s := a) (w := w) ha
  go_enter Tryz.func45, Tryz.ntmps45
  go_wp2_with fail
  refine K1.mono ?_
  rintro e w1 ⟨A1, c1, rfl, hr1, hb1⟩
  have K2 := rsplit_any (s := b) (w := w1) hb
  go_wp2_with fail
  refine K2.mono ?_
  rintro e w2 ⟨A2, c2, rfl, hr2, hb2⟩
  have HB := Lib.hid (hb1.trans (hb2.mono hb1.size))
  have HR1 := Lib.hid (hr1.to hb2 hb2.size)
  have HR2 := Lib.hid hr2
  clear K1 K2 hr1 hr2 hb1 hb2
  have hcl := lcs_le (linesF a) (linesF b)
  generalize linesF a = x at *
  generalize linesF b = y at *
  by_cases h3 : x.length + y.length = 0
  · have HF := Lib.hid (HRF.out.trans ((if_neg (by omega)).trans (if_pos h3)))
    have hx0 : x.length = 0 := by omega
    have hy0 : y.length = 0 := by omega
    obtain rfl := List.length_eq_zero_iff.1 hx0
    obtain rfl := List.length_eq_zero_iff.1 hy0
    clear h3 hx0 hy0 hcl
    go_wp2
    go_ret
    exact ⟨by rw [HF.out]; rfl, HB.out⟩
  · have hnz0 : (((x.length : Int) + y.length) == 0) = false := by
      have : ¬ ((x.length : Int) + y.length = 0) := by omega
      simpa using this
    by_cases h1 : 400 < x.length
    · have HF := Lib.hid (HRF.out.trans (if_pos (.inl h1)))
      go_wp2
      go_ret
      exact ⟨by rw [HF.out]; rfl, HB.out⟩
    · by_cases h2 : 400 < y.length
      · have HF := Lib.hid (HRF.out.trans (if_pos (.inr h2)))
        go_wp2
        go_ret
        exact ⟨by rw [HF.out]; rfl, HB.out⟩
      · have HF := Lib.hid (HRF.out.trans ((if_neg (by omega)).trans (if_neg h3)))
        have K3 := rcommon_any (by omega) (by omega) HR1.out HR2.out
        generalize lcs x y = v at *
        generalize hxl : x.length = nx at *
        generalize hyl : y.length = ny at *
        clear hxl hyl HR1 HR2 hnz0
        have hnz : ¬ ((nx : Int) + ny = 0) := by omega
        have hnz2 : ((nx : Int) + ny == 0) = false := by simpa using hnz
        go_wp2_with fail
        refine K3.mono ?_
        rintro e w3 ⟨rfl, hb3⟩
        have HB3 := Lib.hid (HB.out.trans (hb3.mono HB.out.size))
        clear K3 hb3
        go_wp2
        go_ret
        exact ⟨by rw [HF.out]; push_cast; rfl, HB3.out⟩

def leftB (l other : List FV) : List Bool := (List.range l.length).map (isLone l other)
def boolsV (l : List Bool) : List Value := l.map Value.bool
theorem leftB_len (l other : List FV) : (leftB l other).length = l.length := by simp [leftB]
theorem one_bools (l : List Bool) : ∀ u ∈ boolsV l, u.oneCell' = true := by
  intro u hu
  obtain ⟨s, _, rfl⟩ := List.mem_map.1 hu
  rfl
theorem E_bools : Elem Tryz.prog 77 4 1 1 := elem_of (by kernel_rfl)
theorem rd_litB (w : World) (b : Bool) (g : Nat) (hg : g = w.heap.size) : Rd (w.alloc (.cells #[.bool b] 4)) (w.alloc (.cells #[.bool b] 4)).heap.size 1 (some ⟨g, 0, none⟩) 1 1 (boolsV [b]) := by
  subst hg
  exact ⟨rfl, Nat.le_refl _, fun _ => ⟨_, 0, rfl, by simp, fun j u hu => by
    rw [Nat.zero_add, World.cell?, heap_alloc_new]
    simpa [boolsV] using hu⟩⟩
theorem map_step (p : Nat → Bool) (k : Nat) : (List.range (k + 1)).map p = (List.range k).map p ++ [p k] := by
  rw [List.range_succ, List.map_append]; rfl
def BitsIs (L : List Bool) (w : World) (e : Ending) (w' : World) : Prop := ∃ v, e = .returned v ∧ w'.ownsRow w.heap.size 4 1 v L.length (boolsV L) ∧ Below w.heap.size w w'
set_option maxRecDepth 100000 in
set_option maxHeartbeats 4000000 in
theorem rleft_any {A B : Option Addr} {n ca m cb : Nat} {l other : List FV} {w : World} (hn : n ≤ 100000) (hm : m ≤ 100000) (ha : RdF w w.heap.size A n ca l) (hb : RdF w w.heap.size B m cb other) :
    Calls Tryz.prog 44 #[.slice A n ca, .slice B m cb] w (BitsIs (leftB l other) w) := by
  have HL := Lib.hid ha.len
  unfold leftB
  go_enter Tryz.func44, Tryz.ntmps44
  go_wp2
  go_loopw [5, 6] (fun out i wr => ∃ k : Nat, k ≤ n ∧ i = .int .i64 k ∧ Hid (Below w.heap.size w wr) ∧ Hid (wr.ownsRow w.heap.size 4 1 out k (boolsV ((List.range k).map (isLone l other))))) (fun _ i _ => n - (intOf i).toNat)
  case atStart => exact ⟨0, Nat.zero_le _, rfl, Lib.hid (Below.refl _ _), Lib.hid (World.ownsRow_nil _ _ _ _)⟩
  case round =>
    obtain ⟨k, hk, rfl, HB, HO⟩ := hrel
    by_cases hlt : k < n
    · obtain ⟨b0, o0, f, rfl, hbb, hx, hmem, h0, h1, h2⟩ := ha.get hlt
      replace h0 := (HB.out.cell (p := ⟨b0, o0 + k * 3, none⟩) (by show b0 < _; omega)).trans h0
      replace h2 := (HB.out.cell (p := ⟨b0, o0 + k * 3 + 2, none⟩) (by show b0 < _; omega)).trans h2
      have HST := Lib.hid (map_step (isLone l other) k)
      have HIS := Lib.hid (show isLone l other k = ((findP other f.path).isNone && !decide (f.text = ⟨#[]⟩)) by unfold isLone; rw [hx])
      clear hx hmem h1
      obtain ⟨fp, fx, ft⟩ := f
      dsimp only at h0 h2
      have KF := rfind_any (p := fp) (by omega) (hb.to HB.out HB.out.size)
      have hsz := HB.out.size
      have h2b : b0 < wr.heap.size := by omega
      generalize hP : (List.range k).map (isLone l other) = P at *
      clear hP
      go_wp2_with fail
      refine KF.mono ?_
      rintro e w1 ⟨rfl, hb1⟩
      have HB1 := Lib.hid (HB.out.trans (hb1.mono hsz))
      have HO1 := Lib.hid (ownsRow_below' HO.out hb1)
      replace h2 := (hb1.cell (p := ⟨b0, o0 + k * 3 + 2, none⟩) h2b).trans h2
      have h2c : b0 < w1.heap.size := by have := hb1.size; omega
      clear KF hb1 HB HO h0 hsz h2b
      generalize optF (findP other fp) = g at *
      obtain ⟨gp, gx, gt⟩ := g
      dsimp only
      have hb2 : Below w1.heap.size w1 (w1.alloc (.cells #[.string gp, .bool gx, .string gt] 28)) := (Below.refl _ _).alloc (Nat.le_refl _) _
      have h2' := (hb2.cell (p := ⟨b0, o0 + k * 3 + 2, none⟩) h2c).trans h2
      have HB2 := Lib.hid (HB1.out.trans (hb2.mono HB1.out.size))
      have HO2 := Lib.hid (HO1.out.alloc (.cells #[.string gp, .bool gx, .string gt] 28))
      clear hb2 HB1 HO1 h2
      cases hF : findP other fp with
      | some y =>
          have HP2 : Hid ((List.range (k + 1)).map (isLone l other) = P ++ [false]) := by unfold Hid; rw [HST.out, HIS.out, hF]; simp
          clear hF HST HIS
          simp only [Option.isSome_some]
          have HB3 := Lib.hid (HB2.out.alloc HB2.out.size (.cells #[.bool false] 4))
          have HO3 := Lib.hid (HO2.out.alloc (.cells #[.bool false] 4))
          have HLI := Lib.hid (rd_litB (w1.alloc (.cells #[.string gp, .bool gx, .string gt] 28)) false (w1.heap.size + 1) (by simp))
          go_wp2_with (at_builtin; refine wpl_append rfl (.tmp 25) (.tmp 36) 77 rfl E_bools rfl rfl HO3.out HLI.out (one_bools _) (by unfold maxLen; omega) (by omega) HB3.out.size ?_; intro v7 w7 ho7 hg7 hv7)
          have HB7 := Lib.hid (HB3.out.grown hg7 HB3.out.size (fun g hg => (HO3.out.lt g hg).1))
          have HO7 := Lib.hid ho7
          clear ho7 hg7 hv7 HO3 HB3 HLI HO2 HB2
          go_roundw
          case rel => exact ⟨k + 1, by omega, by go_num, HB7, by rw [HP2.out]; unfold boolsV; rw [List.map_append]; exact HO7⟩
          case measure => simp [intOf]; omega
      | none =>
        simp only [Option.isSome_none]
        by_cases ht : ft = ⟨#[]⟩
        · have HP2 : Hid ((List.range (k + 1)).map (isLone l other) = P ++ [false]) := by unfold Hid; rw [HST.out, HIS.out, hF]; simp [ht]
          subst ht
          clear hF HST HIS
          have HB3 := Lib.hid (HB2.out.alloc HB2.out.size (.cells #[.bool false] 4))
          have HO3 := Lib.hid (HO2.out.alloc (.cells #[.bool false] 4))
          have HLI := Lib.hid (rd_litB (w1.alloc (.cells #[.string gp, .bool gx, .string gt] 28)) false (w1.heap.size + 1) (by simp))
          go_wp2_with (at_builtin; refine wpl_append rfl (.tmp 25) (.tmp 36) 77 rfl E_bools rfl rfl HO3.out HLI.out (one_bools _) (by unfold maxLen; omega) (by omega) HB3.out.size ?_; intro v7 w7 ho7 hg7 hv7)
          have HB7 := Lib.hid (HB3.out.grown hg7 HB3.out.size (fun g hg => (HO3.out.lt g hg).1))
          have HO7 := Lib.hid ho7
          clear ho7 hg7 hv7 HO3 HB3 HLI HO2 HB2
          go_roundw
          case rel => exact ⟨k + 1, by omega, by go_num, HB7, by rw [HP2.out]; unfold boolsV; rw [List.map_append]; exact HO7⟩
          case measure => simp [intOf]; omega
        · have HP2 : Hid ((List.range (k + 1)).map (isLone l other) = P ++ [true]) := by unfold Hid; rw [HST.out, HIS.out, hF]; simp [ht]
          have e0 := ba_ne ht
          have e1 : ft.toList.isEmpty = false := by
            cases h : ft.toList with
            | nil => rw [h] at e0; simp at e0
            | cons => rfl
          clear hF HST HIS ht e0
          have HB3 := Lib.hid (HB2.out.alloc HB2.out.size (.cells #[.bool true] 4))
          have HO3 := Lib.hid (HO2.out.alloc (.cells #[.bool true] 4))
          have HLI := Lib.hid (rd_litB (w1.alloc (.cells #[.string gp, .bool gx, .string gt] 28)) true (w1.heap.size + 1) (by simp))
          go_wp2_with (at_builtin; refine wpl_append rfl (.tmp 25) (.tmp 36) 77 rfl E_bools rfl rfl HO3.out HLI.out (one_bools _) (by unfold maxLen; omega) (by omega) HB3.out.size ?_; intro v7 w7 ho7 hg7 hv7)
          have HB7 := Lib.hid (HB3.out.grown hg7 HB3.out.size (fun g hg => (HO3.out.lt g hg).1))
          have HO7 := Lib.hid ho7
          clear ho7 hg7 hv7 HO3 HB3 HLI HO2 HB2
          go_roundw
          case rel => exact ⟨k + 1, by omega, by go_num, HB7, by rw [HP2.out]; unfold boolsV; rw [List.map_append]; exact HO7⟩
          case measure => simp [intOf]; omega
    · obtain rfl : k = n := by omega
      go_wp2
      go_ret
      refine ⟨_, rfl, ?_, HB.out⟩
      rw [HL.out, List.length_map, List.length_range]; exact HO.out
end Go.Proofs.YtcemkikgaeghjaaGreatDoor
namespace Go.Proofs.YtcemkikgaeghjaaGreatDoor
open Go.RowKit

def bitsL (n : Nat) (l : List Nat) : List Bool := (List.range n).map fun x => decide (x ∈ l)
theorem bitsL_get {n : Nat} {l : List Nat} {x : Nat} (h : x < n) : (boolsV (bitsL n l))[x]? = some (.bool (decide (x ∈ l))) := by
  simp [boolsV, bitsL, h]
theorem bitsL_set (n : Nat) (l : List Nat) (i : Nat) : (boolsV (bitsL n l)).set i (.bool false) = boolsV (bitsL n (l.filter fun k => decide (k ≠ i))) := by
  refine List.ext_getElem (by simp [boolsV, bitsL]) fun j h1 h2 => ?_
  rw [List.getElem_set]
  simp only [boolsV, bitsL, List.getElem_map, List.getElem_range]
  split
  · rename_i h; subst h; simp
  · rename_i h
    simp [List.mem_filter, Ne.symm h]
theorem leftB_bits (l other : List FV) : leftB l other = bitsL l.length (loneF l other) := by
  unfold leftB bitsL
  refine List.map_congr_left fun x hx => ?_
  rw [loneF_eq]
  cases h : isLone l other x <;> simp [List.mem_filter, h, List.mem_range.1 hx]
def lookI (ps : List (Nat × Nat)) (x : Nat) : Int := match ps.find? (fun p => decide (p.1 = x)) with
  | some p => (p.2 : Int)
  | none => -1
theorem lookI_none {ps : List (Nat × Nat)} {x : Nat} (h : ∀ p ∈ ps, p.1 ≠ x) : lookI ps x = -1 := by
  unfold lookI
  rw [List.find?_eq_none.2 fun p hp => by simpa using h p hp]
theorem lookI_snoc {ps : List (Nat × Nat)} {i j : Nat} (h : ∀ p ∈ ps, p.1 ≠ i) (x : Nat) : lookI (ps ++ [(i, j)]) x = if x = i then (j : Int) else lookI ps x := by
  unfold lookI
  rw [List.find?_append]
  by_cases hx : x = i
  · subst hx
    rw [List.find?_eq_none.2 fun p hp => by simpa using h p hp]
    simp
  · rw [if_neg hx]
    have : ([(i, j)] : List (Nat × Nat)).find? (fun p => decide (p.1 = x)) = none := by simp [Ne.symm hx]
    rw [this, Option.or_none]
def toL (n : Nat) (ps : List (Nat × Nat)) (k : Nat) : List Int := (List.range n).map fun x => if x < k then lookI ps x else 0
def intsV (l : List Int) : List Value := l.map (Value.int .i64)
theorem toL_get {n : Nat} {ps : List (Nat × Nat)} {k x : Nat} (h : x < n) (hk : x < k) : (intsV (toL n ps k))[x]? = some (.int .i64 (lookI ps x)) := by
  simp [intsV, toL, h, hk]
theorem toL_none {n : Nat} {ps : List (Nat × Nat)} {k : Nat} (h : ∀ p ∈ ps, p.1 ≠ k) : (intsV (toL n ps k)).set k (.int .i64 (-1)) = intsV (toL n ps (k + 1)) := by
  refine List.ext_getElem (by simp [intsV, toL]) fun j h1 h2 => ?_
  rw [List.getElem_set]
  simp only [intsV, toL, List.getElem_map, List.getElem_range]
  split
  · rename_i hj; subst hj; rw [if_pos (by omega), lookI_none h]
  · rename_i hj
    by_cases hlt : j < k
    · rw [if_pos hlt, if_pos (by omega)]
    · rw [if_neg hlt, if_neg (by omega)]
theorem toL_pair {n : Nat} {ps : List (Nat × Nat)} {k i j : Nat} (h : ∀ p ∈ ps, p.1 ≠ i) (hi : i < k) : (intsV (toL n ps k)).set i (.int .i64 j) = intsV (toL n (ps ++ [(i, j)]) k) := by
  refine List.ext_getElem (by simp [intsV, toL]) fun x h1 h2 => ?_
  rw [List.getElem_set]
  simp only [intsV, toL, List.getElem_map, List.getElem_range, lookI_snoc h]
  split
  · rename_i hx; subst hx; rw [if_pos hi, if_pos rfl]
  · rename_i hx; rw [if_neg (Ne.symm hx)]
def restL (base side : List FV) (i : Nat) : List Nat := (List.range' i (base.length - i)).filter (isLone base side)
theorem restL_zero (base side : List FV) : restL base side 0 = loneF base side := by
  rw [loneF_eq]; unfold restL; rw [Nat.sub_zero, List.range_eq_range']
theorem restL_end (base side : List FV) : restL base side base.length = [] := by unfold restL; simp
theorem restL_step {base side : List FV} {i : Nat} (h : i < base.length) : restL base side i = (if isLone base side i then [i] else []) ++ restL base side (i + 1) := by
  unfold restL
  rw [show base.length - i = (base.length - (i + 1)) + 1 by omega, List.range'_succ, List.filter_cons]
  split <;> simp
theorem restL_ge {base side : List FV} {i x : Nat} (h : x ∈ restL base side i) : i ≤ x ∧ x < base.length := by
  obtain ⟨h1, _⟩ := List.mem_filter.1 h
  have := List.mem_range'.1 h1
  obtain ⟨k, h2, h3⟩ := this
  omega
structure P1 (base side : List FV) (i : Nat) (is js : List Nat) (ps : List (Nat × Nat)) : Prop where
  at_ : ∃ kept, is = kept ++ restL base side i ∧ (∀ x ∈ kept, x < i) ∧ sameF base side (loneF base side) (loneF side base) = (let r := sameF base side (restL base side i) js; (ps ++ r.1, kept ++ r.2.1, r.2.2))
  keys : ∀ p ∈ ps, p.1 < i ∧ p.1 ∉ is
  asc : js.Pairwise (· < ·)
  lt1 : ∀ x ∈ is, x < base.length
  lt2 : ∀ y ∈ js, y < side.length
  asc1 : is.Pairwise (· < ·)
theorem lone_asc (l other : List FV) : (loneF l other).Pairwise (· < ·) := by
  rw [loneF_eq]; exact List.Pairwise.filter _ List.pairwise_lt_range
theorem lone_in {l other : List FV} {x : Nat} (h : x ∈ loneF l other) : x < l.length := by
  rw [loneF_eq] at h; exact List.mem_range.1 (List.mem_filter.1 h).1
theorem P1.start (base side : List FV) : P1 base side 0 (loneF base side) (loneF side base) [] :=
  ⟨⟨[], by rw [restL_zero]; rfl, by simp, by rw [restL_zero]; simp⟩, by simp, lone_asc _ _, fun _ h => lone_in h, fun _ h => lone_in h, lone_asc _ _⟩
section
variable {base side : List FV} {i j : Nat} {is js : List Nat} {ps : List (Nat × Nat)}
theorem P1.key (h : P1 base side i is js ps) : ∀ p ∈ ps, p.1 ≠ i := fun p hp => by have := (h.keys p hp).1; omega
theorem P1.pass (h : P1 base side i is js ps) (hi : i < base.length) (hm : i ∉ is) : P1 base side (i + 1) is js ps := by
  obtain ⟨⟨kept, rfl, h2, h3⟩, h4, h5, h6, h7, h8⟩ := h
  have hn : isLone base side i = false := by
    cases e : isLone base side i with
    | false => rfl
    | true => rw [restL_step hi, e] at hm; simp at hm
  have hr : restL base side i = restL base side (i + 1) := by rw [restL_step hi, hn]; simp
  rw [hr] at h3 h4 h6 h8 ⊢
  exact ⟨⟨kept, rfl, fun x hx => by have := h2 x hx; omega, h3⟩, fun p hp => ⟨by have := (h4 p hp).1; omega, (h4 p hp).2⟩, h5, h6, h7, h8⟩
theorem P1.lone (h : P1 base side i is js ps) (hi : i < base.length) (hm : i ∈ is) : restL base side i = i :: restL base side (i + 1) := by
  obtain ⟨⟨kept, rfl, h2, h3⟩, h4, h5, h6, h7, h8⟩ := h
  rcases List.mem_append.1 hm with hm | hm
  · have := h2 i hm; omega
  · rw [restL_step hi]
    rw [(List.mem_filter.1 hm).2]; rfl
theorem P1.skip (h : P1 base side i is js ps) (hi : i < base.length) (hm : i ∈ is) (hf : ∀ j ∈ js, textAt side j ≠ textAt base i) : P1 base side (i + 1) is js ps := by
  have hr := h.lone hi hm
  obtain ⟨⟨kept, rfl, h2, h3⟩, h4, h5, h6, h7, h8⟩ := h
  have hff : js.find? (fun j => decide (textAt side j = textAt base i)) = none := List.find?_eq_none.2 fun j hj => by simpa using hf j hj
  rw [hr, sameF, hff] at h3
  rw [hr] at h4 h6 h8 ⊢
  refine ⟨⟨kept ++ [i], by simp, ?_, by rw [h3]; simp⟩, fun p hp => ⟨by have := (h4 p hp).1; omega, (h4 p hp).2⟩, h5, h6, h7, h8⟩
  intro x hx
  rcases List.mem_append.1 hx with hx | hx
  · have := h2 x hx; omega
  · simp at hx; omega
theorem P1.take (h : P1 base side i is js ps) (hi : i < base.length) (hm : i ∈ is) (hj : j ∈ js) (ht : textAt side j = textAt base i) (hf : ∀ k ∈ js, k < j → textAt side k ≠ textAt base i) :
    P1 base side (i + 1) (is.filter fun k => decide (k ≠ i)) (js.filter fun k => decide (k ≠ j)) (ps ++ [(i, j)]) := by
  have hr := h.lone hi hm
  obtain ⟨⟨kept, rfl, h2, h3⟩, h4, h5, h6, h7, h8⟩ := h
  have hff : js.find? (fun j => decide (textAt side j = textAt base i)) = some j := by
    obtain ⟨q, hq, rfl⟩ := List.getElem_of_mem hj
    refine find_first (j := q) (List.getElem?_eq_getElem hq) (by simpa using ht) fun a y ha hy => ?_
    obtain ⟨hya, rfl⟩ := List.getElem?_eq_some_iff.1 hy
    have := (List.pairwise_iff_getElem.1 h5) a q hya hq ha
    simpa using hf _ (List.getElem_mem hya) this
  rw [hr, sameF, hff] at h3
  rw [hr] at h4 h6 h8 ⊢
  have hk : i ∉ kept := fun hm' => by have := h2 i hm'; omega
  have hk2 : i ∉ restL base side (i + 1) := fun hm' => by have := (restL_ge hm').1; omega
  have hF : (kept ++ i :: restL base side (i + 1)).filter (fun k => decide (k ≠ i)) = kept ++ restL base side (i + 1) := by
    rw [List.filter_append, List.filter_cons, List.filter_eq_self.2 (fun x hx => by simp; rintro rfl; exact hk hx), List.filter_eq_self.2 (fun x hx => by simp; rintro rfl; exact hk2 hx)]
    simp
  rw [hF]
  refine ⟨⟨kept, rfl, fun x hx => by have := h2 x hx; omega, by rw [h3]; simp⟩, ?_, h5.filter _, ?_, fun y hy => h7 y (List.mem_filter.1 hy).1, h8.sublist (List.Sublist.append_left (List.sublist_cons_self i _) kept)⟩
  · intro p hp
    rcases List.mem_append.1 hp with hp | hp
    · refine ⟨by have := (h4 p hp).1; omega, fun hm' => (h4 p hp).2 ?_⟩
      rcases List.mem_append.1 hm' with h' | h'
      · exact List.mem_append_left _ h'
      · exact List.mem_append_right _ (List.mem_cons_of_mem _ h')
    · simp at hp; subst hp
      refine ⟨by simp, fun hm' => ?_⟩
      rcases List.mem_append.1 hm' with h' | h'
      · exact hk h'
      · exact hk2 h'
  · intro x hx
    refine h6 x ?_
    rcases List.mem_append.1 hx with h' | h'
    · exact List.mem_append_left _ h'
    · exact List.mem_append_right _ (List.mem_cons_of_mem _ h')
theorem P1.done (h : P1 base side base.length is js ps) : sameF base side (loneF base side) (loneF side base) = (ps, is, js) := by
  obtain ⟨⟨kept, rfl, h2, h3⟩, h4, h5, h6, h7, h8⟩ := h
  rw [h3, restL_end]; simp [sameF]
end
end Go.Proofs.YtcemkikgaeghjaaGreatDoor
namespace Go.Proofs.YtcemkikgaeghjaaGreatDoor
open Go.RowKit

structure P2 (base side : List FV) (is js : List Nat) (ps : List (Nat × Nat)) : Prop where
  at_ : ∃ n, is.length ≤ n ∧ pairsF base side = ps ++ alikeF base side n is js
  keys : ∀ p ∈ ps, p.1 ∉ is
  asc1 : is.Pairwise (· < ·)
  asc2 : js.Pairwise (· < ·)
  lt1 : ∀ x ∈ is, x < base.length
  lt2 : ∀ y ∈ js, y < side.length
section
variable {base side : List FV} {is js : List Nat} {ps : List (Nat × Nat)}
theorem P1.next (h : P1 base side base.length is js ps) : P2 base side is js ps := by
  have hd := h.done
  obtain ⟨_, h4, h5, h6, h7, h8⟩ := h
  exact ⟨⟨is.length, Nat.le_refl _, by unfold pairsF; rw [hd]⟩, fun p hp => (h4 p hp).2, h8, h5, h6, h7⟩
theorem P2.more {x y : Nat} (h : P2 base side is js ps) (hb : bestF base side is js = some (x, y)) :
    P2 base side (is.filter fun k => decide (k ≠ x)) (js.filter fun k => decide (k ≠ y)) (ps ++ [(x, y)]) ∧ x ∈ is ∧ y ∈ js ∧ (is.filter fun k => decide (k ≠ x)).length < is.length := by
  obtain ⟨⟨n, hn, hp⟩, hk, a1, a2, l1, l2⟩ := h
  obtain ⟨n2, e1, e2, e3⟩ := alike_step hn hb
  obtain ⟨m1, m2⟩ := best_mem hb
  refine ⟨⟨⟨n2, e2, by rw [hp, e1]; simp⟩, ?_, a1.filter _, a2.filter _, fun z hz => l1 z (List.mem_filter.1 hz).1, fun z hz => l2 z (List.mem_filter.1 hz).1⟩, m1, m2, e3⟩
  intro p hp2 hm
  rcases List.mem_append.1 hp2 with h' | h'
  · exact hk p h' (List.mem_filter.1 hm).1
  · simp at h'; subst h'
    simpa using (List.mem_filter.1 hm).2
theorem P2.done (h : P2 base side is js ps) (hb : bestF base side is js = none) : pairsF base side = ps := by
  obtain ⟨⟨n, hn, hp⟩, _⟩ := h
  rw [hp, alike_stop hb, List.append_nil]
end
theorem asc_filter {k : Nat} : ∀ {l : List Nat}, l.Pairwise (· < ·) → k ∈ l → (l.filter fun y => decide (y < k + 1)) = (l.filter fun y => decide (y < k)) ++ [k]
  | [], _, h => by cases h
  | a :: l, hp, h => by
    obtain ⟨h1, h2⟩ := List.pairwise_cons.1 hp
    by_cases e : a = k
    · subst e
      have e1 : (l.filter fun y => decide (y < a + 1)) = [] := List.filter_eq_nil_iff.2 fun y hy => by have := h1 y hy; simp; omega
      have e2 : (l.filter fun y => decide (y < a)) = [] := List.filter_eq_nil_iff.2 fun y hy => by have := h1 y hy; simp; omega
      simp [e1, e2]
    · have hm : k ∈ l := by
        rcases List.mem_cons.1 h with h' | h'
        · exact absurd h'.symm e
        · exact h'
      have hlt : a < k := h1 k hm
      rw [List.filter_cons, List.filter_cons, asc_filter h2 hm, if_pos (by simp; omega), if_pos (by simpa using hlt)]
      rfl
theorem far_filter {k : Nat} {l : List Nat} (h : k ∉ l) : (l.filter fun y => decide (y < k + 1)) = l.filter fun y => decide (y < k) := by
  refine List.filter_congr fun y hy => ?_
  have : y ≠ k := fun e => h (e ▸ hy)
  simp only [decide_eq_decide]; omega
theorem all_filter {m : Nat} {l : List Nat} (h : ∀ y ∈ l, y < m) : (l.filter fun y => decide (y < m)) = l := List.filter_eq_self.2 fun y hy => by simpa using h y hy
def seenL (is js : List Nat) (i k : Nat) : List (Nat × Nat) :=
  ((is.filter fun x => decide (x < i)).flatMap fun x => js.map fun y => (x, y)) ++ if i ∈ is then (js.filter fun y => decide (y < k)).map fun y => (i, y) else []
theorem seen_zero (is js : List Nat) (i : Nat) : seenL is js i 0 = (is.filter fun x => decide (x < i)).flatMap fun x => js.map fun y => (x, y) := by
  unfold seenL; simp
theorem seen_start (is js : List Nat) : seenL is js 0 0 = [] := by rw [seen_zero]; simp
theorem seen_skip {is js : List Nat} {i k : Nat} (h : i ∉ is ∨ k ∉ js) : seenL is js i (k + 1) = seenL is js i k := by
  unfold seenL
  rcases h with h | h
  · rw [if_neg h, if_neg h]
  · rw [far_filter h]
theorem seen_step {is js : List Nat} {i k : Nat} (hj : js.Pairwise (· < ·)) (h1 : i ∈ is) (h2 : k ∈ js) : seenL is js i (k + 1) = seenL is js i k ++ [(i, k)] := by
  unfold seenL
  rw [if_pos h1, if_pos h1, asc_filter hj h2, List.map_append, List.append_assoc]; rfl
theorem seen_row {is js : List Nat} {i m : Nat} (hi : is.Pairwise (· < ·)) (hj : ∀ y ∈ js, y < m) : seenL is js i m = seenL is js (i + 1) 0 := by
  rw [seen_zero]
  unfold seenL
  rw [all_filter hj]
  by_cases h : i ∈ is
  · rw [if_pos h, asc_filter hi h, List.flatMap_append]; simp
  · rw [if_neg h, far_filter h, List.append_nil]
theorem seen_all {is js : List Nat} {n : Nat} (hi : ∀ x ∈ is, x < n) : seenL is js n 0 = rowB is js is.length := by
  rw [seen_zero, all_filter hi]; unfold rowB; rw [List.take_of_length_le (Nat.le_refl _)]
def BestV (st : Option (Nat × Nat) × Int) (xv yv mo : Int) : Prop := st.2 = mo ∧ ((st.1 = none ∧ mo = 49 ∧ xv = -1 ∧ yv = -1) ∨ ∃ x y : Nat, st.1 = some (x, y) ∧ xv = x ∧ yv = y ∧ 50 ≤ mo)
theorem BestV.start (base side : List FV) : BestV (foldB base side []) (-1) (-1) 49 := ⟨rfl, .inl ⟨rfl, rfl, rfl, rfl⟩⟩
theorem BestV.more {base side : List FV} {l : List (Nat × Nat)} {xv yv : Int} {i j : Nat} {mo r : Int} (h : BestV (foldB base side l) xv yv mo) (hr : ratioF (textAt base i) (textAt side j) = r) (hl : mo < r) : BestV (foldB base side (l ++ [(i, j)])) i j r := by
  rw [foldB_snoc, bstep_of h.1 hr, if_pos hl]
  refine ⟨rfl, .inr ⟨i, j, rfl, rfl, rfl, ?_⟩⟩
  rcases h.2 with ⟨_, h, _⟩ | ⟨_, _, _, _, _, h⟩ <;> omega
theorem BestV.same {base side : List FV} {l : List (Nat × Nat)} {xv yv : Int} {i j : Nat} {mo r : Int} (h : BestV (foldB base side l) xv yv mo) (hr : ratioF (textAt base i) (textAt side j) = r) (hl : ¬ mo < r) : BestV (foldB base side (l ++ [(i, j)])) xv yv mo := by
  rw [foldB_snoc, bstep_of h.1 hr, if_neg hl]; exact h
theorem BestV.none_ {base side : List FV} {is js : List Nat} {n : Nat} {xv yv mo : Int} (h : BestV (foldB base side (seenL is js n 0)) xv yv mo) (hi : ∀ x ∈ is, x < n) (hx : xv < 0) : bestF base side is js = none := by
  rw [bestF_eq, ← seen_all hi]
  rcases h.2 with ⟨h, _⟩ | ⟨x, y, _, h, _⟩
  · exact h
  · omega
theorem BestV.some_ {base side : List FV} {is js : List Nat} {n : Nat} {xv yv mo : Int} (h : BestV (foldB base side (seenL is js n 0)) xv yv mo) (hi : ∀ x ∈ is, x < n) (hx : ¬ xv < 0) : ∃ x y : Nat, bestF base side is js = some (x, y) ∧ xv = x ∧ yv = y := by
  rw [bestF_eq, ← seen_all hi]
  rcases h.2 with ⟨_, _, h, _⟩ | ⟨x, y, h1, h2, h3, _⟩
  · omega
  · exact ⟨x, y, h1, h2, h3⟩
def renL (base side : List FV) (ps : List (Nat × Nat)) (k : Nat) : List (ByteArray × ByteArray) :=
  (List.range k).filterMap fun i => if lookI ps i < 0 then none else some (pathAt base i, pathAt side (lookI ps i).toNat)
theorem renL_step (base side : List FV) (ps : List (Nat × Nat)) (k : Nat) : renL base side ps (k + 1) = renL base side ps k ++ if lookI ps k < 0 then [] else [(pathAt base k, pathAt side (lookI ps k).toNat)] := by
  unfold renL
  rw [List.range_succ, List.filterMap_append]
  congr 1
  by_cases h : lookI ps k < 0 <;> simp [h]
theorem renL_len (base side : List FV) (ps : List (Nat × Nat)) (k : Nat) : (renL base side ps k).length ≤ k := by
  have := List.length_filterMap_le (fun i => if lookI ps i < 0 then none else some (pathAt base i, pathAt side (lookI ps i).toNat)) (List.range k)
  simpa [renL] using this
theorem renL_mem {base side : List FV} {ps : List (Nat × Nat)} {k : Nat} {r : ByteArray × ByteArray} (h : r ∈ renL base side ps k) : ∃ i, i < k ∧ r.1 = pathAt base i := by
  obtain ⟨i, hi, he⟩ := List.mem_filterMap.1 h
  by_cases hn : lookI ps i < 0
  · rw [if_pos hn] at he; cases he
  · rw [if_neg hn] at he; cases he
    exact ⟨i, List.mem_range.1 hi, rfl⟩
def renF (base side : List FV) : List (ByteArray × ByteArray) := renL base side (pairsF base side) base.length
end Go.Proofs.YtcemkikgaeghjaaGreatDoor
namespace Go.Proofs.YtcemkikgaeghjaaGreatDoor
open Go.RowKit

theorem lookI_of {ps : List (Nat × Nat)} (h : ps.Pairwise fun a b => a.1 ≠ b.1) {x y : Nat} (hm : (x, y) ∈ ps) : lookI ps x = (y : Int) := by
  unfold lookI
  cases hf : ps.find? (fun p => decide (p.1 = x)) with
  | none => exact absurd (List.find?_eq_none.1 hf _ hm) (by simp)
  | some p =>
    have h1 : p.1 = x := by simpa using List.find?_some hf
    have h2 := List.mem_of_find?_eq_some hf
    rcases pair_one h h2 hm with e | e | e
    · rw [e]
    · exact absurd h1 e
    · exact absurd h1.symm e
theorem lookI_neg {ps : List (Nat × Nat)} {x : Nat} : lookI ps x < 0 ↔ ∀ y, (x, y) ∉ ps := by
  unfold lookI
  cases hf : ps.find? (fun p => decide (p.1 = x)) with
  | none =>
    simp only [Int.reduceNeg, Int.reduceLT, true_iff]
    intro y hy
    exact absurd (List.find?_eq_none.1 hf _ hy) (by simp)
  | some p =>
    have h1 : p.1 = x := by simpa using List.find?_some hf
    have h2 := List.mem_of_find?_eq_some hf
    obtain ⟨a, b⟩ := p
    simp only at h1; subst h1
    constructor
    · intro h; simp at h; omega
    · intro h; exact absurd h2 (h b)
theorem renF_mem {base side : List FV} {r : ByteArray × ByteArray} : r ∈ renF base side ↔ ∃ q ∈ pairsF base side, r = (pathAt base q.1, pathAt side q.2) := by
  have ok := pairsF_ok base side
  have hp : (pairsF base side).Pairwise fun a b => a.1 ≠ b.1 := ok.one.imp fun h => h.1
  unfold renF renL
  rw [List.mem_filterMap]
  constructor
  · rintro ⟨i, hi, he⟩
    by_cases hn : lookI (pairsF base side) i < 0
    · rw [if_pos hn] at he; cases he
    · rw [if_neg hn] at he
      injection he with he
      subst he
      have : ∃ y, (i, y) ∈ pairsF base side := by
        refine Classical.byContradiction fun h => hn (lookI_neg.2 fun y hy => h ⟨y, hy⟩)
      obtain ⟨y, hy⟩ := this
      refine ⟨(i, y), hy, ?_⟩
      rw [lookI_of hp hy]; rfl
  · rintro ⟨⟨x, y⟩, hq, rfl⟩
    refine ⟨x, List.mem_range.2 (lone_lt (ok.from_ _ hq)), ?_⟩
    rw [lookI_of hp hq, if_neg (by omega)]; rfl
theorem renF_nil {base side : List FV} : renF base side = [] ↔ pairsF base side = [] := by
  rw [List.eq_nil_iff_forall_not_mem, List.eq_nil_iff_forall_not_mem]
  constructor
  · intro h q hq
    exact h _ (renF_mem.2 ⟨q, hq, rfl⟩)
  · intro h r hr
    obtain ⟨q, hq, _⟩ := renF_mem.1 hr
    exact h q hq

/-! ### where, added -/
def whereD (side : List FV) (L : List (ByteArray × ByteArray)) (f : FV) : Option FV :=
  (findP side f.path).or (L.findSome? fun r => if r.1 = f.path then findP side r.2 else none)
def addedD (base side : List FV) (L : List (ByteArray × ByteArray)) : List FV :=
  side.filter fun f => (findP base f.path).isNone && !(L.any fun r => decide (r.2 = f.path))
/-! ### put -/
def putD (m : List FV × List CL) (f : FV) (kind : Int) : List FV × List CL :=
  if ((findP m.1 f.path).isSome || clashF m.1 f.path) = true then (m.1, m.2 ++ [⟨f.path, 5, f.text⟩])
  else (sortedIn m.1 f, if kind = 0 then m.2 else m.2 ++ [⟨f.path, kind, f.text⟩])
def sortM (m : List FV × List CL) : List FV × List CL := (sortF m.1, m.2)
/-! ### what is put, of a file of base; what is added -/
def bothD (m : List FV × List CL) (f o t : FV) : List FV × List CL :=
  let path := if o.path = f.path then t.path else o.path
  let kind : Int := if o.path = f.path then 0 else if t.path ≠ f.path ∧ t.path ≠ o.path then 4 else 0
  let exec := if o.exec = f.exec then t.exec else o.exec
  let r := merge3F f.text o.text t.text
  putD m ⟨path, exec, r.1⟩ (if r.2 = false ∧ kind = 0 then 1 else kind)
def keptD (wa wb : FV → Option FV) (m : List FV × List CL) (f : FV) : List FV × List CL :=
  match wa f, wb f with
  | some x, some y => bothD m f x y
  | some x, none => if f = x then m else putD m x 3
  | none, some y => if f = y then m else putD m y 3
  | none, none => m
def addOneD (theirs : List FV) (m : List FV × List CL) (x : FV) : List FV × List CL :=
  match findP theirs x.path with
  | none => putD m x 0
  | some y => if y = x then putD m x 0 else putD m ⟨x.path, x.exec, (merge3F ⟨#[]⟩ x.text y.text).1⟩ 2
def addTwoD (ours : List FV) (m : List FV × List CL) (y : FV) : List FV × List CL := if (findP ours y.path).isNone = true then putD m y 0 else m
def wholeD (base : List FV) (wa wb : FV → Option FV) (ours theirs : List FV) : List FV × List CL :=
  theirs.foldl (addTwoD ours) (ours.foldl (addOneD theirs) (base.foldl (keptD wa wb) ([], [])))
/-! ### clashes, each in its place from behind -/
def insC (out : List CL) (c : CL) : List CL := out.takeWhile (fun x => decide (x.path.data.toList ≤ c.path.data.toList)) ++ c :: out.dropWhile (fun x => decide (x.path.data.toList ≤ c.path.data.toList))
def UpC (l : List CL) : Prop := l.Pairwise fun a b => a.path.data.toList ≤ b.path.data.toList
end Go.Proofs.YtcemkikgaeghjaaGreatDoor
