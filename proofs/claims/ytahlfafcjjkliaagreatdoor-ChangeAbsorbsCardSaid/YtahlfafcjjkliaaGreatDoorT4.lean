/- Sets of paths in maps; walks: tree's paths and within. -/
import Derived.Test.YtahlfafcjjkliaaGreatDoorT2
import Derived.Maps.OwnSet
import Derived.DeepKeys4
namespace Go.Proofs.YtahlfafcjjkliaaGreatDoor
open Go.RowKit

set_option maxRecDepth 100000 in
theorem T.laidOut : laidOutB Tryz.prog = true := by kernel_rfl
set_option maxRecDepth 100000 in
theorem wideP : (match Tryz.prog.underlying 65 with | some (.array _ _) | some (.struct _) => true | _ => false) = true := by kernel_rfl
set_option maxRecDepth 100000 in
theorem KP : Maps.Keyed Tryz.prog 65 := Maps.Keyed.of_law (deep_law_laid T.laidOut (m := 2) (by omega) (of_decide_eq_true (by kernel_rfl)) (by kernel_rfl) wideP)
/-- A path's key. -/
def klP (q : ByteArray) : Lit := .string (keyBytes [.string q.data.toList])
set_option maxRecDepth 100000 in
theorem T.types_pos : (0 : Nat) < Tryz.prog.types.size := of_decide_eq_true (by kernel_rfl)
theorem key_str {P : Program} {t e : TypeId} {f : Field} (hu : P.underlying t = some (.struct #[f])) (hft : f.type = e) (hfo : f.offset = 0) (hfn : (f.name != "_") = true) (hct : P.cellsOf t = 1) (hce : P.cellsOf e = 1)
    (hue : P.underlying e = some .string) (hk : P.keyType t = true) (hp : 0 < P.types.size) {x : ByteArray} (hw : x.size ≤ maxLen) : keyOf P t (.agg #[.string x]) = some (klP x) := by
  obtain ⟨k, hs⟩ : ∃ k, P.types.size = k + 1 := ⟨P.types.size - 1, by omega⟩
  have h1 : P.keyLits (k + 1) e [.string x] = some [.string x.data.toList] := by simp [Program.keyLits, hue, hw]
  have h2 : P.keyLits (k + 1 + 1) t [.string x] = some [.string x.data.toList] := by
    unfold Program.keyLits
    simp only [hu]
    have hfn' : ¬ f.name = "_" := by simpa using hfn
    simp [hct, hft, hfo, hce, h1, hfn']
  simp [keyOf, hu, hk, Value.formed, hct, Value.cells, hs, h2, klP]
set_option maxRecDepth 100000 in
theorem keyP_type : Tryz.prog.keyType 65 = true := by kernel_rfl
set_option maxRecDepth 100000 in
theorem cellsP : Tryz.prog.cellsOf 65 = 1 := by kernel_rfl
theorem cells_str : Tryz.prog.cellsOf 9 = 1 := by kernel_rfl
theorem keyP {x : ByteArray} (h : x.size ≤ maxLen) : keyOf Tryz.prog 65 (.agg #[.string x]) = some (klP x) :=
  key_str Tryz.underlying65 rfl rfl rfl cellsP cells_str Tryz.underlying9 keyP_type T.types_pos h
theorem klP_ne {x y : ByteArray} (hx : x.size ≤ maxLen) (hy : y.size ≤ maxLen) (h : x ≠ y) : klP x ≠ klP y := fun e => by
  have h1 := keyP hx
  rw [e] at h1
  have := KP.inj h1 (keyP hy)
  simp at this
  exact h this
theorem klP_key {x : ByteArray} (hx : x.size ≤ maxLen) : WideAt.IsKeyLit (klP x) := KP.key (keyP hx)
set_option maxRecDepth 100000 in
theorem boolT (x : Bool) : plainElem (H := Value) Tryz.prog 4 (.bool x) = some (.lit (.bool x), []) := plainElem_bool Tryz.underlying4 x
set_option maxRecDepth 100000 in
theorem boolT_inv {v : Value} {x : Bool} {ps : List MemPlace} (h : plainElem (H := Value) Tryz.prog 4 v = some (.lit (.bool x), ps)) : v = .bool x := by
  unfold plainElem at h
  rw [Tryz.underlying4] at h
  cases v <;> simp at h
  rw [h.1]

/-- A map that is a set of paths. -/
structure SetP (w : World) (b n : Nat) (D : DataW Value) (S : Bs → Bool) : Prop where
  own : w.ownsMap Tryz.prog 65 (plainElem Tryz.prog 4) b n D
  at_ : ∀ q : ByteArray, q.size ≤ maxLen → D.atKey (klP q) (.lit (.bool false)) = .lit (.bool (S q.data.toList))
  has : ∀ q : ByteArray, q.size ≤ maxLen → Maps.has D (klP q) = S q.data.toList
theorem SetP.start (w : World) : SetP (w.alloc (.map #[] 0)) w.heap.size 0 (.map []) (fun _ => false) :=
  ⟨World.ownsMap_made _ _ _ _, fun x _ => by simp [DataW.atKey], fun x _ => rfl⟩
theorem SetP.put {w w' : World} {b n : Nat} {D : DataW Value} {S S' : Bs → Bool} {k : ByteArray} (h : SetP w b n D S) (hk : k.size ≤ maxLen)
    (hown : w'.ownsMap Tryz.prog 65 (plainElem Tryz.prog 4) b (n + 1) (D.put (klP k) (.lit (.bool true)))) (hS : ∀ x, S' x = (S x || decide (k.data.toList = x))) :
    SetP w' b (n + 1) (D.put (klP k) (.lit (.bool true))) S' := by
  refine ⟨hown, fun x hx => ?_, fun x hx => ?_⟩
  · by_cases e : x = k
    · subst e
      rw [Maps.atKey_put_same h.own.isMap (klP_key hk), hS, decide_eq_true rfl, Bool.or_true]
    · rw [Maps.atKey_put_other (klP_ne hx hk e), h.at_ x hx, hS, decide_eq_false (fun e2 => e (ba_ext e2.symm)), Bool.or_false]
  · by_cases e : x = k
    · subst e
      rw [Maps.has_put_same h.own.isMap (klP_key hk), hS, decide_eq_true rfl, Bool.or_true]
    · rw [Maps.has_put_other (klP_ne hx hk e), h.has x hx, hS, decide_eq_false (fun e2 => e (ba_ext e2.symm)), Bool.or_false]
theorem SetP.kept {w w' : World} {b n : Nat} {D : DataW Value} {S : Bs → Bool} {row : Option Nat} (h : SetP w b n D S) (hg : w.grownBy w' row) (hne : some b ≠ row) : SetP w' b n D S :=
  ⟨h.own.kept hg hne, h.at_, h.has⟩
theorem SetP.below {w w' : World} {b n : Nat} {D : DataW Value} {S : Bs → Bool} (h : SetP w b n D S) (hb : Below w.heap.size w w') : SetP w' b n D S :=
  h.kept (row := none) ⟨hb.os, hb.tape, hb.output, hb.size, fun k hk _ => hb.block k hk⟩ (by simp)
/-- m[x] -/
theorem SetP.look {w : World} {b n : Nat} {D : DataW Value} {S : Bs → Bool} (h : SetP w b n D S) {x : ByteArray} (hx : x.size ≤ maxLen) :
    (Instr.lookup 61 (.map (some b)) (.agg #[.string x]) false).run Tryz.prog w = .ok (.bool (S x.data.toList)) w := by
  obtain ⟨v, ps, hrun, hv⟩ := h.own.lookup KP Tryz.underlying61 (Tryz.zeroValue4 w) (boolT false) (keyP hx)
  rw [h.at_ x hx] at hv
  rw [boolT_inv hv] at hrun
  exact hrun
theorem run_keyP (w : World) (x : ByteArray) : (Instr.build 65 #[(0, .string x)]).run Tryz.prog w = .ok (.agg #[.string x]) w := by
  go_simp

/-- Is one of a set on the way to a path. -/
def onWay (m : Bs → Bool) (p : Bs) : Bool := match parts p with | s :: ss => way m s ss | [] => false
theorem onWay_iff {m : Bs → Bool} {p : Bs} : onWay m p = true ↔ ∃ q, m q = true ∧ within p q = true := by
  obtain ⟨s, ss, h, _⟩ := parts_join p
  rw [onWay, h]
  exact way_parts h
/-- Where the look along the way has come to. -/
def WayAt (m : Bs → Bool) (p : Bs) (ps : List Bs) (k : Nat) (at_ : Bs) : Prop :=
  (k = 0 ∧ at_ = []) ∨ (1 ≤ k ∧ at_ ++ tailJ (ps.drop k) = p ∧ way m at_ (ps.drop k) = onWay m p)
theorem WayAt.first {m : Bs → Bool} {p : Bs} {ps : List Bs} (hp : parts p = ps) {s : Bs} (h0 : ps[0]? = some s) : WayAt m p ps 1 s := by
  obtain ⟨s', ss', h1, h2⟩ := parts_join p
  rw [← hp, h1] at h0 ⊢
  simp at h0
  subst h0
  refine .inr ⟨Nat.le_refl _, ?_, ?_⟩
  · exact h2.symm
  · rw [onWay, h1]; rfl
theorem WayAt.next {m : Bs → Bool} {p : Bs} {ps : List Bs} {k : Nat} {a s : Bs} (h : WayAt m p ps k a) (hk : 1 ≤ k) (hs : ps[k]? = some s) :
    (m a = true → onWay m p = true) ∧ (m a = false → WayAt m p ps (k + 1) (a ++ 47 :: s)) := by
  have hlt := (List.getElem?_eq_some_iff.1 hs).1
  have hd : ps.drop k = s :: ps.drop (k + 1) := by rw [List.drop_eq_getElem_cons hlt, (List.getElem?_eq_some_iff.1 hs).2]
  rcases h with ⟨h0, _⟩ | ⟨_, h2, h3⟩
  · omega
  · rw [hd] at h2 h3
    rw [way] at h3
    constructor
    · intro hm; rw [← h3, hm, Bool.true_or]
    · intro hm
      rw [hm, Bool.false_or] at h3
      refine .inr ⟨by omega, ?_, h3⟩
      rw [← h2]; simp [tailJ]
theorem WayAt.len {m : Bs → Bool} {p : Bs} {ps : List Bs} {k : Nat} {a : Bs} (h : WayAt m p ps k a) : a.length ≤ p.length := by
  rcases h with ⟨_, rfl⟩ | ⟨_, h2, _⟩
  · exact Nat.zero_le _
  · rw [← h2]; simp
theorem WayAt.done {m : Bs → Bool} {p : Bs} {ps : List Bs} {a : Bs} (h : WayAt m p ps ps.length a) (hp : parts p = ps) : onWay m p = false := by
  rcases h with ⟨h0, _⟩ | ⟨_, _, h3⟩
  · exact absurd (List.eq_nil_of_length_eq_zero h0) (by rw [← hp]; exact parts_ne p)
  · rw [← h3, List.drop_length]; rfl

theorem part_len {p s : Bs} (h : s ∈ parts p) : s.length ≤ p.length := by
  obtain ⟨s0, ss, h1, h2⟩ := parts_join p
  rw [h1] at h
  rcases List.mem_cons.1 h with rfl | h
  · rw [h2]; simp
  · obtain ⟨a, b, rfl⟩ := List.append_of_mem h
    rw [h2]; simp [tailJ]; omega

set_option maxRecDepth 100000 in
set_option maxHeartbeats 4000000 in
theorem within_any {p : ByteArray} {w : World} {b n : Nat} {D : DataW Value} {m : Bs → Bool} (hs : p.size ≤ 1048576) (hm : Lm w) (h : SetP w b n D m) :
    Calls Tryz.prog 62 #[.map (some b), .string p] w (BoolBelow (onWay m p.data.toList) w) := by
  have hl : p.data.toList.length = p.size := rfl
  go_enter Tryz.func62, Tryz.ntmps62
  go_wp2_with fail
  refine (parts_any (by omega) hm).mono ?_
  rintro e w1 ⟨ps, rfl, hps, hr, hb1, hs1, hle⟩
  have HP := Lib.hid hps
  clear hps
  go_wp2
  go_loopw [5, 11] (fun av kv wr => ∃ (k : Nat) (a : ByteArray), k ≤ ps.length ∧ kv = .int .i64 k ∧ av = .string a ∧ Hid (WayAt m p.data.toList (ps.map (·.data.toList)) k a.data.toList) ∧ Below w.heap.size w wr ∧ Below w1.heap.size w1 wr) (fun _ kv _ => ps.length - (intOf kv).toNat)
  case atStart => exact ⟨0, ⟨#[]⟩, Nat.zero_le _, rfl, rfl, .inl ⟨rfl, rfl⟩, hb1, Below.refl _ _⟩
  case round =>
    obtain ⟨k, a, hk, rfl, rfl, hw, hb, hb2⟩ := hrel
    by_cases hlt : k < ps.length
    · obtain ⟨b0, o0, u, e0, hbb, hx, h0⟩ := hr.str hlt
      cases e0
      replace h0 := (hb2.cell (p := ⟨w.heap.size, 0 + k, none⟩) (by show w.heap.size < _; omega)).trans h0
      rw [Nat.zero_add] at h0
      have hx' : (ps.map (·.data.toList))[k]? = some u.data.toList := by rw [List.getElem?_map, hx]; rfl
      have hal : a.size ≤ p.size := by have := WayAt.len hw.out; exact this
      have hul : u.size ≤ p.size := by
        refine part_len (p := p.data.toList) (s := u.data.toList) ?_
        rw [← HP.out]; exact List.mem_of_getElem? hx'
      have HX := Lib.hid hx'
      clear hx hx'
      by_cases hk0 : k = 0
      · subst hk0
        go_wp2
        go_roundw
        case rel =>
          refine ⟨1, a ++ u, by omega, by go_num, rfl, ?_, hb, hb2⟩
          have ha : a.data.toList = [] := by
            rcases hw.out with ⟨_, h⟩ | ⟨h, _⟩
            · exact h
            · omega
          have e : (a ++ u).data.toList = u.data.toList := by rw [ByteArray.data_append, Array.toList_append, ha, List.nil_append]
          show WayAt _ _ _ 1 (a ++ u).data.toList
          rw [e]
          exact WayAt.first HP.out.symm HX.out
        case measure => simp [intOf]; omega
      · have hk1 : 1 ≤ k := by omega
        have hki : (0 : Int) < k := by omega
        have hlk := (h.below (hb.mono (Nat.le_refl _))).look (x := a) (by unfold maxLen; omega)
        obtain ⟨n1, n2⟩ := WayAt.next hw.out hk1 HX.out
        cases hma : m a.data.toList with
        | true =>
          rw [hma] at hlk
          have HO := Lib.hid (n1 hma)
          clear n1 n2
          go_wp2
          go_ret
          exact ⟨ret_bool HO.out.symm, hb⟩
        | false =>
          rw [hma] at hlk
          have HO := Lib.hid (n2 hma)
          clear n1 n2
          have hz : (⟨#[47]⟩ : ByteArray).size = 1 := rfl
          go_wp2
          go_roundw
          case rel =>
            refine ⟨k + 1, a ++ ⟨#[47]⟩ ++ u, by omega, by go_num, rfl, ?_, hb, hb2⟩
            have e : (a ++ ⟨#[47]⟩ ++ u).data.toList = a.data.toList ++ 47 :: u.data.toList := by
              rw [ByteArray.data_append, ByteArray.data_append, Array.toList_append, Array.toList_append]; simp
            show WayAt _ _ _ (k + 1) (a ++ ⟨#[47]⟩ ++ u).data.toList
            rw [e]
            exact HO.out
          case measure => simp [intOf]; omega
    · have hkn : k = ps.length := by omega
      subst hkn
      have HO := Lib.hid (show onWay m p.data.toList = false from by
        have := hw.out
        rw [← List.length_map (f := fun x : ByteArray => x.data.toList)] at this
        exact this.done HP.out.symm)
      go_wp2
      go_ret
      exact ⟨ret_bool HO.out.symm, hb⟩
end Go.Proofs.YtahlfafcjjkliaaGreatDoor
