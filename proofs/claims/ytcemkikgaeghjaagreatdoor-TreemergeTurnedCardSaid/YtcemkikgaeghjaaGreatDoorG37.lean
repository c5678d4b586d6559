/- Texts of the walks, together: Walk: the law TreemergeTurned. The world in which the tables of unicode/utf8 lie as the program lays them. Arguments opened by their types' shapes: one law for each kind of type. Files among a law's arguments: opened. Four arguments of a law: opened. -/
import Derived.Test.YtcemkikgaeghjaaGreatDoorRows
import Derived.Test.YtcemkikgaeghjaaGreatDoorCards
import Derived.Test.YtcemkikgaeghjaaGreatDoorTie
import Derived.ProofKit
import Derived.OpenShut
import Derived.Deep.DeepHandedRow
import Derived.SevenTiedAt
import Derived.SizedLaws
import Derived.SliceStrings
import Derived.ChangeArms
import Derived.ChangeSame
import Derived.ChangeOld
import Derived.ChangeSlices
import Derived.Test.YtcemkikgaeghjaaGreatDoorG02
import Derived.Test.YtcemkikgaeghjaaGreatDoorG03
import Derived.Test.YtcemkikgaeghjaaGreatDoorG05
import Derived.Test.YtcemkikgaeghjaaGreatDoorG34
import Derived.Test.YtcemkikgaeghjaaGreatDoorG35
import Derived.Test.YtcemkikgaeghjaaGreatDoorG36
namespace Go.Proofs.YtcemkikgaeghjaaGreatDoor
open Go.RowKit

theorem renF_len0 {base side : List FV} : (renF base side).length = 0 ↔ pairsF base side = [] := by
  rw [List.length_eq_zero_iff, renF_nil]
theorem merge_small {a b c : List FV} (ha : Small a) (hb : Small b) (hc : Small c) : ∃ X P, treemergeF a b c = (X, P, 0) ∧ X.length ≤ 100 := by
  obtain ⟨e, t⟩ := treemerge_ok ha hb hc
  exact ⟨_, _, e, treeOk_len t⟩
theorem Small.texts {l : List FV} (h : Small l) : ∀ f ∈ l, f.text.size ≤ 1000000 := fun f hf => by have := h.text f hf; omega
theorem Small.rise {l : List FV} (h : Small l) : Rise l := (treeOk_iff.1 h.tree).2.2.1
theorem run_eqlB (a b : Bool) (w : World) : (binOp .eql 4 (.bool a) (.bool b)).run Tryz.prog w = .ok (.bool (decide (a = b))) w := by
  have ht : Tryz.prog.underlying 4 = some .bool := by kernel_rfl
  cases a <;> cases b <;> simp [go_sem, run_eql_bool _ 4 _ _ ht]
set_option maxRecDepth 100000 in
set_option maxHeartbeats 16000000 in
theorem mergeTurned_any {A A' A'' : Option Addr} {n c n' c' n'' c'' : Nat} {l l' l'' : List FV} {w : World} (hn : n ≤ 17592186044416) (hn' : n' ≤ 17592186044416) (hn'' : n'' ≤ 17592186044416) (hm : Lm w)
    (hl : RdF w w.heap.size A n c l) (hl' : RdF w w.heap.size A' n' c' l') (hl'' : RdF w w.heap.size A'' n'' c'' l'') :
    Calls Tryz.prog 9 #[.slice A n c, .slice A' n' c', .slice A'' n'' c''] w (BoolBelow true w) := by
  have hw : Below w.heap.size w w := Below.refl _ _
  go_enter Tryz.func9, Tryz.ntmps9
  go_wp2_with fail
  refine (few14_b hn hl).mono ?_
  rintro e v1 ⟨rfl, hx⟩
  replace hw := hw.trans (hx.mono hw.size)
  replace hm := hm.below hx hm.lt
  replace hl := hl.to hx hx.size
  replace hl' := hl'.to hx hx.size
  replace hl'' := hl''.to hx hx.size
  clear hx
  cases few14 l with
  | false =>
    clear hl hl' hl''
    go_wp2_with fail
    refine (awake14_any hm).mono ?_
    rintro e v2 ⟨rfl, hx⟩
    replace hw := hw.trans (hx.mono hw.size)
    replace hm := hm.below hx hm.lt
    clear hx
    go_wp2
    go_ret
    exact ⟨rfl, hw⟩
  | true =>
    go_wp2_with fail
    refine (few14_b hn' hl').mono ?_
    rintro e v3 ⟨rfl, hx⟩
    replace hw := hw.trans (hx.mono hw.size)
    replace hm := hm.below hx hm.lt
    replace hl := hl.to hx hx.size
    replace hl' := hl'.to hx hx.size
    replace hl'' := hl''.to hx hx.size
    clear hx
    cases few14 l' with
    | false =>
      clear hl hl' hl''
      go_wp2_with fail
      refine (awake14_any hm).mono ?_
      rintro e v4 ⟨rfl, hx⟩
      replace hw := hw.trans (hx.mono hw.size)
      replace hm := hm.below hx hm.lt
      clear hx
      go_wp2
      go_ret
      exact ⟨rfl, hw⟩
    | true =>
      go_wp2_with fail
      refine (few14_b hn'' hl'').mono ?_
      rintro e v5 ⟨rfl, hx⟩
      replace hw := hw.trans (hx.mono hw.size)
      replace hm := hm.below hx hm.lt
      replace hl := hl.to hx hx.size
      replace hl' := hl'.to hx hx.size
      replace hl'' := hl''.to hx hx.size
      clear hx
      cases few14 l'' with
      | false =>
        clear hl hl' hl''
        go_wp2_with fail
        refine (awake14_any hm).mono ?_
        rintro e v6 ⟨rfl, hx⟩
        replace hw := hw.trans (hx.mono hw.size)
        replace hm := hm.below hx hm.lt
        clear hx
        go_wp2
        go_ret
        exact ⟨rfl, hw⟩
      | true =>
        go_wp2_with fail
        refine (playTree_any hn hl).mono ?_
        rintro e v7 ⟨A1, c1, a, rfl, ea, hra, hx⟩
        replace hw := hw.trans (hx.mono hw.size)
        replace hm := hm.below hx hm.lt
        replace hl' := hl'.to hx hx.size
        replace hl'' := hl''.to hx hx.size
        clear hx
        have sa : Small a := by rw [ea]; exact play_small l
        clear ea hl
        go_wp2_with fail
        refine (playTree_any hn' hl').mono ?_
        rintro e v8 ⟨A2, c2, b, rfl, eb, hrb, hx⟩
        replace hw := hw.trans (hx.mono hw.size)
        replace hm := hm.below hx hm.lt
        replace hra := hra.to hx hx.size
        replace hl'' := hl''.to hx hx.size
        clear hx
        have sb : Small b := by rw [eb]; exact play_small l'
        clear eb hl'
        go_wp2_with fail
        refine (playTree_any hn'' hl'').mono ?_
        rintro e v9 ⟨A3, c3, t, rfl, et, hrt, hx⟩
        replace hw := hw.trans (hx.mono hw.size)
        replace hm := hm.below hx hm.lt
        replace hra := hra.to hx hx.size
        replace hrb := hrb.to hx hx.size
        clear hx
        have st : Small t := by rw [et]; exact play_small l''
        clear et hl''
        have la := sa.len
        have lb := sb.len
        have lt := st.len
        obtain ⟨X1, P1, E1, lX1⟩ := merge_small sa sb st
        obtain ⟨X2, P2, E2, lX2⟩ := merge_small sa st sb
        have HT := Lib.hid (fun (h1 : pairsF a b = []) (h2 : pairsF a t = []) => treemerge_turned sa sb st h1 h2)
        rw [E1, E2] at HT
        go_wp2_with fail
        have K := mergeT_any hm (by omega) (by omega) (by omega) hra hrb hrt
        rw [E1] at K
        refine (K).mono ?_
        rintro e v10 ⟨B1, C1, e1, d1, rfl, hx1, hc1, hx⟩
        replace hw := hw.trans (hx.mono hw.size)
        replace hm := hm.below hx hm.lt
        replace hra := hra.to hx hx.size
        replace hrb := hrb.to hx hx.size
        replace hrt := hrt.to hx hx.size
        clear hx
        replace hx1 : RdF v10 v10.heap.size B1 X1.length e1 X1 := hx1
        clear hc1 K
        dsimp only
        go_wp2_with fail
        have K := mergeT_any hm (by omega) (by omega) (by omega) hra hrt hrb
        rw [E2] at K
        refine (K).mono ?_
        rintro e v11 ⟨B2, C2, e2, d2, rfl, hx2, hc2, hx⟩
        replace hw := hw.trans (hx.mono hw.size)
        replace hm := hm.below hx hm.lt
        replace hra := hra.to hx hx.size
        replace hrb := hrb.to hx hx.size
        replace hrt := hrt.to hx hx.size
        replace hx1 := hx1.to hx hx.size
        clear hx
        replace hx2 : RdF v11 v11.heap.size B2 X2.length e2 X2 := hx2
        clear hc2 K
        dsimp only
        clear E1 E2
        have N1 := Lib.hid (renF_len0 (base := a) (side := b))
        have N2 := Lib.hid (renF_len0 (base := a) (side := t))
        have R1 : (renF a b).length ≤ 30 := Nat.le_trans (renL_len _ _ _ _) la
        have R2 : (renF a t).length ≤ 30 := Nat.le_trans (renL_len _ _ _ _) la
        go_wp2_with fail
        have K := rrenames_any (by omega) (by omega) hra hrb sa.texts sb.texts sa.rise
        refine (K).mono ?_
        rintro e v12 ⟨v, rfl, ov, hx⟩
        replace hw := hw.trans (hx.mono hw.size)
        replace hm := hm.below hx hm.lt
        replace hra := hra.to hx hx.size
        replace hrb := hrb.to hx hx.size
        replace hrt := hrt.to hx hx.size
        replace hx1 := hx1.to hx hx.size
        replace hx2 := hx2.to hx hx.size
        clear hx
        obtain ⟨F1, g1, rfl, _⟩ := ownsRow_cap ov
        clear ov K
        go_wp2_with fail
        have K := rrenames_any (by omega) (by omega) hra hrt sa.texts st.texts sa.rise
        refine (K).mono ?_
        rintro e v13 ⟨v, rfl, ov, hx⟩
        replace hw := hw.trans (hx.mono hw.size)
        replace hm := hm.below hx hm.lt
        replace hra := hra.to hx hx.size
        replace hrb := hrb.to hx hx.size
        replace hrt := hrt.to hx hx.size
        replace hx1 := hx1.to hx hx.size
        replace hx2 := hx2.to hx hx.size
        clear hx
        obtain ⟨F2, g2, rfl, _⟩ := ownsRow_cap ov
        clear ov K hra hrb hrt sa sb st la lb lt
        generalize (renF a b).length = r1 at *
        generalize (renF a t).length = r2 at *
        by_cases hr : r1 + r2 = 0
        case neg =>
          clear HT N1 N2
          clear hx1 hx2
          go_wp2_with fail
          refine (awake14_any hm).mono ?_
          rintro e v14 ⟨rfl, hx⟩
          replace hw := hw.trans (hx.mono hw.size)
          replace hm := hm.below hx hm.lt
          clear hx
          go_wp2
          go_ret
          exact ⟨rfl, hw⟩
        case pos =>
          obtain ⟨h1, h2⟩ := HT.out (N1.out.1 (by omega)) (N2.out.1 (by omega))
          have H1 := Lib.hid h1
          have H2 := Lib.hid h2
          clear h1 h2 HT N1 N2
          obtain ⟨rfl, rfl⟩ : r1 = 0 ∧ r2 = 0 := by omega
          clear hr R1 R2
          go_wp2_with fail
          refine (awake14_any hm).mono ?_
          rintro e v15 ⟨rfl, hx⟩
          replace hw := hw.trans (hx.mono hw.size)
          replace hm := hm.below hx hm.lt
          replace hx1 := hx1.to hx hx.size
          replace hx2 := hx2.to hx hx.size
          clear hx
          have hB1 := fun u => run_eqlB true true u
          have hB2 := fun u => run_eqlB false false u
          by_cases hp : P1 = []
          case pos =>
            have hp2 := H1.out.1 hp
            have hX := H2.out hp
            clear H1 H2
            subst hp hp2 hX
            go_wp2_with fail
            have K := plainF_any (by omega) (by omega) hx1.row hx2.row hx1.len hx2.len
            rw [decide_eq_true rfl] at K
            refine (K).mono ?_
            rintro e v16 ⟨rfl, hx⟩
            replace hw := hw.trans (hx.mono hw.size)
            replace hm := hm.below hx hm.lt
            replace hx1 := hx1.to hx hx.size
            replace hx2 := hx2.to hx hx.size
            clear hx
            clear K hx1 hx2
            go_wp2
            go_ret
            exact ⟨rfl, hw⟩
          case neg =>
            have hp2 : P2 ≠ [] := fun e => hp (H1.out.2 e)
            have z1 := List.length_pos_iff.2 hp
            have z2 := List.length_pos_iff.2 hp2
            clear H1 H2 hp hp2 hx1 hx2
            generalize P1.length = n1 at *
            generalize P2.length = n2 at *
            have q1 := (int_ne (u := (n1 : Int)) (v := 0) (by omega)).1
            have q2 := (int_ne (u := (n2 : Int)) (v := 0) (by omega)).1
            go_wp2
            go_ret
            exact ⟨rfl, hw⟩
end Go.Proofs.YtcemkikgaeghjaaGreatDoor
namespace Go.Proofs.YtcemkikgaeghjaaGreatDoor
open Go.ChangeShapes Go.WideShapes Go.ChangeAt Go.RowKit

def uAcc : List Int := [128, 191, 160, 191, 128, 159, 144, 191, 128, 143, 0, 0, 0, 0, 0, 0, 0, 0, 0, 0, 0, 0, 0, 0, 0, 0, 0, 0, 0, 0, 0, 0]
def T.cellsOf (cs : List Value) : Obj → Obj
  | .cells _ t frozen => .cells cs.toArray t frozen
  | o => o
def uFirst : List Value := Go.Pinned.utf8FirstZ.map fun (z : Nat) => Value.int .u8 (Int.ofNat z)
noncomputable def laidU (os : Os) : World :=
  { World.holding Tryz.prog os ⟨#[], #[], []⟩ with heap := ((World.holding Tryz.prog os ⟨#[], #[], []⟩).heap.modify 1 (T.cellsOf uFirst)).modify 2 (T.cellsOf (uAcc.map fun z => .int .u8 z)) }
end Go.Proofs.YtcemkikgaeghjaaGreatDoor
namespace Go.Proofs.YtcemkikgaeghjaaGreatDoor
open Go.ChangeShapes Go.WideShapes Go.ChangeAt Go.RowKit

theorem T.list_of {α : Type} {P : Nat → α → Prop} : ∀ {n : Nat}, (∀ i, i < n → ∃ a, P i a) → ∃ l : List α, l.length = n ∧ ∀ i a, l[i]? = some a → P i a
  | 0, _ => ⟨[], rfl, by simp⟩
  | n + 1, h => by
    obtain ⟨l, hl, hp⟩ := T.list_of (n := n) fun i hi => h i (by omega)
    obtain ⟨a, ha⟩ := h n (by omega)
    refine ⟨l ++ [a], by simp [hl], fun i x hx => ?_⟩
    rcases Nat.lt_or_ge i n with hi | hi
    · rw [List.getElem?_append_left (by omega)] at hx; exact hp i x hx
    · have hlt := (List.getElem?_eq_some_iff.1 hx).1
      rw [List.length_append, List.length_singleton] at hlt
      obtain rfl : i = n := by omega
      rw [List.getElem?_append_right (by omega), hl, Nat.sub_self] at hx
      obtain rfl := Option.some.inj hx
      exact ha
theorem T.flat_get {α : Type} {f : α → List Value} {k : Nat} (hf : ∀ a, (f a).length = k) (hk : 0 < k) : ∀ {l : List α} {j : Nat} {u : Value}, (l.flatMap f)[j]? = some u → ∃ a, l[j / k]? = some a ∧ (f a)[j % k]? = some u
  | [], j, u, h => by simp at h
  | x :: l, j, u, h => by
    rw [List.flatMap_cons] at h
    rcases Nat.lt_or_ge j k with hj | hj
    · rw [List.getElem?_append_left (by rw [hf]; exact hj)] at h
      exact ⟨x, by rw [Nat.div_eq_of_lt hj]; rfl, by rw [Nat.mod_eq_of_lt hj]; exact h⟩
    · rw [List.getElem?_append_right (by rw [hf]; exact hj), hf] at h
      obtain ⟨a, h1, h2⟩ := T.flat_get hf hk h
      refine ⟨a, ?_, ?_⟩
      · rw [Nat.div_eq_sub_div hk hj, List.getElem?_cons_succ]; exact h1
      · rw [Nat.mod_eq_sub_mod hj]; exact h2
theorem T.rd_elems {W : World} {a : Addr} {len cap sz : Nat} {α : Type} {f : α → List Value} {es : List α} (hf : ∀ x, (f x).length = sz) (hsz : 0 < sz) (hl : es.length = len) (hcap : len ≤ cap)
    (hb : 0 < len → a.block < W.heap.size) (hcell : ∀ i e, es[i]? = some e → ∀ t u, (f e)[t]? = some u → W.cell? ((a.add (i * sz)).add t) = some u) : Rd W W.heap.size sz (some a) len cap (es.flatMap f) := by
  refine ⟨by rw [len_flat hf, hl], hcap, fun hn => ?_⟩
  obtain ⟨b, off, spot⟩ := a
  have hspot : spot = none := by
    have h0 := hcell 0 (es[0]'(by omega)) (List.getElem?_eq_getElem _) 0 ((f (es[0]'(by omega)))[0]'(by rw [hf]; exact hsz)) (List.getElem?_eq_getElem _)
    simpa [Addr.add] using World.cell?_spot h0
  subst hspot
  refine ⟨b, off, rfl, hb hn, fun j u hu => ?_⟩
  obtain ⟨x, h1, h2⟩ := T.flat_get hf hsz hu
  have := hcell _ x h1 _ u h2
  rw [add_plain, add_plain] at this
  rw [show off + j = off + j / sz * sz + j % sz by rw [Nat.add_assoc, Nat.mul_comm (j / sz) sz, Nat.div_add_mod]]
  exact this

section
variable {H : Type} {enc : TypeId × Value → H} {W : World}
theorem T.weights_mem_all {P : Program} {e : TypeId} : ∀ {ds : List (DataW H)} {d : DataW H}, d ∈ ds → ∀ n ∈ d.weights P e, n ∈ DataW.weightsAll P e ds
  | d0 :: ds, d, hd, n, hn => by
    simp only [DataW.weightsAll, List.mem_append]
    rcases List.mem_cons.1 hd with rfl | hd
    · exact .inl hn
    · exact .inr (T.weights_mem_all hd n hn)
  | [], _, hd, _, _ => by cases hd

def Opens (enc : TypeId × Value → H) (W : World) (t : TypeId) (E : List Value → Prop) : Prop :=
  ∀ fuel cs x, DataW.trod enc Tryz.prog W 0 (fun _ => true) true fuel t cs = some x → (∀ n ∈ DataW.weights Tryz.prog t x.1, n ≤ reachBytes) → E cs
theorem Opens.mono {t : TypeId} {E E' : List Value → Prop} (h : Opens enc W t E) (hE : ∀ cs, E cs → E' cs) : Opens enc W t E' := fun fuel cs x h1 h2 => hE _ (h fuel cs x h1 h2)
theorem opens_bool {t : TypeId} (ht : Tryz.prog.underlying t = some .bool) : Opens enc W t fun cs => ∃ b : Bool, cs = [.bool b] := by
  intro fuel cs x h _
  obtain ⟨b, rfl, _⟩ := DataW.trod_bool ht h
  exact ⟨b, rfl⟩
theorem opens_str {t : TypeId} (ht : Tryz.prog.underlying t = some .string) : Opens enc W t fun cs => ∃ s : ByteArray, cs = [.string s] ∧ s.size ≤ 140737488351232 := by
  intro fuel cs x h hw
  obtain ⟨s, rfl, rfl, _⟩ := DataW.trod_string ht h
  have h1 := hw s.data.toList.length (by simp [DataW.weights])
  have h3 : s.data.toList.length = s.size := rfl
  simp only [reachBytes] at h1
  exact ⟨s, rfl, by omega⟩
theorem opens_struct {t : TypeId} {fs : Array Field} {E : Nat → List Value → Prop} (ht : Tryz.prog.underlying t = some (.struct fs)) (hE : ∀ (i : Nat) (f : Field), fs[i]? = some f → Opens enc W f.type (E i)) :
    Opens enc W t fun cs => cs.length = Tryz.prog.cellsOf t ∧ ∀ (i : Nat) (f : Field), fs[i]? = some f → E i ((cs.drop f.offset).take (Tryz.prog.cellsOf f.type)) := by
  intro fuel cs x h hw
  obtain ⟨xs, n, rfl, rfl, hl, hlen, hf⟩ := DataW.trod_struct ht h
  refine ⟨hl, fun i f hi => ?_⟩
  have hlt : i < fs.size := (Array.getElem?_eq_some_iff.1 hi).1
  have h1 := hf i f hi
  rw [List.getElem?_eq_getElem (by omega : i < xs.length)] at h1
  refine hE i f hi _ _ _ h1 fun m hm => hw m ?_
  simp only [DataW.weights, ht]
  refine DataW.weights_mem_each (j := i) (t := f.type) (d := xs[i].1) ?_ ?_ m hm
  · simp [hi]
  · rw [List.getElem?_map, List.getElem?_eq_getElem (by omega : i < xs.length)]; rfl
theorem opens_slice {α : Type} {f : α → List Value} {Q : α → Prop} {t e : TypeId} {sz bytes : Nat} (ht : Tryz.prog.underlying t = some (.slice e)) (hc : Tryz.prog.cellsOf e = sz) (hb : Tryz.prog.bytesOf e = bytes) (hf : ∀ a, (f a).length = sz) (h0 : 0 < sz)
    (hE : Opens enc W e fun cs => ∃ a, cs = f a ∧ Q a) :
    Opens enc W t fun cs => ∃ (A : Option Addr) (n c : Nat) (es : List α), cs = [.slice A n c] ∧ es.length = n ∧ Rd W W.heap.size sz A n c (es.flatMap f) ∧ (∀ a ∈ es, Q a) ∧ n * bytes ≤ 140737488351232 := by
  intro fuel cs x h hw
  rcases DataW.trod_slice ht h with ⟨rfl, _⟩ | ⟨a, len, cap, elems, rest, n, _, rfl, rfl, _, hl, _, hlen, hel, _, _⟩
  · exact ⟨none, 0, 0, [], rfl, rfl, Rd.none_ _ _ _, by simp, by omega⟩
  · rw [hc] at hel
    simp only [DataW.weights, ht, hb, List.mem_cons, List.mem_append] at hw
    have hlen2 : len * bytes ≤ 140737488351232 := by
      have := hw _ (.inl rfl)
      simp only [List.length_map, hlen, reachBytes] at this
      have h2 : len * bytes ≤ (len + rest.length) * bytes := Nat.mul_le_mul_right _ (by omega)
      omega
    have each : ∀ i, i < len → ∃ e : α, ((∀ t u, (f e)[t]? = some u → W.cell? ((a.add (i * sz)).add t) = some u) ∧ (a.add (i * sz)).block < W.heap.size) ∧ Q e := by
      intro i hi
      have h1 := hel i hi
      have hmem := List.getElem_mem (by omega : i < elems.length)
      rw [List.getElem?_eq_getElem (by omega : i < elems.length), Option.bind_eq_some_iff] at h1
      obtain ⟨cs, hcs, htr⟩ := h1
      obtain ⟨_, hl2, hcell⟩ := World.cells?_some hcs
      have hblk := World.cells?_block hcs h0
      obtain ⟨q, rfl, hq⟩ := hE _ _ _ htr fun n hn => hw n (.inr (.inl (T.weights_mem_all (List.mem_map.2 ⟨_, hmem, rfl⟩) n hn)))
      refine ⟨q, ⟨fun t u hu => ?_, hblk⟩, hq⟩
      have ht : t < sz := by rw [← hf q]; exact (List.getElem?_eq_some_iff.1 hu).1
      rw [hcell t ht]; exact hu
    obtain ⟨es, hes, hp⟩ := T.list_of each
    refine ⟨_, _, _, es, rfl, hes, T.rd_elems hf h0 hes hl (fun h0 => ?_) (fun i e he => (hp i e he).1.1), fun x hx => ?_, hlen2⟩
    · have := (hp 0 (es[0]'(by omega)) (List.getElem?_eq_getElem _)).1.2
      rwa [block_add] at this
    · obtain ⟨i, hi, rfl⟩ := List.getElem_of_mem hx
      exact (hp i _ (List.getElem?_eq_getElem hi)).2
theorem open_arg {t : TypeId} {E : List Value → Prop} (O : Opens enc W t E) {ts : List TypeId} {ds : List (DataW H)} {v : Value} {d : DataW H} {ps : List MemPlace} {j : Nat}
    (hsz : (DataW.weightsEach Tryz.prog ts ds).all (· ≤ reachBytes) = true) (ht : ts[j]? = some t) (hd : ds[j]? = some d) (h : DataW.Trod enc Tryz.prog W 0 (fun _ => true) true t v d ps) : E v.cells.toList := by
  obtain ⟨fuel, hf⟩ := h
  refine O fuel _ _ hf fun n hn => ?_
  have := List.all_eq_true.1 hsz _ (DataW.weights_mem_each ht hd n hn)
  simpa using this
end
end Go.Proofs.YtcemkikgaeghjaaGreatDoor
namespace Go.Proofs.YtcemkikgaeghjaaGreatDoor
open Go.ChangeShapes Go.WideShapes Go.ChangeAt Go.RowKit
section
variable {H : Type} {enc : TypeId × Value → H} {W : World}
def FileCells (cs : List Value) : Prop := ∃ f : FV, cs = f.cells ∧ f.path.size ≤ 140737488351232 ∧ f.text.size ≤ 140737488351232
set_option maxRecDepth 100000 in
theorem opens_file : Opens enc W 28 FileCells := by
  refine (opens_struct (E := fun i => match i with | 0 => fun cs => ∃ s : ByteArray, cs = [.string s] ∧ s.size ≤ 140737488351232 | 1 => fun cs => ∃ b : Bool, cs = [.bool b] | _ => fun cs => ∃ s : ByteArray, cs = [.string s] ∧ s.size ≤ 140737488351232) Tryz.underlying28 ?_).mono ?_
  · intro i f hf
    rcases i with _ | _ | _ | i <;> simp at hf
    · subst hf; exact opens_str Tryz.underlying9
    · subst hf; exact opens_bool Tryz.underlying4
    · subst hf; exact opens_str Tryz.underlying9
  · rintro cs ⟨hl, h⟩
    have hl3 : cs.length = 3 := hl
    match cs, hl3 with
    | [a, b, c], _ =>
      obtain ⟨p, e1, h1⟩ := h 0 _ rfl
      obtain ⟨x, e2⟩ := h 1 _ rfl
      obtain ⟨t, e3, h3⟩ := h 2 _ rfl
      have e1' : [a] = [Value.string p] := e1
      have e2' : [b] = [Value.bool x] := e2
      have e3' : [c] = [Value.string t] := e3
      cases e1'
      cases e2'
      cases e3'
      exact ⟨⟨p, x, t⟩, rfl, h1, h3⟩
def FilesCells (W : World) (cs : List Value) : Prop := ∃ (A : Option Addr) (c : Nat) (l : List FV), cs = [.slice A l.length c] ∧ RdF W W.heap.size A l.length c l ∧ l.length ≤ 17592186044416
set_option maxRecDepth 100000 in
theorem opens_files : Opens enc W 22 (FilesCells W) := by
  refine (opens_slice (f := FV.cells) (Q := fun f => f.path.size ≤ 140737488351232 ∧ f.text.size ≤ 140737488351232) Tryz.underlying22 (by kernel_rfl) (bytes := 40) (by kernel_rfl) FV.cells_len (by omega) (opens_file.mono ?_)).mono ?_
  · rintro cs ⟨f, h1, h2, h3⟩; exact ⟨f, h1, h2, h3⟩
  · rintro cs ⟨A, n, c, es, rfl, rfl, hr, hq, hb⟩
    exact ⟨A, c, es, rfl, ⟨hr, rfl, hq⟩, by omega⟩
end
end Go.Proofs.YtcemkikgaeghjaaGreatDoor
namespace Go.Proofs.YtcemkikgaeghjaaGreatDoor
open Go.ChangeShapes Go.WideShapes Go.ChangeAt Go.RowKit
end Go.Proofs.YtcemkikgaeghjaaGreatDoor
