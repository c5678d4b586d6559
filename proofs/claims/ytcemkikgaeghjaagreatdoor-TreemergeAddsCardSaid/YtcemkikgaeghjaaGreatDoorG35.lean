/- Texts of the walks, together: Arguments opened by their types' shapes: one law for each kind of type. Files among a law's arguments: opened. Four arguments of a law: opened. Walk: the law TreemergeOne. Walk: the law TreemergeMoves. Walk: the law TreemergeAdds. -/
import Derived.Test.YtcemkikgaeghjaaGreatDoorRows
import Derived.ProofKit
import Derived.SizedLaws
import Derived.SliceStrings
import Derived.ChangeArms
import Derived.ChangeSame
import Derived.ChangeOld
import Derived.ChangeSlices
import Derived.Test.YtcemkikgaeghjaaGreatDoorG02
import Derived.Test.YtcemkikgaeghjaaGreatDoorG03
import Derived.Test.YtcemkikgaeghjaaGreatDoorG05
import Derived.Test.YtcemkikgaeghjaaGreatDoorG10
import Derived.Test.YtcemkikgaeghjaaGreatDoorG34
namespace Go.Proofs.YtcemkikgaeghjaaGreatDoor
open Go.ChangeShapes Go.WideShapes Go.ChangeAt Go.RowKit

theorem T.list_of {α : Type} {P : Nat → α → Prop} : ∀ {n : Nat}, (∀ i, i < n → ∃ a, P i a) → ∃ l : List α, l.length = n ∧ ∀ i a, l[i]? = some a → P i a
  | 0, _ => ⟨[], rfl, by simp⟩
  | n + 1, h => by
    obtain ⟨l, hl, hp⟩ := T.list_of (n := n) fun i hi => h i (by omega)
    obtain ⟨a, ha⟩ := h n (by omega)
    refine ⟨l ++ [a], by simp [hl], fun i x hx => ?_⟩
    rcases Nat.lt_or_ge i n with hi | hi
    · rw [List.getElem?_append_left (by omega)] at hx; exact hp i x hx
    · have hlt := (List.getElem?_eq_some_iff.1 hx).1
      rw [List.length_append, List.length_singleton] at hlt
      obtain rfl : i = n := by omega
      rw [List.getElem?_append_right (by omega), hl, Nat.sub_self] at hx
      obtain rfl := Option.some.inj hx
      exact ha
theorem T.flat_get {α : Type} {f : α → List Value} {k : Nat} (hf : ∀ a, (f a).length = k) (hk : 0 < k) : ∀ {l : List α} {j : Nat} {u : Value}, (l.flatMap f)[j]? = some u → ∃ a, l[j / k]? = some a ∧ (f a)[j % k]? = some u
  | [], j, u, h => by simp at h
  | x :: l, j, u, h => by
    rw [List.flatMap_cons] at h
    rcases Nat.lt_or_ge j k with hj | hj
    · rw [List.getElem?_append_left (by rw [hf]; exact hj)] at h
      exact ⟨x, by rw [Nat.div_eq_of_lt hj]; rfl, by rw [Nat.mod_eq_of_lt hj]; exact h⟩
    · rw [List.getElem?_append_right (by rw [hf]; exact hj), hf] at h
      obtain ⟨a, h1, h2⟩ := T.flat_get hf hk h
      refine ⟨a, ?_, ?_⟩
      · rw [Nat.div_eq_sub_div hk hj, List.getElem?_cons_succ]; exact h1
      · rw [Nat.mod_eq_sub_mod hj]; exact h2
theorem T.rd_elems {W : World} {a : Addr} {len cap sz : Nat} {α : Type} {f : α → List Value} {es : List α} (hf : ∀ x, (f x).length = sz) (hsz : 0 < sz) (hl : es.length = len) (hcap : len ≤ cap)
    (hb : 0 < len → a.block < W.heap.size) (hcell : ∀ i e, es[i]? = some e → ∀ t u, (f e)[t]? = some u → W.cell? ((a.add (i * sz)).add t) = some u) : Rd W W.heap.size sz (some a) len cap (es.flatMap f) := by
  refine ⟨by rw [len_flat hf, hl], hcap, fun hn => ?_⟩
  obtain ⟨b, off, spot⟩ := a
  have hspot : spot = none := by
    have h0 := hcell 0 (es[0]'(by omega)) (List.getElem?_eq_getElem _) 0 ((f (es[0]'(by omega)))[0]'(by rw [hf]; exact hsz)) (List.getElem?_eq_getElem _)
    simpa [Addr.add] using World.cell?_spot h0
  subst hspot
  refine ⟨b, off, rfl, hb hn, fun j u hu => ?_⟩
  obtain ⟨x, h1, h2⟩ := T.flat_get hf hsz hu
  have := hcell _ x h1 _ u h2
  rw [add_plain, add_plain] at this
  rw [show off + j = off + j / sz * sz + j % sz by rw [Nat.add_assoc, Nat.mul_comm (j / sz) sz, Nat.div_add_mod]]
  exact this

section
variable {H : Type} {enc : TypeId × Value → H} {W : World}
theorem T.weights_mem_all {P : Program} {e : TypeId} : ∀ {ds : List (DataW H)} {d : DataW H}, d ∈ ds → ∀ n ∈ d.weights P e, n ∈ DataW.weightsAll P e ds
  | d0 :: ds, d, hd, n, hn => by
    simp only [DataW.weightsAll, List.mem_append]
    rcases List.mem_cons.1 hd with rfl | hd
    · exact .inl hn
    · exact .inr (T.weights_mem_all hd n hn)
  | [], _, hd, _, _ => by cases hd

/-- What reads as a datum of type t, with its weights in reach, is as E says. -/
def Opens (enc : TypeId × Value → H) (W : World) (t : TypeId) (E : List Value → Prop) : Prop :=
  ∀ fuel cs x, DataW.trod enc Tryz.prog W 0 (fun _ => true) true fuel t cs = some x → (∀ n ∈ DataW.weights Tryz.prog t x.1, n ≤ reachBytes) → E cs
theorem Opens.mono {t : TypeId} {E E' : List Value → Prop} (h : Opens enc W t E) (hE : ∀ cs, E cs → E' cs) : Opens enc W t E' := fun fuel cs x h1 h2 => hE _ (h fuel cs x h1 h2)
theorem opens_bool {t : TypeId} (ht : Tryz.prog.underlying t = some .bool) : Opens enc W t fun cs => ∃ b : Bool, cs = [.bool b] := by
  intro fuel cs x h _
  obtain ⟨b, rfl, _⟩ := DataW.trod_bool ht h
  exact ⟨b, rfl⟩
theorem opens_str {t : TypeId} (ht : Tryz.prog.underlying t = some .string) : Opens enc W t fun cs => ∃ s : ByteArray, cs = [.string s] ∧ s.size ≤ 140737488351232 := by
  intro fuel cs x h hw
  obtain ⟨s, rfl, rfl, _⟩ := DataW.trod_string ht h
  have h1 := hw s.data.toList.length (by simp [DataW.weights])
  have h3 : s.data.toList.length = s.size := rfl
  simp only [reachBytes] at h1
  exact ⟨s, rfl, by omega⟩
theorem opens_struct {t : TypeId} {fs : Array Field} {E : Nat → List Value → Prop} (ht : Tryz.prog.underlying t = some (.struct fs)) (hE : ∀ (i : Nat) (f : Field), fs[i]? = some f → Opens enc W f.type (E i)) :
    Opens enc W t fun cs => cs.length = Tryz.prog.cellsOf t ∧ ∀ (i : Nat) (f : Field), fs[i]? = some f → E i ((cs.drop f.offset).take (Tryz.prog.cellsOf f.type)) := by
  intro fuel cs x h hw
  obtain ⟨xs, n, rfl, rfl, hl, hlen, hf⟩ := DataW.trod_struct ht h
  refine ⟨hl, fun i f hi => ?_⟩
  have hlt : i < fs.size := (Array.getElem?_eq_some_iff.1 hi).1
  have h1 := hf i f hi
  rw [List.getElem?_eq_getElem (by omega : i < xs.length)] at h1
  refine hE i f hi _ _ _ h1 fun m hm => hw m ?_
  simp only [DataW.weights, ht]
  refine DataW.weights_mem_each (j := i) (t := f.type) (d := xs[i].1) ?_ ?_ m hm
  · simp [hi]
  · rw [List.getElem?_map, List.getElem?_eq_getElem (by omega : i < xs.length)]; rfl
theorem opens_slice {α : Type} {f : α → List Value} {Q : α → Prop} {t e : TypeId} {sz bytes : Nat} (ht : Tryz.prog.underlying t = some (.slice e)) (hc : Tryz.prog.cellsOf e = sz) (hb : Tryz.prog.bytesOf e = bytes) (hf : ∀ a, (f a).length = sz) (h0 : 0 < sz)
    (hE : Opens enc W e fun cs => ∃ a, cs = f a ∧ Q a) :
    Opens enc W t fun cs => ∃ (A : Option Addr) (n c : Nat) (es : List α), cs = [.slice A n c] ∧ es.length = n ∧ Rd W W.heap.size sz A n c (es.flatMap f) ∧ (∀ a ∈ es, Q a) ∧ n * bytes ≤ 140737488351232 := by
  intro fuel cs x h hw
  rcases DataW.trod_slice ht h with ⟨rfl, _⟩ | ⟨a, len, cap, elems, rest, n, _, rfl, rfl, _, hl, _, hlen, hel, _, _⟩
  · exact ⟨none, 0, 0, [], rfl, rfl, Rd.none_ _ _ _, by simp, by omega⟩
  · rw [hc] at hel
    simp only [DataW.weights, ht, hb, List.mem_cons, List.mem_append] at hw
    have hlen2 : len * bytes ≤ 140737488351232 := by
      have := hw _ (.inl rfl)
      simp only [List.length_map, hlen, reachBytes] at this
      have h2 : len * bytes ≤ (len + rest.length) * bytes := Nat.mul_le_mul_right _ (by omega)
      omega
    have each : ∀ i, i < len → ∃ e : α, ((∀ t u, (f e)[t]? = some u → W.cell? ((a.add (i * sz)).add t) = some u) ∧ (a.add (i * sz)).block < W.heap.size) ∧ Q e := by
      intro i hi
      have h1 := hel i hi
      have hmem := List.getElem_mem (by omega : i < elems.length)
      rw [List.getElem?_eq_getElem (by omega : i < elems.length), Option.bind_eq_some_iff] at h1
      obtain ⟨cs, hcs, htr⟩ := h1
      obtain ⟨_, hl2, hcell⟩ := World.cells?_some hcs
      have hblk := World.cells?_block hcs h0
      obtain ⟨q, rfl, hq⟩ := hE _ _ _ htr fun n hn => hw n (.inr (.inl (T.weights_mem_all (List.mem_map.2 ⟨_, hmem, rfl⟩) n hn)))
      refine ⟨q, ⟨fun t u hu => ?_, hblk⟩, hq⟩
      have ht : t < sz := by rw [← hf q]; exact (List.getElem?_eq_some_iff.1 hu).1
      rw [hcell t ht]; exact hu
    obtain ⟨es, hes, hp⟩ := T.list_of each
    refine ⟨_, _, _, es, rfl, hes, T.rd_elems hf h0 hes hl (fun h0 => ?_) (fun i e he => (hp i e he).1.1), fun x hx => ?_, hlen2⟩
    · have := (hp 0 (es[0]'(by omega)) (List.getElem?_eq_getElem _)).1.2
      rwa [block_add] at this
    · obtain ⟨i, hi, rfl⟩ := List.getElem_of_mem hx
      exact (hp i _ (List.getElem?_eq_getElem hi)).2
/-- An argument. -/
theorem open_arg {t : TypeId} {E : List Value → Prop} (O : Opens enc W t E) {ts : List TypeId} {ds : List (DataW H)} {v : Value} {d : DataW H} {ps : List MemPlace} {j : Nat}
    (hsz : (DataW.weightsEach Tryz.prog ts ds).all (· ≤ reachBytes) = true) (ht : ts[j]? = some t) (hd : ds[j]? = some d) (h : DataW.Trod enc Tryz.prog W 0 (fun _ => true) true t v d ps) : E v.cells.toList := by
  obtain ⟨fuel, hf⟩ := h
  refine O fuel _ _ hf fun n hn => ?_
  have := List.all_eq_true.1 hsz _ (DataW.weights_mem_each ht hd n hn)
  simpa using this
end
end Go.Proofs.YtcemkikgaeghjaaGreatDoor
namespace Go.Proofs.YtcemkikgaeghjaaGreatDoor
open Go.ChangeShapes Go.WideShapes Go.ChangeAt Go.RowKit
section
variable {H : Type} {enc : TypeId × Value → H} {W : World}
/-- What a file's cells are. -/
def FileCells (cs : List Value) : Prop := ∃ f : FV, cs = f.cells ∧ f.path.size ≤ 140737488351232 ∧ f.text.size ≤ 140737488351232
set_option maxRecDepth 100000 in
theorem opens_file : Opens enc W 28 FileCells := by
  refine (opens_struct (E := fun i => match i with | 0 => fun cs => ∃ s : ByteArray, cs = [.string s] ∧ s.size ≤ 140737488351232 | 1 => fun cs => ∃ b : Bool, cs = [.bool b] | _ => fun cs => ∃ s : ByteArray, cs = [.string s] ∧ s.size ≤ 140737488351232) Tryz.underlying28 ?_).mono ?_
  · intro i f hf
    rcases i with _ | _ | _ | i <;> simp at hf
    · subst hf; exact opens_str Tryz.underlying9
    · subst hf; exact opens_bool Tryz.underlying4
    · subst hf; exact opens_str Tryz.underlying9
  · rintro cs ⟨hl, h⟩
    have hl3 : cs.length = 3 := hl
    match cs, hl3 with
    | [a, b, c], _ =>
      obtain ⟨p, e1, h1⟩ := h 0 _ rfl
      obtain ⟨x, e2⟩ := h 1 _ rfl
      obtain ⟨t, e3, h3⟩ := h 2 _ rfl
      have e1' : [a] = [Value.string p] := e1
      have e2' : [b] = [Value.bool x] := e2
      have e3' : [c] = [Value.string t] := e3
      cases e1'
      cases e2'
      cases e3'
      exact ⟨⟨p, x, t⟩, rfl, h1, h3⟩
/-- A slice of files. -/
def FilesCells (W : World) (cs : List Value) : Prop := ∃ (A : Option Addr) (c : Nat) (l : List FV), cs = [.slice A l.length c] ∧ RdF W W.heap.size A l.length c l ∧ l.length ≤ 17592186044416
set_option maxRecDepth 100000 in
theorem opens_files : Opens enc W 22 (FilesCells W) := by
  refine (opens_slice (f := FV.cells) (Q := fun f => f.path.size ≤ 140737488351232 ∧ f.text.size ≤ 140737488351232) Tryz.underlying22 (by kernel_rfl) (bytes := 40) (by kernel_rfl) FV.cells_len (by omega) (opens_file.mono ?_)).mono ?_
  · rintro cs ⟨f, h1, h2, h3⟩; exact ⟨f, h1, h2, h3⟩
  · rintro cs ⟨A, n, c, es, rfl, rfl, hr, hq, hb⟩
    exact ⟨A, c, es, rfl, ⟨hr, rfl, hq⟩, by omega⟩
end
end Go.Proofs.YtcemkikgaeghjaaGreatDoor
namespace Go.Proofs.YtcemkikgaeghjaaGreatDoor
open Go.ChangeShapes Go.WideShapes Go.ChangeAt Go.RowKit
theorem trodAll_four {H : Type} {enc : TypeId × Value → H} {P : Program} {w : World} {base : Nat} {spare : Nat → Bool} {held : Bool} {t0 t1 t2 t3 : TypeId} {args : Array Value} {ds : List (DataW H)} {ps : List MemPlace}
    (h : DataW.TrodAll enc P w base spare held [t0, t1, t2, t3] args.toList ds ps) :
    ∃ v0 v1 v2 v3 d0 d1 d2 d3 p0 p1 p2 p3, args = #[v0, v1, v2, v3] ∧ ds = [d0, d1, d2, d3] ∧ ps = p0 ++ (p1 ++ (p2 ++ p3)) ∧
      DataW.Trod enc P w base spare held t0 v0 d0 p0 ∧ DataW.Trod enc P w base spare held t1 v1 d1 p1 ∧ DataW.Trod enc P w base spare held t2 v2 d2 p2 ∧ DataW.Trod enc P w base spare held t3 v3 d3 p3 := by
  obtain ⟨v0, vs, d0, ds', p0, q, e, rfl, rfl, h0, h⟩ := trodAll_cons h
  obtain ⟨v1, vs, d1, ds', p1, q, rfl, rfl, rfl, h1, h⟩ := trodAll_cons h
  obtain ⟨v2, vs, d2, ds', p2, q, rfl, rfl, rfl, h2, h⟩ := trodAll_cons h
  obtain ⟨v3, vs, d3, ds', p3, q, rfl, rfl, rfl, h3, h⟩ := trodAll_cons h
  obtain ⟨rfl, rfl, rfl⟩ := trodAll_nil h
  exact ⟨v0, v1, v2, v3, d0, d1, d2, d3, p0, p1, p2, p3, Array.ext' e, rfl, by simp, h0, h1, h2, h3⟩
theorem trodAll_five {H : Type} {enc : TypeId × Value → H} {P : Program} {w : World} {base : Nat} {spare : Nat → Bool} {held : Bool} {t0 t1 t2 t3 t4 : TypeId} {args : Array Value} {ds : List (DataW H)} {ps : List MemPlace}
    (h : DataW.TrodAll enc P w base spare held [t0, t1, t2, t3, t4] args.toList ds ps) :
    ∃ v0 v1 v2 v3 v4 d0 d1 d2 d3 d4 p0 p1 p2 p3 p4, args = #[v0, v1, v2, v3, v4] ∧ ds = [d0, d1, d2, d3, d4] ∧ ps = p0 ++ (p1 ++ (p2 ++ (p3 ++ p4))) ∧
      DataW.Trod enc P w base spare held t0 v0 d0 p0 ∧ DataW.Trod enc P w base spare held t1 v1 d1 p1 ∧ DataW.Trod enc P w base spare held t2 v2 d2 p2 ∧ DataW.Trod enc P w base spare held t3 v3 d3 p3 ∧ DataW.Trod enc P w base spare held t4 v4 d4 p4 := by
  obtain ⟨v0, vs, d0, ds', p0, q, e, rfl, rfl, h0, h⟩ := trodAll_cons h
  obtain ⟨v1, vs, d1, ds', p1, q, rfl, rfl, rfl, h1, h⟩ := trodAll_cons h
  obtain ⟨v2, vs, d2, ds', p2, q, rfl, rfl, rfl, h2, h⟩ := trodAll_cons h
  obtain ⟨v3, vs, d3, ds', p3, q, rfl, rfl, rfl, h3, h⟩ := trodAll_cons h
  obtain ⟨v4, vs, d4, ds', p4, q, rfl, rfl, rfl, h4, h⟩ := trodAll_cons h
  obtain ⟨rfl, rfl, rfl⟩ := trodAll_nil h
  exact ⟨v0, v1, v2, v3, v4, d0, d1, d2, d3, d4, p0, p1, p2, p3, p4, Array.ext' e, rfl, by simp, h0, h1, h2, h3, h4⟩
end Go.Proofs.YtcemkikgaeghjaaGreatDoor
namespace Go.Proofs.YtcemkikgaeghjaaGreatDoor
open Go.RowKit

set_option maxRecDepth 100000 in
set_option maxHeartbeats 16000000 in
theorem mergeOne_any {A A' : Option Addr} {n c n' c' : Nat} {l l' : List FV} {w : World} (hn : n ≤ 17592186044416) (hn' : n' ≤ 17592186044416) (hm : Lm w)
    (hl : RdF w w.heap.size A n c l) (hl' : RdF w w.heap.size A' n' c' l') :
    Calls Tryz.prog 4 #[.slice A n c, .slice A' n' c'] w (BoolBelow true w) := by
  have hw : Below w.heap.size w w := Below.refl _ _
  go_enter Tryz.func4, Tryz.ntmps4
  go_wp2_with fail
  refine (few14_b hn hl).mono ?_
  rintro e v1 ⟨rfl, hx⟩
  replace hw := hw.trans (hx.mono hw.size)
  replace hm := hm.below hx hm.lt
  replace hl := hl.to hx hx.size
  replace hl' := hl'.to hx hx.size
  clear hx
  cases few14 l with
  | false =>
    clear hl hl'
    go_wp2_with fail
    refine (awake14_any hm).mono ?_
    rintro e v2 ⟨rfl, hx⟩
    replace hw := hw.trans (hx.mono hw.size)
    replace hm := hm.below hx hm.lt
    clear hx
    go_wp2
    go_ret
    exact ⟨rfl, hw⟩
  | true =>
    go_wp2_with fail
    refine (few14_b hn' hl').mono ?_
    rintro e v3 ⟨rfl, hx⟩
    replace hw := hw.trans (hx.mono hw.size)
    replace hm := hm.below hx hm.lt
    replace hl := hl.to hx hx.size
    replace hl' := hl'.to hx hx.size
    clear hx
    cases few14 l' with
    | false =>
      clear hl hl'
      go_wp2_with fail
      refine (awake14_any hm).mono ?_
      rintro e v4 ⟨rfl, hx⟩
      replace hw := hw.trans (hx.mono hw.size)
      replace hm := hm.below hx hm.lt
      clear hx
      go_wp2
      go_ret
      exact ⟨rfl, hw⟩
    | true =>
      go_wp2_with fail
      refine (playTree_any hn hl).mono ?_
      rintro e v5 ⟨A1, c1, a, rfl, ea, hra, hx⟩
      replace hw := hw.trans (hx.mono hw.size)
      replace hm := hm.below hx hm.lt
      replace hl' := hl'.to hx hx.size
      clear hx
      have hta : treeOk a = true := by rw [ea]; exact playF_ok l
      have hal : a.length ≤ 30 := by rw [ea]; exact playF_len l
      clear ea hl
      go_wp2_with fail
      refine (playTree_any hn' hl').mono ?_
      rintro e v6 ⟨A2, c2, b, rfl, eb, hrb, hx⟩
      replace hw := hw.trans (hx.mono hw.size)
      replace hm := hm.below hx hm.lt
      replace hra := hra.to hx hx.size
      clear hx
      have htb : treeOk b = true := by rw [eb]; exact playF_ok l'
      have hbl : b.length ≤ 30 := by rw [eb]; exact playF_len l'
      clear eb hl'
      have H1 := Lib.hid (treemerge_ours hta htb)
      have H2 := Lib.hid (treemerge_theirs hta htb)
      go_wp2_with fail
      have K := mergeT_any hm (by omega) (by omega) (by omega) hra hra hrb
      rw [H1.out] at K
      refine (K).mono ?_
      rintro e v7 ⟨B1, C1, e1, d1, rfl, hx1, hc1, hx⟩
      replace hw := hw.trans (hx.mono hw.size)
      replace hm := hm.below hx hm.lt
      replace hra := hra.to hx hx.size
      replace hrb := hrb.to hx hx.size
      clear hx
      replace hx1 : RdF v7 v7.heap.size B1 b.length e1 b := hx1
      clear hc1 K
      dsimp only [List.length_nil]
      go_wp2_with fail
      have K := mergeT_any hm (by omega) (by omega) (by omega) hra hrb hra
      rw [H2.out] at K
      refine (K).mono ?_
      rintro e v8 ⟨B2, C2, e2, d2, rfl, hx2, hc2, hx⟩
      replace hw := hw.trans (hx.mono hw.size)
      replace hm := hm.below hx hm.lt
      replace hra := hra.to hx hx.size
      replace hrb := hrb.to hx hx.size
      replace hx1 := hx1.to hx hx.size
      clear hx
      replace hx2 : RdF v8 v8.heap.size B2 b.length e2 b := hx2
      clear hc2 K
      dsimp only [List.length_nil]
      go_wp2_with fail
      refine (awake14_any hm).mono ?_
      rintro e v9 ⟨rfl, hx⟩
      replace hw := hw.trans (hx.mono hw.size)
      replace hm := hm.below hx hm.lt
      replace hrb := hrb.to hx hx.size
      replace hx1 := hx1.to hx hx.size
      replace hx2 := hx2.to hx hx.size
      clear hx
      go_wp2_with fail
      have K := plainF_any (by omega) (by omega) hx1.row hrb.row hx1.len hrb.len
      rw [decide_eq_true rfl] at K
      refine (K).mono ?_
      rintro e v10 ⟨rfl, hx⟩
      replace hw := hw.trans (hx.mono hw.size)
      replace hm := hm.below hx hm.lt
      replace hrb := hrb.to hx hx.size
      replace hx1 := hx1.to hx hx.size
      replace hx2 := hx2.to hx hx.size
      clear hx
      clear K
      go_wp2_with fail
      have K := plainF_any (by omega) (by omega) hx2.row hrb.row hx2.len hrb.len
      rw [decide_eq_true rfl] at K
      refine (K).mono ?_
      rintro e v11 ⟨rfl, hx⟩
      replace hw := hw.trans (hx.mono hw.size)
      replace hm := hm.below hx hm.lt
      replace hrb := hrb.to hx hx.size
      replace hx1 := hx1.to hx hx.size
      replace hx2 := hx2.to hx hx.size
      clear hx
      clear K
      clear hx1 hx2 hrb
      go_wp2
      go_ret
      exact ⟨rfl, hw⟩
end Go.Proofs.YtcemkikgaeghjaaGreatDoor
namespace Go.Proofs.YtcemkikgaeghjaaGreatDoor
open Go.RowKit

theorem put_cases (f : FV) : ∃ (r : List FV) (k : Int), putF [] f = (r, k) ∧ (k = 0 → FileOk f ∧ r = [f]) := by
  by_cases h : FileOk f
  · exact ⟨[f], 0, put_one h, fun _ => ⟨h, rfl⟩⟩
  · obtain ⟨k, e, hk⟩ := put_bad h
    exact ⟨[], k, e, fun e0 => absurd e0 hk⟩
set_option maxRecDepth 100000 in
theorem run_file2 (p t : ByteArray) (w : World) : (Instr.build 28 #[(0, .string p), (2, .string t)]).run Tryz.prog w = .ok (.agg #[.string p, .bool false, .string t]) w := by
  go_simp
set_option maxRecDepth 100000 in
set_option maxHeartbeats 16000000 in
theorem mergeMoves_any {path to_ text more : ByteArray} {exec : Bool} {w : World} (hm : Lm w) (z1 : path.size ≤ 140737488351232) (z2 : to_.size ≤ 140737488351232) (z3 : text.size ≤ 140737488351232) (z4 : more.size ≤ 140737488351232) :
    Calls Tryz.prog 6 #[.string path, .string to_, .string text, .string more, .bool exec] w (BoolBelow true w) := by
  have hw : Below w.heap.size w w := Below.refl _ _
  go_enter Tryz.func6, Tryz.ntmps6
  by_cases q0 : 50 < path.size
  case pos =>
    go_wp2_with fail
    refine (awake14_any hm).mono ?_
    rintro e v1 ⟨rfl, hx⟩
    replace hw := hw.trans (hx.mono hw.size)
    replace hm := hm.below hx hm.lt
    clear hx
    go_wp2
    go_ret
    exact ⟨rfl, hw⟩
  by_cases q1 : 50 < to_.size
  case pos =>
    go_wp2_with fail
    refine (awake14_any hm).mono ?_
    rintro e v1 ⟨rfl, hx⟩
    replace hw := hw.trans (hx.mono hw.size)
    replace hm := hm.below hx hm.lt
    clear hx
    go_wp2
    go_ret
    exact ⟨rfl, hw⟩
  by_cases q2 : 300 < text.size
  case pos =>
    go_wp2_with fail
    refine (awake14_any hm).mono ?_
    rintro e v1 ⟨rfl, hx⟩
    replace hw := hw.trans (hx.mono hw.size)
    replace hm := hm.below hx hm.lt
    clear hx
    go_wp2
    go_ret
    exact ⟨rfl, hw⟩
  by_cases q3 : 100 < more.size
  case pos =>
    go_wp2_with fail
    refine (awake14_any hm).mono ?_
    rintro e v1 ⟨rfl, hx⟩
    replace hw := hw.trans (hx.mono hw.size)
    replace hm := hm.below hx hm.lt
    clear hx
    go_wp2
    go_ret
    exact ⟨rfl, hw⟩
  obtain ⟨text2, et⟩ : ∃ t : ByteArray, t = text ++ ⟨#[10]⟩ := ⟨_, rfl⟩
  have ht2 : text2.size ≤ 301 := by rw [et, ByteArray.size_append]; show text.size + 1 ≤ 301; omega
  have ht3 : text2 ≠ ⟨#[]⟩ := fun e => by
    have h1 : text2.size = text.size + 1 := by rw [et, ByteArray.size_append]; rfl
    rw [e] at h1; cases h1
  have ht4 : (text2 ++ more).size ≤ 401 := by rw [ByteArray.size_append]; omega
  have h2 := fun p t u => run_file2 p t u
  have h3 := fun p t x u => run_file3 p t x u
  have HT := Lib.hid et
  obtain ⟨r1, k1, p1, o1⟩ := put_cases ⟨path, false, text2⟩
  obtain ⟨r2, k2, p2, o2⟩ := put_cases ⟨to_, false, text2⟩
  obtain ⟨r3, k3, p3, o3⟩ := put_cases ⟨path, exec, text2 ++ more⟩
  have O := Lib.hid (And.intro o1 (And.intro o2 o3))
  clear o1 o2 o3
  have K1 := rput_any (f := ⟨path, false, text2⟩) (w := w) (by omega) (RdF.none_ _ _) ⟨z1, by show text2.size ≤ _; omega⟩
  rw [p1] at K1
  have K2 := fun u : World => rput_any (f := ⟨to_, false, text2⟩) (w := u) (by omega) (RdF.none_ _ _) ⟨z2, by show text2.size ≤ _; omega⟩
  simp only [p2] at K2
  have K3 := fun u : World => rput_any (f := ⟨path, exec, text2 ++ more⟩) (w := u) (by omega) (RdF.none_ _ _) ⟨z1, by show (text2 ++ more).size ≤ _; omega⟩
  simp only [p3] at K3
  clear p1 p2 p3
  rw [et] at K1 K2 K3
  clear et
  go_wp2_with fail
  refine (K1).mono ?_
  rintro e v1 ⟨A1, c1, rfl, hr1, hx⟩
  replace hw := hw.trans (hx.mono hw.size)
  replace hm := hm.below hx hm.lt
  clear hx
  clear K1
  dsimp only at hr1 ⊢
  go_wp2_with fail
  refine (K2 _).mono ?_
  rintro e v2 ⟨A2, c2, rfl, hr2, hx⟩
  replace hw := hw.trans (hx.mono hw.size)
  replace hm := hm.below hx hm.lt
  replace hr1 := hr1.to hx hx.size
  clear hx
  clear K2
  dsimp only at hr2 ⊢
  go_wp2_with fail
  refine (K3 _).mono ?_
  rintro e v3 ⟨A3, c3, rfl, hr3, hx⟩
  replace hw := hw.trans (hx.mono hw.size)
  replace hm := hm.below hx hm.lt
  replace hr1 := hr1.to hx hx.size
  replace hr2 := hr2.to hx hx.size
  clear hx
  clear K3
  dsimp only at hr3 ⊢
  by_cases j1 : k1 = 0
  case neg =>
    clear hr1 hr2 hr3 O
    go_wp2_with fail
    refine (awake14_any hm).mono ?_
    rintro e v4 ⟨rfl, hx⟩
    replace hw := hw.trans (hx.mono hw.size)
    replace hm := hm.below hx hm.lt
    clear hx
    go_wp2
    go_ret
    exact ⟨rfl, hw⟩
  by_cases j2 : k2 = 0
  case neg =>
    clear hr1 hr2 hr3 O
    go_wp2_with fail
    refine (awake14_any hm).mono ?_
    rintro e v4 ⟨rfl, hx⟩
    replace hw := hw.trans (hx.mono hw.size)
    replace hm := hm.below hx hm.lt
    clear hx
    go_wp2
    go_ret
    exact ⟨rfl, hw⟩
  by_cases j3 : k3 = 0
  case neg =>
    clear hr1 hr2 hr3 O
    go_wp2_with fail
    refine (awake14_any hm).mono ?_
    rintro e v4 ⟨rfl, hx⟩
    replace hw := hw.trans (hx.mono hw.size)
    replace hm := hm.below hx hm.lt
    clear hx
    go_wp2
    go_ret
    exact ⟨rfl, hw⟩
  obtain ⟨o1, o2, o3⟩ := O.out
  obtain ⟨f1, e1⟩ := o1 j1
  obtain ⟨f2, e2⟩ := o2 j2
  obtain ⟨f3, e3⟩ := o3 j3
  clear o1 o2 o3
  subst j1 j2 j3 e1 e2 e3
  by_cases jp : path = to_
  case pos =>
    have jq : (path.toList == to_.toList) = true := by rw [jp]; exact beq_self_eq_true _
    clear jp
    clear hr1 hr2 hr3 O
    go_wp2_with fail
    refine (awake14_any hm).mono ?_
    rintro e v4 ⟨rfl, hx⟩
    replace hw := hw.trans (hx.mono hw.size)
    replace hm := hm.below hx hm.lt
    clear hx
    go_wp2
    go_ret
    exact ⟨rfl, hw⟩
  have jq := ba_ne jp
  have HD := Lib.hid (moved_ours f1 f2 f3 (show path ≠ to_ from jp) rfl ht3 rfl rfl)
  clear jp f1 f2 f3 ht3 O
  simp only [List.length_cons, List.length_nil, Nat.zero_add]
  rw [HT.out] at HD hr1 hr2 hr3
  replace hr1 : RdF _ _ A1 1 c1 _ := hr1
  replace hr2 : RdF _ _ A2 1 c2 _ := hr2
  replace hr3 : RdF _ _ A3 1 c3 _ := hr3
  go_wp2_with fail
  have K := mergeT_any hm (by omega) (by omega) (by omega) hr1 hr2 hr3
  rw [HD.out.1] at K
  refine (K).mono ?_
  rintro e v4 ⟨B1, C1, b1, d1, rfl, hx1, hc1, hx⟩
  replace hw := hw.trans (hx.mono hw.size)
  replace hm := hm.below hx hm.lt
  replace hr1 := hr1.to hx hx.size
  replace hr2 := hr2.to hx hx.size
  replace hr3 := hr3.to hx hx.size
  clear hx
  replace hx1 : RdF v4 v4.heap.size B1 1 b1 [⟨to_, exec, (text ++ ⟨#[10]⟩) ++ more⟩] := hx1
  clear hc1 K
  simp only [List.length_cons, List.length_nil, Nat.zero_add]
  go_wp2_with fail
  have K := mergeT_any hm (by omega) (by omega) (by omega) hr1 hr3 hr2
  rw [HD.out.2] at K
  refine (K).mono ?_
  rintro e v5 ⟨B2, C2, b2, d2, rfl, hx2, hc2, hx⟩
  replace hw := hw.trans (hx.mono hw.size)
  replace hm := hm.below hx hm.lt
  replace hr1 := hr1.to hx hx.size
  replace hr2 := hr2.to hx hx.size
  replace hr3 := hr3.to hx hx.size
  replace hx1 := hx1.to hx hx.size
  clear hx
  replace hx2 : RdF v5 v5.heap.size B2 1 b2 [⟨to_, exec, (text ++ ⟨#[10]⟩) ++ more⟩] := hx2
  clear hc2 K
  simp only [List.length_cons, List.length_nil, Nat.zero_add]
  clear hr1 hr2 hr3 HD
  obtain ⟨V, hV⟩ : ∃ u, u = v5.alloc (.cells #[.string to_, .bool exec, .string ((text ++ ⟨#[10]⟩) ++ more)] 28) := ⟨_, rfl⟩
  have hx : Below v5.heap.size v5 V := by rw [hV]; exact (Below.refl _ _).alloc (Nat.le_refl _) _
  have hwt : RdF V V.heap.size (some ⟨v5.heap.size, 0, none⟩) 1 1 [⟨to_, exec, (text ++ ⟨#[10]⟩) ++ more⟩] := by rw [hV]; exact rdF_new v5 [⟨to_, exec, (text ++ ⟨#[10]⟩) ++ more⟩] _ rfl (fun x hx => by simp only [List.mem_singleton] at hx; subst hx; rw [HT.out] at ht4; exact ⟨z2, by show ((text ++ ⟨#[10]⟩) ++ more).size ≤ _; omega⟩)
  replace hw := hw.trans (hx.mono hw.size)
  replace hm := hm.below hx hm.lt
  replace hx1 := hx1.to hx hx.size
  replace hx2 := hx2.to hx hx.size
  clear hx
  have KA := awake14_any hm
  rw [hV] at KA
  replace hV := Lib.hid hV
  go_wp2_with fail
  refine KA.mono ?_
  rintro e v6 ⟨rfl, hx⟩
  rw [← hV.out] at hx
  replace hw := hw.trans (hx.mono hw.size)
  replace hm := hm.below hx hm.lt
  replace hx1 := hx1.to hx hx.size
  replace hx2 := hx2.to hx hx.size
  replace hwt := hwt.to hx hx.size
  clear hx KA h2 h3
  go_wp2_with fail
  have K := plainF_any (by omega) (by omega) hx1.row hwt.row hx1.len hwt.len
  rw [decide_eq_true rfl] at K
  refine (K).mono ?_
  rintro e v7 ⟨rfl, hx⟩
  replace hw := hw.trans (hx.mono hw.size)
  replace hm := hm.below hx hm.lt
  replace hx1 := hx1.to hx hx.size
  replace hx2 := hx2.to hx hx.size
  replace hwt := hwt.to hx hx.size
  clear hx
  clear K
  go_wp2_with fail
  have K := plainF_any (by omega) (by omega) hx2.row hwt.row hx2.len hwt.len
  rw [decide_eq_true rfl] at K
  refine (K).mono ?_
  rintro e v8 ⟨rfl, hx⟩
  replace hw := hw.trans (hx.mono hw.size)
  replace hm := hm.below hx hm.lt
  replace hx1 := hx1.to hx hx.size
  replace hx2 := hx2.to hx hx.size
  replace hwt := hwt.to hx hx.size
  clear hx
  clear K
  clear hx1 hx2 hwt
  go_wp2
  go_ret
  exact ⟨rfl, hw⟩
end Go.Proofs.YtcemkikgaeghjaaGreatDoor
namespace Go.Proofs.YtcemkikgaeghjaaGreatDoor
open Go.RowKit

/-- One clash in memory, cell by cell. -/
theorem rd_clash1 {w : World} {B d : Nat} {C : Option Addr} {x : CL} (h : Rd w B 3 C 1 d ([x].flatMap CL.cells)) :
    ∃ b o, C = some ⟨b, o, none⟩ ∧ b < B ∧ w.cell? ⟨b, o, none⟩ = some (.string x.path) ∧ w.cell? ⟨b, o + 1, none⟩ = some (.int .i64 x.kind) ∧ w.cell? ⟨b, o + 2, none⟩ = some (.string x.text) := by
  obtain ⟨b, o, a, e, hb, hx, _, hc⟩ := T.rd_flat CL.cells_len (by decide) h (show [x].length = 1 from rfl) (show 0 < 1 by decide)
  injection hx with hx
  subst hx
  exact ⟨b, o, e, hb, by simpa using hc 0 _ rfl, by simpa using hc 1 _ rfl, by simpa using hc 2 _ rfl⟩
theorem rd_file1 {w : World} {B d : Nat} {C : Option Addr} {x : FV} (h : RdF w B C 1 d [x]) :
    ∃ b o, C = some ⟨b, o, none⟩ ∧ b < B ∧ w.cell? ⟨b, o, none⟩ = some (.string x.path) ∧ w.cell? ⟨b, o + 1, none⟩ = some (.bool x.exec) ∧ w.cell? ⟨b, o + 2, none⟩ = some (.string x.text) := by
  obtain ⟨b, o, a, e, hb, hx, _, h0, h1, h2⟩ := h.get (k := 0) (by decide)
  injection hx with hx
  subst hx
  exact ⟨b, o, e, hb, by simpa using h0, by simpa using h1, by simpa using h2⟩
set_option maxRecDepth 100000 in
set_option maxHeartbeats 16000000 in
theorem mergeAdds_any {p q x y : ByteArray} {w : World} (hm : Lm w) (z1 : p.size ≤ 140737488351232) (z2 : q.size ≤ 140737488351232) (z3 : x.size ≤ 140737488351232) (z4 : y.size ≤ 140737488351232) :
    Calls Tryz.prog 8 #[.string p, .string q, .string x, .string y] w (BoolBelow true w) := by
  have hw : Below w.heap.size w w := Below.refl _ _
  go_enter Tryz.func8, Tryz.ntmps8
  by_cases q0 : 40 < p.size
  case pos =>
    go_wp2_with fail
    refine (awake14_any hm).mono ?_
    rintro e v1 ⟨rfl, hx⟩
    replace hw := hw.trans (hx.mono hw.size)
    replace hm := hm.below hx hm.lt
    clear hx
    go_wp2
    go_ret
    exact ⟨rfl, hw⟩
  by_cases q1 : 40 < q.size
  case pos =>
    go_wp2_with fail
    refine (awake14_any hm).mono ?_
    rintro e v1 ⟨rfl, hx⟩
    replace hw := hw.trans (hx.mono hw.size)
    replace hm := hm.below hx hm.lt
    clear hx
    go_wp2
    go_ret
    exact ⟨rfl, hw⟩
  by_cases q2 : 200 < x.size
  case pos =>
    go_wp2_with fail
    refine (awake14_any hm).mono ?_
    rintro e v1 ⟨rfl, hx⟩
    replace hw := hw.trans (hx.mono hw.size)
    replace hm := hm.below hx hm.lt
    clear hx
    go_wp2
    go_ret
    exact ⟨rfl, hw⟩
  by_cases q3 : 200 < y.size
  case pos =>
    go_wp2_with fail
    refine (awake14_any hm).mono ?_
    rintro e v1 ⟨rfl, hx⟩
    replace hw := hw.trans (hx.mono hw.size)
    replace hm := hm.below hx hm.lt
    clear hx
    go_wp2
    go_ret
    exact ⟨rfl, hw⟩
  have h2 := fun p t u => run_file2 p t u
  obtain ⟨r1, k1, p1, o1⟩ := put_cases ⟨p, false, x⟩
  obtain ⟨r2, k2, p2, o2⟩ := put_cases ⟨p, false, y⟩
  obtain ⟨r3, k3, p3, o3⟩ := put_cases ⟨q, false, y⟩
  have O := Lib.hid (And.intro o1 (And.intro o2 o3))
  clear o1 o2 o3
  have K1 := rput_any (f := ⟨p, false, x⟩) (w := w) (by omega) (RdF.none_ _ _) ⟨z1, z3⟩
  rw [p1] at K1
  have K2 := fun u : World => rput_any (f := ⟨p, false, y⟩) (w := u) (by omega) (RdF.none_ _ _) ⟨z1, z4⟩
  simp only [p2] at K2
  have K3 := fun u : World => rput_any (f := ⟨q, false, y⟩) (w := u) (by omega) (RdF.none_ _ _) ⟨z2, z4⟩
  simp only [p3] at K3
  clear p1 p2 p3
  go_wp2_with fail
  refine (K1).mono ?_
  rintro e v1 ⟨A1, c1, rfl, hr1, hx⟩
  replace hw := hw.trans (hx.mono hw.size)
  replace hm := hm.below hx hm.lt
  clear hx
  clear K1
  dsimp only at hr1 ⊢
  go_wp2_with fail
  refine (K2 _).mono ?_
  rintro e v2 ⟨A2, c2, rfl, hr2, hx⟩
  replace hw := hw.trans (hx.mono hw.size)
  replace hm := hm.below hx hm.lt
  replace hr1 := hr1.to hx hx.size
  clear hx
  clear K2
  dsimp only at hr2 ⊢
  go_wp2_with fail
  refine (K3 _).mono ?_
  rintro e v3 ⟨A3, c3, rfl, hr3, hx⟩
  replace hw := hw.trans (hx.mono hw.size)
  replace hm := hm.below hx hm.lt
  replace hr1 := hr1.to hx hx.size
  replace hr2 := hr2.to hx hx.size
  clear hx
  clear K3
  dsimp only at hr3 ⊢
  by_cases j1 : k1 = 0
  case neg =>
    clear hr1 hr2 hr3 O
    go_wp2_with fail
    refine (awake14_any hm).mono ?_
    rintro e v4 ⟨rfl, hx⟩
    replace hw := hw.trans (hx.mono hw.size)
    replace hm := hm.below hx hm.lt
    clear hx
    go_wp2
    go_ret
    exact ⟨rfl, hw⟩
  by_cases j2 : k2 = 0
  case neg =>
    clear hr1 hr2 hr3 O
    go_wp2_with fail
    refine (awake14_any hm).mono ?_
    rintro e v4 ⟨rfl, hx⟩
    replace hw := hw.trans (hx.mono hw.size)
    replace hm := hm.below hx hm.lt
    clear hx
    go_wp2
    go_ret
    exact ⟨rfl, hw⟩
  by_cases j3 : k3 = 0
  case neg =>
    clear hr1 hr2 hr3 O
    go_wp2_with fail
    refine (awake14_any hm).mono ?_
    rintro e v4 ⟨rfl, hx⟩
    replace hw := hw.trans (hx.mono hw.size)
    replace hm := hm.below hx hm.lt
    clear hx
    go_wp2
    go_ret
    exact ⟨rfl, hw⟩
  obtain ⟨o1, o2, o3⟩ := O.out
  obtain ⟨f1, e1⟩ := o1 j1
  obtain ⟨f2, e2⟩ := o2 j2
  obtain ⟨f3, e3⟩ := o3 j3
  clear o1 o2 o3
  subst j1 j2 j3 e1 e2 e3
  simp only [List.length_cons, List.length_nil, Nat.zero_add]
  replace hr1 : RdF _ _ A1 1 c1 _ := hr1
  replace hr2 : RdF _ _ A2 1 c2 _ := hr2
  replace hr3 : RdF _ _ A3 1 c3 _ := hr3
  by_cases jx : x = y
  case pos =>
    subst jx
    have HD := Lib.hid (add_same f1)
    have jq : (x.toList == x.toList) = true := beq_self_eq_true _
    clear hr3
    go_wp2_with fail
    have K := mergeT_any hm (by omega) (by omega) (by omega) (RdF.none_ _ _) hr1 hr2
    rw [HD.out] at K
    refine (K).mono ?_
    rintro e v4 ⟨B1, C1, b1, d1, rfl, hx1, hc1, hx⟩
    replace hw := hw.trans (hx.mono hw.size)
    replace hm := hm.below hx hm.lt
    replace hr1 := hr1.to hx hx.size
    replace hr2 := hr2.to hx hx.size
    clear hx
    replace hx1 : RdF v4 v4.heap.size B1 1 b1 [⟨p, false, x⟩] := hx1
    simp only [List.length_cons, List.length_nil, Nat.zero_add]
    clear K
    clear hc1
    go_wp2_with fail
    refine (awake14_any hm).mono ?_
    rintro e v5 ⟨rfl, hx⟩
    replace hw := hw.trans (hx.mono hw.size)
    replace hm := hm.below hx hm.lt
    replace hr1 := hr1.to hx hx.size
    replace hx1 := hx1.to hx hx.size
    clear hx
    go_wp2_with fail
    have K := plainF_any (by omega) (by omega) hx1.row hr1.row hx1.len hr1.len
    rw [decide_eq_true rfl] at K
    refine (K).mono ?_
    rintro e v6 ⟨rfl, hx⟩
    replace hw := hw.trans (hx.mono hw.size)
    replace hm := hm.below hx hm.lt
    replace hr1 := hr1.to hx hx.size
    replace hx1 := hx1.to hx hx.size
    clear hx
    clear K
    go_wp2
    go_ret
    exact ⟨rfl, hw⟩
  have jq := ba_ne jx
  have hR := merge3_len ⟨#[]⟩ x y
  have hR0 : (⟨#[]⟩ : ByteArray).size = 0 := rfl
  have HD := Lib.hid (add_unlike (u := ⟨p, false, x⟩) (v := ⟨p, false, y⟩) f1 f2 rfl (fun e => jx (congrArg FV.text e)) (by show (merge3F ⟨#[]⟩ x y).1.size ≤ 20000; omega))
  go_wp2_with fail
  have K := mergeT_any hm (by omega) (by omega) (by omega) (RdF.none_ _ _) hr1 hr2
  rw [HD.out] at K
  refine (K).mono ?_
  rintro e v4 ⟨B1, C1, b1, d1, rfl, hx1, hc1, hx⟩
  replace hw := hw.trans (hx.mono hw.size)
  replace hm := hm.below hx hm.lt
  replace hr1 := hr1.to hx hx.size
  replace hr2 := hr2.to hx hx.size
  replace hr3 := hr3.to hx hx.size
  clear hx
  replace hx1 : RdF v4 v4.heap.size B1 1 b1 [⟨p, false, (merge3F ⟨#[]⟩ x y).1⟩] := hx1
  replace hc1 : Rd v4 v4.heap.size 3 C1 1 d1 ([(⟨p, 2, (merge3F ⟨#[]⟩ x y).1⟩ : CL)].flatMap CL.cells) := hc1
  simp only [List.length_cons, List.length_nil, Nat.zero_add]
  clear K
  have HRR := Lib.hid (show (merge3F ⟨#[]⟩ x y).1.size ≤ 20000 by omega)
  clear hR hR0 hr2
  have HJ := Lib.hid jx
  clear jx
  generalize (merge3F ⟨#[]⟩ x y).1 = R at *
  obtain ⟨cb, co, rfl, hcb, g0, g1, g2⟩ := rd_clash1 hc1
  obtain ⟨fb, fo, rfl, hfb, i0, i1, i2⟩ := rd_file1 hx1
  clear hc1 hx1
  go_wp2
  refine wp_region_q (fun u => Below v4.heap.size v4 u) [(true, 0), (true, 1), (true, 2), (true, 3), (true, 4), (true, 5), (true, 6), (true, 7), (true, 8), (true, 9), (true, 10), (true, 11), (true, 12), (true, 13), (true, 14), (true, 15), (true, 16), (true, 17), (true, 18), (true, 19), (true, 20), (true, 21), (true, 22), (true, 23), (true, 24), (true, 25), (true, 26), (true, 27), (true, 28), (true, 29), (true, 30), (true, 31), (true, 32), (true, 33), (true, 34), (true, 35), (true, 36), (true, 37)] mixed (by kernel_rfl) (Below.refl _ _).drew ?_
  intro T M Q hT hT' hM hQ
  have m0 : M ⟨cb, co, none⟩ = some (.string p) := hM _ _ fun w' hw => (hw.cell (p := ⟨cb, co, none⟩) hcb).trans g0
  have m1 : M ⟨cb, co + 1, none⟩ = some (.int .i64 2) := hM _ _ fun w' hw => (hw.cell (p := ⟨cb, co + 1, none⟩) hcb).trans g1
  have m2 : M ⟨cb, co + 2, none⟩ = some (.string R) := hM _ _ fun w' hw => (hw.cell (p := ⟨cb, co + 2, none⟩) hcb).trans g2
  have m3 : M ⟨fb, fo + 2, none⟩ = some (.string R) := hM _ _ fun w' hw => (hw.cell (p := ⟨fb, fo + 2, none⟩) hfb).trans i2
  clear hM
  have u1 : (p.toList == p.toList) = true := beq_self_eq_true _
  have u2 : (R.toList == R.toList) = true := beq_self_eq_true _
  have u3 : decide (((1 : Nat) : Int) = 1) = true := by decide
  simp only [qcmp]
  simp (maxSteps := 5000000) only [↓qpre, qpost, qfacts, qnorm, m0, m1, m2, m3, u3]
  (repeat (refine And.intro (by first | omega | (unfold inI64; omega)) ?_))
  refine hQ _ _ ?_
  clear hQ hT hT' m0 m1 m2 m3 u1 u2 u3 g0 g1 g2 i0 i1 i2 hcb hfb
  have hx : Below v4.heap.size v4 v4.drew := (Below.refl _ _).drew
  replace hw := hw.trans (hx.mono hw.size)
  replace hm := hm.below hx hm.lt
  replace hr1 := hr1.to hx hx.size
  replace hr3 := hr3.to hx hx.size
  clear hx
  by_cases jp : p = q
  case pos =>
    have jq2 : (p.toList == q.toList) = true := by rw [jp]; exact beq_self_eq_true _
    have hR := merge3_len ⟨#[]⟩ x y
    have hR0 : (⟨#[]⟩ : ByteArray).size = 0 := rfl
    have HD2 := Lib.hid (add_unlike (u := ⟨p, false, x⟩) (v := ⟨q, false, y⟩) f1 f3 jp.symm (fun e => HJ.out (congrArg FV.text e)) (by show (merge3F ⟨#[]⟩ x y).1.size ≤ 20000; omega))
    clear jp
    go_wp2_with fail
    have K := mergeT_any hm (by omega) (by omega) (by omega) (RdF.none_ _ _) hr1 hr3
    rw [HD2.out] at K
    refine (K).mono ?_
    rintro e v5 ⟨B2, C2, b2, d2, rfl, hx2, hc2, hx⟩
    replace hw := hw.trans (hx.mono hw.size)
    replace hm := hm.below hx hm.lt
    replace hr1 := hr1.to hx hx.size
    replace hr3 := hr3.to hx hx.size
    clear hx
    simp only [List.length_cons, List.length_nil, Nat.zero_add]
    clear K
    clear hx2 hc2 hr1 hr3
    go_wp2_with fail
    refine (awake14_any hm).mono ?_
    rintro e v6 ⟨rfl, hx⟩
    replace hw := hw.trans (hx.mono hw.size)
    replace hm := hm.below hx hm.lt
    clear hx
    go_wp2
    go_ret
    exact ⟨rfl, hw⟩
  have jq2 := ba_ne jp
  have HP := Lib.hid jp
  clear jp
  cases hcl : clashP p.data.toList q.data.toList with
  | true =>
    have HD2 := Lib.hid (add_clash (u := ⟨p, false, x⟩) (v := ⟨q, false, y⟩) f1 f3 (fun e => HP.out e.symm) hcl)
    have KC := fun u : World => rclash_any (p := p) (d := q) (w := u) (by unfold maxLen; omega) (by unfold maxLen; omega)
    rw [hcl] at KC
    clear hcl
    go_wp2_with fail
    have K := mergeT_any hm (by omega) (by omega) (by omega) (RdF.none_ _ _) hr1 hr3
    rw [HD2.out] at K
    refine (K).mono ?_
    rintro e v5 ⟨B2, C2, b2, d2, rfl, hx2, hc2, hx⟩
    replace hw := hw.trans (hx.mono hw.size)
    replace hm := hm.below hx hm.lt
    replace hr1 := hr1.to hx hx.size
    replace hr3 := hr3.to hx hx.size
    clear hx
    replace hx2 : RdF v5 v5.heap.size B2 1 b2 [⟨p, false, x⟩] := hx2
    replace hc2 : Rd v5 v5.heap.size 3 C2 1 d2 ([(⟨q, 5, y⟩ : CL)].flatMap CL.cells) := hc2
    simp only [List.length_cons, List.length_nil, Nat.zero_add]
    clear K
    clear hx2 hr1 hr3
    go_wp2_with fail
    refine (KC _).mono ?_
    rintro e u9 ⟨rfl, rfl⟩
    clear KC
    go_wp2_with fail
    refine (awake14_any hm).mono ?_
    rintro e v6 ⟨rfl, hx⟩
    replace hw := hw.trans (hx.mono hw.size)
    replace hm := hm.below hx hm.lt
    replace hc2 := hc2.to hx hx.size
    clear hx
    obtain ⟨kb, ko, rfl, hkb, g0, g1, g2⟩ := rd_clash1 hc2
    clear hc2
    go_wp2
    go_ret
    exact ⟨rfl, hw⟩
  | false =>
    have HD2 := Lib.hid (add_both (u := ⟨p, false, x⟩) (v := ⟨q, false, y⟩) f1 f3 hcl)
    have KC := fun u : World => rclash_any (p := p) (d := q) (w := u) (by unfold maxLen; omega) (by unfold maxLen; omega)
    rw [hcl] at KC
    clear hcl
    go_wp2_with fail
    have K := mergeT_any hm (by omega) (by omega) (by omega) (RdF.none_ _ _) hr1 hr3
    refine (K).mono ?_
    rintro e v5 ⟨B2, C2, b2, d2, rfl, hx2, hc2, hx⟩
    replace hw := hw.trans (hx.mono hw.size)
    replace hm := hm.below hx hm.lt
    replace hr1 := hr1.to hx hx.size
    replace hr3 := hr3.to hx hx.size
    clear hx
    clear K hx2 hc2 hr1 hr3
    rw [HD2.out.1, HD2.out.2]
    simp only [List.length_nil]
    go_wp2_with fail
    refine (KC _).mono ?_
    rintro e u9 ⟨rfl, rfl⟩
    clear KC
    go_wp2_with fail
    refine (awake14_any hm).mono ?_
    rintro e v6 ⟨rfl, hx⟩
    replace hw := hw.trans (hx.mono hw.size)
    replace hm := hm.below hx hm.lt
    clear hx
    go_wp2
    go_ret
    exact ⟨rfl, hw⟩
end Go.Proofs.YtcemkikgaeghjaaGreatDoor
