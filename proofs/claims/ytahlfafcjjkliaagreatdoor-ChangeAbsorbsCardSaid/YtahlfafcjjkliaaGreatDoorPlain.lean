/- The row of a law that answers true and leaves its arguments: one closer for all of them; a slice of strings opened. -/
import Derived.Test.YtahlfafcjjkliaaGreatDoorBase
import Derived.Test.YtahlfafcjjkliaaGreatDoorRows
import Derived.ProofKit
import Derived.SizedLaws
import Derived.SliceStrings
namespace Go.Proofs.YtahlfafcjjkliaaGreatDoor
open Go.ChangeShapes Go.WideShapes Go.ChangeAt Go.RowKit

theorem Tryz.own : ownKnob Tryz.prog.godebug = none := by kernel_rfl
theorem Tryz.laidOut : laidOutB Tryz.prog = true := by kernel_rfl

section
variable {H : Type} {enc : TypeId × Value → H}

/-- Arguments that no one wrote read as they read. -/
theorem trodAll_below {P : Program} (hl : laidOutB P = true) {W W' : World} (hb : Below W.heap.size W W') : ∀ {ts : List TypeId} {vs : List Value} {ds : List (DataW H)} {ps : List MemPlace},
    (ts.all fun t => P.readableRec t && decide (t < P.types.size)) = true →
    DataW.TrodAll enc P W 0 (fun _ => true) true ts vs ds ps → (∀ x ∈ ps, x.block < W.heap.size) →
    DataW.TrodAll enc P W' 0 (fun b => decide (b < W.heap.size)) true ts vs ds ps
  | [], vs, ds, ps, _, h, _ => by
    obtain ⟨rfl, rfl, rfl⟩ := trodAll_nil h
    exact trodAll_mk0
  | t :: ts, vs, ds, ps, hr, h, hlt => by
    obtain ⟨v, vs', d, ds', p, q, rfl, rfl, rfl, hd, hrest⟩ := trodAll_cons h
    simp only [List.all_cons, Bool.and_eq_true, decide_eq_true_eq] at hr
    obtain ⟨⟨h1, h2⟩, h3⟩ := hr
    exact ⟨p, q, Below.trod hl h1 h2 hd hb (fun x hx => hlt x (by simp [hx])), trodAll_below hl hb h3 hrest (fun x hx => hlt x (by simp [hx])), rfl⟩

/-- The end of every such row. -/
theorem post_true {f : Func} {s : ChangeSpec} {W : World} {args : Array Value} {ds : List (DataW H)} {p : List MemPlace}
    (hW : DataW.Whole enc Tryz.prog f.params.toList s.vars false W args.toList ds [] (p ++ []))
    (hA : DataW.TrodAll enc Tryz.prog W 0 (fun _ => true) true f.params.toList args.toList ds p)
    (hv : s.vars = []) (hrt : f.resultTypes = #[4]) (hts : (f.params.toList.all fun t => Tryz.prog.readableRec t && decide (t < Tryz.prog.types.size)) = true)
    (er : (s.fn H (ds ++ [])).results = [.lit (.bool true)]) (ea : (s.fn H (ds ++ [])).args = ds) (ev : (s.fn H (ds ++ [])).vars = [])
    {e : Ending} {W' : World} (h : BoolBelow true W e W') :
    ∃ v, e = .returned v ∧ s.post enc Tryz.prog f false true false false W args v W' := by
  obtain ⟨rfl, hb⟩ := h
  refine ⟨_, rfl, _, _, _, [] ++ [], p, [], hW, ?_, ?_, ?_, hb.frame _, fun h => by cases h⟩
  · rw [er, hrt]; exact trodAll_mk1 (shut_bool (by kernel_rfl) true)
  · rw [ea]
    exact trodAll_below Tryz.laidOut hb hts hA (fun x hx => by simpa using hW.lt x (by simp [hx]))
  · rw [ev, hv]; rfl

theorem size_toList (s : ByteArray) : s.data.toList.length = s.size := rfl

theorem weights_mem_all {P : Program} {e : TypeId} : ∀ {ds : List (DataW H)} {d : DataW H}, d ∈ ds → ∀ n ∈ d.weights P e, n ∈ DataW.weightsAll P e ds
  | d0 :: ds, d, hd, n, hn => by
    simp only [DataW.weightsAll, List.mem_append]
    rcases List.mem_cons.1 hd with rfl | hd
    · exact .inl hn
    · exact .inr (weights_mem_all hd n hn)
  | [], _, hd, _, _ => by cases hd

set_option maxRecDepth 100000 in
/-- A slice of strings among the arguments. -/
theorem open_strs {ts : List TypeId} {ds : List (DataW H)} {W : World} {t : TypeId} {v : Value} {d : DataW H} {ps : List MemPlace} {j b0 : Nat} (hu : Tryz.prog.underlying t = some (.slice 9))
    (hsz : (DataW.weightsEach Tryz.prog ts ds).all (· ≤ reachBytes) = true) (ht : ts[j]? = some t) (hd : ds[j]? = some d)
    (hval : Value.okWide Tryz.prog W .any b0 t v) (h : DataW.Trod enc Tryz.prog W 0 (fun _ => true) true t v d ps) (hlt : ∀ x ∈ ps, x.block < W.heap.size) :
    ∃ (A : Option Addr) (n c : Nat) (l : List ByteArray), v = .slice A n c ∧ Rd W W.heap.size 1 A n c (l.map .string) ∧ c * 16 ≤ 140737488351232 ∧ ∀ s ∈ l, s.size ≤ 140737488351232 := by
  obtain ⟨a0, len, cap, rfl⟩ := okWide_slice hu hval
  obtain ⟨fuel, hf⟩ := h
  rcases open_strings hu (by kernel_rfl) (by kernel_rfl) hf with ⟨hcs, hx⟩ | ⟨a, len', cap', ss, hcs, _, hl, hm, hz, hx, hcell, hws⟩
  · simp [Value.cells] at hcs
    obtain ⟨rfl, rfl, rfl⟩ := hcs
    exact ⟨none, 0, 0, [], rfl, Rd.none_ _ _ _, by decide, by simp⟩
  · simp [Value.cells] at hcs
    obtain ⟨rfl, rfl, rfl⟩ := hcs
    simp only [Prod.mk.injEq] at hx
    obtain ⟨rfl, rfl⟩ := hx
    simp only [if_true] at hz
    have hb16 : Tryz.prog.bytesOf 9 = 16 := by kernel_rfl
    refine ⟨_, _, _, ss.take len, rfl, ⟨by simp; omega, hl, fun hn => ?_⟩, ?_, ?_⟩
    · obtain ⟨b, off, spot⟩ := a
      have hspot : spot = none := by simpa [Addr.add] using World.cell?_spot (hcell 0 (by omega))
      subst hspot
      refine ⟨b, off, rfl, hlt (.cell b off) (MemPlace.mem_row.2 ⟨0, by omega, by simp⟩), fun j u hu' => ?_⟩
      rw [List.getElem?_map, List.getElem?_take] at hu'
      split at hu'
      · rename_i hj
        have := hcell j (by omega)
        rw [add_plain] at this
        rw [this, List.getD]
        cases hs : ss[j]? with
        | none => rw [hs] at hu'; cases hu'
        | some s => rw [hs] at hu'; simpa using hu'
      · cases hu'
    · have := sized_slice hsz (j := j) (t := t) (e := 9) ht hd hu
      rw [hb16] at this
      simp only [strs, List.length_map, List.length_take, List.length_drop, reachBytes] at this
      omega
    · intro s hs
      have := List.all_eq_true.1 hsz _ (DataW.weights_mem_each ht hd s.data.toList.length (by
        simp only [DataW.weights, hu, List.mem_cons, List.mem_append]
        refine .inr (.inl (weights_mem_all (d := .lit (.string s.data.toList)) (by
          simp only [strs, List.mem_map]; exact ⟨s, hs, rfl⟩) _ (by simp [DataW.weights])))))
      have h2 : s.data.toList.length ≤ reachBytes := by simpa using this
      have h3 : s.data.toList.length = s.size := size_toList s
      simp only [reachBytes] at h2
      omega

set_option maxRecDepth 100000 in
theorem open_str {ts : List TypeId} {ds : List (DataW H)} {W : World} {t : TypeId} {v : Value} {d : DataW H} {ps : List MemPlace} {j b0 : Nat} (hu : Tryz.prog.underlying t = some .string)
    (hsz : (DataW.weightsEach Tryz.prog ts ds).all (· ≤ reachBytes) = true) (ht : ts[j]? = some t) (hd : ds[j]? = some d)
    (hval : Value.okWide Tryz.prog W .any b0 t v) (h : DataW.Trod enc Tryz.prog W 0 (fun _ => true) true t v d ps) :
    ∃ s : ByteArray, v = .string s ∧ s.size ≤ 140737488351232 := by
  obtain ⟨s, rfl, rfl, rfl, _⟩ := Go.ChangeMaps.open_string hu hval h
  have h2 := sized_string hsz ht hd
  have h3 : s.data.toList.length = s.size := size_toList s
  simp only [reachBytes] at h2
  exact ⟨s, rfl, by omega⟩
end
end Go.Proofs.YtahlfafcjjkliaaGreatDoor
