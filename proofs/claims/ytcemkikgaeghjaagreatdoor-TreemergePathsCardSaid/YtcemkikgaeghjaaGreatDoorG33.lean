/- Texts of the walks, together: Walk: slices.SortFunc of files. Plain laws: what three small trees come to is a tree. Walk: treemerge.Merge. Lists of clashes: held against each other. Plain law: where nothing was renamed, and nothing clashes, the whole is at each path as the sides say. Plain laws: one file moved, deleted, added. -/
import Derived.Test.YtcemkikgaeghjaaGreatDoorG10
import Derived.Test.YtcemkikgaeghjaaGreatDoorG11
import Derived.Test.YtcemkikgaeghjaaGreatDoorG32
namespace Go.Proofs.YtcemkikgaeghjaaGreatDoor
open Go.RowKit Go.Sort

def cmpF (x y : FV) : Int := cmpS x.path y.path
theorem grow2 (u : World) (a b : Obj) : (u.alloc a).alloc b = Sort.grow (u.drewN 0) #[a, b] := by
  have : (u.heap.push a).push b = u.heap ++ #[a, b] := by
    apply Array.toList_inj.1; simp
  unfold World.alloc World.drewN Sort.grow
  simp only [this]
  rfl
set_option maxRecDepth 100000 in
theorem cmpF_any {x y : FV} {w : World} : Calls Tryz.prog 30 #[.agg #[.string x.path, .bool x.exec, .string x.text], .agg #[.string y.path, .bool y.exec, .string y.text]] w (GrowsI (cmpF x y) w) := by
  have hb1 : Below w.heap.size w (w.alloc (.cells #[.string x.path, .bool x.exec, .string x.text] 28)) := (Below.refl _ _).alloc (Nat.le_refl _) _
  have X := (BoxF.new w x).below (w' := (w.alloc (.cells #[.string x.path, .bool x.exec, .string x.text] 28)).alloc (.cells #[.string y.path, .bool y.exec, .string y.text] 28)) ((Below.refl _ _).alloc (Nat.le_refl _) _)
  have Y := BoxF.new (w.alloc (.cells #[.string x.path, .bool x.exec, .string x.text] 28)) y
  have c0 := X.c0
  have c1 := Y.c0
  have e1 : (w.alloc (.cells #[.string x.path, .bool x.exec, .string x.text] 28)).heap.size = w.heap.size + 1 := by simp
  rw [e1] at c1
  have K := compareS_any (a := x.path) (b := y.path) (w := (w.alloc (.cells #[.string x.path, .bool x.exec, .string x.text] 28)).alloc (.cells #[.string y.path, .bool y.exec, .string y.text] 28))
  have HG := Lib.hid (grow2 w (.cells #[.string x.path, .bool x.exec, .string x.text] 28) (.cells #[.string y.path, .bool y.exec, .string y.text] 28))
  clear hb1 X Y e1
  go_enter Tryz.func30, Tryz.ntmps30
  go_wp2_with fail
  refine K.mono ?_
  rintro e w1 ⟨rfl, rfl⟩
  clear K c0 c1
  go_wp2
  go_ret
  exact ⟨rfl, 0, _, HG.out⟩
theorem swoF : SWO (ltOf cmpF) where
  irrefl x := by unfold ltOf; rw [decide_eq_false]; unfold cmpF; rw [cmpS_neg]; exact List.lt_irrefl _
  trans x y z h1 h2 := by
    unfold ltOf cmpF at *
    rw [decide_eq_true_iff, cmpS_neg] at *
    exact List.lt_trans h1 h2
  ntrans x y z h1 h2 := by
    unfold ltOf cmpF at *
    rw [decide_eq_false_iff_not, cmpS_neg] at *
    intro h3
    have h4 : y.path.data.toList ≤ x.path.data.toList := h1
    have h5 : z.path.data.toList ≤ y.path.data.toList := h2
    exact (List.le_trans h5 h4) h3
def SortedFs (w0 : World) (v : Value) (l : List FV) (w : World) (e : Ending) (w' : World) : Prop :=
  e = .returned (.tuple #[]) ∧ w'.ownsRow w0.heap.size 28 3 v l.length ((sortF l).flatMap FV.cells) ∧ w.grownBy w' v.ownBlock
set_option maxRecDepth 100000 in
set_option maxHeartbeats 4000000 in
theorem sortF_any {w0 w : World} {v : Value} {l : List FV} (ho : w.ownsRow w0.heap.size 28 3 v l.length (l.flatMap FV.cells)) (hd : l.Pairwise fun x y => x.path ≠ y.path) (hl : l.length ≤ 100000) :
    Calls Tryz.prog 29 #[v, .func (.func 30) #[] #[]] w (SortedFs w0 v l w) := by
  rcases ho.2 with ⟨rfl, hl0⟩ | ⟨g, cap, cur, rfl, hgB, hg, hnc, hcm, hcs, ht⟩
  · have : l = [] := List.length_eq_zero_iff.1 hl0
    subst this
    have K := AnyF.slices_SortFunc_none Tryz.sortF none 0 (.func (.func 30) #[] #[]) w
    refine Calls.mono (show Calls Tryz.prog 29 _ w _ from K) ?_
    rintro e w' ⟨rfl, rfl⟩
    exact ⟨rfl, ho, (below_grown (Below.refl _ _)).but _⟩
  · have hgw : g < w.heap.size := lt_of_heap hg
    haveI : Inhabited FV := ⟨zF⟩
    have hH : HoldsK FV.cells 3 w g 0 l.toArray := holds_row (by decide : 0 < 3) (fun _ => rfl) hg (by simpa using ht)
    have hcmp : CmpLays Tryz.prog 30 #[] FV.cells 3 cmpF g 0 l.toArray.size w := by
      intro m os dk _ x y
      exact cmpF_any
    have eg : ∀ args w, (callFunc 30 args).run Tryz.prog w = .ok (.enter 30 args) w := enters_of Tryz.func30 (by kernel_rfl) rfl
    have K := AnyQ.slices_SortFunc Tryz.sortF 3 Tryz.isAgg28 Tryz.sizeOf28 FV.cells (fun _ => rfl) (fun x => by have := one_files [x]; simpa using this) cmpF swoF 30 #[] g 0 cap l.toArray w eg hcmp hH hgw (by simp; omega)
    simp only [List.size_toArray] at K
    refine Calls.mono (show Calls Tryz.prog 29 _ w _ from K) ?_
    rintro e w' ⟨rfl, d', m, os, hperm, hsort, rfl⟩
    obtain ⟨hsz, _, hpm⟩ := hperm
    have hds' : d'.size = l.length := hsz.trans (by simp)
    have hpl : d'.toList.Perm l := by
      have e1 : d'.extract 0 l.length = d' := by rw [← hds', Array.extract_size]
      have e2 : l.toArray.extract 0 l.length = l.toArray := by
        simp
      rw [e1, e2] at hpm
      exact hpm
    have hdd : d'.toList.Pairwise fun a b => a.p < b.p := by
      have hdp : d'.toList.Pairwise fun x y => x.path ≠ y.path := hpl.symm.pairwise hd (fun h e => h e.symm)
      rw [List.pairwise_iff_getElem] at hdp ⊢
      intro i j hi hj hij
      have h1 := hdp i j hi hj hij
      have hi' : i < d'.size := by simpa using hi
      have hj' : j < d'.size := by simpa using hj
      have h2 := hsort i j (Nat.zero_le _) hij (by omega)
      rw [getElem!_pos d' i hi', getElem!_pos d' j hj'] at h2
      unfold ltOf cmpF at h2
      rw [decide_eq_false_iff_not, cmpS_neg] at h2
      rw [Array.getElem_toList, Array.getElem_toList] at h1 ⊢
      have h3 : d'[i].p ≤ d'[j].p := h2
      rcases Classical.em (d'[i].p < d'[j].p) with h | h
      · exact h
      · exact absurd (FV.p_inj.1 (List.le_antisymm h3 h)) h1
    have hso := sortF_ok l hd
    have heq : d'.toList = sortF l := rise_uniq hdd hso.1.pair fun x => by rw [hso.2 x, hpl.mem_iff]
    obtain ⟨cur', hg', hcs', ht'⟩ := row_sorted (n := m) (os := os) (d := d') (enc := FV.cells) (by decide : 0 < 3) (fun _ => rfl) hg (by rw [hds', hcs]; omega)
    have hsl : (sortF l).length = l.length := by rw [← heq, Array.length_toList, hds']
    refine ⟨rfl, ⟨by rw [FV.len_flat, hsl], .inr ⟨g, cap, cur', rfl, hgB, hg', hnc, hcm, hcs'.trans hcs, ?_⟩⟩, grown_sortK _ _ _ _ _ _ _ _⟩
    rw [← hds', ht', heq]
end Go.Proofs.YtcemkikgaeghjaaGreatDoor
namespace Go.Proofs.YtcemkikgaeghjaaGreatDoor

structure Small (l : List FV) : Prop where
  tree : treeOk l = true
  len : l.length ≤ 30
  text : ∀ f ∈ l, f.text.size ≤ 2000
theorem playFold_text : ∀ (l : List FV) {out : List FV}, (∀ f ∈ out, f.text.size ≤ 2000) → ∀ f ∈ l.foldl playStep out, f.text.size ≤ 2000
  | [], _, h => h
  | x :: l, out, h => by
    rw [List.foldl_cons]
    refine playFold_text l fun f hf => ?_
    unfold playStep at hf
    split at hf
    · exact h f hf
    · rename_i h1
      split at hf
      · rename_i h2
        by_cases hk : PutOk out x
        · rw [putF_ok hk] at hf
          rcases sortedIn_mem.1 hf with rfl | hf
          · omega
          · exact h f (without_mem.1 hf).1
        · exact absurd h2 (putF_no hk).1
      · exact h f hf
theorem play_small (l : List FV) : Small (playF l) := ⟨playF_ok l, playF_len l, playFold_text _ (by simp)⟩
theorem puts_tree : ∀ (l : List (FV × Int)) (m : List FV × List CL), (m.1.Pairwise fun x y => clashP x.p y.p = false) →
    ((l.foldl putX m).1.Pairwise fun x y => clashP x.p y.p = false) ∧ (∀ x ∈ (l.foldl putX m).1, x ∈ m.1 ∨ ∃ p ∈ l, p.1 = x) ∧ (l.foldl putX m).1.length ≤ m.1.length + l.length
  | [], m, h => ⟨h, fun x hx => .inl hx, by simp⟩
  | p :: l, m, h => by
    rw [List.foldl_cons]
    by_cases h1 : (m.1.any fun x => clashP x.p p.1.p) = true
    · have h2 : (putX m p).1 = m.1 := by unfold putX putM; rw [if_pos h1]
      obtain ⟨a, b, c⟩ := puts_tree l (putX m p) (by rw [h2]; exact h)
      rw [h2] at b c
      refine ⟨a, fun x hx => ?_, by rw [List.length_cons]; omega⟩
      rcases b x hx with h3 | ⟨q, hq, e⟩
      · exact .inl h3
      · exact .inr ⟨q, List.mem_cons_of_mem _ hq, e⟩
    · have h2 : (putX m p).1 = m.1 ++ [p.1] := by unfold putX putM; rw [if_neg h1]
      have h5 : ∀ x ∈ m.1, clashP x.p p.1.p = false := fun x hx => by
        cases e : clashP x.p p.1.p with
        | false => rfl
        | true => exact absurd (List.any_eq_true.2 ⟨x, hx, e⟩) h1
      obtain ⟨a, b, c⟩ := puts_tree l (putX m p) (by
        rw [h2]
        refine List.pairwise_append.2 ⟨h, List.pairwise_singleton _ _, fun x hx y hy => ?_⟩
        simp only [List.mem_singleton] at hy
        subst hy; exact h5 x hx)
      rw [h2] at b c
      refine ⟨a, fun x hx => ?_, by rw [List.length_append, List.length_singleton] at c; rw [List.length_cons]; omega⟩
      rcases b x hx with h3 | ⟨q, hq, e⟩
      · rcases List.mem_append.1 h3 with h3 | h3
        · exact .inl h3
        · simp only [List.mem_singleton] at h3
          exact .inr ⟨p, by simp, h3.symm⟩
      · exact .inr ⟨q, List.mem_cons_of_mem _ hq, e⟩
theorem sortF_len (l : List FV) : (sortF l).length = l.length := by
  have key : ∀ (l out : List FV), (l.foldl (fun out f => sortedIn out f) out).length = out.length + l.length := by
    intro l
    induction l with
    | nil => intro out; simp
    | cons f l ih => intro out; rw [List.foldl_cons, ih, sortedIn_len, List.length_cons]; omega
  rw [sortF, key]; simp
theorem tree_of {l : List FV} (hl : l.length ≤ 100) (hf : ∀ f ∈ l, FileOk f) (hc : l.Pairwise fun x y => clashP x.p y.p = false) : treeOk (sortF l) = true := by
  have hp : l.Pairwise fun x y => x.path ≠ y.path := hc.imp fun {x y} h e => by
    unfold clashP at h
    rw [FV.p_inj.2 e] at h
    simp at h
  obtain ⟨h1, h2⟩ := sortF_ok l hp
  refine treeOk_iff.2 ⟨by rw [sortF_len]; exact hl, fun f hf' => hf f ((h2 f).1 hf'), h1, fun f hf' g hg' => ?_⟩
  have hf1 := (h2 f).1 hf'
  have hg1 := (h2 g).1 hg'
  rcases pair_one hc hf1 hg1 with e | e | e
  · subst e; exact within_self _
  · simp only [clashP, Bool.or_eq_false_iff] at e; exact e.1.2
  · simp only [clashP, Bool.or_eq_false_iff] at e; exact e.2
theorem where_mem {a b : List FV} {f g : FV} (h : whereF a b f = some g) : g ∈ b := by
  unfold whereF at h
  cases h1 : findP b f.path with
  | some x => rw [h1] at h; injection h with h; subst h; exact (findP_some h1).1
  | none =>
    rw [h1] at h
    dsimp only at h
    cases h2 : movedF a b f.path with
    | none => rw [h2] at h; cases h
    | some d => rw [h2] at h; exact (findP_some h).1
theorem acts_ok {a b c : List FV} (ha : Small a) (hb : Small b) (hc : Small c) : (∀ p ∈ acts a b c, FileOk p.1) ∧ (acts a b c).length ≤ 90 := by
  have ok : ∀ {l : List FV}, Small l → ∀ f ∈ l, FileOk f := fun h f hf => (treeOk_iff.1 h.tree).2.1 f hf
  refine ⟨fun p hp => ?_, ?_⟩
  · unfold acts at hp
    rcases List.mem_append.1 hp with hp | hp
    · obtain ⟨f, hf, h⟩ := List.mem_filterMap.1 hp
      unfold actK at h
      cases h1 : whereF a b f with
      | none =>
        cases h2 : whereF a c f with
        | none => rw [h1, h2] at h; cases h
        | some y =>
          rw [h1, h2] at h
          dsimp only at h
          split at h
          · cases h
          · injection h with h; subst h; exact ok hc y (where_mem h2)
      | some x =>
        cases h2 : whereF a c f with
        | none =>
          rw [h1, h2] at h
          dsimp only at h
          split at h
          · cases h
          · injection h with h; subst h; exact ok hb x (where_mem h1)
        | some y =>
          rw [h1, h2] at h
          injection h with h
          subst h
          have hx := where_mem h1
          have hy := where_mem h2
          have h3 := merge3_len f.text x.text y.text
          have t1 := ha.text f hf
          have t2 := hb.text x hx
          have t3 := hc.text y hy
          refine ⟨?_, ?_⟩
          · show pathOk (FV.p ⟨if x.path = f.path then y.path else x.path, _, _⟩) = true
            by_cases e : x.path = f.path
            · rw [if_pos e]; exact (ok hc y hy).1
            · rw [if_neg e]; exact (ok hb x hx).1
          · show (merge3F f.text x.text y.text).1.size ≤ 20000
            omega
    · rcases List.mem_append.1 hp with hp | hp
      · obtain ⟨x, hx, rfl⟩ := List.mem_map.1 hp
        have hx1 := (added_mem.1 hx).1
        unfold actA
        cases h1 : findP (addedF a c) x.path with
        | none => exact ok hb x hx1
        | some y =>
          have hy1 := (added_mem.1 (findP_some h1).1).1
          dsimp only
          split
          · exact ok hb x hx1
          · have h3 := merge3_len ⟨#[]⟩ x.text y.text
            have t2 := hb.text x hx1
            have t3 := hc.text y hy1
            have t1 : (⟨#[]⟩ : ByteArray).size = 0 := rfl
            refine ⟨(ok hb x hx1).1, ?_⟩
            show (merge3F ⟨#[]⟩ x.text y.text).1.size ≤ 20000
            omega
      · obtain ⟨y, hy, rfl⟩ := List.mem_map.1 hp
        exact ok hc y (added_mem.1 (List.mem_filter.1 hy).1).1
  · unfold acts
    rw [List.length_append, List.length_append, List.length_map, List.length_map]
    have h1 := List.length_filterMap_le (actK a b c) a
    have h2 : (addedF a b).length ≤ b.length := List.length_filter_le _ _
    have h3 : ((addedF a c).filter fun y => (findP (addedF a b) y.path).isNone).length ≤ (addedF a c).length := List.length_filter_le _ _
    have h4 : (addedF a c).length ≤ c.length := List.length_filter_le _ _
    have := ha.len; have := hb.len; have := hc.len
    omega
theorem treemerge_ok {a b c : List FV} (ha : Small a) (hb : Small b) (hc : Small c) : treemergeF a b c = (sortF (wholeF a b c).1, sortC (wholeF a b c).2, 0) ∧ treeOk (sortF (wholeF a b c).1) = true := by
  obtain ⟨h1, h2⟩ := acts_ok ha hb hc
  obtain ⟨p1, p2, p3⟩ := puts_tree (acts a b c) ([], []) List.Pairwise.nil
  rw [← whole_acts] at p1 p2 p3
  have ht : treeOk (sortF (wholeF a b c).1) = true := tree_of (by rw [List.length_nil] at p3; omega) (fun f hf => by
    rcases p2 f hf with h | ⟨p, hp, e⟩
    · cases h
    · rw [← e]; exact h1 p hp) p1
  refine ⟨?_, ht⟩
  rw [treemergeF, if_neg (by rw [ha.tree, hb.tree, hc.tree]; simp), if_neg (by rw [ht]; decide)]
theorem sortC_nil {l : List CL} : sortC l = [] ↔ l = [] := by
  have key : ∀ (l out : List CL), (l.foldl (fun out c => out.takeWhile (fun x => decide (x.path.data.toList ≤ c.path.data.toList)) ++ c :: out.dropWhile (fun x => decide (x.path.data.toList ≤ c.path.data.toList))) out).length = out.length + l.length := by
    intro l
    induction l with
    | nil => intro out; simp
    | cons c l ih =>
      intro out
      rw [List.foldl_cons, ih, List.length_append, List.length_cons, List.length_cons]
      have := congrArg List.length (List.takeWhile_append_dropWhile (p := fun x : CL => decide (x.path.data.toList ≤ c.path.data.toList)) (l := out))
      rw [List.length_append] at this
      omega
  have h := key l []
  constructor
  · intro e
    have : (sortC l).length = 0 := by rw [e]; rfl
    rw [sortC, h] at this
    exact List.eq_nil_of_length_eq_zero (by simpa using this)
  · intro e; subst e; rfl
end Go.Proofs.YtcemkikgaeghjaaGreatDoor
namespace Go.Proofs.YtcemkikgaeghjaaGreatDoor
open Go.RowKit

def MergeIs (R : List FV × List CL × Int) (w : World) (e : Ending) (w' : World) : Prop :=
  ∃ (A C : Option Addr) (c d : Nat), e = .returned (.tuple #[.slice A R.1.length c, .slice C R.2.1.length d, .int .i64 R.2.2]) ∧ RdF w' w'.heap.size A R.1.length c R.1 ∧ Rd w' w'.heap.size 3 C R.2.1.length d (R.2.1.flatMap CL.cells) ∧ Below w.heap.size w w'
theorem mergeIs_none {R : List FV × List CL × Int} {k : Int} {w w' : World} (h : R = ([], [], k)) (hb : Below w.heap.size w w') : MergeIs R w (.returned (.tuple #[.slice none 0 0, .slice none 0 0, .int .i64 k])) w' := by
  subst h
  exact ⟨none, none, 0, 0, rfl, RdF.none_ _ _, Rd.none_ _ _ _, hb⟩
theorem file_small {f : FV} (h : FileOk f) : f.path.size ≤ 20000 ∧ f.text.size ≤ 20000 := by
  refine ⟨?_, h.2⟩
  have h1 := h.1
  unfold pathOk at h1
  simp only [Bool.and_eq_true, decide_eq_true_eq] at h1
  have h2 : f.p.length ≤ 100 := h1.1.1.2
  have h3 : f.p.length = f.path.size := by unfold FV.p; rw [Array.length_toList]; rfl
  omega
theorem keepP_added {base side : List FV} {L : List (Nat × Nat)} (hp : L.Perm (pairsF base side)) : keepP (addedP base side L) side = addedF base side := by
  unfold keepP addedF
  refine List.filter_congr fun f _ => ?_
  unfold addedP
  rw [takenL_any hp, Bool.not_or]
  congr 1
  cases findP base f.path <;> rfl
theorem whole_tree (base a b : List FV) : (wholeF base a b).1.Pairwise fun x y => x.path ≠ y.path := by
  rw [whole_acts]
  refine (puts_tree (acts base a b) ([], []) List.Pairwise.nil).1.imp fun {x y} h e => ?_
  have e2 : x.p = y.p := by unfold FV.p; rw [e]
  simp [clashP, e2] at h
theorem results_tmp3 {P : Program} {fn : Func} {p q r : Tmp} (h : fn.results = #[.tmp p, .tmp q, .tmp r]) (tmps : Array Value) (w : World) : (results fn tmps).run P w = .ok (.tuple #[tmps.getD p undef, tmps.getD q undef, tmps.getD r undef]) w := by
  simp [results, h]
theorem rdF_watch {w u : World} {n c : Nat} {A : Option Addr} {l : List FV} (h : RdF w w.heap.size A n c l) (hs : ∀ b o ob, A = some ⟨b, o, none⟩ → w.heap[b]? = some ob → u.heap[b]? = some ob) : RdF u u.heap.size A n c l := by
  refine ⟨⟨h.row.len, h.row.cap, fun hn => ?_⟩, h.len, h.fits⟩
  obtain ⟨b, o, e, hb, hc⟩ := h.row.at_ hn
  have e0 := Array.getElem?_eq_getElem hb
  have e1 := (hs b o _ e e0).trans e0.symm
  refine ⟨b, o, e, ?_, fun j v hv => ?_⟩
  · exact lt_of_heap (e1.trans e0)
  · rw [← hc j v hv]; unfold World.cell?; rw [e1]
theorem MI.watch {Z : Nat → Obj → Prop} {w0 w : World} {mb N : Nat} {fv cv : Value} {m : List FV × List CL} (h : MI Z w0 w mb fv cv m N) :
    MI (fun k ob => w.heap[k]? = some ob ∧ k ≠ mb ∧ fv.ownBlock ≠ some k ∧ cv.ownBlock ≠ some k) w0 w mb fv cv m N :=
  ⟨h.hs, h.f1, h.c1, h.lo, h.bel, h.fits, h.few1, h.few2, fun _ _ hz => hz⟩
theorem finds_side {w0 : World} {B s n c : Nat} {A : Option Addr} {base side : List FV} {L : List (Nat × Nat)} (hn : n ≤ 100000) (h : SideIs w0 B s (.slice A n c) base side L) (hr : RdF w0 w0.heap.size A n c side) (hd : (base.map FV.path).Nodup) (hp : L.Perm (pairsF base side)) : Finds w0 s (whereF base side) := fun f u hu hf => by
  rw [← whereL_eq hd hp]
  exact where_any hn (h.below hu) (hr.to hu hu.size) (by unfold maxLen; omega)
theorem small_where {base side : List FV} (h : ∀ f ∈ side, f.path.size ≤ 20000 ∧ f.text.size ≤ 20000) : SmallF (whereF base side) := fun _ g hg => h g (where_mem hg)
theorem nodup_paths {l : List FV} (h : treeOk l = true) : (l.map FV.path).Nodup := by
  rw [List.nodup_iff_pairwise_ne, List.pairwise_map]
  exact (treeOk_iff.1 h).2.2.1.pair.imp fun {a b} hab e => absurd (FV.p_inj.2 e) (ne_of_lt_bs hab)
theorem MI.start {w0 : World} : MI (fun _ _ => False) w0 (w0.alloc (.cells #[.slice none 0 0, .slice none 0 0] 55)) w0.heap.size (.slice none 0 0) (.slice none 0 0) ([], []) 0 :=
  ⟨heap_alloc_new _ _, World.ownsRow_nil _ _ _ _, World.ownsRow_nil _ _ _ _, Nat.le_refl _, (Below.refl _ _).alloc (Nat.le_refl _) _, by simp, Nat.le_refl _, Nat.le_refl _, fun _ _ h => h.elim⟩
set_option maxRecDepth 100000 in
theorem run_merge0 (w : World) : (Instr.build 55 #[]).run Tryz.prog w = .ok (.agg #[.slice none 0 0, .slice none 0 0]) w := by
  go_simp
set_option maxRecDepth 100000 in
set_option maxHeartbeats 8000000 in
theorem mergeT_any {w : World} {n1 n2 n3 c1 c2 c3 : Nat} {A1 A2 A3 : Option Addr} {base a b : List FV} (hL : Lm w) (h1 : n1 ≤ 17592186044416) (h2 : n2 ≤ 17592186044416) (h3 : n3 ≤ 17592186044416)
    (r1 : RdF w w.heap.size A1 n1 c1 base) (r2 : RdF w w.heap.size A2 n2 c2 a) (r3 : RdF w w.heap.size A3 n3 c3 b) :
    Calls Tryz.prog 14 #[.slice A1 n1 c1, .slice A2 n2 c2, .slice A3 n3 c3] w (MergeIs (treemergeF base a b) w) := by
  have K1 := treeRight_any h1 hL r1
  have HR2 := Lib.hid (fun (u : World) (hu : Below w.heap.size w u) => treeRight_any h2 (hL.to hu) (r2.to hu hu.size))
  have HR3 := Lib.hid (fun (u : World) (hu : Below w.heap.size w u) => treeRight_any h3 (hL.to hu) (r3.to hu hu.size))
  have HR := Lib.hid (And.intro r1 (And.intro r2 r3))
  have HL := Lib.hid hL
  clear r1 r2 r3 hL h1 h2 h3
  have HT := Lib.hid (show treemergeF base a b = if treeOk base = false ∨ treeOk a = false ∨ treeOk b = false then ([], [], 5) else if treeOk (sortF (wholeF base a b).1) = false then ([], [], 6) else (sortF (wholeF base a b).1, sortC (wholeF base a b).2, 0) from rfl)
  go_enter Tryz.func14, Tryz.ntmps14
  go_wp2_with fail
  refine K1.mono ?_
  rintro e w1 ⟨rfl, hb1⟩
  have K2 := HR2.out w1 hb1
  clear K1
  cases ht1 : treeOk base with
  | false =>
    have HN := Lib.hid (show treemergeF base a b = ([], [], 5) by rw [HT.out]; exact if_pos (.inl ht1))
    clear K2 ht1
    go_wp2
    refine bodyPost_ret (results_tmp3 rfl _ _) rfl ?_
    exact mergeIs_none HN.out hb1
  | true =>
    have HT1 := Lib.hid ht1
    clear ht1
    go_wp2_with fail
    refine K2.mono ?_
    rintro e w2 ⟨rfl, hb2⟩
    have hb2' : Below w.heap.size w w2 := hb1.trans (hb2.mono hb1.size)
    have K3 := HR3.out w2 hb2'
    clear K2 hb1 hb2
    cases ht2 : treeOk a with
    | false =>
      have HN := Lib.hid (show treemergeF base a b = ([], [], 5) by rw [HT.out]; exact if_pos (.inr (.inl ht2)))
      clear K3 ht2
      go_wp2
      refine bodyPost_ret (results_tmp3 rfl _ _) rfl ?_
      exact mergeIs_none HN.out hb2'
    | true =>
      have HT2 := Lib.hid ht2
      clear ht2
      go_wp2_with fail
      refine K3.mono ?_
      rintro e w3 ⟨rfl, hb3⟩
      have hb3' : Below w.heap.size w w3 := hb2'.trans (hb3.mono hb2'.size)
      clear K3 hb2' hb3
      cases ht3 : treeOk b with
      | false =>
        have HN := Lib.hid (show treemergeF base a b = ([], [], 5) by rw [HT.out]; exact if_pos (.inr (.inr ht3)))
        clear ht3
        go_wp2
        refine bodyPost_ret (results_tmp3 rfl _ _) rfl ?_
        exact mergeIs_none HN.out hb3'
      | true =>
        have HT3 := Lib.hid ht3
        clear ht3
        have HB3 := Lib.hid hb3'
        have hl1 := treeOk_len HT1.out
        have hl2 := treeOk_len HT2.out
        have hl3 := treeOk_len HT3.out
        rw [HR.out.1.len] at hl1
        rw [HR.out.2.1.len] at hl2
        rw [HR.out.2.2.len] at hl3
        have HS1 := Lib.hid (fun f hf => file_small ((treeOk_iff.1 HT1.out).2.1 f hf))
        have HS2 := Lib.hid (fun f hf => file_small ((treeOk_iff.1 HT2.out).2.1 f hf))
        have HS3 := Lib.hid (fun f hf => file_small ((treeOk_iff.1 HT3.out).2.1 f hf))
        have K4 := sideMade_any (HL.out.to hb3') (by omega) (by omega) (HR.out.1.to hb3' hb3'.size) (HR.out.2.1.to hb3' hb3'.size) (fun f hf => by have := (HS1.out f hf).2; omega) (fun f hf => by have := (HS2.out f hf).2; omega)
        clear hb3' HR2 HR3
        go_wp2_with fail
        refine K4.mono ?_
        rintro e w4 ⟨L1, s1, hp1, rfl, hsi1, hb4⟩
        have HB4 := Lib.hid (HB3.out.trans (hb4.mono HB3.out.size))
        have HSI1 := Lib.hid hsi1
        have HP1 := Lib.hid hp1
        have K5 := sideMade_any (HL.out.to HB4.out) (by omega) (by omega) (HR.out.1.to HB4.out HB4.out.size) (HR.out.2.2.to HB4.out HB4.out.size) (fun f hf => by have := (HS1.out f hf).2; omega) (fun f hf => by have := (HS3.out f hf).2; omega)
        clear K4 hp1 hsi1 hb4 HB3
        go_wp2_with fail
        refine K5.mono ?_
        rintro e w5 ⟨L2, s2, hp2, rfl, hsi2, hb5⟩
        have HB5 := Lib.hid (HB4.out.trans (hb5.mono HB4.out.size))
        have HSI2 := Lib.hid hsi2
        have HP2 := Lib.hid hp2
        replace HSI1 := Lib.hid (HSI1.out.below hb5)
        have hz := run_merge0 w5
        have HR1' := Lib.hid (HR.out.1.to HB5.out HB5.out.size)
        have HR2' := Lib.hid (HR.out.2.1.to HB5.out HB5.out.size)
        have HR3' := Lib.hid (HR.out.2.2.to HB5.out HB5.out.size)
        have HND := Lib.hid (nodup_paths HT1.out)
        have HL5 := Lib.hid (HL.out.to HB5.out)
        have K6 := keptM_any HL5.out (MI.start (w0 := w5)) (by omega) HR1'.out HS1.out (finds_side (by omega) HSI1.out HR2'.out HND.out HP1.out) (finds_side (by omega) HSI2.out HR3'.out HND.out HP2.out) (small_where HS2.out) (small_where HS3.out)
        rw [keptG_eq] at K6
        clear K5 hp2 hsi2 hb5 HB4
        go_wp2_with fail
        refine K6.mono ?_
        rintro e w6 ⟨rfl, fv, cv, hm6⟩
        have HM6 := Lib.hid hm6
        clear K6 hm6 hz
        have hb6 := HM6.out.bel
        have K7 := addedS_any (by omega) (by omega) (HSI1.out.below hb6) (HR2'.out.to hb6 hb6.size) (HR1'.out.to hb6 hb6.size) (fun f hf => by have := (HS2.out f hf).1; unfold maxLen; omega)
        rw [keepP_added HP1.out] at K7
        clear hb6
        go_wp2_with fail
        refine K7.mono ?_
        rintro e w7 ⟨A7, c7, rfl, hr7, hb7, hn7⟩
        have HM7 := Lib.hid (HM6.out.below hb7)
        have HX7 := Lib.hid (And.intro hr7 (And.intro hb7 hn7))
        clear K7 hr7 hb7 hn7
        have hb7 := HM7.out.bel
        have K8 := addedS_any (by omega) (by omega) (HSI2.out.below hb7) (HR3'.out.to hb7 hb7.size) (HR1'.out.to hb7 hb7.size) (fun f hf => by have := (HS3.out f hf).1; unfold maxLen; omega)
        rw [keepP_added HP2.out] at K8
        clear hb7
        go_wp2_with fail
        refine K8.mono ?_
        rintro e w8 ⟨A8, c8, rfl, hr8, hb8, hn8⟩
        have HM8 := Lib.hid (HM7.out.below hb8).watch
        have HW1 : Hid (∀ u : World, (∀ k ob, (w8.heap[k]? = some ob ∧ k ≠ w5.heap.size ∧ fv.ownBlock ≠ some k ∧ cv.ownBlock ≠ some k) → u.heap[k]? = some ob) → RdF u u.heap.size A7 (addedF base a).length c7 (addedF base a)) := Lib.hid (fun u hu => by
          refine rdF_watch (HX7.out.1.to hb8 hb8.size) fun b o ob e hq => ?_
          have h1 := HX7.out.2.2 b o none e
          have h2 := lt_of_heap HM6.out.hs
          exact hu b ob ⟨hq, by omega, fun e => by have := (HM6.out.f1.lt _ e).2; omega, fun e => by have := (HM6.out.c1.lt _ e).2; omega⟩)
        have HW2 : Hid (∀ u : World, (∀ k ob, (w8.heap[k]? = some ob ∧ k ≠ w5.heap.size ∧ fv.ownBlock ≠ some k ∧ cv.ownBlock ≠ some k) → u.heap[k]? = some ob) → RdF u u.heap.size A8 (addedF base b).length c8 (addedF base b)) := Lib.hid (fun u hu => by
          refine rdF_watch hr8 fun b o ob e hq => ?_
          have h1 := hn8 b o none e
          have h2 := lt_of_heap HM7.out.hs
          exact hu b ob ⟨hq, by omega, fun e => by have := (HM7.out.f1.lt _ e).2; omega, fun e => by have := (HM7.out.c1.lt _ e).2; omega⟩)
        have hla : (addedF base a).length ≤ n2 := by rw [← HR.out.2.1.len]; exact List.length_filter_le _ _
        have hlb : (addedF base b).length ≤ n3 := by rw [← HR.out.2.2.len]; exact List.length_filter_le _ _
        have K9 := addedM_any HL5.out HM8.out (by omega) HW1.out HW2.out (fun f hf => HS2.out f (List.mem_filter.1 hf).1) (fun f hf => HS3.out f (List.mem_filter.1 hf).1)
        rw [show addM (addedF base a) (addedF base b) (base.foldl (keptM base a b) ([], [])) = wholeF base a b from rfl] at K9
        clear K8 hr8 hb8 hn8
        go_wp2_with fail
        refine K9.mono ?_
        rintro e w9 ⟨rfl, fv9, cv9, hm9⟩
        have HM9 := Lib.hid hm9
        clear K9 hm9 HM6 HM7 HM8 HX7 HW1 HW2
        have HD := Lib.hid (whole_tree base a b)
        generalize wholeF base a b = W at *
        obtain ⟨fs, cl⟩ := W
        have hf1 := HM9.out.few1
        have hf2 := HM9.out.few2
        have HFT := Lib.hid HM9.out.fits
        dsimp only at hf1 hf2 HT HD ⊢
        have K10 := sortF_any (w0 := w5) HM9.out.f1 HD.out (by show fs.length ≤ _; omega)
        have d0 : w9.cell? ⟨w5.heap.size, 0, none⟩ = some fv9 := by rw [Lib.cell_of_heap HM9.out.hs]; rfl
        go_wp2_with fail
        refine K10.mono ?_
        rintro e w10 ⟨rfl, ho10, hg10⟩
        have hs10 := (hg10.block _ (lt_of_heap HM9.out.hs) (fun e => own_type HM9.out.f1 HM9.out.hs (by decide) e.symm)).trans HM9.out.hs
        have hc10 := keep_apart HM9.out.c1 hg10 (fun g e => own_apart HM9.out.c1 HM9.out.f1 (by decide) g e)
        have HF10 := Lib.hid ho10
        have HS10 := Lib.hid hs10
        have HC10 := Lib.hid hc10
        have HB10 := Lib.hid (HM9.out.bel.grown hg10 HM9.out.bel.size (fun g hg => (HM9.out.f1.lt g hg).1))
        have K11 := sortC_any (w0 := w5) (by show cl.length ≤ _; omega) hc10
        have d1 : w10.cell? ⟨w5.heap.size, 1, none⟩ = some cv9 := by rw [Lib.cell_of_heap hs10]; rfl
        clear K10 d0 ho10 hg10 hs10 hc10 HM9
        go_wp2_with fail
        refine K11.mono ?_
        rintro e w11 ⟨rfl, ho11, hg11⟩
        have hs11 := (hg11.block _ (lt_of_heap HS10.out) (fun e => own_type HC10.out HS10.out (by decide) e.symm)).trans HS10.out
        have hf11 := keep_apart HF10.out hg11 (fun g e => own_apart HF10.out HC10.out (by decide) g e)
        have HB11 := Lib.hid (HB10.out.grown hg11 HB10.out.size (fun g hg => (HC10.out.lt g hg).1))
        obtain ⟨A9, c9, rfl, hc9⟩ := ownsRow_cap hf11
        obtain ⟨A10, c10, rfl, hc10⟩ := ownsRow_cap ho11
        have HS11 := Lib.hid hs11
        have hfl : (sortF fs).length = fs.length := sortF_len fs
        have HRF := Lib.hid (show RdF w11 w11.heap.size A9 fs.length c9 (sortF fs) from ⟨Rd.of_own hf11 hc9, hfl, fun x hx => by have := HFT.out x (((sortF_ok fs HD.out).2 x).1 hx); omega⟩)
        have HRC := Lib.hid (show Rd w11 w11.heap.size 3 A10 cl.length c10 ((sortC cl).flatMap CL.cells) from Rd.of_own ho11 hc10)
        have d0 : w11.cell? ⟨w5.heap.size, 0, none⟩ = some (.slice A9 fs.length c9) := by rw [Lib.cell_of_heap hs11]; rfl
        have K12 := treeRight_any (w := w11) (by show fs.length ≤ 17592186044416; omega) (HL5.out.to HB11.out) HRF.out
        have hcl : (sortC cl).length = cl.length := sortC_len cl
        clear K11 d1 ho11 hg11 hs11 hf11 HF10 HS10 HC10 HB10
        go_wp2_with fail
        refine K12.mono ?_
        rintro e w12 ⟨rfl, hb12⟩
        have HBB := Lib.hid ((HB5.out.trans (HB11.out.mono HB5.out.size)).trans (hb12.mono (Nat.le_trans HB5.out.size HB11.out.size)))
        have HS12 := Lib.hid ((hb12.block _ (lt_of_heap HS11.out)).trans HS11.out)
        have HRF2 := Lib.hid (HRF.out.to hb12 hb12.size)
        have HRC2 := Lib.hid (HRC.out.to hb12 hb12.size)
        clear K12 d0 hb12 HS11 HRF HRC
        have HT0 : Hid (treemergeF base a b = if treeOk (sortF fs) = false then ([], [], 6) else (sortF fs, sortC cl, 0)) := Lib.hid (by
          rw [HT.out, if_neg]
          rintro (h | h | h)
          · rw [HT1.out] at h; cases h
          · rw [HT2.out] at h; cases h
          · rw [HT3.out] at h; cases h)
        cases ht4 : treeOk (sortF fs) with
        | false =>
          have HN := Lib.hid (show treemergeF base a b = ([], [], 6) by rw [HT0.out]; exact if_pos ht4)
          clear ht4
          go_wp2
          refine bodyPost_ret (results_tmp3 rfl _ _) rfl ?_
          exact mergeIs_none HN.out HBB.out
        | true =>
          have HN := Lib.hid (show treemergeF base a b = (sortF fs, sortC cl, 0) by rw [HT0.out]; exact if_neg (by rw [ht4]; decide))
          clear ht4
          go_wp2
          refine wp_region_q (fun u => Below w12.heap.size w12 u) [(true, 0), (true, 1), (true, 2), (true, 3), (true, 4), (true, 5), (true, 6), (true, 7), (true, 8), (true, 9), (true, 10)] mixed (by kernel_rfl) (Below.refl _ _).drew ?_
          intro T M Q hT hT' hM hQ
          have m0 : M ⟨w5.heap.size, 0, none⟩ = some (.slice A9 fs.length c9) := hM _ _ fun w' hw => by rw [Lib.cell_of_heap ((hw.block _ (lt_of_heap HS12.out)).trans HS12.out)]; rfl
          have m1 : M ⟨w5.heap.size, 1, none⟩ = some (.slice A10 cl.length c10) := hM _ _ fun w' hw => by rw [Lib.cell_of_heap ((hw.block _ (lt_of_heap HS12.out)).trans HS12.out)]; rfl
          clear hM
          simp only [qcmp]
          simp (maxSteps := 5000000) only [↓qpre, qpost, qfacts, qnorm, m0, m1]
          refine hQ _ _ ?_
          clear hQ hT hT' m0 m1
          go_wp2
          refine bodyPost_ret (results_tmp3 rfl _ _) rfl ?_
          refine ⟨A9, A10, c9, c10, ?_, ?_, ?_, HBB.out.drew⟩
          · rw [HN.out, hfl, hcl]; rfl
          · rw [HN.out, hfl]; exact HRF2.out.drew
          · rw [HN.out, hcl]; exact HRC2.out.drew
end Go.Proofs.YtcemkikgaeghjaaGreatDoor
namespace Go.Proofs.YtcemkikgaeghjaaGreatDoor
open Go.RowKit

end Go.Proofs.YtcemkikgaeghjaaGreatDoor
namespace Go.Proofs.YtcemkikgaeghjaaGreatDoor

def outP (a b c : List FV) (p : ByteArray) : Option FV :=
  match findP a p, findP b p, findP c p with
  | some f, some o, some t => some (bothOut f o t).1
  | some _, _, _ => none
  | none, some o, _ => some o
  | none, none, r => r
theorem both_path {f o t : FV} (ho : o.path = f.path) (ht : t.path = f.path) : (bothOut f o t).1.path = f.path := by
  unfold bothOut
  dsimp only
  rw [if_pos ho, ht]
theorem outP_path {a b c : List FV} {p : ByteArray} {g : FV} (h : outP a b c p = some g) : g.path = p := by
  unfold outP at h
  cases h1 : findP a p with
  | some f =>
    cases h2 : findP b p with
    | none => rw [h1, h2] at h; cases h
    | some o =>
      cases h3 : findP c p with
      | none => rw [h1, h2, h3] at h; cases h
      | some t =>
        rw [h1, h2, h3] at h
        injection h with h
        subst h
        rw [both_path ((findP_some h2).2.trans (findP_some h1).2.symm) ((findP_some h3).2.trans (findP_some h1).2.symm)]
        exact (findP_some h1).2
  | none =>
    cases h2 : findP b p with
    | some o => rw [h1, h2] at h; injection h with h; subst h; exact (findP_some h2).2
    | none => rw [h1, h2] at h; exact (findP_some h).2
theorem file_iff {a b c : List FV} (ra : Rise a) (rb : Rise b) (rc : Rise c) (nb : pairsF a b = []) (nc : pairsF a c = []) (hk : ∀ p ∈ acts a b c, p.2 = 0) (g : FV) :
    g ∈ (acts a b c).map Prod.fst ↔ outP a b c g.path = some g := by
  have hX : ∀ x ∈ addedF a b, (actA (addedF a c) x).1 = x := fun x hx =>
    actA_fst (hk _ (List.mem_append.2 (.inr (List.mem_append.2 (.inl (List.mem_map.2 ⟨x, hx, rfl⟩))))))
  have rX := rise_added (base := a) rb
  constructor
  · intro h
    obtain ⟨p, hp, rfl⟩ := List.mem_map.1 h
    have hp0 := hk p hp
    unfold acts at hp
    rcases List.mem_append.1 hp with hp | hp
    · obtain ⟨f, hf, h1⟩ := List.mem_filterMap.1 hp
      unfold actK at h1
      rw [where_plain nb, where_plain nc] at h1
      have hfa : findP a f.path = some f := (findP_iff ra).2 ⟨hf, rfl⟩
      cases h2 : findP b f.path with
      | none =>
        cases h3 : findP c f.path with
        | none => rw [h2, h3] at h1; cases h1
        | some t =>
          rw [h2, h3] at h1
          dsimp only at h1
          split at h1
          · cases h1
          · injection h1 with h1; subst h1; cases hp0
      | some o =>
        cases h3 : findP c f.path with
        | none =>
          rw [h2, h3] at h1
          dsimp only at h1
          split at h1
          · cases h1
          · injection h1 with h1; subst h1; cases hp0
        | some t =>
          rw [h2, h3] at h1
          injection h1 with h1
          subst h1
          rw [both_path (findP_some h2).2 (findP_some h3).2]
          unfold outP
          rw [hfa, h2, h3]
    · rcases List.mem_append.1 hp with hp | hp
      · obtain ⟨x, hx, rfl⟩ := List.mem_map.1 hp
        rw [hX x hx]
        obtain ⟨h1, h2⟩ := (added_plain nb).1 hx
        unfold outP
        rw [h2, (findP_iff rb).2 ⟨h1, rfl⟩]
      · obtain ⟨y, hy, rfl⟩ := List.mem_map.1 hp
        obtain ⟨h1, h2⟩ := List.mem_filter.1 hy
        obtain ⟨h3, h4⟩ := (added_plain nc).1 h1
        rw [Option.isNone_iff_eq_none] at h2
        have h5 : findP b y.path = none := by
          cases e : findP b y.path with
          | none => rfl
          | some z =>
            obtain ⟨z1, z2⟩ := findP_some e
            have : z ∈ addedF a b := (added_plain nb).2 ⟨z1, by rw [z2]; exact h4⟩
            exact absurd z2 (hasP_mem (findP_none.1 h2) this)
        show outP a b c y.path = some y
        unfold outP
        rw [h4, h5, (findP_iff rc).2 ⟨h3, rfl⟩]
  · intro h
    unfold outP at h
    cases h1 : findP a g.path with
    | some f =>
      cases h2 : findP b g.path with
      | none => rw [h1, h2] at h; cases h
      | some o =>
        cases h3 : findP c g.path with
        | none => rw [h1, h2, h3] at h; cases h
        | some t =>
          rw [h1, h2, h3] at h
          injection h with h
          obtain ⟨hf, ef⟩ := findP_some h1
          refine List.mem_map.2 ⟨bothOut f o t, List.mem_append.2 (.inl (List.mem_filterMap.2 ⟨f, hf, ?_⟩)), h⟩
          unfold actK
          rw [where_plain nb, where_plain nc, ef, h2, h3]
    | none =>
      cases h2 : findP b g.path with
      | some o =>
        rw [h1, h2] at h
        injection h with h
        subst h
        have hx : o ∈ addedF a b := (added_plain nb).2 ⟨(findP_some h2).1, h1⟩
        exact List.mem_map.2 ⟨actA (addedF a c) o, List.mem_append.2 (.inr (List.mem_append.2 (.inl (List.mem_map.2 ⟨o, hx, rfl⟩)))), hX o hx⟩
      | none =>
        rw [h1, h2] at h
        have h3 : findP c g.path = some g := h
        have hy : g ∈ addedF a c := (added_plain nc).2 ⟨(findP_some h3).1, h1⟩
        refine List.mem_map.2 ⟨(g, 0), List.mem_append.2 (.inr (List.mem_append.2 (.inr (List.mem_map.2 ⟨g, List.mem_filter.2 ⟨hy, ?_⟩, rfl⟩)))), rfl⟩
        rw [Option.isNone_iff_eq_none]
        refine findP_none.2 ?_
        cases e : hasP (addedF a b) g.path with
        | false => rfl
        | true =>
          obtain ⟨z, hz, ez⟩ := hasP_iff.1 e
          exact absurd ez (hasP_mem (findP_none.1 h2) ((added_plain nb).1 hz).1)
theorem both_one (f t : FV) (_ht : t.path = f.path) : (bothOut f f t).1 = t := by
  unfold bothOut
  dsimp only
  rw [if_pos rfl, if_pos rfl, merge3_ours]
theorem both_two (f o : FV) (ho : o.path = f.path) : (bothOut f o f).1 = o := by
  unfold bothOut
  dsimp only
  rw [if_pos ho, merge3_theirs]
  have e2 : (if o.exec = f.exec then f.exec else o.exec) = o.exec := by by_cases h : o.exec = f.exec <;> simp [h]
  rw [e2, ← ho]
theorem both_same (f o : FV) (ho : o.path = f.path) : (bothOut f o o).1 = o := by
  unfold bothOut
  dsimp only
  rw [if_pos ho, merge3_both]
  have e2 : (if o.exec = f.exec then o.exec else o.exec) = o.exec := by split <;> rfl
  rw [e2]
theorem treemerge_paths {a b c : List FV} (ha : Small a) (hb : Small b) (hc : Small c) (nb : pairsF a b = []) (nc : pairsF a c = []) (h : (treemergeF a b c).2.1 = []) (p : ByteArray) :
    (findP a p = findP b p → findP (treemergeF a b c).1 p = findP c p) ∧ (findP a p = findP c p → findP (treemergeF a b c).1 p = findP b p) ∧ (findP b p = findP c p → findP (treemergeF a b c).1 p = findP b p) := by
  obtain ⟨e1, t1⟩ := treemerge_ok ha hb hc
  have ra := (treeOk_iff.1 ha.tree).2.2.1
  have rb := (treeOk_iff.1 hb.tree).2.2.1
  have rc := (treeOk_iff.1 hc.tree).2.2.1
  have rx := (treeOk_iff.1 t1).2.2.1
  rw [e1] at h ⊢
  dsimp only at h ⊢
  rw [sortC_nil] at h
  obtain ⟨c1, c2⟩ := whole_clean a b c
  have hk := (c1.1 h).1
  have pd : (wholeF a b c).1.Pairwise fun x y => x.path ≠ y.path := by
    have := (puts_tree (acts a b c) ([], []) List.Pairwise.nil).1
    rw [← whole_acts] at this
    exact this.imp fun {x y} h e => by
      unfold clashP at h
      rw [FV.p_inj.2 e] at h
      simp at h
  have hmem : ∀ g, g ∈ sortF (wholeF a b c).1 ↔ outP a b c g.path = some g := fun g => by
    rw [(sortF_ok _ pd).2, c2 h]
    exact file_iff ra rb rc nb nc hk g
  have hfind : findP (sortF (wholeF a b c).1) p = outP a b c p := by
    cases e : outP a b c p with
    | some g =>
      have hg := outP_path e
      exact (findP_iff rx).2 ⟨(hmem g).2 (by rw [hg]; exact e), hg⟩
    | none =>
      cases e2 : findP (sortF (wholeF a b c).1) p with
      | none => rfl
      | some g =>
        obtain ⟨h1, h2⟩ := findP_some e2
        have := (hmem g).1 h1
        rw [h2, e] at this
        cases this
  rw [hfind]
  -- one side alone has it: then it is as base has it
  have hone : ∀ f, findP a p = some f → ∀ p' ∈ acts a b c, p'.2 = 0 := fun _ _ => hk
  have lone1 : ∀ f o, findP a p = some f → findP b p = some o → findP c p = none → o = f := fun f o h1 h2 h3 => by
    obtain ⟨hf, ef⟩ := findP_some h1
    by_cases e : o = f
    · exact e
    · have := hk (o, 3) (List.mem_append.2 (.inl (List.mem_filterMap.2 ⟨f, hf, by unfold actK; rw [where_plain nb, where_plain nc, ef, h2, h3]; dsimp only; rw [if_neg e]⟩)))
      cases this
  have lone2 : ∀ f t, findP a p = some f → findP b p = none → findP c p = some t → t = f := fun f t h1 h2 h3 => by
    obtain ⟨hf, ef⟩ := findP_some h1
    by_cases e : t = f
    · exact e
    · have := hk (t, 3) (List.mem_append.2 (.inl (List.mem_filterMap.2 ⟨f, hf, by unfold actK; rw [where_plain nb, where_plain nc, ef, h2, h3]; dsimp only; rw [if_neg e]⟩)))
      cases this
  unfold outP
  cases h1 : findP a p with
  | none =>
    cases h2 : findP b p with
    | none => exact ⟨fun _ => rfl, fun e => e.symm, fun e => e.symm⟩
    | some o => exact ⟨fun e => by (cases e), fun _ => rfl, fun _ => rfl⟩
  | some f =>
    have ef := (findP_some h1).2
    cases h2 : findP b p with
    | none =>
      cases h3 : findP c p with
      | none => exact ⟨fun _ => rfl, fun _ => rfl, fun _ => rfl⟩
      | some t => exact ⟨fun e => by (cases e), fun _ => rfl, fun e => by (cases e)⟩
    | some o =>
      have eo := (findP_some h2).2.trans ef.symm
      cases h3 : findP c p with
      | none => exact ⟨fun _ => rfl, fun e => by (cases e), fun e => by (cases e)⟩
      | some t =>
        have et := (findP_some h3).2.trans ef.symm
        refine ⟨fun e => ?_, fun e => ?_, fun e => ?_⟩
        · injection e with e; subst e; exact congrArg some (both_one f t et)
        · injection e with e; subst e; exact congrArg some (both_two f o eo)
        · injection e with e; subst e; exact congrArg some (both_same f o eo)
end Go.Proofs.YtcemkikgaeghjaaGreatDoor
namespace Go.Proofs.YtcemkikgaeghjaaGreatDoor

theorem tree_one {f : FV} (h : FileOk f) : treeOk [f] = true := by
  refine treeOk_iff.2 ⟨by simp, fun g hg => ?_, rise_of_pair (List.pairwise_singleton _ _), fun g hg k hk => ?_⟩
  · simp only [List.mem_singleton] at hg; subst hg; exact h
  · simp only [List.mem_singleton] at hg hk; subst hg; subst hk; exact within_self _
theorem pairs_left (b : List FV) : pairsF [] b = [] := by
  refine List.eq_nil_iff_forall_not_mem.2 fun q hq => ?_
  obtain ⟨f, h, _⟩ := lone_mem.1 ((pairsF_ok [] b).from_ q hq)
  simp at h
theorem pairs_sub {a b : List FV} (h : ∀ f ∈ a, findP b f.path ≠ none) : pairsF a b = [] := by
  refine List.eq_nil_iff_forall_not_mem.2 fun q hq => ?_
  obtain ⟨f, h1, h2, _⟩ := lone_mem.1 ((pairsF_ok a b).from_ q hq)
  exact h f (List.mem_of_getElem? h1) h2
theorem find_one (g : FV) (p : ByteArray) : findP [g] p = if g.path = p then some g else none := by
  unfold findP
  rw [List.find?_cons]
  by_cases h : g.path = p <;> simp [h]
theorem tm_of {a b c : List FV} {fs : List FV} {cl : List CL} (ha : treeOk a = true) (hb : treeOk b = true) (hc : treeOk c = true) (h : wholeF a b c = (fs, cl)) (ht : treeOk (sortF fs) = true) : treemergeF a b c = (sortF fs, sortC cl, 0) := by
  rw [treemergeF, if_neg (by rw [ha, hb, hc]; simp), h]
  dsimp only
  rw [if_neg (by rw [ht]; decide)]
/-! ### deleted -/
/-! ### added -/
theorem added_nil (b : List FV) : addedF [] b = b := by
  refine List.filter_eq_self.2 fun g _ => ?_
  rw [pairs_left]; rfl
theorem acts_nil (b c : List FV) : acts [] b c = b.map (actA c) ++ (c.filter fun y => (findP b y.path).isNone).map fun y => (y, 0) := by
  unfold acts
  rw [added_nil, added_nil]; rfl
where
  treemerge_theirs_nil {u : FV} (h : FileOk u) : treemergeF [] [u] [u] = ([u], [], 0) := by
    have e : acts [] [u] [u] = [(u, 0)] := by
      rw [acts_nil]
      have h1 : actA [u] u = (u, 0) := by unfold actA; rw [find_one, if_pos rfl]; simp
      rw [List.map_singleton, h1, List.filter_cons, find_one, if_pos rfl]; rfl
    have hw : wholeF [] [u] [u] = ([u], []) := by rw [whole_acts, e]; rfl
    exact tm_of treeOk_nil (tree_one h) (tree_one h) hw (tree_one h)
/-! ### moved -/
end Go.Proofs.YtcemkikgaeghjaaGreatDoor
