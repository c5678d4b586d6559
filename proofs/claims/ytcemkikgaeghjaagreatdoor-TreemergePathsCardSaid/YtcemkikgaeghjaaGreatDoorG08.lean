/- Texts of the walks, together: Walks: files copied, with room behind them, and held against what they were. Plain laws of trees: what is put is there, what is dropped is gone, others stay; a tree stays one. Plain laws: three texts in pieces (chunk.Of), in one (merge3.Merge); renames; three trees in one. What the program computes, as functions of lists. Plain laws: what two lists have in common is the longest that both have; with the same end. Walks: diff.begin, diff.end: how many lines two lists begin, end with alike. -/
import Derived.OwnWalk
import Derived.Test.YtcemkikgaeghjaaGreatDoorG04
import Derived.Test.YtcemkikgaeghjaaGreatDoorG07
namespace Go.Proofs.YtcemkikgaeghjaaGreatDoor
open Go.RowKit

theorem grownCap_lo (w : World) (n c : Nat) (e : TypeId) (_h : c < n) (hn : n ≤ maxLen) : n ≤ grownCap w n c e ∧ grownCap w n c e ≤ maxLen := ⟨grownCap_ge w _ _ _, grownCap_le_maxLen w n c e (by omega)⟩
theorem grown_setRow {w w1 : World} {g : Nat} {row : Option Nat} {cs : Array Value} (h : w.grownBy w1 row) (hg : w.heap.size ≤ g ∨ row = some g) : w.grownBy (w1.setRow g cs) row :=
  ⟨h.os, h.tape, h.output, by have := h.size; simpa [World.setRow] using this, fun k hk hne => by
    rw [setRow_other _ _ _ _ (fun e => by
      rcases hg with hg | hg
      · omega
      · exact hne (by rw [hg, e]))]
    exact h.block k hk hne⟩
theorem rd_setRow {w : World} {g n c sz : Nat} {cur cs : Array Value} {e : TypeId} {xs : List Value} (hg : w.heap[g]? = some (.cells cur e (0, 0))) (hn : n ≤ c) (hx : xs.length = n * sz) (hcs : ∀ (j : Nat) (u : Value), xs[j]? = some u → cs[j]? = some u) :
    Rd (w.setRow g cs) (w.setRow g cs).heap.size sz (some ⟨g, 0, none⟩) n c xs := by
  have hlt : g < w.heap.size := (Array.getElem?_eq_some_iff.1 hg).1
  refine ⟨hx, hn, fun _ => ⟨g, 0, rfl, by simpa [World.setRow] using hlt, fun j u hu => ?_⟩⟩
  rw [Nat.zero_add, cell_of_row _ _ _ _ _ _ (setRow_heap _ _ _ _ _ _ hg)]
  exact hcs j u hu
theorem list_get_of {l r : List Value} {n : Nat} (h : l.take n = r) {j : Nat} {u : Value} (hj : r[j]? = some u) : l[j]? = some u := by
  rw [← h, List.getElem?_take] at hj
  split at hj
  · exact hj
  · cases hj
theorem wpl_store_mid {P : Program} {w : World} {a : Act} {ops : Array Oper} {rest : List Oper} {o : Oper} {Q : Exit → Act → World → Prop} (hgd : o.guard = none) (t : TypeId) (x y : Operand)
    (ho : o.op = .store t x y) {g d : Nat} {e : TypeId} {cur cs : Array Value} (hi : (P.info? t).map (·.size) = some cs.size) (hx : a.eval x = .pointer (some ⟨g, d, none⟩)) (hy : a.eval y = .agg cs)
    (hg : w.heap[g]? = some (.cells cur e (0, 0))) (hfit : d + cs.size ≤ cur.size) (h1 : ∀ u ∈ cs.toList, u.oneCell' = true)
    (hK : wpList P ops Q rest (a.put o.dst undef) (w.setRow g (cur.toList.take d ++ cs.toList ++ cur.toList.drop (d + cs.size)).toArray)) : wpList P ops Q (o :: rest) a w := by
  refine wpList_plain hgd fun K hK' => ?_
  have hr := run_storeCells_at P g d e cs.toList 0 cur w hg (by simpa using hfit) h1
  obtain ⟨i, hi1, hi2⟩ := Option.map_eq_some_iff.1 hi
  unfold Oper.wp execOp
  have hst : (storeVar t ⟨g, d, none⟩ (.agg cs)).run P w = .ok () (w.setRow g (cur.toList.take d ++ cs.toList ++ cur.toList.drop (d + cs.size)).toArray) := by
    simp only [Nat.add_zero, Array.length_toList] at hr
    simp [storeVar, sizeOf, typeInfo, hi1, hi2, Value.cells, hr]
  simp only [ho, hx, hy, Instr.storeAt, Instr.sureAddr, Sem.run_bind, Sem.run_pure, Result.andThen_ok, hst]
  exact hK' _ _ hK
def OwnIs (e : TypeId) (sz n : Nat) (xs x : List Value) (w : World) (en : Ending) (w' : World) : Prop :=
  ∃ g, en = .returned (.slice (some ⟨g, 0, none⟩) n (n + 3)) ∧ w'.ownsRow w.heap.size e sz (.slice (some ⟨g, 0, none⟩) (n + 3) (n + 3)) (n + 3) (xs ++ (x ++ (x ++ x))) ∧ Below w.heap.size w w'
end Go.Proofs.YtcemkikgaeghjaaGreatDoor
namespace Go.Proofs.YtcemkikgaeghjaaGreatDoor

theorem treeOk_nil : treeOk [] = true := treeOk_iff.2 ⟨by simp, fun _ h => by simp at h, fun i a b h => by simp at h, fun _ h => by simp at h⟩
theorem within_self (p : Bs) : within p p = false := by
  cases h : within p p with
  | false => rfl
  | true => exact absurd (within_lt h) (Nat.lt_irrefl _)
theorem sortedIn_len (l : List FV) (f : FV) : (sortedIn l f).length = l.length + 1 := by
  have := congrArg List.length (List.takeWhile_append_dropWhile (p := lessF f) (l := l))
  rw [List.length_append] at this
  rw [sortedIn, List.length_append, List.length_cons]
  omega
theorem putF_len (l : List FV) (f : FV) : (putF l f).1.length ≤ l.length + 1 := by
  unfold putF
  have := sortedIn_len l f
  have := sortedIn_len (without l f.path) f
  have := without_len l f.path
  repeat' split
  all_goals simp only [List.length_nil] <;> omega
def file71 : FV := ⟨⟨#[55, 49]⟩, false, ⟨#[]⟩⟩
theorem run_neqF (x y : FV) (w : World) : (binOp .neq 28 (.agg #[.string x.path, .bool x.exec, .string x.text]) (.agg #[.string y.path, .bool y.exec, .string y.text])).run Tryz.prog w = .ok (.bool (!decide (x = y))) w := by
  rw [run_neq_struct, eqF_run]; rfl
theorem without_mem {l : List FV} {p : ByteArray} {g : FV} : g ∈ without l p ↔ g ∈ l ∧ g.path ≠ p := by simp [without, List.mem_filter]
theorem without_rise {l : List FV} (h : Rise l) (p : ByteArray) : Rise (without l p) := rise_of_pair (h.pair.sublist List.filter_sublist)
theorem sortedIn_mem {l : List FV} {f g : FV} : g ∈ sortedIn l f ↔ g = f ∨ g ∈ l := by
  rw [sortedIn, List.mem_append, List.mem_cons]
  conv => rhs; rw [← List.takeWhile_append_dropWhile (p := lessF f) (l := l), List.mem_append]
  constructor
  · rintro (h | h | h)
    · exact .inr (.inl h)
    · exact .inl h
    · exact .inr (.inr h)
  · rintro (h | h | h)
    · exact .inr (.inl h)
    · exact .inl h
    · exact .inr (.inr h)
theorem hasP_mem {l : List FV} {p : ByteArray} (h : hasP l p = false) {g : FV} (hg : g ∈ l) : g.path ≠ p := fun e => by
  have := hasP_iff.2 ⟨g, hg, e⟩
  rw [h] at this; cases this
theorem place_new {l : List FV} (hr : Rise l) {f : FV} (hn : hasP l f.path = false) : ∃ a b : List FV, l = a ++ b ∧ sortedIn l f = a ++ f :: b ∧ (∀ x ∈ a, x.p < f.p) ∧ ∀ x ∈ b, f.p < x.p := by
  refine ⟨l.takeWhile (lessF f), l.dropWhile (lessF f), (List.takeWhile_append_dropWhile).symm, rfl, fun x hx => ?_, fun x hx => ?_⟩
  · have : ∀ {l : List FV} {x : FV}, x ∈ l.takeWhile (lessF f) → lessF f x = true := by
      intro l
      induction l with
      | nil => intro x h; cases h
      | cons y l ih =>
        intro x h
        rw [List.takeWhile_cons] at h
        split at h
        · rename_i hy
          rcases List.mem_cons.1 h with rfl | h
          · exact hy
          · exact ih h
        · cases h
    exact of_decide_eq_true (this hx)
  · have : ∀ {l : List FV}, (l.Pairwise fun a b => a.p < b.p) → (∀ y ∈ l, y.path ≠ f.path) → ∀ x ∈ l.dropWhile (lessF f), f.p < x.p := by
      intro l
      induction l with
      | nil => intro _ _ x h; cases h
      | cons y l ih =>
        intro hp hne x h
        have hp2 := List.pairwise_cons.1 hp
        rw [List.dropWhile_cons] at h
        split at h
        · exact ih hp2.2 (fun z hz => hne z (List.mem_cons_of_mem _ hz)) x h
        · rename_i hy
          have hyf : f.p < y.p := by
            rcases bs_tri y.p f.p with e | e | e
            · exact absurd (decide_eq_true e) hy
            · exact absurd (FV.p_inj.1 e) (hne y (by simp))
            · exact e
          rcases List.mem_cons.1 h with rfl | h
          · exact hyf
          · exact lt_trans_bs hyf (hp2.1 x h)
    exact this hr.pair (fun y hy => hasP_mem hn hy) x hx
theorem sortedIn_rise {l : List FV} (hr : Rise l) {f : FV} (hn : hasP l f.path = false) : Rise (sortedIn l f) := by
  obtain ⟨a, b, e, e2, ha, hb⟩ := place_new hr hn
  have hp := hr.pair
  rw [e, List.pairwise_append] at hp
  rw [e2]
  refine rise_of_pair (List.pairwise_append.2 ⟨hp.1, List.pairwise_cons.2 ⟨hb, hp.2.1⟩, fun x hx y hy => ?_⟩)
  rcases List.mem_cons.1 hy with rfl | hy
  · exact ha x hx
  · exact lt_trans_bs (ha x hx) (hb y hy)
theorem hasP_without (l : List FV) (p : ByteArray) : hasP (without l p) p = false := by
  cases h : hasP (without l p) p with
  | false => rfl
  | true =>
    obtain ⟨g, hg, e⟩ := hasP_iff.1 h
    exact absurd e (without_mem.1 hg).2
theorem rise_inj {l : List FV} (hr : Rise l) {f g : FV} (hf : f ∈ l) (hg : g ∈ l) (e : f.path = g.path) : f = g := by
  obtain ⟨i, hi, rfl⟩ := List.getElem_of_mem hf
  obtain ⟨j, hj, rfl⟩ := List.getElem_of_mem hg
  rcases Nat.lt_trichotomy i j with h | h | h
  · exact absurd (FV.p_inj.2 e) (ne_of_lt_bs (hr.lt h (List.getElem?_eq_getElem hi) (List.getElem?_eq_getElem hj)))
  · subst h; rfl
  · exact absurd (FV.p_inj.2 e).symm (ne_of_lt_bs (hr.lt h (List.getElem?_eq_getElem hj) (List.getElem?_eq_getElem hi)))
theorem findP_iff {l : List FV} (hr : Rise l) {p : ByteArray} {g : FV} : findP l p = some g ↔ g ∈ l ∧ g.path = p := by
  constructor
  · exact findP_some
  · rintro ⟨hg, e⟩
    cases h : findP l p with
    | none =>
      have := findP_none.1 h
      exact absurd e (hasP_mem this hg)
    | some x =>
      obtain ⟨hx, ex⟩ := findP_some h
      rw [rise_inj hr hx hg (ex.trans e.symm)]
theorem rise_uniq : ∀ {a b : List FV}, (a.Pairwise fun x y => x.p < y.p) → (b.Pairwise fun x y => x.p < y.p) → (∀ x, x ∈ a ↔ x ∈ b) → a = b
  | [], [], _, _, _ => rfl
  | [], y :: b, _, _, h => absurd ((h y).2 (by simp)) (by simp)
  | x :: a, [], _, _, h => absurd ((h x).1 (by simp)) (by simp)
  | x :: a, y :: b, ha, hb, h => by
    have ha2 := List.pairwise_cons.1 ha
    have hb2 := List.pairwise_cons.1 hb
    have hxy : x = y := by
      rcases List.mem_cons.1 ((h x).1 (by simp)) with e | h1
      · exact e
      · rcases List.mem_cons.1 ((h y).2 (by simp)) with e | h2
        · exact e.symm
        · exact absurd (lt_trans_bs (ha2.1 y h2) (hb2.1 x h1)) (not_lt_self _)
    subst hxy
    refine congrArg _ (rise_uniq ha2.2 hb2.2 fun z => ?_)
    constructor
    · intro hz
      rcases List.mem_cons.1 ((h z).1 (by simp [hz])) with e | h1
      · subst e; exact absurd (ha2.1 _ hz) (not_lt_self _)
      · exact h1
    · intro hz
      rcases List.mem_cons.1 ((h z).2 (by simp [hz])) with e | h1
      · subst e; exact absurd (hb2.1 _ hz) (not_lt_self _)
      · exact h1
structure PutOk (l : List FV) (f : FV) : Prop where
  tree : treeOk l = true
  path : pathOk f.p = true
  text : f.text.size ≤ 20000
  clash : clashF l f.path = false
  room : hasP l f.path = true ∨ l.length < 100
theorem clash_old {l : List FV} (h : treeOk l = true) {p : ByteArray} (hp : hasP l p = true) : clashF l p = false := by
  obtain ⟨g, hg, e⟩ := hasP_iff.1 hp
  obtain ⟨_, _, h3, h4⟩ := treeOk_iff.1 h
  cases hc : clashF l p with
  | false => rfl
  | true =>
    simp only [clashF, List.any_eq_true, Bool.and_eq_true] at hc
    obtain ⟨x, hx, h1, h2⟩ := hc
    have hne : ¬ x.path = p := by simpa using h1
    have e2 : p.data.toList = g.p := by rw [← e]; rfl
    rw [e2] at h2
    simp only [clashP, h4 x hx g hg, h4 g hg x hx, Bool.or_false, decide_eq_true_eq] at h2
    exact absurd ((FV.p_inj.1 h2).trans e) hne
theorem putF_ok {l : List FV} {f : FV} (h : PutOk l f) : putF l f = (sortedIn (without l f.path) f, 0) := by
  have h1 : ¬ treeOk l = false := by rw [h.tree]; decide
  have h2 : ¬ pathOk f.p = false := by rw [h.path]; decide
  have h3 : ¬ 20000 < f.text.size := Nat.not_lt.2 h.text
  rw [putF, if_neg h1, if_neg h2, if_neg h3]
  by_cases e : hasP l f.path = true
  · rw [if_pos e]
  · have e2 : hasP l f.path = false := by simpa using e
    have h5 : ¬ 100 ≤ l.length := by rcases h.room with h | h; exact absurd h e; omega
    have h4 : ¬ clashF l f.path = true := by rw [h.clash]; decide
    rw [if_neg e, if_neg h4, if_neg h5, without_none e2]
theorem putF_no {l : List FV} {f : FV} (h : ¬ PutOk l f) : (putF l f).2 ≠ 0 ∧ (putF l f).1 = [] := by
  unfold putF
  split
  · exact ⟨by decide, rfl⟩
  · split
    · exact ⟨by decide, rfl⟩
    · split
      · exact ⟨by decide, rfl⟩
      · rename_i a b c
        have a' : treeOk l = true := by simpa using a
        have b' : pathOk f.p = true := by simpa using b
        have c' : f.text.size ≤ 20000 := by omega
        split
        · rename_i d
          exact absurd ⟨a', b', c', clash_old a' d, .inl d⟩ h
        · split
          · exact ⟨by decide, rfl⟩
          · split
            · exact ⟨by decide, rfl⟩
            · rename_i d e g
              exact absurd ⟨a', b', c', by simpa using e, .inr (by omega)⟩ h
theorem PutOk.tree_put {l : List FV} {f : FV} (h : PutOk l f) : treeOk (sortedIn (without l f.path) f) = true := by
  obtain ⟨h1, h2, h3, h4⟩ := treeOk_iff.1 h.tree
  have hc : ∀ g ∈ without l f.path, clashP g.p f.p = false := fun g hg => by
    obtain ⟨h5, h6⟩ := without_mem.1 hg
    have h7 := List.any_eq_false.1 h.clash g h5
    have h8 : clashP g.p f.path.data.toList = false := by simpa [h6] using h7
    exact h8
  refine treeOk_iff.2 ⟨?_, fun g hg => ?_, sortedIn_rise (without_rise h3 _) (hasP_without l f.path), fun a ha b hb => ?_⟩
  · rw [sortedIn_len]
    rcases h.room with hp | hp
    · obtain ⟨g, hg, e⟩ := hasP_iff.1 hp
      have : (without l f.path).length < l.length := List.length_filter_lt_length_iff_exists.2 ⟨g, hg, by simp [e]⟩
      omega
    · have := without_len l f.path
      omega
  · rcases sortedIn_mem.1 hg with rfl | hg
    · exact ⟨h.path, h.text⟩
    · exact h2 g (without_mem.1 hg).1
  · rcases sortedIn_mem.1 ha with rfl | ha
    · rcases sortedIn_mem.1 hb with rfl | hb
      · exact within_self _
      · have := hc b hb
        simp only [clashP, Bool.or_eq_false_iff] at this
        exact this.2
    · rcases sortedIn_mem.1 hb with rfl | hb
      · have := hc a ha
        simp only [clashP, Bool.or_eq_false_iff] at this
        exact this.1.2
      · exact h4 a (without_mem.1 ha).1 b (without_mem.1 hb).1
/-! ### a tree of raw files -/
noncomputable def playStep (out : List FV) (f : FV) : List FV := if 2000 < f.text.size then out else if (putF out f).2 = 0 then (putF out f).1 else out
noncomputable def playF (l : List FV) : List FV := (l.take 30).foldl playStep []
theorem playStep_ok {out : List FV} (h : treeOk out = true) (f : FV) : treeOk (playStep out f) = true ∧ (playStep out f).length ≤ out.length + 1 := by
  unfold playStep
  split
  · exact ⟨h, by omega⟩
  · split
    · rename_i h2
      by_cases hk : PutOk out f
      · refine ⟨?_, putF_len out f⟩
        rw [putF_ok hk]; exact hk.tree_put
      · exact absurd h2 (putF_no hk).1
    · exact ⟨h, by omega⟩
theorem playFold_ok : ∀ (l : List FV) {out : List FV}, treeOk out = true → treeOk (l.foldl playStep out) = true ∧ (l.foldl playStep out).length ≤ out.length + l.length
  | [], _, h => ⟨h, by simp⟩
  | f :: l, out, h => by
    obtain ⟨h1, h2⟩ := playStep_ok h f
    obtain ⟨h3, h4⟩ := playFold_ok l h1
    refine ⟨h3, ?_⟩
    rw [List.foldl_cons, List.length_cons]; omega
theorem playF_ok (l : List FV) : treeOk (playF l) = true := (playFold_ok _ treeOk_nil).1
theorem playF_len (l : List FV) : (playF l).length ≤ 30 := by
  have h1 := (playFold_ok (l.take 30) treeOk_nil).2
  have h2 := List.length_take_le 30 l
  simp only [List.length_nil] at h1
  unfold playF
  omega
end Go.Proofs.YtcemkikgaeghjaaGreatDoor
namespace Go.Proofs.YtcemkikgaeghjaaGreatDoor

def kindF (b o t : List ByteArray) : Int := if o = b then 3 else if t = b then 2 else if o = t then 4 else 5
def betweenF (b o t : List ByteArray) : List KV := if b.length + o.length + t.length = 0 then [] else [⟨kindF b o t, b, o, t⟩]
def runF : List (Option Nat × Option Nat) → Nat → Nat → Nat
  | (some x, some y) :: zs, p, q => if x = p ∧ y = q then runF zs (p + 1) (q + 1) + 1 else 0
  | _, _, _ => 0
def goF (base ours theirs : List ByteArray) (zs : List (Option Nat × Option Nat)) : Nat → Nat → Nat → Nat → Nat → List KV
  | 0, _, b, o, t => betweenF (base.drop b) (ours.drop o) (theirs.drop t)
  | fuel + 1, i, b, o, t =>
    match zs[i]? with
    | none => betweenF (base.drop b) (ours.drop o) (theirs.drop t)
    | some (some x, some y) =>
      let n := runF (zs.drop (i + 1)) (x + 1) (y + 1) + 1
      betweenF (sliceF base b i) (sliceF ours o x) (sliceF theirs t y) ++ ⟨1, sliceF base i (i + n), sliceF base i (i + n), sliceF base i (i + n)⟩ :: goF base ours theirs zs fuel (i + n) (i + n) (x + n) (y + n)
    | some _ => goF base ours theirs zs fuel (i + 1) b o t
def chunksF (base ours theirs : List ByteArray) : List KV := goF base ours theirs ((placeF base ours).zip (placeF base theirs)) base.length 0 0 0 0
def cleanF (l : List KV) : Bool := l.all fun c => decide (c.kind ≠ 5)
def mergedF (l : List KV) : List ByteArray := l.flatMap fun c => if c.kind = 3 then c.theirs else c.ours
def endedF (s : Bs) : Bs := if s = [] ∨ s.getLast? = some 10 then s else s ++ [10]
def markO : Bs := [60, 60, 60, 60, 60, 60, 60, 32, 111, 117, 114, 115, 10]
def markB : Bs := [124, 124, 124, 124, 124, 124, 124, 32, 98, 97, 115, 101, 10]
def markT : Bs := [61, 61, 61, 61, 61, 61, 61, 10]
def markE : Bs := [62, 62, 62, 62, 62, 62, 62, 32, 116, 104, 101, 105, 114, 115, 10]
def catF (l : List ByteArray) : Bs := l.flatMap fun x => x.data.toList
def clashTextF (out : Bs) (c : KV) : Bs := if c.kind ≠ 5 then out ++ catF (mergedF [c]) else
  endedF (endedF (endedF (endedF out ++ markO ++ catF c.ours) ++ markB ++ catF c.base) ++ markT ++ catF c.theirs) ++ markE
def merge3F (b o t : ByteArray) : ByteArray × Bool :=
  let l := chunksF (linesF b) (linesF o) (linesF t)
  if cleanF l = true then (joinF (mergedF l), true) else (ofB (l.foldl clashTextF []), false)

/-! ### renames -/
def ratioF (a b : ByteArray) : Int :=
  let x := linesF a; let y := linesF b
  if 400 < x.length ∨ 400 < y.length then 0 else if x.length + y.length = 0 then 100 else ((200 * lcs x y / (x.length + y.length) : Nat) : Int)
def loneF (l other : List FV) : List Nat := (List.range l.length).filter fun i => match l[i]? with
  | some f => (findP other f.path).isNone && !decide (f.text = ⟨#[]⟩)
  | none => false
def textAt (l : List FV) (i : Nat) : ByteArray := ((l[i]?).map FV.text).getD ⟨#[]⟩
def sameF (base side : List FV) : List Nat → List Nat → List (Nat × Nat) × List Nat × List Nat
  | [], js => ([], [], js)
  | i :: is, js =>
    match js.find? fun j => decide (textAt side j = textAt base i) with
    | some j => let r := sameF base side is (js.filter fun k => decide (k ≠ j)); ((i, j) :: r.1, r.2.1, r.2.2)
    | none => let r := sameF base side is js; (r.1, i :: r.2.1, r.2.2)
def bestF (base side : List FV) (is js : List Nat) : Option (Nat × Nat) :=
  ((is.flatMap fun i => js.map fun j => (i, j)).foldl (fun (b : Option (Nat × Nat) × Int) p => let r := ratioF (textAt base p.1) (textAt side p.2); if b.2 < r then (some p, r) else b) (none, 49)).1
def alikeF (base side : List FV) : Nat → List Nat → List Nat → List (Nat × Nat)
  | 0, _, _ => []
  | n + 1, is, js =>
    match bestF base side is js with
    | none => []
    | some p => p :: alikeF base side n (is.filter fun k => decide (k ≠ p.1)) (js.filter fun k => decide (k ≠ p.2))
def pairsF (base side : List FV) : List (Nat × Nat) :=
  let s := sameF base side (loneF base side) (loneF side base)
  s.1 ++ alikeF base side s.2.1.length s.2.1 s.2.2
def movedF (base side : List FV) (p : ByteArray) : Option ByteArray :=
  ((pairsF base side).find? fun q => decide (((base[q.1]?).map FV.path) = some p)).bind fun q => (side[q.2]?).map FV.path

/-! ### three trees in one -/
structure CL where
  path : ByteArray
  kind : Int
  text : ByteArray
deriving DecidableEq
def whereF (base side : List FV) (f : FV) : Option FV :=
  match findP side f.path with
  | some x => some x
  | none => (movedF base side f.path).bind fun d => findP side d
def addedF (base side : List FV) : List FV := side.filter fun f => (findP base f.path).isNone && !((pairsF base side).any fun q => decide (((side[q.2]?).map FV.path) = some f.path))
def putM (m : List FV × List CL) (f : FV) (kind : Int) : List FV × List CL :=
  if (m.1.any fun x => clashP x.p f.p) = true then (m.1, m.2 ++ [⟨f.path, 5, f.text⟩])
  else (m.1 ++ [f], if kind = 0 then m.2 else m.2 ++ [⟨f.path, kind, f.text⟩])
def bothM (m : List FV × List CL) (f o t : FV) : List FV × List CL :=
  let path := if o.path = f.path then t.path else o.path
  let kind : Int := if o.path = f.path then 0 else if t.path ≠ f.path ∧ t.path ≠ o.path then 4 else 0
  let exec := if o.exec = f.exec then t.exec else o.exec
  let r := merge3F f.text o.text t.text
  putM m ⟨path, exec, r.1⟩ (if r.2 = false ∧ kind = 0 then 1 else kind)
def keptM (base a b : List FV) (m : List FV × List CL) (f : FV) : List FV × List CL :=
  match whereF base a f, whereF base b f with
  | some x, some y => bothM m f x y
  | some x, none => if x = f then m else putM m x 3
  | none, some y => if y = f then m else putM m y 3
  | none, none => m
def addOne (theirs : List FV) (m : List FV × List CL) (x : FV) : List FV × List CL :=
  match findP theirs x.path with
  | none => putM m x 0
  | some y => if x = y then putM m x 0 else putM m ⟨x.path, x.exec, (merge3F ⟨#[]⟩ x.text y.text).1⟩ 2
def addM (ours theirs : List FV) (m : List FV × List CL) : List FV × List CL :=
  (theirs.filter fun y => (findP ours y.path).isNone).foldl (fun m y => putM m y 0) (ours.foldl (addOne theirs) m)
def wholeF (base a b : List FV) : List FV × List CL := addM (addedF base a) (addedF base b) (base.foldl (keptM base a b) ([], []))
def sortC (l : List CL) : List CL := l.foldl (fun out c => out.takeWhile (fun x => decide (x.path.data.toList ≤ c.path.data.toList)) ++ c :: out.dropWhile (fun x => decide (x.path.data.toList ≤ c.path.data.toList))) []
def sortF (l : List FV) : List FV := l.foldl (fun out f => sortedIn out f) []
noncomputable def treemergeF (base a b : List FV) : List FV × List CL × Int :=
  if treeOk base = false ∨ treeOk a = false ∨ treeOk b = false then ([], [], 5) else
  if treeOk (sortF (wholeF base a b).1) = false then ([], [], 6) else (sortF (wholeF base a b).1, sortC (wholeF base a b).2, 0)
end Go.Proofs.YtcemkikgaeghjaaGreatDoor
namespace Go.Proofs.YtcemkikgaeghjaaGreatDoor

theorem lcs_sub : ∀ (a b : List ByteArray), ∃ s : List ByteArray, s.Sublist a ∧ s.Sublist b ∧ s.length = lcs a b
  | [], b => ⟨[], List.nil_sublist _, List.nil_sublist _, by simp [lcs]⟩
  | x :: a, [] => ⟨[], List.nil_sublist _, List.nil_sublist _, by simp [lcs]⟩
  | x :: a, y :: b => by
    rw [lcs]
    split
    · rename_i e
      subst e
      obtain ⟨s, h1, h2, h3⟩ := lcs_sub a b
      exact ⟨x :: s, h1.cons_cons x, h2.cons_cons x, by rw [List.length_cons, h3]⟩
    · rcases Nat.le_total (lcs a (y :: b)) (lcs (x :: a) b) with h | h
      · obtain ⟨s, h1, h2, h3⟩ := lcs_sub (x :: a) b
        exact ⟨s, h1, h2.cons y, by rw [h3, Nat.max_eq_right h]⟩
      · obtain ⟨s, h1, h2, h3⟩ := lcs_sub a (y :: b)
        exact ⟨s, h1.cons x, h2, by rw [h3, Nat.max_eq_left h]⟩
termination_by a b => a.length + b.length
theorem sub_tail {x z : ByteArray} {s a : List ByteArray} (h : (z :: s).Sublist (x :: a)) : s.Sublist a ∧ (z ≠ x → (z :: s).Sublist a) := by
  cases h with
  | cons _ h => exact ⟨(List.sublist_cons_self z s).trans h, fun _ => h⟩
  | cons_cons _ h => exact ⟨h, fun e => absurd rfl e⟩
theorem lcs_max : ∀ (a b s : List ByteArray), s.Sublist a → s.Sublist b → s.length ≤ lcs a b
  | [], b, s, h1, _ => by rw [List.sublist_nil.1 h1]; simp
  | x :: a, [], s, _, h2 => by rw [List.sublist_nil.1 h2]; simp
  | x :: a, y :: b, [], _, _ => by simp
  | x :: a, y :: b, z :: s, h1, h2 => by
    obtain ⟨a1, a2⟩ := sub_tail h1
    obtain ⟨b1, b2⟩ := sub_tail h2
    rw [lcs]
    split
    · have := lcs_max a b s a1 b1
      rw [List.length_cons]; omega
    · rename_i e
      by_cases hz : z = x
      · have hy : z ≠ y := fun h => e (hz ▸ h)
        have := lcs_max (x :: a) b (z :: s) h1 (b2 hy)
        omega
      · have := lcs_max a (y :: b) (z :: s) (a2 hz) h2
        omega
termination_by a b => a.length + b.length
theorem sub_last {x : ByteArray} {s a : List ByteArray} (h : s.Sublist (a ++ [x])) : s.dropLast.Sublist a := by
  have h1 := h.reverse
  rw [List.reverse_append] at h1
  have h2 : s.reverse.tail.Sublist a.reverse := by
    cases hs : s.reverse with
    | nil => exact List.nil_sublist _
    | cons z r =>
      rw [hs] at h1
      exact (sub_tail h1).1
  have h3 := h2.reverse
  rw [List.reverse_reverse] at h3
  rw [← List.reverse_reverse s, List.dropLast_reverse]
  exact h3
theorem lcs_last (x : ByteArray) (a b : List ByteArray) : lcs (a ++ [x]) (b ++ [x]) = lcs a b + 1 := by
  refine Nat.le_antisymm ?_ ?_
  · obtain ⟨s, h1, h2, h3⟩ := lcs_sub (a ++ [x]) (b ++ [x])
    have := lcs_max a b s.dropLast (sub_last h1) (sub_last h2)
    rw [List.length_dropLast] at this
    omega
  · obtain ⟨s, h1, h2, h3⟩ := lcs_sub a b
    have := lcs_max (a ++ [x]) (b ++ [x]) (s ++ [x]) (h1.append_right [x]) (h2.append_right [x])
    rw [List.length_append, List.length_singleton] at this
    omega
theorem lcs_end : ∀ (c a b : List ByteArray), lcs (a ++ c) (b ++ c) = lcs a b + c.length
  | [], a, b => by simp
  | x :: c, a, b => by
    have := lcs_end c (a ++ [x]) (b ++ [x])
    rw [lcs_last] at this
    rw [List.append_assoc, List.append_assoc] at this
    rw [List.length_cons]
    have e : ∀ l : List ByteArray, l ++ ([x] ++ c) = l ++ x :: c := fun l => rfl
    rw [e, e] at this
    omega
theorem lcs_front : ∀ (c a b : List ByteArray), lcs (c ++ a) (c ++ b) = lcs a b + c.length
  | [], a, b => by simp
  | x :: c, a, b => by
    rw [List.cons_append, List.cons_append, lcs, if_pos rfl, lcs_front c a b, List.length_cons]; omega
def sfx (a b : List ByteArray) : Nat := pfx a.reverse b.reverse
theorem sfx_le (a b : List ByteArray) : sfx a b ≤ a.length ∧ sfx a b ≤ b.length := by
  have : ∀ (a b : List ByteArray), pfx a b ≤ a.length ∧ pfx a b ≤ b.length := by
    intro a
    induction a with
    | nil => intro b; simp [pfx]
    | cons x a ih =>
      intro b
      cases b with
      | nil => simp [pfx]
      | cons y b =>
        rw [pfx]
        have := ih b
        split <;> simp only [List.length_cons] <;> omega
  have h := this a.reverse b.reverse
  rw [List.length_reverse, List.length_reverse] at h
  exact h
theorem sfx_drop (a b : List ByteArray) : a.drop (a.length - sfx a b) = b.drop (b.length - sfx a b) := by
  have h := pfx_take a.reverse b.reverse
  have h1 := congrArg List.reverse h
  rw [List.reverse_take, List.reverse_take, List.reverse_reverse, List.reverse_reverse, List.length_reverse, List.length_reverse] at h1
  exact h1
theorem lcs_parts (a b : List ByteArray) (n m : Nat) (hn : a.take n = b.take n) (_hna : n ≤ a.length) (hnb : n ≤ b.length)
    (hm : (a.drop n).drop ((a.drop n).length - m) = (b.drop n).drop ((b.drop n).length - m)) (hma : m ≤ (a.drop n).length) (_hmb : m ≤ (b.drop n).length) :
    lcs a b = n + m + lcs ((a.drop n).take ((a.drop n).length - m)) ((b.drop n).take ((b.drop n).length - m)) := by
  have e1 : lcs a b = lcs (a.drop n) (b.drop n) + n := by
    have h := lcs_front (a.take n) (a.drop n) (b.drop n)
    rw [List.take_append_drop, hn, List.take_append_drop, List.length_take, Nat.min_eq_left hnb] at h
    exact h
  generalize a.drop n = c at *
  generalize b.drop n = d at *
  have h := lcs_end (c.drop (c.length - m)) (c.take (c.length - m)) (d.take (d.length - m))
  rw [List.take_append_drop, hm, List.take_append_drop, ← hm, List.length_drop] at h
  omega
end Go.Proofs.YtcemkikgaeghjaaGreatDoor
namespace Go.Proofs.YtcemkikgaeghjaaGreatDoor
open Go.RowKit

theorem pfx_at : ∀ {k : Nat} {a b : List ByteArray}, k ≤ a.length → k ≤ b.length → (∀ (i : Nat) (x y : ByteArray), i < k → a[i]? = some x → b[i]? = some y → x = y) → (k = a.length ∨ k = b.length ∨ ∃ x y : ByteArray, a[k]? = some x ∧ b[k]? = some y ∧ x ≠ y) → pfx a b = k
  | 0, [], b, _, _, _, _ => by simp [pfx]
  | 0, x :: a, [], _, _, _, _ => by simp [pfx]
  | 0, x :: a, y :: b, _, _, _, h => by
    have h' : x ≠ y := by
      rcases h with h | h | ⟨u, v, h1, h2, h3⟩
      · simp at h
      · simp at h
      · simp at h1 h2; subst h1; subst h2; exact h3
    rw [pfx, if_neg h']
  | k + 1, [], b, h, _, _, _ => by simp at h
  | k + 1, x :: a, [], _, h, _, _ => by simp at h
  | k + 1, x :: a, y :: b, h1, h2, h3, h4 => by
    have e : x = y := h3 0 x y (by omega) rfl rfl
    rw [pfx, if_pos e, pfx_at (k := k) (by simpa using h1) (by simpa using h2) (fun i u v hi hu hv => h3 (i + 1) u v (by omega) (by simpa using hu) (by simpa using hv)) (by simpa using h4)]
set_option maxRecDepth 100000 in
set_option maxHeartbeats 4000000 in
theorem begin_any {A B : Option Addr} {n ca m cb : Nat} {a b : List ByteArray} {w : World} (hn : n ≤ 17592186044416) (_hm : m ≤ 17592186044416) (ha : Rd w w.heap.size 1 A n ca (a.map .string)) (hb : Rd w w.heap.size 1 B m cb (b.map .string)) :
    Calls Tryz.prog 181 #[.slice A n ca, .slice B m cb] w fun e w' => e = .returned (.int .i64 (pfx a b)) ∧ Below w.heap.size w w' := by
  have hla : a.length = n := by have := ha.len; rw [List.length_map] at this; omega
  have hlb : b.length = m := by have := hb.len; rw [List.length_map] at this; omega
  have HA := Lib.hid hla
  have HB := Lib.hid hlb
  clear hla hlb
  go_enter Tryz.func181, Tryz.ntmps181
  go_wp2
  go_loopw [5] (fun i wr => ∃ k : Nat, k ≤ n ∧ k ≤ m ∧ i = .int .i64 k ∧ Below w.heap.size w wr ∧ Hid (∀ (j : Nat) (x y : ByteArray), j < k → a[j]? = some x → b[j]? = some y → x = y)) (fun i _ => n - (intOf i).toNat)
  case atStart => exact ⟨0, Nat.zero_le _, Nat.zero_le _, rfl, Below.refl _ _, Lib.hid (fun j _ _ hj => absurd hj (Nat.not_lt_zero _))⟩
  case round =>
    obtain ⟨k, hk, hk2, rfl, hbw, hj⟩ := hrel
    have hbd := hbw.drew
    by_cases h1 : k < n
    · by_cases h2 : k < m
      · obtain ⟨b0, o0, x, rfl, hbb, hx, h0⟩ := ha.str h1
        obtain ⟨b1, o1, y, rfl, hbb1, hy, h3⟩ := hb.str h2
        have HX := Lib.hid hx
        have HY := Lib.hid hy
        clear hx hy
        go_wp2
        refine wp_region_q (fun w' => Below w.heap.size w w') (qs 21) mixed (by kernel_rfl) hbd ?_
        intro Tp M Q hT hT' hM hQ
        have m0 : M ⟨b0, o0 + k, none⟩ = some (.string x) := hM _ _ fun w' hw => (hw.cell (p := ⟨b0, o0 + k, none⟩) hbb).trans h0
        have m1 : M ⟨b1, o1 + k, none⟩ = some (.string y) := hM _ _ fun w' hw => (hw.cell (p := ⟨b1, o1 + k, none⟩) hbb1).trans h3
        have k1 : decide ((k : Int) < n) = true := decide_eq_true (by omega)
        have k2 : decide ((k : Int) < m) = true := decide_eq_true (by omega)
        simp only [qcmp]
        by_cases hq : x = y
        · have e1 : (x.toList == y.toList) = true := by rw [hq]; exact beq_self_eq_true _
          have HN := Lib.hid (show ∀ (j : Nat) (u v : ByteArray), j < k + 1 → a[j]? = some u → b[j]? = some v → u = v from fun j u v hj' hu hv => by
            by_cases e : j = k
            · subst e; rw [HX.out] at hu; rw [HY.out] at hv; injection hu with hu; injection hv with hv; rw [← hu, ← hv]; exact hq
            · exact hj.out j u v (by omega) hu hv)
          simp (maxSteps := 5000000) only [↓qpre, qpost, qfacts, qnorm, m0, m1, k1, k2]
          refine ⟨⟨by omega, by omega⟩, ⟨by omega, by omega⟩, hQ _ _ ?_⟩
          clear hQ hT hT' hM m0 m1 k1 k2 e1
          go_wp2
          go_roundw
          case rel => exact ⟨k + 1, by omega, by omega, by go_num, hbd, HN.out⟩
          case measure => simp [intOf]; omega
        · have e1 := ba_ne hq
          have HN := Lib.hid (show pfx a b = k from pfx_at (by have := HA.out; omega) (by have := HB.out; omega) hj.out (.inr (.inr ⟨x, y, HX.out, HY.out, hq⟩)))
          simp (maxSteps := 5000000) only [↓qpre, qpost, qfacts, qnorm, m0, m1, k1, k2]
          refine ⟨⟨by omega, by omega⟩, ⟨by omega, by omega⟩, hQ _ _ ?_⟩
          clear hQ hT hT' hM m0 m1 k1 k2
          go_wp2
          go_ret
          exact ⟨by rw [HN.out]; rfl, hbd⟩
      · have HN := Lib.hid (show pfx a b = k from pfx_at (by have := HA.out; omega) (by have := HB.out; omega) hj.out (.inr (.inl (by have := HB.out; omega))))
        go_wp2
        refine wp_region_q (fun w' => Below w.heap.size w w') (qs 21) mixed (by kernel_rfl) hbd ?_
        intro Tp M Q hT hT' hM hQ
        have k1 : decide ((k : Int) < n) = true := decide_eq_true (by omega)
        have k2 : decide ((k : Int) < m) = false := decide_eq_false (by omega)
        simp only [qcmp]
        simp (maxSteps := 5000000) only [↓qpre, qpost, qfacts, qnorm, k1, k2]
        refine hQ _ _ ?_
        clear hQ hT hT' hM k1 k2
        go_wp2
        go_ret
        exact ⟨by rw [HN.out]; rfl, hbd⟩
    · have HN := Lib.hid (show pfx a b = k from pfx_at (by have := HA.out; omega) (by have := HB.out; omega) hj.out (.inl (by have := HA.out; omega)))
      go_wp2
      refine wp_region_q (fun w' => Below w.heap.size w w') (qs 21) mixed (by kernel_rfl) hbd ?_
      intro Tp M Q hT hT' hM hQ
      have k1 : decide ((k : Int) < n) = false := decide_eq_false (by omega)
      simp only [qcmp]
      simp (maxSteps := 5000000) only [↓qpre, qpost, qfacts, qnorm, k1]
      refine hQ _ _ ?_
      clear hQ hT hT' hM k1
      go_wp2
      go_ret
      exact ⟨by rw [HN.out]; rfl, hbd⟩

theorem sfx_at {k : Nat} {a b : List ByteArray} (h1 : k ≤ a.length) (h2 : k ≤ b.length) (h3 : ∀ (i : Nat) (x y : ByteArray), i < k → a[a.length - 1 - i]? = some x → b[b.length - 1 - i]? = some y → x = y) (h4 : k = a.length ∨ k = b.length ∨ (k < a.length ∧ k < b.length ∧ ∃ x y : ByteArray, a[a.length - 1 - k]? = some x ∧ b[b.length - 1 - k]? = some y ∧ x ≠ y)) : sfx a b = k := by
  refine pfx_at (by simpa using h1) (by simpa using h2) (fun i x y hi hx hy => h3 i x y hi ?_ ?_) ?_
  · rw [List.getElem?_reverse (by omega)] at hx; exact hx
  · rw [List.getElem?_reverse (by omega)] at hy; exact hy
  · rcases h4 with h | h | ⟨g1, g2, x, y, hx, hy, hne⟩
    · left; simpa using h
    · right; left; simpa using h
    · right; right
      exact ⟨x, y, by rw [List.getElem?_reverse g1]; exact hx, by rw [List.getElem?_reverse g2]; exact hy, hne⟩
set_option maxRecDepth 100000 in
set_option maxHeartbeats 4000000 in
theorem end_any {A B : Option Addr} {n ca m cb : Nat} {a b : List ByteArray} {w : World} (hn : n ≤ 17592186044416) (hm : m ≤ 17592186044416) (ha : Rd w w.heap.size 1 A n ca (a.map .string)) (hb : Rd w w.heap.size 1 B m cb (b.map .string)) :
    Calls Tryz.prog 182 #[.slice A n ca, .slice B m cb] w fun e w' => e = .returned (.int .i64 (sfx a b)) ∧ Below w.heap.size w w' := by
  have hla : a.length = n := by have := ha.len; rw [List.length_map] at this; omega
  have hlb : b.length = m := by have := hb.len; rw [List.length_map] at this; omega
  have HA := Lib.hid hla
  have HB := Lib.hid hlb
  clear hla hlb
  go_enter Tryz.func182, Tryz.ntmps182
  go_wp2
  go_loopw [5] (fun i wr => ∃ k : Nat, k ≤ n ∧ k ≤ m ∧ i = .int .i64 k ∧ Below w.heap.size w wr ∧ Hid (∀ (j : Nat) (x y : ByteArray), j < k → a[a.length - 1 - j]? = some x → b[b.length - 1 - j]? = some y → x = y)) (fun i _ => n - (intOf i).toNat)
  case atStart => exact ⟨0, Nat.zero_le _, Nat.zero_le _, rfl, Below.refl _ _, Lib.hid (fun j _ _ hj => absurd hj (Nat.not_lt_zero _))⟩
  case round =>
    obtain ⟨k, hk, hk2, rfl, hbw, hj⟩ := hrel
    have hbd := hbw.drew
    by_cases h1 : k < n
    · by_cases h2 : k < m
      · obtain ⟨b0, o0, x, rfl, hbb, hx, h0⟩ := ha.str (k := n - 1 - k) (by omega)
        obtain ⟨b1, o1, y, rfl, hbb1, hy, h3⟩ := hb.str (k := m - 1 - k) (by omega)
        have HX := Lib.hid (show a[a.length - 1 - k]? = some x by rw [HA.out]; exact hx)
        have HY := Lib.hid (show b[b.length - 1 - k]? = some y by rw [HB.out]; exact hy)
        clear hx hy
        go_wp2
        refine wp_region_q (fun w' => Below w.heap.size w w') (qs 29) mixed (by kernel_rfl) hbd ?_
        intro Tp M Q hT hT' hM hQ
        have m0 : M ⟨b0, o0 + (n - 1 - k), none⟩ = some (.string x) := hM _ _ fun w' hw => (hw.cell (p := ⟨b0, o0 + (n - 1 - k), none⟩) hbb).trans h0
        have m1 : M ⟨b1, o1 + (m - 1 - k), none⟩ = some (.string y) := hM _ _ fun w' hw => (hw.cell (p := ⟨b1, o1 + (m - 1 - k), none⟩) hbb1).trans h3
        have k1 : decide ((k : Int) < n) = true := decide_eq_true (by omega)
        have k2 : decide ((k : Int) < m) = true := decide_eq_true (by omega)
        have i1 : (n : Int) - 1 - k = ((n - 1 - k : Nat) : Int) := by omega
        have i2 : (m : Int) - 1 - k = ((m - 1 - k : Nat) : Int) := by omega
        simp only [qcmp]
        by_cases hq : x = y
        · have e1 : (x.toList == y.toList) = true := by rw [hq]; exact beq_self_eq_true _
          have HN := Lib.hid (show ∀ (j : Nat) (u v : ByteArray), j < k + 1 → a[a.length - 1 - j]? = some u → b[b.length - 1 - j]? = some v → u = v from fun j u v hj' hu hv => by
            by_cases e : j = k
            · subst e; rw [HX.out] at hu; rw [HY.out] at hv; injection hu with hu; injection hv with hv; rw [← hu, ← hv]; exact hq
            · exact hj.out j u v (by omega) hu hv)
          simp (maxSteps := 5000000) only [↓qpre, qpost, qfacts, qnorm, i1, i2, m0, m1, k1, k2]
          (repeat (refine And.intro (by first | omega | (unfold inI64; omega)) ?_))
          refine hQ _ _ ?_
          clear hQ hT hT' hM m0 m1 k1 k2 e1
          go_wp2
          go_roundw
          case rel => exact ⟨k + 1, by omega, by omega, by go_num, hbd, HN.out⟩
          case measure => simp [intOf]; omega
        · have e1 := ba_ne hq
          have HN := Lib.hid (show sfx a b = k from sfx_at (by have := HA.out; omega) (by have := HB.out; omega) hj.out (.inr (.inr ⟨by have := HA.out; omega, by have := HB.out; omega, x, y, HX.out, HY.out, hq⟩)))
          simp (maxSteps := 5000000) only [↓qpre, qpost, qfacts, qnorm, i1, i2, m0, m1, k1, k2]
          (repeat (refine And.intro (by first | omega | (unfold inI64; omega)) ?_))
          refine hQ _ _ ?_
          clear hQ hT hT' hM m0 m1 k1 k2
          go_wp2
          go_ret
          exact ⟨by rw [HN.out]; rfl, hbd⟩
      · have HN := Lib.hid (show sfx a b = k from sfx_at (by have := HA.out; omega) (by have := HB.out; omega) hj.out (.inr (.inl (by have := HB.out; omega))))
        go_wp2
        refine wp_region_q (fun w' => Below w.heap.size w w') (qs 29) mixed (by kernel_rfl) hbd ?_
        intro Tp M Q hT hT' hM hQ
        have k1 : decide ((k : Int) < n) = true := decide_eq_true (by omega)
        have k2 : decide ((k : Int) < m) = false := decide_eq_false (by omega)
        simp only [qcmp]
        simp (maxSteps := 5000000) only [↓qpre, qpost, qfacts, qnorm, k1, k2]
        refine hQ _ _ ?_
        clear hQ hT hT' hM k1 k2
        go_wp2
        go_ret
        exact ⟨by rw [HN.out]; rfl, hbd⟩
    · have HN := Lib.hid (show sfx a b = k from sfx_at (by have := HA.out; omega) (by have := HB.out; omega) hj.out (.inl (by have := HA.out; omega)))
      go_wp2
      refine wp_region_q (fun w' => Below w.heap.size w w') (qs 29) mixed (by kernel_rfl) hbd ?_
      intro Tp M Q hT hT' hM hQ
      have k1 : decide ((k : Int) < n) = false := decide_eq_false (by omega)
      simp only [qcmp]
      simp (maxSteps := 5000000) only [↓qpre, qpost, qfacts, qnorm, k1]
      refine hQ _ _ ?_
      clear hQ hT hT' hM k1
      go_wp2
      go_ret
      exact ⟨by rw [HN.out]; rfl, hbd⟩
end Go.Proofs.YtcemkikgaeghjaaGreatDoor
