/- Texts of the walks, together: Plain laws: one file moved, deleted, added. Plain law: what awake of the laws of merged trees asks. Walk: play.Tree. Walks: few and awake of the laws of merged trees. Walk: the law TreemergeDeletes. The world in which the tables of unicode/utf8 lie as the program lays them. -/
import Derived.Test.YtcemkikgaeghjaaGreatDoorRows
import Derived.Test.YtcemkikgaeghjaaGreatDoorCards
import Derived.Test.YtcemkikgaeghjaaGreatDoorTie
import Derived.ProofKit
import Derived.OpenShut
import Derived.Deep.DeepHandedRow
import Derived.SevenTiedAt
import Derived.Test.YtcemkikgaeghjaaGreatDoorG02
import Derived.Test.YtcemkikgaeghjaaGreatDoorG08
import Derived.Test.YtcemkikgaeghjaaGreatDoorG33
namespace Go.Proofs.YtcemkikgaeghjaaGreatDoor

theorem tree_one {f : FV} (h : FileOk f) : treeOk [f] = true := by
  refine treeOk_iff.2 ⟨by simp, fun g hg => ?_, rise_of_pair (List.pairwise_singleton _ _), fun g hg k hk => ?_⟩
  · simp only [List.mem_singleton] at hg; subst hg; exact h
  · simp only [List.mem_singleton] at hg hk; subst hg; subst hk; exact within_self _
theorem pairs_right (a : List FV) : pairsF a [] = [] := by
  refine List.eq_nil_iff_forall_not_mem.2 fun q hq => ?_
  obtain ⟨f, h, _⟩ := lone_mem.1 ((pairsF_ok a []).into q hq)
  simp at h
theorem pairs_left (b : List FV) : pairsF [] b = [] := by
  refine List.eq_nil_iff_forall_not_mem.2 fun q hq => ?_
  obtain ⟨f, h, _⟩ := lone_mem.1 ((pairsF_ok [] b).from_ q hq)
  simp at h
theorem pairs_sub {a b : List FV} (h : ∀ f ∈ a, findP b f.path ≠ none) : pairsF a b = [] := by
  refine List.eq_nil_iff_forall_not_mem.2 fun q hq => ?_
  obtain ⟨f, h1, h2, _⟩ := lone_mem.1 ((pairsF_ok a b).from_ q hq)
  exact h f (List.mem_of_getElem? h1) h2
theorem find_one (g : FV) (p : ByteArray) : findP [g] p = if g.path = p then some g else none := by
  unfold findP
  rw [List.find?_cons]
  by_cases h : g.path = p <;> simp [h]
theorem tm_of {a b c : List FV} {fs : List FV} {cl : List CL} (ha : treeOk a = true) (hb : treeOk b = true) (hc : treeOk c = true) (h : wholeF a b c = (fs, cl)) (ht : treeOk (sortF fs) = true) : treemergeF a b c = (sortF fs, sortC cl, 0) := by
  rw [treemergeF, if_neg (by rw [ha, hb, hc]; simp), h]
  dsimp only
  rw [if_neg (by rw [ht]; decide)]
theorem sort_one (f : FV) : sortF [f] = [f] := rfl
theorem sortC_one (c : CL) : sortC [c] = [c] := rfl

/-! ### deleted -/
theorem del_same {f : FV} (h : FileOk f) : treemergeF [f] [] [f] = ([], [], 0) := by
  have hw : wholeF [f] [] [f] = ([], []) := by
    rw [whole_acts]
    have e : acts [f] [] [f] = [] := by
      unfold acts
      have h1 : [f].filterMap (actK [f] [] [f]) = [] := by
        rw [List.filterMap_cons]
        have : actK [f] [] [f] f = none := by
          unfold actK
          rw [where_plain (pairs_right _), where_plain (pairs_sub (fun g hg => by simp only [List.mem_singleton] at hg; subst hg; rw [find_one, if_pos rfl]; simp)), find_one, if_pos rfl]
          show (match (none : Option FV), some f with | some x, some y => some (bothOut f x y) | some x, none => if x = f then none else some (x, 3) | none, some y => if y = f then none else some (y, 3) | none, none => none) = none
          simp
        rw [this]; rfl
      have h2 : addedF [f] [] = [] := rfl
      have h3 : addedF [f] [f] = [] := added_self (treeOk_iff.1 (tree_one h)).2.2.1
      rw [h1, h2, h3]; rfl
    rw [e]; rfl
  exact tm_of (tree_one h) treeOk_nil (tree_one h) hw treeOk_nil
theorem del_other {f g : FV} (h : FileOk f) (hg : FileOk g) (hp : g.path = f.path) (hne : g ≠ f) :
    treemergeF [f] [] [g] = ([g], [⟨g.path, 3, g.text⟩], 0) ∧ treemergeF [f] [g] [] = ([g], [⟨g.path, 3, g.text⟩], 0) := by
  have hs : pairsF [f] [g] = [] := pairs_sub fun x hx => by simp only [List.mem_singleton] at hx; subst hx; rw [find_one, if_pos hp]; simp
  have ha : addedF [f] [g] = [] := by
    refine List.eq_nil_iff_forall_not_mem.2 fun x hx => ?_
    obtain ⟨h1, h2⟩ := (added_plain hs).1 hx
    simp only [List.mem_singleton] at h1
    subst h1
    rw [find_one, if_pos hp.symm] at h2
    cases h2
  have hput : putX ([], []) (g, 3) = ([g], [⟨g.path, 3, g.text⟩]) := rfl
  have one : ∀ {b c : List FV}, acts [f] b c = [(g, 3)] → treeOk b = true → treeOk c = true → treemergeF [f] b c = ([g], [⟨g.path, 3, g.text⟩], 0) := fun {b c} e hb hc => by
    have hw : wholeF [f] b c = ([g], [⟨g.path, 3, g.text⟩]) := by rw [whole_acts, e]; exact hput
    have := tm_of (tree_one h) hb hc hw (tree_one hg)
    rw [sort_one, sortC_one] at this
    exact this
  constructor
  · refine one ?_ treeOk_nil (tree_one hg)
    unfold acts
    have h1 : actK [f] [] [g] f = some (g, 3) := by
      unfold actK
      rw [where_plain (pairs_right _), where_plain hs, find_one, if_pos hp]
      show (if g = f then none else some (g, (3 : Int))) = _
      rw [if_neg hne]
    rw [List.filterMap_cons, h1, ha]; rfl
  · refine one ?_ (tree_one hg) treeOk_nil
    unfold acts
    have h1 : actK [f] [g] [] f = some (g, 3) := by
      unfold actK
      rw [where_plain (pairs_right _), where_plain hs, find_one, if_pos hp]
      show (if g = f then none else some (g, (3 : Int))) = _
      rw [if_neg hne]
    rw [List.filterMap_cons, h1, ha]; rfl

/-! ### added -/
theorem added_nil (b : List FV) : addedF [] b = b := by
  refine List.filter_eq_self.2 fun g _ => ?_
  rw [pairs_left]; rfl
theorem acts_nil (b c : List FV) : acts [] b c = b.map (actA c) ++ (c.filter fun y => (findP b y.path).isNone).map fun y => (y, 0) := by
  unfold acts
  rw [added_nil, added_nil]; rfl
theorem add_same {u : FV} (h : FileOk u) : treemergeF [] [u] [u] = ([u], [], 0) := treemerge_theirs_nil h
where
  treemerge_theirs_nil {u : FV} (h : FileOk u) : treemergeF [] [u] [u] = ([u], [], 0) := by
    have e : acts [] [u] [u] = [(u, 0)] := by
      rw [acts_nil]
      have h1 : actA [u] u = (u, 0) := by unfold actA; rw [find_one, if_pos rfl]; simp
      rw [List.map_singleton, h1, List.filter_cons, find_one, if_pos rfl]; rfl
    have hw : wholeF [] [u] [u] = ([u], []) := by rw [whole_acts, e]; rfl
    exact tm_of treeOk_nil (tree_one h) (tree_one h) hw (tree_one h)
theorem add_unlike {u v : FV} (h : FileOk u) (hv : FileOk v) (hp : v.path = u.path) (hne : u ≠ v) (ht : (merge3F ⟨#[]⟩ u.text v.text).1.size ≤ 20000) :
    treemergeF [] [u] [v] = ([⟨u.path, u.exec, (merge3F ⟨#[]⟩ u.text v.text).1⟩], [⟨u.path, 2, (merge3F ⟨#[]⟩ u.text v.text).1⟩], 0) := by
  have e : acts [] [u] [v] = [(⟨u.path, u.exec, (merge3F ⟨#[]⟩ u.text v.text).1⟩, 2)] := by
    rw [acts_nil]
    have h1 : actA [v] u = (⟨u.path, u.exec, (merge3F ⟨#[]⟩ u.text v.text).1⟩, 2) := by
      unfold actA
      rw [find_one, if_pos hp]
      show (if u = v then (u, 0) else _) = _
      rw [if_neg hne]
    rw [List.map_singleton, h1, List.filter_cons, find_one, if_pos hp.symm]; rfl
  have hw : wholeF [] [u] [v] = ([⟨u.path, u.exec, (merge3F ⟨#[]⟩ u.text v.text).1⟩], [⟨u.path, 2, (merge3F ⟨#[]⟩ u.text v.text).1⟩]) := by rw [whole_acts, e]; rfl
  have := tm_of treeOk_nil (tree_one h) (tree_one hv) hw (tree_one ⟨h.1, ht⟩)
  rw [sort_one, sortC_one] at this
  exact this
theorem acts_apart {u v : FV} (hp : v.path ≠ u.path) : acts [] [u] [v] = [(u, 0), (v, 0)] := by
  rw [acts_nil]
  have h1 : actA [v] u = (u, 0) := by
    unfold actA
    rw [find_one, if_neg hp]
  have h2 : (findP [u] v.path).isNone = true := by rw [find_one, if_neg (fun e => hp e.symm)]; rfl
  rw [List.map_singleton, h1, List.filter_cons, if_pos h2]; rfl
theorem add_clash {u v : FV} (h : FileOk u) (hv : FileOk v) (hp : v.path ≠ u.path) (hc : clashP u.p v.p = true) : treemergeF [] [u] [v] = ([u], [⟨v.path, 5, v.text⟩], 0) := by
  have hw : wholeF [] [u] [v] = ([u], [⟨v.path, 5, v.text⟩]) := by
    rw [whole_acts, acts_apart hp]
    show putX (putX ([], []) (u, 0)) (v, 0) = _
    have h1 : putX ([], []) (u, 0) = ([u], []) := rfl
    rw [h1]
    unfold putX putM
    rw [if_pos (by simp [hc])]; rfl
  have := tm_of treeOk_nil (tree_one h) (tree_one hv) hw (tree_one h)
  rw [sort_one, sortC_one] at this
  exact this
theorem add_both {u v : FV} (h : FileOk u) (hv : FileOk v) (hc : clashP u.p v.p = false) : (treemergeF [] [u] [v]).1.length = 2 ∧ (treemergeF [] [u] [v]).2 = ([], 0) := by
  have hp : v.path ≠ u.path := fun e => by
    unfold clashP at hc
    rw [FV.p_inj.2 e] at hc
    simp at hc
  have hw : wholeF [] [u] [v] = ([u, v], []) := by
    rw [whole_acts, acts_apart hp]
    show putX (putX ([], []) (u, 0)) (v, 0) = _
    have h1 : putX ([], []) (u, 0) = ([u], []) := rfl
    rw [h1]
    unfold putX putM
    rw [if_neg (by simp [hc])]; rfl
  have ht : treeOk (sortF [u, v]) = true := tree_of (by simp) (fun f hf => by
    simp only [List.mem_cons, List.mem_nil_iff, or_false] at hf
    rcases hf with rfl | rfl
    · exact h
    · exact hv) (List.pairwise_cons.2 ⟨fun x hx => by simp only [List.mem_singleton] at hx; subst hx; exact hc, List.pairwise_singleton _ _⟩)
  rw [tm_of treeOk_nil (tree_one h) (tree_one hv) hw ht]
  exact ⟨by rw [sortF_len]; rfl, rfl⟩

/-! ### moved -/
theorem pairs_moved {f g : FV} (hp : f.path ≠ g.path) (ht : g.text = f.text) (hn : f.text ≠ ⟨#[]⟩) : pairsF [f] [g] = [(0, 0)] := by
  have l1 : loneF [f] [g] = [0] := by
    unfold loneF
    show [0].filter _ = _
    rw [List.filter_cons]
    simp [find_one, hp.symm, hn]
  have l2 : loneF [g] [f] = [0] := by
    unfold loneF
    show [0].filter _ = _
    rw [List.filter_cons]
    simp [find_one, hp, ht, hn]
  unfold pairsF
  rw [l1, l2]
  have hs : sameF [f] [g] [0] [0] = ([(0, 0)], [], []) := by
    rw [sameF]
    have : [0].find? (fun j => decide (textAt [g] j = textAt [f] 0)) = some 0 := by
      simp [textAt, ht]
    rw [this]
    rfl
  rw [hs]; rfl
theorem moved_ours {f g c : FV} (hf : FileOk f) (hg : FileOk g) (hc : FileOk c) (hp : f.path ≠ g.path) (ht : g.text = f.text) (hn : f.text ≠ ⟨#[]⟩) (hx : g.exec = f.exec) (hcp : c.path = f.path) :
    treemergeF [f] [g] [c] = ([⟨g.path, c.exec, c.text⟩], [], 0) ∧ treemergeF [f] [c] [g] = ([⟨g.path, c.exec, c.text⟩], [], 0) := by
  have hP := pairs_moved hp ht hn
  have hS : pairsF [f] [c] = [] := pairs_sub fun x hx => by simp only [List.mem_singleton] at hx; subst hx; rw [find_one, if_pos hcp]; simp
  have w1 : whereF [f] [g] f = some g := by
    unfold whereF
    rw [find_one, if_neg hp.symm]
    have : movedF [f] [g] f.path = some g.path := by
      unfold movedF
      rw [hP]
      simp
    rw [this]
    show findP [g] g.path = _
    rw [find_one, if_pos rfl]
  have w2 : whereF [f] [c] f = some c := by rw [where_plain hS, find_one, if_pos hcp]
  have a1 : addedF [f] [g] = [] := by
    refine List.eq_nil_iff_forall_not_mem.2 fun x hx => ?_
    obtain ⟨h1, _, h3⟩ := added_mem.1 hx
    simp only [List.mem_singleton] at h1
    subst h1
    exact h3 (0, 0) (by rw [hP]; simp) rfl
  have a2 : addedF [f] [c] = [] := by
    refine List.eq_nil_iff_forall_not_mem.2 fun x hx => ?_
    obtain ⟨h1, h2⟩ := (added_plain hS).1 hx
    simp only [List.mem_singleton] at h1
    subst h1
    rw [find_one, if_pos hcp.symm] at h2
    cases h2
  have okn : FileOk ⟨g.path, c.exec, c.text⟩ := ⟨hg.1, hc.2⟩
  have b1 : bothOut f g c = (⟨g.path, c.exec, c.text⟩, 0) := by
    unfold bothOut
    dsimp only
    rw [ht, merge3_ours, if_neg hp.symm, if_neg hp.symm, if_pos hx]
    have e3 : ¬ (c.path ≠ f.path ∧ c.path ≠ g.path) := fun e => e.1 hcp
    rw [if_neg e3]
    simp
  have b2 : bothOut f c g = (⟨g.path, c.exec, c.text⟩, 0) := by
    unfold bothOut
    dsimp only
    rw [ht, merge3_theirs, if_pos hcp, if_pos hcp, hx]
    have e2 : (if c.exec = f.exec then f.exec else c.exec) = c.exec := by by_cases h : c.exec = f.exec <;> simp [h]
    rw [e2]
    simp
  have one : ∀ {b d : List FV}, acts [f] b d = [(⟨g.path, c.exec, c.text⟩, 0)] → treeOk b = true → treeOk d = true → treemergeF [f] b d = ([⟨g.path, c.exec, c.text⟩], [], 0) := fun {b d} e hb hd => by
    have hw : wholeF [f] b d = ([⟨g.path, c.exec, c.text⟩], []) := by rw [whole_acts, e]; rfl
    exact tm_of (tree_one hf) hb hd hw (tree_one okn)
  constructor
  · refine one ?_ (tree_one hg) (tree_one hc)
    unfold acts
    have h1 : actK [f] [g] [c] f = some (⟨g.path, c.exec, c.text⟩, 0) := by
      unfold actK; rw [w1, w2]; exact congrArg some b1
    rw [List.filterMap_cons, h1, a1, a2]; rfl
  · refine one ?_ (tree_one hc) (tree_one hg)
    unfold acts
    have h1 : actK [f] [c] [g] f = some (⟨g.path, c.exec, c.text⟩, 0) := by
      unfold actK; rw [w1, w2]; exact congrArg some b2
    rw [List.filterMap_cons, h1, a1, a2]; rfl
end Go.Proofs.YtcemkikgaeghjaaGreatDoor
namespace Go.Proofs.YtcemkikgaeghjaaGreatDoor

def wX : FV := ⟨⟨#[97]⟩, false, ⟨#[120, 10]⟩⟩
def wY : FV := ⟨⟨#[97]⟩, false, ⟨#[121, 10]⟩⟩
def wB : FV := ⟨⟨#[98]⟩, false, ⟨#[]⟩⟩
theorem okWX : FileOk wX := ⟨by decide +kernel, by decide +kernel⟩
theorem okWY : FileOk wY := ⟨by decide +kernel, by decide +kernel⟩
theorem okWB : FileOk wB := ⟨by decide +kernel, by decide +kernel⟩
theorem tree_two {f g : FV} (hf : FileOk f) (hg : FileOk g) (hlt : f.p < g.p) (h1 : within f.p g.p = false) (h2 : within g.p f.p = false) : treeOk [f, g] = true := by
  refine treeOk_iff.2 ⟨by simp, fun k hk => ?_, rise_of_pair (List.pairwise_cons.2 ⟨fun x hx => by simp only [List.mem_singleton] at hx; subst hx; exact hlt, List.pairwise_singleton _ _⟩), fun k hk l hl => ?_⟩
  · simp only [List.mem_cons, List.mem_nil_iff, or_false] at hk
    rcases hk with rfl | rfl
    · exact hf
    · exact hg
  · simp only [List.mem_cons, List.mem_nil_iff, or_false] at hk hl
    rcases hk with rfl | rfl <;> rcases hl with rfl | rfl
    · exact within_self _
    · exact h1
    · exact h2
    · exact within_self _
theorem awake_merge : treemergeF [wX] [wY] [wX, wB] = ([wY, wB], [], 0) := by
  have hs1 : pairsF [wX] [wY] = [] := pairs_sub fun x hx => by simp only [List.mem_singleton] at hx; subst hx; rw [find_one, if_pos (show wY.path = wX.path from rfl)]; simp
  have f2 : findP [wX, wB] wX.path = some wX := by decide +kernel
  have hs2 : pairsF [wX] [wX, wB] = [] := pairs_sub fun x hx => by simp only [List.mem_singleton] at hx; subst hx; rw [f2]; simp
  have a1 : addedF [wX] [wY] = [] := by
    refine List.eq_nil_iff_forall_not_mem.2 fun x hx => ?_
    obtain ⟨h1, h2⟩ := (added_plain hs1).1 hx
    simp only [List.mem_singleton] at h1
    subst h1
    rw [find_one, if_pos (show wX.path = wY.path from rfl)] at h2
    cases h2
  have a2 : addedF [wX] [wX, wB] = [wB] := by
    unfold addedF
    rw [hs2]
    decide +kernel
  have k1 : actK [wX] [wY] [wX, wB] wX = some (wY, 0) := by
    unfold actK
    rw [where_plain hs1, where_plain hs2, f2, find_one, if_pos (show wY.path = wX.path from rfl)]
    refine congrArg some ?_
    have h1 := both_two wX wY rfl
    have h2 : (bothOut wX wY wX).2 = 0 := by
      unfold bothOut
      dsimp only
      rw [merge3_theirs, if_pos (show wY.path = wX.path from rfl)]
      simp
    exact Prod.ext h1 h2
  have e : acts [wX] [wY] [wX, wB] = [(wY, 0), (wB, 0)] := by
    unfold acts
    rw [List.filterMap_cons, k1, a1, a2]
    rfl
  have hw : wholeF [wX] [wY] [wX, wB] = ([wY, wB], []) := by
    rw [whole_acts, e]
    show putX (putX ([], []) (wY, 0)) (wB, 0) = _
    have h1 : putX ([], []) (wY, 0) = ([wY], []) := rfl
    rw [h1]
    unfold putX putM
    rw [if_neg (by decide +kernel)]; rfl
  have ht : treeOk [wY, wB] = true := tree_two okWY okWB (by decide +kernel) (by decide +kernel) (by decide +kernel)
  have hs : sortF [wY, wB] = [wY, wB] := by decide +kernel
  have := tm_of (tree_one okWX) (tree_one okWY) (tree_two okWX okWB (by decide +kernel) (by decide +kernel) (by decide +kernel)) hw (by rw [hs]; exact ht)
  rw [hs] at this
  exact this
end Go.Proofs.YtcemkikgaeghjaaGreatDoor
namespace Go.Proofs.YtcemkikgaeghjaaGreatDoor
open Go.RowKit

theorem playF_next {l : List FV} {k : Nat} {f : FV} (_hk : k < 30) (hx : l[k]? = some f) : (l.take (k + 1)).foldl playStep [] = playStep ((l.take k).foldl playStep []) f := by
  rw [List.take_add_one, hx, List.foldl_append]; rfl
set_option maxRecDepth 100000 in
set_option maxHeartbeats 4000000 in
theorem playTree_new {A : Option Addr} {n c : Nat} {l : List FV} {w : World} (hn : n ≤ 17592186044416) (h : RdF w w.heap.size A n c l) :
    Calls Tryz.prog 12 #[.slice A n c] w (FilesIsN (· = playF l) w) := by
  have HL := Lib.hid h.len
  go_enter Tryz.func12, Tryz.ntmps12
  go_wp2
  go_loopw [3, 4] (fun lv i wr => ∃ (k : Nat) (A' : Option Addr) (c' : Nat) (out : List FV), k ≤ n ∧ k ≤ 30 ∧ i = .int .i64 k ∧ lv = .slice A' out.length c' ∧ Hid (out = (l.take k).foldl playStep []) ∧ RdF wr wr.heap.size A' out.length c' out ∧ Below w.heap.size w wr ∧ Hid (NewAt A' w.heap.size)) (fun _ i _ => n - (intOf i).toNat)
  case atStart => exact ⟨0, none, 0, [], Nat.zero_le _, Nat.zero_le _, rfl, rfl, by rw [List.take_zero]; exact Lib.hid rfl, RdF.none_ _ _, Below.refl _ _, NewAt.none_ _⟩
  case round =>
    obtain ⟨k, A', c', out, hk, hk30, rfl, rfl, hO, hr, hb, hN⟩ := hrel
    have FIN : k = n ∨ k = 30 → FilesIsN (· = playF l) w (.returned (.slice A' out.length c')) wr := fun e => ⟨A', c', out, rfl, by
      rw [hO.out, playF]
      rcases e with e | e
      · subst e
        have hl : l.length = k := HL.out
        rw [List.take_of_length_le (by omega), List.take_of_length_le (by omega)]
      · rw [e], hr, hb, hN.out⟩
    have HFIN := Lib.hid FIN
    clear FIN
    by_cases hlt : k < n
    · by_cases hlt2 : k < 30
      · obtain ⟨b0, o0, f, rfl, hbb, hx, hfm, h0, h1, h2⟩ := h.get hlt
        replace h0 := (hb.cell (p := ⟨b0, o0 + k * 3, none⟩) (by show b0 < _; omega)).trans h0
        replace h1 := (hb.cell (p := ⟨b0, o0 + k * 3 + 1, none⟩) (by show b0 < _; omega)).trans h1
        replace h2 := (hb.cell (p := ⟨b0, o0 + k * 3 + 2, none⟩) (by show b0 < _; omega)).trans h2
        have hff := h.fits f hfm
        have HN := Lib.hid (show (l.take (k + 1)).foldl playStep [] = playStep out f by rw [hO.out]; exact playF_next hlt2 hx)
        clear hx
        by_cases hq : 2000 < f.text.size
        · have HS := Lib.hid (show playStep out f = out by rw [playStep, if_pos hq])
          go_wp2
          go_roundw
          case rel => exact ⟨k + 1, A', c', out, by omega, by omega, by go_num, rfl, by rw [HN.out, HS.out]; exact Lib.hid rfl, hr, hb, hN⟩
          case measure => simp [intOf]; omega
        · have hol : out.length ≤ 30 := by
            have h3 := (playFold_ok (l.take k) treeOk_nil).2
            rw [← hO.out] at h3
            have := List.length_take_le k l
            simp only [List.length_nil] at h3
            omega
          go_wp2_with fail
          refine (rput_new (f := f) (by omega) hr hff).mono ?_
          rintro e w1 ⟨A1, c1, rfl, hr1, hb1, hN1⟩
          have HN1 := Lib.hid (show NewAt A1 w.heap.size from fun b o s hA => Nat.le_trans hb.size (hN1 b o s hA))
          clear hN1
          have hbb1 := hb.trans (hb1.mono hb.size)
          have hr0 := hr.to hb1 hb1.size
          clear hr hb hb1 h0 h1 h2
          by_cases hz : (putF out f).2 = 0
          · have HS := Lib.hid (show playStep out f = (putF out f).1 by rw [playStep, if_neg hq, if_pos hz])
            generalize putF out f = r at *
            obtain ⟨rl, rk⟩ := r
            obtain rfl : rk = 0 := hz
            clear hq hr0
            go_wp2
            go_roundw
            case rel => exact ⟨k + 1, A1, c1, rl, by omega, by omega, by go_num, rfl, by rw [HN.out, HS.out]; exact Lib.hid rfl, hr1, hbb1, HN1⟩
            case measure => simp [intOf]; omega
          · have HS := Lib.hid (show playStep out f = out by rw [playStep, if_neg hq, if_neg hz])
            generalize putF out f = r at *
            obtain ⟨rl, rk⟩ := r
            have hz' : ¬ rk = 0 := hz
            clear hq hr1
            go_wp2
            go_roundw
            case rel => exact ⟨k + 1, A', c', out, by omega, by omega, by go_num, rfl, by rw [HN.out, HS.out]; exact Lib.hid rfl, hr0, hbb1, hN⟩
            case measure => simp [intOf]; omega
      · have e := HFIN.out (.inr (by omega))
        have he := Lib.hid e
        clear e
        go_wp2
        go_ret
        exact he.out
    · have e := HFIN.out (.inl (by omega))
      have he := Lib.hid e
      clear e
      go_wp2
      go_ret
      exact he.out
theorem playTree_any {A : Option Addr} {n c : Nat} {l : List FV} {w : World} (hn : n ≤ 17592186044416) (h : RdF w w.heap.size A n c l) :
    Calls Tryz.prog 12 #[.slice A n c] w (FilesIs (· = playF l) w) := (playTree_new hn h).mono fun _ _ h => h.old
end Go.Proofs.YtcemkikgaeghjaaGreatDoor
namespace Go.Proofs.YtcemkikgaeghjaaGreatDoor
open Go.RowKit

def textSum (l : List FV) : Nat := (l.map fun f => f.text.size).sum
def few14 (l : List FV) : Bool := decide (l.length ≤ 20) && decide (textSum l ≤ 2000)
theorem textSum_snoc (l : List FV) (f : FV) : textSum (l ++ [f]) = textSum l + f.text.size := by simp [textSum]
theorem textSum_le : ∀ (l : List FV), (∀ f ∈ l, f.text.size ≤ 140737488351232) → textSum l ≤ l.length * 140737488351232
  | [], _ => by simp [textSum]
  | f :: l, h => by
    have h1 := textSum_le l fun g hg => h g (List.mem_cons_of_mem _ hg)
    have h2 := h f List.mem_cons_self
    have e : textSum (f :: l) = f.text.size + textSum l := by simp [textSum]
    rw [e, List.length_cons]; omega
set_option maxRecDepth 100000 in
set_option maxHeartbeats 4000000 in
theorem few14_any {A : Option Addr} {n c : Nat} {l : List FV} {w : World} (hn : n ≤ 17592186044416) (h : RdF w w.heap.size A n c l) :
    Calls Tryz.prog 10 #[.slice A n c] w fun e w' => e = .returned (.bool (few14 l)) ∧ w' = w := by
  have HL := Lib.hid h.len
  have HF := Lib.hid h.fits
  go_enter Tryz.func10, Tryz.ntmps10
  go_wp2
  go_loopw [3, 4] (fun m i wr => wr = w ∧ ∃ (k : Nat) (z : Int), k ≤ n ∧ i = .int .i64 k ∧ m = .int .i64 z ∧ Hid (k ≤ 20 → z = (textSum (l.take k) : Nat))) (fun _ i _ => n - (intOf i).toNat)
  case atStart => exact ⟨rfl, 0, 0, Nat.zero_le _, rfl, rfl, Lib.hid fun _ => rfl⟩
  case round =>
    obtain ⟨rfl, k, z, hk, rfl, rfl, HK⟩ := hrel
    by_cases hlt : k < n
    · obtain ⟨b0, o0, f, rfl, hbb, hx, hfm, h0, h1, h2⟩ := h.get hlt
      clear h0 h1
      by_cases hk20 : k < 20
      · obtain ⟨s, hs⟩ : ∃ s, s = textSum (l.take k) := ⟨_, rfl⟩
        have hz := HK.out (by omega)
        rw [← hs] at hz
        have hsb : s ≤ 2814749767024640 := by
          have := textSum_le (l.take k) fun g hg => (HF.out g (List.mem_of_mem_take hg)).2
          rw [← hs, List.length_take] at this
          have h3 := Nat.mul_le_mul_right 140737488351232 (show min k l.length ≤ 20 by omega)
          omega
        have HN := Lib.hid (show s + f.text.size = textSum (l.take (k + 1)) by rw [List.take_add_one, hx, hs]; exact (textSum_snoc _ _).symm)
        have hz2 : f.text.size ≤ 140737488351232 := (h.fits f hfm).2
        subst hz
        clear hx hfm hs
        go_wp2
        go_roundw
        case rel => exact ⟨trivial, k + 1, ((s + f.text.size : Nat) : Int), by omega, by go_num, by go_num, Lib.hid fun _ => by rw [HN.out]⟩
        case measure => simp [intOf]; omega
      · clear hx hfm
        go_wp2
        go_roundw
        case rel => exact ⟨trivial, k + 1, _, by omega, by go_num, rfl, Lib.hid fun h => by omega⟩
        case measure => simp [intOf]; omega
    · have hkn : k = n := by omega
      subst hkn
      by_cases q1 : k ≤ 20
      · have hz := HK.out q1
        rw [List.take_of_length_le (by rw [HL.out]; exact Nat.le_refl _)] at hz
        clear HK
        by_cases q2 : textSum l ≤ 2000
        · have HO := Lib.hid (show few14 l = true by unfold few14; rw [HL.out]; simp [q1, q2])
          have q3 : z ≤ 2000 := by omega
          clear hz
          go_wp2
          go_ret
          exact ⟨ret_bool (by first | (rw [HO.out]; done) | (rw [HO.out]; exact decide_eq_true (by omega))), rfl⟩
        · have HO := Lib.hid (show few14 l = false by unfold few14; rw [HL.out]; simp [q2])
          have q3 : ¬ z ≤ 2000 := by omega
          clear hz
          go_wp2
          go_ret
          exact ⟨ret_bool (by first | (rw [HO.out]; done) | (rw [HO.out]; exact decide_eq_false (by omega))), rfl⟩
      · have HO := Lib.hid (show few14 l = false by unfold few14; rw [HL.out]; simp [q1])
        go_wp2
        go_ret
        exact ⟨ret_bool (by first | (rw [HO.out]; done) | (rw [HO.out]; exact decide_eq_false (by omega))), rfl⟩
theorem few14_b {A : Option Addr} {n c : Nat} {l : List FV} {w : World} (hn : n ≤ 17592186044416) (h : RdF w w.heap.size A n c l) :
    Calls Tryz.prog 10 #[.slice A n c] w (BoolBelow (few14 l) w) := (few14_any hn h).mono fun _ _ h => ⟨h.1, by rw [h.2]; exact Below.refl _ _⟩
def fileWX : Obj := .cells #[.string ⟨#[97]⟩, .bool false, .string ⟨#[120, 10]⟩] 28
set_option maxRecDepth 100000 in
theorem run_wX (w : World) : (Instr.build 28 #[(0, .string ⟨#[97]⟩), (2, .string ⟨#[120, 10]⟩)]).run Tryz.prog w = .ok (.agg #[.string ⟨#[97]⟩, .bool false, .string ⟨#[120, 10]⟩]) w := by
  go_simp
set_option maxRecDepth 100000 in
theorem run_wY (w : World) : (Instr.build 28 #[(0, .string ⟨#[97]⟩), (2, .string ⟨#[121, 10]⟩)]).run Tryz.prog w = .ok (.agg #[.string ⟨#[97]⟩, .bool false, .string ⟨#[121, 10]⟩]) w := by
  go_simp
set_option maxRecDepth 100000 in
theorem run_wB (w : World) : (Instr.build 28 #[(0, .string ⟨#[98]⟩)]).run Tryz.prog w = .ok (.agg #[.string ⟨#[98]⟩, .bool false, .string ⟨#[]⟩]) w := by
  go_simp
theorem rdF_new (w : World) (l : List FV) (xs : Array Value) (hx : xs.toList = l.flatMap FV.cells) (hf : ∀ f ∈ l, f.path.size ≤ 140737488351232 ∧ f.text.size ≤ 140737488351232) :
    RdF (w.alloc (.cells xs 28)) (w.alloc (.cells xs 28)).heap.size (some ⟨w.heap.size, 0, none⟩) l.length l.length l :=
  ⟨rd_row (heap_alloc_new w _) (by rw [FV.len_flat]) (Nat.le_refl _) fun j u hu => by rw [← hx] at hu; simpa using hu, rfl, hf⟩
set_option maxRecDepth 100000 in
set_option maxHeartbeats 4000000 in
theorem awake14_any {w : World} (hm : Lm w) : Calls Tryz.prog 11 #[] w (BoolBelow true w) := by
  have h1 := fun u => run_wX u
  have h2 := fun u => run_wY u
  have h3 := fun u => run_wB u
  obtain ⟨V1, e1⟩ : ∃ V, V = w.alloc (.cells #[.string ⟨#[97]⟩, .bool false, .string ⟨#[120, 10]⟩] 28) := ⟨_, rfl⟩
  obtain ⟨V2, e2⟩ : ∃ V, V = V1.alloc (.cells #[.string ⟨#[97]⟩, .bool false, .string ⟨#[121, 10]⟩] 28) := ⟨_, rfl⟩
  obtain ⟨V3, e3⟩ : ∃ V, V = V2.alloc (.cells #[.string ⟨#[97]⟩, .bool false, .string ⟨#[120, 10]⟩, .string ⟨#[98]⟩, .bool false, .string ⟨#[]⟩] 28) := ⟨_, rfl⟩
  have b1 : Below w.heap.size w V1 := by rw [e1]; exact (Below.refl _ _).alloc (Nat.le_refl _) _
  have b2 : Below V1.heap.size V1 V2 := by rw [e2]; exact (Below.refl _ _).alloc (Nat.le_refl _) _
  have b3 : Below V2.heap.size V2 V3 := by rw [e3]; exact (Below.refl _ _).alloc (Nat.le_refl _) _
  have s1 : V1.heap.size = w.heap.size + 1 := by rw [e1]; simp
  have s2 : V2.heap.size = w.heap.size + 1 + 1 := by rw [e2]; simp [s1]
  have b23 := b2.trans (b3.mono b2.size)
  have b13 := b1.trans (b23.mono b1.size)
  have r1 : RdF V3 V3.heap.size (some ⟨w.heap.size, 0, none⟩) 1 1 [wX] := (show RdF V1 V1.heap.size (some ⟨w.heap.size, 0, none⟩) 1 1 [wX] by rw [e1]; exact rdF_new w [wX] _ rfl (by decide)).to b23 b23.size
  have r2 : RdF V3 V3.heap.size (some ⟨w.heap.size + 1, 0, none⟩) 1 1 [wY] := (show RdF V2 V2.heap.size (some ⟨w.heap.size + 1, 0, none⟩) 1 1 [wY] by rw [e2, ← s1]; exact rdF_new V1 [wY] _ rfl (by decide)).to b3 b3.size
  have r3 : RdF V3 V3.heap.size (some ⟨w.heap.size + 1 + 1, 0, none⟩) 2 2 [wX, wB] := by rw [e3, ← s2]; exact rdF_new V2 [wX, wB] _ rfl (by decide)
  have K := mergeT_any (hm.to b13) (by omega) (by omega) (by omega) r1 r2 r3
  rw [awake_merge] at K
  have HB := Lib.hid b13
  have E3 := Lib.hid (show V3 = ((w.alloc (.cells #[.string ⟨#[97]⟩, .bool false, .string ⟨#[120, 10]⟩] 28)).alloc (.cells #[.string ⟨#[97]⟩, .bool false, .string ⟨#[121, 10]⟩] 28)).alloc (.cells #[.string ⟨#[97]⟩, .bool false, .string ⟨#[120, 10]⟩, .string ⟨#[98]⟩, .bool false, .string ⟨#[]⟩] 28) by rw [e3, e2, e1])
  clear b1 b2 b3 s1 s2 b23 b13 r1 r2 r3 e1 e2 e3
  rw [E3.out] at K
  go_enter Tryz.func11, Tryz.ntmps11
  go_wp2_with fail
  refine K.mono ?_
  rintro e w1 ⟨A, C, c, d, rfl, hr, hc, hb1⟩
  replace hr : RdF w1 w1.heap.size A 2 c [wY, wB] := hr
  obtain ⟨b0, o0, f, rfl, hbb, hx, hfm, h0, h4, h5⟩ := hr.get (k := 0) (by decide)
  injection hx with hx
  subst hx
  have h6 : w1.cell? ⟨b0, o0 + 2, none⟩ = some (.string ⟨#[121, 10]⟩) := by simpa [wY] using h5
  have HBB := Lib.hid (HB.out.trans (by rw [← E3.out] at hb1; exact hb1.mono HB.out.size))
  have l1 : ((([wY, wB], [], 0) : List FV × List CL × Int).1.length : Int) = 2 := rfl
  have l2 : ((([wY, wB], [], 0) : List FV × List CL × Int).2.1.length : Int) = 0 := rfl
  dsimp only [List.length_cons, List.length_nil]
  clear K hr hc hb1 h0 h4 h5 hfm h1 h2 h3 E3 HB
  go_wp2
  go_ret
  exact ⟨rfl, HBB.out⟩
end Go.Proofs.YtcemkikgaeghjaaGreatDoor
namespace Go.Proofs.YtcemkikgaeghjaaGreatDoor
open Go.RowKit

theorem put_bad {f : FV} (h : ¬ FileOk f) : ∃ k : Int, putF [] f = ([], k) ∧ k ≠ 0 := by
  by_cases h1 : pathOk f.p = false
  · exact ⟨11, by simp [putF, treeOk_nil, h1], by decide⟩
  · by_cases h2 : 20000 < f.text.size
    · exact ⟨6, by simp [putF, treeOk_nil, h1, h2], by decide⟩
    · exact absurd ⟨by simpa using h1, by omega⟩ h
set_option maxRecDepth 100000 in
theorem run_file3 (p t : ByteArray) (x : Bool) (w : World) : (Instr.build 28 #[(0, .string p), (1, .bool x), (2, .string t)]).run Tryz.prog w = .ok (.agg #[.string p, .bool x, .string t]) w := by
  go_simp
set_option maxRecDepth 100000 in
set_option maxHeartbeats 8000000 in
theorem deletes_any {f : FV} {more : ByteArray} {w : World} (hm : Lm w) (hf : f.path.size ≤ 140737488351232 ∧ f.text.size ≤ 140737488351232) (hmo : more.size ≤ 140737488351232) :
    Calls Tryz.prog 7 #[.agg #[.string f.path, .bool f.exec, .string f.text], .string more] w (BoolBelow true w) := by
  have hb0 : Below w.heap.size w (w.alloc (.cells #[.string f.path, .bool f.exec, .string f.text] 28)) := (Below.refl _ _).alloc (Nat.le_refl _) _
  have X := BoxF.new w f
  have x0 := X.c0
  have x1 := X.c1
  have x2 := X.c2
  have KP := rput_any (f := f) (w := w.alloc (.cells #[.string f.path, .bool f.exec, .string f.text] 28)) (by omega) (RdF.none_ _ _) hf
  have HX := Lib.hid X
  have HB0 := Lib.hid hb0
  have HM := Lib.hid hm
  clear X hb0 hm
  go_enter Tryz.func7, Tryz.ntmps7
  by_cases hok : FileOk f
  case neg =>
    obtain ⟨k, e1, e2⟩ := put_bad hok
    rw [e1] at KP
    clear e1 hok
    go_wp2_with fail
    refine KP.mono ?_
    rintro e w1 ⟨A, c, rfl, hr, hb1⟩
    have HB1 := Lib.hid (HB0.out.trans (hb1.mono HB0.out.size))
    have KA := awake14_any (HM.out.to HB1.out)
    clear KP hr hb1
    dsimp only
    go_wp2_with fail
    refine KA.mono ?_
    rintro e w2 ⟨rfl, hb2⟩
    have HB2 := Lib.hid (HB1.out.trans (hb2.mono HB1.out.size))
    clear KA hb2
    go_wp2
    go_ret
    exact ⟨rfl, HB2.out⟩
  rw [put_one hok] at KP
  go_wp2_with fail
  refine KP.mono ?_
  rintro e w1 ⟨A, c, rfl, hr, hb1⟩
  replace hr : RdF w1 w1.heap.size A 1 c [f] := hr
  simp only [List.length_cons, List.length_nil, Nat.zero_add]
  have HB1 := Lib.hid (HB0.out.trans (hb1.mono HB0.out.size))
  have HX1 := Lib.hid (HX.out.below hb1)
  have y0 := HX1.out.c0
  have y1 := HX1.out.c1
  have y2 := HX1.out.c2
  have hz := f.text.size
  by_cases q1 : 500 < f.text.size
  case pos =>
    have KA := awake14_any (HM.out.to HB1.out)
    clear KP hr HX1 HX hb1
    go_wp2_with fail
    refine KA.mono ?_
    rintro e w2 ⟨rfl, hb2⟩
    have HB2 := Lib.hid (HB1.out.trans (hb2.mono HB1.out.size))
    clear KA hb2 y0 y1 y2 x0 x1 x2
    go_wp2
    go_ret
    exact ⟨rfl, HB2.out⟩
  by_cases q2 : 100 < more.size
  case pos =>
    have KA := awake14_any (HM.out.to HB1.out)
    clear KP hr HX1 HX hb1
    go_wp2_with fail
    refine KA.mono ?_
    rintro e w2 ⟨rfl, hb2⟩
    have HB2 := Lib.hid (HB1.out.trans (hb2.mono HB1.out.size))
    clear KA hb2 y0 y1 y2 x0 x1 x2
    go_wp2
    go_ret
    exact ⟨rfl, HB2.out⟩
  by_cases q3 : more = ⟨#[]⟩
  case pos =>
    subst q3
    have KA := awake14_any (HM.out.to HB1.out)
    clear KP hr HX1 HX hb1
    go_wp2_with fail
    refine KA.mono ?_
    rintro e w2 ⟨rfl, hb2⟩
    have HB2 := Lib.hid (HB1.out.trans (hb2.mono HB1.out.size))
    clear KA hb2 y0 y1 y2 x0 x1 x2
    go_wp2
    go_ret
    exact ⟨rfl, HB2.out⟩
  have e3 : more.toList.isEmpty = false := by
    cases h : more.toList with
    | nil =>
      have := ba_ne q3
      rw [h, show (⟨#[]⟩ : ByteArray).toList = [] by decide +kernel] at this
      cases this
    | cons _ _ => rfl
  have hz1 : (f.text ++ more).size = f.text.size + more.size := ByteArray.size_append
  have hz2 : more.size ≠ 0 := fun e => q3 (ByteArray.ext (Array.eq_empty_of_size_eq_zero e))
  have okg : FileOk ⟨f.path, f.exec, f.text ++ more⟩ := ⟨hok.1, by show (f.text ++ more).size ≤ 20000; omega⟩
  have HD := Lib.hid (del_other hok okg rfl (fun e => by
    have : (f.text ++ more).size = f.text.size := congrArg (fun g : FV => g.text.size) e
    omega))
  obtain ⟨V, eV⟩ : ∃ V, V = w1.alloc (.cells #[.string f.path, .bool f.exec, .string (f.text ++ more)] 28) := ⟨_, rfl⟩
  have hx : Below w1.heap.size w1 V := by rw [eV]; exact (Below.refl _ _).alloc (Nat.le_refl _) _
  have hg : RdF V V.heap.size (some ⟨w1.heap.size, 0, none⟩) 1 1 [⟨f.path, f.exec, f.text ++ more⟩] := by rw [eV]; exact rdF_new w1 [⟨f.path, f.exec, f.text ++ more⟩] _ rfl (fun x hx => by simp only [List.mem_singleton] at hx; subst hx; exact ⟨hf.1, by show (f.text ++ more).size ≤ _; omega⟩)
  have HBP := Lib.hid (HB1.out.trans (hx.mono HB1.out.size))
  replace HX1 := Lib.hid (HX1.out.below hx)
  replace hr := hr.to hx hx.size
  have hzf := fun u => run_file3 f.path (f.text ++ more) f.exec u
  clear KP hx hb1 okg hz1 hz2 q3 hz HB0 HX
  have K := mergeT_any (HM.out.to HBP.out) (by omega) (by omega) (by omega) hr (RdF.none_ _ _) hr
  rw [del_same hok] at K
  go_wp2_with fail
  rw [← eV]
  clear eV
  refine K.mono ?_
  rintro e w3 ⟨A1, C1, c1, d1, rfl, ha1, hc1, hx⟩
  simp only [List.length_nil]
  have HBw3 := Lib.hid (HBP.out.trans (hx.mono HBP.out.size))
  clear HBP
  have HBP := HBw3
  clear HBw3
  replace HX1 := Lib.hid (HX1.out.below hx)
  replace hr := hr.to hx hx.size
  replace hg := hg.to hx hx.size
  clear K hx
  clear ha1 hc1
  have K := mergeT_any (HM.out.to HBP.out) (by omega) (by omega) (by omega) hr (RdF.none_ _ _) hg
  rw [HD.out.1] at K
  go_wp2_with fail
  refine K.mono ?_
  rintro e w4 ⟨A2, C2, c2, d2, rfl, ha2, hc2, hx⟩
  simp only [List.length_cons, List.length_nil, Nat.zero_add]
  have HBw4 := Lib.hid (HBP.out.trans (hx.mono HBP.out.size))
  clear HBP
  have HBP := HBw4
  clear HBw4
  replace HX1 := Lib.hid (HX1.out.below hx)
  replace hr := hr.to hx hx.size
  replace hg := hg.to hx hx.size
  clear K hx
  replace ha2 : RdF w4 w4.heap.size A2 1 c2 [⟨f.path, f.exec, f.text ++ more⟩] := ha2
  replace hc2 : Rd w4 w4.heap.size 3 C2 1 d2 ([(⟨f.path, 3, f.text ++ more⟩ : CL)].flatMap CL.cells) := hc2
  have K := mergeT_any (HM.out.to HBP.out) (by omega) (by omega) (by omega) hr hg (RdF.none_ _ _)
  rw [HD.out.2] at K
  go_wp2_with fail
  refine K.mono ?_
  rintro e w5 ⟨A3, C3, c3, d3, rfl, ha3, hc3, hx⟩
  simp only [List.length_cons, List.length_nil, Nat.zero_add]
  have HBw5 := Lib.hid (HBP.out.trans (hx.mono HBP.out.size))
  clear HBP
  have HBP := HBw5
  clear HBw5
  replace HX1 := Lib.hid (HX1.out.below hx)
  replace hr := hr.to hx hx.size
  replace hg := hg.to hx hx.size
  replace ha2 := ha2.to hx hx.size
  replace hc2 := hc2.to hx hx.size
  clear K hx
  replace ha3 : RdF w5 w5.heap.size A3 1 c3 [⟨f.path, f.exec, f.text ++ more⟩] := ha3
  replace hc3 : Rd w5 w5.heap.size 3 C3 1 d3 ([(⟨f.path, 3, f.text ++ more⟩ : CL)].flatMap CL.cells) := hc3
  have z0 := HX1.out.c0
  have z1 := HX1.out.c1
  have z2 := HX1.out.c2
  obtain ⟨V, eV⟩ : ∃ V, V = w5.alloc (.cells #[.string f.path, .int .i64 3, .string (f.text ++ more)] 36) := ⟨_, rfl⟩
  have hx : Below w5.heap.size w5 V := by rw [eV]; exact (Below.refl _ _).alloc (Nat.le_refl _) _
  have HBV := Lib.hid (HBP.out.trans (hx.mono HBP.out.size))
  clear HBP
  have HBP := HBV
  clear HBV
  replace HX1 := Lib.hid (HX1.out.below hx)
  replace hr := hr.to hx hx.size
  replace hg := hg.to hx hx.size
  replace ha2 := ha2.to hx hx.size
  replace ha3 := ha3.to hx hx.size
  replace hc2 := hc2.to hx hx.size
  replace hc3 := hc3.to hx hx.size
  have hw : Rd V V.heap.size 3 (some ⟨w5.heap.size, 0, none⟩) 1 1 ([(⟨f.path, 3, f.text ++ more⟩ : CL)].flatMap CL.cells) := by rw [eV]; exact rd_litCL w5 ⟨f.path, 3, f.text ++ more⟩
  clear hx
  have hz := fun u => run_clash f.path (f.text ++ more) 3 u
  have KA := awake14_any (HM.out.to HBP.out)
  go_wp2_with fail
  rw [← eV]
  clear eV hz z0 z1 z2
  refine KA.mono ?_
  rintro e w6 ⟨rfl, hx⟩
  have HBw6 := Lib.hid (HBP.out.trans (hx.mono HBP.out.size))
  clear HBP
  have HBP := HBw6
  clear HBw6
  replace HX1 := Lib.hid (HX1.out.below hx)
  replace hr := hr.to hx hx.size
  replace hg := hg.to hx hx.size
  replace ha2 := ha2.to hx hx.size
  replace ha3 := ha3.to hx hx.size
  replace hc2 := hc2.to hx hx.size
  replace hc3 := hc3.to hx hx.size
  replace hw := hw.to hx hx.size
  clear hx KA
  have K := plainF_any (by omega) (by omega) ha2.row hg.row ha2.len hg.len
  rw [decide_eq_true rfl] at K
  go_wp2_with fail
  refine K.mono ?_
  rintro e w7 ⟨rfl, hx⟩
  have HBw7 := Lib.hid (HBP.out.trans (hx.mono HBP.out.size))
  clear HBP
  have HBP := HBw7
  clear HBw7
  replace HX1 := Lib.hid (HX1.out.below hx)
  replace hr := hr.to hx hx.size
  replace hg := hg.to hx hx.size
  replace ha2 := ha2.to hx hx.size
  replace ha3 := ha3.to hx hx.size
  replace hc2 := hc2.to hx hx.size
  replace hc3 := hc3.to hx hx.size
  replace hw := hw.to hx hx.size
  clear hx K
  have K := plainCl_any (by omega) (by omega) hc2 hw rfl rfl
  rw [decide_eq_true rfl] at K
  go_wp2_with fail
  refine K.mono ?_
  rintro e w8 ⟨rfl, hx⟩
  have HBw8 := Lib.hid (HBP.out.trans (hx.mono HBP.out.size))
  clear HBP
  have HBP := HBw8
  clear HBw8
  replace HX1 := Lib.hid (HX1.out.below hx)
  replace hr := hr.to hx hx.size
  replace hg := hg.to hx hx.size
  replace ha2 := ha2.to hx hx.size
  replace ha3 := ha3.to hx hx.size
  replace hc2 := hc2.to hx hx.size
  replace hc3 := hc3.to hx hx.size
  replace hw := hw.to hx hx.size
  clear hx K
  have K := plainF_any (by omega) (by omega) ha3.row hg.row ha3.len hg.len
  rw [decide_eq_true rfl] at K
  go_wp2_with fail
  refine K.mono ?_
  rintro e w9 ⟨rfl, hx⟩
  have HBw9 := Lib.hid (HBP.out.trans (hx.mono HBP.out.size))
  clear HBP
  have HBP := HBw9
  clear HBw9
  replace HX1 := Lib.hid (HX1.out.below hx)
  replace hr := hr.to hx hx.size
  replace hg := hg.to hx hx.size
  replace ha2 := ha2.to hx hx.size
  replace ha3 := ha3.to hx hx.size
  replace hc2 := hc2.to hx hx.size
  replace hc3 := hc3.to hx hx.size
  replace hw := hw.to hx hx.size
  clear hx K
  have K := plainCl_any (by omega) (by omega) hc3 hw rfl rfl
  rw [decide_eq_true rfl] at K
  go_wp2_with fail
  refine K.mono ?_
  rintro e w10 ⟨rfl, hx⟩
  have HBw10 := Lib.hid (HBP.out.trans (hx.mono HBP.out.size))
  clear HBP
  have HBP := HBw10
  clear HBw10
  replace HX1 := Lib.hid (HX1.out.below hx)
  replace hr := hr.to hx hx.size
  replace hg := hg.to hx hx.size
  replace ha2 := ha2.to hx hx.size
  replace ha3 := ha3.to hx hx.size
  replace hc2 := hc2.to hx hx.size
  replace hc3 := hc3.to hx hx.size
  replace hw := hw.to hx hx.size
  clear hx K
  clear ha2 ha3 hg hr hc2 hc3 hw HX1
  go_wp2
  go_ret
  exact ⟨rfl, HBP.out⟩
end Go.Proofs.YtcemkikgaeghjaaGreatDoor
namespace Go.Proofs.YtcemkikgaeghjaaGreatDoor
open Go.ChangeShapes Go.WideShapes Go.ChangeAt Go.RowKit

def uAcc : List Int := [128, 191, 160, 191, 128, 159, 144, 191, 128, 143, 0, 0, 0, 0, 0, 0, 0, 0, 0, 0, 0, 0, 0, 0, 0, 0, 0, 0, 0, 0, 0, 0]
def T.cellsOf (cs : List Value) : Obj → Obj
  | .cells _ t frozen => .cells cs.toArray t frozen
  | o => o
def uFirst : List Value := Go.Pinned.utf8FirstZ.map fun (z : Nat) => Value.int .u8 (Int.ofNat z)
noncomputable def laidU (os : Os) : World :=
  { World.holding Tryz.prog os ⟨#[], #[], []⟩ with heap := ((World.holding Tryz.prog os ⟨#[], #[], []⟩).heap.modify 1 (T.cellsOf uFirst)).modify 2 (T.cellsOf (uAcc.map fun z => .int .u8 z)) }
end Go.Proofs.YtcemkikgaeghjaaGreatDoor
