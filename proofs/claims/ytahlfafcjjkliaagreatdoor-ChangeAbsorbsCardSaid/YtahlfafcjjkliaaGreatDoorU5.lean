/- Walks: slices.Clone of files; what copies do. -/
import Derived.Test.YtahlfafcjjkliaaGreatDoorU4
import Derived.Laws.CopyRow
import Derived.Laws.Externs
import Derived.Lib.AppendZeros
import Derived.Lib.AppendZerosOnto
import Derived.Lib.Overlaps
import Derived.Lib.SliceRun
namespace Go.Proofs.YtahlfafcjjkliaaGreatDoor
open Go.RowKit

/-- The call's own: a copy. -/
def CloneIs (e : TypeId) (sz n : Nat) (xs : List Value) (w : World) (en : Ending) (w' : World) : Prop := ∃ v, en = .returned v ∧ w'.ownsRow w.heap.size e sz v n xs ∧ Below w.heap.size w w'

set_option maxRecDepth 100000 in
set_option maxHeartbeats 2000000 in
theorem cloneF_any {A : Option Addr} {n c : Nat} {l : List FV} {w : World} (hn : n ≤ 1000000) (h : RdF w w.heap.size A n c l) :
    Calls Tryz.prog 33 #[.slice A n c] w (CloneIs 35 3 n (l.flatMap FV.cells) w) := by
  have q22 : ∀ (w : World) (a : Option Addr) (n c n' c' : Nat), (binOp .eql 22 (.slice a n c) (.slice none n' c')).run Tryz.prog w = .ok (.bool a.isNone) w := fun w a n c n' c' => Lib.run_eql_slice_nil w _ _ a n c n' c' Tryz.underlying22
  have hr := h.row
  cases A with
  | none =>
    have hn0 : n = 0 := by
      rcases Nat.eq_zero_or_pos n with h0 | h0
      · exact h0
      · obtain ⟨b, o, e, _⟩ := hr.at_ h0; cases e
    subst hn0
    have hl : l.flatMap FV.cells = [] := List.eq_nil_of_length_eq_zero (hr.len.trans (Nat.zero_mul 3))
    have HO := Lib.hid hl
    go_enter Tryz.func33, Tryz.ntmps33
    go_wp2
    go_ret
    exact ⟨_, rfl, by rw [HO.out]; exact World.ownsRow_nil _ _ _ _, Below.refl _ _⟩
  | some a =>
    have ho0 : (w.alloc (.cells #[] 35)).ownsRow w.heap.size 35 3 (.slice (some ⟨w.heap.size, 0, none⟩) 0 0) 0 [] := World.ownsRow_made w #[] 0 (Nat.le_refl _) (Nat.zero_le _) (by simp)
    have hb0 : Below w.heap.size w (w.alloc (.cells #[] 35)) := (Below.refl _ _).alloc (Nat.le_refl _) _
    go_enter Tryz.func33, Tryz.ntmps33
    go_wp2_with (at_builtin; refine wpl_append rfl (.tmp 5) (.tmp 6) 22 rfl E_files rfl rfl ho0 (hr.below hb0) (one_files _) (by unfold maxLen; omega) (by omega) hb0.size ?_; intro v7 w7 ho7 hg7 hv7)
    rw [Nat.zero_add, List.nil_append] at ho7
    go_ret
    exact ⟨_, rfl, ho7, hb0.grown hg7 hb0.size (fun g hg => (ho0.lt g hg).1)⟩

/-! ### copy -/
theorem run_copy_rowK {P : Program} (w : World) (dT sT ty elem : TypeId) {sz m : Nat} (g o dLen dCap : Nat) (a : Addr) (sLen sCap : Nat) (cur : Array Value) (t : TypeId) (cs : List Value)
    (hu : P.underlying dT = some (.slice elem)) (hs : (P.info? elem).map (·.size) = some sz)
    (hg : w.heap[g]? = some (.cells cur t (0, 0))) (hm : Nat.min sLen dLen = m) (hn : cs.length = m * sz)
    (hsrc : ∀ j v, cs[j]? = some v → w.cell? (a.add j) = some v) (hfit : o + cs.length ≤ cur.size) (h1 : ∀ v ∈ cs, v.oneCell' = true) :
    (Builtin.copy_ #[dT, sT] ty #[.slice (some ⟨g, o, none⟩) dLen dCap, .slice (some a) sLen sCap]).run P w =
      .ok (goInt m) (w.setRow g (cur.toList.take o ++ cs ++ cur.toList.drop (o + cs.length)).toArray) := by
  have hl := run_loadCells_list (P := P) w a cs hsrc
  have hst := run_storeCells_at P g o t cs 0 cur w hg (by simpa using hfit) h1
  cases hq : P.info? elem with
  | none => simp [hq] at hs
  | some i =>
    have hi : i.size = sz := by simpa [hq] using hs
    rw [hn] at hl
    simp [Builtin.copy_, run_underlying hu, Builtin.lenOf, Builtin.firstCells, sizeOf, typeInfo, hq, hi, hm, hl, hst]
theorem wpl_copy {P : Program} {w : World} {ops : Array Oper} {rest : List Oper} {o : Oper} {a : Act} {Q : Exit → Act → World → Prop} (hgd : o.guard = none) (d s : Operand) (t t' : TypeId)
    (ho : o.op = .call { callee := .builtin .copy, args := #[d, s], argTypes := #[t, t'] }) (v u : Value) (hd : a.eval d = v) (hs : a.eval s = u) {v' : Value} {w' : World}
    (hr : (Builtin.copy_ #[t, t'] o.type #[v, u]).run P w = .ok v' w') (h : wpList P ops Q rest (a.put o.dst v') w') : wpList P ops Q (o :: rest) a w := by
  refine wpList_plain hgd fun K hK => ?_
  unfold Oper.wp execOp
  simp only [ho, resolve, invoke, builtin, Sem.run_bind, Sem.run_pure, Result.andThen_ok, List.map_toArray, List.map_cons, List.map_nil, hd, hs, hr]
  exact hK _ _ h
theorem T.eff_copy {P : Program} {S : World → Prop} {a : Act} {w w' : World} {K : Act → World → Prop} {dst : Option Tmp} {d s : Operand} {t t' ty : TypeId} {q : Bool} {g : Option (Tmp × Bool)} {v u v' : Value}
    (hd : a.eval d = v) (hs : a.eval s = u) (hr : (Builtin.copy_ #[t, t'] ty #[v, u]).run P w = .ok v' w') (hK : S w' ∧ K (a.put dst v') w') :
    effq P S ⟨q, dst, .call { callee := .builtin .copy, args := #[d, s], argTypes := #[t, t'] }, ty, g⟩ a w K := by
  refine eff_to (fun p af g => ?_) hK
  unfold execOp
  simp only [resolve, invoke, builtin, Sem.run_bind, Sem.run_pure, Result.andThen_ok, List.map_toArray, List.map_cons, List.map_nil, hd, hs, hr]
theorem sliced_some {b o l h c z : Nat} (hc : c ≠ l) : sliced (some ⟨b, o, none⟩) l h c z = .slice (some ⟨b, o + l * z, none⟩) (h - l) (c - l) := by
  rw [sliced, if_neg hc]; simp [Addr.add]; try (split <;> simp_all)
end Go.Proofs.YtahlfafcjjkliaaGreatDoor
