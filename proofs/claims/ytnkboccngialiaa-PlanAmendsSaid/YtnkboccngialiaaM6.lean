/- Maps: the keys of the program's map of markers, what it holds; effects of maps. -/
import Derived.Test.YtnkboccngialiaaM4
import Derived.Maps.OwnSet
import Derived.DeepKeys4
namespace Go.Proofs.Ytnkboccngialiaa
open Go.RowKit

theorem Try.laidOut' : laidOutB Try.prog = true := by kernel_rfl
theorem wide60 : (match Try.prog.underlying 60 with | some (.array _ _) | some (.struct _) => true | _ => false) = true := by kernel_rfl
theorem K60 : Maps.Keyed Try.prog 60 := Maps.Keyed.of_law (deep_law_laid Try.laidOut' (m := 2) (by omega) (of_decide_eq_true (by kernel_rfl)) (by kernel_rfl) wide60)
theorem K3 : Maps.Keyed Try.prog 3 := Maps.int_keyed Try.underlying3
theorem i64_min : IntKind.i64.min = -9223372036854775808 := by decide
theorem i64_max : IntKind.i64.max = 9223372036854775807 := by decide
theorem i64_wf {x : Int} (h : I64 x) : (Lit.int .i64 x).wf = true := by
  obtain ⟨h1, h2⟩ := h
  simp [Lit.wf, i64_min, i64_max]
  omega
def kl (x : Int) : Lit := .string (keyBytes [.int .i64 x])
theorem types_pos : (0 : Nat) < Try.prog.types.size := of_decide_eq_true (by kernel_rfl)
theorem succ_of_pos {n : Nat} (h : 0 < n) : ∃ k, n = k + 1 := ⟨n - 1, by omega⟩
theorem key_one {P : Program} {t e : TypeId} {f : Field} (hu : P.underlying t = some (.struct #[f])) (hft : f.type = e) (hfo : f.offset = 0) (hfn : (f.name != "_") = true) (hct : P.cellsOf t = 1) (hce : P.cellsOf e = 1)
    (hue : P.underlying e = some (.int .i64)) (hk : P.keyType t = true) (hp : 0 < P.types.size) {x : Int} (hw : (Lit.int .i64 x).wf = true) : keyOf P t (.agg #[.int .i64 x]) = some (kl x) := by
  obtain ⟨k, hs⟩ := succ_of_pos hp
  have h1 : P.keyLits (k + 1) e [.int .i64 x] = some [.int .i64 x] := by simp [Program.keyLits, hue, hw]
  have h2 : P.keyLits (k + 1 + 1) t [.int .i64 x] = some [.int .i64 x] := by
    unfold Program.keyLits
    simp only [hu]
    have hfn' : ¬ f.name = "_" := by simpa using hfn
    simp [hct, hft, hfo, hce, h1, hfn']
  simp [keyOf, hu, hk, Value.formed, hct, Value.cells, hs, h2, kl]
theorem key60_type : Try.prog.keyType 60 = true := by kernel_rfl
theorem cells60 : Try.prog.cellsOf 60 = 1 := by kernel_rfl
theorem cells3 : Try.prog.cellsOf 3 = 1 := by kernel_rfl
theorem key60 {x : Int} (h : I64 x) : keyOf Try.prog 60 (.agg #[.int .i64 x]) = some (kl x) :=
  key_one Try.underlying60 rfl rfl rfl cells60 cells3 Try.underlying3 key60_type types_pos (i64_wf h)
theorem key3 {x : Int} (h : I64 x) : keyOf Try.prog 3 (.int .i64 x) = some (.int .i64 x) := Maps.keyOf_int_mk Try.underlying3 (i64_wf h)
theorem kl_ne {x y : Int} (hx : I64 x) (hy : I64 y) (h : x ≠ y) : kl x ≠ kl y := fun e => by
  have h1 := key60 hx
  rw [e] at h1
  have := K60.inj h1 (key60 hy)
  simp at this
  exact h this
theorem kl_key {x : Int} (hx : I64 x) : WideAt.IsKeyLit (kl x) := K60.key (key60 hx)

/-- How the map's values read: as they are. -/
def Rv (v : Value) : Option (DataW Value × List MemPlace) := some (.held v, [])
theorem held_inj {v v' : Value} (h : (DataW.held v : DataW Value) = .held v') : v = v' := by injection h

/-- The map of what is made of markers. -/
structure Mp (w : World) (base b : Nat) (ms : List MV) (F : Int → Value) (D : DataW Value) : Prop where
  own : w.ownsMap Try.prog 60 Rv b ms.length D
  lo : base ≤ b
  at_ : ∀ x, I64 x → D.atKey (kl x) (.held (.slice none 0 0)) = .held (F x)
  has : ∀ x, I64 x → Maps.has D (kl x) = obs ms x
  row : ∀ x, w.ownsRow base 3 1 (F x) (nexts ms x).length ((nexts ms x).map (.int .i64))
  ne : ∀ x y, x ≠ y → (F x).ownBlock = none ∨ (F x).ownBlock ≠ (F y).ownBlock
  nb : ∀ x, (F x).ownBlock ≠ some b

theorem Mp.start (w : World) : Mp (w.alloc (.map #[] 0)) w.heap.size w.heap.size [] (fun _ => .slice none 0 0) (.map []) :=
  ⟨World.ownsMap_made _ _ _ _, Nat.le_refl _, fun x _ => rfl, fun x _ => rfl, fun x => World.ownsRow_nil _ _ _ _, fun x y _ => .inl rfl, fun x => by simp [Value.ownBlock]⟩
/-- One marker more: what is appended, and put back. -/
theorem Mp.step {w w1 w2 : World} {base b : Nat} {ms : List MV} {F : Int → Value} {D : DataW Value} {u : MV} {v' : Value} (h : Mp w base b ms F D) (hu : I64 u.old)
    (ho : w1.ownsRow base 3 1 v' ((nexts ms u.old).length + u.new.length) ((nexts ms u.old).map (.int .i64) ++ u.new.map (.int .i64))) (hg1 : w.grownBy w1 (F u.old).ownBlock)
    (hv : v'.ownBlock = (F u.old).ownBlock ∨ v'.ownBlock = some w.heap.size) (hown : w2.ownsMap Try.prog 60 Rv b (ms.length + 1) (D.put (kl u.old) (.held v'))) (hg2 : w1.grownBy w2 (some b)) :
    Mp w2 base b (ms ++ [u]) (fun x => if x = u.old then v' else F x) (D.put (kl u.old) (.held v')) := by
  have hbl := h.own.lt
  have hnb : v'.ownBlock ≠ some b := by
    rcases hv with e | e <;> rw [e]
    · exact h.nb _
    · intro e2; injection e2 with e2; omega
  have hrow : ∀ x, x ≠ u.old → w2.ownsRow base 3 1 (F x) (nexts ms x).length ((nexts ms x).map (.int .i64)) := fun x hx =>
    ((h.row x).kept hg1 (h.ne x u.old hx)).kept hg2 (.inr (h.nb x))
  have hne : ∀ x, x ≠ u.old → (F x).ownBlock = none ∨ (F x).ownBlock ≠ v'.ownBlock := fun x hx => by
    rcases hv with e | e
    · rw [e]; exact h.ne x u.old hx
    · rw [e]
      cases hb : (F x).ownBlock with
      | none => exact .inl rfl
      | some g => right; intro e2; injection e2 with e2; have := ((h.row x).lt g hb).2; omega
  refine ⟨by rw [List.length_append]; exact hown, h.lo, fun x hx => ?_, fun x hx => ?_, fun x => ?_, fun x y hxy => ?_, fun x => ?_⟩
  · by_cases e : x = u.old
    · subst e
      rw [Maps.atKey_put_same h.own.isMap (kl_key hx), if_pos rfl]
    · rw [Maps.atKey_put_other (kl_ne hx hu e), if_neg e]; exact h.at_ x hx
  · rw [obs_snoc]
    by_cases e : x = u.old
    · subst e
      rw [Maps.has_put_same h.own.isMap (kl_key hx), decide_eq_true rfl, Bool.or_true]
    · rw [Maps.has_put_other (kl_ne hx hu e), decide_eq_false (fun e2 => e e2.symm), Bool.or_false]; exact h.has x hx
  · rw [nexts_snoc]
    by_cases e : x = u.old
    · rw [if_pos e, if_pos e.symm, List.length_append, List.map_append, e]
      exact ho.kept hg2 (.inr hnb)
    · rw [if_neg e, if_neg (fun e2 => e e2.symm)]
      exact hrow x e
  · by_cases e : x = u.old
    · rw [if_pos e]
      by_cases e2 : y = u.old
      · exact absurd (e.trans e2.symm) hxy
      · rw [if_neg e2]
        rcases hne y e2 with h1 | h1
        · cases hb : v'.ownBlock with
          | none => exact .inl rfl
          | some g => right; rw [h1]; simp
        · exact .inr (Ne.symm h1)
    · rw [if_neg e]
      by_cases e2 : y = u.old
      · rw [if_pos e2]; exact hne x e
      · rw [if_neg e2]; exact h.ne x y hxy
  · by_cases e : x = u.old
    · rw [if_pos e]; exact hnb
    · rw [if_neg e]; exact h.nb x
theorem Mp.below {w w' : World} {base b : Nat} {ms : List MV} {F : Int → Value} {D : DataW Value} (h : Mp w base b ms F D) (hb : Below w.heap.size w w') : Mp w' base b ms F D := by
  have hg : w.grownBy w' none := ⟨hb.os, hb.tape, hb.output, hb.size, fun k hk _ => hb.block k hk⟩
  exact ⟨h.own.kept hg (by simp), h.lo, h.at_, h.has, fun x => (h.row x).kept hg (by cases (F x).ownBlock <;> simp), h.ne, h.nb⟩

/-! ### effects -/
section
variable {P : Program} {S : World → Prop} {a : Act} {w w' : World} {K : Act → World → Prop}
theorem eff_lookup {dst : Option Tmp} {t ty : TypeId} {m x : Operand} {c q : Bool} {g : Option (Tmp × Bool)} {mv key v : Value} (hm : a.eval m = mv) (hx : a.eval x = key)
    (hrun : (Instr.lookup t mv key c).run P w = .ok v w) (hK : S w ∧ K (a.put dst v) w) : effq P S ⟨q, dst, .lookup t m x c, ty, g⟩ a w K := by
  refine eff_val (fun p af g => ?_) hK
  unfold execOp
  simp only [hm, hx, hrun, Sem.run_bind, Sem.run_pure, Result.andThen_ok]
theorem eff_mapUpdate {dst : Option Tmp} {t ty : TypeId} {m x y : Operand} {q : Bool} {g : Option (Tmp × Bool)} {mv key val : Value} (hm : a.eval m = mv) (hx : a.eval x = key) (hy : a.eval y = val)
    (hrun : (Instr.mapUpdate t mv key val).run P w = .ok () w') (hK : S w' ∧ K (a.put dst undef) w') : effq P S ⟨q, dst, .mapUpdate t m x y, ty, g⟩ a w K := by
  intro p af g
  unfold Oper.wp execOp
  simp only [hm, hx, hy, hrun, Sem.run_bind, Sem.run_pure, Result.andThen_ok]
  exact hK
end
end Go.Proofs.Ytnkboccngialiaa
