/- Sets of numbers in maps (of structs with a number). -/
import Derived.Test.YtnkboccngialiaaDoorT5
namespace Go.Proofs.YtnkboccngialiaaDoor
open Go.RowKit

def I64 (x : Int) : Prop := -9223372036854775808 ≤ x ∧ x ≤ 9223372036854775807
set_option maxRecDepth 100000 in
theorem wideN : (match Tryd.prog.underlying 77 with | some (.array _ _) | some (.struct _) => true | _ => false) = true := by kernel_rfl
set_option maxRecDepth 100000 in
theorem KN : Maps.Keyed Tryd.prog 77 := Maps.Keyed.of_law (deep_law_laid T.laidOut (m := 2) (by omega) (of_decide_eq_true (by kernel_rfl)) (by kernel_rfl) wideN)
theorem i64_min : IntKind.i64.min = -9223372036854775808 := by decide
theorem i64_max : IntKind.i64.max = 9223372036854775807 := by decide
theorem i64_wf {x : Int} (h : I64 x) : (Lit.int .i64 x).wf = true := by
  obtain ⟨h1, h2⟩ := h
  simp [Lit.wf, i64_min, i64_max]
  omega
def klN (x : Int) : Lit := .string (keyBytes [.int .i64 x])
theorem key_int {P : Program} {t e : TypeId} {f : Field} (hu : P.underlying t = some (.struct #[f])) (hft : f.type = e) (hfo : f.offset = 0) (hfn : (f.name != "_") = true) (hct : P.cellsOf t = 1) (hce : P.cellsOf e = 1)
    (hue : P.underlying e = some (.int .i64)) (hk : P.keyType t = true) (hp : 0 < P.types.size) {x : Int} (hw : (Lit.int .i64 x).wf = true) : keyOf P t (.agg #[.int .i64 x]) = some (klN x) := by
  obtain ⟨k, hs⟩ : ∃ k, P.types.size = k + 1 := ⟨P.types.size - 1, by omega⟩
  have h1 : P.keyLits (k + 1) e [.int .i64 x] = some [.int .i64 x] := by simp [Program.keyLits, hue, hw]
  have h2 : P.keyLits (k + 1 + 1) t [.int .i64 x] = some [.int .i64 x] := by
    unfold Program.keyLits
    simp only [hu]
    have hfn' : ¬ f.name = "_" := by simpa using hfn
    simp [hct, hft, hfo, hce, h1, hfn']
  simp [keyOf, hu, hk, Value.formed, hct, Value.cells, hs, h2, klN]
set_option maxRecDepth 100000 in
theorem keyN_type : Tryd.prog.keyType 77 = true := by kernel_rfl
set_option maxRecDepth 100000 in
theorem cellsN : Tryd.prog.cellsOf 77 = 1 := by kernel_rfl
theorem cells_int : Tryd.prog.cellsOf 3 = 1 := by kernel_rfl
theorem keyN {x : Int} (h : I64 x) : keyOf Tryd.prog 77 (.agg #[.int .i64 x]) = some (klN x) :=
  key_int Tryd.underlying77 rfl rfl rfl cellsN cells_int Tryd.underlying3 keyN_type T.types_pos (i64_wf h)
theorem klN_ne {x y : Int} (hx : I64 x) (hy : I64 y) (h : x ≠ y) : klN x ≠ klN y := fun e => by
  have h1 := keyN hx
  rw [e] at h1
  have := KN.inj h1 (keyN hy)
  simp at this
  exact h this
theorem klN_key {x : Int} (hx : I64 x) : WideAt.IsKeyLit (klN x) := KN.key (keyN hx)

/-- A map that is a set of numbers. -/
structure SetN (w : World) (b n : Nat) (D : DataW Value) (L : List Int) : Prop where
  own : w.ownsMap Tryd.prog 77 (plainElem Tryd.prog 4) b n D
  at_ : ∀ q : Int, I64 q → D.atKey (klN q) (.lit (.bool false)) = .lit (.bool (decide (q ∈ L)))
theorem SetN.start (w : World) : SetN (w.alloc (.map #[] 0)) w.heap.size 0 (.map []) [] :=
  ⟨World.ownsMap_made _ _ _ _, fun x _ => by simp [DataW.atKey]⟩
theorem SetN.put {w w' : World} {b n : Nat} {D : DataW Value} {L L' : List Int} {k : Int} (h : SetN w b n D L) (hk : I64 k)
    (hown : w'.ownsMap Tryd.prog 77 (plainElem Tryd.prog 4) b (n + 1) (D.put (klN k) (.lit (.bool true)))) (hS : ∀ x, x ∈ L' ↔ x ∈ L ∨ x = k) :
    SetN w' b (n + 1) (D.put (klN k) (.lit (.bool true))) L' := by
  refine ⟨hown, fun x hx => ?_⟩
  by_cases e : x = k
  · subst e
    rw [Maps.atKey_put_same h.own.isMap (klN_key hk), decide_eq_true ((hS x).2 (.inr rfl))]
  · rw [Maps.atKey_put_other (klN_ne hx hk e), h.at_ x hx]
    congr 2; exact decide_eq_decide.2 (by rw [hS]; simp [e])
theorem SetN.kept {w w' : World} {b n : Nat} {D : DataW Value} {L : List Int} {row : Option Nat} (h : SetN w b n D L) (hg : w.grownBy w' row) (hne : some b ≠ row) : SetN w' b n D L :=
  ⟨h.own.kept hg hne, h.at_⟩
theorem SetN.below {w w' : World} {b n : Nat} {D : DataW Value} {L : List Int} (h : SetN w b n D L) (hb : Below w.heap.size w w') : SetN w' b n D L :=
  h.kept (row := none) ⟨hb.os, hb.tape, hb.output, hb.size, fun k hk _ => hb.block k hk⟩ (by simp)
/-- m[x] -/
theorem SetN.look {w : World} {b n : Nat} {D : DataW Value} {L : List Int} (h : SetN w b n D L) {x : Int} (hx : I64 x) :
    (Instr.lookup 75 (.map (some b)) (.agg #[.int .i64 x]) false).run Tryd.prog w = .ok (.bool (decide (x ∈ L))) w := by
  obtain ⟨v, ps, hrun, hv⟩ := h.own.lookup KN Tryd.underlying75 (Tryd.zeroValue4 w) (boolT false) (keyN hx)
  rw [h.at_ x hx] at hv
  rw [boolT_inv hv] at hrun
  exact hrun
theorem run_keyN (w : World) (x : Int) : (Instr.build 77 #[(0, .int .i64 x)]).run Tryd.prog w = .ok (.agg #[.int .i64 x]) w := by
  go_simp
end Go.Proofs.YtnkboccngialiaaDoor
