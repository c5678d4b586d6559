/- Files among a law's arguments: opened. -/
import Derived.Test.YtahlfafcjjkliaaGreatDoorR0
import Derived.Test.YtahlfafcjjkliaaGreatDoorT5
namespace Go.Proofs.YtahlfafcjjkliaaGreatDoor
open Go.ChangeShapes Go.WideShapes Go.ChangeAt Go.RowKit
section
variable {H : Type} {enc : TypeId × Value → H} {W : World}
/-- What a file's cells are. -/
def FileCells (cs : List Value) : Prop := ∃ f : FV, cs = f.cells ∧ f.path.size ≤ 140737488351232 ∧ f.text.size ≤ 140737488351232
set_option maxRecDepth 100000 in
theorem opens_file : Opens enc W 35 FileCells := by
  refine (opens_struct (E := fun i => match i with | 0 => fun cs => ∃ s : ByteArray, cs = [.string s] ∧ s.size ≤ 140737488351232 | 1 => fun cs => ∃ b : Bool, cs = [.bool b] | _ => fun cs => ∃ s : ByteArray, cs = [.string s] ∧ s.size ≤ 140737488351232) Tryz.underlying35 ?_).mono ?_
  · intro i f hf
    rcases i with _ | _ | _ | i <;> simp at hf
    · subst hf; exact opens_str Tryz.underlying9
    · subst hf; exact opens_bool Tryz.underlying4
    · subst hf; exact opens_str Tryz.underlying9
  · rintro cs ⟨hl, h⟩
    have hl3 : cs.length = 3 := hl
    match cs, hl3 with
    | [a, b, c], _ =>
      obtain ⟨p, e1, h1⟩ := h 0 _ rfl
      obtain ⟨x, e2⟩ := h 1 _ rfl
      obtain ⟨t, e3, h3⟩ := h 2 _ rfl
      have e1' : [a] = [Value.string p] := e1
      have e2' : [b] = [Value.bool x] := e2
      have e3' : [c] = [Value.string t] := e3
      cases e1'
      cases e2'
      cases e3'
      exact ⟨⟨p, x, t⟩, rfl, h1, h3⟩
/-- A slice of files. -/
def FilesCells (W : World) (cs : List Value) : Prop := ∃ (A : Option Addr) (c : Nat) (l : List FV), cs = [.slice A l.length c] ∧ RdF W W.heap.size A l.length c l ∧ l.length ≤ 17592186044416
set_option maxRecDepth 100000 in
theorem opens_files : Opens enc W 22 (FilesCells W) := by
  refine (opens_slice (f := FV.cells) (Q := fun f => f.path.size ≤ 140737488351232 ∧ f.text.size ≤ 140737488351232) Tryz.underlying22 (by kernel_rfl) (bytes := 40) (by kernel_rfl) FV.cells_len (by omega) (opens_file.mono ?_)).mono ?_
  · rintro cs ⟨f, h1, h2, h3⟩; exact ⟨f, h1, h2, h3⟩
  · rintro cs ⟨A, n, c, es, rfl, rfl, hr, hq, hb⟩
    exact ⟨A, c, es, rfl, ⟨hr, rfl, hq⟩, by omega⟩
end
end Go.Proofs.YtahlfafcjjkliaaGreatDoor
