/- A view among a law's arguments: opened. -/
import Derived.Test.YtnkboccngialiaaDoorR1
import Derived.Test.YtnkboccngialiaaDoorA0
namespace Go.Proofs.YtnkboccngialiaaDoor
open Go.ChangeShapes Go.WideShapes Go.ChangeAt Go.RowKit
section
variable {H : Type} {enc : TypeId × Value → H} {W : World}
set_option maxRecDepth 100000 in
theorem opens_seen : Opens enc W 74 (fun cs => ∃ c : EV, cs = c.cells ∧ c.In W W.heap.size ∧ I64 c.num ∧ I64 c.parent) := by
  refine (opens_struct (E := fun i => match i with | 0 => fun cs => ∃ k : Int, cs = [.int .i64 k] ∧ -9223372036854775808 ≤ k ∧ k ≤ 9223372036854775807 | 1 => fun cs => ∃ k : Int, cs = [.int .i64 k] ∧ -9223372036854775808 ≤ k ∧ k ≤ 9223372036854775807 | 2 => fun cs => ∃ s : ByteArray, cs = [.string s] ∧ s.size ≤ 140737488351232 | 3 => FilesCells W | _ => fun cs => ∃ b : Bool, cs = [.bool b]) Tryd.underlying74 ?_).mono ?_
  · intro i f hf
    rcases i with _ | _ | _ | _ | _ | i <;> simp at hf
    · subst hf; exact opens_int Tryd.underlying3
    · subst hf; exact opens_int Tryd.underlying3
    · subst hf; exact opens_str Tryd.underlying9
    · subst hf; exact opens_files
    · subst hf; exact opens_bool Tryd.underlying4
  · rintro cs ⟨hl, h⟩
    have hl2 : cs.length = 5 := hl
    match cs, hl2 with
    | [c0, c1, c2, c3, c4], _ =>
      have q0 := h 0 _ rfl
      have q1 := h 1 _ rfl
      have q2 := h 2 _ rfl
      have q3 := h 3 _ rfl
      have q4 := h 4 _ rfl
      obtain ⟨a, z, h0⟩ := q0
      have e0 : [c0] = [Value.int .i64 a] := z
      cases e0
      obtain ⟨b, z, h1⟩ := q1
      have e1 : [c1] = [Value.int .i64 b] := z
      cases e1
      obtain ⟨s, z, h2⟩ := q2
      have e2 : [c2] = [Value.string s] := z
      cases e2
      obtain ⟨A, c, l, z, h3, h4⟩ := q3
      have e3 : [c3] = [Value.slice A l.length c] := z
      cases e3
      obtain ⟨x, z⟩ := q4
      have e4 : [c4] = [Value.bool x] := z
      cases e4
      exact ⟨⟨a, b, s, A, c, l, x⟩, rfl, ⟨h3, h4⟩, h0, h1⟩
set_option maxRecDepth 100000 in
theorem opens_named : Opens enc W 81 (fun cs => ∃ c : NV, cs = c.cells ∧ c.name.size ≤ 140737488351232 ∧ I64 c.commit) := by
  refine (opens_struct (E := fun i => match i with | 0 => fun cs => ∃ s : ByteArray, cs = [.string s] ∧ s.size ≤ 140737488351232 | _ => fun cs => ∃ k : Int, cs = [.int .i64 k] ∧ -9223372036854775808 ≤ k ∧ k ≤ 9223372036854775807) Tryd.underlying81 ?_).mono ?_
  · intro i f hf
    rcases i with _ | _ | i <;> simp at hf
    · subst hf; exact opens_str Tryd.underlying9
    · subst hf; exact opens_int Tryd.underlying3
  · rintro cs ⟨hl, h⟩
    have hl2 : cs.length = 2 := hl
    match cs, hl2 with
    | [c0, c1], _ =>
      have q0 := h 0 _ rfl
      have q1 := h 1 _ rfl
      obtain ⟨s, z, h0⟩ := q0
      have e0 : [c0] = [Value.string s] := z
      cases e0
      obtain ⟨b, z, h1⟩ := q1
      have e1 : [c1] = [Value.int .i64 b] := z
      cases e1
      exact ⟨⟨s, b⟩, rfl, h0, h1⟩
set_option maxRecDepth 100000 in
theorem opens_settled : Opens enc W 109 (fun cs => ∃ c : SV, cs = c.cells ∧ c.In W W.heap.size) := by
  refine (opens_struct (E := fun i => match i with | 0 => fun cs => ∃ k : Int, cs = [.int .i64 k] ∧ -9223372036854775808 ≤ k ∧ k ≤ 9223372036854775807 | _ => FilesCells W) Tryd.underlying109 ?_).mono ?_
  · intro i f hf
    rcases i with _ | _ | i <;> simp at hf
    · subst hf; exact opens_int Tryd.underlying3
    · subst hf; exact opens_files
  · rintro cs ⟨hl, h⟩
    have hl2 : cs.length = 2 := hl
    match cs, hl2 with
    | [c0, c1], _ =>
      have q0 := h 0 _ rfl
      have q1 := h 1 _ rfl
      obtain ⟨b, z, h1⟩ := q0
      have e0 : [c0] = [Value.int .i64 b] := z
      cases e0
      obtain ⟨A, c, l, z, h3, h4⟩ := q1
      have e1 : [c1] = [Value.slice A l.length c] := z
      cases e1
      exact ⟨⟨b, A, c, l⟩, rfl, h3, h4⟩
set_option maxRecDepth 100000 in
theorem opens_clash : Opens enc W 113 (fun cs => ∃ c : CV, cs = c.cells ∧ True) := by
  refine (opens_struct (E := fun i => match i with | 0 => fun cs => ∃ s : ByteArray, cs = [.string s] ∧ s.size ≤ 140737488351232 | 1 => fun cs => ∃ k : Int, cs = [.int .i64 k] ∧ -9223372036854775808 ≤ k ∧ k ≤ 9223372036854775807 | _ => fun cs => ∃ s : ByteArray, cs = [.string s] ∧ s.size ≤ 140737488351232) Tryd.underlying113 ?_).mono ?_
  · intro i f hf
    rcases i with _ | _ | _ | i <;> simp at hf
    · subst hf; exact opens_str Tryd.underlying9
    · subst hf; exact opens_int Tryd.underlying3
    · subst hf; exact opens_str Tryd.underlying9
  · rintro cs ⟨hl, h⟩
    have hl2 : cs.length = 3 := hl
    match cs, hl2 with
    | [c0, c1, c2], _ =>
      have q0 := h 0 _ rfl
      have q1 := h 1 _ rfl
      have q2 := h 2 _ rfl
      obtain ⟨s, z, h0⟩ := q0
      have e0 : [c0] = [Value.string s] := z
      cases e0
      obtain ⟨b, z, h1⟩ := q1
      have e1 : [c1] = [Value.int .i64 b] := z
      cases e1
      obtain ⟨t, z, h2⟩ := q2
      have e2 : [c2] = [Value.string t] := z
      cases e2
      exact ⟨⟨s, b, t⟩, rfl, trivial⟩
set_option maxRecDepth 100000 in
theorem opens_seens : Opens enc W 45 fun cs => ∃ (A : Option Addr) (c : Nat) (l : List EV), cs = [.slice A l.length c] ∧ Rd W W.heap.size 5 A l.length c (l.flatMap EV.cells) ∧ (∀ y ∈ l, y.In W W.heap.size ∧ I64 y.num ∧ I64 y.parent) ∧ l.length ≤ 17592186044416 := by
  refine (opens_slice (f := EV.cells) (Q := fun y => y.In W W.heap.size ∧ I64 y.num ∧ I64 y.parent) Tryd.underlying45 (by kernel_rfl) (bytes := 64) (by kernel_rfl) EV.cells_len (by omega) opens_seen).mono ?_
  rintro cs ⟨A, n, c, es, rfl, rfl, hr, hq, hb⟩
  exact ⟨A, c, es, rfl, hr, hq, by omega⟩
set_option maxRecDepth 100000 in
theorem opens_nameds : Opens enc W 46 fun cs => ∃ (A : Option Addr) (c : Nat) (l : List NV), cs = [.slice A l.length c] ∧ Rd W W.heap.size 2 A l.length c (l.flatMap NV.cells) ∧ (∀ y ∈ l, y.name.size ≤ 140737488351232 ∧ I64 y.commit) ∧ l.length ≤ 17592186044416 := by
  refine (opens_slice (f := NV.cells) (Q := fun y => y.name.size ≤ 140737488351232 ∧ I64 y.commit) Tryd.underlying46 (by kernel_rfl) (bytes := 24) (by kernel_rfl) NV.cells_len (by omega) opens_named).mono ?_
  rintro cs ⟨A, n, c, es, rfl, rfl, hr, hq, hb⟩
  exact ⟨A, c, es, rfl, hr, hq, by omega⟩
set_option maxRecDepth 100000 in
theorem opens_settleds : Opens enc W 47 fun cs => ∃ (A : Option Addr) (c : Nat) (l : List SV), cs = [.slice A l.length c] ∧ Rd W W.heap.size 2 A l.length c (l.flatMap SV.cells) ∧ (∀ y ∈ l, y.In W W.heap.size) ∧ l.length ≤ 17592186044416 := by
  refine (opens_slice (f := SV.cells) (Q := fun y => y.In W W.heap.size) Tryd.underlying47 (by kernel_rfl) (bytes := 32) (by kernel_rfl) SV.cells_len (by omega) opens_settled).mono ?_
  rintro cs ⟨A, n, c, es, rfl, rfl, hr, hq, hb⟩
  exact ⟨A, c, es, rfl, hr, hq, by omega⟩
set_option maxRecDepth 100000 in
theorem opens_clashes : Opens enc W 48 fun cs => ∃ (A : Option Addr) (c : Nat) (l : List CV), cs = [.slice A l.length c] ∧ Rd W W.heap.size 3 A l.length c (l.flatMap CV.cells) ∧ (∀ y ∈ l, True) ∧ l.length ≤ 17592186044416 := by
  refine (opens_slice (f := CV.cells) (Q := fun y => True) Tryd.underlying48 (by kernel_rfl) (bytes := 40) (by kernel_rfl) CV.cells_len (by omega) opens_clash).mono ?_
  rintro cs ⟨A, n, c, es, rfl, rfl, hr, hq, hb⟩
  exact ⟨A, c, es, rfl, hr, hq, by omega⟩
set_option maxRecDepth 100000 in
theorem opens_pending : Opens enc W 50 (fun cs => ∃ p : PV, cs = p.vals.toList ∧ p.In W W.heap.size) := by
  refine (opens_struct (E := fun i => match i with | 0 => fun cs => ∃ b : Bool, cs = [.bool b] | 1 => fun cs => ∃ b : Bool, cs = [.bool b] | 2 => fun cs => ∃ k : Int, cs = [.int .i64 k] ∧ -9223372036854775808 ≤ k ∧ k ≤ 9223372036854775807 | 3 => fun cs => ∃ k : Int, cs = [.int .i64 k] ∧ -9223372036854775808 ≤ k ∧ k ≤ 9223372036854775807 | 4 => fun cs => ∃ (A : Option Addr) (c : Nat) (l : List SV), cs = [.slice A l.length c] ∧ Rd W W.heap.size 2 A l.length c (l.flatMap SV.cells) ∧ (∀ y ∈ l, y.In W W.heap.size) ∧ l.length ≤ 17592186044416 | 5 => fun cs => ∃ k : Int, cs = [.int .i64 k] ∧ -9223372036854775808 ≤ k ∧ k ≤ 9223372036854775807 | _ => fun cs => ∃ (A : Option Addr) (c : Nat) (l : List CV), cs = [.slice A l.length c] ∧ Rd W W.heap.size 3 A l.length c (l.flatMap CV.cells) ∧ (∀ y ∈ l, True) ∧ l.length ≤ 17592186044416) Tryd.underlying50 ?_).mono ?_
  · intro i f hf
    rcases i with _ | _ | _ | _ | _ | _ | _ | i <;> simp at hf
    · subst hf; exact opens_bool Tryd.underlying4
    · subst hf; exact opens_bool Tryd.underlying4
    · subst hf; exact opens_int Tryd.underlying3
    · subst hf; exact opens_int Tryd.underlying3
    · subst hf; exact opens_settleds
    · subst hf; exact opens_int Tryd.underlying3
    · subst hf; exact opens_clashes
  · rintro cs ⟨hl, h⟩
    have hl2 : cs.length = 7 := hl
    match cs, hl2 with
    | [c0, c1, c2, c3, c4, c5, c6], _ =>
      have q0 := h 0 _ rfl
      have q1 := h 1 _ rfl
      have q2 := h 2 _ rfl
      have q3 := h 3 _ rfl
      have q4 := h 4 _ rfl
      have q5 := h 5 _ rfl
      have q6 := h 6 _ rfl
      obtain ⟨on, z⟩ := q0
      have e0 : [c0] = [Value.bool on] := z
      cases e0
      obtain ⟨re, z⟩ := q1
      have e1 : [c1] = [Value.bool re] := z
      cases e1
      obtain ⟨so, z, _⟩ := q2
      have e2 : [c2] = [Value.int .i64 so] := z
      cases e2
      obtain ⟨de, z, _⟩ := q3
      have e3 : [c3] = [Value.int .i64 de] := z
      cases e3
      obtain ⟨sA, sc, st, z, s1, s2, s3⟩ := q4
      have e4 : [c4] = [Value.slice sA st.length sc] := z
      cases e4
      obtain ⟨co, z, _⟩ := q5
      have e5 : [c5] = [Value.int .i64 co] := z
      cases e5
      obtain ⟨kA, kc, kl, z, k1, k2, k3⟩ := q6
      have e6 : [c6] = [Value.slice kA kl.length kc] := z
      cases e6
      exact ⟨⟨on, re, so, de, sA, sc, st, co, kA, kc, kl⟩, rfl, ⟨s1, s2, k1, s3, k3⟩⟩
set_option maxRecDepth 100000 in
theorem opens_view : Opens enc W 52 (fun cs => ∃ v : VV, cs = v.vals.toList ∧ v.In W W.heap.size ∧ Nums v) := by
  refine (opens_struct (E := fun i => match i with | 0 => fun cs => ∃ (A : Option Addr) (c : Nat) (l : List EV), cs = [.slice A l.length c] ∧ Rd W W.heap.size 5 A l.length c (l.flatMap EV.cells) ∧ (∀ y ∈ l, y.In W W.heap.size ∧ I64 y.num ∧ I64 y.parent) ∧ l.length ≤ 17592186044416 | 1 => fun cs => ∃ (A : Option Addr) (c : Nat) (l : List NV), cs = [.slice A l.length c] ∧ Rd W W.heap.size 2 A l.length c (l.flatMap NV.cells) ∧ (∀ y ∈ l, y.name.size ≤ 140737488351232 ∧ I64 y.commit) ∧ l.length ≤ 17592186044416 | 2 => fun cs => ∃ k : Int, cs = [.int .i64 k] ∧ -9223372036854775808 ≤ k ∧ k ≤ 9223372036854775807 | 3 => fun cs => ∃ p : PV, cs = p.vals.toList ∧ p.In W W.heap.size | 4 => fun cs => ∃ k : Int, cs = [.int .i64 k] ∧ -9223372036854775808 ≤ k ∧ k ≤ 9223372036854775807 | _ => fun cs => ∃ k : Int, cs = [.int .i64 k] ∧ -9223372036854775808 ≤ k ∧ k ≤ 9223372036854775807) Tryd.underlying52 ?_).mono ?_
  · intro i f hf
    rcases i with _ | _ | _ | _ | _ | _ | i <;> simp at hf
    · subst hf; exact opens_seens
    · subst hf; exact opens_nameds
    · subst hf; exact opens_int Tryd.underlying3
    · subst hf; exact opens_pending
    · subst hf; exact opens_int Tryd.underlying3
    · subst hf; exact opens_int Tryd.underlying3
  · rintro cs ⟨hl, h⟩
    have hl2 : cs.length = 12 := hl
    match cs, hl2 with
    | [c0, c1, c2, c3, c4, c5, c6, c7, c8, c9, c10, c11], _ =>
      have q0 := h 0 _ rfl
      have q1 := h 1 _ rfl
      have q2 := h 2 _ rfl
      have q3 := h 3 _ rfl
      have q4 := h 4 _ rfl
      have q5 := h 5 _ rfl
      obtain ⟨A, c, l, z, a1, a2, a3⟩ := q0
      have e0 : [c0] = [Value.slice A l.length c] := z
      cases e0
      obtain ⟨mA, mc, ml, z, m1, m2, m3⟩ := q1
      have e1 : [c1] = [Value.slice mA ml.length mc] := z
      cases e1
      obtain ⟨wk, z, w1⟩ := q2
      have e2 : [c2] = [Value.int .i64 wk] := z
      cases e2
      obtain ⟨p, z, hp⟩ := q3
      have e3 : [c3, c4, c5, c6, c7, c8, c9] = p.vals.toList := z
      simp only [PV.vals, List.cons.injEq, and_true] at e3
      obtain ⟨rfl, rfl, rfl, rfl, rfl, rfl, rfl⟩ := e3
      obtain ⟨un, z, u1⟩ := q4
      have e10 : [c10] = [Value.int .i64 un] := z
      cases e10
      obtain ⟨rd, z, r1⟩ := q5
      have e11 : [c11] = [Value.int .i64 rd] := z
      cases e11
      exact ⟨⟨A, c, l, mA, mc, ml, wk, p, un, rd⟩, rfl, ⟨a1, fun y hy => (a2 y hy).1, m1, hp, a3, m3, fun y hy => (m2 y hy).1⟩, ⟨fun y hy => (a2 y hy).2, fun y hy => (m2 y hy).2, w1, u1, r1⟩⟩
end
end Go.Proofs.YtnkboccngialiaaDoor
