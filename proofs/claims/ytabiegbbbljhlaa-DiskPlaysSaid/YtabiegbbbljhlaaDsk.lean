/- A disk: what it is, plain; how it lies in memory. -/
import Derived.Test.YtabiegbbbljhlaaLate
namespace Go.Proofs.Ytabiegbbbljhlaa
open Go.RowKit

/-! ### Data that no one writes into -/
def by8 (l : List UInt8) : List Value := l.map fun x => .int .u8 x.toNat
def i64s (l : List Int) : List Value := l.map fun x => .int .i64 x
theorem by8_len (l : List UInt8) : (by8 l).length = l.length := by simp [by8]
theorem by8_app (l m : List UInt8) : by8 (l ++ m) = by8 l ++ by8 m := by simp [by8]
theorem by8_take (l : List UInt8) (k : Nat) : by8 (l.take k) = (by8 l).take k := by simp [by8, List.map_take]
theorem i64s_len (l : List Int) : (i64s l).length = l.length := by simp [i64s]
theorem by8_one (l : List UInt8) : ∀ u ∈ by8 l, u.oneCell' = true := by
  intro u hu; obtain ⟨x, _, rfl⟩ := List.mem_map.1 hu; rfl
theorem i64s_one (l : List Int) : ∀ u ∈ i64s l, u.oneCell' = true := by
  intro u hu; obtain ⟨x, _, rfl⟩ := List.mem_map.1 hu; rfl

structure Dat (N : Nat) (e : TypeId) (w : World) (A : Option Addr) (n c : Nat) (xs : List Value) : Prop where
  len : xs.length = n
  cap : n ≤ c
  at_ : 0 < n → ∃ b o, A = some ⟨b, o, none⟩ ∧ b < w.heap.size ∧ (b < N ∨ ∃ cur fr, w.heap[b]? = some (.cells cur e fr)) ∧ ∀ j u, xs[j]? = some u → w.cell? ⟨b, o + j, none⟩ = some u
section
variable {N : Nat} {e : TypeId} {w w' : World} {A : Option Addr} {n c : Nat} {xs : List Value}
theorem Dat.rd (h : Dat N e w A n c xs) : Rd w w.heap.size 1 A n c xs :=
  ⟨by rw [h.len, Nat.mul_one], h.cap, fun hn => by obtain ⟨b, o, e1, h1, _, h3⟩ := h.at_ hn; exact ⟨b, o, e1, h1, h3⟩⟩
theorem Dat.none_ (N : Nat) (e : TypeId) (w : World) : Dat N e w none 0 0 [] := ⟨rfl, Nat.le_refl _, fun h => absurd h (by omega)⟩
theorem Dat.of_rd (h : Rd w N 1 A n c xs) (hN : N ≤ w.heap.size) : Dat N e w A n c xs :=
  ⟨by have := h.len; omega, h.cap, fun hn => by obtain ⟨b, o, e1, h1, h3⟩ := h.at_ hn; exact ⟨b, o, e1, by omega, .inl h1, h3⟩⟩
theorem Dat.of_own {base : Nat} (h : w.ownsRow base e 1 (.slice A n c) n xs) (hc : n ≤ c) : Dat N e w A n c xs := by
  refine ⟨by have := h.1; omega, hc, fun hn => ?_⟩
  obtain ⟨b, o, e1, h1, h3⟩ := (Rd.of_own h hc).at_ hn
  refine ⟨b, o, e1, h1, .inr ?_, h3⟩
  rcases h.2 with ⟨hv, h0⟩ | ⟨g, cap, cur, hv, _, hg, _⟩
  · omega
  · injection hv with e2 _ _
    rw [e1] at e2
    injection e2 with e2
    injection e2 with e2 _ _
    exact ⟨cur, (0, 0), by rw [e2]; exact hg⟩
theorem Dat.same (h : Dat N e w A n c xs) (hs : w.heap.size ≤ w'.heap.size) (hk : ∀ b, b < w.heap.size → (b < N ∨ ∃ cur fr, w.heap[b]? = some (.cells cur e fr)) → w'.heap[b]? = w.heap[b]?) : Dat N e w' A n c xs :=
  ⟨h.len, h.cap, fun hn => by
    obtain ⟨b, o, e1, h1, h2, h3⟩ := h.at_ hn
    have hb := hk b h1 h2
    refine ⟨b, o, e1, by omega, ?_, fun j u hu => (World.cell?_of_block (a := ⟨b, o + j, none⟩) hb).trans (h3 j u hu)⟩
    rcases h2 with h2 | h2
    · exact .inl h2
    · rw [hb]; exact .inr h2⟩
theorem Dat.below (h : Dat N e w A n c xs) (hb : Below w.heap.size w w') : Dat N e w' A n c xs := h.same hb.size fun b hl _ => hb.block b hl
theorem Dat.drew (h : Dat N e w A n c xs) : Dat N e w.drew A n c xs := ⟨h.len, h.cap, h.at_⟩
/-- A block of another type was written. -/
theorem Dat.grown {g : Nat} {cur : Array Value} {t : TypeId} {fr : Nat × Nat} (h : Dat N e w A n c xs) (hg : w.grownBy w' (some g)) (hN : N ≤ g) (hd : w.heap[g]? = some (.cells cur t fr)) (ht : t ≠ e) : Dat N e w' A n c xs :=
  h.same hg.size fun b hl hb => hg.block b hl fun he => by
    injection he with he
    subst he
    rcases hb with hb | ⟨cur', fr', hb⟩
    · omega
    · rw [hd] at hb; injection hb with hb; injection hb with _ hb _; exact ht hb
theorem Dat.head {ys : List Value} {k : Nat} (h : Dat N e w A n c ys) (hk : k ≤ n) (c' : Nat) (hc : k ≤ c') : Dat N e w A k c' (ys.take k) :=
  ⟨by rw [List.length_take, h.len]; omega, hc, fun hn => by
    obtain ⟨b, o, e1, h1, h2, h3⟩ := h.at_ (by omega)
    refine ⟨b, o, e1, h1, h2, fun j u hu => h3 j u ?_⟩
    rw [List.getElem?_take] at hu
    split at hu
    · exact hu
    · cases hu⟩
end

/-! ### The plain disk -/
structure PD where
  room : Nat
  f0 : List UInt8
  s0 : Nat
  f1 : List UInt8
  s1 : Nat
  armed : Bool
  steps : Int
  keep : List Int
  down : Bool
structure PD.wf (d : PD) : Prop where
  room : d.room ≤ 1000000
  full : d.f0.length + d.f1.length ≤ d.room
  s0 : d.s0 ≤ d.f0.length
  s1 : d.s1 ≤ d.f1.length
  st : 0 ≤ d.steps ∧ d.steps ≤ 9223372036854775807
  up : d.armed = true → d.down = false → 1 ≤ d.steps
  keep : ∀ k ∈ d.keep, -9223372036854775808 ≤ k ∧ k ≤ 9223372036854775807
  kl : d.keep.length ≤ 70368744177664
def PD.free (d : PD) : Int := (d.room : Int) - d.f0.length - d.f1.length
def PD.ask (d : PD) (f : Int) : Int := if d.down = true then 7 else if f < 0 ∨ 2 ≤ f then 1 else 0
def PD.step (d : PD) : PD := if d.armed = true then { d with steps := d.steps - 1, down := decide (d.steps - 1 ≤ 0) } else d
def PD.file (d : PD) (f : Int) : List UInt8 := if f = 0 then d.f0 else d.f1
def PD.syn (d : PD) (f : Int) : Nat := if f = 0 then d.s0 else d.s1
def PD.put (d : PD) (f : Int) (l : List UInt8) (s : Nat) : PD := if f = 0 then { d with f0 := l, s0 := s } else { d with f1 := l, s1 := s }
def PD.append (d : PD) (f : Int) (b : List UInt8) : Int × PD :=
  if d.ask f ≠ 0 then (d.ask f, d) else if d.free < b.length then (3, d) else (0, (d.put f (d.file f ++ b) (d.syn f)).step)
def PD.sync (d : PD) (f : Int) : Int × PD := if d.ask f ≠ 0 then (d.ask f, d) else (0, (d.put f (d.file f) (d.file f).length).step)
def PD.cut (d : PD) (f n : Int) : Int × PD :=
  if d.ask f ≠ 0 then (d.ask f, d) else if n < 0 ∨ ((d.file f).length : Int) < n then (1, d) else (0, (d.put f ((d.file f).take n.toNat) (min (d.syn f) n.toNat)).step)
def PD.read (d : PD) (f : Int) : List UInt8 × Int := if d.ask f ≠ 0 then ([], d.ask f) else (d.file f, 0)
def PD.synced (d : PD) (f : Int) : Int := if f < 0 ∨ 2 ≤ f then 0 else d.syn f
def PD.arm (d : PD) (steps : Int) (keep : List Int) : PD := if d.down = true then d else { d with armed := true, steps := max steps 0, keep := keep, down := decide (max steps 0 = 0) }
def PD.new (room : Int) : PD := ⟨(min (max room 0) 1000000).toNat, [], 0, [], 0, false, 0, [], false⟩
def PD.kept (d : PD) (i : Nat) (f : List UInt8) (s : Nat) : Nat :=
  s + (if d.armed = true then (match d.keep[i]? with | some k => (min (max k 0) ((f.length : Int) - s)).toNat | none => 0) else 0)
def PD.restart (d : PD) : PD := ⟨d.room, d.f0.take (d.kept 0 d.f0 d.s0), d.kept 0 d.f0 d.s0, d.f1.take (d.kept 1 d.f1 d.s1), d.kept 1 d.f1 d.s1, false, 0, [], false⟩

/-! ### How it lies -/
def dcells (d : PD) (A0 : Option Addr) (c0 : Nat) (A1 : Option Addr) (c1 : Nat) (Ak : Option Addr) (ck : Nat) : Array Value :=
  #[.int .i64 d.room, .slice A0 d.f0.length c0, .int .i64 d.s0, .slice A1 d.f1.length c1, .int .i64 d.s1, .bool d.armed, .int .i64 d.steps, .slice Ak d.keep.length ck, .bool d.down]
structure DL (N : Nat) (w : World) (g : Nat) (d : PD) (A0 : Option Addr) (c0 : Nat) (A1 : Option Addr) (c1 : Nat) (Ak : Option Addr) (ck : Nat) : Prop where
  blk : w.heap[g]? = some (.cells (dcells d A0 c0 A1 c1 Ak ck) 89 (0, 0))
  base : N ≤ g
  d0 : Dat N 5 w A0 d.f0.length c0 (by8 d.f0)
  d1 : Dat N 5 w A1 d.f1.length c1 (by8 d.f1)
  dk : Dat N 3 w Ak d.keep.length ck (i64s d.keep)
  wf : d.wf
def DK (N : Nat) (w : World) (g : Nat) (d : PD) : Prop := ∃ A0 c0 A1 c1 Ak ck, DL N w g d A0 c0 A1 c1 Ak ck
section
variable {N g : Nat} {w w' : World} {d : PD}
theorem DL.lt {A0 A1 Ak : Option Addr} {c0 c1 ck : Nat} (h : DL N w g d A0 c0 A1 c1 Ak ck) : g < w.heap.size := (Array.getElem?_eq_some_iff.1 h.blk).1
theorem DK.lt (h : DK N w g d) : N ≤ g ∧ g < w.heap.size := by obtain ⟨_, _, _, _, _, _, h⟩ := h; exact ⟨h.base, h.lt⟩
theorem DK.wf (h : DK N w g d) : d.wf := by obtain ⟨_, _, _, _, _, _, h⟩ := h; exact h.wf
theorem DK.drew (h : DK N w g d) : DK N w.drew g d := by
  obtain ⟨A0, c0, A1, c1, Ak, ck, h⟩ := h
  exact ⟨A0, c0, A1, c1, Ak, ck, h.blk, h.base, h.d0.drew, h.d1.drew, h.dk.drew, h.wf⟩
theorem DK.below (h : DK N w g d) (hb : Below w.heap.size w w') : DK N w' g d := by
  obtain ⟨A0, c0, A1, c1, Ak, ck, h⟩ := h
  exact ⟨A0, c0, A1, c1, Ak, ck, (hb.block g h.lt).trans h.blk, h.base, h.d0.below hb, h.d1.below hb, h.dk.below hb, h.wf⟩
/-- What is done with another disk. -/
theorem DK.grown {g' : Nat} {d' : PD} (h : DK N w g d) (hg : w.grownBy w' (some g')) (h' : DK N w g' d') (hne : g ≠ g') : DK N w' g d := by
  obtain ⟨A0, c0, A1, c1, Ak, ck, h⟩ := h
  obtain ⟨_, _, _, _, _, _, h'⟩ := h'
  refine ⟨A0, c0, A1, c1, Ak, ck, (hg.block g h.lt (fun e => hne (Option.some.inj e))).trans h.blk, h.base, h.d0.grown hg h'.base h'.blk (by decide), h.d1.grown hg h'.base h'.blk (by decide), h.dk.grown hg h'.base h'.blk (by decide), h.wf⟩
end
/-- What is done with a disk: an answer, and how it is then. -/
def DOp (N g : Nat) (r : Int × PD) (w : World) (e : Ending) (w' : World) : Prop := e = .returned (.int .i64 r.1) ∧ DK N w' g r.2 ∧ w.grownBy w' (some g)
theorem grownBy_drew (w : World) (row : Option Nat) : w.grownBy w.drew row := ⟨rfl, rfl, rfl, Nat.le_refl _, fun _ _ _ => rfl⟩
theorem grownBy_below {w w' : World} (hb : Below w.heap.size w w') (row : Option Nat) : w.grownBy w' row := ⟨hb.os, hb.tape, hb.output, hb.size, fun k hk _ => hb.block k hk⟩
theorem PD.step_wf {d : PD} (h : d.wf) (hd : d.down = false) : d.step.wf := by
  unfold PD.step
  split
  · rename_i ha
    have h1 := h.up ha hd
    have h2 := h.st
    refine ⟨h.room, h.full, h.s0, h.s1, by simp only; omega, fun _ hd' => ?_, h.keep, h.kl⟩
    simp only [decide_eq_false_iff_not] at hd'
    simp only
    omega
  · exact h
end Go.Proofs.Ytabiegbbbljhlaa
