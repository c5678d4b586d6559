/- Walks: changes, commands and steps that are alike. -/
import Derived.Test.YtnkboccngialiaaDoorS2d
import Derived.Test.YtnkboccngialiaaDoorS3
namespace Go.Proofs.YtnkboccngialiaaDoor
open Go.RowKit

theorem flat_at {α : Type} {f : α → List Value} {k : Nat} (hf : ∀ a, (f a).length = k) : ∀ {l : List α} {i j : Nat} {a : α}, l[i]? = some a → j < k → (l.flatMap f)[i * k + j]? = (f a)[j]?
  | [], i, j, a, h, _ => by simp at h
  | x :: l, 0, j, a, h, hj => by
    obtain rfl : x = a := by simpa using h
    rw [List.flatMap_cons, Nat.zero_mul, Nat.zero_add, List.getElem?_append_left (by rw [hf]; exact hj)]
  | x :: l, i + 1, j, a, h, hj => by
    have h' : l[i]? = some a := by simpa using h
    rw [List.flatMap_cons, List.getElem?_append_right (by rw [hf, Nat.succ_mul]; omega), hf, show (i + 1) * k + j - k = i * k + j from by rw [Nat.succ_mul]; omega]
    exact flat_at hf h' hj
theorem rd_flat {α : Type} {f : α → List Value} {k : Nat} (hf : ∀ a, (f a).length = k) (hk : 0 < k) {w : World} {B n c : Nat} {A : Option Addr} {l : List α} (h : Rd w B k A n c (l.flatMap f)) {i : Nat} (hi : i < n) :
    ∃ b o a, A = some ⟨b, o, none⟩ ∧ b < B ∧ l[i]? = some a ∧ ∀ j v, (f a)[j]? = some v → w.cell? ⟨b, o + i * k + j, none⟩ = some v := by
  obtain ⟨b, o, e, hb, hc⟩ := h.at_ (by omega)
  have hl : l.length = n := by have := h.len; rw [len_flat hf] at this; exact Nat.eq_of_mul_eq_mul_right hk this
  refine ⟨b, o, l[i]'(by omega), e, hb, List.getElem?_eq_getElem _, fun j v hv => ?_⟩
  have hj : j < k := by rw [← hf (l[i]'(by omega))]; exact (List.getElem?_eq_some_iff.1 hv).1
  rw [Nat.add_assoc]
  exact hc _ _ ((flat_at hf (List.getElem?_eq_getElem (by omega)) hj).trans hv)

set_option maxRecDepth 100000 in
set_option maxHeartbeats 4000000 in
theorem change1_eq {u : PC} {w : World} :
    Calls Tryd.prog 75 #[.agg #[.string u.path, .bool u.del, .bool u.exec, .string u.text], .agg #[.string u.path, .bool u.del, .bool u.exec, .string u.text]] w (BoolBelow true w) := by
  go_enter Tryd.func75, Tryd.ntmps75
  go_wp2
  go_ret
  exact ⟨rfl, ((Below.refl _ _).alloc (Nat.le_refl _) _).alloc (by simp) _⟩

set_option maxRecDepth 100000 in
set_option maxHeartbeats 4000000 in
theorem sameC_eq {A B : Option Addr} {n ca cb BB : Nat} {xs : List PC} {w : World} (hn : n ≤ 1048576) (hBB : BB ≤ w.heap.size)
   (ha : Rd w BB 4 A n ca (xs.flatMap PC.cells)) (hb : Rd w BB 4 B n cb (xs.flatMap PC.cells)) :
    Calls Tryd.prog 74 #[.slice A n ca, .slice B n cb, .func (.func 75) #[] #[]] w (BoolBelow true w) := by
  go_enter Tryd.func74, Tryd.ntmps74
  go_wp2
  go_loopw [7] (fun i wr => ∃ k : Nat, k ≤ n ∧ i = .int .i64 k ∧ Below w.heap.size w wr) (fun i _ => n - (intOf i).toNat)
  case atStart => exact ⟨0, Nat.zero_le _, rfl, Below.refl _ _⟩
  case round =>
    obtain ⟨k, hk, rfl, hbw⟩ := hrel
    by_cases hlt : k < n
    · obtain ⟨b0, o0, u, rfl, hb0, hx, p⟩ := rd_flat (f := PC.cells) (k := 4) (fun _ => rfl) (by omega) ha hlt
      obtain ⟨b1, o1, v, rfl, hb1, hy, r⟩ := rd_flat (f := PC.cells) (k := 4) (fun _ => rfl) (by omega) hb hlt
      obtain rfl : u = v := by rw [hx] at hy; exact Option.some.inj hy
      clear hx hy
      have hbs := hbw.size
      have HC := Lib.hid (change1_eq (u := u) (w := wr.drew))
      go_wp2
      refine wp_region_q (fun w' => Below w.heap.size w w') (qe [9] 11) mixed (by kernel_rfl) hbw.drew ?_
      intro T M Q hT hT' hM hQ
      have mp : ∀ j v, (PC.cells u)[j]? = some v → M ⟨b0, o0 + k * 4 + j, none⟩ = some v := fun j v hv => hM _ _ fun w' hw => (hw.cell (p := ⟨b0, o0 + k * 4 + j, none⟩) (by show b0 < _; omega)).trans (p j v hv)
      have mr : ∀ j v, (PC.cells u)[j]? = some v → M ⟨b1, o1 + k * 4 + j, none⟩ = some v := fun j v hv => hM _ _ fun w' hw => (hw.cell (p := ⟨b1, o1 + k * 4 + j, none⟩) (by show b1 < _; omega)).trans (r j v hv)
      have m0 : M ⟨b0, o0 + k * 4, none⟩ = some (.string u.path) := mp 0 _ rfl
      have m1 : M ⟨b0, o0 + k * 4 + 1, none⟩ = some (.bool u.del) := mp 1 _ rfl
      have m2 : M ⟨b0, o0 + k * 4 + 2, none⟩ = some (.bool u.exec) := mp 2 _ rfl
      have m3 : M ⟨b0, o0 + k * 4 + 3, none⟩ = some (.string u.text) := mp 3 _ rfl
      have q0 : M ⟨b1, o1 + k * 4, none⟩ = some (.string u.path) := mr 0 _ rfl
      have q1 : M ⟨b1, o1 + k * 4 + 1, none⟩ = some (.bool u.del) := mr 1 _ rfl
      have q2 : M ⟨b1, o1 + k * 4 + 2, none⟩ = some (.bool u.exec) := mr 2 _ rfl
      have q3 : M ⟨b1, o1 + k * 4 + 3, none⟩ = some (.string u.text) := mr 3 _ rfl
      clear hM mp mr p r
      simp only [qcmp, Nat.reduceBEq]
      simp (maxSteps := 5000000) only [↓qpre, qpost, qfacts, qnorm, m0, m1, m2, m3, q0, q1, q2, q3]
      refine ⟨⟨by omega, by omega⟩, ⟨by omega, by omega⟩, eff_call (by kernel_rfl) HC.out rfl rfl ?_⟩
      rintro e w1 ⟨rfl, hb1⟩
      have hbd : Below w.heap.size w w1 := hbw.drew.trans (hb1.mono hbs)
      refine ⟨_, rfl, hT _ hbd, ?_⟩
      simp (maxSteps := 5000000) only [↓qpre, qpost, qnorm]
      refine hQ _ _ ?_
      clear hQ hT hT' m0 m1 m2 m3 q0 q1 q2 q3
      go_wp2
      go_roundw
      case rel => exact ⟨k + 1, by omega, by go_num, hbd⟩
      case measure => simp [intOf]; omega
    · have hkn : k = n := by omega
      go_wp2
      go_ret
      exact ⟨rfl, hbw⟩
set_option maxHeartbeats 1000000 in
theorem plainC_eq {A B : Option Addr} {n ca cb BB : Nat} {xs : List PC} {w : World} (hn : n ≤ 1048576) (hBB : BB ≤ w.heap.size)
   (ha : Rd w BB 4 A n ca (xs.flatMap PC.cells)) (hb : Rd w BB 4 B n cb (xs.flatMap PC.cells)) :
    Calls Tryd.prog 52 #[.slice A n ca, .slice B n cb] w (BoolBelow true w) := by
  go_enter Tryd.func52, Tryd.ntmps52
  go_wp2_with (go_at_call 74; refine (sameC_eq hn hBB ha hb).mono ?_; rintro e w' ⟨rfl, hb'⟩)
  go_ret
  exact ⟨rfl, hb'⟩

set_option maxRecDepth 100000 in
set_option maxHeartbeats 4000000 in
theorem cmd_eq {k d e f : Int} {msg name : ByteArray} {ca cb pa pb BB : Nat} {C C' P P' : Option Addr} {cs : List PC} {ps : List ByteArray} {w : World} (hBB : BB ≤ w.heap.size) (hcl : cs.length ≤ 1) (hpl : ps.length ≤ 1)
    (h1 : Rd w BB 4 C cs.length ca (cs.flatMap PC.cells)) (h2 : Rd w BB 4 C' cs.length cb (cs.flatMap PC.cells))
    (h3 : Rd w BB 1 P ps.length pa (ps.map .string)) (h4 : Rd w BB 1 P' ps.length pb (ps.map .string)) :
    Calls Tryd.prog 28 #[.agg #[.int .i64 k, .string msg, .slice C cs.length ca, .slice P ps.length pa, .int .i64 d, .int .i64 e, .int .i64 f, .string name],
      .agg #[.int .i64 k, .string msg, .slice C' cs.length cb, .slice P' ps.length pb, .int .i64 d, .int .i64 e, .int .i64 f, .string name]] w (BoolBelow true w) := by
  have hW : ∀ X Y : Array Value, Below w.heap.size w ((w.alloc (.cells X 30)).alloc (.cells Y 30)) := fun X Y => ((Below.refl _ _).alloc (Nat.le_refl _) _).alloc (by simp) _
  go_enter Tryd.func28, Tryd.ntmps28
  go_wp2_with fail
  generalize hWd : ((w.alloc (Obj.cells #[Value.int IntKind.i64 k, Value.string msg, Value.slice C cs.length ca, Value.slice P ps.length pa, Value.int IntKind.i64 d, Value.int IntKind.i64 e, Value.int IntKind.i64 f, Value.string name] 30)).alloc
    (Obj.cells #[Value.int IntKind.i64 k, Value.string msg, Value.slice C' cs.length cb, Value.slice P' ps.length pb, Value.int IntKind.i64 d, Value.int IntKind.i64 e, Value.int IntKind.i64 f, Value.string name] 30)) = W
  have hW1 : Below w.heap.size w W := by subst hWd; exact hW _ _
  have hWs : W.heap.size = w.heap.size + 2 := by subst hWd; simp
  have hA : W.heap[w.heap.size]? = some (Obj.cells #[Value.int IntKind.i64 k, Value.string msg, Value.slice C cs.length ca, Value.slice P ps.length pa, Value.int IntKind.i64 d, Value.int IntKind.i64 e, Value.int IntKind.i64 f, Value.string name] 30) := by
    subst hWd; rw [Lib.alloc_old _ _ _ (by simp)]; exact heap_alloc_new _ _
  have hB : W.heap[w.heap.size + 1]? = some (Obj.cells #[Value.int IntKind.i64 k, Value.string msg, Value.slice C' cs.length cb, Value.slice P' ps.length pb, Value.int IntKind.i64 d, Value.int IntKind.i64 e, Value.int IntKind.i64 f, Value.string name] 30) := by
    subst hWd
    have := heap_alloc_new (w.alloc (Obj.cells #[Value.int IntKind.i64 k, Value.string msg, Value.slice C cs.length ca, Value.slice P ps.length pa, Value.int IntKind.i64 d, Value.int IntKind.i64 e, Value.int IntKind.i64 f, Value.string name] 30)) (Obj.cells #[Value.int IntKind.i64 k, Value.string msg, Value.slice C' cs.length cb, Value.slice P' ps.length pb, Value.int IntKind.i64 d, Value.int IntKind.i64 e, Value.int IntKind.i64 f, Value.string name] 30)
    simpa using this
  clear hWd hW
  refine (plainC_eq (by omega) (by omega) (h1.to (hW1.mono hBB) (Nat.le_refl _)) (h2.to (hW1.mono hBB) (Nat.le_refl _))).mono ?_
  rintro en w1 ⟨rfl, hb1⟩
  have c0 : w1.cell? ⟨w.heap.size, 3, none⟩ = some (.slice P ps.length pa) := by rw [World.cell?, (hb1.block _ (by show w.heap.size < _; omega)).trans hA]; rfl
  have c1 : w1.cell? ⟨w.heap.size + 1, 3, none⟩ = some (.slice P' ps.length pb) := by rw [World.cell?, (hb1.block _ (by show w.heap.size + 1 < _; omega)).trans hB]; rfl
  have HA := Lib.hid ((hb1.block _ (by omega)).trans hA)
  have HB := Lib.hid ((hb1.block _ (by omega)).trans hB)
  have HW := Lib.hid (hW1.trans (hb1.mono (by omega)))
  have hs1 := HW.out.size
  have hs2 : w.heap.size + 2 ≤ w1.heap.size := by have := hb1.size; omega
  clear hA hB hb1 hW1
  go_wp2_with fail
  refine (plain_any (by simp only [maxLen]; omega) (by simp only [maxLen]; omega) (by omega) (h3.to (HW.out.mono hBB) (Nat.le_refl _)) (h4.to (HW.out.mono hBB) (Nat.le_refl _))).mono ?_
  rintro en w2 ⟨rfl, hb2⟩
  rw [decide_eq_true rfl]
  have hA := (hb2.block _ (by omega)).trans HA.out
  have hB := (hb2.block _ (by omega)).trans HB.out
  have a4 : w2.cell? ⟨w.heap.size, 4, none⟩ = some (.int .i64 d) := by rw [World.cell?, hA]; rfl
  have a5 : w2.cell? ⟨w.heap.size, 5, none⟩ = some (.int .i64 e) := by rw [World.cell?, hA]; rfl
  have a6 : w2.cell? ⟨w.heap.size, 6, none⟩ = some (.int .i64 f) := by rw [World.cell?, hA]; rfl
  have a7 : w2.cell? ⟨w.heap.size, 7, none⟩ = some (.string name) := by rw [World.cell?, hA]; rfl
  have b4 : w2.cell? ⟨w.heap.size + 1, 4, none⟩ = some (.int .i64 d) := by rw [World.cell?, hB]; rfl
  have b5 : w2.cell? ⟨w.heap.size + 1, 5, none⟩ = some (.int .i64 e) := by rw [World.cell?, hB]; rfl
  have b6 : w2.cell? ⟨w.heap.size + 1, 6, none⟩ = some (.int .i64 f) := by rw [World.cell?, hB]; rfl
  have b7 : w2.cell? ⟨w.heap.size + 1, 7, none⟩ = some (.string name) := by rw [World.cell?, hB]; rfl
  have HW2 := Lib.hid (HW.out.trans (hb2.mono hs1))
  clear hA hB HA HB c0 c1 hb2 HW
  go_wp2
  go_ret
  exact ⟨rfl, HW2.out⟩

set_option maxRecDepth 100000 in
set_option maxHeartbeats 4000000 in
theorem step_eq {u v : SV} {BB lo lo' : Nat} {g g' : Option Nat} {w : World} (hBB : BB ≤ w.heap.size) (hu : u.ok w lo BB g) (hv : v.ok w lo' BB g') (hp : u.pure = v.pure) (hk : u.keep.length ≤ 2) (hc : u.changes.length ≤ 1) (hq : u.paths.length ≤ 1) :
    Calls Tryd.prog 12 #[u.val, v.val] w (BoolBelow true w) := by
  obtain ⟨cr, af, kA, kc, keep, kind, msg, cA, cc, changes, pA, pc, paths, count, commit, dest, name⟩ := u
  obtain ⟨cr', af', kA', kc', keep', kind', msg', cA', cc', changes', pA', pc', paths', count', commit', dest', name'⟩ := v
  simp only [SV.pure, PS.mk.injEq] at hp
  obtain ⟨rfl, rfl, rfl, rfl, rfl, rfl, rfl, rfl, rfl, rfl, rfl⟩ := hp
  obtain ⟨u1, u2, u3, _⟩ := hu
  obtain ⟨v1, v2, v3, _⟩ := hv
  simp only at u1 u2 u3 v1 v2 v3 hk hc hq
  show Calls Tryd.prog 12 #[.agg #[.bool cr, .int .i64 af, .slice kA keep.length kc, .int .i64 kind, .string msg, .slice cA changes.length cc, .slice pA paths.length pc, .int .i64 count, .int .i64 commit, .int .i64 dest, .string name],
    .agg #[.bool cr, .int .i64 af, .slice kA' keep.length kc', .int .i64 kind, .string msg, .slice cA' changes.length cc', .slice pA' paths.length pc', .int .i64 count, .int .i64 commit, .int .i64 dest, .string name]] w _
  have hW : ∀ X Y : Array Value, Below w.heap.size w ((w.alloc (.cells X 32)).alloc (.cells Y 32)) := fun X Y => ((Below.refl _ _).alloc (Nat.le_refl _) _).alloc (by simp) _
  go_enter Tryd.func12, Tryd.ntmps12
  go_wp2_with fail
  generalize hWd : ((w.alloc (Obj.cells #[.bool cr, .int .i64 af, .slice kA keep.length kc, .int .i64 kind, .string msg, .slice cA changes.length cc, .slice pA paths.length pc, .int .i64 count, .int .i64 commit, .int .i64 dest, .string name] 32)).alloc
    (Obj.cells #[.bool cr, .int .i64 af, .slice kA' keep.length kc', .int .i64 kind, .string msg, .slice cA' changes.length cc', .slice pA' paths.length pc', .int .i64 count, .int .i64 commit, .int .i64 dest, .string name] 32)) = W
  have hW1 : Below w.heap.size w W := by subst hWd; exact hW _ _
  have hWs : W.heap.size = w.heap.size + 2 := by subst hWd; simp
  have hA : W.heap[w.heap.size]? = some (Obj.cells #[.bool cr, .int .i64 af, .slice kA keep.length kc, .int .i64 kind, .string msg, .slice cA changes.length cc, .slice pA paths.length pc, .int .i64 count, .int .i64 commit, .int .i64 dest, .string name] 32) := by
    subst hWd; rw [Lib.alloc_old _ _ _ (by simp)]; exact heap_alloc_new _ _
  have hB : W.heap[w.heap.size + 1]? = some (Obj.cells #[.bool cr, .int .i64 af, .slice kA' keep.length kc', .int .i64 kind, .string msg, .slice cA' changes.length cc', .slice pA' paths.length pc', .int .i64 count, .int .i64 commit, .int .i64 dest, .string name] 32) := by
    subst hWd
    have := heap_alloc_new (w.alloc (Obj.cells #[.bool cr, .int .i64 af, .slice kA keep.length kc, .int .i64 kind, .string msg, .slice cA changes.length cc, .slice pA paths.length pc, .int .i64 count, .int .i64 commit, .int .i64 dest, .string name] 32)) (Obj.cells #[.bool cr, .int .i64 af, .slice kA' keep.length kc', .int .i64 kind, .string msg, .slice cA' changes.length cc', .slice pA' paths.length pc', .int .i64 count, .int .i64 commit, .int .i64 dest, .string name] 32)
    simpa using this
  clear hWd hW
  refine (plainI_any (by simp only [maxLen]; omega) (by simp only [maxLen]; omega) (by omega) (u1.to (hW1.mono hBB) (Nat.le_refl _)) (v1.to (hW1.mono hBB) (Nat.le_refl _))).mono ?_
  rintro en w1 ⟨rfl, hb1⟩
  rw [decide_eq_true rfl]
  have hA1 := (hb1.block _ (by omega)).trans hA
  have hB1 := (hb1.block _ (by omega)).trans hB
  have HW := Lib.hid (hW1.trans (hb1.mono (by omega)))
  have hs1 := HW.out.size
  have a3 : w1.cell? ⟨w.heap.size, 3, none⟩ = some (.int .i64 kind) := by rw [World.cell?, hA1]; rfl
  have a4 : w1.cell? ⟨w.heap.size, 4, none⟩ = some (.string msg) := by rw [World.cell?, hA1]; rfl
  have a5 : w1.cell? ⟨w.heap.size, 5, none⟩ = some (.slice cA changes.length cc) := by rw [World.cell?, hA1]; rfl
  have a6 : w1.cell? ⟨w.heap.size, 6, none⟩ = some (.slice pA paths.length pc) := by rw [World.cell?, hA1]; rfl
  have a7 : w1.cell? ⟨w.heap.size, 7, none⟩ = some (.int .i64 count) := by rw [World.cell?, hA1]; rfl
  have a8 : w1.cell? ⟨w.heap.size, 8, none⟩ = some (.int .i64 commit) := by rw [World.cell?, hA1]; rfl
  have a9 : w1.cell? ⟨w.heap.size, 9, none⟩ = some (.int .i64 dest) := by rw [World.cell?, hA1]; rfl
  have a10 : w1.cell? ⟨w.heap.size, 10, none⟩ = some (.string name) := by rw [World.cell?, hA1]; rfl
  have b3 : w1.cell? ⟨w.heap.size + 1, 3, none⟩ = some (.int .i64 kind) := by rw [World.cell?, hB1]; rfl
  have b4 : w1.cell? ⟨w.heap.size + 1, 4, none⟩ = some (.string msg) := by rw [World.cell?, hB1]; rfl
  have b5 : w1.cell? ⟨w.heap.size + 1, 5, none⟩ = some (.slice cA' changes.length cc') := by rw [World.cell?, hB1]; rfl
  have b6 : w1.cell? ⟨w.heap.size + 1, 6, none⟩ = some (.slice pA' paths.length pc') := by rw [World.cell?, hB1]; rfl
  have b7 : w1.cell? ⟨w.heap.size + 1, 7, none⟩ = some (.int .i64 count) := by rw [World.cell?, hB1]; rfl
  have b8 : w1.cell? ⟨w.heap.size + 1, 8, none⟩ = some (.int .i64 commit) := by rw [World.cell?, hB1]; rfl
  have b9 : w1.cell? ⟨w.heap.size + 1, 9, none⟩ = some (.int .i64 dest) := by rw [World.cell?, hB1]; rfl
  have b10 : w1.cell? ⟨w.heap.size + 1, 10, none⟩ = some (.string name) := by rw [World.cell?, hB1]; rfl
  clear hA hB hA1 hB1 hb1 hW1
  go_wp2_with fail
  refine (cmd_eq (by omega) hc hq (u2.to (HW.out.mono hBB) (Nat.le_refl _)) (v2.to (HW.out.mono hBB) (Nat.le_refl _)) (u3.to (HW.out.mono hBB) (Nat.le_refl _)) (v3.to (HW.out.mono hBB) (Nat.le_refl _))).mono ?_
  rintro en w2 ⟨rfl, hb2⟩
  have HW2 := Lib.hid (HW.out.trans (hb2.mono hs1))
  clear hb2 HW a3 a4 a5 a6 a7 a8 a9 a10 b3 b4 b5 b6 b7 b8 b9 b10
  go_wp2
  go_ret
  exact ⟨rfl, HW2.out⟩

/-- A slice reads as steps. -/
structure RdS (w : World) (B : Nat) (A : Option Addr) (n c : Nat) (ss : List SV) : Prop where
  row : Rd w B 11 A n c (ss.flatMap SV.cells)
  parts : ∀ s ∈ ss, s.ok w 0 B none
  few : ∀ s ∈ ss, s.keep.length ≤ 2 ∧ s.changes.length ≤ 1 ∧ s.paths.length ≤ 1
theorem RdS.len {w : World} {B n c : Nat} {A : Option Addr} {ss : List SV} (h : RdS w B A n c ss) : ss.length = n := by
  have := h.row.len; rw [len_flat (f := SV.cells) (k := 11) (fun _ => rfl)] at this; omega
theorem RdS.to {w w' : World} {B B' n c : Nat} {A : Option Addr} {ss : List SV} (h : RdS w B A n c ss) (hb : Below B w w') (hB : B ≤ B') : RdS w' B' A n c ss :=
  ⟨h.row.to hb hB, fun s hs => (h.parts s hs).stay hB (fun b _ hb' _ => hb.block b hb') (fun _ _ _ _ => by simp), h.few⟩

set_option maxRecDepth 100000 in
set_option maxHeartbeats 4000000 in
/-- Two slices of the same steps are alike. -/
theorem sameS_eq {A B : Option Addr} {n ca m cb BB : Nat} {xs ys : List SV} {w : World} (hn : n ≤ 1048576) (hBB : BB ≤ w.heap.size)
   (ha : RdS w BB A n ca xs) (hb : RdS w BB B m cb ys) (he : xs.map SV.pure = ys.map SV.pure) :
    Calls Tryd.prog 9 #[.slice A n ca, .slice B m cb, .func (.func 12) #[] #[]] w (BoolBelow true w) := by
  obtain rfl : n = m := by have := congrArg List.length he; simp only [List.length_map] at this; rw [ha.len, hb.len] at this; exact this
  have HE := Lib.hid he
  clear he
  go_enter Tryd.func9, Tryd.ntmps9
  go_wp2
  go_loopw [7] (fun i wr => ∃ k : Nat, k ≤ n ∧ i = .int .i64 k ∧ Below w.heap.size w wr) (fun i _ => n - (intOf i).toNat)
  case atStart => exact ⟨0, Nat.zero_le _, rfl, Below.refl _ _⟩
  case round =>
    obtain ⟨k, hk, rfl, hbw⟩ := hrel
    by_cases hlt : k < n
    · obtain ⟨b0, o0, u, rfl, hb0, hx, p⟩ := rd_flat (f := SV.cells) (k := 11) (fun _ => rfl) (by omega) ha.row hlt
      obtain ⟨b1, o1, v, rfl, hb1, hy, r⟩ := rd_flat (f := SV.cells) (k := 11) (fun _ => rfl) (by omega) hb.row hlt
      have hpe : u.pure = v.pure := by
        have := congrArg (·[k]?) HE.out
        simp only [List.getElem?_map, hx, hy, Option.map_some] at this
        exact Option.some.inj this
      have hxm := List.mem_of_getElem? hx
      have hym := List.mem_of_getElem? hy
      clear hx hy
      have hbs := hbw.size
      obtain ⟨f1, f2, f3⟩ := ha.few u hxm
      have HC := Lib.hid (step_eq (w := wr.drew) (BB := BB) (by show BB ≤ wr.heap.size; omega) ((ha.parts u hxm).stay (Nat.le_refl _) (fun b _ hb' _ => hbw.drew.block b (by omega)) (fun _ _ _ h => h)) ((hb.parts v hym).stay (Nat.le_refl _) (fun b _ hb' _ => hbw.drew.block b (by omega)) (fun _ _ _ h => h)) hpe f1 f2 f3)
      clear hpe hxm hym f1 f2 f3
      go_wp2
      refine wp_region_q (fun w' => Below w.heap.size w w') (qe [9] 11) mixed (by kernel_rfl) hbw.drew ?_
      intro T M Q hT hT' hM hQ
      have mp : ∀ j v, (SV.cells u)[j]? = some v → M ⟨b0, o0 + k * 11 + j, none⟩ = some v := fun j v hv => hM _ _ fun w' hw => (hw.cell (p := ⟨b0, o0 + k * 11 + j, none⟩) (by show b0 < _; omega)).trans (p j v hv)
      have mr : ∀ j u, (SV.cells v)[j]? = some u → M ⟨b1, o1 + k * 11 + j, none⟩ = some u := fun j v hv => hM _ _ fun w' hw => (hw.cell (p := ⟨b1, o1 + k * 11 + j, none⟩) (by show b1 < _; omega)).trans (r j v hv)
      have m0 : M ⟨b0, o0 + k * 11, none⟩ = some (.bool u.crash) := mp 0 _ rfl
      have m1 : M ⟨b0, o0 + k * 11 + 1, none⟩ = some (.int .i64 u.after) := mp 1 _ rfl
      have m2 : M ⟨b0, o0 + k * 11 + 2, none⟩ = some (.slice u.kA u.keep.length u.kc) := mp 2 _ rfl
      have m3 : M ⟨b0, o0 + k * 11 + 3, none⟩ = some (.int .i64 u.kind) := mp 3 _ rfl
      have m4 : M ⟨b0, o0 + k * 11 + 4, none⟩ = some (.string u.msg) := mp 4 _ rfl
      have m5 : M ⟨b0, o0 + k * 11 + 5, none⟩ = some (.slice u.cA u.changes.length u.cc) := mp 5 _ rfl
      have m6 : M ⟨b0, o0 + k * 11 + 6, none⟩ = some (.slice u.pA u.paths.length u.pc) := mp 6 _ rfl
      have m7 : M ⟨b0, o0 + k * 11 + 7, none⟩ = some (.int .i64 u.count) := mp 7 _ rfl
      have m8 : M ⟨b0, o0 + k * 11 + 8, none⟩ = some (.int .i64 u.commit) := mp 8 _ rfl
      have m9 : M ⟨b0, o0 + k * 11 + 9, none⟩ = some (.int .i64 u.dest) := mp 9 _ rfl
      have m10 : M ⟨b0, o0 + k * 11 + 10, none⟩ = some (.string u.name) := mp 10 _ rfl
      have q0 : M ⟨b1, o1 + k * 11, none⟩ = some (.bool v.crash) := mr 0 _ rfl
      have q1 : M ⟨b1, o1 + k * 11 + 1, none⟩ = some (.int .i64 v.after) := mr 1 _ rfl
      have q2 : M ⟨b1, o1 + k * 11 + 2, none⟩ = some (.slice v.kA v.keep.length v.kc) := mr 2 _ rfl
      have q3 : M ⟨b1, o1 + k * 11 + 3, none⟩ = some (.int .i64 v.kind) := mr 3 _ rfl
      have q4 : M ⟨b1, o1 + k * 11 + 4, none⟩ = some (.string v.msg) := mr 4 _ rfl
      have q5 : M ⟨b1, o1 + k * 11 + 5, none⟩ = some (.slice v.cA v.changes.length v.cc) := mr 5 _ rfl
      have q6 : M ⟨b1, o1 + k * 11 + 6, none⟩ = some (.slice v.pA v.paths.length v.pc) := mr 6 _ rfl
      have q7 : M ⟨b1, o1 + k * 11 + 7, none⟩ = some (.int .i64 v.count) := mr 7 _ rfl
      have q8 : M ⟨b1, o1 + k * 11 + 8, none⟩ = some (.int .i64 v.commit) := mr 8 _ rfl
      have q9 : M ⟨b1, o1 + k * 11 + 9, none⟩ = some (.int .i64 v.dest) := mr 9 _ rfl
      have q10 : M ⟨b1, o1 + k * 11 + 10, none⟩ = some (.string v.name) := mr 10 _ rfl
      clear hM mp mr p r
      simp only [qcmp, Nat.reduceBEq]
      simp (maxSteps := 5000000) only [↓qpre, qpost, qfacts, qnorm, m0, m1, m2, m3, m4, m5, m6, m7, m8, m9, m10, q0, q1, q2, q3, q4, q5, q6, q7, q8, q9, q10]
      refine ⟨⟨by omega, by omega⟩, ⟨by omega, by omega⟩, eff_call (by kernel_rfl) HC.out rfl rfl ?_⟩
      rintro e w1 ⟨rfl, hb1⟩
      have hbd : Below w.heap.size w w1 := hbw.drew.trans (hb1.mono hbs)
      refine ⟨_, rfl, hT _ hbd, ?_⟩
      simp (maxSteps := 5000000) only [↓qpre, qpost, qnorm]
      refine hQ _ _ ?_
      clear hQ hT hT' m0 m1 m2 m3 m4 m5 m6 m7 m8 m9 m10 q0 q1 q2 q3 q4 q5 q6 q7 q8 q9 q10
      go_wp2
      go_roundw
      case rel => exact ⟨k + 1, by omega, by go_num, hbd⟩
      case measure => simp [intOf]; omega
    · have hkn : k = n := by omega
      go_wp2
      go_ret
      exact ⟨rfl, hbw⟩
end Go.Proofs.YtnkboccngialiaaDoor
