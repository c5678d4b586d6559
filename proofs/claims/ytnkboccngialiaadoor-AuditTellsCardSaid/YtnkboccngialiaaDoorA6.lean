/- Walks: AuditTells. -/
import Derived.Test.YtnkboccngialiaaDoorA5
namespace Go.Proofs.YtnkboccngialiaaDoor
open Go.RowKit

theorem T.eff_eqb {P : Program} {S : World → Prop} {a : Act} {w : World} {K : Act → World → Prop} {dst : Option Tmp} {t t' ty : TypeId} {x y : Operand} {q b : Bool} {g : Option (Tmp × Bool)}
    (ht : P.underlying t = some .bool) (hx : a.eval x = .bool b) (hy : a.eval y = .bool b) (hK : S w ∧ K (a.put dst (.bool true)) w) : effq P S ⟨q, dst, .binOp .eql t x y t', ty, g⟩ a w K := by
  refine eff_val (fun p af g => ?_) hK
  unfold execOp
  simp only [hx, hy]
  cases b <;> simp [go_sem, run_eql_bool _ t _ _ ht]

set_option maxRecDepth 100000 in
set_option maxHeartbeats 16000000 in
theorem audit_any {a b : VV} {w : World} (ha : a.In w w.heap.size) (hb : b.In w w.heap.size) (hN : Nums a) (hm : Lm w) :
    Calls Tryd.prog 6 #[.agg #[.slice a.A a.commits.length a.c, .slice a.mA a.marks.length a.mc, .int .i64 a.working, .bool a.pend.on, .bool a.pend.restack, .int .i64 a.pend.source, .int .i64 a.pend.dest, .slice a.pend.sA a.pend.settled.length a.pend.sc, .int .i64 a.pend.commit, .slice a.pend.kA a.pend.clashes.length a.pend.kc, .int .i64 a.undos, .int .i64 a.redos], .agg #[.slice b.A b.commits.length b.c, .slice b.mA b.marks.length b.mc, .int .i64 b.working, .bool b.pend.on, .bool b.pend.restack, .int .i64 b.pend.source, .int .i64 b.pend.dest, .slice b.pend.sA b.pend.settled.length b.pend.sc, .int .i64 b.pend.commit, .slice b.pend.kA b.pend.clashes.length b.pend.kc, .int .i64 b.undos, .int .i64 b.redos]] w (BoolBelow true w) := by
  obtain ⟨W, hW⟩ : ∃ u, u = (w.alloc (.cells #[.slice a.A a.commits.length a.c, .slice a.mA a.marks.length a.mc, .int .i64 a.working, .bool a.pend.on, .bool a.pend.restack, .int .i64 a.pend.source, .int .i64 a.pend.dest, .slice a.pend.sA a.pend.settled.length a.pend.sc, .int .i64 a.pend.commit, .slice a.pend.kA a.pend.clashes.length a.pend.kc, .int .i64 a.undos, .int .i64 a.redos] 52)).alloc (.cells #[.slice b.A b.commits.length b.c, .slice b.mA b.marks.length b.mc, .int .i64 b.working, .bool b.pend.on, .bool b.pend.restack, .int .i64 b.pend.source, .int .i64 b.pend.dest, .slice b.pend.sA b.pend.settled.length b.pend.sc, .int .i64 b.pend.commit, .slice b.pend.kA b.pend.clashes.length b.pend.kc, .int .i64 b.undos, .int .i64 b.redos] 52) := ⟨_, rfl⟩
  have hbx : Below w.heap.size w W := by rw [hW]; exact ((Below.refl _ _).alloc (Nat.le_refl _) _).alloc (by simp) _
  have hzW : W.heap.size = w.heap.size + 2 := by rw [hW]; simp
  have hx : ∀ i u, [Value.slice a.A a.commits.length a.c, .slice a.mA a.marks.length a.mc, .int .i64 a.working, .bool a.pend.on, .bool a.pend.restack, .int .i64 a.pend.source, .int .i64 a.pend.dest, .slice a.pend.sA a.pend.settled.length a.pend.sc, .int .i64 a.pend.commit, .slice a.pend.kA a.pend.clashes.length a.pend.kc, .int .i64 a.undos, .int .i64 a.redos][i]? = some u → ∀ u', Below W.heap.size W u' → u'.cell? ⟨w.heap.size, i, none⟩ = some u := fun i u hu u' hu' =>
    (hu'.cell (p := ⟨w.heap.size, i, none⟩) (by show w.heap.size < _; omega)).trans (by rw [hW, World.cell?, heap_alloc_old _ _ (by simp), heap_alloc_new]; simpa using hu)
  have hy : ∀ i u, [Value.slice b.A b.commits.length b.c, .slice b.mA b.marks.length b.mc, .int .i64 b.working, .bool b.pend.on, .bool b.pend.restack, .int .i64 b.pend.source, .int .i64 b.pend.dest, .slice b.pend.sA b.pend.settled.length b.pend.sc, .int .i64 b.pend.commit, .slice b.pend.kA b.pend.clashes.length b.pend.kc, .int .i64 b.undos, .int .i64 b.redos][i]? = some u → ∀ u', Below W.heap.size W u' → u'.cell? ⟨w.heap.size + 1, i, none⟩ = some u := fun i u hu u' hu' =>
    (hu'.cell (p := ⟨w.heap.size + 1, i, none⟩) (by show w.heap.size + 1 < _; omega)).trans (by rw [hW, World.cell?, show w.heap.size + 1 = (w.alloc (.cells #[.slice a.A a.commits.length a.c, .slice a.mA a.marks.length a.mc, .int .i64 a.working, .bool a.pend.on, .bool a.pend.restack, .int .i64 a.pend.source, .int .i64 a.pend.dest, .slice a.pend.sA a.pend.settled.length a.pend.sc, .int .i64 a.pend.commit, .slice a.pend.kA a.pend.clashes.length a.pend.kc, .int .i64 a.undos, .int .i64 a.redos] 52)).heap.size by simp, heap_alloc_new]; simpa using hu)
  have XB := Lib.hid hx
  have YB := Lib.hid hy
  clear hx hy
  have at_ : ∀ u, Below W.heap.size W u → Below w.heap.size w u := fun u hu => hbx.trans (hu.mono hbx.size)
  have CF1 : ∀ u, Below W.heap.size W u → Calls Tryd.prog 16 #[.agg #[.slice a.A a.commits.length a.c, .slice a.mA a.marks.length a.mc, .int .i64 a.working, .bool a.pend.on, .bool a.pend.restack, .int .i64 a.pend.source, .int .i64 a.pend.dest, .slice a.pend.sA a.pend.settled.length a.pend.sc, .int .i64 a.pend.commit, .slice a.pend.kA a.pend.clashes.length a.pend.kc, .int .i64 a.undos, .int .i64 a.redos]] u (BoolSome u) := fun u hu => few_any (ha.to (at_ u hu) (at_ u hu).size)
  have CF2 : ∀ u, Below W.heap.size W u → Calls Tryd.prog 16 #[.agg #[.slice b.A b.commits.length b.c, .slice b.mA b.marks.length b.mc, .int .i64 b.working, .bool b.pend.on, .bool b.pend.restack, .int .i64 b.pend.source, .int .i64 b.pend.dest, .slice b.pend.sA b.pend.settled.length b.pend.sc, .int .i64 b.pend.commit, .slice b.pend.kA b.pend.clashes.length b.pend.kc, .int .i64 b.undos, .int .i64 b.redos]] u (BoolSome u) := fun u hu => few_any (hb.to (at_ u hu) (at_ u hu).size)
  have CW : ∀ u, Below W.heap.size W u → Calls Tryd.prog 17 #[] u (BoolBelow true u) := fun u hu => aawake_any (hm.to (at_ u hu))
  have CS1 : ∀ u, Below W.heap.size W u → Calls Tryd.prog 18 #[.agg #[.slice a.A a.commits.length a.c, .slice a.mA a.marks.length a.mc, .int .i64 a.working, .bool a.pend.on, .bool a.pend.restack, .int .i64 a.pend.source, .int .i64 a.pend.dest, .slice a.pend.sA a.pend.settled.length a.pend.sc, .int .i64 a.pend.commit, .slice a.pend.kA a.pend.clashes.length a.pend.kc, .int .i64 a.undos, .int .i64 a.redos]] u (BoolBelow (soundB a) u) := fun u hu => sound_any (ha.to (at_ u hu) (at_ u hu).size) hN (hm.to (at_ u hu))
  have CS2 : ∀ u, Below W.heap.size W u → Calls Tryd.prog 19 #[.agg #[.slice a.A a.commits.length a.c, .slice a.mA a.marks.length a.mc, .int .i64 a.working, .bool a.pend.on, .bool a.pend.restack, .int .i64 a.pend.source, .int .i64 a.pend.dest, .slice a.pend.sA a.pend.settled.length a.pend.sc, .int .i64 a.pend.commit, .slice a.pend.kA a.pend.clashes.length a.pend.kc, .int .i64 a.undos, .int .i64 a.redos]] u (BoolBelow (soundB a) u) := fun u hu => rsound_any (ha.to (at_ u hu) (at_ u hu).size)
  have CV1 : ∀ u, Below W.heap.size W u → Calls Tryd.prog 20 #[.agg #[.slice a.A a.commits.length a.c, .slice a.mA a.marks.length a.mc, .int .i64 a.working, .bool a.pend.on, .bool a.pend.restack, .int .i64 a.pend.source, .int .i64 a.pend.dest, .slice a.pend.sA a.pend.settled.length a.pend.sc, .int .i64 a.pend.commit, .slice a.pend.kA a.pend.clashes.length a.pend.kc, .int .i64 a.undos, .int .i64 a.redos], .agg #[.slice b.A b.commits.length b.c, .slice b.mA b.marks.length b.mc, .int .i64 b.working, .bool b.pend.on, .bool b.pend.restack, .int .i64 b.pend.source, .int .i64 b.pend.dest, .slice b.pend.sA b.pend.settled.length b.pend.sc, .int .i64 b.pend.commit, .slice b.pend.kA b.pend.clashes.length b.pend.kc, .int .i64 b.undos, .int .i64 b.redos]] u (BoolBelow (eqVV a b) u) := fun u hu => view2_any (ha.to (at_ u hu) (at_ u hu).size) (hb.to (at_ u hu) (at_ u hu).size)
  have CV2 : ∀ u, Below W.heap.size W u → Calls Tryd.prog 21 #[.agg #[.slice a.A a.commits.length a.c, .slice a.mA a.marks.length a.mc, .int .i64 a.working, .bool a.pend.on, .bool a.pend.restack, .int .i64 a.pend.source, .int .i64 a.pend.dest, .slice a.pend.sA a.pend.settled.length a.pend.sc, .int .i64 a.pend.commit, .slice a.pend.kA a.pend.clashes.length a.pend.kc, .int .i64 a.undos, .int .i64 a.redos], .agg #[.slice b.A b.commits.length b.c, .slice b.mA b.marks.length b.mc, .int .i64 b.working, .bool b.pend.on, .bool b.pend.restack, .int .i64 b.pend.source, .int .i64 b.pend.dest, .slice b.pend.sA b.pend.settled.length b.pend.sc, .int .i64 b.pend.commit, .slice b.pend.kA b.pend.clashes.length b.pend.kc, .int .i64 b.undos, .int .i64 b.redos]] u (BoolBelow (eqVV a b) u) := fun u hu => view1_any (ha.to (at_ u hu) (at_ u hu).size) (hb.to (at_ u hu) (at_ u hu).size)
  have CH1 : ∀ u, Below W.heap.size W u → Calls Tryd.prog 22 #[.agg #[.slice a.A a.commits.length a.c, .slice a.mA a.marks.length a.mc, .int .i64 a.working, .bool a.pend.on, .bool a.pend.restack, .int .i64 a.pend.source, .int .i64 a.pend.dest, .slice a.pend.sA a.pend.settled.length a.pend.sc, .int .i64 a.pend.commit, .slice a.pend.kA a.pend.clashes.length a.pend.kc, .int .i64 a.undos, .int .i64 a.redos], .agg #[.slice b.A b.commits.length b.c, .slice b.mA b.marks.length b.mc, .int .i64 b.working, .bool b.pend.on, .bool b.pend.restack, .int .i64 b.pend.source, .int .i64 b.pend.dest, .slice b.pend.sA b.pend.settled.length b.pend.sc, .int .i64 b.pend.commit, .slice b.pend.kA b.pend.clashes.length b.pend.kc, .int .i64 b.undos, .int .i64 b.redos]] u (BoolBelow (heldVV a b) u) := fun u hu => held2_any (ha.to (at_ u hu) (at_ u hu).size) (hb.to (at_ u hu) (at_ u hu).size)
  have CH2 : ∀ u, Below W.heap.size W u → Calls Tryd.prog 23 #[.agg #[.slice a.A a.commits.length a.c, .slice a.mA a.marks.length a.mc, .int .i64 a.working, .bool a.pend.on, .bool a.pend.restack, .int .i64 a.pend.source, .int .i64 a.pend.dest, .slice a.pend.sA a.pend.settled.length a.pend.sc, .int .i64 a.pend.commit, .slice a.pend.kA a.pend.clashes.length a.pend.kc, .int .i64 a.undos, .int .i64 a.redos], .agg #[.slice b.A b.commits.length b.c, .slice b.mA b.marks.length b.mc, .int .i64 b.working, .bool b.pend.on, .bool b.pend.restack, .int .i64 b.pend.source, .int .i64 b.pend.dest, .slice b.pend.sA b.pend.settled.length b.pend.sc, .int .i64 b.pend.commit, .slice b.pend.kA b.pend.clashes.length b.pend.kc, .int .i64 b.undos, .int .i64 b.redos]] u (BoolBelow (heldVV a b) u) := fun u hu => held1_any (ha.to (at_ u hu) (at_ u hu).size) (hb.to (at_ u hu) (at_ u hu).size)
  clear ha hb hN hm
  have HF1 := Lib.hid CF1
  have HF2 := Lib.hid CF2
  have HW := Lib.hid CW
  have HS1 := Lib.hid CS1
  have HS2 := Lib.hid CS2
  have HV1 := Lib.hid CV1
  have HV2 := Lib.hid CV2
  have HH1 := Lib.hid CH1
  have HH2 := Lib.hid CH2
  clear CF1 CF2 CW CS1 CS2 CV1 CV2 CH1 CH2
  have MORE : ∀ {u v : World}, Below W.heap.size W u → Below u.heap.size u v → Below W.heap.size W v := fun h1 h2 => h1.trans (h2.mono h1.size)
  go_enter Tryd.func6, Tryd.ntmps6
  have x0 := XB.out 0 _ rfl W (Below.refl _ _)
  have x1 := XB.out 1 _ rfl W (Below.refl _ _)
  have x2 := XB.out 2 _ rfl W (Below.refl _ _)
  have x3 := XB.out 3 _ rfl W (Below.refl _ _)
  have x4 := XB.out 4 _ rfl W (Below.refl _ _)
  have x5 := XB.out 5 _ rfl W (Below.refl _ _)
  have x6 := XB.out 6 _ rfl W (Below.refl _ _)
  have x7 := XB.out 7 _ rfl W (Below.refl _ _)
  have x8 := XB.out 8 _ rfl W (Below.refl _ _)
  have x9 := XB.out 9 _ rfl W (Below.refl _ _)
  have x10 := XB.out 10 _ rfl W (Below.refl _ _)
  have x11 := XB.out 11 _ rfl W (Below.refl _ _)
  go_wp2_with fail
  rw [← hW]
  clear hW
  refine (HF1.out W (Below.refl _ _)).mono ?_
  rintro e w1 ⟨f1, rfl, hb1⟩
  clear x0 x1 x2 x3 x4 x5 x6 x7 x8 x9 x10 x11
  cases f1 with
  | false =>
    go_wp2_with fail
    refine (HW.out w1 hb1).mono ?_
    rintro e w2 ⟨rfl, hb2⟩
    have hbe := at_ _ (MORE hb1 hb2)
    go_wp2
    go_ret
    exact ⟨rfl, hbe⟩
  | true =>
    have y0 := YB.out 0 _ rfl w1 hb1
    have y1 := YB.out 1 _ rfl w1 hb1
    have y2 := YB.out 2 _ rfl w1 hb1
    have y3 := YB.out 3 _ rfl w1 hb1
    have y4 := YB.out 4 _ rfl w1 hb1
    have y5 := YB.out 5 _ rfl w1 hb1
    have y6 := YB.out 6 _ rfl w1 hb1
    have y7 := YB.out 7 _ rfl w1 hb1
    have y8 := YB.out 8 _ rfl w1 hb1
    have y9 := YB.out 9 _ rfl w1 hb1
    have y10 := YB.out 10 _ rfl w1 hb1
    have y11 := YB.out 11 _ rfl w1 hb1
    go_wp2_with fail
    refine (HF2.out w1 hb1).mono ?_
    rintro e w2 ⟨f2, rfl, hb2'⟩
    have hb2 := MORE hb1 hb2'
    clear hb2' y0 y1 y2 y3 y4 y5 y6 y7 y8 y9 y10 y11
    cases f2 with
    | false =>
      go_wp2_with fail
      refine (HW.out w2 hb2).mono ?_
      rintro e w3 ⟨rfl, hb3⟩
      have hbe := at_ _ (MORE hb2 hb3)
      go_wp2
      go_ret
      exact ⟨rfl, hbe⟩
    | true =>
    go_wp2
    have hd := hb2.drew
    refine wp_region_q (fun w' => Below W.heap.size W w') [(false, 0), (true, 1), (true, 2), (true, 4), (false, 3), (false, 5), (false, 6), (true, 7), (true, 8), (true, 9), (true, 10), (true, 12), (true, 13), (false, 11), (false, 14), (false, 15), (true, 16), (true, 17), (true, 18), (true, 19), (true, 21), (true, 22), (false, 20), (false, 23), (false, 24), (true, 25), (true, 26)] mixed (by kernel_rfl) hd ?_
    intro Tp M Q hT hT' hM hQ
    have x0 : M ⟨w.heap.size, 0, none⟩ = some (.slice a.A a.commits.length a.c) := hM _ _ fun w' hw => XB.out 0 _ rfl w' hw
    have x1 : M ⟨w.heap.size, 1, none⟩ = some (.slice a.mA a.marks.length a.mc) := hM _ _ fun w' hw => XB.out 1 _ rfl w' hw
    have x2 : M ⟨w.heap.size, 2, none⟩ = some (.int .i64 a.working) := hM _ _ fun w' hw => XB.out 2 _ rfl w' hw
    have x3 : M ⟨w.heap.size, 3, none⟩ = some (.bool a.pend.on) := hM _ _ fun w' hw => XB.out 3 _ rfl w' hw
    have x4 : M ⟨w.heap.size, 4, none⟩ = some (.bool a.pend.restack) := hM _ _ fun w' hw => XB.out 4 _ rfl w' hw
    have x5 : M ⟨w.heap.size, 5, none⟩ = some (.int .i64 a.pend.source) := hM _ _ fun w' hw => XB.out 5 _ rfl w' hw
    have x6 : M ⟨w.heap.size, 6, none⟩ = some (.int .i64 a.pend.dest) := hM _ _ fun w' hw => XB.out 6 _ rfl w' hw
    have x7 : M ⟨w.heap.size, 7, none⟩ = some (.slice a.pend.sA a.pend.settled.length a.pend.sc) := hM _ _ fun w' hw => XB.out 7 _ rfl w' hw
    have x8 : M ⟨w.heap.size, 8, none⟩ = some (.int .i64 a.pend.commit) := hM _ _ fun w' hw => XB.out 8 _ rfl w' hw
    have x9 : M ⟨w.heap.size, 9, none⟩ = some (.slice a.pend.kA a.pend.clashes.length a.pend.kc) := hM _ _ fun w' hw => XB.out 9 _ rfl w' hw
    have x10 : M ⟨w.heap.size, 10, none⟩ = some (.int .i64 a.undos) := hM _ _ fun w' hw => XB.out 10 _ rfl w' hw
    have x11 : M ⟨w.heap.size, 11, none⟩ = some (.int .i64 a.redos) := hM _ _ fun w' hw => XB.out 11 _ rfl w' hw
    have y0 : M ⟨w.heap.size + 1, 0, none⟩ = some (.slice b.A b.commits.length b.c) := hM _ _ fun w' hw => YB.out 0 _ rfl w' hw
    have y1 : M ⟨w.heap.size + 1, 1, none⟩ = some (.slice b.mA b.marks.length b.mc) := hM _ _ fun w' hw => YB.out 1 _ rfl w' hw
    have y2 : M ⟨w.heap.size + 1, 2, none⟩ = some (.int .i64 b.working) := hM _ _ fun w' hw => YB.out 2 _ rfl w' hw
    have y3 : M ⟨w.heap.size + 1, 3, none⟩ = some (.bool b.pend.on) := hM _ _ fun w' hw => YB.out 3 _ rfl w' hw
    have y4 : M ⟨w.heap.size + 1, 4, none⟩ = some (.bool b.pend.restack) := hM _ _ fun w' hw => YB.out 4 _ rfl w' hw
    have y5 : M ⟨w.heap.size + 1, 5, none⟩ = some (.int .i64 b.pend.source) := hM _ _ fun w' hw => YB.out 5 _ rfl w' hw
    have y6 : M ⟨w.heap.size + 1, 6, none⟩ = some (.int .i64 b.pend.dest) := hM _ _ fun w' hw => YB.out 6 _ rfl w' hw
    have y7 : M ⟨w.heap.size + 1, 7, none⟩ = some (.slice b.pend.sA b.pend.settled.length b.pend.sc) := hM _ _ fun w' hw => YB.out 7 _ rfl w' hw
    have y8 : M ⟨w.heap.size + 1, 8, none⟩ = some (.int .i64 b.pend.commit) := hM _ _ fun w' hw => YB.out 8 _ rfl w' hw
    have y9 : M ⟨w.heap.size + 1, 9, none⟩ = some (.slice b.pend.kA b.pend.clashes.length b.pend.kc) := hM _ _ fun w' hw => YB.out 9 _ rfl w' hw
    have y10 : M ⟨w.heap.size + 1, 10, none⟩ = some (.int .i64 b.undos) := hM _ _ fun w' hw => YB.out 10 _ rfl w' hw
    have y11 : M ⟨w.heap.size + 1, 11, none⟩ = some (.int .i64 b.redos) := hM _ _ fun w' hw => YB.out 11 _ rfl w' hw
    simp only [qcmp]
    simp (maxSteps := 5000000) only [qpost]
    refine eff_call (by kernel_rfl) (HW.out _ hd) rfl rfl ?_
    rintro e v1 ⟨rfl, h1⟩
    replace h1 := MORE hd h1
    refine ⟨_, rfl, hT _ h1, ?_⟩
    simp (maxSteps := 5000000) only [↓qpre, qpost, qfacts, qnorm, x0, x1, x2, x3, x4, x5, x6, x7, x8, x9, x10, x11]
    refine eff_call (by kernel_rfl) (HS1.out _ h1) rfl rfl ?_
    rintro e v2 ⟨rfl, h2⟩
    replace h2 := MORE h1 h2
    refine ⟨_, rfl, hT _ h2, ?_⟩
    simp (maxSteps := 5000000) only [↓qpre, qpost, qnorm]
    refine eff_call (by kernel_rfl) (HS2.out _ h2) rfl rfl ?_
    rintro e v3 ⟨rfl, h3⟩
    replace h3 := MORE h2 h3
    refine ⟨_, rfl, hT _ h3, ?_⟩
    simp (maxSteps := 5000000) only [↓qpre, qpost, qnorm]
    refine T.eff_eqb Tryd.underlying4 rfl rfl ⟨hT _ h3, ?_⟩
    simp (maxSteps := 5000000) only [↓qpre, qpost, qfacts, qnorm, x0, x1, x2, x3, x4, x5, x6, x7, x8, x9, x10, x11, y0, y1, y2, y3, y4, y5, y6, y7, y8, y9, y10, y11]
    refine eff_call (by kernel_rfl) (HV1.out _ h3) rfl rfl ?_
    rintro e v4 ⟨rfl, h4⟩
    replace h4 := MORE h3 h4
    refine ⟨_, rfl, hT _ h4, ?_⟩
    simp (maxSteps := 5000000) only [↓qpre, qpost, qnorm]
    refine eff_call (by kernel_rfl) (HV2.out _ h4) rfl rfl ?_
    rintro e v5 ⟨rfl, h5⟩
    replace h5 := MORE h4 h5
    refine ⟨_, rfl, hT _ h5, ?_⟩
    simp (maxSteps := 5000000) only [↓qpre, qpost, qnorm]
    refine T.eff_eqb Tryd.underlying4 rfl rfl ⟨hT _ h5, ?_⟩
    simp (maxSteps := 5000000) only [↓qpre, qpost, qfacts, qnorm, x0, x1, x2, x3, x4, x5, x6, x7, x8, x9, x10, x11, y0, y1, y2, y3, y4, y5, y6, y7, y8, y9, y10, y11]
    refine eff_call (by kernel_rfl) (HH1.out _ h5) rfl rfl ?_
    rintro e v6 ⟨rfl, h6⟩
    replace h6 := MORE h5 h6
    refine ⟨_, rfl, hT _ h6, ?_⟩
    simp (maxSteps := 5000000) only [↓qpre, qpost, qnorm]
    refine eff_call (by kernel_rfl) (HH2.out _ h6) rfl rfl ?_
    rintro e v7 ⟨rfl, h7⟩
    replace h7 := MORE h6 h7
    refine ⟨_, rfl, hT _ h7, ?_⟩
    simp (maxSteps := 5000000) only [↓qpre, qpost, qnorm]
    refine T.eff_eqb Tryd.underlying4 rfl rfl ⟨hT _ h7, ?_⟩
    simp (maxSteps := 5000000) only [↓qpre, qpost, qnorm]
    have hbe := at_ _ h7
    refine hQ _ _ ?_
    clear hQ hT hT' hM x0 x1 x2 x3 x4 x5 x6 x7 x8 x9 x10 x11 y0 y1 y2 y3 y4 y5 y6 y7 y8 y9 y10 y11
    go_wp2
    go_ret
    exact ⟨rfl, hbe⟩
end Go.Proofs.YtnkboccngialiaaDoor
