/- Walk: DiskPlays. -/
import Derived.Test.YtabiegbbbljhlaaQ5
import Derived.Test.YtabiegbbbljhlaaD7
import Derived.Test.YtabiegbbbljhlaaR5
namespace Go.Proofs.Ytabiegbbbljhlaa
open Go.RowKit

theorem cells5 {os : List OV} {k : Nat} {o : OV} (hk : os[k]? = some o) : ∀ j u, o.cells[j]? = some u → (os.flatMap OV.cells)[k * 5 + j]? = some u := by
  induction os generalizing k with
  | nil => simp at hk
  | cons x xs ih =>
    intro j u hu
    have hj : j < 5 := by have := (List.getElem?_eq_some_iff.1 hu).1; simpa [OV.cells] using this
    rw [List.flatMap_cons]
    cases k with
    | zero =>
      simp at hk
      subst hk
      rw [Nat.zero_mul, Nat.zero_add, List.getElem?_append_left (by simpa [OV.cells] using hj)]
      exact hu
    | succ k =>
      rw [List.getElem?_append_right (by simp [OV.cells]; omega), show (k + 1) * 5 + j - x.cells.length = k * 5 + j by simp [OV.cells]; omega]
      exact ih (by simpa using hk) j u hu
theorem OV.get {w : World} {B n c : Nat} {A : Option Addr} {os : List OV} (h : Rd w B 5 A n c (os.flatMap OV.cells)) (hl : os.length = n) {k : Nat} (hk : k < n) :
    ∃ b o u, A = some ⟨b, o, none⟩ ∧ b < B ∧ u ∈ os ∧ w.cell? ⟨b, o + k * 5, none⟩ = some (.int .i64 u.what) ∧ w.cell? ⟨b, o + k * 5 + 1, none⟩ = some (.int .i64 u.file) ∧ w.cell? ⟨b, o + k * 5 + 2, none⟩ = some (.int .i64 u.num) ∧
      w.cell? ⟨b, o + k * 5 + 3, none⟩ = some (.slice u.bA u.bytes.length u.bc) ∧ w.cell? ⟨b, o + k * 5 + 4, none⟩ = some (.slice u.kA u.keep.length u.kc) := by
  obtain ⟨b, o, e, hb, hc⟩ := h.at_ (by omega)
  have hg : os[k]? = some (os[k]'(by omega)) := List.getElem?_eq_getElem _
  have hh := cells5 hg
  exact ⟨b, o, _, e, hb, List.getElem_mem _, hc _ _ (hh 0 _ rfl), hc _ _ (hh 1 _ rfl), hc _ _ (hh 2 _ rfl), hc _ _ (hh 3 _ rfl), hc _ _ (hh 4 _ rfl)⟩

theorem ownsRow_head {w : World} {x base n : Nat} {xs ys : List Value} (h : w.ownsRow base 5 1 (.slice (some ⟨x, 0, none⟩) (n + 3) (n + 3)) (n + 3) (xs ++ ys)) (hx : xs.length = n) : Rd w w.heap.size 1 (some ⟨x, 0, none⟩) n (n + 3) xs := by
  have hi := Rd.of_own h (Nat.le_refl _)
  obtain ⟨b, o, e, hb, hc⟩ := hi.at_ (by omega)
  refine ⟨by omega, by omega, fun _ => ⟨b, o, e, hb, fun j u hu => hc j u ?_⟩⟩
  rw [List.getElem?_append_left (List.getElem?_eq_some_iff.1 hu).1]
  exact hu
theorem lit7 (w : World) : Rd (w.alloc (.cells #[.int .u8 7] 5)) (w.alloc (.cells #[.int .u8 7] 5)).heap.size 1 (some ⟨w.heap.size, 0, none⟩) 1 1 (by8 [7]) := by
  refine ⟨rfl, Nat.le_refl _, fun _ => ⟨w.heap.size, 0, rfl, by simp, fun j u hu => ?_⟩⟩
  have hh := heap_alloc_new w (.cells #[.int .u8 7] 5)
  have hj : j = 0 := by have := (List.getElem?_eq_some_iff.1 hu).1; simpa [by8] using this
  subst hj
  rw [cell_of_row _ _ _ _ _ _ hh]
  exact hu

set_option maxRecDepth 100000 in
set_option maxHeartbeats 8000000 in
theorem diskPlays_any {room : Int} {P : Option Addr} {np cp : Nat} {os : List OV} (w : World) (hp : Rd w w.heap.size 5 P np cp (os.flatMap OV.cells)) (hl : os.length = np) (hok : ∀ o ∈ os, o.ok w w.heap.size) :
    Calls Try.prog 12 #[.int .i64 room, .slice P np cp] w (BoolBelow true w) := by
  go_enter Try.func12, Try.ntmps12
  go_wp2_with fail
  refine (new_any (N := w.heap.size) (Nat.le_refl _)).mono ?_
  rintro e w1 ⟨g, rfl, hK, hg, hb1⟩
  have HB1 := Lib.hid hb1
  have HK1 := Lib.hid hK
  have HG1 := Lib.hid hg
  have hs1 := hb1.size
  clear hK hg hb1
  go_wp2_with fail
  refine (rnew_any (N := w.heap.size) hs1).mono ?_
  rintro e w2 ⟨r, rfl, hR, hg, hb2⟩
  have HB2 := Lib.hid (HB1.out.trans (hb2.mono hs1))
  have HK2 := Lib.hid (HK1.out.below hb2)
  have HR2 := Lib.hid hR
  have hs2 := HB2.out.size
  clear hR hg hb2 HB1 HK1 HG1
  go_wp2_with fail
  refine (awake3_any _).mono ?_
  rintro e w3 ⟨rfl, hb3⟩
  have HB3 := Lib.hid (HB2.out.trans (hb3.mono hs2))
  have HK3 := Lib.hid (HK2.out.below hb3)
  have HR3 := Lib.hid (HR2.out.below hb3)
  have hs3 := HB3.out.size
  clear hb3 HB2 HK2 HR2
  generalize PD.new room = d3 at *
  go_wp2
  go_loopw [5, 6, 7] (fun gv rv iv wr => ∃ (i g r : Nat) (d : PD), gv = .pointer (some ⟨g, 0, none⟩) ∧ rv = .pointer (some ⟨r, 0, none⟩) ∧ iv = .int .i64 i ∧ i ≤ np ∧ Hid (DK w.heap.size wr g d) ∧ Hid (RK w.heap.size wr r d) ∧ Hid (Below w.heap.size w wr))
    (fun _ _ i _ => np - (intOf i).toNat)
  case atStart => exact ⟨0, g, r, d3, rfl, rfl, rfl, Nat.zero_le _, HK3, HR3, HB3⟩
  case round =>
    clear HB3 HK3 HR3 hs1 hs2 hs3 d3 w3 w2 w1
    obtain ⟨i, g, r, d, rfl, rfl, rfl, hi, HK, HR, HB⟩ := hrel
    have hws := HB.out.size
    by_cases h1 : i < np
    · by_cases h2 : i < 60
      · obtain ⟨b, o, u, rfl, hbl, hmem, q0, q1, q2, q3, q4⟩ := OV.get hp hl h1
        have HU := Lib.hid (hok u hmem)
        have p0 := (HB.out.cell (p := ⟨b, o + i * 5, none⟩) hbl).trans q0
        have p1 := (HB.out.cell (p := ⟨b, o + i * 5 + 1, none⟩) hbl).trans q1
        have p2 := (HB.out.cell (p := ⟨b, o + i * 5 + 2, none⟩) hbl).trans q2
        have p3 := (HB.out.cell (p := ⟨b, o + i * 5 + 3, none⟩) hbl).trans q3
        have p4 := (HB.out.cell (p := ⟨b, o + i * 5 + 4, none⟩) hbl).trans q4
        clear q0 q1 q2 q3 q4 hmem
        have hWb : Below wr.heap.size wr (wr.alloc (.cells #[.int .i64 u.what, .int .i64 u.file, .int .i64 u.num, .slice u.bA u.bytes.length u.bc, .slice u.kA u.keep.length u.kc] 71)) := (Below.refl _ _).alloc (Nat.le_refl _) _
        have hWh : (wr.alloc (.cells #[.int .i64 u.what, .int .i64 u.file, .int .i64 u.num, .slice u.bA u.bytes.length u.bc, .slice u.kA u.keep.length u.kc] 71)).heap[wr.heap.size]? = some (.cells #[.int .i64 u.what, .int .i64 u.file, .int .i64 u.num, .slice u.bA u.bytes.length u.bc, .slice u.kA u.keep.length u.kc] 71 (0, 0)) := heap_alloc_new _ _
        have hWs : wr.heap.size < (wr.alloc (.cells #[.int .i64 u.what, .int .i64 u.file, .int .i64 u.num, .slice u.bA u.bytes.length u.bc, .slice u.kA u.keep.length u.kc] 71)).heap.size := by simp
        by_cases h3 : 300 < u.bytes.length
        · go_wp2
          go_ret
          exact ⟨rfl, HB.out.trans (hWb.mono hws)⟩
        by_cases h4 : 10 < u.keep.length
        · go_wp2
          all_goals
            go_ret
            exact ⟨rfl, HB.out.trans (hWb.mono hws)⟩
        have HKW := Lib.hid (HK.out.below hWb)
        have HRW := Lib.hid (HR.out.below hWb)
        have HBW := Lib.hid (HB.out.trans (hWb.mono hws))
        have hgl := HK.out.lt
        have hrl := HR.out.lt
        have HWS := Lib.hid hWs
        have z1 := cell_of_row _ wr.heap.size 1 _ _ _ hWh
        have z2 := cell_of_row _ wr.heap.size 2 _ _ _ hWh
        have z3 := cell_of_row _ wr.heap.size 3 _ _ _ hWh
        have z4 := cell_of_row _ wr.heap.size 4 _ _ _ hWh
        have HZ := Lib.hid (And.intro z1 (And.intro z2 (And.intro z3 z4)))
        clear hWb hWh hWs HK HR HB z1 z2 z3 z4
        by_cases k1 : u.what = 1
        · rw [k1] at p0 HKW HRW HBW HWS HZ
          go_wp2
          generalize wr.alloc (.cells #[.int .i64 1, .int .i64 u.file, .int .i64 u.num, .slice u.bA u.bytes.length u.bc, .slice u.kA u.keep.length u.kc] 71) = W at *
          refine wp_region_q (fun w' => ∀ j, w'.cell? ⟨wr.heap.size, j, none⟩ = W.cell? ⟨wr.heap.size, j, none⟩) [(true, 0), (true, 1), (true, 2), (true, 4), (true, 5), (true, 6), (false, 3), (false, 7), (true, 8), (true, 9)] mixed (by kernel_rfl) (fun j => rfl) ?_
          intro T M Q hT hT' hM hQ
          have m1 : M ⟨wr.heap.size, 1, none⟩ = some (.int .i64 u.file) := hM _ _ fun w' hw => (hw 1).trans HZ.out.1
          clear hM
          simp only [qcmp]
          simp (maxSteps := 5000000) only [↓qpre, qpost, qfacts, qnorm, m1]
          refine eff_call (by kernel_rfl) (sync_any (f := u.file) HKW.out.drew) rfl rfl ?_
          rintro e w5 ⟨rfl, hK5, hg5⟩
          have hc5 : ∀ j, w5.cell? ⟨wr.heap.size, j, none⟩ = W.cell? ⟨wr.heap.size, j, none⟩ := fun j => World.cell?_of_block (a := ⟨wr.heap.size, j, none⟩) (hg5.block wr.heap.size HWS.out (by intro he; have := Option.some.inj he; omega))
          have hR5 := (HRW.out.drew.grown hg5 HKW.out.drew).1
          refine ⟨_, rfl, hT _ hc5, ?_⟩
          simp (maxSteps := 5000000) only [↓qpre, qpost, qfacts, qnorm]
          refine eff_call (by kernel_rfl) (rsync_any (f := u.file) hR5) rfl rfl ?_
          rintro e w6 ⟨rfl, hR6, hg6⟩
          have hc6 : ∀ j, w6.cell? ⟨wr.heap.size, j, none⟩ = W.cell? ⟨wr.heap.size, j, none⟩ := fun j => (World.cell?_of_block (a := ⟨wr.heap.size, j, none⟩) (hg6.block wr.heap.size (Nat.lt_of_lt_of_le HWS.out hg5.size) (by intro he; have := Option.some.inj he; omega))).trans (hc5 j)
          have HK6 := Lib.hid (hK5.grownR hg6 hR5)
          have HR6 := Lib.hid hR6
          have hb5 := HBW.out.drew.grown hg5 HBW.out.size (fun k hk => by cases hk; exact hgl.1)
          have HB6 := Lib.hid (hb5.grown hg6 hb5.size (fun k hk => by cases hk; exact hrl.1))
          refine ⟨_, rfl, hT _ hc6, ?_⟩
          clear hc5 hc6 hR5 hK5 hR6 hg5 hg6 hb5
          simp (maxSteps := 5000000) only [↓qpre, qpost, qfacts, qnorm]
          refine hQ _ _ ?_
          clear hQ hT hT' m1 HKW HRW HBW
          generalize d.sync u.file = d6 at *
          go_wp2_with fail
          refine (alike_any HK6.out HR6.out).mono ?_
          rintro e wz ⟨rfl, hbz⟩
          have HKz := Lib.hid (HK6.out.below hbz)
          have HRz := Lib.hid (HR6.out.below hbz)
          have HBz := Lib.hid (HB6.out.trans (hbz.mono HB6.out.size))
          clear hbz HK6 HR6 HB6
          go_wp2
          exact ⟨⟨i + 1, g, r, d6.2, rfl, rfl, by go_num, by omega, HKz, HRz, HBz⟩, by simp [intOf]; omega⟩
        by_cases k2 : u.what = 2
        · rw [k2] at p0 HKW HRW HBW HWS HZ
          go_wp2
          generalize wr.alloc (.cells #[.int .i64 2, .int .i64 u.file, .int .i64 u.num, .slice u.bA u.bytes.length u.bc, .slice u.kA u.keep.length u.kc] 71) = W at *
          refine wp_region_q (fun w' => ∀ j, w'.cell? ⟨wr.heap.size, j, none⟩ = W.cell? ⟨wr.heap.size, j, none⟩) [(true, 0), (true, 1), (true, 2), (true, 3), (true, 4), (true, 6), (true, 7), (true, 8), (true, 9), (true, 10), (false, 5), (false, 11), (true, 12), (true, 13)] mixed (by kernel_rfl) (fun j => rfl) ?_
          intro T M Q hT hT' hM hQ
          have m1 : M ⟨wr.heap.size, 1, none⟩ = some (.int .i64 u.file) := hM _ _ fun w' hw => (hw 1).trans HZ.out.1
          have m2 : M ⟨wr.heap.size, 2, none⟩ = some (.int .i64 u.num) := hM _ _ fun w' hw => (hw 2).trans HZ.out.2.1
          clear hM
          simp only [qcmp]
          simp (maxSteps := 5000000) only [↓qpre, qpost, qfacts, qnorm, m1, m2]
          refine eff_call (by kernel_rfl) (cut_any (f := u.file) (n := u.num) HKW.out.drew) rfl rfl ?_
          rintro e w5 ⟨rfl, hK5, hg5⟩
          have hc5 : ∀ j, w5.cell? ⟨wr.heap.size, j, none⟩ = W.cell? ⟨wr.heap.size, j, none⟩ := fun j => World.cell?_of_block (a := ⟨wr.heap.size, j, none⟩) (hg5.block wr.heap.size HWS.out (by intro he; have := Option.some.inj he; omega))
          have hR5 := (HRW.out.drew.grown hg5 HKW.out.drew).1
          refine ⟨_, rfl, hT _ hc5, ?_⟩
          simp (maxSteps := 5000000) only [↓qpre, qpost, qfacts, qnorm]
          refine eff_call (by kernel_rfl) (rcut_any (f := u.file) (n := u.num) hR5) rfl rfl ?_
          rintro e w6 ⟨rfl, hR6, hg6⟩
          have hc6 : ∀ j, w6.cell? ⟨wr.heap.size, j, none⟩ = W.cell? ⟨wr.heap.size, j, none⟩ := fun j => (World.cell?_of_block (a := ⟨wr.heap.size, j, none⟩) (hg6.block wr.heap.size (Nat.lt_of_lt_of_le HWS.out hg5.size) (by intro he; have := Option.some.inj he; omega))).trans (hc5 j)
          have HK6 := Lib.hid (hK5.grownR hg6 hR5)
          have HR6 := Lib.hid hR6
          have hb5 := HBW.out.drew.grown hg5 HBW.out.size (fun k hk => by cases hk; exact hgl.1)
          have HB6 := Lib.hid (hb5.grown hg6 hb5.size (fun k hk => by cases hk; exact hrl.1))
          refine ⟨_, rfl, hT _ hc6, ?_⟩
          clear hc5 hc6 hR5 hK5 hR6 hg5 hg6 hb5
          simp (maxSteps := 5000000) only [↓qpre, qpost, qfacts, qnorm]
          refine hQ _ _ ?_
          clear hQ hT hT' m1 m2 HKW HRW HBW
          generalize d.cut u.file u.num = d6 at *
          go_wp2_with fail
          refine (alike_any HK6.out HR6.out).mono ?_
          rintro e wz ⟨rfl, hbz⟩
          have HKz := Lib.hid (HK6.out.below hbz)
          have HRz := Lib.hid (HR6.out.below hbz)
          have HBz := Lib.hid (HB6.out.trans (hbz.mono HB6.out.size))
          clear hbz HK6 HR6 HB6
          go_wp2
          exact ⟨⟨i + 1, g, r, d6.2, rfl, rfl, by go_num, by omega, HKz, HRz, HBz⟩, by simp [intOf]; omega⟩
        by_cases k3 : u.what = 3
        · rw [k3] at p0 HKW HRW HBW HWS HZ
          go_wp2_with fail
          generalize wr.alloc (.cells #[.int .i64 3, .int .i64 u.file, .int .i64 u.num, .slice u.bA u.bytes.length u.bc, .slice u.kA u.keep.length u.kc] 71) = W at *
          refine (arm_any (keep := u.keep) HKW.out HU.out.nb.2 HBW.out.size (HU.out.k.below HBW.out) HU.out.kb (by omega)).mono ?_
          rintro e w5 ⟨rfl, hK5, hg5⟩
          have HR5 := Lib.hid (HRW.out.grown hg5 HKW.out).1
          have HK5 := Lib.hid hK5
          have HB5 := Lib.hid (HBW.out.grown hg5 HBW.out.size (fun k hk => by cases hk; exact hgl.1))
          have y2 := (World.cell?_of_block (a := ⟨wr.heap.size, 2, none⟩) (hg5.block wr.heap.size HWS.out (by intro he; have := Option.some.inj he; omega))).trans HZ.out.2.1
          have y4 := (World.cell?_of_block (a := ⟨wr.heap.size, 4, none⟩) (hg5.block wr.heap.size HWS.out (by intro he; have := Option.some.inj he; omega))).trans HZ.out.2.2.2
          replace y2 : w5.cell? ⟨wr.heap.size, 2, none⟩ = some (.int .i64 u.num) := y2
          replace y4 : w5.cell? ⟨wr.heap.size, 4, none⟩ = some (.slice u.kA u.keep.length u.kc) := y4
          clear hK5 hg5 HKW HRW HBW
          go_wp2_with fail
          refine (rarm_any (keep := u.keep) HR5.out HU.out.nb.2 HB5.out.size (HU.out.k.below HB5.out) HU.out.kb (by omega)).mono ?_
          rintro e w6 ⟨rfl, hR6, hg6⟩
          have HK6 := Lib.hid (HK5.out.grownR hg6 HR5.out)
          have HR6 := Lib.hid hR6
          have HB6 := Lib.hid (HB5.out.grown hg6 HB5.out.size (fun k hk => by cases hk; exact hrl.1))
          clear hR6 hg6 HK5 HR5 HB5 y2 y4
          generalize d.arm u.num u.keep = d6 at *
          go_wp2_with fail
          refine (alike_any HK6.out HR6.out).mono ?_
          rintro e wz ⟨rfl, hbz⟩
          have HKz := Lib.hid (HK6.out.below hbz)
          have HRz := Lib.hid (HR6.out.below hbz)
          have HBz := Lib.hid (HB6.out.trans (hbz.mono HB6.out.size))
          clear hbz HK6 HR6 HB6
          go_wp2
          exact ⟨⟨i + 1, g, r, d6, rfl, rfl, by go_num, by omega, HKz, HRz, HBz⟩, by simp [intOf]; omega⟩
        by_cases k4 : u.what = 4
        · rw [k4] at p0 HKW HRW HBW HWS HZ
          go_wp2_with fail
          generalize wr.alloc (.cells #[.int .i64 4, .int .i64 u.file, .int .i64 u.num, .slice u.bA u.bytes.length u.bc, .slice u.kA u.keep.length u.kc] 71) = W at *
          refine (restart_any HKW.out).mono ?_
          rintro e w5 ⟨g5, rfl, hK5, hg5, hb5⟩
          have HR5 := Lib.hid (HRW.out.below hb5)
          have HK5 := Lib.hid hK5
          have HB5 := Lib.hid (HBW.out.trans (hb5.mono HBW.out.size))
          clear hK5 hg5 hb5 HKW HRW HBW
          go_wp2_with fail
          refine (rrestart_any HR5.out HB5.out.size).mono ?_
          rintro e w6 ⟨r6, rfl, hR6, hg6, hb6⟩
          have HK6 := Lib.hid (HK5.out.below hb6)
          have HR6 := Lib.hid hR6
          have HB6 := Lib.hid (HB5.out.trans (hb6.mono HB5.out.size))
          clear hR6 hg6 hb6 HK5 HR5 HB5
          generalize d.restart = d6 at *
          go_wp2_with fail
          refine (alike_any HK6.out HR6.out).mono ?_
          rintro e wz ⟨rfl, hbz⟩
          have HKz := Lib.hid (HK6.out.below hbz)
          have HRz := Lib.hid (HR6.out.below hbz)
          have HBz := Lib.hid (HB6.out.trans (hbz.mono HB6.out.size))
          clear hbz HK6 HR6 HB6
          go_wp2
          exact ⟨⟨i + 1, g5, r6, d6, rfl, rfl, by go_num, by omega, HKz, HRz, HBz⟩, by simp [intOf]; omega⟩
        by_cases k5 : u.what = 5
        · rw [k5] at p0 HKW HRW HBW HWS HZ
          go_wp2_with fail
          generalize wr.alloc (.cells #[.int .i64 5, .int .i64 u.file, .int .i64 u.num, .slice u.bA u.bytes.length u.bc, .slice u.kA u.keep.length u.kc] 71) = W at *
          refine (fork_any HKW.out).mono ?_
          rintro e w5 ⟨g5, rfl, hK5, hg5, hb5⟩
          have HR5 := Lib.hid (HRW.out.below hb5)
          have HK5 := Lib.hid hK5
          have HO5 := Lib.hid (HKW.out.below hb5)
          have HNE := Lib.hid (show g5 ≠ g by have := HKW.out.lt; omega)
          have HB5 := Lib.hid (HBW.out.trans (hb5.mono HBW.out.size))
          clear hK5 hg5 hb5 HKW HRW HBW
          go_wp2_with fail
          have hbA : Below w5.heap.size w5 (w5.alloc (.cells #[.int .u8 7] 5)) := (Below.refl _ _).alloc (Nat.le_refl _) _
          have HL := Lib.hid (lit7 w5)
          have HR6 := Lib.hid (HR5.out.below hbA)
          have HK6 := Lib.hid (HK5.out.below hbA)
          have HO6 := Lib.hid (HO5.out.below hbA)
          have HB6 := Lib.hid (HB5.out.trans (hbA.mono HB5.out.size))
          clear hbA HR5 HK5 HO5 HB5
          generalize w5.alloc (.cells #[.int .u8 7] 5) = w6 at *
          refine (append_any (f := 0) (bs := [7]) HO6.out (Nat.le_refl _) HL.out (by omega)).mono ?_
          rintro e w7 ⟨rfl, hK7, hg7⟩
          have HK7 := Lib.hid (HK6.out.grown hg7 HO6.out HNE.out)
          have HR7 := Lib.hid (HR6.out.grown hg7 HO6.out).1
          have HB7 := Lib.hid (HB6.out.grown hg7 HB6.out.size (fun k hk => by cases hk; exact hgl.1))
          clear hK7 hg7 HK6 HR6 HB6 HO6 HL
          generalize (d.append 0 [7]).1 = e7 at *
          go_wp2_with fail
          refine (alike_any HK7.out HR7.out).mono ?_
          rintro e wz ⟨rfl, hbz⟩
          have HKz := Lib.hid (HK7.out.below hbz)
          have HRz := Lib.hid (HR7.out.below hbz)
          have HBz := Lib.hid (HB7.out.trans (hbz.mono HB7.out.size))
          clear hbz HK7 HR7 HB7
          go_wp2
          exact ⟨⟨i + 1, g5, r, d, rfl, rfl, by go_num, by omega, HKz, HRz, HBz⟩, by simp [intOf]; omega⟩
        go_wp2_with fail
        generalize wr.alloc (.cells #[.int .i64 u.what, .int .i64 u.file, .int .i64 u.num, .slice u.bA u.bytes.length u.bc, .slice u.kA u.keep.length u.kc] 71) = W at *
        have HOWN := ownB_any (x := 71) (n := u.bytes.length) (l := u.bytes) (by omega) (HU.out.b.to HBW.out HBW.out.size)
        rw [show ((71 : Nat) : Int) = 71 from rfl] at HOWN
        refine HOWN.mono ?_
        clear HOWN
        rintro e w5 ⟨x, rfl, ho5, hb5⟩
        have hxl := (ho5.lt x rfl)
        have HK5 := Lib.hid (HKW.out.below hb5)
        have HR5 := Lib.hid (HRW.out.below hb5)
        have HB5 := Lib.hid (HBW.out.trans (hb5.mono HBW.out.size))
        have HO5 := Lib.hid ho5
        have HZ1 := Lib.hid (show w5.cell? ⟨wr.heap.size, 1, none⟩ = some (.int .i64 u.file) from (hb5.cell (p := ⟨wr.heap.size, 1, none⟩) HWS.out).trans HZ.out.1)
        have HZ3 := Lib.hid (show w5.cell? ⟨wr.heap.size, 3, none⟩ = some (.slice u.bA u.bytes.length u.bc) from (hb5.cell (p := ⟨wr.heap.size, 3, none⟩) HWS.out).trans HZ.out.2.2.1)
        have HWS5 := Lib.hid (Nat.lt_of_lt_of_le HWS.out hb5.size)
        have HGX := Lib.hid (show g < x ∧ r < x by have h1 := HKW.out.lt; have h2 := HRW.out.lt; omega)
        have HBL := Lib.hid (show u.bytes.length = u.bytes.length from rfl)
        clear ho5 hb5 HKW HRW HBW hxl
        go_wp2
        refine wp_region_q (fun w' => ∀ j, w'.cell? ⟨wr.heap.size, j, none⟩ = w5.cell? ⟨wr.heap.size, j, none⟩) [(true, 0), (true, 1), (true, 2), (true, 3), (true, 5), (true, 6), (true, 7), (true, 8), (true, 9), (false, 4), (false, 10), (true, 11), (true, 12), (true, 13), (true, 14), (true, 15), (false, 16), (true, 17), (true, 18)] mixed (by kernel_rfl) (fun j => rfl) ?_
        intro T M Q hT hT' hM hQ
        have m1 : M ⟨wr.heap.size, 1, none⟩ = some (.int .i64 u.file) := hM _ _ fun w' hw => (hw 1).trans HZ1.out
        have m3 : M ⟨wr.heap.size, 3, none⟩ = some (.slice u.bA u.bytes.length u.bc) := hM _ _ fun w' hw => (hw 3).trans HZ3.out
        clear hM
        simp only [qcmp]
        simp (maxSteps := 5000000) only [↓qpre, qpost, qfacts, qnorm, m1, m3]
        refine eff_call (by kernel_rfl) (append_any (f := u.file) (bs := u.bytes) HK5.out.drew (Nat.le_refl _) (show Rd w5.drew w5.drew.heap.size 1 (some ⟨x, 0, none⟩) u.bytes.length (u.bytes.length + 3) (by8 u.bytes) from (ownsRow_head HO5.out (by8_len _)).below ((Below.refl _ _).drew)) (by omega)) rfl rfl ?_
        rintro e w6 ⟨rfl, hK6, hg6⟩
        have hc6 : ∀ j, w6.cell? ⟨wr.heap.size, j, none⟩ = w5.cell? ⟨wr.heap.size, j, none⟩ := fun j => World.cell?_of_block (a := ⟨wr.heap.size, j, none⟩) (hg6.block wr.heap.size HWS5.out (by intro he; have := Option.some.inj he; omega))
        have hR6 := (HR5.out.drew.grown hg6 HK5.out.drew).1
        have ho6 := World.ownsRow.kept (w := w5.drew) HO5.out hg6 (.inr (by have := HGX.out; simp [Value.ownBlock]; omega))
        have hb6 := HB5.out.drew.grown hg6 HB5.out.size (fun k hk => by cases hk; exact hgl.1)
        refine ⟨_, rfl, hT _ hc6, ?_⟩
        simp (maxSteps := 5000000) only [↓qpre, qpost, qfacts, qnorm]
        refine eff_call (by kernel_rfl) (rappend_any (f := u.file) (bs := u.bytes) hR6 hb6.size (HU.out.b.below hb6) (by omega)) rfl rfl ?_
        rintro e w7 ⟨rfl, hR7, hg7⟩
        have hc7 : ∀ j, w7.cell? ⟨wr.heap.size, j, none⟩ = w5.cell? ⟨wr.heap.size, j, none⟩ := fun j => (World.cell?_of_block (a := ⟨wr.heap.size, j, none⟩) (hg7.block wr.heap.size (Nat.lt_of_lt_of_le HWS5.out hg6.size) (by intro he; have := Option.some.inj he; omega))).trans (hc6 j)
        have HK7 := Lib.hid (hK6.grownR hg7 hR6)
        have HR7 := Lib.hid hR7
        have ho7 := World.ownsRow.kept ho6 hg7 (.inr (by have := HGX.out; simp [Value.ownBlock]; omega))
        have hb7 := hb6.grown hg7 hb6.size (fun k hk => by cases hk; exact hrl.1)
        refine ⟨_, rfl, hT _ hc7, ?_⟩
        simp (maxSteps := 5000000) only [↓qpre, qpost, qfacts, qnorm, m3]
        refine eff_call (by kernel_rfl) (keptB_any (x := 71) (n := u.bytes.length) (l := u.bytes) (by omega) (Nat.le_refl _) (Rd.of_own ho7 (Nat.le_refl _)) (HU.out.b.to hb7 hb7.size)) rfl rfl ?_
        rintro e w8 ⟨rfl, hb8⟩
        refine ⟨_, rfl, hT _ (fun j => (hb8.cell (p := ⟨wr.heap.size, j, none⟩) (Nat.lt_of_lt_of_le HWS5.out (Nat.le_trans hg6.size hg7.size))).trans (hc7 j)), ?_⟩
        have HK8 := Lib.hid (HK7.out.below hb8)
        have HR8 := Lib.hid (HR7.out.below hb8)
        have HB8 := Lib.hid (hb7.trans (hb8.mono hb7.size))
        clear hc6 hc7 hR6 hR7 hK6 hg6 hg7 ho6 ho7 hb6 hb7 hb8 HK7 HR7
        simp (maxSteps := 5000000) only [↓qpre, qpost, qfacts, qnorm]
        refine hQ _ _ ?_
        clear hQ hT hT' m1 m3 HK5 HR5 HB5 HO5
        generalize d.append u.file u.bytes = d8 at *
        go_wp2_with fail
        refine (alike_any HK8.out HR8.out).mono ?_
        rintro e wz ⟨rfl, hbz⟩
        have HKz := Lib.hid (HK8.out.below hbz)
        have HRz := Lib.hid (HR8.out.below hbz)
        have HBz := Lib.hid (HB8.out.trans (hbz.mono HB8.out.size))
        clear hbz HK8 HR8 HB8
        go_wp2
        exact ⟨⟨i + 1, g, r, d8.2, rfl, rfl, by go_num, by omega, HKz, HRz, HBz⟩, by simp [intOf]; omega⟩
      · go_wp2
        go_ret
        exact ⟨rfl, HB.out⟩
    · go_wp2
      go_ret
      exact ⟨rfl, HB.out⟩
end Go.Proofs.Ytabiegbbbljhlaa
