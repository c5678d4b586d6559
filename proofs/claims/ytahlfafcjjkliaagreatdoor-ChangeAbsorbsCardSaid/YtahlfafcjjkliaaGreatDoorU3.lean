/- Walks: the document's Put and Drop. -/
import Derived.Test.YtahlfafcjjkliaaGreatDoorU2
namespace Go.Proofs.YtahlfafcjjkliaaGreatDoor
open Go.RowKit

/-- Files, and why not. -/
def FilesErr (r : List FV × Int) (w : World) (e : Ending) (w' : World) : Prop :=
  ∃ (A : Option Addr) (c : Nat), e = .returned (.tuple #[.slice A r.1.length c, .int .i64 r.2]) ∧ RdF w' w'.heap.size A r.1.length c r.1 ∧ Below w.heap.size w w'
theorem filesErr_none {r : List FV × Int} {k : Int} {w w' : World} (h : r = ([], k)) (hb : Below w.heap.size w w') : FilesErr r w (.returned (.tuple #[.slice none 0 0, .int .i64 k])) w' := by
  subst h
  exact ⟨none, 0, rfl, RdF.none_ _ _, hb⟩
theorem filesErr_ok {r : List FV × Int} {A : Option Addr} {c n : Nat} {l : List FV} {w w' : World} (hn : l.length = n) (h : r = (l, 0)) (hr : RdF w' w'.heap.size A n c l) (hb : Below w.heap.size w w') : FilesErr r w (.returned (.tuple #[.slice A n c, .int .i64 0])) w' := by
  subst h
  subst hn
  exact ⟨A, c, rfl, hr, hb⟩
theorem treeOk_len {l : List FV} (h : treeOk l = true) : l.length ≤ 100 := (treeOk_iff.1 h).1
theorem without_len (l : List FV) (p : ByteArray) : (without l p).length ≤ l.length := List.length_filter_le _ _
theorem findP_isSome (l : List FV) (p : ByteArray) : (findP l p).isSome = hasP l p := by
  cases h : findP l p with
  | none => rw [findP_none.1 h]; rfl
  | some f => rw [(hasP_iff.2 ⟨f, findP_some h⟩)]; rfl

/-- Likewise, in a fresh row. -/
def FilesErrN (r : List FV × Int) (w : World) (e : Ending) (w' : World) : Prop :=
  ∃ (A : Option Addr) (c : Nat), e = .returned (.tuple #[.slice A r.1.length c, .int .i64 r.2]) ∧ RdF w' w'.heap.size A r.1.length c r.1 ∧ Below w.heap.size w w' ∧ NewAt A w.heap.size
theorem FilesErrN.old {r : List FV × Int} {w w' : World} {e : Ending} (h : FilesErrN r w e w') : FilesErr r w e w' := by
  obtain ⟨A, c, h1, h2, h3, _⟩ := h
  exact ⟨A, c, h1, h2, h3⟩
theorem filesErrN_none {r : List FV × Int} {k : Int} {w w' : World} (h : r = ([], k)) (hb : Below w.heap.size w w') : FilesErrN r w (.returned (.tuple #[.slice none 0 0, .int .i64 k])) w' := by
  subst h
  exact ⟨none, 0, rfl, RdF.none_ _ _, hb, NewAt.none_ _⟩
theorem filesErrN_ok {r : List FV × Int} {A : Option Addr} {c n : Nat} {l : List FV} {w w' : World} (hn : l.length = n) (h : r = (l, 0)) (hr : RdF w' w'.heap.size A n c l) (hb : Below w.heap.size w w') (hN : NewAt A w.heap.size) : FilesErrN r w (.returned (.tuple #[.slice A n c, .int .i64 0])) w' := by
  subst h
  subst hn
  exact ⟨A, c, rfl, hr, hb, hN⟩
set_option maxRecDepth 100000 in
set_option maxHeartbeats 8000000 in
theorem rput_new {A : Option Addr} {n c : Nat} {l : List FV} {f : FV} {w : World} (hn : n ≤ 17592186044416) (h : RdF w w.heap.size A n c l) (hff : f.path.size ≤ 140737488351232 ∧ f.text.size ≤ 140737488351232) :
    Calls Tryz.prog 37 #[.slice A n c, .agg #[.string f.path, .bool f.exec, .string f.text]] w (FilesErrN (putF l f) w) := by
  have HL := Lib.hid h.len
  obtain ⟨W, hW⟩ : ∃ u, u = w.alloc (.cells #[.string f.path, .bool f.exec, .string f.text] 35) := ⟨_, rfl⟩
  have hbW : Below w.heap.size w W := by rw [hW]; exact (Below.refl _ _).alloc (Nat.le_refl _) _
  have hzW : W.heap.size = w.heap.size + 1 := by rw [hW]; simp
  have hx : ∀ i u, f.cells[i]? = some u → ∀ u', Below W.heap.size W u' → u'.cell? ⟨w.heap.size, i, none⟩ = some u := fun i u hu u' hu' =>
    (hu'.cell (p := ⟨w.heap.size, i, none⟩) (by show w.heap.size < _; omega)).trans (by rw [hW, World.cell?, heap_alloc_new]; simpa [FV.cells] using hu)
  have XB := Lib.hid hx
  clear hx
  have UP : ∀ u, Below W.heap.size W u → Below w.heap.size w u := fun u hu => hbW.trans (hu.mono hbW.size)
  have MORE : ∀ {u v : World}, Below W.heap.size W u → Below u.heap.size u v → Below W.heap.size W v := fun h1 h2 => h1.trans (h2.mono h1.size)
  have RD : ∀ u, Below W.heap.size W u → RdF u u.heap.size A n c l := fun u hu => h.to (UP u hu) (UP u hu).size
  go_enter Tryz.func37, Tryz.ntmps37
  go_wp2_with fail
  rw [← hW]
  clear hW
  refine (rright_any hn (RD W (Below.refl _ _))).mono ?_
  rintro e w1 ⟨rfl, hb1⟩
  cases ht : treeOk l with
  | false =>
    have HP := Lib.hid (show putF l f = ([], 5) by simp [putF, ht])
    clear ht
    go_wp2
    go_ret2
    exact filesErrN_none HP.out (UP _ hb1)
  | true =>
  have hlen := treeOk_len ht
  rw [HL.out] at hlen
  have HT := Lib.hid ht
  clear ht
  have x0 := XB.out 0 _ rfl w1 hb1
  go_wp2_with fail
  refine (rpath_any (s := f.path)).mono ?_
  rintro e w2 ⟨rfl, hv⟩
  have hb2 := MORE hb1 hv
  clear hb1 hv x0
  have hp0 : pathOk f.path.data.toList = pathOk f.p := rfl
  rw [hp0]
  clear hp0
  cases hp : pathOk f.p with
  | false =>
    have HP := Lib.hid (show putF l f = ([], 11) by simp [putF, HT.out, hp])
    clear hp
    go_wp2
    go_ret2
    exact filesErrN_none HP.out (UP _ hb2)
  | true =>
  have HK := Lib.hid hp
  clear hp
  have x2 := XB.out 2 _ rfl w2 hb2
  by_cases hz : 20000 < f.text.size
  · have HP := Lib.hid (show putF l f = ([], 6) by simp [putF, HT.out, HK.out, hz])
    go_wp2
    go_ret2
    exact filesErrN_none HP.out (UP _ hb2)
  have x0 := XB.out 0 _ rfl w2 hb2
  go_wp2_with fail
  refine (rfind_any hn (RD _ hb2)).mono ?_
  rintro e w3 ⟨rfl, hv⟩
  have hb3 := MORE hb2 hv
  clear hb2 hv x0 x2
  obtain ⟨w4, hw4⟩ : ∃ u, u = w3.alloc (.cells #[.string (optF (findP l f.path)).path, .bool (optF (findP l f.path)).exec, .string (optF (findP l f.path)).text] 35) := ⟨_, rfl⟩
  have hb4 : Below W.heap.size W w4 := by rw [hw4]; exact hb3.alloc hb3.size _
  have x0 : (w3.alloc (.cells #[.string (optF (findP l f.path)).path, .bool (optF (findP l f.path)).exec, .string (optF (findP l f.path)).text] 35)).cell? ⟨w.heap.size, 0, none⟩ = some (.string f.path) := by rw [← hw4]; exact XB.out 0 _ rfl w4 hb4
  rw [findP_isSome]
  go_wp2_with fail
  rw [← hw4]
  clear x0 hw4 hb3
  refine (without_any (p := f.path) (by omega) (RD _ hb4)).mono ?_
  rintro e w5 ⟨A5, c5, l5, rfl, rfl, hr5, hv⟩
  have hb5 := MORE hb4 hv
  clear hb4 hv
  have hl5 := without_len l f.path
  rw [HL.out] at hl5
  have x0 := XB.out 0 _ rfl w5 hb5
  cases hh : hasP l f.path with
  | true =>
    have HP := Lib.hid (show putF l f = (sortedIn (without l f.path) f, 0) by simp [putF, HT.out, HK.out, hz, hh])
    clear hh
    have x1 := XB.out 1 _ rfl w5 hb5
    have x2 := XB.out 2 _ rfl w5 hb5
    generalize hm : (without l f.path).length = m at *
    go_wp2_with fail
    refine (sorted_new (f := f) (by omega) hr5 hff).mono ?_
    rintro e w6 ⟨A6, c6, l6, rfl, rfl, hr6, hv, hN6⟩
    have HS5 := Lib.hid hb5
    have hb6 := MORE hb5 hv
    clear x0 x1 x2
    go_wp2
    go_ret2
    exact filesErrN_ok rfl HP.out hr6 (UP _ hb6) (fun b o s hA => Nat.le_trans (UP _ HS5.out).size (hN6 b o s hA))
  | false =>
    have HW := Lib.hid (without_none hh)
    go_wp2_with fail
    refine (rclashes_any (p := f.path) hn (by unfold maxLen; omega) (RD _ hb5)).mono ?_
    rintro e w6 ⟨rfl, hv⟩
    have hb6 := MORE hb5 hv
    have hr6 := hr5.to hv hv.size
    clear hb5 hr5 hv x0
    cases hc : clashF l f.path with
    | true =>
      have HP := Lib.hid (show putF l f = ([], 11) by simp [putF, HT.out, HK.out, hz, hh, hc])
      clear hh hc
      go_wp2
      go_ret2
      exact filesErrN_none HP.out (UP _ hb6)
    | false =>
      by_cases hbig : 100 ≤ n
      · have HP := Lib.hid (show putF l f = ([], 6) by simp [putF, HT.out, HK.out, hz, hh, hc, HL.out, hbig])
        clear hh hc
        go_wp2
        go_ret2
        exact filesErrN_none HP.out (UP _ hb6)
      · have HP := Lib.hid (show putF l f = (sortedIn (without l f.path) f, 0) by simp [putF, HT.out, HK.out, hz, hh, hc, HL.out, hbig, HW.out])
        clear hh hc
        have x0 := XB.out 0 _ rfl w6 hb6
        have x1 := XB.out 1 _ rfl w6 hb6
        have x2 := XB.out 2 _ rfl w6 hb6
        generalize hm : (without l f.path).length = m at *
        go_wp2_with fail
        refine (sorted_new (f := f) (by omega) hr6 hff).mono ?_
        rintro e w7 ⟨A7, c7, l7, rfl, rfl, hr7, hv, hN7⟩
        have HS6 := Lib.hid hb6
        have hb7 := MORE hb6 hv
        clear x0 x1 x2
        go_wp2
        go_ret2
        exact filesErrN_ok rfl HP.out hr7 (UP _ hb7) (fun b o s hA => Nat.le_trans (UP _ HS6.out).size (hN7 b o s hA))

theorem rput_any {A : Option Addr} {n c : Nat} {l : List FV} {f : FV} {w : World} (hn : n ≤ 17592186044416) (h : RdF w w.heap.size A n c l) (hff : f.path.size ≤ 140737488351232 ∧ f.text.size ≤ 140737488351232) :
    Calls Tryz.prog 37 #[.slice A n c, .agg #[.string f.path, .bool f.exec, .string f.text]] w (FilesErr (putF l f) w) := (rput_new hn h hff).mono fun _ _ h => h.old

set_option maxRecDepth 100000 in
set_option maxHeartbeats 8000000 in
theorem rdrop_any {A : Option Addr} {n c : Nat} {l : List FV} {p : ByteArray} {w : World} (hn : n ≤ 17592186044416) (h : RdF w w.heap.size A n c l) :
    Calls Tryz.prog 36 #[.slice A n c, .string p] w (FilesErr (dropF l p) w) := by
  have HL := Lib.hid h.len
  have MORE : ∀ {u v : World}, Below w.heap.size w u → Below u.heap.size u v → Below w.heap.size w v := fun h1 h2 => h1.trans (h2.mono h1.size)
  have RD : ∀ u, Below w.heap.size w u → RdF u u.heap.size A n c l := fun u hu => h.to hu hu.size
  go_enter Tryz.func36, Tryz.ntmps36
  go_wp2_with fail
  refine (rright_any hn (RD w (Below.refl _ _))).mono ?_
  rintro e w1 ⟨rfl, hb1⟩
  cases ht : treeOk l with
  | false =>
    have HP := Lib.hid (show dropF l p = ([], 5) by simp [dropF, ht])
    clear ht
    go_wp2
    go_ret2
    exact filesErr_none HP.out hb1
  | true =>
  have hlen := treeOk_len ht
  rw [HL.out] at hlen
  have HT := Lib.hid ht
  clear ht
  go_wp2_with fail
  refine (rfind_any hn (RD _ hb1)).mono ?_
  rintro e w3 ⟨rfl, hv⟩
  have hb3 := MORE hb1 hv
  clear hb1 hv
  obtain ⟨w4, hw4⟩ : ∃ u, u = w3.alloc (.cells #[.string (optF (findP l p)).path, .bool (optF (findP l p)).exec, .string (optF (findP l p)).text] 35) := ⟨_, rfl⟩
  have hb4 : Below w.heap.size w w4 := by rw [hw4]; exact hb3.alloc hb3.size _
  rw [findP_isSome]
  cases hh : hasP l p with
  | false =>
    have HP := Lib.hid (show dropF l p = ([], 8) by simp [dropF, HT.out, hh])
    clear hh
    go_wp2
    go_ret2
    exact filesErr_none HP.out (by rw [← hw4]; exact hb4)
  | true =>
    have HP := Lib.hid (show dropF l p = (without l p, 0) by simp [dropF, HT.out, hh])
    clear hh
    go_wp2_with fail
    rw [← hw4]
    clear hw4 hb3
    refine (without_any (p := p) (by omega) (RD _ hb4)).mono ?_
    rintro e w5 ⟨A5, c5, l5, rfl, rfl, hr5, hv⟩
    have hb5 := MORE hb4 hv
    generalize hm : (without l p).length = m at *
    go_wp2
    go_ret2
    exact filesErr_ok hm HP.out hr5 hb5
end Go.Proofs.YtahlfafcjjkliaaGreatDoor
