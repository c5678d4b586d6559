/- Walk: the law TreeTells. -/
import Derived.Test.YtahlfafcjjkliaaDoorL0
namespace Go.Proofs.YtahlfafcjjkliaaDoor
open Go.RowKit

theorem sortedIn_len (l : List FV) (f : FV) : (sortedIn l f).length = l.length + 1 := by
  have := congrArg List.length (List.takeWhile_append_dropWhile (p := lessF f) (l := l))
  rw [List.length_append] at this
  rw [sortedIn, List.length_append, List.length_cons]
  omega
theorem putF_len (l : List FV) (f : FV) : (putF l f).1.length ≤ l.length + 1 := by
  unfold putF
  have := sortedIn_len l f
  have := sortedIn_len (without l f.path) f
  have := without_len l f.path
  repeat' split
  all_goals simp only [List.length_nil] <;> omega
theorem dropF_len (l : List FV) (p : ByteArray) : (dropF l p).1.length ≤ l.length := by
  unfold dropF
  have := without_len l p
  repeat' split
  all_goals simp only [List.length_nil] <;> omega
def file71 : FV := ⟨⟨#[55, 49]⟩, false, ⟨#[]⟩⟩
set_option maxRecDepth 100000 in
theorem run_file71 (w : World) : (Instr.build 24 #[(0, .string ⟨#[55, 49]⟩)]).run Tryd.prog w = .ok (.agg #[.string ⟨#[55, 49]⟩, .bool false, .string ⟨#[]⟩]) w := by
  go_simp

set_option maxRecDepth 100000 in
set_option maxHeartbeats 16000000 in
theorem treeTells_any {A A' : Option Addr} {n c n' c' : Nat} {l m : List FV} {f : FV} {p : ByteArray} {w : World} (hn : n ≤ 17592186044416) (hn' : n' ≤ 17592186044416) (hm : Lm w)
    (ha : RdF w w.heap.size A n c l) (hb : RdF w w.heap.size A' n' c' m) (hff : f.path.size ≤ 140737488351232 ∧ f.text.size ≤ 140737488351232) :
    Calls Tryd.prog 3 #[.slice A n c, .slice A' n' c', .agg #[.string f.path, .bool f.exec, .string f.text], .string p] w (BoolBelow true w) := by
  obtain ⟨W, hW⟩ : ∃ u, u = w.alloc (.cells #[.string f.path, .bool f.exec, .string f.text] 24) := ⟨_, rfl⟩
  have hbW : Below w.heap.size w W := by rw [hW]; exact (Below.refl _ _).alloc (Nat.le_refl _) _
  have hzW : W.heap.size = w.heap.size + 1 := by rw [hW]; simp
  have hx : ∀ i u, f.cells[i]? = some u → ∀ u', Below W.heap.size W u' → u'.cell? ⟨w.heap.size, i, none⟩ = some u := fun i u hu u' hu' =>
    (hu'.cell (p := ⟨w.heap.size, i, none⟩) (by show w.heap.size < _; omega)).trans (by rw [hW, World.cell?, heap_alloc_new]; simpa [FV.cells] using hu)
  have XB := Lib.hid hx
  clear hx
  have HzW := Lib.hid hzW
  clear hzW
  have haW := ha.to hbW hbW.size
  have hmbW := hb.to hbW hbW.size
  have hmW : Lm W := hm.below hbW hm.lt
  have hz := fun u => run_file71 u
  have HL := Lib.hid ha.len
  have HM := Lib.hid hb.len
  have HF := Lib.hid ha.fits
  have UP : ∀ u, Below W.heap.size W u → Below w.heap.size w u := fun u hu => hbW.trans (hu.mono hbW.size)
  clear ha hb hm hbW
  go_enter Tryd.func3, Tryd.ntmps3
  go_wp2_with fail
  rw [← hW]
  clear hW
  refine (few_any hn (by omega) haW (rdC_none W)).mono ?_
  rintro e w1 ⟨rfl, hw1⟩
  rw [hw1]
  clear hw1 w1
  cases h1 : fewF l [] with
  | false =>
    clear h1
    go_wp2_with fail
    refine (awake_any hmW).mono ?_
    rintro e w2 ⟨rfl, hw2⟩
    go_wp2
    go_ret
    exact ⟨rfl, UP _ hw2⟩
  | true =>
    have hl40 := (fewF_iff.1 h1).2.2.1
    rw [HL.out] at hl40
    clear h1
    go_wp2_with fail
    refine (few_any hn' (by omega) hmbW (rdC_none W)).mono ?_
    rintro e w1 ⟨rfl, hw1⟩
    rw [hw1]
    clear hw1 w1
    cases h1 : fewF m [] with
    | false =>
      clear h1
      go_wp2_with fail
      refine (awake_any hmW).mono ?_
      rintro e w2 ⟨rfl, hw2⟩
      go_wp2
      go_ret
      exact ⟨rfl, UP _ hw2⟩
    | true =>
      have hm40 := (fewF_iff.1 h1).2.2.1
      rw [HM.out] at hm40
      clear h1
      have x2 := XB.out 2 _ rfl W (Below.refl _ _)
      by_cases hbig : 30000 < f.text.size
      · go_wp2_with fail
        refine (awake_any hmW).mono ?_
        rintro e w2 ⟨rfl, hw2⟩
        go_wp2
        go_ret
        exact ⟨rfl, UP _ hw2⟩
      · go_wp2_with fail
        clear x2
        refine (ownF_any (f := file71) (by omega) haW.row).mono ?_
        rintro e w1 ⟨g, rfl, ho, hb1⟩
        have hr := Rd.of_own ho (Nat.le_refl _)
        have hin : RdF w1 w1.heap.size (some ⟨g, 0, none⟩) n (n + 3) l := ⟨rd_front (k := 3) hr haW.row.len (by omega), HL.out, HF.out⟩
        have UI : ∀ u, Below w1.heap.size w1 u → RdF u u.heap.size (some ⟨g, 0, none⟩) n (n + 3) l := fun u hu => hin.to hu hu.size
        have MORE : ∀ {u}, Below w1.heap.size w1 u → Below W.heap.size W u := fun hu => hb1.trans (hu.mono hb1.size)
        replace UP : ∀ u, Below w1.heap.size w1 u → Below w.heap.size w u := fun u hu => UP u (MORE hu)
        have UL : ∀ u, Below w1.heap.size w1 u → RdF u u.heap.size A n c l := fun u hu => haW.to (MORE hu) (MORE hu).size
        have UM : ∀ u, Below w1.heap.size w1 u → RdF u u.heap.size A' n' c' m := fun u hu => hmbW.to (MORE hu) (MORE hu).size
        have UZ : ∀ u, Below w1.heap.size w1 u → Lm u := fun u hu => hmW.below (MORE hu) hmW.lt
        have UK : ∀ u, Below w1.heap.size w1 u → Calls Tryd.prog 24 #[.slice (some ⟨g, 0, none⟩) n (n + 3), .slice A n c, .agg #[.string ⟨#[55, 49]⟩, .bool false, .string ⟨#[]⟩]] u (BoolBelow true u) := fun u hu =>
          keptF_any (f := file71) (by omega) hu.size (hr.below hu) ((haW.to hb1 hb1.size).row.below hu) HL.out
        have XF : ∀ i u, f.cells[i]? = some u → ∀ u', Below w1.heap.size w1 u' → u'.cell? ⟨w.heap.size, i, none⟩ = some u := fun i u hu u' hu' => XB.out i u hu u' (MORE hu')
        replace XB := Lib.hid XF
        clear XF ho hr hin MORE hb1 haW hmbW hmW hbig
        go_wp2_with fail
        refine (find_any (p := p) (by omega) (UI _ (Below.refl _ _))).mono ?_
        rintro e v1 ⟨rfl, hv1⟩
        generalize hga : optF (findP l p) = ga
        generalize hba : (findP l p).isSome = ba
        have hb2 := hv1.alloc hv1.size (.cells #[.string ga.path, .bool ga.exec, .string ga.text] 24)
        clear hv1
        go_wp2_with fail
        refine (rfind_any (p := p) (by omega) (UL _ hb2)).mono ?_
        rintro e v2 ⟨rfl, hv2⟩
        rw [hga, hba]
        clear hga hba
        have hA : ∀ i u, ga.cells[i]? = some u → ∀ u', Below (v1.alloc (.cells #[.string ga.path, .bool ga.exec, .string ga.text] 24)).heap.size (v1.alloc (.cells #[.string ga.path, .bool ga.exec, .string ga.text] 24)) u' → u'.cell? ⟨v1.heap.size, i, none⟩ = some u := fun i u hu u' hu' =>
          (hu'.cell (p := ⟨v1.heap.size, i, none⟩) (by show v1.heap.size < _; simp)).trans (by rw [World.cell?, heap_alloc_new]; simpa [FV.cells] using hu)
        have hb3 := hb2.trans (hv2.mono hb2.size)
        have hb4 := hb3.alloc hb3.size (.cells #[.string ga.path, .bool ga.exec, .string ga.text] 24)
        have hva := hv2.alloc hv2.size (.cells #[.string ga.path, .bool ga.exec, .string ga.text] 24)
        obtain ⟨V, hV⟩ : ∃ u, u = v2.alloc (.cells #[.string ga.path, .bool ga.exec, .string ga.text] 24) := ⟨_, rfl⟩
        rw [← hV] at hb4 hva
        have hB : ∀ i u, ga.cells[i]? = some u → ∀ u', Below V.heap.size V u' → u'.cell? ⟨v2.heap.size, i, none⟩ = some u := fun i u hu u' hu' =>
          (hu'.cell (p := ⟨v2.heap.size, i, none⟩) (by show v2.heap.size < _; rw [hV]; simp)).trans (by rw [hV, World.cell?, heap_alloc_new]; simpa [FV.cells] using hu)
        have XA : ∀ i u, ga.cells[i]? = some u → ∀ u', Below V.heap.size V u' → u'.cell? ⟨v1.heap.size, i, none⟩ = some u := fun i u hu u' hu' => hA i u hu u' (hva.trans (hu'.mono hva.size))
        replace UI : ∀ u, Below V.heap.size V u → RdF u u.heap.size (some ⟨g, 0, none⟩) n (n + 3) l := fun u hu => UI u (hb4.trans (hu.mono hb4.size))
        replace UL : ∀ u, Below V.heap.size V u → RdF u u.heap.size A n c l := fun u hu => UL u (hb4.trans (hu.mono hb4.size))
        replace UM : ∀ u, Below V.heap.size V u → RdF u u.heap.size A' n' c' m := fun u hu => UM u (hb4.trans (hu.mono hb4.size))
        replace UZ : ∀ u, Below V.heap.size V u → Lm u := fun u hu => UZ u (hb4.trans (hu.mono hb4.size))
        replace UP : ∀ u, Below V.heap.size V u → Below w.heap.size w u := fun u hu => UP u (hb4.trans (hu.mono hb4.size))
        replace UK := fun u (hu : Below V.heap.size V u) => UK u (hb4.trans (hu.mono hb4.size))
        have XF : ∀ i u, f.cells[i]? = some u → ∀ u', Below V.heap.size V u' → u'.cell? ⟨w.heap.size, i, none⟩ = some u := fun i u hu u' hu' => XB.out i u hu u' (hb4.trans (hu'.mono hb4.size))
        replace XB := Lib.hid XF
        replace hA := Lib.hid XA
        replace hB := Lib.hid hB
        clear XF XA hva hb2 hb3 hv2
        replace hV := Lib.hid hV
        have hb0 : Below V.heap.size V V := Below.refl _ _
        have x0 := XB.out 0 _ rfl V hb0
        have x1 := XB.out 1 _ rfl V hb0
        have x2 := XB.out 2 _ rfl V hb0
        rw [hV.out] at x0 x1 x2
        go_wp2_with fail
        clear x0 x1 x2
        rw [← hV.out]
        clear hb4 hV
        refine (put_any (f := f) (by omega) (UZ _ hb0) (UI _ hb0) hff).mono ?_
        rintro e v3 ⟨A3, c3, rfl, hr3, hb1⟩
        have x0 := XB.out 0 _ rfl v3 hb1
        have x1 := XB.out 1 _ rfl v3 hb1
        have x2 := XB.out 2 _ rfl v3 hb1
        go_wp2_with fail
        refine (rput_any (f := f) (by omega) (UL _ hb1) hff).mono ?_
        rintro e v4 ⟨A4, c4, rfl, hr4, hx⟩
        have hb2 := hb1.trans (hx.mono hb1.size)
        replace hr3 := hr3.to hx hx.size
        clear x0 x1 x2 hx
        go_wp2_with fail
        refine (drop_any (p := p) (by omega) (UZ _ hb2) (UI _ hb2)).mono ?_
        rintro e v5 ⟨A5, c5, rfl, hr5, hx⟩
        have hb3 := hb2.trans (hx.mono hb2.size)
        replace hr3 := hr3.to hx hx.size
        replace hr4 := hr4.to hx hx.size
        clear hx hb1 hb2
        go_wp2_with fail
        refine (rdrop_any (p := p) (by omega) (UL _ hb3)).mono ?_
        rintro e v6 ⟨A6, c6, rfl, hr6, hx⟩
        have hb4 := hb3.trans (hx.mono hb3.size)
        replace hr3 := hr3.to hx hx.size
        replace hr4 := hr4.to hx hx.size
        replace hr5 := hr5.to hx hx.size
        clear hx hb3
        have hrl := putF_len l f
        have hdl := dropF_len l p
        rw [HL.out] at hrl hdl
        generalize putF l f = r at *
        generalize dropF l p = d at *
        obtain ⟨rl, rk⟩ := r
        obtain ⟨dl, dk⟩ := d
        dsimp only at *
        go_wp2_with fail
        refine (awake_any (UZ _ hb4)).mono ?_
        rintro e v7 ⟨rfl, hx⟩
        have hb5 := hb4.trans (hx.mono hb4.size)
        replace hr3 := hr3.to hx hx.size
        replace hr4 := hr4.to hx hx.size
        replace hr5 := hr5.to hx hx.size
        replace hr6 := hr6.to hx hx.size
        clear hx hb4
        go_wp2_with fail
        refine (treeRight_any (by omega) (UZ _ hb5) (UI _ hb5)).mono ?_
        rintro e v8 ⟨rfl, hx⟩
        have hb6 := hb5.trans (hx.mono hb5.size)
        replace hr3 := hr3.to hx hx.size
        replace hr4 := hr4.to hx hx.size
        replace hr5 := hr5.to hx hx.size
        replace hr6 := hr6.to hx hx.size
        clear hx hb5
        go_wp2_with fail
        refine (rright_any (by omega) (UL _ hb6)).mono ?_
        rintro e v9 ⟨rfl, hx⟩
        have hb7 := hb6.trans (hx.mono hb6.size)
        replace hr3 := hr3.to hx hx.size
        replace hr4 := hr4.to hx hx.size
        replace hr5 := hr5.to hx hx.size
        replace hr6 := hr6.to hx hx.size
        clear hx hb6
        have a0 := hA.out 0 _ rfl v9 hb7
        have a1 := hA.out 1 _ rfl v9 hb7
        have a2 := hA.out 2 _ rfl v9 hb7
        have b0 := hB.out 0 _ rfl v9 hb7
        have b1 := hB.out 1 _ rfl v9 hb7
        have b2 := hB.out 2 _ rfl v9 hb7
        go_wp2_with fail
        clear a0 a1 a2 b0 b1 b2
        refine (plainF_any (by omega) (by omega) hr3.row hr4.row rfl rfl).mono ?_
        rintro e v10 ⟨rfl, hx⟩
        have hb8 := hb7.trans (hx.mono hb7.size)
        replace hr3 := hr3.to hx hx.size
        replace hr4 := hr4.to hx hx.size
        replace hr5 := hr5.to hx hx.size
        replace hr6 := hr6.to hx hx.size
        clear hx hb7
        rw [decide_eq_true (rfl : rl = rl)]
        go_wp2_with fail
        refine (plainF_any (by omega) (by omega) hr5.row hr6.row rfl rfl).mono ?_
        rintro e v11 ⟨rfl, hx⟩
        have hb9 := hb8.trans (hx.mono hb8.size)
        clear hx hb8
        rw [decide_eq_true (rfl : dl = dl)]
        clear hr3 hr4 hr5 hr6
        go_wp2_with fail
        refine (treeSame_any (by omega) (by omega) (UI _ hb9) (UM _ hb9)).mono ?_
        rintro e v12 ⟨rfl, hx⟩
        have hb10 := hb9.trans (hx.mono hb9.size)
        clear hx hb9
        generalize hsame : decide (l = m) = same
        go_wp2_with fail
        refine (plainF_any (by omega) (by omega) (UL _ hb10).row (UM _ hb10).row HL.out HM.out).mono ?_
        rintro e v13 ⟨rfl, hx⟩
        have hb11 := hb10.trans (hx.mono hb10.size)
        clear hx hb10
        rw [hsame]
        clear hsame
        go_wp2_with fail
        refine (UK _ hb11).mono ?_
        rintro e v14 ⟨rfl, hx⟩
        have hb12 := hb11.trans (hx.mono hb11.size)
        clear hx hb11
        go_wp2
        go_ret
        exact ⟨rfl, UP _ hb12⟩
end Go.Proofs.YtahlfafcjjkliaaDoor
