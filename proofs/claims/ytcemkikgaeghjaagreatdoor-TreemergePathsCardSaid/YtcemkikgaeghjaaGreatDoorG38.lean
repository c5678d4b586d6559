/- Texts of the walks, together: Walk: the law TreemergeTurned. A box that holds a file, from world to world. Walk: the law TreemergePaths. The world in which the tables of unicode/utf8 lie as the program lays them. -/
import Derived.Test.YtcemkikgaeghjaaGreatDoorRows
import Derived.Test.YtcemkikgaeghjaaGreatDoorCards
import Derived.Test.YtcemkikgaeghjaaGreatDoorTie
import Derived.ProofKit
import Derived.OpenShut
import Derived.Deep.DeepHandedRow
import Derived.SevenTiedAt
import Derived.Test.YtcemkikgaeghjaaGreatDoorG02
import Derived.Test.YtcemkikgaeghjaaGreatDoorG33
import Derived.Test.YtcemkikgaeghjaaGreatDoorG34
import Derived.Test.YtcemkikgaeghjaaGreatDoorG35
import Derived.Test.YtcemkikgaeghjaaGreatDoorG37
namespace Go.Proofs.YtcemkikgaeghjaaGreatDoor
open Go.RowKit

theorem renF_len0 {base side : List FV} : (renF base side).length = 0 ↔ pairsF base side = [] := by
  rw [List.length_eq_zero_iff, renF_nil]
theorem merge_small {a b c : List FV} (ha : Small a) (hb : Small b) (hc : Small c) : ∃ X P, treemergeF a b c = (X, P, 0) ∧ X.length ≤ 100 := by
  obtain ⟨e, t⟩ := treemerge_ok ha hb hc
  exact ⟨_, _, e, treeOk_len t⟩
theorem Small.texts {l : List FV} (h : Small l) : ∀ f ∈ l, f.text.size ≤ 1000000 := fun f hf => by have := h.text f hf; omega
theorem Small.rise {l : List FV} (h : Small l) : Rise l := (treeOk_iff.1 h.tree).2.2.1
theorem run_eqlB (a b : Bool) (w : World) : (binOp .eql 4 (.bool a) (.bool b)).run Tryz.prog w = .ok (.bool (decide (a = b))) w := by
  have ht : Tryz.prog.underlying 4 = some .bool := by kernel_rfl
  cases a <;> cases b <;> simp [go_sem, run_eql_bool _ 4 _ _ ht]
end Go.Proofs.YtcemkikgaeghjaaGreatDoor
namespace Go.Proofs.YtcemkikgaeghjaaGreatDoor
open Go.RowKit
def Box (g : FV) (b : Nat) (u : World) : Prop := b < u.heap.size ∧ ∀ i v, g.cells[i]? = some v → u.cell? ⟨b, i, none⟩ = some v
theorem Box.re {g : FV} {b : Nat} {u u' : World} (h : Box g b u) (hb : Below u.heap.size u u') : Box g b u' :=
  ⟨Nat.lt_of_lt_of_le h.1 hb.size, fun i v hv => (hb.cell (p := ⟨b, i, none⟩) h.1).trans (h.2 i v hv)⟩
theorem Box.new (w : World) (g : FV) : Box g w.heap.size (w.alloc (.cells #[.string g.path, .bool g.exec, .string g.text] 28)) :=
  ⟨by simp, fun i v hv => by rw [World.cell?, heap_alloc_new]; simpa [FV.cells] using hv⟩
end Go.Proofs.YtcemkikgaeghjaaGreatDoor
namespace Go.Proofs.YtcemkikgaeghjaaGreatDoor
open Go.RowKit

theorem run_neqB (a b : Bool) (w : World) : (binOp .neq 4 (.bool a) (.bool b)).run Tryz.prog w = .ok (.bool (!decide (a = b))) w := by
  have ht : Tryz.prog.underlying 4 = some .bool := by kernel_rfl
  cases a <;> cases b <;> simp [go_sem, ht]
theorem opt_ne {x y : Option FV} (h : x ≠ y) : decide (optF x = optF y) = false ∨ (decide (optF x = optF y) = true ∧ decide (x.isSome = y.isSome) = false) := by
  by_cases e : optF x = optF y
  · right
    refine ⟨decide_eq_true e, decide_eq_false fun e2 => h ?_⟩
    cases x with
    | none => cases y with
      | none => rfl
      | some b => cases e2
    | some a => cases y with
      | none => cases e2
      | some b => have : a = b := e; rw [this]
  · left; exact decide_eq_false e
theorem Box.opt (w : World) (x : Option FV) : Box (optF x) w.heap.size (w.alloc (.cells #[.string (optF x).path, .bool (optF x).exec, .string (optF x).text] 28)) := Box.new w _
set_option maxRecDepth 100000 in
set_option maxHeartbeats 16000000 in
theorem mergePaths_any {A A' A'' : Option Addr} {n c n' c' n'' c'' : Nat} {l l' l'' : List FV} {p : ByteArray} {w : World} (hn : n ≤ 17592186044416) (hn' : n' ≤ 17592186044416) (hn'' : n'' ≤ 17592186044416) (hp : p.size ≤ 140737488351232) (hm : Lm w)
    (hl : RdF w w.heap.size A n c l) (hl' : RdF w w.heap.size A' n' c' l') (hl'' : RdF w w.heap.size A'' n'' c'' l'') :
    Calls Tryz.prog 5 #[.slice A n c, .slice A' n' c', .slice A'' n'' c'', .string p] w (BoolBelow true w) := by
  have hw : Below w.heap.size w w := Below.refl _ _
  go_enter Tryz.func5, Tryz.ntmps5
  go_wp2_with fail
  refine (few14_b hn hl).mono ?_
  rintro e v1 ⟨rfl, hx⟩
  replace hw := hw.trans (hx.mono hw.size)
  replace hm := hm.below hx hm.lt
  replace hl := hl.to hx hx.size
  replace hl' := hl'.to hx hx.size
  replace hl'' := hl''.to hx hx.size
  clear hx
  cases few14 l with
  | false =>
    clear hl hl' hl''
    go_wp2_with fail
    refine (awake14_any hm).mono ?_
    rintro e v2 ⟨rfl, hx⟩
    replace hw := hw.trans (hx.mono hw.size)
    replace hm := hm.below hx hm.lt
    clear hx
    go_wp2
    go_ret
    exact ⟨rfl, hw⟩
  | true =>
    go_wp2_with fail
    refine (few14_b hn' hl').mono ?_
    rintro e v3 ⟨rfl, hx⟩
    replace hw := hw.trans (hx.mono hw.size)
    replace hm := hm.below hx hm.lt
    replace hl := hl.to hx hx.size
    replace hl' := hl'.to hx hx.size
    replace hl'' := hl''.to hx hx.size
    clear hx
    cases few14 l' with
    | false =>
      clear hl hl' hl''
      go_wp2_with fail
      refine (awake14_any hm).mono ?_
      rintro e v4 ⟨rfl, hx⟩
      replace hw := hw.trans (hx.mono hw.size)
      replace hm := hm.below hx hm.lt
      clear hx
      go_wp2
      go_ret
      exact ⟨rfl, hw⟩
    | true =>
      go_wp2_with fail
      refine (few14_b hn'' hl'').mono ?_
      rintro e v5 ⟨rfl, hx⟩
      replace hw := hw.trans (hx.mono hw.size)
      replace hm := hm.below hx hm.lt
      replace hl := hl.to hx hx.size
      replace hl' := hl'.to hx hx.size
      replace hl'' := hl''.to hx hx.size
      clear hx
      cases few14 l'' with
      | false =>
        clear hl hl' hl''
        go_wp2_with fail
        refine (awake14_any hm).mono ?_
        rintro e v6 ⟨rfl, hx⟩
        replace hw := hw.trans (hx.mono hw.size)
        replace hm := hm.below hx hm.lt
        clear hx
        go_wp2
        go_ret
        exact ⟨rfl, hw⟩
      | true =>
        go_wp2_with fail
        refine (playTree_any hn hl).mono ?_
        rintro e v7 ⟨A1, c1, a, rfl, ea, hra, hx⟩
        replace hw := hw.trans (hx.mono hw.size)
        replace hm := hm.below hx hm.lt
        replace hl' := hl'.to hx hx.size
        replace hl'' := hl''.to hx hx.size
        clear hx
        have sa : Small a := by rw [ea]; exact play_small l
        clear ea hl
        go_wp2_with fail
        refine (playTree_any hn' hl').mono ?_
        rintro e v8 ⟨A2, c2, b, rfl, eb, hrb, hx⟩
        replace hw := hw.trans (hx.mono hw.size)
        replace hm := hm.below hx hm.lt
        replace hra := hra.to hx hx.size
        replace hl'' := hl''.to hx hx.size
        clear hx
        have sb : Small b := by rw [eb]; exact play_small l'
        clear eb hl'
        go_wp2_with fail
        refine (playTree_any hn'' hl'').mono ?_
        rintro e v9 ⟨A3, c3, t, rfl, et, hrt, hx⟩
        replace hw := hw.trans (hx.mono hw.size)
        replace hm := hm.below hx hm.lt
        replace hra := hra.to hx hx.size
        replace hrb := hrb.to hx hx.size
        clear hx
        have st : Small t := by rw [et]; exact play_small l''
        clear et hl''
        have la := sa.len
        have lb := sb.len
        have lt := st.len
        obtain ⟨X1, P1, E1, lX1⟩ := merge_small sa sb st
        have TX := Lib.hid (show treeOk X1 = true by have := (treemerge_ok sa sb st).2; have e := (treemerge_ok sa sb st).1; rw [E1] at e; injection e with e; rw [e]; exact this)
        have HT := Lib.hid (fun (h1 : pairsF a b = []) (h2 : pairsF a t = []) (h3 : (treemergeF a b t).2.1 = []) (p : ByteArray) => treemerge_paths sa sb st h1 h2 h3 p)
        rw [E1] at HT
        go_wp2_with fail
        have K := mergeT_any hm (by omega) (by omega) (by omega) hra hrb hrt
        rw [E1] at K
        refine (K).mono ?_
        rintro e v10 ⟨B1, C1, e1, d1, rfl, hx1, hc1, hx⟩
        replace hw := hw.trans (hx.mono hw.size)
        replace hm := hm.below hx hm.lt
        replace hra := hra.to hx hx.size
        replace hrb := hrb.to hx hx.size
        replace hrt := hrt.to hx hx.size
        clear hx
        replace hx1 : RdF v10 v10.heap.size B1 X1.length e1 X1 := hx1
        clear hc1 K
        dsimp only
        clear E1
        go_wp2_with fail
        refine (awake14_any hm).mono ?_
        rintro e v11 ⟨rfl, hx⟩
        replace hw := hw.trans (hx.mono hw.size)
        replace hm := hm.below hx hm.lt
        replace hra := hra.to hx hx.size
        replace hrb := hrb.to hx hx.size
        replace hrt := hrt.to hx hx.size
        replace hx1 := hx1.to hx hx.size
        clear hx
        have N1 := Lib.hid (renF_len0 (base := a) (side := b))
        have N2 := Lib.hid (renF_len0 (base := a) (side := t))
        have N3 := Lib.hid (List.length_eq_zero_iff (l := P1))
        have R1 : (renF a b).length ≤ 30 := Nat.le_trans (renL_len _ _ _ _) la
        have R2 : (renF a t).length ≤ 30 := Nat.le_trans (renL_len _ _ _ _) la
        generalize hz1 : P1.length = z1 at *
        by_cases hz0 : z1 = 0
        case neg =>
          clear HT N1 N2 N3 hz1 hra hrb hrt hx1
          go_wp2
          go_ret
          exact ⟨rfl, hw⟩
        case pos =>
          have NP := Lib.hid (N3.out.1 hz0)
          subst hz0
          clear N3 hz1
          go_wp2_with fail
          have K := rrenames_any (by omega) (by omega) hra hrb sa.texts sb.texts sa.rise
          refine (K).mono ?_
          rintro e v12 ⟨v, rfl, ov, hx⟩
          replace hw := hw.trans (hx.mono hw.size)
          replace hm := hm.below hx hm.lt
          replace hra := hra.to hx hx.size
          replace hrb := hrb.to hx hx.size
          replace hrt := hrt.to hx hx.size
          replace hx1 := hx1.to hx hx.size
          clear hx
          obtain ⟨F1, g1, rfl, _⟩ := ownsRow_cap ov
          clear ov K
          generalize (renF a b).length = r1 at *
          by_cases hr1 : r1 = 0
          case neg =>
            clear HT N1 N2 NP hra hrb hrt hx1
            go_wp2
            go_ret
            exact ⟨rfl, hw⟩
          case pos =>
            have NB := Lib.hid (N1.out.1 hr1)
            subst hr1
            clear N1 R1
            go_wp2_with fail
            have K := rrenames_any (by omega) (by omega) hra hrt sa.texts st.texts sa.rise
            refine (K).mono ?_
            rintro e v13 ⟨v, rfl, ov, hx⟩
            replace hw := hw.trans (hx.mono hw.size)
            replace hm := hm.below hx hm.lt
            replace hra := hra.to hx hx.size
            replace hrb := hrb.to hx hx.size
            replace hrt := hrt.to hx hx.size
            replace hx1 := hx1.to hx hx.size
            clear hx
            obtain ⟨F2, g2, rfl, _⟩ := ownsRow_cap ov
            clear ov K
            generalize (renF a t).length = r2 at *
            by_cases hr2 : r2 = 0
            case neg =>
              clear HT N2 NP NB hra hrb hrt hx1
              go_wp2
              go_ret
              exact ⟨rfl, hw⟩
            case pos =>
              have HQ := Lib.hid (HT.out NB.out (N2.out.1 hr2) NP.out)
              subst hr2
              clear N2 R2 HT NB NP
              have hnA := Lib.hid hra
              have hnB := Lib.hid hrb
              have hnT := Lib.hid hrt
              have hnX := Lib.hid hx1
              have HW := Lib.hid hw
              have HM := Lib.hid hm
              have LA := hra.len
              have LB := hrb.len
              have LT := hrt.len
              have GA := Lib.hid hra.fits
              have GB := Lib.hid hrb.fits
              have GT := Lib.hid hrt.fits
              clear hra hrb hrt hx1 hw hm sa sb st
              go_wp2_with first
                | (at_builtin; refine wpl_append rfl _ (.tmp 73) 22 rfl E_files (base := v13.heap.size) (n := 0) (xs := []) rfl rfl (World.ownsRow_nil _ _ _ _) hnA.out.row (one_files _) (by unfold maxLen; omega) (by omega) (Nat.le_refl _) ?_; intro q1 u1 o1 g1 _; have O1 := Lib.hid o1; have U1 := Lib.hid ((Below.refl v13.heap.size v13).grown g1 (Nat.le_refl _) (fun g hg => by cases hg)); clear o1 g1)
                | (at_builtin; refine wpl_append rfl (.tmp 74) (.tmp 75) 22 rfl E_files (base := v13.heap.size) rfl rfl O1.out (hnB.out.to U1.out U1.out.size).row (one_files _) (by unfold maxLen; omega) (by omega) U1.out.size ?_; intro q2 u2 o2 g2 _; have O2 := Lib.hid o2; have U2 := Lib.hid (U1.out.grown g2 U1.out.size (fun g hg => (O1.out.lt g hg).1)); clear o2 g2)
                | (at_builtin; refine wpl_append rfl (.tmp 76) (.tmp 77) 22 rfl E_files (base := v13.heap.size) rfl rfl O2.out (hnT.out.to U2.out U2.out.size).row (one_files _) (by unfold maxLen; omega) (by omega) U2.out.size ?_; intro q3 u3 o3 g3 _; have O3 := Lib.hid (o3.alloc (.cells #[.string p, .bool false, .string ⟨#[]⟩] 28)); have U3 := Lib.hid ((U2.out.grown g3 U2.out.size (fun g hg => (O2.out.lt g hg).1)).alloc (U2.out.grown g3 U2.out.size (fun g hg => (O2.out.lt g hg).1)).size (.cells #[.string p, .bool false, .string ⟨#[]⟩] 28)); have HLI := Lib.hid (rd_litF u3 ⟨p, false, ⟨#[]⟩⟩); clear o3 g3)
                | (at_builtin; refine wpl_append rfl (.tmp 79) (.tmp 82) 22 rfl E_files (base := v13.heap.size) rfl rfl O3.out HLI.out (one_files _) (by unfold maxLen; omega) (by omega) U3.out.size ?_; intro q4 u4 o4 g4 _; have O4 := Lib.hid o4; have U4 := Lib.hid (U3.out.grown g4 U3.out.size (fun g hg => (O3.out.lt g hg).1)); clear o4 g4)
              obtain ⟨QA, cQ, rfl, hcQ⟩ := ownsRow_cap O4.out
              have HRQ : Hid (RdF u4 u4.heap.size QA (0 + a.length + b.length + t.length + 1) cQ (a ++ b ++ t ++ [⟨p, false, ⟨#[]⟩⟩])) := by
                refine ⟨?_, by simp; omega, fun x hx => ?_⟩
                · have h := Rd.of_own O4.out hcQ
                  rw [List.nil_append, ← List.flatMap_append, ← List.flatMap_append, ← List.flatMap_append] at h
                  exact h
                · simp only [List.mem_append, List.mem_singleton] at hx
                  rcases hx with ((hx | hx) | hx) | rfl
                  · exact GA.out x hx
                  · exact GB.out x hx
                  · exact GT.out x hx
                  · exact ⟨hp, by show 0 ≤ _; omega⟩
              generalize a ++ b ++ t ++ [⟨p, false, ⟨#[]⟩⟩] = QL at *
              have hNQ : 0 + a.length + b.length + t.length + 1 ≤ 1000 := by omega
              generalize 0 + a.length + b.length + t.length + 1 = NQ at *
              replace hnA := Lib.hid (hnA.out.to U4.out U4.out.size)
              replace hnB := Lib.hid (hnB.out.to U4.out U4.out.size)
              replace hnT := Lib.hid (hnT.out.to U4.out U4.out.size)
              replace hnX := Lib.hid (hnX.out.to U4.out U4.out.size)
              have HWU := Lib.hid (HW.out.trans (U4.out.mono HW.out.size))
              have HMU := Lib.hid (HM.out.below U4.out HM.out.lt)
              clear O1 O2 O3 O4 U1 U2 U3 U4 HLI hcQ GA GB GT HW HM LA LB LT
              go_loopw [13] (fun iv wr => ∃ k : Nat, k ≤ NQ ∧ iv = .int .i64 k ∧ Hid (Below u4.heap.size u4 wr)) (fun iv _ => NQ - (intOf iv).toNat)
              case atStart => exact ⟨0, Nat.zero_le _, rfl, Lib.hid (Below.refl _ _)⟩
              case round =>
                obtain ⟨k, hk, rfl, HB0⟩ := hrel
                by_cases hlt : k < NQ
                case pos =>
                  obtain ⟨b0, o0, f, rfl, hbb, hx, hmem, h0, _, _⟩ := HRQ.out.get hlt
                  have H0 := Lib.hid h0
                  obtain ⟨F1, F2, F3⟩ := HQ.out f.path
                  have KA := Lib.hid (fun (u : World) (hu : Below u4.heap.size u4 u) => rfind_any (p := f.path) (by omega) (hnA.out.to hu hu.size))
                  have KB := Lib.hid (fun (u : World) (hu : Below u4.heap.size u4 u) => rfind_any (p := f.path) (by omega) (hnB.out.to hu hu.size))
                  have KT := Lib.hid (fun (u : World) (hu : Below u4.heap.size u4 u) => rfind_any (p := f.path) (by omega) (hnT.out.to hu hu.size))
                  have KX := Lib.hid (fun (u : World) (hu : Below u4.heap.size u4 u) => rfind_any (p := f.path) (by omega) (hnX.out.to hu hu.size))
                  clear h0 hx hmem
                  generalize findP a f.path = U at *
                  generalize findP b f.path = O at *
                  generalize findP t f.path = T at *
                  generalize findP X1 f.path = X at *
                  have HF1 := Lib.hid F1
                  have HF2 := Lib.hid F2
                  have HF3 := Lib.hid F3
                  clear F1 F2 F3
                  generalize f.path = fp at *
                  have h0 := (HB0.out.cell (p := ⟨b0, o0 + k * 3, none⟩) hbb).trans H0.out
                  have K := KA.out wr HB0.out
                  go_wp2_with fail
                  refine K.mono ?_
                  rintro e x1 ⟨rfl, hx⟩
                  obtain ⟨V1, hV1⟩ : ∃ u, u = x1.alloc (.cells #[.string (optF U).path, .bool (optF U).exec, .string (optF U).text] 28) := ⟨_, rfl⟩
                  have hy : Below x1.heap.size x1 V1 := by rw [hV1]; exact (Below.refl _ _).alloc (Nat.le_refl _) _
                  have hz := hx.trans (hy.mono hx.size)
                  have HB1 := Lib.hid (HB0.out.trans (hz.mono HB0.out.size))
                  have B1x : Box (optF U) x1.heap.size V1 := by rw [hV1]; exact Box.opt _ _
                  replace hV1 := Lib.hid hV1
                  clear hx hy hz K h0 HB0
                  have h0 := (HB1.out.cell (p := ⟨b0, o0 + k * 3, none⟩) hbb).trans H0.out
                  have K := KB.out V1 HB1.out
                  rw [hV1.out] at h0
                  go_wp2_with fail
                  rw [← hV1.out]
                  clear hV1
                  refine K.mono ?_
                  rintro e x2 ⟨rfl, hx⟩
                  obtain ⟨V2, hV2⟩ : ∃ u, u = x2.alloc (.cells #[.string (optF O).path, .bool (optF O).exec, .string (optF O).text] 28) := ⟨_, rfl⟩
                  have hy : Below x2.heap.size x2 V2 := by rw [hV2]; exact (Below.refl _ _).alloc (Nat.le_refl _) _
                  have hz := hx.trans (hy.mono hx.size)
                  have HB2 := Lib.hid (HB1.out.trans (hz.mono HB1.out.size))
                  replace B1x := B1x.re hz
                  have B2x : Box (optF O) x2.heap.size V2 := by rw [hV2]; exact Box.opt _ _
                  replace hV2 := Lib.hid hV2
                  clear hx hy hz K h0 HB1
                  have h0 := (HB2.out.cell (p := ⟨b0, o0 + k * 3, none⟩) hbb).trans H0.out
                  have K := KT.out V2 HB2.out
                  rw [hV2.out] at h0
                  go_wp2_with fail
                  rw [← hV2.out]
                  clear hV2
                  refine K.mono ?_
                  rintro e x3 ⟨rfl, hx⟩
                  obtain ⟨V3, hV3⟩ : ∃ u, u = x3.alloc (.cells #[.string (optF T).path, .bool (optF T).exec, .string (optF T).text] 28) := ⟨_, rfl⟩
                  have hy : Below x3.heap.size x3 V3 := by rw [hV3]; exact (Below.refl _ _).alloc (Nat.le_refl _) _
                  have hz := hx.trans (hy.mono hx.size)
                  have HB3 := Lib.hid (HB2.out.trans (hz.mono HB2.out.size))
                  replace B1x := B1x.re hz
                  replace B2x := B2x.re hz
                  have B3x : Box (optF T) x3.heap.size V3 := by rw [hV3]; exact Box.opt _ _
                  replace hV3 := Lib.hid hV3
                  clear hx hy hz K h0 HB2
                  have h0 := (HB3.out.cell (p := ⟨b0, o0 + k * 3, none⟩) hbb).trans H0.out
                  have K := KX.out V3 HB3.out
                  rw [hV3.out] at h0
                  go_wp2_with fail
                  rw [← hV3.out]
                  clear hV3
                  refine K.mono ?_
                  rintro e x4 ⟨rfl, hx⟩
                  obtain ⟨V4, hV4⟩ : ∃ u, u = x4.alloc (.cells #[.string (optF X).path, .bool (optF X).exec, .string (optF X).text] 28) := ⟨_, rfl⟩
                  have hy : Below x4.heap.size x4 V4 := by rw [hV4]; exact (Below.refl _ _).alloc (Nat.le_refl _) _
                  have hz := hx.trans (hy.mono hx.size)
                  have HB4 := Lib.hid (HB3.out.trans (hz.mono HB3.out.size))
                  replace B1x := B1x.re hz
                  replace B2x := B2x.re hz
                  replace B3x := B3x.re hz
                  have B4x : Box (optF X) x4.heap.size V4 := by rw [hV4]; exact Box.opt _ _
                  replace hV4 := Lib.hid hV4
                  clear hx hy hz K h0 HB3
                  have hV := hV4.out
                  clear hV4
                  subst hV
                  have c10 := B1x.2 0 _ rfl
                  have c11 := B1x.2 1 _ rfl
                  have c12 := B1x.2 2 _ rfl
                  have c20 := B2x.2 0 _ rfl
                  have c21 := B2x.2 1 _ rfl
                  have c22 := B2x.2 2 _ rfl
                  have c30 := B3x.2 0 _ rfl
                  have c31 := B3x.2 1 _ rfl
                  have c32 := B3x.2 2 _ rfl
                  have c40 := B4x.2 0 _ rfl
                  have c41 := B4x.2 1 _ rfl
                  have c42 := B4x.2 2 _ rfl
                  clear B1x B2x B3x B4x H0 HWU HMU HRQ KA KB KT KX hnA hnB hnT hnX HQ
                  by_cases h0 : U = O
                  case pos =>
                    have hz := HF1.out h0
                    have q1 := fun u => (run_eqlF (optF U) (optF O) u).trans (show _ = Result.ok (Value.bool true) u by rw [h0, decide_eq_true rfl])
                    have q2 := fun u => (run_eqlB U.isSome O.isSome u).trans (show _ = Result.ok (Value.bool true) u by rw [h0, decide_eq_true rfl])
                    have q3 := fun u => (run_neqF (optF X) (optF T) u).trans (show _ = Result.ok (Value.bool false) u by rw [hz, decide_eq_true rfl]; rfl)
                    have q4 := fun u => (run_neqB X.isSome T.isSome u).trans (show _ = Result.ok (Value.bool false) u by rw [hz, decide_eq_true rfl]; rfl)
                    clear hz h0
                    clear HF1 HF2 HF3
                    go_wp2
                    go_roundw
                    case rel => exact ⟨k + 1, by omega, by go_num, HB4⟩
                    case measure => simp [intOf]; omega
                  case neg =>
                    rcases opt_ne h0 with hq | ⟨hq, hq2⟩
                    ·
                      have p0 := fun u => (run_eqlF (optF U) (optF O) u).trans (show _ = Result.ok (Value.bool false) u by rw [hq])
                      clear hq
                      by_cases h1 : U = T
                      case pos =>
                        have hz := HF2.out h1
                        have q1 := fun u => (run_eqlF (optF U) (optF T) u).trans (show _ = Result.ok (Value.bool true) u by rw [h1, decide_eq_true rfl])
                        have q2 := fun u => (run_eqlB U.isSome T.isSome u).trans (show _ = Result.ok (Value.bool true) u by rw [h1, decide_eq_true rfl])
                        have q3 := fun u => (run_neqF (optF X) (optF O) u).trans (show _ = Result.ok (Value.bool false) u by rw [hz, decide_eq_true rfl]; rfl)
                        have q4 := fun u => (run_neqB X.isSome O.isSome u).trans (show _ = Result.ok (Value.bool false) u by rw [hz, decide_eq_true rfl]; rfl)
                        clear hz h0 h1
                        clear HF1 HF2 HF3
                        go_wp2
                        go_roundw
                        case rel => exact ⟨k + 1, by omega, by go_num, HB4⟩
                        case measure => simp [intOf]; omega
                      case neg =>
                        rcases opt_ne h1 with hq | ⟨hq, hq2⟩
                        ·
                          have p1 := fun u => (run_eqlF (optF U) (optF T) u).trans (show _ = Result.ok (Value.bool false) u by rw [hq])
                          clear hq
                          by_cases h2 : O = T
                          case pos =>
                            have hz := HF3.out h2
                            have q1 := fun u => (run_eqlF (optF O) (optF T) u).trans (show _ = Result.ok (Value.bool true) u by rw [h2, decide_eq_true rfl])
                            have q2 := fun u => (run_eqlB O.isSome T.isSome u).trans (show _ = Result.ok (Value.bool true) u by rw [h2, decide_eq_true rfl])
                            have q3 := fun u => (run_neqF (optF X) (optF O) u).trans (show _ = Result.ok (Value.bool false) u by rw [hz, decide_eq_true rfl]; rfl)
                            have q4 := fun u => (run_neqB X.isSome O.isSome u).trans (show _ = Result.ok (Value.bool false) u by rw [hz, decide_eq_true rfl]; rfl)
                            clear hz h0 h1 h2
                            clear HF1 HF2 HF3
                            go_wp2
                            go_roundw
                            case rel => exact ⟨k + 1, by omega, by go_num, HB4⟩
                            case measure => simp [intOf]; omega
                          case neg =>
                            rcases opt_ne h2 with hq | ⟨hq, hq2⟩
                            ·
                              have p2 := fun u => (run_eqlF (optF O) (optF T) u).trans (show _ = Result.ok (Value.bool false) u by rw [hq])
                              clear hq
                              clear h0 h1 h2
                              clear HF1 HF2 HF3
                              go_wp2
                              go_roundw
                              case rel => exact ⟨k + 1, by omega, by go_num, HB4⟩
                              case measure => simp [intOf]; omega
                            ·
                              have p2 := fun u => (run_eqlF (optF O) (optF T) u).trans (show _ = Result.ok (Value.bool true) u by rw [hq])
                              have r2 := fun u => (run_eqlB O.isSome T.isSome u).trans (show _ = Result.ok (Value.bool false) u by rw [hq2])
                              clear hq hq2
                              clear h0 h1 h2
                              clear HF1 HF2 HF3
                              go_wp2
                              go_roundw
                              case rel => exact ⟨k + 1, by omega, by go_num, HB4⟩
                              case measure => simp [intOf]; omega
                        ·
                          have p1 := fun u => (run_eqlF (optF U) (optF T) u).trans (show _ = Result.ok (Value.bool true) u by rw [hq])
                          have r1 := fun u => (run_eqlB U.isSome T.isSome u).trans (show _ = Result.ok (Value.bool false) u by rw [hq2])
                          clear hq hq2
                          by_cases h2 : O = T
                          case pos =>
                            have hz := HF3.out h2
                            have q1 := fun u => (run_eqlF (optF O) (optF T) u).trans (show _ = Result.ok (Value.bool true) u by rw [h2, decide_eq_true rfl])
                            have q2 := fun u => (run_eqlB O.isSome T.isSome u).trans (show _ = Result.ok (Value.bool true) u by rw [h2, decide_eq_true rfl])
                            have q3 := fun u => (run_neqF (optF X) (optF O) u).trans (show _ = Result.ok (Value.bool false) u by rw [hz, decide_eq_true rfl]; rfl)
                            have q4 := fun u => (run_neqB X.isSome O.isSome u).trans (show _ = Result.ok (Value.bool false) u by rw [hz, decide_eq_true rfl]; rfl)
                            clear hz h0 h1 h2
                            clear HF1 HF2 HF3
                            go_wp2
                            go_roundw
                            case rel => exact ⟨k + 1, by omega, by go_num, HB4⟩
                            case measure => simp [intOf]; omega
                          case neg =>
                            rcases opt_ne h2 with hq | ⟨hq, hq2⟩
                            ·
                              have p2 := fun u => (run_eqlF (optF O) (optF T) u).trans (show _ = Result.ok (Value.bool false) u by rw [hq])
                              clear hq
                              clear h0 h1 h2
                              clear HF1 HF2 HF3
                              go_wp2
                              go_roundw
                              case rel => exact ⟨k + 1, by omega, by go_num, HB4⟩
                              case measure => simp [intOf]; omega
                            ·
                              have p2 := fun u => (run_eqlF (optF O) (optF T) u).trans (show _ = Result.ok (Value.bool true) u by rw [hq])
                              have r2 := fun u => (run_eqlB O.isSome T.isSome u).trans (show _ = Result.ok (Value.bool false) u by rw [hq2])
                              clear hq hq2
                              clear h0 h1 h2
                              clear HF1 HF2 HF3
                              go_wp2
                              go_roundw
                              case rel => exact ⟨k + 1, by omega, by go_num, HB4⟩
                              case measure => simp [intOf]; omega
                    ·
                      have p0 := fun u => (run_eqlF (optF U) (optF O) u).trans (show _ = Result.ok (Value.bool true) u by rw [hq])
                      have r0 := fun u => (run_eqlB U.isSome O.isSome u).trans (show _ = Result.ok (Value.bool false) u by rw [hq2])
                      clear hq hq2
                      by_cases h1 : U = T
                      case pos =>
                        have hz := HF2.out h1
                        have q1 := fun u => (run_eqlF (optF U) (optF T) u).trans (show _ = Result.ok (Value.bool true) u by rw [h1, decide_eq_true rfl])
                        have q2 := fun u => (run_eqlB U.isSome T.isSome u).trans (show _ = Result.ok (Value.bool true) u by rw [h1, decide_eq_true rfl])
                        have q3 := fun u => (run_neqF (optF X) (optF O) u).trans (show _ = Result.ok (Value.bool false) u by rw [hz, decide_eq_true rfl]; rfl)
                        have q4 := fun u => (run_neqB X.isSome O.isSome u).trans (show _ = Result.ok (Value.bool false) u by rw [hz, decide_eq_true rfl]; rfl)
                        clear hz h0 h1
                        clear HF1 HF2 HF3
                        go_wp2
                        go_roundw
                        case rel => exact ⟨k + 1, by omega, by go_num, HB4⟩
                        case measure => simp [intOf]; omega
                      case neg =>
                        rcases opt_ne h1 with hq | ⟨hq, hq2⟩
                        ·
                          have p1 := fun u => (run_eqlF (optF U) (optF T) u).trans (show _ = Result.ok (Value.bool false) u by rw [hq])
                          clear hq
                          by_cases h2 : O = T
                          case pos =>
                            have hz := HF3.out h2
                            have q1 := fun u => (run_eqlF (optF O) (optF T) u).trans (show _ = Result.ok (Value.bool true) u by rw [h2, decide_eq_true rfl])
                            have q2 := fun u => (run_eqlB O.isSome T.isSome u).trans (show _ = Result.ok (Value.bool true) u by rw [h2, decide_eq_true rfl])
                            have q3 := fun u => (run_neqF (optF X) (optF O) u).trans (show _ = Result.ok (Value.bool false) u by rw [hz, decide_eq_true rfl]; rfl)
                            have q4 := fun u => (run_neqB X.isSome O.isSome u).trans (show _ = Result.ok (Value.bool false) u by rw [hz, decide_eq_true rfl]; rfl)
                            clear hz h0 h1 h2
                            clear HF1 HF2 HF3
                            go_wp2
                            go_roundw
                            case rel => exact ⟨k + 1, by omega, by go_num, HB4⟩
                            case measure => simp [intOf]; omega
                          case neg =>
                            rcases opt_ne h2 with hq | ⟨hq, hq2⟩
                            ·
                              have p2 := fun u => (run_eqlF (optF O) (optF T) u).trans (show _ = Result.ok (Value.bool false) u by rw [hq])
                              clear hq
                              clear h0 h1 h2
                              clear HF1 HF2 HF3
                              go_wp2
                              go_roundw
                              case rel => exact ⟨k + 1, by omega, by go_num, HB4⟩
                              case measure => simp [intOf]; omega
                            ·
                              have p2 := fun u => (run_eqlF (optF O) (optF T) u).trans (show _ = Result.ok (Value.bool true) u by rw [hq])
                              have r2 := fun u => (run_eqlB O.isSome T.isSome u).trans (show _ = Result.ok (Value.bool false) u by rw [hq2])
                              clear hq hq2
                              clear h0 h1 h2
                              clear HF1 HF2 HF3
                              go_wp2
                              go_roundw
                              case rel => exact ⟨k + 1, by omega, by go_num, HB4⟩
                              case measure => simp [intOf]; omega
                        ·
                          have p1 := fun u => (run_eqlF (optF U) (optF T) u).trans (show _ = Result.ok (Value.bool true) u by rw [hq])
                          have r1 := fun u => (run_eqlB U.isSome T.isSome u).trans (show _ = Result.ok (Value.bool false) u by rw [hq2])
                          clear hq hq2
                          by_cases h2 : O = T
                          case pos =>
                            have hz := HF3.out h2
                            have q1 := fun u => (run_eqlF (optF O) (optF T) u).trans (show _ = Result.ok (Value.bool true) u by rw [h2, decide_eq_true rfl])
                            have q2 := fun u => (run_eqlB O.isSome T.isSome u).trans (show _ = Result.ok (Value.bool true) u by rw [h2, decide_eq_true rfl])
                            have q3 := fun u => (run_neqF (optF X) (optF O) u).trans (show _ = Result.ok (Value.bool false) u by rw [hz, decide_eq_true rfl]; rfl)
                            have q4 := fun u => (run_neqB X.isSome O.isSome u).trans (show _ = Result.ok (Value.bool false) u by rw [hz, decide_eq_true rfl]; rfl)
                            clear hz h0 h1 h2
                            clear HF1 HF2 HF3
                            go_wp2
                            go_roundw
                            case rel => exact ⟨k + 1, by omega, by go_num, HB4⟩
                            case measure => simp [intOf]; omega
                          case neg =>
                            rcases opt_ne h2 with hq | ⟨hq, hq2⟩
                            ·
                              have p2 := fun u => (run_eqlF (optF O) (optF T) u).trans (show _ = Result.ok (Value.bool false) u by rw [hq])
                              clear hq
                              clear h0 h1 h2
                              clear HF1 HF2 HF3
                              go_wp2
                              go_roundw
                              case rel => exact ⟨k + 1, by omega, by go_num, HB4⟩
                              case measure => simp [intOf]; omega
                            ·
                              have p2 := fun u => (run_eqlF (optF O) (optF T) u).trans (show _ = Result.ok (Value.bool true) u by rw [hq])
                              have r2 := fun u => (run_eqlB O.isSome T.isSome u).trans (show _ = Result.ok (Value.bool false) u by rw [hq2])
                              clear hq hq2
                              clear h0 h1 h2
                              clear HF1 HF2 HF3
                              go_wp2
                              go_roundw
                              case rel => exact ⟨k + 1, by omega, by go_num, HB4⟩
                              case measure => simp [intOf]; omega
                case neg =>
                  obtain rfl : k = NQ := by omega
                  have K := rright_any (by omega) (hnX.out.to HB0.out HB0.out.size)
                  rw [TX.out] at K
                  go_wp2_with fail
                  refine K.mono ?_
                  rintro e y ⟨rfl, hy⟩
                  have HE := Lib.hid ((HWU.out.trans (HB0.out.mono HWU.out.size)).trans (hy.mono (HWU.out.trans (HB0.out.mono HWU.out.size)).size))
                  clear K hy
                  go_wp2
                  go_ret
                  exact ⟨rfl, HE.out⟩
end Go.Proofs.YtcemkikgaeghjaaGreatDoor
namespace Go.Proofs.YtcemkikgaeghjaaGreatDoor
open Go.ChangeShapes Go.WideShapes Go.ChangeAt Go.RowKit

def uAcc : List Int := [128, 191, 160, 191, 128, 159, 144, 191, 128, 143, 0, 0, 0, 0, 0, 0, 0, 0, 0, 0, 0, 0, 0, 0, 0, 0, 0, 0, 0, 0, 0, 0]
def T.cellsOf (cs : List Value) : Obj → Obj
  | .cells _ t frozen => .cells cs.toArray t frozen
  | o => o
def uFirst : List Value := Go.Pinned.utf8FirstZ.map fun (z : Nat) => Value.int .u8 (Int.ofNat z)
noncomputable def laidU (os : Os) : World :=
  { World.holding Tryz.prog os ⟨#[], #[], []⟩ with heap := ((World.holding Tryz.prog os ⟨#[], #[], []⟩).heap.modify 1 (T.cellsOf uFirst)).modify 2 (T.cellsOf (uAcc.map fun z => .int .u8 z)) }
end Go.Proofs.YtcemkikgaeghjaaGreatDoor
