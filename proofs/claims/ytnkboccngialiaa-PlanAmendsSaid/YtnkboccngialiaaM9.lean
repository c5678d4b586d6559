/- Walks: marker.Final. -/
import Derived.Test.YtnkboccngialiaaM8
namespace Go.Proofs.Ytnkboccngialiaa
open Go.RowKit Go.Maps

theorem obs_lit (ms : List MV) (x : Int) (done : List Int) : (done ++ [x]).filter (fun x => !obs ms x) = done.filter (fun x => !obs ms x) ++ (if obs ms x = true then [] else [x]) := by
  rw [List.filter_append]
  cases h : obs ms x <;> simp [h]
theorem i64_univ {ms : List MV} {i x : Int} (hi : I64 i) (hm : ∀ m ∈ ms, ∀ x ∈ m.new, I64 x) (h : x ∈ univ ms i) : I64 x := by
  unfold univ at h
  rcases List.mem_cons.1 h with rfl | h
  · exact hi
  · obtain ⟨m, hm', hx⟩ := List.mem_flatMap.1 h
    exact hm m hm' x hx
/-- What a round of Final keeps. -/
structure FinSt (w1 wr : World) (base a f : Nat) (ms : List MV) (i : Int) (todoV : Value) (done todo : List Int) (Da Df : DataW Value) : Prop where
  below : Below w1.heap.size w1 wr
  inv : FinInv ms i done todo
  all : SetIs wr a (done ++ todo) Da
  fin : SetIs wr f (done.filter fun x => !obs ms x) Df
  row : wr.ownsRow base 3 1 todoV todo.length (todo.map (.int .i64))
  sz : base ≤ wr.heap.size
structure FinMd (w1 wr : World) (base a f : Nat) (ms : List MV) (i : Int) (todoV : Value) (done : List Int) (k : Int) (t : Nat) (todo : List Int) (Da Df : DataW Value) : Prop where
  below : Below w1.heap.size w1 wr
  inv : FinMid ms i done k t todo
  all : SetIs wr a ((done ++ [k]) ++ todo) Da
  fin : SetIs wr f ((done ++ [k]).filter fun x => !obs ms x) Df
  row : wr.ownsRow base 3 1 todoV todo.length (todo.map (.int .i64))
  sz : base ≤ wr.heap.size

theorem Mp.look {w : World} {base b : Nat} {ms : List MV} {F : Int → Value} {D : DataW Value} (h : Mp w base b ms F D) {x : Int} (hx : I64 x) :
    (Instr.lookup 55 (.map (some b)) (.agg #[.int .i64 x]) true).run Try.prog w = .ok (.tuple #[F x, .bool (obs ms x)]) w := by
  obtain ⟨v, ps, hrun, hv⟩ := h.own.look_ok K60 Try.underlying55 (Try.zeroValue28 w) (zd := .held (.slice none 0 0)) (zp := []) rfl (key60 hx)
  rw [h.has x hx] at hrun
  rw [h.at_ x hx] at hv
  simp only [Rv, Option.some.injEq, Prod.mk.injEq] at hv
  rw [held_inj hv.1] at hrun
  exact hrun
theorem grown_none {w w' : World} {B : Nat} (h : Below B w w') (hB : w.heap.size ≤ B) : w.grownBy w' none := ⟨h.os, h.tape, h.output, h.size, fun k hk _ => h.block k (by omega)⟩

set_option maxRecDepth 100000 in
set_option maxHeartbeats 8000000 in
theorem final_any {A : Option Addr} {n c : Nat} {ms : List MV} {i : Int} {w : World} (hn : n ≤ maxLen) (h : RdM w w.heap.size A n c ms) (hf : fewM ms = true) (hi : I64 i) :
    Calls Try.prog 19 #[.slice A n c, .int .i64 i] w (Ints (FinalIs ms i) w) := by
  have HF := Lib.hid hf
  have hU : ∀ x ∈ univ ms i, I64 x := fun x hx => i64_univ hi (fun m hm => (h.parts m hm).2.2.2) hx
  have hmm := @run_makeMap Try.prog
  go_enter Try.func19, Try.ntmps19
  go_wp2_with (go_at_call 44; refine (made_any hn h hf).mono ?_; rintro e w1 ⟨F, D, rfl, hM, hb1⟩; obtain ⟨w2, hrunI, hown2, hg2⟩ := (SetIs.start w1).own.update K3 Try.underlying57 (by decide) (key3 hi) (bool_elem true))
  have hS2 := (SetIs.start w1).put (L' := [i]) hi hown2 (by simp) rfl
  have hb2 : Below w1.heap.size w1 w2 := ((Below.refl _ w1).alloc (Nat.le_refl _) _).grown hg2 (by simp) (fun g hg => by injection hg with hg; omega)
  have hsz2 := hg2.size
  have hS3 := hS2.kept (World.grownBy_alloc w2 (.map #[] 0) none) (by simp)
  have hF3 := SetIs.start w2
  have hb3 := hb2.alloc hb2.size (.map #[] 0)
  have hsz3 : (w2.alloc (.map #[] 0)).heap.size = w2.heap.size + 1 := by simp
  generalize hw3 : w2.alloc (.map #[] 0) = w3 at *
  have HW3 := Lib.hid hw3
  clear hw3 hmm
  have hS4 := hS3.kept (World.grownBy_alloc w3 (.cells #[.int .i64 i] 3) none) (by simp)
  have hF4 := hF3.kept (World.grownBy_alloc w3 (.cells #[.int .i64 i] 3) none) (by simp)
  have hR4 : (w3.alloc (.cells #[.int .i64 i] 3)).ownsRow w3.heap.size 3 1 (.slice (some ⟨w3.heap.size, 0, none⟩) 1 1) 1 ([i].map (.int .i64)) := World.ownsRow_lit w3 #[.int .i64 i] 1 (Nat.le_refl _) (by decide) rfl
  have hb4 := hb3.alloc hb3.size (.cells #[.int .i64 i] 3)
  rw [hsz3] at hR4
  have haf : w1.heap.size < w2.heap.size := by simp at hsz2; omega
  have ha3 : w1.heap.size < w3.heap.size := by omega
  have hf3 : w2.heap.size < w3.heap.size := by omega
  clear hS2 hS3 hF3 hb2 hb3 hrunI hown2 hg2
  go_loopg [8] 482 (fun gg tv wr => ∃ done todo Da Df, 482 - done.length ≤ gg ∧ FinSt w1 wr (w2.heap.size + 1) w1.heap.size w2.heap.size ms i tv done todo Da Df)
  case atStart => exact ⟨[], [i], _, _, by simp, hb4, FinInv.init ms i, hS4, hF4, hR4, by simp; omega⟩
  case round =>
    obtain ⟨done, todo, Da, Df, hg, hst⟩ := hrel
    clear hS4 hF4 hR4 hb4
    obtain ⟨hb, hinv, hall, hfin, hrow, hsz⟩ := hst
    have hle := hinv.le HF.out
    have hM4 := hM.below hb
    rcases List.eq_nil_or_concat todo with rfl | ⟨todo', k, rfl⟩
    · obtain ⟨A8, c8, rfl, hc8⟩ := ownsRow_cap hrow
      have hszf := hfin.own.size_le
      have hfl := List.length_filter_le (fun x => !obs ms x) done
      simp only [List.length_nil] at hrow
      go_wp2_with (first
        | (go_at_call 46; refine (keys_c _ _).mono ?_; rintro e w' ⟨rfl, rfl⟩)
        | (go_at_call 45; refine (sorted_c w2.heap.size _ Df _ wr hfin.own (by unfold maxLen; omega) (by omega)).mono ?_; rintro e w' ⟨v, ss, rfl, hS, hrow', hb'⟩))
      go_ret
      obtain ⟨A9, c9, rfl, hc9⟩ := ownsRow_cap hrow'
      have hr9 := Rd.of_own hrow' hc9
      have hl9 : (ss.mergeSort fun x y => decide (x ≤ y)).length = ss.length := List.length_mergeSort _
      have hfi := finalIs_sort hinv (hfin.perm hinv.nodupF hS)
      rw [← hl9] at hr9 ⊢
      exact ⟨A9, c9, _, rfl, hr9, hb1.trans ((hb.trans (hb'.mono hb.size)).mono hb1.size), hfi⟩
    · rw [List.concat_eq_append] at *
      have hkU : I64 k := hU k (hinv.univ k (by simp))
      obtain ⟨A8, c8, rfl, hc8⟩ := ownsRow_cap hrow
      obtain ⟨g, cap, eS, hgb, hgl⟩ := hrow.form (by simp)
      cases eS
      have hcell := hrow.cellAt todo'.length (by simp)
      have hk0 : wr.cell? ⟨g, todo'.length, none⟩ = some (.int .i64 k) := by rw [hcell]; simp
      have hlk := hM4.look hkU
      have hcut := ownsRow_cut hrow (k := todo'.length) (by simp)
      have hcl : List.take todo'.length (List.map (Value.int IntKind.i64) (todo' ++ [k])) = todo'.map (.int .i64) := by simp
      rw [hcl] at hcut
      clear hcl
      have hall' := hall.same (L' := (done ++ [k]) ++ todo') (fun x => mem_perm3.symm) (by simp)
      have hmid := hinv.mid
      generalize hN : (todo' ++ [k]).length = N at *
      have hN' : N = todo'.length + 1 := by rw [← hN]; simp
      subst hN'
      obtain ⟨Ak, ck, eF, hck⟩ := ownsRow_cap (hM4.row k)
      have hfe := obs_lit ms k done
      clear hN hcell hall hinv hrow
      cases ho : obs ms k with
      | false =>
        rw [ho] at hlk hfe
        have hfl := List.length_filter_le (fun x => !obs ms x) done
        go_wp2_with (at_mapUpdate; refine wpList_mapUpdate_own _ rfl _ _ _ 57 rfl 3 4 K3 Try.underlying57 (plainElem Try.prog 4) w2.heap.size (done.filter fun x => !obs ms x).length Df rfl hfin.own (by unfold maxLen; omega) _ _ _ rfl rfl (key3 hkU) _ [] (bool_elem true) ?_; intro w5 hown5 hg5)
        go_roundg (482 - (done.length + 1))
        case measure => omega
        case rel =>
          refine ⟨done ++ [k], todo', Da, Df.put (.int .i64 k) (.lit (.bool true)), by simp, hb.grown hg5 hb.size (fun j hj => by injection hj with hj; omega), hmid.stop (by rw [obs_no ho]; simp), hall'.kept hg5 (by intro e; injection e with e; omega), ?_, hcut.kept hg5 (.inr ?_), Nat.le_trans hsz hg5.size⟩
          · refine hfin.put hkU hown5 (fun x => ?_) ?_
            · rw [hfe]; simp
            · rw [hfe]; simp
          · intro e; have := (hcut.lt _ e).1; omega
      | true =>
        rw [ho] at hlk hfe
        simp only [if_true, List.append_nil] at hfe
        rw [eF] at hlk
        have hfin' : SetIs wr w2.heap.size ((done ++ [k]).filter fun x => !obs ms x) Df := by rw [hfe]; exact hfin
        have hmd : FinMd w1 wr (w2.heap.size + 1) w1.heap.size w2.heap.size ms i (.slice (some ⟨g, 0, none⟩) todo'.length c8) done k 0 todo' Da Df := ⟨hb, hmid, hall', hfin', hcut, hsz⟩
        clear hfe hmid hall' hfin hfin' hcut
        go_wp2
        go_loopw [8, 49] (fun tv j wr' => ∃ t todo2 Da2, t ≤ (nexts ms k).length ∧ j = .int .i64 t ∧ FinMd w1 wr' (w2.heap.size + 1) w1.heap.size w2.heap.size ms i tv done k t todo2 Da2 Df) (fun _ j _ => (nexts ms k).length - (intOf j).toNat)
        case atStart => exact ⟨0, todo', Da, Nat.zero_le _, rfl, hmd⟩
        case round =>
          obtain ⟨t, todo2, Da2, ht, rfl, hm2⟩ := hrel
          clear hmd hlk hk0 hM4
          obtain ⟨hb2, hinv2, hall2, hfin2, hrow2, hsz2'⟩ := hm2
          have hle2 := hinv2.le HF.out
          have hnl : (nexts ms k).length ≤ 480 := by obtain ⟨f1, f2⟩ := few_iff HF.out; have := nexts_le k f1; omega
          by_cases hlt : t < (nexts ms k).length
          · have hrk := (hM.below hb2).row k
            rw [eF] at hrk
            obtain ⟨b1, o1, x, rfl, hb1', hx, h0⟩ := (Rd.of_own hrk hck).int_ hlt
            have hxU : I64 x := hU x (nexts_univ (List.mem_of_getElem? hx))
            have hlk2 := hall2.look hxU
            have HX := Lib.hid hx; clear hx
            by_cases hgt : k < x
            · by_cases hin : x ∈ (done ++ [k]) ++ todo2
              · rw [decide_eq_true hin] at hlk2
                have HI := Lib.hid hin; clear hin
                go_wp2
                go_roundw
                case rel => exact ⟨t + 1, todo2, Da2, by omega, by go_num, hb2, hinv2.skip HX.out (fun _ => HI.out), hall2, hfin2, hrow2, hsz2'⟩
                case measure => simp [intOf]; omega
              · rw [decide_eq_false hin] at hlk2
                have HI := Lib.hid hin; clear hin
                obtain ⟨A5, c5, rfl, hc5⟩ := ownsRow_cap hrow2
                go_wp2_with (first
                  | (at_mapUpdate; refine wpList_mapUpdate_own _ rfl _ _ _ 57 rfl 3 4 K3 Try.underlying57 (plainElem Try.prog 4) w1.heap.size ((done ++ [k]) ++ todo2).length Da2 rfl hall2.own (by simp [maxLen]; omega) _ _ _ rfl rfl (key3 hxU) _ [] (bool_elem true) ?_; intro w5 hown5 hg5; have hrow5 := (hrow2.kept hg5 (.inr (fun e => by have := (hrow2.lt _ e).1; omega))).alloc (.cells #[.int .i64 x] 3); have hb5 := (hb2.grown hg5 hb2.size (fun j hj => by injection hj with hj; omega)))
                  | (at_builtin; refine wpl_append rfl (.tmp 64) (.tmp 66) 28 rfl E28 rfl rfl hrow5 (rd_lit1 w5 x) (one_ints _) (by unfold maxLen; omega) (by omega) (by have := hg5.size; simp; omega) ?_; intro v6 w6 hrow6 hg6 hv6))
                have hall5 := SetIs.put (L' := (done ++ [k]) ++ (todo2 ++ [x])) hall2 hxU hown5 (fun y => by rw [← List.append_assoc, List.mem_append, List.mem_singleton]) (by simp; omega)
                have hfin5 := hfin2.kept hg5 (by intro e; injection e with e; omega)
                have hnb : ∀ j, (Value.slice A5 todo2.length c5).ownBlock = some j → w2.heap.size + 1 ≤ j := fun j hj => (hrow2.lt j hj).1
                have hall6 := (hall5.kept (World.grownBy_alloc w5 (.cells #[.int .i64 x] 3) none) (by simp)).kept hg6 (fun e => by have := hnb _ e.symm; omega)
                have hfin6 := (hfin5.kept (World.grownBy_alloc w5 (.cells #[.int .i64 x] 3) none) (by simp)).kept hg6 (fun e => by have := hnb _ e.symm; omega)
                have hb6 := (hb5.alloc hb5.size (.cells #[.int .i64 x] 3)).grown hg6 (hb5.alloc hb5.size (.cells #[.int .i64 x] 3)).size (fun j hj => by have := hnb j hj; omega)
                go_roundw
                case rel =>
                  refine ⟨t + 1, todo2 ++ [x], Da2.put (.int .i64 x) (.lit (.bool true)), by omega, by go_num, hb6, hinv2.push HX.out hgt HI.out, hall6, hfin6, ?_, ?_⟩
                  · rw [List.length_append, List.map_append]; exact hrow6
                  · have h1 := hg6.size; have h2 := hg5.size; simp at h1; omega
                case measure => simp [intOf]; omega
            · go_wp2
              go_roundw
              case rel => exact ⟨t + 1, todo2, Da2, by omega, by go_num, hb2, hinv2.skip HX.out (fun h => absurd h hgt), hall2, hfin2, hrow2, hsz2'⟩
              case measure => simp [intOf]; omega
          · have hte : t = (nexts ms k).length := by omega
            go_wp2
            go_roundg (482 - (done.length + 1))
            case measure => omega
            case rel => exact ⟨done ++ [k], todo2, Da2, Df, by simp, hb2, hinv2.stop (by omega), hall2, hfin2, hrow2, hsz2'⟩
end Go.Proofs.Ytnkboccngialiaa
