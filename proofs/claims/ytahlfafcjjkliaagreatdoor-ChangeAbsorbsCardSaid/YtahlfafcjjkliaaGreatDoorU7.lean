/- Walks: tree.Put. -/
import Derived.Test.YtahlfafcjjkliaaGreatDoorU6
namespace Go.Proofs.YtahlfafcjjkliaaGreatDoor
open Go.RowKit

theorem flat_ins (l : List FV) (f : FV) (i : Nat) : ins3 (l.flatMap FV.cells) f.cells i = (l.take i ++ f :: l.drop i).flatMap FV.cells := by
  rw [ins3, T.flat_take FV.cells_len, T.flat_drop FV.cells_len, List.flatMap_append, List.flatMap_cons, List.append_assoc]
theorem insF_any {base n i vb : Nat} {v : Value} {l : List FV} {f : FV} {w : World} (hn : n ≤ 1000000) (hown : w.ownsRow base 35 3 v n (l.flatMap FV.cells)) (hbase : base ≤ w.heap.size) (hi : i ≤ n)
    (hvb : w.heap[vb]? = some (.cells #[.string f.path, .bool f.exec, .string f.text] 35 (0, 0))) (hne : v.ownBlock ≠ some vb) :
    Calls Tryz.prog 61 #[v, .int .i64 i, .slice (some ⟨vb, 0, none⟩) 1 1] w
      fun e w' => ∃ (A : Option Addr) (c : Nat), e = .returned (.slice A (n + 1) c) ∧ Rd w' w'.heap.size 3 A (n + 1) c ((l.take i ++ f :: l.drop i).flatMap FV.cells) ∧ w.grownBy w' v.ownBlock := by
  rw [← flat_ins]
  rcases Nat.lt_or_ge i n with h | h
  · rcases hown.2 with ⟨_, rfl⟩ | ⟨g, cap, cur, rfl, hb, hg, hnc, hcm, hcs, htake⟩
    · omega
    · have h1 := one_files l
      have hvg : vb ≠ g := fun e => hne (by rw [e]; rfl)
      rcases Nat.lt_or_ge n cap with hc | hc
      · exact insShift_any hn hg hc hcm hcs htake h1 h hvb hvg
      · obtain rfl : cap = n := by omega
        exact insGrow_any hn hg hcs htake h1 h hvb
  · obtain rfl : i = n := by omega
    exact insEnd_any hn hown hbase hvb

/-- A store of a struct within a row. -/
theorem wpl_store_mid {P : Program} {w : World} {a : Act} {ops : Array Oper} {rest : List Oper} {o : Oper} {Q : Exit → Act → World → Prop} (hgd : o.guard = none) (t : TypeId) (x y : Operand)
    (ho : o.op = .store t x y) {g d : Nat} {e : TypeId} {cur cs : Array Value} (hi : (P.info? t).map (·.size) = some cs.size) (hx : a.eval x = .pointer (some ⟨g, d, none⟩)) (hy : a.eval y = .agg cs)
    (hg : w.heap[g]? = some (.cells cur e (0, 0))) (hfit : d + cs.size ≤ cur.size) (h1 : ∀ u ∈ cs.toList, u.oneCell' = true)
    (hK : wpList P ops Q rest (a.put o.dst undef) (w.setRow g (cur.toList.take d ++ cs.toList ++ cur.toList.drop (d + cs.size)).toArray)) : wpList P ops Q (o :: rest) a w := by
  refine wpList_plain hgd fun K hK' => ?_
  have hr := run_storeCells_at P g d e cs.toList 0 cur w hg (by simpa using hfit) h1
  obtain ⟨i, hi1, hi2⟩ := Option.map_eq_some_iff.1 hi
  unfold Oper.wp execOp
  have hst : (storeVar t ⟨g, d, none⟩ (.agg cs)).run P w = .ok () (w.setRow g (cur.toList.take d ++ cs.toList ++ cur.toList.drop (d + cs.size)).toArray) := by
    simp only [Nat.add_zero, Array.length_toList] at hr
    simp [storeVar, sizeOf, typeInfo, hi1, hi2, Value.cells, hr]
  simp only [ho, hx, hy, Instr.storeAt, Instr.sureAddr, Sem.run_bind, Sem.run_pure, Result.andThen_ok, hst]
  exact hK' _ _ hK

theorem flat_set {l : List FV} {f : FV} {k : Nat} (hk : k < l.length) : (l.flatMap FV.cells).take (k * 3) ++ f.cells ++ (l.flatMap FV.cells).drop (k * 3 + 3) = (l.set k f).flatMap FV.cells := by
  rw [T.flat_take FV.cells_len, show k * 3 + 3 = (k + 1) * 3 by omega, T.flat_drop FV.cells_len, List.set_eq_take_append_cons_drop, if_pos hk, List.flatMap_append, List.flatMap_cons, List.append_assoc]

set_option maxRecDepth 100000 in
set_option maxHeartbeats 16000000 in
theorem put_any {A : Option Addr} {n c : Nat} {l : List FV} {f : FV} {w : World} (hn : n ≤ 17592186044416) (hm : Lm w) (h : RdF w w.heap.size A n c l) (hff : f.path.size ≤ 140737488351232 ∧ f.text.size ≤ 140737488351232) :
    Calls Tryz.prog 30 #[.slice A n c, .agg #[.string f.path, .bool f.exec, .string f.text]] w (FilesErr (putF l f) w) := by
  have HL := Lib.hid h.len
  have HF := Lib.hid h.fits
  have hi24 : (Tryz.prog.info? 35).map (·.size) = some 3 := by kernel_rfl
  obtain ⟨W, hW⟩ : ∃ u, u = w.alloc (.cells #[.string f.path, .bool f.exec, .string f.text] 35) := ⟨_, rfl⟩
  have hbW : Below w.heap.size w W := by rw [hW]; exact (Below.refl _ _).alloc (Nat.le_refl _) _
  have hzW : W.heap.size = w.heap.size + 1 := by rw [hW]; simp
  have hx : ∀ i u, f.cells[i]? = some u → ∀ u', Below W.heap.size W u' → u'.cell? ⟨w.heap.size, i, none⟩ = some u := fun i u hu u' hu' =>
    (hu'.cell (p := ⟨w.heap.size, i, none⟩) (by show w.heap.size < _; omega)).trans (by rw [hW, World.cell?, heap_alloc_new]; simpa [FV.cells] using hu)
  have XB := Lib.hid hx
  clear hx
  have UP : ∀ u, Below W.heap.size W u → Below w.heap.size w u := fun u hu => hbW.trans (hu.mono hbW.size)
  have MORE : ∀ {u v : World}, Below W.heap.size W u → Below u.heap.size u v → Below W.heap.size W v := fun h1 h2 => h1.trans (h2.mono h1.size)
  have RD : ∀ u, Below W.heap.size W u → RdF u u.heap.size A n c l := fun u hu => h.to (UP u hu) (UP u hu).size
  have LM : ∀ u, Below W.heap.size W u → Lm u := fun u hu => hm.to (UP u hu)
  go_enter Tryz.func30, Tryz.ntmps30
  go_wp2_with fail
  rw [← hW]
  clear hW
  refine (treeRight_any hn (LM W (Below.refl _ _)) (RD W (Below.refl _ _))).mono ?_
  rintro e w1 ⟨rfl, hb1⟩
  cases ht : treeOk l with
  | false =>
    have HP := Lib.hid (show putF l f = ([], 5) by simp [putF, ht])
    clear ht
    go_wp2
    go_ret2
    exact filesErr_none HP.out (UP _ hb1)
  | true =>
  have hlen := treeOk_len ht
  rw [HL.out] at hlen
  have HT := Lib.hid ht
  clear ht
  have x0 := XB.out 0 _ rfl w1 hb1
  go_wp2_with fail
  refine (pathRight_any (s := f.path) (LM _ hb1)).mono ?_
  rintro e w2 ⟨rfl, hv⟩
  have hb2 := MORE hb1 hv
  clear hb1 hv x0
  have hp0 : pathOk f.path.data.toList = pathOk f.p := rfl
  rw [hp0]
  clear hp0
  cases hp : pathOk f.p with
  | false =>
    have HP := Lib.hid (show putF l f = ([], 11) by simp [putF, HT.out, hp])
    clear hp
    go_wp2
    go_ret2
    exact filesErr_none HP.out (UP _ hb2)
  | true =>
  have HK := Lib.hid hp
  clear hp
  have x2 := XB.out 2 _ rfl w2 hb2
  by_cases hz : 20000 < f.text.size
  · have HP := Lib.hid (show putF l f = ([], 6) by simp [putF, HT.out, HK.out, hz])
    go_wp2
    go_ret2
    exact filesErr_none HP.out (UP _ hb2)
  go_wp2_with fail
  refine (cloneF_any (by omega) (RD _ hb2)).mono ?_
  rintro e w3 ⟨v, rfl, ho, hv⟩
  have hb3 := MORE hb2 hv
  have hlo : W.heap.size ≤ w2.heap.size := hb2.size
  have hz3 : w2.heap.size ≤ w3.heap.size := hv.size
  clear hb2 hv x2
  have x0 := XB.out 0 _ rfl w3 hb3
  go_wp2_with fail
  refine (treeAt_any (p := f.path) hn (RD _ hb3)).mono ?_
  rintro e w4 ⟨k, rfl, hk, hv⟩
  have hb4 := MORE hb3 hv
  have hz4 : w2.heap.size ≤ w4.heap.size := Nat.le_trans hz3 hv.size
  clear hz3
  have ho4 := ho.kept (show w3.grownBy w4 none from ⟨hv.os, hv.tape, hv.output, hv.size, fun k hk _ => hv.block k hk⟩) (by cases v.ownBlock <;> simp)
  clear hb3 hv ho x0
  have x0 := XB.out 0 _ rfl w4 hb4
  rcases hk with ⟨rfl, hno⟩ | ⟨j, g, rfl, hf⟩
  rotate_left
  · have hj : j < n := by have := (List.getElem?_eq_some_iff.1 hf.1).1; rw [HL.out] at this; exact this
    have x1 := XB.out 1 _ rfl w4 hb4
    have x2 := XB.out 2 _ rfl w4 hb4
    have hgp : g.path = f.path := by simpa [isP] using hf.2.1
    have HP := Lib.hid (show putF l f = (l.set j f, 0) by
      rw [← put_old (treeOk_iff.1 HT.out).2.2.1 hf.1 hgp]
      simp [putF, HT.out, HK.out, hz, hasP_iff.2 ⟨g, List.mem_of_getElem? hf.1, hgp⟩])
    rcases ho4.2 with ⟨_, h0⟩ | ⟨gb, cap, cur, rfl, hgb, hg, hnc, hcm, hcs, htake⟩
    · omega
    have HG := Lib.hid hg
    have HT2 := Lib.hid htake
    clear hf hg htake hgp
    go_wp2_with (refine wpl_store_mid rfl 35 (.tmp 34) (.tmp 33) rfl (cs := #[.string f.path, .bool f.exec, .string f.text]) hi24 rfl rfl HG.out (by show j * 3 + 3 ≤ _; omega) (one_files [f]) ?_)
    go_ret2
    have hls : (l.set j f).length = n := by rw [List.length_set, HL.out]
    have hrow : ∀ (i : Nat) (u : Value), ((l.set j f).flatMap FV.cells)[i]? = some u → (cur.toList.take (j * 3) ++ f.cells ++ cur.toList.drop (j * 3 + 3)).toArray[i]? = some u := by
      intro i u hu
      have e : (cur.toList.take (j * 3) ++ f.cells ++ cur.toList.drop (j * 3 + 3)).take (n * 3) = (l.set j f).flatMap FV.cells := by
        rw [← flat_set (by rw [HL.out]; exact hj), ← HT2.out, List.take_take, Nat.min_eq_left (by omega)]
        have hlc : cur.toList.length = cap * 3 := by rw [Array.length_toList]; exact hcs
        have h1 : (cur.toList.take (j * 3) ++ f.cells).length = j * 3 + 3 := by rw [List.length_append, List.length_take, hlc]; show min _ _ + 3 = _; omega
        rw [List.take_append, List.take_of_length_le (by omega), h1, List.drop_take]
      simpa using list_get_of e hu
    refine filesErr_ok hls HP.out ⟨rd_setRow HG.out hnc (by rw [len_flat FV.cells_len, hls]) (fun i u hu => by have := hrow i u hu; simpa [FV.cells] using this), hls, fun x hx => ?_⟩ (below_setRow (UP _ hb4) (by omega))
    rcases List.mem_or_eq_of_mem_set hx with hx | rfl
    · exact HF.out x hx
    · exact hff
  · have hn0 : hasP l f.path = false := (findP_no hno).2
    have HN := Lib.hid hn0
    clear hno hn0
    have HFp := Lib.hid (show ∀ x ∈ l, x.path.size ≤ 140737488351232 from fun x hx => (HF.out x hx).1)
    go_wp2
    refine wp_region_q (fun w' => Below w4.heap.size w4 w') [(true, 0), (true, 2), (true, 3), (false, 1), (false, 4), (true, 5)] mixed (by kernel_rfl) (Below.refl _ _).drew ?_
    have hd4 : Below w4.heap.size w4 w4.drew := (Below.refl _ _).drew
    have AT : ∀ u, Below w4.heap.size w4 u → Below W.heap.size W u := fun u hu => MORE hb4 hu
    have C1 : ∀ u, Below w4.heap.size w4 u → Calls Tryz.prog 42 #[.slice A n c] u (MapP u.heap.size n (pathsOf l) u) := fun u hu => paths_any hn (RD u (AT u hu))
    intro Tp M Q hT hT' hM hQ
    have m0 : M ⟨w.heap.size, 0, none⟩ = some (.string f.path) := hM _ _ fun w' hw => XB.out 0 _ rfl w' (AT w' hw)
    simp only [qcmp, Nat.reduceBEq]
    simp (maxSteps := 5000000) only [↓qpre, qpost, qfacts, qnorm, m0]
    refine eff_call (by kernel_rfl) (C1 _ hd4) rfl rfl ?_
    rintro e w5 ⟨b, nn, D, rfl, hg1, hg2, hnn, hS, hv⟩
    have hb5 : Below w4.heap.size w4 w5 := hd4.trans (hv.mono hd4.size)
    refine ⟨_, rfl, hT _ hb5, ?_⟩
    simp (maxSteps := 5000000) only [↓qpre, qpost, qfacts, qnorm, m0]
    refine eff_call (by kernel_rfl) (clashes_any (p := f.path) hS HFp.out hff.1) rfl rfl ?_
    rintro e w6 ⟨rfl, hv6⟩
    have hb6 : Below w4.heap.size w4 w6 := hb5.trans (hv6.mono hb5.size)
    refine ⟨_, rfl, hT _ hb6, ?_⟩
    simp (maxSteps := 5000000) only [↓qpre, qpost, qfacts, qnorm, m0]
    refine hQ _ _ ?_
    have ho6 := ho4.kept (show w4.grownBy w6 none from ⟨hb6.os, hb6.tape, hb6.output, hb6.size, fun k hk _ => hb6.block k hk⟩) (by cases v.ownBlock <;> simp)
    have hbe := AT _ hb6
    have hz6 : w2.heap.size ≤ w6.heap.size := Nat.le_trans hz4 hb6.size
    clear hQ hT hT' hM m0 hS hg1 hg2 hv hv6 hb5 hb6 ho4 C1 AT hd4 hb4 x0
    cases hc : clashF l f.path with
    | true =>
      have HP := Lib.hid (show putF l f = ([], 11) by simp [putF, HT.out, HK.out, hz, HN.out, hc])
      clear hc
      go_wp2
      go_ret2
      exact filesErr_none HP.out (UP _ hbe)
    | false =>
      have HC := Lib.hid hc
      clear hc
      by_cases hbig : 100 ≤ n
      · have HP := Lib.hid (show putF l f = ([], 6) by simp [putF, HT.out, HK.out, hz, HN.out, HC.out, HL.out, hbig])
        go_wp2
        go_ret2
        exact filesErr_none HP.out (UP _ hbe)
      · have C2 := above_any (g := w.heap.size) (p := f.path) hn (RD _ hbe) (XB.out 0 _ rfl w6 hbe) (by have := hbe.size; omega)
        go_wp2_with fail
        refine C2.mono ?_
        rintro e w7 ⟨k, rfl, hk, hv⟩
        have hb7 := MORE hbe hv
        have ho7 := ho6.kept (show w6.grownBy w7 none from ⟨hv.os, hv.tape, hv.output, hv.size, fun k hk _ => hv.block k hk⟩) (by cases v.ownBlock <;> simp)
        have hz7 : w2.heap.size ≤ w7.heap.size := Nat.le_trans hz6 hv.size
        clear C2 hv ho6 hbe
        rcases hk with ⟨rfl, hno⟩ | ⟨j, g, rfl, hf⟩
        · have HPL := Lib.hid (show sortedIn l f = l.take n ++ f :: l.drop n from put_new (treeOk_iff.1 HT.out).2.2.1 HN.out (by rw [HL.out]; exact Nat.le_refl _) (fun j g _ hg => of_decide_eq_false (hno g (List.mem_of_getElem? hg))) (fun g hg => by have := (List.getElem?_eq_some_iff.1 hg).1; rw [HL.out] at this; omega))
          clear hno
          have HP := Lib.hid (show putF l f = (l.take n ++ f :: l.drop n, 0) by
            rw [← HPL.out]
            simp [putF, HT.out, HK.out, hz, HN.out, HC.out, HL.out, hbig])
          have x0 := XB.out 0 _ rfl w7 hb7
          have x1 := XB.out 1 _ rfl w7 hb7
          have x2 := XB.out 2 _ rfl w7 hb7
          have hvb : (w7.alloc (.cells #[.string f.path, .bool f.exec, .string f.text] 35)).heap[w7.heap.size]? = some (.cells #[.string f.path, .bool f.exec, .string f.text] 35 (0, 0)) := heap_alloc_new _ _
          have ho8 := ho7.alloc (.cells #[.string f.path, .bool f.exec, .string f.text] 35)
          have hb8 : Below W.heap.size W (w7.alloc (.cells #[.string f.path, .bool f.exec, .string f.text] 35)) := hb7.alloc hb7.size _
          have C := insF_any (i := n) (f := f) (by omega) ho8 (by simp; omega) (by omega) hvb (fun e => by have := (ho7.lt _ e).2; omega)
          clear ho7 hvb
          go_wp2_with fail
          refine C.mono ?_
          rintro e w9 ⟨A9, c9, rfl, hr9, hg9⟩
          have hb9 : Below W.heap.size W w9 := hb8.grown hg9 hb8.size (fun g hg => by have := (ho8.lt g hg).1; omega)
          clear C x0 x1 x2 ho8 hb8 hg9
          go_wp2
          go_ret2
          have hll : (l.take n ++ f :: l.drop n).length = n + 1 := by rw [List.length_append, List.length_cons, List.length_take, List.length_drop, HL.out]; omega
          refine filesErr_ok hll HP.out ⟨hr9, hll, fun x hx => ?_⟩ (UP _ hb9)
          rcases List.mem_append.1 hx with hx | hx
          · exact HF.out x (List.mem_of_mem_take hx)
          · rcases List.mem_cons.1 hx with rfl | hx
            · exact hff
            · exact HF.out x (List.mem_of_mem_drop hx)
        · have hj : j < n := by have := (List.getElem?_eq_some_iff.1 hf.1).1; rw [HL.out] at this; exact this
          have HPL := Lib.hid (show sortedIn l f = l.take j ++ f :: l.drop j from put_new (treeOk_iff.1 HT.out).2.2.1 HN.out (by rw [HL.out]; omega) (fun i g hi hg => of_decide_eq_false (hf.2.2 i g hi hg)) (fun x hx => by rw [hf.1] at hx; injection hx with hx; subst hx; exact of_decide_eq_true hf.2.1))
          clear hf
          have HP := Lib.hid (show putF l f = (l.take j ++ f :: l.drop j, 0) by
            rw [← HPL.out]
            simp [putF, HT.out, HK.out, hz, HN.out, HC.out, HL.out, hbig])
          have x0 := XB.out 0 _ rfl w7 hb7
          have x1 := XB.out 1 _ rfl w7 hb7
          have x2 := XB.out 2 _ rfl w7 hb7
          have hvb : (w7.alloc (.cells #[.string f.path, .bool f.exec, .string f.text] 35)).heap[w7.heap.size]? = some (.cells #[.string f.path, .bool f.exec, .string f.text] 35 (0, 0)) := heap_alloc_new _ _
          have ho8 := ho7.alloc (.cells #[.string f.path, .bool f.exec, .string f.text] 35)
          have hb8 : Below W.heap.size W (w7.alloc (.cells #[.string f.path, .bool f.exec, .string f.text] 35)) := hb7.alloc hb7.size _
          have C := insF_any (i := j) (f := f) (by omega) ho8 (by simp; omega) (by omega) hvb (fun e => by have := (ho7.lt _ e).2; omega)
          clear ho7 hvb
          go_wp2_with fail
          refine C.mono ?_
          rintro e w9 ⟨A9, c9, rfl, hr9, hg9⟩
          have hb9 : Below W.heap.size W w9 := hb8.grown hg9 hb8.size (fun g hg => by have := (ho8.lt g hg).1; omega)
          clear C x0 x1 x2 ho8 hb8 hg9
          go_wp2
          go_ret2
          have hll : (l.take j ++ f :: l.drop j).length = n + 1 := by rw [List.length_append, List.length_cons, List.length_take, List.length_drop, HL.out]; omega
          refine filesErr_ok hll HP.out ⟨hr9, hll, fun x hx => ?_⟩ (UP _ hb9)
          rcases List.mem_append.1 hx with hx | hx
          · exact HF.out x (List.mem_of_mem_take hx)
          · rcases List.mem_cons.1 hx with rfl | hx
            · exact hff
            · exact HF.out x (List.mem_of_mem_drop hx)
end Go.Proofs.YtahlfafcjjkliaaGreatDoor
