/- Walks: slices.Delete of one file; tree.Drop. -/
import Derived.Test.YtahlfafcjjkliaaGreatDoorU7
namespace Go.Proofs.YtahlfafcjjkliaaGreatDoor
open Go.RowKit

theorem run_clear_rowK {P : Program} (w : World) (t e ty : TypeId) (z : Value) (ht : P.underlying t = some (.slice e)) (hv : ∀ w, (zeroValue e).run P w = .ok z w) {g d c : Nat} {cur : Array Value} {et : TypeId} {zs : List Value}
    (hz : (Builtin.zeroCells z.cells 1).toList = zs) (hg : w.heap[g]? = some (.cells cur et (0, 0))) (hfit : d + zs.length ≤ cur.size) (h1 : ∀ v ∈ zs, v.oneCell' = true) :
    (Builtin.clear_ #[t] ty #[.slice (some ⟨g, d, none⟩) 1 c]).run P w = .ok (.tuple #[]) (w.setRow g (cur.toList.take d ++ zs ++ cur.toList.drop (d + zs.length)).toArray) := by
  have hst := run_storeCells_at P g d et zs 0 cur w hg (by simpa using hfit) h1
  simp only [Nat.add_zero] at hst
  simp [Builtin.clear_, run_underlying ht, hv, hz, hst]
theorem wpl_clear {P : Program} {w : World} {ops : Array Oper} {rest : List Oper} {o : Oper} {a : Act} {Q : Exit → Act → World → Prop} (hgd : o.guard = none) (d : Operand) (t : TypeId)
    (ho : o.op = .call { callee := .builtin .clear, args := #[d], argTypes := #[t] }) (v : Value) (hd : a.eval d = v) {v' : Value} {w' : World}
    (hr : (Builtin.clear_ #[t] o.type #[v]).run P w = .ok v' w') (h : wpList P ops Q rest (a.put o.dst v') w') : wpList P ops Q (o :: rest) a w := by
  refine wpList_plain hgd fun K hK => ?_
  unfold Oper.wp execOp
  have hb : ∀ cs, builtin .clear #[t] o.type cs #[v] = (do pure (.value (← Builtin.clear_ #[t] o.type #[v]))) := fun cs => rfl
  simp only [ho, resolve, invoke, hb, Sem.run_bind, Sem.run_pure, Result.andThen_ok, List.map_toArray, List.map_cons, List.map_nil, hd, hr]
  exact hK _ _ h
theorem T.eff_appendRun {P : Program} {S : World → Prop} {a : Act} {w w' : World} {K : Act → World → Prop} {dst : Option Tmp} {d s : Operand} {t t' ty : TypeId} {q : Bool} {g : Option (Tmp × Bool)} {v u v' : Value}
    (hd : a.eval d = v) (hs : a.eval s = u) (hr : (Builtin.append_ #[t, t'] ty #[v, u]).run P w = .ok v' w') (hK : S w' ∧ K (a.put dst v') w') :
    effq P S ⟨q, dst, .call { callee := .builtin .append, args := #[d, s], argTypes := #[t, t'] }, ty, g⟩ a w K := by
  refine eff_to (fun p af g => ?_) hK
  unfold execOp
  simp only [resolve, invoke, builtin, Sem.run_bind, Sem.run_pure, Result.andThen_ok, List.map_toArray, List.map_cons, List.map_nil, hd, hs, hr]
theorem sliced_end {b l h c z : Nat} : ∃ A : Addr, sliced (some ⟨b, 0, none⟩) l h c z = .slice (some A) (h - l) (c - l) ∧ (c = l ∨ A = ⟨b, l * z, none⟩) := by
  by_cases hc : c = l
  · exact ⟨_, by rw [sliced, if_pos hc], .inl hc⟩
  · exact ⟨_, by rw [sliced_some hc, Nat.zero_add], .inr rfl⟩

set_option maxRecDepth 100000 in
set_option maxHeartbeats 8000000 in
theorem deleteF_any {g n cap i : Nat} {xs : List Value} {cur : Array Value} {w : World} (hn : n ≤ 1000000) (hg : w.heap[g]? = some (.cells cur 35 (0, 0))) (hnc : n ≤ cap) (hcm : cap ≤ maxLen) (hcs : cur.size = cap * 3)
    (htake : cur.toList.take (n * 3) = xs) (h1 : ∀ u ∈ xs, u.oneCell' = true) (hi : i < n) :
    Calls Tryz.prog 64 #[.slice (some ⟨g, 0, none⟩) n cap, .int .i64 i, .int .i64 ((i : Int) + 1)] w
      fun e w' => e = .returned (.slice (some ⟨g, 0, none⟩) (n - 1) cap) ∧ Rd w' w'.heap.size 3 (some ⟨g, 0, none⟩) (n - 1) cap (xs.take (i * 3) ++ xs.drop ((i + 1) * 3)) ∧ w.grownBy w' (some g) := by
  have hxl : xs.length = n * 3 := by rw [← htake, List.length_take, Array.length_toList]; omega
  obtain ⟨i0, z, hi0, hz0, hzs, hzb, hzc⟩ := E_files.row
  have zv : ∀ w, (zeroValue 35).run Tryz.prog w = .ok (.agg #[.string ⟨#[]⟩, .bool false, .string ⟨#[]⟩]) w := Tryz.zeroValue35
  have zc : (Builtin.zeroCells (Value.agg #[.string ⟨#[]⟩, .bool false, .string ⟨#[]⟩]).cells 1).toList = [.string ⟨#[]⟩, .bool false, .string ⟨#[]⟩] := by simp [Builtin.zeroCells, Value.cells]; rfl
  obtain ⟨A, eA, hA⟩ := sliced_end (b := g) (l := i + 1) (h := n) (c := cap) (z := 3)
  have hc0 : cap ≠ 0 := by omega
  have hgl : g < w.heap.size := (Array.getElem?_eq_some_iff.1 hg).1
  have hdl : (xs.drop ((i + 1) * 3)).length = (n - (i + 1)) * 3 := by rw [List.length_drop]; omega
  obtain ⟨R1, eR1⟩ : ∃ R : Array Value, R = (cur.toList.take (i * i0.size) ++ xs.drop ((i + 1) * 3) ++ cur.toList.drop (i * i0.size + (xs.drop ((i + 1) * 3)).length)).toArray := ⟨_, rfl⟩
  have hap : ∀ ty c', (Builtin.append_ #[22, 22] ty #[.slice (some ⟨g, 0, none⟩) i cap, .slice (some A) (n - (i + 1)) c']).run Tryz.prog w.drew = .ok (.slice (some ⟨g, 0, none⟩) (n - 1) cap) (w.drew.setRow g R1) := fun ty c' => by
    have h := run_append_room (P := Tryz.prog) w.drew 22 ty 35 i0 Tryz.underlying22 hi0 g i cap cur hg A (n - (i + 1)) c' (xs.drop ((i + 1) * 3)) (by rw [hdl, hzs]) (fun j u hj => by
      rcases hA with hA | rfl
      · have : xs.drop ((i + 1) * 3) = [] := List.drop_of_length_le (by omega)
        rw [this] at hj; cases hj
      · have hadd : (⟨g, (i + 1) * 3, none⟩ : Addr).add j = ⟨g, (i + 1) * 3 + j, none⟩ := by unfold Addr.add; split <;> simp_all
        rw [hadd]
        have hc : w.drew.cell? ⟨g, (i + 1) * 3 + j, none⟩ = cur[(i + 1) * 3 + j]? := cell_of_row w _ _ _ _ _ hg
        rw [hc]
        rw [List.getElem?_drop] at hj
        simpa using list_get_of htake hj) (fun u hu => h1 u (List.mem_of_mem_drop hu)) (by omega) (by rw [hdl, hzs]; omega)
    rw [show i + (n - (i + 1)) = n - 1 by omega, ← eR1] at h
    exact h
  rw [hzs] at eR1
  have hR1z : R1.size = cap * 3 := by
    rw [eR1]
    simp only [List.size_toArray, List.length_append, List.length_take, List.length_drop, Array.length_toList, hcs, hxl]
    omega
  have hR1t : R1.toList.take ((n - 1) * 3) = xs.take (i * 3) ++ xs.drop ((i + 1) * 3) := by
    have a1 : cur.toList.take (i * 3) = xs.take (i * 3) := by rw [← htake, List.take_take, Nat.min_eq_left (by omega)]
    rw [eR1]
    show (cur.toList.take (i * 3) ++ xs.drop ((i + 1) * 3) ++ cur.toList.drop (i * 3 + (xs.drop ((i + 1) * 3)).length)).take _ = _
    rw [a1]
    rw [List.take_append_of_le_length (by simp only [List.length_append, List.length_take, hdl, hxl]; omega), List.take_of_length_le (by simp only [List.length_append, List.length_take, hdl, hxl]; omega)]
  obtain ⟨W1, hW1⟩ : ∃ W1, W1 = w.drew.setRow g R1 := ⟨_, rfl⟩
  have hN1 : W1.heap[g]? = some (.cells R1 35 (0, 0)) := by rw [hW1]; exact setRow_heap _ _ _ _ _ _ hg
  have hgr1 : w.grownBy W1 (some g) := by
    rw [hW1]
    exact grown_setRow (show w.grownBy w.drew (some g) from ⟨rfl, rfl, rfl, Nat.le_refl _, fun _ _ _ => rfl⟩) (.inr rfl)
  rw [← hW1] at hap
  clear hW1
  obtain ⟨R2, eR2⟩ : ∃ R : Array Value, R = (R1.toList.take ((n - 1) * 3) ++ [Value.string ⟨#[]⟩, .bool false, .string ⟨#[]⟩] ++ R1.toList.drop ((n - 1) * 3 + 3)).toArray := ⟨_, rfl⟩
  have hcl : ∀ ty c', (Builtin.clear_ #[22] ty #[.slice (some ⟨g, (n - 1) * 3, none⟩) 1 c']).run Tryz.prog W1 = .ok (.tuple #[]) (W1.setRow g R2) := fun ty c' => by
    rw [eR2]
    exact run_clear_rowK W1 _ _ ty _ Tryz.underlying22 zv zc hN1 (by show _ + 3 ≤ _; omega) (one_files [⟨⟨#[]⟩, false, ⟨#[]⟩⟩])
  have hrl : (xs.take (i * 3) ++ xs.drop ((i + 1) * 3)).length = (n - 1) * 3 := by rw [List.length_append, List.length_take, hdl]; omega
  have hfin : ∀ (j : Nat) (u : Value), (xs.take (i * 3) ++ xs.drop ((i + 1) * 3))[j]? = some u → R2[j]? = some u := fun j u hu => by
    have hlt : j < (n - 1) * 3 := by have := (List.getElem?_eq_some_iff.1 hu).1; omega
    rw [← hR1t] at hu
    rw [eR2]
    simp only [List.append_assoc]
    rw [List.getElem?_toArray, List.getElem?_append_left (by rw [List.length_take, Array.length_toList]; omega)]
    exact hu
  have HF := Lib.hid hfin
  have HIL := Lib.hid hrl
  have HNC := Lib.hid hnc
  unfold maxLen at hcm
  have e1 : ¬ ((i : Int) = (i : Int) + 1) := by omega
  clear hfin hrl htake eR1 eR2 hdl h1 hR1z hR1t zv zc hi0 hz0 hzs hzb hzc hcs
  go_enter Tryz.func64, Tryz.ntmps64
  go_wp2_with fail
  refine wp_region_q (fun _ => True) (qe [6] 8) mixed (by kernel_rfl) trivial ?_
  intro Tp M Q hT hT' hM hQ
  have ei : ((i : Int) + 1).toNat = i + 1 := by omega
  simp only [qcmp, Nat.reduceBEq]
  simp (maxSteps := 5000000) only [↓qpre, qpost, qfacts, qnorm, ei, sliced_some hc0, eA, Nat.zero_add, Nat.zero_mul, Nat.sub_zero]
  refine ⟨⟨by omega, by omega⟩, ⟨by omega, by omega⟩, ?_⟩
  refine T.eff_appendRun rfl rfl (hap _ _) ⟨hT _ trivial, ?_⟩
  simp (maxSteps := 5000000) only [↓qpre, qpost, qnorm]
  refine hQ _ _ ?_
  have hn1 : n - (n - 1) = 1 := by omega
  have hcn : ¬ cap = n - 1 := by omega
  clear hQ hT hT' hM hap eA
  go_wp2_with (at_builtin; refine wpl_clear rfl _ 22 rfl _ rfl (hcl _ _) ?_)
  go_ret
  exact ⟨rfl, rd_setRow hN1 (by have := HNC.out; omega) HIL.out HF.out, grown_setRow hgr1 (.inr rfl)⟩

set_option maxRecDepth 100000 in
set_option maxHeartbeats 8000000 in
theorem drop_any {A : Option Addr} {n c : Nat} {l : List FV} {p : ByteArray} {w : World} (hn : n ≤ 17592186044416) (hm : Lm w) (h : RdF w w.heap.size A n c l) :
    Calls Tryz.prog 34 #[.slice A n c, .string p] w (FilesErr (dropF l p) w) := by
  have HL := Lib.hid h.len
  have HF := Lib.hid h.fits
  have MORE : ∀ {u v : World}, Below w.heap.size w u → Below u.heap.size u v → Below w.heap.size w v := fun h1 h2 => h1.trans (h2.mono h1.size)
  have RD : ∀ u, Below w.heap.size w u → RdF u u.heap.size A n c l := fun u hu => h.to hu hu.size
  go_enter Tryz.func34, Tryz.ntmps34
  go_wp2_with fail
  refine (treeRight_any hn hm (RD w (Below.refl _ _))).mono ?_
  rintro e w1 ⟨rfl, hb1⟩
  cases ht : treeOk l with
  | false =>
    have HP := Lib.hid (show dropF l p = ([], 5) by simp [dropF, ht])
    clear ht
    go_wp2
    go_ret2
    exact filesErr_none HP.out hb1
  | true =>
  have hlen := treeOk_len ht
  rw [HL.out] at hlen
  have HT := Lib.hid ht
  clear ht
  go_wp2_with fail
  refine (treeAt_any (p := p) hn (RD _ hb1)).mono ?_
  rintro e w2 ⟨k, rfl, hk, hv⟩
  have hb2 := MORE hb1 hv
  clear hb1 hv
  rcases hk with ⟨rfl, hno⟩ | ⟨j, g, rfl, hf⟩
  · have HP := Lib.hid (show dropF l p = ([], 8) by simp [dropF, HT.out, (findP_no (p := p) hno).2])
    clear hno
    go_wp2
    go_ret2
    exact filesErr_none HP.out hb2
  · have hj : j < n := by have := (List.getElem?_eq_some_iff.1 hf.1).1; rw [HL.out] at this; exact this
    have hgp : g.path = p := by simpa [isP] using hf.2.1
    have HD := Lib.hid (drop_at (treeOk_iff.1 HT.out).2.2.1 hf.1 hgp)
    have HP := Lib.hid (show dropF l p = (l.take j ++ l.drop (j + 1), 0) by
      rw [← HD.out]
      simp [dropF, HT.out, hasP_iff.2 ⟨g, List.mem_of_getElem? hf.1, hgp⟩])
    clear hf hgp
    go_wp2_with fail
    refine (cloneF_any (by omega) (RD _ hb2)).mono ?_
    rintro e w3 ⟨v, rfl, ho, hv⟩
    have hb3 := MORE hb2 hv
    rcases ho.2 with ⟨_, h0⟩ | ⟨gb, cap, cur, rfl, hgb, hg, hnc, hcm, hcs, htake⟩
    · omega
    have C := deleteF_any (i := j) (by omega) hg hnc hcm hcs htake (one_files l) hj
    clear hg htake hcs hcm hv
    go_wp2_with fail
    refine C.mono ?_
    rintro e w4 ⟨rfl, hr4, hg4⟩
    have hb4 : Below w.heap.size w w4 := hb3.grown hg4 hb3.size (fun g hg => by have := hb2.size; injection hg with hg; omega)
    clear C
    go_wp2
    go_ret2
    have hll : (l.take j ++ l.drop (j + 1)).length = n - 1 := by rw [List.length_append, List.length_take, List.length_drop, HL.out]; omega
    rw [T.flat_take FV.cells_len, T.flat_drop FV.cells_len, ← List.flatMap_append] at hr4
    refine filesErr_ok hll HP.out ⟨hr4, hll, fun x hx => ?_⟩ hb4
    rcases List.mem_append.1 hx with hx | hx
    · exact HF.out x (List.mem_of_mem_take hx)
    · exact HF.out x (List.mem_of_mem_drop hx)
end Go.Proofs.YtahlfafcjjkliaaGreatDoor
