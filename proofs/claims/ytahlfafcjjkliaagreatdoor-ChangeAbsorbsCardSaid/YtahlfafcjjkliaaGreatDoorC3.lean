/- Walk: the document's Changes. -/
import Derived.Test.YtahlfafcjjkliaaGreatDoorCN
namespace Go.Proofs.YtahlfafcjjkliaaGreatDoor
open Go.RowKit

theorem T.eff_build {P : Program} {S : World → Prop} {a : Act} {w : World} {K : Act → World → Prop} {dst : Option Tmp} {t ty : TypeId} {parts : Array (Nat × Operand)} {q : Bool} {g : Option (Tmp × Bool)} {vs : Array (Nat × Value)} {v : Value}
    (hv : (parts.toList.map fun p => (p.1, a.eval p.2)).toArray = vs) (hr : (Instr.build t vs).run P w = .ok v w) (hK : S w ∧ K (a.put dst v) w) : effq P S ⟨q, dst, .build t parts, ty, g⟩ a w K := by
  refine eff_val (fun p af g => ?_) hK
  have hv' : (parts.map fun p => (p.1, a.eval p.2)) = vs := by rw [← hv]; apply Array.toList_inj.1; simp
  unfold execOp
  simp only [hv', hr, Sem.run_bind, Sem.run_pure, Result.andThen_ok]
theorem T.run_lits1 {P : Program} {t e : TypeId} {bytes : Nat} (E : Elem P t e 1 bytes) (s : ByteArray) (w : World) :
    (Instr.buildSlice t 1 #[(0, .string s)]).run P w = .ok (.slice (some ⟨w.heap.size, 0, none⟩) 1 1) (w.alloc (.cells #[.string s] e)) := by
  obtain ⟨i, z, hi, hz, hsz, hby, hzs⟩ := E.row
  obtain ⟨z0, hzc⟩ : ∃ z0, z.cells = #[z0] := by
    have := hzs
    match h : z.cells, this with
    | ⟨[z0]⟩, _ => exact ⟨z0, rfl⟩
  simp [Instr.buildSlice, run_underlying E.und, sizeOf, typeInfo, hi, hsz, zeroValue, hz, Instr.fill, Value.cells, hzc, newRow, show Array.range 1 = #[0] from rfl]
theorem rd_litP (w : World) (x : ByteArray) : Rd (w.alloc (.cells #[.string x] 9)) (w.alloc (.cells #[.string x] 9)).heap.size 1 (some ⟨w.heap.size, 0, none⟩) 1 1 ([x].map .string) := by
  have := rd_litS2 w x
  rw [show (w.alloc (.cells #[.string x] 9)).heap.size = w.heap.size + 1 by simp]
  exact this
theorem rdS_cut {w : World} {B n c l k : Nat} {A : Option Addr} {xs : List ByteArray} (h : Rd w B 1 A n c (xs.map .string)) (hl : l ≤ k) (hk : k ≤ n) :
    ∃ A', sliced A l k c 1 = .slice A' (k - l) (c - l) ∧ Rd w B 1 A' (k - l) (c - l) (((xs.take k).drop l).map .string) := by
  refine ⟨_, rfl, ?_⟩
  have := h.cut hl hk
  simp only [Nat.mul_one] at this ⊢
  rw [← List.map_take, ← List.map_drop] at this
  exact this
/-- One path more, in its place. -/
theorem insP_cut {N : List ByteArray} {p : ByteArray} {k : Nat} (hn : hasS N p = false) (h1 : ∀ i x, i < k → N[i]? = some x → x.data.toList < p.data.toList) (h2 : ∀ x, N[k]? = some x → ¬ x.data.toList < p.data.toList) (hk : k ≤ N.length) :
    insP N p = N.take k ++ p :: N.drop k := by
  rw [insP, if_neg (by rw [hn]; decide)]
  have e1 : ∀ {A B : List ByteArray}, (∀ x ∈ A, x.data.toList < p.data.toList) → (∀ x, B[0]? = some x → ¬ x.data.toList < p.data.toList) →
      (A ++ B).takeWhile (fun q => decide (q.data.toList < p.data.toList)) = A ∧ (A ++ B).dropWhile (fun q => decide (q.data.toList < p.data.toList)) = B := by
    intro A
    induction A with
    | nil =>
      intro B _ h
      cases B with
      | nil => exact ⟨rfl, rfl⟩
      | cons y B =>
        have := h y rfl
        rw [List.nil_append, List.takeWhile_cons, List.dropWhile_cons, if_neg (by simpa using this), if_neg (by simpa using this)]
        exact ⟨rfl, rfl⟩
    | cons y A ih =>
      intro B h1 h2
      have := ih (fun x hx => h1 x (List.mem_cons_of_mem _ hx)) h2
      have hy := h1 y (by simp)
      rw [List.cons_append, List.takeWhile_cons, List.dropWhile_cons, if_pos (decide_eq_true hy), if_pos (decide_eq_true hy), this.1, this.2]
      exact ⟨rfl, rfl⟩
  have := e1 (A := N.take k) (B := N.drop k) (fun x hx => by
    obtain ⟨i, hi, e⟩ := List.getElem_of_mem hx
    rw [List.length_take] at hi
    rw [List.getElem_take] at e
    exact h1 i x (by omega) (by rw [← e]; exact List.getElem?_eq_getElem _)) (fun x hx => h2 x (by rwa [List.getElem?_drop, Nat.add_zero] at hx))
  rw [List.take_append_drop] at this
  rw [this.1, this.2]
theorem namesOf_next {l : List FV} {j : Nat} {f : FV} (h : l[j]? = some f) : namesOf (l.take (j + 1)) = insP (namesOf (l.take j)) f.path := by
  rw [List.take_add_one, h]; exact namesOf_snoc _ _
theorem namesOf_take_le (l : List FV) (j : Nat) : (namesOf (l.take j)).length ≤ j := Nat.le_trans (namesOf_len _) (List.length_take_le _ _)

theorem Box.grown {g : FV} {b : Nat} {u u' : World} {row : Option Nat} (h : Box g b u) (hg : u.grownBy u' row) (hne : some b ≠ row) : Box g b u' :=
  ⟨Nat.lt_of_lt_of_le h.1 hg.size, fun i v hv => by rw [World.cell?, hg.block b h.1 hne]; exact h.2 i v hv⟩
set_option maxRecDepth 100000 in
set_option maxHeartbeats 32000000 in
theorem rchanges_any {A A' : Option Addr} {m ca m' cb : Nat} {a b : List FV} {w : World} (hn : m ≤ 1000000) (hn' : m' ≤ 1000000) (ha : RdF w w.heap.size A m ca a) (hb : RdF w w.heap.size A' m' cb b) :
    Calls Tryz.prog 14 #[.slice A m ca, .slice A' m' cb] w (ChgsIs (· = changesF a b) w) := by
  have HLa := Lib.hid ha.len
  have HLb := Lib.hid hb.len
  have HFa := Lib.hid ha.fits
  have HFb := Lib.hid hb.fits
  have hab := ha.row
  have hbb := hb.row
  go_enter Tryz.func14, Tryz.ntmps14
  go_wp2_with (at_builtin; first
    | (refine wpl_append rfl (.const (.slice none 0 0)) (.tmp 15) 22 rfl E_files rfl rfl (World.ownsRow_nil w w.heap.size _ _) hab (one_files _) (by unfold maxLen; omega) (by omega) (Nat.le_refl _) ?_
       intro v1 w1 ho1 hg1 hv1
       rw [Nat.zero_add, List.nil_append] at ho1
       have hw1 : Below w.heap.size w w1 := (Below.refl _ _).grown hg1 (Nat.le_refl _) (fun g hg => by cases hg)
       have hbb1 := hbb.below hw1)
    | (refine wpl_append rfl (.tmp 16) (.tmp 17) 22 rfl E_files rfl rfl ho1 hbb1 (one_files _) (by unfold maxLen; omega) (by omega) hw1.size ?_
       intro v2 W ho2 hg2 hv2))
  rw [← List.flatMap_append] at ho2
  obtain ⟨M, hMM⟩ : ∃ M, m + m' = M := ⟨_, rfl⟩
  have hM2 : M ≤ 2000000 := by omega
  rw [hMM] at ho2
  have hW : Below w.heap.size w W := hw1.grown hg2 hw1.size (fun g hg => (ho1.lt g hg).1)
  obtain ⟨A6, c6, rfl, hc6⟩ := ownsRow_cap ho2
  have hrow := Rd.of_own ho2 hc6
  obtain ⟨L, hL⟩ : ∃ L, L = a ++ b := ⟨_, rfl⟩
  have hLl : L.length = M := by rw [hL, List.length_append, HLa.out, HLb.out]; exact hMM
  have hall : RdF W W.heap.size A6 (M) c6 L := ⟨by rw [hL]; exact hrow, hLl, fun f hf => by
    rw [hL] at hf
    rcases List.mem_append.1 hf with hf | hf
    · exact HFa.out f hf
    · exact HFb.out f hf⟩
  have HLE := Lib.hid hL
  have HLL := Lib.hid hLl
  replace ha := ha.to hW hW.size
  replace hb := hb.to hW hW.size
  clear hMM hL hLl ho1 ho2 hg1 hg2 hv1 hv2 hw1 hbb1 hrow hab hbb hc6
  go_wp2
  go_loopw [5, 7] (fun pv i wr => ∃ (j n : Nat) (Ap : Option Addr) (cp : Nat) (N : List ByteArray), j ≤ M ∧ n ≤ j ∧ i = .int .i64 j ∧ pv = .slice Ap n cp ∧ Hid (N = namesOf (L.take j)) ∧ Hid (N.length = n) ∧ Rd wr wr.heap.size 1 Ap n cp (N.map .string) ∧ Below W.heap.size W wr) (fun _ i _ => M - (intOf i).toNat)
  case atStart => exact ⟨0, 0, none, 0, [], by omega, by omega, rfl, rfl, by rw [List.take_zero]; exact rfl, Lib.hid rfl, Rd.none_ _ _ _, Below.refl _ _⟩
  case round =>
    obtain ⟨j, n, Ap, cp, N, hjm, hnj, rfl, rfl, HN, HL, hr, hbr⟩ := hrel
    by_cases hlt : j < M
    · obtain ⟨b1, o1, f, rfl, hb1, hx, hfm, h0, _, _⟩ := hall.get hlt
      have HX := Lib.hid (namesOf_next hx)
      have hfits := (hall.fits f hfm).1
      clear hx
      have h0' := (hbr.cell (p := ⟨b1, o1 + j * 3, none⟩) hb1).trans h0
      have C := inS_any (p := f.path) (by omega) hr
      cases hin : hasS N f.path with
      | true =>
        rw [hin] at C
        have HP := Lib.hid (show N = namesOf (L.take (j + 1)) by rw [HX.out, ← HN.out, insP, if_pos hin])
        clear hin
        go_wp2_with fail
        refine C.mono ?_
        rintro e w3 ⟨rfl, rfl⟩
        clear C h0 h0' hall
        go_wp2
        go_roundw
        case rel => exact ⟨j + 1, n, Ap, cp, N, by omega, by omega, by go_num, rfl, HP, HL, hr, hbr⟩
        case measure => simp [intOf]; omega
      | false =>
        rw [hin] at C
        have HI := Lib.hid hin
        clear hin
        go_wp2_with fail
        refine C.mono ?_
        rintro e w3 ⟨rfl, rfl⟩
        clear C
        have hcap := hr.cap
        have HR0 := Lib.hid hr
        obtain ⟨V, hV⟩ : ∃ V, V = w3 := ⟨_, rfl⟩
        have hbo : Below W.heap.size W V := by rw [hV]; exact hbr
        have hb1V : b1 < V.heap.size := Nat.lt_of_lt_of_le hb1 hbo.size
        have hVV : Below V.heap.size V w3 := by rw [hV]; exact Below.refl _ _
        replace h0' : V.cell? ⟨b1, o1 + j * 3, none⟩ = some (.string f.path) := by rw [hV]; exact h0'
        replace hr : Rd V V.heap.size 1 Ap n cp (N.map .string) := by rw [hV]; exact hr
        clear hV hbr HR0 h0 hall
        go_wp2
        rename_i K hK
        have TAIL : ∀ (wr : World) (k : Nat) (u19 u20 u21 u22 u23 u24 u25 u26 u27 u28 u29 u30 u31 u32 u33 u34 u35 u36 u37 u38 u39 u40 u41 u42 u43 u44 u45 u46 u47 u48 u49 u50 u51 u52 u53 u54 u55 u56 u57 u58 u59 u60 u61 u62 u63 u64 : Value), k ≤ n → Below V.heap.size V wr → Hid (insP N f.path = N.take k ++ f.path :: N.drop k) → K ⟨#[.slice A m ca, .slice A' m' cb, undef, undef, .slice none 0 0, .slice Ap n cp, .slice (some ⟨b1, o1, none⟩) (M) c6, .int .i64 j, .int .i64 k, undef, undef, undef, undef, undef, undef, .slice A m ca, v1, .slice A' m' cb, .slice (some ⟨b1, o1, none⟩) (M) c6, u19, u20, u21, u22, u23, u24, u25, u26, u27, u28, u29, u30, u31, u32, u33, u34, u35, u36, u37, u38, u39, u40, u41, u42, u43, u44, u45, u46, u47, u48, u49, u50, u51, u52, u53, u54, u55, u56, u57, u58, u59, u60, u61, u62, u63, u64, undef, undef, undef, undef, undef, undef, undef, undef, undef, undef, undef, undef, undef, undef, undef, undef, undef, undef, undef, undef, undef, undef, undef, undef, undef, undef, undef, undef, undef, undef, undef, undef, undef, undef, undef, undef, undef, undef, undef, undef, undef, undef, undef, undef, undef, undef, undef, undef, undef, undef, undef, undef, undef, undef, undef, undef], []⟩ wr := by
          intro wr k u19 u20 u21 u22 u23 u24 u25 u26 u27 u28 u29 u30 u31 u32 u33 u34 u35 u36 u37 u38 u39 u40 u41 u42 u43 u44 u45 u46 u47 u48 u49 u50 u51 u52 u53 u54 u55 u56 u57 u58 u59 u60 u61 u62 u63 u64 hk hbr HP
          refine hK _ _ ?_
          clear hK
          have HR := Lib.hid (hr.below hbr)
          go_wp2
          refine wp_region_t (fun v' => Below V.heap.size V v') (.q 0 (.q 1 (.q 2 (.q 4 (.q 5 (.q 6 (.q 7 (.q 8 (.q 11 (.q 12 (.q 13 (.two 3 (.one 9 (.one 10 (.one 14 (.q 15 .leaf)))) 9 (.one 3 (.one 10 (.one 14 (.q 15 .leaf)))))))))))))))) mixed (by kernel_rfl) hbr.drew ?_
          intro Tp M Q hT hT' hM hQ
          have m0 : M ⟨b1, o1 + j * 3, none⟩ = some (.string f.path) := hM _ _ fun w' hw => (hw.cell (p := ⟨b1, o1 + j * 3, none⟩) (by show b1 < _; omega)).trans h0'
          clear hM
          refine wt_gen ?_
          intro O hO
          have t0 := hO true 0
          have t1 := hO true 1
          have t2 := hO true 2
          have t4 := hO true 4
          have t5 := hO true 5
          have t6 := hO true 6
          have t7 := hO true 7
          have t8 := hO true 8
          have t11 := hO true 11
          have t12 := hO true 12
          have t13 := hO true 13
          have t15 := hO true 15
          have e3 := hO false 3
          have e9 := hO false 9
          have e10 := hO false 10
          have e14 := hO false 14
          simp only [qcmp] at t0 t1 t2 t4 t5 t6 t7 t8 t11 t12 t13 t15 e3 e9 e10 e14
          clear hO
          simp (maxSteps := 5000000) only [↓wt_q, ↓wt_two, t0, t1, t2, t4, t5, t6, t7, t8, t11, t12, t13, e3, e9, ↓qpre, qpost, qfacts, qnorm, m0]
          clear t0 t1 t2 t4 t5 t6 t7 t8 t11 t12 t13 m0
          have hrd := HR.out.drew
          have hbd : Below V.heap.size V wr.drew := hbr.drew
          clear hbr
          generalize wr.drew = w1 at *
          obtain ⟨A1, q1, r1⟩ := rdS_cut hrd (l := 0) (k := k) (by omega) hk
          obtain ⟨A2, q2, r2⟩ := rdS_cut hrd (l := k) (k := n) hk (Nat.le_refl _)
          rw [q1, q2]
          rw [Nat.sub_zero, List.drop_zero] at r1
          rw [List.take_of_length_le (by rw [HL.out]; omega)] at r2
          clear q1 q2 hrd
          have hbs := hbd.size
          simp only [Nat.sub_zero]
          refine ⟨⟨by omega, by omega⟩, ⟨by omega, by omega⟩, ⟨by omega, by omega⟩, ?_, ?_⟩
          · refine eff_append E_strs2 (base := V.heap.size) (n := 0) (xs := []) rfl rfl (World.ownsRow_nil _ _ _ _) r1 (oneCell_str _) (by simp only [maxLen]; omega) (by omega) hbs ?_
            intro v1 w2 ho1 hg1 _
            rw [Nat.zero_add, List.nil_append] at ho1
            have hb2 := hbd.grown hg1 hbs (fun g hg => by cases hg)
            replace r2 := r2.below (grown_b (w := w1) (w' := w2) hg1 |>.mono hbs)
            refine ⟨hT _ hb2, ?_⟩
            simp (maxSteps := 5000000) only [↓wt_one, e9, qpost, qnorm]
            refine T.eff_lits (T.run_lits1 E_strs2 f.path _) rfl ⟨hT _ (hb2.alloc hb2.size _), ?_⟩
            have ho1' := ho1.alloc (.cells #[.string f.path] 9)
            have hv := rd_litP w2 f.path
            have hb3 := hb2.alloc hb2.size (.cells #[.string f.path] 9)
            replace r2 := r2.below ((Below.refl w2.heap.size w2).alloc (Nat.le_refl _) (.cells #[.string f.path] 9) |>.mono hb2.size)
            clear ho1 hg1 hb2 r1 hbd hbs
            simp (maxSteps := 5000000) only [↓wt_one, e10, qpost, qnorm]
            generalize w2.alloc (.cells #[.string f.path] 9) = w3 at *
            refine eff_append E_strs2 (base := V.heap.size) (n := k) rfl rfl ho1' hv (oneCell_str _) (by simp only [maxLen]; omega) (by omega) hb3.size ?_
            intro v4 w4 ho4 hg4 _
            have hb4 := hb3.grown hg4 hb3.size (fun g hg => (ho1'.lt g hg).1)
            replace r2 := r2.grown hg4 hb3.size (fun g hg => (ho1'.lt g hg).1)
            refine ⟨hT _ hb4, ?_⟩
            simp (maxSteps := 5000000) only [↓wt_one, e14, qpost, qnorm]
            refine eff_append E_strs2 (base := V.heap.size) (n := k + 1) rfl rfl ho4 r2 (oneCell_str _) (by simp only [maxLen]; omega) (by omega) hb4.size ?_
            intro v5 w5 ho5 hg5 _
            have hb5 := hb4.grown hg5 hb4.size (fun g hg => (ho4.lt g hg).1)
            refine ⟨hT _ hb5, ?_⟩
            simp (maxSteps := 5000000) only [↓wt_leaf, ↓wt_q, t15, ↓qpre, qpost, qnorm]
            refine hQ _ _ ?_
            have HB := Lib.hid hb5
            have HO := Lib.hid ho5
            clear hQ hT hT' t15 e3 e9 e10 e14 ho1' hv hb3 ho4 hg4 hb4 r2 hb5 ho5 hg5
            go_wp2
            have ho := HO.out
            have e : k + 1 + (n - k) = n + 1 := by omega
            rw [e, ← List.map_append, ← List.map_append] at ho
            obtain ⟨A5, c5, rfl, hc5⟩ := ownsRow_cap ho
            have hr5 := Rd.of_own ho hc5
            clear ho
            go_roundw
            case rel =>
              refine ⟨j + 1, n + 1, A5, c5, N.take k ++ [f.path] ++ N.drop k, by omega, by omega, by go_num, rfl, Lib.hid ?_, Lib.hid ?_, hr5, hbo.trans (HB.out.mono hbo.size)⟩
              · rw [HX.out, ← HN.out, HP.out]; simp
              · rw [List.length_append, List.length_append, List.length_take, List.length_drop, HL.out, Nat.min_eq_left hk]; exact e
            case measure => simp [intOf]; omega
          · refine T.eff_lits (T.run_lits1 E_strs2 f.path _) rfl ⟨hT _ (hbd.alloc hbs _), ?_⟩
            have hv0 := rd_litP w1 f.path
            have hb2 := hbd.alloc hbs (.cells #[.string f.path] 9)
            replace r1 := r1.below ((Below.refl w1.heap.size w1).alloc (Nat.le_refl _) (.cells #[.string f.path] 9) |>.mono hbs)
            replace r2 := r2.below ((Below.refl w1.heap.size w1).alloc (Nat.le_refl _) (.cells #[.string f.path] 9) |>.mono hbs)
            simp (maxSteps := 5000000) only [↓wt_one, e3, qpost, qnorm]
            generalize w1.alloc (.cells #[.string f.path] 9) = w2 at *
            have hbs2 := hb2.size
            refine eff_append E_strs2 (base := V.heap.size) (n := 0) (xs := []) rfl rfl (World.ownsRow_nil _ _ _ _) r1 (oneCell_str _) (by simp only [maxLen]; omega) (by omega) hbs2 ?_
            intro v1 w3 ho1' hg1 _
            rw [Nat.zero_add, List.nil_append] at ho1'
            have hb3 := hb2.grown hg1 hbs2 (fun g hg => by cases hg)
            have hgb := grown_b (w := w2) (w' := w3) hg1
            replace r2 := r2.below (hgb.mono hbs2)
            have hv := hv0.below hgb
            clear hv0 hg1 hb2 r1 hbd hbs hbs2 hgb
            refine ⟨hT _ hb3, ?_⟩
            simp (maxSteps := 5000000) only [↓wt_one, e10, qpost, qnorm]
            refine eff_append E_strs2 (base := V.heap.size) (n := k) rfl rfl ho1' hv (oneCell_str _) (by simp only [maxLen]; omega) (by omega) hb3.size ?_
            intro v4 w4 ho4 hg4 _
            have hb4 := hb3.grown hg4 hb3.size (fun g hg => (ho1'.lt g hg).1)
            replace r2 := r2.grown hg4 hb3.size (fun g hg => (ho1'.lt g hg).1)
            refine ⟨hT _ hb4, ?_⟩
            simp (maxSteps := 5000000) only [↓wt_one, e14, qpost, qnorm]
            refine eff_append E_strs2 (base := V.heap.size) (n := k + 1) rfl rfl ho4 r2 (oneCell_str _) (by simp only [maxLen]; omega) (by omega) hb4.size ?_
            intro v5 w5 ho5 hg5 _
            have hb5 := hb4.grown hg5 hb4.size (fun g hg => (ho4.lt g hg).1)
            refine ⟨hT _ hb5, ?_⟩
            simp (maxSteps := 5000000) only [↓wt_leaf, ↓wt_q, t15, ↓qpre, qpost, qnorm]
            refine hQ _ _ ?_
            have HB := Lib.hid hb5
            have HO := Lib.hid ho5
            clear hQ hT hT' t15 e3 e9 e10 e14 ho1' hv hb3 ho4 hg4 hb4 r2 hb5 ho5 hg5
            go_wp2
            have ho := HO.out
            have e : k + 1 + (n - k) = n + 1 := by omega
            rw [e, ← List.map_append, ← List.map_append] at ho
            obtain ⟨A5, c5, rfl, hc5⟩ := ownsRow_cap ho
            have hr5 := Rd.of_own ho hc5
            clear ho
            go_roundw
            case rel =>
              refine ⟨j + 1, n + 1, A5, c5, N.take k ++ [f.path] ++ N.drop k, by omega, by omega, by go_num, rfl, Lib.hid ?_, Lib.hid ?_, hr5, hbo.trans (HB.out.mono hbo.size)⟩
              · rw [HX.out, ← HN.out, HP.out]; simp
              · rw [List.length_append, List.length_append, List.length_take, List.length_drop, HL.out, Nat.min_eq_left hk]; exact e
            case measure => simp [intOf]; omega

        clear hK
        have HR := Lib.hid hr
        go_loopw [8] (fun i wr' => ∃ k : Nat, k ≤ n ∧ i = .int .i64 k ∧ Below V.heap.size V wr' ∧ Hid (∀ i x, i < k → N[i]? = some x → x.data.toList < f.path.data.toList)) (fun i _ => n - (intOf i).toNat)
        case atStart => exact ⟨0, Nat.zero_le _, rfl, hVV, Lib.hid (fun i x hi => absurd hi (Nat.not_lt_zero _))⟩
        case round =>
          clear hVV
          obtain ⟨k, hk, rfl, hbr, hj⟩ := hrel
          have CUT : (∀ x, N[k]? = some x → ¬ x.data.toList < f.path.data.toList) → Hid (insP N f.path = N.take k ++ f.path :: N.drop k) := fun hn => insP_cut HI.out hj.out hn (by rw [HL.out]; exact hk)
          by_cases hlk : k < n
          · obtain ⟨b0, o0, x, rfl, hbb, hx, h0⟩ := HR.out.str hlk
            go_wp2
            refine wp_region_q (fun w' => Below V.heap.size V w') (qs 16) mixed (by kernel_rfl) hbr.drew ?_
            have hbd := hbr.drew
            intro Tp M Q hT hT' hM hQ
            have m0 : M ⟨b0, o0 + k, none⟩ = some (.string x) := hM _ _ fun w' hw => (hw.cell (p := ⟨b0, o0 + k, none⟩) hbb).trans h0
            have mb : M ⟨b1, o1 + j * 3, none⟩ = some (.string f.path) := hM _ _ fun w' hw => (hw.cell (p := ⟨b1, o1 + j * 3, none⟩) hb1V).trans h0'
            simp only [qcmp, Nat.reduceBEq]
            have hk1 : decide ((k : Int) < n) = true := decide_eq_true (by omega)
            by_cases hq : x.data.toList < f.path.data.toList
            · have hl := (lt_str x f.path).trans (decide_eq_true hq)
              have HQ := Lib.hid (show ∀ i y, i < k + 1 → N[i]? = some y → y.data.toList < f.path.data.toList from fun i y hi' hy' => by
                by_cases e : i = k
                · subst e; rw [hx] at hy'; injection hy' with hy'; subst hy'; exact hq
                · exact hj.out i y (by omega) hy')
              clear hq hx CUT
              simp (maxSteps := 5000000) only [↓qpre, qpost, qfacts, qnorm, m0, mb, hk1, hl]
              refine ⟨⟨by omega, by omega⟩, ⟨by omega, by omega⟩, hQ _ _ ?_⟩
              clear hQ hT hT' hM m0 mb hl TAIL
              go_wp2
              go_roundw
              case rel => exact ⟨k + 1, by omega, by go_num, hbd, HQ.out⟩
              case measure => simp [intOf]; omega
            · have hl := (lt_str x f.path).trans (decide_eq_false hq)
              have HC := CUT (fun y hy' => by rw [hx] at hy'; injection hy' with hy'; subst hy'; exact hq)
              clear hq hx CUT
              simp (maxSteps := 5000000) only [↓qpre, qpost, qfacts, qnorm, m0, mb, hk1, hl]
              refine ⟨⟨by omega, by omega⟩, ⟨by omega, by omega⟩, hQ _ _ ?_⟩
              clear hQ hT hT' hM m0 mb hl
              go_wp2
              exact TAIL _ k _ _ _ _ _ _ _ _ _ _ _ _ _ _ _ _ _ _ _ _ _ _ _ _ _ _ _ _ _ _ _ _ _ _ _ _ _ _ _ _ _ _ _ _ _ _ hk hbd HC
          · have hkn : k = n := by omega
            subst hkn
            have HC := CUT (fun y hy' => by have := (List.getElem?_eq_some_iff.1 hy').1; rw [HL.out] at this; omega)
            clear CUT
            go_wp2
            refine wp_region_q (fun w' => Below V.heap.size V w') (qs 16) mixed (by kernel_rfl) hbr.drew ?_
            have hbd := hbr.drew
            intro Tp M Q hT hT' hM hQ
            simp only [qcmp, Nat.reduceBEq]
            have hk1 : decide ((k : Int) < k) = false := decide_eq_false (by omega)
            simp (maxSteps := 5000000) only [↓qpre, qpost, qfacts, qnorm, hk1]
            refine hQ _ _ ?_
            clear hQ hT hT' hM
            go_wp2
            exact TAIL _ k _ _ _ _ _ _ _ _ _ _ _ _ _ _ _ _ _ _ _ _ _ _ _ _ _ _ _ _ _ _ _ _ _ _ _ _ _ _ _ _ _ _ _ _ _ _ hk hbd HC
    · obtain rfl : j = M := by omega
      rw [List.take_of_length_le (by rw [HLL.out]; exact Nat.le_refl _), HLE.out] at HN
      have hbw := hW.trans (hbr.mono hW.size)
      obtain ⟨w5, hw5⟩ : ∃ u, u = wr := ⟨_, rfl⟩
      have hb5 : Below w.heap.size w w5 := by rw [hw5]; exact hbw
      have hr5 : Rd w5 w5.heap.size 1 Ap n cp (N.map .string) := by rw [hw5]; exact hr
      have RA : ∀ u, Below w5.heap.size w5 u → RdF u u.heap.size A m ca a := fun u hu => (ha.to (hbr.trans (by rw [← hw5]; exact hu.mono (by rw [hw5]; exact hbr.size))) (Nat.le_trans hbr.size (by rw [← hw5]; exact hu.size)))
      have RB : ∀ u, Below w5.heap.size w5 u → RdF u u.heap.size A' m' cb b := fun u hu => (hb.to (hbr.trans (by rw [← hw5]; exact hu.mono (by rw [hw5]; exact hbr.size))) (Nat.le_trans hbr.size (by rw [← hw5]; exact hu.size)))
      have hst : Below w5.heap.size w5 wr := by rw [hw5]; exact Below.refl _ _
      have HX := Lib.hid (show ∀ x ∈ N, x.size ≤ 140737488351232 from fun x hx => by
        rw [HN.out] at hx
        obtain ⟨f, hf, e⟩ := namesOf_mem.1 hx
        rw [← e]
        rcases List.mem_append.1 hf with hf | hf
        · exact (HFa.out f hf).1
        · exact (HFb.out f hf).1)
      clear hw5 hr hbr hbw ha hb hall
      go_wp2
      go_loopw [9, 10] (fun lv i wq => ∃ (k q : Nat), k ≤ n ∧ i = .int .i64 k ∧ Below w5.heap.size w5 wq ∧ q ≤ k ∧ Hid (((N.take k).flatMap (chgAt a b)).length = q) ∧ wq.ownsRow w5.heap.size 29 4 lv q (((N.take k).flatMap (chgAt a b)).flatMap ChV.cells)) (fun _ i _ => n - (intOf i).toNat)
      case atStart => exact ⟨0, 0, Nat.zero_le _, rfl, hst, Nat.le_refl _, by rw [List.take_zero]; exact rfl, by rw [List.take_zero]; exact World.ownsRow_nil _ _ _ _⟩
      case round =>
        clear hst
        obtain ⟨k, q, hk, rfl, hb6, hqk, hm, ho6⟩ := hrel
        by_cases hlt : k < n
        · have HK := Lib.hid (show q + 1 ≤ 2000000 by omega)
          obtain ⟨b0, o0, x, rfl, hbb, hx, h0⟩ := hr5.str hlt
          have h05 := h0
          replace h0 := (hb6.cell (p := ⟨b0, o0 + k, none⟩) (by show b0 < _; omega)).trans h0
          have hxs := HX.out x (List.mem_of_getElem? hx)
          have HT := Lib.hid (show (N.take (k + 1)).flatMap (chgAt a b) = (N.take k).flatMap (chgAt a b) ++ chgAt a b x by rw [List.take_add_one, hx]; simp)
          clear hx
          go_wp2_with fail
          refine (rfind_any (p := x) (by omega) (RA _ hb6)).mono ?_
          rintro e v1 ⟨rfl, hv1⟩
          have hb7 := hb6.trans (hv1.mono hb6.size)
          have ho7 := ho6.kept (below_grown hv1) (by cases u9.ownBlock <;> simp)
          clear hb6 hv1 ho6 h0
          generalize hfa : findP a x = fa
          generalize hga : optF fa = ga
          obtain ⟨v2, hv2⟩ : ∃ u, u = v1.alloc (.cells #[.string ga.path, .bool ga.exec, .string ga.text] 35) := ⟨_, rfl⟩
          have hb8 : Below w5.heap.size w5 v2 := by rw [hv2]; exact hb7.alloc hb7.size _
          have ho8 : v2.ownsRow w5.heap.size 29 4 u9 q (((N.take k).flatMap (chgAt a b)).flatMap ChV.cells) := by rw [hv2]; exact ho7.alloc _
          have xa : Box ga v1.heap.size v2 := by rw [hv2]; exact Box.new _ _
          have h0 := (hb8.cell (p := ⟨b0, o0 + k, none⟩) (by show b0 < _; omega)).trans h05
          rw [hv2] at h0
          replace hv2 := Lib.hid hv2
          clear hb7 ho7
          go_wp2_with fail
          rw [← hv2.out]
          clear hv2 h0
          refine (rfind_any (p := x) (by omega) (RB _ hb8)).mono ?_
          rintro e v3 ⟨rfl, hv3⟩
          have hb9 := hb8.trans (hv3.mono hb8.size)
          have ho9 := ho8.kept (below_grown hv3) (by cases u9.ownBlock <;> simp)
          replace xa := xa.re hv3
          clear hb8 hv3 ho8
          generalize hfb : findP b x = fb
          generalize hgb : optF fb = gb
          obtain ⟨v4, hv4⟩ : ∃ u, u = v3.alloc (.cells #[.string gb.path, .bool gb.exec, .string gb.text] 35) := ⟨_, rfl⟩
          have hx4 : Below v3.heap.size v3 v4 := by rw [hv4]; exact (Below.refl _ _).alloc (Nat.le_refl _) _
          have hb10 : Below w5.heap.size w5 v4 := hb9.trans (hx4.mono hb9.size)
          have ho10 : v4.ownsRow w5.heap.size 29 4 u9 q (((N.take k).flatMap (chgAt a b)).flatMap ChV.cells) := by rw [hv4]; exact ho9.alloc _
          replace xa := xa.re hx4
          have xb : Box gb v3.heap.size v4 := by rw [hv4]; exact Box.new _ _
          have h04 := (hb10.cell (p := ⟨b0, o0 + k, none⟩) (by show b0 < _; omega)).trans h05
          have hcd := fun u => run_chgDel u x
          have h0 := h04
          rw [hv4] at h0
          have HV4 := Lib.hid hv4
          have HNE : some v3.heap.size ≠ u9.ownBlock := fun e => by have := (ho9.lt _ e.symm).2; omega
          clear hb9 ho9 hx4
          cases fb with
          | none =>
            have HC := Lib.hid (show chgAt a b x = [⟨x, true, false, ⟨#[]⟩⟩] by rw [chgAt, hfb])
            clear hfa hga hfb hgb xa xb
            have hb11 := hb10.alloc hb10.size (.cells #[.string x, .bool true, .bool false, .string ⟨#[]⟩] 29)
            have ho11 := ho10.alloc (.cells #[.string x, .bool true, .bool false, .string ⟨#[]⟩] 29)
            have hz4 : v4.heap.size = v3.heap.size + 1 := by rw [hv4]; simp
            rw [hv4] at ho11 hb11
            clear hv4 hb10 ho10 h04 hz4
            go_wp2_with (at_builtin; refine wpl_append rfl (.tmp 92) (.tmp 98) 23 rfl E_changes rfl rfl ho11 (rd_litC3 _ ⟨x, true, false, ⟨#[]⟩⟩ _ (by simp)) (one_changes _) (by have := HK.out; unfold maxLen; omega) (by have := HK.out; omega) hb11.size ?_; intro v9 w9 ho12 hg12 hv12)
            change World.grownBy _ _ u9.ownBlock at hg12
            go_roundw
            case rel =>
              refine ⟨k + 1, q + 1, by omega, by go_num, hb11.grown hg12 hb11.size (fun g hg => (ho11.lt g hg).1), by omega, ?_, ?_⟩
              · show ((N.take (k + 1)).flatMap (chgAt a b)).length = q + 1
                rw [HT.out, HC.out, List.length_append, hm.out]; rfl
              · rw [HT.out, HC.out, List.flatMap_append]; exact ho12
            case measure => simp [intOf]; omega
          | some y =>
            obtain rfl : y = gb := hgb
            have hsx := hb10.size
            cases fa with
            | none =>
              have HC := Lib.hid (show chgAt a b x = [⟨x, false, y.exec, y.text⟩] by rw [chgAt, hfb, hfa]; simp)
              clear hfa hga hfb hcd xa hv4
              go_wp2
              rw [← HV4.out]
              refine wp_region_q (fun w' => Below w5.heap.size w5 w' ∧ Box y v3.heap.size w') [(true, 0), (true, 1), (true, 2), (true, 3), (true, 4), (true, 5), (true, 6), (true, 7), (true, 8), (false, 9), (false, 10), (false, 11), (true, 12)] mixed (by kernel_rfl) ⟨hb10.drew, xb.re (Below.refl _ _).drew⟩ ?_
              intro Tp F Q hT hT' hF hQ
              have m0 : F ⟨b0, o0 + k, none⟩ = some (.string x) := hF _ _ fun w' hw => (hw.1.cell (p := ⟨b0, o0 + k, none⟩) hbb).trans h05
              have m1 : F ⟨v3.heap.size, 1, none⟩ = some (.bool y.exec) := hF _ _ fun w' hw => hw.2.2 1 _ rfl
              have m2 : F ⟨v3.heap.size, 2, none⟩ = some (.string y.text) := hF _ _ fun w' hw => hw.2.2 2 _ rfl
              simp only [qcmp, Nat.reduceBEq]
              simp (maxSteps := 5000000) only [↓qpre, qpost, qfacts, qnorm, m0, m1, m2]
              have hbd : Below v4.heap.size v4 v4.drew := (Below.refl _ _).drew
              have hb11 := hb10.drew
              have ho11 := ho10.kept (below_grown hbd) (by cases u9.ownBlock <;> simp)
              have xb6 := xb.re hbd
              clear m0 m1 m2 hF hbd
              generalize v4.drew = w6 at *
              refine ⟨⟨by omega, by omega⟩, ?_⟩
              refine T.eff_build rfl (run_chgPut _ x y.text y.exec) ⟨hT _ ⟨hb11, xb6⟩, ?_⟩
              simp (maxSteps := 5000000) only [↓qpre, qpost, qfacts, qnorm]
              have hb12 := hb11.alloc hb11.size (.cells #[.string x, .bool false, .bool y.exec, .string y.text] 29)
              have ho12 := ho11.alloc (.cells #[.string x, .bool false, .bool y.exec, .string y.text] 29)
              have xb7 := xb6.re ((Below.refl w6.heap.size w6).alloc (Nat.le_refl _) (.cells #[.string x, .bool false, .bool y.exec, .string y.text] 29))
              refine T.eff_lits (T.run_lits4 E_changes (.string x) (.bool false) (.bool y.exec) (.string y.text) _) rfl ⟨hT _ ⟨hb12, xb7⟩, ?_⟩
              simp (maxSteps := 5000000) only [↓qpre, qpost, qfacts, qnorm]
              refine eff_append E_changes (base := w5.heap.size) rfl rfl ho12 (rd_litC3 _ ⟨x, false, y.exec, y.text⟩ _ rfl) (one_changes _) (by have := HK.out; simp only [maxLen]; omega) (by have := HK.out; omega) hb12.size ?_
              intro v9 w9 ho13 hg13 hv13
              change World.grownBy _ _ u9.ownBlock at hg13
              have hb13 := hb12.grown hg13 hb12.size (fun g hg => (ho12.lt g hg).1)
              have xb13 := xb7.grown hg13 HNE
              refine ⟨hT _ ⟨hb13, xb13⟩, ?_⟩
              simp (maxSteps := 5000000) only [↓qpre, qpost, qfacts, qnorm]
              refine hQ _ _ ?_
              clear hQ hT hT' xb6 xb7 xb13 hb11 hb12 ho11 ho12 hg13 hv13
              go_wp2
              go_roundw
              case rel =>
                refine ⟨k + 1, q + 1, by omega, by go_num, hb13, by omega, ?_, ?_⟩
                · show ((N.take (k + 1)).flatMap (chgAt a b)).length = q + 1
                  rw [HT.out, HC.out, List.length_append, hm.out]; rfl
                · rw [HT.out, HC.out, List.flatMap_append]; exact ho13
              case measure => simp [intOf]; omega
            | some z =>
              obtain rfl : z = ga := hga
              have hne := fun u => run_neqF z y u
              have xa0 := xa.2 0 _ rfl
              have xa1 := xa.2 1 _ rfl
              have xa2 := xa.2 2 _ rfl
              have xb0 := xb.2 0 _ rfl
              have xb1 := xb.2 1 _ rfl
              have xb2 := xb.2 2 _ rfl
              rw [hv4] at xa0 xa1 xa2 xb0 xb1 xb2
              clear hv4
              by_cases hq : z = y
              · have HC := Lib.hid (show chgAt a b x = [] by rw [chgAt, hfb, hfa]; simp [hq])
                rw [decide_eq_true hq] at hne
                clear hfa hfb hcd hq
                go_wp2
                rw [← HV4.out]
                go_roundw
                case rel => exact ⟨k + 1, q, by omega, by go_num, hb10, by omega, by rw [HT.out, HC.out, List.append_nil]; exact hm, by rw [HT.out, HC.out, List.append_nil]; exact ho10⟩
                case measure => simp [intOf]; omega
              · have HC := Lib.hid (show chgAt a b x = [⟨x, false, y.exec, y.text⟩] by rw [chgAt, hfb, hfa]; simp [hq])
                rw [decide_eq_false hq] at hne
                clear hfa hfb hcd hq
                go_wp2
                clear xa0 xa1 xa2 xb0 xb1 xb2
                rw [← HV4.out]
                refine wp_region_q (fun w' => Below w5.heap.size w5 w' ∧ Box y v3.heap.size w') [(true, 0), (true, 1), (true, 2), (true, 3), (true, 4), (true, 5), (true, 6), (true, 7), (true, 8), (false, 9), (false, 10), (false, 11), (true, 12)] mixed (by kernel_rfl) ⟨hb10.drew, xb.re (Below.refl _ _).drew⟩ ?_
                intro Tp F Q hT hT' hF hQ
                have m0 : F ⟨b0, o0 + k, none⟩ = some (.string x) := hF _ _ fun w' hw => (hw.1.cell (p := ⟨b0, o0 + k, none⟩) hbb).trans h05
                have m1 : F ⟨v3.heap.size, 1, none⟩ = some (.bool y.exec) := hF _ _ fun w' hw => hw.2.2 1 _ rfl
                have m2 : F ⟨v3.heap.size, 2, none⟩ = some (.string y.text) := hF _ _ fun w' hw => hw.2.2 2 _ rfl
                simp only [qcmp, Nat.reduceBEq]
                simp (maxSteps := 5000000) only [↓qpre, qpost, qfacts, qnorm, m0, m1, m2]
                have hbd : Below v4.heap.size v4 v4.drew := (Below.refl _ _).drew
                have hb11 := hb10.drew
                have ho11 := ho10.kept (below_grown hbd) (by cases u9.ownBlock <;> simp)
                have xb6 := xb.re hbd
                clear m0 m1 m2 hF hbd
                generalize v4.drew = w6 at *
                refine ⟨⟨by omega, by omega⟩, ?_⟩
                refine T.eff_build rfl (run_chgPut _ x y.text y.exec) ⟨hT _ ⟨hb11, xb6⟩, ?_⟩
                simp (maxSteps := 5000000) only [↓qpre, qpost, qfacts, qnorm]
                have hb12 := hb11.alloc hb11.size (.cells #[.string x, .bool false, .bool y.exec, .string y.text] 29)
                have ho12 := ho11.alloc (.cells #[.string x, .bool false, .bool y.exec, .string y.text] 29)
                have xb7 := xb6.re ((Below.refl w6.heap.size w6).alloc (Nat.le_refl _) (.cells #[.string x, .bool false, .bool y.exec, .string y.text] 29))
                refine T.eff_lits (T.run_lits4 E_changes (.string x) (.bool false) (.bool y.exec) (.string y.text) _) rfl ⟨hT _ ⟨hb12, xb7⟩, ?_⟩
                simp (maxSteps := 5000000) only [↓qpre, qpost, qfacts, qnorm]
                refine eff_append E_changes (base := w5.heap.size) rfl rfl ho12 (rd_litC3 _ ⟨x, false, y.exec, y.text⟩ _ rfl) (one_changes _) (by have := HK.out; simp only [maxLen]; omega) (by have := HK.out; omega) hb12.size ?_
                intro v9 w9 ho13 hg13 hv13
                change World.grownBy _ _ u9.ownBlock at hg13
                have hb13 := hb12.grown hg13 hb12.size (fun g hg => (ho12.lt g hg).1)
                have xb13 := xb7.grown hg13 HNE
                refine ⟨hT _ ⟨hb13, xb13⟩, ?_⟩
                simp (maxSteps := 5000000) only [↓qpre, qpost, qfacts, qnorm]
                refine hQ _ _ ?_
                clear hQ hT hT' xb6 xb7 xb13 hb11 hb12 ho11 ho12 hg13 hv13
                go_wp2
                go_roundw
                case rel =>
                  refine ⟨k + 1, q + 1, by omega, by go_num, hb13, by omega, ?_, ?_⟩
                  · show ((N.take (k + 1)).flatMap (chgAt a b)).length = q + 1
                    rw [HT.out, HC.out, List.length_append, hm.out]; rfl
                  · rw [HT.out, HC.out, List.flatMap_append]; exact ho13
                case measure => simp [intOf]; omega
        · obtain rfl : k = n := by omega
          rw [List.take_of_length_le (by rw [HL.out]; exact Nat.le_refl _), HN.out, ← changesF] at hm ho6
          have hbw := hb5.trans (hb6.mono hb5.size)
          go_wp2
          go_ret
          obtain ⟨A7, c7, rfl, hc7⟩ := ownsRow_cap ho6
          have hr := Rd.of_own ho6 hc7
          rw [← hm.out] at hr ⊢
          exact ⟨A7, c7, _, rfl, rfl, ⟨hr, rfl, changesF_fits HFa.out HFb.out⟩, hbw⟩
end Go.Proofs.YtahlfafcjjkliaaGreatDoor
