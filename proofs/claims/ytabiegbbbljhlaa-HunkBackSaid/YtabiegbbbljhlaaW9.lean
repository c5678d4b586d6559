/- Walk: the reference's Script. -/
import Derived.Test.YtabiegbbbljhlaaW8
import Derived.Test.YtabiegbbbljhlaaScr
namespace Go.Proofs.Ytabiegbbbljhlaa
open Go.RowKit

theorem E33 : Elem Try.prog 33 37 2 24 := elem_of (by kernel_rfl)
theorem oneE (k : Int) (s : ByteArray) : ∀ u ∈ [Value.int .i64 k, .string s], u.oneCell' = true := by simp [Value.oneCell']
/-- A call that hands back edits, and makes memory of its own. -/
def EditsBelow (es : List EV) (w : World) (e : Ending) (w' : World) : Prop :=
  ∃ A n c, e = .returned (.slice A n c) ∧ Rd w' w'.heap.size 2 A n c (es.flatMap EV.cells) ∧ Below w.heap.size w w'
def EOwn (w : World) (base : Nat) (v : Value) (es : List EV) : Prop := w.ownsRow base 37 2 v es.length (es.flatMap EV.cells)
theorem EOwn.push {w : World} {base : Nat} {v : Value} {es : List EV} {k : Int} {s : ByteArray} (h : w.ownsRow base 37 2 v (es.length + 1) (es.flatMap EV.cells ++ [.int .i64 k, .string s])) : EOwn w base v (es ++ [⟨k, s⟩]) := by
  unfold EOwn
  rw [List.flatMap_append, List.length_append]
  simpa [EV.cells] using h
theorem EOwn.alloc {w : World} {base : Nat} {v : Value} {es : List EV} (h : EOwn w base v es) (o : Obj) : EOwn (w.alloc o) base v es := World.ownsRow.alloc h o
theorem EOwn.drew {w : World} {base : Nat} {v : Value} {es : List EV} (h : EOwn w base v es) : EOwn w.drew base v es := World.ownsRow.drew h
theorem wpl_edit {W w0 : World} {a : Act} {ops : Array Oper} {rest : List Oper} {o : Oper} {Q : Exit → Act → World → Prop} (hgd : o.guard = none) (s x : Operand)
    (ho : o.op = .call { callee := .builtin .append, args := #[s, x], argTypes := #[33, 33] }) {v : Value} {L : List EV} {K : Int} {ln : ByteArray} {g : Nat}
    (hs : a.eval s = v) (hx : a.eval x = .slice (some ⟨g, 0, none⟩) 1 1) (hown : EOwn W w0.heap.size v L) (hg : W.heap[g]? = some (.cells #[.int .i64 K, .string ln] 37 (0, 0))) (hL : L.length ≤ 4398046511104)
    (hb : Below w0.heap.size w0 W)
    (hK : ∀ v' w', EOwn w' w0.heap.size v' (L ++ [⟨K, ln⟩]) → Below w0.heap.size w0 w' → W.grownBy w' v.ownBlock → (v'.ownBlock = v.ownBlock ∨ v'.ownBlock = some W.heap.size) → wpList Try.prog ops Q rest (a.put o.dst v') w') :
    wpList Try.prog ops Q (o :: rest) a W :=
  wpl_append hgd s x 33 ho E33 (base := w0.heap.size) (B := g + 1) hs hx hown (Rd.lit hg (Nat.lt_succ_self _) rfl (Nat.le_refl _)) (oneE _ _) (by simp only [maxLen]; omega) (by omega) hb.size
    fun v' w' h1 h2 h3 => hK v' w' (EOwn.push h1) (hb.grown h2 hb.size (fun g hg => (hown.lt g hg).1)) h2 h3
theorem evs_snoc {k : Int} {a : List ByteArray} {j : Nat} {x : ByteArray} (hx : a[j]? = some x) : evs k (a.take (j + 1)) = evs k (a.take j) ++ [⟨k, x⟩] := by
  rw [List.take_add_one, hx]; simp [evs]
theorem evs_len (k : Int) (a : List ByteArray) : (evs k a).length = a.length := by simp [evs]
theorem take_both {a b : List ByteArray} {k : Nat} {x : ByteArray} (h : a.take k = b.take k) (hx : a[k]? = some x) (hy : b[k]? = some x) : a.take (k + 1) = b.take (k + 1) := by
  rw [List.take_add_one, List.take_add_one, h, hx, hy]

theorem EOwn.result {w w0 : World} {v : Value} {es : List EV} {e : Ending} (h : EOwn w w0.heap.size v es) (hb : Below w0.heap.size w0 w) (he : e = .returned v) : EditsBelow es w0 e w := by
  obtain ⟨A, c, rfl, hc⟩ := ownsRow_cap h
  exact ⟨A, _, c, he, Rd.of_own h hc, hb⟩

/-- The edits so far, and the table. -/
def ST (w : World) (base : Nat) (v : Value) (L : List EV) (g0 n m : Nat) (rs : List (Nat × List Value)) : Prop :=
  Owns w base (⟨37, 2, v, L.length, L.flatMap EV.cells⟩ :: ⟨64, 1, rowV n g0, n + 1, tcells m 0 rs⟩ :: trows m rs)
section
variable {w w' : World} {base : Nat} {v v' : Value} {L : List EV} {g0 n m : Nat} {rs : List (Nat × List Value)}
theorem ST.tb (h : ST w base v L g0 n m rs) : TB w base g0 n m 0 rs :=
  ⟨fun r hr => h.own r (List.mem_cons_of_mem _ hr), by
    have := h.nd
    rw [List.filterMap_cons] at this
    split at this
    · exact this
    · exact (List.nodup_cons.1 this).2⟩
theorem ST.own (h : ST w base v L g0 n m rs) : EOwn w base v L := Owns.own h ⟨37, 2, v, L.length, L.flatMap EV.cells⟩ (List.mem_cons_self ..)
theorem ST.alloc (h : ST w base v L g0 n m rs) (o : Obj) : ST (w.alloc o) base v L g0 n m rs := Owns.alloc h o
theorem ST.drew (h : ST w base v L g0 n m rs) : ST w.drew base v L g0 n m rs := Owns.drew h
theorem ST.push (h : ST w base v L g0 n m rs) {e : EV} (h1 : EOwn w' base v' (L ++ [e])) (h2 : w.grownBy w' v.ownBlock) (h3 : v'.ownBlock = v.ownBlock ∨ v'.ownBlock = some w.heap.size) : ST w' base v' (L ++ [e]) g0 n m rs :=
  Owns.turn (l1 := []) (r := ⟨37, 2, v, L.length, L.flatMap EV.cells⟩) (r' := ⟨37, 2, v', (L ++ [e]).length, (L ++ [e]).flatMap EV.cells⟩) h h2 h1 h3
theorem own_below {e : TypeId} {sz k : Nat} {xs : List Value} (h : w.ownsRow base e sz v k xs) (hb : Below w.heap.size w w') : w'.ownsRow base e sz v k xs := by
  refine ⟨h.1, ?_⟩
  rcases h.2 with hn | ⟨g, cap, cur, rfl, hbg, hg, rest⟩
  · exact .inl hn
  · exact .inr ⟨g, cap, cur, rfl, hbg, by rw [hb.block g (Array.getElem?_eq_some_iff.1 hg).1]; exact hg, rest⟩
theorem ST.make (h : EOwn w base v L) (ht : TB w' w.heap.size g0 n m 0 rs) (hb : Below w.heap.size w w') (hbase : base ≤ w.heap.size) : ST w' base v L g0 n m rs := by
  refine ⟨fun r hr => ?_, ?_⟩
  · rcases List.mem_cons.1 hr with rfl | hr
    · exact own_below h hb
    · have h1 := ht.own r hr
      refine ⟨h1.1, ?_⟩
      rcases h1.2 with hn | ⟨g, cap, cur, e, hbg, rest⟩
      · exact .inl hn
      · exact .inr ⟨g, cap, cur, e, by omega, rest⟩
  · rw [List.filterMap_cons]
    cases hv : v.ownBlock with
    | none => exact ht.nd
    | some g =>
      refine List.nodup_cons.2 ⟨fun hm => ?_, ht.nd⟩
      obtain ⟨r, hr, hrb⟩ := List.mem_filterMap.1 hm
      have h1 := (ht.own r hr).lt g hrb
      have h2 := h.lt g hv
      omega
end

set_option maxRecDepth 100000 in
set_option maxHeartbeats 8000000 in
theorem script_any {A B : Option Addr} {n ca m cb : Nat} {a b : List ByteArray} {w : World} (hn : n ≤ 1048576) (hm : m ≤ 1048576)
    (ha : Rd w w.heap.size 1 A n ca (a.map .string)) (hb : Rd w w.heap.size 1 B m cb (b.map .string)) :
    Calls Try.prog 17 #[.slice A n ca, .slice B m cb] w (EditsBelow (script a b) w) := by
  have HA := Lib.hid (show a.length = n by have := ha.len; simpa using this)
  have HB := Lib.hid (show b.length = m by have := hb.len; simpa using this)
  have hca := ha.cap
  have hcb := hb.cap
  go_enter Try.func17, Try.ntmps17
  go_wp2
  rename_i K hK
  have TAIL : ∀ {k : Nat} {out u12 u13 u14 u15 u16 u17 u18 u19 u20 u21 u22 u23 u24 u25 u26 u27 u28 u29 u30 u31 u32 u33 u34 u35 u36 u37 u38 u39 u40 u41 u42 : Value} {w1 : World}, k ≤ n → k ≤ m → Below w.heap.size w w1 → Hid (EOwn w1 w.heap.size out (evs 1 (a.take k))) → Hid (pfx a b = k) →
      K ⟨#[.slice A n ca, .slice B m cb, undef, undef, .slice none 0 0, out, .int .i64 k, undef, undef, undef, undef, undef, u12, u13, u14, u15, u16, u17, u18, u19, u20, u21, u22, u23, u24, u25, u26, u27, u28, u29, u30, u31, u32, u33, u34, u35, u36, u37, u38, u39, u40, u41, u42, undef, undef, undef, undef, undef, undef, undef, undef, undef, undef, undef, undef, undef, undef, undef, undef, undef, undef, undef, undef, undef, undef, undef, undef, undef, undef, undef, undef, undef, undef, undef, undef, undef, undef, undef, undef, undef, undef, undef, undef, undef, undef, undef, undef, undef, undef, undef, undef, undef, undef, undef, undef, undef, undef, undef, undef, undef, undef, undef, undef, undef, undef, undef, undef, undef, undef, undef, undef, undef, undef, undef, undef, undef, undef, undef, undef, undef, undef, undef, undef, undef, undef, undef, undef, undef, undef, undef, undef, undef, undef, undef, undef, undef, undef, undef, undef, undef, undef, undef, undef, undef, undef, undef, undef, undef, undef, undef, undef, undef, undef, undef, undef, undef, undef, undef, undef, undef, undef, undef, undef, undef, undef, undef, undef, undef, undef, undef, undef, undef, undef, undef, undef, undef, undef, undef, undef, undef, undef, undef, undef, undef], []⟩ w1 := by
    intro k out u12 u13 u14 u15 u16 u17 u18 u19 u20 u21 u22 u23 u24 u25 u26 u27 u28 u29 u30 u31 u32 u33 u34 u35 u36 u37 u38 u39 u40 u41 u42 w1 hkn hkm hbw HO HP
    have HW := Lib.hid hbw; clear hbw
    refine hK _ _ ?_
    clear hK
    go_wp2
    refine wp_region_q (fun w' => Below w.heap.size w w') (qs 8) mixed (by kernel_rfl) HW.out.drew ?_
    intro T M Q hT hT' hM hQ
    clear hM
    simp only [qcmp]
    simp (maxSteps := 5000000) only [↓qpre, qpost, qfacts, qnorm]
    refine ⟨⟨by omega, by omega⟩, ⟨by omega, by omega⟩, hQ _ _ ?_⟩
    clear hQ hT hT'
    have hra := ha.cut1 (l := k) (k := n) hkn (Nat.le_refl _)
    have hrb := hb.cut1 (l := k) (k := m) hkm (Nat.le_refl _)
    rw [List.take_of_length_le (by rw [List.length_map, HA.out]; exact Nat.le_refl _), ← List.map_drop] at hra
    rw [List.take_of_length_le (by rw [List.length_map, HB.out]; exact Nat.le_refl _), ← List.map_drop] at hrb
    have HS : Hid (script a b = evs 1 (a.take k) ++ rest (a.drop k) (b.drop k)) := by unfold script; rw [HP.out]; rfl
    have HL : Hid ((evs 1 (a.take k)).length ≤ 1048576) := by unfold Hid; rw [evs_len, List.length_take]; omega
    have hl1 : n - k ≤ 1048576 := by omega
    have hl2 : m - k ≤ 1048576 := by omega
    have HW2 := Lib.hid HW.out.drew
    have HO2 := Lib.hid HO.out.drew
    simp only [sliced, Nat.mul_one]
    generalize (if ca = k then A else Option.map (fun x => x.add k) A) = A1 at *
    generalize (if cb = k then B else Option.map (fun x => x.add k) B) = B1 at *
    generalize w1.drew = w2 at *
    clear HP HO HW ha hb HA HB hca hcb
    generalize evs 1 (a.take k) = L0 at *
    generalize a.drop k = a1 at *
    generalize b.drop k = b1 at *
    generalize n - k = n1 at *
    generalize m - k = m1 at *
    generalize ca - k = c1 at *
    generalize cb - k = c2 at *
    generalize script a b = fin at *
    have HA := Lib.hid (show a1.length = n1 by have := hra.len; simpa using this)
    have HB := Lib.hid (show b1.length = m1 by have := hrb.len; simpa using this)
    by_cases big : 400 < n1 ∨ 400 < m1
    · by_cases c1 : 400 < n1
      case' neg => have c2 : 400 < m1 := by omega
      all_goals
        go_wp2
        go_loopw [5, 7] (fun out i wr => ∃ j : Nat, j ≤ n1 ∧ i = .int .i64 j ∧ Below w.heap.size w wr ∧ Hid (EOwn wr w.heap.size out (L0 ++ evs 2 (a1.take j))))
            (fun _ i _ => n1 - (intOf i).toNat)
        case atStart => exact ⟨0, Nat.zero_le _, rfl, HW2.out, by rw [List.take_zero]; exact (show Hid (EOwn _ _ _ (L0 ++ [])) by rw [List.append_nil]; exact HO2)⟩
        case round =>
          clear HW2 HO2
          obtain ⟨j, hj, rfl, hbw, HO⟩ := hrel
          have hws := hbw.size
          have HW := Lib.hid hbw; clear hbw
          by_cases hlt : j < n1
          · obtain ⟨ba, oa, x, rfl, hba, hax, hacell⟩ := hra.str (k := j) hlt
            have HX := Lib.hid hax; clear hax
            have c0 := (HW.out.cell (p := ⟨ba, oa + j, none⟩) hba).trans hacell
            have HLL := Lib.hid (show (L0 ++ evs 2 (a1.take j)).length ≤ 4398046511104 by have := HL.out; have := HA.out; simp only [List.length_append, evs_len, List.length_take]; omega)
            go_wp2_with (at_builtin; refine wpl_edit rfl (.tmp 63) (.tmp 69) rfl rfl rfl (EOwn.alloc HO.out _) (alloc_at rfl) HLL.out (HW.out.alloc hws _) ?_; intro v2 w3 ho2 hw2 hg2 hat2; have HO2 := Lib.hid ho2; have HW2 := Lib.hid hw2; clear ho2 hw2 hg2 hat2)
            go_roundw
            case rel =>
              refine ⟨j + 1, by omega, by go_num, HW2.out, ?_⟩
              rw [evs_snoc HX.out, ← List.append_assoc]
              exact HO2
            case measure => simp [intOf]; omega
          · have hjn : j = n1 := by omega
            subst hjn
            rw [List.take_of_length_le (by rw [HA.out]; exact Nat.le_refl _)] at HO
            have HW2 := HW; have HO2 := HO
            clear HW HO
            go_wp2
            go_loopw [5, 8] (fun out i wr => ∃ j : Nat, j ≤ m1 ∧ i = .int .i64 j ∧ Below w.heap.size w wr ∧ Hid (EOwn wr w.heap.size out ((L0 ++ evs 2 a1) ++ evs 3 (b1.take j))))
                (fun _ i _ => m1 - (intOf i).toNat)
            case atStart => exact ⟨0, Nat.zero_le _, rfl, HW2.out, by rw [List.take_zero]; exact (show Hid (EOwn _ _ _ ((L0 ++ evs 2 a1) ++ [])) by rw [List.append_nil]; exact HO2)⟩
            case round =>
              clear HW2 HO2
              obtain ⟨j, hj, rfl, hbw, HO⟩ := hrel
              have hws := hbw.size
              have HW := Lib.hid hbw; clear hbw
              by_cases hlt : j < m1
              · obtain ⟨ba, oa, x, rfl, hba, hax, hacell⟩ := hrb.str (k := j) hlt
                have HX := Lib.hid hax; clear hax
                have c0 := (HW.out.cell (p := ⟨ba, oa + j, none⟩) hba).trans hacell
                have HLL := Lib.hid (show ((L0 ++ evs 2 a1) ++ evs 3 (b1.take j)).length ≤ 4398046511104 by have := HL.out; have := HA.out; simp only [List.length_append, evs_len, List.length_take]; omega)
                go_wp2_with (at_builtin; refine wpl_edit rfl (.tmp 77) (.tmp 83) rfl rfl rfl (EOwn.alloc HO.out _) (alloc_at rfl) HLL.out (HW.out.alloc hws _) ?_; intro v2 w3 ho2 hw2 hg2 hat2; have HO2 := Lib.hid ho2; have HW2 := Lib.hid hw2; clear ho2 hw2 hg2 hat2)
                go_roundw
                case rel =>
                  refine ⟨j + 1, by omega, by go_num, HW2.out, ?_⟩
                  rw [evs_snoc HX.out, ← List.append_assoc]
                  exact HO2
                case measure => simp [intOf]; omega
              · have hjn : j = m1 := by omega
                subst hjn
                rw [List.take_of_length_le (by rw [HB.out]; exact Nat.le_refl _)] at HO
                have HF : Hid (fin = L0 ++ evs 2 a1 ++ evs 3 b1) := by unfold Hid; rw [HS.out, rest, if_pos (by rw [HA.out, HB.out]; omega), List.append_assoc]
                go_wp2
                go_ret
                rw [HF.out]
                exact HO.out.result HW.out rfl


    · have c1 : ¬ 400 < n1 := by omega
      have c2 : ¬ 400 < m1 := by omega
      go_wp2_with fail
      have hws2 := HW2.out.size
      have C := table_any (w := w2) (by omega) (by omega) ((hra.below HW2.out).more hws2) ((hrb.below HW2.out).more hws2)
      refine C.mono ?_
      clear C
      rintro e w3 ⟨g0, rs, rfl, hTB, hRC, hb3⟩
      rw [HA.out, HB.out] at hTB
      have HST := Lib.hid (ST.make HO2.out hTB hb3 hws2)
      have HRC := Lib.hid hRC
      have HW3 := Lib.hid (HW2.out.trans (hb3.mono hws2))
      have HRL := Lib.hid (show rs.length = n1 + 1 by have := hTB.len; omega)
      clear hTB hRC hb3 hws2 HO2 HW2
      rw [HA.out]
      have HS2 : Hid (fin = L0 ++ scrT a1 b1) := by unfold Hid; rw [HS.out, rest, if_neg (by rw [HA.out, HB.out]; omega)]
      clear HS
      simp only [rowV]
      go_wp2
      go_loopw [5, 10, 11] (fun out iv kv wr => ∃ (i q : Nat) (d : List EV), i ≤ n1 ∧ q ≤ m1 ∧ iv = .int .i64 i ∧ kv = .int .i64 q ∧ Below w.heap.size w wr ∧ Hid (ST wr w.heap.size out (L0 ++ d) g0 n1 m1 rs) ∧ Hid (d ++ scrT (a1.drop i) (b1.drop q) = scrT a1 b1) ∧ Hid (d.length ≤ i + q))
          (fun _ i q _ => (n1 - (intOf i).toNat) + (m1 - (intOf q).toNat))
      case atStart => exact ⟨0, 0, [], Nat.zero_le _, Nat.zero_le _, rfl, rfl, HW3.out, by rw [List.append_nil]; exact HST, rfl, Nat.zero_le _⟩
      case round =>
        clear HW3 HST
        obtain ⟨i, q, d, hi, hq, rfl, rfl, hbw, HST, HD, HDL⟩ := hrel
        have hws := hbw.size
        have HW := Lib.hid hbw; clear hbw
        have HLL := Lib.hid (show (L0 ++ d).length ≤ 4398046511104 by have := HL.out; have := HDL.out; simp only [List.length_append]; omega)
        have T1 : ∀ z : Nat, ((z : Int) + 1).toNat = z + 1 := fun z => by omega
        by_cases hiN : i < n1
        · obtain ⟨ba, oa, x, rfl, hba, hax, hacell⟩ := hra.str (k := i) hiN
          have HX := Lib.hid hax; clear hax
          by_cases hqM : q < m1
          · obtain ⟨bb, ob, y, rfl, hbb, hby, hbcell⟩ := hrb.str (k := q) hqM
            have HY := Lib.hid hby; clear hby
            go_wp2
            refine wp_region_q (fun w' => ∀ p : Addr, w'.cell? p = wr.cell? p) (qs 22) mixed (by kernel_rfl) (fun p => rfl) ?_
            intro T M Q hT hT' hM hQ
            have f0 : M ⟨ba, oa + i, none⟩ = some (.string x) := hM _ _ fun w' hw => (hw _).trans ((HW.out.cell (p := ⟨ba, oa + i, none⟩) hba).trans hacell)
            have f1 : M ⟨bb, ob + q, none⟩ = some (.string y) := hM _ _ fun w' hw => (hw _).trans ((HW.out.cell (p := ⟨bb, ob + q, none⟩) hbb).trans hbcell)
            clear hM
            have d1 : decide ((i : Int) < n1) = true := decide_eq_true (by omega)
            have d2 : decide ((q : Int) < m1) = true := decide_eq_true (by omega)
            simp only [qcmp]
            simp (maxSteps := 5000000) only [↓qpre, qpost, qfacts, qnorm, f0, f1, d1, d2]
            refine ⟨⟨by omega, by omega⟩, ⟨by omega, by omega⟩, hQ _ _ ?_⟩
            clear hQ hT hT' f0 f1 d1 d2
            cases hd : decide (x = y)
            · have hxy := Lib.hid (of_decide_eq_false hd)
              clear hd
              have htb := HST.out.tb
              obtain ⟨⟨gi, xi⟩, hri⟩ : ∃ r, rs[i]? = some r := ⟨_, List.getElem?_eq_getElem (by rw [HRL.out]; omega)⟩
              obtain ⟨⟨gj, xj⟩, hrj⟩ : ∃ r, rs[i + 1]? = some r := ⟨_, List.getElem?_eq_getElem (by rw [HRL.out]; omega)⟩
              have hxi := HRC.out _ _ hri
              have hxj := HRC.out _ _ hrj
              simp only [Nat.zero_add] at hxi hxj
              subst hxi hxj
              obtain ⟨t1, o1⟩ := htb.at_ hri
              obtain ⟨t2, o2⟩ := htb.at_ hrj
              have v1 := own_cell o1 (rowP_get (a := a1) (b := b1) (i := i) (k := 0) (j := q + 1) (by rw [HB.out]; omega) (Nat.zero_le _))
              have v2 := own_cell o2 (rowP_get (a := a1) (b := b1) (i := i + 1) (k := 0) (j := q) (by rw [HB.out]; omega) (Nat.zero_le _))
              simp only [Nat.zero_add] at t1 t2
              have V := Lib.hid (And.intro t1 (And.intro t2 (And.intro v1 v2)))
              clear t1 t2 o1 o2 v1 v2 htb hri hrj
              go_wp2
              refine wp_region_q (fun w' => ∀ p : Addr, w'.cell? p = wr.cell? p) (qs 30) mixed (by kernel_rfl) (fun p => rfl) ?_
              intro T M Q hT hT' hM hQ
              have f0 : M ⟨g0, i, none⟩ = some (rowV m1 gi) := hM _ _ fun w' hw => (hw _).trans V.out.1
              have f1 : M ⟨g0, i + 1, none⟩ = some (rowV m1 gj) := hM _ _ fun w' hw => (hw _).trans V.out.2.1
              have f2 : M ⟨gi, q + 1, none⟩ = some (.int .i64 (cel a1 b1 i (q + 1))) := hM _ _ fun w' hw => (hw _).trans V.out.2.2.1
              have f3 : M ⟨gj, q, none⟩ = some (.int .i64 (cel a1 b1 (i + 1) q)) := hM _ _ fun w' hw => (hw _).trans V.out.2.2.2
              clear hM
              have d1 : decide ((q : Int) = m1) = false := decide_eq_false (by omega)
              have d2 : decide ((i : Int) < n1) = true := decide_eq_true (by omega)
              simp only [qcmp]
              simp (maxSteps := 5000000) only [↓qpre, qpost, qfacts, qnorm, f0, f1, f2, f3, d1, d2, rowV, T1]
              refine ⟨⟨by omega, by omega⟩, ⟨by omega, by omega⟩, ⟨by omega, by omega⟩, ⟨by omega, by omega⟩, ⟨by omega, by omega⟩, ⟨by omega, by omega⟩, hQ _ _ ?_⟩
              clear hQ hT hT' f0 f1 f2 f3 d1 d2 V
              cases hd2 : decide ((cel a1 b1 i (q + 1) : Int) ≤ (cel a1 b1 (i + 1) q : Int))
              · have hle := Lib.hid (of_decide_eq_false hd2)
                clear hd2
                have c0 := (HW.out.cell (p := ⟨bb, ob + q, none⟩) hbb).trans hbcell
                go_wp2_with (at_builtin; refine wpl_edit rfl (.tmp 99) (.tmp 105) rfl rfl rfl (EOwn.alloc HST.out.own.drew.drew _) (alloc_at rfl) HLL.out (HW.out.drew.drew.alloc hws _) ?_; intro v2 w4 ho2 hw2 hg2 hat2; have HW4 := Lib.hid hw2; have HST4 := Lib.hid (ST.push (HST.out.drew.drew.alloc _) ho2 hg2 hat2); clear ho2 hw2 hg2 hat2)
                go_roundw
                case rel =>
                  refine ⟨i, q + 1, d ++ [⟨3, y⟩], by omega, by omega, by go_num, by go_num, HW4.out, ?_, ?_, ?_⟩
                  · rw [← List.append_assoc]; exact HST4
                  · have h1 := HD.out
                    rw [scr_ins HX.out HY.out hxy.out (by have := hle.out; omega)] at h1
                    unfold Hid
                    rw [List.append_assoc]
                    exact h1
                  · have := HDL.out; unfold Hid; simp only [List.length_append, List.length_singleton]; omega
                case measure => simp [intOf]; omega

              · have hle := Lib.hid (of_decide_eq_true hd2)
                clear hd2
                have c0 := (HW.out.cell (p := ⟨ba, oa + i, none⟩) hba).trans hacell
                go_wp2_with (at_builtin; refine wpl_edit rfl (.tmp 173) (.tmp 179) rfl rfl rfl (EOwn.alloc HST.out.own.drew.drew _) (alloc_at rfl) HLL.out (HW.out.drew.drew.alloc hws _) ?_; intro v2 w4 ho2 hw2 hg2 hat2; have HW4 := Lib.hid hw2; have HST4 := Lib.hid (ST.push (HST.out.drew.drew.alloc _) ho2 hg2 hat2); clear ho2 hw2 hg2 hat2)
                go_roundw
                case rel =>
                  refine ⟨i + 1, q, d ++ [⟨2, x⟩], by omega, by omega, by go_num, by go_num, HW4.out, ?_, ?_, ?_⟩
                  · rw [← List.append_assoc]; exact HST4
                  · have h1 := HD.out
                    rw [scr_del HX.out HY.out hxy.out (by have := hle.out; omega)] at h1
                    unfold Hid
                    rw [List.append_assoc]
                    exact h1
                  · have := HDL.out; unfold Hid; simp only [List.length_append, List.length_singleton]; omega
                case measure => simp [intOf]; omega

            · have hxy := of_decide_eq_true hd
              subst hxy
              clear hd
              have c0 := (HW.out.cell (p := ⟨ba, oa + i, none⟩) hba).trans hacell
              go_wp2_with (at_builtin; refine wpl_edit rfl (.tmp 131) (.tmp 137) rfl rfl rfl (EOwn.alloc HST.out.own.drew _) (alloc_at rfl) HLL.out (HW.out.drew.alloc hws _) ?_; intro v2 w4 ho2 hw2 hg2 hat2; have HW4 := Lib.hid hw2; have HST4 := Lib.hid (ST.push (HST.out.drew.alloc _) ho2 hg2 hat2); clear ho2 hw2 hg2 hat2)
              go_roundw
              case rel =>
                refine ⟨i + 1, q + 1, d ++ [⟨1, x⟩], by omega, by omega, by go_num, by go_num, HW4.out, ?_, ?_, ?_⟩
                · rw [← List.append_assoc]; exact HST4
                · have h1 := HD.out
                  rw [scr_keep HX.out HY.out rfl] at h1
                  unfold Hid
                  rw [List.append_assoc]
                  exact h1
                · have := HDL.out; unfold Hid; simp only [List.length_append, List.length_singleton]; omega
              case measure => simp [intOf]; omega


          ·
            have hqE : q = m1 := by omega
            subst hqE
            go_wp2
            refine wp_region_q (fun w' => ∀ p : Addr, w'.cell? p = wr.cell? p) (qs 22) mixed (by kernel_rfl) (fun p => rfl) ?_
            intro T M Q hT hT' hM hQ
            clear hM
            have d1 : decide ((i : Int) < n1) = true := decide_eq_true (by omega)
            have d2 : decide ((q : Int) < q) = false := decide_eq_false (by omega)
            simp only [qcmp]
            simp (maxSteps := 5000000) only [↓qpre, qpost, qfacts, qnorm, d1, d2]
            refine hQ _ _ ?_
            clear hQ hT hT' d1 d2
            go_wp2
            refine wp_region_q (fun w' => ∀ p : Addr, w'.cell? p = wr.cell? p) (qs 30) mixed (by kernel_rfl) (fun p => rfl) ?_
            intro T M Q hT hT' hM hQ
            clear hM
            have d1 : decide ((q : Int) = q) = true := decide_eq_true (by omega)
            simp only [qcmp]
            simp (maxSteps := 5000000) only [↓qpre, qpost, qfacts, qnorm]
            refine hQ _ _ ?_
            clear hQ hT hT' d1
            have c0 := (HW.out.cell (p := ⟨ba, oa + i, none⟩) hba).trans hacell
            go_wp2_with (at_builtin; refine wpl_edit rfl (.tmp 173) (.tmp 179) rfl rfl rfl (EOwn.alloc HST.out.own.drew.drew _) (alloc_at rfl) HLL.out (HW.out.drew.drew.alloc hws _) ?_; intro v2 w4 ho2 hw2 hg2 hat2; have HW4 := Lib.hid hw2; have HST4 := Lib.hid (ST.push (HST.out.drew.drew.alloc _) ho2 hg2 hat2); clear ho2 hw2 hg2 hat2)
            go_roundw
            case rel =>
              refine ⟨i + 1, q, d ++ [⟨2, x⟩], by omega, by omega, by go_num, by go_num, HW4.out, ?_, ?_, ?_⟩
              · rw [← List.append_assoc]; exact HST4
              · have h1 := HD.out
                rw [← HB.out, scr_delE HX.out, HB.out] at h1
                unfold Hid
                rw [List.append_assoc]
                exact h1
              · have := HDL.out; unfold Hid; simp only [List.length_append, List.length_singleton]; omega
            case measure => simp [intOf]; omega

        · by_cases hqM : q < m1
          ·
            have hiE : i = n1 := by omega
            subst hiE
            obtain ⟨bb, ob, y, rfl, hbb, hby, hbcell⟩ := hrb.str (k := q) hqM
            have HY := Lib.hid hby; clear hby
            go_wp2
            refine wp_region_q (fun w' => ∀ p : Addr, w'.cell? p = wr.cell? p) (qs 22) mixed (by kernel_rfl) (fun p => rfl) ?_
            intro T M Q hT hT' hM hQ
            clear hM
            have d1 : decide ((i : Int) < i) = false := decide_eq_false (by omega)
            simp only [qcmp]
            simp (maxSteps := 5000000) only [↓qpre, qpost, qfacts, qnorm, d1]
            refine hQ _ _ ?_
            clear hQ hT hT' d1
            go_wp2
            refine wp_region_q (fun w' => ∀ p : Addr, w'.cell? p = wr.cell? p) (qs 30) mixed (by kernel_rfl) (fun p => rfl) ?_
            intro T M Q hT hT' hM hQ
            clear hM
            have d1 : decide ((q : Int) = m1) = false := decide_eq_false (by omega)
            have d2 : decide ((i : Int) < i) = false := decide_eq_false (by omega)
            simp only [qcmp]
            simp (maxSteps := 5000000) only [↓qpre, qpost, qfacts, qnorm, d1, d2]
            refine hQ _ _ ?_
            clear hQ hT hT' d1 d2
            have c0 := (HW.out.cell (p := ⟨bb, ob + q, none⟩) hbb).trans hbcell
            go_wp2_with (at_builtin; refine wpl_edit rfl (.tmp 99) (.tmp 105) rfl rfl rfl (EOwn.alloc HST.out.own.drew.drew _) (alloc_at rfl) HLL.out (HW.out.drew.drew.alloc hws _) ?_; intro v2 w4 ho2 hw2 hg2 hat2; have HW4 := Lib.hid hw2; have HST4 := Lib.hid (ST.push (HST.out.drew.drew.alloc _) ho2 hg2 hat2); clear ho2 hw2 hg2 hat2)
            go_roundw
            case rel =>
              refine ⟨i, q + 1, d ++ [⟨3, y⟩], by omega, by omega, by go_num, by go_num, HW4.out, ?_, ?_, ?_⟩
              · rw [← List.append_assoc]; exact HST4
              · have h1 := HD.out
                rw [← HA.out, scr_insE HY.out, HA.out] at h1
                unfold Hid
                rw [List.append_assoc]
                exact h1
              · have := HDL.out; unfold Hid; simp only [List.length_append, List.length_singleton]; omega
            case measure => simp [intOf]; omega

          · have hiE : i = n1 := by omega
            have hqE : q = m1 := by omega
            subst hiE hqE
            have HF : Hid (L0 ++ d = fin) := by
              have h1 := HD.out
              rw [List.drop_of_length_le (by rw [HA.out]; exact Nat.le_refl _), List.drop_of_length_le (by rw [HB.out]; exact Nat.le_refl _), scrT, List.append_nil] at h1
              unfold Hid
              rw [HS2.out, h1]
            go_wp2
            go_ret
            rw [← HF.out]
            exact HST.out.own.result HW.out rfl
  clear hK
  go_loopw [5, 6] (fun out i wr => ∃ k : Nat, k ≤ n ∧ k ≤ m ∧ i = .int .i64 k ∧ Below w.heap.size w wr ∧ Hid (EOwn wr w.heap.size out (evs 1 (a.take k))) ∧ Hid (a.take k = b.take k))
      (fun _ i _ => n - (intOf i).toNat)
  case atStart =>
    refine ⟨0, Nat.zero_le _, Nat.zero_le _, rfl, Below.refl _ _, ?_, rfl⟩
    rw [List.take_zero]; exact World.ownsRow_nil _ _ _ _
  case round =>
    obtain ⟨k, hkn, hkm, rfl, hbw, HO, HT⟩ := hrel
    have hws := hbw.size
    have HW := Lib.hid hbw; clear hbw
    by_cases h1 : k < n
    case' pos =>
      obtain ⟨ba, oa, x, rfl, hba, hax, hacell⟩ := ha.str (k := k) h1
      have HX := Lib.hid hax; clear hax
      rcases Nat.lt_or_ge k m with h2 | h2
      case' inl =>
        obtain ⟨bb, ob, y, rfl, hbb, hby, hbcell⟩ := hb.str (k := k) h2
        have HY := Lib.hid hby; clear hby
        go_wp2
        refine wp_region_q (fun w' => Below w.heap.size w w') (qs 21) mixed (by kernel_rfl) HW.out.drew ?_
        intro T M Q hT hT' hM hQ
        have f0 : M ⟨ba, oa + k, none⟩ = some (.string x) := hM _ _ fun w' hw => (hw.cell (p := ⟨ba, oa + k, none⟩) hba).trans hacell
        have f1 : M ⟨bb, ob + k, none⟩ = some (.string y) := hM _ _ fun w' hw => (hw.cell (p := ⟨bb, ob + k, none⟩) hbb).trans hbcell
        clear hM
        have d1 : decide ((k : Int) < n) = true := decide_eq_true (by omega)
        have d2 : decide ((k : Int) < m) = true := decide_eq_true (by omega)
        simp only [qcmp]
        simp (maxSteps := 5000000) only [↓qpre, qpost, qfacts, qnorm, f0, f1, d1, d2]
        refine ⟨⟨by omega, by omega⟩, ⟨by omega, by omega⟩, ?_⟩
        refine hQ _ _ ?_
        clear hQ hT hT' f0 f1 d1 d2
        cases hd : decide (x = y)
        case' true =>
          have hxy := of_decide_eq_true hd
          subst hxy
          clear hd
          have c0 := (HW.out.cell (p := ⟨ba, oa + k, none⟩) hba).trans hacell
          have HL := Lib.hid (show (evs 1 (a.take k)).length ≤ 4398046511104 by rw [evs_len, List.length_take]; omega)
          go_wp2_with (at_builtin; refine wpl_edit rfl (.tmp 33) (.tmp 39) rfl rfl rfl (EOwn.alloc HO.out.drew _) (alloc_at rfl) HL.out (HW.out.drew.alloc hws _) ?_; intro v2 w2 ho2 hw2 hg2 hat2; have HO2 := Lib.hid ho2; have HW2 := Lib.hid hw2; clear ho2 hw2 hg2 hat2)
          go_roundw
          case rel =>
            refine ⟨k + 1, by omega, by omega, by go_num, HW2.out, ?_, take_both HT.out HX.out HY.out⟩
            rw [evs_snoc HX.out]
            exact HO2
          case measure => simp [intOf]; omega
        case' false =>
          have HP := Lib.hid (pfx_eq (a := a) (b := b) (k := k) (by rw [HA.out]; omega) (by rw [HB.out]; omega) HT.out (.inr (.inr (by rw [HX.out, HY.out]; simpa using of_decide_eq_false hd))))
          clear hd
          clear hacell hbcell
          clear HX HY
          go_wp2
          exact TAIL hkn hkm HW.out.drew HO.out.drew HP
      case' inr =>
        have HP := Lib.hid (pfx_eq (a := a) (b := b) (k := k) (by rw [HA.out]; omega) (by rw [HB.out]; omega) HT.out (.inr (.inl (by rw [HB.out]; omega))))
        clear hacell
        go_wp2
        refine wp_region_q (fun w' => Below w.heap.size w w') (qs 21) mixed (by kernel_rfl) HW.out.drew ?_
        intro T M Q hT hT' hM hQ
        clear hM
        have d1 : decide ((k : Int) < n) = true := decide_eq_true (by omega)
        have d2 : decide ((k : Int) < m) = false := decide_eq_false (by omega)
        simp only [qcmp]
        simp (maxSteps := 5000000) only [↓qpre, qpost, qfacts, qnorm, d1, d2]
        refine hQ _ _ ?_
        clear hQ hT hT' d1 d2
        go_wp2
        exact TAIL hkn hkm HW.out.drew HO.out.drew HP
    case' neg =>
      have HP := Lib.hid (pfx_eq (a := a) (b := b) (k := k) (by rw [HA.out]; omega) (by rw [HB.out]; omega) HT.out (.inl (by rw [HA.out]; omega)))
      go_wp2
      refine wp_region_q (fun w' => Below w.heap.size w w') (qs 21) mixed (by kernel_rfl) HW.out.drew ?_
      intro T M Q hT hT' hM hQ
      clear hM
      have d1 : decide ((k : Int) < n) = false := decide_eq_false (by omega)
      simp only [qcmp]
      simp (maxSteps := 5000000) only [↓qpre, qpost, qfacts, qnorm, d1]
      refine hQ _ _ ?_
      clear hQ hT hT' d1
      go_wp2
      exact TAIL hkn hkm HW.out.drew HO.out.drew HP
end Go.Proofs.Ytabiegbbbljhlaa
