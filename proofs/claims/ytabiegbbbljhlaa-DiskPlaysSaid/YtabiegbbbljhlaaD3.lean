/- Walks: the disk's functions that write: Append. -/
import Derived.Test.YtabiegbbbljhlaaD2
import Derived.ArgAppend
namespace Go.Proofs.Ytabiegbbbljhlaa
open Go.RowKit

theorem run_append_none {P : Program} {w : World} {t ty e : TypeId} {size bytes : Nat} (E : Elem P t e size bytes) (A B : Option Addr) (n k c : Nat) (hk : n ≤ k) :
    (Builtin.append_ #[t, t] ty #[.slice A n k, .slice B 0 c]).run P w = .ok (.slice A n k) w := by
  obtain ⟨i, z, hi, hz, hsz, hby, hzs⟩ := E.row
  cases B with
  | none => cases A <;> simp [Builtin.append_, run_underlying E.und, sizeOf, typeInfo, hi, Builtin.lenOf, Builtin.firstCells, hk, storeCells]
  | some b =>
    have hf := run_firstCells_some (P := P) w i.size 0 b 0 c [] (by simp) (by simp)
    cases A <;> simp [Builtin.append_, run_underlying E.und, sizeOf, typeInfo, hi, Builtin.lenOf, hk, storeCells, hf]
/-- What is appended behind a slice without room: the slice as it was, or a row of its own. -/
theorem wpl_grow {P : Program} {w : World} {ops : Array Oper} {rest : List Oper} {o : Oper} {a : Act} {Q : Exit → Act → World → Prop} (hgd : o.guard = none) (s x : Operand) (t : TypeId)
    (ho : o.op = .call { callee := .builtin .append, args := #[s, x], argTypes := #[t, t] }) {e : TypeId} {bytes : Nat} (E : Elem P t e 1 bytes) {N : Nat}
    {A : Option Addr} {n : Nat} {xs : List Value} {B : Nat} {C : Option Addr} {m c : Nat} {news : List Value}
    (hs : a.eval s = .slice A n n) (hx : a.eval x = .slice C m c) (hd : Dat N e w A n n xs) (hr : Rd w B 1 C m c news) (h1 : ∀ u ∈ news, u.oneCell' = true)
    (h63 : n + m ≤ maxLen) (hbytes : (n + m) * bytes ≤ 140737488355328)
    (hK : ∀ A' c' w', Dat N e w' A' (n + m) c' (xs ++ news) → Below w.heap.size w w' → wpList P ops Q rest (a.put o.dst (.slice A' (n + m) c')) w') :
    wpList P ops Q (o :: rest) a w := by
  rcases Nat.eq_zero_or_pos m with rfl | hm
  · have hn : news = [] := List.eq_nil_of_length_eq_zero (by simpa using hr.len)
    subst hn
    refine wpList_plain hgd fun K hK' => ?_
    unfold Oper.wp
    have hrun := run_append_none (w := w) (ty := o.type) E A C n n c (Nat.le_refl _)
    simp [execOp, ho, resolve, invoke, builtin, hs, hx, hrun, Result.andThen]
    exact hK' _ _ (by simpa using hK A n w (by simpa using hd) (Below.refl _ _))
  · obtain ⟨b, o', rfl, _, hc⟩ := hr.at_ hm
    obtain ⟨i, z, hi, hz, hsz, hby, hzs⟩ := E.row
    refine wpList_append_grows w hgd s x t ho e i z 1 bytes E.und hi hz hsz hby hzs (by omega) A n n xs hs (fun hA => ?_) (by rw [hd.len, Nat.mul_one]) (fun b' hb' j u hu => ?_) ⟨b, o', none⟩ m c news hx hr.len (fun j u hu => ?_) h1 (by omega) h63 hbytes ?_
    · rcases Nat.eq_zero_or_pos n with h0 | h0
      · exact ⟨h0, h0⟩
      · obtain ⟨_, _, e1, _⟩ := hd.at_ h0; rw [hA] at e1; cases e1
    · have hj := (List.getElem?_eq_some_iff.1 hu).1
      have hl := hd.len
      obtain ⟨b2, o2, e1, _, _, h3⟩ := hd.at_ (by omega)
      rw [hb'] at e1
      cases e1
      rw [Addr.add_lit]
      exact h3 j u hu
    · rw [Addr.add_lit]; exact hc j u hu
    · intro v' w' h2 h3
      obtain ⟨A', c', rfl, hc'⟩ := ownsRow_cap h2
      exact hK A' c' w' (Dat.of_own h2 hc') ((Below.refl _ _).grown h3 (Nat.le_refl _) (fun g hg => by cases hg))

/-- A file turned, and behind it the step. -/
theorem PD.put_down (d : PD) (f : Int) (l : List UInt8) (s : Nat) : (d.put f l s).down = d.down := by unfold PD.put; split <;> rfl
theorem PD.put0_wf {d : PD} (h : d.wf) {l : List UInt8} {s : Nat} (hl : l.length + d.f1.length ≤ d.room) (hs : s ≤ l.length) : (d.put 0 l s).wf := ⟨h.room, hl, hs, h.s1, h.st, h.up, h.keep, h.kl⟩
theorem PD.put1_wf {d : PD} (h : d.wf) {l : List UInt8} {s : Nat} (hl : d.f0.length + l.length ≤ d.room) (hs : s ≤ l.length) : (d.put 1 l s).wf := ⟨h.room, hl, h.s0, hs, h.st, h.up, h.keep, h.kl⟩
theorem DOp.then_ {N g : Nat} {r : Int × PD} {w w1 : World} {e : Ending} {w' : World} (h : DOp N g r w1 e w') (hg : w.grownBy w1 (some g)) : DOp N g r w e w' := ⟨h.1, h.2.1, hg.trans h.2.2⟩
theorem ask_zero {d : PD} {f : Int} (ha : d.ask f = 0) : d.down = false ∧ (f = 0 ∨ f = 1) := by
  unfold PD.ask at ha
  split at ha
  · cases ha
  · rename_i h1
    split at ha
    · cases ha
    · exact ⟨by simpa using h1, by omega⟩

section
variable {N g : Nat} {w : World} {d : PD} {A0 A1 Ak : Option Addr} {c0 c1 ck : Nat}
theorem set_grown (w : World) (g j : Nat) (u : Value) : w.grownBy (w.setCell ⟨g, j, none⟩ u) (some g) := ⟨rfl, rfl, rfl, by simp, fun k _ hk => heap_setCell_other _ _ k _ (fun e => hk (by rw [e]))⟩
theorem DL.below {w' : World} (h : DL N w g d A0 c0 A1 c1 Ak ck) (hb : Below w.heap.size w w') : DL N w' g d A0 c0 A1 c1 Ak ck :=
  ⟨(hb.block g h.lt).trans h.blk, h.base, h.d0.below hb, h.d1.below hb, h.dk.below hb, h.wf⟩
theorem DL.set0 (h : DL N w g d A0 c0 A1 c1 Ak ck) {A : Option Addr} {n c : Nat} {l : List UInt8} (hn : l.length = n) (hd : Dat N 5 w A n c (by8 l)) (hwf : (d.put 0 l d.s0).wf) :
    DL N (w.setCell ⟨g, 1, none⟩ (.slice A n c)) g (d.put 0 l d.s0) A c A1 c1 Ak ck := by
  subst hn
  have hg := set_grown w g 1 (.slice A l.length c)
  exact ⟨heap_setCell_same w g 1 _ 89 _ h.blk, h.base, hd.grown hg h.base h.blk (by decide), h.d1.grown hg h.base h.blk (by decide), h.dk.grown hg h.base h.blk (by decide), hwf⟩
theorem DL.set1 (h : DL N w g d A0 c0 A1 c1 Ak ck) {A : Option Addr} {n c : Nat} {l : List UInt8} (hn : l.length = n) (hd : Dat N 5 w A n c (by8 l)) (hwf : (d.put 1 l d.s1).wf) :
    DL N (w.setCell ⟨g, 3, none⟩ (.slice A n c)) g (d.put 1 l d.s1) A0 c0 A c Ak ck := by
  subst hn
  have hg := set_grown w g 3 (.slice A l.length c)
  exact ⟨heap_setCell_same w g 3 _ 89 _ h.blk, h.base, h.d0.grown hg h.base h.blk (by decide), hd.grown hg h.base h.blk (by decide), h.dk.grown hg h.base h.blk (by decide), hwf⟩
theorem DL.syn0 (h : DL N w g d A0 c0 A1 c1 Ak ck) {s : Nat} {k : Int} (hk : k = s) (hwf : (d.put 0 d.f0 s).wf) :
    DL N (w.setCell ⟨g, 2, none⟩ (.int .i64 k)) g (d.put 0 d.f0 s) A0 c0 A1 c1 Ak ck := by
  subst hk
  have hg := set_grown w g 2 (.int .i64 s)
  exact ⟨heap_setCell_same w g 2 _ 89 _ h.blk, h.base, h.d0.grown hg h.base h.blk (by decide), h.d1.grown hg h.base h.blk (by decide), h.dk.grown hg h.base h.blk (by decide), hwf⟩
theorem DL.syn1 (h : DL N w g d A0 c0 A1 c1 Ak ck) {s : Nat} {k : Int} (hk : k = s) (hwf : (d.put 1 d.f1 s).wf) :
    DL N (w.setCell ⟨g, 4, none⟩ (.int .i64 k)) g (d.put 1 d.f1 s) A0 c0 A1 c1 Ak ck := by
  subst hk
  have hg := set_grown w g 4 (.int .i64 s)
  exact ⟨heap_setCell_same w g 4 _ 89 _ h.blk, h.base, h.d0.grown hg h.base h.blk (by decide), h.d1.grown hg h.base h.blk (by decide), h.dk.grown hg h.base h.blk (by decide), hwf⟩
theorem DL.at_ (h : DL N w g d A0 c0 A1 c1 Ak ck) {j : Nat} {u : Value} (hu : (dcells d A0 c0 A1 c1 Ak ck)[j]? = some u) : w.cell? ⟨g, j, none⟩ = some u := (cell_of_row w g j _ _ _ h.blk).trans hu
theorem DL.fr (h : DL N w g d A0 c0 A1 c1 Ak ck) (j : Nat) : w.frozen? ⟨g, j, none⟩ = false := frozen_of_row w g j _ _ h.blk
end

set_option maxRecDepth 100000 in
set_option maxHeartbeats 2000000 in
theorem append_any {N g : Nat} {d : PD} {f : Int} {B : Option Addr} {m cb BB : Nat} {bs : List UInt8} {w : World} (h : DK N w g d) (hBB : BB ≤ w.heap.size) (hr : Rd w BB 1 B m cb (by8 bs)) (hm : m ≤ 17592186044416) :
    Calls Try.prog 35 #[.pointer (some ⟨g, 0, none⟩), .int .i64 f, .slice B m cb] w (DOp N g (d.append f bs) w) := by
  have HM := Lib.hid (may_any (f := f) h)
  have hK := h
  have hml : bs.length = m := by have := hr.len; rw [by8_len] at this; omega
  by_cases ha : d.ask f = 0
  · obtain ⟨hdn, hf⟩ := ask_zero ha
    rw [ha] at HM
    have HF := Lib.hid (free_any h)
    by_cases hfree : d.free < m
    · have HA := Lib.hid (show d.append f bs = (3, d) by unfold PD.append; rw [if_neg (by omega), if_pos (by rw [hml]; exact hfree)])
      go_enter Try.func35, Try.ntmps35
      go_wp2_with fail
      refine HM.out.mono ?_
      rintro e w1 ⟨rfl, rfl⟩
      go_wp2_with fail
      refine HF.out.mono ?_
      rintro e w2 ⟨rfl, hb2⟩
      go_wp2
      go_ret
      rw [HA.out]
      exact ⟨rfl, hK.below hb2, grownBy_below hb2 _⟩
    · rcases hf with rfl | rfl
      · have HA := Lib.hid (show d.append 0 bs = (0, (d.put 0 (d.f0 ++ bs) d.s0).step) by unfold PD.append; rw [if_neg (by omega), if_neg (by rw [hml]; exact hfree)]; rfl)
        have hwf := hK.wf
        have hroom := hwf.room
        have hwf' := PD.put0_wf hwf (l := d.f0 ++ bs) (s := d.s0) (by unfold PD.free at hfree; rw [List.length_append]; omega) (by have := hwf.s0; rw [List.length_append]; omega)
        have hfull := hwf.full
        unfold PD.free at hfree
        obtain ⟨A0, c0, A1, c1, Ak, ck, hD⟩ := hK
        go_enter Try.func35, Try.ntmps35
        go_wp2_with fail
        refine HM.out.mono ?_
        rintro e w1 ⟨rfl, rfl⟩
        go_wp2_with fail
        refine HF.out.mono ?_
        rintro e w2 ⟨rfl, hb2⟩
        have hD2 := hD.below hb2
        have e1 := hD2.at_ (j := 1) rfl
        have hcp := hD2.d0.cap
        unfold PD.free
        go_wp2_with fail
        refine (clip_any hcp (by omega)).mono ?_
        rintro e w3 ⟨rfl, rfl⟩
        have HDC := Lib.hid (show Dat N 5 w3 A0 d.f0.length d.f0.length (by8 d.f0) from ⟨hD2.d0.len, Nat.le_refl _, hD2.d0.at_⟩)
        have HR := Lib.hid (hr.below (hb2.mono hBB))
        have HD2 := Lib.hid hD2
        have HB2 := Lib.hid hb2
        clear hD2 hb2 e1 hr hD h HF
        go_wp2_with (at_builtin; refine wpl_grow rfl (.tmp 30) (.tmp 31) 48 rfl E48 (N := N) rfl rfl HDC.out HR.out (by8_one _) (by simp only [maxLen]; omega) (by omega) ?_; intro A' c' w4 hD4 hb4; have HL4 := Lib.hid (HD2.out.below hb4); have e4 := HL4.out.at_ (j := 1) rfl; have f4 := HL4.out.fr 1; have HD4 := Lib.hid hD4; have HB4 := Lib.hid hb4; clear hD4 hb4)
        have HL5 := Lib.hid (HL4.out.set0 (l := d.f0 ++ bs) (by rw [List.length_append, hml]) (by rw [by8_app]; exact HD4.out) hwf')
        refine (step_any (N := N) ⟨_, _, _, _, _, _, HL5.out⟩ ((PD.put_down ..).trans hdn)).mono ?_
        rintro e w5 hop
        have hgr := (grownBy_below HB2.out (some g)).trans ((grownBy_below HB4.out (some g)).trans (set_grown w4 g 1 (.slice A' (d.f0.length + m) c')))
        obtain ⟨rfl, h1, h2⟩ := hop
        go_wp2
        go_ret
        rw [HA.out]
        exact ⟨rfl, h1, hgr.trans h2⟩
      · have HA := Lib.hid (show d.append 1 bs = (0, (d.put 1 (d.f1 ++ bs) d.s1).step) by unfold PD.append; rw [if_neg (by omega), if_neg (by rw [hml]; exact hfree)]; rfl)
        have hwf := hK.wf
        have hroom := hwf.room
        have hwf' := PD.put1_wf hwf (l := d.f1 ++ bs) (s := d.s1) (by unfold PD.free at hfree; rw [List.length_append]; omega) (by have := hwf.s1; rw [List.length_append]; omega)
        have hfull := hwf.full
        unfold PD.free at hfree
        obtain ⟨A0, c0, A1, c1, Ak, ck, hD⟩ := hK
        go_enter Try.func35, Try.ntmps35
        go_wp2_with fail
        refine HM.out.mono ?_
        rintro e w1 ⟨rfl, rfl⟩
        go_wp2_with fail
        refine HF.out.mono ?_
        rintro e w2 ⟨rfl, hb2⟩
        have hD2 := hD.below hb2
        have e1 := hD2.at_ (j := 3) rfl
        have hcp := hD2.d1.cap
        unfold PD.free
        go_wp2_with fail
        refine (clip_any hcp (by omega)).mono ?_
        rintro e w3 ⟨rfl, rfl⟩
        have HDC := Lib.hid (show Dat N 5 w3 A1 d.f1.length d.f1.length (by8 d.f1) from ⟨hD2.d1.len, Nat.le_refl _, hD2.d1.at_⟩)
        have HR := Lib.hid (hr.below (hb2.mono hBB))
        have HD2 := Lib.hid hD2
        have HB2 := Lib.hid hb2
        clear hD2 hb2 e1 hr hD h HF
        go_wp2_with (at_builtin; refine wpl_grow rfl (.tmp 30) (.tmp 31) 48 rfl E48 (N := N) rfl rfl HDC.out HR.out (by8_one _) (by simp only [maxLen]; omega) (by omega) ?_; intro A' c' w4 hD4 hb4; have HL4 := Lib.hid (HD2.out.below hb4); have e4 := HL4.out.at_ (j := 3) rfl; have f4 := HL4.out.fr 3; have HD4 := Lib.hid hD4; have HB4 := Lib.hid hb4; clear hD4 hb4)
        have HL5 := Lib.hid (HL4.out.set1 (l := d.f1 ++ bs) (by rw [List.length_append, hml]) (by rw [by8_app]; exact HD4.out) hwf')
        refine (step_any (N := N) ⟨_, _, _, _, _, _, HL5.out⟩ ((PD.put_down ..).trans hdn)).mono ?_
        rintro e w5 hop
        have hgr := (grownBy_below HB2.out (some g)).trans ((grownBy_below HB4.out (some g)).trans (set_grown w4 g 3 (.slice A' (d.f1.length + m) c')))
        obtain ⟨rfl, h1, h2⟩ := hop
        go_wp2
        go_ret
        rw [HA.out]
        exact ⟨rfl, h1, hgr.trans h2⟩
  · have HA := Lib.hid (show d.append f bs = (d.ask f, d) by unfold PD.append; rw [if_pos ha])
    obtain ⟨i1, i2⟩ := int_ne ha
    generalize d.ask f = k at *
    go_enter Try.func35, Try.ntmps35
    go_wp2_with fail
    refine HM.out.mono ?_
    rintro e w1 ⟨rfl, rfl⟩
    go_wp2
    go_ret
    rw [HA.out]
    exact ⟨rfl, hK, World.grownBy.refl _ _⟩
end Go.Proofs.Ytabiegbbbljhlaa
