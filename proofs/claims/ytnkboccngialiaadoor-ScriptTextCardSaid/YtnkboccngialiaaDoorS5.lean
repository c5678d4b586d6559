/- Walk: script.Decode. -/
import Derived.Test.YtnkboccngialiaaDoorS2
import Derived.Test.YtnkboccngialiaaDoorS4
namespace Go.Proofs.YtnkboccngialiaaDoor
open Go.RowKit

/-- Steps that are being listed: the row is the call's own, from block lo on; what they hold lies elsewhere. -/
structure SB (w : World) (lo : Nat) (v : Value) (ss : List SV) : Prop where
  own : w.ownsRow lo 32 11 v ss.length (ss.flatMap SV.cells)
  parts : ∀ s ∈ ss, s.ok w lo w.heap.size v.ownBlock
theorem SB.nil (w : World) (lo : Nat) : SB w lo (.slice none 0 0) [] := ⟨World.ownsRow_nil _ _ _ _, fun s hs => by cases hs⟩
theorem SV.len (s : SV) : s.cells.length = 11 := rfl
theorem slen (ss : List SV) : (ss.flatMap SV.cells).length = ss.length * 11 := len_flat (f := SV.cells) (k := 11) SV.len ss
section
variable {w w1 w2 : World} {lo : Nat} {v : Value} {ss : List SV}
/-- Nothing of it was written. -/
theorem SB.keep (h : SB w lo v ss) {r : Nat} (hg : w.grownBy w1 (some r)) (hr : r < lo) : SB w1 lo v ss := by
  refine ⟨h.own.kept hg ?_, fun s hs => (h.parts s hs).stay hg.size (fun b hb hl _ => hg.block b hl (fun e => by simp at e; omega)) (fun _ _ _ h => h)⟩
  cases hv : v.ownBlock with
  | none => exact .inl rfl
  | some g => exact .inr (fun e => by have := (h.own.lt g hv).1; simp at e; omega)
theorem SB.alloc (h : SB w lo v ss) (o : Obj) : SB (w.alloc o) lo v ss :=
  ⟨h.own.alloc o, fun s hs => (h.parts s hs).stay (by simp) (fun b _ hl _ => Lib.alloc_old _ _ _ hl) (fun _ _ _ h => h)⟩
/-- One step more, behind the append. -/
theorem SB.push (h : SB w lo v ss) {s : SV} (hs : s.ok w lo w.heap.size v.ownBlock) {v' : Value} (ho : w1.ownsRow lo 32 11 v' (ss.length + 1) (ss.flatMap SV.cells ++ s.cells)) (hg : w.grownBy w1 v.ownBlock)
    (hb : v'.ownBlock = v.ownBlock ∨ v'.ownBlock = some w.heap.size) : SB w1 lo v' (ss ++ [s]) := by
  have hne : ∀ b, lo ≤ b → b < w.heap.size → some b ≠ v.ownBlock → some b ≠ v'.ownBlock := fun b _ hl hn => by
    rcases hb with e | e
    · rw [e]; exact hn
    · rw [e]; simp; omega
  refine ⟨by simpa [List.flatMap_append] using ho, fun t ht => ?_⟩
  rcases List.mem_append.1 ht with ht | ht
  · exact (h.parts t ht).stay hg.size (fun b _ hl hn => hg.block b hl hn) hne
  · obtain rfl := List.mem_singleton.1 ht
    exact hs.stay hg.size (fun b _ hl hn => hg.block b hl hn) hne
theorem few_of {s : SV} {xs : List UInt8} {i : Nat} (h : s.pure = stepAt xs i) : s.keep.length ≤ 2 ∧ s.changes.length ≤ 1 ∧ s.paths.length ≤ 1 := by
  have e1 : s.keep = (stepAt xs i).keep := congrArg PS.keep h
  have e2 : s.changes = (stepAt xs i).changes := congrArg PS.changes h
  have e3 : s.paths = (stepAt xs i).paths := congrArg PS.paths h
  rw [e1, e2, e3]
  unfold stepAt stepOf
  split <;> simp
theorem few_all {xs : List UInt8} {j : Nat} (h : ss.map SV.pure = stepsTo xs j) : ∀ s ∈ ss, s.keep.length ≤ 2 ∧ s.changes.length ≤ 1 ∧ s.paths.length ≤ 1 := by
  intro s hs
  have : s.pure ∈ stepsTo xs j := by rw [← h]; exact List.mem_map_of_mem hs
  unfold stepsTo at this
  obtain ⟨i, _, hi⟩ := List.mem_map.1 this
  exact few_of hi.symm
/-- Done: they read as steps. -/
theorem SB.rdS (h : SB w lo v ss) (hf : ∀ s ∈ ss, s.keep.length ≤ 2 ∧ s.changes.length ≤ 1 ∧ s.paths.length ≤ 1) : ∃ A c, v = .slice A ss.length c ∧ RdS w w.heap.size A ss.length c ss := by
  obtain ⟨A, c, rfl, hc⟩ := ownsRow_cap h.own
  exact ⟨A, c, rfl, ⟨Rd.of_own h.own hc, fun s hs => (h.parts s hs).low, hf⟩⟩
end

theorem SV.one' (s : SV) : ∀ u ∈ s.cells, u.oneCell' = true := by
  intro u hu
  simp only [SV.cells, List.mem_cons, List.not_mem_nil, or_false] at hu
  rcases hu with rfl | rfl | rfl | rfl | rfl | rfl | rfl | rfl | rfl | rfl | rfl <;> rfl
theorem rd_new (w : World) (s : SV) : Rd (w.alloc (.cells s.cells.toArray 32)) (w.heap.size + 1) 11 (some ⟨w.heap.size, 0, none⟩) 1 1 s.cells :=
  ⟨rfl, Nat.le_refl _, fun _ => ⟨_, _, rfl, by omega, fun j u hu => by rw [World.cell?, heap_alloc_new, Nat.zero_add]; simpa using hu⟩⟩

/-- What Decode hands back: the steps of the bytes. -/
def DecPost (xs : List UInt8) (w : World) (e : Ending) (w' : World) : Prop :=
  ∃ A c ss, e = .returned (.slice A (nst xs.length) c) ∧ RdS w' w'.heap.size A (nst xs.length) c ss ∧ ss.map SV.pure = steps xs ∧ Below w.heap.size w w'

theorem decPost_of {xs : List UInt8} {w wr : World} {lo j : Nat} {A : Option Addr} {c : Nat} {ss : List SV} (h : SB wr lo (.slice A j c) ss) (hj : j = nst xs.length) (hp : ss.map SV.pure = stepsTo xs j) (hb : Below w.heap.size w wr) :
    DecPost xs w (.returned (.slice A j c)) wr := by
  obtain ⟨A', c', e, hr⟩ := h.rdS (few_all hp)
  cases e
  have hsl : ss.length = nst xs.length := by have := congrArg List.length hp; rw [List.length_map, stepsTo_len] at this; omega
  rw [hsl] at hr hp ⊢
  exact ⟨_, _, ss, rfl, hr, hp, hb⟩

set_option maxRecDepth 100000 in
set_option maxHeartbeats 8000000 in
theorem decode_any {A : Option Addr} {n c B : Nat} {xs : List UInt8} {w : World} (hn : n ≤ 1048576) (hB : B ≤ w.heap.size) (hr : Rd w B 1 A n c (by8 xs)) :
    Calls Tryd.prog 10 #[.slice A n c] w (DecPost xs w) := by
  have HL := Lib.hid (show xs.length = n by have := hr.len; rw [by8_len] at this; omega)
  have HR := Lib.hid (hr.to (Below.refl B w) hB)
  clear hr hB
  go_enter Tryd.func10, Tryd.ntmps10
  go_wp2
  go_loopw [4] (fun l wr => ∃ (j : Nat) (ss : List SV), Hid (SB wr (w.heap.size + 1) l ss) ∧ Hid (ss.map SV.pure = stepsTo xs j) ∧ j ≤ nst n ∧ Hid (RS wr w.heap.size w.heap.size xs (8 * j)) ∧ Hid (Below w.heap.size w wr))
    (fun l wr => match l with | .slice _ m _ => 200 - m | _ => 0)
  case atStart =>
    refine ⟨0, [], SB.nil _ _, rfl, by omega, ⟨A, n, c, ?_, Nat.le_refl _, ?_⟩, (Below.refl _ w).alloc (Nat.le_refl _) _⟩
    · exact heap_alloc_new _ _
    · exact HR.out.below ((Below.refl _ w).alloc (Nat.le_refl _) _)
  case round =>
    obtain ⟨j, ss, HS, HP, hj, HRS, HB⟩ := hrel
    obtain ⟨A1, c1, hv, hc1⟩ := ownsRow_cap HS.out.own
    have hsl : ss.length = j := by have := congrArg List.length HP.out; rw [List.length_map, stepsTo_len] at this; exact this
    obtain ⟨A2, n2, c2, hg2, _, hr2⟩ := HRS.out
    have hn2 : n2 = n - 8 * j := by have := hr2.len; rw [by8_len, List.length_drop, HL.out] at this; omega
    have h0 : wr.cell? ⟨w.heap.size, 0, none⟩ = some (.slice A2 n2 c2) := by rw [World.cell?, hg2]; rfl
    subst hv
    rw [hsl] at HS
    have h1 : (0 : Int) < (n2 : Int) ↔ 8 * j < n := by omega
    have HN2 := Lib.hid hn2
    clear hn2 hr2 hg2
    by_cases hlt : 8 * j < n
    · by_cases hlt2 : j < 200
      · have h1' := h1.2 hlt
        clear h1
        go_wp2_with fail
        refine (step_any HRS.out).mono ?_
        rintro e w1 ⟨s, rfl, hsp, hso, hrs, hg⟩
        rw [show s.val = .agg #[.bool s.crash, .int .i64 s.after, .slice s.kA s.keep.length s.kc, .int .i64 s.kind, .string s.msg, .slice s.cA s.changes.length s.cc, .slice s.pA s.paths.length s.pc, .int .i64 s.count, .int .i64 s.commit, .int .i64 s.dest, .string s.name] from rfl]
        have hbs := HB.out.size
        have hgs := HRS.out.lt
        have hSr : SB wr (w.heap.size + 1) (.slice A1 j c1) ss := HS.out
        have HS1 := Lib.hid ((hSr.keep hg (by omega)).alloc (.cells s.cells.toArray 32))
        have HOK := Lib.hid (show s.ok (w1.alloc (.cells s.cells.toArray 32)) (w.heap.size + 1) (w1.alloc (.cells s.cells.toArray 32)).heap.size (Value.slice A1 j c1).ownBlock from by
          have hlt := hSr.own.lt
          refine ⟨hso.keep.stay (by simp) (fun b _ _ hb => Lib.alloc_old _ _ _ hb), hso.changes.stay (by simp) (fun b _ _ hb => Lib.alloc_old _ _ _ hb), hso.paths.stay (by simp) (fun b _ _ hb => Lib.alloc_old _ _ _ hb), fun b o e => ?_⟩
          have h3 := hso.off b o e
          refine ⟨by omega, by simp; omega, fun e2 => ?_⟩
          have := (hlt b e2.symm).2
          omega)
        have HRS1 := Lib.hid (hrs.keep (w' := w1.alloc (.cells s.cells.toArray 32)) (fun k hk => Lib.alloc_old _ _ _ (by have := hrs.lt; omega)))
        have HB1 := Lib.hid (HB.out.trans ⟨hg.os, hg.tape, hg.output, hg.size, fun k hk => hg.block k (by omega) (fun e => by simp at e; omega)⟩ : Below w.heap.size w w1)
        have HSP := Lib.hid hsp
        have hgz := hg.size
        clear hso hrs hg hsp HS HRS HB hSr h0
        go_wp2_with (at_builtin; refine wpl_append rfl (.tmp 19) (.tmp 22) 33 rfl E33 (B := w1.heap.size + 1) (A := some ⟨w1.heap.size, 0, none⟩) (m := 1) (c := 1) (news := s.cells) (n := j) rfl rfl (hsl ▸ HS1.out.own) (rd_new w1 s) (SV.one' s) (by simp only [maxLen]; omega) (by omega) (by simp; omega) ?_; intro v' w' ho hg' hb')
        obtain ⟨A3, c3, rfl, _⟩ := ownsRow_cap ho
        have hSl : (w1.alloc (.cells s.cells.toArray 32)).ownsRow (w.heap.size + 1) 32 11 (.slice A1 j c1) j (ss.flatMap SV.cells) := hsl ▸ HS1.out.own
        have hlt2 := hSl.lt
        have hpush : SB w' (w.heap.size + 1) (.slice A3 (j + 1) c3) (ss ++ [s]) := SB.push HS1.out HOK.out (by rw [hsl]; exact ho) hg' hb'
        refine ⟨⟨j + 1, ss ++ [s], hpush, ?_, nst_more hj hlt (by omega), ?_, ?_⟩, ?_⟩
        · show _ = _
          rw [List.map_append, HP.out, stepsTo_succ, List.map_singleton, HSP.out]
        · exact HRS1.out.keep (fun k hk => hg'.block k (by simp; omega) (fun e => by have := (hlt2 k e.symm).1; omega))
        · exact (HB1.out.alloc (by have := HB1.out.size; omega) _).grown hg' (by simp; have := HB1.out.size; omega) (fun g hg => by have := (hlt2 g hg).1; omega)
        · show 200 - (j + 1) < 200 - ss.length
          omega
      · have hj2 : j = nst n := nst_end hj (fun h => hlt2 h.2)
        have h1' : (0 : Int) < (n2 : Int) := h1.2 hlt
        clear h1
        have hfin := decPost_of (xs := xs) (w := w) HS.out (HL.out ▸ hj2) HP.out HB.out
        have HF := Lib.hid hfin
        clear hfin hj2
        go_wp2
        go_ret
        exact HF.out
    · have h1' : ¬ (0 : Int) < (n2 : Int) := fun h => hlt (h1.1 h)
      have hj2 : j = nst n := nst_end hj (fun h => hlt h.1)
      have hfin := decPost_of (xs := xs) (w := w) HS.out (HL.out ▸ hj2) HP.out HB.out
      have HF := Lib.hid hfin
      clear h1 hfin hj2
      go_wp2
      go_ret
      exact HF.out
end Go.Proofs.YtnkboccngialiaaDoor
