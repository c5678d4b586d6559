/- Walks: files copied, with room behind them, and held against what they were. -/
import Derived.Test.YtahlfafcjjkliaaGreatDoorU8
import Derived.OwnWalk
namespace Go.Proofs.YtahlfafcjjkliaaGreatDoor
open Go.RowKit

theorem wpl_make0 {P : Program} {w : World} {a : Act} {ops : Array Oper} {rest : List Oper} {o : Oper} {Q : Exit → Act → World → Prop} (hgd : o.guard = none) (l c : Operand) (t : TypeId)
    (ho : o.op = .makeSlice t l c) {e : TypeId} {size bytes : Nat} (E : Elem P t e size bytes) (base n : Nat)
    {C : Int} (hl : a.eval l = .int .i64 0) (hc : a.eval c = .int .i64 C) (hC : C = (n : Int)) (hb : bytes * n ≤ 281474976710656) (h63 : n ≤ maxLen) (hbase : base ≤ w.heap.size)
    (hK : ∀ w', w'.ownsRow base e size (.slice (some ⟨w.heap.size, 0, none⟩) 0 n) 0 [] → w.grownBy w' none → wpList P ops Q rest (a.put o.dst (.slice (some ⟨w.heap.size, 0, none⟩) 0 n)) w') :
    wpList P ops Q (o :: rest) a w := by
  obtain ⟨i, z, hi, hz, hsz, hby, hzs⟩ := E.row
  exact wpList_make_own w hgd l c t ho base e i z size E.und hi hz hsz .i64 .i64 C n hl hc hC (by rw [hby]; exact hb) h63 hbase hK
theorem wpl_fits {P : Program} {w : World} {ops : Array Oper} {rest : List Oper} {o : Oper} {a : Act} {Q : Exit → Act → World → Prop} (hgd : o.guard = none) (s x : Operand) (t : TypeId)
    (ho : o.op = .call { callee := .builtin .append, args := #[s, x], argTypes := #[t, t] }) {e : TypeId} {size bytes : Nat} (E : Elem P t e size bytes) {base : Nat}
    {g k cap : Nat} {xs : List Value} {B : Nat} {A : Option Addr} {m c : Nat} {news : List Value}
    (hs : a.eval s = .slice (some ⟨g, 0, none⟩) k cap) (hx : a.eval x = .slice A m c) (hown : w.ownsRow base e size (.slice (some ⟨g, 0, none⟩) k cap) k xs) (hr : Rd w B size A m c news) (h1 : ∀ u ∈ news, u.oneCell' = true)
    (hroom : k + m ≤ cap)
    (hK : ∀ w', w'.ownsRow base e size (.slice (some ⟨g, 0, none⟩) (k + m) cap) (k + m) (xs ++ news) → w.grownBy w' (some g) → wpList P ops Q rest (a.put o.dst (.slice (some ⟨g, 0, none⟩) (k + m) cap)) w') :
    wpList P ops Q (o :: rest) a w := by
  obtain ⟨i, z, hi, hz, hsz, hby, hzs⟩ := E.row
  rcases Nat.eq_zero_or_pos m with rfl | hm
  · have hn : news = [] := List.eq_nil_of_length_eq_zero (by simpa using hr.len)
    subst hn
    cases A with
    | some ad => exact wpList_append_fits w hgd s x t ho base e i size E.und hi hsz g k cap xs hs hown ad 0 c [] hx (by simp) (by simp) h1 hroom hK
    | none =>
      refine wpList_plain hgd fun K hK' => ?_
      have hk : k ≤ cap := by omega
      unfold Oper.wp
      have hrun : (Builtin.append_ #[t, t] o.type #[.slice (some ⟨g, 0, none⟩) k cap, .slice none 0 c]).run P w = .ok (.slice (some ⟨g, 0, none⟩) k cap) w := by
        simp [Builtin.append_, run_underlying E.und, sizeOf, typeInfo, hi, Builtin.lenOf, Builtin.firstCells, hk, storeCells]
      simp [execOp, ho, resolve, invoke, builtin, hs, hx, hrun, Result.andThen]
      exact hK' _ _ (by simpa using hK w (by simpa using hown) (World.grownBy.refl _ _))
  · obtain ⟨b, o', rfl, _, hc⟩ := hr.at_ hm
    exact wpList_append_fits w hgd s x t ho base e i size E.und hi hsz g k cap xs hs hown ⟨b, o', none⟩ m c news hx hr.len (fun j u hu => by
      have hadd : (⟨b, o', none⟩ : Addr).add j = ⟨b, o' + j, none⟩ := by unfold Addr.add; split <;> simp_all
      rw [hadd]; exact hc j u hu) h1 hroom hK
theorem ownsRow_whole {w : World} {base : Nat} {e : TypeId} {size g n cap : Nat} {xs : List Value} (h : w.ownsRow base e size (.slice (some ⟨g, 0, none⟩) n cap) n xs) :
    ∃ ys, ys.length = (cap - n) * size ∧ w.ownsRow base e size (.slice (some ⟨g, 0, none⟩) cap cap) cap (xs ++ ys) := by
  rcases h.2 with ⟨h', _⟩ | ⟨g', cap', cur, h', hb, hg, hnc, hcm, hcs, htake⟩
  · simp at h'
  · simp only [Value.slice.injEq, Option.some.injEq, Addr.mk.injEq, and_true, true_and] at h'
    obtain ⟨rfl, rfl⟩ := h'
    refine ⟨cur.toList.drop (n * size), ?_, ?_, .inr ⟨g, cap, cur, rfl, hb, hg, Nat.le_refl _, hcm, hcs, ?_⟩⟩
    · rw [List.length_drop, Array.length_toList, hcs, Nat.sub_mul]
    · rw [← htake, List.take_append_drop, Array.length_toList, hcs]
    · rw [← htake, List.take_append_drop, List.take_of_length_le (by rw [Array.length_toList, hcs]; exact Nat.le_refl _)]


/-- A copy of its own, with three places more behind it that hold x. -/
def OwnIs (e : TypeId) (sz n : Nat) (xs x : List Value) (w : World) (en : Ending) (w' : World) : Prop :=
  ∃ g, en = .returned (.slice (some ⟨g, 0, none⟩) n (n + 3)) ∧ w'.ownsRow w.heap.size e sz (.slice (some ⟨g, 0, none⟩) (n + 3) (n + 3)) (n + 3) (xs ++ (x ++ (x ++ x))) ∧ Below w.heap.size w w'
theorem fillK {xs ys fc : List Value} {n k s : Nat} (hx : xs.length = n * s) (hf : fc.length = s) (hk : (k + 1) * s ≤ ys.length) :
    (xs ++ ((List.replicate k fc).flatten ++ ys.drop (k * s))).take ((n + k) * s) ++ fc ++ (xs ++ ((List.replicate k fc).flatten ++ ys.drop (k * s))).drop ((n + k) * s + s) = xs ++ ((List.replicate (k + 1) fc).flatten ++ ys.drop ((k + 1) * s)) := by
  have h1 : (xs ++ (List.replicate k fc).flatten).length = (n + k) * s := by rw [List.length_append, hx, List.length_flatten, List.map_replicate, List.sum_replicate_nat, hf, Nat.add_mul]
  rw [← List.append_assoc, List.take_append_of_le_length (by omega), List.take_of_length_le (by omega), List.drop_append, List.drop_of_length_le (by omega), h1, List.nil_append, List.drop_drop, List.replicate_succ']
  rw [show k * s + ((n + k) * s + s - (n + k) * s) = (k + 1) * s by rw [Nat.succ_mul]; omega]
  simp



theorem rd_front {w : World} {B g n k sz : Nat} {xs ys : List Value} (h : Rd w B sz (some ⟨g, 0, none⟩) (n + k) (n + k) (xs ++ ys)) (hx : xs.length = n * sz) (hk : 0 < k) : Rd w B sz (some ⟨g, 0, none⟩) n (n + k) xs :=
  ⟨hx, by omega, fun h0 => by
    obtain ⟨b, o, e, hb, hc⟩ := h.at_ (by omega)
    refine ⟨b, o, e, hb, fun j u hu => hc j u ?_⟩
    rw [List.getElem?_append_left (List.getElem?_eq_some_iff.1 hu).1]
    exact hu⟩

end Go.Proofs.YtahlfafcjjkliaaGreatDoor
