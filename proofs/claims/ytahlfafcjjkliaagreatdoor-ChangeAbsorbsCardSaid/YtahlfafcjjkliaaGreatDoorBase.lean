/- What slices read as; the engine's effects: a call, an append. -/
import Derived.Test.YtahlfafcjjkliaaGreatDoorFacts
import Derived.Maps.AppendAt
import Derived.Deep.AppendLies
namespace Go.Proofs.YtahlfafcjjkliaaGreatDoor
open Go.RowKit

/-- The slice value '.slice A n c' reads, in w, as the cells xs, all below block B. -/
structure Rd (w : World) (B sz : Nat) (A : Option Addr) (n c : Nat) (xs : List Value) : Prop where
  len : xs.length = n * sz
  cap : n ≤ c
  at_ : 0 < n → ∃ b o : Nat, A = some ⟨b, o, none⟩ ∧ b < B ∧ ∀ j u, xs[j]? = some u → w.cell? ⟨b, o + j, none⟩ = some u

theorem Rd.one {w : World} {B n c : Nat} {A : Option Addr} {xs : List Value} (h : Rd w B 1 A n c xs) {k : Nat} (hk : k < n) :
    ∃ b o u, A = some ⟨b, o, none⟩ ∧ b < B ∧ xs[k]? = some u ∧ w.cell? ⟨b, o + k, none⟩ = some u := by
  obtain ⟨b, o, e, hb, hc⟩ := h.at_ (by omega)
  have hl : k < xs.length := by have := h.len; omega
  exact ⟨b, o, xs[k], e, hb, List.getElem?_eq_getElem hl, hc k _ (List.getElem?_eq_getElem hl)⟩

theorem Rd.str {w : World} {B n c : Nat} {A : Option Addr} {l : List ByteArray} (h : Rd w B 1 A n c (l.map .string)) {k : Nat} (hk : k < n) :
    ∃ b o u, A = some ⟨b, o, none⟩ ∧ b < B ∧ l[k]? = some u ∧ w.cell? ⟨b, o + k, none⟩ = some (.string u) := by
  obtain ⟨b, o, u, e, hb, hx, hc⟩ := h.one hk
  rw [List.getElem?_map] at hx
  cases hl : l[k]? with
  | none => rw [hl] at hx; cases hx
  | some s => rw [hl] at hx; cases hx; exact ⟨b, o, s, e, hb, rfl, hc⟩

theorem ba_ne {u v : ByteArray} (h : u ≠ v) : (u.toList == v.toList) = false := (Lib.bytes_beq_false_iff u v).2 h
theorem int_ne {u v : Int} (h : u ≠ v) : (u == v) = false ∧ (u != v) = true := by
  have h1 : (u == v) = false := beq_eq_false_iff_ne.2 h
  exact ⟨h1, by rw [bne, h1]; rfl⟩
theorem ret_bool {a b : Bool} (h : a = b) : Ending.returned (.bool a) = .returned (.bool b) := by rw [h]

theorem ext_get {α : Type} {xs ys : List α} (h : xs.length = ys.length) (hj : ∀ j, j < xs.length → xs[j]? = ys[j]?) : xs = ys := by
  apply List.ext_getElem? 
  intro i
  by_cases hi : i < xs.length
  · exact hj i hi
  · rw [List.getElem?_eq_none (by omega), List.getElem?_eq_none (by omega)]

theorem block_add (a : Addr) (n : Nat) : (a.add n).block = a.block := by unfold Addr.add; split <;> rfl


section
variable {w w' : World} {B B' sz n c : Nat} {A : Option Addr} {xs : List Value}
theorem Rd.none_ (w : World) (B sz : Nat) : Rd w B sz none 0 0 [] := ⟨by simp, Nat.le_refl _, fun h => absurd h (by omega)⟩
theorem Rd.keep (h : Rd w B sz A n c xs) (hk : ∀ p : Addr, p.block < B → w'.cell? p = w.cell? p) : Rd w' B sz A n c xs :=
  ⟨h.len, h.cap, fun hn => by
    obtain ⟨b, o, e, hb, hc⟩ := h.at_ hn
    exact ⟨b, o, e, hb, fun j u hu => (hk _ hb).trans (hc j u hu)⟩⟩
theorem Rd.more (h : Rd w B sz A n c xs) (hB : B ≤ B') : Rd w B' sz A n c xs :=
  ⟨h.len, h.cap, fun hn => by obtain ⟨b, o, e, hb, hc⟩ := h.at_ hn; exact ⟨b, o, e, by omega, hc⟩⟩
theorem Rd.below (h : Rd w B sz A n c xs) (hb : Below B w w') : Rd w' B sz A n c xs := h.keep fun _ hp => hb.cell hp
theorem Rd.to (h : Rd w B sz A n c xs) (hb : Below B w w') (hB : B ≤ B') : Rd w' B' sz A n c xs := (h.below hb).more hB
theorem Rd.drewN (h : Rd w B sz A n c xs) (k : Nat) : Rd (w.drewN k) B sz A n c xs := ⟨h.len, h.cap, h.at_⟩
theorem Rd.drew (h : Rd w B sz A n c xs) : Rd w.drew B sz A n c xs := ⟨h.len, h.cap, h.at_⟩
theorem Rd.grown (h : Rd w B sz A n c xs) {row : Option Nat} (hg : w.grownBy w' row) (hB : B ≤ w.heap.size) (hr : ∀ g, row = some g → B ≤ g) : Rd w' B sz A n c xs :=
  h.keep fun p hp => World.cell?_of_block (hg.block p.block (by omega) (fun e => by have := hr _ e.symm; omega))
/-- A cut of it. -/
theorem Rd.cut (h : Rd w B sz A n c xs) {l k : Nat} (hl : l ≤ k) (hk : k ≤ n) :
    Rd w B sz (if c = l then A else A.map (·.add (l * sz))) (k - l) (c - l) ((xs.take (k * sz)).drop (l * sz)) := by
  have hc := h.cap
  refine ⟨by rw [List.length_drop, List.length_take, h.len, Nat.min_eq_left (Nat.mul_le_mul_right _ hk), Nat.sub_mul], by omega, fun hn => ?_⟩
  obtain ⟨b, o, rfl, hb, hcell⟩ := h.at_ (by omega)
  rw [if_neg (by omega)]
  refine ⟨b, o + l * sz, by simp [Addr.add]; try (split <;> simp_all), hb, fun j u hu => ?_⟩
  rw [List.getElem?_drop, List.getElem?_take] at hu
  split at hu
  · rw [Nat.add_assoc]; exact hcell _ u hu
  · cases hu
theorem Rd.cut1 (h : Rd w B 1 A n c xs) {l k : Nat} (hl : l ≤ k) (hk : k ≤ n) :
    Rd w B 1 (if c = l then A else A.map (·.add l)) (k - l) (c - l) ((xs.take k).drop l) := by
  have := h.cut hl hk
  simpa using this
/-- What the call owns reads as it is. -/
theorem Rd.of_own {base : Nat} {e : TypeId} (h : w.ownsRow base e sz (.slice A n c) n xs) (hc : n ≤ c) : Rd w w.heap.size sz A n c xs := by
  refine ⟨h.1, hc, fun hn => ?_⟩
  obtain ⟨g, cap, hv, _, hlt⟩ := h.form hn
  have hA : A = some ⟨g, 0, none⟩ := by injection hv
  subst hA
  refine ⟨g, 0, rfl, hlt, fun j u hu => ?_⟩
  have := h.cells (g := g) rfl j u hu
  have hadd : (⟨g, 0, none⟩ : Addr).add j = ⟨g, 0 + j, none⟩ := by unfold Addr.add; split <;> simp_all
  rwa [hadd] at this
end

theorem ownsRow_cap {w : World} {base : Nat} {e : TypeId} {sz n : Nat} {v : Value} {xs : List Value} (h : w.ownsRow base e sz v n xs) : ∃ A c, v = .slice A n c ∧ n ≤ c := by
  rcases h.2 with ⟨rfl, rfl⟩ | ⟨g, cap, cur, rfl, _, _, hc, _⟩
  · exact ⟨none, 0, rfl, Nat.le_refl _⟩
  · exact ⟨_, cap, rfl, hc⟩

def BoolBelow (b : Bool) (w : World) (e : Ending) (w' : World) : Prop := e = .returned (.bool b) ∧ Below w.heap.size w w'



/-! ### Effects of the engine -/
def isGo (P : Program) (f : FuncId) : Bool :=
  match P.funcs[f]? with
  | some fn => !(fn.name == "runtime.NumGoroutine") && fn.body.isSome
  | none => false
theorem run_callGo {P : Program} {f : FuncId} (h : isGo P f = true) (args : Array Value) (w : World) : (callFunc f args).run P w = .ok (.enter f args) w := by
  unfold isGo at h
  split at h
  · rename_i fn hf
    simp only [Bool.and_eq_true, Bool.not_eq_true'] at h
    have hb : ¬ fn.body = none := by intro hh; simp [hh] at h
    have hn : ¬ fn.name = "runtime.NumGoroutine" := by have := h.1; simpa using this
    simp [callFunc, hf, hn, hb]
  · cases h

section
variable {P : Program} {S : World → Prop} {a : Act} {w : World} {K : Act → World → Prop}
/-- A call of a Go function. -/
theorem eff_call {dst : Option Tmp} {f : Operand} {args : Array Operand} {tys : Array TypeId} {ty : TypeId} {q : Bool} {g : Option (Tmp × Bool)} {F : FuncId} {vs : Array Value} {R : Ending → World → Prop}
    (hg : isGo P F = true) (hc : Calls P F vs w R) (hf : a.eval f = .func (.func F) #[] #[]) (ha : (args.toList.map a.eval).toArray = vs)
    (hK : ∀ e w', R e w' → ∃ v, e = .returned v ∧ S w' ∧ K (a.put dst v) w') :
    effq P S ⟨q, dst, .call ⟨.value f, args, tys⟩, ty, g⟩ a w K := by
  intro p af g
  unfold Oper.wp
  have hrun : (execOp a.eval ⟨dst, .call ⟨.value f, args, tys⟩, ty, p, af, g⟩).run P w = .ok (.enter F vs) w := by
    have ha' : args.map a.eval = vs := by rw [← ha]; apply Array.toList_inj.1; simp
    simp [execOp, resolve, invoke, hf, ha', Deferred.ofValue, run_callGo hg]
  rw [hrun]
  refine Calls.mono hc fun e w' hR => ?_
  obtain ⟨v, rfl, hS, hk⟩ := hK e w' hR
  exact ⟨hS, hk⟩

theorem run_append_rd (w : World) (base : Nat) (t ty e : TypeId) (i : TypeInfo) (z : Value) (size bytes : Nat) (ht : P.underlying t = some (.slice e)) (hi : P.info? e = some i) (hz : i.zero = some z)
    (hsize : i.size = size) (hby : i.bytes = bytes) (hzs : z.cells.size = size) (hsz : 0 < size)
    (v : Value) (n : Nat) (xs : List Value) (hown : w.ownsRow base e size v n xs)
    (B : Nat) (A : Option Addr) (m c : Nat) (news : List Value) (hr : Rd w B size A m c news) (h1 : ∀ u ∈ news, u.oneCell' = true)
    (h63 : n + m ≤ maxLen) (hbytes : (n + m) * bytes ≤ 140737488355328) (hbase : base ≤ w.heap.size) :
    ∃ v' w', (Builtin.append_ #[t, t] ty #[v, .slice A m c]).run P w = .ok v' w' ∧ w'.ownsRow base e size v' (n + m) (xs ++ news) ∧ w.grownBy w' v.ownBlock ∧
      (v'.ownBlock = v.ownBlock ∨ v'.ownBlock = some w.heap.size) := by
  rcases A with _ | ad
  · have hm : m = 0 := by
      rcases Nat.eq_zero_or_pos m with h0 | h0
      · exact h0
      · obtain ⟨b, o, h, _⟩ := hr.at_ h0
        cases h
    subst hm
    have hn : news = [] := List.eq_nil_of_length_eq_zero (by simpa using hr.len)
    subst hn
    refine ⟨v, w, ?_, by simpa using hown, World.grownBy.refl w _, .inl rfl⟩
    rcases hown.2 with ⟨rfl, rfl⟩ | ⟨g, cap, cur, rfl, _, _, hnc, _⟩
    · simp [Builtin.append_, run_underlying ht, sizeOf, typeInfo, hi, Builtin.lenOf, Builtin.firstCells]
    · simp [Builtin.append_, run_underlying ht, sizeOf, typeInfo, hi, Builtin.lenOf, Builtin.firstCells, hnc, storeCells]
  · have hcells : ∀ j u, news[j]? = some u → w.cell? (ad.add j) = some u := by
      intro j u hu
      rcases Nat.eq_zero_or_pos m with h0 | h0
      · subst h0
        have hn : news = [] := List.eq_nil_of_length_eq_zero (by simpa using hr.len)
        subst hn
        simp at hu
      · obtain ⟨b, o, h, _, hc⟩ := hr.at_ h0
        cases h
        have hadd : (⟨b, o, none⟩ : Addr).add j = ⟨b, o + j, none⟩ := by unfold Addr.add; split <;> simp_all
        rw [hadd]
        exact hc j u hu
    obtain ⟨v', w', hrun, h2, h3, _, h5⟩ := run_append_own_at (P := P) w base t ty e i z size bytes ht hi hz hsize hby hzs hsz v n xs hown ad m c news hr.len hcells h1 h63 hbytes hbase
    exact ⟨v', w', hrun, h2, h3, h5⟩

/-- An element type's row of the table, as the laws on append ask for it. -/
structure Elem (P : Program) (t e : TypeId) (size bytes : Nat) : Prop where
  und : P.underlying t = some (.slice e)
  row : ∃ i z, P.info? e = some i ∧ i.zero = some z ∧ i.size = size ∧ i.bytes = bytes ∧ z.cells.size = size
  pos : 0 < size
def elemB (P : Program) (t e : TypeId) (size bytes : Nat) : Bool :=
  (match P.underlying t with | some (.slice e') => Nat.beq e e' | _ => false) &&
  (match P.info? e with | some i => (match i.zero with | some z => Nat.beq z.cells.size size | none => false) && Nat.beq i.size size && Nat.beq i.bytes bytes | none => false) && Nat.ble 1 size
theorem elem_of {P : Program} {t e : TypeId} {size bytes : Nat} (h : elemB P t e size bytes = true) : Elem P t e size bytes := by
  unfold elemB at h
  simp only [Bool.and_eq_true] at h
  obtain ⟨⟨h1, h2⟩, h3⟩ := h
  refine ⟨?_, ?_, Nat.le_of_ble_eq_true h3⟩
  · split at h1
    · rename_i e' he; rw [he, Nat.eq_of_beq_eq_true h1]
    · cases h1
  · split at h2
    · rename_i i hi
      simp only [Bool.and_eq_true] at h2
      obtain ⟨⟨g1, g2⟩, g3⟩ := h2
      split at g1
      · rename_i z hz
        exact ⟨i, z, hi, hz, Nat.eq_of_beq_eq_true g2, Nat.eq_of_beq_eq_true g3, Nat.eq_of_beq_eq_true g1⟩
      · cases g1
    · cases h2

/-- An append onto a row of the call's own. -/
theorem eff_append {dst : Option Tmp} {s x : Operand} {t ty : TypeId} {q : Bool} {g : Option (Tmp × Bool)} {e : TypeId} {size bytes : Nat} (E : Elem P t e size bytes) {base : Nat}
    {v : Value} {n : Nat} {xs : List Value} {B : Nat} {A : Option Addr} {m c : Nat} {news : List Value}
    (hs : a.eval s = v) (hx : a.eval x = .slice A m c) (hown : w.ownsRow base e size v n xs) (hr : Rd w B size A m c news) (h1 : ∀ u ∈ news, u.oneCell' = true)
    (h63 : n + m ≤ maxLen) (hbytes : (n + m) * bytes ≤ 140737488355328) (hbase : base ≤ w.heap.size)
    (hK : ∀ v' w', w'.ownsRow base e size v' (n + m) (xs ++ news) → w.grownBy w' v.ownBlock → (v'.ownBlock = v.ownBlock ∨ v'.ownBlock = some w.heap.size) → S w' ∧ K (a.put dst v') w') :
    effq P S ⟨q, dst, .call ⟨.builtin .append, #[s, x], #[t, t]⟩, ty, g⟩ a w K := by
  intro p af g
  obtain ⟨i, z, hi, hz, hsz, hby, hzs⟩ := E.row
  obtain ⟨v', w', hrun, h2, h3, h4⟩ := run_append_rd (P := P) w base t ty e i z size bytes E.und hi hz hsz hby hzs E.pos v n xs hown B A m c news hr h1 h63 hbytes hbase
  unfold Oper.wp execOp
  simp only [resolve, invoke, builtin, Sem.run_bind, Sem.run_pure, Result.andThen_ok, List.map_toArray, List.map_cons, List.map_nil, hs, hx, hrun]
  exact hK v' w' h2 h3 h4

/-- The same in a region that does not draw its order, for 'go_wp2_with'. -/
theorem wpl_append {ops : Array Oper} {rest : List Oper} {o : Oper} {Q : Exit → Act → World → Prop} (hgd : o.guard = none) (s x : Operand) (t : TypeId)
    (ho : o.op = .call { callee := .builtin .append, args := #[s, x], argTypes := #[t, t] }) {e : TypeId} {size bytes : Nat} (E : Elem P t e size bytes) {base : Nat}
    {v : Value} {n : Nat} {xs : List Value} {B : Nat} {A : Option Addr} {m c : Nat} {news : List Value}
    (hs : a.eval s = v) (hx : a.eval x = .slice A m c) (hown : w.ownsRow base e size v n xs) (hr : Rd w B size A m c news) (h1 : ∀ u ∈ news, u.oneCell' = true)
    (h63 : n + m ≤ maxLen) (hbytes : (n + m) * bytes ≤ 140737488355328) (hbase : base ≤ w.heap.size)
    (hK : ∀ v' w', w'.ownsRow base e size v' (n + m) (xs ++ news) → w.grownBy w' v.ownBlock → (v'.ownBlock = v.ownBlock ∨ v'.ownBlock = some w.heap.size) → wpList P ops Q rest (a.put o.dst v') w') :
    wpList P ops Q (o :: rest) a w := by
  obtain ⟨i, z, hi, hz, hsz, hby, hzs⟩ := E.row
  refine wpList_plain hgd fun K hK' => ?_
  obtain ⟨v', w', hrun, h2, h3, h4⟩ := run_append_rd (P := P) w base t o.type e i z size bytes E.und hi hz hsz hby hzs E.pos v n xs hown B A m c news hr h1 h63 hbytes hbase
  unfold Oper.wp execOp
  simp only [ho, resolve, invoke, builtin, Sem.run_bind, Sem.run_pure, Result.andThen_ok, List.map_toArray, List.map_cons, List.map_nil, hs, hx, hrun]
  exact hK' _ _ (hK v' w' h2 h3 h4)
end

theorem oneCell_str (l : List ByteArray) : ∀ u ∈ l.map Value.string, u.oneCell' = true := by
  intro u hu
  obtain ⟨s, _, rfl⟩ := List.mem_map.1 hu
  rfl
theorem upto_succ {p : Nat → Bool} {k : Nat} (h : ∀ j, j < k → p j = true) (hk : p k = true) : Hid (∀ j, j < k + 1 → p j = true) := by
  intro j hj
  by_cases e : j = k
  · subst e; exact hk
  · exact h j (by omega)
end Go.Proofs.YtahlfafcjjkliaaGreatDoor
