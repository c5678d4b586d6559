/- Walks: what audit and the document hold against each other. -/
import Derived.Test.YtnkboccngialiaaDoorES
import Derived.Test.YtnkboccngialiaaDoorEE
namespace Go.Proofs.YtnkboccngialiaaDoor
open Go.RowKit

set_option maxHeartbeats 4000000 in
theorem treeSame_any {A B : Option Addr} {n ca m cb : Nat} {xs ys : List FV} {w : World} (hn : n ≤ 17592186044416) (hm : m ≤ 17592186044416)
    (ha : Rd w w.heap.size 3 A n ca (xs.flatMap FV.cells)) (hb : Rd w w.heap.size 3 B m cb (ys.flatMap FV.cells)) (hxl : xs.length = n) (hyl : ys.length = m) :
    Calls Tryd.prog 67 #[.slice A n ca, .slice B m cb] w (BoolBelow (decide (xs = ys)) w) := by
  have C := equalF_any hn hm ha hb hxl hyl
  go_enter Tryd.func67, Tryd.ntmps67
  go_wp2_with fail
  refine C.mono ?_
  rintro e w1 ⟨rfl, hb1⟩
  go_wp2
  go_ret
  exact ⟨rfl, hb1⟩

set_option maxRecDepth 100000 in
set_option maxHeartbeats 4000000 in
theorem settled1_any {x y : SV} {w : World} (hx : x.In w w.heap.size) (hy : y.In w w.heap.size) : Calls Tryd.prog 65 #[.agg #[.int .i64 x.commit, .slice x.A x.files.length x.c], .agg #[.int .i64 y.commit, .slice y.A y.files.length y.c]] w (BoolBelow (eqSV x y) w) := by
  have K_files : ∀ v, Below w.heap.size w v → Calls Tryd.prog 71 #[.slice x.A x.files.length x.c, .slice y.A y.files.length y.c] v (BoolBelow (decide (x.files = y.files)) v) := fun v hv => plainF_any hx.2 hy.2 (hx.1.to hv hv.size).row (hy.1.to hv hv.size).row rfl rfl
  clear hx hy
  obtain ⟨W, hW⟩ : ∃ u, u = (w.alloc (.cells #[.int .i64 x.commit, .slice x.A x.files.length x.c] 109)).alloc (.cells #[.int .i64 y.commit, .slice y.A y.files.length y.c] 109) := ⟨_, rfl⟩
  have hal : Below w.heap.size w W := by rw [hW]; exact ((Below.refl _ _).alloc (Nat.le_refl _) _).alloc (by simp) _
  have hWz : W.heap.size = w.heap.size + 2 := by rw [hW]; simp
  have hx0 : ∀ i u, [.int .i64 x.commit, .slice x.A x.files.length x.c][i]? = some u → W.cell? ⟨w.heap.size, i, none⟩ = some u := fun i u hu => by rw [hW, World.cell?, heap_alloc_old _ _ (by simp), heap_alloc_new]; simpa using hu
  have hy0 : ∀ i u, [.int .i64 y.commit, .slice y.A y.files.length y.c][i]? = some u → W.cell? ⟨w.heap.size + 1, i, none⟩ = some u := fun i u hu => by rw [hW, World.cell?, show w.heap.size + 1 = (w.alloc (.cells #[.int .i64 x.commit, .slice x.A x.files.length x.c] 109)).heap.size by simp, heap_alloc_new]; simpa using hu
  by_cases h_commit : x.commit = y.commit
  case neg =>
    have n_h_commit : (x.commit == y.commit) = false := beq_eq_false_iff_ne.2 h_commit
    have Hh_commit := Lib.hid h_commit
    clear h_commit
    have HO := Lib.hid (show eqSV x y = false by simp [eqSV, Hh_commit.out])
    clear K_files
    go_enter Tryd.func65, Tryd.ntmps65
    go_wp2
    rw [← hW]
    go_ret
    exact ⟨ret_bool HO.out.symm, hal⟩
  have e_h_commit : (x.commit == y.commit) = true := by rw [h_commit]; exact beq_self_eq_true _
  have Hh_commit := Lib.hid h_commit
  clear h_commit
  cases d_files : decide (x.files = y.files)
  case false =>
    have D_files := Lib.hid d_files
    clear d_files
    have HO := Lib.hid (show eqSV x y = false by simp [eqSV, Hh_commit.out, D_files.out])
    rw [D_files.out] at K_files
    go_enter Tryd.func65, Tryd.ntmps65
    go_wp2_with fail
    rw [← hW]
    clear hW
    refine (K_files _ hal).mono ?_
    rintro e w1 ⟨rfl, hb1⟩
    have hC1 : Below W.heap.size W w1 := hb1
    have hB1 : Below w.heap.size w w1 := hal.trans (hC1.mono (by omega))
    go_wp2
    go_ret
    exact ⟨ret_bool HO.out.symm, hB1⟩
  have D_files := Lib.hid d_files
  clear d_files
  have HO := Lib.hid (show eqSV x y = true by simp [eqSV, Hh_commit.out, D_files.out])
  rw [D_files.out] at K_files
  go_enter Tryd.func65, Tryd.ntmps65
  go_wp2_with fail
  rw [← hW]
  clear hW
  refine (K_files _ hal).mono ?_
  rintro e w1 ⟨rfl, hb1⟩
  have hC1 : Below W.heap.size W w1 := hb1
  have hB1 : Below w.heap.size w w1 := hal.trans (hC1.mono (by omega))
  go_wp2
  go_ret
  exact ⟨ret_bool HO.out.symm, hB1⟩

set_option maxRecDepth 100000 in
set_option maxHeartbeats 4000000 in
theorem settled2_any {x y : SV} {w : World} (hx : x.In w w.heap.size) (hy : y.In w w.heap.size) : Calls Tryd.prog 69 #[.agg #[.int .i64 x.commit, .slice x.A x.files.length x.c], .agg #[.int .i64 y.commit, .slice y.A y.files.length y.c]] w (BoolBelow (eqSV x y) w) := by
  have K_files : ∀ v, Below w.heap.size w v → Calls Tryd.prog 67 #[.slice x.A x.files.length x.c, .slice y.A y.files.length y.c] v (BoolBelow (decide (x.files = y.files)) v) := fun v hv => treeSame_any hx.2 hy.2 (hx.1.to hv hv.size).row (hy.1.to hv hv.size).row rfl rfl
  clear hx hy
  obtain ⟨W, hW⟩ : ∃ u, u = (w.alloc (.cells #[.int .i64 x.commit, .slice x.A x.files.length x.c] 109)).alloc (.cells #[.int .i64 y.commit, .slice y.A y.files.length y.c] 109) := ⟨_, rfl⟩
  have hal : Below w.heap.size w W := by rw [hW]; exact ((Below.refl _ _).alloc (Nat.le_refl _) _).alloc (by simp) _
  have hWz : W.heap.size = w.heap.size + 2 := by rw [hW]; simp
  have hx0 : ∀ i u, [.int .i64 x.commit, .slice x.A x.files.length x.c][i]? = some u → W.cell? ⟨w.heap.size, i, none⟩ = some u := fun i u hu => by rw [hW, World.cell?, heap_alloc_old _ _ (by simp), heap_alloc_new]; simpa using hu
  have hy0 : ∀ i u, [.int .i64 y.commit, .slice y.A y.files.length y.c][i]? = some u → W.cell? ⟨w.heap.size + 1, i, none⟩ = some u := fun i u hu => by rw [hW, World.cell?, show w.heap.size + 1 = (w.alloc (.cells #[.int .i64 x.commit, .slice x.A x.files.length x.c] 109)).heap.size by simp, heap_alloc_new]; simpa using hu
  by_cases h_commit : x.commit = y.commit
  case neg =>
    have n_h_commit : (x.commit == y.commit) = false := beq_eq_false_iff_ne.2 h_commit
    have Hh_commit := Lib.hid h_commit
    clear h_commit
    have HO := Lib.hid (show eqSV x y = false by simp [eqSV, Hh_commit.out])
    clear K_files
    go_enter Tryd.func69, Tryd.ntmps69
    go_wp2
    rw [← hW]
    go_ret
    exact ⟨ret_bool HO.out.symm, hal⟩
  have e_h_commit : (x.commit == y.commit) = true := by rw [h_commit]; exact beq_self_eq_true _
  have Hh_commit := Lib.hid h_commit
  clear h_commit
  cases d_files : decide (x.files = y.files)
  case false =>
    have D_files := Lib.hid d_files
    clear d_files
    have HO := Lib.hid (show eqSV x y = false by simp [eqSV, Hh_commit.out, D_files.out])
    rw [D_files.out] at K_files
    go_enter Tryd.func69, Tryd.ntmps69
    go_wp2_with fail
    rw [← hW]
    clear hW
    refine (K_files _ hal).mono ?_
    rintro e w1 ⟨rfl, hb1⟩
    have hC1 : Below W.heap.size W w1 := hb1
    have hB1 : Below w.heap.size w w1 := hal.trans (hC1.mono (by omega))
    go_wp2
    go_ret
    exact ⟨ret_bool HO.out.symm, hB1⟩
  have D_files := Lib.hid d_files
  clear d_files
  have HO := Lib.hid (show eqSV x y = true by simp [eqSV, Hh_commit.out, D_files.out])
  rw [D_files.out] at K_files
  go_enter Tryd.func69, Tryd.ntmps69
  go_wp2_with fail
  rw [← hW]
  clear hW
  refine (K_files _ hal).mono ?_
  rintro e w1 ⟨rfl, hb1⟩
  have hC1 : Below W.heap.size W w1 := hb1
  have hB1 : Below w.heap.size w w1 := hal.trans (hC1.mono (by omega))
  go_wp2
  go_ret
  exact ⟨ret_bool HO.out.symm, hB1⟩

set_option maxRecDepth 100000 in
set_option maxHeartbeats 4000000 in
theorem seen1_any {x y : EV} {w : World} (hx : x.In w w.heap.size) (hy : y.In w w.heap.size) : Calls Tryd.prog 46 #[.agg #[.int .i64 x.num, .int .i64 x.parent, .string x.msg, .slice x.A x.files.length x.c, .bool x.obs], .agg #[.int .i64 y.num, .int .i64 y.parent, .string y.msg, .slice y.A y.files.length y.c, .bool y.obs]] w (BoolBelow (eqEV x y) w) := by
  have K_files : ∀ v, Below w.heap.size w v → Calls Tryd.prog 71 #[.slice x.A x.files.length x.c, .slice y.A y.files.length y.c] v (BoolBelow (decide (x.files = y.files)) v) := fun v hv => plainF_any hx.2 hy.2 (hx.1.to hv hv.size).row (hy.1.to hv hv.size).row rfl rfl
  clear hx hy
  obtain ⟨W, hW⟩ : ∃ u, u = (w.alloc (.cells #[.int .i64 x.num, .int .i64 x.parent, .string x.msg, .slice x.A x.files.length x.c, .bool x.obs] 74)).alloc (.cells #[.int .i64 y.num, .int .i64 y.parent, .string y.msg, .slice y.A y.files.length y.c, .bool y.obs] 74) := ⟨_, rfl⟩
  have hal : Below w.heap.size w W := by rw [hW]; exact ((Below.refl _ _).alloc (Nat.le_refl _) _).alloc (by simp) _
  have hWz : W.heap.size = w.heap.size + 2 := by rw [hW]; simp
  have hx0 : ∀ i u, [.int .i64 x.num, .int .i64 x.parent, .string x.msg, .slice x.A x.files.length x.c, .bool x.obs][i]? = some u → W.cell? ⟨w.heap.size, i, none⟩ = some u := fun i u hu => by rw [hW, World.cell?, heap_alloc_old _ _ (by simp), heap_alloc_new]; simpa using hu
  have hy0 : ∀ i u, [.int .i64 y.num, .int .i64 y.parent, .string y.msg, .slice y.A y.files.length y.c, .bool y.obs][i]? = some u → W.cell? ⟨w.heap.size + 1, i, none⟩ = some u := fun i u hu => by rw [hW, World.cell?, show w.heap.size + 1 = (w.alloc (.cells #[.int .i64 x.num, .int .i64 x.parent, .string x.msg, .slice x.A x.files.length x.c, .bool x.obs] 74)).heap.size by simp, heap_alloc_new]; simpa using hu
  by_cases h_num : x.num = y.num
  case neg =>
    have n_h_num : (x.num == y.num) = false := beq_eq_false_iff_ne.2 h_num
    have Hh_num := Lib.hid h_num
    clear h_num
    have HO := Lib.hid (show eqEV x y = false by simp [eqEV, Hh_num.out])
    clear K_files
    go_enter Tryd.func46, Tryd.ntmps46
    go_wp2
    rw [← hW]
    go_ret
    exact ⟨ret_bool HO.out.symm, hal⟩
  have e_h_num : (x.num == y.num) = true := by rw [h_num]; exact beq_self_eq_true _
  have Hh_num := Lib.hid h_num
  clear h_num
  by_cases h_parent : x.parent = y.parent
  case neg =>
    have n_h_parent : (x.parent == y.parent) = false := beq_eq_false_iff_ne.2 h_parent
    have Hh_parent := Lib.hid h_parent
    clear h_parent
    have HO := Lib.hid (show eqEV x y = false by simp [eqEV, Hh_num.out, Hh_parent.out])
    clear K_files
    go_enter Tryd.func46, Tryd.ntmps46
    go_wp2
    rw [← hW]
    go_ret
    exact ⟨ret_bool HO.out.symm, hal⟩
  have e_h_parent : (x.parent == y.parent) = true := by rw [h_parent]; exact beq_self_eq_true _
  have Hh_parent := Lib.hid h_parent
  clear h_parent
  by_cases h_msg : x.msg = y.msg
  case neg =>
    have n_h_msg : (x.msg.toList == y.msg.toList) = false := ba_ne h_msg
    have Hh_msg := Lib.hid h_msg
    clear h_msg
    have HO := Lib.hid (show eqEV x y = false by simp [eqEV, Hh_num.out, Hh_parent.out, Hh_msg.out])
    clear K_files
    go_enter Tryd.func46, Tryd.ntmps46
    go_wp2
    rw [← hW]
    go_ret
    exact ⟨ret_bool HO.out.symm, hal⟩
  have e_h_msg : (x.msg.toList == y.msg.toList) = true := by rw [h_msg]; exact beq_self_eq_true _
  have Hh_msg := Lib.hid h_msg
  clear h_msg
  cases d_files : decide (x.files = y.files)
  case false =>
    have D_files := Lib.hid d_files
    clear d_files
    have HO := Lib.hid (show eqEV x y = false by simp [eqEV, Hh_num.out, Hh_parent.out, Hh_msg.out, D_files.out])
    rw [D_files.out] at K_files
    go_enter Tryd.func46, Tryd.ntmps46
    go_wp2_with fail
    rw [← hW]
    clear hW
    refine (K_files _ hal).mono ?_
    rintro e w1 ⟨rfl, hb1⟩
    have hC1 : Below W.heap.size W w1 := hb1
    have hB1 : Below w.heap.size w w1 := hal.trans (hC1.mono (by omega))
    have a4 := (hC1.cell (p := ⟨w.heap.size, 4, none⟩) (by show w.heap.size < _; omega)).trans (hx0 4 _ rfl)
    have b4 := (hC1.cell (p := ⟨w.heap.size + 1, 4, none⟩) (by show w.heap.size + 1 < _; omega)).trans (hy0 4 _ rfl)
    go_wp2
    go_ret
    exact ⟨ret_bool HO.out.symm, hB1⟩
  have D_files := Lib.hid d_files
  clear d_files
  by_cases h_obs : x.obs = y.obs
  case neg =>
    have n_h_obs : (x.obs == y.obs) = false := beq_eq_false_iff_ne.2 h_obs
    have Hh_obs := Lib.hid h_obs
    clear h_obs
    have HO := Lib.hid (show eqEV x y = false by simp [eqEV, Hh_num.out, Hh_parent.out, Hh_msg.out, D_files.out, Hh_obs.out])
    rw [D_files.out] at K_files
    go_enter Tryd.func46, Tryd.ntmps46
    go_wp2_with fail
    rw [← hW]
    clear hW
    refine (K_files _ hal).mono ?_
    rintro e w1 ⟨rfl, hb1⟩
    have hC1 : Below W.heap.size W w1 := hb1
    have hB1 : Below w.heap.size w w1 := hal.trans (hC1.mono (by omega))
    have a4 := (hC1.cell (p := ⟨w.heap.size, 4, none⟩) (by show w.heap.size < _; omega)).trans (hx0 4 _ rfl)
    have b4 := (hC1.cell (p := ⟨w.heap.size + 1, 4, none⟩) (by show w.heap.size + 1 < _; omega)).trans (hy0 4 _ rfl)
    go_wp2
    go_ret
    exact ⟨ret_bool HO.out.symm, hB1⟩
  have e_h_obs : (x.obs == y.obs) = true := by rw [h_obs]; exact beq_self_eq_true _
  have Hh_obs := Lib.hid h_obs
  clear h_obs
  have HO := Lib.hid (show eqEV x y = true by simp [eqEV, Hh_num.out, Hh_parent.out, Hh_msg.out, D_files.out, Hh_obs.out])
  rw [D_files.out] at K_files
  go_enter Tryd.func46, Tryd.ntmps46
  go_wp2_with fail
  rw [← hW]
  clear hW
  refine (K_files _ hal).mono ?_
  rintro e w1 ⟨rfl, hb1⟩
  have hC1 : Below W.heap.size W w1 := hb1
  have hB1 : Below w.heap.size w w1 := hal.trans (hC1.mono (by omega))
  have a4 := (hC1.cell (p := ⟨w.heap.size, 4, none⟩) (by show w.heap.size < _; omega)).trans (hx0 4 _ rfl)
  have b4 := (hC1.cell (p := ⟨w.heap.size + 1, 4, none⟩) (by show w.heap.size + 1 < _; omega)).trans (hy0 4 _ rfl)
  go_wp2
  go_ret
  exact ⟨ret_bool HO.out.symm, hB1⟩

set_option maxRecDepth 100000 in
set_option maxHeartbeats 4000000 in
theorem seen2_any {x y : EV} {w : World} (hx : x.In w w.heap.size) (hy : y.In w w.heap.size) : Calls Tryd.prog 42 #[.agg #[.int .i64 x.num, .int .i64 x.parent, .string x.msg, .slice x.A x.files.length x.c, .bool x.obs], .agg #[.int .i64 y.num, .int .i64 y.parent, .string y.msg, .slice y.A y.files.length y.c, .bool y.obs]] w (BoolBelow (eqEV x y) w) := by
  have K_files : ∀ v, Below w.heap.size w v → Calls Tryd.prog 67 #[.slice x.A x.files.length x.c, .slice y.A y.files.length y.c] v (BoolBelow (decide (x.files = y.files)) v) := fun v hv => treeSame_any hx.2 hy.2 (hx.1.to hv hv.size).row (hy.1.to hv hv.size).row rfl rfl
  clear hx hy
  obtain ⟨W, hW⟩ : ∃ u, u = (w.alloc (.cells #[.int .i64 x.num, .int .i64 x.parent, .string x.msg, .slice x.A x.files.length x.c, .bool x.obs] 74)).alloc (.cells #[.int .i64 y.num, .int .i64 y.parent, .string y.msg, .slice y.A y.files.length y.c, .bool y.obs] 74) := ⟨_, rfl⟩
  have hal : Below w.heap.size w W := by rw [hW]; exact ((Below.refl _ _).alloc (Nat.le_refl _) _).alloc (by simp) _
  have hWz : W.heap.size = w.heap.size + 2 := by rw [hW]; simp
  have hx0 : ∀ i u, [.int .i64 x.num, .int .i64 x.parent, .string x.msg, .slice x.A x.files.length x.c, .bool x.obs][i]? = some u → W.cell? ⟨w.heap.size, i, none⟩ = some u := fun i u hu => by rw [hW, World.cell?, heap_alloc_old _ _ (by simp), heap_alloc_new]; simpa using hu
  have hy0 : ∀ i u, [.int .i64 y.num, .int .i64 y.parent, .string y.msg, .slice y.A y.files.length y.c, .bool y.obs][i]? = some u → W.cell? ⟨w.heap.size + 1, i, none⟩ = some u := fun i u hu => by rw [hW, World.cell?, show w.heap.size + 1 = (w.alloc (.cells #[.int .i64 x.num, .int .i64 x.parent, .string x.msg, .slice x.A x.files.length x.c, .bool x.obs] 74)).heap.size by simp, heap_alloc_new]; simpa using hu
  by_cases h_num : x.num = y.num
  case neg =>
    have n_h_num : (x.num == y.num) = false := beq_eq_false_iff_ne.2 h_num
    have Hh_num := Lib.hid h_num
    clear h_num
    have HO := Lib.hid (show eqEV x y = false by simp [eqEV, Hh_num.out])
    clear K_files
    go_enter Tryd.func42, Tryd.ntmps42
    go_wp2
    rw [← hW]
    go_ret
    exact ⟨ret_bool HO.out.symm, hal⟩
  have e_h_num : (x.num == y.num) = true := by rw [h_num]; exact beq_self_eq_true _
  have Hh_num := Lib.hid h_num
  clear h_num
  by_cases h_parent : x.parent = y.parent
  case neg =>
    have n_h_parent : (x.parent == y.parent) = false := beq_eq_false_iff_ne.2 h_parent
    have Hh_parent := Lib.hid h_parent
    clear h_parent
    have HO := Lib.hid (show eqEV x y = false by simp [eqEV, Hh_num.out, Hh_parent.out])
    clear K_files
    go_enter Tryd.func42, Tryd.ntmps42
    go_wp2
    rw [← hW]
    go_ret
    exact ⟨ret_bool HO.out.symm, hal⟩
  have e_h_parent : (x.parent == y.parent) = true := by rw [h_parent]; exact beq_self_eq_true _
  have Hh_parent := Lib.hid h_parent
  clear h_parent
  by_cases h_msg : x.msg = y.msg
  case neg =>
    have n_h_msg : (x.msg.toList == y.msg.toList) = false := ba_ne h_msg
    have Hh_msg := Lib.hid h_msg
    clear h_msg
    have HO := Lib.hid (show eqEV x y = false by simp [eqEV, Hh_num.out, Hh_parent.out, Hh_msg.out])
    clear K_files
    go_enter Tryd.func42, Tryd.ntmps42
    go_wp2
    rw [← hW]
    go_ret
    exact ⟨ret_bool HO.out.symm, hal⟩
  have e_h_msg : (x.msg.toList == y.msg.toList) = true := by rw [h_msg]; exact beq_self_eq_true _
  have Hh_msg := Lib.hid h_msg
  clear h_msg
  by_cases h_obs : x.obs = y.obs
  case neg =>
    have n_h_obs : (x.obs == y.obs) = false := beq_eq_false_iff_ne.2 h_obs
    have Hh_obs := Lib.hid h_obs
    clear h_obs
    have HO := Lib.hid (show eqEV x y = false by simp [eqEV, Hh_num.out, Hh_parent.out, Hh_msg.out, Hh_obs.out])
    clear K_files
    go_enter Tryd.func42, Tryd.ntmps42
    go_wp2
    rw [← hW]
    go_ret
    exact ⟨ret_bool HO.out.symm, hal⟩
  have e_h_obs : (x.obs == y.obs) = true := by rw [h_obs]; exact beq_self_eq_true _
  have Hh_obs := Lib.hid h_obs
  clear h_obs
  cases d_files : decide (x.files = y.files)
  case false =>
    have D_files := Lib.hid d_files
    clear d_files
    have HO := Lib.hid (show eqEV x y = false by simp [eqEV, Hh_num.out, Hh_parent.out, Hh_msg.out, Hh_obs.out, D_files.out])
    rw [D_files.out] at K_files
    go_enter Tryd.func42, Tryd.ntmps42
    go_wp2_with fail
    rw [← hW]
    clear hW
    refine (K_files _ hal).mono ?_
    rintro e w1 ⟨rfl, hb1⟩
    have hC1 : Below W.heap.size W w1 := hb1
    have hB1 : Below w.heap.size w w1 := hal.trans (hC1.mono (by omega))
    go_wp2
    go_ret
    exact ⟨ret_bool HO.out.symm, hB1⟩
  have D_files := Lib.hid d_files
  clear d_files
  have HO := Lib.hid (show eqEV x y = true by simp [eqEV, Hh_num.out, Hh_parent.out, Hh_msg.out, Hh_obs.out, D_files.out])
  rw [D_files.out] at K_files
  go_enter Tryd.func42, Tryd.ntmps42
  go_wp2_with fail
  rw [← hW]
  clear hW
  refine (K_files _ hal).mono ?_
  rintro e w1 ⟨rfl, hb1⟩
  have hC1 : Below W.heap.size W w1 := hb1
  have hB1 : Below w.heap.size w w1 := hal.trans (hC1.mono (by omega))
  go_wp2
  go_ret
  exact ⟨ret_bool HO.out.symm, hB1⟩

set_option maxRecDepth 100000 in
set_option maxHeartbeats 4000000 in
theorem pend1_any {x y : PV} {w : World} (hx : x.In w w.heap.size) (hy : y.In w w.heap.size) : Calls Tryd.prog 40 #[.agg #[.bool x.on, .bool x.restack, .int .i64 x.source, .int .i64 x.dest, .slice x.sA x.settled.length x.sc, .int .i64 x.commit, .slice x.kA x.clashes.length x.kc], .agg #[.bool y.on, .bool y.restack, .int .i64 y.source, .int .i64 y.dest, .slice y.sA y.settled.length y.sc, .int .i64 y.commit, .slice y.kA y.clashes.length y.kc]] w (BoolBelow (eqPV x y) w) := by
  have K_st : ∀ v, Below w.heap.size w v → Calls Tryd.prog 64 #[.slice x.sA x.settled.length x.sc, .slice y.sA y.settled.length y.sc, .func (.func 65) #[] #[]] v (BoolBelow (lall2 eqSV x.settled y.settled) v) := fun v hv => sameS_any eqSV hx.ls hy.ls (hx.to hv hv.size).s (hy.to hv hv.size).s rfl rfl (by kernel_rfl) fun a ha b hb u hu => settled1_any (((hx.to hv hv.size).each a ha).to hu hu.size) (((hy.to hv hv.size).each b hb).to hu hu.size)
  have K_kl : ∀ v, Below w.heap.size w v → Calls Tryd.prog 66 #[.slice x.kA x.clashes.length x.kc, .slice y.kA y.clashes.length y.kc] v (BoolBelow (decide (x.clashes = y.clashes)) v) := fun v hv => plainC_any hx.lk hy.lk (hx.to hv hv.size).k (hy.to hv hv.size).k rfl rfl
  clear hx hy
  obtain ⟨W, hW⟩ : ∃ u, u = (w.alloc (.cells #[.bool x.on, .bool x.restack, .int .i64 x.source, .int .i64 x.dest, .slice x.sA x.settled.length x.sc, .int .i64 x.commit, .slice x.kA x.clashes.length x.kc] 50)).alloc (.cells #[.bool y.on, .bool y.restack, .int .i64 y.source, .int .i64 y.dest, .slice y.sA y.settled.length y.sc, .int .i64 y.commit, .slice y.kA y.clashes.length y.kc] 50) := ⟨_, rfl⟩
  have hal : Below w.heap.size w W := by rw [hW]; exact ((Below.refl _ _).alloc (Nat.le_refl _) _).alloc (by simp) _
  have hWz : W.heap.size = w.heap.size + 2 := by rw [hW]; simp
  have hx0 : ∀ i u, [.bool x.on, .bool x.restack, .int .i64 x.source, .int .i64 x.dest, .slice x.sA x.settled.length x.sc, .int .i64 x.commit, .slice x.kA x.clashes.length x.kc][i]? = some u → W.cell? ⟨w.heap.size, i, none⟩ = some u := fun i u hu => by rw [hW, World.cell?, heap_alloc_old _ _ (by simp), heap_alloc_new]; simpa using hu
  have hy0 : ∀ i u, [.bool y.on, .bool y.restack, .int .i64 y.source, .int .i64 y.dest, .slice y.sA y.settled.length y.sc, .int .i64 y.commit, .slice y.kA y.clashes.length y.kc][i]? = some u → W.cell? ⟨w.heap.size + 1, i, none⟩ = some u := fun i u hu => by rw [hW, World.cell?, show w.heap.size + 1 = (w.alloc (.cells #[.bool x.on, .bool x.restack, .int .i64 x.source, .int .i64 x.dest, .slice x.sA x.settled.length x.sc, .int .i64 x.commit, .slice x.kA x.clashes.length x.kc] 50)).heap.size by simp, heap_alloc_new]; simpa using hu
  by_cases h_on : x.on = y.on
  case neg =>
    have n_h_on : (x.on == y.on) = false := beq_eq_false_iff_ne.2 h_on
    have Hh_on := Lib.hid h_on
    clear h_on
    have HO := Lib.hid (show eqPV x y = false by simp [eqPV, Hh_on.out])
    clear K_st
    clear K_kl
    go_enter Tryd.func40, Tryd.ntmps40
    go_wp2
    rw [← hW]
    go_ret
    exact ⟨ret_bool HO.out.symm, hal⟩
  have e_h_on : (x.on == y.on) = true := by rw [h_on]; exact beq_self_eq_true _
  have Hh_on := Lib.hid h_on
  clear h_on
  by_cases h_restack : x.restack = y.restack
  case neg =>
    have n_h_restack : (x.restack == y.restack) = false := beq_eq_false_iff_ne.2 h_restack
    have Hh_restack := Lib.hid h_restack
    clear h_restack
    have HO := Lib.hid (show eqPV x y = false by simp [eqPV, Hh_on.out, Hh_restack.out])
    clear K_st
    clear K_kl
    go_enter Tryd.func40, Tryd.ntmps40
    go_wp2
    rw [← hW]
    go_ret
    exact ⟨ret_bool HO.out.symm, hal⟩
  have e_h_restack : (x.restack == y.restack) = true := by rw [h_restack]; exact beq_self_eq_true _
  have Hh_restack := Lib.hid h_restack
  clear h_restack
  by_cases h_source : x.source = y.source
  case neg =>
    have n_h_source : (x.source == y.source) = false := beq_eq_false_iff_ne.2 h_source
    have Hh_source := Lib.hid h_source
    clear h_source
    have HO := Lib.hid (show eqPV x y = false by simp [eqPV, Hh_on.out, Hh_restack.out, Hh_source.out])
    clear K_st
    clear K_kl
    go_enter Tryd.func40, Tryd.ntmps40
    go_wp2
    rw [← hW]
    go_ret
    exact ⟨ret_bool HO.out.symm, hal⟩
  have e_h_source : (x.source == y.source) = true := by rw [h_source]; exact beq_self_eq_true _
  have Hh_source := Lib.hid h_source
  clear h_source
  by_cases h_dest : x.dest = y.dest
  case neg =>
    have n_h_dest : (x.dest == y.dest) = false := beq_eq_false_iff_ne.2 h_dest
    have Hh_dest := Lib.hid h_dest
    clear h_dest
    have HO := Lib.hid (show eqPV x y = false by simp [eqPV, Hh_on.out, Hh_restack.out, Hh_source.out, Hh_dest.out])
    clear K_st
    clear K_kl
    go_enter Tryd.func40, Tryd.ntmps40
    go_wp2
    rw [← hW]
    go_ret
    exact ⟨ret_bool HO.out.symm, hal⟩
  have e_h_dest : (x.dest == y.dest) = true := by rw [h_dest]; exact beq_self_eq_true _
  have Hh_dest := Lib.hid h_dest
  clear h_dest
  cases d_st : lall2 eqSV x.settled y.settled
  case false =>
    have D_st := Lib.hid d_st
    clear d_st
    have HO := Lib.hid (show eqPV x y = false by simp [eqPV, Hh_on.out, Hh_restack.out, Hh_source.out, Hh_dest.out, D_st.out])
    clear K_kl
    rw [D_st.out] at K_st
    go_enter Tryd.func40, Tryd.ntmps40
    go_wp2_with fail
    rw [← hW]
    clear hW
    refine (K_st _ hal).mono ?_
    rintro e w1 ⟨rfl, hb1⟩
    have hC1 : Below W.heap.size W w1 := hb1
    have hB1 : Below w.heap.size w w1 := hal.trans (hC1.mono (by omega))
    have a5 := (hC1.cell (p := ⟨w.heap.size, 5, none⟩) (by show w.heap.size < _; omega)).trans (hx0 5 _ rfl)
    have b5 := (hC1.cell (p := ⟨w.heap.size + 1, 5, none⟩) (by show w.heap.size + 1 < _; omega)).trans (hy0 5 _ rfl)
    go_wp2
    go_ret
    exact ⟨ret_bool HO.out.symm, hB1⟩
  have D_st := Lib.hid d_st
  clear d_st
  by_cases h_commit : x.commit = y.commit
  case neg =>
    have n_h_commit : (x.commit == y.commit) = false := beq_eq_false_iff_ne.2 h_commit
    have Hh_commit := Lib.hid h_commit
    clear h_commit
    have HO := Lib.hid (show eqPV x y = false by simp [eqPV, Hh_on.out, Hh_restack.out, Hh_source.out, Hh_dest.out, D_st.out, Hh_commit.out])
    clear K_kl
    rw [D_st.out] at K_st
    go_enter Tryd.func40, Tryd.ntmps40
    go_wp2_with fail
    rw [← hW]
    clear hW
    refine (K_st _ hal).mono ?_
    rintro e w1 ⟨rfl, hb1⟩
    have hC1 : Below W.heap.size W w1 := hb1
    have hB1 : Below w.heap.size w w1 := hal.trans (hC1.mono (by omega))
    have a5 := (hC1.cell (p := ⟨w.heap.size, 5, none⟩) (by show w.heap.size < _; omega)).trans (hx0 5 _ rfl)
    have b5 := (hC1.cell (p := ⟨w.heap.size + 1, 5, none⟩) (by show w.heap.size + 1 < _; omega)).trans (hy0 5 _ rfl)
    go_wp2
    go_ret
    exact ⟨ret_bool HO.out.symm, hB1⟩
  have e_h_commit : (x.commit == y.commit) = true := by rw [h_commit]; exact beq_self_eq_true _
  have Hh_commit := Lib.hid h_commit
  clear h_commit
  cases d_kl : decide (x.clashes = y.clashes)
  case false =>
    have D_kl := Lib.hid d_kl
    clear d_kl
    have HO := Lib.hid (show eqPV x y = false by simp [eqPV, Hh_on.out, Hh_restack.out, Hh_source.out, Hh_dest.out, D_st.out, Hh_commit.out, D_kl.out])
    rw [D_st.out] at K_st
    rw [D_kl.out] at K_kl
    go_enter Tryd.func40, Tryd.ntmps40
    go_wp2_with fail
    rw [← hW]
    clear hW
    refine (K_st _ hal).mono ?_
    rintro e w1 ⟨rfl, hb1⟩
    have hC1 : Below W.heap.size W w1 := hb1
    have hB1 : Below w.heap.size w w1 := hal.trans (hC1.mono (by omega))
    have a5 := (hC1.cell (p := ⟨w.heap.size, 5, none⟩) (by show w.heap.size < _; omega)).trans (hx0 5 _ rfl)
    have b5 := (hC1.cell (p := ⟨w.heap.size + 1, 5, none⟩) (by show w.heap.size + 1 < _; omega)).trans (hy0 5 _ rfl)
    have a6 := (hC1.cell (p := ⟨w.heap.size, 6, none⟩) (by show w.heap.size < _; omega)).trans (hx0 6 _ rfl)
    have b6 := (hC1.cell (p := ⟨w.heap.size + 1, 6, none⟩) (by show w.heap.size + 1 < _; omega)).trans (hy0 6 _ rfl)
    go_wp2_with fail
    refine (K_kl _ hB1).mono ?_
    rintro e w2 ⟨rfl, hb2⟩
    have hC2 : Below W.heap.size W w2 := hC1.trans (hb2.mono hC1.size)
    have hB2 : Below w.heap.size w w2 := hal.trans (hC2.mono (by omega))
    go_wp2
    go_ret
    exact ⟨ret_bool HO.out.symm, hB2⟩
  have D_kl := Lib.hid d_kl
  clear d_kl
  have HO := Lib.hid (show eqPV x y = true by simp [eqPV, Hh_on.out, Hh_restack.out, Hh_source.out, Hh_dest.out, D_st.out, Hh_commit.out, D_kl.out])
  rw [D_st.out] at K_st
  rw [D_kl.out] at K_kl
  go_enter Tryd.func40, Tryd.ntmps40
  go_wp2_with fail
  rw [← hW]
  clear hW
  refine (K_st _ hal).mono ?_
  rintro e w1 ⟨rfl, hb1⟩
  have hC1 : Below W.heap.size W w1 := hb1
  have hB1 : Below w.heap.size w w1 := hal.trans (hC1.mono (by omega))
  have a5 := (hC1.cell (p := ⟨w.heap.size, 5, none⟩) (by show w.heap.size < _; omega)).trans (hx0 5 _ rfl)
  have b5 := (hC1.cell (p := ⟨w.heap.size + 1, 5, none⟩) (by show w.heap.size + 1 < _; omega)).trans (hy0 5 _ rfl)
  have a6 := (hC1.cell (p := ⟨w.heap.size, 6, none⟩) (by show w.heap.size < _; omega)).trans (hx0 6 _ rfl)
  have b6 := (hC1.cell (p := ⟨w.heap.size + 1, 6, none⟩) (by show w.heap.size + 1 < _; omega)).trans (hy0 6 _ rfl)
  go_wp2_with fail
  refine (K_kl _ hB1).mono ?_
  rintro e w2 ⟨rfl, hb2⟩
  have hC2 : Below W.heap.size W w2 := hC1.trans (hb2.mono hC1.size)
  have hB2 : Below w.heap.size w w2 := hal.trans (hC2.mono (by omega))
  go_wp2
  go_ret
  exact ⟨ret_bool HO.out.symm, hB2⟩

set_option maxRecDepth 100000 in
set_option maxHeartbeats 4000000 in
theorem pend2_any {x y : PV} {w : World} (hx : x.In w w.heap.size) (hy : y.In w w.heap.size) : Calls Tryd.prog 44 #[.agg #[.bool x.on, .bool x.restack, .int .i64 x.source, .int .i64 x.dest, .slice x.sA x.settled.length x.sc, .int .i64 x.commit, .slice x.kA x.clashes.length x.kc], .agg #[.bool y.on, .bool y.restack, .int .i64 y.source, .int .i64 y.dest, .slice y.sA y.settled.length y.sc, .int .i64 y.commit, .slice y.kA y.clashes.length y.kc]] w (BoolBelow (eqPV x y) w) := by
  have K_st : ∀ v, Below w.heap.size w v → Calls Tryd.prog 68 #[.slice x.sA x.settled.length x.sc, .slice y.sA y.settled.length y.sc, .func (.func 69) #[] #[]] v (BoolBelow (lall2 eqSV x.settled y.settled) v) := fun v hv => equalfS_any eqSV hx.ls hy.ls (hx.to hv hv.size).s (hy.to hv hv.size).s rfl rfl fun a ha b hb u hu => settled2_any (((hx.to hv hv.size).each a ha).to hu hu.size) (((hy.to hv hv.size).each b hb).to hu hu.size)
  have K_kl : ∀ v, Below w.heap.size w v → Calls Tryd.prog 70 #[.slice x.kA x.clashes.length x.kc, .slice y.kA y.clashes.length y.kc] v (BoolBelow (decide (x.clashes = y.clashes)) v) := fun v hv => equalC_any hx.lk hy.lk (hx.to hv hv.size).k (hy.to hv hv.size).k rfl rfl
  clear hx hy
  obtain ⟨W, hW⟩ : ∃ u, u = (w.alloc (.cells #[.bool x.on, .bool x.restack, .int .i64 x.source, .int .i64 x.dest, .slice x.sA x.settled.length x.sc, .int .i64 x.commit, .slice x.kA x.clashes.length x.kc] 50)).alloc (.cells #[.bool y.on, .bool y.restack, .int .i64 y.source, .int .i64 y.dest, .slice y.sA y.settled.length y.sc, .int .i64 y.commit, .slice y.kA y.clashes.length y.kc] 50) := ⟨_, rfl⟩
  have hal : Below w.heap.size w W := by rw [hW]; exact ((Below.refl _ _).alloc (Nat.le_refl _) _).alloc (by simp) _
  have hWz : W.heap.size = w.heap.size + 2 := by rw [hW]; simp
  have hx0 : ∀ i u, [.bool x.on, .bool x.restack, .int .i64 x.source, .int .i64 x.dest, .slice x.sA x.settled.length x.sc, .int .i64 x.commit, .slice x.kA x.clashes.length x.kc][i]? = some u → W.cell? ⟨w.heap.size, i, none⟩ = some u := fun i u hu => by rw [hW, World.cell?, heap_alloc_old _ _ (by simp), heap_alloc_new]; simpa using hu
  have hy0 : ∀ i u, [.bool y.on, .bool y.restack, .int .i64 y.source, .int .i64 y.dest, .slice y.sA y.settled.length y.sc, .int .i64 y.commit, .slice y.kA y.clashes.length y.kc][i]? = some u → W.cell? ⟨w.heap.size + 1, i, none⟩ = some u := fun i u hu => by rw [hW, World.cell?, show w.heap.size + 1 = (w.alloc (.cells #[.bool x.on, .bool x.restack, .int .i64 x.source, .int .i64 x.dest, .slice x.sA x.settled.length x.sc, .int .i64 x.commit, .slice x.kA x.clashes.length x.kc] 50)).heap.size by simp, heap_alloc_new]; simpa using hu
  by_cases h_on : x.on = y.on
  case neg =>
    have n_h_on : (x.on == y.on) = false := beq_eq_false_iff_ne.2 h_on
    have Hh_on := Lib.hid h_on
    clear h_on
    have HO := Lib.hid (show eqPV x y = false by simp [eqPV, Hh_on.out])
    clear K_st
    clear K_kl
    go_enter Tryd.func44, Tryd.ntmps44
    go_wp2
    rw [← hW]
    go_ret
    exact ⟨ret_bool HO.out.symm, hal⟩
  have e_h_on : (x.on == y.on) = true := by rw [h_on]; exact beq_self_eq_true _
  have Hh_on := Lib.hid h_on
  clear h_on
  by_cases h_restack : x.restack = y.restack
  case neg =>
    have n_h_restack : (x.restack == y.restack) = false := beq_eq_false_iff_ne.2 h_restack
    have Hh_restack := Lib.hid h_restack
    clear h_restack
    have HO := Lib.hid (show eqPV x y = false by simp [eqPV, Hh_on.out, Hh_restack.out])
    clear K_st
    clear K_kl
    go_enter Tryd.func44, Tryd.ntmps44
    go_wp2
    rw [← hW]
    go_ret
    exact ⟨ret_bool HO.out.symm, hal⟩
  have e_h_restack : (x.restack == y.restack) = true := by rw [h_restack]; exact beq_self_eq_true _
  have Hh_restack := Lib.hid h_restack
  clear h_restack
  by_cases h_source : x.source = y.source
  case neg =>
    have n_h_source : (x.source == y.source) = false := beq_eq_false_iff_ne.2 h_source
    have Hh_source := Lib.hid h_source
    clear h_source
    have HO := Lib.hid (show eqPV x y = false by simp [eqPV, Hh_on.out, Hh_restack.out, Hh_source.out])
    clear K_st
    clear K_kl
    go_enter Tryd.func44, Tryd.ntmps44
    go_wp2
    rw [← hW]
    go_ret
    exact ⟨ret_bool HO.out.symm, hal⟩
  have e_h_source : (x.source == y.source) = true := by rw [h_source]; exact beq_self_eq_true _
  have Hh_source := Lib.hid h_source
  clear h_source
  by_cases h_dest : x.dest = y.dest
  case neg =>
    have n_h_dest : (x.dest == y.dest) = false := beq_eq_false_iff_ne.2 h_dest
    have Hh_dest := Lib.hid h_dest
    clear h_dest
    have HO := Lib.hid (show eqPV x y = false by simp [eqPV, Hh_on.out, Hh_restack.out, Hh_source.out, Hh_dest.out])
    clear K_st
    clear K_kl
    go_enter Tryd.func44, Tryd.ntmps44
    go_wp2
    rw [← hW]
    go_ret
    exact ⟨ret_bool HO.out.symm, hal⟩
  have e_h_dest : (x.dest == y.dest) = true := by rw [h_dest]; exact beq_self_eq_true _
  have Hh_dest := Lib.hid h_dest
  clear h_dest
  by_cases h_commit : x.commit = y.commit
  case neg =>
    have n_h_commit : (x.commit == y.commit) = false := beq_eq_false_iff_ne.2 h_commit
    have Hh_commit := Lib.hid h_commit
    clear h_commit
    have HO := Lib.hid (show eqPV x y = false by simp [eqPV, Hh_on.out, Hh_restack.out, Hh_source.out, Hh_dest.out, Hh_commit.out])
    clear K_st
    clear K_kl
    go_enter Tryd.func44, Tryd.ntmps44
    go_wp2
    rw [← hW]
    go_ret
    exact ⟨ret_bool HO.out.symm, hal⟩
  have e_h_commit : (x.commit == y.commit) = true := by rw [h_commit]; exact beq_self_eq_true _
  have Hh_commit := Lib.hid h_commit
  clear h_commit
  cases d_st : lall2 eqSV x.settled y.settled
  case false =>
    have D_st := Lib.hid d_st
    clear d_st
    have HO := Lib.hid (show eqPV x y = false by simp [eqPV, Hh_on.out, Hh_restack.out, Hh_source.out, Hh_dest.out, Hh_commit.out, D_st.out])
    clear K_kl
    rw [D_st.out] at K_st
    go_enter Tryd.func44, Tryd.ntmps44
    go_wp2_with fail
    rw [← hW]
    clear hW
    refine (K_st _ hal).mono ?_
    rintro e w1 ⟨rfl, hb1⟩
    have hC1 : Below W.heap.size W w1 := hb1
    have hB1 : Below w.heap.size w w1 := hal.trans (hC1.mono (by omega))
    have a6 := (hC1.cell (p := ⟨w.heap.size, 6, none⟩) (by show w.heap.size < _; omega)).trans (hx0 6 _ rfl)
    have b6 := (hC1.cell (p := ⟨w.heap.size + 1, 6, none⟩) (by show w.heap.size + 1 < _; omega)).trans (hy0 6 _ rfl)
    go_wp2
    go_ret
    exact ⟨ret_bool HO.out.symm, hB1⟩
  have D_st := Lib.hid d_st
  clear d_st
  cases d_kl : decide (x.clashes = y.clashes)
  case false =>
    have D_kl := Lib.hid d_kl
    clear d_kl
    have HO := Lib.hid (show eqPV x y = false by simp [eqPV, Hh_on.out, Hh_restack.out, Hh_source.out, Hh_dest.out, Hh_commit.out, D_st.out, D_kl.out])
    rw [D_st.out] at K_st
    rw [D_kl.out] at K_kl
    go_enter Tryd.func44, Tryd.ntmps44
    go_wp2_with fail
    rw [← hW]
    clear hW
    refine (K_st _ hal).mono ?_
    rintro e w1 ⟨rfl, hb1⟩
    have hC1 : Below W.heap.size W w1 := hb1
    have hB1 : Below w.heap.size w w1 := hal.trans (hC1.mono (by omega))
    have a6 := (hC1.cell (p := ⟨w.heap.size, 6, none⟩) (by show w.heap.size < _; omega)).trans (hx0 6 _ rfl)
    have b6 := (hC1.cell (p := ⟨w.heap.size + 1, 6, none⟩) (by show w.heap.size + 1 < _; omega)).trans (hy0 6 _ rfl)
    go_wp2_with fail
    refine (K_kl _ hB1).mono ?_
    rintro e w2 ⟨rfl, hb2⟩
    have hC2 : Below W.heap.size W w2 := hC1.trans (hb2.mono hC1.size)
    have hB2 : Below w.heap.size w w2 := hal.trans (hC2.mono (by omega))
    go_wp2
    go_ret
    exact ⟨ret_bool HO.out.symm, hB2⟩
  have D_kl := Lib.hid d_kl
  clear d_kl
  have HO := Lib.hid (show eqPV x y = true by simp [eqPV, Hh_on.out, Hh_restack.out, Hh_source.out, Hh_dest.out, Hh_commit.out, D_st.out, D_kl.out])
  rw [D_st.out] at K_st
  rw [D_kl.out] at K_kl
  go_enter Tryd.func44, Tryd.ntmps44
  go_wp2_with fail
  rw [← hW]
  clear hW
  refine (K_st _ hal).mono ?_
  rintro e w1 ⟨rfl, hb1⟩
  have hC1 : Below W.heap.size W w1 := hb1
  have hB1 : Below w.heap.size w w1 := hal.trans (hC1.mono (by omega))
  have a6 := (hC1.cell (p := ⟨w.heap.size, 6, none⟩) (by show w.heap.size < _; omega)).trans (hx0 6 _ rfl)
  have b6 := (hC1.cell (p := ⟨w.heap.size + 1, 6, none⟩) (by show w.heap.size + 1 < _; omega)).trans (hy0 6 _ rfl)
  go_wp2_with fail
  refine (K_kl _ hB1).mono ?_
  rintro e w2 ⟨rfl, hb2⟩
  have hC2 : Below W.heap.size W w2 := hC1.trans (hb2.mono hC1.size)
  have hB2 : Below w.heap.size w w2 := hal.trans (hC2.mono (by omega))
  go_wp2
  go_ret
  exact ⟨ret_bool HO.out.symm, hB2⟩

set_option maxRecDepth 100000 in
set_option maxHeartbeats 4000000 in
theorem held1_any {x y : VV} {w : World} (hx : x.In w w.heap.size) (hy : y.In w w.heap.size) : Calls Tryd.prog 23 #[.agg #[.slice x.A x.commits.length x.c, .slice x.mA x.marks.length x.mc, .int .i64 x.working, .bool x.pend.on, .bool x.pend.restack, .int .i64 x.pend.source, .int .i64 x.pend.dest, .slice x.pend.sA x.pend.settled.length x.pend.sc, .int .i64 x.pend.commit, .slice x.pend.kA x.pend.clashes.length x.pend.kc, .int .i64 x.undos, .int .i64 x.redos], .agg #[.slice y.A y.commits.length y.c, .slice y.mA y.marks.length y.mc, .int .i64 y.working, .bool y.pend.on, .bool y.pend.restack, .int .i64 y.pend.source, .int .i64 y.pend.dest, .slice y.pend.sA y.pend.settled.length y.pend.sc, .int .i64 y.pend.commit, .slice y.pend.kA y.pend.clashes.length y.pend.kc, .int .i64 y.undos, .int .i64 y.redos]] w (BoolBelow (heldVV x y) w) := by
  have K_cm : ∀ v, Below w.heap.size w v → Calls Tryd.prog 45 #[.slice x.A x.commits.length x.c, .slice y.A y.commits.length y.c, .func (.func 46) #[] #[]] v (BoolBelow (lall2 eqEV x.commits y.commits) v) := fun v hv => sameE_any eqEV hx.lc hy.lc (hx.to hv hv.size).row (hy.to hv hv.size).row rfl rfl (by kernel_rfl) fun a ha b hb u hu => seen1_any (((hx.to hv hv.size).each a ha).to hu hu.size) (((hy.to hv hv.size).each b hb).to hu hu.size)
  have K_mk : ∀ v, Below w.heap.size w v → Calls Tryd.prog 47 #[.slice x.mA x.marks.length x.mc, .slice y.mA y.marks.length y.mc] v (BoolBelow (decide (x.marks = y.marks)) v) := fun v hv => plainN_any hx.lm hy.lm (hx.to hv hv.size).marks (hy.to hv hv.size).marks rfl rfl
  have K_pd : ∀ v, Below w.heap.size w v → Calls Tryd.prog 40 #[.agg x.pend.vals, .agg y.pend.vals] v (BoolBelow (eqPV x.pend y.pend) v) := fun v hv => pend1_any (hx.to hv hv.size).pend (hy.to hv hv.size).pend
  clear hx hy
  obtain ⟨W, hW⟩ : ∃ u, u = (w.alloc (.cells #[.slice x.A x.commits.length x.c, .slice x.mA x.marks.length x.mc, .int .i64 x.working, .bool x.pend.on, .bool x.pend.restack, .int .i64 x.pend.source, .int .i64 x.pend.dest, .slice x.pend.sA x.pend.settled.length x.pend.sc, .int .i64 x.pend.commit, .slice x.pend.kA x.pend.clashes.length x.pend.kc, .int .i64 x.undos, .int .i64 x.redos] 52)).alloc (.cells #[.slice y.A y.commits.length y.c, .slice y.mA y.marks.length y.mc, .int .i64 y.working, .bool y.pend.on, .bool y.pend.restack, .int .i64 y.pend.source, .int .i64 y.pend.dest, .slice y.pend.sA y.pend.settled.length y.pend.sc, .int .i64 y.pend.commit, .slice y.pend.kA y.pend.clashes.length y.pend.kc, .int .i64 y.undos, .int .i64 y.redos] 52) := ⟨_, rfl⟩
  have hal : Below w.heap.size w W := by rw [hW]; exact ((Below.refl _ _).alloc (Nat.le_refl _) _).alloc (by simp) _
  have hWz : W.heap.size = w.heap.size + 2 := by rw [hW]; simp
  have hx0 : ∀ i u, [.slice x.A x.commits.length x.c, .slice x.mA x.marks.length x.mc, .int .i64 x.working, .bool x.pend.on, .bool x.pend.restack, .int .i64 x.pend.source, .int .i64 x.pend.dest, .slice x.pend.sA x.pend.settled.length x.pend.sc, .int .i64 x.pend.commit, .slice x.pend.kA x.pend.clashes.length x.pend.kc, .int .i64 x.undos, .int .i64 x.redos][i]? = some u → W.cell? ⟨w.heap.size, i, none⟩ = some u := fun i u hu => by rw [hW, World.cell?, heap_alloc_old _ _ (by simp), heap_alloc_new]; simpa using hu
  have hy0 : ∀ i u, [.slice y.A y.commits.length y.c, .slice y.mA y.marks.length y.mc, .int .i64 y.working, .bool y.pend.on, .bool y.pend.restack, .int .i64 y.pend.source, .int .i64 y.pend.dest, .slice y.pend.sA y.pend.settled.length y.pend.sc, .int .i64 y.pend.commit, .slice y.pend.kA y.pend.clashes.length y.pend.kc, .int .i64 y.undos, .int .i64 y.redos][i]? = some u → W.cell? ⟨w.heap.size + 1, i, none⟩ = some u := fun i u hu => by rw [hW, World.cell?, show w.heap.size + 1 = (w.alloc (.cells #[.slice x.A x.commits.length x.c, .slice x.mA x.marks.length x.mc, .int .i64 x.working, .bool x.pend.on, .bool x.pend.restack, .int .i64 x.pend.source, .int .i64 x.pend.dest, .slice x.pend.sA x.pend.settled.length x.pend.sc, .int .i64 x.pend.commit, .slice x.pend.kA x.pend.clashes.length x.pend.kc, .int .i64 x.undos, .int .i64 x.redos] 52)).heap.size by simp, heap_alloc_new]; simpa using hu
  cases d_cm : lall2 eqEV x.commits y.commits
  case false =>
    have D_cm := Lib.hid d_cm
    clear d_cm
    have HO := Lib.hid (show heldVV x y = false by simp [heldVV, D_cm.out])
    clear K_mk
    clear K_pd
    rw [D_cm.out] at K_cm
    go_enter Tryd.func23, Tryd.ntmps23
    go_wp2_with fail
    rw [← hW]
    clear hW
    refine (K_cm _ hal).mono ?_
    rintro e w1 ⟨rfl, hb1⟩
    have hC1 : Below W.heap.size W w1 := hb1
    have hB1 : Below w.heap.size w w1 := hal.trans (hC1.mono (by omega))
    have a1 := (hC1.cell (p := ⟨w.heap.size, 1, none⟩) (by show w.heap.size < _; omega)).trans (hx0 1 _ rfl)
    have b1 := (hC1.cell (p := ⟨w.heap.size + 1, 1, none⟩) (by show w.heap.size + 1 < _; omega)).trans (hy0 1 _ rfl)
    go_wp2
    go_ret
    exact ⟨ret_bool HO.out.symm, hB1⟩
  have D_cm := Lib.hid d_cm
  clear d_cm
  cases d_mk : decide (x.marks = y.marks)
  case false =>
    have D_mk := Lib.hid d_mk
    clear d_mk
    have HO := Lib.hid (show heldVV x y = false by simp [heldVV, D_cm.out, D_mk.out])
    clear K_pd
    rw [D_cm.out] at K_cm
    rw [D_mk.out] at K_mk
    go_enter Tryd.func23, Tryd.ntmps23
    go_wp2_with fail
    rw [← hW]
    clear hW
    refine (K_cm _ hal).mono ?_
    rintro e w1 ⟨rfl, hb1⟩
    have hC1 : Below W.heap.size W w1 := hb1
    have hB1 : Below w.heap.size w w1 := hal.trans (hC1.mono (by omega))
    have a1 := (hC1.cell (p := ⟨w.heap.size, 1, none⟩) (by show w.heap.size < _; omega)).trans (hx0 1 _ rfl)
    have b1 := (hC1.cell (p := ⟨w.heap.size + 1, 1, none⟩) (by show w.heap.size + 1 < _; omega)).trans (hy0 1 _ rfl)
    have a2 := (hC1.cell (p := ⟨w.heap.size, 2, none⟩) (by show w.heap.size < _; omega)).trans (hx0 2 _ rfl)
    have b2 := (hC1.cell (p := ⟨w.heap.size + 1, 2, none⟩) (by show w.heap.size + 1 < _; omega)).trans (hy0 2 _ rfl)
    go_wp2_with fail
    refine (K_mk _ hB1).mono ?_
    rintro e w2 ⟨rfl, hb2⟩
    have hC2 : Below W.heap.size W w2 := hC1.trans (hb2.mono hC1.size)
    have hB2 : Below w.heap.size w w2 := hal.trans (hC2.mono (by omega))
    have a2 := (hC2.cell (p := ⟨w.heap.size, 2, none⟩) (by show w.heap.size < _; omega)).trans (hx0 2 _ rfl)
    have b2 := (hC2.cell (p := ⟨w.heap.size + 1, 2, none⟩) (by show w.heap.size + 1 < _; omega)).trans (hy0 2 _ rfl)
    go_wp2
    go_ret
    exact ⟨ret_bool HO.out.symm, hB2⟩
  have D_mk := Lib.hid d_mk
  clear d_mk
  by_cases h_working : x.working = y.working
  case neg =>
    have n_h_working : (x.working == y.working) = false := beq_eq_false_iff_ne.2 h_working
    have Hh_working := Lib.hid h_working
    clear h_working
    have HO := Lib.hid (show heldVV x y = false by simp [heldVV, D_cm.out, D_mk.out, Hh_working.out])
    clear K_pd
    rw [D_cm.out] at K_cm
    rw [D_mk.out] at K_mk
    go_enter Tryd.func23, Tryd.ntmps23
    go_wp2_with fail
    rw [← hW]
    clear hW
    refine (K_cm _ hal).mono ?_
    rintro e w1 ⟨rfl, hb1⟩
    have hC1 : Below W.heap.size W w1 := hb1
    have hB1 : Below w.heap.size w w1 := hal.trans (hC1.mono (by omega))
    have a1 := (hC1.cell (p := ⟨w.heap.size, 1, none⟩) (by show w.heap.size < _; omega)).trans (hx0 1 _ rfl)
    have b1 := (hC1.cell (p := ⟨w.heap.size + 1, 1, none⟩) (by show w.heap.size + 1 < _; omega)).trans (hy0 1 _ rfl)
    have a2 := (hC1.cell (p := ⟨w.heap.size, 2, none⟩) (by show w.heap.size < _; omega)).trans (hx0 2 _ rfl)
    have b2 := (hC1.cell (p := ⟨w.heap.size + 1, 2, none⟩) (by show w.heap.size + 1 < _; omega)).trans (hy0 2 _ rfl)
    go_wp2_with fail
    refine (K_mk _ hB1).mono ?_
    rintro e w2 ⟨rfl, hb2⟩
    have hC2 : Below W.heap.size W w2 := hC1.trans (hb2.mono hC1.size)
    have hB2 : Below w.heap.size w w2 := hal.trans (hC2.mono (by omega))
    have a2 := (hC2.cell (p := ⟨w.heap.size, 2, none⟩) (by show w.heap.size < _; omega)).trans (hx0 2 _ rfl)
    have b2 := (hC2.cell (p := ⟨w.heap.size + 1, 2, none⟩) (by show w.heap.size + 1 < _; omega)).trans (hy0 2 _ rfl)
    go_wp2
    go_ret
    exact ⟨ret_bool HO.out.symm, hB2⟩
  have e_h_working : (x.working == y.working) = true := by rw [h_working]; exact beq_self_eq_true _
  have Hh_working := Lib.hid h_working
  clear h_working
  cases d_pd : eqPV x.pend y.pend
  case false =>
    have D_pd := Lib.hid d_pd
    clear d_pd
    have HO := Lib.hid (show heldVV x y = false by simp [heldVV, D_cm.out, D_mk.out, Hh_working.out, D_pd.out])
    rw [D_cm.out] at K_cm
    rw [D_mk.out] at K_mk
    rw [D_pd.out] at K_pd
    go_enter Tryd.func23, Tryd.ntmps23
    go_wp2_with fail
    rw [← hW]
    clear hW
    refine (K_cm _ hal).mono ?_
    rintro e w1 ⟨rfl, hb1⟩
    have hC1 : Below W.heap.size W w1 := hb1
    have hB1 : Below w.heap.size w w1 := hal.trans (hC1.mono (by omega))
    have a1 := (hC1.cell (p := ⟨w.heap.size, 1, none⟩) (by show w.heap.size < _; omega)).trans (hx0 1 _ rfl)
    have b1 := (hC1.cell (p := ⟨w.heap.size + 1, 1, none⟩) (by show w.heap.size + 1 < _; omega)).trans (hy0 1 _ rfl)
    have a2 := (hC1.cell (p := ⟨w.heap.size, 2, none⟩) (by show w.heap.size < _; omega)).trans (hx0 2 _ rfl)
    have b2 := (hC1.cell (p := ⟨w.heap.size + 1, 2, none⟩) (by show w.heap.size + 1 < _; omega)).trans (hy0 2 _ rfl)
    have a3 := (hC1.cell (p := ⟨w.heap.size, 3, none⟩) (by show w.heap.size < _; omega)).trans (hx0 3 _ rfl)
    have b3 := (hC1.cell (p := ⟨w.heap.size + 1, 3, none⟩) (by show w.heap.size + 1 < _; omega)).trans (hy0 3 _ rfl)
    have a4 := (hC1.cell (p := ⟨w.heap.size, 4, none⟩) (by show w.heap.size < _; omega)).trans (hx0 4 _ rfl)
    have b4 := (hC1.cell (p := ⟨w.heap.size + 1, 4, none⟩) (by show w.heap.size + 1 < _; omega)).trans (hy0 4 _ rfl)
    have a5 := (hC1.cell (p := ⟨w.heap.size, 5, none⟩) (by show w.heap.size < _; omega)).trans (hx0 5 _ rfl)
    have b5 := (hC1.cell (p := ⟨w.heap.size + 1, 5, none⟩) (by show w.heap.size + 1 < _; omega)).trans (hy0 5 _ rfl)
    have a6 := (hC1.cell (p := ⟨w.heap.size, 6, none⟩) (by show w.heap.size < _; omega)).trans (hx0 6 _ rfl)
    have b6 := (hC1.cell (p := ⟨w.heap.size + 1, 6, none⟩) (by show w.heap.size + 1 < _; omega)).trans (hy0 6 _ rfl)
    have a7 := (hC1.cell (p := ⟨w.heap.size, 7, none⟩) (by show w.heap.size < _; omega)).trans (hx0 7 _ rfl)
    have b7 := (hC1.cell (p := ⟨w.heap.size + 1, 7, none⟩) (by show w.heap.size + 1 < _; omega)).trans (hy0 7 _ rfl)
    have a8 := (hC1.cell (p := ⟨w.heap.size, 8, none⟩) (by show w.heap.size < _; omega)).trans (hx0 8 _ rfl)
    have b8 := (hC1.cell (p := ⟨w.heap.size + 1, 8, none⟩) (by show w.heap.size + 1 < _; omega)).trans (hy0 8 _ rfl)
    have a9 := (hC1.cell (p := ⟨w.heap.size, 9, none⟩) (by show w.heap.size < _; omega)).trans (hx0 9 _ rfl)
    have b9 := (hC1.cell (p := ⟨w.heap.size + 1, 9, none⟩) (by show w.heap.size + 1 < _; omega)).trans (hy0 9 _ rfl)
    go_wp2_with fail
    refine (K_mk _ hB1).mono ?_
    rintro e w2 ⟨rfl, hb2⟩
    have hC2 : Below W.heap.size W w2 := hC1.trans (hb2.mono hC1.size)
    have hB2 : Below w.heap.size w w2 := hal.trans (hC2.mono (by omega))
    have a2 := (hC2.cell (p := ⟨w.heap.size, 2, none⟩) (by show w.heap.size < _; omega)).trans (hx0 2 _ rfl)
    have b2 := (hC2.cell (p := ⟨w.heap.size + 1, 2, none⟩) (by show w.heap.size + 1 < _; omega)).trans (hy0 2 _ rfl)
    have a3 := (hC2.cell (p := ⟨w.heap.size, 3, none⟩) (by show w.heap.size < _; omega)).trans (hx0 3 _ rfl)
    have b3 := (hC2.cell (p := ⟨w.heap.size + 1, 3, none⟩) (by show w.heap.size + 1 < _; omega)).trans (hy0 3 _ rfl)
    have a4 := (hC2.cell (p := ⟨w.heap.size, 4, none⟩) (by show w.heap.size < _; omega)).trans (hx0 4 _ rfl)
    have b4 := (hC2.cell (p := ⟨w.heap.size + 1, 4, none⟩) (by show w.heap.size + 1 < _; omega)).trans (hy0 4 _ rfl)
    have a5 := (hC2.cell (p := ⟨w.heap.size, 5, none⟩) (by show w.heap.size < _; omega)).trans (hx0 5 _ rfl)
    have b5 := (hC2.cell (p := ⟨w.heap.size + 1, 5, none⟩) (by show w.heap.size + 1 < _; omega)).trans (hy0 5 _ rfl)
    have a6 := (hC2.cell (p := ⟨w.heap.size, 6, none⟩) (by show w.heap.size < _; omega)).trans (hx0 6 _ rfl)
    have b6 := (hC2.cell (p := ⟨w.heap.size + 1, 6, none⟩) (by show w.heap.size + 1 < _; omega)).trans (hy0 6 _ rfl)
    have a7 := (hC2.cell (p := ⟨w.heap.size, 7, none⟩) (by show w.heap.size < _; omega)).trans (hx0 7 _ rfl)
    have b7 := (hC2.cell (p := ⟨w.heap.size + 1, 7, none⟩) (by show w.heap.size + 1 < _; omega)).trans (hy0 7 _ rfl)
    have a8 := (hC2.cell (p := ⟨w.heap.size, 8, none⟩) (by show w.heap.size < _; omega)).trans (hx0 8 _ rfl)
    have b8 := (hC2.cell (p := ⟨w.heap.size + 1, 8, none⟩) (by show w.heap.size + 1 < _; omega)).trans (hy0 8 _ rfl)
    have a9 := (hC2.cell (p := ⟨w.heap.size, 9, none⟩) (by show w.heap.size < _; omega)).trans (hx0 9 _ rfl)
    have b9 := (hC2.cell (p := ⟨w.heap.size + 1, 9, none⟩) (by show w.heap.size + 1 < _; omega)).trans (hy0 9 _ rfl)
    go_wp2_with fail
    refine (K_pd _ hB2).mono ?_
    rintro e w3 ⟨rfl, hb3⟩
    have hC3 : Below W.heap.size W w3 := hC2.trans (hb3.mono hC2.size)
    have hB3 : Below w.heap.size w w3 := hal.trans (hC3.mono (by omega))
    go_wp2
    go_ret
    exact ⟨ret_bool HO.out.symm, hB3⟩
  have D_pd := Lib.hid d_pd
  clear d_pd
  have HO := Lib.hid (show heldVV x y = true by simp [heldVV, D_cm.out, D_mk.out, Hh_working.out, D_pd.out])
  rw [D_cm.out] at K_cm
  rw [D_mk.out] at K_mk
  rw [D_pd.out] at K_pd
  go_enter Tryd.func23, Tryd.ntmps23
  go_wp2_with fail
  rw [← hW]
  clear hW
  refine (K_cm _ hal).mono ?_
  rintro e w1 ⟨rfl, hb1⟩
  have hC1 : Below W.heap.size W w1 := hb1
  have hB1 : Below w.heap.size w w1 := hal.trans (hC1.mono (by omega))
  have a1 := (hC1.cell (p := ⟨w.heap.size, 1, none⟩) (by show w.heap.size < _; omega)).trans (hx0 1 _ rfl)
  have b1 := (hC1.cell (p := ⟨w.heap.size + 1, 1, none⟩) (by show w.heap.size + 1 < _; omega)).trans (hy0 1 _ rfl)
  have a2 := (hC1.cell (p := ⟨w.heap.size, 2, none⟩) (by show w.heap.size < _; omega)).trans (hx0 2 _ rfl)
  have b2 := (hC1.cell (p := ⟨w.heap.size + 1, 2, none⟩) (by show w.heap.size + 1 < _; omega)).trans (hy0 2 _ rfl)
  have a3 := (hC1.cell (p := ⟨w.heap.size, 3, none⟩) (by show w.heap.size < _; omega)).trans (hx0 3 _ rfl)
  have b3 := (hC1.cell (p := ⟨w.heap.size + 1, 3, none⟩) (by show w.heap.size + 1 < _; omega)).trans (hy0 3 _ rfl)
  have a4 := (hC1.cell (p := ⟨w.heap.size, 4, none⟩) (by show w.heap.size < _; omega)).trans (hx0 4 _ rfl)
  have b4 := (hC1.cell (p := ⟨w.heap.size + 1, 4, none⟩) (by show w.heap.size + 1 < _; omega)).trans (hy0 4 _ rfl)
  have a5 := (hC1.cell (p := ⟨w.heap.size, 5, none⟩) (by show w.heap.size < _; omega)).trans (hx0 5 _ rfl)
  have b5 := (hC1.cell (p := ⟨w.heap.size + 1, 5, none⟩) (by show w.heap.size + 1 < _; omega)).trans (hy0 5 _ rfl)
  have a6 := (hC1.cell (p := ⟨w.heap.size, 6, none⟩) (by show w.heap.size < _; omega)).trans (hx0 6 _ rfl)
  have b6 := (hC1.cell (p := ⟨w.heap.size + 1, 6, none⟩) (by show w.heap.size + 1 < _; omega)).trans (hy0 6 _ rfl)
  have a7 := (hC1.cell (p := ⟨w.heap.size, 7, none⟩) (by show w.heap.size < _; omega)).trans (hx0 7 _ rfl)
  have b7 := (hC1.cell (p := ⟨w.heap.size + 1, 7, none⟩) (by show w.heap.size + 1 < _; omega)).trans (hy0 7 _ rfl)
  have a8 := (hC1.cell (p := ⟨w.heap.size, 8, none⟩) (by show w.heap.size < _; omega)).trans (hx0 8 _ rfl)
  have b8 := (hC1.cell (p := ⟨w.heap.size + 1, 8, none⟩) (by show w.heap.size + 1 < _; omega)).trans (hy0 8 _ rfl)
  have a9 := (hC1.cell (p := ⟨w.heap.size, 9, none⟩) (by show w.heap.size < _; omega)).trans (hx0 9 _ rfl)
  have b9 := (hC1.cell (p := ⟨w.heap.size + 1, 9, none⟩) (by show w.heap.size + 1 < _; omega)).trans (hy0 9 _ rfl)
  go_wp2_with fail
  refine (K_mk _ hB1).mono ?_
  rintro e w2 ⟨rfl, hb2⟩
  have hC2 : Below W.heap.size W w2 := hC1.trans (hb2.mono hC1.size)
  have hB2 : Below w.heap.size w w2 := hal.trans (hC2.mono (by omega))
  have a2 := (hC2.cell (p := ⟨w.heap.size, 2, none⟩) (by show w.heap.size < _; omega)).trans (hx0 2 _ rfl)
  have b2 := (hC2.cell (p := ⟨w.heap.size + 1, 2, none⟩) (by show w.heap.size + 1 < _; omega)).trans (hy0 2 _ rfl)
  have a3 := (hC2.cell (p := ⟨w.heap.size, 3, none⟩) (by show w.heap.size < _; omega)).trans (hx0 3 _ rfl)
  have b3 := (hC2.cell (p := ⟨w.heap.size + 1, 3, none⟩) (by show w.heap.size + 1 < _; omega)).trans (hy0 3 _ rfl)
  have a4 := (hC2.cell (p := ⟨w.heap.size, 4, none⟩) (by show w.heap.size < _; omega)).trans (hx0 4 _ rfl)
  have b4 := (hC2.cell (p := ⟨w.heap.size + 1, 4, none⟩) (by show w.heap.size + 1 < _; omega)).trans (hy0 4 _ rfl)
  have a5 := (hC2.cell (p := ⟨w.heap.size, 5, none⟩) (by show w.heap.size < _; omega)).trans (hx0 5 _ rfl)
  have b5 := (hC2.cell (p := ⟨w.heap.size + 1, 5, none⟩) (by show w.heap.size + 1 < _; omega)).trans (hy0 5 _ rfl)
  have a6 := (hC2.cell (p := ⟨w.heap.size, 6, none⟩) (by show w.heap.size < _; omega)).trans (hx0 6 _ rfl)
  have b6 := (hC2.cell (p := ⟨w.heap.size + 1, 6, none⟩) (by show w.heap.size + 1 < _; omega)).trans (hy0 6 _ rfl)
  have a7 := (hC2.cell (p := ⟨w.heap.size, 7, none⟩) (by show w.heap.size < _; omega)).trans (hx0 7 _ rfl)
  have b7 := (hC2.cell (p := ⟨w.heap.size + 1, 7, none⟩) (by show w.heap.size + 1 < _; omega)).trans (hy0 7 _ rfl)
  have a8 := (hC2.cell (p := ⟨w.heap.size, 8, none⟩) (by show w.heap.size < _; omega)).trans (hx0 8 _ rfl)
  have b8 := (hC2.cell (p := ⟨w.heap.size + 1, 8, none⟩) (by show w.heap.size + 1 < _; omega)).trans (hy0 8 _ rfl)
  have a9 := (hC2.cell (p := ⟨w.heap.size, 9, none⟩) (by show w.heap.size < _; omega)).trans (hx0 9 _ rfl)
  have b9 := (hC2.cell (p := ⟨w.heap.size + 1, 9, none⟩) (by show w.heap.size + 1 < _; omega)).trans (hy0 9 _ rfl)
  go_wp2_with fail
  refine (K_pd _ hB2).mono ?_
  rintro e w3 ⟨rfl, hb3⟩
  have hC3 : Below W.heap.size W w3 := hC2.trans (hb3.mono hC2.size)
  have hB3 : Below w.heap.size w w3 := hal.trans (hC3.mono (by omega))
  go_wp2
  go_ret
  exact ⟨ret_bool HO.out.symm, hB3⟩

set_option maxRecDepth 100000 in
set_option maxHeartbeats 4000000 in
theorem held2_any {x y : VV} {w : World} (hx : x.In w w.heap.size) (hy : y.In w w.heap.size) : Calls Tryd.prog 22 #[.agg #[.slice x.A x.commits.length x.c, .slice x.mA x.marks.length x.mc, .int .i64 x.working, .bool x.pend.on, .bool x.pend.restack, .int .i64 x.pend.source, .int .i64 x.pend.dest, .slice x.pend.sA x.pend.settled.length x.pend.sc, .int .i64 x.pend.commit, .slice x.pend.kA x.pend.clashes.length x.pend.kc, .int .i64 x.undos, .int .i64 x.redos], .agg #[.slice y.A y.commits.length y.c, .slice y.mA y.marks.length y.mc, .int .i64 y.working, .bool y.pend.on, .bool y.pend.restack, .int .i64 y.pend.source, .int .i64 y.pend.dest, .slice y.pend.sA y.pend.settled.length y.pend.sc, .int .i64 y.pend.commit, .slice y.pend.kA y.pend.clashes.length y.pend.kc, .int .i64 y.undos, .int .i64 y.redos]] w (BoolBelow (heldVV x y) w) := by
  have K_cm : ∀ v, Below w.heap.size w v → Calls Tryd.prog 41 #[.slice x.A x.commits.length x.c, .slice y.A y.commits.length y.c, .func (.func 42) #[] #[]] v (BoolBelow (lall2 eqEV x.commits y.commits) v) := fun v hv => equalfE_any eqEV hx.lc hy.lc (hx.to hv hv.size).row (hy.to hv hv.size).row rfl rfl fun a ha b hb u hu => seen2_any (((hx.to hv hv.size).each a ha).to hu hu.size) (((hy.to hv hv.size).each b hb).to hu hu.size)
  have K_mk : ∀ v, Below w.heap.size w v → Calls Tryd.prog 43 #[.slice x.mA x.marks.length x.mc, .slice y.mA y.marks.length y.mc] v (BoolBelow (decide (x.marks = y.marks)) v) := fun v hv => equalN_any hx.lm hy.lm (hx.to hv hv.size).marks (hy.to hv hv.size).marks rfl rfl
  have K_pd : ∀ v, Below w.heap.size w v → Calls Tryd.prog 44 #[.agg x.pend.vals, .agg y.pend.vals] v (BoolBelow (eqPV x.pend y.pend) v) := fun v hv => pend2_any (hx.to hv hv.size).pend (hy.to hv hv.size).pend
  clear hx hy
  obtain ⟨W, hW⟩ : ∃ u, u = (w.alloc (.cells #[.slice x.A x.commits.length x.c, .slice x.mA x.marks.length x.mc, .int .i64 x.working, .bool x.pend.on, .bool x.pend.restack, .int .i64 x.pend.source, .int .i64 x.pend.dest, .slice x.pend.sA x.pend.settled.length x.pend.sc, .int .i64 x.pend.commit, .slice x.pend.kA x.pend.clashes.length x.pend.kc, .int .i64 x.undos, .int .i64 x.redos] 52)).alloc (.cells #[.slice y.A y.commits.length y.c, .slice y.mA y.marks.length y.mc, .int .i64 y.working, .bool y.pend.on, .bool y.pend.restack, .int .i64 y.pend.source, .int .i64 y.pend.dest, .slice y.pend.sA y.pend.settled.length y.pend.sc, .int .i64 y.pend.commit, .slice y.pend.kA y.pend.clashes.length y.pend.kc, .int .i64 y.undos, .int .i64 y.redos] 52) := ⟨_, rfl⟩
  have hal : Below w.heap.size w W := by rw [hW]; exact ((Below.refl _ _).alloc (Nat.le_refl _) _).alloc (by simp) _
  have hWz : W.heap.size = w.heap.size + 2 := by rw [hW]; simp
  have hx0 : ∀ i u, [.slice x.A x.commits.length x.c, .slice x.mA x.marks.length x.mc, .int .i64 x.working, .bool x.pend.on, .bool x.pend.restack, .int .i64 x.pend.source, .int .i64 x.pend.dest, .slice x.pend.sA x.pend.settled.length x.pend.sc, .int .i64 x.pend.commit, .slice x.pend.kA x.pend.clashes.length x.pend.kc, .int .i64 x.undos, .int .i64 x.redos][i]? = some u → W.cell? ⟨w.heap.size, i, none⟩ = some u := fun i u hu => by rw [hW, World.cell?, heap_alloc_old _ _ (by simp), heap_alloc_new]; simpa using hu
  have hy0 : ∀ i u, [.slice y.A y.commits.length y.c, .slice y.mA y.marks.length y.mc, .int .i64 y.working, .bool y.pend.on, .bool y.pend.restack, .int .i64 y.pend.source, .int .i64 y.pend.dest, .slice y.pend.sA y.pend.settled.length y.pend.sc, .int .i64 y.pend.commit, .slice y.pend.kA y.pend.clashes.length y.pend.kc, .int .i64 y.undos, .int .i64 y.redos][i]? = some u → W.cell? ⟨w.heap.size + 1, i, none⟩ = some u := fun i u hu => by rw [hW, World.cell?, show w.heap.size + 1 = (w.alloc (.cells #[.slice x.A x.commits.length x.c, .slice x.mA x.marks.length x.mc, .int .i64 x.working, .bool x.pend.on, .bool x.pend.restack, .int .i64 x.pend.source, .int .i64 x.pend.dest, .slice x.pend.sA x.pend.settled.length x.pend.sc, .int .i64 x.pend.commit, .slice x.pend.kA x.pend.clashes.length x.pend.kc, .int .i64 x.undos, .int .i64 x.redos] 52)).heap.size by simp, heap_alloc_new]; simpa using hu
  cases d_cm : lall2 eqEV x.commits y.commits
  case false =>
    have D_cm := Lib.hid d_cm
    clear d_cm
    have HO := Lib.hid (show heldVV x y = false by simp [heldVV, D_cm.out])
    clear K_mk
    clear K_pd
    rw [D_cm.out] at K_cm
    go_enter Tryd.func22, Tryd.ntmps22
    go_wp2_with fail
    rw [← hW]
    clear hW
    refine (K_cm _ hal).mono ?_
    rintro e w1 ⟨rfl, hb1⟩
    have hC1 : Below W.heap.size W w1 := hb1
    have hB1 : Below w.heap.size w w1 := hal.trans (hC1.mono (by omega))
    have a1 := (hC1.cell (p := ⟨w.heap.size, 1, none⟩) (by show w.heap.size < _; omega)).trans (hx0 1 _ rfl)
    have b1 := (hC1.cell (p := ⟨w.heap.size + 1, 1, none⟩) (by show w.heap.size + 1 < _; omega)).trans (hy0 1 _ rfl)
    go_wp2
    go_ret
    exact ⟨ret_bool HO.out.symm, hB1⟩
  have D_cm := Lib.hid d_cm
  clear d_cm
  cases d_mk : decide (x.marks = y.marks)
  case false =>
    have D_mk := Lib.hid d_mk
    clear d_mk
    have HO := Lib.hid (show heldVV x y = false by simp [heldVV, D_cm.out, D_mk.out])
    clear K_pd
    rw [D_cm.out] at K_cm
    rw [D_mk.out] at K_mk
    go_enter Tryd.func22, Tryd.ntmps22
    go_wp2_with fail
    rw [← hW]
    clear hW
    refine (K_cm _ hal).mono ?_
    rintro e w1 ⟨rfl, hb1⟩
    have hC1 : Below W.heap.size W w1 := hb1
    have hB1 : Below w.heap.size w w1 := hal.trans (hC1.mono (by omega))
    have a1 := (hC1.cell (p := ⟨w.heap.size, 1, none⟩) (by show w.heap.size < _; omega)).trans (hx0 1 _ rfl)
    have b1 := (hC1.cell (p := ⟨w.heap.size + 1, 1, none⟩) (by show w.heap.size + 1 < _; omega)).trans (hy0 1 _ rfl)
    have a2 := (hC1.cell (p := ⟨w.heap.size, 2, none⟩) (by show w.heap.size < _; omega)).trans (hx0 2 _ rfl)
    have b2 := (hC1.cell (p := ⟨w.heap.size + 1, 2, none⟩) (by show w.heap.size + 1 < _; omega)).trans (hy0 2 _ rfl)
    go_wp2_with fail
    refine (K_mk _ hB1).mono ?_
    rintro e w2 ⟨rfl, hb2⟩
    have hC2 : Below W.heap.size W w2 := hC1.trans (hb2.mono hC1.size)
    have hB2 : Below w.heap.size w w2 := hal.trans (hC2.mono (by omega))
    have a2 := (hC2.cell (p := ⟨w.heap.size, 2, none⟩) (by show w.heap.size < _; omega)).trans (hx0 2 _ rfl)
    have b2 := (hC2.cell (p := ⟨w.heap.size + 1, 2, none⟩) (by show w.heap.size + 1 < _; omega)).trans (hy0 2 _ rfl)
    go_wp2
    go_ret
    exact ⟨ret_bool HO.out.symm, hB2⟩
  have D_mk := Lib.hid d_mk
  clear d_mk
  by_cases h_working : x.working = y.working
  case neg =>
    have n_h_working : (x.working == y.working) = false := beq_eq_false_iff_ne.2 h_working
    have Hh_working := Lib.hid h_working
    clear h_working
    have HO := Lib.hid (show heldVV x y = false by simp [heldVV, D_cm.out, D_mk.out, Hh_working.out])
    clear K_pd
    rw [D_cm.out] at K_cm
    rw [D_mk.out] at K_mk
    go_enter Tryd.func22, Tryd.ntmps22
    go_wp2_with fail
    rw [← hW]
    clear hW
    refine (K_cm _ hal).mono ?_
    rintro e w1 ⟨rfl, hb1⟩
    have hC1 : Below W.heap.size W w1 := hb1
    have hB1 : Below w.heap.size w w1 := hal.trans (hC1.mono (by omega))
    have a1 := (hC1.cell (p := ⟨w.heap.size, 1, none⟩) (by show w.heap.size < _; omega)).trans (hx0 1 _ rfl)
    have b1 := (hC1.cell (p := ⟨w.heap.size + 1, 1, none⟩) (by show w.heap.size + 1 < _; omega)).trans (hy0 1 _ rfl)
    have a2 := (hC1.cell (p := ⟨w.heap.size, 2, none⟩) (by show w.heap.size < _; omega)).trans (hx0 2 _ rfl)
    have b2 := (hC1.cell (p := ⟨w.heap.size + 1, 2, none⟩) (by show w.heap.size + 1 < _; omega)).trans (hy0 2 _ rfl)
    go_wp2_with fail
    refine (K_mk _ hB1).mono ?_
    rintro e w2 ⟨rfl, hb2⟩
    have hC2 : Below W.heap.size W w2 := hC1.trans (hb2.mono hC1.size)
    have hB2 : Below w.heap.size w w2 := hal.trans (hC2.mono (by omega))
    have a2 := (hC2.cell (p := ⟨w.heap.size, 2, none⟩) (by show w.heap.size < _; omega)).trans (hx0 2 _ rfl)
    have b2 := (hC2.cell (p := ⟨w.heap.size + 1, 2, none⟩) (by show w.heap.size + 1 < _; omega)).trans (hy0 2 _ rfl)
    go_wp2
    go_ret
    exact ⟨ret_bool HO.out.symm, hB2⟩
  have e_h_working : (x.working == y.working) = true := by rw [h_working]; exact beq_self_eq_true _
  have Hh_working := Lib.hid h_working
  clear h_working
  cases d_pd : eqPV x.pend y.pend
  case false =>
    have D_pd := Lib.hid d_pd
    clear d_pd
    have HO := Lib.hid (show heldVV x y = false by simp [heldVV, D_cm.out, D_mk.out, Hh_working.out, D_pd.out])
    rw [D_cm.out] at K_cm
    rw [D_mk.out] at K_mk
    rw [D_pd.out] at K_pd
    go_enter Tryd.func22, Tryd.ntmps22
    go_wp2_with fail
    rw [← hW]
    clear hW
    refine (K_cm _ hal).mono ?_
    rintro e w1 ⟨rfl, hb1⟩
    have hC1 : Below W.heap.size W w1 := hb1
    have hB1 : Below w.heap.size w w1 := hal.trans (hC1.mono (by omega))
    have a1 := (hC1.cell (p := ⟨w.heap.size, 1, none⟩) (by show w.heap.size < _; omega)).trans (hx0 1 _ rfl)
    have b1 := (hC1.cell (p := ⟨w.heap.size + 1, 1, none⟩) (by show w.heap.size + 1 < _; omega)).trans (hy0 1 _ rfl)
    have a2 := (hC1.cell (p := ⟨w.heap.size, 2, none⟩) (by show w.heap.size < _; omega)).trans (hx0 2 _ rfl)
    have b2 := (hC1.cell (p := ⟨w.heap.size + 1, 2, none⟩) (by show w.heap.size + 1 < _; omega)).trans (hy0 2 _ rfl)
    have a3 := (hC1.cell (p := ⟨w.heap.size, 3, none⟩) (by show w.heap.size < _; omega)).trans (hx0 3 _ rfl)
    have b3 := (hC1.cell (p := ⟨w.heap.size + 1, 3, none⟩) (by show w.heap.size + 1 < _; omega)).trans (hy0 3 _ rfl)
    have a4 := (hC1.cell (p := ⟨w.heap.size, 4, none⟩) (by show w.heap.size < _; omega)).trans (hx0 4 _ rfl)
    have b4 := (hC1.cell (p := ⟨w.heap.size + 1, 4, none⟩) (by show w.heap.size + 1 < _; omega)).trans (hy0 4 _ rfl)
    have a5 := (hC1.cell (p := ⟨w.heap.size, 5, none⟩) (by show w.heap.size < _; omega)).trans (hx0 5 _ rfl)
    have b5 := (hC1.cell (p := ⟨w.heap.size + 1, 5, none⟩) (by show w.heap.size + 1 < _; omega)).trans (hy0 5 _ rfl)
    have a6 := (hC1.cell (p := ⟨w.heap.size, 6, none⟩) (by show w.heap.size < _; omega)).trans (hx0 6 _ rfl)
    have b6 := (hC1.cell (p := ⟨w.heap.size + 1, 6, none⟩) (by show w.heap.size + 1 < _; omega)).trans (hy0 6 _ rfl)
    have a7 := (hC1.cell (p := ⟨w.heap.size, 7, none⟩) (by show w.heap.size < _; omega)).trans (hx0 7 _ rfl)
    have b7 := (hC1.cell (p := ⟨w.heap.size + 1, 7, none⟩) (by show w.heap.size + 1 < _; omega)).trans (hy0 7 _ rfl)
    have a8 := (hC1.cell (p := ⟨w.heap.size, 8, none⟩) (by show w.heap.size < _; omega)).trans (hx0 8 _ rfl)
    have b8 := (hC1.cell (p := ⟨w.heap.size + 1, 8, none⟩) (by show w.heap.size + 1 < _; omega)).trans (hy0 8 _ rfl)
    have a9 := (hC1.cell (p := ⟨w.heap.size, 9, none⟩) (by show w.heap.size < _; omega)).trans (hx0 9 _ rfl)
    have b9 := (hC1.cell (p := ⟨w.heap.size + 1, 9, none⟩) (by show w.heap.size + 1 < _; omega)).trans (hy0 9 _ rfl)
    go_wp2_with fail
    refine (K_mk _ hB1).mono ?_
    rintro e w2 ⟨rfl, hb2⟩
    have hC2 : Below W.heap.size W w2 := hC1.trans (hb2.mono hC1.size)
    have hB2 : Below w.heap.size w w2 := hal.trans (hC2.mono (by omega))
    have a2 := (hC2.cell (p := ⟨w.heap.size, 2, none⟩) (by show w.heap.size < _; omega)).trans (hx0 2 _ rfl)
    have b2 := (hC2.cell (p := ⟨w.heap.size + 1, 2, none⟩) (by show w.heap.size + 1 < _; omega)).trans (hy0 2 _ rfl)
    have a3 := (hC2.cell (p := ⟨w.heap.size, 3, none⟩) (by show w.heap.size < _; omega)).trans (hx0 3 _ rfl)
    have b3 := (hC2.cell (p := ⟨w.heap.size + 1, 3, none⟩) (by show w.heap.size + 1 < _; omega)).trans (hy0 3 _ rfl)
    have a4 := (hC2.cell (p := ⟨w.heap.size, 4, none⟩) (by show w.heap.size < _; omega)).trans (hx0 4 _ rfl)
    have b4 := (hC2.cell (p := ⟨w.heap.size + 1, 4, none⟩) (by show w.heap.size + 1 < _; omega)).trans (hy0 4 _ rfl)
    have a5 := (hC2.cell (p := ⟨w.heap.size, 5, none⟩) (by show w.heap.size < _; omega)).trans (hx0 5 _ rfl)
    have b5 := (hC2.cell (p := ⟨w.heap.size + 1, 5, none⟩) (by show w.heap.size + 1 < _; omega)).trans (hy0 5 _ rfl)
    have a6 := (hC2.cell (p := ⟨w.heap.size, 6, none⟩) (by show w.heap.size < _; omega)).trans (hx0 6 _ rfl)
    have b6 := (hC2.cell (p := ⟨w.heap.size + 1, 6, none⟩) (by show w.heap.size + 1 < _; omega)).trans (hy0 6 _ rfl)
    have a7 := (hC2.cell (p := ⟨w.heap.size, 7, none⟩) (by show w.heap.size < _; omega)).trans (hx0 7 _ rfl)
    have b7 := (hC2.cell (p := ⟨w.heap.size + 1, 7, none⟩) (by show w.heap.size + 1 < _; omega)).trans (hy0 7 _ rfl)
    have a8 := (hC2.cell (p := ⟨w.heap.size, 8, none⟩) (by show w.heap.size < _; omega)).trans (hx0 8 _ rfl)
    have b8 := (hC2.cell (p := ⟨w.heap.size + 1, 8, none⟩) (by show w.heap.size + 1 < _; omega)).trans (hy0 8 _ rfl)
    have a9 := (hC2.cell (p := ⟨w.heap.size, 9, none⟩) (by show w.heap.size < _; omega)).trans (hx0 9 _ rfl)
    have b9 := (hC2.cell (p := ⟨w.heap.size + 1, 9, none⟩) (by show w.heap.size + 1 < _; omega)).trans (hy0 9 _ rfl)
    go_wp2_with fail
    refine (K_pd _ hB2).mono ?_
    rintro e w3 ⟨rfl, hb3⟩
    have hC3 : Below W.heap.size W w3 := hC2.trans (hb3.mono hC2.size)
    have hB3 : Below w.heap.size w w3 := hal.trans (hC3.mono (by omega))
    go_wp2
    go_ret
    exact ⟨ret_bool HO.out.symm, hB3⟩
  have D_pd := Lib.hid d_pd
  clear d_pd
  have HO := Lib.hid (show heldVV x y = true by simp [heldVV, D_cm.out, D_mk.out, Hh_working.out, D_pd.out])
  rw [D_cm.out] at K_cm
  rw [D_mk.out] at K_mk
  rw [D_pd.out] at K_pd
  go_enter Tryd.func22, Tryd.ntmps22
  go_wp2_with fail
  rw [← hW]
  clear hW
  refine (K_cm _ hal).mono ?_
  rintro e w1 ⟨rfl, hb1⟩
  have hC1 : Below W.heap.size W w1 := hb1
  have hB1 : Below w.heap.size w w1 := hal.trans (hC1.mono (by omega))
  have a1 := (hC1.cell (p := ⟨w.heap.size, 1, none⟩) (by show w.heap.size < _; omega)).trans (hx0 1 _ rfl)
  have b1 := (hC1.cell (p := ⟨w.heap.size + 1, 1, none⟩) (by show w.heap.size + 1 < _; omega)).trans (hy0 1 _ rfl)
  have a2 := (hC1.cell (p := ⟨w.heap.size, 2, none⟩) (by show w.heap.size < _; omega)).trans (hx0 2 _ rfl)
  have b2 := (hC1.cell (p := ⟨w.heap.size + 1, 2, none⟩) (by show w.heap.size + 1 < _; omega)).trans (hy0 2 _ rfl)
  have a3 := (hC1.cell (p := ⟨w.heap.size, 3, none⟩) (by show w.heap.size < _; omega)).trans (hx0 3 _ rfl)
  have b3 := (hC1.cell (p := ⟨w.heap.size + 1, 3, none⟩) (by show w.heap.size + 1 < _; omega)).trans (hy0 3 _ rfl)
  have a4 := (hC1.cell (p := ⟨w.heap.size, 4, none⟩) (by show w.heap.size < _; omega)).trans (hx0 4 _ rfl)
  have b4 := (hC1.cell (p := ⟨w.heap.size + 1, 4, none⟩) (by show w.heap.size + 1 < _; omega)).trans (hy0 4 _ rfl)
  have a5 := (hC1.cell (p := ⟨w.heap.size, 5, none⟩) (by show w.heap.size < _; omega)).trans (hx0 5 _ rfl)
  have b5 := (hC1.cell (p := ⟨w.heap.size + 1, 5, none⟩) (by show w.heap.size + 1 < _; omega)).trans (hy0 5 _ rfl)
  have a6 := (hC1.cell (p := ⟨w.heap.size, 6, none⟩) (by show w.heap.size < _; omega)).trans (hx0 6 _ rfl)
  have b6 := (hC1.cell (p := ⟨w.heap.size + 1, 6, none⟩) (by show w.heap.size + 1 < _; omega)).trans (hy0 6 _ rfl)
  have a7 := (hC1.cell (p := ⟨w.heap.size, 7, none⟩) (by show w.heap.size < _; omega)).trans (hx0 7 _ rfl)
  have b7 := (hC1.cell (p := ⟨w.heap.size + 1, 7, none⟩) (by show w.heap.size + 1 < _; omega)).trans (hy0 7 _ rfl)
  have a8 := (hC1.cell (p := ⟨w.heap.size, 8, none⟩) (by show w.heap.size < _; omega)).trans (hx0 8 _ rfl)
  have b8 := (hC1.cell (p := ⟨w.heap.size + 1, 8, none⟩) (by show w.heap.size + 1 < _; omega)).trans (hy0 8 _ rfl)
  have a9 := (hC1.cell (p := ⟨w.heap.size, 9, none⟩) (by show w.heap.size < _; omega)).trans (hx0 9 _ rfl)
  have b9 := (hC1.cell (p := ⟨w.heap.size + 1, 9, none⟩) (by show w.heap.size + 1 < _; omega)).trans (hy0 9 _ rfl)
  go_wp2_with fail
  refine (K_mk _ hB1).mono ?_
  rintro e w2 ⟨rfl, hb2⟩
  have hC2 : Below W.heap.size W w2 := hC1.trans (hb2.mono hC1.size)
  have hB2 : Below w.heap.size w w2 := hal.trans (hC2.mono (by omega))
  have a2 := (hC2.cell (p := ⟨w.heap.size, 2, none⟩) (by show w.heap.size < _; omega)).trans (hx0 2 _ rfl)
  have b2 := (hC2.cell (p := ⟨w.heap.size + 1, 2, none⟩) (by show w.heap.size + 1 < _; omega)).trans (hy0 2 _ rfl)
  have a3 := (hC2.cell (p := ⟨w.heap.size, 3, none⟩) (by show w.heap.size < _; omega)).trans (hx0 3 _ rfl)
  have b3 := (hC2.cell (p := ⟨w.heap.size + 1, 3, none⟩) (by show w.heap.size + 1 < _; omega)).trans (hy0 3 _ rfl)
  have a4 := (hC2.cell (p := ⟨w.heap.size, 4, none⟩) (by show w.heap.size < _; omega)).trans (hx0 4 _ rfl)
  have b4 := (hC2.cell (p := ⟨w.heap.size + 1, 4, none⟩) (by show w.heap.size + 1 < _; omega)).trans (hy0 4 _ rfl)
  have a5 := (hC2.cell (p := ⟨w.heap.size, 5, none⟩) (by show w.heap.size < _; omega)).trans (hx0 5 _ rfl)
  have b5 := (hC2.cell (p := ⟨w.heap.size + 1, 5, none⟩) (by show w.heap.size + 1 < _; omega)).trans (hy0 5 _ rfl)
  have a6 := (hC2.cell (p := ⟨w.heap.size, 6, none⟩) (by show w.heap.size < _; omega)).trans (hx0 6 _ rfl)
  have b6 := (hC2.cell (p := ⟨w.heap.size + 1, 6, none⟩) (by show w.heap.size + 1 < _; omega)).trans (hy0 6 _ rfl)
  have a7 := (hC2.cell (p := ⟨w.heap.size, 7, none⟩) (by show w.heap.size < _; omega)).trans (hx0 7 _ rfl)
  have b7 := (hC2.cell (p := ⟨w.heap.size + 1, 7, none⟩) (by show w.heap.size + 1 < _; omega)).trans (hy0 7 _ rfl)
  have a8 := (hC2.cell (p := ⟨w.heap.size, 8, none⟩) (by show w.heap.size < _; omega)).trans (hx0 8 _ rfl)
  have b8 := (hC2.cell (p := ⟨w.heap.size + 1, 8, none⟩) (by show w.heap.size + 1 < _; omega)).trans (hy0 8 _ rfl)
  have a9 := (hC2.cell (p := ⟨w.heap.size, 9, none⟩) (by show w.heap.size < _; omega)).trans (hx0 9 _ rfl)
  have b9 := (hC2.cell (p := ⟨w.heap.size + 1, 9, none⟩) (by show w.heap.size + 1 < _; omega)).trans (hy0 9 _ rfl)
  go_wp2_with fail
  refine (K_pd _ hB2).mono ?_
  rintro e w3 ⟨rfl, hb3⟩
  have hC3 : Below W.heap.size W w3 := hC2.trans (hb3.mono hC2.size)
  have hB3 : Below w.heap.size w w3 := hal.trans (hC3.mono (by omega))
  go_wp2
  go_ret
  exact ⟨ret_bool HO.out.symm, hB3⟩

set_option maxRecDepth 100000 in
set_option maxHeartbeats 4000000 in
theorem view1_any {x y : VV} {w : World} (hx : x.In w w.heap.size) (hy : y.In w w.heap.size) : Calls Tryd.prog 21 #[.agg #[.slice x.A x.commits.length x.c, .slice x.mA x.marks.length x.mc, .int .i64 x.working, .bool x.pend.on, .bool x.pend.restack, .int .i64 x.pend.source, .int .i64 x.pend.dest, .slice x.pend.sA x.pend.settled.length x.pend.sc, .int .i64 x.pend.commit, .slice x.pend.kA x.pend.clashes.length x.pend.kc, .int .i64 x.undos, .int .i64 x.redos], .agg #[.slice y.A y.commits.length y.c, .slice y.mA y.marks.length y.mc, .int .i64 y.working, .bool y.pend.on, .bool y.pend.restack, .int .i64 y.pend.source, .int .i64 y.pend.dest, .slice y.pend.sA y.pend.settled.length y.pend.sc, .int .i64 y.pend.commit, .slice y.pend.kA y.pend.clashes.length y.pend.kc, .int .i64 y.undos, .int .i64 y.redos]] w (BoolBelow (eqVV x y) w) := by
  have K_hd : ∀ v, Below w.heap.size w v → Calls Tryd.prog 23 #[.agg x.vals, .agg y.vals] v (BoolBelow (heldVV x y) v) := fun v hv => held1_any (hx.to hv hv.size) (hy.to hv hv.size)
  clear hx hy
  obtain ⟨W, hW⟩ : ∃ u, u = (w.alloc (.cells #[.slice x.A x.commits.length x.c, .slice x.mA x.marks.length x.mc, .int .i64 x.working, .bool x.pend.on, .bool x.pend.restack, .int .i64 x.pend.source, .int .i64 x.pend.dest, .slice x.pend.sA x.pend.settled.length x.pend.sc, .int .i64 x.pend.commit, .slice x.pend.kA x.pend.clashes.length x.pend.kc, .int .i64 x.undos, .int .i64 x.redos] 52)).alloc (.cells #[.slice y.A y.commits.length y.c, .slice y.mA y.marks.length y.mc, .int .i64 y.working, .bool y.pend.on, .bool y.pend.restack, .int .i64 y.pend.source, .int .i64 y.pend.dest, .slice y.pend.sA y.pend.settled.length y.pend.sc, .int .i64 y.pend.commit, .slice y.pend.kA y.pend.clashes.length y.pend.kc, .int .i64 y.undos, .int .i64 y.redos] 52) := ⟨_, rfl⟩
  have hal : Below w.heap.size w W := by rw [hW]; exact ((Below.refl _ _).alloc (Nat.le_refl _) _).alloc (by simp) _
  have hWz : W.heap.size = w.heap.size + 2 := by rw [hW]; simp
  have hx0 : ∀ i u, [.slice x.A x.commits.length x.c, .slice x.mA x.marks.length x.mc, .int .i64 x.working, .bool x.pend.on, .bool x.pend.restack, .int .i64 x.pend.source, .int .i64 x.pend.dest, .slice x.pend.sA x.pend.settled.length x.pend.sc, .int .i64 x.pend.commit, .slice x.pend.kA x.pend.clashes.length x.pend.kc, .int .i64 x.undos, .int .i64 x.redos][i]? = some u → W.cell? ⟨w.heap.size, i, none⟩ = some u := fun i u hu => by rw [hW, World.cell?, heap_alloc_old _ _ (by simp), heap_alloc_new]; simpa using hu
  have hy0 : ∀ i u, [.slice y.A y.commits.length y.c, .slice y.mA y.marks.length y.mc, .int .i64 y.working, .bool y.pend.on, .bool y.pend.restack, .int .i64 y.pend.source, .int .i64 y.pend.dest, .slice y.pend.sA y.pend.settled.length y.pend.sc, .int .i64 y.pend.commit, .slice y.pend.kA y.pend.clashes.length y.pend.kc, .int .i64 y.undos, .int .i64 y.redos][i]? = some u → W.cell? ⟨w.heap.size + 1, i, none⟩ = some u := fun i u hu => by rw [hW, World.cell?, show w.heap.size + 1 = (w.alloc (.cells #[.slice x.A x.commits.length x.c, .slice x.mA x.marks.length x.mc, .int .i64 x.working, .bool x.pend.on, .bool x.pend.restack, .int .i64 x.pend.source, .int .i64 x.pend.dest, .slice x.pend.sA x.pend.settled.length x.pend.sc, .int .i64 x.pend.commit, .slice x.pend.kA x.pend.clashes.length x.pend.kc, .int .i64 x.undos, .int .i64 x.redos] 52)).heap.size by simp, heap_alloc_new]; simpa using hu
  cases d_hd : heldVV x y
  case false =>
    have D_hd := Lib.hid d_hd
    clear d_hd
    have HO := Lib.hid (show eqVV x y = false by simp [eqVV, D_hd.out])
    rw [D_hd.out] at K_hd
    go_enter Tryd.func21, Tryd.ntmps21
    go_wp2_with fail
    rw [← hW]
    clear hW
    refine (K_hd _ hal).mono ?_
    rintro e w1 ⟨rfl, hb1⟩
    have hC1 : Below W.heap.size W w1 := hb1
    have hB1 : Below w.heap.size w w1 := hal.trans (hC1.mono (by omega))
    have a10 := (hC1.cell (p := ⟨w.heap.size, 10, none⟩) (by show w.heap.size < _; omega)).trans (hx0 10 _ rfl)
    have b10 := (hC1.cell (p := ⟨w.heap.size + 1, 10, none⟩) (by show w.heap.size + 1 < _; omega)).trans (hy0 10 _ rfl)
    go_wp2
    go_ret
    exact ⟨ret_bool HO.out.symm, hB1⟩
  have D_hd := Lib.hid d_hd
  clear d_hd
  by_cases h_undos : x.undos = y.undos
  case neg =>
    have n_h_undos : (x.undos == y.undos) = false := beq_eq_false_iff_ne.2 h_undos
    have Hh_undos := Lib.hid h_undos
    clear h_undos
    have HO := Lib.hid (show eqVV x y = false by simp [eqVV, D_hd.out, Hh_undos.out])
    rw [D_hd.out] at K_hd
    go_enter Tryd.func21, Tryd.ntmps21
    go_wp2_with fail
    rw [← hW]
    clear hW
    refine (K_hd _ hal).mono ?_
    rintro e w1 ⟨rfl, hb1⟩
    have hC1 : Below W.heap.size W w1 := hb1
    have hB1 : Below w.heap.size w w1 := hal.trans (hC1.mono (by omega))
    have a10 := (hC1.cell (p := ⟨w.heap.size, 10, none⟩) (by show w.heap.size < _; omega)).trans (hx0 10 _ rfl)
    have b10 := (hC1.cell (p := ⟨w.heap.size + 1, 10, none⟩) (by show w.heap.size + 1 < _; omega)).trans (hy0 10 _ rfl)
    go_wp2
    go_ret
    exact ⟨ret_bool HO.out.symm, hB1⟩
  have e_h_undos : (x.undos == y.undos) = true := by rw [h_undos]; exact beq_self_eq_true _
  have Hh_undos := Lib.hid h_undos
  clear h_undos
  by_cases h_redos : x.redos = y.redos
  case neg =>
    have n_h_redos : (x.redos == y.redos) = false := beq_eq_false_iff_ne.2 h_redos
    have Hh_redos := Lib.hid h_redos
    clear h_redos
    have HO := Lib.hid (show eqVV x y = false by simp [eqVV, D_hd.out, Hh_undos.out, Hh_redos.out])
    rw [D_hd.out] at K_hd
    go_enter Tryd.func21, Tryd.ntmps21
    go_wp2_with fail
    rw [← hW]
    clear hW
    refine (K_hd _ hal).mono ?_
    rintro e w1 ⟨rfl, hb1⟩
    have hC1 : Below W.heap.size W w1 := hb1
    have hB1 : Below w.heap.size w w1 := hal.trans (hC1.mono (by omega))
    have a10 := (hC1.cell (p := ⟨w.heap.size, 10, none⟩) (by show w.heap.size < _; omega)).trans (hx0 10 _ rfl)
    have b10 := (hC1.cell (p := ⟨w.heap.size + 1, 10, none⟩) (by show w.heap.size + 1 < _; omega)).trans (hy0 10 _ rfl)
    have a11 := (hC1.cell (p := ⟨w.heap.size, 11, none⟩) (by show w.heap.size < _; omega)).trans (hx0 11 _ rfl)
    have b11 := (hC1.cell (p := ⟨w.heap.size + 1, 11, none⟩) (by show w.heap.size + 1 < _; omega)).trans (hy0 11 _ rfl)
    go_wp2
    go_ret
    exact ⟨ret_bool HO.out.symm, hB1⟩
  have e_h_redos : (x.redos == y.redos) = true := by rw [h_redos]; exact beq_self_eq_true _
  have Hh_redos := Lib.hid h_redos
  clear h_redos
  have HO := Lib.hid (show eqVV x y = true by simp [eqVV, D_hd.out, Hh_undos.out, Hh_redos.out])
  rw [D_hd.out] at K_hd
  go_enter Tryd.func21, Tryd.ntmps21
  go_wp2_with fail
  rw [← hW]
  clear hW
  refine (K_hd _ hal).mono ?_
  rintro e w1 ⟨rfl, hb1⟩
  have hC1 : Below W.heap.size W w1 := hb1
  have hB1 : Below w.heap.size w w1 := hal.trans (hC1.mono (by omega))
  have a10 := (hC1.cell (p := ⟨w.heap.size, 10, none⟩) (by show w.heap.size < _; omega)).trans (hx0 10 _ rfl)
  have b10 := (hC1.cell (p := ⟨w.heap.size + 1, 10, none⟩) (by show w.heap.size + 1 < _; omega)).trans (hy0 10 _ rfl)
  have a11 := (hC1.cell (p := ⟨w.heap.size, 11, none⟩) (by show w.heap.size < _; omega)).trans (hx0 11 _ rfl)
  have b11 := (hC1.cell (p := ⟨w.heap.size + 1, 11, none⟩) (by show w.heap.size + 1 < _; omega)).trans (hy0 11 _ rfl)
  go_wp2
  go_ret
  exact ⟨ret_bool HO.out.symm, hB1⟩

set_option maxRecDepth 100000 in
set_option maxHeartbeats 4000000 in
theorem view2_any {x y : VV} {w : World} (hx : x.In w w.heap.size) (hy : y.In w w.heap.size) : Calls Tryd.prog 20 #[.agg #[.slice x.A x.commits.length x.c, .slice x.mA x.marks.length x.mc, .int .i64 x.working, .bool x.pend.on, .bool x.pend.restack, .int .i64 x.pend.source, .int .i64 x.pend.dest, .slice x.pend.sA x.pend.settled.length x.pend.sc, .int .i64 x.pend.commit, .slice x.pend.kA x.pend.clashes.length x.pend.kc, .int .i64 x.undos, .int .i64 x.redos], .agg #[.slice y.A y.commits.length y.c, .slice y.mA y.marks.length y.mc, .int .i64 y.working, .bool y.pend.on, .bool y.pend.restack, .int .i64 y.pend.source, .int .i64 y.pend.dest, .slice y.pend.sA y.pend.settled.length y.pend.sc, .int .i64 y.pend.commit, .slice y.pend.kA y.pend.clashes.length y.pend.kc, .int .i64 y.undos, .int .i64 y.redos]] w (BoolBelow (eqVV x y) w) := by
  have K_hd : ∀ v, Below w.heap.size w v → Calls Tryd.prog 22 #[.agg x.vals, .agg y.vals] v (BoolBelow (heldVV x y) v) := fun v hv => held2_any (hx.to hv hv.size) (hy.to hv hv.size)
  clear hx hy
  obtain ⟨W, hW⟩ : ∃ u, u = (w.alloc (.cells #[.slice x.A x.commits.length x.c, .slice x.mA x.marks.length x.mc, .int .i64 x.working, .bool x.pend.on, .bool x.pend.restack, .int .i64 x.pend.source, .int .i64 x.pend.dest, .slice x.pend.sA x.pend.settled.length x.pend.sc, .int .i64 x.pend.commit, .slice x.pend.kA x.pend.clashes.length x.pend.kc, .int .i64 x.undos, .int .i64 x.redos] 52)).alloc (.cells #[.slice y.A y.commits.length y.c, .slice y.mA y.marks.length y.mc, .int .i64 y.working, .bool y.pend.on, .bool y.pend.restack, .int .i64 y.pend.source, .int .i64 y.pend.dest, .slice y.pend.sA y.pend.settled.length y.pend.sc, .int .i64 y.pend.commit, .slice y.pend.kA y.pend.clashes.length y.pend.kc, .int .i64 y.undos, .int .i64 y.redos] 52) := ⟨_, rfl⟩
  have hal : Below w.heap.size w W := by rw [hW]; exact ((Below.refl _ _).alloc (Nat.le_refl _) _).alloc (by simp) _
  have hWz : W.heap.size = w.heap.size + 2 := by rw [hW]; simp
  have hx0 : ∀ i u, [.slice x.A x.commits.length x.c, .slice x.mA x.marks.length x.mc, .int .i64 x.working, .bool x.pend.on, .bool x.pend.restack, .int .i64 x.pend.source, .int .i64 x.pend.dest, .slice x.pend.sA x.pend.settled.length x.pend.sc, .int .i64 x.pend.commit, .slice x.pend.kA x.pend.clashes.length x.pend.kc, .int .i64 x.undos, .int .i64 x.redos][i]? = some u → W.cell? ⟨w.heap.size, i, none⟩ = some u := fun i u hu => by rw [hW, World.cell?, heap_alloc_old _ _ (by simp), heap_alloc_new]; simpa using hu
  have hy0 : ∀ i u, [.slice y.A y.commits.length y.c, .slice y.mA y.marks.length y.mc, .int .i64 y.working, .bool y.pend.on, .bool y.pend.restack, .int .i64 y.pend.source, .int .i64 y.pend.dest, .slice y.pend.sA y.pend.settled.length y.pend.sc, .int .i64 y.pend.commit, .slice y.pend.kA y.pend.clashes.length y.pend.kc, .int .i64 y.undos, .int .i64 y.redos][i]? = some u → W.cell? ⟨w.heap.size + 1, i, none⟩ = some u := fun i u hu => by rw [hW, World.cell?, show w.heap.size + 1 = (w.alloc (.cells #[.slice x.A x.commits.length x.c, .slice x.mA x.marks.length x.mc, .int .i64 x.working, .bool x.pend.on, .bool x.pend.restack, .int .i64 x.pend.source, .int .i64 x.pend.dest, .slice x.pend.sA x.pend.settled.length x.pend.sc, .int .i64 x.pend.commit, .slice x.pend.kA x.pend.clashes.length x.pend.kc, .int .i64 x.undos, .int .i64 x.redos] 52)).heap.size by simp, heap_alloc_new]; simpa using hu
  cases d_hd : heldVV x y
  case false =>
    have D_hd := Lib.hid d_hd
    clear d_hd
    have HO := Lib.hid (show eqVV x y = false by simp [eqVV, D_hd.out])
    rw [D_hd.out] at K_hd
    go_enter Tryd.func20, Tryd.ntmps20
    go_wp2_with fail
    rw [← hW]
    clear hW
    refine (K_hd _ hal).mono ?_
    rintro e w1 ⟨rfl, hb1⟩
    have hC1 : Below W.heap.size W w1 := hb1
    have hB1 : Below w.heap.size w w1 := hal.trans (hC1.mono (by omega))
    have a10 := (hC1.cell (p := ⟨w.heap.size, 10, none⟩) (by show w.heap.size < _; omega)).trans (hx0 10 _ rfl)
    have b10 := (hC1.cell (p := ⟨w.heap.size + 1, 10, none⟩) (by show w.heap.size + 1 < _; omega)).trans (hy0 10 _ rfl)
    go_wp2
    go_ret
    exact ⟨ret_bool HO.out.symm, hB1⟩
  have D_hd := Lib.hid d_hd
  clear d_hd
  by_cases h_undos : x.undos = y.undos
  case neg =>
    have n_h_undos : (x.undos == y.undos) = false := beq_eq_false_iff_ne.2 h_undos
    have Hh_undos := Lib.hid h_undos
    clear h_undos
    have HO := Lib.hid (show eqVV x y = false by simp [eqVV, D_hd.out, Hh_undos.out])
    rw [D_hd.out] at K_hd
    go_enter Tryd.func20, Tryd.ntmps20
    go_wp2_with fail
    rw [← hW]
    clear hW
    refine (K_hd _ hal).mono ?_
    rintro e w1 ⟨rfl, hb1⟩
    have hC1 : Below W.heap.size W w1 := hb1
    have hB1 : Below w.heap.size w w1 := hal.trans (hC1.mono (by omega))
    have a10 := (hC1.cell (p := ⟨w.heap.size, 10, none⟩) (by show w.heap.size < _; omega)).trans (hx0 10 _ rfl)
    have b10 := (hC1.cell (p := ⟨w.heap.size + 1, 10, none⟩) (by show w.heap.size + 1 < _; omega)).trans (hy0 10 _ rfl)
    go_wp2
    go_ret
    exact ⟨ret_bool HO.out.symm, hB1⟩
  have e_h_undos : (x.undos == y.undos) = true := by rw [h_undos]; exact beq_self_eq_true _
  have Hh_undos := Lib.hid h_undos
  clear h_undos
  by_cases h_redos : x.redos = y.redos
  case neg =>
    have n_h_redos : (x.redos == y.redos) = false := beq_eq_false_iff_ne.2 h_redos
    have Hh_redos := Lib.hid h_redos
    clear h_redos
    have HO := Lib.hid (show eqVV x y = false by simp [eqVV, D_hd.out, Hh_undos.out, Hh_redos.out])
    rw [D_hd.out] at K_hd
    go_enter Tryd.func20, Tryd.ntmps20
    go_wp2_with fail
    rw [← hW]
    clear hW
    refine (K_hd _ hal).mono ?_
    rintro e w1 ⟨rfl, hb1⟩
    have hC1 : Below W.heap.size W w1 := hb1
    have hB1 : Below w.heap.size w w1 := hal.trans (hC1.mono (by omega))
    have a10 := (hC1.cell (p := ⟨w.heap.size, 10, none⟩) (by show w.heap.size < _; omega)).trans (hx0 10 _ rfl)
    have b10 := (hC1.cell (p := ⟨w.heap.size + 1, 10, none⟩) (by show w.heap.size + 1 < _; omega)).trans (hy0 10 _ rfl)
    have a11 := (hC1.cell (p := ⟨w.heap.size, 11, none⟩) (by show w.heap.size < _; omega)).trans (hx0 11 _ rfl)
    have b11 := (hC1.cell (p := ⟨w.heap.size + 1, 11, none⟩) (by show w.heap.size + 1 < _; omega)).trans (hy0 11 _ rfl)
    go_wp2
    go_ret
    exact ⟨ret_bool HO.out.symm, hB1⟩
  have e_h_redos : (x.redos == y.redos) = true := by rw [h_redos]; exact beq_self_eq_true _
  have Hh_redos := Lib.hid h_redos
  clear h_redos
  have HO := Lib.hid (show eqVV x y = true by simp [eqVV, D_hd.out, Hh_undos.out, Hh_redos.out])
  rw [D_hd.out] at K_hd
  go_enter Tryd.func20, Tryd.ntmps20
  go_wp2_with fail
  rw [← hW]
  clear hW
  refine (K_hd _ hal).mono ?_
  rintro e w1 ⟨rfl, hb1⟩
  have hC1 : Below W.heap.size W w1 := hb1
  have hB1 : Below w.heap.size w w1 := hal.trans (hC1.mono (by omega))
  have a10 := (hC1.cell (p := ⟨w.heap.size, 10, none⟩) (by show w.heap.size < _; omega)).trans (hx0 10 _ rfl)
  have b10 := (hC1.cell (p := ⟨w.heap.size + 1, 10, none⟩) (by show w.heap.size + 1 < _; omega)).trans (hy0 10 _ rfl)
  have a11 := (hC1.cell (p := ⟨w.heap.size, 11, none⟩) (by show w.heap.size < _; omega)).trans (hx0 11 _ rfl)
  have b11 := (hC1.cell (p := ⟨w.heap.size + 1, 11, none⟩) (by show w.heap.size + 1 < _; omega)).trans (hy0 11 _ rfl)
  go_wp2
  go_ret
  exact ⟨ret_bool HO.out.symm, hB1⟩

end Go.Proofs.YtnkboccngialiaaDoor
