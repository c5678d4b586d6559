/- Walk: the law TreeClashes. -/
import Derived.Test.YtahlfafcjjkliaaDoorM5
namespace Go.Proofs.YtahlfafcjjkliaaDoor
open Go.RowKit

set_option maxRecDepth 100000 in
set_option maxHeartbeats 16000000 in
theorem treeClashes_any {p q t : ByteArray} {w : World} (hm : Lm w) : Calls Tryd.prog 6 #[.string p, .string q, .string t] w (BoolBelow true w) := by
  have hw : Below w.heap.size w w := Below.refl _ _
  have hz1 := fun u a b => run_fileText u a b
  have hz2 := fun u a => run_fileName u a
  have hz3 := fun u a => run_chgDel u a
  have hz4 := fun u a b => run_chgText u a b
  by_cases h1 : 40 < p.size
  · go_enter Tryd.func6, Tryd.ntmps6
    go_wp2_with fail
    refine (awake_any hm).mono ?_
    rintro e v1 ⟨rfl, hx⟩
    replace hw := hw.trans (hx.mono hw.size)
    replace hm := hm.below hx hm.lt
    clear hx
    go_wp2
    go_ret
    exact ⟨rfl, hw⟩
  by_cases h2 : 40 < q.size
  · go_enter Tryd.func6, Tryd.ntmps6
    go_wp2_with fail
    refine (awake_any hm).mono ?_
    rintro e v1 ⟨rfl, hx⟩
    replace hw := hw.trans (hx.mono hw.size)
    replace hm := hm.below hx hm.lt
    clear hx
    go_wp2
    go_ret
    exact ⟨rfl, hw⟩
  by_cases h3 : 300 < t.size
  · go_enter Tryd.func6, Tryd.ntmps6
    go_wp2_with fail
    refine (awake_any hm).mono ?_
    rintro e v1 ⟨rfl, hx⟩
    replace hw := hw.trans (hx.mono hw.size)
    replace hm := hm.below hx hm.lt
    clear hx
    go_wp2
    go_ret
    exact ⟨rfl, hw⟩
  obtain ⟨inn, hI⟩ : ∃ i : ByteArray, i = p ++ ⟨#[47]⟩ ++ q := ⟨_, rfl⟩
  have HD := Lib.hid (show inn.data.toList = p.data.toList ++ 47 :: q.data.toList by rw [hI]; simp)
  have hsz : inn.size = p.size + 1 + q.size := by rw [hI, ByteArray.size_append, ByteArray.size_append]; rfl
  have hIs : inn.size ≤ 81 := by omega
  have HS := Lib.hid hsz
  clear hsz
  replace hI := Lib.hid hI
  have HNE := Lib.hid (show inn ≠ p from fun e => by have := HS.out; rw [e] at this; omega)
  have HWI := Lib.hid (show within inn.data.toList p.data.toList = true by rw [HD.out]; exact within_front _ _)
  have hts : t.size ≤ 20000 := by omega
  go_enter Tryd.func6, Tryd.ntmps6
  by_cases hp0 : pathOk inn.data.toList = true
  · have HP := Lib.hid (show pathOk p.data.toList = true from pathOk_front (b := q.data.toList) (by rw [← HD.out]; exact hp0))
    have HOK := Lib.hid (show FileOk ⟨inn, false, t⟩ from ⟨hp0, hts⟩)
    have HOP := Lib.hid (show FileOk ⟨p, false, ⟨#[]⟩⟩ from ⟨HP.out, Nat.zero_le _⟩)
    clear hp0
    go_wp2_with fail
    rw [← hI.out]
    have C := put_any (f := ⟨inn, false, t⟩) (by omega) hm (RdF.none_ _ _) ⟨by show inn.size ≤ _; omega, by show t.size ≤ _; omega⟩
    rw [put_one HOK.out] at C
    refine (C).mono ?_
    rintro e v1 ⟨A1, c1, rfl, hrl, hx⟩
    replace hw := hw.trans (hx.mono hw.size)
    replace hm := hm.below hx hm.lt
    clear hx
    clear C
    replace hrl : RdF v1 v1.heap.size A1 1 c1 [⟨inn, false, t⟩] := hrl
    go_wp2_with fail
    have C := put_any (f := ⟨p, false, ⟨#[]⟩⟩) (by omega) hm hrl ⟨by show p.size ≤ _; omega, Nat.zero_le _⟩
    rw [put_clash HOK.out (Nat.zero_le _) HNE.out (by have := HWI.out; simp [clashP, FV.p, this])] at C
    refine (C).mono ?_
    rintro e v2 ⟨A2, c2, rfl, hr2, hx⟩
    replace hw := hw.trans (hx.mono hw.size)
    replace hm := hm.below hx hm.lt
    replace hrl := hrl.to hx hx.size
    clear hx
    clear C hr2
    go_wp2_with fail
    have C := put_any (f := ⟨p, false, ⟨#[]⟩⟩) (by omega) hm (RdF.none_ _ _) ⟨by show p.size ≤ _; omega, Nat.zero_le _⟩
    rw [put_one HOP.out] at C
    refine (C).mono ?_
    rintro e v3 ⟨A3, c3, rfl, hr3, hx⟩
    replace hw := hw.trans (hx.mono hw.size)
    replace hm := hm.below hx hm.lt
    replace hrl := hrl.to hx hx.size
    clear hx
    clear C
    replace hr3 : RdF v3 v3.heap.size A3 1 c3 [⟨p, false, ⟨#[]⟩⟩] := hr3
    go_wp2_with fail
    have C := put_any (f := ⟨inn, false, ⟨#[]⟩⟩) (by omega) hm hr3 ⟨by show inn.size ≤ _; omega, Nat.zero_le _⟩
    rw [put_clash HOP.out (Nat.zero_le _) (fun e => HNE.out e.symm) (by have := HWI.out; simp [clashP, FV.p, this])] at C
    refine (C).mono ?_
    rintro e v4 ⟨A4, c4, rfl, hr4, hx⟩
    replace hw := hw.trans (hx.mono hw.size)
    replace hm := hm.below hx hm.lt
    replace hrl := hrl.to hx hx.size
    replace hr3 := hr3.to hx hx.size
    clear hx
    clear C hr4 hr3
    obtain ⟨V, hV⟩ : ∃ u, u = v4.alloc (.cells #[.string inn, .bool true, .bool false, .string ⟨#[]⟩, .string p, .bool false, .bool false, .string t] 45) := ⟨_, rfl⟩
    have hx : Below v4.heap.size v4 V := by rw [hV]; exact (Below.refl _ _).alloc (Nat.le_refl _) _
    have hrc : RdC V V.heap.size (some ⟨v4.heap.size, 0, none⟩) 2 2 [⟨inn, true, false, ⟨#[]⟩⟩, ⟨p, false, false, t⟩] := by rw [hV]; exact rdC_two _ ⟨inn, true, false, ⟨#[]⟩⟩ ⟨p, false, false, t⟩ ⟨by show inn.size ≤ _; omega, Nat.zero_le _⟩ ⟨by show p.size ≤ _; omega, by show t.size ≤ _; omega⟩
    replace hw := hw.trans (hx.mono hw.size)
    replace hm := hm.below hx hm.lt
    replace hrl := hrl.to hx hx.size
    clear hx
    replace hV := Lib.hid hV
    go_wp2_with fail
    rw [← hV.out]
    clear hV
    have C := apply_any (by omega) (by omega) hm hrl hrc
    rw [apply_swap HOK.out rfl HP.out hts] at C
    refine (C).mono ?_
    rintro e v5 ⟨A5, c5, rfl, hr5, hx⟩
    replace hw := hw.trans (hx.mono hw.size)
    replace hm := hm.below hx hm.lt
    replace hrl := hrl.to hx hx.size
    clear hx
    clear C hrc hrl
    replace hr5 : RdF v5 v5.heap.size A5 1 c5 [⟨p, false, t⟩] := hr5
    go_wp2_with fail
    refine (awake_any hm).mono ?_
    rintro e v6 ⟨rfl, hx⟩
    replace hw := hw.trans (hx.mono hw.size)
    replace hm := hm.below hx hm.lt
    replace hr5 := hr5.to hx hx.size
    clear hx
    obtain ⟨V, hV⟩ : ∃ u, u = v6.alloc (.cells #[.string p, .bool false, .string t] 24) := ⟨_, rfl⟩
    have hx : Below v6.heap.size v6 V := by rw [hV]; exact (Below.refl _ _).alloc (Nat.le_refl _) _
    have hrf : Rd V V.heap.size 3 (some ⟨v6.heap.size, 0, none⟩) 1 1 ([(⟨p, false, t⟩ : FV)].flatMap FV.cells) := by rw [hV]; exact rd_litF _ ⟨p, false, t⟩
    replace hw := hw.trans (hx.mono hw.size)
    replace hm := hm.below hx hm.lt
    replace hr5 := hr5.to hx hx.size
    clear hx
    replace hV := Lib.hid hV
    go_wp2_with fail
    rw [← hV.out]
    clear hV
    refine (plainF_any (by omega) (by omega) hr5.row hrf rfl rfl).mono ?_
    rintro e v7 ⟨rfl, hx⟩
    replace hw := hw.trans (hx.mono hw.size)
    replace hm := hm.below hx hm.lt
    replace hr5 := hr5.to hx hx.size
    clear hx
    rw [decide_eq_true (rfl : [(⟨p, false, t⟩ : FV)] = [⟨p, false, t⟩])]
    clear hrf hr5
    go_wp2
    go_ret
    exact ⟨rfl, hw⟩
  · replace hp0 := Lib.hid hp0
    go_wp2_with fail
    rw [← hI.out]
    have C := put_any (f := ⟨inn, false, t⟩) (by omega) hm (RdF.none_ _ _) ⟨by show inn.size ≤ _; omega, by show t.size ≤ _; omega⟩
    rw [put_nil (f := ⟨inn, false, t⟩) hts, if_neg (show ¬ pathOk (FV.p ⟨inn, false, t⟩) = true from hp0.out)] at C
    refine (C).mono ?_
    rintro e v1 ⟨A1, c1, rfl, hrl, hx⟩
    replace hw := hw.trans (hx.mono hw.size)
    replace hm := hm.below hx hm.lt
    clear hx
    clear C hrl
    go_wp2_with fail
    refine (awake_any hm).mono ?_
    rintro e v2 ⟨rfl, hx⟩
    replace hw := hw.trans (hx.mono hw.size)
    replace hm := hm.below hx hm.lt
    clear hx
    go_wp2
    go_ret
    exact ⟨rfl, hw⟩
end Go.Proofs.YtahlfafcjjkliaaDoor
