/- Walks of the laws over Compare: BigOrders, BigRests. -/
import Derived.Test.YtjfmefdhfboliaaDoorWt
namespace Go.Proofs.YtjfmefdhfboliaaDoor
open Go.RowKit Go.Shelf Num
open Go.Lib (decDigits nDigits decDigits_length itoa)

theorem compare_at {x y d : Int} (lx : x.natAbs < lim) (ly : y.natAbs < lim) (hd : sg (x - y) = d) {w : World} : ∀ W, Below w.heap.size w W → Calls Tryd.prog 20 #[.string (num x), .string (num y)] W (Out w.heap.size w (.int .i64 d)) := by
  intro W hW
  subst hd
  refine (Compare_num x y lx ly W).mono ?_
  rintro e w' ⟨rfl, hb⟩
  exact ⟨rfl, hW.trans (hb.mono hW.size)⟩

theorem toList_ne {a : ByteArray} (h : 0 < a.size) : a.toList.isEmpty = false := by
  rw [ByteArray.toList_eq]
  have : a.data.toList.length ≠ 0 := by rw [← size_list]; omega
  cases e : a.data.toList with
  | nil => rw [e] at this; simp at this
  | cons x l => rfl

theorem amount_raw (a r : ByteArray) (h0 : 0 < a.size) (i : Bool) (hi : (((a[0]'h0).toNat : Int) == 45) = i) (hr : (if i = true then a.extract 1 a.size else a) = r) (w : World) : Calls Tryd.prog 21 #[.string a] w (Out w.heap.size w (.string r)) := by
  have h1 := toList_ne h0
  cases i
  · obtain rfl : a = r := hr
    go_enter Tryd.func21, Tryd.ntmps21
    go_wp2_with fail
    refine bodyPost_ret (v := .string a) (by simp [results, Tryd.results21, go_sem]) rfl ⟨rfl, Below.refl _ _⟩
  · obtain rfl : a.extract 1 a.size = r := hr
    go_enter Tryd.func21, Tryd.ntmps21
    go_wp2_with fail
    refine bodyPost_ret (v := .string (a.extract 1 a.size)) (by simp [results, Tryd.results21, go_sem]) rfl ⟨rfl, Below.refl _ _⟩

theorem num_pos (v : Int) : 0 < (num v).size := by
  rw [size_list, num_list]
  unfold itoa
  split
  · simp
  · have := decDigits_ne v.toNat
    cases h : decDigits v.toNat with
    | nil => exact absurd h this
    | cons x l => simp

theorem first_at (a : ByteArray) (h : 0 < a.size) (x : UInt8) (l : List UInt8) (e : a.data.toList = x :: l) : a[0]'h = x := by
  have : a[0]'h = a.data.toList[0]'(by rw [← size_list]; exact h) := by rw [Array.getElem_toList]; rfl
  rw [this]; simp [e]

theorem num_first (v : Int) : ((((num v)[0]'(num_pos v)).toNat : Int) == 45) = decide (v < 0) := by
  by_cases hv : v < 0
  · have e : (num v).data.toList = 45 :: decDigits v.natAbs := by rw [num_list, itoa, if_pos hv]
    rw [first_at _ _ _ _ e]; simp [hv]
  · have e : (num v).data.toList = decDigits v.toNat := by rw [num_list, itoa, if_neg hv]
    have hf := figs_decDigits v.toNat
    cases h : decDigits v.toNat with
    | nil => exact absurd h (decDigits_ne _)
    | cons x l =>
      rw [h] at e hf
      rw [first_at _ _ _ _ e]
      have := hf x List.mem_cons_self
      simp [hv]; omega

theorem num_abs (v : Int) : (if decide (v < 0) = true then (num v).extract 1 (num v).size else num v) = num v.natAbs := by
  by_cases hv : v < 0
  · simp only [hv, decide_true, if_true]
    have e : (num v).data.toList = 45 :: decDigits v.natAbs := by rw [num_list, itoa, if_pos hv]
    apply num_of
    rw [ByteArray.data_extract, Array.toList_extract, List.extract_eq_drop_take', e]
    rw [size_list, e]
    rw [itoa, if_neg (by omega)]
    simp
  · simp only [hv, decide_false, Bool.false_eq_true, if_false]
    congr 1; omega

theorem amount_at (v : Int) {w : World} : ∀ W, Below w.heap.size w W → Calls Tryd.prog 21 #[.string (num v)] W (Out w.heap.size w (.string (num v.natAbs))) := by
  intro W hW
  refine (amount_raw (num v) _ (num_pos v) _ (num_first v) (num_abs v) W).mono ?_
  rintro e w' ⟨rfl, hb⟩
  exact ⟨rfl, hW.trans (hb.mono hW.size)⟩


theorem sg_neg {d : Int} (h : d < 0) : sg d = -1 := by unfold sg; rw [if_pos h]
theorem sg_zero {d : Int} (h : d = 0) : sg d = 0 := by unfold sg; rw [if_neg (by omega), if_pos h]
theorem sg_pos {d : Int} (h : 0 < d) : sg d = 1 := by unfold sg; rw [if_neg (by omega), if_neg (by omega)]

theorem BigOrders_wrong (a b c : ByteArray) (ia ib ic : Bool) (hia : (right? a.data.toList).isSome = ia) (hib : (right? b.data.toList).isSome = ib) (hic : (right? c.data.toList).isSome = ic)
    (h : (ia && ib && ic) = false) (w : World) (ht : Tab w) : Calls Tryd.prog 8 #[.string a, .string b, .string c] w (Yes w) := by
  have RA := Lib.hid (right_at a hia w)
  have RB := Lib.hid (right_at b hib w)
  have RC := Lib.hid (right_at c hic w)
  have KA := Lib.hid (awake_at ht)
  clear hia hib hic
  cases ia
  · go_enter Tryd.func8, Tryd.ntmps8
    go_wp2_with fail
    refine (RA.out _ (Below.refl _ _)).mono ?_
    rintro e w1 ⟨rfl, hb1⟩
    go_wp2_with fail
    refine (KA.out _ hb1).mono ?_
    rintro e w2 ⟨rfl, hb2⟩
    go_wp2_with fail
    refine bodyPost_ret (v := .bool true) (by simp [results, Tryd.results8, go_sem]) rfl ⟨rfl, hb2⟩
  · cases ib
    · go_enter Tryd.func8, Tryd.ntmps8
      go_wp2_with fail
      refine (RA.out _ (Below.refl _ _)).mono ?_
      rintro e w1 ⟨rfl, hb1⟩
      go_wp2_with fail
      refine (RB.out _ hb1).mono ?_
      rintro e w2 ⟨rfl, hb2⟩
      go_wp2_with fail
      refine (KA.out _ hb2).mono ?_
      rintro e w3 ⟨rfl, hb3⟩
      go_wp2_with fail
      refine bodyPost_ret (v := .bool true) (by simp [results, Tryd.results8, go_sem]) rfl ⟨rfl, hb3⟩
    · cases ic
      · go_enter Tryd.func8, Tryd.ntmps8
        go_wp2_with fail
        refine (RA.out _ (Below.refl _ _)).mono ?_
        rintro e w1 ⟨rfl, hb1⟩
        go_wp2_with fail
        refine (RB.out _ hb1).mono ?_
        rintro e w2 ⟨rfl, hb2⟩
        go_wp2_with fail
        refine (RC.out _ hb2).mono ?_
        rintro e w3 ⟨rfl, hb3⟩
        go_wp2_with fail
        refine (KA.out _ hb3).mono ?_
        rintro e w4 ⟨rfl, hb4⟩
        go_wp2_with fail
        refine bodyPost_ret (v := .bool true) (by simp [results, Tryd.results8, go_sem]) rfl ⟨rfl, hb4⟩
      · simp at h

set_option maxRecDepth 100000 in
set_option maxHeartbeats 1000000 in
theorem BigOrders_case (a b c : ByteArray) (p q r m : Int) (i : Bool) (w : World) (RA : Hid (∀ W, Below w.heap.size w W → Calls Tryd.prog 19 #[.string a] W (Out w.heap.size w (.bool true))))
    (RB : Hid (∀ W, Below w.heap.size w W → Calls Tryd.prog 19 #[.string b] W (Out w.heap.size w (.bool true)))) (RC : Hid (∀ W, Below w.heap.size w W → Calls Tryd.prog 19 #[.string c] W (Out w.heap.size w (.bool true))))
    (C1 : Hid (∀ W, Below w.heap.size w W → Calls Tryd.prog 20 #[.string a, .string b] W (Out w.heap.size w (.int .i64 p))))
    (C2 : Hid (∀ W, Below w.heap.size w W → Calls Tryd.prog 20 #[.string b, .string c] W (Out w.heap.size w (.int .i64 q))))
    (C3 : Hid (∀ W, Below w.heap.size w W → Calls Tryd.prog 20 #[.string a, .string c] W (Out w.heap.size w (.int .i64 r))))
    (C4 : Hid (∀ W, Below w.heap.size w W → Calls Tryd.prog 20 #[.string b, .string a] W (Out w.heap.size w (.int .i64 m))))
    (KA : Hid (∀ W, Below w.heap.size w W → Calls Tryd.prog 13 #[] W (Out w.heap.size w (.bool true)))) (he : (a.toList == b.toList) = i)
    (hc : (p, q, r, m, i) ∈ ([(-1, -1, -1, 1, false), (-1, 0, -1, 1, false), (-1, 1, -1, 1, false), (-1, 1, 0, 1, false), (-1, 1, 1, 1, false), (0, -1, -1, 0, true), (0, 0, 0, 0, true), (0, 1, 1, 0, true), (1, 1, 1, -1, false), (1, 0, 1, -1, false), (1, -1, -1, -1, false), (1, -1, 0, -1, false), (1, -1, 1, -1, false)] : List (Int × Int × Int × Int × Bool))) :
    Calls Tryd.prog 8 #[.string a, .string b, .string c] w (Yes w) := by
  simp only [List.mem_cons, List.not_mem_nil, or_false, Prod.mk.injEq] at hc
  rcases hc with ⟨rfl, rfl, rfl, rfl, rfl⟩ | ⟨rfl, rfl, rfl, rfl, rfl⟩ | ⟨rfl, rfl, rfl, rfl, rfl⟩ | ⟨rfl, rfl, rfl, rfl, rfl⟩ | ⟨rfl, rfl, rfl, rfl, rfl⟩ | ⟨rfl, rfl, rfl, rfl, rfl⟩ | ⟨rfl, rfl, rfl, rfl, rfl⟩ | ⟨rfl, rfl, rfl, rfl, rfl⟩ | ⟨rfl, rfl, rfl, rfl, rfl⟩ | ⟨rfl, rfl, rfl, rfl, rfl⟩ | ⟨rfl, rfl, rfl, rfl, rfl⟩ | ⟨rfl, rfl, rfl, rfl, rfl⟩ | ⟨rfl, rfl, rfl, rfl, rfl⟩
  all_goals
    go_enter Tryd.func8, Tryd.ntmps8
    go_wp2_with fail
    refine (RA.out _ (Below.refl _ _)).mono ?_
    rintro e w1 ⟨rfl, hb1⟩
    go_wp2_with fail
    refine (RB.out _ hb1).mono ?_
    rintro e w2 ⟨rfl, hb2⟩
    go_wp2_with fail
    refine (RC.out _ hb2).mono ?_
    rintro e w3 ⟨rfl, hb3⟩
    go_wp2_with fail
    refine (C1.out _ hb3).mono ?_
    rintro e w4 ⟨rfl, hb4⟩
    go_wp2_with fail
    refine (C2.out _ hb4).mono ?_
    rintro e w5 ⟨rfl, hb5⟩
    go_wp2_with fail
    refine (C3.out _ hb5).mono ?_
    rintro e w6 ⟨rfl, hb6⟩
    go_wp2_with fail
    refine (C4.out _ hb6).mono ?_
    rintro e w7 ⟨rfl, hb7⟩
    go_wp2_with fail
    refine (KA.out _ hb7).mono ?_
    rintro e w8 ⟨rfl, hb8⟩
    go_wp2_with fail
    refine bodyPost_ret (v := .bool true) (by simp [results, Tryd.results8, go_sem]) rfl ⟨rfl, hb8⟩

theorem num_eq (x y : Int) : ((num x).toList == (num y).toList) = decide (x = y) := by
  rw [ByteArray.toList_eq, ByteArray.toList_eq, num_list, num_list]
  by_cases h : x = y
  · subst h; simp
  · have : itoa x ≠ itoa y := fun e => h (itoa_inj e)
    simp [h, this]

theorem BigOrders_walk (a b c : ByteArray) (w : World) (ht : Tab w) : Calls Tryd.prog 8 #[.string a, .string b, .string c] w (Yes w) := by
  cases ea : right? a.data.toList with
  | none => exact BigOrders_wrong a b c _ _ _ rfl rfl rfl (by rw [ea]; rfl) w ht
  | some x =>
    cases eb : right? b.data.toList with
    | none => exact BigOrders_wrong a b c _ _ _ rfl rfl rfl (by rw [ea, eb]; rfl) w ht
    | some y =>
      cases ec : right? c.data.toList with
      | none => exact BigOrders_wrong a b c _ _ _ rfl rfl rfl (by rw [ea, eb, ec]; rfl) w ht
      | some z =>
        obtain ⟨rfl, lx⟩ := num_of_right ea
        obtain ⟨rfl, ly⟩ := num_of_right eb
        obtain ⟨rfl, lz⟩ := num_of_right ec
        refine BigOrders_case (num x) (num y) (num z) (sg (x - y)) (sg (y - z)) (sg (x - z)) (sg (y - x)) (decide (x = y)) w (Lib.hid (right_at _ (i := true) (by rw [ea]; rfl) w)) (Lib.hid (right_at _ (i := true) (by rw [eb]; rfl) w)) (Lib.hid (right_at _ (i := true) (by rw [ec]; rfl) w))
          (Lib.hid (compare_at lx ly rfl)) (Lib.hid (compare_at ly lz rfl)) (Lib.hid (compare_at lx lz rfl)) (Lib.hid (compare_at ly lx rfl)) (Lib.hid (awake_at ht)) (num_eq x y) ?_
        clear ea eb ec lx ly lz
        rcases Int.lt_trichotomy x y with h1 | h1 | h1
        · rw [sg_neg (show x - y < 0 by omega), sg_pos (show 0 < y - x by omega), decide_eq_false (show ¬ x = y by omega)]
          rcases Int.lt_trichotomy y z with h2 | h2 | h2
          · rw [sg_neg (show y - z < 0 by omega), sg_neg (show x - z < 0 by omega)]; decide
          · rw [sg_zero (show y - z = 0 by omega), sg_neg (show x - z < 0 by omega)]; decide
          · rw [sg_pos (show 0 < y - z by omega)]
            rcases Int.lt_trichotomy x z with h3 | h3 | h3
            · rw [sg_neg (show x - z < 0 by omega)]; decide
            · rw [sg_zero (show x - z = 0 by omega)]; decide
            · rw [sg_pos (show 0 < x - z by omega)]; decide
        · rw [sg_zero (show x - y = 0 by omega), sg_zero (show y - x = 0 by omega), decide_eq_true h1]
          rcases Int.lt_trichotomy y z with h2 | h2 | h2
          · rw [sg_neg (show y - z < 0 by omega), sg_neg (show x - z < 0 by omega)]; decide
          · rw [sg_zero (show y - z = 0 by omega), sg_zero (show x - z = 0 by omega)]; decide
          · rw [sg_pos (show 0 < y - z by omega), sg_pos (show 0 < x - z by omega)]; decide
        · rw [sg_pos (show 0 < x - y by omega), sg_neg (show y - x < 0 by omega), decide_eq_false (show ¬ x = y by omega)]
          rcases Int.lt_trichotomy y z with h2 | h2 | h2
          · rw [sg_neg (show y - z < 0 by omega)]
            rcases Int.lt_trichotomy x z with h3 | h3 | h3
            · rw [sg_neg (show x - z < 0 by omega)]; decide
            · rw [sg_zero (show x - z = 0 by omega)]; decide
            · rw [sg_pos (show 0 < x - z by omega)]; decide
          · rw [sg_zero (show y - z = 0 by omega), sg_pos (show 0 < x - z by omega)]; decide
          · rw [sg_pos (show 0 < y - z by omega), sg_pos (show 0 < x - z by omega)]; decide

end Go.Proofs.YtjfmefdhfboliaaDoor
