/- Walk of BigRests. -/
import Derived.Test.YtjfmefdhfboliaaDoorWu
namespace Go.Proofs.YtjfmefdhfboliaaDoor
open Go.RowKit Go.Shelf Num
open Go.Lib (decDigits nDigits decDigits_length itoa)

set_option maxRecDepth 100000 in
set_option maxHeartbeats 1000000 in
theorem BigRests_no (a b : ByteArray) (hp : doneP (partOp true) a.data.toList b.data.toList = ([], 1)) (w : World) (ht : Tab w) : Calls Tryd.prog 9 #[.string a, .string b] w (Yes w) := by
  have OR := Lib.hid (op_at restIs hp ht)
  have KA := Lib.hid (awake_at ht)
  clear hp
  go_enter Tryd.func9, Tryd.ntmps9
  go_wp2_with fail
  refine (OR.out _ (Below.refl _ _)).mono ?_
  rintro e w1 ⟨rfl, hb1⟩
  go_wp2_with fail
  refine (KA.out _ hb1).mono ?_
  rintro e w2 ⟨rfl, hb2⟩
  go_wp2_with fail
  refine bodyPost_ret (v := .bool true) (by simp [results, Tryd.results9, go_sem]) rfl ⟨rfl, hb2⟩

set_option maxRecDepth 100000 in
set_option maxHeartbeats 4000000 in
theorem BigRests_ok (A B R R' B' : ByteArray) (w : World) (OR : Hid (∀ W, Below w.heap.size w W → Calls Tryd.prog 16 #[.string A, .string B] W (Out w.heap.size w (.tuple #[.string R, .int .i64 0]))))
    (M1 : Hid (∀ W, Below w.heap.size w W → Calls Tryd.prog 21 #[.string R] W (Out w.heap.size w (.string R')))) (M2 : Hid (∀ W, Below w.heap.size w W → Calls Tryd.prog 21 #[.string B] W (Out w.heap.size w (.string B'))))
    (CC : Hid (∀ W, Below w.heap.size w W → Calls Tryd.prog 20 #[.string R', .string B'] W (Out w.heap.size w (.int .i64 (-1))))) (KA : Hid (∀ W, Below w.heap.size w W → Calls Tryd.prog 13 #[] W (Out w.heap.size w (.bool true))))
    (hA : 0 < A.size) (hR : 0 < R.size) (z s : Bool) (hz : (R.toList == [48]) = z) (hzf : z = false) (f1 : (((R[0]'hR).toNat : Int) == 45) = s) (f2 : (((A[0]'hA).toNat : Int) == 45) = s) :
    Calls Tryd.prog 9 #[.string A, .string B] w (Yes w) := by
  cases z
  · clear hzf
    cases s
    · go_enter Tryd.func9, Tryd.ntmps9
      go_wp2_with fail
      refine (OR.out _ (Below.refl _ _)).mono ?_
      rintro e w1 ⟨rfl, hb1⟩
      go_wp2_with fail
      refine (M1.out _ hb1).mono ?_
      rintro e w2 ⟨rfl, hb2⟩
      go_wp2_with fail
      refine (M2.out _ hb2).mono ?_
      rintro e w3 ⟨rfl, hb3⟩
      go_wp2_with fail
      go_region_with (first | (go_at_call 20; refine (CC.out _ (hb3.drew)).mono ?_; rintro e w4 ⟨rfl, hb4⟩) | (go_at_call 13; refine (KA.out _ hb4).mono ?_; rintro e w5 ⟨rfl, hb5⟩))
      all_goals
        go_wp2_with fail
        refine bodyPost_ret (v := .bool true) (by simp [results, Tryd.results9, go_sem]) rfl ⟨rfl, hb5⟩
    · go_enter Tryd.func9, Tryd.ntmps9
      go_wp2_with fail
      refine (OR.out _ (Below.refl _ _)).mono ?_
      rintro e w1 ⟨rfl, hb1⟩
      go_wp2_with fail
      refine (M1.out _ hb1).mono ?_
      rintro e w2 ⟨rfl, hb2⟩
      go_wp2_with fail
      refine (M2.out _ hb2).mono ?_
      rintro e w3 ⟨rfl, hb3⟩
      go_wp2_with fail
      go_region_with (first | (go_at_call 20; refine (CC.out _ (hb3.drew)).mono ?_; rintro e w4 ⟨rfl, hb4⟩) | (go_at_call 13; refine (KA.out _ hb4).mono ?_; rintro e w5 ⟨rfl, hb5⟩))
      all_goals
        go_wp2_with fail
        refine bodyPost_ret (v := .bool true) (by simp [results, Tryd.results9, go_sem]) rfl ⟨rfl, hb5⟩
  · cases hzf

set_option maxRecDepth 100000 in
set_option maxHeartbeats 4000000 in
theorem BigRests_zero (A B R' B' : ByteArray) (w : World) (OR : Hid (∀ W, Below w.heap.size w W → Calls Tryd.prog 16 #[.string A, .string B] W (Out w.heap.size w (.tuple #[.string ⟨#[48]⟩, .int .i64 0]))))
    (M1 : Hid (∀ W, Below w.heap.size w W → Calls Tryd.prog 21 #[.string ⟨#[48]⟩] W (Out w.heap.size w (.string R')))) (M2 : Hid (∀ W, Below w.heap.size w W → Calls Tryd.prog 21 #[.string B] W (Out w.heap.size w (.string B'))))
    (CC : Hid (∀ W, Below w.heap.size w W → Calls Tryd.prog 20 #[.string R', .string B'] W (Out w.heap.size w (.int .i64 (-1))))) (KA : Hid (∀ W, Below w.heap.size w W → Calls Tryd.prog 13 #[] W (Out w.heap.size w (.bool true)))) :
    Calls Tryd.prog 9 #[.string A, .string B] w (Yes w) := by
  go_enter Tryd.func9, Tryd.ntmps9
  go_wp2_with fail
  refine (OR.out _ (Below.refl _ _)).mono ?_
  rintro e w1 ⟨rfl, hb1⟩
  go_wp2_with fail
  refine (M1.out _ hb1).mono ?_
  rintro e w2 ⟨rfl, hb2⟩
  go_wp2_with fail
  refine (M2.out _ hb2).mono ?_
  rintro e w3 ⟨rfl, hb3⟩
  go_wp2_with fail
  first | go_region_with (first | (go_at_call 20; refine (CC.out _ (hb3.drew)).mono ?_; rintro e w4 ⟨rfl, hb4⟩) | (go_at_call 13; refine (KA.out _ hb4).mono ?_; rintro e w5 ⟨rfl, hb5⟩)) | fail
  all_goals
    go_wp2_with fail
    refine bodyPost_ret (v := .bool true) (by simp [results, Tryd.results9, go_sem]) rfl ⟨rfl, hb5⟩

theorem BigRests_walk (a b : ByteArray) (w : World) (ht : Tab w) : Calls Tryd.prog 9 #[.string a, .string b] w (Yes w) := by
  cases ea : right? a.data.toList with
  | none => exact BigRests_no a b (doneP_no (.inl ea)) w ht
  | some x =>
    cases eb : right? b.data.toList with
    | none => exact BigRests_no a b (doneP_no (.inr eb)) w ht
    | some y =>
      by_cases hy : y = 0
      · exact BigRests_no a b (by rw [doneP_ok ea eb]; simp [partOp, hy]) w ht
      obtain ⟨rfl, lx⟩ := num_of_right ea
      obtain ⟨rfl, ly⟩ := num_of_right eb
      have hr : (x.tmod y).natAbs ≤ x.natAbs := by rw [Int.natAbs_tmod]; exact Nat.mod_le _ _
      have hlt : (x.tmod y).natAbs < y.natAbs := by rw [Int.natAbs_tmod]; exact Nat.mod_lt _ (by omega)
      obtain ⟨r, hrr⟩ : ∃ r, x.tmod y = r := ⟨_, rfl⟩
      rw [hrr] at hr hlt
      have lr : r.natAbs < lim := by omega
      have hsg : r ≠ 0 → (r < 0 ↔ x < 0) := fun h => by
        have h1 : 0 ≤ x → 0 ≤ r := fun h => by rw [← hrr]; exact Int.tmod_nonneg y h
        have h2 : x ≤ 0 → r ≤ 0 := fun h => by
          rw [← hrr]
          have := Int.tmod_nonneg y (show 0 ≤ -x by omega)
          rw [Int.neg_tmod] at this
          omega
        omega
      have C := compare_at (w := w) (d := -1) (x := r.natAbs) (y := y.natAbs) (by simpa using lr) (by simpa using ly) (sg_neg (by omega))
      have O := op_num restIs lx ly (z := r) (by simp [partOp, hy, hrr]) lr ht
      by_cases h0 : r = 0
      · have M := amount_at (w := w) r
        rw [h0, num0] at O M
        rw [h0] at C
        exact BigRests_zero (num x) (num y) _ _ w (Lib.hid O) (Lib.hid M) (Lib.hid (amount_at y)) (Lib.hid C) (Lib.hid (awake_at ht))
      · refine BigRests_ok (num x) (num y) (num r) (num r.natAbs) (num y.natAbs) w (Lib.hid O) (Lib.hid (amount_at r)) (Lib.hid (amount_at y)) (Lib.hid C) (Lib.hid (awake_at ht)) (num_pos x) (num_pos r) (decide (r = 0)) (decide (r < 0)) ?_ (by simpa using h0) (num_first r) ?_
        · have := num_eq r 0
          rw [num0] at this
          rw [← this]
          congr 1
          rw [ByteArray.toList_eq]
        · rw [num_first x, decide_eq_decide]
          exact (hsg h0).symm

end Go.Proofs.YtjfmefdhfboliaaDoor
