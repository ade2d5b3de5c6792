/- Walk of BigWide: a number is doubled till it is beyond the limit. -/
import Derived.Test.YtjfmefdhfboliaaDoorWr
namespace Go.Proofs.YtjfmefdhfboliaaDoor
open Go.RowKit Go.Shelf Num
open Go.Lib (decDigits nDigits decDigits_length itoa)

/-- A number, doubled so many times. -/
def dbl (n : Int) (k : Nat) : Int := n * (twoPow k : Nat)
theorem dbl_zero (n : Int) : dbl n 0 = n := by simp [dbl, twoPow]
theorem dbl_succ (n : Int) (k : Nat) : dbl n k + dbl n k = dbl n (k + 1) := by
  unfold dbl; rw [twoPow_succ, ← Int.mul_add]; rfl
theorem dbl_abs (n : Int) (k : Nat) : (dbl n k).natAbs = n.natAbs * twoPow k := by simp [dbl, Int.natAbs_mul]
theorem twoPow_add (a b : Nat) : twoPow a * twoPow b = twoPow (a + b) := by unfold twoPow; rw [Nat.pow_add]
theorem twoPow_pos (k : Nat) : 0 < twoPow k := Nat.pow_pos (by decide)
theorem twoPow_lt {a b : Nat} (h : twoPow a < twoPow b) : a < b := by
  rcases Nat.lt_or_ge a b with h' | h'
  · exact h'
  · exact absurd (twoPow_le h') (by omega)

/-- Below the limit: so few doublings. -/
theorem dbl_few {n : Int} (hn : n ≠ 0) {k : Nat} (h : (dbl n k).natAbs < lim) : k ≤ 511 := by
  rw [dbl_abs] at h
  have h1 : 1 * twoPow k ≤ n.natAbs * twoPow k := Nat.mul_le_mul_right _ (by omega)
  have h2 : twoPow k < twoPow 512 := by rw [Nat.one_mul] at h1; exact Nat.lt_of_le_of_lt h1 h
  have := twoPow_lt h2
  omega
/-- Beyond the limit: so many. -/
theorem dbl_many {n : Int} (h0 : -9223372036854775808 ≤ n) (h1 : n ≤ 9223372036854775807) {k : Nat} (h : ¬ (dbl n (k + 1)).natAbs < lim) : 448 ≤ k := by
  rw [dbl_abs] at h
  have e : twoPow 63 = 9223372036854775808 := rfl
  have h2 : n.natAbs * twoPow (k + 1) ≤ twoPow 63 * twoPow (k + 1) := Nat.mul_le_mul_right _ (by omega)
  rw [twoPow_add] at h2
  rcases Nat.lt_or_ge k 448 with h' | h'
  · have : twoPow (63 + (k + 1)) < twoPow 512 := by
      have h3 : twoPow (63 + (k + 1)) ≤ twoPow 511 := twoPow_le (by omega)
      have h4 : twoPow 511 < twoPow 512 := by have e2 : twoPow 512 = twoPow 511 + twoPow 511 := twoPow_succ 511; have := twoPow_pos 511; omega
      omega
    exact absurd (Nat.lt_of_le_of_lt h2 this) h
  · exact h'

set_option maxRecDepth 100000 in
set_option maxHeartbeats 1000000 in
theorem BigWide_walk (n : Int) (h0 : -9223372036854775808 ≤ n) (h1 : n ≤ 9223372036854775807) (w : World) (ht : Tab w) : Calls Tryd.prog 3 #[.int .i64 n] w (Yes w) := by
  have TX := Lib.hid (text_at h0 h1 ht)
  have KA := Lib.hid (awake_at ht)
  have HT := Lib.hid ht
  clear ht
  have l0 : (dbl n 0).natAbs < lim := by
    rw [dbl_zero]; exact lt_lim_of (k := 64) (by have : twoPow 64 = 18446744073709551616 := rfl; omega) (by decide)
  go_enter Tryd.func3, Tryd.ntmps3
  go_wp2_with fail
  refine (TX.out _ (Below.refl _ _)).mono ?_
  rintro e w1 ⟨rfl, hb1⟩
  go_wp2_with fail
  go_loopg [3, 4] 600 (fun gk s v wr => ∃ k : Nat, k ≤ 600 ∧ gk = 600 - k ∧ s = .string (num (dbl n k)) ∧ v = .int .i64 k ∧ (dbl n k).natAbs < lim ∧ Below w.heap.size w wr)
  case atStart => exact ⟨0, by omega, rfl, by rw [dbl_zero], rfl, l0, hb1⟩
  case round =>
    obtain ⟨k, hk, rfl, rfl, rfl, lk, hb⟩ := hrel
    by_cases hlt : k < 600
    · by_cases hw : (dbl n (k + 1)).natAbs < lim
      · have OS := Lib.hid (op_num sumIs lk lk (by rw [dbl_succ]) hw HT.out)
        go_wp2_with fail
        refine (OS.out _ hb).mono ?_
        rintro e w2 ⟨rfl, hb2⟩
        go_wp2_with fail
        go_roundg (600 - (k + 1))
        case measure => omega
        case rel => exact ⟨k + 1, by omega, rfl, rfl, by go_num, hw, hb2⟩
      · have OS := Lib.hid (op_wide sumIs lk lk (by rw [dbl_succ]) hw HT.out)
        have hn : n ≠ 0 := by
          rintro rfl
          apply hw
          rw [dbl_abs]
          simp
          exact Nat.lt_of_lt_of_le (by decide) (Nat.le_of_lt lim_pos)
        have hm := dbl_many h0 h1 hw
        have hf := dbl_few hn lk
        clear hw lk
        go_wp2_with fail
        refine (OS.out _ hb).mono ?_
        rintro e w2 ⟨rfl, hb2⟩
        go_wp2_with fail
        refine (KA.out _ hb2).mono ?_
        rintro e w3 ⟨rfl, hb3⟩
        go_wp2_with fail
        refine bodyPost_ret (v := .bool true) (by simp [results, Tryd.results3, go_sem]) rfl ⟨rfl, hb3⟩
    · obtain rfl : k = 600 := by omega
      have hn : n = 0 := by
        rcases Int.lt_trichotomy n 0 with h | h | h
        · exact absurd (dbl_few (by omega) lk) (by decide)
        · exact h
        · exact absurd (dbl_few (by omega) lk) (by decide)
      subst hn
      clear lk
      go_wp2_with fail
      refine (KA.out _ hb).mono ?_
      rintro e w2 ⟨rfl, hb2⟩
      go_wp2_with fail
      refine bodyPost_ret (v := .bool true) (by simp [results, Tryd.results3, go_sem]) rfl ⟨rfl, hb2⟩

end Go.Proofs.YtjfmefdhfboliaaDoor
