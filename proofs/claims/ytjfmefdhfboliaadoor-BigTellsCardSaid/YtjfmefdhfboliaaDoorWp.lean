/- Walks through awake, and what done tells of written numbers. -/
import Derived.Test.YtjfmefdhfboliaaDoorWo
namespace Go.Proofs.YtjfmefdhfboliaaDoor
open Go.RowKit Go.Shelf Num
open Go.Lib (decDigits nDigits decDigits_length itoa)

theorem doneP_itoa {op : Int → Int → Option Int} {x y : Int} (hx : x.natAbs < lim) (hy : y.natAbs < lim) :
    doneP op (itoa x) (itoa y) = match op x y with | some z => if z.natAbs < lim then (itoa z, 0) else ([], 10) | none => ([], 1) := doneP_ok (right?_itoa hx) (right?_itoa hy)

theorem small_lt_lim {n : Nat} (h : n < 1024) : n < lim := Nat.lt_of_lt_of_le h (Nat.le_trans (by decide : 1024 ≤ twoPow 10) (twoPow_le (by decide)))

theorem i_12 : itoa (-12) = [45, 49, 50] := by simp [itoa, decDigits]
theorem i12 : itoa 12 = [49, 50] := by simp [itoa, decDigits]
theorem i_144 : itoa (-144) = [45, 49, 52, 52] := by simp [itoa, decDigits]
theorem i_7 : itoa (-7) = [45, 55] := by simp [itoa, decDigits]
theorem i2 : itoa 2 = [50] := by simp [itoa, decDigits]
theorem i_3 : itoa (-3) = [45, 51] := by simp [itoa, decDigits]
theorem i_1 : itoa (-1) = [45, 49] := by simp [itoa, decDigits]

theorem aw1 : doneP (fun x y => some (x * y)) [45, 49, 50] [49, 50] = ([45, 49, 52, 52], 0) := by
  rw [← i_12, ← i12, doneP_itoa (small_lt_lim (by decide)) (small_lt_lim (by decide))]
  show (if ((-12 : Int) * 12).natAbs < lim then (itoa (-12 * 12), (0 : Int)) else ([], 10)) = _
  rw [if_pos (small_lt_lim (by decide)), ← i_144]; rfl
theorem aw2 : doneP (partOp false) [45, 55] [50] = ([45, 51], 0) := by
  rw [← i_7, ← i2, doneP_itoa (small_lt_lim (by decide)) (small_lt_lim (by decide))]
  show (if ((-3 : Int)).natAbs < lim then (itoa (-3), (0 : Int)) else ([], 10)) = _
  rw [if_pos (small_lt_lim (by decide)), ← i_3]
theorem aw3 : doneP (partOp true) [45, 55] [50] = ([45, 49], 0) := by
  rw [← i_7, ← i2, doneP_itoa (small_lt_lim (by decide)) (small_lt_lim (by decide))]
  show (if ((-1 : Int)).natAbs < lim then (itoa (-1), (0 : Int)) else ([], 10)) = _
  rw [if_pos (small_lt_lim (by decide)), ← i_1]

theorem awake_any (w : World) (ht : Tab w) : Calls Tryd.prog 13 #[] w fun e w' => e = .returned (.bool true) ∧ Below w.heap.size w w' := by
  have H1 := Times_any ⟨#[45, 49, 50]⟩ ⟨#[49, 50]⟩ w ht
  have e1 : doneP (fun x y => some (x * y)) (ByteArray.mk #[45, 49, 50]).data.toList (ByteArray.mk #[49, 50]).data.toList = ([45, 49, 52, 52], 0) := aw1
  rw [e1] at H1
  have H2 := fun W (h : Tab W) => Quotient_any ⟨#[45, 55]⟩ ⟨#[50]⟩ W h
  have e2 : doneP (partOp false) (ByteArray.mk #[45, 55]).data.toList (ByteArray.mk #[50]).data.toList = ([45, 51], 0) := aw2
  rw [e2] at H2
  have H3 := fun W (h : Tab W) => Rest_any ⟨#[45, 55]⟩ ⟨#[50]⟩ W h
  have e3 : doneP (partOp true) (ByteArray.mk #[45, 55]).data.toList (ByteArray.mk #[50]).data.toList = ([45, 49], 0) := aw3
  rw [e3] at H3
  have K1 := Lib.hid H1
  have K2 := Lib.hid H2
  have K3 := Lib.hid H3
  have HT := Lib.hid ht
  clear H1 H2 H3 e1 e2 e3 ht
  go_enter Tryd.func13, Tryd.ntmps13
  go_wp2_with fail
  refine K1.out.mono ?_
  rintro e w1 ⟨rfl, hb1⟩
  go_wp2_with fail
  refine (K2.out w1 (HT.out.below hb1)).mono ?_
  rintro e w2 ⟨rfl, hb2⟩
  have hb12 := hb1.trans (hb2.mono hb1.size)
  go_wp2_with fail
  refine (K3.out w2 (HT.out.below hb12)).mono ?_
  rintro e w3 ⟨rfl, hb3⟩
  have hb13 := hb12.trans (hb3.mono hb12.size)
  go_wp2_with fail
  refine bodyPost_ret (v := .bool true) (by simp [results, Tryd.results13, go_sem]) rfl ⟨rfl, hb13⟩

end Go.Proofs.YtjfmefdhfboliaaDoor
