/- Walks through Right and Text of package big. -/
import Derived.Test.YtjfmefdhfboliaaDoorWn
namespace Go.Proofs.YtjfmefdhfboliaaDoor
open Go.RowKit Go.Shelf Num
open Go.Lib (decDigits nDigits decDigits_length itoa)

theorem Right_any (a : ByteArray) (w : World) : Calls Tryd.prog 19 #[.string a] w fun e w' => e = .returned (.bool (right? a.data.toList).isSome) ∧ Below w.heap.size w w' := by
  obtain ⟨x, hx⟩ : ∃ x, (num? a.data.toList).getD 0 = x := ⟨_, rfl⟩
  obtain ⟨ia, hia⟩ : ∃ i, (num? a.data.toList).isSome = i := ⟨_, rfl⟩
  have HPa := Lib.hid (parse_at a x ia hx hia w)
  obtain ⟨p, hp⟩ : ∃ p, (right? a.data.toList).isSome = p := ⟨_, rfl⟩
  have hgo : p = (ia && !decide (lim ≤ x.natAbs)) := by
    rw [← hp, ← hia, ← hx]
    unfold right?
    cases h : num? a.data.toList with
    | none => rfl
    | some v =>
      by_cases hv : v.natAbs < lim
      · simp [Option.filter, hv, Nat.not_le.2 hv]
      · simp [Option.filter, hv, Nat.not_lt.1 hv]
  obtain ⟨gx, hgx⟩ : ∃ i, decide (lim ≤ x.natAbs) = i := ⟨_, rfl⟩
  rw [hgx] at hgo
  rw [hp]
  have HG := Lib.hid (And.intro hgo hgx)
  clear hgo hgx hp hx hia
  go_enter Tryd.func19, Tryd.ntmps19
  go_wp2_with fail
  refine HPa.out.mono ?_
  rintro e w1 ⟨va, rfl, hra, hb1⟩
  obtain ⟨A, ca, rfl, hA⟩ := hra.form
  have hbx : Below w1.heap.size w1 (w1.alloc (.cells #[.bool (decide (x < 0)), .slice A (limbs x.natAbs).length ca] 43)) := (Below.refl _ _).alloc (Nat.le_refl _) _
  have hbw := hb1.trans (hbx.mono hb1.size)
  have HW := Lib.hid (wide_any x _ _ (hra.below hbx))
  rw [HG.out.2] at HW
  clear hra hA hbx hb1
  cases ia
  · have hp : p = false := by rw [HG.out.1]; rfl
    have HPf := Lib.hid hp
    clear hp
    go_wp2_with fail
    refine bodyPost_ret (v := .bool false) (by simp [results, Tryd.results19, go_sem]) rfl ⟨by rw [HPf.out], hbw⟩
  · have hp : p = !gx := by rw [HG.out.1]; rfl
    have HPf := Lib.hid hp
    clear hp
    go_wp2_with fail
    refine HW.out.mono ?_
    rintro e w2 ⟨rfl, hb2⟩
    go_wp2_with fail
    refine bodyPost_ret (v := .bool (!gx)) (by simp [results, Tryd.results19, go_sem]) rfl ⟨by rw [HPf.out], hbw.trans (hb2.mono hbw.size)⟩

theorem Text_any (n : Int) (h0 : -9223372036854775808 ≤ n) (h1 : n ≤ 9223372036854775807) (w : World) (ht : Tab w) :
    Calls Tryd.prog 11 #[.int .i64 n] w fun e w' => e = .returned (.string ⟨(itoa n).toArray⟩) ∧ Below w.heap.size w w' := by
  have H := Lib.hid (Tryd.strconv_Itoa n h0 h1 w ht)
  go_enter Tryd.func11, Tryd.ntmps11
  go_wp2_with fail
  refine H.out.mono ?_
  rintro e w' ⟨rfl, k, os, rfl⟩
  have hb := grown_below w k os
  go_wp2_with fail
  refine bodyPost_ret (v := .string ⟨(itoa n).toArray⟩) (by simp [results, Tryd.results11, go_sem]) rfl ⟨rfl, hb⟩

end Go.Proofs.YtjfmefdhfboliaaDoor
