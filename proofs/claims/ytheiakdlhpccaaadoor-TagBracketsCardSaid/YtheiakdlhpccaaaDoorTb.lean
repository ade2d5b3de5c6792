/- Walk: version. -/
import Derived.Test.YtheiakdlhpccaaaDoorTa
namespace Go.Proofs.YtheiakdlhpccaaaDoor
open Go.RowKit Go.Shelf
open Go.Lib (itoa atoiAll)

theorem itoa_at {n : Int} (h0 : -9223372036854775808 ≤ n) (h1 : n ≤ 9223372036854775807) {w : World} (hG : Good w) : ∀ W, Below w.heap.size w W → Calls Tryd.prog 60 #[.int .i64 n] W (Out w.heap.size w (.string (bs (itoa n)))) := by
  intro W hW
  refine (Tryd.strconv_Itoa n h0 h1 W (hG.below hW).tab).mono ?_
  rintro e w' ⟨rfl, k, os, rfl⟩
  exact ⟨rfl, hW.trans ((grow_below W k os).mono hW.size)⟩

theorem atoi_ok (l : List UInt8) (hl : l.length ≤ 140737488355328) {v : Int} (h : atoiAll l = .ok v) (w : World) : ∀ W, Below w.heap.size w W → Calls Tryd.prog 59 #[.string (bs l)] W (Out w.heap.size w (.tuple #[.int .i64 v, .nilIface])) := by
  intro W hW
  refine (Tryd.strconv_Atoi_ok (bs l) (by rw [size_list, bs_list]; omega) v h W).mono ?_
  rintro e w' ⟨rfl, hw⟩
  refine ⟨rfl, hW.trans ?_⟩
  rcases hw with rfl | ⟨t, rfl⟩
  · exact (Below.refl _ _).mono hW.size
  · exact (Go.Lib.bytesWorld_below W 5 t).mono hW.size

theorem third {x : Go.Lib.NumEnd Int} (h1 : ∀ v, x ≠ .ok v) (h2 : x ≠ .range) : x = atoiAll [] := by
  cases x with
  | ok v => exact absurd rfl (h1 v)
  | range => exact absurd rfl h2
  | _ => rfl

theorem atoi_no (l : List UInt8) (hl : l.length ≤ 140737488355328) (h : ∀ v, atoiAll l ≠ .ok v) {w : World} (hG : Good w) : ∀ W, Below w.heap.size w W →
    Calls Tryd.prog 59 #[.string (bs l)] W fun e w' => ∃ n t p, e = .returned (.tuple #[.int .i64 n, .iface t p]) ∧ Below w.heap.size w w' := by
  intro W hW
  have hz : (bs l).size ≤ 281474976710656 := by rw [size_list, bs_list]; omega
  by_cases h2 : atoiAll l = .range
  · obtain ⟨a, b, hab⟩ := (hG.below hW).er
    refine (Tryd.strconv_Atoi_range (bs l) hz h2 _ W hab (.inr ⟨a, b, rfl⟩)).mono ?_
    rintro e w' ⟨N, rfl, _, _, hb⟩
    exact ⟨_, _, _, rfl, hW.trans (hb.mono hW.size)⟩
  · obtain ⟨a, b, hab⟩ := (hG.below hW).es
    refine (Tryd.strconv_Atoi_syntax (bs l) hz (third h h2) _ W hab (.inr ⟨a, b, rfl⟩)).mono ?_
    rintro e w' ⟨N, rfl, _, _, hb⟩
    exact ⟨_, _, _, rfl, hW.trans (hb.mono hW.size)⟩

/-- "go1." -/
def kGo : List UInt8 := [103, 111, 49, 46]
/-- The number of a version's text behind "go1.". -/
def verOf (r : List UInt8) : Int := match atoiAll r with | .ok v => if itoa v = r ∧ 0 ≤ v ∧ v ≤ 99 then v else -1 | _ => -1
/-- version: a tag's; -1: it is none. -/
def verB (l : List UInt8) : Int := if Lib.hasPrefix l kGo = true then verOf (Lib.trimPrefix l kGo) else -1

theorem trim_len (l p : List UInt8) : (Lib.trimPrefix l p).length ≤ l.length := by
  unfold Lib.trimPrefix
  split <;> simp

set_option maxRecDepth 100000 in
set_option maxHeartbeats 2000000 in
theorem version_any (l : List UInt8) (hl : l.length ≤ 140737488355328) {w : World} (hG : Good w) : Calls Tryd.prog 45 #[.string (bs l)] w (Out w.heap.size w (.int .i64 (verB l))) := by
  have HC := Lib.hid (Tryd.strings_CutPrefix (bs l) (bs kGo) w)
  obtain ⟨r, hr⟩ : ∃ r, Lib.trimPrefix l kGo = r := ⟨_, rfl⟩
  obtain ⟨i, hi⟩ : ∃ i, Lib.hasPrefix l kGo = i := ⟨_, rfl⟩
  have hrl : r.length ≤ 140737488355328 := by rw [← hr]; have := trim_len l kGo; omega
  have hv : verB l = if i = true then verOf r else -1 := by unfold verB; rw [hi, hr]
  have hcp : Calls Tryd.prog 38 #[.string (bs l), .string ⟨#[103, 111, 49, 46]⟩] w fun e w' => e = .returned (.tuple #[.string (bs r), .bool i]) ∧ w' = w := by
    have := HC.out
    rw [bs_list, bs_list, hr, hi] at this
    exact this
  have HCP := Lib.hid hcp
  clear HC hcp hr hi
  obtain ⟨R, hR⟩ : ∃ R, verB l = R := ⟨_, rfl⟩
  rw [hR]
  rw [hR] at hv
  by_cases hok : ∃ v, atoiAll r = .ok v
  · obtain ⟨v, hok⟩ := hok
    obtain ⟨lo, hi'⟩ := Lib.atoiAll_bounds hok
    have HA := Lib.hid (atoi_ok r hrl hok w)
    have HI := Lib.hid (itoa_at lo hi' hG)
    have hvo : verOf r = if itoa v = r ∧ 0 ≤ v ∧ v ≤ 99 then v else -1 := by unfold verOf; rw [hok]
    rw [hvo] at hv
    clear hok hvo hR
    cases i
    · obtain rfl : R = -1 := hv
      go_enter Tryd.func45, Tryd.ntmps45
      go_wp2_with fail
      refine HCP.out.mono ?_
      rintro e w1 ⟨rfl, rfl⟩
      go_wp2_with fail
      refine (HA.out _ (Below.refl _ _)).mono ?_
      rintro e w2 ⟨rfl, hb2⟩
      go_wp2_with fail
      go_ret
      exact ⟨rfl, hb2⟩
    · by_cases he : itoa v = r
      · have hne : ((bs (itoa v)).toList == (bs r).toList) = true := by rw [he]; simp
        have hne2 : (bs (itoa v)).toList = (bs r).toList := by rw [he]
        by_cases h0 : v < 0
        · obtain rfl : R = -1 := by rw [hv, if_pos rfl, if_neg (by omega)]
          clear he hv
          go_enter Tryd.func45, Tryd.ntmps45
          go_wp2_with fail
          refine HCP.out.mono ?_
          rintro e w1 ⟨rfl, rfl⟩
          go_wp2_with fail
          refine (HA.out _ (Below.refl _ _)).mono ?_
          rintro e w2 ⟨rfl, hb2⟩
          go_wp2_with fail
          refine (HI.out _ hb2).mono ?_
          rintro e w3 ⟨rfl, hb3⟩
          go_wp2_with fail
          go_ret
          exact ⟨rfl, hb3⟩
        · by_cases h9 : 99 < v
          · obtain rfl : R = -1 := by rw [hv, if_pos rfl, if_neg (by omega)]
            clear he hv
            go_enter Tryd.func45, Tryd.ntmps45
            go_wp2_with fail
            refine HCP.out.mono ?_
            rintro e w1 ⟨rfl, rfl⟩
            go_wp2_with fail
            refine (HA.out _ (Below.refl _ _)).mono ?_
            rintro e w2 ⟨rfl, hb2⟩
            go_wp2_with fail
            refine (HI.out _ hb2).mono ?_
            rintro e w3 ⟨rfl, hb3⟩
            go_wp2_with fail
            go_ret
            exact ⟨rfl, hb3⟩
          · obtain rfl : R = v := by rw [hv, if_pos rfl, if_pos ⟨he, by omega, by omega⟩]
            clear he hv
            go_enter Tryd.func45, Tryd.ntmps45
            go_wp2_with fail
            refine HCP.out.mono ?_
            rintro e w1 ⟨rfl, rfl⟩
            go_wp2_with fail
            refine (HA.out _ (Below.refl _ _)).mono ?_
            rintro e w2 ⟨rfl, hb2⟩
            go_wp2_with fail
            refine (HI.out _ hb2).mono ?_
            rintro e w3 ⟨rfl, hb3⟩
            go_wp2_with fail
            go_ret
            exact ⟨rfl, hb3⟩
      · have hne : ((bs (itoa v)).toList == (bs r).toList) = false := by rw [bs_toList, bs_toList]; simpa using he
        have hne2 : ¬ (bs (itoa v)).toList = (bs r).toList := by rw [bs_toList, bs_toList]; exact he
        obtain rfl : R = -1 := by rw [hv, if_pos rfl, if_neg (fun h => he h.1)]
        clear he hv
        go_enter Tryd.func45, Tryd.ntmps45
        go_wp2_with fail
        refine HCP.out.mono ?_
        rintro e w1 ⟨rfl, rfl⟩
        go_wp2_with fail
        refine (HA.out _ (Below.refl _ _)).mono ?_
        rintro e w2 ⟨rfl, hb2⟩
        go_wp2_with fail
        refine (HI.out _ hb2).mono ?_
        rintro e w3 ⟨rfl, hb3⟩
        go_wp2_with fail
        go_ret
        exact ⟨rfl, hb3⟩
  · have hno : ∀ v, atoiAll r ≠ .ok v := fun v h => hok ⟨v, h⟩
    have HA := Lib.hid (atoi_no r hrl hno hG)
    have hvo : verOf r = -1 := by
      unfold verOf
      split
      · rename_i v h
        exact absurd h (hno v)
      · rfl
    rw [hvo] at hv
    clear hno hok hvo hR
    cases i
    · obtain rfl : R = -1 := hv
      go_enter Tryd.func45, Tryd.ntmps45
      go_wp2_with fail
      refine HCP.out.mono ?_
      rintro e w1 ⟨rfl, rfl⟩
      go_wp2_with fail
      refine (HA.out _ (Below.refl _ _)).mono ?_
      rintro e w2 ⟨n, t, p, rfl, hb2⟩
      go_wp2_with fail
      go_ret
      exact ⟨rfl, hb2⟩
    · obtain rfl : R = -1 := hv
      go_enter Tryd.func45, Tryd.ntmps45
      go_wp2_with fail
      refine HCP.out.mono ?_
      rintro e w1 ⟨rfl, rfl⟩
      go_wp2_with fail
      refine (HA.out _ (Below.refl _ _)).mono ?_
      rintro e w2 ⟨n, t, p, rfl, hb2⟩
      go_wp2_with fail
      go_ret
      exact ⟨rfl, hb2⟩

end Go.Proofs.YtheiakdlhpccaaaDoor
