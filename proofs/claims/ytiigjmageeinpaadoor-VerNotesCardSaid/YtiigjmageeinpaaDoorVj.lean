/- Walk of VerPaths: two paths with a stroke between. -/
import Derived.Test.YtiigjmageeinpaaDoorVi
namespace Go.Proofs.YtiigjmageeinpaaDoor
open Go.RowKit Go.Shelf

/-- The law's answer. -/
def Yes (w : World) (e : Ending) (w' : World) : Prop := e = .returned (.bool true) ∧ Below w.heap.size w w'

theorem splitC_join (c : UInt8) (b : List UInt8) : ∀ a : List UInt8, splitC c (a ++ c :: b) = splitC c a ++ splitC c b
  | [] => by
    show splitC c (c :: b) = [[]] ++ splitC c b
    rw [splitC, if_pos rfl]
    rfl
  | x :: a => by
    have ih := splitC_join c b a
    rw [List.cons_append, splitC, ih, splitC]
    split
    · rfl
    · cases h : splitC c a with
      | nil => exact absurd h (splitC_ne c a)
      | cons p ps => rfl

theorem path_join {a b : List UInt8} (ha : a.length ≤ 99) (hb : b.length ≤ 99) : pathB (a ++ 47 :: b) = (pathB a && pathB b) := by
  unfold pathB
  rw [splitC_join, List.all_append]
  have h1 : decide ((a ++ 47 :: b).length ≤ 200) = true := decide_eq_true (by rw [List.length_append, List.length_cons]; omega)
  have h2 : decide (a.length ≤ 200) = true := decide_eq_true (by omega)
  have h3 : decide (b.length ≤ 200) = true := decide_eq_true (by omega)
  rw [h1, h2, h3, Bool.and_true, Bool.and_true, Bool.and_true]

set_option maxRecDepth 100000 in
set_option maxHeartbeats 1000000 in
theorem VerPaths_walk (sa sb : ByteArray) (w : World) (hG : Good w) : Calls Tryd.prog 5 #[.string sa, .string sb] w (Yes w) := by
  rw [bs_of sa, bs_of sb]
  generalize sa.data.toList = a
  generalize sb.data.toList = b
  have za : (bs a).size = a.length := by rw [size_list, bs_list]
  have zb : (bs b).size = b.length := by rw [size_list, bs_list]
  by_cases ha : (99 : Int) < ((bs a).size : Int)
  · go_enter Tryd.func5, Tryd.ntmps5
    go_wp2_with fail
    go_ret
    exact ⟨rfl, Below.refl _ _⟩
  · by_cases hb : (99 : Int) < ((bs b).size : Int)
    · go_enter Tryd.func5, Tryd.ntmps5
      go_wp2_with fail
      go_ret
      exact ⟨rfl, Below.refl _ _⟩
    · have la : a.length ≤ 99 := by omega
      have lb : b.length ≤ 99 := by omega
      obtain ⟨x, hx⟩ : ∃ x, pathB a = x := ⟨_, rfl⟩
      obtain ⟨y, hy⟩ : ∃ y, pathB b = y := ⟨_, rfl⟩
      have hj := path_join la lb
      rw [hx, hy] at hj
      have KA := Lib.hid (awake_any hG)
      have K1 := Lib.hid (Path_bs (a ++ 47 :: b) (by rw [List.length_append, List.length_cons]; omega) (w := w) hj)
      have K2 := Lib.hid (Path_bs a (by omega) (w := w) hx)
      have K3 := Lib.hid (Path_bs b (by omega) (w := w) hy)
      have e1 : bs a ++ ⟨#[47]⟩ ++ bs b = bs (a ++ 47 :: b) := by
        show bs a ++ bs [47] ++ bs b = _
        rw [bs_append, bs_append, List.append_assoc]
        rfl
      have s1 : ¬ (9223372036854775807 < (bs a).size + 1) := by omega
      have s2 : ¬ (9223372036854775807 < (bs a).size + 1 + (bs b).size) := by omega
      have E1 := Lib.hid e1
      clear hx hy hj e1
      cases x <;> cases y
      · go_enter Tryd.func5, Tryd.ntmps5
        go_wp2_with fail
        rw [E1.out]
        refine (K1.out _ (Below.refl _ _)).mono ?_
        rintro e w1 ⟨rfl, hb1⟩
        go_wp2_with fail
        refine (K2.out _ hb1).mono ?_
        rintro e w2 ⟨rfl, hb2⟩
        go_wp2_with fail
        refine (KA.out _ hb2).mono ?_
        rintro e w3 ⟨rfl, hb3⟩
        go_wp2_with fail
        go_ret
        exact ⟨rfl, hb3⟩
      · go_enter Tryd.func5, Tryd.ntmps5
        go_wp2_with fail
        rw [E1.out]
        refine (K1.out _ (Below.refl _ _)).mono ?_
        rintro e w1 ⟨rfl, hb1⟩
        go_wp2_with fail
        refine (K2.out _ hb1).mono ?_
        rintro e w2 ⟨rfl, hb2⟩
        go_wp2_with fail
        refine (KA.out _ hb2).mono ?_
        rintro e w3 ⟨rfl, hb3⟩
        go_wp2_with fail
        go_ret
        exact ⟨rfl, hb3⟩
      · go_enter Tryd.func5, Tryd.ntmps5
        go_wp2_with fail
        rw [E1.out]
        refine (K1.out _ (Below.refl _ _)).mono ?_
        rintro e w1 ⟨rfl, hb1⟩
        go_wp2_with fail
        refine (K2.out _ hb1).mono ?_
        rintro e w2 ⟨rfl, hb2⟩
        go_wp2_with fail
        refine (K3.out _ hb2).mono ?_
        rintro e w3 ⟨rfl, hb3⟩
        go_wp2_with fail
        refine (KA.out _ hb3).mono ?_
        rintro e w4 ⟨rfl, hb4⟩
        go_wp2_with fail
        go_ret
        exact ⟨rfl, hb4⟩
      · go_enter Tryd.func5, Tryd.ntmps5
        go_wp2_with fail
        rw [E1.out]
        refine (K1.out _ (Below.refl _ _)).mono ?_
        rintro e w1 ⟨rfl, hb1⟩
        go_wp2_with fail
        refine (K2.out _ hb1).mono ?_
        rintro e w2 ⟨rfl, hb2⟩
        go_wp2_with fail
        refine (K3.out _ hb2).mono ?_
        rintro e w3 ⟨rfl, hb3⟩
        go_wp2_with fail
        refine (KA.out _ hb3).mono ?_
        rintro e w4 ⟨rfl, hb4⟩
        go_wp2_with fail
        go_ret
        exact ⟨rfl, hb4⟩

end Go.Proofs.YtiigjmageeinpaaDoor
