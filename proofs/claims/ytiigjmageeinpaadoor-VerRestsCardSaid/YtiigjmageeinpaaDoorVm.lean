/- Walk of VerRests. -/
import Derived.Test.YtiigjmageeinpaaDoorVj
import Derived.Test.YtiigjmageeinpaaDoorVk
namespace Go.Proofs.YtiigjmageeinpaaDoor
open Go.RowKit Go.Shelf
open Go.Lib (itoa)

theorem restW {m k : Nat} (hm : m < 100) (hk : k < 100) : minorP ([49, 46] ++ itoa (m : Int) ++ [46] ++ itoa (k : Int)) = ((m : Int), 0) ∧ minorP ([49, 46] ++ itoa (m : Int) ++ [114, 99] ++ itoa (k : Int)) = ((m : Int), 0) ∧
    minorP ([49, 46] ++ itoa (m : Int) ++ [98, 101, 116, 97] ++ itoa (k : Int)) = ((m : Int), 0) ∧ minorP ([49, 46] ++ itoa (m : Int) ++ [120] ++ itoa (k : Int)) = (0, 6) := by
  have h := rest_ok hm hk
  simp only [restOk, Bool.and_eq_true, beq_iff_eq] at h
  exact ⟨h.1.1.1, h.1.1.2, h.1.2, h.2⟩

set_option maxRecDepth 100000 in
set_option maxHeartbeats 2000000 in
theorem VerRests_walk (a b : Int) (h0 : 0 ≤ a) (h1 : a ≤ 65535) (h2 : 0 ≤ b) (h3 : b ≤ 65535) (w : World) (hG : Good w) : Calls Tryd.prog 8 #[.int .u16 a, .int .u16 b] w (Yes w) := by
  obtain ⟨m, hm⟩ : ∃ m : Nat, Int.tmod a 100 = m := ⟨(Int.tmod a 100).toNat, by rw [Int.tmod_eq_emod_of_nonneg h0]; omega⟩
  obtain ⟨k, hk⟩ : ∃ k : Nat, Int.tmod b 100 = k := ⟨(Int.tmod b 100).toNat, by rw [Int.tmod_eq_emod_of_nonneg h2]; omega⟩
  have lm : m < 100 := by rw [Int.tmod_eq_emod_of_nonneg h0] at hm; omega
  have lk : k < 100 := by rw [Int.tmod_eq_emod_of_nonneg h2] at hk; omega
  obtain ⟨M, hM⟩ : ∃ M, [49, 46] ++ itoa (m : Int) = M := ⟨_, rfl⟩
  obtain ⟨D, hD⟩ : ∃ D, [49, 46] ++ itoa (k : Int) = D := ⟨_, rfl⟩
  obtain ⟨K, hK⟩ : ∃ K, itoa (k : Int) = K := ⟨_, rfl⟩
  have tm : textP (m : Int) = M := (if_neg (by omega)).trans hM
  have tk : textP (k : Int) = D := (if_neg (by omega)).trans hD
  have KT := Lib.hid (Text_any (n := (k : Int)) (by omega) (by omega) hG tk)
  have KM := Lib.hid (Text_any (n := (m : Int)) (by omega) (by omega) hG tm)
  have KA := Lib.hid (awake_any hG)
  have zM : (bs M).size ≤ 4 := by
    rw [size_list, bs_list, ← hM, List.length_append]
    have := itoa_two m lm
    simp only [List.length_cons, List.length_nil]; omega
  have zK : (bs K).size ≤ 2 := by rw [size_list, bs_list, ← hK]; exact itoa_two k lk
  have hcut : (bs D).extract 2 (bs D).size = bs K := by rw [bs_drop, ← hD, hK]; rfl
  have zD : 3 ≤ (bs D).size := by
    rw [size_list, bs_list, ← hD, List.length_append]
    have : 0 < (itoa (k : Int)).length := by
      unfold itoa
      rw [if_neg (by omega), Lib.decDigits_length]
      unfold Lib.nDigits; split <;> omega
    simp only [List.length_cons, List.length_nil]; omega
  have zi : ¬ ((bs D).size : Int) < 3 := by omega
  have z2 : ¬ ((bs D).size < 2) := by omega
  have hs : ∀ W : World, (Instr.slice 9 (.string (bs D)) (some (.int .i64 2)) none none).run Tryd.prog W = .ok (.string (bs K)) W := fun W => by
    rw [← hcut]
    have : (2 : Int) ≤ (bs D).size := by omega
    simp [go_sem, Tryd.underlying9, this]
  have app : ∀ (P : List UInt8) (p : ByteArray), p = bs P → bs M ++ p ++ bs K = bs (M ++ P ++ K) := fun P p h => by rw [h, bs_append, bs_append]
  have lim : ∀ P : List UInt8, P.length ≤ 4 → (M ++ P ++ K).length ≤ 100000 := fun P h => by
    rw [size_list, bs_list] at zM zK
    rw [List.length_append, List.length_append]; omega
  have hrk := restW lm lk
  rw [hM, hK] at hrk
  obtain ⟨r1, r2, r3, r4⟩ := hrk
  have K1 := Minor_bs (M ++ [46] ++ K) (lim _ (by decide)) hG r1
  have K2 := Minor_bs (M ++ [114, 99] ++ K) (lim _ (by decide)) hG r2
  have K3 := Minor_bs (M ++ [98, 101, 116, 97] ++ K) (lim _ (by decide)) hG r3
  have K4 := Minor_bs (M ++ [120] ++ K) (lim _ (by decide)) hG r4
  rw [← app [46] ⟨#[46]⟩ rfl] at K1
  rw [← app [114, 99] ⟨#[114, 99]⟩ rfl] at K2
  rw [← app [98, 101, 116, 97] ⟨#[98, 101, 116, 97]⟩ rfl] at K3
  rw [← app [120] ⟨#[120]⟩ rfl] at K4
  have H1 := Lib.hid K1
  have H2 := Lib.hid K2
  have H3 := Lib.hid K3
  have H4 := Lib.hid K4
  clear K1 K2 K3 K4 r1 r2 r3 r4 app lim
  have t1 : ¬ (9223372036854775807 < (bs M).size + 1) := by omega
  have t2 : ¬ (9223372036854775807 < (bs M).size + 2) := by omega
  have t3 : ¬ (9223372036854775807 < (bs M).size + 4) := by omega
  have u1 : ¬ (9223372036854775807 < (bs M).size + 1 + (bs K).size) := by omega
  have u2 : ¬ (9223372036854775807 < (bs M).size + 2 + (bs K).size) := by omega
  have u3 : ¬ (9223372036854775807 < (bs M).size + 4 + (bs K).size) := by omega
  clear tm tk zM zK zD hcut
  go_enter Tryd.func8, Tryd.ntmps8
  go_wp2_with fail
  refine (KT.out _ (Below.refl _ _)).mono ?_
  rintro e w1 ⟨rfl, hb1⟩
  go_wp2_with fail
  first | go_region_with (first | (go_at_call 17; refine (KM.out _ (hb1.drew)).mono ?_; rintro e w2 ⟨rfl, hb2⟩) | (go_at_call 14; refine (H1.out _ hb2).mono ?_; rintro e w3 ⟨rfl, hb3⟩)) | fail
  go_wp2_with fail
  first | go_region_with (first | (go_at_call 17; refine (KM.out _ (hb3.drew)).mono ?_; rintro e w4 ⟨rfl, hb4⟩) | (go_at_call 14; refine (H2.out _ hb4).mono ?_; rintro e w5 ⟨rfl, hb5⟩)) | fail
  go_wp2_with fail
  first | go_region_with (first | (go_at_call 17; refine (KM.out _ (hb5.drew)).mono ?_; rintro e w6 ⟨rfl, hb6⟩) | (go_at_call 14; refine (H3.out _ hb6).mono ?_; rintro e w7 ⟨rfl, hb7⟩)) | fail
  go_wp2_with fail
  first | go_region_with (first | (go_at_call 17; refine (KM.out _ (hb7.drew)).mono ?_; rintro e w8 ⟨rfl, hb8⟩) | (go_at_call 14; refine (H4.out _ hb8).mono ?_; rintro e w9 ⟨rfl, hb9⟩)) | fail
  go_wp2_with fail
  refine (KA.out _ hb9).mono ?_
  rintro e w10 ⟨rfl, hb10⟩
  go_wp2_with fail
  go_ret
  exact ⟨rfl, hb10⟩

end Go.Proofs.YtiigjmageeinpaaDoor
