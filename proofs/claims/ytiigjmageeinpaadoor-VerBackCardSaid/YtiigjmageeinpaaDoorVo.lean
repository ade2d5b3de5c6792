/- Walk of VerBack (its plain law is laid in as a hypothesis of the parts). -/
import Derived.Test.YtiigjmageeinpaaDoorVn
namespace Go.Proofs.YtiigjmageeinpaaDoor
open Go.RowKit Go.Shelf
open Go.Lib (itoa)

set_option maxRecDepth 100000 in
set_option maxHeartbeats 1000000 in
theorem VerBack_long (p : List UInt8) (mi : Int) (hl : 300 < p.length) (w : World) : Calls Tryd.prog 9 #[.string (bs p), .int .i64 mi] w (Yes w) := by
  have z : (300 : Int) < ((bs p).size : Int) := by rw [size_list, bs_list]; omega
  go_enter Tryd.func9, Tryd.ntmps9
  go_wp2_with fail
  go_ret
  exact ⟨rfl, Below.refl _ _⟩

set_option maxRecDepth 100000 in
set_option maxHeartbeats 2000000 in
theorem VerBack_bad (p : List UInt8) (mi : Int) (hl : p.length ≤ 300) (h0 : -9223372036854775808 ≤ mi) (h1 : mi ≤ 9223372036854775807) (h : pathB p = false ∨ mi < 0 ∨ 99 < mi) (w : World) (hG : Good w) : Calls Tryd.prog 9 #[.string (bs p), .int .i64 mi] w (Yes w) := by
  have z : ¬ (300 : Int) < ((bs p).size : Int) := by rw [size_list, bs_list]; omega
  have hw : pathB p = false ∨ textP mi = [] := h.imp id fun h => if_pos h
  have KW := Lib.hid (fun W (hb : Below w.heap.size w W) => Write_no p (by omega) mi h0 h1 hw (hG.below hb))
  obtain ⟨b, hb⟩ : ∃ b, pathB p = b := ⟨_, rfl⟩
  have KP := Lib.hid (Path_bs p (by omega) (w := w) hb)
  have KA := Lib.hid (awake_any hG)
  rw [hb] at h
  have H := Lib.hid h
  clear h hw hb
  have ha : Below w.heap.size w (w.alloc (.cells #[.string (bs p), .int .i64 mi] 24)) := (Below.refl _ w).alloc (Nat.le_refl _) _
  have HA := Lib.hid ha
  clear ha
  cases b
  · go_enter Tryd.func9, Tryd.ntmps9
    go_wp2_with fail
    refine (KW.out _ HA.out).mono ?_
    rintro e w1 ⟨rfl, hb1⟩
    have hb1' := HA.out.trans (hb1.mono HA.out.size)
    go_wp2_with fail
    refine (KP.out _ hb1').mono ?_
    rintro e w2 ⟨rfl, hb2⟩
    go_wp2_with fail
    refine (KA.out _ hb2).mono ?_
    rintro e w3 ⟨rfl, hb3⟩
    go_wp2_with fail
    go_ret
    exact ⟨rfl, hb3⟩
  · rcases (show mi < 0 ∨ 99 < mi by rcases H.out with h | h; cases h; exact h) with h | h
    · go_enter Tryd.func9, Tryd.ntmps9
      go_wp2_with fail
      refine (KW.out _ HA.out).mono ?_
      rintro e w1 ⟨rfl, hb1⟩
      have hb1' := HA.out.trans (hb1.mono HA.out.size)
      go_wp2_with fail
      refine (KP.out _ hb1').mono ?_
      rintro e w2 ⟨rfl, hb2⟩
      go_wp2_with fail
      refine (KA.out _ hb2).mono ?_
      rintro e w3 ⟨rfl, hb3⟩
      go_wp2_with fail
      go_ret
      exact ⟨rfl, hb3⟩
    · have h' : ¬ mi < 0 := by omega
      go_enter Tryd.func9, Tryd.ntmps9
      go_wp2_with fail
      refine (KW.out _ HA.out).mono ?_
      rintro e w1 ⟨rfl, hb1⟩
      have hb1' := HA.out.trans (hb1.mono HA.out.size)
      go_wp2_with fail
      refine (KP.out _ hb1').mono ?_
      rintro e w2 ⟨rfl, hb2⟩
      go_wp2_with fail
      refine (KA.out _ hb2).mono ?_
      rintro e w3 ⟨rfl, hb3⟩
      go_wp2_with fail
      go_ret
      exact ⟨rfl, hb3⟩

set_option maxRecDepth 100000 in
set_option maxHeartbeats 2000000 in
theorem VerBack_good (p : List UInt8) (mi : Int) (hl : p.length ≤ 300) (h0 : 0 ≤ mi) (h1 : mi ≤ 99) (hp : pathB p = true) (hread : readP (writeL p mi) = (p, mi, 0)) (hminor : minorP (textP mi) = (mi, 0)) (w : World) (hG : Good w) : Calls Tryd.prog 9 #[.string (bs p), .int .i64 mi] w (Yes w) := by
  have z : ¬ (300 : Int) < ((bs p).size : Int) := by rw [size_list, bs_list]; omega
  obtain ⟨t, ht⟩ : ∃ t, textP mi = t := ⟨_, rfl⟩
  have htz : t.length ≤ 100 ∧ t ≠ [] := by
    rw [← ht]
    unfold textP
    rw [if_neg (by omega)]
    have := itoa_two mi.toNat (by omega)
    rw [Int.toNat_of_nonneg h0] at this
    exact ⟨by rw [List.length_append]; simp only [List.length_cons, List.length_nil]; omega, by simp⟩
  have KW := Lib.hid (fun W (hb : Below w.heap.size w W) => Write_yes p (by omega) mi (by omega) (by omega) hp ht htz.2 htz.1 (hG.below hb))
  have KP := Lib.hid (fun W => (show Calls Tryd.prog 13 #[.string (bs p)] W (Out W.heap.size W (.bool true)) from Path_bs p (by omega) (w := W) hp W (Below.refl _ _)))
  have KT := Lib.hid (fun W (hb : Below w.heap.size w W) => Text_any (n := mi) (by omega) (by omega) (hG.below hb) ht W (Below.refl _ _))
  rw [ht] at hminor
  have KM := Lib.hid (fun W (hb : Below w.heap.size w W) => Minor_bs t (by omega) (hG.below hb) hminor W (Below.refl _ _))
  have KR := Lib.hid (fun v W (hb : Below w.heap.size w W) => Read_bs (writeL p mi) v (hG.below hb) hread W (Below.refl _ _))
  have KA := Lib.hid (awake_any hG)
  have HE := Lib.hid ht
  have n0 : ¬ mi < 0 := by omega
  have n1 : ¬ 99 < mi := by omega
  have ha : Below w.heap.size w (w.alloc (.cells #[.string (bs p), .int .i64 mi] 24)) := (Below.refl _ w).alloc (Nat.le_refl _) _
  have HA := Lib.hid ha
  have HZ := Lib.hid (show 0 < (writeL p mi).length by simp [writeL])
  clear ha ht htz hread hminor hp
  go_enter Tryd.func9, Tryd.ntmps9
  go_wp2_with fail
  refine (KW.out _ HA.out).mono ?_
  rintro e w1 ⟨v, rfl, hv, hb1⟩
  have hb1' := HA.out.trans (hb1.mono HA.out.size)
  obtain ⟨a, c, rfl⟩ := hv.len
  have HV := Lib.hid hv
  clear hv
  have d1 : w1.cell? ⟨w.heap.size, 0, none⟩ = some (.string (bs p)) := keeps_cell hb1 (by simp [go_sem])
  have d2 : w1.cell? ⟨w.heap.size, 1, none⟩ = some (.int .i64 mi) := keeps_cell hb1 (by simp [go_sem])
  have HD := Lib.hid (And.intro d1 d2)
  clear d1 d2
  go_wp2_with fail
  refine (KP.out _).mono ?_
  rintro e w2 ⟨rfl, hb2⟩
  have hb2' := hb1'.trans (hb2.mono hb1'.size)
  have d2 := keeps_cell hb2 HD.out.1
  have e2 := keeps_cell hb2 HD.out.2
  have HD2 := Lib.hid (And.intro d2 e2)
  clear d2 e2
  go_wp2_with fail
  refine (KR.out _ _ hb2' (HV.out.below hb2)).mono ?_
  rintro e w3 ⟨rfl, hb3⟩
  have hb3' := hb2'.trans (hb3.mono hb2'.size)
  have d3 := keeps_cell hb3 HD2.out.1
  have e3 := keeps_cell hb3 HD2.out.2
  have hb4 := hb3'.alloc hb3'.size (.cells #[.string (bs p), .int .i64 mi] 24)
  have x1 : (w3.alloc (.cells #[.string (bs p), .int .i64 mi] 24)).cell? ⟨w3.heap.size, 0, none⟩ = some (.string (bs p)) := by simp [go_sem]
  have x2 : (w3.alloc (.cells #[.string (bs p), .int .i64 mi] 24)).cell? ⟨w3.heap.size, 1, none⟩ = some (.int .i64 mi) := by simp [go_sem]
  have ha3 : Below w3.heap.size w3 (w3.alloc (.cells #[.string (bs p), .int .i64 mi] 24)) := (Below.refl _ w3).alloc (Nat.le_refl _) _
  have y1 := keeps_cell ha3 d3
  have y2 := keeps_cell ha3 e3
  have HX := Lib.hid (And.intro x1 (And.intro x2 (And.intro y1 y2)))
  clear d3 e3 x1 x2 y1 y2 ha3
  go_wp2_with fail
  refine (KT.out _ hb4).mono ?_
  rintro e w5 ⟨rfl, hb5⟩
  have hb5' := hb4.trans (hb5.mono hb4.size)
  go_wp2_with fail
  refine (KM.out _ hb5').mono ?_
  rintro e w6 ⟨rfl, hb6⟩
  have hb6' := hb5'.trans (hb6.mono hb5'.size)
  have x1 := keeps_cell hb6 (keeps_cell hb5 HX.out.1)
  have x2 := keeps_cell hb6 (keeps_cell hb5 HX.out.2.1)
  have y1 := keeps_cell hb6 (keeps_cell hb5 HX.out.2.2.1)
  have y2 := keeps_cell hb6 (keeps_cell hb5 HX.out.2.2.2)
  go_wp2_with fail
  refine (KA.out _ hb6').mono ?_
  rintro e w7 ⟨rfl, hb7⟩
  go_wp2_with fail
  go_ret
  exact ⟨rfl, hb7⟩

end Go.Proofs.YtiigjmageeinpaaDoor
