/- Walk: Write. -/
import Derived.Test.YtiigjmageeinpaaDoorVj
import Derived.Lib.ConvBytes
namespace Go.Proofs.YtiigjmageeinpaaDoor
open Go.RowKit Go.Shelf
open Go.Lib (itoa)

/-- What Write writes. -/
def writeL (p : List UInt8) (mi : Int) : List UInt8 := [109, 111, 100, 117, 108, 101, 32] ++ p ++ [10, 10, 103, 111, 32] ++ textP mi ++ [10]

theorem byt_conv (W : World) (l : List UInt8) (c : Nat) : Byt (Lib.bytesWorld W 5 (bs l)) (.slice (some ⟨W.heap.size, 0, none⟩) (bs l).size c) l := by
  rw [show (bs l).size = l.length by rw [size_list, bs_list]]
  refine Byt.mk' fun i hi => ?_
  have := Lib.bytesWorld_cell W 5 (bs l) i (by rw [size_list, bs_list]; exact hi)
  rw [bs_list] at this
  rw [Nat.zero_add]
  exact this

set_option maxHeartbeats 1000000 in
theorem Write_no (p : List UInt8) (hl : p.length ≤ 1000) (mi : Int) (h0 : -9223372036854775808 ≤ mi) (h1 : mi ≤ 9223372036854775807) (h : pathB p = false ∨ textP mi = []) {w : World} (hG : Good w) :
    Calls Tryd.prog 19 #[.agg #[.string (bs p), .int .i64 mi]] w (Out w.heap.size w (.slice none 0 0)) := by
  obtain ⟨b, hb⟩ : ∃ b, pathB p = b := ⟨_, rfl⟩
  obtain ⟨t, ht⟩ : ∃ t, textP mi = t := ⟨_, rfl⟩
  have K1 := fun W => Path_walk p (by omega) W
  rw [hb] at K1
  rw [hb, ht] at h
  have KP := Lib.hid K1
  have HT := Lib.hid ht
  have HG := Lib.hid hG
  have H := Lib.hid h
  clear h K1 hb
  cases b
  · go_enter Tryd.func19, Tryd.ntmps19
    go_wp2_with fail
    refine (KP.out _).mono ?_
    rintro e w1 ⟨rfl, hb1⟩
    go_wp2_with fail
    go_ret
    exact ⟨rfl, ((Below.refl _ w).alloc (Nat.le_refl _) _).trans (hb1.mono (by simp))⟩
  · obtain rfl : t = [] := by rcases H.out with h | h; cases h; exact h
    have ht0 : (bs []).toList = [] := by rw [ByteArray.toList_eq, bs_list]
    go_enter Tryd.func19, Tryd.ntmps19
    go_wp2_with fail
    refine (KP.out _).mono ?_
    rintro e w1 ⟨rfl, hb1⟩
    have c2 : w1.cell? ⟨w.heap.size, 1, none⟩ = some (.int .i64 mi) := keeps_cell hb1 (by simp [go_sem])
    have hb2 := ((Below.refl _ w).alloc (Nat.le_refl _) (.cells #[.string (bs p), .int .i64 mi] 24)).trans (hb1.mono (by simp))
    go_wp2_with fail
    refine (Text_any h0 h1 HG.out HT.out _ hb2).mono ?_
    rintro e w3 ⟨rfl, hb3⟩
    go_wp2_with fail
    go_ret
    exact ⟨rfl, hb3⟩

theorem written {p t : List UInt8} {mi : Int} (h : textP mi = t) : (⟨#[109, 111, 100, 117, 108, 101, 32]⟩ : ByteArray) ++ bs p ++ ⟨#[10, 10, 103, 111, 32]⟩ ++ bs t ++ ⟨#[10]⟩ = bs (writeL p mi) := by
  subst h
  show bs [109, 111, 100, 117, 108, 101, 32] ++ bs p ++ bs [10, 10, 103, 111, 32] ++ bs (textP mi) ++ bs [10] = _
  rw [bs_append, bs_append, bs_append, bs_append]
  rfl
theorem written_size {p t : List UInt8} {mi : Int} (h : textP mi = t) : (bs (writeL p mi)).size = 7 + (bs p).size + 5 + (bs t).size + 1 := by
  subst h
  rw [size_list, bs_list, size_list, bs_list, size_list, bs_list]
  unfold writeL
  simp only [List.length_append, List.length_cons, List.length_nil]

set_option maxHeartbeats 1000000 in
theorem Write_yes (p : List UInt8) (hl : p.length ≤ 1000) (mi : Int) (h0 : -9223372036854775808 ≤ mi) (h1 : mi ≤ 9223372036854775807) (hp : pathB p = true) {t : List UInt8} (ht : textP mi = t) (hn : t ≠ []) (hz : t.length ≤ 100) {w : World} (hG : Good w) :
    Calls Tryd.prog 19 #[.agg #[.string (bs p), .int .i64 mi]] w fun e w' => ∃ v, e = .returned v ∧ Byt w' v (writeL p mi) ∧ Below w.heap.size w w' := by
  have K1 := fun W => Path_walk p (by omega) W
  rw [hp] at K1
  have KP := Lib.hid K1
  have HT := Lib.hid ht
  have HG := Lib.hid hG
  have htn : ((bs t).toList == []) = false := by rw [beq_word]; exact decide_eq_false hn
  have z1 : ¬ (9223372036854775807 < 7 + (bs p).size) := by rw [size_list, bs_list]; omega
  have z2 : ¬ (9223372036854775807 < 7 + (bs p).size + 5) := by rw [size_list, bs_list]; omega
  have z3 : ¬ (9223372036854775807 < 7 + (bs p).size + 5 + (bs t).size) := by rw [size_list, bs_list, size_list, bs_list]; omega
  have z4 : ¬ (9223372036854775807 < 7 + (bs p).size + 5 + (bs t).size + 1) := by rw [size_list, bs_list, size_list, bs_list]; omega
  have kc := fun (W : World) (s : ByteArray) => Lib.run_convert_string_bytes (P := Tryd.prog) W 9 22 5 s Tryd.underlying9 Tryd.underlying22 Tryd.underlying5
  clear K1 hp hn hz
  go_enter Tryd.func19, Tryd.ntmps19
  go_wp2_with fail
  refine (KP.out _).mono ?_
  rintro e w1 ⟨rfl, hb1⟩
  have c1 : w1.cell? ⟨w.heap.size, 0, none⟩ = some (.string (bs p)) := keeps_cell hb1 (by simp [go_sem])
  have c2 : w1.cell? ⟨w.heap.size, 1, none⟩ = some (.int .i64 mi) := keeps_cell hb1 (by simp [go_sem])
  have hb2 := ((Below.refl _ w).alloc (Nat.le_refl _) (.cells #[.string (bs p), .int .i64 mi] 24)).trans (hb1.mono (by simp))
  go_wp2_with fail
  refine (Text_any h0 h1 (HG.out.below hb2) HT.out w1 (Below.refl _ _)).mono ?_
  rintro e w3 ⟨rfl, hb3⟩
  have d1 := keeps_cell hb3 c1
  have d2 := keeps_cell hb3 c2
  have hb4 := hb2.trans (hb3.mono hb2.size)
  go_wp2_with fail
  first | go_region_with (go_at_call 17; refine (Text_any h0 h1 (HG.out.below hb4.drew) HT.out w3.drew (Below.refl _ _)).mono ?_; rintro e w5 ⟨rfl, hb5⟩; have f1 := keeps_cell hb5 d1; have f2 := keeps_cell hb5 d2) | fail
  all_goals
    go_wp2_with fail
    refine bodyPost_ret (v := .slice (some ⟨w5.heap.size, 0, none⟩) (7 + (bs p).size + 5 + (bs t).size + 1) (grownCap w5 (7 + (bs p).size + 5 + (bs t).size + 1) 0 5)) (by simp [results, Tryd.results19, go_sem]) rfl ⟨_, rfl, ?_, (hb4.drew.trans (hb5.mono hb4.size)).trans ((Lib.bytesWorld_below w5 5 _).mono (Nat.le_trans hb4.size hb5.size))⟩
    rw [← written_size HT.out, written HT.out]
    exact byt_conv _ _ _

end Go.Proofs.YtiigjmageeinpaaDoor
