/- Walk: TagAlone. -/
import Derived.Test.YtheiakdlhpccaaaDoorTp
import Derived.Deep.RegionHeld3
namespace Go.Proofs.YtheiakdlhpccaaaDoor
open Go.RowKit Go.Shelf R
open Go.Proofs.YtheiakdlhpccaaaDoorW.PrintWords

theorem C_new {α : Type} (d : Kd α) {w : World} {b : Nat} {xs : List α} {cs : List Value} (hc : ∀ i u, cs[i]? = some u → w.cell? ⟨b, i, none⟩ = some u) (hr : Reps (d.K w) d.sz xs cs) (hm : xs.length ≤ 9223372036854775807) : d.C w (some ⟨b, 0, none⟩) xs.length xs := by
  refine ⟨rfl, hm, fun _ => ⟨_, rfl, fun j p hp => ⟨(cs.drop (j * d.sz)).take d.sz, ?_, hr.2 j p hp, fun i u hu => ?_⟩⟩⟩
  · have hj : j < xs.length := (List.getElem?_eq_some_iff.1 hp).1
    have h1 : j * d.sz + d.sz ≤ xs.length * d.sz := by rw [← Nat.succ_mul]; exact Nat.mul_le_mul_right _ hj
    rw [List.length_take, List.length_drop, hr.1]
    omega
  · rw [List.getElem?_take] at hu
    split at hu
    · rw [List.getElem?_drop] at hu
      have := hc _ _ hu
      unfold Addr.add
      split
      · rename_i h0
        rw [h0] at this
        exact this
      · simpa using this
    · cases hu

theorem tags_new (W : World) (a b : ByteArray) : Kd.C Kd.string (W.alloc (.cells #[.string a, .string b] 9)) (some ⟨W.heap.size, 0, none⟩) [a, b].length [a, b] := by
  refine C_new Kd.string (cs := [.string a, .string b]) ?_ ⟨rfl, ?_⟩ (by simp)
  · intro i u hu
    rcases i with _ | _ | i
    · cases hu; simp [go_sem]
    · cases hu; simp [go_sem]
    · simp at hu
  · intro j p hp
    rcases j with _ | _ | j
    · cases hp; rfl
    · cases hp; rfl
    · simp at hp

theorem awake_at {w : World} (hG : Good w) : ∀ W, Below w.heap.size w W → Calls Tryd.prog 13 #[] W (Out W.heap.size W (.bool true)) := fun W hW => awake_any (hG.below hW) W (Below.refl _ _)

set_option maxRecDepth 100000 in
set_option maxHeartbeats 4000000 in
theorem TagAlone_long (s : ByteArray) (w : World) (hs : 100 < (s.size : Int)) : Calls Tryd.prog 3 #[.string s] w (Out w.heap.size w (.bool true)) := by
  go_enter Tryd.func3, Tryd.ntmps3
  go_wp2_with fail
  go_ret
  exact ⟨rfl, Below.refl _ _⟩

set_option maxRecDepth 100000 in
set_option maxHeartbeats 4000000 in
theorem TagAlone_no (s : ByteArray) (w : World) (hG : Good w) (hs : ¬ 100 < (s.size : Int)) (h : allB mayN s.data.toList = false) : Calls Tryd.prog 3 #[.string s] w (Out w.heap.size w (.bool true)) := by
  obtain ⟨⟨y, ey⟩, hy⟩ : ∃ q, readP s.data.toList = q := ⟨_, rfl⟩
  obtain ⟨⟨z, ez⟩, hz⟩ : ∃ q, readP [] = q := ⟨_, rfl⟩
  have hz8 := read_none
  rw [hz] at hz8
  simp only [] at hz8
  subst hz8
  have K1 := Lib.hid (Read_to _ _ hy)
  have K2 := Lib.hid (Read_to _ _ hz)
  rw [← bs_of] at K1
  have KA := Lib.hid (awake_any hG)
  have KR := Lib.hid (fun W => Right_any ⟨bs [], s, []⟩ none 0 W (Nat.le_refl _) (Kd.C_nil _ _))
  rw [right_alone, h] at KR
  have KW := Lib.hid (fun W => Write_any ⟨bs [], s, []⟩ none 0 W ⟨by show s.size ≤ _; omega, by simp, by simp⟩ (by rw [write_alone h]; simp) (Nat.le_refl _) (Kd.C_nil _ _))
  rw [write_alone h] at KW
  clear h hy hz
  unfold xv at K1 K2 KR KW
  go_enter Tryd.func3, Tryd.ntmps3
  go_wp2_with fail
  have HX := Lib.hid (Lies.new (x := ⟨bs [], s, []⟩) (A := none) (c := 0) (Below.refl _ w) (Nat.le_refl _) (Kd.C_nil _ _))
  refine (K1.out _).mono ?_
  rintro e w1 ⟨A, c, rfl, hc, hC, hb1⟩
  have HX1 := Lib.hid (HX.out.below hb1)
  have HX2 := Lib.hid (HX1.out.below (W' := w1.alloc (.cells #[.string y.f0, .string y.f1, .slice A y.f2.length c] 24)) ((Below.refl _ w1).alloc (Nat.le_refl _) _))
  clear hb1 hC hc HX
  go_wp2_with fail
  refine (K2.out _).mono ?_
  rintro e w2 ⟨B, d, rfl, hd, hD, hb2⟩
  have HX3 := Lib.hid (HX2.out.below hb2)
  have HX4 := Lib.hid (HX3.out.below (W' := w2.alloc (.cells #[.string z.f0, .string z.f1, .slice B z.f2.length d] 24)) ((Below.refl _ w2).alloc (Nat.le_refl _) _))
  clear hb2 hD hd HX1 HX2 HX3
  obtain ⟨_, _, _, x0, x1, x2⟩ := HX4.out
  go_wp2_with fail
  refine (KR.out _).mono ?_
  rintro e w3 ⟨rfl, hb3⟩
  have HX5 := Lib.hid (HX4.out.below hb3)
  clear x0 x1 x2 hb3 HX4
  obtain ⟨_, _, _, x0, x1, x2⟩ := HX5.out
  go_wp2_with fail
  refine (KW.out _).mono ?_
  rintro e w4 ⟨rfl, hb4⟩
  have HX6 := Lib.hid (HX5.out.below hb4)
  clear x0 x1 x2 hb4 HX5
  have ht : (bs []).toList = [] := bs_toList []
  go_wp2_with fail
  refine (KA.out _ HX6.out.bel).mono ?_
  rintro e w5 ⟨rfl, hb5⟩
  go_wp2_with fail
  go_ret
  exact ⟨rfl, hb5⟩

set_option maxRecDepth 100000 in
set_option maxHeartbeats 4000000 in
theorem TagAlone_yes (s : ByteArray) (w : World) (hG : Good w) (hs : ¬ 100 < (s.size : Int)) (h : allB mayN s.data.toList = true) : Calls Tryd.prog 3 #[.string s] w (Out w.heap.size w (.bool true)) := by
  have hy := read_tag h (by rw [← size_list]; omega)
  rw [← bs_of] at hy
  obtain ⟨⟨z, ez⟩, hz⟩ : ∃ q, readP [] = q := ⟨_, rfl⟩
  have hz8 := read_none
  rw [hz] at hz8
  simp only [] at hz8
  subst hz8
  have K1 := Lib.hid (Read_to _ _ hy)
  have K2 := Lib.hid (Read_to _ _ hz)
  rw [← bs_of] at K1
  have KA := Lib.hid (awake_at hG)
  have KR := Lib.hid (fun W => Right_any ⟨bs [], s, []⟩ none 0 W (Nat.le_refl _) (Kd.C_nil _ _))
  rw [right_alone, h] at KR
  have hsz : Sz 100 ⟨bs [], s, []⟩ := ⟨by show s.size ≤ _; omega, by simp, by simp⟩
  have KL := Lib.hid (fun W (hW : Below w.heap.size w W) => Least_any ⟨bs [], s, []⟩ none 0 W (hG.below hW) hsz (Nat.le_refl _) (Kd.C_nil _ _))
  rw [least_alone h] at KL
  have hct : Lib.containsS [bs [97], s] s = true := (Lib.containsS_iff _ _).2 (by simp)
  have KH := Lib.hid (fun W TA (hW : Below w.heap.size w W) hT => Holds_any [bs [97], s] ⟨bs [], s, []⟩ none 0 TA 2 W (hG.below hW) hsz (Nat.le_refl _) (Kd.C_nil _ _) (Nat.le_refl _) hT)
  rw [holds_alone h _ hct] at KH
  obtain ⟨v, hv⟩ : ∃ v, verB s.data.toList = v := ⟨_, rfl⟩
  have hv2 := ver_low s.data.toList
  rw [hv] at KL KH hv2
  clear h hy hz hv hct hsz
  unfold xv at K1 K2 KR KL KH
  obtain ⟨b, hb⟩ : ∃ b, decide (v < 25) = b := ⟨_, rfl⟩
  rw [hb] at KH
  have hb' : (b = true ∧ v < 25) ∨ (b = false ∧ ¬ v < 25) := by
    cases b
    · exact .inr ⟨rfl, of_decide_eq_false hb⟩
    · exact .inl ⟨rfl, of_decide_eq_true hb⟩
  clear hb
  rcases hb' with ⟨rfl, hb'⟩ | ⟨rfl, hb'⟩
  all_goals
    go_enter Tryd.func3, Tryd.ntmps3
    go_wp2_with fail
    have HX := Lib.hid (Lies.new (x := ⟨bs [], s, []⟩) (A := none) (c := 0) (Below.refl _ w) (Nat.le_refl _) (Kd.C_nil _ _))
    refine (K1.out _).mono ?_
    rintro e w1 ⟨A, c, rfl, hc, hC, hb1⟩
    have HX1 := Lib.hid (HX.out.below hb1)
    have HY := Lib.hid (Lies.new (x := ⟨bs [], s, []⟩) HX1.out.bel hc hC)
    have HX2 := Lib.hid (HX1.out.below (W' := w1.alloc (.cells #[.string (bs []), .string s, .slice A 0 c] 24)) ((Below.refl _ w1).alloc (Nat.le_refl _) _))
    clear hb1 hC hc HX
    go_wp2_with fail
    refine (K2.out _).mono ?_
    rintro e w2 ⟨B, d, rfl, hd, hD, hb2⟩
    have hb3 : Below w2.heap.size w2 (w2.alloc (.cells #[.string z.f0, .string z.f1, .slice B z.f2.length d] 24)) := (Below.refl _ w2).alloc (Nat.le_refl _) _
    have HX4 := Lib.hid ((HX2.out.below hb2).below hb3)
    have HY4 := Lib.hid ((HY.out.below hb2).below hb3)
    clear hb2 hb3 hD hd HX1 HX2 HY
    obtain ⟨_, _, _, x0, x1, x2⟩ := HX4.out
    go_wp2_with fail
    refine (KR.out _).mono ?_
    rintro e w3 ⟨rfl, hb3⟩
    have HX5 := Lib.hid (HX4.out.below hb3)
    have HY5 := Lib.hid (HY4.out.below hb3)
    clear x0 x1 x2 hb3 HX4 HY4
    obtain ⟨_, _, _, x0, x1, x2⟩ := HX5.out
    obtain ⟨_, _, _, y0, y1, y2⟩ := HY5.out
    simp only [List.length_nil] at x2 y2
    have ht : (bs []).toList = [] := bs_toList []
    go_wp2_with fail
    clear K1 K2 KR
    have hb6 : Below w3.heap.size w3 (w3.alloc (.cells #[.string ⟨#[97]⟩, .string s] 9)).drew := below_drew ((Below.refl _ w3).alloc (Nat.le_refl _) _)
    have HX6 := Lib.hid (HX5.out.below hb6)
    have HY6 := Lib.hid (HY5.out.below hb6)
    have hT6 := Lib.hid (Kd.C_below (tags_new w3 (bs [97]) s) (below_drew (Below.refl _ _)))
    clear hb6
    go_region_held3 (fun w' => w'.cell? ⟨w.heap.size, 0, none⟩ = some (.string (bs [])) ∧ w'.cell? ⟨w.heap.size, 1, none⟩ = some (.string s) ∧ w'.cell? ⟨w.heap.size, 2, none⟩ = some (.slice none 0 0) ∧ w'.cell? ⟨w1.heap.size, 0, none⟩ = some (.string (bs [])) ∧ w'.cell? ⟨w1.heap.size, 1, none⟩ = some (.string s) ∧ w'.cell? ⟨w1.heap.size, 2, none⟩ = some (.slice A 0 c))
      (first | go_keep)
      ((first
        | (go_at_call 14
           refine (KH.out _ _ HX6.out.bel hT6.out).mono ?_
           rintro e w4 ⟨rfl, hb4⟩
           have HX7 := Lib.hid (HX6.out.below hb4)
           have HY7 := Lib.hid (HY6.out.below hb4)
           clear x0 x1 x2 y0 y1 y2 hb4 hT6
           obtain ⟨_, _, _, x0, x1, x2⟩ := HX7.out
           obtain ⟨_, _, _, y0, y1, y2⟩ := HY7.out
           simp only [List.length_nil] at x2 y2)
        | (go_at_call 15
           refine (KL.out _ HX7.out.bel).mono ?_
           rintro e w5 ⟨rfl, hb5⟩
           have HX8 := Lib.hid (HX7.out.below hb5)
           have HY8 := Lib.hid (HY7.out.below hb5)
           clear x0 x1 x2 y0 y1 y2 hb5
           obtain ⟨_, _, _, x0, x1, x2⟩ := HX8.out
           obtain ⟨_, _, _, y0, y1, y2⟩ := HY8.out
           simp only [List.length_nil] at x2 y2)
        | (go_at_call 13
           refine (KA.out _ HX8.out.bel).mono ?_
           rintro e w6 ⟨rfl, hb6⟩
           have HX9 := Lib.hid (HX8.out.below hb6)
           have HY9 := Lib.hid (HY8.out.below hb6)
           clear x0 x1 x2 y0 y1 y2 hb6
           obtain ⟨_, _, _, x0, x1, x2⟩ := HX9.out
           obtain ⟨_, _, _, y0, y1, y2⟩ := HY9.out
           simp only [List.length_nil] at x2 y2)))
    try simp only [decide_eq_false (show ¬ v < 25 by omega), Bool.not_false]
    go_wp2_with fail
    go_ret
    exact ⟨rfl, HX9.out.bel⟩

theorem TagAlone_any (s : ByteArray) (w : World) (hG : Good w) : Calls Tryd.prog 3 #[.string s] w (Out w.heap.size w (.bool true)) := by
  by_cases hs : 100 < (s.size : Int)
  · exact TagAlone_long s w hs
  · cases h : allB mayN s.data.toList
    · exact TagAlone_no s w hG hs h
    · exact TagAlone_yes s w hG hs h
end Go.Proofs.YtheiakdlhpccaaaDoor
