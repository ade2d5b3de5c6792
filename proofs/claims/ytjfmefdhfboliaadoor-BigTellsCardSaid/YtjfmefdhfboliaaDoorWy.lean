/- Walks of Int and of BigTells. -/
import Derived.Test.YtjfmefdhfboliaaDoorWtt
import Derived.Test.YtjfmefdhfboliaaDoorPp
import Derived.Lib.AtoiAllCases
namespace Go.Proofs.YtjfmefdhfboliaaDoor
open Go.RowKit Go.Shelf Num
open Go.Lib (decDigits nDigits decDigits_length itoa parseUint10 parseMag atoiAll)

theorem parse_figs : ∀ (l : List UInt8) (acc : Nat), Figs l → acc < 18446744073709551616 →
    parseUint10 acc l = if acc * 10 ^ l.length + dv l < 18446744073709551616 then .ok (acc * 10 ^ l.length + dv l) else .range
  | [], acc, _, h => by
    simp only [parseUint10, List.length_nil, Nat.pow_zero, Nat.mul_one, dv_nil, Nat.add_zero]
    rw [if_pos h]
  | c :: r, acc, hf, h => by
    have hc := hf c List.mem_cons_self
    have hr : Figs r := fun x hx => hf x (List.mem_cons_of_mem _ hx)
    have hv : acc * 10 ^ (c :: r).length + dv (c :: r) = (acc * 10 + (c.toNat - 48)) * 10 ^ r.length + dv r := by
      rw [Ref.dv_cons, List.length_cons, Nat.pow_succ, Nat.add_mul, Nat.mul_assoc, Nat.mul_comm 10]; omega
    rw [hv]
    have hp : 1 ≤ 10 ^ r.length := Nat.pow_pos (by decide)
    have hge : (acc * 10 + (c.toNat - 48)) * 1 ≤ (acc * 10 + (c.toNat - 48)) * 10 ^ r.length := Nat.mul_le_mul_left _ hp
    unfold parseUint10
    rw [if_pos hc]
    by_cases h1 : 1844674407370955162 ≤ acc
    · rw [if_pos h1, if_neg (by omega)]
    · rw [if_neg h1]
      by_cases h2 : 18446744073709551616 ≤ acc * 10 + (c.toNat - 48)
      · rw [if_pos h2, if_neg (by omega)]
      · rw [if_neg h2, parse_figs r _ hr (by omega)]

theorem mag_dec (n : Nat) : parseMag (decDigits n) = if n < 18446744073709551616 then .ok n else .range := by
  unfold parseMag
  rw [if_neg (decDigits_ne n), parse_figs _ 0 (figs_decDigits n) (by decide), Nat.zero_mul, Nat.zero_add, dv_decDigits]

theorem atoi_itoa (v : Int) : atoiAll (itoa v) = if -9223372036854775808 ≤ v ∧ v ≤ 9223372036854775807 then .ok v else .range := by
  by_cases hv : v < 0
  · rw [itoa, if_pos hv, Go.Lib.atoiAll_minus, mag_dec]
    by_cases h1 : v.natAbs < 18446744073709551616
    · rw [if_pos h1]
      unfold Go.Lib.signed
      by_cases h2 : 9223372036854775808 < v.natAbs
      · rw [if_neg (by omega)]
        simp only [h2, if_true]
      · rw [if_pos (by omega)]
        simp only [h2, if_false]
        congr 1; omega
    · rw [if_neg h1, if_neg (by omega)]; rfl
  · have e : itoa v = decDigits v.toNat := by rw [itoa, if_neg hv]
    have hf := figs_decDigits v.toNat
    cases hd : decDigits v.toNat with
    | nil => exact absurd hd (decDigits_ne _)
    | cons c r =>
      have hc := hf c (by rw [hd]; exact List.mem_cons_self)
      rw [e, hd, Go.Lib.atoiAll_plain c r (by omega) (by omega), ← hd, mag_dec]
      by_cases h1 : v.toNat < 18446744073709551616
      · rw [if_pos h1]
        unfold Go.Lib.signless
        by_cases h2 : 9223372036854775808 ≤ v.toNat
        · rw [if_neg (by omega)]
          simp only [h2, if_true]
        · rw [if_pos (by omega)]
          simp only [h2, if_false]
          congr 1; omega
      · rw [if_neg h1, if_neg (by omega)]; rfl

/-- The variable ErrRange holds an error. -/
def Errs (w : World) : Prop := ∃ te pe, w.cell? ⟨1, 0, none⟩ = some (.iface te pe)
theorem Errs.below {w w' : World} (h : Errs w) (hb : Below w.heap.size w w') : Errs w' := by
  obtain ⟨te, pe, h⟩ := h
  exact ⟨te, pe, keeps_cell hb h⟩

theorem Int_no (a : ByteArray) (h : right? a.data.toList = none) (w : World) : Calls Tryd.prog 22 #[.string a] w (Out w.heap.size w (.tuple #[.int .i64 0, .int .i64 1])) := by
  have RA := Lib.hid (right_at a (i := false) (by rw [h]; rfl) w)
  clear h
  go_enter Tryd.func22, Tryd.ntmps22
  go_wp2_with fail
  refine (RA.out _ (Below.refl _ _)).mono ?_
  rintro e w1 ⟨rfl, hb1⟩
  go_wp2_with fail
  refine bodyPost_ret (v := .tuple #[.int .i64 0, .int .i64 1]) (by simp [results, Tryd.results22, go_sem]) rfl ⟨rfl, hb1⟩

theorem Int_fits (v : Int) (lv : v.natAbs < lim) (hv : -9223372036854775808 ≤ v ∧ v ≤ 9223372036854775807) (w : World) : Calls Tryd.prog 22 #[.string (num v)] w (Out w.heap.size w (.tuple #[.int .i64 v, .int .i64 0])) := by
  have RA := Lib.hid (right_at (num v) (i := true) (by rw [num_list, right?_itoa lv]; rfl) w)
  have hz : (num v).size ≤ 9223372036854775806 := by
    rw [size_list, num_list]
    have := nDigits_right lv
    unfold itoa
    split
    · rw [List.length_cons, decDigits_length]; omega
    · rw [decDigits_length, show v.toNat = v.natAbs by omega]; omega
  have KA := Lib.hid (fun W => Tryd.strconv_Atoi_ok (num v) hz v (by rw [num_list, atoi_itoa, if_pos hv]) W)
  clear hz
  go_enter Tryd.func22, Tryd.ntmps22
  go_wp2_with fail
  refine (RA.out _ (Below.refl _ _)).mono ?_
  rintro e w1 ⟨rfl, hb1⟩
  go_wp2_with fail
  refine (KA.out w1).mono ?_
  rintro e w2 ⟨rfl, hw⟩
  have hb2 : Below w.heap.size w w2 := by
    rcases hw with rfl | ⟨t, rfl⟩
    · exact hb1
    · exact hb1.trans ((Go.Lib.bytesWorld_below w1 5 t).mono hb1.size)
  go_wp2_with fail
  refine bodyPost_ret (v := .tuple #[.int .i64 v, .int .i64 0]) (by simp [results, Tryd.results22, go_sem]) rfl ⟨rfl, hb2⟩

theorem Int_far (v : Int) (lv : v.natAbs < lim) (hv : ¬ (-9223372036854775808 ≤ v ∧ v ≤ 9223372036854775807)) (w : World) (he : Errs w) : Calls Tryd.prog 22 #[.string (num v)] w (Out w.heap.size w (.tuple #[.int .i64 0, .int .i64 10])) := by
  have RA := Lib.hid (right_at (num v) (i := true) (by rw [num_list, right?_itoa lv]; rfl) w)
  have hz : (num v).size ≤ 281474976710656 := by
    rw [size_list, num_list]
    have := nDigits_right lv
    unfold itoa
    split
    · rw [List.length_cons, decDigits_length]; omega
    · rw [decDigits_length, show v.toNat = v.natAbs by omega]; omega
  have hk : ∀ W : World, Errs W → ∃ ev, Calls Tryd.prog 38 #[.string (num v)] W fun e w' => ∃ N, e = .returned (.tuple #[.int .i64 (Go.Lib.atoiSat (num v).data.toList), .iface 90 (.pointer (some ⟨N, 0, none⟩))]) ∧ W.heap.size ≤ N ∧ w'.heap[N]? = some (.cells #[.string ⟨#[65, 116, 111, 105]⟩, .string (num v), ev] 109 (0, 0)) ∧ Below W.heap.size W w' := fun W h => by
    obtain ⟨te, pe, hc⟩ := h
    exact ⟨_, Tryd.strconv_Atoi_range (num v) hz (by rw [num_list, atoi_itoa, if_neg hv]) _ W hc (.inr ⟨te, pe, rfl⟩)⟩
  have KA := Lib.hid hk
  clear hk
  clear hz
  go_enter Tryd.func22, Tryd.ntmps22
  go_wp2_with fail
  refine (RA.out _ (Below.refl _ _)).mono ?_
  rintro e w1 ⟨rfl, hb1⟩
  go_wp2_with fail
  obtain ⟨ev, hk⟩ := KA.out w1 (he.below hb1)
  refine hk.mono ?_
  rintro e w2 ⟨N, rfl, _, _, hw⟩
  have hb2 := hb1.trans (hw.mono hb1.size)
  go_wp2_with fail
  refine bodyPost_ret (v := .tuple #[.int .i64 0, .int .i64 10]) (by simp [results, Tryd.results22, go_sem]) rfl ⟨rfl, hb2⟩

theorem int_at (a : ByteArray) {x e : Int} (hr : Ref.intR a.data.toList = (x, e)) {w : World} (he : Errs w) : ∀ W, Below w.heap.size w W → Calls Tryd.prog 22 #[.string a] W (Out w.heap.size w (.tuple #[.int .i64 x, .int .i64 e])) := by
  intro W hW
  have go : ∀ {u v : Int}, Calls Tryd.prog 22 #[.string a] W (Out W.heap.size W (.tuple #[.int .i64 u, .int .i64 v])) → (x, e) = (u, v) → Calls Tryd.prog 22 #[.string a] W (Out w.heap.size w (.tuple #[.int .i64 x, .int .i64 e])) := fun h hx => by
    cases hx
    refine h.mono ?_
    rintro e w' ⟨rfl, hb⟩
    exact ⟨rfl, hW.trans (hb.mono hW.size)⟩
  rw [Ref.intR] at hr
  cases ea : right? a.data.toList with
  | none =>
    rw [ea] at hr
    exact go (Int_no a ea W) hr.symm
  | some v =>
    rw [ea] at hr
    obtain ⟨rfl, lv⟩ := num_of_right ea
    by_cases hv : -9223372036854775808 ≤ v ∧ v ≤ 9223372036854775807
    · simp only [hv, and_self, if_true] at hr
      exact go (Int_fits v lv hv W) hr.symm
    · simp only [hv, if_false] at hr
      exact go (Int_far v lv hv W (he.below hW)) hr.symm

theorem refInt_at (a : ByteArray) (sa : a.size ≤ 1000000) {x e : Int} (hr : Ref.intR a.data.toList = (x, e)) (w : World) : ∀ W, Below w.heap.size w W → Calls Tryd.prog 23 #[.string a] W (Out w.heap.size w (.tuple #[.int .i64 x, .int .i64 e])) := by
  intro W hW
  obtain ⟨k, hk⟩ := (Ref.refInt_ev a sa).rounds
  rw [hr] at hk
  refine (Ref.demoticref09_Int.calls k a x e W hk).mono ?_
  rintro e w' ⟨rfl, hb⟩
  exact ⟨rfl, hW.trans (hb.mono hW.size)⟩

theorem refRight_at (a : ByteArray) (sa : a.size ≤ 1000000) {i : Bool} (hr : (right? a.data.toList).isSome = i) (w : World) : ∀ W, Below w.heap.size w W → Calls Tryd.prog 24 #[.string a] W (Out w.heap.size w (.bool i)) := by
  intro W hW
  obtain ⟨k, hk⟩ := (Ref.refRight_ev a sa).rounds
  rw [hr] at hk
  refine (Ref.demoticref09_Right.calls k a i W hk).mono ?_
  rintro e w' ⟨rfl, hb⟩
  exact ⟨rfl, hW.trans (hb.mono hW.size)⟩

theorem refCompare_at (a b : ByteArray) (sa : a.size ≤ 1000000) (sb : b.size ≤ 1000000) {d : Int} (hr : Ref.cmpR a.data.toList b.data.toList = d) (w : World) : ∀ W, Below w.heap.size w W → Calls Tryd.prog 25 #[.string a, .string b] W (Out w.heap.size w (.int .i64 d)) := by
  intro W hW
  obtain ⟨k, hk⟩ := (Ref.refCompare_ev a b sa sb).rounds
  rw [hr] at hk
  refine (Ref.demoticref09_Compare.calls k a b d W hk).mono ?_
  rintro e w' ⟨rfl, hb⟩
  exact ⟨rfl, hW.trans (hb.mono hW.size)⟩

theorem cmp_at (a b : ByteArray) {d : Int} (hr : Ref.cmpR a.data.toList b.data.toList = d) (w : World) : ∀ W, Below w.heap.size w W → Calls Tryd.prog 20 #[.string a, .string b] W (Out w.heap.size w (.int .i64 d)) := by
  intro W hW
  subst hr
  have out : ∀ {u : Int}, Calls Tryd.prog 20 #[.string a, .string b] W (Out W.heap.size W (.int .i64 u)) → Ref.cmpR a.data.toList b.data.toList = u → Calls Tryd.prog 20 #[.string a, .string b] W (Out w.heap.size w (.int .i64 (Ref.cmpR a.data.toList b.data.toList))) := fun h hx => by
    rw [hx]
    refine h.mono ?_
    rintro e w' ⟨rfl, hb⟩
    exact ⟨rfl, hW.trans (hb.mono hW.size)⟩
  cases ea : right? a.data.toList with
  | none => exact out (Compare_no a b _ _ rfl rfl (by rw [ea]; rfl) W) (by unfold Ref.cmpR; rw [ea])
  | some x =>
    cases eb : right? b.data.toList with
    | none => exact out (Compare_no a b _ _ rfl rfl (by rw [ea, eb]; rfl) W) (by unfold Ref.cmpR; rw [ea, eb])
    | some y =>
      refine out (u := sg (x - y)) ?_ (by unfold Ref.cmpR sg; rw [ea, eb])
      obtain ⟨rfl, lx⟩ := num_of_right ea
      obtain ⟨rfl, ly⟩ := num_of_right eb
      exact Compare_num x y lx ly W

theorem int_num {n : Int} (h0 : -9223372036854775808 ≤ n) (h1 : n ≤ 9223372036854775807) : Ref.intR (num n).data.toList = (n, 0) := by
  have ln : n.natAbs < lim := lt_lim_of (k := 64) (by have : twoPow 64 = 18446744073709551616 := rfl; omega) (by decide)
  unfold Ref.intR
  rw [num_list, right?_itoa ln]
  simp only [h0, h1, and_self, if_true]

theorem cmpR_range (l m : List UInt8) : -1 ≤ Ref.cmpR l m ∧ Ref.cmpR l m ≤ 1 := by
  unfold Ref.cmpR
  split
  · split
    · decide
    · split <;> decide
  · decide
theorem intR_range (l : List UInt8) : (-9223372036854775808 ≤ (Ref.intR l).1 ∧ (Ref.intR l).1 ≤ 9223372036854775807) ∧ 0 ≤ (Ref.intR l).2 ∧ (Ref.intR l).2 ≤ 10 := by
  unfold Ref.intR
  split
  · split
    · rename_i h; exact ⟨h, show (0 : Int) ≤ 0 by decide, show (0 : Int) ≤ 10 by decide⟩
    · decide
  · decide

set_option maxRecDepth 100000 in
set_option maxHeartbeats 1000000 in
theorem BigTells_long (a b : ByteArray) (n : Int) (h : 200 < a.size ∨ 200 < b.size) (w : World) : Calls Tryd.prog 10 #[.string a, .string b, .int .i64 n] w (Yes w) := by
  by_cases ha : (a.size : Int) > 200
  · go_enter Tryd.func10, Tryd.ntmps10
    go_wp2_with fail
    refine bodyPost_ret (v := .bool true) (by simp [results, Tryd.results10, go_sem]) rfl ⟨rfl, Below.refl _ _⟩
  · have hb : (b.size : Int) > 200 := by omega
    go_enter Tryd.func10, Tryd.ntmps10
    go_wp2_with fail
    refine bodyPost_ret (v := .bool true) (by simp [results, Tryd.results10, go_sem]) rfl ⟨rfl, Below.refl _ _⟩

set_option maxRecDepth 100000 in
set_option maxHeartbeats 2000000 in
theorem BigTells_walk (a b : ByteArray) (n : Int) (h0 : -9223372036854775808 ≤ n) (h1 : n ≤ 9223372036854775807) (w : World) (ht : Tab w) (he : Errs w) : Calls Tryd.prog 10 #[.string a, .string b, .int .i64 n] w (Yes w) := by
  by_cases h : 200 < a.size ∨ 200 < b.size
  · exact BigTells_long a b n h w
  have ha : ¬ (a.size : Int) > 200 := by omega
  have hb : ¬ (b.size : Int) > 200 := by omega
  have sa : a.size ≤ 1000000 := by omega
  have sb : b.size ≤ 1000000 := by omega
  clear h
  obtain ⟨⟨rx0, rx1⟩, re0, re1⟩ := intR_range a.data.toList
  obtain ⟨⟨x, e⟩, hr⟩ : ∃ r, Ref.intR a.data.toList = r := ⟨_, rfl⟩
  rw [hr] at rx0 rx1 re0 re1
  obtain ⟨c0, c1⟩ := cmpR_range a.data.toList b.data.toList
  obtain ⟨d, hd⟩ : ∃ d, Ref.cmpR a.data.toList b.data.toList = d := ⟨_, rfl⟩
  rw [hd] at c0 c1
  obtain ⟨i, hi⟩ : ∃ i, (right? a.data.toList).isSome = i := ⟨_, rfl⟩
  have I1 := Lib.hid (int_at a hr he)
  have I2 := Lib.hid (refInt_at a sa hr w)
  have T1 := Lib.hid (text_at h0 h1 ht)
  have I3 := Lib.hid (int_at (num n) (int_num h0 h1) he)
  have R1 := Lib.hid (right_at a hi w)
  have R2 := Lib.hid (refRight_at a sa hi w)
  have C1 := Lib.hid (cmp_at a b hd w)
  have C2 := Lib.hid (refCompare_at a b sa sb hd w)
  have KA := Lib.hid (awake_at ht)
  clear hr hd hi sa sb he ht
  go_enter Tryd.func10, Tryd.ntmps10
  go_wp2_with fail
  refine (I1.out _ (Below.refl _ _)).mono ?_
  rintro e w1 ⟨rfl, hb1⟩
  go_wp2_with fail
  refine (I2.out _ hb1).mono ?_
  rintro e w2 ⟨rfl, hb2⟩
  go_wp2_with fail
  refine (T1.out _ hb2).mono ?_
  rintro e w3 ⟨rfl, hb3⟩
  go_wp2_with fail
  refine (I3.out _ hb3).mono ?_
  rintro e w4 ⟨rfl, hb4⟩
  go_wp2_with fail
  refine (R1.out _ hb4).mono ?_
  rintro e w5 ⟨rfl, hb5⟩
  go_wp2_with fail
  refine (R2.out _ hb5).mono ?_
  rintro e w6 ⟨rfl, hb6⟩
  go_wp2_with fail
  refine (C1.out _ hb6).mono ?_
  rintro e w7 ⟨rfl, hb7⟩
  go_wp2_with fail
  refine (C2.out _ hb7).mono ?_
  rintro e w8 ⟨rfl, hb8⟩
  go_wp2_with fail
  refine (KA.out _ hb8).mono ?_
  rintro e w9 ⟨rfl, hb9⟩
  go_wp2_with fail
  refine bodyPost_ret (v := .bool true) (by simp [results, Tryd.results10, go_sem]) rfl ⟨rfl, hb9⟩


end Go.Proofs.YtjfmefdhfboliaaDoor
