/- Laws over sums, products, quotients and rests: walks of BigInts, BigLaws, BigWide. -/
import Derived.Test.YtjfmefdhfboliaaDoorWq
namespace Go.Proofs.YtjfmefdhfboliaaDoor
open Go.RowKit Go.Shelf Num
open Go.Lib (decDigits nDigits decDigits_length itoa)

theorem lt_lim_of {n k : Nat} (h : n < twoPow k) (hk : k ≤ 512) : n < lim := Nat.lt_of_lt_of_le h (twoPow_le hk)

set_option maxRecDepth 100000 in
set_option maxHeartbeats 1000000 in
/-- Four sums of what stands in 64 bits. -/
theorem BigInts_walk (x y : Int) (hx0 : -2147483648 ≤ x) (hx1 : x ≤ 2147483647) (hy0 : -2147483648 ≤ y) (hy1 : y ≤ 2147483647) (w : World) (ht : Tab w) :
    Calls Tryd.prog 4 #[.int .i32 x, .int .i32 y] w (Yes w) := by
  have lx : x.natAbs < lim := lt_lim_of (k := 33) (by have : twoPow 33 = 8589934592 := rfl; omega) (by decide)
  have ly : y.natAbs < lim := lt_lim_of (k := 33) (by have : twoPow 33 = 8589934592 := rfl; omega) (by decide)
  have ls : (x + y).natAbs < lim := lt_lim_of (k := 34) (by have : twoPow 34 = 17179869184 := rfl; omega) (by decide)
  have hp : (x * y).natAbs ≤ 2147483648 * 2147483648 := by rw [Int.natAbs_mul]; exact Nat.mul_le_mul (by omega) (by omega)
  have lp : (x * y).natAbs < lim := lt_lim_of (k := 63) (by have : twoPow 63 = 9223372036854775808 := rfl; omega) (by decide)
  have TX := Lib.hid (text_at (n := x) (by omega) (by omega) ht)
  have TY := Lib.hid (text_at (n := y) (by omega) (by omega) ht)
  have TS := Lib.hid (text_at (n := x + y) (by omega) (by omega) ht)
  have TP := Lib.hid (text_at (n := x * y) (by omega) (by omega) ht)
  have OS := Lib.hid (op_num sumIs lx ly rfl ls ht)
  have OP := Lib.hid (op_num timesIs lx ly rfl lp ht)
  have KA := Lib.hid (awake_at ht)
  have hs0 : -9223372036854775808 ≤ x + y ∧ x + y ≤ 9223372036854775807 := by omega
  have hp0 : -9223372036854775808 ≤ x * y ∧ x * y ≤ 9223372036854775807 := by omega
  go_enter Tryd.func4, Tryd.ntmps4
  go_wp2_with fail
  refine (TX.out _ (Below.refl _ _)).mono ?_
  rintro e w1 ⟨rfl, hb1⟩
  go_wp2_with fail
  refine (TY.out _ hb1).mono ?_
  rintro e w2 ⟨rfl, hb2⟩
  go_wp2_with fail
  refine (OS.out _ hb2).mono ?_
  rintro e w3 ⟨rfl, hb3⟩
  go_wp2_with fail
  refine (TX.out _ hb3).mono ?_
  rintro e w4 ⟨rfl, hb4⟩
  go_wp2_with fail
  refine (TY.out _ hb4).mono ?_
  rintro e w5 ⟨rfl, hb5⟩
  go_wp2_with fail
  refine (OP.out _ hb5).mono ?_
  rintro e w6 ⟨rfl, hb6⟩
  go_wp2_with fail
  refine (TS.out _ hb6).mono ?_
  rintro e w7 ⟨rfl, hb7⟩
  go_wp2_with fail
  refine (TP.out _ hb7).mono ?_
  rintro e w8 ⟨rfl, hb8⟩
  go_wp2_with fail
  rotate_left
  · have hy' : (y == 0) = false := by assumption
    have hy : y ≠ 0 := by simpa using hy'
    have hq : (x.tdiv y).natAbs ≤ x.natAbs := by rw [Int.natAbs_tdiv]; exact Nat.div_le_self _ _
    have hr : (x.tmod y).natAbs ≤ x.natAbs := by rw [Int.natAbs_tmod]; exact Nat.mod_le _ _
    have OQ := Lib.hid (op_num quotIs lx ly (z := x.tdiv y) (by simp [partOp, hy]) (by omega) ht)
    have OR := Lib.hid (op_num restIs lx ly (z := x.tmod y) (by simp [partOp, hy]) (by omega) ht)
    have TQ := Lib.hid (text_at (n := x.tdiv y) (by omega) (by omega) ht)
    have TR := Lib.hid (text_at (n := x.tmod y) (by omega) (by omega) ht)
    have hq0 : -9223372036854775808 ≤ x.tdiv y ∧ x.tdiv y ≤ 9223372036854775807 := by omega
    have hr0 : -9223372036854775808 ≤ x.tmod y ∧ x.tmod y ≤ 9223372036854775807 := by omega
    clear hq hr lx ly ls lp hp
    refine (TX.out _ hb8).mono ?_
    rintro e w9 ⟨rfl, hb9⟩
    go_wp2_with fail
    refine (TY.out _ hb9).mono ?_
    rintro e w10 ⟨rfl, hb10⟩
    go_wp2_with fail
    refine (OQ.out _ hb10).mono ?_
    rintro e w11 ⟨rfl, hb11⟩
    go_wp2_with fail
    refine (TX.out _ hb11).mono ?_
    rintro e w12 ⟨rfl, hb12⟩
    go_wp2_with fail
    refine (TY.out _ hb12).mono ?_
    rintro e w13 ⟨rfl, hb13⟩
    go_wp2_with fail
    refine (OR.out _ hb13).mono ?_
    rintro e w14 ⟨rfl, hb14⟩
    go_wp2_with fail
    refine (TQ.out _ hb14).mono ?_
    rintro e w15 ⟨rfl, hb15⟩
    go_wp2_with fail
    refine (TR.out _ hb15).mono ?_
    rintro e w16 ⟨rfl, hb16⟩
    go_wp2_with fail
    refine (KA.out _ hb16).mono ?_
    rintro e w17 ⟨rfl, hb17⟩
    go_wp2_with fail
    refine bodyPost_ret (v := .bool true) (by simp [results, Tryd.results4, go_sem]) rfl ⟨rfl, hb17⟩
  · refine (KA.out _ hb8).mono ?_
    rintro e w9 ⟨rfl, hb9⟩
    go_wp2_with fail
    refine bodyPost_ret (v := .bool true) (by simp [results, Tryd.results4, go_sem]) rfl ⟨rfl, hb9⟩

theorem itoa_small {x : Int} {k : Nat} (h : (itoa x).length ≤ k) : x.natAbs < 10 ^ k := by
  have key : ∀ u : Nat, (decDigits u).length ≤ k → u < 10 ^ k := fun u hu => by
    have := dv_lt (figs_decDigits u)
    rw [dv_decDigits] at this
    exact Nat.lt_of_lt_of_le this (Nat.pow_le_pow_right (by decide) hu)
  unfold itoa at h
  split at h
  · exact key _ (by simp at h; omega)
  · rename_i hx
    rw [show x.natAbs = x.toNat by omega]
    exact key _ h

theorem size_list (a : ByteArray) : a.size = a.data.toList.length := Array.length_toList.symm

theorem ten70 : 4 * (10 ^ 70 * 10 ^ 70) < lim := by decide +kernel

set_option maxRecDepth 100000 in
set_option maxHeartbeats 1000000 in
theorem BigLaws_long (a b c : ByteArray) (h : 70 < a.size ∨ 70 < b.size ∨ 70 < c.size) (w : World) : Calls Tryd.prog 6 #[.string a, .string b, .string c] w (Yes w) := by
  by_cases ha : (a.size : Int) > 70
  · go_enter Tryd.func6, Tryd.ntmps6
    go_wp2_with fail
    refine bodyPost_ret (v := .bool true) (by simp [results, Tryd.results6, go_sem]) rfl ⟨rfl, Below.refl _ _⟩
  · by_cases hb : (b.size : Int) > 70
    · go_enter Tryd.func6, Tryd.ntmps6
      go_wp2_with fail
      refine bodyPost_ret (v := .bool true) (by simp [results, Tryd.results6, go_sem]) rfl ⟨rfl, Below.refl _ _⟩
    · have hc : (c.size : Int) > 70 := by omega
      go_enter Tryd.func6, Tryd.ntmps6
      go_wp2_with fail
      refine bodyPost_ret (v := .bool true) (by simp [results, Tryd.results6, go_sem]) rfl ⟨rfl, Below.refl _ _⟩

set_option maxRecDepth 100000 in
set_option maxHeartbeats 1000000 in
theorem BigLaws_wrong (a b c : ByteArray) (ha : ¬ (a.size : Int) > 70) (hb : ¬ (b.size : Int) > 70) (hc : ¬ (c.size : Int) > 70) (ia ib ic : Bool) (hia : (right? a.data.toList).isSome = ia) (hib : (right? b.data.toList).isSome = ib) (hic : (right? c.data.toList).isSome = ic)
    (h : (ia && ib && ic) = false) (w : World) (ht : Tab w) : Calls Tryd.prog 6 #[.string a, .string b, .string c] w (Yes w) := by
  have RA := Lib.hid (right_at a hia w)
  have RB := Lib.hid (right_at b hib w)
  have RC := Lib.hid (right_at c hic w)
  have KA := Lib.hid (awake_at ht)
  clear hia hib hic
  cases ia
  · go_enter Tryd.func6, Tryd.ntmps6
    go_wp2_with fail
    refine (RA.out _ (Below.refl _ _)).mono ?_
    rintro e w1 ⟨rfl, hb1⟩
    go_wp2_with fail
    refine (KA.out _ hb1).mono ?_
    rintro e w2 ⟨rfl, hb2⟩
    go_wp2_with fail
    refine bodyPost_ret (v := .bool true) (by simp [results, Tryd.results6, go_sem]) rfl ⟨rfl, hb2⟩
  · cases ib
    · go_enter Tryd.func6, Tryd.ntmps6
      go_wp2_with fail
      refine (RA.out _ (Below.refl _ _)).mono ?_
      rintro e w1 ⟨rfl, hb1⟩
      go_wp2_with fail
      refine (RB.out _ hb1).mono ?_
      rintro e w2 ⟨rfl, hb2⟩
      go_wp2_with fail
      refine (KA.out _ hb2).mono ?_
      rintro e w3 ⟨rfl, hb3⟩
      go_wp2_with fail
      refine bodyPost_ret (v := .bool true) (by simp [results, Tryd.results6, go_sem]) rfl ⟨rfl, hb3⟩
    · cases ic
      · go_enter Tryd.func6, Tryd.ntmps6
        go_wp2_with fail
        refine (RA.out _ (Below.refl _ _)).mono ?_
        rintro e w1 ⟨rfl, hb1⟩
        go_wp2_with fail
        refine (RB.out _ hb1).mono ?_
        rintro e w2 ⟨rfl, hb2⟩
        go_wp2_with fail
        refine (RC.out _ hb2).mono ?_
        rintro e w3 ⟨rfl, hb3⟩
        go_wp2_with fail
        refine (KA.out _ hb3).mono ?_
        rintro e w4 ⟨rfl, hb4⟩
        go_wp2_with fail
        refine bodyPost_ret (v := .bool true) (by simp [results, Tryd.results6, go_sem]) rfl ⟨rfl, hb4⟩
      · simp at h

set_option maxRecDepth 100000 in
set_option maxHeartbeats 4000000 in
theorem BigLaws_right (x y z : Int) (ha : ¬ ((num x).size : Int) > 70) (hb : ¬ ((num y).size : Int) > 70) (hc : ¬ ((num z).size : Int) > 70) (w : World) (ht : Tab w) : Calls Tryd.prog 6 #[.string (num x), .string (num y), .string (num z)] w (Yes w) := by
  have bx : x.natAbs < 10 ^ 70 := itoa_small (by rw [← num_list, ← size_list]; omega)
  have bY : y.natAbs < 10 ^ 70 := itoa_small (by rw [← num_list, ← size_list]; omega)
  have bz : z.natAbs < 10 ^ 70 := itoa_small (by rw [← num_list, ← size_list]; omega)
  have hten := ten70
  obtain ⟨T, hT⟩ : ∃ T : Nat, 10 ^ 70 = T := ⟨_, rfl⟩
  rw [hT] at bx bY bz hten
  have hTT : T ≤ T * T := Nat.le_mul_self T
  clear hT
  have hm : ∀ {u v : Int} {m n : Nat}, u.natAbs ≤ m → v.natAbs ≤ n → (u * v).natAbs ≤ m * n := fun hu hv => by rw [Int.natAbs_mul]; exact Nat.mul_le_mul hu hv
  have pxy : (x * y).natAbs ≤ T * T := hm (by omega) (by omega)
  have pxz : (x * z).natAbs ≤ T * T := hm (by omega) (by omega)
  have pyz : (y * z).natAbs ≤ T * T := hm (by omega) (by omega)
  have psz : ((x + y) * z).natAbs ≤ (2 * T) * T := hm (by omega) (by omega)
  rw [Nat.mul_assoc] at psz
  have lx : x.natAbs < lim := by omega
  have ly : y.natAbs < lim := by omega
  have lz : z.natAbs < lim := by omega
  have ls : (x + y).natAbs < lim := by omega
  have lxy : (x * y).natAbs < lim := by omega
  have lxz : (x * z).natAbs < lim := by omega
  have lyz : (y * z).natAbs < lim := by omega
  have lsz : ((x + y) * z).natAbs < lim := by omega
  have RA := Lib.hid (right_at (num x) (i := true) (by rw [num_list, right?_itoa lx]; rfl) w)
  have RB := Lib.hid (right_at (num y) (i := true) (by rw [num_list, right?_itoa ly]; rfl) w)
  have RC := Lib.hid (right_at (num z) (i := true) (by rw [num_list, right?_itoa lz]; rfl) w)
  have S1 := Lib.hid (op_num sumIs lx ly rfl ls ht)
  have S2 := Lib.hid (op_num sumIs ly lx (z := x + y) (by rw [Int.add_comm]) ls ht)
  have L1 := Lib.hid (op_num lessIs ls ly (z := x) (by simp) lx ht)
  have P1 := Lib.hid (op_num timesIs lx ly rfl lxy ht)
  have P2 := Lib.hid (op_num timesIs ly lx (z := x * y) (by rw [Int.mul_comm]) lxy ht)
  have X1 := Lib.hid (op_num timesIs ls lz rfl lsz ht)
  have Y1 := Lib.hid (op_num timesIs lx lz rfl lxz ht)
  have Z1 := Lib.hid (op_num timesIs ly lz rfl lyz ht)
  have W1 := Lib.hid (op_num sumIs lxz lyz (z := (x + y) * z) (by rw [Int.add_mul]) lsz ht)
  have KA := Lib.hid (awake_at ht)
  have hq : y ≠ 0 → (x.tdiv y).natAbs < lim ∧ (x.tmod y).natAbs < lim ∧ (x.tdiv y * y).natAbs < lim := fun _ => by
    have h1 : (x.tdiv y).natAbs ≤ x.natAbs := by rw [Int.natAbs_tdiv]; exact Nat.div_le_self _ _
    have h2 : (x.tmod y).natAbs ≤ x.natAbs := by rw [Int.natAbs_tmod]; exact Nat.mod_le _ _
    have h3 : (x.tdiv y * y).natAbs ≤ T * T := hm (by omega) (by omega)
    omega
  have HQ := Lib.hid hq
  have HL := Lib.hid (And.intro lx ly)
  clear hq lx ly lz ls lxy lxz lyz lsz pxy pxz pyz psz hm hTT hten bx bY bz
  go_enter Tryd.func6, Tryd.ntmps6
  go_wp2_with fail
  refine (RA.out _ (Below.refl _ _)).mono ?_
  rintro e w1 ⟨rfl, hb1⟩
  go_wp2_with fail
  refine (RB.out _ hb1).mono ?_
  rintro e w2 ⟨rfl, hb2⟩
  go_wp2_with fail
  refine (RC.out _ hb2).mono ?_
  rintro e w3 ⟨rfl, hb3⟩
  go_wp2_with fail
  refine (S1.out _ hb3).mono ?_
  rintro e w4 ⟨rfl, hb4⟩
  go_wp2_with fail
  refine (S2.out _ hb4).mono ?_
  rintro e w5 ⟨rfl, hb5⟩
  go_wp2_with fail
  refine (L1.out _ hb5).mono ?_
  rintro e w6 ⟨rfl, hb6⟩
  go_wp2_with fail
  refine (P1.out _ hb6).mono ?_
  rintro e w7 ⟨rfl, hb7⟩
  go_wp2_with fail
  refine (P2.out _ hb7).mono ?_
  rintro e w8 ⟨rfl, hb8⟩
  go_wp2_with fail
  refine (X1.out _ hb8).mono ?_
  rintro e w9 ⟨rfl, hb9⟩
  go_wp2_with fail
  refine (Y1.out _ hb9).mono ?_
  rintro e w10 ⟨rfl, hb10⟩
  go_wp2_with fail
  refine (Z1.out _ hb10).mono ?_
  rintro e w11 ⟨rfl, hb11⟩
  go_wp2_with fail
  refine (W1.out _ hb11).mono ?_
  rintro e w12 ⟨rfl, hb12⟩
  go_wp2_with fail
  · have h' : (!(num y).toList == [48]) = true := by assumption
    have hy : y ≠ 0 := by
      intro e
      subst e
      rw [num0] at h'
      exact absurd h' (by decide +kernel)
    have lx := HL.out.1
    have ly := HL.out.2
    obtain ⟨lq, lr, lp⟩ := HQ.out hy
    have OQ := Lib.hid (op_num quotIs lx ly (z := x.tdiv y) (by simp [partOp, hy]) lq ht)
    have OR := Lib.hid (op_num restIs lx ly (z := x.tmod y) (by simp [partOp, hy]) lr ht)
    have V1 := Lib.hid (op_num timesIs lq ly rfl lp ht)
    have A1 := Lib.hid (op_num sumIs lp lr (z := x) (by simp [Int.tdiv_mul_add_tmod]) lx ht)
    clear lx ly lq lr lp
    refine (OQ.out _ hb12).mono ?_
    rintro e w13 ⟨rfl, hb13⟩
    go_wp2_with fail
    refine (OR.out _ hb13).mono ?_
    rintro e w14 ⟨rfl, hb14⟩
    go_wp2_with fail
    refine (V1.out _ hb14).mono ?_
    rintro e w15 ⟨rfl, hb15⟩
    go_wp2_with fail
    refine (A1.out _ hb15).mono ?_
    rintro e w16 ⟨rfl, hb16⟩
    go_wp2_with fail
    refine (KA.out _ hb16).mono ?_
    rintro e w17 ⟨rfl, hb17⟩
    go_wp2_with fail
    refine bodyPost_ret (v := .bool true) (by simp [results, Tryd.results6, go_sem]) rfl ⟨rfl, hb17⟩
  · refine (KA.out _ hb12).mono ?_
    rintro e w13 ⟨rfl, hb13⟩
    go_wp2_with fail
    refine bodyPost_ret (v := .bool true) (by simp [results, Tryd.results6, go_sem]) rfl ⟨rfl, hb13⟩

theorem BigLaws_walk (a b c : ByteArray) (w : World) (ht : Tab w) : Calls Tryd.prog 6 #[.string a, .string b, .string c] w (Yes w) := by
  by_cases h : 70 < a.size ∨ 70 < b.size ∨ 70 < c.size
  · exact BigLaws_long a b c h w
  · have ha : ¬ (a.size : Int) > 70 := by omega
    have hb : ¬ (b.size : Int) > 70 := by omega
    have hc : ¬ (c.size : Int) > 70 := by omega
    cases ea : right? a.data.toList with
    | none => exact BigLaws_wrong a b c ha hb hc _ _ _ rfl rfl rfl (by rw [ea]; rfl) w ht
    | some x =>
      cases eb : right? b.data.toList with
      | none => exact BigLaws_wrong a b c ha hb hc _ _ _ rfl rfl rfl (by rw [ea, eb]; rfl) w ht
      | some y =>
        cases ec : right? c.data.toList with
        | none => exact BigLaws_wrong a b c ha hb hc _ _ _ rfl rfl rfl (by rw [ea, eb, ec]; rfl) w ht
        | some z =>
          obtain ⟨rfl, _⟩ := num_of_right ea
          obtain ⟨rfl, _⟩ := num_of_right eb
          obtain ⟨rfl, _⟩ := num_of_right ec
          exact BigLaws_right x y z ha hb hc w ht

end Go.Proofs.YtjfmefdhfboliaaDoor
