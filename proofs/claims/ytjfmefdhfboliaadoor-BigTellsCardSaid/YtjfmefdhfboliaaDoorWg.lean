/- Walks through fits of package big: the greatest digit that times an amount is not above another one. -/
import Derived.Test.YtjfmefdhfboliaaDoorWe
import Derived.Test.YtjfmefdhfboliaaDoorWf
namespace Go.Proofs.YtjfmefdhfboliaaDoor
open Go.RowKit Num

theorem times_nat (x y : Nat) (va vb : Value) (w : World) (ha : Digs w va (limbs x)) (hb : Digs w vb (limbs y)) (lx : Small x) (ly : Small y) :
    Calls Tryd.prog 31 #[.agg #[.bool false, va], .agg #[.bool false, vb]] w (GivesNat w (x * y)) :=
  (times_any x y false false va vb w ha hb lx ly).mono fun _ _ h => Gives.nat h

theorem trimmed_nat (A : Option Addr) (c : Nat) (zs : List Int) (n : Nat) (w : World) (hd : Dig zs) (hz : (n : Int) = val zs) (h : Digs w (.slice A zs.length c) zs) :
    Calls Tryd.prog 45 #[.agg #[.bool false, .slice A zs.length c]] w (GivesNat w n) :=
  (trimmed_to false A c zs n w hd hz h).mono fun _ _ h => Gives.nat h

/-- The difference of two numbers, in a row of its own. -/
theorem taken_own (x y : Nat) (hle : y ≤ x) (va vb : Value) (w : World) (ha : Digs w va (limbs x)) (hb : Digs w vb (limbs y)) (lx : Small x) :
    Calls Tryd.prog 47 #[va, vb] w fun e w' => ∃ g c zs, e = .returned (.slice g zs.length c) ∧ Digs w' (.slice g zs.length c) zs ∧ Dig zs ∧ val zs = ((x - y : Nat) : Int) ∧ (∀ b, (Value.slice g zs.length c).ownBlock = some b → w.heap.size ≤ b) ∧ Below w.heap.size w w' := by
  obtain ⟨A, ca, rfl, _⟩ := ha.form
  obtain ⟨B, cb, rfl, _⟩ := hb.form
  refine (taken_new _ _ (dig_limbs x) (dig_limbs y) A B ca cb w ha hb lx).mono ?_
  rintro e w' ⟨v, rfl, hd, hn, hbel⟩
  obtain ⟨A', c', rfl, _⟩ := hd.form
  refine ⟨A', c', _, rfl, hd, dig_takeL (dig_limbs x) (dig_limbs y), ?_, hn, hbel⟩
  rw [val_takeL (dig_limbs x) (dig_limbs y) (limbs_len_le hle) (by rw [val_limbs, val_limbs]; omega), val_limbs, val_limbs]
  omega

/-- trimmed, in the same row. -/
theorem trimmed_same (A : Option Addr) (c : Nat) (zs : List Int) (n : Nat) (w : World) (hd : Dig zs) (hz : (n : Int) = val zs) (h : Digs w (.slice A zs.length c) zs) :
    Calls Tryd.prog 45 #[.agg #[.bool false, .slice A zs.length c]] w fun e w' => e = .returned (.agg #[.bool false, .slice A (limbs n).length c]) ∧ Digs w' (.slice A (limbs n).length c) (limbs n) ∧ Below w.heap.size w w' := by
  refine (trimmed_cut false A c zs w hd h).mono ?_
  rintro e w' ⟨k, rfl, rfl, hg, hb⟩
  have h1 : (if false = true then - val zs else val zs) = (n : Int) := by simp [hz]
  rw [h1] at hg ⊢
  have h2 : decide ((n : Int) < 0) = false := by simp
  rw [h2]
  exact ⟨rfl, hg, hb⟩

theorem trimmed_one (g d : Nat) (w : World) (hd : d < 1000000000) (h : Digs w (.slice (some ⟨g, 0, none⟩) 1 1) [(d : Int)]) :
    Calls Tryd.prog 45 #[.agg #[.bool false, .slice (some ⟨g, 0, none⟩) 1 1]] w (GivesNat w d) :=
  trimmed_nat _ 1 [(d : Int)] d w (fun x hx => by rw [List.mem_singleton.1 hx]; omega) (by simp [val]) h

theorem small_digit {d : Nat} (h : d < 1000000000) : Small d := by
  have := limbs_len (x := d) (k := 1) (by simpa using h)
  unfold Small; omega

set_option maxRecDepth 100000 in
set_option maxHeartbeats 1000000 in
theorem fits_any (x y : Nat) (hy : 0 < y) (hx : x < y * 1000000000) (va vb : Value) (w : World) (ha : Digs w va (limbs x)) (hb : Digs w vb (limbs y)) (ly : Small y) :
    Calls Tryd.prog 69 #[va, vb] w (GivesInt w ((x / y : Nat) : Int)) := by
  obtain ⟨A, ca, rfl, _⟩ := ha.form
  obtain ⟨B, cb, rfl, _⟩ := hb.form
  have hq : x / y < 1000000000 := by rw [Nat.div_lt_iff_lt_mul hy, Nat.mul_comm]; exact hx
  have hle : ∀ n, n ≤ x / y ↔ y * n ≤ x := fun n => by rw [Nat.le_div_iff_mul_le hy, Nat.mul_comm]
  have HL := Lib.hid hle
  have hfld := Tryd.field1
  generalize (limbs x).length = lx at *
  generalize (limbs y).length = ly' at *
  generalize hqq : x / y = q at *
  clear hle hqq
  go_enter Tryd.func69, Tryd.ntmps69
  go_wp2
  go_loopg [5, 6] 999999999 (fun gk l h wr => ∃ lo hi : Nat, lo ≤ q ∧ q ≤ hi ∧ hi ≤ 999999999 ∧ gk = hi - lo ∧ l = .int .i64 lo ∧ h = .int .i64 hi ∧ Below w.heap.size w wr)
  case atStart => exact ⟨0, 999999999, Nat.zero_le _, by omega, Nat.le_refl _, rfl, rfl, rfl, Below.refl _ _⟩
  case round =>
    obtain ⟨lo, hi, h1, h2, h3, rfl, rfl, rfl, hnx⟩ := hrel
    by_cases hlt : lo < hi
    · obtain ⟨n, hn⟩ : ∃ n, n = (lo + hi + 1) / 2 := ⟨_, rfl⟩
      have hni : ((lo : Int) + (hi : Int) + 1) / 2 = (n : Int) := by omega
      have n1 : lo < n := by omega
      have n2 : n ≤ hi := by omega
      have hs := HL.out n
      have HS := Lib.hid hs
      have HNI := Lib.hid hni
      have HN := Lib.hid hn
      have har := ha.below hnx
      have hbr := hb.below hnx
      clear hs hni hn ha hb
      have hsz := hnx.size
      have hwa : Below w.heap.size w (wr.alloc (.cells #[.int .i64 n] 3)) := hnx.alloc hsz _
      go_wp2_with fail
      rw [HNI.out]
      refine (trimmed_one _ n _ (by omega) (digs_one wr n)).mono ?_
      rintro e w2 ⟨A2, c2, rfl, hd2, hb2⟩
      have hbr2 := (hbr.alloc (.cells #[.int .i64 n] 3)).below hb2
      have har2 := (har.alloc (.cells #[.int .i64 n] 3)).below hb2
      have hw2 := hwa.trans (hb2.mono hwa.size)
      clear har hbr hb2 hwa
      go_wp2_with fail
      refine (times_nat y n _ _ _ hbr2 hd2 ly (small_digit (by omega))).mono ?_
      rintro e w3 ⟨A3, c3, rfl, hd3, hb3⟩
      have har3 := har2.below hb3
      have hw3 := hw2.trans (hb3.mono hw2.size)
      clear hbr2 har2 hb3 hw2 hd2
      by_cases hnq : n ≤ q
      · have hsg : sgn (((y * n : Nat) : Int) - (x : Int)) ≤ 0 := by
          have := HS.out.1 hnq
          unfold sgn
          split
          · decide
          · rw [if_neg (by omega)]; decide
        generalize hyn : y * n = yn at *
        clear hyn
        go_wp2_with fail
        refine (against_any _ _ _ _ _ hd3 har3).mono ?_
        rintro e w4 ⟨rfl, hb4⟩
        have hw4 := hw3.trans (hb4.mono hw3.size)
        clear hb4 hw3 hd3 har3
        go_wp2_with fail
        go_roundg (hi - n)
        case measure => omega
        case rel => exact ⟨n, hi, hnq, h2, h3, rfl, rfl, rfl, hw4⟩
      · have hsg : 0 < sgn (((y * n : Nat) : Int) - (x : Int)) := by
          have : ¬ y * n ≤ x := fun h => hnq (HS.out.2 h)
          unfold sgn
          rw [if_neg (by omega), if_pos (by omega)]; decide
        generalize hyn : y * n = yn at *
        clear hyn
        go_wp2_with fail
        refine (against_any _ _ _ _ _ hd3 har3).mono ?_
        rintro e w4 ⟨rfl, hb4⟩
        have hw4 := hw3.trans (hb4.mono hw3.size)
        clear hb4 hw3 hd3 har3
        go_wp2_with fail
        go_roundg (n - 1 - lo)
        case measure => omega
        case rel => exact ⟨lo, n - 1, h1, by omega, by omega, rfl, rfl, by rw [show ((n - 1 : Nat) : Int) = (n : Int) - 1 by omega], hw4⟩
    · obtain rfl : lo = q := by omega
      clear ha hb
      go_wp2
      go_ret
      exact ⟨rfl, hnx⟩

end Go.Proofs.YtjfmefdhfboliaaDoor
