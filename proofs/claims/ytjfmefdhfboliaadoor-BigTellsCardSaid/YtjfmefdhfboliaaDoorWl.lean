/- Walks through the function values that done is handed: sum, difference, product, quotient or rest. -/
import Derived.Test.YtjfmefdhfboliaaDoorWk
namespace Go.Proofs.YtjfmefdhfboliaaDoor
open Go.RowKit Go.Shelf Num
open Go.Lib (decDigits nDigits decDigits_length itoa)

attribute [local go_sem ↓] Go.wp_at_zero Go.wp_at_succ

/-- What such a function hands back: a number, or that there is none. -/
def DoGives (w : World) (zo : Option Int) (e : Ending) (w' : World) : Prop :=
  ∃ b A c, e = .returned (.tuple #[.agg #[.bool b, .slice A (limbs (zo.getD 0).natAbs).length c], .int .i64 (if zo.isSome = true then 0 else 1)]) ∧
    Rep w' (.agg #[.bool b, .slice A (limbs (zo.getD 0).natAbs).length c]) (zo.getD 0) ∧ Below w.heap.size w w'

theorem Rep.form {w : World} {v : Value} {x : Int} (h : Rep w v x) : ∃ A c, v = .agg #[.bool (decide (x < 0)), .slice A (limbs x.natAbs).length c] ∧ Digs w (.slice A (limbs x.natAbs).length c) (limbs x.natAbs) := by
  obtain ⟨s, rfl, hd⟩ := h
  obtain ⟨A, c, rfl, _⟩ := hd.form
  exact ⟨A, c, rfl, hd⟩

/-- Three boxes ahead of the work: the two numbers' and the result's. -/
theorem three_below (w : World) (u v : Value) : Below w.heap.size w (((w.alloc (.cells #[u, v] 43))) ) := (Below.refl _ _).alloc (Nat.le_refl _) _

set_option maxRecDepth 100000 in
set_option maxHeartbeats 1000000 in
theorem do_sum (x y : Int) (va vb : Value) (w : World) (ha : Rep w va x) (hb : Rep w vb y) (lx : Small x.natAbs) (ly : Small y.natAbs) :
    Calls Tryd.prog 28 #[va, vb] w (DoGives w (some (x + y))) := by
  obtain ⟨A, ca, rfl, hA⟩ := ha.form
  obtain ⟨B, cb, rfl, hB⟩ := hb.form
  obtain ⟨z, hz⟩ : ∃ z, x + y = z := ⟨_, rfl⟩
  have hW : Below w.heap.size w (((w.alloc (.cells #[.bool (decide (x < 0)), .slice A (limbs x.natAbs).length ca] 43)).alloc (.cells #[.bool (decide (y < 0)), .slice B (limbs y.natAbs).length cb] 43)).alloc (.cells #[.bool false, .slice none 0 0] 43)) := (((Below.refl _ _).alloc (Nat.le_refl _) _).alloc (by simp) _).alloc (by simp; omega) _
  have hS := sum_any x y _ _ _ (ha.below hW) (hb.below hW) lx ly
  rw [hz] at hS ⊢
  have HS := Lib.hid hS
  clear ha hb hA hB hS hz
  go_enter Tryd.func28, Tryd.ntmps28
  go_wp2_with fail
  refine HS.out.mono ?_
  rintro e w1 ⟨v, rfl, hr, hb1⟩
  obtain ⟨C, cc, rfl, hC⟩ := hr.form
  have hF : Fresh (w.heap.size + 1 + 1) w1 := (Fresh.at ((w.alloc (.cells #[.bool (decide (x < 0)), .slice A (limbs x.natAbs).length ca] 43)).alloc (.cells #[.bool (decide (y < 0)), .slice B (limbs y.natAbs).length cb] 43)) (by simp)).below hb1
  obtain ⟨p0, p1, p2, p3, pb⟩ := id hF
  go_wp2_with fail
  obtain ⟨s0, s1, _⟩ := store2_facts p0 p1 (.bool (decide (z < 0))) (.slice C (limbs z.natAbs).length cc)
  refine bodyPost_ret (v := .tuple #[.agg #[.bool (decide (z < 0)), .slice C (limbs z.natAbs).length cc], .int .i64 0]) (by simp [results, Tryd.results28, go_sem, s0, s1]) rfl ?_
  have hw1 : Below w.heap.size w w1 := hW.trans (hb1.mono hW.size)
  exact ⟨_, C, cc, rfl, ⟨_, rfl, hC.store2 pb _ _⟩, below_store2 hw1 (by omega) _ _⟩

theorem sign_mul (x y : Int) : (if (decide (x < 0) != decide (y < 0)) = true then - ((x.natAbs * y.natAbs : Nat) : Int) else ((x.natAbs * y.natAbs : Nat) : Int)) = x * y := by
  rw [Int.natCast_mul]
  by_cases hx : x < 0 <;> by_cases hy : y < 0
  · have h1 : ((x.natAbs : Nat) : Int) = -x := by omega
    have h2 : ((y.natAbs : Nat) : Int) = -y := by omega
    rw [h1, h2]; simp [hx, hy, Int.neg_mul, Int.mul_neg]
  · have h1 : ((x.natAbs : Nat) : Int) = -x := by omega
    have h2 : ((y.natAbs : Nat) : Int) = y := by omega
    rw [h1, h2]; simp [hx, hy, Int.neg_mul]
  · have h1 : ((x.natAbs : Nat) : Int) = x := by omega
    have h2 : ((y.natAbs : Nat) : Int) = -y := by omega
    rw [h1, h2]; simp [hx, hy, Int.mul_neg]
  · have h1 : ((x.natAbs : Nat) : Int) = x := by omega
    have h2 : ((y.natAbs : Nat) : Int) = y := by omega
    rw [h1, h2]; simp [hx, hy]

theorem times_int (x y : Int) (va vb : Value) (w : World) (ha : Rep w va x) (hb : Rep w vb y) (lx : Small x.natAbs) (ly : Small y.natAbs) :
    Calls Tryd.prog 31 #[va, vb] w (Gives w (x * y)) := by
  obtain ⟨A, ca, rfl, hA⟩ := ha.form
  obtain ⟨B, cb, rfl, hB⟩ := hb.form
  have := times_any x.natAbs y.natAbs (decide (x < 0)) (decide (y < 0)) _ _ w hA hB lx ly
  rwa [sign_mul] at this

set_option maxRecDepth 100000 in
set_option maxHeartbeats 1000000 in
theorem do_times (x y : Int) (va vb : Value) (w : World) (ha : Rep w va x) (hb : Rep w vb y) (lx : Small x.natAbs) (ly : Small y.natAbs) :
    Calls Tryd.prog 30 #[va, vb] w (DoGives w (some (x * y))) := by
  obtain ⟨A, ca, rfl, hA⟩ := ha.form
  obtain ⟨B, cb, rfl, hB⟩ := hb.form
  obtain ⟨z, hz⟩ : ∃ z, x * y = z := ⟨_, rfl⟩
  have hW : Below w.heap.size w (((w.alloc (.cells #[.bool (decide (x < 0)), .slice A (limbs x.natAbs).length ca] 43)).alloc (.cells #[.bool (decide (y < 0)), .slice B (limbs y.natAbs).length cb] 43)).alloc (.cells #[.bool false, .slice none 0 0] 43)) := (((Below.refl _ _).alloc (Nat.le_refl _) _).alloc (by simp) _).alloc (by simp; omega) _
  have hS := times_int x y _ _ _ (ha.below hW) (hb.below hW) lx ly
  rw [hz] at hS ⊢
  have HS := Lib.hid hS
  clear ha hb hA hB hS hz
  go_enter Tryd.func30, Tryd.ntmps30
  go_wp2_with fail
  refine HS.out.mono ?_
  rintro e w1 ⟨v, rfl, hr, hb1⟩
  obtain ⟨C, cc, rfl, hC⟩ := hr.form
  have hF : Fresh (w.heap.size + 1 + 1) w1 := (Fresh.at ((w.alloc (.cells #[.bool (decide (x < 0)), .slice A (limbs x.natAbs).length ca] 43)).alloc (.cells #[.bool (decide (y < 0)), .slice B (limbs y.natAbs).length cb] 43)) (by simp)).below hb1
  obtain ⟨p0, p1, p2, p3, pb⟩ := id hF
  go_wp2_with fail
  obtain ⟨s0, s1, _⟩ := store2_facts p0 p1 (.bool (decide (z < 0))) (.slice C (limbs z.natAbs).length cc)
  refine bodyPost_ret (v := .tuple #[.agg #[.bool (decide (z < 0)), .slice C (limbs z.natAbs).length cc], .int .i64 0]) (by simp [results, Tryd.results30, go_sem, s0, s1]) rfl ?_
  have hw1 : Below w.heap.size w w1 := hW.trans (hb1.mono hW.size)
  exact ⟨_, C, cc, rfl, ⟨_, rfl, hC.store2 pb _ _⟩, below_store2 hw1 (by omega) _ _⟩

set_option maxRecDepth 100000 in
set_option maxHeartbeats 1000000 in
theorem do_less (x y : Int) (va vb : Value) (w : World) (ha : Rep w va x) (hb : Rep w vb y) (lx : Small x.natAbs) (ly : Small y.natAbs) :
    Calls Tryd.prog 33 #[va, vb] w (DoGives w (some (x - y))) := by
  obtain ⟨A, ca, rfl, hA⟩ := ha.form
  obtain ⟨B, cb, rfl, hB⟩ := hb.form
  obtain ⟨z, hz⟩ : ∃ z, x - y = z := ⟨_, rfl⟩
  obtain ⟨W0, hW0⟩ : ∃ W0, (((w.alloc (.cells #[.bool (decide (x < 0)), .slice A (limbs x.natAbs).length ca] 43)).alloc (.cells #[.bool (decide (y < 0)), .slice B (limbs y.natAbs).length cb] 43)).alloc (.cells #[.bool false, .slice none 0 0] 43)) = W0 := ⟨_, rfl⟩
  have hW : Below w.heap.size w W0 := by rw [← hW0]; exact (((Below.refl _ _).alloc (Nat.le_refl _) _).alloc (by simp) _).alloc (by simp; omega) _
  have hF0 : Fresh (w.heap.size + 1 + 1) W0 := by rw [← hW0]; exact Fresh.at _ (by simp)
  have k0 : W0.cell? ⟨w.heap.size, 0, none⟩ = some (.bool (decide (x < 0))) := by rw [← hW0]; simp [go_sem]
  have k1 : W0.cell? ⟨w.heap.size, 1, none⟩ = some (.slice A (limbs x.natAbs).length ca) := by rw [← hW0]; simp [go_sem]
  have k2 : W0.cell? ⟨w.heap.size + 1, 0, none⟩ = some (.bool (decide (y < 0))) := by rw [← hW0]; simp [go_sem]
  have k3 : W0.cell? ⟨w.heap.size + 1, 1, none⟩ = some (.slice B (limbs y.natAbs).length cb) := by rw [← hW0]; simp [go_sem]
  have hz0 : W0.heap.size = w.heap.size + 1 + 1 + 1 := by rw [← hW0]; simp
  have hT := turned_any y _ W0.drew ((hb.below hW).below (Below.refl _ _).drew)
  have hx0 : Rep W0.drew (.agg #[.bool (decide (x < 0)), .slice A (limbs x.natAbs).length ca]) x := (ha.below hW).below (Below.refl _ _).drew
  have ly' : Small (-y).natAbs := by rw [Int.natAbs_neg]; exact ly
  have hS := fun (v : Value) (w1 : World) (hr : Rep w1 v (-y)) (hb1 : Below W0.drew.heap.size W0.drew w1) => sum_any x (-y) _ v w1 (hx0.below hb1) hr lx ly'
  have e : x + -y = z := by rw [← hz]; omega
  rw [e] at hS
  obtain ⟨ny, hny⟩ : ∃ ny, -y = ny := ⟨_, rfl⟩
  rw [hny] at hS hT
  rw [hz]
  have HT := Lib.hid hT
  have HS := Lib.hid hS
  clear ha hb hA hB hS hT hz e hx0 ly' hny
  go_enter Tryd.func33, Tryd.ntmps33
  go_wp2_with fail
  clear hW0
  have hF0' : Fresh (w.heap.size + 1 + 1) W0.drew := hF0
  clear hF0
  go_region_with (first
    | (go_at_call 34; refine HT.out.mono ?_; rintro e w1 ⟨v, rfl, hr, hb1⟩; have j0 := keeps_cell hb1 k0; have j1 := keeps_cell hb1 k1; have hF1 := hF0'.below hb1; obtain ⟨C, cc, rfl, _⟩ := hr.form)
    | (go_at_call 29; refine (HS.out _ _ hr hb1).mono ?_; rintro e w2 ⟨v, rfl, hr2, hb2⟩; obtain ⟨E, ce, rfl, hE⟩ := hr2.form; have hF2 := hF1.below hb2; obtain ⟨p0, p1, p2, p3, pb⟩ := id hF2))
  all_goals
    go_wp2_with fail
    obtain ⟨s0, s1, _⟩ := store2_facts p0 p1 (.bool (decide (z < 0))) (.slice E (limbs z.natAbs).length ce)
    refine bodyPost_ret (v := .tuple #[.agg #[.bool (decide (z < 0)), .slice E (limbs z.natAbs).length ce], .int .i64 0]) (by simp [results, Tryd.results33, go_sem, s0, s1]) rfl ?_
    have hw1 : Below w.heap.size w w1 := hW.drew.trans (hb1.mono hW.size)
    have hw2 : Below w.heap.size w w2 := hw1.trans (hb2.mono hw1.size)
    exact ⟨_, E, ce, rfl, ⟨_, rfl, hE.store2 pb _ _⟩, below_store2 hw2 (by omega) _ _⟩


theorem divided_int (x y : Int) (hy : y ≠ 0) (va vb : Value) (w : World) (ha : Rep w va x) (hb : Rep w vb y) (lx : Small x.natAbs) (ly : Small y.natAbs) :
    Calls Tryd.prog 50 #[va, vb] w fun e w' => ∃ vq vr, e = .returned (.tuple #[vq, vr]) ∧ Rep w' vq (x.tdiv y) ∧ Rep w' vr (x.tmod y) ∧ Below w.heap.size w w' := by
  obtain ⟨A, ca, rfl, hA⟩ := ha.form
  obtain ⟨B, cb, rfl, hB⟩ := hb.form
  refine divided_raw x.natAbs y.natAbs (by omega) (decide (x < 0)) (decide (y < 0)) _ _ (Lib.hid ⟨?_, ?_⟩) A B _ ca _ cb w hA hB lx ly
  · rw [← quo_tdiv]; rfl
  · rw [← rest_tmod]; unfold rest; simp

set_option maxRecDepth 100000 in
set_option maxHeartbeats 1000000 in
theorem do_parts (x y : Int) (r : Bool) (P : Nat) (va vb : Value) (w : World) (ha : Rep w va x) (hb : Rep w vb y) (lx : Small x.natAbs) (ly : Small y.natAbs) (hP : w.cell? ⟨P, 0, none⟩ = some (.bool r)) :
    Calls Tryd.prog 49 #[va, vb, .pointer (some ⟨P, 0, none⟩)] w (DoGives w (if y = 0 then none else some (if r = true then x.tmod y else x.tdiv y))) := by
  obtain ⟨A, ca, rfl, hA⟩ := ha.form
  obtain ⟨B, cb, rfl, hB⟩ := hb.form
  obtain ⟨zo, hzo⟩ : ∃ zo, (if y = 0 then none else some (if r = true then x.tmod y else x.tdiv y)) = zo := ⟨_, rfl⟩
  rw [hzo]
  have hPl := cell_lt hP
  obtain ⟨W0, hW0⟩ : ∃ W0, (((w.alloc (.cells #[.bool (decide (x < 0)), .slice A (limbs x.natAbs).length ca] 43)).alloc (.cells #[.bool (decide (y < 0)), .slice B (limbs y.natAbs).length cb] 43)).alloc (.cells #[.bool false, .slice none 0 0] 43)) = W0 := ⟨_, rfl⟩
  have hW : Below w.heap.size w W0 := by rw [← hW0]; exact (((Below.refl _ _).alloc (Nat.le_refl _) _).alloc (by simp) _).alloc (by simp; omega) _
  have hF0 : Fresh (w.heap.size + 1 + 1) W0 := by rw [← hW0]; exact Fresh.at _ (by simp)
  have k0 : W0.cell? ⟨w.heap.size, 0, none⟩ = some (.bool (decide (x < 0))) := by rw [← hW0]; simp [go_sem]
  have k1 : W0.cell? ⟨w.heap.size, 1, none⟩ = some (.slice A (limbs x.natAbs).length ca) := by rw [← hW0]; simp [go_sem]
  have k2 : W0.cell? ⟨w.heap.size + 1, 0, none⟩ = some (.bool (decide (y < 0))) := by rw [← hW0]; simp [go_sem]
  have k3 : W0.cell? ⟨w.heap.size + 1, 1, none⟩ = some (.slice B (limbs y.natAbs).length cb) := by rw [← hW0]; simp [go_sem]
  have k4 : W0.cell? ⟨P, 0, none⟩ = some (.bool r) := (hW.cell (p := ⟨P, 0, none⟩) hPl).trans hP
  have hz0 : W0.heap.size = w.heap.size + 1 + 1 + 1 := by rw [← hW0]; simp
  by_cases hy : y = 0
  · have hzn : zo = none := by rw [← hzo, if_pos hy]
    subst hy
    have hl : (limbs (0 : Int).natAbs).length = 0 := by
      have : (0 : Int).natAbs = 0 := rfl
      rw [this, limbs_zero]; rfl
    rw [hl] at k3 hW0 ⊢
    clear ha hb hA hB hzo hP hPl hl
    obtain ⟨p0, p1, p2, p3, pb⟩ := id hF0
    have HZ := Lib.hid hzn
    clear hzn
    go_enter Tryd.func49, Tryd.ntmps49
    go_wp2_with fail
    obtain ⟨s0, s1, _⟩ := store2_facts p0 p1 (.bool false) (.slice none 0 0)
    refine bodyPost_ret (v := .tuple #[.agg #[.bool false, .slice none 0 0], .int .i64 1]) (by simp [results, Tryd.results49, go_sem]) rfl ?_
    have e0 : (limbs (zo.getD 0).natAbs).length = 0 := by
      rw [HZ.out]
      show (limbs (0 : Int).natAbs).length = 0
      have : (0 : Int).natAbs = 0 := rfl
      rw [this, limbs_zero]; rfl
    refine ⟨false, none, 0, by rw [e0, HZ.out]; rfl, ?_, (((Below.refl _ _).alloc (Nat.le_refl _) _).alloc (by simp) _).alloc (by simp; omega) _⟩
    rw [e0, HZ.out]
    exact rep_zero _
  · have hln : (limbs y.natAbs).length ≠ 0 := fun e => hy (Int.natAbs_eq_zero.1 (limbs_eq_nil.1 (List.length_eq_zero_iff.1 e)))
    have hlb : (((limbs y.natAbs).length : Int) == 0) = false := beq_eq_false_iff_ne.2 (by omega)
    have hD := divided_int x y hy _ _ W0 (ha.below hW) (hb.below hW) lx ly
    obtain ⟨q, hq⟩ : ∃ q, x.tdiv y = q := ⟨_, rfl⟩
    obtain ⟨m, hm⟩ : ∃ m, x.tmod y = m := ⟨_, rfl⟩
    rw [if_neg hy, hq, hm] at hzo
    rw [hq, hm] at hD
    have HD := Lib.hid hD
    have HZ := Lib.hid hzo
    have hPW : P < W0.heap.size := cell_lt k4
    clear ha hb hA hB hD hzo hP hPl hln hy hq hm
    go_enter Tryd.func49, Tryd.ntmps49
    go_wp2_with fail
    clear hW0
    refine HD.out.mono ?_
    rintro e w1 ⟨vq, vr, rfl, hrq, hrr, hb1⟩
    obtain ⟨Q, cq, rfl, hQ⟩ := hrq.form
    obtain ⟨R, cr, rfl, hR⟩ := hrr.form
    have hF1 := hF0.below hb1
    obtain ⟨p0, p1, p2, p3, pb⟩ := id hF1
    have j4 := keeps_cell hb1 k4
    have hP1 : P < w1.heap.size := cell_lt j4
    have hw1 : Below w.heap.size w w1 := hW.trans (hb1.mono hW.size)
    have hz1 := hb1.size
    have hr1 : w.heap.size + 1 + 1 < w1.heap.size := pb.lt
    have hr2 : w.heap.size + 1 < w1.heap.size := Nat.lt_of_succ_lt hr1
    have hP2 : P < w1.heap.size + 1 := Nat.lt_succ_of_lt hP1
    clear hF1
    cases r
    · go_wp2_with fail
      obtain ⟨s0, s1, _⟩ := store2_facts p0 p1 (.bool (decide (q < 0))) (.slice Q (limbs q.natAbs).length cq)
      have sd := hQ.store2 pb (.bool (decide (q < 0))) (.slice Q (limbs q.natAbs).length cq)
      have sb := below_store2 hw1 (b := w.heap.size + 1 + 1) (by omega) (.bool (decide (q < 0))) (.slice Q (limbs q.natAbs).length cq)
      obtain ⟨U, hU⟩ : ∃ U, (w1.setCell ⟨w.heap.size + 1 + 1, 0, none⟩ (.bool (decide (q < 0)))).setCell ⟨w.heap.size + 1 + 1, 1, none⟩ (.slice Q (limbs q.natAbs).length cq) = U := ⟨_, rfl⟩
      rw [hU] at s0 s1 sd sb ⊢
      have hbw : Below U.heap.size U ((U.alloc (.cells #[.bool (decide (q < 0)), .slice Q (limbs q.natAbs).length cq] 43)).alloc (.cells #[.bool (decide (m < 0)), .slice R (limbs m.natAbs).length cr] 43)) := ((Below.refl _ _).alloc (Nat.le_refl _) _).alloc (by simp) _
      obtain ⟨V, hV⟩ : ∃ V, ((U.alloc (.cells #[.bool (decide (q < 0)), .slice Q (limbs q.natAbs).length cq] 43)).alloc (.cells #[.bool (decide (m < 0)), .slice R (limbs m.natAbs).length cr] 43)) = V := ⟨_, rfl⟩
      rw [hV] at hbw ⊢
      have o0 := keeps_cell hbw s0
      have o1 := keeps_cell hbw s1
      refine bodyPost_ret (v := .tuple #[.agg #[.bool (decide (q < 0)), .slice Q (limbs q.natAbs).length cq], .int .i64 0]) (by simp [results, Tryd.results49, go_sem, o0, o1]) rfl ?_
      rw [← HZ.out]
      exact ⟨_, Q, cq, rfl, ⟨_, rfl, sd.below hbw⟩, sb.trans (hbw.mono sb.size)⟩
    · go_wp2_with fail
      obtain ⟨s0, s1, _⟩ := store2_facts p0 p1 (.bool (decide (m < 0))) (.slice R (limbs m.natAbs).length cr)
      have sd := hR.store2 pb (.bool (decide (m < 0))) (.slice R (limbs m.natAbs).length cr)
      have sb := below_store2 hw1 (b := w.heap.size + 1 + 1) (by omega) (.bool (decide (m < 0))) (.slice R (limbs m.natAbs).length cr)
      obtain ⟨U, hU⟩ : ∃ U, (w1.setCell ⟨w.heap.size + 1 + 1, 0, none⟩ (.bool (decide (m < 0)))).setCell ⟨w.heap.size + 1 + 1, 1, none⟩ (.slice R (limbs m.natAbs).length cr) = U := ⟨_, rfl⟩
      rw [hU] at s0 s1 sd sb ⊢
      have hbw : Below U.heap.size U ((U.alloc (.cells #[.bool (decide (q < 0)), .slice Q (limbs q.natAbs).length cq] 43)).alloc (.cells #[.bool (decide (m < 0)), .slice R (limbs m.natAbs).length cr] 43)) := ((Below.refl _ _).alloc (Nat.le_refl _) _).alloc (by simp) _
      obtain ⟨V, hV⟩ : ∃ V, ((U.alloc (.cells #[.bool (decide (q < 0)), .slice Q (limbs q.natAbs).length cq] 43)).alloc (.cells #[.bool (decide (m < 0)), .slice R (limbs m.natAbs).length cr] 43)) = V := ⟨_, rfl⟩
      rw [hV] at hbw ⊢
      have o0 := keeps_cell hbw s0
      have o1 := keeps_cell hbw s1
      refine bodyPost_ret (v := .tuple #[.agg #[.bool (decide (m < 0)), .slice R (limbs m.natAbs).length cr], .int .i64 0]) (by simp [results, Tryd.results49, go_sem, o0, o1]) rfl ?_
      rw [← HZ.out]
      exact ⟨_, R, cr, rfl, ⟨_, rfl, sd.below hbw⟩, sb.trans (hbw.mono sb.size)⟩

end Go.Proofs.YtjfmefdhfboliaaDoor
