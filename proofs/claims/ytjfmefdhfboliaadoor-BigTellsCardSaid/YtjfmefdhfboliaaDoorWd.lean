/- Walks through sum and turned of package big: sums of numbers, of whatever signs. -/
import Derived.Test.YtjfmefdhfboliaaDoorWb
import Derived.Test.YtjfmefdhfboliaaDoorWc
import Derived.Deep.RegionHeld3
import Derived.Deep.DrawnRows
import Derived.Deep.RegionWith
namespace Go.Proofs.YtjfmefdhfboliaaDoor
open Go.RowKit Num

attribute [local go_sem ↓] Go.wp_at_zero Go.wp_at_succ

set_option maxRecDepth 100000 in
set_option maxHeartbeats 1000000 in
theorem turned_any (x : Int) (v : Value) (w : World) (h : Rep w v x) : Calls Tryd.prog 34 #[v] w (Gives w (-x)) := by
  obtain ⟨s, rfl, hs⟩ := h
  obtain ⟨A, c, rfl, h1, h2, _⟩ := hs.form
  have hT := fun (W : World) (hd : Digs W (.slice A (limbs x.natAbs).length c) (limbs x.natAbs)) => trimmed_any (!decide (x < 0)) A c (limbs x.natAbs) W (dig_limbs _) hd
  have ex : (if (!decide (x < 0)) = true then - val (limbs x.natAbs) else val (limbs x.natAbs)) = -x := by
    rw [val_limbs]; by_cases hx : x < 0 <;> simp [hx] <;> omega
  rw [ex] at hT
  have HT := Lib.hid hT
  clear hT ex h1 h2
  generalize (limbs x.natAbs).length = n at *
  generalize decide (x < 0) = b at *
  go_enter Tryd.func34, Tryd.ntmps34
  have hB2 : Below w.heap.size w ((w.alloc (.cells #[.bool b, .slice A n c] 43)).alloc (.cells #[.bool false, .slice none 0 0] 43)) := ((Below.refl _ _).alloc (Nat.le_refl _) _).alloc (by simp) _
  have hs2 := hs.below hB2
  go_wp2_with (go_at_call 45; refine (HT.out _ hs2).mono ?_; rintro e w' ⟨v, rfl, ⟨s', rfl, hd'⟩, hb⟩; obtain ⟨A', c', rfl, _⟩ := hd'.form; obtain ⟨hc, hf⟩ := bcell hb; have hz := hb.size)
  have bx := ((Box.new (w.alloc (.cells #[.bool b, .slice A n c] 43)) #[.bool false, .slice none 0 0] 43).below hb)
  rw [World.size_alloc] at bx
  refine bodyPost_ret (v := .agg #[.bool (decide (-x < 0)), .slice A' (limbs (-x).natAbs).length c']) (by simp [results, Tryd.results34, go_sem, hc]) rfl ?_
  exact ⟨_, rfl, ⟨_, rfl, by simpa using hd'.store2 bx _ _⟩, below_store2 (hB2.trans (hb.mono (by simp; omega))) (by omega) _ _⟩

/-- added, of numbers' digits: what the raw sum is. -/
theorem added_nat (x y : Nat) (va vb : Value) (w : World) (ha : Digs w va (limbs x)) (hb : Digs w vb (limbs y)) (lx : Small x) (ly : Small y) :
    Calls Tryd.prog 46 #[va, vb] w fun e w' => ∃ A c zs, e = .returned (.slice A zs.length c) ∧ Digs w' (.slice A zs.length c) zs ∧ Dig zs ∧ val zs = ((x + y : Nat) : Int) ∧ Below w.heap.size w w' := by
  obtain ⟨A, ca, rfl, _⟩ := ha.form
  obtain ⟨B, cb, rfl, _⟩ := hb.form
  refine (added_any _ _ (dig_limbs x) (dig_limbs y) A B ca cb w ha hb lx ly).mono ?_
  rintro e w' ⟨v, rfl, hd, hbel⟩
  obtain ⟨A', c', rfl, _⟩ := hd.form
  exact ⟨A', c', _, rfl, hd, dig_addL (dig_limbs x) (dig_limbs y), by rw [val_addL (dig_limbs x) (dig_limbs y), val_limbs, val_limbs]; simp, hbel⟩

theorem taken_nat (x y : Nat) (hle : y ≤ x) (va vb : Value) (w : World) (ha : Digs w va (limbs x)) (hb : Digs w vb (limbs y)) (lx : Small x) :
    Calls Tryd.prog 47 #[va, vb] w fun e w' => ∃ A c zs, e = .returned (.slice A zs.length c) ∧ Digs w' (.slice A zs.length c) zs ∧ Dig zs ∧ val zs = ((x - y : Nat) : Int) ∧ Below w.heap.size w w' := by
  obtain ⟨A, ca, rfl, _⟩ := ha.form
  obtain ⟨B, cb, rfl, _⟩ := hb.form
  refine (taken_any _ _ (dig_limbs x) (dig_limbs y) A B ca cb w ha hb lx).mono ?_
  rintro e w' ⟨v, rfl, hd, hbel⟩
  obtain ⟨A', c', rfl, _⟩ := hd.form
  refine ⟨A', c', _, rfl, hd, dig_takeL (dig_limbs x) (dig_limbs y), ?_, hbel⟩
  rw [val_takeL (dig_limbs x) (dig_limbs y) (limbs_len_le hle) (by rw [val_limbs, val_limbs]; omega), val_limbs, val_limbs]
  omega

set_option maxRecDepth 100000 in
set_option maxHeartbeats 1000000 in
theorem sum_alike (x y : Int) (A B : Option Addr) (n ca m cb : Nat) (bx : Bool) (w : World) (hA : Digs w (.slice A n ca) (limbs x.natAbs)) (hB : Digs w (.slice B m cb) (limbs y.natAbs)) (lx : Small x.natAbs) (ly : Small y.natAbs)
    (hv : ∀ zs, val zs = ((x.natAbs + y.natAbs : Nat) : Int) → x + y = if bx = true then - val zs else val zs) :
    Calls Tryd.prog 29 #[.agg #[.bool bx, .slice A n ca], .agg #[.bool bx, .slice B m cb]] w (Gives w (x + y)) := by
  have HV := Lib.hid hv
  clear hv
  have hB2 : Below w.heap.size w (((w.alloc (.cells #[.bool bx, .slice A n ca] 43)).alloc (.cells #[.bool bx, .slice B m cb] 43)).alloc (.cells #[.bool false, .slice none 0 0] 43)) := (((Below.refl _ _).alloc (Nat.le_refl _) _).alloc (by simp) _).alloc (by simp; omega) _
  have hA2 := hA.below hB2
  have hBB2 := hB.below hB2
  go_enter Tryd.func29, Tryd.ntmps29
  go_wp2_with (go_at_call 44; refine (against_any _ _ _ _ _ hA2 hBB2).mono ?_; rintro e w1 ⟨rfl, hb1⟩; obtain ⟨hc, hf⟩ := bcell hb1; have hz := hb1.size)
  have hA3 := hA2.below hb1
  have hB3 := hBB2.below hb1
  have k0 : w1.cell? ⟨w.heap.size, 0, none⟩ = some (.bool bx) := by rw [hc _ _ (by simp only [World.size_alloc]; omega)]; simp [go_sem]
  have k1 : w1.cell? ⟨w.heap.size, 1, none⟩ = some (.slice A n ca) := by rw [hc _ _ (by simp only [World.size_alloc]; omega)]; simp [go_sem]
  have k2 : w1.cell? ⟨w.heap.size + 1, 0, none⟩ = some (.bool bx) := by rw [hc _ _ (by simp only [World.size_alloc]; omega)]; simp [go_sem]
  have k3 : w1.cell? ⟨w.heap.size + 1, 1, none⟩ = some (.slice B m cb) := by rw [hc _ _ (by simp only [World.size_alloc]; omega)]; simp [go_sem]
  have hB1 := hB2.trans (hb1.mono (by simp; omega))
  have bxx : Box w1 (w.heap.size + 1 + 1) 43 := by
    have := ((Box.new ((w.alloc (.cells #[.bool bx, .slice A n ca] 43)).alloc (.cells #[.bool bx, .slice B m cb] 43)) #[.bool false, .slice none 0 0] 43).below hb1)
    simpa using this
  have g1 : w1.cell? ⟨w.heap.size + 1 + 1, 0, none⟩ = some (.bool false) := by rw [hc _ _ (by simp only [World.size_alloc]; omega)]; simp [go_sem]
  have g2 : w1.cell? ⟨w.heap.size + 1 + 1, 1, none⟩ = some (.slice none 0 0) := by rw [hc _ _ (by simp only [World.size_alloc]; omega)]; simp [go_sem]
  have f1 : w1.frozen? ⟨w.heap.size + 1 + 1, 0, none⟩ = false := by rw [hf _ _ (by simp only [World.size_alloc]; omega)]; simp [go_sem]
  have f2 : w1.frozen? ⟨w.heap.size + 1 + 1, 1, none⟩ = false := by rw [hf _ _ (by simp only [World.size_alloc]; omega)]; simp [go_sem]
  clear hc hf hz hb1 hA2 hBB2 hA hB hB2
  have T := Lib.hid (added_nat _ _ _ _ w1.drew hA3.drew hB3.drew lx ly)
  go_region_with (first | (go_at_call 46; refine T.out.mono ?_; rintro e w2 ⟨A2, c2, zs, rfl, hd2, hdg, hv2, hb2⟩; have k1' := keeps_cell hb2 k0) | (go_at_call 45; refine (trimmed_to bx A2 c2 zs (x + y) _ hdg (HV.out zs hv2) hd2).mono ?_; rintro e w3 ⟨v, rfl, ⟨s3, rfl, hd3⟩, hb3⟩; obtain ⟨A3, c3, rfl, _⟩ := hd3.form; have g1' := keeps_cell hb3 (keeps_cell hb2 g1); have g2' := keeps_cell hb3 (keeps_cell hb2 g2); have f1' := keeps_free hb3 (keeps_cell hb2 g1) (keeps_free hb2 g1 f1); have f2' := keeps_free hb3 (keeps_cell hb2 g2) (keeps_free hb2 g2 f2); have bx3 := (bxx.drew.below hb2).below hb3))
  all_goals
    go_wp2
    refine bodyPost_ret (v := .agg #[.bool (decide (x + y < 0)), .slice A3 (limbs (x + y).natAbs).length c3]) (by simp [results, Tryd.results29, go_sem, g1', g2']) rfl ?_
    exact ⟨_, rfl, ⟨_, rfl, hd3.store2 bx3 _ _⟩, below_store2 ((hB1.drew.trans (hb2.mono hB1.size)).trans (hb3.mono (Nat.le_trans hB1.size hb2.size))) (by omega) _ _⟩

set_option maxRecDepth 100000 in
set_option maxHeartbeats 1000000 in
theorem sum_over (x y : Int) (A B : Option Addr) (n ca m cb : Nat) (bx bY : Bool) (w : World) (hA : Digs w (.slice A n ca) (limbs x.natAbs)) (hB : Digs w (.slice B m cb) (limbs y.natAbs)) (lx : Small x.natAbs) (_ly : Small y.natAbs)
    (hs : (bx == bY) = false) (hle : y.natAbs ≤ x.natAbs)
    (hv : ∀ zs, val zs = ((x.natAbs - y.natAbs : Nat) : Int) → x + y = if bx = true then - val zs else val zs) :
    Calls Tryd.prog 29 #[.agg #[.bool bx, .slice A n ca], .agg #[.bool bY, .slice B m cb]] w (Gives w (x + y)) := by
  have HV := Lib.hid hv
  clear hv
  have hB2 : Below w.heap.size w (((w.alloc (.cells #[.bool bx, .slice A n ca] 43)).alloc (.cells #[.bool bY, .slice B m cb] 43)).alloc (.cells #[.bool false, .slice none 0 0] 43)) := (((Below.refl _ _).alloc (Nat.le_refl _) _).alloc (by simp) _).alloc (by simp; omega) _
  have hA2 := hA.below hB2
  have hBB2 := hB.below hB2
  have hg : 0 ≤ sgn ((x.natAbs : Int) - y.natAbs) := by
    unfold sgn
    rw [if_neg (by omega)]
    split <;> decide

  go_enter Tryd.func29, Tryd.ntmps29
  go_wp2_with (go_at_call 44; refine (against_any _ _ _ _ _ hA2 hBB2).mono ?_; rintro e w1 ⟨rfl, hb1⟩; obtain ⟨hc, hf⟩ := bcell hb1; have hz := hb1.size)
  have hA3 := hA2.below hb1
  have hB3 := hBB2.below hb1
  have k0 : w1.cell? ⟨w.heap.size, 0, none⟩ = some (.bool bx) := by rw [hc _ _ (by simp only [World.size_alloc]; omega)]; simp [go_sem]
  have k1 : w1.cell? ⟨w.heap.size, 1, none⟩ = some (.slice A n ca) := by rw [hc _ _ (by simp only [World.size_alloc]; omega)]; simp [go_sem]
  have k2 : w1.cell? ⟨w.heap.size + 1, 0, none⟩ = some (.bool bY) := by rw [hc _ _ (by simp only [World.size_alloc]; omega)]; simp [go_sem]
  have k3 : w1.cell? ⟨w.heap.size + 1, 1, none⟩ = some (.slice B m cb) := by rw [hc _ _ (by simp only [World.size_alloc]; omega)]; simp [go_sem]
  have hB1 := hB2.trans (hb1.mono (by simp; omega))
  have bxx : Box w1 (w.heap.size + 1 + 1) 43 := by
    have := ((Box.new ((w.alloc (.cells #[.bool bx, .slice A n ca] 43)).alloc (.cells #[.bool bY, .slice B m cb] 43)) #[.bool false, .slice none 0 0] 43).below hb1)
    simpa using this
  have g1 : w1.cell? ⟨w.heap.size + 1 + 1, 0, none⟩ = some (.bool false) := by rw [hc _ _ (by simp only [World.size_alloc]; omega)]; simp [go_sem]
  have g2 : w1.cell? ⟨w.heap.size + 1 + 1, 1, none⟩ = some (.slice none 0 0) := by rw [hc _ _ (by simp only [World.size_alloc]; omega)]; simp [go_sem]
  have f1 : w1.frozen? ⟨w.heap.size + 1 + 1, 0, none⟩ = false := by rw [hf _ _ (by simp only [World.size_alloc]; omega)]; simp [go_sem]
  have f2 : w1.frozen? ⟨w.heap.size + 1 + 1, 1, none⟩ = false := by rw [hf _ _ (by simp only [World.size_alloc]; omega)]; simp [go_sem]
  clear hc hf hz hb1 hA2 hBB2 hA hB hB2
  have T := Lib.hid (taken_nat _ _ hle _ _ w1.drew hA3.drew hB3.drew lx)
  go_region_with (first | (go_at_call 47; refine T.out.mono ?_; rintro e w2 ⟨A2, c2, zs, rfl, hd2, hdg, hv2, hb2⟩; have k1' := keeps_cell hb2 k0) | (go_at_call 45; refine (trimmed_to bx A2 c2 zs (x + y) _ hdg (HV.out zs hv2) hd2).mono ?_; rintro e w3 ⟨v, rfl, ⟨s3, rfl, hd3⟩, hb3⟩; obtain ⟨A3, c3, rfl, _⟩ := hd3.form; have g1' := keeps_cell hb3 (keeps_cell hb2 g1); have g2' := keeps_cell hb3 (keeps_cell hb2 g2); have f1' := keeps_free hb3 (keeps_cell hb2 g1) (keeps_free hb2 g1 f1); have f2' := keeps_free hb3 (keeps_cell hb2 g2) (keeps_free hb2 g2 f2); have bx3 := (bxx.drew.below hb2).below hb3))
  all_goals
    go_wp2
    refine bodyPost_ret (v := .agg #[.bool (decide (x + y < 0)), .slice A3 (limbs (x + y).natAbs).length c3]) (by simp [results, Tryd.results29, go_sem, g1', g2']) rfl ?_
    exact ⟨_, rfl, ⟨_, rfl, hd3.store2 bx3 _ _⟩, below_store2 ((hB1.drew.trans (hb2.mono hB1.size)).trans (hb3.mono (Nat.le_trans hB1.size hb2.size))) (by omega) _ _⟩

set_option maxRecDepth 100000 in
set_option maxHeartbeats 1000000 in
theorem sum_under (x y : Int) (A B : Option Addr) (n ca m cb : Nat) (bx bY : Bool) (w : World) (hA : Digs w (.slice A n ca) (limbs x.natAbs)) (hB : Digs w (.slice B m cb) (limbs y.natAbs)) (_lx : Small x.natAbs) (ly : Small y.natAbs)
    (hs : (bx == bY) = false) (hlt : x.natAbs < y.natAbs)
    (hv : ∀ zs, val zs = ((y.natAbs - x.natAbs : Nat) : Int) → x + y = if bY = true then - val zs else val zs) :
    Calls Tryd.prog 29 #[.agg #[.bool bx, .slice A n ca], .agg #[.bool bY, .slice B m cb]] w (Gives w (x + y)) := by
  have HV := Lib.hid hv
  clear hv
  have hB2 : Below w.heap.size w (((w.alloc (.cells #[.bool bx, .slice A n ca] 43)).alloc (.cells #[.bool bY, .slice B m cb] 43)).alloc (.cells #[.bool false, .slice none 0 0] 43)) := (((Below.refl _ _).alloc (Nat.le_refl _) _).alloc (by simp) _).alloc (by simp; omega) _
  have hA2 := hA.below hB2
  have hBB2 := hB.below hB2
  have hg : sgn ((x.natAbs : Int) - y.natAbs) < 0 := by unfold sgn; rw [if_pos (by omega)]; decide
  go_enter Tryd.func29, Tryd.ntmps29
  go_wp2_with (go_at_call 44; refine (against_any _ _ _ _ _ hA2 hBB2).mono ?_; rintro e w1 ⟨rfl, hb1⟩; obtain ⟨hc, hf⟩ := bcell hb1; have hz := hb1.size)
  have hA3 := hA2.below hb1
  have hB3 := hBB2.below hb1
  have k0 : w1.cell? ⟨w.heap.size, 0, none⟩ = some (.bool bx) := by rw [hc _ _ (by simp only [World.size_alloc]; omega)]; simp [go_sem]
  have k1 : w1.cell? ⟨w.heap.size, 1, none⟩ = some (.slice A n ca) := by rw [hc _ _ (by simp only [World.size_alloc]; omega)]; simp [go_sem]
  have k2 : w1.cell? ⟨w.heap.size + 1, 0, none⟩ = some (.bool bY) := by rw [hc _ _ (by simp only [World.size_alloc]; omega)]; simp [go_sem]
  have k3 : w1.cell? ⟨w.heap.size + 1, 1, none⟩ = some (.slice B m cb) := by rw [hc _ _ (by simp only [World.size_alloc]; omega)]; simp [go_sem]
  have hB1 := hB2.trans (hb1.mono (by simp; omega))
  have bxx : Box w1 (w.heap.size + 1 + 1) 43 := by
    have := ((Box.new ((w.alloc (.cells #[.bool bx, .slice A n ca] 43)).alloc (.cells #[.bool bY, .slice B m cb] 43)) #[.bool false, .slice none 0 0] 43).below hb1)
    simpa using this
  have g1 : w1.cell? ⟨w.heap.size + 1 + 1, 0, none⟩ = some (.bool false) := by rw [hc _ _ (by simp only [World.size_alloc]; omega)]; simp [go_sem]
  have g2 : w1.cell? ⟨w.heap.size + 1 + 1, 1, none⟩ = some (.slice none 0 0) := by rw [hc _ _ (by simp only [World.size_alloc]; omega)]; simp [go_sem]
  have f1 : w1.frozen? ⟨w.heap.size + 1 + 1, 0, none⟩ = false := by rw [hf _ _ (by simp only [World.size_alloc]; omega)]; simp [go_sem]
  have f2 : w1.frozen? ⟨w.heap.size + 1 + 1, 1, none⟩ = false := by rw [hf _ _ (by simp only [World.size_alloc]; omega)]; simp [go_sem]
  clear hc hf hz hb1 hA2 hBB2 hA hB hB2
  have T := Lib.hid (taken_nat _ _ (Nat.le_of_lt hlt) _ _ w1.drew hB3.drew hA3.drew ly)
  go_region_with (first | (go_at_call 47; refine T.out.mono ?_; rintro e w2 ⟨A2, c2, zs, rfl, hd2, hdg, hv2, hb2⟩; have k1' := keeps_cell hb2 k2) | (go_at_call 45; refine (trimmed_to bY A2 c2 zs (x + y) _ hdg (HV.out zs hv2) hd2).mono ?_; rintro e w3 ⟨v, rfl, ⟨s3, rfl, hd3⟩, hb3⟩; obtain ⟨A3, c3, rfl, _⟩ := hd3.form; have g1' := keeps_cell hb3 (keeps_cell hb2 g1); have g2' := keeps_cell hb3 (keeps_cell hb2 g2); have f1' := keeps_free hb3 (keeps_cell hb2 g1) (keeps_free hb2 g1 f1); have f2' := keeps_free hb3 (keeps_cell hb2 g2) (keeps_free hb2 g2 f2); have bx3 := (bxx.drew.below hb2).below hb3))
  all_goals
    go_wp2
    refine bodyPost_ret (v := .agg #[.bool (decide (x + y < 0)), .slice A3 (limbs (x + y).natAbs).length c3]) (by simp [results, Tryd.results29, go_sem, g1', g2']) rfl ?_
    exact ⟨_, rfl, ⟨_, rfl, hd3.store2 bx3 _ _⟩, below_store2 ((hB1.drew.trans (hb2.mono hB1.size)).trans (hb3.mono (Nat.le_trans hB1.size hb2.size))) (by omega) _ _⟩


/-- sum(a, b): the sum of the numbers. -/
theorem sum_any (x y : Int) (va vb : Value) (w : World) (ha : Rep w va x) (hb : Rep w vb y) (lx : Small x.natAbs) (ly : Small y.natAbs) :
    Calls Tryd.prog 29 #[va, vb] w (Gives w (x + y)) := by
  obtain ⟨sa, rfl, hA⟩ := ha
  obtain ⟨sb, rfl, hB⟩ := hb
  obtain ⟨A, ca, rfl, _⟩ := hA.form
  obtain ⟨B, cb, rfl, _⟩ := hB.form
  by_cases hs : decide (x < 0) = decide (y < 0)
  · rw [← hs]
    refine sum_alike x y A B _ ca _ cb _ w hA hB lx ly fun zs hz => ?_
    rw [hz]
    by_cases hx : x < 0
    · have hy : y < 0 := by simpa [hx] using hs.symm
      simp [hx]; omega
    · have hy : ¬ y < 0 := by simpa [hx] using hs.symm
      simp [hx]; omega
  · have hs' : (decide (x < 0) == decide (y < 0)) = false := by simpa using hs
    by_cases hle : y.natAbs ≤ x.natAbs
    · refine sum_over x y A B _ ca _ cb _ _ w hA hB lx ly hs' hle fun zs hz => ?_
      rw [hz]
      by_cases hx : x < 0
      · have hy : ¬ y < 0 := fun h => hs (by simp [hx, h])
        simp [hx]; omega
      · have hy : y < 0 := by rcases Int.lt_or_le y 0 with h | h
                              · exact h
                              · exact absurd (by simp [hx]; omega) hs
        simp [hx]; omega
    · refine sum_under x y A B _ ca _ cb _ _ w hA hB lx ly hs' (by omega) fun zs hz => ?_
      rw [hz]
      by_cases hy : y < 0
      · have hx : ¬ x < 0 := fun h => hs (by simp [hy, h])
        simp [hy]; omega
      · have hx : x < 0 := by rcases Int.lt_or_le x 0 with h | h
                              · exact h
                              · exact absurd (by simp [hy]; omega) hs
        simp [hy]; omega

end Go.Proofs.YtjfmefdhfboliaaDoor
