/- Walks through edge and wide of package big: the limit, and who is beyond it. -/
import Derived.Test.YtjfmefdhfboliaaDoorWd
namespace Go.Proofs.YtjfmefdhfboliaaDoor
open Go.RowKit Num

attribute [local go_sem ↓] Go.wp_at_zero Go.wp_at_succ

theorem small_of_lt {n : Nat} (h : n < 1000000000 ^ 1000) : Small n := by
  have := limbs_len h
  unfold Small; omega
theorem lim_lt : lim < 1000000000 ^ 1000 := by decide +kernel
theorem lim_sq_lt : lim * lim < 1000000000 ^ 1000 := by decide +kernel
theorem small_lim {n : Nat} (h : n ≤ lim) : Small n := small_of_lt (Nat.lt_of_le_of_lt h lim_lt)


/-- An amount, as a number that is not below 0. -/
theorem rep_nat {w : World} {s : Value} {n : Nat} (h : Digs w s (limbs n)) : Rep w (.agg #[.bool false, s]) (n : Int) :=
  ⟨s, by rw [decide_eq_false (by omega)], by rw [Int.natAbs_natCast]; exact h⟩

/-- A number handed over that is not below 0. -/
def GivesNat (w : World) (n : Nat) (e : Ending) (w' : World) : Prop := ∃ A c, e = .returned (.agg #[.bool false, .slice A (limbs n).length c]) ∧ Digs w' (.slice A (limbs n).length c) (limbs n) ∧ Below w.heap.size w w'

theorem Gives.nat {w w' : World} {n : Nat} {e : Ending} (h : Gives w (n : Int) e w') : GivesNat w n e w' := by
  obtain ⟨v, rfl, ⟨s, rfl, hd⟩, hb⟩ := h
  rw [Int.natAbs_natCast] at hd
  obtain ⟨A, c, rfl, _⟩ := hd.form
  exact ⟨A, c, by rw [decide_eq_false (by omega)], hd, hb⟩

theorem sum_nat (x y : Nat) (va vb : Value) (w : World) (ha : Digs w va (limbs x)) (hb : Digs w vb (limbs y)) (lx : Small x) (ly : Small y) :
    Calls Tryd.prog 29 #[.agg #[.bool false, va], .agg #[.bool false, vb]] w (GivesNat w (x + y)) :=
  (sum_any x y _ _ w (rep_nat ha) (rep_nat hb) (by rw [Int.natAbs_natCast]; exact lx) (by rw [Int.natAbs_natCast]; exact ly)).mono fun e w' h => Gives.nat (by rw [Int.natCast_add]; exact h)

/-- What stands in a box of two cells behind a store of both. -/
theorem store2_facts {W : World} {b : Nat} {x0 x1 : Value} (h0 : W.cell? ⟨b, 0, none⟩ = some x0) (h1 : W.cell? ⟨b, 1, none⟩ = some x1) (u0 u1 : Value) :
    ((W.setCell ⟨b, 0, none⟩ u0).setCell ⟨b, 1, none⟩ u1).cell? ⟨b, 0, none⟩ = some u0 ∧ ((W.setCell ⟨b, 0, none⟩ u0).setCell ⟨b, 1, none⟩ u1).cell? ⟨b, 1, none⟩ = some u1 ∧
      ∀ p, ((W.setCell ⟨b, 0, none⟩ u0).setCell ⟨b, 1, none⟩ u1).frozen? p = W.frozen? p := by
  refine ⟨?_, ?_, fun p => by rw [World.frozen?_setCell, World.frozen?_setCell]⟩
  · rw [World.cell?_setCell_other _ _ _ _ (by simp)]
    exact World.cell?_setCell_same' _ _ _ (by rw [h0]; rfl)
  · refine World.cell?_setCell_same' _ _ _ ?_
    rw [World.cell?_setCell_other _ _ _ _ (by simp), h1]; rfl

theorem digs_one (w : World) (d : Int) : Digs (w.alloc (.cells #[.int .i64 d] 3)) (.slice (some ⟨w.heap.size, 0, none⟩) 1 1) [d] :=
  ⟨by simp, .inr ⟨w.heap.size, 1, #[.int .i64 d], rfl, Nat.zero_le _, heap_alloc_new w _, by simp, by simp [maxLen], by simp, by simp⟩⟩

theorem limbs_one : limbs (twoPow 0) = [1] := by
  rw [show twoPow 0 = 1 from rfl, limbs_pos (by decide), show 1 / 1000000000 = 0 from rfl, limbs_zero]; rfl

set_option maxRecDepth 100000 in
set_option maxHeartbeats 1000000 in
theorem edge_any (n : Nat) (hn : n ≤ 512) (w : World) : Calls Tryd.prog 58 #[.int .i64 n] w (GivesNat w (twoPow n)) := by
  have hsm : ∀ k, k ≤ 512 → Small (twoPow k) := fun k hk => small_lim (twoPow_le hk)
  have HS := Lib.hid hsm
  clear hsm
  go_enter Tryd.func58, Tryd.ntmps58
  go_wp2
  obtain ⟨W0, hW0⟩ : ∃ W0, ((w.alloc (Obj.cells #[Value.bool false, Value.slice none 0 0] 43)).alloc (Obj.cells #[Value.int IntKind.i64 1] 3)) = W0 := ⟨_, rfl⟩
  have hz0 : W0.heap.size = w.heap.size + 1 + 1 := by rw [← hW0]; simp
  have hb0 : Below w.heap.size w W0 := by rw [← hW0]; exact ((Below.refl _ _).alloc (Nat.le_refl _) _).alloc (by simp) _
  have r0 : W0.cell? ⟨w.heap.size, 0, none⟩ = some (.bool false) := by rw [← hW0]; simp [go_sem]
  have r1 : W0.cell? ⟨w.heap.size, 1, none⟩ = some (.slice none 0 0) := by rw [← hW0]; simp [go_sem]
  have q0 : W0.frozen? ⟨w.heap.size, 0, none⟩ = false := by rw [← hW0]; simp [go_sem]
  have q1 : W0.frozen? ⟨w.heap.size, 1, none⟩ = false := by rw [← hW0]; simp [go_sem]
  have rb : Box W0 w.heap.size 43 := by rw [← hW0]; exact (Box.new w _ 43).alloc _
  have hd1 : Digs W0 (.slice (some ⟨w.heap.size + 1, 0, none⟩) 1 1) (limbs (twoPow 0)) := by
    rw [← hW0, limbs_one]
    have := digs_one (w.alloc (Obj.cells #[Value.bool false, Value.slice none 0 0] 43)) 1
    rwa [World.size_alloc] at this
  rw [hW0]
  clear hW0
  have hl1 : (limbs (twoPow 0)).length = 1 := by rw [limbs_one]; rfl
  have hbx := Box.new W0 #[Value.bool false, Value.slice (some ⟨w.heap.size + 1, 0, none⟩) 1 1] 43
  have c0 : (W0.alloc (Obj.cells #[Value.bool false, Value.slice (some ⟨w.heap.size + 1, 0, none⟩) 1 1] 43)).cell? ⟨W0.heap.size, 0, none⟩ = some (.bool false) := by simp [go_sem]
  have c1 : (W0.alloc (Obj.cells #[Value.bool false, Value.slice (some ⟨w.heap.size + 1, 0, none⟩) 1 1] 43)).cell? ⟨W0.heap.size, 1, none⟩ = some (Value.slice (some ⟨w.heap.size + 1, 0, none⟩) 1 1) := by simp [go_sem]
  have d0 : (W0.alloc (Obj.cells #[Value.bool false, Value.slice (some ⟨w.heap.size + 1, 0, none⟩) 1 1] 43)).frozen? ⟨W0.heap.size, 0, none⟩ = false := by simp [go_sem]
  have d1 : (W0.alloc (Obj.cells #[Value.bool false, Value.slice (some ⟨w.heap.size + 1, 0, none⟩) 1 1] 43)).frozen? ⟨W0.heap.size, 1, none⟩ = false := by simp [go_sem]
  rw [hz0] at c0 c1 d0 d1 hbx
  have HZ := Lib.hid hz0
  have hz0' : W0.heap.size ≤ w.heap.size + 1 + 1 := by omega
  have hz0'' : w.heap.size + 1 + 1 ≤ W0.heap.size := by omega
  clear hz0
  go_loopg [7] n (fun gk i wr => ∃ (k : Nat) (A : Option Addr) (c : Nat), k ≤ n ∧ gk = n - k ∧ i = .int .i64 k ∧ wr.cell? ⟨w.heap.size + 1 + 1, 0, none⟩ = some (.bool false) ∧ wr.cell? ⟨w.heap.size + 1 + 1, 1, none⟩ = some (.slice A (limbs (twoPow k)).length c) ∧
      wr.frozen? ⟨w.heap.size + 1 + 1, 0, none⟩ = false ∧ wr.frozen? ⟨w.heap.size + 1 + 1, 1, none⟩ = false ∧ Box wr (w.heap.size + 1 + 1) 43 ∧ Digs wr (.slice A (limbs (twoPow k)).length c) (limbs (twoPow k)) ∧ Below W0.heap.size W0 wr)
  case atStart => exact ⟨0, _, _, Nat.zero_le _, rfl, rfl, c0, by rw [hl1]; exact c1, d0, d1, hbx, by rw [hl1]; exact hd1.alloc _, (Below.refl _ _).alloc (Nat.le_refl _) _⟩
  case round =>
    obtain ⟨k, A, c, hk, rfl, rfl, c0, c1, d0, d1, hbx, hd, hnx⟩ := hrel
    by_cases hlt : k < n
    · have hs := sum_nat (twoPow k) (twoPow k) _ _ wr hd hd (HS.out k (by omega)) (HS.out k (by omega))
      rw [← twoPow_succ] at hs
      have HSS := Lib.hid hs
      clear hs hd1 hl1 r0 r1 q0 q1 hd
      have hz := hnx.size
      go_wp2_with (go_at_call 29; refine HSS.out.mono ?_; rintro e w3 ⟨A3, c3, rfl, hd3, hb3⟩; have g1' := keeps_cell hb3 c0; have g2' := keeps_cell hb3 c1; have f1' := keeps_free hb3 c0 d0; have f2' := keeps_free hb3 c1 d1; have bx3 := hbx.below hb3)
      go_roundg (n - (k + 1))
      case measure => omega
      case rel =>
        obtain ⟨s0, s1, s2⟩ := store2_facts g1' g2' (.bool false) (.slice A3 (limbs (twoPow (k + 1))).length c3)
        exact ⟨k + 1, A3, c3, by omega, rfl, by go_num, s0, s1, (s2 _).trans f1', (s2 _).trans f2', (bx3.setCell _ _).setCell _ _, hd3.store2 bx3 _ _, below_store2 (hnx.trans (hb3.mono hz)) (by omega) _ _⟩
    · obtain rfl : k = n := by omega
      have hzz := HZ.out
      have y0 := (hnx.cell (p := ⟨w.heap.size, 0, none⟩) (by show w.heap.size < _; omega)).trans r0
      have y1 := (hnx.cell (p := ⟨w.heap.size, 1, none⟩) (by show w.heap.size < _; omega)).trans r1
      have y2 := (hnx.frozen (p := ⟨w.heap.size, 0, none⟩) (by show w.heap.size < _; omega)).trans q0
      have y3 := (hnx.frozen (p := ⟨w.heap.size, 1, none⟩) (by show w.heap.size < _; omega)).trans q1
      have hb1 := hb0.trans (hnx.mono hb0.size)
      clear hzz r0 r1 q0 q1
      go_wp2
      refine bodyPost_ret (v := .agg #[.bool false, .slice A (limbs (twoPow k)).length c]) (by simp [results, Tryd.results58, go_sem, y0, y1]) rfl ?_
      exact ⟨_, _, rfl, hd.store2 (rb.keep hnx (by omega)) _ _, below_store2 hb1 (Nat.le_refl _) _ _⟩

theorem Tryd.field1 (x : Bool) (A : Option Addr) (n c : Nat) (w : World) : (Instr.field 43 (.agg #[.bool x, .slice A n c]) 1).run Tryd.prog w = .ok (.slice A n c) w := by kernel_rfl

set_option maxRecDepth 100000 in
set_option maxHeartbeats 1000000 in
theorem wide_raw (x : Nat) (b : Bool) (A : Option Addr) (c n : Nat) (w : World) (h : Digs w (.slice A n c) (limbs x)) :
    Calls Tryd.prog 37 #[.agg #[.bool b, .slice A n c]] w fun e w' => e = .returned (.bool (decide (lim ≤ x))) ∧ Below w.heap.size w w' := by
  have hB2 : Below w.heap.size w (w.alloc (.cells #[.bool b, .slice A n c] 43)) := (Below.refl _ _).alloc (Nat.le_refl _) _
  have h2 := h.below hB2
  have hlim : decide ((0 : Int) ≤ sgn ((x : Int) - (lim : Int))) = decide (lim ≤ x) := by
    rw [decide_eq_decide]
    unfold sgn
    split
    · omega
    · split <;> omega
  have HL := Lib.hid hlim
  have hed : ∀ W, Calls Tryd.prog 58 #[.int .i64 512] W (GivesNat W lim) := fun W => edge_any 512 (Nat.le_refl _) W
  have HE := Lib.hid hed
  clear hed hlim
  have k1 : (w.alloc (.cells #[.bool b, .slice A n c] 43)).cell? ⟨w.heap.size, 1, none⟩ = some (.slice A n c) := by simp [go_sem]
  have HK := Lib.hid k1
  clear k1
  have hfld := Tryd.field1
  go_enter Tryd.func37, Tryd.ntmps37
  go_wp2
  go_region_with (first | (go_at_call 58; refine (HE.out _).mono ?_; rintro e w2 ⟨A2, c2, rfl, hd2, hb2⟩; have hk := keeps_cell hb2 HK.out; have h3 := h2.drew.below hb2) | (go_at_call 44; refine (against_any _ _ _ _ _ h3 hd2).mono ?_; rintro e w3 ⟨rfl, hb3⟩))
  all_goals
    rw [HL.out]
    go_wp2
    go_ret
    exact ⟨rfl, (hB2.drew.trans (hb2.mono hB2.size)).trans (hb3.mono (Nat.le_trans hB2.size hb2.size))⟩

/-- wide(n): is the amount at the limit or beyond? -/
theorem wide_any (x : Int) (v : Value) (w : World) (h : Rep w v x) :
    Calls Tryd.prog 37 #[v] w fun e w' => e = .returned (.bool (decide (lim ≤ x.natAbs))) ∧ Below w.heap.size w w' := by
  obtain ⟨s, rfl, hs⟩ := h
  obtain ⟨A, c, rfl, _⟩ := hs.form
  exact wide_raw x.natAbs _ A c _ w hs

end Go.Proofs.YtjfmefdhfboliaaDoor
