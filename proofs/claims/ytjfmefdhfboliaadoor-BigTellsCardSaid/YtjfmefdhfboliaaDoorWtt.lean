/- Walk of Compare, and the laws over it. -/
import Derived.Test.YtjfmefdhfboliaaDoorWq
namespace Go.Proofs.YtjfmefdhfboliaaDoor
open Go.RowKit Go.Shelf Num
open Go.Lib (decDigits nDigits decDigits_length itoa)

theorem lt_lim_of {n k : Nat} (h : n < twoPow k) (hk : k ≤ 512) : n < lim := Nat.lt_of_lt_of_le h (twoPow_le hk)
theorem size_list (a : ByteArray) : a.size = a.data.toList.length := Array.length_toList.symm

/-- The sign of a number. -/
def sg (d : Int) : Int := if d < 0 then -1 else if d = 0 then 0 else 1

theorem parse_num {x : Int} (hx : x.natAbs < lim) (W : World) :
    Calls Tryd.prog 36 #[.string (num x)] W fun e w' => ∃ vn, e = .returned (.tuple #[vn, .bool true]) ∧ Rep w' vn x ∧ Below W.heap.size W w' := by
  have hn := num?_itoa x (by have := nDigits_right hx; omega)
  exact parse_at (num x) x true (by rw [num_list, hn]; rfl) (by rw [num_list, hn]; rfl) W

theorem Compare_no (a b : ByteArray) (ia ib : Bool) (hia : (right? a.data.toList).isSome = ia) (hib : (right? b.data.toList).isSome = ib) (h : (ia && ib) = false) (w : World) :
    Calls Tryd.prog 20 #[.string a, .string b] w (Out w.heap.size w (.int .i64 0)) := by
  have RA := Lib.hid (right_at a hia w)
  have RB := Lib.hid (right_at b hib w)
  clear hia hib
  cases ia
  · go_enter Tryd.func20, Tryd.ntmps20
    go_wp2_with fail
    refine (RA.out _ (Below.refl _ _)).mono ?_
    rintro e w1 ⟨rfl, hb1⟩
    go_wp2_with fail
    refine bodyPost_ret (v := .int .i64 0) (by simp [results, Tryd.results20, go_sem]) rfl ⟨rfl, hb1⟩
  · cases ib
    · go_enter Tryd.func20, Tryd.ntmps20
      go_wp2_with fail
      refine (RA.out _ (Below.refl _ _)).mono ?_
      rintro e w1 ⟨rfl, hb1⟩
      go_wp2_with fail
      refine (RB.out _ hb1).mono ?_
      rintro e w2 ⟨rfl, hb2⟩
      go_wp2_with fail
      refine bodyPost_ret (v := .int .i64 0) (by simp [results, Tryd.results20, go_sem]) rfl ⟨rfl, hb2⟩
    · simp at h

theorem Fresh.drew' {P : Nat} {W : World} (h : Fresh P W) : Fresh P W.drew := h
theorem two_cells (W : World) (u v : Value) : (W.alloc (.cells #[u, v] 43)).cell? ⟨W.heap.size, 0, none⟩ = some u ∧ (W.alloc (.cells #[u, v] 43)).cell? ⟨W.heap.size, 1, none⟩ = some v := by
  constructor <;> simp [go_sem]

set_option maxRecDepth 100000 in
set_option maxHeartbeats 8000000 in
theorem Compare_num (x y : Int) (lx : x.natAbs < lim) (ly : y.natAbs < lim) (w : World) :
    Calls Tryd.prog 20 #[.string (num x), .string (num y)] w (Out w.heap.size w (.int .i64 (sg (x - y)))) := by
  have RA := Lib.hid (right_at (num x) (i := true) (by rw [num_list, right?_itoa lx]; rfl) w)
  have RB := Lib.hid (right_at (num y) (i := true) (by rw [num_list, right?_itoa ly]; rfl) w)
  have PA := Lib.hid (parse_num lx)
  have PB := Lib.hid (parse_num ly)
  have sx : Small x.natAbs := small_lim (Nat.le_of_lt lx)
  have sy : Small (-y).natAbs := small_lim (by rw [Int.natAbs_neg]; exact Nat.le_of_lt ly)
  have hT := fun (v : Value) (W : World) (hr : Rep W v y) => turned_any y v W hr
  obtain ⟨bz, hbz⟩ : ∃ b, decide (x - y < 0) = b := ⟨_, rfl⟩
  obtain ⟨n, hn⟩ : ∃ n, (limbs (x - y).natAbs).length = n := ⟨_, rfl⟩
  have hS : ∀ (u v : Value) (W : World) (hu : Rep W u x) (hv : Rep W v (-y)), Calls Tryd.prog 29 #[u, v] W fun e w' => ∃ E ce, e = .returned (.agg #[.bool bz, .slice E n ce]) ∧ Below W.heap.size W w' := fun u v W hu hv => by
    refine (sum_any x (-y) u v W hu hv sx sy).mono ?_
    rintro e w' ⟨v, rfl, hr, hb⟩
    obtain ⟨E, ce, rfl, _⟩ := hr.form
    exact ⟨E, ce, by rw [← hbz, ← hn]; rfl, hb⟩
  have hres : sg (x - y) = if bz = true then -1 else if n = 0 then 0 else 1 := by
    rw [← hbz, ← hn]
    unfold sg
    by_cases h : x - y < 0
    · simp [h]
    · by_cases h2 : x - y = 0
      · rw [h2, Int.natAbs_zero, limbs_zero]; rfl
      · have : limbs (x - y).natAbs ≠ [] := fun e => h2 (by have := limbs_eq_nil.1 e; omega)
        simp [h, h2, this]
  obtain ⟨r, hr⟩ : ∃ r, sg (x - y) = r := ⟨_, rfl⟩
  rw [hr] at hres ⊢
  obtain ⟨ny, hny⟩ : ∃ ny, -y = ny := ⟨_, rfl⟩
  rw [hny] at hT hS
  have HR := Lib.hid hres
  have HT := Lib.hid hT
  have HS := Lib.hid hS
  clear hT hS sx sy hny hbz hn hres hr lx ly
  go_enter Tryd.func20, Tryd.ntmps20
  go_wp2_with fail
  refine (RA.out _ (Below.refl _ _)).mono ?_
  rintro e w1 ⟨rfl, hb1⟩
  go_wp2_with fail
  refine (RB.out _ hb1).mono ?_
  rintro e w2 ⟨rfl, hb2⟩
  go_wp2_with fail
  refine (PA.out w2).mono ?_
  rintro e w3 ⟨va, rfl, ra, hp3⟩
  obtain ⟨A, ca, rfl, _⟩ := ra.form
  have hb3 := hb2.trans (hp3.mono hb2.size)
  obtain ⟨k0, k1⟩ := two_cells w3 (.bool (decide (x < 0))) (.slice A (limbs x.natAbs).length ca)
  have hq3 : Below w.heap.size w (w3.alloc (.cells #[.bool (decide (x < 0)), .slice A (limbs x.natAbs).length ca] 43)) := hb3.alloc hb3.size _
  go_wp2_with fail
  refine (PB.out _).mono ?_
  rintro e w4 ⟨vb, rfl, rb, hp4⟩
  obtain ⟨B, cb, rfl, _⟩ := rb.form
  have hb4 := hq3.trans (hp4.mono hq3.size)
  have k0' := keeps_cell hp4 k0
  have k1' := keeps_cell hp4 k1
  obtain ⟨j0, j1⟩ := two_cells w4 (.bool (decide (y < 0))) (.slice B (limbs y.natAbs).length cb)
  have hq4 : Below w4.heap.size w4 (w4.alloc (.cells #[.bool (decide (y < 0)), .slice B (limbs y.natAbs).length cb] 43)) := (Below.refl _ _).alloc (Nat.le_refl _) _
  have hb5 := hb4.trans (hq4.mono hb4.size)
  have i0 := keeps_cell hq4 k0'
  have i1 := keeps_cell hq4 k1'
  have rx := ((ra.below ((Below.refl _ _).alloc (Nat.le_refl _) _)).below hp4).below hq4
  have ry := rb.below hq4
  clear k0 k1 k0' k1' hq3 hp3 hp4 hb3 hb4
  go_wp2_with fail
  --hq4t
  have i2 := keeps_cell ((Below.refl _ _).alloc (Nat.le_refl _) (Obj.cells #[Value.bool false, Value.slice none 0 0] 43)) i0
  have i3 := keeps_cell ((Below.refl _ _).alloc (Nat.le_refl _) (Obj.cells #[Value.bool false, Value.slice none 0 0] 43)) i1
  go_region_with (first
    | (go_at_call 34; refine (HT.out _ _ (ry.below (by first | exact (Below.refl _ _).drew | exact ((Below.refl _ _).alloc (Nat.le_refl _) _).drew))).mono ?_; rintro e w5 ⟨v, rfl, hr, hp5⟩; obtain ⟨C, cc, rfl, _⟩ := hr.form; have h5 := (Below.trans (by first | exact (Below.refl _ _).drew | exact ((Below.refl _ _).alloc (Nat.le_refl _) _).drew) (hp5.mono (by simp)) : Below (w4.alloc (.cells #[.bool (decide (y < 0)), .slice B (limbs y.natAbs).length cb] 43)).heap.size (w4.alloc (.cells #[.bool (decide (y < 0)), .slice B (limbs y.natAbs).length cb] 43)) w5); have m0 := keeps_cell h5 i0; have m1 := keeps_cell h5 i1; have m2 := keeps_cell ((Below.refl _ _).alloc (Nat.le_refl _) (Obj.cells #[Value.bool false, Value.slice none 0 0] 43)) m0; have m3 := keeps_cell ((Below.refl _ _).alloc (Nat.le_refl _) (Obj.cells #[Value.bool false, Value.slice none 0 0] 43)) m1; first | (have fr := (Fresh.drew' (Fresh.at (P := w4.heap.size + 1) (w4.alloc (.cells #[.bool (decide (y < 0)), .slice B (limbs y.natAbs).length cb] 43)) (by simp))).below hp5) | skip)
    | (go_at_call 29; refine (HS.out _ _ _ (rx.below (by first | exact h5 | exact h5.alloc h5.size _)) (hr.below (by first | exact Below.refl _ _ | exact (Below.refl _ _).alloc (Nat.le_refl _) _))).mono ?_; rintro e w6 ⟨E, ce, rfl, hp6⟩; have h6 := (Below.trans (by first | exact h5 | exact h5.alloc h5.size _) (hp6.mono (by first | exact h5.size | exact (h5.alloc h5.size _).size)) : Below (w4.alloc (.cells #[.bool (decide (y < 0)), .slice B (limbs y.natAbs).length cb] 43)).heap.size (w4.alloc (.cells #[.bool (decide (y < 0)), .slice B (limbs y.natAbs).length cb] 43)) w6); first | (have fs := fr.below hp6; obtain ⟨p0, p1, p2, p3, pb⟩ := id fs) | (have fs := (Fresh.at w5 rfl).below hp6; obtain ⟨p0, p1, p2, p3, pb⟩ := id fs) | skip))
  all_goals
    have hbw := hb5.trans (h6.mono hb5.size)
    clear rx ry hr i0 i1 i2 i3
    have hres := HR.out
    have q4 : w.heap.size ≤ w4.heap.size + 1 := by simpa using hb5.size
    have q5 : w.heap.size ≤ w5.heap.size := Nat.le_trans hb5.size h5.size
    clear hb1 hb2 hp5 hp6 h5 h6 hb5
    cases bz
    · by_cases hn : n = 0
      · subst hn
        obtain rfl : r = 0 := hres
        go_wp2_with fail
        first
          | exact bodyPost_ret (v := .int .i64 (0)) (by simp [results, Tryd.results20, go_sem]) rfl ⟨rfl, hbw⟩
          | exact bodyPost_ret (v := .int .i64 (0)) (by simp [results, Tryd.results20, go_sem]) rfl ⟨rfl, hbw.alloc hbw.size _⟩
          | exact bodyPost_ret (v := .int .i64 (0)) (by simp [results, Tryd.results20, go_sem]) rfl ⟨rfl, (hbw.setCell (by simp only; omega) _).setCell (by simp only; omega) _⟩
      · obtain rfl : r = 1 := by simpa [hn] using hres
        have hn' : (n : Int) > 0 := by omega
        clear hn hres HR
        go_wp2_with fail
        first
          | exact bodyPost_ret (v := .int .i64 (1)) (by simp [results, Tryd.results20, go_sem]) rfl ⟨rfl, hbw⟩
          | exact bodyPost_ret (v := .int .i64 (1)) (by simp [results, Tryd.results20, go_sem]) rfl ⟨rfl, hbw.alloc hbw.size _⟩
          | exact bodyPost_ret (v := .int .i64 (1)) (by simp [results, Tryd.results20, go_sem]) rfl ⟨rfl, (hbw.setCell (by simp only; omega) _).setCell (by simp only; omega) _⟩
    · obtain rfl : r = -1 := hres
      go_wp2_with fail
      first
        | exact bodyPost_ret (v := .int .i64 (-1)) (by simp [results, Tryd.results20, go_sem]) rfl ⟨rfl, hbw⟩
        | exact bodyPost_ret (v := .int .i64 (-1)) (by simp [results, Tryd.results20, go_sem]) rfl ⟨rfl, hbw.alloc hbw.size _⟩
        | exact bodyPost_ret (v := .int .i64 (-1)) (by simp [results, Tryd.results20, go_sem]) rfl ⟨rfl, (hbw.setCell (by simp only; omega) _).setCell (by simp only; omega) _⟩

end Go.Proofs.YtjfmefdhfboliaaDoor
