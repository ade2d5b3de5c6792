/- Walks through done of package big, at each function that it is handed. -/
import Derived.Test.YtjfmefdhfboliaaDoorWl
namespace Go.Proofs.YtjfmefdhfboliaaDoor
open Go.RowKit Go.Shelf Num
open Go.Lib (decDigits nDigits decDigits_length itoa)

attribute [local go_sem ↓] Go.wp_at_zero Go.wp_at_succ

/-- What done tells: a text, and an error's number. -/
def doneP (op : Int → Int → Option Int) (a b : List UInt8) : List UInt8 × Int :=
  match right? a, right? b with
  | some x, some y =>
    match op x y with
    | some z => if z.natAbs < lim then (itoa z, 0) else ([], 10)
    | none => ([], 1)
  | _, _ => ([], 1)

def Told (w : World) (p : List UInt8 × Int) (e : Ending) (w' : World) : Prop := e = .returned (.tuple #[.string ⟨p.1.toArray⟩, .int .i64 p.2]) ∧ Below w.heap.size w w'

theorem doneP_no {op : Int → Int → Option Int} {a b : List UInt8} (h : right? a = none ∨ right? b = none) : doneP op a b = ([], 1) := by
  unfold doneP
  rcases h with h | h
  · rw [h]
  · rw [h]; cases right? a <;> rfl
theorem doneP_ok {op : Int → Int → Option Int} {a b : List UInt8} {x y : Int} (ha : right? a = some x) (hb : right? b = some y) :
    doneP op a b = match op x y with | some z => if z.natAbs < lim then (itoa z, 0) else ([], 10) | none => ([], 1) := by
  unfold doneP; rw [ha, hb]

theorem right_none {a : List UInt8} : right? a = none ↔ num? a = none ∨ ∃ v, num? a = some v ∧ lim ≤ v.natAbs := by
  unfold right?
  cases h : num? a with
  | none => simp
  | some v => simp [Option.filter]
theorem right_some {a : List UInt8} {v : Int} : right? a = some v ↔ num? a = some v ∧ v.natAbs < lim := by
  unfold right?
  cases h : num? a with
  | none => simp
  | some u => 
    simp [Option.filter]
    constructor
    · rintro ⟨h1, rfl⟩; exact ⟨rfl, h1⟩
    · rintro ⟨rfl, h1⟩; exact ⟨h1, rfl⟩


theorem parse_at (s : ByteArray) (x : Int) (i : Bool) (hx : (num? s.data.toList).getD 0 = x) (hi : (num? s.data.toList).isSome = i) (w : World) :
    Calls Tryd.prog 36 #[.string s] w fun e w' => ∃ vn, e = .returned (.tuple #[vn, .bool i]) ∧ Rep w' vn x ∧ Below w.heap.size w w' := by
  subst hx hi; exact parse_any s w


set_option maxRecDepth 100000 in
set_option maxHeartbeats 2000000 in
theorem done_28 (a b : ByteArray) (w : World) (ht : Tab w)  :
    Calls Tryd.prog 27 #[.string a, .string b, .func (.func 28) #[] #[]] w (Told w (doneP (fun x y => some (x + y)) a.data.toList b.data.toList)) := by
  obtain ⟨op, hop⟩ : ∃ op : Int → Int → Option Int, (fun x y => some (x + y)) = op := ⟨_, rfl⟩
  have hdo : ∀ (x y : Int) (va vb : Value) (W : World), Below w.heap.size w W → Rep W va x → Rep W vb y → Small x.natAbs → Small y.natAbs → Calls Tryd.prog 28 #[va, vb] W (DoGives W (op x y)) := by
    intro x y va vb W hW ha hb lx ly
    rw [← hop]
    exact do_sum x y va vb W ha hb lx ly
  rw [hop]
  have HDO := Lib.hid hdo
  clear hdo hop
  obtain ⟨x, hx⟩ : ∃ x, (num? a.data.toList).getD 0 = x := ⟨_, rfl⟩
  obtain ⟨y, hy⟩ : ∃ y, (num? b.data.toList).getD 0 = y := ⟨_, rfl⟩
  obtain ⟨ia, hia⟩ : ∃ i, (num? a.data.toList).isSome = i := ⟨_, rfl⟩
  obtain ⟨ib, hib⟩ : ∃ i, (num? b.data.toList).isSome = i := ⟨_, rfl⟩
  have hPa := fun W => parse_at a x ia hx hia W
  have hPb := fun W => parse_at b y ib hy hib W
  have H := Lib.hid (And.intro hx (And.intro hy (And.intro hia hib)))
  have HPa := Lib.hid hPa
  have HPb := Lib.hid hPb
  have HT := Lib.hid ht
  clear hPa hPb hx hy hia hib ht
  obtain ⟨p, hp⟩ : ∃ p, doneP op a.data.toList b.data.toList = p := ⟨_, rfl⟩
  rw [hp]
  have HP := Lib.hid hp
  clear hp
  go_enter Tryd.func27, Tryd.ntmps27
  go_wp2_with fail
  refine (HPa.out w).mono ?_
  rintro e w1 ⟨va, rfl, hra, hb1⟩
  obtain ⟨A, ca, rfl, hA⟩ := hra.form
  go_wp2_with fail
  obtain ⟨W1, hW1⟩ : ∃ W1, w1.alloc (.cells #[.bool (decide (x < 0)), .slice A (limbs x.natAbs).length ca] 43) = W1 := ⟨_, rfl⟩
  have k0 : W1.cell? ⟨w1.heap.size, 0, none⟩ = some (.bool (decide (x < 0))) := by rw [← hW1]; simp [go_sem]
  have k1 : W1.cell? ⟨w1.heap.size, 1, none⟩ = some (.slice A (limbs x.natAbs).length ca) := by rw [← hW1]; simp [go_sem]
  have hB1 : Below w1.heap.size w1 W1 := by rw [← hW1]; exact (Below.refl _ _).alloc (Nat.le_refl _) _
  have hbw1 : Below w.heap.size w W1 := hb1.trans (hB1.mono hb1.size)
  have hra1 := hra.below hB1
  rw [hW1]
  clear hW1 hra hA hB1
  refine (HPb.out W1).mono ?_
  rintro e w2 ⟨vb, rfl, hrb, hb2⟩
  obtain ⟨B, cb, rfl, hB⟩ := hrb.form
  have j0 := keeps_cell hb2 k0
  have j1 := keeps_cell hb2 k1
  have hra2 := hra1.below hb2
  have hbw2 := hbw1.trans (hb2.mono hbw1.size)
  have zl := cell_lt j0
  clear k0 k1 hra1 hb2 hbw1
  have nota : ia = false → p = ([], 1) := fun h => by
    rw [← HP.out]
    refine doneP_no (.inl (right_none.2 (.inl ?_)))
    have := H.out.2.2.1; rw [h] at this; simpa using this
  have notb : ib = false → p = ([], 1) := fun h => by
    rw [← HP.out]
    refine doneP_no (.inr (right_none.2 (.inl ?_)))
    have := H.out.2.2.2; rw [h] at this; simpa using this
  have suma : ia = true → num? a.data.toList = some x := fun h => by
    have h1 := H.out.2.2.1; have h2 := H.out.1
    rw [h] at h1
    obtain ⟨v, hv⟩ := Option.isSome_iff_exists.1 h1
    rw [hv] at h2 ⊢; exact congrArg some h2
  have sumb : ib = true → num? b.data.toList = some y := fun h => by
    have h1 := H.out.2.2.2; have h2 := H.out.2.1
    rw [h] at h1
    obtain ⟨v, hv⟩ := Option.isSome_iff_exists.1 h1
    rw [hv] at h2 ⊢; exact congrArg some h2
  have wa : ia = true → lim ≤ x.natAbs → p = ([], 1) := fun h h' => by
    rw [← HP.out]; exact doneP_no (.inl (right_none.2 (.inr ⟨x, suma h, h'⟩)))
  have wb : ib = true → lim ≤ y.natAbs → p = ([], 1) := fun h h' => by
    rw [← HP.out]; exact doneP_no (.inr (right_none.2 (.inr ⟨y, sumb h, h'⟩)))
  have ok : ia = true → ib = true → x.natAbs < lim → y.natAbs < lim → p = match op x y with | some z => if z.natAbs < lim then (itoa z, 0) else ([], 10) | none => ([], 1) := fun h1 h2 h3 h4 => by
    rw [← HP.out]; exact doneP_ok (right_some.2 ⟨suma h1, h3⟩) (right_some.2 ⟨sumb h2, h4⟩)
  have LG := Lib.hid (And.intro nota (And.intro notb (And.intro wa (And.intro wb ok))))
  clear nota notb suma sumb wa wb ok
  obtain ⟨W2, hW2⟩ : ∃ W2, w2.alloc (.cells #[.bool (decide (y < 0)), .slice B (limbs y.natAbs).length cb] 43) = W2 := ⟨_, rfl⟩
  have hB2 : Below w2.heap.size w2 W2 := by rw [← hW2]; exact (Below.refl _ _).alloc (Nat.le_refl _) _
  have m0 := keeps_cell hB2 j0
  have m1 := keeps_cell hB2 j1
  have m2 : W2.cell? ⟨w2.heap.size, 0, none⟩ = some (.bool (decide (y < 0))) := by rw [← hW2]; simp [go_sem]
  have m3 : W2.cell? ⟨w2.heap.size, 1, none⟩ = some (.slice B (limbs y.natAbs).length cb) := by rw [← hW2]; simp [go_sem]
  have hbW2 := hbw2.trans (hB2.mono hbw2.size)
  have hra3 := hra2.below hB2
  have hrb3 := hrb.below hB2
  clear hB2 j0 j1 hra2 hrb hB hbw2 zl
  cases hia : ia
  · have e := LG.out.1 hia
    have E := Lib.hid e
    clear e
    go_wp2_with fail
    refine bodyPost_ret (v := .tuple #[.string ⟨#[]⟩, .int .i64 1]) (by simp [results, Tryd.results27, go_sem]) rfl ⟨by rw [E.out], ?_⟩
    exact hbW2
  cases hib : ib
  · have e := LG.out.2.1 hib
    have E := Lib.hid e
    clear e
    go_wp2_with fail
    refine bodyPost_ret (v := .tuple #[.string ⟨#[]⟩, .int .i64 1]) (by simp [results, Tryd.results27, go_sem]) rfl ⟨by rw [E.out], ?_⟩
    exact hbW2
  obtain ⟨gx, hgx⟩ : ∃ i, decide (lim ≤ x.natAbs) = i := ⟨_, rfl⟩
  obtain ⟨gy, hgy⟩ : ∃ i, decide (lim ≤ y.natAbs) = i := ⟨_, rfl⟩
  have hwx := wide_any x _ W2 hra3
  rw [hgx] at hwx
  have HWX := Lib.hid hwx
  have HGX := Lib.hid hgx
  have HGY := Lib.hid hgy
  clear hwx hgx hgy
  go_wp2_with fail
  clear hW2
  refine HWX.out.mono ?_
  rintro e w3 ⟨rfl, hb3⟩
  have n0 := keeps_cell hb3 m0
  have n1 := keeps_cell hb3 m1
  have n2 := keeps_cell hb3 m2
  have n3 := keeps_cell hb3 m3
  have hbw3 := hbW2.trans (hb3.mono hbW2.size)
  have hra4 := hra3.below hb3
  have hrb4 := hrb3.below hb3
  clear m0 m1 m2 m3 hbW2 hra3 hrb3 hb3
  cases hgx2 : gx
  case true =>
    have e := LG.out.2.2.1 hia (of_decide_eq_true (HGX.out.trans hgx2))
    have E := Lib.hid e
    clear e
    go_wp2_with fail
    refine bodyPost_ret (v := .tuple #[.string ⟨#[]⟩, .int .i64 1]) (by simp [results, Tryd.results27, go_sem]) rfl ⟨by rw [E.out], ?_⟩
    exact hbw3
  have hwy := wide_any y _ w3 hrb4
  rw [HGY.out] at hwy
  have HWY := Lib.hid hwy
  clear hwy
  go_wp2_with fail
  refine HWY.out.mono ?_
  rintro e w4 ⟨rfl, hb4⟩
  have m0 := keeps_cell hb4 n0
  have m1 := keeps_cell hb4 n1
  have m2 := keeps_cell hb4 n2
  have m3 := keeps_cell hb4 n3
  have hbw4 := hbw3.trans (hb4.mono hbw3.size)
  have hra5 := hra4.below hb4
  have hrb5 := hrb4.below hb4
  clear n0 n1 n2 n3 hbw3 hra4 hrb4 hb4
  cases hgy2 : gy
  case true =>
    have e := LG.out.2.2.2.1 hib (of_decide_eq_true (HGY.out.trans hgy2))
    have E := Lib.hid e
    clear e
    go_wp2_with fail
    refine bodyPost_ret (v := .tuple #[.string ⟨#[]⟩, .int .i64 1]) (by simp [results, Tryd.results27, go_sem]) rfl ⟨by rw [E.out], ?_⟩
    exact hbw4
  have lx : x.natAbs < lim := Nat.lt_of_not_le (of_decide_eq_false (HGX.out.trans hgx2))
  have ly : y.natAbs < lim := Nat.lt_of_not_le (of_decide_eq_false (HGY.out.trans hgy2))
  have hpp := LG.out.2.2.2.2 hia hib lx ly
  have hdd := HDO.out x y _ _ w4 hbw4 hra5 hrb5 (small_lim (Nat.le_of_lt lx)) (small_lim (Nat.le_of_lt ly))
  obtain ⟨zo, hzo⟩ : ∃ zo, op x y = zo := ⟨_, rfl⟩
  rw [hzo] at hpp hdd
  have HPP := Lib.hid hpp
  have HDD := Lib.hid hdd
  clear hpp hdd hzo lx ly hra5 hrb5
  go_wp2_with fail
  refine HDD.out.mono ?_
  rintro e w5 ⟨bz, C, cz, rfl, hrz, hb5⟩
  have hbw5 := hbw4.trans (hb5.mono hbw4.size)
  obtain ⟨z, hz⟩ : ∃ z, zo.getD 0 = z := ⟨_, rfl⟩
  rw [hz] at hrz ⊢
  clear m0 m1 m2 m3 hbw4 hb5 HDD
  cases zo with
  | none =>
    have E : Hid (p = ([], 1)) := HPP.out
    clear HPP hrz hz
    go_wp2_with fail
    refine bodyPost_ret (v := .tuple #[.string ⟨#[]⟩, .int .i64 1]) (by simp [results, Tryd.results27, go_sem]) rfl ⟨by rw [E.out], ?_⟩
    exact hbw5.alloc hbw5.size _
  | some z' =>
    have hz' : z' = z := hz
    subst hz'
    have E : Hid (p = if z'.natAbs < lim then (itoa z', 0) else ([], 10)) := HPP.out
    obtain ⟨W5, hW5⟩ : ∃ W5, w5.alloc (.cells #[.bool bz, .slice C (limbs z'.natAbs).length cz] 43) = W5 := ⟨_, rfl⟩
    have hbx : Below w5.heap.size w5 W5 := by rw [← hW5]; exact (Below.refl _ _).alloc (Nat.le_refl _) _
    have m0 : W5.cell? ⟨w5.heap.size, 0, none⟩ = some (.bool bz) := by rw [← hW5]; simp [go_sem]
    have m1 : W5.cell? ⟨w5.heap.size, 1, none⟩ = some (.slice C (limbs z'.natAbs).length cz) := by rw [← hW5]; simp [go_sem]
    have hbW5 := hbw5.trans (hbx.mono hbw5.size)
    have hr5 := hrz.below hbx
    obtain ⟨gz, hgz⟩ : ∃ i, decide (lim ≤ z'.natAbs) = i := ⟨_, rfl⟩
    have hwz := wide_any z' _ W5 hr5
    rw [hgz] at hwz
    have HWZ := Lib.hid hwz
    have HGZ := Lib.hid hgz
    clear HPP hrz hz hbx hwz hgz hbw5
    go_wp2_with fail
    clear hW5
    refine HWZ.out.mono ?_
    rintro e w6 ⟨rfl, hb6⟩
    have n0 := keeps_cell hb6 m0
    have n1 := keeps_cell hb6 m1
    have hbw6 := hbW5.trans (hb6.mono hbW5.size)
    have hr6 := hr5.below hb6
    clear m0 m1 hbW5 hr5 hb6
    cases hg : gz
    case true =>
      have hn : ¬ z'.natAbs < lim := Nat.not_lt.2 (of_decide_eq_true (HGZ.out.trans hg))
      have E2 : Hid (p = ([], 10)) := by rw [E.out, if_neg hn]; exact rfl
      clear E hn hr6
      go_wp2_with fail
      refine bodyPost_ret (v := .tuple #[.string ⟨#[]⟩, .int .i64 10]) (by simp [results, Tryd.results27, go_sem]) rfl ⟨by rw [E2.out], ?_⟩
      exact hbw6
    have hn : z'.natAbs < lim := Nat.lt_of_not_le (of_decide_eq_false (HGZ.out.trans hg))
    have E2 : Hid (p = (itoa z', 0)) := by rw [E.out, if_pos hn]; exact rfl
    have hst := string_any z' _ w6 hr6 (small_lim (Nat.le_of_lt hn)) (HT.out.below hbw6)
    have HS := Lib.hid hst
    clear E hn hst hr6
    go_wp2_with fail
    refine HS.out.mono ?_
    rintro e w7 ⟨rfl, hb7⟩
    go_wp2_with fail
    refine bodyPost_ret (v := .tuple #[.string ⟨(itoa z').toArray⟩, .int .i64 0]) (by simp [results, Tryd.results27, go_sem]) rfl ⟨by rw [E2.out], ?_⟩
    exact hbw6.trans (hb7.mono hbw6.size)

set_option maxRecDepth 100000 in
set_option maxHeartbeats 2000000 in
theorem done_30 (a b : ByteArray) (w : World) (ht : Tab w)  :
    Calls Tryd.prog 27 #[.string a, .string b, .func (.func 30) #[] #[]] w (Told w (doneP (fun x y => some (x * y)) a.data.toList b.data.toList)) := by
  obtain ⟨op, hop⟩ : ∃ op : Int → Int → Option Int, (fun x y => some (x * y)) = op := ⟨_, rfl⟩
  have hdo : ∀ (x y : Int) (va vb : Value) (W : World), Below w.heap.size w W → Rep W va x → Rep W vb y → Small x.natAbs → Small y.natAbs → Calls Tryd.prog 30 #[va, vb] W (DoGives W (op x y)) := by
    intro x y va vb W hW ha hb lx ly
    rw [← hop]
    exact do_times x y va vb W ha hb lx ly
  rw [hop]
  have HDO := Lib.hid hdo
  clear hdo hop
  obtain ⟨x, hx⟩ : ∃ x, (num? a.data.toList).getD 0 = x := ⟨_, rfl⟩
  obtain ⟨y, hy⟩ : ∃ y, (num? b.data.toList).getD 0 = y := ⟨_, rfl⟩
  obtain ⟨ia, hia⟩ : ∃ i, (num? a.data.toList).isSome = i := ⟨_, rfl⟩
  obtain ⟨ib, hib⟩ : ∃ i, (num? b.data.toList).isSome = i := ⟨_, rfl⟩
  have hPa := fun W => parse_at a x ia hx hia W
  have hPb := fun W => parse_at b y ib hy hib W
  have H := Lib.hid (And.intro hx (And.intro hy (And.intro hia hib)))
  have HPa := Lib.hid hPa
  have HPb := Lib.hid hPb
  have HT := Lib.hid ht
  clear hPa hPb hx hy hia hib ht
  obtain ⟨p, hp⟩ : ∃ p, doneP op a.data.toList b.data.toList = p := ⟨_, rfl⟩
  rw [hp]
  have HP := Lib.hid hp
  clear hp
  go_enter Tryd.func27, Tryd.ntmps27
  go_wp2_with fail
  refine (HPa.out w).mono ?_
  rintro e w1 ⟨va, rfl, hra, hb1⟩
  obtain ⟨A, ca, rfl, hA⟩ := hra.form
  go_wp2_with fail
  obtain ⟨W1, hW1⟩ : ∃ W1, w1.alloc (.cells #[.bool (decide (x < 0)), .slice A (limbs x.natAbs).length ca] 43) = W1 := ⟨_, rfl⟩
  have k0 : W1.cell? ⟨w1.heap.size, 0, none⟩ = some (.bool (decide (x < 0))) := by rw [← hW1]; simp [go_sem]
  have k1 : W1.cell? ⟨w1.heap.size, 1, none⟩ = some (.slice A (limbs x.natAbs).length ca) := by rw [← hW1]; simp [go_sem]
  have hB1 : Below w1.heap.size w1 W1 := by rw [← hW1]; exact (Below.refl _ _).alloc (Nat.le_refl _) _
  have hbw1 : Below w.heap.size w W1 := hb1.trans (hB1.mono hb1.size)
  have hra1 := hra.below hB1
  rw [hW1]
  clear hW1 hra hA hB1
  refine (HPb.out W1).mono ?_
  rintro e w2 ⟨vb, rfl, hrb, hb2⟩
  obtain ⟨B, cb, rfl, hB⟩ := hrb.form
  have j0 := keeps_cell hb2 k0
  have j1 := keeps_cell hb2 k1
  have hra2 := hra1.below hb2
  have hbw2 := hbw1.trans (hb2.mono hbw1.size)
  have zl := cell_lt j0
  clear k0 k1 hra1 hb2 hbw1
  have nota : ia = false → p = ([], 1) := fun h => by
    rw [← HP.out]
    refine doneP_no (.inl (right_none.2 (.inl ?_)))
    have := H.out.2.2.1; rw [h] at this; simpa using this
  have notb : ib = false → p = ([], 1) := fun h => by
    rw [← HP.out]
    refine doneP_no (.inr (right_none.2 (.inl ?_)))
    have := H.out.2.2.2; rw [h] at this; simpa using this
  have suma : ia = true → num? a.data.toList = some x := fun h => by
    have h1 := H.out.2.2.1; have h2 := H.out.1
    rw [h] at h1
    obtain ⟨v, hv⟩ := Option.isSome_iff_exists.1 h1
    rw [hv] at h2 ⊢; exact congrArg some h2
  have sumb : ib = true → num? b.data.toList = some y := fun h => by
    have h1 := H.out.2.2.2; have h2 := H.out.2.1
    rw [h] at h1
    obtain ⟨v, hv⟩ := Option.isSome_iff_exists.1 h1
    rw [hv] at h2 ⊢; exact congrArg some h2
  have wa : ia = true → lim ≤ x.natAbs → p = ([], 1) := fun h h' => by
    rw [← HP.out]; exact doneP_no (.inl (right_none.2 (.inr ⟨x, suma h, h'⟩)))
  have wb : ib = true → lim ≤ y.natAbs → p = ([], 1) := fun h h' => by
    rw [← HP.out]; exact doneP_no (.inr (right_none.2 (.inr ⟨y, sumb h, h'⟩)))
  have ok : ia = true → ib = true → x.natAbs < lim → y.natAbs < lim → p = match op x y with | some z => if z.natAbs < lim then (itoa z, 0) else ([], 10) | none => ([], 1) := fun h1 h2 h3 h4 => by
    rw [← HP.out]; exact doneP_ok (right_some.2 ⟨suma h1, h3⟩) (right_some.2 ⟨sumb h2, h4⟩)
  have LG := Lib.hid (And.intro nota (And.intro notb (And.intro wa (And.intro wb ok))))
  clear nota notb suma sumb wa wb ok
  obtain ⟨W2, hW2⟩ : ∃ W2, w2.alloc (.cells #[.bool (decide (y < 0)), .slice B (limbs y.natAbs).length cb] 43) = W2 := ⟨_, rfl⟩
  have hB2 : Below w2.heap.size w2 W2 := by rw [← hW2]; exact (Below.refl _ _).alloc (Nat.le_refl _) _
  have m0 := keeps_cell hB2 j0
  have m1 := keeps_cell hB2 j1
  have m2 : W2.cell? ⟨w2.heap.size, 0, none⟩ = some (.bool (decide (y < 0))) := by rw [← hW2]; simp [go_sem]
  have m3 : W2.cell? ⟨w2.heap.size, 1, none⟩ = some (.slice B (limbs y.natAbs).length cb) := by rw [← hW2]; simp [go_sem]
  have hbW2 := hbw2.trans (hB2.mono hbw2.size)
  have hra3 := hra2.below hB2
  have hrb3 := hrb.below hB2
  clear hB2 j0 j1 hra2 hrb hB hbw2 zl
  cases hia : ia
  · have e := LG.out.1 hia
    have E := Lib.hid e
    clear e
    go_wp2_with fail
    refine bodyPost_ret (v := .tuple #[.string ⟨#[]⟩, .int .i64 1]) (by simp [results, Tryd.results27, go_sem]) rfl ⟨by rw [E.out], ?_⟩
    exact hbW2
  cases hib : ib
  · have e := LG.out.2.1 hib
    have E := Lib.hid e
    clear e
    go_wp2_with fail
    refine bodyPost_ret (v := .tuple #[.string ⟨#[]⟩, .int .i64 1]) (by simp [results, Tryd.results27, go_sem]) rfl ⟨by rw [E.out], ?_⟩
    exact hbW2
  obtain ⟨gx, hgx⟩ : ∃ i, decide (lim ≤ x.natAbs) = i := ⟨_, rfl⟩
  obtain ⟨gy, hgy⟩ : ∃ i, decide (lim ≤ y.natAbs) = i := ⟨_, rfl⟩
  have hwx := wide_any x _ W2 hra3
  rw [hgx] at hwx
  have HWX := Lib.hid hwx
  have HGX := Lib.hid hgx
  have HGY := Lib.hid hgy
  clear hwx hgx hgy
  go_wp2_with fail
  clear hW2
  refine HWX.out.mono ?_
  rintro e w3 ⟨rfl, hb3⟩
  have n0 := keeps_cell hb3 m0
  have n1 := keeps_cell hb3 m1
  have n2 := keeps_cell hb3 m2
  have n3 := keeps_cell hb3 m3
  have hbw3 := hbW2.trans (hb3.mono hbW2.size)
  have hra4 := hra3.below hb3
  have hrb4 := hrb3.below hb3
  clear m0 m1 m2 m3 hbW2 hra3 hrb3 hb3
  cases hgx2 : gx
  case true =>
    have e := LG.out.2.2.1 hia (of_decide_eq_true (HGX.out.trans hgx2))
    have E := Lib.hid e
    clear e
    go_wp2_with fail
    refine bodyPost_ret (v := .tuple #[.string ⟨#[]⟩, .int .i64 1]) (by simp [results, Tryd.results27, go_sem]) rfl ⟨by rw [E.out], ?_⟩
    exact hbw3
  have hwy := wide_any y _ w3 hrb4
  rw [HGY.out] at hwy
  have HWY := Lib.hid hwy
  clear hwy
  go_wp2_with fail
  refine HWY.out.mono ?_
  rintro e w4 ⟨rfl, hb4⟩
  have m0 := keeps_cell hb4 n0
  have m1 := keeps_cell hb4 n1
  have m2 := keeps_cell hb4 n2
  have m3 := keeps_cell hb4 n3
  have hbw4 := hbw3.trans (hb4.mono hbw3.size)
  have hra5 := hra4.below hb4
  have hrb5 := hrb4.below hb4
  clear n0 n1 n2 n3 hbw3 hra4 hrb4 hb4
  cases hgy2 : gy
  case true =>
    have e := LG.out.2.2.2.1 hib (of_decide_eq_true (HGY.out.trans hgy2))
    have E := Lib.hid e
    clear e
    go_wp2_with fail
    refine bodyPost_ret (v := .tuple #[.string ⟨#[]⟩, .int .i64 1]) (by simp [results, Tryd.results27, go_sem]) rfl ⟨by rw [E.out], ?_⟩
    exact hbw4
  have lx : x.natAbs < lim := Nat.lt_of_not_le (of_decide_eq_false (HGX.out.trans hgx2))
  have ly : y.natAbs < lim := Nat.lt_of_not_le (of_decide_eq_false (HGY.out.trans hgy2))
  have hpp := LG.out.2.2.2.2 hia hib lx ly
  have hdd := HDO.out x y _ _ w4 hbw4 hra5 hrb5 (small_lim (Nat.le_of_lt lx)) (small_lim (Nat.le_of_lt ly))
  obtain ⟨zo, hzo⟩ : ∃ zo, op x y = zo := ⟨_, rfl⟩
  rw [hzo] at hpp hdd
  have HPP := Lib.hid hpp
  have HDD := Lib.hid hdd
  clear hpp hdd hzo lx ly hra5 hrb5
  go_wp2_with fail
  refine HDD.out.mono ?_
  rintro e w5 ⟨bz, C, cz, rfl, hrz, hb5⟩
  have hbw5 := hbw4.trans (hb5.mono hbw4.size)
  obtain ⟨z, hz⟩ : ∃ z, zo.getD 0 = z := ⟨_, rfl⟩
  rw [hz] at hrz ⊢
  clear m0 m1 m2 m3 hbw4 hb5 HDD
  cases zo with
  | none =>
    have E : Hid (p = ([], 1)) := HPP.out
    clear HPP hrz hz
    go_wp2_with fail
    refine bodyPost_ret (v := .tuple #[.string ⟨#[]⟩, .int .i64 1]) (by simp [results, Tryd.results27, go_sem]) rfl ⟨by rw [E.out], ?_⟩
    exact hbw5.alloc hbw5.size _
  | some z' =>
    have hz' : z' = z := hz
    subst hz'
    have E : Hid (p = if z'.natAbs < lim then (itoa z', 0) else ([], 10)) := HPP.out
    obtain ⟨W5, hW5⟩ : ∃ W5, w5.alloc (.cells #[.bool bz, .slice C (limbs z'.natAbs).length cz] 43) = W5 := ⟨_, rfl⟩
    have hbx : Below w5.heap.size w5 W5 := by rw [← hW5]; exact (Below.refl _ _).alloc (Nat.le_refl _) _
    have m0 : W5.cell? ⟨w5.heap.size, 0, none⟩ = some (.bool bz) := by rw [← hW5]; simp [go_sem]
    have m1 : W5.cell? ⟨w5.heap.size, 1, none⟩ = some (.slice C (limbs z'.natAbs).length cz) := by rw [← hW5]; simp [go_sem]
    have hbW5 := hbw5.trans (hbx.mono hbw5.size)
    have hr5 := hrz.below hbx
    obtain ⟨gz, hgz⟩ : ∃ i, decide (lim ≤ z'.natAbs) = i := ⟨_, rfl⟩
    have hwz := wide_any z' _ W5 hr5
    rw [hgz] at hwz
    have HWZ := Lib.hid hwz
    have HGZ := Lib.hid hgz
    clear HPP hrz hz hbx hwz hgz hbw5
    go_wp2_with fail
    clear hW5
    refine HWZ.out.mono ?_
    rintro e w6 ⟨rfl, hb6⟩
    have n0 := keeps_cell hb6 m0
    have n1 := keeps_cell hb6 m1
    have hbw6 := hbW5.trans (hb6.mono hbW5.size)
    have hr6 := hr5.below hb6
    clear m0 m1 hbW5 hr5 hb6
    cases hg : gz
    case true =>
      have hn : ¬ z'.natAbs < lim := Nat.not_lt.2 (of_decide_eq_true (HGZ.out.trans hg))
      have E2 : Hid (p = ([], 10)) := by rw [E.out, if_neg hn]; exact rfl
      clear E hn hr6
      go_wp2_with fail
      refine bodyPost_ret (v := .tuple #[.string ⟨#[]⟩, .int .i64 10]) (by simp [results, Tryd.results27, go_sem]) rfl ⟨by rw [E2.out], ?_⟩
      exact hbw6
    have hn : z'.natAbs < lim := Nat.lt_of_not_le (of_decide_eq_false (HGZ.out.trans hg))
    have E2 : Hid (p = (itoa z', 0)) := by rw [E.out, if_pos hn]; exact rfl
    have hst := string_any z' _ w6 hr6 (small_lim (Nat.le_of_lt hn)) (HT.out.below hbw6)
    have HS := Lib.hid hst
    clear E hn hst hr6
    go_wp2_with fail
    refine HS.out.mono ?_
    rintro e w7 ⟨rfl, hb7⟩
    go_wp2_with fail
    refine bodyPost_ret (v := .tuple #[.string ⟨(itoa z').toArray⟩, .int .i64 0]) (by simp [results, Tryd.results27, go_sem]) rfl ⟨by rw [E2.out], ?_⟩
    exact hbw6.trans (hb7.mono hbw6.size)

set_option maxRecDepth 100000 in
set_option maxHeartbeats 2000000 in
theorem done_33 (a b : ByteArray) (w : World) (ht : Tab w)  :
    Calls Tryd.prog 27 #[.string a, .string b, .func (.func 33) #[] #[]] w (Told w (doneP (fun x y => some (x - y)) a.data.toList b.data.toList)) := by
  obtain ⟨op, hop⟩ : ∃ op : Int → Int → Option Int, (fun x y => some (x - y)) = op := ⟨_, rfl⟩
  have hdo : ∀ (x y : Int) (va vb : Value) (W : World), Below w.heap.size w W → Rep W va x → Rep W vb y → Small x.natAbs → Small y.natAbs → Calls Tryd.prog 33 #[va, vb] W (DoGives W (op x y)) := by
    intro x y va vb W hW ha hb lx ly
    rw [← hop]
    exact do_less x y va vb W ha hb lx ly
  rw [hop]
  have HDO := Lib.hid hdo
  clear hdo hop
  obtain ⟨x, hx⟩ : ∃ x, (num? a.data.toList).getD 0 = x := ⟨_, rfl⟩
  obtain ⟨y, hy⟩ : ∃ y, (num? b.data.toList).getD 0 = y := ⟨_, rfl⟩
  obtain ⟨ia, hia⟩ : ∃ i, (num? a.data.toList).isSome = i := ⟨_, rfl⟩
  obtain ⟨ib, hib⟩ : ∃ i, (num? b.data.toList).isSome = i := ⟨_, rfl⟩
  have hPa := fun W => parse_at a x ia hx hia W
  have hPb := fun W => parse_at b y ib hy hib W
  have H := Lib.hid (And.intro hx (And.intro hy (And.intro hia hib)))
  have HPa := Lib.hid hPa
  have HPb := Lib.hid hPb
  have HT := Lib.hid ht
  clear hPa hPb hx hy hia hib ht
  obtain ⟨p, hp⟩ : ∃ p, doneP op a.data.toList b.data.toList = p := ⟨_, rfl⟩
  rw [hp]
  have HP := Lib.hid hp
  clear hp
  go_enter Tryd.func27, Tryd.ntmps27
  go_wp2_with fail
  refine (HPa.out w).mono ?_
  rintro e w1 ⟨va, rfl, hra, hb1⟩
  obtain ⟨A, ca, rfl, hA⟩ := hra.form
  go_wp2_with fail
  obtain ⟨W1, hW1⟩ : ∃ W1, w1.alloc (.cells #[.bool (decide (x < 0)), .slice A (limbs x.natAbs).length ca] 43) = W1 := ⟨_, rfl⟩
  have k0 : W1.cell? ⟨w1.heap.size, 0, none⟩ = some (.bool (decide (x < 0))) := by rw [← hW1]; simp [go_sem]
  have k1 : W1.cell? ⟨w1.heap.size, 1, none⟩ = some (.slice A (limbs x.natAbs).length ca) := by rw [← hW1]; simp [go_sem]
  have hB1 : Below w1.heap.size w1 W1 := by rw [← hW1]; exact (Below.refl _ _).alloc (Nat.le_refl _) _
  have hbw1 : Below w.heap.size w W1 := hb1.trans (hB1.mono hb1.size)
  have hra1 := hra.below hB1
  rw [hW1]
  clear hW1 hra hA hB1
  refine (HPb.out W1).mono ?_
  rintro e w2 ⟨vb, rfl, hrb, hb2⟩
  obtain ⟨B, cb, rfl, hB⟩ := hrb.form
  have j0 := keeps_cell hb2 k0
  have j1 := keeps_cell hb2 k1
  have hra2 := hra1.below hb2
  have hbw2 := hbw1.trans (hb2.mono hbw1.size)
  have zl := cell_lt j0
  clear k0 k1 hra1 hb2 hbw1
  have nota : ia = false → p = ([], 1) := fun h => by
    rw [← HP.out]
    refine doneP_no (.inl (right_none.2 (.inl ?_)))
    have := H.out.2.2.1; rw [h] at this; simpa using this
  have notb : ib = false → p = ([], 1) := fun h => by
    rw [← HP.out]
    refine doneP_no (.inr (right_none.2 (.inl ?_)))
    have := H.out.2.2.2; rw [h] at this; simpa using this
  have suma : ia = true → num? a.data.toList = some x := fun h => by
    have h1 := H.out.2.2.1; have h2 := H.out.1
    rw [h] at h1
    obtain ⟨v, hv⟩ := Option.isSome_iff_exists.1 h1
    rw [hv] at h2 ⊢; exact congrArg some h2
  have sumb : ib = true → num? b.data.toList = some y := fun h => by
    have h1 := H.out.2.2.2; have h2 := H.out.2.1
    rw [h] at h1
    obtain ⟨v, hv⟩ := Option.isSome_iff_exists.1 h1
    rw [hv] at h2 ⊢; exact congrArg some h2
  have wa : ia = true → lim ≤ x.natAbs → p = ([], 1) := fun h h' => by
    rw [← HP.out]; exact doneP_no (.inl (right_none.2 (.inr ⟨x, suma h, h'⟩)))
  have wb : ib = true → lim ≤ y.natAbs → p = ([], 1) := fun h h' => by
    rw [← HP.out]; exact doneP_no (.inr (right_none.2 (.inr ⟨y, sumb h, h'⟩)))
  have ok : ia = true → ib = true → x.natAbs < lim → y.natAbs < lim → p = match op x y with | some z => if z.natAbs < lim then (itoa z, 0) else ([], 10) | none => ([], 1) := fun h1 h2 h3 h4 => by
    rw [← HP.out]; exact doneP_ok (right_some.2 ⟨suma h1, h3⟩) (right_some.2 ⟨sumb h2, h4⟩)
  have LG := Lib.hid (And.intro nota (And.intro notb (And.intro wa (And.intro wb ok))))
  clear nota notb suma sumb wa wb ok
  obtain ⟨W2, hW2⟩ : ∃ W2, w2.alloc (.cells #[.bool (decide (y < 0)), .slice B (limbs y.natAbs).length cb] 43) = W2 := ⟨_, rfl⟩
  have hB2 : Below w2.heap.size w2 W2 := by rw [← hW2]; exact (Below.refl _ _).alloc (Nat.le_refl _) _
  have m0 := keeps_cell hB2 j0
  have m1 := keeps_cell hB2 j1
  have m2 : W2.cell? ⟨w2.heap.size, 0, none⟩ = some (.bool (decide (y < 0))) := by rw [← hW2]; simp [go_sem]
  have m3 : W2.cell? ⟨w2.heap.size, 1, none⟩ = some (.slice B (limbs y.natAbs).length cb) := by rw [← hW2]; simp [go_sem]
  have hbW2 := hbw2.trans (hB2.mono hbw2.size)
  have hra3 := hra2.below hB2
  have hrb3 := hrb.below hB2
  clear hB2 j0 j1 hra2 hrb hB hbw2 zl
  cases hia : ia
  · have e := LG.out.1 hia
    have E := Lib.hid e
    clear e
    go_wp2_with fail
    refine bodyPost_ret (v := .tuple #[.string ⟨#[]⟩, .int .i64 1]) (by simp [results, Tryd.results27, go_sem]) rfl ⟨by rw [E.out], ?_⟩
    exact hbW2
  cases hib : ib
  · have e := LG.out.2.1 hib
    have E := Lib.hid e
    clear e
    go_wp2_with fail
    refine bodyPost_ret (v := .tuple #[.string ⟨#[]⟩, .int .i64 1]) (by simp [results, Tryd.results27, go_sem]) rfl ⟨by rw [E.out], ?_⟩
    exact hbW2
  obtain ⟨gx, hgx⟩ : ∃ i, decide (lim ≤ x.natAbs) = i := ⟨_, rfl⟩
  obtain ⟨gy, hgy⟩ : ∃ i, decide (lim ≤ y.natAbs) = i := ⟨_, rfl⟩
  have hwx := wide_any x _ W2 hra3
  rw [hgx] at hwx
  have HWX := Lib.hid hwx
  have HGX := Lib.hid hgx
  have HGY := Lib.hid hgy
  clear hwx hgx hgy
  go_wp2_with fail
  clear hW2
  refine HWX.out.mono ?_
  rintro e w3 ⟨rfl, hb3⟩
  have n0 := keeps_cell hb3 m0
  have n1 := keeps_cell hb3 m1
  have n2 := keeps_cell hb3 m2
  have n3 := keeps_cell hb3 m3
  have hbw3 := hbW2.trans (hb3.mono hbW2.size)
  have hra4 := hra3.below hb3
  have hrb4 := hrb3.below hb3
  clear m0 m1 m2 m3 hbW2 hra3 hrb3 hb3
  cases hgx2 : gx
  case true =>
    have e := LG.out.2.2.1 hia (of_decide_eq_true (HGX.out.trans hgx2))
    have E := Lib.hid e
    clear e
    go_wp2_with fail
    refine bodyPost_ret (v := .tuple #[.string ⟨#[]⟩, .int .i64 1]) (by simp [results, Tryd.results27, go_sem]) rfl ⟨by rw [E.out], ?_⟩
    exact hbw3
  have hwy := wide_any y _ w3 hrb4
  rw [HGY.out] at hwy
  have HWY := Lib.hid hwy
  clear hwy
  go_wp2_with fail
  refine HWY.out.mono ?_
  rintro e w4 ⟨rfl, hb4⟩
  have m0 := keeps_cell hb4 n0
  have m1 := keeps_cell hb4 n1
  have m2 := keeps_cell hb4 n2
  have m3 := keeps_cell hb4 n3
  have hbw4 := hbw3.trans (hb4.mono hbw3.size)
  have hra5 := hra4.below hb4
  have hrb5 := hrb4.below hb4
  clear n0 n1 n2 n3 hbw3 hra4 hrb4 hb4
  cases hgy2 : gy
  case true =>
    have e := LG.out.2.2.2.1 hib (of_decide_eq_true (HGY.out.trans hgy2))
    have E := Lib.hid e
    clear e
    go_wp2_with fail
    refine bodyPost_ret (v := .tuple #[.string ⟨#[]⟩, .int .i64 1]) (by simp [results, Tryd.results27, go_sem]) rfl ⟨by rw [E.out], ?_⟩
    exact hbw4
  have lx : x.natAbs < lim := Nat.lt_of_not_le (of_decide_eq_false (HGX.out.trans hgx2))
  have ly : y.natAbs < lim := Nat.lt_of_not_le (of_decide_eq_false (HGY.out.trans hgy2))
  have hpp := LG.out.2.2.2.2 hia hib lx ly
  have hdd := HDO.out x y _ _ w4 hbw4 hra5 hrb5 (small_lim (Nat.le_of_lt lx)) (small_lim (Nat.le_of_lt ly))
  obtain ⟨zo, hzo⟩ : ∃ zo, op x y = zo := ⟨_, rfl⟩
  rw [hzo] at hpp hdd
  have HPP := Lib.hid hpp
  have HDD := Lib.hid hdd
  clear hpp hdd hzo lx ly hra5 hrb5
  go_wp2_with fail
  refine HDD.out.mono ?_
  rintro e w5 ⟨bz, C, cz, rfl, hrz, hb5⟩
  have hbw5 := hbw4.trans (hb5.mono hbw4.size)
  obtain ⟨z, hz⟩ : ∃ z, zo.getD 0 = z := ⟨_, rfl⟩
  rw [hz] at hrz ⊢
  clear m0 m1 m2 m3 hbw4 hb5 HDD
  cases zo with
  | none =>
    have E : Hid (p = ([], 1)) := HPP.out
    clear HPP hrz hz
    go_wp2_with fail
    refine bodyPost_ret (v := .tuple #[.string ⟨#[]⟩, .int .i64 1]) (by simp [results, Tryd.results27, go_sem]) rfl ⟨by rw [E.out], ?_⟩
    exact hbw5.alloc hbw5.size _
  | some z' =>
    have hz' : z' = z := hz
    subst hz'
    have E : Hid (p = if z'.natAbs < lim then (itoa z', 0) else ([], 10)) := HPP.out
    obtain ⟨W5, hW5⟩ : ∃ W5, w5.alloc (.cells #[.bool bz, .slice C (limbs z'.natAbs).length cz] 43) = W5 := ⟨_, rfl⟩
    have hbx : Below w5.heap.size w5 W5 := by rw [← hW5]; exact (Below.refl _ _).alloc (Nat.le_refl _) _
    have m0 : W5.cell? ⟨w5.heap.size, 0, none⟩ = some (.bool bz) := by rw [← hW5]; simp [go_sem]
    have m1 : W5.cell? ⟨w5.heap.size, 1, none⟩ = some (.slice C (limbs z'.natAbs).length cz) := by rw [← hW5]; simp [go_sem]
    have hbW5 := hbw5.trans (hbx.mono hbw5.size)
    have hr5 := hrz.below hbx
    obtain ⟨gz, hgz⟩ : ∃ i, decide (lim ≤ z'.natAbs) = i := ⟨_, rfl⟩
    have hwz := wide_any z' _ W5 hr5
    rw [hgz] at hwz
    have HWZ := Lib.hid hwz
    have HGZ := Lib.hid hgz
    clear HPP hrz hz hbx hwz hgz hbw5
    go_wp2_with fail
    clear hW5
    refine HWZ.out.mono ?_
    rintro e w6 ⟨rfl, hb6⟩
    have n0 := keeps_cell hb6 m0
    have n1 := keeps_cell hb6 m1
    have hbw6 := hbW5.trans (hb6.mono hbW5.size)
    have hr6 := hr5.below hb6
    clear m0 m1 hbW5 hr5 hb6
    cases hg : gz
    case true =>
      have hn : ¬ z'.natAbs < lim := Nat.not_lt.2 (of_decide_eq_true (HGZ.out.trans hg))
      have E2 : Hid (p = ([], 10)) := by rw [E.out, if_neg hn]; exact rfl
      clear E hn hr6
      go_wp2_with fail
      refine bodyPost_ret (v := .tuple #[.string ⟨#[]⟩, .int .i64 10]) (by simp [results, Tryd.results27, go_sem]) rfl ⟨by rw [E2.out], ?_⟩
      exact hbw6
    have hn : z'.natAbs < lim := Nat.lt_of_not_le (of_decide_eq_false (HGZ.out.trans hg))
    have E2 : Hid (p = (itoa z', 0)) := by rw [E.out, if_pos hn]; exact rfl
    have hst := string_any z' _ w6 hr6 (small_lim (Nat.le_of_lt hn)) (HT.out.below hbw6)
    have HS := Lib.hid hst
    clear E hn hst hr6
    go_wp2_with fail
    refine HS.out.mono ?_
    rintro e w7 ⟨rfl, hb7⟩
    go_wp2_with fail
    refine bodyPost_ret (v := .tuple #[.string ⟨(itoa z').toArray⟩, .int .i64 0]) (by simp [results, Tryd.results27, go_sem]) rfl ⟨by rw [E2.out], ?_⟩
    exact hbw6.trans (hb7.mono hbw6.size)

set_option maxRecDepth 100000 in
set_option maxHeartbeats 2000000 in
theorem done_49 (r : Bool) (P : Nat) (a b : ByteArray) (w : World) (ht : Tab w) (hP : w.cell? ⟨P, 0, none⟩ = some (.bool r)) :
    Calls Tryd.prog 27 #[.string a, .string b, .func (.func 49) #[] #[.pointer (some ⟨P, 0, none⟩)]] w (Told w (doneP (fun x y => if y = 0 then none else some (if r = true then x.tmod y else x.tdiv y)) a.data.toList b.data.toList)) := by
  obtain ⟨op, hop⟩ : ∃ op : Int → Int → Option Int, (fun x y => if y = 0 then none else some (if r = true then x.tmod y else x.tdiv y)) = op := ⟨_, rfl⟩
  have hdo : ∀ (x y : Int) (va vb : Value) (W : World), Below w.heap.size w W → Rep W va x → Rep W vb y → Small x.natAbs → Small y.natAbs → Calls Tryd.prog 49 #[va, vb, .pointer (some ⟨P, 0, none⟩)] W (DoGives W (op x y)) := by
    intro x y va vb W hW ha hb lx ly
    rw [← hop]
    exact do_parts x y r P va vb W ha hb lx ly ((hW.cell (p := ⟨P, 0, none⟩) (cell_lt hP)).trans hP)
  rw [hop]
  have HDO := Lib.hid hdo
  clear hdo hop
  obtain ⟨x, hx⟩ : ∃ x, (num? a.data.toList).getD 0 = x := ⟨_, rfl⟩
  obtain ⟨y, hy⟩ : ∃ y, (num? b.data.toList).getD 0 = y := ⟨_, rfl⟩
  obtain ⟨ia, hia⟩ : ∃ i, (num? a.data.toList).isSome = i := ⟨_, rfl⟩
  obtain ⟨ib, hib⟩ : ∃ i, (num? b.data.toList).isSome = i := ⟨_, rfl⟩
  have hPa := fun W => parse_at a x ia hx hia W
  have hPb := fun W => parse_at b y ib hy hib W
  have H := Lib.hid (And.intro hx (And.intro hy (And.intro hia hib)))
  have HPa := Lib.hid hPa
  have HPb := Lib.hid hPb
  have HT := Lib.hid ht
  clear hPa hPb hx hy hia hib ht
  obtain ⟨p, hp⟩ : ∃ p, doneP op a.data.toList b.data.toList = p := ⟨_, rfl⟩
  rw [hp]
  have HP := Lib.hid hp
  clear hp
  go_enter Tryd.func27, Tryd.ntmps27
  go_wp2_with fail
  refine (HPa.out w).mono ?_
  rintro e w1 ⟨va, rfl, hra, hb1⟩
  obtain ⟨A, ca, rfl, hA⟩ := hra.form
  go_wp2_with fail
  obtain ⟨W1, hW1⟩ : ∃ W1, w1.alloc (.cells #[.bool (decide (x < 0)), .slice A (limbs x.natAbs).length ca] 43) = W1 := ⟨_, rfl⟩
  have k0 : W1.cell? ⟨w1.heap.size, 0, none⟩ = some (.bool (decide (x < 0))) := by rw [← hW1]; simp [go_sem]
  have k1 : W1.cell? ⟨w1.heap.size, 1, none⟩ = some (.slice A (limbs x.natAbs).length ca) := by rw [← hW1]; simp [go_sem]
  have hB1 : Below w1.heap.size w1 W1 := by rw [← hW1]; exact (Below.refl _ _).alloc (Nat.le_refl _) _
  have hbw1 : Below w.heap.size w W1 := hb1.trans (hB1.mono hb1.size)
  have hra1 := hra.below hB1
  rw [hW1]
  clear hW1 hra hA hB1
  refine (HPb.out W1).mono ?_
  rintro e w2 ⟨vb, rfl, hrb, hb2⟩
  obtain ⟨B, cb, rfl, hB⟩ := hrb.form
  have j0 := keeps_cell hb2 k0
  have j1 := keeps_cell hb2 k1
  have hra2 := hra1.below hb2
  have hbw2 := hbw1.trans (hb2.mono hbw1.size)
  have zl := cell_lt j0
  clear k0 k1 hra1 hb2 hbw1
  have nota : ia = false → p = ([], 1) := fun h => by
    rw [← HP.out]
    refine doneP_no (.inl (right_none.2 (.inl ?_)))
    have := H.out.2.2.1; rw [h] at this; simpa using this
  have notb : ib = false → p = ([], 1) := fun h => by
    rw [← HP.out]
    refine doneP_no (.inr (right_none.2 (.inl ?_)))
    have := H.out.2.2.2; rw [h] at this; simpa using this
  have suma : ia = true → num? a.data.toList = some x := fun h => by
    have h1 := H.out.2.2.1; have h2 := H.out.1
    rw [h] at h1
    obtain ⟨v, hv⟩ := Option.isSome_iff_exists.1 h1
    rw [hv] at h2 ⊢; exact congrArg some h2
  have sumb : ib = true → num? b.data.toList = some y := fun h => by
    have h1 := H.out.2.2.2; have h2 := H.out.2.1
    rw [h] at h1
    obtain ⟨v, hv⟩ := Option.isSome_iff_exists.1 h1
    rw [hv] at h2 ⊢; exact congrArg some h2
  have wa : ia = true → lim ≤ x.natAbs → p = ([], 1) := fun h h' => by
    rw [← HP.out]; exact doneP_no (.inl (right_none.2 (.inr ⟨x, suma h, h'⟩)))
  have wb : ib = true → lim ≤ y.natAbs → p = ([], 1) := fun h h' => by
    rw [← HP.out]; exact doneP_no (.inr (right_none.2 (.inr ⟨y, sumb h, h'⟩)))
  have ok : ia = true → ib = true → x.natAbs < lim → y.natAbs < lim → p = match op x y with | some z => if z.natAbs < lim then (itoa z, 0) else ([], 10) | none => ([], 1) := fun h1 h2 h3 h4 => by
    rw [← HP.out]; exact doneP_ok (right_some.2 ⟨suma h1, h3⟩) (right_some.2 ⟨sumb h2, h4⟩)
  have LG := Lib.hid (And.intro nota (And.intro notb (And.intro wa (And.intro wb ok))))
  clear nota notb suma sumb wa wb ok
  obtain ⟨W2, hW2⟩ : ∃ W2, w2.alloc (.cells #[.bool (decide (y < 0)), .slice B (limbs y.natAbs).length cb] 43) = W2 := ⟨_, rfl⟩
  have hB2 : Below w2.heap.size w2 W2 := by rw [← hW2]; exact (Below.refl _ _).alloc (Nat.le_refl _) _
  have m0 := keeps_cell hB2 j0
  have m1 := keeps_cell hB2 j1
  have m2 : W2.cell? ⟨w2.heap.size, 0, none⟩ = some (.bool (decide (y < 0))) := by rw [← hW2]; simp [go_sem]
  have m3 : W2.cell? ⟨w2.heap.size, 1, none⟩ = some (.slice B (limbs y.natAbs).length cb) := by rw [← hW2]; simp [go_sem]
  have hbW2 := hbw2.trans (hB2.mono hbw2.size)
  have hra3 := hra2.below hB2
  have hrb3 := hrb.below hB2
  clear hB2 j0 j1 hra2 hrb hB hbw2 zl
  cases hia : ia
  · have e := LG.out.1 hia
    have E := Lib.hid e
    clear e
    go_wp2_with fail
    refine bodyPost_ret (v := .tuple #[.string ⟨#[]⟩, .int .i64 1]) (by simp [results, Tryd.results27, go_sem]) rfl ⟨by rw [E.out], ?_⟩
    exact hbW2
  cases hib : ib
  · have e := LG.out.2.1 hib
    have E := Lib.hid e
    clear e
    go_wp2_with fail
    refine bodyPost_ret (v := .tuple #[.string ⟨#[]⟩, .int .i64 1]) (by simp [results, Tryd.results27, go_sem]) rfl ⟨by rw [E.out], ?_⟩
    exact hbW2
  obtain ⟨gx, hgx⟩ : ∃ i, decide (lim ≤ x.natAbs) = i := ⟨_, rfl⟩
  obtain ⟨gy, hgy⟩ : ∃ i, decide (lim ≤ y.natAbs) = i := ⟨_, rfl⟩
  have hwx := wide_any x _ W2 hra3
  rw [hgx] at hwx
  have HWX := Lib.hid hwx
  have HGX := Lib.hid hgx
  have HGY := Lib.hid hgy
  clear hwx hgx hgy
  go_wp2_with fail
  clear hW2
  refine HWX.out.mono ?_
  rintro e w3 ⟨rfl, hb3⟩
  have n0 := keeps_cell hb3 m0
  have n1 := keeps_cell hb3 m1
  have n2 := keeps_cell hb3 m2
  have n3 := keeps_cell hb3 m3
  have hbw3 := hbW2.trans (hb3.mono hbW2.size)
  have hra4 := hra3.below hb3
  have hrb4 := hrb3.below hb3
  clear m0 m1 m2 m3 hbW2 hra3 hrb3 hb3
  cases hgx2 : gx
  case true =>
    have e := LG.out.2.2.1 hia (of_decide_eq_true (HGX.out.trans hgx2))
    have E := Lib.hid e
    clear e
    go_wp2_with fail
    refine bodyPost_ret (v := .tuple #[.string ⟨#[]⟩, .int .i64 1]) (by simp [results, Tryd.results27, go_sem]) rfl ⟨by rw [E.out], ?_⟩
    exact hbw3
  have hwy := wide_any y _ w3 hrb4
  rw [HGY.out] at hwy
  have HWY := Lib.hid hwy
  clear hwy
  go_wp2_with fail
  refine HWY.out.mono ?_
  rintro e w4 ⟨rfl, hb4⟩
  have m0 := keeps_cell hb4 n0
  have m1 := keeps_cell hb4 n1
  have m2 := keeps_cell hb4 n2
  have m3 := keeps_cell hb4 n3
  have hbw4 := hbw3.trans (hb4.mono hbw3.size)
  have hra5 := hra4.below hb4
  have hrb5 := hrb4.below hb4
  clear n0 n1 n2 n3 hbw3 hra4 hrb4 hb4
  cases hgy2 : gy
  case true =>
    have e := LG.out.2.2.2.1 hib (of_decide_eq_true (HGY.out.trans hgy2))
    have E := Lib.hid e
    clear e
    go_wp2_with fail
    refine bodyPost_ret (v := .tuple #[.string ⟨#[]⟩, .int .i64 1]) (by simp [results, Tryd.results27, go_sem]) rfl ⟨by rw [E.out], ?_⟩
    exact hbw4
  have lx : x.natAbs < lim := Nat.lt_of_not_le (of_decide_eq_false (HGX.out.trans hgx2))
  have ly : y.natAbs < lim := Nat.lt_of_not_le (of_decide_eq_false (HGY.out.trans hgy2))
  have hpp := LG.out.2.2.2.2 hia hib lx ly
  have hdd := HDO.out x y _ _ w4 hbw4 hra5 hrb5 (small_lim (Nat.le_of_lt lx)) (small_lim (Nat.le_of_lt ly))
  obtain ⟨zo, hzo⟩ : ∃ zo, op x y = zo := ⟨_, rfl⟩
  rw [hzo] at hpp hdd
  have HPP := Lib.hid hpp
  have HDD := Lib.hid hdd
  clear hpp hdd hzo lx ly hra5 hrb5
  go_wp2_with fail
  refine HDD.out.mono ?_
  rintro e w5 ⟨bz, C, cz, rfl, hrz, hb5⟩
  have hbw5 := hbw4.trans (hb5.mono hbw4.size)
  obtain ⟨z, hz⟩ : ∃ z, zo.getD 0 = z := ⟨_, rfl⟩
  rw [hz] at hrz ⊢
  clear m0 m1 m2 m3 hbw4 hb5 HDD
  cases zo with
  | none =>
    have E : Hid (p = ([], 1)) := HPP.out
    clear HPP hrz hz
    go_wp2_with fail
    refine bodyPost_ret (v := .tuple #[.string ⟨#[]⟩, .int .i64 1]) (by simp [results, Tryd.results27, go_sem]) rfl ⟨by rw [E.out], ?_⟩
    exact hbw5.alloc hbw5.size _
  | some z' =>
    have hz' : z' = z := hz
    subst hz'
    have E : Hid (p = if z'.natAbs < lim then (itoa z', 0) else ([], 10)) := HPP.out
    obtain ⟨W5, hW5⟩ : ∃ W5, w5.alloc (.cells #[.bool bz, .slice C (limbs z'.natAbs).length cz] 43) = W5 := ⟨_, rfl⟩
    have hbx : Below w5.heap.size w5 W5 := by rw [← hW5]; exact (Below.refl _ _).alloc (Nat.le_refl _) _
    have m0 : W5.cell? ⟨w5.heap.size, 0, none⟩ = some (.bool bz) := by rw [← hW5]; simp [go_sem]
    have m1 : W5.cell? ⟨w5.heap.size, 1, none⟩ = some (.slice C (limbs z'.natAbs).length cz) := by rw [← hW5]; simp [go_sem]
    have hbW5 := hbw5.trans (hbx.mono hbw5.size)
    have hr5 := hrz.below hbx
    obtain ⟨gz, hgz⟩ : ∃ i, decide (lim ≤ z'.natAbs) = i := ⟨_, rfl⟩
    have hwz := wide_any z' _ W5 hr5
    rw [hgz] at hwz
    have HWZ := Lib.hid hwz
    have HGZ := Lib.hid hgz
    clear HPP hrz hz hbx hwz hgz hbw5
    go_wp2_with fail
    clear hW5
    refine HWZ.out.mono ?_
    rintro e w6 ⟨rfl, hb6⟩
    have n0 := keeps_cell hb6 m0
    have n1 := keeps_cell hb6 m1
    have hbw6 := hbW5.trans (hb6.mono hbW5.size)
    have hr6 := hr5.below hb6
    clear m0 m1 hbW5 hr5 hb6
    cases hg : gz
    case true =>
      have hn : ¬ z'.natAbs < lim := Nat.not_lt.2 (of_decide_eq_true (HGZ.out.trans hg))
      have E2 : Hid (p = ([], 10)) := by rw [E.out, if_neg hn]; exact rfl
      clear E hn hr6
      go_wp2_with fail
      refine bodyPost_ret (v := .tuple #[.string ⟨#[]⟩, .int .i64 10]) (by simp [results, Tryd.results27, go_sem]) rfl ⟨by rw [E2.out], ?_⟩
      exact hbw6
    have hn : z'.natAbs < lim := Nat.lt_of_not_le (of_decide_eq_false (HGZ.out.trans hg))
    have E2 : Hid (p = (itoa z', 0)) := by rw [E.out, if_pos hn]; exact rfl
    have hst := string_any z' _ w6 hr6 (small_lim (Nat.le_of_lt hn)) (HT.out.below hbw6)
    have HS := Lib.hid hst
    clear E hn hst hr6
    go_wp2_with fail
    refine HS.out.mono ?_
    rintro e w7 ⟨rfl, hb7⟩
    go_wp2_with fail
    refine bodyPost_ret (v := .tuple #[.string ⟨(itoa z').toArray⟩, .int .i64 0]) (by simp [results, Tryd.results27, go_sem]) rfl ⟨by rw [E2.out], ?_⟩
    exact hbw6.trans (hb7.mono hbw6.size)

end Go.Proofs.YtjfmefdhfboliaaDoor
