/- Walk: awake. -/
import Derived.Test.YtheiakdlhpccaaaDoorTm
namespace Go.Proofs.YtheiakdlhpccaaaDoor
open Go.RowKit Go.Shelf R
open Go.Proofs.YtheiakdlhpccaaaDoorW.PrintWords

theorem Read_to (l : List UInt8) (q : S24 × Int) (hq : readP l = q) (W : World) : Calls Tryd.prog 10 #[.string (bs l)] W fun e w' => ∃ A c, e = .returned (.tuple #[xv q.1 A c, .int .i64 q.2]) ∧ q.1.f2.length ≤ c ∧ Kd.C k24 w' A q.1.f2.length q.1.f2 ∧ Below W.heap.size W w' := by
  subst hq
  exact (Read_any l W).mono fun e w' h => Reads_at (Below.refl _ _) h

/-- A constraint lies at block X, its kids at A. -/
structure Lies (X : Nat) (x : S24) (A : Option Addr) (c : Nat) (w W : World) : Prop where
  bel : Below w.heap.size w W
  cap : x.f2.length ≤ c
  row : Kd.C k24 W A x.f2.length x.f2
  c0 : W.cell? ⟨X, 0, none⟩ = some (.string x.f0)
  c1 : W.cell? ⟨X, 1, none⟩ = some (.string x.f1)
  c2 : W.cell? ⟨X, 2, none⟩ = some (.slice A x.f2.length c)
theorem Lies.below {X : Nat} {x : S24} {A : Option Addr} {c : Nat} {w W W' : World} (h : Lies X x A c w W) (hb : Below W.heap.size W W') : Lies X x A c w W' :=
  ⟨h.bel.trans (hb.mono h.bel.size), h.cap, Kd.C_below h.row hb, keeps_cell hb h.c0, keeps_cell hb h.c1, keeps_cell hb h.c2⟩
theorem Lies.new {x : S24} {A : Option Addr} {c : Nat} {w W : World} (hb : Below w.heap.size w W) (hc : x.f2.length ≤ c) (hC : Kd.C k24 W A x.f2.length x.f2) : Lies W.heap.size x A c w (W.alloc (.cells #[.string x.f0, .string x.f1, .slice A x.f2.length c] 24)) := by
  have n1 : Below W.heap.size W (W.alloc (.cells #[.string x.f0, .string x.f1, .slice A x.f2.length c] 24)) := (Below.refl _ W).alloc (Nat.le_refl _) _
  exact ⟨hb.trans (n1.mono hb.size), hc, Kd.C_below hC n1, by simp [go_sem], by simp [go_sem], by simp [go_sem]⟩

set_option maxRecDepth 100000 in
set_option maxHeartbeats 4000000 in
theorem awake_any {w : World} (hG : Good w) : ∀ W, Below w.heap.size w W → Calls Tryd.prog 13 #[] W (Out w.heap.size w (.bool true)) := by
  intro W0 hW0
  have a1 := aw1
  have a2 := aw2
  have a3 := aw3
  have a4 := aw4
  have a5 := aw5
  have a6 := aw6
  have s1 := readP_sz aw
  have s2 := readP_sz ax
  obtain ⟨⟨x, ex⟩, hx⟩ : ∃ q, readP aw = q := ⟨_, rfl⟩
  obtain ⟨⟨y, ey⟩, hy⟩ : ∃ q, readP ax = q := ⟨_, rfl⟩
  have K1 := Lib.hid (Read_to aw _ hx)
  have K2 := Lib.hid (Read_to ax _ hy)
  rw [hx] at a1 a3 a4 a6 s1
  rw [hy] at a2 a5 s2
  simp only [] at a1 a2 a3 a4 a5 a6 s1 s2 K1 K2
  subst a1 a2
  have KL := Lib.hid (fun A c W (hW : Below w.heap.size w W) => a3 ▸ Least_any x A c W (hG.below hW) (s1 100))
  have KM := Lib.hid (fun A c W (hW : Below w.heap.size w W) => a5 ▸ Least_any y A c W (hG.below hW) (s2 100))
  have KH := Lib.hid (fun A c W (hW : Below w.heap.size w W) hc hC => a4 ▸ Holds_any [] x A c none 0 W (hG.below hW) (s1 100) hc hC (Nat.le_refl 0) (Kd.C_nil _ _))
  have KW := Lib.hid (fun A c W (hW : Below w.heap.size w W) => a6 ▸ Write_any x A c W (s1 100) (by rw [a6]; decide))
  clear hx hy s1 s2 a3 a4 a5 a6
  go_enter Tryd.func13, Tryd.ntmps13
  unfold xv at K1 K2 KL KM KH KW
  go_wp2_with fail
  refine (K1.out _).mono ?_
  rintro e w1 ⟨A, c, rfl, hc, hC, hb1⟩
  have HX := Lib.hid (Lies.new (x := x) (hW0.trans (hb1.mono hW0.size)) hc hC)
  clear hC hb1 hc
  go_wp2_with fail
  refine (K2.out _).mono ?_
  rintro e w2 ⟨B, d, rfl, hd, hD, hb2⟩
  have HX2 := Lib.hid (HX.out.below hb2)
  have HY := Lib.hid (Lies.new (x := y) HX2.out.bel hd hD)
  have HX := Lib.hid (HX2.out.below (W' := w2.alloc (.cells #[.string y.f0, .string y.f1, .slice B y.f2.length d] 24)) ((Below.refl _ w2).alloc (Nat.le_refl _) _))
  obtain ⟨_, _, _, x0, x1, x2⟩ := HX.out
  clear hD hb2 hd HX2
  go_wp2_with fail
  refine (KL.out _ _ _ HX.out.bel HX.out.cap HX.out.row).mono ?_
  rintro e w3 ⟨rfl, hb3⟩
  have HX3 := Lib.hid (HX.out.below hb3)
  have HY3 := Lib.hid (HY.out.below hb3)
  clear x0 x1 x2 hb3 HX HY
  obtain ⟨_, _, _, x0, x1, x2⟩ := HX3.out
  go_wp2_with fail
  refine (KH.out _ _ _ HX3.out.bel HX3.out.cap HX3.out.row).mono ?_
  rintro e w4 ⟨rfl, hb4⟩
  have HX4 := Lib.hid (HX3.out.below hb4)
  have HY4 := Lib.hid (HY3.out.below hb4)
  clear x0 x1 x2 hb4 HX3 HY3
  obtain ⟨_, _, _, x0, x1, x2⟩ := HY4.out
  go_wp2_with fail
  refine (KM.out _ _ _ HY4.out.bel HY4.out.cap HY4.out.row).mono ?_
  rintro e w5 ⟨rfl, hb5⟩
  have HX5 := Lib.hid (HX4.out.below hb5)
  clear x0 x1 x2 hb5 HX4 HY4
  obtain ⟨_, _, _, x0, x1, x2⟩ := HX5.out
  go_wp2_with fail
  refine (KW.out _ _ _ HX5.out.bel HX5.out.cap HX5.out.row).mono ?_
  rintro e w6 ⟨rfl, hb6⟩
  have hb := HX5.out.bel.trans (hb6.mono HX5.out.bel.size)
  clear x0 x1 x2 hb6 HX5
  have ht : (bs aw).toList = [103, 111, 49, 46, 50, 49, 32, 38, 38, 32, 33, 120] := by rw [bs_toList]; rfl
  go_wp2_with fail
  go_ret
  exact ⟨rfl, hb⟩
end Go.Proofs.YtheiakdlhpccaaaDoor
