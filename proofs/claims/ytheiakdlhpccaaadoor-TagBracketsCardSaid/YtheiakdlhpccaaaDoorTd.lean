/- Walks: right, Right. -/
import Derived.Test.YtheiakdlhpccaaaDoorTc
namespace Go.Proofs.YtheiakdlhpccaaaDoor
open Go.RowKit Go.Shelf R
open Go.Proofs.YtheiakdlhpccaaaDoorW.PrintWords

/-- right: may it be one, with so many within one another left? -/
def rightN : Nat → S24 → Bool
  | 0, _ => false
  | n + 1, x =>
    if x.f0.toList = [] then allB mayN x.f1.data.toList && decide (x.f2.length = 0)
    else if x.f0.toList = [33] then decide (x.f2.length = 1) && (decide (x.f1.toList = []) && !(x.f2.any fun k => !rightN n k))
    else if x.f0.toList = [38, 38] ∨ x.f0.toList = [124, 124] then decide (2 ≤ x.f2.length) && (decide (x.f1.toList = []) && !(x.f2.any fun k => !rightN n k))
    else false

def RightAt (n : Nat) : Prop := ∀ (x : S24) (A : Option Addr) (c : Nat) (w : World), x.f2.length ≤ c → Kd.C k24 w A x.f2.length x.f2 → Calls Tryd.prog 28 #[xv x A c, .int .i64 n] w (Out w.heap.size w (.bool (rightN n x)))

theorem new_cell {W : World} {p : Addr} {v : Value} (h : W.cell? p = some v) (o : Obj) : (W.alloc o).cell? p = some v := keeps_cell ((Below.refl _ W).alloc (Nat.le_refl _) o) h

set_option maxRecDepth 100000 in
theorem right_kid (n : Nat) (hn : n < 1000) (ih : RightAt n) (L : Nat) (x : S24) (A : Option Addr) (c : Nat) (w : World) (hl : w.cell? ⟨L, 0, none⟩ = some (.int .i64 ((n : Int) + 1))) (hc : x.f2.length ≤ c) (hC : Kd.C k24 w A x.f2.length x.f2) :
    Calls Tryd.prog 41 #[xv x A c, .pointer (some ⟨L, 0, none⟩)] w (Out w.heap.size w (.bool (!rightN n x))) := by
  have hb0 : Below w.heap.size w (w.alloc (.cells #[.string x.f0, .string x.f1, .slice A x.f2.length c] 24)) := (Below.refl _ w).alloc (Nat.le_refl _) _
  have KR := Lib.hid (ih x A c (w.alloc (.cells #[.string x.f0, .string x.f1, .slice A x.f2.length c] 24)) hc (Kd.C_below hC hb0))
  have hl2 := new_cell hl (.cells #[.string x.f0, .string x.f1, .slice A x.f2.length c] 24)
  obtain ⟨b, hb⟩ : ∃ b, rightN n x = b := ⟨_, rfl⟩
  rw [hb] at KR ⊢
  have HB := Lib.hid hb0
  clear hb ih hb0 hC hl
  unfold xv at KR ⊢
  go_enter Tryd.func41, Tryd.ntmps41
  go_wp2_with fail
  refine KR.out.mono ?_
  rintro e w1 ⟨rfl, hb1⟩
  go_wp2_with fail
  go_ret
  exact ⟨rfl, HB.out.trans (hb1.mono HB.out.size)⟩

theorem two_new (w : World) (x : S24) (A : Option Addr) (c : Nat) (n : Int) : Below w.heap.size w ((w.alloc (.cells #[.string x.f0, .string x.f1, .slice A x.f2.length c] 24)).alloc (.cells #[.int .i64 n] 3)) :=
  ((Below.refl _ w).alloc (Nat.le_refl _) _).alloc (by simp) _

set_option maxRecDepth 100000 in
set_option maxHeartbeats 2000000 in
theorem right_tag (n : Nat) (x : S24) (A : Option Addr) (c : Nat) (w : World) (h : x.f0.toList = []) : Calls Tryd.prog 28 #[xv x A c, .int .i64 n] w (Out w.heap.size w (.bool (rightN n x))) := by
  have KT := Lib.hid (tagged_any x.f1)
  have HB := Lib.hid (two_new w x A c n)
  obtain ⟨R, hR⟩ : ∃ R, rightN n x = R := ⟨_, rfl⟩
  rw [hR]
  unfold xv
  cases n with
  | zero =>
    obtain rfl : R = false := hR.symm
    go_enter Tryd.func28, Tryd.ntmps28
    go_wp2_with fail
    go_ret
    exact ⟨rfl, HB.out⟩
  | succ n =>
    have hv : (allB mayN x.f1.data.toList && decide (x.f2.length = 0)) = R := by rw [← hR, rightN, if_pos h]
    have hn : (0 : Int) < ((n + 1 : Nat) : Int) := by omega
    clear hR
    obtain ⟨b, hb⟩ : ∃ b, allB mayN x.f1.data.toList = b := ⟨_, rfl⟩
    rw [hb] at KT hv
    by_cases hk : x.f2.length = 0
    · rw [decide_eq_true hk, Bool.and_true] at hv
      have hk2 : (x.f2.length : Int) = 0 := by omega
      subst hv
      clear hb hk
      cases b
      · go_enter Tryd.func28, Tryd.ntmps28
        go_wp2_with fail
        refine (KT.out _).mono ?_
        rintro e w1 ⟨rfl, hb1⟩
        go_wp2_with fail
        go_ret
        exact ⟨rfl, HB.out.trans (hb1.mono HB.out.size)⟩
      · go_enter Tryd.func28, Tryd.ntmps28
        go_wp2_with fail
        refine (KT.out _).mono ?_
        rintro e w1 ⟨rfl, hb1⟩
        have c2 := keeps_cell hb1 (show ((w.alloc (.cells #[.string x.f0, .string x.f1, .slice A x.f2.length c] 24)).alloc (.cells #[.int .i64 ((n : Int) + 1)] 3)).cell? ⟨w.heap.size, 2, none⟩ = some (.slice A x.f2.length c) from new_cell (by simp [go_sem]) _)
        go_wp2_with fail
        go_ret
        exact ⟨rfl, HB.out.trans (hb1.mono HB.out.size)⟩
    · rw [decide_eq_false hk, Bool.and_false] at hv
      have hk2 : ¬ (x.f2.length : Int) = 0 := by omega
      subst hv
      clear hb hk
      cases b
      · go_enter Tryd.func28, Tryd.ntmps28
        go_wp2_with fail
        refine (KT.out _).mono ?_
        rintro e w1 ⟨rfl, hb1⟩
        go_wp2_with fail
        go_ret
        exact ⟨rfl, HB.out.trans (hb1.mono HB.out.size)⟩
      · go_enter Tryd.func28, Tryd.ntmps28
        go_wp2_with fail
        refine (KT.out _).mono ?_
        rintro e w1 ⟨rfl, hb1⟩
        have c2 := keeps_cell hb1 (show ((w.alloc (.cells #[.string x.f0, .string x.f1, .slice A x.f2.length c] 24)).alloc (.cells #[.int .i64 ((n : Int) + 1)] 3)).cell? ⟨w.heap.size, 2, none⟩ = some (.slice A x.f2.length c) from new_cell (by simp [go_sem]) _)
        go_wp2_with fail
        go_ret
        exact ⟨by show Ending.returned (Value.bool ((x.f2.length : Int) == 0)) = _; rw [show ((x.f2.length : Int) == 0) = false by simpa using hk2], HB.out.trans (hb1.mono HB.out.size)⟩

set_option maxRecDepth 100000 in
set_option maxHeartbeats 2000000 in
theorem right_odd (n : Nat) (x : S24) (A : Option Addr) (c : Nat) (w : World) (h0 : ¬ x.f0.toList = []) (h1 : ¬ x.f0.toList = [33]) (h2 : ¬ x.f0.toList = [38, 38]) (h3 : ¬ x.f0.toList = [124, 124]) : Calls Tryd.prog 28 #[xv x A c, .int .i64 n] w (Out w.heap.size w (.bool (rightN n x))) := by
  have HB := Lib.hid (two_new w x A c n)
  have hR : rightN n x = false := by
    cases n with
    | zero => rfl
    | succ n => rw [rightN, if_neg h0, if_neg h1, if_neg (by rintro (h | h); exact h2 h; exact h3 h)]
  rw [hR]
  unfold xv
  have e0 : (x.f0.toList == []) = false := by simpa using h0
  have e1 : (x.f0.toList == [33]) = false := by simpa using h1
  have e2 : (x.f0.toList == [38, 38]) = false := by simpa using h2
  have e3 : (x.f0.toList == [124, 124]) = false := by simpa using h3
  clear hR
  go_enter Tryd.func28, Tryd.ntmps28
  go_wp2_with fail
  go_ret
  exact ⟨rfl, HB.out⟩

set_option maxRecDepth 100000 in
set_option maxHeartbeats 4000000 in
theorem right_not (n : Nat) (hn : n ≤ 100) (ih : ∀ m, n = m + 1 → RightAt m) (x : S24) (A : Option Addr) (c : Nat) (w : World) (hc : x.f2.length ≤ c) (hC : Kd.C k24 w A x.f2.length x.f2) (h : x.f0.toList = [33]) : Calls Tryd.prog 28 #[xv x A c, .int .i64 n] w (Out w.heap.size w (.bool (rightN n x))) := by
  have HB := Lib.hid (two_new w x A c n)
  obtain ⟨R, hR⟩ : ∃ R, rightN n x = R := ⟨_, rfl⟩
  rw [hR]
  by_cases hk : x.f2.length = 1
  · have hk2 : (x.f2.length : Int) = 1 := by omega
    cases n with
    | zero =>
      obtain rfl : R = false := hR.symm
      clear hk hC ih
      unfold xv
      go_enter Tryd.func28, Tryd.ntmps28
      go_wp2_with fail
      go_ret
      exact ⟨rfl, HB.out⟩
    | succ n =>
      have hn0 : (0 : Int) < ((n + 1 : Nat) : Int) := by omega
      have hv : (decide (x.f1.toList = []) && !(x.f2.any fun k => !rightN n k)) = R := by
        rw [← hR]
        rw [rightN, if_neg (by rw [h]; decide), if_pos h]
        rw [decide_eq_true hk, Bool.true_and]
      clear hR
      by_cases ht : x.f1.toList = []
      · rw [decide_eq_true ht, Bool.true_and] at hv
        have hc1 : ((w.alloc (.cells #[.string x.f0, .string x.f1, .slice A x.f2.length c] 24)).alloc (.cells #[.int .i64 ((n : Int) + 1)] 3)).cell? ⟨w.heap.size + 1, 0, none⟩ = some (.int .i64 ((n : Int) + 1)) := by simp [go_sem]
        have hB := two_new w x A c ((n : Int) + 1)
        have hCl := contains_any 41 #[.pointer (some ⟨w.heap.size + 1, 0, none⟩)] (fun k => !rightN n k) x.f2 A c ((w.alloc (.cells #[.string x.f0, .string x.f1, .slice A x.f2.length c] 24)).alloc (.cells #[.int .i64 ((n : Int) + 1)] 3)) (Kd.C_below hC hB) hc (enters_of Tryd.func41 (by kernel_rfl) rfl) (fun y _ W hW A2 c2 hc2 hC2 => right_kid n (by omega) (ih n rfl) _ y A2 c2 W (keeps_cell hW hc1) hc2 hC2)
        have KC := Lib.hid hCl
        have hmf : ∀ (fn : Fn) (first cap : Array Value) (w : World), (Instr.makeFunc fn first cap).run Tryd.prog w = .ok (.func fn first cap) w := fun _ _ _ _ => rfl
        obtain ⟨b, hb⟩ : ∃ b, (x.f2.any fun k => !rightN n k) = b := ⟨_, rfl⟩
        rw [hb] at hv KC
        subst hv
        clear hb hk hC ih hc1 hB hCl
        unfold xv
        go_enter Tryd.func28, Tryd.ntmps28
        go_wp2_with fail
        refine KC.out.mono ?_
        rintro e w1 ⟨rfl, hb1⟩
        go_wp2_with fail
        go_ret
        exact ⟨rfl, HB.out.trans (hb1.mono HB.out.size)⟩
      · have e1 : (x.f1.toList == []) = false := by simpa using ht
        rw [decide_eq_false ht, Bool.false_and] at hv
        subst hv
        clear hk hC ih ht
        unfold xv
        go_enter Tryd.func28, Tryd.ntmps28
        go_wp2_with fail
        go_ret
        exact ⟨rfl, HB.out⟩
  · have hk2 : ¬ (x.f2.length : Int) = 1 := by omega
    obtain rfl : R = false := by
      rw [← hR]
      cases n with
      | zero => rfl
      | succ n =>
        rw [rightN, if_neg (by rw [h]; decide), if_pos h]
        rw [decide_eq_false hk, Bool.false_and]
    clear hk hC ih
    unfold xv
    go_enter Tryd.func28, Tryd.ntmps28
    go_wp2_with fail
    go_ret
    exact ⟨rfl, HB.out⟩

set_option maxRecDepth 100000 in
set_option maxHeartbeats 4000000 in
theorem right_and (n : Nat) (hn : n ≤ 100) (ih : ∀ m, n = m + 1 → RightAt m) (x : S24) (A : Option Addr) (c : Nat) (w : World) (hc : x.f2.length ≤ c) (hC : Kd.C k24 w A x.f2.length x.f2) (h : x.f0.toList = [38, 38]) : Calls Tryd.prog 28 #[xv x A c, .int .i64 n] w (Out w.heap.size w (.bool (rightN n x))) := by
  have HB := Lib.hid (two_new w x A c n)
  obtain ⟨R, hR⟩ : ∃ R, rightN n x = R := ⟨_, rfl⟩
  rw [hR]
  by_cases hk : 2 ≤ x.f2.length
  · have hk2 : ¬ (x.f2.length : Int) < 2 := by omega
    cases n with
    | zero =>
      obtain rfl : R = false := hR.symm
      clear hk hC ih
      unfold xv
      go_enter Tryd.func28, Tryd.ntmps28
      go_wp2_with fail
      go_ret
      exact ⟨rfl, HB.out⟩
    | succ n =>
      have hn0 : (0 : Int) < ((n + 1 : Nat) : Int) := by omega
      have hv : (decide (x.f1.toList = []) && !(x.f2.any fun k => !rightN n k)) = R := by
        rw [← hR]
        rw [rightN, if_neg (by rw [h]; decide), if_neg (by rw [h]; decide), if_pos (.inl h)]
        rw [decide_eq_true hk, Bool.true_and]
      clear hR
      by_cases ht : x.f1.toList = []
      · rw [decide_eq_true ht, Bool.true_and] at hv
        have hc1 : ((w.alloc (.cells #[.string x.f0, .string x.f1, .slice A x.f2.length c] 24)).alloc (.cells #[.int .i64 ((n : Int) + 1)] 3)).cell? ⟨w.heap.size + 1, 0, none⟩ = some (.int .i64 ((n : Int) + 1)) := by simp [go_sem]
        have hB := two_new w x A c ((n : Int) + 1)
        have hCl := contains_any 41 #[.pointer (some ⟨w.heap.size + 1, 0, none⟩)] (fun k => !rightN n k) x.f2 A c ((w.alloc (.cells #[.string x.f0, .string x.f1, .slice A x.f2.length c] 24)).alloc (.cells #[.int .i64 ((n : Int) + 1)] 3)) (Kd.C_below hC hB) hc (enters_of Tryd.func41 (by kernel_rfl) rfl) (fun y _ W hW A2 c2 hc2 hC2 => right_kid n (by omega) (ih n rfl) _ y A2 c2 W (keeps_cell hW hc1) hc2 hC2)
        have KC := Lib.hid hCl
        have hmf : ∀ (fn : Fn) (first cap : Array Value) (w : World), (Instr.makeFunc fn first cap).run Tryd.prog w = .ok (.func fn first cap) w := fun _ _ _ _ => rfl
        obtain ⟨b, hb⟩ : ∃ b, (x.f2.any fun k => !rightN n k) = b := ⟨_, rfl⟩
        rw [hb] at hv KC
        subst hv
        clear hb hk hC ih hc1 hB hCl
        unfold xv
        go_enter Tryd.func28, Tryd.ntmps28
        go_wp2_with fail
        refine KC.out.mono ?_
        rintro e w1 ⟨rfl, hb1⟩
        go_wp2_with fail
        go_ret
        exact ⟨rfl, HB.out.trans (hb1.mono HB.out.size)⟩
      · have e1 : (x.f1.toList == []) = false := by simpa using ht
        rw [decide_eq_false ht, Bool.false_and] at hv
        subst hv
        clear hk hC ih ht
        unfold xv
        go_enter Tryd.func28, Tryd.ntmps28
        go_wp2_with fail
        go_ret
        exact ⟨rfl, HB.out⟩
  · have hk2 : (x.f2.length : Int) < 2 := by omega
    obtain rfl : R = false := by
      rw [← hR]
      cases n with
      | zero => rfl
      | succ n =>
        rw [rightN, if_neg (by rw [h]; decide), if_neg (by rw [h]; decide), if_pos (.inl h)]
        rw [decide_eq_false hk, Bool.false_and]
    clear hk hC ih
    unfold xv
    go_enter Tryd.func28, Tryd.ntmps28
    go_wp2_with fail
    go_ret
    exact ⟨rfl, HB.out⟩

set_option maxRecDepth 100000 in
set_option maxHeartbeats 4000000 in
theorem right_or (n : Nat) (hn : n ≤ 100) (ih : ∀ m, n = m + 1 → RightAt m) (x : S24) (A : Option Addr) (c : Nat) (w : World) (hc : x.f2.length ≤ c) (hC : Kd.C k24 w A x.f2.length x.f2) (h : x.f0.toList = [124, 124]) : Calls Tryd.prog 28 #[xv x A c, .int .i64 n] w (Out w.heap.size w (.bool (rightN n x))) := by
  have HB := Lib.hid (two_new w x A c n)
  obtain ⟨R, hR⟩ : ∃ R, rightN n x = R := ⟨_, rfl⟩
  rw [hR]
  by_cases hk : 2 ≤ x.f2.length
  · have hk2 : ¬ (x.f2.length : Int) < 2 := by omega
    cases n with
    | zero =>
      obtain rfl : R = false := hR.symm
      clear hk hC ih
      unfold xv
      go_enter Tryd.func28, Tryd.ntmps28
      go_wp2_with fail
      go_ret
      exact ⟨rfl, HB.out⟩
    | succ n =>
      have hn0 : (0 : Int) < ((n + 1 : Nat) : Int) := by omega
      have hv : (decide (x.f1.toList = []) && !(x.f2.any fun k => !rightN n k)) = R := by
        rw [← hR]
        rw [rightN, if_neg (by rw [h]; decide), if_neg (by rw [h]; decide), if_pos (.inr h)]
        rw [decide_eq_true hk, Bool.true_and]
      clear hR
      by_cases ht : x.f1.toList = []
      · rw [decide_eq_true ht, Bool.true_and] at hv
        have hc1 : ((w.alloc (.cells #[.string x.f0, .string x.f1, .slice A x.f2.length c] 24)).alloc (.cells #[.int .i64 ((n : Int) + 1)] 3)).cell? ⟨w.heap.size + 1, 0, none⟩ = some (.int .i64 ((n : Int) + 1)) := by simp [go_sem]
        have hB := two_new w x A c ((n : Int) + 1)
        have hCl := contains_any 41 #[.pointer (some ⟨w.heap.size + 1, 0, none⟩)] (fun k => !rightN n k) x.f2 A c ((w.alloc (.cells #[.string x.f0, .string x.f1, .slice A x.f2.length c] 24)).alloc (.cells #[.int .i64 ((n : Int) + 1)] 3)) (Kd.C_below hC hB) hc (enters_of Tryd.func41 (by kernel_rfl) rfl) (fun y _ W hW A2 c2 hc2 hC2 => right_kid n (by omega) (ih n rfl) _ y A2 c2 W (keeps_cell hW hc1) hc2 hC2)
        have KC := Lib.hid hCl
        have hmf : ∀ (fn : Fn) (first cap : Array Value) (w : World), (Instr.makeFunc fn first cap).run Tryd.prog w = .ok (.func fn first cap) w := fun _ _ _ _ => rfl
        obtain ⟨b, hb⟩ : ∃ b, (x.f2.any fun k => !rightN n k) = b := ⟨_, rfl⟩
        rw [hb] at hv KC
        subst hv
        clear hb hk hC ih hc1 hB hCl
        unfold xv
        go_enter Tryd.func28, Tryd.ntmps28
        go_wp2_with fail
        refine KC.out.mono ?_
        rintro e w1 ⟨rfl, hb1⟩
        go_wp2_with fail
        go_ret
        exact ⟨rfl, HB.out.trans (hb1.mono HB.out.size)⟩
      · have e1 : (x.f1.toList == []) = false := by simpa using ht
        rw [decide_eq_false ht, Bool.false_and] at hv
        subst hv
        clear hk hC ih ht
        unfold xv
        go_enter Tryd.func28, Tryd.ntmps28
        go_wp2_with fail
        go_ret
        exact ⟨rfl, HB.out⟩
  · have hk2 : (x.f2.length : Int) < 2 := by omega
    obtain rfl : R = false := by
      rw [← hR]
      cases n with
      | zero => rfl
      | succ n =>
        rw [rightN, if_neg (by rw [h]; decide), if_neg (by rw [h]; decide), if_pos (.inr h)]
        rw [decide_eq_false hk, Bool.false_and]
    clear hk hC ih
    unfold xv
    go_enter Tryd.func28, Tryd.ntmps28
    go_wp2_with fail
    go_ret
    exact ⟨rfl, HB.out⟩

theorem right_any : ∀ n : Nat, n ≤ 100 → RightAt n := by
  intro n
  induction n with
  | zero =>
    intro hn x A c w hc hC
    by_cases h0 : x.f0.toList = []
    · exact right_tag 0 x A c w h0
    · by_cases h1 : x.f0.toList = [33]
      · exact right_not 0 hn (fun m h => by omega) x A c w hc hC h1
      · by_cases h2 : x.f0.toList = [38, 38]
        · exact right_and 0 hn (fun m h => by omega) x A c w hc hC h2
        · by_cases h3 : x.f0.toList = [124, 124]
          · exact right_or 0 hn (fun m h => by omega) x A c w hc hC h3
          · exact right_odd 0 x A c w h0 h1 h2 h3
  | succ n ih =>
    intro hn x A c w hc hC
    have ihn : ∀ m, n + 1 = m + 1 → RightAt m := fun m h => by
      obtain rfl : n = m := by omega
      exact ih (by omega)
    by_cases h0 : x.f0.toList = []
    · exact right_tag (n + 1) x A c w h0
    · by_cases h1 : x.f0.toList = [33]
      · exact right_not (n + 1) hn ihn x A c w hc hC h1
      · by_cases h2 : x.f0.toList = [38, 38]
        · exact right_and (n + 1) hn ihn x A c w hc hC h2
        · by_cases h3 : x.f0.toList = [124, 124]
          · exact right_or (n + 1) hn ihn x A c w hc hC h3
          · exact right_odd (n + 1) x A c w h0 h1 h2 h3

/-- tag.Right. -/
theorem Right_any (x : S24) (A : Option Addr) (c : Nat) (w : World) (hc : x.f2.length ≤ c) (hC : Kd.C k24 w A x.f2.length x.f2) : Calls Tryd.prog 11 #[xv x A c] w (Out w.heap.size w (.bool (rightN 100 x))) := by
  have hb0 : Below w.heap.size w (w.alloc (.cells #[.string x.f0, .string x.f1, .slice A x.f2.length c] 24)) := (Below.refl _ w).alloc (Nat.le_refl _) _
  have hk : Calls Tryd.prog 28 #[xv x A c, .int .i64 100] (w.alloc (.cells #[.string x.f0, .string x.f1, .slice A x.f2.length c] 24)) (Out (w.alloc (.cells #[.string x.f0, .string x.f1, .slice A x.f2.length c] 24)).heap.size (w.alloc (.cells #[.string x.f0, .string x.f1, .slice A x.f2.length c] 24)) (.bool (rightN 100 x))) := right_any 100 (by decide) x A c _ hc (Kd.C_below hC hb0)
  have KR := Lib.hid hk
  have HB := Lib.hid hb0
  clear hC hk hb0
  unfold xv at KR ⊢
  go_enter Tryd.func11, Tryd.ntmps11
  go_wp2_with fail
  refine KR.out.mono ?_
  rintro e w1 ⟨rfl, hb1⟩
  go_wp2_with fail
  go_ret
  exact ⟨rfl, HB.out.trans (hb1.mono HB.out.size)⟩

end Go.Proofs.YtheiakdlhpccaaaDoor
