/- Walks through added and taken of package big: the sum and the difference of amounts, digit by digit. -/
import Derived.Test.YtjfmefdhfboliaaDoorWa
import Derived.Deep.LoopGhost
import Derived.Lib.Hide
import Derived.WalkSpells
namespace Go.Proofs.YtjfmefdhfboliaaDoor
open Go.RowKit Num

theorem Tryd.info3 : (Tryd.prog.info? 3).map (fun i => (i.zero, i.size, i.bytes)) = some (some (.int .i64 0), 1, 8) := by kernel_rfl

/-- A row of digits handed over, in memory of the call's own; nothing old has turned. -/
def GivesDigs (w : World) (zs : List Int) (e : Ending) (w' : World) : Prop := ∃ v, e = .returned v ∧ Digs w' v zs ∧ Below w.heap.size w w'

/-- A row of digits comes, in a block of the call's own. -/
def GivesNew (w : World) (zs : List Int) (e : Ending) (w' : World) : Prop := ∃ v, e = .returned v ∧ Digs w' v zs ∧ (∀ b, v.ownBlock = some b → w.heap.size ≤ b) ∧ Below w.heap.size w w'
theorem GivesNew.digs {w w' : World} {zs : List Int} {e : Ending} (h : GivesNew w zs e w') : GivesDigs w zs e w' := by
  obtain ⟨v, h1, h2, _, h4⟩ := h
  exact ⟨v, h1, h2, h4⟩

theorem rel_snoc {w1 : World} {base : Nat} {v' : Value} {k : Nat} {zs : List Int} {d : Int} (h : w1.ownsRow base 3 1 v' (k + 1) (zs.map (Value.int .i64) ++ [.int .i64 d])) :
    w1.ownsRow base 3 1 v' (k + 1) ((zs ++ [d]).map (Value.int .i64)) := by rw [List.map_append]; exact h

set_option maxRecDepth 100000 in
set_option maxHeartbeats 1000000 in
theorem added_any (a b : List Int) (ha : Dig a) (hb : Dig b) (A B : Option Addr) (ca cb : Nat) (w : World) (hA : Digs w (.slice A a.length ca) a) (hB : Digs w (.slice B b.length cb) b) (la : a.length ≤ 1000000) (lb : b.length ≤ 1000000) :
    Calls Tryd.prog 46 #[.slice A a.length ca, .slice B b.length cb] w (GivesDigs w (addL a b)) := by
  obtain ⟨i0, hi, hz0, hz1, hz2⟩ := info_parts Tryd.info3
  obtain ⟨N, hN⟩ : ∃ N, N = max a.length b.length + 1 := ⟨_, rfl⟩
  have hout : (addTo a b N).1 = addL a b := by rw [hN]; rfl
  have HO := Lib.hid hout
  have h1 : a.length + 1 ≤ N := by omega
  have h2 : b.length + 1 ≤ N := by omega
  have h3 : N ≤ a.length + 1 ∨ N ≤ b.length + 1 := by omega
  have hNb : N ≤ 1000001 := by omega
  clear hN hout
  go_enter Tryd.func46, Tryd.ntmps46
  go_wp2
  all_goals
    first | have h4 : N ≤ a.length + 1 := by omega | have h4 : N ≤ b.length + 1 := by omega
    clear h3
    go_loopg [5, 6, 15] N (fun gk v c i wr => ∃ k : Nat, k ≤ N ∧ gk = N - k ∧ i = .int .i64 k ∧ c = .int .i64 (addTo a b k).2 ∧ wr.ownsRow w.heap.size 3 1 v k ((addTo a b k).1.map (Value.int .i64)) ∧ Below w.heap.size w wr)
    case atStart => exact ⟨0, Nat.zero_le _, rfl, rfl, rfl, World.ownsRow_nil _ _ _ _, Below.refl _ _⟩
    case round =>
      obtain ⟨k, hk, rfl, rfl, rfl, hown, hnx⟩ := hrel
      have hAr := hA.below hnx
      have hBr := hB.below hnx
      obtain ⟨i1, _, i3, i4, _⟩ := addTo_inv ha hb k
      have da := D_dig ha k
      have db := D_dig hb k
      by_cases hlt : k < N
      · have hstep : addTo a b (k + 1) = ((addTo a b k).1 ++ [(D a k + D b k + (addTo a b k).2) % 1000000000], (D a k + D b k + (addTo a b k).2) / 1000000000) := rfl
        have HST := Lib.hid hstep
        have hsz := hnx.size
        clear hstep i1
        generalize addTo a b k = r at *
        obtain ⟨out, cy⟩ := r
        generalize hx : D a k = x at *
        generalize hy : D b k = y at *
        have HX := Lib.hid hx
        have HY := Lib.hid hy
        clear hx hy
        dsimp only at *
        go_wp2_with fail
        refine (digit_any A ca a k _ (by omega) hAr).mono ?_
        rintro e w' ⟨rfl, rfl⟩
        rw [HX.out]
        go_wp2_with fail
        refine (digit_any B cb b k _ (by omega) hBr).mono ?_
        rintro e w' ⟨rfl, rfl⟩
        rw [HY.out]
        go_wp2_with (at_builtin; refine wpList_append_own _ rfl _ _ 41 rfl w.heap.size 3 i0 (.int .i64 0) 1 8 Tryd.underlying41 hi hz0 hz1 hz2 rfl (by decide) _ _ _ rfl (hown.alloc _) ⟨wr.heap.size, 0, none⟩ 1 1 [.int .i64 ((x + y + cy) % 1000000000)] rfl rfl (cell_one_new _ _ _) (by simp [Value.oneCell']) (by unfold maxLen; omega) (by omega) (by simp; omega) ?_; intro v' w1 hown' hgrow _)
        have hg : (wr.alloc (.cells #[.int .i64 ((x + y + cy) % 1000000000)] 3)).grownBy w1 u5.ownBlock := hgrow
        have hb1 := (hnx.alloc hnx.size _).grown hg (by simp; omega) (fun j e => (hown.lt j e).1)
        go_roundg (N - (k + 1))
        case measure => omega
        case rel => exact ⟨k + 1, by omega, rfl, by go_num, by rw [HST.out], by rw [HST.out]; exact rel_snoc hown', hb1⟩
      · obtain rfl : k = N := by omega
        rw [HO.out] at hown
        clear hA hB hAr hBr HO
        go_wp2
        go_ret
        exact ⟨_, rfl, Digs.of_own hown, hnx⟩

set_option maxRecDepth 100000 in
set_option maxHeartbeats 1000000 in
theorem taken_new (a b : List Int) (ha : Dig a) (hb : Dig b) (A B : Option Addr) (ca cb : Nat) (w : World) (hA : Digs w (.slice A a.length ca) a) (hB : Digs w (.slice B b.length cb) b) (la : a.length ≤ 1000000) :
    Calls Tryd.prog 47 #[.slice A a.length ca, .slice B b.length cb] w (GivesNew w (takeL a b)) := by
  obtain ⟨i0, hi, hz0, hz1, hz2⟩ := info_parts Tryd.info3
  have HO : Hid ((takeTo a b a.length).1 = takeL a b) := rfl
  obtain ⟨A', cap, e, h1, h2, _, _, h3⟩ := hA.form
  cases e
  unfold maxLen at h2
  go_enter Tryd.func47, Tryd.ntmps47
  go_wp2
  go_loopg [5, 6, 12] a.length (fun gk v c i wr => ∃ k : Nat, k ≤ a.length ∧ gk = a.length - k ∧ i = .int .i64 k ∧ c = .int .i64 (takeTo a b k).2 ∧ wr.ownsRow w.heap.size 3 1 v k ((takeTo a b k).1.map (Value.int .i64)) ∧ Below w.heap.size w wr)
  case atStart => exact ⟨0, Nat.zero_le _, rfl, rfl, rfl, World.ownsRow_nil _ _ _ _, Below.refl _ _⟩
  case round =>
    obtain ⟨k, hk, rfl, rfl, rfl, hown, hnx⟩ := hrel
    have hBr := hB.below hnx
    obtain ⟨i1, _, i3, i4, _⟩ := takeTo_inv ha hb k
    have da := D_dig ha k
    have db := D_dig hb k
    by_cases hlt : k < a.length
    · obtain ⟨g, rfl, hg, hc⟩ := h3 k hlt
      have hcr : wr.cell? ⟨g, k, none⟩ = some (.int .i64 (D a k)) := (hnx.cell (p := ⟨g, k, none⟩) hg).trans hc
      have hstep : takeTo a b (k + 1) = if D a k - D b k - (takeTo a b k).2 < 0 then ((takeTo a b k).1 ++ [D a k - D b k - (takeTo a b k).2 + 1000000000], 1)
        else ((takeTo a b k).1 ++ [D a k - D b k - (takeTo a b k).2], 0) := rfl
      have HST := Lib.hid hstep
      have hsz := hnx.size
      clear hstep i1 h3 hc hA
      generalize takeTo a b k = r at *
      obtain ⟨out, cy⟩ := r
      generalize D a k = x at *
      generalize hy : D b k = y at *
      have HY := Lib.hid hy
      clear hy
      dsimp only at *
      by_cases hneg : x - y - cy < 0
      · have hst : takeTo a b (k + 1) = (out ++ [x - y - cy + 1000000000], 1) := by rw [HST.out, if_pos hneg]
        have HS := Lib.hid hst
        clear hst HST
        go_wp2_with fail
        refine (digit_any B cb b k _ (by omega) hBr).mono ?_
        rintro e w' ⟨rfl, rfl⟩
        rw [HY.out]
        go_wp2_with (at_builtin; refine wpList_append_own _ rfl _ _ 41 rfl w.heap.size 3 i0 (.int .i64 0) 1 8 Tryd.underlying41 hi hz0 hz1 hz2 rfl (by decide) _ _ _ rfl (hown.alloc _) ⟨wr.heap.size, 0, none⟩ 1 1 [.int .i64 (x - y - cy + 1000000000)] rfl rfl (cell_one_new _ _ _) (by simp [Value.oneCell']) (by unfold maxLen; omega) (by omega) (by simp; omega) ?_; intro v' w1 hown' hgrow _)
        have hg : (wr.alloc (.cells #[.int .i64 (x - y - cy + 1000000000)] 3)).grownBy w1 u5.ownBlock := hgrow
        have hb1 := (hnx.alloc hnx.size _).grown hg (by simp; omega) (fun j e => (hown.lt j e).1)
        go_roundg (a.length - (k + 1))
        case measure => omega
        case rel => exact ⟨k + 1, by omega, rfl, by go_num, by rw [HS.out], by rw [HS.out]; exact rel_snoc hown', hb1⟩
      · have hst : takeTo a b (k + 1) = (out ++ [x - y - cy], 0) := by rw [HST.out, if_neg hneg]
        have HS := Lib.hid hst
        clear hst HST
        go_wp2_with fail
        refine (digit_any B cb b k _ (by omega) hBr).mono ?_
        rintro e w' ⟨rfl, rfl⟩
        rw [HY.out]
        go_wp2_with (at_builtin; refine wpList_append_own _ rfl _ _ 41 rfl w.heap.size 3 i0 (.int .i64 0) 1 8 Tryd.underlying41 hi hz0 hz1 hz2 rfl (by decide) _ _ _ rfl (hown.alloc _) ⟨wr.heap.size, 0, none⟩ 1 1 [.int .i64 (x - y - cy)] rfl rfl (cell_one_new _ _ _) (by simp [Value.oneCell']) (by unfold maxLen; omega) (by omega) (by simp; omega) ?_; intro v' w1 hown' hgrow _)
        have hg : (wr.alloc (.cells #[.int .i64 (x - y - cy)] 3)).grownBy w1 u5.ownBlock := hgrow
        have hb1 := (hnx.alloc hnx.size _).grown hg (by simp; omega) (fun j e => (hown.lt j e).1)
        go_roundg (a.length - (k + 1))
        case measure => omega
        case rel => exact ⟨k + 1, by omega, rfl, by go_num, by rw [HS.out], by rw [HS.out]; exact rel_snoc hown', hb1⟩
    · obtain rfl : k = a.length := by omega
      rw [HO.out] at hown
      clear hA hB hBr HO h3
      go_wp2
      go_ret
      exact ⟨_, rfl, Digs.of_own hown, fun b e => (hown.lt b e).1, hnx⟩

theorem taken_any (a b : List Int) (ha : Dig a) (hb : Dig b) (A B : Option Addr) (ca cb : Nat) (w : World) (hA : Digs w (.slice A a.length ca) a) (hB : Digs w (.slice B b.length cb) b) (la : a.length ≤ 1000000) :
    Calls Tryd.prog 47 #[.slice A a.length ca, .slice B b.length cb] w (GivesDigs w (takeL a b)) := (taken_new a b ha hb A B ca cb w hA hB la).mono fun _ _ h => h.digs

end Go.Proofs.YtjfmefdhfboliaaDoor
