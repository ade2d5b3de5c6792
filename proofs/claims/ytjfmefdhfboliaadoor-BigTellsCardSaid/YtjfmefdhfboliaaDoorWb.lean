/- Walks through slices.Backward at ints, its loop, and through against of package big: how two amounts compare. -/
import Derived.RangeFuncNested
import Derived.RangeFuncBound
import Derived.RangeFuncCalls
import Derived.RangeFuncLeaves
import Derived.RangeFuncBox
import Derived.Shelf.Abstract
import Derived.Shelf.RegionOpen
import Derived.WalkKit
import Derived.OwnWalkIn
import Derived.TacticsInMore
import Derived.LoopNIn
import Derived.LoopIn
import Derived.Test.YtjfmefdhfboliaaDoorWa
import Derived.Test.YtjfmefdhfboliaaDoorSeq
namespace Go.Proofs.YtjfmefdhfboliaaDoor
open Go.RowKit Go.Shelf Num

attribute [local go_sem] Oper.semAt_some

/-- Round k of a walk from the end: the place and its digit. -/
def backs (zs : List Int) (k : Nat) : Array Value := #[.int .i64 ((zs.length - 1 - k : Nat) : Int), .int .i64 (D zs (zs.length - 1 - k))]

/-- The slice value sv holds the ints zs, in a block below n₀; or there are none. -/
def IntsAt (n₀ : Nat) (W : World) (sv : Value) (zs : List Int) : Prop :=
  ∃ A cap, sv = .slice A zs.length cap ∧ zs.length ≤ cap ∧ cap ≤ 9223372036854775807 ∧ ∀ j, j < zs.length → ∃ g, A = some ⟨g, 0, none⟩ ∧ g < n₀ ∧ W.cell? ⟨g, j, none⟩ = some (.int .i64 (D zs j))
theorem IntsAt.below {n₀ : Nat} {A B : World} (h : Below n₀ A B) {sv : Value} {zs : List Int} : IntsAt n₀ A sv zs → IntsAt n₀ B sv zs
  | ⟨a, c, e, h1, h2, h3⟩ => ⟨a, c, e, h1, h2, fun j hj => by
    obtain ⟨g, e1, e2, e3⟩ := h3 j hj
    exact ⟨g, e1, e2, (h.cell (p := ⟨g, j, none⟩) e2).trans e3⟩⟩
theorem Digs.ints {w : World} {v : Value} {zs : List Int} (h : Digs w v zs) : IntsAt w.heap.size w v zs := by
  obtain ⟨A, cap, e, h1, h2, _, _, h3⟩ := h.form
  exact ⟨A, cap, e, h1, by unfold maxLen at h2; omega, h3⟩

set_option maxRecDepth 100000 in
set_option maxHeartbeats 2000000 in
/-- slices.Backward's closure: for i := len(s)-1; i >= 0; i-- { if !yield(i, s[i]) { return } }. -/
theorem back1_in (F : Fence) (n : Nat) (h8 : F.fn 83) (hro : F.round = none) (hn : 1 ≤ n) (l Bs n₀ : Nat) (sv : Value) (zs : List Int) (J Jx : Nat → World → Prop)
    (hY : ∀ k W, J k W → k < zs.length → YieldAt F (n - 1) Tryd.prog l (backs zs k) W fun e W' =>
      (e = .returned (.bool true) ∧ J (k + 1) W' ∧ KeepBox n₀ Bs W W') ∨ (e = .returned (.bool false) ∧ Jx k W'))
    (W : World) (hB : W.cell? ⟨Bs, 0, none⟩ = some sv) (hI : IntsAt n₀ W sv zs) (h0 : J 0 W) :
    CallsIn F n Tryd.prog 83 #[.func (.yield l) #[] #[], .pointer (some ⟨Bs, 0, none⟩)] W fun e W' => (∃ v, e = .returned v) ∧ (J zs.length W' ∨ ∃ k, k < zs.length ∧ Jx k W') := by
  obtain ⟨A, cap, rfl, h1, h2, h3⟩ := hI
  refine callsIn_of_wp Tryd.func83 rfl h8 ?_ hro
  simp only [Tryd.ntmps83, List.size_toArray, List.length_cons, List.length_nil, Nat.reduceAdd, Nat.reduceSub, Array.replicate_succ, Array.replicate_zero, List.push_toArray, List.append_toArray, List.nil_append, List.cons_append]
  gi_wp2
  gi_loopw [3] (fun i wr => ∃ k : Nat, k ≤ zs.length ∧ i = .int .i64 ((zs.length : Int) - 1 - k) ∧ J k wr ∧ KeepBox n₀ Bs W wr)
    (fun i _ => (intOf i + 1).toNat)
  case atStart => exact ⟨0, Nat.zero_le _, by simp, h0, KeepBox.refl _ _ _⟩
  case round =>
    obtain ⟨k, hk, rfl, hJs, hnx⟩ := hrel
    by_cases hlt : k < zs.length
    · obtain ⟨g, rfl, hg, hc⟩ := h3 (zs.length - 1 - k) (by omega)
      have hcx : wr.cell? ⟨g, zs.length - 1 - k, none⟩ = some (.int .i64 (D zs (zs.length - 1 - k))) := (hnx.1.cell (p := ⟨g, zs.length - 1 - k, none⟩) hg).trans hc
      have hBx : wr.cell? ⟨Bs, 0, none⟩ = some (.slice (some ⟨g, 0, none⟩) zs.length cap) := hnx.cell.trans hB
      obtain ⟨fn, tmps, assign, body, hy, hR⟩ := hY _ wr hJs hlt
      dsimp only [backs] at hy
      obtain ⟨m, hm⟩ : ∃ m, zs.length - 1 - k = m := ⟨_, rfl⟩
      have hmi : (zs.length : Int) - 1 - k = (m : Int) := by omega
      have hml : m < zs.length := by omega
      have hmle : m + 1 ≤ cap := by omega
      have HM := Lib.hid hm
      rw [hm] at hcx hy
      rw [hmi]
      clear h3 hc hB hm hmi h1
      generalize D zs m = dm at *
      gi_wp2
      refine hR.mono ?_
      rintro e W3 (⟨rfl, hJ3, hk3⟩ | ⟨rfl, hJx3⟩)
      · gi_wp2
        go_roundw
        case rel => exact ⟨k + 1, by omega, by have := HM.out; congr 1; omega, hJ3, hnx.trans hk3⟩
        case measure => simp [intOf]
      · gi_wp2
        refine bodyPost_ret (results_none rfl _ _ _) rfl ?_
        exact ⟨⟨_, rfl⟩, .inr ⟨k, hlt, hJx3⟩⟩
    · obtain rfl : k = zs.length := by omega
      have e1 : (zs.length : Int) - 1 - zs.length = -1 := by omega
      rw [e1]
      clear e1
      gi_wp2
      go_end0
      exact ⟨⟨_, rfl⟩, .inl hJs⟩

set_option maxHeartbeats 1000000 in
/-- slices.Backward(s): the slice value is boxed; the function value captures the box. -/
theorem back_in (F : Fence) (n : Nat) (h6 : F.fn 64) (hro : F.round = none) (a : Option Addr) (len cap : Nat) (w : World) :
    CallsIn F n Tryd.prog 64 #[.slice a len cap] w fun e w' => e = .returned (.func (.func 83) #[] #[.pointer (some ⟨w.heap.size, 0, none⟩)]) ∧ w' = w.alloc (.cells #[.slice a len cap] 41) := by
  refine callsIn_of_wp Tryd.func64 rfl h6 ?_ hro
  simp only [Tryd.ntmps64, List.size_toArray, List.length_cons, List.length_nil, Nat.reduceAdd, Nat.reduceSub, Array.replicate_succ, Array.replicate_zero, List.push_toArray, List.append_toArray, List.nil_append, List.cons_append]
  gi_wp2
  go_ret
  exact ⟨rfl, rfl⟩

/-- What slices.Backward(s) hands back goes through s from its end. -/
theorem back_stops (F : Fence) (n : Nat) (h8 : F.fn 83) (hro : F.round = none) (hn : 1 ≤ n) (Bs n₀ : Nat) (sv : Value) (zs : List Int) (w : World) (hBs : Bs < w.heap.size) (hn₀ : n₀ ≤ w.heap.size)
    (hc : w.cell? ⟨Bs, 0, none⟩ = some sv) (hI : IntsAt n₀ w sv zs) :
    SeqIdx F n Tryd.prog 83 #[.pointer (some ⟨Bs, 0, none⟩)] (backs zs) (KeepBox n₀ Bs) (fun _ _ => False) zs.length w := fun l J Jx W hW _ _ hY h0 => by
  have hc' := (hW.cell (p := ⟨Bs, 0, none⟩) hBs).trans hc
  exact back1_in F n h8 hro hn l Bs n₀ sv zs J Jx hY W hc' (hI.below (hW.mono hn₀)) h0

/-- What is left of a number of the world once the rounds' calls' block is shut. -/
theorem below_shut {B : Nat} {w W : World} (h : Below B w W) {D : Nat} (hD : B ≤ D) {o : Obj} (hK : W.heap[D]? = some o) (_ho : o.isCells = false) (o' : Obj) : Below B w (W.putObj D o') :=
  h.grown (grownBy_putObj' W D o') (by have := (Array.getElem?_eq_some_iff.1 hK).1; omega) (fun k e => by cases e; exact hD)

/-- An amount's value handed over: an int, nothing old has turned. -/
def GivesInt (w : World) (n : Int) (e : Ending) (w' : World) : Prop := e = .returned (.int .i64 n) ∧ Below w.heap.size w w'


/-- The fence that asks nothing, behind a letter. -/
theorem wide_letter {P : Program} {f : FuncId} {args : Array Value} {w : World} {R : Ending → World → Prop}
    (h : ∀ (F : Fence), (∀ g, F.fn g) → F.round = none → F.depth = none → (∀ (m : Nat) (g : FuncId) (vs : Array Value) (W : World) (R1 : Ending → World → Prop), Calls P g vs W R1 → CallsIn F m P g vs W R1) → CallsIn F 9 P f args w R) : Calls P f args w R :=
  (callsIn_wide (n := 9)).1 (h Fence.wide (fun _ => trivial) rfl rfl fun _ _ _ _ _ hc => callsIn_wide.2 hc)

set_option maxRecDepth 100000 in
set_option maxHeartbeats 2000000 in
/-- against: two rows of digits of one length. -/
theorem against_same (a b : List Int) (ha : Dig a) (hb : Dig b) (hl : a.length = b.length) (A B : Option Addr) (ca cb : Nat) (w : World) (hA : IntsAt w.heap.size w (.slice A a.length ca) a) (hB : IntsAt w.heap.size w (.slice B b.length cb) b) :
    Calls Tryd.prog 44 #[.slice A a.length ca, .slice B b.length cb] w (GivesInt w (sgn (val a - val b))) := by
  refine wide_letter fun F hfn hro hdep up => ?_
  have f64 := hfn 64
  have f83 := hfn 83
  have f68 := hfn 68
  have f44 := hfn 44
  refine callsIn_of_wp_marks Tryd.func44 rfl f44 ?_ hro
  simp only [Tryd.ntmps44, List.size_toArray, List.length_cons, List.length_nil, Nat.reduceAdd, Nat.reduceSub, Array.replicate_succ, Array.replicate_zero, List.push_toArray, List.append_toArray, List.nil_append, List.cons_append]
  have hne : ((a.length : Int) != (b.length : Int)) = false := by simp [hl]
  have HL := Lib.hid hl
  have HS := Lib.hid (fun (k : Nat) (hk : k < a.length) => sgn_at ha hb hl hk)
  have HE := Lib.hid (fun h => same_all hl h)
  clear hfn hl
  gi_wp2_with (gi_at_call 64; refine (back_in F _ f64 hro _ _ _ _).mono ?_; rintro e w' ⟨rfl, rfl⟩)
  have bB := Boxed.new w 41 (.slice B b.length cb)
  have bR := Boxed.new (w.alloc (.cells #[.slice B b.length cb] 41)) 3 (.int .i64 0)
  have bN := Boxed.new ((w.alloc (.cells #[.slice B b.length cb] 41)).alloc (.cells #[.int .i64 0] 3)) 41 (.slice A a.length ca)
  rw [World.size_alloc] at bR
  rw [World.size_alloc, World.size_alloc] at bN
  have hB0 : Below w.heap.size w (((w.alloc (.cells #[.slice B b.length cb] 41)).alloc (.cells #[.int .i64 0] 3)).alloc (.cells #[.slice A a.length ca] 41)) := (((Below.refl _ w).alloc (Nat.le_refl _) _).alloc (by simp) _).alloc (by simp; omega) _
  refine wpIn_rangeFunc_idx hro (by omega) (gf := 83) (lb := #[.pointer (some ⟨w.heap.size + 1 + 1, 0, none⟩)]) rfl f83 (enters_of Tryd.func83 (by kernel_rfl) rfl)
    (back_stops F 8 f83 hro (by omega) (w.heap.size + 1 + 1) w.heap.size _ a _ (by simp) (by simp; omega) bN.cell (hA.below hB0)) (fun h k => h.trans k) (KeepBox.putObj (by simp; omega) (by simp)) (Below.refl _ _) (fun _ => rfl) (fun _ _ h => h.elim)
    (fun k W => ((∀ j, a.length - k ≤ j → j < a.length → D a j = D b j) ∧ W.cell? ⟨w.heap.size, 0, none⟩ = some (.slice B b.length cb) ∧ W.cell? ⟨w.heap.size + 1, 0, none⟩ = some (.int .i64 0) ∧ W.frozen? ⟨w.heap.size + 1, 0, none⟩ = false) ∧ Below w.heap.size w W)
    (fun c k W => (c = .ret ∧ W.cell? ⟨w.heap.size + 1, 0, none⟩ = some (.int .i64 (sgn (val a - val b)))) ∧ Below w.heap.size w W)
    (OwnFrom.and (Own.from (fun s A B row hs hg hr => ⟨hs.1, cell_kept hs.2.1 hg hr, cell_kept hs.2.2.1 hg hr, (frozen_kept hs.2.2.1 hg hr).trans hs.2.2.2⟩) _) (ownFrom_below (Nat.le_refl _) (by simp; omega)))
    (fun c => OwnFrom.and (Own.from (fun s A B row hs hg hr => ⟨hs.1, cell_kept hs.2 hg hr⟩) _) (ownFrom_below (Nat.le_refl _) (by simp; omega)))
    (fun _ _ _ _ h => h.elim) (fun _ _ _ _ _ h => h.elim)
    ⟨⟨fun j h1 h2 => by omega, (bB.alloc _ |>.alloc _).cell, (bR.alloc _).cell, (bR.alloc _).frozen⟩, hB0⟩
    (fun k => { tmps := #[.slice A a.length ca, .slice B b.length cb, undef, .pointer (some ⟨w.heap.size, 0, none⟩), .pointer (some ⟨w.heap.size + 1, 0, none⟩), .int .i64 ((a.length - 1 - k : Nat) : Int), .int .i64 (D a (a.length - 1 - k)), .slice A a.length ca, .int .i64 a.length, .slice B b.length cb, .int .i64 b.length, .bool false, undef, undef, undef, undef, undef, undef, .slice A a.length ca,
      .func (.func 83) #[] #[.pointer (some ⟨w.heap.size + 1 + 1, 0, none⟩)], .int .i64 ((a.length - 1 - k : Nat) : Int), .int .i64 (D a (a.length - 1 - k)), undef, undef, undef, undef, undef, undef, undef, undef, undef, undef, undef, undef, undef], defers := [] }) ?assign ?body ?done ?stop
  case assign =>
    intro l k W K hK
    dsimp only [backs]
    gi_wp2
    exact hK
  case body =>
    rintro l k W ⟨⟨hp, hcb, hcr, hfr⟩, hBW⟩ hk
    have hHL := HL.out
    obtain ⟨m, hm⟩ : ∃ m, a.length - 1 - k = m := ⟨_, rfl⟩
    have hs := HS.out m (by omega) (fun j h1 h2 => hp j (by omega) h2)
    obtain ⟨B', cb', e, hc1, hc2, hcs⟩ := hB
    cases e
    obtain ⟨g, rfl, hg, hgc⟩ := hcs m (by omega)
    have hgW : W.cell? ⟨g, m, none⟩ = some (.int .i64 (D b m)) := (hBW.cell (p := ⟨g, m, none⟩) hg).trans hgc
    have hmb : m < b.length := by omega
    have dm := D_dig ha m
    have db := D_dig hb m
    have hp' : D a m = D b m → ∀ j, a.length - (k + 1) ≤ j → j < a.length → D a j = D b j := fun e j h1 h2 => by
      by_cases e2 : j = m
      · rw [e2]; exact e
      · exact hp j (by omega) h2
    have HP := Lib.hid hp'
    have HSS := Lib.hid hs
    rw [hm]
    clear hcs hgc hs hp hp' hm hHL HS HE
    generalize D a m = x at *
    generalize D b m = y at *
    by_cases hxy : x = y
    · have hne2 : (x != y) = false := by simp [hxy]
      have HXY := Lib.hid hxy
      clear hxy
      gi_wp2
      exact ⟨KeepsFrom.refl _ _, KeepBox.refl _ _ _, ⟨HP.out HXY.out, hcb, hcr, hfr⟩, hBW⟩
    · have hne2 : (x != y) = true := by simp [hxy]
      have HXY := Lib.hid (HSS.out hxy)
      clear hxy
      gi_wp2_with (gi_at_call 68; refine (CallsIn.inRound l (up _ _ _ _ _ (sign_any (x - y) _))).mono ?_; rintro e w' ⟨rfl, rfl⟩)
      rw [HXY.out]
      exact ⟨(KeepsOthers.setCell _ _ _).from _, ⟨rfl, World.cell?_setCell_same' _ _ _ (by rw [hcr]; rfl)⟩, hBW.setCell (p := ⟨w.heap.size + 1, 0, none⟩) (by simp) _⟩
  case done =>
    rintro D W hD ⟨⟨hp, hcb, hcr, hfr⟩, hBW⟩ hK
    gi_wp2
    have hK' := (KeepsOthers.setCell W ⟨w.heap.size + 1, 0, none⟩ (.int .i64 0)).same D _ hK rfl
    refine ⟨by simp, .inl ⟨_, _, rfl, run_takeDeferred hK', ?_⟩⟩
    have hc5 := cell_kept (World.cell?_setCell_same' W ⟨w.heap.size + 1, 0, none⟩ (.int .i64 0) (by rw [hcr]; rfl)) (grownBy_putObj' _ D (.deferred none)) (fun r e => by cases e; exact ⟨_, hK', rfl⟩)
    refine ⟨.int .i64 0, by simp [results, Tryd.results44, go_sem, hc5], ?_, below_shut (hBW.setCell (p := ⟨w.heap.size + 1, 0, none⟩) (by simp) _) (by simp at hD; omega) hK' rfl _⟩
    have : a = b := HE.out (fun j hj => hp j (by omega) hj)
    rw [this]
    simp [sgn]
  case stop =>
    rintro D c k W hD hk ⟨⟨rfl, hcr⟩, hBW⟩ hK
    gi_wp2
    refine ⟨by simp, .inl ⟨_, _, rfl, run_takeDeferred hK, ?_⟩⟩
    have hc5 := cell_kept hcr (grownBy_putObj' _ D (.deferred none)) (fun r e => by cases e; exact ⟨_, hK, rfl⟩)
    exact ⟨.int .i64 (sgn (val a - val b)), by simp [results, Tryd.results44, go_sem, hc5], rfl, below_shut hBW (by simp at hD; omega) hK rfl _⟩

set_option maxRecDepth 100000 in
set_option maxHeartbeats 1000000 in
/-- against: two rows of digits of unlike length. -/
theorem against_unlike (a b : Nat) (A B : Option Addr) (ca cb : Nat) (hne : a ≠ b) (ha : a ≤ 9223372036854775807) (hb : b ≤ 9223372036854775807) (w : World) :
    Calls Tryd.prog 44 #[.slice A a ca, .slice B b cb] w (GivesInt w (sgn ((a : Int) - b))) := by
  have hne2 : ((a : Int) != (b : Int)) = true := by simp; omega
  have HN := Lib.hid hne
  clear hne
  go_enter Tryd.func44, Tryd.ntmps44
  go_wp2_with (go_at_call 68; refine (sign_any ((a : Int) - b) _).mono ?_; rintro e w' ⟨rfl, rfl⟩)
  refine bodyPost_ret (v := .int .i64 (sgn ((a : Int) - b))) (by simp [results, Tryd.results44, go_sem]) rfl ?_
  exact ⟨rfl, ((Below.refl _ _).alloc (Nat.le_refl _) _).alloc (by simp) _⟩

/-- against, of two numbers' digits: how they compare. -/
theorem against_any (x y : Nat) (va vb : Value) (w : World) (ha : Digs w va (limbs x)) (hb : Digs w vb (limbs y)) :
    Calls Tryd.prog 44 #[va, vb] w (GivesInt w (sgn ((x : Int) - y))) := by
  have hA := ha.ints
  have hB := hb.ints
  obtain ⟨A, ca, rfl, h1, h2, _⟩ := id hA
  obtain ⟨B, cb, rfl, h3, h4, _⟩ := id hB
  by_cases hl : (limbs x).length = (limbs y).length
  · have := against_same (limbs x) (limbs y) (dig_limbs x) (dig_limbs y) hl A B ca cb w hA hB
    rwa [val_limbs, val_limbs] at this
  · have := against_unlike _ _ A B ca cb hl (by omega) (by omega) w
    have e : sgn (((limbs x).length : Int) - (limbs y).length) = sgn ((x : Int) - y) := by
      rcases Nat.lt_or_gt_of_ne hl with h | h
      · have := limbs_len_lt h
        unfold sgn
        rw [if_pos (by omega), if_pos (by omega)]
      · have := limbs_len_lt h
        unfold sgn
        rw [if_neg (by omega), if_pos (by omega), if_neg (by omega), if_pos (by omega)]
    rwa [e] at this

end Go.Proofs.YtjfmefdhfboliaaDoor
