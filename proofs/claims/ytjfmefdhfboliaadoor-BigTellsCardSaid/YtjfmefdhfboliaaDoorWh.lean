/- Walks through divided of package big: quotient and rest, digit by digit from the end. -/
import Derived.Test.YtjfmefdhfboliaaDoorWg
import Derived.Laws.AppendOwnNone
import Derived.Sort.CutIn
import Derived.Test.YtjfmefdhfboliaaDoorMeb
import Derived.Test.YtjfmefdhfboliaaDoorRnd
namespace Go.Proofs.YtjfmefdhfboliaaDoor
open Go.RowKit Go.Shelf Num

attribute [local go_sem] Oper.semAt_some
attribute [local go_sem ↓] Go.wp_at_zero Go.wp_at_succ

/-- A slice onto which nothing is appended, nil being handed on: it stays. -/
theorem Tryd.append_nil (g : Nat) (w : World) : (Builtin.append_ #[41, 41] 41 #[.slice (some ⟨g, 0, none⟩) 1 1, .slice none 0 0]).run Tryd.prog w = .ok (.slice (some ⟨g, 0, none⟩) 1 1) w := by kernel_rfl


theorem digs_one_at {W : World} {g : Nat} (d : Int) (h : W.heap.size = g) : Digs (W.alloc (.cells #[.int .i64 d] 3)) (.slice (some ⟨g, 0, none⟩) 1 1) [d] := by subst h; exact digs_one W d

/-- An append whose run is known, in a fenced walk. -/
theorem wpListIn_append_run {F : Fence} {n : Nat} {P : Program} {w : World} {ops : Array Oper} {rest : List Oper} {o : Oper} {a : Act} {Q : Exit → Act → World → Prop}
    (hg : o.guard = none) (s x : Operand) (t : TypeId) (hop : o.op = Op.call { callee := Callee.builtin Builtin.append, args := #[s, x], argTypes := #[t, t] })
    (v1 v2 v' : Value) (w' : World) (hs : a.eval s = v1) (hx : a.eval x = v2) (hrun : (Builtin.append_ #[t, t] o.type #[v1, v2]).run P w = .ok v' w')
    (hK : wpListIn F n P ops Q rest (a.put o.dst v') w') : wpListIn F n P ops Q (o :: rest) a w := by
  refine wpListIn_plain hg fun K hK' => ?_
  unfold Oper.wpIn
  refine ⟨?_, ?_⟩
  · simp [Oper.about, hop, resolve, Target.leads, Sem.run_pure]
  · rw [Oper.semAt_plain F _ _ (by rw [hop]; intro c hc'; cases hc')]
    simp [execOp, hop, resolve, invoke, builtin, hs, hx, hrun, Result.andThen]
    exact hK' _ _ hK

/-- append([]int{d}, l...): a digit ahead of a row. -/
theorem append_digs (W : World) (d : Int) (A : Option Addr) (c : Nat) (zs : List Int) (h : Digs W (.slice A zs.length c) zs) (hl : zs.length ≤ 1000000) :
    ∃ g cap w1, (Builtin.append_ #[41, 41] 41 #[.slice (some ⟨W.heap.size, 0, none⟩) 1 1, .slice A zs.length c]).run Tryd.prog (W.alloc (.cells #[.int .i64 d] 3)) = .ok (.slice (some ⟨g, 0, none⟩) (zs.length + 1) cap) w1 ∧
      Digs w1 (.slice (some ⟨g, 0, none⟩) (zs.length + 1) cap) (d :: zs) ∧ Below W.heap.size W w1 := by
  obtain ⟨i0, hi, hz0, hz1, hz2⟩ := info_parts Tryd.info3
  have hba : Below W.heap.size W (W.alloc (.cells #[.int .i64 d] 3)) := (Below.refl _ _).alloc (Nat.le_refl _) _
  obtain ⟨A', cap, e, h1, h2, h3, h4, _⟩ := h.form
  cases e
  cases A with
  | none =>
    obtain ⟨rfl, rfl⟩ := h3 rfl
    exact ⟨W.heap.size, 1, _, Tryd.append_nil _ _, digs_one W d, hba⟩
  | some ad =>
    obtain ⟨g0, rfl, hg0⟩ := h4 _ rfl
    have hown : (W.alloc (.cells #[.int .i64 d] 3)).ownsRow W.heap.size 3 1 (.slice (some ⟨W.heap.size, 0, none⟩) 1 1) 1 [.int .i64 d] :=
      ⟨by simp, .inr ⟨W.heap.size, 1, #[.int .i64 d], rfl, Nat.le_refl _, heap_alloc_new W _, by simp, by simp [maxLen], by simp, by simp⟩⟩
    obtain ⟨v', w', hr, ho, hg, _⟩ := run_append_own (P := Tryd.prog) (W.alloc (.cells #[.int .i64 d] 3)) W.heap.size 41 41 3 i0 (.int .i64 0) 1 8 Tryd.underlying41 hi hz0 hz1 hz2 rfl (by decide) _ 1 _ hown
      ⟨g0, 0, none⟩ zs.length c (zs.map (Value.int .i64)) (by simp) (fun j u hj => World.ownsRow.cells (h.alloc _) rfl j u hj) (fun u hu => by obtain ⟨z, _, rfl⟩ := List.mem_map.1 hu; rfl) (by unfold maxLen; omega) (by omega) (by simp)
    rw [Nat.add_comm] at ho
    obtain ⟨g, cap, rfl⟩ := ownsRow_succ ho
    refine ⟨g, cap, w', hr, Digs.of_own (n := zs.length + 1) (by simpa using ho), ?_⟩
    exact hba.grown hg (by simp) (fun k e => by cases e; exact Nat.le_refl _)

/-- Where divided stands when k digits have come: the rest lies in box R, the quotient's row in block G, its value in box Q. -/
def DivAt (x y n R G Q k : Nat) (W : World) : Prop :=
  (∃ A c, W.cell? ⟨R, 0, none⟩ = some (.bool false) ∧ W.cell? ⟨R, 1, none⟩ = some (.slice A (limbs ((val ((limbs x).drop (n - k))).toNat % y)).length c) ∧ W.frozen? ⟨R, 0, none⟩ = false ∧ W.frozen? ⟨R, 1, none⟩ = false ∧ Box W R 43 ∧
    Digs W (.slice A (limbs ((val ((limbs x).drop (n - k))).toNat % y)).length c) (limbs ((val ((limbs x).drop (n - k))).toNat % y))) ∧
  (∃ qs : List Int, qs.length = n ∧ Dig qs ∧ val (qs.drop (n - k)) = (((val ((limbs x).drop (n - k))).toNat / y : Nat) : Int) ∧ W.ownsRow G 3 1 (.slice (some ⟨G, 0, none⟩) n n) n (qs.map (Value.int .i64))) ∧
  W.cell? ⟨Q, 0, none⟩ = some (.slice (some ⟨G, 0, none⟩) n n)

theorem DivAt.kept {x y n R G Q k : Nat} {W W' : World} {row : Option Nat} (h : DivAt x y n R G Q k W) (hg : W.grownBy W' row) (hr : NoCells W row) : DivAt x y n R G Q k W' := by
  obtain ⟨⟨A, c, h1, h2, h3, h4, h5, h6⟩, ⟨qs, q1, q2, q3, q4⟩, h7⟩ := h
  exact ⟨⟨A, c, cell_kept h1 hg hr, cell_kept h2 hg hr, (frozen_kept h1 hg hr).trans h3, (frozen_kept h2 hg hr).trans h4, h5.kept hg hr, h6.kept hg hr⟩, ⟨qs, q1, q2, q3, ownsRow_kept q4 hg hr⟩, cell_kept h7 hg hr⟩

theorem cell_at {W : World} {base g n c j : Nat} {zs : List Int} (h : W.ownsRow base 3 1 (.slice (some ⟨g, 0, none⟩) n c) n (zs.map (Value.int .i64))) (hj : j < zs.length) : W.cell? ⟨g, j, none⟩ = some (.int .i64 (D zs j)) := by
  have := World.ownsRow.cells h (g := g) rfl j (.int .i64 (D zs j)) (by simp [D, List.getElem?_eq_getElem hj])
  rwa [show (⟨g, 0, none⟩ : Addr).add j = ⟨g, j, none⟩ by unfold Addr.add; split <;> simp_all] at this

theorem cast_step (a b : Nat) : (b : Int) + 1000000000 * (a : Int) = ((a * 1000000000 + b : Nat) : Int) := by omega
theorem set_drop {qs : List Int} {j : Nat} {q : Int} (hj : j < qs.length) : val ((qs.set j q).drop j) = q + 1000000000 * val (qs.drop (j + 1)) := by
  rw [val_drop _ _ (by simpa using hj), List.drop_set_of_lt (Nat.lt_succ_self j)]
  congr 1
  simp [D, hj]
theorem dig_set {qs : List Int} {j : Nat} {q : Int} (h : Dig qs) (h0 : 0 ≤ q) (h1 : q < 1000000000) : Dig (qs.set j q) := fun z hz => by
  rcases List.mem_or_eq_of_mem_set hz with hz | rfl
  · exact h z hz
  · exact ⟨h0, h1⟩

/-- A number's box of its own, nothing stored yet. -/
def Fresh (P : Nat) (W : World) : Prop := W.cell? ⟨P, 0, none⟩ = some (.bool false) ∧ W.cell? ⟨P, 1, none⟩ = some (.slice none 0 0) ∧ W.frozen? ⟨P, 0, none⟩ = false ∧ W.frozen? ⟨P, 1, none⟩ = false ∧ Box W P 43
theorem Fresh.at (W : World) {P : Nat} (h : W.heap.size = P) : Fresh P (W.alloc (.cells #[.bool false, .slice none 0 0] 43)) := by
  subst h
  exact ⟨by simp [go_sem], by simp [go_sem], by simp [go_sem], by simp [go_sem], Box.new W _ 43⟩
theorem Fresh.below {P : Nat} {W W' : World} (h : Fresh P W) (hb : Below W.heap.size W W') : Fresh P W' :=
  ⟨keeps_cell hb h.1, keeps_cell hb h.2.1, (keeps_free hb h.1 h.2.2.1), (keeps_free hb h.2.1 h.2.2.2.1), h.2.2.2.2.below hb⟩
theorem Fresh.alloc {P : Nat} {W : World} (h : Fresh P W) (o : Obj) : Fresh P (W.alloc o) := h.below ((Below.refl _ _).alloc (Nat.le_refl _) _)

theorem leaf8 {w4 w6 : World} {P k c : Nat} {A : Option Addr} {zs : List Int} (hb : Below w4.heap.size w4 w6) (hP : w4.heap.size ≤ P) (h : Fresh P w6) (hd : Digs w6 (.slice A k c) zs) :
    w4.heap.size ≤ P ∧ P < ((w6.setCell ⟨P, 0, none⟩ (.bool false)).setCell ⟨P, 1, none⟩ (.slice A k c)).heap.size ∧ ((w6.setCell ⟨P, 0, none⟩ (.bool false)).setCell ⟨P, 1, none⟩ (.slice A k c)).cell? ⟨P, 1, none⟩ = some (.slice A k c) ∧
      Digs ((w6.setCell ⟨P, 0, none⟩ (.bool false)).setCell ⟨P, 1, none⟩ (.slice A k c)) (.slice A k c) zs ∧ Below w4.heap.size w4 ((w6.setCell ⟨P, 0, none⟩ (.bool false)).setCell ⟨P, 1, none⟩ (.slice A k c)) :=
  ⟨hP, by simpa using h.2.2.2.2.lt, (store2_facts h.1 h.2.1 _ _).2.1, hd.store2 h.2.2.2.2 _ _, below_store2 hb hP _ _⟩

theorem leafN {w4 w6 : World} {k c : Nat} {A : Option Addr} {zs : List Int} (hb : Below w4.heap.size w4 w6) (hd : Digs w6 (.slice A k c) zs) :
    w4.heap.size ≤ w6.heap.size ∧ w6.heap.size < (w6.alloc (.cells #[.bool false, .slice A k c] 43)).heap.size ∧ (w6.alloc (.cells #[.bool false, .slice A k c] 43)).cell? ⟨w6.heap.size, 1, none⟩ = some (.slice A k c) ∧
      Digs (w6.alloc (.cells #[.bool false, .slice A k c] 43)) (.slice A k c) zs ∧ Below w4.heap.size w4 (w6.alloc (.cells #[.bool false, .slice A k c] 43)) :=
  ⟨hb.size, by simp, by simp [go_sem], hd.alloc _, hb.alloc hb.size _⟩

theorem small_of_val {l : List Int} (h : Dig l) (hl : l.length ≤ 1000000) {p : Nat} (hp : (p : Int) ≤ val l) : Small p := by
  refine Nat.le_trans (limbs_len (k := l.length) ?_) hl
  have h1 := Int.lt_of_le_of_lt hp (val_lt h)
  generalize l.length = k at *
  have h2 : ((1000000000 : Int) ^ k) = (((1000000000 : Nat) ^ k : Nat) : Int) := by rw [Int.natCast_pow]; rfl
  rw [h2] at h1
  exact Int.ofNat_lt.1 h1

/-- What the two result cells of divided hold at the end. -/
theorem out4 {b c D0 kq kr cq cr : Nat} {w V w7 w9 : World} {A A' : Option Addr} {zq zr : Int} {x0 x1 x2 x3 : Value} (hbc : b ≠ c) (h1 : w.heap.size ≤ b) (h2 : w.heap.size ≤ c) (hDb : D0 ≠ b) (hDc : D0 ≠ c)
    (hD : V.heap[D0]? = some (.deferred (some []))) (hb7 : Below V.drew.heap.size V.drew w7) (hb9 : Below w7.heap.size w7 w9) (hV : Below w.heap.size w V)
    (p0 : w9.cell? ⟨b, 0, none⟩ = some x0) (p1 : w9.cell? ⟨b, 1, none⟩ = some x1) (p2 : w9.cell? ⟨c, 0, none⟩ = some x2) (p3 : w9.cell? ⟨c, 1, none⟩ = some x3) (y2 : Box V b 43) (y3 : Box V c 43)
    (hd7 : Digs w7 (.slice A kq cq) (limbs zq.natAbs)) (hd9 : Digs w9 (.slice A' kr cr) (limbs zr.natAbs)) (WF : World)
    (hF : (((w9.setCell ⟨b, 0, none⟩ (.bool (decide (zq < 0)))).setCell ⟨b, 1, none⟩ (.slice A kq cq)).setCell ⟨c, 0, none⟩ (.bool (decide (zr < 0)))).setCell ⟨c, 1, none⟩ (.slice A' kr cr) = WF) :
    WF.cell? ⟨b, 0, none⟩ = some (.bool (decide (zq < 0))) ∧ WF.cell? ⟨b, 1, none⟩ = some (.slice A kq cq) ∧ WF.cell? ⟨c, 0, none⟩ = some (.bool (decide (zr < 0))) ∧ WF.cell? ⟨c, 1, none⟩ = some (.slice A' kr cr) ∧
      WF.heap[D0]? = some (.deferred (some [])) ∧ Rep WF (.agg #[.bool (decide (zq < 0)), .slice A kq cq]) zq ∧ Rep WF (.agg #[.bool (decide (zr < 0)), .slice A' kr cr]) zr ∧ Below w.heap.size w WF := by
  subst hF
  obtain ⟨s0, s1, _⟩ := store2_facts p0 p1 (.bool (decide (zq < 0))) (.slice A kq cq)
  have t2 : ((w9.setCell ⟨b, 0, none⟩ (.bool (decide (zq < 0)))).setCell ⟨b, 1, none⟩ (.slice A kq cq)).cell? ⟨c, 0, none⟩ = some x2 := by
    rw [World.cell?_setCell_other _ _ _ _ (by simp), World.cell?_setCell_other _ _ _ _ (by simp)]; exact p2
  have t3 : ((w9.setCell ⟨b, 0, none⟩ (.bool (decide (zq < 0)))).setCell ⟨b, 1, none⟩ (.slice A kq cq)).cell? ⟨c, 1, none⟩ = some x3 := by
    rw [World.cell?_setCell_other _ _ _ _ (by simp), World.cell?_setCell_other _ _ _ _ (by simp)]; exact p3
  obtain ⟨s2, s3, _⟩ := store2_facts t2 t3 (.bool (decide (zr < 0))) (.slice A' kr cr)
  have lt7 : D0 < w7.heap.size := Nat.lt_of_lt_of_le (Array.getElem?_eq_some_iff.1 hD).1 hb7.size
  have z2 : Box w9 b 43 := (y2.drew.below hb7).below hb9
  have z3 : Box w9 c 43 := (y3.drew.below hb7).below hb9
  have z3' := (z3.setCell ⟨b, 0, none⟩ (.bool (decide (zq < 0)))).setCell ⟨b, 1, none⟩ (.slice A kq cq)
  refine ⟨?_, ?_, s2, s3, ?_, ⟨_, rfl, ((hd7.below hb9).store2 z2 _ _).store2 z3' _ _⟩, ⟨_, rfl, (hd9.store2 z2 _ _).store2 z3' _ _⟩, ?_⟩
  · rw [World.cell?_setCell_other _ _ _ _ (by simp), World.cell?_setCell_other _ _ _ _ (by simp)]; exact s0
  · rw [World.cell?_setCell_other _ _ _ _ (by simp), World.cell?_setCell_other _ _ _ _ (by simp)]; exact s1
  · rw [Below.heap_setCell _ _ _ _ hDc, Below.heap_setCell _ _ _ _ hDc, Below.heap_setCell _ _ _ _ hDb, Below.heap_setCell _ _ _ _ hDb]
    exact ((hb9.block D0 lt7).trans (hb7.block D0 (Array.getElem?_eq_some_iff.1 hD).1)).trans hD
  · have hv7 : Below w.heap.size w w7 := hV.drew.trans (hb7.mono hV.size)
    exact below_store2 (below_store2 (hv7.trans (hb9.mono hv7.size)) h1 _ _) h2 _ _

/-- The same when the block of deferred calls has been taken. -/
theorem out4_put {b c D0 kq kr cq cr : Nat} {w WF : World} {A A' : Option Addr} {zq zr : Int} {u0 u1 u2 u3 : Value} (hD : w.heap.size ≤ D0)
    (h : WF.cell? ⟨b, 0, none⟩ = some u0 ∧ WF.cell? ⟨b, 1, none⟩ = some u1 ∧ WF.cell? ⟨c, 0, none⟩ = some u2 ∧ WF.cell? ⟨c, 1, none⟩ = some u3 ∧
      WF.heap[D0]? = some (.deferred (some [])) ∧ Rep WF (.agg #[.bool (decide (zq < 0)), .slice A kq cq]) zq ∧ Rep WF (.agg #[.bool (decide (zr < 0)), .slice A' kr cr]) zr ∧ Below w.heap.size w WF) (WG : World) (hG : WF.putObj D0 (.deferred none) = WG) :
    WG.cell? ⟨b, 0, none⟩ = some u0 ∧ WG.cell? ⟨b, 1, none⟩ = some u1 ∧ WG.cell? ⟨c, 0, none⟩ = some u2 ∧ WG.cell? ⟨c, 1, none⟩ = some u3 ∧
      Rep WG (.agg #[.bool (decide (zq < 0)), .slice A kq cq]) zq ∧ Rep WG (.agg #[.bool (decide (zr < 0)), .slice A' kr cr]) zr ∧ Below w.heap.size w WG := by
  subst hG
  obtain ⟨h0, h1, h2, h3, h4, ⟨s5, e5, h5⟩, ⟨s6, e6, h6⟩, h7⟩ := h
  have hg := grownBy_putObj' WF D0 (.deferred none)
  have hr : NoCells WF (some D0) := fun r e => by cases e; exact ⟨_, h4, rfl⟩
  exact ⟨cell_kept h0 hg hr, cell_kept h1 hg hr, cell_kept h2 hg hr, cell_kept h3 hg hr, ⟨s5, e5, h5.kept hg hr⟩, ⟨s6, e6, h6.kept hg hr⟩, h7.grown hg h7.size (fun k e => by cases e; exact hD)⟩

set_option maxRecDepth 100000 in
set_option maxHeartbeats 16000000 in
theorem divided_raw (x y : Nat) (hy : 0 < y) (bx bY : Bool) (zq zr : Int) (HZ : Hid ((if (bx != bY) = true then - ((x / y : Nat) : Int) else ((x / y : Nat) : Int)) = zq ∧ (if bx = true then - ((x % y : Nat) : Int) else ((x % y : Nat) : Int)) = zr))
    (A B : Option Addr) (n ca m cb : Nat) (w : World) (hA : Digs w (.slice A n ca) (limbs x)) (hB : Digs w (.slice B m cb) (limbs y)) (lx : Small x) (ly : Small y) :
    Calls Tryd.prog 50 #[.agg #[.bool bx, .slice A n ca], .agg #[.bool bY, .slice B m cb]] w fun e w' => ∃ vq vr, e = .returned (.tuple #[vq, vr]) ∧
      Rep w' vq zq ∧ Rep w' vr zr ∧ Below w.heap.size w w' := by
  refine wide_letter fun F hfn hro hdep up => ?_
  have f64 := hfn 64
  have f83 := hfn 83
  have f45 := hfn 45
  have f50 := hfn 50
  have f69 := hfn 69
  have f31 := hfn 31
  have f47 := hfn 47
  have hnl : n = (limbs x).length := by have := hA.1; simp at this; have := hA.form; obtain ⟨A', c', e, _⟩ := this; cases e; rfl
  obtain ⟨i0, hi, hz0, hz1, hz2⟩ := info_parts Tryd.info3
  have hn1 : n ≤ 1000000 := by rw [hnl]; exact lx
  have HN := Lib.hid hnl
  clear hnl
  obtain ⟨w1, hrun, hown, hgrow⟩ := run_make_full (P := Tryd.prog) (((((w.alloc (.cells #[.bool bx, .slice A n ca] 43)).alloc (.cells #[.bool bY, .slice B m cb] 43)).alloc (.cells #[.bool false, .slice none 0 0] 43)).alloc (.cells #[.bool false, .slice none 0 0] 43)).alloc (.cells #[.bool false, .slice none 0 0] 43))
    (w.heap.size + 1 + 1 + 1 + 1 + 1) 41 3 i0 (.int .i64 0) 1 Tryd.underlying41 hi hz0 hz1 .i64 .i64 n (by rw [hz2]; omega) (by unfold maxLen; omega) (by simp)
  have hb1 := below_of_grown hgrow
  obtain ⟨hc1, hf1⟩ := bcell hb1
  have hz1 := hb1.size
  simp only [World.size_alloc] at hrun hown hz1
  rw [madeZeros] at hown
  clear hgrow hz0 hz2
  have k0 : w1.cell? ⟨w.heap.size, 0, none⟩ = some (.bool bx) := by rw [hc1 _ _ (by simp only [World.size_alloc]; omega)]; simp [go_sem]
  have k1 : w1.cell? ⟨w.heap.size, 1, none⟩ = some (.slice A n ca) := by rw [hc1 _ _ (by simp only [World.size_alloc]; omega)]; simp [go_sem]
  have k2 : w1.cell? ⟨w.heap.size + 1, 0, none⟩ = some (.bool bY) := by rw [hc1 _ _ (by simp only [World.size_alloc]; omega)]; simp [go_sem]
  have k3 : w1.cell? ⟨w.heap.size + 1, 1, none⟩ = some (.slice B m cb) := by rw [hc1 _ _ (by simp only [World.size_alloc]; omega)]; simp [go_sem]
  have k4 : w1.cell? ⟨w.heap.size + 1 + 1, 0, none⟩ = some (.bool false) := by rw [hc1 _ _ (by simp only [World.size_alloc]; omega)]; simp [go_sem]
  have k5 : w1.cell? ⟨w.heap.size + 1 + 1, 1, none⟩ = some (.slice none 0 0) := by rw [hc1 _ _ (by simp only [World.size_alloc]; omega)]; simp [go_sem]
  have k6 : w1.cell? ⟨w.heap.size + 1 + 1 + 1, 0, none⟩ = some (.bool false) := by rw [hc1 _ _ (by simp only [World.size_alloc]; omega)]; simp [go_sem]
  have k7 : w1.cell? ⟨w.heap.size + 1 + 1 + 1, 1, none⟩ = some (.slice none 0 0) := by rw [hc1 _ _ (by simp only [World.size_alloc]; omega)]; simp [go_sem]
  have k8 : w1.cell? ⟨w.heap.size + 1 + 1 + 1 + 1, 0, none⟩ = some (.bool false) := by rw [hc1 _ _ (by simp only [World.size_alloc]; omega)]; simp [go_sem]
  have k9 : w1.cell? ⟨w.heap.size + 1 + 1 + 1 + 1, 1, none⟩ = some (.slice none 0 0) := by rw [hc1 _ _ (by simp only [World.size_alloc]; omega)]; simp [go_sem]
  have f4 : w1.frozen? ⟨w.heap.size + 1 + 1, 0, none⟩ = false := by rw [hf1 _ _ (by simp only [World.size_alloc]; omega)]; simp [go_sem]
  have f5 : w1.frozen? ⟨w.heap.size + 1 + 1, 1, none⟩ = false := by rw [hf1 _ _ (by simp only [World.size_alloc]; omega)]; simp [go_sem]
  have f6 : w1.frozen? ⟨w.heap.size + 1 + 1 + 1, 0, none⟩ = false := by rw [hf1 _ _ (by simp only [World.size_alloc]; omega)]; simp [go_sem]
  have f7 : w1.frozen? ⟨w.heap.size + 1 + 1 + 1, 1, none⟩ = false := by rw [hf1 _ _ (by simp only [World.size_alloc]; omega)]; simp [go_sem]
  have f8 : w1.frozen? ⟨w.heap.size + 1 + 1 + 1 + 1, 0, none⟩ = false := by rw [hf1 _ _ (by simp only [World.size_alloc]; omega)]; simp [go_sem]
  have f9 : w1.frozen? ⟨w.heap.size + 1 + 1 + 1 + 1, 1, none⟩ = false := by rw [hf1 _ _ (by simp only [World.size_alloc]; omega)]; simp [go_sem]
  have z0 : w.heap.size < w1.heap.size := by omega
  have z1 : w.heap.size + 1 < w1.heap.size := by omega
  have z2 : w.heap.size + 1 + 1 < w1.heap.size := by omega
  have z3 : w.heap.size + 1 + 1 + 1 < w1.heap.size := by omega
  have z4 : w.heap.size + 1 + 1 + 1 + 1 < w1.heap.size := by omega
  have z5 : w.heap.size + 1 + 1 + 1 + 1 + 1 < w1.heap.size := (World.ownsRow.lt hown _ rfl).2
  have b2 : Box w1 (w.heap.size + 1 + 1) 43 := by
    have := ((((Box.new ((w.alloc (.cells #[.bool bx, .slice A n ca] 43)).alloc (.cells #[.bool bY, .slice B m cb] 43)) #[.bool false, .slice none 0 0] 43).alloc (.cells #[.bool false, .slice none 0 0] 43)).alloc (.cells #[.bool false, .slice none 0 0] 43)).below hb1)
    simpa using this
  have b3 : Box w1 (w.heap.size + 1 + 1 + 1) 43 := by
    have := ((((Box.new (((w.alloc (.cells #[.bool bx, .slice A n ca] 43)).alloc (.cells #[.bool bY, .slice B m cb] 43)).alloc (.cells #[.bool false, .slice none 0 0] 43)) #[.bool false, .slice none 0 0] 43)).alloc (.cells #[.bool false, .slice none 0 0] 43)).below hb1)
    simpa using this
  have b4 : Box w1 (w.heap.size + 1 + 1 + 1 + 1) 43 := by
    have := ((((Box.new ((((w.alloc (.cells #[.bool bx, .slice A n ca] 43)).alloc (.cells #[.bool bY, .slice B m cb] 43)).alloc (.cells #[.bool false, .slice none 0 0] 43)).alloc (.cells #[.bool false, .slice none 0 0] 43)) #[.bool false, .slice none 0 0] 43))).below hb1)
    simpa using this
  have hB1 : Below w.heap.size w w1 := by
    refine Below.trans ?_ (hb1.mono (by simp; omega))
    exact (((((Below.refl _ _).alloc (Nat.le_refl _) _).alloc (by simp) _).alloc (by simp; omega) _).alloc (by simp; omega) _).alloc (by simp; omega) _
  have hA1 := hA.below hB1
  have hBd1 := hB.below hB1
  have HBK : Hid (∀ j, (Value.slice B m cb).ownBlock = some j → j < w.heap.size) := fun j hj => (World.ownsRow.lt hB j hj).2
  have HAI : Hid (IntsAt w.heap.size w1 (.slice A n ca) (limbs x)) := hA.ints.below hB1
  clear hc1 hf1 hb1 hz1 hA hB
  refine callsIn_of_wp_marks Tryd.func50 rfl f50 ?_ hro
  simp only [Tryd.ntmps50, List.size_toArray, List.length_cons, List.length_nil, Nat.reduceAdd, Nat.reduceSub, Array.replicate_succ, Array.replicate_zero, List.push_toArray, List.append_toArray, List.nil_append, List.cons_append]
  clear hfn
  gi_wp2_with (gi_at_call 64; refine (back_in F _ f64 hro _ _ _ _).mono ?_; rintro e w' ⟨rfl, rfl⟩)
  obtain ⟨W0, hW0⟩ : ∃ W0, ((w1.alloc (Obj.cells #[Value.slice (some ⟨w.heap.size + 1 + 1 + 1 + 1 + 1, 0, none⟩) n n] 41)).alloc (Obj.cells #[Value.slice A n ca] 41)) = W0 := ⟨_, rfl⟩
  have hz0 : W0.heap.size = w1.heap.size + 2 := by rw [← hW0]; simp
  have hb10 : Below w1.heap.size w1 W0 := by rw [← hW0]; exact ((Below.refl _ _).alloc (Nat.le_refl _) _).alloc (by simp) _
  have hib : W0.cell? ⟨w1.heap.size + 1, 0, none⟩ = some (.slice A n ca) := by rw [← hW0]; have := (Boxed.new (w1.alloc (Obj.cells #[Value.slice (some ⟨w.heap.size + 1 + 1 + 1 + 1 + 1, 0, none⟩) n n] 41)) 41 (.slice A n ca)).cell; rwa [World.size_alloc] at this
  have hqb : W0.cell? ⟨w1.heap.size, 0, none⟩ = some (.slice (some ⟨w.heap.size + 1 + 1 + 1 + 1 + 1, 0, none⟩) n n) := by rw [← hW0]; exact ((Boxed.new w1 41 (.slice (some ⟨w.heap.size + 1 + 1 + 1 + 1 + 1, 0, none⟩) n n)).alloc _).cell
  rw [hW0]
  have hA0 := hA1.below hb10
  have hB0 := hBd1.below hb10
  clear hrun hW0 hA1 hBd1
  have hAI : IntsAt w.heap.size W0 (.slice A n ca) (limbs x) := HAI.out.below (hb10.mono (by omega))
  refine wpIn_rangeFunc_idx hro (by omega) (gf := 83) (lb := #[.pointer (some ⟨w1.heap.size + 1, 0, none⟩)]) rfl f83 (enters_of Tryd.func83 (by kernel_rfl) rfl)
    (back_stops F 8 f83 hro (by omega) (w1.heap.size + 1) w.heap.size _ (limbs x) _ (by omega) (by omega) hib hAI) (fun h k => h.trans k) (KeepBox.putObj (by omega) (by omega)) (Below.refl _ _) (fun _ => rfl) (fun _ _ h => h.elim)
    (fun k W => DivAt x y n (w.heap.size + 1 + 1 + 1 + 1) (w.heap.size + 1 + 1 + 1 + 1 + 1) w1.heap.size k W ∧ Only (w.heap.size + 1 + 1 + 1 + 1) (w.heap.size + 1 + 1 + 1 + 1 + 1) W0 W)
    (fun c k W => False) ?hI ?hIx (fun _ _ _ _ h => h.elim) (fun _ _ _ _ _ h => h.elim) ?h0
    (fun k => { tmps := #[.agg #[.bool bx, .slice A n ca], .agg #[.bool bY, .slice B m cb], .pointer (some ⟨w.heap.size, 0, none⟩), .pointer (some ⟨w.heap.size + 1, 0, none⟩), .pointer (some ⟨w.heap.size + 1 + 1, 0, none⟩), .pointer (some ⟨w.heap.size + 1 + 1 + 1, 0, none⟩), .pointer (some ⟨w.heap.size + 1 + 1 + 1 + 1, 0, none⟩), .pointer (some ⟨w1.heap.size, 0, none⟩), .int .i64 (((limbs x).length - 1 - k : Nat) : Int), .int .i64 (D (limbs x) ((limbs x).length - 1 - k)), undef, undef, .agg #[.bool false, .slice none 0 0], .pointer (some ⟨w.heap.size, 1, none⟩), .slice A n ca, .int .i64 n, .slice (some ⟨w.heap.size + 1 + 1 + 1 + 1 + 1, 0, none⟩) n n, .pointer (some ⟨w.heap.size, 1, none⟩), .slice A n ca, .func (.func 83) #[] #[.pointer (some ⟨w1.heap.size + 1, 0, none⟩)], .int .i64 (((limbs x).length - 1 - k : Nat) : Int), .int .i64 (D (limbs x) ((limbs x).length - 1 - k)), undef, undef, undef, undef, undef, undef, undef, undef, undef, undef, undef, undef, undef, undef, undef, undef, undef, undef, undef, undef, undef, undef, undef, undef, undef, undef, undef, undef, undef, undef, undef, undef, undef, undef, undef, undef, undef, undef, undef, undef, undef, undef, undef, undef], defers := [] }) ?assign ?body ?done ?stop
  case hI => exact OwnFrom.and (Own.from (fun s A B row hs hg hr => hs.kept hg hr) _) (fun s A B row hs hg hr => hs.later hg (fun r e => (hr r e).1))
  case hIx => exact fun c s A B row hs _ _ => hs
  case h0 =>
    have hnl := HN.out
    have e0 : (val ((limbs x).drop (n - 0))).toNat = 0 := by rw [hnl]; simp [val]
    refine ⟨⟨⟨none, 0, ?_⟩, ⟨List.replicate n 0, by simp, fun z hz => by rw [(List.mem_replicate.1 hz).2]; omega, ?_, ?_⟩, hqb⟩, Only.refl _ _ _⟩
    · rw [e0, Nat.zero_mod, limbs_zero]
      exact ⟨keeps_cell hb10 k8, keeps_cell hb10 k9, keeps_free hb10 k8 f8, keeps_free hb10 k9 f9, b4.below hb10, Digs.nil _⟩
    · rw [e0, Nat.zero_div]; simp [val]
    · exact ownsRow_below hown hb10 (fun k hk => (World.ownsRow.lt hown k hk).2)
  case assign =>
    intro l k W K hK
    dsimp only [backs]
    gi_wp2
    exact hK
  case body =>
    rintro l k W ⟨⟨⟨A', c', r0, r1, r2, r3, r4, r5⟩, ⟨qs, q1, q2, q3, q4⟩, q5⟩, hon⟩ hk
    have hnl := HN.out
    have hlx : (limbs x).length ≤ 1000000 := lx
    obtain ⟨j, hj⟩ : ∃ j, (limbs x).length - 1 - k = j := ⟨_, rfl⟩
    have hjk : n - k = j + 1 := by omega
    have hjk1 : n - (k + 1) = j := by omega
    have hjn : j < n := by omega
    have hvd := val_drop (limbs x) j (by omega)
    have dd := D_dig (dig_limbs x) j
    have hv0 := val_nonneg ((dig_limbs x).drop (j + 1))
    have hv1 := val_nonneg ((dig_limbs x).drop j)
    rw [hjk] at r1 r5 q3
    rw [hj]
    have hdr : (qs.drop (j + 1)).length = qs.length - (j + 1) := List.length_drop
    generalize hdj : D (limbs x) j = di at *
    obtain ⟨d, rfl⟩ : ∃ d : Nat, di = (d : Int) := ⟨di.toNat, by omega⟩
    have hdb : d < 1000000000 := by omega
    obtain ⟨t, ht⟩ : ∃ t, (val ((limbs x).drop (j + 1))).toNat = t := ⟨_, rfl⟩
    rw [ht] at r1 r5 q3
    have htj : (val ((limbs x).drop j)).toNat = t * 1000000000 + d := by omega
    have hrlt := Nat.mod_lt t hy
    have hqr := Nat.div_add_mod t y
    obtain ⟨e1, e2, e3⟩ := div_step (q := t / y) (B := 1000000000) hrlt hdb
    rw [show t / y * y + t % y = t by rw [Nat.mul_comm]; exact hqr] at e1 e2
    have hp : val ((d : Int) :: limbs (t % y)) = ((t % y * 1000000000 + d : Nat) : Int) := by rw [val, val_limbs]; omega
    have hpd : Dig ((d : Int) :: limbs (t % y)) := fun z hz => by
      rcases List.mem_cons.1 hz with rfl | hz
      · omega
      · exact dig_limbs _ z hz
    have hpy : t % y * 1000000000 + d < y * 1000000000 := by
      have : (t % y + 1) * 1000000000 ≤ y * 1000000000 := Nat.mul_le_mul_right _ hrlt
      omega
    have hsr : Small (t % y) := Nat.le_trans (limbs_len_le (Nat.le_of_lt hrlt)) ly
    obtain ⟨p, hpp⟩ : ∃ p, t % y * 1000000000 + d = p := ⟨_, rfl⟩
    rw [hpp] at e1 e2 e3 hp hpy
    have hsp : Small p := small_of_val (l := (limbs x).drop j) (fun z hz => dig_limbs x z (List.mem_of_mem_drop hz)) (by rw [List.length_drop]; omega) (by have := Nat.mod_le t y; omega)
    obtain ⟨r, hrr⟩ : ∃ r, t % y = r := ⟨_, rfl⟩
    rw [hrr] at r1 r5 hp hpd hsr hrlt
    have hnp : p / y < 1000000000 := by rw [Nat.div_lt_iff_lt_mul hy, Nat.mul_comm]; exact hpy
    have hpm := Nat.div_add_mod p y
    have hprest : p - y * (p / y) = p % y := by omega
    have hple : y * (p / y) ≤ p := by omega
    obtain ⟨qn, hqn⟩ : ∃ qn, p / y = qn := ⟨_, rfl⟩
    rw [hqn] at hnp hpm hprest hple e1 e3
    have HQN := Lib.hid hqn
    have hkb : W.cell? ⟨w.heap.size + 1, 1, none⟩ = some (.slice B m cb) := hon.cell (keeps_cell hb10 k3) (by show w.heap.size + 1 ≠ _; omega) (by show w.heap.size + 1 ≠ _; omega)
    have hBW : Digs W (.slice B m cb) (limbs y) := hB0.only hon (fun b hb => by have := HBK.out b hb; omega)
    obtain ⟨ga, capa, wa, happ, hda, hba⟩ := append_digs W d A' c' (limbs r) r5 hsr
    have FIN : Hid (∀ W', DivAt x y n (w.heap.size + 1 + 1 + 1 + 1) (w.heap.size + 1 + 1 + 1 + 1 + 1) w1.heap.size (k + 1) W' → True) := fun _ _ => trivial
    have H1 := Lib.hid (And.intro e1 (And.intro e2 (And.intro hprest (And.intro hple (And.intro htj (And.intro hvd (And.intro hpm ht)))))))
    have H2 := Lib.hid (And.intro hjk1 (And.intro hj (And.intro hjk (And.intro q1 (And.intro q2 q3)))))
    have HT := Lib.hid (trimmed_nat (some ⟨ga, 0, none⟩) capa _ p wa hpd hp.symm hda)
    have HQ4 := Lib.hid q4
    have zW := hon.size
    have zz0 : w.heap.size + 1 + 1 + 1 + 1 + 1 < W.heap.size := by omega
    have zz1 : w.heap.size + 1 + 1 + 1 + 1 < W.heap.size := by omega
    have zz2 : w.heap.size + 1 < W.heap.size := by omega
    have zz3 : w1.heap.size < W.heap.size := by omega
    clear e1 e2 hprest hple htj hvd hpm ht hjk1 hj hjk q1 q2 q3 hp hpd hda hpp hrr hqn hnl hdr hv0 hv1 hqr q4 hdj k0 k1 k2 k3 k4 k5 k6 k7 k8 k9 f4 f5 f6 f7 f8 f9 b2 b3 b4 hib hqb hown hAI
    gi_wp2_with (gi_at_builtin; refine wpListIn_append_run rfl _ _ 41 rfl _ _ _ _ rfl rfl happ ?_)
    refine (CallsIn.inRound l (up _ _ _ _ _ HT.out)).mono ?_
    rintro e w2 ⟨A2, c2, rfl, hd2, hb2⟩
    have hbW2 : Below W.heap.size W w2 := hba.trans (hb2.mono hba.size)
    have r0' := keeps_cell hbW2 r0
    have r1' := keeps_cell hbW2 r1
    have r2' := keeps_free hbW2 r0 r2
    have r3' := keeps_free hbW2 r1 r3
    have r4' := r4.below hbW2
    have hkb2 := keeps_cell hbW2 hkb
    have hq2 := keeps_cell hbW2 q5
    have hBW2 := hBW.below hbW2
    have on2 : Only (w.heap.size + 1 + 1 + 1 + 1) (w.heap.size + 1 + 1 + 1 + 1) W w2 := .of_below hbW2
    clear r0 r1 r2 r3 r5 hkb hba hb2 happ
    gi_wp2_with fail
    obtain ⟨W3, hW3⟩ : ∃ W3, (w2.setCell ⟨w.heap.size + 1 + 1 + 1 + 1, 0, none⟩ (.bool false)).setCell ⟨w.heap.size + 1 + 1 + 1 + 1, 1, none⟩ (.slice A2 (limbs p).length c2) = W3 := ⟨_, rfl⟩
    obtain ⟨s0, s1, s2⟩ := store2_facts r0' r1' (.bool false) (.slice A2 (limbs p).length c2)
    have s3 := (s2 _).trans r2'
    have s4 := (s2 _).trans r3'
    have hd3 := hd2.store2 r4' (.bool false) (.slice A2 (limbs p).length c2)
    have hBW3 := hBW2.store2 r4' (.bool false) (.slice A2 (limbs p).length c2)
    have on3 : Only (w.heap.size + 1 + 1 + 1 + 1) (w.heap.size + 1 + 1 + 1 + 1) W _ := on2.trans ((Only.setCell w2 (p := ⟨w.heap.size + 1 + 1 + 1 + 1, 0, none⟩) (.inl rfl) (.bool false)).trans (Only.setCell _ (p := ⟨w.heap.size + 1 + 1 + 1 + 1, 1, none⟩) (.inl rfl) (.slice A2 (limbs p).length c2)))
    have r43 : Box _ (w.heap.size + 1 + 1 + 1 + 1) 43 := (r4'.setCell ⟨w.heap.size + 1 + 1 + 1 + 1, 0, none⟩ (.bool false)).setCell ⟨w.heap.size + 1 + 1 + 1 + 1, 1, none⟩ (.slice A2 (limbs p).length c2)
    have hkb3 := (Only.refl (w.heap.size + 1 + 1 + 1 + 1) (w.heap.size + 1 + 1 + 1 + 1) w2 |>.trans ((Only.setCell w2 (p := ⟨w.heap.size + 1 + 1 + 1 + 1, 0, none⟩) (.inl rfl) (.bool false)).trans (Only.setCell _ (p := ⟨w.heap.size + 1 + 1 + 1 + 1, 1, none⟩) (.inl rfl) (.slice A2 (limbs p).length c2)))).cell hkb2 (by show w.heap.size + 1 ≠ _; omega) (by show w.heap.size + 1 ≠ _; omega)
    rw [hW3] at s0 s1 s3 s4 hd3 hBW3 on3 r43 hkb3 ⊢
    clear hW3 s2 r0' r1' r2' r3' r4' hkb2 hd2 hBW2 on2 hq2 hbW2
    refine (CallsIn.inRound l (up _ _ _ _ _ (fits_any p y hy hpy _ _ W3 hd3 hBW3 ly))).mono ?_
    rintro e w4 ⟨rfl, hb4⟩
    rw [HQN.out]
    have t0 := keeps_cell hb4 s0
    have t1 := keeps_cell hb4 s1
    have t3 := keeps_free hb4 s0 s3
    have t4 := keeps_free hb4 s1 s4
    have t5 := r43.below hb4
    have t6 := keeps_cell hb4 hkb3
    have hd4 := hd3.below hb4
    have hBW4 := hBW3.below hb4
    have on4 := on3.trans (.of_below hb4)
    clear hb4 s0 s1 s3 s4 r43 hkb3 hd3 hBW3 on3
    gi_wp2_with fail
    have mixed : Tryd.prog.follows .mixedOrders = true := by kernel_rfl
    have zz5 : w.heap.size + 1 < w4.heap.size := Nat.lt_of_lt_of_le zz2 on4.size
    have zz6 : w.heap.size < w4.heap.size := Nat.lt_of_succ_lt zz5
    have hqn1 := digs_one
    have HPR := H1
    gi_cut [11] from 34 (fun v W5 => ∃ (P : Nat) (A5 : Option Addr) (c5 : Nat), v = .pointer (some ⟨P, 0, none⟩) ∧ w4.heap.size ≤ P ∧ P < W5.heap.size ∧ W5.cell? ⟨P, 1, none⟩ = some (.slice A5 (limbs (y * qn)).length c5) ∧ Digs W5 (.slice A5 (limbs (y * qn)).length c5) (limbs (y * qn)) ∧ Below w4.heap.size w4 W5)
    case first =>
      clear t0 t1 t3 t4 t5 hd4 on4 HQ4 q5 H2 HT r4 hon hBW
      rename_i J K0 hJ hM
      refine wpIn_region_round l mixed (by kernel_rfl) ?_
      --GEN8
      refine wpAnyIn_take (i := 0) (v := .pointer (some ⟨w.heap.size + 1, 1, none⟩)) rfl rfl (by kernel_rfl) (by kernel_rfl) (by kernel_rfl) (fun _ _ _ h => h) ⟨Or.inl ⟨by rfl, ?_⟩, fun _ => rfl⟩ ?_
      · (intro w; go_simp <;> rfl)
      refine wpAnyIn_take (i := 3) (v := .int .i64 qn) rfl rfl (by kernel_rfl) (by kernel_rfl) (by kernel_rfl) (fun _ _ _ h => h) ⟨Or.inl ⟨by rfl, ?_⟩, fun _ => rfl⟩ ?_
      · (intro w; go_simp <;> rfl)
      refine wpAnyIn_ready (rs := [1, 4, 8]) (by kernel_rfl) (by simp) ?_
      refine AllReadyIn.cons rfl (fun K hK => ?_) ?_
      · -- [] 1
        go_simp
        try (refine hK _ _ ?_; clear hK K)
        refine wpAnyIn_take (i := 2) (v := .agg #[.bool false, .slice B m cb]) rfl rfl (by kernel_rfl) (by kernel_rfl) (by kernel_rfl) (fun _ _ _ h => h) ⟨Or.inl ⟨by rfl, ?_⟩, fun _ => rfl⟩ ?_
        · (intro w; go_simp <;> rfl)
        refine wpAnyIn_ready (rs := [4, 8]) (by kernel_rfl) (by simp) ?_
        refine AllReadyIn.cons rfl (fun K hK => ?_) ?_
        · -- [1] 4
          go_simp
          try (refine hK _ _ ?_; clear hK K)
          refine wpAnyIn_take (i := 5) (v := .agg #[.bool false, .slice (some ⟨w4.heap.size, 0, none⟩) 1 1]) rfl rfl (by kernel_rfl) (by kernel_rfl) (by kernel_rfl) (fun _ _ _ h => h) ⟨Or.inl ⟨by rfl, ?_⟩, fun _ => rfl⟩ ?_
          · (intro w; go_simp <;> rfl)
          refine wpAnyIn_ready (rs := [6, 8]) (by kernel_rfl) (by simp) ?_
          refine AllReadyIn.cons rfl (fun K hK => ?_) ?_
          · -- [1, 4] 6
            go_simp
            gi_wp2_with (gi_at_call 45; refine (callsIn_plain (up _ _ _ _ _ (trimmed_one _ qn _ hnp (digs_one_at (W := w4.drew) _ (by simp))))).mono ?_; rintro e w5 ⟨A5, c5, rfl, hd5, hb5⟩; have hb45 : Below w4.heap.size w4 w5 := ((Below.refl w4.heap.size w4).drew.alloc (by simp <;> omega) _).trans (hb5.mono (by simp <;> omega)); have hB5 := hBW4.below hb45; have k5 := keeps_cell hb45 t6; have y0 : w.heap.size + 1 < w5.heap.size := Nat.lt_of_lt_of_le zz5 hb45.size; have z45 : w4.heap.size ≤ w5.heap.size := hb45.size)
            try (refine hK _ _ ?_; clear hK K)
            refine wpAnyIn_ready (rs := [7, 8]) (by kernel_rfl) (by simp) ?_
            refine AllReadyIn.cons rfl (fun K hK => ?_) ?_
            · -- [1, 4, 6] 7
              go_simp
              gi_wp2_with (gi_at_call 31; refine (callsIn_plain (up _ _ _ _ _ (times_nat y qn _ _ _ (hB5) (hd5) ly (small_digit hnp)))).mono ?_; rintro e w6 ⟨A6, c6, rfl, hd6, hb6⟩; have hb46 : Below w4.heap.size w4 w6 := hb45.trans (hb6.mono hb45.size))
              try (refine hK _ _ ?_; clear hK K)
              refine wpAnyIn_ready (rs := [8]) (by kernel_rfl) (by simp) ?_
              refine AllReadyIn.cons rfl (fun K hK => ?_) ?_
              · -- [1, 4, 6, 7] 8
                go_simp
                try (refine hK _ _ ?_; clear hK K)
                refine wpAnyIn_ready (rs := [9]) (by kernel_rfl) (by simp) ?_
                refine AllReadyIn.cons rfl (fun K hK => ?_) ?_
                · -- [1, 4, 6, 7, 8] 9
                  obtain ⟨p0, p1, p2, p3, pb⟩ := id ((Fresh.at w6 (P := w6.heap.size) (by simp)))
                  go_simp
                  try (refine hK _ _ ?_; clear hK K)
                  refine wpAnyIn_done (by kernel_rfl) ?_ _
                  refine hM _ _ (Met.intro ?_)
                  refine hJ _ _ ?_
                  (repeat apply Exists.intro)
                  refine ⟨?_, rfl⟩
                  exact ⟨w6.heap.size, A6, c6, rfl, leafN hb46 hd6⟩
                exact AllReadyIn.nil
              exact AllReadyIn.nil
            refine AllReadyIn.cons rfl (fun K hK => ?_) ?_
            · -- [1, 4, 6] 8
              go_simp
              try (refine hK _ _ ?_; clear hK K)
              refine wpAnyIn_ready (rs := [7]) (by kernel_rfl) (by simp) ?_
              refine AllReadyIn.cons rfl (fun K hK => ?_) ?_
              · -- [1, 4, 6, 8] 7
                go_simp
                have FP := (Fresh.at w5 (P := w5.heap.size) (by simp))
                gi_wp2_with (gi_at_call 31; refine (callsIn_plain (up _ _ _ _ _ (times_nat y qn _ _ _ (hB5.alloc _) (hd5.alloc _) ly (small_digit hnp)))).mono ?_; rintro e w6 ⟨A6, c6, rfl, hd6, hb6⟩; have hb46 : Below w4.heap.size w4 w6 := (hb45.alloc hb45.size _).trans (hb6.mono (hb45.alloc hb45.size _).size); have FP6 := FP.below hb6)
                try (refine hK _ _ ?_; clear hK K)
                refine wpAnyIn_ready (rs := [9]) (by kernel_rfl) (by simp) ?_
                refine AllReadyIn.cons rfl (fun K hK => ?_) ?_
                · -- [1, 4, 6, 8, 7] 9
                  obtain ⟨p0, p1, p2, p3, pb⟩ := id (FP6)
                  go_simp
                  try (refine hK _ _ ?_; clear hK K)
                  refine wpAnyIn_done (by kernel_rfl) ?_ _
                  refine hM _ _ (Met.intro ?_)
                  refine hJ _ _ ?_
                  (repeat apply Exists.intro)
                  refine ⟨?_, rfl⟩
                  exact ⟨w5.heap.size, A6, c6, rfl, leaf8 hb46 z45 FP6 hd6⟩
                exact AllReadyIn.nil
              exact AllReadyIn.nil
            exact AllReadyIn.nil
          refine AllReadyIn.cons rfl (fun K hK => ?_) ?_
          · -- [1, 4] 8
            go_simp
            try (refine hK _ _ ?_; clear hK K)
            refine wpAnyIn_ready (rs := [6]) (by kernel_rfl) (by simp) ?_
            refine AllReadyIn.cons rfl (fun K hK => ?_) ?_
            · -- [1, 4, 8] 6
              go_simp
              have FP := (Fresh.at (w4.drew.alloc (.cells #[.int .i64 qn] 3)) (P := w4.heap.size + 1) (by simp))
              gi_wp2_with (gi_at_call 45; refine (callsIn_plain (up _ _ _ _ _ (trimmed_one _ qn _ hnp ((digs_one_at (W := w4.drew) _ (by simp)).alloc _)))).mono ?_; rintro e w5 ⟨A5, c5, rfl, hd5, hb5⟩; have hb45 : Below w4.heap.size w4 w5 := (((Below.refl w4.heap.size w4).drew.alloc (by simp <;> omega) _).alloc (by simp <;> omega) _).trans (hb5.mono (by simp <;> omega)); have hB5 := hBW4.below hb45; have k5 := keeps_cell hb45 t6; have y0 : w.heap.size + 1 < w5.heap.size := Nat.lt_of_lt_of_le zz5 hb45.size; have z45 : w4.heap.size ≤ w5.heap.size := hb45.size; have FP5 := FP.below hb5)
              try (refine hK _ _ ?_; clear hK K)
              refine wpAnyIn_ready (rs := [7]) (by kernel_rfl) (by simp) ?_
              refine AllReadyIn.cons rfl (fun K hK => ?_) ?_
              · -- [1, 4, 8, 6] 7
                go_simp
                have FP := FP5
                gi_wp2_with (gi_at_call 31; refine (callsIn_plain (up _ _ _ _ _ (times_nat y qn _ _ _ (hB5) (hd5) ly (small_digit hnp)))).mono ?_; rintro e w6 ⟨A6, c6, rfl, hd6, hb6⟩; have hb46 : Below w4.heap.size w4 w6 := hb45.trans (hb6.mono hb45.size); have FP6 := FP.below hb6)
                try (refine hK _ _ ?_; clear hK K)
                refine wpAnyIn_ready (rs := [9]) (by kernel_rfl) (by simp) ?_
                refine AllReadyIn.cons rfl (fun K hK => ?_) ?_
                · -- [1, 4, 8, 6, 7] 9
                  obtain ⟨p0, p1, p2, p3, pb⟩ := id (FP6)
                  go_simp
                  try (refine hK _ _ ?_; clear hK K)
                  refine wpAnyIn_done (by kernel_rfl) ?_ _
                  refine hM _ _ (Met.intro ?_)
                  refine hJ _ _ ?_
                  (repeat apply Exists.intro)
                  refine ⟨?_, rfl⟩
                  exact ⟨w4.heap.size + 1, A6, c6, rfl, leaf8 hb46 (by omega) FP6 hd6⟩
                exact AllReadyIn.nil
              exact AllReadyIn.nil
            exact AllReadyIn.nil
          exact AllReadyIn.nil
        refine AllReadyIn.cons rfl (fun K hK => ?_) ?_
        · -- [1] 8
          go_simp
          try (refine hK _ _ ?_; clear hK K)
          refine wpAnyIn_ready (rs := [4]) (by kernel_rfl) (by simp) ?_
          refine AllReadyIn.cons rfl (fun K hK => ?_) ?_
          · -- [1, 8] 4
            go_simp
            try (refine hK _ _ ?_; clear hK K)
            refine wpAnyIn_take (i := 5) (v := .agg #[.bool false, .slice (some ⟨w4.heap.size + 1, 0, none⟩) 1 1]) rfl rfl (by kernel_rfl) (by kernel_rfl) (by kernel_rfl) (fun _ _ _ h => h) ⟨Or.inl ⟨by rfl, ?_⟩, fun _ => rfl⟩ ?_
            · (intro w; go_simp <;> rfl)
            refine wpAnyIn_ready (rs := [6]) (by kernel_rfl) (by simp) ?_
            refine AllReadyIn.cons rfl (fun K hK => ?_) ?_
            · -- [1, 8, 4] 6
              go_simp
              have FP := ((Fresh.at w4.drew (P := w4.heap.size) (by simp)).alloc (.cells #[.int .i64 qn] 3))
              gi_wp2_with (gi_at_call 45; refine (callsIn_plain (up _ _ _ _ _ (trimmed_one _ qn _ hnp (digs_one_at (W := (w4.drew.alloc (.cells #[.bool false, .slice none 0 0] 43))) _ (by simp))))).mono ?_; rintro e w5 ⟨A5, c5, rfl, hd5, hb5⟩; have hb45 : Below w4.heap.size w4 w5 := (((Below.refl w4.heap.size w4).drew.alloc (by simp <;> omega) _).alloc (by simp <;> omega) _).trans (hb5.mono (by simp <;> omega)); have hB5 := hBW4.below hb45; have k5 := keeps_cell hb45 t6; have y0 : w.heap.size + 1 < w5.heap.size := Nat.lt_of_lt_of_le zz5 hb45.size; have z45 : w4.heap.size ≤ w5.heap.size := hb45.size; have FP5 := FP.below hb5)
              try (refine hK _ _ ?_; clear hK K)
              refine wpAnyIn_ready (rs := [7]) (by kernel_rfl) (by simp) ?_
              refine AllReadyIn.cons rfl (fun K hK => ?_) ?_
              · -- [1, 8, 4, 6] 7
                go_simp
                have FP := FP5
                gi_wp2_with (gi_at_call 31; refine (callsIn_plain (up _ _ _ _ _ (times_nat y qn _ _ _ (hB5) (hd5) ly (small_digit hnp)))).mono ?_; rintro e w6 ⟨A6, c6, rfl, hd6, hb6⟩; have hb46 : Below w4.heap.size w4 w6 := hb45.trans (hb6.mono hb45.size); have FP6 := FP.below hb6)
                try (refine hK _ _ ?_; clear hK K)
                refine wpAnyIn_ready (rs := [9]) (by kernel_rfl) (by simp) ?_
                refine AllReadyIn.cons rfl (fun K hK => ?_) ?_
                · -- [1, 8, 4, 6, 7] 9
                  obtain ⟨p0, p1, p2, p3, pb⟩ := id (FP6)
                  go_simp
                  try (refine hK _ _ ?_; clear hK K)
                  refine wpAnyIn_done (by kernel_rfl) ?_ _
                  refine hM _ _ (Met.intro ?_)
                  refine hJ _ _ ?_
                  (repeat apply Exists.intro)
                  refine ⟨?_, rfl⟩
                  exact ⟨w4.heap.size, A6, c6, rfl, leaf8 hb46 (by omega) FP6 hd6⟩
                exact AllReadyIn.nil
              exact AllReadyIn.nil
            exact AllReadyIn.nil
          exact AllReadyIn.nil
        exact AllReadyIn.nil
      refine AllReadyIn.cons rfl (fun K hK => ?_) ?_
      · -- [] 4
        go_simp
        try (refine hK _ _ ?_; clear hK K)
        refine wpAnyIn_take (i := 5) (v := .agg #[.bool false, .slice (some ⟨w4.heap.size, 0, none⟩) 1 1]) rfl rfl (by kernel_rfl) (by kernel_rfl) (by kernel_rfl) (fun _ _ _ h => h) ⟨Or.inl ⟨by rfl, ?_⟩, fun _ => rfl⟩ ?_
        · (intro w; go_simp <;> rfl)
        refine wpAnyIn_ready (rs := [1, 6, 8]) (by kernel_rfl) (by simp) ?_
        refine AllReadyIn.cons rfl (fun K hK => ?_) ?_
        · -- [4] 1
          go_simp
          try (refine hK _ _ ?_; clear hK K)
          refine wpAnyIn_take (i := 2) (v := .agg #[.bool false, .slice B m cb]) rfl rfl (by kernel_rfl) (by kernel_rfl) (by kernel_rfl) (fun _ _ _ h => h) ⟨Or.inl ⟨by rfl, ?_⟩, fun _ => rfl⟩ ?_
          · (intro w; go_simp <;> rfl)
          refine wpAnyIn_ready (rs := [6, 8]) (by kernel_rfl) (by simp) ?_
          refine AllReadyIn.cons rfl (fun K hK => ?_) ?_
          · -- [4, 1] 6
            go_simp
            gi_wp2_with (gi_at_call 45; refine (callsIn_plain (up _ _ _ _ _ (trimmed_one _ qn _ hnp (digs_one_at (W := w4.drew) _ (by simp))))).mono ?_; rintro e w5 ⟨A5, c5, rfl, hd5, hb5⟩; have hb45 : Below w4.heap.size w4 w5 := ((Below.refl w4.heap.size w4).drew.alloc (by simp <;> omega) _).trans (hb5.mono (by simp <;> omega)); have hB5 := hBW4.below hb45; have k5 := keeps_cell hb45 t6; have y0 : w.heap.size + 1 < w5.heap.size := Nat.lt_of_lt_of_le zz5 hb45.size; have z45 : w4.heap.size ≤ w5.heap.size := hb45.size)
            try (refine hK _ _ ?_; clear hK K)
            refine wpAnyIn_ready (rs := [7, 8]) (by kernel_rfl) (by simp) ?_
            refine AllReadyIn.cons rfl (fun K hK => ?_) ?_
            · -- [4, 1, 6] 7
              go_simp
              gi_wp2_with (gi_at_call 31; refine (callsIn_plain (up _ _ _ _ _ (times_nat y qn _ _ _ (hB5) (hd5) ly (small_digit hnp)))).mono ?_; rintro e w6 ⟨A6, c6, rfl, hd6, hb6⟩; have hb46 : Below w4.heap.size w4 w6 := hb45.trans (hb6.mono hb45.size))
              try (refine hK _ _ ?_; clear hK K)
              refine wpAnyIn_ready (rs := [8]) (by kernel_rfl) (by simp) ?_
              refine AllReadyIn.cons rfl (fun K hK => ?_) ?_
              · -- [4, 1, 6, 7] 8
                go_simp
                try (refine hK _ _ ?_; clear hK K)
                refine wpAnyIn_ready (rs := [9]) (by kernel_rfl) (by simp) ?_
                refine AllReadyIn.cons rfl (fun K hK => ?_) ?_
                · -- [4, 1, 6, 7, 8] 9
                  obtain ⟨p0, p1, p2, p3, pb⟩ := id ((Fresh.at w6 (P := w6.heap.size) (by simp)))
                  go_simp
                  try (refine hK _ _ ?_; clear hK K)
                  refine wpAnyIn_done (by kernel_rfl) ?_ _
                  refine hM _ _ (Met.intro ?_)
                  refine hJ _ _ ?_
                  (repeat apply Exists.intro)
                  refine ⟨?_, rfl⟩
                  exact ⟨w6.heap.size, A6, c6, rfl, leafN hb46 hd6⟩
                exact AllReadyIn.nil
              exact AllReadyIn.nil
            refine AllReadyIn.cons rfl (fun K hK => ?_) ?_
            · -- [4, 1, 6] 8
              go_simp
              try (refine hK _ _ ?_; clear hK K)
              refine wpAnyIn_ready (rs := [7]) (by kernel_rfl) (by simp) ?_
              refine AllReadyIn.cons rfl (fun K hK => ?_) ?_
              · -- [4, 1, 6, 8] 7
                go_simp
                have FP := (Fresh.at w5 (P := w5.heap.size) (by simp))
                gi_wp2_with (gi_at_call 31; refine (callsIn_plain (up _ _ _ _ _ (times_nat y qn _ _ _ (hB5.alloc _) (hd5.alloc _) ly (small_digit hnp)))).mono ?_; rintro e w6 ⟨A6, c6, rfl, hd6, hb6⟩; have hb46 : Below w4.heap.size w4 w6 := (hb45.alloc hb45.size _).trans (hb6.mono (hb45.alloc hb45.size _).size); have FP6 := FP.below hb6)
                try (refine hK _ _ ?_; clear hK K)
                refine wpAnyIn_ready (rs := [9]) (by kernel_rfl) (by simp) ?_
                refine AllReadyIn.cons rfl (fun K hK => ?_) ?_
                · -- [4, 1, 6, 8, 7] 9
                  obtain ⟨p0, p1, p2, p3, pb⟩ := id (FP6)
                  go_simp
                  try (refine hK _ _ ?_; clear hK K)
                  refine wpAnyIn_done (by kernel_rfl) ?_ _
                  refine hM _ _ (Met.intro ?_)
                  refine hJ _ _ ?_
                  (repeat apply Exists.intro)
                  refine ⟨?_, rfl⟩
                  exact ⟨w5.heap.size, A6, c6, rfl, leaf8 hb46 z45 FP6 hd6⟩
                exact AllReadyIn.nil
              exact AllReadyIn.nil
            exact AllReadyIn.nil
          refine AllReadyIn.cons rfl (fun K hK => ?_) ?_
          · -- [4, 1] 8
            go_simp
            try (refine hK _ _ ?_; clear hK K)
            refine wpAnyIn_ready (rs := [6]) (by kernel_rfl) (by simp) ?_
            refine AllReadyIn.cons rfl (fun K hK => ?_) ?_
            · -- [4, 1, 8] 6
              go_simp
              have FP := (Fresh.at (w4.drew.alloc (.cells #[.int .i64 qn] 3)) (P := w4.heap.size + 1) (by simp))
              gi_wp2_with (gi_at_call 45; refine (callsIn_plain (up _ _ _ _ _ (trimmed_one _ qn _ hnp ((digs_one_at (W := w4.drew) _ (by simp)).alloc _)))).mono ?_; rintro e w5 ⟨A5, c5, rfl, hd5, hb5⟩; have hb45 : Below w4.heap.size w4 w5 := (((Below.refl w4.heap.size w4).drew.alloc (by simp <;> omega) _).alloc (by simp <;> omega) _).trans (hb5.mono (by simp <;> omega)); have hB5 := hBW4.below hb45; have k5 := keeps_cell hb45 t6; have y0 : w.heap.size + 1 < w5.heap.size := Nat.lt_of_lt_of_le zz5 hb45.size; have z45 : w4.heap.size ≤ w5.heap.size := hb45.size; have FP5 := FP.below hb5)
              try (refine hK _ _ ?_; clear hK K)
              refine wpAnyIn_ready (rs := [7]) (by kernel_rfl) (by simp) ?_
              refine AllReadyIn.cons rfl (fun K hK => ?_) ?_
              · -- [4, 1, 8, 6] 7
                go_simp
                have FP := FP5
                gi_wp2_with (gi_at_call 31; refine (callsIn_plain (up _ _ _ _ _ (times_nat y qn _ _ _ (hB5) (hd5) ly (small_digit hnp)))).mono ?_; rintro e w6 ⟨A6, c6, rfl, hd6, hb6⟩; have hb46 : Below w4.heap.size w4 w6 := hb45.trans (hb6.mono hb45.size); have FP6 := FP.below hb6)
                try (refine hK _ _ ?_; clear hK K)
                refine wpAnyIn_ready (rs := [9]) (by kernel_rfl) (by simp) ?_
                refine AllReadyIn.cons rfl (fun K hK => ?_) ?_
                · -- [4, 1, 8, 6, 7] 9
                  obtain ⟨p0, p1, p2, p3, pb⟩ := id (FP6)
                  go_simp
                  try (refine hK _ _ ?_; clear hK K)
                  refine wpAnyIn_done (by kernel_rfl) ?_ _
                  refine hM _ _ (Met.intro ?_)
                  refine hJ _ _ ?_
                  (repeat apply Exists.intro)
                  refine ⟨?_, rfl⟩
                  exact ⟨w4.heap.size + 1, A6, c6, rfl, leaf8 hb46 (by omega) FP6 hd6⟩
                exact AllReadyIn.nil
              exact AllReadyIn.nil
            exact AllReadyIn.nil
          exact AllReadyIn.nil
        refine AllReadyIn.cons rfl (fun K hK => ?_) ?_
        · -- [4] 6
          go_simp
          gi_wp2_with (gi_at_call 45; refine (callsIn_plain (up _ _ _ _ _ (trimmed_one _ qn _ hnp (digs_one_at (W := w4.drew) _ (by simp))))).mono ?_; rintro e w5 ⟨A5, c5, rfl, hd5, hb5⟩; have hb45 : Below w4.heap.size w4 w5 := ((Below.refl w4.heap.size w4).drew.alloc (by simp <;> omega) _).trans (hb5.mono (by simp <;> omega)); have hB5 := hBW4.below hb45; have k5 := keeps_cell hb45 t6; have y0 : w.heap.size + 1 < w5.heap.size := Nat.lt_of_lt_of_le zz5 hb45.size; have z45 : w4.heap.size ≤ w5.heap.size := hb45.size)
          try (refine hK _ _ ?_; clear hK K)
          refine wpAnyIn_ready (rs := [1, 8]) (by kernel_rfl) (by simp) ?_
          refine AllReadyIn.cons rfl (fun K hK => ?_) ?_
          · -- [4, 6] 1
            go_simp
            try (refine hK _ _ ?_; clear hK K)
            refine wpAnyIn_take (i := 2) (v := .agg #[.bool false, .slice B m cb]) rfl rfl (by kernel_rfl) (by kernel_rfl) (by kernel_rfl) (fun _ _ _ h => h) ⟨Or.inl ⟨by rfl, ?_⟩, fun _ => rfl⟩ ?_
            · (intro w; go_simp <;> rfl)
            refine wpAnyIn_ready (rs := [7, 8]) (by kernel_rfl) (by simp) ?_
            refine AllReadyIn.cons rfl (fun K hK => ?_) ?_
            · -- [4, 6, 1] 7
              go_simp
              gi_wp2_with (gi_at_call 31; refine (callsIn_plain (up _ _ _ _ _ (times_nat y qn _ _ _ (hB5) (hd5) ly (small_digit hnp)))).mono ?_; rintro e w6 ⟨A6, c6, rfl, hd6, hb6⟩; have hb46 : Below w4.heap.size w4 w6 := hb45.trans (hb6.mono hb45.size))
              try (refine hK _ _ ?_; clear hK K)
              refine wpAnyIn_ready (rs := [8]) (by kernel_rfl) (by simp) ?_
              refine AllReadyIn.cons rfl (fun K hK => ?_) ?_
              · -- [4, 6, 1, 7] 8
                go_simp
                try (refine hK _ _ ?_; clear hK K)
                refine wpAnyIn_ready (rs := [9]) (by kernel_rfl) (by simp) ?_
                refine AllReadyIn.cons rfl (fun K hK => ?_) ?_
                · -- [4, 6, 1, 7, 8] 9
                  obtain ⟨p0, p1, p2, p3, pb⟩ := id ((Fresh.at w6 (P := w6.heap.size) (by simp)))
                  go_simp
                  try (refine hK _ _ ?_; clear hK K)
                  refine wpAnyIn_done (by kernel_rfl) ?_ _
                  refine hM _ _ (Met.intro ?_)
                  refine hJ _ _ ?_
                  (repeat apply Exists.intro)
                  refine ⟨?_, rfl⟩
                  exact ⟨w6.heap.size, A6, c6, rfl, leafN hb46 hd6⟩
                exact AllReadyIn.nil
              exact AllReadyIn.nil
            refine AllReadyIn.cons rfl (fun K hK => ?_) ?_
            · -- [4, 6, 1] 8
              go_simp
              try (refine hK _ _ ?_; clear hK K)
              refine wpAnyIn_ready (rs := [7]) (by kernel_rfl) (by simp) ?_
              refine AllReadyIn.cons rfl (fun K hK => ?_) ?_
              · -- [4, 6, 1, 8] 7
                go_simp
                have FP := (Fresh.at w5 (P := w5.heap.size) (by simp))
                gi_wp2_with (gi_at_call 31; refine (callsIn_plain (up _ _ _ _ _ (times_nat y qn _ _ _ (hB5.alloc _) (hd5.alloc _) ly (small_digit hnp)))).mono ?_; rintro e w6 ⟨A6, c6, rfl, hd6, hb6⟩; have hb46 : Below w4.heap.size w4 w6 := (hb45.alloc hb45.size _).trans (hb6.mono (hb45.alloc hb45.size _).size); have FP6 := FP.below hb6)
                try (refine hK _ _ ?_; clear hK K)
                refine wpAnyIn_ready (rs := [9]) (by kernel_rfl) (by simp) ?_
                refine AllReadyIn.cons rfl (fun K hK => ?_) ?_
                · -- [4, 6, 1, 8, 7] 9
                  obtain ⟨p0, p1, p2, p3, pb⟩ := id (FP6)
                  go_simp
                  try (refine hK _ _ ?_; clear hK K)
                  refine wpAnyIn_done (by kernel_rfl) ?_ _
                  refine hM _ _ (Met.intro ?_)
                  refine hJ _ _ ?_
                  (repeat apply Exists.intro)
                  refine ⟨?_, rfl⟩
                  exact ⟨w5.heap.size, A6, c6, rfl, leaf8 hb46 z45 FP6 hd6⟩
                exact AllReadyIn.nil
              exact AllReadyIn.nil
            exact AllReadyIn.nil
          refine AllReadyIn.cons rfl (fun K hK => ?_) ?_
          · -- [4, 6] 8
            go_simp
            try (refine hK _ _ ?_; clear hK K)
            refine wpAnyIn_ready (rs := [1]) (by kernel_rfl) (by simp) ?_
            refine AllReadyIn.cons rfl (fun K hK => ?_) ?_
            · -- [4, 6, 8] 1
              go_simp
              try (refine hK _ _ ?_; clear hK K)
              refine wpAnyIn_take (i := 2) (v := .agg #[.bool false, .slice B m cb]) rfl rfl (by kernel_rfl) (by kernel_rfl) (by kernel_rfl) (fun _ _ _ h => h) ⟨Or.inl ⟨by rfl, ?_⟩, fun _ => rfl⟩ ?_
              · (intro w; go_simp <;> rfl)
              refine wpAnyIn_ready (rs := [7]) (by kernel_rfl) (by simp) ?_
              refine AllReadyIn.cons rfl (fun K hK => ?_) ?_
              · -- [4, 6, 8, 1] 7
                go_simp
                have FP := (Fresh.at w5 (P := w5.heap.size) (by simp))
                gi_wp2_with (gi_at_call 31; refine (callsIn_plain (up _ _ _ _ _ (times_nat y qn _ _ _ (hB5.alloc _) (hd5.alloc _) ly (small_digit hnp)))).mono ?_; rintro e w6 ⟨A6, c6, rfl, hd6, hb6⟩; have hb46 : Below w4.heap.size w4 w6 := (hb45.alloc hb45.size _).trans (hb6.mono (hb45.alloc hb45.size _).size); have FP6 := FP.below hb6)
                try (refine hK _ _ ?_; clear hK K)
                refine wpAnyIn_ready (rs := [9]) (by kernel_rfl) (by simp) ?_
                refine AllReadyIn.cons rfl (fun K hK => ?_) ?_
                · -- [4, 6, 8, 1, 7] 9
                  obtain ⟨p0, p1, p2, p3, pb⟩ := id (FP6)
                  go_simp
                  try (refine hK _ _ ?_; clear hK K)
                  refine wpAnyIn_done (by kernel_rfl) ?_ _
                  refine hM _ _ (Met.intro ?_)
                  refine hJ _ _ ?_
                  (repeat apply Exists.intro)
                  refine ⟨?_, rfl⟩
                  exact ⟨w5.heap.size, A6, c6, rfl, leaf8 hb46 z45 FP6 hd6⟩
                exact AllReadyIn.nil
              exact AllReadyIn.nil
            exact AllReadyIn.nil
          exact AllReadyIn.nil
        refine AllReadyIn.cons rfl (fun K hK => ?_) ?_
        · -- [4] 8
          go_simp
          try (refine hK _ _ ?_; clear hK K)
          refine wpAnyIn_ready (rs := [1, 6]) (by kernel_rfl) (by simp) ?_
          refine AllReadyIn.cons rfl (fun K hK => ?_) ?_
          · -- [4, 8] 1
            go_simp
            try (refine hK _ _ ?_; clear hK K)
            refine wpAnyIn_take (i := 2) (v := .agg #[.bool false, .slice B m cb]) rfl rfl (by kernel_rfl) (by kernel_rfl) (by kernel_rfl) (fun _ _ _ h => h) ⟨Or.inl ⟨by rfl, ?_⟩, fun _ => rfl⟩ ?_
            · (intro w; go_simp <;> rfl)
            refine wpAnyIn_ready (rs := [6]) (by kernel_rfl) (by simp) ?_
            refine AllReadyIn.cons rfl (fun K hK => ?_) ?_
            · -- [4, 8, 1] 6
              go_simp
              have FP := (Fresh.at (w4.drew.alloc (.cells #[.int .i64 qn] 3)) (P := w4.heap.size + 1) (by simp))
              gi_wp2_with (gi_at_call 45; refine (callsIn_plain (up _ _ _ _ _ (trimmed_one _ qn _ hnp ((digs_one_at (W := w4.drew) _ (by simp)).alloc _)))).mono ?_; rintro e w5 ⟨A5, c5, rfl, hd5, hb5⟩; have hb45 : Below w4.heap.size w4 w5 := (((Below.refl w4.heap.size w4).drew.alloc (by simp <;> omega) _).alloc (by simp <;> omega) _).trans (hb5.mono (by simp <;> omega)); have hB5 := hBW4.below hb45; have k5 := keeps_cell hb45 t6; have y0 : w.heap.size + 1 < w5.heap.size := Nat.lt_of_lt_of_le zz5 hb45.size; have z45 : w4.heap.size ≤ w5.heap.size := hb45.size; have FP5 := FP.below hb5)
              try (refine hK _ _ ?_; clear hK K)
              refine wpAnyIn_ready (rs := [7]) (by kernel_rfl) (by simp) ?_
              refine AllReadyIn.cons rfl (fun K hK => ?_) ?_
              · -- [4, 8, 1, 6] 7
                go_simp
                have FP := FP5
                gi_wp2_with (gi_at_call 31; refine (callsIn_plain (up _ _ _ _ _ (times_nat y qn _ _ _ (hB5) (hd5) ly (small_digit hnp)))).mono ?_; rintro e w6 ⟨A6, c6, rfl, hd6, hb6⟩; have hb46 : Below w4.heap.size w4 w6 := hb45.trans (hb6.mono hb45.size); have FP6 := FP.below hb6)
                try (refine hK _ _ ?_; clear hK K)
                refine wpAnyIn_ready (rs := [9]) (by kernel_rfl) (by simp) ?_
                refine AllReadyIn.cons rfl (fun K hK => ?_) ?_
                · -- [4, 8, 1, 6, 7] 9
                  obtain ⟨p0, p1, p2, p3, pb⟩ := id (FP6)
                  go_simp
                  try (refine hK _ _ ?_; clear hK K)
                  refine wpAnyIn_done (by kernel_rfl) ?_ _
                  refine hM _ _ (Met.intro ?_)
                  refine hJ _ _ ?_
                  (repeat apply Exists.intro)
                  refine ⟨?_, rfl⟩
                  exact ⟨w4.heap.size + 1, A6, c6, rfl, leaf8 hb46 (by omega) FP6 hd6⟩
                exact AllReadyIn.nil
              exact AllReadyIn.nil
            exact AllReadyIn.nil
          refine AllReadyIn.cons rfl (fun K hK => ?_) ?_
          · -- [4, 8] 6
            go_simp
            have FP := (Fresh.at (w4.drew.alloc (.cells #[.int .i64 qn] 3)) (P := w4.heap.size + 1) (by simp))
            gi_wp2_with (gi_at_call 45; refine (callsIn_plain (up _ _ _ _ _ (trimmed_one _ qn _ hnp ((digs_one_at (W := w4.drew) _ (by simp)).alloc _)))).mono ?_; rintro e w5 ⟨A5, c5, rfl, hd5, hb5⟩; have hb45 : Below w4.heap.size w4 w5 := (((Below.refl w4.heap.size w4).drew.alloc (by simp <;> omega) _).alloc (by simp <;> omega) _).trans (hb5.mono (by simp <;> omega)); have hB5 := hBW4.below hb45; have k5 := keeps_cell hb45 t6; have y0 : w.heap.size + 1 < w5.heap.size := Nat.lt_of_lt_of_le zz5 hb45.size; have z45 : w4.heap.size ≤ w5.heap.size := hb45.size; have FP5 := FP.below hb5)
            try (refine hK _ _ ?_; clear hK K)
            refine wpAnyIn_ready (rs := [1]) (by kernel_rfl) (by simp) ?_
            refine AllReadyIn.cons rfl (fun K hK => ?_) ?_
            · -- [4, 8, 6] 1
              go_simp
              try (refine hK _ _ ?_; clear hK K)
              refine wpAnyIn_take (i := 2) (v := .agg #[.bool false, .slice B m cb]) rfl rfl (by kernel_rfl) (by kernel_rfl) (by kernel_rfl) (fun _ _ _ h => h) ⟨Or.inl ⟨by rfl, ?_⟩, fun _ => rfl⟩ ?_
              · (intro w; go_simp <;> rfl)
              refine wpAnyIn_ready (rs := [7]) (by kernel_rfl) (by simp) ?_
              refine AllReadyIn.cons rfl (fun K hK => ?_) ?_
              · -- [4, 8, 6, 1] 7
                go_simp
                have FP := FP5
                gi_wp2_with (gi_at_call 31; refine (callsIn_plain (up _ _ _ _ _ (times_nat y qn _ _ _ (hB5) (hd5) ly (small_digit hnp)))).mono ?_; rintro e w6 ⟨A6, c6, rfl, hd6, hb6⟩; have hb46 : Below w4.heap.size w4 w6 := hb45.trans (hb6.mono hb45.size); have FP6 := FP.below hb6)
                try (refine hK _ _ ?_; clear hK K)
                refine wpAnyIn_ready (rs := [9]) (by kernel_rfl) (by simp) ?_
                refine AllReadyIn.cons rfl (fun K hK => ?_) ?_
                · -- [4, 8, 6, 1, 7] 9
                  obtain ⟨p0, p1, p2, p3, pb⟩ := id (FP6)
                  go_simp
                  try (refine hK _ _ ?_; clear hK K)
                  refine wpAnyIn_done (by kernel_rfl) ?_ _
                  refine hM _ _ (Met.intro ?_)
                  refine hJ _ _ ?_
                  (repeat apply Exists.intro)
                  refine ⟨?_, rfl⟩
                  exact ⟨w4.heap.size + 1, A6, c6, rfl, leaf8 hb46 (by omega) FP6 hd6⟩
                exact AllReadyIn.nil
              exact AllReadyIn.nil
            exact AllReadyIn.nil
          exact AllReadyIn.nil
        exact AllReadyIn.nil
      refine AllReadyIn.cons rfl (fun K hK => ?_) ?_
      · -- [] 8
        go_simp
        try (refine hK _ _ ?_; clear hK K)
        refine wpAnyIn_ready (rs := [1, 4]) (by kernel_rfl) (by simp) ?_
        refine AllReadyIn.cons rfl (fun K hK => ?_) ?_
        · -- [8] 1
          go_simp
          try (refine hK _ _ ?_; clear hK K)
          refine wpAnyIn_take (i := 2) (v := .agg #[.bool false, .slice B m cb]) rfl rfl (by kernel_rfl) (by kernel_rfl) (by kernel_rfl) (fun _ _ _ h => h) ⟨Or.inl ⟨by rfl, ?_⟩, fun _ => rfl⟩ ?_
          · (intro w; go_simp <;> rfl)
          refine wpAnyIn_ready (rs := [4]) (by kernel_rfl) (by simp) ?_
          refine AllReadyIn.cons rfl (fun K hK => ?_) ?_
          · -- [8, 1] 4
            go_simp
            try (refine hK _ _ ?_; clear hK K)
            refine wpAnyIn_take (i := 5) (v := .agg #[.bool false, .slice (some ⟨w4.heap.size + 1, 0, none⟩) 1 1]) rfl rfl (by kernel_rfl) (by kernel_rfl) (by kernel_rfl) (fun _ _ _ h => h) ⟨Or.inl ⟨by rfl, ?_⟩, fun _ => rfl⟩ ?_
            · (intro w; go_simp <;> rfl)
            refine wpAnyIn_ready (rs := [6]) (by kernel_rfl) (by simp) ?_
            refine AllReadyIn.cons rfl (fun K hK => ?_) ?_
            · -- [8, 1, 4] 6
              go_simp
              have FP := ((Fresh.at w4.drew (P := w4.heap.size) (by simp)).alloc (.cells #[.int .i64 qn] 3))
              gi_wp2_with (gi_at_call 45; refine (callsIn_plain (up _ _ _ _ _ (trimmed_one _ qn _ hnp (digs_one_at (W := (w4.drew.alloc (.cells #[.bool false, .slice none 0 0] 43))) _ (by simp))))).mono ?_; rintro e w5 ⟨A5, c5, rfl, hd5, hb5⟩; have hb45 : Below w4.heap.size w4 w5 := (((Below.refl w4.heap.size w4).drew.alloc (by simp <;> omega) _).alloc (by simp <;> omega) _).trans (hb5.mono (by simp <;> omega)); have hB5 := hBW4.below hb45; have k5 := keeps_cell hb45 t6; have y0 : w.heap.size + 1 < w5.heap.size := Nat.lt_of_lt_of_le zz5 hb45.size; have z45 : w4.heap.size ≤ w5.heap.size := hb45.size; have FP5 := FP.below hb5)
              try (refine hK _ _ ?_; clear hK K)
              refine wpAnyIn_ready (rs := [7]) (by kernel_rfl) (by simp) ?_
              refine AllReadyIn.cons rfl (fun K hK => ?_) ?_
              · -- [8, 1, 4, 6] 7
                go_simp
                have FP := FP5
                gi_wp2_with (gi_at_call 31; refine (callsIn_plain (up _ _ _ _ _ (times_nat y qn _ _ _ (hB5) (hd5) ly (small_digit hnp)))).mono ?_; rintro e w6 ⟨A6, c6, rfl, hd6, hb6⟩; have hb46 : Below w4.heap.size w4 w6 := hb45.trans (hb6.mono hb45.size); have FP6 := FP.below hb6)
                try (refine hK _ _ ?_; clear hK K)
                refine wpAnyIn_ready (rs := [9]) (by kernel_rfl) (by simp) ?_
                refine AllReadyIn.cons rfl (fun K hK => ?_) ?_
                · -- [8, 1, 4, 6, 7] 9
                  obtain ⟨p0, p1, p2, p3, pb⟩ := id (FP6)
                  go_simp
                  try (refine hK _ _ ?_; clear hK K)
                  refine wpAnyIn_done (by kernel_rfl) ?_ _
                  refine hM _ _ (Met.intro ?_)
                  refine hJ _ _ ?_
                  (repeat apply Exists.intro)
                  refine ⟨?_, rfl⟩
                  exact ⟨w4.heap.size, A6, c6, rfl, leaf8 hb46 (by omega) FP6 hd6⟩
                exact AllReadyIn.nil
              exact AllReadyIn.nil
            exact AllReadyIn.nil
          exact AllReadyIn.nil
        refine AllReadyIn.cons rfl (fun K hK => ?_) ?_
        · -- [8] 4
          go_simp
          try (refine hK _ _ ?_; clear hK K)
          refine wpAnyIn_take (i := 5) (v := .agg #[.bool false, .slice (some ⟨w4.heap.size + 1, 0, none⟩) 1 1]) rfl rfl (by kernel_rfl) (by kernel_rfl) (by kernel_rfl) (fun _ _ _ h => h) ⟨Or.inl ⟨by rfl, ?_⟩, fun _ => rfl⟩ ?_
          · (intro w; go_simp <;> rfl)
          refine wpAnyIn_ready (rs := [1, 6]) (by kernel_rfl) (by simp) ?_
          refine AllReadyIn.cons rfl (fun K hK => ?_) ?_
          · -- [8, 4] 1
            go_simp
            try (refine hK _ _ ?_; clear hK K)
            refine wpAnyIn_take (i := 2) (v := .agg #[.bool false, .slice B m cb]) rfl rfl (by kernel_rfl) (by kernel_rfl) (by kernel_rfl) (fun _ _ _ h => h) ⟨Or.inl ⟨by rfl, ?_⟩, fun _ => rfl⟩ ?_
            · (intro w; go_simp <;> rfl)
            refine wpAnyIn_ready (rs := [6]) (by kernel_rfl) (by simp) ?_
            refine AllReadyIn.cons rfl (fun K hK => ?_) ?_
            · -- [8, 4, 1] 6
              go_simp
              have FP := ((Fresh.at w4.drew (P := w4.heap.size) (by simp)).alloc (.cells #[.int .i64 qn] 3))
              gi_wp2_with (gi_at_call 45; refine (callsIn_plain (up _ _ _ _ _ (trimmed_one _ qn _ hnp (digs_one_at (W := (w4.drew.alloc (.cells #[.bool false, .slice none 0 0] 43))) _ (by simp))))).mono ?_; rintro e w5 ⟨A5, c5, rfl, hd5, hb5⟩; have hb45 : Below w4.heap.size w4 w5 := (((Below.refl w4.heap.size w4).drew.alloc (by simp <;> omega) _).alloc (by simp <;> omega) _).trans (hb5.mono (by simp <;> omega)); have hB5 := hBW4.below hb45; have k5 := keeps_cell hb45 t6; have y0 : w.heap.size + 1 < w5.heap.size := Nat.lt_of_lt_of_le zz5 hb45.size; have z45 : w4.heap.size ≤ w5.heap.size := hb45.size; have FP5 := FP.below hb5)
              try (refine hK _ _ ?_; clear hK K)
              refine wpAnyIn_ready (rs := [7]) (by kernel_rfl) (by simp) ?_
              refine AllReadyIn.cons rfl (fun K hK => ?_) ?_
              · -- [8, 4, 1, 6] 7
                go_simp
                have FP := FP5
                gi_wp2_with (gi_at_call 31; refine (callsIn_plain (up _ _ _ _ _ (times_nat y qn _ _ _ (hB5) (hd5) ly (small_digit hnp)))).mono ?_; rintro e w6 ⟨A6, c6, rfl, hd6, hb6⟩; have hb46 : Below w4.heap.size w4 w6 := hb45.trans (hb6.mono hb45.size); have FP6 := FP.below hb6)
                try (refine hK _ _ ?_; clear hK K)
                refine wpAnyIn_ready (rs := [9]) (by kernel_rfl) (by simp) ?_
                refine AllReadyIn.cons rfl (fun K hK => ?_) ?_
                · -- [8, 4, 1, 6, 7] 9
                  obtain ⟨p0, p1, p2, p3, pb⟩ := id (FP6)
                  go_simp
                  try (refine hK _ _ ?_; clear hK K)
                  refine wpAnyIn_done (by kernel_rfl) ?_ _
                  refine hM _ _ (Met.intro ?_)
                  refine hJ _ _ ?_
                  (repeat apply Exists.intro)
                  refine ⟨?_, rfl⟩
                  exact ⟨w4.heap.size, A6, c6, rfl, leaf8 hb46 (by omega) FP6 hd6⟩
                exact AllReadyIn.nil
              exact AllReadyIn.nil
            exact AllReadyIn.nil
          refine AllReadyIn.cons rfl (fun K hK => ?_) ?_
          · -- [8, 4] 6
            go_simp
            have FP := ((Fresh.at w4.drew (P := w4.heap.size) (by simp)).alloc (.cells #[.int .i64 qn] 3))
            gi_wp2_with (gi_at_call 45; refine (callsIn_plain (up _ _ _ _ _ (trimmed_one _ qn _ hnp (digs_one_at (W := (w4.drew.alloc (.cells #[.bool false, .slice none 0 0] 43))) _ (by simp))))).mono ?_; rintro e w5 ⟨A5, c5, rfl, hd5, hb5⟩; have hb45 : Below w4.heap.size w4 w5 := (((Below.refl w4.heap.size w4).drew.alloc (by simp <;> omega) _).alloc (by simp <;> omega) _).trans (hb5.mono (by simp <;> omega)); have hB5 := hBW4.below hb45; have k5 := keeps_cell hb45 t6; have y0 : w.heap.size + 1 < w5.heap.size := Nat.lt_of_lt_of_le zz5 hb45.size; have z45 : w4.heap.size ≤ w5.heap.size := hb45.size; have FP5 := FP.below hb5)
            try (refine hK _ _ ?_; clear hK K)
            refine wpAnyIn_ready (rs := [1]) (by kernel_rfl) (by simp) ?_
            refine AllReadyIn.cons rfl (fun K hK => ?_) ?_
            · -- [8, 4, 6] 1
              go_simp
              try (refine hK _ _ ?_; clear hK K)
              refine wpAnyIn_take (i := 2) (v := .agg #[.bool false, .slice B m cb]) rfl rfl (by kernel_rfl) (by kernel_rfl) (by kernel_rfl) (fun _ _ _ h => h) ⟨Or.inl ⟨by rfl, ?_⟩, fun _ => rfl⟩ ?_
              · (intro w; go_simp <;> rfl)
              refine wpAnyIn_ready (rs := [7]) (by kernel_rfl) (by simp) ?_
              refine AllReadyIn.cons rfl (fun K hK => ?_) ?_
              · -- [8, 4, 6, 1] 7
                go_simp
                have FP := FP5
                gi_wp2_with (gi_at_call 31; refine (callsIn_plain (up _ _ _ _ _ (times_nat y qn _ _ _ (hB5) (hd5) ly (small_digit hnp)))).mono ?_; rintro e w6 ⟨A6, c6, rfl, hd6, hb6⟩; have hb46 : Below w4.heap.size w4 w6 := hb45.trans (hb6.mono hb45.size); have FP6 := FP.below hb6)
                try (refine hK _ _ ?_; clear hK K)
                refine wpAnyIn_ready (rs := [9]) (by kernel_rfl) (by simp) ?_
                refine AllReadyIn.cons rfl (fun K hK => ?_) ?_
                · -- [8, 4, 6, 1, 7] 9
                  obtain ⟨p0, p1, p2, p3, pb⟩ := id (FP6)
                  go_simp
                  try (refine hK _ _ ?_; clear hK K)
                  refine wpAnyIn_done (by kernel_rfl) ?_ _
                  refine hM _ _ (Met.intro ?_)
                  refine hJ _ _ ?_
                  (repeat apply Exists.intro)
                  refine ⟨?_, rfl⟩
                  exact ⟨w4.heap.size, A6, c6, rfl, leaf8 hb46 (by omega) FP6 hd6⟩
                exact AllReadyIn.nil
              exact AllReadyIn.nil
            exact AllReadyIn.nil
          exact AllReadyIn.nil
        exact AllReadyIn.nil
      exact AllReadyIn.nil
    case rest =>
      obtain ⟨P, A5, c5, rfl, hP1, hP2, p1, dp, hbc⟩ := hcut
      have hjq : j < qs.length := by have := H2.out.2.2.2.1; omega
      have hple : y * qn ≤ p := H1.out.2.2.2.1
      have hpr : p - y * qn = p % y := H1.out.2.2.1
      have c0 := keeps_cell hbc t0
      have c1 := keeps_cell hbc t1
      have c3 := keeps_free hbc t0 t3
      have c4 := keeps_free hbc t1 t4
      have c5b := t5.below hbc
      have cd := hd4.below hbc
      have onc := on4.trans (.of_below hbc)
      have zc := hbc.size
      clear t0 t1 t3 t4 t5 t6 hd4 hBW4 hbc HT
      gi_wp2_with fail
      refine (CallsIn.inRound l (up _ _ _ _ _ (taken_own p (y * qn) hple _ _ wc cd dp hsp))).mono ?_
      rintro e w7 ⟨A7, c7, zs7, rfl, hd7, hz7, hv7, hn7, hb7⟩
      rw [hpr] at hv7
      have d0 := keeps_cell hb7 c0
      have d1 := keeps_cell hb7 c1
      have d3 := keeps_free hb7 c0 c3
      have d4 := keeps_free hb7 c1 c4
      have d5 := c5b.below hb7
      have ond := onc.trans (.of_below hb7)
      have zd := hb7.size
      clear c0 c1 c3 c4 c5b cd dp p1 onc hb7
      gi_wp2_with fail
      refine (CallsIn.inRound l (up _ _ _ _ _ (trimmed_same A7 c7 zs7 (p % y) w7 hz7 hv7.symm hd7))).mono ?_
      rintro e w8 ⟨rfl, hd8, hb8⟩
      have f0 := keeps_cell hb8 d0
      have f1 := keeps_cell hb8 d1
      have f3 := keeps_free hb8 d0 d3
      have f4 := keeps_free hb8 d1 d4
      have f5 := d5.below hb8
      have one := ond.trans (.of_below hb8)
      have ze := hb8.size
      have hn8 : ∀ b, (Value.slice A7 (limbs (p % y)).length c7).ownBlock = some b → wc.heap.size ≤ b := fun b e => hn7 b (by cases A7 <;> exact e)
      have hG8 : w8.ownsRow (w.heap.size + 1 + 1 + 1 + 1 + 1) 3 1 (.slice (some ⟨w.heap.size + 1 + 1 + 1 + 1 + 1, 0, none⟩) n n) n (qs.map (Value.int .i64)) := ownsRow_only HQ4.out one (fun b e => by simp [Value.ownBlock] at e; omega)
      have gc8 : w8.cell? ⟨w.heap.size + 1 + 1 + 1 + 1 + 1, j, none⟩ = some (.int .i64 (D qs j)) := cell_at hG8 hjq
      have gf8 : w8.frozen? ⟨w.heap.size + 1 + 1 + 1 + 1 + 1, j, none⟩ = false := World.ownsRow.frozenAt hG8 j
      have hQ8 := one.cell q5 (by show w1.heap.size ≠ _; omega) (by show w1.heap.size ≠ _; omega)
      clear d0 d1 d3 d4 d5 hd7 hn7 hb8 ond
      gi_wp2_with fail
      obtain ⟨V, hV⟩ : ∃ V, (((w8.setCell ⟨w.heap.size + 1 + 1 + 1 + 1, 0, none⟩ (.bool false)).setCell ⟨w.heap.size + 1 + 1 + 1 + 1, 1, none⟩ (.slice A7 (limbs (p % y)).length c7)).setCell ⟨w.heap.size + 1 + 1 + 1 + 1 + 1, j, none⟩ (.int .i64 qn)) = V := ⟨_, rfl⟩
      obtain ⟨s0, s1, s2⟩ := store2_facts f0 f1 (.bool false) (.slice A7 (limbs (p % y)).length c7)
      have hne5 : ¬ (w.heap.size + 1 + 1 + 1 + 1 + 1 = w.heap.size + 1 + 1 + 1 + 1) := by omega
      have hV0 : V.cell? ⟨w.heap.size + 1 + 1 + 1 + 1, 0, none⟩ = some (.bool false) := by rw [← hV, World.cell?_setCell_other _ _ _ _ (by simp)]; exact s0
      have hV1 : V.cell? ⟨w.heap.size + 1 + 1 + 1 + 1, 1, none⟩ = some (.slice A7 (limbs (p % y)).length c7) := by rw [← hV, World.cell?_setCell_other _ _ _ _ (by simp)]; exact s1
      have hV2 : V.frozen? ⟨w.heap.size + 1 + 1 + 1 + 1, 0, none⟩ = false := by rw [← hV, World.frozen?_setCell]; exact (s2 _).trans f3
      have hV3 : V.frozen? ⟨w.heap.size + 1 + 1 + 1 + 1, 1, none⟩ = false := by rw [← hV, World.frozen?_setCell]; exact (s2 _).trans f4
      have hV4 : Box V (w.heap.size + 1 + 1 + 1 + 1) 43 := by rw [← hV]; exact ((f5.setCell _ _).setCell _ _).setCell _ _
      have hV5 : Digs V (.slice A7 (limbs (p % y)).length c7) (limbs (p % y)) := by
        rw [← hV]
        refine ownsRow_setCell_other (hd8.store2 f5 _ _) (fun e => ?_) _
        have := hn8 _ e
        show False
        have e5 : w.heap.size + 1 + 1 + 1 + 1 + 1 < wc.heap.size := Nat.lt_of_lt_of_le (Nat.lt_of_lt_of_le zz0 on4.size) zc
        exact absurd this (Nat.not_le.2 e5)
      have hV6 : V.ownsRow (w.heap.size + 1 + 1 + 1 + 1 + 1) 3 1 (.slice (some ⟨w.heap.size + 1 + 1 + 1 + 1 + 1, 0, none⟩) n n) n ((qs.set j (qn : Int)).map (Value.int .i64)) := by
        rw [← hV, List.map_set]
        refine (World.ownsRow.stored (ownsRow_setCell_other (ownsRow_setCell_other hG8 (fun e => ?_) _) (fun e => ?_) _) j (.int .i64 qn)).1
        · simp [Value.ownBlock] at e
        · simp [Value.ownBlock] at e
      have onV : Only (w.heap.size + 1 + 1 + 1 + 1) (w.heap.size + 1 + 1 + 1 + 1 + 1) W V := by
        rw [← hV]
        exact ((one.wide.trans (.setCell _ (p := ⟨w.heap.size + 1 + 1 + 1 + 1, 0, none⟩) (.inl rfl) _)).trans (.setCell _ (p := ⟨w.heap.size + 1 + 1 + 1 + 1, 1, none⟩) (.inl rfl) _)).trans (.setCell _ (p := ⟨w.heap.size + 1 + 1 + 1 + 1 + 1, j, none⟩) (.inr rfl) _)
      have hV7 : V.cell? ⟨w1.heap.size, 0, none⟩ = some (.slice (some ⟨w.heap.size + 1 + 1 + 1 + 1 + 1, 0, none⟩) n n) := onV.cell q5 (by show w1.heap.size ≠ _; omega) (by show w1.heap.size ≠ _; omega)
      rw [hV]
      obtain ⟨e1, e2, _, _, htj, _, _, ht⟩ := H1.out
      obtain ⟨hjk1, hj', hjk', g1, g2, g3⟩ := H2.out
      refine ⟨(onV.others r4 (ownsRow_box HQ4.out)).from _, onV.keepBox (by omega) (by omega) (by omega) (by omega) (by omega) (by omega), ⟨?_, ⟨qs.set j qn, by simpa using g1, dig_set g2 (by omega) (by omega), ?_, hV6⟩, hV7⟩, hon.trans onV⟩
      · rw [hjk1, htj, e2]
        exact ⟨A7, c7, hV0, hV1, hV2, hV3, hV4, hV5⟩
      · rw [hjk1, htj, e1, set_drop hjq, g3]
        exact cast_step _ _
  case done =>
    rintro D0 W hD ⟨⟨⟨A', c', r0, r1, r2, r3, r4, r5⟩, ⟨qs, q1, q2, q3, q4⟩, q5⟩, hon⟩ hK
    have c0 := hon.cell (keeps_cell hb10 k0) (by show w.heap.size ≠ _; omega) (by show w.heap.size ≠ _; omega)
    have c2 := hon.cell (keeps_cell hb10 k2) (by show w.heap.size + 1 ≠ _; omega) (by show w.heap.size + 1 ≠ _; omega)
    have c4 := hon.cell (keeps_cell hb10 k4) (by show w.heap.size + 1 + 1 ≠ _; omega) (by show w.heap.size + 1 + 1 ≠ _; omega)
    have c5 := hon.cell (keeps_cell hb10 k5) (by show w.heap.size + 1 + 1 ≠ _; omega) (by show w.heap.size + 1 + 1 ≠ _; omega)
    have c6 := hon.cell (keeps_cell hb10 k6) (by show w.heap.size + 1 + 1 + 1 ≠ _; omega) (by show w.heap.size + 1 + 1 + 1 ≠ _; omega)
    have c7 := hon.cell (keeps_cell hb10 k7) (by show w.heap.size + 1 + 1 + 1 ≠ _; omega) (by show w.heap.size + 1 + 1 + 1 ≠ _; omega)
    have e4 := hon.free (keeps_cell hb10 k4) (keeps_free hb10 k4 f4) (by show w.heap.size + 1 + 1 ≠ _; omega) (by show w.heap.size + 1 + 1 ≠ _; omega)
    have e5 := hon.free (keeps_cell hb10 k5) (keeps_free hb10 k5 f5) (by show w.heap.size + 1 + 1 ≠ _; omega) (by show w.heap.size + 1 + 1 ≠ _; omega)
    have e6 := hon.free (keeps_cell hb10 k6) (keeps_free hb10 k6 f6) (by show w.heap.size + 1 + 1 + 1 ≠ _; omega) (by show w.heap.size + 1 + 1 + 1 ≠ _; omega)
    have e7 := hon.free (keeps_cell hb10 k7) (keeps_free hb10 k7 f7) (by show w.heap.size + 1 + 1 + 1 ≠ _; omega) (by show w.heap.size + 1 + 1 + 1 ≠ _; omega)
    have x2 := hon.box (b2.below hb10) (by omega) (by omega)
    have x3 := hon.box (b3.below hb10) (by omega) (by omega)
    have zW := hon.size
    have hn0 : n - (limbs x).length = 0 := by have := HN.out; omega
    have hxv : (val ((limbs x).drop 0)).toNat = x := by rw [List.drop_zero, val_limbs]; exact Int.toNat_natCast x
    rw [hn0, hxv] at r1 r5 q3
    rw [List.drop_zero] at q3
    clear k0 k1 k2 k3 k4 k5 k6 k7 k8 k9 f4 f5 f6 f7 f8 f9 b2 b3 b4 hA0 hB0 hAI hib hqb hown hxv
    gi_wp2_with fail
    obtain ⟨V, hV⟩ : ∃ V, W.setCell ⟨w.heap.size + 1 + 1 + 1 + 1, 0, none⟩ (.bool bx) = V := ⟨_, rfl⟩
    have hV' : ∀ p : Addr, p.block ≠ w.heap.size + 1 + 1 + 1 + 1 → V.cell? p = W.cell? p := fun p hp => by rw [← hV]; exact World.cell?_setCell_other _ _ _ _ (fun e => hp (by rw [← e]))
    have hVf : ∀ p : Addr, V.frozen? p = W.frozen? p := fun p => by rw [← hV, World.frozen?_setCell]
    have v0 := (hV' ⟨w.heap.size, 0, none⟩ (by show w.heap.size ≠ _; omega)).trans c0
    have v2 := (hV' ⟨w.heap.size + 1, 0, none⟩ (by show w.heap.size + 1 ≠ _; omega)).trans c2
    have v4 := (hV' ⟨w.heap.size + 1 + 1, 0, none⟩ (by show w.heap.size + 1 + 1 ≠ _; omega)).trans c4
    have v5 := (hV' ⟨w.heap.size + 1 + 1, 1, none⟩ (by show w.heap.size + 1 + 1 ≠ _; omega)).trans c5
    have v6 := (hV' ⟨w.heap.size + 1 + 1 + 1, 0, none⟩ (by show w.heap.size + 1 + 1 + 1 ≠ _; omega)).trans c6
    have v7 := (hV' ⟨w.heap.size + 1 + 1 + 1, 1, none⟩ (by show w.heap.size + 1 + 1 + 1 ≠ _; omega)).trans c7
    have u4 := (hVf _).trans e4
    have u5 := (hVf _).trans e5
    have u6 := (hVf _).trans e6
    have u7 := (hVf _).trans e7
    have vq := (hV' ⟨w1.heap.size, 0, none⟩ (by show w1.heap.size ≠ _; omega)).trans q5
    have y0 : V.cell? ⟨w.heap.size + 1 + 1 + 1 + 1, 0, none⟩ = some (.bool bx) := by rw [← hV]; exact World.cell?_setCell_same' _ _ _ (by rw [r0]; rfl)
    have y1 : V.cell? ⟨w.heap.size + 1 + 1 + 1 + 1, 1, none⟩ = some (.slice A' (limbs (x % y)).length c') := by rw [← hV, World.cell?_setCell_other _ _ _ _ (by simp)]; exact r1
    have y2 : Box V (w.heap.size + 1 + 1) 43 := by rw [← hV]; exact x2.setCell _ _
    have y3 : Box V (w.heap.size + 1 + 1 + 1) 43 := by rw [← hV]; exact x3.setCell _ _
    have y5 : Digs V (.slice A' (limbs (x % y)).length c') (limbs (x % y)) := by rw [← hV]; exact r5.setCell r4 (by decide) _
    have hdq : Digs W (.slice (some ⟨w.heap.size + 1 + 1 + 1 + 1 + 1, 0, none⟩) n n) qs := Digs.of_own q4
    have y6 : Digs V (.slice (some ⟨w.heap.size + 1 + 1 + 1 + 1 + 1, 0, none⟩) n n) qs := by rw [← hV]; exact hdq.setCell r4 (by decide) _
    have yK : V.heap[D0]? = some (.deferred (some [])) := by rw [← hV]; exact (Below.heap_setCell W _ _ _ (by show D0 ≠ w.heap.size + 1 + 1 + 1 + 1; omega)).trans hK
    have yB : Below w.heap.size w V := by
      rw [← hV]
      exact ((hB1.trans (hb10.mono hB1.size)).trans (hon.below (by omega) (by omega) (by omega))).setCell (p := ⟨w.heap.size + 1 + 1 + 1 + 1, 0, none⟩) (by show w.heap.size ≤ w.heap.size + 1 + 1 + 1 + 1; omega) _
    have zV : W0.heap.size ≤ V.heap.size := by rw [← hV]; simpa using zW
    have mixed : Tryd.prog.follows .mixedOrders = true := by kernel_rfl
    rw [hV]
    clear hV hV' hVf c0 c2 c4 c5 c6 c7 e4 e5 e6 e7 x2 x3 r0 r1 r2 r3 r4 r5 q4 q5 hdq hK hon hb10 hB1
    refine wpIn_calmly ?_
    refine wpIn_region_drew mixed ?_
    refine wpAnyIn_take (i := 0) (v := .pointer (some ⟨w.heap.size, 0, none⟩)) hro rfl (by kernel_rfl) (by kernel_rfl) (by kernel_rfl) (fun _ _ _ h => h) ⟨Or.inl ⟨by rfl, ?_⟩, fun _ => rfl⟩ ?_
    · (intro w; go_simp <;> rfl)
    refine wpAnyIn_take (i := 2) (v := .pointer (some ⟨w.heap.size + 1, 0, none⟩)) hro rfl (by kernel_rfl) (by kernel_rfl) (by kernel_rfl) (fun _ _ _ h => h) ⟨Or.inl ⟨by rfl, ?_⟩, fun _ => rfl⟩ ?_
    · (intro w; go_simp <;> rfl)
    have TQ := fun W h => trimmed_cut (bx != bY) (some ⟨w.heap.size + 1 + 1 + 1 + 1 + 1, 0, none⟩) n qs W q2 (by rw [q1]; exact h)
    rw [q1, q3] at TQ
    have TR := fun W h => trimmed_cut bx A' c' (limbs (x % y)) W (dig_limbs _) h
    rw [val_limbs] at TR
    rw [HZ.out.1] at TQ
    rw [HZ.out.2] at TR
    rename_i Q0 K0 hK0
    --GEN12
    refine with_key #[true, true, true, true, true, true, true, false, true, false, false, false] 4 ({ tmps := #[(.agg #[.bool bx, .slice A n ca]), (.agg #[.bool bY, .slice B m cb]), (.pointer (some ⟨w.heap.size, 0, none⟩)), (.pointer (some ⟨w.heap.size + 1, 0, none⟩)), (.pointer (some ⟨w.heap.size + 1 + 1, 0, none⟩)), (.pointer (some ⟨w.heap.size + 1 + 1 + 1, 0, none⟩)), (.pointer (some ⟨w.heap.size + 1 + 1 + 1 + 1, 0, none⟩)), (.pointer (some ⟨w1.heap.size, 0, none⟩)), undef, undef, undef, undef, (.agg #[.bool false, .slice none 0 0]), (.pointer (some ⟨w.heap.size, 1, none⟩)), (.slice A n ca), (.int .i64 n), (.slice (some ⟨w.heap.size + 1 + 1 + 1 + 1 + 1, 0, none⟩) n n), (.pointer (some ⟨w.heap.size, 1, none⟩)), (.slice A n ca), (.func (.func 83) #[] #[.pointer (some ⟨w1.heap.size + 1, 0, none⟩)]), undef, undef, undef, undef, undef, undef, undef, undef, undef, undef, undef, undef, undef, undef, undef, undef, undef, undef, undef, undef, undef, undef, undef, undef, undef, undef, undef, undef, undef, undef, undef, undef, undef, (.pointer (some ⟨w.heap.size, 0, none⟩)), (.bool bx), (.pointer (some ⟨w.heap.size + 1 + 1 + 1 + 1, 0, none⟩)), (.pointer (some ⟨w.heap.size, 0, none⟩)), (.bool bx), (.pointer (some ⟨w.heap.size + 1, 0, none⟩)), (.bool bY), (.bool (bx != bY)), (.slice (some ⟨w.heap.size + 1 + 1 + 1 + 1 + 1, 0, none⟩) n n), (.agg #[.bool (bx != bY), .slice (some ⟨w.heap.size + 1 + 1 + 1 + 1 + 1, 0, none⟩) n n]), undef, ((.agg #[.bool bx, .slice A' (limbs (x % y)).length c'])), undef], defers := [{ target := .collected D0, args := #[] }] }) V.drew ?_ (fun KEY => ?_)
    ·
      refine wpAnyIn_ready (rs := [7]) (by kernel_rfl) (by simp) ?_
      refine AllReadyIn.cons rfl (fun K hK => ?_) ?_
      · -- 7
        go_simp
        refine (up _ _ _ _ _ (TQ V.drew y6)).mono ?_
        rintro e w7 ⟨kq, rfl, hkq, hd7, hb7⟩
        have a0 := keeps_cell hb7 y0
        have a1 := keeps_cell hb7 y1
        have a4 := keeps_cell hb7 v4
        have a5 := keeps_cell hb7 v5
        have a6 := keeps_cell hb7 v6
        have a7 := keeps_cell hb7 v7
        have g4 := keeps_free hb7 v4 u4
        have g5 := keeps_free hb7 v5 u5
        have g6 := keeps_free hb7 v6 u6
        have g7 := keeps_free hb7 v7 u7
        have hr7 := y5.drew.below hb7
        dsimp only
        try (refine hK _ _ ?_; clear hK K)
        refine wpAnyIn_ready (rs := [9]) (by kernel_rfl) (by simp) ?_
        refine AllReadyIn.cons rfl (fun K hK => ?_) ?_
        · -- 9
          go_simp
          refine (up _ _ _ _ _ (TR w7 hr7)).mono ?_
          rintro e w9 ⟨kr, rfl, hkr, hd9, hb9⟩
          have p4 := keeps_cell hb9 a4
          have p5 := keeps_cell hb9 a5
          have p6 := keeps_cell hb9 a6
          have p7 := keeps_cell hb9 a7
          have o4 := keeps_free hb9 a4 g4
          have o5 := keeps_free hb9 a5 g5
          have o6 := keeps_free hb9 a6 g6
          have o7 := keeps_free hb9 a7 g7
          dsimp only
          try (refine hK _ _ ?_; clear hK K)
          refine wpAnyIn_ready (rs := [10]) (by kernel_rfl) (by simp) ?_
          refine AllReadyIn.cons rfl (fun K hK => ?_) ?_
          · -- 10
            go_simp
            try (refine hK _ _ ?_; clear hK K)
            refine wpAnyIn_ready (rs := [11]) (by kernel_rfl) (by simp) ?_
            refine AllReadyIn.cons rfl (fun K hK => ?_) ?_
            · -- 11
              go_simp
              try (refine hK _ _ ?_; clear hK K)
              refine wpAnyIn_done (by kernel_rfl) ?_ _
              refine hK0 _ _ ?_
              gi_wp2_with fail
              obtain ⟨WF, hF⟩ : ∃ WF, (((w9.setCell ⟨w.heap.size + 1 + 1, 0, none⟩ (.bool (decide (zq < 0)))).setCell ⟨w.heap.size + 1 + 1, 1, none⟩ (.slice (some ⟨w.heap.size + 1 + 1 + 1 + 1 + 1, 0, none⟩) (limbs zq.natAbs).length n)).setCell ⟨w.heap.size + 1 + 1 + 1, 0, none⟩ (.bool (decide (zr < 0)))).setCell ⟨w.heap.size + 1 + 1 + 1, 1, none⟩ (.slice A' (limbs zr.natAbs).length c') = WF := ⟨_, rfl⟩
              subst hkq hkr
              have FF := out4 (w := w) (by omega) (by omega) (by omega) (by omega) (by omega) yK hb7 hb9 yB p4 p5 p6 p7 y2 y3 hd7 hd9 WF hF
              rw [hF]
              obtain ⟨WG, hWG⟩ : ∃ WG, WF.putObj D0 (.deferred none) = WG := ⟨_, rfl⟩
              obtain ⟨F0, F1, F2, F3, F5, F6, F7⟩ := out4_put (w := w) (by omega) FF WG hWG
              refine ⟨by simp, .inl ⟨_, _, rfl, run_takeDeferred FF.2.2.2.2.1, ?_⟩⟩
              rw [hWG]
              refine ⟨_, by simp [results, Tryd.results50, go_sem, F0, F1, F2, F3]; exact ⟨rfl, rfl⟩, _, _, rfl, ?_, ?_, F7⟩
              · exact F5
              · exact F6
            exact AllReadyIn.nil
          exact AllReadyIn.nil
        exact AllReadyIn.nil
      exact AllReadyIn.nil
    refine with_key #[true, true, true, true, true, true, true, false, false, false, false, false] 5 ({ tmps := #[(.agg #[.bool bx, .slice A n ca]), (.agg #[.bool bY, .slice B m cb]), (.pointer (some ⟨w.heap.size, 0, none⟩)), (.pointer (some ⟨w.heap.size + 1, 0, none⟩)), (.pointer (some ⟨w.heap.size + 1 + 1, 0, none⟩)), (.pointer (some ⟨w.heap.size + 1 + 1 + 1, 0, none⟩)), (.pointer (some ⟨w.heap.size + 1 + 1 + 1 + 1, 0, none⟩)), (.pointer (some ⟨w1.heap.size, 0, none⟩)), undef, undef, undef, undef, (.agg #[.bool false, .slice none 0 0]), (.pointer (some ⟨w.heap.size, 1, none⟩)), (.slice A n ca), (.int .i64 n), (.slice (some ⟨w.heap.size + 1 + 1 + 1 + 1 + 1, 0, none⟩) n n), (.pointer (some ⟨w.heap.size, 1, none⟩)), (.slice A n ca), (.func (.func 83) #[] #[.pointer (some ⟨w1.heap.size + 1, 0, none⟩)]), undef, undef, undef, undef, undef, undef, undef, undef, undef, undef, undef, undef, undef, undef, undef, undef, undef, undef, undef, undef, undef, undef, undef, undef, undef, undef, undef, undef, undef, undef, undef, undef, undef, (.pointer (some ⟨w.heap.size, 0, none⟩)), (.bool bx), (.pointer (some ⟨w.heap.size + 1 + 1 + 1 + 1, 0, none⟩)), (.pointer (some ⟨w.heap.size, 0, none⟩)), (.bool bx), (.pointer (some ⟨w.heap.size + 1, 0, none⟩)), (.bool bY), (.bool (bx != bY)), (.slice (some ⟨w.heap.size + 1 + 1 + 1 + 1 + 1, 0, none⟩) n n), (.agg #[.bool (bx != bY), .slice (some ⟨w.heap.size + 1 + 1 + 1 + 1 + 1, 0, none⟩) n n]), undef, undef, undef], defers := [{ target := .collected D0, args := #[] }] }) V.drew ?_ (fun KEY3 => ?_)
    ·
      refine wpAnyIn_ready (rs := [7, 8]) (by kernel_rfl) (by simp) ?_
      refine AllReadyIn.cons rfl (fun K hK => ?_) ?_
      · -- 7
        go_simp
        refine (up _ _ _ _ _ (TQ V.drew y6)).mono ?_
        rintro e w7 ⟨kq, rfl, hkq, hd7, hb7⟩
        have a0 := keeps_cell hb7 y0
        have a1 := keeps_cell hb7 y1
        have a4 := keeps_cell hb7 v4
        have a5 := keeps_cell hb7 v5
        have a6 := keeps_cell hb7 v6
        have a7 := keeps_cell hb7 v7
        have g4 := keeps_free hb7 v4 u4
        have g5 := keeps_free hb7 v5 u5
        have g6 := keeps_free hb7 v6 u6
        have g7 := keeps_free hb7 v7 u7
        have hr7 := y5.drew.below hb7
        dsimp only
        try (refine hK _ _ ?_; clear hK K)
        refine wpAnyIn_ready (rs := [8]) (by kernel_rfl) (by simp) ?_
        refine AllReadyIn.cons rfl (fun K hK => ?_) ?_
        · -- 8
          go_simp
          try (refine hK _ _ ?_; clear hK K)
          refine wpAnyIn_ready (rs := [9]) (by kernel_rfl) (by simp) ?_
          refine AllReadyIn.cons rfl (fun K hK => ?_) ?_
          · -- 9
            go_simp
            refine (up _ _ _ _ _ (TR w7 hr7)).mono ?_
            rintro e w9 ⟨kr, rfl, hkr, hd9, hb9⟩
            have p4 := keeps_cell hb9 a4
            have p5 := keeps_cell hb9 a5
            have p6 := keeps_cell hb9 a6
            have p7 := keeps_cell hb9 a7
            have o4 := keeps_free hb9 a4 g4
            have o5 := keeps_free hb9 a5 g5
            have o6 := keeps_free hb9 a6 g6
            have o7 := keeps_free hb9 a7 g7
            dsimp only
            try (refine hK _ _ ?_; clear hK K)
            refine wpAnyIn_ready (rs := [10]) (by kernel_rfl) (by simp) ?_
            refine AllReadyIn.cons rfl (fun K hK => ?_) ?_
            · -- 10
              go_simp
              try (refine hK _ _ ?_; clear hK K)
              refine wpAnyIn_ready (rs := [11]) (by kernel_rfl) (by simp) ?_
              refine AllReadyIn.cons rfl (fun K hK => ?_) ?_
              · -- 11
                go_simp
                try (refine hK _ _ ?_; clear hK K)
                refine wpAnyIn_done (by kernel_rfl) ?_ _
                refine hK0 _ _ ?_
                gi_wp2_with fail
                obtain ⟨WF, hF⟩ : ∃ WF, (((w9.setCell ⟨w.heap.size + 1 + 1, 0, none⟩ (.bool (decide (zq < 0)))).setCell ⟨w.heap.size + 1 + 1, 1, none⟩ (.slice (some ⟨w.heap.size + 1 + 1 + 1 + 1 + 1, 0, none⟩) (limbs zq.natAbs).length n)).setCell ⟨w.heap.size + 1 + 1 + 1, 0, none⟩ (.bool (decide (zr < 0)))).setCell ⟨w.heap.size + 1 + 1 + 1, 1, none⟩ (.slice A' (limbs zr.natAbs).length c') = WF := ⟨_, rfl⟩
                subst hkq hkr
                have FF := out4 (w := w) (by omega) (by omega) (by omega) (by omega) (by omega) yK hb7 hb9 yB p4 p5 p6 p7 y2 y3 hd7 hd9 WF hF
                rw [hF]
                obtain ⟨WG, hWG⟩ : ∃ WG, WF.putObj D0 (.deferred none) = WG := ⟨_, rfl⟩
                obtain ⟨F0, F1, F2, F3, F5, F6, F7⟩ := out4_put (w := w) (by omega) FF WG hWG
                refine ⟨by simp, .inl ⟨_, _, rfl, run_takeDeferred FF.2.2.2.2.1, ?_⟩⟩
                rw [hWG]
                refine ⟨_, by simp [results, Tryd.results50, go_sem, F0, F1, F2, F3]; exact ⟨rfl, rfl⟩, _, _, rfl, ?_, ?_, F7⟩
                · exact F5
                · exact F6
              exact AllReadyIn.nil
            exact AllReadyIn.nil
          exact AllReadyIn.nil
        exact AllReadyIn.nil
      refine AllReadyIn.cons rfl (fun K hK => ?_) ?_
      · -- 8
        go_simp
        try (refine hK _ _ ?_; clear hK K)
        exact KEY
      exact AllReadyIn.nil
    refine wpAnyIn_ready (rs := [1, 3, 5, 8]) (by kernel_rfl) (by simp) ?_
    refine AllReadyIn.cons rfl (fun K hK => ?_) ?_
    · -- 1
      go_simp
      try (refine hK _ _ ?_; clear hK K)
      refine wpAnyIn_ready (rs := [3, 5, 8]) (by kernel_rfl) (by simp) ?_
      refine AllReadyIn.cons rfl (fun K hK => ?_) ?_
      · -- 3
        go_simp
        try (refine hK _ _ ?_; clear hK K)
        refine wpAnyIn_take (i := 4) (v := .bool (bx != bY)) hro rfl (by kernel_rfl) (by kernel_rfl) (by kernel_rfl) (fun _ _ _ h => h) ⟨Or.inl ⟨by rfl, ?_⟩, fun _ => rfl⟩ ?_
        · (intro w; go_simp <;> (cases bx <;> cases bY <;> rfl))
        refine wpAnyIn_ready (rs := [5, 8]) (by kernel_rfl) (by simp) ?_
        refine AllReadyIn.cons rfl (fun K hK => ?_) ?_
        · -- 5
          go_simp
          try (refine hK _ _ ?_; clear hK K)
          refine wpAnyIn_take (i := 6) (v := .agg #[.bool (bx != bY), .slice (some ⟨w.heap.size + 1 + 1 + 1 + 1 + 1, 0, none⟩) n n]) hro rfl (by kernel_rfl) (by kernel_rfl) (by kernel_rfl) (fun _ _ _ h => h) ⟨Or.inl ⟨by rfl, ?_⟩, fun _ => rfl⟩ ?_
          · (intro w; go_simp <;> (cases bx <;> cases bY <;> rfl))
          exact KEY3
        refine AllReadyIn.cons rfl (fun K hK => ?_) ?_
        · -- 8
          go_simp
          try (refine hK _ _ ?_; clear hK K)
          refine wpAnyIn_ready (rs := [5]) (by kernel_rfl) (by simp) ?_
          refine AllReadyIn.cons rfl (fun K hK => ?_) ?_
          · -- 5
            go_simp
            try (refine hK _ _ ?_; clear hK K)
            refine wpAnyIn_take (i := 6) (v := .agg #[.bool (bx != bY), .slice (some ⟨w.heap.size + 1 + 1 + 1 + 1 + 1, 0, none⟩) n n]) hro rfl (by kernel_rfl) (by kernel_rfl) (by kernel_rfl) (fun _ _ _ h => h) ⟨Or.inl ⟨by rfl, ?_⟩, fun _ => rfl⟩ ?_
            · (intro w; go_simp <;> (cases bx <;> cases bY <;> rfl))
            exact KEY
          exact AllReadyIn.nil
        exact AllReadyIn.nil
      refine AllReadyIn.cons rfl (fun K hK => ?_) ?_
      · -- 5
        go_simp
        try (refine hK _ _ ?_; clear hK K)
        refine wpAnyIn_ready (rs := [3, 8]) (by kernel_rfl) (by simp) ?_
        refine AllReadyIn.cons rfl (fun K hK => ?_) ?_
        · -- 3
          go_simp
          try (refine hK _ _ ?_; clear hK K)
          refine wpAnyIn_take (i := 4) (v := .bool (bx != bY)) hro rfl (by kernel_rfl) (by kernel_rfl) (by kernel_rfl) (fun _ _ _ h => h) ⟨Or.inl ⟨by rfl, ?_⟩, fun _ => rfl⟩ ?_
          · (intro w; go_simp <;> (cases bx <;> cases bY <;> rfl))
          refine wpAnyIn_take (i := 6) (v := .agg #[.bool (bx != bY), .slice (some ⟨w.heap.size + 1 + 1 + 1 + 1 + 1, 0, none⟩) n n]) hro rfl (by kernel_rfl) (by kernel_rfl) (by kernel_rfl) (fun _ _ _ h => h) ⟨Or.inl ⟨by rfl, ?_⟩, fun _ => rfl⟩ ?_
          · (intro w; go_simp <;> (cases bx <;> cases bY <;> rfl))
          exact KEY3
        refine AllReadyIn.cons rfl (fun K hK => ?_) ?_
        · -- 8
          go_simp
          try (refine hK _ _ ?_; clear hK K)
          refine wpAnyIn_ready (rs := [3]) (by kernel_rfl) (by simp) ?_
          refine AllReadyIn.cons rfl (fun K hK => ?_) ?_
          · -- 3
            go_simp
            try (refine hK _ _ ?_; clear hK K)
            refine wpAnyIn_take (i := 4) (v := .bool (bx != bY)) hro rfl (by kernel_rfl) (by kernel_rfl) (by kernel_rfl) (fun _ _ _ h => h) ⟨Or.inl ⟨by rfl, ?_⟩, fun _ => rfl⟩ ?_
            · (intro w; go_simp <;> (cases bx <;> cases bY <;> rfl))
            refine wpAnyIn_take (i := 6) (v := .agg #[.bool (bx != bY), .slice (some ⟨w.heap.size + 1 + 1 + 1 + 1 + 1, 0, none⟩) n n]) hro rfl (by kernel_rfl) (by kernel_rfl) (by kernel_rfl) (fun _ _ _ h => h) ⟨Or.inl ⟨by rfl, ?_⟩, fun _ => rfl⟩ ?_
            · (intro w; go_simp <;> (cases bx <;> cases bY <;> rfl))
            exact KEY
          exact AllReadyIn.nil
        exact AllReadyIn.nil
      refine AllReadyIn.cons rfl (fun K hK => ?_) ?_
      · -- 8
        go_simp
        try (refine hK _ _ ?_; clear hK K)
        refine wpAnyIn_ready (rs := [3, 5]) (by kernel_rfl) (by simp) ?_
        refine AllReadyIn.cons rfl (fun K hK => ?_) ?_
        · -- 3
          go_simp
          try (refine hK _ _ ?_; clear hK K)
          refine wpAnyIn_take (i := 4) (v := .bool (bx != bY)) hro rfl (by kernel_rfl) (by kernel_rfl) (by kernel_rfl) (fun _ _ _ h => h) ⟨Or.inl ⟨by rfl, ?_⟩, fun _ => rfl⟩ ?_
          · (intro w; go_simp <;> (cases bx <;> cases bY <;> rfl))
          refine wpAnyIn_ready (rs := [5]) (by kernel_rfl) (by simp) ?_
          refine AllReadyIn.cons rfl (fun K hK => ?_) ?_
          · -- 5
            go_simp
            try (refine hK _ _ ?_; clear hK K)
            refine wpAnyIn_take (i := 6) (v := .agg #[.bool (bx != bY), .slice (some ⟨w.heap.size + 1 + 1 + 1 + 1 + 1, 0, none⟩) n n]) hro rfl (by kernel_rfl) (by kernel_rfl) (by kernel_rfl) (fun _ _ _ h => h) ⟨Or.inl ⟨by rfl, ?_⟩, fun _ => rfl⟩ ?_
            · (intro w; go_simp <;> (cases bx <;> cases bY <;> rfl))
            exact KEY
          exact AllReadyIn.nil
        refine AllReadyIn.cons rfl (fun K hK => ?_) ?_
        · -- 5
          go_simp
          try (refine hK _ _ ?_; clear hK K)
          refine wpAnyIn_ready (rs := [3]) (by kernel_rfl) (by simp) ?_
          refine AllReadyIn.cons rfl (fun K hK => ?_) ?_
          · -- 3
            go_simp
            try (refine hK _ _ ?_; clear hK K)
            refine wpAnyIn_take (i := 4) (v := .bool (bx != bY)) hro rfl (by kernel_rfl) (by kernel_rfl) (by kernel_rfl) (fun _ _ _ h => h) ⟨Or.inl ⟨by rfl, ?_⟩, fun _ => rfl⟩ ?_
            · (intro w; go_simp <;> (cases bx <;> cases bY <;> rfl))
            refine wpAnyIn_take (i := 6) (v := .agg #[.bool (bx != bY), .slice (some ⟨w.heap.size + 1 + 1 + 1 + 1 + 1, 0, none⟩) n n]) hro rfl (by kernel_rfl) (by kernel_rfl) (by kernel_rfl) (fun _ _ _ h => h) ⟨Or.inl ⟨by rfl, ?_⟩, fun _ => rfl⟩ ?_
            · (intro w; go_simp <;> (cases bx <;> cases bY <;> rfl))
            exact KEY
          exact AllReadyIn.nil
        exact AllReadyIn.nil
      exact AllReadyIn.nil
    refine AllReadyIn.cons rfl (fun K hK => ?_) ?_
    · -- 3
      go_simp
      try (refine hK _ _ ?_; clear hK K)
      refine wpAnyIn_ready (rs := [1, 5, 8]) (by kernel_rfl) (by simp) ?_
      refine AllReadyIn.cons rfl (fun K hK => ?_) ?_
      · -- 1
        go_simp
        try (refine hK _ _ ?_; clear hK K)
        refine wpAnyIn_take (i := 4) (v := .bool (bx != bY)) hro rfl (by kernel_rfl) (by kernel_rfl) (by kernel_rfl) (fun _ _ _ h => h) ⟨Or.inl ⟨by rfl, ?_⟩, fun _ => rfl⟩ ?_
        · (intro w; go_simp <;> (cases bx <;> cases bY <;> rfl))
        refine wpAnyIn_ready (rs := [5, 8]) (by kernel_rfl) (by simp) ?_
        refine AllReadyIn.cons rfl (fun K hK => ?_) ?_
        · -- 5
          go_simp
          try (refine hK _ _ ?_; clear hK K)
          refine wpAnyIn_take (i := 6) (v := .agg #[.bool (bx != bY), .slice (some ⟨w.heap.size + 1 + 1 + 1 + 1 + 1, 0, none⟩) n n]) hro rfl (by kernel_rfl) (by kernel_rfl) (by kernel_rfl) (fun _ _ _ h => h) ⟨Or.inl ⟨by rfl, ?_⟩, fun _ => rfl⟩ ?_
          · (intro w; go_simp <;> (cases bx <;> cases bY <;> rfl))
          exact KEY3
        refine AllReadyIn.cons rfl (fun K hK => ?_) ?_
        · -- 8
          go_simp
          try (refine hK _ _ ?_; clear hK K)
          refine wpAnyIn_ready (rs := [5]) (by kernel_rfl) (by simp) ?_
          refine AllReadyIn.cons rfl (fun K hK => ?_) ?_
          · -- 5
            go_simp
            try (refine hK _ _ ?_; clear hK K)
            refine wpAnyIn_take (i := 6) (v := .agg #[.bool (bx != bY), .slice (some ⟨w.heap.size + 1 + 1 + 1 + 1 + 1, 0, none⟩) n n]) hro rfl (by kernel_rfl) (by kernel_rfl) (by kernel_rfl) (fun _ _ _ h => h) ⟨Or.inl ⟨by rfl, ?_⟩, fun _ => rfl⟩ ?_
            · (intro w; go_simp <;> (cases bx <;> cases bY <;> rfl))
            exact KEY
          exact AllReadyIn.nil
        exact AllReadyIn.nil
      refine AllReadyIn.cons rfl (fun K hK => ?_) ?_
      · -- 5
        go_simp
        try (refine hK _ _ ?_; clear hK K)
        refine wpAnyIn_ready (rs := [1, 8]) (by kernel_rfl) (by simp) ?_
        refine AllReadyIn.cons rfl (fun K hK => ?_) ?_
        · -- 1
          go_simp
          try (refine hK _ _ ?_; clear hK K)
          refine wpAnyIn_take (i := 4) (v := .bool (bx != bY)) hro rfl (by kernel_rfl) (by kernel_rfl) (by kernel_rfl) (fun _ _ _ h => h) ⟨Or.inl ⟨by rfl, ?_⟩, fun _ => rfl⟩ ?_
          · (intro w; go_simp <;> (cases bx <;> cases bY <;> rfl))
          refine wpAnyIn_take (i := 6) (v := .agg #[.bool (bx != bY), .slice (some ⟨w.heap.size + 1 + 1 + 1 + 1 + 1, 0, none⟩) n n]) hro rfl (by kernel_rfl) (by kernel_rfl) (by kernel_rfl) (fun _ _ _ h => h) ⟨Or.inl ⟨by rfl, ?_⟩, fun _ => rfl⟩ ?_
          · (intro w; go_simp <;> (cases bx <;> cases bY <;> rfl))
          exact KEY3
        refine AllReadyIn.cons rfl (fun K hK => ?_) ?_
        · -- 8
          go_simp
          try (refine hK _ _ ?_; clear hK K)
          refine wpAnyIn_ready (rs := [1]) (by kernel_rfl) (by simp) ?_
          refine AllReadyIn.cons rfl (fun K hK => ?_) ?_
          · -- 1
            go_simp
            try (refine hK _ _ ?_; clear hK K)
            refine wpAnyIn_take (i := 4) (v := .bool (bx != bY)) hro rfl (by kernel_rfl) (by kernel_rfl) (by kernel_rfl) (fun _ _ _ h => h) ⟨Or.inl ⟨by rfl, ?_⟩, fun _ => rfl⟩ ?_
            · (intro w; go_simp <;> (cases bx <;> cases bY <;> rfl))
            refine wpAnyIn_take (i := 6) (v := .agg #[.bool (bx != bY), .slice (some ⟨w.heap.size + 1 + 1 + 1 + 1 + 1, 0, none⟩) n n]) hro rfl (by kernel_rfl) (by kernel_rfl) (by kernel_rfl) (fun _ _ _ h => h) ⟨Or.inl ⟨by rfl, ?_⟩, fun _ => rfl⟩ ?_
            · (intro w; go_simp <;> (cases bx <;> cases bY <;> rfl))
            exact KEY
          exact AllReadyIn.nil
        exact AllReadyIn.nil
      refine AllReadyIn.cons rfl (fun K hK => ?_) ?_
      · -- 8
        go_simp
        try (refine hK _ _ ?_; clear hK K)
        refine wpAnyIn_ready (rs := [1, 5]) (by kernel_rfl) (by simp) ?_
        refine AllReadyIn.cons rfl (fun K hK => ?_) ?_
        · -- 1
          go_simp
          try (refine hK _ _ ?_; clear hK K)
          refine wpAnyIn_take (i := 4) (v := .bool (bx != bY)) hro rfl (by kernel_rfl) (by kernel_rfl) (by kernel_rfl) (fun _ _ _ h => h) ⟨Or.inl ⟨by rfl, ?_⟩, fun _ => rfl⟩ ?_
          · (intro w; go_simp <;> (cases bx <;> cases bY <;> rfl))
          refine wpAnyIn_ready (rs := [5]) (by kernel_rfl) (by simp) ?_
          refine AllReadyIn.cons rfl (fun K hK => ?_) ?_
          · -- 5
            go_simp
            try (refine hK _ _ ?_; clear hK K)
            refine wpAnyIn_take (i := 6) (v := .agg #[.bool (bx != bY), .slice (some ⟨w.heap.size + 1 + 1 + 1 + 1 + 1, 0, none⟩) n n]) hro rfl (by kernel_rfl) (by kernel_rfl) (by kernel_rfl) (fun _ _ _ h => h) ⟨Or.inl ⟨by rfl, ?_⟩, fun _ => rfl⟩ ?_
            · (intro w; go_simp <;> (cases bx <;> cases bY <;> rfl))
            exact KEY
          exact AllReadyIn.nil
        refine AllReadyIn.cons rfl (fun K hK => ?_) ?_
        · -- 5
          go_simp
          try (refine hK _ _ ?_; clear hK K)
          refine wpAnyIn_ready (rs := [1]) (by kernel_rfl) (by simp) ?_
          refine AllReadyIn.cons rfl (fun K hK => ?_) ?_
          · -- 1
            go_simp
            try (refine hK _ _ ?_; clear hK K)
            refine wpAnyIn_take (i := 4) (v := .bool (bx != bY)) hro rfl (by kernel_rfl) (by kernel_rfl) (by kernel_rfl) (fun _ _ _ h => h) ⟨Or.inl ⟨by rfl, ?_⟩, fun _ => rfl⟩ ?_
            · (intro w; go_simp <;> (cases bx <;> cases bY <;> rfl))
            refine wpAnyIn_take (i := 6) (v := .agg #[.bool (bx != bY), .slice (some ⟨w.heap.size + 1 + 1 + 1 + 1 + 1, 0, none⟩) n n]) hro rfl (by kernel_rfl) (by kernel_rfl) (by kernel_rfl) (fun _ _ _ h => h) ⟨Or.inl ⟨by rfl, ?_⟩, fun _ => rfl⟩ ?_
            · (intro w; go_simp <;> (cases bx <;> cases bY <;> rfl))
            exact KEY
          exact AllReadyIn.nil
        exact AllReadyIn.nil
      exact AllReadyIn.nil
    refine AllReadyIn.cons rfl (fun K hK => ?_) ?_
    · -- 5
      go_simp
      try (refine hK _ _ ?_; clear hK K)
      refine wpAnyIn_ready (rs := [1, 3, 8]) (by kernel_rfl) (by simp) ?_
      refine AllReadyIn.cons rfl (fun K hK => ?_) ?_
      · -- 1
        go_simp
        try (refine hK _ _ ?_; clear hK K)
        refine wpAnyIn_ready (rs := [3, 8]) (by kernel_rfl) (by simp) ?_
        refine AllReadyIn.cons rfl (fun K hK => ?_) ?_
        · -- 3
          go_simp
          try (refine hK _ _ ?_; clear hK K)
          refine wpAnyIn_take (i := 4) (v := .bool (bx != bY)) hro rfl (by kernel_rfl) (by kernel_rfl) (by kernel_rfl) (fun _ _ _ h => h) ⟨Or.inl ⟨by rfl, ?_⟩, fun _ => rfl⟩ ?_
          · (intro w; go_simp <;> (cases bx <;> cases bY <;> rfl))
          refine wpAnyIn_take (i := 6) (v := .agg #[.bool (bx != bY), .slice (some ⟨w.heap.size + 1 + 1 + 1 + 1 + 1, 0, none⟩) n n]) hro rfl (by kernel_rfl) (by kernel_rfl) (by kernel_rfl) (fun _ _ _ h => h) ⟨Or.inl ⟨by rfl, ?_⟩, fun _ => rfl⟩ ?_
          · (intro w; go_simp <;> (cases bx <;> cases bY <;> rfl))
          exact KEY3
        refine AllReadyIn.cons rfl (fun K hK => ?_) ?_
        · -- 8
          go_simp
          try (refine hK _ _ ?_; clear hK K)
          refine wpAnyIn_ready (rs := [3]) (by kernel_rfl) (by simp) ?_
          refine AllReadyIn.cons rfl (fun K hK => ?_) ?_
          · -- 3
            go_simp
            try (refine hK _ _ ?_; clear hK K)
            refine wpAnyIn_take (i := 4) (v := .bool (bx != bY)) hro rfl (by kernel_rfl) (by kernel_rfl) (by kernel_rfl) (fun _ _ _ h => h) ⟨Or.inl ⟨by rfl, ?_⟩, fun _ => rfl⟩ ?_
            · (intro w; go_simp <;> (cases bx <;> cases bY <;> rfl))
            refine wpAnyIn_take (i := 6) (v := .agg #[.bool (bx != bY), .slice (some ⟨w.heap.size + 1 + 1 + 1 + 1 + 1, 0, none⟩) n n]) hro rfl (by kernel_rfl) (by kernel_rfl) (by kernel_rfl) (fun _ _ _ h => h) ⟨Or.inl ⟨by rfl, ?_⟩, fun _ => rfl⟩ ?_
            · (intro w; go_simp <;> (cases bx <;> cases bY <;> rfl))
            exact KEY
          exact AllReadyIn.nil
        exact AllReadyIn.nil
      refine AllReadyIn.cons rfl (fun K hK => ?_) ?_
      · -- 3
        go_simp
        try (refine hK _ _ ?_; clear hK K)
        refine wpAnyIn_ready (rs := [1, 8]) (by kernel_rfl) (by simp) ?_
        refine AllReadyIn.cons rfl (fun K hK => ?_) ?_
        · -- 1
          go_simp
          try (refine hK _ _ ?_; clear hK K)
          refine wpAnyIn_take (i := 4) (v := .bool (bx != bY)) hro rfl (by kernel_rfl) (by kernel_rfl) (by kernel_rfl) (fun _ _ _ h => h) ⟨Or.inl ⟨by rfl, ?_⟩, fun _ => rfl⟩ ?_
          · (intro w; go_simp <;> (cases bx <;> cases bY <;> rfl))
          refine wpAnyIn_take (i := 6) (v := .agg #[.bool (bx != bY), .slice (some ⟨w.heap.size + 1 + 1 + 1 + 1 + 1, 0, none⟩) n n]) hro rfl (by kernel_rfl) (by kernel_rfl) (by kernel_rfl) (fun _ _ _ h => h) ⟨Or.inl ⟨by rfl, ?_⟩, fun _ => rfl⟩ ?_
          · (intro w; go_simp <;> (cases bx <;> cases bY <;> rfl))
          exact KEY3
        refine AllReadyIn.cons rfl (fun K hK => ?_) ?_
        · -- 8
          go_simp
          try (refine hK _ _ ?_; clear hK K)
          refine wpAnyIn_ready (rs := [1]) (by kernel_rfl) (by simp) ?_
          refine AllReadyIn.cons rfl (fun K hK => ?_) ?_
          · -- 1
            go_simp
            try (refine hK _ _ ?_; clear hK K)
            refine wpAnyIn_take (i := 4) (v := .bool (bx != bY)) hro rfl (by kernel_rfl) (by kernel_rfl) (by kernel_rfl) (fun _ _ _ h => h) ⟨Or.inl ⟨by rfl, ?_⟩, fun _ => rfl⟩ ?_
            · (intro w; go_simp <;> (cases bx <;> cases bY <;> rfl))
            refine wpAnyIn_take (i := 6) (v := .agg #[.bool (bx != bY), .slice (some ⟨w.heap.size + 1 + 1 + 1 + 1 + 1, 0, none⟩) n n]) hro rfl (by kernel_rfl) (by kernel_rfl) (by kernel_rfl) (fun _ _ _ h => h) ⟨Or.inl ⟨by rfl, ?_⟩, fun _ => rfl⟩ ?_
            · (intro w; go_simp <;> (cases bx <;> cases bY <;> rfl))
            exact KEY
          exact AllReadyIn.nil
        exact AllReadyIn.nil
      refine AllReadyIn.cons rfl (fun K hK => ?_) ?_
      · -- 8
        go_simp
        try (refine hK _ _ ?_; clear hK K)
        refine wpAnyIn_ready (rs := [1, 3]) (by kernel_rfl) (by simp) ?_
        refine AllReadyIn.cons rfl (fun K hK => ?_) ?_
        · -- 1
          go_simp
          try (refine hK _ _ ?_; clear hK K)
          refine wpAnyIn_ready (rs := [3]) (by kernel_rfl) (by simp) ?_
          refine AllReadyIn.cons rfl (fun K hK => ?_) ?_
          · -- 3
            go_simp
            try (refine hK _ _ ?_; clear hK K)
            refine wpAnyIn_take (i := 4) (v := .bool (bx != bY)) hro rfl (by kernel_rfl) (by kernel_rfl) (by kernel_rfl) (fun _ _ _ h => h) ⟨Or.inl ⟨by rfl, ?_⟩, fun _ => rfl⟩ ?_
            · (intro w; go_simp <;> (cases bx <;> cases bY <;> rfl))
            refine wpAnyIn_take (i := 6) (v := .agg #[.bool (bx != bY), .slice (some ⟨w.heap.size + 1 + 1 + 1 + 1 + 1, 0, none⟩) n n]) hro rfl (by kernel_rfl) (by kernel_rfl) (by kernel_rfl) (fun _ _ _ h => h) ⟨Or.inl ⟨by rfl, ?_⟩, fun _ => rfl⟩ ?_
            · (intro w; go_simp <;> (cases bx <;> cases bY <;> rfl))
            exact KEY
          exact AllReadyIn.nil
        refine AllReadyIn.cons rfl (fun K hK => ?_) ?_
        · -- 3
          go_simp
          try (refine hK _ _ ?_; clear hK K)
          refine wpAnyIn_ready (rs := [1]) (by kernel_rfl) (by simp) ?_
          refine AllReadyIn.cons rfl (fun K hK => ?_) ?_
          · -- 1
            go_simp
            try (refine hK _ _ ?_; clear hK K)
            refine wpAnyIn_take (i := 4) (v := .bool (bx != bY)) hro rfl (by kernel_rfl) (by kernel_rfl) (by kernel_rfl) (fun _ _ _ h => h) ⟨Or.inl ⟨by rfl, ?_⟩, fun _ => rfl⟩ ?_
            · (intro w; go_simp <;> (cases bx <;> cases bY <;> rfl))
            refine wpAnyIn_take (i := 6) (v := .agg #[.bool (bx != bY), .slice (some ⟨w.heap.size + 1 + 1 + 1 + 1 + 1, 0, none⟩) n n]) hro rfl (by kernel_rfl) (by kernel_rfl) (by kernel_rfl) (fun _ _ _ h => h) ⟨Or.inl ⟨by rfl, ?_⟩, fun _ => rfl⟩ ?_
            · (intro w; go_simp <;> (cases bx <;> cases bY <;> rfl))
            exact KEY
          exact AllReadyIn.nil
        exact AllReadyIn.nil
      exact AllReadyIn.nil
    refine AllReadyIn.cons rfl (fun K hK => ?_) ?_
    · -- 8
      go_simp
      try (refine hK _ _ ?_; clear hK K)
      refine wpAnyIn_ready (rs := [1, 3, 5]) (by kernel_rfl) (by simp) ?_
      refine AllReadyIn.cons rfl (fun K hK => ?_) ?_
      · -- 1
        go_simp
        try (refine hK _ _ ?_; clear hK K)
        refine wpAnyIn_ready (rs := [3, 5]) (by kernel_rfl) (by simp) ?_
        refine AllReadyIn.cons rfl (fun K hK => ?_) ?_
        · -- 3
          go_simp
          try (refine hK _ _ ?_; clear hK K)
          refine wpAnyIn_take (i := 4) (v := .bool (bx != bY)) hro rfl (by kernel_rfl) (by kernel_rfl) (by kernel_rfl) (fun _ _ _ h => h) ⟨Or.inl ⟨by rfl, ?_⟩, fun _ => rfl⟩ ?_
          · (intro w; go_simp <;> (cases bx <;> cases bY <;> rfl))
          refine wpAnyIn_ready (rs := [5]) (by kernel_rfl) (by simp) ?_
          refine AllReadyIn.cons rfl (fun K hK => ?_) ?_
          · -- 5
            go_simp
            try (refine hK _ _ ?_; clear hK K)
            refine wpAnyIn_take (i := 6) (v := .agg #[.bool (bx != bY), .slice (some ⟨w.heap.size + 1 + 1 + 1 + 1 + 1, 0, none⟩) n n]) hro rfl (by kernel_rfl) (by kernel_rfl) (by kernel_rfl) (fun _ _ _ h => h) ⟨Or.inl ⟨by rfl, ?_⟩, fun _ => rfl⟩ ?_
            · (intro w; go_simp <;> (cases bx <;> cases bY <;> rfl))
            exact KEY
          exact AllReadyIn.nil
        refine AllReadyIn.cons rfl (fun K hK => ?_) ?_
        · -- 5
          go_simp
          try (refine hK _ _ ?_; clear hK K)
          refine wpAnyIn_ready (rs := [3]) (by kernel_rfl) (by simp) ?_
          refine AllReadyIn.cons rfl (fun K hK => ?_) ?_
          · -- 3
            go_simp
            try (refine hK _ _ ?_; clear hK K)
            refine wpAnyIn_take (i := 4) (v := .bool (bx != bY)) hro rfl (by kernel_rfl) (by kernel_rfl) (by kernel_rfl) (fun _ _ _ h => h) ⟨Or.inl ⟨by rfl, ?_⟩, fun _ => rfl⟩ ?_
            · (intro w; go_simp <;> (cases bx <;> cases bY <;> rfl))
            refine wpAnyIn_take (i := 6) (v := .agg #[.bool (bx != bY), .slice (some ⟨w.heap.size + 1 + 1 + 1 + 1 + 1, 0, none⟩) n n]) hro rfl (by kernel_rfl) (by kernel_rfl) (by kernel_rfl) (fun _ _ _ h => h) ⟨Or.inl ⟨by rfl, ?_⟩, fun _ => rfl⟩ ?_
            · (intro w; go_simp <;> (cases bx <;> cases bY <;> rfl))
            exact KEY
          exact AllReadyIn.nil
        exact AllReadyIn.nil
      refine AllReadyIn.cons rfl (fun K hK => ?_) ?_
      · -- 3
        go_simp
        try (refine hK _ _ ?_; clear hK K)
        refine wpAnyIn_ready (rs := [1, 5]) (by kernel_rfl) (by simp) ?_
        refine AllReadyIn.cons rfl (fun K hK => ?_) ?_
        · -- 1
          go_simp
          try (refine hK _ _ ?_; clear hK K)
          refine wpAnyIn_take (i := 4) (v := .bool (bx != bY)) hro rfl (by kernel_rfl) (by kernel_rfl) (by kernel_rfl) (fun _ _ _ h => h) ⟨Or.inl ⟨by rfl, ?_⟩, fun _ => rfl⟩ ?_
          · (intro w; go_simp <;> (cases bx <;> cases bY <;> rfl))
          refine wpAnyIn_ready (rs := [5]) (by kernel_rfl) (by simp) ?_
          refine AllReadyIn.cons rfl (fun K hK => ?_) ?_
          · -- 5
            go_simp
            try (refine hK _ _ ?_; clear hK K)
            refine wpAnyIn_take (i := 6) (v := .agg #[.bool (bx != bY), .slice (some ⟨w.heap.size + 1 + 1 + 1 + 1 + 1, 0, none⟩) n n]) hro rfl (by kernel_rfl) (by kernel_rfl) (by kernel_rfl) (fun _ _ _ h => h) ⟨Or.inl ⟨by rfl, ?_⟩, fun _ => rfl⟩ ?_
            · (intro w; go_simp <;> (cases bx <;> cases bY <;> rfl))
            exact KEY
          exact AllReadyIn.nil
        refine AllReadyIn.cons rfl (fun K hK => ?_) ?_
        · -- 5
          go_simp
          try (refine hK _ _ ?_; clear hK K)
          refine wpAnyIn_ready (rs := [1]) (by kernel_rfl) (by simp) ?_
          refine AllReadyIn.cons rfl (fun K hK => ?_) ?_
          · -- 1
            go_simp
            try (refine hK _ _ ?_; clear hK K)
            refine wpAnyIn_take (i := 4) (v := .bool (bx != bY)) hro rfl (by kernel_rfl) (by kernel_rfl) (by kernel_rfl) (fun _ _ _ h => h) ⟨Or.inl ⟨by rfl, ?_⟩, fun _ => rfl⟩ ?_
            · (intro w; go_simp <;> (cases bx <;> cases bY <;> rfl))
            refine wpAnyIn_take (i := 6) (v := .agg #[.bool (bx != bY), .slice (some ⟨w.heap.size + 1 + 1 + 1 + 1 + 1, 0, none⟩) n n]) hro rfl (by kernel_rfl) (by kernel_rfl) (by kernel_rfl) (fun _ _ _ h => h) ⟨Or.inl ⟨by rfl, ?_⟩, fun _ => rfl⟩ ?_
            · (intro w; go_simp <;> (cases bx <;> cases bY <;> rfl))
            exact KEY
          exact AllReadyIn.nil
        exact AllReadyIn.nil
      refine AllReadyIn.cons rfl (fun K hK => ?_) ?_
      · -- 5
        go_simp
        try (refine hK _ _ ?_; clear hK K)
        refine wpAnyIn_ready (rs := [1, 3]) (by kernel_rfl) (by simp) ?_
        refine AllReadyIn.cons rfl (fun K hK => ?_) ?_
        · -- 1
          go_simp
          try (refine hK _ _ ?_; clear hK K)
          refine wpAnyIn_ready (rs := [3]) (by kernel_rfl) (by simp) ?_
          refine AllReadyIn.cons rfl (fun K hK => ?_) ?_
          · -- 3
            go_simp
            try (refine hK _ _ ?_; clear hK K)
            refine wpAnyIn_take (i := 4) (v := .bool (bx != bY)) hro rfl (by kernel_rfl) (by kernel_rfl) (by kernel_rfl) (fun _ _ _ h => h) ⟨Or.inl ⟨by rfl, ?_⟩, fun _ => rfl⟩ ?_
            · (intro w; go_simp <;> (cases bx <;> cases bY <;> rfl))
            refine wpAnyIn_take (i := 6) (v := .agg #[.bool (bx != bY), .slice (some ⟨w.heap.size + 1 + 1 + 1 + 1 + 1, 0, none⟩) n n]) hro rfl (by kernel_rfl) (by kernel_rfl) (by kernel_rfl) (fun _ _ _ h => h) ⟨Or.inl ⟨by rfl, ?_⟩, fun _ => rfl⟩ ?_
            · (intro w; go_simp <;> (cases bx <;> cases bY <;> rfl))
            exact KEY
          exact AllReadyIn.nil
        refine AllReadyIn.cons rfl (fun K hK => ?_) ?_
        · -- 3
          go_simp
          try (refine hK _ _ ?_; clear hK K)
          refine wpAnyIn_ready (rs := [1]) (by kernel_rfl) (by simp) ?_
          refine AllReadyIn.cons rfl (fun K hK => ?_) ?_
          · -- 1
            go_simp
            try (refine hK _ _ ?_; clear hK K)
            refine wpAnyIn_take (i := 4) (v := .bool (bx != bY)) hro rfl (by kernel_rfl) (by kernel_rfl) (by kernel_rfl) (fun _ _ _ h => h) ⟨Or.inl ⟨by rfl, ?_⟩, fun _ => rfl⟩ ?_
            · (intro w; go_simp <;> (cases bx <;> cases bY <;> rfl))
            refine wpAnyIn_take (i := 6) (v := .agg #[.bool (bx != bY), .slice (some ⟨w.heap.size + 1 + 1 + 1 + 1 + 1, 0, none⟩) n n]) hro rfl (by kernel_rfl) (by kernel_rfl) (by kernel_rfl) (fun _ _ _ h => h) ⟨Or.inl ⟨by rfl, ?_⟩, fun _ => rfl⟩ ?_
            · (intro w; go_simp <;> (cases bx <;> cases bY <;> rfl))
            exact KEY
          exact AllReadyIn.nil
        exact AllReadyIn.nil
      exact AllReadyIn.nil
    exact AllReadyIn.nil
    --END12
  case stop => rintro D0 c k W _ _ h _; exact h.elim

end Go.Proofs.YtjfmefdhfboliaaDoor
