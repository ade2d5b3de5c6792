/- Walks through times of package big: the product of amounts, row by row. -/
import Derived.Test.YtjfmefdhfboliaaDoorWa
import Derived.Test.YtjfmefdhfboliaaDoorWc
import Derived.Deep.LoopGhost
import Derived.Deep.QuietTactic
import Derived.BigQuiet
import Derived.Lib.Hide
import Derived.IntWalk
import Derived.WalkLawsBesides
import Derived.WalkSpells
namespace Go.Proofs.YtjfmefdhfboliaaDoor
open Go.RowKit Num

theorem madeZeros (n : Nat) : (madeCells (Value.int .i64 0).cells (n * 1)).toList = (List.replicate n (0 : Int)).map (Value.int .i64) := by
  apply List.ext_getElem
  · simp [madeCells]
  · intro i h1 h2
    simp [madeCells, Value.cells, Nat.mod_one]

set_option maxRecDepth 100000 in
set_option maxHeartbeats 2000000 in
theorem times_raw (a b : List Int) (ha : Dig a) (hb : Dig b) (bx bY : Bool) (A B : Option Addr) (ca cb : Nat) (w : World) (hA : Digs w (.slice A a.length ca) a) (hB : Digs w (.slice B b.length cb) b) (la : a.length ≤ 1000000) (lb : b.length ≤ 1000000) :
    Calls Tryd.prog 31 #[.agg #[.bool bx, .slice A a.length ca], .agg #[.bool bY, .slice B b.length cb]] w (Gives w (if (bx != bY) = true then - (val a * val b) else val a * val b)) := by
  obtain ⟨i0, hi, hz0, hz1, hz2⟩ := info_parts Tryd.info3
  obtain ⟨A', cap, e, h1, h2, _, _, h3⟩ := hA.form
  cases e
  unfold maxLen at h2
  have hB2 : Below w.heap.size w (((w.alloc (.cells #[.bool bx, .slice A a.length ca] 43)).alloc (.cells #[.bool bY, .slice B b.length cb] 43)).alloc (.cells #[.bool false, .slice none 0 0] 43)) := (((Below.refl _ _).alloc (Nat.le_refl _) _).alloc (by simp) _).alloc (by simp; omega) _
  have hBB2 := hB.below hB2
  have hblk : ∀ j, (Value.slice B b.length cb).ownBlock = some j → j < w.heap.size := fun j hj => (World.ownsRow.lt hB j hj).2
  have HBK := Lib.hid hblk
  clear hblk
  have hz : ∀ zs : List Int, val zs = val a * val b → (if (bx != bY) = true then - (val a * val b) else val a * val b) = if (bx != bY) = true then - val zs else val zs := fun zs h => by rw [h]
  generalize (if (bx != bY) = true then - (val a * val b) else val a * val b) = z at *
  have HZ := Lib.hid hz
  clear hz
  go_enter Tryd.func31, Tryd.ntmps31
  go_wp2_with (at_make; refine wpList_make_full _ rfl _ _ 41 rfl (w.heap.size + 1 + 1 + 1) 3 i0 (.int .i64 0) 1 Tryd.underlying41 hi hz0 hz1 .i64 .i64 _ _ (a.length + b.length + 1) rfl rfl (by omega) (by omega) (by rw [hz2]; omega) (by unfold maxLen; omega) (by simp) ?_; intro w1 hown hgrow; have hb1 := below_of_grown hgrow; obtain ⟨hc1, hf1⟩ := bcell hb1; have hz1 := hb1.size)
  have k0 : w1.cell? ⟨w.heap.size, 0, none⟩ = some (.bool bx) := by rw [hc1 _ _ (by simp only [World.size_alloc]; omega)]; simp [go_sem]
  have k1 : w1.cell? ⟨w.heap.size, 1, none⟩ = some (.slice A a.length ca) := by rw [hc1 _ _ (by simp only [World.size_alloc]; omega)]; simp [go_sem]
  have k2 : w1.cell? ⟨w.heap.size + 1, 0, none⟩ = some (.bool bY) := by rw [hc1 _ _ (by simp only [World.size_alloc]; omega)]; simp [go_sem]
  have k3 : w1.cell? ⟨w.heap.size + 1, 1, none⟩ = some (.slice B b.length cb) := by rw [hc1 _ _ (by simp only [World.size_alloc]; omega)]; simp [go_sem]
  have g1 : w1.cell? ⟨w.heap.size + 1 + 1, 0, none⟩ = some (.bool false) := by rw [hc1 _ _ (by simp only [World.size_alloc]; omega)]; simp [go_sem]
  have g2 : w1.cell? ⟨w.heap.size + 1 + 1, 1, none⟩ = some (.slice none 0 0) := by rw [hc1 _ _ (by simp only [World.size_alloc]; omega)]; simp [go_sem]
  have f1 : w1.frozen? ⟨w.heap.size + 1 + 1, 0, none⟩ = false := by rw [hf1 _ _ (by simp only [World.size_alloc]; omega)]; simp [go_sem]
  have f2 : w1.frozen? ⟨w.heap.size + 1 + 1, 1, none⟩ = false := by rw [hf1 _ _ (by simp only [World.size_alloc]; omega)]; simp [go_sem]
  have bxx : Box w1 (w.heap.size + 1 + 1) 43 := by
    have := ((Box.new ((w.alloc (.cells #[.bool bx, .slice A a.length ca] 43)).alloc (.cells #[.bool bY, .slice B b.length cb] 43)) #[.bool false, .slice none 0 0] 43).below hb1)
    simpa using this
  have hB1 : Below w.heap.size w w1 := hB2.trans (hb1.mono (by simp; omega))
  have hBw : Digs w1 (.slice B b.length cb) b := hBB2.below hb1
  have z1 : w.heap.size + 1 + 1 + 1 ≤ w1.heap.size := by simpa using hb1.size
  simp only [World.size_alloc] at hown
  rw [madeZeros] at hown
  have hD : ∀ j, j < b.length → True := fun _ _ => trivial
  clear hc1 hf1 hb1 hgrow hBB2 hB2 hz1 hD
  generalize hg : w.heap.size + 1 + 1 + 1 = g at *
  have hgH : w.heap.size + 3 ≤ g := by omega
  have HG := Lib.hid hg
  have hBb := hBw.form
  clear hg
  go_loopg [24] a.length (fun gk i wr => ∃ k : Nat, k ≤ a.length ∧ gk = a.length - k ∧ i = .int .i64 k ∧ wr.ownsRow g 3 1 (.slice (some ⟨g, 0, none⟩) (a.length + b.length + 1) (a.length + b.length + 1)) (a.length + b.length + 1) ((mulTo a b k).map (Value.int .i64)) ∧ Below g w1 wr)
  case atStart => exact ⟨0, Nat.zero_le _, rfl, rfl, hown, Below.refl _ _⟩
  case round =>
    obtain ⟨k, hk, rfl, rfl, hown, hnx⟩ := hrel
    obtain ⟨wo, rfl⟩ : ∃ wo : World, wo = wr := ⟨_, rfl⟩
    by_cases hlt : k < a.length
    · obtain ⟨ga, rfl, hga, hc⟩ := h3 k hlt
      have hcr : wo.cell? ⟨ga, k, none⟩ = some (.int .i64 (D a k)) := (hnx.cell (p := ⟨ga, k, none⟩) (by show ga < g; omega)).trans ((hB1.cell (p := ⟨ga, k, none⟩) hga).trans hc)
      have k3r : wo.cell? ⟨w.heap.size + 1, 1, none⟩ = some (.slice B b.length cb) := (hnx.cell (p := ⟨w.heap.size + 1, 1, none⟩) (by show w.heap.size + 1 < g; omega)).trans k3
      have dx := D_dig ha k
      generalize hx : D a k = x at *
      have HX := Lib.hid hx
      clear hx
      go_wp2
      rw [show k + b.length + 1 - k = b.length + 1 from by omega]
      obtain ⟨m1, m2, _⟩ := mulTo_inv ha hb k hk
      have HM : Hid (mulTo a b (k + 1) = (rowTo (mulTo a b k) b (D a k) k (b.length + 1)).1) := rfl
      rw [HX.out] at HM
      have hro : ∀ j, j ≤ b.length + 1 → _ := fun j hj => rowTo_inv (i := k) m2 hb dx j (by rw [m1]; omega)
      have HR := Lib.hid hro
      have m1' := Lib.hid m1
      clear hro m2 m1 hcr hc h3 k3r
      generalize mulTo a b k = M at *
      go_loopg [8, 46] (b.length + 1) (fun gj c i wr => ∃ j : Nat, j ≤ b.length + 1 ∧ gj = b.length + 1 - j ∧ i = .int .i64 j ∧ c = .int .i64 (rowTo M b x k j).2 ∧
        wr.ownsRow g 3 1 (.slice (some ⟨g, 0, none⟩) (a.length + b.length + 1) (a.length + b.length + 1)) (a.length + b.length + 1) ((rowTo M b x k j).1.map (Value.int .i64)) ∧ Below g w1 wr)
      case atStart => exact ⟨0, Nat.zero_le _, rfl, rfl, rfl, hown, hnx⟩
      case round =>
        obtain ⟨j, hj, rfl, rfl, rfl, hown, hnx⟩ := hrel
        by_cases hjl : j < b.length + 1
        · obtain ⟨i1, i2, i3, i4, _⟩ := HR.out j hj
          have m2' := m1'.out
          have dr := D_dig i2 (k + j)
          have db := D_dig hb j
          have dm := mul_dig dx db
          have hcell : wr.cell? ⟨g, k + j, none⟩ = some (.int .i64 (D (rowTo M b x k j).1 (k + j))) := by
            rw [hown.cellAt (k + j) (by omega)]
            rw [List.getElem?_map]
            have hl : k + j < (rowTo M b x k j).1.length := by omega
            simp [D, List.getElem?_eq_getElem hl]
          have hfr := hown.frozenAt (k + j)
          have hst := hown.stored (k + j) (.int .i64 ((D (rowTo M b x k j).1 (k + j) + x * D b j + (rowTo M b x k j).2) % 1000000000))
          have hstep : rowTo M b x k (j + 1) = ((rowTo M b x k j).1.set (k + j) ((D (rowTo M b x k j).1 (k + j) + x * D b j + (rowTo M b x k j).2) % 1000000000),
            (D (rowTo M b x k j).1 (k + j) + x * D b j + (rowTo M b x k j).2) / 1000000000) := rfl
          have HST := Lib.hid hstep
          have HSD := Lib.hid hst
          have k3r : wr.cell? ⟨w.heap.size + 1, 1, none⟩ = some (.slice B b.length cb) := (hnx.cell (p := ⟨w.heap.size + 1, 1, none⟩) (by show w.heap.size + 1 < g; omega)).trans k3
          have hBr : Digs wr (.slice B b.length cb) b := ownsRow_below hBw hnx (fun j hj => by have := HBK.out j hj; omega)
          have HO := Lib.hid hown
          clear hstep hst i1 i2 hown m2'
          generalize rowTo M b x k j = r at *
          obtain ⟨out, cy⟩ := r
          dsimp only at *
          generalize D out (k + j) = y at *
          generalize hd : D b j = d at *
          have HD := Lib.hid hd
          clear hd
          have hprod : 0 ≤ x * d := dm.1
          have hprod2 : x * d ≤ 999999998000000001 := dm.2
          have hdig : ∀ nq, Calls Tryd.prog 48 #[.slice B b.length cb, .int .i64 j] (wr.drewN nq) fun e w' => e = .returned (.int .i64 d) ∧ w' = wr.drewN nq := fun nq => by
            have := digit_any B cb b j (wr.drewN nq) (by omega) hBr
            rw [HD.out] at this
            exact this.mono fun e w' ⟨h1, h2⟩ => ⟨h1, h2.symm⟩
          have HDG := Lib.hid hdig
          clear hdig
          have ws1 : IntKind.i64.wrap (x * d) = x * d := IntWalk.i64_in _ (by omega)
          have ws2 : IntKind.i64.wrap (y + x * d) = y + x * d := IntWalk.i64_in _ (by omega)
          have ws3 : IntKind.i64.wrap (y + x * d + cy) = y + x * d + cy := IntWalk.i64_in _ (by omega)
          generalize hxd : x * d = pr at *
          have HXD := Lib.hid hxd
          go_wp2
          go_quiet ((go_at_call 48; exact Calls.quiet_of_same (HDG.out _)))
          clear ws1 ws2 ws3
          go_wp2
          have hr := (World.ownsRow.stored (w := wr.drewN nq) HO.out (k + j) (.int .i64 ((y + pr + cy) % 1000000000))).1
          rw [← List.map_set] at hr
          have hb' : Below g w1 ((wr.drewN nq).setCell ⟨g, k + j, none⟩ (.int .i64 ((y + pr + cy) % 1000000000))) := (below_drewN hnx nq).setCell (p := ⟨g, k + j, none⟩) (Nat.le_refl _) _
          go_roundg (b.length + 1 - (j + 1))
          case measure => omega
          case rel => exact ⟨j + 1, by omega, rfl, by go_num, by rw [HST.out], by rw [HST.out]; exact hr, hb'⟩
        · obtain rfl : j = b.length + 1 := by omega
          clear hBw hA hB
          go_wp2
          go_roundg (a.length - (k + 1))
          case measure => omega
          case rel => exact ⟨k + 1, by omega, rfl, by go_num, by rw [HM.out]; exact hown, hnx⟩
    · obtain rfl : k = a.length := by omega
      obtain ⟨m1, m2, m3⟩ := mulTo_inv ha hb a.length (Nat.le_refl _)
      rw [List.take_length] at m3
      have k0r : wo.cell? ⟨w.heap.size, 0, none⟩ = some (.bool bx) := (hnx.cell (p := ⟨w.heap.size, 0, none⟩) (by show w.heap.size < g; omega)).trans k0
      have k2r : wo.cell? ⟨w.heap.size + 1, 0, none⟩ = some (.bool bY) := (hnx.cell (p := ⟨w.heap.size + 1, 0, none⟩) (by show w.heap.size + 1 < g; omega)).trans k2
      have g1r : wo.cell? ⟨w.heap.size + 1 + 1, 0, none⟩ = some (.bool false) := (hnx.cell (p := ⟨w.heap.size + 1 + 1, 0, none⟩) (by show w.heap.size + 1 + 1 < g; omega)).trans g1
      have g2r : wo.cell? ⟨w.heap.size + 1 + 1, 1, none⟩ = some (.slice none 0 0) := (hnx.cell (p := ⟨w.heap.size + 1 + 1, 1, none⟩) (by show w.heap.size + 1 + 1 < g; omega)).trans g2
      have f1r : wo.frozen? ⟨w.heap.size + 1 + 1, 0, none⟩ = false := (hnx.frozen (p := ⟨w.heap.size + 1 + 1, 0, none⟩) (by show w.heap.size + 1 + 1 < g; omega)).trans f1
      have f2r : wo.frozen? ⟨w.heap.size + 1 + 1, 1, none⟩ = false := (hnx.frozen (p := ⟨w.heap.size + 1 + 1, 1, none⟩) (by show w.heap.size + 1 + 1 < g; omega)).trans f2
      have hdm : Digs wo (.slice (some ⟨g, 0, none⟩) (mulTo a b a.length).length (a.length + b.length + 1)) (mulTo a b a.length) := by rw [m1]; exact Digs.of_own hown
      have hT := trimmed_to (bx != bY) (some ⟨g, 0, none⟩) (a.length + b.length + 1) (mulTo a b a.length) z wo m2 (HZ.out _ m3) hdm
      rw [m1] at hT
      have HT := Lib.hid hT
      clear hT hdm m1 m2 m3 h3 hown HZ
      go_wp2_with (go_at_call 45; refine HT.out.mono ?_; rintro e w3 ⟨v, rfl, ⟨s3, rfl, hd3⟩, hb3⟩; obtain ⟨A3, c3, rfl, _⟩ := hd3.form; have g1' := keeps_cell hb3 g1r; have g2' := keeps_cell hb3 g2r; have f1' := keeps_free hb3 g1r f1r; have f2' := keeps_free hb3 g2r f2r; have bx3 := (bxx.keep hnx (by omega)).below hb3)
      refine bodyPost_ret (v := .agg #[.bool (decide (z < 0)), .slice A3 (limbs z.natAbs).length c3]) (by simp [results, Tryd.results31, go_sem, g1', g2']) rfl ?_
      exact ⟨_, rfl, ⟨_, rfl, hd3.store2 bx3 _ _⟩, below_store2 ((hB1.trans (hnx.mono (by omega))).trans (hb3.mono (by have := hB1.size; have := hnx.size; omega))) (by omega) _ _⟩

/-- times(a, b), of whatever signs. -/
theorem times_any (x y : Nat) (bx bY : Bool) (va vb : Value) (w : World) (ha : Digs w va (limbs x)) (hb : Digs w vb (limbs y)) (lx : Small x) (ly : Small y) :
    Calls Tryd.prog 31 #[.agg #[.bool bx, va], .agg #[.bool bY, vb]] w (Gives w (if (bx != bY) = true then - ((x * y : Nat) : Int) else ((x * y : Nat) : Int))) := by
  obtain ⟨A, ca, rfl, _⟩ := ha.form
  obtain ⟨B, cb, rfl, _⟩ := hb.form
  have := times_raw _ _ (dig_limbs x) (dig_limbs y) bx bY A B ca cb w ha hb lx ly
  rwa [val_limbs, val_limbs, ← Int.natCast_mul] at this

end Go.Proofs.YtjfmefdhfboliaaDoor
