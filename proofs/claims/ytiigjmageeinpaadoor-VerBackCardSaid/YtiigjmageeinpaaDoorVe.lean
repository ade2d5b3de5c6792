/- Walk: Path. -/
import Derived.Test.YtiigjmageeinpaaDoorVd
namespace Go.Proofs.YtiigjmageeinpaaDoor
open Go.RowKit Go.Shelf

attribute [local go_sem] Oper.semAt_some

theorem run_store_func {P : Program} {w : World} {a : Addr} {m : Mode} (f : Fn) (c lb : Array Value) : (store a (.func f c lb) m).run P w = stored P w a (.func f c lb) m := run_store P w a _ m rfl
attribute [local go_sem] run_store_func

/-- The fence that asks nothing, behind a letter. -/
theorem wide_letter {P : Program} {f : FuncId} {args : Array Value} {w : World} {R : Ending → World → Prop}
    (h : ∀ (F : Fence), (∀ g, F.fn g) → F.round = none → F.depth = none → (∀ (m : Nat) (g : FuncId) (vs : Array Value) (W : World) (R1 : Ending → World → Prop), Calls P g vs W R1 → CallsIn F m P g vs W R1) → CallsIn F 9 P f args w R) : Calls P f args w R :=
  (callsIn_wide (n := 9)).1 (h Fence.wide (fun _ => trivial) rfl rfl fun _ _ _ _ _ hc => callsIn_wide.2 hc)

theorem below_shut {B : Nat} {w W : World} (h : Below B w W) {D : Nat} (hD : B ≤ D) {o : Obj} (hK : W.heap[D]? = some o) (o' : Obj) : Below B w (W.putObj D o') :=
  h.grown (grownBy_putObj' W D o') (by have := (Array.getElem?_eq_some_iff.1 hK).1; omega) (fun k e => by cases e; exact hD)

theorem keeps_of_below {W W' : World} (h : Below W.heap.size W W') : KeepsOthers W W' := ⟨h.size, fun k _o hk _ => (h.block k (Array.getElem?_eq_some_iff.1 hk).1).trans hk⟩

/-- ver.Path. -/
def pathB (l : List UInt8) : Bool := (splitC 47 l).all (allB pathN) && decide (l.length ≤ 200)

theorem path_at (l : List UInt8) {i : Bool} (hi : allB pathN l = i) (W : World) : Calls Tryd.prog 25 #[.string (bs l), .func (.func 22) #[] #[]] W (Out W.heap.size W (.bool i)) := by
  subst hi
  exact all_path (bs l) W

set_option maxRecDepth 100000 in
set_option maxHeartbeats 2000000 in
theorem Path_walk (l : List UInt8) (hl : l.length ≤ 100000) (w : World) : Calls Tryd.prog 13 #[.string (bs l)] w (Out w.heap.size w (.bool (pathB l))) := by
  refine wide_letter fun F hfn hro hdep up => ?_
  have f24 := hfn 24
  have f33 := hfn 33
  have f41 := hfn 41
  have f43 := hfn 43
  have f25 := hfn 25
  have f13 := hfn 13
  refine callsIn_of_wp_marks Tryd.func13 rfl f13 ?_ hro
  simp only [Tryd.ntmps13, List.size_toArray, List.length_cons, List.length_nil, Nat.reduceAdd, Nat.reduceSub, Array.replicate_succ, Array.replicate_zero, List.push_toArray, List.append_toArray, List.nil_append, List.cons_append]
  have e47 : (⟨#[47]⟩ : ByteArray) = bs [47] := rfl
  clear hfn
  rw [e47]
  gi_wp2_with (gi_at_call 24; refine (split_in F _ f24 f33 hro (by omega) l 47 _).mono ?_; rintro e w' ⟨rfl, rfl⟩)
  obtain ⟨W0, hW0⟩ : ∃ W0, ((w.alloc (Obj.cells #[Value.bool false] 4)).alloc (Obj.cells #[Value.func (Fn.func 22) #[] #[]] 50)) = W0 := ⟨_, rfl⟩
  have hz0 : W0.heap.size = w.heap.size + 1 + 1 := by rw [← hW0]; simp
  have hb0 : Below w.heap.size w W0 := by rw [← hW0]; exact ((Below.refl _ _).alloc (Nat.le_refl _) _).alloc (by simp) _
  have c0 : W0.cell? ⟨w.heap.size, 0, none⟩ = some (.bool false) := by rw [← hW0]; simp [go_sem]
  have c1 : W0.cell? ⟨w.heap.size + 1, 0, none⟩ = some (.func (.func 22) #[] #[]) := by rw [← hW0]; simp [go_sem]
  have c2 : W0.frozen? ⟨w.heap.size, 0, none⟩ = false := by rw [← hW0]; simp [go_sem]
  have hbx := boxed3_is W0 l 47
  have hbb := boxed3_below W0 l 47
  have hbz := boxed3_size W0 l 47
  rw [hW0, show w.heap.size + 1 + 1 = W0.heap.size from hz0.symm]
  have d0 := keeps_cell hbb c0
  have d1 := keeps_cell hbb c1
  have d2 := (hbb.frozen (p := ⟨w.heap.size, 0, none⟩) (by show w.heap.size < _; omega)).trans c2
  have hbw := hb0.trans (hbb.mono hb0.size)
  have HZ := Lib.hid hz0
  clear hW0 c0 c1 c2 hb0 hbb hz0
  refine wpIn_rangeFunc_idx hro (by omega) (gf := 41) rfl f41 (enters_of Tryd.func41 (by kernel_rfl) rfl)
    (split_stops F 8 f41 f43 hro (by omega) up W0.heap.size W0.heap.size 47 l hl _ hbx (Nat.le_refl _)) (fun h k => h.trans k) (fun W l o o' _ h h1 _ => Hold.putObj W l o o' h h1) (Below.refl _ _) (fun _ => rfl) (fun A A' h => by obtain ⟨v, rfl⟩ := h; exact KeepsOthers.setCell _ _ _)
    (fun k W => ((∀ j, j < k → allB pathN ((splitC 47 l).getD j []) = true) ∧ W.cell? ⟨w.heap.size, 0, none⟩ = some (.bool false) ∧ W.cell? ⟨w.heap.size + 1, 0, none⟩ = some (.func (.func 22) #[] #[]) ∧ W.frozen? ⟨w.heap.size, 0, none⟩ = false) ∧ Below w.heap.size w W)
    (fun c k W => (c = .ret ∧ pathB l = false ∧ W.cell? ⟨w.heap.size, 0, none⟩ = some (.bool false)) ∧ Below w.heap.size w W)
    (OwnFrom.and (Own.from (fun s A B row hs hg hr => ⟨hs.1, cell_kept hs.2.1 hg hr, cell_kept hs.2.2.1 hg hr, (frozen_kept hs.2.1 hg hr).trans hs.2.2.2⟩) _) (ownFrom_below (Nat.le_refl _) (by have := HZ.out; omega)))
    (fun c => OwnFrom.and (Own.from (fun s A B row hs hg hr => ⟨hs.1, hs.2.1, cell_kept hs.2.2 hg hr⟩) _) (ownFrom_below (Nat.le_refl _) (by have := HZ.out; omega)))
    ?hIT ?hIxT ⟨⟨fun j h => absurd h (Nat.not_lt_zero j), d0, d1, d2⟩, hbw⟩
    (fun k => { tmps := #[.string (bs l), undef, .pointer (some ⟨w.heap.size, 0, none⟩), .pointer (some ⟨w.heap.size + 1, 0, none⟩), .string (bs ((splitC 47 l).getD k [])), .string (bs l),
      .func (.func 41) #[] #[.pointer (some ⟨W0.heap.size + 1, 0, none⟩), .pointer (some ⟨W0.heap.size, 0, none⟩), .pointer (some ⟨W0.heap.size + 2, 0, none⟩)], .string (bs ((splitC 47 l).getD k [])), undef, undef, undef, undef, undef, undef, undef], defers := [] }) ?assign ?body ?done ?stop
  case hIT =>
    rintro k A A' ⟨⟨h1, h2, h3, h4⟩, h5⟩ ⟨v, rfl⟩
    have hz := HZ.out
    refine ⟨⟨h1, ?_, ?_, by rw [World.frozen?_setCell]; exact h4⟩, h5.setCell (by show w.heap.size ≤ W0.heap.size; omega) _⟩
    · exact (World.cell?_of_block (w := A) (Below.heap_setCell A ⟨W0.heap.size, 0, none⟩ _ w.heap.size (by show w.heap.size ≠ W0.heap.size; omega))).trans h2
    · exact (World.cell?_of_block (w := A) (Below.heap_setCell A ⟨W0.heap.size, 0, none⟩ _ (w.heap.size + 1) (by show w.heap.size + 1 ≠ W0.heap.size; omega))).trans h3
  case hIxT =>
    rintro c k A A' ⟨⟨h1, h2, h3⟩, h5⟩ ⟨v, rfl⟩
    have hz := HZ.out
    refine ⟨⟨h1, h2, ?_⟩, h5.setCell (by show w.heap.size ≤ W0.heap.size; omega) _⟩
    exact (World.cell?_of_block (w := A) (Below.heap_setCell A ⟨W0.heap.size, 0, none⟩ _ w.heap.size (by show w.heap.size ≠ W0.heap.size; omega))).trans h3
  case assign =>
    intro l k W K hK
    dsimp only [encP]
    gi_wp2
    exact hK
  case body =>
    rintro l' k W ⟨⟨hp, hc0, hc1, hfr⟩, hBW⟩ hk
    obtain ⟨p, hpk⟩ : ∃ p, (splitC 47 l).getD k [] = p := ⟨_, rfl⟩
    obtain ⟨i, hi⟩ : ∃ i, allB pathN p = i := ⟨_, rfl⟩
    have HA := Lib.hid (path_at p hi W)
    rw [hpk]
    have HP := Lib.hid hp
    have HK := Lib.hid (And.intro hk (And.intro hpk hi))
    clear hp hpk hi hk
    cases i
    · gi_wp2_with (gi_at_call 25; refine (CallsIn.inRound l' (up _ _ _ _ _ HA.out)).mono ?_; rintro e w3 ⟨rfl, hb3⟩; have e0 := keeps_cell hb3 hc0; have e1 := (hb3.frozen (p := ⟨w.heap.size, 0, none⟩) (cell_lt hc0)).trans hfr)
      obtain ⟨hk, hpk, hi⟩ := HK.out
      refine ⟨((keeps_of_below hb3).trans (KeepsOthers.setCell _ _ _)).from _, ⟨rfl, ?_, World.cell?_setCell_same' _ _ _ (by rw [e0]; rfl)⟩, (hBW.trans (hb3.mono hBW.size)).setCell (Nat.le_refl _) _⟩
      unfold pathB
      have : (splitC 47 l).all (allB pathN) = false := by
        apply Bool.eq_false_iff.2
        intro e
        have h1 := List.all_eq_true.1 e ((splitC 47 l)[k]'hk) (List.getElem_mem hk)
        have h2 : (splitC 47 l)[k]'hk = p := by rw [← hpk, List.getD_eq_getElem?_getD, List.getElem?_eq_getElem hk]; rfl
        rw [h2, hi] at h1
        cases h1
      rw [this, Bool.false_and]
    · gi_wp2_with (gi_at_call 25; refine (CallsIn.inRound l' (up _ _ _ _ _ HA.out)).mono ?_; rintro e w3 ⟨rfl, hb3⟩; have e0 := keeps_cell hb3 hc0; have e2 := keeps_cell hb3 hc1; have e1 := (hb3.frozen (p := ⟨w.heap.size, 0, none⟩) (cell_lt hc0)).trans hfr)
      obtain ⟨hk, hpk, hi⟩ := HK.out
      refine ⟨(keeps_of_below hb3).from _, Hold.below hb3, ⟨fun j hj => ?_, e0, e2, e1⟩, hBW.trans (hb3.mono hBW.size)⟩
      by_cases e : j = k
      · rw [e, hpk]; exact hi
      · exact HP.out j (by omega)
  case done =>
    rintro D W hD ⟨⟨hp, hc0, hc1, hfr⟩, hBW⟩ hK
    have hv : pathB l = decide ((l.length : Int) ≤ 200) := by
      unfold pathB
      have : (splitC 47 l).all (allB pathN) = true := by
        apply List.all_eq_true.2
        intro x hx
        obtain ⟨j, hj, rfl⟩ := List.getElem_of_mem hx
        have := hp j hj
        rwa [List.getD_eq_getElem?_getD, List.getElem?_eq_getElem hj] at this
      rw [this, Bool.true_and]
      exact decide_eq_decide.2 (by omega)
    have hsz : (bs l).size = l.length := by rw [size_list, bs_list]
    have HV := Lib.hid hv
    have hDz := HZ.out
    clear hv hp
    gi_wp2
    have hK' := (KeepsOthers.setCell W ⟨w.heap.size, 0, none⟩ (.bool (decide ((l.length : Int) ≤ 200)))).same D _ hK rfl
    refine ⟨by simp, .inl ⟨_, _, rfl, run_takeDeferred hK', ?_⟩⟩
    have hc5 := cell_kept (World.cell?_setCell_same' W ⟨w.heap.size, 0, none⟩ (.bool (decide ((l.length : Int) ≤ 200))) (by rw [hc0]; rfl)) (grownBy_putObj' _ D (.deferred none)) (fun r e => by cases e; exact ⟨_, hK', rfl⟩)
    refine ⟨.bool (decide ((l.length : Int) ≤ 200)), by simp [results, Tryd.results13, go_sem, hc5], ?_, below_shut (hBW.setCell (p := ⟨w.heap.size, 0, none⟩) (Nat.le_refl _) _) (by rw [hbz] at hD; omega) hK' _⟩
    rw [HV.out]
  case stop =>
    rintro D c k W hD hk ⟨⟨rfl, hv, hc0⟩, hBW⟩ hK
    have HV := Lib.hid hv
    have hDz := HZ.out
    clear hv
    gi_wp2
    refine ⟨by simp, .inl ⟨_, _, rfl, run_takeDeferred hK, ?_⟩⟩
    have hc5 := cell_kept hc0 (grownBy_putObj' _ D (.deferred none)) (fun r e => by cases e; exact ⟨_, hK, rfl⟩)
    exact ⟨.bool false, by simp [results, Tryd.results13, go_sem, hc5], by rw [HV.out], below_shut hBW (by rw [hbz] at hD; omega) hK _⟩

end Go.Proofs.YtiigjmageeinpaaDoor
