/- Walk: Read of a constraint's text. -/
import Derived.Test.YtheiakdlhpccaaaDoorTk
import Derived.Recover
import Derived.Defers
namespace Go.Proofs.YtheiakdlhpccaaaDoor
open Go.RowKit Go.Shelf R
open Go.Proofs.YtheiakdlhpccaaaDoorW.PrintWords

theorem factor_any : ∀ n : Nat, n ≤ 1000 → FactorAt n := by
  intro n
  induction n with
  | zero => intro _ b l W hl; omega
  | succ n ih =>
    intro hn b l W hl hr
    cases h : (takesP [33] l).1 with
    | true => exact factor_not n (by omega) (ih (by omega)) b l W hl hr h
    | false =>
      cases h2 : (takesP [40] (takesP [33] l).2).1 with
      | true => exact factor_open n (by omega) (ih (by omega)) b l W hl hr h h2
      | false => exact factor_tag n b l W hl (by omega) hr h h2

/-- Read: which constraint a text is; an error's number. -/
def noX : S24 := ⟨bs [], bs [], []⟩
def readP (l : List UInt8) : S24 × Int :=
  if 500 < l.length then (noX, 12)
  else match termsP 501 l with
    | none => (noX, 8)
    | some q => if skipL q.2 = [] ∧ rightN 100 q.1 = true then (q.1, 0) else (noX, 8)

/-- What the deferred function leaves where it caught a panic. -/
def Lost (X E : Nat) (older : List PanicEntry) (w : World) (e : Ending) (u' : FrameMode) (w' : World) : Prop :=
  e = .returned (.tuple #[]) ∧ u' = .panicking ({ v := .iface 48 (.agg #[]), recovered := true } :: older) ∧
    w'.cell? ⟨X, 0, none⟩ = some (.string ⟨#[]⟩) ∧ w'.cell? ⟨X, 1, none⟩ = some (.string ⟨#[]⟩) ∧ w'.cell? ⟨X, 2, none⟩ = some (.slice none 0 0) ∧ w'.cell? ⟨E, 0, none⟩ = some (.int .i64 8) ∧ ∀ B, B ≤ X → B ≤ E → B ≤ w.heap.size → Below B w w'

set_option maxRecDepth 100000 in
set_option maxHeartbeats 2000000 in
theorem caught (X E : Nat) (older : List PanicEntry) (w : World) {v0 v1 v2 v3 : Value} (h0 : w.cell? ⟨X, 0, none⟩ = some v0) (h1 : w.cell? ⟨X, 1, none⟩ = some v1) (h2 : w.cell? ⟨X, 2, none⟩ = some v2) (h3 : w.cell? ⟨E, 0, none⟩ = some v3)
    (f0 : w.frozen? ⟨X, 0, none⟩ = false) (f1 : w.frozen? ⟨X, 1, none⟩ = false) (f2 : w.frozen? ⟨X, 2, none⟩ = false) (f3 : w.frozen? ⟨E, 0, none⟩ = false) (hne : X ≠ E) :
    CallsD Tryd.prog 24 #[.pointer (some ⟨X, 0, none⟩), .pointer (some ⟨E, 0, none⟩)] (.panicking ({ v := .iface 48 (.agg #[]), recovered := false } :: older)) w (Lost X E older w) := by
  have ha : Below w.heap.size w (w.alloc (.cells #[] 48)) := (Below.refl _ w).alloc (Nat.le_refl _) _
  have k0 := new_cell h0 (.cells #[] 48)
  have k1 := new_cell h1 (.cells #[] 48)
  have k2 := new_cell h2 (.cells #[] 48)
  have k3 := new_cell h3 (.cells #[] 48)
  have g0 := (ha.frozen (cell_lt h0)).trans f0
  have g1 := (ha.frozen (cell_lt h1)).trans f1
  have g2 := (ha.frozen (cell_lt h2)).trans f2
  have g3 := (ha.frozen (cell_lt h3)).trans f3
  have hlost : ∀ W : World, W = (put3 (w.alloc (.cells #[] 48)) X (.string ⟨#[]⟩) (.string ⟨#[]⟩) (.slice none 0 0)).setCell ⟨E, 0, none⟩ (.int .i64 8) → Lost X E older w (.returned (.tuple #[])) (.panicking ({ v := .iface 48 (.agg #[]), recovered := true } :: older)) W := by
    rintro W rfl
    obtain ⟨p0, p1, p2⟩ := put3_cells k0 k1 k2 (.string ⟨#[]⟩) (.string ⟨#[]⟩) (.slice none 0 0)
    refine ⟨rfl, rfl, (set_ne (.inl hne.symm)).trans p0, (set_ne (.inl hne.symm)).trans p1, (set_ne (.inl hne.symm)).trans p2, ?_, ?_⟩
    · refine set_eq (v := v3) ?_
      unfold put3
      rw [set_ne (.inl hne), set_ne (.inl hne), set_ne (.inl hne)]
      exact k3
    · intro B hX hE hB
      unfold put3
      exact ((((ha.mono hB).setCell (p := ⟨X, 0, none⟩) hX _).setCell (p := ⟨X, 1, none⟩) hX _).setCell (p := ⟨X, 2, none⟩) hX _).setCell (p := ⟨E, 0, none⟩) hE _
  have HL := Lib.hid hlost
  clear ha hlost h0 h1 h2 h3 f0 f1 f2 f3
  have hta : ∀ W : World, (Instr.typeAssert (.iface 48 (.agg #[])) 20 48 true).run Tryd.prog W = .ok (.tuple #[.agg #[], .bool true]) W := fun W => by kernel_rfl
  refine callsD_of_wpS Tryd.func24 rfl fun c₀ cs hu => ?_
  apply wpS_seq
  apply wpS_region
  simp [wpOpsS, go_sem, recoverD, hu, Tryd.ntmps24, Exit.thenS]
  refine wpS_of_wp ?_
  simp only [Array.replicate_succ, Array.replicate_zero, List.push_toArray, List.append_toArray, List.nil_append, List.cons_append, List.setIfInBounds_toArray, List.set_cons_zero, List.set_cons_succ]
  go_wp2_with fail
  exact ⟨rfl, _, rfl, .tuple #[], by simp [results, Tryd.results24, go_sem], HL.out _ rfl⟩

set_option maxRecDepth 100000 in
theorem idle (X E : Nat) (w : World) : CallsD Tryd.prog 24 #[.pointer (some ⟨X, 0, none⟩), .pointer (some ⟨E, 0, none⟩)] .returning w fun e u' w' => e = .returned (.tuple #[]) ∧ u' = .returning ∧ w' = w := by
  refine callsD_of_wpS Tryd.func24 rfl fun c₀ cs hu => ?_
  apply wpS_seq
  apply wpS_region
  simp [wpOpsS, go_sem, recoverD, hu, Tryd.ntmps24, Exit.thenS]
  refine wpS_of_wp ?_
  simp only [Array.replicate_succ, Array.replicate_zero, List.push_toArray, List.append_toArray, List.nil_append, List.cons_append, List.setIfInBounds_toArray, List.set_cons_zero, List.set_cons_succ]
  go_wp2_with fail
  exact ⟨rfl, .returning, by cases c₀; simp_all, .tuple #[], by simp [results, Tryd.results24, go_sem], rfl, rfl, rfl⟩

/-- What Read tells. -/
def Reads (w : World) (q : S24 × Int) (e : Ending) (w' : World) : Prop :=
  ∃ v, e = .returned (.tuple #[.agg #[.string q.1.f0, .string q.1.f1, v], .int .i64 q.2]) ∧ (∃ A c, v = .slice A q.1.f2.length c ∧ q.1.f2.length ≤ c ∧ Kd.C k24 w' A q.1.f2.length q.1.f2) ∧ Below w.heap.size w w'

set_option maxRecDepth 100000 in
set_option maxHeartbeats 4000000 in
theorem Read_long (l : List UInt8) (w : World) (h : 500 < l.length) : Calls Tryd.prog 10 #[.string (bs l)] w (Reads w (readP l)) := by
  have hmf : ∀ (fn : Fn) (first cap : Array Value) (w : World), (Instr.makeFunc fn first cap).run Tryd.prog w = .ok (.func fn first cap) w := fun _ _ _ _ => rfl
  have e : readP l = (noX, 12) := by unfold readP; rw [if_pos h]
  rw [e]
  have hz : (500 : Int) < ((bs l).size : Int) := by rw [size_list, bs_list]; omega
  go_enter_defers Tryd.func10, Tryd.ntmps10
  go_wp2_with fail
  exact ⟨.tuple #[.agg #[.string ⟨#[]⟩, .string ⟨#[]⟩, .slice none 0 0], .int .i64 12], by simp [results, Tryd.results10, go_sem], ⟨_, rfl, ⟨none, 0, rfl, Nat.le_refl _, Kd.C_nil _ _⟩, ((Below.refl _ w).alloc (Nat.le_refl _) _).alloc (by simp) _⟩⟩

theorem takes_empty (l : List UInt8) : takesP [] l = (true, skipL l) := by
  unfold takesP Lib.trimPrefix
  have : Lib.hasPrefix (skipL l) [] = true := by cases skipL l <;> rfl
  rw [this]
  rfl

/-- The world in which Read goes on. -/
def WR (w : World) (l : List UInt8) : World := ((w.alloc (.cells #[.string ⟨#[]⟩, .string ⟨#[]⟩, .slice none 0 0] 24)).alloc (.cells #[.int .i64 0] 25)).alloc (.cells #[.string (bs l)] 52)
structure Shut (w W : World) : Prop where
  x0 : ∃ v, W.cell? ⟨w.heap.size, 0, none⟩ = some v
  x1 : ∃ v, W.cell? ⟨w.heap.size, 1, none⟩ = some v
  x2 : ∃ v, W.cell? ⟨w.heap.size, 2, none⟩ = some v
  e0 : ∃ v, W.cell? ⟨w.heap.size + 1, 0, none⟩ = some v
  g0 : W.frozen? ⟨w.heap.size, 0, none⟩ = false
  g1 : W.frozen? ⟨w.heap.size, 1, none⟩ = false
  g2 : W.frozen? ⟨w.heap.size, 2, none⟩ = false
  g3 : W.frozen? ⟨w.heap.size + 1, 0, none⟩ = false

theorem WR_rd (w : World) (l : List UInt8) : Rd (WR w l) (w.heap.size + 1 + 1) l := by
  unfold WR
  exact ⟨by simp [go_sem], by simp [go_sem]⟩
theorem WR_below (w : World) (l : List UInt8) : Below w.heap.size w (WR w l) := (((Below.refl _ w).alloc (Nat.le_refl _) _).alloc (by simp) _).alloc (by simp; omega) _
theorem WR_size (w : World) (l : List UInt8) : (WR w l).heap.size = w.heap.size + 1 + 1 + 1 := by simp [WR]
theorem WR_blocks (w : World) (l : List UInt8) : (WR w l).heap[w.heap.size]? = some (.cells #[.string ⟨#[]⟩, .string ⟨#[]⟩, .slice none 0 0] 24 (0, 0)) ∧ (WR w l).heap[w.heap.size + 1]? = some (.cells #[.int .i64 0] 25 (0, 0)) := by
  unfold WR
  refine ⟨blk_alloc (blk_alloc (blk_new _ _) _) _, blk_alloc ?_ _⟩
  have := blk_new (w.alloc (.cells #[.string ⟨#[]⟩, .string ⟨#[]⟩, .slice none 0 0] 24)) (.cells #[.int .i64 0] 25)
  rwa [World.size_alloc] at this

/-- A panic at the door. -/
theorem door_caught (w W : World) (tmps : Array Value) (h : Shut w W) (hW : Below w.heap.size w W) (hX : tmps[2]? = some (.pointer (some ⟨w.heap.size, 0, none⟩))) (hE : tmps[3]? = some (.pointer (some ⟨w.heap.size + 1, 0, none⟩))) :
    Leaves Tryd.prog Tryd.f10 tmps (Reads w (noX, 8)) [{ target := Target.fn (Fn.func 24) #[.pointer (some ⟨w.heap.size, 0, none⟩), .pointer (some ⟨w.heap.size + 1, 0, none⟩)], args := #[] }] (.panicking [{ v := .iface 48 (.agg #[]), recovered := false }]) W := by
  obtain ⟨⟨v0, x0⟩, ⟨v1, x1⟩, ⟨v2, x2⟩, ⟨v3, x3⟩, g0, g1, g2, g3⟩ := h
  refine leaves_cons (f := 24) (args := #[.pointer (some ⟨w.heap.size, 0, none⟩), .pointer (some ⟨w.heap.size + 1, 0, none⟩)]) (by simp) (by simp [go_sem]) ?_
  refine (caught w.heap.size (w.heap.size + 1) [] W x0 x1 x2 x3 g0 g1 g2 g3 (by omega)).mono ?_
  rintro e u' w'' ⟨rfl, rfl, c0, c1, c2, c3, hB⟩
  refine ⟨.tuple #[.agg #[.string ⟨#[]⟩, .string ⟨#[]⟩, .slice none 0 0], .int .i64 8], ?_, _, rfl, ⟨none, 0, rfl, Nat.le_refl _, Kd.C_nil _ _⟩, hW.trans (hB _ (Nat.le_refl _) (by omega) hW.size)⟩
  simp [results, Tryd.results10, go_sem, c0, c1, c2, c3, hX, hE]

set_option maxRecDepth 100000 in
set_option maxHeartbeats 8000000 in
theorem Read_short (l : List UInt8) (w : World) (h : ¬ 500 < l.length) : Calls Tryd.prog 10 #[.string (bs l)] w (Reads w (readP l)) := by
  have hmf : ∀ (fn : Fn) (first cap : Array Value) (w : World), (Instr.makeFunc fn first cap).run Tryd.prog w = .ok (.func fn first cap) w := fun _ _ _ _ => rfl
  have hz : ¬ (500 : Int) < ((bs l).size : Int) := by rw [size_list, bs_list]; omega
  have hR : readP l = match termsP 501 l with
    | none => (noX, 8)
    | some q => if skipL q.2 = [] ∧ rightN 100 q.1 = true then (q.1, 0) else (noX, 8) := by unfold readP; rw [if_neg h]
  have KT := Lib.hid (terms_any 501 (by decide) (factor_any 501 (by decide)) (w.heap.size + 1 + 1) l (WR w l) (by omega) (WR_rd w l))
  have HW := Lib.hid (WR_below w l)
  have HB := Lib.hid (WR_blocks w l)
  have hsz := WR_size w l
  obtain ⟨Q, hQ⟩ : ∃ Q, readP l = Q := ⟨_, rfl⟩
  rw [hQ]
  rw [hQ] at hR
  obtain ⟨P, hP⟩ : ∃ P, termsP 501 l = P := ⟨_, rfl⟩
  rw [hP] at KT hR
  obtain ⟨W3, hW3⟩ : ∃ W3, WR w l = W3 := ⟨_, rfl⟩
  rw [hW3] at KT HW HB hsz
  unfold WR at hW3
  have HQ := Lib.hid hR
  clear hQ hP hR
  go_enter_defers Tryd.func10, Tryd.ntmps10
  go_wp2_with fail
  refine KT.out.mono ?_
  rintro e w4 ⟨hk4, he⟩
  have hX4 : w4.heap[w.heap.size]? = some (.cells #[.string ⟨#[]⟩, .string ⟨#[]⟩, .slice none 0 0] 24 (0, 0)) := (hk4.bel.block _ (by omega)).trans HB.out.1
  have hE4 : w4.heap[w.heap.size + 1]? = some (.cells #[.int .i64 0] 25 (0, 0)) := (hk4.bel.block _ (by omega)).trans HB.out.2
  have hb4 : Below w.heap.size w w4 := HW.out.trans (hk4.bel.mono (by omega))
  cases P with
  | none =>
    obtain rfl : e = _ := he
    obtain rfl : Q = (noX, 8) := HQ.out
    refine door_caught w w4 _ ⟨⟨_, (blk_cell hX4 0).trans rfl⟩, ⟨_, (blk_cell hX4 1).trans rfl⟩, ⟨_, (blk_cell hX4 2).trans rfl⟩, ⟨_, (blk_cell hE4 0).trans rfl⟩, blk_frozen hX4 0, blk_frozen hX4 1, blk_frozen hX4 2, blk_frozen hE4 0⟩ hb4 rfl rfl
  | some q =>
    obtain ⟨x, r⟩ := q
    obtain ⟨v, rfl, hR, hrd⟩ := he
    obtain ⟨A2, c2, rfl⟩ := Kd.R_slice hR
    have q0 := (blk_cell hX4 0).trans (show (#[Value.string ⟨#[]⟩, .string ⟨#[]⟩, .slice none 0 0] : Array Value)[0]? = some (.string ⟨#[]⟩) from rfl)
    have q1 := (blk_cell hX4 1).trans (show (#[Value.string ⟨#[]⟩, .string ⟨#[]⟩, .slice none 0 0] : Array Value)[1]? = some (.string ⟨#[]⟩) from rfl)
    have q2 := (blk_cell hX4 2).trans (show (#[Value.string ⟨#[]⟩, .string ⟨#[]⟩, .slice none 0 0] : Array Value)[2]? = some (.slice none 0 0) from rfl)
    have q3 := (blk_cell hE4 0).trans (show (#[Value.int .i64 0] : Array Value)[0]? = some (.int .i64 0) from rfl)
    have f0 := blk_frozen hX4 0
    have f1 := blk_frozen hX4 1
    have f2 := blk_frozen hX4 2
    have f3 := blk_frozen hE4 0
    obtain ⟨w5, hw5⟩ : ∃ w5, put3 w4 w.heap.size (.string x.f0) (.string x.f1) (.slice A2 x.f2.length c2) = w5 := ⟨_, rfl⟩
    obtain ⟨p0, p1, p2⟩ := put3_cells q0 q1 q2 (.string x.f0) (.string x.f1) (.slice A2 x.f2.length c2)
    have hb5 : Below w.heap.size w w5 := by
      rw [← hw5]
      exact ((hb4.setCell (p := ⟨w.heap.size, 0, none⟩) (Nat.le_refl _) _).setCell (p := ⟨w.heap.size, 1, none⟩) (Nat.le_refl _) _).setCell (p := ⟨w.heap.size, 2, none⟩) (Nat.le_refl _) _
    have hrd5 : Rd w5 (w.heap.size + 1 + 1) r := by
      rw [← hw5]
      exact ((hrd.far (by omega) _).far (by omega) _).far (by omega) _
    have hR5 : Kd.R k24 24 w5 W3.heap.size (fun _ => True) (.slice A2 x.f2.length c2) x.f2 := by
      rw [← hw5]
      exact R_set_low (R_set_low (R_set_low hR (p := ⟨w.heap.size, 0, none⟩) (by show w.heap.size < _; omega) _) (p := ⟨w.heap.size, 1, none⟩) (by show w.heap.size < _; omega) _) (p := ⟨w.heap.size, 2, none⟩) (by show w.heap.size < _; omega) _
    have he5 : w5.cell? ⟨w.heap.size + 1, 0, none⟩ = some (.int .i64 0) := by
      rw [← hw5]
      unfold put3
      rw [set_ne (by omega), set_ne (by omega), set_ne (by omega)]
      exact q3
    have hf5 : w5.frozen? ⟨w.heap.size, 0, none⟩ = false ∧ w5.frozen? ⟨w.heap.size, 1, none⟩ = false ∧ w5.frozen? ⟨w.heap.size, 2, none⟩ = false ∧ w5.frozen? ⟨w.heap.size + 1, 0, none⟩ = false := by
      rw [← hw5]
      unfold put3
      simp only [World.frozen?_setCell]
      exact ⟨f0, f1, f2, f3⟩
    rw [hw5] at p0 p1 p2
    have KE := Lib.hid (takes_any [] r (w.heap.size + 1 + 1) w5 hrd5)
    rw [takes_empty] at KE
    have H5 := Lib.hid (And.intro hb5 (And.intro hR5 (And.intro p0 (And.intro p1 (And.intro p2 (And.intro he5 hf5))))))
    unfold put3 at hw5
    clear hb5 hrd5 hR5 he5 hf5 p0 p1 p2 hR hb4 hX4 hE4 hk4
    go_wp2_with fail
    clear hw5 q0 q1 q2 q3 f0 f1 f2 f3
    refine KE.out.mono ?_
    rintro e w6 ⟨rfl, hrd6, hk6⟩
    obtain ⟨hb5, hR5, p0, p1, p2, he5, hf5⟩ := H5.out
    have hb6 : Below w.heap.size w w6 := hb5.trans (hk6.bel.mono (by omega))
    have x0 := hk6.cell (by show w.heap.size ≠ _; omega) p0
    have x1 := hk6.cell (by show w.heap.size ≠ _; omega) p1
    have x2 := hk6.cell (by show w.heap.size ≠ _; omega) p2
    have x3 := hk6.cell (by show w.heap.size + 1 ≠ _; omega) he5
    have hR6 := hk6.row (by omega) hR5
    have g : w6.frozen? ⟨w.heap.size, 0, none⟩ = false ∧ w6.frozen? ⟨w.heap.size, 1, none⟩ = false ∧ w6.frozen? ⟨w.heap.size, 2, none⟩ = false ∧ w6.frozen? ⟨w.heap.size + 1, 0, none⟩ = false :=
      ⟨(hk6.bel.frozen (by show w.heap.size < _; omega)).trans hf5.1, (hk6.bel.frozen (by show w.heap.size < _; omega)).trans hf5.2.1, (hk6.bel.frozen (by show w.heap.size < _; omega)).trans hf5.2.2.1, (hk6.bel.frozen (by show w.heap.size + 1 < _; omega)).trans hf5.2.2.2⟩
    obtain ⟨hl0, hlc, hC6⟩ := Kd.R_reads' hR6
    have y := hrd6.1
    have KR := Lib.hid (Right_any x A2 c2 w6 hlc hC6)
    have H6 := Lib.hid (And.intro hb6 (And.intro hR6 (And.intro x0 (And.intro x1 (And.intro x2 (And.intro x3 g))))))
    have HX := Lib.hid (And.intro x0 (And.intro x1 x2))
    clear H5 KE hb5 hR5 p0 p1 p2 he5 hf5 hR6 hC6 hk6 hrd6 hb6 g x3
    obtain ⟨z, hzz⟩ : ∃ z, ((bs (skipL r)).toList == []) = z := ⟨_, rfl⟩
    have hzs : decide (skipL r = []) = z := by rw [← hzz, bs_toList]; rw [Bool.eq_iff_iff, beq_iff_eq, decide_eq_true_iff]
    obtain ⟨rb, hrb⟩ : ∃ rb, rightN 100 x = rb := ⟨_, rfl⟩
    have hQ2 : Q = if z = true ∧ rb = true then (x, 0) else (noX, 8) := by
      rw [HQ.out]
      simp only [hrb, ← hzs, decide_eq_true_iff]
    rw [hrb] at KR
    have HQ2 := Lib.hid hQ2
    clear hQ2 hzs hrb HQ
    unfold xv at KR
    cases z
    · obtain rfl : Q = (noX, 8) := HQ2.out
      go_wp2_with fail
      refine (need_no _).mono ?_
      rintro e w7 ⟨rfl, rfl⟩
      obtain ⟨hb6, _, x0, x1, x2, x3, g⟩ := H6.out
      exact door_caught w w7 _ ⟨⟨_, x0⟩, ⟨_, x1⟩, ⟨_, x2⟩, ⟨_, x3⟩, g.1, g.2.1, g.2.2.1, g.2.2.2⟩ hb6 rfl rfl
    · go_wp2_with fail
      refine KR.out.mono ?_
      rintro e w7 ⟨rfl, hb7⟩
      obtain ⟨hb6, hR6, x0', x1', x2', x3, g⟩ := H6.out
      have y0 := keeps_cell hb7 x0'
      have y1 := keeps_cell hb7 x1'
      have y2 := keeps_cell hb7 x2'
      have y3 := keeps_cell hb7 x3
      have g0 := (hb7.frozen (cell_lt x0')).trans g.1
      have g1 := (hb7.frozen (cell_lt x1')).trans g.2.1
      have g2 := (hb7.frozen (cell_lt x2')).trans g.2.2.1
      have g3 := (hb7.frozen (cell_lt x3)).trans g.2.2.2
      have hb7' := hb6.trans (hb7.mono hb6.size)
      have hR7 := Kd.R_below hR6 hb7
      have H7 := Lib.hid (And.intro hb7' hR7)
      clear hR6 hR7 hb6 hb7' hb7 x0' x1' x2' x3 g
      cases rb
      · obtain rfl : Q = (noX, 8) := HQ2.out
        go_wp2_with fail
        refine (need_no _).mono ?_
        rintro e w8 ⟨rfl, rfl⟩
        exact door_caught w w8 _ ⟨⟨_, y0⟩, ⟨_, y1⟩, ⟨_, y2⟩, ⟨_, y3⟩, g0, g1, g2, g3⟩ H7.out.1 rfl rfl
      · obtain rfl : Q = (x, 0) := HQ2.out
        go_wp2_with fail
        refine (need_yes _).mono ?_
        rintro e w8 ⟨rfl, rfl⟩
        go_wp2_with fail
        obtain ⟨hb7, hR7⟩ := H7.out
        have hR9 := R_set_low (R_set_low (R_set_low (R_set_low hR7 (p := ⟨w.heap.size, 0, none⟩) (by show w.heap.size < _; omega) (.string x.f0)) (p := ⟨w.heap.size, 1, none⟩) (by show w.heap.size < _; omega) (.string x.f1)) (p := ⟨w.heap.size, 2, none⟩) (by show w.heap.size < _; omega) (.slice A2 x.f2.length c2)) (p := ⟨w.heap.size + 1, 0, none⟩) (by show w.heap.size + 1 < _; omega) (.int .i64 0)
        have hb9 := (((hb7.setCell (p := ⟨w.heap.size, 0, none⟩) (Nat.le_refl _) (.string x.f0)).setCell (p := ⟨w.heap.size, 1, none⟩) (Nat.le_refl _) (.string x.f1)).setCell (p := ⟨w.heap.size, 2, none⟩) (Nat.le_refl _) (.slice A2 x.f2.length c2)).setCell (p := ⟨w.heap.size + 1, 0, none⟩) (by show w.heap.size ≤ w.heap.size + 1; omega) (.int .i64 0)
        obtain ⟨p0, p1, p2⟩ := put3_cells y0 y1 y2 (.string x.f0) (.string x.f1) (.slice A2 x.f2.length c2)
        unfold put3 at p0 p1 p2
        obtain ⟨_, hlc9, hC9⟩ := Kd.R_reads' hR9
        have z0 := (set_ne (o := 0) (u := .int .i64 0) (.inl (show w.heap.size + 1 ≠ w.heap.size by omega))).trans p0
        have z1 := (set_ne (o := 0) (u := .int .i64 0) (.inl (show w.heap.size + 1 ≠ w.heap.size by omega))).trans p1
        have z2 := (set_ne (o := 0) (u := .int .i64 0) (.inl (show w.heap.size + 1 ≠ w.heap.size by omega))).trans p2
        have z3 : ((((w8.setCell ⟨w.heap.size, 0, none⟩ (.string x.f0)).setCell ⟨w.heap.size, 1, none⟩ (.string x.f1)).setCell ⟨w.heap.size, 2, none⟩ (.slice A2 x.f2.length c2)).setCell ⟨w.heap.size + 1, 0, none⟩ (.int .i64 0)).cell? ⟨w.heap.size + 1, 0, none⟩ = some (.int .i64 0) := by
          refine set_eq (v := .int .i64 0) ?_
          rw [set_ne (by omega), set_ne (by omega), set_ne (by omega)]
          exact y3
        refine leaves_cons (f := 24) (args := #[.pointer (some ⟨w.heap.size, 0, none⟩), .pointer (some ⟨w.heap.size + 1, 0, none⟩)]) (by simp) (by simp [go_sem]) ?_
        refine (idle w.heap.size (w.heap.size + 1) _).mono ?_
        rintro e u' w'' ⟨rfl, rfl, rfl⟩
        refine ⟨.tuple #[.agg #[.string x.f0, .string x.f1, .slice A2 x.f2.length c2], .int .i64 0], ?_, _, rfl, ⟨A2, c2, rfl, hlc9, hC9⟩, hb9⟩
        simp [results, Tryd.results10, go_sem, z0, z1, z2, z3]

theorem Read_any (l : List UInt8) (w : World) : Calls Tryd.prog 10 #[.string (bs l)] w (Reads w (readP l)) := by
  by_cases h : 500 < l.length
  · exact Read_long l w h
  · exact Read_short l w h

end Go.Proofs.YtheiakdlhpccaaaDoor
