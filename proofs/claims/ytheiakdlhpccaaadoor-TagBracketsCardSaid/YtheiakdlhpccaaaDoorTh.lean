/- Walks: takes and need of the reader of constraints. -/
import Derived.Test.YtheiakdlhpccaaaDoorTd
import Derived.Shelf.Strings.SlTrimAscii
namespace Go.Proofs.YtheiakdlhpccaaaDoor
open Go.RowKit Go.Shelf R
open Go.Proofs.YtheiakdlhpccaaaDoorW.PrintWords

/-- Without the blanks ahead. -/
def skipL (l : List UInt8) : List UInt8 := Lib.trimLeftS l [32, 9]
/-- takes: is this what comes? What is left. -/
def takesP (sign l : List UInt8) : Bool × List UInt8 := (Lib.hasPrefix (skipL l) sign, Lib.trimPrefix (skipL l) sign)

/-- All but block b stays as it is. -/
structure Kp (b : Nat) (w w' : World) : Prop where
  bel : Below b w w'
  up : ∀ i, b < i → i < w.heap.size → w'.heap[i]? = w.heap[i]?

theorem Kp.refl (b : Nat) (w : World) : Kp b w w := ⟨Below.refl _ _, fun _ _ _ => rfl⟩
theorem Kp.trans {b : Nat} {x y z : World} (h : Kp b x y) (k : Kp b y z) : Kp b x z :=
  ⟨h.bel.trans k.bel, fun i hi hl => (k.up i hi (Nat.lt_of_lt_of_le hl h.bel.size)).trans (h.up i hi hl)⟩
theorem Kp.of_below {b : Nat} {w w' : World} (h : Below w.heap.size w w') (hb : b < w.heap.size) : Kp b w w' := ⟨h.mono (Nat.le_of_lt hb), fun i _ hl => h.block i hl⟩
theorem Kp.set {b : Nat} (w : World) (o : Nat) (u : Value) : Kp b w (w.setCell ⟨b, o, none⟩ u) :=
  ⟨(Below.refl b w).setCell (p := ⟨b, o, none⟩) (Nat.le_refl b) u, fun i hi _ => Below.heap_setCell _ _ _ _ (by show i ≠ b; omega)⟩
theorem Kp.size {b : Nat} {w w' : World} (h : Kp b w w') : w.heap.size ≤ w'.heap.size := h.bel.size
theorem Kp.cell {b : Nat} {w w' : World} (h : Kp b w w') {p : Addr} (hp : p.block ≠ b) {v : Value} (hc : w.cell? p = some v) : w'.cell? p = some v := by
  have hl := cell_lt hc
  have e : w'.heap[p.block]? = w.heap[p.block]? := by
    rcases Nat.lt_or_ge p.block b with h1 | h1
    · exact h.bel.block _ h1
    · exact h.up _ (by omega) hl
  unfold World.cell? at hc ⊢
  rw [e]
  exact hc
theorem Kp.row {b base : Nat} {w w' : World} (h : Kp b w w') (hb : b < base) {ok : Nat → Prop} {v : Value} {xs : List S24} (hR : Kd.R k24 24 w base ok v xs) : Kd.R k24 24 w' base ok v xs :=
  Kd.R_mono (Kd.R_move (Kd.R_bound hR) (fun k hk => h.up k (by have := hk.2.1; omega) hk.2.2.1)) (fun _ hk => hk.1)

/-- The reader's text lies at b. -/
def Rd (w : World) (b : Nat) (l : List UInt8) : Prop := w.cell? ⟨b, 0, none⟩ = some (.string (bs l)) ∧ w.frozen? ⟨b, 0, none⟩ = false
theorem Rd.lt {w : World} {b : Nat} {l : List UInt8} (h : Rd w b l) : b < w.heap.size := cell_lt h.1
theorem Rd.below {w w' : World} {b : Nat} {l : List UInt8} (h : Rd w b l) (hb : Below w.heap.size w w') : Rd w' b l := ⟨keeps_cell hb h.1, (hb.frozen (cell_lt h.1)).trans h.2⟩
theorem Rd.set {w : World} {b : Nat} {l r : List UInt8} (h : Rd w b l) : Rd (w.setCell ⟨b, 0, none⟩ (.string (bs r))) b r :=
  ⟨World.cell?_setCell_same' _ _ _ (by rw [h.1]; rfl), by rw [World.frozen?_setCell]; exact h.2⟩

theorem trim_at (l : List UInt8) (w : World) : Calls Tryd.prog 37 #[.string (bs l), .string ⟨#[32, 9]⟩] w (Out w.heap.size w (.string (bs (skipL l)))) := by
  refine (Any.strings_TrimLeft_laid Tryd.lays161 (by kernel_rfl) (bs l) ⟨#[32, 9]⟩ w (by decide) (by intro j x hx; rcases j with _ | _ | j <;> simp at hx <;> subst hx <;> decide)).mono ?_
  rintro e w' ⟨rfl, hb⟩
  exact ⟨rfl, hb⟩

set_option maxRecDepth 100000 in
set_option maxHeartbeats 2000000 in
theorem takes_any (sign l : List UInt8) (b : Nat) (w : World) (h : Rd w b l) :
    Calls Tryd.prog 26 #[.pointer (some ⟨b, 0, none⟩), .string (bs sign)] w fun e w' => e = .returned (.bool (takesP sign l).1) ∧ Rd w' b (takesP sign l).2 ∧ Kp b w w' := by
  have KT := Lib.hid (trim_at l)
  have hcp := fun W => Tryd.strings_CutPrefix (bs (skipL l)) (bs sign) W
  simp only [bs_list] at hcp
  have hcp2 : ∀ W, Calls Tryd.prog 38 #[.string (bs (skipL l)), .string (bs sign)] W fun e w' => e = .returned (.tuple #[.string (bs (takesP sign l).2), .bool (takesP sign l).1]) ∧ w' = W := hcp
  have hno : (takesP sign l).1 = false → (takesP sign l).2 = skipL l := by
    unfold takesP Lib.trimPrefix
    intro h
    rw [if_neg (by simp only [] at h; rw [h]; decide)]
  obtain ⟨⟨i, r⟩, hir⟩ : ∃ r, takesP sign l = r := ⟨_, rfl⟩
  rw [hir] at hcp2 hno ⊢
  simp only [] at hcp2 hno ⊢
  have KC := Lib.hid hcp2
  have hc := h.1
  have hf := h.2
  have hlt := h.lt
  have HH := Lib.hid h
  clear h hcp hcp2 hir
  go_enter Tryd.func26, Tryd.ntmps26
  go_wp2_with fail
  refine (KT.out _).mono ?_
  rintro e w1 ⟨rfl, hb1⟩
  have h1 := HH.out.below hb1
  have hc1 := h1.1
  have hf1 := h1.2
  go_wp2_with fail
  refine (KC.out _).mono ?_
  rintro e w2 ⟨rfl, rfl⟩
  have h2 := h1.set (r := skipL l)
  have hc2 := h2.1
  have hf2 := h2.2
  have hk := (Kp.of_below hb1 HH.out.lt).trans (Kp.set (b := b) w1 0 (.string (bs (skipL l))))
  cases i
  · have hr := hno rfl
    subst hr
    have H2 := Lib.hid h2
    clear h2 h1 hno
    go_wp2_with fail
    go_ret
    exact ⟨rfl, H2.out, hk⟩
  · have h3 := h2.set (r := r)
    have hk3 := hk.trans (Kp.set (b := b) _ 0 (.string (bs r)))
    have H3 := Lib.hid h3
    clear h2 h1 hno h3
    go_wp2_with fail
    go_ret
    exact ⟨rfl, H3.out, hk3⟩

set_option maxRecDepth 100000 in
theorem need_yes (w : World) : Calls Tryd.prog 27 #[.bool true] w fun e w' => e = .returned (.tuple #[]) ∧ w' = w := by
  go_enter Tryd.func27, Tryd.ntmps27
  go_wp2_with fail
  first | go_end0 | refine bodyPost_ret (results_none rfl _ _ _) rfl ?_
  exact ⟨rfl, rfl⟩

set_option maxRecDepth 100000 in
theorem need_no (w : World) : Calls Tryd.prog 27 #[.bool false] w fun e w' => e = .panicked [{ v := .iface 48 (.agg #[]), recovered := false }] ∧ w' = w := by
  go_enter Tryd.func27, Tryd.ntmps27
  go_wp2_with fail
  exact ⟨rfl, rfl, rfl⟩

end Go.Proofs.YtheiakdlhpccaaaDoor
