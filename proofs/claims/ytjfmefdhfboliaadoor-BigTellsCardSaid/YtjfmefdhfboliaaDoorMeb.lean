/- Words for memory, second part: two blocks alone turn; what a loop over an iterator keeps. -/
import Derived.Test.YtjfmefdhfboliaaDoorMem
import Derived.Test.YtjfmefdhfboliaaDoorSeq
namespace Go.Proofs.YtjfmefdhfboliaaDoor
open Go Go.RowKit Num

/-- Of what was there the blocks R and G alone may have turned. -/
structure Only (R G : Nat) (W W' : World) : Prop where
  os : W'.os = W.os
  tape : W'.tape = W.tape
  output : W'.output = W.output
  size : W.heap.size ≤ W'.heap.size
  block : ∀ k, k < W.heap.size → k ≠ R → k ≠ G → W'.heap[k]? = W.heap[k]?

theorem Only.refl (R G : Nat) (W : World) : Only R G W W := ⟨rfl, rfl, rfl, Nat.le_refl _, fun _ _ _ _ => rfl⟩
theorem Only.trans {R G : Nat} {A B C : World} (h : Only R G A B) (k : Only R G B C) : Only R G A C :=
  ⟨k.os.trans h.os, k.tape.trans h.tape, k.output.trans h.output, Nat.le_trans h.size k.size, fun i hi h1 h2 => (k.block i (Nat.lt_of_lt_of_le hi h.size) h1 h2).trans (h.block i hi h1 h2)⟩
theorem Only.of_below {R G : Nat} {W W' : World} (h : Below W.heap.size W W') : Only R G W W' := ⟨h.os, h.tape, h.output, h.size, fun k hk _ _ => h.block k hk⟩
theorem Only.alloc {R G : Nat} (W : World) (o : Obj) : Only R G W (W.alloc o) := .of_below ((Below.refl _ _).alloc (Nat.le_refl _) _)
theorem Only.drew {R G : Nat} {A B : World} (h : Only R G A B) : Only R G A B.drew := ⟨h.os, h.tape, h.output, h.size, h.block⟩
theorem Only.setCell {R G : Nat} (W : World) {p : Addr} (hp : p.block = R ∨ p.block = G) (u : Value) : Only R G W (W.setCell p u) :=
  ⟨rfl, rfl, rfl, by show W.heap.size ≤ (W.heap.modify _ _).size; rw [Array.size_modify]; exact Nat.le_refl _, fun k _ h1 h2 => Below.heap_setCell W p u k (fun e => by rcases hp with h | h <;> omega)⟩
theorem Only.grown {R G : Nat} {W W' : World} {row : Option Nat} (h : W.grownBy W' row) (hr : ∀ k, row = some k → k = R ∨ k = G) : Only R G W W' :=
  ⟨h.os, h.tape, h.output, h.size, fun k hk h1 h2 => h.block k hk (fun e => by rcases hr k e.symm with h | h <;> omega)⟩
theorem Only.below {R G B : Nat} {W W' : World} (h : Only R G W W') (h1 : B ≤ R) (h2 : B ≤ G) (h3 : B ≤ W.heap.size) : Below B W W' :=
  ⟨h.os, h.tape, h.output, h.size, fun k hk => h.block k (by omega) (by omega) (by omega)⟩
theorem Only.keepBox {R G n₀ ib : Nat} {W W' : World} (h : Only R G W W') (h1 : n₀ ≤ R) (h2 : n₀ ≤ G) (h3 : n₀ ≤ W.heap.size) (h4 : ib ≠ R) (h5 : ib ≠ G) (h6 : ib < W.heap.size) : KeepBox n₀ ib W W' :=
  ⟨h.below h1 h2 h3, h.block ib h6 h4 h5⟩
theorem Only.others {R G : Nat} {W W' : World} (h : Only R G W W') {t t' : TypeId} (hR : Box W R t) (hG : Box W G t') : KeepsOthers W W' :=
  ⟨h.size, fun k o hk ho => by
    have hlt := (Array.getElem?_eq_some_iff.1 hk).1
    have n1 : k ≠ R := by
      rintro rfl
      obtain ⟨cs, fr, e⟩ := hR
      rw [e] at hk; cases hk; cases ho
    have n2 : k ≠ G := by
      rintro rfl
      obtain ⟨cs, fr, e⟩ := hG
      rw [e] at hk; cases hk; cases ho
    exact (h.block k hlt n1 n2).trans hk⟩
theorem Only.cell {R G : Nat} {W W' : World} (h : Only R G W W') {p : Addr} {v : Value} (hc : W.cell? p = some v) (h1 : p.block ≠ R) (h2 : p.block ≠ G) : W'.cell? p = some v :=
  (World.cell?_of_block (h.block p.block (cell_lt hc) h1 h2)).trans hc

theorem Only.free {R G : Nat} {W W' : World} (h : Only R G W W') {p : Addr} {v : Value} (hc : W.cell? p = some v) (hf : W.frozen? p = false) (h1 : p.block ≠ R) (h2 : p.block ≠ G) : W'.frozen? p = false := by
  rw [← hf]; unfold World.frozen?; rw [h.block p.block (cell_lt hc) h1 h2]
theorem Only.box {R G : Nat} {W W' : World} (h : Only R G W W') {b : Nat} {t : TypeId} (hb : Box W b t) (h1 : b ≠ R) (h2 : b ≠ G) : Box W' b t := by
  have hlt := hb.lt
  obtain ⟨cs, fr, hb⟩ := hb
  exact ⟨cs, fr, (h.block b hlt h1 h2).trans hb⟩

theorem keepsOthers_of_below {W W' : World} (h : Below W.heap.size W W') : KeepsOthers W W' :=
  ⟨h.size, fun k _o hk _ => (h.block k (Array.getElem?_eq_some_iff.1 hk).1).trans hk⟩

/-- What no turn of a block that holds no cells can touch. -/
def NoCells (W : World) (row : Option Nat) : Prop := ∀ r, row = some r → ∃ o : Obj, W.heap[r]? = some o ∧ o.isCells = false

theorem Box.kept {W W' : World} {row : Option Nat} {b : Nat} {t : TypeId} (h : Box W b t) (hg : W.grownBy W' row) (hr : NoCells W row) : Box W' b t := by
  obtain ⟨cs, fr, h⟩ := h
  exact ⟨cs, fr, (grownBy_keeps_cells hg hr h rfl).trans h⟩
theorem ownsRow_kept {W W' : World} {row : Option Nat} {base : Nat} {e : TypeId} {size : Nat} {v : Value} {n : Nat} {xs : List Value} (h : W.ownsRow base e size v n xs) (hg : W.grownBy W' row) (hr : NoCells W row) : W'.ownsRow base e size v n xs := by
  refine ⟨h.1, ?_⟩
  rcases h.2 with h2 | ⟨g, cap, cur, hv, hb, hh, r⟩
  · exact .inl h2
  · exact .inr ⟨g, cap, cur, hv, hb, (grownBy_keeps_cells hg hr hh rfl).trans hh, r⟩
theorem Digs.kept {W W' : World} {row : Option Nat} {v : Value} {zs : List Int} (h : Digs W v zs) (hg : W.grownBy W' row) (hr : NoCells W row) : Digs W' v zs := ownsRow_kept h hg hr

theorem ownsRow_box {W : World} {base g : Nat} {e : TypeId} {size : Nat} {n c : Nat} {xs : List Value} (h : W.ownsRow base e size (.slice (some ⟨g, 0, none⟩) n c) n xs) : Box W g e := by
  rcases h.2 with ⟨e, _⟩ | ⟨g', cap, cur, hv, _, hh, _⟩
  · cases e
  · cases hv; exact ⟨cur, (0, 0), hh⟩
theorem Digs.only {R G : Nat} {W W' : World} {v : Value} {zs : List Int} (h : Digs W v zs) (ho : Only R G W W') (hne : ∀ b, v.ownBlock = some b → b ≠ R ∧ b ≠ G) : Digs W' v zs := by
  refine ⟨h.1, ?_⟩
  rcases h.2 with h2 | ⟨g, cap, cur, hv, hb, hh, r⟩
  · exact .inl h2
  · have := hne g (by rw [hv]; rfl)
    exact .inr ⟨g, cap, cur, hv, hb, (ho.block g (Array.getElem?_eq_some_iff.1 hh).1 this.1 this.2).trans hh, r⟩

theorem ownsRow_only {R G : Nat} {W W' : World} {base : Nat} {e : TypeId} {size : Nat} {v : Value} {n : Nat} {xs : List Value} (h : W.ownsRow base e size v n xs) (ho : Only R G W W') (hne : ∀ b, v.ownBlock = some b → b ≠ R ∧ b ≠ G) : W'.ownsRow base e size v n xs := by
  refine ⟨h.1, ?_⟩
  rcases h.2 with h2 | ⟨g, cap, cur, hv, hb, hh, r⟩
  · exact .inl h2
  · have := hne g (by rw [hv]; rfl)
    exact .inr ⟨g, cap, cur, hv, hb, (ho.block g (Array.getElem?_eq_some_iff.1 hh).1 this.1 this.2).trans hh, r⟩
theorem Only.wide {R G : Nat} {A B : World} (h : Only R R A B) : Only R G A B := ⟨h.os, h.tape, h.output, h.size, fun k hk h1 _ => h.block k hk h1 h1⟩

theorem Only.later {R G : Nat} {W0 W W' : World} {row : Option Nat} (h : Only R G W0 W) (hg : W.grownBy W' row) (hr : ∀ r, row = some r → W0.heap.size ≤ r) : Only R G W0 W' :=
  ⟨hg.os.trans h.os, hg.tape.trans h.tape, hg.output.trans h.output, Nat.le_trans h.size hg.size, fun k hk h1 h2 =>
    (hg.block k (Nat.lt_of_lt_of_le hk h.size) (fun e => by have := hr k e.symm; omega)).trans (h.block k hk h1 h2)⟩

end Go.Proofs.YtjfmefdhfboliaaDoor
