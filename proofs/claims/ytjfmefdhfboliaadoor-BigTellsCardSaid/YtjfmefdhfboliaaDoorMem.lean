/- Words for memory: a slice value that holds a row of digits; it stays as it is while old blocks stay. No function of the program is walked here. -/
import Derived.WalkKit
import Derived.Laws.OwnMore
import Derived.Deep.AppendLies
import Derived.Test.YtjfmefdhfboliaaDoorText
namespace Go.Proofs.YtjfmefdhfboliaaDoor
open Go.RowKit Num

/-- The slice value v holds the digits zs, at the head of a row of ints; or it is nil and there are none. -/
def Digs (w : World) (v : Value) (zs : List Int) : Prop := w.ownsRow 0 3 1 v zs.length (zs.map (Value.int .i64))

theorem ownsRow_below {B : Nat} {w w' : World} {base : Nat} {e : TypeId} {size : Nat} {v : Value} {n : Nat} {xs : List Value} (h : w.ownsRow base e size v n xs) (hb : Below B w w') (hv : ∀ k, v.ownBlock = some k → k < B) :
    w'.ownsRow base e size v n xs := by
  refine ⟨h.1, ?_⟩
  rcases h.2 with ⟨a, b⟩ | ⟨g, cap, cur, rfl, hg, hh, h1, h2, h3, h4⟩
  · exact .inl ⟨a, b⟩
  · exact .inr ⟨g, cap, cur, rfl, hg, (hb.block g (hv g rfl)).trans hh, h1, h2, h3, h4⟩

theorem Digs.below {w w' : World} {v : Value} {zs : List Int} (h : Digs w v zs) (hb : Below w.heap.size w w') : Digs w' v zs :=
  ownsRow_below h hb fun k hk => (World.ownsRow.lt h k hk).2

theorem Digs.nil (w : World) : Digs w (.slice none 0 0) [] := World.ownsRow_nil _ _ _ _

/-- What such a value looks like. -/
theorem Digs.form {w : World} {v : Value} {zs : List Int} (h : Digs w v zs) :
    ∃ A cap, v = .slice A zs.length cap ∧ zs.length ≤ cap ∧ cap ≤ maxLen ∧ (A = none → zs = [] ∧ cap = 0) ∧ (∀ a, A = some a → ∃ g, a = ⟨g, 0, none⟩ ∧ g < w.heap.size) ∧
      ∀ j, j < zs.length → ∃ g, A = some ⟨g, 0, none⟩ ∧ g < w.heap.size ∧ w.cell? ⟨g, j, none⟩ = some (.int .i64 (D zs j)) := by
  rcases h.2 with ⟨hv, hn⟩ | ⟨g, cap, cur, hv, _, hh, h1, h2, h3, h4⟩
  · have : zs = [] := List.length_eq_zero_iff.1 hn
    subst this
    exact ⟨none, 0, hv, Nat.le_refl _, by simp [maxLen], fun _ => ⟨rfl, rfl⟩, (fun a ha => by cases ha), fun j hj => absurd hj (by simp)⟩
  · have hlt : g < w.heap.size := (Array.getElem?_eq_some_iff.1 hh).1
    refine ⟨some ⟨g, 0, none⟩, cap, hv, h1, h2, (fun e => by cases e), (fun a ha => by cases ha; exact ⟨g, rfl, hlt⟩), fun j hj => ⟨g, rfl, hlt, ?_⟩⟩
    have := World.ownsRow.cells h (g := g) (by rw [hv]; rfl) j (.int .i64 (D zs j)) (by simp [D, List.getElem?_eq_getElem hj])
    rwa [show (⟨g, 0, none⟩ : Addr).add j = ⟨g, j, none⟩ by unfold Addr.add; split <;> simp_all] at this

/-- A shorter cut of the same row. -/
theorem Digs.cut {w : World} {A : Option Addr} {n cap : Nat} {zs : List Int} (h : Digs w (.slice A n cap) zs) {k : Nat} (hk : k ≤ zs.length) : Digs w (.slice A k cap) (zs.take k) := by
  have hl : (zs.take k).length = k := by rw [List.length_take]; omega
  refine ⟨by simp, ?_⟩
  rw [hl]
  rcases h.2 with ⟨hv, hn⟩ | ⟨g, cap', cur, hv, hg, hh, h1, h2, h3, h4⟩
  · cases hv
    left
    have : k = 0 := by omega
    exact ⟨by rw [this], this⟩
  · cases hv
    right
    refine ⟨g, cap, cur, rfl, hg, hh, by omega, h2, h3, ?_⟩
    have : cur.toList.take (k * 1) = (cur.toList.take (zs.length * 1)).take k := by rw [List.take_take]; congr 1; omega
    rw [this, h4, List.map_take]

theorem Digs.of_own {w : World} {base : Nat} {v : Value} {n : Nat} {zs : List Int} (h : w.ownsRow base 3 1 v n (zs.map (Value.int .i64))) : Digs w v zs := by
  have hn : n = zs.length := by have := h.1; simp at this; omega
  subst hn
  refine ⟨h.1, ?_⟩
  rcases h.2 with hv | ⟨g, cap, cur, hv, hg, hh, h1, h2, h3, h4⟩
  · exact .inl hv
  · exact .inr ⟨g, cap, cur, hv, Nat.zero_le _, hh, h1, h2, h3, h4⟩

/-- A number of no more digits than the walks ask. -/
def Small (n : Nat) : Prop := (limbs n).length ≤ 1000000

theorem cell_lt {W : World} {p : Addr} {v : Value} (h : W.cell? p = some v) : p.block < W.heap.size := by
  unfold World.cell? at h
  rcases Nat.lt_or_ge p.block W.heap.size with h' | h'
  · exact h'
  · simp [Array.getElem?_eq_none h'] at h
/-- A cell that was there is there still where nothing old has turned. -/
theorem keeps_cell {W W' : World} (hb : Below W.heap.size W W') {p : Addr} {v : Value} (h : W.cell? p = some v) : W'.cell? p = some v := (hb.cell (cell_lt h)).trans h
theorem keeps_free {W W' : World} (hb : Below W.heap.size W W') {p : Addr} {v : Value} (h : W.cell? p = some v) (hf : W.frozen? p = false) : W'.frozen? p = false := (hb.frozen (cell_lt h)).trans hf

theorem bcell {W w1 : World} (hb : Below W.heap.size W w1) : (∀ b o, b < W.heap.size → w1.cell? ⟨b, o, none⟩ = W.cell? ⟨b, o, none⟩) ∧ (∀ b o, b < W.heap.size → w1.frozen? ⟨b, o, none⟩ = W.frozen? ⟨b, o, none⟩) :=
  ⟨fun b o h => hb.cell (p := ⟨b, o, none⟩) h, fun b o h => hb.frozen (p := ⟨b, o, none⟩) h⟩
theorem below_of_grown {W W' : World} (h : W.grownBy W' none) : Below W.heap.size W W' := (Below.refl _ _).grown h (Nat.le_refl _) (fun k e => by cases e)

/-- Block b is made of cells of type t. -/
def Box (w : World) (b : Nat) (t : TypeId) : Prop := ∃ cs fr, w.heap[b]? = some (.cells cs t fr)

theorem Box.lt {w : World} {b : Nat} {t : TypeId} (h : Box w b t) : b < w.heap.size := by
  obtain ⟨cs, fr, h⟩ := h
  exact (Array.getElem?_eq_some_iff.1 h).1
theorem Box.new (w : World) (cs : Array Value) (t : TypeId) : Box (w.alloc (.cells cs t)) w.heap.size t := ⟨cs, (0, 0), heap_alloc_new w _⟩
theorem Box.below {w w' : World} {b : Nat} {t : TypeId} (h : Box w b t) (hb : Below w.heap.size w w') : Box w' b t := by
  have hlt := h.lt
  obtain ⟨cs, fr, h⟩ := h
  exact ⟨cs, fr, (hb.block b hlt).trans h⟩
theorem Box.keep {B : Nat} {w w' : World} {b : Nat} {t : TypeId} (h : Box w b t) (hb : Below B w w') (hlt : b < B) : Box w' b t := by
  obtain ⟨cs, fr, h⟩ := h
  exact ⟨cs, fr, (hb.block b hlt).trans h⟩
theorem Box.alloc {w : World} {b : Nat} {t : TypeId} (h : Box w b t) (o : Obj) : Box (w.alloc o) b t := h.below ((Below.refl _ _).alloc (Nat.le_refl _) _)
theorem Box.setCell {w : World} {b : Nat} {t : TypeId} (h : Box w b t) (p : Addr) (u : Value) : Box (w.setCell p u) b t := by
  have hlt := h.lt
  obtain ⟨cs, fr, h⟩ := h
  by_cases e : b = p.block
  · subst e
    have h' : w.heap[p.block] = .cells cs t fr := by simpa [Array.getElem?_eq_getElem hlt] using h
    refine ⟨if p.spot.isSome then cs else cs.setIfInBounds p.off u, fr, ?_⟩
    show (w.heap.modify p.block _)[p.block]? = _
    rw [Array.getElem?_eq_getElem (by simpa using hlt), Array.getElem_modify_self, h']
  · exact ⟨cs, fr, (Below.heap_setCell w p u b e).trans h⟩
theorem Box.drew {w : World} {b : Nat} {t : TypeId} (h : Box w b t) : Box w.drew b t := h

theorem Digs.setCell {w : World} {v : Value} {zs : List Int} (h : Digs w v zs) {p : Addr} {t : TypeId} (hb : Box w p.block t) (ht : t ≠ 3) (u : Value) : Digs (w.setCell p u) v zs := by
  refine ownsRow_setCell_other h (fun e => ?_) u
  obtain ⟨cs, fr, hb⟩ := hb
  rcases h.2 with ⟨rfl, _⟩ | ⟨g, cap, cur, rfl, _, hh, _⟩
  · cases e
  · simp only [Value.ownBlock, Option.some.injEq] at e
    rw [e, hb] at hh
    cases hh
    exact ht rfl
theorem Digs.drew {w : World} {v : Value} {zs : List Int} (h : Digs w v zs) : Digs w.drew v zs := h
theorem Digs.alloc {w : World} {v : Value} {zs : List Int} (h : Digs w v zs) (o : Obj) : Digs (w.alloc o) v zs := h.below ((Below.refl _ _).alloc (Nat.le_refl _) _)
/-- A struct of two cells is stored into a box of the call's own. -/
theorem Digs.store2 {w : World} {v : Value} {zs : List Int} (h : Digs w v zs) {b : Nat} (hb : Box w b 43) (u0 u1 : Value) : Digs ((w.setCell ⟨b, 0, none⟩ u0).setCell ⟨b, 1, none⟩ u1) v zs :=
  (h.setCell (p := ⟨b, 0, none⟩) hb (by decide) u0).setCell (p := ⟨b, 1, none⟩) (hb.setCell _ _) (by decide) u1
theorem below_store2 {B : Nat} {w w' : World} (h : Below B w w') {b : Nat} (hb : B ≤ b) (u0 u1 : Value) : Below B w ((w'.setCell ⟨b, 0, none⟩ u0).setCell ⟨b, 1, none⟩ u1) :=
  (h.setCell (p := ⟨b, 0, none⟩) hb u0).setCell (p := ⟨b, 1, none⟩) hb u1

/-- A number's value: its sign and its digits. -/
def Rep (w : World) (v : Value) (x : Int) : Prop := ∃ s, v = .agg #[.bool (decide (x < 0)), s] ∧ Digs w s (limbs x.natAbs)

theorem Rep.below {w w' : World} {v : Value} {x : Int} (h : Rep w v x) (hb : Below w.heap.size w w') : Rep w' v x := by
  obtain ⟨s, e, hd⟩ := h
  exact ⟨s, e, hd.below hb⟩

end Go.Proofs.YtjfmefdhfboliaaDoor
