/- A range over an iterator whose values are met as it goes: the same law, with a word on each round's values; what the iterator does between its rounds leaves what was there when it was called. -/
import Derived.Test.YtiigjmageeinpaaDoorSeq
namespace Go.Proofs.YtiigjmageeinpaaDoor
open Go Go.RowKit

theorem keepsFrom_put {B l : Nat} (W : World) (o' : Obj) (h : l < B) : KeepsFrom B W (W.putObj l o') :=
  ⟨(grownBy_putObj' W l o').size, fun k o hk ho _ => (World.putObj_heap_other (by omega)).trans ho⟩

/-- An iterator value that hands on values which meet V 0, V 1, .., V (N - 1), or stops where a round has said so; T m: its own steps, where the heap had m blocks when it was called; Kp: what a round that goes on keeps. -/
def SeqVal (F : Fence) (n : Nat) (P : Program) (g : Nat) (lb : Array Value) (V : Nat → Array Value → World → Prop) (G : World → Prop) (Kp T : Nat → World → World → Prop) (N : Nat) (w : World) : Prop :=
  ∀ (l : Nat) (J Jx : Nat → World → Prop) (W : World), Below w.heap.size w W → (∀ s A, J s A → G A) → (∀ s A B, J s A → T W.heap.size A B → J s B) → (∀ s A B, Jx s A → T W.heap.size A B → Jx s B) →
    (∀ k args W1, J k W1 → k < N → V k args W1 → YieldAt F (n - 1) P l args W1 fun e W' =>
      (e = .returned (.bool true) ∧ J (k + 1) W' ∧ Kp W.heap.size W1 W') ∨ (e = .returned (.bool false) ∧ Jx k W' ∧ KeepsFrom W.heap.size W1 W')) →
    J 0 W →
    CallsIn F n P g (#[.func (.yield l) #[] #[]] ++ lb) W fun e W' => (∃ v, e = .returned v) ∧ (J N W' ∨ ∃ k, k < N ∧ Jx k W')

theorem wpIn_rangeFunc_val {F : Fence} {n : Nat} {P : Program} {g : Operand} {ps : Array Tmp} {assign body : Code} {Q : Exit → Act → World → Prop} {a : Act} {w : World}
    (hro : F.round = none) (h1 : 1 ≤ n) {gf : Nat} {lb : Array Value} (hg : a.eval g = .func (.func gf) #[] lb) (hFg : F.fn gf) (eg : ∀ args w, (callFunc gf args).run P w = .ok (.enter gf args) w)
    {V : Nat → Array Value → World → Prop} {G : World → Prop} {Kp T : Nat → World → World → Prop} {N : Nat} {w0 : World} (hseq : SeqVal F (n - 1) P gf lb V G Kp T N w0)
    (hKt : ∀ {A B C : World}, Kp (w.heap.size + 2) A B → Kp (w.heap.size + 2) B C → Kp (w.heap.size + 2) A C) (hKb : ∀ (W : World) (o o' : Obj), W.heap[w.heap.size + 1]? = some o → o.isCells = false → o.isWalk = false → Kp (w.heap.size + 2) W (W.putObj (w.heap.size + 1) o')) (hb0 : Below w0.heap.size w0 w) (hps : ∀ k args W, V k args W → args.size = ps.size) (hVb : ∀ (k : Nat) (args : Array Value) (W : World) (l : Nat) (o o' : Obj), w.heap.size ≤ l → W.heap[l]? = some o → o.isCells = false → o.isWalk = false → V k args W → V k args (W.putObj l o'))
    (hT : ∀ A B, T (w.heap.size + 2) A B → ∀ k o, k < w.heap.size + 2 → A.heap[k]? = some o → o.isCells = false → B.heap[k]? = some o)
    (I : Nat → World → Prop) (Ix : Code → Nat → World → Prop) (hI : OwnFrom w.heap.size I) (hIx : ∀ c, OwnFrom w.heap.size (Ix c)) (hIT : ∀ s A B, I s A → T (w.heap.size + 2) A B → I s B) (hIxT : ∀ c s A B, Ix c s A → T (w.heap.size + 2) A B → Ix c s B) (hIG : ∀ s A, I s A → G A) (h0 : I 0 w) (a₁ : Nat → Array Value → Act)
    (hassign : ∀ (l : Nat) (k : Nat) (args : Array Value) (W : World) (K : Act → World → Prop), V k args W → K (a₁ k args) W →
      assign.wpIn (F.inRound l) (n - 1 - 1) P (Exit.then K (fun _ _ _ => False)) { tmps := (ps.zip args).foldl (fun t (p, v) => t.setIfInBounds p v) a.tmps, defers := [] } W)
    (hbody : ∀ (l : Nat) (k : Nat) (args : Array Value) (W : World), I k W → k < N → V k args W → body.wpIn (F.inRound l) (n - 1 - 1) P (idxPost w.heap.size (Kp (w.heap.size + 2)) I Ix k W) (a₁ k args) W)
    (hdone : ∀ (D : Nat) (W : World), w.heap.size ≤ D → I N W → W.heap[D]? = some (.deferred (some [])) → Q .normal { a with defers := { target := .collected D, args := #[] } :: a.defers } W)
    (hstop : ∀ (D : Nat) (c : Code) (k : Nat) (W : World), w.heap.size ≤ D → k < N → Ix c k W → W.heap[D]? = some (.deferred (some [])) → c.wpIn F n P Q { a with defers := { target := .collected D, args := #[] } :: a.defers } W) :
    (Code.rangeFunc g ps assign body).wpIn F n P Q a w := by
  refine wpIn_rangeFunc ?_
  intro fn hfn
  rw [hro]
  obtain ⟨rec, hrec⟩ : ∃ rec : LoopState → Option Code → Loop, rec = fun st pe => { state := st, pending := pe, fn, tmps := a.tmps, params := ps, assign, body, defers := w.heap.size } := ⟨_, rfl⟩
  obtain ⟨W1, hW1⟩ : ∃ W1, (w.alloc (.deferred (some []))).alloc (.loop (rec .ready none)) = W1 := ⟨_, rfl⟩
  have hL1 : W1.heap[w.heap.size + 1]? = some (.loop (rec .ready none)) := by
    rw [← hW1]; have := World.alloc_heap_new (w.alloc (.deferred (some []))) (.loop (rec .ready none)); rwa [World.size_alloc] at this
  have hK1 : W1.heap[w.heap.size]? = some (.deferred (some [])) := by
    rw [← hW1]; exact (Below.heap_alloc _ _ _ (by simp)).trans (World.alloc_heap_new w _)
  have hI1 : I 0 W1 := by rw [← hW1]; exact hI.alloc _ (hI.alloc _ h0)
  have hz1 : W1.heap.size = w.heap.size + 2 := by rw [← hW1]; simp
  have hb1 : Below w0.heap.size w0 W1 := by
    rw [← hW1]; exact hb0.trans ((((Below.refl _ w).alloc (Nat.le_refl _) _).alloc (by simp) _).mono hb0.size)
  refine ⟨w.heap.size + 1, [{ target := .collected w.heap.size, args := #[] }], W1, { target := .fn (.func gf) lb, args := #[.func (.yield (w.heap.size + 1)) #[] #[]] }, W1, gf,
    #[.func (.yield (w.heap.size + 1)) #[] #[]] ++ lb, W1, ?_, ?_, ?_, ?_, fun _ => h1, ?_⟩
  · rw [← hW1, hrec]; exact run_enterLoop_outer _ _ _ _ _
  · simp only [resolve, hg]
    simp [go_sem]
  · intro f' hf'; simp [Target.leads] at hf'; subst hf'; exact hFg
  · simp [invoke, go_sem, eg]
  · -- THE ITERATOR's CONTRACT, AT THE CALLER's INVARIANT WITH THE TWO FACTS OF BOOK-KEEPING BESIDE IT
    refine (hseq (w.heap.size + 1)
      (fun pre W => I pre W ∧ W.heap[w.heap.size + 1]? = some (.loop (rec .ready none)) ∧ W.heap[w.heap.size]? = some (.deferred (some [])))
      (fun pre W => ∃ c, Ix c pre W ∧ W.heap[w.heap.size + 1]? = some (.loop (rec .done (some c))) ∧ W.heap[w.heap.size]? = some (.deferred (some [])))
      W1 hb1 (fun s A hs => hIG s A hs.1)
      (fun s A B hs ht => by
        rw [hz1] at ht
        exact ⟨hIT s A B hs.1 ht, hT A B ht _ _ (by omega) hs.2.1 rfl, hT A B ht _ _ (by omega) hs.2.2 rfl⟩)
      (fun s A B hs ht => by
        rw [hz1] at ht
        obtain ⟨c, hc, hl, hk⟩ := hs
        exact ⟨c, hIxT c s A B hc ht, hT A B ht _ _ (by omega) hl rfl, hT A B ht _ _ (by omega) hk rfl⟩)
      ?_ ⟨hI1, hL1, hK1⟩).mono ?_
    · -- ONE ROUND
      rintro pre args W ⟨hi, hl, hk⟩ hlen hv
      rw [hz1]
      have hlt : w.heap.size + 1 < W.heap.size := (Array.getElem?_eq_some_iff.1 hl).1
      have hy := run_yield (P := P) (args := args) hl (by rw [hrec]; exact hps pre args W hv)
      rw [hrec] at hy
      refine ⟨fn, _, assign, body, hy, roundIn_of_wpIn hfn (hassign _ pre args W _ hv ⟨_, run_beginRound hl (by rw [hrec]), ?_⟩)⟩
      have hl2 : (W.putObj (w.heap.size + 1) (.loop { rec .ready none with state := .busy })).heap[w.heap.size + 1]? = some (.loop { rec .ready none with state := .busy }) := World.putObj_heap_same hlt
      have hk2 : (W.putObj (w.heap.size + 1) (.loop { rec .ready none with state := .busy })).heap[w.heap.size]? = some (.deferred (some [])) := (World.putObj_heap_other (by omega)).trans hk
      have hw2 : Kp (w.heap.size + 2) W (W.putObj (w.heap.size + 1) (.loop { rec .ready none with state := .busy })) := hKb _ _ _ hl rfl rfl
      refine wpIn_mono (hbody _ pre args _ (hI.putObj _ hi (by omega) hl rfl) hlen (hVb _ _ _ _ _ _ (by omega) hl rfl rfl hv)) ?_
      have fin : ∀ (jump : Option Code) (W3 : World), KeepsFrom w.heap.size (W.putObj (w.heap.size + 1) (.loop { rec .ready none with state := .busy })) W3 →
          (Instr.endRound (w.heap.size + 1) jump).run P W3 = .ok (.bool jump.isNone) (W3.putObj (w.heap.size + 1) (.loop (rec (if jump.isNone then .ready else .done) jump))) ∧
          W3.heap[w.heap.size + 1]? = some (.loop { rec .ready none with state := .busy }) ∧
          (W3.putObj (w.heap.size + 1) (.loop (rec (if jump.isNone then .ready else .done) jump))).heap[w.heap.size + 1]? = some (.loop (rec (if jump.isNone then .ready else .done) jump)) ∧
          (W3.putObj (w.heap.size + 1) (.loop (rec (if jump.isNone then .ready else .done) jump))).heap[w.heap.size]? = some (.deferred (some [])) := fun jump W3 hk3 => by
        have hl3 := hk3.same _ _ (by omega) hl2 rfl
        have := run_endRound (P := P) jump hl3
        rw [hrec] at this ⊢
        exact ⟨this, by rw [hrec] at hl3; exact hl3, World.putObj_heap_same (Array.getElem?_eq_some_iff.1 hl3).1, (World.putObj_heap_other (by omega)).trans (hk3.same _ _ (Nat.le_refl _) hk2 rfl)⟩
      have kf : ∀ {W3 : World} {o' : Obj}, KeepsFrom w.heap.size (W.putObj (w.heap.size + 1) (.loop { rec .ready none with state := .busy })) W3 → KeepsFrom (w.heap.size + 2) W (W3.putObj (w.heap.size + 1) o') := fun hk3 =>
        ((keepsFrom_put W _ (by omega)).trans ⟨hk3.size, fun k o hk ho hc => hk3.same k o (by omega) ho hc⟩).trans (keepsFrom_put _ _ (by omega))
      rintro e a3 W3 hp
      cases e with
      | normal =>
        obtain ⟨hk3, hkp3, hi3⟩ := hp
        obtain ⟨hr, hl3, hl4, hk4⟩ := fin none W3 hk3
        exact ⟨_, _, hr, .inl ⟨rfl, ⟨hI.putObj _ hi3 (by omega) hl3 rfl, hl4, hk4⟩, hKt (hKt hw2 hkp3) (hKb _ _ _ hl3 rfl rfl)⟩⟩
      | ret =>
        obtain ⟨hk3, hi3⟩ := hp
        obtain ⟨hr, hl3, hl4, hk4⟩ := fin (some .ret) W3 hk3
        exact ⟨_, _, hr, .inr ⟨rfl, ⟨.ret, (hIx _).putObj _ hi3 (by omega) hl3 rfl, hl4, hk4⟩, kf hk3⟩⟩
      | exit id =>
        obtain ⟨hk3, hi3⟩ := hp
        obtain ⟨hr, hl3, hl4, hk4⟩ := fin (some (.exit id)) W3 hk3
        exact ⟨_, _, hr, .inr ⟨rfl, ⟨.exit id, (hIx _).putObj _ hi3 (by omega) hl3 rfl, hl4, hk4⟩, kf hk3⟩⟩
      | goto t =>
        obtain ⟨hk3, hi3⟩ := hp
        obtain ⟨hr, hl3, hl4, hk4⟩ := fin (some (.goto t)) W3 hk3
        exact ⟨_, _, hr, .inr ⟨rfl, ⟨.goto t, (hIx _).putObj _ hi3 (by omega) hl3 rfl, hl4, hk4⟩, kf hk3⟩⟩
      | panic ch => exact hp.elim
      | outgrown => exact hp.elim
    · -- BEHIND THE ITERATOR
      rintro e W2 ⟨⟨v, rfl⟩, (⟨hi, hl, hk⟩ | ⟨pre, hSp, c, hi, hl, hk⟩)⟩
      · exact ⟨none, _, by have := run_endLoop (P := P) hl (by rw [hrec]; simp); rw [hrec] at this; exact this, hdone _ _ (Nat.le_refl _) (hI.putObj _ hi (by omega) hl rfl) ((World.putObj_heap_other (by omega)).trans hk)⟩
      · exact ⟨some c, _, by have := run_endLoop (P := P) hl (by rw [hrec]; simp); rw [hrec] at this; exact this, hstop _ c pre _ (Nat.le_refl _) hSp ((hIx c).putObj _ hi (by omega) hl rfl) ((World.putObj_heap_other (by omega)).trans hk)⟩



end Go.Proofs.YtiigjmageeinpaaDoor
