/- Plain: what is read has a size; the walk of awake. -/
import Derived.Test.YtheiakdlhpccaaaDoorTg
import Derived.Test.YtheiakdlhpccaaaDoorTl
namespace Go.Proofs.YtheiakdlhpccaaaDoor
open Go.RowKit Go.Shelf R
open Go.Proofs.YtheiakdlhpccaaaDoorW.PrintWords

def PSz (P : Pr) : Prop := ∀ (l : List UInt8) (q : S24 × List UInt8), l.length ≤ 1000 → P l = some q → q.2.length ≤ l.length ∧ ∀ m, Sz m q.1

theorem rowX_sz {sign : List UInt8} {xs : List S24} (hl : xs.length ≤ 1048576) (h : ∀ x ∈ xs, ∀ m, Sz m x) : ∀ m, Sz m (rowX sign xs) := by
  intro m
  have hgen : Sz m ⟨bs sign, bs [], xs⟩ := by
    cases m with
    | zero => trivial
    | succ m => exact ⟨by simp [size_list, bs_list], hl, fun k hk => h k hk m⟩
  cases xs with
  | nil => exact hgen
  | cons x r =>
    cases r with
    | nil => exact h x (by simp) m
    | cons y r => exact hgen

theorem rowLoop_sz {P : Pr} {sign : List UInt8} (hs : sign ≠ []) (hP : PSz P) : ∀ (k : Nat) (acc : List S24) (l : List UInt8) (q : List S24 × List UInt8), l.length ≤ 1000 → (∀ x ∈ acc, ∀ m, Sz m x) → rowLoop P sign k acc l = some q →
    q.2.length ≤ l.length ∧ q.1.length ≤ acc.length + l.length ∧ ∀ x ∈ q.1, ∀ m, Sz m x
  | 0, _, _, _, _, _, h => by cases h
  | k + 1, acc, l, q, hl, ha, h => by
    rw [rowLoop] at h
    have ht := takes_len (sign := sign) (l := l)
    split at h
    · rename_i h1
      have h2 := takes_lt hs h1
      obtain ⟨p, hp, h⟩ := Option.bind_eq_some_iff.1 h
      obtain ⟨h3, h4⟩ := hP _ _ (by omega) hp
      have h5 := rowLoop_sz hs hP k _ _ _ (by omega) (by
        intro x hx
        rcases List.mem_append.1 hx with hx | hx
        · exact ha x hx
        · rw [List.mem_singleton.1 hx]; exact h4) h
      refine ⟨by omega, ?_, h5.2.2⟩
      have := h5.2.1
      rw [List.length_append, List.length_singleton] at this
      omega
    · cases h
      exact ⟨ht, Nat.le_add_right _ _, ha⟩

theorem rowP_sz {P : Pr} {sign : List UInt8} {n : Nat} (hs : sign ≠ []) (hP : PSz P) : PSz (rowP P sign n) := by
  intro l q hl h
  rw [rowP] at h
  obtain ⟨p, hp, h⟩ := Option.bind_eq_some_iff.1 h
  obtain ⟨t, ht, rfl⟩ := Option.map_eq_some_iff.1 h
  obtain ⟨h1, h2⟩ := hP _ _ hl hp
  obtain ⟨h3, h4, h5⟩ := rowLoop_sz hs hP _ _ _ _ (by omega) (by intro x hx; rw [List.mem_singleton.1 hx]; exact h2) ht
  rw [List.length_singleton] at h4
  exact ⟨by simp only []; omega, rowX_sz (by omega) h5⟩

theorem factorP_sz : ∀ n : Nat, PSz (factorP n)
  | 0 => by intro l q _ h; cases h
  | n + 1 => by
    intro l q hl h
    have ih := factorP_sz n
    rw [factorP] at h
    have h1 := takes_len (sign := [33]) (l := l)
    have h2 := takes_len (sign := [40]) (l := (takesP [33] l).2)
    split at h
    · obtain ⟨p, hp, rfl⟩ := Option.map_eq_some_iff.1 h
      obtain ⟨h3, h4⟩ := ih _ _ (by omega) hp
      refine ⟨by simp only []; omega, fun m => ?_⟩
      cases m with
      | zero => trivial
      | succ m => exact ⟨by simp [size_list, bs_list], by simp, fun k hk => by rw [List.mem_singleton.1 hk]; exact h4 m⟩
    · split at h
      · obtain ⟨p, hp, h⟩ := Option.bind_eq_some_iff.1 h
        obtain ⟨h3, h5⟩ := rowP_sz (by decide) (rowP_sz (by decide) ih) _ _ (by omega) hp
        split at h
        · cases h
          have h4 := takes_len (sign := [41]) (l := p.2)
          exact ⟨by simp only []; omega, h5⟩
        · cases h
      · split at h
        · cases h
        · cases h
          refine ⟨by simp only [List.length_drop]; omega, fun m => ?_⟩
          have h6 : (tagB (takesP [40] (takesP [33] l).2).2).length ≤ (takesP [40] (takesP [33] l).2).2.length := (List.takeWhile_sublist _).length_le
          cases m with
          | zero => trivial
          | succ m => exact ⟨by rw [size_list, bs_list]; omega, by simp, fun k hk => by cases hk⟩
theorem termsP_sz (n : Nat) : PSz (termsP n) := rowP_sz (by decide) (rowP_sz (by decide) (factorP_sz n))

theorem noX_sz : ∀ m, Sz m noX := by
  intro m
  cases m with
  | zero => trivial
  | succ m => exact ⟨by decide, by decide, fun k hk => by cases hk⟩

theorem readP_sz (l : List UInt8) : ∀ m, Sz m (readP l).1 := by
  intro m
  unfold readP
  split
  · exact noX_sz m
  · cases h : termsP 501 l with
    | none => exact noX_sz m
    | some q =>
      simp only []
      split
      · exact (termsP_sz 501 l q (by omega) h).2 m
      · exact noX_sz m

def aw : List UInt8 := [103, 111, 49, 46, 50, 49, 32, 38, 38, 32, 33, 120]
def ax : List UInt8 := [97, 32, 124, 124, 32, 103, 111, 49, 46, 49, 56]
theorem aw1 : (readP aw).2 = 0 := by decide +kernel
theorem aw2 : (readP ax).2 = 0 := by decide +kernel
theorem aw3 : leastP (readP aw).1 = 21 := by decide +kernel
theorem aw4 : holdsP [] (readP aw).1 = true := by decide +kernel
theorem aw5 : leastP (readP ax).1 = -1 := by decide +kernel
theorem aw6 : writeP (readP aw).1 = aw := by decide +kernel

theorem Reads_at {w W w' : World} {q : S24 × Int} {e : Ending} (hW : Below w.heap.size w W) (h : Reads W q e w') : ∃ A c, e = .returned (.tuple #[xv q.1 A c, .int .i64 q.2]) ∧ q.1.f2.length ≤ c ∧ Kd.C k24 w' A q.1.f2.length q.1.f2 ∧ Below w.heap.size w w' := by
  obtain ⟨v, rfl, ⟨A, c, rfl, hc, hC⟩, hb⟩ := h
  exact ⟨A, c, rfl, hc, hC, hW.trans (hb.mono hW.size)⟩
end Go.Proofs.YtheiakdlhpccaaaDoor
