/- Plain: brackets round a constraint's text; how long is what is written of what was read. -/
import Derived.Test.YtheiakdlhpccaaaDoorTp
namespace Go.Proofs.YtheiakdlhpccaaaDoor
open R

/-- What stands behind: " ) ". -/
def tl : List UInt8 := [32, 41, 32]
/-- l' is l with " ) " behind, but for blanks ahead. -/
def Ext (l l' : List UInt8) : Prop := skipL l' = if skipL l = [] then [41, 32] else skipL l ++ tl

theorem ext_app (l : List UInt8) : Ext l (l ++ tl) := by
  unfold Ext
  rw [skip_append]
  rfl
theorem ext_skip {l l' : List UInt8} (h : Ext l l') : Ext (skipL l) (skipL l') := by
  unfold Ext at h ⊢
  rw [skip_skip, skip_skip]
  exact h

theorem prefix_app {s a : List UInt8} (hs : ∀ c ∈ s, c ≠ 32) (ha : a ≠ [] ∨ s = []) : Lib.hasPrefix (a ++ tl) s = Lib.hasPrefix a s := by
  induction s generalizing a with
  | nil => rw [prefix_nil, prefix_nil]
  | cons b s ih =>
    cases a with
    | nil =>
      rcases ha with h | h
      · exact absurd rfl h
      · cases h
    | cons c a =>
      rw [List.cons_append, prefix_cons, prefix_cons]
      by_cases e : a = [] ∧ s ≠ []
      · obtain ⟨rfl, hs2⟩ := e
        cases s with
        | nil => exact absurd rfl hs2
        | cons d s =>
          have : Lib.hasPrefix ([] ++ tl) (d :: s) = false := by
            show Lib.hasPrefix (32 :: [41, 32]) (d :: s) = false
            rw [prefix_cons, decide_eq_false (hs d (by simp)), Bool.false_and]
          rw [this, nil_prefix]
      · rw [ih (fun c hc => hs c (by simp [hc])) (by
          by_cases h : a = []
          · exact .inr (Classical.not_not.1 fun h2 => e ⟨h, h2⟩)
          · exact .inl h)]

/-- takes, with " ) " behind: where it takes. -/
theorem ext_yes {l l' s : List UInt8} (hs0 : s ≠ []) (h : Ext l l') (ht : (takesP s l).1 = true) : takesP s l' = (true, (takesP s l).2 ++ tl) := by
  have h1 := takes_yes_of ht
  have h2 : skipL l ≠ [] := by rw [h1]; intro e; exact hs0 (List.append_eq_nil_iff.1 e).1
  unfold Ext at h
  rw [if_neg h2, h1, List.append_assoc] at h
  exact takes_yes h
/-- where it does not. -/
theorem ext_no {l l' s : List UInt8} (hs0 : s ≠ []) (hs : ∀ c ∈ s, c ≠ 32 ∧ c ≠ 41) (h : Ext l l') (ht : (takesP s l).1 = false) : takesP s l' = (false, skipL l') := by
  apply takes_no
  have h1 := (takes_no_of ht).1
  unfold Ext at h
  split at h
  · rw [h]
    cases s with
    | nil => exact absurd rfl hs0
    | cons b s => rw [prefix_cons, decide_eq_false (hs b (by simp)).2, Bool.false_and]
  · rw [h, prefix_app (fun c hc => (hs c hc).1) (.inl (by assumption)), h1]

/-- A reader's part bears " ) " behind, whatever the fuel. -/
def PExt (P Q : Pr) (n : Nat) : Prop := ∀ (l l' : List UInt8) (q : S24 × List UInt8), l.length < n → Ext l l' → P l = some q → ∃ r, Q l' = some (q.1, r) ∧ Ext q.2 r

theorem rowLoop_ext {P Q : Pr} {n : Nat} {s : List UInt8} (hs0 : s ≠ []) (hs : ∀ c ∈ s, c ≠ 32 ∧ c ≠ 41) (hP : PExt P Q n) (hl : ∀ l q, P l = some q → q.2.length ≤ l.length) : ∀ (k : Nat) (acc : List S24) (l l' : List UInt8) (q : List S24 × List UInt8) (k' : Nat),
    l.length < k' → k' ≤ n → Ext l l' → rowLoop P s k acc l = some q → ∃ r, rowLoop Q s k' acc l' = some (q.1, r) ∧ Ext q.2 r
  | 0, _, _, _, _, _, _, _, _, h => by cases h
  | k + 1, acc, l, l', q, 0, h0, _, _, _ => by omega
  | k + 1, acc, l, l', q, k' + 1, h0, hn, he, h => by
    rw [rowLoop] at h ⊢
    cases ht : (takesP s l).1 with
    | true =>
      rw [ht, if_pos rfl] at h
      obtain ⟨p, hp, h⟩ := Option.bind_eq_some_iff.1 h
      have hlt := takes_lt hs0 ht
      rw [ext_yes hs0 he ht, if_pos rfl]
      obtain ⟨r, hr, her⟩ := hP _ _ _ (by omega) (ext_app _) hp
      have := hl _ _ hp
      rw [hr, Option.bind_some]
      exact rowLoop_ext hs0 hs hP hl k _ _ _ _ k' (by omega) (by omega) her h
    | false =>
      rw [ht, if_neg Bool.false_ne_true] at h
      cases h
      rw [ext_no hs0 hs he ht, if_neg Bool.false_ne_true]
      refine ⟨_, rfl, ?_⟩
      rw [(takes_no_of ht).2]
      exact ext_skip he

theorem rowP_ext {P Q : Pr} {n k k' : Nat} {s : List UInt8} (hs0 : s ≠ []) (hs : ∀ c ∈ s, c ≠ 32 ∧ c ≠ 41) (hP : PExt P Q n) (hl : ∀ l q, P l = some q → q.2.length ≤ l.length) (hk : n = k') : PExt (rowP P s k) (rowP Q s k') n := by
  subst hk
  intro l l' q h0 he h
  rw [rowP] at h
  obtain ⟨p, hp, h⟩ := Option.bind_eq_some_iff.1 h
  obtain ⟨t, ht, rfl⟩ := Option.map_eq_some_iff.1 h
  obtain ⟨r, hr, her⟩ := hP _ _ _ h0 he hp
  have := hl _ _ hp
  obtain ⟨u, hu, heu⟩ := rowLoop_ext hs0 hs hP hl k _ _ _ _ n (by omega) (Nat.le_refl _) her ht
  refine ⟨u, ?_, heu⟩
  rw [rowP, hr, Option.bind_some, hu]
  rfl

theorem tagB_app (l : List UInt8) : tagB (l ++ tl) = tagB l := by
  induction l with
  | nil => decide
  | cons a l ih =>
    unfold tagB at ih ⊢
    rw [List.cons_append]
    by_cases h : (fun c : UInt8 => mayN c.toNat) a = true
    · rw [List.takeWhile_cons_of_pos (p := fun c : UInt8 => mayN c.toNat) h, List.takeWhile_cons_of_pos (p := fun c : UInt8 => mayN c.toNat) h, ih]
    · rw [List.takeWhile_cons_of_neg (p := fun c : UInt8 => mayN c.toNat) h, List.takeWhile_cons_of_neg (p := fun c : UInt8 => mayN c.toNat) h]

theorem factorP_ext : ∀ (n n' : Nat), PExt (factorP n) (factorP n') n'
  | 0, _ => by intro l l' q _ _ h; cases h
  | n + 1, 0 => by intro l l' q h _ _; omega
  | n + 1, n' + 1 => by
    intro l l' q h0 he h
    have ih := factorP_ext n n'
    have hl1 := takes_len (sign := [33]) (l := l)
    rw [factorP] at h ⊢
    cases h1 : (takesP [33] l).1 with
    | true =>
      rw [h1, if_pos rfl] at h
      have hlt := takes_lt (by decide) h1
      obtain ⟨p, hp, rfl⟩ := Option.map_eq_some_iff.1 h
      rw [ext_yes (by decide) he h1, if_pos rfl]
      obtain ⟨r, hr, her⟩ := ih _ _ _ (by omega) (ext_app _) hp
      exact ⟨r, by rw [hr]; rfl, her⟩
    | false =>
      rw [h1, if_neg Bool.false_ne_true] at h
      rw [ext_no (by decide) (by decide) he h1, if_neg Bool.false_ne_true]
      have he2 := ext_skip he
      rw [(takes_no_of h1).2] at h
      simp only [] at h ⊢
      cases h2 : (takesP [40] (skipL l)).1 with
      | true =>
        rw [h2, if_pos rfl] at h
        have hlt := takes_lt (by decide) h2
        have hsl := skip_len l
        rw [ext_yes (by decide) he2 h2, if_pos rfl]
        obtain ⟨p, hp, h⟩ := Option.bind_eq_some_iff.1 h
        obtain ⟨r, hr, her⟩ := rowP_ext (k := n) (by decide) (by decide) (rowP_ext (k := n) (by decide) (by decide) ih (factorP_len n) rfl) (rowP_len (factorP_len n)) rfl _ _ _ (by omega) (ext_app _) hp
        simp only []
        rw [hr, Option.bind_some]
        simp only [] at h ⊢
        cases h3 : (takesP [41] p.2).1 with
        | true =>
          rw [h3, if_pos rfl] at h
          cases h
          rw [ext_yes (by decide) her h3, if_pos rfl]
          exact ⟨_, rfl, ext_app _⟩
        | false =>
          rw [h3, if_neg Bool.false_ne_true] at h
          cases h
      | false =>
        rw [h2, if_neg Bool.false_ne_true, (takes_no_of h2).2, skip_skip] at h
        rw [ext_no (by decide) (by decide) he2 h2, if_neg Bool.false_ne_true]
        simp only []
        rw [skip_skip]
        split at h
        · cases h
        · rename_i h3
          cases h
          have hne : skipL l ≠ [] := by
            intro e
            rw [e] at h3
            exact h3 rfl
          have he' := he
          unfold Ext at he'
          rw [if_neg hne] at he'
          rw [he', tagB_app, if_neg h3]
          refine ⟨_, rfl, ?_⟩
          have : (tagB (skipL l)).length ≤ (skipL l).length := (List.takeWhile_sublist _).length_le
          rw [List.drop_append_of_le_length this]
          exact ext_app _
theorem termsP_ext (n n' : Nat) : PExt (termsP n) (termsP n') n' := rowP_ext (by decide) (by decide) (rowP_ext (by decide) (by decide) (factorP_ext n n') (factorP_len n) rfl) (rowP_len (factorP_len n)) rfl

theorem read_brackets {s : List UInt8} {x : S24} (hl : s.length ≤ 490) (h : readP s = (x, 0)) : readP ([32, 40, 9] ++ s ++ tl) = (x, 0) := by
  unfold readP at h
  rw [if_neg (by omega)] at h
  cases ht : termsP 501 s with
  | none => rw [ht] at h; cases h
  | some q =>
    rw [ht] at h
    simp only [] at h
    split at h
    · rename_i hc
      cases h
      obtain ⟨r, hr, her⟩ := termsP_ext 501 500 s (9 :: (s ++ tl)) q (by omega) (by
        have := ext_app s
        unfold Ext at this ⊢
        rw [skip_blank (.inr rfl)]
        exact this) ht
      have hr41 : takesP [41] r = (true, [32]) := by
        apply takes_yes
        unfold Ext at her
        rw [her, if_pos hc.1]
        rfl
      have e1 : takesP [33] ([32, 40, 9] ++ s ++ tl) = (false, 40 :: 9 :: (s ++ tl)) := by
        have hk : skipL ([32, 40, 9] ++ s ++ tl) = 40 :: 9 :: (s ++ tl) := by
          rw [List.append_assoc]
          show skipL (32 :: 40 :: 9 :: (s ++ tl)) = _
          rw [skip_blank (.inl rfl), skip_cons (by decide)]
        rw [takes_no (by rw [hk, prefix_cons]; rfl), hk]
      have e2 : takesP [40] (40 :: 9 :: (s ++ tl)) = (true, 9 :: (s ++ tl)) := takes_yes (skip_cons (by decide) _)
      have hf : factorP 501 ([32, 40, 9] ++ s ++ tl) = some (q.1, [32]) := by
        rw [factorP, e1, if_neg Bool.false_ne_true, e2, if_pos rfl]
        unfold termsP at hr
        simp only []
        rw [hr, Option.bind_some]
        simp only []
        rw [hr41, if_pos rfl]
      have ht2 : termsP 501 ([32, 40, 9] ++ s ++ tl) = some (q.1, []) := by
        unfold termsP
        exact row_single (row_single hf rfl) rfl
      unfold readP
      rw [if_neg (by simp [tl]; omega), ht2]
      simp only []
      rw [if_pos ⟨rfl, hc.2⟩]
    · cases h
end Go.Proofs.YtheiakdlhpccaaaDoor
