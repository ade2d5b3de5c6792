/- Plain: what is read, of its size and written; a tag alone; brackets round a constraint. -/
import Derived.Test.YtheiakdlhpccaaaDoorTn
namespace Go.Proofs.YtheiakdlhpccaaaDoor
open R

theorem skip_cons {a : UInt8} (h : a ≠ 32 ∧ a ≠ 9) (l : List UInt8) : skipL (a :: l) = a :: l := by
  unfold skipL Lib.trimLeftS
  rw [List.dropWhile_cons_of_neg]
  simp [h.1, h.2]
theorem skip_nil : skipL [] = [] := rfl
theorem skip_blank {a : UInt8} (h : a = 32 ∨ a = 9) (l : List UInt8) : skipL (a :: l) = skipL l := by
  unfold skipL Lib.trimLeftS
  rw [List.dropWhile_cons_of_pos]
  rcases h with rfl | rfl <;> rfl
theorem skip_head {l r : List UInt8} {a : UInt8} (h : skipL l = a :: r) : a ≠ 32 ∧ a ≠ 9 := by
  induction l with
  | nil => cases h
  | cons b l ih =>
    by_cases hb : b = 32 ∨ b = 9
    · rw [skip_blank hb] at h; exact ih h
    · rw [skip_cons ⟨fun e => hb (.inl e), fun e => hb (.inr e)⟩] at h
      cases h
      exact ⟨fun e => hb (.inl e), fun e => hb (.inr e)⟩
theorem skip_skip (l : List UInt8) : skipL (skipL l) = skipL l := by
  cases h : skipL l with
  | nil => rfl
  | cons a r => exact skip_cons (skip_head h) r
theorem skip_len (l : List UInt8) : (skipL l).length ≤ l.length := (List.dropWhile_sublist _).length_le
theorem skip_append (l t : List UInt8) : skipL (l ++ t) = if skipL l = [] then skipL t else skipL l ++ t := by
  induction l with
  | nil => rfl
  | cons b l ih =>
    by_cases hb : b = 32 ∨ b = 9
    · rw [List.cons_append, skip_blank hb, skip_blank hb, ih]
    · have hb' : b ≠ 32 ∧ b ≠ 9 := ⟨fun e => hb (.inl e), fun e => hb (.inr e)⟩
      rw [List.cons_append, skip_cons hb', skip_cons hb', if_neg (by simp)]
      rfl

theorem takes_skip {l l' : List UInt8} (h : skipL l = skipL l') (s : List UInt8) : takesP s l = takesP s l' := by unfold takesP; rw [h]
theorem prefix_cons {a b : UInt8} {s l : List UInt8} : Lib.hasPrefix (a :: l) (b :: s) = (decide (b = a) && Lib.hasPrefix l s) := by
  unfold Lib.hasPrefix
  rw [List.isPrefixOf]
  congr 1
theorem prefix_nil (l : List UInt8) : Lib.hasPrefix l [] = true := by unfold Lib.hasPrefix; simp
theorem nil_prefix {b : UInt8} {s : List UInt8} : Lib.hasPrefix [] (b :: s) = false := rfl
/-- takes, told by what comes behind the blanks. -/
theorem takes_yes {s l r : List UInt8} (h : skipL l = s ++ r) : takesP s l = (true, r) := by
  have hp : Lib.hasPrefix (s ++ r) s = true := List.isPrefixOf_iff_prefix.2 (List.prefix_append s r)
  unfold takesP Lib.trimPrefix
  rw [h, hp, if_pos rfl, List.drop_left]
theorem takes_no {s l : List UInt8} (h : Lib.hasPrefix (skipL l) s = false) : takesP s l = (false, skipL l) := by
  unfold takesP Lib.trimPrefix
  rw [h, if_neg (by decide)]
theorem takes_yes_of {s l : List UInt8} (h : (takesP s l).1 = true) : skipL l = s ++ (takesP s l).2 := by
  have hp : Lib.hasPrefix (skipL l) s = true := h
  unfold takesP Lib.trimPrefix
  simp only [hp, if_true]
  obtain ⟨r, hr⟩ := List.isPrefixOf_iff_prefix.1 hp
  rw [← hr, List.drop_left]
theorem takes_no_of {s l : List UInt8} (h : (takesP s l).1 = false) : Lib.hasPrefix (skipL l) s = false ∧ (takesP s l).2 = skipL l := by
  have hp : Lib.hasPrefix (skipL l) s = false := h
  exact ⟨hp, by rw [takes_no hp]⟩

theorem may_not {c : UInt8} (h : mayN c.toNat = true) : c ≠ 32 ∧ c ≠ 9 ∧ c ≠ 33 ∧ c ≠ 40 ∧ c ≠ 41 ∧ c ≠ 38 ∧ c ≠ 124 := by
  refine ⟨?_, ?_, ?_, ?_, ?_, ?_, ?_⟩ <;> rintro rfl <;> revert h <;> decide

theorem takeWhile_app {α : Type} (p : α → Bool) : ∀ (l t : List α), (∀ c ∈ l, p c = true) → (∀ c ∈ t.head?, p c = false) → (l ++ t).takeWhile p = l
  | [], [], _, _ => rfl
  | [], c :: t, _, h => by rw [List.nil_append, List.takeWhile_cons_of_neg]; simpa using h c rfl
  | a :: l, t, h1, h2 => by
    rw [List.cons_append, List.takeWhile_cons_of_pos (h1 a (by simp)), takeWhile_app p l t (fun c hc => h1 c (by simp [hc])) h2]

/-- A tag, read where it stands. -/
theorem factor_of_tag {n : Nat} {s c : List UInt8} (hs : allB mayN s = true) (hc : ∀ a ∈ c.head?, mayN a.toNat = false) : factorP (n + 1) (s ++ c) = some (⟨bs [], bs s, []⟩, c) := by
  unfold allB at hs
  rw [Bool.and_eq_true, List.all_eq_true] at hs
  obtain ⟨h1, h2⟩ := hs
  cases s with
  | nil => cases h2
  | cons a r =>
    have hm := may_not (h1 a (by simp))
    have hk : skipL ((a :: r) ++ c) = (a :: r) ++ c := skip_cons ⟨hm.1, hm.2.1⟩ _
    have e1 : takesP [33] ((a :: r) ++ c) = (false, (a :: r) ++ c) := by
      rw [takes_no (by rw [hk, List.cons_append, prefix_cons, decide_eq_false (Ne.symm hm.2.2.1), Bool.false_and]), hk]
    have e2 : takesP [40] ((a :: r) ++ c) = (false, (a :: r) ++ c) := by
      rw [takes_no (by rw [hk, List.cons_append, prefix_cons, decide_eq_false (Ne.symm hm.2.2.2.1), Bool.false_and]), hk]
    have e3 : tagB ((a :: r) ++ c) = a :: r := takeWhile_app _ _ _ (fun x hx => h1 x hx) hc
    rw [factorP, e1, if_neg Bool.false_ne_true, e2, if_neg Bool.false_ne_true, e3, if_neg (by simp), List.drop_left]

theorem row_single {P : Pr} {sign l : List UInt8} {n : Nat} {x : S24} {r : List UInt8} (hP : P l = some (x, r)) (hs : Lib.hasPrefix (skipL r) sign = false) : rowP P sign (n + 1) l = some (x, skipL r) := by
  rw [rowP, hP, Option.bind_some, rowLoop, takes_no hs, if_neg Bool.false_ne_true]
  rfl

theorem read_tag {s : List UInt8} (hs : allB mayN s = true) (hl : s.length ≤ 500) : readP s = (⟨bs [], bs s, []⟩, 0) := by
  have h1 : factorP 501 s = some (⟨bs [], bs s, []⟩, []) := by
    have := factor_of_tag (n := 500) (c := []) hs (by intro a h; cases h)
    rwa [List.append_nil] at this
  have h2 : termsP 501 s = some (⟨bs [], bs s, []⟩, []) := by
    unfold termsP
    exact row_single (row_single h1 rfl) rfl
  unfold readP
  rw [if_neg (by omega), h2]
  have h3 : rightN 100 ⟨bs [], bs s, []⟩ = true := by
    rw [rightN, if_pos (by rw [bs_toList]), bs_list, hs]
    rfl
  simp only []
  rw [if_pos ⟨rfl, h3⟩]

theorem read_none : (readP []).2 = 8 := by decide +kernel

theorem right_alone (s : ByteArray) : rightN 100 ⟨bs [], s, []⟩ = allB mayN s.data.toList := by
  rw [rightN, if_pos (by rw [bs_toList])]
  simp
theorem write_alone {s : ByteArray} (h : allB mayN s.data.toList = false) : writeP ⟨bs [], s, []⟩ = [] := by
  unfold writeP; rw [right_alone, h, if_neg (by decide)]
theorem least_alone {s : ByteArray} (h : allB mayN s.data.toList = true) : leastP ⟨bs [], s, []⟩ = verB s.data.toList := by
  unfold leastP; rw [right_alone, h, if_pos rfl, leastN, if_pos (by rw [bs_toList])]
theorem ver_low (l : List UInt8) : -1 ≤ verB l ∧ verB l ≤ 99 := by
  unfold verB verOf
  split
  · split
    · split <;> omega
    · omega
  · omega
theorem holds_alone {s : ByteArray} (h : allB mayN s.data.toList = true) (tags : List ByteArray) (ht : Lib.containsS tags s = true) : holdsP tags ⟨bs [], s, []⟩ = decide (verB s.data.toList < 25) := by
  unfold holdsP
  rw [right_alone, h, Bool.true_and, holdsN, if_neg (by rw [bs_toList]; decide), if_neg (by rw [bs_toList]; decide), if_neg (by rw [bs_toList]; decide)]
  simp only []
  split
  · rename_i e
    rw [ht, e]
    rfl
  · rw [Bool.eq_iff_iff, decide_eq_true_iff, decide_eq_true_iff]
    omega
end Go.Proofs.YtheiakdlhpccaaaDoor
