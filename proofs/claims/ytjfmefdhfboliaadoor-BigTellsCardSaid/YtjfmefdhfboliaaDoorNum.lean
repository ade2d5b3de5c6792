/- Plain laws on numbers, no program in sight: digits of base 1,000,000,000, the decimal numeral, its reading back. -/
import Derived.Lib.ItoaNum
namespace Go.Proofs.YtjfmefdhfboliaaDoor.Num
open Go.Lib

/-! ### Digits of base 1,000,000,000, the lowest first -/

/-- What a row of digits is worth. -/
def val : List Int → Int
  | [] => 0
  | d :: l => d + 1000000000 * val l

/-- The digits of a number, without noughts at the end. -/
def limbs (n : Nat) : List Int :=
  if h : n = 0 then [] else ((n % 1000000000 : Nat) : Int) :: limbs (n / 1000000000)
  termination_by n
  decreasing_by omega

def Dig (l : List Int) : Prop := ∀ d ∈ l, 0 ≤ d ∧ d < 1000000000

theorem limbs_zero : limbs 0 = [] := by rw [limbs, dif_pos rfl]
theorem limbs_pos {n : Nat} (h : n ≠ 0) : limbs n = ((n % 1000000000 : Nat) : Int) :: limbs (n / 1000000000) := by rw [limbs, dif_neg h]

theorem val_limbs (n : Nat) : val (limbs n) = n := by
  induction n using Nat.strongRecOn with
  | _ n ih =>
    by_cases h : n = 0
    · subst h; rw [limbs_zero]; rfl
    · rw [limbs_pos h, val, ih (n / 1000000000) (by omega)]
      omega

theorem dig_limbs (n : Nat) : Dig (limbs n) := by
  induction n using Nat.strongRecOn with
  | _ n ih =>
    by_cases h : n = 0
    · subst h; rw [limbs_zero]; intro d hd; cases hd
    · rw [limbs_pos h]
      intro d hd
      rcases List.mem_cons.1 hd with rfl | hd
      · omega
      · exact ih (n / 1000000000) (by omega) d hd

theorem val_nonneg {l : List Int} (h : Dig l) : 0 ≤ val l := by
  induction l with
  | nil => exact Int.le_refl _
  | cons d l ih =>
    have := ih fun x hx => h x (List.mem_cons_of_mem _ hx)
    have := (h d List.mem_cons_self).1
    unfold val; omega

theorem Dig.tail {d : Int} {l : List Int} (h : Dig (d :: l)) : Dig l := fun x hx => h x (List.mem_cons_of_mem _ hx)
theorem Dig.append {l m : List Int} (h : Dig l) (k : Dig m) : Dig (l ++ m) := fun x hx => (List.mem_append.1 hx).elim (h x) (k x)
theorem Dig.take {l : List Int} (h : Dig l) (k : Nat) : Dig (l.take k) := fun x hx => h x (List.mem_of_mem_take hx)

theorem val_append (l m : List Int) : val (l ++ m) = val l + 1000000000 ^ l.length * val m := by
  induction l with
  | nil => simp [val]
  | cons d l ih =>
    rw [List.cons_append, val, ih, val, List.length_cons, Int.pow_succ]
    rw [Int.mul_add, Int.mul_comm (1000000000 ^ l.length) 1000000000, Int.mul_assoc, ← Int.add_assoc]

/-- A row without a nought at its end is the digits of what it is worth. -/
theorem limbs_val : ∀ (l : List Int), Dig l → (∀ h : l ≠ [], l.getLast h ≠ 0) → l = limbs (val l).toNat
  | [], _, _ => by simp [val, limbs_zero]
  | d :: l, hd, hl => by
    have h0 := val_nonneg hd.tail
    obtain ⟨h1, h2⟩ := hd d List.mem_cons_self
    have hne : (val (d :: l)).toNat ≠ 0 := by
      cases l with
      | nil =>
        have := hl (by simp)
        simp only [List.getLast_singleton] at this
        simp only [val]; omega
      | cons e m =>
        have hv : val (e :: m) ≠ 0 := by
          intro hz
          have := limbs_val (e :: m) hd.tail (fun h => by simpa using hl (by simp))
          rw [hz] at this
          simp [limbs_zero] at this
        rw [val]; omega
    rw [limbs_pos hne]
    have e1 : ((val (d :: l)).toNat % 1000000000 : Nat) = d.toNat := by rw [val]; omega
    have e2 : (val (d :: l)).toNat / 1000000000 = (val l).toNat := by rw [val]; omega
    rw [e1, e2, ← limbs_val l hd.tail (fun h => by
      have := hl (by simp)
      rwa [List.getLast_cons h] at this)]
    congr 1
    omega

/-- What is left where the noughts at the end are cut off: the digits. -/
theorem limbs_take {l : List Int} (hd : Dig l) {k : Nat} (hk : k ≤ l.length) (hz : ∀ j, k ≤ j → j < l.length → l[j]?.getD 0 = 0) (hn : k = 0 ∨ l[k - 1]?.getD 0 ≠ 0) :
    l.take k = limbs (val l).toNat := by
  have hv : val l = val (l.take k) := by
    conv => lhs; rw [← List.take_append_drop k l, val_append]
    have : val (l.drop k) = 0 := by
      have hall : ∀ x ∈ l.drop k, x = 0 := by
        intro x hx
        obtain ⟨j, hj, rfl⟩ := List.getElem_of_mem hx
        rw [List.length_drop] at hj
        have := hz (k + j) (by omega) (by omega)
        rw [List.getElem_drop]
        rwa [List.getElem?_eq_getElem (by omega)] at this
      generalize l.drop k = m at hall
      induction m with
      | nil => rfl
      | cons x m ih =>
        rw [val, hall x List.mem_cons_self, ih fun y hy => hall y (List.mem_cons_of_mem _ hy)]
        rfl
    rw [this]; omega
  rw [hv]
  refine limbs_val _ (hd.take k) fun h => ?_
  rcases hn with rfl | hn
  · simp at h
  · have hlen : (l.take k).length = k := by rw [List.length_take]; omega
    have hk0 : 0 < k := by
      rcases Nat.eq_zero_or_pos k with rfl | h'
      · simp at h
      · exact h'
    rw [List.getLast_eq_getElem]
    simp only [hlen, List.getElem_take]
    rwa [List.getElem?_eq_getElem (by omega)] at hn

theorem limbs_eq_nil {n : Nat} : limbs n = [] ↔ n = 0 := by
  constructor
  · intro h
    by_cases hn : n = 0
    · exact hn
    · rw [limbs_pos hn] at h; cases h
  · rintro rfl; exact limbs_zero

theorem val_lt {l : List Int} (h : Dig l) : val l < 1000000000 ^ l.length := by
  induction l with
  | nil => simp [val]
  | cons d l ih =>
    have h1 := ih h.tail
    have h2 := (h d List.mem_cons_self).2
    rw [val, List.length_cons, Int.pow_succ]
    have : (1000000000 : Int) ^ l.length * 1000000000 = 1000000000 * 1000000000 ^ l.length := Int.mul_comm _ _
    omega

/-- The last digit is no nought: so a number of k digits is at least base to the k-1. -/
theorem limbs_ge (n : Nat) (h : n ≠ 0) : (1000000000 : Int) ^ ((limbs n).length - 1) ≤ n := by
  induction n using Nat.strongRecOn with
  | _ n ih =>
    rw [limbs_pos h, List.length_cons, Nat.add_sub_cancel]
    by_cases h0 : n / 1000000000 = 0
    · rw [h0, limbs_zero]; simp; omega
    · have hi := ih (n / 1000000000) (by omega) h0
      have hl : 0 < (limbs (n / 1000000000)).length := by
        rcases Nat.eq_zero_or_pos (limbs (n / 1000000000)).length with e | e
        · exact absurd (limbs_eq_nil.1 (List.length_eq_zero_iff.1 e)) h0
        · exact e
      obtain ⟨m, hm⟩ : ∃ m, (limbs (n / 1000000000)).length = m + 1 := ⟨(limbs (n / 1000000000)).length - 1, by omega⟩
      rw [hm] at hi ⊢
      simp only [Nat.add_sub_cancel] at hi
      rw [Int.pow_succ]
      omega


/-! ### The decimal numeral -/

/-- What a row of figures spells. -/
def dv (l : List UInt8) : Nat := l.foldl (fun a c => 10 * a + (c.toNat - 48)) 0

theorem dv_nil : dv [] = 0 := rfl
theorem dv_snoc (l : List UInt8) (c : UInt8) : dv (l ++ [c]) = 10 * dv l + (c.toNat - 48) := by simp [dv]

theorem foldl_dv (l : List UInt8) (a : Nat) : l.foldl (fun a c => 10 * a + (c.toNat - 48)) a = a * 10 ^ l.length + dv l := by
  induction l generalizing a with
  | nil => simp [dv]
  | cons c l ih =>
    have e : dv (c :: l) = (10 * 0 + (c.toNat - 48)) * 10 ^ l.length + dv l := by
      rw [← ih]; rfl
    rw [List.foldl_cons, ih, e, List.length_cons, Nat.pow_succ]
    grind

theorem dv_append (l m : List UInt8) : dv (l ++ m) = dv l * 10 ^ m.length + dv m := by
  rw [dv, List.foldl_append, foldl_dv]; rfl

def Figs (l : List UInt8) : Prop := ∀ c ∈ l, 48 ≤ c.toNat ∧ c.toNat ≤ 57

theorem Figs.append {l m : List UInt8} (h : Figs l) (k : Figs m) : Figs (l ++ m) := fun c hc => (List.mem_append.1 hc).elim (h c) (k c)
theorem Figs.left {l m : List UInt8} (h : Figs (l ++ m)) : Figs l := fun c hc => h c (List.mem_append_left _ hc)
theorem Figs.right {l m : List UInt8} (h : Figs (l ++ m)) : Figs m := fun c hc => h c (List.mem_append_right _ hc)

theorem dv_lt {l : List UInt8} (h : Figs l) : dv l < 10 ^ l.length := by
  induction l with
  | nil => simp [dv]
  | cons c l ih =>
    have h1 := ih fun x hx => h x (List.mem_cons_of_mem _ hx)
    have h2 := h c List.mem_cons_self
    have e : dv (c :: l) = (c.toNat - 48) * 10 ^ l.length + dv l := by
      rw [show c :: l = [c] ++ l from rfl, dv_append]
      simp [dv]
    rw [e, List.length_cons, Nat.pow_succ]
    have : (c.toNat - 48) * 10 ^ l.length ≤ 9 * 10 ^ l.length := Nat.mul_le_mul_right _ (by omega)
    omega

theorem toNat_fig (d : Nat) (h : d < 10) : (UInt8.ofNat (48 + d)).toNat = 48 + d := by
  simp; omega

theorem fig_toNat {c : UInt8} (h : 48 ≤ c.toNat ∧ c.toNat ≤ 57) : UInt8.ofNat (48 + (c.toNat - 48)) = c := by
  apply UInt8.toNat_inj.1
  rw [toNat_fig _ (by omega)]; omega

theorem figs_decDigits (u : Nat) : Figs (decDigits u) := by
  induction u using Nat.strongRecOn with
  | _ u ih =>
    by_cases h : u < 10
    · rw [decDigits, dif_pos h]
      intro c hc
      rw [List.mem_singleton.1 hc, toNat_fig _ h]; omega
    · rw [decDigits, dif_neg h]
      refine (ih _ (by omega)).append ?_
      intro c hc
      rw [List.mem_singleton.1 hc, toNat_fig _ (by omega)]; omega

theorem dv_decDigits (u : Nat) : dv (decDigits u) = u := by
  induction u using Nat.strongRecOn with
  | _ u ih =>
    by_cases h : u < 10
    · rw [decDigits, dif_pos h]
      simp only [dv, List.foldl_cons, List.foldl_nil, toNat_fig _ h]; omega
    · rw [decDigits, dif_neg h, dv_snoc, ih _ (by omega), toNat_fig _ (by omega)]; omega

theorem decDigits_ne (u : Nat) : decDigits u ≠ [] := by
  rw [decDigits]; split <;> simp

/-- A numeral without noughts ahead. -/
def Canon (l : List UInt8) : Prop := l = [48] ∨ (l ≠ [] ∧ l.head? ≠ some 48 ∧ Figs l)

theorem canon_decDigits (u : Nat) : Canon (decDigits u) := by
  induction u using Nat.strongRecOn with
  | _ u ih =>
    by_cases h : u < 10
    · by_cases h0 : u = 0
      · subst h0; left; rw [decDigits, dif_pos h]; rfl
      · right
        refine ⟨decDigits_ne u, ?_, figs_decDigits u⟩
        rw [decDigits, dif_pos h]
        simp only [List.head?_cons, ne_eq, Option.some.injEq]
        intro e
        have := congrArg UInt8.toNat e
        rw [toNat_fig _ h] at this
        simp at this; omega
    · right
      refine ⟨decDigits_ne u, ?_, figs_decDigits u⟩
      rcases ih (u / 10) (by omega) with e | ⟨hne, hh, _⟩
      · have := dv_decDigits (u / 10)
        rw [e] at this
        simp [dv] at this; omega
      · rw [decDigits, dif_neg h]
        cases hl : decDigits (u / 10) with
        | nil => exact absurd hl hne
        | cons x l => rw [hl] at hh; simpa using hh

theorem Canon.figs {l : List UInt8} (h : Canon l) : Figs l := by
  rcases h with rfl | ⟨_, _, h⟩
  · intro c hc; rw [List.mem_singleton.1 hc]; simp
  · exact h

theorem dv_pos {l : List UInt8} (hne : l ≠ []) (hh : l.head? ≠ some 48) (hf : Figs l) : 0 < dv l := by
  cases l with
  | nil => exact absurd rfl hne
  | cons c l =>
    have h2 := hf c List.mem_cons_self
    have : c.toNat ≠ 48 := fun e => hh (by
      simp only [List.head?_cons, Option.some.injEq]
      exact UInt8.toNat_inj.1 (by simpa using e))
    rw [show c :: l = [c] ++ l from rfl, dv_append]
    have hp : 0 < 10 ^ l.length := Nat.pow_pos (by decide)
    have : dv [c] = c.toNat - 48 := by simp [dv]
    rw [this]
    have : 1 * 10 ^ l.length ≤ (c.toNat - 48) * 10 ^ l.length := Nat.mul_le_mul_right _ (by omega)
    omega

/-- Two numerals without noughts ahead that spell the same are the same. -/
theorem canon_eq {l : List UInt8} (h : Canon l) : l = decDigits (dv l) := by
  suffices ∀ (n : Nat) (l : List UInt8), l.length = n → Canon l → l = decDigits (dv l) from this _ l rfl h
  intro n
  induction n with
  | zero =>
    intro l hl h
    rcases h with rfl | ⟨hne, _⟩
    · simp at hl
    · exact absurd (List.length_eq_zero_iff.1 hl) hne
  | succ n ih =>
    intro l hl h
    rcases h with rfl | ⟨hne, hh, hf⟩
    · rw [decDigits]; simp [dv]
    · rcases List.eq_nil_or_concat l with rfl | ⟨m, c, rfl⟩
      · exact absurd rfl hne
      · simp only [List.concat_eq_append] at *
        have hc := hf c (by simp)
        have hm : Figs m := hf.left
        rw [dv_snoc]
        by_cases e : m = []
        · subst e
          rw [dv_nil, decDigits, dif_pos (by omega)]
          simp only [List.nil_append, Nat.mul_zero, Nat.zero_add]
          rw [fig_toNat hc]
        · have hh' : m.head? ≠ some 48 := by
            cases m with
            | nil => exact absurd rfl e
            | cons x m => simpa using hh
          have hp := dv_pos e hh' hm
          rw [decDigits, dif_neg (by omega)]
          have e1 : (10 * dv m + (c.toNat - 48)) / 10 = dv m := by omega
          have e2 : (10 * dv m + (c.toNat - 48)) % 10 = c.toNat - 48 := by omega
          rw [e1, e2, ← ih m (by simpa using hl) (.inr ⟨e, hh', hm⟩), fig_toNat hc]

/-! ### A number that is written -/

def figB (c : UInt8) : Bool := decide (48 ≤ c.toNat ∧ c.toNat ≤ 57)
/-- lit.Plain. -/
def plainB (l : List UInt8) : Bool := l.all figB && (l == [48] || (!l.isEmpty && decide (l.length ≤ 200) && !(l.head? == some 48)))

theorem plainB_canon {l : List UInt8} (h : plainB l = true) : Canon l := by
  simp only [plainB, Bool.and_eq_true, Bool.or_eq_true, List.all_eq_true, figB, decide_eq_true_eq, Bool.not_eq_true', beq_iff_eq, List.isEmpty_eq_false_iff, beq_eq_false_iff_ne, ne_eq] at h
  rcases h with ⟨hf, h | ⟨⟨h1, _⟩, h2⟩⟩
  · exact .inl h
  · exact .inr ⟨h1, h2, hf⟩

theorem plainB_of_canon {l : List UInt8} (h : Canon l) (hl : l.length ≤ 200) : plainB l = true := by
  have hf := h.figs
  simp only [plainB, Bool.and_eq_true, Bool.or_eq_true, List.all_eq_true, figB, decide_eq_true_eq, Bool.not_eq_true', beq_iff_eq, List.isEmpty_eq_false_iff, beq_eq_false_iff_ne, ne_eq]
  refine ⟨hf, ?_⟩
  rcases h with h | ⟨h1, h2, _⟩
  · exact .inl h
  · exact .inr ⟨⟨h1, hl⟩, h2⟩

/-- What stands behind a sign, and whether there is one. -/
def cutMinus (s : List UInt8) : List UInt8 × Bool := if s.head? = some 45 then (s.tail, true) else (s, false)

/-- The number that a text writes, of at most 160 figures. -/
def num? (s : List UInt8) : Option Int :=
  if plainB (cutMinus s).1 = true ∧ (cutMinus s).1.length ≤ 160 ∧ s ≠ [45, 48] then some (if (cutMinus s).2 then -(dv (cutMinus s).1 : Int) else dv (cutMinus s).1) else none

theorem figs_head {l : List UInt8} (h : Figs l) : l.head? ≠ some 45 := by
  cases l with
  | nil => simp
  | cons c l =>
    have := h c List.mem_cons_self
    simp only [List.head?_cons, ne_eq, Option.some.injEq]
    rintro rfl
    simp at this

theorem num?_itoa (v : Int) (h : nDigits v.natAbs ≤ 160) : num? (itoa v) = some v := by
  unfold itoa
  by_cases hv : v < 0
  · rw [if_pos hv]
    have hc : cutMinus (45 :: decDigits v.natAbs) = (decDigits v.natAbs, true) := by simp [cutMinus]
    rw [num?, hc, if_pos, dv_decDigits]
    · simp only [if_true, Option.some.injEq]; omega
    · refine ⟨plainB_of_canon (canon_decDigits _) (by rw [decDigits_length]; omega), by rw [decDigits_length]; exact h, ?_⟩
      intro e
      have : dv (decDigits v.natAbs) = dv [48] := by rw [(List.cons.inj e).2]
      rw [dv_decDigits] at this
      simp [dv] at this; omega
  · rw [if_neg hv]
    have hc : cutMinus (decDigits v.toNat) = (decDigits v.toNat, false) := by
      rw [cutMinus, if_neg (figs_head (figs_decDigits _))]
    have e : v.natAbs = v.toNat := by omega
    rw [e] at h
    rw [num?, hc, if_pos, dv_decDigits]
    · simp only [Bool.false_eq_true, if_false, Option.some.injEq]; omega
    · refine ⟨plainB_of_canon (canon_decDigits _) (by rw [decDigits_length]; omega), by rw [decDigits_length]; exact h, ?_⟩
      intro e
      have := figs_head (figs_decDigits v.toNat)
      rw [e] at this; simp at this

theorem num?_some {s : List UInt8} {v : Int} (h : num? s = some v) : s = itoa v ∧ nDigits v.natAbs ≤ 160 := by
  unfold num? at h
  split at h
  · rename_i hh
    obtain ⟨h1, h2, h3⟩ := hh
    have hc := plainB_canon h1
    have he := canon_eq hc
    by_cases hm : s.head? = some 45
    · have hcut : cutMinus s = (s.tail, true) := by rw [cutMinus, if_pos hm]
      rw [hcut] at h hc he h2
      simp only [if_true, Option.some.injEq] at h
      have hs : s = 45 :: s.tail := by
        cases s with
        | nil => simp at hm
        | cons c s => simp at hm; subst hm; rfl
      have hne : dv s.tail ≠ 0 := by
        change Canon s.tail at hc
        rcases hc with e | ⟨a, b, c⟩
        · exact absurd (by rw [hs, e]) h3
        · have := dv_pos a b c; omega
      simp only at he h2
      subst h
      have e1 : (-(dv s.tail : Int)).natAbs = dv s.tail := by omega
      refine ⟨?_, by rw [e1, ← decDigits_length, ← he]; exact h2⟩
      rw [itoa, if_pos (by omega), e1, ← he]; exact hs
    · have hcut : cutMinus s = (s, false) := by rw [cutMinus, if_neg hm]
      rw [hcut] at h hc he h2
      simp only [Bool.false_eq_true, if_false, Option.some.injEq] at h
      simp only at he h2
      subst h
      have e1 : (dv s : Int).natAbs = dv s := by omega
      refine ⟨?_, by rw [e1, ← decDigits_length, ← he]; exact h2⟩
      rw [itoa, if_neg (by omega), show ((dv s : Int)).toNat = dv s by omega, ← he]
  · cases h

/-- 2 to a power, behind a name. -/
def twoPow (m : Nat) : Nat := 2 ^ m
/-- 2 to the 512. -/
def lim : Nat := twoPow 512
theorem twoPow_le {k m : Nat} (h : k ≤ m) : twoPow k ≤ twoPow m := Nat.pow_le_pow_right (by decide) h
theorem twoPow_succ (k : Nat) : twoPow (k + 1) = twoPow k + twoPow k := by unfold twoPow; rw [Nat.pow_succ]; omega

/-- The number that a text writes, within the limit. -/
def right? (s : List UInt8) : Option Int := (num? s).filter fun v => decide (v.natAbs < lim)

theorem nDigits_ge : ∀ (k u : Nat), k + 1 ≤ nDigits u → k = 0 ∨ 10 ^ k ≤ u
  | 0, _, _ => .inl rfl
  | k + 1, u, h => by
    right
    by_cases hu : u < 10
    · rw [nDigits_small hu] at h; omega
    · rw [nDigits_big hu] at h
      rcases nDigits_ge k (u / 10) (by omega) with rfl | h'
      · simp; omega
      · rw [Nat.pow_succ]; omega

theorem nDigits_lt {k u : Nat} (h : u < 10 ^ k) (hk : 0 < k) : nDigits u ≤ k := by
  rcases Nat.lt_or_ge k (nDigits u) with h' | h'
  · rcases nDigits_ge k u h' with e | e <;> omega
  · exact h'

theorem lim_digits : lim < 10 ^ 155 := by decide +kernel

theorem nDigits_right {u : Nat} (h : u < lim) : nDigits u ≤ 155 := nDigits_lt (Nat.lt_trans h lim_digits) (by decide)

theorem right?_itoa {v : Int} (h : v.natAbs < lim) : right? (itoa v) = some v := by
  have := nDigits_right h
  rw [right?, num?_itoa v (by omega)]
  simp [Option.filter, h]

theorem right?_some {s : List UInt8} {v : Int} (h : right? s = some v) : s = itoa v ∧ v.natAbs < lim := by
  unfold right? at h
  cases hn : num? s with
  | none => rw [hn] at h; cases h
  | some u =>
    rw [hn] at h
    simp only [Option.filter] at h
    split at h
    · rename_i hu
      cases h
      exact ⟨(num?_some hn).1, by simpa using hu⟩
    · cases h

theorem itoa_inj {u v : Int} (h : itoa u = itoa v) : u = v := by
  have key : ∀ {a b : Int}, itoa a = itoa b → a < 0 → b < 0 := by
    intro a b h ha
    rw [itoa, if_pos ha, itoa] at h
    by_cases hb : b < 0
    · exact hb
    · rw [if_neg hb] at h
      have := figs_head (figs_decDigits b.toNat)
      rw [← h] at this; simp at this
  by_cases hu : u < 0
  · have hv := key h hu
    rw [itoa, if_pos hu, itoa, if_pos hv] at h
    have := congrArg dv (List.cons.inj h).2
    rw [dv_decDigits, dv_decDigits] at this; omega
  · by_cases hv : v < 0
    · exact absurd (key h.symm hv) hu
    · rw [itoa, if_neg hu, itoa, if_neg hv] at h
      have := congrArg dv h
      rw [dv_decDigits, dv_decDigits] at this; omega

end Go.Proofs.YtjfmefdhfboliaaDoor.Num
