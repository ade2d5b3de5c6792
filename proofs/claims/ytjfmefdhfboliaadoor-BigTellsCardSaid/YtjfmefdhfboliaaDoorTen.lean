/- Plain laws on rows of figures of base ten (written by a program out of the same laws at the greater base). No program in sight. -/
import Derived.Lib.ItoaNum
namespace Go.Proofs.YtjfmefdhfboliaaDoor.Ten
open Go.Lib

/-! ### Digits of base ten, the lowest first -/

/-- What a row of digits is worth. -/
def val : List Int → Int
  | [] => 0
  | d :: l => d + 10 * val l

/-- The digits of a number, without noughts at the end. -/
def limbs (n : Nat) : List Int :=
  if h : n = 0 then [] else ((n % 10 : Nat) : Int) :: limbs (n / 10)
  termination_by n
  decreasing_by omega

def Dig (l : List Int) : Prop := ∀ d ∈ l, 0 ≤ d ∧ d < 10

theorem limbs_zero : limbs 0 = [] := by rw [limbs, dif_pos rfl]
theorem limbs_pos {n : Nat} (h : n ≠ 0) : limbs n = ((n % 10 : Nat) : Int) :: limbs (n / 10) := by rw [limbs, dif_neg h]

theorem val_limbs (n : Nat) : val (limbs n) = n := by
  induction n using Nat.strongRecOn with
  | _ n ih =>
    by_cases h : n = 0
    · subst h; rw [limbs_zero]; rfl
    · rw [limbs_pos h, val, ih (n / 10) (by omega)]
      omega

theorem dig_limbs (n : Nat) : Dig (limbs n) := by
  induction n using Nat.strongRecOn with
  | _ n ih =>
    by_cases h : n = 0
    · subst h; rw [limbs_zero]; intro d hd; cases hd
    · rw [limbs_pos h]
      intro d hd
      rcases List.mem_cons.1 hd with rfl | hd
      · omega
      · exact ih (n / 10) (by omega) d hd

theorem val_nonneg {l : List Int} (h : Dig l) : 0 ≤ val l := by
  induction l with
  | nil => exact Int.le_refl _
  | cons d l ih =>
    have := ih fun x hx => h x (List.mem_cons_of_mem _ hx)
    have := (h d List.mem_cons_self).1
    unfold val; omega

theorem Dig.tail {d : Int} {l : List Int} (h : Dig (d :: l)) : Dig l := fun x hx => h x (List.mem_cons_of_mem _ hx)
theorem Dig.append {l m : List Int} (h : Dig l) (k : Dig m) : Dig (l ++ m) := fun x hx => (List.mem_append.1 hx).elim (h x) (k x)
theorem Dig.take {l : List Int} (h : Dig l) (k : Nat) : Dig (l.take k) := fun x hx => h x (List.mem_of_mem_take hx)

theorem val_append (l m : List Int) : val (l ++ m) = val l + 10 ^ l.length * val m := by
  induction l with
  | nil => simp [val]
  | cons d l ih =>
    rw [List.cons_append, val, ih, val, List.length_cons, Int.pow_succ]
    rw [Int.mul_add, Int.mul_comm (10 ^ l.length) 10, Int.mul_assoc, ← Int.add_assoc]

/-- A row without a nought at its end is the digits of what it is worth. -/
theorem limbs_val : ∀ (l : List Int), Dig l → (∀ h : l ≠ [], l.getLast h ≠ 0) → l = limbs (val l).toNat
  | [], _, _ => by simp [val, limbs_zero]
  | d :: l, hd, hl => by
    have h0 := val_nonneg hd.tail
    obtain ⟨h1, h2⟩ := hd d List.mem_cons_self
    have hne : (val (d :: l)).toNat ≠ 0 := by
      cases l with
      | nil =>
        have := hl (by simp)
        simp only [List.getLast_singleton] at this
        simp only [val]; omega
      | cons e m =>
        have hv : val (e :: m) ≠ 0 := by
          intro hz
          have := limbs_val (e :: m) hd.tail (fun h => by simpa using hl (by simp))
          rw [hz] at this
          simp [limbs_zero] at this
        rw [val]; omega
    rw [limbs_pos hne]
    have e1 : ((val (d :: l)).toNat % 10 : Nat) = d.toNat := by rw [val]; omega
    have e2 : (val (d :: l)).toNat / 10 = (val l).toNat := by rw [val]; omega
    rw [e1, e2, ← limbs_val l hd.tail (fun h => by
      have := hl (by simp)
      rwa [List.getLast_cons h] at this)]
    congr 1
    omega

/-- What is left where the noughts at the end are cut off: the digits. -/
theorem limbs_take {l : List Int} (hd : Dig l) {k : Nat} (hk : k ≤ l.length) (hz : ∀ j, k ≤ j → j < l.length → l[j]?.getD 0 = 0) (hn : k = 0 ∨ l[k - 1]?.getD 0 ≠ 0) :
    l.take k = limbs (val l).toNat := by
  have hv : val l = val (l.take k) := by
    conv => lhs; rw [← List.take_append_drop k l, val_append]
    have : val (l.drop k) = 0 := by
      have hall : ∀ x ∈ l.drop k, x = 0 := by
        intro x hx
        obtain ⟨j, hj, rfl⟩ := List.getElem_of_mem hx
        rw [List.length_drop] at hj
        have := hz (k + j) (by omega) (by omega)
        rw [List.getElem_drop]
        rwa [List.getElem?_eq_getElem (by omega)] at this
      generalize l.drop k = m at hall
      induction m with
      | nil => rfl
      | cons x m ih =>
        rw [val, hall x List.mem_cons_self, ih fun y hy => hall y (List.mem_cons_of_mem _ hy)]
        rfl
    rw [this]; omega
  rw [hv]
  refine limbs_val _ (hd.take k) fun h => ?_
  rcases hn with rfl | hn
  · simp at h
  · have hlen : (l.take k).length = k := by rw [List.length_take]; omega
    have hk0 : 0 < k := by
      rcases Nat.eq_zero_or_pos k with rfl | h'
      · simp at h
      · exact h'
    rw [List.getLast_eq_getElem]
    simp only [hlen, List.getElem_take]
    rwa [List.getElem?_eq_getElem (by omega)] at hn

theorem limbs_eq_nil {n : Nat} : limbs n = [] ↔ n = 0 := by
  constructor
  · intro h
    by_cases hn : n = 0
    · exact hn
    · rw [limbs_pos hn] at h; cases h
  · rintro rfl; exact limbs_zero

theorem val_lt {l : List Int} (h : Dig l) : val l < 10 ^ l.length := by
  induction l with
  | nil => simp [val]
  | cons d l ih =>
    have h1 := ih h.tail
    have h2 := (h d List.mem_cons_self).2
    rw [val, List.length_cons, Int.pow_succ]
    have : (10 : Int) ^ l.length * 10 = 10 * 10 ^ l.length := Int.mul_comm _ _
    omega

/-- The last digit is no nought: so a number of k digits is at least base to the k-1. -/
theorem limbs_ge (n : Nat) (h : n ≠ 0) : (10 : Int) ^ ((limbs n).length - 1) ≤ n := by
  induction n using Nat.strongRecOn with
  | _ n ih =>
    rw [limbs_pos h, List.length_cons, Nat.add_sub_cancel]
    by_cases h0 : n / 10 = 0
    · rw [h0, limbs_zero]; simp; omega
    · have hi := ih (n / 10) (by omega) h0
      have hl : 0 < (limbs (n / 10)).length := by
        rcases Nat.eq_zero_or_pos (limbs (n / 10)).length with e | e
        · exact absurd (limbs_eq_nil.1 (List.length_eq_zero_iff.1 e)) h0
        · exact e
      obtain ⟨m, hm⟩ : ∃ m, (limbs (n / 10)).length = m + 1 := ⟨(limbs (n / 10)).length - 1, by omega⟩
      rw [hm] at hi ⊢
      simp only [Nat.add_sub_cancel] at hi
      rw [Int.pow_succ]
      omega



/-- A digit of a row; 0 beyond it. -/
def D (l : List Int) (i : Nat) : Int := l[i]?.getD 0

theorem D_dig {l : List Int} (h : Dig l) (i : Nat) : 0 ≤ D l i ∧ D l i < 10 := by
  unfold D
  by_cases hi : i < l.length
  · rw [List.getElem?_eq_getElem hi]
    exact h _ (List.getElem_mem hi)
  · rw [List.getElem?_eq_none (by omega)]
    simp

theorem val_take_succ (l : List Int) (k : Nat) : val (l.take (k + 1)) = val (l.take k) + 10 ^ k * D l k := by
  by_cases hk : k < l.length
  · rw [List.take_succ_eq_append_getElem hk, val_append, List.length_take, Nat.min_eq_left (by omega)]
    simp [val, D, List.getElem?_eq_getElem hk]
  · rw [List.take_of_length_le (by omega), List.take_of_length_le (by omega)]
    simp [D, List.getElem?_eq_none (Nat.le_of_not_lt hk)]

theorem val_set {l : List Int} {j : Nat} (v : Int) (hj : j < l.length) : val (l.set j v) = val l + (v - D l j) * 10 ^ j := by
  induction l generalizing j with
  | nil => simp at hj
  | cons d l ih =>
    cases j with
    | zero => simp [val, D]; omega
    | succ j =>
      have := ih (j := j) (by simpa using hj)
      rw [List.set_cons_succ, val, this, val, Int.pow_succ]
      have e : D (d :: l) (j + 1) = D l j := by simp [D]
      rw [e]
      grind

theorem Dig.set {l : List Int} (h : Dig l) (j : Nat) {v : Int} (h0 : 0 ≤ v) (h1 : v < 10) : Dig (l.set j v) := fun x hx => by
  rcases List.mem_or_eq_of_mem_set hx with hx | rfl
  · exact h x hx
  · exact ⟨h0, h1⟩

theorem pow_le_B {a b : Nat} (h : a ≤ b) : (10 : Int) ^ a ≤ 10 ^ b := by
  obtain ⟨d, rfl⟩ : ∃ d, b = a + d := ⟨b - a, by omega⟩
  have h1 : (0 : Int) < 10 ^ a := Int.pow_pos (by decide)
  have h2 : (0 : Int) < 10 ^ d := Int.pow_pos (by decide)
  rw [Int.pow_add]
  have := Int.mul_le_mul_of_nonneg_left (a := 1) (b := (10 : Int) ^ d) (c := 10 ^ a) (by omega) (Int.le_of_lt h1)
  omega

theorem pow_pos_B (k : Nat) : 0 < (10 : Int) ^ k := Int.pow_pos (by decide)

/-! ### The sum -/

def addTo (a b : List Int) : Nat → List Int × Int
  | 0 => ([], 0)
  | k + 1 => ((addTo a b k).1 ++ [(D a k + D b k + (addTo a b k).2) % 10], (D a k + D b k + (addTo a b k).2) / 10)

theorem addTo_inv {a b : List Int} (ha : Dig a) (hb : Dig b) (k : Nat) :
    (addTo a b k).1.length = k ∧ Dig (addTo a b k).1 ∧ 0 ≤ (addTo a b k).2 ∧ (addTo a b k).2 ≤ 1 ∧
      val (addTo a b k).1 + 10 ^ k * (addTo a b k).2 = val (a.take k) + val (b.take k) := by
  induction k with
  | zero => exact ⟨rfl, (fun d hd => by cases hd), Int.le_refl _, Int.le_of_lt Int.one_pos, by simp [addTo, val]⟩
  | succ k ih =>
    obtain ⟨h1, h2, h3, h4, h5⟩ := ih
    have da := D_dig ha k
    have db := D_dig hb k
    refine ⟨by simp [addTo, h1], ?_, by simp only [addTo]; omega, by simp only [addTo]; omega, ?_⟩
    · refine h2.append fun d hd => ?_
      rw [List.mem_singleton.1 hd]; omega
    · rw [val_take_succ, val_take_succ]
      simp only [addTo]
      rw [val_append, h1, Int.pow_succ]
      simp only [val]
      have := Int.emod_add_mul_ediv (D a k + D b k + (addTo a b k).2) 10
      generalize (D a k + D b k + (addTo a b k).2) % 10 = m at *
      generalize (D a k + D b k + (addTo a b k).2) / 10 = q at *
      grind

/-- added(a, b) -/
def addL (a b : List Int) : List Int := (addTo a b (max a.length b.length + 1)).1

theorem dig_addL {a b : List Int} (ha : Dig a) (hb : Dig b) : Dig (addL a b) := (addTo_inv ha hb _).2.1

theorem val_addL {a b : List Int} (ha : Dig a) (hb : Dig b) : val (addL a b) = val a + val b := by
  obtain ⟨h1, h2, h3, h4, h5⟩ := addTo_inv ha hb (max a.length b.length + 1)
  rw [List.take_of_length_le (by omega), List.take_of_length_le (by omega)] at h5
  have va := val_lt ha
  have vb := val_lt hb
  have pa : (10 : Int) ^ a.length ≤ 10 ^ max a.length b.length := pow_le_B (Nat.le_max_left _ _)
  have pb : (10 : Int) ^ b.length ≤ 10 ^ max a.length b.length := pow_le_B (Nat.le_max_right _ _)
  have hn := val_nonneg h2
  have hp := pow_pos_B (max a.length b.length)
  have hc : (addTo a b (max a.length b.length + 1)).2 = 0 := by
    rcases (show (addTo a b (max a.length b.length + 1)).2 = 0 ∨ (addTo a b (max a.length b.length + 1)).2 = 1 by omega) with e | e
    · exact e
    · rw [e, Int.pow_succ] at h5
      omega
  rw [hc] at h5
  unfold addL
  omega

/-! ### The difference -/

def takeTo (a b : List Int) : Nat → List Int × Int
  | 0 => ([], 0)
  | k + 1 => if D a k - D b k - (takeTo a b k).2 < 0 then ((takeTo a b k).1 ++ [D a k - D b k - (takeTo a b k).2 + 10], 1)
    else ((takeTo a b k).1 ++ [D a k - D b k - (takeTo a b k).2], 0)

theorem takeTo_inv {a b : List Int} (ha : Dig a) (hb : Dig b) (k : Nat) :
    (takeTo a b k).1.length = k ∧ Dig (takeTo a b k).1 ∧ 0 ≤ (takeTo a b k).2 ∧ (takeTo a b k).2 ≤ 1 ∧
      val (takeTo a b k).1 + val (b.take k) = val (a.take k) + 10 ^ k * (takeTo a b k).2 := by
  induction k with
  | zero => exact ⟨rfl, (fun d hd => by cases hd), Int.le_refl _, Int.le_of_lt Int.one_pos, by simp [takeTo, val]⟩
  | succ k ih =>
    obtain ⟨h1, h2, h3, h4, h5⟩ := ih
    have da := D_dig ha k
    have db := D_dig hb k
    by_cases hlt : D a k - D b k - (takeTo a b k).2 < 0
    · simp only [takeTo, if_pos hlt]
      refine ⟨by simp [h1], ?_, by omega, by omega, ?_⟩
      · refine h2.append fun d hd => ?_
        rw [List.mem_singleton.1 hd]; omega
      · rw [val_take_succ, val_take_succ, val_append, h1, Int.pow_succ]
        simp only [val]
        grind
    · simp only [takeTo, if_neg hlt]
      refine ⟨by simp [h1], ?_, by omega, by omega, ?_⟩
      · refine h2.append fun d hd => ?_
        rw [List.mem_singleton.1 hd]; omega
      · rw [val_take_succ, val_take_succ, val_append, h1]
        simp only [val]
        grind

/-- taken(a, b) -/
def takeL (a b : List Int) : List Int := (takeTo a b a.length).1

theorem dig_takeL {a b : List Int} (ha : Dig a) (hb : Dig b) : Dig (takeL a b) := (takeTo_inv ha hb _).2.1

theorem val_takeL {a b : List Int} (ha : Dig a) (hb : Dig b) (hl : b.length ≤ a.length) (hv : val b ≤ val a) : val (takeL a b) = val a - val b := by
  obtain ⟨h1, h2, h3, h4, h5⟩ := takeTo_inv ha hb a.length
  rw [List.take_of_length_le (by omega), List.take_of_length_le (by omega)] at h5
  have hn := val_lt h2
  rw [h1] at hn
  have hc : (takeTo a b a.length).2 = 0 := by
    rcases (show (takeTo a b a.length).2 = 0 ∨ (takeTo a b a.length).2 = 1 by omega) with e | e
    · exact e
    · rw [e] at h5; omega
  rw [hc] at h5
  unfold takeL
  omega

/-! ### The product -/

def rowTo (out b : List Int) (x : Int) (i : Nat) : Nat → List Int × Int
  | 0 => (out, 0)
  | k + 1 => ((rowTo out b x i k).1.set (i + k) ((D (rowTo out b x i k).1 (i + k) + x * D b k + (rowTo out b x i k).2) % 10),
      (D (rowTo out b x i k).1 (i + k) + x * D b k + (rowTo out b x i k).2) / 10)

theorem mul_dig {x y : Int} (hx : 0 ≤ x ∧ x < 10) (hy : 0 ≤ y ∧ y < 10) : 0 ≤ x * y ∧ x * y ≤ 81 := by
  refine ⟨Int.mul_nonneg hx.1 hy.1, ?_⟩
  have : x * y ≤ 9 * 9 := Int.mul_le_mul (by omega) (by omega) hy.1 (by decide)
  omega

theorem rowTo_inv {out b : List Int} {x : Int} {i : Nat} (ho : Dig out) (hb : Dig b) (hx : 0 ≤ x ∧ x < 10) (k : Nat) (hk : i + k ≤ out.length) :
    (rowTo out b x i k).1.length = out.length ∧ Dig (rowTo out b x i k).1 ∧ 0 ≤ (rowTo out b x i k).2 ∧ (rowTo out b x i k).2 < 10 ∧
      val (rowTo out b x i k).1 + (rowTo out b x i k).2 * 10 ^ (i + k) = val out + x * val (b.take k) * 10 ^ i := by
  induction k with
  | zero => exact ⟨rfl, ho, by simp [rowTo], by simp [rowTo], by simp [rowTo, val]⟩
  | succ k ih =>
    obtain ⟨h1, h2, h3, h4, h5⟩ := ih (by omega)
    have dr := D_dig h2 (i + k)
    have db := mul_dig hx (D_dig hb k)
    have hn : 0 ≤ D (rowTo out b x i k).1 (i + k) + x * D b k + (rowTo out b x i k).2 ∧ D (rowTo out b x i k).1 (i + k) + x * D b k + (rowTo out b x i k).2 < 10 * 10 := by omega
    refine ⟨by simp [rowTo, h1], ?_, by simp only [rowTo]; omega, by simp only [rowTo]; omega, ?_⟩
    · exact h2.set _ (by omega) (by omega)
    · simp only [rowTo]
      rw [val_set _ (by rw [h1]; omega), val_take_succ, show i + (k + 1) = i + k + 1 by omega, Int.pow_succ]
      have := Int.emod_add_mul_ediv (D (rowTo out b x i k).1 (i + k) + x * D b k + (rowTo out b x i k).2) 10
      have hp : (10 : Int) ^ (i + k) = 10 ^ i * 10 ^ k := Int.pow_add _ _ _
      generalize (D (rowTo out b x i k).1 (i + k) + x * D b k + (rowTo out b x i k).2) % 10 = m at *
      generalize (D (rowTo out b x i k).1 (i + k) + x * D b k + (rowTo out b x i k).2) / 10 = q at *
      rw [hp] at h5 ⊢
      grind

/-- The outer loop of times. -/
def mulTo (a b : List Int) : Nat → List Int
  | 0 => List.replicate (a.length + b.length + 1) 0
  | i + 1 => (rowTo (mulTo a b i) b (D a i) i (b.length + 1)).1

theorem dig_replicate (n : Nat) : Dig (List.replicate n 0) := fun d hd => by
  rw [List.eq_of_mem_replicate hd]; decide

theorem val_replicate (n : Nat) : val (List.replicate n 0) = 0 := by
  induction n with
  | zero => rfl
  | succ n ih => rw [List.replicate_succ, val, ih]; rfl

theorem mulTo_inv {a b : List Int} (ha : Dig a) (hb : Dig b) (i : Nat) (hi : i ≤ a.length) :
    (mulTo a b i).length = a.length + b.length + 1 ∧ Dig (mulTo a b i) ∧ val (mulTo a b i) = val (a.take i) * val b := by
  induction i with
  | zero => exact ⟨by simp [mulTo], dig_replicate _, by simp [mulTo, val_replicate, val]⟩
  | succ i ih =>
    obtain ⟨h1, h2, h3⟩ := ih (by omega)
    have hx := D_dig ha i
    obtain ⟨r1, r2, r3, r4, r5⟩ := rowTo_inv h2 hb hx (i := i) (b.length + 1) (by omega)
    refine ⟨by simp only [mulTo]; omega, r2, ?_⟩
    rw [List.take_of_length_le (by omega), h3] at r5
    have hs := val_take_succ a i
    have e : val (a.take i) * val b + D a i * val b * 10 ^ i = val (a.take (i + 1)) * val b := by rw [hs]; grind
    rw [e] at r5
    have l1 := val_lt (ha.take (i + 1))
    rw [List.length_take, Nat.min_eq_left hi] at l1
    have l2 := val_lt hb
    have n1 := val_nonneg (ha.take (i + 1))
    have n2 := val_nonneg hb
    have n3 := val_nonneg r2
    have hlt : val (a.take (i + 1)) * val b < 10 ^ (i + (b.length + 1)) := by
      have e2 : (10 : Int) ^ (i + (b.length + 1)) = 10 ^ (i + 1) * 10 ^ b.length := by rw [← Int.pow_add]; congr 1; omega
      rw [e2]
      have p1 := pow_pos_B (i + 1)
      have p2 := pow_pos_B b.length
      generalize (10 : Int) ^ (i + 1) = P at *
      generalize (10 : Int) ^ b.length = R at *
      exact Int.lt_of_le_of_lt (Int.mul_le_mul_of_nonneg_left (Int.le_of_lt l2) n1) (Int.mul_lt_mul_of_pos_right l1 p2)
    have hp := pow_pos_B (i + (b.length + 1))
    have hc : (rowTo (mulTo a b i) b (D a i) i (b.length + 1)).2 = 0 := by
      rcases Int.lt_or_le 0 (rowTo (mulTo a b i) b (D a i) i (b.length + 1)).2 with hgt | hle
      · have : 1 * (10 : Int) ^ (i + (b.length + 1)) ≤ (rowTo (mulTo a b i) b (D a i) i (b.length + 1)).2 * 10 ^ (i + (b.length + 1)) :=
          Int.mul_le_mul_of_nonneg_right (by omega) (Int.le_of_lt hp)
        omega
      · omega
    rw [hc] at r5
    simp only [mulTo]
    omega

def mulL (a b : List Int) : List Int := mulTo a b a.length
theorem dig_mulL {a b : List Int} (ha : Dig a) (hb : Dig b) : Dig (mulL a b) := (mulTo_inv ha hb _ (Nat.le_refl _)).2.1
theorem val_mulL {a b : List Int} (ha : Dig a) (hb : Dig b) : val (mulL a b) = val a * val b := by
  have := (mulTo_inv ha hb _ (Nat.le_refl _)).2.2
  rwa [List.take_length] at this

/-! ### Which is greater -/

def sgn (n : Int) : Int := if n < 0 then -1 else if 0 < n then 1 else 0

theorem val_split (l : List Int) (k : Nat) (hk : k < l.length) : val l = val (l.take k) + 10 ^ k * (D l k + 10 * val (l.drop (k + 1))) := by
  conv => lhs; rw [← List.take_append_drop k l, val_append, List.drop_eq_getElem_cons hk]
  rw [List.length_take, Nat.min_eq_left (by omega), val]
  simp [D, List.getElem?_eq_getElem hk]

theorem drop_same {a b : List Int} (hl : a.length = b.length) {k : Nat} (h : ∀ j, k ≤ j → j < a.length → D a j = D b j) : a.drop k = b.drop k := by
  apply List.ext_getElem
  · simp [hl]
  · intro i h1 h2
    simp only [List.length_drop] at h1 h2
    have := h (k + i) (by omega) (by omega)
    simp only [D, List.getElem?_eq_getElem (show k + i < a.length by omega), List.getElem?_eq_getElem (show k + i < b.length by omega), Option.getD_some] at this
    simpa using this

theorem lt_at {a b : List Int} (ha : Dig a) (hb : Dig b) (hl : a.length = b.length) {k : Nat} (hk : k < a.length)
    (h : ∀ j, k + 1 ≤ j → j < a.length → D a j = D b j) (hlt : D a k < D b k) : val a < val b := by
  rw [val_split a k hk, val_split b k (by omega), drop_same hl h]
  have l1 := val_lt (ha.take k)
  rw [List.length_take, Nat.min_eq_left (by omega)] at l1
  have n1 := val_nonneg (hb.take k)
  have hp := pow_pos_B k
  generalize (10 : Int) ^ k = P at *
  generalize val (b.drop (k + 1)) = T
  have : P * (D a k + 10 * T) + P ≤ P * (D b k + 10 * T) := by
    have : P * (D a k + 10 * T + 1) ≤ P * (D b k + 10 * T) := Int.mul_le_mul_of_nonneg_left (by omega) (Int.le_of_lt hp)
    rw [Int.mul_add P _ 1] at this
    omega
  omega

theorem sgn_at {a b : List Int} (ha : Dig a) (hb : Dig b) (hl : a.length = b.length) {k : Nat} (hk : k < a.length)
    (h : ∀ j, k + 1 ≤ j → j < a.length → D a j = D b j) : D a k ≠ D b k → sgn (D a k - D b k) = sgn (val a - val b) := fun hne => by
  unfold sgn
  rcases (show D a k < D b k ∨ D b k < D a k by omega) with hlt | hlt
  · have := lt_at ha hb hl hk h hlt
    rw [if_pos (by omega), if_pos (by omega)]
  · have := lt_at hb ha hl.symm (by omega) (fun j h1 h2 => (h j h1 (by omega)).symm) hlt
    rw [if_neg (by omega), if_pos (by omega), if_neg (by omega), if_pos (by omega)]

theorem same_all {a b : List Int} (hl : a.length = b.length) (h : ∀ j, j < a.length → D a j = D b j) : a = b := by
  have := drop_same (k := 0) hl (fun j _ h2 => h j h2)
  simpa using this

theorem limbs_len_lt {x y : Nat} (h : (limbs x).length < (limbs y).length) : x < y := by
  have h1 := val_lt (dig_limbs x)
  rw [val_limbs] at h1
  have hy : y ≠ 0 := by rintro rfl; rw [limbs_zero] at h; simp at h
  have h2 := limbs_ge y hy
  have : (10 : Int) ^ (limbs x).length ≤ 10 ^ ((limbs y).length - 1) := pow_le_B (by omega)
  omega

theorem limbs_len_le {x y : Nat} (h : x ≤ y) : (limbs x).length ≤ (limbs y).length := by
  rcases Nat.lt_or_ge (limbs y).length (limbs x).length with h' | h'
  · have := limbs_len_lt h'; omega
  · exact h'

theorem limbs_inj {x y : Nat} (h : limbs x = limbs y) : x = y := by
  have := congrArg val h
  rw [val_limbs, val_limbs] at this; omega

/-- How many digits a number below a power of ten has. -/
theorem limbs_len {x k : Nat} (h : x < 10 ^ k) : (limbs x).length ≤ k := by
  rcases Nat.lt_or_ge k (limbs x).length with h' | h'
  · have hx : x ≠ 0 := by rintro rfl; rw [limbs_zero] at h'; simp at h'
    have h2 := limbs_ge x hx
    have h3 : (10 : Int) ^ k ≤ 10 ^ ((limbs x).length - 1) := pow_le_B (by omega)
    have h4 : ((10 ^ k : Nat) : Int) = (10 : Int) ^ k := by simp
    omega
  · exact h'

end Go.Proofs.YtjfmefdhfboliaaDoor.Ten
