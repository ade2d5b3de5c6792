/- Plain laws on rows of digits of base 1,000,000,000: the school's sum, difference, product and comparison are those of numbers. No program in sight. -/
import Derived.Test.YtjfmefdhfboliaaDoorNum
namespace Go.Proofs.YtjfmefdhfboliaaDoor.Num

/-- A digit of a row; 0 beyond it. -/
def D (l : List Int) (i : Nat) : Int := l[i]?.getD 0

theorem D_dig {l : List Int} (h : Dig l) (i : Nat) : 0 ≤ D l i ∧ D l i < 1000000000 := by
  unfold D
  by_cases hi : i < l.length
  · rw [List.getElem?_eq_getElem hi]
    exact h _ (List.getElem_mem hi)
  · rw [List.getElem?_eq_none (by omega)]
    simp

theorem val_take_succ (l : List Int) (k : Nat) : val (l.take (k + 1)) = val (l.take k) + 1000000000 ^ k * D l k := by
  by_cases hk : k < l.length
  · rw [List.take_succ_eq_append_getElem hk, val_append, List.length_take, Nat.min_eq_left (by omega)]
    simp [val, D, List.getElem?_eq_getElem hk]
  · rw [List.take_of_length_le (by omega), List.take_of_length_le (by omega)]
    simp [D, List.getElem?_eq_none (Nat.le_of_not_lt hk)]

theorem val_set {l : List Int} {j : Nat} (v : Int) (hj : j < l.length) : val (l.set j v) = val l + (v - D l j) * 1000000000 ^ j := by
  induction l generalizing j with
  | nil => simp at hj
  | cons d l ih =>
    cases j with
    | zero => simp [val, D]; omega
    | succ j =>
      have := ih (j := j) (by simpa using hj)
      rw [List.set_cons_succ, val, this, val, Int.pow_succ]
      have e : D (d :: l) (j + 1) = D l j := by simp [D]
      rw [e]
      grind

theorem Dig.set {l : List Int} (h : Dig l) (j : Nat) {v : Int} (h0 : 0 ≤ v) (h1 : v < 1000000000) : Dig (l.set j v) := fun x hx => by
  rcases List.mem_or_eq_of_mem_set hx with hx | rfl
  · exact h x hx
  · exact ⟨h0, h1⟩

theorem pow_le_B {a b : Nat} (h : a ≤ b) : (1000000000 : Int) ^ a ≤ 1000000000 ^ b := by
  obtain ⟨d, rfl⟩ : ∃ d, b = a + d := ⟨b - a, by omega⟩
  have h1 : (0 : Int) < 1000000000 ^ a := Int.pow_pos (by decide)
  have h2 : (0 : Int) < 1000000000 ^ d := Int.pow_pos (by decide)
  rw [Int.pow_add]
  have := Int.mul_le_mul_of_nonneg_left (a := 1) (b := (1000000000 : Int) ^ d) (c := 1000000000 ^ a) (by omega) (Int.le_of_lt h1)
  omega

theorem pow_pos_B (k : Nat) : 0 < (1000000000 : Int) ^ k := Int.pow_pos (by decide)

/-! ### The sum -/

def addTo (a b : List Int) : Nat → List Int × Int
  | 0 => ([], 0)
  | k + 1 => ((addTo a b k).1 ++ [(D a k + D b k + (addTo a b k).2) % 1000000000], (D a k + D b k + (addTo a b k).2) / 1000000000)

theorem addTo_inv {a b : List Int} (ha : Dig a) (hb : Dig b) (k : Nat) :
    (addTo a b k).1.length = k ∧ Dig (addTo a b k).1 ∧ 0 ≤ (addTo a b k).2 ∧ (addTo a b k).2 ≤ 1 ∧
      val (addTo a b k).1 + 1000000000 ^ k * (addTo a b k).2 = val (a.take k) + val (b.take k) := by
  induction k with
  | zero => exact ⟨rfl, (fun d hd => by cases hd), Int.le_refl _, Int.le_of_lt Int.one_pos, by simp [addTo, val]⟩
  | succ k ih =>
    obtain ⟨h1, h2, h3, h4, h5⟩ := ih
    have da := D_dig ha k
    have db := D_dig hb k
    refine ⟨by simp [addTo, h1], ?_, by simp only [addTo]; omega, by simp only [addTo]; omega, ?_⟩
    · refine h2.append fun d hd => ?_
      rw [List.mem_singleton.1 hd]; omega
    · rw [val_take_succ, val_take_succ]
      simp only [addTo]
      rw [val_append, h1, Int.pow_succ]
      simp only [val]
      have := Int.emod_add_mul_ediv (D a k + D b k + (addTo a b k).2) 1000000000
      generalize (D a k + D b k + (addTo a b k).2) % 1000000000 = m at *
      generalize (D a k + D b k + (addTo a b k).2) / 1000000000 = q at *
      grind

/-- added(a, b) -/
def addL (a b : List Int) : List Int := (addTo a b (max a.length b.length + 1)).1

theorem dig_addL {a b : List Int} (ha : Dig a) (hb : Dig b) : Dig (addL a b) := (addTo_inv ha hb _).2.1

theorem val_addL {a b : List Int} (ha : Dig a) (hb : Dig b) : val (addL a b) = val a + val b := by
  obtain ⟨h1, h2, h3, h4, h5⟩ := addTo_inv ha hb (max a.length b.length + 1)
  rw [List.take_of_length_le (by omega), List.take_of_length_le (by omega)] at h5
  have va := val_lt ha
  have vb := val_lt hb
  have pa : (1000000000 : Int) ^ a.length ≤ 1000000000 ^ max a.length b.length := pow_le_B (Nat.le_max_left _ _)
  have pb : (1000000000 : Int) ^ b.length ≤ 1000000000 ^ max a.length b.length := pow_le_B (Nat.le_max_right _ _)
  have hn := val_nonneg h2
  have hp := pow_pos_B (max a.length b.length)
  have hc : (addTo a b (max a.length b.length + 1)).2 = 0 := by
    rcases (show (addTo a b (max a.length b.length + 1)).2 = 0 ∨ (addTo a b (max a.length b.length + 1)).2 = 1 by omega) with e | e
    · exact e
    · rw [e, Int.pow_succ] at h5
      omega
  rw [hc] at h5
  unfold addL
  omega

/-! ### The difference -/

def takeTo (a b : List Int) : Nat → List Int × Int
  | 0 => ([], 0)
  | k + 1 => if D a k - D b k - (takeTo a b k).2 < 0 then ((takeTo a b k).1 ++ [D a k - D b k - (takeTo a b k).2 + 1000000000], 1)
    else ((takeTo a b k).1 ++ [D a k - D b k - (takeTo a b k).2], 0)

theorem takeTo_inv {a b : List Int} (ha : Dig a) (hb : Dig b) (k : Nat) :
    (takeTo a b k).1.length = k ∧ Dig (takeTo a b k).1 ∧ 0 ≤ (takeTo a b k).2 ∧ (takeTo a b k).2 ≤ 1 ∧
      val (takeTo a b k).1 + val (b.take k) = val (a.take k) + 1000000000 ^ k * (takeTo a b k).2 := by
  induction k with
  | zero => exact ⟨rfl, (fun d hd => by cases hd), Int.le_refl _, Int.le_of_lt Int.one_pos, by simp [takeTo, val]⟩
  | succ k ih =>
    obtain ⟨h1, h2, h3, h4, h5⟩ := ih
    have da := D_dig ha k
    have db := D_dig hb k
    by_cases hlt : D a k - D b k - (takeTo a b k).2 < 0
    · simp only [takeTo, if_pos hlt]
      refine ⟨by simp [h1], ?_, by omega, by omega, ?_⟩
      · refine h2.append fun d hd => ?_
        rw [List.mem_singleton.1 hd]; omega
      · rw [val_take_succ, val_take_succ, val_append, h1, Int.pow_succ]
        simp only [val]
        grind
    · simp only [takeTo, if_neg hlt]
      refine ⟨by simp [h1], ?_, by omega, by omega, ?_⟩
      · refine h2.append fun d hd => ?_
        rw [List.mem_singleton.1 hd]; omega
      · rw [val_take_succ, val_take_succ, val_append, h1]
        simp only [val]
        grind

/-- taken(a, b) -/
def takeL (a b : List Int) : List Int := (takeTo a b a.length).1

theorem dig_takeL {a b : List Int} (ha : Dig a) (hb : Dig b) : Dig (takeL a b) := (takeTo_inv ha hb _).2.1

theorem val_takeL {a b : List Int} (ha : Dig a) (hb : Dig b) (hl : b.length ≤ a.length) (hv : val b ≤ val a) : val (takeL a b) = val a - val b := by
  obtain ⟨h1, h2, h3, h4, h5⟩ := takeTo_inv ha hb a.length
  rw [List.take_of_length_le (by omega), List.take_of_length_le (by omega)] at h5
  have hn := val_lt h2
  rw [h1] at hn
  have hc : (takeTo a b a.length).2 = 0 := by
    rcases (show (takeTo a b a.length).2 = 0 ∨ (takeTo a b a.length).2 = 1 by omega) with e | e
    · exact e
    · rw [e] at h5; omega
  rw [hc] at h5
  unfold takeL
  omega

/-! ### The product -/

def rowTo (out b : List Int) (x : Int) (i : Nat) : Nat → List Int × Int
  | 0 => (out, 0)
  | k + 1 => ((rowTo out b x i k).1.set (i + k) ((D (rowTo out b x i k).1 (i + k) + x * D b k + (rowTo out b x i k).2) % 1000000000),
      (D (rowTo out b x i k).1 (i + k) + x * D b k + (rowTo out b x i k).2) / 1000000000)

theorem mul_dig {x y : Int} (hx : 0 ≤ x ∧ x < 1000000000) (hy : 0 ≤ y ∧ y < 1000000000) : 0 ≤ x * y ∧ x * y ≤ 999999998000000001 := by
  refine ⟨Int.mul_nonneg hx.1 hy.1, ?_⟩
  have : x * y ≤ 999999999 * 999999999 := Int.mul_le_mul (by omega) (by omega) hy.1 (by decide)
  omega

theorem rowTo_inv {out b : List Int} {x : Int} {i : Nat} (ho : Dig out) (hb : Dig b) (hx : 0 ≤ x ∧ x < 1000000000) (k : Nat) (hk : i + k ≤ out.length) :
    (rowTo out b x i k).1.length = out.length ∧ Dig (rowTo out b x i k).1 ∧ 0 ≤ (rowTo out b x i k).2 ∧ (rowTo out b x i k).2 < 1000000000 ∧
      val (rowTo out b x i k).1 + (rowTo out b x i k).2 * 1000000000 ^ (i + k) = val out + x * val (b.take k) * 1000000000 ^ i := by
  induction k with
  | zero => exact ⟨rfl, ho, by simp [rowTo], by simp [rowTo], by simp [rowTo, val]⟩
  | succ k ih =>
    obtain ⟨h1, h2, h3, h4, h5⟩ := ih (by omega)
    have dr := D_dig h2 (i + k)
    have db := mul_dig hx (D_dig hb k)
    have hn : 0 ≤ D (rowTo out b x i k).1 (i + k) + x * D b k + (rowTo out b x i k).2 ∧ D (rowTo out b x i k).1 (i + k) + x * D b k + (rowTo out b x i k).2 < 1000000000 * 1000000000 := by omega
    refine ⟨by simp [rowTo, h1], ?_, by simp only [rowTo]; omega, by simp only [rowTo]; omega, ?_⟩
    · exact h2.set _ (by omega) (by omega)
    · simp only [rowTo]
      rw [val_set _ (by rw [h1]; omega), val_take_succ, show i + (k + 1) = i + k + 1 by omega, Int.pow_succ]
      have := Int.emod_add_mul_ediv (D (rowTo out b x i k).1 (i + k) + x * D b k + (rowTo out b x i k).2) 1000000000
      have hp : (1000000000 : Int) ^ (i + k) = 1000000000 ^ i * 1000000000 ^ k := Int.pow_add _ _ _
      generalize (D (rowTo out b x i k).1 (i + k) + x * D b k + (rowTo out b x i k).2) % 1000000000 = m at *
      generalize (D (rowTo out b x i k).1 (i + k) + x * D b k + (rowTo out b x i k).2) / 1000000000 = q at *
      rw [hp] at h5 ⊢
      grind

/-- The outer loop of times. -/
def mulTo (a b : List Int) : Nat → List Int
  | 0 => List.replicate (a.length + b.length + 1) 0
  | i + 1 => (rowTo (mulTo a b i) b (D a i) i (b.length + 1)).1

theorem dig_replicate (n : Nat) : Dig (List.replicate n 0) := fun d hd => by
  rw [List.eq_of_mem_replicate hd]; decide

theorem val_replicate (n : Nat) : val (List.replicate n 0) = 0 := by
  induction n with
  | zero => rfl
  | succ n ih => rw [List.replicate_succ, val, ih]; rfl

theorem mulTo_inv {a b : List Int} (ha : Dig a) (hb : Dig b) (i : Nat) (hi : i ≤ a.length) :
    (mulTo a b i).length = a.length + b.length + 1 ∧ Dig (mulTo a b i) ∧ val (mulTo a b i) = val (a.take i) * val b := by
  induction i with
  | zero => exact ⟨by simp [mulTo], dig_replicate _, by simp [mulTo, val_replicate, val]⟩
  | succ i ih =>
    obtain ⟨h1, h2, h3⟩ := ih (by omega)
    have hx := D_dig ha i
    obtain ⟨r1, r2, r3, r4, r5⟩ := rowTo_inv h2 hb hx (i := i) (b.length + 1) (by omega)
    refine ⟨by simp only [mulTo]; omega, r2, ?_⟩
    rw [List.take_of_length_le (by omega), h3] at r5
    have hs := val_take_succ a i
    have e : val (a.take i) * val b + D a i * val b * 1000000000 ^ i = val (a.take (i + 1)) * val b := by rw [hs]; grind
    rw [e] at r5
    have l1 := val_lt (ha.take (i + 1))
    rw [List.length_take, Nat.min_eq_left hi] at l1
    have l2 := val_lt hb
    have n1 := val_nonneg (ha.take (i + 1))
    have n2 := val_nonneg hb
    have n3 := val_nonneg r2
    have hlt : val (a.take (i + 1)) * val b < 1000000000 ^ (i + (b.length + 1)) := by
      have e2 : (1000000000 : Int) ^ (i + (b.length + 1)) = 1000000000 ^ (i + 1) * 1000000000 ^ b.length := by rw [← Int.pow_add]; congr 1; omega
      rw [e2]
      have p1 := pow_pos_B (i + 1)
      have p2 := pow_pos_B b.length
      generalize (1000000000 : Int) ^ (i + 1) = P at *
      generalize (1000000000 : Int) ^ b.length = R at *
      exact Int.lt_of_le_of_lt (Int.mul_le_mul_of_nonneg_left (Int.le_of_lt l2) n1) (Int.mul_lt_mul_of_pos_right l1 p2)
    have hp := pow_pos_B (i + (b.length + 1))
    have hc : (rowTo (mulTo a b i) b (D a i) i (b.length + 1)).2 = 0 := by
      rcases Int.lt_or_le 0 (rowTo (mulTo a b i) b (D a i) i (b.length + 1)).2 with hgt | hle
      · have : 1 * (1000000000 : Int) ^ (i + (b.length + 1)) ≤ (rowTo (mulTo a b i) b (D a i) i (b.length + 1)).2 * 1000000000 ^ (i + (b.length + 1)) :=
          Int.mul_le_mul_of_nonneg_right (by omega) (Int.le_of_lt hp)
        omega
      · omega
    rw [hc] at r5
    simp only [mulTo]
    omega

def mulL (a b : List Int) : List Int := mulTo a b a.length
theorem dig_mulL {a b : List Int} (ha : Dig a) (hb : Dig b) : Dig (mulL a b) := (mulTo_inv ha hb _ (Nat.le_refl _)).2.1
theorem val_mulL {a b : List Int} (ha : Dig a) (hb : Dig b) : val (mulL a b) = val a * val b := by
  have := (mulTo_inv ha hb _ (Nat.le_refl _)).2.2
  rwa [List.take_length] at this

/-! ### Which is greater -/

def sgn (n : Int) : Int := if n < 0 then -1 else if 0 < n then 1 else 0

theorem val_split (l : List Int) (k : Nat) (hk : k < l.length) : val l = val (l.take k) + 1000000000 ^ k * (D l k + 1000000000 * val (l.drop (k + 1))) := by
  conv => lhs; rw [← List.take_append_drop k l, val_append, List.drop_eq_getElem_cons hk]
  rw [List.length_take, Nat.min_eq_left (by omega), val]
  simp [D, List.getElem?_eq_getElem hk]

theorem drop_same {a b : List Int} (hl : a.length = b.length) {k : Nat} (h : ∀ j, k ≤ j → j < a.length → D a j = D b j) : a.drop k = b.drop k := by
  apply List.ext_getElem
  · simp [hl]
  · intro i h1 h2
    simp only [List.length_drop] at h1 h2
    have := h (k + i) (by omega) (by omega)
    simp only [D, List.getElem?_eq_getElem (show k + i < a.length by omega), List.getElem?_eq_getElem (show k + i < b.length by omega), Option.getD_some] at this
    simpa using this

theorem lt_at {a b : List Int} (ha : Dig a) (hb : Dig b) (hl : a.length = b.length) {k : Nat} (hk : k < a.length)
    (h : ∀ j, k + 1 ≤ j → j < a.length → D a j = D b j) (hlt : D a k < D b k) : val a < val b := by
  rw [val_split a k hk, val_split b k (by omega), drop_same hl h]
  have l1 := val_lt (ha.take k)
  rw [List.length_take, Nat.min_eq_left (by omega)] at l1
  have n1 := val_nonneg (hb.take k)
  have hp := pow_pos_B k
  generalize (1000000000 : Int) ^ k = P at *
  generalize val (b.drop (k + 1)) = T
  have : P * (D a k + 1000000000 * T) + P ≤ P * (D b k + 1000000000 * T) := by
    have : P * (D a k + 1000000000 * T + 1) ≤ P * (D b k + 1000000000 * T) := Int.mul_le_mul_of_nonneg_left (by omega) (Int.le_of_lt hp)
    rw [Int.mul_add P _ 1] at this
    omega
  omega

theorem sgn_at {a b : List Int} (ha : Dig a) (hb : Dig b) (hl : a.length = b.length) {k : Nat} (hk : k < a.length)
    (h : ∀ j, k + 1 ≤ j → j < a.length → D a j = D b j) : D a k ≠ D b k → sgn (D a k - D b k) = sgn (val a - val b) := fun hne => by
  unfold sgn
  rcases (show D a k < D b k ∨ D b k < D a k by omega) with hlt | hlt
  · have := lt_at ha hb hl hk h hlt
    rw [if_pos (by omega), if_pos (by omega)]
  · have := lt_at hb ha hl.symm (by omega) (fun j h1 h2 => (h j h1 (by omega)).symm) hlt
    rw [if_neg (by omega), if_pos (by omega), if_neg (by omega), if_pos (by omega)]

theorem same_all {a b : List Int} (hl : a.length = b.length) (h : ∀ j, j < a.length → D a j = D b j) : a = b := by
  have := drop_same (k := 0) hl (fun j _ h2 => h j h2)
  simpa using this

theorem limbs_len_lt {x y : Nat} (h : (limbs x).length < (limbs y).length) : x < y := by
  have h1 := val_lt (dig_limbs x)
  rw [val_limbs] at h1
  have hy : y ≠ 0 := by rintro rfl; rw [limbs_zero] at h; simp at h
  have h2 := limbs_ge y hy
  have : (1000000000 : Int) ^ (limbs x).length ≤ 1000000000 ^ ((limbs y).length - 1) := pow_le_B (by omega)
  omega

theorem limbs_len_le {x y : Nat} (h : x ≤ y) : (limbs x).length ≤ (limbs y).length := by
  rcases Nat.lt_or_ge (limbs y).length (limbs x).length with h' | h'
  · have := limbs_len_lt h'; omega
  · exact h'

theorem limbs_inj {x y : Nat} (h : limbs x = limbs y) : x = y := by
  have := congrArg val h
  rw [val_limbs, val_limbs] at this; omega

/-- How many digits a number below a power of ten has. -/
theorem limbs_len {x k : Nat} (h : x < 1000000000 ^ k) : (limbs x).length ≤ k := by
  rcases Nat.lt_or_ge k (limbs x).length with h' | h'
  · have hx : x ≠ 0 := by rintro rfl; rw [limbs_zero] at h'; simp at h'
    have h2 := limbs_ge x hx
    have h3 : (1000000000 : Int) ^ k ≤ 1000000000 ^ ((limbs x).length - 1) := pow_le_B (by omega)
    have h4 : ((1000000000 ^ k : Nat) : Int) = (1000000000 : Int) ^ k := by simp
    omega
  · exact h'

end Go.Proofs.YtjfmefdhfboliaaDoor.Num
