/- Plain laws on how a row of digits is written and read: the numeral is the number's own. No program in sight. -/
import Derived.Test.YtjfmefdhfboliaaDoorArith
namespace Go.Proofs.YtjfmefdhfboliaaDoor.Num
open Go.Lib

/-! ### Written -/

def padK : Nat → Nat → List UInt8
  | 0, _ => []
  | k + 1, d => padK k (d / 10) ++ [UInt8.ofNat (48 + d % 10)]

theorem dec_padK (k : Nat) : ∀ (t d : Nat), 0 < t → d < 10 ^ k → decDigits (t * 10 ^ k + d) = decDigits t ++ padK k d := by
  induction k with
  | zero =>
    intro t d _ hd
    have : d = 0 := by simpa using hd
    subst this
    simp [padK]
  | succ k ih =>
    intro t d ht hd
    rw [Nat.pow_succ] at hd
    have hp : 1 ≤ 10 ^ k := Nat.one_le_pow _ _ (by decide)
    have hge : 1 * 10 ^ k ≤ t * 10 ^ k := Nat.mul_le_mul_right _ ht
    have hm : t * 10 ^ (k + 1) = t * 10 ^ k * 10 := by rw [Nat.pow_succ, Nat.mul_assoc]
    rw [decDigits, dif_neg (by omega), padK]
    have e1 : (t * 10 ^ (k + 1) + d) / 10 = t * 10 ^ k + d / 10 := by omega
    have e2 : (t * 10 ^ (k + 1) + d) % 10 = d % 10 := by omega
    rw [e1, e2, ih t (d / 10) ht (by omega), List.append_assoc]

theorem padK_zero (k : Nat) : padK k 0 = List.replicate k 48 := by
  induction k with
  | zero => rfl
  | succ k ih => rw [padK, Nat.zero_div, ih, List.replicate_succ']; rfl

theorem padK_eq (k : Nat) : ∀ d, d < 10 ^ (k + 1) → padK (k + 1) d = List.replicate (k + 1 - nDigits d) 48 ++ decDigits d := by
  induction k with
  | zero =>
    intro d hd
    have hd' : d < 10 := by simpa using hd
    rw [nDigits_small hd', padK, padK, decDigits, dif_pos hd', Nat.mod_eq_of_lt hd']; rfl
  | succ k ih =>
    intro d hd
    rw [Nat.pow_succ] at hd
    rw [padK]
    by_cases h : d < 10
    · rw [nDigits_small h, show d / 10 = 0 by omega, padK_zero, decDigits, dif_pos h, Nat.mod_eq_of_lt h]
      rfl
    · rw [ih (d / 10) (by omega), nDigits_big h, List.append_assoc]
      conv => rhs; rw [decDigits, dif_neg h]
      rw [show k + 1 + 1 - (nDigits (d / 10) + 1) = k + 1 - nDigits (d / 10) by omega]

/-- A digit below others: nine figures. -/
def pad9 (d : Nat) : List UInt8 := List.replicate (9 - nDigits d) 48 ++ decDigits d

theorem dec_step {t d : Nat} (ht : 0 < t) (hd : d < 1000000000) : decDigits (t * 1000000000 + d) = decDigits t ++ pad9 d := by
  have := dec_padK 9 t d ht (by simpa using hd)
  rw [padK_eq 8 d (by simpa using hd)] at this
  exact this

theorem nDigits_digit {d : Nat} (hd : d < 1000000000) : nDigits d ≤ 9 := nDigits_lt (k := 9) (by simpa using hd) (by decide)
theorem pad9_length {d : Nat} (hd : d < 1000000000) : (pad9 d).length = 9 := by
  have := nDigits_digit hd
  simp only [pad9, List.length_append, List.length_replicate, decDigits_length]; omega

/-- What stands from a place on is the number without its lowest places. -/
theorem val_drop (l : List Int) (k : Nat) (hk : k < l.length) : val (l.drop k) = D l k + 1000000000 * val (l.drop (k + 1)) := by
  rw [List.drop_eq_getElem_cons hk, val]
  simp [D, List.getElem?_eq_getElem hk]

theorem Dig.drop {l : List Int} (h : Dig l) (k : Nat) : Dig (l.drop k) := fun x hx => h x (List.mem_of_mem_drop hx)

theorem D_limbs_last {n : Nat} (h : n ≠ 0) : D (limbs n) ((limbs n).length - 1) ≠ 0 := by
  induction n using Nat.strongRecOn with
  | _ n ih =>
    rw [limbs_pos h]
    by_cases h0 : n / 1000000000 = 0
    · rw [h0, limbs_zero]
      simp [D]; omega
    · have := ih _ (by omega) h0
      have hl : 0 < (limbs (n / 1000000000)).length := by
        rcases Nat.eq_zero_or_pos (limbs (n / 1000000000)).length with e | e
        · exact absurd (limbs_eq_nil.1 (List.length_eq_zero_iff.1 e)) h0
        · exact e
      rw [List.length_cons, Nat.add_sub_cancel]
      obtain ⟨m, hm⟩ : ∃ m, (limbs (n / 1000000000)).length = m + 1 := ⟨(limbs (n / 1000000000)).length - 1, by omega⟩
      rw [hm] at this ⊢
      simpa [D] using this

/-- The upper part of a number's digits is worth something. -/
theorem val_drop_pos {n k : Nat} (hk : k < (limbs n).length) : 0 < val ((limbs n).drop k) := by
  have hn : n ≠ 0 := by rintro rfl; rw [limbs_zero] at hk; simp at hk
  have hd := dig_limbs n
  have h1 := val_nonneg (hd.drop k)
  rcases Int.lt_or_eq_of_le h1 with h | h
  · exact h
  · exfalso
    have hall : ∀ (m : List Int), Dig m → val m = 0 → ∀ x ∈ m, x = 0 := by
      intro m
      induction m with
      | nil => intro _ _ x hx; cases hx
      | cons y m ih =>
        intro hdm hv x hx
        have hy := hdm y List.mem_cons_self
        have hm := val_nonneg hdm.tail
        rw [val] at hv
        rcases List.mem_cons.1 hx with rfl | hx
        · omega
        · exact ih hdm.tail (by omega) x hx
    have := D_limbs_last hn
    apply this
    have hlt : (limbs n).length - 1 < (limbs n).length := by omega
    unfold D
    rw [List.getElem?_eq_getElem hlt, Option.getD_some]
    refine hall _ (hd.drop k) h.symm _ ?_
    have : (limbs n)[(limbs n).length - 1] = ((limbs n).drop k)[(limbs n).length - 1 - k]'(by rw [List.length_drop]; omega) := by
      rw [List.getElem_drop]; congr 1; omega
    rw [this]
    exact List.getElem_mem _

/-- What the loop of String has written when the digits from place k on have come. -/
def wrote (n k : Nat) : List UInt8 := if k < (limbs n).length then decDigits (val ((limbs n).drop k)).toNat else []

theorem wrote_top {n k : Nat} (hk : k + 1 = (limbs n).length) : wrote n k = decDigits (D (limbs n) k).toNat := by
  rw [wrote, if_pos (by omega), val_drop _ _ (by omega), List.drop_of_length_le (by omega)]
  simp [val]

theorem wrote_step {n k : Nat} (hk : k + 1 < (limbs n).length) : wrote n k = wrote n (k + 1) ++ pad9 (D (limbs n) k).toNat := by
  have hp := val_drop_pos hk
  have hd := D_dig (dig_limbs n) k
  rw [wrote, wrote, if_pos (by omega), if_pos hk, val_drop _ k (by omega), ← dec_step (by omega) (by omega)]
  congr 1
  omega

theorem wrote_all {n : Nat} (h : n ≠ 0) : wrote n 0 = decDigits n := by
  have hl : 0 < (limbs n).length := by
    rcases Nat.eq_zero_or_pos (limbs n).length with e | e
    · exact absurd (limbs_eq_nil.1 (List.length_eq_zero_iff.1 e)) h
    · exact e
  rw [wrote, if_pos hl, List.drop_zero, val_limbs]; simp

theorem wrote_none (n : Nat) : wrote n (limbs n).length = [] := by rw [wrote, if_neg (by omega)]

theorem wrote_length {n k : Nat} : (wrote n k).length ≤ 9 * ((limbs n).length - k) := by
  suffices ∀ d k, (limbs n).length - k = d → (wrote n k).length ≤ 9 * d from this _ k rfl
  intro d
  induction d with
  | zero => intro k hk; rw [wrote, if_neg (by omega)]; simp
  | succ d ih =>
    intro k hk
    have hd := D_dig (dig_limbs n) k
    by_cases h : k + 1 = (limbs n).length
    · rw [wrote_top h, decDigits_length]
      have := nDigits_digit (d := (D (limbs n) k).toNat) (by omega)
      omega
    · rw [wrote_step (by omega), List.length_append, pad9_length (by omega)]
      have := ih (k + 1) (by omega)
      omega

/-! ### Read -/

/-- What parse's loop keeps: m figures are still to be read, out has come. -/
def Read (s : List UInt8) (m : Nat) (out : List Int) : Prop :=
  m ≤ s.length ∧ Dig out ∧ ((dv s : Nat) : Int) = (dv (s.take m) : Int) * 1000000000 ^ out.length + val out ∧ 9 * out.length ≤ s.length - m + 8 ∧ (0 < m → 9 * out.length = s.length - m)

theorem Read.start (s : List UInt8) : Read s s.length [] := by
  refine ⟨Nat.le_refl _, (fun d hd => by cases hd), ?_, by simp, by simp⟩
  rw [List.take_length]; simp [val]

theorem Read.step {s : List UInt8} (hf : Figs s) {m : Nat} {out : List Int} (h : Read s m out) (hm : 0 < m) :
    Read s (m - 9) (out ++ [(dv ((s.take m).drop (m - 9)) : Int)]) := by
  obtain ⟨h1, h2, h3, h4, h5⟩ := h
  have h6 := h5 hm
  have hsplit : s.take m = s.take (m - 9) ++ (s.take m).drop (m - 9) := by
    conv => lhs; rw [← List.take_append_drop (m - 9) (s.take m), List.take_take, Nat.min_eq_left (by omega)]
  have hfig : Figs ((s.take m).drop (m - 9)) := fun c hc => hf c (List.mem_of_mem_take (List.mem_of_mem_drop hc))
  have hlen : ((s.take m).drop (m - 9)).length = m - (m - 9) := by rw [List.length_drop, List.length_take, Nat.min_eq_left h1]
  have hlt := dv_lt hfig
  have hlt9 : dv ((s.take m).drop (m - 9)) < 1000000000 := by
    have h9 : 10 ^ ((s.take m).drop (m - 9)).length ≤ 10 ^ 9 := Nat.pow_le_pow_right (by decide) (by rw [hlen]; omega)
    exact Nat.lt_of_lt_of_le hlt h9
  have hdv : dv (s.take m) = dv (s.take (m - 9)) * 1000000000 + dv ((s.take m).drop (m - 9)) := by
    conv => lhs; rw [hsplit, dv_append]
    rw [hlen]
    by_cases h9 : 9 ≤ m
    · rw [show m - (m - 9) = 9 by omega]
    · rw [show m - 9 = 0 by omega]; simp [dv]
  refine ⟨by omega, h2.append (fun d hd => ?_), ?_, ?_, ?_⟩
  · rw [List.mem_singleton.1 hd]; omega
  · rw [h3, val_append, List.length_append, hdv]
    simp only [val, List.length_singleton, Int.pow_succ, Int.natCast_add, Int.natCast_mul]
    grind
  · rw [List.length_append, List.length_singleton]
    omega
  · rw [List.length_append, List.length_singleton]
    omega

theorem Read.done {s : List UInt8} {out : List Int} (h : Read s 0 out) : val out = dv s ∧ Dig out := by
  obtain ⟨_, h2, h3, _, _⟩ := h
  simp [dv_nil] at h3
  exact ⟨h3.symm, h2⟩

/-! ### Quotient and rest -/

theorem div_step {b q r x B : Nat} (hr : r < b) (hx : x < B) :
    ((q * b + r) * B + x) / b = q * B + (r * B + x) / b ∧ ((q * b + r) * B + x) % b = (r * B + x) % b ∧ (r * B + x) / b < B := by
  have e : (q * b + r) * B + x = r * B + x + b * (q * B) := by rw [Nat.add_mul]; rw [Nat.mul_comm q b, Nat.mul_assoc]; omega
  refine ⟨?_, ?_, ?_⟩
  · rw [e, Nat.add_mul_div_left _ _ (by omega)]; omega
  · rw [e, Nat.add_mul_mod_self_left]
  · rw [Nat.div_lt_iff_lt_mul (by omega)]
    have : (r + 1) * B ≤ b * B := Nat.mul_le_mul_right _ hr
    rw [Nat.add_mul, Nat.one_mul] at this
    rw [Nat.mul_comm B b]
    omega

def quo (x y : Int) : Int := if (decide (x < 0) != decide (y < 0)) then -((x.natAbs / y.natAbs : Nat) : Int) else ((x.natAbs / y.natAbs : Nat) : Int)
def rest (x y : Int) : Int := if x < 0 then -((x.natAbs % y.natAbs : Nat) : Int) else ((x.natAbs % y.natAbs : Nat) : Int)

theorem quo_rest (x y : Int) : quo x y * y + rest x y = x := by
  have h := Nat.div_add_mod x.natAbs y.natAbs
  have h' : (y.natAbs : Int) * ((x.natAbs / y.natAbs : Nat) : Int) + ((x.natAbs % y.natAbs : Nat) : Int) = x.natAbs := by exact_mod_cast h
  unfold quo rest
  generalize ((x.natAbs / y.natAbs : Nat) : Int) = q at *
  generalize ((x.natAbs % y.natAbs : Nat) : Int) = r at *
  by_cases hx : x < 0 <;> by_cases hy : y < 0
  · have ex : (x.natAbs : Int) = -x := by omega
    have ey : (y.natAbs : Int) = -y := by omega
    rw [ex, ey] at h'; simp only [hx, hy, decide_true, bne_self_eq_false, Bool.false_eq_true, if_false, if_true]; grind
  · have ex : (x.natAbs : Int) = -x := by omega
    have ey : (y.natAbs : Int) = y := by omega
    rw [ex, ey] at h'; simp [hx, hy]; grind
  · have ex : (x.natAbs : Int) = x := by omega
    have ey : (y.natAbs : Int) = -y := by omega
    rw [ex, ey] at h'; simp [hx, hy]; grind
  · have ex : (x.natAbs : Int) = x := by omega
    have ey : (y.natAbs : Int) = y := by omega
    rw [ex, ey] at h'; simp [hx, hy]; grind

theorem quo_tdiv (x y : Int) : quo x y = x.tdiv y := by
  unfold quo
  rcases Int.lt_or_le x 0 with hx | hx <;> rcases Int.lt_or_le y 0 with hy | hy
  · obtain ⟨a, rfl⟩ : ∃ a : Nat, x = -((a + 1 : Nat) : Int) := ⟨x.natAbs - 1, by omega⟩
    obtain ⟨b, rfl⟩ : ∃ b : Nat, y = -((b + 1 : Nat) : Int) := ⟨y.natAbs - 1, by omega⟩
    rw [decide_eq_true hx, decide_eq_true hy, bne_self_eq_false, if_neg (by decide), Int.neg_tdiv, Int.tdiv_neg, Int.neg_neg, ← Int.ofNat_tdiv, Int.natAbs_neg, Int.natAbs_neg, Int.natAbs_natCast, Int.natAbs_natCast]
  · obtain ⟨a, rfl⟩ : ∃ a : Nat, x = -((a + 1 : Nat) : Int) := ⟨x.natAbs - 1, by omega⟩
    obtain ⟨b, rfl⟩ : ∃ b : Nat, y = (b : Int) := ⟨y.natAbs, by omega⟩
    rw [decide_eq_true hx, decide_eq_false (by omega), if_pos (by decide), Int.neg_tdiv, ← Int.ofNat_tdiv, Int.natAbs_neg, Int.natAbs_natCast, Int.natAbs_natCast]
  · obtain ⟨a, rfl⟩ : ∃ a : Nat, x = (a : Int) := ⟨x.natAbs, by omega⟩
    obtain ⟨b, rfl⟩ : ∃ b : Nat, y = -((b + 1 : Nat) : Int) := ⟨y.natAbs - 1, by omega⟩
    rw [decide_eq_false (by omega), decide_eq_true hy, if_pos (by decide), Int.tdiv_neg, ← Int.ofNat_tdiv, Int.natAbs_neg, Int.natAbs_natCast, Int.natAbs_natCast]
  · obtain ⟨a, rfl⟩ : ∃ a : Nat, x = (a : Int) := ⟨x.natAbs, by omega⟩
    obtain ⟨b, rfl⟩ : ∃ b : Nat, y = (b : Int) := ⟨y.natAbs, by omega⟩
    rw [decide_eq_false (by omega), decide_eq_false (by omega), bne_self_eq_false, if_neg (by decide), ← Int.ofNat_tdiv, Int.natAbs_natCast, Int.natAbs_natCast]

theorem rest_tmod (x y : Int) : rest x y = x.tmod y := by
  have h1 := quo_rest x y
  rw [quo_tdiv] at h1
  have h2 := Int.tmod_add_mul_tdiv x y
  rw [Int.mul_comm] at h2
  omega

end Go.Proofs.YtjfmefdhfboliaaDoor.Num
