/- What comes of two numbers, by the reference of chapter 09. -/
import Derived.Test.YtjfmefdhfboliaaDoorPd
namespace Go.Proofs.YtjfmefdhfboliaaDoor.Ref
open Go.RowKit Go.Proofs.YtjfmefdhfboliaaDoorW.PrintWords Go.Proofs.YtjfmefdhfboliaaDoorW.PrintLast Go.Proofs.YtjfmefdhfboliaaDoorW.PrintMore
open Num (dv Figs Canon canon_eq canon_decDigits figs_decDigits dv_decDigits dv_snoc twoPow lim twoPow_succ twoPow_le lim_digits nDigits_lt num? right? plainB figB cutMinus quo rest quo_tdiv rest_tmod)
open Go.Lib (decDigits nDigits decDigits_length itoa)

/-- An amount with a sign. -/
def sv (m : Bool) (n : Nat) : Int := if m = true then -(n : Int) else n
/-- What is told of a result, or of none. -/
def resP (o : Option Int) : ByteArray × Int :=
  match o with
  | some z => if z.natAbs < lim then (⟨(itoa z).toArray⟩, 0) else (⟨#[]⟩, 10)
  | none => (⟨#[]⟩, 1)

theorem sv_num (x : Int) : sv (decide (x < 0)) x.natAbs = x := by
  unfold sv
  by_cases h : x < 0
  · simp only [h, decide_true, if_true]; omega
  · simp only [h, decide_false, Bool.false_eq_true, if_false]; omega

/-- A result's end: its sign, and whether it is right. -/
def ends (m : Bool) (k : Nat) (u : ByteArray) : Option (ByteArray × Int) :=
  (demoticref09_signed.f u m).bind fun t => (demoticref09_Right.f k t).bind fun r => if r = true then some (t, (0 : Int)) else some ((⟨#[]⟩ : ByteArray), (10 : Int))

theorem tell_ev (n : Nat) (hn : nDigits n ≤ 100000) (m : Bool) : Ev (fun k => ends m k (dec n)) (resP (some (sv m n))) := by
  have hs := signed_eq n hn m
  have hz : (⟨(itoa (sv m n)).toArray⟩ : ByteArray).data.toList = itoa (sv m n) := rfl
  have hsz : (⟨(itoa (sv m n)).toArray⟩ : ByteArray).size ≤ 1000000 := by
    rw [size_len, hz]
    have : (itoa (sv m n)).length ≤ nDigits n + 1 := by
      unfold itoa sv
      have e : decDigits n = decDigits n := rfl
      cases m
      · simp only [Bool.false_eq_true, if_false]
        rw [if_neg (by omega), Int.toNat_natCast, decDigits_length]; omega
      · simp only [if_true]
        split
        · rw [List.length_cons, Int.natAbs_neg, Int.natAbs_natCast, decDigits_length]; omega
        · have : (-(n : Int)).toNat = 0 := by omega
          rw [this, decDigits_length, Go.Lib.nDigits_small (by decide)]; omega
    omega
  have hr := refRight_ev _ hsz
  rw [hz, right_itoa] at hr
  refine Ev.congr (f := fun k => (demoticref09_Right.f k ⟨(itoa (sv m n)).toArray⟩).bind fun r => if r = true then some ((⟨(itoa (sv m n)).toArray⟩ : ByteArray), (0 : Int)) else some ((⟨#[]⟩ : ByteArray), (10 : Int))) (fun k => ?_) (Ev.bind hr ?_)
  · unfold ends; rw [hs]; rfl
  · unfold resP
    by_cases h : (sv m n).natAbs < lim
    · refine Ev.congr (fun k => ?_) (Ev.now _)
      rw [if_pos (decide_eq_true h)]
      simp only [h, if_true]
    · refine Ev.congr (fun k => ?_) (Ev.now _)
      rw [if_neg (by simpa using h)]
      simp only [h, if_false]

theorem lim_dig {n : Nat} (h : n < lim) : nDigits n ≤ 155 := Num.nDigits_right h

section
variable (a b : ByteArray) (x y : Nat) (mx my : Bool) (lx : x < lim) (ly : y < lim) (op : ByteArray)
include lx ly

theorem sum_tell : Ev (fun k => demoticref09_Do.j2 k (dec x) mx (dec y) my op true) (resP (some (sv mx x + sv my y))) := by
  have dx := lim_dig lx
  have dy := lim_dig ly
  by_cases hs : mx = my
  · have ha := add_ev (dec x) (dec y) (dec_figs _) (dec_figs _) (by rw [dec_size]; omega) (by rw [dec_size]; omega)
    rw [dec_dv, dec_dv] at ha
    have hd : nDigits (x + y) ≤ 100000 := by
      have := nDigits_lt (k := 156) (u := x + y) (by
        have h1 := Nat.lt_trans lx lim_digits
        have h2 := Nat.lt_trans ly lim_digits
        have h3 : (10 : Nat) ^ 156 = 10 ^ 155 * 10 := Nat.pow_succ ..
        rw [h3]
        generalize (10 : Nat) ^ 155 = T at h1 h2
        omega) (by decide)
      omega
    have ht := tell_ev (x + y) hd mx
    have e : sv mx (x + y) = sv mx x + sv my y := by subst hs; unfold sv; cases mx <;> simp <;> omega
    rw [e] at ht
    refine Ev.step (fun k => ?_) (Ev.bind (f := ends mx) ha ht)
    rw [demoticref09_Do.j2, if_pos rfl, if_pos (by subst hs; simp)]; rfl
  · have hb := below_eq x y
    by_cases hlt : x < y
    · have ht := take_ev (dec y) (dec x) (dec_figs _) (dec_figs _) (by rw [dec_size]; omega) (by
        rw [dec_size, dec_size]
        rcases Nat.lt_or_ge (nDigits y) (nDigits x) with h | h
        · have := digits_lt h; omega
        · exact h) (by rw [dec_dv, dec_dv]; omega)
      rw [dec_dv, dec_dv] at ht
      have hd : nDigits (y - x) ≤ 100000 := by have := lim_dig (show y - x < lim by omega); omega
      have hz := tell_ev (y - x) hd my
      have e : sv my (y - x) = sv mx x + sv my y := by unfold sv; cases mx <;> cases my <;> simp at hs ⊢ <;> omega
      rw [e] at hz
      refine Ev.step (fun k => ?_) (Ev.bind (f := ends my) ht hz)
      rw [demoticref09_Do.j2, if_pos rfl, if_neg (by simpa using hs), hb, decide_eq_true hlt, Option.bind_some, if_pos rfl]; rfl
    · have ht := take_ev (dec x) (dec y) (dec_figs _) (dec_figs _) (by rw [dec_size]; omega) (by
        rw [dec_size, dec_size]
        rcases Nat.lt_or_ge (nDigits x) (nDigits y) with h | h
        · have := digits_lt h; omega
        · exact h) (by rw [dec_dv, dec_dv]; omega)
      rw [dec_dv, dec_dv] at ht
      have hd : nDigits (x - y) ≤ 100000 := by have := lim_dig (show x - y < lim by omega); omega
      have hz := tell_ev (x - y) hd mx
      have e : sv mx (x - y) = sv mx x + sv my y := by unfold sv; cases mx <;> cases my <;> simp at hs ⊢ <;> omega
      rw [e] at hz
      refine Ev.step (fun k => ?_) (Ev.bind (f := ends mx) ht hz)
      rw [demoticref09_Do.j2, if_pos rfl, if_neg (by simpa using hs), hb, decide_eq_false hlt, Option.bind_some, if_neg (by decide)]; rfl

theorem times_tell : Ev (fun k => demoticref09_Do.j2 k (dec x) mx (dec y) my ⟨#[42]⟩ false) (resP (some (sv mx x * sv my y))) := by
  have dx := lim_dig lx
  have dy := lim_dig ly
  have ha := times_ev (dec x) (dec y) (dec_figs _) (dec_figs _) (by rw [dec_size]; omega) (by rw [dec_size]; omega)
  rw [dec_dv, dec_dv] at ha
  have hd : nDigits (x * y) ≤ 100000 := by
    have := nDigits_lt (k := nDigits x + nDigits y) (u := x * y) (by
      rw [Nat.pow_add]
      exact Nat.mul_lt_mul_of_lt_of_le (lt_pow x) (Nat.le_of_lt (lt_pow y)) (Nat.pow_pos (by decide))) (by have := nDigits_pos x; omega)
    omega
  have ht := tell_ev (x * y) hd (mx != my)
  have e : sv (mx != my) (x * y) = sv mx x * sv my y := by unfold sv; cases mx <;> cases my <;> simp [Int.mul_neg, Int.neg_mul]
  rw [e] at ht
  refine Ev.step (fun k => ?_) (Ev.bind (f := ends (mx != my)) ha ht)
  rw [demoticref09_Do.j2, if_neg (by decide), if_pos (by decide +kernel)]; rfl

theorem quot_tell (hy : y ≠ 0) : Ev (fun k => demoticref09_Do.j2 k (dec x) mx (dec y) my ⟨#[47]⟩ false) (resP (some ((sv mx x).tdiv (sv my y)))) := by
  have dx := lim_dig lx
  have dy := lim_dig ly
  have ha := divide_ev x y (by omega) (by omega) (by omega)
  have hd : nDigits (x / y) ≤ 100000 := by
    have := lim_dig (n := x / y) (Nat.lt_of_le_of_lt (Nat.div_le_self x y) lx)
    omega
  have ht := tell_ev (x / y) hd (mx != my)
  have e : sv (mx != my) (x / y) = (sv mx x).tdiv (sv my y) := by unfold sv; cases mx <;> cases my <;> simp [Int.neg_tdiv, Int.tdiv_neg]
  rw [e] at ht
  refine Ev.step (fun k => ?_) (Ev.bind (f := fun k p => ends (mx != my) k p.1) ha ht)
  rw [demoticref09_Do.j2, if_neg (by decide), if_neg (by decide +kernel), if_pos (by decide +kernel)]; rfl

theorem rest_tell (hy : y ≠ 0) : Ev (fun k => demoticref09_Do.j2 k (dec x) mx (dec y) my ⟨#[37]⟩ false) (resP (some ((sv mx x).tmod (sv my y)))) := by
  have dx := lim_dig lx
  have dy := lim_dig ly
  have ha := divide_ev x y (by omega) (by omega) (by omega)
  have hd : nDigits (x % y) ≤ 100000 := by
    have := lim_dig (n := x % y) (Nat.lt_of_le_of_lt (Nat.mod_le x y) lx)
    omega
  have ht := tell_ev (x % y) hd mx
  have e : sv mx (x % y) = (sv mx x).tmod (sv my y) := by unfold sv; cases mx <;> cases my <;> simp [Int.neg_tmod, Int.tmod_neg, Int.tmod_eq_emod_of_nonneg]
  rw [e] at ht
  refine Ev.step (fun k => ?_) (Ev.bind (f := fun k p => ends mx k p.2) ha ht)
  rw [demoticref09_Do.j2, if_neg (by decide), if_neg (by decide +kernel), if_neg (by decide +kernel)]; rfl
end

end Go.Proofs.YtjfmefdhfboliaaDoor.Ref
