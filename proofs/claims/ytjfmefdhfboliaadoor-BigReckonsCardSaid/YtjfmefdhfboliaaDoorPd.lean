/- What the references' functions of chapter 09 tell: quotient and rest, and what comes of two numbers. -/
import Derived.Test.YtjfmefdhfboliaaDoorPc
namespace Go.Proofs.YtjfmefdhfboliaaDoor.Ref
open Go.RowKit Go.Proofs.YtjfmefdhfboliaaDoorW.PrintWords Go.Proofs.YtjfmefdhfboliaaDoorW.PrintLast Go.Proofs.YtjfmefdhfboliaaDoorW.PrintMore
open Num (dv Figs Canon canon_eq canon_decDigits figs_decDigits dv_decDigits dv_snoc twoPow lim twoPow_succ twoPow_le lim_digits nDigits_lt num? right? plainB figB cutMinus quo rest quo_tdiv rest_tmod)
open Go.Lib (decDigits nDigits decDigits_length itoa)

theorem ba_append (s t : ByteArray) : (s ++ t).data.toList = s.data.toList ++ t.data.toList := by simp [ByteArray.data_append]
theorem one_extract (s : ByteArray) (i : Nat) (_h : i < s.size) (c : UInt8) (l : List UInt8) (hd : s.data.toList.drop i = c :: l) : (s.extract i (i + 1)).data.toList = [c] := by
  rw [ByteArray.data_extract, Array.toList_extract, List.extract_eq_drop_take', List.drop_take, hd, Nat.add_sub_cancel_left]
  rfl

theorem dec_digit {c : UInt8} (h : 48 ≤ c.toNat ∧ c.toNat ≤ 57) : decDigits (c.toNat - 48) = [c] := by
  rw [decDigits, dif_pos (by omega), Num.fig_toNat h]
theorem dec_step {r : Nat} (hr : r ≠ 0) {c : UInt8} (h : 48 ≤ c.toNat ∧ c.toNat ≤ 57) : decDigits (10 * r + (c.toNat - 48)) = decDigits r ++ [c] := by
  rw [decDigits, dif_neg (by omega), show (10 * r + (c.toNat - 48)) / 10 = r by omega, show (10 * r + (c.toNat - 48)) % 10 = c.toNat - 48 by omega, Num.fig_toNat h]

/-- The rest, a figure more. -/
theorem next_rest (r : Nat) {c : UInt8} (h : 48 ≤ c.toNat ∧ c.toNat ≤ 57) (e : ByteArray) (he : e.data.toList = [c]) : (if (dec r).toList = ([48] : List UInt8) then (⟨#[]⟩ : ByteArray) else dec r) ++ e = dec (10 * r + (c.toNat - 48)) := by
  apply ba_ext
  rw [ba_append, he, dec_list]
  by_cases hr : r = 0
  · subst hr
    rw [if_pos (by rw [ByteArray.toList_eq, dec_zero]), Nat.mul_zero, Nat.zero_add, dec_digit h]; rfl
  · rw [if_neg (fun e => hr (by
      have := dec_dv r
      rw [← ByteArray.toList_eq, e] at this
      simpa [dv] using this.symm)), dec_step hr h, dec_list]

theorem no_zero_ahead {n : Nat} (h : 1 < nDigits n) : (bt (dec n) 0 == 48) = false := by
  obtain ⟨c, hc, hb⟩ := bt_drop (dec n) 0 (by rw [dec_size]; omega)
  rw [List.drop_zero] at hc
  have hb' : bt (dec n) 0 = (c.toNat : Int) := hb
  rw [hb']
  apply beq_eq_false_iff_ne.2
  intro e
  have h48 : c = 48 := UInt8.toNat_inj.1 (by have : c.toNat = 48 := by omega
                                             simpa using this)
  rcases canon_decDigits n with e | ⟨_, hh, _⟩
  · have := congrArg List.length e
    rw [decDigits_length] at this
    simp at this; omega
  · apply hh
    rw [dec_list] at hc
    rw [hc, h48]; rfl

theorem ten_figs : (⟨#[48, 49, 50, 51, 52, 53, 54, 55, 56, 57]⟩ : ByteArray).size = 10 := rfl
theorem ten_extract (n : Nat) (h : n ≤ 9) : ((⟨#[48, 49, 50, 51, 52, 53, 54, 55, 56, 57]⟩ : ByteArray).extract n (n + 1)).data.toList = [UInt8.ofNat (48 + n)] := by
  refine one_extract _ n (by rw [ten_figs]; omega) _ ((([48, 49, 50, 51, 52, 53, 54, 55, 56, 57] : List UInt8)).drop (n + 1)) ?_
  have : n = 0 ∨ n = 1 ∨ n = 2 ∨ n = 3 ∨ n = 4 ∨ n = 5 ∨ n = 6 ∨ n = 7 ∨ n = 8 ∨ n = 9 := by omega
  rcases this with rfl | rfl | rfl | rfl | rfl | rfl | rfl | rfl | rfl | rfl <;> rfl

/-- How often the divisor goes into what is there: it is taken away. -/
theorem divide_l1 (a q : ByteArray) (y i : Nat) (r : ByteArray × ByteArray) (hq : q.size ≤ 1000000) (_hy : nDigits y ≤ 100000) (hi : i ≤ 1000000) (hy0 : 0 < y) : ∀ (m s n : Nat), s / y = m → n + m ≤ 9 → nDigits s ≤ 100000 →
    (Ev (fun k => demoticref09_divide.l0 k a (dec y) (q ++ ⟨#[UInt8.ofNat (48 + (n + m))]⟩) (dec (s % y)) ((i + 1 : Nat) : Int)) r) →
    Ev (fun k => demoticref09_divide.l1 k a (dec y) q (dec s) (i : Int) (n : Int)) r := by
  intro m
  induction m with
  | zero =>
    intro s n hm hn hs next
    have hlt : s < y := by
      rcases Nat.lt_or_ge s y with h | h
      · exact h
      · have := Nat.div_pos h hy0; omega
    rw [Nat.mod_eq_of_lt hlt, Nat.add_zero] at next
    refine Ev.step (fun k => ?_) next
    simp only [demoticref09_divide.l1]
    rw [below_eq, decide_eq_true hlt]
    rw [Option.bind_some, if_pos rfl]
    have e1 : wrap64 ((n : Int) + 1) = ((n + 1 : Nat) : Int) := by rw [w64 (by omega)]; rfl
    have e2 : ((⟨#[48, 49, 50, 51, 52, 53, 54, 55, 56, 57]⟩ : ByteArray).extract n (n + 1)) = ⟨#[UInt8.ofNat (48 + n)]⟩ := ba_ext (ten_extract n (by omega))
    have e3 : wrap64 ((i : Int) + 1) = ((i + 1 : Nat) : Int) := by rw [w64 (by omega)]; rfl
    have c1 : (0 : Int) ≤ (n : Int) := by omega
    have c2 : (n : Int) ≤ ((n + 1 : Nat) : Int) := by omega
    have c3 : ((n + 1 : Nat) : Int) ≤ 10 := by omega
    obtain ⟨e, he⟩ : ∃ e : ByteArray, e = ⟨#[UInt8.ofNat (48 + n)]⟩ := ⟨_, rfl⟩
    have hz : e.size = 1 := by rw [he]; rfl
    have c4 : q.size + e.size ≤ 9223372036854775807 := by omega
    rw [← he] at e2 ⊢
    rw [e1, Int.toNat_natCast, Int.toNat_natCast, e2, e3, if_pos c1, if_pos c2, if_pos c3, if_pos c4]
  | succ m ih =>
    intro s n hm hn hs next
    have hge : y ≤ s := by
      rcases Nat.lt_or_ge s y with h | h
      · rw [Nat.div_eq_of_lt h] at hm; omega
      · exact h
    have hle : nDigits y ≤ nDigits s := by
      rcases Nat.lt_or_ge (nDigits s) (nDigits y) with h | h
      · have := digits_lt h; omega
      · exact h
    have ht := take_ev (dec s) (dec y) (dec_figs _) (dec_figs _) (by rw [dec_size]; omega) (by rw [dec_size, dec_size]; exact hle) (by rw [dec_dv, dec_dv]; exact hge)
    rw [dec_dv, dec_dv] at ht
    have hs' : nDigits (s - y) ≤ 100000 := by
      rcases Nat.lt_or_ge (nDigits s) (nDigits (s - y)) with h | h
      · have := digits_lt h; omega
      · omega
    have hdm : (s - y) / y = m := by
      have := Nat.sub_mul_div s y 1
      rw [Nat.mul_one] at this
      omega
    have hmm : (s - y) % y = s % y := (Nat.mod_eq_sub_mod hge).symm
    refine Ev.step (f := fun k => (demoticref09_take.f k (dec s) (dec y)).bind fun t => demoticref09_divide.l1 k a (dec y) q t (i : Int) ((n + 1 : Nat) : Int)) (fun k => ?_) (Ev.bind ht (ih (s - y) (n + 1) hdm (by omega) hs' ?_))
    · simp only [demoticref09_divide.l1]
      rw [below_eq, decide_eq_false (by omega)]
      simp only [Option.bind_some, Bool.false_eq_true, if_false]
      rw [w64 (e := (n : Int) + 1) (by omega)]; rfl
    · rw [hmm, show n + 1 + m = n + (m + 1) by omega]; exact next

theorem divide_l2 (t : ByteArray) : ∀ (l : List UInt8), Figs l → l ≠ [] → l.length ≤ 1000000 → Ev (fun k => demoticref09_divide.l2 k ⟨l.toArray⟩ t) (dec (dv l), t)
  | [], _, h, _ => absurd rfl h
  | c :: l, hf, _, hl => by
    have hsz : (⟨(c :: l).toArray⟩ : ByteArray).size = l.length + 1 := rfl
    obtain ⟨c', hc', hb⟩ := bt_drop (⟨(c :: l).toArray⟩ : ByteArray) 0 (by rw [hsz]; omega)
    obtain rfl : c' = c := by simpa using (List.cons.inj hc').1.symm
    have hb' : bt (⟨(c' :: l).toArray⟩ : ByteArray) 0 = (c'.toNat : Int) := hb
    have stop : Canon (c' :: l) → (some ((⟨(c' :: l).toArray⟩ : ByteArray), t)) = some (dec (dv (c' :: l)), t) := fun hc => by
      congr 2
      apply ba_ext
      exact canon_eq hc
    by_cases h1 : l = []
    · subst h1
      have hc : Canon [c'] := by
        by_cases h : c' = 48
        · subst h; exact .inl rfl
        · exact .inr ⟨by simp, by simpa using h, hf⟩
      refine Ev.congr (f := fun k => demoticref09_divide.l2 k ⟨[c'].toArray⟩ t) (fun _ => rfl) (Ev.step (f := fun _ => some (dec (dv [c']), t)) (fun k => ?_) (Ev.now _))
      simp only [demoticref09_divide.l2]
      rw [if_neg (by rw [hsz]; simp)]
      exact stop hc
    · have hl1 : 0 < l.length := List.length_pos_iff.2 h1
      by_cases h48 : c' = 48
      · have hff : Figs l := fun x hx => hf x (List.mem_cons_of_mem _ hx)
        have hext : (⟨(c' :: l).toArray⟩ : ByteArray).extract 1 (⟨(c' :: l).toArray⟩ : ByteArray).size = ⟨l.toArray⟩ := by
          apply ba_ext
          rw [tail_extract _ c' l (by simp)]
        have hdv : dv (c' :: l) = dv l := by rw [dv_cons, h48]; simp
        rw [hdv]
        refine Ev.step (fun k => ?_) (divide_l2 t l hff h1 (by simp at hl; omega))
        simp only [demoticref09_divide.l2]
        rw [if_pos (by rw [hsz]; omega), if_pos (by rw [hsz]; omega), hb', if_pos (by rw [h48]; rfl), if_pos (by rw [hsz]; omega), hext]
      · have hc : Canon (c' :: l) := .inr ⟨by simp, by simpa using h48, hf⟩
        refine Ev.step (f := fun _ => some (dec (dv (c' :: l)), t)) (fun k => ?_) (Ev.now _)
        simp only [demoticref09_divide.l2]
        have h2 : c'.toNat ≠ 48 := fun e => h48 (UInt8.toNat_inj.1 (by simpa using e))
        rw [if_pos (by rw [hsz]; omega), if_pos (by rw [hsz]; omega), hb', if_neg (by omega)]
        exact stop hc

theorem fig_value {c : UInt8} (h : 48 ≤ c.toNat ∧ c.toNat ≤ 57) : c.toNat - 48 ≤ 9 := by omega

theorem divide_l0 (x y : Nat) (hx : nDigits x ≤ 1000) (hy : nDigits y ≤ 1000) (hy0 : 0 < y) : ∀ (n i : Nat), i + n = nDigits x → ∀ q : List UInt8, Figs q → q.length = i → dv q = dv ((decDigits x).take i) / y →
    Ev (fun k => demoticref09_divide.l0 k (dec x) (dec y) ⟨q.toArray⟩ (dec (dv ((decDigits x).take i) % y)) (i : Int)) (dec (x / y), dec (x % y)) := by
  intro n
  induction n with
  | zero =>
    intro i hi q hq hql hqv
    have hp := nDigits_pos x
    have ht : (decDigits x).take i = decDigits x := List.take_of_length_le (by rw [decDigits_length]; omega)
    rw [ht, dv_decDigits] at hqv ⊢
    have h2 := divide_l2 (dec (x % y)) q hq (fun e => by rw [e] at hql; simp at hql; omega) (by omega)
    rw [hqv] at h2
    refine Ev.step (fun k => ?_) h2
    simp only [demoticref09_divide.l0]
    rw [if_neg (by rw [dec_size]; omega)]
  | succ n ih =>
    intro i hi q hq hql hqv
    have hlt : i < nDigits x := by omega
    have hll : i < (decDigits x).length := by rw [decDigits_length]; exact hlt
    obtain ⟨c, hc, hb⟩ := bt_drop (dec x) i (by rw [dec_size]; exact hlt)
    rw [dec_list] at hc
    have hcf : 48 ≤ c.toNat ∧ c.toNat ≤ 57 := figs_decDigits x c (by
      have := List.mem_of_mem_drop (i := i) (a := c) (l := decDigits x) (by rw [hc]; exact List.mem_cons_self)
      exact this)
    have htk : (decDigits x).take (i + 1) = (decDigits x).take i ++ [c] := by
      rw [List.take_succ_eq_append_getElem hll]
      have := List.drop_eq_getElem_cons hll
      rw [hc] at this
      rw [(List.cons.inj this).1]
    have hdv : dv ((decDigits x).take (i + 1)) = 10 * dv ((decDigits x).take i) + (c.toNat - 48) := by rw [htk, dv_snoc]
    obtain ⟨P, hP⟩ : ∃ P, dv ((decDigits x).take i) = P := ⟨_, rfl⟩
    obtain ⟨d, hd⟩ : ∃ d, c.toNat - 48 = d := ⟨_, rfl⟩
    have hd9 : d ≤ 9 := by omega
    rw [hP] at hqv hdv ⊢
    rw [hd] at hdv
    -- what is left, with the figure
    obtain ⟨R, hR⟩ : ∃ R, P % y = R := ⟨_, rfl⟩
    have hRy : R < y := by rw [← hR]; exact Nat.mod_lt _ hy0
    have hPy : P = y * (P / y) + R := by rw [← hR]; exact (Nat.div_add_mod P y).symm
    obtain ⟨S, hS⟩ : ∃ S, 10 * R + d = S := ⟨_, rfl⟩
    have hS10 : S < 10 * y := by omega
    have hm9 : S / y ≤ 9 := by
      have : S / y < 10 := Nat.div_lt_of_lt_mul (by rw [Nat.mul_comm]; exact hS10)
      omega
    have hsum : 10 * P + d = y * (10 * (P / y)) + S := by
      have e : y * (10 * (P / y)) = 10 * (y * (P / y)) := by grind
      rw [e]; omega
    have hdiv : (10 * P + d) / y = 10 * (P / y) + S / y := by rw [hsum, Nat.mul_add_div hy0]
    have hmod : (10 * P + d) % y = S % y := by rw [hsum, Nat.mul_add_mod]
    have hSd : nDigits S ≤ 100000 := by
      have h1 := lt_pow y
      have h2 : (10 : Nat) ^ (nDigits y + 1) = 10 ^ nDigits y * 10 := Nat.pow_succ ..
      have h3 := nDigits_lt (k := nDigits y + 1) (u := S) (by rw [h2]; omega) (by omega)
      omega
    obtain ⟨Q, hQ⟩ : ∃ Q, S / y = Q := ⟨_, rfl⟩
    rw [hQ] at hm9 hdiv
    -- the quotient's next figure
    have hqz : (⟨q.toArray⟩ : ByteArray).size = i := by rw [size_len]; simpa using hql
    have hfig : (UInt8.ofNat (48 + Q)).toNat = 48 + Q := Num.toNat_fig _ (by omega)
    have hnext := ih (i + 1) (by omega) (q ++ [UInt8.ofNat (48 + Q)]) (hq.append fun z hz => by
        rw [List.mem_singleton.1 hz, hfig]; omega) (by simp [hql]) (by rw [dv_snoc, hfig, hqv, hdv, hdiv]; omega)
    rw [hdv, hmod] at hnext
    have happ : (⟨(q ++ [UInt8.ofNat (48 + Q)]).toArray⟩ : ByteArray) = ⟨q.toArray⟩ ++ ⟨#[UInt8.ofNat (48 + Q)]⟩ := by
      apply ba_ext
      rw [ba_append]
    rw [happ] at hnext
    have h1 := divide_l1 (dec x) ⟨q.toArray⟩ y i (dec (x / y), dec (x % y)) (by omega) (by omega) (by omega) hy0 Q S 0 hQ (by omega) hSd (by rw [Nat.zero_add]; exact hnext)
    have h3 : Ev (fun k => demoticref09_divide.j2 k (dec x) (dec y) ⟨q.toArray⟩ (dec S) (i : Int) false) (dec (x / y), dec (x % y)) := by
      refine Ev.step (f := fun k => demoticref09_divide.j3 k (dec x) (dec y) ⟨q.toArray⟩ (dec S) (i : Int)) (fun k => ?_) (Ev.step (fun k => ?_) h1)
      · simp only [demoticref09_divide.j2]
        rw [if_neg (by decide)]
      · simp only [demoticref09_divide.j3]
        rfl
    have hex : ((dec x).extract i (i + 1)).data.toList = [c] := one_extract _ i (by rw [dec_size]; exact hlt) c _ (by rw [dec_list]; exact hc)
    have hnr := next_rest R hcf _ hex
    rw [hd, hS] at hnr
    have h4 : ∀ u : ByteArray, u ++ (dec x).extract i (i + 1) = dec S → u.size ≤ 100000 → Ev (fun k => demoticref09_divide.j1 k (dec x) (dec y) ⟨q.toArray⟩ u (i : Int)) (dec (x / y), dec (x % y)) := fun u hu hus => by
      refine Ev.step (fun k => ?_) h3
      have c1 : (0 : Int) ≤ (i : Int) := by omega
      have c2 : (i : Int) ≤ ((i + 1 : Nat) : Int) := by omega
      have c3 : ((i + 1 : Nat) : Int) ≤ ((dec x).size : Int) := by rw [dec_size]; omega
      have c5 : 1 < nDigits S → ((dec S).size : Int) > 1 ∧ 0 < ((dec S).size : Int) := fun h => by rw [dec_size]; omega
      have c6 : ¬ 1 < nDigits S → ¬ ((dec S).size : Int) > 1 := fun h => by rw [dec_size]; omega
      have e1 : wrap64 ((i : Int) + 1) = ((i + 1 : Nat) : Int) := by rw [w64 (by omega)]; rfl
      have hez : ((dec x).extract i (i + 1)).size = 1 := by rw [size_len, hex]; rfl
      have c4 : u.size + ((dec x).extract i (i + 1)).size ≤ 9223372036854775807 := by
        rw [hez]
        exact Nat.le_trans (Nat.add_le_add_right hus 1) (by decide)
      rw [demoticref09_divide.j1]
      rw [e1, Int.toNat_natCast, Int.toNat_natCast, hu, if_pos c1, if_pos c2, if_pos c3, if_pos c4]
      by_cases hs1 : 1 < nDigits S
      · rw [if_pos (c5 hs1).1, if_pos (c5 hs1).2, no_zero_ahead hs1]
      · rw [if_neg (c6 hs1)]
    by_cases h0 : (dec R).toList = ([48] : List UInt8)
    · rw [if_pos h0] at hnr
      refine Ev.step (fun k => ?_) (h4 ⟨#[]⟩ hnr (by decide))
      simp only [demoticref09_divide.l0]
      rw [if_pos (by rw [dec_size]; omega), hR, if_pos h0]
    · rw [if_neg h0] at hnr
      have hRd : nDigits R ≤ 1000 := by
        rcases Nat.lt_or_ge (nDigits y) (nDigits R) with h | h
        · have := digits_lt h; omega
        · omega
      refine Ev.step (fun k => ?_) (h4 (dec R) hnr (by rw [dec_size]; omega))
      simp only [demoticref09_divide.l0]
      rw [if_pos (by rw [dec_size]; omega), hR, if_neg h0]

theorem divide_ev (x y : Nat) (hx : nDigits x ≤ 1000) (hy : nDigits y ≤ 1000) (hy0 : 0 < y) : Ev (fun k => demoticref09_divide.f k (dec x) (dec y)) (dec (x / y), dec (x % y)) := by
  have h := divide_l0 x y hx hy hy0 (nDigits x) 0 (by omega) [] (by intro c hc; cases hc) rfl (by simp [dv])
  rw [List.take_zero, show dv [] % y = 0 by simp [dv], dec_zero] at h
  exact h

end Go.Proofs.YtjfmefdhfboliaaDoor.Ref
