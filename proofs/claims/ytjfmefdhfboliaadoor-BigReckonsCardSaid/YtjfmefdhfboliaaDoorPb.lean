/- What the references' functions of chapter 09 tell: sum, difference, product. -/
import Derived.Test.YtjfmefdhfboliaaDoorPa
namespace Go.Proofs.YtjfmefdhfboliaaDoor.Ref
open Go.RowKit Go.Proofs.YtjfmefdhfboliaaDoorW.PrintWords Go.Proofs.YtjfmefdhfboliaaDoorW.PrintLast Go.Proofs.YtjfmefdhfboliaaDoorW.PrintMore
open Num (dv Figs Canon canon_eq canon_decDigits figs_decDigits dv_decDigits dv_snoc)
open Go.Lib (decDigits nDigits decDigits_length)

theorem mx_max (a b : Nat) : mx (a : Int) (b : Int) = ((max a b : Nat) : Int) := by unfold mx; split <;> omega

theorem add_l0 (a b : ByteArray) (ha : Figs a.data.toList) (hb : Figs b.data.toList) (sa : a.size ≤ 100000) (sb : b.size ≤ 100000) : ∀ (n i : Nat), i + n = max a.size b.size + 1 →
    Ev (fun k => demoticref09_add.l0 k a b (Ten.addTo (digs a.data.toList) (digs b.data.toList) i).1 (Ten.addTo (digs a.data.toList) (digs b.data.toList) i).2 (i : Int)) (dec (dv a.data.toList + dv b.data.toList)) := by
  have dA := digs_dig ha
  have dB := digs_dig hb
  intro n
  induction n with
  | zero =>
    intro i hi
    obtain ⟨h1, h2, h3, h4, h5⟩ := Ten.addTo_inv dA dB i
    have hv : Ten.val (Ten.addTo (digs a.data.toList) (digs b.data.toList) i).1 = dv a.data.toList + dv b.data.toList := by
      have := Ten.val_addL dA dB
      rw [digs_val ha, digs_val hb] at this
      unfold Ten.addL at this
      rw [digs_length, digs_length, ← size_len, ← size_len, show max a.size b.size + 1 = i by omega] at this
      exact this
    have hp := plain_ev _ h2 (by omega)
    rw [hv, show (((dv a.data.toList : Nat) : Int) + ((dv b.data.toList : Nat) : Int)).toNat = dv a.data.toList + dv b.data.toList by omega] at hp
    refine Ev.step (f := fun k => (demoticref09_plain.f k (Ten.addTo (digs a.data.toList) (digs b.data.toList) i).1).bind fun t => some t) (fun k => ?_) (Ev.bind hp (Ev.now _))
    simp only [demoticref09_add.l0]
    rw [mx_max, if_neg (by omega)]
  | succ n ih =>
    intro i hi
    obtain ⟨h1, h2, h3, h4, h5⟩ := Ten.addTo_inv dA dB i
    have da := D_mem dA i
    have db := D_mem dB i
    refine Ev.step (fun k => ?_) (ih (i + 1) (by omega))
    simp only [demoticref09_add.l0]
    rw [mx_max, if_pos (by omega), at_eq a (by omega) i (by omega), at_eq b (by omega) i (by omega)]
    simp only [Option.bind_some]
    rw [if_pos (by omega), w64 (e := Ten.D (digs a.data.toList) i + Ten.D (digs b.data.toList) i) (by omega), w64 (e := Ten.D (digs a.data.toList) i + Ten.D (digs b.data.toList) i + _) (by omega),
      Int.tmod_eq_emod_of_nonneg (by omega), Int.tdiv_eq_ediv_of_nonneg (by omega), w64 (e := _ / 10) (by omega), w64 (e := (i : Int) + 1) (by omega)]
    rfl

theorem add_ev (a b : ByteArray) (ha : Figs a.data.toList) (hb : Figs b.data.toList) (sa : a.size ≤ 100000) (sb : b.size ≤ 100000) : Ev (fun k => demoticref09_add.f k a b) (dec (dv a.data.toList + dv b.data.toList)) :=
  add_l0 a b ha hb sa sb (max a.size b.size + 1) 0 (by omega)

theorem take_l0 (a b : ByteArray) (ha : Figs a.data.toList) (hb : Figs b.data.toList) (sa : a.size ≤ 100000) (sb : b.size ≤ a.size) (hle : dv b.data.toList ≤ dv a.data.toList) : ∀ (n i : Nat), i + n = a.size →
    Ev (fun k => demoticref09_take.l0 k a b (Ten.takeTo (digs a.data.toList) (digs b.data.toList) i).1 (Ten.takeTo (digs a.data.toList) (digs b.data.toList) i).2 (i : Int)) (dec (dv a.data.toList - dv b.data.toList)) := by
  have dA := digs_dig ha
  have dB := digs_dig hb
  intro n
  induction n with
  | zero =>
    intro i hi
    obtain ⟨h1, h2, h3, h4, h5⟩ := Ten.takeTo_inv dA dB i
    have hv : Ten.val (Ten.takeTo (digs a.data.toList) (digs b.data.toList) i).1 = dv a.data.toList - dv b.data.toList := by
      have := Ten.val_takeL dA dB (by rw [digs_length, digs_length, ← size_len, ← size_len]; exact sb) (by rw [digs_val ha, digs_val hb]; omega)
      rw [digs_val ha, digs_val hb] at this
      unfold Ten.takeL at this
      rw [digs_length, ← size_len, show a.size = i by omega] at this
      exact this
    have hp := plain_ev _ h2 (by omega)
    rw [hv, show (((dv a.data.toList : Nat) : Int) - ((dv b.data.toList : Nat) : Int)).toNat = dv a.data.toList - dv b.data.toList by omega] at hp
    refine Ev.step (f := fun k => (demoticref09_plain.f k (Ten.takeTo (digs a.data.toList) (digs b.data.toList) i).1).bind fun t => some t) (fun k => ?_) (Ev.bind hp (Ev.now _))
    simp only [demoticref09_take.l0]
    rw [if_neg (by omega)]
  | succ n ih =>
    intro i hi
    obtain ⟨h1, h2, h3, h4, h5⟩ := Ten.takeTo_inv dA dB i
    have da := D_mem dA i
    have db := D_mem dB i
    refine Ev.step (fun k => ?_) (ih (i + 1) (by omega))
    simp only [demoticref09_take.l0]
    rw [if_pos (by omega), at_eq a (by omega) i (by omega), at_eq b (by omega) i (by omega)]
    simp only [Option.bind_some]
    rw [w64 (e := Ten.D (digs a.data.toList) i - Ten.D (digs b.data.toList) i) (by omega), w64 (e := Ten.D (digs a.data.toList) i - Ten.D (digs b.data.toList) i - _) (by omega), w64 (e := (i : Int) + 1) (by omega), w64 (e := _ + 10) (by omega)]
    by_cases hlt : Ten.D (digs a.data.toList) i - Ten.D (digs b.data.toList) i - (Ten.takeTo (digs a.data.toList) (digs b.data.toList) i).2 < 0
    · rw [if_pos hlt, if_pos (by omega)]
      simp only [Ten.takeTo, if_pos hlt]
      rfl
    · rw [if_neg hlt, if_pos (by omega)]
      simp only [Ten.takeTo, if_neg hlt]
      rfl

theorem take_ev (a b : ByteArray) (ha : Figs a.data.toList) (hb : Figs b.data.toList) (sa : a.size ≤ 100000) (sb : b.size ≤ a.size) (hle : dv b.data.toList ≤ dv a.data.toList) : Ev (fun k => demoticref09_take.f k a b) (dec (dv a.data.toList - dv b.data.toList)) :=
  take_l0 a b ha hb sa sb hle a.size 0 (by omega)


/-! ### The product -/

theorem times_l1 (a b : ByteArray) (L : List Int) (i : Nat) (hL : Ten.Dig L) (dA : Ten.Dig (digs a.data.toList)) (dB : Ten.Dig (digs b.data.toList)) (sa : a.size ≤ 100000) (sb : b.size ≤ 100000) (hi : i < a.size) (hl : L.length = a.size + b.size + 1) (r : ByteArray)
    (next : Ev (fun k => demoticref09_times.l0 k a b (Ten.rowTo L (digs b.data.toList) (Ten.D (digs a.data.toList) i) i (b.size + 1)).1 ((i + 1 : Nat) : Int)) r) : ∀ (n j : Nat), j + n = b.size + 1 →
    Ev (fun k => demoticref09_times.l1 k a b (Ten.rowTo L (digs b.data.toList) (Ten.D (digs a.data.toList) i) i j).1 (i : Int) (Ten.rowTo L (digs b.data.toList) (Ten.D (digs a.data.toList) i) i j).2 (j : Int)) r := by
  have da := D_mem dA i
  intro n
  induction n with
  | zero =>
    intro j hj
    obtain rfl : j = b.size + 1 := by omega
    refine Ev.step (fun k => ?_) next
    simp only [demoticref09_times.l1]
    rw [if_neg (by omega), w64 (e := (i : Int) + 1) (by omega)]
    rfl
  | succ n ih =>
    intro j hj
    obtain ⟨h1, h2, h3, h4, h5⟩ := Ten.rowTo_inv (i := i) hL dB da j (by omega)
    have db := D_mem dB j
    have dr := D_mem h2 (i + j)
    have dm := Ten.mul_dig da db
    have hrd := rd_D (L := (Ten.rowTo L (digs b.data.toList) (Ten.D (digs a.data.toList) i) i j).1) (i := i + j) (by omega)
    refine Ev.step (fun k => ?_) (ih (j + 1) (by omega))
    simp only [demoticref09_times.l1]
    have e : (i : Int) + (j : Int) = ((i + j : Nat) : Int) := by omega
    rw [if_pos (by omega), w64 (e := (i : Int) + j) (by omega), e, if_pos (by omega), if_pos (by omega), at_eq a (by omega) i (by omega), at_eq b (by omega) j (by omega)]
    simp only [Option.bind_some]
    rw [hrd, w64 (e := Ten.D (digs a.data.toList) i * Ten.D (digs b.data.toList) j) (by omega), w64 (e := Ten.D _ (i + j) + _) (by omega), w64 (e := Ten.D _ (i + j) + _ + _) (by omega),
      Int.tmod_eq_emod_of_nonneg (by omega), Int.tdiv_eq_ediv_of_nonneg (by omega), w64 (e := _ / 10) (by omega), w64 (e := (j : Int) + 1) (by omega)]
    rfl

theorem times_l0 (a b : ByteArray) (ha : Figs a.data.toList) (hb : Figs b.data.toList) (sa : a.size ≤ 100000) (sb : b.size ≤ 100000) : ∀ (n i : Nat), i + n = a.size →
    Ev (fun k => demoticref09_times.l0 k a b (Ten.mulTo (digs a.data.toList) (digs b.data.toList) i) (i : Int)) (dec (dv a.data.toList * dv b.data.toList)) := by
  have dA := digs_dig ha
  have dB := digs_dig hb
  have la : (digs a.data.toList).length = a.size := by rw [digs_length, ← size_len]
  have lb : (digs b.data.toList).length = b.size := by rw [digs_length, ← size_len]
  intro n
  induction n with
  | zero =>
    intro i hi
    obtain rfl : i = a.size := by omega
    obtain ⟨h1, h2, h3⟩ := Ten.mulTo_inv dA dB a.size (by omega)
    rw [List.take_of_length_le (by omega), digs_val ha, digs_val hb] at h3
    have hp := plain_ev _ h2 (by omega)
    rw [h3, show (((dv a.data.toList : Nat) : Int) * ((dv b.data.toList : Nat) : Int)).toNat = dv a.data.toList * dv b.data.toList by rw [← Int.natCast_mul]; omega] at hp
    refine Ev.step (f := fun k => (demoticref09_plain.f k (Ten.mulTo (digs a.data.toList) (digs b.data.toList) a.size)).bind fun t => some t) (fun k => ?_) (Ev.bind hp (Ev.now _))
    simp only [demoticref09_times.l0]
    rw [if_neg (by omega)]
  | succ n ih =>
    intro i hi
    obtain ⟨h1, h2, h3⟩ := Ten.mulTo_inv dA dB i (by omega)
    have hn := ih (i + 1) (by omega)
    rw [show Ten.mulTo (digs a.data.toList) (digs b.data.toList) (i + 1) = (Ten.rowTo (Ten.mulTo (digs a.data.toList) (digs b.data.toList) i) (digs b.data.toList) (Ten.D (digs a.data.toList) i) i ((digs b.data.toList).length + 1)).1 from rfl, lb] at hn
    refine Ev.step (fun k => ?_) (times_l1 a b _ i h2 dA dB sa sb (by omega) (by omega) _ hn (b.size + 1) 0 (by omega))
    simp only [demoticref09_times.l0]
    rw [if_pos (by omega)]
    rfl

theorem times_ev (a b : ByteArray) (ha : Figs a.data.toList) (hb : Figs b.data.toList) (sa : a.size ≤ 100000) (sb : b.size ≤ 100000) : Ev (fun k => demoticref09_times.f k a b) (dec (dv a.data.toList * dv b.data.toList)) := by
  have la : (digs a.data.toList).length = a.size := by rw [digs_length, ← size_len]
  have lb : (digs b.data.toList).length = b.size := by rw [digs_length, ← size_len]
  refine Ev.congr (fun k => ?_) (times_l0 a b ha hb sa sb a.size 0 (by omega))
  unfold demoticref09_times.f
  have e : ((a.size : Int) + (b.size : Int)) + 1 = ((a.size + b.size + 1 : Nat) : Int) := by omega
  rw [w64 (e := (a.size : Int) + b.size) (by omega), w64 (by omega), e, if_pos (by omega), Int.toNat_natCast, if_pos (by omega)]
  unfold Ten.mulTo
  rw [la, lb]
  rfl

/-! ### Which is below, and signs -/

theorem dv_cons (c : UInt8) (l : List UInt8) : dv (c :: l) = (c.toNat - 48) * 10 ^ l.length + dv l := by
  rw [show c :: l = [c] ++ l from rfl, Num.dv_append]
  simp [dv]

theorem less_dv : ∀ (l m : List UInt8), Figs l → Figs m → l.length = m.length → Op.bytesLess l m = decide (dv l < dv m)
  | [], [], _, _, _ => by simp [Op.bytesLess]
  | [], _ :: _, _, _, h => by simp at h
  | _ :: _, [], _, _, h => by simp at h
  | c :: l, d :: m, hl, hm, h => by
    have hc := hl c List.mem_cons_self
    have hd := hm d List.mem_cons_self
    have fl : Figs l := fun x hx => hl x (List.mem_cons_of_mem _ hx)
    have fm : Figs m := fun x hx => hm x (List.mem_cons_of_mem _ hx)
    have h' : l.length = m.length := by simpa using h
    have ll : dv l < 10 ^ m.length := by rw [← h']; exact Num.dv_lt fl
    have lm := Num.dv_lt fm
    rw [Op.bytesLess, less_dv l m fl fm h', dv_cons, dv_cons, h']
    obtain ⟨T, hT⟩ : ∃ T, 10 ^ m.length = T := ⟨_, rfl⟩
    rw [hT] at ll lm ⊢
    obtain ⟨x, hx⟩ : ∃ x, c.toNat - 48 = x := ⟨_, rfl⟩
    obtain ⟨y, hy⟩ : ∃ y, d.toNat - 48 = y := ⟨_, rfl⟩
    rw [hx, hy]
    rcases Nat.lt_trichotomy x y with hxy | hxy | hxy
    · have h1 : c < d := UInt8.lt_iff_toNat_lt.2 (by omega)
      have h2 : (x + 1) * T ≤ y * T := Nat.mul_le_mul_right _ hxy
      rw [Nat.add_mul] at h2
      simp [h1]; omega
    · have h1 : c = d := UInt8.toNat_inj.1 (by omega)
      subst h1 hxy
      simp
    · have h1 : ¬ c < d := fun h => by have := UInt8.lt_iff_toNat_lt.1 h; omega
      have h3 : c ≠ d := by rintro rfl; omega
      have h2 : (y + 1) * T ≤ x * T := Nat.mul_le_mul_right _ hxy
      rw [Nat.add_mul] at h2
      have h4 : (c == d) = false := beq_eq_false_iff_ne.2 h3
      rw [h4]; simp [h1]; omega

theorem dec_list (n : Nat) : (dec n).data.toList = decDigits n := rfl
theorem dec_size (n : Nat) : (dec n).size = nDigits n := by rw [size_len, dec_list, decDigits_length]
theorem dec_figs (n : Nat) : Figs (dec n).data.toList := figs_decDigits n
theorem dec_dv (n : Nat) : dv (dec n).data.toList = n := dv_decDigits n
theorem lt_pow (n : Nat) : n < 10 ^ nDigits n := by
  have := Num.dv_lt (figs_decDigits n)
  rwa [dv_decDigits, decDigits_length] at this
theorem nDigits_pos (n : Nat) : 1 ≤ nDigits n := by
  rw [← decDigits_length]
  have := Num.decDigits_ne n
  cases h : decDigits n with
  | nil => exact absurd h this
  | cons x l => simp
theorem digits_lt {x y : Nat} (h : nDigits x < nDigits y) : x < y := by
  obtain ⟨k, hk⟩ : ∃ k, nDigits y = k + 1 := ⟨nDigits y - 1, by omega⟩
  have hp := nDigits_pos x
  rcases Num.nDigits_ge k y (by omega) with e | e
  · omega
  · exact Nat.lt_of_lt_of_le (lt_pow x) (Nat.le_trans (Nat.pow_le_pow_right (by decide) (by omega)) e)

theorem below_eq (x y : Nat) : demoticref09_below.f (dec x) (dec y) = some (decide (x < y)) := by
  unfold demoticref09_below.f
  rw [dec_size, dec_size]
  by_cases h : nDigits x = nDigits y
  · rw [if_pos (by omega), ByteArray.toList_eq, ByteArray.toList_eq, less_dv _ _ (dec_figs x) (dec_figs y) (by rw [← size_len, ← size_len, dec_size, dec_size]; exact h), dec_dv, dec_dv]
  · rw [if_neg (by omega)]
    congr 1
    rw [decide_eq_decide]
    constructor
    · intro h'
      exact digits_lt (by omega)
    · intro h'
      rcases Nat.lt_trichotomy (nDigits x) (nDigits y) with e | e | e
      · omega
      · exact absurd e h
      · have := digits_lt e; omega

theorem dec_zero : dec 0 = ⟨#[48]⟩ := by simp [dec, decDigits]
theorem dec_inj {x y : Nat} (h : dec x = dec y) : x = y := by
  have := congrArg (fun b => dv b.data.toList) h
  simpa [dec_dv] using this
theorem ba_ext {a b : ByteArray} (h : a.data.toList = b.data.toList) : a = b := by
  have e1 : a = ⟨a.data.toList.toArray⟩ := by simp
  have e2 : b = ⟨b.data.toList.toArray⟩ := by simp
  rw [e1, e2, h]

theorem signed_eq (n : Nat) (hn : nDigits n ≤ 100000) (m : Bool) : demoticref09_signed.f (dec n) m = some ⟨(Go.Lib.itoa (if m = true then -(n : Int) else n)).toArray⟩ := by
  unfold demoticref09_signed.f
  cases m
  · rw [if_neg (by decide), if_neg (by decide)]
    congr 1
  · rw [if_pos rfl, if_pos rfl, ByteArray.toList_eq]
    by_cases h0 : n = 0
    · subst h0
      rw [if_pos (by rw [dec_zero])]
      congr 1
    · have hne : (dec n).data.toList ≠ [48] := fun e => h0 (by have := dec_dv n; rw [e] at this; simpa [dv] using this.symm)
      rw [if_neg hne, if_pos (by rw [dec_size]; omega)]
      congr 1
      apply ba_ext
      show _ = Go.Lib.itoa (-(n : Int))
      rw [Go.Lib.itoa, if_pos (by omega)]
      simp [dec]

end Go.Proofs.YtjfmefdhfboliaaDoor.Ref
