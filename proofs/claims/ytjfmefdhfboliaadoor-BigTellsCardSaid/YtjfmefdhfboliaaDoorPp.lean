/- What the references' functions of chapter 09 tell: figures, sum, difference, product, quotient and rest, which texts are numbers, how they compare. Plain laws over lists; no memory. -/
import Derived.Test.YtjfmefdhfboliaaDoorRd
import Derived.Test.YtjfmefdhfboliaaDoorTen
import Derived.Test.YtjfmefdhfboliaaDoorText
import Derived.Lib.LazyBuf

namespace Go.Proofs.YtjfmefdhfboliaaDoor.Ref
open Go.RowKit Go.Proofs.YtjfmefdhfboliaaDoorW.PrintWords Go.Proofs.YtjfmefdhfboliaaDoorW.PrintLast Go.Proofs.YtjfmefdhfboliaaDoorW.PrintMore
open Num (dv Figs Canon canon_eq canon_decDigits figs_decDigits dv_decDigits dv_snoc)
open Go.Lib (decDigits nDigits decDigits_length)

theorem w64 {e : Int} (h : -9223372036854775808 ≤ e ∧ e ≤ 9223372036854775807) : wrap64 e = e := by unfold wrap64; omega

/-- A number in figures. -/
def dec (n : Nat) : ByteArray := ⟨(decDigits n).toArray⟩
/-- The figures' worth, the lowest first. -/
def digs (l : List UInt8) : List Int := l.reverse.map fun c => (c.toNat : Int) - 48

theorem digs_length (l : List UInt8) : (digs l).length = l.length := by simp [digs]
theorem digs_snoc (l : List UInt8) (c : UInt8) : digs (l ++ [c]) = ((c.toNat : Int) - 48) :: digs l := by simp [digs]
theorem digs_dig {l : List UInt8} (h : Figs l) : Ten.Dig (digs l) := by
  intro d hd
  simp only [digs, List.mem_map, List.mem_reverse] at hd
  obtain ⟨c, hc, rfl⟩ := hd
  have := h c hc
  omega
theorem digs_val {l : List UInt8} (h : Figs l) : Ten.val (digs l) = dv l := by
  suffices ∀ (n : Nat) (l : List UInt8), l.length = n → Figs l → Ten.val (digs l) = dv l from this _ l rfl h
  intro n
  induction n with
  | zero => intro l hl _; obtain rfl := List.length_eq_zero_iff.1 hl; rfl
  | succ n ih =>
    intro l hl hf
    rcases List.eq_nil_or_concat l with rfl | ⟨m, c, rfl⟩
    · simp at hl
    · simp only [List.concat_eq_append] at *
      have hc := hf c (by simp)
      rw [digs_snoc, Ten.val, ih m (by simpa using hl) hf.left, dv_snoc]
      omega

theorem bt_list (s : ByteArray) (i : Nat) (h : i < s.data.toList.length) : bt s i = ((s.data.toList[i]'h).toNat : Int) := by
  have hs : i < s.size := by have e : s.data.toList.length = s.size := Array.length_toList; omega
  unfold bt
  rw [dif_pos (by simpa using hs)]
  simp only [Int.toNat_natCast, Array.getElem_toList]
  rfl

theorem D_digs (l : List UInt8) (i : Nat) (h : i < l.length) : Ten.D (digs l) i = ((l[l.length - 1 - i]'(by omega)).toNat : Int) - 48 := by
  unfold Ten.D digs
  rw [List.getElem?_map, List.getElem?_eq_getElem (by simpa using h), List.getElem_reverse]
  rfl
theorem D_over (l : List UInt8) (i : Nat) (h : l.length ≤ i) : Ten.D (digs l) i = 0 := by
  unfold Ten.D
  rw [List.getElem?_eq_none (by rw [digs_length]; exact h)]; rfl

theorem size_len (s : ByteArray) : s.size = s.data.toList.length := Array.length_toList.symm

theorem at_eq (s : ByteArray) (hs : s.size ≤ 1000000) (i : Nat) (hi : i ≤ 1000000) : demoticref09_at.f s i = some (Ten.D (digs s.data.toList) i) := by
  unfold demoticref09_at.f
  by_cases h : s.size ≤ i
  · rw [if_pos (by omega), D_over _ _ (by rw [← size_len]; exact h)]
  · have hl : i < s.data.toList.length := by rw [← size_len]; omega
    rw [if_neg (by omega), w64 (e := (s.size : Int) - 1) (by omega), w64 (e := (s.size : Int) - 1 - i) (by omega), if_pos (by omega), if_pos (by omega)]
    have e : (s.size : Int) - 1 - i = ((s.data.toList.length - 1 - i : Nat) : Int) := by rw [size_len]; omega
    rw [e, bt_list s _ (by omega), D_digs _ _ hl]
    have := (s.data.toList[s.data.toList.length - 1 - i]'(by omega)).toNat_lt
    obtain ⟨c, hc⟩ : ∃ c : Int, ((s.data.toList[s.data.toList.length - 1 - i]'(by omega)).toNat : Int) = c := ⟨_, rfl⟩
    have hb : 0 ≤ c ∧ c ≤ 255 := by omega
    rw [hc, w64 (e := c) (by omega), w64 (e := c - 48) (by omega)]

/-! ### A row of figures, written -/

def figBytes (l : List Int) : List UInt8 := l.map fun d => UInt8.ofNat (48 + d.toNat)

theorem figBytes_toNat {d : Int} (h : 0 ≤ d ∧ d < 10) : (UInt8.ofNat (48 + d.toNat)).toNat = 48 + d.toNat := by
  simp; omega
theorem figs_figBytes {l : List Int} (h : Ten.Dig l) : Figs (figBytes l) := by
  intro c hc
  simp only [figBytes, List.mem_map] at hc
  obtain ⟨d, hd, rfl⟩ := hc
  have := h d hd
  rw [figBytes_toNat this]; omega
theorem digs_figBytes {l : List Int} (h : Ten.Dig l) : digs (figBytes l.reverse) = l := by
  unfold digs figBytes
  rw [← List.map_reverse, List.reverse_reverse, List.map_map]
  conv => rhs; rw [← List.map_id l]
  apply List.map_congr_left
  intro d hd
  have := h d hd
  simp only [Function.comp, figBytes_toNat this, id]
  omega

theorem nums_figBytes {l : List Int} (h : Ten.Dig l) : strOfNums (l.map fun d => 48 + d) = ⟨(figBytes l).toArray⟩ := by
  have : (l.map fun d => 48 + d) = (figBytes l).map fun b => (b.toNat : Int) := by
    unfold figBytes
    rw [List.map_map]
    apply List.map_congr_left
    intro d hd
    have := h d hd
    simp only [Function.comp, figBytes_toNat this]
    omega
  rw [this, Go.Lib.Lz.strOfNums_map]

/-- A row that is not empty, without a nought at its end or of one figure, written from its end on, is the numeral. -/
theorem figBytes_dec {l : List Int} (h : Ten.Dig l) (hne : l ≠ []) (hl : l.length = 1 ∨ l.getLast hne ≠ 0) : (⟨(figBytes l.reverse).toArray⟩ : ByteArray) = dec (Ten.val l).toNat := by
  have hf : Figs (figBytes l.reverse) := figs_figBytes fun d hd => h d (List.mem_reverse.1 hd)
  have hv := digs_val hf
  rw [digs_figBytes h] at hv
  have hc : Canon (figBytes l.reverse) := by
    rcases hl with h1 | h1
    · match l, h1 with
      | [d], _ =>
        have hd := h d List.mem_cons_self
        by_cases h0 : d = 0
        · subst h0; left; rfl
        · right
          refine ⟨by simp [figBytes], ?_, hf⟩
          simp only [figBytes, List.reverse_singleton, List.map_cons, List.map_nil, List.head?_cons, ne_eq, Option.some.injEq]
          intro e
          have := congrArg UInt8.toNat e
          rw [figBytes_toNat hd] at this
          simp at this; omega
    · right
      have hd := h _ (List.getLast_mem hne)
      refine ⟨by simp [figBytes, hne], ?_, hf⟩
      have e : l.reverse = l.getLast hne :: l.dropLast.reverse := by
        have := congrArg List.reverse (List.dropLast_concat_getLast hne)
        rw [List.reverse_append] at this
        exact this.symm
      rw [e]
      simp only [figBytes, List.map_cons, List.head?_cons, ne_eq, Option.some.injEq]
      intro e
      have := congrArg UInt8.toNat e
      rw [figBytes_toNat hd] at this
      simp at this; omega
  have := canon_eq hc
  rw [dec, hv, Int.toNat_natCast, ← this]

/-! ### plain -/

theorem rd_D {L : List Int} {i : Nat} (_h : i < L.length) : rd L (i : Int) = Ten.D L i := by
  unfold rd Ten.D
  simp [List.getD_eq_getElem?_getD]

theorem D_mem {L : List Int} (h : Ten.Dig L) (i : Nat) : 0 ≤ Ten.D L i ∧ Ten.D L i < 10 := Ten.D_dig h i

/-- The writing loop, from the i-th figure down. -/
theorem plain_l1 (L : List Int) (hL : Ten.Dig L) (hl : L.length ≤ 1000000) : ∀ (i : Nat) (acc : List Int), i ≤ L.length → acc.length + i ≤ 1000000 →
    Ev (fun k => demoticref09_plain.l1 k L acc ((i : Int) - 1)) (if acc = [] ∧ i = 0 then (⟨#[48]⟩ : ByteArray) else strOfNums (acc ++ ((L.take i).reverse.map fun d => 48 + d)))
  | 0, acc, _, _ => by
    refine Ev.step (f := fun _ => some _) (fun k => ?_) (Ev.now _)
    simp only [demoticref09_plain.l1]
    rw [if_neg (by omega)]
    by_cases h : acc = []
    · subst h; rfl
    · rw [if_neg (by simpa using h)]
      simp [h]
  | i + 1, acc, hi, ha => by
    have hd := D_mem hL i
    refine Ev.step (f := fun k => demoticref09_plain.l1 k L (acc ++ [48 + Ten.D L i]) ((i : Int) - 1)) (fun k => ?_) ?_
    · have e1 : (((i + 1 : Nat) : Int) - 1) = (i : Int) := by omega
      simp only [demoticref09_plain.l1]
      rw [e1, if_pos (by omega), if_pos (by omega), if_pos (by omega), if_pos (by omega), rd_D (by omega), w64 (by omega), w64 (by omega), show (48 + Ten.D L i) % 256 = 48 + Ten.D L i by omega]
    · have h := plain_l1 L hL hl i (acc ++ [48 + Ten.D L i]) (by omega) (by simp; omega)
      have e : L.take (i + 1) = L.take i ++ [Ten.D L i] := by
        rw [List.take_succ_eq_append_getElem (by omega)]
        simp [Ten.D, List.getElem?_eq_getElem (show i < L.length by omega)]
      rw [if_neg (by simp)] at h
      rw [if_neg (by simp), e, List.reverse_append, List.map_append]
      simpa using h

theorem val_nil {l : List Int} (h : ∀ d ∈ l, d = 0) : Ten.val l = 0 := by
  induction l with
  | nil => rfl
  | cons d l ih => rw [Ten.val, h d List.mem_cons_self, ih fun x hx => h x (List.mem_cons_of_mem _ hx)]; rfl

theorem plain_l0 (L : List Int) (hL : Ten.Dig L) (hl : L.length ≤ 1000000) : ∀ (j : Nat), j ≤ L.length → (∀ i, j ≤ i → Ten.D L i = 0) → (j = 0 → L = []) →
    Ev (fun k => demoticref09_plain.l0 k L (j : Int)) (dec (Ten.val L).toNat)
  | j, hj, hz, h0 => by
    have hv : Ten.val L = Ten.val (L.take j) := by
      conv => lhs; rw [← List.take_append_drop j L, Ten.val_append]
      rw [val_nil (l := L.drop j) (fun d hd => ?_)]
      · omega
      · obtain ⟨i, hi, rfl⟩ := List.getElem_of_mem hd
        rw [List.getElem_drop]
        have := hz (j + i) (by omega)
        unfold Ten.D at this
        rw [List.length_drop] at hi
        rwa [List.getElem?_eq_getElem (by omega)] at this
    have out : j ≤ 1 ∨ Ten.D L (j - 1) ≠ 0 → Ev (fun k => demoticref09_plain.j1 k L (j : Int)) (dec (Ten.val L).toNat) := fun hc => by
      refine Ev.step (f := fun k => demoticref09_plain.l1 k L [] ((j : Int) - 1)) (fun k => by simp only [demoticref09_plain.j1]; rw [w64 (by omega)]) ?_
      have h := plain_l1 L hL hl j [] hj (by simp; omega)
      rw [hv]
      by_cases hj0 : j = 0
      · subst hj0
        obtain rfl := h0 rfl
        simpa [dec, Ten.val, decDigits] using h
      · rw [if_neg (by simp [hj0]), List.nil_append, nums_figBytes (l := (L.take j).reverse) (fun d hd => hL d (List.mem_of_mem_take (List.mem_reverse.1 hd)))] at h
        rwa [figBytes_dec (hL.take j) (fun e => by have := congrArg List.length e; rw [List.length_take, List.length_nil] at this; omega)] at h
        have hlen : (L.take j).length = j := by rw [List.length_take]; omega
        rcases hc with hc | hc
        · left; omega
        · right
          rw [List.getLast_eq_getElem]
          simp only [hlen, List.getElem_take]
          unfold Ten.D at hc
          rwa [List.getElem?_eq_getElem (by omega)] at hc
    by_cases h1 : j ≤ 1
    · refine Ev.step (f := fun k => demoticref09_plain.j1 k L (j : Int)) (fun k => by simp only [demoticref09_plain.l0]; rw [if_neg (by omega)]) (out (.inl h1))
    · obtain ⟨m, rfl⟩ : ∃ m, j = m + 1 := ⟨j - 1, by omega⟩
      have e1 : (((m + 1 : Nat) : Int) - 1) = (m : Int) := by omega
      by_cases h2 : Ten.D L m = 0
      · refine Ev.step (f := fun k => demoticref09_plain.l0 k L (m : Int)) (fun k => ?_) (plain_l0 L hL hl m (by omega) (fun i hi => ?_) (fun e => by omega))
        · simp only [demoticref09_plain.l0]
          rw [if_pos (by omega), w64 (by omega), e1, if_pos (by omega), if_pos (by omega), rd_D (i := m) (by omega), if_pos h2]
        · rcases Nat.lt_or_ge m i with h | h
          · exact hz i h
          · obtain rfl : i = m := by omega
            exact h2
      · refine Ev.step (f := fun k => demoticref09_plain.j1 k L ((m + 1 : Nat) : Int)) (fun k => ?_) (out (.inr h2))
        simp only [demoticref09_plain.l0]
        rw [if_pos (by omega), w64 (by omega), e1, if_pos (by omega), if_pos (by omega), rd_D (i := m) (by omega), if_neg h2]

/-- plain writes the number. -/
theorem plain_ev (L : List Int) (hL : Ten.Dig L) (hl : L.length ≤ 1000000) : Ev (fun k => demoticref09_plain.f k L) (dec (Ten.val L).toNat) :=
  plain_l0 L hL hl L.length (Nat.le_refl _) (fun i hi => by unfold Ten.D; rw [List.getElem?_eq_none hi]; rfl) (fun h => List.length_eq_zero_iff.1 h)

end Go.Proofs.YtjfmefdhfboliaaDoor.Ref

namespace Go.Proofs.YtjfmefdhfboliaaDoor.Ref
open Go.RowKit Go.Proofs.YtjfmefdhfboliaaDoorW.PrintWords Go.Proofs.YtjfmefdhfboliaaDoorW.PrintLast Go.Proofs.YtjfmefdhfboliaaDoorW.PrintMore
open Num (dv Figs Canon canon_eq canon_decDigits figs_decDigits dv_decDigits dv_snoc)
open Go.Lib (decDigits nDigits decDigits_length)

theorem mx_max (a b : Nat) : mx (a : Int) (b : Int) = ((max a b : Nat) : Int) := by unfold mx; split <;> omega

theorem add_l0 (a b : ByteArray) (ha : Figs a.data.toList) (hb : Figs b.data.toList) (sa : a.size ≤ 100000) (sb : b.size ≤ 100000) : ∀ (n i : Nat), i + n = max a.size b.size + 1 →
    Ev (fun k => demoticref09_add.l0 k a b (Ten.addTo (digs a.data.toList) (digs b.data.toList) i).1 (Ten.addTo (digs a.data.toList) (digs b.data.toList) i).2 (i : Int)) (dec (dv a.data.toList + dv b.data.toList)) := by
  have dA := digs_dig ha
  have dB := digs_dig hb
  intro n
  induction n with
  | zero =>
    intro i hi
    obtain ⟨h1, h2, h3, h4, h5⟩ := Ten.addTo_inv dA dB i
    have hv : Ten.val (Ten.addTo (digs a.data.toList) (digs b.data.toList) i).1 = dv a.data.toList + dv b.data.toList := by
      have := Ten.val_addL dA dB
      rw [digs_val ha, digs_val hb] at this
      unfold Ten.addL at this
      rw [digs_length, digs_length, ← size_len, ← size_len, show max a.size b.size + 1 = i by omega] at this
      exact this
    have hp := plain_ev _ h2 (by omega)
    rw [hv, show (((dv a.data.toList : Nat) : Int) + ((dv b.data.toList : Nat) : Int)).toNat = dv a.data.toList + dv b.data.toList by omega] at hp
    refine Ev.step (f := fun k => (demoticref09_plain.f k (Ten.addTo (digs a.data.toList) (digs b.data.toList) i).1).bind fun t => some t) (fun k => ?_) (Ev.bind hp (Ev.now _))
    simp only [demoticref09_add.l0]
    rw [mx_max, if_neg (by omega)]
  | succ n ih =>
    intro i hi
    obtain ⟨h1, h2, h3, h4, h5⟩ := Ten.addTo_inv dA dB i
    have da := D_mem dA i
    have db := D_mem dB i
    refine Ev.step (fun k => ?_) (ih (i + 1) (by omega))
    simp only [demoticref09_add.l0]
    rw [mx_max, if_pos (by omega), at_eq a (by omega) i (by omega), at_eq b (by omega) i (by omega)]
    simp only [Option.bind_some]
    rw [if_pos (by omega), w64 (e := Ten.D (digs a.data.toList) i + Ten.D (digs b.data.toList) i) (by omega), w64 (e := Ten.D (digs a.data.toList) i + Ten.D (digs b.data.toList) i + _) (by omega),
      Int.tmod_eq_emod_of_nonneg (by omega), Int.tdiv_eq_ediv_of_nonneg (by omega), w64 (e := _ / 10) (by omega), w64 (e := (i : Int) + 1) (by omega)]
    rfl

theorem add_ev (a b : ByteArray) (ha : Figs a.data.toList) (hb : Figs b.data.toList) (sa : a.size ≤ 100000) (sb : b.size ≤ 100000) : Ev (fun k => demoticref09_add.f k a b) (dec (dv a.data.toList + dv b.data.toList)) :=
  add_l0 a b ha hb sa sb (max a.size b.size + 1) 0 (by omega)

theorem take_l0 (a b : ByteArray) (ha : Figs a.data.toList) (hb : Figs b.data.toList) (sa : a.size ≤ 100000) (sb : b.size ≤ a.size) (hle : dv b.data.toList ≤ dv a.data.toList) : ∀ (n i : Nat), i + n = a.size →
    Ev (fun k => demoticref09_take.l0 k a b (Ten.takeTo (digs a.data.toList) (digs b.data.toList) i).1 (Ten.takeTo (digs a.data.toList) (digs b.data.toList) i).2 (i : Int)) (dec (dv a.data.toList - dv b.data.toList)) := by
  have dA := digs_dig ha
  have dB := digs_dig hb
  intro n
  induction n with
  | zero =>
    intro i hi
    obtain ⟨h1, h2, h3, h4, h5⟩ := Ten.takeTo_inv dA dB i
    have hv : Ten.val (Ten.takeTo (digs a.data.toList) (digs b.data.toList) i).1 = dv a.data.toList - dv b.data.toList := by
      have := Ten.val_takeL dA dB (by rw [digs_length, digs_length, ← size_len, ← size_len]; exact sb) (by rw [digs_val ha, digs_val hb]; omega)
      rw [digs_val ha, digs_val hb] at this
      unfold Ten.takeL at this
      rw [digs_length, ← size_len, show a.size = i by omega] at this
      exact this
    have hp := plain_ev _ h2 (by omega)
    rw [hv, show (((dv a.data.toList : Nat) : Int) - ((dv b.data.toList : Nat) : Int)).toNat = dv a.data.toList - dv b.data.toList by omega] at hp
    refine Ev.step (f := fun k => (demoticref09_plain.f k (Ten.takeTo (digs a.data.toList) (digs b.data.toList) i).1).bind fun t => some t) (fun k => ?_) (Ev.bind hp (Ev.now _))
    simp only [demoticref09_take.l0]
    rw [if_neg (by omega)]
  | succ n ih =>
    intro i hi
    obtain ⟨h1, h2, h3, h4, h5⟩ := Ten.takeTo_inv dA dB i
    have da := D_mem dA i
    have db := D_mem dB i
    refine Ev.step (fun k => ?_) (ih (i + 1) (by omega))
    simp only [demoticref09_take.l0]
    rw [if_pos (by omega), at_eq a (by omega) i (by omega), at_eq b (by omega) i (by omega)]
    simp only [Option.bind_some]
    rw [w64 (e := Ten.D (digs a.data.toList) i - Ten.D (digs b.data.toList) i) (by omega), w64 (e := Ten.D (digs a.data.toList) i - Ten.D (digs b.data.toList) i - _) (by omega), w64 (e := (i : Int) + 1) (by omega), w64 (e := _ + 10) (by omega)]
    by_cases hlt : Ten.D (digs a.data.toList) i - Ten.D (digs b.data.toList) i - (Ten.takeTo (digs a.data.toList) (digs b.data.toList) i).2 < 0
    · rw [if_pos hlt, if_pos (by omega)]
      simp only [Ten.takeTo, if_pos hlt]
      rfl
    · rw [if_neg hlt, if_pos (by omega)]
      simp only [Ten.takeTo, if_neg hlt]
      rfl

theorem take_ev (a b : ByteArray) (ha : Figs a.data.toList) (hb : Figs b.data.toList) (sa : a.size ≤ 100000) (sb : b.size ≤ a.size) (hle : dv b.data.toList ≤ dv a.data.toList) : Ev (fun k => demoticref09_take.f k a b) (dec (dv a.data.toList - dv b.data.toList)) :=
  take_l0 a b ha hb sa sb hle a.size 0 (by omega)


/-! ### The product -/

theorem times_l1 (a b : ByteArray) (L : List Int) (i : Nat) (hL : Ten.Dig L) (dA : Ten.Dig (digs a.data.toList)) (dB : Ten.Dig (digs b.data.toList)) (sa : a.size ≤ 100000) (sb : b.size ≤ 100000) (hi : i < a.size) (hl : L.length = a.size + b.size + 1) (r : ByteArray)
    (next : Ev (fun k => demoticref09_times.l0 k a b (Ten.rowTo L (digs b.data.toList) (Ten.D (digs a.data.toList) i) i (b.size + 1)).1 ((i + 1 : Nat) : Int)) r) : ∀ (n j : Nat), j + n = b.size + 1 →
    Ev (fun k => demoticref09_times.l1 k a b (Ten.rowTo L (digs b.data.toList) (Ten.D (digs a.data.toList) i) i j).1 (i : Int) (Ten.rowTo L (digs b.data.toList) (Ten.D (digs a.data.toList) i) i j).2 (j : Int)) r := by
  have da := D_mem dA i
  intro n
  induction n with
  | zero =>
    intro j hj
    obtain rfl : j = b.size + 1 := by omega
    refine Ev.step (fun k => ?_) next
    simp only [demoticref09_times.l1]
    rw [if_neg (by omega), w64 (e := (i : Int) + 1) (by omega)]
    rfl
  | succ n ih =>
    intro j hj
    obtain ⟨h1, h2, h3, h4, h5⟩ := Ten.rowTo_inv (i := i) hL dB da j (by omega)
    have db := D_mem dB j
    have dr := D_mem h2 (i + j)
    have dm := Ten.mul_dig da db
    have hrd := rd_D (L := (Ten.rowTo L (digs b.data.toList) (Ten.D (digs a.data.toList) i) i j).1) (i := i + j) (by omega)
    refine Ev.step (fun k => ?_) (ih (j + 1) (by omega))
    simp only [demoticref09_times.l1]
    have e : (i : Int) + (j : Int) = ((i + j : Nat) : Int) := by omega
    rw [if_pos (by omega), w64 (e := (i : Int) + j) (by omega), e, if_pos (by omega), if_pos (by omega), at_eq a (by omega) i (by omega), at_eq b (by omega) j (by omega)]
    simp only [Option.bind_some]
    rw [hrd, w64 (e := Ten.D (digs a.data.toList) i * Ten.D (digs b.data.toList) j) (by omega), w64 (e := Ten.D _ (i + j) + _) (by omega), w64 (e := Ten.D _ (i + j) + _ + _) (by omega),
      Int.tmod_eq_emod_of_nonneg (by omega), Int.tdiv_eq_ediv_of_nonneg (by omega), w64 (e := _ / 10) (by omega), w64 (e := (j : Int) + 1) (by omega)]
    rfl

theorem times_l0 (a b : ByteArray) (ha : Figs a.data.toList) (hb : Figs b.data.toList) (sa : a.size ≤ 100000) (sb : b.size ≤ 100000) : ∀ (n i : Nat), i + n = a.size →
    Ev (fun k => demoticref09_times.l0 k a b (Ten.mulTo (digs a.data.toList) (digs b.data.toList) i) (i : Int)) (dec (dv a.data.toList * dv b.data.toList)) := by
  have dA := digs_dig ha
  have dB := digs_dig hb
  have la : (digs a.data.toList).length = a.size := by rw [digs_length, ← size_len]
  have lb : (digs b.data.toList).length = b.size := by rw [digs_length, ← size_len]
  intro n
  induction n with
  | zero =>
    intro i hi
    obtain rfl : i = a.size := by omega
    obtain ⟨h1, h2, h3⟩ := Ten.mulTo_inv dA dB a.size (by omega)
    rw [List.take_of_length_le (by omega), digs_val ha, digs_val hb] at h3
    have hp := plain_ev _ h2 (by omega)
    rw [h3, show (((dv a.data.toList : Nat) : Int) * ((dv b.data.toList : Nat) : Int)).toNat = dv a.data.toList * dv b.data.toList by rw [← Int.natCast_mul]; omega] at hp
    refine Ev.step (f := fun k => (demoticref09_plain.f k (Ten.mulTo (digs a.data.toList) (digs b.data.toList) a.size)).bind fun t => some t) (fun k => ?_) (Ev.bind hp (Ev.now _))
    simp only [demoticref09_times.l0]
    rw [if_neg (by omega)]
  | succ n ih =>
    intro i hi
    obtain ⟨h1, h2, h3⟩ := Ten.mulTo_inv dA dB i (by omega)
    have hn := ih (i + 1) (by omega)
    rw [show Ten.mulTo (digs a.data.toList) (digs b.data.toList) (i + 1) = (Ten.rowTo (Ten.mulTo (digs a.data.toList) (digs b.data.toList) i) (digs b.data.toList) (Ten.D (digs a.data.toList) i) i ((digs b.data.toList).length + 1)).1 from rfl, lb] at hn
    refine Ev.step (fun k => ?_) (times_l1 a b _ i h2 dA dB sa sb (by omega) (by omega) _ hn (b.size + 1) 0 (by omega))
    simp only [demoticref09_times.l0]
    rw [if_pos (by omega)]
    rfl

theorem times_ev (a b : ByteArray) (ha : Figs a.data.toList) (hb : Figs b.data.toList) (sa : a.size ≤ 100000) (sb : b.size ≤ 100000) : Ev (fun k => demoticref09_times.f k a b) (dec (dv a.data.toList * dv b.data.toList)) := by
  have la : (digs a.data.toList).length = a.size := by rw [digs_length, ← size_len]
  have lb : (digs b.data.toList).length = b.size := by rw [digs_length, ← size_len]
  refine Ev.congr (fun k => ?_) (times_l0 a b ha hb sa sb a.size 0 (by omega))
  unfold demoticref09_times.f
  have e : ((a.size : Int) + (b.size : Int)) + 1 = ((a.size + b.size + 1 : Nat) : Int) := by omega
  rw [w64 (e := (a.size : Int) + b.size) (by omega), w64 (by omega), e, if_pos (by omega), Int.toNat_natCast, if_pos (by omega)]
  unfold Ten.mulTo
  rw [la, lb]
  rfl

/-! ### Which is below, and signs -/

theorem dv_cons (c : UInt8) (l : List UInt8) : dv (c :: l) = (c.toNat - 48) * 10 ^ l.length + dv l := by
  rw [show c :: l = [c] ++ l from rfl, Num.dv_append]
  simp [dv]

theorem less_dv : ∀ (l m : List UInt8), Figs l → Figs m → l.length = m.length → Op.bytesLess l m = decide (dv l < dv m)
  | [], [], _, _, _ => by simp [Op.bytesLess]
  | [], _ :: _, _, _, h => by simp at h
  | _ :: _, [], _, _, h => by simp at h
  | c :: l, d :: m, hl, hm, h => by
    have hc := hl c List.mem_cons_self
    have hd := hm d List.mem_cons_self
    have fl : Figs l := fun x hx => hl x (List.mem_cons_of_mem _ hx)
    have fm : Figs m := fun x hx => hm x (List.mem_cons_of_mem _ hx)
    have h' : l.length = m.length := by simpa using h
    have ll : dv l < 10 ^ m.length := by rw [← h']; exact Num.dv_lt fl
    have lm := Num.dv_lt fm
    rw [Op.bytesLess, less_dv l m fl fm h', dv_cons, dv_cons, h']
    obtain ⟨T, hT⟩ : ∃ T, 10 ^ m.length = T := ⟨_, rfl⟩
    rw [hT] at ll lm ⊢
    obtain ⟨x, hx⟩ : ∃ x, c.toNat - 48 = x := ⟨_, rfl⟩
    obtain ⟨y, hy⟩ : ∃ y, d.toNat - 48 = y := ⟨_, rfl⟩
    rw [hx, hy]
    rcases Nat.lt_trichotomy x y with hxy | hxy | hxy
    · have h1 : c < d := UInt8.lt_iff_toNat_lt.2 (by omega)
      have h2 : (x + 1) * T ≤ y * T := Nat.mul_le_mul_right _ hxy
      rw [Nat.add_mul] at h2
      simp [h1]; omega
    · have h1 : c = d := UInt8.toNat_inj.1 (by omega)
      subst h1 hxy
      simp
    · have h1 : ¬ c < d := fun h => by have := UInt8.lt_iff_toNat_lt.1 h; omega
      have h3 : c ≠ d := by rintro rfl; omega
      have h2 : (y + 1) * T ≤ x * T := Nat.mul_le_mul_right _ hxy
      rw [Nat.add_mul] at h2
      have h4 : (c == d) = false := beq_eq_false_iff_ne.2 h3
      rw [h4]; simp [h1]; omega

theorem dec_list (n : Nat) : (dec n).data.toList = decDigits n := rfl
theorem dec_size (n : Nat) : (dec n).size = nDigits n := by rw [size_len, dec_list, decDigits_length]
theorem dec_figs (n : Nat) : Figs (dec n).data.toList := figs_decDigits n
theorem dec_dv (n : Nat) : dv (dec n).data.toList = n := dv_decDigits n
theorem lt_pow (n : Nat) : n < 10 ^ nDigits n := by
  have := Num.dv_lt (figs_decDigits n)
  rwa [dv_decDigits, decDigits_length] at this
theorem nDigits_pos (n : Nat) : 1 ≤ nDigits n := by
  rw [← decDigits_length]
  have := Num.decDigits_ne n
  cases h : decDigits n with
  | nil => exact absurd h this
  | cons x l => simp
theorem digits_lt {x y : Nat} (h : nDigits x < nDigits y) : x < y := by
  obtain ⟨k, hk⟩ : ∃ k, nDigits y = k + 1 := ⟨nDigits y - 1, by omega⟩
  have hp := nDigits_pos x
  rcases Num.nDigits_ge k y (by omega) with e | e
  · omega
  · exact Nat.lt_of_lt_of_le (lt_pow x) (Nat.le_trans (Nat.pow_le_pow_right (by decide) (by omega)) e)

theorem below_eq (x y : Nat) : demoticref09_below.f (dec x) (dec y) = some (decide (x < y)) := by
  unfold demoticref09_below.f
  rw [dec_size, dec_size]
  by_cases h : nDigits x = nDigits y
  · rw [if_pos (by omega), ByteArray.toList_eq, ByteArray.toList_eq, less_dv _ _ (dec_figs x) (dec_figs y) (by rw [← size_len, ← size_len, dec_size, dec_size]; exact h), dec_dv, dec_dv]
  · rw [if_neg (by omega)]
    congr 1
    rw [decide_eq_decide]
    constructor
    · intro h'
      exact digits_lt (by omega)
    · intro h'
      rcases Nat.lt_trichotomy (nDigits x) (nDigits y) with e | e | e
      · omega
      · exact absurd e h
      · have := digits_lt e; omega

theorem dec_zero : dec 0 = ⟨#[48]⟩ := by simp [dec, decDigits]
theorem dec_inj {x y : Nat} (h : dec x = dec y) : x = y := by
  have := congrArg (fun b => dv b.data.toList) h
  simpa [dec_dv] using this
theorem ba_ext {a b : ByteArray} (h : a.data.toList = b.data.toList) : a = b := by
  have e1 : a = ⟨a.data.toList.toArray⟩ := by simp
  have e2 : b = ⟨b.data.toList.toArray⟩ := by simp
  rw [e1, e2, h]

theorem signed_eq (n : Nat) (hn : nDigits n ≤ 100000) (m : Bool) : demoticref09_signed.f (dec n) m = some ⟨(Go.Lib.itoa (if m = true then -(n : Int) else n)).toArray⟩ := by
  unfold demoticref09_signed.f
  cases m
  · rw [if_neg (by decide), if_neg (by decide)]
    congr 1
  · rw [if_pos rfl, if_pos rfl, ByteArray.toList_eq]
    by_cases h0 : n = 0
    · subst h0
      rw [if_pos (by rw [dec_zero])]
      congr 1
    · have hne : (dec n).data.toList ≠ [48] := fun e => h0 (by have := dec_dv n; rw [e] at this; simpa [dv] using this.symm)
      rw [if_neg hne, if_pos (by rw [dec_size]; omega)]
      congr 1
      apply ba_ext
      show _ = Go.Lib.itoa (-(n : Int))
      rw [Go.Lib.itoa, if_pos (by omega)]
      simp [dec]

end Go.Proofs.YtjfmefdhfboliaaDoor.Ref

namespace Go.Proofs.YtjfmefdhfboliaaDoor.Ref
open Go.RowKit Go.Proofs.YtjfmefdhfboliaaDoorW.PrintWords Go.Proofs.YtjfmefdhfboliaaDoorW.PrintLast Go.Proofs.YtjfmefdhfboliaaDoorW.PrintMore
open Num (dv Figs Canon canon_eq canon_decDigits figs_decDigits dv_decDigits dv_snoc twoPow lim twoPow_succ twoPow_le lim_digits nDigits_lt num? right? plainB figB cutMinus)
open Go.Lib (decDigits nDigits decDigits_length itoa)

theorem two_digits {i : Nat} (h : i ≤ 512) : nDigits (twoPow i) ≤ 155 := nDigits_lt (Nat.lt_of_le_of_lt (twoPow_le h) lim_digits) (by decide)

theorem limit_l0 : ∀ (n i : Nat), i + n = 512 → Ev (fun k => demoticref09_limit.l0 k (dec (twoPow i)) (i : Int)) (dec lim)
  | 0, i, hi => by
    obtain rfl : i = 512 := by omega
    refine Ev.step (f := fun _ => some (dec lim)) (fun k => ?_) (Ev.now _)
    simp only [demoticref09_limit.l0]
    rw [if_neg (by decide)]; rfl
  | n + 1, i, hi => by
    have hd := two_digits (show i ≤ 512 by omega)
    have ha := add_ev (dec (twoPow i)) (dec (twoPow i)) (dec_figs _) (dec_figs _) (by rw [dec_size]; omega) (by rw [dec_size]; omega)
    rw [dec_dv, ← twoPow_succ] at ha
    refine Ev.step (f := fun k => (demoticref09_add.f k (dec (twoPow i)) (dec (twoPow i))).bind fun t => demoticref09_limit.l0 k t ((i + 1 : Nat) : Int)) (fun k => ?_) (Ev.bind ha (limit_l0 n (i + 1) (by omega)))
    simp only [demoticref09_limit.l0]
    rw [if_pos (by omega), w64 (e := (i : Int) + 1) (by omega)]
    rfl

theorem limit_ev : Ev (fun k => demoticref09_limit.f k) (dec lim) := by
  have h := limit_l0 512 0 (by decide)
  have e : dec (twoPow 0) = ⟨#[49]⟩ := by simp [dec, twoPow, decDigits]
  rw [e] at h
  exact h

theorem bt_drop (s : ByteArray) (i : Nat) (h : i < s.size) : ∃ c, s.data.toList.drop i = c :: s.data.toList.drop (i + 1) ∧ bt s i = (c.toNat : Int) := by
  have hl : i < s.data.toList.length := by rw [← size_len]; exact h
  exact ⟨_, List.drop_eq_getElem_cons hl, bt_list s i hl⟩

theorem refPlain_l0 (s : ByteArray) (hs : s.size ≤ 1000000) : ∀ (n i : Nat), i + n = s.size → Ev (fun k => demoticref03_Plain.l0 k s (i : Int)) ((s.data.toList.drop i).all figB)
  | 0, i, hi => by
    refine Ev.step (f := fun _ => some _) (fun k => ?_) (Ev.now _)
    simp only [demoticref03_Plain.l0]
    rw [if_neg (by omega), List.drop_of_length_le (by rw [← size_len]; omega)]
    rfl
  | n + 1, i, hi => by
    obtain ⟨c, hc, hb⟩ := bt_drop s i (by omega)
    have hn := c.toNat_lt
    by_cases hf : 48 ≤ c.toNat ∧ c.toNat ≤ 57
    · have e : (s.data.toList.drop i).all figB = (s.data.toList.drop (i + 1)).all figB := by
        rw [hc, List.all_cons]; simp [figB, hf]
      rw [e]
      refine Ev.step (fun k => ?_) (refPlain_l0 s hs n (i + 1) (by omega))
      simp only [demoticref03_Plain.l0]
      rw [if_pos (by omega), if_pos (by omega), hb, if_neg (by omega), if_neg (by omega), w64 (e := (i : Int) + 1) (by omega)]
      rfl
    · have e : (s.data.toList.drop i).all figB = false := by
        rw [hc, List.all_cons]
        have : figB c = false := by unfold figB; exact decide_eq_false hf
        rw [this, Bool.false_and]
      rw [e]
      refine Ev.step (f := fun _ => some false) (fun k => ?_) (Ev.now _)
      simp only [demoticref03_Plain.l0]
      rw [if_pos (by omega), if_pos (by omega), hb]
      by_cases h1 : (c.toNat : Int) < 48
      · rw [if_pos h1]
      · rw [if_neg h1, if_pos (by omega)]

theorem refPlain_ev (s : ByteArray) (hs : s.size ≤ 1000000) : Ev (fun k => demoticref03_Plain.f k s) (plainB s.data.toList) := by
  have h0 := refPlain_l0 s hs s.size 0 (by omega)
  rw [List.drop_zero] at h0
  have stop : Ev (fun k => demoticref03_Plain.j0 k s true) false := Ev.step (f := fun _ => some false) (fun k => by simp only [demoticref03_Plain.j0]; rfl) (Ev.now _)
  have go : Ev (fun k => demoticref03_Plain.j0 k s false) (s.data.toList.all figB) := Ev.step (fun k => by simp only [demoticref03_Plain.j0]; rw [if_neg (by decide)]; rfl) h0
  have hl := size_len s
  by_cases h1 : s.size = 0
  · have e : plainB s.data.toList = false := by
      have : s.data.toList = [] := List.length_eq_zero_iff.1 (by omega)
      rw [this]; rfl
    rw [e]
    refine Ev.congr (fun k => ?_) stop
    unfold demoticref03_Plain.f
    rw [if_pos (by omega)]
  · by_cases h2 : 200 < s.size
    · have e : plainB s.data.toList = false := by
        unfold plainB
        have h3 : (s.data.toList == [48]) = false := by
          apply beq_eq_false_iff_ne.2
          intro e; rw [e] at hl; simp at hl; omega
        have h4 : decide (s.data.toList.length ≤ 200) = false := decide_eq_false (by omega)
        rw [h3, h4]; simp
      rw [e]
      refine Ev.congr (fun k => ?_) stop
      unfold demoticref03_Plain.f
      rw [if_neg (by omega), if_pos (by omega)]
    · obtain ⟨c, hc, hb⟩ := bt_drop s 0 (by omega)
      rw [List.drop_zero] at hc
      by_cases h3 : 1 < s.size
      · have h5 : (s.data.toList == [48]) = false := by
          apply beq_eq_false_iff_ne.2
          intro e; rw [e] at hl; simp at hl; omega
        by_cases h4 : c.toNat = 48
        · have e : plainB s.data.toList = false := by
            have hc48 : c = 48 := UInt8.toNat_inj.1 (by simpa using h4)
            unfold plainB
            rw [h5]
            have : (s.data.toList.head? == some 48) = true := by rw [hc, hc48]; rfl
            rw [this]; simp
          rw [e]
          refine Ev.congr (fun k => ?_) stop
          unfold demoticref03_Plain.f
          rw [if_neg (by omega), if_neg (by omega), if_pos (by omega), if_pos (by omega)]
          have : (bt s 0 == 48) = true := by
            have hb' : bt s 0 = (c.toNat : Int) := hb
            rw [hb', h4]; rfl
          rw [this]
        · have e : plainB s.data.toList = s.data.toList.all figB := by
            unfold plainB
            have h6 : (s.data.toList.head? == some 48) = false := by
              rw [hc]
              apply beq_eq_false_iff_ne.2
              simp only [List.head?_cons, ne_eq, Option.some.injEq]
              rintro rfl
              exact h4 rfl
            have h7 : s.data.toList.isEmpty = false := by rw [hc]; rfl
            have h8 : decide (s.data.toList.length ≤ 200) = true := decide_eq_true (by omega)
            rw [h5, h6, h7, h8]; simp
          rw [e]
          refine Ev.congr (fun k => ?_) go
          unfold demoticref03_Plain.f
          rw [if_neg (by omega), if_neg (by omega), if_pos (by omega), if_pos (by omega)]
          have : (bt s 0 == 48) = false := by
            have hb' : bt s 0 = (c.toNat : Int) := hb
            rw [hb']; apply beq_eq_false_iff_ne.2; omega
          rw [this]
      · have e : plainB s.data.toList = s.data.toList.all figB := by
          have hc1 : s.data.toList = [c] := by
            rw [hc]; congr 1
            exact List.drop_of_length_le (by omega)
          unfold plainB
          rw [hc1]
          by_cases h4 : c = 48
          · subst h4; rfl
          · simp
        rw [e]
        refine Ev.congr (fun k => ?_) go
        unfold demoticref03_Plain.f
        rw [if_neg (by omega), if_neg (by omega), if_neg (by omega)]


/-! ### Which texts are numbers -/

/-- A number's figures, its sign, whether there is one. -/
def amountB (l : List UInt8) : ByteArray × Bool × Bool :=
  match num? l with
  | some v => (dec v.natAbs, decide (v < 0), true)
  | none => (⟨#[]⟩, false, false)
theorem amountB_some {l : List UInt8} {v : Int} (h : num? l = some v) : amountB l = (dec v.natAbs, decide (v < 0), true) := by unfold amountB; rw [h]
theorem amountB_none {l : List UInt8} (h : num? l = none) : amountB l = (⟨#[]⟩, false, false) := by unfold amountB; rw [h]

theorem num?_plainly {l : List UInt8} (hh : l.head? ≠ some 45) : num? l = if plainB l = true ∧ l.length ≤ 160 then some (dv l : Int) else none := by
  have hc : cutMinus l = (l, false) := by unfold cutMinus; rw [if_neg hh]
  have hne : l ≠ [45, 48] := fun e => hh (by rw [e]; rfl)
  unfold num?
  rw [hc]
  by_cases h : plainB l = true ∧ l.length ≤ 160
  · rw [if_pos h, if_pos ⟨h.1, h.2, hne⟩]; rfl
  · rw [if_neg h, if_neg (fun k => h ⟨k.1, k.2.1⟩)]
theorem num?_signed (l : List UInt8) : num? (45 :: l) = if plainB l = true ∧ l.length ≤ 160 ∧ l ≠ [48] then some (-(dv l : Int)) else none := by
  have hc : cutMinus (45 :: l) = (l, true) := rfl
  unfold num?
  rw [hc]
  by_cases h : plainB l = true ∧ l.length ≤ 160 ∧ l ≠ [48]
  · rw [if_pos h, if_pos ⟨h.1, h.2.1, fun e => h.2.2 (List.cons.inj e).2⟩]; rfl
  · rw [if_neg h, if_neg (fun k => h ⟨k.1, k.2.1, fun e => k.2.2 (by rw [e])⟩)]

theorem plain_dec {s : ByteArray} (h : plainB s.data.toList = true) : s = dec (dv s.data.toList) := by
  apply ba_ext
  exact canon_eq (Num.plainB_canon h)

theorem tail_extract (s : ByteArray) (c : UInt8) (l : List UInt8) (h : s.data.toList = c :: l) : (s.extract 1 s.size).data.toList = l := by
  rw [ByteArray.data_extract, Array.toList_extract, List.extract_eq_drop_take', h, size_len, h]
  simp

theorem amount_plainly (s : ByteArray) (hs : s.size ≤ 1000000) (hh : s.data.toList.head? ≠ some 45) : Ev (fun k => demoticref09_Amount.j0 k s false) (amountB s.data.toList) := by
  have hl := size_len s
  have hn := num?_plainly hh
  refine Ev.step (f := fun k => (demoticref03_Plain.f k s).bind fun t => if t = true then (if (s.size : Int) > 160 then some ((⟨#[]⟩ : ByteArray), false, false) else some (s, false, true)) else some ((⟨#[]⟩ : ByteArray), false, false)) (fun k => ?_) (Ev.bind (refPlain_ev s hs) ?_)
  · simp only [demoticref09_Amount.j0]
    rw [if_neg (by decide)]
  · by_cases hp : plainB s.data.toList = true
    · by_cases h160 : s.data.toList.length ≤ 160
      · rw [if_pos ⟨hp, h160⟩] at hn
        rw [amountB_some hn]
        refine Ev.congr (fun k => ?_) (Ev.now _)
        rw [if_pos hp, if_neg (by omega), Int.natAbs_natCast, ← plain_dec hp, decide_eq_false (by omega)]
      · rw [if_neg (fun h => h160 h.2)] at hn
        rw [amountB_none hn]
        refine Ev.congr (fun k => ?_) (Ev.now _)
        rw [if_pos hp, if_pos (by omega)]
    · rw [if_neg (fun h => hp h.1)] at hn
      rw [amountB_none hn]
      refine Ev.congr (fun k => ?_) (Ev.now _)
      rw [if_neg hp]

theorem amount_signed (s : ByteArray) (hs : s.size ≤ 1000000) (l : List UInt8) (hsl : s.data.toList = 45 :: l) : Ev (fun k => demoticref09_Amount.j0 k s true) (amountB s.data.toList) := by
  have hl := size_len s
  have ht := tail_extract s 45 l hsl
  have hn := num?_signed l
  rw [← hsl] at hn
  have hsz : s.size = l.length + 1 := by rw [hl, hsl]; rfl
  have htz : (s.extract 1 s.size).size = l.length := by rw [size_len, ht]
  have hP := refPlain_ev (s.extract 1 s.size) (by omega)
  have htl : (s.extract 1 s.size).toList = l := by rw [ByteArray.toList_eq, ht]
  rw [ht] at hP
  refine Ev.step (f := fun k => (demoticref03_Plain.f k (s.extract 1 s.size)).bind fun t => if t = true then (if ((s.extract 1 s.size).size : Int) > 160 then some ((⟨#[]⟩ : ByteArray), false, false) else (if (s.extract 1 s.size).toList = ([48] : List UInt8) then some ((⟨#[]⟩ : ByteArray), false, false) else some (s.extract 1 s.size, true, true))) else some ((⟨#[]⟩ : ByteArray), false, false)) (fun k => ?_) (Ev.bind hP ?_)
  · simp only [demoticref09_Amount.j0, if_true]
    rw [if_pos (by omega)]
  · by_cases hp : plainB l = true
    · by_cases h160 : l.length ≤ 160
      · by_cases h0 : l = [48]
        · rw [if_neg (fun h => h.2.2 h0)] at hn
          rw [amountB_none hn]
          refine Ev.congr (fun k => ?_) (Ev.now _)
          rw [if_pos hp, if_neg (by omega), if_pos (by rw [htl]; exact h0)]
        · rw [if_pos ⟨hp, h160, h0⟩] at hn
          rw [amountB_some hn]
          have hpos : 0 < dv l := by
            rcases Num.plainB_canon hp with e | ⟨a, b, c⟩
            · exact absurd e h0
            · exact Num.dv_pos a b c
          have hd := plain_dec (s := s.extract 1 s.size) (by rw [ht]; exact hp)
          rw [ht] at hd
          refine Ev.congr (fun k => ?_) (Ev.now _)
          rw [if_pos hp, if_neg (by omega), if_neg (by rw [htl]; exact h0), Int.natAbs_neg, Int.natAbs_natCast, ← hd, decide_eq_true (by omega)]
      · rw [if_neg (fun h => h160 h.2.1)] at hn
        rw [amountB_none hn]
        refine Ev.congr (fun k => ?_) (Ev.now _)
        rw [if_pos hp, if_pos (by omega)]
    · rw [if_neg (fun h => hp h.1)] at hn
      rw [amountB_none hn]
      refine Ev.congr (fun k => ?_) (Ev.now _)
      rw [if_neg hp]

theorem amount_ev (s : ByteArray) (hs : s.size ≤ 1000000) : Ev (fun k => demoticref09_Amount.f k s) (amountB s.data.toList) := by
  have hl := size_len s
  by_cases h0 : s.size = 0
  · have : s.data.toList = [] := List.length_eq_zero_iff.1 (by omega)
    refine Ev.congr (fun k => ?_) (amount_plainly s hs (by rw [this]; simp))
    unfold demoticref09_Amount.f
    rw [if_neg (by omega)]
  · obtain ⟨c, hc, hb⟩ := bt_drop s 0 (by omega)
    rw [List.drop_zero] at hc
    have hb' : bt s 0 = (c.toNat : Int) := hb
    by_cases h45 : c = 45
    · refine Ev.congr (fun k => ?_) (amount_signed s hs _ (by rw [← h45]; exact hc))
      unfold demoticref09_Amount.f
      rw [if_pos (by omega), if_pos (by omega), hb', h45]; rfl
    · refine Ev.congr (fun k => ?_) (amount_plainly s hs (by rw [hc]; simpa using h45))
      unfold demoticref09_Amount.f
      have h1 : c.toNat ≠ 45 := fun e => h45 (UInt8.toNat_inj.1 (by simpa using e))
      have : ((c.toNat : Int) == 45) = false := by
        apply beq_eq_false_iff_ne.2
        omega
      rw [if_pos (by omega), if_pos (by omega), hb', this]

theorem refRight_ev (s : ByteArray) (hs : s.size ≤ 1000000) : Ev (fun k => demoticref09_Right.f k s) (right? s.data.toList).isSome := by
  refine Ev.bind (amount_ev s hs) ?_
  cases h : num? s.data.toList with
  | none =>
    rw [amountB_none h, show (right? s.data.toList).isSome = false by unfold right?; rw [h]; rfl]
    exact Ev.now _
  | some v =>
    rw [amountB_some h]
    refine Ev.congr (f := fun k => (demoticref09_limit.f k).bind fun t => (demoticref09_below.f (dec v.natAbs) t).bind fun t => some t) (fun k => rfl) (Ev.bind limit_ev ?_)
    rw [below_eq, show (right? s.data.toList).isSome = decide (v.natAbs < lim) by
      unfold right?; rw [h]
      by_cases hv : v.natAbs < lim <;> simp [Option.filter, hv]]
    exact Ev.now _

/-- A number written: it is right just if it is within the limit. -/
theorem right_itoa (z : Int) : (right? (itoa z)).isSome = decide (z.natAbs < lim) := by
  by_cases h : z.natAbs < lim
  · rw [Num.right?_itoa h, decide_eq_true h]; rfl
  · rw [decide_eq_false h]
    cases e : right? (itoa z) with
    | none => rfl
    | some v =>
      obtain ⟨h1, h2⟩ := Num.right?_some e
      rw [Num.itoa_inj h1] at h
      exact absurd h2 h

end Go.Proofs.YtjfmefdhfboliaaDoor.Ref

namespace Go.Proofs.YtjfmefdhfboliaaDoor.Ref
open Go.RowKit Go.Proofs.YtjfmefdhfboliaaDoorW.PrintWords Go.Proofs.YtjfmefdhfboliaaDoorW.PrintLast Go.Proofs.YtjfmefdhfboliaaDoorW.PrintMore
open Num (dv Figs Canon canon_eq canon_decDigits figs_decDigits dv_decDigits dv_snoc twoPow lim twoPow_succ twoPow_le lim_digits nDigits_lt num? right? plainB figB cutMinus quo rest quo_tdiv rest_tmod)
open Go.Lib (decDigits nDigits decDigits_length itoa)

theorem ba_append (s t : ByteArray) : (s ++ t).data.toList = s.data.toList ++ t.data.toList := by simp [ByteArray.data_append]
theorem one_extract (s : ByteArray) (i : Nat) (_h : i < s.size) (c : UInt8) (l : List UInt8) (hd : s.data.toList.drop i = c :: l) : (s.extract i (i + 1)).data.toList = [c] := by
  rw [ByteArray.data_extract, Array.toList_extract, List.extract_eq_drop_take', List.drop_take, hd, Nat.add_sub_cancel_left]
  rfl

theorem dec_digit {c : UInt8} (h : 48 ≤ c.toNat ∧ c.toNat ≤ 57) : decDigits (c.toNat - 48) = [c] := by
  rw [decDigits, dif_pos (by omega), Num.fig_toNat h]
theorem dec_step {r : Nat} (hr : r ≠ 0) {c : UInt8} (h : 48 ≤ c.toNat ∧ c.toNat ≤ 57) : decDigits (10 * r + (c.toNat - 48)) = decDigits r ++ [c] := by
  rw [decDigits, dif_neg (by omega), show (10 * r + (c.toNat - 48)) / 10 = r by omega, show (10 * r + (c.toNat - 48)) % 10 = c.toNat - 48 by omega, Num.fig_toNat h]

/-- The rest, a figure more. -/
theorem next_rest (r : Nat) {c : UInt8} (h : 48 ≤ c.toNat ∧ c.toNat ≤ 57) (e : ByteArray) (he : e.data.toList = [c]) : (if (dec r).toList = ([48] : List UInt8) then (⟨#[]⟩ : ByteArray) else dec r) ++ e = dec (10 * r + (c.toNat - 48)) := by
  apply ba_ext
  rw [ba_append, he, dec_list]
  by_cases hr : r = 0
  · subst hr
    rw [if_pos (by rw [ByteArray.toList_eq, dec_zero]), Nat.mul_zero, Nat.zero_add, dec_digit h]; rfl
  · rw [if_neg (fun e => hr (by
      have := dec_dv r
      rw [← ByteArray.toList_eq, e] at this
      simpa [dv] using this.symm)), dec_step hr h, dec_list]

theorem no_zero_ahead {n : Nat} (h : 1 < nDigits n) : (bt (dec n) 0 == 48) = false := by
  obtain ⟨c, hc, hb⟩ := bt_drop (dec n) 0 (by rw [dec_size]; omega)
  rw [List.drop_zero] at hc
  have hb' : bt (dec n) 0 = (c.toNat : Int) := hb
  rw [hb']
  apply beq_eq_false_iff_ne.2
  intro e
  have h48 : c = 48 := UInt8.toNat_inj.1 (by have : c.toNat = 48 := by omega
                                             simpa using this)
  rcases canon_decDigits n with e | ⟨_, hh, _⟩
  · have := congrArg List.length e
    rw [decDigits_length] at this
    simp at this; omega
  · apply hh
    rw [dec_list] at hc
    rw [hc, h48]; rfl

theorem ten_figs : (⟨#[48, 49, 50, 51, 52, 53, 54, 55, 56, 57]⟩ : ByteArray).size = 10 := rfl
theorem ten_extract (n : Nat) (h : n ≤ 9) : ((⟨#[48, 49, 50, 51, 52, 53, 54, 55, 56, 57]⟩ : ByteArray).extract n (n + 1)).data.toList = [UInt8.ofNat (48 + n)] := by
  refine one_extract _ n (by rw [ten_figs]; omega) _ ((([48, 49, 50, 51, 52, 53, 54, 55, 56, 57] : List UInt8)).drop (n + 1)) ?_
  have : n = 0 ∨ n = 1 ∨ n = 2 ∨ n = 3 ∨ n = 4 ∨ n = 5 ∨ n = 6 ∨ n = 7 ∨ n = 8 ∨ n = 9 := by omega
  rcases this with rfl | rfl | rfl | rfl | rfl | rfl | rfl | rfl | rfl | rfl <;> rfl

/-- How often the divisor goes into what is there: it is taken away. -/
theorem divide_l1 (a q : ByteArray) (y i : Nat) (r : ByteArray × ByteArray) (hq : q.size ≤ 1000000) (_hy : nDigits y ≤ 100000) (hi : i ≤ 1000000) (hy0 : 0 < y) : ∀ (m s n : Nat), s / y = m → n + m ≤ 9 → nDigits s ≤ 100000 →
    (Ev (fun k => demoticref09_divide.l0 k a (dec y) (q ++ ⟨#[UInt8.ofNat (48 + (n + m))]⟩) (dec (s % y)) ((i + 1 : Nat) : Int)) r) →
    Ev (fun k => demoticref09_divide.l1 k a (dec y) q (dec s) (i : Int) (n : Int)) r := by
  intro m
  induction m with
  | zero =>
    intro s n hm hn hs next
    have hlt : s < y := by
      rcases Nat.lt_or_ge s y with h | h
      · exact h
      · have := Nat.div_pos h hy0; omega
    rw [Nat.mod_eq_of_lt hlt, Nat.add_zero] at next
    refine Ev.step (fun k => ?_) next
    simp only [demoticref09_divide.l1]
    rw [below_eq, decide_eq_true hlt]
    rw [Option.bind_some, if_pos rfl]
    have e1 : wrap64 ((n : Int) + 1) = ((n + 1 : Nat) : Int) := by rw [w64 (by omega)]; rfl
    have e2 : ((⟨#[48, 49, 50, 51, 52, 53, 54, 55, 56, 57]⟩ : ByteArray).extract n (n + 1)) = ⟨#[UInt8.ofNat (48 + n)]⟩ := ba_ext (ten_extract n (by omega))
    have e3 : wrap64 ((i : Int) + 1) = ((i + 1 : Nat) : Int) := by rw [w64 (by omega)]; rfl
    have c1 : (0 : Int) ≤ (n : Int) := by omega
    have c2 : (n : Int) ≤ ((n + 1 : Nat) : Int) := by omega
    have c3 : ((n + 1 : Nat) : Int) ≤ 10 := by omega
    obtain ⟨e, he⟩ : ∃ e : ByteArray, e = ⟨#[UInt8.ofNat (48 + n)]⟩ := ⟨_, rfl⟩
    have hz : e.size = 1 := by rw [he]; rfl
    have c4 : q.size + e.size ≤ 9223372036854775807 := by omega
    rw [← he] at e2 ⊢
    rw [e1, Int.toNat_natCast, Int.toNat_natCast, e2, e3, if_pos c1, if_pos c2, if_pos c3, if_pos c4]
  | succ m ih =>
    intro s n hm hn hs next
    have hge : y ≤ s := by
      rcases Nat.lt_or_ge s y with h | h
      · rw [Nat.div_eq_of_lt h] at hm; omega
      · exact h
    have hle : nDigits y ≤ nDigits s := by
      rcases Nat.lt_or_ge (nDigits s) (nDigits y) with h | h
      · have := digits_lt h; omega
      · exact h
    have ht := take_ev (dec s) (dec y) (dec_figs _) (dec_figs _) (by rw [dec_size]; omega) (by rw [dec_size, dec_size]; exact hle) (by rw [dec_dv, dec_dv]; exact hge)
    rw [dec_dv, dec_dv] at ht
    have hs' : nDigits (s - y) ≤ 100000 := by
      rcases Nat.lt_or_ge (nDigits s) (nDigits (s - y)) with h | h
      · have := digits_lt h; omega
      · omega
    have hdm : (s - y) / y = m := by
      have := Nat.sub_mul_div s y 1
      rw [Nat.mul_one] at this
      omega
    have hmm : (s - y) % y = s % y := (Nat.mod_eq_sub_mod hge).symm
    refine Ev.step (f := fun k => (demoticref09_take.f k (dec s) (dec y)).bind fun t => demoticref09_divide.l1 k a (dec y) q t (i : Int) ((n + 1 : Nat) : Int)) (fun k => ?_) (Ev.bind ht (ih (s - y) (n + 1) hdm (by omega) hs' ?_))
    · simp only [demoticref09_divide.l1]
      rw [below_eq, decide_eq_false (by omega)]
      simp only [Option.bind_some, Bool.false_eq_true, if_false]
      rw [w64 (e := (n : Int) + 1) (by omega)]; rfl
    · rw [hmm, show n + 1 + m = n + (m + 1) by omega]; exact next

theorem divide_l2 (t : ByteArray) : ∀ (l : List UInt8), Figs l → l ≠ [] → l.length ≤ 1000000 → Ev (fun k => demoticref09_divide.l2 k ⟨l.toArray⟩ t) (dec (dv l), t)
  | [], _, h, _ => absurd rfl h
  | c :: l, hf, _, hl => by
    have hsz : (⟨(c :: l).toArray⟩ : ByteArray).size = l.length + 1 := rfl
    obtain ⟨c', hc', hb⟩ := bt_drop (⟨(c :: l).toArray⟩ : ByteArray) 0 (by rw [hsz]; omega)
    obtain rfl : c' = c := by simpa using (List.cons.inj hc').1.symm
    have hb' : bt (⟨(c' :: l).toArray⟩ : ByteArray) 0 = (c'.toNat : Int) := hb
    have stop : Canon (c' :: l) → (some ((⟨(c' :: l).toArray⟩ : ByteArray), t)) = some (dec (dv (c' :: l)), t) := fun hc => by
      congr 2
      apply ba_ext
      exact canon_eq hc
    by_cases h1 : l = []
    · subst h1
      have hc : Canon [c'] := by
        by_cases h : c' = 48
        · subst h; exact .inl rfl
        · exact .inr ⟨by simp, by simpa using h, hf⟩
      refine Ev.congr (f := fun k => demoticref09_divide.l2 k ⟨[c'].toArray⟩ t) (fun _ => rfl) (Ev.step (f := fun _ => some (dec (dv [c']), t)) (fun k => ?_) (Ev.now _))
      simp only [demoticref09_divide.l2]
      rw [if_neg (by rw [hsz]; simp)]
      exact stop hc
    · have hl1 : 0 < l.length := List.length_pos_iff.2 h1
      by_cases h48 : c' = 48
      · have hff : Figs l := fun x hx => hf x (List.mem_cons_of_mem _ hx)
        have hext : (⟨(c' :: l).toArray⟩ : ByteArray).extract 1 (⟨(c' :: l).toArray⟩ : ByteArray).size = ⟨l.toArray⟩ := by
          apply ba_ext
          rw [tail_extract _ c' l (by simp)]
        have hdv : dv (c' :: l) = dv l := by rw [dv_cons, h48]; simp
        rw [hdv]
        refine Ev.step (fun k => ?_) (divide_l2 t l hff h1 (by simp at hl; omega))
        simp only [demoticref09_divide.l2]
        rw [if_pos (by rw [hsz]; omega), if_pos (by rw [hsz]; omega), hb', if_pos (by rw [h48]; rfl), if_pos (by rw [hsz]; omega), hext]
      · have hc : Canon (c' :: l) := .inr ⟨by simp, by simpa using h48, hf⟩
        refine Ev.step (f := fun _ => some (dec (dv (c' :: l)), t)) (fun k => ?_) (Ev.now _)
        simp only [demoticref09_divide.l2]
        have h2 : c'.toNat ≠ 48 := fun e => h48 (UInt8.toNat_inj.1 (by simpa using e))
        rw [if_pos (by rw [hsz]; omega), if_pos (by rw [hsz]; omega), hb', if_neg (by omega)]
        exact stop hc

theorem fig_value {c : UInt8} (h : 48 ≤ c.toNat ∧ c.toNat ≤ 57) : c.toNat - 48 ≤ 9 := by omega

theorem divide_l0 (x y : Nat) (hx : nDigits x ≤ 1000) (hy : nDigits y ≤ 1000) (hy0 : 0 < y) : ∀ (n i : Nat), i + n = nDigits x → ∀ q : List UInt8, Figs q → q.length = i → dv q = dv ((decDigits x).take i) / y →
    Ev (fun k => demoticref09_divide.l0 k (dec x) (dec y) ⟨q.toArray⟩ (dec (dv ((decDigits x).take i) % y)) (i : Int)) (dec (x / y), dec (x % y)) := by
  intro n
  induction n with
  | zero =>
    intro i hi q hq hql hqv
    have hp := nDigits_pos x
    have ht : (decDigits x).take i = decDigits x := List.take_of_length_le (by rw [decDigits_length]; omega)
    rw [ht, dv_decDigits] at hqv ⊢
    have h2 := divide_l2 (dec (x % y)) q hq (fun e => by rw [e] at hql; simp at hql; omega) (by omega)
    rw [hqv] at h2
    refine Ev.step (fun k => ?_) h2
    simp only [demoticref09_divide.l0]
    rw [if_neg (by rw [dec_size]; omega)]
  | succ n ih =>
    intro i hi q hq hql hqv
    have hlt : i < nDigits x := by omega
    have hll : i < (decDigits x).length := by rw [decDigits_length]; exact hlt
    obtain ⟨c, hc, hb⟩ := bt_drop (dec x) i (by rw [dec_size]; exact hlt)
    rw [dec_list] at hc
    have hcf : 48 ≤ c.toNat ∧ c.toNat ≤ 57 := figs_decDigits x c (by
      have := List.mem_of_mem_drop (i := i) (a := c) (l := decDigits x) (by rw [hc]; exact List.mem_cons_self)
      exact this)
    have htk : (decDigits x).take (i + 1) = (decDigits x).take i ++ [c] := by
      rw [List.take_succ_eq_append_getElem hll]
      have := List.drop_eq_getElem_cons hll
      rw [hc] at this
      rw [(List.cons.inj this).1]
    have hdv : dv ((decDigits x).take (i + 1)) = 10 * dv ((decDigits x).take i) + (c.toNat - 48) := by rw [htk, dv_snoc]
    obtain ⟨P, hP⟩ : ∃ P, dv ((decDigits x).take i) = P := ⟨_, rfl⟩
    obtain ⟨d, hd⟩ : ∃ d, c.toNat - 48 = d := ⟨_, rfl⟩
    have hd9 : d ≤ 9 := by omega
    rw [hP] at hqv hdv ⊢
    rw [hd] at hdv
    -- what is left, with the figure
    obtain ⟨R, hR⟩ : ∃ R, P % y = R := ⟨_, rfl⟩
    have hRy : R < y := by rw [← hR]; exact Nat.mod_lt _ hy0
    have hPy : P = y * (P / y) + R := by rw [← hR]; exact (Nat.div_add_mod P y).symm
    obtain ⟨S, hS⟩ : ∃ S, 10 * R + d = S := ⟨_, rfl⟩
    have hS10 : S < 10 * y := by omega
    have hm9 : S / y ≤ 9 := by
      have : S / y < 10 := Nat.div_lt_of_lt_mul (by rw [Nat.mul_comm]; exact hS10)
      omega
    have hsum : 10 * P + d = y * (10 * (P / y)) + S := by
      have e : y * (10 * (P / y)) = 10 * (y * (P / y)) := by grind
      rw [e]; omega
    have hdiv : (10 * P + d) / y = 10 * (P / y) + S / y := by rw [hsum, Nat.mul_add_div hy0]
    have hmod : (10 * P + d) % y = S % y := by rw [hsum, Nat.mul_add_mod]
    have hSd : nDigits S ≤ 100000 := by
      have h1 := lt_pow y
      have h2 : (10 : Nat) ^ (nDigits y + 1) = 10 ^ nDigits y * 10 := Nat.pow_succ ..
      have h3 := nDigits_lt (k := nDigits y + 1) (u := S) (by rw [h2]; omega) (by omega)
      omega
    obtain ⟨Q, hQ⟩ : ∃ Q, S / y = Q := ⟨_, rfl⟩
    rw [hQ] at hm9 hdiv
    -- the quotient's next figure
    have hqz : (⟨q.toArray⟩ : ByteArray).size = i := by rw [size_len]; simpa using hql
    have hfig : (UInt8.ofNat (48 + Q)).toNat = 48 + Q := Num.toNat_fig _ (by omega)
    have hnext := ih (i + 1) (by omega) (q ++ [UInt8.ofNat (48 + Q)]) (hq.append fun z hz => by
        rw [List.mem_singleton.1 hz, hfig]; omega) (by simp [hql]) (by rw [dv_snoc, hfig, hqv, hdv, hdiv]; omega)
    rw [hdv, hmod] at hnext
    have happ : (⟨(q ++ [UInt8.ofNat (48 + Q)]).toArray⟩ : ByteArray) = ⟨q.toArray⟩ ++ ⟨#[UInt8.ofNat (48 + Q)]⟩ := by
      apply ba_ext
      rw [ba_append]
    rw [happ] at hnext
    have h1 := divide_l1 (dec x) ⟨q.toArray⟩ y i (dec (x / y), dec (x % y)) (by omega) (by omega) (by omega) hy0 Q S 0 hQ (by omega) hSd (by rw [Nat.zero_add]; exact hnext)
    have h3 : Ev (fun k => demoticref09_divide.j2 k (dec x) (dec y) ⟨q.toArray⟩ (dec S) (i : Int) false) (dec (x / y), dec (x % y)) := by
      refine Ev.step (f := fun k => demoticref09_divide.j3 k (dec x) (dec y) ⟨q.toArray⟩ (dec S) (i : Int)) (fun k => ?_) (Ev.step (fun k => ?_) h1)
      · simp only [demoticref09_divide.j2]
        rw [if_neg (by decide)]
      · simp only [demoticref09_divide.j3]
        rfl
    have hex : ((dec x).extract i (i + 1)).data.toList = [c] := one_extract _ i (by rw [dec_size]; exact hlt) c _ (by rw [dec_list]; exact hc)
    have hnr := next_rest R hcf _ hex
    rw [hd, hS] at hnr
    have h4 : ∀ u : ByteArray, u ++ (dec x).extract i (i + 1) = dec S → u.size ≤ 100000 → Ev (fun k => demoticref09_divide.j1 k (dec x) (dec y) ⟨q.toArray⟩ u (i : Int)) (dec (x / y), dec (x % y)) := fun u hu hus => by
      refine Ev.step (fun k => ?_) h3
      have c1 : (0 : Int) ≤ (i : Int) := by omega
      have c2 : (i : Int) ≤ ((i + 1 : Nat) : Int) := by omega
      have c3 : ((i + 1 : Nat) : Int) ≤ ((dec x).size : Int) := by rw [dec_size]; omega
      have c5 : 1 < nDigits S → ((dec S).size : Int) > 1 ∧ 0 < ((dec S).size : Int) := fun h => by rw [dec_size]; omega
      have c6 : ¬ 1 < nDigits S → ¬ ((dec S).size : Int) > 1 := fun h => by rw [dec_size]; omega
      have e1 : wrap64 ((i : Int) + 1) = ((i + 1 : Nat) : Int) := by rw [w64 (by omega)]; rfl
      have hez : ((dec x).extract i (i + 1)).size = 1 := by rw [size_len, hex]; rfl
      have c4 : u.size + ((dec x).extract i (i + 1)).size ≤ 9223372036854775807 := by
        rw [hez]
        exact Nat.le_trans (Nat.add_le_add_right hus 1) (by decide)
      rw [demoticref09_divide.j1]
      rw [e1, Int.toNat_natCast, Int.toNat_natCast, hu, if_pos c1, if_pos c2, if_pos c3, if_pos c4]
      by_cases hs1 : 1 < nDigits S
      · rw [if_pos (c5 hs1).1, if_pos (c5 hs1).2, no_zero_ahead hs1]
      · rw [if_neg (c6 hs1)]
    by_cases h0 : (dec R).toList = ([48] : List UInt8)
    · rw [if_pos h0] at hnr
      refine Ev.step (fun k => ?_) (h4 ⟨#[]⟩ hnr (by decide))
      simp only [demoticref09_divide.l0]
      rw [if_pos (by rw [dec_size]; omega), hR, if_pos h0]
    · rw [if_neg h0] at hnr
      have hRd : nDigits R ≤ 1000 := by
        rcases Nat.lt_or_ge (nDigits y) (nDigits R) with h | h
        · have := digits_lt h; omega
        · omega
      refine Ev.step (fun k => ?_) (h4 (dec R) hnr (by rw [dec_size]; omega))
      simp only [demoticref09_divide.l0]
      rw [if_pos (by rw [dec_size]; omega), hR, if_neg h0]

theorem divide_ev (x y : Nat) (hx : nDigits x ≤ 1000) (hy : nDigits y ≤ 1000) (hy0 : 0 < y) : Ev (fun k => demoticref09_divide.f k (dec x) (dec y)) (dec (x / y), dec (x % y)) := by
  have h := divide_l0 x y hx hy hy0 (nDigits x) 0 (by omega) [] (by intro c hc; cases hc) rfl (by simp [dv])
  rw [List.take_zero, show dv [] % y = 0 by simp [dv], dec_zero] at h
  exact h

end Go.Proofs.YtjfmefdhfboliaaDoor.Ref

namespace Go.Proofs.YtjfmefdhfboliaaDoor.Ref
open Go.RowKit Go.Proofs.YtjfmefdhfboliaaDoorW.PrintWords Go.Proofs.YtjfmefdhfboliaaDoorW.PrintLast Go.Proofs.YtjfmefdhfboliaaDoorW.PrintMore
open Num (dv Figs Canon canon_eq canon_decDigits figs_decDigits dv_decDigits dv_snoc twoPow lim twoPow_succ twoPow_le lim_digits nDigits_lt num? right? plainB figB cutMinus quo rest quo_tdiv rest_tmod)
open Go.Lib (decDigits nDigits decDigits_length itoa)

/-- An amount with a sign. -/
def sv (m : Bool) (n : Nat) : Int := if m = true then -(n : Int) else n
/-- What is told of a result, or of none. -/
def resP (o : Option Int) : ByteArray × Int :=
  match o with
  | some z => if z.natAbs < lim then (⟨(itoa z).toArray⟩, 0) else (⟨#[]⟩, 10)
  | none => (⟨#[]⟩, 1)

theorem sv_num (x : Int) : sv (decide (x < 0)) x.natAbs = x := by
  unfold sv
  by_cases h : x < 0
  · simp only [h, decide_true, if_true]; omega
  · simp only [h, decide_false, Bool.false_eq_true, if_false]; omega

/-- A result's end: its sign, and whether it is right. -/
def ends (m : Bool) (k : Nat) (u : ByteArray) : Option (ByteArray × Int) :=
  (demoticref09_signed.f u m).bind fun t => (demoticref09_Right.f k t).bind fun r => if r = true then some (t, (0 : Int)) else some ((⟨#[]⟩ : ByteArray), (10 : Int))

theorem tell_ev (n : Nat) (hn : nDigits n ≤ 100000) (m : Bool) : Ev (fun k => ends m k (dec n)) (resP (some (sv m n))) := by
  have hs := signed_eq n hn m
  have hz : (⟨(itoa (sv m n)).toArray⟩ : ByteArray).data.toList = itoa (sv m n) := rfl
  have hsz : (⟨(itoa (sv m n)).toArray⟩ : ByteArray).size ≤ 1000000 := by
    rw [size_len, hz]
    have : (itoa (sv m n)).length ≤ nDigits n + 1 := by
      unfold itoa sv
      have e : decDigits n = decDigits n := rfl
      cases m
      · simp only [Bool.false_eq_true, if_false]
        rw [if_neg (by omega), Int.toNat_natCast, decDigits_length]; omega
      · simp only [if_true]
        split
        · rw [List.length_cons, Int.natAbs_neg, Int.natAbs_natCast, decDigits_length]; omega
        · have : (-(n : Int)).toNat = 0 := by omega
          rw [this, decDigits_length, Go.Lib.nDigits_small (by decide)]; omega
    omega
  have hr := refRight_ev _ hsz
  rw [hz, right_itoa] at hr
  refine Ev.congr (f := fun k => (demoticref09_Right.f k ⟨(itoa (sv m n)).toArray⟩).bind fun r => if r = true then some ((⟨(itoa (sv m n)).toArray⟩ : ByteArray), (0 : Int)) else some ((⟨#[]⟩ : ByteArray), (10 : Int))) (fun k => ?_) (Ev.bind hr ?_)
  · unfold ends; rw [hs]; rfl
  · unfold resP
    by_cases h : (sv m n).natAbs < lim
    · refine Ev.congr (fun k => ?_) (Ev.now _)
      rw [if_pos (decide_eq_true h)]
      simp only [h, if_true]
    · refine Ev.congr (fun k => ?_) (Ev.now _)
      rw [if_neg (by simpa using h)]
      simp only [h, if_false]

theorem lim_dig {n : Nat} (h : n < lim) : nDigits n ≤ 155 := Num.nDigits_right h

section
variable (a b : ByteArray) (x y : Nat) (mx my : Bool) (lx : x < lim) (ly : y < lim) (op : ByteArray)
include lx ly

theorem sum_tell : Ev (fun k => demoticref09_Do.j2 k (dec x) mx (dec y) my op true) (resP (some (sv mx x + sv my y))) := by
  have dx := lim_dig lx
  have dy := lim_dig ly
  by_cases hs : mx = my
  · have ha := add_ev (dec x) (dec y) (dec_figs _) (dec_figs _) (by rw [dec_size]; omega) (by rw [dec_size]; omega)
    rw [dec_dv, dec_dv] at ha
    have hd : nDigits (x + y) ≤ 100000 := by
      have := nDigits_lt (k := 156) (u := x + y) (by
        have h1 := Nat.lt_trans lx lim_digits
        have h2 := Nat.lt_trans ly lim_digits
        have h3 : (10 : Nat) ^ 156 = 10 ^ 155 * 10 := Nat.pow_succ ..
        rw [h3]
        generalize (10 : Nat) ^ 155 = T at h1 h2
        omega) (by decide)
      omega
    have ht := tell_ev (x + y) hd mx
    have e : sv mx (x + y) = sv mx x + sv my y := by subst hs; unfold sv; cases mx <;> simp <;> omega
    rw [e] at ht
    refine Ev.step (fun k => ?_) (Ev.bind (f := ends mx) ha ht)
    rw [demoticref09_Do.j2, if_pos rfl, if_pos (by subst hs; simp)]; rfl
  · have hb := below_eq x y
    by_cases hlt : x < y
    · have ht := take_ev (dec y) (dec x) (dec_figs _) (dec_figs _) (by rw [dec_size]; omega) (by
        rw [dec_size, dec_size]
        rcases Nat.lt_or_ge (nDigits y) (nDigits x) with h | h
        · have := digits_lt h; omega
        · exact h) (by rw [dec_dv, dec_dv]; omega)
      rw [dec_dv, dec_dv] at ht
      have hd : nDigits (y - x) ≤ 100000 := by have := lim_dig (show y - x < lim by omega); omega
      have hz := tell_ev (y - x) hd my
      have e : sv my (y - x) = sv mx x + sv my y := by unfold sv; cases mx <;> cases my <;> simp at hs ⊢ <;> omega
      rw [e] at hz
      refine Ev.step (fun k => ?_) (Ev.bind (f := ends my) ht hz)
      rw [demoticref09_Do.j2, if_pos rfl, if_neg (by simpa using hs), hb, decide_eq_true hlt, Option.bind_some, if_pos rfl]; rfl
    · have ht := take_ev (dec x) (dec y) (dec_figs _) (dec_figs _) (by rw [dec_size]; omega) (by
        rw [dec_size, dec_size]
        rcases Nat.lt_or_ge (nDigits x) (nDigits y) with h | h
        · have := digits_lt h; omega
        · exact h) (by rw [dec_dv, dec_dv]; omega)
      rw [dec_dv, dec_dv] at ht
      have hd : nDigits (x - y) ≤ 100000 := by have := lim_dig (show x - y < lim by omega); omega
      have hz := tell_ev (x - y) hd mx
      have e : sv mx (x - y) = sv mx x + sv my y := by unfold sv; cases mx <;> cases my <;> simp at hs ⊢ <;> omega
      rw [e] at hz
      refine Ev.step (fun k => ?_) (Ev.bind (f := ends mx) ht hz)
      rw [demoticref09_Do.j2, if_pos rfl, if_neg (by simpa using hs), hb, decide_eq_false hlt, Option.bind_some, if_neg (by decide)]; rfl

theorem times_tell : Ev (fun k => demoticref09_Do.j2 k (dec x) mx (dec y) my ⟨#[42]⟩ false) (resP (some (sv mx x * sv my y))) := by
  have dx := lim_dig lx
  have dy := lim_dig ly
  have ha := times_ev (dec x) (dec y) (dec_figs _) (dec_figs _) (by rw [dec_size]; omega) (by rw [dec_size]; omega)
  rw [dec_dv, dec_dv] at ha
  have hd : nDigits (x * y) ≤ 100000 := by
    have := nDigits_lt (k := nDigits x + nDigits y) (u := x * y) (by
      rw [Nat.pow_add]
      exact Nat.mul_lt_mul_of_lt_of_le (lt_pow x) (Nat.le_of_lt (lt_pow y)) (Nat.pow_pos (by decide))) (by have := nDigits_pos x; omega)
    omega
  have ht := tell_ev (x * y) hd (mx != my)
  have e : sv (mx != my) (x * y) = sv mx x * sv my y := by unfold sv; cases mx <;> cases my <;> simp [Int.mul_neg, Int.neg_mul]
  rw [e] at ht
  refine Ev.step (fun k => ?_) (Ev.bind (f := ends (mx != my)) ha ht)
  rw [demoticref09_Do.j2, if_neg (by decide), if_pos (by decide +kernel)]; rfl

theorem quot_tell (hy : y ≠ 0) : Ev (fun k => demoticref09_Do.j2 k (dec x) mx (dec y) my ⟨#[47]⟩ false) (resP (some ((sv mx x).tdiv (sv my y)))) := by
  have dx := lim_dig lx
  have dy := lim_dig ly
  have ha := divide_ev x y (by omega) (by omega) (by omega)
  have hd : nDigits (x / y) ≤ 100000 := by
    have := lim_dig (n := x / y) (Nat.lt_of_le_of_lt (Nat.div_le_self x y) lx)
    omega
  have ht := tell_ev (x / y) hd (mx != my)
  have e : sv (mx != my) (x / y) = (sv mx x).tdiv (sv my y) := by unfold sv; cases mx <;> cases my <;> simp [Int.neg_tdiv, Int.tdiv_neg]
  rw [e] at ht
  refine Ev.step (fun k => ?_) (Ev.bind (f := fun k p => ends (mx != my) k p.1) ha ht)
  rw [demoticref09_Do.j2, if_neg (by decide), if_neg (by decide +kernel), if_pos (by decide +kernel)]; rfl

theorem rest_tell (hy : y ≠ 0) : Ev (fun k => demoticref09_Do.j2 k (dec x) mx (dec y) my ⟨#[37]⟩ false) (resP (some ((sv mx x).tmod (sv my y)))) := by
  have dx := lim_dig lx
  have dy := lim_dig ly
  have ha := divide_ev x y (by omega) (by omega) (by omega)
  have hd : nDigits (x % y) ≤ 100000 := by
    have := lim_dig (n := x % y) (Nat.lt_of_le_of_lt (Nat.mod_le x y) lx)
    omega
  have ht := tell_ev (x % y) hd mx
  have e : sv mx (x % y) = (sv mx x).tmod (sv my y) := by unfold sv; cases mx <;> cases my <;> simp [Int.neg_tmod, Int.tmod_neg, Int.tmod_eq_emod_of_nonneg]
  rw [e] at ht
  refine Ev.step (fun k => ?_) (Ev.bind (f := fun k p => ends mx k p.2) ha ht)
  rw [demoticref09_Do.j2, if_neg (by decide), if_neg (by decide +kernel), if_neg (by decide +kernel)]; rfl
end

end Go.Proofs.YtjfmefdhfboliaaDoor.Ref

namespace Go.Proofs.YtjfmefdhfboliaaDoor.Ref
open Go.RowKit Go.Proofs.YtjfmefdhfboliaaDoorW.PrintWords Go.Proofs.YtjfmefdhfboliaaDoorW.PrintLast Go.Proofs.YtjfmefdhfboliaaDoorW.PrintMore
open Num (dv Figs Canon canon_eq canon_decDigits figs_decDigits dv_decDigits dv_snoc twoPow lim twoPow_succ twoPow_le lim_digits nDigits_lt num? right? plainB figB cutMinus quo rest quo_tdiv rest_tmod)
open Go.Lib (decDigits nDigits decDigits_length itoa)

theorem right_num {l : List UInt8} {x : Int} (h : right? l = some x) : num? l = some x ∧ x.natAbs < lim := by
  unfold right? at h
  cases e : num? l with
  | none => rw [e] at h; cases h
  | some v =>
    rw [e] at h
    simp only [Option.filter] at h
    split at h
    · rename_i hv
      cases h
      exact ⟨rfl, by simpa using hv⟩
    · cases h

theorem Do_no (op a b : ByteArray) (sa : a.size ≤ 1000000) (sb : b.size ≤ 1000000) (h : right? a.data.toList = none ∨ right? b.data.toList = none) : Ev (fun k => demoticref09_Do.f k op a b) (⟨#[]⟩, 1) := by
  refine Ev.bind (amount_ev a sa) (Ev.bind (amount_ev b sb) ?_)
  have out : ∀ (u v : ByteArray × Bool × Bool), Ev (fun k => demoticref09_Do.j0 k op u.1 u.2.1 v.1 v.2.1 true) ((⟨#[]⟩ : ByteArray), (1 : Int)) := fun u v =>
    Ev.step (f := fun _ => some ((⟨#[]⟩ : ByteArray), (1 : Int))) (fun k => by rw [demoticref09_Do.j0, if_pos rfl]) (Ev.now _)
  have ra := refRight_ev a sa
  have rb := refRight_ev b sb
  cases ea : right? a.data.toList with
  | none =>
    rw [show (right? a.data.toList).isSome = false by rw [ea]; rfl] at ra
    refine Ev.bind ra (Ev.congr (fun k => ?_) (out (amountB a.data.toList) (amountB b.data.toList)))
    rw [if_neg (by decide)]
  | some x =>
    rw [show (right? a.data.toList).isSome = true by rw [ea]; rfl] at ra
    rw [ea] at h
    rcases h with h | h
    · cases h
    rw [show (right? b.data.toList).isSome = false by rw [h]; rfl] at rb
    refine Ev.bind ra (Ev.congr (f := fun k => (demoticref09_Right.f k b).bind fun t206 => if t206 = true then (if op.toList = ([47] : List UInt8) then demoticref09_Do.j0 k op (amountB a.data.toList).1 (amountB a.data.toList).2.1 (amountB b.data.toList).1 (amountB b.data.toList).2.1 ((amountB b.data.toList).1.toList == ([48] : List UInt8)) else if op.toList = ([37] : List UInt8) then demoticref09_Do.j0 k op (amountB a.data.toList).1 (amountB a.data.toList).2.1 (amountB b.data.toList).1 (amountB b.data.toList).2.1 ((amountB b.data.toList).1.toList == ([48] : List UInt8)) else demoticref09_Do.j0 k op (amountB a.data.toList).1 (amountB a.data.toList).2.1 (amountB b.data.toList).1 (amountB b.data.toList).2.1 false) else demoticref09_Do.j0 k op (amountB a.data.toList).1 (amountB a.data.toList).2.1 (amountB b.data.toList).1 (amountB b.data.toList).2.1 true) (fun k => ?_) (Ev.bind rb (Ev.congr (fun k => ?_) (out (amountB a.data.toList) (amountB b.data.toList)))))
    · rw [if_pos rfl]
    · rw [if_neg (by decide)]

/-- The operation that a sign stands for. -/
def opF (c : UInt8) (x y : Int) : Option Int :=
  if c = 43 then some (x + y) else if c = 45 then some (x - y) else if c = 42 then some (x * y) else if y = 0 then none else if c = 47 then some (x.tdiv y) else some (x.tmod y)

theorem sv_flip (y : Int) : sv (!decide (y < 0)) y.natAbs = -y := by
  unfold sv
  by_cases h : y < 0
  · simp only [h, decide_true, Bool.not_true, Bool.false_eq_true, if_false]; omega
  · simp only [h, decide_false, Bool.not_false, if_true]; omega

theorem dec_is_zero (n : Nat) : ((dec n).toList == ([48] : List UInt8)) = decide (n = 0) := by
  rw [ByteArray.toList_eq, dec_list]
  by_cases h : n = 0
  · subst h; simp [decDigits]
  · rw [decide_eq_false h]
    apply beq_eq_false_iff_ne.2
    intro e
    have := dv_decDigits n
    rw [e] at this
    simp [dv] at this
    omega

theorem ev_eq {α : Type} {g : Nat → Option α} {r r' : α} (h : Ev g r) (e : r = r') : Ev g r' := e ▸ h

theorem Do_ok (c : UInt8) (hc : c = 43 ∨ c = 45 ∨ c = 42 ∨ c = 47 ∨ c = 37) (a b : ByteArray) (sa : a.size ≤ 1000000) (sb : b.size ≤ 1000000) (x y : Int) (ha : right? a.data.toList = some x) (hb : right? b.data.toList = some y) :
    Ev (fun k => demoticref09_Do.f k ⟨#[c]⟩ a b) (resP (opF c x y)) := by
  obtain ⟨na, lx⟩ := right_num ha
  obtain ⟨nb, ly⟩ := right_num hb
  have ra := refRight_ev a sa
  have rb := refRight_ev b sb
  rw [show (right? a.data.toList).isSome = true by rw [ha]; rfl] at ra
  rw [show (right? b.data.toList).isSome = true by rw [hb]; rfl] at rb
  have aa := amount_ev a sa
  have ab := amount_ev b sb
  rw [amountB_some na] at aa
  rw [amountB_some nb] at ab
  obtain ⟨X, hX⟩ : ∃ X, dec x.natAbs = X := ⟨_, rfl⟩
  obtain ⟨Y, hY⟩ : ∃ Y, dec y.natAbs = Y := ⟨_, rfl⟩
  have hz : (Y.toList == ([48] : List UInt8)) = decide (y = 0) := by
    rw [← hY, dec_is_zero]
    rw [decide_eq_decide]; omega
  rw [hX] at aa
  rw [hY] at ab
  -- behind the four calls
  have done : ∀ (z : Bool), (if c = 47 ∨ c = 37 then decide (y = 0) else false) = z → Ev (fun k => demoticref09_Do.j0 k ⟨#[c]⟩ X (decide (x < 0)) Y (decide (y < 0)) z) (resP (opF c x y)) →
      Ev (fun k => demoticref09_Do.f k ⟨#[c]⟩ a b) (resP (opF c x y)) := fun z hzz h => by
    refine Ev.bind aa (Ev.bind ab (Ev.bind ra ?_))
    refine Ev.congr (f := fun k => (demoticref09_Right.f k b).bind fun t206 => if t206 = true then (if (⟨#[c]⟩ : ByteArray).toList = ([47] : List UInt8) then demoticref09_Do.j0 k ⟨#[c]⟩ X (decide (x < 0)) Y (decide (y < 0)) (Y.toList == ([48] : List UInt8)) else if (⟨#[c]⟩ : ByteArray).toList = ([37] : List UInt8) then demoticref09_Do.j0 k ⟨#[c]⟩ X (decide (x < 0)) Y (decide (y < 0)) (Y.toList == ([48] : List UInt8)) else demoticref09_Do.j0 k ⟨#[c]⟩ X (decide (x < 0)) Y (decide (y < 0)) false) else demoticref09_Do.j0 k ⟨#[c]⟩ X (decide (x < 0)) Y (decide (y < 0)) true) (fun k => ?_) (Ev.bind rb ?_)
    · rw [if_pos rfl]
    · refine Ev.congr (fun k => ?_) h
      have e : (⟨#[c]⟩ : ByteArray).toList = [c] := by rw [ByteArray.toList_eq]
      rw [if_pos rfl, e, hz, ← hzz]
      rcases hc with rfl | rfl | rfl | rfl | rfl <;> rfl
  have hsx := sv_num x
  have hsy := sv_num y
  have hsf := sv_flip y
  rcases hc with rfl | rfl | rfl | rfl | rfl
  · have h := sum_tell x.natAbs y.natAbs (decide (x < 0)) (decide (y < 0)) lx ly ⟨#[43]⟩
    rw [hX, hY, hsx, hsy] at h
    refine done false rfl (Ev.step (f := fun k => demoticref09_Do.j1 k ⟨#[43]⟩ X (decide (x < 0)) Y (decide (y < 0))) (fun k => ?_) (Ev.step (fun k => ?_) h))
    · rw [demoticref09_Do.j0, if_neg (by decide), if_neg (by decide +kernel)]
    · rw [demoticref09_Do.j1, if_pos (by decide +kernel), show (((⟨#[43]⟩ : ByteArray).toList == ([43] : List UInt8))) = true by decide +kernel]
  · have h := sum_tell x.natAbs y.natAbs (decide (x < 0)) (!decide (y < 0)) lx ly ⟨#[45]⟩
    rw [hX, hY, hsx, hsf, ← Int.sub_eq_add_neg] at h
    refine done false rfl (Ev.step (f := fun k => demoticref09_Do.j1 k ⟨#[45]⟩ X (decide (x < 0)) Y (!decide (y < 0))) (fun k => ?_) (Ev.step (fun k => ?_) h))
    · rw [demoticref09_Do.j0, if_neg (by decide), if_pos (by decide +kernel)]
    · rw [demoticref09_Do.j1, if_neg (by decide +kernel), show (((⟨#[45]⟩ : ByteArray).toList == ([45] : List UInt8))) = true by decide +kernel]
  · have h := times_tell x.natAbs y.natAbs (decide (x < 0)) (decide (y < 0)) lx ly
    rw [hX, hY, hsx, hsy] at h
    refine done false rfl (Ev.step (f := fun k => demoticref09_Do.j1 k ⟨#[42]⟩ X (decide (x < 0)) Y (decide (y < 0))) (fun k => ?_) (Ev.step (fun k => ?_) h))
    · rw [demoticref09_Do.j0, if_neg (by decide), if_neg (by decide +kernel)]
    · rw [demoticref09_Do.j1, if_neg (by decide +kernel), show (((⟨#[42]⟩ : ByteArray).toList == ([45] : List UInt8))) = false by decide +kernel]
  · by_cases h0 : y = 0
    · refine done true (by simp [h0]) (ev_eq (Ev.step (f := fun _ => some ((⟨#[]⟩ : ByteArray), (1 : Int))) (fun k => by rw [demoticref09_Do.j0, if_pos rfl]) (Ev.now _)) (by simp [opF, h0, resP]))
    · have h := quot_tell x.natAbs y.natAbs (decide (x < 0)) (decide (y < 0)) lx ly (by omega)
      rw [hX, hY, hsx, hsy] at h
      refine done false (by simp [h0]) (ev_eq (Ev.step (f := fun k => demoticref09_Do.j1 k ⟨#[47]⟩ X (decide (x < 0)) Y (decide (y < 0))) (fun k => ?_) (Ev.step (fun k => ?_) h)) (by simp [opF, h0]))
      · rw [demoticref09_Do.j0, if_neg (by decide), if_neg (by decide +kernel)]
      · rw [demoticref09_Do.j1, if_neg (by decide +kernel), show (((⟨#[47]⟩ : ByteArray).toList == ([45] : List UInt8))) = false by decide +kernel]
  · by_cases h0 : y = 0
    · refine done true (by simp [h0]) (ev_eq (Ev.step (f := fun _ => some ((⟨#[]⟩ : ByteArray), (1 : Int))) (fun k => by rw [demoticref09_Do.j0, if_pos rfl]) (Ev.now _)) (by simp [opF, h0, resP]))
    · have h := rest_tell x.natAbs y.natAbs (decide (x < 0)) (decide (y < 0)) lx ly (by omega)
      rw [hX, hY, hsx, hsy] at h
      refine done false (by simp [h0]) (ev_eq (Ev.step (f := fun k => demoticref09_Do.j1 k ⟨#[37]⟩ X (decide (x < 0)) Y (decide (y < 0))) (fun k => ?_) (Ev.step (fun k => ?_) h)) (by simp [opF, h0]))
      · rw [demoticref09_Do.j0, if_neg (by decide), if_neg (by decide +kernel)]
      · rw [demoticref09_Do.j1, if_neg (by decide +kernel), show (((⟨#[37]⟩ : ByteArray).toList == ([45] : List UInt8))) = false by decide +kernel]

/-- What the document tells of two texts and a sign. -/
def doR (c : UInt8) (l m : List UInt8) : ByteArray × Int :=
  match right? l, right? m with
  | some x, some y => resP (opF c x y)
  | _, _ => (⟨#[]⟩, 1)

theorem told_ev (c : UInt8) (hc : c = 43 ∨ c = 45 ∨ c = 42 ∨ c = 47 ∨ c = 37) (a b : ByteArray) (sa : a.size ≤ 1000000) (sb : b.size ≤ 1000000) :
    ∃ k, demoticlaw09_told.f k (doR c a.data.toList b.data.toList).1 (doR c a.data.toList b.data.toList).2 ⟨#[c]⟩ a b = some true := by
  have h : Ev (fun k => demoticref09_Do.f k ⟨#[c]⟩ a b) (doR c a.data.toList b.data.toList) := by
    unfold doR
    cases ea : right? a.data.toList with
    | none => exact Do_no _ a b sa sb (.inl ea)
    | some x =>
      cases eb : right? b.data.toList with
      | none => exact Do_no _ a b sa sb (.inr eb)
      | some y => exact Do_ok c hc a b sa sb x y ea eb
  obtain ⟨k, hk⟩ := h.rounds
  refine ⟨k, ?_⟩
  unfold demoticlaw09_told.f
  rw [show demoticref09_Do.f k ⟨#[c]⟩ a b = _ from hk, Option.bind_some, if_pos rfl]
  simp

end Go.Proofs.YtjfmefdhfboliaaDoor.Ref

namespace Go.Proofs.YtjfmefdhfboliaaDoor.Ref
open Go.RowKit Go.Proofs.YtjfmefdhfboliaaDoorW.PrintWords Go.Proofs.YtjfmefdhfboliaaDoorW.PrintLast Go.Proofs.YtjfmefdhfboliaaDoorW.PrintMore
open Num (dv Figs Canon canon_eq canon_decDigits figs_decDigits dv_decDigits dv_snoc twoPow lim twoPow_succ twoPow_le lim_digits nDigits_lt num? right? plainB figB cutMinus quo rest quo_tdiv rest_tmod)
open Go.Lib (decDigits nDigits decDigits_length itoa)

/-- How two texts stand to one another. -/
def cmpR (l m : List UInt8) : Int :=
  match right? l, right? m with
  | some x, some y => if x - y < 0 then -1 else if x - y = 0 then 0 else 1
  | _, _ => 0

theorem cmp_out (a b : ByteArray) : Ev (fun k => demoticref09_Compare.j0 k a b true) 0 := Ev.step (f := fun _ => some (0 : Int)) (fun k => by rw [demoticref09_Compare.j0, if_pos rfl]) (Ev.now _)

theorem refCompare_ev (a b : ByteArray) (sa : a.size ≤ 1000000) (sb : b.size ≤ 1000000) : Ev (fun k => demoticref09_Compare.f k a b) (cmpR a.data.toList b.data.toList) := by
  have ra := refRight_ev a sa
  have rb := refRight_ev b sb
  unfold cmpR
  cases ea : right? a.data.toList with
  | none =>
    rw [show (right? a.data.toList).isSome = false by rw [ea]; rfl] at ra
    refine Ev.bind ra (Ev.congr (fun k => ?_) (cmp_out a b))
    rw [if_neg (by decide)]
  | some x =>
    rw [show (right? a.data.toList).isSome = true by rw [ea]; rfl] at ra
    refine Ev.bind ra (Ev.congr (f := fun k => (demoticref09_Right.f k b).bind fun t207 => if t207 = true then demoticref09_Compare.j0 k a b (a.toList == b.toList) else demoticref09_Compare.j0 k a b true) (fun k => by rw [if_pos rfl]) ?_)
    cases eb : right? b.data.toList with
    | none =>
      rw [show (right? b.data.toList).isSome = false by rw [eb]; rfl] at rb
      refine Ev.bind rb (Ev.congr (fun k => ?_) (cmp_out a b))
      rw [if_neg (by decide)]
    | some y =>
      rw [show (right? b.data.toList).isSome = true by rw [eb]; rfl] at rb
      refine Ev.bind rb (Ev.congr (f := fun k => demoticref09_Compare.j0 k a b (a.toList == b.toList)) (fun k => by rw [if_pos rfl]) ?_)
      have hae := (Num.right?_some ea).1
      have hbe := (Num.right?_some eb).1
      obtain ⟨na, lx⟩ := right_num ea
      obtain ⟨nb, ly⟩ := right_num eb
      by_cases hxy : x = y
      · have e : (a.toList == b.toList) = true := by rw [ByteArray.toList_eq, ByteArray.toList_eq, hae, hbe, hxy]; simp
        rw [e]
        refine ev_eq (cmp_out a b) ?_
        simp [hxy]
      · have e : (a.toList == b.toList) = false := by
          rw [ByteArray.toList_eq, ByteArray.toList_eq, hae, hbe]
          apply beq_eq_false_iff_ne.2
          exact fun h => hxy (Num.itoa_inj h)
        rw [e]
        have aa := amount_ev a sa
        have ab := amount_ev b sb
        rw [amountB_some na] at aa
        rw [amountB_some nb] at ab
        refine Ev.step (fun k => by rw [demoticref09_Compare.j0, if_neg (by decide)]) (Ev.bind aa (Ev.bind ab ?_))
        have hbl := below_eq x.natAbs y.natAbs
        refine ev_eq (r := if x - y < 0 then -1 else if x - y = 0 then 0 else 1) (Ev.congr (fun k => ?_) (Ev.now _)) rfl
        rw [hbl]
        by_cases hx : x < 0
        · by_cases hy : y < 0
          · rw [decide_eq_true hx, decide_eq_true hy, if_neg (by simp), Option.bind_some]
            by_cases hlt : x.natAbs < y.natAbs
            · rw [decide_eq_true hlt, if_neg (by simp), if_neg (by omega), if_neg (by omega)]
            · rw [decide_eq_false hlt, if_pos (by simp), if_pos (by omega)]
          · rw [decide_eq_true hx, decide_eq_false hy, if_pos (by simp), if_pos (by simp), if_pos (by omega)]
        · by_cases hy : y < 0
          · rw [decide_eq_false hx, decide_eq_true hy, if_pos (by simp), if_neg (by simp), if_neg (by omega), if_neg (by omega)]
          · rw [decide_eq_false hx, decide_eq_false hy, if_neg (by simp), Option.bind_some]
            by_cases hlt : x.natAbs < y.natAbs
            · rw [decide_eq_true hlt, if_pos (by simp), if_pos (by omega)]
            · rw [decide_eq_false hlt, if_neg (by simp), if_neg (by omega), if_neg (by omega)]

/-- A text as a number of 64 bits, an error's number. -/
def intR (l : List UInt8) : Int × Int :=
  match right? l with
  | some v => if -9223372036854775808 ≤ v ∧ v ≤ 9223372036854775807 then (v, 0) else (0, 10)
  | none => (0, 1)

theorem dv_take_le (l : List UInt8) (_hf : Figs l) (i : Nat) : dv (l.take i) ≤ dv l := by
  conv => rhs; rw [← List.take_append_drop i l, Num.dv_append]
  have : dv (l.take i) * 1 ≤ dv (l.take i) * 10 ^ (l.drop i).length := Nat.mul_le_mul_left _ (Nat.pow_pos (by decide))
  omega

theorem int_l0 (n : Nat) (m : Bool) (hn : n ≤ 9223372036854775808) (hm : m = false → n ≤ 9223372036854775807) : ∀ (j i : Nat), i + j = nDigits n →
    Ev (fun k => demoticref09_Int.l0 k (dec n) m (sv m (dv ((decDigits n).take i))) (i : Int)) (sv m n, 0) := by
  have hsm : nDigits n ≤ 20 := nDigits_lt (Nat.lt_of_le_of_lt hn (by decide)) (by decide)
  intro j
  induction j with
  | zero =>
    intro i hi
    have ht : (decDigits n).take i = decDigits n := List.take_of_length_le (by rw [decDigits_length]; omega)
    rw [ht, dv_decDigits]
    refine Ev.step (f := fun _ => some (sv m n, (0 : Int))) (fun k => ?_) (Ev.now _)
    rw [demoticref09_Int.l0, if_neg (by rw [dec_size]; omega)]
  | succ j ih =>
    intro i hi
    have hlt : i < nDigits n := by omega
    have hll : i < (decDigits n).length := by rw [decDigits_length]; exact hlt
    obtain ⟨c, hc, hb⟩ := bt_drop (dec n) i (by rw [dec_size]; exact hlt)
    rw [dec_list] at hc
    have hcf : 48 ≤ c.toNat ∧ c.toNat ≤ 57 := figs_decDigits n c (List.mem_of_mem_drop (i := i) (a := c) (l := decDigits n) (by rw [hc]; exact List.mem_cons_self))
    have htk : (decDigits n).take (i + 1) = (decDigits n).take i ++ [c] := by
      rw [List.take_succ_eq_append_getElem hll]
      have := List.drop_eq_getElem_cons hll
      rw [hc] at this
      rw [(List.cons.inj this).1]
    have hdv : dv ((decDigits n).take (i + 1)) = 10 * dv ((decDigits n).take i) + (c.toNat - 48) := by rw [htk, dv_snoc]
    have hle := dv_take_le (decDigits n) (figs_decDigits n) (i + 1)
    rw [dv_decDigits, hdv] at hle
    have hnx := ih (i + 1) (by omega)
    rw [hdv] at hnx
    obtain ⟨P, hP⟩ : ∃ P, dv ((decDigits n).take i) = P := ⟨_, rfl⟩
    obtain ⟨d, hd⟩ : ∃ d, c.toNat - 48 = d := ⟨_, rfl⟩
    have hd9 : d ≤ 9 := by omega
    have hbd : (bt (dec n) i - 48) % 256 = (d : Int) := by rw [hb]; omega
    rw [hP, hd] at hle hnx
    rw [hP]
    have hi1 : wrap64 ((i : Int) + 1) = ((i + 1 : Nat) : Int) := by rw [w64 (by omega)]; rfl
    have c1 : (i : Int) < ((dec n).size : Int) := by rw [dec_size]; omega
    have c2 : (0 : Int) ≤ (i : Int) := Int.natCast_nonneg _
    cases m with
    | true =>
      have e1 : wrap64 (10 * sv true P) = -(10 * (P : Int)) := by unfold sv; rw [if_pos rfl, w64 (by omega)]; omega
      have e2 : wrap64 (-(10 * (P : Int)) - (d : Int)) = sv true (10 * P + d) := by unfold sv; rw [if_pos rfl, w64 (by omega)]; omega
      refine Ev.step (fun k => ?_) hnx
      rw [demoticref09_Int.l0, if_pos c1, if_pos rfl, if_pos c2, e1, hbd, e2, hi1]
    | false =>
      have hm' := hm rfl
      have e1 : wrap64 (10 * sv false P) = 10 * (P : Int) := by unfold sv; rw [if_neg (by decide), w64 (by omega)]
      have e2 : wrap64 (10 * (P : Int) + (d : Int)) = sv false (10 * P + d) := by unfold sv; rw [if_neg (by decide), w64 (by omega)]; omega
      refine Ev.step (fun k => ?_) hnx
      rw [demoticref09_Int.l0, if_pos c1, if_neg (by decide), if_pos c2, e1, hbd, e2, hi1]

theorem topN : dec 9223372036854775807 = ⟨#[57, 50, 50, 51, 51, 55, 50, 48, 51, 54, 56, 53, 52, 55, 55, 53, 56, 48, 55]⟩ := by simp [dec, decDigits]
theorem topM : dec 9223372036854775808 = ⟨#[57, 50, 50, 51, 51, 55, 50, 48, 51, 54, 56, 53, 52, 55, 55, 53, 56, 48, 56]⟩ := by simp [dec, decDigits]

theorem int_j0 (v : Int) (T : Nat) (hT : T = if v < 0 then 9223372036854775808 else 9223372036854775807) : Ev (fun k => demoticref09_Int.j0 k (dec v.natAbs) (decide (v < 0)) (dec T)) (if -9223372036854775808 ≤ v ∧ v ≤ 9223372036854775807 then (v, 0) else (0, 10)) := by
  by_cases h : T < v.natAbs
  · rw [if_neg (by rintro ⟨h1, h2⟩; split at hT <;> omega)]
    refine Ev.step (f := fun _ => some ((0 : Int), (10 : Int))) (fun k => ?_) (Ev.now _)
    rw [demoticref09_Int.j0, below_eq, decide_eq_true h, Option.bind_some, if_pos rfl]
  · rw [if_pos (by split at hT <;> omega)]
    have h0 := int_l0 v.natAbs (decide (v < 0)) (by split at hT <;> omega) (fun hv => by
      have : ¬ v < 0 := by simpa using hv
      rw [if_neg this] at hT; omega) (nDigits v.natAbs) 0 (by omega)
    rw [sv_num, List.take_zero] at h0
    have e : sv (decide (v < 0)) (dv []) = 0 := by unfold sv; simp [dv]
    rw [e] at h0
    refine Ev.step (fun k => ?_) h0
    rw [demoticref09_Int.j0, below_eq, decide_eq_false h, Option.bind_some, if_neg (by decide)]
    rfl

theorem refInt_ev (s : ByteArray) (hs : s.size ≤ 1000000) : Ev (fun k => demoticref09_Int.f k s) (intR s.data.toList) := by
  have rs := refRight_ev s hs
  have am := amount_ev s hs
  unfold intR
  cases e : right? s.data.toList with
  | none =>
    rw [show (right? s.data.toList).isSome = false by rw [e]; rfl] at rs
    refine Ev.bind am (Ev.bind rs (Ev.congr (f := fun _ => some ((0 : Int), (1 : Int))) (fun k => ?_) (Ev.now _)))
    rw [if_neg (by decide)]
  | some v =>
    rw [show (right? s.data.toList).isSome = true by rw [e]; rfl] at rs
    obtain ⟨nv, lv⟩ := right_num e
    rw [amountB_some nv] at am
    have hj := int_j0 v _ rfl
    refine Ev.bind am (Ev.bind rs (Ev.congr (fun k => ?_) hj))
    rw [if_pos rfl, ← topN, ← topM]
    by_cases hv : v < 0
    · rw [if_pos (decide_eq_true hv), if_pos hv]
    · rw [if_neg (by simpa using hv), if_neg hv]

end Go.Proofs.YtjfmefdhfboliaaDoor.Ref
