/- What the references' functions of chapter 09 tell: figures, the sum, the difference. Plain laws over lists; no memory. -/
import Derived.Test.YtjfmefdhfboliaaDoorRc
import Derived.Test.YtjfmefdhfboliaaDoorTen
import Derived.Test.YtjfmefdhfboliaaDoorNum
import Derived.Lib.LazyBuf
namespace Go.Proofs.YtjfmefdhfboliaaDoor.Ref
open Go.RowKit Go.Proofs.YtjfmefdhfboliaaDoorW.PrintWords Go.Proofs.YtjfmefdhfboliaaDoorW.PrintLast Go.Proofs.YtjfmefdhfboliaaDoorW.PrintMore
open Num (dv Figs Canon canon_eq canon_decDigits figs_decDigits dv_decDigits dv_snoc)
open Go.Lib (decDigits nDigits decDigits_length)

theorem w64 {e : Int} (h : -9223372036854775808 ≤ e ∧ e ≤ 9223372036854775807) : wrap64 e = e := by unfold wrap64; omega

/-- A number in figures. -/
def dec (n : Nat) : ByteArray := ⟨(decDigits n).toArray⟩
/-- The figures' worth, the lowest first. -/
def digs (l : List UInt8) : List Int := l.reverse.map fun c => (c.toNat : Int) - 48

theorem digs_length (l : List UInt8) : (digs l).length = l.length := by simp [digs]
theorem digs_snoc (l : List UInt8) (c : UInt8) : digs (l ++ [c]) = ((c.toNat : Int) - 48) :: digs l := by simp [digs]
theorem digs_dig {l : List UInt8} (h : Figs l) : Ten.Dig (digs l) := by
  intro d hd
  simp only [digs, List.mem_map, List.mem_reverse] at hd
  obtain ⟨c, hc, rfl⟩ := hd
  have := h c hc
  omega
theorem digs_val {l : List UInt8} (h : Figs l) : Ten.val (digs l) = dv l := by
  suffices ∀ (n : Nat) (l : List UInt8), l.length = n → Figs l → Ten.val (digs l) = dv l from this _ l rfl h
  intro n
  induction n with
  | zero => intro l hl _; obtain rfl := List.length_eq_zero_iff.1 hl; rfl
  | succ n ih =>
    intro l hl hf
    rcases List.eq_nil_or_concat l with rfl | ⟨m, c, rfl⟩
    · simp at hl
    · simp only [List.concat_eq_append] at *
      have hc := hf c (by simp)
      rw [digs_snoc, Ten.val, ih m (by simpa using hl) hf.left, dv_snoc]
      omega

theorem bt_list (s : ByteArray) (i : Nat) (h : i < s.data.toList.length) : bt s i = ((s.data.toList[i]'h).toNat : Int) := by
  have hs : i < s.size := by have e : s.data.toList.length = s.size := Array.length_toList; omega
  unfold bt
  rw [dif_pos (by simpa using hs)]
  simp only [Int.toNat_natCast, Array.getElem_toList]
  rfl

theorem D_digs (l : List UInt8) (i : Nat) (h : i < l.length) : Ten.D (digs l) i = ((l[l.length - 1 - i]'(by omega)).toNat : Int) - 48 := by
  unfold Ten.D digs
  rw [List.getElem?_map, List.getElem?_eq_getElem (by simpa using h), List.getElem_reverse]
  rfl
theorem D_over (l : List UInt8) (i : Nat) (h : l.length ≤ i) : Ten.D (digs l) i = 0 := by
  unfold Ten.D
  rw [List.getElem?_eq_none (by rw [digs_length]; exact h)]; rfl

theorem size_len (s : ByteArray) : s.size = s.data.toList.length := Array.length_toList.symm

theorem at_eq (s : ByteArray) (hs : s.size ≤ 1000000) (i : Nat) (hi : i ≤ 1000000) : demoticref09_at.f s i = some (Ten.D (digs s.data.toList) i) := by
  unfold demoticref09_at.f
  by_cases h : s.size ≤ i
  · rw [if_pos (by omega), D_over _ _ (by rw [← size_len]; exact h)]
  · have hl : i < s.data.toList.length := by rw [← size_len]; omega
    rw [if_neg (by omega), w64 (e := (s.size : Int) - 1) (by omega), w64 (e := (s.size : Int) - 1 - i) (by omega), if_pos (by omega), if_pos (by omega)]
    have e : (s.size : Int) - 1 - i = ((s.data.toList.length - 1 - i : Nat) : Int) := by rw [size_len]; omega
    rw [e, bt_list s _ (by omega), D_digs _ _ hl]
    have := (s.data.toList[s.data.toList.length - 1 - i]'(by omega)).toNat_lt
    obtain ⟨c, hc⟩ : ∃ c : Int, ((s.data.toList[s.data.toList.length - 1 - i]'(by omega)).toNat : Int) = c := ⟨_, rfl⟩
    have hb : 0 ≤ c ∧ c ≤ 255 := by omega
    rw [hc, w64 (e := c) (by omega), w64 (e := c - 48) (by omega)]

/-! ### A row of figures, written -/

def figBytes (l : List Int) : List UInt8 := l.map fun d => UInt8.ofNat (48 + d.toNat)

theorem figBytes_toNat {d : Int} (h : 0 ≤ d ∧ d < 10) : (UInt8.ofNat (48 + d.toNat)).toNat = 48 + d.toNat := by
  simp; omega
theorem figs_figBytes {l : List Int} (h : Ten.Dig l) : Figs (figBytes l) := by
  intro c hc
  simp only [figBytes, List.mem_map] at hc
  obtain ⟨d, hd, rfl⟩ := hc
  have := h d hd
  rw [figBytes_toNat this]; omega
theorem digs_figBytes {l : List Int} (h : Ten.Dig l) : digs (figBytes l.reverse) = l := by
  unfold digs figBytes
  rw [← List.map_reverse, List.reverse_reverse, List.map_map]
  conv => rhs; rw [← List.map_id l]
  apply List.map_congr_left
  intro d hd
  have := h d hd
  simp only [Function.comp, figBytes_toNat this, id]
  omega

theorem nums_figBytes {l : List Int} (h : Ten.Dig l) : strOfNums (l.map fun d => 48 + d) = ⟨(figBytes l).toArray⟩ := by
  have : (l.map fun d => 48 + d) = (figBytes l).map fun b => (b.toNat : Int) := by
    unfold figBytes
    rw [List.map_map]
    apply List.map_congr_left
    intro d hd
    have := h d hd
    simp only [Function.comp, figBytes_toNat this]
    omega
  rw [this, Go.Lib.Lz.strOfNums_map]

/-- A row that is not empty, without a nought at its end or of one figure, written from its end on, is the numeral. -/
theorem figBytes_dec {l : List Int} (h : Ten.Dig l) (hne : l ≠ []) (hl : l.length = 1 ∨ l.getLast hne ≠ 0) : (⟨(figBytes l.reverse).toArray⟩ : ByteArray) = dec (Ten.val l).toNat := by
  have hf : Figs (figBytes l.reverse) := figs_figBytes fun d hd => h d (List.mem_reverse.1 hd)
  have hv := digs_val hf
  rw [digs_figBytes h] at hv
  have hc : Canon (figBytes l.reverse) := by
    rcases hl with h1 | h1
    · match l, h1 with
      | [d], _ =>
        have hd := h d List.mem_cons_self
        by_cases h0 : d = 0
        · subst h0; left; rfl
        · right
          refine ⟨by simp [figBytes], ?_, hf⟩
          simp only [figBytes, List.reverse_singleton, List.map_cons, List.map_nil, List.head?_cons, ne_eq, Option.some.injEq]
          intro e
          have := congrArg UInt8.toNat e
          rw [figBytes_toNat hd] at this
          simp at this; omega
    · right
      have hd := h _ (List.getLast_mem hne)
      refine ⟨by simp [figBytes, hne], ?_, hf⟩
      have e : l.reverse = l.getLast hne :: l.dropLast.reverse := by
        have := congrArg List.reverse (List.dropLast_concat_getLast hne)
        rw [List.reverse_append] at this
        exact this.symm
      rw [e]
      simp only [figBytes, List.map_cons, List.head?_cons, ne_eq, Option.some.injEq]
      intro e
      have := congrArg UInt8.toNat e
      rw [figBytes_toNat hd] at this
      simp at this; omega
  have := canon_eq hc
  rw [dec, hv, Int.toNat_natCast, ← this]

/-! ### plain -/

theorem rd_D {L : List Int} {i : Nat} (_h : i < L.length) : rd L (i : Int) = Ten.D L i := by
  unfold rd Ten.D
  simp [List.getD_eq_getElem?_getD]

theorem D_mem {L : List Int} (h : Ten.Dig L) (i : Nat) : 0 ≤ Ten.D L i ∧ Ten.D L i < 10 := Ten.D_dig h i

/-- The writing loop, from the i-th figure down. -/
theorem plain_l1 (L : List Int) (hL : Ten.Dig L) (hl : L.length ≤ 1000000) : ∀ (i : Nat) (acc : List Int), i ≤ L.length → acc.length + i ≤ 1000000 →
    Ev (fun k => demoticref09_plain.l1 k L acc ((i : Int) - 1)) (if acc = [] ∧ i = 0 then (⟨#[48]⟩ : ByteArray) else strOfNums (acc ++ ((L.take i).reverse.map fun d => 48 + d)))
  | 0, acc, _, _ => by
    refine Ev.step (f := fun _ => some _) (fun k => ?_) (Ev.now _)
    simp only [demoticref09_plain.l1]
    rw [if_neg (by omega)]
    by_cases h : acc = []
    · subst h; rfl
    · rw [if_neg (by simpa using h)]
      simp [h]
  | i + 1, acc, hi, ha => by
    have hd := D_mem hL i
    refine Ev.step (f := fun k => demoticref09_plain.l1 k L (acc ++ [48 + Ten.D L i]) ((i : Int) - 1)) (fun k => ?_) ?_
    · have e1 : (((i + 1 : Nat) : Int) - 1) = (i : Int) := by omega
      simp only [demoticref09_plain.l1]
      rw [e1, if_pos (by omega), if_pos (by omega), if_pos (by omega), if_pos (by omega), rd_D (by omega), w64 (by omega), w64 (by omega), show (48 + Ten.D L i) % 256 = 48 + Ten.D L i by omega]
    · have h := plain_l1 L hL hl i (acc ++ [48 + Ten.D L i]) (by omega) (by simp; omega)
      have e : L.take (i + 1) = L.take i ++ [Ten.D L i] := by
        rw [List.take_succ_eq_append_getElem (by omega)]
        simp [Ten.D, List.getElem?_eq_getElem (show i < L.length by omega)]
      rw [if_neg (by simp)] at h
      rw [if_neg (by simp), e, List.reverse_append, List.map_append]
      simpa using h

theorem val_nil {l : List Int} (h : ∀ d ∈ l, d = 0) : Ten.val l = 0 := by
  induction l with
  | nil => rfl
  | cons d l ih => rw [Ten.val, h d List.mem_cons_self, ih fun x hx => h x (List.mem_cons_of_mem _ hx)]; rfl

theorem plain_l0 (L : List Int) (hL : Ten.Dig L) (hl : L.length ≤ 1000000) : ∀ (j : Nat), j ≤ L.length → (∀ i, j ≤ i → Ten.D L i = 0) → (j = 0 → L = []) →
    Ev (fun k => demoticref09_plain.l0 k L (j : Int)) (dec (Ten.val L).toNat)
  | j, hj, hz, h0 => by
    have hv : Ten.val L = Ten.val (L.take j) := by
      conv => lhs; rw [← List.take_append_drop j L, Ten.val_append]
      rw [val_nil (l := L.drop j) (fun d hd => ?_)]
      · omega
      · obtain ⟨i, hi, rfl⟩ := List.getElem_of_mem hd
        rw [List.getElem_drop]
        have := hz (j + i) (by omega)
        unfold Ten.D at this
        rw [List.length_drop] at hi
        rwa [List.getElem?_eq_getElem (by omega)] at this
    have out : j ≤ 1 ∨ Ten.D L (j - 1) ≠ 0 → Ev (fun k => demoticref09_plain.j1 k L (j : Int)) (dec (Ten.val L).toNat) := fun hc => by
      refine Ev.step (f := fun k => demoticref09_plain.l1 k L [] ((j : Int) - 1)) (fun k => by simp only [demoticref09_plain.j1]; rw [w64 (by omega)]) ?_
      have h := plain_l1 L hL hl j [] hj (by simp; omega)
      rw [hv]
      by_cases hj0 : j = 0
      · subst hj0
        obtain rfl := h0 rfl
        simpa [dec, Ten.val, decDigits] using h
      · rw [if_neg (by simp [hj0]), List.nil_append, nums_figBytes (l := (L.take j).reverse) (fun d hd => hL d (List.mem_of_mem_take (List.mem_reverse.1 hd)))] at h
        rwa [figBytes_dec (hL.take j) (fun e => by have := congrArg List.length e; rw [List.length_take, List.length_nil] at this; omega)] at h
        have hlen : (L.take j).length = j := by rw [List.length_take]; omega
        rcases hc with hc | hc
        · left; omega
        · right
          rw [List.getLast_eq_getElem]
          simp only [hlen, List.getElem_take]
          unfold Ten.D at hc
          rwa [List.getElem?_eq_getElem (by omega)] at hc
    by_cases h1 : j ≤ 1
    · refine Ev.step (f := fun k => demoticref09_plain.j1 k L (j : Int)) (fun k => by simp only [demoticref09_plain.l0]; rw [if_neg (by omega)]) (out (.inl h1))
    · obtain ⟨m, rfl⟩ : ∃ m, j = m + 1 := ⟨j - 1, by omega⟩
      have e1 : (((m + 1 : Nat) : Int) - 1) = (m : Int) := by omega
      by_cases h2 : Ten.D L m = 0
      · refine Ev.step (f := fun k => demoticref09_plain.l0 k L (m : Int)) (fun k => ?_) (plain_l0 L hL hl m (by omega) (fun i hi => ?_) (fun e => by omega))
        · simp only [demoticref09_plain.l0]
          rw [if_pos (by omega), w64 (by omega), e1, if_pos (by omega), if_pos (by omega), rd_D (i := m) (by omega), if_pos h2]
        · rcases Nat.lt_or_ge m i with h | h
          · exact hz i h
          · obtain rfl : i = m := by omega
            exact h2
      · refine Ev.step (f := fun k => demoticref09_plain.j1 k L ((m + 1 : Nat) : Int)) (fun k => ?_) (out (.inr h2))
        simp only [demoticref09_plain.l0]
        rw [if_pos (by omega), w64 (by omega), e1, if_pos (by omega), if_pos (by omega), rd_D (i := m) (by omega), if_neg h2]

/-- plain writes the number. -/
theorem plain_ev (L : List Int) (hL : Ten.Dig L) (hl : L.length ≤ 1000000) : Ev (fun k => demoticref09_plain.f k L) (dec (Ten.val L).toNat) :=
  plain_l0 L hL hl L.length (Nat.le_refl _) (fun i hi => by unfold Ten.D; rw [List.getElem?_eq_none hi]; rfl) (fun h => List.length_eq_zero_iff.1 h)

end Go.Proofs.YtjfmefdhfboliaaDoor.Ref
