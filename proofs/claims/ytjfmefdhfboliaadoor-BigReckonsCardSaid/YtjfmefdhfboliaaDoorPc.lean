/- What the references' functions of chapter 09 tell: the limit, which texts are numbers, quotient and rest, what comes of two numbers. -/
import Derived.Test.YtjfmefdhfboliaaDoorPb
import Derived.Test.YtjfmefdhfboliaaDoorText
namespace Go.Proofs.YtjfmefdhfboliaaDoor.Ref
open Go.RowKit Go.Proofs.YtjfmefdhfboliaaDoorW.PrintWords Go.Proofs.YtjfmefdhfboliaaDoorW.PrintLast Go.Proofs.YtjfmefdhfboliaaDoorW.PrintMore
open Num (dv Figs Canon canon_eq canon_decDigits figs_decDigits dv_decDigits dv_snoc twoPow lim twoPow_succ twoPow_le lim_digits nDigits_lt num? right? plainB figB cutMinus)
open Go.Lib (decDigits nDigits decDigits_length itoa)

theorem two_digits {i : Nat} (h : i ≤ 512) : nDigits (twoPow i) ≤ 155 := nDigits_lt (Nat.lt_of_le_of_lt (twoPow_le h) lim_digits) (by decide)

theorem limit_l0 : ∀ (n i : Nat), i + n = 512 → Ev (fun k => demoticref09_limit.l0 k (dec (twoPow i)) (i : Int)) (dec lim)
  | 0, i, hi => by
    obtain rfl : i = 512 := by omega
    refine Ev.step (f := fun _ => some (dec lim)) (fun k => ?_) (Ev.now _)
    simp only [demoticref09_limit.l0]
    rw [if_neg (by decide)]; rfl
  | n + 1, i, hi => by
    have hd := two_digits (show i ≤ 512 by omega)
    have ha := add_ev (dec (twoPow i)) (dec (twoPow i)) (dec_figs _) (dec_figs _) (by rw [dec_size]; omega) (by rw [dec_size]; omega)
    rw [dec_dv, ← twoPow_succ] at ha
    refine Ev.step (f := fun k => (demoticref09_add.f k (dec (twoPow i)) (dec (twoPow i))).bind fun t => demoticref09_limit.l0 k t ((i + 1 : Nat) : Int)) (fun k => ?_) (Ev.bind ha (limit_l0 n (i + 1) (by omega)))
    simp only [demoticref09_limit.l0]
    rw [if_pos (by omega), w64 (e := (i : Int) + 1) (by omega)]
    rfl

theorem limit_ev : Ev (fun k => demoticref09_limit.f k) (dec lim) := by
  have h := limit_l0 512 0 (by decide)
  have e : dec (twoPow 0) = ⟨#[49]⟩ := by simp [dec, twoPow, decDigits]
  rw [e] at h
  exact h

theorem bt_drop (s : ByteArray) (i : Nat) (h : i < s.size) : ∃ c, s.data.toList.drop i = c :: s.data.toList.drop (i + 1) ∧ bt s i = (c.toNat : Int) := by
  have hl : i < s.data.toList.length := by rw [← size_len]; exact h
  exact ⟨_, List.drop_eq_getElem_cons hl, bt_list s i hl⟩

theorem refPlain_l0 (s : ByteArray) (hs : s.size ≤ 1000000) : ∀ (n i : Nat), i + n = s.size → Ev (fun k => demoticref03_Plain.l0 k s (i : Int)) ((s.data.toList.drop i).all figB)
  | 0, i, hi => by
    refine Ev.step (f := fun _ => some _) (fun k => ?_) (Ev.now _)
    simp only [demoticref03_Plain.l0]
    rw [if_neg (by omega), List.drop_of_length_le (by rw [← size_len]; omega)]
    rfl
  | n + 1, i, hi => by
    obtain ⟨c, hc, hb⟩ := bt_drop s i (by omega)
    have hn := c.toNat_lt
    by_cases hf : 48 ≤ c.toNat ∧ c.toNat ≤ 57
    · have e : (s.data.toList.drop i).all figB = (s.data.toList.drop (i + 1)).all figB := by
        rw [hc, List.all_cons]; simp [figB, hf]
      rw [e]
      refine Ev.step (fun k => ?_) (refPlain_l0 s hs n (i + 1) (by omega))
      simp only [demoticref03_Plain.l0]
      rw [if_pos (by omega), if_pos (by omega), hb, if_neg (by omega), if_neg (by omega), w64 (e := (i : Int) + 1) (by omega)]
      rfl
    · have e : (s.data.toList.drop i).all figB = false := by
        rw [hc, List.all_cons]
        have : figB c = false := by unfold figB; exact decide_eq_false hf
        rw [this, Bool.false_and]
      rw [e]
      refine Ev.step (f := fun _ => some false) (fun k => ?_) (Ev.now _)
      simp only [demoticref03_Plain.l0]
      rw [if_pos (by omega), if_pos (by omega), hb]
      by_cases h1 : (c.toNat : Int) < 48
      · rw [if_pos h1]
      · rw [if_neg h1, if_pos (by omega)]

theorem refPlain_ev (s : ByteArray) (hs : s.size ≤ 1000000) : Ev (fun k => demoticref03_Plain.f k s) (plainB s.data.toList) := by
  have h0 := refPlain_l0 s hs s.size 0 (by omega)
  rw [List.drop_zero] at h0
  have stop : Ev (fun k => demoticref03_Plain.j0 k s true) false := Ev.step (f := fun _ => some false) (fun k => by simp only [demoticref03_Plain.j0]; rfl) (Ev.now _)
  have go : Ev (fun k => demoticref03_Plain.j0 k s false) (s.data.toList.all figB) := Ev.step (fun k => by simp only [demoticref03_Plain.j0]; rw [if_neg (by decide)]; rfl) h0
  have hl := size_len s
  by_cases h1 : s.size = 0
  · have e : plainB s.data.toList = false := by
      have : s.data.toList = [] := List.length_eq_zero_iff.1 (by omega)
      rw [this]; rfl
    rw [e]
    refine Ev.congr (fun k => ?_) stop
    unfold demoticref03_Plain.f
    rw [if_pos (by omega)]
  · by_cases h2 : 200 < s.size
    · have e : plainB s.data.toList = false := by
        unfold plainB
        have h3 : (s.data.toList == [48]) = false := by
          apply beq_eq_false_iff_ne.2
          intro e; rw [e] at hl; simp at hl; omega
        have h4 : decide (s.data.toList.length ≤ 200) = false := decide_eq_false (by omega)
        rw [h3, h4]; simp
      rw [e]
      refine Ev.congr (fun k => ?_) stop
      unfold demoticref03_Plain.f
      rw [if_neg (by omega), if_pos (by omega)]
    · obtain ⟨c, hc, hb⟩ := bt_drop s 0 (by omega)
      rw [List.drop_zero] at hc
      by_cases h3 : 1 < s.size
      · have h5 : (s.data.toList == [48]) = false := by
          apply beq_eq_false_iff_ne.2
          intro e; rw [e] at hl; simp at hl; omega
        by_cases h4 : c.toNat = 48
        · have e : plainB s.data.toList = false := by
            have hc48 : c = 48 := UInt8.toNat_inj.1 (by simpa using h4)
            unfold plainB
            rw [h5]
            have : (s.data.toList.head? == some 48) = true := by rw [hc, hc48]; rfl
            rw [this]; simp
          rw [e]
          refine Ev.congr (fun k => ?_) stop
          unfold demoticref03_Plain.f
          rw [if_neg (by omega), if_neg (by omega), if_pos (by omega), if_pos (by omega)]
          have : (bt s 0 == 48) = true := by
            have hb' : bt s 0 = (c.toNat : Int) := hb
            rw [hb', h4]; rfl
          rw [this]
        · have e : plainB s.data.toList = s.data.toList.all figB := by
            unfold plainB
            have h6 : (s.data.toList.head? == some 48) = false := by
              rw [hc]
              apply beq_eq_false_iff_ne.2
              simp only [List.head?_cons, ne_eq, Option.some.injEq]
              rintro rfl
              exact h4 rfl
            have h7 : s.data.toList.isEmpty = false := by rw [hc]; rfl
            have h8 : decide (s.data.toList.length ≤ 200) = true := decide_eq_true (by omega)
            rw [h5, h6, h7, h8]; simp
          rw [e]
          refine Ev.congr (fun k => ?_) go
          unfold demoticref03_Plain.f
          rw [if_neg (by omega), if_neg (by omega), if_pos (by omega), if_pos (by omega)]
          have : (bt s 0 == 48) = false := by
            have hb' : bt s 0 = (c.toNat : Int) := hb
            rw [hb']; apply beq_eq_false_iff_ne.2; omega
          rw [this]
      · have e : plainB s.data.toList = s.data.toList.all figB := by
          have hc1 : s.data.toList = [c] := by
            rw [hc]; congr 1
            exact List.drop_of_length_le (by omega)
          unfold plainB
          rw [hc1]
          by_cases h4 : c = 48
          · subst h4; rfl
          · simp
        rw [e]
        refine Ev.congr (fun k => ?_) go
        unfold demoticref03_Plain.f
        rw [if_neg (by omega), if_neg (by omega), if_neg (by omega)]


/-! ### Which texts are numbers -/

/-- A number's figures, its sign, whether there is one. -/
def amountB (l : List UInt8) : ByteArray × Bool × Bool :=
  match num? l with
  | some v => (dec v.natAbs, decide (v < 0), true)
  | none => (⟨#[]⟩, false, false)
theorem amountB_some {l : List UInt8} {v : Int} (h : num? l = some v) : amountB l = (dec v.natAbs, decide (v < 0), true) := by unfold amountB; rw [h]
theorem amountB_none {l : List UInt8} (h : num? l = none) : amountB l = (⟨#[]⟩, false, false) := by unfold amountB; rw [h]

theorem num?_plainly {l : List UInt8} (hh : l.head? ≠ some 45) : num? l = if plainB l = true ∧ l.length ≤ 160 then some (dv l : Int) else none := by
  have hc : cutMinus l = (l, false) := by unfold cutMinus; rw [if_neg hh]
  have hne : l ≠ [45, 48] := fun e => hh (by rw [e]; rfl)
  unfold num?
  rw [hc]
  by_cases h : plainB l = true ∧ l.length ≤ 160
  · rw [if_pos h, if_pos ⟨h.1, h.2, hne⟩]; rfl
  · rw [if_neg h, if_neg (fun k => h ⟨k.1, k.2.1⟩)]
theorem num?_signed (l : List UInt8) : num? (45 :: l) = if plainB l = true ∧ l.length ≤ 160 ∧ l ≠ [48] then some (-(dv l : Int)) else none := by
  have hc : cutMinus (45 :: l) = (l, true) := rfl
  unfold num?
  rw [hc]
  by_cases h : plainB l = true ∧ l.length ≤ 160 ∧ l ≠ [48]
  · rw [if_pos h, if_pos ⟨h.1, h.2.1, fun e => h.2.2 (List.cons.inj e).2⟩]; rfl
  · rw [if_neg h, if_neg (fun k => h ⟨k.1, k.2.1, fun e => k.2.2 (by rw [e])⟩)]

theorem plain_dec {s : ByteArray} (h : plainB s.data.toList = true) : s = dec (dv s.data.toList) := by
  apply ba_ext
  exact canon_eq (Num.plainB_canon h)

theorem tail_extract (s : ByteArray) (c : UInt8) (l : List UInt8) (h : s.data.toList = c :: l) : (s.extract 1 s.size).data.toList = l := by
  rw [ByteArray.data_extract, Array.toList_extract, List.extract_eq_drop_take', h, size_len, h]
  simp

theorem amount_plainly (s : ByteArray) (hs : s.size ≤ 1000000) (hh : s.data.toList.head? ≠ some 45) : Ev (fun k => demoticref09_Amount.j0 k s false) (amountB s.data.toList) := by
  have hl := size_len s
  have hn := num?_plainly hh
  refine Ev.step (f := fun k => (demoticref03_Plain.f k s).bind fun t => if t = true then (if (s.size : Int) > 160 then some ((⟨#[]⟩ : ByteArray), false, false) else some (s, false, true)) else some ((⟨#[]⟩ : ByteArray), false, false)) (fun k => ?_) (Ev.bind (refPlain_ev s hs) ?_)
  · simp only [demoticref09_Amount.j0]
    rw [if_neg (by decide)]
  · by_cases hp : plainB s.data.toList = true
    · by_cases h160 : s.data.toList.length ≤ 160
      · rw [if_pos ⟨hp, h160⟩] at hn
        rw [amountB_some hn]
        refine Ev.congr (fun k => ?_) (Ev.now _)
        rw [if_pos hp, if_neg (by omega), Int.natAbs_natCast, ← plain_dec hp, decide_eq_false (by omega)]
      · rw [if_neg (fun h => h160 h.2)] at hn
        rw [amountB_none hn]
        refine Ev.congr (fun k => ?_) (Ev.now _)
        rw [if_pos hp, if_pos (by omega)]
    · rw [if_neg (fun h => hp h.1)] at hn
      rw [amountB_none hn]
      refine Ev.congr (fun k => ?_) (Ev.now _)
      rw [if_neg hp]

theorem amount_signed (s : ByteArray) (hs : s.size ≤ 1000000) (l : List UInt8) (hsl : s.data.toList = 45 :: l) : Ev (fun k => demoticref09_Amount.j0 k s true) (amountB s.data.toList) := by
  have hl := size_len s
  have ht := tail_extract s 45 l hsl
  have hn := num?_signed l
  rw [← hsl] at hn
  have hsz : s.size = l.length + 1 := by rw [hl, hsl]; rfl
  have htz : (s.extract 1 s.size).size = l.length := by rw [size_len, ht]
  have hP := refPlain_ev (s.extract 1 s.size) (by omega)
  have htl : (s.extract 1 s.size).toList = l := by rw [ByteArray.toList_eq, ht]
  rw [ht] at hP
  refine Ev.step (f := fun k => (demoticref03_Plain.f k (s.extract 1 s.size)).bind fun t => if t = true then (if ((s.extract 1 s.size).size : Int) > 160 then some ((⟨#[]⟩ : ByteArray), false, false) else (if (s.extract 1 s.size).toList = ([48] : List UInt8) then some ((⟨#[]⟩ : ByteArray), false, false) else some (s.extract 1 s.size, true, true))) else some ((⟨#[]⟩ : ByteArray), false, false)) (fun k => ?_) (Ev.bind hP ?_)
  · simp only [demoticref09_Amount.j0, if_true]
    rw [if_pos (by omega)]
  · by_cases hp : plainB l = true
    · by_cases h160 : l.length ≤ 160
      · by_cases h0 : l = [48]
        · rw [if_neg (fun h => h.2.2 h0)] at hn
          rw [amountB_none hn]
          refine Ev.congr (fun k => ?_) (Ev.now _)
          rw [if_pos hp, if_neg (by omega), if_pos (by rw [htl]; exact h0)]
        · rw [if_pos ⟨hp, h160, h0⟩] at hn
          rw [amountB_some hn]
          have hpos : 0 < dv l := by
            rcases Num.plainB_canon hp with e | ⟨a, b, c⟩
            · exact absurd e h0
            · exact Num.dv_pos a b c
          have hd := plain_dec (s := s.extract 1 s.size) (by rw [ht]; exact hp)
          rw [ht] at hd
          refine Ev.congr (fun k => ?_) (Ev.now _)
          rw [if_pos hp, if_neg (by omega), if_neg (by rw [htl]; exact h0), Int.natAbs_neg, Int.natAbs_natCast, ← hd, decide_eq_true (by omega)]
      · rw [if_neg (fun h => h160 h.2.1)] at hn
        rw [amountB_none hn]
        refine Ev.congr (fun k => ?_) (Ev.now _)
        rw [if_pos hp, if_pos (by omega)]
    · rw [if_neg (fun h => hp h.1)] at hn
      rw [amountB_none hn]
      refine Ev.congr (fun k => ?_) (Ev.now _)
      rw [if_neg hp]

theorem amount_ev (s : ByteArray) (hs : s.size ≤ 1000000) : Ev (fun k => demoticref09_Amount.f k s) (amountB s.data.toList) := by
  have hl := size_len s
  by_cases h0 : s.size = 0
  · have : s.data.toList = [] := List.length_eq_zero_iff.1 (by omega)
    refine Ev.congr (fun k => ?_) (amount_plainly s hs (by rw [this]; simp))
    unfold demoticref09_Amount.f
    rw [if_neg (by omega)]
  · obtain ⟨c, hc, hb⟩ := bt_drop s 0 (by omega)
    rw [List.drop_zero] at hc
    have hb' : bt s 0 = (c.toNat : Int) := hb
    by_cases h45 : c = 45
    · refine Ev.congr (fun k => ?_) (amount_signed s hs _ (by rw [← h45]; exact hc))
      unfold demoticref09_Amount.f
      rw [if_pos (by omega), if_pos (by omega), hb', h45]; rfl
    · refine Ev.congr (fun k => ?_) (amount_plainly s hs (by rw [hc]; simpa using h45))
      unfold demoticref09_Amount.f
      have h1 : c.toNat ≠ 45 := fun e => h45 (UInt8.toNat_inj.1 (by simpa using e))
      have : ((c.toNat : Int) == 45) = false := by
        apply beq_eq_false_iff_ne.2
        omega
      rw [if_pos (by omega), if_pos (by omega), hb', this]

theorem refRight_ev (s : ByteArray) (hs : s.size ≤ 1000000) : Ev (fun k => demoticref09_Right.f k s) (right? s.data.toList).isSome := by
  refine Ev.bind (amount_ev s hs) ?_
  cases h : num? s.data.toList with
  | none =>
    rw [amountB_none h, show (right? s.data.toList).isSome = false by unfold right?; rw [h]; rfl]
    exact Ev.now _
  | some v =>
    rw [amountB_some h]
    refine Ev.congr (f := fun k => (demoticref09_limit.f k).bind fun t => (demoticref09_below.f (dec v.natAbs) t).bind fun t => some t) (fun k => rfl) (Ev.bind limit_ev ?_)
    rw [below_eq, show (right? s.data.toList).isSome = decide (v.natAbs < lim) by
      unfold right?; rw [h]
      by_cases hv : v.natAbs < lim <;> simp [Option.filter, hv]]
    exact Ev.now _

/-- A number written: it is right just if it is within the limit. -/
theorem right_itoa (z : Int) : (right? (itoa z)).isSome = decide (z.natAbs < lim) := by
  by_cases h : z.natAbs < lim
  · rw [Num.right?_itoa h, decide_eq_true h]; rfl
  · rw [decide_eq_false h]
    cases e : right? (itoa z) with
    | none => rfl
    | some v =>
      obtain ⟨h1, h2⟩ := Num.right?_some e
      rw [Num.itoa_inj h1] at h
      exact absurd h2 h

end Go.Proofs.YtjfmefdhfboliaaDoor.Ref
