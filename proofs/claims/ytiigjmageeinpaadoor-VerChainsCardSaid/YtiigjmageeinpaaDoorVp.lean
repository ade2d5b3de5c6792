/- Plain laws of chapter 04: a line's words by bytes; what readP says of texts that are put together. No program in sight. -/
import Derived.Test.YtiigjmageeinpaaDoorVo
import Derived.Lib.SpaceUEq
namespace Go.Proofs.YtiigjmageeinpaaDoor
open Go.Lib (itoa pieceU openPiece pieceU_grow pieceU_ne closeSpans spansFromP spansFromP_end decode_N decodeN decodeN_conts decodeN_ascii size_eq width_pos)

/-- Words by bytes, behind what a word has so far. -/
def fieldsB (p : Nat → Bool) : List UInt8 → List UInt8 → List (List UInt8)
  | [], cur => if cur = [] then [] else [cur]
  | b :: t, cur => if p b.toNat = true then (if cur = [] then [] else [cur]) ++ fieldsB p t [] else fieldsB p t (cur ++ [b])

theorem fieldsB_skip (p : Nat → Bool) : ∀ (a t cur : List UInt8), (∀ b ∈ a, p b.toNat = false) → fieldsB p (a ++ t) cur = fieldsB p t (cur ++ a)
  | [], t, cur, _ => by simp
  | b :: a, t, cur, h => by
    have h0 := h b List.mem_cons_self
    have ih := fieldsB_skip p a t (cur ++ [b]) (fun x hx => h x (List.mem_cons_of_mem _ hx))
    rw [List.cons_append, fieldsB, if_neg (by rw [h0]; decide), ih, List.append_assoc]
    rfl

/-- A sign's bytes, where what is asked for has one byte. -/
theorem rune_bytes {p : Nat → Bool} (hp : ∀ x, p x = true → x < 128) (s : ByteArray) (pos : Nat) (h : pos < s.size) :
    pos + (Utf8.decode s pos).2 ≤ s.size ∧ 1 ≤ (Utf8.decode s pos).2 ∧ (p (Utf8.decode s pos).1 = true → (Utf8.decode s pos).2 = 1 ∧ p (s.data.toList.getD pos 0).toNat = true) ∧
    (p (Utf8.decode s pos).1 = false → ∀ b ∈ (s.data.toList.drop pos).take (Utf8.decode s pos).2, p b.toNat = false) := by
  have hz : s.data.toList.length = s.size := (size_eq s).symm
  have hw := width_pos s pos
  obtain ⟨c2, c3, c4, c5⟩ := decodeN_conts (s.data.toList.length - pos) (s.data.toList.getD pos 0).toNat (s.data.toList.getD (pos + 1) 0).toNat (s.data.toList.getD (pos + 2) 0).toNat (s.data.toList.getD (pos + 3) 0).toNat
  rw [← decode_N] at c2 c3 c4 c5
  have hle : pos + (Utf8.decode s pos).2 ≤ s.size := by omega
  refine ⟨hle, by omega, ?_, ?_⟩
  · intro hr
    have hlow := hp _ hr
    by_cases ha : (s.data.toList.getD pos 0).toNat < 128
    · have e := decode_N s pos
      rw [decodeN_ascii _ _ _ _ _ ha] at e
      rw [e] at hr ⊢
      exact ⟨rfl, hr⟩
    · have := decode_high s pos h (by
        have : (s[pos]'h) = s.data.toList.getD pos 0 := by simp [ByteArray.getElem_eq_getElem_data, List.getD, h]
        rw [this]; omega)
      omega
  · intro hr b hb
    obtain ⟨j, hj, rfl⟩ := List.getElem_of_mem hb
    rw [List.length_take, List.length_drop] at hj
    have hg : ((s.data.toList.drop pos).take (Utf8.decode s pos).2)[j] = s.data.toList.getD (pos + j) 0 := by
      rw [List.getElem_take, List.getElem_drop, List.getD_eq_getElem?_getD, List.getElem?_eq_getElem (by omega)]
      rfl
    rw [hg]
    by_cases ha : (s.data.toList.getD pos 0).toNat < 128
    · have e := decode_N s pos
      rw [decodeN_ascii _ _ _ _ _ ha] at e
      rw [e] at hr hj
      obtain rfl : j = 0 := by simp only [] at hj; omega
      exact hr
    · have hhi : 128 ≤ (s.data.toList.getD (pos + j) 0).toNat := by
        rcases (show j = 0 ∨ j = 1 ∨ j = 2 ∨ j = 3 by omega) with rfl | rfl | rfl | rfl
        · rw [Nat.add_zero]; omega
        · have := (c2 (by omega)).1; omega
        · have := (c3 (by omega)).1; omega
        · have := (c4 (by omega)).1; omega
      cases e : p (s.data.toList.getD (pos + j) 0).toNat with
      | false => rfl
      | true => have := hp _ e; omega

theorem spansP_eq {p : Nat → Bool} (hp : ∀ x, p x = true → x < 128) (s : ByteArray) : ∀ (f pos : Nat) (st : Option Nat) (acc : List (Nat × Nat)), s.size ≤ pos + f → pos ≤ s.size → (∀ a, st = some a → a < pos) →
    acc.map (fun x => pieceU s.data.toList x.1 x.2) ++ fieldsB p (s.data.toList.drop pos) (openPiece s.data.toList st pos) = (closeSpans s (spansFromP p s f pos st acc)).map (fun x => pieceU s.data.toList x.1 x.2)
  | 0, pos, st, acc, h, hpos, hst => by
    obtain rfl : pos = s.size := by omega
    have hd : s.data.toList.drop s.size = [] := List.drop_eq_nil_of_le (by rw [← size_eq]; exact Nat.le_refl _)
    rw [hd, fieldsB]
    cases st with
    | none => simp [spansFromP, closeSpans, openPiece]
    | some a =>
      have := pieceU_ne s.data.toList a s.size (hst a rfl) (by rw [← size_eq]; exact Nat.le_refl _)
      simp [spansFromP, closeSpans, openPiece, this]
  | f + 1, pos, st, acc, h, hpos, hst => by
    by_cases hlt : pos < s.size
    · obtain ⟨hwn, hw, hyes, hno⟩ := rune_bytes hp s pos hlt
      have hz : s.data.toList.length = s.size := (size_eq s).symm
      simp only [spansFromP, if_pos hlt]
      cases hsp : p (Utf8.decode s pos).1 with
      | true =>
        obtain ⟨h1, h2⟩ := hyes hsp
        have hdrop : s.data.toList.drop pos = s.data.toList.getD pos 0 :: s.data.toList.drop (pos + 1) := by
          rw [List.drop_eq_getElem_cons (by omega), List.getD_eq_getElem?_getD, List.getElem?_eq_getElem (by omega)]
          rfl
        rw [hdrop, fieldsB, if_pos h2, h1]
        simp only [if_true]
        cases st with
        | none =>
          have ih := spansP_eq hp s f (pos + 1) none acc (by omega) (by omega) (fun a h => by cases h)
          simpa [openPiece] using ih
        | some a =>
          have hpn := pieceU_ne s.data.toList a pos (hst a rfl) (by omega)
          have ih := spansP_eq hp s f (pos + 1) none (acc ++ [(a, pos)]) (by omega) (by omega) (fun a h => by cases h)
          simpa [openPiece, hpn] using ih
      | false =>
        have hno := hno hsp
        have hdrop : s.data.toList.drop pos = (s.data.toList.drop pos).take (Utf8.decode s pos).2 ++ s.data.toList.drop (pos + (Utf8.decode s pos).2) := by
          rw [← List.drop_drop, List.take_append_drop]
        rw [hdrop, fieldsB_skip p _ _ _ hno]
        simp only [Bool.false_eq_true, if_false]
        cases st with
        | none =>
          have ih := spansP_eq hp s f (pos + (Utf8.decode s pos).2) (some pos) acc (by omega) hwn (fun a h => by cases h; omega)
          have e : ([] : List UInt8) ++ (s.data.toList.drop pos).take (Utf8.decode s pos).2 = pieceU s.data.toList pos (pos + (Utf8.decode s pos).2) := by
            unfold pieceU
            rw [List.nil_append, Nat.add_sub_cancel_left]
          simp only [openPiece] at ih ⊢
          rw [e]
          exact ih
        | some a =>
          have ih := spansP_eq hp s f (pos + (Utf8.decode s pos).2) (some a) acc (by omega) hwn (fun b h => by cases h; have := hst a rfl; omega)
          simp only [openPiece] at ih ⊢
          rw [pieceU_grow _ _ _ _ (Nat.le_of_lt (hst a rfl))]
          exact ih
    · obtain rfl : pos = s.size := by omega
      have hd : s.data.toList.drop s.size = [] := List.drop_eq_nil_of_le (by rw [← size_eq]; exact Nat.le_refl _)
      rw [hd, fieldsB, spansFromP_end p s _ _ _ _ hlt]
      cases st with
      | none => simp [closeSpans, openPiece]
      | some a =>
        have := pieceU_ne s.data.toList a s.size (hst a rfl) (by rw [← size_eq]; exact Nat.le_refl _)
        simp [closeSpans, openPiece, this]

theorem fieldsP_bytes {p : Nat → Bool} (hp : ∀ x, p x = true → x < 128) (s : ByteArray) : (Lib.goFieldsP p s).map (fun x => x.data.toList) = fieldsB p s.data.toList [] := by
  have h := spansP_eq hp s s.size 0 none [] (by omega) (Nat.zero_le _) (fun a h => by cases h)
  simp only [List.map_nil, List.nil_append, openPiece, List.drop_zero] at h
  unfold Lib.goFieldsP Lib.spansOfP
  rw [h, List.map_map]
  congr 1
  funext x
  simp [pieceU]

theorem blankN_low (x : Nat) (h : blankN x = true) : x < 128 := by
  unfold blankN at h
  simp only [Bool.or_eq_true, decide_eq_true_eq] at h
  omega

/-- A line without its note. -/
def cutB : List UInt8 → List UInt8
  | [] => []
  | b :: l => if [47, 47].isPrefixOf (b :: l) = true then [] else b :: cutB l
theorem cut_bytes : ∀ l : List UInt8, (Lib.cut l [47, 47]).1 = cutB l
  | [] => rfl
  | b :: l => by
    have ih := cut_bytes l
    unfold Lib.cut at ih ⊢
    rw [Lib.index, cutB]
    by_cases h : [47, 47].isPrefixOf (b :: l) = true
    · rw [if_pos h, if_pos h]
      rfl
    · rw [if_neg h, if_neg h]
      have hg := Lib.index_ge l [47, 47]
      by_cases h1 : Lib.index l [47, 47] = -1
      · rw [h1] at ih ⊢
        rw [if_neg (by decide)] at ih
        simp only [show ((-1 : Int) == -1) = true from rfl, if_true]
        rw [if_neg (by decide)]
        exact congrArg _ ih
      · rw [if_pos (by omega)] at ih
        have h2 : ¬ (Lib.index l [47, 47] == -1) = true := by simpa using h1
        rw [if_neg h2, if_pos (by omega)]
        have e : (Lib.index l [47, 47] + 1).toNat = (Lib.index l [47, 47]).toNat + 1 := by omega
        simp only [e, List.take_succ_cons]
        exact congrArg _ ih

/-- A line's words, by bytes. -/
def wordsB (l : List UInt8) : List (List UInt8) := fieldsB blankN (cutB l) []
theorem words_bytes (l : List UInt8) : wordsL l = wordsB l := by
  unfold wordsL wordsB
  rw [fieldsP_bytes blankN_low, bs_list, cut_bytes]

/-! ### lines -/
theorem rowsL_of (l : List UInt8) : rowsL l = ((splitC 10 l).map wordsB).filter fun r => decide (0 < r.length) := by
  unfold rowsL rowsAll
  rw [show wordsL = wordsB from funext words_bytes]
theorem rowsL_join (a b : List UInt8) : rowsL (a ++ 10 :: b) = rowsL a ++ rowsL b := by
  rw [rowsL_of, rowsL_of, rowsL_of, splitC_join, List.map_append, List.filter_append]
theorem rowsL_line {a : List UInt8} (h : ∀ x ∈ a, x ≠ 10) : rowsL a = if wordsB a = [] then [] else [wordsB a] := by
  rw [rowsL_of, splitC_none h]
  cases e : wordsB a with
  | nil => simp [e]
  | cons x t => simp [e]
theorem rowsL_note {n : List UInt8} (h : ∀ x ∈ n, x ≠ 10) : rowsL (47 :: 47 :: n) = [] := by
  rw [rowsL_line (by
    intro x hx
    rcases List.mem_cons.1 hx with rfl | hx
    · decide
    · rcases List.mem_cons.1 hx with rfl | hx
      · decide
      · exact h x hx), if_pos]
  unfold wordsB
  rw [cutB, if_pos (by rfl)]
  rfl
theorem readX_append : ∀ (a b : List (List (List UInt8))) (s : Sx), readX (a ++ b) s = (readX a s).bind (readX b)
  | [], b, s => rfl
  | r :: a, b, s => by
    rw [List.cons_append, readX, readX]
    cases stepX s r with
    | none => rfl
    | some t => exact readX_append a b t

theorem readP_of {a b : List UInt8} (h : rowsL a = rowsL b) (ha : a.length ≤ 65536) (hb : b.length ≤ 65536) : readP a = readP b := by
  unfold readP
  rw [if_neg (by omega), if_neg (by omega), h]

/-- What VerNotes reads. -/
def noted (b n : List UInt8) : List UInt8 := [47, 47, 32] ++ n ++ [10, 10, 32, 9, 13, 10] ++ b ++ [10, 47, 47] ++ n
theorem readP_notes (b n : List UInt8) (hb : b.length ≤ 500) (hn : n.length ≤ 50) (h : ∀ x ∈ n, x ≠ 10) : readP (noted b n) = readP b := by
  refine readP_of ?_ (by unfold noted; simp only [List.length_append, List.length_cons, List.length_nil]; omega) (by omega)
  have e : noted b n = (47 :: 47 :: 32 :: n) ++ 10 :: ([] ++ 10 :: ([32, 9, 13] ++ 10 :: (b ++ 10 :: (47 :: 47 :: n)))) := by simp [noted]
  have h1 : rowsL [] = [] := by decide +kernel
  have h2 : rowsL [32, 9, 13] = [] := by decide +kernel
  rw [e, rowsL_join, rowsL_join, rowsL_join, rowsL_join, rowsL_note h, rowsL_note (n := 32 :: n) (by
    intro x hx
    rcases List.mem_cons.1 hx with rfl | hx
    · decide
    · exact h x hx), h1, h2]
  simp

/-- What VerChains reads. -/
def chained (b : List UInt8) (k : Nat) : List UInt8 := b ++ [10] ++ kChain ++ [32, 103, 111, 49, 46] ++ [UInt8.ofNat (48 + k)]
def chainAlone (b : List UInt8) : List UInt8 := b ++ [10] ++ kChain
theorem readP_chained (b : List UInt8) (k : Nat) (hb : b.length ≤ 500) (hk : k < 10) : readP (chained b k) = readP b := by
  have e : chained b k = b ++ 10 :: (kChain ++ [32, 103, 111, 49, 46] ++ [UInt8.ofNat (48 + k)]) := by simp [chained]
  have h1 : ∀ k : Fin 10, rowsL (kChain ++ [32, 103, 111, 49, 46] ++ [UInt8.ofNat (48 + k.val)]) = [[kChain, [103, 111, 49, 46] ++ [UInt8.ofNat (48 + k.val)]]] := by decide +kernel
  have h1 := h1 ⟨k, hk⟩
  simp only [] at h1
  have hz : (chained b k).length ≤ 65536 := by unfold chained kChain; simp only [List.length_append, List.length_cons, List.length_nil]; omega
  unfold readP
  rw [if_neg (by omega), if_neg (by omega), e, rowsL_join, h1, readX_append]
  cases readX (rowsL b) ⟨[], 16, 0⟩ with
  | none => rfl
  | some s => rfl
theorem readP_alone (b : List UInt8) (hb : b.length ≤ 500) : readP (chainAlone b) = ([], 0, 7) := by
  have e : chainAlone b = b ++ 10 :: kChain := by simp [chainAlone]
  have h1 : rowsL kChain = [[kChain]] := by decide +kernel
  have hz : (chainAlone b).length ≤ 65536 := by unfold chainAlone kChain; simp only [List.length_append, List.length_cons, List.length_nil]; omega
  unfold readP
  rw [if_neg (by omega), e, rowsL_join, h1, readX_append]
  cases readX (rowsL b) ⟨[], 16, 0⟩ with
  | none => rfl
  | some s => rfl

/-! ### what is written -/
theorem cutB_path : ∀ l : List UInt8, (∀ q ∈ (splitC 47 l).tail, q ≠ []) → cutB l = l
  | [], _ => rfl
  | x :: l, h => by
    rw [splitC] at h
    by_cases hx : x = 47
    · subst hx
      rw [if_pos rfl, List.tail_cons] at h
      have h0 : ¬ [47, 47].isPrefixOf (47 :: l) = true := by
        intro hp
        cases l with
        | nil => simp at hp
        | cons y t =>
          have : y = 47 := by
            simp only [List.isPrefixOf, Bool.and_eq_true, beq_iff_eq] at hp
            exact hp.2.1.symm
          subst this
          rw [splitC, if_pos rfl] at h
          exact h [] List.mem_cons_self rfl
      rw [cutB, if_neg h0, cutB_path l fun q hq => h q (List.mem_of_mem_tail hq)]
    · rw [if_neg hx] at h
      have h0 : ¬ [47, 47].isPrefixOf (x :: l) = true := by
        intro hp
        simp only [List.isPrefixOf, Bool.and_eq_true, beq_iff_eq] at hp
        exact hx hp.1.symm
      rw [cutB, if_neg h0, cutB_path l ?_]
      cases hs : splitC 47 l with
      | nil => intro q hq; simp at hq
      | cons p ps =>
        rw [hs] at h
        exact h

theorem splitC_mem {c x : UInt8} : ∀ {l : List UInt8}, x ∈ l → x ≠ c → ∃ q ∈ splitC c l, x ∈ q
  | [], h, _ => by simp at h
  | y :: l, h, hx => by
    rw [splitC]
    by_cases hy : y = c
    · rw [if_pos hy]
      rcases List.mem_cons.1 h with rfl | h
      · exact absurd hy hx
      · obtain ⟨q, hq, hm⟩ := splitC_mem h hx
        exact ⟨q, List.mem_cons_of_mem _ hq, hm⟩
    · rw [if_neg hy]
      cases hs : splitC c l with
      | nil => exact absurd hs (splitC_ne c l)
      | cons p ps =>
        rcases List.mem_cons.1 h with rfl | h
        · exact ⟨_, List.mem_cons_self, List.mem_cons_self⟩
        · obtain ⟨q, hq, hm⟩ := splitC_mem h hx
          rw [hs] at hq
          rcases List.mem_cons.1 hq with rfl | hq
          · exact ⟨_, List.mem_cons_self, List.mem_cons_of_mem _ hm⟩
          · exact ⟨q, List.mem_cons_of_mem _ hq, hm⟩

theorem path_parts {p : List UInt8} (h : pathB p = true) : ∀ q ∈ splitC 47 p, q ≠ [] ∧ ∀ x ∈ q, pathN x.toNat = true := by
  unfold pathB at h
  rw [Bool.and_eq_true, List.all_eq_true] at h
  intro q hq
  have := h.1 q hq
  unfold allB at this
  rw [Bool.and_eq_true, List.all_eq_true] at this
  refine ⟨by rintro rfl; simp at this, this.1⟩
theorem path_signs {p : List UInt8} (h : pathB p = true) {x : UInt8} (hx : x ∈ p) : pathN x.toNat = true ∨ x = 47 := by
  by_cases h7 : x = 47
  · exact .inr h7
  · obtain ⟨q, hq, hm⟩ := splitC_mem hx h7
    exact .inl ((path_parts h q hq).2 x hm)
theorem path_ne {p : List UInt8} (h : pathB p = true) : p ≠ [] := by
  rintro rfl
  have := (path_parts h [] (by simp [splitC])).1
  exact this rfl
theorem path_no {p : List UInt8} (h : pathB p = true) {x : UInt8} (hx : x ∈ p) : x ≠ 10 ∧ blankN x.toNat = false := by
  rcases path_signs h hx with h | rfl
  · unfold pathN figN at h
    simp only [Bool.or_eq_true, decide_eq_true_eq] at h
    refine ⟨?_, ?_⟩
    · rintro rfl
      revert h
      decide
    · unfold blankN
      simp only [Bool.or_eq_false_iff, decide_eq_false_iff_not]
      omega
  · decide

theorem wordsB_module {p : List UInt8} (h : pathB p = true) : wordsB (kMod ++ 32 :: p) = [kMod, p] := by
  have hc : cutB p = p := cutB_path p fun q hq => (path_parts h q (List.mem_of_mem_tail hq)).1
  have e : cutB (kMod ++ 32 :: p) = kMod ++ 32 :: p := by
    simp [kMod, cutB, hc]
  have h2 : fieldsB blankN p [] = [p] := by
    have := fieldsB_skip blankN p [] [] fun b hb => (path_no h hb).2
    rw [List.append_nil, List.nil_append] at this
    rw [this, fieldsB, if_neg (path_ne h)]
  unfold wordsB
  rw [e, fieldsB_skip blankN kMod _ _ (by decide), fieldsB, if_pos (by decide), h2]
  rfl

theorem textP_read : ∀ k : Fin 100, wordsB (kGo ++ 32 :: textP (k.val : Int)) = [kGo, textP (k.val : Int)] ∧ (∀ x ∈ kGo ++ 32 :: textP (k.val : Int), x ≠ 10) ∧ minorP (textP (k.val : Int)) = ((k.val : Int), 0) ∧ (textP (k.val : Int)).length ≤ 4 := by decide +kernel

theorem textP_at {mi : Int} (h0 : 0 ≤ mi) (h1 : mi ≤ 99) : wordsB (kGo ++ 32 :: textP mi) = [kGo, textP mi] ∧ (∀ x ∈ kGo ++ 32 :: textP mi, x ≠ 10) ∧ minorP (textP mi) = (mi, 0) ∧ (textP mi).length ≤ 4 := by
  have := textP_read ⟨mi.toNat, by omega⟩
  simp only [Int.toNat_of_nonneg h0] at this
  exact this

theorem stepX_two (s : Sx) (k v : List UInt8) : stepX s [k, v] = if k = kMod then (if s.path ≠ [] ∨ pathB v = false then none else some { s with path := v })
    else if k = kGo then (if (minorP v).2 ≠ 0 ∨ s.vs ≠ 0 then none else some { s with mi := (minorP v).1, vs := s.vs + 1 })
    else if k = kChain then some s else none := rfl

theorem readP_written {p : List UInt8} {mi : Int} (h : pathB p = true) (h0 : 0 ≤ mi) (h1 : mi ≤ 99) : readP (writeL p mi) = (p, mi, 0) := by
  obtain ⟨t1, t2, t3, t4⟩ := textP_at h0 h1
  have hl : p.length ≤ 200 := by
    unfold pathB at h
    rw [Bool.and_eq_true] at h
    exact of_decide_eq_true h.2
  have e : writeL p mi = (kMod ++ 32 :: p) ++ 10 :: ([] ++ 10 :: ((kGo ++ 32 :: textP mi) ++ 10 :: [])) := by simp [writeL, kMod, kGo]
  have hz : (writeL p mi).length ≤ 65536 := by
    unfold writeL
    simp only [List.length_append, List.length_cons, List.length_nil]
    omega
  have r1 : rowsL (kMod ++ 32 :: p) = [[kMod, p]] := by
    rw [rowsL_line (by
      intro x hx
      rcases List.mem_append.1 hx with hx | hx
      · exact (by decide : ∀ x ∈ kMod, x ≠ (10 : UInt8)) x hx
      · rcases List.mem_cons.1 hx with rfl | hx
        · decide
        · exact (path_no h hx).1), wordsB_module h]
    rfl
  have r2 : rowsL (kGo ++ 32 :: textP mi) = [[kGo, textP mi]] := by
    rw [rowsL_line t2, t1]
    rfl
  have r3 : rowsL [] = [] := by decide +kernel
  have hx : readX [[kMod, p], [kGo, textP mi]] ⟨[], 16, 0⟩ = some ⟨p, mi, 1⟩ := by
    rw [readX]
    have s1 : stepX ⟨[], 16, 0⟩ [kMod, p] = some ⟨p, 16, 0⟩ := by
      rw [stepX_two, if_pos rfl, if_neg (by rw [h]; simp)]
    have s2 : stepX ⟨p, 16, 0⟩ [kGo, textP mi] = some ⟨p, mi, 1⟩ := by
      rw [stepX_two, if_neg (by decide), if_pos rfl, t3, if_neg (by simp)]
    rw [s1, Option.bind_some, readX, s2]
    rfl
  unfold readP
  rw [if_neg (by omega), e, rowsL_join, rowsL_join, rowsL_join, r1, r2, r3]
  show ansX (readX [[kMod, p], [kGo, textP mi]] _) = _
  rw [hx]
  exact if_neg (path_ne h)

end Go.Proofs.YtiigjmageeinpaaDoor
