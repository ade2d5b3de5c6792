/- Plain: how long is what is written of what was read. Walk: TagBrackets. -/
import Derived.Test.YtheiakdlhpccaaaDoorTr
import Derived.Test.YtheiakdlhpccaaaDoorTq
namespace Go.Proofs.YtheiakdlhpccaaaDoor
open Go.RowKit Go.Shelf R
open Go.Proofs.YtheiakdlhpccaaaDoorW.PrintWords

def sumW (m : Nat) (wi : List UInt8) (xs : List S24) : Nat := (xs.map fun x => (writeN m x wi).length).sum
theorem sumW_snoc (m : Nat) (wi : List UInt8) (xs : List S24) (x : S24) : sumW m wi (xs ++ [x]) = sumW m wi xs + (writeN m x wi).length := by
  unfold sumW
  rw [List.map_append, List.sum_append]
  simp

theorem tail_len (sep : List UInt8) (r : List (List UInt8)) : (Lib.joinTail sep r).length = (r.map List.length).sum + sep.length * r.length := by
  unfold Lib.joinTail
  induction r with
  | nil => simp
  | cons y r ih =>
    rw [List.map_cons, List.flatten_cons, List.length_append, ih, List.map_cons, List.sum_cons, List.length_cons, List.length_append, Nat.mul_add]
    omega
theorem join_len (sep : List UInt8) (x : List UInt8) (xs : List (List UInt8)) : (Lib.join (x :: xs) sep).length + sep.length = ((x :: xs).map List.length).sum + sep.length * (x :: xs).length := by
  rw [Lib.join_cons, List.length_append, tail_len, List.map_cons, List.sum_cons, List.length_cons, Nat.mul_add]
  omega

/-- What is written of what was read is not much longer than what was read. -/
def PW (P : Pr) : Prop := ∀ (l : List UInt8) (q : S24 × List UInt8), P l = some q → ∀ m wi, (writeN m q.1 wi).length + 3 * q.2.length ≤ 3 * l.length

theorem rowLoop_pw {P : Pr} {s : List UInt8} (hs : s.length = 2) (hP : PW P) : ∀ (k : Nat) (acc : List S24) (l : List UInt8) (q : List S24 × List UInt8) (N : Nat), (∀ m wi, sumW m wi acc + 6 * acc.length + 3 * l.length ≤ N) → rowLoop P s k acc l = some q → ∀ m wi, sumW m wi q.1 + 6 * q.1.length + 3 * q.2.length ≤ N
  | 0, _, _, _, _, _, h => by cases h
  | k + 1, acc, l, q, N, hN, h => by
    rw [rowLoop] at h
    cases ht : (takesP s l).1 with
    | true =>
      rw [ht, if_pos rfl] at h
      obtain ⟨p, hp, h⟩ := Option.bind_eq_some_iff.1 h
      have h1 := takes_yes_of ht
      have h2 := skip_len l
      rw [h1, List.length_append, hs] at h2
      refine rowLoop_pw hs hP k _ _ _ N (fun m wi => ?_) h
      have h3 := hP _ _ hp m wi
      have h4 := hN m wi
      rw [sumW_snoc, List.length_append, List.length_singleton]
      omega
    | false =>
      rw [ht, if_neg Bool.false_ne_true] at h
      cases h
      intro m wi
      have h4 := hN m wi
      have h5 := takes_len (sign := s) (l := l)
      simp only []
      omega

theorem rowX_pw {s : List UInt8} (hs : s = [38, 38] ∨ s = [124, 124]) {xs : List S24} {N R : Nat} (hne : xs ≠ []) (h : ∀ m wi, sumW m wi xs + 6 * xs.length + R ≤ N + 6) : ∀ m wi, (writeN m (rowX s xs) wi).length + R ≤ N := by
  intro m wi
  match xs, hne with
  | [x], _ =>
    have := h m wi
    simp [sumW] at this
    show (writeN m x wi).length + R ≤ N
    omega
  | x :: y :: r, _ =>
    have hL : ∀ k, (Lib.join ((x :: y :: r).map fun z => writeN k z s) (32 :: (s ++ [32]))).length + 2 + R ≤ N := by
      intro k
      have h1 := h k s
      have h2 := join_len (32 :: (s ++ [32])) (writeN k x s) ((y :: r).map fun z => writeN k z s)
      have h3 : (32 :: (s ++ [32])).length = 4 := by rcases hs with rfl | rfl <;> rfl
      have h4 : ((writeN k x s :: (y :: r).map fun z => writeN k z s).map List.length).sum = sumW k s (x :: y :: r) := by
        unfold sumW
        simp [List.map_map, Function.comp_def]
      rw [h3, h4] at h2
      simp only [List.length_cons, List.length_map] at h1 h2
      simp only [List.map_cons] at h2 ⊢
      omega
    have e : rowX s (x :: y :: r) = ⟨bs s, bs [], x :: y :: r⟩ := rfl
    cases m with
    | zero => rw [writeN]; have := hL 0; simp only [List.length_nil]; omega
    | succ m =>
      have h1 := hL m
      rw [e, writeN, if_neg (by rw [bs_toList]; rcases hs with rfl | rfl <;> decide), if_pos (by rw [bs_toList]; exact hs)]
      simp only [bs_toList]
      split
      · simp only [List.length_cons, List.length_append, List.length_nil]; omega
      · omega

theorem rowLoop_ne {P : Pr} {s : List UInt8} : ∀ (k : Nat) (acc : List S24) (l : List UInt8) (q : List S24 × List UInt8), acc ≠ [] → rowLoop P s k acc l = some q → q.1 ≠ []
  | 0, _, _, _, _, h => by cases h
  | k + 1, acc, l, q, ha, h => by
    rw [rowLoop] at h
    split at h
    · obtain ⟨p, hp, h⟩ := Option.bind_eq_some_iff.1 h
      exact rowLoop_ne k _ _ _ (by simp) h
    · cases h
      exact ha

theorem rowP_pw {P : Pr} {s : List UInt8} {k : Nat} (hs : s = [38, 38] ∨ s = [124, 124]) (hP : PW P) : PW (rowP P s k) := by
  intro l q h
  rw [rowP] at h
  obtain ⟨p, hp, h⟩ := Option.bind_eq_some_iff.1 h
  obtain ⟨t, ht, rfl⟩ := Option.map_eq_some_iff.1 h
  refine rowX_pw hs (rowLoop_ne _ _ _ _ (by simp) ht) (N := 3 * l.length) ?_
  refine rowLoop_pw (by rcases hs with rfl | rfl <;> rfl) hP k _ _ _ _ (fun m wi => ?_) ht
  have := hP _ _ hp m wi
  simp [sumW]
  omega

theorem factorP_pw : ∀ n : Nat, PW (factorP n)
  | 0 => by intro l q h; cases h
  | n + 1 => by
    intro l q h m wi
    have ih := factorP_pw n
    rw [factorP] at h
    have h1 := takes_len (sign := [33]) (l := l)
    have h2 := takes_len (sign := [40]) (l := (takesP [33] l).2)
    split at h
    · rename_i ht
      obtain ⟨p, hp, rfl⟩ := Option.map_eq_some_iff.1 h
      have hlt := takes_lt (by decide) ht
      cases m with
      | zero => rw [writeN]; have := ih _ _ hp 0 []; simp only [List.length_nil]; omega
      | succ m =>
        have := ih _ _ hp m [33]
        rw [writeN, if_pos (by rw [bs_toList])]
        simp only [bs_toList, List.map_cons, List.headD_cons, List.length_cons]
        omega
    · split at h
      · rename_i ht
        obtain ⟨p, hp, h⟩ := Option.bind_eq_some_iff.1 h
        have h3 := rowP_pw (.inr rfl) (rowP_pw (.inl rfl) ih) _ _ hp m wi
        have h4 := takes_len (sign := [41]) (l := p.2)
        split at h
        · cases h
          simp only []
          omega
        · cases h
      · split at h
        · cases h
        · cases h
          have h6 : (tagB (takesP [40] (takesP [33] l).2).2).length ≤ (takesP [40] (takesP [33] l).2).2.length := (List.takeWhile_sublist _).length_le
          cases m with
          | zero => rw [writeN]; simp only [List.length_drop, List.length_nil]; omega
          | succ m =>
            rw [writeN, if_neg (by rw [bs_toList]; decide), if_neg (by rw [bs_toList]; decide)]
            simp only [List.length_drop, bs_list]
            omega

theorem readP_pw (l : List UInt8) : (writeP (readP l).1).length ≤ maxT := by
  have hno : (writeP noX).length ≤ maxT := by
    have : rightN 100 noX = false := by decide +kernel
    unfold writeP
    rw [this, if_neg Bool.false_ne_true]
    exact Nat.zero_le _
  unfold readP
  split
  · exact hno
  · cases h : termsP 501 l with
    | none => exact hno
    | some q =>
      simp only []
      split
      · have := rowP_pw (.inr rfl) (rowP_pw (.inl rfl) (factorP_pw 501)) l q h 100 []
        unfold writeP
        split
        · simp only [maxT]; omega
        · exact Nat.zero_le _
      · exact hno

theorem readP_code (l : List UInt8) : (readP l).2 = 0 ∨ (readP l).2 = 8 ∨ (readP l).2 = 12 := by
  unfold readP
  split
  · exact .inr (.inr rfl)
  · split
    · exact .inr (.inl rfl)
    · split
      · exact .inl rfl
      · exact .inr (.inl rfl)

set_option maxRecDepth 100000 in
set_option maxHeartbeats 4000000 in
theorem TagBrackets_long (s : ByteArray) (w : World) (hs : 490 < (s.size : Int)) : Calls Tryd.prog 8 #[.string s] w (Out w.heap.size w (.bool true)) := by
  go_enter Tryd.func8, Tryd.ntmps8
  go_wp2_with fail
  go_ret
  exact ⟨rfl, Below.refl _ _⟩

set_option maxRecDepth 100000 in
set_option maxHeartbeats 4000000 in
theorem TagBrackets_no (s : ByteArray) (w : World) (hG : Good w) (hs : ¬ 490 < (s.size : Int)) (h : (readP s.data.toList).2 ≠ 0) : Calls Tryd.prog 8 #[.string s] w (Out w.heap.size w (.bool true)) := by
  obtain ⟨⟨y, ey⟩, hy⟩ : ∃ q, readP s.data.toList = q := ⟨_, rfl⟩
  have K1 := Lib.hid (Read_to _ _ hy)
  rw [← bs_of] at K1
  rw [hy] at h
  simp only [] at h
  have KA := Lib.hid (awake_any hG)
  have hne : (ey != 0) = true := by simpa using h
  clear hy h
  unfold xv at K1
  go_enter Tryd.func8, Tryd.ntmps8
  go_wp2_with fail
  refine (K1.out _).mono ?_
  rintro e w1 ⟨A, c, rfl, hc, hC, hb1⟩
  have HX := Lib.hid (Lies.new (x := y) hb1 hc hC)
  clear hb1 hC hc
  go_wp2_with fail
  refine (KA.out _ HX.out.bel).mono ?_
  rintro e w5 ⟨rfl, hb5⟩
  go_wp2_with fail
  go_ret
  exact ⟨rfl, hb5⟩

set_option maxRecDepth 100000 in
set_option maxHeartbeats 4000000 in
theorem TagBrackets_yes (s : ByteArray) (w : World) (hG : Good w) (hs : ¬ 490 < (s.size : Int)) (h : (readP s.data.toList).2 = 0) : Calls Tryd.prog 8 #[.string s] w (Out w.heap.size w (.bool true)) := by
  have s1 := readP_sz s.data.toList 100
  have p1 := readP_pw s.data.toList
  obtain ⟨⟨x, ex⟩, hx⟩ : ∃ q, readP s.data.toList = q := ⟨_, rfl⟩
  rw [hx] at h s1 p1
  simp only [] at h s1 p1
  subst h
  have hy := read_brackets (by rw [← size_list]; omega) hx
  have K1 := Lib.hid (Read_to _ _ hx)
  have K2 := Lib.hid (Read_to _ _ hy)
  have e1 : bs ([32, 40, 9] ++ s.data.toList ++ tl) = (⟨#[32, 40, 9]⟩ : ByteArray) ++ s ++ ⟨#[32, 41, 32]⟩ := by
    rw [← bs_append, ← bs_append, ← bs_of]
    rfl
  rw [e1] at K2
  rw [← bs_of] at K1
  have KA := Lib.hid (awake_at hG)
  have KL := Lib.hid (fun A c W (hW : Below w.heap.size w W) => Least_any x A c W (hG.below hW) s1)
  have KW := Lib.hid (fun A c W => Write_any x A c W s1 p1)
  obtain ⟨v, hv⟩ : ∃ v, leastP x = v := ⟨_, rfl⟩
  obtain ⟨t, ht⟩ : ∃ t, writeP x = t := ⟨_, rfl⟩
  rw [hv] at KL
  rw [ht] at KW
  have hz1 : ¬ (9223372036854775807 < 3 + s.size) := by omega
  have hz2 : ¬ (9223372036854775807 < 3 + s.size + 3) := by omega
  clear hx hy s1 p1 hv ht e1
  unfold xv at K1 K2 KL KW
  go_enter Tryd.func8, Tryd.ntmps8
  go_wp2_with fail
  refine (K1.out _).mono ?_
  rintro e w1 ⟨A, c, rfl, hc, hC, hb1⟩
  have HX := Lib.hid (Lies.new (x := x) hb1 hc hC)
  clear hb1 hC hc
  go_wp2_with fail
  refine (K2.out _).mono ?_
  rintro e w2 ⟨B, d, rfl, hd, hD, hb2⟩
  have HX2 := Lib.hid (HX.out.below hb2)
  have HY := Lib.hid (Lies.new (x := x) HX2.out.bel hd hD)
  have HX3 := Lib.hid (HX2.out.below (W' := w2.alloc (.cells #[.string x.f0, .string x.f1, .slice B x.f2.length d] 24)) ((Below.refl _ w2).alloc (Nat.le_refl _) _))
  clear hb2 hD hd HX HX2
  obtain ⟨_, _, _, x0, x1, x2⟩ := HX3.out
  obtain ⟨_, _, _, y0, y1, y2⟩ := HY.out
  go_wp2_with fail
  have HX := Lib.hid (HX3.out.below (below_drew (Below.refl _ _)))
  have HY := Lib.hid (HY.out.below (below_drew (Below.refl _ _)))
  clear HX3
  go_region_held3 (fun w' => w'.cell? ⟨w1.heap.size, 0, none⟩ = some (.string x.f0) ∧ w'.cell? ⟨w1.heap.size, 1, none⟩ = some (.string x.f1) ∧ w'.cell? ⟨w1.heap.size, 2, none⟩ = some (.slice A x.f2.length c) ∧ w'.cell? ⟨w2.heap.size, 0, none⟩ = some (.string x.f0) ∧ w'.cell? ⟨w2.heap.size, 1, none⟩ = some (.string x.f1) ∧ w'.cell? ⟨w2.heap.size, 2, none⟩ = some (.slice B x.f2.length d))
    (first | go_keep)
    ((first
      | (go_at_call 12
         (first | refine (KW.out _ _ _ HX.out.cap HX.out.row).mono ?_ | refine (KW.out _ _ _ HY.out.cap HY.out.row).mono ?_)
         rintro e wn ⟨rfl, hbn⟩
         replace HX := Lib.hid (HX.out.below hbn)
         replace HY := Lib.hid (HY.out.below hbn)
         clear x0 x1 x2 y0 y1 y2 hbn
         obtain ⟨_, _, _, x0, x1, x2⟩ := HX.out
         obtain ⟨_, _, _, y0, y1, y2⟩ := HY.out)
      | (go_at_call 15
         (first | refine (KL.out _ _ _ HX.out.bel HX.out.cap HX.out.row).mono ?_ | refine (KL.out _ _ _ HY.out.bel HY.out.cap HY.out.row).mono ?_)
         rintro e wn ⟨rfl, hbn⟩
         replace HX := Lib.hid (HX.out.below hbn)
         replace HY := Lib.hid (HY.out.below hbn)
         clear x0 x1 x2 y0 y1 y2 hbn
         obtain ⟨_, _, _, x0, x1, x2⟩ := HX.out
         obtain ⟨_, _, _, y0, y1, y2⟩ := HY.out)
      | (go_at_call 13
         refine (KA.out _ HX.out.bel).mono ?_
         rintro e wn ⟨rfl, hbn⟩
         replace HX := Lib.hid (HX.out.below hbn)
         replace HY := Lib.hid (HY.out.below hbn)
         clear x0 x1 x2 y0 y1 y2 hbn
         obtain ⟨_, _, _, x0, x1, x2⟩ := HX.out
         obtain ⟨_, _, _, y0, y1, y2⟩ := HY.out)))
  all_goals go_wp2_with fail
  all_goals go_ret
  all_goals exact ⟨rfl, HX.out.bel⟩

theorem TagBrackets_any (s : ByteArray) (w : World) (hG : Good w) : Calls Tryd.prog 8 #[.string s] w (Out w.heap.size w (.bool true)) := by
  by_cases hs : 490 < (s.size : Int)
  · exact TagBrackets_long s w hs
  · by_cases h : (readP s.data.toList).2 = 0
    · exact TagBrackets_yes s w hG hs h
    · exact TagBrackets_no s w hG hs h
end Go.Proofs.YtheiakdlhpccaaaDoor
