/- Walk: factor of the reader of constraints. -/
import Derived.Test.YtheiakdlhpccaaaDoorTj
namespace Go.Proofs.YtheiakdlhpccaaaDoor
open Go.RowKit Go.Shelf R
open Go.Proofs.YtheiakdlhpccaaaDoorW.PrintWords

theorem tagB_len (l : List UInt8) : (tagB l).length ≤ l.length := (List.takeWhile_sublist _).length_le
theorem take_tag (l : List UInt8) (i : Nat) (h : i = (tagB l).length) : l.take i = tagB l := by
  have e : l = tagB l ++ l.dropWhile fun c => mayN c.toNat := (List.takeWhile_append_dropWhile (p := fun c : UInt8 => mayN c.toNat) (l := l)).symm
  obtain ⟨T, hT⟩ : ∃ T, tagB l = T := ⟨_, rfl⟩
  rw [hT] at e h ⊢
  rw [e, h, List.take_left]
theorem cut_head (l : List UInt8) (i : Nat) : (bs l).extract 0 i = bs (l.take i) := by
  apply ByteArray.ext
  simp [bs, ByteArray.data_extract]
theorem cut_tail (l : List UInt8) (i : Nat) : (bs l).extract i l.length = bs (l.drop i) := by
  apply ByteArray.ext
  simp [bs, ByteArray.data_extract]
  rw [List.take_of_length_le (by simp)]
theorem tagB_at : ∀ (l : List UInt8) (i : Nat), i ≤ (tagB l).length → (h : i < l.length) → mayN (l[i]).toNat = decide (i < (tagB l).length)
  | [], i, _, h => by simp at h
  | c :: t, 0, _, _ => by
    unfold tagB
    cases hm : mayN c.toNat <;> simp [List.takeWhile, hm]
  | c :: t, i + 1, hi, h => by
    have hc : mayN c.toNat = true := by
      cases hm : mayN c.toNat with
      | true => rfl
      | false =>
        unfold tagB at hi
        simp [List.takeWhile, hm] at hi
    have e : tagB (c :: t) = c :: tagB t := by unfold tagB; simp [List.takeWhile, hc]
    rw [e] at hi ⊢
    have ih := tagB_at t i (by simpa using hi) (by simpa using h)
    rw [List.getElem_cons_succ, ih]
    simp

set_option maxRecDepth 100000 in
set_option maxHeartbeats 8000000 in
theorem factor_not (n : Nat) (_hn : n ≤ 1000) (ih : FactorAt n) (b : Nat) (l : List UInt8) (W : World) (hl : l.length < n + 1) (hr : Rd W b l) (h : (takesP [33] l).1 = true) :
    Calls Tryd.prog 36 #[.pointer (some ⟨b, 0, none⟩)] W (Told b W (factorP (n + 1) l)) := by
  have hbw := hr.lt
  obtain ⟨W1, hW1⟩ : ∃ W1, W.alloc (.cells #[.string ⟨#[]⟩, .string ⟨#[]⟩, .slice none 0 0] 24) = W1 := ⟨_, rfl⟩
  have hs1 : W1.heap.size = W.heap.size + 1 := by rw [← hW1]; simp
  have hk1 : Kp b W W1 := by rw [← hW1]; exact (Kp.refl b W).alloc hbw _
  have hrb : W1.heap[W.heap.size]? = some (.cells #[.string ⟨#[]⟩, .string ⟨#[]⟩, .slice none 0 0] 24 (0, 0)) := by rw [← hW1]; exact blk_new _ _
  have hr1 : Rd W1 b l := by rw [← hW1]; exact hr.below ((Below.refl _ W).alloc (Nat.le_refl _) _)
  have KT := Lib.hid (takes_any [33] l b W1 hr1)
  have hlt := takes_lt (sign := [33]) (l := l) (by decide) h
  obtain ⟨O, hO⟩ : ∃ O, factorP (n + 1) l = O := ⟨_, rfl⟩
  rw [hO]
  rw [factorP, if_pos h] at hO
  obtain ⟨⟨i, r1⟩, hi⟩ : ∃ q, takesP [33] l = q := ⟨_, rfl⟩
  rw [hi] at KT hO hlt h
  simp only [] at KT hO hlt h
  subst h
  have HF := Lib.hid (fun W' (hd : Rd W' b r1) => ih b r1 W' (by omega) hd)
  obtain ⟨P, hP⟩ : ∃ P, factorP n r1 = P := ⟨_, rfl⟩
  rw [hP] at HF hO
  have HRB := Lib.hid hrb
  have HK1 := Lib.hid hk1
  have HO := Lib.hid hO
  clear hrb hk1 hr hr1 hO hP hi ih
  go_enter Tryd.func36, Tryd.ntmps36
  go_wp2_with fail
  refine KT.out.mono ?_
  rintro e w2 ⟨rfl, hrd2, hk2⟩
  go_wp2_with fail
  refine (HF.out _ hrd2).mono ?_
  rintro e w3 ⟨hk3, he⟩
  have hk13 := hk2.trans hk3
  cases P with
  | none =>
    obtain rfl : e = _ := he
    obtain rfl : O = none := HO.out.symm
    exact ⟨rfl, Told.no (HK1.out.trans hk13)⟩
  | some q =>
    obtain ⟨x, r⟩ := q
    obtain ⟨v, rfl, hR, hrd⟩ := he
    obtain rfl : O = some (⟨bs [33], bs [], [x]⟩, r) := HO.out.symm
    obtain ⟨A2, c2, rfl⟩ := Kd.R_slice hR
    have hR2 := R_single (Kd.R_lower hR (show w2.heap.size ≤ w2.heap.size from Nat.le_refl _)) hk3.size
    have hk4 : Kp b W1 (w3.alloc (.cells #[.string x.f0, .string x.f1, .slice A2 x.f2.length c2] 24)) := hk13.alloc hrd.lt _
    have hrd4 : Rd (w3.alloc (.cells #[.string x.f0, .string x.f1, .slice A2 x.f2.length c2] 24)) b r := hrd.below ((Below.refl _ w3).alloc (Nat.le_refl _) _)
    have hrb2 : (w3.alloc (.cells #[.string x.f0, .string x.f1, .slice A2 x.f2.length c2] 24)).heap[W.heap.size]? = some (.cells #[.string ⟨#[]⟩, .string ⟨#[]⟩, .slice none 0 0] 24 (0, 0)) := (hk4.up _ (by omega) (by omega)).trans HRB.out
    have q0 := (blk_cell hrb2 0).trans (show (#[Value.string ⟨#[]⟩, .string ⟨#[]⟩, .slice none 0 0] : Array Value)[0]? = some (.string ⟨#[]⟩) from rfl)
    have q1 := (blk_cell hrb2 1).trans (show (#[Value.string ⟨#[]⟩, .string ⟨#[]⟩, .slice none 0 0] : Array Value)[1]? = some (.string ⟨#[]⟩) from rfl)
    have q2 := (blk_cell hrb2 2).trans (show (#[Value.string ⟨#[]⟩, .string ⟨#[]⟩, .slice none 0 0] : Array Value)[2]? = some (.slice none 0 0) from rfl)
    have f0 := blk_frozen hrb2 0
    have f1 := blk_frozen hrb2 1
    have f2 := blk_frozen hrb2 2
    have hp := put3_cells q0 q1 q2 (.string ⟨#[33]⟩) (.string ⟨#[]⟩) (.slice (some ⟨w3.heap.size, 0, none⟩) 1 1)
    have ht := told_put (x := ⟨bs [33], bs [], [x]⟩) (HK1.out.trans hk4) hbw (by rw [← hs1]; exact Kd.R_lower hR2 hk2.size) hrd4 (.string ⟨#[33]⟩) (.string ⟨#[]⟩) (.slice (some ⟨w3.heap.size, 0, none⟩) 1 1)
    unfold put3 at hp ht
    have HP := Lib.hid hp
    have HT := Lib.hid ht
    clear hp ht hrb2 hR hR2 hrd hrd4 hk2 hk3 hk4 hk13 hW1
    go_wp2_with fail
    obtain ⟨p0, p1, p2⟩ := HP.out
    exact bodyPost_ret (v := .agg #[.string ⟨#[33]⟩, .string ⟨#[]⟩, .slice (some ⟨w3.heap.size, 0, none⟩) 1 1]) (by simp [results, Tryd.results36, go_sem, p0, p1, p2]) rfl HT.out

set_option maxRecDepth 100000 in
set_option maxHeartbeats 8000000 in
theorem factor_open (n : Nat) (hn : n ≤ 1000) (ih : FactorAt n) (b : Nat) (l : List UInt8) (W : World) (hl : l.length < n + 1) (hr : Rd W b l) (h : (takesP [33] l).1 = false) (h2 : (takesP [40] (takesP [33] l).2).1 = true) :
    Calls Tryd.prog 36 #[.pointer (some ⟨b, 0, none⟩)] W (Told b W (factorP (n + 1) l)) := by
  have hbw := hr.lt
  obtain ⟨W1, hW1⟩ : ∃ W1, W.alloc (.cells #[.string ⟨#[]⟩, .string ⟨#[]⟩, .slice none 0 0] 24) = W1 := ⟨_, rfl⟩
  have hs1 : W1.heap.size = W.heap.size + 1 := by rw [← hW1]; simp
  have hk1 : Kp b W W1 := by rw [← hW1]; exact (Kp.refl b W).alloc hbw _
  have hrb : W1.heap[W.heap.size]? = some (.cells #[.string ⟨#[]⟩, .string ⟨#[]⟩, .slice none 0 0] 24 (0, 0)) := by rw [← hW1]; exact blk_new _ _
  have hr1 : Rd W1 b l := by rw [← hW1]; exact hr.below ((Below.refl _ W).alloc (Nat.le_refl _) _)
  have KT := Lib.hid (takes_any [33] l b W1 hr1)
  have hl1 := takes_len (sign := [33]) (l := l)
  obtain ⟨O, hO⟩ : ∃ O, factorP (n + 1) l = O := ⟨_, rfl⟩
  rw [hO]
  rw [factorP, if_neg (by rw [h]; decide), if_pos h2] at hO
  obtain ⟨⟨i, r1⟩, hi⟩ : ∃ q, takesP [33] l = q := ⟨_, rfl⟩
  rw [hi] at KT hO hl1 h h2
  simp only [] at KT hO hl1 h h2
  subst h
  have KT2 := Lib.hid (fun W' (hd : Rd W' b r1) => takes_any [40] r1 b W' hd)
  have hlt := takes_lt (sign := [40]) (l := r1) (by decide) h2
  obtain ⟨⟨i2, r2⟩, hi2⟩ : ∃ q, takesP [40] r1 = q := ⟨_, rfl⟩
  rw [hi2] at KT2 hO hlt h2
  simp only [] at KT2 hO hlt h2
  subst h2
  have HF := Lib.hid (fun W' (hd : Rd W' b r2) => terms_any n hn ih b r2 W' (by omega) hd)
  have hO1 : (termsP n r2).bind (fun q => if (takesP [41] q.2).1 = true then some (q.1, (takesP [41] q.2).2) else none) = O := hO
  obtain ⟨P, hP⟩ : ∃ P, termsP n r2 = P := ⟨_, rfl⟩
  rw [hP] at HF hO1
  have HRB := Lib.hid hrb
  have HK1 := Lib.hid hk1
  have HO := Lib.hid hO1
  clear hrb hk1 hr hr1 hO hO1 hP hi hi2 ih
  go_enter Tryd.func36, Tryd.ntmps36
  go_wp2_with fail
  refine KT.out.mono ?_
  rintro e w2 ⟨rfl, hrd2, hk2⟩
  go_wp2_with fail
  refine (KT2.out _ hrd2).mono ?_
  rintro e w3 ⟨rfl, hrd3, hk3⟩
  have hk13 := hk2.trans hk3
  go_wp2_with fail
  refine (HF.out _ hrd3).mono ?_
  rintro e w4 ⟨hk4, he⟩
  have hk14 := hk13.trans hk4
  cases P with
  | none =>
    obtain rfl : e = _ := he
    obtain rfl : O = none := HO.out.symm
    exact ⟨rfl, Told.no (HK1.out.trans hk14)⟩
  | some q =>
    obtain ⟨x, r⟩ := q
    obtain ⟨v, rfl, hR, hrd⟩ := he
    obtain ⟨A2, c2, rfl⟩ := Kd.R_slice hR
    have hO2 : (if (takesP [41] r).1 = true then some (x, (takesP [41] r).2) else none) = O := HO.out
    have KT3 := Lib.hid (fun W' (hd : Rd W' b r) => takes_any [41] r b W' hd)
    obtain ⟨⟨i3, r3⟩, hi3⟩ : ∃ q, takesP [41] r = q := ⟨_, rfl⟩
    rw [hi3] at KT3 hO2
    simp only [] at KT3 hO2
    have HO2 := Lib.hid hO2
    have HR := Lib.hid hR
    have HRD := Lib.hid hrd
    clear hi3 hO2 hR hrd
    go_wp2_with fail
    have hb5 : Below w4.heap.size w4 (w4.alloc (.cells #[.string x.f0, .string x.f1, .slice A2 x.f2.length c2] 24)) := (Below.refl _ w4).alloc (Nat.le_refl _) _
    have hk5 := hk14.alloc HRD.out.lt (.cells #[.string x.f0, .string x.f1, .slice A2 x.f2.length c2] 24)
    have hxb : (w4.alloc (.cells #[.string x.f0, .string x.f1, .slice A2 x.f2.length c2] 24)).heap[w4.heap.size]? = some (.cells #[.string x.f0, .string x.f1, .slice A2 x.f2.length c2] 24 (0, 0)) := blk_new _ _
    have hR5 := Kd.R_below HR.out hb5
    have hbl := HRD.out.lt
    have hb3 := hrd3.lt
    have hz := hk14.size
    have HH := Lib.hid (And.intro hk5 (And.intro hxb hR5))
    have HZ := Lib.hid hk13.size
    clear hk5 hxb hR5 hb5 hk14 hk13 hk4 hk3 hk2
    cases i3
    · obtain rfl : O = none := HO2.out.symm
      refine (KT3.out _ (HRD.out.below ((Below.refl _ w4).alloc (Nat.le_refl _) _))).mono ?_
      rintro e w6 ⟨rfl, hrd6, hk6⟩
      go_wp2_with fail
      refine (need_no _).mono ?_
      rintro e w7 ⟨rfl, rfl⟩
      exact ⟨rfl, Told.no ((HK1.out.trans HH.out.1).trans hk6)⟩
    · obtain rfl : O = some (x, r3) := HO2.out.symm
      refine (KT3.out _ (HRD.out.below ((Below.refl _ w4).alloc (Nat.le_refl _) _))).mono ?_
      rintro e w6 ⟨rfl, hrd6, hk6⟩
      have hk16 := HH.out.1.trans hk6
      have hxb6 := (hk6.up _ hbl (by simp)).trans HH.out.2.1
      have hR6 := hk6.row (by omega) HH.out.2.2
      have hrb2 : w6.heap[W.heap.size]? = some (.cells #[.string ⟨#[]⟩, .string ⟨#[]⟩, .slice none 0 0] 24 (0, 0)) := (hk16.up _ (by omega) (by omega)).trans HRB.out
      have q0 := (blk_cell hrb2 0).trans (show (#[Value.string ⟨#[]⟩, .string ⟨#[]⟩, .slice none 0 0] : Array Value)[0]? = some (.string ⟨#[]⟩) from rfl)
      have q1 := (blk_cell hrb2 1).trans (show (#[Value.string ⟨#[]⟩, .string ⟨#[]⟩, .slice none 0 0] : Array Value)[1]? = some (.string ⟨#[]⟩) from rfl)
      have q2 := (blk_cell hrb2 2).trans (show (#[Value.string ⟨#[]⟩, .string ⟨#[]⟩, .slice none 0 0] : Array Value)[2]? = some (.slice none 0 0) from rfl)
      have f0 := blk_frozen hrb2 0
      have f1 := blk_frozen hrb2 1
      have f2 := blk_frozen hrb2 2
      have x0 := (blk_cell hxb6 0).trans (show (#[Value.string x.f0, .string x.f1, .slice A2 x.f2.length c2] : Array Value)[0]? = some (.string x.f0) from rfl)
      have x1 := (blk_cell hxb6 1).trans (show (#[Value.string x.f0, .string x.f1, .slice A2 x.f2.length c2] : Array Value)[1]? = some (.string x.f1) from rfl)
      have x2 := (blk_cell hxb6 2).trans (show (#[Value.string x.f0, .string x.f1, .slice A2 x.f2.length c2] : Array Value)[2]? = some (.slice A2 x.f2.length c2) from rfl)
      have hp := put3_cells q0 q1 q2 (.string x.f0) (.string x.f1) (.slice A2 x.f2.length c2)
      have ht := told_put (HK1.out.trans hk16) hbw (by rw [← hs1]; exact Kd.R_lower hR6 HZ.out) hrd6 (.string x.f0) (.string x.f1) (.slice A2 x.f2.length c2)
      unfold put3 at hp ht
      have HP := Lib.hid hp
      have HT := Lib.hid ht
      clear hp ht hrb2 hR6 hxb6 hrd6 hk6 hk16 hW1
      go_wp2_with fail
      refine (need_yes _).mono ?_
      rintro e w7 ⟨rfl, rfl⟩
      go_wp2_with fail
      obtain ⟨p0, p1, p2⟩ := HP.out
      exact bodyPost_ret (v := .agg #[.string x.f0, .string x.f1, .slice A2 x.f2.length c2]) (by simp [results, Tryd.results36, go_sem, p0, p1, p2]) rfl HT.out

set_option maxRecDepth 100000 in
set_option maxHeartbeats 8000000 in
theorem factor_tag (n : Nat) (b : Nat) (l : List UInt8) (W : World) (hl : l.length < n + 1) (hn : n ≤ 1000) (hr : Rd W b l) (h : (takesP [33] l).1 = false) (h2 : (takesP [40] (takesP [33] l).2).1 = false) :
    Calls Tryd.prog 36 #[.pointer (some ⟨b, 0, none⟩)] W (Told b W (factorP (n + 1) l)) := by
  have hbw := hr.lt
  obtain ⟨W1, hW1⟩ : ∃ W1, W.alloc (.cells #[.string ⟨#[]⟩, .string ⟨#[]⟩, .slice none 0 0] 24) = W1 := ⟨_, rfl⟩
  have hs1 : W1.heap.size = W.heap.size + 1 := by rw [← hW1]; simp
  have hk1 : Kp b W W1 := by rw [← hW1]; exact (Kp.refl b W).alloc hbw _
  have hrb : W1.heap[W.heap.size]? = some (.cells #[.string ⟨#[]⟩, .string ⟨#[]⟩, .slice none 0 0] 24 (0, 0)) := by rw [← hW1]; exact blk_new _ _
  have hr1 : Rd W1 b l := by rw [← hW1]; exact hr.below ((Below.refl _ W).alloc (Nat.le_refl _) _)
  have KT := Lib.hid (takes_any [33] l b W1 hr1)
  have hl1 := takes_len (sign := [33]) (l := l)
  obtain ⟨O, hO⟩ : ∃ O, factorP (n + 1) l = O := ⟨_, rfl⟩
  rw [hO]
  rw [factorP, if_neg (by rw [h]; decide), if_neg (by rw [h2]; decide)] at hO
  obtain ⟨⟨i, r1⟩, hi⟩ : ∃ q, takesP [33] l = q := ⟨_, rfl⟩
  rw [hi] at KT hO hl1 h h2
  simp only [] at KT hO hl1 h h2
  subst h
  have KT2 := Lib.hid (fun W' (hd : Rd W' b r1) => takes_any [40] r1 b W' hd)
  have hl2 := takes_len (sign := [40]) (l := r1)
  obtain ⟨⟨i2, r2⟩, hi2⟩ : ∃ q, takesP [40] r1 = q := ⟨_, rfl⟩
  rw [hi2] at KT2 hO hl2 h2
  simp only [] at KT2 hO hl2 h2
  subst h2
  have HRB := Lib.hid hrb
  have HK1 := Lib.hid hk1
  have HO := Lib.hid hO
  clear hrb hk1 hr hr1 hO hi hi2
  go_enter Tryd.func36, Tryd.ntmps36
  go_wp2_with fail
  refine KT.out.mono ?_
  rintro e w2 ⟨rfl, hrd2, hk2⟩
  go_wp2_with fail
  refine (KT2.out _ hrd2).mono ?_
  rintro e w3 ⟨rfl, hrd3, hk3⟩
  have hk13 := hk2.trans hk3
  have q := hrd3.1
  go_wp2_with fail
  have hrb3 : w3.heap[W.heap.size]? = some (.cells #[.string ⟨#[]⟩, .string ⟨#[]⟩, .slice none 0 0] 24 (0, 0)) := (hk13.up _ (by omega) (by omega)).trans HRB.out
  have HH := Lib.hid (And.intro hk13 (And.intro hrd3 hrb3))
  have hf := hrd3.2
  have hzr : (bs r2).size = r2.length := by rw [size_list, bs_list]
  clear hk13 hrd3 hrb3 hk2 hk3 hW1 hrd2
  go_loopg [4] r2.length (fun gk iv wr => ∃ i : Nat, i ≤ (tagB r2).length ∧ gk = r2.length - i ∧ iv = .int .i64 i ∧ wr = w3)
  case atStart => exact ⟨0, Nat.zero_le _, rfl, rfl, rfl⟩
  case round =>
    obtain ⟨i, hi, rfl, rfl, rfl⟩ := hrel
    have htl := tagB_len r2
    by_cases hlt : i < r2.length
    · have hlt2 : (i : Int) < ((bs r2).size : Int) := by omega
      have hmy := tagB_at r2 i hi hlt
      have hmc0 : ∀ (h : i < (bs r2).size) (w : World), Calls Tryd.prog 49 #[.int .i32 (wrap32 (((bs r2)[i]'h).toNat : Int))] w fun e w' => e = .returned (.bool (decide (i < (tagB r2).length))) ∧ w' = w := by
        intro h w
        have hg : (bs r2)[i]'h = r2[i] := rfl
        have hw : wrap32 ((r2[i]).toNat : Int) = ((r2[i]).toNat : Int) := by
          have := (r2[i]).toNat_lt
          unfold wrap32
          omega
        rw [hg, hw, ← hmy]
        exact may_any _ w
      by_cases hm : i < (tagB r2).length
      · have hmc : ∀ (h : i < (bs r2).size) (w : World), Calls Tryd.prog 49 #[.int .i32 (wrap32 (((bs r2)[i]'h).toNat : Int))] w fun e w' => e = .returned (.bool true) ∧ w' = w := by
          rw [decide_eq_true hm] at hmc0; exact hmc0
        clear hmc0 hmy
        go_wp2_with fail
        refine (hmc _ _).mono ?_
        rintro e w6 ⟨rfl, rfl⟩
        go_wp2_with fail
        go_roundg (r2.length - (i + 1))
        case measure => omega
        case rel => exact ⟨i + 1, by omega, rfl, by simp, rfl⟩
      · have hmc : ∀ (h : i < (bs r2).size) (w : World), Calls Tryd.prog 49 #[.int .i32 (wrap32 (((bs r2)[i]'h).toNat : Int))] w fun e w' => e = .returned (.bool false) ∧ w' = w := by
          rw [decide_eq_false hm] at hmc0; exact hmc0
        have hie : i = (tagB r2).length := by omega
        clear hmc0 hmy hm hi htl
        by_cases ht0 : tagB r2 = []
        · have hi0 : i = 0 := by rw [ht0] at hie; exact hie
          subst hi0
          obtain rfl : O = none := by rw [← HO.out, if_pos ht0]
          clear ht0 hie
          go_wp2_with fail
          refine (hmc _ _).mono ?_
          rintro e w6 ⟨rfl, rfl⟩
          go_wp2_with fail
          refine (need_no _).mono ?_
          rintro e w7 ⟨rfl, rfl⟩
          exact ⟨rfl, Told.no (HK1.out.trans HH.out.1)⟩
        · have hpos : 0 < i := by
            rw [hie]; exact List.length_pos_iff.2 ht0
          have hO2 : some (⟨bs [], bs (r2.take i), []⟩, r2.drop i) = O := by rw [← HO.out, if_neg ht0, ← hie, ← take_tag r2 i hie]
          subst hO2
          have hpos2 : (0 : Int) < (i : Int) := by omega
          have ex1 := cut_head r2 i
          have ex2 := cut_tail r2 i
          have hkS := HH.out.1.trans (Kp.set (b := b) wr 0 (.string (bs (r2.drop i))))
          have hrdS := HH.out.2.1.set (r := r2.drop i)
          have hrbS : (wr.setCell ⟨b, 0, none⟩ (.string (bs (r2.drop i)))).heap[W.heap.size]? = some (.cells #[.string ⟨#[]⟩, .string ⟨#[]⟩, .slice none 0 0] 24 (0, 0)) := (hkS.up _ (by omega) (by omega)).trans HRB.out
          have q0 := (blk_cell hrbS 0).trans (show (#[Value.string ⟨#[]⟩, .string ⟨#[]⟩, .slice none 0 0] : Array Value)[0]? = some (.string ⟨#[]⟩) from rfl)
          have q1 := (blk_cell hrbS 1).trans (show (#[Value.string ⟨#[]⟩, .string ⟨#[]⟩, .slice none 0 0] : Array Value)[1]? = some (.string ⟨#[]⟩) from rfl)
          have q2 := (blk_cell hrbS 2).trans (show (#[Value.string ⟨#[]⟩, .string ⟨#[]⟩, .slice none 0 0] : Array Value)[2]? = some (.slice none 0 0) from rfl)
          have f0 := blk_frozen hrbS 0
          have f1 := blk_frozen hrbS 1
          have f2 := blk_frozen hrbS 2
          have hpp := put3_cells q0 q1 q2 (.string ⟨#[]⟩) (.string (bs (r2.take i))) (.slice none 0 0)
          have htt := told_put (x := ⟨bs [], bs (r2.take i), []⟩) (HK1.out.trans hkS) hbw (Kd.R_nil _ _ _ _ _) hrdS (.string ⟨#[]⟩) (.string (bs (r2.take i))) (.slice none 0 0)
          unfold put3 at hpp htt
          have HPP := Lib.hid hpp
          have HTT := Lib.hid htt
          clear hpp htt hrbS hrdS hkS
          clear ht0 hie HO
          go_wp2_with fail
          refine (hmc _ _).mono ?_
          rintro e w6 ⟨rfl, rfl⟩
          go_wp2_with fail
          refine (need_yes _).mono ?_
          rintro e w7 ⟨rfl, rfl⟩
          go_wp2_with fail
          obtain ⟨p0, p1, p2⟩ := HPP.out
          exact bodyPost_ret (v := .agg #[.string ⟨#[]⟩, .string (bs (r2.take i)), .slice none 0 0]) (by simp [results, Tryd.results36, go_sem, p0, p1, p2]) rfl HTT.out
    · have hie : i = (tagB r2).length := by omega
      obtain hir : i = r2.length := by omega
      have hlt2 : ¬ (i : Int) < ((bs r2).size : Int) := by omega
      have hil : i ≤ r2.length := by omega
      clear hi htl hlt hir
      by_cases ht0 : tagB r2 = []
      · have hi0 : i = 0 := by rw [ht0] at hie; exact hie
        subst hi0
        obtain rfl : O = none := by rw [← HO.out, if_pos ht0]
        clear ht0 hie
        go_wp2_with fail
        refine (need_no _).mono ?_
        rintro e w7 ⟨rfl, rfl⟩
        exact ⟨rfl, Told.no (HK1.out.trans HH.out.1)⟩
      · have hpos : 0 < i := by
          rw [hie]; exact List.length_pos_iff.2 ht0
        have hO2 : some (⟨bs [], bs (r2.take i), []⟩, r2.drop i) = O := by rw [← HO.out, if_neg ht0, ← hie, ← take_tag r2 i hie]
        subst hO2
        have hpos2 : (0 : Int) < (i : Int) := by omega
        have ex1 := cut_head r2 i
        have ex2 := cut_tail r2 i
        have hkS := HH.out.1.trans (Kp.set (b := b) wr 0 (.string (bs (r2.drop i))))
        have hrdS := HH.out.2.1.set (r := r2.drop i)
        have hrbS : (wr.setCell ⟨b, 0, none⟩ (.string (bs (r2.drop i)))).heap[W.heap.size]? = some (.cells #[.string ⟨#[]⟩, .string ⟨#[]⟩, .slice none 0 0] 24 (0, 0)) := (hkS.up _ (by omega) (by omega)).trans HRB.out
        have q0 := (blk_cell hrbS 0).trans (show (#[Value.string ⟨#[]⟩, .string ⟨#[]⟩, .slice none 0 0] : Array Value)[0]? = some (.string ⟨#[]⟩) from rfl)
        have q1 := (blk_cell hrbS 1).trans (show (#[Value.string ⟨#[]⟩, .string ⟨#[]⟩, .slice none 0 0] : Array Value)[1]? = some (.string ⟨#[]⟩) from rfl)
        have q2 := (blk_cell hrbS 2).trans (show (#[Value.string ⟨#[]⟩, .string ⟨#[]⟩, .slice none 0 0] : Array Value)[2]? = some (.slice none 0 0) from rfl)
        have f0 := blk_frozen hrbS 0
        have f1 := blk_frozen hrbS 1
        have f2 := blk_frozen hrbS 2
        have hpp := put3_cells q0 q1 q2 (.string ⟨#[]⟩) (.string (bs (r2.take i))) (.slice none 0 0)
        have htt := told_put (x := ⟨bs [], bs (r2.take i), []⟩) (HK1.out.trans hkS) hbw (Kd.R_nil _ _ _ _ _) hrdS (.string ⟨#[]⟩) (.string (bs (r2.take i))) (.slice none 0 0)
        unfold put3 at hpp htt
        have HPP := Lib.hid hpp
        have HTT := Lib.hid htt
        clear hpp htt hrbS hrdS hkS
        clear ht0 hie HO
        go_wp2_with fail
        refine (need_yes _).mono ?_
        rintro e w7 ⟨rfl, rfl⟩
        go_wp2_with fail
        obtain ⟨p0, p1, p2⟩ := HPP.out
        exact bodyPost_ret (v := .agg #[.string ⟨#[]⟩, .string (bs (r2.take i)), .slice none 0 0]) (by simp [results, Tryd.results36, go_sem, p0, p1, p2]) rfl HTT.out

end Go.Proofs.YtheiakdlhpccaaaDoor
