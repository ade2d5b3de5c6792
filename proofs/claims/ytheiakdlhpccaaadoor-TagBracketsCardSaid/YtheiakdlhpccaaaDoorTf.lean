/- Walks: least, Least. -/
import Derived.Test.YtheiakdlhpccaaaDoorTe
namespace Go.Proofs.YtheiakdlhpccaaaDoor
open Go.RowKit Go.Shelf R
open Go.Proofs.YtheiakdlhpccaaaDoorW.PrintWords

/-- least: a right one's least version. -/
def leastN : Nat → S24 → Int
  | 0, _ => -1
  | n + 1, x =>
    if x.f0.toList = [] then verB x.f1.data.toList
    else if x.f0.toList = [38, 38] then Lib.maxOf (x.f2.map (leastN n))
    else if x.f0.toList = [124, 124] then Lib.minOf (x.f2.map (leastN n))
    else -1

def LeastAt (n : Nat) : Prop := ∀ (x : S24) (A : Option Addr) (c : Nat) (w : World), Good w → rightN n x = true → Sz n x → x.f2.length ≤ c → Kd.C k24 w A x.f2.length x.f2 →
  Calls Tryd.prog 31 #[xv x A c] w (Out w.heap.size w (.int .i64 (leastN n x)))

theorem infoI : (Tryd.prog.info? 3).map (fun i => (i.zero, i.size, i.bytes)) = some (some (.int .i64 0), 1, 8) := by kernel_rfl

theorem take_map_succ {α β : Type} (f : α → β) (xs : List α) (i : Nat) (h : i < xs.length) : (xs.take (i + 1)).map f = (xs.take i).map f ++ [f xs[i]] := by
  rw [List.take_succ_eq_append_getElem h, List.map_append]
  rfl

theorem ints_cells {w : World} {base g cap n : Nat} {zs : List Int} (h : w.ownsRow base 3 1 (.slice (some ⟨g, 0, none⟩) n cap) n (zs.map (Value.int .i64))) (hl : zs.length = n) : ∀ j, j < zs.length → w.cell? ⟨g, 0 + j, none⟩ = some (.int .i64 (zs.getD j 0)) := by
  intro j hj
  have := h.cellAt j (by omega)
  rw [Nat.zero_add, this, List.getElem?_map, List.getD_eq_getElem?_getD, List.getElem?_eq_getElem hj]
  rfl

set_option maxRecDepth 100000 in
set_option maxHeartbeats 4000000 in
theorem least_step (n : Nat) (ih : LeastAt n) (x : S24) (A : Option Addr) (c : Nat) (w : World) (hG : Good w) (hr : rightN (n + 1) x = true) (hs : Sz (n + 1) x) (_hc : x.f2.length ≤ c) (hC : Kd.C k24 w A x.f2.length x.f2) :
    Calls Tryd.prog 31 #[xv x A c] w (Out w.heap.size w (.int .i64 (leastN (n + 1) x))) := by
  obtain ⟨i0, hi0, hz0, hz1, hz2⟩ := info_parts infoI
  obtain ⟨w1, hw1⟩ : ∃ w1, w.alloc (.cells #[.string x.f0, .string x.f1, .slice A x.f2.length c] 24) = w1 := ⟨_, rfl⟩
  have hb0 : Below w.heap.size w w1 := by rw [← hw1]; exact (Below.refl _ w).alloc (Nat.le_refl _) _
  have q0 : w1.cell? ⟨w.heap.size, 0, none⟩ = some (.string x.f0) := by rw [← hw1]; simp [go_sem]
  have q1 : w1.cell? ⟨w.heap.size, 1, none⟩ = some (.string x.f1) := by rw [← hw1]; simp [go_sem]
  have q2 : w1.cell? ⟨w.heap.size, 2, none⟩ = some (.slice A x.f2.length c) := by rw [← hw1]; simp [go_sem]
  have hkid : ∀ y ∈ x.f2, rightN n y = true := by
    intro y hy
    rw [rightN] at hr
    split at hr
    · rw [Bool.and_eq_true] at hr
      have := of_decide_eq_true hr.2
      rw [List.length_eq_zero_iff.1 this] at hy
      cases hy
    · have hall : (!(x.f2.any fun k => !rightN n k)) = true := by
        split at hr
        · rw [Bool.and_eq_true, Bool.and_eq_true] at hr; exact hr.2.2
        · split at hr
          · rw [Bool.and_eq_true, Bool.and_eq_true] at hr; exact hr.2.2
          · cases hr
      rw [Bool.not_eq_true', Bool.eq_false_iff] at hall
      by_cases hq : rightN n y = true
      · exact hq
      · exact absurd (List.any_eq_true.2 ⟨y, hy, by simp [hq]⟩) hall
  have hz := hC.2.1
  have hlen := hs.2.1
  have HQ := Lib.hid (And.intro q0 q1)
  have HB0 := Lib.hid hb0
  have HC := Lib.hid (Kd.C_below hC hb0)
  have HK := Lib.hid hkid
  have HS := Lib.hid hs
  have HG := Lib.hid hG
  have HR := Lib.hid hr
  obtain ⟨R, hR0⟩ : ∃ R, leastN (n + 1) x = R := ⟨_, rfl⟩
  rw [hR0]
  have HRR := Lib.hid hR0
  clear hR0 q0 q1 hb0 hkid hs hC hG hr
  unfold xv
  go_enter Tryd.func31, Tryd.ntmps31
  go_wp2_with fail
  have HW := Lib.hid hw1
  clear hw1 q2
  go_loopg [3, 9] x.f2.length (fun gk v iv wr => ∃ i : Nat, i ≤ x.f2.length ∧ gk = x.f2.length - i ∧ iv = .int .i64 i ∧ wr.ownsRow w1.heap.size 3 1 v i (((x.f2.take i).map (leastN n)).map (Value.int .i64)) ∧ Below w1.heap.size w1 wr)
  case atStart => exact ⟨0, Nat.zero_le _, rfl, rfl, World.ownsRow_nil _ _ _ _, Below.refl _ _⟩
  case round =>
    obtain ⟨i, hi, rfl, rfl, hown, hnx⟩ := hrel
    have HO := Lib.hid hown
    have HN := Lib.hid hnx
    clear hown hnx
    by_cases hlt : i < x.f2.length
    · have hlt2 : (i : Int) < (x.f2.length : Int) := by omega
      have hCr := Kd.C_below HC.out HN.out
      obtain ⟨ad, A2, c2, rfl, e0, e1, e2, hl2, hC2⟩ := at_T24 hCr (i : Int) (by omega) (by omega)
      rw [Int.toNat_natCast] at e0 e1 e2
      have hx : rd_T24 x.f2 (i : Int) = x.f2[i] := by
        unfold rd_T24
        rw [Int.toNat_natCast, List.getD_eq_getElem?_getD, List.getElem?_eq_getElem hlt]
        rfl
      rw [hx] at e0 e1 e2 hl2 hC2
      have htk := take_map_succ (leastN n) x.f2 i hlt
      obtain ⟨y, hy⟩ : ∃ y, x.f2[i] = y := ⟨_, rfl⟩
      rw [hy] at e0 e1 e2 hl2 hC2 htk
      have hmem : y ∈ x.f2 := by rw [← hy]; exact List.getElem_mem hlt
      have ha : Below wr.heap.size wr (wr.alloc (.cells #[.string y.f0, .string y.f1, .slice A2 y.f2.length c2] 24)) := (Below.refl _ wr).alloc (Nat.le_refl _) _
      have hnA := HN.out.trans (ha.mono HN.out.size)
      have KK := Lib.hid (ih y A2 c2 (wr.alloc (.cells #[.string y.f0, .string y.f1, .slice A2 y.f2.length c2] 24)) ((HG.out.below HB0.out).below hnA) (HK.out y hmem) (HS.out.2.2 y hmem) hl2 (Kd.C_below hC2 ha))
      obtain ⟨m, hm⟩ : ∃ m, leastN n y = m := ⟨_, rfl⟩
      rw [hm] at KK htk
      have HT := Lib.hid htk
      have HNA := Lib.hid hnA
      have HA := Lib.hid ha
      clear hCr hl2 hC2 hx hy htk hmem ha hnA hm
      unfold xv at KK
      go_wp2_with fail
      refine KK.out.mono ?_
      rintro e w2 ⟨rfl, hb2⟩
      have hown2 := pw_own_below (pw_own_below HO.out HA.out) hb2
      have hn2 := HNA.out.trans (hb2.mono HNA.out.size)
      have hn2s := hn2.size
      go_wp2_with (at_builtin; refine wpList_append_own _ rfl _ _ 66 rfl w1.heap.size 3 i0 (.int .i64 0) 1 8 Tryd.underlying66 hi0 hz0 hz1 hz2 rfl (by decide) _ _ _ rfl (hown2.alloc _) ⟨w2.heap.size, 0, none⟩ 1 1 [.int .i64 m] rfl rfl (cell_one_new _ _ _) (by simp [Value.oneCell']) (by unfold maxLen; omega) (by omega) (by simp; omega) ?_; intro v' w3 hown' hgrow _)
      have hg : (w2.alloc (.cells #[.int .i64 m] 3)).grownBy w3 _ := hgrow
      have hb3 := (hn2.alloc hn2.size _).grown hg (by simp; omega) (fun j e => (hown2.lt j e).1)
      go_roundg (x.f2.length - (i + 1))
      case measure => omega
      case rel => exact ⟨i + 1, by omega, rfl, by simp, by rw [HT.out, List.map_append]; exact hown', hb3⟩
    · obtain rfl : i = x.f2.length := by omega
      have hown := HO.out
      rw [List.take_length] at hown
      have q0 := keeps_cell HN.out HQ.out.1
      have q1 := keeps_cell HN.out HQ.out.2
      have hGr := (HG.out.below HB0.out).below HN.out
      have hB := HB0.out.trans (HN.out.mono HB0.out.size)
      have hrr := HR.out
      have hR := HRR.out
      clear HO HN HC HK HRR
      by_cases h0 : x.f0.toList = []
      · have hv : verB x.f1.data.toList = R := by rw [← hR, leastN, if_pos h0]
        have hver := version_any x.f1.data.toList (by rw [← size_list]; exact HS.out.1) hGr
        rw [← bs_of, hv] at hver
        have KV := Lib.hid hver
        clear hver hv hR hrr hown
        go_wp2_with fail
        refine KV.out.mono ?_
        rintro e w2 ⟨rfl, hb2⟩
        go_wp2_with fail
        go_ret
        exact ⟨rfl, hB.trans (hb2.mono hB.size)⟩
      · rw [rightN, if_neg h0] at hrr
        have e0 : (x.f0.toList == []) = false := by simpa using h0
        by_cases h1 : x.f0.toList = [38, 38]
        · rw [if_neg (by rw [h1]; decide), if_pos (.inl h1), Bool.and_eq_true] at hrr
          have h2 := of_decide_eq_true hrr.1
          have hv : Lib.maxOf (x.f2.map (leastN n)) = R := by rw [← hR, leastN, if_neg h0, if_pos h1]
          obtain ⟨g, cap, rfl, _, _⟩ := hown.form (by omega)
          have hmx := Tryd.slices_Max_int g 0 x.f2.length cap (x.f2.map (leastN n)) wr (by omega) (by simp) (by omega) (ints_cells hown (by simp))
          rw [List.take_of_length_le (by simp), hv] at hmx
          have KM := Lib.hid hmx
          clear hmx hv hR hrr hown h0
          go_wp2_with fail
          refine KM.out.mono ?_
          rintro e w2 ⟨rfl, rfl⟩
          go_wp2_with fail
          go_ret
          exact ⟨rfl, hB⟩
        · by_cases h3 : x.f0.toList = [124, 124]
          · rw [if_neg (by rw [h3]; decide), if_pos (.inr h3), Bool.and_eq_true] at hrr
            have h2 := of_decide_eq_true hrr.1
            have hv : Lib.minOf (x.f2.map (leastN n)) = R := by rw [← hR, leastN, if_neg h0, if_neg h1, if_pos h3]
            obtain ⟨g, cap, rfl, _, _⟩ := hown.form (by omega)
            have hmx := Tryd.slices_Min_int g 0 x.f2.length cap (x.f2.map (leastN n)) wr (by omega) (by simp) (by omega) (ints_cells hown (by simp))
            rw [List.take_of_length_le (by simp), hv] at hmx
            have KM := Lib.hid hmx
            clear hmx hv hR hrr hown h0 h1
            go_wp2_with fail
            refine KM.out.mono ?_
            rintro e w2 ⟨rfl, rfl⟩
            go_wp2_with fail
            go_ret
            exact ⟨rfl, hB⟩
          · obtain rfl : R = -1 := by rw [← hR, leastN, if_neg h0, if_neg h1, if_neg h3]
            have e1 : (x.f0.toList == [38, 38]) = false := by simpa using h1
            have e2 : (x.f0.toList == [124, 124]) = false := by simpa using h3
            clear hR hrr hown h0 h1 h3
            go_wp2_with fail
            go_ret
            exact ⟨rfl, hB⟩

theorem least_any : ∀ n, LeastAt n := by
  intro n
  induction n with
  | zero => intro x A c w _ hr; cases hr
  | succ n ih => exact fun x A c w hG hr hs hc hC => least_step n ih x A c w hG hr hs hc hC

/-- What tag.Least tells. -/
def leastP (x : S24) : Int := if rightN 100 x = true then leastN 100 x else -1

set_option maxRecDepth 100000 in
theorem Least_any (x : S24) (A : Option Addr) (c : Nat) (w : World) (hG : Good w) (hs : Sz 100 x) (hc : x.f2.length ≤ c) (hC : Kd.C k24 w A x.f2.length x.f2) :
    Calls Tryd.prog 15 #[xv x A c] w (Out w.heap.size w (.int .i64 (leastP x))) := by
  have hb0 : Below w.heap.size w (w.alloc (.cells #[.string x.f0, .string x.f1, .slice A x.f2.length c] 24)) := (Below.refl _ w).alloc (Nat.le_refl _) _
  have KR := Lib.hid (Right_any x A c (w.alloc (.cells #[.string x.f0, .string x.f1, .slice A x.f2.length c] 24)) hc (Kd.C_below hC hb0))
  have hKH := fun (hr : rightN 100 x = true) W (hW : Below w.heap.size w W) => least_any 100 x A c W (hG.below hW) hr hs hc (Kd.C_below hC hW)
  have HB := Lib.hid hb0
  obtain ⟨r, hr⟩ : ∃ r, rightN 100 x = r := ⟨_, rfl⟩
  obtain ⟨b, hb⟩ : ∃ b, leastN 100 x = b := ⟨_, rfl⟩
  unfold leastP
  rw [hr, hb]
  rw [hr] at KR
  rw [hr, hb] at hKH
  have KH := Lib.hid hKH
  clear hKH hb0 hr hb hC hs hG
  unfold xv at KR KH ⊢
  cases r
  · rw [if_neg (by decide)]
    go_enter Tryd.func15, Tryd.ntmps15
    go_wp2_with fail
    refine KR.out.mono ?_
    rintro e w1 ⟨rfl, hb1⟩
    go_wp2_with fail
    go_ret
    exact ⟨rfl, HB.out.trans (hb1.mono HB.out.size)⟩
  · rw [if_pos rfl]
    go_enter Tryd.func15, Tryd.ntmps15
    go_wp2_with fail
    refine KR.out.mono ?_
    rintro e w1 ⟨rfl, hb1⟩
    have hb1' := HB.out.trans (hb1.mono HB.out.size)
    have c0 := keeps_cell hb1 (show (w.alloc (.cells #[.string x.f0, .string x.f1, .slice A x.f2.length c] 24)).cell? ⟨w.heap.size, 0, none⟩ = some (.string x.f0) by simp [go_sem])
    have c1 := keeps_cell hb1 (show (w.alloc (.cells #[.string x.f0, .string x.f1, .slice A x.f2.length c] 24)).cell? ⟨w.heap.size, 1, none⟩ = some (.string x.f1) by simp [go_sem])
    have c2 := keeps_cell hb1 (show (w.alloc (.cells #[.string x.f0, .string x.f1, .slice A x.f2.length c] 24)).cell? ⟨w.heap.size, 2, none⟩ = some (.slice A x.f2.length c) by simp [go_sem])
    go_wp2_with fail
    refine (KH.out (by trivial) _ hb1').mono ?_
    rintro e w2 ⟨rfl, hb2⟩
    go_wp2_with fail
    go_ret
    exact ⟨by simp, hb1'.trans (hb2.mono hb1'.size)⟩

end Go.Proofs.YtheiakdlhpccaaaDoor
