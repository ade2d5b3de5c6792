/- Walks: write, Write. -/
import Derived.Test.YtheiakdlhpccaaaDoorTf
namespace Go.Proofs.YtheiakdlhpccaaaDoor
open Go.RowKit Go.Shelf R
open Go.Proofs.YtheiakdlhpccaaaDoorW.PrintWords

/-- Must brackets stand, in what a constraint stands? -/
def barred (op wi : List UInt8) : Bool := decide (wi = [33]) || decide (wi = [38, 38]) || decide (wi = op)
/-- write: a right one, in what it stands. -/
def writeN : Nat → S24 → List UInt8 → List UInt8
  | 0, _, _ => []
  | n + 1, x, wi =>
    if x.f0.toList = [33] then 33 :: (x.f2.map fun k => writeN n k x.f0.toList).headD []
    else if x.f0.toList = [38, 38] ∨ x.f0.toList = [124, 124] then
      (if barred x.f0.toList wi = true then 40 :: (Lib.join (x.f2.map fun k => writeN n k x.f0.toList) (32 :: (x.f0.toList ++ [32])) ++ [41])
       else Lib.join (x.f2.map fun k => writeN n k x.f0.toList) (32 :: (x.f0.toList ++ [32])))
    else x.f1.data.toList

def maxT : Nat := 70368744177664
def WriteAt (n : Nat) : Prop := ∀ (x : S24) (A : Option Addr) (c : Nat) (wi : List UInt8) (w : World), rightN n x = true → Sz n x → x.f2.length ≤ c → Kd.C k24 w A x.f2.length x.f2 → (writeN n x wi).length ≤ maxT →
  Calls Tryd.prog 29 #[xv x A c, .string (bs wi)] w (Out w.heap.size w (.string (bs (writeN n x wi))))

theorem part_len {x : List UInt8} {sep : List UInt8} : ∀ {xs : List (List UInt8)}, x ∈ xs → x.length ≤ (Lib.join xs sep).length
  | [], h => by cases h
  | y :: r, h => by
    rw [Lib.join_cons, List.length_append]
    rcases List.mem_cons.1 h with rfl | h
    · omega
    · have : x.length ≤ (Lib.joinTail sep r).length := by
        unfold Lib.joinTail
        have hm : sep ++ x ∈ r.map (sep ++ ·) := List.mem_map.2 ⟨x, h, rfl⟩
        have := (List.sublist_flatten_of_mem hm).length_le
        rw [List.length_append] at this
        omega
      omega

theorem kid_len {n : Nat} {x : S24} {wi : List UInt8} (hr : rightN (n + 1) x = true) {y : S24} (hy : y ∈ x.f2) : (writeN n y x.f0.toList).length ≤ (writeN (n + 1) x wi).length := by
  have hm : writeN n y x.f0.toList ∈ x.f2.map fun k => writeN n k x.f0.toList := List.mem_map.2 ⟨y, hy, rfl⟩
  rw [rightN] at hr
  rw [writeN]
  split at hr
  · rw [Bool.and_eq_true] at hr
    rw [List.length_eq_zero_iff.1 (of_decide_eq_true hr.2)] at hy
    cases hy
  · split at hr
    · rename_i h0 h1
      rw [if_pos h1]
      rw [Bool.and_eq_true] at hr
      obtain ⟨z, hz⟩ : ∃ z, x.f2 = [z] := List.length_eq_one_iff.1 (of_decide_eq_true hr.1)
      rw [hz] at hy ⊢
      rw [List.mem_singleton] at hy
      subst hy
      simp
    · rename_i h0 h1
      rw [if_neg h1]
      split at hr
      · rename_i h2
        rw [if_pos h2]
        have := part_len (sep := 32 :: (x.f0.toList ++ [32])) hm
        split
        · simp only [List.length_cons, List.length_append, List.length_nil]; omega
        · exact this
      · cases hr

theorem infoS : (Tryd.prog.info? 9).map (fun i => (i.zero, i.size, i.bytes)) = some (some (.string ⟨#[]⟩), 1, 16) := by kernel_rfl

theorem texts_cells {w : World} {base g cap n : Nat} {zs : List ByteArray} (h : w.ownsRow base 9 1 (.slice (some ⟨g, 0, none⟩) n cap) n (zs.map Value.string)) (hl : zs.length = n) : ∀ (j : Nat) x, zs[j]? = some x → w.cell? ⟨g, 0 + j, none⟩ = some (.string x) := by
  intro j x hx
  have hj := (List.getElem?_eq_some_iff.1 hx).1
  have := h.cellAt j (by omega)
  rw [Nat.zero_add, this, List.getElem?_map, hx]
  rfl

theorem list_beq (a b : List UInt8) : (a == b) = decide (a = b) := by
  rw [Bool.eq_iff_iff, beq_iff_eq, decide_eq_true_iff]
theorem own_cap {w : World} {base g cap n e : Nat} {size : Nat} {xs : List Value} (h : w.ownsRow base e size (.slice (some ⟨g, 0, none⟩) n cap) n xs) : n ≤ cap := by
  rcases h.2 with ⟨h1, _⟩ | ⟨g', cap', cur, he, _, _, h1, _⟩
  · cases h1
  · injection he with _ _ he3
    omega

theorem join_bs (zs : List ByteArray) (sep : ByteArray) : (⟨(Lib.join (zs.map (·.data.toList)) sep.data.toList).toArray⟩ : ByteArray) = bs (Lib.join (zs.map (·.data.toList)) sep.data.toList) := rfl

set_option maxRecDepth 100000 in
set_option maxHeartbeats 40000000 in
theorem write_step (n : Nat) (ih : WriteAt n) (x : S24) (A : Option Addr) (c : Nat) (wi : List UInt8) (w : World) (hr : rightN (n + 1) x = true) (hs : Sz (n + 1) x) (_hc : x.f2.length ≤ c) (hC : Kd.C k24 w A x.f2.length x.f2) (hT : (writeN (n + 1) x wi).length ≤ maxT) :
    Calls Tryd.prog 29 #[xv x A c, .string (bs wi)] w (Out w.heap.size w (.string (bs (writeN (n + 1) x wi)))) := by
  obtain ⟨i0, hi0, hz0, hz1, hz2⟩ := info_parts infoS
  obtain ⟨w1, hw1⟩ : ∃ w1, w.alloc (.cells #[.string x.f0, .string x.f1, .slice A x.f2.length c] 24) = w1 := ⟨_, rfl⟩
  have hb0 : Below w.heap.size w w1 := by rw [← hw1]; exact (Below.refl _ w).alloc (Nat.le_refl _) _
  have q0 : w1.cell? ⟨w.heap.size, 0, none⟩ = some (.string x.f0) := by rw [← hw1]; simp [go_sem]
  have q1 : w1.cell? ⟨w.heap.size, 1, none⟩ = some (.string x.f1) := by rw [← hw1]; simp [go_sem]
  have q2 : w1.cell? ⟨w.heap.size, 2, none⟩ = some (.slice A x.f2.length c) := by rw [← hw1]; simp [go_sem]
  have hkid : ∀ y ∈ x.f2, rightN n y = true := by
    intro y hy
    rw [rightN] at hr
    split at hr
    · rw [Bool.and_eq_true] at hr
      have := of_decide_eq_true hr.2
      rw [List.length_eq_zero_iff.1 this] at hy
      cases hy
    · have hall : (!(x.f2.any fun k => !rightN n k)) = true := by
        split at hr
        · rw [Bool.and_eq_true, Bool.and_eq_true] at hr; exact hr.2.2
        · split at hr
          · rw [Bool.and_eq_true, Bool.and_eq_true] at hr; exact hr.2.2
          · cases hr
      rw [Bool.not_eq_true', Bool.eq_false_iff] at hall
      by_cases hq : rightN n y = true
      · exact hq
      · exact absurd (List.any_eq_true.2 ⟨y, hy, by simp [hq]⟩) hall
  have hz := hC.2.1
  have hlen := hs.2.1
  have hkl : ∀ y ∈ x.f2, (writeN n y x.f0.toList).length ≤ maxT := fun y hy => Nat.le_trans (kid_len hr hy) hT
  have hx0 : x.f0 = bs x.f0.toList := by rw [ByteArray.toList_eq]; exact bs_of _
  have HQ := Lib.hid (And.intro q0 q1)
  have HB0 := Lib.hid hb0
  have HC := Lib.hid (Kd.C_below hC hb0)
  have HK := Lib.hid hkid
  have HKL := Lib.hid hkl
  have HX0 := Lib.hid hx0
  have HS := Lib.hid hs
  have HR := Lib.hid hr
  have HT := Lib.hid hT
  obtain ⟨R, hR0⟩ : ∃ R, writeN (n + 1) x wi = R := ⟨_, rfl⟩
  rw [hR0]
  have HRR := Lib.hid hR0
  clear hR0 q0 q1 hb0 hkid hs hC hr hkl hx0 hT
  unfold xv
  go_enter Tryd.func29, Tryd.ntmps29
  go_wp2_with fail
  have HW := Lib.hid hw1
  clear hw1 q2
  go_loopg [5, 12] x.f2.length (fun gk v iv wr => ∃ i : Nat, i ≤ x.f2.length ∧ gk = x.f2.length - i ∧ iv = .int .i64 i ∧ wr.ownsRow w1.heap.size 9 1 v i (((x.f2.take i).map fun k => bs (writeN n k x.f0.toList)).map Value.string) ∧ Below w1.heap.size w1 wr)
  case atStart => exact ⟨0, Nat.zero_le _, rfl, rfl, World.ownsRow_nil _ _ _ _, Below.refl _ _⟩
  case round =>
    obtain ⟨i, hi, rfl, rfl, hown, hnx⟩ := hrel
    have HO := Lib.hid hown
    have HN := Lib.hid hnx
    clear hown hnx
    by_cases hlt : i < x.f2.length
    · have hlt2 : (i : Int) < (x.f2.length : Int) := by omega
      have hCr := Kd.C_below HC.out HN.out
      obtain ⟨ad, A2, c2, rfl, e0, e1, e2, hl2, hC2⟩ := at_T24 hCr (i : Int) (by omega) (by omega)
      rw [Int.toNat_natCast] at e0 e1 e2
      have hx : rd_T24 x.f2 (i : Int) = x.f2[i] := by
        unfold rd_T24
        rw [Int.toNat_natCast, List.getD_eq_getElem?_getD, List.getElem?_eq_getElem hlt]
        rfl
      rw [hx] at e0 e1 e2 hl2 hC2
      have htk := take_map_succ (fun k => bs (writeN n k x.f0.toList)) x.f2 i hlt
      obtain ⟨y, hy⟩ : ∃ y, x.f2[i] = y := ⟨_, rfl⟩
      rw [hy] at e0 e1 e2 hl2 hC2 htk
      have hmem : y ∈ x.f2 := by rw [← hy]; exact List.getElem_mem hlt
      have ha : Below wr.heap.size wr (wr.alloc (.cells #[.string y.f0, .string y.f1, .slice A2 y.f2.length c2] 24)) := (Below.refl _ wr).alloc (Nat.le_refl _) _
      have hnA := HN.out.trans (ha.mono HN.out.size)
      have hkk := fun W (hW : Below (wr.alloc (.cells #[.string y.f0, .string y.f1, .slice A2 y.f2.length c2] 24)).heap.size (wr.alloc (.cells #[.string y.f0, .string y.f1, .slice A2 y.f2.length c2] 24)) W) => ih y A2 c2 x.f0.toList W (HK.out y hmem) (HS.out.2.2 y hmem) hl2 (Kd.C_below (Kd.C_below hC2 ha) hW) (HKL.out y hmem)
      rw [← HX0.out] at hkk
      obtain ⟨m, hm⟩ : ∃ m, bs (writeN n y x.f0.toList) = m := ⟨_, rfl⟩
      rw [hm] at hkk
      have htk2 : (x.f2.take (i + 1)).map (fun k => bs (writeN n k x.f0.toList)) = (x.f2.take i).map (fun k => bs (writeN n k x.f0.toList)) ++ [m] := by rw [htk, ← hm]
      have q0 := keeps_cell hnA HQ.out.1
      have KK := Lib.hid hkk
      have HTK := Lib.hid htk2
      have HNA := Lib.hid hnA
      have HA := Lib.hid ha
      clear hCr hl2 hC2 hx hy htk htk2 hmem ha hnA hm hkk
      unfold xv at KK
      go_wp2_with fail
      refine (KK.out _ (Below.refl _ _)).mono ?_
      rintro e w2 ⟨rfl, hb2⟩
      have hown2 := pw_own_below (pw_own_below HO.out HA.out) hb2
      have hn2 := HNA.out.trans (hb2.mono HNA.out.size)
      have hn2s := hn2.size
      go_wp2_with (at_builtin; refine wpList_append_own _ rfl _ _ 32 rfl w1.heap.size 9 i0 (.string ⟨#[]⟩) 1 16 Tryd.underlying32 hi0 hz0 hz1 hz2 rfl (by decide) _ _ _ rfl (hown2.alloc _) ⟨w2.heap.size, 0, none⟩ 1 1 [.string m] rfl rfl (cell_one_new _ _ _) (by simp [Value.oneCell']) (by unfold maxLen; omega) (by omega) (by simp; omega) ?_; intro v' w3 hown' hgrow _)
      have hg : (w2.alloc (.cells #[.string m] 9)).grownBy w3 _ := hgrow
      have hb3 := (hn2.alloc hn2.size _).grown hg (by simp; omega) (fun j e => (hown2.lt j e).1)
      go_roundg (x.f2.length - (i + 1))
      case measure => omega
      case rel => exact ⟨i + 1, by omega, rfl, by simp, by rw [HTK.out, List.map_append]; exact hown', hb3⟩
    · obtain rfl : i = x.f2.length := by omega
      have hown := HO.out
      rw [List.take_length] at hown
      have q0 := keeps_cell HN.out HQ.out.1
      have q1 := keeps_cell HN.out HQ.out.2
      have hB := HB0.out.trans (HN.out.mono HB0.out.size)
      have hrr := HR.out
      have hR := HRR.out
      have hTT := HT.out
      rw [hR] at hTT
      clear HO HN HC HK HRR HT HKL
      by_cases h0 : x.f0.toList = []
      · have hv : bs R = x.f1 := by rw [← hR, writeN, if_neg (by rw [h0]; decide), if_neg (by rw [h0]; decide), ← bs_of]
        have HV := Lib.hid hv
        clear hv hR hrr hown
        go_wp2_with fail
        go_ret
        exact ⟨by rw [HV.out]; rfl, hB⟩
      · by_cases h1 : x.f0.toList = [33]
        · rw [rightN, if_neg h0, if_pos h1, Bool.and_eq_true] at hrr
          obtain ⟨z, hzz⟩ : ∃ z, x.f2 = [z] := List.length_eq_one_iff.1 (of_decide_eq_true hrr.1)
          have hl1 : 0 < x.f2.length := by rw [hzz]; simp
          obtain ⟨g, cap, rfl, _, _⟩ := hown.form hl1
          have hc0 := texts_cells hown (by simp) 0 (bs (writeN n z x.f0.toList)) (by rw [hzz]; rfl)
          have hv : R = 33 :: writeN n z x.f0.toList := by rw [← hR, writeN, if_pos h1, hzz]; rfl
          obtain ⟨m, hm⟩ : ∃ m, writeN n z x.f0.toList = m := ⟨_, rfl⟩
          rw [hm] at hv hc0
          subst hv
          have hcat : (⟨#[33]⟩ : ByteArray) ++ bs m = bs (33 :: m) := bs_append [33] m
          have hzm : ¬ (9223372036854775807 < 1 + (bs m).size) := by
            rw [size_list, bs_list]
            simp only [List.length_cons, maxT] at hTT
            omega
          clear hR hrr hown hm hzz hTT h0
          go_wp2_with fail
          go_ret
          exact ⟨rfl, hB⟩
        · by_cases h2 : x.f0.toList = [38, 38]
          · rw [rightN, if_neg h0, if_neg h1, if_pos (.inl h2), Bool.and_eq_true] at hrr
            have hl2 := of_decide_eq_true hrr.1
            obtain ⟨g, cap, rfl, hgb, hgl⟩ := hown.form (by omega)
            have hcs := texts_cells hown (by simp)
            obtain ⟨s, hs0⟩ : ∃ s, Lib.join (x.f2.map fun k => writeN n k x.f0.toList) (32 :: (x.f0.toList ++ [32])) = s := ⟨_, rfl⟩
            have hv : R = if barred x.f0.toList wi = true then 40 :: (s ++ [41]) else s := by rw [← hR, writeN, if_neg h1, if_pos (.inl h2), hs0]
            have hsl : s.length ≤ maxT := by
              rw [hv] at hTT
              split at hTT
              · simp only [List.length_cons, List.length_append, List.length_nil] at hTT; omega
              · exact hTT
            have hsep : (⟨#[32]⟩ : ByteArray) ++ x.f0 ++ ⟨#[32]⟩ = bs (32 :: (x.f0.toList ++ [32])) := by
              conv => lhs; rw [HX0.out]
              show bs [32] ++ bs x.f0.toList ++ bs [32] = _
              rw [bs_append, bs_append]
              rfl
            have hfs : x.f0.size = 2 := by rw [HX0.out, size_list, bs_list, h2]; rfl
            have hjoin := Tryd.strings_Join g 0 cap (x.f2.map fun k => bs (writeN n k x.f0.toList)) (bs (32 :: (x.f0.toList ++ [32]))) wr hcs hgl (by rw [List.length_map]; omega) (by rw [List.length_map]; exact own_cap hown) (by
              rw [List.map_map, bs_list]
              show (Lib.join (x.f2.map fun k => writeN n k x.f0.toList) _).length ≤ _
              rw [hs0]
              simp only [maxT] at hsl
              omega)
            rw [List.map_map, bs_list, List.length_map] at hjoin
            have hse : (32 :: (x.f0.toList ++ [32])) = [32, 38, 38, 32] := by rw [h2]; rfl
            rw [hse] at hjoin hs0 hsep
            have hjoin2 : Calls Tryd.prog 42 #[.slice (some ⟨g, 0, none⟩) x.f2.length cap, .string (bs [32, 38, 38, 32])] wr fun e w' => e = .returned (.string (bs s)) ∧ Below wr.heap.size wr w' := by rw [← hs0]; exact hjoin
            have KJ := Lib.hid hjoin2
            have HV := Lib.hid hv
            have z1 : ¬ (9223372036854775807 < 1 + x.f0.size) := by omega
            have z2 : ¬ (9223372036854775807 < 1 + x.f0.size + 1) := by omega
            have z3 : ¬ (9223372036854775807 < 1 + (bs s).size) := by rw [size_list, bs_list]; simp only [maxT] at hsl; omega
            have z4 : ¬ (9223372036854775807 < 1 + (bs s).size + 1) := by rw [size_list, bs_list]; simp only [maxT] at hsl; omega
            have hbr : (⟨#[40]⟩ : ByteArray) ++ bs s ++ ⟨#[41]⟩ = bs (40 :: (s ++ [41])) := by
              show bs [40] ++ bs s ++ bs [41] = _
              rw [bs_append, bs_append]
              rfl
            have HBR := Lib.hid hbr
            have e0 : (x.f0.toList == []) = false := by simpa using h0
            have e1 : (x.f0.toList == [33]) = false := by simpa using h1
            obtain ⟨b1, hb1⟩ : ∃ b, decide (wi = [33]) = b := ⟨_, rfl⟩
            obtain ⟨b2, hb2⟩ : ∃ b, decide (wi = [38, 38]) = b := ⟨_, rfl⟩
            obtain ⟨b3, hb3⟩ : ∃ b, decide (wi = x.f0.toList) = b := ⟨_, rfl⟩
            have f1 : ((bs wi).toList == [33]) = b1 := by rw [bs_toList, ← hb1]; exact list_beq _ _
            have f2 : ((bs wi).toList == [38, 38]) = b2 := by rw [bs_toList, ← hb2]; exact list_beq _ _
            have f3 : ((bs wi).toList == x.f0.toList) = b3 := by rw [bs_toList, ← hb3]; exact list_beq _ _
            rw [h2] at f3
            have hbar : barred x.f0.toList wi = (b1 || b2 || b3) := by rw [barred, hb1, hb2, hb3]
            rw [hbar] at HV
            have HS2 := Lib.hid hsep
            clear hse hv hjoin hjoin2 hs0 hR hrr hown hTT hcs hbar hb1 hb2 hb3 hsl h1 hfs hbr
            cases b1
            · cases b2
              · cases b3
                · obtain rfl : R = s := by simpa using HV.out
                  clear HV
                  go_wp2_with fail
                  refine KJ.out.mono ?_
                  rintro e w2 ⟨rfl, hbb⟩
                  have q3 := keeps_cell hbb q0
                  go_wp2_with fail
                  go_ret
                  exact ⟨rfl, hB.trans (hbb.mono hB.size)⟩
                · rw [f2] at f3
                  cases f3
              · rw [f2] at f3
                subst f3
                obtain rfl : R = 40 :: (s ++ [41]) := by simpa using HV.out
                clear HV
                go_wp2_with fail
                refine KJ.out.mono ?_
                rintro e w2 ⟨rfl, hbb⟩
                have q3 := keeps_cell hbb q0
                go_wp2_with fail
                go_ret
                exact ⟨congrArg (fun t => Ending.returned (Value.string t)) HBR.out, hB.trans (hbb.mono hB.size)⟩
            · obtain rfl : R = 40 :: (s ++ [41]) := by simpa using HV.out
              clear HV
              go_wp2_with fail
              refine KJ.out.mono ?_
              rintro e w2 ⟨rfl, hbb⟩
              have q3 := keeps_cell hbb q0
              go_wp2_with fail
              go_ret
              exact ⟨congrArg (fun t => Ending.returned (Value.string t)) HBR.out, hB.trans (hbb.mono hB.size)⟩
          · have h3 : x.f0.toList = [124, 124] := by
              rw [rightN, if_neg h0, if_neg h1] at hrr
              split at hrr
              · rename_i h; exact h.resolve_left h2
              · cases hrr
            have e2 : (x.f0.toList == [38, 38]) = false := by simpa using h2
            rw [rightN, if_neg h0, if_neg h1, if_pos (.inr h3), Bool.and_eq_true] at hrr
            have hl2 := of_decide_eq_true hrr.1
            obtain ⟨g, cap, rfl, hgb, hgl⟩ := hown.form (by omega)
            have hcs := texts_cells hown (by simp)
            obtain ⟨s, hs0⟩ : ∃ s, Lib.join (x.f2.map fun k => writeN n k x.f0.toList) (32 :: (x.f0.toList ++ [32])) = s := ⟨_, rfl⟩
            have hv : R = if barred x.f0.toList wi = true then 40 :: (s ++ [41]) else s := by rw [← hR, writeN, if_neg h1, if_pos (.inr h3), hs0]
            have hsl : s.length ≤ maxT := by
              rw [hv] at hTT
              split at hTT
              · simp only [List.length_cons, List.length_append, List.length_nil] at hTT; omega
              · exact hTT
            have hsep : (⟨#[32]⟩ : ByteArray) ++ x.f0 ++ ⟨#[32]⟩ = bs (32 :: (x.f0.toList ++ [32])) := by
              conv => lhs; rw [HX0.out]
              show bs [32] ++ bs x.f0.toList ++ bs [32] = _
              rw [bs_append, bs_append]
              rfl
            have hfs : x.f0.size = 2 := by rw [HX0.out, size_list, bs_list, h3]; rfl
            have hjoin := Tryd.strings_Join g 0 cap (x.f2.map fun k => bs (writeN n k x.f0.toList)) (bs (32 :: (x.f0.toList ++ [32]))) wr hcs hgl (by rw [List.length_map]; omega) (by rw [List.length_map]; exact own_cap hown) (by
              rw [List.map_map, bs_list]
              show (Lib.join (x.f2.map fun k => writeN n k x.f0.toList) _).length ≤ _
              rw [hs0]
              simp only [maxT] at hsl
              omega)
            rw [List.map_map, bs_list, List.length_map] at hjoin
            have hse : (32 :: (x.f0.toList ++ [32])) = [32, 124, 124, 32] := by rw [h3]; rfl
            rw [hse] at hjoin hs0 hsep
            have hjoin2 : Calls Tryd.prog 42 #[.slice (some ⟨g, 0, none⟩) x.f2.length cap, .string (bs [32, 124, 124, 32])] wr fun e w' => e = .returned (.string (bs s)) ∧ Below wr.heap.size wr w' := by rw [← hs0]; exact hjoin
            have KJ := Lib.hid hjoin2
            have HV := Lib.hid hv
            have z1 : ¬ (9223372036854775807 < 1 + x.f0.size) := by omega
            have z2 : ¬ (9223372036854775807 < 1 + x.f0.size + 1) := by omega
            have z3 : ¬ (9223372036854775807 < 1 + (bs s).size) := by rw [size_list, bs_list]; simp only [maxT] at hsl; omega
            have z4 : ¬ (9223372036854775807 < 1 + (bs s).size + 1) := by rw [size_list, bs_list]; simp only [maxT] at hsl; omega
            have hbr : (⟨#[40]⟩ : ByteArray) ++ bs s ++ ⟨#[41]⟩ = bs (40 :: (s ++ [41])) := by
              show bs [40] ++ bs s ++ bs [41] = _
              rw [bs_append, bs_append]
              rfl
            have HBR := Lib.hid hbr
            have e0 : (x.f0.toList == []) = false := by simpa using h0
            have e1 : (x.f0.toList == [33]) = false := by simpa using h1
            obtain ⟨b1, hb1⟩ : ∃ b, decide (wi = [33]) = b := ⟨_, rfl⟩
            obtain ⟨b2, hb2⟩ : ∃ b, decide (wi = [38, 38]) = b := ⟨_, rfl⟩
            obtain ⟨b3, hb3⟩ : ∃ b, decide (wi = x.f0.toList) = b := ⟨_, rfl⟩
            have f1 : ((bs wi).toList == [33]) = b1 := by rw [bs_toList, ← hb1]; exact list_beq _ _
            have f2 : ((bs wi).toList == [38, 38]) = b2 := by rw [bs_toList, ← hb2]; exact list_beq _ _
            have f3 : ((bs wi).toList == x.f0.toList) = b3 := by rw [bs_toList, ← hb3]; exact list_beq _ _
            rw [h3] at f3
            have hbar : barred x.f0.toList wi = (b1 || b2 || b3) := by rw [barred, hb1, hb2, hb3]
            rw [hbar] at HV
            have HS2 := Lib.hid hsep
            clear hse hv hjoin hjoin2 hs0 hR hrr hown hTT hcs hbar hb1 hb2 hb3 hsl h1 hfs hbr
            cases b1
            · cases b2
              · cases b3
                · obtain rfl : R = s := by simpa using HV.out
                  clear HV
                  go_wp2_with fail
                  refine KJ.out.mono ?_
                  rintro e w2 ⟨rfl, hbb⟩
                  have q3 := keeps_cell hbb q0
                  go_wp2_with fail
                  go_ret
                  exact ⟨rfl, hB.trans (hbb.mono hB.size)⟩
                · obtain rfl : R = 40 :: (s ++ [41]) := by simpa using HV.out
                  clear HV
                  go_wp2_with fail
                  refine KJ.out.mono ?_
                  rintro e w2 ⟨rfl, hbb⟩
                  have q3 := keeps_cell hbb q0
                  go_wp2_with fail
                  go_ret
                  exact ⟨congrArg (fun t => Ending.returned (Value.string t)) HBR.out, hB.trans (hbb.mono hB.size)⟩
              · obtain rfl : R = 40 :: (s ++ [41]) := by simpa using HV.out
                clear HV
                go_wp2_with fail
                refine KJ.out.mono ?_
                rintro e w2 ⟨rfl, hbb⟩
                have q3 := keeps_cell hbb q0
                go_wp2_with fail
                go_ret
                exact ⟨congrArg (fun t => Ending.returned (Value.string t)) HBR.out, hB.trans (hbb.mono hB.size)⟩
            · obtain rfl : R = 40 :: (s ++ [41]) := by simpa using HV.out
              clear HV
              go_wp2_with fail
              refine KJ.out.mono ?_
              rintro e w2 ⟨rfl, hbb⟩
              have q3 := keeps_cell hbb q0
              go_wp2_with fail
              go_ret
              exact ⟨congrArg (fun t => Ending.returned (Value.string t)) HBR.out, hB.trans (hbb.mono hB.size)⟩


theorem write_any : ∀ n, WriteAt n := by
  intro n
  induction n with
  | zero => intro x A c wi w hr; cases hr
  | succ n ih => exact fun x A c wi w hr hs hc hC hT => write_step n ih x A c wi w hr hs hc hC hT

/-- What tag.Write writes. -/
def writeP (x : S24) : List UInt8 := if rightN 100 x = true then writeN 100 x [] else []

set_option maxRecDepth 100000 in
theorem Write_any (x : S24) (A : Option Addr) (c : Nat) (w : World) (hs : Sz 100 x) (hT : (writeP x).length ≤ maxT) (hc : x.f2.length ≤ c) (hC : Kd.C k24 w A x.f2.length x.f2) :
    Calls Tryd.prog 12 #[xv x A c] w (Out w.heap.size w (.string (bs (writeP x)))) := by
  have hb0 : Below w.heap.size w (w.alloc (.cells #[.string x.f0, .string x.f1, .slice A x.f2.length c] 24)) := (Below.refl _ w).alloc (Nat.le_refl _) _
  have KR := Lib.hid (Right_any x A c (w.alloc (.cells #[.string x.f0, .string x.f1, .slice A x.f2.length c] 24)) hc (Kd.C_below hC hb0))
  have hKH := fun (hr : rightN 100 x = true) (ht : (writeN 100 x []).length ≤ maxT) W (hW : Below w.heap.size w W) => write_any 100 x A c [] W hr hs hc (Kd.C_below hC hW) ht
  have HB := Lib.hid hb0
  obtain ⟨r, hr⟩ : ∃ r, rightN 100 x = r := ⟨_, rfl⟩
  obtain ⟨b, hb⟩ : ∃ b, writeN 100 x [] = b := ⟨_, rfl⟩
  unfold writeP at hT ⊢
  rw [hr, hb] at hT ⊢
  rw [hr] at KR
  rw [hr, hb] at hKH
  have KH := Lib.hid hKH
  clear hKH hb0 hr hb hC hs
  unfold xv at KR KH ⊢
  cases r
  · rw [if_neg (by decide)]
    clear hT
    go_enter Tryd.func12, Tryd.ntmps12
    go_wp2_with fail
    refine KR.out.mono ?_
    rintro e w1 ⟨rfl, hb1⟩
    go_wp2_with fail
    go_ret
    exact ⟨rfl, HB.out.trans (hb1.mono HB.out.size)⟩
  · rw [if_pos rfl] at hT ⊢
    have HT := Lib.hid hT
    clear hT
    go_enter Tryd.func12, Tryd.ntmps12
    go_wp2_with fail
    refine KR.out.mono ?_
    rintro e w1 ⟨rfl, hb1⟩
    have hb1' := HB.out.trans (hb1.mono HB.out.size)
    have c0 := keeps_cell hb1 (show (w.alloc (.cells #[.string x.f0, .string x.f1, .slice A x.f2.length c] 24)).cell? ⟨w.heap.size, 0, none⟩ = some (.string x.f0) by simp [go_sem])
    have c1 := keeps_cell hb1 (show (w.alloc (.cells #[.string x.f0, .string x.f1, .slice A x.f2.length c] 24)).cell? ⟨w.heap.size, 1, none⟩ = some (.string x.f1) by simp [go_sem])
    have c2 := keeps_cell hb1 (show (w.alloc (.cells #[.string x.f0, .string x.f1, .slice A x.f2.length c] 24)).cell? ⟨w.heap.size, 2, none⟩ = some (.slice A x.f2.length c) by simp [go_sem])
    go_wp2_with fail
    refine (KH.out (by trivial) HT.out _ hb1').mono ?_
    rintro e w2 ⟨rfl, hb2⟩
    go_wp2_with fail
    go_ret
    exact ⟨by simp, hb1'.trans (hb2.mono hb1'.size)⟩
end Go.Proofs.YtheiakdlhpccaaaDoor
