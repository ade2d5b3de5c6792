/- Walks through parse of package big. -/
import Derived.Test.YtjfmefdhfboliaaDoorWi
import Derived.Test.YtjfmefdhfboliaaDoorWh
import Derived.Test.YtjfmefdhfboliaaDoorShelf
namespace Go.Proofs.YtjfmefdhfboliaaDoor
open Go.RowKit Go.Shelf Num

theorem cut_minus (l : List UInt8) : Lib.trimPrefix l [45] = (cutMinus l).1 ∧ Lib.hasPrefix l [45] = (cutMinus l).2 := by
  cases l with
  | nil => exact ⟨rfl, rfl⟩
  | cons c l =>
    by_cases h : c = 45
    · subst h
      simp [Lib.trimPrefix, Lib.hasPrefix, cutMinus, List.isPrefixOf]
    · have h' : ¬ 45 = c := fun e => h e.symm
      simp [Lib.trimPrefix, Lib.hasPrefix, cutMinus, List.isPrefixOf, h, h']

/-- What parse gives. -/
def ParseOf (w : World) (l : List UInt8) (e : Ending) (w' : World) : Prop :=
  ∃ vn, e = .returned (.tuple #[vn, .bool (num? l).isSome]) ∧ Rep w' vn ((num? l).getD 0) ∧ Below w.heap.size w w'

theorem rep_zero (w : World) : Rep w (.agg #[.bool false, .slice none 0 0]) 0 := by
  refine ⟨.slice none 0 0, by simp, ?_⟩
  have : (0 : Int).natAbs = 0 := rfl
  rw [this, limbs_zero]; exact Digs.nil w

set_option maxRecDepth 100000 in
set_option maxHeartbeats 2000000 in
theorem parse_any (s : ByteArray) (w : World) : Calls Tryd.prog 36 #[.string s] w (ParseOf w s.data.toList) := by
  obtain ⟨hc1, hc2⟩ := cut_minus s.data.toList
  have HC := Tryd.strings_CutPrefix s ⟨#[45]⟩
  have e45 : (ByteArray.mk #[45]).data.toList = [45] := rfl
  rw [e45, hc1, hc2] at HC
  obtain ⟨l, hl⟩ : ∃ l, (cutMinus s.data.toList).1 = l := ⟨_, rfl⟩
  obtain ⟨b, hb⟩ : ∃ b, (cutMinus s.data.toList).2 = b := ⟨_, rfl⟩
  have hnum : num? s.data.toList = if plainB l = true ∧ l.length ≤ 160 ∧ s.data.toList ≠ [45, 48] then some (if b then -(dv l : Int) else dv l) else none := by rw [num?, hl, hb]
  rw [hl, hb] at HC
  obtain ⟨S, hS⟩ : ∃ S, ByteArray.mk l.toArray = S := ⟨_, rfl⟩
  have hSd : S.data.toList = l := by rw [← hS]
  rw [hS] at HC
  have hPl := plain_any S
  rw [hSd] at hPl
  have hSz : (S.size : Int) = l.length := by rw [← hSd]; rfl
  have HCh := Lib.hid HC
  have HP := Lib.hid hPl
  have HN := Lib.hid hnum
  clear HC hPl hc1 hc2 hl hb e45 hnum
  have hts : s.toList = s.data.toList := ByteArray.toList_eq s
  by_cases hok : plainB l = true ∧ l.length ≤ 160 ∧ s.data.toList ≠ [45, 48]
  · obtain ⟨hP, hlen, h3⟩ := hok
    have hyes : num? s.data.toList = some (if b then -(dv l : Int) else dv l) := by rw [HN.out, if_pos ⟨hP, hlen, h3⟩]
    have HY := Lib.hid hyes
    have hfig := (plainB_canon hP).figs
    have HFig := Lib.hid hfig
    obtain ⟨i0, hi, hz0, hz1, hz2⟩ := info_parts Tryd.info3
    rw [← hts] at h3
    have h2 : ¬ (160 : Int) < S.size := by rw [hSz]; omega
    have HSz : Hid (S.size = l.length) := by have : (S.size : Int) = l.length := hSz; exact (by omega : S.size = l.length)
    have h2b : decide ((160 : Int) < S.size) = false := decide_eq_false h2
    have h3b : (s.toList == [45, 48]) = false := by simpa using h3
    clear hyes hts HN hSz hfig h2 h3
    go_enter Tryd.func36, Tryd.ntmps36
    go_wp2_with (first
        | (go_at_call 56; refine (HCh.out _).mono ?_; rintro e w' ⟨rfl, rfl⟩)
        | (go_at_call 57; refine (HP.out _).mono ?_; rintro e w1 ⟨rfl, hb1⟩; have FW := (Fresh.at w rfl).below hb1))
    go_loopg [4, 7, 8, 10] l.length (fun gk v4 v7 v8 v10 wr => ∃ (m : Nat) (out : List Int) (v : Value) (T : ByteArray), gk = m ∧ v4 = .string T ∧ T.data.toList = l.take m ∧ Num.Read l m out ∧
      wr.cell? ⟨w1.heap.size, 0, none⟩ = some (.bool b) ∧ wr.cell? ⟨w1.heap.size, 1, none⟩ = some v ∧ wr.frozen? ⟨w1.heap.size, 1, none⟩ = false ∧ Box wr w1.heap.size 43 ∧
      wr.ownsRow (w1.heap.size + 1) 3 1 v out.length (out.map (Value.int .i64)) ∧ Below w1.heap.size w1 wr)
    case atStart =>
      exact ⟨l.length, [], .slice none 0 0, S, rfl, rfl, by rw [hSd, List.take_length], Num.Read.start l, by simp [go_sem], by simp [go_sem], by simp [go_sem], Box.new _ _ _, World.ownsRow_nil _ _ _ _, (Below.refl _ _).alloc (Nat.le_refl _) _⟩
    case round =>
      obtain ⟨m, out, v, T, rfl, rfl, hT, hR, r0, r1, r2, r3, r4, r5⟩ := hrel
      have hTl : T.toList = l.take gk := by rw [ByteArray.toList_eq, hT]
      have hTs : T.size = gk := by
        have h1 : T.data.toList.length = T.size := Array.length_toList
        rw [← h1, hT, List.length_take, Nat.min_eq_left hR.1]
      have hgl : gk ≤ 160 := Nat.le_trans hR.1 hlen
      by_cases hm : gk = 0
      · subst hm
        have hTb : T.toList.isEmpty = true := by rw [hTl]; rfl
        obtain ⟨hv, hdg⟩ := Num.Read.done hR
        have hno := r5.trans (.refl _ _)
        have FWr := FW.below (r5.mono (Nat.le_refl _))
        obtain ⟨k1, c1, e1, _⟩ := (Digs.of_own r4).form
        cases e1
        have HD := Lib.hid (Digs.of_own r4)
        obtain ⟨p0, p1, p2, p3, pb⟩ := id FWr
        have HV := Lib.hid hv
        obtain ⟨z, hz⟩ : ∃ z : Int, (if b = true then - ((dv l : Nat) : Int) else ((dv l : Nat) : Int)) = z := ⟨_, rfl⟩
        have HZ := Lib.hid hz
        clear hz
        clear hTl hv r4 hT hTs
        go_wp2_with fail
        refine (trimmed_to b _ _ out z wr hdg (by rw [HV.out, HZ.out]) HD.out).mono ?_
        rintro e w9 ⟨vr, rfl, ⟨sr, rfl, hdr⟩, hb9⟩
        obtain ⟨A9, c9, rfl, _⟩ := hdr.form
        obtain ⟨q0, q1, q2, q3, qb⟩ := FWr.below hb9
        go_wp2_with fail
        obtain ⟨s0, s1, s2⟩ := store2_facts q0 q1 (.bool (decide (z < 0))) (.slice A9 (limbs z.natAbs).length c9)
        refine bodyPost_ret (v := .tuple #[.agg #[.bool (decide (z < 0)), .slice A9 (limbs z.natAbs).length c9], .bool true]) (by simp [results, Tryd.results36, go_sem, s0, s1]) rfl ?_
        have hBw : Below w.heap.size w w9 := ((((Below.refl _ _).alloc (Nat.le_refl _) _).trans (hb1.mono (by simp))).trans (r5.mono (Nat.le_trans (by simp) hb1.size))).trans (hb9.mono (Nat.le_trans (Nat.le_trans (by simp) hb1.size) r5.size))
        refine ⟨.agg #[.bool (decide (z < 0)), .slice A9 (limbs z.natAbs).length c9], by rw [HY.out]; rfl, ?_, below_store2 hBw (Nat.le_refl _) _ _⟩
        rw [HY.out, Option.getD_some, HZ.out]
        exact ⟨_, rfl, hdr.store2 qb _ _⟩
      · have hTb : T.toList.isEmpty = false := by
          rw [hTl]
          cases h : l.take gk with
          | nil =>
            have := congrArg List.length h
            rw [List.length_take, Nat.min_eq_left hR.1] at this
            exact absurd this hm
          | cons => rfl
        obtain ⟨cc, hcc⟩ : ∃ cc, gk - 9 = cc := ⟨_, rfl⟩
        have hmax : max ((gk : Int) - 9) 0 = (cc : Int) := by omega
        have hccl : cc ≤ gk := by omega
        obtain ⟨U, hU⟩ : ∃ U, T.extract cc gk = U := ⟨_, rfl⟩
        have hUd : U.data.toList = (l.take gk).drop cc := by rw [← hU, ByteArray.data_extract, Array.toList_extract, hT, List.extract_eq_take_drop]; exact List.take_of_length_le (by rw [List.length_drop, List.length_take]; omega)
        have HT := Lib.hid (And.intro hTl hUd)
        clear hTl hUd
        have hUs : U.size = gk - cc := by
          have h1 : U.data.toList.length = U.size := Array.length_toList
          rw [← h1, HT.out.2, List.length_drop, List.length_take, Nat.min_eq_left hR.1]
        have hUf : Figs U.data.toList := by rw [HT.out.2]; exact fun c hc => HFig.out c (List.mem_of_mem_take (List.mem_of_mem_drop hc))
        have HR := Lib.hid hR
        have HUF := Lib.hid hUf
        clear hR hUf
        go_wp2_with fail
        go_loopg [8, 10] U.size (fun g2 v8 v10 wi => ∃ pos, pos ≤ U.size ∧ g2 = U.size - pos ∧ v8 = .int .i64 (dv (U.data.toList.take pos) : Nat) ∧ wi = wr.iter U pos)
        case atStart => exact ⟨0, Nat.zero_le _, rfl, by simp [dv_nil], rfl⟩
        case round =>
          obtain ⟨pos, hp, rfl, rfl, rfl⟩ := hrel
          have hdl : dv (U.data.toList.take pos) < 10 ^ pos := by
            have := dv_lt (l := U.data.toList.take pos) (fun c hc => HUF.out c (List.mem_of_mem_take hc))
            have h1 : U.data.toList.length = U.size := Array.length_toList
            rwa [List.length_take, Nat.min_eq_left (by omega)] at this
          have hd9 : dv (U.data.toList.take pos) < 1000000000 := Nat.lt_of_lt_of_le hdl (Nat.le_trans (Nat.pow_le_pow_right (by decide) (show pos ≤ 9 by omega)) (by decide))
          by_cases hlt : pos < U.size
          · have hlt' : pos < U.data.toList.length := by have h1 : U.data.toList.length = U.size := Array.length_toList; omega
            have hgl2 : U.data.toList[pos] = U[pos] := by simp [ByteArray.getElem_eq_getElem_data]
            have hfb := HUF.out _ (List.getElem_mem hlt')
            have hst : dv (U.data.toList.take (pos + 1)) = 10 * dv (U.data.toList.take pos) + ((U[pos]'hlt).toNat - 48) := by rw [List.take_succ_eq_append_getElem hlt', dv_snoc, hgl2]
            rw [hgl2] at hfb
            have hnx : ∀ ty, (Instr.next (.pointer (some ⟨wr.heap.size, 0, none⟩)) true ty).run Tryd.prog (wr.iter U pos) = _ := fun ty => run_next_ascii wr U pos ty hlt (by omega)
            obtain ⟨bt, hbt⟩ : ∃ bt, (U[pos]'hlt).toNat = bt := ⟨_, rfl⟩
            obtain ⟨dd, hdd⟩ : ∃ dd, dv (U.data.toList.take pos) = dd := ⟨_, rfl⟩
            rw [hbt] at hst hnx hfb
            rw [hdd] at hst hd9
            have HST := Lib.hid hst
            have hw1 : wrap32 ((bt : Int) - 48) = (bt : Int) - 48 := by unfold wrap32; omega
            clear hst hdl hgl2 hbt
            go_wp2_with fail
            go_roundg (U.size - (pos + 1))
            case measure => omega
            case rel => exact ⟨pos + 1, by omega, rfl, by rw [HST.out]; go_num, rfl⟩
          · obtain rfl : pos = U.size := by omega
            have hnx : ∀ ty, (Instr.next (.pointer (some ⟨wr.heap.size, 0, none⟩)) true ty).run Tryd.prog (wr.iter U U.size) = _ := fun ty => run_next_end wr U U.size ty hlt
            have hU9 : U.size ≤ 9 := by omega
            have HUs := Lib.hid hUs
            have hUall : U.data.toList.take U.size = U.data.toList := List.take_of_length_le (by have h1 : U.data.toList.length = U.size := Array.length_toList; omega)
            obtain ⟨dd, hdd⟩ : ∃ dd, dv U.data.toList = dd := ⟨_, rfl⟩
            rw [hUall, hdd] at hd9 ⊢
            have HDD := Lib.hid hdd
            have hrz := r5.size
            have hnl : out.length ≤ 1000000 := by have := HR.out.2.2.2.1; omega
            have k0 : (wr.iter U U.size).cell? ⟨w1.heap.size, 0, none⟩ = some (.bool b) := keeps_cell (iter_below wr U U.size) r0
            have k1 : (wr.iter U U.size).cell? ⟨w1.heap.size, 1, none⟩ = some v := keeps_cell (iter_below wr U U.size) r1
            have k2 : (wr.iter U U.size).frozen? ⟨w1.heap.size, 1, none⟩ = false := keeps_free (iter_below wr U U.size) r1 r2
            have k3 : Box (wr.iter U U.size) w1.heap.size 43 := r3.below (iter_below wr U U.size)
            have k4 : (wr.iter U U.size).ownsRow (w1.heap.size + 1) 3 1 v out.length (out.map (Value.int .i64)) := ownsRow_below r4 (iter_below wr U U.size) (fun k hk => (r4.lt k hk).2)
            have k5 : Below w1.heap.size w1 (wr.iter U U.size) := r5.trans ((iter_below wr U U.size).mono hrz)
            obtain ⟨wi, hwi⟩ : ∃ wi, wr.iter U U.size = wi := ⟨_, rfl⟩
            rw [hwi] at k0 k1 k2 k3 k4 k5 hnx ⊢
            have hzi : w1.heap.size < wi.heap.size := k3.lt
            clear hwi r0 r1 r2 r3 r4 r5 hUs hdl hUall hdd hlt
            go_wp2_with (at_builtin; refine wpList_append_own _ rfl _ _ 41 rfl (w1.heap.size + 1) 3 i0 (.int .i64 0) 1 8 Tryd.underlying41 hi hz0 hz1 hz2 rfl (by decide) _ _ _ rfl (k4.alloc _) ⟨wi.heap.size, 0, none⟩ 1 1 [.int .i64 dd] rfl rfl (cell_one_new _ _ _) (by simp [Value.oneCell']) (by unfold maxLen; omega) (by omega) (by simp; omega) ?_; intro v' w2 hown' hgrow _; obtain ⟨g', cp', rfl⟩ := ownsRow_succ hown'; have hbx : Below (w1.heap.size + 1) wi w2 := ((Below.refl _ _).alloc (by omega) _).grown hgrow (by simp; omega) (fun j e => (k4.lt j e).1); have j0 := (hbx.cell (p := ⟨w1.heap.size, 0, none⟩) (Nat.lt_succ_self _)).trans k0; have j1 := (hbx.cell (p := ⟨w1.heap.size, 1, none⟩) (Nat.lt_succ_self _)).trans k1; have j2 := (hbx.frozen (p := ⟨w1.heap.size, 1, none⟩) (Nat.lt_succ_self _)).trans k2; have j3 := k3.keep hbx (Nat.lt_succ_self _))
            go_roundg cc
            case measure => omega
            case rel =>
              have hTd : (T.extract 0 cc).data.toList = l.take cc := by
                rw [ByteArray.data_extract, Array.toList_extract, hT, List.extract_eq_take_drop, List.drop_zero, List.take_take]
                congr 1; omega
              have hread := Num.Read.step HFig.out HR.out (by omega)
              rw [hcc, ← HT.out.2, HDD.out] at hread
              refine ⟨cc, out ++ [(dd : Int)], .slice (some ⟨g', 0, none⟩) (out.length + 1) cp', T.extract 0 cc, rfl, rfl, hTd, hread, ?_, World.cell?_setCell_same' _ _ _ (by rw [j1]; rfl), by rw [World.frozen?_setCell]; exact j2, j3.setCell _ _, ?_, (k5.trans (hbx.mono (Nat.le_succ _))).setCell (p := ⟨w1.heap.size, 1, none⟩) (Nat.le_refl _) _⟩
              · rw [World.cell?_setCell_other _ _ _ _ (by simp)]; exact j0
              · have hk := (hown'.lt g' rfl).1
                rw [List.length_append, List.length_singleton, List.map_append]
                exact ownsRow_setCell_other hown' (fun e => by simp [Value.ownBlock] at e; omega) _
  · have hno : num? s.data.toList = none := by rw [HN.out, if_neg hok]
    have HNO := Lib.hid hno
    have fin : ∀ w1, Below w.heap.size w w1 → Fresh w.heap.size w1 → ParseOf w s.data.toList (.returned (.tuple #[.agg #[.bool false, .slice none 0 0], .bool false])) ((w1.setCell ⟨w.heap.size, 0, none⟩ (.bool false)).setCell ⟨w.heap.size, 1, none⟩ (.slice none 0 0)) := fun w1 hb1 hf => by
      refine ⟨_, by rw [HNO.out]; rfl, by rw [HNO.out]; exact rep_zero _, below_store2 hb1 (Nat.le_refl _) _ _⟩
    have hbad : plainB l = false ∨ (plainB l = true ∧ (160 : Int) < l.length) ∨ (plainB l = true ∧ ¬ (160 : Int) < l.length ∧ s.toList = [45, 48]) := by
      rw [hts]
      cases h1 : plainB l
      · exact .inl rfl
      · by_cases h2 : l.length ≤ 160
        · exact .inr (.inr ⟨rfl, by omega, Classical.byContradiction fun h3 => hok ⟨h1, h2, h3⟩⟩)
        · exact .inr (.inl ⟨rfl, by omega⟩)
    have HF := Lib.hid fin
    clear fin hno hok hts hSd HN
    rw [← hSz] at hbad
    clear hSz
    go_enter Tryd.func36, Tryd.ntmps36
    rcases hbad with h1 | ⟨h1, h2⟩ | ⟨h1, h2, h3⟩
    all_goals
      go_wp2_with (first
        | (go_at_call 56; refine (HCh.out _).mono ?_; rintro e w' ⟨rfl, rfl⟩)
        | (go_at_call 57; refine (HP.out _).mono ?_; rintro e w1 ⟨rfl, hb1⟩; have FW := (Fresh.at w rfl).below hb1; obtain ⟨p0, p1, p2, p3, pb⟩ := id FW))
      obtain ⟨s0, s1, s2⟩ := store2_facts p0 p1 (.bool false) (.slice none 0 0)
      refine bodyPost_ret (v := .tuple #[.agg #[.bool false, .slice none 0 0], .bool false]) (by simp [results, Tryd.results36, go_sem, s0, s1]) rfl ?_
      exact HF.out w1 (((Below.refl _ _).alloc (Nat.le_refl _) _).trans (hb1.mono (by simp))) FW

end Go.Proofs.YtjfmefdhfboliaaDoor
