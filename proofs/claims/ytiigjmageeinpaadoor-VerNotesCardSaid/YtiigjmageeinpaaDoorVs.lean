/- Walk of VerNotes: notes and blank lines around a text. -/
import Derived.Test.YtiigjmageeinpaaDoorVr
namespace Go.Proofs.YtiigjmageeinpaaDoor
open Go.RowKit Go.Shelf

set_option maxRecDepth 100000 in
set_option maxHeartbeats 2000000 in
theorem VerNotes_walk (l : List UInt8) (v : Value) (s : ByteArray) (w : World) (hG : Good w) (hb : Byt w v l) : Calls Tryd.prog 4 #[v, .string s] w (Yes w) := by
  obtain ⟨a, c, rfl⟩ := hb.len
  have hsz : s.data.toList.length = s.size := Array.length_toList
  by_cases hl : (500 : Int) < (l.length : Int)
  · go_enter Tryd.func4, Tryd.ntmps4
    go_wp2_with fail
    go_ret
    exact ⟨rfl, Below.refl _ _⟩
  · by_cases hs : (50 : Int) < (s.size : Int)
    · go_enter Tryd.func4, Tryd.ntmps4
      go_wp2_with fail
      go_ret
      exact ⟨rfl, Below.refl _ _⟩
    · have hl' : l.length ≤ 500 := by omega
      have hs' : s.size ≤ 50 := by omega
      obtain ⟨⟨p, mi, e⟩, hr⟩ : ∃ r, readP l = r := ⟨_, rfl⟩
      have HR := Lib.hid hr
      have KA := Lib.hid (awake_any hG)
      have HB := Lib.hid hb
      clear hr
      go_enter Tryd.func4, Tryd.ntmps4
      go_wp2_with fail
      go_loopg [5] s.size (fun gk iv wr => ∃ i : Nat, i ≤ s.size ∧ gk = s.size - i ∧ iv = .int .i64 i ∧ wr = w ∧ ∀ x ∈ s.data.toList.take i, x ≠ 10)
      case atStart => exact ⟨0, Nat.zero_le _, rfl, rfl, rfl, by simp⟩
      case round =>
        obtain ⟨i, hi, rfl, rfl, rfl, hno⟩ := hrel
        have HN := Lib.hid hno
        clear hno
        by_cases hlt : i < s.size
        · have hlt2 : (i : Int) < (s.size : Int) := by omega
          have hgl : s.data.toList.take (i + 1) = s.data.toList.take i ++ [s[i]'hlt] := by
            rw [List.take_succ_eq_append_getElem (by omega)]
            simp [ByteArray.getElem_eq_getElem_data]
          by_cases h10 : ((s[i]'hlt).toNat : Int) = 10
          · clear hgl
            go_wp2_with fail
            go_ret
            exact ⟨rfl, Below.refl _ _⟩
          · have hn : ∀ x ∈ s.data.toList.take (i + 1), x ≠ 10 := by
              intro x hx
              rw [hgl] at hx
              rcases List.mem_append.1 hx with hx | hx
              · exact HN.out x hx
              · rw [List.mem_singleton] at hx
                subst hx
                intro h
                rw [h] at h10
                exact h10 rfl
            have HN2 := Lib.hid hn
            clear hn hgl
            go_wp2_with fail
            go_roundg (s.size - (i + 1))
            case measure => omega
            case rel => exact ⟨i + 1, by omega, rfl, by simp, rfl, HN2.out⟩
        · obtain rfl : i = s.size := by omega
          have hno := HN.out
          rw [← hsz, List.take_length] at hno
          have K1 := Lib.hid (fun v W (hb : Below wr.heap.size wr W) => Read_bs l v (hG.below hb) HR.out W (Below.refl _ _))
          have K2 := Lib.hid (fun v W (hb : Below wr.heap.size wr W) => Read_bs (noted l s.data.toList) v (hG.below hb) ((readP_notes l _ hl' (by omega) hno).trans HR.out) W (Below.refl _ _))
          clear hno HN
          go_wp2_with fail
          refine (K1.out _ _ (Below.refl _ _) HB.out).mono ?_
          rintro e1 w1 ⟨rfl, hb1⟩
          have hw2 := hb1.alloc hb1.size (.cells #[.string (bs p), .int .i64 mi] 24)
          have kc2 := (HB.out.below hw2).conv
          obtain ⟨tx, htx⟩ : ∃ tx, (⟨#[47, 47, 32]⟩ : ByteArray) ++ s ++ ⟨#[10, 10, 32, 9, 13, 10]⟩ ++ bs l ++ ⟨#[10, 47, 47]⟩ ++ s = tx := ⟨_, rfl⟩
          have etx : tx = bs (noted l s.data.toList) := by
            rw [← htx]
            conv => lhs; rw [bs_of s]
            show bs [47, 47, 32] ++ bs s.data.toList ++ bs [10, 10, 32, 9, 13, 10] ++ bs l ++ bs [10, 47, 47] ++ bs s.data.toList = _
            rw [bs_append, bs_append, bs_append, bs_append, bs_append]
            rfl
          have zl : (bs l).size = l.length := by rw [size_list, bs_list]
          have z1 : ¬ (9223372036854775807 < 3 + s.size) := by omega
          have z2 : ¬ (9223372036854775807 < 3 + s.size + 6) := by omega
          have z3 : ¬ (9223372036854775807 < 3 + s.size + 6 + (bs l).size) := by omega
          have z4 : ¬ (9223372036854775807 < 3 + s.size + 6 + (bs l).size + 3) := by omega
          have z5 : ¬ (9223372036854775807 < 3 + s.size + 6 + (bs l).size + 3 + s.size) := by omega
          have EX := Lib.hid etx
          have HW2 := Lib.hid hw2
          clear zl etx hw2
          have ks := fun (W : World) (s : ByteArray) => Lib.run_convert_string_bytes (P := Tryd.prog) W 9 22 5 s Tryd.underlying9 Tryd.underlying22 Tryd.underlying5
          go_wp2_with fail
          have hb2 := HW2.out.trans ((Lib.bytesWorld_below _ 5 tx).mono HW2.out.size)
          refine (K2.out _ _ hb2 (byt_text _ EX.out _ (by simp only [World.size_alloc]))).mono ?_
          rintro e3 w3 ⟨rfl, hb3⟩
          have c0 : (Lib.bytesWorld (w1.alloc (.cells #[.string (bs p), .int .i64 mi] 24)) 5 tx).cell? ⟨w1.heap.size, 0, none⟩ = some (.string (bs p)) := keeps_cell (Lib.bytesWorld_below _ 5 tx) (by simp [go_sem])
          have c1 : (Lib.bytesWorld (w1.alloc (.cells #[.string (bs p), .int .i64 mi] 24)) 5 tx).cell? ⟨w1.heap.size, 1, none⟩ = some (.int .i64 mi) := keeps_cell (Lib.bytesWorld_below _ 5 tx) (by simp [go_sem])
          have hb3' := hb2.trans (hb3.mono hb2.size)
          have d0 := keeps_cell hb3 c0
          have d1 := keeps_cell hb3 c1
          have hw4 := hb3'.alloc hb3'.size (.cells #[.string (bs p), .int .i64 mi] 24)
          have ha4 : Below w3.heap.size w3 (w3.alloc (.cells #[.string (bs p), .int .i64 mi] 24)) := (Below.refl _ w3).alloc (Nat.le_refl _) _
          have x0 : (w3.alloc (.cells #[.string (bs p), .int .i64 mi] 24)).cell? ⟨w3.heap.size, 0, none⟩ = some (.string (bs p)) := by simp [go_sem]
          have x1 : (w3.alloc (.cells #[.string (bs p), .int .i64 mi] 24)).cell? ⟨w3.heap.size, 1, none⟩ = some (.int .i64 mi) := by simp [go_sem]
          have d0' := keeps_cell ha4 d0
          have d1' := keeps_cell ha4 d1
          have HW4 := Lib.hid hw4
          clear c0 c1 d0 d1 kc2 hb2 hw4 ha4
          go_wp2_with fail
          refine (KA.out _ HW4.out).mono ?_
          rintro e6 w6 ⟨rfl, hb6⟩
          go_wp2_with fail
          go_ret
          exact ⟨rfl, hb6⟩

end Go.Proofs.YtiigjmageeinpaaDoor
