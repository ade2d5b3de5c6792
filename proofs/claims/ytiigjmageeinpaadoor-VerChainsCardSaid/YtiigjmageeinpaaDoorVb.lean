/- Walks: all, at the two signs that it is asked for. -/
import Derived.Test.YtiigjmageeinpaaDoorVa
namespace Go.Proofs.YtiigjmageeinpaaDoor
open Go.RowKit

theorem iter_below (w : World) (s : ByteArray) (pos : Nat) : Below w.heap.size w (w.iter s pos) := (Below.refl _ _).alloc (Nat.le_refl _) _

theorem all_take_succ {l : List UInt8} {k : Nat} (hk : k < l.length) (p : UInt8 → Bool) : (l.take (k + 1)).all p = ((l.take k).all p && p l[k]) := by
  rw [List.take_succ_eq_append_getElem hk, List.all_append]; simp
theorem not_all_of {l : List UInt8} {k : Nat} (hk : k < l.length) {p : UInt8 → Bool} (h : p l[k] = false) : l.all p = false := by
  apply Bool.eq_false_iff.2
  intro e
  have := List.all_eq_true.1 e _ (List.getElem_mem hk)
  rw [h] at this; cases this
theorem allB_not {p : Nat → Bool} {l : List UInt8} (h : l.all (fun c => p c.toNat) = false) : allB p l = false := by unfold allB; rw [h, Bool.false_and]

set_option maxRecDepth 100000 in
set_option maxHeartbeats 1000000 in
theorem all_fig (s : ByteArray) (w : World) :
    Calls Tryd.prog 25 #[.string s, .func (.func 23) #[] #[]] w fun e w' => e = .returned (.bool (allB figN s.data.toList)) ∧ Below w.heap.size w w' := by
  have hsz : s.data.toList.length = s.size := Array.length_toList
  have HF := Lib.hid figure_any
  go_enter Tryd.func25, Tryd.ntmps25
  go_wp2
  go_loopg [] s.size (fun gk wr => ∃ pos, pos ≤ s.size ∧ gk = s.size - pos ∧ wr = w.iter s pos ∧ (s.data.toList.take pos).all (fun c => figN c.toNat) = true)
  case atStart => exact ⟨0, Nat.zero_le _, rfl, rfl, by simp⟩
  case round =>
    obtain ⟨pos, hp, rfl, rfl, hall⟩ := hrel
    by_cases hlt : pos < s.size
    · have hlt' : pos < s.data.toList.length := by omega
      have hgl : s.data.toList[pos] = s[pos] := by simp [ByteArray.getElem_eq_getElem_data]
      have hnx : ∀ ty, (Instr.next (.pointer (some ⟨w.heap.size, 0, none⟩)) true ty).run Tryd.prog (w.iter s pos) = _ := fun ty => run_next_any w s pos ty hlt
      by_cases ha : (s[pos]'hlt).toNat < 128
      · rw [decode_ascii s pos hlt ha] at hnx
        obtain ⟨b, hb⟩ : ∃ b, s[pos]'hlt = b := ⟨_, rfl⟩
        rw [hb] at hnx ha hgl
        obtain ⟨q, hq⟩ : ∃ q, figN b.toNat = q := ⟨_, rfl⟩
        have HB := Lib.hid (fun W => HF.out b.toNat W)
        rw [hq] at HB
        cases q
        · have hf : allB figN s.data.toList = false := allB_not (not_all_of hlt' (by rw [hgl]; exact hq))
          have H := Lib.hid hf
          clear hall hgl hf hq
          go_wp2_with (go_at_call 23; refine (HB.out _).mono ?_; rintro e w' ⟨rfl, rfl⟩)
          go_ret
          exact ⟨by rw [H.out]; rfl, iter_below _ _ _⟩
        · have hn : (s.data.toList.take (pos + 1)).all (fun c => figN c.toNat) = true := by rw [all_take_succ hlt', hall, hgl, hq]; rfl
          have H := Lib.hid hn
          clear hall hgl hn hq
          go_wp2_with (go_at_call 23; refine (HB.out _).mono ?_; rintro e w' ⟨rfl, rfl⟩)
          go_roundg (s.size - (pos + 1))
          case measure => omega
          case rel => exact ⟨pos + 1, by omega, rfl, rfl, H.out⟩
      · have hh := decode_high s pos hlt (by omega)
        have hle := decode_le s pos
        have hf : allB figN s.data.toList = false := allB_not (not_all_of hlt' (by
          rw [hgl]
          cases e : figN (s[pos]'hlt).toNat with
          | false => rfl
          | true => exact absurd (figN_low e) ha))
        have H := Lib.hid hf
        obtain ⟨r, hr⟩ : ∃ r, (Utf8.decode s pos).1 = r := ⟨_, rfl⟩
        rw [hr] at hnx hh hle
        have hq : figN r = false := by
          cases e : figN r with
          | false => rfl
          | true => have := figN_low e; omega
        have HB := Lib.hid (fun W => HF.out r W)
        rw [hq] at HB
        clear hall hgl hf hh hq
        go_wp2_with (go_at_call 23; refine (HB.out _).mono ?_; rintro e w' ⟨rfl, rfl⟩)
        go_ret
        exact ⟨by rw [H.out]; rfl, iter_below _ _ _⟩
    · obtain rfl : pos = s.size := by omega
      have hnx : ∀ ty, (Instr.next (.pointer (some ⟨w.heap.size, 0, none⟩)) true ty).run Tryd.prog (w.iter s s.size) = _ := fun ty => run_next_end w s s.size ty hlt
      rw [← hsz, List.take_length] at hall
      have hd : s.toList = s.data.toList := ByteArray.toList_eq s
      have hv : allB figN s.data.toList = !s.toList.isEmpty := by unfold allB; rw [hall, hd, Bool.true_and]
      have H := Lib.hid hv
      clear hall hsz hd hv
      obtain ⟨i, hi⟩ : ∃ i, s.toList.isEmpty = i := ⟨_, rfl⟩
      rw [hi] at H
      have hne : (s.toList == []) = i := by rw [← hi]; cases s.toList <;> rfl
      cases i
      · go_wp2
        refine bodyPost_ret (v := .bool true) (by simp [results, Tryd.results25, go_sem]) rfl ⟨by rw [H.out]; rfl, iter_below _ _ _⟩
      · go_wp2
        refine bodyPost_ret (v := .bool false) (by simp [results, Tryd.results25, go_sem]) rfl ⟨by rw [H.out]; rfl, iter_below _ _ _⟩

set_option maxRecDepth 100000 in
set_option maxHeartbeats 1000000 in
theorem all_path (s : ByteArray) (w : World) :
    Calls Tryd.prog 25 #[.string s, .func (.func 22) #[] #[]] w fun e w' => e = .returned (.bool (allB pathN s.data.toList)) ∧ Below w.heap.size w w' := by
  have hsz : s.data.toList.length = s.size := Array.length_toList
  have HF := Lib.hid sign_any
  go_enter Tryd.func25, Tryd.ntmps25
  go_wp2
  go_loopg [] s.size (fun gk wr => ∃ pos, pos ≤ s.size ∧ gk = s.size - pos ∧ wr = w.iter s pos ∧ (s.data.toList.take pos).all (fun c => pathN c.toNat) = true)
  case atStart => exact ⟨0, Nat.zero_le _, rfl, rfl, by simp⟩
  case round =>
    obtain ⟨pos, hp, rfl, rfl, hall⟩ := hrel
    by_cases hlt : pos < s.size
    · have hlt' : pos < s.data.toList.length := by omega
      have hgl : s.data.toList[pos] = s[pos] := by simp [ByteArray.getElem_eq_getElem_data]
      have hnx : ∀ ty, (Instr.next (.pointer (some ⟨w.heap.size, 0, none⟩)) true ty).run Tryd.prog (w.iter s pos) = _ := fun ty => run_next_any w s pos ty hlt
      by_cases ha : (s[pos]'hlt).toNat < 128
      · rw [decode_ascii s pos hlt ha] at hnx
        obtain ⟨b, hb⟩ : ∃ b, s[pos]'hlt = b := ⟨_, rfl⟩
        rw [hb] at hnx ha hgl
        obtain ⟨q, hq⟩ : ∃ q, pathN b.toNat = q := ⟨_, rfl⟩
        have HB := Lib.hid (fun W => HF.out b.toNat W)
        rw [hq] at HB
        cases q
        · have hf : allB pathN s.data.toList = false := allB_not (not_all_of hlt' (by rw [hgl]; exact hq))
          have H := Lib.hid hf
          clear hall hgl hf hq
          go_wp2_with (go_at_call 22; refine (HB.out _).mono ?_; rintro e w' ⟨rfl, rfl⟩)
          go_ret
          exact ⟨by rw [H.out]; rfl, iter_below _ _ _⟩
        · have hn : (s.data.toList.take (pos + 1)).all (fun c => pathN c.toNat) = true := by rw [all_take_succ hlt', hall, hgl, hq]; rfl
          have H := Lib.hid hn
          clear hall hgl hn hq
          go_wp2_with (go_at_call 22; refine (HB.out _).mono ?_; rintro e w' ⟨rfl, rfl⟩)
          go_roundg (s.size - (pos + 1))
          case measure => omega
          case rel => exact ⟨pos + 1, by omega, rfl, rfl, H.out⟩
      · have hh := decode_high s pos hlt (by omega)
        have hle := decode_le s pos
        have hf : allB pathN s.data.toList = false := allB_not (not_all_of hlt' (by
          rw [hgl]
          cases e : pathN (s[pos]'hlt).toNat with
          | false => rfl
          | true => exact absurd (pathN_low e) ha))
        have H := Lib.hid hf
        obtain ⟨r, hr⟩ : ∃ r, (Utf8.decode s pos).1 = r := ⟨_, rfl⟩
        rw [hr] at hnx hh hle
        have hq : pathN r = false := by
          cases e : pathN r with
          | false => rfl
          | true => have := pathN_low e; omega
        have HB := Lib.hid (fun W => HF.out r W)
        rw [hq] at HB
        clear hall hgl hf hh hq
        go_wp2_with (go_at_call 22; refine (HB.out _).mono ?_; rintro e w' ⟨rfl, rfl⟩)
        go_ret
        exact ⟨by rw [H.out]; rfl, iter_below _ _ _⟩
    · obtain rfl : pos = s.size := by omega
      have hnx : ∀ ty, (Instr.next (.pointer (some ⟨w.heap.size, 0, none⟩)) true ty).run Tryd.prog (w.iter s s.size) = _ := fun ty => run_next_end w s s.size ty hlt
      rw [← hsz, List.take_length] at hall
      have hd : s.toList = s.data.toList := ByteArray.toList_eq s
      have hv : allB pathN s.data.toList = !s.toList.isEmpty := by unfold allB; rw [hall, hd, Bool.true_and]
      have H := Lib.hid hv
      clear hall hsz hd hv
      obtain ⟨i, hi⟩ : ∃ i, s.toList.isEmpty = i := ⟨_, rfl⟩
      rw [hi] at H
      have hne : (s.toList == []) = i := by rw [← hi]; cases s.toList <;> rfl
      cases i
      · go_wp2
        refine bodyPost_ret (v := .bool true) (by simp [results, Tryd.results25, go_sem]) rfl ⟨by rw [H.out]; rfl, iter_below _ _ _⟩
      · go_wp2
        refine bodyPost_ret (v := .bool false) (by simp [results, Tryd.results25, go_sem]) rfl ⟨by rw [H.out]; rfl, iter_below _ _ _⟩

end Go.Proofs.YtiigjmageeinpaaDoor
