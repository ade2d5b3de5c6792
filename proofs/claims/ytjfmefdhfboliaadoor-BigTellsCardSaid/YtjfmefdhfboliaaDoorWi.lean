/- Walks through lit.Plain and parse of package big. -/
import Derived.Test.YtjfmefdhfboliaaDoorWg
import Derived.Laws.RangeAny
namespace Go.Proofs.YtjfmefdhfboliaaDoor
open Go.RowKit Go.Shelf Num

theorem iter_below (w : World) (s : ByteArray) (pos : Nat) : Below w.heap.size w (w.iter s pos) := (Below.refl _ _).alloc (Nat.le_refl _) _

theorem all_take_succ {l : List UInt8} {k : Nat} (hk : k < l.length) (p : UInt8 → Bool) : (l.take (k + 1)).all p = ((l.take k).all p && p l[k]) := by
  rw [List.take_succ_eq_append_getElem hk, List.all_append]; simp

theorem not_all_of {l : List UInt8} {k : Nat} (hk : k < l.length) {p : UInt8 → Bool} (h : p l[k] = false) : l.all p = false := by
  rw [List.all_eq_false]; exact ⟨_, List.getElem_mem hk, by simp [h]⟩

theorem plainB_not {l : List UInt8} (h : l.all figB = false) : plainB l = false := by rw [plainB, h, Bool.false_and]

theorem figB_iff (c : UInt8) : figB c = decide (48 ≤ c.toNat ∧ c.toNat ≤ 57) := rfl

set_option maxRecDepth 100000 in
set_option maxHeartbeats 1000000 in
theorem plain_any (s : ByteArray) (w : World) :
    Calls Tryd.prog 57 #[.string s] w fun e w' => e = .returned (.bool (plainB s.data.toList)) ∧ Below w.heap.size w w' := by
  have hsz : s.data.toList.length = s.size := Array.length_toList
  go_enter Tryd.func57, Tryd.ntmps57
  go_wp2
  go_loopg [4] s.size (fun gk c wr => ∃ pos, pos ≤ s.size ∧ gk = s.size - pos ∧ wr = w.iter s pos ∧ (s.data.toList.take pos).all figB = true)
  case atStart => exact ⟨0, Nat.zero_le _, rfl, rfl, by simp⟩
  case round =>
    obtain ⟨pos, hp, rfl, rfl, hall⟩ := hrel
    by_cases hlt : pos < s.size
    · have hlt' : pos < s.data.toList.length := by omega
      have hgl : s.data.toList[pos] = s[pos] := by simp [ByteArray.getElem_eq_getElem_data]
      have hnx : ∀ ty, (Instr.next (.pointer (some ⟨w.heap.size, 0, none⟩)) true ty).run Tryd.prog (w.iter s pos) = _ := fun ty => run_next_any w s pos ty hlt
      by_cases ha : (s[pos]'hlt).toNat < 128
      · rw [decode_ascii s pos hlt ha] at hnx
        obtain ⟨b, hb⟩ : ∃ b, s[pos]'hlt = b := ⟨_, rfl⟩
        rw [hb] at hnx ha hgl
        by_cases h1 : (b.toNat : Int) < 48
        · have hf : plainB s.data.toList = false := plainB_not (not_all_of hlt' (by rw [hgl]; simp [figB]; omega))
          have H := Lib.hid hf
          clear hall hgl hf
          go_wp2
          go_ret
          exact ⟨by rw [H.out]; rfl, iter_below _ _ _⟩
        by_cases h2 : (57 : Int) < b.toNat
        · have hf : plainB s.data.toList = false := plainB_not (not_all_of hlt' (by rw [hgl]; simp [figB]; omega))
          have H := Lib.hid hf
          clear hall hgl hf
          go_wp2
          go_ret
          exact ⟨by rw [H.out]; rfl, iter_below _ _ _⟩
        · have hn : (s.data.toList.take (pos + 1)).all figB = true := by rw [all_take_succ hlt', hall, hgl]; simp [figB]; omega
          have H := Lib.hid hn
          clear hall hgl hn
          go_wp2
          go_roundg (s.size - (pos + 1))
          case measure => omega
          case rel => exact ⟨pos + 1, by omega, rfl, rfl, H.out⟩
      · have hh := decode_high s pos hlt (by omega)
        have hle := decode_le s pos
        have hf : plainB s.data.toList = false := plainB_not (not_all_of hlt' (by rw [hgl]; simp [figB]; omega))
        have H := Lib.hid hf
        obtain ⟨r, hr⟩ : ∃ r, (Utf8.decode s pos).1 = r := ⟨_, rfl⟩
        rw [hr] at hnx hh hle
        have hh1 : (128 : Int) ≤ r := by omega
        have hh2 : ¬ (r : Int) < 48 := by omega
        have hh3 : (57 : Int) < r := by omega
        clear hall hgl hf hh
        go_wp2
        go_ret
        exact ⟨by rw [H.out]; rfl, iter_below _ _ _⟩
    · obtain rfl : pos = s.size := by omega
      have hnx : ∀ ty, (Instr.next (.pointer (some ⟨w.heap.size, 0, none⟩)) true ty).run Tryd.prog (w.iter s s.size) = _ := fun ty => run_next_end w s s.size ty hlt
      rw [← hsz, List.take_length] at hall
      have hd : s.toList = s.data.toList := ByteArray.toList_eq s
      by_cases e0 : s.toList = [48]
      · have hf : plainB s.data.toList = true := by rw [← hd, e0]; rfl
        have H := Lib.hid hf
        clear hf hall hsz hd
        go_wp2
        refine bodyPost_ret (v := .bool true) (by simp [results, Tryd.results57, go_sem]) rfl ⟨by rw [H.out], iter_below _ _ _⟩
      by_cases e1 : s.toList = []
      · have hf : plainB s.data.toList = false := by rw [← hd, e1]; rfl
        have H := Lib.hid hf
        clear hf hall hsz hd
        go_wp2
        refine bodyPost_ret (v := .bool false) (by simp [results, Tryd.results57, go_sem]) rfl ⟨by rw [H.out], iter_below _ _ _⟩
      have hne : ¬ s.data = #[] := fun e => e1 (by rw [hd, e])
      have hpos : 0 < s.size := by rw [← hsz]; exact List.length_pos_iff.2 (by rw [← hd]; exact e1)
      have hv : plainB s.data.toList = (decide ((s.size : Int) ≤ 200) && !(((s[0]'hpos).toNat : Int) == 48)) := by
        have hh : s.data.toList.head? = some (s[0]'hpos) := by
          rw [List.head?_eq_getElem?, List.getElem?_eq_getElem (by omega)]; simp [ByteArray.getElem_eq_getElem_data]
        have he : s.data.toList.isEmpty = false := by
          cases h : s.data.toList with
          | nil => rw [hd, h] at e1; exact absurd rfl e1
          | cons => rfl
        have h0 : (s.data.toList == [48]) = false := by rw [← hd]; simpa using e0
        rw [plainB, hall, hh, he, h0, hsz]
        simp only [Bool.true_and, Bool.false_or, Bool.not_false]
        congr 1
        · rw [decide_eq_decide]; omega
        · congr 1
          have : (some (s[0]'hpos) == some (48 : UInt8)) = ((s[0]'hpos) == 48) := rfl
          rw [this, Bool.eq_iff_iff, beq_iff_eq, beq_iff_eq, ← UInt8.toNat_inj]
          show (s[0]'hpos).toNat = 48 ↔ _
          omega
      have H := Lib.hid hv
      clear hv hall hsz hd hne
      have e0' : (s.toList == [48]) = false := by simpa using e0
      have e1' : s.toList.isEmpty = false := by simpa using e1
      by_cases e2 : (s.size : Int) ≤ 200
      · go_wp2
        refine bodyPost_ret (v := .bool (!(((s[0]'hpos).toNat : Int) == 48))) (by simp [results, Tryd.results57, go_sem, bne]) rfl ⟨by rw [H.out, decide_eq_true e2, Bool.true_and], iter_below _ _ _⟩
      · go_wp2
        refine bodyPost_ret (v := .bool false) (by simp [results, Tryd.results57, go_sem]) rfl ⟨by rw [H.out, decide_eq_false (by omega), Bool.false_and], iter_below _ _ _⟩

end Go.Proofs.YtjfmefdhfboliaaDoor
