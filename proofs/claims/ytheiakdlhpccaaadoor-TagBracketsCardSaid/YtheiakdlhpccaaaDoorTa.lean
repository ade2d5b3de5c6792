/- Walks of package tag: may, tagged; what the walks ask of the package-level variables. -/
import Derived.Test.YtheiakdlhpccaaaDoorRa
import Derived.Test.YtheiakdlhpccaaaDoorShelf
import Derived.WalkKit
import Derived.WalkSpells
import Derived.WalkLawsBesides
import Derived.Deep.LoopGhost
import Derived.Lib.Hide
import Derived.Lib.LaidTab
import Derived.Lib.ItoaNum
import Derived.Lib.IndexMore
import Derived.Lib.AtoiAllCases
import Derived.Lib.AtoiErrMem
import Derived.Laws.RangeAny
import Derived.Laws.OwnMore
import Derived.Deep.AppendLies
import Derived.Deep.DeepCutAuto
import Derived.Deep.CutBlock
namespace Go.Proofs.YtheiakdlhpccaaaDoor
open Go.RowKit Go.Shelf
open Go.Lib (decDigits nDigits decDigits_length itoa atoiAll)

/-- May a sign stand in a tag? -/
def mayN (x : Nat) : Bool := decide (97 ≤ x ∧ x ≤ 122) || decide (65 ≤ x ∧ x ≤ 90) || decide (48 ≤ x ∧ x ≤ 57) || decide (x = 95) || decide (x = 46)
theorem mayN_low {x : Nat} (h : mayN x = true) : x < 128 := by simp [mayN] at h; omega
/-- Signs, each of them so. -/
def allB (p : Nat → Bool) (l : List UInt8) : Bool := l.all (fun c => p c.toNat) && !l.isEmpty

theorem may_any (x : Nat) (w : World) : Calls Tryd.prog 49 #[.int .i32 x] w fun e w' => e = .returned (.bool (mayN x)) ∧ w' = w := by
  have hp : mayN x = (decide (97 ≤ (x : Int) ∧ (x : Int) ≤ 122) || decide (65 ≤ (x : Int) ∧ (x : Int) ≤ 90) || decide (48 ≤ (x : Int) ∧ (x : Int) ≤ 57) || decide ((x : Int) = 95) || decide ((x : Int) = 46)) := by
    rw [mayN]
    congr 1
    · congr 1
      · congr 1
        · congr 1
          · exact decide_eq_decide.2 (by omega)
          · exact decide_eq_decide.2 (by omega)
        · exact decide_eq_decide.2 (by omega)
      · exact decide_eq_decide.2 (by omega)
    · exact decide_eq_decide.2 (by omega)
  have HP := Lib.hid hp
  clear hp
  go_enter Tryd.func49, Tryd.ntmps49
  go_wp2_with fail
  all_goals go_ret
  all_goals
    refine ⟨?_, rfl⟩
    rw [HP.out]
    refine congrArg Ending.returned (congrArg Value.bool ?_)
    rw [Bool.eq_iff_iff]
    clear HP
    simp only [Bool.or_eq_true, decide_eq_true_eq, beq_iff_eq]
    try simp only [*]
    try simp
    try omega

theorem iter_below (w : World) (s : ByteArray) (pos : Nat) : Below w.heap.size w (w.iter s pos) := (Below.refl _ _).alloc (Nat.le_refl _) _

theorem all_take_succ {l : List UInt8} {k : Nat} (hk : k < l.length) (p : UInt8 → Bool) : (l.take (k + 1)).all p = ((l.take k).all p && p l[k]) := by
  rw [List.take_succ_eq_append_getElem hk, List.all_append]; simp
theorem not_all_of {l : List UInt8} {k : Nat} (hk : k < l.length) {p : UInt8 → Bool} (h : p l[k] = false) : l.all p = false := by
  apply Bool.eq_false_iff.2
  intro e
  have := List.all_eq_true.1 e _ (List.getElem_mem hk)
  rw [h] at this; cases this
theorem allB_not {p : Nat → Bool} {l : List UInt8} (h : l.all (fun c => p c.toNat) = false) : allB p l = false := by unfold allB; rw [h, Bool.false_and]

set_option maxRecDepth 100000 in
set_option maxHeartbeats 1000000 in
theorem tagged_any (s : ByteArray) (w : World) :
    Calls Tryd.prog 39 #[.string s] w fun e w' => e = .returned (.bool (allB mayN s.data.toList)) ∧ Below w.heap.size w w' := by
  have hsz : s.data.toList.length = s.size := Array.length_toList
  have HF := Lib.hid may_any
  go_enter Tryd.func39, Tryd.ntmps39
  go_wp2
  go_loopg [] s.size (fun gk wr => ∃ pos, pos ≤ s.size ∧ gk = s.size - pos ∧ wr = w.iter s pos ∧ (s.data.toList.take pos).all (fun c => mayN c.toNat) = true)
  case atStart => exact ⟨0, Nat.zero_le _, rfl, rfl, by simp⟩
  case round =>
    obtain ⟨pos, hp, rfl, rfl, hall⟩ := hrel
    by_cases hlt : pos < s.size
    · have hlt' : pos < s.data.toList.length := by omega
      have hgl : s.data.toList[pos] = s[pos] := by simp [ByteArray.getElem_eq_getElem_data]
      have hnx : ∀ ty, (Instr.next (.pointer (some ⟨w.heap.size, 0, none⟩)) true ty).run Tryd.prog (w.iter s pos) = _ := fun ty => run_next_any w s pos ty hlt
      by_cases ha : (s[pos]'hlt).toNat < 128
      · rw [decode_ascii s pos hlt ha] at hnx
        obtain ⟨b, hb⟩ : ∃ b, s[pos]'hlt = b := ⟨_, rfl⟩
        rw [hb] at hnx ha hgl
        obtain ⟨q, hq⟩ : ∃ q, mayN b.toNat = q := ⟨_, rfl⟩
        have HB := Lib.hid (fun W => HF.out b.toNat W)
        rw [hq] at HB
        cases q
        · have hf : allB mayN s.data.toList = false := allB_not (not_all_of hlt' (by rw [hgl]; exact hq))
          have H := Lib.hid hf
          clear hall hgl hf hq
          go_wp2_with (go_at_call 49; refine (HB.out _).mono ?_; rintro e w' ⟨rfl, rfl⟩)
          go_ret
          exact ⟨by rw [H.out]; rfl, iter_below _ _ _⟩
        · have hn : (s.data.toList.take (pos + 1)).all (fun c => mayN c.toNat) = true := by rw [all_take_succ hlt', hall, hgl, hq]; rfl
          have H := Lib.hid hn
          clear hall hgl hn hq
          go_wp2_with (go_at_call 49; refine (HB.out _).mono ?_; rintro e w' ⟨rfl, rfl⟩)
          go_roundg (s.size - (pos + 1))
          case measure => omega
          case rel => exact ⟨pos + 1, by omega, rfl, rfl, H.out⟩
      · have hh := decode_high s pos hlt (by omega)
        have hle := decode_le s pos
        have hf : allB mayN s.data.toList = false := allB_not (not_all_of hlt' (by
          rw [hgl]
          cases e : mayN (s[pos]'hlt).toNat with
          | false => rfl
          | true => exact absurd (mayN_low e) ha))
        have H := Lib.hid hf
        obtain ⟨r, hr⟩ : ∃ r, (Utf8.decode s pos).1 = r := ⟨_, rfl⟩
        rw [hr] at hnx hh hle
        have hq : mayN r = false := by
          cases e : mayN r with
          | false => rfl
          | true => have := mayN_low e; omega
        have HB := Lib.hid (fun W => HF.out r W)
        rw [hq] at HB
        clear hall hgl hf hh hq
        go_wp2_with (go_at_call 49; refine (HB.out _).mono ?_; rintro e w' ⟨rfl, rfl⟩)
        go_ret
        exact ⟨by rw [H.out]; rfl, iter_below _ _ _⟩
    · obtain rfl : pos = s.size := by omega
      have hnx : ∀ ty, (Instr.next (.pointer (some ⟨w.heap.size, 0, none⟩)) true ty).run Tryd.prog (w.iter s s.size) = _ := fun ty => run_next_end w s s.size ty hlt
      rw [← hsz, List.take_length] at hall
      have hd : s.toList = s.data.toList := ByteArray.toList_eq s
      have hv : allB mayN s.data.toList = !s.toList.isEmpty := by unfold allB; rw [hall, hd, Bool.true_and]
      have H := Lib.hid hv
      clear hall hsz hd hv
      obtain ⟨i, hi⟩ : ∃ i, s.toList.isEmpty = i := ⟨_, rfl⟩
      rw [hi] at H
      have hne : (s.toList == []) = i := by rw [← hi]; cases s.toList <;> rfl
      cases i
      · go_wp2
        refine bodyPost_ret (v := .bool true) (by simp [results, Tryd.results39, go_sem]) rfl ⟨by rw [H.out]; rfl, iter_below _ _ _⟩
      · go_wp2
        refine bodyPost_ret (v := .bool false) (by simp [results, Tryd.results39, go_sem]) rfl ⟨by rw [H.out]; rfl, iter_below _ _ _⟩


/-- What the walks ask of the package-level variables. -/
structure Good (w : World) : Prop where
  es : ∃ te pe, w.cell? ⟨3, 0, none⟩ = some (.iface te pe)
  er : ∃ te pe, w.cell? ⟨4, 0, none⟩ = some (.iface te pe)
  tab : Lib.TabIs Tryd.prog w "internal/strconv.uint64pow10" .u64 Lib.pow10Tab

theorem cell_lt {W : World} {p : Addr} {v : Value} (h : W.cell? p = some v) : p.block < W.heap.size := by
  unfold World.cell? at h
  rcases Nat.lt_or_ge p.block W.heap.size with h' | h'
  · exact h'
  · simp [Array.getElem?_eq_none h'] at h
theorem keeps_cell {W W' : World} (hb : Below W.heap.size W W') {p : Addr} {v : Value} (h : W.cell? p = some v) : W'.cell? p = some v := (hb.cell (cell_lt h)).trans h

theorem tab_below {w w' : World} (h : Lib.TabIs Tryd.prog w "internal/strconv.uint64pow10" .u64 Lib.pow10Tab) (hb : Below w.heap.size w w') : Lib.TabIs Tryd.prog w' "internal/strconv.uint64pow10" .u64 Lib.pow10Tab := by
  unfold Lib.TabIs World.var? at h ⊢
  cases hg : Tryd.prog.globalNamed "internal/strconv.uint64pow10" with
  | none => rw [hg] at h; exact h
  | some g =>
    rw [hg] at h
    simp only [Option.bind_some] at h ⊢
    have hlt : g < w.heap.size := by
      rcases Nat.lt_or_ge g w.heap.size with h' | h'
      · exact h'
      · rw [Array.getElem?_eq_none h'] at h; cases h
    rw [hb.block g hlt]; exact h

theorem Good.below {w w' : World} (h : Good w) (hb : Below w.heap.size w w') : Good w' := by
  obtain ⟨⟨a, b, hab⟩, ⟨c, d, hcd⟩, ht⟩ := h
  exact ⟨⟨a, b, keeps_cell hb hab⟩, ⟨c, d, keeps_cell hb hcd⟩, tab_below ht hb⟩

theorem below_drewN (w : World) : ∀ n, Below w.heap.size w (w.drewN n)
  | 0 => Below.refl _ _
  | n + 1 => (below_drewN w n).drew

def Out (B : Nat) (w : World) (v : Value) (e : Ending) (w' : World) : Prop := e = .returned v ∧ Below B w w'

/-- A text. -/
def bs (l : List UInt8) : ByteArray := ⟨l.toArray⟩
theorem bs_list (l : List UInt8) : (bs l).data.toList = l := rfl
theorem bs_of (s : ByteArray) : s = bs s.data.toList := by simp [bs]
theorem size_list (a : ByteArray) : a.size = a.data.toList.length := Array.length_toList.symm

theorem grow_below (w : World) (k : Nat) (os : Array Obj) : Below w.heap.size w (Go.Sort.grow (w.drewN k) os) :=
  ⟨rfl, rfl, rfl, by show w.heap.size ≤ (w.heap ++ os).size; simp, fun j hj => by show (w.heap ++ os)[j]? = _; rw [Array.getElem?_append_left hj]⟩

theorem bs_append (a b : List UInt8) : bs a ++ bs b = bs (a ++ b) := by
  apply ByteArray.ext
  rw [ByteArray.data_append]
  simp [bs]
theorem bs_toList (l : List UInt8) : (bs l).toList = l := by rw [ByteArray.toList_eq, bs_list]
theorem bs_eq {a b : List UInt8} : bs a = bs b ↔ a = b := ⟨fun h => by have := congrArg (fun s : ByteArray => s.data.toList) h; simpa [bs_list] using this, fun h => by rw [h]⟩

end Go.Proofs.YtheiakdlhpccaaaDoor
