/- Walks: words (its closure words$1). -/
import Derived.Test.YtiigjmageeinpaaDoorVe
import Derived.Test.YtiigjmageeinpaaDoorSev
namespace Go.Proofs.YtiigjmageeinpaaDoor
open Go.RowKit Go.Shelf

attribute [local go_sem] Oper.semAt_some

/-- What stands between words. -/
def blankN (x : Nat) : Bool := decide (x = 32) || decide (x = 9) || decide (x = 13)

set_option maxHeartbeats 1000000 in
theorem blank_any (x : Nat) (hx : x ≤ 1114111) (w : World) : Calls Tryd.prog 40 #[.int .i32 (x : Int)] w fun e w' => e = .returned (.bool (blankN x)) ∧ w' = w := by
  go_enter Tryd.func40, Tryd.ntmps40
  by_cases h1 : x = 32
  · subst h1
    go_wp2
    go_ret
    exact ⟨rfl, rfl⟩
  · by_cases h2 : x = 9
    · subst h2
      go_wp2
      go_ret
      exact ⟨rfl, rfl⟩
    · by_cases h3 : x = 13
      · subst h3
        go_wp2
        go_ret
        exact ⟨rfl, rfl⟩
      · have e1 : ((x : Int) = 32) = False := eq_false (by omega)
        have e2 : ((x : Int) = 9) = False := eq_false (by omega)
        have e3 : ((x : Int) = 13) = False := eq_false (by omega)
        have hb : blankN x = false := by simp [blankN, h1, h2, h3]
        rw [hb]
        go_wp2
        go_ret
        exact ⟨by first | rfl | simp [e1, e2, e3], rfl⟩

theorem blank_grows (w : World) : PredGrows Tryd.prog 40 #[] blankN w := fun W x hx _ => (blank_any x hx W).mono fun _ _ ⟨h, k⟩ => ⟨h, k ▸ Below.refl _ _⟩

theorem row_mono {w : World} {base base' : Nat} {e : TypeId} {size : Nat} {v : Value} {n : Nat} {xs : List Value} (h : w.ownsRow base e size v n xs) (hb : base' ≤ base) : w.ownsRow base' e size v n xs := by
  obtain ⟨h1, h2⟩ := h
  refine ⟨h1, ?_⟩
  rcases h2 with h2 | ⟨g, c, cur, a, b, r⟩
  · exact .inl h2
  · exact .inr ⟨g, c, cur, a, by omega, r⟩

/-- A line's words. -/
def wordsL (l : List UInt8) : List (List UInt8) := (Lib.goFieldsP blankN (bs (Lib.cut l [47, 47]).1)).map fun s => s.data.toList

theorem words_map (l : List UInt8) : (Lib.goFieldsP blankN (bs (Lib.cut l [47, 47]).1)).map Value.string = (wordsL l).map fun x => .string (bs x) := by
  unfold wordsL
  rw [List.map_map]
  refine List.map_congr_left fun s _ => ?_
  show Value.string s = Value.string (bs s.data.toList)
  rw [← bs_of]

set_option maxRecDepth 100000 in
set_option maxHeartbeats 1000000 in
theorem words_any (l : List UInt8) (hl : l.length ≤ 100000) {w : World} (hG : Good w) :
    Calls Tryd.prog 32 #[.string (bs l)] w fun e w' => ∃ A, e = .returned (.slice (some ⟨A, 0, none⟩) (wordsL l).length (wordsL l).length) ∧ w.heap.size ≤ A ∧
      w'.ownsRow w.heap.size 9 1 (.slice (some ⟨A, 0, none⟩) (wordsL l).length (wordsL l).length) (wordsL l).length ((wordsL l).map fun x => .string (bs x)) ∧ Below w.heap.size w w' := by
  obtain ⟨r, hr⟩ : ∃ r, Lib.cut l [47, 47] = r := ⟨_, rfl⟩
  have HC := Lib.hid (cut_at l [47, 47] hl hr hG w (Below.refl _ _))
  have hwl := words_map l
  have hlen : (wordsL l).length = (Lib.goFieldsP blankN (bs r.1)).length := by unfold wordsL; rw [hr, List.length_map]
  rw [hr] at hwl
  have hz : r.1.length ≤ l.length := (cut_len (a := r.1) (b := r.2.1) (t := r.2.2) hr).1
  have HW := Lib.hid (And.intro hwl (And.intro hlen hz))
  clear hwl hlen hz
  go_enter Tryd.func32, Tryd.ntmps32
  have e47 : (⟨#[47, 47]⟩ : ByteArray) = bs [47, 47] := rfl
  rw [e47]
  go_wp2_with (first
    | (go_at_call 27; refine HC.out.mono ?_; rintro e W ⟨rfl, hb⟩; have HF := Lib.hid (Tryd.strings_FieldsFunc_grows 40 #[] (enters_of Tryd.func40 (by kernel_rfl) rfl) blankN (bs r.1) W (by have := HW.out.2.2; rw [size_list, bs_list]; omega) (blank_grows W)))
    | (go_at_call 39; refine HF.out.mono ?_; rintro e w3 ⟨A, rfl, hA, hown, hb3⟩))
  go_ret
  obtain ⟨hwl, hlen, hz⟩ := HW.out
  rw [hlen, ← hwl]
  exact ⟨A, rfl, by have := hb.size; omega, row_mono hown hb.size, hb.trans (hb3.mono hb.size)⟩

end Go.Proofs.YtiigjmageeinpaaDoor
