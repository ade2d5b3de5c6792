/- Walks through the exported functions of package big. -/
import Derived.Test.YtjfmefdhfboliaaDoorWm
namespace Go.Proofs.YtjfmefdhfboliaaDoor
open Go.RowKit Go.Shelf Num
open Go.Lib (decDigits nDigits decDigits_length itoa)

theorem Sum_any (a b : ByteArray) (w : World) (ht : Tab w) : Calls Tryd.prog 12 #[.string a, .string b] w (Told w (doneP (fun x y => some (x + y)) a.data.toList b.data.toList)) := by
  have HD := Lib.hid (done_28 a b w ht)
  obtain ⟨p, hp⟩ : ∃ p, doneP (fun x y => some (x + y)) a.data.toList b.data.toList = p := ⟨_, rfl⟩
  rw [hp] at HD ⊢
  go_enter Tryd.func12, Tryd.ntmps12
  go_wp2_with fail
  refine HD.out.mono ?_
  rintro e w' ⟨rfl, hb⟩
  go_wp2_with fail
  refine bodyPost_ret (v := .tuple #[.string ⟨p.1.toArray⟩, .int .i64 p.2]) (by simp [results, Tryd.results12, go_sem]) rfl ⟨rfl, hb⟩

theorem Times_any (a b : ByteArray) (w : World) (ht : Tab w) : Calls Tryd.prog 14 #[.string a, .string b] w (Told w (doneP (fun x y => some (x * y)) a.data.toList b.data.toList)) := by
  have HD := Lib.hid (done_30 a b w ht)
  obtain ⟨p, hp⟩ : ∃ p, doneP (fun x y => some (x * y)) a.data.toList b.data.toList = p := ⟨_, rfl⟩
  rw [hp] at HD ⊢
  go_enter Tryd.func14, Tryd.ntmps14
  go_wp2_with fail
  refine HD.out.mono ?_
  rintro e w' ⟨rfl, hb⟩
  go_wp2_with fail
  refine bodyPost_ret (v := .tuple #[.string ⟨p.1.toArray⟩, .int .i64 p.2]) (by simp [results, Tryd.results14, go_sem]) rfl ⟨rfl, hb⟩

theorem Less_any (a b : ByteArray) (w : World) (ht : Tab w) : Calls Tryd.prog 17 #[.string a, .string b] w (Told w (doneP (fun x y => some (x - y)) a.data.toList b.data.toList)) := by
  have HD := Lib.hid (done_33 a b w ht)
  obtain ⟨p, hp⟩ : ∃ p, doneP (fun x y => some (x - y)) a.data.toList b.data.toList = p := ⟨_, rfl⟩
  rw [hp] at HD ⊢
  go_enter Tryd.func17, Tryd.ntmps17
  go_wp2_with fail
  refine HD.out.mono ?_
  rintro e w' ⟨rfl, hb⟩
  go_wp2_with fail
  refine bodyPost_ret (v := .tuple #[.string ⟨p.1.toArray⟩, .int .i64 p.2]) (by simp [results, Tryd.results17, go_sem]) rfl ⟨rfl, hb⟩

/-- Quotient (r = false) or rest (r = true). -/
def partOp (r : Bool) (x y : Int) : Option Int := if y = 0 then none else some (if r = true then x.tmod y else x.tdiv y)

theorem parts_any (r : Bool) (a b : ByteArray) (w : World) (ht : Tab w) : Calls Tryd.prog 32 #[.string a, .string b, .bool r] w (Told w (doneP (partOp r) a.data.toList b.data.toList)) := by
  have hb0 : Below w.heap.size w (w.alloc (.cells #[.bool r] 4)) := (Below.refl _ _).alloc (Nat.le_refl _) _
  have HD := Lib.hid (done_49 r w.heap.size a b (w.alloc (.cells #[.bool r] 4)) (ht.below hb0) (by simp [go_sem]))
  obtain ⟨p, hp⟩ : ∃ p, doneP (partOp r) a.data.toList b.data.toList = p := ⟨_, rfl⟩
  have hp' : doneP (fun x y => if y = 0 then none else some (if r = true then x.tmod y else x.tdiv y)) a.data.toList b.data.toList = p := hp
  rw [hp'] at HD
  rw [hp]
  clear hp hp'
  go_enter Tryd.func32, Tryd.ntmps32
  go_wp2_with fail
  refine HD.out.mono ?_
  rintro e w' ⟨rfl, hb⟩
  go_wp2_with fail
  refine bodyPost_ret (v := .tuple #[.string ⟨p.1.toArray⟩, .int .i64 p.2]) (by simp [results, Tryd.results32, go_sem]) rfl ⟨rfl, hb0.trans (hb.mono hb0.size)⟩

theorem Quotient_any (a b : ByteArray) (w : World) (ht : Tab w) : Calls Tryd.prog 15 #[.string a, .string b] w (Told w (doneP (partOp false) a.data.toList b.data.toList)) := by
  have HD := Lib.hid (parts_any false a b w ht)
  obtain ⟨p, hp⟩ : ∃ p, doneP (partOp false) a.data.toList b.data.toList = p := ⟨_, rfl⟩
  rw [hp] at HD ⊢
  go_enter Tryd.func15, Tryd.ntmps15
  go_wp2_with fail
  refine HD.out.mono ?_
  rintro e w' ⟨rfl, hb⟩
  go_wp2_with fail
  refine bodyPost_ret (v := .tuple #[.string ⟨p.1.toArray⟩, .int .i64 p.2]) (by simp [results, Tryd.results15, go_sem]) rfl ⟨rfl, hb⟩

theorem Rest_any (a b : ByteArray) (w : World) (ht : Tab w) : Calls Tryd.prog 16 #[.string a, .string b] w (Told w (doneP (partOp true) a.data.toList b.data.toList)) := by
  have HD := Lib.hid (parts_any true a b w ht)
  obtain ⟨p, hp⟩ : ∃ p, doneP (partOp true) a.data.toList b.data.toList = p := ⟨_, rfl⟩
  rw [hp] at HD ⊢
  go_enter Tryd.func16, Tryd.ntmps16
  go_wp2_with fail
  refine HD.out.mono ?_
  rintro e w' ⟨rfl, hb⟩
  go_wp2_with fail
  refine bodyPost_ret (v := .tuple #[.string ⟨p.1.toArray⟩, .int .i64 p.2]) (by simp [results, Tryd.results16, go_sem]) rfl ⟨rfl, hb⟩

end Go.Proofs.YtjfmefdhfboliaaDoor
