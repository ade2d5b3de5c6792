/- Walk of BigReckons. -/
import Derived.Test.YtjfmefdhfboliaaDoorWq
import Derived.Test.YtjfmefdhfboliaaDoorPf
namespace Go.Proofs.YtjfmefdhfboliaaDoor
open Go.RowKit Go.Shelf Num
open Go.Lib (decDigits nDigits decDigits_length itoa)

theorem doneP_doR {op : Int → Int → Option Int} {c : UInt8} (h : ∀ x y, op x y = Ref.opF c x y) (l m : List UInt8) : ((⟨(doneP op l m).1.toArray⟩ : ByteArray), (doneP op l m).2) = Ref.doR c l m := by
  unfold doneP Ref.doR
  cases right? l with
  | none => rfl
  | some x =>
    cases right? m with
    | none => rfl
    | some y =>
      simp only [h]
      unfold Ref.resP
      cases Ref.opF c x y with
      | none => rfl
      | some z =>
        by_cases hz : z.natAbs < lim
        · simp only [hz, if_true]
        · simp only [hz, if_false]

theorem told_at {op : Int → Int → Option Int} {c : UInt8} (hc : c = 43 ∨ c = 45 ∨ c = 42 ∨ c = 47 ∨ c = 37) (h : ∀ x y, op x y = Ref.opF c x y) (a b : ByteArray) (sa : a.size ≤ 1000000) (sb : b.size ≤ 1000000) {s : ByteArray} {e : Int}
    (hs : (⟨(doneP op a.data.toList b.data.toList).1.toArray⟩ : ByteArray) = s) (he : (doneP op a.data.toList b.data.toList).2 = e) (w : World) :
    ∀ W, Below w.heap.size w W → Calls Tryd.prog 18 #[.string s, .int .i64 e, .string ⟨#[c]⟩, .string a, .string b] W (Out w.heap.size w (.bool true)) := by
  intro W hW
  obtain ⟨k, hk⟩ := Ref.told_ev c hc a b sa sb
  rw [← doneP_doR h] at hk
  subst hs he
  refine (Ref.demoticlaw09_told.calls k _ _ _ _ _ _ W hk).mono ?_
  rintro e w' ⟨rfl, hb⟩
  exact ⟨rfl, hW.trans (hb.mono hW.size)⟩

theorem op_told {F : FuncId} {op : Int → Int → Option Int} (H : OpIs F op) (a b : ByteArray) {s : ByteArray} {e : Int}
    (hs : (⟨(doneP op a.data.toList b.data.toList).1.toArray⟩ : ByteArray) = s) (he : (doneP op a.data.toList b.data.toList).2 = e) {w : World} (ht : Tab w) :
    ∀ W, Below w.heap.size w W → Calls Tryd.prog F #[.string a, .string b] W (Out w.heap.size w (.tuple #[.string s, .int .i64 e])) := by
  subst hs he
  exact op_at H rfl ht

set_option maxRecDepth 100000 in
set_option maxHeartbeats 1000000 in
theorem BigReckons_long (a b : ByteArray) (h : 200 < a.size ∨ 200 < b.size) (w : World) : Calls Tryd.prog 5 #[.string a, .string b] w (Yes w) := by
  by_cases ha : (a.size : Int) > 200
  · go_enter Tryd.func5, Tryd.ntmps5
    go_wp2_with fail
    refine bodyPost_ret (v := .bool true) (by simp [results, Tryd.results5, go_sem]) rfl ⟨rfl, Below.refl _ _⟩
  · have hb : (b.size : Int) > 200 := by omega
    go_enter Tryd.func5, Tryd.ntmps5
    go_wp2_with fail
    refine bodyPost_ret (v := .bool true) (by simp [results, Tryd.results5, go_sem]) rfl ⟨rfl, Below.refl _ _⟩

set_option maxRecDepth 100000 in
set_option maxHeartbeats 1000000 in
theorem BigReckons_walk (a b : ByteArray) (w : World) (ht : Tab w) : Calls Tryd.prog 5 #[.string a, .string b] w (Yes w) := by
  by_cases h : 200 < a.size ∨ 200 < b.size
  · exact BigReckons_long a b h w
  have ha : ¬ (a.size : Int) > 200 := by omega
  have hb : ¬ (b.size : Int) > 200 := by omega
  have sa : a.size ≤ 1000000 := by omega
  have sb : b.size ≤ 1000000 := by omega
  clear h
  obtain ⟨sS, hsS⟩ : ∃ s : ByteArray, (⟨(doneP (fun x y => some (x + y)) a.data.toList b.data.toList).1.toArray⟩ : ByteArray) = s := ⟨_, rfl⟩
  obtain ⟨eS, heS⟩ : ∃ e : Int, (doneP (fun x y => some (x + y)) a.data.toList b.data.toList).2 = e := ⟨_, rfl⟩
  have OS := Lib.hid (op_told sumIs a b hsS heS ht)
  have DS := Lib.hid (told_at (c := 43) (by decide) (fun x y => by simp [Ref.opF]) a b sa sb hsS heS w)
  clear hsS heS
  obtain ⟨sL, hsL⟩ : ∃ s : ByteArray, (⟨(doneP (fun x y => some (x - y)) a.data.toList b.data.toList).1.toArray⟩ : ByteArray) = s := ⟨_, rfl⟩
  obtain ⟨eL, heL⟩ : ∃ e : Int, (doneP (fun x y => some (x - y)) a.data.toList b.data.toList).2 = e := ⟨_, rfl⟩
  have OL := Lib.hid (op_told lessIs a b hsL heL ht)
  have DL := Lib.hid (told_at (c := 45) (by decide) (fun x y => by simp [Ref.opF]) a b sa sb hsL heL w)
  clear hsL heL
  obtain ⟨sT, hsT⟩ : ∃ s : ByteArray, (⟨(doneP (fun x y => some (x * y)) a.data.toList b.data.toList).1.toArray⟩ : ByteArray) = s := ⟨_, rfl⟩
  obtain ⟨eT, heT⟩ : ∃ e : Int, (doneP (fun x y => some (x * y)) a.data.toList b.data.toList).2 = e := ⟨_, rfl⟩
  have OT := Lib.hid (op_told timesIs a b hsT heT ht)
  have DT := Lib.hid (told_at (c := 42) (by decide) (fun x y => by simp [Ref.opF]) a b sa sb hsT heT w)
  clear hsT heT
  obtain ⟨sQ, hsQ⟩ : ∃ s : ByteArray, (⟨(doneP (partOp false) a.data.toList b.data.toList).1.toArray⟩ : ByteArray) = s := ⟨_, rfl⟩
  obtain ⟨eQ, heQ⟩ : ∃ e : Int, (doneP (partOp false) a.data.toList b.data.toList).2 = e := ⟨_, rfl⟩
  have OQ := Lib.hid (op_told quotIs a b hsQ heQ ht)
  have DQ := Lib.hid (told_at (c := 47) (by decide) (fun x y => by simp [Ref.opF, partOp]) a b sa sb hsQ heQ w)
  clear hsQ heQ
  obtain ⟨sR, hsR⟩ : ∃ s : ByteArray, (⟨(doneP (partOp true) a.data.toList b.data.toList).1.toArray⟩ : ByteArray) = s := ⟨_, rfl⟩
  obtain ⟨eR, heR⟩ : ∃ e : Int, (doneP (partOp true) a.data.toList b.data.toList).2 = e := ⟨_, rfl⟩
  have OR := Lib.hid (op_told restIs a b hsR heR ht)
  have DR := Lib.hid (told_at (c := 37) (by decide) (fun x y => by simp [Ref.opF, partOp]) a b sa sb hsR heR w)
  clear hsR heR
  have KA := Lib.hid (awake_at ht)
  clear sa sb
  go_enter Tryd.func5, Tryd.ntmps5
  go_wp2_with fail
  refine (OS.out _ (Below.refl _ _)).mono ?_
  rintro e w1 ⟨rfl, hb1⟩
  go_wp2_with fail
  refine (OL.out _ hb1).mono ?_
  rintro e w2 ⟨rfl, hb2⟩
  go_wp2_with fail
  refine (OT.out _ hb2).mono ?_
  rintro e w3 ⟨rfl, hb3⟩
  go_wp2_with fail
  refine (OQ.out _ hb3).mono ?_
  rintro e w4 ⟨rfl, hb4⟩
  go_wp2_with fail
  refine (OR.out _ hb4).mono ?_
  rintro e w5 ⟨rfl, hb5⟩
  go_wp2_with fail
  refine (DS.out _ hb5).mono ?_
  rintro e w6 ⟨rfl, hb6⟩
  go_wp2_with fail
  refine (DL.out _ hb6).mono ?_
  rintro e w7 ⟨rfl, hb7⟩
  go_wp2_with fail
  refine (DT.out _ hb7).mono ?_
  rintro e w8 ⟨rfl, hb8⟩
  go_wp2_with fail
  refine (DQ.out _ hb8).mono ?_
  rintro e w9 ⟨rfl, hb9⟩
  go_wp2_with fail
  refine (DR.out _ hb9).mono ?_
  rintro e w10 ⟨rfl, hb10⟩
  go_wp2_with fail
  refine (KA.out _ hb10).mono ?_
  rintro e w11 ⟨rfl, hb11⟩
  go_wp2_with fail
  refine bodyPost_ret (v := .bool true) (by simp [results, Tryd.results5, go_sem]) rfl ⟨rfl, hb11⟩

end Go.Proofs.YtjfmefdhfboliaaDoor
