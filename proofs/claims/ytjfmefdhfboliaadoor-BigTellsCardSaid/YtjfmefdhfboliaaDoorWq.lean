/- Laws over sums, products, quotients and rests: each is walked by the contracts of the exported functions. -/
import Derived.Test.YtjfmefdhfboliaaDoorWp
namespace Go.Proofs.YtjfmefdhfboliaaDoor
open Go.RowKit Go.Shelf Num
open Go.Lib (decDigits nDigits decDigits_length itoa)

/-- A number, written. -/
def num (x : Int) : ByteArray := ⟨(itoa x).toArray⟩
theorem num_list (x : Int) : (num x).data.toList = itoa x := rfl
theorem num_of {a : ByteArray} {x : Int} (h : a.data.toList = itoa x) : a = num x := by
  have : a = ⟨a.data.toList.toArray⟩ := by simp
  rw [this, h]; rfl
theorem num_of_right {a : ByteArray} {x : Int} (h : right? a.data.toList = some x) : a = num x ∧ x.natAbs < lim := ⟨num_of (right?_some h).1, (right?_some h).2⟩
theorem num_inj {x y : Int} (h : num x = num y) : x = y := by
  have := congrArg (fun b => b.data.toList) h
  exact itoa_inj this

def Out (B : Nat) (w : World) (v : Value) (e : Ending) (w' : World) : Prop := e = .returned v ∧ Below B w w'

/-- What one of the five operations is, wherever it is called behind w. -/
def OpIs (F : FuncId) (op : Int → Int → Option Int) : Prop :=
  ∀ (a b : ByteArray) (w : World), Tab w → Calls Tryd.prog F #[.string a, .string b] w (Told w (doneP op a.data.toList b.data.toList))

theorem sumIs : OpIs 12 fun x y => some (x + y) := Sum_any
theorem lessIs : OpIs 17 fun x y => some (x - y) := Less_any
theorem timesIs : OpIs 14 fun x y => some (x * y) := Times_any
theorem quotIs : OpIs 15 (partOp false) := Quotient_any
theorem restIs : OpIs 16 (partOp true) := Rest_any

theorem op_at {F : FuncId} {op : Int → Int → Option Int} (H : OpIs F op) {a b : ByteArray} {p : List UInt8 × Int} (hp : doneP op a.data.toList b.data.toList = p) {w : World} (ht : Tab w) :
    ∀ W, Below w.heap.size w W → Calls Tryd.prog F #[.string a, .string b] W (Out w.heap.size w (.tuple #[.string ⟨p.1.toArray⟩, .int .i64 p.2])) := by
  intro W hW
  subst hp
  refine (H a b W (ht.below hW)).mono ?_
  rintro e w' ⟨rfl, hb⟩
  exact ⟨rfl, hW.trans (hb.mono hW.size)⟩

theorem op_num {F : FuncId} {op : Int → Int → Option Int} (H : OpIs F op) {x y z : Int} (hx : x.natAbs < lim) (hy : y.natAbs < lim) (hop : op x y = some z) (hz : z.natAbs < lim) {w : World} (ht : Tab w) :
    ∀ W, Below w.heap.size w W → Calls Tryd.prog F #[.string (num x), .string (num y)] W (Out w.heap.size w (.tuple #[.string (num z), .int .i64 0])) := by
  have hp : doneP op (num x).data.toList (num y).data.toList = (itoa z, 0) := by
    rw [num_list, num_list, doneP_itoa hx hy, hop]
    show (if z.natAbs < lim then (itoa z, (0 : Int)) else ([], 10)) = _
    rw [if_pos hz]
  exact op_at H hp ht

theorem op_wide {F : FuncId} {op : Int → Int → Option Int} (H : OpIs F op) {x y z : Int} (hx : x.natAbs < lim) (hy : y.natAbs < lim) (hop : op x y = some z) (hz : ¬ z.natAbs < lim) {w : World} (ht : Tab w) :
    ∀ W, Below w.heap.size w W → Calls Tryd.prog F #[.string (num x), .string (num y)] W (Out w.heap.size w (.tuple #[.string ⟨#[]⟩, .int .i64 10])) := by
  have hp : doneP op (num x).data.toList (num y).data.toList = ([], 10) := by
    rw [num_list, num_list, doneP_itoa hx hy, hop]
    show (if z.natAbs < lim then (itoa z, (0 : Int)) else ([], 10)) = _
    rw [if_neg hz]
  exact op_at H hp ht

theorem awake_at {w : World} (ht : Tab w) : ∀ W, Below w.heap.size w W → Calls Tryd.prog 13 #[] W (Out w.heap.size w (.bool true)) := by
  intro W hW
  refine (awake_any W (ht.below hW)).mono ?_
  rintro e w' ⟨rfl, hb⟩
  exact ⟨rfl, hW.trans (hb.mono hW.size)⟩

theorem right_at (a : ByteArray) {i : Bool} (hi : (right? a.data.toList).isSome = i) (w : World) : ∀ W, Below w.heap.size w W → Calls Tryd.prog 19 #[.string a] W (Out w.heap.size w (.bool i)) := by
  intro W hW
  subst hi
  refine (Right_any a W).mono ?_
  rintro e w' ⟨rfl, hb⟩
  exact ⟨rfl, hW.trans (hb.mono hW.size)⟩

theorem text_at {n : Int} (h0 : -9223372036854775808 ≤ n) (h1 : n ≤ 9223372036854775807) {w : World} (ht : Tab w) : ∀ W, Below w.heap.size w W → Calls Tryd.prog 11 #[.int .i64 n] W (Out w.heap.size w (.string (num n))) := by
  intro W hW
  refine (Text_any n h0 h1 W (ht.below hW)).mono ?_
  rintro e w' ⟨rfl, hb⟩
  exact ⟨rfl, hW.trans (hb.mono hW.size)⟩

theorem num0 : num 0 = ⟨#[48]⟩ := by simp [num, itoa, decDigits]
theorem num1 : num 1 = ⟨#[49]⟩ := by simp [num, itoa, decDigits]
theorem num_1 : num (-1) = ⟨#[45, 49]⟩ := by simp [num, itoa, decDigits]
theorem lim_pos : 1 < lim := small_lt_lim (by decide)
theorem lim0 : (0 : Int).natAbs < lim := small_lt_lim (by decide)
theorem lim1 : (1 : Int).natAbs < lim := small_lt_lim (by decide)
theorem lim_1 : (-1 : Int).natAbs < lim := small_lt_lim (by decide)

def Yes (w : World) (e : Ending) (w' : World) : Prop := e = .returned (.bool true) ∧ Below w.heap.size w w'

set_option maxRecDepth 100000 in
theorem BigSigns_none (a : ByteArray) (ha : right? a.data.toList = none) (w : World) (ht : Tab w) : Calls Tryd.prog 7 #[.string a] w (Yes w) := by
  have KR := Lib.hid (right_at a (i := false) (by rw [ha]; rfl) w)
  have hp : doneP (fun x y => some (x + y)) a.data.toList (ByteArray.mk #[48]).data.toList = ([], 1) := doneP_no (.inl ha)
  have KS := Lib.hid (op_at sumIs hp ht)
  have KA := Lib.hid (awake_at ht)
  clear ha ht hp
  go_enter Tryd.func7, Tryd.ntmps7
  go_wp2_with fail
  refine (KR.out _ (Below.refl _ _)).mono ?_
  rintro e w1 ⟨rfl, hb1⟩
  go_wp2_with fail
  refine (KS.out _ hb1).mono ?_
  rintro e w2 ⟨rfl, hb2⟩
  go_wp2_with fail
  refine (KA.out _ hb2).mono ?_
  rintro e w3 ⟨rfl, hb3⟩
  go_wp2_with fail
  refine bodyPost_ret (v := .bool true) (by simp [results, Tryd.results7, go_sem]) rfl ⟨rfl, hb3⟩

set_option maxRecDepth 100000 in
theorem BigSigns_some (x : Int) (hx : x.natAbs < lim) (w : World) (ht : Tab w) : Calls Tryd.prog 7 #[.string (num x)] w (Yes w) := by
  have hn : (-x).natAbs < lim := by rw [Int.natAbs_neg]; exact hx
  have K0 := right_at (num x) (i := true) (by rw [num_list, right?_itoa hx]; rfl) w
  have K1 := op_num lessIs lim0 hx (z := -x) (by rw [Int.zero_sub]) hn ht
  have K2 := op_num lessIs lim0 hn (z := x) (by rw [Int.zero_sub, Int.neg_neg]) hx ht
  have K3 := op_num timesIs lim_1 hx (z := -x) (by rw [Int.neg_mul, Int.one_mul]) hn ht
  have K4 := op_num timesIs lim0 hx (z := 0) (by rw [Int.zero_mul]) lim0 ht
  have K5 := op_num timesIs lim1 hx (z := x) (by rw [Int.one_mul]) hx ht
  have K6 := op_num sumIs hx hn (z := 0) (by rw [Int.add_right_neg]) lim0 ht
  rw [num0] at K1 K2 K4 K6
  rw [num_1] at K3
  rw [num1] at K5
  obtain ⟨a, ha⟩ : ∃ a, num x = a := ⟨_, rfl⟩
  obtain ⟨m, hm⟩ : ∃ m, num (-x) = m := ⟨_, rfl⟩
  rw [ha] at K0 K1 K2 K3 K4 K5 K6 ⊢
  rw [hm] at K1 K2 K3 K6
  have KR := Lib.hid K0
  have H1 := Lib.hid K1
  have H2 := Lib.hid K2
  have H3 := Lib.hid K3
  have H4 := Lib.hid K4
  have H5 := Lib.hid K5
  have H6 := Lib.hid K6
  have KA := Lib.hid (awake_at ht)
  clear K0 K1 K2 K3 K4 K5 K6 hx hn ha hm ht
  go_enter Tryd.func7, Tryd.ntmps7
  go_wp2_with fail
  refine (KR.out _ (Below.refl _ _)).mono ?_
  rintro e w1 ⟨rfl, hb1⟩
  go_wp2_with fail
  refine (H1.out _ hb1).mono ?_
  rintro e w2 ⟨rfl, hb2⟩
  go_wp2_with fail
  refine (H2.out _ hb2).mono ?_
  rintro e w3 ⟨rfl, hb3⟩
  go_wp2_with fail
  refine (H3.out _ hb3).mono ?_
  rintro e w4 ⟨rfl, hb4⟩
  go_wp2_with fail
  refine (H4.out _ hb4).mono ?_
  rintro e w5 ⟨rfl, hb5⟩
  go_wp2_with fail
  refine (H5.out _ hb5).mono ?_
  rintro e w6 ⟨rfl, hb6⟩
  go_wp2_with fail
  refine (H6.out _ hb6).mono ?_
  rintro e w7 ⟨rfl, hb7⟩
  go_wp2_with fail
  refine (KA.out _ hb7).mono ?_
  rintro e w8 ⟨rfl, hb8⟩
  go_wp2_with fail
  refine bodyPost_ret (v := .bool true) (by simp [results, Tryd.results7, go_sem]) rfl ⟨rfl, hb8⟩

theorem BigSigns_walk (a : ByteArray) (w : World) (ht : Tab w) : Calls Tryd.prog 7 #[.string a] w (Yes w) := by
  cases h : right? a.data.toList with
  | none => exact BigSigns_none a h w ht
  | some x => obtain ⟨rfl, hx⟩ := num_of_right h; exact BigSigns_some x hx w ht

end Go.Proofs.YtjfmefdhfboliaaDoor
