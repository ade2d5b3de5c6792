/- Walks: holds, Holds. -/
import Derived.Test.YtheiakdlhpccaaaDoorTd
namespace Go.Proofs.YtheiakdlhpccaaaDoor
open Go.RowKit Go.Shelf R
open Go.Proofs.YtheiakdlhpccaaaDoorW.PrintWords

/-- holds: does a right one? -/
def holdsN (tags : List ByteArray) : Nat → S24 → Bool
  | 0, _ => false
  | n + 1, x =>
    if x.f0.toList = [33] then (match x.f2 with | k :: _ => !holdsN tags n k | [] => false)
    else if x.f0.toList = [38, 38] then !(x.f2.any fun k => !holdsN tags n k)
    else if x.f0.toList = [124, 124] then x.f2.any fun k => holdsN tags n k
    else if verB x.f1.data.toList = -1 then Lib.containsS tags x.f1 else decide (verB x.f1.data.toList ≤ 24)

/-- No tag is too long, no row of constraints either. -/
def Sz : Nat → S24 → Prop
  | 0, _ => True
  | n + 1, x => x.f1.size ≤ 140737488355328 ∧ x.f2.length ≤ 1048576 ∧ ∀ k ∈ x.f2, Sz n k

theorem strs_cells {w : World} {A : Option Addr} {xs : List ByteArray} (h : Kd.C Kd.string w A xs.length xs) (hn : 0 < xs.length) : ∃ b off, A = some ⟨b, off, none⟩ ∧ ∀ j, j < xs.length → w.cell? ⟨b, off + j, none⟩ = some (.string (xs.getD j ByteArray.empty)) := by
  obtain ⟨_, _, h2⟩ := h
  obtain ⟨ad, rfl, hc⟩ := h2 hn
  have hj : ∀ j, j < xs.length → w.cell? (ad.add j) = some (.string (xs.getD j ByteArray.empty)) := by
    intro j hj
    obtain ⟨c, _, hK, hcell⟩ := hc j xs[j] (List.getElem?_eq_getElem hj)
    have e : c = [.string xs[j]] := hK
    subst e
    have := hcell 0 _ rfl
    rw [List.getD_eq_getElem?_getD, List.getElem?_eq_getElem hj]
    simpa [Kd.string, Kd.scalar] using this
  obtain ⟨b, off, sp⟩ := ad
  cases sp with
  | none =>
    refine ⟨b, off, rfl, fun j hjl => ?_⟩
    have := hj j hjl
    unfold Addr.add at this
    split at this
    · rename_i h0
      subst h0
      exact this
    · exact this
  | some q =>
    have := hj 0 hn
    simp [Addr.add, World.cell?] at this
    exfalso
    split at this <;> cases this

/-- The tags lie at T: a slice of them. -/
def Tags (W : World) (T : Nat) (tags : List ByteArray) : Prop := ∃ A c, W.cell? ⟨T, 0, none⟩ = some (.slice A tags.length c) ∧ Kd.C Kd.string W A tags.length tags ∧ tags.length ≤ c

def HoldsAt (tags : List ByteArray) (n : Nat) : Prop := ∀ (x : S24) (A : Option Addr) (c : Nat) (TA : Option Addr) (tc : Nat) (w : World), Good w → rightN n x = true → Sz n x → x.f2.length ≤ c → Kd.C k24 w A x.f2.length x.f2 → tags.length ≤ tc → Kd.C Kd.string w TA tags.length tags →
  Calls Tryd.prog 30 #[xv x A c, .slice TA tags.length tc] w (Out w.heap.size w (.bool (holdsN tags n x)))

set_option maxRecDepth 100000 in
theorem holds_kid (tags : List ByteArray) (n : Nat) (ih : HoldsAt tags n) (T : Nat) (x : S24) (A : Option Addr) (c : Nat) (w : World) (hG : Good w) (hT : Tags w T tags) (hr : rightN n x = true) (hs : Sz n x) (hc : x.f2.length ≤ c) (hC : Kd.C k24 w A x.f2.length x.f2) :
    Calls Tryd.prog 43 #[xv x A c, .pointer (some ⟨T, 0, none⟩)] w (Out w.heap.size w (.bool (holdsN tags n x))) := by
  obtain ⟨TA, tc, hcell, hTC, htc⟩ := hT
  have hb0 : Below w.heap.size w (w.alloc (.cells #[.string x.f0, .string x.f1, .slice A x.f2.length c] 24)) := (Below.refl _ w).alloc (Nat.le_refl _) _
  have KR := Lib.hid (ih x A c TA tc (w.alloc (.cells #[.string x.f0, .string x.f1, .slice A x.f2.length c] 24)) (hG.below hb0) hr hs hc (Kd.C_below hC hb0) htc (Kd.C_below hTC hb0))
  have hl2 := new_cell hcell (.cells #[.string x.f0, .string x.f1, .slice A x.f2.length c] 24)
  obtain ⟨b, hb⟩ : ∃ b, holdsN tags n x = b := ⟨_, rfl⟩
  rw [hb] at KR ⊢
  have HB := Lib.hid hb0
  clear hb ih hb0 hC hcell hTC hr hs hG
  unfold xv at KR ⊢
  go_enter Tryd.func43, Tryd.ntmps43
  go_wp2_with fail
  refine KR.out.mono ?_
  rintro e w1 ⟨rfl, hb1⟩
  go_wp2_with fail
  go_ret
  exact ⟨rfl, HB.out.trans (hb1.mono HB.out.size)⟩

set_option maxRecDepth 100000 in
theorem holds_kid2 (tags : List ByteArray) (n : Nat) (ih : HoldsAt tags n) (T S : Nat) (x : S24) (A : Option Addr) (c : Nat) (w : World) (hG : Good w) (hT : Tags w T tags) (hS : w.cell? ⟨S, 0, none⟩ = some (.func (.func 43) #[] #[.pointer (some ⟨T, 0, none⟩)])) (hr : rightN n x = true) (hs : Sz n x) (hc : x.f2.length ≤ c) (hC : Kd.C k24 w A x.f2.length x.f2) :
    Calls Tryd.prog 44 #[xv x A c, .pointer (some ⟨S, 0, none⟩)] w (Out w.heap.size w (.bool (!holdsN tags n x))) := by
  have hb0 : Below w.heap.size w (w.alloc (.cells #[.string x.f0, .string x.f1, .slice A x.f2.length c] 24)) := (Below.refl _ w).alloc (Nat.le_refl _) _
  obtain ⟨TA, tc, hcell, hTC, htc⟩ := hT
  have KR := Lib.hid (holds_kid tags n ih T x A c (w.alloc (.cells #[.string x.f0, .string x.f1, .slice A x.f2.length c] 24)) (hG.below hb0) ⟨TA, tc, new_cell hcell _, Kd.C_below hTC hb0, htc⟩ hr hs hc (Kd.C_below hC hb0))
  have hl2 := new_cell hS (.cells #[.string x.f0, .string x.f1, .slice A x.f2.length c] 24)
  obtain ⟨b, hb⟩ : ∃ b, holdsN tags n x = b := ⟨_, rfl⟩
  rw [hb] at KR ⊢
  have HB := Lib.hid hb0
  have hen : ∀ args W, (callFunc 43 args).run Tryd.prog W = .ok (.enter 43 args) W := enters_of Tryd.func43 (by kernel_rfl) rfl
  clear hb ih hb0 hC hcell hTC hr hs hG hS
  unfold xv at KR ⊢
  go_enter Tryd.func44, Tryd.ntmps44
  go_wp2_with fail
  refine KR.out.mono ?_
  rintro e w1 ⟨rfl, hb1⟩
  go_wp2_with fail
  go_ret
  exact ⟨rfl, HB.out.trans (hb1.mono HB.out.size)⟩

theorem run_store_func {P : Program} {w : World} {a : Addr} {m : Mode} (f : Fn) (c lb : Array Value) : (store a (.func f c lb) m).run P w = stored P w a (.func f c lb) m := run_store P w a _ m rfl
attribute [local go_sem] run_store_func

/-- The world in which holds goes on: the constraint, the tags, the function value that asks again. -/
def W3 (w : World) (x : S24) (A : Option Addr) (c : Nat) (TA : Option Addr) (n tc : Nat) : World :=
  ((w.alloc (.cells #[.string x.f0, .string x.f1, .slice A x.f2.length c] 24)).alloc (.cells #[.slice TA n tc] 32)).alloc (.cells #[.func (.func 43) #[] #[.pointer (some ⟨w.heap.size + 1, 0, none⟩)]] 28)
theorem W3_below (w : World) (x : S24) (A : Option Addr) (c : Nat) (TA : Option Addr) (n tc : Nat) : Below w.heap.size w (W3 w x A c TA n tc) :=
  (((Below.refl _ w).alloc (Nat.le_refl _) _).alloc (by simp) _).alloc (by simp; omega) _
theorem W3_tags (w : World) (x : S24) (A : Option Addr) (c : Nat) (TA : Option Addr) (n tc : Nat) : (W3 w x A c TA n tc).cell? ⟨w.heap.size + 1, 0, none⟩ = some (.slice TA n tc) :=
  new_cell (by simp [go_sem]) _
theorem W3_so (w : World) (x : S24) (A : Option Addr) (c : Nat) (TA : Option Addr) (n tc : Nat) : (W3 w x A c TA n tc).cell? ⟨w.heap.size + 1 + 1, 0, none⟩ = some (.func (.func 43) #[] #[.pointer (some ⟨w.heap.size + 1, 0, none⟩)]) := by
  unfold W3
  simp [go_sem]

set_option maxRecDepth 100000 in
set_option maxHeartbeats 2000000 in
theorem holds_not (tags : List ByteArray) (n : Nat) (ih : HoldsAt tags n) (x : S24) (A : Option Addr) (c : Nat) (TA : Option Addr) (tc : Nat) (w : World) (hG : Good w) (hr : rightN (n + 1) x = true) (hs : Sz (n + 1) x) (_hc : x.f2.length ≤ c) (hC : Kd.C k24 w A x.f2.length x.f2) (htc : tags.length ≤ tc) (hTC : Kd.C Kd.string w TA tags.length tags) (h : x.f0.toList = [33]) :
    Calls Tryd.prog 30 #[xv x A c, .slice TA tags.length tc] w (Out w.heap.size w (.bool (holdsN tags (n + 1) x))) := by
  have hmf : ∀ (fn : Fn) (first cap : Array Value) (w : World), (Instr.makeFunc fn first cap).run Tryd.prog w = .ok (.func fn first cap) w := fun _ _ _ _ => rfl
  have hen : ∀ args W, (callFunc 43 args).run Tryd.prog W = .ok (.enter 43 args) W := enters_of Tryd.func43 (by kernel_rfl) rfl
  rw [rightN, if_neg (by rw [h]; decide), if_pos h, Bool.and_eq_true, Bool.and_eq_true] at hr
  obtain ⟨h1, _, hk⟩ := hr
  have h1 := of_decide_eq_true h1
  obtain ⟨y, hy⟩ : ∃ y, x.f2 = [y] := List.length_eq_one_iff.1 h1
  have hry : rightN n y = true := by
    rw [hy] at hk
    simpa using hk
  have hsy : Sz n y := hs.2.2 y (by rw [hy]; exact List.mem_cons_self)
  have hB := W3_below w x A c TA tags.length tc
  obtain ⟨ad, A2, c2, rfl, e0, e1, e2, hl2, hC2⟩ := at_T24 (Kd.C_below hC hB) 0 (by omega) (by omega)
  have hx : rd_T24 x.f2 0 = y := by rw [hy]; rfl
  rw [hx] at e0 e1 e2 hl2 hC2
  have KK := Lib.hid (holds_kid tags n ih (w.heap.size + 1) y A2 c2 (W3 w x (some ad) c TA tags.length tc).drew (hG.below hB.drew) ⟨TA, tc, W3_tags _ _ _ _ _ _ _, Kd.C_below hTC hB.drew, htc⟩ hry hsy hl2 (Kd.C_drew hC2))
  have hv : holdsN tags (n + 1) x = !holdsN tags n y := by rw [holdsN, if_pos h, hy]
  obtain ⟨b, hb⟩ : ∃ b, holdsN tags n y = b := ⟨_, rfl⟩
  rw [hv, hb]
  rw [hb] at KK
  have HB := Lib.hid hB.drew
  have hlt : 0 < x.f2.length := by omega
  clear h1 hb hv hB hx hC2 hl2 hsy hry hy hk hs hTC hC ih hG
  unfold W3 at e0 e1 e2 KK
  have ha0 : ad.add 0 = ad := by simp [Addr.add]
  simp only [Int.toNat_zero, Nat.zero_mul, ha0] at e0 e1 e2
  unfold xv at KK ⊢
  go_enter Tryd.func30, Tryd.ntmps30
  go_wp2_with fail
  go_region_with (go_at_call 43; refine KK.out.mono ?_; rintro e w1 ⟨rfl, hb1⟩)
  all_goals
    go_wp2_with fail
    go_ret
    exact ⟨rfl, HB.out.trans (hb1.mono HB.out.size)⟩

set_option maxRecDepth 100000 in
set_option maxHeartbeats 2000000 in
theorem holds_and (tags : List ByteArray) (n : Nat) (ih : HoldsAt tags n) (x : S24) (A : Option Addr) (c : Nat) (TA : Option Addr) (tc : Nat) (w : World) (hG : Good w) (hr : rightN (n + 1) x = true) (hs : Sz (n + 1) x) (hc : x.f2.length ≤ c) (hC : Kd.C k24 w A x.f2.length x.f2) (htc : tags.length ≤ tc) (hTC : Kd.C Kd.string w TA tags.length tags) (h : x.f0.toList = [38, 38]) :
    Calls Tryd.prog 30 #[xv x A c, .slice TA tags.length tc] w (Out w.heap.size w (.bool (holdsN tags (n + 1) x))) := by
  have hmf : ∀ (fn : Fn) (first cap : Array Value) (w : World), (Instr.makeFunc fn first cap).run Tryd.prog w = .ok (.func fn first cap) w := fun _ _ _ _ => rfl
  have hen : ∀ args W, (callFunc 43 args).run Tryd.prog W = .ok (.enter 43 args) W := enters_of Tryd.func43 (by kernel_rfl) rfl
  rw [rightN, if_neg (by rw [h]; decide), if_neg (by rw [h]; decide), if_pos (.inl h), Bool.and_eq_true, Bool.and_eq_true] at hr
  obtain ⟨_, _, hk⟩ := hr
  have hall : ∀ y ∈ x.f2, rightN n y = true := by
    intro y hy
    rw [Bool.not_eq_true', Bool.eq_false_iff] at hk
    by_cases hq : rightN n y = true
    · exact hq
    · exact absurd (List.any_eq_true.2 ⟨y, hy, by simp [hq]⟩) hk
  have hB := W3_below w x A c TA tags.length tc
  have KK := Lib.hid (contains_any 44 #[.pointer (some ⟨w.heap.size + 1 + 1, 0, none⟩)] (fun k => !holdsN tags n k) x.f2 A c (W3 w x A c TA tags.length tc) (Kd.C_below hC hB) hc (enters_of Tryd.func44 (by kernel_rfl) rfl) (fun y hy W hW A2 c2 hc2 hC2 => holds_kid2 tags n ih (w.heap.size + 1) (w.heap.size + 1 + 1) y A2 c2 W ((hG.below hB).below hW) ⟨TA, tc, keeps_cell hW (W3_tags _ _ _ _ _ _ _), Kd.C_below (Kd.C_below hTC hB) hW, htc⟩ (keeps_cell hW (W3_so _ _ _ _ _ _ _)) (hall y hy) (hs.2.2 y hy) hc2 hC2))
  have hv : holdsN tags (n + 1) x = !(x.f2.any (fun k => !holdsN tags n k)) := by rw [holdsN, if_neg (by rw [h]; decide), if_pos h]
  obtain ⟨b, hb⟩ : ∃ b, (x.f2.any (fun k => !holdsN tags n k)) = b := ⟨_, rfl⟩
  rw [hv, hb]
  rw [hb] at KK
  have HB := Lib.hid hB
  clear hb hv hB hall hk hs hTC hC ih hG
  unfold W3 at KK
  unfold xv
  go_enter Tryd.func30, Tryd.ntmps30
  go_wp2_with fail
  refine KK.out.mono ?_
  rintro e w1 ⟨rfl, hb1⟩
  go_wp2_with fail
  go_ret
  exact ⟨rfl, HB.out.trans (hb1.mono HB.out.size)⟩

set_option maxRecDepth 100000 in
set_option maxHeartbeats 2000000 in
theorem holds_or (tags : List ByteArray) (n : Nat) (ih : HoldsAt tags n) (x : S24) (A : Option Addr) (c : Nat) (TA : Option Addr) (tc : Nat) (w : World) (hG : Good w) (hr : rightN (n + 1) x = true) (hs : Sz (n + 1) x) (hc : x.f2.length ≤ c) (hC : Kd.C k24 w A x.f2.length x.f2) (htc : tags.length ≤ tc) (hTC : Kd.C Kd.string w TA tags.length tags) (h : x.f0.toList = [124, 124]) :
    Calls Tryd.prog 30 #[xv x A c, .slice TA tags.length tc] w (Out w.heap.size w (.bool (holdsN tags (n + 1) x))) := by
  have hmf : ∀ (fn : Fn) (first cap : Array Value) (w : World), (Instr.makeFunc fn first cap).run Tryd.prog w = .ok (.func fn first cap) w := fun _ _ _ _ => rfl
  have hen : ∀ args W, (callFunc 43 args).run Tryd.prog W = .ok (.enter 43 args) W := enters_of Tryd.func43 (by kernel_rfl) rfl
  rw [rightN, if_neg (by rw [h]; decide), if_neg (by rw [h]; decide), if_pos (.inr h), Bool.and_eq_true, Bool.and_eq_true] at hr
  obtain ⟨_, _, hk⟩ := hr
  have hall : ∀ y ∈ x.f2, rightN n y = true := by
    intro y hy
    rw [Bool.not_eq_true', Bool.eq_false_iff] at hk
    by_cases hq : rightN n y = true
    · exact hq
    · exact absurd (List.any_eq_true.2 ⟨y, hy, by simp [hq]⟩) hk
  have hB := W3_below w x A c TA tags.length tc
  have KK := Lib.hid (contains_any 43 #[.pointer (some ⟨w.heap.size + 1, 0, none⟩)] (fun k => holdsN tags n k) x.f2 A c (W3 w x A c TA tags.length tc) (Kd.C_below hC hB) hc (enters_of Tryd.func43 (by kernel_rfl) rfl) (fun y hy W hW A2 c2 hc2 hC2 => holds_kid tags n ih (w.heap.size + 1) y A2 c2 W ((hG.below hB).below hW) ⟨TA, tc, keeps_cell hW (W3_tags _ _ _ _ _ _ _), Kd.C_below (Kd.C_below hTC hB) hW, htc⟩ (hall y hy) (hs.2.2 y hy) hc2 hC2))
  have hv : holdsN tags (n + 1) x = (x.f2.any (fun k => holdsN tags n k)) := by rw [holdsN, if_neg (by rw [h]; decide), if_neg (by rw [h]; decide), if_pos h]
  obtain ⟨b, hb⟩ : ∃ b, (x.f2.any (fun k => holdsN tags n k)) = b := ⟨_, rfl⟩
  rw [hv, hb]
  rw [hb] at KK
  have HB := Lib.hid hB
  clear hb hv hB hall hk hs hTC hC ih hG
  unfold W3 at KK
  unfold xv
  go_enter Tryd.func30, Tryd.ntmps30
  go_wp2_with fail
  refine KK.out.mono ?_
  rintro e w1 ⟨rfl, hb1⟩
  go_wp2_with fail
  go_ret
  exact ⟨rfl, HB.out.trans (hb1.mono HB.out.size)⟩

theorem Good.at3 {w : World} (hG : Good w) (x : S24) (A : Option Addr) (c : Nat) (TA : Option Addr) (n tc : Nat) : Good (W3 w x A c TA n tc) := hG.below (W3_below _ _ _ _ _ _ _)

theorem tags_contain (tags : List ByteArray) (s : ByteArray) (TA : Option Addr) (tc : Nat) (w : World) (hTC : Kd.C Kd.string w TA tags.length tags) : Calls Tryd.prog 46 #[.slice TA tags.length tc, .string s] w (Out w.heap.size w (.bool (Lib.containsS tags s))) := by
  rcases Nat.eq_zero_or_pos tags.length with h0 | h0
  · have e : tags = [] := List.length_eq_zero_iff.1 h0
    subst e
    refine (Tryd.slices_Contains_string_empty TA tc s w).mono ?_
    rintro e w' ⟨rfl, rfl⟩
    exact ⟨rfl, Below.refl _ _⟩
  · obtain ⟨b, off, rfl, hc⟩ := strs_cells hTC h0
    refine (Tryd.slices_Contains_string b off tags.length tc tags s w (Nat.le_refl _) hTC.2.1 hc).mono ?_
    rintro e w' ⟨rfl, rfl⟩
    rw [List.take_length]
    exact ⟨rfl, Below.refl _ _⟩

set_option maxRecDepth 100000 in
set_option maxHeartbeats 2000000 in
theorem holds_tag (tags : List ByteArray) (n : Nat) (_ih : HoldsAt tags n) (x : S24) (A : Option Addr) (c : Nat) (TA : Option Addr) (tc : Nat) (w : World) (hG : Good w) (_hr : rightN (n + 1) x = true) (hs : Sz (n + 1) x) (_hc : x.f2.length ≤ c) (_hC : Kd.C k24 w A x.f2.length x.f2) (_htc : tags.length ≤ tc) (hTC : Kd.C Kd.string w TA tags.length tags) (h0 : ¬ x.f0.toList = [33]) (h1 : ¬ x.f0.toList = [38, 38]) (h2 : ¬ x.f0.toList = [124, 124]) :
    Calls Tryd.prog 30 #[xv x A c, .slice TA tags.length tc] w (Out w.heap.size w (.bool (holdsN tags (n + 1) x))) := by
  have hmf : ∀ (fn : Fn) (first cap : Array Value) (w : World), (Instr.makeFunc fn first cap).run Tryd.prog w = .ok (.func fn first cap) w := fun _ _ _ _ => rfl
  have hen : ∀ args W, (callFunc 43 args).run Tryd.prog W = .ok (.enter 43 args) W := enters_of Tryd.func43 (by kernel_rfl) rfl
  have hB := W3_below w x A c TA tags.length tc
  have hz : x.f1.data.toList.length ≤ 140737488355328 := by rw [← size_list]; exact hs.1
  have hver := version_any x.f1.data.toList hz (hG.at3 x A c TA tags.length tc)
  rw [← bs_of] at hver
  have hcon := fun W (hW : Below (W3 w x A c TA tags.length tc).heap.size (W3 w x A c TA tags.length tc) W) => tags_contain tags x.f1 TA tc W (Kd.C_below (Kd.C_below hTC hB) hW)
  obtain ⟨v, hv⟩ : ∃ v, verB x.f1.data.toList = v := ⟨_, rfl⟩
  obtain ⟨b, hb⟩ : ∃ b, Lib.containsS tags x.f1 = b := ⟨_, rfl⟩
  have hR : holdsN tags (n + 1) x = if v = -1 then b else decide (v ≤ 24) := by rw [holdsN, if_neg h0, if_neg h1, if_neg h2, hv, hb]
  rw [hv] at hver
  rw [hb] at hcon
  rw [hR]
  have KV := Lib.hid hver
  have KC := Lib.hid hcon
  have hx1 : (W3 w x A c TA tags.length tc).cell? ⟨w.heap.size, 1, none⟩ = some (.string x.f1) := by unfold W3; exact new_cell (new_cell (by simp [go_sem]) _) _
  have hx2 := W3_tags w x A c TA tags.length tc
  have HX := Lib.hid (And.intro hx1 hx2)
  have HB := Lib.hid hB
  have e0 : (x.f0.toList == [33]) = false := by simpa using h0
  have e1 : (x.f0.toList == [38, 38]) = false := by simpa using h1
  have e2 : (x.f0.toList == [124, 124]) = false := by simpa using h2
  clear hver hcon hR hv hb hB hTC _hC hs _hr _ih hG hx1 hx2
  unfold W3 at KV KC HX HB
  unfold xv
  by_cases hm : v = -1
  · rw [if_pos hm]
    subst hm
    go_enter Tryd.func30, Tryd.ntmps30
    go_wp2_with fail
    refine KV.out.mono ?_
    rintro e w1 ⟨rfl, hb1⟩
    have y1 := keeps_cell hb1 HX.out.1
    have y2 := keeps_cell hb1 HX.out.2
    go_wp2_with fail
    refine (KC.out _ hb1).mono ?_
    rintro e w2 ⟨rfl, hb2⟩
    go_wp2_with fail
    go_ret
    exact ⟨rfl, HB.out.trans ((hb1.trans (hb2.mono hb1.size)).mono HB.out.size)⟩
  · rw [if_neg hm]
    have e3 : (v == -1) = false := by simpa using hm
    go_enter Tryd.func30, Tryd.ntmps30
    go_wp2_with fail
    refine KV.out.mono ?_
    rintro e w1 ⟨rfl, hb1⟩
    go_wp2_with fail
    go_ret
    exact ⟨rfl, HB.out.trans (hb1.mono HB.out.size)⟩

theorem holds_any (tags : List ByteArray) : ∀ n, HoldsAt tags n := by
  intro n
  induction n with
  | zero => intro x A c TA tc w _ hr; cases hr
  | succ n ih =>
    intro x A c TA tc w hG hr hs hc hC htc hTC
    by_cases h1 : x.f0.toList = [33]
    · exact holds_not tags n ih x A c TA tc w hG hr hs hc hC htc hTC h1
    · by_cases h2 : x.f0.toList = [38, 38]
      · exact holds_and tags n ih x A c TA tc w hG hr hs hc hC htc hTC h2
      · by_cases h3 : x.f0.toList = [124, 124]
        · exact holds_or tags n ih x A c TA tc w hG hr hs hc hC htc hTC h3
        · exact holds_tag tags n ih x A c TA tc w hG hr hs hc hC htc hTC h1 h2 h3

/-- What tag.Holds tells. -/
def holdsP (tags : List ByteArray) (x : S24) : Bool := rightN 100 x && holdsN tags 100 x

set_option maxRecDepth 100000 in
theorem Holds_any (tags : List ByteArray) (x : S24) (A : Option Addr) (c : Nat) (TA : Option Addr) (tc : Nat) (w : World) (hG : Good w) (hs : Sz 100 x) (hc : x.f2.length ≤ c) (hC : Kd.C k24 w A x.f2.length x.f2) (htc : tags.length ≤ tc) (hTC : Kd.C Kd.string w TA tags.length tags) :
    Calls Tryd.prog 14 #[xv x A c, .slice TA tags.length tc] w (Out w.heap.size w (.bool (holdsP tags x))) := by
  have hb0 : Below w.heap.size w (w.alloc (.cells #[.string x.f0, .string x.f1, .slice A x.f2.length c] 24)) := (Below.refl _ w).alloc (Nat.le_refl _) _
  have KR := Lib.hid (Right_any x A c (w.alloc (.cells #[.string x.f0, .string x.f1, .slice A x.f2.length c] 24)) hc (Kd.C_below hC hb0))
  have hKH := fun (hr : rightN 100 x = true) W (hW : Below w.heap.size w W) => holds_any tags 100 x A c TA tc W (hG.below hW) hr hs hc (Kd.C_below hC hW) htc (Kd.C_below hTC hW)
  have HB := Lib.hid hb0
  obtain ⟨r, hr⟩ : ∃ r, rightN 100 x = r := ⟨_, rfl⟩
  obtain ⟨b, hb⟩ : ∃ b, holdsN tags 100 x = b := ⟨_, rfl⟩
  unfold holdsP
  rw [hr, hb]
  rw [hr] at KR
  rw [hr, hb] at hKH
  have KH := Lib.hid hKH
  clear hKH hb0 hr hb hC hTC hs hG
  unfold xv at KR KH ⊢
  cases r
  · go_enter Tryd.func14, Tryd.ntmps14
    go_wp2_with fail
    refine KR.out.mono ?_
    rintro e w1 ⟨rfl, hb1⟩
    go_wp2_with fail
    go_ret
    exact ⟨rfl, HB.out.trans (hb1.mono HB.out.size)⟩
  · go_enter Tryd.func14, Tryd.ntmps14
    go_wp2_with fail
    refine KR.out.mono ?_
    rintro e w1 ⟨rfl, hb1⟩
    have hb1' := HB.out.trans (hb1.mono HB.out.size)
    have c0 := keeps_cell hb1 (show (w.alloc (.cells #[.string x.f0, .string x.f1, .slice A x.f2.length c] 24)).cell? ⟨w.heap.size, 0, none⟩ = some (.string x.f0) by simp [go_sem])
    have c1 := keeps_cell hb1 (show (w.alloc (.cells #[.string x.f0, .string x.f1, .slice A x.f2.length c] 24)).cell? ⟨w.heap.size, 1, none⟩ = some (.string x.f1) by simp [go_sem])
    have c2 := keeps_cell hb1 (show (w.alloc (.cells #[.string x.f0, .string x.f1, .slice A x.f2.length c] 24)).cell? ⟨w.heap.size, 2, none⟩ = some (.slice A x.f2.length c) by simp [go_sem])
    go_wp2_with fail
    refine (KH.out (by trivial) _ hb1').mono ?_
    rintro e w2 ⟨rfl, hb2⟩
    go_wp2_with fail
    go_ret
    exact ⟨by simp, hb1'.trans (hb2.mono hb1'.size)⟩

end Go.Proofs.YtheiakdlhpccaaaDoor
