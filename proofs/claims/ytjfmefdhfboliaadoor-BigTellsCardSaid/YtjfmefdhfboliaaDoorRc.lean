/- Functions of the references, each with its walk: sections of what the kit's printer wrote for this law, taken out by a program. -/
import Derived.Test.YtjfmefdhfboliaaDoorRb
namespace Go.Proofs.YtjfmefdhfboliaaDoor.Ref
open Go.RowKit Go.Proofs.YtjfmefdhfboliaaDoorW.PrintWords Go.Proofs.YtjfmefdhfboliaaDoorW.PrintLast Go.Proofs.YtjfmefdhfboliaaDoorW.PrintMore
attribute [local go_sem] max2_int min2_int max_two min_two max_three min_three max_four min_four
set_option linter.unusedVariables false
set_option linter.unusedSimpArgs false
/-! ### demoticref09_Do: function 35 -/
mutual
def demoticref09_Do.j0 : Nat → ByteArray → ByteArray → Bool → ByteArray → Bool → Bool → Option (ByteArray × Int)
  | 0, _, _, _, _, _, _ => none
  | k + 1, x0, x8, x9, x11, x12, x50 => if x50 = true then (some ((⟨#[]⟩ : ByteArray), 1)) else (if x0.toList = ([45] : List UInt8) then (demoticref09_Do.j1 k x0 x8 x9 x11 (!x12)) else (demoticref09_Do.j1 k x0 x8 x9 x11 x12))
def demoticref09_Do.j1 : Nat → ByteArray → ByteArray → Bool → ByteArray → Bool → Option (ByteArray × Int)
  | 0, _, _, _, _, _ => none
  | k + 1, x0, x8, x9, x11, x12 => if x0.toList = ([43] : List UInt8) then (demoticref09_Do.j2 k x8 x9 x11 x12 x0 (x0.toList == ([43] : List UInt8))) else (demoticref09_Do.j2 k x8 x9 x11 x12 x0 (x0.toList == ([45] : List UInt8)))
def demoticref09_Do.j2 : Nat → ByteArray → Bool → ByteArray → Bool → ByteArray → Bool → Option (ByteArray × Int)
  | 0, _, _, _, _, _, _ => none
  | k + 1, x8, x9, x11, x12, x55, x65 => if x65 = true then (if (x9 == x12) = true then ((demoticref09_add.f k x8 x11).bind fun t207 => ((demoticref09_signed.f t207 x9).bind fun t208 => ((demoticref09_Right.f k t208).bind fun t209 => (if t209 = true then (some (t208, 0)) else (some ((⟨#[]⟩ : ByteArray), 10)))))) else ((demoticref09_below.f x8 x11).bind fun t210 => (if t210 = true then ((demoticref09_take.f k x11 x8).bind fun t211 => ((demoticref09_signed.f t211 x12).bind fun t212 => ((demoticref09_Right.f k t212).bind fun t213 => (if t213 = true then (some (t212, 0)) else (some ((⟨#[]⟩ : ByteArray), 10)))))) else ((demoticref09_take.f k x8 x11).bind fun t214 => ((demoticref09_signed.f t214 x9).bind fun t215 => ((demoticref09_Right.f k t215).bind fun t216 => (if t216 = true then (some (t215, 0)) else (some ((⟨#[]⟩ : ByteArray), 10))))))))) else (if x55.toList = ([42] : List UInt8) then ((demoticref09_times.f k x8 x11).bind fun t217 => ((demoticref09_signed.f t217 (x9 != x12)).bind fun t218 => ((demoticref09_Right.f k t218).bind fun t219 => (if t219 = true then (some (t218, 0)) else (some ((⟨#[]⟩ : ByteArray), 10)))))) else (if x55.toList = ([47] : List UInt8) then ((demoticref09_divide.f k x8 x11).bind fun bt220 => ((demoticref09_signed.f bt220.1 (x9 != x12)).bind fun t222 => ((demoticref09_Right.f k t222).bind fun t223 => (if t223 = true then (some (t222, 0)) else (some ((⟨#[]⟩ : ByteArray), 10)))))) else ((demoticref09_divide.f k x8 x11).bind fun bt224 => ((demoticref09_signed.f bt224.2 x9).bind fun t226 => ((demoticref09_Right.f k t226).bind fun t227 => (if t227 = true then (some (t226, 0)) else (some ((⟨#[]⟩ : ByteArray), 10))))))))
end
def demoticref09_Do.f (k : Nat) (a0 : ByteArray) (a1 : ByteArray) (a2 : ByteArray) : Option (ByteArray × Int) := (demoticref09_Amount.f k a1).bind fun bt199 => ((demoticref09_Amount.f k a2).bind fun bt202 => ((demoticref09_Right.f k a1).bind fun t205 => (if t205 = true then ((demoticref09_Right.f k a2).bind fun t206 => (if t206 = true then (if a0.toList = ([47] : List UInt8) then (demoticref09_Do.j0 k a0 bt199.1 bt199.2.1 bt202.1 bt202.2.1 (bt202.1.toList == ([48] : List UInt8))) else (if a0.toList = ([37] : List UInt8) then (demoticref09_Do.j0 k a0 bt199.1 bt199.2.1 bt202.1 bt202.2.1 (bt202.1.toList == ([48] : List UInt8))) else (demoticref09_Do.j0 k a0 bt199.1 bt199.2.1 bt202.1 bt202.2.1 false))) else (demoticref09_Do.j0 k a0 bt199.1 bt199.2.1 bt202.1 bt202.2.1 true))) else (demoticref09_Do.j0 k a0 bt199.1 bt199.2.1 bt202.1 bt202.2.1 true))))
theorem demoticref09_Do.mono_l : ∀ k, (∀ y0 y1 y2 y3 y4 y5, LeO (demoticref09_Do.j0 k y0 y1 y2 y3 y4 y5) (demoticref09_Do.j0 (k + 1) y0 y1 y2 y3 y4 y5)) ∧ (∀ y0 y1 y2 y3 y4, LeO (demoticref09_Do.j1 k y0 y1 y2 y3 y4) (demoticref09_Do.j1 (k + 1) y0 y1 y2 y3 y4)) ∧ (∀ y0 y1 y2 y3 y4 y5, LeO (demoticref09_Do.j2 k y0 y1 y2 y3 y4 y5) (demoticref09_Do.j2 (k + 1) y0 y1 y2 y3 y4 y5))
  | 0 => ⟨fun _ _ _ _ _ _ r h => by simp [demoticref09_Do.j0] at h, fun _ _ _ _ _ r h => by simp [demoticref09_Do.j1] at h, fun _ _ _ _ _ _ r h => by simp [demoticref09_Do.j2] at h⟩
  | k + 1 => by
    obtain ⟨ih0, ih1, ih2⟩ := demoticref09_Do.mono_l k
    refine ⟨?_, ?_, ?_⟩
    · intro y0 y1 y2 y3 y4 y5
      unfold demoticref09_Do.j0
      repeat' first
      | (with_reducible exact ih0 _ _ _ _ _ _)
      | (with_reducible exact ih1 _ _ _ _ _)
      | (with_reducible exact ih2 _ _ _ _ _ _)
      | (with_reducible exact demoticref09_Amount.mono _ _)
      | (with_reducible exact demoticref09_Right.mono _ _)
      | (with_reducible exact demoticref09_add.mono _ _ _)
      | (with_reducible exact demoticref09_divide.mono _ _ _)
      | (with_reducible exact demoticref09_take.mono _ _ _)
      | (with_reducible exact demoticref09_times.mono _ _ _)
      | (with_reducible exact LeO.refl _)
      | (with_reducible exact LeO.none _)
      | (with_reducible refine LeO.ite ?_ ?_)
      | (with_reducible refine LeO.bind ?_ (fun _ => ?_))
      | exact ih0 _ _ _ _ _ _
      | exact ih1 _ _ _ _ _
      | exact ih2 _ _ _ _ _ _
      | exact demoticref09_Amount.mono _ _
      | exact demoticref09_Right.mono _ _
      | exact demoticref09_add.mono _ _ _
      | exact demoticref09_divide.mono _ _ _
      | exact demoticref09_take.mono _ _ _
      | exact demoticref09_times.mono _ _ _
      | exact LeO.none _
      | refine LeO.ite ?_ ?_
      | refine LeO.bind ?_ (fun _ => ?_)
    · intro y0 y1 y2 y3 y4
      unfold demoticref09_Do.j1
      repeat' first
      | (with_reducible exact ih0 _ _ _ _ _ _)
      | (with_reducible exact ih1 _ _ _ _ _)
      | (with_reducible exact ih2 _ _ _ _ _ _)
      | (with_reducible exact demoticref09_Amount.mono _ _)
      | (with_reducible exact demoticref09_Right.mono _ _)
      | (with_reducible exact demoticref09_add.mono _ _ _)
      | (with_reducible exact demoticref09_divide.mono _ _ _)
      | (with_reducible exact demoticref09_take.mono _ _ _)
      | (with_reducible exact demoticref09_times.mono _ _ _)
      | (with_reducible exact LeO.refl _)
      | (with_reducible exact LeO.none _)
      | (with_reducible refine LeO.ite ?_ ?_)
      | (with_reducible refine LeO.bind ?_ (fun _ => ?_))
      | exact ih0 _ _ _ _ _ _
      | exact ih1 _ _ _ _ _
      | exact ih2 _ _ _ _ _ _
      | exact demoticref09_Amount.mono _ _
      | exact demoticref09_Right.mono _ _
      | exact demoticref09_add.mono _ _ _
      | exact demoticref09_divide.mono _ _ _
      | exact demoticref09_take.mono _ _ _
      | exact demoticref09_times.mono _ _ _
      | exact LeO.none _
      | refine LeO.ite ?_ ?_
      | refine LeO.bind ?_ (fun _ => ?_)
    · intro y0 y1 y2 y3 y4 y5
      unfold demoticref09_Do.j2
      repeat' first
      | (with_reducible exact ih0 _ _ _ _ _ _)
      | (with_reducible exact ih1 _ _ _ _ _)
      | (with_reducible exact ih2 _ _ _ _ _ _)
      | (with_reducible exact demoticref09_Amount.mono _ _)
      | (with_reducible exact demoticref09_Right.mono _ _)
      | (with_reducible exact demoticref09_add.mono _ _ _)
      | (with_reducible exact demoticref09_divide.mono _ _ _)
      | (with_reducible exact demoticref09_take.mono _ _ _)
      | (with_reducible exact demoticref09_times.mono _ _ _)
      | (with_reducible exact LeO.refl _)
      | (with_reducible exact LeO.none _)
      | (with_reducible refine LeO.ite ?_ ?_)
      | (with_reducible refine LeO.bind ?_ (fun _ => ?_))
      | exact ih0 _ _ _ _ _ _
      | exact ih1 _ _ _ _ _
      | exact ih2 _ _ _ _ _ _
      | exact demoticref09_Amount.mono _ _
      | exact demoticref09_Right.mono _ _
      | exact demoticref09_add.mono _ _ _
      | exact demoticref09_divide.mono _ _ _
      | exact demoticref09_take.mono _ _ _
      | exact demoticref09_times.mono _ _ _
      | exact LeO.none _
      | refine LeO.ite ?_ ?_
      | refine LeO.bind ?_ (fun _ => ?_)
theorem demoticref09_Do.mono : ∀ a0 a1 a2 k, LeO (demoticref09_Do.f k a0 a1 a2) (demoticref09_Do.f (k + 1) a0 a1 a2) := by
  intro a0 a1 a2 k
  obtain ⟨ih0, ih1, ih2⟩ := demoticref09_Do.mono_l k
  unfold demoticref09_Do.f
  repeat' first
      | (with_reducible exact ih0 _ _ _ _ _ _)
      | (with_reducible exact ih1 _ _ _ _ _)
      | (with_reducible exact ih2 _ _ _ _ _ _)
      | (with_reducible exact demoticref09_Amount.mono _ _)
      | (with_reducible exact demoticref09_Right.mono _ _)
      | (with_reducible exact demoticref09_add.mono _ _ _)
      | (with_reducible exact demoticref09_divide.mono _ _ _)
      | (with_reducible exact demoticref09_take.mono _ _ _)
      | (with_reducible exact demoticref09_times.mono _ _ _)
      | (with_reducible exact LeO.refl _)
      | (with_reducible exact LeO.none _)
      | (with_reducible refine LeO.ite ?_ ?_)
      | (with_reducible refine LeO.bind ?_ (fun _ => ?_))
      | exact ih0 _ _ _ _ _ _
      | exact ih1 _ _ _ _ _
      | exact ih2 _ _ _ _ _ _
      | exact demoticref09_Amount.mono _ _
      | exact demoticref09_Right.mono _ _
      | exact demoticref09_add.mono _ _ _
      | exact demoticref09_divide.mono _ _ _
      | exact demoticref09_take.mono _ _ _
      | exact demoticref09_times.mono _ _ _
      | exact LeO.none _
      | refine LeO.ite ?_ ?_
      | refine LeO.bind ?_ (fun _ => ?_)
set_option maxHeartbeats 8000000 in
set_option maxRecDepth 100000 in
theorem demoticref09_Do.calls (k : Nat) (a0 : ByteArray) (a1 : ByteArray) (a2 : ByteArray) (r1 : ByteArray) (r2 : Int) (w : World) (h : demoticref09_Do.f k a0 a1 a2 = some (r1, r2)) :
    Calls Tryd.prog 35 #[.string a0, .string a1, .string a2] w fun e w' => e = .returned (.tuple #[.string r1, .int .i64 r2]) ∧ Below w.heap.size w w' := by
  have HB := Aside0.mk (Below.refl w.heap.size w)
  have H : ((demoticref09_Amount.f k a1).bind fun bt199 => ((demoticref09_Amount.f k a2).bind fun bt202 => ((demoticref09_Right.f k a1).bind fun t205 => (if t205 = true then ((demoticref09_Right.f k a2).bind fun t206 => (if t206 = true then (if a0.toList = ([47] : List UInt8) then (demoticref09_Do.j0 k a0 bt199.1 bt199.2.1 bt202.1 bt202.2.1 (bt202.1.toList == ([48] : List UInt8))) else (if a0.toList = ([37] : List UInt8) then (demoticref09_Do.j0 k a0 bt199.1 bt199.2.1 bt202.1 bt202.2.1 (bt202.1.toList == ([48] : List UInt8))) else (demoticref09_Do.j0 k a0 bt199.1 bt199.2.1 bt202.1 bt202.2.1 false))) else (demoticref09_Do.j0 k a0 bt199.1 bt199.2.1 bt202.1 bt202.2.1 true))) else (demoticref09_Do.j0 k a0 bt199.1 bt199.2.1 bt202.1 bt202.2.1 true))))) = some (r1, r2) := h
  clear h
  replace H := Option.bind_eq_some_iff.mp H
  obtain ⟨⟨t199, t200, t201⟩, A40, H⟩ := H
  replace H : ((demoticref09_Amount.f k a2).bind fun bt202 => ((demoticref09_Right.f k a1).bind fun t205 => (if t205 = true then ((demoticref09_Right.f k a2).bind fun t206 => (if t206 = true then (if a0.toList = ([47] : List UInt8) then (demoticref09_Do.j0 k a0 t199 t200 bt202.1 bt202.2.1 (bt202.1.toList == ([48] : List UInt8))) else (if a0.toList = ([37] : List UInt8) then (demoticref09_Do.j0 k a0 t199 t200 bt202.1 bt202.2.1 (bt202.1.toList == ([48] : List UInt8))) else (demoticref09_Do.j0 k a0 t199 t200 bt202.1 bt202.2.1 false))) else (demoticref09_Do.j0 k a0 t199 t200 bt202.1 bt202.2.1 true))) else (demoticref09_Do.j0 k a0 t199 t200 bt202.1 bt202.2.1 true)))) = some (r1, r2) := H
  have A4 := Aside0.mk A40
  clear A40
  replace H := Option.bind_eq_some_iff.mp H
  obtain ⟨⟨t202, t203, t204⟩, A50, H⟩ := H
  replace H : ((demoticref09_Right.f k a1).bind fun t205 => (if t205 = true then ((demoticref09_Right.f k a2).bind fun t206 => (if t206 = true then (if a0.toList = ([47] : List UInt8) then (demoticref09_Do.j0 k a0 t199 t200 t202 t203 (t202.toList == ([48] : List UInt8))) else (if a0.toList = ([37] : List UInt8) then (demoticref09_Do.j0 k a0 t199 t200 t202 t203 (t202.toList == ([48] : List UInt8))) else (demoticref09_Do.j0 k a0 t199 t200 t202 t203 false))) else (demoticref09_Do.j0 k a0 t199 t200 t202 t203 true))) else (demoticref09_Do.j0 k a0 t199 t200 t202 t203 true))) = some (r1, r2) := H
  have A5 := Aside0.mk A50
  clear A50
  have HC6 := Aside0.mk H
  clear H
  go_enter Tryd.func35, Tryd.ntmps35
  go_upto_region 3 with (first | ((with_reducible refine gate_callee (f := 39) rfl ?_); refine goesL_ (some 21) rfl rfl Tryd.func39 (by kernel_rfl) rfl #[.string a1] rfl (by (try simp only [List.map_toArray, List.map_cons, List.map_nil]); first | done | rfl | (simp only [List.length_drop, List.length_take]; rfl)) ?_; (with_reducible refine (demoticref09_Amount.calls k a1 t199 t200 t201 _ A4.out).mono ?_); rintro e w' ⟨rfl, ⟨nd, rfl⟩⟩; refine ⟨_, rfl, ?_⟩) | ((with_reducible refine gate_callee (f := 39) rfl ?_); refine goesL_ (some 27) rfl rfl Tryd.func39 (by kernel_rfl) rfl #[.string a2] rfl (by (try simp only [List.map_toArray, List.map_cons, List.map_nil]); first | done | rfl | (simp only [List.length_drop, List.length_take]; rfl)) ?_; (with_reducible refine (demoticref09_Amount.calls k a2 t202 t203 t204 _ A5.out).mono ?_); rintro e w' ⟨rfl, ⟨nd, rfl⟩⟩; refine ⟨_, rfl, ?_⟩))
  (try simp only [Act.put, List.setIfInBounds_toArray, List.set_cons_zero, List.set_cons_succ])
  go_cut [50] (fun v50 wc => ∃ (kq : Nat) (x50_5 : Bool), v50 = .bool x50_5 ∧ Aside0 (demoticref09_Do.j0 kq a0 t199 t200 t202 t203 x50_5 = some (r1, r2)) ∧ Aside0 (kq ≤ k) ∧ Aside0 (Below w.heap.size w wc))
  case first =>
    have H := HC6.out
    clear HC6
    replace H := Option.bind_eq_some_iff.mp H
    obtain ⟨t205, A70, H⟩ := H
    replace H : (if t205 = true then ((demoticref09_Right.f k a2).bind fun t206 => (if t206 = true then (if a0.toList = ([47] : List UInt8) then (demoticref09_Do.j0 k a0 t199 t200 t202 t203 (t202.toList == ([48] : List UInt8))) else (if a0.toList = ([37] : List UInt8) then (demoticref09_Do.j0 k a0 t199 t200 t202 t203 (t202.toList == ([48] : List UInt8))) else (demoticref09_Do.j0 k a0 t199 t200 t202 t203 false))) else (demoticref09_Do.j0 k a0 t199 t200 t202 t203 true))) else (demoticref09_Do.j0 k a0 t199 t200 t202 t203 true)) = some (r1, r2) := H
    have A7 := Aside0.mk A70
    clear A70
    by_cases c8 : t205 = true
    · subst c8
      have H1 : ((demoticref09_Right.f k a2).bind fun t206 => (if t206 = true then (if a0.toList = ([47] : List UInt8) then (demoticref09_Do.j0 k a0 t199 t200 t202 t203 (t202.toList == ([48] : List UInt8))) else (if a0.toList = ([37] : List UInt8) then (demoticref09_Do.j0 k a0 t199 t200 t202 t203 (t202.toList == ([48] : List UInt8))) else (demoticref09_Do.j0 k a0 t199 t200 t202 t203 false))) else (demoticref09_Do.j0 k a0 t199 t200 t202 t203 true))) = some (r1, r2) := by rw [if_pos rfl] at H; exact H
      clear H
      have H := H1
      clear H1
      replace H := Option.bind_eq_some_iff.mp H
      obtain ⟨t206, A90, H⟩ := H
      replace H : (if t206 = true then (if a0.toList = ([47] : List UInt8) then (demoticref09_Do.j0 k a0 t199 t200 t202 t203 (t202.toList == ([48] : List UInt8))) else (if a0.toList = ([37] : List UInt8) then (demoticref09_Do.j0 k a0 t199 t200 t202 t203 (t202.toList == ([48] : List UInt8))) else (demoticref09_Do.j0 k a0 t199 t200 t202 t203 false))) else (demoticref09_Do.j0 k a0 t199 t200 t202 t203 true)) = some (r1, r2) := H
      have A9 := Aside0.mk A90
      clear A90
      by_cases c10 : t206 = true
      · subst c10
        have H1 : (if a0.toList = ([47] : List UInt8) then (demoticref09_Do.j0 k a0 t199 t200 t202 t203 (t202.toList == ([48] : List UInt8))) else (if a0.toList = ([37] : List UInt8) then (demoticref09_Do.j0 k a0 t199 t200 t202 t203 (t202.toList == ([48] : List UInt8))) else (demoticref09_Do.j0 k a0 t199 t200 t202 t203 false))) = some (r1, r2) := by rw [if_pos rfl] at H; exact H
        clear H
        have H := H1
        clear H1
        by_cases c11 : a0.toList = ([47] : List UInt8)
        · rw [if_pos c11] at H
          have c11b0 : (a0.toList == ([47] : List UInt8)) = true := beq_iff_eq.mpr c11
          have c11b1 : (a0.toList != ([47] : List UInt8)) = false := bne_eq_false_iff_eq.mpr c11
          clear c11
          (first | rw [c11b0] | (simp only [i64_w, i32_w]; rw [c11b0]) | skip)
          have H' := Aside0.mk H
          clear H
          go_wp2_with (first | ((with_reducible refine gate_callee (f := 24) rfl ?_); refine goesL_ (some 32) rfl rfl Tryd.func24 (by kernel_rfl) rfl #[.string a1] rfl (by (try simp only [List.map_toArray, List.map_cons, List.map_nil]); first | done | rfl | (simp only [List.length_drop, List.length_take]; rfl)) ?_; (with_reducible refine (demoticref09_Right.calls k a1 true _ A7.out).mono ?_); rintro e w12 ⟨rfl, hb⟩; refine ⟨_, rfl, ?_⟩; have n0_ := Aside0.mk (below_step (by repeat (first | (with_reducible first | exact HB.out | apply below_alloc | apply pw_below_drewN | apply below_drew1) | exact HB.out)) hb); clear HB; have HB := n0_; clear n0_; (try clear hb); (try clear hb2); (try clear hk); (try clear hi)) | (go_at_call 24; (with_reducible refine (demoticref09_Right.calls k a2 true _ A9.out).mono ?_); rintro e w13 ⟨rfl, hb⟩; have n0_ := Aside0.mk (below_step (by repeat (first | (with_reducible first | exact HB.out | apply below_alloc | apply pw_below_drewN | apply below_drew1) | exact HB.out)) hb); clear HB; have HB := n0_; clear n0_; (try clear hb); (try clear hb2); (try clear hk); (try clear hi)))
          go_meet
          case rel => exact ⟨_, ((t202.toList == ([48] : List UInt8))), (by first | rfl | (simp; done) | (simp [*]; done)), H', ⟨by first | omega | exact Nat.le_refl _⟩, ⟨by repeat (first | (with_reducible first | exact HB.out | apply below_alloc | apply pw_below_drewN | apply below_drew1) | exact HB.out)⟩⟩
        · rw [if_neg c11] at H
          have c11b0 : (a0.toList == ([47] : List UInt8)) = false := beq_eq_false_iff_ne.mpr c11
          have c11b1 : (a0.toList != ([47] : List UInt8)) = true := bne_iff_ne.mpr c11
          (first | rw [c11b0] | (simp only [i64_w, i32_w]; rw [c11b0]) | skip)
          by_cases c14 : a0.toList = ([37] : List UInt8)
          · rw [if_pos c14] at H
            have c14b0 : (a0.toList == ([37] : List UInt8)) = true := beq_iff_eq.mpr c14
            have c14b1 : (a0.toList != ([37] : List UInt8)) = false := bne_eq_false_iff_eq.mpr c14
            clear c14
            have H' := Aside0.mk H
            clear H
            go_wp2_with (first | ((with_reducible refine gate_callee (f := 24) rfl ?_); refine goesL_ (some 32) rfl rfl Tryd.func24 (by kernel_rfl) rfl #[.string a1] rfl (by (try simp only [List.map_toArray, List.map_cons, List.map_nil]); first | done | rfl | (simp only [List.length_drop, List.length_take]; rfl)) ?_; (with_reducible refine (demoticref09_Right.calls k a1 true _ A7.out).mono ?_); rintro e w15 ⟨rfl, hb⟩; refine ⟨_, rfl, ?_⟩; have n0_ := Aside0.mk (below_step (by repeat (first | (with_reducible first | exact HB.out | apply below_alloc | apply pw_below_drewN | apply below_drew1) | exact HB.out)) hb); clear HB; have HB := n0_; clear n0_; (try clear hb); (try clear hb2); (try clear hk); (try clear hi)) | (go_at_call 24; (with_reducible refine (demoticref09_Right.calls k a2 true _ A9.out).mono ?_); rintro e w16 ⟨rfl, hb⟩; have n0_ := Aside0.mk (below_step (by repeat (first | (with_reducible first | exact HB.out | apply below_alloc | apply pw_below_drewN | apply below_drew1) | exact HB.out)) hb); clear HB; have HB := n0_; clear n0_; (try clear hb); (try clear hb2); (try clear hk); (try clear hi)))
            go_meet
            case rel => exact ⟨_, ((t202.toList == ([48] : List UInt8))), (by first | rfl | (simp; done) | (simp [*]; done)), H', ⟨by first | omega | exact Nat.le_refl _⟩, ⟨by repeat (first | (with_reducible first | exact HB.out | apply below_alloc | apply pw_below_drewN | apply below_drew1) | exact HB.out)⟩⟩
          · rw [if_neg c14] at H
            have c14b0 : (a0.toList == ([37] : List UInt8)) = false := beq_eq_false_iff_ne.mpr c14
            have c14b1 : (a0.toList != ([37] : List UInt8)) = true := bne_iff_ne.mpr c14
            have H' := Aside0.mk H
            clear H
            go_wp2_with (first | ((with_reducible refine gate_callee (f := 24) rfl ?_); refine goesL_ (some 32) rfl rfl Tryd.func24 (by kernel_rfl) rfl #[.string a1] rfl (by (try simp only [List.map_toArray, List.map_cons, List.map_nil]); first | done | rfl | (simp only [List.length_drop, List.length_take]; rfl)) ?_; (with_reducible refine (demoticref09_Right.calls k a1 true _ A7.out).mono ?_); rintro e w17 ⟨rfl, hb⟩; refine ⟨_, rfl, ?_⟩; have n0_ := Aside0.mk (below_step (by repeat (first | (with_reducible first | exact HB.out | apply below_alloc | apply pw_below_drewN | apply below_drew1) | exact HB.out)) hb); clear HB; have HB := n0_; clear n0_; (try clear hb); (try clear hb2); (try clear hk); (try clear hi)) | (go_at_call 24; (with_reducible refine (demoticref09_Right.calls k a2 true _ A9.out).mono ?_); rintro e w18 ⟨rfl, hb⟩; have n0_ := Aside0.mk (below_step (by repeat (first | (with_reducible first | exact HB.out | apply below_alloc | apply pw_below_drewN | apply below_drew1) | exact HB.out)) hb); clear HB; have HB := n0_; clear n0_; (try clear hb); (try clear hb2); (try clear hk); (try clear hi)))
            go_meet
            case rel => exact ⟨_, (false), (by first | rfl | (simp; done) | (simp [*]; done)), H', ⟨by first | omega | exact Nat.le_refl _⟩, ⟨by repeat (first | (with_reducible first | exact HB.out | apply below_alloc | apply pw_below_drewN | apply below_drew1) | exact HB.out)⟩⟩
      · replace c10 := Bool.eq_false_iff.mpr c10
        subst c10
        have H1 : (demoticref09_Do.j0 k a0 t199 t200 t202 t203 true) = some (r1, r2) := by rw [if_neg (show ¬ (false = true) by decide)] at H; exact H
        clear H
        have H := H1
        clear H1
        have H' := Aside0.mk H
        clear H
        go_wp2_with (first | ((with_reducible refine gate_callee (f := 24) rfl ?_); refine goesL_ (some 32) rfl rfl Tryd.func24 (by kernel_rfl) rfl #[.string a1] rfl (by (try simp only [List.map_toArray, List.map_cons, List.map_nil]); first | done | rfl | (simp only [List.length_drop, List.length_take]; rfl)) ?_; (with_reducible refine (demoticref09_Right.calls k a1 true _ A7.out).mono ?_); rintro e w19 ⟨rfl, hb⟩; refine ⟨_, rfl, ?_⟩; have n0_ := Aside0.mk (below_step (by repeat (first | (with_reducible first | exact HB.out | apply below_alloc | apply pw_below_drewN | apply below_drew1) | exact HB.out)) hb); clear HB; have HB := n0_; clear n0_; (try clear hb); (try clear hb2); (try clear hk); (try clear hi)) | (go_at_call 24; (with_reducible refine (demoticref09_Right.calls k a2 false _ A9.out).mono ?_); rintro e w20 ⟨rfl, hb⟩; have n0_ := Aside0.mk (below_step (by repeat (first | (with_reducible first | exact HB.out | apply below_alloc | apply pw_below_drewN | apply below_drew1) | exact HB.out)) hb); clear HB; have HB := n0_; clear n0_; (try clear hb); (try clear hb2); (try clear hk); (try clear hi)))
        go_meet
        case rel => exact ⟨_, (true), (by first | rfl | (simp; done) | (simp [*]; done)), H', ⟨by first | omega | exact Nat.le_refl _⟩, ⟨by repeat (first | (with_reducible first | exact HB.out | apply below_alloc | apply pw_below_drewN | apply below_drew1) | exact HB.out)⟩⟩
    · replace c8 := Bool.eq_false_iff.mpr c8
      subst c8
      have H1 : (demoticref09_Do.j0 k a0 t199 t200 t202 t203 true) = some (r1, r2) := by rw [if_neg (show ¬ (false = true) by decide)] at H; exact H
      clear H
      have H := H1
      clear H1
      have H' := Aside0.mk H
      clear H
      go_wp2_with (first | ((with_reducible refine gate_callee (f := 24) rfl ?_); refine goesL_ (some 32) rfl rfl Tryd.func24 (by kernel_rfl) rfl #[.string a1] rfl (by (try simp only [List.map_toArray, List.map_cons, List.map_nil]); first | done | rfl | (simp only [List.length_drop, List.length_take]; rfl)) ?_; (with_reducible refine (demoticref09_Right.calls k a1 false _ A7.out).mono ?_); rintro e w21 ⟨rfl, hb⟩; refine ⟨_, rfl, ?_⟩; have n0_ := Aside0.mk (below_step (by repeat (first | (with_reducible first | exact HB.out | apply below_alloc | apply pw_below_drewN | apply below_drew1) | exact HB.out)) hb); clear HB; have HB := n0_; clear n0_; (try clear hb); (try clear hb2); (try clear hk); (try clear hi)))
      go_meet
      case rel => exact ⟨_, (true), (by first | rfl | (simp; done) | (simp [*]; done)), H', ⟨by first | omega | exact Nat.le_refl _⟩, ⟨by repeat (first | (with_reducible first | exact HB.out | apply below_alloc | apply pw_below_drewN | apply below_drew1) | exact HB.out)⟩⟩
  case rest =>
    clear HC6
    try clear c1
    try clear c2
    try clear p2
    try clear c3
    try clear c8
    try clear c10
    try clear c11
    try clear c11b0
    try clear c11b1
    try clear c14
    try clear c14b0
    try clear c14b1
    obtain ⟨kq, x50_5, rfl, HA, HJ5, HB⟩ := hcut
    cases kq with
    | zero => exact absurd HA.out (by simp [demoticref09_Do.j0])
    | succ kj5 =>
      have H := HA.out
      clear HA
      simp only [demoticref09_Do.j0] at H
      by_cases c22 : x50_5 = true
      · subst c22
        have H1 : (some ((⟨#[]⟩ : ByteArray), 1)) = some (r1, r2) := by rw [if_pos rfl] at H; exact H
        clear H
        have H := H1
        clear H1
        simp only [Option.some.injEq, Prod.mk.injEq] at H
        obtain ⟨rfl, rfl⟩ := H
        go_wp2
        go_ret2
        exact ⟨by first | rfl | (simp [errW_none, errW_some] <;> rfl) | (simp [*, errW_none, errW_some] <;> rfl), by repeat (first | (with_reducible first | exact HB.out | apply below_alloc | apply pw_below_drewN | apply below_drew1) | exact HB.out)⟩
      · replace c22 := Bool.eq_false_iff.mpr c22
        subst c22
        have H1 : (if a0.toList = ([45] : List UInt8) then (demoticref09_Do.j1 kj5 a0 t199 t200 t202 (!t203)) else (demoticref09_Do.j1 kj5 a0 t199 t200 t202 t203)) = some (r1, r2) := by rw [if_neg (show ¬ (false = true) by decide)] at H; exact H
        clear H
        have H := H1
        clear H1
        have HC23 := Aside0.mk H
        clear H
        go_upto_if 52 with (fail)
        go_cut [12] (fun v12 wc => ∃ (kq : Nat) (x12_22 : Bool), v12 = .bool x12_22 ∧ Aside0 (demoticref09_Do.j1 kq a0 t199 t200 t202 x12_22 = some (r1, r2)) ∧ Aside0 (kq ≤ kj5) ∧ Aside0 (Below w.heap.size w wc))
        case first =>
          have H := HC23.out
          clear HC23
          by_cases c24 : a0.toList = ([45] : List UInt8)
          · rw [if_pos c24] at H
            have c24b0 : (a0.toList == ([45] : List UInt8)) = true := beq_iff_eq.mpr c24
            have c24b1 : (a0.toList != ([45] : List UInt8)) = false := bne_eq_false_iff_eq.mpr c24
            clear c24
            (first | rw [c24b0] | (simp only [i64_w, i32_w]; rw [c24b0]) | skip)
            have H' := Aside0.mk H
            clear H
            go_wp2
            go_meet
            case rel => exact ⟨_, (!t203), (by first | rfl | (simp; done) | (simp [*]; done)), H', ⟨by have := HJ5.out; first | omega | exact Nat.le_refl _⟩, ⟨by repeat (first | (with_reducible first | exact HB.out | apply below_alloc | apply pw_below_drewN | apply below_drew1) | exact HB.out)⟩⟩
          · rw [if_neg c24] at H
            have c24b0 : (a0.toList == ([45] : List UInt8)) = false := beq_eq_false_iff_ne.mpr c24
            have c24b1 : (a0.toList != ([45] : List UInt8)) = true := bne_iff_ne.mpr c24
            (first | rw [c24b0] | (simp only [i64_w, i32_w]; rw [c24b0]) | skip)
            have H' := Aside0.mk H
            clear H
            go_wp2
            go_meet
            case rel => exact ⟨_, (t203), (by first | rfl | (simp; done) | (simp [*]; done)), H', ⟨by have := HJ5.out; first | omega | exact Nat.le_refl _⟩, ⟨by repeat (first | (with_reducible first | exact HB.out | apply below_alloc | apply pw_below_drewN | apply below_drew1) | exact HB.out)⟩⟩
        case rest =>
          clear HC23
          try clear c1
          try clear c2
          try clear p2
          try clear c3
          try clear c8
          try clear c10
          try clear c11
          try clear c11b0
          try clear c11b1
          try clear c14
          try clear c14b0
          try clear c14b1
          try clear c22
          try clear c24
          try clear c24b0
          try clear c24b1
          try clear p2
          obtain ⟨kq, x12_22, rfl, HA, HJ22, HB⟩ := hcut
          cases kq with
          | zero => exact absurd HA.out (by simp [demoticref09_Do.j1])
          | succ kj22 =>
            have H := HA.out
            clear HA
            simp only [demoticref09_Do.j1] at H
            have HC25 := Aside0.mk H
            clear H
            go_upto_if 65 with (fail)
            go_cut [65] (fun v65 wc => ∃ (kq : Nat) (x65_24 : Bool), v65 = .bool x65_24 ∧ Aside0 (demoticref09_Do.j2 kq t199 t200 t202 x12_22 a0 x65_24 = some (r1, r2)) ∧ Aside0 (kq ≤ kj22) ∧ Aside0 (Below w.heap.size w wc))
            case first =>
              have H := HC25.out
              clear HC25
              by_cases c26 : a0.toList = ([43] : List UInt8)
              · rw [if_pos c26] at H
                have c26b0 : (a0.toList == ([43] : List UInt8)) = true := beq_iff_eq.mpr c26
                have c26b1 : (a0.toList != ([43] : List UInt8)) = false := bne_eq_false_iff_eq.mpr c26
                clear c26
                (first | rw [c26b0] | (simp only [i64_w, i32_w]; rw [c26b0]) | skip)
                have H' := Aside0.mk H
                clear H
                go_wp2
                go_meet
                case rel => exact ⟨_, ((a0.toList == ([43] : List UInt8))), (by first | rfl | (simp; done) | (simp [*]; done)), H', ⟨by have := HJ5.out; have := HJ22.out; first | omega | exact Nat.le_refl _⟩, ⟨by repeat (first | (with_reducible first | exact HB.out | apply below_alloc | apply pw_below_drewN | apply below_drew1) | exact HB.out)⟩⟩
              · rw [if_neg c26] at H
                have c26b0 : (a0.toList == ([43] : List UInt8)) = false := beq_eq_false_iff_ne.mpr c26
                have c26b1 : (a0.toList != ([43] : List UInt8)) = true := bne_iff_ne.mpr c26
                (first | rw [c26b0] | (simp only [i64_w, i32_w]; rw [c26b0]) | skip)
                have H' := Aside0.mk H
                clear H
                go_wp2
                go_meet
                case rel => exact ⟨_, ((a0.toList == ([45] : List UInt8))), (by first | rfl | (simp; done) | (simp [*]; done)), H', ⟨by have := HJ5.out; have := HJ22.out; first | omega | exact Nat.le_refl _⟩, ⟨by repeat (first | (with_reducible first | exact HB.out | apply below_alloc | apply pw_below_drewN | apply below_drew1) | exact HB.out)⟩⟩
            case rest =>
              clear HC25
              try clear c1
              try clear c2
              try clear p2
              try clear c3
              try clear c8
              try clear c10
              try clear c11
              try clear c11b0
              try clear c11b1
              try clear c14
              try clear c14b0
              try clear c14b1
              try clear c22
              try clear c24
              try clear c24b0
              try clear c24b1
              try clear c26
              try clear c26b0
              try clear c26b1
              try clear p2
              obtain ⟨kq, x65_24, rfl, HA, HJ24, HB⟩ := hcut
              cases kq with
              | zero => exact absurd HA.out (by simp [demoticref09_Do.j2])
              | succ kj24 =>
                have H := HA.out
                clear HA
                simp only [demoticref09_Do.j2] at H
                by_cases c27 : x65_24 = true
                · subst c27
                  have H1 : (if (t200 == x12_22) = true then ((demoticref09_add.f kj24 t199 t202).bind fun t207 => ((demoticref09_signed.f t207 t200).bind fun t208 => ((demoticref09_Right.f kj24 t208).bind fun t209 => (if t209 = true then (some (t208, 0)) else (some ((⟨#[]⟩ : ByteArray), 10)))))) else ((demoticref09_below.f t199 t202).bind fun t210 => (if t210 = true then ((demoticref09_take.f kj24 t202 t199).bind fun t211 => ((demoticref09_signed.f t211 x12_22).bind fun t212 => ((demoticref09_Right.f kj24 t212).bind fun t213 => (if t213 = true then (some (t212, 0)) else (some ((⟨#[]⟩ : ByteArray), 10)))))) else ((demoticref09_take.f kj24 t199 t202).bind fun t214 => ((demoticref09_signed.f t214 t200).bind fun t215 => ((demoticref09_Right.f kj24 t215).bind fun t216 => (if t216 = true then (some (t215, 0)) else (some ((⟨#[]⟩ : ByteArray), 10))))))))) = some (r1, r2) := by rw [if_pos rfl] at H; exact H
                  clear H
                  have H := H1
                  clear H1
                  by_cases c28 : (t200 == x12_22) = true
                  · rw [if_pos c28] at H
                    have c28b0 : (t200 == x12_22) = true := c28
                    (try (have c28b1 : decide (t200 = x12_22) = true := by simpa using c28))
                    (try (have c28b2 : (t200 == x12_22) = true := by simpa using c28))
                    clear c28
                    replace H := Option.bind_eq_some_iff.mp H
                    obtain ⟨t207, A290, H⟩ := H
                    replace H : ((demoticref09_signed.f t207 t200).bind fun t208 => ((demoticref09_Right.f kj24 t208).bind fun t209 => (if t209 = true then (some (t208, 0)) else (some ((⟨#[]⟩ : ByteArray), 10))))) = some (r1, r2) := H
                    have A29 := Aside0.mk A290
                    clear A290
                    replace H := Option.bind_eq_some_iff.mp H
                    obtain ⟨t208, A300, H⟩ := H
                    replace H : ((demoticref09_Right.f kj24 t208).bind fun t209 => (if t209 = true then (some (t208, 0)) else (some ((⟨#[]⟩ : ByteArray), 10)))) = some (r1, r2) := H
                    have A30 := Aside0.mk A300
                    clear A300
                    replace H := Option.bind_eq_some_iff.mp H
                    obtain ⟨t209, A310, H⟩ := H
                    replace H : (if t209 = true then (some (t208, 0)) else (some ((⟨#[]⟩ : ByteArray), 10))) = some (r1, r2) := H
                    have A31 := Aside0.mk A310
                    clear A310
                    by_cases c32 : t209 = true
                    · subst c32
                      have H1 : (some (t208, 0)) = some (r1, r2) := by rw [if_pos rfl] at H; exact H
                      clear H
                      have H := H1
                      clear H1
                      simp only [Option.some.injEq, Prod.mk.injEq] at H
                      obtain ⟨rfl, rfl⟩ := H
                      go_wp2_with (first | ((with_reducible refine gate_callee (f := 52) rfl ?_); refine goesL_ (some 79) rfl rfl Tryd.func52 (by kernel_rfl) rfl #[.string t199, .string t202] rfl (by (try simp only [List.map_toArray, List.map_cons, List.map_nil]); first | done | rfl | (simp only [List.length_drop, List.length_take]; rfl)) ?_; (with_reducible refine (demoticref09_add.calls kj24 t199 t202 t207 _ A29.out).mono ?_); rintro e w33 ⟨rfl, hb⟩; refine ⟨_, rfl, ?_⟩; have n0_ := Aside0.mk (below_step (by repeat (first | (with_reducible first | exact HB.out | apply below_alloc | apply pw_below_drewN | apply below_drew1) | exact HB.out)) hb); clear HB; have HB := n0_; clear n0_; (try clear hb); (try clear hb2); (try clear hk); (try clear hi)) | ((with_reducible refine gate_callee (f := 51) rfl ?_); refine goesL_ (some 81) rfl rfl Tryd.func51 (by kernel_rfl) rfl #[.string t207, .bool t200] rfl (by (try simp only [List.map_toArray, List.map_cons, List.map_nil]); first | done | rfl | (simp only [List.length_drop, List.length_take]; rfl)) ?_; (with_reducible refine (demoticref09_signed.calls t207 t200 t208 _ A30.out).mono ?_); rintro e w' ⟨rfl, ⟨nd, rfl⟩⟩; refine ⟨_, rfl, ?_⟩) | ((with_reducible refine gate_callee (f := 24) rfl ?_); refine goesL_ (some 114) rfl rfl Tryd.func24 (by kernel_rfl) rfl #[.string t208] rfl (by (try simp only [List.map_toArray, List.map_cons, List.map_nil]); first | done | rfl | (simp only [List.length_drop, List.length_take]; rfl)) ?_; (with_reducible refine (demoticref09_Right.calls kj24 t208 true _ A31.out).mono ?_); rintro e w34 ⟨rfl, hb⟩; refine ⟨_, rfl, ?_⟩; have n0_ := Aside0.mk (below_step (by repeat (first | (with_reducible first | exact HB.out | apply below_alloc | apply pw_below_drewN | apply below_drew1) | exact HB.out)) hb); clear HB; have HB := n0_; clear n0_; (try clear hb); (try clear hb2); (try clear hk); (try clear hi)))
                      go_ret2
                      exact ⟨by first | rfl | (simp [errW_none, errW_some] <;> rfl) | (simp [*, errW_none, errW_some] <;> rfl), by repeat (first | (with_reducible first | exact HB.out | apply below_alloc | apply pw_below_drewN | apply below_drew1) | exact HB.out)⟩
                    · replace c32 := Bool.eq_false_iff.mpr c32
                      subst c32
                      have H1 : (some ((⟨#[]⟩ : ByteArray), 10)) = some (r1, r2) := by rw [if_neg (show ¬ (false = true) by decide)] at H; exact H
                      clear H
                      have H := H1
                      clear H1
                      simp only [Option.some.injEq, Prod.mk.injEq] at H
                      obtain ⟨rfl, rfl⟩ := H
                      go_wp2_with (first | ((with_reducible refine gate_callee (f := 52) rfl ?_); refine goesL_ (some 79) rfl rfl Tryd.func52 (by kernel_rfl) rfl #[.string t199, .string t202] rfl (by (try simp only [List.map_toArray, List.map_cons, List.map_nil]); first | done | rfl | (simp only [List.length_drop, List.length_take]; rfl)) ?_; (with_reducible refine (demoticref09_add.calls kj24 t199 t202 t207 _ A29.out).mono ?_); rintro e w35 ⟨rfl, hb⟩; refine ⟨_, rfl, ?_⟩; have n0_ := Aside0.mk (below_step (by repeat (first | (with_reducible first | exact HB.out | apply below_alloc | apply pw_below_drewN | apply below_drew1) | exact HB.out)) hb); clear HB; have HB := n0_; clear n0_; (try clear hb); (try clear hb2); (try clear hk); (try clear hi)) | ((with_reducible refine gate_callee (f := 51) rfl ?_); refine goesL_ (some 81) rfl rfl Tryd.func51 (by kernel_rfl) rfl #[.string t207, .bool t200] rfl (by (try simp only [List.map_toArray, List.map_cons, List.map_nil]); first | done | rfl | (simp only [List.length_drop, List.length_take]; rfl)) ?_; (with_reducible refine (demoticref09_signed.calls t207 t200 t208 _ A30.out).mono ?_); rintro e w' ⟨rfl, ⟨nd, rfl⟩⟩; refine ⟨_, rfl, ?_⟩) | ((with_reducible refine gate_callee (f := 24) rfl ?_); refine goesL_ (some 114) rfl rfl Tryd.func24 (by kernel_rfl) rfl #[.string t208] rfl (by (try simp only [List.map_toArray, List.map_cons, List.map_nil]); first | done | rfl | (simp only [List.length_drop, List.length_take]; rfl)) ?_; (with_reducible refine (demoticref09_Right.calls kj24 t208 false _ A31.out).mono ?_); rintro e w36 ⟨rfl, hb⟩; refine ⟨_, rfl, ?_⟩; have n0_ := Aside0.mk (below_step (by repeat (first | (with_reducible first | exact HB.out | apply below_alloc | apply pw_below_drewN | apply below_drew1) | exact HB.out)) hb); clear HB; have HB := n0_; clear n0_; (try clear hb); (try clear hb2); (try clear hk); (try clear hi)))
                      go_ret2
                      exact ⟨by first | rfl | (simp [errW_none, errW_some] <;> rfl) | (simp [*, errW_none, errW_some] <;> rfl), by repeat (first | (with_reducible first | exact HB.out | apply below_alloc | apply pw_below_drewN | apply below_drew1) | exact HB.out)⟩
                  · rw [if_neg c28] at H
                    have c28b0 : (t200 == x12_22) = false := by simpa using c28
                    (try (have c28b1 : decide (t200 = x12_22) = false := by simpa using c28))
                    (try (have c28b2 : (t200 == x12_22) = false := by simpa using c28))
                    (try (have c28b3 : ¬ (t200 = x12_22) := by simpa using c28))
                    clear c28
                    replace H := Option.bind_eq_some_iff.mp H
                    obtain ⟨t210, A370, H⟩ := H
                    replace H : (if t210 = true then ((demoticref09_take.f kj24 t202 t199).bind fun t211 => ((demoticref09_signed.f t211 x12_22).bind fun t212 => ((demoticref09_Right.f kj24 t212).bind fun t213 => (if t213 = true then (some (t212, 0)) else (some ((⟨#[]⟩ : ByteArray), 10)))))) else ((demoticref09_take.f kj24 t199 t202).bind fun t214 => ((demoticref09_signed.f t214 t200).bind fun t215 => ((demoticref09_Right.f kj24 t215).bind fun t216 => (if t216 = true then (some (t215, 0)) else (some ((⟨#[]⟩ : ByteArray), 10))))))) = some (r1, r2) := H
                    have A37 := Aside0.mk A370
                    clear A370
                    by_cases c38 : t210 = true
                    · subst c38
                      have H1 : ((demoticref09_take.f kj24 t202 t199).bind fun t211 => ((demoticref09_signed.f t211 x12_22).bind fun t212 => ((demoticref09_Right.f kj24 t212).bind fun t213 => (if t213 = true then (some (t212, 0)) else (some ((⟨#[]⟩ : ByteArray), 10)))))) = some (r1, r2) := by rw [if_pos rfl] at H; exact H
                      clear H
                      have H := H1
                      clear H1
                      replace H := Option.bind_eq_some_iff.mp H
                      obtain ⟨t211, A390, H⟩ := H
                      replace H : ((demoticref09_signed.f t211 x12_22).bind fun t212 => ((demoticref09_Right.f kj24 t212).bind fun t213 => (if t213 = true then (some (t212, 0)) else (some ((⟨#[]⟩ : ByteArray), 10))))) = some (r1, r2) := H
                      have A39 := Aside0.mk A390
                      clear A390
                      replace H := Option.bind_eq_some_iff.mp H
                      obtain ⟨t212, A400, H⟩ := H
                      replace H : ((demoticref09_Right.f kj24 t212).bind fun t213 => (if t213 = true then (some (t212, 0)) else (some ((⟨#[]⟩ : ByteArray), 10)))) = some (r1, r2) := H
                      have A40 := Aside0.mk A400
                      clear A400
                      replace H := Option.bind_eq_some_iff.mp H
                      obtain ⟨t213, A410, H⟩ := H
                      replace H : (if t213 = true then (some (t212, 0)) else (some ((⟨#[]⟩ : ByteArray), 10))) = some (r1, r2) := H
                      have A41 := Aside0.mk A410
                      clear A410
                      by_cases c42 : t213 = true
                      · subst c42
                        have H1 : (some (t212, 0)) = some (r1, r2) := by rw [if_pos rfl] at H; exact H
                        clear H
                        have H := H1
                        clear H1
                        simp only [Option.some.injEq, Prod.mk.injEq] at H
                        obtain ⟨rfl, rfl⟩ := H
                        go_wp2_with (first | ((with_reducible refine gate_callee (f := 40) rfl ?_); refine goesL_ (some 85) rfl rfl Tryd.func40 (by kernel_rfl) rfl #[.string t199, .string t202] rfl (by (try simp only [List.map_toArray, List.map_cons, List.map_nil]); first | done | rfl | (simp only [List.length_drop, List.length_take]; rfl)) ?_; (with_reducible refine (demoticref09_below.calls t199 t202 true _ A37.out).mono ?_); rintro e w' ⟨rfl, ⟨nd, rfl⟩⟩; refine ⟨_, rfl, ?_⟩) | ((with_reducible refine gate_callee (f := 53) rfl ?_); refine goesL_ (some 88) rfl rfl Tryd.func53 (by kernel_rfl) rfl #[.string t202, .string t199] rfl (by (try simp only [List.map_toArray, List.map_cons, List.map_nil]); first | done | rfl | (simp only [List.length_drop, List.length_take]; rfl)) ?_; (with_reducible refine (demoticref09_take.calls kj24 t202 t199 t211 _ A39.out).mono ?_); rintro e w43 ⟨rfl, hb⟩; refine ⟨_, rfl, ?_⟩; have n0_ := Aside0.mk (below_step (by repeat (first | (with_reducible first | exact HB.out | apply below_alloc | apply pw_below_drewN | apply below_drew1) | exact HB.out)) hb); clear HB; have HB := n0_; clear n0_; (try clear hb); (try clear hb2); (try clear hk); (try clear hi)) | ((with_reducible refine gate_callee (f := 51) rfl ?_); refine goesL_ (some 90) rfl rfl Tryd.func51 (by kernel_rfl) rfl #[.string t211, .bool x12_22] rfl (by (try simp only [List.map_toArray, List.map_cons, List.map_nil]); first | done | rfl | (simp only [List.length_drop, List.length_take]; rfl)) ?_; (with_reducible refine (demoticref09_signed.calls t211 x12_22 t212 _ A40.out).mono ?_); rintro e w' ⟨rfl, ⟨nd, rfl⟩⟩; refine ⟨_, rfl, ?_⟩) | ((with_reducible refine gate_callee (f := 24) rfl ?_); refine goesL_ (some 114) rfl rfl Tryd.func24 (by kernel_rfl) rfl #[.string t212] rfl (by (try simp only [List.map_toArray, List.map_cons, List.map_nil]); first | done | rfl | (simp only [List.length_drop, List.length_take]; rfl)) ?_; (with_reducible refine (demoticref09_Right.calls kj24 t212 true _ A41.out).mono ?_); rintro e w44 ⟨rfl, hb⟩; refine ⟨_, rfl, ?_⟩; have n0_ := Aside0.mk (below_step (by repeat (first | (with_reducible first | exact HB.out | apply below_alloc | apply pw_below_drewN | apply below_drew1) | exact HB.out)) hb); clear HB; have HB := n0_; clear n0_; (try clear hb); (try clear hb2); (try clear hk); (try clear hi)))
                        go_ret2
                        exact ⟨by first | rfl | (simp [errW_none, errW_some] <;> rfl) | (simp [*, errW_none, errW_some] <;> rfl), by repeat (first | (with_reducible first | exact HB.out | apply below_alloc | apply pw_below_drewN | apply below_drew1) | exact HB.out)⟩
                      · replace c42 := Bool.eq_false_iff.mpr c42
                        subst c42
                        have H1 : (some ((⟨#[]⟩ : ByteArray), 10)) = some (r1, r2) := by rw [if_neg (show ¬ (false = true) by decide)] at H; exact H
                        clear H
                        have H := H1
                        clear H1
                        simp only [Option.some.injEq, Prod.mk.injEq] at H
                        obtain ⟨rfl, rfl⟩ := H
                        go_wp2_with (first | ((with_reducible refine gate_callee (f := 40) rfl ?_); refine goesL_ (some 85) rfl rfl Tryd.func40 (by kernel_rfl) rfl #[.string t199, .string t202] rfl (by (try simp only [List.map_toArray, List.map_cons, List.map_nil]); first | done | rfl | (simp only [List.length_drop, List.length_take]; rfl)) ?_; (with_reducible refine (demoticref09_below.calls t199 t202 true _ A37.out).mono ?_); rintro e w' ⟨rfl, ⟨nd, rfl⟩⟩; refine ⟨_, rfl, ?_⟩) | ((with_reducible refine gate_callee (f := 53) rfl ?_); refine goesL_ (some 88) rfl rfl Tryd.func53 (by kernel_rfl) rfl #[.string t202, .string t199] rfl (by (try simp only [List.map_toArray, List.map_cons, List.map_nil]); first | done | rfl | (simp only [List.length_drop, List.length_take]; rfl)) ?_; (with_reducible refine (demoticref09_take.calls kj24 t202 t199 t211 _ A39.out).mono ?_); rintro e w45 ⟨rfl, hb⟩; refine ⟨_, rfl, ?_⟩; have n0_ := Aside0.mk (below_step (by repeat (first | (with_reducible first | exact HB.out | apply below_alloc | apply pw_below_drewN | apply below_drew1) | exact HB.out)) hb); clear HB; have HB := n0_; clear n0_; (try clear hb); (try clear hb2); (try clear hk); (try clear hi)) | ((with_reducible refine gate_callee (f := 51) rfl ?_); refine goesL_ (some 90) rfl rfl Tryd.func51 (by kernel_rfl) rfl #[.string t211, .bool x12_22] rfl (by (try simp only [List.map_toArray, List.map_cons, List.map_nil]); first | done | rfl | (simp only [List.length_drop, List.length_take]; rfl)) ?_; (with_reducible refine (demoticref09_signed.calls t211 x12_22 t212 _ A40.out).mono ?_); rintro e w' ⟨rfl, ⟨nd, rfl⟩⟩; refine ⟨_, rfl, ?_⟩) | ((with_reducible refine gate_callee (f := 24) rfl ?_); refine goesL_ (some 114) rfl rfl Tryd.func24 (by kernel_rfl) rfl #[.string t212] rfl (by (try simp only [List.map_toArray, List.map_cons, List.map_nil]); first | done | rfl | (simp only [List.length_drop, List.length_take]; rfl)) ?_; (with_reducible refine (demoticref09_Right.calls kj24 t212 false _ A41.out).mono ?_); rintro e w46 ⟨rfl, hb⟩; refine ⟨_, rfl, ?_⟩; have n0_ := Aside0.mk (below_step (by repeat (first | (with_reducible first | exact HB.out | apply below_alloc | apply pw_below_drewN | apply below_drew1) | exact HB.out)) hb); clear HB; have HB := n0_; clear n0_; (try clear hb); (try clear hb2); (try clear hk); (try clear hi)))
                        go_ret2
                        exact ⟨by first | rfl | (simp [errW_none, errW_some] <;> rfl) | (simp [*, errW_none, errW_some] <;> rfl), by repeat (first | (with_reducible first | exact HB.out | apply below_alloc | apply pw_below_drewN | apply below_drew1) | exact HB.out)⟩
                    · replace c38 := Bool.eq_false_iff.mpr c38
                      subst c38
                      have H1 : ((demoticref09_take.f kj24 t199 t202).bind fun t214 => ((demoticref09_signed.f t214 t200).bind fun t215 => ((demoticref09_Right.f kj24 t215).bind fun t216 => (if t216 = true then (some (t215, 0)) else (some ((⟨#[]⟩ : ByteArray), 10)))))) = some (r1, r2) := by rw [if_neg (show ¬ (false = true) by decide)] at H; exact H
                      clear H
                      have H := H1
                      clear H1
                      replace H := Option.bind_eq_some_iff.mp H
                      obtain ⟨t214, A470, H⟩ := H
                      replace H : ((demoticref09_signed.f t214 t200).bind fun t215 => ((demoticref09_Right.f kj24 t215).bind fun t216 => (if t216 = true then (some (t215, 0)) else (some ((⟨#[]⟩ : ByteArray), 10))))) = some (r1, r2) := H
                      have A47 := Aside0.mk A470
                      clear A470
                      replace H := Option.bind_eq_some_iff.mp H
                      obtain ⟨t215, A480, H⟩ := H
                      replace H : ((demoticref09_Right.f kj24 t215).bind fun t216 => (if t216 = true then (some (t215, 0)) else (some ((⟨#[]⟩ : ByteArray), 10)))) = some (r1, r2) := H
                      have A48 := Aside0.mk A480
                      clear A480
                      replace H := Option.bind_eq_some_iff.mp H
                      obtain ⟨t216, A490, H⟩ := H
                      replace H : (if t216 = true then (some (t215, 0)) else (some ((⟨#[]⟩ : ByteArray), 10))) = some (r1, r2) := H
                      have A49 := Aside0.mk A490
                      clear A490
                      by_cases c50 : t216 = true
                      · subst c50
                        have H1 : (some (t215, 0)) = some (r1, r2) := by rw [if_pos rfl] at H; exact H
                        clear H
                        have H := H1
                        clear H1
                        simp only [Option.some.injEq, Prod.mk.injEq] at H
                        obtain ⟨rfl, rfl⟩ := H
                        go_wp2_with (first | ((with_reducible refine gate_callee (f := 40) rfl ?_); refine goesL_ (some 85) rfl rfl Tryd.func40 (by kernel_rfl) rfl #[.string t199, .string t202] rfl (by (try simp only [List.map_toArray, List.map_cons, List.map_nil]); first | done | rfl | (simp only [List.length_drop, List.length_take]; rfl)) ?_; (with_reducible refine (demoticref09_below.calls t199 t202 false _ A37.out).mono ?_); rintro e w' ⟨rfl, ⟨nd, rfl⟩⟩; refine ⟨_, rfl, ?_⟩) | ((with_reducible refine gate_callee (f := 53) rfl ?_); refine goesL_ (some 70) rfl rfl Tryd.func53 (by kernel_rfl) rfl #[.string t199, .string t202] rfl (by (try simp only [List.map_toArray, List.map_cons, List.map_nil]); first | done | rfl | (simp only [List.length_drop, List.length_take]; rfl)) ?_; (with_reducible refine (demoticref09_take.calls kj24 t199 t202 t214 _ A47.out).mono ?_); rintro e w51 ⟨rfl, hb⟩; refine ⟨_, rfl, ?_⟩; have n0_ := Aside0.mk (below_step (by repeat (first | (with_reducible first | exact HB.out | apply below_alloc | apply pw_below_drewN | apply below_drew1) | exact HB.out)) hb); clear HB; have HB := n0_; clear n0_; (try clear hb); (try clear hb2); (try clear hk); (try clear hi)) | ((with_reducible refine gate_callee (f := 51) rfl ?_); refine goesL_ (some 72) rfl rfl Tryd.func51 (by kernel_rfl) rfl #[.string t214, .bool t200] rfl (by (try simp only [List.map_toArray, List.map_cons, List.map_nil]); first | done | rfl | (simp only [List.length_drop, List.length_take]; rfl)) ?_; (with_reducible refine (demoticref09_signed.calls t214 t200 t215 _ A48.out).mono ?_); rintro e w' ⟨rfl, ⟨nd, rfl⟩⟩; refine ⟨_, rfl, ?_⟩) | ((with_reducible refine gate_callee (f := 24) rfl ?_); refine goesL_ (some 114) rfl rfl Tryd.func24 (by kernel_rfl) rfl #[.string t215] rfl (by (try simp only [List.map_toArray, List.map_cons, List.map_nil]); first | done | rfl | (simp only [List.length_drop, List.length_take]; rfl)) ?_; (with_reducible refine (demoticref09_Right.calls kj24 t215 true _ A49.out).mono ?_); rintro e w52 ⟨rfl, hb⟩; refine ⟨_, rfl, ?_⟩; have n0_ := Aside0.mk (below_step (by repeat (first | (with_reducible first | exact HB.out | apply below_alloc | apply pw_below_drewN | apply below_drew1) | exact HB.out)) hb); clear HB; have HB := n0_; clear n0_; (try clear hb); (try clear hb2); (try clear hk); (try clear hi)))
                        go_ret2
                        exact ⟨by first | rfl | (simp [errW_none, errW_some] <;> rfl) | (simp [*, errW_none, errW_some] <;> rfl), by repeat (first | (with_reducible first | exact HB.out | apply below_alloc | apply pw_below_drewN | apply below_drew1) | exact HB.out)⟩
                      · replace c50 := Bool.eq_false_iff.mpr c50
                        subst c50
                        have H1 : (some ((⟨#[]⟩ : ByteArray), 10)) = some (r1, r2) := by rw [if_neg (show ¬ (false = true) by decide)] at H; exact H
                        clear H
                        have H := H1
                        clear H1
                        simp only [Option.some.injEq, Prod.mk.injEq] at H
                        obtain ⟨rfl, rfl⟩ := H
                        go_wp2_with (first | ((with_reducible refine gate_callee (f := 40) rfl ?_); refine goesL_ (some 85) rfl rfl Tryd.func40 (by kernel_rfl) rfl #[.string t199, .string t202] rfl (by (try simp only [List.map_toArray, List.map_cons, List.map_nil]); first | done | rfl | (simp only [List.length_drop, List.length_take]; rfl)) ?_; (with_reducible refine (demoticref09_below.calls t199 t202 false _ A37.out).mono ?_); rintro e w' ⟨rfl, ⟨nd, rfl⟩⟩; refine ⟨_, rfl, ?_⟩) | ((with_reducible refine gate_callee (f := 53) rfl ?_); refine goesL_ (some 70) rfl rfl Tryd.func53 (by kernel_rfl) rfl #[.string t199, .string t202] rfl (by (try simp only [List.map_toArray, List.map_cons, List.map_nil]); first | done | rfl | (simp only [List.length_drop, List.length_take]; rfl)) ?_; (with_reducible refine (demoticref09_take.calls kj24 t199 t202 t214 _ A47.out).mono ?_); rintro e w53 ⟨rfl, hb⟩; refine ⟨_, rfl, ?_⟩; have n0_ := Aside0.mk (below_step (by repeat (first | (with_reducible first | exact HB.out | apply below_alloc | apply pw_below_drewN | apply below_drew1) | exact HB.out)) hb); clear HB; have HB := n0_; clear n0_; (try clear hb); (try clear hb2); (try clear hk); (try clear hi)) | ((with_reducible refine gate_callee (f := 51) rfl ?_); refine goesL_ (some 72) rfl rfl Tryd.func51 (by kernel_rfl) rfl #[.string t214, .bool t200] rfl (by (try simp only [List.map_toArray, List.map_cons, List.map_nil]); first | done | rfl | (simp only [List.length_drop, List.length_take]; rfl)) ?_; (with_reducible refine (demoticref09_signed.calls t214 t200 t215 _ A48.out).mono ?_); rintro e w' ⟨rfl, ⟨nd, rfl⟩⟩; refine ⟨_, rfl, ?_⟩) | ((with_reducible refine gate_callee (f := 24) rfl ?_); refine goesL_ (some 114) rfl rfl Tryd.func24 (by kernel_rfl) rfl #[.string t215] rfl (by (try simp only [List.map_toArray, List.map_cons, List.map_nil]); first | done | rfl | (simp only [List.length_drop, List.length_take]; rfl)) ?_; (with_reducible refine (demoticref09_Right.calls kj24 t215 false _ A49.out).mono ?_); rintro e w54 ⟨rfl, hb⟩; refine ⟨_, rfl, ?_⟩; have n0_ := Aside0.mk (below_step (by repeat (first | (with_reducible first | exact HB.out | apply below_alloc | apply pw_below_drewN | apply below_drew1) | exact HB.out)) hb); clear HB; have HB := n0_; clear n0_; (try clear hb); (try clear hb2); (try clear hk); (try clear hi)))
                        go_ret2
                        exact ⟨by first | rfl | (simp [errW_none, errW_some] <;> rfl) | (simp [*, errW_none, errW_some] <;> rfl), by repeat (first | (with_reducible first | exact HB.out | apply below_alloc | apply pw_below_drewN | apply below_drew1) | exact HB.out)⟩
                · replace c27 := Bool.eq_false_iff.mpr c27
                  subst c27
                  have H1 : (if a0.toList = ([42] : List UInt8) then ((demoticref09_times.f kj24 t199 t202).bind fun t217 => ((demoticref09_signed.f t217 (t200 != x12_22)).bind fun t218 => ((demoticref09_Right.f kj24 t218).bind fun t219 => (if t219 = true then (some (t218, 0)) else (some ((⟨#[]⟩ : ByteArray), 10)))))) else (if a0.toList = ([47] : List UInt8) then ((demoticref09_divide.f kj24 t199 t202).bind fun bt220 => ((demoticref09_signed.f bt220.1 (t200 != x12_22)).bind fun t222 => ((demoticref09_Right.f kj24 t222).bind fun t223 => (if t223 = true then (some (t222, 0)) else (some ((⟨#[]⟩ : ByteArray), 10)))))) else ((demoticref09_divide.f kj24 t199 t202).bind fun bt224 => ((demoticref09_signed.f bt224.2 t200).bind fun t226 => ((demoticref09_Right.f kj24 t226).bind fun t227 => (if t227 = true then (some (t226, 0)) else (some ((⟨#[]⟩ : ByteArray), 10)))))))) = some (r1, r2) := by rw [if_neg (show ¬ (false = true) by decide)] at H; exact H
                  clear H
                  have H := H1
                  clear H1
                  by_cases c55 : a0.toList = ([42] : List UInt8)
                  · rw [if_pos c55] at H
                    have c55b0 : (a0.toList == ([42] : List UInt8)) = true := beq_iff_eq.mpr c55
                    have c55b1 : (a0.toList != ([42] : List UInt8)) = false := bne_eq_false_iff_eq.mpr c55
                    clear c55
                    replace H := Option.bind_eq_some_iff.mp H
                    obtain ⟨t217, A560, H⟩ := H
                    replace H : ((demoticref09_signed.f t217 (t200 != x12_22)).bind fun t218 => ((demoticref09_Right.f kj24 t218).bind fun t219 => (if t219 = true then (some (t218, 0)) else (some ((⟨#[]⟩ : ByteArray), 10))))) = some (r1, r2) := H
                    have A56 := Aside0.mk A560
                    clear A560
                    replace H := Option.bind_eq_some_iff.mp H
                    obtain ⟨t218, A570, H⟩ := H
                    replace H : ((demoticref09_Right.f kj24 t218).bind fun t219 => (if t219 = true then (some (t218, 0)) else (some ((⟨#[]⟩ : ByteArray), 10)))) = some (r1, r2) := H
                    have A57 := Aside0.mk A570
                    clear A570
                    replace H := Option.bind_eq_some_iff.mp H
                    obtain ⟨t219, A580, H⟩ := H
                    replace H : (if t219 = true then (some (t218, 0)) else (some ((⟨#[]⟩ : ByteArray), 10))) = some (r1, r2) := H
                    have A58 := Aside0.mk A580
                    clear A580
                    by_cases c59 : t219 = true
                    · subst c59
                      have H1 : (some (t218, 0)) = some (r1, r2) := by rw [if_pos rfl] at H; exact H
                      clear H
                      have H := H1
                      clear H1
                      simp only [Option.some.injEq, Prod.mk.injEq] at H
                      obtain ⟨rfl, rfl⟩ := H
                      go_wp2_with (first | ((with_reducible refine gate_callee (f := 54) rfl ?_); refine goesL_ (some 95) rfl rfl Tryd.func54 (by kernel_rfl) rfl #[.string t199, .string t202] rfl (by (try simp only [List.map_toArray, List.map_cons, List.map_nil]); first | done | rfl | (simp only [List.length_drop, List.length_take]; rfl)) ?_; (with_reducible refine (demoticref09_times.calls kj24 t199 t202 t217 _ A56.out).mono ?_); rintro e w60 ⟨rfl, hb⟩; refine ⟨_, rfl, ?_⟩; have n0_ := Aside0.mk (below_step (by repeat (first | (with_reducible first | exact HB.out | apply below_alloc | apply pw_below_drewN | apply below_drew1) | exact HB.out)) hb); clear HB; have HB := n0_; clear n0_; (try clear hb); (try clear hb2); (try clear hk); (try clear hi)) | ((with_reducible refine gate_callee (f := 51) rfl ?_); refine goesL_ (some 99) rfl rfl Tryd.func51 (by kernel_rfl) rfl #[.string t217, .bool (t200 != x12_22)] rfl (by (try simp only [List.map_toArray, List.map_cons, List.map_nil]); first | done | rfl | (simp only [List.length_drop, List.length_take]; rfl)) ?_; (with_reducible refine (demoticref09_signed.calls t217 (t200 != x12_22) t218 _ A57.out).mono ?_); rintro e w' ⟨rfl, ⟨nd, rfl⟩⟩; refine ⟨_, rfl, ?_⟩) | ((with_reducible refine gate_callee (f := 24) rfl ?_); refine goesL_ (some 114) rfl rfl Tryd.func24 (by kernel_rfl) rfl #[.string t218] rfl (by (try simp only [List.map_toArray, List.map_cons, List.map_nil]); first | done | rfl | (simp only [List.length_drop, List.length_take]; rfl)) ?_; (with_reducible refine (demoticref09_Right.calls kj24 t218 true _ A58.out).mono ?_); rintro e w61 ⟨rfl, hb⟩; refine ⟨_, rfl, ?_⟩; have n0_ := Aside0.mk (below_step (by repeat (first | (with_reducible first | exact HB.out | apply below_alloc | apply pw_below_drewN | apply below_drew1) | exact HB.out)) hb); clear HB; have HB := n0_; clear n0_; (try clear hb); (try clear hb2); (try clear hk); (try clear hi)))
                      go_ret2
                      exact ⟨by first | rfl | (simp [errW_none, errW_some] <;> rfl) | (simp [*, errW_none, errW_some] <;> rfl), by repeat (first | (with_reducible first | exact HB.out | apply below_alloc | apply pw_below_drewN | apply below_drew1) | exact HB.out)⟩
                    · replace c59 := Bool.eq_false_iff.mpr c59
                      subst c59
                      have H1 : (some ((⟨#[]⟩ : ByteArray), 10)) = some (r1, r2) := by rw [if_neg (show ¬ (false = true) by decide)] at H; exact H
                      clear H
                      have H := H1
                      clear H1
                      simp only [Option.some.injEq, Prod.mk.injEq] at H
                      obtain ⟨rfl, rfl⟩ := H
                      go_wp2_with (first | ((with_reducible refine gate_callee (f := 54) rfl ?_); refine goesL_ (some 95) rfl rfl Tryd.func54 (by kernel_rfl) rfl #[.string t199, .string t202] rfl (by (try simp only [List.map_toArray, List.map_cons, List.map_nil]); first | done | rfl | (simp only [List.length_drop, List.length_take]; rfl)) ?_; (with_reducible refine (demoticref09_times.calls kj24 t199 t202 t217 _ A56.out).mono ?_); rintro e w62 ⟨rfl, hb⟩; refine ⟨_, rfl, ?_⟩; have n0_ := Aside0.mk (below_step (by repeat (first | (with_reducible first | exact HB.out | apply below_alloc | apply pw_below_drewN | apply below_drew1) | exact HB.out)) hb); clear HB; have HB := n0_; clear n0_; (try clear hb); (try clear hb2); (try clear hk); (try clear hi)) | ((with_reducible refine gate_callee (f := 51) rfl ?_); refine goesL_ (some 99) rfl rfl Tryd.func51 (by kernel_rfl) rfl #[.string t217, .bool (t200 != x12_22)] rfl (by (try simp only [List.map_toArray, List.map_cons, List.map_nil]); first | done | rfl | (simp only [List.length_drop, List.length_take]; rfl)) ?_; (with_reducible refine (demoticref09_signed.calls t217 (t200 != x12_22) t218 _ A57.out).mono ?_); rintro e w' ⟨rfl, ⟨nd, rfl⟩⟩; refine ⟨_, rfl, ?_⟩) | ((with_reducible refine gate_callee (f := 24) rfl ?_); refine goesL_ (some 114) rfl rfl Tryd.func24 (by kernel_rfl) rfl #[.string t218] rfl (by (try simp only [List.map_toArray, List.map_cons, List.map_nil]); first | done | rfl | (simp only [List.length_drop, List.length_take]; rfl)) ?_; (with_reducible refine (demoticref09_Right.calls kj24 t218 false _ A58.out).mono ?_); rintro e w63 ⟨rfl, hb⟩; refine ⟨_, rfl, ?_⟩; have n0_ := Aside0.mk (below_step (by repeat (first | (with_reducible first | exact HB.out | apply below_alloc | apply pw_below_drewN | apply below_drew1) | exact HB.out)) hb); clear HB; have HB := n0_; clear n0_; (try clear hb); (try clear hb2); (try clear hk); (try clear hi)))
                      go_ret2
                      exact ⟨by first | rfl | (simp [errW_none, errW_some] <;> rfl) | (simp [*, errW_none, errW_some] <;> rfl), by repeat (first | (with_reducible first | exact HB.out | apply below_alloc | apply pw_below_drewN | apply below_drew1) | exact HB.out)⟩
                  · rw [if_neg c55] at H
                    have c55b0 : (a0.toList == ([42] : List UInt8)) = false := beq_eq_false_iff_ne.mpr c55
                    have c55b1 : (a0.toList != ([42] : List UInt8)) = true := bne_iff_ne.mpr c55
                    by_cases c64 : a0.toList = ([47] : List UInt8)
                    · rw [if_pos c64] at H
                      have c64b0 : (a0.toList == ([47] : List UInt8)) = true := beq_iff_eq.mpr c64
                      have c64b1 : (a0.toList != ([47] : List UInt8)) = false := bne_eq_false_iff_eq.mpr c64
                      clear c64
                      replace H := Option.bind_eq_some_iff.mp H
                      obtain ⟨⟨t220, t221⟩, A650, H⟩ := H
                      replace H : ((demoticref09_signed.f t220 (t200 != x12_22)).bind fun t222 => ((demoticref09_Right.f kj24 t222).bind fun t223 => (if t223 = true then (some (t222, 0)) else (some ((⟨#[]⟩ : ByteArray), 10))))) = some (r1, r2) := H
                      have A65 := Aside0.mk A650
                      clear A650
                      replace H := Option.bind_eq_some_iff.mp H
                      obtain ⟨t222, A660, H⟩ := H
                      replace H : ((demoticref09_Right.f kj24 t222).bind fun t223 => (if t223 = true then (some (t222, 0)) else (some ((⟨#[]⟩ : ByteArray), 10)))) = some (r1, r2) := H
                      have A66 := Aside0.mk A660
                      clear A660
                      replace H := Option.bind_eq_some_iff.mp H
                      obtain ⟨t223, A670, H⟩ := H
                      replace H : (if t223 = true then (some (t222, 0)) else (some ((⟨#[]⟩ : ByteArray), 10))) = some (r1, r2) := H
                      have A67 := Aside0.mk A670
                      clear A670
                      by_cases c68 : t223 = true
                      · subst c68
                        have H1 : (some (t222, 0)) = some (r1, r2) := by rw [if_pos rfl] at H; exact H
                        clear H
                        have H := H1
                        clear H1
                        simp only [Option.some.injEq, Prod.mk.injEq] at H
                        obtain ⟨rfl, rfl⟩ := H
                        go_wp2_with (first | ((with_reducible refine gate_callee (f := 55) rfl ?_); refine goesL_ (some 105) rfl rfl Tryd.func55 (by kernel_rfl) rfl #[.string t199, .string t202] rfl (by (try simp only [List.map_toArray, List.map_cons, List.map_nil]); first | done | rfl | (simp only [List.length_drop, List.length_take]; rfl)) ?_; (with_reducible refine (demoticref09_divide.calls kj24 t199 t202 t220 t221 _ A65.out).mono ?_); rintro e w69 ⟨rfl, hb⟩; refine ⟨_, rfl, ?_⟩; have n0_ := Aside0.mk (below_step (by repeat (first | (with_reducible first | exact HB.out | apply below_alloc | apply pw_below_drewN | apply below_drew1) | exact HB.out)) hb); clear HB; have HB := n0_; clear n0_; (try clear hb); (try clear hb2); (try clear hk); (try clear hi)) | ((with_reducible refine gate_callee (f := 51) rfl ?_); refine goesL_ (some 112) rfl rfl Tryd.func51 (by kernel_rfl) rfl #[.string t220, .bool (t200 != x12_22)] rfl (by (try simp only [List.map_toArray, List.map_cons, List.map_nil]); first | done | rfl | (simp only [List.length_drop, List.length_take]; rfl)) ?_; (with_reducible refine (demoticref09_signed.calls t220 (t200 != x12_22) t222 _ A66.out).mono ?_); rintro e w' ⟨rfl, ⟨nd, rfl⟩⟩; refine ⟨_, rfl, ?_⟩) | ((with_reducible refine gate_callee (f := 24) rfl ?_); refine goesL_ (some 114) rfl rfl Tryd.func24 (by kernel_rfl) rfl #[.string t222] rfl (by (try simp only [List.map_toArray, List.map_cons, List.map_nil]); first | done | rfl | (simp only [List.length_drop, List.length_take]; rfl)) ?_; (with_reducible refine (demoticref09_Right.calls kj24 t222 true _ A67.out).mono ?_); rintro e w70 ⟨rfl, hb⟩; refine ⟨_, rfl, ?_⟩; have n0_ := Aside0.mk (below_step (by repeat (first | (with_reducible first | exact HB.out | apply below_alloc | apply pw_below_drewN | apply below_drew1) | exact HB.out)) hb); clear HB; have HB := n0_; clear n0_; (try clear hb); (try clear hb2); (try clear hk); (try clear hi)))
                        go_ret2
                        exact ⟨by first | rfl | (simp [errW_none, errW_some] <;> rfl) | (simp [*, errW_none, errW_some] <;> rfl), by repeat (first | (with_reducible first | exact HB.out | apply below_alloc | apply pw_below_drewN | apply below_drew1) | exact HB.out)⟩
                      · replace c68 := Bool.eq_false_iff.mpr c68
                        subst c68
                        have H1 : (some ((⟨#[]⟩ : ByteArray), 10)) = some (r1, r2) := by rw [if_neg (show ¬ (false = true) by decide)] at H; exact H
                        clear H
                        have H := H1
                        clear H1
                        simp only [Option.some.injEq, Prod.mk.injEq] at H
                        obtain ⟨rfl, rfl⟩ := H
                        go_wp2_with (first | ((with_reducible refine gate_callee (f := 55) rfl ?_); refine goesL_ (some 105) rfl rfl Tryd.func55 (by kernel_rfl) rfl #[.string t199, .string t202] rfl (by (try simp only [List.map_toArray, List.map_cons, List.map_nil]); first | done | rfl | (simp only [List.length_drop, List.length_take]; rfl)) ?_; (with_reducible refine (demoticref09_divide.calls kj24 t199 t202 t220 t221 _ A65.out).mono ?_); rintro e w71 ⟨rfl, hb⟩; refine ⟨_, rfl, ?_⟩; have n0_ := Aside0.mk (below_step (by repeat (first | (with_reducible first | exact HB.out | apply below_alloc | apply pw_below_drewN | apply below_drew1) | exact HB.out)) hb); clear HB; have HB := n0_; clear n0_; (try clear hb); (try clear hb2); (try clear hk); (try clear hi)) | ((with_reducible refine gate_callee (f := 51) rfl ?_); refine goesL_ (some 112) rfl rfl Tryd.func51 (by kernel_rfl) rfl #[.string t220, .bool (t200 != x12_22)] rfl (by (try simp only [List.map_toArray, List.map_cons, List.map_nil]); first | done | rfl | (simp only [List.length_drop, List.length_take]; rfl)) ?_; (with_reducible refine (demoticref09_signed.calls t220 (t200 != x12_22) t222 _ A66.out).mono ?_); rintro e w' ⟨rfl, ⟨nd, rfl⟩⟩; refine ⟨_, rfl, ?_⟩) | ((with_reducible refine gate_callee (f := 24) rfl ?_); refine goesL_ (some 114) rfl rfl Tryd.func24 (by kernel_rfl) rfl #[.string t222] rfl (by (try simp only [List.map_toArray, List.map_cons, List.map_nil]); first | done | rfl | (simp only [List.length_drop, List.length_take]; rfl)) ?_; (with_reducible refine (demoticref09_Right.calls kj24 t222 false _ A67.out).mono ?_); rintro e w72 ⟨rfl, hb⟩; refine ⟨_, rfl, ?_⟩; have n0_ := Aside0.mk (below_step (by repeat (first | (with_reducible first | exact HB.out | apply below_alloc | apply pw_below_drewN | apply below_drew1) | exact HB.out)) hb); clear HB; have HB := n0_; clear n0_; (try clear hb); (try clear hb2); (try clear hk); (try clear hi)))
                        go_ret2
                        exact ⟨by first | rfl | (simp [errW_none, errW_some] <;> rfl) | (simp [*, errW_none, errW_some] <;> rfl), by repeat (first | (with_reducible first | exact HB.out | apply below_alloc | apply pw_below_drewN | apply below_drew1) | exact HB.out)⟩
                    · rw [if_neg c64] at H
                      have c64b0 : (a0.toList == ([47] : List UInt8)) = false := beq_eq_false_iff_ne.mpr c64
                      have c64b1 : (a0.toList != ([47] : List UInt8)) = true := bne_iff_ne.mpr c64
                      replace H := Option.bind_eq_some_iff.mp H
                      obtain ⟨⟨t224, t225⟩, A730, H⟩ := H
                      replace H : ((demoticref09_signed.f t225 t200).bind fun t226 => ((demoticref09_Right.f kj24 t226).bind fun t227 => (if t227 = true then (some (t226, 0)) else (some ((⟨#[]⟩ : ByteArray), 10))))) = some (r1, r2) := H
                      have A73 := Aside0.mk A730
                      clear A730
                      replace H := Option.bind_eq_some_iff.mp H
                      obtain ⟨t226, A740, H⟩ := H
                      replace H : ((demoticref09_Right.f kj24 t226).bind fun t227 => (if t227 = true then (some (t226, 0)) else (some ((⟨#[]⟩ : ByteArray), 10)))) = some (r1, r2) := H
                      have A74 := Aside0.mk A740
                      clear A740
                      replace H := Option.bind_eq_some_iff.mp H
                      obtain ⟨t227, A750, H⟩ := H
                      replace H : (if t227 = true then (some (t226, 0)) else (some ((⟨#[]⟩ : ByteArray), 10))) = some (r1, r2) := H
                      have A75 := Aside0.mk A750
                      clear A750
                      by_cases c76 : t227 = true
                      · subst c76
                        have H1 : (some (t226, 0)) = some (r1, r2) := by rw [if_pos rfl] at H; exact H
                        clear H
                        have H := H1
                        clear H1
                        simp only [Option.some.injEq, Prod.mk.injEq] at H
                        obtain ⟨rfl, rfl⟩ := H
                        go_wp2_with (first | ((with_reducible refine gate_callee (f := 55) rfl ?_); refine goesL_ (some 59) rfl rfl Tryd.func55 (by kernel_rfl) rfl #[.string t199, .string t202] rfl (by (try simp only [List.map_toArray, List.map_cons, List.map_nil]); first | done | rfl | (simp only [List.length_drop, List.length_take]; rfl)) ?_; (with_reducible refine (demoticref09_divide.calls kj24 t199 t202 t224 t225 _ A73.out).mono ?_); rintro e w77 ⟨rfl, hb⟩; refine ⟨_, rfl, ?_⟩; have n0_ := Aside0.mk (below_step (by repeat (first | (with_reducible first | exact HB.out | apply below_alloc | apply pw_below_drewN | apply below_drew1) | exact HB.out)) hb); clear HB; have HB := n0_; clear n0_; (try clear hb); (try clear hb2); (try clear hk); (try clear hi)) | ((with_reducible refine gate_callee (f := 51) rfl ?_); refine goesL_ (some 64) rfl rfl Tryd.func51 (by kernel_rfl) rfl #[.string t225, .bool t200] rfl (by (try simp only [List.map_toArray, List.map_cons, List.map_nil]); first | done | rfl | (simp only [List.length_drop, List.length_take]; rfl)) ?_; (with_reducible refine (demoticref09_signed.calls t225 t200 t226 _ A74.out).mono ?_); rintro e w' ⟨rfl, ⟨nd, rfl⟩⟩; refine ⟨_, rfl, ?_⟩) | ((with_reducible refine gate_callee (f := 24) rfl ?_); refine goesL_ (some 114) rfl rfl Tryd.func24 (by kernel_rfl) rfl #[.string t226] rfl (by (try simp only [List.map_toArray, List.map_cons, List.map_nil]); first | done | rfl | (simp only [List.length_drop, List.length_take]; rfl)) ?_; (with_reducible refine (demoticref09_Right.calls kj24 t226 true _ A75.out).mono ?_); rintro e w78 ⟨rfl, hb⟩; refine ⟨_, rfl, ?_⟩; have n0_ := Aside0.mk (below_step (by repeat (first | (with_reducible first | exact HB.out | apply below_alloc | apply pw_below_drewN | apply below_drew1) | exact HB.out)) hb); clear HB; have HB := n0_; clear n0_; (try clear hb); (try clear hb2); (try clear hk); (try clear hi)))
                        go_ret2
                        exact ⟨by first | rfl | (simp [errW_none, errW_some] <;> rfl) | (simp [*, errW_none, errW_some] <;> rfl), by repeat (first | (with_reducible first | exact HB.out | apply below_alloc | apply pw_below_drewN | apply below_drew1) | exact HB.out)⟩
                      · replace c76 := Bool.eq_false_iff.mpr c76
                        subst c76
                        have H1 : (some ((⟨#[]⟩ : ByteArray), 10)) = some (r1, r2) := by rw [if_neg (show ¬ (false = true) by decide)] at H; exact H
                        clear H
                        have H := H1
                        clear H1
                        simp only [Option.some.injEq, Prod.mk.injEq] at H
                        obtain ⟨rfl, rfl⟩ := H
                        go_wp2_with (first | ((with_reducible refine gate_callee (f := 55) rfl ?_); refine goesL_ (some 59) rfl rfl Tryd.func55 (by kernel_rfl) rfl #[.string t199, .string t202] rfl (by (try simp only [List.map_toArray, List.map_cons, List.map_nil]); first | done | rfl | (simp only [List.length_drop, List.length_take]; rfl)) ?_; (with_reducible refine (demoticref09_divide.calls kj24 t199 t202 t224 t225 _ A73.out).mono ?_); rintro e w79 ⟨rfl, hb⟩; refine ⟨_, rfl, ?_⟩; have n0_ := Aside0.mk (below_step (by repeat (first | (with_reducible first | exact HB.out | apply below_alloc | apply pw_below_drewN | apply below_drew1) | exact HB.out)) hb); clear HB; have HB := n0_; clear n0_; (try clear hb); (try clear hb2); (try clear hk); (try clear hi)) | ((with_reducible refine gate_callee (f := 51) rfl ?_); refine goesL_ (some 64) rfl rfl Tryd.func51 (by kernel_rfl) rfl #[.string t225, .bool t200] rfl (by (try simp only [List.map_toArray, List.map_cons, List.map_nil]); first | done | rfl | (simp only [List.length_drop, List.length_take]; rfl)) ?_; (with_reducible refine (demoticref09_signed.calls t225 t200 t226 _ A74.out).mono ?_); rintro e w' ⟨rfl, ⟨nd, rfl⟩⟩; refine ⟨_, rfl, ?_⟩) | ((with_reducible refine gate_callee (f := 24) rfl ?_); refine goesL_ (some 114) rfl rfl Tryd.func24 (by kernel_rfl) rfl #[.string t226] rfl (by (try simp only [List.map_toArray, List.map_cons, List.map_nil]); first | done | rfl | (simp only [List.length_drop, List.length_take]; rfl)) ?_; (with_reducible refine (demoticref09_Right.calls kj24 t226 false _ A75.out).mono ?_); rintro e w80 ⟨rfl, hb⟩; refine ⟨_, rfl, ?_⟩; have n0_ := Aside0.mk (below_step (by repeat (first | (with_reducible first | exact HB.out | apply below_alloc | apply pw_below_drewN | apply below_drew1) | exact HB.out)) hb); clear HB; have HB := n0_; clear n0_; (try clear hb); (try clear hb2); (try clear hk); (try clear hi)))
                        go_ret2
                        exact ⟨by first | rfl | (simp [errW_none, errW_some] <;> rfl) | (simp [*, errW_none, errW_some] <;> rfl), by repeat (first | (with_reducible first | exact HB.out | apply below_alloc | apply pw_below_drewN | apply below_drew1) | exact HB.out)⟩

/-! ### demoticlaw09_told: function 18 -/
def demoticlaw09_told.f (k : Nat) (a0 : ByteArray) (a1 : Int) (a2 : ByteArray) (a3 : ByteArray) (a4 : ByteArray) : Option (Bool) := (demoticref09_Do.f k a2 a3 a4).bind fun bt228 => (if a0.toList = bt228.1.toList then (some (a1 == bt228.2)) else (some false))
theorem demoticlaw09_told.mono : ∀ a0 a1 a2 a3 a4 k, LeO (demoticlaw09_told.f k a0 a1 a2 a3 a4) (demoticlaw09_told.f (k + 1) a0 a1 a2 a3 a4) := by
  intro a0 a1 a2 a3 a4 k
  unfold demoticlaw09_told.f
  repeat' first
      | (with_reducible exact demoticref09_Do.mono _ _ _ _)
      | (with_reducible exact LeO.refl _)
      | (with_reducible exact LeO.none _)
      | (with_reducible refine LeO.ite ?_ ?_)
      | (with_reducible refine LeO.bind ?_ (fun _ => ?_))
      | exact demoticref09_Do.mono _ _ _ _
      | exact LeO.none _
      | refine LeO.ite ?_ ?_
      | refine LeO.bind ?_ (fun _ => ?_)
set_option maxHeartbeats 8000000 in
set_option maxRecDepth 100000 in
theorem demoticlaw09_told.calls (k : Nat) (a0 : ByteArray) (a1 : Int) (a2 : ByteArray) (a3 : ByteArray) (a4 : ByteArray) (r : Bool) (w : World) (h : demoticlaw09_told.f k a0 a1 a2 a3 a4 = some r) :
    Calls Tryd.prog 18 #[.string a0, .int .i64 a1, .string a2, .string a3, .string a4] w fun e w' => e = .returned (.bool r) ∧ Below w.heap.size w w' := by
  have HB := Aside0.mk (Below.refl w.heap.size w)
  have H : ((demoticref09_Do.f k a2 a3 a4).bind fun bt228 => (if a0.toList = bt228.1.toList then (some (a1 == bt228.2)) else (some false))) = some r := h
  clear h
  replace H := Option.bind_eq_some_iff.mp H
  obtain ⟨⟨t228, t229⟩, A60, H⟩ := H
  replace H : (if a0.toList = t228.toList then (some (a1 == t229)) else (some false)) = some r := H
  have A6 := Aside0.mk A60
  clear A60
  by_cases c7 : a0.toList = t228.toList
  · rw [if_pos c7] at H
    have c7b0 : (a0.toList == t228.toList) = true := beq_iff_eq.mpr c7
    have c7b1 : (a0.toList != t228.toList) = false := bne_eq_false_iff_eq.mpr c7
    clear c7
    obtain rfl := Option.some.inj H
    go_enter Tryd.func18, Tryd.ntmps18
    go_wp2_with (first | ((with_reducible refine gate_callee (f := 35) rfl ?_); refine goesL_ (some 17) rfl rfl Tryd.func35 (by kernel_rfl) rfl #[.string a2, .string a3, .string a4] rfl (by (try simp only [List.map_toArray, List.map_cons, List.map_nil]); first | done | rfl | (simp only [List.length_drop, List.length_take]; rfl)) ?_; (with_reducible refine (demoticref09_Do.calls k a2 a3 a4 t228 t229 _ A6.out).mono ?_); rintro e w8 ⟨rfl, hb⟩; refine ⟨_, rfl, ?_⟩; have n0_ := Aside0.mk (below_step (by repeat (first | (with_reducible first | exact HB.out | apply below_alloc | apply pw_below_drewN | apply below_drew1) | exact HB.out)) hb); clear HB; have HB := n0_; clear n0_; (try clear hb); (try clear hb2); (try clear hk); (try clear hi)))
    go_ret
    exact ⟨by first | rfl | (simp [errW_none, errW_some] <;> rfl) | (simp [*, errW_none, errW_some] <;> rfl), by repeat (first | (with_reducible first | exact HB.out | apply below_alloc | apply pw_below_drewN | apply below_drew1) | exact HB.out)⟩
  · rw [if_neg c7] at H
    have c7b0 : (a0.toList == t228.toList) = false := beq_eq_false_iff_ne.mpr c7
    have c7b1 : (a0.toList != t228.toList) = true := bne_iff_ne.mpr c7
    obtain rfl := Option.some.inj H
    go_enter Tryd.func18, Tryd.ntmps18
    go_wp2_with (first | ((with_reducible refine gate_callee (f := 35) rfl ?_); refine goesL_ (some 17) rfl rfl Tryd.func35 (by kernel_rfl) rfl #[.string a2, .string a3, .string a4] rfl (by (try simp only [List.map_toArray, List.map_cons, List.map_nil]); first | done | rfl | (simp only [List.length_drop, List.length_take]; rfl)) ?_; (with_reducible refine (demoticref09_Do.calls k a2 a3 a4 t228 t229 _ A6.out).mono ?_); rintro e w9 ⟨rfl, hb⟩; refine ⟨_, rfl, ?_⟩; have n0_ := Aside0.mk (below_step (by repeat (first | (with_reducible first | exact HB.out | apply below_alloc | apply pw_below_drewN | apply below_drew1) | exact HB.out)) hb); clear HB; have HB := n0_; clear n0_; (try clear hb); (try clear hb2); (try clear hk); (try clear hi)))
    go_ret
    exact ⟨by first | rfl | (simp [errW_none, errW_some] <;> rfl) | (simp [*, errW_none, errW_some] <;> rfl), by repeat (first | (with_reducible first | exact HB.out | apply below_alloc | apply pw_below_drewN | apply below_drew1) | exact HB.out)⟩





end Go.Proofs.YtjfmefdhfboliaaDoor.Ref
