/- What the reference of chapter 09 tells of two texts. -/
import Derived.Test.YtjfmefdhfboliaaDoorPe
namespace Go.Proofs.YtjfmefdhfboliaaDoor.Ref
open Go.RowKit Go.Proofs.YtjfmefdhfboliaaDoorW.PrintWords Go.Proofs.YtjfmefdhfboliaaDoorW.PrintLast Go.Proofs.YtjfmefdhfboliaaDoorW.PrintMore
open Num (dv Figs Canon canon_eq canon_decDigits figs_decDigits dv_decDigits dv_snoc twoPow lim twoPow_succ twoPow_le lim_digits nDigits_lt num? right? plainB figB cutMinus quo rest quo_tdiv rest_tmod)
open Go.Lib (decDigits nDigits decDigits_length itoa)

theorem right_num {l : List UInt8} {x : Int} (h : right? l = some x) : num? l = some x ∧ x.natAbs < lim := by
  unfold right? at h
  cases e : num? l with
  | none => rw [e] at h; cases h
  | some v =>
    rw [e] at h
    simp only [Option.filter] at h
    split at h
    · rename_i hv
      cases h
      exact ⟨rfl, by simpa using hv⟩
    · cases h

theorem Do_no (op a b : ByteArray) (sa : a.size ≤ 1000000) (sb : b.size ≤ 1000000) (h : right? a.data.toList = none ∨ right? b.data.toList = none) : Ev (fun k => demoticref09_Do.f k op a b) (⟨#[]⟩, 1) := by
  refine Ev.bind (amount_ev a sa) (Ev.bind (amount_ev b sb) ?_)
  have out : ∀ (u v : ByteArray × Bool × Bool), Ev (fun k => demoticref09_Do.j0 k op u.1 u.2.1 v.1 v.2.1 true) ((⟨#[]⟩ : ByteArray), (1 : Int)) := fun u v =>
    Ev.step (f := fun _ => some ((⟨#[]⟩ : ByteArray), (1 : Int))) (fun k => by rw [demoticref09_Do.j0, if_pos rfl]) (Ev.now _)
  have ra := refRight_ev a sa
  have rb := refRight_ev b sb
  cases ea : right? a.data.toList with
  | none =>
    rw [show (right? a.data.toList).isSome = false by rw [ea]; rfl] at ra
    refine Ev.bind ra (Ev.congr (fun k => ?_) (out (amountB a.data.toList) (amountB b.data.toList)))
    rw [if_neg (by decide)]
  | some x =>
    rw [show (right? a.data.toList).isSome = true by rw [ea]; rfl] at ra
    rw [ea] at h
    rcases h with h | h
    · cases h
    rw [show (right? b.data.toList).isSome = false by rw [h]; rfl] at rb
    refine Ev.bind ra (Ev.congr (f := fun k => (demoticref09_Right.f k b).bind fun t206 => if t206 = true then (if op.toList = ([47] : List UInt8) then demoticref09_Do.j0 k op (amountB a.data.toList).1 (amountB a.data.toList).2.1 (amountB b.data.toList).1 (amountB b.data.toList).2.1 ((amountB b.data.toList).1.toList == ([48] : List UInt8)) else if op.toList = ([37] : List UInt8) then demoticref09_Do.j0 k op (amountB a.data.toList).1 (amountB a.data.toList).2.1 (amountB b.data.toList).1 (amountB b.data.toList).2.1 ((amountB b.data.toList).1.toList == ([48] : List UInt8)) else demoticref09_Do.j0 k op (amountB a.data.toList).1 (amountB a.data.toList).2.1 (amountB b.data.toList).1 (amountB b.data.toList).2.1 false) else demoticref09_Do.j0 k op (amountB a.data.toList).1 (amountB a.data.toList).2.1 (amountB b.data.toList).1 (amountB b.data.toList).2.1 true) (fun k => ?_) (Ev.bind rb (Ev.congr (fun k => ?_) (out (amountB a.data.toList) (amountB b.data.toList)))))
    · rw [if_pos rfl]
    · rw [if_neg (by decide)]

/-- The operation that a sign stands for. -/
def opF (c : UInt8) (x y : Int) : Option Int :=
  if c = 43 then some (x + y) else if c = 45 then some (x - y) else if c = 42 then some (x * y) else if y = 0 then none else if c = 47 then some (x.tdiv y) else some (x.tmod y)

theorem sv_flip (y : Int) : sv (!decide (y < 0)) y.natAbs = -y := by
  unfold sv
  by_cases h : y < 0
  · simp only [h, decide_true, Bool.not_true, Bool.false_eq_true, if_false]; omega
  · simp only [h, decide_false, Bool.not_false, if_true]; omega

theorem dec_is_zero (n : Nat) : ((dec n).toList == ([48] : List UInt8)) = decide (n = 0) := by
  rw [ByteArray.toList_eq, dec_list]
  by_cases h : n = 0
  · subst h; simp [decDigits]
  · rw [decide_eq_false h]
    apply beq_eq_false_iff_ne.2
    intro e
    have := dv_decDigits n
    rw [e] at this
    simp [dv] at this
    omega

theorem ev_eq {α : Type} {g : Nat → Option α} {r r' : α} (h : Ev g r) (e : r = r') : Ev g r' := e ▸ h

theorem Do_ok (c : UInt8) (hc : c = 43 ∨ c = 45 ∨ c = 42 ∨ c = 47 ∨ c = 37) (a b : ByteArray) (sa : a.size ≤ 1000000) (sb : b.size ≤ 1000000) (x y : Int) (ha : right? a.data.toList = some x) (hb : right? b.data.toList = some y) :
    Ev (fun k => demoticref09_Do.f k ⟨#[c]⟩ a b) (resP (opF c x y)) := by
  obtain ⟨na, lx⟩ := right_num ha
  obtain ⟨nb, ly⟩ := right_num hb
  have ra := refRight_ev a sa
  have rb := refRight_ev b sb
  rw [show (right? a.data.toList).isSome = true by rw [ha]; rfl] at ra
  rw [show (right? b.data.toList).isSome = true by rw [hb]; rfl] at rb
  have aa := amount_ev a sa
  have ab := amount_ev b sb
  rw [amountB_some na] at aa
  rw [amountB_some nb] at ab
  obtain ⟨X, hX⟩ : ∃ X, dec x.natAbs = X := ⟨_, rfl⟩
  obtain ⟨Y, hY⟩ : ∃ Y, dec y.natAbs = Y := ⟨_, rfl⟩
  have hz : (Y.toList == ([48] : List UInt8)) = decide (y = 0) := by
    rw [← hY, dec_is_zero]
    rw [decide_eq_decide]; omega
  rw [hX] at aa
  rw [hY] at ab
  -- behind the four calls
  have done : ∀ (z : Bool), (if c = 47 ∨ c = 37 then decide (y = 0) else false) = z → Ev (fun k => demoticref09_Do.j0 k ⟨#[c]⟩ X (decide (x < 0)) Y (decide (y < 0)) z) (resP (opF c x y)) →
      Ev (fun k => demoticref09_Do.f k ⟨#[c]⟩ a b) (resP (opF c x y)) := fun z hzz h => by
    refine Ev.bind aa (Ev.bind ab (Ev.bind ra ?_))
    refine Ev.congr (f := fun k => (demoticref09_Right.f k b).bind fun t206 => if t206 = true then (if (⟨#[c]⟩ : ByteArray).toList = ([47] : List UInt8) then demoticref09_Do.j0 k ⟨#[c]⟩ X (decide (x < 0)) Y (decide (y < 0)) (Y.toList == ([48] : List UInt8)) else if (⟨#[c]⟩ : ByteArray).toList = ([37] : List UInt8) then demoticref09_Do.j0 k ⟨#[c]⟩ X (decide (x < 0)) Y (decide (y < 0)) (Y.toList == ([48] : List UInt8)) else demoticref09_Do.j0 k ⟨#[c]⟩ X (decide (x < 0)) Y (decide (y < 0)) false) else demoticref09_Do.j0 k ⟨#[c]⟩ X (decide (x < 0)) Y (decide (y < 0)) true) (fun k => ?_) (Ev.bind rb ?_)
    · rw [if_pos rfl]
    · refine Ev.congr (fun k => ?_) h
      have e : (⟨#[c]⟩ : ByteArray).toList = [c] := by rw [ByteArray.toList_eq]
      rw [if_pos rfl, e, hz, ← hzz]
      rcases hc with rfl | rfl | rfl | rfl | rfl <;> rfl
  have hsx := sv_num x
  have hsy := sv_num y
  have hsf := sv_flip y
  rcases hc with rfl | rfl | rfl | rfl | rfl
  · have h := sum_tell x.natAbs y.natAbs (decide (x < 0)) (decide (y < 0)) lx ly ⟨#[43]⟩
    rw [hX, hY, hsx, hsy] at h
    refine done false rfl (Ev.step (f := fun k => demoticref09_Do.j1 k ⟨#[43]⟩ X (decide (x < 0)) Y (decide (y < 0))) (fun k => ?_) (Ev.step (fun k => ?_) h))
    · rw [demoticref09_Do.j0, if_neg (by decide), if_neg (by decide +kernel)]
    · rw [demoticref09_Do.j1, if_pos (by decide +kernel), show (((⟨#[43]⟩ : ByteArray).toList == ([43] : List UInt8))) = true by decide +kernel]
  · have h := sum_tell x.natAbs y.natAbs (decide (x < 0)) (!decide (y < 0)) lx ly ⟨#[45]⟩
    rw [hX, hY, hsx, hsf, ← Int.sub_eq_add_neg] at h
    refine done false rfl (Ev.step (f := fun k => demoticref09_Do.j1 k ⟨#[45]⟩ X (decide (x < 0)) Y (!decide (y < 0))) (fun k => ?_) (Ev.step (fun k => ?_) h))
    · rw [demoticref09_Do.j0, if_neg (by decide), if_pos (by decide +kernel)]
    · rw [demoticref09_Do.j1, if_neg (by decide +kernel), show (((⟨#[45]⟩ : ByteArray).toList == ([45] : List UInt8))) = true by decide +kernel]
  · have h := times_tell x.natAbs y.natAbs (decide (x < 0)) (decide (y < 0)) lx ly
    rw [hX, hY, hsx, hsy] at h
    refine done false rfl (Ev.step (f := fun k => demoticref09_Do.j1 k ⟨#[42]⟩ X (decide (x < 0)) Y (decide (y < 0))) (fun k => ?_) (Ev.step (fun k => ?_) h))
    · rw [demoticref09_Do.j0, if_neg (by decide), if_neg (by decide +kernel)]
    · rw [demoticref09_Do.j1, if_neg (by decide +kernel), show (((⟨#[42]⟩ : ByteArray).toList == ([45] : List UInt8))) = false by decide +kernel]
  · by_cases h0 : y = 0
    · refine done true (by simp [h0]) (ev_eq (Ev.step (f := fun _ => some ((⟨#[]⟩ : ByteArray), (1 : Int))) (fun k => by rw [demoticref09_Do.j0, if_pos rfl]) (Ev.now _)) (by simp [opF, h0, resP]))
    · have h := quot_tell x.natAbs y.natAbs (decide (x < 0)) (decide (y < 0)) lx ly (by omega)
      rw [hX, hY, hsx, hsy] at h
      refine done false (by simp [h0]) (ev_eq (Ev.step (f := fun k => demoticref09_Do.j1 k ⟨#[47]⟩ X (decide (x < 0)) Y (decide (y < 0))) (fun k => ?_) (Ev.step (fun k => ?_) h)) (by simp [opF, h0]))
      · rw [demoticref09_Do.j0, if_neg (by decide), if_neg (by decide +kernel)]
      · rw [demoticref09_Do.j1, if_neg (by decide +kernel), show (((⟨#[47]⟩ : ByteArray).toList == ([45] : List UInt8))) = false by decide +kernel]
  · by_cases h0 : y = 0
    · refine done true (by simp [h0]) (ev_eq (Ev.step (f := fun _ => some ((⟨#[]⟩ : ByteArray), (1 : Int))) (fun k => by rw [demoticref09_Do.j0, if_pos rfl]) (Ev.now _)) (by simp [opF, h0, resP]))
    · have h := rest_tell x.natAbs y.natAbs (decide (x < 0)) (decide (y < 0)) lx ly (by omega)
      rw [hX, hY, hsx, hsy] at h
      refine done false (by simp [h0]) (ev_eq (Ev.step (f := fun k => demoticref09_Do.j1 k ⟨#[37]⟩ X (decide (x < 0)) Y (decide (y < 0))) (fun k => ?_) (Ev.step (fun k => ?_) h)) (by simp [opF, h0]))
      · rw [demoticref09_Do.j0, if_neg (by decide), if_neg (by decide +kernel)]
      · rw [demoticref09_Do.j1, if_neg (by decide +kernel), show (((⟨#[37]⟩ : ByteArray).toList == ([45] : List UInt8))) = false by decide +kernel]

/-- What the document tells of two texts and a sign. -/
def doR (c : UInt8) (l m : List UInt8) : ByteArray × Int :=
  match right? l, right? m with
  | some x, some y => resP (opF c x y)
  | _, _ => (⟨#[]⟩, 1)

theorem told_ev (c : UInt8) (hc : c = 43 ∨ c = 45 ∨ c = 42 ∨ c = 47 ∨ c = 37) (a b : ByteArray) (sa : a.size ≤ 1000000) (sb : b.size ≤ 1000000) :
    ∃ k, demoticlaw09_told.f k (doR c a.data.toList b.data.toList).1 (doR c a.data.toList b.data.toList).2 ⟨#[c]⟩ a b = some true := by
  have h : Ev (fun k => demoticref09_Do.f k ⟨#[c]⟩ a b) (doR c a.data.toList b.data.toList) := by
    unfold doR
    cases ea : right? a.data.toList with
    | none => exact Do_no _ a b sa sb (.inl ea)
    | some x =>
      cases eb : right? b.data.toList with
      | none => exact Do_no _ a b sa sb (.inr eb)
      | some y => exact Do_ok c hc a b sa sb x y ea eb
  obtain ⟨k, hk⟩ := h.rounds
  refine ⟨k, ?_⟩
  unfold demoticlaw09_told.f
  rw [show demoticref09_Do.f k ⟨#[c]⟩ a b = _ from hk, Option.bind_some, if_pos rfl]
  simp

end Go.Proofs.YtjfmefdhfboliaaDoor.Ref
