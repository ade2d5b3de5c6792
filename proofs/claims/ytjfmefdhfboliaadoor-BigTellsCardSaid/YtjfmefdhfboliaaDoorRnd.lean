/- A drawn region inside a round goes as outside of it, where no operation of it is a defer statement. -/
import Derived.OrdersIn
import Derived.OwnWalkIn
namespace Go.Proofs.YtjfmefdhfboliaaDoor
open Go

def calmOps (ops : Array Oper) : Bool := ops.toList.all fun o => match o.op with | .defer _ => false | _ => true

theorem calmOps_spec {ops : Array Oper} (h : calmOps ops = true) {i : Nat} {o : Oper} (ho : ops[i]? = some o) : ∀ c, o.op ≠ .defer c := by
  intro c hc
  obtain ⟨hi, rfl⟩ := Array.getElem?_eq_some_iff.1 ho
  have h1 := List.all_eq_true.1 h _ (Array.mem_toList_iff.2 (Array.getElem_mem hi))
  rw [hc] at h1
  cases h1

theorem wpOpIn_inRound {F : Fence} {n : Nat} {P : Program} {ops : Array Oper} {Q : Exit → Act → World → Prop} {i : Nat} {K : Act → World → Prop} {a : Act} {w : World} (l : Nat) (hc : calmOps ops = true)
    (h : wpOpIn F.plain n P ops Q i K a w) : wpOpIn (F.inRound l) n P ops Q i K a w := by
  unfold wpOpIn at *
  split
  · simpa [*] using h
  · rename_i o ho
    simp only [ho] at h
    split
    · rename_i hw
      simp only [hw, if_true] at h
      refine ⟨h.1, ?_⟩
      have h2 := h.2
      rw [Oper.semAt_plain _ _ _ (calmOps_spec hc ho)] at h2 ⊢
      generalize (execOp a.eval o).run P w = r at *
      cases r with
      | ok x w' => cases x <;> exact h2
      | halt x w' => cases x <;> exact h2
    · rename_i hw
      simp only [hw] at h
      exact h

theorem wpAnyIn_inRound {F : Fence} {n : Nat} {P : Program} {md : Region.Mode} {ops : Array Oper} {Q : Exit → Act → World → Prop} (l : Nat) (hc : calmOps ops = true) :
    ∀ (fuel : Nat) (listed : Array Bool) (a : Act) (w : World), wpAnyIn F.plain n P md ops Q fuel listed a w → wpAnyIn (F.inRound l) n P md ops Q fuel listed a w
  | 0, _, _, _, h => h
  | fuel + 1, _, _, _, h => ⟨h.1, fun i hi => wpOpIn_inRound l hc (wpOpIn_mono (fun a w => wpAnyIn_inRound l hc fuel _ a w) (h.2 i hi))⟩

theorem wpIn_region_round {F : Fence} {n : Nat} {P : Program} {ops : Array Oper} {Q : Exit → Act → World → Prop} {id : Nat} {a : Act} {w : World} (l : Nat) (hm : P.follows .mixedOrders = true) (hc : calmOps ops = true)
    (h : wpAnyIn F.plain n P .any ops Q ops.size (Array.replicate ops.size false) a w.drew) : (Code.region id ops true).wpIn (F.inRound l) n P Q a w :=
  wpIn_region_any hm (wpAnyIn_inRound l hc _ _ _ _ h)

theorem wpIn_region_drew {F : Fence} {n : Nat} {P : Program} {ops : Array Oper} {Q : Exit → Act → World → Prop} {id : Nat} {a : Act} {w : World} (hm : P.follows .mixedOrders = true)
    (h : wpAnyIn F n P .any ops Q ops.size (Array.replicate ops.size false) a w.drew) : (Code.region id ops true).wpIn F n P Q a w := wpIn_region_any hm h

/-- Left at its end, and in no other way. -/
def calmly (K : Act → World → Prop) : Exit → Act → World → Prop
  | .normal, a, w => K a w
  | _, _, _ => False
theorem wpIn_calmly {F : Fence} {n : Nat} {P : Program} {c : Code} {K : Act → World → Prop} {Q' : Exit → Act → World → Prop} {a : Act} {w : World} (h : c.wpIn F n P (calmly K) a w) : c.wpIn F n P (Exit.then K Q') a w :=
  wpIn_mono h fun e a w hq => by cases e <;> first | exact hq | exact hq.elim

/-- A state that is reached by several ways is walked from once. -/
theorem with_key {F : Fence} {n : Nat} {P : Program} {md : Region.Mode} {ops : Array Oper} {Q : Exit → Act → World → Prop} {fuel : Nat} {listed : Array Bool} {a : Act} {w : World} (l : Array Bool) (f : Nat) (a' : Act) (w' : World)
    (h : wpAnyIn F n P md ops Q f l a' w') (k : wpAnyIn F n P md ops Q f l a' w' → wpAnyIn F n P md ops Q fuel listed a w) : wpAnyIn F n P md ops Q fuel listed a w := k h

theorem callsIn_plain {F : Fence} {n : Nat} {P : Program} {f : FuncId} {args : Array Value} {w : World} {R : Ending → World → Prop} (h : CallsIn F n P f args w R) : CallsIn F.plain n P f args w R := h

end Go.Proofs.YtjfmefdhfboliaaDoor
