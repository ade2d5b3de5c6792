/- Words for chapter 04, no program in sight: figures, numerals, which bytes a path has, what a text says as a version. -/
import Derived.Lib.ItoaNum
import Derived.Lib.IndexMore
import Derived.Lib.AtoiAllCases
namespace Go.Proofs.YtiigjmageeinpaaDoor
open Go.Lib (decDigits nDigits decDigits_length itoa parseUint10 parseMag atoiAll)

/-- A figure. -/
def figN (x : Nat) : Bool := decide (48 ≤ x ∧ x ≤ 57)
/-- What a path is made of. -/
def pathN (x : Nat) : Bool := decide (97 ≤ x ∧ x ≤ 122) || decide (65 ≤ x ∧ x ≤ 90) || figN x || decide (x = 95) || decide (x = 45) || decide (x = 46)
/-- ver.all. -/
def allB (p : Nat → Bool) (l : List UInt8) : Bool := l.all (fun c => p c.toNat) && !l.isEmpty

theorem figN_low {x : Nat} (h : figN x = true) : x < 128 := by simp [figN] at h; omega
theorem pathN_low {x : Nat} (h : pathN x = true) : x < 128 := by simp [pathN, figN] at h; omega

/-- What a row of figures spells. -/
def dv (l : List UInt8) : Nat := l.foldl (fun a c => 10 * a + (c.toNat - 48)) 0
theorem dv_nil : dv [] = 0 := rfl
theorem dv_snoc (l : List UInt8) (c : UInt8) : dv (l ++ [c]) = 10 * dv l + (c.toNat - 48) := by simp [dv]

def Figs (l : List UInt8) : Prop := ∀ c ∈ l, 48 ≤ c.toNat ∧ c.toNat ≤ 57
theorem figs_all {l : List UInt8} : l.all (fun c => figN c.toNat) = true ↔ Figs l := by
  simp [figN, Figs]

/-- The digits that a version's minor has, cut from the text behind "1.": what is ahead of the first sign that stands in it; none: what is behind the sign is not figures alone. -/
def cutAt (rest : List UInt8) : List (List UInt8) → Option (List UInt8)
  | [] => some rest
  | sep :: more => if (Lib.cut rest sep).2.2 = true then (if allB figN (Lib.cut rest sep).2.1 = true then some (Lib.cut rest sep).1 else none) else cutAt rest more

def seps : List (List UInt8) := [[46], [114, 99], [98, 101, 116, 97]]

/-- The number that digits are, where it is a minor. -/
def minorOf (d : List UInt8) : Option Nat :=
  match atoiAll d with
  | .ok v => if itoa v = d ∧ 0 ≤ v ∧ v ≤ 99 then some v.toNat else none
  | _ => none

/-- A version's minor. -/
def minor? (l : List UInt8) : Option Nat :=
  if Lib.hasPrefix l [49, 46] = true then (cutAt (Lib.trimPrefix l [49, 46]) seps).bind minorOf else none

/-- What Minor hands back. -/
def minorP (l : List UInt8) : Int × Int := match minor? l with | some n => ((n : Int), 0) | none => (0, 6)

end Go.Proofs.YtiigjmageeinpaaDoor
