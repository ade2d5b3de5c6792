/- A closed check: a minor below 100 with figures behind a sign (two figures at most), for VerRests. -/
import Derived.Test.YtiigjmageeinpaaDoorVi
namespace Go.Proofs.YtiigjmageeinpaaDoor
open Go.RowKit Go.Shelf
open Go.Lib (itoa)
def restOk (m k : Nat) : Bool :=
  minorP ([49, 46] ++ itoa (m : Int) ++ [46] ++ itoa (k : Int)) == ((m : Int), 0) &&
  minorP ([49, 46] ++ itoa (m : Int) ++ [114, 99] ++ itoa (k : Int)) == ((m : Int), 0) &&
  minorP ([49, 46] ++ itoa (m : Int) ++ [98, 101, 116, 97] ++ itoa (k : Int)) == ((m : Int), 0) &&
  minorP ([49, 46] ++ itoa (m : Int) ++ [120] ++ itoa (k : Int)) == (0, 6)
theorem rest_all0 : (List.range 25).all (fun m => (List.range 100).all fun k => restOk m k) = true := by decide +kernel
theorem rest_all1 : (List.range 25).all (fun m => (List.range 100).all fun k => restOk (25 + m) k) = true := by decide +kernel
theorem rest_all2 : (List.range 25).all (fun m => (List.range 100).all fun k => restOk (50 + m) k) = true := by decide +kernel
theorem rest_all3 : (List.range 25).all (fun m => (List.range 100).all fun k => restOk (75 + m) k) = true := by decide +kernel
theorem rest_ok {m k : Nat} (hm : m < 100) (hk : k < 100) : restOk m k = true := by
  have one : ∀ {b m : Nat}, (List.range 25).all (fun m => (List.range 100).all fun k => restOk (b + m) k) = true → m < 25 → restOk (b + m) k = true := fun h hm =>
    List.all_eq_true.1 (List.all_eq_true.1 h _ (List.mem_range.2 hm)) _ (List.mem_range.2 hk)
  rcases (show m < 25 ∨ (25 ≤ m ∧ m < 50) ∨ (50 ≤ m ∧ m < 75) ∨ 75 ≤ m by omega) with h | h | h | h
  · exact List.all_eq_true.1 (List.all_eq_true.1 rest_all0 _ (List.mem_range.2 h)) _ (List.mem_range.2 hk)
  · have := one rest_all1 (m := m - 25) (by omega)
    rwa [show 25 + (m - 25) = m by omega] at this
  · have := one rest_all2 (m := m - 50) (by omega)
    rwa [show 50 + (m - 50) = m by omega] at this
  · have := one rest_all3 (m := m - 75) (by omega)
    rwa [show 75 + (m - 75) = m by omega] at this
end Go.Proofs.YtiigjmageeinpaaDoor
