/- Walks: slices.IndexFunc and ContainsFunc at trees, for a function value that tells of each. -/
import Derived.Test.YtheiakdlhpccaaaDoorTb
namespace Go.Proofs.YtheiakdlhpccaaaDoor
open Go.RowKit Go.Shelf R
open Go.Proofs.YtheiakdlhpccaaaDoorW.PrintWords

/-- A tree's value. -/
def xv (x : S24) (A : Option Addr) (c : Nat) : Value := .agg #[.string x.f0, .string x.f1, .slice A x.f2.length c]

/-- A function value tells of each tree of a row. -/
def Tells (g : FuncId) (caps : Array Value) (p : S24 → Bool) (xs : List S24) (w : World) : Prop :=
  ∀ x ∈ xs, ∀ W, Below w.heap.size w W → ∀ A c, x.f2.length ≤ c → Kd.C k24 W A x.f2.length x.f2 → Calls Tryd.prog g (#[xv x A c] ++ caps) W (Out W.heap.size W (.bool (p x)))

set_option maxRecDepth 100000 in
set_option maxHeartbeats 2000000 in
theorem index_any (g : FuncId) (caps : Array Value) (p : S24 → Bool) (xs : List S24) (A : Option Addr) (c : Nat) (w : World) (hC : Kd.C k24 w A xs.length xs) (_hc : xs.length ≤ c) (hen : ∀ args W, (callFunc g args).run Tryd.prog W = .ok (.enter g args) W) (hT : Tells g caps p xs w) :
    Calls Tryd.prog 55 #[.slice A xs.length c, .func (.func g) #[] caps] w fun e w' => ∃ n : Int, e = .returned (.int .i64 n) ∧ (0 ≤ n ↔ xs.any p = true) ∧ Below w.heap.size w w' := by
  have hz : xs.length ≤ 9223372036854775807 := hC.2.1
  have HC := Lib.hid hC
  have HT := Lib.hid hT
  clear hC hT
  go_enter Tryd.func55, Tryd.ntmps55
  go_wp2_with fail
  go_loopg [8] xs.length (fun gk iv wr => ∃ i : Nat, i ≤ xs.length ∧ gk = xs.length - i ∧ iv = .int .i64 i ∧ Below w.heap.size w wr ∧ ∀ x ∈ xs.take i, p x = false)
  case atStart => exact ⟨0, Nat.zero_le _, rfl, rfl, Below.refl _ _, by simp⟩
  case round =>
    obtain ⟨i, hi, rfl, rfl, hb, hno⟩ := hrel
    have HN := Lib.hid hno
    have HB := Lib.hid hb
    clear hno hb
    by_cases hlt : i < xs.length
    · have hlt2 : (i : Int) < (xs.length : Int) := by omega
      have hCr := Kd.C_below HC.out HB.out
      obtain ⟨ad, A2, c2, rfl, e0, e1, e2, hl2, hC2⟩ := at_T24 hCr (i : Int) (by omega) (by omega)
      rw [Int.toNat_natCast] at e0 e1 e2
      have hx : rd_T24 xs (i : Int) = xs[i] := by
        unfold rd_T24
        rw [Int.toNat_natCast, List.getD_eq_getElem?_getD, List.getElem?_eq_getElem hlt]
        rfl
      rw [hx] at e0 e1 e2 hl2 hC2
      obtain ⟨x, hxx⟩ : ∃ x, xs[i] = x := ⟨_, rfl⟩
      rw [hxx] at e0 e1 e2 hl2 hC2
      have hmem : x ∈ xs := by rw [← hxx]; exact List.getElem_mem hlt
      have HX := Lib.hid (HT.out x hmem _ HB.out A2 c2 hl2 hC2)
      have hgl : xs.take (i + 1) = xs.take i ++ [x] := by rw [List.take_succ_eq_append_getElem hlt, hxx]
      have HG := Lib.hid hgl
      clear hCr hl2 hC2 hx hxx hgl
      obtain ⟨q, hq⟩ : ∃ q, p x = q := ⟨_, rfl⟩
      rw [hq] at HX
      cases q
      · have hn : ∀ y ∈ xs.take (i + 1), p y = false := by
          intro y hy
          rw [HG.out] at hy
          rcases List.mem_append.1 hy with hy | hy
          · exact HN.out y hy
          · rw [List.mem_singleton] at hy
            rw [hy]; exact hq
        have HN2 := Lib.hid hn
        clear hn hq
        go_wp2_with fail
        refine HX.out.mono ?_
        rintro e w3 ⟨rfl, hb3⟩
        go_wp2_with fail
        go_roundg (xs.length - (i + 1))
        case measure => omega
        case rel => exact ⟨i + 1, by omega, rfl, by simp, HB.out.trans (hb3.mono HB.out.size), HN2.out⟩
      · have hany : xs.any p = true := List.any_eq_true.2 ⟨x, hmem, hq⟩
        have HY := Lib.hid hany
        clear hany hq
        go_wp2_with fail
        refine HX.out.mono ?_
        rintro e w3 ⟨rfl, hb3⟩
        go_wp2_with fail
        go_ret
        exact ⟨(i : Int), rfl, by simp [HY.out], HB.out.trans (hb3.mono HB.out.size)⟩
    · obtain rfl : i = xs.length := by omega
      have hno := HN.out
      rw [List.take_length] at hno
      have hany : ¬ xs.any p = true := by
        rw [List.any_eq_true]
        rintro ⟨x, hx, hp⟩
        rw [hno x hx] at hp
        cases hp
      have HY := Lib.hid hany
      clear hany hno HN
      go_wp2_with fail
      go_ret
      exact ⟨-1, rfl, by simp [HY.out], HB.out⟩

set_option maxRecDepth 100000 in
theorem contains_any (g : FuncId) (caps : Array Value) (p : S24 → Bool) (xs : List S24) (A : Option Addr) (c : Nat) (w : World) (hC : Kd.C k24 w A xs.length xs) (hc : xs.length ≤ c) (hen : ∀ args W, (callFunc g args).run Tryd.prog W = .ok (.enter g args) W) (hT : Tells g caps p xs w) :
    Calls Tryd.prog 40 #[.slice A xs.length c, .func (.func g) #[] caps] w (Out w.heap.size w (.bool (xs.any p))) := by
  have HI := Lib.hid (index_any g caps p xs A c w hC hc hen hT)
  clear hC hT hen
  go_enter Tryd.func40, Tryd.ntmps40
  go_wp2_with fail
  refine HI.out.mono ?_
  rintro e w1 ⟨n, rfl, hn, hb⟩
  have hd : decide (0 ≤ n) = xs.any p := by rw [Bool.eq_iff_iff, decide_eq_true_iff]; exact hn
  have HD := Lib.hid hd
  clear hn hd
  go_wp2_with fail
  go_ret
  exact ⟨by rw [← HD.out]; rfl, hb⟩

end Go.Proofs.YtheiakdlhpccaaaDoor
