/- Walks: figure, Path's sign, all. -/
import Derived.Test.YtiigjmageeinpaaDoorRows
import Derived.Test.YtiigjmageeinpaaDoorNv
import Derived.WalkKit
import Derived.WalkSpells
import Derived.WalkLawsBesides
import Derived.Deep.LoopGhost
import Derived.Lib.Hide
import Derived.Laws.RangeAny
import Derived.Laws.OwnMore
import Derived.Deep.AppendLies
namespace Go.Proofs.YtiigjmageeinpaaDoor
open Go.RowKit

theorem figure_any (x : Nat) (w : World) : Calls Tryd.prog 23 #[.int .i32 x] w fun e w' => e = .returned (.bool (figN x)) ∧ w' = w := by
  by_cases h1 : (48 : Int) ≤ x
  · by_cases h2 : (x : Int) ≤ 57
    · have h : figN x = true := by simp [figN]; omega
      rw [h]
      go_enter Tryd.func23, Tryd.ntmps23
      go_wp2
      go_ret
      exact ⟨rfl, rfl⟩
    · have h : figN x = false := by simp [figN]; omega
      rw [h]
      go_enter Tryd.func23, Tryd.ntmps23
      go_wp2
      go_ret
      exact ⟨rfl, rfl⟩
  · have h : figN x = false := by simp [figN]; omega
    rw [h]
    go_enter Tryd.func23, Tryd.ntmps23
    go_wp2
    go_ret
    exact ⟨rfl, rfl⟩

theorem sign_any (x : Nat) (w : World) : Calls Tryd.prog 22 #[.int .i32 x] w fun e w' => e = .returned (.bool (pathN x)) ∧ w' = w := by
  have HF := Lib.hid (figure_any x w)
  obtain ⟨f, hf⟩ : ∃ f, figN x = f := ⟨_, rfl⟩
  rw [hf] at HF
  have hp : pathN x = (decide (97 ≤ (x : Int) ∧ (x : Int) ≤ 122) || decide (65 ≤ (x : Int) ∧ (x : Int) ≤ 90) || f || decide ((x : Int) = 95) || decide ((x : Int) = 45) || decide ((x : Int) = 46)) := by
    rw [← hf, pathN]
    congr 1
    · congr 1
      · congr 1
        · congr 1
          congr 1
          · exact decide_eq_decide.2 (by omega)
          · exact decide_eq_decide.2 (by omega)
        · exact decide_eq_decide.2 (by omega)
      · exact decide_eq_decide.2 (by omega)
    · exact decide_eq_decide.2 (by omega)
  have HP := Lib.hid hp
  clear hp hf
  go_enter Tryd.func22, Tryd.ntmps22
  go_wp2_with (go_at_call 23; refine HF.out.mono ?_; rintro e w' ⟨rfl, rfl⟩)
  all_goals go_ret
  all_goals
    refine ⟨?_, rfl⟩
    rw [HP.out]
    refine congrArg Ending.returned (congrArg Value.bool ?_)
    rw [Bool.eq_iff_iff]
    clear HP HF
    simp only [Bool.or_eq_true, decide_eq_true_eq, beq_iff_eq]
    try simp only [*]
    try simp
    try omega

end Go.Proofs.YtiigjmageeinpaaDoor
