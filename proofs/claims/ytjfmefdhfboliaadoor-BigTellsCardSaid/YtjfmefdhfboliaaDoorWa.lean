/- Walks through digit, sign and trimmed of package big: what each hands back. -/
import Derived.Test.YtjfmefdhfboliaaDoorRows
import Derived.Test.YtjfmefdhfboliaaDoorMem
import Derived.WalkSpells
import Derived.WalkLawsBesides
import Derived.Deep.LoopGhost
import Derived.Lib.Hide
namespace Go.Proofs.YtjfmefdhfboliaaDoor
open Go.RowKit Num

set_option maxHeartbeats 400000 in
theorem digit_any (A : Option Addr) (c : Nat) (zs : List Int) (i : Nat) (w : World) (_hi : i ≤ 9223372036854775807) (h : Digs w (.slice A zs.length c) zs) :
    Calls Tryd.prog 48 #[.slice A zs.length c, .int .i64 i] w fun e w' => e = .returned (.int .i64 (D zs i)) ∧ w = w' := by
  obtain ⟨A', cap, e, h1, h2, _, _, h3⟩ := h.form
  cases e
  by_cases hlt : i < zs.length
  · obtain ⟨g, rfl, _, hc⟩ := h3 i hlt
    clear h3 h
    go_enter Tryd.func48, Tryd.ntmps48
    go_wp2
    go_ret
    exact ⟨rfl, rfl⟩
  · have hD : D zs i = 0 := by simp [D, List.getElem?_eq_none (Nat.le_of_not_lt hlt)]
    rw [hD]
    clear h3 h hD
    go_enter Tryd.func48, Tryd.ntmps48
    go_wp2
    go_ret
    exact ⟨rfl, rfl⟩

theorem sign_any (n : Int) (w : World) :
    Calls Tryd.prog 68 #[.int .i64 n] w fun e w' => e = .returned (.int .i64 (sgn n)) ∧ w = w' := by
  rcases (show n < 0 ∨ n = 0 ∨ 1 ≤ n by omega) with h | h | h
  · have e : sgn n = -1 := by unfold sgn; rw [if_pos h]
    rw [e]; clear e
    have h1 : ¬ 1 < n := by omega
    by_cases h2 : n = -1
    · subst h2
      go_enter Tryd.func68, Tryd.ntmps68
      go_wp2
      go_ret
      exact ⟨rfl, rfl⟩
    have h3 : n < -1 := by omega
    go_enter Tryd.func68, Tryd.ntmps68
    go_wp2
    go_ret
    exact ⟨rfl, rfl⟩
  · subst h
    go_enter Tryd.func68, Tryd.ntmps68
    go_wp2
    go_ret
    exact ⟨rfl, rfl⟩
  · have e : sgn n = 1 := by unfold sgn; rw [if_neg (by omega), if_pos (by omega)]
    rw [e]; clear e
    by_cases h2 : n = 1
    · subst h2
      go_enter Tryd.func68, Tryd.ntmps68
      go_wp2
      go_ret
      exact ⟨rfl, rfl⟩
    have h3 : 1 < n := by omega
    go_enter Tryd.func68, Tryd.ntmps68
    go_wp2
    go_ret
    exact ⟨rfl, rfl⟩


theorem D_of {zs : List Int} {j : Nat} (_hj : j < zs.length) : zs[j]?.getD 0 = D zs j := rfl



def Gives (w : World) (x : Int) (e : Ending) (w' : World) : Prop := ∃ v, e = .returned v ∧ Rep w' v x ∧ Below w.heap.size w w'

theorem Gives.cut {w w' : World} {b : Bool} {A : Option Addr} {c k : Nat} {zs : List Int} (hd : Dig zs) (h : Digs w (.slice A zs.length c) zs) (hk : k ≤ zs.length) (hz : ∀ j, k ≤ j → j < zs.length → D zs j = 0) (hn : k = 0 ∨ D zs (k - 1) ≠ 0) (hb : Below w.heap.size w w')
    (b' : Bool) (hb' : b' = (b && decide (0 < k))) : Gives w (if b then - val zs else val zs) (.returned (.agg #[.bool b', .slice A k c])) w' := by
  have e := limbs_take hd hk hz hn
  have h0 := val_nonneg hd
  refine ⟨_, rfl, ⟨.slice A k c, ?_, ?_⟩, hb⟩
  · have hkv : decide (0 < k) = decide (0 < val zs) := by
      have hl := congrArg List.length e
      rw [List.length_take, Nat.min_eq_left hk] at hl
      rw [decide_eq_decide]
      constructor
      · intro hk0
        have : (val zs).toNat ≠ 0 := fun e0 => by rw [e0, limbs_zero] at hl; simp at hl; omega
        omega
      · intro hv
        rcases Nat.eq_zero_or_pos k with rfl | h'
        · have := limbs_eq_nil.1 (List.length_eq_zero_iff.1 hl.symm); omega
        · exact h'
    have : b' = decide ((if b then - val zs else val zs) < 0) := by
      rw [hb', hkv]
      cases b
      · simp; exact h0
      · simp
    rw [this]
  · have : (if b then - val zs else val zs).natAbs = (val zs).toNat := by split <;> omega
    rw [this, ← e]
    exact (h.cut hk).below hb

/-- The number x comes, in the very row that stands at A. -/
def GivesCut (w : World) (A : Option Addr) (c : Nat) (x : Int) (e : Ending) (w' : World) : Prop :=
  ∃ k, e = .returned (.agg #[.bool (decide (x < 0)), .slice A k c]) ∧ k = (limbs x.natAbs).length ∧ Digs w' (.slice A k c) (limbs x.natAbs) ∧ Below w.heap.size w w'

theorem Gives.toCut {w w' : World} {b' : Bool} {A : Option Addr} {k c : Nat} {x : Int} (h : Gives w x (.returned (.agg #[.bool b', .slice A k c])) w') : GivesCut w A c x (.returned (.agg #[.bool b', .slice A k c])) w' := by
  obtain ⟨v, e, ⟨s, rfl, hd⟩, hb⟩ := h
  cases e
  obtain ⟨A', c', e, _⟩ := hd.form
  cases e
  exact ⟨_, rfl, rfl, hd, hb⟩

set_option maxHeartbeats 400000 in
theorem trimmed_cut (b : Bool) (A : Option Addr) (c : Nat) (zs : List Int) (w : World) (hd : Dig zs) (h : Digs w (.slice A zs.length c) zs) :
    Calls Tryd.prog 45 #[.agg #[.bool b, .slice A zs.length c]] w (GivesCut w A c (if b then - val zs else val zs)) := by
  have HG := fun k hk hz hn w' hb b' hb' => (Gives.cut (w' := w') (b := b) (k := k) hd h hk hz hn hb b' hb').toCut
  obtain ⟨A', cap, e, h1, h2, _, _, h3⟩ := h.form
  cases e
  unfold maxLen at h2
  generalize (if b = true then -val zs else val zs) = x at *
  go_enter Tryd.func45, Tryd.ntmps45
  go_wp2
  go_loopg [] zs.length (fun k wr => k ≤ zs.length ∧ wr = ((w.alloc (Obj.cells #[Value.bool b, Value.slice A k c] 43)).alloc (Obj.cells #[Value.bool false, Value.slice none 0 0] 43)) ∧ (∀ j, k ≤ j → j < zs.length → D zs j = 0))
  case atStart => exact ⟨Nat.le_refl _, rfl, fun j h1 h2 => by omega⟩
  case round =>
    obtain ⟨hk, rfl, hz⟩ := hrel
    by_cases hk0 : gk = 0
    · subst hk0
      have hG := HG 0 hk hz (.inl rfl)
      have HG' := Lib.hid hG
      clear HG hG hz h3
      go_wp2
      all_goals
        refine bodyPost_ret (v := .agg #[.bool false, .slice A 0 c]) (by simp [results, Tryd.results45, go_sem]) rfl ?_
        exact HG'.out _ (((Below.refl _ _).alloc (Nat.le_refl _) _).alloc (by simp) _) _ (by simp)
    obtain ⟨k, rfl⟩ : ∃ k, gk = k + 1 := ⟨gk - 1, by omega⟩
    obtain ⟨g, rfl, hg, hc⟩ := h3 k (by omega)
    have HZ := Lib.hid hz
    have HG' := Lib.hid HG
    clear HG hz h3 hk0
    by_cases hzk : D zs k = 0
    · rw [hzk] at hc
      have hcc : ∀ o1 o2, ((w.alloc o1).alloc o2).cell? ⟨g, k, none⟩ = some (.int .i64 0) := fun o1 o2 => by
        rw [World.cell?_alloc_lt _ _ _ (by simp; omega), World.cell?_alloc_lt _ _ _ hg]; exact hc
      have HZK := Lib.hid hzk
      clear hzk hc
      go_wp2
      go_roundg k
      case measure => omega
      case rel => 
        exact ⟨by omega, by simp, fun j h1 h2 => by
          by_cases e : j = k
          · rw [e]; exact HZK.out
          · exact HZ.out j (by omega) h2⟩
    · have hcc : ∀ o1 o2, ((w.alloc o1).alloc o2).cell? ⟨g, k, none⟩ = some (.int .i64 (D zs k)) := fun o1 o2 => by
        rw [World.cell?_alloc_lt _ _ _ (by simp; omega), World.cell?_alloc_lt _ _ _ hg]; exact hc
      have hG := HG'.out (k + 1) hk HZ.out (.inr (by simpa using hzk))
      have HG2 := Lib.hid hG
      clear hG HG' hc
      generalize D zs k = dk at *
      go_wp2
      all_goals
        refine bodyPost_ret (v := .agg #[.bool (b && true), .slice (some ⟨g, 0, none⟩) (k + 1) c]) (by simp [results, Tryd.results45, go_sem, *]) rfl ?_
        exact HG2.out _ (((Below.refl _ _).alloc (Nat.le_refl _) _).alloc (by simp) _) _ (by simp)
theorem GivesCut.gives {w w' : World} {A : Option Addr} {c : Nat} {x : Int} {e : Ending} (h : GivesCut w A c x e w') : Gives w x e w' := by
  obtain ⟨k, rfl, rfl, hd, hb⟩ := h
  exact ⟨_, rfl, ⟨_, rfl, hd⟩, hb⟩
theorem trimmed_any (b : Bool) (A : Option Addr) (c : Nat) (zs : List Int) (w : World) (hd : Dig zs) (h : Digs w (.slice A zs.length c) zs) :
    Calls Tryd.prog 45 #[.agg #[.bool b, .slice A zs.length c]] w (Gives w (if b then - val zs else val zs)) :=
  (trimmed_cut b A c zs w hd h).mono fun _ _ h => h.gives

/-- trimmed, of a raw row of digits of known worth. -/
theorem trimmed_to (b : Bool) (A : Option Addr) (c : Nat) (zs : List Int) (z : Int) (w : World) (hd : Dig zs) (hz : z = if b then - val zs else val zs) (h : Digs w (.slice A zs.length c) zs) :
    Calls Tryd.prog 45 #[.agg #[.bool b, .slice A zs.length c]] w (Gives w z) := by
  rw [hz]; exact trimmed_any b A c zs w hd h

end Go.Proofs.YtjfmefdhfboliaaDoor
