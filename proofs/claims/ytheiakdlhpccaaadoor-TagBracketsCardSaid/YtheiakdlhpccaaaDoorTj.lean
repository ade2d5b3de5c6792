/- Walks: terms, factor of the reader of constraints. -/
import Derived.Test.YtheiakdlhpccaaaDoorTi
namespace Go.Proofs.YtheiakdlhpccaaaDoor
open Go.RowKit Go.Shelf R
open Go.Proofs.YtheiakdlhpccaaaDoorW.PrintWords

theorem rowLoop_len {P : Pr} {sign : List UInt8} (hP : ∀ l q, P l = some q → q.2.length ≤ l.length) : ∀ (k : Nat) (acc : List S24) (l : List UInt8) (q : List S24 × List UInt8), rowLoop P sign k acc l = some q → q.2.length ≤ l.length
  | 0, _, _, _, h => by cases h
  | k + 1, acc, l, q, h => by
    rw [rowLoop] at h
    have ht := takes_len (sign := sign) (l := l)
    split at h
    · obtain ⟨p, hp, h⟩ := Option.bind_eq_some_iff.1 h
      have h1 := hP _ _ hp
      have h2 := rowLoop_len hP k _ _ _ h
      omega
    · cases h
      exact ht
theorem rowP_len {P : Pr} {sign : List UInt8} {n : Nat} (hP : ∀ l q, P l = some q → q.2.length ≤ l.length) : ∀ l q, rowP P sign n l = some q → q.2.length ≤ l.length := by
  intro l q h
  rw [rowP] at h
  obtain ⟨p, hp, h⟩ := Option.bind_eq_some_iff.1 h
  obtain ⟨t, ht, rfl⟩ := Option.map_eq_some_iff.1 h
  have h1 := hP _ _ hp
  have h2 := rowLoop_len hP _ _ _ _ ht
  simp only []
  omega
theorem factorP_len : ∀ (n : Nat) (l : List UInt8) (q : S24 × List UInt8), factorP n l = some q → q.2.length ≤ l.length
  | 0, _, _, h => by cases h
  | n + 1, l, q, h => by
    have ih := factorP_len n
    rw [factorP] at h
    have h1 := takes_len (sign := [33]) (l := l)
    have h2 := takes_len (sign := [40]) (l := (takesP [33] l).2)
    split at h
    · obtain ⟨p, hp, rfl⟩ := Option.map_eq_some_iff.1 h
      have := ih _ _ hp
      simp only []
      omega
    · split at h
      · obtain ⟨p, hp, h⟩ := Option.bind_eq_some_iff.1 h
        have h3 := rowP_len (rowP_len ih) _ _ hp
        split at h
        · cases h
          have h4 := takes_len (sign := [41]) (l := p.2)
          simp only []
          omega
        · cases h
      · split at h
        · cases h
        · cases h
          simp only [List.length_drop]
          omega
theorem termsP_len (n : Nat) : ∀ l q, termsP n l = some q → q.2.length ≤ l.length := rowP_len (rowP_len (factorP_len n))

def FactorAt (n : Nat) : Prop := ∀ (b : Nat) (l : List UInt8) (W : World), l.length < n → Rd W b l → Calls Tryd.prog 36 #[.pointer (some ⟨b, 0, none⟩)] W (Told b W (factorP n l))

set_option maxRecDepth 100000 in
set_option maxHeartbeats 2000000 in
theorem both_any (n : Nat) (hn : n ≤ 1000) (hF : FactorAt n) (b B : Nat) (l : List UInt8) (W : World) (hl : l.length < n) (hr : Rd W b l) (hB : W.cell? ⟨B, 0, none⟩ = some (.pointer (some ⟨b, 0, none⟩))) :
    Calls Tryd.prog 35 #[.pointer (some ⟨B, 0, none⟩)] W (Told b W (rowP (factorP n) [38, 38] n l)) := by
  have hmf : ∀ (fn : Fn) (first cap : Array Value) (w : World), (Instr.makeFunc fn first cap).run Tryd.prog w = .ok (.func fn first cap) w := fun _ _ _ _ => rfl
  have hbw := hr.lt
  obtain ⟨W1, hW1⟩ : ∃ W1, W.alloc (.cells #[.string ⟨#[]⟩, .string ⟨#[]⟩, .slice none 0 0] 24) = W1 := ⟨_, rfl⟩
  have hs1 : W1.heap.size = W.heap.size + 1 := by rw [← hW1]; simp
  have hk1 : Kp b W W1 := by rw [← hW1]; exact (Kp.refl b W).alloc hbw _
  have hrb : W1.heap[W.heap.size]? = some (.cells #[.string ⟨#[]⟩, .string ⟨#[]⟩, .slice none 0 0] 24 (0, 0)) := by rw [← hW1]; exact blk_new _ _
  have hB1 : W1.cell? ⟨B, 0, none⟩ = some (.pointer (some ⟨b, 0, none⟩)) := by rw [← hW1]; exact new_cell hB _
  have hr1 : Rd W1 b l := by rw [← hW1]; exact hr.below ((Below.refl _ W).alloc (Nat.le_refl _) _)
  have KR := Lib.hid (row_any 36 #[.pointer (some ⟨b, 0, none⟩)] #[] (enters_of Tryd.func36 (by kernel_rfl) rfl) (factorP n) [38, 38] (by decide) b n hn (factorP_len n) W1 (fun l W _ hl hr => hF b l W hl hr) l hl hr1)
  have HRB := Lib.hid hrb
  have HK1 := Lib.hid hk1
  obtain ⟨O, hO⟩ : ∃ O, rowP (factorP n) [38, 38] n l = O := ⟨_, rfl⟩
  rw [hO] at KR ⊢
  clear hO hrb hk1 hr hr1 hF hB
  go_enter Tryd.func35, Tryd.ntmps35
  go_wp2_with fail
  refine KR.out.mono ?_
  rintro e w2 ⟨hk2, he⟩
  cases O with
  | none =>
    obtain rfl : e = _ := he
    exact ⟨rfl, Told.no (HK1.out.trans hk2)⟩
  | some q =>
    obtain ⟨x, r⟩ := q
    obtain ⟨v, rfl, hR, hrd⟩ := he
    obtain ⟨A2, c2, rfl⟩ := Kd.R_slice hR
    have hrb2 : w2.heap[W.heap.size]? = some (.cells #[.string ⟨#[]⟩, .string ⟨#[]⟩, .slice none 0 0] 24 (0, 0)) := (hk2.up _ (by omega) (by omega)).trans HRB.out
    have q0 : w2.cell? ⟨W.heap.size, 0, none⟩ = some (.string ⟨#[]⟩) := (blk_cell hrb2 0).trans rfl
    have q1 : w2.cell? ⟨W.heap.size, 1, none⟩ = some (.string ⟨#[]⟩) := (blk_cell hrb2 1).trans rfl
    have q2 : w2.cell? ⟨W.heap.size, 2, none⟩ = some (.slice none 0 0) := (blk_cell hrb2 2).trans rfl
    have f0 := blk_frozen hrb2 0
    have f1 := blk_frozen hrb2 1
    have f2 := blk_frozen hrb2 2
    have hp := put3_cells q0 q1 q2 (.string x.f0) (.string x.f1) (.slice A2 x.f2.length c2)
    have ht := told_put (HK1.out.trans hk2) hbw (by rw [← hs1]; exact hR) hrd (.string x.f0) (.string x.f1) (.slice A2 x.f2.length c2)
    unfold put3 at hp ht
    have HP := Lib.hid hp
    have HT := Lib.hid ht
    clear hp ht hrb2 hR hrd hk2 hW1
    go_wp2_with fail
    obtain ⟨p0, p1, p2⟩ := HP.out
    exact bodyPost_ret (v := .agg #[.string x.f0, .string x.f1, .slice A2 x.f2.length c2]) (by simp [results, Tryd.results35, go_sem, p0, p1, p2]) rfl HT.out

set_option maxRecDepth 100000 in
set_option maxHeartbeats 2000000 in
theorem terms_any (n : Nat) (hn : n ≤ 1000) (hF : FactorAt n) (b : Nat) (l : List UInt8) (W : World) (hl : l.length < n) (hr : Rd W b l) :
    Calls Tryd.prog 25 #[.pointer (some ⟨b, 0, none⟩)] W (Told b W (termsP n l)) := by
  have hmf : ∀ (fn : Fn) (first cap : Array Value) (w : World), (Instr.makeFunc fn first cap).run Tryd.prog w = .ok (.func fn first cap) w := fun _ _ _ _ => rfl
  have hbw := hr.lt
  obtain ⟨W1, hW1⟩ : ∃ W1, (W.alloc (.cells #[.pointer (some ⟨b, 0, none⟩)] 50)).alloc (.cells #[.string ⟨#[]⟩, .string ⟨#[]⟩, .slice none 0 0] 24) = W1 := ⟨_, rfl⟩
  have hs1 : W1.heap.size = W.heap.size + 1 + 1 := by rw [← hW1]; simp
  have hk1 : Kp b W W1 := by rw [← hW1]; exact ((Kp.refl b W).alloc hbw _).alloc (by simp; omega) _
  have hrb : W1.heap[W.heap.size + 1]? = some (.cells #[.string ⟨#[]⟩, .string ⟨#[]⟩, .slice none 0 0] 24 (0, 0)) := by
    rw [← hW1]
    have := blk_new (W.alloc (.cells #[.pointer (some ⟨b, 0, none⟩)] 50)) (.cells #[.string ⟨#[]⟩, .string ⟨#[]⟩, .slice none 0 0] 24)
    rwa [World.size_alloc] at this
  have hB1 : W1.cell? ⟨W.heap.size, 0, none⟩ = some (.pointer (some ⟨b, 0, none⟩)) := by rw [← hW1]; exact new_cell (by simp [go_sem]) _
  have hr1 : Rd W1 b l := by rw [← hW1]; exact (hr.below ((Below.refl _ W).alloc (Nat.le_refl _) _)).below ((Below.refl _ _).alloc (Nat.le_refl _) _)
  have KR := Lib.hid (row_any 35 #[] #[.pointer (some ⟨W.heap.size, 0, none⟩)] (enters_of Tryd.func35 (by kernel_rfl) rfl) (rowP (factorP n) [38, 38] n) [124, 124] (by decide) b n hn (rowP_len (factorP_len n)) W1
    (fun l W' hk hl hr => by
      have := both_any n hn hF b W.heap.size l W' hl hr (hk.cell (by show W.heap.size ≠ b; omega) hB1)
      simpa using this) l hl hr1)
  have HRB := Lib.hid hrb
  have HK1 := Lib.hid hk1
  obtain ⟨O, hO⟩ : ∃ O, termsP n l = O := ⟨_, rfl⟩
  rw [hO]
  have hO2 : rowP (rowP (factorP n) [38, 38] n) [124, 124] n l = O := hO
  rw [hO2] at KR
  clear hO hO2 hrb hk1 hr hr1 hF
  go_enter Tryd.func25, Tryd.ntmps25
  go_wp2_with fail
  refine KR.out.mono ?_
  rintro e w2 ⟨hk2, he⟩
  cases O with
  | none =>
    obtain rfl : e = _ := he
    exact ⟨rfl, Told.no (HK1.out.trans hk2)⟩
  | some q =>
    obtain ⟨x, r⟩ := q
    obtain ⟨v, rfl, hR, hrd⟩ := he
    obtain ⟨A2, c2, rfl⟩ := Kd.R_slice hR
    have hrb2 : w2.heap[W.heap.size + 1]? = some (.cells #[.string ⟨#[]⟩, .string ⟨#[]⟩, .slice none 0 0] 24 (0, 0)) := (hk2.up _ (by omega) (by omega)).trans HRB.out
    have q0 : w2.cell? ⟨W.heap.size + 1, 0, none⟩ = some (.string ⟨#[]⟩) := (blk_cell hrb2 0).trans rfl
    have q1 : w2.cell? ⟨W.heap.size + 1, 1, none⟩ = some (.string ⟨#[]⟩) := (blk_cell hrb2 1).trans rfl
    have q2 : w2.cell? ⟨W.heap.size + 1, 2, none⟩ = some (.slice none 0 0) := (blk_cell hrb2 2).trans rfl
    have f0 := blk_frozen hrb2 0
    have f1 := blk_frozen hrb2 1
    have f2 := blk_frozen hrb2 2
    have hp := put3_cells q0 q1 q2 (.string x.f0) (.string x.f1) (.slice A2 x.f2.length c2)
    have ht := told_put_at (W.heap.size + 1) (HK1.out.trans hk2) hbw (by omega) (by rw [← hs1]; exact hR) hrd (.string x.f0) (.string x.f1) (.slice A2 x.f2.length c2)
    unfold put3 at hp ht
    have HP := Lib.hid hp
    have HT := Lib.hid ht
    clear hp ht hrb2 hR hrd hk2 hW1
    go_wp2_with fail
    obtain ⟨p0, p1, p2⟩ := HP.out
    exact bodyPost_ret (v := .agg #[.string x.f0, .string x.f1, .slice A2 x.f2.length c2]) (by simp [results, Tryd.results25, go_sem, p0, p1, p2]) rfl HT.out

end Go.Proofs.YtheiakdlhpccaaaDoor
