/- Walks: row, terms, factor of the reader of constraints. -/
import Derived.Test.YtheiakdlhpccaaaDoorTh
namespace Go.Proofs.YtheiakdlhpccaaaDoor
open Go.RowKit Go.Shelf R
open Go.Proofs.YtheiakdlhpccaaaDoorW.PrintWords

abbrev Pr := List UInt8 → Option (S24 × List UInt8)
/-- A row's further parts. -/
def rowLoop (part : Pr) (sign : List UInt8) : Nat → List S24 → List UInt8 → Option (List S24 × List UInt8)
  | 0, _, _ => none
  | k + 1, acc, l => if (takesP sign l).1 = true then (part (takesP sign l).2).bind fun q => rowLoop part sign k (acc ++ [q.1]) q.2 else some (acc, (takesP sign l).2)
def rowX (sign : List UInt8) : List S24 → S24
  | [x] => x
  | xs => ⟨bs sign, bs [], xs⟩
def rowP (part : Pr) (sign : List UInt8) (k : Nat) : Pr := fun l => (part l).bind fun q => (rowLoop part sign k [q.1] q.2).map fun t => (rowX sign t.1, t.2)
def tagB (l : List UInt8) : List UInt8 := l.takeWhile fun c => mayN c.toNat
def factorP : Nat → Pr
  | 0, _ => none
  | n + 1, l =>
    if (takesP [33] l).1 = true then (factorP n (takesP [33] l).2).map fun q => (⟨bs [33], bs [], [q.1]⟩, q.2)
    else if (takesP [40] (takesP [33] l).2).1 = true then
      (rowP (rowP (factorP n) [38, 38] n) [124, 124] n (takesP [40] (takesP [33] l).2).2).bind fun q => if (takesP [41] q.2).1 = true then some (q.1, (takesP [41] q.2).2) else none
    else if tagB (takesP [40] (takesP [33] l).2).2 = [] then none
    else some (⟨bs [], bs (tagB (takesP [40] (takesP [33] l).2).2), []⟩, (takesP [40] (takesP [33] l).2).2.drop (tagB (takesP [40] (takesP [33] l).2).2).length)
def termsP (n : Nat) : Pr := rowP (rowP (factorP n) [38, 38] n) [124, 124] n

/-- What a parse tells: a constraint in new memory and what is left; or a panic. -/
def Told (b : Nat) (w : World) (o : Option (S24 × List UInt8)) (e : Ending) (w' : World) : Prop :=
  Kp b w w' ∧ match o with
  | some q => ∃ v, e = .returned (.agg #[.string q.1.f0, .string q.1.f1, v]) ∧ Kd.R k24 24 w' w.heap.size (fun _ => True) v q.1.f2 ∧ Rd w' b q.2
  | none => e = .panicked [{ v := .iface 48 (.agg #[]), recovered := false }]
theorem Told.yes {b : Nat} {w w' : World} {x : S24} {r : List UInt8} {v : Value} (hk : Kp b w w') (hR : Kd.R k24 24 w' w.heap.size (fun _ => True) v x.f2) (hr : Rd w' b r) : Told b w (some (x, r)) (.returned (.agg #[.string x.f0, .string x.f1, v])) w' := ⟨hk, v, rfl, hR, hr⟩
theorem Told.no {b : Nat} {w w' : World} (hk : Kp b w w') : Told b w none (.panicked [{ v := .iface 48 (.agg #[]), recovered := false }]) w' := ⟨hk, rfl⟩

/-- Function g, with what it has, reads by P from the reader's text on. -/
def PartAt (g : FuncId) (args : Array Value) (P : Pr) (b n : Nat) (w : World) : Prop :=
  ∀ l W, Kp b w W → l.length < n → Rd W b l → Calls Tryd.prog g args W (Told b W (P l))

theorem Kp.alloc {b : Nat} {w W : World} (h : Kp b w W) (hb : b < W.heap.size) (o : Obj) : Kp b w (W.alloc o) := h.trans (.of_below ((Below.refl _ W).alloc (Nat.le_refl _) o) hb)
theorem Kp.grown {b : Nat} {w W W' : World} {row : Option Nat} (h : Kp b w W) (hg : W.grownBy W' row) (hb : b < w.heap.size) (hr : ∀ k, row = some k → w.heap.size ≤ k) : Kp b w W' :=
  ⟨h.bel.grown hg (by have := h.size; omega) (fun k e => by have := hr k e; omega), fun i hi hl => (hg.block i (by have := h.size; omega) (fun e => by have := hr i e.symm; omega)).trans (h.up i hi hl)⟩
theorem Kp.set_new {b : Nat} {w W : World} (h : Kp b w W) {p : Addr} (hp : w.heap.size ≤ p.block) (hb : b < w.heap.size) (u : Value) : Kp b w (W.setCell p u) :=
  ⟨h.bel.setCell (by omega) u, fun i hi hl => (Below.heap_setCell _ _ _ _ (by omega)).trans (h.up i hi hl)⟩
theorem Kp.weak {b : Nat} {w w1 W : World} (h : Kp b w w1) (k : Kp b w1 W) : Kp b w W := h.trans k
theorem R_set_low {w : World} {base : Nat} {v : Value} {xs : List S24} (h : Kd.R k24 24 w base (fun _ => True) v xs) {p : Addr} (hp : p.block < base) (u : Value) : Kd.R k24 24 (w.setCell p u) base (fun _ => True) v xs :=
  Kd.R_mono (Kd.R_move (Kd.R_bound h) (fun k hk => Below.heap_setCell _ _ _ _ (by have := hk.2.1; omega))) (fun _ _ => trivial)

/-- A row of one. -/
theorem R_single {W : World} {base : Nat} {x : S24} {v : Value} (h : Kd.R k24 24 W base (fun _ => True) v x.f2) (hb : base ≤ W.heap.size) :
    Kd.R k24 24 (W.alloc (.cells #[.string x.f0, .string x.f1, v] 24)) base (fun _ => True) (.slice (some ⟨W.heap.size, 0, none⟩) 1 1) [x] := by
  have hM := k24_mkM W base (fun _ => True) x h
  have hrep : Reps (k24.M W base (fun _ => True)) 3 [x] [.string x.f0, .string x.f1, v] := by
    refine ⟨rfl, fun j p hj => ?_⟩
    cases j with
    | zero =>
      obtain rfl : x = p := by simpa using hj
      exact hM
    | succ j => simp at hj
  refine ⟨fun _ _ => trivial, [.string x.f0, .string x.f1, v], ?_, ?_⟩
  · have h2 := World.ownsRow_lit (base := base) (e := 24) (size := 3) W #[.string x.f0, .string x.f1, v] 1 hb (by simp [maxLen]) (by simp)
    have e3 : k24.sz = 3 := rfl
    rw [e3]
    simpa using h2
  · refine hrep.imp_ (fun p c hp => k24.M_mono (fun k hk => ⟨trivial, fun he => ?_⟩) (Kd.M_below (k24.M_bound hp) ((Below.refl _ _).alloc (Nat.le_refl _) _)))
    have h3 : k = W.heap.size := by simpa [Value.ownBlock] using he
    have := hk.2.2.1
    omega

theorem R_first {W : World} {base g cap : Nat} {x : S24} (h : Kd.R k24 24 W base (fun _ => True) (.slice (some ⟨g, 0, none⟩) 1 cap) [x]) :
    ∃ v, W.cell? ⟨g, 0, none⟩ = some (.string x.f0) ∧ W.cell? ⟨g, 1, none⟩ = some (.string x.f1) ∧ W.cell? ⟨g, 2, none⟩ = some v ∧ Kd.R k24 24 W base (fun _ => True) v x.f2 := by
  obtain ⟨_, inner, ho, hr⟩ := h
  have hM := hr.2 0 x rfl
  obtain ⟨v, he, hR⟩ := k24_openM hM
  have hl : inner.length = 3 := hr.1
  have hi : inner = [.string x.f0, .string x.f1, v] := by
    rw [← he]
    show inner = (inner.drop (0 * 3)).take 3
    rw [Nat.zero_mul, List.drop_zero, List.take_of_length_le (by omega)]
  subst hi
  have c := fun j hj => ho.cellAt j hj
  exact ⟨v, c 0 (by decide), c 1 (by decide), c 2 (by decide), Kd.R_mono hR (fun _ _ => trivial)⟩

theorem takes_len {sign l : List UInt8} : (takesP sign l).2.length ≤ l.length := by
  unfold takesP skipL Lib.trimLeftS
  have h1 : (l.dropWhile fun b => [32, 9].contains b).length ≤ l.length := (List.dropWhile_sublist _).length_le
  have := trim_len (l.dropWhile fun b => [32, 9].contains b) sign
  simp only []
  omega
theorem takes_lt {sign l : List UInt8} (hs : sign ≠ []) (h : (takesP sign l).1 = true) : (takesP sign l).2.length < l.length := by
  unfold takesP at h ⊢
  simp only [] at h ⊢
  have h1 : (skipL l).length ≤ l.length := (List.dropWhile_sublist _).length_le
  have h2 : sign.length ≤ (skipL l).length := by
    exact (List.isPrefixOf_iff_prefix.1 h).length_le
  have h3 : 0 < sign.length := List.length_pos_iff.2 hs
  unfold Lib.trimPrefix
  rw [if_pos h, List.length_drop]
  omega

/-- Three cells stored. -/
def put3 (W : World) (rb : Nat) (u0 u1 u2 : Value) : World := ((W.setCell ⟨rb, 0, none⟩ u0).setCell ⟨rb, 1, none⟩ u1).setCell ⟨rb, 2, none⟩ u2
theorem set_ne {W : World} {b b' o o' : Nat} {u : Value} (h : b ≠ b' ∨ o ≠ o') : (W.setCell ⟨b, o, none⟩ u).cell? ⟨b', o', none⟩ = W.cell? ⟨b', o', none⟩ := by
  apply World.cell?_setCell_other
  intro e
  cases e
  omega
theorem set_eq {W : World} {a : Addr} {u v : Value} (h : W.cell? a = some v) : (W.setCell a u).cell? a = some u := World.cell?_setCell_same' _ _ _ (by rw [h]; rfl)
theorem put3_cells {W : World} {rb : Nat} {v0 v1 v2 : Value} (h0 : W.cell? ⟨rb, 0, none⟩ = some v0) (h1 : W.cell? ⟨rb, 1, none⟩ = some v1) (h2 : W.cell? ⟨rb, 2, none⟩ = some v2) (u0 u1 u2 : Value) :
    (put3 W rb u0 u1 u2).cell? ⟨rb, 0, none⟩ = some u0 ∧ (put3 W rb u0 u1 u2).cell? ⟨rb, 1, none⟩ = some u1 ∧ (put3 W rb u0 u1 u2).cell? ⟨rb, 2, none⟩ = some u2 := by
  unfold put3
  refine ⟨?_, ?_, ?_⟩
  · rw [set_ne (by omega), set_ne (by omega)]; exact set_eq h0
  · rw [set_ne (by omega)]; exact set_eq ((set_ne (by omega)).trans h1)
  · exact set_eq ((set_ne (by omega)).trans ((set_ne (by omega)).trans h2))
theorem Rd.far {W : World} {b rb o : Nat} {l : List UInt8} (h : Rd W b l) (hb : rb ≠ b) (u : Value) : Rd (W.setCell ⟨rb, o, none⟩ u) b l :=
  ⟨(set_ne (.inl hb)).trans h.1, by rw [World.frozen?_setCell]; exact h.2⟩
theorem told_put_at {b : Nat} {w W : World} {x : S24} {r : List UInt8} {v : Value} (rb : Nat) (hk : Kp b w W) (hb : b < w.heap.size) (hrb : w.heap.size ≤ rb) (hR : Kd.R k24 24 W (rb + 1) (fun _ => True) v x.f2) (hr : Rd W b r) (u0 u1 u2 : Value) :
    Told b w (some (x, r)) (.returned (.agg #[.string x.f0, .string x.f1, v])) (put3 W rb u0 u1 u2) := by
  unfold put3
  refine Told.yes (((hk.set_new hrb hb u0).set_new hrb hb u1).set_new hrb hb u2) ?_ (((hr.far (by omega) u0).far (by omega) u1).far (by omega) u2)
  exact Kd.R_lower (R_set_low (R_set_low (R_set_low hR (p := ⟨rb, 0, none⟩) (by show rb < _; omega) u0) (p := ⟨rb, 1, none⟩) (by show rb < _; omega) u1) (p := ⟨rb, 2, none⟩) (by show rb < _; omega) u2) (by omega)
theorem told_put {b : Nat} {w W : World} {x : S24} {r : List UInt8} {v : Value} (hk : Kp b w W) (hb : b < w.heap.size) (hR : Kd.R k24 24 W (w.heap.size + 1) (fun _ => True) v x.f2) (hr : Rd W b r) (u0 u1 u2 : Value) :
    Told b w (some (x, r)) (.returned (.agg #[.string x.f0, .string x.f1, v])) (put3 W w.heap.size u0 u1 u2) := told_put_at _ hk hb (Nat.le_refl _) hR hr u0 u1 u2

def zblk : Obj := .cells #[.string ⟨#[]⟩, .string ⟨#[]⟩, .slice none 0 0] 24

set_option maxRecDepth 100000 in
set_option maxHeartbeats 8000000 in
theorem row_any (g : FuncId) (first caps : Array Value) (hen : ∀ args W, (callFunc g args).run Tryd.prog W = .ok (.enter g args) W) (P : Pr) (sign : List UInt8) (hsign : sign ≠ []) (b n : Nat) (hn : n ≤ 1000)
    (hP : ∀ l q, P l = some q → q.2.length ≤ l.length) (w : World) (hPA : PartAt g (first ++ caps) P b n w) (l : List UInt8) (hl : l.length < n) (hr : Rd w b l) :
    Calls Tryd.prog 34 #[.pointer (some ⟨b, 0, none⟩), .string (bs sign), .func (.func g) first caps] w (Told b w (rowP P sign n l)) := by
  have hbw := hr.lt
  have hk1 : Kp b w (w.alloc zblk) := (Kp.refl b w).alloc hbw _
  have K1 := Lib.hid (hPA l (w.alloc zblk) hk1 hl (hr.below ((Below.refl _ w).alloc (Nat.le_refl _) _)))
  obtain ⟨O, hO⟩ : ∃ O, rowP P sign n l = O := ⟨_, rfl⟩
  rw [hO]
  have HPA := Lib.hid hPA
  have HK1 := Lib.hid hk1
  have HO := Lib.hid hO
  have HR := Lib.hid hr
  have HP := Lib.hid hP
  clear hO hk1 hPA hr hP
  unfold zblk at K1 HK1
  cases hp1 : P l with
  | none =>
    obtain rfl : O = none := by rw [← HO.out, rowP, hp1]; rfl
    rw [hp1] at K1
    clear hp1
    go_enter Tryd.func34, Tryd.ntmps34
    go_wp2_with fail
    refine K1.out.mono ?_
    rintro e w2 ⟨hk, rfl⟩
    exact ⟨rfl, Told.no (HK1.out.trans hk)⟩
  | some q =>
    obtain ⟨x, r⟩ := q
    rw [hp1] at K1
    have hO2 : ((rowLoop P sign n [x] r).map fun t => (rowX sign t.1, t.2)) = O := by rw [← HO.out, rowP, hp1]; rfl
    have hrl := HP.out l _ hp1
    have HO2 := Lib.hid hO2
    clear hO2 hp1 HO
    go_enter Tryd.func34, Tryd.ntmps34
    go_wp2_with fail
    refine K1.out.mono ?_
    rintro e w2 ⟨hk, v, rfl, hR, hrd⟩
    go_wp2_with fail
    obtain ⟨w1, hw1⟩ : ∃ w1, w.alloc (.cells #[.string ⟨#[]⟩, .string ⟨#[]⟩, .slice none 0 0] 24) = w1 := ⟨_, rfl⟩
    have hs1 : w1.heap.size = w.heap.size + 1 := by rw [← hw1]; simp
    rw [hw1] at hk hR K1 HK1
    have hrb : w1.heap[w.heap.size]? = some (.cells #[.string ⟨#[]⟩, .string ⟨#[]⟩, .slice none 0 0] 24 (0, 0)) := by rw [← hw1]; exact blk_new _ _
    have hb2 : Below w2.heap.size w2 (w2.alloc (.cells #[.string x.f0, .string x.f1, v] 24)) := (Below.refl _ w2).alloc (Nat.le_refl _) _
    have hR1 : Kd.R k24 24 (w2.alloc (.cells #[.string x.f0, .string x.f1, v] 24)) w1.heap.size (fun _ => True) (.slice (some ⟨w2.heap.size, 0, none⟩) 1 1) [x] := R_single hR hk.size
    have hK2 := hk.alloc hrd.lt (.cells #[.string x.f0, .string x.f1, v] 24)
    have hrd2 := hrd.below hb2
    have HRB := Lib.hid hrb
    have H0 := Lib.hid (And.intro hR1 (And.intro hrd2 hK2))
    clear hw1 hrb hb2 hR1 hK2 hrd2 hR hk hrd K1
    go_loopg [7] n (fun gk v wr => ∃ xs r, 0 < xs.length ∧ xs.length + gk ≤ n + 1 ∧ r.length < gk ∧ (rowLoop P sign gk xs r).map (fun t => (rowX sign t.1, t.2)) = O ∧ Kd.R k24 24 wr w1.heap.size (fun _ => True) v xs ∧ Rd wr b r ∧ Kp b w1 wr)
    case atStart => exact ⟨[x], r, by simp, by simp; omega, by omega, HO2.out, H0.out.1, H0.out.2.1, H0.out.2.2⟩
    case round =>
      obtain ⟨xs, r, hx0, hxn, hrn, hloop, hR, hrd, hk⟩ := hrel
      cases gk with
      | zero => omega
      | succ k =>
        rw [rowLoop] at hloop
        have KT := Lib.hid (takes_any sign r b wr hrd)
        have hkl := takes_len (sign := sign) (l := r)
        have hklt := takes_lt (l := r) hsign
        obtain ⟨⟨i, r1⟩, hi⟩ : ∃ q, takesP sign r = q := ⟨_, rfl⟩
        rw [hi] at KT hloop hkl hklt
        simp only [] at KT hloop hkl hklt
        have HL := Lib.hid hloop
        have HRR := Lib.hid hR
        have HKK := Lib.hid hk
        have HLT := Lib.hid hklt
        have hbr := hrd.lt
        have hbw1 : b < w1.heap.size := by omega
        clear hi hloop hR hk hklt hrd H0
        cases i
        · -- the row ends
          have hO3 : some (rowX sign xs, r1) = O := by
            have := HL.out
            rwa [if_neg (by decide)] at this
          subst hO3
          clear HL
          go_wp2_with fail
          refine KT.out.mono ?_
          rintro e w3 ⟨rfl, hrd3, hk3⟩
          have hR3 := hk3.row (by omega) HRR.out
          have hk13 := HKK.out.trans hk3
          have hrb3 : w3.heap[w.heap.size]? = some (.cells #[.string ⟨#[]⟩, .string ⟨#[]⟩, .slice none 0 0] 24 (0, 0)) := (hk13.up _ (by omega) (by omega)).trans HRB.out
          have q0 : w3.cell? ⟨w.heap.size, 0, none⟩ = some (.string ⟨#[]⟩) := (blk_cell hrb3 0).trans rfl
          have q1 : w3.cell? ⟨w.heap.size, 1, none⟩ = some (.string ⟨#[]⟩) := (blk_cell hrb3 1).trans rfl
          have q2 : w3.cell? ⟨w.heap.size, 2, none⟩ = some (.slice none 0 0) := (blk_cell hrb3 2).trans rfl
          have f0 := blk_frozen hrb3 0
          have f1 := blk_frozen hrb3 1
          have f2 := blk_frozen hrb3 2
          have HF := Lib.hid (And.intro hR3 (And.intro hrd3 hk13))
          obtain ⟨gg, cap, rfl, hg1, hg2, _⟩ := Kd.R_form hR3 hx0
          clear hR3 hrd3 hk13 hk3 hrb3
          by_cases h1 : xs.length = 1
          · obtain ⟨y, rfl⟩ := List.length_eq_one_iff.1 h1
            obtain ⟨vv, e0, e1, e2, hRy⟩ := R_first HF.out.1
            obtain ⟨A2, c2, rfl⟩ := Kd.R_slice hRy
            have HRY := Lib.hid hRy
            clear hRy
            simp only [List.length_cons, List.length_nil, Nat.zero_add]
            go_wp2_with fail
            obtain ⟨p0, p1, p2⟩ := put3_cells q0 q1 q2 (.string y.f0) (.string y.f1) (.slice A2 y.f2.length c2)
            have ht := told_put (HK1.out.trans HF.out.2.2) hbw (by rw [← hs1]; exact HRY.out) HF.out.2.1 (.string y.f0) (.string y.f1) (.slice A2 y.f2.length c2)
            unfold put3 at p0 p1 p2 ht
            refine bodyPost_ret (v := .agg #[.string y.f0, .string y.f1, .slice A2 y.f2.length c2]) (by simp [results, Tryd.results34, go_sem, p0, p1, p2]) rfl ht
          · have h1i : ((xs.length : Int) == 1) = false := by simp; omega
            have hx : rowX sign xs = ⟨bs sign, bs [], xs⟩ := by
              match xs, h1 with
              | [], _ => rfl
              | [a], h => exact absurd rfl h
              | a :: c :: d, _ => rfl
            have HX := Lib.hid hx
            clear hx
            go_wp2_with fail
            obtain ⟨p0, p1, p2⟩ := put3_cells q0 q1 q2 (.string (bs sign)) (.string ⟨#[]⟩) (.slice (some ⟨gg, 0, none⟩) xs.length cap)
            have ht := told_put (x := ⟨bs sign, bs [], xs⟩) (HK1.out.trans HF.out.2.2) hbw (by rw [← hs1]; exact HF.out.1) HF.out.2.1 (.string (bs sign)) (.string ⟨#[]⟩) (.slice (some ⟨gg, 0, none⟩) xs.length cap)
            unfold put3 at p0 p1 p2 ht
            refine bodyPost_ret (v := .agg #[.string (bs sign), .string ⟨#[]⟩, .slice (some ⟨gg, 0, none⟩) xs.length cap]) (by simp [results, Tryd.results34, go_sem, p0, p1, p2]) rfl ?_
            rw [HX.out]
            exact ht
        · have hlt := HLT.out rfl
          have hO3 : ((P r1).bind fun q => rowLoop P sign k (xs ++ [q.1]) q.2).map (fun t => (rowX sign t.1, t.2)) = O := by
            have := HL.out
            rwa [if_pos rfl] at this
          have HPr := Lib.hid (fun W (hW : Kp b w W) (hd : Rd W b r1) => HPA.out r1 W hW (by omega) hd)
          clear HL HLT
          cases hp1 : P r1 with
          | none =>
            rw [hp1] at hO3 HPr
            obtain rfl : O = none := hO3.symm
            clear hp1 hO3
            go_wp2_with fail
            refine KT.out.mono ?_
            rintro e w3 ⟨rfl, hrd3, hk3⟩
            have hk13 := HKK.out.trans hk3
            go_wp2_with fail
            refine (HPr.out _ (HK1.out.trans hk13) hrd3).mono ?_
            rintro e w4 ⟨hk4, rfl⟩
            exact ⟨rfl, Told.no ((HK1.out.trans hk13).trans hk4)⟩
          | some q =>
            obtain ⟨y, r2⟩ := q
            rw [hp1] at hO3 HPr
            have hO4 : (rowLoop P sign k (xs ++ [y]) r2).map (fun t => (rowX sign t.1, t.2)) = O := hO3
            have hr2 := HP.out r1 _ hp1
            have HO4 := Lib.hid hO4
            clear hp1 hO3 hO4
            go_wp2_with fail
            refine KT.out.mono ?_
            rintro e w3 ⟨rfl, hrd3, hk3⟩
            have hk13 := HKK.out.trans hk3
            have hR3 := hk3.row (by omega) HRR.out
            go_wp2_with fail
            refine (HPr.out _ (HK1.out.trans hk13) hrd3).mono ?_
            rintro e w4 ⟨hk4, vy, rfl, hRy, hrd4⟩
            have hk14 := hk13.trans hk4
            have hR4 := hk4.row (by omega) hR3
            have hlt4 := Kd.R_lt hR3
            have hM := k24_mkM w4 w1.heap.size _ y (Kd.R_lower (Kd.R_new' hRy hlt4) hk13.size)
            have hz4 := hk14.size
            have HM := Lib.hid hM
            have HR4 := Lib.hid hR4
            have HK4 := Lib.hid hk14
            have HRD4 := Lib.hid hrd4
            clear hM hR4 hk14 hRy hR3 hk4 hlt4
            go_wp2_with (at_builtin; refine Kd.R_append (w0 := w4) (W := w4) k24 w1.heap.size rfl (.tmp 14) (.tmp 17) 22 24 (.agg #[(.string ⟨#[]⟩), (.string ⟨#[]⟩), (.slice none 0 0)]) 56 rfl Tryd.underlying22 info24 rfl (by decide) (by omega) u7 xs y [.string y.f0, .string y.f1, vy] (fun _ => True) (fun k => True ∧ some k ≠ u7.ownBlock) rfl rfl HM.out (fun _ hk => hk) (fun _ _ => trivial) HR4.out (Below.refl _ _) hz4 (by omega) ?_; intro v1 w5 hR5 _ hg5 _)
            have hown4 := Kd.R_base HR4.out
            have hk5 : Kp b w1 w5 := HK4.out.grown hg5 (by omega) hown4
            have hrd5 : Rd w5 b r2 := by
              have h1 := HRD4.out
              have e : w5.heap[b]? = w4.heap[b]? := hg5.block b h1.lt (fun e => by have := hown4 b e.symm; omega)
              refine ⟨?_, ?_⟩
              · have := h1.1
                unfold World.cell? at this ⊢
                rw [e]; exact this
              · have := h1.2
                unfold World.frozen? at this ⊢
                rw [e]; exact this
            go_roundg k
            case measure => omega
            case rel => exact ⟨xs ++ [y], r2, by simp, by simp; omega, by omega, HO4.out, hR5, hrd5, hk5⟩

end Go.Proofs.YtheiakdlhpccaaaDoor
