/- Walks: lines, and the iterator that it hands back. -/
import Derived.Test.YtiigjmageeinpaaDoorVf
import Derived.Laws.IdiomStrings
namespace Go.Proofs.YtiigjmageeinpaaDoor
open Go.RowKit Go.Shelf

attribute [local go_sem] Oper.semAt_some
attribute [local go_sem] run_store_func

/-- A slice whose bytes are l. -/
def Byt (W : World) (v : Value) (l : List UInt8) : Prop :=
  (∃ c, v = .slice none 0 c ∧ l = []) ∨ ∃ (x : Addr) (cap : Nat), v = .slice (some x) l.length cap ∧ ∀ i (h : i < l.length), W.cell? (x.add i) = some (.int .u8 (l[i].toNat : Int))

theorem add_plain (b o i : Nat) : (⟨b, o, none⟩ : Addr).add i = ⟨b, o + i, none⟩ := by
  unfold Addr.add
  split
  · rename_i h
    rw [h]; rfl
  · rfl

theorem Byt.mk' {W : World} {b off cap : Nat} {l : List UInt8} (h : ∀ i, i < l.length → W.cell? ⟨b, off + i, none⟩ = some (.int .u8 ((l.getD i 0).toNat : Int))) : Byt W (.slice (some ⟨b, off, none⟩) l.length cap) l := by
  refine .inr ⟨_, cap, rfl, fun i hi => ?_⟩
  rw [add_plain, h i hi, List.getD_eq_getElem?_getD, List.getElem?_eq_getElem hi]
  rfl

theorem Byt.below {W W' : World} {v : Value} {l : List UInt8} (h : Byt W v l) (hb : Below W.heap.size W W') : Byt W' v l := by
  rcases h with h | ⟨x, cap, rfl, h⟩
  · exact .inl h
  · exact .inr ⟨x, cap, rfl, fun i hi => keeps_cell hb (h i hi)⟩

theorem Byt.conv {W : World} {v : Value} {l : List UInt8} (h : Byt W v l) : (convert 22 9 v).run Tryd.prog W = .ok (.string (bs l)) W := by
  rcases h with ⟨c, rfl, rfl⟩ | ⟨x, cap, rfl, h⟩
  · exact run_convert_bytes_nil (P := Tryd.prog) W 22 5 Tryd.underlying22 Tryd.underlying5 0 c 9 Tryd.underlying9
  · exact run_convert_bytes_back (P := Tryd.prog) W 22 9 5 x cap l Tryd.underlying22 Tryd.underlying5 Tryd.underlying9 h

theorem Byt.len {W : World} {v : Value} {l : List UInt8} (h : Byt W v l) : ∃ a c, v = .slice a l.length c := by
  rcases h with ⟨c, rfl, rfl⟩ | ⟨x, cap, rfl, h⟩
  · exact ⟨_, _, rfl⟩
  · exact ⟨_, _, rfl⟩

/-- Whatever lies from block m on lies as it lay. -/
def Keep (m : Nat) (W W' : World) : Prop := W.heap.size ≤ W'.heap.size ∧ ∀ k o, m ≤ k → W.heap[k]? = some o → W'.heap[k]? = some o
theorem Keep.trans {m : Nat} {A B C : World} (h : Keep m A B) (k : Keep m B C) : Keep m A C := ⟨Nat.le_trans h.1 k.1, fun i o hi ho => k.2 i o hi (h.2 i o hi ho)⟩
theorem Keep.below {m : Nat} {A B : World} (h : Below A.heap.size A B) : Keep m A B := ⟨h.size, fun k _o _ ho => (h.block k (Array.getElem?_eq_some_iff.1 ho).1).trans ho⟩
theorem Keep.hold {m n₀ : Nat} {A B : World} (h : Keep m A B) (hn : m ≤ n₀) : Hold n₀ A B := fun k o hk ho _ => h.2 k o (by omega) ho
theorem Keep.from {m B : Nat} {A A' : World} (h : Keep m A A') (hn : m ≤ B) : KeepsFrom B A A' := ⟨h.1, fun k o hk ho _ => h.2 k o (by omega) ho⟩

/-- A row of texts. -/
def Words (n₀ : Nat) (W : World) (v : Value) (ws : List (List UInt8)) : Prop :=
  ∃ A, v = .slice (some ⟨A, 0, none⟩) ws.length ws.length ∧ W.ownsRow n₀ 9 1 v ws.length (ws.map fun x => .string (bs x))

/-- A text's rows of words: of the lines that have one. -/
def rowsAll (l : List UInt8) : List (List (List UInt8)) := (splitC 10 l).map wordsL
def rowsL (l : List UInt8) : List (List (List UInt8)) := (rowsAll l).filter fun r => decide (0 < r.length)
/-- How many rows stand ahead of line j. -/
def cnt (l : List UInt8) (j : Nat) : Nat := (((rowsAll l).take j).filter fun r => decide (0 < r.length)).length

theorem cnt_zero (l : List UInt8) : cnt l 0 = 0 := by simp [cnt]
theorem cnt_all (l : List UInt8) {j : Nat} (h : (splitC 10 l).length ≤ j) : cnt l j = (rowsL l).length := by
  unfold cnt rowsL
  rw [List.take_of_length_le (by simp [rowsAll]; omega)]

theorem filter_at {α : Type} (p : α → Bool) (d : α) : ∀ (xs : List α) (j : Nat), j < xs.length →
    ((xs.take (j + 1)).filter p).length = ((xs.take j).filter p).length + (if p (xs.getD j d) then 1 else 0) ∧
    (p (xs.getD j d) = true → ((xs.take j).filter p).length < (xs.filter p).length ∧ (xs.filter p).getD ((xs.take j).filter p).length d = xs.getD j d)
  | [], j, h => by simp at h
  | x :: xs, 0, _ => by
    cases hp : p x <;> simp [hp]
  | x :: xs, j + 1, h => by
    have ih := filter_at p d xs j (by simpa using h)
    rw [List.take_succ_cons, List.take_succ_cons, List.getD_cons_succ]
    cases hp : p x
    · rw [List.filter_cons_of_neg (by simp [hp]), List.filter_cons_of_neg (by simp [hp]), List.filter_cons_of_neg (by simp [hp])]
      exact ih
    · rw [List.filter_cons_of_pos hp, List.filter_cons_of_pos hp, List.filter_cons_of_pos hp]
      refine ⟨by simp only [List.length_cons]; omega, fun hj => ?_⟩
      obtain ⟨a, b⟩ := ih.2 hj
      exact ⟨by simp only [List.length_cons]; omega, by rw [List.length_cons, List.getD_cons_succ]; exact b⟩

theorem row_at {l : List UInt8} {k : Nat} (hk : k < (splitC 10 l).length) : (rowsAll l).getD k [] = wordsL ((splitC 10 l).getD k []) := by
  unfold rowsAll
  rw [List.getD_eq_getElem?_getD, List.getElem?_map, List.getD_eq_getElem?_getD, List.getElem?_eq_getElem hk]
  rfl

theorem cnt_skip {l : List UInt8} {k : Nat} (hk : k < (splitC 10 l).length) (h : (wordsL ((splitC 10 l).getD k [])).length = 0) : cnt l (k + 1) = cnt l k := by
  have := (filter_at (fun r : List (List UInt8) => decide (0 < r.length)) [] (rowsAll l) k (by simpa [rowsAll] using hk)).1
  rw [row_at hk, h] at this
  unfold cnt
  rw [this]
  simp
theorem cnt_step {l : List UInt8} {k : Nat} (hk : k < (splitC 10 l).length) (h : 0 < (wordsL ((splitC 10 l).getD k [])).length) :
    cnt l (k + 1) = cnt l k + 1 ∧ cnt l k < (rowsL l).length ∧ (rowsL l).getD (cnt l k) [] = wordsL ((splitC 10 l).getD k []) := by
  obtain ⟨a, b⟩ := filter_at (fun r : List (List UInt8) => decide (0 < r.length)) [] (rowsAll l) k (by simpa [rowsAll] using hk)
  rw [row_at hk] at a b
  obtain ⟨c, d⟩ := b (decide_eq_true h)
  refine ⟨?_, c, d⟩
  unfold cnt
  rw [a, if_pos (decide_eq_true h)]

theorem part_len {c : UInt8} : ∀ {l : List UInt8} {p : List UInt8}, p ∈ splitC c l → p.length ≤ l.length
  | [], p, h => by
    simp [splitC] at h
    subst h
    simp
  | x :: l, p, h => by
    unfold splitC at h
    split at h
    · rcases List.mem_cons.1 h with rfl | h
      · simp
      · have := part_len h
        simp; omega
    · split at h
      · rename_i hs
        exact absurd hs (splitC_ne c l)
      · rename_i q qs hs
        rcases List.mem_cons.1 h with rfl | h
        · have := part_len (c := c) (l := l) (p := q) (by rw [hs]; exact List.mem_cons_self)
          simp; omega
        · have := part_len (c := c) (l := l) (p := p) (by rw [hs]; exact List.mem_cons_of_mem _ h)
          simp; omega
theorem part_at {c : UInt8} {l : List UInt8} {n : Nat} (h : l.length ≤ n) (k : Nat) : ((splitC c l).getD k []).length ≤ n := by
  rw [List.getD_eq_getElem?_getD]
  cases hk : (splitC c l)[k]? with
  | none => simp
  | some p => have := part_len (List.mem_of_getElem? hk); simp; omega

theorem room_of_none {F : Fence} (hd : F.depth = none) (k : Nat) : F.room k := fun d h => by rw [hd] at h; cases h
theorem roundIn_any {F : Fence} (hd : F.depth = none) {m m' : Nat} {P : Program} {l : Nat} {f : FuncId} {tmps : Array Value} {assign body : Code} {w : World} {R : Ending → World → Prop}
    (h : RoundIn F m P l f tmps assign body w R) : RoundIn F m' P l f tmps assign body w R := ⟨h.1, fun c cs _ => h.2 c cs (room_of_none hd _)⟩
theorem yield_any {F : Fence} (hd : F.depth = none) {m : Nat} (m' : Nat) {P : Program} {l : Nat} {args : Array Value} {W : World} {R : Ending → World → Prop} (h : YieldAt F m P l args W R) (l' : Nat) : YieldAt (F.inRound l') m' P l args W R := by
  obtain ⟨fn, tmps, assign, body, hy, hR⟩ := h
  exact ⟨fn, tmps, assign, body, hy, roundIn_any (F := F) hd hR⟩

set_option maxHeartbeats 1000000 in
/-- ver.lines: the slice is boxed; the function value captures the box. -/
theorem lines_in (F : Fence) (n : Nat) (h20 : F.fn 20) (hro : F.round = none) (v : Value) (a : Option Addr) (x c : Nat) (hv : v = .slice a x c) (w : World) :
    CallsIn F n Tryd.prog 20 #[v] w fun e w' => e = .returned (.func (.func 31) #[] #[.pointer (some ⟨w.heap.size, 0, none⟩)]) ∧ w' = w.alloc (.cells #[v] 22) := by
  subst hv
  refine callsIn_of_wp Tryd.func20 rfl h20 ?_ hro
  simp only [Tryd.ntmps20, List.size_toArray, List.length_cons, List.length_nil, Nat.reduceAdd, Nat.reduceSub, Array.replicate_succ, Array.replicate_zero, List.push_toArray, List.append_toArray, List.nil_append, List.cons_append]
  gi_wp2
  go_ret
  exact ⟨rfl, rfl⟩

/-- What the iterator hands on: the next line's words. -/
def lineV (n₀ : Nat) (l : List UInt8) (k : Nat) (args : Array Value) (W : World) : Prop := ∃ v, args = #[v] ∧ Words n₀ W v ((rowsL l).getD k [])

set_option maxRecDepth 100000 in
set_option maxHeartbeats 4000000 in
theorem lines1_in (F : Fence) (n : Nat) (hfn : ∀ g, F.fn g) (hro : F.round = none) (hdep : F.depth = none) (hn : 4 ≤ n) (up : ∀ (m : Nat) (g : FuncId) (vs : Array Value) (W : World) (R1 : Ending → World → Prop), Calls Tryd.prog g vs W R1 → CallsIn F m Tryd.prog g vs W R1)
    (ly B n₀ : Nat) (l : List UInt8) (hl : l.length ≤ 100000) (v : Value) (J Jx : Nat → World → Prop) (w : World) (hn₀ : n₀ ≤ w.heap.size) (hJG : ∀ k A, J k A → Good A)
    (hJT : ∀ s A A', J s A → Below w.heap.size A A' → J s A') (hJxT : ∀ s A A', Jx s A → Below w.heap.size A A' → Jx s A')
    (hY : ∀ k args W1, J k W1 → k < (rowsL l).length → lineV n₀ l k args W1 → YieldAt F (n - 1) Tryd.prog ly args W1 fun e W' =>
      (e = .returned (.bool true) ∧ J (k + 1) W' ∧ Keep w.heap.size W1 W') ∨ (e = .returned (.bool false) ∧ Jx k W' ∧ KeepsFrom w.heap.size W1 W'))
    (hb : Byt w v l) (hB : w.cell? ⟨B, 0, none⟩ = some v) (h0 : J 0 w) :
    CallsIn F n Tryd.prog 31 #[.func (.yield ly) #[] #[], .pointer (some ⟨B, 0, none⟩)] w
      fun e W' => (∃ v, e = .returned v) ∧ (J (rowsL l).length W' ∨ ∃ k, k < (rowsL l).length ∧ Jx k W') := by
  have f24 := hfn 24
  have f33 := hfn 33
  have f41 := hfn 41
  have f43 := hfn 43
  have f32 := hfn 32
  have f31 := hfn 31
  refine callsIn_of_wp_marks Tryd.func31 rfl f31 ?_ hro
  simp only [Tryd.ntmps31, List.size_toArray, List.length_cons, List.length_nil, Nat.reduceAdd, Nat.reduceSub, Array.replicate_succ, Array.replicate_zero, List.push_toArray, List.append_toArray, List.nil_append, List.cons_append]
  have e10 : (⟨#[10]⟩ : ByteArray) = bs [10] := rfl
  clear hfn
  rw [e10]
  have kc := fun o => (hb.below ((Below.refl _ w).alloc (Nat.le_refl _) o)).conv
  have kb := fun o => keeps_cell ((Below.refl _ w).alloc (Nat.le_refl _) o) hB
  gi_wp2_with (gi_at_call 24; refine (split_in F _ f24 f33 hro (by omega) l 10 _).mono ?_; rintro e w' ⟨rfl, rfl⟩)
  obtain ⟨m, hm⟩ : ∃ m, w.heap.size = m := ⟨_, rfl⟩
  obtain ⟨WA, hWA⟩ : ∃ WA, w.alloc (.cells #[.func (.yield ly) #[] #[]] 64) = WA := ⟨_, rfl⟩
  have hzA : WA.heap.size = m + 1 := by rw [← hWA, ← hm]; simp
  have hbA : Below m w WA := by rw [← hWA, ← hm]; exact (Below.refl _ w).alloc (Nat.le_refl _) _
  have cA : WA.cell? ⟨m, 0, none⟩ = some (.func (.yield ly) #[] #[]) := by rw [← hWA, ← hm]; simp [go_sem]
  obtain ⟨W0, hW0⟩ : ∃ W0, boxed3 WA l 10 = W0 := ⟨_, rfl⟩
  have hbx := boxed3_is WA l 10
  have hbb := boxed3_below WA l 10
  have hbz := boxed3_size WA l 10
  rw [hWA, hm]
  rw [hzA, hW0] at hbx hbb hbz
  rw [hm] at hJT hJxT hY hn₀
  have cB := (hbb.cell (p := ⟨m, 0, none⟩) (by show m < m + 1; omega)).trans cA
  have hJ0 : J 0 W0 := hJT 0 _ _ (hJT 0 _ _ h0 hbA) (hbb.mono (by omega))
  have hz0 : W0.heap.size = m + 4 := by omega
  have HZ := Lib.hid hz0
  have HD := Lib.hid hdep
  have HU := Lib.hid (And.intro hJT (And.intro hJxT hJG))
  have HY := Lib.hid hY
  rw [hW0]
  clear hW0 hWA kc kb hbA cA hzA hbz h0 hz0 hb hB hJG hY hdep
  refine wpIn_rangeFunc_idx hro (by omega) (gf := 41) rfl f41 (enters_of Tryd.func41 (by kernel_rfl) rfl)
    (split_stops F (n - 1) f41 f43 hro (by omega) up (m + 1) (m + 1) 10 l hl W0 hbx (Nat.le_refl _)) (fun h k => h.trans k) (fun W l o o' _ h h1 _ => Hold.putObj W l o o' h h1) (Below.refl _ _) (fun _ => rfl) (fun A A' h => by obtain ⟨v, rfl⟩ := h; exact KeepsOthers.setCell _ _ _)
    (fun j W => (J (cnt l j) W ∧ m ≤ W.heap.size) ∧ W.cell? ⟨m, 0, none⟩ = some (.func (.yield ly) #[] #[]))
    (fun c _ W => c = .ret ∧ (∃ k, k < (rowsL l).length ∧ Jx k W) ∧ m ≤ W.heap.size)
    ?own ?ownx ?hIT ?hIxT ⟨⟨by rw [cnt_zero]; exact hJ0, by have := HZ.out; omega⟩, cB⟩
    (fun k => { tmps := #[.func (.yield ly) #[] #[], .pointer (some ⟨B, 0, none⟩), .pointer (some ⟨m, 0, none⟩), .string (bs ((splitC 10 l).getD k [])), undef, v, .string (bs l),
      .func (.func 41) #[] #[.pointer (some ⟨m + 1 + 1, 0, none⟩), .pointer (some ⟨m + 1, 0, none⟩), .pointer (some ⟨m + 1 + 2, 0, none⟩)], .string (bs ((splitC 10 l).getD k [])), undef, undef, undef, undef, undef, undef, undef, undef, undef, undef, undef], defers := [] }) ?assign ?body ?done ?stop
  case own =>
    have hz := HZ.out
    rintro s A A' row ⟨⟨h1, h2⟩, h3⟩ hg hr
    have hbl : Below m A A' := (Below.refl m A).grown hg h2 (fun k e => by have := (hr k e).1; omega)
    exact ⟨⟨HU.out.1 _ _ _ h1 hbl, Nat.le_trans h2 hbl.size⟩, cell_kept h3 hg (fun r e => (hr r e).2)⟩
  case ownx =>
    have hz := HZ.out
    rintro c s A A' row ⟨h0, ⟨k, h1, h3⟩, h2⟩ hg hr
    have hbl : Below m A A' := (Below.refl m A).grown hg h2 (fun k e => by have := (hr k e).1; omega)
    exact ⟨h0, ⟨k, h1, HU.out.2.1 _ _ _ h3 hbl⟩, Nat.le_trans h2 hbl.size⟩
  case hIT =>
    rintro k A A' ⟨⟨h1, h2⟩, h3⟩ ⟨v, rfl⟩
    have hbl : Below m A (A.setCell ⟨m + 1, 0, none⟩ v) := (Below.refl m A).setCell (by show m ≤ m + 1; omega) _
    exact ⟨⟨HU.out.1 _ _ _ h1 hbl, Nat.le_trans h2 hbl.size⟩, (World.cell?_of_block (w := A) (Below.heap_setCell A ⟨m + 1, 0, none⟩ _ m (by show m ≠ m + 1; omega))).trans h3⟩
  case hIxT =>
    rintro c k A A' ⟨h0, ⟨k, h1, h3⟩, h2⟩ ⟨v, rfl⟩
    have hbl : Below m A (A.setCell ⟨m + 1, 0, none⟩ v) := (Below.refl m A).setCell (by show m ≤ m + 1; omega) _
    exact ⟨h0, ⟨k, h1, HU.out.2.1 _ _ _ h3 hbl⟩, Nat.le_trans h2 hbl.size⟩
  case assign =>
    intro l' k W K hK
    dsimp only [encP]
    gi_wp2
    exact hK
  case body =>
    rintro l' k W ⟨⟨hJ, hsz⟩, hc⟩ hk
    have hG := HU.out.2.2 _ _ hJ
    have h1' : 1 ≤ n - 1 - 1 := by omega
    obtain ⟨p, hpk⟩ : ∃ p, (splitC 10 l).getD k [] = p := ⟨_, rfl⟩
    have HW := Lib.hid (words_any p (by rw [← hpk]; exact part_at hl k) hG)
    obtain ⟨ws, hws⟩ : ∃ ws, wordsL p = ws := ⟨_, rfl⟩
    rw [hws] at HW
    have HK := Lib.hid (And.intro hk (And.intro hpk hws))
    have HJ := Lib.hid hJ
    have HS := Lib.hid hsz
    rw [hpk]
    clear hk hpk hws hJ hG hsz
    rcases Nat.eq_zero_or_pos ws.length with hn0 | hnp
    · have HN := Lib.hid hn0
      rw [hn0] at HW
      clear hn0
      gi_wp2_with (gi_at_call 32; refine (CallsIn.inRound l' (up _ _ _ _ _ HW.out)).mono ?_; rintro e w3 ⟨A, rfl, hA, hown, hb3⟩)
      refine ⟨fun f h => (nomatch h), ?_⟩
      go_at_K
      gi_wp2
      obtain ⟨hk, hpk, hws⟩ := HK.out
      have hn0 := HN.out
      refine ⟨(keeps_of_below hb3).from _, Hold.below hb3, ⟨?_, Nat.le_trans HS.out hb3.size⟩, keeps_cell hb3 hc⟩
      rw [cnt_skip hk (by rw [hpk, hws]; exact hn0)]
      exact HU.out.1 _ _ _ HJ.out (hb3.mono HS.out)
    · have hni : (0 : Int) < (ws.length : Int) := by omega
      have HN := Lib.hid hnp
      clear hnp
      obtain ⟨hs1, hs2, hs3⟩ := cnt_step HK.out.1 (by rw [HK.out.2.1, HK.out.2.2]; exact HN.out)
      rw [HK.out.2.1, HK.out.2.2] at hs3
      have HS1 := Lib.hid (And.intro hs1 (And.intro hs2 hs3))
      clear hs1 hs2 hs3
      have hyy : ∀ A w3, Below W.heap.size W w3 → w3.ownsRow W.heap.size 9 1 (.slice (some ⟨A, 0, none⟩) ws.length ws.length) ws.length (ws.map fun x => .string (bs x)) → YieldAt F (n - 1) Tryd.prog ly #[.slice (some ⟨A, 0, none⟩) ws.length ws.length] w3 fun e W' =>
          (e = Ending.returned (Value.bool true) ∧ J (cnt l k + 1) W' ∧ Keep m w3 W') ∨ (e = Ending.returned (Value.bool false) ∧ Jx (cnt l k) W' ∧ KeepsFrom m w3 W') := fun A w3 hb3 hown =>
        HY.out _ _ w3 (HU.out.1 _ _ _ HJ.out (hb3.mono HS.out)) HS1.out.2.1 ⟨_, rfl, A, by rw [HS1.out.2.2], by rw [HS1.out.2.2]; exact row_mono hown (Nat.le_trans hn₀ HS.out)⟩
      have HYY := Lib.hid hyy
      clear hyy
      gi_wp2_with (gi_at_call 32; refine (CallsIn.inRound l' (up _ _ _ _ _ HW.out)).mono ?_; rintro e w3 ⟨A, rfl, hA, hown, hb3⟩; have hc3 := keeps_cell hb3 hc; obtain ⟨fn, tmps, assign, body, hy, hR⟩ := HYY.out A w3 hb3 hown; have HR := Lib.hid hR; clear hR)
      refine RoundIn.mono (roundIn_any (F := F) HD.out HR.out) ?_
      have hz := HZ.out
      have hS := HS.out
      rintro e W3 (⟨rfl, hJ3, hk3⟩ | ⟨rfl, hJx3, hk3⟩)
      · gi_wp2
        refine ⟨((keeps_of_below hb3).from _).trans (hk3.from (by omega)), (Hold.below hb3).trans (hk3.hold (by omega)), ⟨by rw [HS1.out.1]; exact hJ3, by have := hb3.size; have := hk3.1; omega⟩, (hk3.hold (Nat.le_refl m)).cell hc3 (Nat.le_refl m)⟩
      · gi_wp2
        refine ⟨((keeps_of_below hb3).from _).trans ⟨hk3.size, fun k o hk ho hc => hk3.same k o (by omega) ho hc⟩, rfl, ⟨_, HS1.out.2.1, hJx3⟩, by have := hb3.size; have := hk3.size; omega⟩
  case done =>
    rintro D W hD ⟨⟨hJ, hsz⟩, hc⟩ hK
    rw [cnt_all l (Nat.le_refl _)] at hJ
    gi_wp2
    refine ⟨by simp, .inl ⟨_, _, rfl, run_takeDeferred hK, ?_⟩⟩
    have hz := HZ.out
    exact ⟨_, results_none rfl _ _ _, ⟨_, rfl⟩, .inl (hJT _ _ _ hJ ((Below.refl m W).grown (grownBy_putObj' W D _) hsz (fun k e => by cases e; omega)))⟩
  case stop =>
    rintro D c k W hD hk ⟨rfl, ⟨j, hj, hJx⟩, hsz⟩ hK
    gi_wp2
    refine ⟨by simp, .inl ⟨_, _, rfl, run_takeDeferred hK, ?_⟩⟩
    have hz := HZ.out
    exact ⟨_, results_none rfl _ _ _, ⟨_, rfl⟩, .inr ⟨j, hj, hJxT _ _ _ hJx ((Below.refl m W).grown (grownBy_putObj' W D _) hsz (fun k e => by cases e; omega))⟩⟩

end Go.Proofs.YtiigjmageeinpaaDoor
