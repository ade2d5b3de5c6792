/- Walks: strings.SplitSeq at a separator of one byte: its loop, and what it hands on. -/
import Derived.RangeFuncNested
import Derived.RangeFuncLeaves
import Derived.RangeFuncBox
import Derived.Shelf.Abstract
import Derived.Shelf.RegionOpen
import Derived.OwnWalkIn
import Derived.TacticsInMore
import Derived.LoopNIn
import Derived.LoopIn
import Derived.Sort.LoopGhostIn
import Derived.Lib.IndexLaws
import Derived.Test.YtiigjmageeinpaaDoorVc
import Derived.Test.YtiigjmageeinpaaDoorSeq
namespace Go.Proofs.YtiigjmageeinpaaDoor
open Go.RowKit Go.Shelf
open Go.Lib (indexByte)

attribute [local go_sem] Oper.semAt_some

/-- A text's parts between a sign. -/
def splitC (c : UInt8) : List UInt8 → List (List UInt8)
  | [] => [[]]
  | x :: l => if x = c then [] :: splitC c l else
    match splitC c l with
    | [] => [[x]]
    | p :: ps => (x :: p) :: ps

theorem splitC_ne (c : UInt8) (l : List UInt8) : splitC c l ≠ [] := by
  cases l with
  | nil => simp [splitC]
  | cons x l =>
    unfold splitC
    split
    · simp
    · split <;> simp

theorem splitC_none {c : UInt8} : ∀ {l : List UInt8}, (∀ x ∈ l, x ≠ c) → splitC c l = [l]
  | [], _ => rfl
  | x :: l, h => by
    unfold splitC
    rw [if_neg (h x List.mem_cons_self), splitC_none fun y hy => h y (List.mem_cons_of_mem _ hy)]

theorem splitC_at {c : UInt8} : ∀ {l : List UInt8} {i : Nat}, l[i]? = some c → (∀ k, k < i → l[k]? ≠ some c) → splitC c l = l.take i :: splitC c (l.drop (i + 1))
  | [], i, h, _ => by simp at h
  | x :: l, 0, h, _ => by
    simp only [List.getElem?_cons_zero, Option.some.injEq] at h
    rw [splitC, if_pos h]
    rfl
  | x :: l, i + 1, h, hk => by
    have h0 := hk 0 (by omega)
    simp only [List.getElem?_cons_zero, ne_eq, Option.some.injEq] at h0
    have ih := splitC_at (l := l) (i := i) (by simpa using h) (fun k hlt => by simpa using hk (k + 1) (by omega))
    rw [splitC, if_neg h0, ih]
    rfl

/-- The parts as an iterator hands them on. -/
def encP (ps : List (List UInt8)) (k : Nat) : Array Value := #[.string (bs (ps.getD k []))]

/-- The iterator's three boxes: what is left of the text, the sign, and how many bytes more a part takes. -/
structure Boxes3 (B : Nat) (r : List UInt8) (c : UInt8) (W : World) : Prop where
  s : W.cell? ⟨B, 0, none⟩ = some (.string (bs r))
  free : W.frozen? ⟨B, 0, none⟩ = false
  sep : W.cell? ⟨B + 1, 0, none⟩ = some (.string (bs [c]))
  save : W.cell? ⟨B + 2, 0, none⟩ = some (.int .i64 0)

theorem Boxes3.put {B : Nat} {r : List UInt8} {c : UInt8} {W : World} (h : Boxes3 B r c W) (r' : List UInt8) : Boxes3 B r' c (W.setCell ⟨B, 0, none⟩ (.string (bs r'))) := by
  obtain ⟨h1, h2, h3, h4⟩ := h
  refine ⟨World.cell?_setCell_same' _ _ _ (by rw [h1]; rfl), by rw [World.frozen?_setCell]; exact h2, ?_, ?_⟩
  · exact (World.cell?_of_block (w := W) (Below.heap_setCell W ⟨B, 0, none⟩ _ (B + 1) (by simp))).trans h3
  · exact (World.cell?_of_block (w := W) (Below.heap_setCell W ⟨B, 0, none⟩ _ (B + 2) (by simp))).trans h4

/-- Whatever is made of cells, from block n₀ on, lies as it lay. -/
def Hold (n₀ : Nat) (W W' : World) : Prop := ∀ k o, n₀ ≤ k → W.heap[k]? = some o → o.isCells = true → W'.heap[k]? = some o
theorem Hold.trans {n₀ : Nat} {A B C : World} (h : Hold n₀ A B) (k : Hold n₀ B C) : Hold n₀ A C := fun i o hi ho hc => k i o hi (h i o hi ho hc) hc
theorem Hold.below {n₀ : Nat} {A B : World} (h : Below A.heap.size A B) : Hold n₀ A B := fun k _o _ ho _ => (h.block k (Array.getElem?_eq_some_iff.1 ho).1).trans ho
theorem Hold.putObj {n₀ : Nat} (W : World) (l : Nat) (o o' : Obj) (h : W.heap[l]? = some o) (ho : o.isCells = false) : Hold n₀ W (W.putObj l o') := fun k p _ hp hc => by
  by_cases e : k = l
  · subst e; rw [h] at hp; cases hp; rw [ho] at hc; cases hc
  · exact (World.putObj_heap_other (by omega)).trans hp
theorem Hold.mono {n₀ n₁ : Nat} {A B : World} (h : Hold n₀ A B) (hn : n₀ ≤ n₁) : Hold n₁ A B := fun k o hk ho hc => h k o (by omega) ho hc

theorem cell_block {W : World} {p : Addr} {v : Value} (h : W.cell? p = some v) : ∃ o, W.heap[p.block]? = some o ∧ o.isCells = true := by
  unfold World.cell? at h
  split at h
  · rename_i c t f hh
    exact ⟨_, hh, rfl⟩
  · cases h
theorem Hold.block {n₀ : Nat} {A B : World} (h : Hold n₀ A B) {p : Addr} {v : Value} (hp : A.cell? p = some v) (hn : n₀ ≤ p.block) : B.heap[p.block]? = A.heap[p.block]? := by
  obtain ⟨o, ho, hc⟩ := cell_block hp
  rw [h _ o hn ho hc, ho]
theorem Hold.cell {n₀ : Nat} {A B : World} (h : Hold n₀ A B) {p : Addr} {v : Value} (hp : A.cell? p = some v) (hn : n₀ ≤ p.block) : B.cell? p = some v := (World.cell?_of_block (h.block hp hn)).trans hp
theorem Hold.free {n₀ : Nat} {A B : World} (h : Hold n₀ A B) {p : Addr} {v : Value} (hp : A.cell? p = some v) (hn : n₀ ≤ p.block) : B.frozen? p = A.frozen? p := World.frozen?_of_block (h.block hp hn)

theorem Boxes3.hold {n₀ B : Nat} {r : List UInt8} {c : UInt8} {A A' : World} (hn : n₀ ≤ B) (h : Hold n₀ A A') (hB : Boxes3 B r c A) : Boxes3 B r c A' :=
  ⟨h.cell hB.s hn, (h.free hB.s hn).trans hB.free, h.cell hB.sep (by show n₀ ≤ B + 1; omega), h.cell hB.save (by show n₀ ≤ B + 2; omega)⟩
theorem Boxes3.below {B : Nat} {r : List UInt8} {c : UInt8} {A A' : World} (h : Below A.heap.size A A') (hB : Boxes3 B r c A) : Boxes3 B r c A' := hB.hold (Nat.zero_le B) (Hold.below h)

theorem bs_take (r : List UInt8) (m : Nat) : (bs r).extract 0 m = bs (r.take m) := by
  have : ((bs r).extract 0 m).data.toList = r.take m := by
    rw [ByteArray.data_extract, Array.toList_extract, List.extract_eq_drop_take', bs_list]; simp
  rw [bs_of ((bs r).extract 0 m), this]
theorem bs_drop (r : List UInt8) (m : Nat) : (bs r).extract m (bs r).size = bs (r.drop m) := by
  have : ((bs r).extract m (bs r).size).data.toList = r.drop m := by
    rw [ByteArray.data_extract, Array.toList_extract, List.extract_eq_drop_take', bs_list, size_list, bs_list]; simp
  rw [bs_of ((bs r).extract m (bs r).size), this]

theorem drop_getD {ps : List (List UInt8)} {k : Nat} {p : List UInt8} {q : List (List UInt8)} (h : ps.drop k = p :: q) : k < ps.length ∧ ps.getD k [] = p ∧ ps.drop (k + 1) = q := by
  have hlt : k < ps.length := by
    rcases Nat.lt_or_ge k ps.length with h' | h'
    · exact h'
    · rw [List.drop_of_length_le h'] at h; cases h
  have := List.drop_eq_getElem_cons hlt
  rw [h] at this
  obtain ⟨h1, h2⟩ := List.cons.inj this
  exact ⟨hlt, by rw [List.getD_eq_getElem?_getD, List.getElem?_eq_getElem hlt, h1]; rfl, h2.symm⟩

set_option maxRecDepth 100000 in
set_option maxHeartbeats 4000000 in
theorem split1_in (F : Fence) (n : Nat) (h41 : F.fn 41) (h43 : F.fn 43) (hro : F.round = none) (hn : 1 ≤ n) (up : ∀ (m : Nat) (g : FuncId) (vs : Array Value) (W : World) (R1 : Ending → World → Prop), Calls Tryd.prog g vs W R1 → CallsIn F m Tryd.prog g vs W R1)
    (l B : Nat) (c : UInt8) (r0 : List UInt8) (hr0 : r0.length ≤ 100000) (J Jx : Nat → World → Prop) (Kp : World → World → Prop) (hKB : ∀ A A' r, Kp A A' → Boxes3 B r c A → Boxes3 B r c A')
    (hJT : ∀ k A v, J k A → J k (A.setCell ⟨B, 0, none⟩ v))
    (hY : ∀ k W, J k W → k < (splitC c r0).length → YieldAt F (n - 1) Tryd.prog l (encP (splitC c r0) k) W fun e W' =>
      (e = .returned (.bool true) ∧ J (k + 1) W' ∧ Kp W W') ∨ (e = .returned (.bool false) ∧ Jx k W'))
    (W : World) (hB : Boxes3 B r0 c W) (h0 : J 0 W) :
    CallsIn F n Tryd.prog 41 #[.func (.yield l) #[] #[], .pointer (some ⟨B + 1, 0, none⟩), .pointer (some ⟨B, 0, none⟩), .pointer (some ⟨B + 2, 0, none⟩)] W
      fun e W' => (∃ v, e = .returned v) ∧ (J (splitC c r0).length W' ∨ ∃ k, k < (splitC c r0).length ∧ Jx k W') := by
  refine callsIn_of_wp Tryd.func41 rfl h41 ?_ hro
  simp only [Tryd.ntmps41, List.size_toArray, List.length_cons, List.length_nil, Nat.reduceAdd, Nat.reduceSub, Array.replicate_succ, Array.replicate_zero, List.push_toArray, List.append_toArray, List.nil_append, List.cons_append]
  obtain ⟨b1, b2, b3, b4⟩ := id hB
  have hz1 : (bs [c]).size = 1 := rfl
  gi_wp2
  gi_loopg [] (r0.length + 1) (fun gk wr => ∃ (k : Nat) (r : List UInt8), gk = r.length + 1 ∧ r.length ≤ r0.length ∧ splitC c r = (splitC c r0).drop k ∧ J k wr ∧ Boxes3 B r c wr)
  case atStart => exact ⟨0, r0, rfl, Nat.le_refl _, rfl, h0, hB⟩
  case round =>
    obtain ⟨k, r, rfl, hrl, hps, hJ, hBx⟩ := hrel
    obtain ⟨x1, x2, x3, x4⟩ := id hBx
    have hge := Go.Lib.indexByte_ge r c
    rcases Int.lt_or_le (indexByte r c) 0 with hneg | hpos
    · -- no sign more: the rest is the last part
      have hi : indexByte r c = -1 := by omega
      have HI := Lib.hid (up (n - 1) 43 _ wr _ (Tryd.strings_Index_one (bs r) c wr))
      rw [bs_list, hi] at HI
      have hnone := Go.Lib.indexByte_none hi
      have hp1 : splitC c r = [r] := splitC_none fun x hx e => by
        obtain ⟨j, hj, hjx⟩ := List.getElem_of_mem hx
        exact hnone j (by rw [List.getElem?_eq_getElem hj, hjx, e])
      rw [hp1] at hps
      obtain ⟨hk, hget, hend⟩ := drop_getD hps.symm
      have hN : (splitC c r0).length = k + 1 := by
        have := congrArg List.length hend
        simp at this; omega
      obtain ⟨fn, tmps, assign, body, hy, hR⟩ := hY k wr hJ hk
      dsimp only [encP] at hy
      rw [hget] at hy
      have HN := Lib.hid hN
      clear hY hps hp1 hnone hi hneg hge hget hend hk hN hKB hJT
      gi_wp2_with (gi_at_call 43; refine HI.out.mono ?_; rintro e w' ⟨rfl, rfl⟩)
      refine hR.mono ?_
      rintro e W3 (⟨rfl, hJ3, hk3⟩ | ⟨rfl, hJx3⟩)
      · gi_wp2
        go_end0
        exact ⟨⟨_, rfl⟩, .inl (by rw [HN.out]; exact hJ3)⟩
      · gi_wp2
        go_end0
        exact ⟨⟨_, rfl⟩, .inr ⟨k, by rw [HN.out]; exact Nat.lt_succ_self k, hJx3⟩⟩
    · -- a part ahead of a sign
      obtain ⟨m, hm⟩ : ∃ m : Nat, indexByte r c = m := ⟨(indexByte r c).toNat, by omega⟩
      have HI := Lib.hid (up (n - 1) 43 _ wr _ (Tryd.strings_Index_one (bs r) c wr))
      rw [bs_list, hm] at HI
      obtain ⟨hat, hbef⟩ := Go.Lib.indexByte_some hm
      have hml : m < r.length := by
        rcases Nat.lt_or_ge m r.length with h | h
        · exact h
        · rw [List.getElem?_eq_none h] at hat; cases hat
      rw [splitC_at hat hbef] at hps
      obtain ⟨hk, hget, hend⟩ := drop_getD hps.symm
      obtain ⟨fn, tmps, assign, body, hy, hR⟩ := hY k wr hJ hk
      dsimp only [encP] at hy
      rw [hget] at hy
      have HK := Lib.hid hk
      have HE := Lib.hid hend
      have hsz : (bs r).size = r.length := by rw [size_list, bs_list]
      have HT := bs_take r m
      have HD : (bs r).extract (m + 1) r.length = bs (r.drop (m + 1)) := by rw [← bs_drop r (m + 1), hsz]
      have hmr : m + 1 ≤ r.length := hml
      have hsm : m ≤ 100000 := by omega
      have HKB := Lib.hid hKB
      have HJT := Lib.hid hJT
      have HYY := Lib.hid hY
      clear hY hps hm hat hbef hge hpos hget hend hk hKB hJT
      gi_wp2_with (gi_at_call 43; refine HI.out.mono ?_; rintro e w' ⟨rfl, rfl⟩)
      refine hR.mono ?_
      rintro e W3 (⟨rfl, hJ3, hk3⟩ | ⟨rfl, hJx3⟩)
      · have hB3 := HKB.out _ _ r hk3 hBx
        obtain ⟨y1, y2, y3, y4⟩ := id hB3
        clear x1 x2 x3 x4 b1 b2 b3 b4
        gi_wp2
        go_roundg ((r.drop (m + 1)).length + 1)
        case measure => rw [List.length_drop]; omega
        case rel =>
          refine ⟨k + 1, r.drop (m + 1), rfl, by rw [List.length_drop]; omega, HE.out.symm, HJT.out _ _ _ hJ3, hB3.put _⟩
      · gi_wp2
        refine bodyPost_ret (results_none rfl _ _ _) rfl ?_
        exact ⟨⟨_, rfl⟩, .inr ⟨k, HK.out, hJx3⟩⟩

/-- The iterator's own steps: what is left of the text. -/
def Steps (B : Nat) (A A' : World) : Prop := ∃ v, A' = A.setCell ⟨B, 0, none⟩ v

/-- What strings.SplitSeq hands back goes through the parts. -/
theorem split_stops (F : Fence) (n : Nat) (h41 : F.fn 41) (h43 : F.fn 43) (hro : F.round = none) (hn : 1 ≤ n) (up : ∀ (m : Nat) (g : FuncId) (vs : Array Value) (W : World) (R1 : Ending → World → Prop), Calls Tryd.prog g vs W R1 → CallsIn F m Tryd.prog g vs W R1)
    (B n₀ : Nat) (c : UInt8) (r0 : List UInt8) (hr0 : r0.length ≤ 100000) (w : World) (hB : Boxes3 B r0 c w) (hn₀ : n₀ ≤ B) :
    SeqIdx F n Tryd.prog 41 #[.pointer (some ⟨B + 1, 0, none⟩), .pointer (some ⟨B, 0, none⟩), .pointer (some ⟨B + 2, 0, none⟩)] (encP (splitC c r0)) (Hold n₀) (Steps B) (splitC c r0).length w := fun l J Jx W hW hJT _ hY h0 =>
  split1_in F n h41 h43 hro hn up l B c r0 hr0 J Jx (Hold n₀) (fun _ _ _ h hb => hb.hold hn₀ h) (fun k A v h => hJT k A _ h ⟨v, rfl⟩) hY W (hB.below hW) h0

/-- The three boxes, made. -/
def boxed3 (w : World) (r : List UInt8) (c : UInt8) : World := ((w.alloc (.cells #[.string (bs r)] 9)).alloc (.cells #[.string (bs [c])] 9)).alloc (.cells #[.int .i64 0] 3)
theorem boxed3_size (w : World) (r : List UInt8) (c : UInt8) : (boxed3 w r c).heap.size = w.heap.size + 3 := by simp [boxed3]
theorem boxed3_below (w : World) (r : List UInt8) (c : UInt8) : Below w.heap.size w (boxed3 w r c) := (((Below.refl _ _).alloc (Nat.le_refl _) _).alloc (by simp) _).alloc (by simp; omega) _
theorem boxed3_is (w : World) (r : List UInt8) (c : UInt8) : Boxes3 w.heap.size r c (boxed3 w r c) := by
  refine ⟨?_, ?_, ?_, ?_⟩ <;> simp [boxed3, go_sem]

set_option maxHeartbeats 1000000 in
theorem split33_in (F : Fence) (n : Nat) (h33 : F.fn 33) (hro : F.round = none) (r : List UInt8) (c : UInt8) (w : World) :
    CallsIn F n Tryd.prog 33 #[.string (bs r), .string (bs [c]), .int .i64 0] w fun e w' => e = .returned (.func (.func 41) #[] #[.pointer (some ⟨w.heap.size + 1, 0, none⟩), .pointer (some ⟨w.heap.size, 0, none⟩), .pointer (some ⟨w.heap.size + 2, 0, none⟩)]) ∧ w' = boxed3 w r c := by
  refine callsIn_of_wp Tryd.func33 rfl h33 ?_ hro
  simp only [Tryd.ntmps33, List.size_toArray, List.length_cons, List.length_nil, Nat.reduceAdd, Nat.reduceSub, Array.replicate_succ, Array.replicate_zero, List.push_toArray, List.append_toArray, List.nil_append, List.cons_append]
  gi_wp2
  go_ret
  exact ⟨rfl, rfl⟩

set_option maxHeartbeats 1000000 in
/-- strings.SplitSeq(s, c): three boxes; the function value captures them. -/
theorem split_in (F : Fence) (n : Nat) (h24 : F.fn 24) (h33 : F.fn 33) (hro : F.round = none) (hn : 1 ≤ n) (r : List UInt8) (c : UInt8) (w : World) :
    CallsIn F n Tryd.prog 24 #[.string (bs r), .string (bs [c])] w fun e w' => e = .returned (.func (.func 41) #[] #[.pointer (some ⟨w.heap.size + 1, 0, none⟩), .pointer (some ⟨w.heap.size, 0, none⟩), .pointer (some ⟨w.heap.size + 2, 0, none⟩)]) ∧ w' = boxed3 w r c := by
  refine callsIn_of_wp Tryd.func24 rfl h24 ?_ hro
  simp only [Tryd.ntmps24, List.size_toArray, List.length_cons, List.length_nil, Nat.reduceAdd, Nat.reduceSub, Array.replicate_succ, Array.replicate_zero, List.push_toArray, List.append_toArray, List.nil_append, List.cons_append]
  have HS := Lib.hid (split33_in F (n - 1) h33 hro r c w)
  gi_wp2_with (gi_at_call 33; refine HS.out.mono ?_; rintro e w' ⟨rfl, rfl⟩)
  go_ret
  exact ⟨rfl, rfl⟩

end Go.Proofs.YtiigjmageeinpaaDoor
