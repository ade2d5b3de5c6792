/- Walks: Read. -/
import Derived.Test.YtiigjmageeinpaaDoorVg
namespace Go.Proofs.YtiigjmageeinpaaDoor
open Go.RowKit Go.Shelf

attribute [local go_sem] Oper.semAt_some
attribute [local go_sem] run_store_func

theorem lines_stops (F : Fence) (n : Nat) (hfn : ∀ g, F.fn g) (hro : F.round = none) (hdep : F.depth = none) (hn : 4 ≤ n) (up : ∀ (m : Nat) (g : FuncId) (vs : Array Value) (W : World) (R1 : Ending → World → Prop), Calls Tryd.prog g vs W R1 → CallsIn F m Tryd.prog g vs W R1)
    (B n₀ : Nat) (l : List UInt8) (hl : l.length ≤ 100000) (v : Value) (w : World) (hn₀ : n₀ ≤ w.heap.size) (hb : Byt w v l) (hB : w.cell? ⟨B, 0, none⟩ = some v) :
    SeqVal F n Tryd.prog 31 #[.pointer (some ⟨B, 0, none⟩)] (lineV n₀ l) Good Keep Below (rowsL l).length w := fun ly J Jx W hW hJG hJT hJxT hY h0 =>
  lines1_in F n hfn hro hdep hn up ly B n₀ l hl v J Jx W (Nat.le_trans hn₀ hW.size) hJG hJT hJxT hY (hb.below hW) (keeps_cell hW hB) h0

/-- What Read has met so far. -/
structure Sx where
  path : List UInt8
  mi : Int
  vs : Nat

def kMod : List UInt8 := [109, 111, 100, 117, 108, 101]
def kGo : List UInt8 := [103, 111]
def kChain : List UInt8 := [116, 111, 111, 108, 99, 104, 97, 105, 110]

def stepX (s : Sx) : List (List UInt8) → Option Sx
  | [k, v] => if k = kMod then (if s.path ≠ [] ∨ pathB v = false then none else some { s with path := v })
    else if k = kGo then (if (minorP v).2 ≠ 0 ∨ s.vs ≠ 0 then none else some { s with mi := (minorP v).1, vs := s.vs + 1 })
    else if k = kChain then some s else none
  | _ => none
theorem step_len {s : Sx} {r : List (List UInt8)} (h : ¬ r.length = 2) : stepX s r = none := by
  unfold stepX
  split
  · simp at h
  · rfl
theorem beq_word (k c : List UInt8) : ((bs k).toList == c) = decide (k = c) := by
  rw [ByteArray.toList_eq, bs_list]
  by_cases h : k = c
  · simp [h]
  · simp [h]
theorem step_two (s : Sx) (k v : List UInt8) {a b c : Bool} (ha : ((bs k).toList == [109, 111, 100, 117, 108, 101]) = a) (hb : ((bs k).toList == [103, 111]) = b) (hc : ((bs k).toList == [116, 111, 111, 108, 99, 104, 97, 105, 110]) = c) :
    stepX s [k, v] = if a = true then (if s.path ≠ [] ∨ pathB v = false then none else some { s with path := v })
      else if b = true then (if (minorP v).2 ≠ 0 ∨ s.vs ≠ 0 then none else some { s with mi := (minorP v).1, vs := s.vs + 1 })
      else if c = true then some s else none := by
  rw [beq_word] at ha hb hc
  subst ha hb hc
  have e : stepX s [k, v] = if k = kMod then (if s.path ≠ [] ∨ pathB v = false then none else some { s with path := v })
    else if k = kGo then (if (minorP v).2 ≠ 0 ∨ s.vs ≠ 0 then none else some { s with mi := (minorP v).1, vs := s.vs + 1 })
    else if k = kChain then some s else none := rfl
  rw [e]
  by_cases h1 : k = kMod
  · rw [if_pos h1, if_pos (decide_eq_true (p := k = [109, 111, 100, 117, 108, 101]) h1)]
  · rw [if_neg h1, if_neg (fun h => h1 (of_decide_eq_true (p := k = [109, 111, 100, 117, 108, 101]) h))]
    by_cases h2 : k = kGo
    · rw [if_pos h2, if_pos (decide_eq_true (p := k = [103, 111]) h2)]
    · rw [if_neg h2, if_neg (fun h => h2 (of_decide_eq_true (p := k = [103, 111]) h))]
      by_cases h3 : k = kChain
      · rw [if_pos h3, if_pos (decide_eq_true (p := k = [116, 111, 111, 108, 99, 104, 97, 105, 110]) h3)]
      · rw [if_neg h3, if_neg (fun h => h3 (of_decide_eq_true (p := k = [116, 111, 111, 108, 99, 104, 97, 105, 110]) h))]
def readX : List (List (List UInt8)) → Sx → Option Sx
  | [], s => some s
  | r :: rs, s => (stepX s r).bind (readX rs)
def ansX : Option Sx → List UInt8 × Int × Int
  | none => ([], 0, 7)
  | some s => if s.path = [] then ([], 0, 7) else (s.path, s.mi, 0)
/-- What Read says of the bytes l. -/
def readP (l : List UInt8) : List UInt8 × Int × Int :=
  if 65536 < l.length then ([], 0, 12) else
  ansX (readX (rowsL l) ⟨[], 16, 0⟩)

/-- Read's cells: the results (none said yet), what it has met. -/
structure Held (m : Nat) (W : World) (s : Sx) : Prop where
  r1 : W.cell? ⟨m, 0, none⟩ = some (.string ⟨#[]⟩)
  r2 : W.cell? ⟨m, 1, none⟩ = some (.int .i64 0)
  r3 : W.cell? ⟨m + 1, 0, none⟩ = some (.int .i64 0)
  o1 : W.cell? ⟨m + 1 + 1, 0, none⟩ = some (.string (bs s.path))
  o2 : W.cell? ⟨m + 1 + 1, 1, none⟩ = some (.int .i64 s.mi)
  o3 : W.cell? ⟨m + 1 + 1 + 1, 0, none⟩ = some (.int .i64 s.vs)
  f1 : W.frozen? ⟨m, 0, none⟩ = false
  f2 : W.frozen? ⟨m, 1, none⟩ = false
  f3 : W.frozen? ⟨m + 1, 0, none⟩ = false
  g1 : W.frozen? ⟨m + 1 + 1, 0, none⟩ = false
  g2 : W.frozen? ⟨m + 1 + 1, 1, none⟩ = false
  g3 : W.frozen? ⟨m + 1 + 1 + 1, 0, none⟩ = false

theorem set_ne {W : World} {b b' o o' : Nat} {u : Value} (h : b ≠ b' ∨ o ≠ o') : (W.setCell ⟨b, o, none⟩ u).cell? ⟨b', o', none⟩ = W.cell? ⟨b', o', none⟩ := by
  apply World.cell?_setCell_other
  intro e
  cases e
  omega
theorem set_eq {W : World} {a : Addr} {u v : Value} (h : W.cell? a = some v) : (W.setCell a u).cell? a = some u := World.cell?_setCell_same' _ _ _ (by rw [h]; rfl)

theorem Held.below {m n : Nat} {W W' : World} {s : Sx} (h : Held m W s) (hb : Below n W W') (hn : m + 3 < n) : Held m W' s := by
  obtain ⟨h1, h2, h3, h4, h5, h6, k1, k2, k3, k4, k5, k6⟩ := h
  refine ⟨(hb.cell ?_).trans h1, (hb.cell ?_).trans h2, (hb.cell ?_).trans h3, (hb.cell ?_).trans h4, (hb.cell ?_).trans h5, (hb.cell ?_).trans h6, (hb.frozen ?_).trans k1, (hb.frozen ?_).trans k2, (hb.frozen ?_).trans k3, (hb.frozen ?_).trans k4, (hb.frozen ?_).trans k5, (hb.frozen ?_).trans k6⟩ <;> simp only [] <;> omega
theorem Held.lt {m : Nat} {W : World} {s : Sx} (h : Held m W s) : m + 3 < W.heap.size := cell_lt h.o3
theorem Held.grown {m : Nat} {W W' : World} {s : Sx} {row : Option Nat} (h : Held m W s) (hg : W.grownBy W' row) (hr : ∀ r, row = some r → ∃ o : Obj, W.heap[r]? = some o ∧ o.isCells = false) : Held m W' s :=
  ⟨cell_kept h.r1 hg hr, cell_kept h.r2 hg hr, cell_kept h.r3 hg hr, cell_kept h.o1 hg hr, cell_kept h.o2 hg hr, cell_kept h.o3 hg hr, (frozen_kept h.r1 hg hr).trans h.f1, (frozen_kept h.r2 hg hr).trans h.f2, (frozen_kept h.r3 hg hr).trans h.f3, (frozen_kept h.o1 hg hr).trans h.g1, (frozen_kept h.o2 hg hr).trans h.g2, (frozen_kept h.o3 hg hr).trans h.g3⟩
theorem Held.path {m : Nat} {W : World} {s : Sx} (h : Held m W s) (p : List UInt8) : Held m (W.setCell ⟨m + 1 + 1, 0, none⟩ (.string (bs p))) { s with path := p } := by
  obtain ⟨h1, h2, h3, h4, h5, h6, k1, k2, k3, k4, k5, k6⟩ := h
  refine ⟨(set_ne (by omega)).trans h1, (set_ne (by omega)).trans h2, (set_ne (by omega)).trans h3, set_eq h4, (set_ne (by omega)).trans h5, (set_ne (by omega)).trans h6, ?_, ?_, ?_, ?_, ?_, ?_⟩ <;> rw [World.frozen?_setCell] <;> assumption
theorem Held.mi' {m : Nat} {W : World} {s : Sx} (h : Held m W s) (n : Int) : Held m (W.setCell ⟨m + 1 + 1, 1, none⟩ (.int .i64 n)) { s with mi := n } := by
  obtain ⟨h1, h2, h3, h4, h5, h6, k1, k2, k3, k4, k5, k6⟩ := h
  refine ⟨(set_ne (by omega)).trans h1, (set_ne (by omega)).trans h2, (set_ne (by omega)).trans h3, (set_ne (by omega)).trans h4, set_eq h5, (set_ne (by omega)).trans h6, ?_, ?_, ?_, ?_, ?_, ?_⟩ <;> rw [World.frozen?_setCell] <;> assumption
theorem Held.vs' {m : Nat} {W : World} {s : Sx} (h : Held m W s) (n : Nat) : Held m (W.setCell ⟨m + 1 + 1 + 1, 0, none⟩ (.int .i64 n)) { s with vs := n } := by
  obtain ⟨h1, h2, h3, h4, h5, h6, k1, k2, k3, k4, k5, k6⟩ := h
  refine ⟨(set_ne (by omega)).trans h1, (set_ne (by omega)).trans h2, (set_ne (by omega)).trans h3, (set_ne (by omega)).trans h4, (set_ne (by omega)).trans h5, set_eq h6, ?_, ?_, ?_, ?_, ?_, ?_⟩ <;> rw [World.frozen?_setCell] <;> assumption

/-- The results told. -/
def told (m : Nat) (W : World) (p : List UInt8) (mi e : Int) : World := ((W.setCell ⟨m, 0, none⟩ (.string (bs p))).setCell ⟨m, 1, none⟩ (.int .i64 mi)).setCell ⟨m + 1, 0, none⟩ (.int .i64 e)
/-- The results where Read finds no fit. -/
def lost (m : Nat) (W : World) : World := told m W [] 0 7
theorem lost_keeps (m : Nat) (W : World) : KeepsOthers W (lost m W) := ((KeepsOthers.setCell _ _ _).trans (KeepsOthers.setCell _ _ _)).trans (KeepsOthers.setCell _ _ _)
theorem told_below {m : Nat} {w W : World} (h : Below m w W) (p : List UInt8) (mi e : Int) : Below m w (told m W p mi e) := ((h.setCell (p := ⟨m, 0, none⟩) (Nat.le_refl _) _).setCell (p := ⟨m, 1, none⟩) (Nat.le_refl _) _).setCell (p := ⟨m + 1, 0, none⟩) (Nat.le_succ m) _
theorem lost_below {m : Nat} {w W : World} (h : Below m w W) : Below m w (lost m W) := told_below h _ _ _
theorem told_keeps (m : Nat) (W : World) (p : List UInt8) (mi e : Int) : KeepsOthers W (told m W p mi e) := ((KeepsOthers.setCell _ _ _).trans (KeepsOthers.setCell _ _ _)).trans (KeepsOthers.setCell _ _ _)
structure Told (m : Nat) (W : World) (p : List UInt8) (mi e : Int) : Prop where
  r1 : W.cell? ⟨m, 0, none⟩ = some (.string (bs p))
  r2 : W.cell? ⟨m, 1, none⟩ = some (.int .i64 mi)
  r3 : W.cell? ⟨m + 1, 0, none⟩ = some (.int .i64 e)
theorem told_told {m : Nat} {W : World} {s : Sx} (h : Held m W s) (p : List UInt8) (mi e : Int) : Told m (told m W p mi e) p mi e := by
  obtain ⟨h1, h2, h3, -⟩ := h
  refine ⟨?_, ?_, ?_⟩ <;> unfold told
  · rw [set_ne (by omega), set_ne (by omega)]; exact set_eq h1
  · rw [set_ne (by omega)]; exact set_eq ((set_ne (by omega)).trans h2)
  · exact set_eq (((set_ne (by omega)).trans (set_ne (by omega))).trans h3)
theorem lost_told {m : Nat} {W : World} {s : Sx} (h : Held m W s) : Told m (lost m W) [] 0 7 := told_told h _ _ _
theorem Told.grown {m : Nat} {W W' : World} {p : List UInt8} {mi e : Int} {row : Option Nat} (h : Told m W p mi e) (hg : W.grownBy W' row) (hr : ∀ r, row = some r → ∃ o : Obj, W.heap[r]? = some o ∧ o.isCells = false) : Told m W' p mi e :=
  ⟨cell_kept h.r1 hg hr, cell_kept h.r2 hg hr, cell_kept h.r3 hg hr⟩
theorem Told.below {m n : Nat} {W W' : World} {p : List UInt8} {mi e : Int} (h : Told m W p mi e) (hb : Below n W W') (hn : m + 1 < n) : Told m W' p mi e := by
  obtain ⟨h1, h2, h3⟩ := h
  refine ⟨(hb.cell ?_).trans h1, (hb.cell ?_).trans h2, (hb.cell ?_).trans h3⟩ <;> simp only [] <;> omega

theorem Keep.set {m' : Nat} (W : World) {p : Addr} (hp : p.block < m') (v : Value) : Keep m' W (W.setCell p v) :=
  ⟨by simp [World.setCell], fun k o hk ho => (Below.heap_setCell W p v k (by omega)).trans ho⟩

theorem field_len (p : Nat → Bool) (s x : ByteArray) (h : x ∈ Lib.goFieldsP p s) : x.size ≤ s.size := by
  unfold Lib.goFieldsP at h
  obtain ⟨y, -, rfl⟩ := List.mem_map.1 h
  rw [ByteArray.size_extract]
  omega
theorem word_len {l x : List UInt8} {r : List (List UInt8)} (hr : r ∈ rowsL l) (hx : x ∈ r) : x.length ≤ l.length := by
  unfold rowsL rowsAll at hr
  obtain ⟨p, hp, rfl⟩ := List.mem_map.1 (List.mem_filter.1 hr).1
  unfold wordsL at hx
  obtain ⟨s, hs, rfl⟩ := List.mem_map.1 hx
  have h1 := field_len _ _ _ hs
  have h2 := (cut_len (l := p) (sep := [47, 47]) (a := (Lib.cut p [47, 47]).1) (b := (Lib.cut p [47, 47]).2.1) (t := (Lib.cut p [47, 47]).2.2) rfl).1
  have h3 := part_len hp
  rw [size_list, size_list, bs_list] at h1
  omega

def modV (p : List UInt8) (mi : Int) : Value := .agg #[.string (bs p), .int .i64 mi]

set_option maxHeartbeats 1000000 in
theorem Read_long (l : List UInt8) (hl : 65536 < l.length) (v : Value) (w : World) (hb : Byt w v l) :
    Calls Tryd.prog 10 #[v] w (Out w.heap.size w (.tuple #[modV [] 0, .int .i64 12])) := by
  obtain ⟨a, c, rfl⟩ := hb.len
  have hc : (65536 : Int) < (l.length : Int) := by omega
  clear hb
  go_enter Tryd.func10, Tryd.ntmps10
  go_wp2_with fail
  exact bodyPost_ret (v := .tuple #[modV [] 0, .int .i64 12]) (by simp [results, Tryd.results10, go_sem, modV, bs]) rfl ⟨rfl, ((Below.refl _ w).alloc (Nat.le_refl _) _).alloc (by simp) _⟩

set_option maxRecDepth 100000 in
set_option maxHeartbeats 4000000 in
theorem Read_short (l : List UInt8) (hl : l.length ≤ 65536) (v : Value) (w : World) (hG : Good w) (hb : Byt w v l) :
    Calls Tryd.prog 10 #[v] w (Out w.heap.size w (.tuple #[modV (readP l).1 (readP l).2.1, .int .i64 (readP l).2.2])) := by
  refine wide_letter fun F hfn hro hdep up => ?_
  have f20 := hfn 20
  have f31 := hfn 31
  have f10 := hfn 10
  have f13 := hfn 13
  have f14 := hfn 14
  obtain ⟨a, c, hv⟩ := hb.len
  have HF := Lib.hid (And.intro hfn hdep)
  refine callsIn_of_wp_marks Tryd.func10 rfl f10 ?_ hro
  simp only [Tryd.ntmps10, List.size_toArray, List.length_cons, List.length_nil, Nat.reduceAdd, Nat.reduceSub, Array.replicate_succ, Array.replicate_zero, List.push_toArray, List.append_toArray, List.nil_append, List.cons_append]
  have hc : ¬ (65536 : Int) < (l.length : Int) := by omega
  have HB := Lib.hid hb
  clear hfn hb hdep
  subst hv
  gi_wp2_with (gi_at_call 20; refine (lines_in F _ f20 hro _ _ _ _ rfl _).mono ?_; rintro e w' ⟨rfl, rfl⟩)
  obtain ⟨m, hm⟩ : ∃ m, w.heap.size = m := ⟨_, rfl⟩
  obtain ⟨W0, hW0⟩ : ∃ W0, (((((w.alloc (.cells #[.string ⟨#[]⟩, .int .i64 0] 24)).alloc (.cells #[.int .i64 0] 25)).alloc (.cells #[.string ⟨#[]⟩, .int .i64 16] 24)).alloc (.cells #[.int .i64 0] 3)).alloc (.cells #[.slice a l.length c] 22)) = W0 := ⟨_, rfl⟩
  have hz : W0.heap.size = m + 5 := by rw [← hW0, ← hm]; simp
  have hb0 : Below m w W0 := by
    rw [← hW0, ← hm]
    exact (((((Below.refl _ w).alloc (Nat.le_refl _) _).alloc (by simp) _).alloc (by simp; omega) _).alloc (by simp; omega) _).alloc (by simp; omega) _
  have hh : Held m W0 ⟨[], 16, 0⟩ := by
    constructor <;> rw [← hW0, ← hm] <;> simp [go_sem, bs]
  have cB : W0.cell? ⟨m + 4, 0, none⟩ = some (.slice a l.length c) := by rw [← hW0, ← hm]; simp [go_sem]
  have hbt := HB.out.below (by rw [hm]; exact hb0)
  have hG0 := hG.below (by rw [hm]; exact hb0)
  rw [hW0, hm]
  have HZ := Lib.hid hz
  have e4 : m + 1 + 1 + 1 + 1 = m + 4 := rfl
  obtain ⟨R, hR⟩ : ∃ R, readX (rowsL l) ⟨[], 16, 0⟩ = R := ⟨_, rfl⟩
  have hp : readP l = ansX R := by
    unfold readP
    rw [if_neg (by omega), hR]
  have HP := Lib.hid hp
  clear hW0 HB hp hz
  refine wpIn_rangeFunc_val hro (by omega) (gf := 31) rfl f31 (enters_of Tryd.func31 (by kernel_rfl) rfl)
    (lines_stops F 8 HF.out.1 hro HF.out.2 (by omega) up (m + 4) m l (by omega) _ W0 (by have := HZ.out; omega) hbt cB) Keep.trans (fun W o o' h h1 _ => ⟨(grownBy_putObj' W _ o').size, fun k o hk ho => (World.putObj_heap_other (by omega)).trans ho⟩) (Below.refl _ _) (fun k args W h => by obtain ⟨v, rfl, _⟩ := h; rfl) (fun k args W l o o' _ h h1 _ hv => by obtain ⟨v, rfl, A, rfl, hr⟩ := hv; exact ⟨_, rfl, A, rfl, ownsRow_putObj hr _ h h1⟩) (fun A B h k o hk ho _ => (h.block k hk).trans ho)
    (fun k W => ∃ s, readX ((rowsL l).drop k) s = R ∧ s.vs ≤ 1 ∧ Held m W s ∧ Below m w W)
    (fun c k W => c = .ret ∧ R = none ∧ Told m W [] 0 7 ∧ Below m w W)
    ?own ?ownx ?hIT ?hIxT ?hIG ⟨_, hR, by decide, hh, hb0⟩
    (fun k args => { tmps := #[.slice a l.length c, undef, .pointer (some ⟨m, 0, none⟩), .pointer (some ⟨m + 1, 0, none⟩), .pointer (some ⟨m + 1 + 1, 0, none⟩), .pointer (some ⟨m + 1 + 1 + 1, 0, none⟩), args.getD 0 undef, undef, undef, .slice a l.length c, .int .i64 (l.length : Int), .bool false, undef, .agg #[.string ⟨#[]⟩, .int .i64 16], .slice a l.length c, .func (.func 31) #[] #[.pointer (some ⟨m + 1 + 1 + 1 + 1, 0, none⟩)], args.getD 0 undef, undef, undef, undef, undef, undef, undef, undef, undef, undef, undef, undef, undef, undef, undef, undef, undef, undef, undef, undef, undef, undef, undef, undef, undef, undef, undef, undef, undef, undef, undef, undef, undef, undef, undef, undef, undef, undef, undef, undef, undef, undef, undef, undef, undef, undef, undef, undef, undef, undef, undef, undef, undef], defers := [] }) ?assign ?body ?done ?stop
  case own =>
    have hz := HZ.out
    rintro s A A' row ⟨s, h1, h2, h4, h6⟩ hg hr
    exact ⟨s, h1, h2, h4.grown hg (fun r e => (hr r e).2), ownFrom_below (β := Nat) (n₀ := m) (B := W0.heap.size) (Nat.le_of_eq hm.symm) (by omega) 0 A A' row h6 hg hr⟩
  case ownx =>
    have hz := HZ.out
    rintro c k A A' row ⟨h0, h1, h2, h6⟩ hg hr
    exact ⟨h0, h1, h2.grown hg (fun r e => (hr r e).2), ownFrom_below (β := Nat) (n₀ := m) (B := W0.heap.size) (Nat.le_of_eq hm.symm) (by omega) 0 A A' row h6 hg hr⟩
  case hIT =>
    have hz := HZ.out
    rintro s A A' ⟨s, h1, h2, h4, h6⟩ ht
    exact ⟨s, h1, h2, h4.below ht (by omega), h6.trans (ht.mono (by omega))⟩
  case hIxT =>
    have hz := HZ.out
    rintro c k A A' ⟨h0, h1, h2, h6⟩ ht
    exact ⟨h0, h1, h2.below ht (by omega), h6.trans (ht.mono (by omega))⟩
  case hIG =>
    rintro s A ⟨s, h1, h2, h4, h6⟩
    exact hG.below (by rw [hm]; exact h6)
  case assign =>
    rintro ly k args W K ⟨v, rfl, A, rfl, hr⟩ hK
    gi_wp2
    exact hK
  case body =>
    rintro ly k args W ⟨s, h1, h2, h4, h6⟩ hk ⟨v, rfl, A, rfl, hr⟩
    have hG5 := hG.below (by rw [hm]; exact h6)
    obtain ⟨row, hrow⟩ : ∃ row, (rowsL l).getD k [] = row := ⟨_, rfl⟩
    rw [hrow] at hr
    have hge : (rowsL l)[k] = row := by rw [← hrow, List.getD_eq_getElem?_getD, List.getElem?_eq_getElem hk]; rfl
    have hmem : row ∈ rowsL l := by rw [← hge]; exact List.getElem_mem hk
    have hdrop : (rowsL l).drop k = row :: (rowsL l).drop (k + 1) := by rw [List.drop_eq_getElem_cons hk, hge]
    rw [hdrop, readX] at h1
    obtain ⟨p1, p2, p3, p4, p5, p6, q1, q2, q3, q4, q5, q6⟩ := id h4
    rw [hrow]
    have HW := Lib.hid (fun x (hx : x ∈ row) => word_len hmem hx)
    have H1 := Lib.hid h1
    have H2 := Lib.hid h2
    have H4 := Lib.hid h4
    have H6 := Lib.hid h6
    have HR := Lib.hid hr
    clear h1 h2 h4 h6 hrow hdrop hk hr hmem hge
    by_cases hn : row.length = 2
    · obtain ⟨kw, v0, rfl⟩ : ∃ a b, row = [a, b] := by
        match row, hn with
        | [a, b], _ => exact ⟨a, b, rfl⟩
      have a0 : W.cell? ⟨A, 0, none⟩ = some (.string (bs kw)) := HR.out.cellAt 0 (by simp)
      have a1 : W.cell? ⟨A, 1, none⟩ = some (.string (bs v0)) := HR.out.cellAt 1 (by simp)
      have hvl : v0.length ≤ 100000 := by have := HW.out v0 (by simp); omega
      simp only [List.length_cons, List.length_nil, Nat.zero_add, Nat.reduceAdd]
      obtain ⟨pa, mi, vs⟩ := s
      obtain ⟨im, him⟩ : ∃ i, ((bs kw).toList == [109, 111, 100, 117, 108, 101]) = i := ⟨_, rfl⟩
      obtain ⟨ig, hig⟩ : ∃ i, ((bs kw).toList == [103, 111]) = i := ⟨_, rfl⟩
      obtain ⟨ic, hic⟩ : ∃ i, ((bs kw).toList == [116, 111, 111, 108, 99, 104, 97, 105, 110]) = i := ⟨_, rfl⟩
      have hx := step_two ⟨pa, mi, vs⟩ kw v0 him hig hic
      clear hn
      cases im
      · cases ig
        · cases ic
          · have HX := Lib.hid hx
            clear hx
            gi_wp2_with fail
            refine ⟨(lost_keeps m W).from _, rfl, ?_, lost_told H4.out, lost_below H6.out⟩
            have := H1.out
            rw [HX.out] at this
            exact this.symm
          · have HX := Lib.hid hx
            clear hx
            gi_wp2_with fail
            refine ⟨KeepsFrom.refl _ _, ⟨Nat.le_refl _, fun _ _ _ h => h⟩, _, ?_, H2.out, H4.out, H6.out⟩
            have := H1.out
            rw [HX.out] at this
            exact this
        · obtain ⟨⟨r1, r2⟩, hr12⟩ : ∃ r, minorP v0 = r := ⟨_, rfl⟩
          have HM := Lib.hid (Minor_any (bs v0) (by rw [size_list, bs_list]; exact hvl) hG5)
          rw [bs_list, hr12] at HM
          rw [hr12] at hx
          have p6' : W.cell? ⟨m + 1 + 1 + 1, 0, none⟩ = some (.int .i64 (vs : Int)) := p6
          obtain ⟨ie, hie⟩ : ∃ i, (r2 != 0) = i := ⟨_, rfl⟩
          have hmW : m ≤ W.heap.size := by have := H6.out.size; omega
          rcases (show vs = 0 ∨ vs = 1 by have := H2.out; simp only [] at this; omega) with rfl | rfl
          · cases ie
            · have HX : Hid (stepX ⟨pa, mi, 0⟩ [kw, v0] = some ⟨pa, r1, 1⟩) := by
                rw [hx]; simp only [Bool.false_eq_true, if_false, if_true]; rw [if_neg (by simpa using hie)]; exact Lib.hid rfl
              clear hx
              gi_wp2_with (gi_at_call 14; refine (CallsIn.inRound ly (up _ _ _ _ _ (HM.out W (Below.refl _ _)))).mono ?_; rintro e w3 ⟨rfl, hb3⟩; obtain ⟨p1, p2, p3, p4, p5, p6, q1, q2, q3, q4, q5, q6⟩ := id (H4.out.below hb3 H4.out.lt))
              have hz := HZ.out
              refine ⟨(((keeps_of_below hb3).trans (KeepsOthers.setCell _ _ _)).trans (KeepsOthers.setCell _ _ _)).from _, ((Keep.below hb3).trans (Keep.set _ (by show m + 1 + 1 + 1 < _; omega) _)).trans (Keep.set _ (by show m + 1 + 1 < _; omega) _), _, ?_, Nat.le_refl 1, ((H4.out.below hb3 H4.out.lt).vs' 1).mi' r1,
                ((H6.out.trans (hb3.mono hmW)).setCell (p := ⟨m + 1 + 1 + 1, 0, none⟩) (by show m ≤ m + 1 + 1 + 1; omega) _).setCell (p := ⟨m + 1 + 1, 1, none⟩) (by show m ≤ m + 1 + 1; omega) _⟩
              have := H1.out
              rw [HX.out] at this
              exact this
            · have HX : Hid (stepX ⟨pa, mi, 0⟩ [kw, v0] = none) := by
                rw [hx]; simp only [Bool.false_eq_true, if_false, if_true]; rw [if_pos (.inl (by simpa using hie))]; exact Lib.hid rfl
              clear hx
              gi_wp2_with (gi_at_call 14; refine (CallsIn.inRound ly (up _ _ _ _ _ (HM.out W (Below.refl _ _)))).mono ?_; rintro e w3 ⟨rfl, hb3⟩; obtain ⟨p1, p2, p3, p4, p5, p6, q1, q2, q3, q4, q5, q6⟩ := id (H4.out.below hb3 H4.out.lt))
              refine ⟨(((keeps_of_below hb3).trans (KeepsOthers.setCell _ _ _)).trans (lost_keeps m _)).from _, rfl, ?_, lost_told ((H4.out.below hb3 H4.out.lt).vs' 1), lost_below ((H6.out.trans (hb3.mono hmW)).setCell (p := ⟨m + 1 + 1 + 1, 0, none⟩) (by show m ≤ m + 1 + 1 + 1; omega) _)⟩
              have := H1.out
              rw [HX.out] at this
              exact this.symm
          · have HX : Hid (stepX ⟨pa, mi, 1⟩ [kw, v0] = none) := by
              rw [hx]; simp only [Bool.false_eq_true, if_false, if_true]; rw [if_pos (.inr (by decide))]; exact Lib.hid rfl
            clear hx
            cases ie
            · gi_wp2_with (gi_at_call 14; refine (CallsIn.inRound ly (up _ _ _ _ _ (HM.out W (Below.refl _ _)))).mono ?_; rintro e w3 ⟨rfl, hb3⟩; obtain ⟨p1, p2, p3, p4, p5, p6, q1, q2, q3, q4, q5, q6⟩ := id (H4.out.below hb3 H4.out.lt))
              refine ⟨(((keeps_of_below hb3).trans (KeepsOthers.setCell _ _ _)).trans (lost_keeps m _)).from _, rfl, ?_, lost_told ((H4.out.below hb3 H4.out.lt).vs' 2), lost_below ((H6.out.trans (hb3.mono hmW)).setCell (p := ⟨m + 1 + 1 + 1, 0, none⟩) (by show m ≤ m + 1 + 1 + 1; omega) _)⟩
              have := H1.out
              rw [HX.out] at this
              exact this.symm
            · gi_wp2_with (gi_at_call 14; refine (CallsIn.inRound ly (up _ _ _ _ _ (HM.out W (Below.refl _ _)))).mono ?_; rintro e w3 ⟨rfl, hb3⟩; obtain ⟨p1, p2, p3, p4, p5, p6, q1, q2, q3, q4, q5, q6⟩ := id (H4.out.below hb3 H4.out.lt))
              refine ⟨(((keeps_of_below hb3).trans (KeepsOthers.setCell _ _ _)).trans (lost_keeps m _)).from _, rfl, ?_, lost_told ((H4.out.below hb3 H4.out.lt).vs' 2), lost_below ((H6.out.trans (hb3.mono hmW)).setCell (p := ⟨m + 1 + 1 + 1, 0, none⟩) (by show m ≤ m + 1 + 1 + 1; omega) _)⟩
              have := H1.out
              rw [HX.out] at this
              exact this.symm
      · obtain ⟨ip, hip⟩ : ∃ i, ((bs pa).toList == []) = i := ⟨_, rfl⟩
        obtain ⟨b, hbv⟩ : ∃ b, pathB v0 = b := ⟨_, rfl⟩
        have HPa := Lib.hid (Path_walk v0 hvl W)
        have hmW : m ≤ W.heap.size := by have := H6.out.size; omega
        have hpd := (beq_word pa []).symm.trans hip
        simp only [if_true] at hx
        rw [hbv] at hx HPa
        cases ip
        · have HX : Hid (stepX ⟨pa, mi, vs⟩ [kw, v0] = none) := by
            rw [hx, if_pos (.inl (of_decide_eq_false hpd))]; exact Lib.hid rfl
          clear hx hpd
          gi_wp2_with fail
          refine ⟨(lost_keeps m W).from _, rfl, ?_, lost_told H4.out, lost_below H6.out⟩
          have := H1.out
          rw [HX.out] at this
          exact this.symm
        · have hpe := of_decide_eq_true hpd
          cases b
          · have HX : Hid (stepX ⟨pa, mi, vs⟩ [kw, v0] = none) := by
              rw [hx, if_pos (.inr rfl)]; exact Lib.hid rfl
            clear hx hpd hpe
            gi_wp2_with (gi_at_call 13; refine (CallsIn.inRound ly (up _ _ _ _ _ HPa.out)).mono ?_; rintro e w3 ⟨rfl, hb3⟩; obtain ⟨p1, p2, p3, p4, p5, p6, q1, q2, q3, q4, q5, q6⟩ := id (H4.out.below hb3 H4.out.lt))
            refine ⟨((keeps_of_below hb3).trans (lost_keeps m _)).from _, rfl, ?_, lost_told (H4.out.below hb3 H4.out.lt), lost_below (H6.out.trans (hb3.mono hmW))⟩
            have := H1.out
            rw [HX.out] at this
            exact this.symm
          · have HX : Hid (stepX ⟨pa, mi, vs⟩ [kw, v0] = some ⟨v0, mi, vs⟩) := by
              rw [hx, if_neg (by simp [hpe])]; exact Lib.hid rfl
            clear hx hpd hpe
            gi_wp2_with (gi_at_call 13; refine (CallsIn.inRound ly (up _ _ _ _ _ HPa.out)).mono ?_; rintro e w3 ⟨rfl, hb3⟩; obtain ⟨p1, p2, p3, p4, p5, p6, q1, q2, q3, q4, q5, q6⟩ := id (H4.out.below hb3 H4.out.lt); have a3 := keeps_cell hb3 a1)
            have hz := HZ.out
            refine ⟨((keeps_of_below hb3).trans (KeepsOthers.setCell _ _ _)).from _, (Keep.below hb3).trans (Keep.set _ (by show m + 1 + 1 < _; omega) _), _, ?_, H2.out, (H4.out.below hb3 H4.out.lt).path v0,
              (H6.out.trans (hb3.mono hmW)).setCell (p := ⟨m + 1 + 1, 0, none⟩) (by show m ≤ m + 1 + 1; omega) _⟩
            have := H1.out
            rw [HX.out] at this
            exact this
    · have hni : ((row.length : Int) != 2) = true := by simp; omega
      have HN := Lib.hid hn
      clear hn
      gi_wp2_with fail
      refine ⟨(lost_keeps m W).from _, rfl, ?_, lost_told H4.out, lost_below H6.out⟩
      have := H1.out
      rw [step_len HN.out] at this
      exact this.symm
  case done =>
    rintro D W hD ⟨⟨pa, mi, vs⟩, h1, h2, h4, h6⟩ hK
    rw [List.drop_of_length_le (Nat.le_refl _), readX] at h1
    obtain ⟨p1, p2, p3, p4, p5, p6, q1, q2, q3, q4, q5, q6⟩ := id h4
    obtain ⟨ip, hip⟩ : ∃ i, ((bs pa).toList == []) = i := ⟨_, rfl⟩
    have hpd := (beq_word pa []).symm.trans hip
    have H1 := Lib.hid h1
    have H4 := Lib.hid h4
    have H6 := Lib.hid h6
    clear h1 h2 h4 h6
    cases ip
    · have HX : Hid (readP l = (pa, mi, 0)) := by
        rw [HP.out, ← H1.out]
        exact if_neg (of_decide_eq_false hpd)
      clear hpd
      gi_wp2_with fail
      have hK' := (told_keeps m W pa mi 0).same D _ hK rfl
      refine ⟨by simp, .inl ⟨_, _, rfl, run_takeDeferred hK', ?_⟩⟩
      have ht' := (told_told H4.out pa mi 0).grown (grownBy_putObj' _ D (.deferred none)) (fun r e => by cases e; exact ⟨_, hK', rfl⟩)
      have hb := told_below H6.out pa mi 0
      obtain ⟨t1, t2, t3⟩ := ht'
      unfold told at t1 t2 t3
      refine ⟨.tuple #[modV pa mi, .int .i64 0], by simp [results, Tryd.results10, go_sem, t1, t2, t3, modV], by rw [HX.out], ?_⟩
      exact hb.grown (grownBy_putObj' _ D _) (by have := hb.size; omega) (fun k e => by cases e; have := HZ.out; omega)
    · have HX : Hid (readP l = ([], 0, 7)) := by
        rw [HP.out, ← H1.out]
        exact if_pos (of_decide_eq_true hpd)
      clear hpd
      gi_wp2_with fail
      have hK' := (told_keeps m W [] 0 7).same D _ hK rfl
      refine ⟨by simp, .inl ⟨_, _, rfl, run_takeDeferred hK', ?_⟩⟩
      have ht' := (told_told H4.out [] 0 7).grown (grownBy_putObj' _ D (.deferred none)) (fun r e => by cases e; exact ⟨_, hK', rfl⟩)
      have hb := told_below H6.out [] 0 7
      obtain ⟨t1, t2, t3⟩ := ht'
      unfold told at t1 t2 t3
      rw [show bs [] = (⟨#[]⟩ : ByteArray) from rfl] at t1 t2 t3
      refine ⟨.tuple #[modV [] 0, .int .i64 7], by simp [results, Tryd.results10, go_sem, t1, t2, t3, modV]; rfl, by rw [HX.out], ?_⟩
      exact hb.grown (grownBy_putObj' _ D _) (by have := hb.size; omega) (fun k e => by cases e; have := HZ.out; omega)
  case stop =>
    rintro D c k W hD hk ⟨rfl, hr, ht, hb⟩ hK
    have HX : Hid (readP l = ([], 0, 7)) := by
      rw [HP.out, hr]
      rfl
    gi_wp2_with fail
    refine ⟨by simp, .inl ⟨_, _, rfl, run_takeDeferred hK, ?_⟩⟩
    have ht' := ht.grown (grownBy_putObj' _ D (.deferred none)) (fun r e => by cases e; exact ⟨_, hK, rfl⟩)
    obtain ⟨t1, t2, t3⟩ := ht'
    refine ⟨.tuple #[modV [] 0, .int .i64 7], by simp [results, Tryd.results10, go_sem, t1, t2, t3, modV], ?_, ?_⟩
    · rw [HX.out]
    · exact hb.grown (grownBy_putObj' _ D _) (by have := hb.size; omega) (fun k e => by cases e; have := HZ.out; omega)

theorem Read_any (l : List UInt8) (v : Value) (w : World) (hG : Good w) (hb : Byt w v l) :
    Calls Tryd.prog 10 #[v] w (Out w.heap.size w (.tuple #[modV (readP l).1 (readP l).2.1, .int .i64 (readP l).2.2])) := by
  rcases Nat.lt_or_ge 65536 l.length with h | h
  · have e : readP l = ([], 0, 12) := by unfold readP; rw [if_pos h]
    rw [e]
    exact Read_long l h v w hb
  · exact Read_short l h v w hG hb

end Go.Proofs.YtiigjmageeinpaaDoor
