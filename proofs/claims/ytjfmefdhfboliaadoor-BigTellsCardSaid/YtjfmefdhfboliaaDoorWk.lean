/- Walks through number.String of package big. -/
import Derived.Test.YtjfmefdhfboliaaDoorWj
import Derived.Test.YtjfmefdhfboliaaDoorShf
import Derived.Lib.LaidTab
namespace Go.Proofs.YtjfmefdhfboliaaDoor
open Go.RowKit Go.Shelf Num
open Go.Lib (decDigits nDigits decDigits_length itoa)
open Go.Sort (grow)

attribute [local go_sem] Oper.semAt_some
attribute [local go_sem ↓] Go.wp_at_zero Go.wp_at_succ

/-- The library's table lies in this world. -/
def Tab (w : World) : Prop := Lib.TabIs Tryd.prog w "internal/strconv.uint64pow10" .u64 Lib.pow10Tab

theorem Tab.below {w w' : World} (h : Tab w) (hb : Below w.heap.size w w') : Tab w' := by
  unfold Tab Lib.TabIs World.var? at h ⊢
  cases hg : Tryd.prog.globalNamed "internal/strconv.uint64pow10" with
  | none => rw [hg] at h; exact h
  | some g =>
    rw [hg] at h
    simp only [Option.bind_some] at h ⊢
    have hlt : g < w.heap.size := by
      rcases Nat.lt_or_ge g w.heap.size with h' | h'
      · exact h'
      · rw [Array.getElem?_eq_none h'] at h; cases h
    rw [hb.block g hlt]; exact h

theorem grown_below (w : World) (k : Nat) (os : Array Obj) : Below w.heap.size w (grow (w.drewN k) os) :=
  ⟨rfl, rfl, rfl, by show w.heap.size ≤ (w.heap ++ os).size; simp, fun j hj => by show (w.heap ++ os)[j]? = _; rw [Array.getElem?_append_left hj]⟩

theorem itoa_any (d : Nat) (hd : d < 1000000000) (w : World) (ht : Tab w) :
    Calls Tryd.prog 26 #[.int .i64 d] w fun e w' => ∃ s : ByteArray, e = .returned (.string s) ∧ s.data.toList = decDigits d ∧ s.size = nDigits d ∧ Below w.heap.size w w' := by
  refine (Tryd.strconv_Itoa d (by omega) (by omega) w ht).mono ?_
  rintro e w' ⟨rfl, k, os, rfl⟩
  have h1 : Lib.itoa (d : Int) = decDigits d := by rw [Lib.itoa, if_neg (by omega)]; rfl
  refine ⟨_, rfl, ?_, ?_, grown_below _ _ _⟩
  · rw [h1]
  · rw [h1]
    show ((decDigits d).toArray).size = _
    rw [List.size_toArray, decDigits_length]

theorem zeros_any (c : Nat) (hc : c ≤ 9) (w : World) :
    Calls Tryd.prog 65 #[.string ⟨#[48]⟩, .int .i64 c] w fun e w' => ∃ s : ByteArray, e = .returned (.string s) ∧ s.data.toList = List.replicate c 48 ∧ Below w.heap.size w w' := by
  refine (Tryd.strings_Repeat ⟨#[48]⟩ c w (by omega) (by show 1 * c ≤ _; omega)).mono ?_
  rintro e w' ⟨rfl, hb⟩
  refine ⟨_, rfl, ?_, hb⟩
  show (Lib.repeatL [48] c) = _
  clear hb hc
  induction c with
  | zero => rfl
  | succ c ih => rw [List.replicate_succ, ← ih]; simp [Lib.repeatL]

/-- The builder in block b holds these bytes. -/
abbrev Bytes (b : Nat) (l : List UInt8) (w : World) : Prop := Lib.IsBuilderF 78 5 b b (Lib.byteCells l) w

theorem write_any (b : Nat) (l : List UInt8) (s : ByteArray) (w : World) (h : Bytes b l w) (hl : l.length + s.size ≤ 100000000000000) (hb : b ≤ w.heap.size) :
    Calls Tryd.prog 66 #[.pointer (some ⟨b, 0, none⟩), .string s] w fun e w' => e = .returned (.tuple #[.int .i64 s.size, .nilIface]) ∧ Bytes b (l ++ s.data.toList) w' ∧ Below b w w' ∧ Lib.OthersKept 5 (some b) w w' := by
  refine (Tryd.WriteString_k b b (Lib.byteCells l) s w h (by rw [Lib.byteCells_length]; omega) hb).mono ?_
  rintro e w' ⟨rfl, h1, h2, h3⟩
  have e1 : Lib.byteCells (l ++ s.data.toList) = Lib.byteCells l ++ Lib.strCells s := by simp [Lib.byteCells, Lib.strCells]
  exact ⟨rfl, by unfold Bytes; rw [e1]; exact .inr h1, h2, h3⟩

theorem builder_kept {T e : TypeId} {B b : Nat} {bs : List Value} {W W' : World} (h : Lib.IsBuilderF T e B b bs W) (hk : ∀ (k : Nat) (c : Array Value) (t : TypeId) (fz : Nat × Nat), W.heap[k]? = some (Obj.cells c t fz) → W'.heap[k]? = some (Obj.cells c t fz)) : Lib.IsBuilderF T e B b bs W' := by
  have one : ∀ p, Lib.BuilderAtF T e B b p bs W → Lib.BuilderAtF T e B b p bs W' := fun p h => by
    obtain ⟨hB, v, hb, ⟨hl, hown⟩, hne⟩ := h
    refine ⟨hB, v, hk _ _ _ _ hb, ⟨hl, ?_⟩, hne⟩
    rcases hown with h | ⟨g, cap, cur, fz, hv, hg, hh, r⟩
    · exact .inl h
    · exact .inr ⟨g, cap, cur, fz, hv, hg, hk _ _ _ _ hh, r⟩
  exact h.elim (fun x => .inl (one _ x)) (fun x => .inr (one _ x))

theorem builder_below {T e : TypeId} {B b : Nat} {bs : List Value} {W W' : World} (h : Lib.IsBuilderF T e B b bs W) (hb : Below W.heap.size W W') : Lib.IsBuilderF T e B b bs W' :=
  builder_kept h fun k _c _t _fz hk => (hb.block k (Array.getElem?_eq_some_iff.1 hk).1).trans hk

theorem builder_grown {T e : TypeId} {B b : Nat} {bs : List Value} {W W' : World} {row : Option Nat} (h : Lib.IsBuilderF T e B b bs W) (hg : W.grownBy W' row) (hr : NoCells W row) : Lib.IsBuilderF T e B b bs W' :=
  builder_kept h fun _k _c _t _fz hk => (grownBy_keeps_cells hg hr hk rfl).trans hk

theorem byte_any (b : Nat) (c : Nat) (hc : c < 256) (l : List UInt8) (w : World) (h : Bytes b l w) (hl : l.length ≤ 100000) (hb : b ≤ w.heap.size) :
    Calls Tryd.prog 63 #[.pointer (some ⟨b, 0, none⟩), .int .u8 c] w fun e w' => e = .returned .nilIface ∧ Bytes b (l ++ [UInt8.ofNat c]) w' ∧ Below b w w' ∧ Lib.OthersKept 5 (some b) w w' := by
  refine (Tryd.WriteByte_k b b (Lib.byteCells l) c w h (by rw [Lib.byteCells_length]; omega) hb).mono ?_
  rintro e w' ⟨rfl, h1, h2, h3⟩
  have e1 : Lib.byteCells (l ++ [UInt8.ofNat c]) = Lib.byteCells l ++ [.int .u8 c] := by
    simp only [Lib.byteCells, List.map_append, List.map_cons, List.map_nil, UInt8.toNat_ofNat']
    rw [Nat.mod_eq_of_lt hc]
  exact ⟨rfl, by unfold Bytes; rw [e1]; exact .inr h1, h2, h3⟩

theorem bytes_cells {b : Nat} {l : List UInt8} {w : World} (h : Bytes b l w) : ∃ cs t fz, w.heap[b]? = some (Obj.cells cs t fz) := by
  rcases h with ⟨_, v, h, _⟩ | ⟨_, v, h, _⟩
  · exact ⟨_, _, _, h⟩
  · exact ⟨_, _, _, h⟩
theorem others_of {b : Nat} {l : List UInt8} {w w' : World} (h : Bytes b l w) (hk : Lib.OthersKept 5 (some b) w w') (hs : w.heap.size ≤ w'.heap.size) : KeepsOthers w w' :=
  ⟨hs, fun k o hk' ho => hk k o hk' (fun e => by
    obtain ⟨cs, t, fz, hc⟩ := bytes_cells h
    cases e
    rw [hc] at hk'; cases hk'; cases ho) (fun c fz e => by subst e; cases ho)⟩
theorem box_others {b ib : Nat} {w w' : World} (hk : Lib.OthersKept 5 (some b) w w') (hb : Box w ib 41) (hne : ib ≠ b) : w'.heap[ib]? = w.heap[ib]? := by
  obtain ⟨cs, fr, h⟩ := hb
  rw [h]
  exact hk ib _ h (fun e => hne (Option.some.inj e)) (fun c fz e => by cases e)

/-- What a round of String leaves. -/
theorem str_round {b ib B0 n₀ : Nat} {l l' : List UInt8} {W w2 w3 : World} (hW2 : Below W.heap.size W w2) (h : Bytes b l w2) (hbx : Box W ib 41) (hne : ib ≠ b) (hn : n₀ ≤ W.heap.size) (hnb : n₀ ≤ b)
    (_h3 : Bytes b l' w3) (hb3 : Below b w2 w3) (hk3 : Lib.OthersKept 5 (some b) w2 w3) : KeepsFrom B0 W w3 ∧ KeepBox n₀ ib W w3 ∧ Box w3 ib 41 := by
  have hx2 := hbx.below hW2
  have e3 := box_others hk3 hx2 hne
  refine ⟨((keepsOthers_of_below hW2).from _).trans ((others_of h hk3 hb3.size).from _), ⟨(hW2.mono hn).trans (hb3.mono hnb), e3.trans (hW2.block ib hbx.lt)⟩, ?_⟩
  obtain ⟨cs, fr, hx⟩ := hx2
  exact ⟨cs, fr, e3.trans hx⟩

set_option maxRecDepth 100000 in
set_option maxHeartbeats 4000000 in
theorem string_pos (x : Nat) (hx : x ≠ 0) (b : Bool) (A : Option Addr) (N c : Nat) (w : World) (hA : Digs w (.slice A N c) (limbs x)) (lx : Small x) (ht : Tab w) :
    Calls Tryd.prog 43 #[.agg #[.bool b, .slice A N c]] w fun e w' => e = .returned (.string ⟨((if b then [45] else []) ++ decDigits x).toArray⟩) ∧ Below w.heap.size w w' := by
  refine wide_letter fun F hfn hro hdep up => ?_
  have f64 := hfn 64
  have f83 := hfn 83
  have f43 := hfn 43
  have f63 := hfn 63
  have f26 := hfn 26
  have f65 := hfn 65
  have f66 := hfn 66
  have f67 := hfn 67
  have hnl : N = (limbs x).length := by have := hA.form; obtain ⟨A', c', e, _⟩ := this; cases e; rfl
  have hN1 : N ≤ 1000000 := by rw [hnl]; exact lx
  have hN0 : N ≠ 0 := by rw [hnl]; intro e; exact hx (limbs_eq_nil.1 (List.length_eq_zero_iff.1 e))
  have hN0b : ((N : Int) == 0) = false := by simp; omega
  have HN := Lib.hid hnl
  have HX := Lib.hid hx
  have HAI := hA.ints
  clear hnl hx
  refine callsIn_of_wp_marks Tryd.func43 rfl f43 ?_ hro
  simp only [Tryd.ntmps43, List.size_toArray, List.length_cons, List.length_nil, Nat.reduceAdd, Nat.reduceSub, Array.replicate_succ, Array.replicate_zero, List.push_toArray, List.append_toArray, List.nil_append, List.cons_append]
  clear hfn
  obtain ⟨pre, hpre⟩ : ∃ pre : List UInt8, (if b then [45] else []) = pre := ⟨_, rfl⟩
  have HPre := Lib.hid hpre
  rw [hpre]
  clear hpre
  gi_upto_if 12 with fail
  gi_cut [] from 13 (fun W => Bytes (w.heap.size + 1) pre W ∧ W.cell? ⟨w.heap.size, 1, none⟩ = some (.slice A N c) ∧ Below w.heap.size w W ∧ w.heap.size + 2 ≤ W.heap.size)
  case first =>
    rename_i J K0 hJ hM
    have hfb : Bytes (w.heap.size + 1) [] ((w.alloc (.cells #[.bool b, .slice A N c] 43)).alloc (.cells #[.pointer none, .slice none 0 0] 78)) := by
      have := Lib.IsBuilderF.of (Lib.fresh_isBuilder 78 5 (w.alloc (.cells #[.bool b, .slice A N c] 43)))
      rwa [World.size_alloc] at this
    have hc1 : ((w.alloc (.cells #[.bool b, .slice A N c] 43)).alloc (.cells #[.pointer none, .slice none 0 0] 78)).cell? ⟨w.heap.size, 1, none⟩ = some (.slice A N c) := by simp [go_sem]
    have hb0 : Below w.heap.size w ((w.alloc (.cells #[.bool b, .slice A N c] 43)).alloc (.cells #[.pointer none, .slice none 0 0] 78)) := ((Below.refl _ _).alloc (Nat.le_refl _) _).alloc (by simp) _
    cases b
    · have hp : pre = [] := HPre.out.symm
      gi_wp2_with fail
      refine Met.intro (hJ _ _ ?_)
      (repeat apply Exists.intro)
      refine ⟨?_, rfl⟩
      exact ⟨by rw [hp]; exact hfb, hc1, hb0, by simp⟩
    · have hp : pre = [45] := HPre.out.symm
      gi_wp2_with (gi_at_call 63; refine (up _ _ _ _ _ (byte_any (w.heap.size + 1) 45 (by decide) [] _ hfb (by simp) (by simp))).mono ?_; rintro e w1 ⟨rfl, hB1, hb1, _⟩)
      refine Met.intro (hJ _ _ ?_)
      (repeat apply Exists.intro)
      refine ⟨?_, rfl⟩
      exact ⟨by rw [hp]; exact hB1, (hb1.cell (p := ⟨w.heap.size, 1, none⟩) (Nat.lt_succ_self _)).trans hc1, hb0.trans (hb1.mono (Nat.le_succ _)), Nat.le_trans (by simp) hb1.size⟩
  case rest =>
    obtain ⟨hB, hcell, hbw, hsz⟩ := hcut
    gi_wp2_with (gi_at_call 64; refine (back_in F _ f64 hro _ _ _ _).mono ?_; rintro e w' ⟨rfl, rfl⟩)
    obtain ⟨W0, hW0⟩ : ∃ W0, wc.alloc (.cells #[.slice A N c] 41) = W0 := ⟨_, rfl⟩
    have hz0 : W0.heap.size = wc.heap.size + 1 := by rw [← hW0]; simp
    have hb0 : Below wc.heap.size wc W0 := by rw [← hW0]; exact (Below.refl _ _).alloc (Nat.le_refl _) _
    have hib : W0.cell? ⟨wc.heap.size, 0, none⟩ = some (.slice A N c) := by rw [← hW0]; exact (Boxed.new wc 41 (.slice A N c)).cell
    have hbx : Box W0 wc.heap.size 41 := by rw [← hW0]; exact Box.new wc _ 41
    have hc0 := keeps_cell hb0 hcell
    have hB0 : Bytes (w.heap.size + 1) pre W0 := builder_below hB hb0
    have hw0 : Below w.heap.size w W0 := hbw.trans (hb0.mono hbw.size)
    rw [hW0]
    clear hW0 hB hcell
    have hA0 : IntsAt w.heap.size W0 (.slice A N c) (limbs x) := HAI.below hw0
    refine wpIn_rangeFunc_idx hro (by omega) (gf := 83) (lb := #[.pointer (some ⟨wc.heap.size, 0, none⟩)]) rfl f83 (enters_of Tryd.func83 (by kernel_rfl) rfl)
      (back_stops F 8 f83 hro (by omega) wc.heap.size w.heap.size _ (limbs x) _ (by omega) (by omega) hib hA0) (fun h k => h.trans k) (KeepBox.putObj (by omega) (by omega)) (Below.refl _ _) (fun _ => rfl) (fun _ _ h => h.elim)
      (fun k W => (Bytes (w.heap.size + 1) (pre ++ wrote x (N - k)) W ∧ W.cell? ⟨w.heap.size, 1, none⟩ = some (.slice A N c) ∧ Box W wc.heap.size 41 ∧ W0.heap.size ≤ W.heap.size) ∧ Below w.heap.size w W)
      (fun c k W => False)
      (OwnFrom.and (Own.from (fun s A B row hs hg hr => ⟨builder_grown hs.1 hg hr, cell_kept hs.2.1 hg hr, hs.2.2.1.kept hg hr, Nat.le_trans hs.2.2.2 hg.size⟩) _) (ownFrom_below (Nat.le_refl _) (by omega)))
      (fun c s A B row hs _ _ => hs) (fun _ _ _ _ h => h.elim) (fun _ _ _ _ _ h => h.elim)
      ⟨⟨by rw [Nat.sub_zero, HN.out, wrote_none, List.append_nil]; exact hB0, hc0, hbx, Nat.le_refl _⟩, hw0⟩
      (fun k => { tmps := #[.agg #[.bool b, .slice A N c], .pointer (some ⟨w.heap.size, 0, none⟩), .string ⟨#[]⟩, .pointer (some ⟨w.heap.size + 1, 0, none⟩), .int .i64 (((limbs x).length - 1 - k : Nat) : Int), .int .i64 (D (limbs x) ((limbs x).length - 1 - k)), undef, .pointer (some ⟨w.heap.size, 1, none⟩), .slice A N c, .int .i64 N, .bool false, .pointer (some ⟨w.heap.size, 0, none⟩), .bool b, u13, .pointer (some ⟨w.heap.size, 1, none⟩), .slice A N c, .func (.func 83) #[] #[.pointer (some ⟨wc.heap.size, 0, none⟩)], .int .i64 (((limbs x).length - 1 - k : Nat) : Int), .int .i64 (D (limbs x) ((limbs x).length - 1 - k)), u19, u20, u21, u22, u23, u24, u25, u26, u27, u28, u29, u30, u31, u32, u33, u34, u35], defers := [] }) ?assign ?body ?done ?stop
    case stop => rintro D0 c k W _ _ h _; exact h.elim
    case assign =>
      intro l k W K hK
      dsimp only [backs]
      gi_wp2
      exact hK
    case body =>
      rintro l k W ⟨⟨hB, hcell, hbxW, hzW⟩, hbW⟩ hk
      obtain ⟨m, hm⟩ : ∃ m, (limbs x).length - 1 - k = m := ⟨_, rfl⟩
      have hnl := HN.out
      have hmk : N - k = m + 1 := by omega
      have hmk1 : N - (k + 1) = m := by omega
      have dd := D_dig (dig_limbs x) m
      have hwt := fun h => wrote_top (n := x) (k := m) h
      have hws := fun h => wrote_step (n := x) (k := m) h
      have hwl := wrote_length (n := x) (k := m + 1)
      generalize hdj : D (limbs x) m = di at *
      obtain ⟨d, rfl⟩ : ∃ d : Nat, di = (d : Int) := ⟨di.toNat, by omega⟩
      have hd : d < 1000000000 := by omega
      rw [Int.toNat_natCast] at hwt hws
      rw [hmk] at hB
      rw [hm, hdj]
      have hpl : pre.length ≤ 1 := by rw [← HPre.out]; cases b <;> simp
      have hdl := nDigits_digit hd
      have hT : Tab W := ht.below hbW
      have hmN : m < N := by omega
      have hkm : k = 0 ↔ m + 1 = N := by omega
      have H1 := Lib.hid (And.intro hwt (And.intro hws (And.intro hwl (And.intro hmk1 (And.intro hnl hkm)))))
      clear hwt hws hwl hmk1 hnl hkm hm hmk hdj dd hA0 hib hc0 hB0 hbx hb0 hw0
      gi_wp2_with fail
      refine (CallsIn.inRound l (up _ _ _ _ _ (itoa_any d hd W hT))).mono ?_
      rintro e w1 ⟨s, rfl, hs, hss, hb1⟩
      have c1 := keeps_cell hb1 hcell
      have hB1 := builder_below hB hb1
      have hw1 := hb1.size
      have hsz2 : w.heap.size + 1 ≤ w1.heap.size := by omega
      clear hB hcell
      by_cases hmN1 : m + 1 = N
      · have hnot : ¬ ((m : Int) < (N : Int) - 1) := by omega
        have HM := Lib.hid hmN1
        clear hmN1 hmN
        gi_wp2_with fail
        have hlen : (pre ++ wrote x (m + 1)).length + s.size ≤ 100000000000000 := by have := H1.out.2.2.1; have hlx : (limbs x).length ≤ 1000000 := lx; rw [List.length_append]; omega
        refine (CallsIn.inRound l (up _ _ _ _ _ (write_any (w.heap.size + 1) _ s w1 hB1 hlen hsz2))).mono ?_
        rintro e w3 ⟨rfl, hB3, hb3, hk3⟩
        obtain ⟨r1, r2, r3⟩ := str_round (B0 := W0.heap.size) (n₀ := w.heap.size) hb1 hB1 hbxW (by omega) (by omega) (by omega) hB3 hb3 hk3
        have hcell3 := (hb3.cell (p := ⟨w.heap.size, 1, none⟩) (Nat.lt_succ_self _)).trans c1
        have hfin : pre ++ wrote x (N - (k + 1)) = pre ++ wrote x (m + 1) ++ s.data.toList := by
          obtain ⟨g1, _, _, g4, g5, _⟩ := H1.out
          rw [g4, g1 (by rw [← g5]; exact HM.out), hs, HM.out, g5, wrote_none, List.append_nil]
        have hbw3 : Below w.heap.size w w3 := (hbW.trans (hb1.mono hbW.size)).trans (hb3.mono (Nat.le_succ _))
        have hz3 : W0.heap.size ≤ w3.heap.size := Nat.le_trans (Nat.le_trans hzW hw1) hb3.size
        gi_wp2_with fail
        exact ⟨r1, r2, ⟨by rw [hfin]; exact hB3, hcell3, r3, hz3⟩, hbw3⟩
      · have hlt : (m : Int) < (N : Int) - 1 := by omega
        have HM : Hid (m + 1 < N) := by have : m + 1 < N := by omega
                                        exact this
        have hw9 : (9 : Int) - (s.size : Int) = ((9 - nDigits d : Nat) : Int) := by rw [hss]; omega
        clear hmN1 hmN
        gi_wp2_with fail
        rw [show (9 : Int) - (nDigits d : Int) = ((9 - nDigits d : Nat) : Int) by omega]
        refine (CallsIn.inRound l (up _ _ _ _ _ (zeros_any (9 - nDigits d) (by omega) w1))).mono ?_
        rintro e w2 ⟨z, rfl, hz, hb2⟩
        have hB2 := builder_below hB1 hb2
        have c2 := keeps_cell hb2 c1
        have hw2 := hb2.size
        have hb12 : Below W.heap.size W w2 := hb1.trans (hb2.mono hw1)
        have hsz3 : w.heap.size + 1 ≤ w2.heap.size := by omega
        have hzs : z.size = 9 - nDigits d := by
          have h1 : z.data.toList.length = z.size := Array.length_toList
          rw [← h1, hz, List.length_replicate]
        have hsum : z.size + s.size ≤ 9223372036854775807 := by omega
        have hadd : ∀ w : World, (Op.stringOp .add z s).run Tryd.prog w = .ok (.string (z ++ s)) w := fun w => run_string_add_sum w z s hsum
        clear hB1 c1 hzs hss hw9
        gi_wp2_with fail
        obtain ⟨q, hq⟩ : ∃ q, z ++ s = q := ⟨_, rfl⟩
        have hqd : q.data.toList = pad9 d := by rw [← hq, ByteArray.data_append, Array.toList_append, hz, hs]; rfl
        have hqs : q.size = 9 := by
          have h1 : q.data.toList.length = q.size := Array.length_toList
          rw [← h1, hqd, pad9_length hd]
        rw [hq]
        have hlen : (pre ++ wrote x (m + 1)).length + q.size ≤ 100000000000000 := by have := H1.out.2.2.1; have hlx : (limbs x).length ≤ 1000000 := lx; rw [List.length_append]; omega
        refine (CallsIn.inRound l (up _ _ _ _ _ (write_any (w.heap.size + 1) _ q w2 hB2 hlen hsz3))).mono ?_
        rintro e w3 ⟨rfl, hB3, hb3, hk3⟩
        obtain ⟨r1, r2, r3⟩ := str_round (B0 := W0.heap.size) (n₀ := w.heap.size) hb12 hB2 hbxW (by omega) (by omega) (by omega) hB3 hb3 hk3
        have hcell3 := (hb3.cell (p := ⟨w.heap.size, 1, none⟩) (Nat.lt_succ_self _)).trans c2
        have hfin : pre ++ wrote x (N - (k + 1)) = pre ++ wrote x (m + 1) ++ q.data.toList := by
          obtain ⟨_, g2, _, g4, g5, _⟩ := H1.out
          rw [g4, g2 (by rw [← g5]; exact HM.out), hqd, List.append_assoc]
        have hbw3 : Below w.heap.size w w3 := (hbW.trans (hb12.mono hbW.size)).trans (hb3.mono (Nat.le_succ _))
        have hz3 : W0.heap.size ≤ w3.heap.size := Nat.le_trans (Nat.le_trans hzW (Nat.le_trans hw1 hw2)) hb3.size
        gi_wp2_with fail
        exact ⟨r1, r2, ⟨by rw [hfin]; exact hB3, hcell3, r3, hz3⟩, hbw3⟩
    case done =>
      rintro D0 W hD ⟨⟨hB, hcell, hbxW, hzW⟩, hbW⟩ hK
      have hfin : pre ++ wrote x (N - (limbs x).length) = pre ++ decDigits x := by rw [HN.out, Nat.sub_self, wrote_all HX.out]
      rw [hfin] at hB
      have hsz3 : w.heap.size + 1 ≤ W.heap.size := by omega
      clear hA0 hib hc0 hB0 hbx hb0 hw0
      gi_wp2_with fail
      refine (up _ _ _ _ _ (Tryd.Builder_String_any_k (w.heap.size + 1) (w.heap.size + 1) (pre ++ decDigits x) W hB hsz3)).mono ?_
      rintro e w9 ⟨rfl, hB9, hb9, hk9⟩
      have hK9 := (others_of hB hk9 hb9.size).same D0 _ hK rfl
      have hbw9 : Below w.heap.size w w9 := hbW.trans (hb9.mono (Nat.le_succ _))
      gi_wp2_with fail
      refine ⟨by simp, .inl ⟨_, _, rfl, run_takeDeferred hK9, ?_⟩⟩
      exact ⟨_, results_tmp rfl _ _ _, rfl, below_shut hbw9 (by omega) hK9 rfl _⟩

set_option maxRecDepth 100000 in
theorem string_zero (b : Bool) (A : Option Addr) (c : Nat) (w : World) :
    Calls Tryd.prog 43 #[.agg #[.bool b, .slice A 0 c]] w fun e w' => e = .returned (.string ⟨#[48]⟩) ∧ Below w.heap.size w w' := by
  go_enter Tryd.func43, Tryd.ntmps43
  go_wp2
  go_ret
  exact ⟨rfl, (Below.refl _ _).alloc (Nat.le_refl _) _⟩

/-- String: a number as it is written. -/
theorem string_any (x : Int) (va : Value) (w : World) (h : Rep w va x) (lx : Small x.natAbs) (ht : Tab w) :
    Calls Tryd.prog 43 #[va] w fun e w' => e = .returned (.string ⟨(itoa x).toArray⟩) ∧ Below w.heap.size w w' := by
  obtain ⟨sv, rfl, hd⟩ := h
  obtain ⟨A, c, rfl, _⟩ := hd.form
  by_cases h0 : x.natAbs = 0
  · have hx : x = 0 := by omega
    subst hx
    have := string_zero false A c w
    have e : (limbs (0 : Int).natAbs).length = 0 := by
      have : (0 : Int).natAbs = 0 := rfl
      rw [this, limbs_zero]; rfl
    have e2 : itoa 0 = [48] := by simp [itoa, decDigits]
    rw [e, e2]
    exact this
  · have := string_pos x.natAbs h0 (decide (x < 0)) A _ c w hd lx ht
    have e : itoa x = (if decide (x < 0) = true then [45] else []) ++ decDigits x.natAbs := by
      unfold itoa
      by_cases hn : x < 0
      · rw [if_pos hn, decide_eq_true hn]; rfl
      · rw [if_neg hn, decide_eq_false hn, show x.toNat = x.natAbs by omega]; rfl
    rw [e]
    exact this

end Go.Proofs.YtjfmefdhfboliaaDoor
