/- Walks: Minor, Text. -/
import Derived.Test.YtiigjmageeinpaaDoorVb
import Derived.Test.YtiigjmageeinpaaDoorShelf
import Derived.Lib.LaidTab
import Derived.Lib.AtoiErrMem
import Derived.Deep.DeepCutAuto
import Derived.Deep.CutBlock
namespace Go.Proofs.YtiigjmageeinpaaDoor
open Go.RowKit Go.Shelf
open Go.Lib (decDigits nDigits decDigits_length itoa atoiAll)

/-- What the walks ask of the package-level variables. -/
structure Good (w : World) : Prop where
  mx : ∃ m, w.cell? ⟨0, 0, none⟩ = some (.int .i64 m)
  es : ∃ te pe, w.cell? ⟨1, 0, none⟩ = some (.iface te pe)
  er : ∃ te pe, w.cell? ⟨2, 0, none⟩ = some (.iface te pe)
  tab : Lib.TabIs Tryd.prog w "internal/strconv.uint64pow10" .u64 Lib.pow10Tab

theorem cell_lt {W : World} {p : Addr} {v : Value} (h : W.cell? p = some v) : p.block < W.heap.size := by
  unfold World.cell? at h
  rcases Nat.lt_or_ge p.block W.heap.size with h' | h'
  · exact h'
  · simp [Array.getElem?_eq_none h'] at h
theorem keeps_cell {W W' : World} (hb : Below W.heap.size W W') {p : Addr} {v : Value} (h : W.cell? p = some v) : W'.cell? p = some v := (hb.cell (cell_lt h)).trans h

theorem tab_below {w w' : World} (h : Lib.TabIs Tryd.prog w "internal/strconv.uint64pow10" .u64 Lib.pow10Tab) (hb : Below w.heap.size w w') : Lib.TabIs Tryd.prog w' "internal/strconv.uint64pow10" .u64 Lib.pow10Tab := by
  unfold Lib.TabIs World.var? at h ⊢
  cases hg : Tryd.prog.globalNamed "internal/strconv.uint64pow10" with
  | none => rw [hg] at h; exact h
  | some g =>
    rw [hg] at h
    simp only [Option.bind_some] at h ⊢
    have hlt : g < w.heap.size := by
      rcases Nat.lt_or_ge g w.heap.size with h' | h'
      · exact h'
      · rw [Array.getElem?_eq_none h'] at h; cases h
    rw [hb.block g hlt]; exact h

theorem Good.below {w w' : World} (h : Good w) (hb : Below w.heap.size w w') : Good w' := by
  obtain ⟨⟨m, hm⟩, ⟨a, b, hab⟩, ⟨c, d, hcd⟩, ht⟩ := h
  exact ⟨⟨m, keeps_cell hb hm⟩, ⟨a, b, keeps_cell hb hab⟩, ⟨c, d, keeps_cell hb hcd⟩, tab_below ht hb⟩

theorem below_drewN (w : World) : ∀ n, Below w.heap.size w (w.drewN n)
  | 0 => Below.refl _ _
  | n + 1 => (below_drewN w n).drew

def Out (B : Nat) (w : World) (v : Value) (e : Ending) (w' : World) : Prop := e = .returned v ∧ Below B w w'

/-- A text. -/
def bs (l : List UInt8) : ByteArray := ⟨l.toArray⟩
theorem bs_list (l : List UInt8) : (bs l).data.toList = l := rfl
theorem bs_of (s : ByteArray) : s = bs s.data.toList := by simp [bs]
theorem size_list (a : ByteArray) : a.size = a.data.toList.length := Array.length_toList.symm

theorem cut_at (l sep : List UInt8) (hl : l.length ≤ 100000) {r : List UInt8 × List UInt8 × Bool} (hr : Lib.cut l sep = r) {w : World} (hG : Good w) : ∀ W, Below w.heap.size w W →
    Calls Tryd.prog 27 #[.string (bs l), .string (bs sep)] W (Out w.heap.size w (.tuple #[.string (bs r.1), .string (bs r.2.1), .bool r.2.2])) := by
  intro W hW
  subst hr
  obtain ⟨m, hm⟩ := (hG.below hW).mx
  refine (Tryd.strings_Cut (bs l) (bs sep) m W (by rw [size_list, bs_list]; omega) hm).mono ?_
  rintro e w' ⟨rfl, n, rfl⟩
  exact ⟨rfl, hW.trans ((below_drewN W n).mono hW.size)⟩

theorem fig_at (l : List UInt8) {i : Bool} (hi : allB figN l = i) (w : World) : ∀ W, Below w.heap.size w W → Calls Tryd.prog 25 #[.string (bs l), .func (.func 23) #[] #[]] W (Out w.heap.size w (.bool i)) := by
  intro W hW
  subst hi
  refine (all_fig (bs l) W).mono ?_
  rintro e w' ⟨rfl, hb⟩
  exact ⟨rfl, hW.trans (hb.mono hW.size)⟩

theorem grow_below (w : World) (k : Nat) (os : Array Obj) : Below w.heap.size w (Go.Sort.grow (w.drewN k) os) :=
  ⟨rfl, rfl, rfl, by show w.heap.size ≤ (w.heap ++ os).size; simp, fun j hj => by show (w.heap ++ os)[j]? = _; rw [Array.getElem?_append_left hj]⟩

theorem itoa_at {n : Int} (h0 : -9223372036854775808 ≤ n) (h1 : n ≤ 9223372036854775807) {w : World} (hG : Good w) : ∀ W, Below w.heap.size w W → Calls Tryd.prog 29 #[.int .i64 n] W (Out w.heap.size w (.string (bs (itoa n)))) := by
  intro W hW
  refine (Tryd.strconv_Itoa n h0 h1 W (hG.below hW).tab).mono ?_
  rintro e w' ⟨rfl, k, os, rfl⟩
  exact ⟨rfl, hW.trans ((grow_below W k os).mono hW.size)⟩

theorem atoi_ok (l : List UInt8) (hl : l.length ≤ 100000) {v : Int} (h : atoiAll l = .ok v) (w : World) : ∀ W, Below w.heap.size w W → Calls Tryd.prog 28 #[.string (bs l)] W (Out w.heap.size w (.tuple #[.int .i64 v, .nilIface])) := by
  intro W hW
  refine (Tryd.strconv_Atoi_ok (bs l) (by rw [size_list, bs_list]; omega) v h W).mono ?_
  rintro e w' ⟨rfl, hw⟩
  refine ⟨rfl, hW.trans ?_⟩
  rcases hw with rfl | ⟨t, rfl⟩
  · exact (Below.refl _ _).mono hW.size
  · exact (Go.Lib.bytesWorld_below W 5 t).mono hW.size

theorem third {x : Go.Lib.NumEnd Int} (h1 : ∀ v, x ≠ .ok v) (h2 : x ≠ .range) : x = atoiAll [] := by
  cases x with
  | ok v => exact absurd rfl (h1 v)
  | range => exact absurd rfl h2
  | _ => rfl

theorem atoi_no (l : List UInt8) (hl : l.length ≤ 100000) (h : ∀ v, atoiAll l ≠ .ok v) {w : World} (hG : Good w) : ∀ W, Below w.heap.size w W →
    Calls Tryd.prog 28 #[.string (bs l)] W fun e w' => ∃ n t p, e = .returned (.tuple #[.int .i64 n, .iface t p]) ∧ Below w.heap.size w w' := by
  intro W hW
  have hz : (bs l).size ≤ 281474976710656 := by rw [size_list, bs_list]; omega
  by_cases h2 : atoiAll l = .range
  · obtain ⟨a, b, hab⟩ := (hG.below hW).er
    refine (Tryd.strconv_Atoi_range (bs l) hz h2 _ W hab (.inr ⟨a, b, rfl⟩)).mono ?_
    rintro e w' ⟨N, rfl, _, _, hb⟩
    exact ⟨_, _, _, rfl, hW.trans (hb.mono hW.size)⟩
  · obtain ⟨a, b, hab⟩ := (hG.below hW).es
    refine (Tryd.strconv_Atoi_syntax (bs l) hz (third h h2) _ W hab (.inr ⟨a, b, rfl⟩)).mono ?_
    rintro e w' ⟨N, rfl, _, _, hb⟩
    exact ⟨_, _, _, rfl, hW.trans (hb.mono hW.size)⟩

theorem Tryd.sep0 (w : World) : (Instr.index 57 (.agg #[.string ⟨#[46]⟩, .string ⟨#[114, 99]⟩, .string ⟨#[98, 101, 116, 97]⟩]) (.int .i64 0)).run Tryd.prog w = .ok (.string ⟨#[46]⟩) w := by kernel_rfl
theorem Tryd.sep1 (w : World) : (Instr.index 57 (.agg #[.string ⟨#[46]⟩, .string ⟨#[114, 99]⟩, .string ⟨#[98, 101, 116, 97]⟩]) (.int .i64 1)).run Tryd.prog w = .ok (.string ⟨#[114, 99]⟩) w := by kernel_rfl
theorem Tryd.sep2 (w : World) : (Instr.index 57 (.agg #[.string ⟨#[46]⟩, .string ⟨#[114, 99]⟩, .string ⟨#[98, 101, 116, 97]⟩]) (.int .i64 2)).run Tryd.prog w = .ok (.string ⟨#[98, 101, 116, 97]⟩) w := by kernel_rfl

theorem cut_len {l sep : List UInt8} {a b : List UInt8} {t : Bool} (h : Lib.cut l sep = (a, b, t)) : a.length ≤ l.length ∧ b.length ≤ l.length := by
  unfold Lib.cut at h
  split at h
  · cases h
    simp only [List.length_take, List.length_drop]
    omega
  · cases h
    simp

theorem cutAt_len {rest : List UInt8} : ∀ {ss : List (List UInt8)} {d : List UInt8}, cutAt rest ss = some d → d.length ≤ rest.length
  | [], d, h => by cases h; exact Nat.le_refl _
  | sep :: more, d, h => by
    unfold cutAt at h
    split at h
    · split at h
      · cases h; exact (cut_len rfl).1
      · cases h
    · exact cutAt_len h

theorem minorP_bind (D : Option (List UInt8)) (l : List UInt8) (h : Lib.hasPrefix l [49, 46] = true) (hD : cutAt (Lib.trimPrefix l [49, 46]) seps = D) : minorP l = match D.bind minorOf with | some n => ((n : Int), 0) | none => (0, 6) := by
  unfold minorP minor?
  rw [if_pos h, hD]
  rfl

theorem trim_len (l p : List UInt8) : (Lib.trimPrefix l p).length ≤ l.length := by
  unfold Lib.trimPrefix
  split <;> simp

theorem Minor_no (s : ByteArray) (h : Lib.hasPrefix s.data.toList [49, 46] = false) (w : World) : Calls Tryd.prog 14 #[.string s] w (Out w.heap.size w (.tuple #[.int .i64 0, .int .i64 6])) := by
  have HC := Lib.hid (Tryd.strings_CutPrefix s ⟨#[49, 46]⟩ w)
  have hk : Lib.hasPrefix s.data.toList (ByteArray.mk #[49, 46]).data.toList = false := h
  rw [hk] at HC
  clear h hk
  go_enter Tryd.func14, Tryd.ntmps14
  go_wp2_with fail
  refine HC.out.mono ?_
  rintro e w1 ⟨rfl, rfl⟩
  go_wp2_with fail
  exact bodyPost_ret (v := .tuple #[.int .i64 0, .int .i64 6]) (by simp [results, Tryd.results14, go_sem]) rfl ⟨rfl, Below.refl _ _⟩

set_option maxRecDepth 100000 in
set_option maxHeartbeats 4000000 in
theorem Minor_yes (s : ByteArray) (hs : s.size ≤ 100000) (h : Lib.hasPrefix s.data.toList [49, 46] = true) (w : World) (hG : Good w) (r1 r2 : Int) (hr : minorP s.data.toList = (r1, r2)) : Calls Tryd.prog 14 #[.string s] w (Out w.heap.size w (.tuple #[.int .i64 r1, .int .i64 r2])) := by
  have HC := Tryd.strings_CutPrefix s ⟨#[49, 46]⟩ w
  have hk : Lib.hasPrefix s.data.toList (ByteArray.mk #[49, 46]).data.toList = true := h
  rw [hk] at HC
  obtain ⟨rl, hrl0⟩ : ∃ rl, Lib.trimPrefix s.data.toList [49, 46] = rl := ⟨_, rfl⟩
  have hk2 : Lib.trimPrefix s.data.toList (ByteArray.mk #[49, 46]).data.toList = rl := hrl0
  rw [hk2] at HC
  have HC' : Calls Tryd.prog 26 #[.string s, .string ⟨#[49, 46]⟩] w fun e w' => e = .returned (.tuple #[.string (bs rl), .bool true]) ∧ w' = w := HC
  have HCP := Lib.hid HC'
  have hrl : rl.length ≤ 100000 := by
    rw [← hrl0]
    have := trim_len s.data.toList [49, 46]
    rw [size_list] at hs
    omega
  obtain ⟨D, hD0⟩ : ∃ D, cutAt rl seps = D := ⟨_, rfl⟩
  have hres := minorP_bind D s.data.toList h (by rw [hrl0]; exact hD0)
  rw [hr] at hres
  have HR := Lib.hid hres.symm
  have hlen : ∀ d, D = some d → d.length ≤ 100000 := fun d e => by
    have := cutAt_len (hD0.trans e)
    omega
  have HL := Lib.hid hlen
  have HD0 := Lib.hid hD0
  clear HC HC' hk hk2 h hrl0 hr hres hlen hD0 hs
  go_enter Tryd.func14, Tryd.ntmps14
  go_wp2_with fail
  refine HCP.out.mono ?_
  rintro e w1 ⟨rfl, rfl⟩
  go_upto_block 0 with fail
  go_cut [6] (fun v wc => ∃ d, D = some d ∧ v = .string (bs d) ∧ Below w1.heap.size w1 wc)
  case first =>
    go_wp2_with fail
    go_loopg [6, 23] 3 (fun gk dg v wr => ∃ k : Nat, k ≤ 3 ∧ gk = 3 - k ∧ dg = .string (bs rl) ∧ v = .int .i64 k ∧ cutAt rl (seps.drop k) = D ∧ Below w1.heap.size w1 wr)
    case atStart => exact ⟨0, by decide, rfl, rfl, rfl, HD0.out, Below.refl _ _⟩
    case round =>
      obtain ⟨k, hk, rfl, rfl, rfl, hD, hb⟩ := hrel
      obtain rfl | rfl | rfl | rfl : k = 0 ∨ k = 1 ∨ k = 2 ∨ k = 3 := by omega
      · -- the sign of place 0
        obtain ⟨⟨ah, be, th⟩, hr⟩ : ∃ r, Lib.cut rl [46] = r := ⟨_, rfl⟩
        have KC := Lib.hid (cut_at rl [46] hrl hr hG)
        have hDk : D = if th = true then (if allB figN be = true then some ah else none) else cutAt rl (seps.drop 1) := by
          rw [← hD]
          show (if (Lib.cut rl [46]).2.2 = true then _ else _) = _
          rw [hr]
          rfl
        obtain ⟨f, hf⟩ : ∃ f, allB figN be = f := ⟨_, rfl⟩
        have KF := Lib.hid (fig_at be hf w1)
        rw [hf] at hDk
        have HD := Lib.hid hDk
        have hix := Tryd.sep0 wr
        clear hD hDk hr hf
        go_wp2_with fail
        refine (KC.out _ hb).mono ?_
        rintro e w3 ⟨rfl, hb3⟩
        cases th
        · go_wp2_with fail
          go_roundg 2
          case measure => omega
          case rel => exact ⟨1, by decide, rfl, rfl, rfl, by rw [HD.out]; rfl, hb3⟩
        · cases f
          · obtain ⟨rfl, rfl⟩ : 0 = r1 ∧ 6 = r2 := by
              have := HR.out
              rw [HD.out] at this
              simpa using this
            go_wp2_with fail
            refine (KF.out _ hb3).mono ?_
            rintro e w4 ⟨rfl, hb4⟩
            go_wp2_with fail
            exact bodyPost_ret (v := .tuple #[.int .i64 0, .int .i64 6]) (by simp [results, Tryd.results14, go_sem]) rfl ⟨rfl, hb4⟩
          · go_wp2_with fail
            refine (KF.out _ hb3).mono ?_
            rintro e w4 ⟨rfl, hb4⟩
            go_wp2_with fail
            go_meet
            exact ⟨ah, by rw [HD.out]; rfl, rfl, hb4⟩
      · -- the sign of place 1
        obtain ⟨⟨ah, be, th⟩, hr⟩ : ∃ r, Lib.cut rl [114, 99] = r := ⟨_, rfl⟩
        have KC := Lib.hid (cut_at rl [114, 99] hrl hr hG)
        have hDk : D = if th = true then (if allB figN be = true then some ah else none) else cutAt rl (seps.drop 2) := by
          rw [← hD]
          show (if (Lib.cut rl [114, 99]).2.2 = true then _ else _) = _
          rw [hr]
          rfl
        obtain ⟨f, hf⟩ : ∃ f, allB figN be = f := ⟨_, rfl⟩
        have KF := Lib.hid (fig_at be hf w1)
        rw [hf] at hDk
        have HD := Lib.hid hDk
        have hix := Tryd.sep1 wr
        clear hD hDk hr hf
        go_wp2_with fail
        refine (KC.out _ hb).mono ?_
        rintro e w3 ⟨rfl, hb3⟩
        cases th
        · go_wp2_with fail
          go_roundg 1
          case measure => omega
          case rel => exact ⟨2, by decide, rfl, rfl, rfl, by rw [HD.out]; rfl, hb3⟩
        · cases f
          · obtain ⟨rfl, rfl⟩ : 0 = r1 ∧ 6 = r2 := by
              have := HR.out
              rw [HD.out] at this
              simpa using this
            go_wp2_with fail
            refine (KF.out _ hb3).mono ?_
            rintro e w4 ⟨rfl, hb4⟩
            go_wp2_with fail
            exact bodyPost_ret (v := .tuple #[.int .i64 0, .int .i64 6]) (by simp [results, Tryd.results14, go_sem]) rfl ⟨rfl, hb4⟩
          · go_wp2_with fail
            refine (KF.out _ hb3).mono ?_
            rintro e w4 ⟨rfl, hb4⟩
            go_wp2_with fail
            go_meet
            exact ⟨ah, by rw [HD.out]; rfl, rfl, hb4⟩
      · -- the sign of place 2
        obtain ⟨⟨ah, be, th⟩, hr⟩ : ∃ r, Lib.cut rl [98, 101, 116, 97] = r := ⟨_, rfl⟩
        have KC := Lib.hid (cut_at rl [98, 101, 116, 97] hrl hr hG)
        have hDk : D = if th = true then (if allB figN be = true then some ah else none) else cutAt rl (seps.drop 3) := by
          rw [← hD]
          show (if (Lib.cut rl [98, 101, 116, 97]).2.2 = true then _ else _) = _
          rw [hr]
          rfl
        obtain ⟨f, hf⟩ : ∃ f, allB figN be = f := ⟨_, rfl⟩
        have KF := Lib.hid (fig_at be hf w1)
        rw [hf] at hDk
        have HD := Lib.hid hDk
        have hix := Tryd.sep2 wr
        clear hD hDk hr hf
        go_wp2_with fail
        refine (KC.out _ hb).mono ?_
        rintro e w3 ⟨rfl, hb3⟩
        cases th
        · go_wp2_with fail
          go_roundg 0
          case measure => omega
          case rel => exact ⟨3, by decide, rfl, rfl, rfl, by rw [HD.out]; rfl, hb3⟩
        · cases f
          · obtain ⟨rfl, rfl⟩ : 0 = r1 ∧ 6 = r2 := by
              have := HR.out
              rw [HD.out] at this
              simpa using this
            go_wp2_with fail
            refine (KF.out _ hb3).mono ?_
            rintro e w4 ⟨rfl, hb4⟩
            go_wp2_with fail
            exact bodyPost_ret (v := .tuple #[.int .i64 0, .int .i64 6]) (by simp [results, Tryd.results14, go_sem]) rfl ⟨rfl, hb4⟩
          · go_wp2_with fail
            refine (KF.out _ hb3).mono ?_
            rintro e w4 ⟨rfl, hb4⟩
            go_wp2_with fail
            go_meet
            exact ⟨ah, by rw [HD.out]; rfl, rfl, hb4⟩
      · go_wp2_with fail
        go_meet
        exact ⟨rl, hD.symm, rfl, hb⟩
  case rest =>
    obtain ⟨d, hd, rfl, hb⟩ := hcut
    have hdl := HL.out d hd
    have hres := HR.out
    rw [hd, Option.bind_some] at hres
    clear hd
    cases hA : atoiAll d with
    | ok v =>
      have hb0 := Go.Lib.atoiAll_bounds hA
      have KA := Lib.hid (atoi_ok d hdl hA w1)
      have KI := Lib.hid (itoa_at hb0.1 hb0.2 hG)
      obtain ⟨i, hi⟩ : ∃ i, ((bs (itoa v)).toList == (bs d).toList) = i := ⟨_, rfl⟩
      have hm : minorOf d = if i = true ∧ 0 ≤ v ∧ v ≤ 99 then some v.toNat else none := by
        unfold minorOf; rw [hA]
        have e : (i = true) ↔ itoa v = d := by rw [← hi, ByteArray.toList_eq, ByteArray.toList_eq, bs_list, bs_list, beq_iff_eq]
        by_cases h1 : itoa v = d
        · simp only [h1, true_and, e.2 h1]
        · have : i = false := Bool.eq_false_iff.2 fun h => h1 (e.1 h)
          simp only [h1, false_and, this, Bool.false_eq_true, if_false]
      rw [hm] at hres
      clear hm hA
      cases i
      · obtain ⟨rfl, rfl⟩ : 0 = r1 ∧ 6 = r2 := by simpa using hres
        clear hres
        go_wp2_with fail
        refine (KA.out _ hb).mono ?_
        rintro e w5 ⟨rfl, hb5⟩
        go_wp2_with fail
        refine (KI.out _ hb5).mono ?_
        rintro e w6 ⟨rfl, hb6⟩
        go_wp2_with fail
        exact bodyPost_ret (v := .tuple #[.int .i64 0, .int .i64 6]) (by simp [results, Tryd.results14, go_sem]) rfl ⟨rfl, hb6⟩
      · by_cases h0 : v < 0
        · obtain ⟨rfl, rfl⟩ : 0 = r1 ∧ 6 = r2 := by
            rw [if_neg (by omega)] at hres; simpa using hres
          clear hres
          go_wp2_with fail
          refine (KA.out _ hb).mono ?_
          rintro e w5 ⟨rfl, hb5⟩
          go_wp2_with fail
          refine (KI.out _ hb5).mono ?_
          rintro e w6 ⟨rfl, hb6⟩
          go_wp2_with fail
          exact bodyPost_ret (v := .tuple #[.int .i64 0, .int .i64 6]) (by simp [results, Tryd.results14, go_sem]) rfl ⟨rfl, hb6⟩
        · by_cases h9 : v > 99
          · obtain ⟨rfl, rfl⟩ : 0 = r1 ∧ 6 = r2 := by
              rw [if_neg (by omega)] at hres; simpa using hres
            clear hres
            go_wp2_with fail
            refine (KA.out _ hb).mono ?_
            rintro e w5 ⟨rfl, hb5⟩
            go_wp2_with fail
            refine (KI.out _ hb5).mono ?_
            rintro e w6 ⟨rfl, hb6⟩
            go_wp2_with fail
            exact bodyPost_ret (v := .tuple #[.int .i64 0, .int .i64 6]) (by simp [results, Tryd.results14, go_sem]) rfl ⟨rfl, hb6⟩
          · obtain ⟨rfl, rfl⟩ : r1 = v ∧ r2 = 0 := by
              rw [if_pos (by simp; omega)] at hres
              simp only [Prod.mk.injEq] at hres
              omega
            clear hres
            go_wp2_with fail
            refine (KA.out _ hb).mono ?_
            rintro e w5 ⟨rfl, hb5⟩
            go_wp2_with fail
            refine (KI.out _ hb5).mono ?_
            rintro e w6 ⟨rfl, hb6⟩
            go_wp2_with fail
            exact bodyPost_ret (v := .tuple #[.int .i64 r1, .int .i64 0]) (by simp [results, Tryd.results14, go_sem]) rfl ⟨rfl, hb6⟩
    | _ =>
      have hno : ∀ v, atoiAll d ≠ .ok v := fun v => by rw [hA]; exact fun e => by cases e
      have KA := Lib.hid (atoi_no d hdl hno hG)
      have hm : minorOf d = none := by unfold minorOf; rw [hA]
      rw [hm] at hres
      obtain ⟨rfl, rfl⟩ : 0 = r1 ∧ 6 = r2 := by simpa using hres
      clear hres hm hA hno
      go_wp2_with fail
      refine (KA.out _ hb).mono ?_
      rintro e w5 ⟨n5, t5, p5, rfl, hb5⟩
      go_wp2_with fail
      exact bodyPost_ret (v := .tuple #[.int .i64 0, .int .i64 6]) (by simp [results, Tryd.results14, go_sem]) rfl ⟨rfl, hb5⟩

theorem Minor_any (s : ByteArray) (hs : s.size ≤ 100000) {w : World} (hG : Good w) : ∀ W, Below w.heap.size w W → Calls Tryd.prog 14 #[.string s] W (Out w.heap.size w (.tuple #[.int .i64 (minorP s.data.toList).1, .int .i64 (minorP s.data.toList).2])) := by
  intro W hW
  have key : Calls Tryd.prog 14 #[.string s] W (Out W.heap.size W (.tuple #[.int .i64 (minorP s.data.toList).1, .int .i64 (minorP s.data.toList).2])) := by
    cases h : Lib.hasPrefix s.data.toList [49, 46] with
    | true => exact Minor_yes s hs h W (hG.below hW) _ _ rfl
    | false =>
      have e : minorP s.data.toList = (0, 6) := by unfold minorP minor?; rw [h]; rfl
      rw [e]
      exact Minor_no s h W
  refine key.mono ?_
  rintro e w' ⟨rfl, hb⟩
  exact ⟨rfl, hW.trans (hb.mono hW.size)⟩

end Go.Proofs.YtiigjmageeinpaaDoor
