/- Walk of VerChains: a line toolchain more. -/
import Derived.Test.YtiigjmageeinpaaDoorVp
namespace Go.Proofs.YtiigjmageeinpaaDoor
open Go.RowKit Go.Shelf

theorem byt_text (W : World) {s : ByteArray} {l : List UInt8} (h : s = bs l) (c : Nat) {b : Nat} (hb : b = W.heap.size) : Byt (Lib.bytesWorld W 5 s) (.slice (some ⟨b, 0, none⟩) s.size c) l := by
  subst h hb
  exact byt_conv W l c

set_option maxRecDepth 100000 in
set_option maxHeartbeats 2000000 in
theorem VerChains_walk (l : List UInt8) (v : Value) (n : Int) (n0 : 0 ≤ n) (n1 : n ≤ 255) (w : World) (hG : Good w) (hb : Byt w v l) : Calls Tryd.prog 6 #[v, .int .u8 n] w (Yes w) := by
  obtain ⟨a, c, rfl⟩ := hb.len
  by_cases hl : (500 : Int) < (l.length : Int)
  · go_enter Tryd.func6, Tryd.ntmps6
    go_wp2_with fail
    go_ret
    exact ⟨rfl, Below.refl _ _⟩
  · have hl' : l.length ≤ 500 := by omega
    obtain ⟨⟨p, mi, e⟩, hr⟩ : ∃ r, readP l = r := ⟨_, rfl⟩
    have K1 := Lib.hid (fun v W (hb : Below w.heap.size w W) => Read_bs l v (hG.below hb) hr W (Below.refl _ _))
    have K2 := Lib.hid (fun v W (hb : Below w.heap.size w W) => Read_bs (chained l (n % 10).toNat) v (hG.below hb) ((readP_chained l _ hl' (by omega)).trans hr) W (Below.refl _ _))
    have K3 := Lib.hid (fun v W (hb : Below w.heap.size w W) => Read_bs (chainAlone l) v (hG.below hb) (readP_alone l hl') W (Below.refl _ _))
    have KA := Lib.hid (awake_any hG)
    have HB := Lib.hid hb
    clear hr
    go_enter Tryd.func6, Tryd.ntmps6
    go_wp2_with fail
    refine (K1.out _ _ (Below.refl _ _) HB.out).mono ?_
    rintro e w1 ⟨rfl, hb1⟩
    have kc := (HB.out.below hb1).conv
    have hk : ((UInt8.ofNat (48 + (n % 10).toNat)).toNat : Int) = 48 + n % 10 := by
      rw [UInt8.toNat_ofNat']
      omega
    have kd := (byt_new (w1.alloc (.cells #[.string (bs p), .int .i64 mi] 24)) [UInt8.ofNat (48 + (n % 10).toNat)] 1 (0, 0)).conv
    simp only [List.map_cons, List.map_nil, hk, List.length_cons, List.length_nil, Nat.zero_add, World.size_alloc] at kd
    have hch : chained l (n % 10).toNat = l ++ [10] ++ kChain ++ [32, 103, 111, 49, 46] ++ [UInt8.ofNat (48 + (n % 10).toNat)] := rfl
    obtain ⟨d, hd⟩ : ∃ d, UInt8.ofNat (48 + (n % 10).toNat) = d := ⟨_, rfl⟩
    rw [hd] at kd hch
    have hw2 := ((hb1.alloc hb1.size (.cells #[.string (bs p), .int .i64 mi] 24))).alloc (by have := hb1.size; simp only [World.size_alloc]; omega) (.cells #[.int .u8 (48 + n % 10)] 5)
    have kc2 := (HB.out.below hw2).conv
    obtain ⟨wd, hwd⟩ : ∃ wd, (⟨#[103, 111, 49, 46]⟩ : ByteArray) ++ bs [d] = wd := ⟨_, rfl⟩
    obtain ⟨tx, htx⟩ : ∃ tx, bs l ++ ⟨#[10, 116, 111, 111, 108, 99, 104, 97, 105, 110, 32]⟩ ++ wd = tx := ⟨_, rfl⟩
    obtain ⟨ty, hty⟩ : ∃ ty, bs l ++ ⟨#[10, 116, 111, 111, 108, 99, 104, 97, 105, 110]⟩ = ty := ⟨_, rfl⟩
    have zw : wd.size = 5 := by rw [← hwd]; rfl
    have etx : tx = bs (chained l (n % 10).toNat) := by
      rw [← htx, ← hwd]
      show bs l ++ bs [10, 116, 111, 111, 108, 99, 104, 97, 105, 110, 32] ++ (bs [103, 111, 49, 46] ++ bs _) = _
      rw [bs_append, bs_append, bs_append]
      congr 1
      rw [hch]
      simp [kChain]
    have ety : ty = bs (chainAlone l) := by
      rw [← hty]
      show bs l ++ bs [10, 116, 111, 111, 108, 99, 104, 97, 105, 110] = _
      rw [bs_append]
      congr 1
      simp [chainAlone, kChain]
    have zl : (bs l).size = l.length := by rw [size_list, bs_list]
    have z1 : ¬ (9223372036854775807 < (bs l).size + 11) := by omega
    have z2 : ¬ (9223372036854775807 < (bs l).size + 11 + wd.size) := by omega
    have z3 : ¬ (9223372036854775807 < (bs l).size + 10) := by omega
    have EX := Lib.hid etx
    have EY := Lib.hid ety
    have HW2 := Lib.hid hw2
    clear hk zl etx ety hch hd hw2 kc
    have ks := fun (W : World) (s : ByteArray) => Lib.run_convert_string_bytes (P := Tryd.prog) W 9 22 5 s Tryd.underlying9 Tryd.underlying22 Tryd.underlying5
    go_wp2_with fail
    have hb2 := HW2.out.trans ((Lib.bytesWorld_below _ 5 tx).mono HW2.out.size)
    refine (K2.out _ _ hb2 (byt_text _ EX.out _ (by simp only [World.size_alloc]))).mono ?_
    rintro e3 w3 ⟨rfl, hb3⟩
    have c0 : (Lib.bytesWorld ((w1.alloc (.cells #[.string (bs p), .int .i64 mi] 24)).alloc (.cells #[.int .u8 (48 + n % 10)] 5)) 5 tx).cell? ⟨w1.heap.size, 0, none⟩ = some (.string (bs p)) := keeps_cell (Lib.bytesWorld_below _ 5 tx) (by simp [go_sem])
    have c1 : (Lib.bytesWorld ((w1.alloc (.cells #[.string (bs p), .int .i64 mi] 24)).alloc (.cells #[.int .u8 (48 + n % 10)] 5)) 5 tx).cell? ⟨w1.heap.size, 1, none⟩ = some (.int .i64 mi) := keeps_cell (Lib.bytesWorld_below _ 5 tx) (by simp [go_sem])
    have hb3' := hb2.trans (hb3.mono hb2.size)
    have C3 := Lib.hid (And.intro (keeps_cell hb3 c0) (keeps_cell hb3 c1))
    have hw4 := hb3'.alloc hb3'.size (.cells #[.string (bs p), .int .i64 mi] 24)
    have kc4 := (HB.out.below hw4).conv
    have HW4 := Lib.hid hw4
    clear c0 c1 kc2 kd hb2 hw4
    go_wp2_with fail
    have hb4 := HW4.out.trans ((Lib.bytesWorld_below _ 5 ty).mono HW4.out.size)
    refine (K3.out _ _ hb4 (byt_text _ EY.out _ (by simp only [World.size_alloc]))).mono ?_
    rintro e5 w5 ⟨rfl, hb5⟩
    have hb5' := hb4.trans (hb5.mono hb4.size)
    have ha4 : Below w3.heap.size w3 (w3.alloc (.cells #[.string (bs p), .int .i64 mi] 24)) := (Below.refl _ w3).alloc (Nat.le_refl _) _
    have hs4 : Below w3.heap.size w3 (Lib.bytesWorld (w3.alloc (.cells #[.string (bs p), .int .i64 mi] 24)) 5 ty) := ha4.trans ((Lib.bytesWorld_below _ 5 ty).mono ha4.size)
    have x0 : (w3.alloc (.cells #[.string (bs p), .int .i64 mi] 24)).cell? ⟨w3.heap.size, 0, none⟩ = some (.string (bs p)) := by simp [go_sem]
    have x1 : (w3.alloc (.cells #[.string (bs p), .int .i64 mi] 24)).cell? ⟨w3.heap.size, 1, none⟩ = some (.int .i64 mi) := by simp [go_sem]
    have y0 := keeps_cell hb5 (keeps_cell (Lib.bytesWorld_below _ 5 ty) x0)
    have y1 := keeps_cell hb5 (keeps_cell (Lib.bytesWorld_below _ 5 ty) x1)
    have d0 := keeps_cell hb5 (keeps_cell hs4 C3.out.1)
    have d1 := keeps_cell hb5 (keeps_cell hs4 C3.out.2)
    have hw6 := hb5'.alloc hb5'.size (.cells #[.string (bs []), .int .i64 0] 24)
    have ha6 : Below w5.heap.size w5 (w5.alloc (.cells #[.string (bs []), .int .i64 0] 24)) := (Below.refl _ w5).alloc (Nat.le_refl _) _
    have z0 : (w5.alloc (.cells #[.string (bs []), .int .i64 0] 24)).cell? ⟨w5.heap.size, 0, none⟩ = some (.string (bs [])) := by simp [go_sem]
    have z1' : (w5.alloc (.cells #[.string (bs []), .int .i64 0] 24)).cell? ⟨w5.heap.size, 1, none⟩ = some (.int .i64 0) := by simp [go_sem]
    have y0' := keeps_cell ha6 y0
    have y1' := keeps_cell ha6 y1
    have d0' := keeps_cell ha6 d0
    have d1' := keeps_cell ha6 d1
    have hbe : (bs []).toList = [] := by rw [ByteArray.toList_eq, bs_list]
    have HW6 := Lib.hid hw6
    clear x0 x1 y0 y1 d0 d1 kc4 hb4 hb5' ha4 hs4 hw6 ha6
    go_wp2_with fail
    refine (KA.out _ HW6.out).mono ?_
    rintro e6 w6 ⟨rfl, hb6⟩
    go_wp2_with fail
    go_ret
    exact ⟨rfl, hb6⟩

end Go.Proofs.YtiigjmageeinpaaDoor
