/- Walks: Text, awake. -/
import Derived.Test.YtiigjmageeinpaaDoorVh
import Derived.Lib.SlBytesConst
namespace Go.Proofs.YtiigjmageeinpaaDoor
open Go.RowKit Go.Shelf
open Go.Lib (itoa)

def goMod : List UInt8 := [109, 111, 100, 117, 108, 101, 32, 97, 47, 98, 10, 103, 111, 32, 49, 46, 50, 50, 46, 49, 32, 47, 47, 32, 120]
theorem aw1 : minorP [49, 46, 50, 49, 114, 99, 50] = (21, 0) := by decide +kernel
theorem aw2 : minorP [49, 46, 48, 50, 49] = (0, 6) := by decide +kernel
theorem aw3 : readP goMod = ([97, 47, 98], 22, 0) := by decide +kernel

theorem bs_append (a b : List UInt8) : bs a ++ bs b = bs (a ++ b) := by
  apply ByteArray.ext
  rw [ByteArray.data_append]
  simp [bs]

theorem byt_new (W : World) (l : List UInt8) (c : Nat) (fr : Nat × Nat) : Byt (W.alloc (.cells (l.map fun x => Value.int .u8 (x.toNat : Int)).toArray 5 fr)) (.slice (some ⟨W.heap.size, 0, none⟩) l.length c) l := by
  refine Byt.mk' fun i hi => ?_
  have := World.alloc_heap_new W (.cells (l.map fun x => Value.int .u8 (x.toNat : Int)).toArray 5 fr)
  unfold World.cell?
  rw [this]
  simp [List.getElem?_eq_getElem hi]

/-- ver.Text. -/
def textP (n : Int) : List UInt8 := if n < 0 ∨ 99 < n then [] else [49, 46] ++ itoa n

theorem Minor_bs (l : List UInt8) (hl : l.length ≤ 100000) {w : World} (hG : Good w) {r : Int × Int} (hr : minorP l = r) : ∀ W, Below w.heap.size w W → Calls Tryd.prog 14 #[.string (bs l)] W (Out w.heap.size w (.tuple #[.int .i64 r.1, .int .i64 r.2])) := by
  subst hr
  exact Minor_any (bs l) (by rw [size_list, bs_list]; exact hl) hG
theorem Path_bs (l : List UInt8) (hl : l.length ≤ 100000) {w : World} {r : Bool} (hr : pathB l = r) : ∀ W, Below w.heap.size w W → Calls Tryd.prog 13 #[.string (bs l)] W (Out w.heap.size w (.bool r)) := by
  subst hr
  intro W hW
  refine (Path_walk l hl W).mono ?_
  rintro e w' ⟨rfl, hb⟩
  exact ⟨rfl, hW.trans (hb.mono hW.size)⟩
theorem Read_bs (l : List UInt8) (v : Value) {w : World} (hG : Good w) {p : List UInt8} {mi e : Int} (hr : readP l = (p, mi, e)) : ∀ W, Below w.heap.size w W → Byt W v l → Calls Tryd.prog 10 #[v] W (Out w.heap.size w (.tuple #[.agg #[.string (bs p), .int .i64 mi], .int .i64 e])) := by
  intro W hW hb
  have := Read_any l v W (hG.below hW) hb
  rw [hr] at this
  refine this.mono ?_
  rintro e w' ⟨rfl, hb⟩
  exact ⟨rfl, hW.trans (hb.mono hW.size)⟩

theorem itoa_two : ∀ k : Nat, k < 100 → (itoa (k : Int)).length ≤ 2 := by decide +kernel

theorem Text_any {n : Int} (h0 : -9223372036854775808 ≤ n) (h1 : n ≤ 9223372036854775807) {w : World} (hG : Good w) {r : List UInt8} (hr : textP n = r) : ∀ W, Below w.heap.size w W → Calls Tryd.prog 17 #[.int .i64 n] W (Out w.heap.size w (.string (bs r))) := by
  subst hr
  intro W hW
  have KI := Lib.hid (itoa_at h0 h1 hG)
  unfold textP
  by_cases hlo : n < 0
  · rw [if_pos (.inl hlo)]
    go_enter Tryd.func17, Tryd.ntmps17
    go_wp2_with fail
    go_ret
    exact ⟨rfl, hW⟩
  · by_cases hhi : 99 < n
    · rw [if_pos (.inr hhi)]
      go_enter Tryd.func17, Tryd.ntmps17
      go_wp2_with fail
      go_ret
      exact ⟨rfl, hW⟩
    · rw [if_neg (by omega)]
      have hs : ¬ (9223372036854775807 < 2 + (bs (itoa n)).size) := by
        have := itoa_two n.toNat (by omega)
        rw [Int.toNat_of_nonneg (by omega)] at this
        rw [size_list, bs_list]; omega
      go_enter Tryd.func17, Tryd.ntmps17
      go_wp2_with fail
      refine (KI.out _ hW).mono ?_
      rintro e w3 ⟨rfl, hb⟩
      go_wp2_with fail
      go_ret
      exact ⟨congrArg (fun s => Ending.returned (Value.string s)) (bs_append [49, 46] (itoa n)), hb⟩

set_option maxRecDepth 100000 in
set_option maxHeartbeats 2000000 in
theorem awake_any {w : World} (hG : Good w) : ∀ W, Below w.heap.size w W → Calls Tryd.prog 12 #[] W (Out w.heap.size w (.bool true)) := by
  intro W0 hW0
  have K1 := Lib.hid (Minor_bs [49, 46, 50, 49, 114, 99, 50] (by decide) hG aw1)
  have K2 := Lib.hid (Minor_bs [49, 46, 48, 50, 49] (by decide) hG aw2)
  have K3 := Lib.hid (fun v => Read_bs goMod v hG aw3)
  have e1 : (⟨#[49, 46, 50, 49, 114, 99, 50]⟩ : ByteArray) = bs [49, 46, 50, 49, 114, 99, 50] := rfl
  have e2 : (⟨#[49, 46, 48, 50, 49]⟩ : ByteArray) = bs [49, 46, 48, 50, 49] := rfl
  have kc := fun (w : World) (C : Array Value) (n c : Nat) => Lib.run_convert_bytes_const (P := Tryd.prog) w 22 5 C n c Tryd.underlying22 Tryd.underlying5
  go_enter Tryd.func12, Tryd.ntmps12
  rw [e1, e2]
  clear e1 e2
  have ht : (bs [97, 47, 98]).toList = [97, 47, 98] := by rw [ByteArray.toList_eq, bs_list]
  go_wp2_with fail
  refine (K1.out _ hW0).mono ?_
  rintro e w1 ⟨rfl, hb1⟩
  go_wp2_with fail
  refine (K2.out _ hb1).mono ?_
  rintro e w2 ⟨rfl, hb2⟩
  go_wp2_with fail
  refine (K3.out _ _ (hb2.trans (((Below.refl _ w2).alloc (Nat.le_refl _) _).mono hb2.size)) (byt_new w2 goMod 25 (25, 26))).mono ?_
  rintro e w3 ⟨rfl, hb3⟩
  go_wp2_with fail
  refine bodyPost_ret (v := .bool true) (by simp [results, Tryd.results12, go_sem]) rfl ⟨rfl, hb3.alloc hb3.size _⟩

end Go.Proofs.YtiigjmageeinpaaDoor
