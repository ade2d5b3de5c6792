/- The shelf's contracts for the builder's WriteByte and WriteString at this dump: the laying of Repeat bears their closures. -/
import Derived.Test.YtjfmefdhfboliaaDoorShelf
namespace Go.Proofs
open Go.RowKit Go.Lib Go.Shelf

def Tryd.ren167 : Go.Shelf.Ren := { Tryd.lays105_ren with f := fun n => if n = 167 then 63 else Tryd.lays105_ren.f n }

theorem Tryd.l166 : Lays.n166 Tryd.prog Tryd.lays105_ren where
  mixed := Tryd.lays105.mixed
  f166 := Tryd.lays105.f166
  f240 := Tryd.lays105.f240
  f276 := Tryd.lays105.f276
  t0 := Tryd.lays105.t0
  a0 := Tryd.lays105.a0
  z0 := Tryd.lays105.z0
  v0 := Tryd.lays105.v0
  t3 := Tryd.lays105.t3
  a3 := Tryd.lays105.a3
  z3 := Tryd.lays105.z3
  v3 := Tryd.lays105.v3
  t4 := Tryd.lays105.t4
  a4 := Tryd.lays105.a4
  z4 := Tryd.lays105.z4
  v4 := Tryd.lays105.v4
  t9 := Tryd.lays105.t9
  a9 := Tryd.lays105.a9
  z9 := Tryd.lays105.z9
  v9 := Tryd.lays105.v9
  t20 := Tryd.lays105.t20
  a20 := Tryd.lays105.a20
  z20 := Tryd.lays105.z20
  v20 := Tryd.lays105.v20
  t37 := Tryd.lays105.t37
  a37 := Tryd.lays105.a37
  z37 := Tryd.lays105.z37
  v37 := Tryd.lays105.v37
  t70 := Tryd.lays105.t70
  a70 := Tryd.lays105.a70
  z70 := Tryd.lays105.z70
  v70 := Tryd.lays105.v70
  t72 := Tryd.lays105.t72
  a72 := Tryd.lays105.a72
  z72 := Tryd.lays105.z72
  v72 := Tryd.lays105.v72
  t75 := Tryd.lays105.t75
  a75 := Tryd.lays105.a75
  z75 := Tryd.lays105.z75
  v75 := Tryd.lays105.v75
  t164 := Tryd.lays105.t164
  a164 := Tryd.lays105.a164
  z164 := Tryd.lays105.z164
  v164 := Tryd.lays105.v164

theorem Tryd.l167 : Lays.n167 Tryd.prog Tryd.ren167 where
  mixed := Tryd.lays105.mixed
  f167 := by kernel_rfl
  f240 := Tryd.lays105.f240
  f276 := Tryd.lays105.f276
  t0 := Tryd.lays105.t0
  a0 := Tryd.lays105.a0
  z0 := Tryd.lays105.z0
  v0 := Tryd.lays105.v0
  t4 := Tryd.lays105.t4
  a4 := Tryd.lays105.a4
  z4 := Tryd.lays105.z4
  v4 := Tryd.lays105.v4
  t5 := Tryd.lays105.t5
  a5 := Tryd.lays105.a5
  z5 := Tryd.lays105.z5
  v5 := Tryd.lays105.v5
  t9 := Tryd.lays105.t9
  a9 := Tryd.lays105.a9
  z9 := Tryd.lays105.z9
  v9 := Tryd.lays105.v9
  t20 := Tryd.lays105.t20
  a20 := Tryd.lays105.a20
  z20 := Tryd.lays105.z20
  v20 := Tryd.lays105.v20
  t37 := Tryd.lays105.t37
  a37 := Tryd.lays105.a37
  z37 := Tryd.lays105.z37
  v37 := Tryd.lays105.v37
  t70 := Tryd.lays105.t70
  a70 := Tryd.lays105.a70
  z70 := Tryd.lays105.z70
  v70 := Tryd.lays105.v70
  t72 := Tryd.lays105.t72
  a72 := Tryd.lays105.a72
  z72 := Tryd.lays105.z72
  v72 := Tryd.lays105.v72
  t75 := Tryd.lays105.t75
  a75 := Tryd.lays105.a75
  z75 := Tryd.lays105.z75
  v75 := Tryd.lays105.v75
  t164 := Tryd.lays105.t164
  a164 := Tryd.lays105.a164
  z164 := Tryd.lays105.z164
  v164 := Tryd.lays105.v164

theorem Tryd.Extra_167 : Builder.Extra Tryd.prog Tryd.ren167 where
  sizeBuilder := by kernel_rfl
  liesBuilder := by kernel_rfl
  t5 := Tryd.underlying5
  a5 := Tryd.isAgg5
  z5 := Tryd.sizeOf5
  v5 := Tryd.zeroValue5
  infoByte := by kernel_rfl
  cellsByte := by kernel_rfl
  sizeByte := by kernel_rfl
  neB5 := by decide

theorem Tryd.WriteByte_k (B b : Nat) (bs : List Value) (c : Int) (w : World) (h : Lib.IsBuilderF 78 5 B b bs w) (hlen : bs.length + 1 ≤ 140737488355328) (hBw : B ≤ w.heap.size) :
    Calls Tryd.prog 63 #[.pointer (some ⟨b, 0, none⟩), .int .u8 c] w fun e w' => e = .returned .nilIface ∧ (Lib.BuilderAtF 78 5 B b (.pointer (some ⟨b, 0, none⟩)) (bs ++ [.int .u8 c]) w' ∧ Below B w w' ∧ Lib.OthersKept 5 (some b) w w') := Any.Builder_WriteByte_k Tryd.l167 Tryd.Extra_167 B b bs c w h hlen hBw

theorem Tryd.WriteString_k (B b : Nat) (bs : List Value) (s : ByteArray) (w : World) (h : Lib.IsBuilderF 78 5 B b bs w) (hlen : bs.length + s.size ≤ 140737488355328) (hBw : B ≤ w.heap.size) :
    Calls Tryd.prog 66 #[.pointer (some ⟨b, 0, none⟩), .string s] w fun e w' => e = .returned (.tuple #[.int .i64 s.size, .nilIface]) ∧ (Lib.BuilderAtF 78 5 B b (.pointer (some ⟨b, 0, none⟩)) (bs ++ Lib.strCells s) w' ∧ Below B w w' ∧ Lib.OthersKept 5 (some b) w w') := Any.Builder_WriteString_k Tryd.l166 Tryd.Builder_Extra_105 B b bs s w h hlen hBw

end Go.Proofs
