/- An argument of bytes as the walks read it. -/
import Derived.Test.YtiigjmageeinpaaDoorVs
import Derived.OpenShut
namespace Go.Proofs.YtiigjmageeinpaaDoor
open Go.RowKit Go.Shelf

theorem byt_arg {W : World} {x : Addr} {len cap : Nat} {zs : List Int} (hz : zs.length = cap) (hl : len ≤ cap) (hc : ∀ i, i < zs.length → W.cell? (x.add i) = some (.int .u8 (zs.getD i 0))) (hw : ∀ n ∈ zs, (Lit.int .u8 n).wf = true) : ∃ l, Byt W (.slice (some x) len cap) l := by
  have hlen : ((zs.take len).map fun n => UInt8.ofNat n.toNat).length = len := by rw [List.length_map, List.length_take]; omega
  refine ⟨(zs.take len).map fun n => UInt8.ofNat n.toNat, .inr ⟨x, cap, by rw [hlen], fun i hi => ?_⟩⟩
  rw [hlen] at hi
  have hiz : i < zs.length := by omega
  have h0 := hw zs[i] (List.getElem_mem hiz)
  have hb : 0 ≤ zs[i] ∧ zs[i] ≤ 255 := by
    simp [Lit.wf] at h0
    have mn : IntKind.u8.min = 0 := by decide
    have mx : IntKind.u8.max = 255 := by decide
    omega
  rw [hc i hiz, List.getD_eq_getElem?_getD, List.getElem?_eq_getElem hiz, List.getElem_map, List.getElem_take, UInt8.toNat_ofNat']
  simp only [Option.getD_some]
  congr 2
  omega

end Go.Proofs.YtiigjmageeinpaaDoor
