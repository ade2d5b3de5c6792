/- Walks, whole: VerBack. -/
import Derived.Test.YtiigjmageeinpaaDoorVp
namespace Go.Proofs.YtiigjmageeinpaaDoor
open Go.RowKit Go.Shelf

theorem VerBack_walk (s : ByteArray) (mi : Int) (h0 : -9223372036854775808 ≤ mi) (h1 : mi ≤ 9223372036854775807) (w : World) (hG : Good w) : Calls Tryd.prog 9 #[.string s, .int .i64 mi] w (Yes w) := by
  rw [bs_of s]
  generalize s.data.toList = p
  by_cases hl : p.length ≤ 300
  · by_cases hp : pathB p = true
    · by_cases hm : 0 ≤ mi ∧ mi ≤ 99
      · exact VerBack_good p mi hl hm.1 hm.2 hp (readP_written hp hm.1 hm.2) (textP_at hm.1 hm.2).2.2.1 w hG
      · exact VerBack_bad p mi hl h0 h1 (.inr (by omega)) w hG
    · exact VerBack_bad p mi hl h0 h1 (.inl (Bool.eq_false_iff.2 hp)) w hG
  · exact VerBack_long p mi (by omega) w

end Go.Proofs.YtiigjmageeinpaaDoor
