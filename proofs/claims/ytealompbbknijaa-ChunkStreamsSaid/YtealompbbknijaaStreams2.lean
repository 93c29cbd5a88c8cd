/- chunk: ChunkStreams, joined. -/
import Derived.Test.YtealompbbknijaaStreams0
import Derived.Test.YtealompbbknijaaStreams1
namespace Go.Proofs.Ytealompbbknijaa
open Go.RowKit

theorem Streams_law (mn mx main back : Int) (h1 : main < 4294967296) (h2 : back < 4294967296) (LL : List (List Int)) (cap : Nat) (LA : Option Addr) (x : Int) (w : World) (hnc : LL.length ≤ cap) (hm : LL.length ≤ maxLen) (hI : InRows w LA LL) (hx0 : 0 ≤ x) (hx1 : x ≤ 255) :
    Calls Try.prog 7 #[.agg (cutC mn mx main back), .slice LA LL.length cap, .int .u8 x] w fun e w' => e = .returned (.bool true) ∧ Below w.heap.size w w' := by
  obtain ⟨k, rfl⟩ := Int.eq_ofNat_of_zero_le hx0
  by_cases h : RightI mn mx main back
  · obtain ⟨c, ok, rfl, rfl, rfl, rfl⟩ := ct_of mn mx main back h h1 h2
    exact Streams_yes c ok LL LL.length cap LA k (by omega) w rfl (by unfold maxLen at hm; omega) hnc hI
  · exact Streams_no mn mx main back h _ _ w

end Go.Proofs.Ytealompbbknijaa
