/- The walk of the law SpaceTold, for all models. -/
import Derived.Test.YtangandfgbnomaaVM15
namespace Go.Proofs.Ytangandfgbnomaa.V
open Go.RowKit

theorem told_walk {w : World} (M : Int) (ta : Option Addr) (cap : Nat) (us : List Ac) (hA : Acts w ta us) (hul : us.length ≤ maxLen) (st : Int) (hst : 0 ≤ st ∧ st < 65536) :
    Calls Try.prog 15 #[.int .i64 M, .slice ta us.length cap, .int .u16 st] w fun e w' => e = .returned (.bool true) ∧ Below w.heap.size w w' := by
  by_cases h : 2 ≤ M ∧ M ≤ 5
  · exact told_some M h ta cap us hA hul st hst
  · exact told_none M h _ st w

end Go.Proofs.Ytangandfgbnomaa.V
