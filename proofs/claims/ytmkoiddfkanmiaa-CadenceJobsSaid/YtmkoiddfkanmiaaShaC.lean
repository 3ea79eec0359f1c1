/- The walk of sha2.press. -/
import Derived.Test.YtmkoiddfkanmiaaShaB
namespace Go.Proofs.Ytmkoiddfkanmiaa
open Go.RowKit Bits
namespace Sha
theorem lt_of_heap {w : World} {g : Nat} {o : Obj} (h : w.heap[g]? = some o) : g < w.heap.size := (Array.getElem?_eq_some_iff.1 h).1
theorem cells_lit8 (a b c d e f g h : BitVec 32) : #[Value.int .u32 (n32 a), .int .u32 (n32 b), .int .u32 (n32 c), .int .u32 (n32 d), .int .u32 (n32 e), .int .u32 (n32 f), .int .u32 (n32 g), .int .u32 (n32 h)] = cells [a, b, c, d, e, f, g, h] := rfl
end Sha
end Go.Proofs.Ytmkoiddfkanmiaa
