/- Cells that stay over a call; a region that draws its order. -/
import Derived.Test.YtkjhgnjoiocogaaWalks
import Derived.Lib.SmallJoins
import Derived.Deep.RegionHeld3
namespace Go.Proofs.Ytkjhgnjoiocogaa
open Go.RowKit
theorem keep {w1 w2 : World} {a : Addr} {v : Value} (h : w1.cell? a = some v) (hb : Below w1.heap.size w1 w2) : w2.cell? a = some v :=
  (hb.cell (World.block_lt_of_cell? _ _ h)).trans h
theorem bthen {B : Nat} {a b c : World} (h : Below B a b) (hB : B ≤ a.heap.size) (k : Below b.heap.size b c) : Below B a c := h.trans (k.mono (Nat.le_trans hB h.size))
end Go.Proofs.Ytkjhgnjoiocogaa
