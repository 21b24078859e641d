/- TableCells for what comes in. -/
import Derived.Test.YteheolefemlcgaaTabM
namespace Go.Proofs.Yteheolefemlcgaa
open Go.RowKit

theorem rowTableCells {vx vy : Value} {W : World} (x y : CX) (n : Int) (fx : CSA W vx x) (fy : CSA W vy y) (hn : In64 n) (w : World) : Calls Try.prog 3 #[vx, vy, .int .i64 n] W fun e w' => e = .returned (.bool true) ∧ Below W.heap.size W w' :=
  walk_TableCells x y n fx fy w
end Go.Proofs.Yteheolefemlcgaa
