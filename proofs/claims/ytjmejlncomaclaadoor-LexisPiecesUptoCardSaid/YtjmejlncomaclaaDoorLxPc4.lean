/- gimletlaw10.LexisPieces is true at every two texts of at most 10000000 bytes. Condition: the tables. -/
import Derived.Test.YtjmejlncomaclaaDoorLxPc3
namespace Go.Proofs.YtjmejlncomaclaaDoor.Lx
open Go.RowKit

/-- LexisPieces. -/
theorem pieces_any (vp vq : Value) (p q : List UInt8) (n : Int) (w : World) (hV : Vars w) (hp : RB w vp p) (hq : RB w vq q) (hnp : p.length ≤ 10000000) (hnq : q.length ≤ 10000000) :
    Calls Tryd.prog 3 #[vp, vq, .int .i64 n] w fun e w' => e = .returned (.bool true) ∧ Below w.heap.size w w' := by
  cases h1 : words p with
  | error e => exact pieces_err vp vq p q e n w hV hp hq hnp hnq h1
  | ok lp =>
    cases h2 : words q with
    | error e => exact pieces_okerr vp vq p q lp e n w hV hp hq hnp hnq h1 h2
    | ok lq => exact pieces_ok vp vq p q lp lq n w hV hp hq hnp hnq h1 h2
end Go.Proofs.YtjmejlncomaclaaDoor.Lx
