/- Nodes of filters. -/
import Derived.Test.YtobpbjmnonbblaaDoorPlainC
namespace Go.Proofs.YtobpbjmnonbblaaDoor
structure N where
  ask : Int
  col : Int
  val : V
  a : Int
  b : Int
abbrev N.d (x : N) : DV := .agg [.int .i64 x.ask, .int .i64 x.col, .int .i64 x.val.k, .int .i64 x.val.n, .str x.val.s, .bool x.val.t, .int .i64 x.a, .int .i64 x.b]
end Go.Proofs.YtobpbjmnonbblaaDoor
