/- Keys as letters. -/
import Derived.Test.YtgaoebeanjgnaaaLaws1
namespace Go.Proofs.Ytgaoebeanjgnaaa
open Go.RowKit

/-- A vertex's key, an edge's key, as letters. -/
def KV (u : Int) : Int := u * 2147483648
def KE (u v : Int) : Int := u * 2147483648 + v + 1
attribute [irreducible] KV KE
theorem nv_yes (u : Int) (w : World) (h0 : 0 ≤ u) (h1 : u < 1073741824) : Calls Try.prog 10 #[.int .i64 u] w fun e w' => e = .returned (.tuple #[.int .u64 (KV u), .int .i64 0]) ∧ w = w' := by unfold KV; exact kv_yes u w h0 h1
theorem ne_yes (u v : Int) (w : World) (h0 : 0 ≤ u) (h1 : u < 1073741824) (h2 : 0 ≤ v) (h3 : v < 1073741824) : Calls Try.prog 12 #[.int .i64 u, .int .i64 v] w fun e w' => e = .returned (.tuple #[.int .u64 (KE u v), .int .i64 0]) ∧ w = w' := by unfold KE; exact ke_yes u v w h0 h1 h2 h3

end Go.Proofs.Ytgaoebeanjgnaaa
