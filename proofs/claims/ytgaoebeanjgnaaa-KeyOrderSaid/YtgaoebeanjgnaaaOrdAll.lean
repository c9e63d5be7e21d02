/- The walk through the statement KeyOrder, its cases joined. -/
import Derived.Test.YtgaoebeanjgnaaaOrdNo
import Derived.Test.YtgaoebeanjgnaaaOrdll
import Derived.Test.YtgaoebeanjgnaaaOrdle
import Derived.Test.YtgaoebeanjgnaaaOrdlg
import Derived.Test.YtgaoebeanjgnaaaOrdel
import Derived.Test.YtgaoebeanjgnaaaOrdee
import Derived.Test.YtgaoebeanjgnaaaOrdeg
import Derived.Test.YtgaoebeanjgnaaaOrdgl
import Derived.Test.YtgaoebeanjgnaaaOrdge
import Derived.Test.YtgaoebeanjgnaaaOrdgg
namespace Go.Proofs.Ytgaoebeanjgnaaa
open Go.RowKit

theorem order_walk (u v x y : Int) (w : World) :
    Calls Try.prog 5 #[.agg #[.int .i64 u, .int .i64 v, .int .i64 x, .int .i64 y]] w fun e w' => e = .returned (.bool true) ∧ Below w.heap.size w w' := by
  by_cases h : ((0 ≤ u ∧ u < 1073741824) ∧ (0 ≤ v ∧ v < 1073741824) ∧ (0 ≤ x ∧ x < 1073741824) ∧ (0 ≤ y ∧ y < 1073741824))
  rotate_left
  · exact order_walk_no u v x y w h
  obtain ⟨hu, hv, hx, hy⟩ := h
  rcases Int.lt_trichotomy u y with cuy | rfl | cuy <;> rcases Int.lt_trichotomy v x with cvx | rfl | cvx
  · exact order_ll u v x y w hu hv hx hy cuy cvx
  · exact order_le u v y w hu hv hy cuy
  · exact order_lg u v x y w hu hv hx hy cuy cvx
  · exact order_el u v x w hu hv hx cvx
  · exact order_ee u v w hu hv
  · exact order_eg u v x w hu hv hx cvx
  · exact order_gl u v x y w hu hv hx hy cuy cvx
  · exact order_ge u v y w hu hv hy cuy
  · exact order_gg u v x y w hu hv hx hy cuy cvx
end Go.Proofs.Ytgaoebeanjgnaaa
