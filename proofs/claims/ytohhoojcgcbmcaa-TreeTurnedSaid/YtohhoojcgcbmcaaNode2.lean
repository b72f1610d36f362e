/- Ways that meet again, with any values. -/
import Derived.Test.YtohhoojcgcbmcaaNode
set_option maxRecDepth 4000
set_option linter.unusedVariables false
set_option linter.unusedSimpArgs false
namespace Go.Sl
open Go Go.Vc

theorem jnp {α : Type} {x : (α → Prop) → Prop} {K : α → Prop} (M : α → Prop) (hx : ∀ J : α → Prop, (∀ a, M a → J a) → x J) (hK : ∀ a, M a → K a) : Jn x K := hx K hK
theorem jnpw {α : Type} {x : (α → World → Prop) → Prop} {K : α → World → Prop} (M : α → World → Prop) (hx : ∀ J : α → World → Prop, (∀ a w, M a w → J a w) → x J) (hK : ∀ a w, M a w → K a w) : Jn x K := hx K hK

end Go.Sl
