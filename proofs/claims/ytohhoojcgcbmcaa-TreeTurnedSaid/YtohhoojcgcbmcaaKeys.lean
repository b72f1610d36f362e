/- The keys from one on, below another one, at most so many. -/
import Derived.Test.YtohhoojcgcbmcaaBTree8
import Derived.Test.YtohhoojcgcbmcaaNode2
set_option maxRecDepth 4000
set_option linter.unusedVariables false
set_option linter.unusedSimpArgs false
namespace Go.Sl
open Go Go.Vc
theorem jq {x : Prop → Prop} {K : Prop} (c : Prop) (h1 : ∀ J : Prop, (c → J) → x J) (h2 : c → K) : Jn x K := h1 K h2
theorem jnpw2 {α β : Type} {x : (α → β → Prop) → Prop} {K : α → β → Prop} (M : α → β → Prop) (hx : ∀ J : α → β → Prop, (∀ a b, M a b → J a b) → x J) (hK : ∀ a b, M a b → K a b) : Jn x K := hx K hK
theorem jnpw3 {α β γ : Type} {x : (α → β → γ → Prop) → Prop} {K : α → β → γ → Prop} (M : α → β → γ → Prop) (hx : ∀ J : α → β → γ → Prop, (∀ a b c, M a b c → J a b c) → x J) (hK : ∀ a b c, M a b c → K a b c) : Jn x K := hx K hK
end Go.Sl
namespace Go.Tr
open Go Go.Vc

variable {V : Type}

def belowQ (to k : Key) : Bool := sEq to (str []) || sLt k to
def keysL (to : Key) (ks : List Key) (m : Nat) : List Key := (ks.takeWhile (belowQ to)).take m

theorem keysL_nil (to : Key) (m : Nat) : keysL to [] m = [] := by simp [keysL]
theorem keysL_zero (to : Key) (ks : List Key) : keysL to ks 0 = [] := by simp [keysL]
theorem keysL_stop {to k : Key} (h : belowQ to k = false) (ks : List Key) (m : Nat) : keysL to (k :: ks) m = [] := by simp [keysL, h]
theorem keysL_go {to k : Key} (h : belowQ to k = true) (ks : List Key) (m : Nat) : keysL to (k :: ks) (m + 1) = k :: keysL to ks m := by simp [keysL, h]

theorem at_idx {es : List (Key × V)} (hs : Sorted es) {j : Nat} {x : Key × V} (hx : es[j]? = some x) : idx es x.1 = j ∧ has es x.1 = true := by
  have hn := (List.getElem?_eq_some_iff.1 hx).1
  have h1 : idx es x.1 = j := idx_eq hs (by omega) (fun i y hy hi => hs.get hi hy hx) (fun y hy => by rw [hx] at hy; cases hy; exact lt_irrefl _)
  refine ⟨h1, ?_⟩
  unfold has
  rw [h1, hx]
  exact eq_iff.2 rfl

theorem next_succ {es : List (Key × V)} (hs : Sorted es) {j : Nat} {x : Key × V} (hx : es[j]? = some x) : nextE es x.1 false = es[j + 1]? := by
  have h := at_idx hs hx
  rw [next_at hs, h.1, h.2]; rfl
theorem next_first {es : List (Key × V)} (hs : Sorted es) (k : Key) : nextE es k true = es[idx es k]? := by
  rw [next_at hs]
  cases has es k <;> rfl

end Go.Tr
