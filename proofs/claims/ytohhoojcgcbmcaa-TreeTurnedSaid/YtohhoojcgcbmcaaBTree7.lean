/- What the walks ask of rows, in plain lists. -/
import Derived.Test.YtohhoojcgcbmcaaBTree6
set_option maxRecDepth 4000
set_option linter.unusedVariables false
set_option linter.unusedSimpArgs false
namespace Go.Tr
open Go Go.Vc

theorem list_two {α : Type} {l : List α} {n : Nat} {a b : α} (ha : l[n]? = some a) (hb : l[n + 1]? = some b) : l.take n ++ a :: b :: l.drop (n + 2) = l := by
  have h1 := (List.getElem?_eq_some_iff.1 ha).2
  have h2 := (List.getElem?_eq_some_iff.1 hb).2
  rw [← h1, ← h2, List.getElem_cons_drop, List.getElem_cons_drop, List.take_append_drop]

theorem ents_popLast {V : Type} {d : Nat} (a : BT V d) : ents (popLast a) = (ents a).dropLast := by cases d <;> rfl
theorem ents_pushFirst {V : Type} {d : Nat} (a : BT V d) (x) (b : BT V d) : ents (pushFirst a x b) = x :: ents b := by cases d <;> rfl
theorem ents_pushLast {V : Type} {d : Nat} (a : BT V d) (x) (b : BT V d) : ents (pushLast a x b) = ents a ++ [x] := by cases d <;> rfl
theorem ents_popFirst {V : Type} {d : Nat} (a : BT V d) : ents (popFirst a) = (ents a).tail := by cases d <;> rfl
theorem ents_glue {V : Type} {d : Nat} (a : BT V d) (x) (b : BT V d) : ents (glue a x b) = ents a ++ x :: ents b := by cases d <;> rfl

/-- What mend asks. -/
structure Row.Ok {V : Type} {d : Nat} (t : Row V d) : Prop where
  small : t.1.length < 1000
  len : t.2.length = t.1.length + 1
  two : 2 ≤ t.2.length
  kids : ∀ c ∈ t.2, (ents c).length < 1000 ∧ below c < 1001


theorem ok_row {V : Type} {d : Nat} {es : List (Key × V)} {ks : List (BT V d)} (h1 : 1 ≤ es.length) (h6 : es.length ≤ 6) (hl : ks.length = es.length + 1) (hk : ∀ c ∈ ks, (ents c).length ≤ 6 ∧ Core c) : Row.Ok (es, ks) := by
  refine ⟨by dsimp only; omega, hl, by dsimp only; omega, fun c hc => ?_⟩
  obtain ⟨k1, k2⟩ := hk c hc
  refine ⟨by omega, ?_⟩
  cases d with
  | zero => show 0 < 1001; omega
  | succ d =>
    have k1 : c.1.length ≤ 6 := k1
    have k2 : c.2.length = c.1.length + 1 := k2.1
    show c.2.length < 1001; omega

theorem ents_cutL {V : Type} {d : Nat} (c : BT V d) : ents (cutL c) = (ents c).take 2 := by cases d <;> rfl
theorem ents_cutR {V : Type} {d : Nat} (c : BT V d) : ents (cutR c) = (ents c).drop 3 := by cases d <;> rfl

theorem core_below {V : Type} {d : Nat} {c : BT V d} (h : Core c) : below c = 0 ∨ below c = (ents c).length + 1 := by
  cases d with
  | zero => exact .inl rfl
  | succ d => exact .inr h.1

/-- One page of a row, another in its place. -/
theorem row_put {V : Type} {d : Nat} {ks : List (BT V d)} {n : Nat} {c' : BT V d} (hn : n < ks.length) {P : BT V d → Prop} (h1 : P c') (h2 : ∀ c ∈ ks, P c) : ∀ c ∈ ks.take n ++ c' :: ks.drop (n + 1), P c := by
  intro c hc
  rcases List.mem_append.1 hc with hc | hc
  · exact h2 _ (List.mem_of_mem_take hc)
  · rcases List.mem_cons.1 hc with rfl | hc
    · exact h1
    · exact h2 _ (List.mem_of_mem_drop hc)

end Go.Tr
namespace Go.Tr
open Go Go.Vc

theorem ents_row {V : Type} {d : Nat} (es : List (Key × V)) (ks : List (BT V d)) : ents (d := d + 1) ((es, ks) : Row V d) = es := rfl
theorem get_has {V : Type} {d : Nat} {t : BT V d} {k : Key} (hh : has (ents t) k = true) : getP k t = (ents t)[idx (ents t) k]?.map (·.2) := by
  cases d with
  | zero => exact if_pos hh
  | succ d =>
    obtain ⟨es, ks⟩ := t
    rw [getP_row, if_pos (show has es k = true from hh)]
    exact if_pos hh
theorem put_has {V : Type} {d : Nat} {t : BT V d} {k : Key} {v : V} (hh : has (ents t) k = true) : ents (putP k v t) = (ents t).set (idx (ents t) k) (k, v) := by
  cases d with
  | zero => exact if_pos hh
  | succ d =>
    obtain ⟨es, ks⟩ := t
    rw [putP_row, if_pos (show has es k = true from hh)]
    rfl

end Go.Tr
