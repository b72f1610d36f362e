/- The order of byte strings, sorted lists, and places in them. -/
import Derived.Test.YtohhoojcgcbmcaaVcU
import Derived.Laws.Strings
set_option maxRecDepth 4000
set_option linter.unusedVariables false
set_option linter.unusedSimpArgs false
namespace Go.Tr
open Go Go.Vc

abbrev Key := ByteArray

theorem bl_irrefl : ∀ x : List UInt8, Op.bytesLess x x = false
  | [] => rfl
  | a :: x => by
    have h : ¬ a < a := UInt8.lt_irrefl a
    simp [Op.bytesLess, h, bl_irrefl x]

theorem bl_trans : ∀ {x y z : List UInt8}, Op.bytesLess x y = true → Op.bytesLess y z = true → Op.bytesLess x z = true
  | x, [], z, h, _ => by cases x <;> simp [Op.bytesLess] at h
  | x, b :: y, [], _, h => by simp [Op.bytesLess] at h
  | [], b :: y, c :: z, _, _ => by simp [Op.bytesLess]
  | a :: x, b :: y, c :: z, h1, h2 => by
    simp only [Op.bytesLess, Bool.or_eq_true, decide_eq_true_eq, Bool.and_eq_true, beq_iff_eq] at *
    rcases h1 with h1 | ⟨rfl, h1⟩
    · rcases h2 with h2 | ⟨rfl, h2⟩
      · exact .inl (UInt8.lt_trans h1 h2)
      · exact .inl h1
    · rcases h2 with h2 | ⟨rfl, h2⟩
      · exact .inl h2
      · exact .inr ⟨rfl, bl_trans h1 h2⟩

theorem bl_total : ∀ {x y : List UInt8}, Op.bytesLess x y = false → Op.bytesLess y x = false → x = y
  | [], [], _, _ => rfl
  | [], b :: y, h, _ => by simp [Op.bytesLess] at h
  | a :: x, [], _, h => by simp [Op.bytesLess] at h
  | a :: x, b :: y, h1, h2 => by
    simp only [Op.bytesLess, Bool.or_eq_false_iff, decide_eq_false_iff_not, Bool.and_eq_false_iff, beq_eq_false_iff_ne] at h1 h2
    have hab : a = b := by
      have h3 := h1.1; have h4 := h2.1
      exact UInt8.le_antisymm (UInt8.not_lt.1 h4) (UInt8.not_lt.1 h3)
    subst hab
    have h3 := h1.2.resolve_left (by simp)
    have h4 := h2.2.resolve_left (by simp)
    rw [bl_total h3 h4]

theorem toList_inj {x y : Key} (h : x.toList = y.toList) : x = y := by
  rw [ByteArray.toList_eq, ByteArray.toList_eq] at h
  cases x; cases y
  simp only [ByteArray.mk.injEq]
  exact Array.toList_inj.1 h

theorem lt_irrefl (x : Key) : sLt x x = false := bl_irrefl _
theorem lt_trans {x y z : Key} (h1 : sLt x y = true) (h2 : sLt y z = true) : sLt x z = true := bl_trans h1 h2
theorem eq_iff {x y : Key} : sEq x y = true ↔ x = y := by
  unfold sEq
  rw [beq_iff_eq]
  exact ⟨toList_inj, fun h => by rw [h]⟩
theorem lt_total {x y : Key} (h1 : sLt x y = false) (h2 : sLt y x = false) : x = y := toList_inj (bl_total h1 h2)
theorem lt_asymm {x y : Key} (h : sLt x y = true) : sLt y x = false := by
  cases h2 : sLt y x with
  | false => rfl
  | true => rw [← lt_irrefl x, lt_trans h h2]
theorem lt_ne {x y : Key} (h : sLt x y = true) : x ≠ y := fun e => by subst e; rw [lt_irrefl] at h; cases h

/-! ### sorted lists of entries -/

variable {V : Type}

/-- The keys rise. -/
def Sorted : List (Key × V) → Prop
  | [] => True
  | e :: es => (∀ x ∈ es, sLt e.1 x.1 = true) ∧ Sorted es

/-- How many keys lie below a key. -/
def idx (es : List (Key × V)) (k : Key) : Nat := (es.takeWhile fun e => sLt e.1 k).length

theorem idx_le (es : List (Key × V)) (k : Key) : idx es k ≤ es.length := by
  unfold idx
  exact (List.takeWhile_sublist _).length_le

theorem Sorted.get {es : List (Key × V)} (h : Sorted es) : ∀ {i j : Nat} {x y : Key × V}, i < j → es[i]? = some x → es[j]? = some y → sLt x.1 y.1 = true := by
  induction es with
  | nil => intro i j x y _ h; simp at h
  | cons e es ih =>
    intro i j x y hij hx hy
    cases j with
    | zero => omega
    | succ j =>
      simp only [List.getElem?_cons_succ] at hy
      cases i with
      | zero => simp at hx; subst hx; exact h.1 _ (List.mem_of_getElem? hy)
      | succ i => simp only [List.getElem?_cons_succ] at hx; exact ih h.2 (by omega) hx hy

/-- Below its place the keys are less, from it on they are not. -/
theorem idx_lt {es : List (Key × V)} {k : Key} : ∀ {i : Nat} {x : Key × V}, es[i]? = some x → i < idx es k → sLt x.1 k = true := by
  induction es with
  | nil => intro i x h; simp at h
  | cons e es ih =>
    intro i x hx hi
    unfold idx at hi
    rw [List.takeWhile_cons] at hi
    split at hi
    · rename_i he
      cases i with
      | zero => simp at hx; subst hx; exact he
      | succ i =>
        simp only [List.getElem?_cons_succ] at hx
        exact ih hx (by simp at hi; exact hi)
    · simp at hi

theorem idx_ge {es : List (Key × V)} {k : Key} (h : Sorted es) : ∀ {i : Nat} {x : Key × V}, es[i]? = some x → idx es k ≤ i → sLt x.1 k = false := by
  induction es with
  | nil => intro i x h; simp at h
  | cons e es ih =>
    intro i x hx hi
    unfold idx at hi
    rw [List.takeWhile_cons] at hi
    split at hi
    · rename_i he
      cases i with
      | zero => simp at hi
      | succ i =>
        simp only [List.getElem?_cons_succ] at hx
        exact ih h.2 hx (by simp at hi; exact hi)
    · rename_i he
      simp only [Bool.not_eq_true] at he
      cases i with
      | zero => simp at hx; subst hx; exact he
      | succ i =>
        simp only [List.getElem?_cons_succ] at hx
        have h1 := h.1 _ (List.mem_of_getElem? hx)
        cases h2 : sLt x.1 k with
        | false => rfl
        | true => rw [← he, lt_trans h1 h2]

/-- The one place. -/
theorem idx_eq {es : List (Key × V)} {k : Key} (h : Sorted es) {n : Nat} (hn : n ≤ es.length) (h1 : ∀ i x, es[i]? = some x → i < n → sLt x.1 k = true)
    (h2 : ∀ x, es[n]? = some x → sLt x.1 k = false) : idx es k = n := by
  have hle := idx_le es k
  rcases Nat.lt_trichotomy (idx es k) n with h3 | h3 | h3
  · have hlt : idx es k < es.length := by omega
    have := idx_ge h (List.getElem?_eq_getElem hlt) (Nat.le_refl _)
    rw [h1 _ _ (List.getElem?_eq_getElem hlt) h3] at this; cases this
  · exact h3
  · have hlt : n < es.length := by omega
    have := idx_lt (List.getElem?_eq_getElem hlt) h3
    rw [h2 _ (List.getElem?_eq_getElem hlt)] at this; cases this

/-- Is the key there? -/
def has (es : List (Key × V)) (k : Key) : Bool :=
  match es[idx es k]? with
  | some e => sEq e.1 k
  | none => false

end Go.Tr
