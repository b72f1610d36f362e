/- What the pages hold, in order; and how that goes with what is done to them. -/
import Derived.Test.YtohhoojcgcbmcaaBTree
set_option maxRecDepth 4000
set_option linter.unusedVariables false
set_option linter.unusedSimpArgs false
namespace Go.Tr
open Go Go.Vc

variable {V : Type}

def weave {α : Type} : List (List α) → List α → List α
  | k :: ks, e :: es => k ++ e :: weave ks es
  | k :: _, [] => k
  | [], _ => []
/-- The pages on the left, each with the entry behind it. -/
def wl {α : Type} : List (List α) → List α → List α
  | k :: ks, e :: es => k ++ e :: wl ks es
  | _, _ => []
/-- The entries on the right, each with the page behind it. -/
def wr {α : Type} : List α → List (List α) → List α
  | e :: es, k :: ks => e :: (k ++ wr es ks)
  | _, _ => []

theorem weave_cons {α : Type} (a : List α) : ∀ (es : List α) (ks : List (List α)), ks.length = es.length → weave (a :: ks) es = a ++ wr es ks
  | [], [], _ => by simp [weave, wr]
  | e :: es, k :: ks, h => by
    have := weave_cons k es ks (by simpa using h)
    simp [weave, wr, this]
  | [], k :: ks, h => by simp at h
  | e :: es, [], h => by simp at h

theorem weave_at {α : Type} (a : List α) : ∀ (k1 : List (List α)) (e1 : List α) (e2 : List α) (k2 : List (List α)), k1.length = e1.length → k2.length = e2.length →
    weave (k1 ++ a :: k2) (e1 ++ e2) = wl k1 e1 ++ (a ++ wr e2 k2)
  | [], [], e2, k2, _, h => by simpa [wl] using weave_cons a e2 k2 h
  | k :: k1, e :: e1, e2, k2, h1, h2 => by
    have := weave_at a k1 e1 e2 k2 (by simpa using h1) h2
    simp [weave, wl, this]
  | [], e :: e1, _, _, h, _ => by simp at h
  | k :: k1, [], _, _, h, _ => by simp at h

theorem wl_snoc {α : Type} (k : List α) (e : α) : ∀ (ks : List (List α)) (es : List α), ks.length = es.length → wl (ks ++ [k]) (es ++ [e]) = wl ks es ++ (k ++ [e])
  | [], [], _ => by simp [wl]
  | a :: ks, b :: es, h => by
    have := wl_snoc k e ks es (by simpa using h)
    simp [wl, this]
  | [], b :: es, h => by simp at h
  | a :: ks, [], h => by simp at h

/-- All entries, in order. -/
def flat : {d : Nat} → BT V d → List (Key × V)
  | 0, t => t
  | _ + 1, t => weave (t.2.map flat) t.1

def flatR {d : Nat} (t : Row V d) : List (Key × V) := weave (t.2.map flat) t.1

theorem list_at {α : Type} {l : List α} {n : Nat} {a : α} (ha : l[n]? = some a) : l = l.take n ++ a :: l.drop (n + 1) := by
  have h1 := (List.getElem?_eq_some_iff.1 ha).2
  rw [← h1, List.getElem_cons_drop, List.take_append_drop]

/-- What is left, and right, of the page at a place. -/
def lefts {d : Nat} (t : Row V d) (n : Nat) : List (Key × V) := wl ((t.2.take n).map flat) (t.1.take n)
def rights {d : Nat} (t : Row V d) (n : Nat) : List (Key × V) := wr (t.1.drop n) ((t.2.drop (n + 1)).map flat)

theorem flatR_at {d : Nat} {t : Row V d} (hl : t.2.length = t.1.length + 1) {n : Nat} {c : BT V d} (hc : t.2[n]? = some c) : flatR t = lefts t n ++ (flat c ++ rights t n) := by
  have hn := (List.getElem?_eq_some_iff.1 hc).1
  unfold flatR lefts rights
  conv => lhs; rw [list_at hc, ← List.take_append_drop n t.1]
  rw [List.map_append, List.map_cons]
  exact weave_at _ _ _ _ _ (by simp; omega) (by simp; omega)

/-- A row that differs in the one page. -/
theorem flatR_of {d : Nat} (e1 e2 : List (Key × V)) (k1 k2 : List (BT V d)) (c : BT V d) (h1 : k1.length = e1.length) (h2 : k2.length = e2.length) :
    flatR (e1 ++ e2, k1 ++ c :: k2) = wl (k1.map flat) e1 ++ (flat c ++ wr e2 (k2.map flat)) := by
  unfold flatR
  dsimp only
  rw [List.map_append, List.map_cons]
  exact weave_at _ _ _ _ _ (by simpa using h1) (by simpa using h2)

theorem rights_cons {d : Nat} {t : Row V d} {n : Nat} {x : Key × V} {b : BT V d} (hx : t.1[n]? = some x) (hb : t.2[n + 1]? = some b) : rights t n = x :: (flat b ++ rights t (n + 1)) := by
  unfold rights
  have e1 : t.1.drop n = x :: t.1.drop (n + 1) := by
    have := List.getElem?_eq_some_iff.1 hx
    rw [← List.getElem_cons_drop this.1, this.2]
  have e2 : t.2.drop (n + 1) = b :: t.2.drop (n + 1 + 1) := by
    have := List.getElem?_eq_some_iff.1 hb
    rw [← List.getElem_cons_drop this.1, this.2]
  rw [e1, e2]
  rfl

theorem lefts_snoc {d : Nat} {t : Row V d} {n : Nat} {x : Key × V} {a : BT V d} (hx : t.1[n]? = some x) (ha : t.2[n]? = some a) : lefts t (n + 1) = lefts t n ++ (flat a ++ [x]) := by
  unfold lefts
  have h1 := List.getElem?_eq_some_iff.1 hx
  have h2 := List.getElem?_eq_some_iff.1 ha
  rw [List.take_succ_eq_append_getElem h1.1, List.take_succ_eq_append_getElem h2.1, h1.2, h2.2, List.map_append]
  exact wl_snoc _ _ _ _ (by have := h1.1; have := h2.1; simp; omega)

/-! ### shapes -/

/-- So many entries at least, at most five, in each page; all leaves equally deep. -/
def Shape (lo : Nat) : {d : Nat} → BT V d → Prop
  | 0, t => lo ≤ List.length t ∧ List.length t ≤ 5
  | _ + 1, t => lo ≤ t.1.length ∧ t.1.length ≤ 5 ∧ t.2.length = t.1.length + 1 ∧ ∀ c ∈ t.2, Shape 2 c

theorem Shape.lo {lo d : Nat} {t : BT V d} (h : Shape lo t) : lo ≤ (ents t).length ∧ (ents t).length ≤ 5 := by
  cases d with
  | zero => exact h
  | succ d => exact ⟨h.1, h.2.1⟩
theorem Shape.mono {lo lo' d : Nat} {t : BT V d} (h : Shape lo t) (hl : lo' ≤ (ents t).length) : Shape lo' t := by
  cases d with
  | zero => exact ⟨hl, h.2⟩
  | succ d => exact ⟨hl, h.2⟩
theorem Shape.below {lo d : Nat} {t : BT V d} (h : Shape lo t) : below t < 1001 := by
  cases d with
  | zero => show 0 < 1001; omega
  | succ d => have h1 := h.2.1; have h2 := h.2.2.1; show List.length t.2 < 1001; omega

/-- A page with one or more pages below: the shape of it by that of its row. -/
theorem Shape.of {lo d : Nat} {es : List (Key × V)} {ks : List (BT V d)} (h1 : lo ≤ es.length) (h2 : es.length ≤ 5) (h3 : ks.length = es.length + 1) (h4 : ∀ c ∈ ks, Shape 2 c) : Shape (d := d + 1) lo ((es, ks) : BT V (d + 1)) := ⟨h1, h2, h3, h4⟩

theorem getLast?_some {α : Type} {l : List α} {y : α} (h : l.getLast? = some y) : l = l.dropLast ++ [y] := by
  rcases List.eq_nil_or_concat l with rfl | ⟨l0, z, rfl⟩
  · simp at h
  · simp at h; subst h; simp

theorem leaf_right {α : Type} (a b : List α) (x y : α) (h5 : a.length ≤ 5) (hy : a.getLast? = some y) :
    a.dropLast ++ y :: (x :: b) = a ++ x :: b ∧ (a.length - 1 ≤ a.dropLast.length ∧ a.dropLast.length ≤ 5) ∧ (b.length < 5 → b.length + 1 ≤ (x :: b).length ∧ (x :: b).length ≤ 5) := by
  have e := getLast?_some hy
  refine ⟨?_, ⟨?_, ?_⟩, fun h => ⟨?_, ?_⟩⟩
  · conv => rhs; rw [e]
    simp
  · simp
  · simp; omega
  · simp
  · simp; omega
theorem leaf_left {α : Type} (a b : List α) (x y : α) (h5 : b.length ≤ 5) (hy : b.head? = some y) :
    (a ++ [x]) ++ y :: b.tail = a ++ x :: b ∧ (b.length - 1 ≤ b.tail.length ∧ b.tail.length ≤ 5) ∧ (a.length < 5 → a.length + 1 ≤ (a ++ [x]).length ∧ (a ++ [x]).length ≤ 5) := by
  cases b with
  | nil => cases hy
  | cons z t =>
    have : z = y := Option.some.inj hy
    subst this
    refine ⟨by simp, ⟨by simp, ?_⟩, fun h => ⟨by simp, ?_⟩⟩
    · simp at h5 ⊢; omega
    · simp; omega
theorem leaf_glue {α : Type} (a b : List α) (x : α) :
    a ++ x :: b = a ++ x :: b ∧ (a.length + b.length < 5 → a.length + b.length + 1 ≤ (a ++ x :: b).length ∧ (a ++ x :: b).length ≤ 5) := by
  refine ⟨rfl, fun h => ⟨?_, ?_⟩⟩
  · simp; omega
  · simp; omega

/-- The last entry goes over to the neighbour. -/
theorem move_right {lo lo2 d : Nat} {a b : BT V d} {x y : Key × V} (ha : Shape lo a) (hb : Shape lo2 b) (hy : (ents a).getLast? = some y) (hlo : 1 ≤ lo) :
    flat (popLast a) ++ y :: flat (pushFirst a x b) = flat a ++ x :: flat b ∧ Shape ((ents a).length - 1) (popLast a) ∧ ((ents b).length < 5 → Shape ((ents b).length + 1) (pushFirst a x b)) := by
  cases d with
  | zero => exact leaf_right a b x y ha.2 hy
  | succ d =>
    obtain ⟨ea, ka⟩ := a
    obtain ⟨eb, kb⟩ := b
    have h1 : ea.length ≤ 5 := ha.2.1
    have h3 : ka.length = ea.length + 1 := ha.2.2.1
    have h4 : ∀ c ∈ ka, Shape 2 c := ha.2.2.2
    have g3 : kb.length = eb.length + 1 := hb.2.2.1
    have g4 : ∀ c ∈ kb, Shape 2 c := hb.2.2.2
    have hy' : ea.getLast? = some y := hy
    have e := getLast?_some hy'
    obtain ⟨z, hz⟩ : ∃ z, ka.getLast? = some z := by
      cases h : ka.getLast? with
      | none => rw [List.getLast?_eq_none_iff] at h; rw [h] at h3; simp at h3
      | some z => exact ⟨z, rfl⟩
    have ek := getLast?_some hz
    have hel : ea.length = ea.dropLast.length + 1 := by have := congrArg List.length e; rw [List.length_append] at this; exact this
    have hkl : ka.length = ka.dropLast.length + 1 := by have := congrArg List.length ek; rw [List.length_append] at this; exact this
    refine ⟨?_, ?_, fun h => ?_⟩
    · show weave (ka.dropLast.map flat) ea.dropLast ++ y :: weave ((ka.getLast?.toList ++ kb).map flat) (x :: eb) = weave (ka.map flat) ea ++ x :: weave (kb.map flat) eb
      rw [hz]
      simp only [Option.toList_some, List.singleton_append, List.map_cons, weave]
      have e5 : weave (ka.map flat) ea = weave (ka.dropLast.map flat) ea.dropLast ++ y :: flat z := by
        have hk2 : ∃ k2 c, ka.dropLast = k2 ++ [c] := by
          rcases List.eq_nil_or_concat ka.dropLast with h | ⟨k2, c, h⟩
          · have : ea.dropLast.length + 1 = 0 := by rw [h] at hkl; simp at hkl; omega
            omega
          · exact ⟨k2, c, by rw [h]; simp⟩
        obtain ⟨k2, c, hk2⟩ := hk2
        have hk2l : k2.length = ea.dropLast.length := by rw [hk2] at hkl; simp at hkl; simp; omega
        conv => lhs; rw [e, ek, hk2]
        rw [hk2]
        have w1 := weave_at (flat c) (k2.map flat) ea.dropLast [y] [flat z] (by simpa using hk2l) rfl
        have w2 := weave_at (flat c) (k2.map flat) ea.dropLast [] [] (by simpa using hk2l) rfl
        simp only [List.append_nil] at w2
        simp only [List.map_append, List.map_cons, List.map_nil, List.append_assoc, List.cons_append, List.nil_append]
        rw [w1, w2]
        simp [wr]
      rw [e5]
      simp
    · refine ⟨?_, ?_, ?_, fun c hc => h4 c (List.dropLast_subset _ hc)⟩
      · show ea.length - 1 ≤ ea.dropLast.length; simp
      · show ea.dropLast.length ≤ 5; omega
      · show ka.dropLast.length = ea.dropLast.length + 1; omega
    · refine ⟨?_, ?_, ?_, fun c hc => ?_⟩
      · show eb.length + 1 ≤ (x :: eb).length; simp
      · show (x :: eb).length ≤ 5; have : eb.length < 5 := h; simp; omega
      · show (ka.getLast?.toList ++ kb).length = (x :: eb).length + 1
        rw [hz]; simp; omega
      · have hc' : c ∈ ka.getLast?.toList ++ kb := hc
        rw [hz] at hc'
        simp at hc'
        rcases hc' with rfl | hc'
        · exact h4 _ (by rw [ek]; simp)
        · exact g4 _ hc'

/-- The first entry goes over to the neighbour. -/
theorem move_left {lo lo2 d : Nat} {a b : BT V d} {x y : Key × V} (ha : Shape lo a) (hb : Shape lo2 b) (hy : (ents b).head? = some y) :
    flat (pushLast a x b) ++ y :: flat (popFirst b) = flat a ++ x :: flat b ∧ Shape ((ents b).length - 1) (popFirst b) ∧ ((ents a).length < 5 → Shape ((ents a).length + 1) (pushLast a x b)) := by
  cases d with
  | zero => exact leaf_left a b x y hb.2 hy
  | succ d =>
    obtain ⟨ea, ka⟩ := a
    obtain ⟨eb, kb⟩ := b
    have h1 : eb.length ≤ 5 := hb.2.1
    have h3 : ka.length = ea.length + 1 := ha.2.2.1
    have h4 : ∀ c ∈ ka, Shape 2 c := ha.2.2.2
    have g3 : kb.length = eb.length + 1 := hb.2.2.1
    have g4 : ∀ c ∈ kb, Shape 2 c := hb.2.2.2
    cases eb with
    | nil => cases hy
    | cons y' eb =>
      have : y' = y := Option.some.inj hy
      subst this
      cases kb with
      | nil => simp at g3
      | cons z kb =>
        refine ⟨?_, ?_, fun h => ?_⟩
        · show weave ((ka ++ [z]).map flat) (ea ++ [x]) ++ y' :: weave (kb.map flat) eb = weave (ka.map flat) ea ++ x :: weave ((z :: kb).map flat) (y' :: eb)
          obtain ⟨k2, c, hk2⟩ : ∃ k2 c, ka = k2 ++ [c] := by
            rcases List.eq_nil_or_concat ka with h | ⟨k2, c, h⟩
            · rw [h] at h3; simp at h3
            · exact ⟨k2, c, by rw [h]; simp⟩
          have hk2l : k2.length = ea.length := by rw [hk2] at h3; simp at h3; exact h3
          rw [hk2]
          have w1 := weave_at (flat c) (k2.map flat) ea [x] [flat z] (by simpa using hk2l) rfl
          have w2 := weave_at (flat c) (k2.map flat) ea [] [] (by simpa using hk2l) rfl
          simp only [List.append_nil] at w2
          simp only [List.map_append, List.map_cons, List.map_nil, List.append_assoc, List.cons_append, List.nil_append]
          rw [w1, w2]
          simp [wr, weave]
        · refine ⟨?_, ?_, ?_, fun c hc => g4 c (List.mem_of_mem_tail hc)⟩
          · show (y' :: eb).length - 1 ≤ eb.length; simp
          · show eb.length ≤ 5; simp at h1; omega
          · show kb.length = eb.length + 1; simp at g3; omega
        · refine ⟨?_, ?_, ?_, fun c hc => ?_⟩
          · show ea.length + 1 ≤ (ea ++ [x]).length; simp
          · show (ea ++ [x]).length ≤ 5; have : ea.length < 5 := h; simp; omega
          · show (ka ++ [z]).length = (ea ++ [x]).length + 1; simp; omega
          · have hc' : c ∈ ka ++ [z] := hc
            simp at hc'
            rcases hc' with hc' | rfl
            · exact h4 _ hc'
            · exact g4 _ (by simp)

/-- Two pages become one. -/
theorem glue_both {lo lo2 d : Nat} {a b : BT V d} {x : Key × V} (ha : Shape lo a) (hb : Shape lo2 b) :
    flat (glue a x b) = flat a ++ x :: flat b ∧ ((ents a).length + (ents b).length < 5 → Shape ((ents a).length + (ents b).length + 1) (glue a x b)) := by
  cases d with
  | zero => exact leaf_glue a b x
  | succ d =>
    obtain ⟨ea, ka⟩ := a
    obtain ⟨eb, kb⟩ := b
    have h3 : ka.length = ea.length + 1 := ha.2.2.1
    have h4 : ∀ c ∈ ka, Shape 2 c := ha.2.2.2
    have g3 : kb.length = eb.length + 1 := hb.2.2.1
    have g4 : ∀ c ∈ kb, Shape 2 c := hb.2.2.2
    refine ⟨?_, fun h => ⟨?_, ?_, ?_, fun c hc => ?_⟩⟩
    · show weave ((ka ++ kb).map flat) (ea ++ x :: eb) = weave (ka.map flat) ea ++ x :: weave (kb.map flat) eb
      obtain ⟨k2, c, hk2⟩ : ∃ k2 c, ka = k2 ++ [c] := by
        rcases List.eq_nil_or_concat ka with h | ⟨k2, c, h⟩
        · rw [h] at h3; simp at h3
        · exact ⟨k2, c, by rw [h]; simp⟩
      have hk2l : k2.length = ea.length := by rw [hk2] at h3; simp at h3; exact h3
      rw [hk2]
      cases kb with
      | nil => simp at g3
      | cons z kb =>
        have w1 := weave_at (flat c) (k2.map flat) ea (x :: eb) ((z :: kb).map flat) (by simpa using hk2l) (by simpa using g3)
        have w2 := weave_at (flat c) (k2.map flat) ea [] [] (by simpa using hk2l) rfl
        have w3 := weave_cons (flat z) eb (kb.map flat) (by simpa using g3)
        simp only [List.append_nil] at w2
        simp only [List.map_append, List.map_cons, List.map_nil, List.append_assoc, List.cons_append, List.nil_append] at w1 w2 ⊢
        rw [w1, w2, w3]
        simp [wr]
    · show ea.length + eb.length + 1 ≤ (ea ++ x :: eb).length; simp; omega
    · show (ea ++ x :: eb).length ≤ 5; have : ea.length + eb.length < 5 := h; simp; omega
    · show (ka ++ kb).length = (ea ++ x :: eb).length + 1; simp; omega
    · have hc' : c ∈ ka ++ kb := hc
      rcases List.mem_append.1 hc' with h | h
      · exact h4 _ h
      · exact g4 _ h

end Go.Tr
