/- What last, put, drop and get do to the entries, in order. -/
import Derived.Test.YtohhoojcgcbmcaaBTree3
set_option maxRecDepth 4000
set_option linter.unusedVariables false
set_option linter.unusedSimpArgs false
namespace Go.Tr
open Go Go.Vc

variable {V : Type}

/-! ### lists of entries, cut -/

def ins (k : Key) (v : V) (t : List (Key × V)) : List (Key × V) := if has t k then t.set (idx t k) (k, v) else t.take (idx t k) ++ ((k, v) :: t.drop (idx t k))
def del (k : Key) (t : List (Key × V)) : List (Key × V) := if has t k then t.take (idx t k) ++ t.drop (idx t k + 1) else t

theorem sorted_append {A B : List (Key × V)} : Sorted (A ++ B) ↔ Sorted A ∧ Sorted B ∧ ∀ x ∈ A, ∀ y ∈ B, sLt x.1 y.1 = true := by
  induction A with
  | nil => simp [Sorted]
  | cons a A ih =>
    simp only [List.cons_append, Sorted, ih]
    constructor
    · rintro ⟨h1, h2, h3, h4⟩
      refine ⟨⟨fun x hx => h1 x (by simp [hx]), h2⟩, h3, ?_⟩
      intro x hx y hy
      rcases List.mem_cons.1 hx with rfl | hx
      · exact h1 y (by simp [hy])
      · exact h4 x hx y hy
    · rintro ⟨⟨h1, h2⟩, h3, h4⟩
      refine ⟨fun x hx => ?_, h2, h3, fun x hx y hy => h4 x (by simp [hx]) y hy⟩
      rcases List.mem_append.1 hx with hx | hx
      · exact h1 x hx
      · exact h4 a (by simp) x hx

theorem takeWhile_all {α : Type} {p : α → Bool} : ∀ {l : List α}, (∀ x ∈ l, p x = true) → l.takeWhile p = l
  | [], _ => rfl
  | a :: l, h => by rw [List.takeWhile_cons, if_pos (h a (by simp)), takeWhile_all fun x hx => h x (by simp [hx])]

theorem idx_mid {L M R : List (Key × V)} {k : Key} (hL : ∀ x ∈ L, sLt x.1 k = true) (hR : ∀ x ∈ R, sLt k x.1 = true) : idx (L ++ (M ++ R)) k = L.length + idx M k := by
  unfold idx
  have h1 : List.takeWhile (fun e => sLt e.1 k) L = L := by
    exact takeWhile_all hL
  rw [List.takeWhile_append, h1, if_pos rfl, List.length_append, List.takeWhile_append]
  congr 1
  have h2 : List.takeWhile (fun e => sLt e.1 k) R = [] := by
    cases R with
    | nil => rfl
    | cons r R =>
      rw [List.takeWhile_cons, if_neg]
      rw [lt_asymm (hR r (by simp))]; simp
  split
  · rename_i h
    rw [h2, h]; simp
  · rfl

theorem has_mid {L M R : List (Key × V)} {k : Key} (hL : ∀ x ∈ L, sLt x.1 k = true) (hR : ∀ x ∈ R, sLt k x.1 = true) : has (L ++ (M ++ R)) k = has M k := by
  unfold has
  rw [idx_mid hL hR, List.getElem?_append_right (by omega), show L.length + idx M k - L.length = idx M k by omega]
  have hle := idx_le M k
  by_cases h : idx M k < M.length
  · rw [List.getElem?_append_left h]
  · rw [List.getElem?_append_right (by omega), show idx M k - M.length = 0 by omega, List.getElem?_eq_none (by omega : M.length ≤ idx M k)]
    cases R with
    | nil => rfl
    | cons r R =>
      show sEq r.1 k = false
      have := lt_ne (hR r (by simp))
      cases h3 : sEq r.1 k with
      | false => rfl
      | true => exact absurd (eq_iff.1 h3).symm this

theorem ins_mid {L M R : List (Key × V)} {k : Key} {v : V} (hL : ∀ x ∈ L, sLt x.1 k = true) (hR : ∀ x ∈ R, sLt k x.1 = true) : ins k v (L ++ (M ++ R)) = L ++ (ins k v M ++ R) := by
  unfold ins
  rw [idx_mid hL hR, has_mid hL hR]
  have hle := idx_le M k
  split
  · rename_i h
    have hlt : idx M k < M.length := by
      refine Nat.lt_of_not_le fun hh => ?_
      unfold has at h
      rw [List.getElem?_eq_none hh] at h; cases h
    rw [List.set_append_right _ _ (by omega), List.set_append_left _ _ (by omega)]
    congr 3; omega
  · rw [List.take_append, List.drop_append, List.take_of_length_le (by omega), List.drop_eq_nil_of_le (by omega)]
    rw [show L.length + idx M k - L.length = idx M k by omega, List.take_append_of_le_length hle, List.drop_append_of_le_length hle]
    simp

theorem del_mid {L M R : List (Key × V)} {k : Key} (hL : ∀ x ∈ L, sLt x.1 k = true) (hR : ∀ x ∈ R, sLt k x.1 = true) : del k (L ++ (M ++ R)) = L ++ (del k M ++ R) := by
  unfold del
  rw [idx_mid hL hR, has_mid hL hR]
  split
  · rename_i h
    have hlt : idx M k < M.length := by
      refine Nat.lt_of_not_le fun hh => ?_
      unfold has at h
      rw [List.getElem?_eq_none hh] at h; cases h
    rw [List.take_append, List.drop_append, List.take_of_length_le (by omega), List.drop_eq_nil_of_le (by omega)]
    rw [show L.length + idx M k - L.length = idx M k by omega, show L.length + idx M k + 1 - L.length = idx M k + 1 by omega, List.take_append_of_le_length (Nat.le_of_lt hlt), List.drop_append_of_le_length hlt]
    simp
  · rfl

theorem val_mid {L M R : List (Key × V)} {k : Key} (hL : ∀ x ∈ L, sLt x.1 k = true) (hR : ∀ x ∈ R, sLt k x.1 = true) : valAt (L ++ (M ++ R)) k = valAt M k := by
  unfold valAt
  rw [has_mid hL hR, idx_mid hL hR]
  split
  · rename_i h
    have hlt : idx M k < M.length := by
      refine Nat.lt_of_not_le fun hh => ?_
      unfold has at h
      rw [List.getElem?_eq_none hh] at h; cases h
    rw [List.getElem?_append_right (by omega), show L.length + idx M k - L.length = idx M k by omega, List.getElem?_append_left hlt]
  · rfl

/-- One entry that has the key. -/
theorem one_key {x : Key × V} {k : Key} (h : x.1 = k) : idx [x] k = 0 ∧ has [x] k = true := by
  have h0 : idx [x] k = 0 := by
    unfold idx
    rw [List.takeWhile_cons, if_neg]; rfl
    rw [h, lt_irrefl]; simp
  refine ⟨h0, ?_⟩
  unfold has
  rw [h0]
  exact eq_iff.2 h
theorem ins_one {x : Key × V} {k : Key} {v : V} (h : x.1 = k) : ins k v [x] = [(k, v)] := by
  unfold ins
  rw [(one_key h).1, (one_key h).2]; rfl
theorem del_one {x : Key × V} {k : Key} (h : x.1 = k) : del k [x] = [] := by
  unfold del
  rw [(one_key h).1, (one_key h).2]; rfl
theorem val_one {x : Key × V} {k : Key} (h : x.1 = k) : valAt [x] k = some x.2 := by
  unfold valAt
  rw [(one_key h).1, (one_key h).2]; rfl

theorem has_some {es : List (Key × V)} {k : Key} (h : has es k = true) : ∃ x, es[idx es k]? = some x ∧ x.1 = k := by
  unfold has at h
  split at h
  · rename_i x hx
    exact ⟨x, hx, eq_iff.1 h⟩
  · cases h

/-! ### sizes -/

/-- The shape below the top. -/
def Core : {d : Nat} → BT V d → Prop
  | 0, _ => True
  | _ + 1, t => t.2.length = t.1.length + 1 ∧ ∀ c ∈ t.2, Shape 2 c

theorem shape_iff {lo d : Nat} {t : BT V d} : Shape lo t ↔ lo ≤ (ents t).length ∧ (ents t).length ≤ 5 ∧ Core t := by
  cases d with
  | zero => exact ⟨fun h => ⟨h.1, h.2, trivial⟩, fun h => ⟨h.1, h.2.1⟩⟩
  | succ d => exact Iff.rfl

/-- The entries of the top page are among all. -/
theorem wl_sorted {α : Type} {P : α → α → Prop} : ∀ (ks : List (List α)) (es : List α), (weave ks es).Pairwise P → ks.length = es.length + 1 → es.Pairwise P
  | [], es, _, h => by simp at h
  | k :: ks, [], _, _ => List.Pairwise.nil
  | k :: ks, e :: es, h, hl => by
    have h2 : (weave (k :: ks) (e :: es)) = k ++ e :: weave ks es := rfl
    rw [h2, List.pairwise_append] at h
    have h3 := h.2.1
    rw [List.pairwise_cons] at h3
    refine List.Pairwise.cons (fun x hx => ?_) (wl_sorted ks es h3.2 (by simpa using hl))
    refine h3.1 x ?_
    have mem : ∀ (ks : List (List α)) (es : List α), ks.length = es.length + 1 → ∀ x ∈ es, x ∈ weave ks es := by
      intro ks es
      induction es generalizing ks with
      | nil => intro _ x hx; cases hx
      | cons e es ih =>
        intro hl x hx
        cases ks with
        | nil => simp at hl
        | cons k ks =>
          show x ∈ k ++ e :: weave ks es
          rcases List.mem_cons.1 hx with rfl | hx
          · simp
          · simp [ih ks (by simpa using hl) x hx]
    exact mem ks es (by simpa using hl) x hx

theorem sorted_pair {es : List (Key × V)} : Sorted es ↔ es.Pairwise (fun a b => sLt a.1 b.1 = true) := by
  induction es with
  | nil => simp [Sorted]
  | cons e es ih => simp only [Sorted, List.pairwise_cons, ih]

theorem row_sorted {d : Nat} {t : Row V d} (hl : t.2.length = t.1.length + 1) (h : Sorted (flatR t)) : Sorted t.1 := by
  rw [sorted_pair] at h ⊢
  exact wl_sorted _ _ h (by simpa using hl)

theorem row_kid_sorted {d : Nat} {t : Row V d} (hl : t.2.length = t.1.length + 1) (h : Sorted (flatR t)) {c : BT V d} (hc : c ∈ t.2) : Sorted (flat c) := by
  obtain ⟨n, hn⟩ := List.mem_iff_getElem?.1 hc
  rw [flatR_at hl hn] at h
  exact (sorted_append.1 (sorted_append.1 h).2.1).1

theorem Shape.fit {lo d : Nat} {t : BT V d} (h : Shape lo t) (hs : Sorted (flat t)) : Fit t := by
  induction d generalizing lo with
  | zero => exact ⟨hs, Nat.lt_of_le_of_lt h.2 (by decide)⟩
  | succ d ih => exact ⟨row_sorted h.2.2.1 hs, Nat.lt_of_le_of_lt h.2.1 (by decide), h.2.2.1, fun c hc => ih (h.2.2.2 c hc) (row_kid_sorted h.2.2.1 hs hc)⟩

end Go.Tr
