/- What is next, ahead and last, and the tree with its top. -/
import Derived.Test.YtohhoojcgcbmcaaBTree7
set_option maxRecDepth 4000
set_option linter.unusedVariables false
set_option linter.unusedSimpArgs false
namespace Go.Tr
open Go Go.Vc

variable {V : Type}

/-! ### next, ahead -/

def nextQ (k : Key) (incl : Bool) (e : Key × V) : Bool := sLt k e.1 || (incl && sEq e.1 k)
def aheadQ (k : Key) (incl : Bool) (e : Key × V) : Bool := sLt e.1 k || (incl && sEq e.1 k)
def nextE (es : List (Key × V)) (k : Key) (incl : Bool) : Option (Key × V) := es.find? (nextQ k incl)
def aheadE (es : List (Key × V)) (k : Key) (incl : Bool) : Option (Key × V) := es.reverse.find? (aheadQ k incl)

theorem find_none {α : Type} {q : α → Bool} : ∀ {L : List α}, (∀ x ∈ L, q x = false) → L.find? q = none
  | [], _ => rfl
  | a :: L, h => by rw [List.find?_cons_of_neg (by rw [h a (by simp)]; simp)]; exact find_none fun x hx => h x (by simp [hx])
theorem find_head {α : Type} {q : α → Bool} : ∀ {R : List α}, (∀ x ∈ R, q x = true) → R.find? q = R.head?
  | [], _ => rfl
  | a :: R, h => by rw [List.find?_cons_of_pos (h a (by simp))]; rfl

theorem find_mid {α : Type} {q : α → Bool} {L M R : List α} (hL : ∀ x ∈ L, q x = false) (hR : ∀ x ∈ R, q x = true) : (L ++ (M ++ R)).find? q = (M.find? q).or R.head? := by
  rw [List.find?_append, List.find?_append, find_none hL, find_head hR]; rfl
theorem find_mid_rev {α : Type} {q : α → Bool} {L M R : List α} (hL : ∀ x ∈ L, q x = true) (hR : ∀ x ∈ R, q x = false) : (L ++ (M ++ R)).reverse.find? q = (M.reverse.find? q).or L.getLast? := by
  rw [List.reverse_append, List.reverse_append, List.append_assoc, List.find?_append, List.find?_append, find_none (L := R.reverse) (fun x hx => hR x (by simpa using hx)),
    find_head (R := L.reverse) (fun x hx => hL x (by simpa using hx)), List.head?_reverse]; rfl

theorem find_at {α : Type} {q : α → Bool} : ∀ {t : List α} {i : Nat}, (∀ j x, j < i → t[j]? = some x → q x = false) → (∀ x, t[i]? = some x → q x = true) → t.find? q = t[i]?
  | [], _, _, _ => by simp
  | a :: t, 0, _, h2 => by rw [List.find?_cons_of_pos (h2 a rfl)]; rfl
  | a :: t, i + 1, h1, h2 => by
    rw [List.find?_cons_of_neg (by rw [h1 0 a (by omega) rfl]; simp)]
    exact find_at (fun j x hj hx => h1 (j + 1) x (by omega) (by simpa using hx)) (fun x hx => h2 x (by simpa using hx))

theorem ne_of_lt {x y : Key} (h : sLt x y = true) : sEq x y = false := by
  cases h2 : sEq x y with
  | false => rfl
  | true => exact absurd (eq_iff.1 h2) (lt_ne h)
theorem ne_of_gt {x y : Key} (h : sLt x y = true) : sEq y x = false := by
  cases h2 : sEq y x with
  | false => rfl
  | true => exact absurd (eq_iff.1 h2).symm (lt_ne h)

theorem nextQ_lt {k : Key} {incl : Bool} {x : Key × V} (h : sLt x.1 k = true) : nextQ k incl x = false := by unfold nextQ; rw [lt_asymm h, ne_of_lt h]; cases incl <;> rfl
theorem nextQ_gt {k : Key} {incl : Bool} {x : Key × V} (h : sLt k x.1 = true) : nextQ k incl x = true := by unfold nextQ; rw [h]; rfl
theorem nextQ_eq {k : Key} {incl : Bool} {x : Key × V} (h : x.1 = k) : nextQ k incl x = incl := by unfold nextQ; rw [h, lt_irrefl, eq_iff.2 rfl]; cases incl <;> rfl
theorem aheadQ_lt {k : Key} {incl : Bool} {x : Key × V} (h : sLt x.1 k = true) : aheadQ k incl x = true := by unfold aheadQ; rw [h]; rfl
theorem aheadQ_gt {k : Key} {incl : Bool} {x : Key × V} (h : sLt k x.1 = true) : aheadQ k incl x = false := by unfold aheadQ; rw [lt_asymm h, ne_of_gt h]; cases incl <;> rfl
theorem aheadQ_eq {k : Key} {incl : Bool} {x : Key × V} (h : x.1 = k) : aheadQ k incl x = incl := by unfold aheadQ; rw [h, lt_irrefl, eq_iff.2 rfl]; cases incl <;> rfl

/-- Behind a key's place the keys are greater. -/
theorem idx_gt {es : List (Key × V)} {k : Key} (hs : Sorted es) {i : Nat} {x : Key × V} (hx : es[i]? = some x) (h : idx es k < i ∨ (idx es k = i ∧ has es k = false)) : sLt k x.1 = true := by
  rcases h with h | ⟨rfl, h⟩
  · have hn := (List.getElem?_eq_some_iff.1 hx).1
    obtain ⟨y, hy⟩ : ∃ y, es[idx es k]? = some y := ⟨_, List.getElem?_eq_getElem (by omega)⟩
    have h1 := idx_ge hs hy (Nat.le_refl _)
    have h2 := hs.get h hy hx
    cases h3 : sLt k y.1 with
    | true => exact lt_trans h3 h2
    | false => rw [lt_total h3 h1]; exact h2
  · have h1 := idx_ge hs hx (Nat.le_refl _)
    unfold has at h
    rw [hx] at h
    dsimp only at h
    cases h3 : sLt k x.1 with
    | true => rfl
    | false =>
      have := lt_total h3 h1
      rw [eq_iff.2 this.symm] at h; cases h

theorem next_at {es : List (Key × V)} {k : Key} {incl : Bool} (hs : Sorted es) : nextE es k incl = es[if has es k && !incl then idx es k + 1 else idx es k]? := by
  unfold nextE
  refine find_at (fun j x hj hx => ?_) (fun x hx => ?_)
  · split at hj
    · rename_i h
      simp at h
      by_cases hji : j < idx es k
      · exact nextQ_lt (idx_lt hx hji)
      · obtain ⟨y, hy, hyk⟩ := has_some h.1
        obtain rfl : j = idx es k := by omega
        rw [hy] at hx; cases hx
        rw [nextQ_eq hyk, h.2]
    · exact nextQ_lt (idx_lt hx hj)
  · split at hx
    · exact nextQ_gt (idx_gt hs hx (.inl (by omega)))
    · rename_i h
      simp at h
      cases hh : has es k with
      | true =>
        obtain ⟨y, hy, hyk⟩ := has_some hh
        rw [hy] at hx; cases hx
        rw [nextQ_eq hyk, h hh]
      | false => exact nextQ_gt (idx_gt hs hx (.inr ⟨rfl, hh⟩))

theorem ahead_at {es : List (Key × V)} {k : Key} {incl : Bool} (hs : Sorted es) :
    aheadE es k incl = (es.take (if has es k && incl then idx es k + 1 else idx es k)).getLast? := by
  unfold aheadE
  generalize hi : (if has es k && incl then idx es k + 1 else idx es k) = i
  have e : es = es.take i ++ ([] ++ es.drop i) := by simp
  conv => lhs; rw [e]
  rw [find_mid_rev]
  · rfl
  · intro x hx
    obtain ⟨j, hj⟩ := List.mem_iff_getElem?.1 hx
    have hjl := (List.getElem?_eq_some_iff.1 hj).1
    have hj : es[j]? = some x := by rw [List.getElem?_take_of_lt (by simp at hjl; omega)] at hj; exact hj
    simp at hjl
    by_cases hji : j < idx es k
    · exact aheadQ_lt (idx_lt hj hji)
    · split at hi
      · rename_i h
        simp at h
        obtain ⟨y, hy, hyk⟩ := has_some h.1
        obtain rfl : j = idx es k := by omega
        rw [hy] at hj; cases hj
        rw [aheadQ_eq hyk, h.2]
      · omega
  · intro x hx
    obtain ⟨j, hj⟩ := List.mem_iff_getElem?.1 hx
    rw [List.getElem?_drop] at hj
    split at hi
    · exact aheadQ_gt (idx_gt hs hj (.inl (by omega)))
    · rename_i h
      simp at h
      by_cases hji : i + j = idx es k
      · cases hh : has es k with
        | true =>
          obtain ⟨y, hy, hyk⟩ := has_some hh
          rw [hji, hy] at hj; cases hj
          rw [aheadQ_eq hyk]; exact h hh
        | false => exact aheadQ_gt (idx_gt hs hj (.inr ⟨hji.symm, hh⟩))
      · exact aheadQ_gt (idx_gt hs hj (.inl (by omega)))

section rows
variable {d : Nat} {t : Row V d} {k : Key}

theorem rights_head (hl : t.2.length = t.1.length + 1) {n : Nat} : (rights t n).head? = t.1[n]? := by
  by_cases hn : n < t.1.length
  · obtain ⟨y, hy⟩ : ∃ y, t.1[n]? = some y := ⟨_, List.getElem?_eq_getElem hn⟩
    rw [rights_cons hy (List.getElem?_eq_getElem (show n + 1 < t.2.length by omega)), hy]; rfl
  · rw [List.getElem?_eq_none (by omega)]
    unfold rights
    rw [List.drop_eq_nil_of_le (by omega)]
    simp [wr]

theorem lefts_zero : lefts t 0 = [] := by unfold lefts; simp [wl]
theorem lefts_last (hl : t.2.length = t.1.length + 1) {n : Nat} (hn : n ≤ t.1.length) : (lefts t n).getLast? = (t.1.take n).getLast? := by
  cases n with
  | zero => rw [lefts_zero]; simp
  | succ m =>
    obtain ⟨y, hy⟩ : ∃ y, t.1[m]? = some y := ⟨_, List.getElem?_eq_getElem (by omega)⟩
    obtain ⟨a, ha⟩ : ∃ a, t.2[m]? = some a := ⟨_, List.getElem?_eq_getElem (by omega)⟩
    have h1 := List.getElem?_eq_some_iff.1 hy
    rw [lefts_snoc hy ha, List.take_succ_eq_append_getElem h1.1, h1.2]
    simp [List.getLast?_append]

/-- The key itself stands in the row. -/
theorem row_has (hl : t.2.length = t.1.length + 1) (hs : Sorted (flatR t)) (hh : has t.1 k = true) {x : Key × V} (hx : t.1[idx t.1 k]? = some x) (hxk : x.1 = k) :
    ∃ L R, flatR t = L ++ ([x] ++ R) ∧ (∀ y ∈ L, sLt y.1 k = true) ∧ ∀ y ∈ R, sLt k y.1 = true := by
  have hn := (List.getElem?_eq_some_iff.1 hx).1
  obtain ⟨a, ha⟩ : ∃ a, t.2[idx t.1 k]? = some a := ⟨_, List.getElem?_eq_getElem (by omega)⟩
  have e := flatR_at hl ha
  rw [rights_cons hx (List.getElem?_eq_getElem (show idx t.1 k + 1 < t.2.length by omega))] at e
  have e2 : flatR t = (lefts t (idx t.1 k) ++ flat a) ++ ([x] ++ (flat (t.2[idx t.1 k + 1]'(by omega)) ++ rights t (idx t.1 k + 1))) := by rw [e]; simp
  have hs2 := hs
  rw [e2] at hs2
  have := mid_sides hs2
  rw [hxk] at this
  exact ⟨_, _, e2, this.1, this.2⟩

theorem row_next (hl : t.2.length = t.1.length + 1) (hs : Sorted (flatR t)) {incl : Bool} (hq : (has t.1 k && incl) = false) {i : Nat} (hi : i = if has t.1 k then idx t.1 k + 1 else idx t.1 k) {c : BT V d} (hc : t.2[i]? = some c) :
    nextE (flatR t) k incl = (nextE (flat c) k incl).or t.1[i]? := by
  unfold nextE
  rw [flatR_at hl hc, ← rights_head hl]
  cases hh : has t.1 k with
  | false =>
    rw [hh] at hi
    subst hi
    exact find_mid (fun x hx => nextQ_lt (lefts_lt hl hs x hx)) (fun x hx => nextQ_gt (rights_gt hl hs hh x hx))
  | true =>
    rw [hh] at hi hq
    obtain ⟨x, hx, hxk⟩ := has_some hh
    have hi : i = idx t.1 k + 1 := hi
    subst hi
    obtain ⟨a, ha⟩ : ∃ a, t.2[idx t.1 k]? = some a := ⟨_, List.getElem?_eq_getElem (by have := (List.getElem?_eq_some_iff.1 hx).1; omega)⟩
    have e := flatR_at hl hc
    rw [lefts_snoc hx ha] at e
    have e2 : flatR t = (lefts t (idx t.1 k) ++ flat a) ++ ([x] ++ (flat c ++ rights t (idx t.1 k + 1))) := by rw [e]; simp
    have hs2 := hs
    rw [e2] at hs2
    have := mid_sides hs2
    rw [hxk] at this
    refine find_mid (fun y hy => ?_) (fun y hy => nextQ_gt (this.2 y (by simp [hy])))
    rw [lefts_snoc hx ha, ← List.append_assoc] at hy
    rcases List.mem_append.1 hy with hy | hy
    · exact nextQ_lt (this.1 y hy)
    · simp at hy; subst hy
      rw [nextQ_eq hxk]; simpa using hq

theorem row_next_has (hl : t.2.length = t.1.length + 1) (hs : Sorted (flatR t)) (hh : has t.1 k = true) : nextE (flatR t) k true = t.1[idx t.1 k]? := by
  obtain ⟨x, hx, hxk⟩ := has_some hh
  obtain ⟨L, R, e, h1, h2⟩ := row_has hl hs hh hx hxk
  unfold nextE
  rw [e, find_mid (fun y hy => nextQ_lt (h1 y hy)) (fun y hy => nextQ_gt (h2 y hy)), List.find?_cons_of_pos (nextQ_eq hxk), hx]; rfl

theorem row_ahead_has (hl : t.2.length = t.1.length + 1) (hs : Sorted (flatR t)) (hh : has t.1 k = true) : aheadE (flatR t) k true = t.1[idx t.1 k]? := by
  obtain ⟨x, hx, hxk⟩ := has_some hh
  obtain ⟨L, R, e, h1, h2⟩ := row_has hl hs hh hx hxk
  unfold aheadE
  rw [e, find_mid_rev (fun y hy => aheadQ_lt (h1 y hy)) (fun y hy => aheadQ_gt (h2 y hy))]
  simp [aheadQ_eq hxk, hx]

theorem row_ahead (hl : t.2.length = t.1.length + 1) (hs : Sorted (flatR t)) {incl : Bool} (hq : (has t.1 k && incl) = false) {c : BT V d} (hc : t.2[idx t.1 k]? = some c) :
    aheadE (flatR t) k incl = (aheadE (flat c) k incl).or (t.1.take (idx t.1 k)).getLast? := by
  unfold aheadE
  rw [flatR_at hl hc, ← lefts_last hl (idx_le _ _)]
  refine find_mid_rev (fun x hx => aheadQ_lt (lefts_lt hl hs x hx)) (fun x hx => ?_)
  cases hh : has t.1 k with
  | false => exact aheadQ_gt (rights_gt hl hs hh x hx)
  | true =>
    rw [hh] at hq
    obtain ⟨y, hy, hyk⟩ := has_some hh
    have hn := (List.getElem?_eq_some_iff.1 hy).1
    have e := flatR_at hl hc
    rw [rights_cons hy (List.getElem?_eq_getElem (show idx t.1 k + 1 < t.2.length by omega))] at e hx
    have e2 : flatR t = (lefts t (idx t.1 k) ++ flat c) ++ ([y] ++ (flat (t.2[idx t.1 k + 1]'(by omega)) ++ rights t (idx t.1 k + 1))) := by rw [e]; simp
    have hs2 := hs
    rw [e2] at hs2
    have := mid_sides hs2
    rw [hyk] at this
    rcases List.mem_cons.1 hx with rfl | hx
    · rw [aheadQ_eq hyk]; simpa using hq
    · exact aheadQ_gt (this.2 x hx)

theorem row_last (hl : t.2.length = t.1.length + 1) {c : BT V d} (hc : t.2[t.1.length]? = some c) : (flatR t).getLast? = ((flat c).getLast?).or t.1.getLast? := by
  rw [flatR_at hl hc]
  have : rights t t.1.length = [] := by unfold rights; rw [List.drop_eq_nil_of_le (Nat.le_refl _)]; simp [wr]
  rw [this, List.append_nil, List.getLast?_append, lefts_last hl (Nat.le_refl _), List.take_length]
end rows

/-! ### trees -/

abbrev Top (V : Type) := (d : Nat) × BT V d

def Top.all (T : Top V) : List (Key × V) := flat T.2
def Good (T : Top V) : Prop := Shape (if T.1 = 0 then 0 else 1) T.2 ∧ Sorted (flat T.2)

def putT (k : Key) (v : V) (T : Top V) : Top V :=
  if 5 < (ents (putP k v T.2)).length then ⟨T.1 + 1, splitP ([], [putP k v T.2]) 0⟩ else ⟨T.1, putP k v T.2⟩
def upT : Top V → Top V
  | ⟨0, t⟩ => ⟨0, t⟩
  | ⟨d + 1, t⟩ => match t.1, t.2 with
    | [], c :: _ => ⟨d, c⟩
    | _, _ => ⟨d + 1, t⟩
def dropT (x0 : Key × V) (k : Key) (T : Top V) : Top V := upT ⟨T.1, dropP x0 k T.2⟩

theorem sorted_ins {k : Key} {v : V} {es : List (Key × V)} (hs : Sorted es) : Sorted (ins k v es) := by
  unfold ins
  split
  · rename_i hh
    obtain ⟨x, hx, hxk⟩ := has_some hh
    have e := list_at hx
    have hn := (List.getElem?_eq_some_iff.1 hx).1
    have hl : (es.take (idx es k)).length = idx es k := by simp; omega
    generalize hm : idx es k = m at *
    have hs2 := hs
    rw [e] at hs2 ⊢
    rw [set_len hl]
    rw [sorted_append] at hs2 ⊢
    refine ⟨hs2.1, ⟨fun y hy => ?_, hs2.2.1.2⟩, fun y hy z hz => ?_⟩
    · have := hs2.2.1.1 y hy; rwa [hxk] at this
    · rcases List.mem_cons.1 hz with rfl | hz
      · have := hs2.2.2 y hy x (by simp); rwa [hxk] at this
      · exact hs2.2.2 y hy z (by simp [hz])
  · rename_i hh
    simp only [Bool.not_eq_true] at hh
    have e : es.take (idx es k) ++ es.drop (idx es k) = es := List.take_append_drop _ _
    have hs2 := hs
    rw [← e, sorted_append] at hs2
    have hlt : ∀ x ∈ es.take (idx es k), sLt x.1 k = true := by
      intro x hx
      obtain ⟨j, hj⟩ := List.mem_iff_getElem?.1 hx
      have hjl := (List.getElem?_eq_some_iff.1 hj).1
      simp at hjl
      rw [List.getElem?_take_of_lt (by omega)] at hj
      exact idx_lt hj (by omega)
    have hgt : ∀ x ∈ es.drop (idx es k), sLt k x.1 = true := by
      intro x hx
      obtain ⟨j, hj⟩ := List.mem_iff_getElem?.1 hx
      rw [List.getElem?_drop] at hj
      cases j with
      | zero => exact idx_gt hs hj (.inr ⟨rfl, hh⟩)
      | succ j => exact idx_gt hs hj (.inl (by omega))
    rw [sorted_append]
    refine ⟨hs2.1, ⟨hgt, hs2.2.1⟩, fun y hy z hz => ?_⟩
    rcases List.mem_cons.1 hz with rfl | hz
    · exact hlt y hy
    · exact hs2.2.2 y hy z hz

theorem sorted_del {k : Key} {es : List (Key × V)} (hs : Sorted es) : Sorted (del k es) := by
  unfold del
  split
  · rename_i hh
    obtain ⟨x, hx, hxk⟩ := has_some hh
    have hs2 := hs
    rw [list_at hx] at hs2
    have h1 := sorted_append.1 hs2
    exact sorted_append.2 ⟨h1.1, h1.2.1.2, fun y hy z hz => h1.2.2 y hy z (by simp [hz])⟩
  · exact hs

theorem Good.small {T : Top V} (h : Good T) : (ents T.2).length ≤ 5 := h.1.lo.2

theorem putT_ok {k : Key} {v : V} {T : Top V} (h : Good T) : Good (putT k v T) ∧ (putT k v T).all = ins k v T.all := by
  obtain ⟨d, t⟩ := T
  obtain ⟨h1, h2⟩ := h
  dsimp only at h1 h2
  obtain ⟨p1, p2, p3, p4⟩ := put_ok (k := k) (v := v) h1 h2
  have h5 := h1.lo
  have hsi : Sorted (flat (putP k v t)) := by rw [p1]; exact sorted_ins h2
  by_cases h6 : 5 < (ents (putP k v t)).length
  · have e : putT k v ⟨d, t⟩ = ⟨d + 1, splitP ([], [putP k v t]) 0⟩ := if_pos h6
    rw [e]
    obtain ⟨x, x2, x3, x4, x5⟩ := cut_ok (c := putP k v t) (by omega) p4
    have esp : splitP (([], [putP k v t]) : Row V d) 0 = ([x], [cutL (putP k v t), cutR (putP k v t)]) := by
      unfold splitP
      simp [x2]
    have ef : flat (d := d + 1) (splitP (([], [putP k v t]) : Row V d) 0) = flat (putP k v t) := by
      rw [esp, x3]
      show weave [flat (cutL (putP k v t)), flat (cutR (putP k v t))] [x] = _
      simp [weave]
    refine ⟨⟨?_, ?_⟩, ?_⟩
    · dsimp only
      rw [esp, if_neg (by omega)]
      refine ⟨?_, ?_, ?_, ?_⟩
      · show 1 ≤ [x].length; simp
      · show [x].length ≤ 5; simp
      · rfl
      · intro c hc
        have hc : c ∈ [cutL (putP k v t), cutR (putP k v t)] := hc
        simp at hc
        rcases hc with rfl | rfl
        · exact x4
        · exact x5
    · dsimp only
      rw [ef]; exact hsi
    · show flat (d := d + 1) (splitP (([], [putP k v t]) : Row V d) 0) = _
      rw [ef, p1]; rfl
  · have e : putT k v ⟨d, t⟩ = ⟨d, putP k v t⟩ := if_neg h6
    rw [e]
    exact ⟨⟨shape_iff.2 ⟨by dsimp only; omega, by dsimp only; omega, p4⟩, hsi⟩, p1⟩

theorem dropT_ok {x0 : Key × V} {k : Key} {T : Top V} (h : Good T) : Good (dropT x0 k T) ∧ (dropT x0 k T).all = del k T.all := by
  obtain ⟨d, t⟩ := T
  obtain ⟨h1, h2⟩ := h
  unfold dropT Top.all
  dsimp only at h1 h2 ⊢
  obtain ⟨p1, p2, p3, p4⟩ := drop_ok x0 (k := k) h1 (by cases d with | zero => exact .inl rfl | succ d => exact .inr (Nat.le_refl _)) h2
  have h5 := h1.lo
  have hsd : Sorted (flat (dropP x0 k t)) := by rw [p1]; exact sorted_del h2
  cases d with
  | zero =>
    refine ⟨⟨shape_iff.2 ⟨Nat.zero_le _, by show (ents (dropP x0 k t)).length ≤ 5; omega, trivial⟩, hsd⟩, p1⟩
  | succ d =>
    generalize hr : dropP x0 k t = r at *
    obtain ⟨es, ks⟩ := r
    have p4 : ks.length = es.length + 1 ∧ ∀ c ∈ ks, Shape 2 c := p4
    have p3 : es.length ≤ (ents t).length := p3
    cases es with
    | nil =>
      cases ks with
      | nil => simp at p4
      | cons c ks =>
        cases ks with
        | cons c2 ks => simp at p4
        | nil =>
          have e : flat (d := d + 1) (([], [c]) : Row V d) = flat c := by show weave [flat c] [] = _; simp [weave]
          rw [e] at p1 hsd
          have sc := p4.2 c (by simp)
          refine ⟨⟨sc.mono ?_, hsd⟩, p1⟩
          have := sc.lo.1
          show (if d = 0 then 0 else 1) ≤ (ents c).length
          split <;> omega
    | cons x es =>
      refine ⟨⟨⟨?_, ?_, p4.1, p4.2⟩, hsd⟩, p1⟩
      · show (if d + 1 = 0 then 0 else 1) ≤ (x :: es).length; simp
      · show (x :: es).length ≤ 5; omega

theorem ins_len' {k : Key} {v : V} {es : List (Key × V)} : (ins k v es).length = es.length + (if has es k then 0 else 1) := by
  unfold ins
  have := idx_le es k
  split
  · simp
  · simp; omega
theorem del_len' {k : Key} {es : List (Key × V)} : (del k es).length + (if has es k then 1 else 0) = es.length := by
  unfold del
  split
  · rename_i hh
    obtain ⟨x, hx, _⟩ := has_some hh
    have := (List.getElem?_eq_some_iff.1 hx).1
    simp; omega
  · rfl
theorem valAt_some {k : Key} {es : List (Key × V)} : (valAt es k).isSome = has es k := by
  unfold valAt
  split
  · rename_i hh
    obtain ⟨x, hx, _⟩ := has_some hh
    rw [hx, hh]; rfl
  · rename_i hh
    simp only [Bool.not_eq_true] at hh
    rw [hh]; rfl

end Go.Tr
