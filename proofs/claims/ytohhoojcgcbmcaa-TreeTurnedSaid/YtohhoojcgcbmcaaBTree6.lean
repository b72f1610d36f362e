/- What last and drop do to the entries, in order; the tree with its top. -/
import Derived.Test.YtohhoojcgcbmcaaBTree5
set_option maxRecDepth 4000
set_option linter.unusedVariables false
set_option linter.unusedSimpArgs false
namespace Go.Tr
open Go Go.Vc

variable {V : Type}

theorem last_leaf {α : Type} (x0 : α) (t : List α) (h : 1 ≤ t.length) (h5 : t.length ≤ 5) : t = t.dropLast ++ [t.getLast?.getD x0] ∧ t.length ≤ t.dropLast.length + 1 ∧ t.dropLast.length ≤ t.length ∧ True := by
  obtain ⟨y, hy⟩ : ∃ y, t.getLast? = some y := by
    cases hh : t.getLast? with
    | none => rw [List.getLast?_eq_none_iff] at hh; rw [hh] at h; simp at h
    | some y => exact ⟨y, rfl⟩
  rw [hy]
  refine ⟨getLast?_some hy, ?_, ?_, trivial⟩
  · simp; omega
  · simp

theorem last_ok (x0 : Key × V) {lo d : Nat} {t : BT V d} (h : Shape lo t) (h1 : 1 ≤ lo) :
    flat t = flat (lastP t) ++ [lastE x0 t] ∧ (ents t).length ≤ (ents (lastP t)).length + 1 ∧ (ents (lastP t)).length ≤ (ents t).length ∧ Core (lastP t) := by
  induction d generalizing lo with
  | zero => exact last_leaf x0 t (Nat.le_trans h1 h.1) h.2
  | succ d ih =>
    obtain ⟨es, ks⟩ := t
    have hl : ks.length = es.length + 1 := h.2.2.1
    have h5 : es.length ≤ 5 := h.2.1
    have hlo : lo ≤ es.length := h.1
    have hk : ∀ c ∈ ks, Shape 2 c := h.2.2.2
    rw [lastP_row, lastE_row]
    obtain ⟨c, hc⟩ : ∃ c, ks.getLast? = some c := by
      cases hh : ks.getLast? with
      | none => rw [List.getLast?_eq_none_iff] at hh; rw [hh] at hl; simp at hl
      | some c => exact ⟨c, rfl⟩
    rw [hc]
    dsimp only
    have ek := getLast?_some hc
    have hcm : c ∈ ks := by rw [ek]; simp
    obtain ⟨p1, p2, p3, p4⟩ := ih (hk c hcm) (by omega)
    have c2 := (hk c hcm).lo
    have hkl : ks.dropLast.length = es.length := by have := congrArg List.length ek; rw [List.length_append] at this; simp only [List.length_singleton] at this; omega
    have f1 := flatR_of es [] ks.dropLast [] c hkl rfl
    have f2 := flatR_of es [] ks.dropLast [] (lastP c) hkl rfl
    rw [List.append_nil] at f1 f2
    rw [← ek] at f1
    simp only [List.map_nil, wr, List.append_nil] at f1 f2
    have m := mend_ok (t := (es, ks.dropLast ++ [lastP c])) (i := ks.length - 1) (by simp; omega) (by dsimp only; omega) (by simp) (by
      intro j b hb
      dsimp only at hb
      by_cases hj : j = ks.length - 1
      · rw [if_pos hj]
        subst hj
        rw [show ks.length - 1 = ks.dropLast.length by simp] at hb
        rw [get_len rfl] at hb
        cases hb
        exact shape_iff.2 ⟨by omega, by omega, p4⟩
      · rw [if_neg hj]
        have hjl := (List.getElem?_eq_some_iff.1 hb).1
        simp at hjl
        rw [List.getElem?_append_left (by simp; omega)] at hb
        exact hk _ (List.dropLast_subset _ (List.mem_of_getElem? hb)))
    obtain ⟨m1, m2, m3, m4, m5⟩ := m
    refine ⟨?_, m3, m4, m2, m5⟩
    show flatR (es, ks) = flatR (mendP (es, ks.dropLast ++ [lastP c]) (ks.length - 1)) ++ [lastE x0 c]
    rw [m1, f2, f1, p1]; simp

theorem del_len (k : Key) (t : List (Key × V)) : t.length ≤ (del k t).length + 1 ∧ (del k t).length ≤ t.length := by
  unfold del
  have := idx_le t k
  split
  · simp; omega
  · omega

theorem drop_ok (x0 : Key × V) {k : Key} {lo d : Nat} {t : BT V d} (h : Shape lo t) (h1 : d = 0 ∨ 1 ≤ lo) (hs : Sorted (flat t)) :
    flat (dropP x0 k t) = del k (flat t) ∧ (ents t).length ≤ (ents (dropP x0 k t)).length + 1 ∧ (ents (dropP x0 k t)).length ≤ (ents t).length ∧ Core (dropP x0 k t) := by
  induction d generalizing lo with
  | zero => exact ⟨rfl, (del_len k t).1, (del_len k t).2, trivial⟩
  | succ d ih =>
    obtain ⟨es, ks⟩ := t
    have hl : ks.length = es.length + 1 := h.2.2.1
    have h5 : es.length ≤ 5 := h.2.1
    have hlo : 1 ≤ es.length := Nat.le_trans (h1.resolve_left (by omega)) h.1
    have hk : ∀ c ∈ ks, Shape 2 c := h.2.2.2
    have hs' : Sorted (flatR (es, ks)) := hs
    have hle := idx_le es k
    rw [dropP_row]
    obtain ⟨c, hc⟩ : ∃ c, ks[idx es k]? = some c := ⟨_, List.getElem?_eq_getElem (by omega)⟩
    rw [hc]
    dsimp only
    have hcm : c ∈ ks := List.mem_of_getElem? hc
    have c2 := (hk c hcm).lo
    have key : ∀ (es' : List (Key × V)) (c' : BT V d), es'.length = es.length → (ents c).length ≤ (ents c').length + 1 → (ents c').length ≤ (ents c).length → Core c' →
        MendOk (es', ks.take (idx es k) ++ c' :: ks.drop (idx es k + 1)) (mendP (es', ks.take (idx es k) ++ c' :: ks.drop (idx es k + 1)) (idx es k)) := by
      intro es' c' he q1 q2 q3
      have ltk : (ks.take (idx es k)).length = idx es k := by simp; omega
      refine mend_ok (by simp; omega) (by dsimp only; omega) (by simp; omega) ?_
      intro j b hb
      dsimp only at hb
      by_cases hj : j = idx es k
      · rw [if_pos hj]
        subst hj
        rw [get_len ltk] at hb
        cases hb
        exact shape_iff.2 ⟨by omega, by omega, q3⟩
      · rw [if_neg hj]
        by_cases hj2 : j < idx es k
        · rw [List.getElem?_append_left (by omega)] at hb
          exact hk _ (List.mem_of_mem_take (List.mem_of_getElem? hb))
        · rw [List.getElem?_append_right (by omega)] at hb
          obtain ⟨j', hj'⟩ : ∃ j', j - (ks.take (idx es k)).length = j' + 1 := ⟨j - (ks.take (idx es k)).length - 1, by omega⟩
          rw [hj'] at hb
          exact hk _ (List.mem_of_mem_drop (List.mem_of_getElem? (by simpa using hb)))
    by_cases hh : has es k = true
    · rw [if_pos hh]
      obtain ⟨x, hx, hxk⟩ := has_some hh
      have hn := (List.getElem?_eq_some_iff.1 hx).1
      obtain ⟨p1, p2, p3, p4⟩ := last_ok x0 (hk c hcm) (by omega)
      obtain ⟨m1, m2, m3, m4, m5⟩ := key (es.set (idx es k) (lastE x0 c)) (lastP c) (by simp) p2 p3 p4
      simp only [List.length_set] at m3 m4
      refine ⟨?_, m3, m4, m2, m5⟩
      refine Eq.trans m1 ?_
      show flatR (es.set (idx es k) (lastE x0 c), ks.take (idx es k) ++ lastP c :: ks.drop (idx es k + 1)) = del k (flatR (es, ks))
      clear m1 m2 m3 m4 m5 key
      generalize hm : idx es k = m at *
      obtain ⟨e1, e2, k1, k2, y, a, b, e, g1, g2, g3⟩ := row_two (t := (es, ks)) hl hn
      cases e
      have : y = x := by rw [get_len g1] at hx; exact Option.some.inj hx
      subst this
      have : a = c := by rw [get_len g2] at hc; exact Option.some.inj hc
      subst this
      rw [set_len g1, take_len g2, drop_len g2, flatR_two _ _ _ _ _ _ _ (by omega) g3]
      rw [flatR_cons _ _ _ _ _ _ _ (by omega) g3] at hs' ⊢
      have := mid_sides hs'
      rw [hxk] at this
      rw [del_mid this.1 this.2, del_one hxk, p1]
      simp
    · rw [if_neg hh]
      simp only [Bool.not_eq_true] at hh
      obtain ⟨p1, p2, p3, p4⟩ := ih (hk c hcm) (.inr (by omega)) (row_kid_sorted hl hs' hcm)
      obtain ⟨m1, m2, m3, m4, m5⟩ := key es (dropP x0 k c) rfl p2 p3 p4
      refine ⟨?_, m3, m4, m2, m5⟩
      refine Eq.trans m1 ?_
      show flatR (es, ks.take (idx es k) ++ dropP x0 k c :: ks.drop (idx es k + 1)) = del k (flatR (es, ks))
      rw [flatR_set (t := (es, ks)) hl _ (show idx es k < ks.length by omega), flatR_at (t := (es, ks)) hl hc, p1, del_mid (lefts_lt (t := (es, ks)) hl hs') (rights_gt (t := (es, ks)) hl hs' hh)]

end Go.Tr
