/- What mend, last, put and drop do to the entries, in order. -/
import Derived.Test.YtohhoojcgcbmcaaBTree2
set_option maxRecDepth 4000
set_option linter.unusedVariables false
set_option linter.unusedSimpArgs false
namespace Go.Tr
open Go Go.Vc

variable {V : Type}

theorem two_at {α : Type} {l : List α} {n : Nat} {a b : α} (ha : l[n]? = some a) (hb : l[n + 1]? = some b) : l = l.take n ++ a :: b :: l.drop (n + 2) := by
  conv => lhs; rw [list_at ha]
  have h1 := List.getElem?_eq_some_iff.1 hb
  rw [← List.getElem_cons_drop h1.1, h1.2]

theorem flatR_two {d : Nat} (e1 e2 : List (Key × V)) (k1 k2 : List (BT V d)) (a b : BT V d) (y : Key × V) (h1 : k1.length = e1.length) (h2 : k2.length = e2.length) :
    flatR (e1 ++ y :: e2, k1 ++ a :: b :: k2) = wl (k1.map flat) e1 ++ ((flat a ++ y :: flat b) ++ wr e2 (k2.map flat)) := by
  rw [flatR_of e1 (y :: e2) k1 (b :: k2) a h1 (by simp [h2])]
  simp [wr]

theorem take_len {α : Type} {e1 : List α} {n : Nat} (h : e1.length = n) (x : α) (e2 : List α) : (e1 ++ x :: e2).take n = e1 := by subst h; simp
theorem drop_len {α : Type} {e1 : List α} {n : Nat} (h : e1.length = n) (x : α) (e2 : List α) : (e1 ++ x :: e2).drop (n + 1) = e2 := by subst h; simp [List.drop_append]
theorem drop_len2 {α : Type} {e1 : List α} {n : Nat} (h : e1.length = n) (x y : α) (e2 : List α) : (e1 ++ x :: y :: e2).drop (n + 2) = e2 := by subst h; simp [List.drop_append]
theorem get_len {α : Type} {e1 : List α} {n : Nat} (h : e1.length = n) (x : α) (e2 : List α) : (e1 ++ x :: e2)[n]? = some x := by subst h; simp
theorem get_len1 {α : Type} {e1 : List α} {n : Nat} (h : e1.length = n) (x y : α) (e2 : List α) : (e1 ++ x :: y :: e2)[n + 1]? = some y := by
  subst h
  rw [List.getElem?_append_right (by omega), show e1.length + 1 - e1.length = 1 by omega]
  rfl
theorem set_len {α : Type} {e1 : List α} {n : Nat} (h : e1.length = n) (x y : α) (e2 : List α) : (e1 ++ x :: e2).set n y = e1 ++ y :: e2 := by subst h; simp

/-- A row with two pages beside each other, taken apart. -/
theorem row_two {d : Nat} {t : Row V d} (hl : t.2.length = t.1.length + 1) {n : Nat} (hn : n < t.1.length) :
    ∃ e1 e2 k1 k2 x a b, t = (e1 ++ x :: e2, k1 ++ a :: b :: k2) ∧ e1.length = n ∧ k1.length = n ∧ k2.length = e2.length := by
  obtain ⟨es, ks⟩ := t
  simp only at hl hn
  obtain ⟨x, hx⟩ : ∃ x, es[n]? = some x := ⟨_, List.getElem?_eq_getElem hn⟩
  obtain ⟨a, ha⟩ : ∃ a, ks[n]? = some a := ⟨_, List.getElem?_eq_getElem (by omega)⟩
  obtain ⟨b, hb⟩ : ∃ b, ks[n + 1]? = some b := ⟨_, List.getElem?_eq_getElem (by omega)⟩
  refine ⟨es.take n, es.drop (n + 1), ks.take n, ks.drop (n + 2), x, a, b, ?_, ?_, ?_, ?_⟩
  · rw [← list_at hx, ← two_at ha hb]
  · simp; omega
  · simp; omega
  · simp; omega

theorem rightP_eq {d : Nat} {e1 e2 : List (Key × V)} {k1 k2 : List (BT V d)} {n : Nat} {x y : Key × V} {a b : BT V d} (h1 : e1.length = n) (h2 : k1.length = n) (hy : (ents a).getLast? = some y) :
    rightP (e1 ++ x :: e2, k1 ++ a :: b :: k2) n = (e1 ++ y :: e2, k1 ++ popLast a :: pushFirst a x b :: k2) := by
  unfold rightP
  dsimp only
  rw [get_len h2, get_len1 h2, get_len h1]
  dsimp only
  rw [hy]
  dsimp only
  rw [set_len h1, take_len h2, drop_len2 h2]
theorem leftP_eq {d : Nat} {e1 e2 : List (Key × V)} {k1 k2 : List (BT V d)} {n : Nat} {x y : Key × V} {a b : BT V d} (h1 : e1.length = n) (h2 : k1.length = n) (hy : (ents b).head? = some y) :
    leftP (e1 ++ x :: e2, k1 ++ a :: b :: k2) n = (e1 ++ y :: e2, k1 ++ pushLast a x b :: popFirst b :: k2) := by
  unfold leftP
  dsimp only
  rw [get_len h2, get_len1 h2, get_len h1]
  dsimp only
  rw [hy]
  dsimp only
  rw [set_len h1, take_len h2, drop_len2 h2]
theorem joinP_eq {d : Nat} {e1 e2 : List (Key × V)} {k1 k2 : List (BT V d)} {n : Nat} {x : Key × V} {a b : BT V d} (h1 : e1.length = n) (h2 : k1.length = n) :
    joinP (e1 ++ x :: e2, k1 ++ a :: b :: k2) n = (e1 ++ e2, k1 ++ glue a x b :: k2) := by
  unfold joinP
  dsimp only
  rw [get_len h2, get_len1 h2, get_len h1]
  dsimp only
  rw [take_len h1, drop_len h1, take_len h2, drop_len2 h2]

theorem fill_at {d : Nat} {k1 k2 : List (BT V d)} {n : Nat} {a : BT V d} (h2 : k1.length = n) : fill (k1 ++ a :: k2) n = (ents a).length := by
  unfold fill; rw [get_len h2]
theorem fill_at1 {d : Nat} {k1 k2 : List (BT V d)} {n : Nat} {a b : BT V d} (h2 : k1.length = n) : fill (k1 ++ a :: b :: k2) (n + 1) = (ents b).length := by
  unfold fill; rw [get_len1 h2]

/-- What mend does to a row of which one page may have one too few. -/
def MendOk {d : Nat} (t t' : Row V d) : Prop :=
  flatR t' = flatR t ∧ t'.2.length = t'.1.length + 1 ∧ t.1.length ≤ t'.1.length + 1 ∧ t'.1.length ≤ t.1.length ∧ ∀ c ∈ t'.2, Shape 2 c

theorem mend_ok {d : Nat} {t : Row V d} {i : Nat} (hl : t.2.length = t.1.length + 1) (h1 : 1 ≤ t.1.length) (hi : i < t.2.length)
    (hk : ∀ j c, t.2[j]? = some c → Shape (if j = i then 1 else 2) c) : MendOk t (mendP t i) := by
  unfold mendP
  split
  · rename_i h
    refine ⟨rfl, hl, by omega, by omega, fun c hc => ?_⟩
    obtain ⟨j, hj⟩ := List.mem_iff_getElem?.1 hc
    have := hk j c hj
    by_cases hji : j = i
    · subst hji
      unfold fill at h
      rw [hj] at h
      exact this.mono h
    · rwa [if_neg hji] at this
  · rename_i hf
    -- one side of the pair (n, n+1) is i
    have pair : ∀ n, n < t.1.length → (i = n ∨ i = n + 1) → ∃ e1 e2 k1 k2 x a b, t = (e1 ++ x :: e2, k1 ++ a :: b :: k2) ∧ e1.length = n ∧ k1.length = n ∧ k2.length = e2.length ∧
        Shape 1 a ∧ Shape 1 b ∧ (i = n → Shape 2 b) ∧ (i = n + 1 → Shape 2 a) ∧ (∀ c ∈ k1, Shape 2 c) ∧ (∀ c ∈ k2, Shape 2 c) ∧ fill t.2 n = (ents a).length ∧ fill t.2 (n + 1) = (ents b).length := by
      intro n hn hin
      obtain ⟨e1, e2, k1, k2, x, a, b, rfl, g1, g2, g3⟩ := row_two hl hn
      have sa := hk n a (get_len g2 _ _)
      have sb := hk (n + 1) b (get_len1 g2 _ _ _)
      refine ⟨e1, e2, k1, k2, x, a, b, rfl, g1, g2, g3, ?_, ?_, ?_, ?_, ?_, ?_, fill_at g2, fill_at1 g2⟩
      · refine sa.mono ?_
        have := sa.lo.1
        split at this <;> omega
      · refine sb.mono ?_
        have := sb.lo.1
        split at this <;> omega
      · intro h; rwa [if_neg (by omega)] at sb
      · intro h; rwa [if_neg (by omega)] at sa
      · intro c hc
        obtain ⟨j, hj⟩ := List.mem_iff_getElem?.1 hc
        have hjl := (List.getElem?_eq_some_iff.1 hj).1
        have := hk j c (by dsimp only; rw [List.getElem?_append_left hjl]; exact hj)
        rwa [if_neg (by omega)] at this
      · intro c hc
        obtain ⟨j, hj⟩ := List.mem_iff_getElem?.1 hc
        have := hk (n + 2 + j) c (by
          dsimp only
          rw [List.getElem?_append_right (by omega), show n + 2 + j - k1.length = j + 2 by omega]
          exact hj)
        rwa [if_neg (by omega)] at this
    split
    · rename_i h
      obtain ⟨e1, e2, k1, k2, x, a, b, rfl, g1, g2, g3, sa, sb, ib, ia, s1, s2, fa, fb⟩ := pair (i - 1) (by omega) (by omega)
      have hb5 : (ents b).length < 5 := by rw [show i - 1 + 1 = i by omega] at fb; omega
      obtain ⟨y, hy⟩ : ∃ y, (ents a).getLast? = some y := by
        cases hh : (ents a).getLast? with
        | none => rw [List.getLast?_eq_none_iff] at hh; have := sa.lo.1; rw [hh] at this; simp at this
        | some y => exact ⟨y, rfl⟩
      rw [rightP_eq g1 g2 hy]
      obtain ⟨m1, m2, m3⟩ := move_right (x := x) sa sb hy (by omega)
      refine ⟨?_, ?_, ?_, ?_, ?_⟩
      · rw [flatR_two _ _ _ _ _ _ _ (by omega) g3, flatR_two _ _ _ _ _ _ _ (by omega) g3, m1]
      · simp; omega
      · simp
      · simp
      · intro c hc
        rcases List.mem_append.1 hc with hc | hc
        · exact s1 _ hc
        · rcases List.mem_cons.1 hc with rfl | hc
          · exact m2.mono (by have := m2.lo.1; omega)
          · rcases List.mem_cons.1 hc with rfl | hc
            · exact (m3 hb5).mono (by have := (m3 hb5).lo.1; have := sb.lo.1; omega)
            · exact s2 _ hc
    · rename_i hr
      split
      · rename_i h
        obtain ⟨e1, e2, k1, k2, x, a, b, rfl, g1, g2, g3, sa, sb, ib, ia, s1, s2, fa, fb⟩ := pair i (by omega) (by omega)
        have ha5 : (ents a).length < 5 := by omega
        obtain ⟨y, hy⟩ : ∃ y, (ents b).head? = some y := by
          cases hh : (ents b).head? with
          | none => rw [List.head?_eq_none_iff] at hh; have := sb.lo.1; rw [hh] at this; simp at this
          | some y => exact ⟨y, rfl⟩
        rw [leftP_eq g1 g2 hy]
        obtain ⟨m1, m2, m3⟩ := move_left (x := x) sa sb hy
        refine ⟨?_, ?_, ?_, ?_, ?_⟩
        · rw [flatR_two _ _ _ _ _ _ _ (by omega) g3, flatR_two _ _ _ _ _ _ _ (by omega) g3, m1]
        · simp; omega
        · simp
        · simp
        · intro c hc
          rcases List.mem_append.1 hc with hc | hc
          · exact s1 _ hc
          · rcases List.mem_cons.1 hc with rfl | hc
            · exact (m3 ha5).mono (by have := (m3 ha5).lo.1; have := sa.lo.1; omega)
            · rcases List.mem_cons.1 hc with rfl | hc
              · exact m2.mono (by have := m2.lo.1; omega)
              · exact s2 _ hc
      · rename_i hlft
        have join : ∀ n, n < t.1.length → (i = n ∨ i = n + 1) → (i = n → fill t.2 (n + 1) ≤ 2) → (i = n + 1 → fill t.2 n ≤ 2) → MendOk t (joinP t n) := by
          intro n hn hin hfb hfa
          obtain ⟨e1, e2, k1, k2, x, a, b, rfl, g1, g2, g3, sa, sb, ib, ia, s1, s2, fa, fb⟩ := pair n hn hin
          rw [joinP_eq g1 g2]
          have l1 := sa.lo.1
          have l2 := sb.lo.1
          have l5 : 3 ≤ (ents a).length + (ents b).length ∧ (ents a).length + (ents b).length < 5 := by
            rcases hin with h | h
            · have := (ib h).lo.1; have := hfb h; rw [← h] at fa; constructor
              · omega
              · omega
            · have := (ia h).lo.1; have := hfa h; rw [← h] at fb; constructor
              · omega
              · omega
          obtain ⟨m1, m2⟩ := glue_both (x := x) sa sb
          refine ⟨?_, ?_, ?_, ?_, ?_⟩
          · rw [flatR_two _ _ _ _ _ _ _ (by omega) g3, flatR_of _ _ _ _ _ (by omega) g3, m1]
          · simp; omega
          · simp; omega
          · simp
          · intro c hc
            rcases List.mem_append.1 hc with hc | hc
            · exact s1 _ hc
            · rcases List.mem_cons.1 hc with rfl | hc
              · exact (m2 l5.2).mono (by have := (m2 l5.2).lo.1; omega)
              · exact s2 _ hc
        split
        · rename_i h0
          refine join (i - 1) (by omega) (by omega) (by omega) (fun _ => ?_)
          have : ¬ (2 < fill t.2 (i - 1)) := fun hh => hr ⟨h0, hh⟩
          omega
        · rename_i h0
          refine join i (by omega) (by omega) (fun _ => ?_) (by omega)
          have : ¬ (2 < fill t.2 (i + 1)) := fun hh => hlft ⟨by omega, hh⟩
          omega

end Go.Tr
