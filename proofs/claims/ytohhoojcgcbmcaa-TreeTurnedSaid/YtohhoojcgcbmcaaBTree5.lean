/- What last, put, drop and get do to the entries, in order: the pages. -/
import Derived.Test.YtohhoojcgcbmcaaBTree4
set_option maxRecDepth 4000
set_option linter.unusedVariables false
set_option linter.unusedSimpArgs false
namespace Go.Tr
open Go Go.Vc

variable {V : Type}

theorem weave_cut {α : Type} (x : α) : ∀ (k1 : List (List α)) (e1 : List α) (k2 : List (List α)) (e2 : List α), k1.length = e1.length + 1 →
    weave (k1 ++ k2) (e1 ++ x :: e2) = weave k1 e1 ++ x :: weave k2 e2
  | [k], [], k2, e2, _ => by simp [weave]
  | k :: k1, e :: e1, k2, e2, h => by
    have := weave_cut x k1 e1 k2 e2 (by simpa using h)
    simp [weave, this]
  | [], e1, _, _, h => by simp at h
  | k :: k' :: k1, [], _, _, h => by simp at h

/-! ### what lies left and right -/

section sides
variable {d : Nat} {t : Row V d} {k : Key}

theorem lefts_lt (hl : t.2.length = t.1.length + 1) (hs : Sorted (flatR t)) : ∀ x ∈ lefts t (idx t.1 k), sLt x.1 k = true := by
  have hle := idx_le t.1 k
  cases hn : idx t.1 k with
  | zero => intro x hx; unfold lefts at hx; simp [wl] at hx
  | succ m =>
    obtain ⟨y, hy⟩ : ∃ y, t.1[m]? = some y := ⟨_, List.getElem?_eq_getElem (by omega)⟩
    obtain ⟨a, ha⟩ : ∃ a, t.2[m]? = some a := ⟨_, List.getElem?_eq_getElem (by omega)⟩
    have hyk : sLt y.1 k = true := idx_lt hy (by omega)
    rw [flatR_at hl ha, rights_cons hy (List.getElem?_eq_getElem (show m + 1 < t.2.length by omega))] at hs
    rw [lefts_snoc hy ha]
    have h1 := sorted_append.1 hs
    have h2 := sorted_append.1 h1.2.1
    intro x hx
    rcases List.mem_append.1 hx with hx | hx
    · exact lt_trans (h1.2.2 x hx y (by simp)) hyk
    · rcases List.mem_append.1 hx with hx | hx
      · exact lt_trans (h2.2.2 x hx y (by simp)) hyk
      · simp at hx; subst hx; exact hyk

theorem rights_gt (hl : t.2.length = t.1.length + 1) (hs : Sorted (flatR t)) (hh : has t.1 k = false) : ∀ x ∈ rights t (idx t.1 k), sLt k x.1 = true := by
  have hle := idx_le t.1 k
  obtain ⟨a, ha⟩ : ∃ a, t.2[idx t.1 k]? = some a := ⟨_, List.getElem?_eq_getElem (by omega)⟩
  by_cases hn : idx t.1 k < t.1.length
  · obtain ⟨y, hy⟩ : ∃ y, t.1[idx t.1 k]? = some y := ⟨_, List.getElem?_eq_getElem hn⟩
    have h0 := idx_ge (row_sorted hl hs) hy (Nat.le_refl _)
    have hky : sLt k y.1 = true := by
      cases h : sLt k y.1 with
      | true => rfl
      | false =>
        have e := lt_total h h0
        unfold has at hh
        rw [hy] at hh
        dsimp only at hh
        rw [eq_iff.2 e.symm] at hh; cases hh
    rw [flatR_at hl ha] at hs
    have h1 := (sorted_append.1 (sorted_append.1 hs).2.1).2.1
    have e := rights_cons hy (List.getElem?_eq_getElem (show idx t.1 k + 1 < t.2.length by omega))
    rw [e] at h1 ⊢
    intro x hx
    rcases List.mem_cons.1 hx with rfl | hx
    · exact hky
    · exact lt_trans hky (h1.1 x hx)
  · intro x hx
    unfold rights at hx
    rw [List.drop_eq_nil_of_le (by omega)] at hx
    simp [wr] at hx

/-- An entry of the row that has the key: what is left of it, and right. -/
theorem mid_sides {L R : List (Key × V)} {x : Key × V} (hs : Sorted (L ++ ([x] ++ R))) : (∀ y ∈ L, sLt y.1 x.1 = true) ∧ ∀ y ∈ R, sLt x.1 y.1 = true := by
  have h1 := sorted_append.1 hs
  have h2 := sorted_append.1 h1.2.1
  exact ⟨fun y hy => h1.2.2 y hy x (by simp), fun y hy => h2.2.2 x (by simp) y hy⟩
end sides

theorem flatR_cons {d : Nat} (e1 e2 : List (Key × V)) (k1 k2 : List (BT V d)) (a b : BT V d) (y : Key × V) (h1 : k1.length = e1.length) (h2 : k2.length = e2.length) :
    flatR (e1 ++ y :: e2, k1 ++ a :: b :: k2) = (wl (k1.map flat) e1 ++ flat a) ++ ([y] ++ (flat b ++ wr e2 (k2.map flat))) := by
  rw [flatR_two e1 e2 k1 k2 a b y h1 h2]; simp

theorem flatR_set {d : Nat} {t : Row V d} (hl : t.2.length = t.1.length + 1) {n : Nat} (c : BT V d) (hn : n < t.2.length) :
    flatR (t.1, t.2.take n ++ c :: t.2.drop (n + 1)) = lefts t n ++ (flat c ++ rights t n) := by
  have := flatR_of (t.1.take n) (t.1.drop n) (t.2.take n) (t.2.drop (n + 1)) c (by simp; omega) (by simp; omega)
  rw [List.take_append_drop] at this
  exact this

/-! ### get -/

theorem getP_row (k : Key) {d : Nat} (es : List (Key × V)) (ks : List (BT V d)) : getP (d := d + 1) k ((es, ks) : Row V d) = if has es k then valAt es k else match ks[idx es k]? with
    | some c => getP k c
    | none => none := rfl
theorem putP_row (k : Key) (v : V) {d : Nat} (es : List (Key × V)) (ks : List (BT V d)) : putP (d := d + 1) k v ((es, ks) : Row V d) =
    if has es k then ((es.set (idx es k) (k, v), ks) : Row V d)
    else match ks[idx es k]? with
      | some c => if 5 < (ents (putP k v c)).length then splitP (es, ks.take (idx es k) ++ putP k v c :: ks.drop (idx es k + 1)) (idx es k) else (es, ks.take (idx es k) ++ putP k v c :: ks.drop (idx es k + 1))
      | none => ((es, ks) : Row V d) := rfl
theorem dropP_row (x0 : Key × V) (k : Key) {d : Nat} (es : List (Key × V)) (ks : List (BT V d)) : dropP (d := d + 1) x0 k ((es, ks) : Row V d) =
    (match ks[idx es k]? with
    | some c =>
      if has es k then mendP (es.set (idx es k) (lastE x0 c), ks.take (idx es k) ++ lastP c :: ks.drop (idx es k + 1)) (idx es k)
      else mendP (es, ks.take (idx es k) ++ dropP x0 k c :: ks.drop (idx es k + 1)) (idx es k)
    | none => (es, ks) : Row V d) := rfl
theorem lastP_row {d : Nat} (es : List (Key × V)) (ks : List (BT V d)) : lastP (d := d + 1) ((es, ks) : Row V d) = match ks.getLast? with
    | some c => mendP (es, ks.dropLast ++ [lastP c]) (ks.length - 1)
    | none => ((es, ks) : Row V d) := rfl
theorem lastE_row (x0 : Key × V) {d : Nat} (es : List (Key × V)) (ks : List (BT V d)) : lastE (d := d + 1) x0 ((es, ks) : Row V d) = match ks.getLast? with
    | some c => lastE x0 c
    | none => x0 := rfl

theorem get_ok {k : Key} {lo d : Nat} {t : BT V d} (h : Shape lo t) (hs : Sorted (flat t)) : getP k t = valAt (flat t) k := by
  induction d generalizing lo with
  | zero => rfl
  | succ d ih =>
    obtain ⟨es, ks⟩ := t
    have hl : ks.length = es.length + 1 := h.2.2.1
    have hs' : Sorted (flatR (es, ks)) := hs
    have hle := idx_le es k
    rw [getP_row]
    show _ = valAt (flatR (es, ks)) k
    split
    · rename_i hh
      obtain ⟨x, hx, hxk⟩ := has_some hh
      have hn := (List.getElem?_eq_some_iff.1 hx).1
      obtain ⟨e1, e2, k1, k2, y, a, b, e, g1, g2, g3⟩ := row_two (t := (es, ks)) hl hn
      cases e
      have : y = x := by rw [get_len g1] at hx; exact Option.some.inj hx
      subst this
      have hv : valAt (e1 ++ y :: e2) k = some y.2 := by
        unfold valAt
        rw [if_pos hh, hx]; rfl
      rw [flatR_cons _ _ _ _ _ _ _ (by omega) g3] at hs' ⊢
      have := mid_sides hs'
      rw [hxk] at this
      rw [val_mid this.1 this.2, val_one hxk, hv]
    · rename_i hh
      simp only [Bool.not_eq_true] at hh
      obtain ⟨c, hc⟩ : ∃ c, ks[idx es k]? = some c := ⟨_, List.getElem?_eq_getElem (by omega)⟩
      rw [hc]
      dsimp only
      have hcm : c ∈ ks := List.mem_of_getElem? hc
      rw [ih (h.2.2.2 c hcm) (row_kid_sorted hl hs' hcm)]
      rw [flatR_at (t := (es, ks)) hl hc, val_mid (lefts_lt (t := (es, ks)) hl hs') (rights_gt (t := (es, ks)) hl hs' hh)]

/-! ### put -/

theorem ins_len (k : Key) (v : V) (t : List (Key × V)) : t.length ≤ (ins k v t).length ∧ (ins k v t).length ≤ t.length + 1 := by
  unfold ins
  have := idx_le t k
  split
  · simp
  · simp; omega

theorem cut_leaf {α : Type} (c : List α) (h6 : c.length = 6) : ∃ x, c[2]? = some x ∧ c = c.take 2 ++ x :: c.drop 3 ∧ (2 ≤ (c.take 2).length ∧ (c.take 2).length ≤ 5) ∧ (2 ≤ (c.drop 3).length ∧ (c.drop 3).length ≤ 5) := by
  obtain ⟨x, hx⟩ : ∃ x, c[2]? = some x := ⟨_, List.getElem?_eq_getElem (by omega)⟩
  refine ⟨x, hx, list_at hx, ⟨?_, ?_⟩, ⟨?_, ?_⟩⟩ <;> simp <;> omega

theorem cut_ok {d : Nat} {c : BT V d} (h6 : (ents c).length = 6) (hc : Core c) : ∃ x, (ents c)[2]? = some x ∧ flat c = flat (cutL c) ++ x :: flat (cutR c) ∧ Shape 2 (cutL c) ∧ Shape 2 (cutR c) := by
  cases d with
  | zero => exact cut_leaf c h6
  | succ d =>
    obtain ⟨es, ks⟩ := c
    have h6 : es.length = 6 := h6
    have hl : ks.length = es.length + 1 := hc.1
    have hk : ∀ c ∈ ks, Shape 2 c := hc.2
    obtain ⟨x, hx⟩ : ∃ x, es[2]? = some x := ⟨_, List.getElem?_eq_getElem (by omega)⟩
    refine ⟨x, hx, ?_, ⟨?_, ?_, ?_, fun c hc => hk c (List.mem_of_mem_take hc)⟩, ⟨?_, ?_, ?_, fun c hc => hk c (List.mem_of_mem_drop hc)⟩⟩
    · show weave (ks.map flat) es = weave ((ks.take 3).map flat) (es.take 2) ++ x :: weave ((ks.drop 3).map flat) (es.drop 3)
      rw [← weave_cut x _ _ _ _ (by simp; omega), ← List.map_append, List.take_append_drop, ← list_at hx]
    · show 2 ≤ (es.take 2).length; simp; omega
    · show (es.take 2).length ≤ 5; simp; omega
    · show (ks.take 3).length = (es.take 2).length + 1; simp; omega
    · show 2 ≤ (es.drop 3).length; simp; omega
    · show (es.drop 3).length ≤ 5; simp; omega
    · show (ks.drop 3).length = (es.drop 3).length + 1; simp; omega

theorem put_ok {k : Key} {v : V} {lo d : Nat} {t : BT V d} (h : Shape lo t) (hs : Sorted (flat t)) :
    flat (putP k v t) = ins k v (flat t) ∧ (ents t).length ≤ (ents (putP k v t)).length ∧ (ents (putP k v t)).length ≤ (ents t).length + 1 ∧ Core (putP k v t) := by
  induction d generalizing lo with
  | zero => exact ⟨rfl, (ins_len k v t).1, (ins_len k v t).2, trivial⟩
  | succ d ih =>
    obtain ⟨es, ks⟩ := t
    have hl : ks.length = es.length + 1 := h.2.2.1
    have h5 : es.length ≤ 5 := h.2.1
    have hk : ∀ c ∈ ks, Shape 2 c := h.2.2.2
    have hs' : Sorted (flatR (es, ks)) := hs
    have hle := idx_le es k
    rw [putP_row]
    by_cases hh : has es k = true
    · rw [if_pos hh]
      obtain ⟨x, hx, hxk⟩ := has_some hh
      have hn := (List.getElem?_eq_some_iff.1 hx).1
      refine ⟨?_, ?_, ?_, ?_, hk⟩
      · show flatR (es.set (idx es k) (k, v), ks) = ins k v (flatR (es, ks))
        generalize hm : idx es k = m at *
        obtain ⟨e1, e2, k1, k2, y, a, b, e, g1, g2, g3⟩ := row_two (t := (es, ks)) hl hn
        cases e
        have : y = x := by rw [get_len g1] at hx; exact Option.some.inj hx
        subst this
        rw [set_len g1, flatR_cons _ _ _ _ _ _ _ (by omega) g3]
        rw [flatR_cons _ _ _ _ _ _ _ (by omega) g3] at hs' ⊢
        have := mid_sides hs'
        rw [hxk] at this
        rw [ins_mid this.1 this.2, ins_one hxk]
      · show es.length ≤ (es.set _ _).length; simp
      · show (es.set _ _).length ≤ es.length + 1; simp
      · show ks.length = (es.set _ _).length + 1; simp; omega
    · rw [if_neg hh]
      simp only [Bool.not_eq_true] at hh
      obtain ⟨c, hc⟩ : ∃ c, ks[idx es k]? = some c := ⟨_, List.getElem?_eq_getElem (by omega)⟩
      rw [hc]
      dsimp only
      have hcm : c ∈ ks := List.mem_of_getElem? hc
      obtain ⟨p1, p2, p3, p4⟩ := ih (hk c hcm) (row_kid_sorted hl hs' hcm)
      have c2 := (hk c hcm).lo
      have ef : flatR (es, ks.take (idx es k) ++ putP k v c :: ks.drop (idx es k + 1)) = ins k v (flatR (es, ks)) := by
        rw [flatR_set (t := (es, ks)) hl _ (show idx es k < ks.length by omega), flatR_at (t := (es, ks)) hl hc, p1, ins_mid (lefts_lt (t := (es, ks)) hl hs') (rights_gt (t := (es, ks)) hl hs' hh)]
      generalize hm : idx es k = m at *
      generalize hc' : putP k v c = c' at *
      have kt : ∀ c ∈ ks.take m, Shape 2 c := fun c hc => hk c (List.mem_of_mem_take hc)
      have kd : ∀ c ∈ ks.drop (m + 1), Shape 2 c := fun c hc => hk c (List.mem_of_mem_drop hc)
      have ltk : (ks.take m).length = m := by simp; omega
      have lte : (es.take m).length = m := by simp; omega
      split
      · rename_i h6
        obtain ⟨x, x2, x3, x4, x5⟩ := cut_ok (c := c') (by omega) p4
        have esp : splitP (es, ks.take m ++ c' :: ks.drop (m + 1)) m = (es.take m ++ x :: es.drop m, ks.take m ++ cutL c' :: cutR c' :: ks.drop (m + 1)) := by
          unfold splitP
          dsimp only
          rw [get_len ltk]
          dsimp only
          rw [x2]
          dsimp only
          rw [take_len ltk, drop_len ltk]
        rw [esp]
        refine ⟨?_, ?_, ?_, ?_, ?_⟩
        · show flatR (es.take m ++ x :: es.drop m, ks.take m ++ cutL c' :: cutR c' :: ks.drop (m + 1)) = ins k v (flatR (es, ks))
          rw [← ef, flatR_two _ _ _ _ _ _ _ (by omega) (by simp; omega), ← x3, flatR_set (t := (es, ks)) hl _ (show m < ks.length by omega)]
          rfl
        · show es.length ≤ (es.take m ++ x :: es.drop m).length; simp; omega
        · show (es.take m ++ x :: es.drop m).length ≤ es.length + 1; simp; omega
        · show (ks.take m ++ cutL c' :: cutR c' :: ks.drop (m + 1)).length = (es.take m ++ x :: es.drop m).length + 1; simp; omega
        · intro z hz
          have hz : z ∈ ks.take m ++ cutL c' :: cutR c' :: ks.drop (m + 1) := hz
          rcases List.mem_append.1 hz with hz | hz
          · exact kt _ hz
          · rcases List.mem_cons.1 hz with rfl | hz
            · exact x4
            · rcases List.mem_cons.1 hz with rfl | hz
              · exact x5
              · exact kd _ hz
      · rename_i h6
        refine ⟨ef, ?_, ?_, ?_, ?_⟩
        · show es.length ≤ es.length; omega
        · show es.length ≤ es.length + 1; omega
        · show (ks.take m ++ c' :: ks.drop (m + 1)).length = es.length + 1; simp; omega
        · intro z hz
          have hz : z ∈ ks.take m ++ c' :: ks.drop (m + 1) := hz
          rcases List.mem_append.1 hz with hz | hz
          · exact kt _ hz
          · rcases List.mem_cons.1 hz with rfl | hz
            · exact shape_iff.2 ⟨by omega, by omega, p4⟩
            · exact kd _ hz

end Go.Tr
