/- A tree, or none, and what it tells, beside pairs. -/
import Derived.Test.YtohhoojcgcbmcaaLawC
import Derived.Test.YtohhoojcgcbmcaaQ11
set_option maxRecDepth 4000
set_option linter.unusedVariables false
set_option linter.unusedSimpArgs false
namespace Go.Proofs.Ytohhoojcgcbmcaa
open Go Go.Vc Go.Sl Go.Tr Go.Proofs

/-- A tree with these entries, or none, that has no entries. -/
def TP : Option Addr → List (Key × Int) → HP
  | none, E => pr (E = [])
  | some a, E => exs fun T : Top Int => stars [pr (a = ⟨a.block, 0, none⟩ ∧ Good T ∧ T.all = E), Tree_int a.block T]

theorem TP_some {g w : World} {F : List HP} {a : Addr} {E : List (Key × Int)} (H : Sat g w (TP (some a) E :: F)) :
    ∃ b T, a = ⟨b, 0, none⟩ ∧ Good T ∧ T.all = E ∧ Sat g w (Tree_int b T :: F) := by
  obtain ⟨T, H1⟩ := Sat.open_ex (α := Top Int) H
  have H2 := Sat.open_stars (M := [pr (a = ⟨a.block, 0, none⟩ ∧ Good T ∧ T.all = E), Tree_int a.block T]) H1
  obtain ⟨⟨h1, h2, h3⟩, H3⟩ := Sat.open_pr H2
  exact ⟨a.block, T, h1, h2, h3, H3⟩
theorem TP_back {g w : World} {F : List HP} {b : Nat} {T : Top Int} (hT : Good T) (H : Sat g w (Tree_int b T :: F)) : Sat g w (TP (some ⟨b, 0, none⟩) T.all :: F) := by
  have H1 := Sat.shut_pr (p := (⟨b, 0, none⟩ : Addr) = ⟨b, 0, none⟩ ∧ Good T ∧ T.all = T.all) ⟨rfl, hT, rfl⟩ H
  have H2 := Sat.shut_stars (M := [pr ((⟨b, 0, none⟩ : Addr) = ⟨b, 0, none⟩ ∧ Good T ∧ T.all = T.all), Tree_int b T]) H1
  exact Sat.shut_ex (A := fun T' : Top Int => stars [pr ((⟨b, 0, none⟩ : Addr) = ⟨b, 0, none⟩ ∧ Good T' ∧ T'.all = T.all), Tree_int b T']) T H2
theorem TP_none {g w : World} {F : List HP} (H : Sat g w F) : Sat g w (TP none [] :: F) := Sat.shut_pr (p := ([] : List (Key × Int)) = []) rfl H

variable {g w : World} {F : List HP} {p : Option Addr} {E : List (Key × Int)}

theorem TP_Get {k : Key} (H : Sat g w (TP p E :: F)) :
    Calls prog f_tree_Tree_int_Get #[.pointer p, .string k] w fun e w' => e = .returned (.tuple #[.int .i64 ((valAt E k).getD 0), .bool (has E k)]) ∧ Sat g w' (TP p E :: F) := by
  cases p with
  | none =>
    obtain ⟨rfl, H1⟩ := Sat.open_pr H
    refine ok.tree_Tree_int_Get ?_
    unfold V.tree_Tree_int_Get
    exact br_t rfl ⟨rfl, H⟩
  | some a =>
    obtain ⟨b, T, rfl, hT, rfl, H1⟩ := TP_some H
    refine (spec.tree_Tree_int_Get H1 hT).mono ?_
    rintro e w' ⟨rfl, H2⟩
    exact ⟨rfl, TP_back hT H2⟩
theorem TP_Len (H : Sat g w (TP p E :: F)) :
    Calls prog f_tree_Tree_int_Len #[.pointer p] w fun e w' => e = .returned (.int .i64 (E.length : Int)) ∧ Sat g w' (TP p E :: F) := by
  cases p with
  | none =>
    obtain ⟨rfl, H1⟩ := Sat.open_pr H
    exact nil.tree_Tree_int_Len H
  | some a =>
    obtain ⟨b, T, rfl, hT, rfl, H1⟩ := TP_some H
    refine (spec.tree_Tree_int_Len H1).mono ?_
    rintro e w' ⟨rfl, H2⟩
    exact ⟨rfl, TP_back hT H2⟩
theorem TP_Next {k : Key} {incl : Bool} (H : Sat g w (TP p E :: F)) :
    Calls prog f_tree_Tree_int_Next #[.pointer p, .string k, .bool incl] w fun e w' => e = .returned (toldV_int (nextE E k incl)) ∧ Sat g w' (TP p E :: F) := by
  cases p with
  | none =>
    obtain ⟨rfl, H1⟩ := Sat.open_pr H
    refine ok.tree_Tree_int_Next ?_
    unfold V.tree_Tree_int_Next
    refine br_f rfl ((spec.tree_told_int (o := none) H rfl).mono ?_)
    rintro e w' ⟨rfl, H2⟩
    exact ⟨_, _, _, rfl, rfl, H2⟩
  | some a =>
    obtain ⟨b, T, rfl, hT, rfl, H1⟩ := TP_some H
    refine (spec.tree_Tree_int_Next H1 hT).mono ?_
    rintro e w' ⟨rfl, H2⟩
    exact ⟨rfl, TP_back hT H2⟩
theorem TP_Ahead {k : Key} {incl : Bool} (H : Sat g w (TP p E :: F)) :
    Calls prog f_tree_Tree_int_Ahead #[.pointer p, .string k, .bool incl] w fun e w' => e = .returned (toldV_int (aheadE E k incl)) ∧ Sat g w' (TP p E :: F) := by
  cases p with
  | none =>
    obtain ⟨rfl, H1⟩ := Sat.open_pr H
    refine ok.tree_Tree_int_Ahead ?_
    unfold V.tree_Tree_int_Ahead
    refine br_f rfl ((spec.tree_told_int (o := none) H rfl).mono ?_)
    rintro e w' ⟨rfl, H2⟩
    exact ⟨_, _, _, rfl, rfl, H2⟩
  | some a =>
    obtain ⟨b, T, rfl, hT, rfl, H1⟩ := TP_some H
    refine (spec.tree_Tree_int_Ahead H1 hT).mono ?_
    rintro e w' ⟨rfl, H2⟩
    exact ⟨rfl, TP_back hT H2⟩
theorem TP_Last (H : Sat g w (TP p E :: F)) :
    Calls prog f_tree_Tree_int_Last #[.pointer p] w fun e w' => e = .returned (toldV_int E.getLast?) ∧ Sat g w' (TP p E :: F) := by
  cases p with
  | none =>
    obtain ⟨rfl, H1⟩ := Sat.open_pr H
    refine ok.tree_Tree_int_Last ?_
    unfold V.tree_Tree_int_Last
    refine br_f rfl ((spec.tree_told_int (o := none) H rfl).mono ?_)
    rintro e w' ⟨rfl, H2⟩
    exact ⟨_, _, _, rfl, rfl, H2⟩
  | some a =>
    obtain ⟨b, T, rfl, hT, rfl, H1⟩ := TP_some H
    refine (spec.tree_Tree_int_Last H1 hT).mono ?_
    rintro e w' ⟨rfl, H2⟩
    exact ⟨rfl, TP_back hT H2⟩

/-! ### pairs -/
def Prs (p : Option Addr) (c : Nat) (es : List (Key × Int)) : HP := Sl 31 2 p es.length c (enc_int es)

theorem Prs_cell {c : Nat} {es : List (Key × Int)} (H : Sat g w (Prs p c es :: F)) {n : Nat} {x : Key × Int} (hx : es[n]? = some x) :
    ∃ a : Nat, p = some ⟨a, 0, none⟩ ∧ w.cell? ⟨a, n * 2, none⟩ = some (.string x.1) ∧ w.cell? ⟨a, n * 2 + 1, none⟩ = some (.int .i64 x.2) := by
  have hg := row2_get (fun e : Key × Int => Value.string e.1) (fun e => ev_int e.2) es n
  rw [hx] at hg
  obtain ⟨a1, rfl, c1⟩ := Sat.Sl_cell H hg.1
  obtain ⟨a2, h2, c2⟩ := Sat.Sl_cell H hg.2
  obtain rfl : a1 = a2 := by have := Option.some.inj h2; simpa using congrArg Addr.block this
  exact ⟨a1, rfl, c1, c2⟩

theorem idx_here {es : List (Key × Int)} {k : Key} {x : Key × Int} (hx : es[idx es k]? = some x) : sLt x.1 k = false := by
  induction es with
  | nil => cases hx
  | cons e es ih =>
    unfold idx at hx ih
    rw [List.takeWhile_cons] at hx
    split at hx
    · exact ih (by simpa using hx)
    · rename_i h
      simp at hx
      subst hx
      simpa using h

theorem find_L0 {c : Nat} {es : List (Key × Int)} {k : Key} {R : Ending → World → Prop} (hl : es.length < 1000000)
    (hR : ∀ w', Sat g w' (Prs p c es :: F) → R (.returned (.tuple #[.int .i64 (idx es k), .bool (has es k)])) w') :
    ∀ (n i : Nat) (w : World), idx es k - i = n → i ≤ idx es k → Sat g w (Prs p c es :: F) → L.affluxlaw08_find_L0 p es.length c k (i : Int) w R := by
  have hle := idx_le es k
  intro n
  induction n with
  | zero =>
    intro i w hd hi H
    obtain rfl : i = idx es k := by omega
    refine round.affluxlaw08_find_L0 ?_
    unfold B.affluxlaw08_find_L0
    refine br (fun h => ?_) (fun h => ?_)
    · have h : idx es k < es.length := by have := of_decide_eq_true h; omega
      obtain ⟨x, hx⟩ : ∃ x, es[idx es k]? = some x := ⟨_, List.getElem?_eq_getElem h⟩
      obtain ⟨a, rfl, c1, _⟩ := Prs_cell H hx
      refine ⟨_, rfl, ⟨by omega, by omega⟩, ?_⟩
      rw [Int.toNat_natCast, addr_add]
      refine ⟨_, c1, br_f (idx_here hx) (dr H fun w1 H1 => br_t (decide_eq_true (by omega)) ?_)⟩
      obtain ⟨a, ha, c1, _⟩ := Prs_cell H1 hx
      cases ha
      refine ⟨_, rfl, ⟨by omega, by omega⟩, ?_⟩
      rw [addr_add]
      have := hR w1 H1
      have e : has es k = sEq x.1 k := by unfold has; rw [hx]
      rw [e] at this
      exact ⟨_, c1, this⟩
    · have h' : ¬ idx es k < es.length := by have := of_decide_eq_false h; omega
      refine br_f rfl (dr H fun w1 H1 => br_f h ?_)
      have := hR w1 H1
      have e : has es k = false := by unfold has; rw [List.getElem?_eq_none (by omega)]
      rw [e] at this
      exact this
  | succ n ih =>
    intro i w hd hi H
    refine round.affluxlaw08_find_L0 ?_
    unfold B.affluxlaw08_find_L0
    refine br_t (decide_eq_true (by omega)) ?_
    obtain ⟨x, hx⟩ : ∃ x, es[i]? = some x := ⟨_, List.getElem?_eq_getElem (by omega)⟩
    obtain ⟨a, rfl, c1, _⟩ := Prs_cell H hx
    refine ⟨_, rfl, ⟨by omega, by omega⟩, ?_⟩
    rw [Int.toNat_natCast, addr_add]
    refine ⟨_, c1, br_t (idx_lt hx (by omega)) (lt' (y := ((i + 1 : Nat) : Int)) (by rw [wrap_id (by omega) (by omega)]; omega) ?_)⟩
    exact ih (i + 1) w (by omega) (by omega) H

theorem spec.affluxlaw08_find {c : Nat} {es : List (Key × Int)} {k : Key} (H : Sat g w (Prs p c es :: F)) (hl : es.length < 1000000) :
    Calls prog f_affluxlaw08_find #[.slice p es.length c, .string k] w fun e w' => e = .returned (.tuple #[.int .i64 (idx es k), .bool (has es k)]) ∧ Sat g w' (Prs p c es :: F) := by
  refine ok.affluxlaw08_find ?_
  unfold V.affluxlaw08_find
  exact find_L0 hl (fun w' H' => ⟨rfl, H'⟩) _ 0 w rfl (Nat.zero_le _) H

def pick (es : List (Key × Int)) (i : Int) : Option (Key × Int) := if i < 0 then none else es[i.toNat]?

theorem pick_nat (es : List (Key × Int)) (n : Nat) : pick es (n : Int) = es[n]? := by
  unfold pick; rw [if_neg (by omega), Int.toNat_natCast]
theorem pick_take {es : List (Key × Int)} {n : Nat} (h : n ≤ es.length) : (es.take n).getLast? = pick es ((n : Int) - 1) := by
  cases n with
  | zero => rfl
  | succ n =>
    have e : (((n + 1 : Nat) : Int) - 1) = (n : Int) := by omega
    rw [e, pick_nat]
    exact take_last_int (by omega)

theorem spec.affluxlaw08_told {c : Nat} {es : List (Key × Int)} {i : Int} {o : Option (Key × Int)} (H : Sat g w (Prs p c es :: F)) (ho : o = pick es i) :
    Calls prog f_affluxlaw08_told #[.slice p es.length c, .int .i64 i, .string ((o.map (·.1)).getD (str [])), .int .i64 ((o.map (·.2)).getD 0), .bool o.isSome] w
      fun e w' => e = .returned (.bool true) ∧ Sat g w' (Prs p c es :: F) := by
  refine ok.affluxlaw08_told ?_
  unfold V.affluxlaw08_told
  have hc : pick es i = none ↔ (i < 0 ∨ (es.length : Int) ≤ i) := by
    unfold pick
    by_cases h0 : i < 0
    · rw [if_pos h0]; simp [h0]
    · rw [if_neg h0, List.getElem?_eq_none_iff]; omega
  refine jq (∃ x, o = some x) (fun J hJ => ?_) ?_
  · refine jnb (fun b => b = decide (pick es i = none)) (fun J1 hJ1 => br (fun h => hJ1 _ ?_) (fun h => hJ1 _ ?_)) (fun b hb => br (fun hb1 => ?_) (fun hb1 => hJ ?_))
    · exact (decide_eq_true (hc.2 (.inl (of_decide_eq_true h)))).symm
    · rw [decide_eq_decide, hc]
      have := of_decide_eq_false h
      constructor
      · intro h1; exact .inr h1
      · rintro (h1 | h1)
        · exact absurd h1 this
        · exact h1
    · subst hb
      have h1 : pick es i = none := of_decide_eq_true hb1
      rw [h1] at ho; subst ho
      exact br_t (eq_iff.2 rfl) (br_t rfl ⟨rfl, H⟩)
    · subst hb
      have h1 : ¬ pick es i = none := of_decide_eq_false hb1
      rw [← ho] at h1
      exact Option.ne_none_iff_exists'.1 h1
  · rintro ⟨x, rfl⟩
    have hi : ¬ (i < 0 ∨ (es.length : Int) ≤ i) := by rw [← hc, ← ho]; simp
    have hx : es[i.toNat]? = some x := by unfold pick at ho; rw [if_neg (by omega)] at ho; exact ho.symm
    obtain ⟨a, rfl, c1, c2⟩ := Prs_cell H hx
    refine ⟨_, rfl, ⟨by omega, by omega⟩, ?_⟩
    rw [addr_add]
    refine ⟨_, c1, br_t (eq_iff.2 rfl) ⟨_, rfl, ⟨by omega, by omega⟩, ?_⟩⟩
    rw [addr_add]
    refine ⟨_, c2, br_t (by simp) ⟨rfl, H⟩⟩

theorem spec.affluxlaw08_looks {q : Option Addr} {c : Nat} {k : Key} (H : Sat g w (TP p E :: Prs q c E :: F)) (hs : Sorted E) (hl : E.length < 1000000) :
    Calls prog f_affluxlaw08_looks #[.pointer p, .slice q E.length c, .string k] w fun e w' => e = .returned (.bool true) ∧ Sat g w' (TP p E :: Prs q c E :: F) := by
  have hle := idx_le E k
  refine ok.affluxlaw08_looks ?_
  unfold V.affluxlaw08_looks
  refine (spec.affluxlaw08_find (H.pull 1 rfl) hl).mono ?_
  rintro e w1 ⟨rfl, H1⟩
  refine ⟨_, _, rfl, (TP_Get (H1.pull 1 rfl)).mono ?_⟩
  rintro e w2 ⟨rfl, H2⟩
  refine ⟨_, _, rfl, ?_⟩
  have nxt : (if has E k then idx E k + 1 else idx E k) ≤ E.length := by
    split
    · rename_i hh
      obtain ⟨x, hx, _⟩ := has_some hh
      exact (List.getElem?_eq_some_iff.1 hx).1
    · exact hle
  refine Go.Sl.jnpw2 (fun (i j : Int) => i = (valAt E k).getD 0 ∧ j = ((if has E k then idx E k + 1 else idx E k : Nat) : Int)) (fun J hJ => br (fun hh => ?_) (fun hh => ?_)) ?_
  · obtain ⟨x, hx, hxk⟩ := has_some hh
    have hn := (List.getElem?_eq_some_iff.1 hx).1
    obtain ⟨a, rfl, c1, c2⟩ := Prs_cell (H2.pull 1 rfl) hx
    refine ⟨_, rfl, ⟨by omega, by omega⟩, ?_⟩
    rw [Int.toNat_natCast, addr_add]
    refine ⟨_, c2, lt' (y := ((idx E k + 1 : Nat) : Int)) (by rw [wrap_id (by omega) (by omega)]; omega) (hJ _ _ ⟨?_, by rw [hh]; rfl⟩)⟩
    unfold valAt
    rw [if_pos hh, hx]; rfl
  · refine hJ _ _ ⟨?_, by rw [hh]; rfl⟩
    unfold valAt
    rw [if_neg (by rw [hh]; simp)]; rfl
  rintro i j ⟨rfl, rfl⟩
  refine jnw (fun w => Sat g w (TP p E :: Prs q c E :: F)) (fun J hJ => br_f (by simp) (br_f (by simp) ?_)) ?_
  · refine (TP_Len H2).mono ?_
    rintro e w3 ⟨rfl, H3⟩
    exact ⟨_, rfl, br_f (by simp) (hJ _ H3)⟩
  intro w3 H3
  refine jnp (fun i => i = (((if has E k && true then idx E k + 1 else idx E k : Nat) : Int) - 1)) (fun J hJ => br (fun hh => ?_) (fun hh => hJ _ ?_)) ?_
  · have hh : has E k = false := by simpa using hh
    refine lt' (y := (idx E k : Int) - 1) (by rw [wrap_id (by omega) (by omega)]) (hJ _ ?_)
    rw [hh]; rfl
  · have hh : has E k = true := by simpa using hh
    rw [hh]; simp
  rintro i rfl
  refine (TP_Next H3).mono ?_
  rintro e w4 ⟨rfl, H4⟩
  refine ⟨_, _, _, rfl, (TP_Next H4).mono ?_⟩
  rintro e w5 ⟨rfl, H5⟩
  refine ⟨_, _, _, rfl, (TP_Ahead H5).mono ?_⟩
  rintro e w6 ⟨rfl, H6⟩
  refine ⟨_, _, _, rfl, (TP_Ahead H6).mono ?_⟩
  rintro e w7 ⟨rfl, H7⟩
  refine ⟨_, _, _, rfl, (TP_Last H7).mono ?_⟩
  rintro e w8 ⟨rfl, H8⟩
  refine ⟨_, _, _, rfl, (spec.affluxlaw08_told (H8.pull 1 rfl) ?_).mono ?_⟩
  · rw [next_at hs, pick_nat]
    cases has E k <;> rfl
  rintro e w9 ⟨rfl, H9⟩
  refine ⟨_, rfl, br_t rfl ((spec.affluxlaw08_told H9 ?_).mono ?_)⟩
  · rw [next_first hs, pick_nat]
  rintro e w10 ⟨rfl, H10⟩
  refine ⟨_, rfl, br_t rfl ((spec.affluxlaw08_told H10 ?_).mono ?_)⟩
  · rw [ahead_at hs, wrap_id (by omega) (by omega), Bool.and_false]
    exact pick_take hle
  rintro e w11 ⟨rfl, H11⟩
  refine ⟨_, rfl, br_t rfl ((spec.affluxlaw08_told H11 ?_).mono ?_)⟩
  · rw [ahead_at hs]
    refine pick_take ?_
    rw [Bool.and_true]; exact nxt
  rintro e w12 ⟨rfl, H12⟩
  refine ⟨_, rfl, br_t rfl ((spec.affluxlaw08_told H12 ?_).mono ?_)⟩
  · rw [wrap_id (by omega) (by omega), ← pick_take (Nat.le_refl _), List.take_length]
  rintro e w13 ⟨rfl, H13⟩
  exact ⟨_, rfl, rfl, H13.pull 1 rfl⟩

end Go.Proofs.Ytohhoojcgcbmcaa
