/- A tree and pairs behind acts; what they tell of any key. -/
import Derived.Test.YtohhoojcgcbmcaaLawF
set_option maxRecDepth 4000
set_option linter.unusedVariables false
set_option linter.unusedSimpArgs false
namespace Go.Proofs.Ytohhoojcgcbmcaa
open Go Go.Vc Go.Sl Go.Tr Go.Proofs Go.RowKit

variable {w0 w : World} {F : List HP}

/-- The acts: kind, key, value. -/
abbrev ActL := List (Int × Key × Int)

/-- A slice of acts can be read. -/
def ActsRd (w : World) (p : Option Addr) (l : ActL) : Prop := ∀ i x, l[i]? = some x → ∃ a : Addr, p = some a ∧ w.cell? (a.add (i * 3)) = some (.int .i64 x.1) ∧ w.cell? ((a.add (i * 3)).add 1) = some (.string x.2.1) ∧ w.cell? ((a.add (i * 3)).add 2) = some (.int .i64 x.2.2)

def Acts (w0 : World) (p : Option Addr) (l : ActL) : Prop := ∀ {w : World} {F : List HP}, Sat w0 w (All w0 :: F) → ActsRd w p l

def greatL (l : ActL) : Bool := decide (150 < l.length) || l.any fun x => decide (100 < x.2.1.size)

theorem great_L0 {p : Option Addr} {c : Nat} {l : ActL} (hA : Acts w0 p l) (hl : l.length ≤ 150) {R : Ending → World → Prop} (H : Sat w0 w (All w0 :: F)) (hR : R (.returned (.bool (l.any fun x => decide (100 < x.2.1.size)))) w) :
    ∀ (n i : Nat), l.length - i = n → i ≤ l.length → (l.take i).any (fun x => decide (100 < x.2.1.size)) = false → L.affluxlaw08_great_L0 p l.length c (i : Int) w R := by
  intro n
  induction n with
  | zero =>
    intro i hd hi ht
    refine round.affluxlaw08_great_L0 ?_
    unfold B.affluxlaw08_great_L0
    refine br_f (decide_eq_false (by omega)) ?_
    rw [List.take_of_length_le (by omega)] at ht
    rw [ht] at hR
    exact hR
  | succ n ih =>
    intro i hd hi ht
    refine round.affluxlaw08_great_L0 ?_
    unfold B.affluxlaw08_great_L0
    refine br_t (decide_eq_true (by omega)) ?_
    obtain ⟨x, hx⟩ : ∃ x, l[i]? = some x := ⟨_, List.getElem?_eq_getElem (by omega)⟩
    obtain ⟨a, rfl, c0, c1, c2⟩ := hA H i x hx
    refine ⟨_, rfl, ⟨by omega, by omega⟩, ?_⟩
    rw [Int.toNat_natCast]
    refine ⟨_, c1, br (fun h => ?_) (fun h => ?_)⟩
    · have h : 100 < x.2.1.size := by have := of_decide_eq_true h; omega
      have e : (l.any fun x => decide (100 < x.2.1.size)) = true := by
        rw [List.any_eq_true]
        exact ⟨x, List.mem_of_getElem? hx, decide_eq_true h⟩
      rw [e] at hR
      exact hR
    · have h : ¬ 100 < x.2.1.size := by have := of_decide_eq_false h; omega
      refine lt' (y := ((i + 1 : Nat) : Int)) (by rw [wrap_id (by omega) (by omega)]; omega) ?_
      refine ih (i + 1) (by omega) (by omega) ?_
      have h1 := List.getElem?_eq_some_iff.1 hx
      rw [List.take_succ_eq_append_getElem h1.1, List.any_append, ht, h1.2]
      simp only [List.any_cons, List.any_nil, Bool.or_false, Bool.false_or]
      exact decide_eq_false h

theorem spec.affluxlaw08_great {p : Option Addr} {c : Nat} {l : ActL} (hA : Acts w0 p l) (H : Sat w0 w (All w0 :: F)) :
    Calls prog f_affluxlaw08_great #[.slice p l.length c] w fun e w' => e = .returned (.bool (greatL l)) ∧ w' = w := by
  refine ok.affluxlaw08_great ?_
  unfold V.affluxlaw08_great
  refine br (fun h => ?_) (fun h => ?_)
  · have h : 150 < l.length := by have := of_decide_eq_true h; omega
    refine ⟨?_, rfl⟩
    unfold greatL; rw [decide_eq_true h]; rfl
  · have h : ¬ 150 < l.length := by have := of_decide_eq_false h; omega
    refine great_L0 hA (by omega) H ⟨?_, rfl⟩ _ 0 rfl (Nat.zero_le _) rfl
    unfold greatL; rw [decide_eq_false h]; rfl

theorem play_L0 {b : Nat} {p : Option Addr} {c : Nat} {l : ActL} (hA : Acts w0 p l) (hl : l.length ≤ 150) {R : Ending → World → Prop}
    (hR : ∀ T p6 c6 w', Good T → T.all.length ≤ 150 → Sat w0 w' (Tree_int b T :: Prs p6 c6 T.all :: All w0 :: F) → R (.returned (.tuple #[.pointer (some ⟨b, 0, none⟩), .slice p6 T.all.length c6, .bool true])) w') :
    ∀ (n i : Nat) (T : Top Int) (p6 : Option Addr) (c6 : Nat) (w : World), l.length - i = n → i ≤ l.length → Good T → T.all.length ≤ i → Sat w0 w (Tree_int b T :: Prs p6 c6 T.all :: All w0 :: F) →
      L.affluxlaw08_play_L0 p l.length c (some ⟨b, 0, none⟩) p6 T.all.length c6 (i : Int) w R := by
  intro n
  induction n with
  | zero =>
    intro i T p6 c6 w hd hi hT hTl H
    refine round.affluxlaw08_play_L0 ?_
    unfold B.affluxlaw08_play_L0
    exact br_f (decide_eq_false (by omega)) (hR T p6 c6 w hT (by omega) H)
  | succ n ih =>
    intro i T p6 c6 w hd hi hT hTl H
    refine round.affluxlaw08_play_L0 ?_
    unfold B.affluxlaw08_play_L0
    refine br_t (decide_eq_true (by omega)) ?_
    obtain ⟨x, hx⟩ : ∃ x, l[i]? = some x := ⟨_, List.getElem?_eq_getElem (by omega)⟩
    have rd : ∀ {w : World} {F : List HP}, Sat w0 w (All w0 :: F) → ∃ a : Addr, p = some a ∧ w.cell? (a.add (i * 3)) = some (.int .i64 x.1) ∧ w.cell? ((a.add (i * 3)).add 1) = some (.string x.2.1) ∧ w.cell? ((a.add (i * 3)).add 2) = some (.int .i64 x.2.2) := fun H => hA H i x hx
    obtain ⟨a, rfl, c0, c1, c2⟩ := rd (H.pull 2 rfl)
    have rd2 : ∀ {w : World} {F : List HP}, Sat w0 w (All w0 :: F) → w.cell? (a.add (i * 3)) = some (.int .i64 x.1) ∧ w.cell? ((a.add (i * 3)).add 1) = some (.string x.2.1) ∧ w.cell? ((a.add (i * 3)).add 2) = some (.int .i64 x.2.2) := by
      intro w F H
      obtain ⟨a', h1, h2⟩ := rd H
      cases h1
      exact h2
    have bd : (0 : Int) ≤ (i : Int) ∧ (i : Int) < (l.length : Int) := ⟨by omega, by omega⟩
    refine ⟨_, rfl, bd, ?_⟩
    rw [Int.toNat_natCast]
    refine ⟨_, c1, (spec.affluxlaw08_find (H.pull 1 rfl) (by omega)).mono ?_⟩
    rintro e w1 ⟨rfl, H1⟩
    refine ⟨_, _, rfl, ?_⟩
    refine jnp (fun v => v = (valAt T.all x.2.1).getD 0) (fun J hJ => br (fun hh => ?_) (fun hh => hJ _ ?_)) ?_
    · obtain ⟨y, hy, hyk⟩ := has_some hh
      have hn := (List.getElem?_eq_some_iff.1 hy).1
      obtain ⟨a6, rfl, d0, d1⟩ := Prs_cell H1 hy
      refine ⟨_, rfl, ⟨by omega, by omega⟩, ?_⟩
      rw [Int.toNat_natCast, addr_add]
      refine ⟨_, d1, hJ _ ?_⟩
      unfold valAt
      rw [if_pos hh, hy]; rfl
    · unfold valAt
      rw [if_neg (by rw [hh]; simp)]; rfl
    rintro v rfl
    refine jnpw3 (fun v ok w => v = (valAt T.all x.2.1).getD 0 ∧ ok = has T.all x.2.1 ∧ ∃ T' : Top Int, Good T' ∧ T'.all = withL T.all x.2.1 x.2.2 (x.1 != 0) ∧ Sat w0 w (Tree_int b T' :: Prs p6 c6 T.all :: All w0 :: F)) (fun J hJ => ?_) ?_
    · obtain ⟨c0, c1, c2⟩ := rd2 (H1.pull 2 rfl)
      refine ⟨_, rfl, bd, _, c0, br (fun h0 => ?_) (fun h0 => ?_)⟩
      · have h0 : x.1 = 0 := by simpa using h0
        refine dr H1 fun w2 H2 => ?_
        obtain ⟨c0, c1, c2⟩ := rd2 (H2.pull 2 rfl)
        refine ⟨_, rfl, bd, _, rfl, bd, _, c1, _, c2, (spec.tree_Tree_int_Put (H2.pull 1 rfl) hT (by omega)).mono ?_⟩
        rintro e w3 ⟨rfl, H3⟩
        have hok := putT_ok (k := x.2.1) (v := x.2.2) hT
        refine ⟨_, _, rfl, hJ _ _ _ ⟨rfl, rfl, _, hok.1, ?_, H3⟩⟩
        rw [withL_eq, hok.2, h0]; rfl
      · have h0 : x.1 ≠ 0 := by simpa using h0
        refine ⟨_, rfl, bd, _, c1, (spec.tree_Tree_int_Delete (str [], 0) (H1.pull 1 rfl) hT (by omega)).mono ?_⟩
        rintro e w3 ⟨rfl, H3⟩
        have hok := dropT_ok (x0 := (str [], 0)) (k := x.2.1) hT
        refine ⟨_, _, rfl, hJ _ _ _ ⟨rfl, rfl, _, hok.1, ?_, H3⟩⟩
        rw [withL_eq, hok.2, if_pos (by simpa using h0)]
    rintro v ok w2 ⟨rfl, rfl, T', hT', hall, H2⟩
    refine jq True (fun J hJ => br_f (by simp) (br_f (by simp) (hJ trivial))) (fun _ => ?_)
    refine dr H2 fun w3 H3 => ?_
    obtain ⟨c0, c1, c2⟩ := rd2 (H3.pull 2 rfl)
    refine ⟨_, rfl, bd, _, rfl, bd, _, rfl, bd, _, c1, _, c2, _, c0, (spec.affluxlaw08_with (H3.pull 1 rfl) (by omega)).mono ?_⟩
    rintro e w4 ⟨p7, c7, rfl, H4⟩
    refine ⟨_, _, _, rfl, ?_⟩
    refine lt' (y := ((i + 1 : Nat) : Int)) (by rw [wrap_id (by omega) (by omega)]; omega) ?_
    have hlen : (withL T.all x.2.1 x.2.2 (x.1 != 0)).length ≤ i + 1 := by
      rw [withL_eq]
      split
      · have := (del_len x.2.1 T.all).2; omega
      · have := (ins_len x.2.1 x.2.2 T.all).2; omega
    rw [← hall] at H4 hlen ⊢
    exact ih (i + 1) T' p7 c7 w4 (by omega) (by omega) hT' hlen (H4.pull 1 rfl)

theorem good_zero : Good (⟨0, ([] : List (Key × Int))⟩ : Top Int) := ⟨⟨Nat.le_refl _, by show (0 : Nat) ≤ 5; omega⟩, trivial⟩

theorem spec.affluxlaw08_play {p : Option Addr} {c : Nat} {l : ActL} (hA : Acts w0 p l) (hl : l.length ≤ 150) (H : Sat w0 w (All w0 :: F)) :
    Calls prog f_affluxlaw08_play #[.slice p l.length c] w fun e w' => ∃ b T p6 c6, e = .returned (.tuple #[.pointer (some ⟨b, 0, none⟩), .slice p6 (Top.all (V := Int) T).length c6, .bool true]) ∧ Good T ∧ T.all.length ≤ 150 ∧
      Sat w0 w' (Tree_int b T :: Prs p6 c6 T.all :: All w0 :: F) := by
  refine ok.affluxlaw08_play ?_
  unfold V.affluxlaw08_play
  refine (spec.tree_New_int H).mono ?_
  rintro e w1 ⟨b, rfl, H1⟩
  refine ⟨_, rfl, ?_⟩
  have H2 : Sat w0 w1 (Tree_int b ⟨0, ([] : List (Key × Int))⟩ :: Prs none 0 [] :: All w0 :: F) := (H1.nil_Sl 31 2).pull 1 rfl
  exact play_L0 hA hl (fun T p6 c6 w' h1 h2 h3 => ⟨b, T, p6, c6, rfl, h1, h2, h3⟩) _ 0 ⟨0, ([] : List (Key × Int))⟩ none 0 w1 rfl (Nat.zero_le _) good_zero (Nat.zero_le _) H2

/-! ### TreePlays -/
theorem plays_L0 {b : Nat} {p6 : Option Addr} {c6 : Nat} {T : Top Int} (hT : Good T) (hl : T.all.length ≤ 150) {R : Ending → World → Prop}
    (hR : ∀ w', Sat w0 w' (All w0 :: F) → R (.returned (.bool true)) w') :
    ∀ (n i : Nat) (w : World), T.all.length - i = n → i ≤ T.all.length → Sat w0 w (TP (some ⟨b, 0, none⟩) T.all :: Prs p6 c6 T.all :: All w0 :: F) → L.affluxlaw08_TreePlays_L0 (some ⟨b, 0, none⟩) p6 T.all.length c6 (i : Int) w R := by
  intro n
  induction n with
  | zero =>
    intro i w hd hi H
    refine round.affluxlaw08_TreePlays_L0 ?_
    unfold B.affluxlaw08_TreePlays_L0
    exact br_f (decide_eq_false (by omega)) (hR w H.drop.drop)
  | succ n ih =>
    intro i w hd hi H
    refine round.affluxlaw08_TreePlays_L0 ?_
    unfold B.affluxlaw08_TreePlays_L0
    refine br_t (decide_eq_true (by omega)) ?_
    obtain ⟨x, hx⟩ : ∃ x, T.all[i]? = some x := ⟨_, List.getElem?_eq_getElem (by omega)⟩
    obtain ⟨a, rfl, c0, c1⟩ := Prs_cell (H.pull 1 rfl) hx
    refine ⟨_, rfl, ⟨by omega, by omega⟩, ?_⟩
    rw [Int.toNat_natCast, addr_add]
    refine ⟨_, c0, (spec.affluxlaw08_looks H hT.2 (by omega)).mono ?_⟩
    rintro e w1 ⟨rfl, H1⟩
    refine ⟨_, rfl, br_f rfl (lt' (y := ((i + 1 : Nat) : Int)) (by rw [wrap_id (by omega) (by omega)]; omega) ?_)⟩
    exact ih (i + 1) w1 (by omega) (by omega) H1

theorem main.TreePlays {p : Option Addr} {c : Nat} {l : ActL} {ask : Key} (hA : Acts w0 p l) (H : Sat w0 w (All w0 :: F)) :
    Calls prog f_affluxlaw08_TreePlays #[.slice p l.length c, .string ask] w fun e w' => e = .returned (.bool true) ∧ Sat w0 w' (All w0 :: F) := by
  refine ok.affluxlaw08_TreePlays ?_
  unfold V.affluxlaw08_TreePlays
  refine jnw (fun w => Sat w0 w (All w0 :: F) ∧ greatL l = false) (fun J hJ => ?_) ?_
  · refine (spec.affluxlaw08_great hA H).mono ?_
    rintro e w1 ⟨rfl, rfl⟩
    have aw : Calls prog f_affluxlaw08_awake #[] w1 fun e w' => ∃ b, e = .returned (.bool b) ∧ (Ending.returned (.bool b) = .returned (.bool true) ∧ Sat w0 w' (All w0 :: F)) := by
      refine (spec.affluxlaw08_awake H).mono ?_
      rintro e w2 ⟨rfl, H2⟩
      exact ⟨_, rfl, rfl, H2⟩
    refine ⟨_, rfl, br (fun hg => br_t rfl (br_t rfl aw)) (fun hg => br (fun h1 => br_t rfl aw) (fun h1 => ?_))⟩
    refine (spec.affluxlaw08_awake H).mono ?_
    rintro e w2 ⟨rfl, H2⟩
    exact ⟨_, rfl, br_f rfl (hJ _ ⟨H2, hg⟩)⟩
  · rintro w1 ⟨H1, hg⟩
    have hl : l.length ≤ 150 := by
      unfold greatL at hg
      simp only [Bool.or_eq_false_iff, decide_eq_false_iff_not] at hg
      omega
    refine (spec.affluxlaw08_play hA hl H1).mono ?_
    rintro e w2 ⟨b, T, p6, c6, rfl, hT, hTl, H2⟩
    refine ⟨_, _, _, _, _, rfl, br_f rfl ?_⟩
    refine (spec.affluxlaw08_looks (TP_back hT H2) hT.2 (by omega)).mono ?_
    rintro e w3 ⟨rfl, H3⟩
    refine ⟨_, rfl, br_f rfl ?_⟩
    exact plays_L0 hT hTl (fun w' H' => ⟨rfl, H'⟩) _ 0 w3 rfl (Nat.zero_le _) H3

end Go.Proofs.Ytohhoojcgcbmcaa
