/- TreeKeys, walked. -/
import Derived.Test.YtohhoojcgcbmcaaLawH
set_option maxRecDepth 4000
set_option linter.unusedVariables false
set_option linter.unusedSimpArgs false
namespace Go.Proofs.Ytohhoojcgcbmcaa
open Go Go.Vc Go.Sl Go.Tr Go.Proofs Go.RowKit

variable {w0 w : World} {F : List HP}

/-- The keys that the law asks for. -/
def selL (frm to : Key) (E : List (Key × Int)) : List Key := (E.map (·.1)).filter fun k => !sLt k frm && belowQ to k

theorem belowQ_down {to x y : Key} (h : belowQ to y = true) (hxy : sLt x y = true) : belowQ to x = true := by
  unfold belowQ at *
  cases h1 : sEq to (str []) with
  | true => rfl
  | false =>
    rw [h1] at h
    have : sLt y to = true := by simpa using h
    rw [lt_trans hxy this]; rfl

theorem filter_while {to : Key} : ∀ {D : List (Key × Int)}, Sorted D → (D.map (·.1)).filter (belowQ to) = (D.map (·.1)).takeWhile (belowQ to)
  | [], _ => rfl
  | e :: D, h => by
    rw [List.map_cons, List.takeWhile_cons]
    cases hb : belowQ to e.1 with
    | true => rw [List.filter_cons_of_pos hb, filter_while h.2]; rfl
    | false =>
      rw [List.filter_eq_nil_iff.2]
      · rfl
      · intro k hk
        rcases List.mem_cons.1 hk with rfl | hk
        · rw [hb]; simp
        · obtain ⟨x, hx, rfl⟩ := List.mem_map.1 hk
          cases hbx : belowQ to x.1 with
          | false => simp
          | true =>
            have := belowQ_down hbx (h.1 x hx)
            rw [hb] at this; cases this

theorem sel_eq {frm to : Key} {E : List (Key × Int)} (hs : Sorted E) : selL frm to E = ((E.drop (idx E frm)).map (·.1)).takeWhile (belowQ to) := by
  have e : E = E.take (idx E frm) ++ E.drop (idx E frm) := (List.take_append_drop _ _).symm
  unfold selL
  conv => lhs; rw [e]
  rw [List.map_append, List.filter_append]
  have h1 : ((E.take (idx E frm)).map (·.1)).filter (fun k => !sLt k frm && belowQ to k) = [] := by
    rw [List.filter_eq_nil_iff]
    intro k hk
    obtain ⟨x, hx, rfl⟩ := List.mem_map.1 hk
    obtain ⟨j, hj⟩ := List.mem_iff_getElem?.1 hx
    have hjl := (List.getElem?_eq_some_iff.1 hj).1
    simp at hjl
    rw [List.getElem?_take_of_lt (by omega)] at hj
    rw [idx_lt hj (by omega)]; simp
  have h2 : ((E.drop (idx E frm)).map (·.1)).filter (fun k => !sLt k frm && belowQ to k) = ((E.drop (idx E frm)).map (·.1)).filter (belowQ to) := by
    apply List.filter_congr
    intro k hk
    obtain ⟨x, hx, rfl⟩ := List.mem_map.1 hk
    obtain ⟨j, hj⟩ := List.mem_iff_getElem?.1 hx
    rw [List.getElem?_drop] at hj
    rw [idx_ge hs hj (by omega)]; rfl
  have hs2 : Sorted (E.drop (idx E frm)) := by
    have := hs
    rw [e] at this
    exact (sorted_append.1 this).2.1
  rw [h1, h2, List.nil_append, filter_while hs2]

theorem sel_len (frm to : Key) (E : List (Key × Int)) : (selL frm to E).length ≤ E.length := by
  unfold selL
  have := List.length_filter_le (fun k => !sLt k frm && belowQ to k) (E.map (·.1))
  simpa using this

theorem keysT_sel {T : Top Int} (hT : Good T) (frm to : Key) (most : Int) : keysT_int T frm to most = (selL frm to T.all).take most.toNat := by
  rw [sel_eq (E := T.all) hT.2]; rfl

theorem spec.tree_Tree_int_Count {g : World} {b : Nat} {T : Top Int} {frm to : Key} (H : Sat g w (Tree_int b T :: F)) (hT : Good T) (hn : T.all.length < 1000000) :
    Calls prog f_tree_Tree_int_Count #[.pointer (some ⟨b, 0, none⟩), .string frm, .string to] w fun e w' => e = .returned (.int .i64 ((selL frm to T.all).length : Int)) ∧ Sat g w' (Tree_int b T :: F) := by
  refine ok.tree_Tree_int_Count ?_
  unfold V.tree_Tree_int_Count
  refine (spec.tree_Tree_int_Len H).mono ?_
  rintro e w1 ⟨rfl, H1⟩
  refine ⟨_, rfl, (spec.tree_Tree_int_Keys H1 hT hn).mono ?_⟩
  rintro e w2 ⟨p, c, rfl, H2⟩
  refine ⟨_, _, _, rfl, ?_, H2.drop⟩
  rw [keysT_sel hT, Int.toNat_natCast, List.take_of_length_le (sel_len _ _ _)]

theorem sel_succ {frm to : Key} {E : List (Key × Int)} {i : Nat} {x : Key × Int} (hx : E[i]? = some x) :
    selL frm to (E.take (i + 1)) = selL frm to (E.take i) ++ if !sLt x.1 frm && belowQ to x.1 then [x.1] else [] := by
  have h1 := List.getElem?_eq_some_iff.1 hx
  unfold selL
  rw [List.take_succ_eq_append_getElem h1.1, h1.2, List.map_append, List.filter_append]
  congr 1
  cases h : (!sLt x.1 frm && belowQ to x.1) <;> simp [h]

theorem keys_law_L0 {b : Nat} {p6 : Option Addr} {c6 : Nat} {T : Top Int} {frm to : Key} {most : Int} (hT : Good T) (hl : T.all.length ≤ 150) {R : Ending → World → Prop}
    (hR : ∀ w', Sat w0 w' (All w0 :: F) → R (.returned (.bool true)) w') :
    ∀ (n i : Nat) (p : Option Addr) (c : Nat) (want : List Key) (w : World), T.all.length - i = n → i ≤ T.all.length → want = (selL frm to (T.all.take i)).take most.toNat →
      Sat w0 w (Strs p c want :: Tree_int b T :: Prs p6 c6 T.all :: All w0 :: F) →
      L.affluxlaw08_TreeKeys_L0 frm to most (some ⟨b, 0, none⟩) p6 T.all.length c6 p want.length c ((selL frm to (T.all.take i)).length : Int) (i : Int) w R := by
  intro n
  induction n with
  | zero =>
    intro i p c want w hd hi hwant H
    refine round.affluxlaw08_TreeKeys_L0 ?_
    unfold B.affluxlaw08_TreeKeys_L0
    refine br_f (decide_eq_false (by omega)) ?_
    have ei : T.all.take i = T.all := List.take_of_length_le (by omega)
    rw [ei] at hwant ⊢
    refine (spec.tree_Tree_int_Keys (H.pull 1 rfl) hT (by omega)).mono ?_
    rintro e w1 ⟨p1, c1, rfl, H1⟩
    rw [keysT_sel hT, ← hwant] at H1 ⊢
    have hwl : want.length ≤ 150 := by
      have := sel_len frm to T.all
      rw [hwant, List.length_take]; omega
    refine ⟨_, _, _, rfl, (spec.affluxref05_Same (H1.ord [0, 2, 1] rfl rfl rfl) (by omega)).mono ?_⟩
    rintro e w2 ⟨rfl, H2⟩
    refine ⟨_, rfl, br_t (decide_eq_true rfl) ((spec.tree_Tree_int_Count (H2.pull 2 rfl) hT (by omega)).mono ?_)⟩
    rintro e w3 ⟨rfl, H3⟩
    refine ⟨_, rfl, ?_⟩
    have e : (((selL frm to T.all).length : Int) == ((selL frm to T.all).length : Int)) = true := by simp
    rw [e]
    exact hR w3 (H3.drop.drop.drop.drop)
  | succ n ih =>
    intro i p c want w hd hi hwant H
    refine round.affluxlaw08_TreeKeys_L0 ?_
    unfold B.affluxlaw08_TreeKeys_L0
    refine br_t (decide_eq_true (by omega)) ?_
    obtain ⟨x, hx⟩ : ∃ x, T.all[i]? = some x := ⟨_, List.getElem?_eq_getElem (by omega)⟩
    obtain ⟨a, rfl, d0, d1⟩ := Prs_cell (H.pull 2 rfl) hx
    have bd : (0 : Int) ≤ (i : Int) ∧ (i : Int) < (T.all.length : Int) := ⟨by omega, by omega⟩
    have hw : IntKind.wrap .i64 (((i : Nat) : Int) + (1 : Int)) = ((i + 1 : Nat) : Int) := by rw [wrap_id (by omega) (by omega)]; omega
    have hsl : (selL frm to (T.all.take i)).length ≤ 150 := by
      have h1 := sel_len frm to (T.all.take i)
      have h2 : (T.all.take i).length ≤ T.all.length := by simp; omega
      omega
    have hs := sel_succ (frm := frm) (to := to) hx
    refine jnb (fun q => q = (!sLt x.1 frm && belowQ to x.1)) (fun J hJ => ?_) ?_
    · refine ⟨_, rfl, bd, ?_⟩
      rw [Int.toNat_natCast, addr_add]
      refine ⟨_, d0, br (fun h1 => br (fun h2 => hJ _ ?_) (fun h2 => ⟨_, rfl, bd, ?_⟩)) (fun h1 => hJ _ ?_)⟩
      · rw [h1]; unfold belowQ; rw [h2]; rfl
      · rw [addr_add]
        refine ⟨_, d0, hJ _ ?_⟩
        rw [h1]; unfold belowQ; rw [h2]; rfl
      · rw [h1]; rfl
    · rintro q rfl
      refine br (fun hq => ?_) (fun hq => ?_)
      · rw [hq] at hs
        simp only [if_true] at hs
        have hlen : (selL frm to (T.all.take (i + 1))).length = (selL frm to (T.all.take i)).length + 1 := by rw [hs]; simp
        refine lt' (y := ((selL frm to (T.all.take (i + 1))).length : Int)) (by rw [wrap_id (by omega) (by omega), hlen]; omega) ?_
        refine br (fun hm => ?_) (fun hm => ?_)
        · have hm : (want.length : Int) < most := of_decide_eq_true hm
          refine ⟨_, rfl, bd, ?_⟩
          rw [Int.toNat_natCast, addr_add]
          refine ⟨_, d0, append_one H (by rw [hwant, List.length_take]; omega) fun p' c' w1 H1 => ?_⟩
          refine lt' hw ?_
          refine ih (i + 1) p' c' (want ++ [x.1]) w1 (by omega) (by omega) ?_ H1
          have h3 : (selL frm to (T.all.take i)).length < most.toNat := by
            rw [hwant, List.length_take] at hm; omega
          have e1 : (selL frm to (T.all.take i)).take most.toNat = selL frm to (T.all.take i) := List.take_of_length_le (by omega)
          have e2 : (selL frm to (T.all.take i) ++ [x.1]).take most.toNat = selL frm to (T.all.take i) ++ [x.1] := List.take_of_length_le (by rw [List.length_append]; simp; omega)
          rw [hs, hwant, e1, e2]
        · have hm : ¬ (want.length : Int) < most := of_decide_eq_false hm
          refine lt' hw ?_
          refine ih (i + 1) p c want w (by omega) (by omega) ?_ H
          have h3 : most.toNat ≤ (selL frm to (T.all.take i)).length := by
            rw [hwant, List.length_take] at hm; omega
          rw [hs, hwant, List.take_append_of_le_length h3]
      · rw [hq] at hs
        simp only [Bool.false_eq_true, if_false, List.append_nil] at hs
        refine lt' hw ?_
        rw [← hs]
        exact ih (i + 1) p c want w (by omega) (by omega) (by rw [hs]; exact hwant) H

theorem main.TreeKeys {p : Option Addr} {c : Nat} {l : ActL} {frm to : Key} {most : Int} (hA : Acts w0 p l) (H : Sat w0 w (All w0 :: F)) :
    Calls prog f_affluxlaw08_TreeKeys #[.slice p l.length c, .string frm, .string to, .int .i64 most] w fun e w' => e = .returned (.bool true) ∧ Sat w0 w' (All w0 :: F) := by
  refine ok.affluxlaw08_TreeKeys ?_
  unfold V.affluxlaw08_TreeKeys
  refine jnw (fun w => Sat w0 w (All w0 :: F) ∧ greatL l = false) (fun J hJ => ?_) ?_
  · refine (spec.affluxlaw08_great hA H).mono ?_
    rintro e w1 ⟨rfl, rfl⟩
    have aw : Calls prog f_affluxlaw08_awake #[] w1 fun e w' => ∃ b, e = .returned (.bool b) ∧ (Ending.returned (.bool b) = .returned (.bool true) ∧ Sat w0 w' (All w0 :: F)) := by
      refine (spec.affluxlaw08_awake H).mono ?_
      rintro e w2 ⟨rfl, H2⟩
      exact ⟨_, rfl, rfl, H2⟩
    refine ⟨_, rfl, br (fun hg => br_t rfl (br_t rfl (br_t rfl aw))) (fun hg => br (fun h1 => br_t rfl (br_t rfl aw)) (fun h1 => br (fun h2 => br_t rfl aw) (fun h2 => ?_)))⟩
    refine (spec.affluxlaw08_awake H).mono ?_
    rintro e w2 ⟨rfl, H2⟩
    exact ⟨_, rfl, br_f rfl (hJ _ ⟨H2, hg⟩)⟩
  · rintro w1 ⟨H1, hg⟩
    have hl : l.length ≤ 150 := by
      unfold greatL at hg
      simp only [Bool.or_eq_false_iff, decide_eq_false_iff_not] at hg
      omega
    refine (spec.affluxlaw08_play hA hl H1).mono ?_
    rintro e w2 ⟨b, T, p6, c6, rfl, hT, hTl, H2⟩
    refine ⟨_, _, _, _, _, rfl, br_f rfl ?_⟩
    exact keys_law_L0 hT hTl (fun w' H' => ⟨rfl, H'⟩) _ 0 none 0 [] w2 rfl (Nat.zero_le _) (by simp [selL]) (Strs_nil H2)

theorem walk.TreeKeys (a : Option Addr) (c : Nat) (l : ActL) (frm to : Key) (most : Int) (w : World) (hl : ActsRd w a l) : Calls prog f_affluxlaw08_TreeKeys #[.slice a l.length c, .string frm, .string to, .int .i64 most] w fun e w' => e = .returned (.bool true) ∧ Below w.heap.size w w' := by
  refine (main.TreeKeys (acts_of hl) (all_start w)).mono ?_
  rintro e w' ⟨rfl, H⟩
  exact ⟨rfl, all_below H⟩

end Go.Proofs.Ytohhoojcgcbmcaa
