import Derived.Test.YtohhoojcgcbmcaaS10
import Derived.Test.YtohhoojcgcbmcaaLawA
import Derived.Test.YtohhoojcgcbmcaaKeys
set_option maxRecDepth 4000
set_option linter.unusedVariables false
set_option linter.unusedSimpArgs false
namespace Go.Proofs.Ytohhoojcgcbmcaa
open Go Go.Vc Go.Sl Go.Tr Go.Proofs
/-! #### the keys, of string -/
theorem keys_L0_string {g : World} {F : List HP} {b : Nat} {T : Top Key} (hT : Good T) (hn : T.all.length < 1000000) {to : Key} {most : Int} {fin : List Key} {R : Ending → World → Prop}
    (hR : ∀ p c w', Sat g w' (Strs p c fin :: Tree_string b T :: F) → R (.returned (.slice p fin.length c)) w') :
    ∀ (n j : Nat) (out : List Key) (p : Option Addr) (c : Nat) (w : World), T.all.length - j = n → j ≤ T.all.length → out.length ≤ j → fin = out ++ keysL to ((T.all.drop j).map (·.1)) (most - out.length).toNat →
      Sat g w (Strs p c out :: Tree_string b T :: F) → L.tree_Tree_string_Keys_L0 (some ⟨b, 0, none⟩) to most p out.length c ((T.all[j]?.map (·.1)).getD (str [])) T.all[j]?.isSome w R := by
  intro n
  induction n with
  | zero =>
    intro j out p c w hd hj ho hf H
    refine round.tree_Tree_string_Keys_L0 ?_
    unfold B.tree_Tree_string_Keys_L0
    rw [List.getElem?_eq_none (by omega)]
    rw [List.drop_eq_nil_of_le (by omega), List.map_nil, keysL_nil, List.append_nil] at hf
    subst hf
    exact jq False (fun J hJ => br_f rfl (br_f rfl (br_f rfl (hR _ _ _ H)))) (fun h => h.elim)
  | succ n ih =>
    intro j out p c w hd hj ho hf H
    obtain ⟨x, hx⟩ : ∃ x, T.all[j]? = some x := ⟨_, List.getElem?_eq_getElem (by omega)⟩
    have hdj : T.all.drop j = x :: T.all.drop (j + 1) := by
      have h1 := List.getElem?_eq_some_iff.1 hx
      rw [← List.getElem_cons_drop h1.1, h1.2]
    rw [hdj, List.map_cons] at hf
    refine round.tree_Tree_string_Keys_L0 ?_
    unfold B.tree_Tree_string_Keys_L0
    rw [hx]
    have stop1 : ¬ ((out.length : Int) < most) → R (.returned (.slice p out.length c)) w := by
      intro h
      rw [show (most - (out.length : Int)).toNat = 0 by omega, keysL_zero, List.append_nil] at hf
      subst hf
      exact hR _ _ _ H
    have stop2 : belowQ to x.1 = false → R (.returned (.slice p out.length c)) w := by
      intro h
      rw [keysL_stop h, List.append_nil] at hf
      subst hf
      exact hR _ _ _ H
    refine jq ((out.length : Int) < most ∧ belowQ to x.1 = true) (fun J hJ => br_t rfl (br (fun h1 => ?_) (fun h1 => ?_))) (fun hc => ?_)
    · have h1 : (out.length : Int) < most := of_decide_eq_true h1
      refine br (fun h2 => br_t rfl (hJ ⟨h1, by unfold belowQ; rw [h2]; rfl⟩)) (fun h2 => br (fun h3 => hJ ⟨h1, by unfold belowQ; rw [show sLt x.1 to = true from h3]; simp⟩) (fun h3 => stop2 ?_))
      unfold belowQ; rw [h2, show sLt x.1 to = false from h3]; rfl
    · exact br_f rfl (stop1 (of_decide_eq_false h1))
    · refine append_one (p := p) (c := c) (ks := out) H (by omega) fun p' c' w1 H1 => ?_
      refine (spec.tree_Tree_string_Next (H1.pull 1 rfl) hT).mono ?_
      rintro e w2 ⟨rfl, H2⟩
      rw [show nextE T.all ((Option.map (fun x => x.1) (some x)).getD (str [])) false = T.all[j + 1]? from next_succ hT.2 hx]
      refine ⟨_, _, _, rfl, ?_⟩
      refine ih (j + 1) (out ++ [x.1]) p' c' w2 (by omega) (by omega) (by simp; omega) ?_ (H2.pull 1 rfl)
      obtain ⟨m, hm⟩ : ∃ m, (most - (out.length : Int)).toNat = m + 1 := ⟨(most - (out.length : Int)).toNat - 1, by have := hc.1; omega⟩
      rw [hf, hm, keysL_go hc.2]
      have e2 : (most - ((out ++ [x.1]).length : Int)).toNat = m := by
        have : ((out ++ [x.1]).length : Int) = out.length + 1 := by simp
        rw [this]; omega
      rw [e2]; simp

/-- The keys that are asked for. -/
def keysT_string (T : Top Key) (frm to : Key) (most : Int) : List Key := keysL to ((T.all.drop (idx T.all frm)).map (·.1)) most.toNat

theorem spec.tree_Tree_string_Keys {g w : World} {F : List HP} {b : Nat} {T : Top Key} {frm to : Key} {most : Int} (H : Sat g w (Tree_string b T :: F)) (hT : Good T) (hn : T.all.length < 1000000) :
    Calls prog f_tree_Tree_string_Keys #[.pointer (some ⟨b, 0, none⟩), .string frm, .string to, .int .i64 most] w
      fun e w' => ∃ p c, e = .returned (.slice p (keysT_string T frm to most).length c) ∧ Sat g w' (Strs p c (keysT_string T frm to most) :: Tree_string b T :: F) := by
  refine ok.tree_Tree_string_Keys ?_
  unfold V.tree_Tree_string_Keys
  refine (spec.tree_Tree_string_Next H hT).mono ?_
  rintro e w1 ⟨rfl, H1⟩
  rw [next_first (es := T.all) hT.2]
  refine ⟨_, _, _, rfl, ?_⟩
  refine keys_L0_string hT hn (to := to) (most := most) (fun p c w' H' => ⟨p, c, rfl, H'⟩) _ (idx T.all frm) [] none 0 w1 rfl (idx_le _ _) (Nat.zero_le _) ?_ (Strs_nil H1)
  simp [keysT_string]

/-! none of it -/
theorem nil.tree_Tree_string_Len {g w : World} {F : List HP} (H : Sat g w F) : Calls prog f_tree_Tree_string_Len #[.pointer none] w fun e w' => e = .returned (.int .i64 0) ∧ Sat g w' F := by
  refine ok.tree_Tree_string_Len ?_
  unfold V.tree_Tree_string_Len
  exact br_t rfl ⟨rfl, H⟩

theorem none.tree_Tree_string_Pages {g w : World} {F : List HP} {b : Nat} {T : Top Key} (H : Sat g w (Tree_string b T :: F)) (h0 : T.all = []) :
    Calls prog f_tree_Tree_string_Pages #[.pointer (some ⟨b, 0, none⟩)] w fun e w' => e = .returned (.slice none 0 0) ∧ Sat g w' (Tree_string b T :: F) := by
  refine ok.tree_Tree_string_Pages ?_
  unfold V.tree_Tree_string_Pages
  refine (spec.tree_Tree_string_Len H).mono ?_
  rintro e w1 ⟨rfl, H1⟩
  refine ⟨_, rfl, br_t (by rw [h0]; rfl) ⟨rfl, H1⟩⟩

end Go.Proofs.Ytohhoojcgcbmcaa
