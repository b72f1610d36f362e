import Derived.Test.YtohhoojcgcbmcaaS8
import Derived.Test.YtohhoojcgcbmcaaBTree8
set_option maxRecDepth 4000
set_option linter.unusedVariables false
set_option linter.unusedSimpArgs false
namespace Go.Proofs.Ytohhoojcgcbmcaa
open Go Go.Vc Go.Sl Go.Tr Go.Proofs
/-! #### the tree, of string -/
def Tree_string (b : Nat) (T : Top Key) : HP := exs fun q : Nat => stars [pt b (.cells #[.pointer (some ⟨q, 0, none⟩), .int .i64 (T.all.length : Int)] 77 (0, 0)), Page_string T.2 q]

theorem open_Tree_string {g w : World} {F : List HP} {b : Nat} {T : Top Key} (H : Sat g w (Tree_string b T :: F)) :
    ∃ q, Sat g w (pt b (.cells #[.pointer (some ⟨q, 0, none⟩), .int .i64 (T.all.length : Int)] 77 (0, 0)) :: Page_string T.2 q :: F) := by
  obtain ⟨q, H⟩ := Sat.open_ex (α := Nat) H
  exact ⟨q, H.open_stars⟩
theorem shut_Tree_string {g w : World} {F : List HP} {b q : Nat} {T : Top Key} {n : Int} (H : Sat g w (pt b (.cells #[.pointer (some ⟨q, 0, none⟩), .int .i64 n] 77 (0, 0)) :: Page_string T.2 q :: F)) (hn : n = T.all.length) : Sat g w (Tree_string b T :: F) := by
  subst hn
  exact Sat.shut_ex (α := Nat) q (Sat.shut_stars (M := [pt b (.cells #[.pointer (some ⟨q, 0, none⟩), .int .i64 (T.all.length : Int)] 77 (0, 0)), Page_string T.2 q]) H)

theorem spec.tree_New_string {g w : World} {F : List HP} (H : Sat g w F) :
    Calls prog f_tree_New_string #[] w fun e w' => ∃ b, e = .returned (.pointer (some ⟨b, 0, none⟩)) ∧ Sat g w' (Tree_string b ⟨0, ([] : List (Key × Key))⟩ :: F) := by
  refine ok.tree_New_string ?_
  unfold V.tree_New_string
  refine al H fun a w1 H1 => ?_
  refine al H1 fun b w2 H2 => ?_
  refine ⟨b, rfl, ?_⟩
  have H3 := ((H2.nil_Sl 69 1).nil_Sl 94 2).ord [3, 0, 1, 2] rfl rfl rfl
  have H4 := shut_Nd_string (es := []) (qs := []) H3 rfl rfl rfl rfl
  exact shut_Tree_string (T := ⟨0, ([] : List (Key × Key))⟩) (q := a) (H4.pull 1 rfl) rfl

theorem Top.val_string {T : Top Key} (h : Good T) (k : Key) : getP k T.2 = valAt T.all k := get_ok h.1 h.2

theorem spec.tree_Tree_string_Put {g w : World} {F : List HP} {b : Nat} {T : Top Key} {k : Key} {v : Key} (H : Sat g w (Tree_string b T :: F)) (hT : Good T) (hn : T.all.length < 1000000) :
    Calls prog f_tree_Tree_string_Put #[.pointer (some ⟨b, 0, none⟩), .string k, .string v] w
      fun e w' => e = .returned (.tuple #[.string ((valAt T.all k).getD (str [])), .bool (has T.all k)]) ∧ Sat g w' (Tree_string b (putT k v T) :: F) := by
  obtain ⟨q, H1⟩ := open_Tree_string H
  refine ok.tree_Tree_string_Put ?_
  unfold V.tree_Tree_string_Put
  refine br_f rfl ⟨_, rfl, _, H1.cell 0, ?_⟩
  refine (spec.tree_page_string_put (H1.pull 1 rfl) hT.1 hT.2).mono ?_
  rintro e w1 ⟨rfl, H2⟩
  refine ⟨_, _, rfl, ?_⟩
  have hok := putT_ok (k := k) (v := v) hT
  obtain ⟨p1, p2, p3, p4⟩ := put_ok (k := k) (v := v) hT.1 hT.2
  have h5 := hT.small
  rw [Top.val_string hT, valAt_some]
  refine jnw (fun w => ∃ q', Sat g w (pt b (.cells #[.pointer (some ⟨q', 0, none⟩), .int .i64 (T.all.length : Int)] 77 (0, 0)) :: Page_string (putT k v T).2 q' :: F)) (fun J hJ => ?_) (fun w2 hw2 => ?_)
  · obtain ⟨qs, H3⟩ := open_Page_string H2
    obtain ⟨pe, ce, pb, cb, f0, f1, fe, fk⟩ := facts_string H3
    refine ⟨_, rfl, _, (H3.pull 2 rfl).cell 0, _, rfl, _, _, _, f0, ?_⟩
    refine br (fun h6 => ?_) (fun h6 => ?_)
    · have h6 : 5 < (ents (putP k v T.2)).length := by have := of_decide_eq_true h6; omega
      have e : putT k v T = ⟨T.1 + 1, splitP (([], [putP k v T.2]) : Row Key T.1) 0⟩ := if_pos h6
      rw [e] at hJ
      refine ⟨_, rfl, _, (H2.pull 1 rfl).cell 0, ?_⟩
      refine al H2 fun a w3 H4 => ?_
      refine al H4 fun c w4 H5 => ?_
      refine ⟨_, rfl, ?_⟩
      refine st (H5.pull 3 rfl) (by simp) rfl fun w5 H6 => ?_
      refine ⟨_, rfl, _, H6.cell 0, ?_⟩
      have H7 := (H6.pull 2 rfl).shut_Sl (sz := 1) (l := 1) (c := 1) (all := [Value.pointer (some ⟨q, 0, none⟩)]) (by omega) (by simp)
      have H8 : Sat g w5 (pt c (.cells #[.slice none 0 0, .slice (some ⟨a, 0, none⟩) 1 1] 75 (0, 0)) :: Sl 94 2 none 0 0 [] :: Sl 69 1 (some ⟨a, 0, none⟩) 1 1 [Value.pointer (some ⟨q, 0, none⟩)] :: Kids Page_string ([] : List (BT Key T.1)) [] :: Page_string (putP k v T.2) q :: pt b (.cells #[.pointer (some ⟨c, 0, none⟩), .int .i64 (T.all.length : Int)] 77 (0, 0)) :: F) :=
        ((Sat.emp H7).nil_Sl 94 2).ord [4, 0, 2, 1, 5, 3] rfl rfl rfl
      have H9 := shut_Nd_string (es := []) (qs := [q]) H8 rfl rfl rfl rfl
      have H10 := Kids_cons.2 (H9.ord [2, 1, 0] rfl rfl rfl)
      refine (spec.split_string (t := ([], [putP k v T.2])) (n := 0) (c := putP k v T.2) (H10.pull 1 rfl) rfl rfl (by omega) p4 rfl (by simp)).mono ?_
      rintro e w6 ⟨rfl, qs', H11⟩
      refine ⟨rfl, hJ _ ⟨c, ?_⟩⟩
      exact (shut_Page_string (d := T.1 + 1) (t := splitP ([], [putP k v T.2]) 0) H11).pull 1 rfl
    · have h6 : ¬ 5 < (ents (putP k v T.2)).length := by have := of_decide_eq_false h6; omega
      have e : putT k v T = ⟨T.1, putP k v T.2⟩ := if_neg h6
      rw [e] at hJ
      exact hJ _ ⟨q, H2.pull 1 rfl⟩
  · obtain ⟨q', H3⟩ := hw2
    have hl : (putT k v T).all.length = T.all.length + (if has T.all k then 0 else 1) := by rw [hok.2, ins_len']
    refine br (fun hh => ?_) (fun hh => ?_)
    · have hh : has T.all k = false := by simpa using hh
      refine ⟨_, rfl, _, H3.cell 1, _, rfl, ?_⟩
      refine st H3 (by simp) rfl fun w3 H4 => ⟨rfl, ?_⟩
      refine shut_Tree_string H4 ?_
      rw [hl, hh, wrap_id (by omega) (by omega)]; simp
    · have hh : has T.all k = true := by simpa using hh
      refine ⟨rfl, shut_Tree_string H3 ?_⟩
      rw [hl, hh]; simp

theorem spec.tree_Tree_string_Len {g w : World} {F : List HP} {b : Nat} {T : Top Key} (H : Sat g w (Tree_string b T :: F)) :
    Calls prog f_tree_Tree_string_Len #[.pointer (some ⟨b, 0, none⟩)] w fun e w' => e = .returned (.int .i64 (T.all.length : Int)) ∧ Sat g w' (Tree_string b T :: F) := by
  obtain ⟨q, H1⟩ := open_Tree_string H
  refine ok.tree_Tree_string_Len ?_
  unfold V.tree_Tree_string_Len
  exact br_f rfl ⟨_, rfl, _, H1.cell 1, rfl, H⟩

theorem spec.tree_Tree_string_Delete (x0 : Key × Key) {g w : World} {F : List HP} {b : Nat} {T : Top Key} {k : Key} (H : Sat g w (Tree_string b T :: F)) (hT : Good T) (hn : T.all.length < 1000000) :
    Calls prog f_tree_Tree_string_Delete #[.pointer (some ⟨b, 0, none⟩), .string k] w
      fun e w' => e = .returned (.tuple #[.string ((valAt T.all k).getD (str [])), .bool (has T.all k)]) ∧ Sat g w' (Tree_string b (dropT x0 k T) :: F) := by
  obtain ⟨q, H1⟩ := open_Tree_string H
  refine ok.tree_Tree_string_Delete ?_
  unfold V.tree_Tree_string_Delete
  refine br_f rfl ⟨_, rfl, _, H1.cell 0, ?_⟩
  refine (spec.tree_page_string_drop (x0 := x0) (H1.pull 1 rfl) hT.1 (by by_cases h : T.1 = 0; exact .inl h; exact .inr (by rw [if_neg h]; exact Nat.le_refl _)) hT.2).mono ?_
  rintro e w1 ⟨rfl, H2⟩
  refine ⟨_, _, rfl, ?_⟩
  have hok := dropT_ok (x0 := x0) (k := k) hT
  have hl : (dropT x0 k T).all.length + (if has T.all k then 1 else 0) = T.all.length := by rw [hok.2, del_len']
  rw [Top.val_string hT, valAt_some]
  refine jnw (fun w => Sat g w (pt b (.cells #[.pointer (some ⟨q, 0, none⟩), .int .i64 ((dropT x0 k T).all.length : Int)] 77 (0, 0)) :: Page_string (dropP x0 k T.2) q :: F)) (fun J hJ => ?_) (fun w2 H3 => ?_)
  · refine br (fun hh => ?_) (fun hh => ?_)
    · refine ⟨_, rfl, _, (H2.pull 1 rfl).cell 1, _, rfl, ?_⟩
      refine st (H2.pull 1 rfl) (by simp) rfl fun w3 H4 => hJ _ ?_
      rw [hh] at hl
      have e : IntKind.wrap .i64 (((T.all.length : Nat) : Int) - (1 : Int)) = (((dropT x0 k T).all.length : Nat) : Int) := by rw [wrap_id (by omega) (by omega)]; simp at hl; omega
      rw [← e]
      exact H4
    · refine hJ _ ?_
      rw [hh] at hl
      have e : (dropT x0 k T).all.length = T.all.length := by simp at hl; omega
      rw [e]
      exact H2.pull 1 rfl
  · obtain ⟨d, t⟩ := T
    generalize hn2 : ((dropT x0 k ⟨d, t⟩).all.length : Int) = n2 at H3
    have hn2 : n2 = ((dropT x0 k ⟨d, t⟩).all.length : Int) := hn2.symm
    unfold dropT at hn2 ⊢
    dsimp only at H3 hn2 ⊢
    generalize dropP x0 k t = r at *
    obtain ⟨qs, H4⟩ := open_Page_string (H3.pull 1 rfl)
    have hqs := Under_length_string (H4.pull 1 rfl)
    refine jnbw (fun x w => x = (((ents r).length == 0) && !qs.isEmpty) ∧ Sat g w (Nd_string q (ents r) qs :: Under_string r qs :: pt b (.cells #[.pointer (some ⟨q, 0, none⟩), .int .i64 n2] 77 (0, 0)) :: F)) (fun J hJ => ?_) ?_
    · obtain ⟨pe, ce, pb, cb, f0, f1, fe, fk⟩ := facts_string H4
      refine ⟨_, rfl, _, H3.cell 0, _, rfl, _, _, _, f0, ?_⟩
      have e0 : (((ents r).length : Int) == (0 : Int)) = ((ents r).length == 0) := by
        cases (ents r).length with
        | zero => rfl
        | succ m => rfl
      rw [e0]
      refine br (fun h0 => ?_) (fun h0 => hJ _ _ ⟨by rw [h0]; rfl, H4⟩)
      refine ⟨_, rfl, _, H3.cell 0, ?_⟩
      refine (spec.tree_page_string_leaf H4).mono ?_
      rintro e w5 ⟨rfl, rfl, H5⟩
      exact ⟨_, rfl, hJ _ _ ⟨by rw [h0]; rfl, H5⟩⟩
    · rintro bb w4 ⟨rfl, H5⟩
      refine br (fun hb => ?_) (fun hb => ?_)
      · have hb1 : (ents r).length = 0 := by simp at hb; simp [hb.1]
        have hb2 : qs.isEmpty = false := by simp at hb; simp [hb.2]
        obtain ⟨pe, ce, pb, cb, f0, f1, fe, fk⟩ := facts_string H5
        cases qs with
        | nil => cases hb2
        | cons q1 qs =>
          obtain ⟨a, rfl, hk⟩ := fk 0 q1 rfl
          refine ⟨_, rfl, _, (H5.pull 2 rfl).cell 0, _, rfl, _, _, _, f1, _, rfl, ⟨by omega, by simp⟩, _, hk, _, rfl, ?_⟩
          refine st (H5.pull 2 rfl) (by simp) rfl fun w5 H6 => ⟨rfl, ?_⟩
          cases d with
          | zero => exact absurd hqs (by simp [below])
          | succ d =>
            obtain ⟨es, ks⟩ := r
            have hb1 : es.length = 0 := hb1
            obtain rfl : es = [] := List.length_eq_zero_iff.1 hb1
            cases ks with
            | nil => cases hqs
            | cons c ks =>
              refine shut_Tree_string (T := ⟨d, c⟩) (q := q1) ?_ hn2
              have H7 : Sat g w5 (Kids Page_string (c :: ks) (q1 :: qs) :: pt b (.cells #[.pointer (some ⟨q1, 0, none⟩), .int .i64 n2] 77 (0, 0)) :: Nd_string q [] (q1 :: qs) :: F) := H6.ord [2, 0, 1] rfl rfl rfl
              have H8 := (Kids_cons.1 H7).ord [2, 0, 1, 3] rfl rfl rfl
              exact ((H8.pull 3 rfl).drop.pull 2 rfl).drop
      · have e : upT (⟨d, r⟩ : Top Key) = ⟨d, r⟩ := by
          cases d with
          | zero => rfl
          | succ d =>
            obtain ⟨es, ks⟩ := r
            cases es with
            | cons x es => rfl
            | nil =>
              cases ks with
              | nil => rfl
              | cons c ks =>
                cases qs with
                | nil => cases hqs
                | cons q1 qs => simp at hb; exact absurd rfl hb
        rw [e] at hn2 ⊢
        refine ⟨rfl, shut_Tree_string (T := ⟨d, r⟩) (q := q) ?_ hn2⟩
        exact (shut_Page_string H5).pull 1 rfl

end Go.Proofs.Ytohhoojcgcbmcaa
