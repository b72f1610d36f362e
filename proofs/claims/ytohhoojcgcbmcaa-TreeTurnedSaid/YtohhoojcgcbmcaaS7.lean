import Derived.Test.YtohhoojcgcbmcaaS6
set_option maxRecDepth 4000
set_option linter.unusedVariables false
set_option linter.unusedSimpArgs false
namespace Go.Proofs.Ytohhoojcgcbmcaa
open Go Go.Vc Go.Sl Go.Tr Go.Proofs
/-! #### split of a row, last, put and drop, of string -/
theorem Under_cut_string {g w : World} {F : List HP} {d : Nat} {c : BT Key d} {ql : List Nat} (H : Sat g w (Under_string c ql :: F)) : Sat g w (Under_string (cutL c) (ql.take 3) :: Under_string (cutR c) (ql.drop 3) :: F) := by
  cases d with
  | zero =>
    obtain ⟨h1, H1⟩ := Sat.open_pr (p := ql = []) H
    clear H
    subst h1
    exact Sat.shut_pr (p := ([] : List Nat).take 3 = []) rfl (Sat.shut_pr (p := ([] : List Nat).drop 3 = []) rfl H1)
  | succ d =>
    have hl := Kids_length H
    have H1 : Sat g w (Kids Page_string (c.2.take 3 ++ c.2.drop 3) (ql.take 3 ++ ql.drop 3) :: F) := by rw [List.take_append_drop, List.take_append_drop]; exact H
    have h3 : (c.2.take 3).length = (ql.take 3).length := by rw [List.length_take, List.length_take, hl]
    exact (Kids_append h3).1 H1

/-- A page of a row, opened, with what the code reads on its way there. -/
theorem kid_at_row_string {g w : World} {F : List HP} {d : Nat} {es : List (Key × Key)} {ks : List (BT Key d)} {b : Nat} {qs : List Nat} {n : Nat} {c : BT Key d} (H : Sat g w (Nd_string b es qs :: Kids Page_string ks qs :: F)) (hc : ks[n]? = some c) :
    ∃ (a q : Nat) (cb : Nat), qs[n]? = some q ∧ w.cell? ⟨b, 1, none⟩ = some (.slice (some ⟨a, 0, none⟩) qs.length cb) ∧ w.cell? ⟨a, n * 1, none⟩ = some (.pointer (some ⟨q, 0, none⟩)) ∧
      Sat g w (Page_string c q :: Kids Page_string (ks.take n) (qs.take n) :: Kids Page_string (ks.drop (n + 1)) (qs.drop (n + 1)) :: Nd_string b es qs :: F) := by
  obtain ⟨pe, ce, pb, cb, f0, f1, fe, fk⟩ := facts_string H
  obtain ⟨q, hq, H1⟩ := Kids_one (H.pull 1 rfl) hc
  obtain ⟨a, rfl, hk⟩ := fk n q hq
  exact ⟨a, q, cb, hq, f1, hk, H1⟩

theorem kid_back_row_string {g w : World} {F : List HP} {d : Nat} {es : List (Key × Key)} {ks : List (BT Key d)} {b : Nat} {qs : List Nat} {n : Nat} {c : BT Key d} {q : Nat} (hq : qs[n]? = some q)
    (H : Sat g w (Page_string c q :: Kids Page_string (ks.take n) (qs.take n) :: Kids Page_string (ks.drop (n + 1)) (qs.drop (n + 1)) :: Nd_string b es qs :: F)) :
    Sat g w (Nd_string b es qs :: Kids Page_string (ks.take n ++ c :: ks.drop (n + 1)) qs :: F) := by
  have H1 := Kids_back H
  rw [← list_at hq] at H1
  exact H1.pull 1 rfl

theorem spec.split_string {g w : World} {F : List HP} {d : Nat} {t : Row Key d} {b : Nat} {qs : List Nat} {i : Int} {n : Nat} {c : BT Key d} (H : Sat g w (Nd_string b t.1 qs :: Kids Page_string t.2 qs :: F)) (hin : i = n) (hc : t.2[n]? = some c)
    (h6 : (ents c).length = 6) (hco : Core c) (hl : t.2.length = t.1.length + 1) (hsm : t.1.length < 1000) :
    Calls prog f_tree_page_string_split #[.pointer (some ⟨b, 0, none⟩), .int .i64 i] w
      fun e w' => e = .returned (.tuple #[]) ∧ ∃ qs', Sat g w' (Nd_string b (splitP t n).1 qs' :: Kids Page_string (splitP t n).2 qs' :: F) := by
  have hn := (List.getElem?_eq_some_iff.1 hc).1
  have hqs := Kids_length (H.pull 1 rfl)
  obtain ⟨x, hx⟩ : ∃ x, (ents c)[2]? = some x := ⟨_, List.getElem?_eq_getElem (by omega)⟩
  obtain ⟨q, hq, H1⟩ := Kids_one (H.pull 1 rfl) hc
  obtain ⟨ql, H2⟩ := open_Page_string H1
  have hql := Under_length_string (H2.pull 1 rfl)
  have hb := core_below hco
  have H3 : Sat g w (Nd_string b t.1 qs :: Nd_string q (ents c) ql :: Under_string c ql :: Kids Page_string (t.2.take n) (qs.take n) :: Kids Page_string (t.2.drop (n + 1)) (qs.drop (n + 1)) :: F) := H2.ord [4, 0, 1, 2, 3] rfl rfl rfl
  refine (spec.tree_page_string_split (n := n) (x := x) H3 hin hq (by omega) (by omega) (by omega) h6 ?_ hx).mono ?_
  · rcases hb with hb | hb
    · exact .inl (List.length_eq_zero_iff.1 (by omega))
    · exact .inr (by omega)
  · rintro e w' ⟨rfl, r, H4⟩
    refine ⟨rfl, qs.take (n + 1) ++ r :: qs.drop (n + 1), ?_⟩
    have e1 : splitP t n = (t.1.take n ++ x :: t.1.drop n, t.2.take n ++ cutL c :: cutR c :: t.2.drop (n + 1)) := by unfold splitP; simp only [hc, hx]
    rw [e1]
    rw [← ents_cutL, ← ents_cutR] at H4
    have H5 := Under_cut_string (H4.pull 3 rfl)
    have H6 := shut_Page_string (H5.ord [3, 0, 1, 2, 4, 5, 6] rfl rfl rfl)
    have H7 := shut_Page_string (H6.ord [3, 1, 0, 2, 4, 5] rfl rfl rfl)
    have H8 := Kids_two_back_string (H7.ord [1, 0, 3, 4, 2] rfl rfl rfl)
    have e2 : qs.take (n + 1) = qs.take n ++ [q] := by
      have := List.getElem?_eq_some_iff.1 hq
      rw [List.take_succ_eq_append_getElem this.1, this.2]
    have e3 : qs.take n ++ q :: r :: qs.drop (n + 1) = qs.take (n + 1) ++ r :: qs.drop (n + 1) := by rw [e2]; simp
    rw [e3] at H8
    exact H8.pull 1 rfl

theorem spec.tree_page_string_last (x0 : Key × Key) {d : Nat} : ∀ {g w : World} {F : List HP} {t : BT Key d} {b lo : Nat}, Sat g w (Page_string t b :: F) → Shape lo t → 1 ≤ lo →
    Calls prog f_tree_page_string_last #[.pointer (some ⟨b, 0, none⟩)] w fun e w' => e = .returned (.agg #[.string (lastE x0 t).1, .string (lastE x0 t).2]) ∧ Sat g w' (Page_string (lastP t) b :: F) := by
  induction d with
  | zero =>
    intro g w F t b lo H h h1
    have h3 := h.lo.1
    have h5 := h.lo.2
    obtain ⟨qs, H1⟩ := open_Page_string H
    have hq := Under_length_string (H1.pull 1 rfl)
    obtain rfl : qs = [] := List.length_eq_zero_iff.1 hq
    obtain ⟨n, hn⟩ : ∃ n, (ents t).length = n + 1 := ⟨(ents t).length - 1, by omega⟩
    obtain ⟨y, hy⟩ : ∃ y, (ents t)[n]? = some y := ⟨_, List.getElem?_eq_getElem (by omega)⟩
    have hlast : (ents t).getLast? = some y := by rw [List.getLast?_eq_getElem?, hn]; exact hy
    refine ok.tree_page_string_last ?_
    unfold V.tree_page_string_last
    refine al H1 fun a w1 H2 => ?_
    refine (spec.tree_page_string_leaf (H2.pull 1 rfl)).mono ?_
    rintro e w2 ⟨rfl, rfl, H3⟩
    refine ⟨_, rfl, br_t rfl ?_⟩
    refine dr H3 fun w3 H4 => ?_
    obtain ⟨pe, ce, pb, cb, f0, f1, fe, fk⟩ := facts_string H4
    refine ⟨_, rfl, _, rfl, _, _, _, f0, ?_⟩
    refine (spec.tree_shelf_string_remove (n := n) (x := y) H4 (by rw [wrap_id (by omega) (by omega)]; omega) hy (by omega)).mono ?_
    rintro e w4 ⟨rfl, H5⟩
    refine ⟨_, _, rfl, ?_⟩
    refine st (H5.pull 1 rfl) (by simp) rfl fun w5 H6 => ?_
    refine st H6 (by simp) rfl fun w6 H7 => ?_
    have e1 : lastE x0 t = y := by
      show (List.getLast? t).getD x0 = y
      rw [show List.getLast? t = some y from hlast]; rfl
    rw [e1]
    refine ⟨_, H7.cell 0, _, H7.cell 1, rfl, ?_⟩
    have e2 : (ents t).take n ++ (ents t).drop (n + 1) = ents (lastP t) := by
      rw [List.drop_eq_nil_of_le (by omega), List.append_nil]
      show (ents t).take n = List.dropLast (ents t)
      rw [List.dropLast_eq_take, hn]; rfl
    have H8 := H7.drop
    rw [e2] at H8
    exact shut_Page_string (t := lastP t) H8
  | succ d ih =>
    intro g w F t b lo H h h1
    obtain ⟨es, ks⟩ := t
    have hl : ks.length = es.length + 1 := h.2.2.1
    have h5 : es.length ≤ 5 := h.2.1
    have hlo : lo ≤ es.length := h.1
    have hk : ∀ c ∈ ks, Shape 2 c := h.2.2.2
    obtain ⟨qs, H1⟩ := open_Page_string H
    have H1 : Sat g w (Nd_string b es qs :: Kids Page_string ks qs :: F) := H1
    have hqs := Kids_length (H1.pull 1 rfl)
    obtain ⟨n, hn⟩ : ∃ n, ks.length = n + 1 := ⟨ks.length - 1, by omega⟩
    obtain ⟨c, hc⟩ : ∃ c, ks[n]? = some c := ⟨_, List.getElem?_eq_getElem (by omega)⟩
    have hcl : ks.getLast? = some c := by rw [List.getLast?_eq_getElem?, hn]; exact hc
    have hcm : c ∈ ks := List.mem_of_getElem? hc
    rw [lastP_row, lastE_row, hcl]
    dsimp only
    refine ok.tree_page_string_last ?_
    unfold V.tree_page_string_last
    refine al H1 fun a w1 H2 => ?_
    refine (spec.tree_page_string_leaf (H2.pull 1 rfl)).mono ?_
    rintro e w2 ⟨rfl, rfl, H3⟩
    have hne : qs.isEmpty = false := by cases qs with | nil => (rw [hn] at hqs; cases hqs) | cons q qs => rfl
    refine ⟨_, rfl, br_f hne ?_⟩
    obtain ⟨a2, q, cb, hq, f1, fq, H4⟩ := kid_at_row_string (H3.ord [0, 2, 1] rfl rfl rfl) hc
    refine ⟨_, rfl, _, _, _, f1, ?_⟩
    have hw : IntKind.wrap .i64 (((qs.length : Nat) : Int) - (1 : Int)) = ((n : Nat) : Int) := by rw [wrap_id (by omega) (by omega)]; omega
    rw [hw]
    refine lt fun i hi => ?_
    subst hi
    refine ⟨_, rfl, _, _, _, f1, _, rfl, ⟨by omega, by omega⟩, ?_⟩
    rw [Int.toNat_natCast, addr_add]
    refine ⟨_, fq, ?_⟩
    refine (ih H4 (hk c hcm) (by omega)).mono ?_
    rintro e w5 ⟨rfl, H5⟩
    refine ⟨_, _, rfl, ?_⟩
    refine al H5 fun a4 w6 H6 => ?_
    refine st H6 (by simp) rfl fun w7 H7 => ?_
    refine st H7 (by simp) rfl fun w8 H8 => ?_
    have H9 := kid_back_row_string hq (H8.ord [1, 2, 3, 4, 0] rfl rfl rfl)
    have e3 : ks.take n ++ lastP c :: ks.drop (n + 1) = ks.dropLast ++ [lastP c] := by
      rw [List.drop_eq_nil_of_le (by omega), List.dropLast_eq_take, hn]; rfl
    obtain ⟨p1, p2, p3, p4⟩ := last_ok x0 (hk c hcm) (by omega)
    have c2 := (hk c hcm).lo
    have hr : Row.Ok (es, ks.take n ++ lastP c :: ks.drop (n + 1)) :=
      ok_row (by omega) (by omega) (by simp; omega) (row_put (by omega) (P := fun c => (ents c).length ≤ 6 ∧ Core c) ⟨by omega, p4⟩ (fun c hc => ⟨by have := (hk c hc).lo; omega, (shape_iff.1 (hk c hc)).2.2⟩))
    refine (spec.tree_page_string_mend (t := (es, ks.take n ++ lastP c :: ks.drop (n + 1))) (n := n) H9 hr rfl (by simp; omega)).mono ?_
    rintro e w9 ⟨rfl, qs', H10⟩
    have H11 := H10.pull 2 rfl
    refine ⟨rfl, _, H11.cell 0, _, H11.cell 1, ?_⟩
    refine st (H11.pull 3 rfl) (by simp) rfl fun w10 H12 => ?_
    refine st H12 (by simp) rfl fun w11 H13 => ?_
    refine ⟨_, H13.cell 0, _, H13.cell 1, rfl, ?_⟩
    rw [show ks.length - 1 = n by omega, ← e3]
    have H14 := H13.ord [2, 3, 0, 1] rfl rfl rfl
    exact ((shut_Page_string (d := d + 1) (t := mendP (es, ks.take n ++ lastP c :: ks.drop (n + 1)) n) H14).pull 1 rfl |>.drop |>.pull 1 rfl |>.drop)

end Go.Proofs.Ytohhoojcgcbmcaa
