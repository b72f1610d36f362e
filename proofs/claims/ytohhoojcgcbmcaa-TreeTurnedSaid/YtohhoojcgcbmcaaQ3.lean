import Derived.Test.YtohhoojcgcbmcaaQ2
set_option maxRecDepth 4000
set_option linter.unusedVariables false
set_option linter.unusedSimpArgs false
namespace Go.Proofs.Ytohhoojcgcbmcaa
open Go Go.Vc Go.Sl Go.Tr Go.Proofs
/-! #### pages and the pages below, of int -/
/-- What is read of a page. -/
theorem facts_int {g w : World} {F : List HP} {b : Nat} {es : List (Key × Int)} {qs : List Nat} (H : Sat g w (Nd_int b es qs :: F)) :
    ∃ pe ce pb cb, w.cell? ⟨b, 0, none⟩ = some (.slice pe es.length ce) ∧ w.cell? ⟨b, 1, none⟩ = some (.slice pb qs.length cb) ∧
      (∀ (n : Nat) x, es[n]? = some x → ∃ a : Nat, pe = some ⟨a, 0, none⟩ ∧ w.cell? ⟨a, n * 2, none⟩ = some (.string x.1) ∧ w.cell? ⟨a, n * 2 + 1, none⟩ = some (.int .i64 x.2)) ∧
      (∀ (n : Nat) q, qs[n]? = some q → ∃ a : Nat, pb = some ⟨a, 0, none⟩ ∧ w.cell? ⟨a, n * 1, none⟩ = some (.pointer (some ⟨q, 0, none⟩))) := by
  obtain ⟨pe, ce, pb, cb, H⟩ := open_Nd_int H
  refine ⟨pe, ce, pb, cb, H.cell 0, H.cell 1, fun n x hx => ?_, fun n q hq => ?_⟩
  · have hg := row2_get (fun e : Key × Int => Value.string e.1) (fun e => ev_int e.2) es n
    rw [hx] at hg
    have HS := H.pull 1 rfl
    obtain ⟨a, rfl, hc1⟩ := HS.Sl_cell hg.1
    obtain ⟨a', ha, hc2⟩ := HS.Sl_cell hg.2
    obtain rfl : a = a' := by have := Option.some.inj ha; simpa using congrArg Addr.block this
    exact ⟨_, rfl, hc1, hc2⟩
  · have HS := H.pull 2 rfl
    obtain ⟨a, rfl, hc⟩ := HS.Sl_cell (i := n) (v := .pointer (some ⟨q, 0, none⟩)) (by rw [List.getElem?_map, hq]; rfl)
    exact ⟨_, rfl, by rw [Nat.mul_one]; exact hc⟩

theorem enc_eq_int (es : List (Key × Int)) : enc_int es = row2 (fun e => .string e.1) (fun e => ev_int e.2) es := rfl

theorem spec.tree_page_int_split {g w : World} {F : List HP} {b q : Nat} {es el : List (Key × Int)} {qs ql : List Nat} {i : Int} {n : Nat} {x : Key × Int}
    (H : Sat g w (Nd_int b es qs :: Nd_int q el ql :: F)) (hin : i = n) (hq : qs[n]? = some q) (hn : n ≤ es.length) (hl : es.length < 1048576) (hqs : qs.length < 1048576) (hel : el.length = 6) (hql : ql = [] ∨ ql.length = 7) (hx : el[2]? = some x) :
    Calls prog f_tree_page_int_split #[.pointer (some ⟨b, 0, none⟩), .int .i64 i] w
      fun e w' => e = .returned (.tuple #[]) ∧ ∃ r, Sat g w' (Nd_int b (es.take n ++ x :: es.drop n) (qs.take (n + 1) ++ r :: qs.drop (n + 1)) :: Nd_int q (el.take 2) (ql.take 3) :: Nd_int r (el.drop 3) (ql.drop 3) :: F) := by
  subst hin
  have hnq : n < qs.length := (List.getElem?_eq_some_iff.1 hq).1
  refine ok.tree_page_int_split ?_
  unfold V.tree_page_int_split
  obtain ⟨pe, ce, pb, cb, f0, f1, fe, fk⟩ := facts_int H
  obtain ⟨a, rfl, hk⟩ := fk n q hq
  refine ⟨_, rfl, _, _, _, f1, _, rfl, ⟨by omega, by omega⟩, ?_⟩
  rw [Int.toNat_natCast, addr_add]
  refine ⟨_, hk, _, rfl, ?_⟩
  obtain ⟨pe', ce', pb', cb', H1⟩ := open_Nd_int (H.pull 1 rfl)
  refine ⟨_, _, _, H1.cell 0, ?_⟩
  have hw3 : IntKind.wrap .i64 ((2 : Int) + (1 : Int)) = ((3 : Nat) : Int) := by decide
  rw [hw3, hel]
  refine slb trivial trivial ⟨by omega, by simp [bnd]⟩ fun _ _ _ e1 e2 e3 => ?_
  simp only [bnd, Int.toNat_natCast] at e1 e2 e3
  subst e1 e2 e3
  have HS := H1.pull 1 rfl
  have hce : 6 ≤ ce' := by have := HS.Sl_le; omega
  rcases HS.open_Sl with ⟨_, h0, _⟩ | ⟨a', all, rfl, h1, h2, h3, H2⟩
  · omega
  · rw [slAt_some (.inl (by omega))]
    rw [hel] at h3
    have hcs : (all.drop (3 * 2)).take ((6 - 3) * 2) = enc_int (el.drop 3) := by
      show _ = row2 _ _ (el.drop 3)
      rw [← row2_drop, ← enc_eq_int, ← h3, List.drop_take]
    refine (spec.slices_Clone_tree_entry_int (o := 3 * 2) (l := 6 - 3) H2 (by omega) (by rw [hcs]; exact enc_one_int _) (by omega)).mono ?_
    rintro e w1 ⟨p', c', rfl, H3⟩
    rw [hcs] at H3
    refine ⟨_, _, _, rfl, ?_⟩
    refine al H3 fun r w2 H4 => ?_
    have H4' := (H4.pull 2 rfl).shut_Sl (l := el.length) (c := ce') (sz := 2) h1 h2
    rw [hel, h3] at H4'
    have H5 : Sat g w2 (Nd_int q el ql :: pt r (.cells #[.slice p' (6 - 3) c', .slice none 0 0] 66 (0, 0)) :: Sl 87 2 p' (6 - 3) c' (enc_int (el.drop 3)) :: Nd_int b es qs :: F) :=
      shut_Nd_int (es := el) (qs := ql) (l1 := 6) (H4'.ord [3, 0, 4, 1, 2, 5] rfl rfl rfl) hel.symm rfl rfl rfl
    refine jnw (fun w => Sat g w (Nd_int r (el.drop 3) (ql.drop 3) :: Nd_int q el (ql.take 3) :: Nd_int b es qs :: F)) (fun J hJ => ?_) fun w3 H6 => ?_
    · refine (spec.tree_page_int_leaf H5).mono ?_
      rintro e w3 ⟨rfl, rfl, H6⟩
      refine ⟨_, rfl, ?_⟩
      rcases hql with rfl | hql
      · refine br_f rfl (hJ _ ?_)
        have H7 : Sat g w3 (pt r (.cells #[.slice p' (6 - 3) c', .slice none 0 0] 66 (0, 0)) :: Sl 87 2 p' (6 - 3) c' (enc_int (el.drop 3)) :: Sl 60 1 none 0 0 [] :: Nd_int q el [] :: Nd_int b es qs :: F) :=
          (H6.nil_Sl 60 1).ord [2, 3, 0, 1] rfl rfl rfl
        exact shut_Nd_int H7 (by simp [hel]) rfl rfl rfl
      · have hne : ql.isEmpty = false := by cases ql <;> simp at hql ⊢
        rw [hne]
        refine br_t rfl ?_
        obtain ⟨pe2, ce2, pb2, cb2, H7⟩ := open_Nd_int H6
        refine ⟨_, rfl, _, _, _, H7.cell 1, ?_⟩
        rw [hql]
        refine slb trivial trivial ⟨by omega, by simp [bnd]⟩ fun _ _ _ e1 e2 e3 => ?_
        simp only [bnd, Int.toNat_natCast] at e1 e2 e3
        subst e1 e2 e3
        have HP := H7.pull 2 rfl
        have hcb : 7 ≤ cb2 := by have := HP.Sl_le; omega
        rcases HP.open_Sl with ⟨_, h0, _⟩ | ⟨a2, all2, rfl, h4, h5, h6, H8⟩
        · omega
        · rw [slAt_some (.inl (by omega))]
          rw [hql] at h6
          have hcs2 : (all2.drop (3 * 1)).take ((7 - 3) * 1) = (ql.drop 3).map fun q => Value.pointer (some ⟨q, 0, none⟩) := by
            rw [List.map_drop, ← h6, List.drop_take]
          refine (spec.slices_Clone_ptr_tree_page_int (o := 3 * 1) (l := 7 - 3) H8 (by omega) (by rw [hcs2]; exact ptrs_one_int _) (by omega)).mono ?_
          rintro e w4 ⟨p2, c2, rfl, H9⟩
          rw [hcs2] at H9
          refine ⟨_, _, _, rfl, _, rfl, ?_⟩
          refine st (H9.ord [4, 0, 1, 2, 3] rfl rfl rfl) (by simp) rfl fun w5 H10 => ?_
          refine ⟨_, rfl, _, _, _, (H10.pull 3 rfl).cell 1, ?_⟩
          refine slb ⟨by omega, by omega⟩ ⟨by omega, by simp only [bnd, Int.toNat_natCast]; omega⟩ trivial fun _ _ _ e1 e2 e3 => ?_
          simp only [bnd, Int.toNat_natCast] at e1 e2 e3
          subst e1 e2 e3
          rw [slAt_zero', Nat.sub_zero]
          refine ⟨_, rfl, ?_⟩
          refine st (H10.pull 3 rfl) (by simp) rfl fun w6 H11 => hJ _ ?_
          -- the pages below that stay
          have H12 := ((H11.pull 3 rfl).shut_Sl (l := 7) (c := cb2) (sz := 1) (by omega) h5).Sl_fewer (i := 3) (by omega) |>.Sl_less (k := 3) (by omega) (by omega)
          rw [h6] at H12
          have H13 : Sat g w6 (Nd_int q el (ql.take 3) :: pt r (.cells #[.slice p' (6 - 3) c', .slice p2 (7 - 3) c2] 66 (0, 0)) :: Sl 60 1 p2 (7 - 3) c2 ((ql.drop 3).map fun q => .pointer (some ⟨q, 0, none⟩)) ::
              Sl 87 2 p' (6 - 3) c' (enc_int (el.drop 3)) :: Nd_int b es qs :: F) :=
            shut_Nd_int (es := el) (qs := ql.take 3) (H12.ord [1, 4, 0, 2, 3] rfl rfl rfl) rfl (by simp [hql]) rfl (by rw [List.map_take])
          exact shut_Nd_int (es := el.drop 3) (qs := ql.drop 3) (H13.ord [1, 3, 2, 0] rfl rfl rfl) (by simp [hel]) (by simp [hql]) rfl rfl
    · refine dr H6 fun w4 H7 => ?_
      obtain ⟨pe2, ce2, pb2, cb2, g0, g1, ge, gk⟩ := facts_int (H7.pull 1 rfl)
      obtain ⟨a2, rfl, hx1, hx2⟩ := ge 2 x hx
      refine ⟨_, rfl, _, rfl, _, _, _, g0, _, rfl, ⟨by omega, by omega⟩, ?_⟩
      rw [show ((2 : Int).toNat) = 2 from rfl, addr_add]
      refine ⟨_, hx1, _, hx2, ?_⟩
      refine (spec.tree_shelf_int_insert (n := n) (H7.pull 2 rfl) rfl hn hl).mono ?_
      rintro e w5 ⟨rfl, H8⟩
      refine ⟨rfl, _, rfl, ?_⟩
      obtain ⟨pe3, ce3, pb3, cb3, H9⟩ := open_Nd_int H8
      refine ⟨_, _, _, H9.cell 1, ?_⟩
      refine al H9 fun b2 w6 H10 => ?_
      have H11 : Sat g w6 (Sl 60 1 pb3 qs.length cb3 (qs.map fun q => .pointer (some ⟨q, 0, none⟩)) :: pt b2 (.cells [Value.pointer (some ⟨r, 0, none⟩)].toArray 60 (0, 0)) ::
          pt b (.cells #[.slice pe3 (es.take n ++ x :: es.drop n).length ce3, .slice pb3 qs.length cb3] 66 (0, 0)) :: Sl 87 2 pe3 (es.take n ++ x :: es.drop n).length ce3 (enc_int (es.take n ++ x :: es.drop n)) ::
          Nd_int r (el.drop 3) (ql.drop 3) :: Nd_int q el (ql.take 3) :: F) := H10.ord [3, 0, 1, 2, 4, 5] rfl rfl rfl
      refine (spec.slices_Insert_ptr_tree_page_int (k := n + 1) H11 rfl (by simp [oneCell]) (ptrs_one_int qs) (by rw [wrap_id (by omega) (by omega)]; omega) (by omega) hqs).mono ?_
      rintro e w7 ⟨p4, c4, rfl, H12⟩
      refine ⟨_, _, _, rfl, _, rfl, ?_⟩
      refine st (H12.pull 1 rfl) (by simp) rfl fun w8 H13 => ?_
      have H14 : Sat g w8 (Nd_int b (es.take n ++ x :: es.drop n) (qs.take (n + 1) ++ r :: qs.drop (n + 1)) :: Nd_int r (el.drop 3) (ql.drop 3) :: Nd_int q el (ql.take 3) :: F) :=
        shut_Nd_int (H13.ord [0, 2, 1] rfl rfl rfl) rfl (by simp; omega) rfl (by simp [List.map_take, List.map_drop])
      obtain ⟨pe5, ce5, pb5, cb5, H15⟩ := open_Nd_int (H14.pull 2 rfl)
      refine ⟨_, rfl, _, _, _, H15.cell 0, ?_⟩
      have hce5 : 6 ≤ ce5 := by have := (H15.pull 1 rfl).Sl_le; omega
      rw [hel]
      refine slb ⟨by omega, by omega⟩ ⟨by omega, by simp [bnd]⟩ trivial fun _ _ _ e1 e2 e3 => ?_
      simp only [bnd] at e1 e2 e3
      subst e1 e2 e3
      rw [slAt_zero', show (2 : Int).toNat - 0 = 2 from rfl]
      refine ⟨_, rfl, ?_⟩
      refine st H15 (by simp) rfl fun w9 H16 => ⟨rfl, r, ?_⟩
      have H17 := ((H16.pull 1 rfl).Sl_fewer (i := 2) (by omega)).Sl_less (k := 2) (by omega) (by omega)
      have H18 : Sat g w9 (Nd_int q (el.take 2) (ql.take 3) :: Nd_int b (es.take n ++ x :: es.drop n) (qs.take (n + 1) ++ r :: qs.drop (n + 1)) :: Nd_int r (el.drop 3) (ql.drop 3) :: F) :=
        shut_Nd_int (H17.ord [1, 0, 2] rfl rfl rfl) (by simp [hel]) rfl (row2_take _ _ el 2) rfl
      exact H18.ord [1, 0, 2] rfl rfl rfl

end Go.Proofs.Ytohhoojcgcbmcaa
