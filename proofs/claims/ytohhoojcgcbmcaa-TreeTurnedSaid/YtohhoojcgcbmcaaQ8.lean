import Derived.Test.YtohhoojcgcbmcaaQ7
set_option maxRecDepth 4000
set_option linter.unusedVariables false
set_option linter.unusedSimpArgs false
namespace Go.Proofs.Ytohhoojcgcbmcaa
open Go Go.Vc Go.Sl Go.Tr Go.Proofs
/-! #### put and drop, of int -/
theorem st_val_int {g w : World} {F : List HP} {a ce n : Nat} {es : List (Key × Int)} {x : Key × Int} {v : Int} {K : World → Prop} (H : Sat g w (Sl 87 2 (some ⟨a, 0, none⟩) es.length ce (enc_int es) :: F)) (hx : es[n]? = some x)
    (h : ∀ w', Sat g w' (Sl 87 2 (some ⟨a, 0, none⟩) es.length ce (enc_int (es.set n (x.1, v))) :: F) → K w') :
    St w ⟨a, n * 2 + 1, none⟩ (.int .i64 v) fun w2 => K w2 := by
  have hlen : (enc_int es).length = es.length * 2 := row2_length _ _ es
  have hn := (List.getElem?_eq_some_iff.1 hx).1
  refine H.Sl_st (by omega) rfl fun w2 H2 => h w2 ?_
  have e : enc_int (es.set n (x.1, v)) = ((enc_int es).set (n * 2) (.string x.1)).set (n * 2 + 1) (.int .i64 v) := row2_set _ _ es n (x.1, v)
  have hg := (row2_get (fun e : Key × Int => Value.string e.1) (fun e => ev_int e.2) es n).1
  rw [hx] at hg
  have e2 : (enc_int es).set (n * 2) (.string x.1) = enc_int es := by
    obtain ⟨h1, h2⟩ := List.getElem?_eq_some_iff.1 hg
    exact (congrArg (List.set (enc_int es) (n * 2)) h2.symm).trans (List.set_getElem_self h1)
  rw [e, e2]
  exact H2

theorem put_under_int {d : Nat} {t : BT Int d} {k : Key} {v : Int} (hh : has (ents t) k = true) (qs : List Nat) : Under_int (putP k v t) qs = Under_int t qs := by
  cases d with
  | zero => rfl
  | succ d =>
    obtain ⟨es, ks⟩ := t
    rw [putP_row, if_pos (show has es k = true from hh)]
    rfl

def PutSpec_int (k : Key) (v : Int) (d : Nat) : Prop := ∀ {g w : World} {F : List HP} {t : BT Int d} {b lo : Nat}, Sat g w (Page_int t b :: F) → Shape lo t → Sorted (flat t) →
    Calls prog f_tree_page_int_put #[.pointer (some ⟨b, 0, none⟩), .string k, .int .i64 v] w
      fun e w' => e = .returned (.tuple #[.int .i64 ((getP k t).getD 0), .bool (getP k t).isSome]) ∧ Sat g w' (Page_int (putP k v t) b :: F)

theorem put_step_int {k : Key} {v : Int} {d : Nat} (ih : ∀ d', d = d' + 1 → PutSpec_int k v d') : PutSpec_int k v d := by
  intro g w F t b lo H h hs
  have h5 := h.lo.2
  have hst := (h.fit hs).sorted
  obtain ⟨qs, H1⟩ := open_Page_int H
  have hq := Under_length_int (H1.pull 1 rfl)
  have hle := idx_le (ents t) k
  refine ok.tree_page_int_put ?_
  unfold V.tree_page_int_put
  refine ⟨_, rfl, (spec.tree_shelf_int_find H1 hst (by omega)).mono ?_⟩
  rintro e w1 ⟨rfl, H2⟩
  refine ⟨_, _, rfl, br (fun hh => ?_) (fun hh => ?_)⟩
  · obtain ⟨x, hx, hxk⟩ := has_some hh
    have hn := (List.getElem?_eq_some_iff.1 hx).1
    refine dr H2 fun w2 H3 => ?_
    obtain ⟨pe, ce, pb, cb, H4⟩ := open_Nd_int H3
    have f0 := H4.cell 0
    have HS := H4.pull 1 rfl
    have hg := row2_get (fun e : Key × Int => Value.string e.1) (fun e => ev_int e.2) (ents t) (idx (ents t) k)
    rw [hx] at hg
    obtain ⟨a, rfl, c1⟩ := HS.Sl_cell hg.2
    refine ⟨_, rfl, _, rfl, _, _, _, f0, _, _, _, f0, _, rfl, ⟨by omega, by omega⟩, ?_⟩
    rw [Int.toNat_natCast, addr_add]
    refine ⟨_, c1, _, rfl, ⟨by omega, by omega⟩, ?_⟩
    rw [addr_add]
    refine st_val_int HS hx fun w3 H5 => ?_
    rw [get_has hh, hx]
    refine ⟨rfl, ?_⟩
    rw [hxk, ← put_has (v := v) hh] at H5
    refine shut_Page_int (qs := qs) ?_
    rw [put_under_int hh]
    exact shut_Nd_int (H5.pull 1 rfl) (by rw [put_has hh]; simp) rfl rfl rfl
  · refine (spec.tree_page_int_leaf H2).mono ?_
    rintro e w2 ⟨rfl, rfl, H3⟩
    cases d with
    | zero =>
      obtain rfl : qs = [] := List.length_eq_zero_iff.1 hq
      refine ⟨_, rfl, br_t rfl ⟨_, rfl, ?_⟩⟩
      refine (spec.tree_shelf_int_insert (n := idx (ents t) k) H3 rfl hle (by omega)).mono ?_
      rintro e w3 ⟨rfl, H4⟩
      have hv : getP k t = none := by
        show valAt t k = none
        unfold valAt
        exact if_neg (by rw [show has t k = has (ents t) k from rfl, hh]; simp)
      rw [hv]
      refine ⟨rfl, rfl, ?_⟩
      have e1 : putP k v t = (ents t).take (idx (ents t) k) ++ (k, v) :: (ents t).drop (idx (ents t) k) := if_neg (by rw [show has t k = has (ents t) k from rfl, hh]; simp)
      rw [e1]
      exact shut_Page_int (d := 0) (t := ((ents t).take (idx (ents t) k) ++ (k, v) :: (ents t).drop (idx (ents t) k) : List (Key × Int))) H4
    | succ d =>
      obtain ⟨es, ks⟩ := t
      have hh : has es k = false := hh
      have hl : ks.length = es.length + 1 := h.2.2.1
      have h5 : es.length ≤ 5 := h.2.1
      have hk : ∀ c ∈ ks, Shape 2 c := h.2.2.2
      have hs' : Sorted (flatR (es, ks)) := hs
      have hle : idx es k ≤ es.length := hle
      have H3 : Sat g w2 (Nd_int b es qs :: Kids Page_int ks qs :: F) := H3
      have hqs := Kids_length (H3.pull 1 rfl)
      have hne : qs.isEmpty = false := by cases qs with | nil => (rw [hl] at hqs; cases hqs) | cons q qs => rfl
      refine ⟨_, rfl, br_f hne ?_⟩
      obtain ⟨c, hc⟩ : ∃ c, ks[idx es k]? = some c := ⟨_, List.getElem?_eq_getElem (by omega)⟩
      have hcm : c ∈ ks := List.mem_of_getElem? hc
      rw [putP_row, if_neg (by rw [hh]; simp), getP_row, if_neg (by rw [hh]; simp), hc]
      simp only [ents_row]
      obtain ⟨p1, p2, p3, p4⟩ := put_ok (k := k) (v := v) (hk c hcm) (row_kid_sorted hl hs' hcm)
      have c2 := (hk c hcm).lo
      generalize idx es k = n at *
      obtain ⟨a2, q, cb, hq, f1, fq, H4⟩ := kid_at_row_int H3 hc
      refine ⟨_, rfl, _, _, _, f1, _, rfl, ⟨by omega, by omega⟩, ?_⟩
      rw [Int.toNat_natCast, addr_add]
      refine ⟨_, fq, ?_⟩
      refine (ih d rfl H4 (hk c hcm) (row_kid_sorted hl hs' hcm)).mono ?_
      rintro e w5 ⟨rfl, H5⟩
      refine ⟨_, _, rfl, ?_⟩
      generalize putP k v c = c' at *
      have ltk : (ks.take n).length = n := by simp; omega
      have H6 := kid_back_row_int hq H5
      obtain ⟨pb, cb', f1', fk⟩ := kid_read_int (t := (es, ks.take n ++ c' :: ks.drop (n + 1))) H6
      obtain ⟨a3, q3, rfl, hq3, hk3, pe, ce, hce⟩ := fk n (by simp; omega)
      refine ⟨_, rfl, _, _, _, f1', _, rfl, ⟨by omega, by simp; omega⟩, ?_⟩
      rw [addr_add]
      refine ⟨_, hk3, _, rfl, _, _, _, hce, ?_⟩
      rw [fill_at ltk]
      refine br (fun h6 => ?_) (fun h6 => ?_)
      · have h6 : 5 < (ents c').length := by have := of_decide_eq_true h6; omega
        rw [if_pos h6]
        refine (spec.split_int (t := (es, ks.take n ++ c' :: ks.drop (n + 1))) (n := n) H6 rfl (get_len ltk _ _) (by omega) p4 (by simp; omega) (by dsimp only; omega)).mono ?_
        rintro e w6 ⟨rfl, qs', H7⟩
        exact ⟨rfl, rfl, shut_Page_int (d := d + 1) (t := splitP (es, ks.take n ++ c' :: ks.drop (n + 1)) n) H7⟩
      · have h6 : ¬ 5 < (ents c').length := by have := of_decide_eq_false h6; omega
        rw [if_neg h6]
        exact ⟨rfl, shut_Page_int (d := d + 1) (t := ((es, ks.take n ++ c' :: ks.drop (n + 1)) : Row Int d)) H6⟩

theorem spec.tree_page_int_put {k : Key} {v : Int} : ∀ {d : Nat}, PutSpec_int k v d
  | 0 => put_step_int fun _ h => by cases h
  | d + 1 => put_step_int fun d' h => by cases h; exact spec.tree_page_int_put

def DropSpec_int (x0 : Key × Int) (k : Key) (d : Nat) : Prop := ∀ {g w : World} {F : List HP} {t : BT Int d} {b lo : Nat}, Sat g w (Page_int t b :: F) → Shape lo t → (d = 0 ∨ 1 ≤ lo) → Sorted (flat t) →
    Calls prog f_tree_page_int_drop #[.pointer (some ⟨b, 0, none⟩), .string k] w
      fun e w' => e = .returned (.tuple #[.int .i64 ((getP k t).getD 0), .bool (getP k t).isSome]) ∧ Sat g w' (Page_int (dropP x0 k t) b :: F)

theorem drop_step_int {x0 : Key × Int} {k : Key} {d : Nat} (ih : ∀ d', d = d' + 1 → DropSpec_int x0 k d') : DropSpec_int x0 k d := by
  intro g w F t b lo H h h1 hs
  have h5 := h.lo.2
  have hst := (h.fit hs).sorted
  obtain ⟨qs, H1⟩ := open_Page_int H
  have hq := Under_length_int (H1.pull 1 rfl)
  have hle := idx_le (ents t) k
  refine ok.tree_page_int_drop ?_
  unfold V.tree_page_int_drop
  refine ⟨_, rfl, (spec.tree_shelf_int_find H1 hst (by omega)).mono ?_⟩
  rintro e w1 ⟨rfl, H2⟩
  refine ⟨_, _, rfl, ?_⟩
  refine jnbw (fun x w => x = (qs.isEmpty && !has (ents t) k) ∧ Sat g w (Nd_int b (ents t) qs :: Under_int t qs :: F)) (fun J hJ => ?_) ?_
  · refine (spec.tree_page_int_leaf H2).mono ?_
    rintro e w2 ⟨rfl, rfl, H3⟩
    refine ⟨_, rfl, br (fun hl => hJ _ _ ⟨?_, H3⟩) (fun hl => hJ _ _ ⟨?_, H3⟩)⟩ <;> simp [hl]
  rintro bb w3 ⟨rfl, H3⟩
  cases d with
  | zero =>
    obtain rfl : qs = [] := List.length_eq_zero_iff.1 hq
    refine br (fun hb => ?_) (fun hb => ?_)
    · have hh : has (ents t) k = false := by simpa using hb
      have hv : getP k t = none := by
        show valAt t k = none
        unfold valAt
        exact if_neg (by rw [show has t k = has (ents t) k from rfl, hh]; simp)
      rw [hv]
      refine ⟨rfl, ?_⟩
      have e1 : dropP x0 k t = t := if_neg (by rw [show has t k = has (ents t) k from rfl, hh]; simp)
      rw [e1]
      exact shut_Page_int H3
    · have hh : has (ents t) k = true := by simpa using hb
      obtain ⟨x, hx, hxk⟩ := has_some hh
      refine (spec.tree_page_int_leaf H3).mono ?_
      rintro e w4 ⟨rfl, rfl, H4⟩
      refine ⟨_, rfl, br_t rfl ⟨_, rfl, ?_⟩⟩
      refine (spec.tree_shelf_int_remove (n := idx (ents t) k) (x := x) H4 rfl hx (by omega)).mono ?_
      rintro e w5 ⟨rfl, H5⟩
      refine ⟨_, _, rfl, ?_⟩
      rw [get_has hh, hx]
      refine ⟨rfl, ?_⟩
      have e1 : dropP x0 k t = (ents t).take (idx (ents t) k) ++ (ents t).drop (idx (ents t) k + 1) := if_pos hh
      rw [e1]
      exact shut_Page_int (d := 0) (t := ((ents t).take (idx (ents t) k) ++ (ents t).drop (idx (ents t) k + 1) : List (Key × Int))) H5
  | succ d =>
    obtain ⟨es, ks⟩ := t
    have hl : ks.length = es.length + 1 := h.2.2.1
    have h5 : es.length ≤ 5 := h.2.1
    have hlo : 1 ≤ es.length := Nat.le_trans (h1.resolve_left (by omega)) h.1
    have hk : ∀ c ∈ ks, Shape 2 c := h.2.2.2
    have hs' : Sorted (flatR (es, ks)) := hs
    have hle : idx es k ≤ es.length := hle
    have H3 : Sat g w3 (Nd_int b es qs :: Kids Page_int ks qs :: F) := H3
    have hqs := Kids_length (H3.pull 1 rfl)
    have hne : qs.isEmpty = false := by cases qs with | nil => (rw [hl] at hqs; cases hqs) | cons q qs => rfl
    refine br_f (by rw [hne]; rfl) ?_
    refine (spec.tree_page_int_leaf H3).mono ?_
    rintro e w4 ⟨rfl, rfl, H4⟩
    refine ⟨_, rfl, br_f hne ?_⟩
    obtain ⟨c, hc⟩ : ∃ c, ks[idx es k]? = some c := ⟨_, List.getElem?_eq_getElem (by omega)⟩
    have hcm : c ∈ ks := List.mem_of_getElem? hc
    have c2 := (hk c hcm).lo
    rw [dropP_row, hc]
    simp only [ents_row]
    refine br (fun hh => ?_) (fun hh => ?_)
    · obtain ⟨x, hx, hxk⟩ := has_some hh
      have hn := (List.getElem?_eq_some_iff.1 hx).1
      rw [if_pos hh, get_has (d := d + 1) (t := ((es, ks) : Row Int d)) hh]
      simp only [ents_row]
      rw [hx]
      generalize idx es k = n at *
      obtain ⟨p1, p2, p3, p4⟩ := last_ok x0 (hk c hcm) (by omega)
      have hr : Row.Ok (es.set n (lastE x0 c), ks.take n ++ lastP c :: ks.drop (n + 1)) :=
        ok_row (by simp; omega) (by simp; omega) (by simp; omega) (row_put (by omega) (P := fun c => (ents c).length ≤ 6 ∧ Core c) ⟨by omega, p4⟩ (fun c hc => ⟨by have := (hk c hc).lo; omega, (shape_iff.1 (hk c hc)).2.2⟩))
      obtain ⟨pe, ce, pb, cb, f0, f1, fe, fk⟩ := facts_int H4
      obtain ⟨a, rfl, c0, c1⟩ := fe _ _ hx
      refine ⟨_, rfl, _, _, _, f0, _, rfl, ⟨by omega, by omega⟩, ?_⟩
      rw [Int.toNat_natCast, addr_add]
      refine ⟨_, c1, ?_⟩
      refine dr H4 fun w5 H5 => ?_
      obtain ⟨a2, q, cb, hq, f1, fq, H6⟩ := kid_at_row_int H5 hc
      refine ⟨_, rfl, _, rfl, _, _, _, f1, _, rfl, ⟨by omega, by omega⟩, ?_⟩
      rw [addr_add]
      refine ⟨_, fq, ?_⟩
      obtain ⟨pe, ce, pb, cb', H7⟩ := open_Nd_int (H6.pull 3 rfl)
      obtain ⟨a4, rfl⟩ := entry_at_int (H7.pull 1 rfl) hn
      have H8 : Sat g w5 (Page_int c q :: Kids Page_int (ks.take n) (qs.take n) :: Kids Page_int (ks.drop (n + 1)) (qs.drop (n + 1)) :: pt b (.cells #[.slice (some ⟨a4, 0, none⟩) es.length ce, .slice pb qs.length cb'] 66 (0, 0)) :: Sl 87 2 (some ⟨a4, 0, none⟩) es.length ce (enc_int es) :: Sl 60 1 pb qs.length cb' (qs.map fun q => .pointer (some ⟨q, 0, none⟩)) :: F) :=
        H7.ord [3, 4, 5, 0, 1, 2] rfl rfl rfl
      -- what both orders come to
      have rest : ∀ w7, Sat g w7 (Page_int (lastP c) q :: Kids Page_int (ks.take n) (qs.take n) :: Kids Page_int (ks.drop (n + 1)) (qs.drop (n + 1)) :: pt b (.cells #[.slice (some ⟨a4, 0, none⟩) es.length ce, .slice pb qs.length cb'] 66 (0, 0)) :: Sl 87 2 (some ⟨a4, 0, none⟩) es.length ce (enc_int es) :: Sl 60 1 pb qs.length cb' (qs.map fun q => .pointer (some ⟨q, 0, none⟩)) :: F) →
          ∀ {K : World → Prop}, (∀ w9, Sat g w9 (Nd_int b (es.set n (lastE x0 c)) qs :: Kids Page_int (ks.take n ++ lastP c :: ks.drop (n + 1)) qs :: F) → K w9) →
              St w7 ⟨a4, n * 2, none⟩ (.string (lastE x0 c).1) fun w8 => St w8 ⟨a4, n * 2 + 1, none⟩ (.int .i64 (lastE x0 c).2) fun w9 => K w9 := by
        intro w7 H9 K hK
        have H10 := H9.ord [4, 0, 1, 2, 3, 5] rfl rfl rfl
        refine st_entry_int H10 hn fun w9 H11 => hK w9 ?_
        have H12 := shut_Nd_int (es := es.set n (lastE x0 c)) (qs := qs) (H11.ord [4, 0, 5, 1, 2, 3] rfl rfl rfl) (by simp) rfl rfl rfl
        exact kid_back_row_int hq (H12.ord [1, 2, 3, 0] rfl rfl rfl)
      have last := spec.tree_page_int_last x0 H8 (hk c hcm) (by omega)
      have fin : ∀ w9, Sat g w9 (Nd_int b (es.set n (lastE x0 c)) qs :: Kids Page_int (ks.take n ++ lastP c :: ks.drop (n + 1)) qs :: F) →
          Calls prog f_tree_page_int_mend #[.pointer (some ⟨b, 0, none⟩), .int .i64 (n : Int)] w9 fun e w' => e = .returned (.tuple #[]) ∧
            (Ending.returned (.tuple #[.int .i64 x.2, .bool (has es k)]) = .returned (.tuple #[.int .i64 ((Option.map (fun x => x.2) (some x)).getD 0), .bool (Option.map (fun x => x.2) (some x)).isSome]) ∧
              Sat g w' (Page_int (d := d + 1) (mendP (es.set n (lastE x0 c), ks.take n ++ lastP c :: ks.drop (n + 1)) n) b :: F)) := by
        intro w9 H9
        refine (spec.tree_page_int_mend (t := (es.set n (lastE x0 c), ks.take n ++ lastP c :: ks.drop (n + 1))) (n := n) H9 hr rfl (by simp; omega)).mono ?_
        rintro e w10 ⟨rfl, qs', H10⟩
        refine ⟨rfl, by rw [hh]; rfl, ?_⟩
        exact shut_Page_int (d := d + 1) (t := mendP (es.set n (lastE x0 c), ks.take n ++ lastP c :: ks.drop (n + 1)) n) H10
      constructor
      · refine ⟨_, _, _, (H7.cell 0), ?_⟩
        refine last.mono ?_
        rintro e w7 ⟨rfl, H9⟩
        refine ⟨_, _, rfl, _, rfl, ⟨by omega, by omega⟩, ?_⟩
        rw [addr_add]
        exact rest w7 H9 fin
      · refine last.mono ?_
        rintro e w7 ⟨rfl, H9⟩
        refine ⟨_, _, rfl, _, _, _, (H9.pull 3 rfl).cell 0, _, rfl, ⟨by omega, by omega⟩, ?_⟩
        rw [addr_add]
        exact rest w7 H9 fin
    · have hh : has es k = false := hh
      rw [if_neg (by rw [hh]; simp), getP_row, if_neg (by rw [hh]; simp), hc]
      dsimp only
      obtain ⟨p1, p2, p3, p4⟩ := drop_ok x0 (k := k) (hk c hcm) (.inr (by omega)) (row_kid_sorted hl hs' hcm)
      generalize idx es k = n at *
      obtain ⟨a2, q, cb, hq, f1, fq, H6⟩ := kid_at_row_int H4 hc
      refine ⟨_, rfl, _, _, _, f1, _, rfl, ⟨by omega, by omega⟩, ?_⟩
      rw [Int.toNat_natCast, addr_add]
      refine ⟨_, fq, ?_⟩
      refine (ih d rfl H6 (hk c hcm) (.inr (by omega)) (row_kid_sorted hl hs' hcm)).mono ?_
      rintro e w7 ⟨rfl, H7⟩
      refine ⟨_, _, rfl, ?_⟩
      have H8 := kid_back_row_int hq H7
      have hr : Row.Ok (es, ks.take n ++ dropP x0 k c :: ks.drop (n + 1)) :=
        ok_row (by omega) (by omega) (by simp; omega) (row_put (by omega) (P := fun c => (ents c).length ≤ 6 ∧ Core c) ⟨by omega, p4⟩ (fun c hc => ⟨by have := (hk c hc).lo; omega, (shape_iff.1 (hk c hc)).2.2⟩))
      refine (spec.tree_page_int_mend (t := (es, ks.take n ++ dropP x0 k c :: ks.drop (n + 1))) (n := n) H8 hr rfl (by simp; omega)).mono ?_
      rintro e w10 ⟨rfl, qs', H10⟩
      exact ⟨rfl, rfl, shut_Page_int (d := d + 1) (t := mendP (es, ks.take n ++ dropP x0 k c :: ks.drop (n + 1)) n) H10⟩

theorem spec.tree_page_int_drop {x0 : Key × Int} {k : Key} : ∀ {d : Nat}, DropSpec_int x0 k d
  | 0 => drop_step_int fun _ h => by cases h
  | d + 1 => drop_step_int fun d' h => by cases h; exact spec.tree_page_int_drop

end Go.Proofs.Ytohhoojcgcbmcaa
