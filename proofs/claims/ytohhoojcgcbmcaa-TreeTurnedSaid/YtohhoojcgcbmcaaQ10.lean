import Derived.Test.YtohhoojcgcbmcaaQ9
import Derived.Test.YtohhoojcgcbmcaaNode2
set_option maxRecDepth 4000
set_option linter.unusedVariables false
set_option linter.unusedSimpArgs false
namespace Go.Proofs.Ytohhoojcgcbmcaa
open Go Go.Vc Go.Sl Go.Tr Go.Proofs
/-! #### what is told, of int -/
def GetSpec_int (k : Key) (d : Nat) : Prop := ∀ {g w : World} {F : List HP} {t : BT Int d} {q lo : Nat} {R : Ending → World → Prop}, Sat g w (Page_int t q :: F) → Shape lo t → Sorted (flat t) →
    (∀ w', Sat g w' (Page_int t q :: F) → R (.returned (.tuple #[.int .i64 ((getP k t).getD 0), .bool (getP k t).isSome])) w') → L.tree_Tree_int_Get_L0 k 0 (some ⟨q, 0, none⟩) w R

theorem get_step_int {k : Key} {d : Nat} (ih : ∀ d', d = d' + 1 → GetSpec_int k d') : GetSpec_int k d := by
  intro g w F t q lo R H h hs hR
  have h5 := h.lo.2
  have hst := (h.fit hs).sorted
  obtain ⟨qs, H1⟩ := open_Page_int H
  have hq := Under_length_int (H1.pull 1 rfl)
  have hle := idx_le (ents t) k
  refine round.tree_Tree_int_Get_L0 ?_
  unfold B.tree_Tree_int_Get_L0
  refine ⟨_, rfl, (spec.tree_shelf_int_find H1 hst (by omega)).mono ?_⟩
  rintro e w1 ⟨rfl, H2⟩
  refine ⟨_, _, rfl, br (fun hh => ?_) (fun hh => ?_)⟩
  · obtain ⟨x, hx, hxk⟩ := has_some hh
    have hn := (List.getElem?_eq_some_iff.1 hx).1
    obtain ⟨pe, ce, pb, cb, f0, f1, fe, fk⟩ := facts_int H2
    obtain ⟨a, rfl, c0, c1⟩ := fe _ _ hx
    refine ⟨_, rfl, _, _, _, f0, _, rfl, ⟨by omega, by omega⟩, ?_⟩
    rw [Int.toNat_natCast, addr_add]
    refine ⟨_, c1, ?_⟩
    have := hR w1 (shut_Page_int H2)
    rw [get_has hh, hx] at this
    exact this
  · refine (spec.tree_page_int_leaf H2).mono ?_
    rintro e w2 ⟨rfl, rfl, H3⟩
    cases d with
    | zero =>
      obtain rfl : qs = [] := List.length_eq_zero_iff.1 hq
      refine ⟨_, rfl, br_t rfl ?_⟩
      have hv : getP k t = none := by
        show valAt t k = none
        unfold valAt
        exact if_neg (by rw [show has t k = has (ents t) k from rfl, hh]; simp)
      have := hR w2 (shut_Page_int H3)
      rw [hv] at this
      exact this
    | succ d =>
      obtain ⟨es, ks⟩ := t
      have hh : has es k = false := hh
      have hl : ks.length = es.length + 1 := h.2.2.1
      have hk : ∀ c ∈ ks, Shape 2 c := h.2.2.2
      have hs' : Sorted (flatR (es, ks)) := hs
      have hle : idx es k ≤ es.length := hle
      have H3 : Sat g w2 (Nd_int q es qs :: Kids Page_int ks qs :: F) := H3
      have hqs := Kids_length (H3.pull 1 rfl)
      have hne : qs.isEmpty = false := by cases qs with | nil => (rw [hl] at hqs; cases hqs) | cons q qs => rfl
      refine ⟨_, rfl, br_f hne ?_⟩
      obtain ⟨c, hc⟩ : ∃ c, ks[idx es k]? = some c := ⟨_, List.getElem?_eq_getElem (by omega)⟩
      have hcm : c ∈ ks := List.mem_of_getElem? hc
      rw [getP_row, if_neg (by rw [hh]; simp), hc] at hR
      simp only [ents_row]
      generalize idx es k = n at *
      obtain ⟨a2, q', cb, hq', f1, fq, H4⟩ := kid_at_row_int H3 hc
      refine ⟨_, rfl, _, _, _, f1, _, rfl, ⟨by omega, by omega⟩, ?_⟩
      rw [Int.toNat_natCast, addr_add]
      refine ⟨_, fq, ?_⟩
      refine ih d rfl H4 (hk c hcm) (row_kid_sorted hl hs' hcm) fun w' H' => hR w' ?_
      have H5 := kid_back_row_int hq' H'
      rw [← list_at hc] at H5
      exact shut_Page_int (d := d + 1) (t := ((es, ks) : Row Int d)) H5

theorem get_all_int {k : Key} : ∀ {d : Nat}, GetSpec_int k d
  | 0 => get_step_int fun _ h => by cases h
  | d + 1 => get_step_int fun d' h => by cases h; exact get_all_int

theorem spec.tree_Tree_int_Get {g w : World} {F : List HP} {b : Nat} {T : Top Int} {k : Key} (H : Sat g w (Tree_int b T :: F)) (hT : Good T) :
    Calls prog f_tree_Tree_int_Get #[.pointer (some ⟨b, 0, none⟩), .string k] w
      fun e w' => e = .returned (.tuple #[.int .i64 ((valAt T.all k).getD 0), .bool (has T.all k)]) ∧ Sat g w' (Tree_int b T :: F) := by
  obtain ⟨q, H1⟩ := open_Tree_int H
  refine ok.tree_Tree_int_Get ?_
  unfold V.tree_Tree_int_Get
  refine br_f rfl ⟨_, rfl, _, H1.cell 0, ?_⟩
  refine get_all_int (H1.pull 1 rfl) hT.1 hT.2 fun w' H2 => ?_
  rw [Top.val_int hT, valAt_some]
  exact ⟨rfl, shut_Tree_int (H2.pull 1 rfl) rfl⟩

/-- How an entry is told, or none. -/
def toldV_int (o : Option (Key × Int)) : Value := .tuple #[.string ((o.map (·.1)).getD (str [])), .int .i64 ((o.map (·.2)).getD 0), .bool o.isSome]

/-- A pointer to an entry, or none. -/
def Best_int (g : World) (L : List HP) (p : Option Addr) : Option (Key × Int) → Prop
  | none => p = none
  | some x => ∃ a, p = some a ∧ ∀ w, Sat g w L → w.cell? a = some (.string x.1) ∧ w.cell? (a.add 1) = some (.int .i64 x.2)

theorem Best_mono_int {g : World} {L L' : List HP} {p : Option Addr} {o : Option (Key × Int)} (h : Best_int g L p o) (hL : ∀ w, Sat g w L' → Sat g w L) : Best_int g L' p o := by
  cases o with
  | none => exact h
  | some x =>
    obtain ⟨a, h1, h2⟩ := h
    exact ⟨a, h1, fun w H => h2 w (hL w H)⟩

theorem spec.tree_told_int {g w : World} {L : List HP} {p : Option Addr} {o : Option (Key × Int)} (H : Sat g w L) (h : Best_int g L p o) :
    Calls prog f_tree_told_int #[.pointer p] w fun e w' => e = .returned (toldV_int o) ∧ Sat g w' L := by
  refine ok.tree_told_int ?_
  unfold V.tree_told_int
  cases o with
  | none =>
    obtain rfl : p = none := h
    exact br_t rfl ⟨rfl, H⟩
  | some x =>
    obtain ⟨a, rfl, h2⟩ := h
    refine br_f rfl (dr H fun w1 H1 => ?_)
    obtain ⟨c1, c2⟩ := h2 w1 H1
    exact ⟨_, rfl, _, rfl, _, c1, _, c2, rfl, H1⟩

theorem child_none_int {g w : World} {F : List HP} {b : Nat} {es : List (Key × Int)} {i : Int} (H : Sat g w (Nd_int b es [] :: F)) :
    Calls prog f_tree_page_int_child #[.pointer (some ⟨b, 0, none⟩), .int .i64 i] w fun e w' => e = .returned (.pointer none) ∧ w' = w := by
  refine ok.tree_page_int_child ?_
  unfold V.tree_page_int_child
  refine (spec.tree_page_int_leaf H).mono ?_
  rintro e w2 ⟨rfl, rfl, H3⟩
  exact ⟨_, rfl, br_t rfl ⟨rfl, rfl⟩⟩

theorem child_some_int {g w : World} {F : List HP} {b : Nat} {es : List (Key × Int)} {qs : List Nat} {n q : Nat} (H : Sat g w (Nd_int b es qs :: F)) (hq : qs[n]? = some q) :
    Calls prog f_tree_page_int_child #[.pointer (some ⟨b, 0, none⟩), .int .i64 (n : Int)] w fun e w' => e = .returned (.pointer (some ⟨q, 0, none⟩)) ∧ w' = w := by
  refine ok.tree_page_int_child ?_
  unfold V.tree_page_int_child
  have hn := (List.getElem?_eq_some_iff.1 hq).1
  refine (spec.tree_page_int_leaf H).mono ?_
  rintro e w2 ⟨rfl, rfl, H3⟩
  have hne : qs.isEmpty = false := by cases qs with | nil => cases hn | cons q qs => rfl
  obtain ⟨pe, ce, pb, cb, f0, f1, fe, fk⟩ := facts_int H3
  obtain ⟨a, rfl, hk⟩ := fk n q hq
  refine ⟨_, rfl, br_f hne ⟨_, rfl, _, _, _, f1, _, rfl, ⟨by omega, by omega⟩, ?_⟩⟩
  rw [Int.toNat_natCast, addr_add]
  exact ⟨_, hk, rfl, rfl⟩

/-- An entry of a page as the best one. -/
theorem Best_at_int {g : World} {L : List HP} {a ce n : Nat} {es : List (Key × Int)} {x : Key × Int} (hL : ∀ w, Sat g w L → ∃ F, Sat g w (Sl 87 2 (some ⟨a, 0, none⟩) es.length ce (enc_int es) :: F)) (hx : es[n]? = some x) :
    Best_int g L (some ⟨a, n * 2, none⟩) (some x) := by
  refine ⟨_, rfl, fun w H => ?_⟩
  obtain ⟨F, HS⟩ := hL w H
  have hg := row2_get (fun e : Key × Int => Value.string e.1) (fun e => ev_int e.2) es n
  rw [hx] at hg
  obtain ⟨a1, h1, c1⟩ := HS.Sl_cell hg.1
  obtain ⟨a2, h2, c2⟩ := HS.Sl_cell hg.2
  obtain rfl : a = a1 := by have := Option.some.inj h1; simpa using congrArg Addr.block this
  obtain rfl : a = a2 := by have := Option.some.inj h2; simpa using congrArg Addr.block this
  exact ⟨c1, c2⟩

theorem next_end_int {k : Key} {incl : Bool} {g w : World} {Ls : List HP} {p : Option Addr} {o : Option (Key × Int)} {R : Ending → World → Prop} (H : Sat g w Ls) (h : Best_int g Ls p o) (hR : ∀ w', Sat g w' Ls → R (.returned (toldV_int o)) w') :
    L.tree_Tree_int_Next_L0 k incl p none w R := by
  refine round.tree_Tree_int_Next_L0 ?_
  unfold B.tree_Tree_int_Next_L0
  refine br_f rfl ((spec.tree_told_int H h).mono ?_)
  rintro e w1 ⟨rfl, H1⟩
  exact ⟨_, _, _, rfl, hR w1 H1⟩

/-- A page opened down to its slices, and shut again. -/
theorem deep_int {g w : World} {F : List HP} {d : Nat} {es : List (Key × Int)} {ks : List (BT Int d)} {q n : Nat} {qs : List Nat} {c : BT Int d} (H : Sat g w (Nd_int q es qs :: Kids Page_int ks qs :: F)) (hc : ks[n]? = some c) :
    ∃ (pe : Option Addr) (ce q' : Nat) (pb : Option Addr) (cb : Nat), qs[n]? = some q' ∧ w.cell? ⟨q, 0, none⟩ = some (.slice pe es.length ce) ∧
      Sat g w (Page_int c q' :: Sl 87 2 pe es.length ce (enc_int es) :: Kids Page_int (ks.take n) (qs.take n) :: Kids Page_int (ks.drop (n + 1)) (qs.drop (n + 1)) :: pt q (.cells #[.slice pe es.length ce, .slice pb qs.length cb] 66 (0, 0)) :: Sl 60 1 pb qs.length cb (qs.map fun q => .pointer (some ⟨q, 0, none⟩)) :: F) ∧
      ∀ w', Sat g w' (Page_int c q' :: Sl 87 2 pe es.length ce (enc_int es) :: Kids Page_int (ks.take n) (qs.take n) :: Kids Page_int (ks.drop (n + 1)) (qs.drop (n + 1)) :: pt q (.cells #[.slice pe es.length ce, .slice pb qs.length cb] 66 (0, 0)) :: Sl 60 1 pb qs.length cb (qs.map fun q => .pointer (some ⟨q, 0, none⟩)) :: F) →
        Sat g w' (Page_int (d := d + 1) ((es, ks) : Row Int d) q :: F) := by
  obtain ⟨pe, ce, pb, cb, H1⟩ := open_Nd_int H
  obtain ⟨q', hq', H2⟩ := Kids_one (H1.pull 3 rfl) hc
  refine ⟨pe, ce, q', pb, cb, hq', H1.cell 0, H2.ord [0, 4, 1, 2, 3] rfl rfl rfl, fun w' H' => ?_⟩
  have H3 := shut_Nd_int (es := es) (qs := qs) (H'.ord [4, 1, 5, 0, 2, 3] rfl rfl rfl) rfl rfl rfl rfl
  have H4 := kid_back_row_int hq' (H3.ord [1, 2, 3, 0] rfl rfl rfl)
  rw [← list_at hc] at H4
  exact shut_Page_int (d := d + 1) (t := ((es, ks) : Row Int d)) H4

def NextSpec_int (k : Key) (incl : Bool) (d : Nat) : Prop := ∀ {g w : World} {F : List HP} {t : BT Int d} {q lo : Nat} {p : Option Addr} {o : Option (Key × Int)} {R : Ending → World → Prop}, Sat g w (Page_int t q :: F) → Shape lo t → Sorted (flat t) →
    Best_int g (Page_int t q :: F) p o → (∀ w', Sat g w' (Page_int t q :: F) → R (.returned (toldV_int ((nextE (flat t) k incl).or o))) w') → L.tree_Tree_int_Next_L0 k incl p (some ⟨q, 0, none⟩) w R

theorem next_step_int {k : Key} {incl : Bool} {d : Nat} (ih : ∀ d', d = d' + 1 → NextSpec_int k incl d') : NextSpec_int k incl d := by
  intro g w F t q lo p o R H h hs hb hR
  have h5 := h.lo.2
  have hst := (h.fit hs).sorted
  obtain ⟨qs, H1⟩ := open_Page_int H
  have hq := Under_length_int (H1.pull 1 rfl)
  have hle := idx_le (ents t) k
  refine round.tree_Tree_int_Next_L0 ?_
  unfold B.tree_Tree_int_Next_L0
  refine br_t rfl ⟨_, rfl, (spec.tree_shelf_int_find H1 hst (by omega)).mono ?_⟩
  rintro e w1 ⟨rfl, H2⟩
  refine ⟨_, _, rfl, jn ?_⟩
  refine jnp (fun x => x = (has (ents t) k && incl)) (fun J hJ => br (fun hh => hJ _ (by rw [hh]; cases incl <;> rfl)) (fun hh => hJ _ (by rw [hh]; rfl))) ?_
  rintro bb rfl
  refine br (fun hh => ?_) (fun hh => ?_)
  · -- the key itself
    obtain ⟨h0, rfl⟩ : has (ents t) k = true ∧ incl = true := by simpa using hh
    obtain ⟨x, hx, hxk⟩ := has_some h0
    have hn := (List.getElem?_eq_some_iff.1 hx).1
    have hv : nextE (flat t) k true = some x := by
      rw [← hx]
      cases d with
      | zero =>
        have := next_at (incl := true) (k := k) hs
        rw [this]
        simp [ents, flat]
      | succ d =>
        obtain ⟨es, ks⟩ := t
        exact row_next_has (t := (es, ks)) h.2.2.1 hs h0
    obtain ⟨pe, ce, pb, cb, H3⟩ := open_Nd_int H2
    obtain ⟨a, rfl⟩ := entry_at_int (H3.pull 1 rfl) hn
    refine ⟨_, rfl, _, _, _, H3.cell 0, _, rfl, ⟨by omega, by omega⟩, ?_⟩
    rw [Int.toNat_natCast, addr_add]
    refine (spec.tree_told_int H3 (Best_at_int (fun w H => ⟨_, H.pull 1 rfl⟩) hx)).mono ?_
    rintro e w2 ⟨rfl, H4⟩
    have := hR w2 (shut_Page_int (shut_Nd_int H4 rfl rfl rfl rfl))
    rw [hv] at this
    exact ⟨_, _, _, rfl, this⟩
  · refine jnp (fun i => i = (((if has (ents t) k then idx (ents t) k + 1 else idx (ents t) k : Nat)) : Int)) (fun J hJ => br (fun h1 => ?_) (fun h1 => hJ _ (by rw [h1]; rfl))) ?_
    · refine lt fun y hy => hJ _ ?_
      rw [hy, h1, wrap_id (by omega) (by omega)]; simp
    · rintro i rfl
      have hle2 : (if has (ents t) k then idx (ents t) k + 1 else idx (ents t) k) ≤ (ents t).length := by
        split
        · rename_i h1
          obtain ⟨x, hx, hxk⟩ := has_some h1
          exact (List.getElem?_eq_some_iff.1 hx).1
        · exact hle
      generalize hi : (if has (ents t) k then idx (ents t) k + 1 else idx (ents t) k) = n at *
      cases d with
      | zero =>
        obtain rfl : qs = [] := List.length_eq_zero_iff.1 hq
        have hv : nextE (flat t) k incl = (ents t)[n]? := by
          have := next_at (incl := incl) (k := k) hs
          rw [this, ← hi]
          show (ents t)[if has (ents t) k && !incl then _ else _]? = _
          cases h1 : has (ents t) k with
          | false => rfl
          | true =>
            rw [h1] at hh
            have : incl = false := by simpa using hh
            rw [this]; rfl
        rw [hv] at hR
        obtain ⟨pe, ce, pb, cb, H3⟩ := open_Nd_int H2
        refine ⟨_, rfl, _, _, _, H3.cell 0, br (fun h1 => ?_) (fun h1 => ?_)⟩
        · have h1 : n < (ents t).length := by have := of_decide_eq_true h1; omega
          obtain ⟨x, hx⟩ : ∃ x, (ents t)[n]? = some x := ⟨_, List.getElem?_eq_getElem h1⟩
          obtain ⟨a, rfl⟩ := entry_at_int (H3.pull 1 rfl) h1
          refine ⟨_, rfl, _, _, _, H3.cell 0, _, rfl, ⟨by omega, by omega⟩, ?_⟩
          rw [Int.toNat_natCast, addr_add]
          refine (child_none_int H2).mono ?_
          rintro e w2 ⟨rfl, rfl⟩
          refine ⟨_, rfl, next_end_int H3 (Best_at_int (fun w H => ⟨_, H.pull 1 rfl⟩) hx) fun w3 H4 => ?_⟩
          have := hR w3 (shut_Page_int (shut_Nd_int H4 rfl rfl rfl rfl))
          rw [hx] at this
          exact this
        · have h1 : ¬ n < (ents t).length := by have := of_decide_eq_false h1; omega
          refine (child_none_int H2).mono ?_
          rintro e w2 ⟨rfl, rfl⟩
          rw [List.getElem?_eq_none (by omega)] at hR
          exact ⟨_, rfl, next_end_int (shut_Page_int H2) hb fun w3 H4 => hR w3 H4⟩
      | succ d =>
        obtain ⟨es, ks⟩ := t
        have hl : ks.length = es.length + 1 := h.2.2.1
        have hk : ∀ c ∈ ks, Shape 2 c := h.2.2.2
        have hs' : Sorted (flatR (es, ks)) := hs
        have hle2 : n ≤ es.length := hle2
        have H2 : Sat g w1 (Nd_int q es qs :: Kids Page_int ks qs :: F) := H2
        obtain ⟨c, hc⟩ : ∃ c, ks[n]? = some c := ⟨_, List.getElem?_eq_getElem (by omega)⟩
        have hcm : c ∈ ks := List.mem_of_getElem? hc
        have hv : nextE (flat (d := d + 1) ((es, ks) : Row Int d)) k incl = (nextE (flat c) k incl).or es[n]? := row_next (t := (es, ks)) hl hs' hh hi.symm hc
        rw [hv] at hR
        obtain ⟨pe, ce, q', pb, cb, hq', f0, H3, back⟩ := deep_int H2 hc
        refine ⟨_, rfl, _, _, _, f0, br (fun h1 => ?_) (fun h1 => ?_)⟩
        · have h1 : n < es.length := by have := of_decide_eq_true h1; omega
          obtain ⟨x, hx⟩ : ∃ x, es[n]? = some x := ⟨_, List.getElem?_eq_getElem h1⟩
          obtain ⟨a, rfl⟩ := entry_at_int (H3.pull 1 rfl) h1
          refine ⟨_, rfl, _, _, _, f0, _, rfl, ⟨by omega, by omega⟩, ?_⟩
          rw [Int.toNat_natCast, addr_add]
          refine (child_some_int H2 hq').mono ?_
          rintro e w2 ⟨rfl, rfl⟩
          refine ⟨_, rfl, ih d rfl H3 (hk c hcm) (row_kid_sorted hl hs' hcm) (Best_at_int (fun w H => ⟨_, H.pull 1 rfl⟩) hx) fun w3 H4 => ?_⟩
          have := hR w3 (back w3 H4)
          rw [hx, Option.or_assoc] at this
          exact this
        · have h1 : ¬ n < es.length := by have := of_decide_eq_false h1; omega
          refine (child_some_int H2 hq').mono ?_
          rintro e w2 ⟨rfl, rfl⟩
          rw [List.getElem?_eq_none (by omega), Option.or_none] at hR
          exact ⟨_, rfl, ih d rfl H3 (hk c hcm) (row_kid_sorted hl hs' hcm) (Best_mono_int hb back) fun w3 H4 => hR w3 (back w3 H4)⟩

theorem next_all_int {k : Key} {incl : Bool} : ∀ {d : Nat}, NextSpec_int k incl d
  | 0 => next_step_int fun _ h => by cases h
  | d + 1 => next_step_int fun d' h => by cases h; exact next_all_int

theorem spec.tree_Tree_int_Next {g w : World} {F : List HP} {b : Nat} {T : Top Int} {k : Key} {incl : Bool} (H : Sat g w (Tree_int b T :: F)) (hT : Good T) :
    Calls prog f_tree_Tree_int_Next #[.pointer (some ⟨b, 0, none⟩), .string k, .bool incl] w
      fun e w' => e = .returned (toldV_int (nextE T.all k incl)) ∧ Sat g w' (Tree_int b T :: F) := by
  obtain ⟨q, H1⟩ := open_Tree_int H
  refine ok.tree_Tree_int_Next ?_
  unfold V.tree_Tree_int_Next
  refine br_t rfl ⟨_, rfl, _, H1.cell 0, ?_⟩
  refine next_all_int (o := none) (H1.pull 1 rfl) hT.1 hT.2 rfl fun w' H2 => ?_
  rw [Option.or_none]
  exact ⟨rfl, shut_Tree_int (H2.pull 1 rfl) rfl⟩

end Go.Proofs.Ytohhoojcgcbmcaa
