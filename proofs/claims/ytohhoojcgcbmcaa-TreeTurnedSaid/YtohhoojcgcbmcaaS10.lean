import Derived.Test.YtohhoojcgcbmcaaS9
import Derived.Test.YtohhoojcgcbmcaaNode2
set_option maxRecDepth 4000
set_option linter.unusedVariables false
set_option linter.unusedSimpArgs false
namespace Go.Proofs.Ytohhoojcgcbmcaa
open Go Go.Vc Go.Sl Go.Tr Go.Proofs
/-! #### what is told, of string -/
/-- How an entry is told, or none. -/
def toldV_string (o : Option (Key × Key)) : Value := .tuple #[.string ((o.map (·.1)).getD (str [])), .string ((o.map (·.2)).getD (str [])), .bool o.isSome]

/-- A pointer to an entry, or none. -/
def Best_string (g : World) (L : List HP) (p : Option Addr) : Option (Key × Key) → Prop
  | none => p = none
  | some x => ∃ a, p = some a ∧ ∀ w, Sat g w L → w.cell? a = some (.string x.1) ∧ w.cell? (a.add 1) = some (.string x.2)

theorem Best_mono_string {g : World} {L L' : List HP} {p : Option Addr} {o : Option (Key × Key)} (h : Best_string g L p o) (hL : ∀ w, Sat g w L' → Sat g w L) : Best_string g L' p o := by
  cases o with
  | none => exact h
  | some x =>
    obtain ⟨a, h1, h2⟩ := h
    exact ⟨a, h1, fun w H => h2 w (hL w H)⟩

theorem spec.tree_told_string {g w : World} {L : List HP} {p : Option Addr} {o : Option (Key × Key)} (H : Sat g w L) (h : Best_string g L p o) :
    Calls prog f_tree_told_string #[.pointer p] w fun e w' => e = .returned (toldV_string o) ∧ Sat g w' L := by
  refine ok.tree_told_string ?_
  unfold V.tree_told_string
  cases o with
  | none =>
    obtain rfl : p = none := h
    exact br_t rfl ⟨rfl, H⟩
  | some x =>
    obtain ⟨a, rfl, h2⟩ := h
    refine br_f rfl (dr H fun w1 H1 => ?_)
    obtain ⟨c1, c2⟩ := h2 w1 H1
    exact ⟨_, rfl, _, rfl, _, c1, _, c2, rfl, H1⟩

theorem child_none_string {g w : World} {F : List HP} {b : Nat} {es : List (Key × Key)} {i : Int} (H : Sat g w (Nd_string b es [] :: F)) :
    Calls prog f_tree_page_string_child #[.pointer (some ⟨b, 0, none⟩), .int .i64 i] w fun e w' => e = .returned (.pointer none) ∧ w' = w := by
  refine ok.tree_page_string_child ?_
  unfold V.tree_page_string_child
  refine (spec.tree_page_string_leaf H).mono ?_
  rintro e w2 ⟨rfl, rfl, H3⟩
  exact ⟨_, rfl, br_t rfl ⟨rfl, rfl⟩⟩

theorem child_some_string {g w : World} {F : List HP} {b : Nat} {es : List (Key × Key)} {qs : List Nat} {n q : Nat} (H : Sat g w (Nd_string b es qs :: F)) (hq : qs[n]? = some q) :
    Calls prog f_tree_page_string_child #[.pointer (some ⟨b, 0, none⟩), .int .i64 (n : Int)] w fun e w' => e = .returned (.pointer (some ⟨q, 0, none⟩)) ∧ w' = w := by
  refine ok.tree_page_string_child ?_
  unfold V.tree_page_string_child
  have hn := (List.getElem?_eq_some_iff.1 hq).1
  refine (spec.tree_page_string_leaf H).mono ?_
  rintro e w2 ⟨rfl, rfl, H3⟩
  have hne : qs.isEmpty = false := by cases qs with | nil => cases hn | cons q qs => rfl
  obtain ⟨pe, ce, pb, cb, f0, f1, fe, fk⟩ := facts_string H3
  obtain ⟨a, rfl, hk⟩ := fk n q hq
  refine ⟨_, rfl, br_f hne ⟨_, rfl, _, _, _, f1, _, rfl, ⟨by omega, by omega⟩, ?_⟩⟩
  rw [Int.toNat_natCast, addr_add]
  exact ⟨_, hk, rfl, rfl⟩

/-- An entry of a page as the best one. -/
theorem Best_at_string {g : World} {L : List HP} {a ce n : Nat} {es : List (Key × Key)} {x : Key × Key} (hL : ∀ w, Sat g w L → ∃ F, Sat g w (Sl 94 2 (some ⟨a, 0, none⟩) es.length ce (enc_string es) :: F)) (hx : es[n]? = some x) :
    Best_string g L (some ⟨a, n * 2, none⟩) (some x) := by
  refine ⟨_, rfl, fun w H => ?_⟩
  obtain ⟨F, HS⟩ := hL w H
  have hg := row2_get (fun e : Key × Key => Value.string e.1) (fun e => ev_string e.2) es n
  rw [hx] at hg
  obtain ⟨a1, h1, c1⟩ := HS.Sl_cell hg.1
  obtain ⟨a2, h2, c2⟩ := HS.Sl_cell hg.2
  obtain rfl : a = a1 := by have := Option.some.inj h1; simpa using congrArg Addr.block this
  obtain rfl : a = a2 := by have := Option.some.inj h2; simpa using congrArg Addr.block this
  exact ⟨c1, c2⟩

theorem next_end_string {k : Key} {incl : Bool} {g w : World} {Ls : List HP} {p : Option Addr} {o : Option (Key × Key)} {R : Ending → World → Prop} (H : Sat g w Ls) (h : Best_string g Ls p o) (hR : ∀ w', Sat g w' Ls → R (.returned (toldV_string o)) w') :
    L.tree_Tree_string_Next_L0 k incl p none w R := by
  refine round.tree_Tree_string_Next_L0 ?_
  unfold B.tree_Tree_string_Next_L0
  refine br_f rfl ((spec.tree_told_string H h).mono ?_)
  rintro e w1 ⟨rfl, H1⟩
  exact ⟨_, _, _, rfl, hR w1 H1⟩

/-- A page opened down to its slices, and shut again. -/
theorem deep_string {g w : World} {F : List HP} {d : Nat} {es : List (Key × Key)} {ks : List (BT Key d)} {q n : Nat} {qs : List Nat} {c : BT Key d} (H : Sat g w (Nd_string q es qs :: Kids Page_string ks qs :: F)) (hc : ks[n]? = some c) :
    ∃ (pe : Option Addr) (ce q' : Nat) (pb : Option Addr) (cb : Nat), qs[n]? = some q' ∧ w.cell? ⟨q, 0, none⟩ = some (.slice pe es.length ce) ∧
      Sat g w (Page_string c q' :: Sl 94 2 pe es.length ce (enc_string es) :: Kids Page_string (ks.take n) (qs.take n) :: Kids Page_string (ks.drop (n + 1)) (qs.drop (n + 1)) :: pt q (.cells #[.slice pe es.length ce, .slice pb qs.length cb] 75 (0, 0)) :: Sl 69 1 pb qs.length cb (qs.map fun q => .pointer (some ⟨q, 0, none⟩)) :: F) ∧
      ∀ w', Sat g w' (Page_string c q' :: Sl 94 2 pe es.length ce (enc_string es) :: Kids Page_string (ks.take n) (qs.take n) :: Kids Page_string (ks.drop (n + 1)) (qs.drop (n + 1)) :: pt q (.cells #[.slice pe es.length ce, .slice pb qs.length cb] 75 (0, 0)) :: Sl 69 1 pb qs.length cb (qs.map fun q => .pointer (some ⟨q, 0, none⟩)) :: F) →
        Sat g w' (Page_string (d := d + 1) ((es, ks) : Row Key d) q :: F) := by
  obtain ⟨pe, ce, pb, cb, H1⟩ := open_Nd_string H
  obtain ⟨q', hq', H2⟩ := Kids_one (H1.pull 3 rfl) hc
  refine ⟨pe, ce, q', pb, cb, hq', H1.cell 0, H2.ord [0, 4, 1, 2, 3] rfl rfl rfl, fun w' H' => ?_⟩
  have H3 := shut_Nd_string (es := es) (qs := qs) (H'.ord [4, 1, 5, 0, 2, 3] rfl rfl rfl) rfl rfl rfl rfl
  have H4 := kid_back_row_string hq' (H3.ord [1, 2, 3, 0] rfl rfl rfl)
  rw [← list_at hc] at H4
  exact shut_Page_string (d := d + 1) (t := ((es, ks) : Row Key d)) H4

def NextSpec_string (k : Key) (incl : Bool) (d : Nat) : Prop := ∀ {g w : World} {F : List HP} {t : BT Key d} {q lo : Nat} {p : Option Addr} {o : Option (Key × Key)} {R : Ending → World → Prop}, Sat g w (Page_string t q :: F) → Shape lo t → Sorted (flat t) →
    Best_string g (Page_string t q :: F) p o → (∀ w', Sat g w' (Page_string t q :: F) → R (.returned (toldV_string ((nextE (flat t) k incl).or o))) w') → L.tree_Tree_string_Next_L0 k incl p (some ⟨q, 0, none⟩) w R

theorem next_step_string {k : Key} {incl : Bool} {d : Nat} (ih : ∀ d', d = d' + 1 → NextSpec_string k incl d') : NextSpec_string k incl d := by
  intro g w F t q lo p o R H h hs hb hR
  have h5 := h.lo.2
  have hst := (h.fit hs).sorted
  obtain ⟨qs, H1⟩ := open_Page_string H
  have hq := Under_length_string (H1.pull 1 rfl)
  have hle := idx_le (ents t) k
  refine round.tree_Tree_string_Next_L0 ?_
  unfold B.tree_Tree_string_Next_L0
  refine br_t rfl ⟨_, rfl, (spec.tree_shelf_string_find H1 hst (by omega)).mono ?_⟩
  rintro e w1 ⟨rfl, H2⟩
  refine ⟨_, _, rfl, jn ?_⟩
  refine jnp (fun x => x = (has (ents t) k && incl)) (fun J hJ => br (fun hh => hJ _ (by rw [hh]; cases incl <;> rfl)) (fun hh => hJ _ (by rw [hh]; rfl))) ?_
  rintro bb rfl
  refine br (fun hh => ?_) (fun hh => ?_)
  · -- the key itself
    obtain ⟨h0, rfl⟩ : has (ents t) k = true ∧ incl = true := by simpa using hh
    obtain ⟨x, hx, hxk⟩ := has_some h0
    have hn := (List.getElem?_eq_some_iff.1 hx).1
    have hv : nextE (flat t) k true = some x := by
      rw [← hx]
      cases d with
      | zero =>
        have := next_at (incl := true) (k := k) hs
        rw [this]
        simp [ents, flat]
      | succ d =>
        obtain ⟨es, ks⟩ := t
        exact row_next_has (t := (es, ks)) h.2.2.1 hs h0
    obtain ⟨pe, ce, pb, cb, H3⟩ := open_Nd_string H2
    obtain ⟨a, rfl⟩ := entry_at_string (H3.pull 1 rfl) hn
    refine ⟨_, rfl, _, _, _, H3.cell 0, _, rfl, ⟨by omega, by omega⟩, ?_⟩
    rw [Int.toNat_natCast, addr_add]
    refine (spec.tree_told_string H3 (Best_at_string (fun w H => ⟨_, H.pull 1 rfl⟩) hx)).mono ?_
    rintro e w2 ⟨rfl, H4⟩
    have := hR w2 (shut_Page_string (shut_Nd_string H4 rfl rfl rfl rfl))
    rw [hv] at this
    exact ⟨_, _, _, rfl, this⟩
  · refine jnp (fun i => i = (((if has (ents t) k then idx (ents t) k + 1 else idx (ents t) k : Nat)) : Int)) (fun J hJ => br (fun h1 => ?_) (fun h1 => hJ _ (by rw [h1]; rfl))) ?_
    · refine lt fun y hy => hJ _ ?_
      rw [hy, h1, wrap_id (by omega) (by omega)]; simp
    · rintro i rfl
      have hle2 : (if has (ents t) k then idx (ents t) k + 1 else idx (ents t) k) ≤ (ents t).length := by
        split
        · rename_i h1
          obtain ⟨x, hx, hxk⟩ := has_some h1
          exact (List.getElem?_eq_some_iff.1 hx).1
        · exact hle
      generalize hi : (if has (ents t) k then idx (ents t) k + 1 else idx (ents t) k) = n at *
      cases d with
      | zero =>
        obtain rfl : qs = [] := List.length_eq_zero_iff.1 hq
        have hv : nextE (flat t) k incl = (ents t)[n]? := by
          have := next_at (incl := incl) (k := k) hs
          rw [this, ← hi]
          show (ents t)[if has (ents t) k && !incl then _ else _]? = _
          cases h1 : has (ents t) k with
          | false => rfl
          | true =>
            rw [h1] at hh
            have : incl = false := by simpa using hh
            rw [this]; rfl
        rw [hv] at hR
        obtain ⟨pe, ce, pb, cb, H3⟩ := open_Nd_string H2
        refine ⟨_, rfl, _, _, _, H3.cell 0, br (fun h1 => ?_) (fun h1 => ?_)⟩
        · have h1 : n < (ents t).length := by have := of_decide_eq_true h1; omega
          obtain ⟨x, hx⟩ : ∃ x, (ents t)[n]? = some x := ⟨_, List.getElem?_eq_getElem h1⟩
          obtain ⟨a, rfl⟩ := entry_at_string (H3.pull 1 rfl) h1
          refine ⟨_, rfl, _, _, _, H3.cell 0, _, rfl, ⟨by omega, by omega⟩, ?_⟩
          rw [Int.toNat_natCast, addr_add]
          refine (child_none_string H2).mono ?_
          rintro e w2 ⟨rfl, rfl⟩
          refine ⟨_, rfl, next_end_string H3 (Best_at_string (fun w H => ⟨_, H.pull 1 rfl⟩) hx) fun w3 H4 => ?_⟩
          have := hR w3 (shut_Page_string (shut_Nd_string H4 rfl rfl rfl rfl))
          rw [hx] at this
          exact this
        · have h1 : ¬ n < (ents t).length := by have := of_decide_eq_false h1; omega
          refine (child_none_string H2).mono ?_
          rintro e w2 ⟨rfl, rfl⟩
          rw [List.getElem?_eq_none (by omega)] at hR
          exact ⟨_, rfl, next_end_string (shut_Page_string H2) hb fun w3 H4 => hR w3 H4⟩
      | succ d =>
        obtain ⟨es, ks⟩ := t
        have hl : ks.length = es.length + 1 := h.2.2.1
        have hk : ∀ c ∈ ks, Shape 2 c := h.2.2.2
        have hs' : Sorted (flatR (es, ks)) := hs
        have hle2 : n ≤ es.length := hle2
        have H2 : Sat g w1 (Nd_string q es qs :: Kids Page_string ks qs :: F) := H2
        obtain ⟨c, hc⟩ : ∃ c, ks[n]? = some c := ⟨_, List.getElem?_eq_getElem (by omega)⟩
        have hcm : c ∈ ks := List.mem_of_getElem? hc
        have hv : nextE (flat (d := d + 1) ((es, ks) : Row Key d)) k incl = (nextE (flat c) k incl).or es[n]? := row_next (t := (es, ks)) hl hs' hh hi.symm hc
        rw [hv] at hR
        obtain ⟨pe, ce, q', pb, cb, hq', f0, H3, back⟩ := deep_string H2 hc
        refine ⟨_, rfl, _, _, _, f0, br (fun h1 => ?_) (fun h1 => ?_)⟩
        · have h1 : n < es.length := by have := of_decide_eq_true h1; omega
          obtain ⟨x, hx⟩ : ∃ x, es[n]? = some x := ⟨_, List.getElem?_eq_getElem h1⟩
          obtain ⟨a, rfl⟩ := entry_at_string (H3.pull 1 rfl) h1
          refine ⟨_, rfl, _, _, _, f0, _, rfl, ⟨by omega, by omega⟩, ?_⟩
          rw [Int.toNat_natCast, addr_add]
          refine (child_some_string H2 hq').mono ?_
          rintro e w2 ⟨rfl, rfl⟩
          refine ⟨_, rfl, ih d rfl H3 (hk c hcm) (row_kid_sorted hl hs' hcm) (Best_at_string (fun w H => ⟨_, H.pull 1 rfl⟩) hx) fun w3 H4 => ?_⟩
          have := hR w3 (back w3 H4)
          rw [hx, Option.or_assoc] at this
          exact this
        · have h1 : ¬ n < es.length := by have := of_decide_eq_false h1; omega
          refine (child_some_string H2 hq').mono ?_
          rintro e w2 ⟨rfl, rfl⟩
          rw [List.getElem?_eq_none (by omega), Option.or_none] at hR
          exact ⟨_, rfl, ih d rfl H3 (hk c hcm) (row_kid_sorted hl hs' hcm) (Best_mono_string hb back) fun w3 H4 => hR w3 (back w3 H4)⟩

theorem next_all_string {k : Key} {incl : Bool} : ∀ {d : Nat}, NextSpec_string k incl d
  | 0 => next_step_string fun _ h => by cases h
  | d + 1 => next_step_string fun d' h => by cases h; exact next_all_string

theorem spec.tree_Tree_string_Next {g w : World} {F : List HP} {b : Nat} {T : Top Key} {k : Key} {incl : Bool} (H : Sat g w (Tree_string b T :: F)) (hT : Good T) :
    Calls prog f_tree_Tree_string_Next #[.pointer (some ⟨b, 0, none⟩), .string k, .bool incl] w
      fun e w' => e = .returned (toldV_string (nextE T.all k incl)) ∧ Sat g w' (Tree_string b T :: F) := by
  obtain ⟨q, H1⟩ := open_Tree_string H
  refine ok.tree_Tree_string_Next ?_
  unfold V.tree_Tree_string_Next
  refine br_t rfl ⟨_, rfl, _, H1.cell 0, ?_⟩
  refine next_all_string (o := none) (H1.pull 1 rfl) hT.1 hT.2 rfl fun w' H2 => ?_
  rw [Option.or_none]
  exact ⟨rfl, shut_Tree_string (H2.pull 1 rfl) rfl⟩

end Go.Proofs.Ytohhoojcgcbmcaa
