import Derived.Test.YtohhoojcgcbmcaaQ10
set_option maxRecDepth 4000
set_option linter.unusedVariables false
set_option linter.unusedSimpArgs false
namespace Go.Proofs.Ytohhoojcgcbmcaa
open Go Go.Vc Go.Sl Go.Tr Go.Proofs
/-! #### what lies ahead, the last one, of int -/
theorem take_last_int {α : Type} {es : List α} {n : Nat} (h : n < es.length) : (es.take (n + 1)).getLast? = es[n]? := by
  rw [List.getLast?_eq_getElem?, List.length_take, Nat.min_eq_left (by omega)]
  exact List.getElem?_take_of_lt (by omega)

theorem ahead_end_int {k : Key} {incl : Bool} {g w : World} {Ls : List HP} {p : Option Addr} {o : Option (Key × Int)} {R : Ending → World → Prop} (H : Sat g w Ls) (h : Best_int g Ls p o) (hR : ∀ w', Sat g w' Ls → R (.returned (toldV_int o)) w') :
    L.tree_Tree_int_Ahead_L0 k incl p none w R := by
  refine round.tree_Tree_int_Ahead_L0 ?_
  unfold B.tree_Tree_int_Ahead_L0
  refine br_f rfl ((spec.tree_told_int H h).mono ?_)
  rintro e w1 ⟨rfl, H1⟩
  exact ⟨_, _, _, rfl, hR w1 H1⟩

def AheadSpec_int (k : Key) (incl : Bool) (d : Nat) : Prop := ∀ {g w : World} {F : List HP} {t : BT Int d} {q lo : Nat} {p : Option Addr} {o : Option (Key × Int)} {R : Ending → World → Prop}, Sat g w (Page_int t q :: F) → Shape lo t → Sorted (flat t) →
    Best_int g (Page_int t q :: F) p o → (∀ w', Sat g w' (Page_int t q :: F) → R (.returned (toldV_int ((aheadE (flat t) k incl).or o))) w') → L.tree_Tree_int_Ahead_L0 k incl p (some ⟨q, 0, none⟩) w R

theorem ahead_step_int {k : Key} {incl : Bool} {d : Nat} (ih : ∀ d', d = d' + 1 → AheadSpec_int k incl d') : AheadSpec_int k incl d := by
  intro g w F t q lo p o R H h hs hb hR
  have h5 := h.lo.2
  have hst := (h.fit hs).sorted
  obtain ⟨qs, H1⟩ := open_Page_int H
  have hq := Under_length_int (H1.pull 1 rfl)
  have hle := idx_le (ents t) k
  refine round.tree_Tree_int_Ahead_L0 ?_
  unfold B.tree_Tree_int_Ahead_L0
  refine br_t rfl ⟨_, rfl, (spec.tree_shelf_int_find H1 hst (by omega)).mono ?_⟩
  rintro e w1 ⟨rfl, H2⟩
  refine ⟨_, _, rfl, jn ?_⟩
  refine jnp (fun x => x = (has (ents t) k && incl)) (fun J hJ => br (fun hh => hJ _ (by rw [hh]; cases incl <;> rfl)) (fun hh => hJ _ (by rw [hh]; rfl))) ?_
  rintro bb rfl
  refine br (fun hh => ?_) (fun hh => ?_)
  · -- the key itself
    obtain ⟨h0, rfl⟩ : has (ents t) k = true ∧ incl = true := by simpa using hh
    obtain ⟨x, hx, hxk⟩ := has_some h0
    have hn := (List.getElem?_eq_some_iff.1 hx).1
    have hv : aheadE (flat t) k true = some x := by
      rw [← hx]
      cases d with
      | zero =>
        have := ahead_at (incl := true) (k := k) hs
        rw [this]
        have h0' : has (flat t) k = true := h0
        rw [h0']
        exact take_last_int (es := (t : List (Key × Int))) hn
      | succ d =>
        obtain ⟨es, ks⟩ := t
        exact row_ahead_has (t := (es, ks)) h.2.2.1 hs h0
    obtain ⟨pe, ce, pb, cb, H3⟩ := open_Nd_int H2
    obtain ⟨a, rfl⟩ := entry_at_int (H3.pull 1 rfl) hn
    refine ⟨_, rfl, _, _, _, H3.cell 0, _, rfl, ⟨by omega, by omega⟩, ?_⟩
    rw [Int.toNat_natCast, addr_add]
    refine (spec.tree_told_int H3 (Best_at_int (fun w H => ⟨_, H.pull 1 rfl⟩) hx)).mono ?_
    rintro e w2 ⟨rfl, H4⟩
    have := hR w2 (shut_Page_int (shut_Nd_int H4 rfl rfl rfl rfl))
    rw [hv] at this
    exact ⟨_, _, _, rfl, this⟩
  · generalize hi : idx (ents t) k = n at *
    cases d with
    | zero =>
      obtain rfl : qs = [] := List.length_eq_zero_iff.1 hq
      have hv : aheadE (flat t) k incl = ((ents t).take n).getLast? := by
        have := ahead_at (incl := incl) (k := k) hs
        rw [this, ← hi]
        have hh' : (has (flat t) k && incl) = false := hh
        rw [hh']
        rfl
      rw [hv] at hR
      obtain ⟨pe, ce, pb, cb, H3⟩ := open_Nd_int H2
      refine br (fun h1 => ?_) (fun h1 => ?_)
      · obtain ⟨m, rfl⟩ : ∃ m, n = m + 1 := ⟨n - 1, by have := of_decide_eq_true h1; omega⟩
        have hw : IntKind.wrap .i64 (((m + 1 : Nat) : Int) - (1 : Int)) = ((m : Nat) : Int) := by rw [wrap_id (by omega) (by omega)]; omega
        rw [hw]
        obtain ⟨x, hx⟩ : ∃ x, (ents t)[m]? = some x := ⟨_, List.getElem?_eq_getElem (by omega)⟩
        obtain ⟨a, rfl⟩ := entry_at_int (H3.pull 1 rfl) (show m < (ents t).length by omega)
        refine ⟨_, rfl, _, _, _, H3.cell 0, _, rfl, ⟨by omega, by omega⟩, ?_⟩
        rw [Int.toNat_natCast, addr_add]
        refine (child_none_int H2).mono ?_
        rintro e w2 ⟨rfl, rfl⟩
        refine ⟨_, rfl, ahead_end_int H3 (Best_at_int (fun w H => ⟨_, H.pull 1 rfl⟩) hx) fun w3 H4 => ?_⟩
        have := hR w3 (shut_Page_int (shut_Nd_int H4 rfl rfl rfl rfl))
        rw [take_last_int (by omega), hx] at this
        exact this
      · obtain rfl : n = 0 := by have := of_decide_eq_false h1; omega
        refine (child_none_int H2).mono ?_
        rintro e w2 ⟨rfl, rfl⟩
        exact ⟨_, rfl, ahead_end_int (shut_Page_int H2) hb fun w3 H4 => hR w3 H4⟩
    | succ d =>
      obtain ⟨es, ks⟩ := t
      have hl : ks.length = es.length + 1 := h.2.2.1
      have hk : ∀ c ∈ ks, Shape 2 c := h.2.2.2
      have hs' : Sorted (flatR (es, ks)) := hs
      have hle : n ≤ es.length := hle
      have hi : idx es k = n := hi
      have H2 : Sat g w1 (Nd_int q es qs :: Kids Page_int ks qs :: F) := H2
      obtain ⟨c, hc⟩ : ∃ c, ks[n]? = some c := ⟨_, List.getElem?_eq_getElem (by omega)⟩
      have hcm : c ∈ ks := List.mem_of_getElem? hc
      have hv : aheadE (flat (d := d + 1) ((es, ks) : Row Int d)) k incl = (aheadE (flat c) k incl).or (es.take n).getLast? := by
        have := row_ahead (t := (es, ks)) hl hs' hh (c := c) (by rw [← hi] at hc; exact hc)
        rw [hi] at this
        exact this
      rw [hv] at hR
      obtain ⟨pe, ce, q', pb, cb, hq', f0, H3, back⟩ := deep_int H2 hc
      refine br (fun h1 => ?_) (fun h1 => ?_)
      · obtain ⟨m, rfl⟩ : ∃ m, n = m + 1 := ⟨n - 1, by have := of_decide_eq_true h1; omega⟩
        have hw : IntKind.wrap .i64 (((m + 1 : Nat) : Int) - (1 : Int)) = ((m : Nat) : Int) := by rw [wrap_id (by omega) (by omega)]; omega
        rw [hw]
        obtain ⟨x, hx⟩ : ∃ x, es[m]? = some x := ⟨_, List.getElem?_eq_getElem (by omega)⟩
        obtain ⟨a, rfl⟩ := entry_at_int (H3.pull 1 rfl) (show m < es.length by omega)
        refine ⟨_, rfl, _, _, _, f0, _, rfl, ⟨by omega, by omega⟩, ?_⟩
        rw [Int.toNat_natCast, addr_add]
        refine (child_some_int H2 hq').mono ?_
        rintro e w2 ⟨rfl, rfl⟩
        refine ⟨_, rfl, ih d rfl H3 (hk c hcm) (row_kid_sorted hl hs' hcm) (Best_at_int (fun w H => ⟨_, H.pull 1 rfl⟩) hx) fun w3 H4 => ?_⟩
        have := hR w3 (back w3 H4)
        rw [take_last_int (by omega), hx, Option.or_assoc] at this
        exact this
      · obtain rfl : n = 0 := by have := of_decide_eq_false h1; omega
        refine (child_some_int H2 hq').mono ?_
        rintro e w2 ⟨rfl, rfl⟩
        rw [List.take_zero, List.getLast?_nil, Option.or_none] at hR
        exact ⟨_, rfl, ih d rfl H3 (hk c hcm) (row_kid_sorted hl hs' hcm) (Best_mono_int hb back) fun w3 H4 => hR w3 (back w3 H4)⟩

theorem ahead_all_int {k : Key} {incl : Bool} : ∀ {d : Nat}, AheadSpec_int k incl d
  | 0 => ahead_step_int fun _ h => by cases h
  | d + 1 => ahead_step_int fun d' h => by cases h; exact ahead_all_int

theorem spec.tree_Tree_int_Ahead {g w : World} {F : List HP} {b : Nat} {T : Top Int} {k : Key} {incl : Bool} (H : Sat g w (Tree_int b T :: F)) (hT : Good T) :
    Calls prog f_tree_Tree_int_Ahead #[.pointer (some ⟨b, 0, none⟩), .string k, .bool incl] w
      fun e w' => e = .returned (toldV_int (aheadE T.all k incl)) ∧ Sat g w' (Tree_int b T :: F) := by
  obtain ⟨q, H1⟩ := open_Tree_int H
  refine ok.tree_Tree_int_Ahead ?_
  unfold V.tree_Tree_int_Ahead
  refine br_t rfl ⟨_, rfl, _, H1.cell 0, ?_⟩
  refine ahead_all_int (o := none) (H1.pull 1 rfl) hT.1 hT.2 rfl fun w' H2 => ?_
  rw [Option.or_none]
  exact ⟨rfl, shut_Tree_int (H2.pull 1 rfl) rfl⟩

theorem last_end_int {g w : World} {Ls : List HP} {p : Option Addr} {o : Option (Key × Int)} {R : Ending → World → Prop} (H : Sat g w Ls) (h : Best_int g Ls p o) (hR : ∀ w', Sat g w' Ls → R (.returned (toldV_int o)) w') :
    L.tree_Tree_int_Last_L0 p none w R := by
  refine round.tree_Tree_int_Last_L0 ?_
  unfold B.tree_Tree_int_Last_L0
  refine br_f rfl ((spec.tree_told_int H h).mono ?_)
  rintro e w1 ⟨rfl, H1⟩
  exact ⟨_, _, _, rfl, hR w1 H1⟩

def LastSpec_int (d : Nat) : Prop := ∀ {g w : World} {F : List HP} {t : BT Int d} {q lo : Nat} {p : Option Addr} {o : Option (Key × Int)} {R : Ending → World → Prop}, Sat g w (Page_int t q :: F) → Shape lo t →
    Best_int g (Page_int t q :: F) p o → (∀ w', Sat g w' (Page_int t q :: F) → R (.returned (toldV_int ((flat t).getLast?.or o))) w') → L.tree_Tree_int_Last_L0 p (some ⟨q, 0, none⟩) w R

/-- The part of a round that finds the best entry of the page. -/
theorem last_round_int {g w : World} {Ls : List HP} {es : List (Key × Int)} {q : Nat} {pe : Option Addr} {ce : Nat} {p : Option Addr} {o : Option (Key × Int)} {K : Option Addr → World → Prop} (H : Sat g w Ls) (h5 : es.length ≤ 5)
    (hc : ∀ w, Sat g w Ls → w.cell? ⟨q, 0, none⟩ = some (.slice pe es.length ce)) (hS : ∀ w, Sat g w Ls → ∃ F, Sat g w (Sl 87 2 pe es.length ce (enc_int es) :: F)) (hb : Best_int g Ls p o)
    (hK : ∀ p' w', Sat g w' Ls → Best_int g Ls p' (es.getLast?.or o) → K p' w') :
    Jn (α := Option Addr → World → Prop) (fun J =>
      ∃ a24, some (⟨q, 0, none⟩ : Addr) = some a24 ∧ ∃ p27 l27 c27, w.cell? a24 = some (.slice p27 l27 c27) ∧
      Br (decide ((l27 : Int) > (0 : Int))) (
        Dr w fun w_2 => ∃ a31, some (⟨q, 0, none⟩ : Addr) = some a31 ∧ ∃ a36, some (⟨q, 0, none⟩ : Addr) = some a36 ∧
        ∃ p34 l34 c34, w_2.cell? a31 = some (.slice p34 l34 c34) ∧ ∃ p39 l39 c39, w_2.cell? a36 = some (.slice p39 l39 c39) ∧
        ∃ a42, p34 = some a42 ∧ (0 ≤ (IntKind.wrap .i64 ((l39 : Int) - (1 : Int))) ∧ (IntKind.wrap .i64 ((l39 : Int) - (1 : Int))) < (l34 : Int)) ∧
        J (some (a42.add ((IntKind.wrap .i64 ((l39 : Int) - (1 : Int))).toNat * 2))) w_2) (J p w)) K := by
  refine jnpw (fun p' w' => Sat g w' Ls ∧ Best_int g Ls p' (es.getLast?.or o)) (fun J hJ => ?_) (fun p' w' h => hK p' w' h.1 h.2)
  refine ⟨_, rfl, _, _, _, hc w H, br (fun h1 => ?_) (fun h1 => ?_)⟩
  · obtain ⟨m, hm⟩ : ∃ m, es.length = m + 1 := ⟨es.length - 1, by have := of_decide_eq_true h1; omega⟩
    refine dr H fun w2 H2 => ?_
    obtain ⟨F, HS⟩ := hS w2 H2
    obtain ⟨a, rfl⟩ := entry_at_int HS (show m < es.length by omega)
    refine ⟨_, rfl, _, rfl, _, _, _, hc w2 H2, _, _, _, hc w2 H2, _, rfl, ?_⟩
    have hw : IntKind.wrap .i64 (((es.length : Nat) : Int) - (1 : Int)) = ((m : Nat) : Int) := by rw [wrap_id (by omega) (by omega)]; omega
    rw [hw, Int.toNat_natCast, addr_add]
    refine ⟨⟨by omega, by omega⟩, hJ _ _ ⟨H2, ?_⟩⟩
    obtain ⟨x, hx⟩ : ∃ x, es[m]? = some x := ⟨_, List.getElem?_eq_getElem (by omega)⟩
    have hgl : es.getLast? = some x := by rw [List.getLast?_eq_getElem?, hm]; exact hx
    rw [hgl]
    exact Best_at_int hS hx
  · obtain rfl : es = [] := List.length_eq_zero_iff.1 (by have := of_decide_eq_false h1; omega)
    exact hJ _ _ ⟨H, hb⟩

theorem last_step_int {d : Nat} (ih : ∀ d', d = d' + 1 → LastSpec_int d') : LastSpec_int d := by
  intro g w F t q lo p o R H h hb hR
  have h5 := h.lo.2
  obtain ⟨qs, H1⟩ := open_Page_int H
  have hq := Under_length_int (H1.pull 1 rfl)
  refine round.tree_Tree_int_Last_L0 ?_
  unfold B.tree_Tree_int_Last_L0
  refine br_t rfl ?_
  cases d with
  | zero =>
    obtain rfl : qs = [] := List.length_eq_zero_iff.1 hq
    obtain ⟨pe, ce, pb, cb, H3⟩ := open_Nd_int H1
    have back : ∀ w', Sat g w' (pt q (.cells #[.slice pe (ents t).length ce, .slice pb ([] : List Nat).length cb] 66 (0, 0)) :: Sl 87 2 pe (ents t).length ce (enc_int (ents t)) :: Sl 60 1 pb ([] : List Nat).length cb (([] : List Nat).map fun q => .pointer (some ⟨q, 0, none⟩)) :: Under_int t [] :: F) → Sat g w' (Nd_int q (ents t) [] :: Under_int t [] :: F) :=
      fun w' H' => shut_Nd_int H' rfl rfl rfl rfl
    refine last_round_int (es := ents t) (pe := pe) (ce := ce) H3 h5 (fun w H => H.cell 0) (fun w H => ⟨_, H.pull 1 rfl⟩) (Best_mono_int hb fun w' H' => shut_Page_int (back w' H')) fun p' w1 H4 hb' => ?_
    refine ⟨_, rfl, _, _, _, H4.cell 0, ?_⟩
    refine (child_none_int (back w1 H4)).mono ?_
    rintro e w2 ⟨rfl, rfl⟩
    exact ⟨_, rfl, last_end_int H4 hb' fun w3 H5 => hR w3 (shut_Page_int (back w3 H5))⟩
  | succ d =>
    obtain ⟨es, ks⟩ := t
    have hl : ks.length = es.length + 1 := h.2.2.1
    have h5 : es.length ≤ 5 := h5
    have hk : ∀ c ∈ ks, Shape 2 c := h.2.2.2
    have H1 : Sat g w (Nd_int q es qs :: Kids Page_int ks qs :: F) := H1
    obtain ⟨c, hc⟩ : ∃ c, ks[es.length]? = some c := ⟨_, List.getElem?_eq_getElem (by omega)⟩
    have hcm : c ∈ ks := List.mem_of_getElem? hc
    have hv : (flat (d := d + 1) ((es, ks) : Row Int d)).getLast? = ((flat c).getLast?).or es.getLast? := row_last (t := (es, ks)) hl hc
    rw [hv] at hR
    obtain ⟨pe, ce, q', pb, cb, hq', f0, H3, back⟩ := deep_int H1 hc
    refine last_round_int (es := es) (pe := pe) (ce := ce) H3 h5 (fun w H => (H.pull 4 rfl).cell 0) (fun w H => ⟨_, H.pull 1 rfl⟩) (Best_mono_int hb back) fun p' w1 H4 hb' => ?_
    refine ⟨_, rfl, _, _, _, (H4.pull 4 rfl).cell 0, ?_⟩
    refine (child_some_int (shut_Nd_int (es := es) (qs := qs) (H4.ord [4, 1, 5, 0, 2, 3] rfl rfl rfl) rfl rfl rfl rfl) hq').mono ?_
    rintro e w2 ⟨rfl, rfl⟩
    refine ⟨_, rfl, ih d rfl H4 (hk c hcm) hb' fun w3 H5 => ?_⟩
    have := hR w3 (back w3 H5)
    rw [Option.or_assoc] at this
    exact this

theorem last_all_int : ∀ {d : Nat}, LastSpec_int d
  | 0 => last_step_int fun _ h => by cases h
  | d + 1 => last_step_int fun d' h => by cases h; exact last_all_int

theorem spec.tree_Tree_int_Last {g w : World} {F : List HP} {b : Nat} {T : Top Int} (H : Sat g w (Tree_int b T :: F)) (hT : Good T) :
    Calls prog f_tree_Tree_int_Last #[.pointer (some ⟨b, 0, none⟩)] w
      fun e w' => e = .returned (toldV_int T.all.getLast?) ∧ Sat g w' (Tree_int b T :: F) := by
  obtain ⟨q, H1⟩ := open_Tree_int H
  refine ok.tree_Tree_int_Last ?_
  unfold V.tree_Tree_int_Last
  refine br_t rfl ⟨_, rfl, _, H1.cell 0, ?_⟩
  refine last_all_int (o := none) (H1.pull 1 rfl) hT.1 rfl fun w' H2 => ?_
  rw [Option.or_none]
  exact ⟨rfl, shut_Tree_int (H2.pull 1 rfl) rfl⟩

end Go.Proofs.Ytohhoojcgcbmcaa
