/- The pages' keys. -/
import Derived.Test.YtohhoojcgcbmcaaQ12
set_option maxRecDepth 4000
set_option linter.unusedVariables false
set_option linter.unusedSimpArgs false
namespace Go.Tr
open Go Go.Vc
variable {V : Type}
/-- Each page's keys, the pages below behind. -/
def pagesP : {d : Nat} → BT V d → List (List Key)
  | 0, t => [List.map (·.1) t]
  | _ + 1, t => t.1.map (·.1) :: t.2.flatMap pagesP
theorem pagesP_one {d : Nat} (t : BT V d) : ∃ l, pagesP t = (ents t).map (·.1) :: l := by
  cases d with
  | zero => exact ⟨[], rfl⟩
  | succ d => exact ⟨_, rfl⟩
end Go.Tr
namespace Go.Proofs.Ytohhoojcgcbmcaa
open Go Go.Vc Go.Sl Go.Tr Go.Proofs

def StrsV : List (List Key) → List Value → HP
  | [], [] => stars []
  | ks :: kss, v :: vs => stars [exs fun x : Option Addr × Nat => stars [pr (v = .slice x.1 ks.length x.2), Strs x.1 x.2 ks], StrsV kss vs]
  | _, _ => pr False

theorem StrsV_cons {g w : World} {F : List HP} {ks : List Key} {kss : List (List Key)} {v : Value} {vs : List Value} (H : Sat g w (StrsV (ks :: kss) (v :: vs) :: F)) :
    ∃ p c, v = .slice p ks.length c ∧ Sat g w (Strs p c ks :: StrsV kss vs :: F) := by
  have H1 := Sat.open_stars (M := [exs fun x : Option Addr × Nat => stars [pr (v = .slice x.1 ks.length x.2), Strs x.1 x.2 ks], StrsV kss vs]) H
  obtain ⟨⟨p, c⟩, H2⟩ := Sat.open_ex (α := Option Addr × Nat) H1
  have H3 := Sat.open_stars (M := [pr (v = .slice p ks.length c), Strs p c ks]) H2
  obtain ⟨h, H4⟩ := Sat.open_pr H3
  exact ⟨p, c, h, H4⟩
theorem StrsV_back {g w : World} {F : List HP} {ks : List Key} {kss : List (List Key)} {vs : List Value} {p : Option Addr} {c : Nat} (H : Sat g w (Strs p c ks :: StrsV kss vs :: F)) :
    Sat g w (StrsV (ks :: kss) (.slice p ks.length c :: vs) :: F) := by
  have H1 := Sat.shut_pr (p := Value.slice p ks.length c = .slice p ks.length c) rfl H
  have H2 := Sat.shut_stars (M := [pr (Value.slice p ks.length c = .slice p ks.length c), Strs p c ks]) H1
  have H3 := Sat.shut_ex (A := fun x : Option Addr × Nat => stars [pr (Value.slice p ks.length c = .slice x.1 ks.length x.2), Strs x.1 x.2 ks]) (p, c) H2
  exact Sat.shut_stars (M := [exs fun x : Option Addr × Nat => stars [pr (Value.slice p ks.length c = .slice x.1 ks.length x.2), Strs x.1 x.2 ks], StrsV kss vs]) H3
theorem StrsV_length {g w : World} : ∀ {kss : List (List Key)} {vs : List Value} {F : List HP}, Sat g w (StrsV kss vs :: F) → kss.length = vs.length
  | [], [], _, _ => rfl
  | ks :: kss, v :: vs, F, H => by
    obtain ⟨p, c, h, H1⟩ := StrsV_cons H
    have := StrsV_length (H1.pull 1 rfl)
    simp [this]
  | [], v :: vs, F, H => (Sat.open_pr (p := False) H).1.elim
  | ks :: kss, [], F, H => (Sat.open_pr (p := False) H).1.elim
theorem StrsV_snoc {g w : World} {p : Option Addr} {c : Nat} {ks : List Key} : ∀ {kss : List (List Key)} {vs : List Value} {F : List HP}, Sat g w (StrsV kss vs :: Strs p c ks :: F) → Sat g w (StrsV (kss ++ [ks]) (vs ++ [.slice p ks.length c]) :: F)
  | [], [], F, H => StrsV_back ((Sat.unemp H).pull 0 rfl |> fun H => (Sat.emp H).pull 1 rfl)
  | k :: kss, v :: vs, F, H => by
    obtain ⟨p1, c1, rfl, H1⟩ := StrsV_cons H
    have H2 := StrsV_snoc (H1.ord [1, 2, 0] rfl rfl rfl)
    exact StrsV_back (H2.pull 1 rfl)
  | [], v :: vs, F, H => (Sat.open_pr (p := False) H).1.elim
  | ks :: kss, [], F, H => (Sat.open_pr (p := False) H).1.elim

/-- The loop that takes a page's keys. -/
theorem pages_L0 {g : World} {F : List HP} {q : Option Addr} {p1 : Option Addr} {l1 c1 : Nat} {a ce : Nat} {es : List (Key × Int)} {R : Ending → World → Prop} (hl : es.length < 1000)
    (hK : ∀ p5 c5 w', Sat g w' (Sl 87 2 (some ⟨a, 0, none⟩) es.length ce (enc_int es) :: Strs p5 c5 (es.map (·.1)) :: F) →
      L.tree_page_int_pages_L0 q p1 l1 c1 p5 (es.map (·.1)).length c5 (some ⟨a, 0, none⟩) es.length ce (es.length : Int) (es.length : Int) w' R) :
    ∀ (n i : Nat) (p5 : Option Addr) (c5 : Nat) (w : World), es.length - i = n → i ≤ es.length → Sat g w (Sl 87 2 (some ⟨a, 0, none⟩) es.length ce (enc_int es) :: Strs p5 c5 ((es.take i).map (·.1)) :: F) →
      L.tree_page_int_pages_L0 q p1 l1 c1 p5 ((es.take i).map (·.1)).length c5 (some ⟨a, 0, none⟩) es.length ce (es.length : Int) (i : Int) w R := by
  intro n
  induction n with
  | zero =>
    intro i p5 c5 w hd hi H
    obtain rfl : i = es.length := by omega
    rw [List.take_length] at H ⊢
    exact hK p5 c5 w H
  | succ n ih =>
    intro i p5 c5 w hd hi H
    refine round.tree_page_int_pages_L0 ?_
    unfold B.tree_page_int_pages_L0
    refine br_t (decide_eq_true (by omega)) ?_
    obtain ⟨x, hx⟩ : ∃ x, es[i]? = some x := ⟨_, List.getElem?_eq_getElem (by omega)⟩
    have hg := row2_get (fun e : Key × Int => Value.string e.1) (fun e => ev_int e.2) es i
    rw [hx] at hg
    obtain ⟨a1, h1, cc1⟩ := H.Sl_cell hg.1
    obtain ⟨a2, h2, cc2⟩ := H.Sl_cell hg.2
    obtain rfl : a = a1 := by have := Option.some.inj h1; simpa using congrArg Addr.block this
    obtain rfl : a = a2 := by have := Option.some.inj h2; simpa using congrArg Addr.block this
    refine ⟨_, rfl, ⟨by omega, by omega⟩, ?_⟩
    rw [Int.toNat_natCast, addr_add]
    refine ⟨_, cc1, _, cc2, ?_⟩
    refine al H fun b w1 H1 => ?_
    refine st H1 (by simp) rfl fun w2 H2 => ?_
    refine st H2 (by simp) rfl fun w3 H3 => ?_
    refine ⟨_, H3.cell 0, ?_⟩
    refine append_one (H3.pull 2 rfl) (by simp; omega) fun p' c' w4 H4 => ?_
    have hw : IntKind.wrap .i64 (((i : Nat) : Int) + (1 : Int)) = ((i + 1 : Nat) : Int) := by rw [wrap_id (by omega) (by omega)]; omega
    rw [hw]
    have e : (es.take i).map (·.1) ++ [x.1] = (es.take (i + 1)).map (·.1) := by
      have h1 := List.getElem?_eq_some_iff.1 hx
      rw [List.take_succ_eq_append_getElem h1.1, h1.2]; simp
    rw [e] at H4 ⊢
    exact ih (i + 1) p' c' w4 (by omega) (by omega) ((H4.pull 1 rfl).drop.pull 1 rfl)

def PagesSpec (d : Nat) : Prop := ∀ {g w : World} {F : List HP} {t : BT Int d} {q lo c : Nat} {p : Option Addr} {vs : List Value} {kss : List (List Key)}, Sat g w (Page_int t q :: Sl 29 1 p vs.length c vs :: StrsV kss vs :: F) → Shape lo t →
    (∀ v ∈ vs, oneCell v = true) → kss.length + (pagesP t).length < 1000000 →
    Calls prog f_tree_page_int_pages #[.pointer (some ⟨q, 0, none⟩), .slice p vs.length c] w
      fun e w' => ∃ p' c' vs', e = .returned (.slice p' (vs' : List Value).length c') ∧ (∀ v ∈ vs', oneCell v = true) ∧ Sat g w' (Page_int t q :: Sl 29 1 p' vs'.length c' vs' :: StrsV (kss ++ pagesP t) vs' :: F)

theorem pages_step {d : Nat} (ih : ∀ d', d = d' + 1 → PagesSpec d') : PagesSpec d := by
  intro g w F t q lo c p vs kss H h hv hlen
  have h5 := h.lo.2
  obtain ⟨l0, hl0⟩ := pagesP_one t
  have hkv := StrsV_length (H.pull 2 rfl)
  obtain ⟨qs, H1⟩ := open_Page_int H
  have hq := Under_length_int (H1.pull 1 rfl)
  obtain ⟨pe, ce, pb, cb, H2⟩ := open_Nd_int H1
  refine ok.tree_page_int_pages ?_
  unfold V.tree_page_int_pages
  refine ⟨_, rfl, _, _, _, H2.cell 0, ?_⟩
  -- behind the keys
  have key : ∀ (p5 : Option Addr) (c5 : Nat) (w' : World), Sat g w' (Sl 87 2 pe (ents t).length ce (enc_int (ents t)) :: Strs p5 c5 ((ents t).map (·.1)) :: pt q (.cells #[.slice pe (ents t).length ce, .slice pb qs.length cb] 66 (0, 0)) ::
        Sl 60 1 pb qs.length cb (qs.map fun q => .pointer (some ⟨q, 0, none⟩)) :: Under_int t qs :: Sl 29 1 p vs.length c vs :: StrsV kss vs :: F) →
      L.tree_page_int_pages_L0 (some ⟨q, 0, none⟩) p vs.length c p5 ((ents t).map (·.1)).length c5 pe (ents t).length ce ((ents t).length : Int) ((ents t).length : Int) w'
        fun e w' => ∃ p' c' vs', e = .returned (.slice p' (vs' : List Value).length c') ∧ (∀ v ∈ vs', oneCell v = true) ∧ Sat g w' (Page_int t q :: Sl 29 1 p' vs'.length c' vs' :: StrsV (kss ++ pagesP t) vs' :: F) := by
    intro p5 c5 w1 H3
    refine round.tree_page_int_pages_L0 ?_
    unfold B.tree_page_int_pages_L0
    refine br_f (decide_eq_false (by omega)) ?_
    refine al H3 fun b w2 H4 => ?_
    have hsrc := Sat.src (P := prog) (o := 0) (all := [Value.slice p5 ((ents t).map (·.1)).length c5]) H4 1 1 1 (by simp) (by simp [oneCell])
    obtain ⟨p6, c6, w3, hrun, H5, _⟩ := run_append (rt := 47) elem_strs notInt_strs (H4.pull 6 rfl) hv hsrc (by rw [hl0, List.length_cons] at hlen; omega)
    refine run_of hrun ⟨_, _, _, rfl, _, rfl, ?_⟩
    have H6 : Sat g w3 (Sl 29 1 p6 (vs.length + 1) c6 (vs ++ [Value.slice p5 ((ents t).map (·.1)).length c5]) :: Sl 87 2 pe (ents t).length ce (enc_int (ents t)) :: Strs p5 c5 ((ents t).map (·.1)) :: pt q (.cells #[.slice pe (ents t).length ce, .slice pb qs.length cb] 66 (0, 0)) ::
        Sl 60 1 pb qs.length cb (qs.map fun q => .pointer (some ⟨q, 0, none⟩)) :: Under_int t qs :: StrsV kss vs :: F) := (H5.pull 1 rfl).drop
    clear hrun hsrc H5 H4 H3
    refine ⟨_, _, _, (H6.pull 3 rfl).cell 1, ?_⟩
    have H7 := StrsV_snoc (H6.ord [6, 2, 0, 1, 3, 4, 5] rfl rfl rfl)
    have hv6 : ∀ v ∈ vs ++ [Value.slice p5 ((ents t).map (·.1)).length c5], oneCell v = true := by
      intro v hvm
      rcases List.mem_append.1 hvm with hvm | hvm
      · exact hv v hvm
      · simp at hvm; subst hvm; rfl
    have e6 : vs.length + 1 = (vs ++ [Value.slice p5 ((ents t).map (·.1)).length c5]).length := by simp
    rw [e6] at H7 ⊢
    generalize vs ++ [Value.slice p5 ((ents t).map (·.1)).length c5] = vs6 at *
    cases d with
    | zero =>
      obtain rfl : qs = [] := List.length_eq_zero_iff.1 hq
      refine round.tree_page_int_pages_L1 ?_
      unfold B.tree_page_int_pages_L1
      refine br_f rfl ⟨_, _, vs6, rfl, hv6, ?_⟩
      have H8 := shut_Nd_int (es := ents t) (qs := []) (H7.ord [3, 2, 4, 0, 1, 5] rfl rfl rfl) rfl rfl rfl rfl
      exact shut_Page_int (H8.ord [0, 3, 2, 1] rfl rfl rfl)
    | succ d =>
      obtain ⟨es, ks⟩ := t
      have hl : ks.length = es.length + 1 := h.2.2.1
      have h5 : es.length ≤ 5 := h5
      have hk : ∀ c ∈ ks, Shape 2 c := h.2.2.2
      have hqs : ks.length = qs.length := hq.symm
      have hpg : pagesP (d := d + 1) ((es, ks) : Row Int d) = es.map (·.1) :: ks.flatMap pagesP := rfl
      rw [hpg] at hlen ⊢
      have hkl : kss.length + 1 + (ks.flatMap pagesP).length < 1000000 := by rw [List.length_cons] at hlen; omega
      -- the pages below
      have loop : ∀ (n i : Nat) (p7 : Option Addr) (c7 : Nat) (vs7 : List Value) (w7 : World), ks.length - i = n → i ≤ ks.length → (∀ v ∈ vs7, oneCell v = true) →
          Sat g w7 (Kids Page_int ks qs :: Sl 29 1 p7 vs7.length c7 vs7 :: StrsV (kss ++ (es.map (·.1) :: (ks.take i).flatMap pagesP)) vs7 :: Sl 87 2 pe es.length ce (enc_int es) :: pt q (.cells #[.slice pe es.length ce, .slice pb qs.length cb] 66 (0, 0)) ::
            Sl 60 1 pb qs.length cb (qs.map fun q => .pointer (some ⟨q, 0, none⟩)) :: F) →
          L.tree_page_int_pages_L1 p7 vs7.length c7 pb qs.length cb (qs.length : Int) (i : Int) w7 fun e w' => ∃ p' c' vs', e = .returned (.slice p' (vs' : List Value).length c') ∧ (∀ v ∈ vs', oneCell v = true) ∧
            Sat g w' (Page_int (d := d + 1) ((es, ks) : Row Int d) q :: Sl 29 1 p' vs'.length c' vs' :: StrsV (kss ++ (es.map (·.1) :: ks.flatMap pagesP)) vs' :: F) := by
        intro n
        induction n with
        | zero =>
          intro i p7 c7 vs7 w7 hd hi hv7 H8
          refine round.tree_page_int_pages_L1 ?_
          unfold B.tree_page_int_pages_L1
          refine br_f (decide_eq_false (by omega)) ⟨_, _, vs7, rfl, hv7, ?_⟩
          rw [List.take_of_length_le (by omega)] at H8
          have H9 := shut_Nd_int (es := es) (qs := qs) (H8.ord [4, 3, 5, 0, 1, 2] rfl rfl rfl) rfl rfl rfl rfl
          exact shut_Page_int (d := d + 1) (t := ((es, ks) : Row Int d)) H9
        | succ n ihn =>
          intro i p7 c7 vs7 w7 hd hi hv7 H8
          refine round.tree_page_int_pages_L1 ?_
          unfold B.tree_page_int_pages_L1
          refine br_t (decide_eq_true (by omega)) ?_
          obtain ⟨k, hki⟩ : ∃ k, ks[i]? = some k := ⟨_, List.getElem?_eq_getElem (by omega)⟩
          have hkm : k ∈ ks := List.mem_of_getElem? hki
          obtain ⟨q', hq', H9⟩ := Kids_one H8 hki
          have hcell := Sat.Sl_cell (H8.pull 5 rfl) (i := i) (v := .pointer (some ⟨q', 0, none⟩)) (by rw [List.getElem?_map, hq']; rfl)
          obtain ⟨a, rfl, hca⟩ := hcell
          refine ⟨_, rfl, ⟨by omega, by omega⟩, ?_⟩
          rw [Int.toNat_natCast, addr_add, Nat.mul_one]
          refine ⟨_, hca, ?_⟩
          have et : ks.take (i + 1) = ks.take i ++ [k] := by
            have h1 := List.getElem?_eq_some_iff.1 hki
            rw [List.take_succ_eq_append_getElem h1.1, h1.2]
          have ebound : (kss ++ (es.map (·.1) :: (ks.take i).flatMap pagesP)).length + (pagesP k).length < 1000000 := by
            have e1 : ks.flatMap pagesP = (ks.take i).flatMap pagesP ++ (pagesP k ++ (ks.drop (i + 1)).flatMap pagesP) := by
              conv => lhs; rw [list_at hki]
              simp
            rw [e1] at hkl
            simp only [List.length_append, List.length_cons] at hkl ⊢
            omega
          refine (ih d rfl (H9.ord [0, 3, 4, 1, 2, 5, 6, 7] rfl rfl rfl) (hk k hkm) hv7 ebound).mono ?_
          rintro e w8 ⟨p8, c8, vs8, rfl, hv8, H10⟩
          refine ⟨_, _, _, rfl, ?_⟩
          have hw : IntKind.wrap .i64 (((i : Nat) : Int) + (1 : Int)) = ((i + 1 : Nat) : Int) := by rw [wrap_id (by omega) (by omega)]; omega
          rw [hw]
          refine ihn (i + 1) p8 c8 vs8 w8 (by omega) (by omega) hv8 ?_
          have H11 := Kids_back (H10.ord [0, 3, 4, 1, 2] rfl rfl rfl)
          rw [← list_at hki, ← list_at hq'] at H11
          have e2 : kss ++ (es.map (·.1) :: (ks.take i).flatMap pagesP) ++ pagesP k = kss ++ (es.map (·.1) :: (ks.take (i + 1)).flatMap pagesP) := by
            rw [et]; simp
          rw [e2] at H11
          exact H11
      refine loop _ 0 p6 c6 vs6 w3 rfl (by omega) hv6 ?_
      have H8 : Sat g w3 (StrsV (kss ++ [es.map (·.1)]) vs6 :: Sl 29 1 p6 vs6.length c6 vs6 :: Sl 87 2 pe es.length ce (enc_int es) :: pt q (.cells #[.slice pe es.length ce, .slice pb qs.length cb] 66 (0, 0)) ::
        Sl 60 1 pb qs.length cb (qs.map fun q => .pointer (some ⟨q, 0, none⟩)) :: Kids Page_int ks qs :: F) := H7
      exact H8.ord [5, 1, 0, 2, 3, 4] rfl rfl rfl
  have H3 : Sat g w (Strs none 0 [] :: pt q (.cells #[.slice pe (ents t).length ce, .slice pb qs.length cb] 66 (0, 0)) :: Sl 87 2 pe (ents t).length ce (enc_int (ents t)) ::
        Sl 60 1 pb qs.length cb (qs.map fun q => .pointer (some ⟨q, 0, none⟩)) :: Under_int t qs :: Sl 29 1 p vs.length c vs :: StrsV kss vs :: F) := Strs_nil H2
  have H4 := H3.ord [2, 0, 1] rfl rfl rfl
  by_cases h0 : (ents t).length = 0
  · have hk0 := key none 0 w (by rw [List.length_eq_zero_iff.1 h0] at H4 ⊢; exact H4)
    rw [show ((ents t).map (·.1)).length = 0 by simp [h0]] at hk0
    rw [h0] at hk0 ⊢
    exact hk0
  · obtain ⟨a, rfl⟩ := entry_at_int (n := 0) (H4) (by omega)
    exact pages_L0 (by omega) (fun p5 c5 w' H' => key p5 c5 w' H') _ 0 none 0 w rfl (Nat.zero_le _) H4

theorem spec.tree_page_int_pages : ∀ {d : Nat}, PagesSpec d
  | 0 => pages_step fun _ h => by cases h
  | d + 1 => pages_step fun d' h => by cases h; exact spec.tree_page_int_pages

theorem spec.tree_Tree_int_Pages {g w : World} {F : List HP} {b : Nat} {T : Top Int} (H : Sat g w (Tree_int b T :: F)) (hT : Good T) (h0 : T.all ≠ []) (hs : (pagesP T.2).length < 1000000) :
    Calls prog f_tree_Tree_int_Pages #[.pointer (some ⟨b, 0, none⟩)] w
      fun e w' => ∃ p c vs, e = .returned (.slice p (vs : List Value).length c) ∧ Sat g w' (Sl 29 1 p vs.length c vs :: StrsV (pagesP T.2) vs :: Tree_int b T :: F) := by
  refine ok.tree_Tree_int_Pages ?_
  unfold V.tree_Tree_int_Pages
  refine (spec.tree_Tree_int_Len H).mono ?_
  rintro e w1 ⟨rfl, H1⟩
  refine ⟨_, rfl, br_f ?_ ?_⟩
  · cases hh : T.all with
    | nil => exact absurd hh h0
    | cons x l =>
      show ((((x :: l).length : Nat) : Int) == 0) = false
      rw [List.length_cons]
      simp only [beq_eq_false_iff_ne]
      omega
  · obtain ⟨q, H2⟩ := open_Tree_int H1
    refine ⟨_, rfl, _, H2.cell 0, ?_⟩
    have H3 : Sat g w1 (Page_int T.2 q :: Sl 29 1 none ([] : List Value).length 0 [] :: StrsV [] [] :: pt b (.cells #[.pointer (some ⟨q, 0, none⟩), .int .i64 (T.all.length : Int)] 68 (0, 0)) :: F) :=
      ((Sat.emp H2).nil_Sl 29 1).ord [3, 0, 1, 2] rfl rfl rfl
    refine (spec.tree_page_int_pages (vs := []) (kss := []) H3 hT.1 (by simp) (by simpa using hs)).mono ?_
    rintro e w2 ⟨p, c, vs, rfl, _, H4⟩
    refine ⟨_, _, _, rfl, p, c, vs, rfl, ?_⟩
    have H5 := shut_Tree_int (T := T) (q := q) (H4.ord [3, 0, 1, 2] rfl rfl rfl) rfl
    rw [List.nil_append] at H5
    exact H5.ord [1, 2, 0] rfl rfl rfl

end Go.Proofs.Ytohhoojcgcbmcaa
