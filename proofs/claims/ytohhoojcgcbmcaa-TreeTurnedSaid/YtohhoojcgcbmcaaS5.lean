import Derived.Test.YtohhoojcgcbmcaaS4
import Derived.Test.YtohhoojcgcbmcaaBTree7
set_option maxRecDepth 4000
set_option linter.unusedVariables false
set_option linter.unusedSimpArgs false
namespace Go.Proofs.Ytohhoojcgcbmcaa
open Go Go.Vc Go.Sl Go.Tr Go.Proofs
/-! #### trees of pages, of string -/
def Page_string : {d : Nat} → BT Key d → Nat → HP
  | 0, t, b => Nd_string b t []
  | _ + 1, t, b => exs fun qs : List Nat => stars [Nd_string b t.1 qs, Kids Page_string t.2 qs]

/-- The pages below a page. -/
def Under_string : {d : Nat} → BT Key d → List Nat → HP
  | 0, _, qs => pr (qs = [])
  | _ + 1, t, qs => Kids Page_string t.2 qs

theorem open_Page_string {g w : World} {F : List HP} {d : Nat} {t : BT Key d} {b : Nat} (H : Sat g w (Page_string t b :: F)) : ∃ qs, Sat g w (Nd_string b (ents t) qs :: Under_string t qs :: F) := by
  cases d with
  | zero =>
    refine ⟨[], ?_⟩
    exact (Sat.shut_pr (p := ([] : List Nat) = []) rfl (H : Sat g w (Nd_string b t [] :: F))).pull 1 rfl
  | succ d =>
    obtain ⟨qs, H⟩ := Sat.open_ex (α := List Nat) H
    exact ⟨qs, Sat.open_stars H⟩

theorem shut_Page_string {g w : World} {F : List HP} {d : Nat} {t : BT Key d} {b : Nat} {qs : List Nat} (H : Sat g w (Nd_string b (ents t) qs :: Under_string t qs :: F)) : Sat g w (Page_string t b :: F) := by
  cases d with
  | zero =>
    obtain ⟨rfl, H⟩ := Sat.open_pr (p := qs = []) (H.pull 1 rfl)
    exact H
  | succ d => exact Sat.shut_ex (α := List Nat) qs (Sat.shut_stars (M := [Nd_string b t.1 qs, Kids Page_string t.2 qs]) H)

theorem Under_length_string {g w : World} {F : List HP} {d : Nat} {t : BT Key d} {qs : List Nat} (H : Sat g w (Under_string t qs :: F)) : qs.length = below t := by
  cases d with
  | zero => obtain ⟨rfl, _⟩ := Sat.open_pr (p := qs = []) H; rfl
  | succ d => exact (Kids_length H).symm

/-- Two neighbours, apart from the others. -/
theorem Kids_two_string {g w : World} {F : List HP} {d : Nat} {ks : List (BT Key d)} {qs : List Nat} {n : Nat} {a b : BT Key d} (H : Sat g w (Kids Page_string ks qs :: F)) (ha : ks[n]? = some a) (hb : ks[n + 1]? = some b) :
    ∃ qa qb, qs[n]? = some qa ∧ qs[n + 1]? = some qb ∧ Sat g w (Page_string a qa :: Page_string b qb :: Kids Page_string (ks.take n) (qs.take n) :: Kids Page_string (ks.drop (n + 2)) (qs.drop (n + 2)) :: F) := by
  obtain ⟨qa, hqa, H1⟩ := Kids_one H ha
  have hb' : (ks.drop (n + 1))[0]? = some b := by simpa using hb
  obtain ⟨qb, hqb, H2⟩ := Kids_one (H1.pull 2 rfl) hb'
  refine ⟨qa, qb, hqa, by simpa using hqb, ?_⟩
  have H3 : Sat g w (Page_string b qb :: Kids Page_string ((ks.drop (n + 1)).drop (0 + 1)) ((qs.drop (n + 1)).drop (0 + 1)) :: Page_string a qa :: Kids Page_string (ks.take n) (qs.take n) :: F) := (H2.pull 1 rfl).drop
  rw [List.drop_drop, List.drop_drop] at H3
  exact H3.ord [2, 0, 3, 1] rfl rfl rfl

theorem Kids_two_back_string {g w : World} {F : List HP} {d : Nat} {k1 k2 : List (BT Key d)} {q1 q2 : List Nat} {a b : BT Key d} {qa qb : Nat} (H : Sat g w (Page_string a qa :: Page_string b qb :: Kids Page_string k1 q1 :: Kids Page_string k2 q2 :: F)) :
    Sat g w (Kids Page_string (k1 ++ a :: b :: k2) (q1 ++ qa :: qb :: q2) :: F) := by
  have H1 := Kids_cons.2 (H.ord [1, 3, 0, 2] rfl rfl rfl)
  exact Kids_back (H1.ord [1, 2, 0] rfl rfl rfl)

/-- How the pages below go with a page's last one. -/
theorem Under_last_string {g w : World} {F : List HP} {d : Nat} {a b : BT Key d} {x : Key × Key} {ka kb : List Nat} (H : Sat g w (Under_string a ka :: Under_string b kb :: F)) :
    Sat g w (Under_string (popLast a) ka.dropLast :: Under_string (pushFirst a x b) (ka.getLast?.toList ++ kb) :: F) := by
  cases d with
  | zero =>
    obtain ⟨h1, H1⟩ := Sat.open_pr (p := ka = []) H
    obtain ⟨h2, H2⟩ := Sat.open_pr (p := kb = []) H1
    clear H H1
    subst h1 h2
    have H := H2
    exact Sat.shut_pr (p := ([] : List Nat).dropLast = []) rfl (Sat.shut_pr (p := ([] : List Nat).getLast?.toList ++ [] = []) rfl H)
  | succ d =>
    have hl := Kids_length H
    have e1 : ∀ {α : Type} (l : List α), l = l.dropLast ++ l.getLast?.toList := by
      intro α l
      rcases List.eq_nil_or_concat l with rfl | ⟨k0, z, rfl⟩ <;> simp
    show Sat g w (Kids Page_string a.2.dropLast ka.dropLast :: Kids Page_string (a.2.getLast?.toList ++ b.2) (ka.getLast?.toList ++ kb) :: F)
    have H1 : Sat g w (Kids Page_string a.2 ka :: Kids Page_string b.2 kb :: F) := H
    rw [e1 a.2, e1 ka] at H1
    have H2 := (Kids_append (by simp [hl])).1 H1
    refine (Kids_append (F := Kids Page_string a.2.dropLast ka.dropLast :: F) ?_).2 (H2.ord [1, 2, 0] rfl rfl rfl) |>.pull 1 rfl
    rcases List.eq_nil_or_concat ka with rfl | ⟨k0, z, rfl⟩
    · have : a.2 = [] := List.eq_nil_of_length_eq_zero (by rw [hl]; rfl)
      rw [this]; rfl
    · rcases List.eq_nil_or_concat a.2 with h | ⟨k1, z1, h⟩
      · rw [h] at hl; simp at hl
      · rw [h]; simp

theorem Under_first_string {g w : World} {F : List HP} {d : Nat} {a b : BT Key d} {x : Key × Key} {ka kb : List Nat} (H : Sat g w (Under_string a ka :: Under_string b kb :: F)) :
    Sat g w (Under_string (pushLast a x b) (ka ++ kb.head?.toList) :: Under_string (popFirst b) kb.tail :: F) := by
  cases d with
  | zero =>
    obtain ⟨h1, H1⟩ := Sat.open_pr (p := ka = []) H
    obtain ⟨h2, H2⟩ := Sat.open_pr (p := kb = []) H1
    clear H H1
    subst h1 h2
    have H := H2
    exact Sat.shut_pr (p := ([] : List Nat) ++ ([] : List Nat).head?.toList = []) rfl (Sat.shut_pr (p := ([] : List Nat).tail = []) rfl H)
  | succ d =>
    have hl := Kids_length H
    have hl2 := Kids_length (H.pull 1 rfl)
    show Sat g w (Kids Page_string (a.2 ++ b.2.head?.toList) (ka ++ kb.head?.toList) :: Kids Page_string b.2.tail kb.tail :: F)
    have H1 : Sat g w (Kids Page_string a.2 ka :: Kids Page_string b.2 kb :: F) := H
    have e1 : ∀ {α : Type} (l : List α), l = l.head?.toList ++ l.tail := by
      intro α l
      cases l <;> simp
    rw [e1 b.2, e1 kb] at H1
    have H2 := (Kids_append (F := Kids Page_string a.2 ka :: F) (by
      cases kb with
      | nil => have : b.2 = [] := List.eq_nil_of_length_eq_zero (by rw [hl2]; rfl); rw [this]; rfl
      | cons z kb => cases h : b.2 with
        | nil => rw [h] at hl2; simp at hl2
        | cons y yb => rfl)).1 (H1.pull 1 rfl)
    exact (Kids_append hl).2 (H2.ord [2, 0, 1] rfl rfl rfl)

theorem Under_glue_string {g w : World} {F : List HP} {d : Nat} {a b : BT Key d} {x : Key × Key} {ka kb : List Nat} (H : Sat g w (Under_string a ka :: Under_string b kb :: F)) : Sat g w (Under_string (glue a x b) (ka ++ kb) :: F) := by
  cases d with
  | zero =>
    obtain ⟨h1, H1⟩ := Sat.open_pr (p := ka = []) H
    obtain ⟨h2, H2⟩ := Sat.open_pr (p := kb = []) H1
    clear H H1
    subst h1 h2
    have H := H2
    exact Sat.shut_pr (p := ([] : List Nat) ++ [] = []) rfl H
  | succ d => exact (Kids_append (Kids_length H)).2 H

theorem spec.right_string {g w : World} {F : List HP} {d : Nat} {t : Row Key d} {b : Nat} {qs : List Nat} {i : Int} {n : Nat} (H : Sat g w (Nd_string b t.1 qs :: Kids Page_string t.2 qs :: F)) (ht : Row.Ok t) (hin : i = n) (hn : n + 1 < t.2.length) (hf : 0 < fill t.2 n) :
    Calls prog f_tree_page_string_right #[.pointer (some ⟨b, 0, none⟩), .int .i64 i] w
      fun e w' => e = .returned (.tuple #[]) ∧ ∃ qs', Sat g w' (Nd_string b (rightP t n).1 qs' :: Kids Page_string (rightP t n).2 qs' :: F) := by
  obtain ⟨a, ha⟩ : ∃ a, t.2[n]? = some a := ⟨_, List.getElem?_eq_getElem (by omega)⟩
  obtain ⟨c, hc⟩ : ∃ c, t.2[n + 1]? = some c := ⟨_, List.getElem?_eq_getElem hn⟩
  obtain ⟨x, hx⟩ : ∃ x, t.1[n]? = some x := ⟨_, List.getElem?_eq_getElem (by have := ht.len; omega)⟩
  have hfa : 0 < (ents a).length := by unfold fill at hf; rw [ha] at hf; exact hf
  obtain ⟨m, hm⟩ : ∃ m, (ents a).length = m + 1 := ⟨(ents a).length - 1, by omega⟩
  obtain ⟨y, hy⟩ : ∃ y, (ents a)[m]? = some y := ⟨_, List.getElem?_eq_getElem (by omega)⟩
  have hlast : (ents a).getLast? = some y := by rw [List.getLast?_eq_getElem?, hm]; exact hy
  have hqs := Kids_length (H.pull 1 rfl)
  obtain ⟨qa, qb, hqa, hqb, H1⟩ := Kids_two_string (H.pull 1 rfl) ha hc
  obtain ⟨ka, H2⟩ := open_Page_string H1
  obtain ⟨kb, H3⟩ := open_Page_string (H2.pull 2 rfl)
  have hka := Under_length_string (H3.pull 3 rfl)
  have hkb := Under_length_string (H3.pull 1 rfl)
  have ka1 := ht.kids a (List.mem_of_getElem? ha)
  have kc1 := ht.kids c (List.mem_of_getElem? hc)
  have hs := ht.small
  have hl := ht.len
  have H4 : Sat g w (Nd_string b t.1 qs :: Nd_string qa (ents a) ka :: Nd_string qb (ents c) kb :: Under_string a ka :: Under_string c kb :: Kids Page_string (t.2.take n) (qs.take n) :: Kids Page_string (t.2.drop (n + 2)) (qs.drop (n + 2)) :: F) :=
    H3.ord [6, 2, 0, 3, 1, 4, 5] rfl rfl rfl
  refine (spec.tree_page_string_right (n := n) (m := m) H4 hin hqa hqb hx hm hy (by omega) (by omega) (by omega) (by omega) (by omega) (by omega)).mono ?_
  rintro e w' ⟨rfl, H5⟩
  refine ⟨rfl, qs, ?_⟩
  have e1 : rightP t n = (t.1.set n y, t.2.take n ++ popLast a :: pushFirst a x c :: t.2.drop (n + 2)) := by unfold rightP; simp only [ha, hc, hx, hlast]
  rw [e1]
  have H6 := Under_last_string (x := x) (H5.ord [3, 4, 0, 1, 2, 5, 6] rfl rfl rfl)
  have e2 : (ents a).take m = ents (popLast a) := by rw [ents_popLast, List.dropLast_eq_take, hm]; rfl
  rw [e2, ← ents_pushFirst a x c] at H6
  have H7 := shut_Page_string (H6.ord [3, 0, 1, 2, 4, 5, 6] rfl rfl rfl)
  have H8 := shut_Page_string (H7.ord [3, 1, 0, 2, 4, 5] rfl rfl rfl)
  have H9 := Kids_two_back_string (H8.ord [1, 0, 3, 4, 2] rfl rfl rfl)
  rw [list_two hqa hqb] at H9
  exact H9.pull 1 rfl

theorem spec.left_string {g w : World} {F : List HP} {d : Nat} {t : Row Key d} {b : Nat} {qs : List Nat} {i : Int} {n : Nat} (H : Sat g w (Nd_string b t.1 qs :: Kids Page_string t.2 qs :: F)) (ht : Row.Ok t) (hin : i = n) (hn : n + 1 < t.2.length) (hf : 0 < fill t.2 (n + 1)) :
    Calls prog f_tree_page_string_left #[.pointer (some ⟨b, 0, none⟩), .int .i64 i] w
      fun e w' => e = .returned (.tuple #[]) ∧ ∃ qs', Sat g w' (Nd_string b (leftP t n).1 qs' :: Kids Page_string (leftP t n).2 qs' :: F) := by
  obtain ⟨a, ha⟩ : ∃ a, t.2[n]? = some a := ⟨_, List.getElem?_eq_getElem (by omega)⟩
  obtain ⟨c, hc⟩ : ∃ c, t.2[n + 1]? = some c := ⟨_, List.getElem?_eq_getElem hn⟩
  obtain ⟨x, hx⟩ : ∃ x, t.1[n]? = some x := ⟨_, List.getElem?_eq_getElem (by have := ht.len; omega)⟩
  have hfc : 0 < (ents c).length := by unfold fill at hf; rw [hc] at hf; exact hf
  obtain ⟨y, ec, hy⟩ : ∃ y ec, ents c = y :: ec := by
    cases h : ents c with
    | nil => rw [h] at hfc; simp at hfc
    | cons y ec => exact ⟨y, ec, rfl⟩
  have hqs := Kids_length (H.pull 1 rfl)
  obtain ⟨qa, qb, hqa, hqb, H1⟩ := Kids_two_string (H.pull 1 rfl) ha hc
  obtain ⟨ka, H2⟩ := open_Page_string H1
  obtain ⟨kb, H3⟩ := open_Page_string (H2.pull 2 rfl)
  have hka := Under_length_string (H3.pull 3 rfl)
  have hkb := Under_length_string (H3.pull 1 rfl)
  have ka1 := ht.kids a (List.mem_of_getElem? ha)
  have kc1 := ht.kids c (List.mem_of_getElem? hc)
  have hs := ht.small
  have hl := ht.len
  rw [hy] at H3 kc1
  simp only [List.length_cons] at kc1
  have H4 : Sat g w (Nd_string b t.1 qs :: Nd_string qa (ents a) ka :: Nd_string qb (y :: ec) kb :: Under_string a ka :: Under_string c kb :: Kids Page_string (t.2.take n) (qs.take n) :: Kids Page_string (t.2.drop (n + 2)) (qs.drop (n + 2)) :: F) :=
    H3.ord [6, 2, 0, 3, 1, 4, 5] rfl rfl rfl
  refine (spec.tree_page_string_left (n := n) H4 hin hqa hqb hx (by omega) (by omega) (by omega) (by omega) (by omega) (by omega)).mono ?_
  rintro e w' ⟨rfl, H5⟩
  refine ⟨rfl, qs, ?_⟩
  have e1 : leftP t n = (t.1.set n y, t.2.take n ++ pushLast a x c :: popFirst c :: t.2.drop (n + 2)) := by unfold leftP; simp only [ha, hc, hx, hy, List.head?_cons]
  rw [e1]
  have H6 := Under_first_string (x := x) (H5.ord [3, 4, 0, 1, 2, 5, 6] rfl rfl rfl)
  have e2 : ec = ents (popFirst c) := by rw [ents_popFirst, hy]; rfl
  rw [e2, ← ents_pushLast a x c] at H6
  have H7 := shut_Page_string (H6.ord [3, 0, 1, 2, 4, 5, 6] rfl rfl rfl)
  have H8 := shut_Page_string (H7.ord [3, 1, 0, 2, 4, 5] rfl rfl rfl)
  have H9 := Kids_two_back_string (H8.ord [1, 0, 3, 4, 2] rfl rfl rfl)
  rw [list_two hqa hqb] at H9
  exact H9.pull 1 rfl

theorem spec.join_string {g w : World} {F : List HP} {d : Nat} {t : Row Key d} {b : Nat} {qs : List Nat} {i : Int} {n : Nat} (H : Sat g w (Nd_string b t.1 qs :: Kids Page_string t.2 qs :: F)) (ht : Row.Ok t) (hin : i = n) (hn : n + 1 < t.2.length) :
    Calls prog f_tree_page_string_join #[.pointer (some ⟨b, 0, none⟩), .int .i64 i] w
      fun e w' => e = .returned (.tuple #[]) ∧ ∃ qs', Sat g w' (Nd_string b (joinP t n).1 qs' :: Kids Page_string (joinP t n).2 qs' :: F) := by
  obtain ⟨a, ha⟩ : ∃ a, t.2[n]? = some a := ⟨_, List.getElem?_eq_getElem (by omega)⟩
  obtain ⟨c, hc⟩ : ∃ c, t.2[n + 1]? = some c := ⟨_, List.getElem?_eq_getElem hn⟩
  obtain ⟨x, hx⟩ : ∃ x, t.1[n]? = some x := ⟨_, List.getElem?_eq_getElem (by have := ht.len; omega)⟩
  have hqs := Kids_length (H.pull 1 rfl)
  obtain ⟨qa, qb, hqa, hqb, H1⟩ := Kids_two_string (H.pull 1 rfl) ha hc
  obtain ⟨ka, H2⟩ := open_Page_string H1
  obtain ⟨kb, H3⟩ := open_Page_string (H2.pull 2 rfl)
  have hka := Under_length_string (H3.pull 3 rfl)
  have hkb := Under_length_string (H3.pull 1 rfl)
  have ka1 := ht.kids a (List.mem_of_getElem? ha)
  have kc1 := ht.kids c (List.mem_of_getElem? hc)
  have hs := ht.small
  have hl := ht.len
  have H4 : Sat g w (Nd_string b t.1 qs :: Nd_string qa (ents a) ka :: Nd_string qb (ents c) kb :: Under_string a ka :: Under_string c kb :: Kids Page_string (t.2.take n) (qs.take n) :: Kids Page_string (t.2.drop (n + 2)) (qs.drop (n + 2)) :: F) :=
    H3.ord [6, 2, 0, 3, 1, 4, 5] rfl rfl rfl
  refine (spec.tree_page_string_join (n := n) H4 hin hqa hqb hx (by omega) (by omega) (by omega) (by omega) (by omega) (by omega)).mono ?_
  rintro e w' ⟨rfl, H5⟩
  refine ⟨rfl, qs.take (n + 1) ++ qs.drop (n + 2), ?_⟩
  have e1 : joinP t n = (t.1.take n ++ t.1.drop (n + 1), t.2.take n ++ glue a x c :: t.2.drop (n + 2)) := by unfold joinP; simp only [ha, hc, hx]
  rw [e1]
  have H6 := Under_glue_string (x := x) (H5.ord [2, 3, 0, 1, 4, 5] rfl rfl rfl)
  rw [← ents_glue a x c] at H6
  have H7 := shut_Page_string (H6.ord [2, 0, 1, 3, 4] rfl rfl rfl)
  have H8 := Kids_back (H7.ord [0, 2, 3, 1] rfl rfl rfl)
  have e2 : qs.take n ++ qa :: qs.drop (n + 2) = qs.take (n + 1) ++ qs.drop (n + 2) := by
    have := (List.getElem?_eq_some_iff.1 hqa)
    rw [List.take_succ_eq_append_getElem this.1, this.2]
    simp
  rw [e2] at H8
  exact H8.pull 1 rfl

end Go.Proofs.Ytohhoojcgcbmcaa
