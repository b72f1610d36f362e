import Derived.Test.YtohhoojcgcbmcaaS3
set_option maxRecDepth 4000
set_option linter.unusedVariables false
set_option linter.unusedSimpArgs false
namespace Go.Proofs.Ytohhoojcgcbmcaa
open Go Go.Vc Go.Sl Go.Tr Go.Proofs
/-! #### moving entries between pages, of string -/
theorem st_entry_string {g w : World} {F : List HP} {a ce n : Nat} {es : List (Key × Key)} {s : Key} {v : Key} {K : World → Prop} (H : Sat g w (Sl 94 2 (some ⟨a, 0, none⟩) es.length ce (enc_string es) :: F)) (hn : n < es.length)
    (h : ∀ w', Sat g w' (Sl 94 2 (some ⟨a, 0, none⟩) es.length ce (enc_string (es.set n (s, v))) :: F) → K w') :
    St w ⟨a, n * 2, none⟩ (.string s) fun w1 => St w1 ⟨a, n * 2 + 1, none⟩ (.string v) fun w2 => K w2 := by
  have hlen : (enc_string es).length = es.length * 2 := row2_length _ _ es
  refine H.Sl_st (by omega) rfl fun w1 H1 => ?_
  refine H1.Sl_st (by rw [List.length_set]; omega) rfl fun w2 H2 => h w2 ?_
  have e : enc_string (es.set n (s, v)) = ((enc_string es).set (n * 2) (.string s)).set (n * 2 + 1) (.string v) := row2_set _ _ es n (s, v)
  rw [e]
  exact H2

/-- The place of the entries, where there is one. -/
theorem entry_at_string {g w : World} {F : List HP} {pe : Option Addr} {ce n : Nat} {es : List (Key × Key)} (H : Sat g w (Sl 94 2 pe es.length ce (enc_string es) :: F)) (hn : n < es.length) : ∃ a : Nat, pe = some ⟨a, 0, none⟩ := by
  rcases H.open_Sl with ⟨_, h0, _⟩ | ⟨a, _, rfl, _⟩
  · omega
  · exact ⟨a, rfl⟩

theorem kid_at_string {g w : World} {F : List HP} {pb : Option Addr} {cb n : Nat} {qs : List Nat} (H : Sat g w (Sl 69 1 pb qs.length cb (qs.map fun q => .pointer (some ⟨q, 0, none⟩)) :: F)) (hn : n < qs.length) : ∃ a : Nat, pb = some ⟨a, 0, none⟩ := by
  rcases H.open_Sl with ⟨_, h0, _⟩ | ⟨a, _, rfl, _⟩
  · omega
  · exact ⟨a, rfl⟩

theorem spec.tree_page_string_right {g w : World} {F : List HP} {b qa qb : Nat} {es ea eb : List (Key × Key)} {qs ka kb : List Nat} {i : Int} {n m : Nat} {x y : Key × Key}
    (H : Sat g w (Nd_string b es qs :: Nd_string qa ea ka :: Nd_string qb eb kb :: F)) (hin : i = n) (hqa : qs[n]? = some qa) (hqb : qs[n + 1]? = some qb) (hx : es[n]? = some x) (hm : ea.length = m + 1) (hy : ea[m]? = some y)
    (hl : es.length < 1000000) (hqs : qs.length < 1000000) (hal : ea.length < 1000000) (hbl : eb.length < 1000000) (hkal : ka.length < 1000000) (hkbl : kb.length < 1000000) :
    Calls prog f_tree_page_string_right #[.pointer (some ⟨b, 0, none⟩), .int .i64 i] w
      fun e w' => e = .returned (.tuple #[]) ∧ Sat g w' (Nd_string b (es.set n y) qs :: Nd_string qa (ea.take m) ka.dropLast :: Nd_string qb (x :: eb) (ka.getLast?.toList ++ kb) :: F) := by
  subst hin
  have hn : n < es.length := (List.getElem?_eq_some_iff.1 hx).1
  have hnq : n + 1 < qs.length := (List.getElem?_eq_some_iff.1 hqb).1
  have hw1 : IntKind.wrap .i64 ((n : Int) + (1 : Int)) = ((n + 1 : Nat) : Int) := by rw [wrap_id (by omega) (by omega)]; omega
  refine ok.tree_page_string_right ?_
  unfold V.tree_page_string_right
  rw [hw1]
  refine dr H fun w1 H1 => ?_
  obtain ⟨pe, ce, pb, cb, f0, f1, fe, fk⟩ := facts_string H1
  obtain ⟨a, rfl, hk1⟩ := fk n qa hqa
  obtain ⟨a', ha, hk2⟩ := fk (n + 1) qb hqb
  obtain rfl : a = a' := by have := Option.some.inj ha; simpa using congrArg Addr.block this
  refine ⟨_, rfl, _, rfl, _, _, _, f1, _, rfl, ⟨by omega, by omega⟩, ?_⟩
  rw [Int.toNat_natCast, Int.toNat_natCast, addr_add]
  refine ⟨_, hk1, _, _, _, f1, _, rfl, ⟨by omega, by omega⟩, _, (by rw [addr_add]; exact hk2), ?_⟩
  refine dr H1 fun w2 H2 => ?_
  obtain ⟨pe2, ce2, pb2, cb2, g0, g1, ge, gk⟩ := facts_string H2
  obtain ⟨a2, rfl, hx1, hx2⟩ := ge n x hx
  refine ⟨_, rfl, _, rfl, _, _, _, g0, _, rfl, ⟨by omega, by omega⟩, ?_⟩
  rw [addr_add]
  refine ⟨_, hx1, _, hx2, ?_⟩
  refine (spec.tree_shelf_string_insert (n := 0) (H2.pull 2 rfl) rfl (by omega) (by omega)).mono ?_
  rintro e w3 ⟨rfl, H3⟩
  rw [List.take_zero, List.drop_zero, List.nil_append] at H3
  refine ⟨rfl, ?_⟩
  have hwm : IntKind.wrap .i64 ((ea.length : Int) - (1 : Int)) = ((m : Nat) : Int) := by rw [wrap_id (by omega) (by omega)]; omega
  have hdrop : ea.take m ++ ea.drop (m + 1) = ea.take m := by rw [List.drop_of_length_le (by omega), List.append_nil]
  refine jnw (fun w => Sat g w (Nd_string b (es.set n y) qs :: Nd_string qa (ea.take m) ka :: Nd_string qb (x :: eb) kb :: F)) (fun J hJ => ?_) fun w4 H4 => ?_
  · refine dr H3 fun w4 H4 => ?_
    obtain ⟨pea, cea, pba, cba, h0, _, _, _⟩ := facts_string (H4.pull 2 rfl)
    refine ⟨_, rfl, _, rfl, _, rfl, _, _, _, h0, ?_⟩
    rw [hwm]
    -- the parent lies open across the call
    obtain ⟨pe5, ce5, pb5, cb5, H5⟩ := open_Nd_string (H4.pull 1 rfl)
    obtain ⟨a5, rfl⟩ := entry_at_string (H5.pull 1 rfl) hn
    have fin : ∀ {w5 : World}, Sat g w5 (Nd_string qa (ea.take m ++ ea.drop (m + 1)) ka :: pt b (.cells #[.slice (some ⟨a5, 0, none⟩) es.length ce5, .slice pb5 qs.length cb5] 75 (0, 0)) :: Sl 94 2 (some ⟨a5, 0, none⟩) es.length ce5 (enc_string es) ::
        Sl 69 1 pb5 qs.length cb5 (qs.map fun q => .pointer (some ⟨q, 0, none⟩)) :: Nd_string qb (x :: eb) kb :: F) →
        St w5 ⟨a5, n * 2, none⟩ (.string y.1) fun w6 => St w6 ⟨a5, n * 2 + 1, none⟩ (.string y.2) fun w7 => J w7 := by
      intro w5 H6
      refine st_entry_string (H6.pull 2 rfl) hn fun w6 H7 => hJ _ ?_
      rw [hdrop] at H7
      exact (shut_Nd_string (es := es.set n y) (qs := qs) (H7.ord [2, 0, 3, 1, 4] rfl rfl rfl) (by simp) rfl rfl rfl)
    constructor
    · refine ⟨_, _, _, H5.cell 0, ?_⟩
      refine (spec.tree_shelf_string_remove (n := m) (H5.pull 4 rfl) rfl hy (by omega)).mono ?_
      rintro e w5 ⟨rfl, H6⟩
      refine ⟨_, _, rfl, _, rfl, ⟨by omega, by omega⟩, ?_⟩
      rw [addr_add]
      exact fin H6
    · refine (spec.tree_shelf_string_remove (n := m) (H5.pull 4 rfl) rfl hy (by omega)).mono ?_
      rintro e w5 ⟨rfl, H6⟩
      refine ⟨_, _, rfl, _, _, _, (H6.pull 1 rfl).cell 0, _, rfl, ⟨by omega, by omega⟩, ?_⟩
      rw [addr_add]
      exact fin H6
  · refine (spec.tree_page_string_leaf (H4.pull 1 rfl)).mono ?_
    rintro e w5 ⟨rfl, rfl, H5⟩
    refine ⟨_, rfl, ?_⟩
    rcases List.eq_nil_or_concat ka with rfl | ⟨k0, z, rfl⟩
    · refine br_f rfl ⟨rfl, ?_⟩
      exact H5.ord [1, 0, 2] rfl rfl rfl
    · rw [List.concat_eq_append] at *
      have hne : (k0 ++ [z]).isEmpty = false := by cases k0 <;> rfl
      rw [hne]
      refine br_t rfl ?_
      obtain ⟨pea, cea, pba, cba, h0, h1, he, hk⟩ := facts_string H5
      have hlen : (k0 ++ [z]).length = k0.length + 1 := by simp
      refine ⟨_, rfl, _, _, _, h1, ?_⟩
      refine lt' (y := ((k0.length : Nat) : Int)) (by rw [hlen, wrap_id (by omega) (by omega)]; omega) ?_
      refine dr H5 fun w6 H6 => ?_
      obtain ⟨pe6, ce6, pb6, cb6, k0', k1, ke, kk⟩ := facts_string H6
      obtain ⟨pe7, ce7, pb7, cb7, H7⟩ := open_Nd_string (H6.pull 2 rfl)
      obtain ⟨a6, rfl, hz⟩ := kk k0.length z (by simp)
      refine ⟨_, rfl, _, rfl, _, _, _, H7.cell 1, _, _, _, k1, _, rfl, ⟨by omega, by omega⟩, ?_⟩
      rw [Int.toNat_natCast, addr_add]
      refine ⟨_, hz, ?_⟩
      refine al H7 fun b2 w7 H8 => ?_
      have H9 : Sat g w7 (Sl 69 1 pb7 kb.length cb7 (kb.map fun q => .pointer (some ⟨q, 0, none⟩)) :: pt b2 (.cells [Value.pointer (some ⟨z, 0, none⟩)].toArray 69 (0, 0)) ::
          pt qb (.cells #[.slice pe7 (x :: eb).length ce7, .slice pb7 kb.length cb7] 75 (0, 0)) :: Sl 94 2 pe7 (x :: eb).length ce7 (enc_string (x :: eb)) :: Nd_string qa (ea.take m) (k0 ++ [z]) :: Nd_string b (es.set n y) qs :: F) :=
        H8.ord [3, 0, 1, 2, 4, 5] rfl rfl rfl
      refine (spec.slices_Insert_ptr_tree_page_string (k := 0) H9 rfl (by simp [oneCell]) (ptrs_one_string kb) rfl (by omega) (by omega)).mono ?_
      rintro e w8 ⟨p4, c4, rfl, H10⟩
      refine ⟨_, _, _, rfl, _, rfl, ?_⟩
      refine st (H10.pull 1 rfl) (by simp) rfl fun w9 H11 => ?_
      have H12 : Sat g w9 (Nd_string qb (x :: eb) (z :: kb) :: Nd_string qa (ea.take m) (k0 ++ [z]) :: Nd_string b (es.set n y) qs :: F) :=
        shut_Nd_string (H11.ord [0, 2, 1] rfl rfl rfl) rfl (by simp) rfl (by simp)
      obtain ⟨pe8, ce8, pb8, cb8, H13⟩ := open_Nd_string (H12.pull 1 rfl)
      refine ⟨_, rfl, _, _, _, H13.cell 1, ?_⟩
      have hcb : (k0 ++ [z]).length ≤ cb8 := (H13.pull 2 rfl).Sl_le
      refine slb trivial ⟨by omega, by simp only [bnd]; omega⟩ trivial fun _ _ _ e1 e2 e3 => ?_
      simp only [bnd, Int.toNat_natCast] at e1 e2 e3
      subst e1 e2 e3
      rw [slAt_zero', Nat.sub_zero, Nat.sub_zero]
      refine ⟨_, rfl, ?_⟩
      refine st H13 (by simp) rfl fun w10 H14 => ⟨rfl, ?_⟩
      have H15 := (H14.pull 2 rfl).Sl_fewer (i := k0.length) (by omega)
      have H16 : Sat g w10 (Nd_string qa (ea.take m) k0 :: Nd_string qb (x :: eb) (z :: kb) :: Nd_string b (es.set n y) qs :: F) :=
        shut_Nd_string (es := ea.take m) (qs := k0) (H15.ord [1, 2, 0] rfl rfl rfl) rfl rfl rfl (by simp)
      have e1 : (k0 ++ [z]).dropLast = k0 := by simp
      have e2 : (k0 ++ [z]).getLast?.toList ++ kb = z :: kb := by simp
      rw [e1, e2]
      exact H16.ord [2, 0, 1] rfl rfl rfl

theorem spec.tree_page_string_left {g w : World} {F : List HP} {b qa qb : Nat} {es ea eb : List (Key × Key)} {qs ka kb : List Nat} {i : Int} {n : Nat} {x y : Key × Key}
    (H : Sat g w (Nd_string b es qs :: Nd_string qa ea ka :: Nd_string qb (y :: eb) kb :: F)) (hin : i = n) (hqa : qs[n]? = some qa) (hqb : qs[n + 1]? = some qb) (hx : es[n]? = some x)
    (hl : es.length < 1000000) (hqs : qs.length < 1000000) (hal : ea.length < 1000000) (hbl : eb.length < 1000000) (hkal : ka.length < 1000000) (hkbl : kb.length < 1000000) :
    Calls prog f_tree_page_string_left #[.pointer (some ⟨b, 0, none⟩), .int .i64 i] w
      fun e w' => e = .returned (.tuple #[]) ∧ Sat g w' (Nd_string b (es.set n y) qs :: Nd_string qa (ea ++ [x]) (ka ++ kb.head?.toList) :: Nd_string qb eb kb.tail :: F) := by
  subst hin
  have hn : n < es.length := (List.getElem?_eq_some_iff.1 hx).1
  have hnq : n + 1 < qs.length := (List.getElem?_eq_some_iff.1 hqb).1
  have hw1 : IntKind.wrap .i64 ((n : Int) + (1 : Int)) = ((n + 1 : Nat) : Int) := by rw [wrap_id (by omega) (by omega)]; omega
  refine ok.tree_page_string_left ?_
  unfold V.tree_page_string_left
  rw [hw1]
  refine dr H fun w1 H1 => ?_
  obtain ⟨pe, ce, pb, cb, f0, f1, fe, fk⟩ := facts_string H1
  obtain ⟨a, rfl, hk1⟩ := fk n qa hqa
  obtain ⟨a', ha, hk2⟩ := fk (n + 1) qb hqb
  obtain rfl : a = a' := by have := Option.some.inj ha; simpa using congrArg Addr.block this
  refine ⟨_, rfl, _, rfl, _, _, _, f1, _, rfl, ⟨by omega, by omega⟩, ?_⟩
  rw [Int.toNat_natCast, Int.toNat_natCast, addr_add]
  refine ⟨_, hk1, _, _, _, f1, _, rfl, ⟨by omega, by omega⟩, _, (by rw [addr_add]; exact hk2), ?_⟩
  refine dr H1 fun w2 H2 => ?_
  obtain ⟨pe2, ce2, pb2, cb2, g0, g1, ge, gk⟩ := facts_string H2
  obtain ⟨a2, rfl, hx1, hx2⟩ := ge n x hx
  obtain ⟨pea, cea, pba, cba, h0, _, _, _⟩ := facts_string (H2.pull 1 rfl)
  refine ⟨_, rfl, _, rfl, _, rfl, _, _, _, h0, _, _, _, g0, _, rfl, ⟨by omega, by omega⟩, ?_⟩
  rw [addr_add]
  refine ⟨_, hx1, _, hx2, ?_⟩
  refine (spec.tree_shelf_string_insert (n := ea.length) (H2.pull 1 rfl) rfl (Nat.le_refl _) (by omega)).mono ?_
  rintro e w3 ⟨rfl, H3⟩
  rw [List.take_length, List.drop_length] at H3
  refine ⟨rfl, ?_⟩
  refine jnw (fun w => Sat g w (Nd_string b (es.set n y) qs :: Nd_string qa (ea ++ [x]) ka :: Nd_string qb eb kb :: F)) (fun J hJ => ?_) fun w4 H4 => ?_
  · refine dr H3 fun w4 H4 => ?_
    refine ⟨_, rfl, _, rfl, ?_⟩
    obtain ⟨pe5, ce5, pb5, cb5, H5⟩ := open_Nd_string (H4.pull 1 rfl)
    obtain ⟨a5, rfl⟩ := entry_at_string (H5.pull 1 rfl) hn
    have fin : ∀ {w5 : World}, Sat g w5 (Nd_string qb ((y :: eb).take 0 ++ (y :: eb).drop (0 + 1)) kb :: pt b (.cells #[.slice (some ⟨a5, 0, none⟩) es.length ce5, .slice pb5 qs.length cb5] 75 (0, 0)) :: Sl 94 2 (some ⟨a5, 0, none⟩) es.length ce5 (enc_string es) ::
        Sl 69 1 pb5 qs.length cb5 (qs.map fun q => .pointer (some ⟨q, 0, none⟩)) :: Nd_string qa (ea ++ [x]) ka :: F) →
        St w5 ⟨a5, n * 2, none⟩ (.string y.1) fun w6 => St w6 ⟨a5, n * 2 + 1, none⟩ (.string y.2) fun w7 => J w7 := by
      intro w5 H6
      refine st_entry_string (H6.pull 2 rfl) hn fun w6 H7 => hJ _ ?_
      have H8 := (shut_Nd_string (es := es.set n y) (qs := qs) (H7.ord [2, 0, 3, 1, 4] rfl rfl rfl) (by simp) rfl rfl rfl)
      exact H8.ord [0, 2, 1] rfl rfl rfl
    constructor
    · refine ⟨_, _, _, H5.cell 0, ?_⟩
      refine (spec.tree_shelf_string_remove (n := 0) (H5.pull 4 rfl) rfl rfl (by simp; omega)).mono ?_
      rintro e w5 ⟨rfl, H6⟩
      refine ⟨_, _, rfl, _, rfl, ⟨by omega, by omega⟩, ?_⟩
      rw [addr_add]
      exact fin H6
    · refine (spec.tree_shelf_string_remove (n := 0) (H5.pull 4 rfl) rfl rfl (by simp; omega)).mono ?_
      rintro e w5 ⟨rfl, H6⟩
      refine ⟨_, _, rfl, _, _, _, (H6.pull 1 rfl).cell 0, _, rfl, ⟨by omega, by omega⟩, ?_⟩
      rw [addr_add]
      exact fin H6
  · refine (spec.tree_page_string_leaf (H4.pull 2 rfl)).mono ?_
    rintro e w5 ⟨rfl, rfl, H5⟩
    refine ⟨_, rfl, ?_⟩
    cases kb with
    | nil =>
      refine br_f rfl ⟨rfl, ?_⟩
      rw [List.head?_nil, Option.toList_none, List.append_nil]
      exact H5.ord [1, 2, 0] rfl rfl rfl
    | cons z kb =>
      refine br_t rfl ?_
      refine dr H5 fun w6 H6 => ?_
      obtain ⟨pe6, ce6, pb6, cb6, _, k1, _, kk⟩ := facts_string H6
      obtain ⟨a6, rfl, hz⟩ := kk 0 z rfl
      obtain ⟨pe7, ce7, pb7, cb7, H7⟩ := open_Nd_string (H6.pull 2 rfl)
      refine ⟨_, rfl, _, rfl, _, _, _, H7.cell 1, _, _, _, k1, _, rfl, ⟨by omega, by simp only [List.length_cons]; omega⟩, ?_⟩
      refine ⟨_, hz, ?_⟩
      refine al H7 fun b2 w7 H8 => ?_
      have H9 : Sat g w7 (pt b2 (.cells [Value.pointer (some ⟨z, 0, none⟩)].toArray 69 (0, 0)) :: Sl 69 1 pb7 ka.length cb7 (ka.map fun q => .pointer (some ⟨q, 0, none⟩)) ::
          pt qa (.cells #[.slice pe7 (ea ++ [x]).length ce7, .slice pb7 ka.length cb7] 75 (0, 0)) :: Sl 94 2 pe7 (ea ++ [x]).length ce7 (enc_string (ea ++ [x])) :: Nd_string qb eb (z :: kb) :: Nd_string b (es.set n y) qs :: F) :=
        H8.ord [0, 3, 1, 2, 4, 5] rfl rfl rfl
      have hsrc := H9.src (P := prog) (o := 0) 1 1 1 (by simp) (by simp [oneCell])
      obtain ⟨p8, c8, w8, hrun, H10, _⟩ := run_append (rt := 73) elem_page_string notInt_page_string (H9.pull 1 rfl) (ptrs_one_string ka) hsrc (by omega)
      refine run_of hrun ⟨_, _, _, rfl, _, rfl, ?_⟩
      refine st (H10.pull 2 rfl) (by simp) rfl fun w9 H11 => ?_
      have H12 : Sat g w9 (Nd_string qa (ea ++ [x]) (ka ++ [z]) :: pt b2 (.cells [Value.pointer (some ⟨z, 0, none⟩)].toArray 69 (0, 0)) :: Nd_string qb eb (z :: kb) :: Nd_string b (es.set n y) qs :: F) :=
        shut_Nd_string (es := ea ++ [x]) (qs := ka ++ [z]) (H11.ord [0, 3, 1, 2] rfl rfl rfl) rfl (by simp) rfl (by simp)
      obtain ⟨pe9, ce9, pb9, cb9, H13⟩ := open_Nd_string (H12.pull 2 rfl)
      refine ⟨_, rfl, _, _, _, H13.cell 1, ?_⟩
      refine (spec.slices_Delete_ptr_tree_page_string (k := 0) (H13.pull 2 rfl) (ptrs_one_string _) rfl rfl (by simp) (by omega)).mono ?_
      rintro e w10 ⟨rfl, H14⟩
      refine ⟨_, _, _, rfl, _, rfl, ?_⟩
      refine st (H14.pull 1 rfl) (by simp) rfl fun w11 H15 => ⟨rfl, ?_⟩
      have H16 : Sat g w11 (Nd_string qb eb kb :: Nd_string qa (ea ++ [x]) (ka ++ [z]) :: pt b2 (.cells [Value.pointer (some ⟨z, 0, none⟩)].toArray 69 (0, 0)) :: Nd_string b (es.set n y) qs :: F) :=
        shut_Nd_string (es := eb) (qs := kb) (H15.ord [0, 2, 1] rfl rfl rfl) rfl (by simp) rfl (by simp)
      exact ((H16.pull 2 rfl).drop).ord [2, 1, 0] rfl rfl rfl

theorem spec.tree_page_string_join {g w : World} {F : List HP} {b qa qb : Nat} {es ea eb : List (Key × Key)} {qs ka kb : List Nat} {i : Int} {n : Nat} {x : Key × Key}
    (H : Sat g w (Nd_string b es qs :: Nd_string qa ea ka :: Nd_string qb eb kb :: F)) (hin : i = n) (hqa : qs[n]? = some qa) (hqb : qs[n + 1]? = some qb) (hx : es[n]? = some x)
    (hl : es.length < 1000000) (hqs : qs.length < 1000000) (hal : ea.length < 1000000) (hbl : eb.length < 1000000) (hkal : ka.length < 1000000) (hkbl : kb.length < 1000000) :
    Calls prog f_tree_page_string_join #[.pointer (some ⟨b, 0, none⟩), .int .i64 i] w
      fun e w' => e = .returned (.tuple #[]) ∧ Sat g w' (Nd_string b (es.take n ++ es.drop (n + 1)) (qs.take (n + 1) ++ qs.drop (n + 2)) :: Nd_string qa (ea ++ x :: eb) (ka ++ kb) :: F) := by
  subst hin
  have hn : n < es.length := (List.getElem?_eq_some_iff.1 hx).1
  have hnq : n + 1 < qs.length := (List.getElem?_eq_some_iff.1 hqb).1
  have hw1 : IntKind.wrap .i64 ((n : Int) + (1 : Int)) = ((n + 1 : Nat) : Int) := by rw [wrap_id (by omega) (by omega)]; omega
  have hw2 : IntKind.wrap .i64 ((n : Int) + (2 : Int)) = ((n + 2 : Nat) : Int) := by rw [wrap_id (by omega) (by omega)]; omega
  refine ok.tree_page_string_join ?_
  unfold V.tree_page_string_join
  rw [hw1, hw2]
  refine dr H fun w1 H1 => ?_
  obtain ⟨pe, ce, pb, cb, f0, f1, fe, fk⟩ := facts_string H1
  obtain ⟨a, rfl, hk1⟩ := fk n qa hqa
  obtain ⟨a', ha, hk2⟩ := fk (n + 1) qb hqb
  obtain rfl : a = a' := by have := Option.some.inj ha; simpa using congrArg Addr.block this
  refine ⟨_, rfl, _, rfl, _, _, _, f1, _, rfl, ⟨by omega, by omega⟩, ?_⟩
  rw [Int.toNat_natCast, Int.toNat_natCast, addr_add]
  refine ⟨_, hk1, _, _, _, f1, _, rfl, ⟨by omega, by omega⟩, _, (by rw [addr_add]; exact hk2), ?_⟩
  refine jnw (fun w => Sat g w (Nd_string b (es.take n ++ es.drop (n + 1)) qs :: Nd_string qa (ea ++ [x]) ka :: Nd_string qb eb kb :: F)) (fun J hJ => ?_) fun w4 H4 => ?_
  · refine dr H1 fun w2 H2 => ?_
    refine ⟨_, rfl, _, rfl, _, rfl, ?_⟩
    have fin : ∀ {w3 : World}, Sat g w3 (Nd_string b (es.take n ++ es.drop (n + 1)) qs :: Nd_string qa ea ka :: Nd_string qb eb kb :: F) →
        Calls prog f_tree_shelf_string_insert #[.pointer (some ⟨qa, 0, none⟩), .int .i64 (ea.length : Int), .agg #[.string x.1, .string x.2]] w3 fun e w4 => e = .returned (.tuple #[]) ∧ J w4 := by
      intro w3 H3
      refine (spec.tree_shelf_string_insert (n := ea.length) (H3.pull 1 rfl) rfl (Nat.le_refl _) (by omega)).mono ?_
      rintro e w4 ⟨rfl, H4⟩
      rw [List.take_length, List.drop_length] at H4
      exact ⟨rfl, hJ _ (H4.ord [1, 0, 2] rfl rfl rfl)⟩
    constructor
    · obtain ⟨pea, cea, pba, cba, h0, _, _, _⟩ := facts_string (H2.pull 1 rfl)
      refine ⟨_, _, _, h0, ?_⟩
      refine (spec.tree_shelf_string_remove (n := n) H2 rfl hx (by omega)).mono ?_
      rintro e w3 ⟨rfl, H3⟩
      exact ⟨_, _, rfl, fin H3⟩
    · refine (spec.tree_shelf_string_remove (n := n) H2 rfl hx (by omega)).mono ?_
      rintro e w3 ⟨rfl, H3⟩
      obtain ⟨pea, cea, pba, cba, h0, _, _, _⟩ := facts_string (H3.pull 1 rfl)
      exact ⟨_, _, rfl, _, _, _, h0, fin H3⟩
  · refine dr H4 fun w5 H5 => ?_
    obtain ⟨pea, cea, pba, cba, H6⟩ := open_Nd_string (H5.pull 1 rfl)
    obtain ⟨peb, ceb, pbb, cbb, H7⟩ := open_Nd_string (H6.pull 4 rfl)
    refine ⟨_, rfl, _, rfl, _, _, _, (H7.pull 3 rfl).cell 0, _, _, _, H7.cell 0, ?_⟩
    have hsrc := (H7.pull 1 rfl).src_Sl (P := prog) (enc_one_string eb)
    obtain ⟨p8, c8, w8, hrun, H8, _⟩ := run_append (rt := 70) elem_entry_string notInt_entry_string (H7.pull 4 rfl) (enc_one_string _) hsrc (by simp; omega)
    refine run_of hrun ⟨_, _, _, rfl, _, rfl, ?_⟩
    refine st (H8.pull 4 rfl) (by simp) rfl fun w9 H9 => ?_
    refine dr H9 fun w10 H10 => ?_
    refine ⟨_, rfl, _, rfl, _, _, _, H10.cell 1, _, _, _, (H10.pull 2 rfl).cell 1, ?_⟩
    have hsrc2 := (H10.pull 4 rfl).src_Sl (P := prog) (ptrs_one_string kb)
    obtain ⟨p11, c11, w11, hrun2, H11, _⟩ := run_append (rt := 73) elem_page_string notInt_page_string (H10.pull 5 rfl) (ptrs_one_string ka) hsrc2 (by omega)
    refine run_of hrun2 ⟨_, _, _, rfl, _, rfl, ?_⟩
    refine st (H11.pull 1 rfl) (by simp) rfl fun w12 H12 => ?_
    have H13 : Sat g w12 (Nd_string qa (ea ++ x :: eb) (ka ++ kb) :: pt qb (.cells #[.slice peb eb.length ceb, .slice pbb kb.length cbb] 75 (0, 0)) :: Sl 94 2 peb eb.length ceb (enc_string eb) :: Sl 69 1 pbb kb.length cbb (kb.map fun q => .pointer (some ⟨q, 0, none⟩)) ::
        Nd_string b (es.take n ++ es.drop (n + 1)) qs :: F) :=
      shut_Nd_string (es := ea ++ x :: eb) (qs := ka ++ kb) (H12.ord [0, 2, 1, 3, 4, 5, 6] rfl rfl rfl) (by simp; omega) (by simp) (by rw [← row2_append]; simp) (by simp)
    obtain ⟨pe9, ce9, pb9, cb9, H14⟩ := open_Nd_string (H13.pull 4 rfl)
    refine ⟨_, rfl, _, _, _, H14.cell 1, ?_⟩
    refine (spec.slices_Delete_ptr_tree_page_string (k := n + 1) (H14.pull 2 rfl) (ptrs_one_string _) rfl rfl hnq (by omega)).mono ?_
    rintro e w15 ⟨rfl, H15⟩
    refine ⟨_, _, _, rfl, _, rfl, ?_⟩
    refine st (H15.pull 1 rfl) (by simp) rfl fun w16 H16 => ⟨rfl, ?_⟩
    have H17 : Sat g w16 (Nd_string b (es.take n ++ es.drop (n + 1)) (qs.take (n + 1) ++ qs.drop (n + 2)) :: Nd_string qa (ea ++ x :: eb) (ka ++ kb) :: pt qb (.cells #[.slice peb eb.length ceb, .slice pbb kb.length cbb] 75 (0, 0)) ::
        Sl 94 2 peb eb.length ceb (enc_string eb) :: Sl 69 1 pbb kb.length cbb (kb.map fun q => .pointer (some ⟨q, 0, none⟩)) :: F) :=
      shut_Nd_string (H16.ord [0, 2, 1] rfl rfl rfl) rfl (by simp; omega) rfl (by simp [List.map_take, List.map_drop])
    exact ((H17.ord [2, 3, 4, 0, 1] rfl rfl rfl).drop).drop.drop

end Go.Proofs.Ytohhoojcgcbmcaa
