import Derived.Test.YtohhoojcgcbmcaaQ1
import Derived.Test.YtohhoojcgcbmcaaNode
set_option maxRecDepth 4000
set_option linter.unusedVariables false
set_option linter.unusedSimpArgs false
namespace Go.Proofs.Ytohhoojcgcbmcaa
open Go Go.Vc Go.Sl Go.Tr Go.Proofs
/-! #### pages of int -/
abbrev ev_int (v : Int) : Value := .int .i64 v
abbrev enc_int (es : List (Key × Int)) : List Value := row2 (fun e => .string e.1) (fun e => ev_int e.2) es
theorem enc_one_int (es : List (Key × Int)) : ∀ x ∈ enc_int es, oneCell x = true := row2_one (fun _ => rfl) (fun _ => rfl) es

def cmp_int (s k : Key) : Int := if sLt s k then -1 else if sEq s k then 0 else 1

theorem spec.tree_shelf_int_find_fn1 {g w : World} {F : List HP} (H : Sat g w F) (s k : Key) (v : Int) :
    Calls prog f_tree_shelf_int_find_fn1 #[.agg #[.string s, .int .i64 v], .string k] w fun e w' => e = .returned (.int .i64 (cmp_int s k)) ∧ Sat g w' F := by
  refine ok.tree_shelf_int_find_fn1 ?_
  unfold V.tree_shelf_int_find_fn1
  refine al H fun b w1 H1 => ?_
  refine ⟨_, H1.cell 0, ?_⟩
  refine br (fun h => ⟨?_, H1.drop⟩) fun h => ?_
  · unfold cmp_int; rw [if_pos h]
  · refine ⟨_, H1.cell 0, ?_⟩
    refine br (fun h2 => ⟨?_, H1.drop⟩) fun h2 => ⟨?_, H1.drop⟩
    · unfold cmp_int; rw [h] at h2; rw [if_neg (by simp [h]), if_neg (by simpa using h2)]
    · unfold cmp_int; rw [h] at h2; rw [if_neg (by simp [h]), if_pos (by simpa using h2)]

theorem res_int_int (K : Value → Prop) : exResult prog [3] K = (∃ i : Int, K (.int .i64 i)) := by kernel_rfl

/-- The call of the comparison. -/
theorem cmpcall_int {g w : World} {F : List HP} (H : Sat g w F) (s k : Key) (v : Int) {K : Int → World → Prop} (h : ∀ w', Sat g w' F → K (cmp_int s k) w') :
    CallV prog (.func (.func f_tree_shelf_int_find_fn1) #[] #[]) [.agg #[.string s, .int .i64 v], .string k] w [3] fun u w' => ∃ i : Int, u = .int .i64 i ∧ K i w' := by
  refine callv Try.func65 (by kernel_rfl) (by kernel_rfl) ?_
  unfold Ret
  refine (spec.tree_shelf_int_find_fn1 H s k v).mono ?_
  rintro e w' ⟨rfl, H'⟩
  rw [res_int_int]
  exact ⟨_, rfl, _, rfl, h w' H'⟩

theorem spec.slices_BinarySearchFunc_string_L0 {g : World} {F : List HP} {p : Option Addr} {c : Nat} {es : List (Key × Int)} {k : Key} (hs : Sorted es) (hl : es.length < 1048576) {R : Ending → World → Prop}
    (hR : ∀ w', Sat g w' (Sl 87 2 p es.length c (enc_int es) :: F) → R (.returned (.tuple #[.int .i64 (idx es k), .bool (has es k)])) w') :
    ∀ (d i j : Nat) (w : World), j - i = d → i ≤ j → j ≤ es.length → i ≤ idx es k → idx es k ≤ j → Sat g w (Sl 87 2 p es.length c (enc_int es) :: F) →
      L.slices_BinarySearchFunc_string_L0 p es.length c k (.func (.func f_tree_shelf_int_find_fn1) #[] #[]) (es.length : Int) (i : Int) (j : Int) w R := by
  intro d
  induction d using Nat.strongRecOn with
  | _ d ih =>
    intro i j w hd hij hj hi1 hi2 H
    refine round.slices_BinarySearchFunc_string_L0 ?_
    unfold B.slices_BinarySearchFunc_string_L0
    refine br (fun h => ?_) (fun h => ?_)
    · have hlt : i < j := by have := of_decide_eq_true h; omega
      refine ⟨by decide, lt' (half (by omega)) ?_⟩
      have hm : (i + j) / 2 < es.length := by omega
      obtain ⟨e, he⟩ : ∃ e, es[(i + j) / 2]? = some e := ⟨_, List.getElem?_eq_getElem hm⟩
      have hg := row2_get (fun e : Key × Int => Value.string e.1) (fun e => ev_int e.2) es ((i + j) / 2)
      rw [he] at hg
      obtain ⟨a, rfl, hc1⟩ := H.Sl_cell hg.1
      obtain ⟨a', ha, hc2⟩ := H.Sl_cell hg.2
      obtain rfl : a = a' := by have := Option.some.inj ha; simpa using congrArg Addr.block this
      refine ⟨_, rfl, ⟨by omega, by omega⟩, ?_⟩
      rw [Int.toNat_natCast, addr_add]
      refine ⟨_, hc1, _, hc2, ?_⟩
      refine cmpcall_int H e.1 k e.2 fun w1 H1 => ?_
      refine br (fun h2 => ?_) (fun h2 => ?_)
      · have hlt2 : sLt e.1 k = true := by
          cases hh : sLt e.1 k with
          | true => rfl
          | false =>
            have := of_decide_eq_true h2
            unfold cmp_int at this
            rw [hh] at this
            simp at this
            split at this <;> omega
        have hidx : (i + j) / 2 < idx es k := by
          rcases Nat.lt_or_ge ((i + j) / 2) (idx es k) with h | h
          · exact h
          · rw [idx_ge hs he h] at hlt2; cases hlt2
        refine lt' (y := (((i + j) / 2 + 1 : Nat) : Int)) (by rw [wrap_id (by omega) (by omega)]; omega) ?_
        exact ih _ (by omega) ((i + j) / 2 + 1) j w1 rfl (by omega) hj (by omega) hi2 H1
      · have hlt2 : sLt e.1 k = false := by
          cases hh : sLt e.1 k with
          | false => rfl
          | true =>
            have := of_decide_eq_false h2
            unfold cmp_int at this
            rw [hh] at this
            simp at this
        have hidx : idx es k ≤ (i + j) / 2 := by
          rcases Nat.lt_or_ge ((i + j) / 2) (idx es k) with h | h
          · rw [idx_lt he h] at hlt2; cases hlt2
          · exact h
        exact ih _ (by omega) i ((i + j) / 2) w1 rfl (by omega) (by omega) hi1 hidx H1
    · have hge : i = j := by have := of_decide_eq_false h; omega
      subst hge
      have hidx : idx es k = i := by omega
      refine br (fun h2 => ?_) (fun h2 => ?_)
      · have hm : i < es.length := by have := of_decide_eq_true h2; omega
        obtain ⟨e, he⟩ : ∃ e, es[i]? = some e := ⟨_, List.getElem?_eq_getElem hm⟩
        have hg := row2_get (fun e : Key × Int => Value.string e.1) (fun e => ev_int e.2) es i
        rw [he] at hg
        obtain ⟨a, rfl, hc1⟩ := H.Sl_cell hg.1
        obtain ⟨a', ha, hc2⟩ := H.Sl_cell hg.2
        obtain rfl : a = a' := by have := Option.some.inj ha; simpa using congrArg Addr.block this
        refine ⟨_, rfl, ⟨by omega, by omega⟩, ?_⟩
        rw [Int.toNat_natCast, addr_add]
        refine ⟨_, hc1, _, hc2, ?_⟩
        refine cmpcall_int H e.1 k e.2 fun w1 H1 => ?_
        have := hR w1 H1
        have hlt2 : sLt e.1 k = false := idx_ge hs he (by omega)
        have e1 : (cmp_int e.1 k == (0 : Int)) = has es k := by
          unfold has cmp_int
          rw [hidx, he, hlt2]
          cases hh : sEq e.1 k <;> simp [hh]
        rw [e1, ← hidx]
        exact this
      · have hm : i = es.length := by have := of_decide_eq_false h2; omega
        have := hR w H
        have e1 : has es k = false := by
          unfold has
          rw [hidx, hm, List.getElem?_eq_none (Nat.le_refl _)]
        rw [e1, hidx] at this
        exact this

theorem spec.slices_BinarySearchFunc_string {g w : World} {F : List HP} {p : Option Addr} {c : Nat} {es : List (Key × Int)} {k : Key} (H : Sat g w (Sl 87 2 p es.length c (enc_int es) :: F)) (hs : Sorted es) (hl : es.length < 1048576) :
    Calls prog f_slices_BinarySearchFunc_string #[.slice p es.length c, .string k, .func (.func f_tree_shelf_int_find_fn1) #[] #[]] w
      fun e w' => e = .returned (.tuple #[.int .i64 (idx es k), .bool (has es k)]) ∧ Sat g w' (Sl 87 2 p es.length c (enc_int es) :: F) := by
  refine ok.slices_BinarySearchFunc_string ?_
  unfold V.slices_BinarySearchFunc_string
  exact spec.slices_BinarySearchFunc_string_L0 hs hl (fun w' H' => ⟨rfl, H'⟩) _ 0 es.length w rfl (by omega) (Nat.le_refl _) (by omega) (idx_le es k) H

/-- A page: its own struct, its entries, the pages below by their blocks. -/
def Nd_int (b : Nat) (es : List (Key × Int)) (qs : List Nat) : HP := exs fun x : Option Addr × Nat × Option Addr × Nat =>
  stars [pt b (.cells #[.slice x.1 es.length x.2.1, .slice x.2.2.1 qs.length x.2.2.2] 66 (0, 0)), Sl 87 2 x.1 es.length x.2.1 (enc_int es), Sl 60 1 x.2.2.1 qs.length x.2.2.2 (qs.map fun q => .pointer (some ⟨q, 0, none⟩))]

theorem open_Nd_int {g w : World} {F : List HP} {b : Nat} {es : List (Key × Int)} {qs : List Nat} (H : Sat g w (Nd_int b es qs :: F)) :
    ∃ pe ce pb cb, Sat g w (pt b (.cells #[.slice pe es.length ce, .slice pb qs.length cb] 66 (0, 0)) :: Sl 87 2 pe es.length ce (enc_int es) :: Sl 60 1 pb qs.length cb (qs.map fun q => .pointer (some ⟨q, 0, none⟩)) :: F) := by
  obtain ⟨⟨pe, ce, pb, cb⟩, H⟩ := H.open_ex
  exact ⟨pe, ce, pb, cb, H.open_stars⟩

theorem shut_Nd_int {g w : World} {F : List HP} {b : Nat} {es : List (Key × Int)} {qs : List Nat} {pe : Option Addr} {ce : Nat} {pb : Option Addr} {cb : Nat} {l1 l2 : Nat} {cs1 cs2 : List Value}
    (H : Sat g w (pt b (.cells #[.slice pe l1 ce, .slice pb l2 cb] 66 (0, 0)) :: Sl 87 2 pe l1 ce cs1 :: Sl 60 1 pb l2 cb cs2 :: F))
    (h1 : l1 = es.length) (h2 : l2 = qs.length) (h3 : cs1 = enc_int es) (h4 : cs2 = qs.map fun q => .pointer (some ⟨q, 0, none⟩)) : Sat g w (Nd_int b es qs :: F) := by
  subst h1 h2 h3 h4
  exact Sat.shut_ex (α := Option Addr × Nat × Option Addr × Nat) (pe, ce, pb, cb) (Sat.shut_stars H)

theorem ptrs_one_int (qs : List Nat) : ∀ x ∈ qs.map (fun q => Value.pointer (some ⟨q, 0, none⟩)), oneCell x = true := by
  intro x hx
  obtain ⟨q, _, rfl⟩ := List.mem_map.1 hx
  rfl

theorem spec.tree_shelf_int_find {g w : World} {F : List HP} {b : Nat} {es : List (Key × Int)} {qs : List Nat} {k : Key} (H : Sat g w (Nd_int b es qs :: F)) (hs : Sorted es) (hl : es.length < 1048576) :
    Calls prog f_tree_shelf_int_find #[.pointer (some ⟨b, 0, none⟩), .string k] w
      fun e w' => e = .returned (.tuple #[.int .i64 (idx es k), .bool (has es k)]) ∧ Sat g w' (Nd_int b es qs :: F) := by
  obtain ⟨pe, ce, pb, cb, H⟩ := open_Nd_int H
  refine ok.tree_shelf_int_find ?_
  unfold V.tree_shelf_int_find
  refine ⟨_, rfl, _, _, _, H.cell 0, ?_⟩
  refine (spec.slices_BinarySearchFunc_string (H.pull 1 rfl) hs hl).mono ?_
  rintro e w' ⟨rfl, H'⟩
  exact ⟨_, _, rfl, rfl, shut_Nd_int (H'.pull 1 rfl) rfl rfl rfl rfl⟩

theorem spec.tree_page_int_leaf {g w : World} {F : List HP} {b : Nat} {es : List (Key × Int)} {qs : List Nat} (H : Sat g w (Nd_int b es qs :: F)) :
    Calls prog f_tree_page_int_leaf #[.pointer (some ⟨b, 0, none⟩)] w fun e w' => e = .returned (.bool qs.isEmpty) ∧ w' = w ∧ Sat g w' (Nd_int b es qs :: F) := by
  have H0 := H
  obtain ⟨pe, ce, pb, cb, H⟩ := open_Nd_int H
  refine ok.tree_page_int_leaf ?_
  unfold V.tree_page_int_leaf
  refine ⟨_, rfl, _, _, _, H.cell 1, ?_, rfl, H0⟩
  cases qs with
  | nil => rfl
  | cons q qs =>
    have : (((q :: qs).length : Int) == (0 : Int)) = false := by rw [beq_eq_false_iff_ne]; simp; omega
    rw [this]; rfl

theorem spec.tree_shelf_int_insert {g w : World} {F : List HP} {b : Nat} {es : List (Key × Int)} {qs : List Nat} {k : Key} {v : Int} {i : Int} {n : Nat} (H : Sat g w (Nd_int b es qs :: F)) (hin : i = n) (hi : n ≤ es.length) (hl : es.length < 1048576) :
    Calls prog f_tree_shelf_int_insert #[.pointer (some ⟨b, 0, none⟩), .int .i64 i, .agg #[.string k, .int .i64 v]] w
      fun e w' => e = .returned (.tuple #[]) ∧ Sat g w' (Nd_int b (es.take n ++ (k, v) :: es.drop n) qs :: F) := by
  obtain ⟨pe, ce, pb, cb, H⟩ := open_Nd_int H
  refine ok.tree_shelf_int_insert ?_
  unfold V.tree_shelf_int_insert
  refine al H fun b1 w1 H1 => ?_
  refine dr H1 fun w2 H2 => ?_
  refine ⟨_, rfl, ?_⟩
  have hb := H2.pull 1 rfl
  first
    | refine ⟨_, H2.cell 0, _, H2.cell 1, _, _, _, hb.cell 0, ?_⟩
    | refine ⟨_, _, _, hb.cell 0, _, H2.cell 0, _, H2.cell 1, ?_⟩
  refine al H2.drop fun b3 w3 H3 => ?_
  have H4 : Sat g w3 (Sl 87 2 pe es.length ce (enc_int es) :: pt b3 (.cells [Value.string k, .int .i64 v].toArray 87 (0, 0)) :: pt b (.cells #[.slice pe es.length ce, .slice pb qs.length cb] 66 (0, 0)) ::
      Sl 60 1 pb qs.length cb (qs.map fun q => .pointer (some ⟨q, 0, none⟩)) :: F) := H3.pull 2 rfl
  refine (spec.slices_Insert_tree_entry_int (k := n) H4 rfl (by simp [oneCell]) (enc_one_int es) hin hi hl).mono ?_
  rintro e w4 ⟨p', c', rfl, H5⟩
  refine ⟨_, _, _, rfl, _, rfl, ?_⟩
  refine st (H5.pull 1 rfl) (by simp) rfl fun w5 H6 => ⟨rfl, ?_⟩
  refine shut_Nd_int (l1 := es.length + 1) (H6) (by simp; omega) rfl ?_ rfl
  rw [row2_take, row2_drop]
  simp [row2]

theorem spec.tree_shelf_int_remove {g w : World} {F : List HP} {b : Nat} {es : List (Key × Int)} {qs : List Nat} {i : Int} {n : Nat} {x : Key × Int} (H : Sat g w (Nd_int b es qs :: F)) (hin : i = n) (hx : es[n]? = some x) (hl : es.length < 1048576) :
    Calls prog f_tree_shelf_int_remove #[.pointer (some ⟨b, 0, none⟩), .int .i64 i] w
      fun e w' => e = .returned (.agg #[.string x.1, .int .i64 x.2]) ∧ Sat g w' (Nd_int b (es.take n ++ es.drop (n + 1)) qs :: F) := by
  subst hin
  have hn : n < es.length := (List.getElem?_eq_some_iff.1 hx).1
  obtain ⟨pe, ce, pb, cb, H⟩ := open_Nd_int H
  refine ok.tree_shelf_int_remove ?_
  unfold V.tree_shelf_int_remove
  refine al H fun b1 w1 H1 => ?_
  refine ⟨_, rfl, _, _, _, (H1.pull 1 rfl).cell 0, ?_⟩
  have hg := row2_get (fun e : Key × Int => Value.string e.1) (fun e => ev_int e.2) es n
  rw [hx] at hg
  have HS := H1.pull 2 rfl
  obtain ⟨a, rfl, hc1⟩ := HS.Sl_cell hg.1
  obtain ⟨a', ha, hc2⟩ := HS.Sl_cell hg.2
  obtain rfl : a = a' := by have := Option.some.inj ha; simpa using congrArg Addr.block this
  refine ⟨_, rfl, ⟨by omega, by omega⟩, ?_⟩
  rw [Int.toNat_natCast, addr_add]
  refine ⟨_, hc1, _, hc2, ?_⟩
  refine al H1 fun b2 w2 H2 => ?_
  refine st H2 (by simp) rfl fun w3 H3 => ?_
  refine st H3 (by simp) rfl fun w4 H4 => ?_
  refine ⟨_, rfl, _, _, _, (H4.pull 2 rfl).cell 0, ?_⟩
  refine (spec.slices_Delete_tree_entry_int (k := n) (H4.pull 3 rfl) (enc_one_int es) rfl (by rw [wrap_id (by omega) (by omega)]; omega) hn hl).mono ?_
  rintro e w5 ⟨rfl, H5⟩
  refine ⟨_, _, _, rfl, _, rfl, ?_⟩
  refine st (H5.pull 3 rfl) (by simp) rfl fun w6 H6 => ?_
  have H7 := H6.pull 2 rfl
  refine ⟨_, H7.cell 0, _, H7.cell 1, ?_⟩
  refine st (H7.pull 3 rfl) (by simp) rfl fun w7 H8 => ?_
  refine st H8 (by simp) rfl fun w8 H9 => ?_
  refine ⟨_, H9.cell 0, _, H9.cell 1, rfl, ?_⟩
  refine shut_Nd_int (l1 := es.length - 1) (((H9.drop).drop)) (by simp; omega) rfl ?_ rfl
  have e1 : n * 2 + 2 = (n + 1) * 2 := by omega
  rw [e1, row2_take, row2_drop, ← row2_append]

end Go.Proofs.Ytohhoojcgcbmcaa
