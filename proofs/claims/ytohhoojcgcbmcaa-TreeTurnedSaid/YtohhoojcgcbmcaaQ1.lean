import Derived.Test.YtohhoojcgcbmcaaV1
import Derived.Test.YtohhoojcgcbmcaaSlOps3
set_option maxRecDepth 4000
set_option linter.unusedVariables false
set_option linter.unusedSimpArgs false
namespace Go.Proofs.Ytohhoojcgcbmcaa
open Go Go.Vc Go.Sl Go.Proofs
/-! #### slices of entry_int -/
theorem elem_entry_int : ElemT prog 61 87 2 24 [.string (str []), .int .i64 0] where
  under := by kernel_rfl
  info := by
    obtain ⟨i, hi⟩ : ∃ i, prog.info? 87 = some i := Option.isSome_iff_exists.1 (by kernel_rfl)
    have h1 : (prog.info? 87).map (fun i => (i.size, i.bytes, i.zero.map Value.cells)) = some (2, 24, some #[.string (str []), .int .i64 0]) := by kernel_rfl
    rw [hi] at h1
    simp only [Option.map_some, Option.some.injEq, Prod.mk.injEq] at h1
    obtain ⟨h1, h2, h3⟩ := h1
    cases hz : i.zero with
    | none => rw [hz] at h3; cases h3
    | some z =>
      rw [hz] at h3
      simp only [Option.map_some, Option.some.injEq] at h3
      exact ⟨i, hi, h1, h2, z, hz, h3⟩
  len := rfl
  pos := by decide
  small := by decide
  one := by simp [oneCell]

theorem notInt_entry_int : ∃ d, prog.underlying 61 = some d ∧ isInt d = false := ⟨_, elem_entry_int.under, rfl⟩

theorem spec.slices_Insert_tree_entry_int {g w : World} {F : List HP} {p : Option Addr} {l c : Nat} {cs : List Value} {b : Nat} {r : List Value} {i : Int} {k : Nat}
    (H : Sat g w (Sl 87 2 p l c cs :: pt b (.cells r.toArray 87 (0, 0)) :: F)) (hr : r.length = 2) (hro : ∀ x ∈ r, oneCell x = true) (hcs : ∀ x ∈ cs, oneCell x = true) (hik : i = k) (hi : k ≤ l) (hl : l < 1048576) :
    Calls prog f_slices_Insert_tree_entry_int #[.slice p l c, .int .i64 i, .slice (some ⟨b, 0, none⟩) 1 1] w
      fun e w' => ∃ p' c', e = .returned (.slice p' (l + 1) c') ∧ Sat g w' (Sl 87 2 p' (l + 1) c' (cs.take (k * 2) ++ r ++ cs.drop (k * 2)) :: F) := by
  subst hik
  have hlen : cs.length = l * 2 := H.Sl_length
  have hle : l ≤ c := H.Sl_le
  refine ok.slices_Insert_tree_entry_int ?_
  unfold V.slices_Insert_tree_entry_int
  refine slb trivial trivial ⟨by omega, by simp only [bnd, Int.toNat_natCast]; omega⟩ fun _ _ _ _ _ _ => ?_
  refine br_f rfl ?_
  have hsrc : ∀ {w : World} {F : List HP}, Sat g w (pt b (.cells r.toArray 87 (0, 0)) :: F) → Src prog w 2 (.slice (some ⟨b, 0, none⟩) 1 1) 1 r := fun H => by
    have := H.src (P := prog) (o := 0) 2 1 1 (by rw [hr]; decide) (by rw [List.drop_zero, List.take_of_length_le (by rw [hr]; decide)]; exact hro)
    rwa [List.drop_zero, List.take_of_length_le (by rw [hr]; decide)] at this
  refine br (fun he => ?_) (fun hne => ?_)
  · -- at the end
    have he : k = l := by have := beq_iff_eq.1 he; omega
    subst he
    obtain ⟨p', c', w', hrun, H', _⟩ := run_append (rt := 61) elem_entry_int notInt_entry_int H hcs (hsrc (H.pull 1 rfl)) (by omega)
    refine run_of hrun ⟨p', k + 1, c', rfl, p', c', rfl, ?_⟩
    rw [List.take_of_length_le (by omega), List.drop_of_length_le (by omega), List.append_nil]
    exact (H'.pull 1 rfl).drop
  · have hkl : k < l := by
      have : ¬ ((k : Int) = (l : Int)) := by simpa using hne
      omega
    have hwr : IntKind.wrap .i64 ((l : Int) + ((1 : Nat) : Int)) = ((l + 1 : Nat) : Int) := by rw [wrap_id (by omega) (by omega)]; omega
    have hwi : IntKind.wrap .i64 ((k : Int) + ((1 : Nat) : Int)) = ((k + 1 : Nat) : Int) := by rw [wrap_id (by omega) (by omega)]; omega
    have hwn : IntKind.wrap .i64 (((l + 1 : Nat) : Int) - (k : Int)) = ((l + 1 - k : Nat) : Int) := by rw [wrap_id (by omega) (by omega)]; omega
    have hmul1 : (k + 1) * 2 = k * 2 + 2 := by rw [Nat.add_mul, Nat.one_mul]
    have hmul2 : (l + 1) * 2 = k * 2 + (l - k) * 2 + 2 := by rw [Nat.add_mul, Nat.one_mul, ← Nat.add_mul]; congr 2; omega
    have hmul3 : k * 2 + (l - k) * 2 = l * 2 := by rw [← Nat.add_mul]; congr 1; omega
    rw [hwr, hwi, hwn]
    refine br (fun hc => ?_) (fun hc => ?_)
    · -- a new array
      have hc : c < l + 1 := by have := of_decide_eq_true hc; omega
      have hcl : c = l := by omega
      refine slb trivial ⟨by omega, by simp only [bnd, Int.toNat_natCast]; omega⟩ trivial fun _ _ _ e1 e2 e3 => ?_
      simp only [bnd, Int.toNat_natCast] at e1 e2 e3
      subst e1 e2 e3
      rw [slAt_zero', Nat.sub_zero, Nat.sub_zero]
      obtain ⟨b2, c2, w1, hrun, H1⟩ := run_append_make (rt := 61) (i := k) (n := l + 1 - k) (c0 := c) elem_entry_int ⟨.i64, by kernel_rfl⟩ H hcs (by omega) (by omega) (by omega) (by omega)
      have hk1 : k + (l + 1 - k) = l + 1 := by omega
      rw [hk1] at hrun H1
      refine run_of hrun ⟨_, _, _, rfl, ?_⟩
      have hc2 : l + 1 ≤ c2 := H1.Sl_le
      refine slb trivial trivial ⟨by omega, by simp only [bnd, Int.toNat_natCast]; omega⟩ fun _ _ _ e1 e2 e3 => ?_
      simp only [bnd, Int.toNat_natCast] at e1 e2 e3
      subst e1 e2 e3
      rw [slAt_some (.inl (by omega))]
      rcases H1.open_Sl with ⟨h0, _⟩ | ⟨b2', all, hb2, h1, h2, h3, H1⟩
      · cases h0
      · obtain rfl : b2 = b2' := by have := Option.some.inj hb2; simpa using congrArg Addr.block this
        have hall : k * 2 + (l - k) * 2 + 2 ≤ all.length := by
          have := Nat.mul_le_mul_right 2 hc2
          omega
        have H2 := (H1.pull 2 rfl)
        obtain ⟨w2, hrun2, H2⟩ := run_copy (rt := 3) (xt := 61) (dl := l + 1 - k) (dc := c2 - k) elem_entry_int H1 (o := k * 2) (hsrc H2) (by rw [Nat.min_eq_left (by omega)]; omega)
        rw [Nat.min_eq_left (by omega), Nat.one_mul, List.take_of_length_le (l := r) (by omega)] at H2
        rw [Nat.min_eq_left (by omega)] at hrun2
        refine run_of hrun2 ⟨_, rfl, ?_⟩
        refine dr H2 fun w3 H3 => ?_
        refine slb trivial trivial ⟨by omega, by simp only [bnd, Int.toNat_natCast]; omega⟩ fun _ _ _ e1 e2 e3 => ?_
        simp only [bnd, Int.toNat_natCast] at e1 e2 e3
        subst e1 e2 e3
        refine slb trivial trivial ⟨by omega, by simp only [bnd, Int.toNat_natCast]; omega⟩ fun _ _ _ e1 e2 e3 => ?_
        simp only [bnd, Int.toNat_natCast] at e1 e2 e3
        subst e1 e2 e3
        -- the old array's tail
        have H4 := H3.pull 1 rfl
        rcases H4.open_Sl with ⟨rfl, h0, _⟩ | ⟨b4, all4, rfl, h5, h6, h7, H5⟩
        · omega
        · have hsrc2 := H5.src (P := prog) (o := k * 2) 2 (l - k) (l - k) (by have := Nat.mul_le_mul_right 2 h5; omega) (by
            intro x hx
            refine hcs x ?_
            rw [← h7]
            have : (all4.drop (k * 2)).take ((l - k) * 2) = (all4.take (l * 2)).drop (k * 2) := by rw [List.drop_take]; congr 1; omega
            rw [this] at hx
            exact List.mem_of_mem_drop hx)
          rw [slAt_some (.inl (by omega)), slAt_some (.inl (by omega))]
          have hcc : c - k = l - k := by omega
          rw [hcc]
          have hlen2 : (splice all (k * 2) r).length = all.length := splice_length (by omega)
          obtain ⟨w4, hrun4, H6⟩ := run_copy (rt := 3) (xt := 61) (dl := l + 1 - (k + 1)) (dc := c2 - (k + 1)) elem_entry_int H3 (o := (k + 1) * 2) hsrc2 (by rw [hlen2, Nat.min_eq_left (by omega)]; omega)
          rw [Nat.min_eq_left (by omega)] at H6 hrun4
          refine run_of hrun4 ⟨_, rfl, ?_⟩
          refine ⟨_, _, rfl, ?_⟩
          have hX : ((all4.drop (k * 2)).take ((l - k) * 2)) = cs.drop (k * 2) := by
            rw [← h7, List.drop_take]; congr 1; omega
          rw [hX, List.take_of_length_le (by simp only [List.length_drop, List.length_take, hlen]; omega), hmul1] at H6
          have hdl : (cs.drop (k * 2)).length = (l - k) * 2 := by simp only [List.length_drop, List.length_take, hlen]; omega
          have H7 := H6.shut_Sl (l := l + 1) (c := c2) (sz := 2) hc2 (by rw [splice_length (by rw [hlen2, hdl]; omega), hlen2]; exact h2)
          have hpre : all.take (k * 2) = cs.take (k * 2) := by
            have := congrArg (List.take (k * 2)) h3
            rw [List.take_take, Nat.min_eq_left (by omega), List.take_append_of_le_length (by simp only [List.length_drop, List.length_take, hlen]; omega), List.take_take, Nat.min_self] at this
            exact this
          rw [hmul2, grow_list hr hdl hall, hpre] at H7
          exact ((H7.pull 2 rfl).drop.pull 1 rfl).drop
    · -- in its own array
      have hc : l + 1 ≤ c := by have := of_decide_eq_false hc; omega
      refine slb trivial ⟨by omega, by simp only [bnd, Int.toNat_natCast]; omega⟩ trivial fun _ _ _ e1 e2 e3 => ?_
      simp only [bnd, Int.toNat_natCast] at e1 e2 e3
      subst e1 e2 e3
      rw [slAt_zero', Nat.sub_zero, Nat.sub_zero]
      refine slb trivial trivial ⟨by omega, by simp only [bnd, Int.toNat_natCast]; omega⟩ fun _ _ _ e1 e2 e3 => ?_
      simp only [bnd, Int.toNat_natCast] at e1 e2 e3
      subst e1 e2 e3
      rcases H.open_Sl with ⟨rfl, h0, _⟩ | ⟨b2, all, rfl, h1, h2, h3, H1⟩
      · omega
      · have hall : k * 2 + (l - k) * 2 + 2 ≤ all.length := by
          have := Nat.mul_le_mul_right 2 hc
          omega
        rw [slAt_some (.inl (by omega))]
        refine ext_overlaps (st := 61) (rt := 4) (et := 87) Try.func82 (by kernel_rfl) (by kernel_rfl) (by kernel_rfl) (by kernel_rfl) elem_entry_int (H1.pull 1 rfl) (by simp; intro h0; rw [h0] at hall; simp at hall) ⟨_, rfl, ?_⟩
        refine br_t rfl ?_
        refine dr H1 fun w1 H1 => ?_
        refine slb trivial trivial ⟨by omega, by simp only [bnd, Int.toNat_natCast]; omega⟩ fun _ _ _ e1 e2 e3 => ?_
        simp only [bnd, Int.toNat_natCast] at e1 e2 e3
        subst e1 e2 e3
        refine slb trivial trivial ⟨by omega, by simp only [bnd, Int.toNat_natCast]; omega⟩ fun _ _ _ e1 e2 e3 => ?_
        simp only [bnd, Int.toNat_natCast] at e1 e2 e3
        subst e1 e2 e3
        rw [slAt_some (.inl (by omega)), slAt_some (.inl (by omega))]
        have hone : ∀ x ∈ (all.drop (k * 2)).take ((l - k) * 2), oneCell x = true := by
          intro x hx
          refine hcs x ?_
          rw [← h3]
          have : (all.drop (k * 2)).take ((l - k) * 2) = (all.take (l * 2)).drop (k * 2) := by rw [List.drop_take]; congr 1; omega
          rw [this] at hx
          exact List.mem_of_mem_drop hx
        -- the part that is moved: its last element is spare, and is not read
        have hsrc2 : Src prog w1 2 (.slice (some ⟨b2, k * 2, none⟩) (l - k) (c - k)) (l - k) ((all.drop (k * 2)).take ((l - k) * 2)) :=
          H1.src (P := prog) (o := k * 2) 2 (l - k) (c - k) (by omega) hone
        have hrun2 : ∃ w2, (Builtin.copy_ #[61, 61] 3 #[.slice (some ⟨b2, (k + 1) * 2, none⟩) (l + 1 - (k + 1)) (c - (k + 1)), .slice (some ⟨b2, k * 2, none⟩) (l + 1 - k) (c - k)]).run prog w1 = .ok (.int .i64 ((l - k : Nat) : Int)) w2 ∧
            Sat g w2 (pt b2 (.cells (splice all ((k + 1) * 2) ((all.drop (k * 2)).take ((l - k) * 2))).toArray 87 (0, 0)) :: pt b (.cells r.toArray 87 (0, 0)) :: F) := by
          obtain ⟨w2, h8, h9⟩ := run_copy (rt := 3) (xt := 61) (dl := l + 1 - (k + 1)) (dc := c - (k + 1)) elem_entry_int H1 (o := (k + 1) * 2) hsrc2 (by rw [Nat.min_eq_left (by omega)]; omega)
          rw [Nat.min_eq_left (by omega)] at h8 h9
          rw [List.take_take, Nat.min_self] at h9
          refine ⟨w2, ?_, h9⟩
          rw [← copy_longer (n := l - k) (m := l + 1 - k) (by omega) (by omega)]
          exact h8
        obtain ⟨w2, hrun2, H2⟩ := hrun2
        refine run_of hrun2 ⟨_, rfl, ?_⟩
        refine slb trivial trivial ⟨by omega, by simp only [bnd, Int.toNat_natCast]; omega⟩ fun _ _ _ e1 e2 e3 => ?_
        simp only [bnd, Int.toNat_natCast] at e1 e2 e3
        subst e1 e2 e3
        rw [slAt_some (.inl (by omega))]
        have hxl : ((all.drop (k * 2)).take ((l - k) * 2)).length = (l - k) * 2 := by simp only [List.length_take, List.length_drop]; omega
        have hlen2 : (splice all ((k + 1) * 2) ((all.drop (k * 2)).take ((l - k) * 2))).length = all.length := splice_length (by rw [hxl]; omega)
        obtain ⟨w3, hrun3, H3⟩ := run_copy (rt := 3) (xt := 61) (dl := l + 1 - k) (dc := c - k) elem_entry_int H2 (o := k * 2) (hsrc (H2.pull 1 rfl)) (by rw [hlen2, Nat.min_eq_left (by omega)]; omega)
        rw [Nat.min_eq_left (by omega)] at hrun3 H3
        rw [Nat.one_mul, List.take_of_length_le (l := r) (by omega), hmul1] at H3
        refine run_of hrun3 ⟨_, rfl, ?_⟩
        refine ⟨_, _, rfl, ?_⟩
        rw [hmul1] at hlen2
        have H4 := H3.shut_Sl (l := l + 1) (c := c) (sz := 2) hc (by rw [splice_length (by rw [hlen2, hr]; omega), hlen2]; exact h2)
        rw [hmul2, ins_list hr hall] at H4
        have e1 : all.take (k * 2) = cs.take (k * 2) := by rw [← h3, List.take_take, Nat.min_eq_left (by omega)]
        have e2 : (all.drop (k * 2)).take ((l - k) * 2) = cs.drop (k * 2) := by rw [← h3, List.drop_take]; congr 1; omega
        rw [e1, e2] at H4
        exact (H4.pull 1 rfl).drop


theorem spec.slices_Delete_tree_entry_int {g w : World} {F : List HP} {p : Option Addr} {l c : Nat} {cs : List Value} {i j : Int} {k : Nat}
    (H : Sat g w (Sl 87 2 p l c cs :: F)) (hcs : ∀ x ∈ cs, oneCell x = true) (hik : i = k) (hj : j = (k + 1 : Nat)) (hi : k < l) (hl : l < 1048576) :
    Calls prog f_slices_Delete_tree_entry_int #[.slice p l c, .int .i64 i, .int .i64 j] w
      fun e w' => e = .returned (.slice p (l - 1) c) ∧ Sat g w' (Sl 87 2 p (l - 1) c (cs.take (k * 2) ++ cs.drop (k * 2 + 2)) :: F) := by
  subst hik hj
  have hlen : cs.length = l * 2 := H.Sl_length
  have hle : l ≤ c := H.Sl_le
  refine ok.slices_Delete_tree_entry_int ?_
  unfold V.slices_Delete_tree_entry_int
  refine slb ⟨by omega, by omega⟩ ⟨by omega, by simp only [bnd, Int.toNat_natCast]; omega⟩ ⟨by omega, by simp only [bnd, Int.toNat_natCast]; omega⟩ fun _ _ _ _ _ _ => ?_
  refine br_f (by rw [beq_eq_false_iff_ne]; omega) ?_
  refine dr H fun w1 H1 => ?_
  refine slb trivial ⟨by omega, by simp only [bnd, Int.toNat_natCast]; omega⟩ trivial fun _ _ _ e1 e2 e3 => ?_
  simp only [bnd, Int.toNat_natCast] at e1 e2 e3
  subst e1 e2 e3
  refine slb trivial trivial ⟨by omega, by simp only [bnd, Int.toNat_natCast]; omega⟩ fun _ _ _ e1 e2 e3 => ?_
  simp only [bnd, Int.toNat_natCast] at e1 e2 e3
  subst e1 e2 e3
  rw [slAt_zero', Nat.sub_zero, Nat.sub_zero]
  have hmul1 : (k + 1) * 2 = k * 2 + 2 := by rw [Nat.add_mul, Nat.one_mul]
  have hmul3 : k * 2 + 2 + (l - (k + 1)) * 2 = l * 2 := by rw [← hmul1, ← Nat.add_mul]; congr 1; omega
  have hX : (cs.drop (k * 2 + 2)).length = (l - (k + 1)) * 2 := by simp only [List.length_drop, List.length_take, hlen]; omega
  have hsrc : Src prog w1 2 (.slice (slAt p (k + 1) c 2) (l - (k + 1)) (c - (k + 1))) (l - (k + 1)) (cs.drop (k * 2 + 2)) := by
    rcases H1.open_Sl with ⟨rfl, h0, _⟩ | ⟨b, all, rfl, h1, h2, h3, H2⟩
    · omega
    · have hall : l * 2 ≤ all.length := by have := Nat.mul_le_mul_right 2 h1; omega
      have e2 : (all.drop (k * 2 + 2)).take ((l - (k + 1)) * 2) = cs.drop (k * 2 + 2) := by rw [← h3, List.drop_take]; congr 1; omega
      by_cases hkc : k + 1 = c
      · have h4 : l - (k + 1) = 0 := by omega
        have h5 : slAt (some ⟨b, 0, none⟩) (k + 1) c 2 = some ⟨b, 0, none⟩ := by unfold slAt; rw [if_pos hkc.symm]
        have := H2.src (P := prog) (o := 0) 2 0 (c - (k + 1)) (by omega) (by simp)
        rw [h5, h4]
        have h6 : cs.drop (k * 2 + 2) = [] := List.eq_nil_of_length_eq_zero (by rw [hX, h4])
        rw [h6]
        simpa using this
      · rw [slAt_some (.inl hkc), hmul1, ← e2]
        exact H2.src (P := prog) (o := k * 2 + 2) 2 _ _ (by omega) (by rw [e2]; exact fun x hx => hcs x (List.mem_of_mem_drop hx))
  obtain ⟨p', c', w2, hrun, H2, hin⟩ := run_append (rt := 61) elem_entry_int notInt_entry_int (H1.Sl_fewer (i := k) (by omega)) (fun x hx => hcs x (List.mem_of_mem_take hx)) hsrc (by omega)
  obtain ⟨rfl, rfl⟩ := hin (by omega)
  have hkl : k + (l - (k + 1)) = l - 1 := by omega
  rw [hkl] at hrun H2
  refine run_of hrun ⟨_, _, _, rfl, ?_⟩
  refine slb trivial ⟨by omega, by simp only [bnd, Int.toNat_natCast]; omega⟩ ⟨by omega, by simp only [bnd, Int.toNat_natCast]; omega⟩ fun _ _ _ e1 e2 e3 => ?_
  simp only [bnd, Int.toNat_natCast] at e1 e2 e3
  subst e1 e2 e3
  rcases H2.open_Sl with ⟨rfl, h0, h00, _⟩ | ⟨b, all, rfl, h1, h2, h3, H3⟩
  · omega
  · rw [slAt_some (.inl (by omega))]
    have hmul4 : (l - 1) * 2 + (l - (l - 1)) * 2 = l * 2 := by rw [← Nat.add_mul]; congr 1; omega
    have hall : l * 2 ≤ all.length := by have := Nat.mul_le_mul_right 2 hle; omega
    obtain ⟨w3, hrun3, H4⟩ := run_clear (rt := 0) elem_entry_int H3 (o := (l - 1) * 2) (n := l - (l - 1)) (c := c' - (l - 1)) (by omega)
    refine run_of hrun3 ⟨rfl, ?_⟩
    have hzl : (Builtin.zeroCells #[.string (str []), .int .i64 0] (l - (l - 1))).toList.length = (l - (l - 1)) * 2 := zeroCells_toList (zs := [.string (str []), .int .i64 0]) _
    have hl2 : (splice all ((l - 1) * 2) (Builtin.zeroCells #[.string (str []), .int .i64 0] (l - (l - 1))).toList).length = all.length := splice_length (by rw [hzl]; omega)
    have H5 := H4.shut_Sl (l := l - 1) (c := c') (sz := 2) (by omega) (by rw [hl2]; exact h2)
    rw [splice_take (Nat.le_refl _) (by omega), h3] at H5
    exact H5

theorem spec.slices_Clone_tree_entry_int {g w : World} {F : List HP} {b o l c : Nat} {all : List Value}
    (H : Sat g w (pt b (.cells all.toArray 87 (0, 0)) :: F)) (ho : o + l * 2 ≤ all.length) (hcs : ∀ x ∈ (all.drop o).take (l * 2), oneCell x = true) (hl : l < 1048576) :
    Calls prog f_slices_Clone_tree_entry_int #[.slice (some ⟨b, o, none⟩) l c] w
      fun e w' => ∃ p' c', e = .returned (.slice p' l c') ∧ Sat g w' (Sl 87 2 p' l c' ((all.drop o).take (l * 2)) :: pt b (.cells all.toArray 87 (0, 0)) :: F) := by
  refine ok.slices_Clone_tree_entry_int ?_
  unfold V.slices_Clone_tree_entry_int
  refine br_f rfl ?_
  refine al H fun b1 w1 H1 => ?_
  have hsrc := (H1.pull 1 rfl).src (P := prog) (o := o) 2 l c ho hcs
  have H2 : Sat g w1 (Sl 87 2 (some ⟨b1, 0, none⟩) 0 0 [] :: pt b (.cells all.toArray 87 (0, 0)) :: F) := by
    have := H1.shut_Sl (all := []) (l := 0) (c := 0) (sz := 2) (by omega) (by simp)
    simpa using this
  obtain ⟨p', c', w2, hrun, H3, _⟩ := run_append (rt := 61) elem_entry_int notInt_entry_int H2 (by simp) hsrc (by omega)
  rw [Nat.zero_add] at hrun H3
  refine run_of hrun ⟨_, _, _, rfl, _, _, rfl, ?_⟩
  simpa using H3
/-! #### slices of page_int -/
theorem elem_page_int : ElemT prog 64 60 1 8 [.pointer none] where
  under := by kernel_rfl
  info := by
    obtain ⟨i, hi⟩ : ∃ i, prog.info? 60 = some i := Option.isSome_iff_exists.1 (by kernel_rfl)
    have h1 : (prog.info? 60).map (fun i => (i.size, i.bytes, i.zero.map Value.cells)) = some (1, 8, some #[.pointer none]) := by kernel_rfl
    rw [hi] at h1
    simp only [Option.map_some, Option.some.injEq, Prod.mk.injEq] at h1
    obtain ⟨h1, h2, h3⟩ := h1
    cases hz : i.zero with
    | none => rw [hz] at h3; cases h3
    | some z =>
      rw [hz] at h3
      simp only [Option.map_some, Option.some.injEq] at h3
      exact ⟨i, hi, h1, h2, z, hz, h3⟩
  len := rfl
  pos := by decide
  small := by decide
  one := by simp [oneCell]

theorem notInt_page_int : ∃ d, prog.underlying 64 = some d ∧ isInt d = false := ⟨_, elem_page_int.under, rfl⟩

theorem spec.slices_Insert_ptr_tree_page_int {g w : World} {F : List HP} {p : Option Addr} {l c : Nat} {cs : List Value} {b : Nat} {r : List Value} {i : Int} {k : Nat}
    (H : Sat g w (Sl 60 1 p l c cs :: pt b (.cells r.toArray 60 (0, 0)) :: F)) (hr : r.length = 1) (hro : ∀ x ∈ r, oneCell x = true) (hcs : ∀ x ∈ cs, oneCell x = true) (hik : i = k) (hi : k ≤ l) (hl : l < 1048576) :
    Calls prog f_slices_Insert_ptr_tree_page_int #[.slice p l c, .int .i64 i, .slice (some ⟨b, 0, none⟩) 1 1] w
      fun e w' => ∃ p' c', e = .returned (.slice p' (l + 1) c') ∧ Sat g w' (Sl 60 1 p' (l + 1) c' (cs.take (k * 1) ++ r ++ cs.drop (k * 1)) :: F) := by
  subst hik
  have hlen : cs.length = l * 1 := H.Sl_length
  have hle : l ≤ c := H.Sl_le
  refine ok.slices_Insert_ptr_tree_page_int ?_
  unfold V.slices_Insert_ptr_tree_page_int
  refine slb trivial trivial ⟨by omega, by simp only [bnd, Int.toNat_natCast]; omega⟩ fun _ _ _ _ _ _ => ?_
  refine br_f rfl ?_
  have hsrc : ∀ {w : World} {F : List HP}, Sat g w (pt b (.cells r.toArray 60 (0, 0)) :: F) → Src prog w 1 (.slice (some ⟨b, 0, none⟩) 1 1) 1 r := fun H => by
    have := H.src (P := prog) (o := 0) 1 1 1 (by rw [hr]; decide) (by rw [List.drop_zero, List.take_of_length_le (by rw [hr]; decide)]; exact hro)
    rwa [List.drop_zero, List.take_of_length_le (by rw [hr]; decide)] at this
  refine br (fun he => ?_) (fun hne => ?_)
  · -- at the end
    have he : k = l := by have := beq_iff_eq.1 he; omega
    subst he
    obtain ⟨p', c', w', hrun, H', _⟩ := run_append (rt := 64) elem_page_int notInt_page_int H hcs (hsrc (H.pull 1 rfl)) (by omega)
    refine run_of hrun ⟨p', k + 1, c', rfl, p', c', rfl, ?_⟩
    rw [List.take_of_length_le (by omega), List.drop_of_length_le (by omega), List.append_nil]
    exact (H'.pull 1 rfl).drop
  · have hkl : k < l := by
      have : ¬ ((k : Int) = (l : Int)) := by simpa using hne
      omega
    have hwr : IntKind.wrap .i64 ((l : Int) + ((1 : Nat) : Int)) = ((l + 1 : Nat) : Int) := by rw [wrap_id (by omega) (by omega)]; omega
    have hwi : IntKind.wrap .i64 ((k : Int) + ((1 : Nat) : Int)) = ((k + 1 : Nat) : Int) := by rw [wrap_id (by omega) (by omega)]; omega
    have hwn : IntKind.wrap .i64 (((l + 1 : Nat) : Int) - (k : Int)) = ((l + 1 - k : Nat) : Int) := by rw [wrap_id (by omega) (by omega)]; omega
    have hmul1 : (k + 1) * 1 = k * 1 + 1 := by rw [Nat.add_mul, Nat.one_mul]
    have hmul2 : (l + 1) * 1 = k * 1 + (l - k) * 1 + 1 := by rw [Nat.add_mul, Nat.one_mul, ← Nat.add_mul]; congr 2; omega
    have hmul3 : k * 1 + (l - k) * 1 = l * 1 := by rw [← Nat.add_mul]; congr 1; omega
    rw [hwr, hwi, hwn]
    refine br (fun hc => ?_) (fun hc => ?_)
    · -- a new array
      have hc : c < l + 1 := by have := of_decide_eq_true hc; omega
      have hcl : c = l := by omega
      refine slb trivial ⟨by omega, by simp only [bnd, Int.toNat_natCast]; omega⟩ trivial fun _ _ _ e1 e2 e3 => ?_
      simp only [bnd, Int.toNat_natCast] at e1 e2 e3
      subst e1 e2 e3
      rw [slAt_zero', Nat.sub_zero, Nat.sub_zero]
      obtain ⟨b2, c2, w1, hrun, H1⟩ := run_append_make (rt := 64) (i := k) (n := l + 1 - k) (c0 := c) elem_page_int ⟨.i64, by kernel_rfl⟩ H hcs (by omega) (by omega) (by omega) (by omega)
      have hk1 : k + (l + 1 - k) = l + 1 := by omega
      rw [hk1] at hrun H1
      refine run_of hrun ⟨_, _, _, rfl, ?_⟩
      have hc2 : l + 1 ≤ c2 := H1.Sl_le
      refine slb trivial trivial ⟨by omega, by simp only [bnd, Int.toNat_natCast]; omega⟩ fun _ _ _ e1 e2 e3 => ?_
      simp only [bnd, Int.toNat_natCast] at e1 e2 e3
      subst e1 e2 e3
      rw [slAt_some (.inl (by omega))]
      rcases H1.open_Sl with ⟨h0, _⟩ | ⟨b2', all, hb2, h1, h2, h3, H1⟩
      · cases h0
      · obtain rfl : b2 = b2' := by have := Option.some.inj hb2; simpa using congrArg Addr.block this
        have hall : k * 1 + (l - k) * 1 + 1 ≤ all.length := by
          have := Nat.mul_le_mul_right 1 hc2
          omega
        have H2 := (H1.pull 2 rfl)
        obtain ⟨w2, hrun2, H2⟩ := run_copy (rt := 3) (xt := 64) (dl := l + 1 - k) (dc := c2 - k) elem_page_int H1 (o := k * 1) (hsrc H2) (by rw [Nat.min_eq_left (by omega)]; omega)
        rw [Nat.min_eq_left (by omega), Nat.one_mul, List.take_of_length_le (l := r) (by omega)] at H2
        rw [Nat.min_eq_left (by omega)] at hrun2
        refine run_of hrun2 ⟨_, rfl, ?_⟩
        refine dr H2 fun w3 H3 => ?_
        refine slb trivial trivial ⟨by omega, by simp only [bnd, Int.toNat_natCast]; omega⟩ fun _ _ _ e1 e2 e3 => ?_
        simp only [bnd, Int.toNat_natCast] at e1 e2 e3
        subst e1 e2 e3
        refine slb trivial trivial ⟨by omega, by simp only [bnd, Int.toNat_natCast]; omega⟩ fun _ _ _ e1 e2 e3 => ?_
        simp only [bnd, Int.toNat_natCast] at e1 e2 e3
        subst e1 e2 e3
        -- the old array's tail
        have H4 := H3.pull 1 rfl
        rcases H4.open_Sl with ⟨rfl, h0, _⟩ | ⟨b4, all4, rfl, h5, h6, h7, H5⟩
        · omega
        · have hsrc2 := H5.src (P := prog) (o := k * 1) 1 (l - k) (l - k) (by have := Nat.mul_le_mul_right 1 h5; omega) (by
            intro x hx
            refine hcs x ?_
            rw [← h7]
            have : (all4.drop (k * 1)).take ((l - k) * 1) = (all4.take (l * 1)).drop (k * 1) := by rw [List.drop_take]; congr 1; omega
            rw [this] at hx
            exact List.mem_of_mem_drop hx)
          rw [slAt_some (.inl (by omega)), slAt_some (.inl (by omega))]
          have hcc : c - k = l - k := by omega
          rw [hcc]
          have hlen2 : (splice all (k * 1) r).length = all.length := splice_length (by omega)
          obtain ⟨w4, hrun4, H6⟩ := run_copy (rt := 3) (xt := 64) (dl := l + 1 - (k + 1)) (dc := c2 - (k + 1)) elem_page_int H3 (o := (k + 1) * 1) hsrc2 (by rw [hlen2, Nat.min_eq_left (by omega)]; omega)
          rw [Nat.min_eq_left (by omega)] at H6 hrun4
          refine run_of hrun4 ⟨_, rfl, ?_⟩
          refine ⟨_, _, rfl, ?_⟩
          have hX : ((all4.drop (k * 1)).take ((l - k) * 1)) = cs.drop (k * 1) := by
            rw [← h7, List.drop_take]; congr 1; omega
          rw [hX, List.take_of_length_le (by simp only [List.length_drop, List.length_take, hlen]; omega), hmul1] at H6
          have hdl : (cs.drop (k * 1)).length = (l - k) * 1 := by simp only [List.length_drop, List.length_take, hlen]; omega
          have H7 := H6.shut_Sl (l := l + 1) (c := c2) (sz := 1) hc2 (by rw [splice_length (by rw [hlen2, hdl]; omega), hlen2]; exact h2)
          have hpre : all.take (k * 1) = cs.take (k * 1) := by
            have := congrArg (List.take (k * 1)) h3
            rw [List.take_take, Nat.min_eq_left (by omega), List.take_append_of_le_length (by simp only [List.length_drop, List.length_take, hlen]; omega), List.take_take, Nat.min_self] at this
            exact this
          rw [hmul2, grow_list hr hdl hall, hpre] at H7
          exact ((H7.pull 2 rfl).drop.pull 1 rfl).drop
    · -- in its own array
      have hc : l + 1 ≤ c := by have := of_decide_eq_false hc; omega
      refine slb trivial ⟨by omega, by simp only [bnd, Int.toNat_natCast]; omega⟩ trivial fun _ _ _ e1 e2 e3 => ?_
      simp only [bnd, Int.toNat_natCast] at e1 e2 e3
      subst e1 e2 e3
      rw [slAt_zero', Nat.sub_zero, Nat.sub_zero]
      refine slb trivial trivial ⟨by omega, by simp only [bnd, Int.toNat_natCast]; omega⟩ fun _ _ _ e1 e2 e3 => ?_
      simp only [bnd, Int.toNat_natCast] at e1 e2 e3
      subst e1 e2 e3
      rcases H.open_Sl with ⟨rfl, h0, _⟩ | ⟨b2, all, rfl, h1, h2, h3, H1⟩
      · omega
      · have hall : k * 1 + (l - k) * 1 + 1 ≤ all.length := by
          have := Nat.mul_le_mul_right 1 hc
          omega
        rw [slAt_some (.inl (by omega))]
        refine ext_overlaps (st := 64) (rt := 4) (et := 60) Try.func67 (by kernel_rfl) (by kernel_rfl) (by kernel_rfl) (by kernel_rfl) elem_page_int (H1.pull 1 rfl) (by simp; intro h0; rw [h0] at hall; simp at hall) ⟨_, rfl, ?_⟩
        refine br_t rfl ?_
        refine dr H1 fun w1 H1 => ?_
        refine slb trivial trivial ⟨by omega, by simp only [bnd, Int.toNat_natCast]; omega⟩ fun _ _ _ e1 e2 e3 => ?_
        simp only [bnd, Int.toNat_natCast] at e1 e2 e3
        subst e1 e2 e3
        refine slb trivial trivial ⟨by omega, by simp only [bnd, Int.toNat_natCast]; omega⟩ fun _ _ _ e1 e2 e3 => ?_
        simp only [bnd, Int.toNat_natCast] at e1 e2 e3
        subst e1 e2 e3
        rw [slAt_some (.inl (by omega)), slAt_some (.inl (by omega))]
        have hone : ∀ x ∈ (all.drop (k * 1)).take ((l - k) * 1), oneCell x = true := by
          intro x hx
          refine hcs x ?_
          rw [← h3]
          have : (all.drop (k * 1)).take ((l - k) * 1) = (all.take (l * 1)).drop (k * 1) := by rw [List.drop_take]; congr 1; omega
          rw [this] at hx
          exact List.mem_of_mem_drop hx
        -- the part that is moved: its last element is spare, and is not read
        have hsrc2 : Src prog w1 1 (.slice (some ⟨b2, k * 1, none⟩) (l - k) (c - k)) (l - k) ((all.drop (k * 1)).take ((l - k) * 1)) :=
          H1.src (P := prog) (o := k * 1) 1 (l - k) (c - k) (by omega) hone
        have hrun2 : ∃ w2, (Builtin.copy_ #[64, 64] 3 #[.slice (some ⟨b2, (k + 1) * 1, none⟩) (l + 1 - (k + 1)) (c - (k + 1)), .slice (some ⟨b2, k * 1, none⟩) (l + 1 - k) (c - k)]).run prog w1 = .ok (.int .i64 ((l - k : Nat) : Int)) w2 ∧
            Sat g w2 (pt b2 (.cells (splice all ((k + 1) * 1) ((all.drop (k * 1)).take ((l - k) * 1))).toArray 60 (0, 0)) :: pt b (.cells r.toArray 60 (0, 0)) :: F) := by
          obtain ⟨w2, h8, h9⟩ := run_copy (rt := 3) (xt := 64) (dl := l + 1 - (k + 1)) (dc := c - (k + 1)) elem_page_int H1 (o := (k + 1) * 1) hsrc2 (by rw [Nat.min_eq_left (by omega)]; omega)
          rw [Nat.min_eq_left (by omega)] at h8 h9
          rw [List.take_take, Nat.min_self] at h9
          refine ⟨w2, ?_, h9⟩
          rw [← copy_longer (n := l - k) (m := l + 1 - k) (by omega) (by omega)]
          exact h8
        obtain ⟨w2, hrun2, H2⟩ := hrun2
        refine run_of hrun2 ⟨_, rfl, ?_⟩
        refine slb trivial trivial ⟨by omega, by simp only [bnd, Int.toNat_natCast]; omega⟩ fun _ _ _ e1 e2 e3 => ?_
        simp only [bnd, Int.toNat_natCast] at e1 e2 e3
        subst e1 e2 e3
        rw [slAt_some (.inl (by omega))]
        have hxl : ((all.drop (k * 1)).take ((l - k) * 1)).length = (l - k) * 1 := by simp only [List.length_take, List.length_drop]; omega
        have hlen2 : (splice all ((k + 1) * 1) ((all.drop (k * 1)).take ((l - k) * 1))).length = all.length := splice_length (by rw [hxl]; omega)
        obtain ⟨w3, hrun3, H3⟩ := run_copy (rt := 3) (xt := 64) (dl := l + 1 - k) (dc := c - k) elem_page_int H2 (o := k * 1) (hsrc (H2.pull 1 rfl)) (by rw [hlen2, Nat.min_eq_left (by omega)]; omega)
        rw [Nat.min_eq_left (by omega)] at hrun3 H3
        rw [Nat.one_mul, List.take_of_length_le (l := r) (by omega), hmul1] at H3
        refine run_of hrun3 ⟨_, rfl, ?_⟩
        refine ⟨_, _, rfl, ?_⟩
        rw [hmul1] at hlen2
        have H4 := H3.shut_Sl (l := l + 1) (c := c) (sz := 1) hc (by rw [splice_length (by rw [hlen2, hr]; omega), hlen2]; exact h2)
        rw [hmul2, ins_list hr hall] at H4
        have e1 : all.take (k * 1) = cs.take (k * 1) := by rw [← h3, List.take_take, Nat.min_eq_left (by omega)]
        have e2 : (all.drop (k * 1)).take ((l - k) * 1) = cs.drop (k * 1) := by rw [← h3, List.drop_take]; congr 1; omega
        rw [e1, e2] at H4
        exact (H4.pull 1 rfl).drop


theorem spec.slices_Delete_ptr_tree_page_int {g w : World} {F : List HP} {p : Option Addr} {l c : Nat} {cs : List Value} {i j : Int} {k : Nat}
    (H : Sat g w (Sl 60 1 p l c cs :: F)) (hcs : ∀ x ∈ cs, oneCell x = true) (hik : i = k) (hj : j = (k + 1 : Nat)) (hi : k < l) (hl : l < 1048576) :
    Calls prog f_slices_Delete_ptr_tree_page_int #[.slice p l c, .int .i64 i, .int .i64 j] w
      fun e w' => e = .returned (.slice p (l - 1) c) ∧ Sat g w' (Sl 60 1 p (l - 1) c (cs.take (k * 1) ++ cs.drop (k * 1 + 1)) :: F) := by
  subst hik hj
  have hlen : cs.length = l * 1 := H.Sl_length
  have hle : l ≤ c := H.Sl_le
  refine ok.slices_Delete_ptr_tree_page_int ?_
  unfold V.slices_Delete_ptr_tree_page_int
  refine slb ⟨by omega, by omega⟩ ⟨by omega, by simp only [bnd, Int.toNat_natCast]; omega⟩ ⟨by omega, by simp only [bnd, Int.toNat_natCast]; omega⟩ fun _ _ _ _ _ _ => ?_
  refine br_f (by rw [beq_eq_false_iff_ne]; omega) ?_
  refine dr H fun w1 H1 => ?_
  refine slb trivial ⟨by omega, by simp only [bnd, Int.toNat_natCast]; omega⟩ trivial fun _ _ _ e1 e2 e3 => ?_
  simp only [bnd, Int.toNat_natCast] at e1 e2 e3
  subst e1 e2 e3
  refine slb trivial trivial ⟨by omega, by simp only [bnd, Int.toNat_natCast]; omega⟩ fun _ _ _ e1 e2 e3 => ?_
  simp only [bnd, Int.toNat_natCast] at e1 e2 e3
  subst e1 e2 e3
  rw [slAt_zero', Nat.sub_zero, Nat.sub_zero]
  have hmul1 : (k + 1) * 1 = k * 1 + 1 := by rw [Nat.add_mul, Nat.one_mul]
  have hmul3 : k * 1 + 1 + (l - (k + 1)) * 1 = l * 1 := by rw [← hmul1, ← Nat.add_mul]; congr 1; omega
  have hX : (cs.drop (k * 1 + 1)).length = (l - (k + 1)) * 1 := by simp only [List.length_drop, List.length_take, hlen]; omega
  have hsrc : Src prog w1 1 (.slice (slAt p (k + 1) c 1) (l - (k + 1)) (c - (k + 1))) (l - (k + 1)) (cs.drop (k * 1 + 1)) := by
    rcases H1.open_Sl with ⟨rfl, h0, _⟩ | ⟨b, all, rfl, h1, h2, h3, H2⟩
    · omega
    · have hall : l * 1 ≤ all.length := by have := Nat.mul_le_mul_right 1 h1; omega
      have e2 : (all.drop (k * 1 + 1)).take ((l - (k + 1)) * 1) = cs.drop (k * 1 + 1) := by rw [← h3, List.drop_take]; congr 1; omega
      by_cases hkc : k + 1 = c
      · have h4 : l - (k + 1) = 0 := by omega
        have h5 : slAt (some ⟨b, 0, none⟩) (k + 1) c 1 = some ⟨b, 0, none⟩ := by unfold slAt; rw [if_pos hkc.symm]
        have := H2.src (P := prog) (o := 0) 1 0 (c - (k + 1)) (by omega) (by simp)
        rw [h5, h4]
        have h6 : cs.drop (k * 1 + 1) = [] := List.eq_nil_of_length_eq_zero (by rw [hX, h4])
        rw [h6]
        simpa using this
      · rw [slAt_some (.inl hkc), hmul1, ← e2]
        exact H2.src (P := prog) (o := k * 1 + 1) 1 _ _ (by omega) (by rw [e2]; exact fun x hx => hcs x (List.mem_of_mem_drop hx))
  obtain ⟨p', c', w2, hrun, H2, hin⟩ := run_append (rt := 64) elem_page_int notInt_page_int (H1.Sl_fewer (i := k) (by omega)) (fun x hx => hcs x (List.mem_of_mem_take hx)) hsrc (by omega)
  obtain ⟨rfl, rfl⟩ := hin (by omega)
  have hkl : k + (l - (k + 1)) = l - 1 := by omega
  rw [hkl] at hrun H2
  refine run_of hrun ⟨_, _, _, rfl, ?_⟩
  refine slb trivial ⟨by omega, by simp only [bnd, Int.toNat_natCast]; omega⟩ ⟨by omega, by simp only [bnd, Int.toNat_natCast]; omega⟩ fun _ _ _ e1 e2 e3 => ?_
  simp only [bnd, Int.toNat_natCast] at e1 e2 e3
  subst e1 e2 e3
  rcases H2.open_Sl with ⟨rfl, h0, h00, _⟩ | ⟨b, all, rfl, h1, h2, h3, H3⟩
  · omega
  · rw [slAt_some (.inl (by omega))]
    have hmul4 : (l - 1) * 1 + (l - (l - 1)) * 1 = l * 1 := by rw [← Nat.add_mul]; congr 1; omega
    have hall : l * 1 ≤ all.length := by have := Nat.mul_le_mul_right 1 hle; omega
    obtain ⟨w3, hrun3, H4⟩ := run_clear (rt := 0) elem_page_int H3 (o := (l - 1) * 1) (n := l - (l - 1)) (c := c' - (l - 1)) (by omega)
    refine run_of hrun3 ⟨rfl, ?_⟩
    have hzl : (Builtin.zeroCells #[.pointer none] (l - (l - 1))).toList.length = (l - (l - 1)) * 1 := zeroCells_toList (zs := [.pointer none]) _
    have hl2 : (splice all ((l - 1) * 1) (Builtin.zeroCells #[.pointer none] (l - (l - 1))).toList).length = all.length := splice_length (by rw [hzl]; omega)
    have H5 := H4.shut_Sl (l := l - 1) (c := c') (sz := 1) (by omega) (by rw [hl2]; exact h2)
    rw [splice_take (Nat.le_refl _) (by omega), h3] at H5
    exact H5

theorem spec.slices_Clone_ptr_tree_page_int {g w : World} {F : List HP} {b o l c : Nat} {all : List Value}
    (H : Sat g w (pt b (.cells all.toArray 60 (0, 0)) :: F)) (ho : o + l * 1 ≤ all.length) (hcs : ∀ x ∈ (all.drop o).take (l * 1), oneCell x = true) (hl : l < 1048576) :
    Calls prog f_slices_Clone_ptr_tree_page_int #[.slice (some ⟨b, o, none⟩) l c] w
      fun e w' => ∃ p' c', e = .returned (.slice p' l c') ∧ Sat g w' (Sl 60 1 p' l c' ((all.drop o).take (l * 1)) :: pt b (.cells all.toArray 60 (0, 0)) :: F) := by
  refine ok.slices_Clone_ptr_tree_page_int ?_
  unfold V.slices_Clone_ptr_tree_page_int
  refine br_f rfl ?_
  refine al H fun b1 w1 H1 => ?_
  have hsrc := (H1.pull 1 rfl).src (P := prog) (o := o) 1 l c ho hcs
  have H2 : Sat g w1 (Sl 60 1 (some ⟨b1, 0, none⟩) 0 0 [] :: pt b (.cells all.toArray 60 (0, 0)) :: F) := by
    have := H1.shut_Sl (all := []) (l := 0) (c := 0) (sz := 1) (by omega) (by simp)
    simpa using this
  obtain ⟨p', c', w2, hrun, H3, _⟩ := run_append (rt := 64) elem_page_int notInt_page_int H2 (by simp) hsrc (by omega)
  rw [Nat.zero_add] at hrun H3
  refine run_of hrun ⟨_, _, _, rfl, _, _, rfl, ?_⟩
  simpa using H3

end Go.Proofs.Ytohhoojcgcbmcaa
