import Derived.Test.YtohhoojcgcbmcaaQ5
set_option maxRecDepth 4000
set_option linter.unusedVariables false
set_option linter.unusedSimpArgs false
namespace Go.Proofs.Ytohhoojcgcbmcaa
open Go Go.Vc Go.Sl Go.Tr Go.Proofs
/-! #### mend, of int -/
theorem kid_read_int {g w : World} {F : List HP} {d : Nat} {t : Row Int d} {b : Nat} {qs : List Nat} (H : Sat g w (Nd_int b t.1 qs :: Kids Page_int t.2 qs :: F)) :
    ∃ pb cb, w.cell? ⟨b, 1, none⟩ = some (.slice pb t.2.length cb) ∧ ∀ n, n < t.2.length → ∃ a q : Nat, pb = some ⟨a, 0, none⟩ ∧ qs[n]? = some q ∧ w.cell? ⟨a, n * 1, none⟩ = some (.pointer (some ⟨q, 0, none⟩)) ∧
      ∃ pe ce, w.cell? ⟨q, 0, none⟩ = some (.slice pe (fill t.2 n) ce) := by
  have hl := Kids_length (H.pull 1 rfl)
  obtain ⟨pe, ce, pb, cb, f0, f1, fe, fk⟩ := facts_int H
  rw [← hl] at f1
  refine ⟨pb, cb, f1, fun n hn => ?_⟩
  obtain ⟨c, hc⟩ : ∃ c, t.2[n]? = some c := ⟨_, List.getElem?_eq_getElem hn⟩
  obtain ⟨q, hq, H1⟩ := Kids_one (H.pull 1 rfl) hc
  obtain ⟨a, ha, hk⟩ := fk n q hq
  obtain ⟨kq, H2⟩ := open_Page_int H1
  obtain ⟨pe2, ce2, pb2, cb2, g0, _⟩ := facts_int H2
  refine ⟨a, q, ha, hq, hk, pe2, ce2, ?_⟩
  unfold fill
  rw [hc]
  exact g0

theorem spec.tree_page_int_mend {g w : World} {F : List HP} {d : Nat} {t : Row Int d} {b : Nat} {qs : List Nat} {i : Int} {n : Nat} (H : Sat g w (Nd_int b t.1 qs :: Kids Page_int t.2 qs :: F)) (ht : Row.Ok t) (hin : i = n) (hn : n < t.2.length) :
    Calls prog f_tree_page_int_mend #[.pointer (some ⟨b, 0, none⟩), .int .i64 i] w
      fun e w' => e = .returned (.tuple #[]) ∧ ∃ qs', Sat g w' (Nd_int b (mendP t n).1 qs' :: Kids Page_int (mendP t n).2 qs' :: F) := by
  subst hin
  have hs := ht.small
  have hl := ht.len
  have h2 := ht.two
  obtain ⟨pb, cb, f1, fk⟩ := kid_read_int H
  obtain ⟨a, q, rfl, hq, hk, pe, ce, hc⟩ := fk n hn
  refine ok.tree_page_int_mend ?_
  unfold V.tree_page_int_mend
  refine ⟨_, rfl, _, _, _, f1, _, rfl, ⟨by omega, by omega⟩, ?_⟩
  rw [Int.toNat_natCast, addr_add]
  refine ⟨_, hk, _, rfl, _, _, _, hc, ?_⟩
  refine br (fun h => ⟨rfl, qs, ?_⟩) (fun h => ?_)
  · have h : 2 ≤ fill t.2 n := by have := of_decide_eq_true h; omega
    have e1 : mendP t n = t := by unfold mendP; rw [if_pos h]
    rw [e1]; exact H
  · have h : ¬ 2 ≤ fill t.2 n := by have := of_decide_eq_false h; omega
    refine jnb (fun x => x = decide (0 < n ∧ 2 < fill t.2 (n - 1))) (fun J hJ => ?_) (fun x hx => ?_)
    · refine br (fun h0 => ?_) (fun h0 => hJ _ ?_)
      · have h0 : 0 < n := by have := of_decide_eq_true h0; omega
        have hw : IntKind.wrap .i64 ((n : Int) - (1 : Int)) = ((n - 1 : Nat) : Int) := by rw [wrap_id (by omega) (by omega)]; omega
        rw [hw]
        obtain ⟨a', q', ha', hq', hk', pe', ce', hc'⟩ := fk (n - 1) (by omega)
        obtain rfl : a = a' := by have := Option.some.inj ha'; simpa using congrArg Addr.block this
        refine ⟨_, rfl, _, _, _, f1, _, rfl, ⟨by omega, by omega⟩, ?_⟩
        rw [Int.toNat_natCast, addr_add]
        refine ⟨_, hk', _, rfl, _, _, _, hc', hJ _ ?_⟩
        rw [decide_eq_decide]
        constructor
        · intro hh; exact ⟨h0, by omega⟩
        · intro hh; omega
      · have h0 : ¬ 0 < n := by have := of_decide_eq_false h0; omega
        rw [eq_comm, decide_eq_false_iff_not]
        exact fun hh => h0 hh.1
    · subst hx
      refine br (fun h1 => ?_) (fun h1 => ?_)
      · have h1 : 0 < n ∧ 2 < fill t.2 (n - 1) := of_decide_eq_true h1
        have hw : IntKind.wrap .i64 ((n : Int) - (1 : Int)) = ((n - 1 : Nat) : Int) := by rw [wrap_id (by omega) (by omega)]; omega
        rw [hw]
        refine (spec.right_int (n := n - 1) H ht rfl (by omega) (by omega)).mono ?_
        rintro e w' ⟨rfl, qs', H'⟩
        refine ⟨rfl, rfl, qs', ?_⟩
        have e1 : mendP t n = rightP t (n - 1) := by unfold mendP; rw [if_neg h, if_pos h1]
        rw [e1]; exact H'
      · have h1 : ¬ (0 < n ∧ 2 < fill t.2 (n - 1)) := of_decide_eq_false h1
        refine jnb (fun x => x = decide (n + 1 < t.2.length ∧ 2 < fill t.2 (n + 1))) (fun J hJ => ?_) (fun x hx => ?_)
        · have hw : IntKind.wrap .i64 (((t.2.length : Nat) : Int) - (1 : Int)) = ((t.2.length - 1 : Nat) : Int) := by rw [wrap_id (by omega) (by omega)]; omega
          refine ⟨_, rfl, _, _, _, f1, ?_⟩
          rw [hw]
          refine br (fun h0 => ?_) (fun h0 => hJ _ ?_)
          · have h0 : n + 1 < t.2.length := by have := of_decide_eq_true h0; omega
            have hw1 : IntKind.wrap .i64 ((n : Int) + (1 : Int)) = ((n + 1 : Nat) : Int) := by rw [wrap_id (by omega) (by omega)]; omega
            rw [hw1]
            obtain ⟨a', q', ha', hq', hk', pe', ce', hc'⟩ := fk (n + 1) h0
            obtain rfl : a = a' := by have := Option.some.inj ha'; simpa using congrArg Addr.block this
            refine ⟨_, rfl, _, _, _, f1, _, rfl, ⟨by omega, by omega⟩, ?_⟩
            rw [Int.toNat_natCast, addr_add]
            refine ⟨_, hk', _, rfl, _, _, _, hc', hJ _ ?_⟩
            rw [decide_eq_decide]
            constructor
            · intro hh; exact ⟨h0, by omega⟩
            · intro hh; omega
          · have h0 : ¬ n + 1 < t.2.length := by have := of_decide_eq_false h0; omega
            rw [eq_comm, decide_eq_false_iff_not]
            exact fun hh => h0 hh.1
        · subst hx
          refine br (fun h3 => ?_) (fun h3 => ?_)
          · have h3 : n + 1 < t.2.length ∧ 2 < fill t.2 (n + 1) := of_decide_eq_true h3
            refine (spec.left_int (n := n) H ht rfl (by omega) (by omega)).mono ?_
            rintro e w' ⟨rfl, qs', H'⟩
            refine ⟨rfl, rfl, qs', ?_⟩
            have e1 : mendP t n = leftP t n := by unfold mendP; rw [if_neg h, if_neg h1, if_pos h3]
            rw [e1]; exact H'
          · have h3 : ¬ (n + 1 < t.2.length ∧ 2 < fill t.2 (n + 1)) := of_decide_eq_false h3
            refine br (fun h4 => ?_) (fun h4 => ?_)
            · have h4 : 0 < n := by have := of_decide_eq_true h4; omega
              have hw : IntKind.wrap .i64 ((n : Int) - (1 : Int)) = ((n - 1 : Nat) : Int) := by rw [wrap_id (by omega) (by omega)]; omega
              rw [hw]
              refine (spec.join_int (n := n - 1) H ht rfl (by omega)).mono ?_
              rintro e w' ⟨rfl, qs', H'⟩
              refine ⟨rfl, rfl, qs', ?_⟩
              have e1 : mendP t n = joinP t (n - 1) := by unfold mendP; rw [if_neg h, if_neg h1, if_neg h3, if_pos h4]
              rw [e1]; exact H'
            · have h4 : ¬ 0 < n := by have := of_decide_eq_false h4; omega
              refine (spec.join_int (n := n) H ht rfl (by omega)).mono ?_
              rintro e w' ⟨rfl, qs', H'⟩
              refine ⟨rfl, rfl, qs', ?_⟩
              have e1 : mendP t n = joinP t n := by unfold mendP; rw [if_neg h, if_neg h1, if_neg h3, if_neg h4]
              rw [e1]; exact H'

end Go.Proofs.Ytohhoojcgcbmcaa
