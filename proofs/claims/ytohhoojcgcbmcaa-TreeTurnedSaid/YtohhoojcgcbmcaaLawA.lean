/- Slices of strings, and what they are compared by. -/
import Derived.Test.YtohhoojcgcbmcaaV1
import Derived.Test.YtohhoojcgcbmcaaSlOps3
import Derived.Test.YtohhoojcgcbmcaaNode2
import Derived.Test.YtohhoojcgcbmcaaOrd
set_option maxRecDepth 4000
set_option linter.unusedVariables false
set_option linter.unusedSimpArgs false
namespace Go.Proofs.Ytohhoojcgcbmcaa
open Go Go.Vc Go.Sl Go.Tr Go.Proofs
theorem elem_string : ElemT prog 29 9 1 16 [.string (str [])] where
  under := by kernel_rfl
  info := by
    obtain ⟨i, hi⟩ : ∃ i, prog.info? 9 = some i := Option.isSome_iff_exists.1 (by kernel_rfl)
    have h1 : (prog.info? 9).map (fun i => (i.size, i.bytes, i.zero.map Value.cells)) = some (1, 16, some #[.string (str [])]) := by kernel_rfl
    rw [hi] at h1
    simp only [Option.map_some, Option.some.injEq, Prod.mk.injEq] at h1
    obtain ⟨h1, h2, h3⟩ := h1
    cases hz : i.zero with
    | none => rw [hz] at h3; cases h3
    | some z =>
      rw [hz] at h3
      simp only [Option.map_some, Option.some.injEq] at h3
      exact ⟨i, hi, h1, h2, z, hz, h3⟩
  len := rfl
  pos := by decide
  small := by decide
  one := by simp [oneCell]

theorem notInt_string : ∃ d, prog.underlying 29 = some d ∧ isInt d = false := ⟨_, elem_string.under, rfl⟩

theorem elem_strs : ElemT prog 47 29 1 24 [.slice none 0 0] where
  under := by kernel_rfl
  info := by
    obtain ⟨i, hi⟩ : ∃ i, prog.info? 29 = some i := Option.isSome_iff_exists.1 (by kernel_rfl)
    have h1 : (prog.info? 29).map (fun i => (i.size, i.bytes, i.zero.map Value.cells)) = some (1, 24, some #[.slice none 0 0]) := by kernel_rfl
    rw [hi] at h1
    simp only [Option.map_some, Option.some.injEq, Prod.mk.injEq] at h1
    obtain ⟨h1, h2, h3⟩ := h1
    cases hz : i.zero with
    | none => rw [hz] at h3; cases h3
    | some z =>
      rw [hz] at h3
      simp only [Option.map_some, Option.some.injEq] at h3
      exact ⟨i, hi, h1, h2, z, hz, h3⟩
  len := rfl
  pos := by decide
  small := by decide
  one := by simp [oneCell]

theorem notInt_strs : ∃ d, prog.underlying 47 = some d ∧ isInt d = false := ⟨_, elem_strs.under, rfl⟩

theorem elem_pair : ElemT prog 26 31 2 24 [.string (str []), .int .i64 0] where
  under := by kernel_rfl
  info := by
    obtain ⟨i, hi⟩ : ∃ i, prog.info? 31 = some i := Option.isSome_iff_exists.1 (by kernel_rfl)
    have h1 : (prog.info? 31).map (fun i => (i.size, i.bytes, i.zero.map Value.cells)) = some (2, 24, some #[.string (str []), .int .i64 0]) := by kernel_rfl
    rw [hi] at h1
    simp only [Option.map_some, Option.some.injEq, Prod.mk.injEq] at h1
    obtain ⟨h1, h2, h3⟩ := h1
    cases hz : i.zero with
    | none => rw [hz] at h3; cases h3
    | some z =>
      rw [hz] at h3
      simp only [Option.map_some, Option.some.injEq] at h3
      exact ⟨i, hi, h1, h2, z, hz, h3⟩
  len := rfl
  pos := by decide
  small := by decide
  one := by simp [oneCell]

theorem notInt_pair : ∃ d, prog.underlying 26 = some d ∧ isInt d = false := ⟨_, elem_pair.under, rfl⟩


/-- A slice of strings. -/
def Strs (p : Option Addr) (c : Nat) (ks : List Key) : HP := Sl 9 1 p ks.length c (ks.map Value.string)

theorem strs_one (ks : List Key) : ∀ x ∈ ks.map Value.string, oneCell x = true := by
  intro x hx
  rw [List.mem_map] at hx
  obtain ⟨k, _, rfl⟩ := hx
  rfl

theorem Strs_nil {g w : World} {F : List HP} (H : Sat g w F) : Sat g w (Strs none 0 [] :: F) := H.nil_Sl 9 1

theorem Strs_cell {g w : World} {F : List HP} {p : Option Addr} {c : Nat} {ks : List Key} (H : Sat g w (Strs p c ks :: F)) {n : Nat} {k : Key} (hk : ks[n]? = some k) :
    ∃ a : Nat, p = some ⟨a, 0, none⟩ ∧ w.cell? ⟨a, n * 1, none⟩ = some (.string k) := by
  rw [Nat.mul_one]
  exact Sat.Sl_cell H (by rw [List.getElem?_map, hk]; rfl)

/-- One string more. -/
theorem append_one {g w : World} {F : List HP} {p : Option Addr} {c : Nat} {ks : List Key} {s : Key} {K : Option Addr → Nat → Nat → World → Prop} (H : Sat g w (Strs p c ks :: F)) (hl : ks.length < 1048576)
    (h : ∀ p' c' w', Sat g w' (Strs p' c' (ks ++ [s]) :: F) → K p' (ks ++ [s]).length c' w') :
    Al w (.cells #[.string s] 9) fun a w1 => Run prog (Builtin.append_ #[29, 29] 29 #[.slice p ks.length c, .slice (some a) 1 1]) w1 fun v w2 => ∃ p' l' c', v = .slice p' l' c' ∧ K p' l' c' w2 := by
  refine al H fun b w1 H1 => ?_
  have hsrc := Sat.src (P := prog) (o := 0) (all := [Value.string s]) H1 1 1 1 (by simp) (by simp [oneCell])
  obtain ⟨p', c', w2, hrun, H2, _⟩ := run_append (rt := 29) elem_string notInt_string (H1.pull 1 rfl) (strs_one ks) hsrc (by omega)
  refine run_of hrun ⟨p', _, c', rfl, ?_⟩
  have H3 : Sat g w2 (Sl 9 1 p' (ks.length + 1) c' (ks.map Value.string ++ [Value.string s]) :: F) := (H2.pull 1 rfl).drop
  have e : ks.length + 1 = (ks ++ [s]).length := by simp
  rw [e] at H3 ⊢
  refine h p' c' w2 ?_
  have e2 : ks.map Value.string ++ [Value.string s] = (ks ++ [s]).map Value.string := by simp
  rw [e2] at H3
  exact H3

/-! ### Same -/
theorem same_L0 {g : World} {F : List HP} {p0 p1 : Option Addr} {c0 c1 : Nat} {k0 k1 : List Key} {R : Ending → World → Prop} (hl : k0.length = k1.length) (hs : k0.length < 1048576)
    (hR : ∀ w', Sat g w' (Strs p0 c0 k0 :: Strs p1 c1 k1 :: F) → R (.returned (.bool (decide (k0 = k1)))) w') :
    ∀ (d i : Nat) (w : World), k0.length - i = d → i ≤ k0.length → k0.take i = k1.take i → Sat g w (Strs p0 c0 k0 :: Strs p1 c1 k1 :: F) →
      L.affluxref05_Same_L0 p0 k0.length c0 p1 k1.length c1 (i : Int) w R := by
  intro d
  induction d with
  | zero =>
    intro i w hd hi ht H
    refine round.affluxref05_Same_L0 ?_
    unfold B.affluxref05_Same_L0
    refine br_f (decide_eq_false (by omega)) ?_
    have e : k0 = k1 := by
      rw [List.take_of_length_le (by omega), List.take_of_length_le (by omega)] at ht
      exact ht
    have := hR w H
    rw [decide_eq_true e] at this
    exact this
  | succ d ih =>
    intro i w hd hi ht H
    refine round.affluxref05_Same_L0 ?_
    unfold B.affluxref05_Same_L0
    refine br_t (decide_eq_true (by omega)) ?_
    obtain ⟨x, hx⟩ : ∃ x, k0[i]? = some x := ⟨_, List.getElem?_eq_getElem (by omega)⟩
    obtain ⟨y, hy⟩ : ∃ y, k1[i]? = some y := ⟨_, List.getElem?_eq_getElem (by omega)⟩
    refine dr H fun w1 H1 => ?_
    obtain ⟨a, rfl, ha⟩ := Strs_cell H1 hx
    obtain ⟨b, rfl, hb⟩ := Strs_cell (H1.pull 1 rfl) hy
    refine ⟨_, rfl, ⟨by omega, by omega⟩, _, rfl, ⟨by omega, by omega⟩, ?_⟩
    rw [Int.toNat_natCast, addr_add, addr_add]
    refine ⟨_, ha, _, hb, br (fun h => ?_) (fun h => ?_)⟩
    · have hne : k0 ≠ k1 := by
        intro e
        rw [e, hy] at hx; cases hx
        rw [eq_iff.2 rfl] at h; cases h
      have := hR w1 H1
      rw [decide_eq_false hne] at this
      exact this
    · have hxy : x = y := eq_iff.1 (by simpa using h)
      refine lt' (y := ((i + 1 : Nat) : Int)) (by rw [wrap_id (by omega) (by omega)]; omega) ?_
      refine ih (i + 1) w1 (by omega) (by omega) ?_ H1
      have h1 := List.getElem?_eq_some_iff.1 hx
      have h2 := List.getElem?_eq_some_iff.1 hy
      rw [List.take_succ_eq_append_getElem h1.1, List.take_succ_eq_append_getElem h2.1, h1.2, h2.2, hxy, ht]

theorem spec.affluxref05_Same {g w : World} {F : List HP} {p0 p1 : Option Addr} {c0 c1 : Nat} {k0 k1 : List Key} (H : Sat g w (Strs p0 c0 k0 :: Strs p1 c1 k1 :: F)) (hs : k0.length < 1048576) :
    Calls prog f_affluxref05_Same #[.slice p0 k0.length c0, .slice p1 k1.length c1] w
      fun e w' => e = .returned (.bool (decide (k0 = k1))) ∧ Sat g w' (Strs p0 c0 k0 :: Strs p1 c1 k1 :: F) := by
  refine ok.affluxref05_Same ?_
  unfold V.affluxref05_Same
  refine br (fun h => ?_) (fun h => ?_)
  · have hne : k0 ≠ k1 := by
      intro e
      rw [e] at h; simp at h
    rw [decide_eq_false hne]
    exact ⟨rfl, H⟩
  · have hl : k0.length = k1.length := by
      have : ((k0.length : Int) = (k1.length : Int)) := by simpa using h
      omega
    exact same_L0 hl hs (fun w' H' => ⟨rfl, H'⟩) _ 0 w rfl (by omega) rfl H

end Go.Proofs.Ytohhoojcgcbmcaa
