import Derived.Test.YtohhoojcgcbmcaaVcS
import Derived.OrdersHeld
import Derived.Deep.Draws
set_option maxRecDepth 4000
set_option linter.unusedVariables false
set_option linter.unusedSimpArgs false
namespace Go.Vc
open Go

variable {P : Program} {n : Nat} {ops : Array Oper} {Q : Exit → Act → World → Prop}

/-- What is known of bools holds of the frame. -/
def Gam (γ : Known) (a : Act) : Prop := ∀ d b, lookB γ d = some b → a.tmps[d]? = some (.bool b)

theorem Gam.nil (a : Act) : Gam [] a := fun d b h => by simp [lookB] at h

theorem lookB_filter {γ : Known} {d t : Nat} {b : Bool} (h : lookB (γ.filter fun x => !Nat.beq x.1 d) t = some b) : lookB γ t = some b ∧ t ≠ d := by
  induction γ with
  | nil => simp [lookB] at h
  | cons x γ ih =>
    obtain ⟨e, c⟩ := x
    simp only [List.filter_cons] at h
    by_cases hed : Nat.beq e d = true
    · simp only [hed, Bool.not_true, Bool.false_eq_true, if_false] at h
      have h1 := ih h
      have h2 : e = d := Nat.eq_of_beq_eq_true hed
      refine ⟨?_, h1.2⟩
      simp only [lookB]
      have : Nat.beq e t = false := by
        cases hh : Nat.beq e t with
        | false => rfl
        | true => exact absurd ((Nat.eq_of_beq_eq_true hh).symm.trans h2) h1.2
      rw [this]; exact h1.1
    · simp only [Bool.not_eq_true] at hed
      simp only [hed, Bool.not_false, if_true, lookB] at h
      simp only [lookB]
      by_cases het : Nat.beq e t = true
      · rw [het] at h ⊢
        refine ⟨h, fun e' => ?_⟩
        subst e'
        rw [het] at hed; cases hed
      · simp only [Bool.not_eq_true] at het
        rw [het] at h ⊢
        exact ih h

theorem Gam.drop {γ : Known} {a : Act} (h : Gam γ a) (dst : Option Tmp) (v : Value) : Gam (dropB dst γ) (a.put dst v) := by
  cases γ with
  | nil => cases dst <;> exact Gam.nil _
  | cons x γ =>
    cases dst with
    | none => exact h
    | some d =>
      intro t b e
      obtain ⟨e1, e2⟩ := lookB_filter e
      simp only [Act.put]
      rw [Array.getElem?_setIfInBounds_ne (Ne.symm e2)]
      exact h t b e1

theorem Gam.cons {γ : Known} {a : Act} (h : Gam γ a) {d : Nat} {b : Bool} (e : a.tmps[d]? = some (.bool b)) : Gam ((d, b) :: γ) a := by
  intro t c h1
  simp only [lookB] at h1
  cases hh : Nat.beq d t with
  | true =>
    rw [hh] at h1
    simp at h1
    rw [← Nat.eq_of_beq_eq_true hh, ← h1]; exact e
  | false => rw [hh] at h1; exact h t c h1

theorem Sim.cons {ρ : Env} {a : Act} (h : Sim n ρ a) {d : Nat} {v : Value} (e : a.tmps[d]? = some v) : Sim n ((d, v) :: ρ) a := by
  refine ⟨h.size, h.defers, fun t u h1 => ?_⟩
  simp only [Env.get] at h1
  cases hh : Nat.beq d t with
  | true =>
    rw [hh] at h1
    simp at h1
    rw [← Nat.eq_of_beq_eq_true hh, ← h1]; exact e
  | false => rw [hh] at h1; exact h.get t u h1

theorem wanted_some {o : Oper} {a : Act} {j d : Nat} {want b : Bool} (hg : o.guard = some (j, want)) (hd : (ops[j]?).bind (·.dst) = some d) (hb : a.tmps[d]? = some (.bool b)) :
    Region.wanted o (yielded ops a.tmps) = (b == want) := by
  simp only [Region.wanted, hg, yielded, hd, Option.bind_some, hb]
  cases b <;> cases want <;> rfl

theorem vcGuard_spec {o : Oper} {γ : Known} {ρ : Env} {run skip : Known → Env → Prop} {a : Act} (hs : Sim n ρ a) (hγ : Gam γ a) (h : vcGuard ops o γ ρ run skip) :
    (Region.wanted o (yielded ops a.tmps) = true ∧ ∃ γ' ρ', Sim n ρ' a ∧ Gam γ' a ∧ run γ' ρ') ∨
    (Region.wanted o (yielded ops a.tmps) = false ∧ ∃ γ' ρ', Sim n ρ' a ∧ Gam γ' a ∧ skip γ' ρ') := by
  unfold vcGuard at h
  split at h
  · rename_i hg
    exact .inl ⟨by simp [Region.wanted, hg], γ, ρ, hs, hγ, h⟩
  · rename_i j want hg
    split at h
    · rename_i hd
      refine .inr ⟨?_, γ, ρ, hs, hγ, h⟩
      simp only [Region.wanted, hg, yielded, hd, Option.bind_none]
      cases want <;> rfl
    · rename_i d hd
      split at h
      · rename_i b hb
        have hw := wanted_some (ops := ops) hg hd (hγ d b hb)
        split at h
        · rename_i he
          exact .inl ⟨by rw [hw, he], γ, ρ, hs, hγ, h⟩
        · rename_i he
          exact .inr ⟨by rw [hw, he], γ, ρ, hs, hγ, h⟩
      · split at h
        · rename_i b hb
          have h1 := hs.get d _ hb
          have hw := wanted_some (ops := ops) hg hd h1
          split at h
          · cases b
            · exact .inr ⟨hw, _, _, hs.cons h1, hγ.cons h1, h.2 rfl⟩
            · exact .inl ⟨hw, _, _, hs.cons h1, hγ.cons h1, h.1 rfl⟩
          · cases b
            · exact .inl ⟨hw, _, _, hs.cons h1, hγ.cons h1, h.2 rfl⟩
            · exact .inr ⟨hw, _, _, hs.cons h1, hγ.cons h1, h.1 rfl⟩
        · rename_i vs hb
          have h1 := hs.get d _ hb
          refine .inr ⟨?_, γ, ρ, hs, hγ, h⟩
          simp only [Region.wanted, hg, yielded, hd, Option.bind_some, h1]
          cases want <;> rfl
        · exact h.elim

/-- What is said of a state in a region. -/
def liftK (n : Nat) (K : Known → Env → World → Prop) (a : Act) (w : World) : Prop := ∃ γ ρ, Sim n ρ a ∧ Gam γ a ∧ K γ ρ w

theorem put_gam {dst : Option Tmp} {v : Value} {γ : Known} {ρ : Env} {K : Known → Env → World → Prop} {w : World} {a : Act}
    (hs : Sim n ρ a) (hγ : Gam γ a) (h : put n dst v ρ (K (dropB dst γ)) w) : liftK n K (a.put dst v) w := by
  obtain ⟨ρ', h1, h2⟩ := put_spec h hs
  exact ⟨_, ρ', h1, hγ.drop dst v, h2⟩

theorem vcStep_sound {i : Nat} {o : Oper} (ho : ops[i]? = some o) {γ : Known} {ρ : Env} {w : World} {K : Known → Env → World → Prop} {a : Act}
    (hs : Sim n ρ a) (hγ : Gam γ a) (h : vcStep P n ops o γ ρ w K) : wpOp P ops Q i (liftK n K) a w := by
  unfold wpOp
  rw [ho]
  dsimp only
  rcases vcGuard_spec hs hγ h with ⟨hw, γ', ρ', hs', hγ', h⟩ | ⟨hw, γ', ρ', hs', hγ', h⟩
  · rw [if_pos hw]
    refine .inl ?_
    unfold vcOp at h
    split at h
    · rename_i p hp
      obtain ⟨v, hr, hv⟩ := vcRead_spec hs' hp h
      unfold Oper.wp; rw [hr]
      exact put_gam hs' hγ' hv
    · exact vcEf_sound hs' h fun v w' h => put_gam hs' hγ' h
  · rw [if_neg (by simp [hw])]
    exact put_gam hs' hγ' h

theorem vcOps_sound : ∀ (l : List Oper) (k : Nat) (γ : Known) (ρ : Env) (w : World) (K : Env → World → Prop) (a : Act), (∀ j, l[j]? = ops[k + j]?) →
    Sim n ρ a → Gam γ a → vcOps P n ops l γ ρ w K → (∀ a w, lift n K a w → Q .normal a w) → wpOps P ops Q (List.range' k l.length) a w
  | [], k, γ, ρ, w, K, a, _, hs, hγ, h, hQ => by
    simp only [List.length_nil, List.range'_zero, wpOps]
    exact hQ _ _ ⟨ρ, hs, h⟩
  | o :: l, k, γ, ρ, w, K, a, hl, hs, hγ, h, hQ => by
    simp only [List.length_cons, List.range'_succ]
    rw [wpOps_cons]
    have ho : ops[k]? = some o := by simpa using (hl 0).symm
    simp only [vcOps] at h
    refine wpOp_mono ?_ (vcStep_sound ho hs hγ h)
    intro a' w' ⟨γ', ρ', hs', hγ', h'⟩
    exact vcOps_sound l (k + 1) γ' ρ' w' K a' (fun j => by have := hl (j + 1); simpa [Nat.add_assoc, Nat.add_comm 1 j] using this) hs' hγ' h' hQ

/-! ### regions that draw their order -/

/-- Whatever order is picked, as long as nothing but new blocks has turned the world ('eff': 0 nothing turns, 1 blocks are made, 2 all else). -/
def wpAnyG (P : Program) (eff : Nat → Nat) (ops : Array Oper) (Q : Exit → Act → World → Prop) : Nat → Array Bool → Act → World → Prop
  | 0, listed, a, w => Region.ready .any ops listed = [] ∧ Q .normal a w
  | f + 1, listed, a, w =>
    (Region.ready .any ops listed = [] → Q .normal a w) ∧
    ∀ i ∈ Region.ready .any ops listed,
      match eff i with
      | 0 => wpOp P ops Q i (fun a' w' => w' = w ∧ wpAnyG P eff ops Q f (listed.setIfInBounds i true) a' w') a w
      | 1 => wpOp P ops Q i (fun a' w' => Grown w w' ∧ wpAnyG P eff ops Q f (listed.setIfInBounds i true) a' w') a w
      | _ => wpOp P ops Q i (wpAny P .any ops Q f (listed.setIfInBounds i true)) a w

theorem wpAny_of_G {eff : Nat → Nat} : ∀ (f : Nat) (listed : Array Bool) (a : Act) (w : World), wpAnyG P eff ops Q f listed a w → wpAny P .any ops Q f listed a w
  | 0, _, _, _, h => h
  | f + 1, listed, a, w, h => by
    refine ⟨h.1, fun i hi => ?_⟩
    have h2 := h.2 i hi
    split at h2
    · exact wpOp_mono (fun a' w' ⟨_, h'⟩ => wpAny_of_G f _ _ _ h') h2
    · exact wpOp_mono (fun a' w' ⟨_, h'⟩ => wpAny_of_G f _ _ _ h') h2
    · exact h2

/-- Everything that may turn the world waits for i. -/
def Blocks (eff : Nat → Bool) (ops : Array Oper) (listed : Array Bool) (i : Nat) : Prop :=
  ∃ B : List Nat, (∀ b ∈ B, b ≠ i ∧ listed.getD b true = false ∧ ∃ o, ops[b]? = some o ∧ ∃ e ∈ o.after, Region.binds .any e = true ∧ (e.on = i ∨ e.on ∈ B)) ∧
    ∀ j, listed.getD j true = false → j ≠ i → eff j = true → j < ops.size → j ∈ B

theorem getD_false_of_true {listed : Array Bool} {i : Nat} (h : listed.getD i true = false) : listed.getD i false = false := by
  rcases Nat.lt_or_ge i listed.size with h' | h'
  · simp [h'] at h ⊢; exact h
  · simp [Array.getElem?_eq_none h'] at h

/-- What is blocked may not come up. -/
theorem not_ready {listed : Array Bool} {i : Nat} (hi : listed.getD i true = false) {B : List Nat}
    (hB : ∀ b ∈ B, b ≠ i ∧ listed.getD b true = false ∧ ∃ o, ops[b]? = some o ∧ ∃ e ∈ o.after, Region.binds .any e = true ∧ (e.on = i ∨ e.on ∈ B)) {b : Nat} (hb : b ∈ B) :
    b ∉ Region.ready .any ops listed := by
  intro hr
  obtain ⟨_, o', ho', hall⟩ := mem_ready.1 hr
  obtain ⟨_, _, o, ho, e, he, hbind, hon⟩ := hB b hb
  rw [ho] at ho'
  simp at ho'; subst ho'
  have h1 := hall e he hbind
  rcases hon with hon | hon
  · rw [hon, getD_false_of_true hi] at h1; cases h1
  · rw [getD_false_of_true (hB _ hon).2.1] at h1; cases h1

theorem Blocks.set {eff : Nat → Bool} {listed : Array Bool} {i j : Nat} (hiun : listed.getD i true = false) (hj : j ∈ Region.ready .any ops listed) (hB : Blocks eff ops listed i) :
    Blocks eff ops (listed.setIfInBounds j true) i := by
  have hjun := (mem_ready.1 hj).1
  obtain ⟨B, hB1, hB2⟩ := hB
  have hjB : j ∉ B := fun hjB => absurd hj (not_ready hiun hB1 hjB)
  refine ⟨B, fun b hb => ?_, fun k hk hki hke hks => hB2 k ?_ hki hke hks⟩
  · obtain ⟨x1, x2, x3⟩ := hB1 b hb
    have hjb : j ≠ b := fun e => hjB (e ▸ hb)
    exact ⟨x1, by rw [getD_set_ne true hjb]; exact x2, x3⟩
  · by_cases hjk : j = k
    · subst hjk; exact hjun
    · rw [getD_set_ne true hjk] at hk; exact hk

/-- How an operation comes to its value: in whatever world; in each that has new blocks, and all that turns more waits for it; in this world, and all that turns it waits. -/
def Firm (P : Program) (eff : Nat → Nat) (ops : Array Oper) (listed : Array Bool) (i : Nat) (oi : Oper) (v : Value) (a : Act) (w : World) : Prop :=
  Yields P ops oi v a ∨
  (YieldsIf P ops (Grown w) oi v a ∧ Blocks (fun j => Nat.ble 2 (eff j)) ops listed i) ∨
  (YieldsIf P ops (· = w) oi v a ∧ Blocks (fun j => Nat.ble 1 (eff j)) ops listed i)

theorem Firm.wpOp {eff : Nat → Nat} {listed : Array Bool} {i : Nat} {oi : Oper} {v : Value} {a : Act} {w : World} (hi : ops[i]? = some oi) (h : Firm P eff ops listed i oi v a w)
    {K : Act → World → Prop} (hK : K (a.put oi.dst v) w) : wpOp P ops Q i K a w := by
  rcases h with h | ⟨h, _⟩ | ⟨h, _⟩
  · exact h.wpOp hi hK
  · exact h.wpOp hi (Grown.refl w) hK
  · exact h.wpOp hi rfl hK

/-- Operation i may be taken first. -/
theorem G_first {eff : Nat → Nat} {i : Nat} {oi : Oper} {v : Value} (hi : ops[i]? = some oi) (hsel : ∀ (j : Nat) (o : Oper) cs b, ops[j]? = some o → o.op ≠ .select cs b)
    (hQ : ∀ c a w, Q (.panic c) (a.put oi.dst v) w → Q (.panic c) a w) (heff : eff i = 0) :
    ∀ (f : Nat) (listed : Array Bool) (a : Act) (w : World),
      (∀ j oj, ops[j]? = some oj → j ≠ i → listed.getD j true = false → (∀ e ∈ oj.after, Region.binds .any e = true → e.on ≠ i) → oi.apart ops oj = true) →
      i ∈ Region.ready .any ops listed → Firm P eff ops listed i oi v a w →
      wpAnyG P eff ops Q f (listed.setIfInBounds i true) (a.put oi.dst v) w → wpAnyG P eff ops Q (f + 1) listed a w := by
  intro f
  induction f with
  | zero =>
    intro listed a w _ hr hy H
    refine ⟨fun h => (by rw [h] at hr; cases hr), fun j hj => ?_⟩
    by_cases hji : j = i
    · subst hji
      rw [heff]
      exact hy.wpOp hi ⟨rfl, H⟩
    · have := ready_mono hj hji
      rw [H.1] at this
      cases this
  | succ f ih =>
    intro listed a w hfree hr hy H
    refine ⟨fun h => (by rw [h] at hr; cases hr), fun j hj => ?_⟩
    have hiun := (mem_ready.1 hr).1
    by_cases hji : j = i
    · subst hji
      rw [heff]
      exact hy.wpOp hi ⟨rfl, H⟩
    · have h1 := H.2 j (ready_mono hj hji)
      obtain ⟨hjun, oj, hoj, hall⟩ := mem_ready.1 hj
      have hjsize : j < ops.size := (Array.getElem?_eq_some_iff.1 hoj).1
      have hnot : ∀ e ∈ oj.after, Region.binds .any e = true → e.on ≠ i := fun e he hb heq => by
        have h1 := hall e he hb
        rw [heq, getD_false_of_true hiun] at h1; cases h1
      have hap := hfree j oj hoj hji hjun hnot
      have hfree' : ∀ k ok, ops[k]? = some ok → k ≠ i → (listed.setIfInBounds j true).getD k true = false →
          (∀ e ∈ ok.after, Region.binds .any e = true → e.on ≠ i) → oi.apart ops ok = true := fun k ok hk hki hun hno => by
        refine hfree k ok hk hki ?_ hno
        by_cases hjk : j = k
        · subst hjk; exact hjun
        · rw [getD_set_ne true hjk] at hun; exact hun
      -- what is said behind j, carried back past i
      have back : ∀ {a' : Act} {w' : World}, Firm P eff ops (listed.setIfInBounds j true) i oi v a' w' → wpAnyG P eff ops Q f ((listed.setIfInBounds i true).setIfInBounds j true) (a'.put oi.dst v) w' →
          wpAnyG P eff ops Q (f + 1) (listed.setIfInBounds j true) a' w' := fun hy' h' => by
        refine ih (listed.setIfInBounds j true) _ _ hfree' (ready_mono hr (Ne.symm hji)) hy' ?_
        rw [Array.setIfInBounds_comm _ _ hji]
        exact h'
      have hsi := fun cs b => hsel i oi cs b hi
      have hsj := fun cs b => hsel j oj cs b hoj
      have nb : ∀ {eff' : Nat → Bool}, Blocks eff' ops listed i → eff' j = true → False := fun ⟨B, hB1, hB2⟩ he => absurd hj (not_ready hiun hB1 (hB2 j hjun hji he hjsize))
      have up : ∀ {w w' : World}, Grown w w' → ∀ {a : Act}, YieldsIf P ops (Grown w) oi v a → YieldsIf P ops (Grown w') oi v a := fun g a h => h.imp (fun ⟨x, y⟩ => ⟨x, fun w2 g2 => y w2 (g.trans g2)⟩) id
      match hej : eff j with
      | 0 =>
        rw [hej] at h1
        try dsimp only at h1 ⊢
        rcases hy with hy | ⟨hy, hB⟩ | ⟨hy, hB⟩
        · exact wpOp_mono (fun a' w' ⟨hy', e, h'⟩ => ⟨e, back (.inl hy') h'⟩) (wpOp_put hoj hap hsi hsj hQ hy h1)
        · exact wpOp_mono (fun a' w' ⟨hy', e, h'⟩ => ⟨e, back (.inr (.inl ⟨by subst e; exact hy', hB.set hiun hj⟩)) h'⟩) (wpOp_putIf hoj hap hsi hsj hQ hy h1)
        · exact wpOp_mono (fun a' w' ⟨hy', e, h'⟩ => ⟨e, back (.inr (.inr ⟨by subst e; exact hy', hB.set hiun hj⟩)) h'⟩) (wpOp_putIf hoj hap hsi hsj hQ hy h1)
      | 1 =>
        rw [hej] at h1
        try dsimp only at h1 ⊢
        rcases hy with hy | ⟨hy, hB⟩ | ⟨hy, hB⟩
        · exact wpOp_mono (fun a' w' ⟨hy', e, h'⟩ => ⟨e, back (.inl hy') h'⟩) (wpOp_put hoj hap hsi hsj hQ hy h1)
        · exact wpOp_mono (fun a' w' ⟨hy', e, h'⟩ => ⟨e, back (.inr (.inl ⟨up e hy', hB.set hiun hj⟩)) h'⟩) (wpOp_putIf hoj hap hsi hsj hQ hy h1)
        · exact (nb hB (by rw [hej]; rfl)).elim
      | k + 2 =>
        rw [hej] at h1
        try dsimp only at h1 ⊢
        rcases hy with hy | ⟨hy, hB⟩ | ⟨hy, hB⟩
        · refine wpOp_mono (fun a' w' ⟨hy', h'⟩ => ?_) (wpOp_put hoj hap hsi hsj hQ hy h1)
          refine wpAny_first hi hsel hQ f (listed.setIfInBounds j true) a' w' hfree' (ready_mono hr (Ne.symm hji)) hy' ?_
          rw [Array.setIfInBounds_comm _ _ hji]
          exact h'
        · exact (nb hB (by rw [hej]; show Nat.ble 2 (k + 2) = true; exact Nat.ble_eq_true_of_le (by omega))).elim
        · exact (nb hB (by rw [hej]; show Nat.ble 1 (k + 2) = true; exact Nat.ble_eq_true_of_le (by omega))).elim

theorem waits_spec {i j : Nat} {oj : Oper} (hj : ops[j]? = some oj) : waits ops j i = true ↔ ∃ e ∈ oj.after, Region.binds .any e = true ∧ e.on = i := by
  unfold waits
  rw [hj]
  simp only [Array.any_eq_true', Bool.and_eq_true]
  constructor
  · rintro ⟨e, he, hb, hon⟩; exact ⟨e, he, hb, Nat.eq_of_beq_eq_true hon⟩
  · rintro ⟨e, he, hb, hon⟩; exact ⟨e, he, hb, by rw [hon]; exact Nat.beq_refl i⟩

theorem apart_symm {x y : Oper} (h : x.apart ops y = true) : y.apart ops x = true := by
  obtain ⟨h1, h2, h3⟩ := Oper.apart_spec h
  unfold Oper.apart
  simp only [Bool.and_eq_true]
  constructor
  · cases hy : y.dst with
    | none => rfl
    | some d =>
      simp only [Bool.and_eq_true, Bool.not_eq_true', bne_iff_ne, ne_eq]
      refine ⟨by simpa using h3 d hy, fun hx => h2 d hx hy⟩
  · cases hx : x.dst with
    | none => rfl
    | some d => simpa using h1 d hx

theorem apartAll_spec (h : apartAll ops = true) {i j : Nat} {oi oj : Oper} (hi : ops[i]? = some oi) (hj : ops[j]? = some oj) (hij : j ≠ i)
    (h1 : ∀ e ∈ oj.after, Region.binds .any e = true → e.on ≠ i) (h2 : ∀ e ∈ oi.after, Region.binds .any e = true → e.on ≠ j) : oi.apart ops oj = true := by
  unfold apartAll at h
  rw [List.all_eq_true] at h
  have si := (Array.getElem?_eq_some_iff.1 hi).1
  have sj := (Array.getElem?_eq_some_iff.1 hj).1
  rcases Nat.lt_or_gt_of_ne hij with hlt | hlt
  · have h3 := h i (List.mem_range.2 si)
    rw [List.all_eq_true] at h3
    have h4 := h3 j (List.mem_range.2 hlt)
    simp only [hi, hj, Bool.or_eq_true] at h4
    rcases h4 with h4 | h4
    · exact apart_symm h4
    · obtain ⟨e, he, hb, hon⟩ := (waits_spec hi).1 h4
      exact absurd hon (h2 e he hb)
  · have h3 := h j (List.mem_range.2 sj)
    rw [List.all_eq_true] at h3
    have h4 := h3 i (List.mem_range.2 hlt)
    simp only [hi, hj, Bool.or_eq_true] at h4
    rcases h4 with h4 | h4
    · exact h4
    · obtain ⟨e, he, hb, hon⟩ := (waits_spec hj).1 h4
      exact absurd hon (h1 e he hb)

theorem readyAt_spec {listed : Array Bool} {i : Nat} (h : readyAt ops listed i = true) : i ∈ Region.ready .any ops listed := by
  unfold readyAt at h
  simp only [Bool.and_eq_true, Bool.not_eq_true'] at h
  obtain ⟨h1, h2⟩ := h
  split at h2
  · rename_i o ho
    refine mem_ready.2 ⟨h1, o, ho, fun e he hb => ?_⟩
    rw [Array.all_eq_true'] at h2
    have h3 := h2 e he
    rw [hb] at h3
    simpa using h3
  · cases h2

/-- Does it turn the world? -/
def effAt (P : Program) (ops : Array Oper) (i : Nat) : Nat :=
  match kindAt P ops i with
  | 0 | 1 | 2 => 0
  | 3 => 1
  | _ => 2

theorem behind_spec {listed : Array Bool} {i : Nat} : ∀ b ∈ behind ops listed i, b ≠ i ∧ listed.getD b true = false ∧
    ∃ o, ops[b]? = some o ∧ ∃ e ∈ o.after, Region.binds .any e = true ∧ (e.on = i ∨ e.on ∈ behind ops listed i) := by
  unfold behind
  suffices H : ∀ (l : List Nat) (acc : List Nat),
      (∀ b ∈ acc, b ≠ i ∧ listed.getD b true = false ∧ ∃ o, ops[b]? = some o ∧ ∃ e ∈ o.after, Region.binds .any e = true ∧ (e.on = i ∨ e.on ∈ acc)) →
      (fun acc' => ∀ b ∈ acc', b ≠ i ∧ listed.getD b true = false ∧ ∃ o, ops[b]? = some o ∧ ∃ e ∈ o.after, Region.binds .any e = true ∧ (e.on = i ∨ e.on ∈ acc'))
        (l.foldl (fun acc j => if !listed.getD j true && !Nat.beq j i && hangs ops i acc j then j :: acc else acc) acc) from
    H _ [] (by simp)
  intro l
  induction l with
  | nil => intro acc h; exact h
  | cons j l ih =>
    intro acc h
    simp only [List.foldl_cons]
    apply ih
    split
    · rename_i hc
      simp only [Bool.and_eq_true, Bool.not_eq_true'] at hc
      obtain ⟨⟨hc1, hc2⟩, hc3⟩ := hc
      intro b hb
      rcases List.mem_cons.1 hb with rfl | hb
      · unfold hangs at hc3
        split at hc3
        · rename_i o ho
          rw [Array.any_eq_true'] at hc3
          obtain ⟨e, he, hc3⟩ := hc3
          simp only [Bool.and_eq_true, Bool.or_eq_true] at hc3
          refine ⟨fun h => (by subst h; rw [Nat.beq_refl] at hc2; cases hc2), hc1, o, ho, e, he, hc3.1, ?_⟩
          rcases hc3.2 with h4 | h4
          · exact .inl (Nat.eq_of_beq_eq_true h4)
          · obtain ⟨x, hx, hxe⟩ := List.any_eq_true.1 h4
            exact .inr (by rw [Nat.eq_of_beq_eq_true hxe]; exact List.mem_cons_of_mem _ hx)
        · cases hc3
      · obtain ⟨x1, x2, o, ho, e, he, hb1, hon⟩ := h b hb
        exact ⟨x1, x2, o, ho, e, he, hb1, hon.imp id (List.mem_cons_of_mem _)⟩
    · exact h

theorem readFirst_spec {listed : Array Bool} {i k : Nat} (h : readFirst P ops listed k i = true) : Blocks (fun j => Nat.ble k (kindAt P ops j)) ops listed i := by
  refine ⟨behind ops listed i, behind_spec, fun j hj hji he hjs => ?_⟩
  unfold readFirst at h
  rw [List.all_eq_true] at h
  have h1 := h j (List.mem_range.2 hjs)
  simp only [Bool.or_eq_true] at h1
  rcases h1 with ((h1 | h1) | h1) | h1
  · rw [hj] at h1; cases h1
  · exact absurd (Nat.eq_of_beq_eq_true h1) hji
  · dsimp only at he
    unfold kindAt at he
    split at h1
    · rename_i o ho
      rw [ho] at he
      have h2 := Nat.le_of_ble_eq_true he
      have h3 : kind P o < k := by simpa [Nat.blt_eq] using h1
      dsimp only at h2
      omega
    · rename_i ho
      rw [Array.getElem?_eq_none_iff] at ho
      omega
  · obtain ⟨x, hx, hxe⟩ := List.any_eq_true.1 h1
    rw [Nat.eq_of_beq_eq_true hxe]; exact hx

theorem Blocks.mono {e e' : Nat → Bool} {listed : Array Bool} {i : Nat} (h : Blocks e ops listed i) (he : ∀ j, e' j = true → e j = true) : Blocks e' ops listed i :=
  let ⟨B, h1, h2⟩ := h
  ⟨B, h1, fun j a b c d => h2 j a b (he j c) d⟩

theorem effAt_two {j : Nat} (h : Nat.ble 2 (effAt P ops j) = true) : Nat.ble 4 (kindAt P ops j) = true := by
  unfold effAt at h
  split at h
  all_goals first
    | (cases h; done)
    | skip
  rename_i h0 h1 h2 h3
  refine Nat.ble_eq_true_of_le ?_
  rcases Nat.lt_or_ge (kindAt P ops j) 4 with hl | hl
  · exfalso
    match hk : kindAt P ops j with
    | 0 => exact h0 hk
    | 1 => exact h1 hk
    | 2 => exact h2 hk
    | 3 => exact h3 hk
    | n + 4 => omega
  · exact hl

theorem effAt_one {j : Nat} (h : Nat.ble 1 (effAt P ops j) = true) : Nat.ble 3 (kindAt P ops j) = true := by
  unfold effAt at h
  split at h
  all_goals first
    | (cases h; done)
    | skip
  · rename_i hk; rw [hk]; rfl
  · rename_i h0 h1 h2 h3
    refine Nat.ble_eq_true_of_le ?_
    rcases Nat.lt_or_ge (kindAt P ops j) 3 with hl | hl
    · exfalso
      match hk : kindAt P ops j with
      | 0 => exact h0 hk
      | 1 => exact h1 hk
      | 2 => exact h2 hk
      | n + 3 => omega
    · exact hl

theorem noSelect (h : Region.noSelect ops = true) : ∀ (j : Nat) (o : Oper) cs b, ops[j]? = some o → o.op ≠ .select cs b := Region.noSelect_spec h

theorem vcTake_spec {i : Nat} {o : Oper} {γ : Known} {ρ : Env} {w : World} {f : Env → (Value → Prop) → Option Prop} {K : Known → Env → World → Prop} {a : Act}
    {Y : Value → Act → Prop} (_ : ops[i]? = some o)
    (hf : ∀ ρ K p, Sim n ρ a → f ρ K = some p → p → Region.wanted o (yielded ops a.tmps) = true → ∃ v, Y v a ∧ K v)
    (hu : Region.wanted o (yielded ops a.tmps) = false → Y undef a)
    (hs : Sim n ρ a) (hγ : Gam γ a) (h : vcTake P n ops o γ ρ w f K) : ∃ v, Y v a ∧ liftK n K (a.put o.dst v) w := by
  unfold vcTake at h
  rcases vcGuard_spec hs hγ h with ⟨hw, γ', ρ', hs', hγ', h⟩ | ⟨hw, γ', ρ', hs', hγ', h⟩
  · split at h
    · rename_i p hp
      obtain ⟨v, hy, hv⟩ := hf _ _ _ hs' hp h hw
      exact ⟨v, hy, put_gam hs' hγ' hv⟩
    · exact h.elim
  · exact ⟨undef, hu hw, put_gam hs' hγ' h⟩

theorem vcTake_pu {i : Nat} {o : Oper} {γ : Known} {ρ : Env} {w : World} {K : Known → Env → World → Prop} {a : Act} (ho : ops[i]? = some o)
    (hs : Sim n ρ a) (hγ : Gam γ a) (h : vcTake P n ops o γ ρ w (fun ρ => vcPu P o ρ) K) : ∃ v, Yields P ops o v a ∧ liftK n K (a.put o.dst v) w := by
  refine vcTake_spec (Y := fun v a => Yields P ops o v a) ho (fun ρ K p hs hp h hw => ?_) (fun hw => .inr ⟨hw, rfl⟩) hs hγ h
  obtain ⟨v, hr, hv⟩ := vcPu_spec hs hp h
  exact ⟨v, .inl ⟨hw, hr⟩, hv⟩

theorem vcTake_ld {i : Nat} {o : Oper} {γ : Known} {ρ : Env} {w : World} {K : Known → Env → World → Prop} {a : Act} (ho : ops[i]? = some o)
    (hs : Sim n ρ a) (hγ : Gam γ a) (h : vcTake P n ops o γ ρ w (fun ρ => vcLd P o ρ w) K) : ∃ v, YieldsIf P ops (Grown w) o v a ∧ liftK n K (a.put o.dst v) w := by
  refine vcTake_spec (Y := fun v a => YieldsIf P ops (Grown w) o v a) ho (fun ρ K p hs hp h hw => ?_) (fun hw => .inr ⟨hw, rfl⟩) hs hγ h
  obtain ⟨v, hr, hv⟩ := vcLd_spec hs hp h
  exact ⟨v, .inl ⟨hw, hr⟩, hv⟩

theorem vcTake_rd {i : Nat} {o : Oper} {γ : Known} {ρ : Env} {w : World} {K : Known → Env → World → Prop} {a : Act} (ho : ops[i]? = some o)
    (hs : Sim n ρ a) (hγ : Gam γ a) (h : vcTake P n ops o γ ρ w (fun ρ => vcRd P o ρ w) K) : ∃ v, YieldsIf P ops (· = w) o v a ∧ liftK n K (a.put o.dst v) w := by
  refine vcTake_spec (Y := fun v a => YieldsIf P ops (· = w) o v a) ho (fun ρ K p hs hp h hw => ?_) (fun hw => .inr ⟨hw, rfl⟩) hs hγ h
  obtain ⟨v, hr, hv⟩ := vcRd_spec hs hp h
  exact ⟨v, .inl ⟨hw, fun w' e => by subst e; exact hr⟩, hv⟩

theorem vcTake_any {i : Nat} {o : Oper} {γ : Known} {ρ : Env} {w : World} {K : Known → Env → World → Prop} {a : Act} (ho : ops[i]? = some o)
    (hs : Sim n ρ a) (hγ : Gam γ a) (h : vcTake P n ops o γ ρ w (fun ρ => vcRead P o ρ w) K) : ∃ v, YieldsIf P ops (· = w) o v a ∧ liftK n K (a.put o.dst v) w := by
  refine vcTake_spec (Y := fun v a => YieldsIf P ops (· = w) o v a) ho (fun ρ K p hs hp h hw => ?_) (fun hw => .inr ⟨hw, rfl⟩) hs hγ h
  obtain ⟨v, hr, hv⟩ := vcRead_spec hs hp h
  exact ⟨v, .inl ⟨hw, fun w' e => by subst e; exact hr⟩, hv⟩

/-- An operation that makes a block. -/
theorem vcStep_grown {i : Nat} {o : Oper} (ho : ops[i]? = some o) (hk : kind P o = 3) {γ : Known} {ρ : Env} {w : World} {K : Known → Env → World → Prop} {a : Act}
    (hs : Sim n ρ a) (hγ : Gam γ a) (h : vcStep P n ops o γ ρ w K) : wpOp P ops Q i (fun a' w' => Grown w w' ∧ liftK n K a' w') a w := by
  unfold wpOp
  rw [ho]
  dsimp only
  rcases vcGuard_spec hs hγ h with ⟨hw, γ', ρ', hs', hγ', h⟩ | ⟨hw, γ', ρ', hs', hγ', h⟩
  · rw [if_pos hw]
    refine .inl ?_
    unfold vcOp at h
    split at h
    · rename_i p hp
      obtain ⟨v, hr, hv⟩ := vcRead_spec hs' hp h
      unfold Oper.wp; rw [hr]
      exact ⟨.refl w, put_gam hs' hγ' hv⟩
    · obtain ⟨v, w', hr, g, hv⟩ := vcEf_grown hk hs' h
      unfold Oper.wp; rw [hr]
      exact ⟨g, put_gam hs' hγ' hv⟩
  · rw [if_neg (by simp [hw])]
    exact ⟨.refl w, put_gam hs' hγ' h⟩

theorem vcAny_sound (hap : apartAll ops = true) (hsel : Region.noSelect ops = true) (hQp : ∀ c a w, ¬ Q (.panic c) a w) :
    ∀ (f : Nat) (listed : Array Bool) (γ : Known) (ρ : Env) (w : World) (K : Env → World → Prop) (a : Act), Sim n ρ a → Gam γ a → vcAny P n ops f listed γ ρ w K →
      (∀ a w, lift n K a w → Q .normal a w) → wpAnyG P (effAt P ops) ops Q f listed a w := by
  intro f
  induction f with
  | zero =>
    intro listed γ ρ w K a hs hγ h hQ
    unfold vcAny at h
    split at h
    · rename_i hr
      exact ⟨hr, hQ _ _ ⟨ρ, hs, h⟩⟩
    · exact h.elim
  | succ f ih =>
    intro listed γ ρ w K a hs hγ h hQ
    unfold vcAny at h
    have hfree : ∀ {i : Nat} {oi : Oper}, ops[i]? = some oi → i ∈ Region.ready .any ops listed →
        ∀ j oj, ops[j]? = some oj → j ≠ i → listed.getD j true = false → (∀ e ∈ oj.after, Region.binds .any e = true → e.on ≠ i) → oi.apart ops oj = true := by
      intro i oi hi hr j oj hj hji hun hno
      refine apartAll_spec hap hi hj hji hno fun e he hb heq => ?_
      obtain ⟨_, o', ho', hall⟩ := mem_ready.1 hr
      rw [hi] at ho'; simp at ho'; subst ho'
      have := hall e he hb
      rw [heq, getD_false_of_true hun] at this; cases this
    have first : ∀ {i : Nat} {o : Oper} {v : Value}, ops[i]? = some o → readyAt ops listed i = true → effAt P ops i = 0 → Firm P (effAt P ops) ops listed i o v a w →
        liftK n (fun γ ρ w => vcAny P n ops f (listed.setIfInBounds i true) γ ρ w K) (a.put o.dst v) w → wpAnyG P (effAt P ops) ops Q (f + 1) listed a w := by
      intro i o v ho hr he hy ⟨γ', ρ', hs', hγ', h'⟩
      have hr' := readyAt_spec hr
      exact G_first ho (noSelect hsel) (fun c a w h => absurd h (hQp _ _ _)) he f listed a w (hfree ho hr') hr' hy (ih _ γ' ρ' w K _ hs' hγ' h' hQ)
    split at h
    · rename_i i hp
      have hp' : readyAt ops listed i = true ∧ kindAt P ops i = 0 := by
        unfold pickOne at hp
        split at hp
        · rename_i i' hf
          cases hp
          have := List.find?_some hf
          simp only [Bool.and_eq_true] at this
          exact ⟨this.2, Nat.eq_of_beq_eq_true this.1.2⟩
        · split at hp
          · cases hp
          · split at hp <;> cases hp
      split at h
      · rename_i o ho
        obtain ⟨v, hy, h⟩ := vcTake_pu ho hs hγ h
        exact first ho hp'.1 (by unfold effAt; rw [hp'.2]; rfl) (.inl hy) h
      · exact h.elim
    · rename_i i hp
      have hp' : readyAt ops listed i = true ∧ kindAt P ops i = 1 ∧ readFirst P ops listed 4 i = true := by
        unfold pickOne at hp
        split at hp
        · cases hp
        · split at hp
          · rename_i i' hf
            cases hp
            have := List.find?_some hf
            simp only [Bool.and_eq_true] at this
            exact ⟨this.1.2, Nat.eq_of_beq_eq_true this.1.1.2, this.2⟩
          · split at hp <;> cases hp
      split at h
      · rename_i o ho
        obtain ⟨v, hy, h⟩ := vcTake_ld ho hs hγ h
        exact first ho hp'.1 (by unfold effAt; rw [hp'.2.1]; rfl) (.inr (.inl ⟨hy, (readFirst_spec hp'.2.2).mono fun j h => effAt_two h⟩)) h
      · exact h.elim
    · rename_i i hp
      have hp' : readyAt ops listed i = true ∧ kindAt P ops i = 2 ∧ readFirst P ops listed 3 i = true := by
        unfold pickOne at hp
        split at hp
        · cases hp
        · split at hp
          · cases hp
          · split at hp
            · rename_i i' hf
              cases hp
              have := List.find?_some hf
              simp only [Bool.and_eq_true] at this
              exact ⟨this.1.2, Nat.eq_of_beq_eq_true this.1.1.2, this.2⟩
            · cases hp
      split at h
      · rename_i o ho
        obtain ⟨v, hy, h⟩ := vcTake_rd ho hs hγ h
        exact first ho hp'.1 (by unfold effAt; rw [hp'.2.1]; rfl) (.inr (.inr ⟨hy, (readFirst_spec hp'.2.2).mono fun j h => effAt_one h⟩)) h
      · exact h.elim
    · split at h
      · rename_i hr
        exact ⟨fun _ => hQ _ _ ⟨ρ, hs, h⟩, fun i hi => by rw [hr] at hi; cases hi⟩
      · rename_i hne
        refine ⟨fun h0 => absurd h0 hne, fun i hi => ?_⟩
        have h1 := allOf_spec h i hi
        split at h1
        · rename_i o ho
          have hka : kindAt P ops i = kind P o := by unfold kindAt; rw [ho]
          split at h1
          · rename_i hk
            have hk' : kind P o < 3 := by simpa [Nat.blt_eq] using hk
            have he : effAt P ops i = 0 := by
              unfold effAt; rw [hka]
              match hkk : kind P o with
              | 0 => rfl
              | 1 => rfl
              | 2 => rfl
              | n + 3 => omega
            rw [he]
            try dsimp only
            obtain ⟨v, hy, γ', ρ', hs', hγ', h1⟩ := vcTake_any ho hs hγ h1
            exact hy.wpOp ho rfl ⟨rfl, ih _ γ' ρ' w K _ hs' hγ' h1 hQ⟩
          · rename_i hk
            have hk' : ¬ kind P o < 3 := fun hl => by
              have : (kind P o).blt 3 = true := by simpa [Nat.blt_eq] using hl
              rw [this] at hk; cases hk
            match hkk : kind P o with
            | 0 => omega
            | 1 => omega
            | 2 => omega
            | 3 =>
              have he : effAt P ops i = 1 := by unfold effAt; rw [hka, hkk]; rfl
              rw [he]
              try dsimp only
              refine wpOp_mono ?_ (vcStep_grown ho hkk hs hγ h1)
              intro a' w' ⟨g, γ', ρ', hs', hγ', h'⟩
              exact ⟨g, ih _ γ' ρ' w' K a' hs' hγ' h' hQ⟩
            | k + 4 =>
              have he : effAt P ops i = 2 := by unfold effAt; rw [hka, hkk]; rfl
              rw [he]
              try dsimp only
              refine wpOp_mono ?_ (vcStep_sound ho hs hγ h1)
              intro a' w' ⟨γ', ρ', hs', hγ', h'⟩
              exact wpAny_of_G _ _ _ _ (ih _ γ' ρ' w' K a' hs' hγ' h' hQ)
        · exact h1.elim

end Go.Vc
