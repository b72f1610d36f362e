import Derived.Test.YtohhoojcgcbmcaaVcT
set_option maxRecDepth 4000
set_option linter.unusedVariables false
set_option linter.unusedSimpArgs false
namespace Go.Vc
open Go

variable {P : Program} {n : Nat} {lv : Nat → List Nat}

theorem restrict_get (ρ : Env) : ∀ (ls : List Nat) (t : Nat) (v : Value), (restrict ls ρ).get t = some v → ρ.get t = some v
  | [], t, v, h => by simp [restrict, Env.get] at h
  | l :: ls, t, v, h => by
    simp only [restrict] at h
    split at h
    · rename_i u hu
      simp only [Env.get] at h
      cases hh : Nat.beq l t with
      | true => rw [hh] at h; simp at h; rw [← Nat.eq_of_beq_eq_true hh, ← h]; exact hu
      | false => rw [hh] at h; exact restrict_get ρ ls t v h
    · exact restrict_get ρ ls t v h

theorem Sim.restrict {ρ : Env} {a : Act} (h : Sim n ρ a) (ls : List Nat) : Sim n (Vc.restrict ls ρ) a :=
  ⟨h.size, h.defers, fun t v e => h.get t v (restrict_get ρ ls t v e)⟩

theorem liftQ_mono {Q Q' : Exit → Env → World → Prop} (h : ∀ e ρ w, Q e ρ w → Q' e ρ w) : ∀ e a w, liftQ n Q e a w → liftQ n Q' e a w := by
  intro e a w hq
  cases e <;> simp only [liftQ] at hq ⊢
  all_goals first
    | exact hq.elim
    | (obtain ⟨ρ, hs, hq⟩ := hq; exact ⟨ρ, hs, h _ _ _ hq⟩)

theorem vcCode_sound (hm : P.follows .mixedOrders = true) : ∀ (c : Code) (Q : Exit → Env → World → Prop) (ρ : Env) (w : World) (a : Act), vcCode P n lv c Q ρ w → Sim n ρ a →
    c.wp P (liftQ n Q) a w
  | .skip, Q, ρ, w, a, h, hs => wp_skip ⟨ρ, hs, h⟩
  | .region id ops draw, Q, ρ, w, a, h, hs => by
    unfold vcCode at h
    split at h
    · refine wp_region ?_
      have := vcOps_sound (P := P) (n := n) (ops := ops) (Q := liftQ n Q) ops.toList 0 [] ρ w (Q .normal) a (fun j => by simp) hs (Gam.nil a) h (fun a w h => h)
      rw [List.range_eq_range']
      simpa using this
    · split at h
      · rename_i hb
        simp only [Bool.and_eq_true] at hb
        exact wp_region_any hm (wpAny_of_G _ _ _ _ (vcAny_sound (Q := liftQ n Q) hb.1 hb.2 (fun c a w h => h) ops.size _ [] ρ w.drew (Q .normal) a hs (Gam.nil a) h (fun a w h => h)))
      · exact h.elim
  | .seq x y, Q, ρ, w, a, h, hs => by
    unfold vcCode at h
    refine wp_seq (wp_mono (vcCode_sound hm x _ ρ w a h hs) ?_)
    intro e a' w' hq
    cases e <;> simp only [liftQ, Exit.then, seqQ] at hq ⊢
    case normal =>
      obtain ⟨ρ', hs', hq⟩ := hq
      exact vcCode_sound hm y Q ρ' w' a' hq hs'
    all_goals first
      | exact hq
      | exact hq.elim
  | .cond c x y, Q, ρ, w, a, h, hs => by
    unfold vcCode at h
    split at h
    · rename_i b hb
      refine wp_cond_split (hs.val hb) (fun e => ?_) (fun e => ?_)
      · exact vcCode_sound hm x Q ρ w a (h.1 e) hs
      · exact vcCode_sound hm y Q ρ w a (h.2 e) hs
    · exact h.elim
  | .block id c, Q, ρ, w, a, h, hs => by
    unfold vcCode at h
    refine wp_block (wp_mono (vcCode_sound hm c _ ρ w a h hs) ?_)
    intro e a' w' hq
    cases e <;> simp only [liftQ, Exit.inBlock, blockQ] at hq ⊢
    case exit i =>
      obtain ⟨ρ', hs', hq⟩ := hq
      split at hq
      · rename_i hi
        rw [if_pos (Nat.eq_of_beq_eq_true hi)]
        exact ⟨ρ', hs', hq⟩
      · rename_i hi
        rw [if_neg (fun e => by subst e; rw [Nat.beq_refl] at hi; cases hi)]
        exact ⟨ρ', hs', hq⟩
    all_goals first
      | exact hq
      | exact hq.elim
  | .loop c, Q, ρ, w, a, h, hs => by
    unfold vcCode at h
    exact h a (hs.restrict _)
  | .exit id, Q, ρ, w, a, h, hs => wp_exit ⟨ρ, hs, h⟩
  | .ret, Q, ρ, w, a, h, hs => wp_ret ⟨ρ, hs, h⟩
  | .label l, Q, ρ, w, a, h, hs => wp_label ⟨ρ, hs, h⟩
  | .rangeFunc _ _ _ _, Q, ρ, w, a, h, hs => by unfold vcCode at h; exact h.elim
  | .scope _, Q, ρ, w, a, h, hs => by unfold vcCode at h; exact h.elim
  | .goto _, Q, ρ, w, a, h, hs => by unfold vcCode at h; exact h.elim
  | .refuse _, Q, ρ, w, a, h, hs => by unfold vcCode at h; exact h.elim

/-! ### loops -/

theorem runN_next_cases {P : Program} {k : Nat} {m m₁ m' : Machine} (h1 : step P m = .next m₁) (h : runN P k m = .next m') : m' = m ∨ Steps P m₁ m' := by
  cases k with
  | zero => simp [runN] at h; exact .inl h.symm
  | succ k =>
    simp only [runN, h1] at h
    exact .inr ⟨k, h⟩

theorem lone_todo {f f' : Frame} {cs cs' : List Frame} {w w' : World} (h : lone f cs w = lone f' cs' w') : f = f' := by
  have := congrArg (fun m : Machine => (m.gs.toList.map (·.frame))) h
  simpa [lone] using this

theorem exit_len (id : Nat) : ∀ (l k' : List Item), exitTo id l = some k' → k'.length ≤ l.length
  | [], k', h => by simp [exitTo] at h
  | x :: l, k', h => by
    have rc : exitTo id l = some k' → k'.length ≤ (x :: l).length := fun h => by
      have := exit_len id l k' h
      simp; omega
    cases x <;> simp only [exitTo] at h
    all_goals first
      | exact rc h
      | skip
    split at h
    · simp at h; subst h; simp
    · exact rc h

/-- A loop, unfolded by a round. -/
theorem wp_loop_unfold {c : Code} {Q : Exit → Act → World → Prop} {a : Act} {w : World} (hg : ∀ l a w, ¬ Q (.goto l) a w) (hp : ∀ l a w, ¬ Q (.panic l) a w) (ho : ∀ a w, ¬ Q .outgrown a w)
    (h : c.wp P (fun e a w => match e with
      | .normal => (Code.loop c).wp P Q a w
      | e => Q e a w) a w) : (Code.loop c).wp P Q a w := by
  intro b k cs
  obtain ⟨e, a₁, w₁, hq, harr⟩ := h b (.inLoop c :: k) cs
  cases e with
  | normal =>
    obtain ⟨e₂, a₂, w₂, hq₂, harr₂⟩ := hq b k cs
    have h1 : step P (lone (b.at a₁ (.code (.loop c) :: k)) cs w₁) = .next (lone (b.at a₁ (.code c :: .inLoop c :: k)) cs w₁) := step_loop
    have h2 : step P (lone (b.at a₁ (.inLoop c :: k)) cs w₁) = .next (lone (b.at a₁ (.code c :: .inLoop c :: k)) cs w₁) := step_inLoop
    have pre : Steps P (lone (b.at a (.code (.loop c) :: k)) cs w) (lone (b.at a₁ (.code c :: .inLoop c :: k)) cs w₁) :=
      .head step_loop (Steps.trans harr (.one h2))
    have conv : ∀ {f : Frame} {w'}, Steps P (lone (b.at a₁ (.code (.loop c) :: k)) cs w₁) (lone f cs w') → f ≠ b.at a₁ (.code (.loop c) :: k) →
        Steps P (lone (b.at a (.code (.loop c) :: k)) cs w) (lone f cs w') := by
      intro f w' ⟨j, hj⟩ hne
      rcases runN_next_cases h1 hj with e | h
      · exact absurd (lone_todo e) hne
      · exact Steps.trans pre h
    have len_ne : ∀ {k' : List Item}, k'.length ≤ k.length → ∀ (a' : Act), b.at a' k' ≠ b.at a₁ (.code (.loop c) :: k) := by
      intro k' hk a' e
      have := congrArg (fun f : Frame => f.todo.length) e
      simp [Frame.at] at this
      omega
    refine ⟨e₂, a₂, w₂, hq₂, ?_⟩
    cases e₂ with
    | normal => exact conv harr₂ (len_ne (Nat.le_refl _) _)
    | exit id => exact fun k' hk => conv (harr₂ k' hk) (len_ne (exit_len id k k' hk) _)
    | goto l => exact absurd hq₂ (hg _ _ _)
    | ret =>
      obtain ⟨todo, hs⟩ := harr₂
      exact ⟨todo, conv hs (fun e => by have := congrArg Frame.mode e; simp [Frame.at] at this)⟩
    | panic ch => exact absurd hq₂ (hp _ _ _)
    | outgrown => exact absurd hq₂ (ho _ _)
  | exit id => exact ⟨_, a₁, w₁, hq, .of_steps (.one step_loop) (.pass (x := .inLoop c) rfl (fun _ _ => .inl (by simp)) harr)⟩
  | goto l => exact ⟨_, a₁, w₁, hq, .of_steps (.one step_loop) (.pass (x := .inLoop c) rfl (fun _ _ => .inl (by simp)) harr)⟩
  | ret => exact ⟨_, a₁, w₁, hq, .of_steps (.one step_loop) (.pass (x := .inLoop c) rfl (fun _ _ => .inl (by simp)) harr)⟩
  | panic ch => exact ⟨_, a₁, w₁, hq, .of_steps (.one step_loop) (.pass (x := .inLoop c) rfl (fun _ _ => .inl (by simp)) harr)⟩
  | outgrown => exact ⟨_, a₁, w₁, hq, .of_steps (.one step_loop) (.pass (x := .inLoop c) rfl (fun _ _ => .inl (by simp)) harr)⟩

/-- A loop by its round. -/
theorem Loop.unfold (hm : P.follows .mixedOrders = true) {c : Code} {Q : Exit → Env → World → Prop} {ρ : Env} {w : World} (h : vcRound P n lv c Q ρ w) : Loop P n c Q ρ w := by
  intro a hs
  refine wp_loop_unfold (fun l a w h => h) (fun l a w h => h) (fun a w h => h) (wp_mono (vcCode_sound hm c _ ρ w a h hs) ?_)
  intro e a' w' hq
  cases e <;> simp only [liftQ, loopQ, seqQ] at hq ⊢
  case normal =>
    obtain ⟨ρ', hs', hq⟩ := hq
    exact hq a' (hs'.restrict _)
  all_goals exact hq

theorem Loop.mono {c : Code} {Q Q' : Exit → Env → World → Prop} {ρ : Env} {w : World} (h : Loop P n c Q ρ w) (hq : ∀ e ρ w, Q e ρ w → Q' e ρ w) : Loop P n c Q' ρ w :=
  fun a hs => wp_mono (h a hs) (liftQ_mono hq)

/-! ### functions -/

theorem mapM_list_run {α β : Type} {f : α → Sem β} : ∀ (l : List α) (w : World) (vs : List β), (∀ i (h : i < l.length), ∃ (h' : i < vs.length), (f l[i]).run P w = .ok vs[i] w) → l.length = vs.length →
    (l.mapM f).run P w = .ok vs w
  | [], w, vs, _, hl => by cases vs <;> simp at hl ⊢
  | x :: l, w, vs, h, hl => by
    cases vs with
    | nil => simp at hl
    | cons v vs =>
      obtain ⟨_, h0⟩ := h 0 (by simp)
      simp only [List.getElem_cons_zero] at h0
      have h1 := mapM_list_run l w vs (fun i hi => by
        obtain ⟨h', e⟩ := h (i + 1) (by simp; omega)
        simp only [List.getElem_cons_succ] at e
        exact ⟨by simp at h'; omega, e⟩) (by simpa using hl)
      simp [List.mapM_cons, h0, h1]

/-- What a result comes to. -/
def resOf (tmps : Array Value) : ResultVar → Sem Value
  | .tmp t => pure (tmps.getD t undef)
  | .cell a t => do loadVar t (← asAddr (tmps.getD a undef))

theorem vcRes_spec {ρ : Env} {w : World} {a : Act} (hs : Sim n ρ a) : ∀ {rs : List ResultVar} {K : List Value → Prop}, vcRes P ρ w rs K →
    ∃ vs, (rs.mapM (resOf a.tmps)).run P w = .ok vs w ∧ vs.length = rs.length ∧ K vs
  | [], K, h => ⟨[], by simp, rfl, h⟩
  | .tmp t :: rs, K, h => by
    unfold vcRes at h
    split at h
    · rename_i v hv
      obtain ⟨vs, e, hl, h⟩ := vcRes_spec hs h
      refine ⟨v :: vs, ?_, by simp [hl], h⟩
      have := hs.get t v hv
      simp [List.mapM_cons, resOf, this, e]
    · exact h.elim
  | .cell x t :: rs, K, h => by
    unfold vcRes at h
    split at h
    · rename_i ad hx
      have hget := hs.get x _ hx
      split at h
      · rename_i c hc
        obtain ⟨v, hv, h⟩ := exCell_spec h
        obtain ⟨vs, e, hl, h⟩ := vcRes_spec hs h
        refine ⟨v :: vs, ?_, by simp [hl], h⟩
        simp [List.mapM_cons, resOf, hget, asAddr, loadVar, isAgg_one hc, hv, e]
      · rename_i cs hc
        split at h
        · rename_i hz
          obtain ⟨i, hi, hsz⟩ := sizeIs_spec hz
          obtain ⟨us, e1, h⟩ := loadCellsFrom_spec (P := P) ad cs 0 #[] _ h
          obtain ⟨vs, e, hl, h⟩ := vcRes_spec hs h
          refine ⟨.agg us.toArray :: vs, ?_, by simp [hl], h⟩
          simp [List.mapM_cons, resOf, hget, asAddr, loadVar, isAgg_agg hc, sizeOf_run t i hi, hsz, loadCells, e1, e]
        · exact h.elim
      · exact h.elim
    · exact h.elim

theorem fnPost_sound {fn : Func} {R : Ending → World → Prop} {e : Exit} {a : Act} {w : World} (h : liftQ n (fnPost P fn R) e a w) : bodyPost P fn R e a w := by
  have key : ∀ ρ, Sim n ρ a → (vcRes P ρ w fn.results.toList fun vs => match vs with
      | [v] => R (.returned v) w
      | vs => R (.returned (.tuple vs.toArray)) w) → a.defers = [] ∧ ∃ v, (results fn a.tmps).run P w = .ok v w ∧ R (.returned v) w := by
    intro ρ hs h
    obtain ⟨vs, hr, hl, h⟩ := vcRes_spec hs h
    refine ⟨hs.defers, ?_⟩
    have hm : (fn.results.mapM (resOf a.tmps)).run P w = .ok vs.toArray w := by
      rw [Array.mapM_eq_mapM_toList]
      simp [hr]
    have hres : results fn a.tmps = (do let vs ← fn.results.mapM (resOf a.tmps); pure (if h : vs.size = 1 then vs[0] else .tuple vs)) := by
      unfold results
      congr 1
    rw [hres]
    simp only [Sem.run_bind, hm, Result.andThen_ok, Sem.run_pure]
    cases vs with
    | nil => exact ⟨_, rfl, h⟩
    | cons v vs =>
      cases vs with
      | nil => exact ⟨_, rfl, h⟩
      | cons u vs => exact ⟨_, rfl, by simpa using h⟩
  cases e <;> simp only [liftQ, fnPost, bodyPost] at h ⊢
  case normal => obtain ⟨ρ, hs, h⟩ := h; exact key ρ hs h
  case ret => obtain ⟨ρ, hs, h⟩ := h; exact key ρ hs h
  case exit => obtain ⟨ρ, hs, h⟩ := h; exact h

theorem envOf_get : ∀ (vs : List Value) (i t : Nat) (v : Value), (envOf i vs).get t = some v → i ≤ t ∧ vs[t - i]? = some v
  | [], i, t, v, h => by simp [envOf, Env.get] at h
  | u :: vs, i, t, v, h => by
    simp only [envOf, Env.get] at h
    cases hh : Nat.beq i t with
    | true =>
      rw [hh] at h; simp at h
      have := Nat.eq_of_beq_eq_true hh
      subst this
      simp [h]
    | false =>
      rw [hh] at h
      obtain ⟨h1, h2⟩ := envOf_get vs (i + 1) t v h
      refine ⟨by omega, ?_⟩
      have : t - i = (t - (i + 1)) + 1 := by omega
      rw [this]; simpa using h2

/-- A function's contract by its condition. -/
theorem calls_of (hm : P.follows .mixedOrders = true) (lv : Nat → List Nat) {f : FuncId} {fn : Func} {args : List Value} {w : World} {R : Ending → World → Prop} (hf : P.funcs[f]? = some fn)
    (ha : args.length ≤ fn.ntmps) (h : vcFn P fn lv args w R) : Calls P f args.toArray w R := by
  unfold vcFn at h
  split at h
  · rename_i c hc
    refine calls_of_wp hf hc (wp_mono (vcCode_sound (lv := lv) hm c (fnPost P fn R) (envOf 0 args) w _ h ?_) fun e a w hq => fnPost_sound hq)
    refine ⟨by simp; omega, rfl, fun t v e => ?_⟩
    obtain ⟨_, e⟩ := envOf_get args 0 t v e
    have ht : t < args.length := by
      rcases Nat.lt_or_ge t args.length with h | h
      · exact h
      · simp [List.getElem?_eq_none h] at e
    simp only [Nat.sub_zero] at e
    rw [Array.getElem?_append_left (by simpa using ht)]
    simpa using e
  · exact h.elim

theorem LoopAt.unfold (hm : P.follows .mixedOrders = true) {fn : Func} {path : List Nat} {R : Ending → World → Prop} {ρ : Env} {w : World} (h : RoundAt P fn lv path R ρ w) : LoopAt P fn lv path R ρ w := by
  unfold RoundAt at h
  unfold LoopAt
  split at h
  · split at h
    · exact Loop.unfold hm h
    · exact h
  · exact h

end Go.Vc
