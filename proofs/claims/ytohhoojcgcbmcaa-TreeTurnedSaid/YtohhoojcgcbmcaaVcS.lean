import Derived.Test.YtohhoojcgcbmcaaVc
set_option maxRecDepth 4000
set_option linter.unusedVariables false
set_option linter.unusedSimpArgs false
namespace Go.Vc
open Go

variable {P : Program} {n : Nat} {o : Oper} {ρ : Env} {w : World} {K : Env → World → Prop} {a : Act} {Q : Exit → Act → World → Prop}

/-- What is said of an act: it bears what is known, and that satisfies. -/
def lift (n : Nat) (K : Env → World → Prop) (a : Act) (w : World) : Prop := ∃ ρ, Sim n ρ a ∧ K ρ w

theorem done_value {v : Value} {w' : World} (hs : Sim n ρ a) (hr : (execOp a.eval o).run P w = .ok (.value v) w') (h : put n o.dst v ρ K w') :
    o.wp P a w (lift n K) Q := by
  unfold Oper.wp
  rw [hr]
  exact put_spec h hs

theorem done_skip {w' : World} (hs : Sim n ρ a) (hr : (execOp a.eval o).run P w = .ok .skip w') (h : put n o.dst undef ρ K w') :
    o.wp P a w (lift n K) Q := by
  unfold Oper.wp
  rw [hr]
  exact put_spec h hs

theorem run_v {s : Sem Value} {v : Value} {w' : World} (h : s.run P w = .ok v w') : (do pure (.value (← s)) : Sem Next).run P w = .ok (.value v) w' := by
  simp [h]

theorem run_u {s : Sem Unit} {w' : World} (h : s.run P w = .ok () w') : (do s; pure .skip : Sem Next).run P w = .ok .skip w' := by
  simp [h]

theorem loadCellsFrom_spec (ad : Addr) : ∀ (cs : List Cell) (i : Nat) (acc : Array Value) (Q : List Value → Prop), LdCells w ad i cs Q →
    ∃ vs, (loadCellsFrom ad i cs.length acc).run P w = .ok (acc ++ vs.toArray) w ∧ Q vs
  | [], i, acc, Q, h => ⟨[], by simp [loadCellsFrom], h⟩
  | c :: cs, i, acc, Q, h => by
    simp only [LdCells] at h
    obtain ⟨v, hv, h⟩ := exCell_spec h
    obtain ⟨vs, e, h⟩ := loadCellsFrom_spec ad cs (i + 1) (acc.push v) _ h
    refine ⟨v :: vs, ?_, h⟩
    simp only [List.length_cons, loadCellsFrom, Sem.run_bind, run_load, hv, Result.andThen_ok]
    rw [e]
    simp

theorem storeCells_spec (ad : Addr) : ∀ (vs : List Value) (i : Nat) (w : World) (Q : World → Prop), StCells ad i vs w Q →
    ∃ w', (storeCells ad vs i).run P w = .ok () w' ∧ Q w'
  | [], i, w, Q, h => ⟨w, by simp [storeCells], h⟩
  | v :: vs, i, w, Q, h => by
    simp only [StCells] at h
    obtain ⟨⟨u, hu⟩, hf, hv, h⟩ := h
    obtain ⟨w', e, h⟩ := storeCells_spec ad vs (i + 1) _ Q h
    refine ⟨w', ?_, h⟩
    have h1 : (store (ad.add i) v).run P w = .ok () (w.setCell (ad.add i) v) := by
      cases v <;> simp [oneCell] at hv <;> simp [store, Sem.run, hu, hf]
    simp only [storeCells, Sem.run_bind, h1, Result.andThen_ok]
    exact e

/-- How many cells a shape has. -/
def Shape.count : Shape → Nat
  | .one _ => 1
  | .agg cs => cs.length

theorem underlying_run (t : TypeId) (d : TypeDesc) (h : P.underlying t = some d) : (underlying t).run P w = .ok d w := by
  simp [underlying, program, Sem.run, h]

theorem typeInfo_run (t : TypeId) (i : TypeInfo) (h : P.info? t = some i) : (typeInfo t).run P w = .ok i w := by
  simp [typeInfo, program, Sem.run, h]

theorem sizeOf_run (t : TypeId) (i : TypeInfo) (h : P.info? t = some i) : (sizeOf t).run P w = .ok i.size w := by
  simp [sizeOf, typeInfo_run t i h]

theorem shapeOf_one {d : Nat} {t : TypeId} {c : Cell} (h : shapeOf P d t = some (.one c)) : ∃ u, P.underlying t = some u ∧ (match u with | .struct _ | .array _ _ => false | _ => true) = true := by
  cases d with
  | zero => simp [shapeOf] at h
  | succ d =>
    simp only [shapeOf] at h
    cases hu : P.underlying t with
    | none => simp [hu] at h
    | some u =>
      refine ⟨u, rfl, ?_⟩
      rw [hu] at h
      cases u <;> simp at h ⊢
      · split at h <;> simp at h
      · split at h <;> simp at h

theorem shapeOf_agg {d : Nat} {t : TypeId} {cs : List Cell} (h : shapeOf P d t = some (.agg cs)) : ∃ u, P.underlying t = some u ∧ (match u with | .struct _ | .array _ _ => true | _ => false) = true := by
  cases d with
  | zero => simp [shapeOf] at h
  | succ d =>
    simp only [shapeOf] at h
    cases hu : P.underlying t with
    | none => simp [hu] at h
    | some u =>
      refine ⟨u, rfl, ?_⟩
      rw [hu] at h
      cases u <;> simp at h ⊢

theorem isAgg_one {d : Nat} {t : TypeId} {c : Cell} (h : shapeOf P d t = some (.one c)) : (isAgg t).run P w = .ok false w := by
  obtain ⟨u, hu, hm⟩ := shapeOf_one h
  simp only [isAgg, Sem.run_bind, underlying_run t u hu, Result.andThen_ok]
  cases u <;> first | rfl | simp at hm

theorem isAgg_agg {d : Nat} {t : TypeId} {cs : List Cell} (h : shapeOf P d t = some (.agg cs)) : (isAgg t).run P w = .ok true w := by
  obtain ⟨u, hu, hm⟩ := shapeOf_agg h
  simp only [isAgg, Sem.run_bind, underlying_run t u hu, Result.andThen_ok]
  cases u <;> first | rfl | simp at hm

theorem sizeIs_spec {t : TypeId} {k : Nat} (h : sizeIs P t k = true) : ∃ i, P.info? t = some i ∧ i.size = k := by
  unfold sizeIs at h
  split at h
  · rename_i i hi; exact ⟨i, hi, Nat.eq_of_beq_eq_true h⟩
  · cases h



theorem nilOf_spec' {t : TypeId} {d : TypeDesc} {x : Value} {y : Operand} {z : Bool} (k : Nat) (hu : P.underlying t = some d) (h : nilOf d x y = some z) :
    ∃ v, y = .const v ∧ (Op.equalIn (k + 1) t x v).run P w = .ok z w ∧ eqGuard .eql t (.tmp 0) y x v = pure () ∧ eqGuard .neq t (.tmp 0) y x v = pure () ∧
      (∀ o x', eqGuard o t x' y x v = pure ()) ∧ binOp .eql t x v = (do pure (.bool (← Op.equal t x v))) ∧ binOp .neq t x v = (do pure (.bool (!(← Op.equal t x v)))) := by
  have hr := underlying_run (P := P) (w := w) t d hu
  unfold nilOf at h
  split at h
  · rename_i p
    simp at h; subst h
    refine ⟨_, rfl, ?_, ?_⟩
    · cases p <;> simp [Op.equalIn, hr]
    · refine ⟨rfl, rfl, fun o _ => by cases o <;> rfl, rfl, rfl⟩
  · rename_i p _ _ _ _
    simp at h; subst h
    refine ⟨_, rfl, ?_, ?_⟩
    · cases p <;> simp [Op.equalIn, hr]
    · refine ⟨rfl, rfl, fun o _ => by cases o <;> rfl, rfl, rfl⟩
  · rename_i p
    simp at h; subst h
    refine ⟨_, rfl, ?_, ?_⟩
    · cases p <;> simp [Op.equalIn, hr]
    · refine ⟨rfl, rfl, fun o _ => by cases o <;> rfl, rfl, rfl⟩
  · cases h

theorem nilCmp_spec {op : BinOp} {t : TypeId} {x : Value} {x' y : Operand} {b : Value} {z : Bool} (h : nilCmp P op t x y = some z) (hb : ∀ v, y = .const v → b = v) :
    (do eqGuard op t x' y x b; binOp op t x b : Sem Value).run P w = .ok (.bool z) w := by
  unfold nilCmp at h
  split at h
  · rename_i d hu
    obtain ⟨v, rfl, h1, _, _, h2, h3, _⟩ := nilOf_spec' (w := w) 9999 hu h
    obtain rfl := hb v rfl
    rw [h2, h3]
    have : (Op.equal t x b).run P w = .ok z w := h1
    simp [this]
  · rename_i d hu
    cases hn : nilOf d x y with
    | none => simp [hn] at h
    | some z' =>
      simp [hn] at h
      obtain ⟨v, rfl, h1, _, _, h2, _, h3⟩ := nilOf_spec' (w := w) 9999 hu hn
      obtain rfl := hb v rfl
      rw [h2, h3]
      have : (Op.equal t x b).run P w = .ok z' w := h1
      simp [this, h]
  · cases h

theorem bnd_run {k : IntKind} {i : Int} {top : Nat} {code : BoundsCode} (h : inB (some i) top) : (Instr.sliceBound (.int k i) top code).run P w = .ok (bnd (some i) 0) w := by
  simp only [inB] at h
  simp [Instr.sliceBound, asIntOf, h, bnd]

theorem sliceBounds_run {b : Bool} {len cap : Nat} {lo hi mx : Option Value} {lo' hi' mx' : Option (IntKind × Int)}
    (el : lo = lo'.map fun x => .int x.1 x.2) (eh : hi = hi'.map fun x => .int x.1 x.2) (em : mx = mx'.map fun x => .int x.1 x.2)
    (hm : inB (mx'.map (·.2)) cap) (hh : inB (hi'.map (·.2)) (bnd (mx'.map (·.2)) cap)) (hl : inB (lo'.map (·.2)) (bnd (hi'.map (·.2)) len)) (hmh : mx'.isSome = true → hi'.isSome = true) :
    (Instr.sliceBounds b len cap lo hi mx).run P w = .ok (bnd (lo'.map (·.2)) 0, bnd (hi'.map (·.2)) len, bnd (mx'.map (·.2)) cap) w := by
  subst el eh em
  cases mx' with
  | none =>
    cases hi' with
    | none =>
      cases lo' with
      | none => simp [Instr.sliceBounds, bnd]
      | some l =>
        simp only [Option.map_some] at hl
        simp [Instr.sliceBounds, bnd]
        have := bnd_run (P := P) (w := w) (k := l.1) (code := .sliceB) hl
        simp only [bnd, Option.map_none] at this
        rw [this]; rfl
    | some h =>
      have h1 := bnd_run (P := P) (w := w) (k := h.1) (code := if b = true then .sliceAcap else .sliceAlen) hh
      simp only [bnd, Option.map_none] at h1
      cases lo' with
      | none => simp [Instr.sliceBounds, bnd]; rw [h1]; rfl
      | some l =>
        have h2 := bnd_run (P := P) (w := w) (k := l.1) (code := .sliceB) hl
        simp only [bnd, Option.map_some] at h2
        simp [Instr.sliceBounds, bnd]; rw [h1]; simp; rw [h2]; rfl
  | some m =>
    cases hi' with
    | none => simp at hmh
    | some h =>
      have h0 := bnd_run (P := P) (w := w) (k := m.1) (code := if b = true then .slice3Acap else .slice3Alen) hm
      simp only [bnd] at h0
      have h1 := bnd_run (P := P) (w := w) (k := h.1) (code := .slice3B) hh
      simp only [bnd, Option.map_some] at h1
      cases lo' with
      | none => simp [Instr.sliceBounds, bnd]; rw [h0]; simp; rw [h1]; rfl
      | some l =>
        have h2 := bnd_run (P := P) (w := w) (k := l.1) (code := .slice3C) hl
        simp only [bnd, Option.map_some] at h2
        simp [Instr.sliceBounds, bnd]; rw [h0]; simp; rw [h1]; simp; rw [h2]; rfl

theorem intOp_spec {x : Option Operand} {r : Option (IntKind × Int)} (hs : Sim n ρ a) (h : ρ.intOp x = some r) : x.map a.eval = r.map fun x => .int x.1 x.2 := by
  cases x with
  | none => simp [Env.intOp] at h; subst h; rfl
  | some x =>
    simp only [Env.intOp] at h
    split at h
    · rename_i k i hv
      simp at h; subst h
      simp [hs.val hv]
    · cases h

theorem callFunc_enter {g : FuncId} {fn : Func} {args : Array Value} (hfn : P.funcs[g]? = some fn) (hb : fn.body.isSome = true) (hn : (fn.name == "runtime.NumGoroutine") = false) :
    (callFunc g args).run P w = .ok (.enter g args) w := by
  have hn' : ¬ fn.name = "runtime.NumGoroutine" := by simpa using hn
  obtain ⟨c, hc⟩ := Option.isSome_iff_exists.1 hb
  simp [callFunc, program, Sem.run, hfn, hn', hc]

theorem map_toList {α β : Type} (f : α → β) (x : Array α) (l : List β) (h : x.toList.map f = l) : x.map f = l.toArray := by
  subst h; rw [← Array.toList_map]

theorem vcPu_spec {K : Value → Prop} {p : Prop} (hs : Sim n ρ a) (hp : vcPu P o ρ K = some p) (h : p) :
    ∃ v, (∀ w, (execOp a.eval o).run P w = .ok (.value v) w) ∧ K v := by
  obtain ⟨dst, op, type, pos, after, guard⟩ := o
  cases op <;> unfold vcPu at hp <;> dsimp only at hp
  case move x =>
    split at hp
    · rename_i v hv
      cases hp
      exact ⟨v, fun w => by simp only [execOp]; rw [hs.val hv]; rfl, h⟩
    · cases hp
  case assign x =>
    split at hp
    · rename_i v hv
      cases hp
      exact ⟨v, fun w => by simp only [execOp]; rw [hs.val hv]; rfl, h⟩
    · cases hp
  case pick c x y =>
    split at hp
    · rename_i t hc
      split at hp
      · split at hp
        · rename_i v hv
          cases hp
          exact ⟨v, fun w => by simp only [execOp]; rw [hs.val hc, hs.val hv]; rfl, h⟩
        · cases hp
      · split at hp
        · rename_i v hv
          cases hp
          exact ⟨v, fun w => by simp only [execOp]; rw [hs.val hc, hs.val hv]; rfl, h⟩
        · cases hp
    · cases hp
  case build t ps =>
    split at hp
    · rename_i l hl
      split at hp
      · rename_i v hv
        cases hp
        refine ⟨v, fun w => run_v ?_, h⟩
        rw [← pureOf_spec hv w, map_toList _ ps l (hs.pairs hl)]
      · cases hp
    · cases hp
  case nilCheck x =>
    split at hp
    · rename_i p hx
      cases hp
      obtain ⟨ad, rfl, h⟩ := h
      exact ⟨_, fun w => by simp only [execOp]; rw [hs.val hx]; rfl, h⟩
    · rename_i f i c hx
      cases hp
      exact ⟨_, fun w => by simp only [execOp]; rw [hs.val hx]; rfl, h⟩
    · cases hp
  case binOp bop t x y yt =>
    split at hp
    · rename_i u v hx hy
      split at hp
      · rename_i s u
        cases hp
        obtain ⟨hsz, h⟩ := h
        refine ⟨_, fun w => run_v ?_, h⟩
        rw [hs.val hx, hs.val hy]
        simp only [eqGuard, binOp, Op.stringOp]
        rw [if_neg (Int.not_lt.2 hsz)]
        rfl
      · rename_i k i k' j
        cases hp
        obtain ⟨⟨rfl, hj⟩, h⟩ := h
        refine ⟨_, fun w => run_v (w' := w) ?_, h⟩
        rw [hs.val hx, hs.val hy]
        simp [eqGuard, binOp, Op.intDiv, hj]
      · rename_i k i k' j
        cases hp
        obtain ⟨⟨rfl, hj⟩, h⟩ := h
        refine ⟨_, fun w => run_v (w' := w) ?_, h⟩
        rw [hs.val hx, hs.val hy]
        simp [eqGuard, binOp, Op.intDiv, hj]
      · rename_i k i k' j
        cases hp
        obtain ⟨hj, h⟩ := h
        refine ⟨_, fun w => run_v (w' := w) ?_, h⟩
        rw [hs.val hx, hs.val hy]
        simp [eqGuard, binOp, Op.shift, Int.not_lt.2 hj]
      · rename_i k i k' j
        cases hp
        obtain ⟨hj, h⟩ := h
        refine ⟨_, fun w => run_v (w' := w) ?_, h⟩
        rw [hs.val hx, hs.val hy]
        simp [eqGuard, binOp, Op.shift, Int.not_lt.2 hj]
      · split at hp
        · split at hp
          · rename_i z hz
            cases hp
            refine ⟨_, fun w => run_v (w' := w) ?_, h⟩
            rw [hs.val hx]
            exact nilCmp_spec hz (fun c hc => by subst hc; rfl)
          · cases hp
        · split at hp
          · rename_i v' hv'
            cases hp
            refine ⟨_, fun w => run_v (w' := w) ?_, h⟩
            rw [hs.val hx, hs.val hy]
            exact pureOf_spec hv' w
          · cases hp
    · cases hp
  case unOp uop t x =>
    split at hp
    · rename_i v hx
      split at hp
      · rename_i v' hv'
        cases hp
        refine ⟨v', fun w => run_v (w' := w) ?_, h⟩
        rw [hs.val hx]; exact pureOf_spec hv' w
      · cases hp
    · cases hp
  case convert s d x =>
    split at hp
    · rename_i v hx
      split at hp
      · rename_i v' hv'
        cases hp
        refine ⟨v', fun w => run_v (w' := w) ?_, h⟩
        rw [hs.val hx]; exact pureOf_spec hv' w
      · cases hp
    · cases hp
  case makeInterface t x =>
    split at hp
    · rename_i v hx
      split at hp
      · rename_i v' hv'
        cases hp
        refine ⟨v', fun w => run_v (w' := w) ?_, h⟩
        rw [hs.val hx]; exact pureOf_spec hv' w
      · cases hp
    · cases hp
  case fieldAddr t x f =>
    split at hp
    · rename_i v hx
      split at hp
      · rename_i v' hv'
        cases hp
        refine ⟨v', fun w => run_v (w' := w) ?_, h⟩
        rw [hs.val hx]; exact pureOf_spec hv' w
      · cases hp
    · cases hp
  case field t x f =>
    split at hp
    · rename_i v hx
      split at hp
      · rename_i v' hv'
        cases hp
        refine ⟨v', fun w => run_v (w' := w) ?_, h⟩
        rw [hs.val hx]; exact pureOf_spec hv' w
      · cases hp
    · cases hp
  case extract x i =>
    split at hp
    · rename_i v hx
      split at hp
      · rename_i v' hv'
        cases hp
        refine ⟨v', fun w => run_v (w' := w) ?_, h⟩
        rw [hs.val hx]; exact pureOf_spec hv' w
      · cases hp
    · cases hp
  case makeFunc fn first cap =>
    split at hp
    · rename_i f c hf hc
      cases hp
      refine ⟨_, fun w => run_v (v := .func fn f.toArray c.toArray) (w' := w) ?_, h⟩
      rw [map_toList _ first f (hs.vals hf), map_toList _ cap c (hs.vals hc)]; rfl
    · cases hp
  case slice t x lo hi mx =>
    split at hp
    · rename_i s lo' hi' hu hx hlo hhi hmx
      cases hp
      obtain ⟨h1, h2, h3, h⟩ := h
      refine ⟨_, fun w => run_v (w' := w) ?_, h⟩
      rw [hs.val hx, intOp_spec hs hlo, intOp_spec hs hhi, intOp_spec hs hmx]
      have hb := sliceBounds_run (P := P) (w := w) (b := false) (len := s.size) (cap := s.size) (lo' := lo') (hi' := hi') (mx' := none) rfl rfl rfl h1 h2 h3 (by simp)
      simp only [Option.map_none] at hb
      simp [Instr.sliceAt, Instr.slice, underlying_run t _ hu, hb]
    · rename_i e p len cap lo' hi' mx' hu hx hlo hhi hmx
      split at hp
      · rename_i inf hinf h0
        cases hp
        obtain ⟨h1, h2, h3, h⟩ := h
        refine ⟨_, fun w => run_v (w' := w) ?_, h⟩
        rw [hs.val hx, intOp_spec hs hlo, intOp_spec hs hhi, intOp_spec hs hmx]
        have h0' : mx'.isSome = true → hi'.isSome = true := by
          intro hm
          cases mx' <;> simp at h0 hm ⊢
          exact h0
        have hb := sliceBounds_run (P := P) (w := w) (b := true) (len := len) (cap := cap) (lo' := lo') (hi' := hi') (mx' := mx') rfl rfl rfl h1 h2 h3 h0'
        simp [Instr.sliceAt, Instr.slice, underlying_run t _ hu, hb, sizeOf_run e inf hinf, slAt]
      · cases hp
    · cases hp
  case indexAddr t x i =>
    split at hp
    · rename_i e p l c k i' hu hx hi
      split at hp
      · rename_i inf hinf
        cases hp
        obtain ⟨ad, rfl, hb, h⟩ := h
        refine ⟨_, fun w => run_v (w' := w) ?_, h⟩
        rw [hs.val hx, hs.val hi]
        simp [Instr.indexAt, asIntOf, underlying_run t _ hu, sizeOf_run e inf hinf, hb]
      · cases hp
    · rename_i l e ad k i' hu hx hi
      split at hp
      · rename_i inf hinf
        cases hp
        obtain ⟨hb, h⟩ := h
        refine ⟨_, fun w => run_v (w' := w) ?_, h⟩
        rw [hs.val hx, hs.val hi]
        simp [Instr.indexAt, asIntOf, underlying_run t _ hu, sizeOf_run e inf hinf, hb, Instr.sureAddr]
      · cases hp
    · cases hp
  case index t x i =>
    split at hp
    · rename_i s k i' hu hx hi
      cases hp
      obtain ⟨b, ⟨h0, hb⟩, h⟩ := h
      refine ⟨_, fun w => run_v (w' := w) ?_, h⟩
      rw [hs.val hx, hs.val hi]
      simp [Instr.index, asIntOf, underlying_run t _ hu, h0, hb]
    · cases hp
  case call c =>
    obtain ⟨callee, args, argTypes⟩ := c
    cases callee with
    | value f => cases hp
    | invoke r m => cases hp
    | builtin b =>
      cases b <;> dsimp only at hp
      case len =>
        split at hp
        · rename_i l hl
          split at hp
          · rename_i v hv
            cases hp
            refine ⟨v, fun w => ?_, h⟩
            have ha : args.map a.eval = l.toArray := map_toList _ _ _ (hs.vals hl)
            simp only [execOp, resolve, ha]
            exact run_v (pureOf_spec hv w)
          · cases hp
        · cases hp
      case cap =>
        split at hp
        · rename_i l hl
          split at hp
          · rename_i v hv
            cases hp
            refine ⟨v, fun w => ?_, h⟩
            have ha : args.map a.eval = l.toArray := map_toList _ _ _ (hs.vals hl)
            simp only [execOp, resolve, ha]
            exact run_v (pureOf_spec hv w)
          · cases hp
        · cases hp
      case max =>
        split at hp
        · rename_i l hl
          split at hp
          · rename_i v hv
            cases hp
            refine ⟨v, fun w => ?_, h⟩
            have ha : args.map a.eval = l.toArray := map_toList _ _ _ (hs.vals hl)
            simp only [execOp, resolve, ha]
            exact run_v (pureOf_spec hv w)
          · cases hp
        · cases hp
      case min =>
        split at hp
        · rename_i l hl
          split at hp
          · rename_i v hv
            cases hp
            refine ⟨v, fun w => ?_, h⟩
            have ha : args.map a.eval = l.toArray := map_toList _ _ _ (hs.vals hl)
            simp only [execOp, resolve, ha]
            exact run_v (pureOf_spec hv w)
          · cases hp
        · cases hp
      all_goals cases hp
  all_goals cases hp

theorem LdCells_grown {w w' : World} (g : Grown w w') (ad : Addr) : ∀ (cs : List Cell) (i : Nat) (K : List Value → Prop), LdCells w ad i cs K →
    ∃ vs, (∀ w', Grown w w' → LdCells w' ad i cs (· = vs)) ∧ K vs
  | [], i, K, h => ⟨[], fun _ _ => rfl, h⟩
  | c :: cs, i, K, h => by
    simp only [LdCells] at h
    have key : ∀ v, w.cell? (ad.add i) = some v ∧ (LdCells w ad (i + 1) cs fun vs => K (v :: vs)) → ∃ vs, (∀ w', Grown w w' → w'.cell? (ad.add i) = some v ∧ LdCells w' ad (i + 1) cs fun us => v :: us = vs) ∧ K vs := by
      intro v ⟨hv, h⟩
      obtain ⟨vs, h1, h2⟩ := LdCells_grown g ad cs (i + 1) _ h
      refine ⟨v :: vs, fun w' g' => ⟨g'.cell hv, ?_⟩, h2⟩
      have h3 := h1 w' g'
      have : (fun us => v :: us = v :: vs) = (fun us => us = vs) := by funext us; simp
      rw [this]; exact h3
    simp only [LdCells]
    cases c <;> simp only [exCell] at h ⊢
    all_goals first
      | (obtain ⟨x, y, z, h⟩ := h
         obtain ⟨vs, h1, h2⟩ := key _ h
         exact ⟨vs, fun w' g' => ⟨x, y, z, h1 w' g'⟩, h2⟩)
      | (obtain ⟨x, h⟩ := h
         obtain ⟨vs, h1, h2⟩ := key _ h
         exact ⟨vs, fun w' g' => ⟨x, h1 w' g'⟩, h2⟩)

/-- A load comes to its value in every world with new blocks, too. -/
theorem vcLd_spec {K : Value → Prop} {p : Prop} (hs : Sim n ρ a) (hp : vcLd P o ρ w K = some p) (h : p) :
    ∃ v, (∀ w', Grown w w' → (execOp a.eval o).run P w' = .ok (.value v) w') ∧ K v := by
  obtain ⟨dst, op, type, pos, after, guard⟩ := o
  cases op <;> unfold vcLd at hp <;> dsimp only at hp
  case load t x =>
    split at hp
    · rename_i ad hx
      split at hp
      · rename_i c hc
        cases hp
        obtain ⟨v, hv, h⟩ := exCell_spec h
        refine ⟨v, fun w' g => run_v (v := v) (w' := w') ?_, h⟩
        rw [hs.val hx]
        simp [Instr.loadAt, Instr.sureAddr, loadVar, isAgg_one hc, g.cell hv]
      · rename_i cs hc
        split at hp
        · rename_i hz
          cases hp
          obtain ⟨i, hi, hsz⟩ := sizeIs_spec hz
          obtain ⟨vs, h1, h2⟩ := LdCells_grown (Grown.refl w) ad cs 0 _ h
          refine ⟨.agg vs.toArray, fun w' g => ?_, h2⟩
          obtain ⟨us, e, h3⟩ := loadCellsFrom_spec (P := P) ad cs 0 #[] _ (h1 w' g)
          subst h3
          refine run_v (v := .agg us.toArray) (w' := w') ?_
          rw [hs.val hx]
          simp [Instr.loadAt, Instr.sureAddr, loadVar, isAgg_agg hc, sizeOf_run t i hi, hsz, loadCells, e]
        · cases hp
      · cases hp
    · cases hp
  all_goals cases hp

theorem vcRd_spec {K : Value → Prop} {p : Prop} (hs : Sim n ρ a) (hp : vcRd P o ρ w K = some p) (h : p) :
    ∃ v, (execOp a.eval o).run P w = .ok (.value v) w ∧ K v := by
  obtain ⟨dst, op, type, pos, after, guard⟩ := o
  cases op <;> unfold vcRd at hp <;> dsimp only at hp
  case index t x i =>
    split at hp
    · rename_i x' i' hx hi
      cases hp
      obtain ⟨v', e, h⟩ := RunR_spec h
      refine ⟨v', run_v ?_, h⟩
      rw [hs.val hx, hs.val hi]; exact e
    · cases hp
  case binOp bop t x y yt =>
    split at hp
    · rename_i u v hx hy
      cases hp
      obtain ⟨v', e, h⟩ := RunR_spec h
      obtain ⟨z, rfl, h⟩ := exCell_spec h
      refine ⟨_, run_v ?_, h⟩
      rw [hs.val hx, hs.val hy]; exact e
    · cases hp
  case convert s d x =>
    split at hp
    · rename_i v hd hx
      cases hp
      obtain ⟨v', e, h⟩ := RunR_spec h
      obtain ⟨z, rfl, h⟩ := exCell_spec h
      refine ⟨_, run_v ?_, h⟩
      rw [hs.val hx]; exact e
    · cases hp
  case lookup t x i ok =>
    split at hp
    · rename_i x' i' k e hx hi hu
      split at hp
      · cases hp
        obtain ⟨v', e, h⟩ := RunR_spec h
        obtain ⟨u, rfl, h2⟩ := exShapes_spec h
        refine ⟨_, run_v ?_, h2⟩
        rw [hs.val hx, hs.val hi]; exact e
      · cases hp
        obtain ⟨v', e, h⟩ := RunR_spec h
        obtain ⟨u, rfl, h2⟩ := exShape_spec h
        refine ⟨_, run_v ?_, h2⟩
        rw [hs.val hx, hs.val hi]; exact e
    · cases hp
  case call c =>
    obtain ⟨callee, args, argTypes⟩ := c
    cases callee with
    | value f => cases hp
    | invoke r m => cases hp
    | builtin b =>
      cases b <;> dsimp only at hp
      case len =>
        split at hp
        · rename_i l hl
          cases hp
          obtain ⟨v', e, h⟩ := RunR_spec h
          obtain ⟨z, rfl, h⟩ := exCell_spec h
          have ha : args.map a.eval = l.toArray := map_toList _ _ _ (hs.vals hl)
          refine ⟨_, ?_, h⟩
          simp only [execOp, resolve, ha]
          exact run_v e
        · cases hp
      all_goals cases hp
  all_goals cases hp

theorem vcEf_sound {K : Value → World → Prop} {K' : Act → World → Prop} (hs : Sim n ρ a) (h : vcEf P o ρ w K) (hK : ∀ v w', K v w' → K' (a.put o.dst v) w') :
    o.wp P a w K' Q := by
  have dv : ∀ {v : Value} {w' : World}, (execOp a.eval o).run P w = .ok (.value v) w' → K v w' → o.wp P a w K' Q := by
    intro v w' hr h
    unfold Oper.wp
    rw [hr]
    exact hK v w' h
  have du : ∀ {w' : World}, (execOp a.eval o).run P w = .ok .skip w' → K undef w' → o.wp P a w K' Q := by
    intro w' hr h
    unfold Oper.wp
    rw [hr]
    exact hK _ w' h
  obtain ⟨dst, op, type, pos, after, guard⟩ := o
  cases op <;> unfold vcEf at h <;> dsimp only at h
  case alloc t =>
    obtain ⟨v, w', e, _, h⟩ := Sm_spec h
    exact dv (run_v e) h
  case box t x =>
    split at h
    · rename_i v hv
      exact dv (by simp only [execOp]; rw [hs.val hv]; rfl) h
    · exact h.elim
  case buildSlice t k ps =>
    split at h
    · rename_i l hl
      obtain ⟨v, w', e, _, h⟩ := Sm_spec h
      refine dv (run_v ?_) h
      rw [← e, map_toList _ ps l (hs.pairs hl)]
    · exact h.elim
  case insert t m k x =>
    split at h
    · rename_i m' k' x' hm hk hx
      obtain ⟨w', e, h⟩ := RunU_spec h
      refine du (run_u ?_) h
      rw [hs.val hm, hs.val hk, hs.val hx]; exact e
    · exact h.elim
  case mapUpdate t m k x =>
    split at h
    · rename_i m' k' x' hm hk hx
      obtain ⟨w', e, h⟩ := RunU_spec h
      refine du (run_u ?_) h
      rw [hs.val hm, hs.val hk, hs.val hx]; exact e
    · exact h.elim
  case store t x y =>
    split at h
    · rename_i ad v hx hy
      split at h
      · rename_i hz
        obtain ⟨i, hi, hsz⟩ := sizeIs_spec hz
        obtain ⟨w', e, h⟩ := storeCells_spec (P := P) ad v.cells.toList 0 w _ h
        refine du (run_u ?_) h
        rw [hs.val hx, hs.val hy]
        simp [Instr.storeAt, Instr.sureAddr, storeVar, sizeOf_run t i hi, hsz, e]
      · exact h.elim
    · exact h.elim
  case convert s d x =>
    split at h
    · rename_i v hx
      obtain ⟨v', w', e, h⟩ := Run_spec h
      obtain ⟨z, rfl, h⟩ := exShape_spec h
      refine dv (run_v ?_) h
      rw [hs.val hx]; exact e
    · exact h.elim
  case makeMap t r =>
    split at h
    · obtain ⟨v', w', e, h⟩ := Run_spec h
      obtain ⟨z, rfl, h⟩ := exCell_spec h
      exact dv (run_v e) h
    · split at h
      · rename_i x v hx
        obtain ⟨v', w', e, h⟩ := Run_spec h
        obtain ⟨z, rfl, h⟩ := exCell_spec h
        refine dv (run_v ?_) h
        simp only [Option.map_some]; rw [hs.val hx]; exact e
      · exact h.elim
  case makeSlice t l c =>
    split at h
    · rename_i l' c' hl hc
      obtain ⟨v', w', e, h⟩ := Run_spec h
      obtain ⟨z, rfl, h⟩ := exCell_spec h
      refine dv (run_v ?_) h
      rw [hs.val hl, hs.val hc]; exact e
    · exact h.elim
  case range t x =>
    split at h
    · rename_i v hx
      obtain ⟨v', w', e, h⟩ := Run_spec h
      refine dv (run_v ?_) h
      rw [hs.val hx]; exact e
    · exact h.elim
  case next x s =>
    split at h
    · rename_i v hx
      obtain ⟨v', w', e, h⟩ := Run_spec h
      refine dv (run_v ?_) h
      rw [hs.val hx]; exact e
    · exact h.elim
  case call c =>
    split at h
    · exact h.elim
    · rename_i args hargs
      have ha : c.args.map a.eval = args.toArray := map_toList _ _ _ (hs.vals hargs)
      have hb : ∀ (b : Builtin), c.callee = .builtin b → execOp a.eval { dst := dst, op := Op.call c, type := type, pos := pos, after := after, guard := guard } =
          builtin b c.argTypes type (c.args.map fun | .const _ => true | _ => false) args.toArray := by
        intro b hc
        simp only [execOp, resolve, hc, ha]
        rfl
      split at h
      · rename_i hc
        obtain ⟨v', w', e, h⟩ := Run_spec h
        obtain ⟨z, rfl, h⟩ := exCell_spec h
        exact dv (by rw [hb _ hc]; exact run_v e) h
      · rename_i hc
        obtain ⟨v', w', e, h⟩ := Run_spec h
        obtain ⟨z, rfl, h⟩ := exCell_spec h
        exact dv (by rw [hb _ hc]; exact run_v e) h
      · rename_i hc
        obtain ⟨v', w', e, h⟩ := Run_spec h
        exact dv (by rw [hb _ hc]; exact run_v e) h
      · rename_i hc
        obtain ⟨v', w', e, h⟩ := Run_spec h
        exact dv (by rw [hb _ hc]; exact run_v e) h
      · rename_i g hc
        have hex : execOp a.eval { dst := dst, op := Op.call c, type := type, pos := pos, after := after, guard := guard } = callFunc g args.toArray := by
          simp only [execOp, resolve, hc, ha, Act.eval, Deferred.ofValue]
          simp [invoke]
        split at h
        · rename_i fn hfn
          split at h
          · rename_i hbody
            simp only [Bool.and_eq_true, Bool.not_eq_true'] at hbody
            unfold Oper.wp
            have hr := callFunc_enter (w := w) (args := args.toArray) hfn hbody.1 hbody.2
            rw [hex, hr]
            simp only [Oper.upon]
            refine Calls.mono h ?_
            intro e w' he
            obtain ⟨v, rfl, hv⟩ := exResult_spec he
            exact hK _ _ hv
          · unfold Ext at h
            split at h
            · rename_i v w' hr
              obtain ⟨u, rfl, h⟩ := exResult_spec h
              exact dv (by rw [hex]; exact hr) h
            · exact h.elim
        · exact h.elim
      · rename_i f hnf hc
        split at h
        · rename_i fv hfv
          have hcall : ∀ ts, CallV P fv args w ts (fun v w' => exResult P ts fun u => v = u ∧ K u w') →
              Oper.wp P { dst := dst, op := Op.call c, type := type, pos := pos, after := after, guard := guard } a w K' Q := by
            intro ts h
            unfold CallV at h
            split at h
            · rename_i _ g first captured _
              split at h
              · rename_i fn hfn
                obtain ⟨hbody, hname, h⟩ := h
                unfold Oper.wp
                have hex : execOp a.eval { dst := dst, op := Op.call c, type := type, pos := pos, after := after, guard := guard } = callFunc g (first ++ args.toArray ++ captured) := by
                  simp only [execOp, resolve, hc, ha, hs.val hfv, Deferred.ofValue]
                  simp [invoke]
                have hr := callFunc_enter (w := w) (args := first ++ args.toArray ++ captured) hfn hbody hname
                rw [hex, hr]
                simp only [Oper.upon]
                refine Calls.mono h ?_
                intro e w' he
                obtain ⟨v, rfl, hv⟩ := exResult_spec he
                obtain ⟨u, rfl, hv⟩ := exResult_spec hv
                exact hK _ _ hv
              · exact h.elim
            · exact h.elim
          split at h
          · exact hcall _ h
          · exact hcall _ h
        · exact h.elim
      · exact h.elim
  all_goals exact h.elim

/-- What makes a block does nothing else. -/
theorem vcEf_grown {K : Value → World → Prop} (hk : kind P o = 3) (hs : Sim n ρ a) (h : vcEf P o ρ w K) : ∃ v w', (execOp a.eval o).run P w = .ok (.value v) w' ∧ Grown w w' ∧ K v w' := by
  obtain ⟨dst, op, type, pos, after, guard⟩ := o
  cases op
  case alloc t =>
    obtain ⟨v, w', e, g, h⟩ := Sm_spec h
    exact ⟨v, w', run_v e, g, h⟩
  case box t x =>
    unfold vcEf at h
    dsimp only at h
    split at h
    · rename_i v hv
      exact ⟨_, _, by simp only [execOp]; rw [hs.val hv]; rfl, Grown.alloc _ _, h⟩
    · exact h.elim
  case buildSlice t k ps =>
    unfold vcEf at h
    dsimp only at h
    split at h
    · rename_i l hl
      obtain ⟨u, w', e, g, h⟩ := Sm_spec h
      refine ⟨u, w', run_v ?_, g, h⟩
      rw [← e, map_toList _ ps l (hs.pairs hl)]
    · exact h.elim
  case call c =>
    exfalso
    obtain ⟨callee, args, argTypes⟩ := c
    cases callee with
    | value f => cases hk
    | invoke r m => cases hk
    | builtin b =>
      cases b <;> unfold kind at hk <;> dsimp only at hk
      all_goals first
        | (cases hk; done)
        | (split at hk <;> cases hk)
  case binOp bop t x y yt =>
    exfalso
    unfold kind at hk
    dsimp only at hk
    cases bop <;> dsimp only at hk
    all_goals first
      | (cases hk; done)
      | (split at hk <;> cases hk)
  all_goals
    exfalso
    unfold kind at hk
    dsimp only at hk
    first
      | (cases hk; done)
      | (split at hk <;> cases hk)

theorem vcRead_spec {K : Value → Prop} {p : Prop} (hs : Sim n ρ a) (hp : vcRead P o ρ w K = some p) (h : p) :
    ∃ v, (execOp a.eval o).run P w = .ok (.value v) w ∧ K v := by
  unfold vcRead at hp
  split at hp
  · rename_i p' hp'
    cases hp
    obtain ⟨v, hr, hv⟩ := vcPu_spec hs hp' h
    exact ⟨v, hr w, hv⟩
  · split at hp
    · rename_i p' hp'
      cases hp
      obtain ⟨v, hr, hv⟩ := vcLd_spec hs hp' h
      exact ⟨v, hr w (.refl w), hv⟩
    · exact vcRd_spec hs hp h

theorem vcOp_sound (hs : Sim n ρ a) (h : vcOp P n o ρ w K) : o.wp P a w (lift n K) Q := by
  unfold vcOp at h
  split at h
  · rename_i p hp
    obtain ⟨v, hr, hv⟩ := vcRead_spec hs hp h
    exact done_value hs hr hv
  · exact vcEf_sound hs h fun v w' h => put_spec h hs

end Go.Vc
