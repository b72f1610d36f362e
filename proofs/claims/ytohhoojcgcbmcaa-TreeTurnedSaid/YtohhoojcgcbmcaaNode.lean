/- Rows of two cells; a call of a function value. -/
import Derived.Test.YtohhoojcgcbmcaaSlOps3
import Derived.Test.YtohhoojcgcbmcaaOrd
set_option maxRecDepth 4000
set_option linter.unusedVariables false
set_option linter.unusedSimpArgs false
namespace Go.Sl
open Go Go.Vc

variable {P : Program} {g w : World} {F : List HP} {α : Type}

def row2 (a b : α → Value) (es : List α) : List Value := es.flatMap fun e => [a e, b e]

theorem row2_length (a b : α → Value) : ∀ es : List α, (row2 a b es).length = es.length * 2
  | [] => rfl
  | e :: es => by simp [row2, List.flatMap_cons] ; have := row2_length a b es; simp [row2] at this; omega

theorem row2_get (a b : α → Value) : ∀ (es : List α) (i : Nat), (row2 a b es)[i * 2]? = es[i]?.map a ∧ (row2 a b es)[i * 2 + 1]? = es[i]?.map b
  | [], i => by simp [row2]
  | e :: es, 0 => by simp [row2, List.flatMap_cons]
  | e :: es, i + 1 => by
    have := row2_get a b es i
    have e1 : (i + 1) * 2 = i * 2 + 2 := by omega
    have e2 : (i + 1) * 2 + 1 = i * 2 + 1 + 2 := by omega
    rw [e2, e1]
    simp only [row2, List.flatMap_cons, List.cons_append, List.nil_append, List.getElem?_cons_succ] at *
    exact this

theorem row2_append (a b : α → Value) (x y : List α) : row2 a b (x ++ y) = row2 a b x ++ row2 a b y := by simp [row2]
theorem row2_take (a b : α → Value) : ∀ (es : List α) (k : Nat), (row2 a b es).take (k * 2) = row2 a b (es.take k)
  | [], k => by simp [row2]
  | e :: es, 0 => by simp [row2]
  | e :: es, k + 1 => by
    have e1 : (k + 1) * 2 = k * 2 + 1 + 1 := by omega
    have := row2_take a b es k
    rw [e1]
    simp only [row2, List.flatMap_cons, List.cons_append, List.nil_append, List.take_succ_cons] at *
    rw [this]
theorem row2_drop (a b : α → Value) : ∀ (es : List α) (k : Nat), (row2 a b es).drop (k * 2) = row2 a b (es.drop k)
  | [], k => by simp [row2]
  | e :: es, 0 => by simp [row2]
  | e :: es, k + 1 => by
    have e1 : (k + 1) * 2 = k * 2 + 1 + 1 := by omega
    have := row2_drop a b es k
    rw [e1]
    simp only [row2, List.flatMap_cons, List.cons_append, List.nil_append, List.drop_succ_cons] at *
    rw [this]
theorem row2_one {a b : α → Value} (ha : ∀ x, oneCell (a x) = true) (hb : ∀ x, oneCell (b x) = true) (es : List α) : ∀ x ∈ row2 a b es, oneCell x = true := by
  intro x hx
  simp only [row2, List.mem_flatMap] at hx
  obtain ⟨e, _, hx⟩ := hx
  simp at hx
  rcases hx with rfl | rfl
  · exact ha e
  · exact hb e
theorem row2_set (a b : α → Value) : ∀ (es : List α) (i : Nat) (e : α), (row2 a b (es.set i e)) = ((row2 a b es).set (i * 2) (a e)).set (i * 2 + 1) (b e)
  | [], i, e => by simp [row2]
  | x :: es, 0, e => by simp [row2, List.flatMap_cons]
  | x :: es, i + 1, e => by
    have := row2_set a b es i e
    have e1 : (i + 1) * 2 = i * 2 + 1 + 1 := by omega
    rw [e1]
    simp only [row2, List.set_cons_succ, List.flatMap_cons, List.cons_append, List.nil_append] at *
    rw [this]

/-- A cell of a slice. -/
theorem Sat.Sl_cell {T : TypeId} {sz : Nat} {p : Option Addr} {l c : Nat} {cs : List Value} (H : Sat g w (Sl T sz p l c cs :: F)) {i : Nat} {v : Value} (hv : cs[i]? = some v) :
    ∃ a : Nat, p = some ⟨a, 0, none⟩ ∧ w.cell? ⟨a, i, none⟩ = some v := by
  rcases H.open_Sl with ⟨_, _, _, rfl, _⟩ | ⟨b, all, rfl, h1, h2, rfl, H'⟩
  · simp at hv
  · refine ⟨b, rfl, ?_⟩
    rw [H'.cell]
    rw [List.getElem?_take] at hv
    split at hv
    · simpa using hv
    · cases hv

/-- A cell of a slice is written. -/
theorem Sat.Sl_st {T : TypeId} {sz a : Nat} {l c : Nat} {cs : List Value} (H : Sat g w (Sl T sz (some ⟨a, 0, none⟩) l c cs :: F)) {i : Nat} {v : Value} {K : World → Prop} (hi : i < cs.length) (hv : oneCell v = true)
    (h : ∀ w', Sat g w' (Sl T sz (some ⟨a, 0, none⟩) l c (cs.set i v) :: F) → K w') : St w ⟨a, i, none⟩ v K := by
  rcases H.open_Sl with ⟨h0, _⟩ | ⟨b, all, hb, h1, h2, rfl, H'⟩
  · cases h0
  · obtain rfl : a = b := by have := Option.some.inj hb; simpa using congrArg Addr.block this
    refine st H' (by simp at hi ⊢; omega) hv fun w' H2 => h w' ?_
    have e : all.toArray.setIfInBounds i v = (all.set i v).toArray := by simp
    rw [e] at H2
    have := H2.shut_Sl (l := l) (c := c) (sz := sz) h1 (by simpa using h2)
    rw [List.take_set] at this
    exact this

theorem callv {f : FuncId} {fn : Func} {args : List Value} {ts : List TypeId} {K : Value → World → Prop} (hf : P.funcs[f]? = some fn) (hb : fn.body.isSome = true) (hn : (fn.name == "runtime.NumGoroutine") = false)
    (h : Ret P f args.toArray w ts K) : CallV P (.func (.func f) #[] #[]) args w ts K := by
  unfold CallV
  dsimp only
  rw [hf]
  refine ⟨hb, hn, ?_⟩
  simpa using h

theorem half {i j : Nat} (h : i + j < 4611686018427387904) :
    IntKind.wrap .i64 ((IntKind.wrap .u64 (IntKind.wrap .i64 ((i : Int) + (j : Int)))).fdiv (2 ^ (min (1 : Int).toNat (IntKind.bits .u64)))) = (((i + j) / 2 : Nat) : Int) := by
  have e1 : IntKind.wrap .i64 ((i : Int) + (j : Int)) = ((i + j : Nat) : Int) := by rw [wrap_id (by omega) (by omega)]; omega
  have e2 : IntKind.wrap .u64 ((i + j : Nat) : Int) = ((i + j : Nat) : Int) := by
    simp only [IntKind.wrap, IntKind.bits, IntKind.signed, Bool.false_and]
    simp; omega
  have e3 : (min (1 : Int).toNat (IntKind.bits .u64)) = 1 := by decide
  rw [e1, e2, e3]
  have e4 : (((i + j : Nat) : Int)).fdiv (2 ^ 1) = (((i + j) / 2 : Nat) : Int) := by
    rw [Int.fdiv_eq_ediv_of_nonneg _ (by decide)]
    simp
  rw [e4]
  exact wrap_id (by omega) (by omega)

/-! ### ways that meet again -/

theorem jn {α : Type} {x : α → Prop} {K : α} (h : x K) : Jn x K := h
theorem jnw {x : (World → Prop) → Prop} {K : World → Prop} (M : World → Prop) (hx : ∀ J : World → Prop, (∀ w, M w → J w) → x J) (hK : ∀ w, M w → K w) : Jn x K := hx K hK
theorem jnb {x : (Bool → Prop) → Prop} {K : Bool → Prop} (M : Bool → Prop) (hx : ∀ J : Bool → Prop, (∀ b, M b → J b) → x J) (hK : ∀ b, M b → K b) : Jn x K := hx K hK
theorem jnbw {x : (Bool → World → Prop) → Prop} {K : Bool → World → Prop} (M : Bool → World → Prop) (hx : ∀ J : Bool → World → Prop, (∀ b w, M b w → J b w) → x J) (hK : ∀ b w, M b w → K b w) : Jn x K := hx K hK

/-! ### pieces for the members of a list -/

def Kids (P : α → Nat → HP) : List α → List Nat → HP
  | [], [] => stars []
  | a :: ks, q :: qs => stars [P a q, Kids P ks qs]
  | _, _ => pr False

theorem Sat.emp (H : Sat g w F) : Sat g w (stars [] :: F) := H.conv fun c h => ⟨c, .refl _, [], c, by simp, rfl, h⟩
theorem Sat.unemp (H : Sat g w (stars [] :: F)) : Sat g w F := H.drop

theorem Kids_length {Pg : α → Nat → HP} : ∀ {ks : List α} {qs : List Nat} {F : List HP}, Sat g w (Kids Pg ks qs :: F) → ks.length = qs.length
  | [], [], _, _ => rfl
  | a :: ks, q :: qs, F, H => by
    have H2 := (Sat.open_stars (M := [Pg a q, Kids Pg ks qs]) H)
    have := Kids_length (Sat.drop H2)
    simp [this]
  | [], q :: qs, F, H => (Sat.open_pr (p := False) H).1.elim
  | a :: ks, [], F, H => (Sat.open_pr (p := False) H).1.elim

theorem Kids_cons {Pg : α → Nat → HP} {a : α} {ks : List α} {q : Nat} {qs : List Nat} : Sat g w (Kids Pg (a :: ks) (q :: qs) :: F) ↔ Sat g w (Pg a q :: Kids Pg ks qs :: F) :=
  ⟨fun H => Sat.open_stars (M := [Pg a q, Kids Pg ks qs]) H, fun H => Sat.shut_stars (M := [Pg a q, Kids Pg ks qs]) H⟩

theorem Kids_append {Pg : α → Nat → HP} : ∀ {k1 k2 : List α} {q1 q2 : List Nat} {F : List HP}, k1.length = q1.length →
    (Sat g w (Kids Pg (k1 ++ k2) (q1 ++ q2) :: F) ↔ Sat g w (Kids Pg k1 q1 :: Kids Pg k2 q2 :: F))
  | [], k2, [], q2, F, _ => ⟨fun H => Sat.emp H, fun H => Sat.unemp H⟩
  | [], k2, q :: q1, q2, F, h => by simp at h
  | a :: k1, k2, [], q2, F, h => by simp at h
  | a :: k1, k2, q :: q1, q2, F, h => by
    simp only [List.cons_append]
    constructor
    · intro H
      have H1 := (Kids_cons.1 H).pull 1 rfl
      have H2 := (Kids_append (by simpa using h)).1 H1
      have H3 : Sat g w (Pg a q :: Kids Pg k1 q1 :: Kids Pg k2 q2 :: F) := H2.pull 2 rfl
      exact Kids_cons.2 H3
    · intro H
      have H1 := Kids_cons.1 H
      have H2 : Sat g w (Kids Pg k1 q1 :: Kids Pg k2 q2 :: Pg a q :: F) := (H1.pull 1 rfl |>.pull 2 rfl |>.pull 1 rfl)
      have H3 := (Kids_append (F := Pg a q :: F) (by simpa using h)).2 H2
      exact Kids_cons.2 (H3.pull 1 rfl)

/-- One of them, apart from the others. -/
theorem Kids_one {Pg : α → Nat → HP} {ks : List α} {qs : List Nat} {n : Nat} {a : α} (H : Sat g w (Kids Pg ks qs :: F)) (ha : ks[n]? = some a) :
    ∃ q, qs[n]? = some q ∧ Sat g w (Pg a q :: Kids Pg (ks.take n) (qs.take n) :: Kids Pg (ks.drop (n + 1)) (qs.drop (n + 1)) :: F) := by
  have hl := Kids_length H
  have hn : n < ks.length := (List.getElem?_eq_some_iff.1 ha).1
  obtain ⟨q, hq⟩ : ∃ q, qs[n]? = some q := ⟨_, List.getElem?_eq_getElem (by omega)⟩
  refine ⟨q, hq, ?_⟩
  have e1 : ks = ks.take n ++ a :: ks.drop (n + 1) := by
    rw [← (List.getElem?_eq_some_iff.1 ha).2, List.getElem_cons_drop, List.take_append_drop]
  have e2 : qs = qs.take n ++ q :: qs.drop (n + 1) := by
    rw [← (List.getElem?_eq_some_iff.1 hq).2, List.getElem_cons_drop, List.take_append_drop]
  have H1 : Sat g w (Kids Pg (ks.take n ++ a :: ks.drop (n + 1)) (qs.take n ++ q :: qs.drop (n + 1)) :: F) := by rw [← e1, ← e2]; exact H
  have H2 := (Kids_append (by simp; omega)).1 H1
  have H3 := Kids_cons.1 (H2.pull 1 rfl)
  exact H3.pull 2 rfl |>.pull 1 rfl

/-- .. and laid back. -/
theorem Kids_back {Pg : α → Nat → HP} {k1 k2 : List α} {q1 q2 : List Nat} {a : α} {q : Nat} (H : Sat g w (Pg a q :: Kids Pg k1 q1 :: Kids Pg k2 q2 :: F)) : Sat g w (Kids Pg (k1 ++ a :: k2) (q1 ++ q :: q2) :: F) := by
  have hl := Kids_length (H.pull 1 rfl)
  refine (Kids_append hl).2 ?_
  have H1 : Sat g w (Pg a q :: Kids Pg k2 q2 :: Kids Pg k1 q1 :: F) := (H.pull 2 rfl |>.pull 1 rfl)
  exact (Kids_cons.2 H1).pull 1 rfl

end Go.Sl
