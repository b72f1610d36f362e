/- The walk by computation: from a function's code in the model to a clean condition (a proposition without frames), and that the condition suffices. -/
import Derived.Calls
import Derived.Orders
import Derived.Still
import Derived.Laws.World
import Derived.Laws.Sem
set_option maxRecDepth 4000
set_option linter.unusedVariables false
set_option linter.unusedSimpArgs false
namespace Go.Vc
open Go

/-- The slots that are known, the newest first. -/
abbrev Env := List (Nat × Value)

def Env.get : Env → Nat → Option Value
  | [], _ => none
  | (d, v) :: r, t => bif Nat.beq d t then some v else Env.get r t

def Env.val (ρ : Env) : Operand → Option Value
  | .tmp t => ρ.get t
  | .const v => some v
  | .global g => some (.pointer (some ⟨g, 0, none⟩))
  | .func f => some (.func (.func f) #[] #[])

def Env.vals (ρ : Env) : List Operand → Option (List Value)
  | [] => some []
  | x :: xs => match ρ.val x with
    | none => none
    | some v => match Env.vals ρ xs with
      | none => none
      | some vs => some (v :: vs)

/-- The frame bears what is known. -/
structure Sim (n : Nat) (ρ : Env) (a : Act) : Prop where
  size : a.tmps.size = n
  defers : a.defers = []
  get : ∀ t v, ρ.get t = some v → a.tmps[t]? = some v

theorem Sim.val {n : Nat} {ρ : Env} {a : Act} (h : Sim n ρ a) {x : Operand} {v : Value} (e : ρ.val x = some v) : a.eval x = v := by
  cases x with
  | tmp t =>
    have h1 := h.get t v e
    simp [Act.eval, h1]
  | const v' => simp [Env.val] at e; simp [Act.eval, e]
  | global g => simp [Env.val] at e; simp [Act.eval, e]
  | func f => simp [Env.val] at e; simp [Act.eval, e]

theorem Sim.vals {n : Nat} {ρ : Env} {a : Act} (h : Sim n ρ a) : ∀ {xs : List Operand} {vs : List Value}, ρ.vals xs = some vs → xs.map a.eval = vs
  | [], vs, e => by simp [Env.vals] at e; simp [e]
  | x :: xs, vs, e => by
    simp only [Env.vals] at e
    cases hx : ρ.val x with
    | none => simp [hx] at e
    | some v =>
      cases hxs : Env.vals ρ xs with
      | none => simp [hx, hxs] at e
      | some vs' =>
        simp [hx, hxs] at e
        simp [← e, h.val hx, h.vals hxs]

/-- A slot is written. -/
def put (n : Nat) (dst : Option Tmp) (v : Value) (ρ : Env) (K : Env → World → Prop) (w : World) : Prop :=
  match dst with
  | none => K ρ w
  | some d => if Nat.blt d n then K ((d, v) :: ρ) w else False

theorem Sim.put {n : Nat} {ρ : Env} {a : Act} (h : Sim n ρ a) {d : Nat} (v : Value) (hd : d < n) : Sim n ((d, v) :: ρ) (a.put (some d) v) := by
  refine ⟨by simp [Act.put, h.size], by simp [Act.put, h.defers], fun t u e => ?_⟩
  simp only [Env.get] at e
  by_cases hdt : d = t
  · subst hdt
    simp at e
    simp [Act.put, h.size, hd, e]
  · have hb : Nat.beq d t = false := by
      cases hh : Nat.beq d t with
      | false => rfl
      | true => exact absurd (Nat.eq_of_beq_eq_true hh) hdt
    rw [hb] at e
    have := h.get t u e
    simp only [Act.put]
    rw [Array.getElem?_setIfInBounds_ne hdt]
    exact this

theorem put_spec {n : Nat} {dst : Option Tmp} {v : Value} {ρ : Env} {K : Env → World → Prop} {w : World} (h : Vc.put n dst v ρ K w) {a : Act} (hs : Sim n ρ a) :
    ∃ ρ', Sim n ρ' (a.put dst v) ∧ K ρ' w := by
  cases dst with
  | none => exact ⟨ρ, hs, h⟩
  | some d =>
    simp only [Vc.put] at h
    split at h
    · rename_i hd
      exact ⟨_, hs.put v (by simpa [Nat.blt_eq] using hd), h⟩
    · exact h.elim

/-! ### what an operation computes without memory -/

/-- A computation that asks the program alone. -/
def pureOf (P : Program) : Nat → Sem Value → Option Value
  | _, .pure v => some v
  | k + 1, .program f => pureOf P k (f P)
  | _, _ => none

theorem pureOf_spec {P : Program} : ∀ {k : Nat} {s : Sem Value} {v : Value}, pureOf P k s = some v → ∀ w, s.run P w = .ok v w
  | k, .pure u, v, h, w => by cases k <;> simp [pureOf] at h <;> simp [Sem.run, h]
  | 0, .program f, v, h, w => by simp [pureOf] at h
  | k + 1, .program f, v, h, w => by
    simp only [pureOf] at h
    simp only [Sem.run]
    exact pureOf_spec h w
  | k, .load _ _ _, v, h, w => by cases k <;> simp [pureOf] at h
  | k, .store _ _ _ _, v, h, w => by cases k <;> simp [pureOf] at h
  | k, .new _ _, v, h, w => by cases k <;> simp [pureOf] at h
  | k, .shape _ _, v, h, w => by cases k <;> simp [pureOf] at h
  | k, .freeze _ _ _, v, h, w => by cases k <;> simp [pureOf] at h
  | k, .frozen _ _, v, h, w => by cases k <;> simp [pureOf] at h
  | k, .getObj _ _, v, h, w => by cases k <;> simp [pureOf] at h
  | k, .setObj _ _ _, v, h, w => by cases k <;> simp [pureOf] at h
  | k, .choose _ _, v, h, w => by cases k <;> simp [pureOf] at h
  | k, .sys _ _, v, h, w => by cases k <;> simp [pureOf] at h
  | k, .mark _ _, v, h, w => by cases k <;> simp [pureOf] at h
  | k, .halt _, v, h, w => by cases k <;> simp [pureOf] at h

/-! ### the types of values -/

/-- What a cell bears. -/
inductive Cell where
  | int (k : IntKind) | bool | string | pointer | slice | map | any
  deriving DecidableEq

/-- There is a value of the kind. -/
def exCell (c : Cell) (K : Value → Prop) : Prop :=
  match c with
  | .int k => ∃ i : Int, K (.int k i)
  | .bool => ∃ b : Bool, K (.bool b)
  | .string => ∃ s : ByteArray, K (.string s)
  | .pointer => ∃ p : Option Addr, K (.pointer p)
  | .slice => ∃ (p : Option Addr) (l c : Nat), K (.slice p l c)
  | .map => ∃ r : Option Nat, K (.map r)
  | .any => ∃ v : Value, K v

theorem exCell_spec {c : Cell} {K : Value → Prop} (h : exCell c K) : ∃ v, K v := by
  cases c <;> simp only [exCell] at h
  all_goals first
    | (obtain ⟨a, b, c, h⟩ := h; exact ⟨_, h⟩)
    | (obtain ⟨a, h⟩ := h; exact ⟨_, h⟩)

def exCells : List Cell → (List Value → Prop) → Prop
  | [], K => K []
  | c :: cs, K => exCell c fun v => exCells cs fun vs => K (v :: vs)

theorem exCells_spec : ∀ {cs : List Cell} {K : List Value → Prop}, exCells cs K → ∃ vs, K vs
  | [], _, h => ⟨[], h⟩
  | _ :: cs, K, h => by
    obtain ⟨v, h⟩ := exCell_spec h
    obtain ⟨vs, h⟩ := exCells_spec h
    exact ⟨_, h⟩

/-- One cell, or an aggregate of so many. -/
inductive Shape where
  | one (c : Cell)
  | agg (cs : List Cell)

mutual
def shapeOf (P : Program) : Nat → TypeId → Option Shape
  | 0, _ => none
  | d + 1, t => match P.underlying t with
    | some .bool => some (.one .bool)
    | some (.int k) => some (.one (.int k))
    | some .string => some (.one .string)
    | some (.pointer _) => some (.one .pointer)
    | some (.slice _) => some (.one .slice)
    | some (.map _ _) => some (.one .map)
    | some (.func _ _ _) => some (.one .any)
    | some (.interface _) => some (.one .any)
    | some (.struct fs) => match cellsOfFields P d fs.toList with
      | some cs => some (.agg cs)
      | none => none
    | some (.array n e) => match shapeOf P d e with
      | some (.one c) => some (.agg (List.replicate n c))
      | some (.agg cs) => some (.agg (List.replicate n cs).flatten)
      | none => none
    | _ => none
def cellsOfFields (P : Program) : Nat → List Field → Option (List Cell)
  | 0, _ => none
  | _ + 1, [] => some []
  | d + 1, f :: fs => match shapeOf P d f.type, cellsOfFields P d fs with
    | some (.one c), some cs => some (c :: cs)
    | some (.agg cs'), some cs => some (cs' ++ cs)
    | _, _ => none
end

def exShape (s : Option Shape) (K : Value → Prop) : Prop :=
  match s with
  | some (.one c) => exCell c K
  | some (.agg cs) => exCells cs fun vs => K (.agg vs.toArray)
  | none => ∃ v, K v

theorem exShape_spec {s : Option Shape} {K : Value → Prop} (h : exShape s K) : ∃ v, K v := by
  unfold exShape at h
  split at h
  · exact exCell_spec h
  · obtain ⟨vs, h⟩ := exCells_spec h; exact ⟨_, h⟩
  · exact h

def exShapes : List (Option Shape) → (List Value → Prop) → Prop
  | [], K => K []
  | s :: ss, K => exShape s fun v => exShapes ss fun vs => K (v :: vs)

theorem exShapes_spec : ∀ {ss : List (Option Shape)} {K : List Value → Prop}, exShapes ss K → ∃ vs, K vs
  | [], _, h => ⟨[], h⟩
  | _ :: ss, K, h => by
    obtain ⟨v, h⟩ := exShape_spec h
    obtain ⟨vs, h⟩ := exShapes_spec h
    exact ⟨_, h⟩

def depth : Nat := 40

/-- The result of a call, by its types. -/
def exResult (P : Program) (ts : List TypeId) (K : Value → Prop) : Prop :=
  match ts with
  | [t] => exShape (shapeOf P depth t) K
  | ts => exShapes (ts.map (shapeOf P depth)) fun vs => K (.tuple vs.toArray)

theorem exResult_spec {P : Program} {ts : List TypeId} {K : Value → Prop} (h : exResult P ts K) : ∃ v, K v := by
  unfold exResult at h
  split at h
  · exact exShape_spec h
  · obtain ⟨vs, h⟩ := exShapes_spec h; exact ⟨_, h⟩

/-! ### the conditions of single operations -/

/-- Two ways. -/
def Br (b : Bool) (X Y : Prop) : Prop := (b = true → X) ∧ (b = false → Y)

/-- A call that returns. -/
def Ret (P : Program) (f : FuncId) (args : Array Value) (w : World) (ts : List TypeId) (K : Value → World → Prop) : Prop :=
  Calls P f args w fun e w' => exResult P ts fun v => e = .returned v ∧ K v w'

/-- A computation that comes to a value. -/
def Run (P : Program) (s : Sem Value) (w : World) (K : Value → World → Prop) : Prop :=
  match s.run P w with
  | .ok v w' => K v w'
  | .halt _ _ => False

/-- A library function in the model's own words. -/
def Ext (P : Program) (f : FuncId) (args : Array Value) (w : World) (K : Value → World → Prop) : Prop :=
  match (callFunc f args).run P w with
  | .ok (.value v) w' => K v w'
  | _ => False

/-- A call of a function value. -/
def CallV (P : Program) (f : Value) (args : List Value) (w : World) (ts : List TypeId) (K : Value → World → Prop) : Prop :=
  match f with
  | .func (.func g) first captured =>
    match P.funcs[g]? with
    | some fn => fn.body.isSome = true ∧ (fn.name == "runtime.NumGoroutine") = false ∧ Ret P g (first ++ args.toArray ++ captured) w ts K
    | none => False
  | _ => False

/-- The cells that are read, one by one. -/
def LdCells (w : World) (a : Addr) : Nat → List Cell → (List Value → Prop) → Prop
  | _, [], K => K []
  | i, c :: cs, K => exCell c fun v => w.cell? (a.add i) = some v ∧ LdCells w a (i + 1) cs fun vs => K (v :: vs)

def Ld (w : World) (a : Addr) (c : Cell) (K : Value → Prop) : Prop := exCell c fun v => w.cell? a = some v ∧ K v

/-- The value of one cell. -/
def oneCell : Value → Bool
  | .agg _ | .tuple _ => false
  | _ => true

/-- Cells that are written, one by one. -/
def StCells (a : Addr) : Nat → List Value → World → (World → Prop) → Prop
  | _, [], w, K => K w
  | i, v :: vs, w, K => (∃ u, w.cell? (a.add i) = some u) ∧ w.frozen? (a.add i) = false ∧ oneCell v = true ∧ StCells a (i + 1) vs (w.setCell (a.add i) v) K


/-- The world with new blocks. -/
def Grown (w w' : World) : Prop := ∃ l : List Obj, w' = { w with heap := w.heap ++ l.toArray }

theorem Grown.refl (w : World) : Grown w w := ⟨[], by simp⟩
theorem Grown.trans {a b c : World} (h : Grown a b) (k : Grown b c) : Grown a c := by
  obtain ⟨l, rfl⟩ := h
  obtain ⟨m, rfl⟩ := k
  exact ⟨l ++ m, by simp⟩
theorem Grown.alloc (w : World) (o : Obj) : Grown w (w.alloc o) := ⟨[o], by
  show ({ w with heap := w.heap.push o } : World) = _
  rw [Array.push_eq_append]⟩
theorem Grown.cell {w w' : World} (h : Grown w w') {a : Addr} {v : Value} (e : w.cell? a = some v) : w'.cell? a = some v := by
  obtain ⟨l, rfl⟩ := h
  unfold World.cell? at *
  have hb : a.block < w.heap.size := by
    rcases Nat.lt_or_ge a.block w.heap.size with h | h
    · exact h
    · simp [Array.getElem?_eq_none h] at e
  simp only [Array.getElem?_append_left hb]
  exact e

/-- A computation that makes blocks, step by step. -/
def Sm {α : Type} (P : Program) : Nat → Sem α → World → (α → World → Prop) → Prop
  | _, .pure v, w, K => K v w
  | k + 1, .program f, w, K => Sm P k (f P) w K
  | k + 1, .new o f, w, K => Sm P k (f w.heap.size) (w.alloc o) K
  | _, _, _, _ => False

theorem Sm_spec {α : Type} {P : Program} : ∀ {k : Nat} {s : Sem α} {w : World} {K : α → World → Prop}, Sm P k s w K → ∃ v w', s.run P w = .ok v w' ∧ Grown w w' ∧ K v w'
  | k, .pure v, w, K, h => by cases k <;> exact ⟨v, w, rfl, .refl w, h⟩
  | 0, .program f, w, K, h => by simp [Sm] at h
  | k + 1, .program f, w, K, h => by
    simp only [Sm] at h
    obtain ⟨v, w', e, g, h⟩ := Sm_spec h
    exact ⟨v, w', by simp only [Sem.run]; exact e, g, h⟩
  | 0, .new o f, w, K, h => by simp [Sm] at h
  | k + 1, .new o f, w, K, h => by
    simp only [Sm] at h
    obtain ⟨v, w', e, g, h⟩ := Sm_spec h
    exact ⟨v, w', by simp only [Sem.run]; exact e, (Grown.alloc w o).trans g, h⟩
  | k, .load _ _ _, w, K, h => by cases k <;> simp [Sm] at h
  | k, .mark _ _, w, K, h => by cases k <;> simp [Sm] at h
  | k, .store _ _ _ _, w, K, h => by cases k <;> simp [Sm] at h
  | k, .shape _ _, w, K, h => by cases k <;> simp [Sm] at h
  | k, .freeze _ _ _, w, K, h => by cases k <;> simp [Sm] at h
  | k, .frozen _ _, w, K, h => by cases k <;> simp [Sm] at h
  | k, .getObj _ _, w, K, h => by cases k <;> simp [Sm] at h
  | k, .setObj _ _ _, w, K, h => by cases k <;> simp [Sm] at h
  | k, .choose _ _, w, K, h => by cases k <;> simp [Sm] at h
  | k, .sys _ _, w, K, h => by cases k <;> simp [Sm] at h
  | k, .halt _, w, K, h => by cases k <;> simp [Sm] at h

theorem Run_spec {P : Program} {s : Sem Value} {w : World} {K : Value → World → Prop} (h : Run P s w K) : ∃ v w', s.run P w = .ok v w' ∧ K v w' := by
  unfold Run at h
  generalize hr : s.run P w = r at h
  cases r with
  | ok v w' => exact ⟨v, w', rfl, h⟩
  | halt x w' => exact h.elim

/-- A computation without a value. -/
def RunU (P : Program) (s : Sem Unit) (w : World) (K : World → Prop) : Prop :=
  match s.run P w with
  | .ok _ w' => K w'
  | .halt _ _ => False

theorem RunU_spec {P : Program} {s : Sem Unit} {w : World} {K : World → Prop} (h : RunU P s w K) : ∃ w', s.run P w = .ok () w' ∧ K w' := by
  unfold RunU at h
  generalize hr : s.run P w = r at h
  cases r with
  | ok v w' => exact ⟨w', rfl, h⟩
  | halt x w' => exact h.elim

/-! ### bounds of a slice expression -/

def bnd (x : Option Int) (top : Nat) : Nat := match x with | some i => i.toNat | none => top
def inB (x : Option Int) (top : Nat) : Prop := match x with | some i => 0 ≤ i ∧ i ≤ top | none => True
/-- The bounds hold. -/
def SlB (len cap : Nat) (lo hi mx : Option Int) (K : Nat → Nat → Nat → Prop) : Prop :=
  inB mx cap ∧ inB hi (bnd mx cap) ∧ inB lo (bnd hi len) ∧ K (bnd lo 0) (bnd hi len) (bnd mx cap)
/-- Where the part begins. -/
def slAt (p : Option Addr) (l m size : Nat) : Option Addr := if m = l then p else p.map (·.add (l * size))

theorem Addr.add_zero (a : Addr) : a.add 0 = a := by simp [Addr.add]
theorem slAt_zero (p : Option Addr) (m size : Nat) : slAt p 0 m size = p := by
  unfold slAt
  split
  · rfl
  · cases p <;> simp [Addr.add_zero]

/-- The number that an operand bears, where there is one. -/
def Env.intOp (ρ : Env) : Option Operand → Option (Option (IntKind × Int))
  | none => some none
  | some x => match ρ.val x with
    | some (.int k i) => some (some (k, i))
    | _ => none

def Env.pairs (ρ : Env) : List (Nat × Operand) → Option (List (Nat × Value))
  | [] => some []
  | (i, x) :: r => match ρ.val x with
    | none => none
    | some v => match Env.pairs ρ r with
      | none => none
      | some l => some ((i, v) :: l)

theorem Sim.pairs {n : Nat} {ρ : Env} {a : Act} (h : Sim n ρ a) : ∀ {xs : List (Nat × Operand)} {vs : List (Nat × Value)}, ρ.pairs xs = some vs → xs.map (fun x => (x.1, a.eval x.2)) = vs
  | [], vs, e => by simp [Env.pairs] at e; simp [e]
  | (i, x) :: xs, vs, e => by
    simp only [Env.pairs] at e
    cases hx : ρ.val x with
    | none => simp [hx] at e
    | some v =>
      cases hxs : Env.pairs ρ xs with
      | none => simp [hx, hxs] at e
      | some vs' =>
        simp [hx, hxs] at e
        simp [← e, h.val hx, h.pairs hxs]

/-- A nil that stands in the text. -/
def isNil : Operand → Bool
  | .const (.pointer none) => true
  | .const (.slice none _ _) => true
  | .const (.map none) => true
  | _ => false

/-- Is it nil? (held against a nil of the same kind) -/
def nilOf (d : TypeDesc) (x : Value) (y : Operand) : Option Bool :=
  match d, x, y with
  | .pointer _, .pointer p, .const (.pointer none) => some p.isNone
  | .slice _, .slice p _ _, .const (.slice none _ _) => some p.isNone
  | .map _ _, .map r, .const (.map none) => some r.isNone
  | _, _, _ => none

/-- A comparison with nil. -/
def nilCmp (P : Program) (op : BinOp) (t : TypeId) (x : Value) (y : Operand) : Option Bool :=
  match op, P.underlying t with
  | .eql, some d => nilOf d x y
  | .neq, some d => (nilOf d x y).map (!·)
  | _, _ => none

def sizeIs (P : Program) (t : TypeId) (k : Nat) : Bool :=
  match P.info? t with
  | some i => Nat.beq i.size k
  | none => false

/-- A computation that reads alone. -/
def RunR (P : Program) (s : Sem Value) (w : World) (K : Value → Prop) : Prop :=
  match s.run P w with
  | .ok v w' => w' = w ∧ K v
  | .halt _ _ => False

theorem RunR_spec {P : Program} {s : Sem Value} {w : World} {K : Value → Prop} (h : RunR P s w K) : ∃ v, s.run P w = .ok v w ∧ K v := by
  unfold RunR at h
  generalize hr : s.run P w = r at h
  cases r with
  | ok v w' => obtain ⟨rfl, h⟩ := h; exact ⟨v, rfl, h⟩
  | halt x w' => exact h.elim

/-- An operation that asks no memory: the condition under which it comes to its value. -/
def vcPu (P : Program) (o : Oper) (ρ : Env) (K : Value → Prop) : Option Prop :=
  match o.op with
  | .move x | .assign x =>
    match ρ.val x with
    | some v => some (K v)
    | none => none
  | .pick c a b =>
    match ρ.val c with
    | some (.bool t) =>
      match t with
      | true => match ρ.val a with
        | some v => some (K v)
        | none => none
      | false => match ρ.val b with
        | some v => some (K v)
        | none => none
    | _ => none
  | .nilCheck x =>
    match ρ.val x with
    | some (.pointer p) => some (∃ a, p = some a ∧ K (.pointer (some a)))
    | some (.func (.func f) i c) => some (K (.func (.func f) i c))
    | _ => none
  | .indexAddr t x i =>
    match P.underlying t, ρ.val x, ρ.val i with
    | some (.slice e), some (.slice p l _), some (.int _ i) =>
      match P.info? e with
      | some inf => some (∃ a, p = some a ∧ (0 ≤ i ∧ i < (l : Int)) ∧ K (.pointer (some (a.add (i.toNat * inf.size)))))
      | none => none
    | some (.array l e), some (.pointer (some a)), some (.int _ i) =>
      match P.info? e with
      | some inf => some ((0 ≤ i ∧ i < (l : Int)) ∧ K (.pointer (some (a.add (i.toNat * inf.size)))))
      | none => none
    | _, _, _ => none
  | .index t x i =>
    match P.underlying t, ρ.val x, ρ.val i with
    | some .string, some (.string s), some (.int _ i) => some (∃ b : UInt8, (0 ≤ i ∧ s[i.toNat]? = some b) ∧ K (.int .u8 b.toNat))
    | _, _, _ => none
  | .slice t x lo hi mx =>
    match P.underlying t, ρ.val x, ρ.intOp lo, ρ.intOp hi, ρ.intOp mx with
    | some .string, some (.string s), some lo, some hi, some none =>
      some (SlB s.size s.size (lo.map (·.2)) (hi.map (·.2)) none fun l h _ => K (.string (s.extract l h)))
    | some (.slice e), some (.slice p len cap), some lo, some hi, some mx =>
      match P.info? e, (mx.isNone || hi.isSome) with
      | some inf, true => some (SlB len cap (lo.map (·.2)) (hi.map (·.2)) (mx.map (·.2)) fun l h m => K (.slice (slAt p l m inf.size) (h - l) (m - l)))
      | _, _ => none
    | _, _, _, _, _ => none
  | .binOp op t x y _ =>
    match ρ.val x, ρ.val y with
    | some a, some b =>
      match op, a, b with
      | .add, .string s, .string u => some (((s.size + u.size : Nat) : Int) ≤ IntKind.i64.max ∧ K (.string (s ++ u)))
      | .quo, .int k i, .int k' j => some ((k = k' ∧ j ≠ 0) ∧ K (.int k (k.wrap (i.tdiv j))))
      | .rem, .int k i, .int k' j => some ((k = k' ∧ j ≠ 0) ∧ K (.int k (i.tmod j)))
      | .shl, .int k i, .int _ j => some (0 ≤ j ∧ K (.int k (k.wrap (i * 2 ^ (min j.toNat k.bits)))))
      | .shr, .int k i, .int _ j => some (0 ≤ j ∧ K (.int k (i.fdiv (2 ^ (min j.toNat k.bits)))))
      | op, a, b =>
        match isNil y with
        | true =>
          match nilCmp P op t a y with
          | some z => some (K (.bool z))
          | none => none
        | false =>
          match pureOf P 60 (do eqGuard op t x y a b; binOp op t a b) with
          | some v => some (K v)
          | none => none
    | _, _ => none
  | .build t ps =>
    match ρ.pairs ps.toList with
    | some l =>
      match pureOf P 60 (Instr.build t l.toArray) with
      | some v => some (K v)
      | none => none
    | none => none
  | .unOp op _ x =>
    match ρ.val x with
    | some v =>
      match pureOf P 60 (Op.unary op v) with
      | some v => some (K v)
      | none => none
    | none => none
  | .convert s d x =>
    match ρ.val x with
    | some v =>
      match pureOf P 60 (convert s d v) with
      | some v => some (K v)
      | none => none
    | none => none
  | .fieldAddr t x f =>
    match ρ.val x with
    | some v =>
      match pureOf P 60 (Instr.fieldAt t v f) with
      | some v => some (K v)
      | none => none
    | none => none
  | .field t x f =>
    match ρ.val x with
    | some v =>
      match pureOf P 60 (Instr.field t v f) with
      | some v => some (K v)
      | none => none
    | none => none
  | .extract x i =>
    match ρ.val x with
    | some v =>
      match pureOf P 60 (Instr.extract v i) with
      | some v => some (K v)
      | none => none
    | none => none
  | .makeFunc fn first cap =>
    match ρ.vals first.toList, ρ.vals cap.toList with
    | some f, some c => some (K (.func fn f.toArray c.toArray))
    | _, _ => none
  | .makeInterface t x =>
    match ρ.val x with
    | some v =>
      match pureOf P 60 (Instr.makeInterface t v) with
      | some v => some (K v)
      | none => none
    | none => none
  | .call { callee := .builtin .len, args, argTypes } =>
    match ρ.vals args.toList with
    | some l =>
      match pureOf P 60 (Builtin.len_ argTypes o.type l.toArray) with
      | some v => some (K v)
      | none => none
    | none => none
  | .call { callee := .builtin .cap, args, argTypes } =>
    match ρ.vals args.toList with
    | some l =>
      match pureOf P 60 (Builtin.cap_ argTypes o.type l.toArray) with
      | some v => some (K v)
      | none => none
    | none => none
  | .call { callee := .builtin .max, args, argTypes } =>
    match ρ.vals args.toList with
    | some l =>
      match pureOf P 60 (Builtin.max_ argTypes o.type l.toArray) with
      | some v => some (K v)
      | none => none
    | none => none
  | .call { callee := .builtin .min, args, argTypes } =>
    match ρ.vals args.toList with
    | some l =>
      match pureOf P 60 (Builtin.min_ argTypes o.type l.toArray) with
      | some v => some (K v)
      | none => none
    | none => none
  | _ => none

/-- An operation that loads. -/
def vcLd (P : Program) (o : Oper) (ρ : Env) (w : World) (K : Value → Prop) : Option Prop :=
  match o.op with
  | .load t x =>
    match ρ.val x with
    | some (.pointer (some a)) =>
      match shapeOf P depth t with
      | some (.one c) => some (Ld w a c K)
      | some (.agg cs) =>
        match sizeIs P t cs.length with
        | true => some (LdCells w a 0 cs fun vs => K (.agg vs.toArray))
        | false => none
      | none => none
    | _ => none
  | _ => none

/-- An operation that reads memory alone. -/
def vcRd (P : Program) (o : Oper) (ρ : Env) (w : World) (K : Value → Prop) : Option Prop :=
  match o.op with
  | .index t x i =>
    match ρ.val x, ρ.val i with
    | some x, some i => some (RunR P (Instr.index t x i) w K)
    | _, _ => none
  | .binOp op t x y _ =>
    match ρ.val x, ρ.val y with
    | some a, some b => some (RunR P (do eqGuard op t x y a b; binOp op t a b) w fun v => exCell .bool fun u => v = u ∧ K u)
    | _, _ => none
  | .convert s d x =>
    match P.underlying d, ρ.val x with
    | some .string, some v => some (RunR P (convert s d v) w fun v => exCell .string fun u => v = u ∧ K u)
    | _, _ => none
  | .lookup t x i ok =>
    match ρ.val x, ρ.val i, P.underlying t with
    | some x, some i, some (.map _ e) =>
      match ok with
      | true => some (RunR P (Instr.lookup t x i true) w fun v => exShapes [shapeOf P depth e, some (.one .bool)] fun us => v = .tuple us.toArray ∧ K (.tuple us.toArray))
      | false => some (RunR P (Instr.lookup t x i false) w fun v => exShape (shapeOf P depth e) fun u => v = u ∧ K u)
    | _, _, _ => none
  | .call { callee := .builtin .len, args, argTypes } =>
    match ρ.vals args.toList with
    | some l => some (RunR P (Builtin.len_ argTypes o.type l.toArray) w fun v => exCell (.int .i64) fun u => v = u ∧ K u)
    | none => none
  | _ => none

/-- An operation that leaves the world as it is. -/
def vcRead (P : Program) (o : Oper) (ρ : Env) (w : World) (K : Value → Prop) : Option Prop :=
  match vcPu P o ρ K with
  | some p => some p
  | none => match vcLd P o ρ w K with
    | some p => some p
    | none => vcRd P o ρ w K

/-- An operation that may turn the world. -/
def vcEf (P : Program) (o : Oper) (ρ : Env) (w : World) (K : Value → World → Prop) : Prop :=
  match o.op with
  | .store t x y =>
    match ρ.val x, ρ.val y with
    | some (.pointer (some a)), some v =>
      match sizeIs P t v.cells.size with
      | true => StCells a 0 v.cells.toList w fun w' => K undef w'
      | false => False
    | _, _ => False
  | .box t x =>
    match ρ.val x with
    | some v => K (.pointer (some ⟨w.heap.size, 0, none⟩)) (w.alloc (.cells v.cells t))
    | none => False
  | .alloc t => Sm P 60 (Instr.alloc t true (.tuple #[])) w K
  | .buildSlice t len ps =>
    match ρ.pairs ps.toList with
    | some l => Sm P 60 (Instr.buildSlice t len l.toArray) w K
    | none => False
  | .convert s d x =>
    match ρ.val x with
    | some v => Run P (convert s d v) w fun v w' => exShape (shapeOf P depth d) fun u => v = u ∧ K u w'
    | none => False
  | .makeMap t r =>
    match r with
    | none => Run P (Instr.makeMap t none) w fun v w' => exCell .map fun u => v = u ∧ K u w'
    | some x => match ρ.val x with
      | some v => Run P (Instr.makeMap t (some v)) w fun v w' => exCell .map fun u => v = u ∧ K u w'
      | none => False
  | .makeSlice t l c =>
    match ρ.val l, ρ.val c with
    | some l, some c => Run P (Instr.makeSlice t l c) w fun v w' => exCell .slice fun u => v = u ∧ K u w'
    | _, _ => False
  | .mapUpdate t m k x | .insert t m k x =>
    match ρ.val m, ρ.val k, ρ.val x with
    | some m, some k, some x => RunU P (Instr.mapUpdate t m k x) w fun w' => K undef w'
    | _, _, _ => False
  | .range t x =>
    match ρ.val x with
    | some v => Run P (Instr.range t v) w K
    | none => False
  | .next x s =>
    match ρ.val x with
    | some v => Run P (Instr.next v s o.type) w K
    | none => False
  | .call c =>
    match ρ.vals c.args.toList with
    | none => False
    | some args =>
      match c.callee with
      | .builtin .append => Run P (Builtin.append_ c.argTypes o.type args.toArray) w fun v w' => exCell .slice fun u => v = u ∧ K u w'
      | .builtin .copy => Run P (Builtin.copy_ c.argTypes o.type args.toArray) w fun v w' => exCell (.int .i64) fun u => v = u ∧ K u w'
      | .builtin .clear => Run P (Builtin.clear_ c.argTypes o.type args.toArray) w K
      | .builtin .delete => Run P (Builtin.delete_ c.argTypes o.type args.toArray) w K
      | .value (.func g) =>
        match P.funcs[g]? with
        | some fn =>
          match fn.body.isSome && !(fn.name == "runtime.NumGoroutine") with
          | true => Ret P g args.toArray w fn.resultTypes.toList K
          | false => Ext P g args.toArray w fun v w' => exResult P fn.resultTypes.toList fun u => v = u ∧ K u w'
        | none => False
      | .value f =>
        match ρ.val f with
        | some fv =>
          match P.underlying o.type with
          | some (.tuple ts) => CallV P fv args w ts.toList fun v w' => exResult P ts.toList fun u => v = u ∧ K u w'
          | _ => CallV P fv args w [o.type] fun v w' => exResult P [o.type] fun u => v = u ∧ K u w'
        | none => False
      | _ => False
  | _ => False

/-- How an operation is walked. -/
def vcOp (P : Program) (n : Nat) (o : Oper) (ρ : Env) (w : World) (K : Env → World → Prop) : Prop :=
  match vcRead P o ρ w fun v => put n o.dst v ρ K w with
  | some p => p
  | none => vcEf P o ρ w fun v w' => put n o.dst v ρ K w'

/-! ### guards -/

/-- What is known of bools that stand in slots. -/
abbrev Known := List (Nat × Bool)

def lookB : Known → Nat → Option Bool
  | [], _ => none
  | (d, b) :: r, t => bif Nat.beq d t then some b else lookB r t

def dropB (dst : Option Tmp) (γ : Known) : Known :=
  match γ with
  | [] => []
  | γ => match dst with
    | none => γ
    | some d => γ.filter fun x => !Nat.beq x.1 d

/-- Does the operation run? -/
def vcGuard (ops : Array Oper) (o : Oper) (γ : Known) (ρ : Env) (run skip : Known → Env → Prop) : Prop :=
  match o.guard with
  | none => run γ ρ
  | some (j, want) =>
    match (ops[j]?).bind (·.dst) with
    | none => skip γ ρ
    | some d =>
      match lookB γ d with
      | some b => match (b == want) with
        | true => run γ ρ
        | false => skip γ ρ
      | none =>
        match ρ.get d with
        | some (.bool b) =>
          match want with
          | true => Br b (run ((d, true) :: γ) ((d, .bool true) :: ρ)) (skip ((d, false) :: γ) ((d, .bool false) :: ρ))
          | false => Br b (skip ((d, true) :: γ) ((d, .bool true) :: ρ)) (run ((d, false) :: γ) ((d, .bool false) :: ρ))
        | some (.tuple _) => skip γ ρ
        | _ => False

/-- One operation of a region. -/
def vcStep (P : Program) (n : Nat) (ops : Array Oper) (o : Oper) (γ : Known) (ρ : Env) (w : World) (K : Known → Env → World → Prop) : Prop :=
  vcGuard ops o γ ρ (fun γ ρ => vcOp P n o ρ w (K (dropB o.dst γ))) (fun γ ρ => put n o.dst undef ρ (K (dropB o.dst γ)) w)

/-- A region in the text's order. -/
def vcOps (P : Program) (n : Nat) (ops : Array Oper) : List Oper → Known → Env → World → (Env → World → Prop) → Prop
  | [], _, ρ, w, K => K ρ w
  | o :: rest, γ, ρ, w, K => vcStep P n ops o γ ρ w fun γ ρ w => vcOps P n ops rest γ ρ w K

/-! ### a region that draws its order -/

/-- 0: asks no memory; 1: loads; 2: reads; 3: makes a block; 4: all else. -/
def kind (P : Program) (o : Oper) : Nat :=
  match o.op with
  | .move _ | .assign _ | .pick .. | .nilCheck _ | .indexAddr .. | .slice .. | .build .. | .unOp .. | .fieldAddr .. | .field .. | .extract .. | .makeFunc .. | .makeInterface .. => 0
  | .index t .. => match P.underlying t with
    | some .string => 0
    | _ => 2
  | .convert _ d _ => match P.underlying d with
    | some (.int _) => 0
    | some .string => 2
    | _ => 4
  | .binOp op t _ y _ => match op with
    | .eql | .neq => match isNil y, P.underlying t with
      | true, _ => 0
      | _, some (.int _) | _, some .string | _, some .bool => 0
      | _, _ => 4
    | _ => 0
  | .call { callee := .builtin .len, argTypes, .. } => match (argTypes[0]?).bind P.underlying with
    | some (.map _ _) => 2
    | _ => 0
  | .call { callee := .builtin .cap, .. } | .call { callee := .builtin .max, .. } | .call { callee := .builtin .min, .. } => 0
  | .load .. => 1
  | .lookup .. => 2
  | .alloc _ | .box .. | .buildSlice .. => 3
  | _ => 4

/-- Number j waits for number i. -/
def waits (ops : Array Oper) (j i : Nat) : Bool :=
  match ops[j]? with
  | some o => o.after.any fun e => Region.binds .any e && Nat.beq e.on i
  | none => false

/-- No two that are in no order touch each other's slots. -/
def apartAll (ops : Array Oper) : Bool :=
  (List.range ops.size).all fun j => (List.range j).all fun i =>
    (match ops[i]?, ops[j]? with
      | some x, some y => x.apart ops y
      | _, _ => true) || waits ops j i

/-- Number j waits for i, or for one of these. -/
def hangs (ops : Array Oper) (i : Nat) (acc : List Nat) (j : Nat) : Bool :=
  match ops[j]? with
  | some o => o.after.any fun e => Region.binds .any e && (Nat.beq e.on i || acc.any (Nat.beq e.on))
  | none => false

/-- What waits for i, by way of others too. -/
def behind (ops : Array Oper) (listed : Array Bool) (i : Nat) : List Nat :=
  (List.range ops.size).foldl (fun acc j => if !listed.getD j true && !Nat.beq j i && hangs ops i acc j then j :: acc else acc) []

/-- Do all that are of kind k and above wait for i? -/
def readFirst (P : Program) (ops : Array Oper) (listed : Array Bool) (k i : Nat) : Bool :=
  (fun b : List Nat => (List.range ops.size).all fun j => listed.getD j true || Nat.beq j i || (match ops[j]? with
    | some o => Nat.blt (kind P o) k
    | none => true) || b.any (Nat.beq j)) (behind ops listed i)

inductive Pick where
  | pure (i : Nat)
  | load (i : Nat)
  | read (i : Nat)
  | all

def kindAt (P : Program) (ops : Array Oper) (i : Nat) : Nat :=
  match ops[i]? with
  | some o => kind P o
  | none => 4

/-- May it come up? -/
def readyAt (ops : Array Oper) (listed : Array Bool) (i : Nat) : Bool :=
  !listed.getD i true && (match ops[i]? with
    | some o => o.after.all fun e => !Region.binds .any e || listed.getD e.on false
    | none => false)

def pickOne (P : Program) (ops : Array Oper) (listed : Array Bool) : Pick :=
  match (List.range ops.size).find? fun i => !listed.getD i true && Nat.beq (kindAt P ops i) 0 && readyAt ops listed i with
  | some i => .pure i
  | none => match (List.range ops.size).find? fun i => !listed.getD i true && Nat.beq (kindAt P ops i) 1 && readyAt ops listed i && readFirst P ops listed 4 i with
    | some i => .load i
    | none => match (List.range ops.size).find? fun i => !listed.getD i true && Nat.beq (kindAt P ops i) 2 && readyAt ops listed i && readFirst P ops listed 3 i with
      | some i => .read i
      | none => .all

def allOf : List Nat → (Nat → Prop) → Prop
  | [], _ => True
  | [i], p => p i
  | i :: is, p => p i ∧ allOf is p

theorem allOf_spec : ∀ {is : List Nat} {p : Nat → Prop}, allOf is p → ∀ i ∈ is, p i
  | [], _, _, i, hi => by simp at hi
  | [j], p, h, i, hi => by simp at hi; subst hi; exact h
  | j :: k :: is, p, h, i, hi => by
    simp only [allOf] at h
    rcases List.mem_cons.1 hi with rfl | hi
    · exact h.1
    · exact allOf_spec (is := k :: is) h.2 i hi

/-- Operation i is taken first. -/
def vcTake (P : Program) (n : Nat) (ops : Array Oper) (o : Oper) (γ : Known) (ρ : Env) (w : World) (f : Env → (Value → Prop) → Option Prop) (K : Known → Env → World → Prop) : Prop :=
  vcGuard ops o γ ρ
    (fun γ ρ => match f ρ fun v => put n o.dst v ρ (K (dropB o.dst γ)) w with
      | some p => p
      | none => False)
    (fun γ ρ => put n o.dst undef ρ (K (dropB o.dst γ)) w)

def vcAny (P : Program) (n : Nat) (ops : Array Oper) : Nat → Array Bool → Known → Env → World → (Env → World → Prop) → Prop
  | 0, listed, _, ρ, w, K => match Region.ready .any ops listed with
    | [] => K ρ w
    | _ => False
  | f + 1, listed, γ, ρ, w, K =>
    match pickOne P ops listed with
    | .pure i => match ops[i]? with
      | some o => vcTake P n ops o γ ρ w (fun ρ => vcPu P o ρ) fun γ ρ w => vcAny P n ops f (listed.setIfInBounds i true) γ ρ w K
      | none => False
    | .load i => match ops[i]? with
      | some o => vcTake P n ops o γ ρ w (fun ρ => vcLd P o ρ w) fun γ ρ w => vcAny P n ops f (listed.setIfInBounds i true) γ ρ w K
      | none => False
    | .read i => match ops[i]? with
      | some o => vcTake P n ops o γ ρ w (fun ρ => vcRd P o ρ w) fun γ ρ w => vcAny P n ops f (listed.setIfInBounds i true) γ ρ w K
      | none => False
    | .all => match Region.ready .any ops listed with
      | [] => K ρ w
      | rs => allOf rs fun i => match ops[i]? with
        | some o => match Nat.blt (kind P o) 3 with
          | true => vcTake P n ops o γ ρ w (fun ρ => vcRead P o ρ w) fun γ ρ w => vcAny P n ops f (listed.setIfInBounds i true) γ ρ w K
          | false => vcStep P n ops o γ ρ w fun γ ρ w => vcAny P n ops f (listed.setIfInBounds i true) γ ρ w K
        | none => False

/-! ### code -/

def restrict (ls : List Nat) (ρ : Env) : Env :=
  match ls with
  | [] => []
  | l :: ls => match ρ.get l with
    | some v => (l, v) :: restrict ls ρ
    | none => restrict ls ρ

/-- The number of the first region of a code. -/
def key : Code → Nat
  | .region id _ _ => id
  | .seq a b => match key a with
    | 0 => key b
    | k + 1 => k + 1
  | .block _ c => key c
  | .loop c => key c
  | _ => 0

/-- What is said at an end: the frame bears what is known; no panic. -/
def liftQ (n : Nat) (Q : Exit → Env → World → Prop) : Exit → Act → World → Prop
  | .panic _, _, _ => False
  | .outgrown, _, _ => False
  | .goto _, _, _ => False
  | e, a, w => ∃ ρ, Sim n ρ a ∧ Q e ρ w

/-- A loop, from a state on. -/
def Loop (P : Program) (n : Nat) (c : Code) (Q : Exit → Env → World → Prop) (ρ : Env) (w : World) : Prop :=
  ∀ a, Sim n ρ a → (Code.loop c).wp P (liftQ n Q) a w

def seqQ (K : Env → World → Prop) (Q : Exit → Env → World → Prop) : Exit → Env → World → Prop := fun e ρ w =>
  match e with
  | .normal => K ρ w
  | e => Q e ρ w

def blockQ (id : Nat) (Q : Exit → Env → World → Prop) : Exit → Env → World → Prop := fun e ρ w =>
  match e with
  | .exit i => match Nat.beq i id with
    | true => Q .normal ρ w
    | false => Q (.exit i) ρ w
  | e => Q e ρ w

def loopQ (P : Program) (n : Nat) (lv : Nat → List Nat) (c : Code) (Q : Exit → Env → World → Prop) : Exit → Env → World → Prop :=
  seqQ (fun ρ w => Loop P n c Q (restrict (lv (key c)) ρ) w) Q

def vcCode (P : Program) (n : Nat) (lv : Nat → List Nat) : Code → (Exit → Env → World → Prop) → Env → World → Prop
  | .skip, Q, ρ, w => Q .normal ρ w
  | .region _ ops draw, Q, ρ, w => match draw with
    | false => vcOps P n ops ops.toList [] ρ w (Q .normal)
    | true => match apartAll ops && Region.noSelect ops with
      | true => vcAny P n ops ops.size (Array.replicate ops.size false) [] ρ w.drew (Q .normal)
      | false => False
  | .seq a b, Q, ρ, w => vcCode P n lv a (seqQ (vcCode P n lv b Q) Q) ρ w
  | .cond c t e, Q, ρ, w => match ρ.val c with
    | some (.bool b) => Br b (vcCode P n lv t Q ρ w) (vcCode P n lv e Q ρ w)
    | _ => False
  | .block id c, Q, ρ, w => vcCode P n lv c (blockQ id Q) ρ w
  | .loop c, Q, ρ, w => Loop P n c Q (restrict (lv (key c)) ρ) w
  | .exit id, Q, ρ, w => Q (.exit id) ρ w
  | .ret, Q, ρ, w => Q .ret ρ w
  | .label _, Q, ρ, w => Q .normal ρ w
  | _, _, _, _ => False

/-- A round of a loop. -/
def vcRound (P : Program) (n : Nat) (lv : Nat → List Nat) (c : Code) (Q : Exit → Env → World → Prop) (ρ : Env) (w : World) : Prop :=
  vcCode P n lv c (loopQ P n lv c Q) ρ w

/-- The results. -/
def vcRes (P : Program) (ρ : Env) (w : World) : List ResultVar → (List Value → Prop) → Prop
  | [], K => K []
  | .tmp t :: r, K => match ρ.get t with
    | some v => vcRes P ρ w r fun vs => K (v :: vs)
    | none => False
  | .cell x t :: r, K => match ρ.get x with
    | some (.pointer (some a)) =>
      match shapeOf P depth t with
      | some (.one c) => Ld w a c fun v => vcRes P ρ w r fun vs => K (v :: vs)
      | some (.agg cs) => match sizeIs P t cs.length with
        | true => LdCells w a 0 cs fun us => vcRes P ρ w r fun vs => K (.agg us.toArray :: vs)
        | false => False
      | none => False
    | _ => False

def fnPost (P : Program) (fn : Func) (R : Ending → World → Prop) : Exit → Env → World → Prop
  | .normal, ρ, w | .ret, ρ, w => vcRes P ρ w fn.results.toList fun vs => match vs with
    | [v] => R (.returned v) w
    | vs => R (.returned (.tuple vs.toArray)) w
  | _, _, _ => False

def envOf : Nat → List Value → Env
  | _, [] => []
  | i, v :: vs => (i, v) :: envOf (i + 1) vs

/-- A function's condition. -/
def vcFn (P : Program) (fn : Func) (lv : Nat → List Nat) (args : List Value) (w : World) (R : Ending → World → Prop) : Prop :=
  match fn.body with
  | some c => vcCode P fn.ntmps lv c (fnPost P fn R) (envOf 0 args) w
  | none => False

/-! ### words of the printed conditions -/

/-- A store of one cell. -/
def St (w : World) (a : Addr) (v : Value) (K : World → Prop) : Prop := StCells a 0 [v] w K
/-- A new block. -/
def Al (w : World) (o : Obj) (K : Addr → World → Prop) : Prop := K ⟨w.heap.size, 0, none⟩ (w.alloc o)
/-- A draw. -/
def Dr (w : World) (K : World → Prop) : Prop := K w.drew
/-- A value under a name. -/
def Lt {α : Type} (x : α) (K : α → Prop) : Prop := K x
/-- Ways that meet again. -/
def Jn {α : Type} (x : α → Prop) (K : α) : Prop := x K
def bAnd (k : IntKind) (x y : Int) : Int := k.wrap (BitVec.ofInt k.bits x &&& BitVec.ofInt k.bits y).toNat
def bOr (k : IntKind) (x y : Int) : Int := k.wrap (BitVec.ofInt k.bits x ||| BitVec.ofInt k.bits y).toNat
def bXor (k : IntKind) (x y : Int) : Int := k.wrap (BitVec.ofInt k.bits x ^^^ BitVec.ofInt k.bits y).toNat
def bAndNot (k : IntKind) (x y : Int) : Int := k.wrap (BitVec.ofInt k.bits x &&& ~~~BitVec.ofInt k.bits y).toNat
def str (l : List UInt8) : ByteArray := ⟨l.toArray⟩
def sEq (x y : ByteArray) : Bool := x.toList == y.toList
def sLt (x y : ByteArray) : Bool := Op.bytesLess x.toList y.toList

/-- A part of a code. -/
def sub : Code → List Nat → Code
  | c, [] => c
  | .seq a b, i :: r => match i with
    | 0 => sub a r
    | _ => sub b r
  | .cond _ a b, i :: r => match i with
    | 0 => sub a r
    | _ => sub b r
  | .block _ c, _ :: r => sub c r
  | .loop c, _ :: r => sub c r
  | c, _ => c

/-- What is asked behind a part. -/
def ctx (P : Program) (n : Nat) (lv : Nat → List Nat) : Code → List Nat → (Exit → Env → World → Prop) → (Exit → Env → World → Prop)
  | _, [], Q => Q
  | .seq a b, i :: r, Q => match i with
    | 0 => ctx P n lv a r (seqQ (vcCode P n lv b Q) Q)
    | _ => ctx P n lv b r Q
  | .cond _ a b, i :: r, Q => match i with
    | 0 => ctx P n lv a r Q
    | _ => ctx P n lv b r Q
  | .block id c, _ :: r, Q => ctx P n lv c r (blockQ id Q)
  | .loop c, _ :: r, Q => ctx P n lv c r (loopQ P n lv c Q)
  | _, _, Q => Q

/-- The loop that stands at a place of a function. -/
def LoopAt (P : Program) (fn : Func) (lv : Nat → List Nat) (path : List Nat) (R : Ending → World → Prop) (ρ : Env) (w : World) : Prop :=
  match fn.body with
  | some c => match sub c path with
    | .loop b => Loop P fn.ntmps b (ctx P fn.ntmps lv c path (fnPost P fn R)) ρ w
    | _ => False
  | none => False

/-- Its round. -/
def RoundAt (P : Program) (fn : Func) (lv : Nat → List Nat) (path : List Nat) (R : Ending → World → Prop) (ρ : Env) (w : World) : Prop :=
  match fn.body with
  | some c => match sub c path with
    | .loop b => vcRound P fn.ntmps lv b (ctx P fn.ntmps lv c path (fnPost P fn R)) ρ w
    | _ => False
  | none => False

end Go.Vc
