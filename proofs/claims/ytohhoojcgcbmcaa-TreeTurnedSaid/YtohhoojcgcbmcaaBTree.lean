/- The pages as a tree of a depth, and what is done to them, in plain lists. -/
import Derived.Test.YtohhoojcgcbmcaaOrd
set_option maxRecDepth 4000
set_option linter.unusedVariables false
set_option linter.unusedSimpArgs false
namespace Go.Tr
open Go Go.Vc

variable {V : Type}

/-- A tree of pages, so deep. -/
def BT (V : Type) : Nat → Type
  | 0 => List (Key × V)
  | d + 1 => List (Key × V) × List (BT V d)

def ents : {d : Nat} → BT V d → List (Key × V)
  | 0, t => t
  | _ + 1, t => t.1

/-- Without the last entry, and the last page below. -/
def popLast : {d : Nat} → BT V d → BT V d
  | 0, t => List.dropLast t
  | _ + 1, t => (t.1.dropLast, t.2.dropLast)
/-- An entry in front, and the other's last page below. -/
def pushFirst : {d : Nat} → BT V d → Key × V → BT V d → BT V d
  | 0, _, x, t => x :: t
  | _ + 1, a, x, t => (x :: t.1, a.2.getLast?.toList ++ t.2)
def popFirst : {d : Nat} → BT V d → BT V d
  | 0, t => List.tail t
  | _ + 1, t => (t.1.tail, t.2.tail)
def pushLast : {d : Nat} → BT V d → Key × V → BT V d → BT V d
  | 0, t, x, _ => List.append t [x]
  | _ + 1, t, x, b => (t.1 ++ [x], t.2 ++ b.2.head?.toList)
def glue : {d : Nat} → BT V d → Key × V → BT V d → BT V d
  | 0, a, x, b => List.append a (x :: b)
  | _ + 1, a, x, b => (a.1 ++ x :: b.1, a.2 ++ b.2)

abbrev Row (V : Type) (d : Nat) := List (Key × V) × List (BT V d)

def rightP {d : Nat} (t : Row V d) (n : Nat) : Row V d :=
  match t.2[n]?, t.2[n + 1]?, t.1[n]? with
  | some a, some b, some x => match (ents a).getLast? with
    | some y => (t.1.set n y, t.2.take n ++ popLast a :: pushFirst a x b :: t.2.drop (n + 2))
    | none => t
  | _, _, _ => t
def leftP {d : Nat} (t : Row V d) (n : Nat) : Row V d :=
  match t.2[n]?, t.2[n + 1]?, t.1[n]? with
  | some a, some b, some x => match (ents b).head? with
    | some y => (t.1.set n y, t.2.take n ++ pushLast a x b :: popFirst b :: t.2.drop (n + 2))
    | none => t
  | _, _, _ => t
def joinP {d : Nat} (t : Row V d) (n : Nat) : Row V d :=
  match t.2[n]?, t.2[n + 1]?, t.1[n]? with
  | some a, some b, some x => (t.1.take n ++ t.1.drop (n + 1), t.2.take n ++ glue a x b :: t.2.drop (n + 2))
  | _, _, _ => t

/-- How many entries the page at a place has. -/
def fill {d : Nat} (ks : List (BT V d)) (n : Nat) : Nat :=
  match ks[n]? with
  | some c => (ents c).length
  | none => 0

def mendP {d : Nat} (t : Row V d) (i : Nat) : Row V d :=
  if 2 ≤ fill t.2 i then t
  else if 0 < i ∧ 2 < fill t.2 (i - 1) then rightP t (i - 1)
  else if i + 1 < t.2.length ∧ 2 < fill t.2 (i + 1) then leftP t i
  else if 0 < i then joinP t (i - 1)
  else joinP t i

def lastE {d : Nat} (x0 : Key × V) : BT V d → (Key × V) := match d with
  | 0 => fun t => (List.getLast? t).getD x0
  | d + 1 => fun t => match t.2.getLast? with
    | some c => lastE x0 c
    | none => x0

def lastP : {d : Nat} → BT V d → BT V d
  | 0, t => List.dropLast t
  | _ + 1, t => match t.2.getLast? with
    | some c => mendP (t.1, t.2.dropLast ++ [lastP c]) (t.2.length - 1)
    | none => t

/-- The page at a place, and the new one behind it, of one that has one too many. -/
def cutL : {d : Nat} → BT V d → BT V d
  | 0, t => List.take 2 t
  | _ + 1, t => (t.1.take 2, t.2.take 3)
def cutR : {d : Nat} → BT V d → BT V d
  | 0, t => List.drop 3 t
  | _ + 1, t => (t.1.drop 3, t.2.drop 3)
def splitP {d : Nat} (t : Row V d) (n : Nat) : Row V d :=
  match t.2[n]? with
  | some c => match (ents c)[2]? with
    | some x => (t.1.take n ++ x :: t.1.drop n, t.2.take n ++ cutL c :: cutR c :: t.2.drop (n + 1))
    | none => t
  | none => t

/-- What a key has. -/
def valAt (es : List (Key × V)) (k : Key) : Option V := if has es k then es[idx es k]?.map (·.2) else none

def putP (k : Key) (v : V) : {d : Nat} → BT V d → BT V d
  | 0, t => if has t k then List.set t (idx t k) (k, v) else List.append (List.take (idx t k) t) ((k, v) :: List.drop (idx t k) t)
  | _ + 1, t =>
    if has t.1 k then (t.1.set (idx t.1 k) (k, v), t.2)
    else match t.2[idx t.1 k]? with
      | some c =>
        let c' := putP k v c
        let r : Row V _ := (t.1, t.2.take (idx t.1 k) ++ c' :: t.2.drop (idx t.1 k + 1))
        if 5 < (ents c').length then splitP r (idx t.1 k) else r
      | none => t

def getP (k : Key) : {d : Nat} → BT V d → Option V
  | 0, t => valAt t k
  | _ + 1, t => if has t.1 k then valAt t.1 k else match t.2[idx t.1 k]? with
    | some c => getP k c
    | none => none

def dropP (x0 : Key × V) (k : Key) : {d : Nat} → BT V d → BT V d
  | 0, t => if has t k then List.append (List.take (idx t k) t) (List.drop (idx t k + 1) t) else t
  | _ + 1, t =>
    match t.2[idx t.1 k]? with
    | some c =>
      if has t.1 k then mendP (t.1.set (idx t.1 k) (lastE x0 c), t.2.take (idx t.1 k) ++ lastP c :: t.2.drop (idx t.1 k + 1)) (idx t.1 k)
      else mendP (t.1, t.2.take (idx t.1 k) ++ dropP x0 k c :: t.2.drop (idx t.1 k + 1)) (idx t.1 k)
    | none => t

/-- What the walk asks of a tree: sorted pages, not too large, each with one page below more than it has entries. -/
def Fit : {d : Nat} → BT V d → Prop
  | 0, t => Sorted t ∧ List.length t < 1000
  | _ + 1, t => Sorted t.1 ∧ t.1.length < 1000 ∧ t.2.length = t.1.length + 1 ∧ ∀ c ∈ t.2, Fit c

theorem Fit.sorted {d : Nat} {t : BT V d} (h : Fit t) : Sorted (ents t) := by cases d <;> exact h.1
theorem Fit.small {d : Nat} {t : BT V d} (h : Fit t) : (ents t).length < 1000 := by
  cases d with
  | zero => exact h.2
  | succ d => exact h.2.1

/-- How many pages lie below. -/
def below : {d : Nat} → BT V d → Nat
  | 0, _ => 0
  | _ + 1, t => t.2.length

theorem Fit.below {d : Nat} {t : BT V d} (h : Fit t) : below t < 1001 := by
  cases d with
  | zero => show 0 < 1001; omega
  | succ d => have h1 := h.2.1; have h2 := h.2.2.1; show List.length t.2 < 1001; omega

end Go.Tr
