/- append, copy and clear over a slice that lies apart. -/
import Derived.Test.YtohhoojcgcbmcaaSl
set_option maxRecDepth 4000
set_option linter.unusedVariables false
set_option linter.unusedSimpArgs false
namespace Go.Sl
open Go Go.Vc

variable {P : Program} {g w : World} {F : List HP}

/-- A slice's type, its element's type, how many cells and bytes an element has, the zero value's cells. -/
structure ElemT (P : Program) (st et : TypeId) (sz bytes : Nat) (zs : List Value) : Prop where
  under : P.underlying st = some (.slice et)
  info : ∃ i, P.info? et = some i ∧ i.size = sz ∧ i.bytes = bytes ∧ ∃ z, i.zero = some z ∧ z.cells = zs.toArray
  len : zs.length = sz
  pos : 0 < sz
  small : bytes ≤ 1024
  one : ∀ z ∈ zs, oneCell z = true

/-- A slice that starts at its block's head, and owns the block. -/
def Sl (T : TypeId) (sz : Nat) (p : Option Addr) (l c : Nat) (cs : List Value) : HP := fun h =>
  (p = none ∧ l = 0 ∧ c = 0 ∧ cs = [] ∧ h = []) ∨
  ∃ b all, p = some ⟨b, 0, none⟩ ∧ l ≤ c ∧ c * sz ≤ List.length all ∧ all.take (l * sz) = cs ∧ h = [(b, .cells all.toArray T (0, 0))]

theorem Sat.open_Sl {T : TypeId} {sz : Nat} {p : Option Addr} {l c : Nat} {cs : List Value} (H : Sat g w (Sl T sz p l c cs :: F)) :
    (p = none ∧ l = 0 ∧ c = 0 ∧ cs = [] ∧ Sat g w F) ∨
    ∃ b all, p = some ⟨b, 0, none⟩ ∧ l ≤ c ∧ c * sz ≤ List.length all ∧ all.take (l * sz) = cs ∧ Sat g w (pt b (.cells all.toArray T (0, 0)) :: F) := by
  obtain ⟨h, ⟨h1, h2, e, hA, hF⟩, hn, hm⟩ := H.mem
  rcases hA with ⟨a1, a2, a3, a4, e1⟩ | ⟨b, all, a1, a2, a3, a4, e1⟩
  · subst e1; simp at e; subst e
    exact .inl ⟨a1, a2, a3, a4, H.os, H.tape, H.output, h, hF, hn, hm⟩
  · exact .inr ⟨b, all, a1, a2, a3, a4, H.os, H.tape, H.output, h, ⟨h1, h2, e, e1, hF⟩, hn, hm⟩

theorem Sat.shut_Sl {T : TypeId} {sz : Nat} {l c b : Nat} {all : List Value} (H : Sat g w (pt b (.cells all.toArray T (0, 0)) :: F)) (h1 : l ≤ c) (h2 : c * sz ≤ all.length) :
    Sat g w (Sl T sz (some ⟨b, 0, none⟩) l c (all.take (l * sz)) :: F) :=
  H.mono fun _ e => .inr ⟨b, all, rfl, h1, h2, rfl, e⟩

theorem Sat.nil_Sl (T : TypeId) (sz : Nat) (H : Sat g w F) : Sat g w (Sl T sz none 0 0 [] :: F) :=
  H.conv fun c h => ⟨c, .refl _, [], c, by simp, .inl ⟨rfl, rfl, rfl, rfl, rfl⟩, h⟩

theorem Sat.Sl_length {T : TypeId} {sz : Nat} {p : Option Addr} {l c : Nat} {cs : List Value} (H : Sat g w (Sl T sz p l c cs :: F)) : cs.length = l * sz := by
  rcases H.open_Sl with ⟨_, rfl, _, rfl, _⟩ | ⟨b, all, _, h1, h2, rfl, _⟩
  · simp
  · have : l * sz ≤ c * sz := Nat.mul_le_mul_right _ h1
    simp; omega

theorem Sat.Sl_le {T : TypeId} {sz : Nat} {p : Option Addr} {l c : Nat} {cs : List Value} (H : Sat g w (Sl T sz p l c cs :: F)) : l ≤ c := by
  rcases H.open_Sl with ⟨_, rfl, rfl, _, _⟩ | ⟨b, all, _, h1, _⟩
  · exact Nat.le_refl _
  · exact h1

theorem growBy_le (n : Nat) : ∀ (k c : Nat), c < n → Builtin.growBy n k c ≤ n + (n + 768) / 4
  | 0, c, h => by simp [Builtin.growBy]; omega
  | k + 1, c, h => by
    simp only [Builtin.growBy]
    split
    · omega
    · by_cases hc : c + (c + 768) / 4 < n
      · exact growBy_le n k _ hc
      · cases k with
        | zero => simp [Builtin.growBy]; omega
        | succ k => simp only [Builtin.growBy]; rw [if_pos (by omega)]; omega

theorem nextcap_le {n c : Nat} (h : c < n) : Builtin.nextslicecap n c ≤ 2 * n + 1000 := by
  unfold Builtin.nextslicecap
  split
  · omega
  · split
    · omega
    · have := growBy_le n 4 c h; omega

theorem zeroCells_toList {zs : List Value} (n : Nat) : (Builtin.zeroCells zs.toArray n).toList.length = n * zs.length := by
  simp [Builtin.zeroCells]

def isInt : TypeDesc → Bool
  | .int _ => true
  | _ => false

theorem newRow_run (t : TypeId) (cs : Array Value) : (newRow t cs).run P w = .ok ⟨w.heap.size, 0, none⟩ (w.alloc (.cells cs t)) := rfl

theorem askRoom_run (k : Nat) : (askRoom k).run P w = .ok () w := by
  unfold askRoom
  split
  · simp [mark, Sem.run]
  · rfl

/-- What is appended, or copied, reads so. -/
structure Src (P : Program) (w : World) (sz : Nat) (src : Value) (n : Nat) (xs : List Value) : Prop where
  len : (Builtin.lenOf src).run P w = .ok n w
  read : ∀ k d, k ≤ n → (Builtin.firstCells sz k src).run P { w with drawn := d } = .ok (xs.take (k * sz)).toArray { w with drawn := d }
  length : xs.length = n * sz
  one : ∀ x ∈ xs, oneCell x = true

/-- A part of a block. -/
theorem Sat.src {b o : Nat} {all : List Value} {T : TypeId} (H : Sat g w (pt b (.cells all.toArray T (0, 0)) :: F)) (sz n c : Nat) (h : o + n * sz ≤ all.length)
    (hone : ∀ x ∈ (all.drop o).take (n * sz), oneCell x = true) : Src P w sz (.slice (some ⟨b, o, none⟩) n c) n ((all.drop o).take (n * sz)) := by
  refine ⟨by simp [Builtin.lenOf], fun k d hk => ?_, by simp; omega, hone⟩
  have hk' : k * sz ≤ n * sz := Nat.mul_le_mul_right _ hk
  have := load_run (P := P) (o := o) (H.drawn d) (k * sz) (by omega)
  simp only [Builtin.firstCells, this]
  rw [List.take_take, Nat.min_eq_left hk']

theorem Src.none (P : Program) (w : World) (sz : Nat) : Src P w sz (.slice none 0 0) 0 [] :=
  ⟨by simp [Builtin.lenOf], fun k d _ => by simp [Builtin.firstCells], by simp, by simp⟩

/-- A slice that lies apart. -/
theorem Sat.src_Sl {T : TypeId} {sz : Nat} {p : Option Addr} {l c : Nat} {cs : List Value} (H : Sat g w (Sl T sz p l c cs :: F)) (hone : ∀ x ∈ cs, oneCell x = true) :
    Src P w sz (.slice p l c) l cs := by
  rcases H.open_Sl with ⟨rfl, rfl, rfl, rfl, _⟩ | ⟨b, all, rfl, h1, h2, rfl, H'⟩
  · exact Src.none P w sz
  · have : l * sz ≤ c * sz := Nat.mul_le_mul_right _ h1
    have := H'.src (P := P) (o := 0) sz l c (by omega) (by simpa using hone)
    simpa using this

theorem underlying_run' {t : TypeId} {d : TypeDesc} (h : P.underlying t = some d) : (underlying t).run P w = .ok d w := underlying_run t d h

/-- append: in place, or in a new block. -/
theorem run_append {st et sz bytes xt rt : Nat} {zs : List Value} (E : ElemT P st et sz bytes zs) (hxt : ∃ d, P.underlying xt = some d ∧ isInt d = false)
    {p : Option Addr} {l c : Nat} {cs : List Value} (H : Sat g w (Sl et sz p l c cs :: F)) (hcs : ∀ x ∈ cs, oneCell x = true) {src : Value} {n : Nat} {xs : List Value} (S : Src P w sz src n xs) (hsmall : l + n ≤ 2 ^ 30) :
    ∃ p' c' w', (Builtin.append_ #[st, xt] rt #[.slice p l c, src]).run P w = .ok (.slice p' (l + n) c') w' ∧ Sat g w' (Sl et sz p' (l + n) c' (cs ++ xs) :: F) ∧ (l + n ≤ c → p' = p ∧ c' = c) := by
  obtain ⟨inf, hinf, hsz, hby, z, hz, hzc⟩ := E.info
  obtain ⟨d, hd, hdi⟩ := hxt
  have hmatch := hdi
  unfold isInt at hmatch
  have hsizeof : (sizeOf et).run P w = .ok sz w := by rw [← hsz]; exact sizeOf_run et inf hinf
  have hnew := S.read n w.drawn (Nat.le_refl _)
  have hxs : xs.take (n * sz) = xs := List.take_of_length_le (by rw [S.length]; exact Nat.le_refl _)
  rw [hxs] at hnew
  have hneweq : ({ w with drawn := w.drawn } : World) = w := rfl
  rw [hneweq] at hnew
  by_cases hneed : l + n ≤ c
  · -- in place
    rcases H.open_Sl with ⟨rfl, rfl, rfl, rfl, H'⟩ | ⟨b, all, rfl, h1, h2, rfl, H'⟩
    · have hn0 : n = 0 := by omega
      subst hn0
      have hx0 : xs = [] := List.eq_nil_of_length_eq_zero (by rw [S.length]; simp)
      subst hx0
      refine ⟨none, 0, w, ?_, H'.nil_Sl et sz, fun _ => ⟨rfl, rfl⟩⟩
      simp only [Builtin.append_, Sem.run_bind, List.getElem?_toArray, List.getElem?_cons_zero, List.getElem?_cons_succ, underlying_run' E.under, Result.andThen_ok, hsizeof, underlying_run' hd, Sem.run_pure]
      cases d <;> simp at hmatch <;> simp [S.len, hnew]
    · have hle : (l + n) * sz ≤ c * sz := Nat.mul_le_mul_right _ hneed
      rw [Nat.add_mul] at hle
      have hst := store_run (P := P) (o := l * sz) xs 0 all w H' (by rw [S.length]; omega) S.one
      obtain ⟨w', hr, H2⟩ := hst
      refine ⟨some ⟨b, 0, none⟩, c, w', ?_, ?_, fun _ => ⟨rfl, rfl⟩⟩
      · have hadd : (⟨b, 0, none⟩ : Addr).add (l * sz) = ⟨b, l * sz, none⟩ := by
          unfold Addr.add
          split
          · rename_i h0; rw [h0]
          · simp
        simp only [Builtin.append_, Sem.run_bind, List.getElem?_toArray, List.getElem?_cons_zero, List.getElem?_cons_succ, underlying_run' E.under, Result.andThen_ok, hsizeof, underlying_run' hd, Sem.run_pure]
        cases d <;> simp at hmatch <;> simp [S.len, hneed, hnew, hadd, hr]
      · simp only [Nat.add_zero] at H2
        have hlen : (splice all (l * sz) xs).length = all.length := splice_length (by rw [S.length]; omega)
        have e : (splice all (l * sz) xs).take ((l + n) * sz) = all.take (l * sz) ++ xs := by
          unfold splice
          rw [List.take_append_of_le_length (by simp [S.length, Nat.add_mul]; omega)]
          rw [List.take_of_length_le (by simp [S.length, Nat.add_mul]; omega)]
        rw [← e]
        exact H2.shut_Sl hneed (by rw [hlen]; exact h2)
  · -- a new block
    have hcl := H.Sl_le
    have hbytes : ¬ Builtin.nextslicecap (l + n) c * bytes > 2 ^ 48 := by
      have h1 := nextcap_le (n := l + n) (c := c) (by omega)
      have h2 := Nat.mul_le_mul h1 E.small
      have : (2 * (l + n) + 1000) * 1024 ≤ 2 ^ 48 := by omega
      omega
    have hmax : ¬ (((l + n : Nat) : Int) > IntKind.i64.max) := by
      have : IntKind.i64.max = 9223372036854775807 := rfl
      omega
    have hforced : (Question.appendCap (l + n) c et).forced = false := rfl
    obtain ⟨nc, hncd⟩ : ∃ nc, (Question.appendCap (l + n) c et).cut (w.tape w.drawn (Question.appendCap (l + n) c et)) = nc := ⟨_, rfl⟩
    have hnc : l + n ≤ nc := by rw [← hncd]; show l + n ≤ (l + n) + _; omega
    obtain ⟨w1, hw1⟩ : ∃ w1, w.drew = w1 := ⟨_, rfl⟩
    have hw1' : ({ w with drawn := w.drawn + 1 } : World) = w1 := hw1
    have H1 : Sat g w1 (Sl et sz p l c cs :: F) := by rw [← hw1]; exact H.drew
    have hold : (Builtin.firstCells sz l (.slice p l c)).run P w1 = .ok cs.toArray w1 := by
      have S1 := H.src_Sl (P := P) hcs
      have h2 := S1.read l (w.drawn + 1) (Nat.le_refl _)
      rw [List.take_of_length_le (by rw [S1.length]; exact Nat.le_refl _), hw1'] at h2
      exact h2
    have hnew1 : (Builtin.firstCells sz n src).run P w1 = .ok xs.toArray w1 := by
      have := S.read n (w.drawn + 1) (Nat.le_refl _)
      rw [hxs, hw1'] at this; exact this
    refine ⟨some ⟨w1.heap.size, 0, none⟩, nc, w1.alloc (.cells (cs.toArray ++ (xs.toArray ++ Builtin.zeroCells zs.toArray (nc - (l + n)))) et), ?_, ?_, fun h => absurd h hneed⟩
    · have htype : ∀ w, (typeInfo et).run P w = .ok inf w := fun w => typeInfo_run et inf hinf
      have hzero : ∀ w, (zeroValue et).run P w = .ok z w := fun w => by simp [zeroValue, htype, hz]
      have hmaxI : ¬ (9223372036854775807 : Int) < ((l : Int) + (n : Int)) := by omega
      simp only [Builtin.append_, Sem.run_bind, List.getElem?_toArray, List.getElem?_cons_zero, List.getElem?_cons_succ, underlying_run' E.under, Result.andThen_ok, hsizeof, underlying_run' hd, Sem.run_pure]
      have hb2 : ¬ 2 ^ 48 < Builtin.nextslicecap (l + n) c * inf.bytes := by rw [hby]; exact hbytes
      cases d <;> simp at hmatch <;>
        simp [S.len, hneed, htype, hb2, hmaxI, hforced, hncd, hw1, askRoom_run, hold, hnew1, hzero, newRow_run, hzc]
    · have hl : cs.length = l * sz := H.Sl_length
      have e : Obj.cells (cs.toArray ++ (xs.toArray ++ Builtin.zeroCells zs.toArray (nc - (l + n)))) et = .cells (cs ++ xs ++ (Builtin.zeroCells zs.toArray (nc - (l + n))).toList).toArray et := by
        congr 1
        simp
      have H2 := (H1.drop).alloc (Obj.cells (cs ++ xs ++ (Builtin.zeroCells zs.toArray (nc - (l + n))).toList).toArray et)
      have e2 : (cs ++ xs ++ (Builtin.zeroCells zs.toArray (nc - (l + n))).toList).take ((l + n) * sz) = cs ++ xs := by
        rw [List.take_append_of_le_length (by simp [S.length, hl, Nat.add_mul])]
        rw [List.take_of_length_le (by simp [S.length, hl, Nat.add_mul])]
      have H3 := H2.shut_Sl (l := l + n) (c := nc) (sz := sz) hnc (by
        simp only [List.length_append, zeroCells_toList, hl, S.length, E.len]
        rw [← Nat.add_mul, ← Nat.add_mul]
        exact Nat.mul_le_mul_right _ (by omega))
      rw [e2] at H3
      rw [e]
      exact H3

end Go.Sl
