/- Overlaps, lists of cells, and the steps that a slice operation takes. -/
import Derived.Test.YtohhoojcgcbmcaaSlOps2
import Derived.Lib.Overlaps
set_option maxRecDepth 4000
set_option linter.unusedVariables false
set_option linter.unusedSimpArgs false
namespace Go.Sl
open Go Go.Vc

variable {P : Program} {g w : World} {F : List HP}

theorem run_of {s : Sem Value} {K : Value → World → Prop} {v : Value} {w' : World} (e : s.run P w = .ok v w') (h : K v w') : Run P s w K := by
  unfold Run; rw [e]; exact h

theorem runU_of {s : Sem Unit} {K : World → Prop} {w' : World} (e : s.run P w = .ok () w') (h : K w') : RunU P s w K := by
  unfold RunU; rw [e]; exact h

theorem runR_of {s : Sem Value} {K : Value → Prop} {v : Value} (e : s.run P w = .ok v w) (h : K v) : RunR P s w K := by
  unfold RunR; rw [e]; exact ⟨rfl, h⟩

/-- Two blocks apart do not overlap. -/
theorem ext_overlaps {f : FuncId} {fn : Func} {st rt : TypeId} (hf : P.funcs[f]? = some fn) (hb : fn.body = none) (hn : (fn.name == "runtime.NumGoroutine") = false)
    (h1 : Extern.findNext fn = none) (h2 : Extern.find fn = some (Extern.SlicesOverlaps.overlaps #[st, st] #[rt])) {et sz bytes : Nat} {zs : List Value} (E : ElemT P st et sz bytes zs)
    {b1 b2 : Nat} {c1 c2 : Array Value} {T1 T2 : TypeId} (H : Sat g w (pt b1 (.cells c1 T1 (0, 0)) :: pt b2 (.cells c2 T2 (0, 0)) :: F)) (hc2 : c2.size ≠ 0) {o1 o2 l1 k1 l2 k2 : Nat} {K : Value → World → Prop} (hK : K (.bool false) w) :
    Ext P f #[.slice (some ⟨b1, o1, none⟩) l1 k1, .slice (some ⟨b2, o2, none⟩) l2 k2] w K := by
  obtain ⟨inf, hinf, hsz, hby, z, hz, hzc⟩ := E.info
  have hsizeof : ∀ w, (sizeOf et).run P w = .ok sz w := fun w => by rw [← hsz]; exact sizeOf_run et inf hinf
  have H2 : Sat g w (pt b2 (.cells c2 T2 (0, 0)) :: pt b1 (.cells c1 T1 (0, 0)) :: F) := H.pull 1 rfl
  have hn' : ¬ fn.name = "runtime.NumGoroutine" := by simpa using hn
  have hr := Lib.run_overlaps_apart (P := P) w st rt et E.under sz hsizeof ⟨b1, o1, none⟩ ⟨b2, o2, none⟩ l1 k1 l2 k2 H.ne T1 T2 c1.size c2.size
    (by simp [World.shape?, H.get]) (by simp [World.shape?, H2.get]) hc2 (H.frozen _) (H.frozen _)
  have hcall : (callFunc f #[.slice (some ⟨b1, o1, none⟩) l1 k1, .slice (some ⟨b2, o2, none⟩) l2 k2]).run P w = .ok (.value (.bool false)) w := by
    simp only [callFunc, Sem.run_bind, program, Sem.run, Result.andThen_ok, hf]
    simp only [hn', hb, h1, h2]
    simp [hn', mark, Sem.run, hr]
  unfold Ext
  rw [hcall]
  exact hK

theorem addr_add (b k : Nat) : (⟨b, 0, none⟩ : Addr).add k = ⟨b, k, none⟩ := by
  unfold Addr.add
  split
  · rename_i h; rw [h]
  · simp

theorem slAt_some {b l m sz : Nat} (h : l ≠ m ∨ l = 0) : slAt (some ⟨b, 0, none⟩) l m sz = some ⟨b, l * sz, none⟩ := by
  unfold slAt
  split
  · rename_i e
    rcases h with h | h
    · exact absurd e.symm h
    · subst h; simp
  · simp [addr_add]

theorem slAt_zero' (p : Option Addr) (m sz : Nat) : slAt p 0 m sz = p := slAt_zero p m sz

/-! lists -/

theorem ins_list {all r : List Value} {a m S : Nat} (hr : r.length = S) (h : a + m + S ≤ all.length) :
    (splice (splice all (a + S) ((all.drop a).take m)) a r).take (a + m + S) = all.take a ++ r ++ (all.drop a).take m := by
  have hx : ((all.drop a).take m).length = m := by simp; omega
  have e1 : (splice all (a + S) ((all.drop a).take m)).take a = all.take a := by
    unfold splice
    rw [List.append_assoc, List.take_append_of_le_length (by simp; omega), List.take_take, Nat.min_eq_left (by omega)]
  have e2 : (splice all (a + S) ((all.drop a).take m)).drop (a + S) = (all.drop a).take m ++ all.drop (a + S + m) := by
    unfold splice
    rw [List.append_assoc, List.drop_append_of_le_length (by simp; omega)]
    rw [List.drop_of_length_le (by simp; omega)]
    simp [hx]
  have e0 : splice (splice all (a + S) ((all.drop a).take m)) a r = all.take a ++ r ++ ((all.drop a).take m ++ all.drop (a + S + m)) := by
    show (splice all (a + S) _).take a ++ r ++ (splice all (a + S) _).drop (a + r.length) = _
    rw [hr, e1, e2]
  rw [e0, ← List.append_assoc, List.take_append_of_le_length (by simp [hr, hx]; omega)]
  exact List.take_of_length_le (by simp [hr, hx]; omega)

theorem grow_list {all r x : List Value} {a m S : Nat} (hr : r.length = S) (hx : x.length = m) (h : a + m + S ≤ all.length) :
    (splice (splice all a r) (a + S) x).take (a + m + S) = all.take a ++ r ++ x := by
  have e1 : (splice all a r).take (a + S) = all.take a ++ r := by
    unfold splice
    rw [List.take_append_of_le_length (by simp [hr]; omega)]
    exact List.take_of_length_le (by simp [hr]; omega)
  have e0 : splice (splice all a r) (a + S) x = all.take a ++ r ++ x ++ (splice all a r).drop (a + S + x.length) := by
    show (splice all a r).take (a + S) ++ x ++ _ = _
    rw [e1]
  rw [e0, List.take_append_of_le_length (by simp [hr, hx]; omega)]
  exact List.take_of_length_le (by simp [hr, hx]; omega)

theorem splice_take {all x : List Value} {o k : Nat} (h : k ≤ o) (ho : o ≤ all.length) : (splice all o x).take k = all.take k := by
  unfold splice
  rw [List.append_assoc, List.take_append_of_le_length (by simp; omega), List.take_take, Nat.min_eq_left h]

/-- Fewer elements of the same slice. -/
theorem Sat.Sl_fewer {T : TypeId} {sz : Nat} {p : Option Addr} {l c i : Nat} {cs : List Value} (H : Sat g w (Sl T sz p l c cs :: F)) (h : i ≤ l) : Sat g w (Sl T sz p i c (cs.take (i * sz)) :: F) := by
  rcases H.open_Sl with ⟨rfl, rfl, rfl, rfl, H'⟩ | ⟨b, all, rfl, h1, h2, rfl, H'⟩
  · have : i = 0 := by omega
    subst this
    simpa using H'.nil_Sl T sz
  · have h3 : i * sz ≤ l * sz := Nat.mul_le_mul_right _ h
    have := H'.shut_Sl (l := i) (c := c) (sz := sz) (by omega) h2
    rw [List.take_take, Nat.min_eq_left h3]
    exact this

/-- A smaller capacity. -/
theorem Sat.Sl_less {T : TypeId} {sz : Nat} {p : Option Addr} {l c k : Nat} {cs : List Value} (H : Sat g w (Sl T sz p l c cs :: F)) (h1 : l ≤ k) (h2 : k ≤ c) : Sat g w (Sl T sz p l k cs :: F) := by
  rcases H.open_Sl with ⟨rfl, rfl, rfl, rfl, H'⟩ | ⟨b, all, rfl, h3, h4, rfl, H'⟩
  · have : k = 0 := by omega
    subst this
    exact H'.nil_Sl T sz
  · exact H'.shut_Sl (l := l) (c := k) (sz := sz) h1 (Nat.le_trans (Nat.mul_le_mul_right _ h2) h4)

theorem wrap_id {x : Int} (h0 : -9223372036854775808 ≤ x) (h1 : x ≤ 9223372036854775807) : IntKind.wrap .i64 x = x := by
  simp [IntKind.wrap, IntKind.bits, IntKind.signed]; omega

/-- copy takes no more than there is room for. -/
theorem copy_longer {a1 a2 rt : TypeId} {pd ps : Option Addr} {dl dc n m sc : Nat} (h1 : dl ≤ n) (h2 : dl ≤ m) :
    Builtin.copy_ #[a1, a2] rt #[.slice pd dl dc, .slice ps n sc] = Builtin.copy_ #[a1, a2] rt #[.slice pd dl dc, .slice ps m sc] := by
  have e1 : Nat.min n dl = dl := Nat.min_eq_right h1
  have e2 : Nat.min m dl = dl := Nat.min_eq_right h2
  have e3 : ∀ sz, Builtin.firstCells sz dl (.slice ps n sc) = Builtin.firstCells sz dl (.slice ps m sc) := fun sz => by cases ps <;> rfl
  simp only [Builtin.copy_, Builtin.lenOf, pure_bind, e1, e2, e3, List.getElem?_toArray, List.getElem?_cons_zero, List.getElem?_cons_succ]

end Go.Sl
