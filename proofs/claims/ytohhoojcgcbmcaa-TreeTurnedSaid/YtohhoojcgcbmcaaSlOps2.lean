/- append of a make, copy, clear; parts of slices. -/
import Derived.Test.YtohhoojcgcbmcaaSlOps
set_option maxRecDepth 4000
set_option linter.unusedVariables false
set_option linter.unusedSimpArgs false
namespace Go.Sl
open Go Go.Vc

variable {P : Program} {g w : World} {F : List HP}

theorem one_zeroCells {zs : List Value} (h : ∀ z ∈ zs, oneCell z = true) (n : Nat) : ∀ x ∈ (Builtin.zeroCells zs.toArray n).toList, oneCell x = true := by
  intro x hx
  simp only [Builtin.zeroCells] at hx
  simp at hx
  obtain ⟨i, hi, rfl⟩ := hx
  have hpos : 0 < zs.length := by
    rcases Nat.eq_zero_or_pos zs.length with h0 | h0
    · rw [h0] at hi; simp at hi
    · exact h0
  have hlt : i % zs.length < zs.length := Nat.mod_lt _ hpos
  apply h
  simp [hlt]

/-- append(s[:i], make(S, n)...), where it outgrows its array: a new block; the old one stays. -/
theorem run_append_make {st et sz bytes xt rt : Nat} {zs : List Value} (E : ElemT P st et sz bytes zs) (hxt : ∃ k, P.underlying xt = some (.int k))
    {p : Option Addr} {l c : Nat} {cs : List Value} (H : Sat g w (Sl et sz p l c cs :: F)) (hcs : ∀ x ∈ cs, oneCell x = true) {i n : Nat} {c0 : Nat} (hi : i ≤ l) (hn : 0 < n) (hgrow : c0 < i + n) (hsmall : i + n ≤ 2 ^ 30) :
    ∃ b c' w', (Builtin.append_ #[st, xt] rt #[.slice p i c0, .int .i64 n]).run P w = .ok (.slice (some ⟨b, 0, none⟩) (i + n) c') w' ∧
      Sat g w' (Sl et sz (some ⟨b, 0, none⟩) (i + n) c' (cs.take (i * sz) ++ (Builtin.zeroCells zs.toArray n).toList) :: Sl et sz p l c cs :: F) := by
  obtain ⟨inf, hinf, hsz, hby, z, hz, hzc⟩ := E.info
  obtain ⟨kd, hd⟩ := hxt
  have hsizeof : ∀ w, (sizeOf et).run P w = .ok sz w := fun w => by rw [← hsz]; exact sizeOf_run et inf hinf
  have htype : ∀ w, (typeInfo et).run P w = .ok inf w := fun w => typeInfo_run et inf hinf
  have hzero : ∀ w, (zeroValue et).run P w = .ok z w := fun w => by simp [zeroValue, htype, hz]
  have hbytes : ¬ Builtin.nextslicecap (i + n) c0 * bytes > 2 ^ 48 := by
    have h1 := nextcap_le (n := i + n) (c := c0) hgrow
    have h2 := Nat.mul_le_mul h1 E.small
    have : (2 * (i + n) + 1000) * 1024 ≤ 2 ^ 48 := by omega
    omega
  have hforced : (Question.appendCap (i + n) c0 et).forced = false := rfl
  obtain ⟨nc, hncd⟩ : ∃ nc, (Question.appendCap (i + n) c0 et).cut (w.tape w.drawn (Question.appendCap (i + n) c0 et)) = nc := ⟨_, rfl⟩
  have hnc : i + n ≤ nc := by rw [← hncd]; show i + n ≤ (i + n) + _; omega
  obtain ⟨w1, hw1⟩ : ∃ w1, w.drew = w1 := ⟨_, rfl⟩
  have hw1' : ({ w with drawn := w.drawn + 1 } : World) = w1 := hw1
  have H1 : Sat g w1 (Sl et sz p l c cs :: F) := by rw [← hw1]; exact H.drew
  have hl : cs.length = l * sz := H.Sl_length
  have hisz : i * sz ≤ l * sz := Nat.mul_le_mul_right _ hi
  have hold : (Builtin.firstCells sz i (.slice p i c0)).run P w1 = .ok (cs.take (i * sz)).toArray w1 := by
    have S1 := H.src_Sl (P := P) hcs
    have h2 := S1.read i (w.drawn + 1) hi
    rw [hw1'] at h2
    have e : (Builtin.firstCells sz i (.slice p i c0)) = (Builtin.firstCells sz i (.slice p l c)) := by cases p <;> rfl
    rw [e]; exact h2
  refine ⟨w1.heap.size, nc, w1.alloc (.cells ((cs.take (i * sz)).toArray ++ (Builtin.zeroCells zs.toArray n ++ Builtin.zeroCells zs.toArray (nc - (i + n)))) et), ?_, ?_⟩
  · have hb2 : ¬ 2 ^ 48 < Builtin.nextslicecap (i + n) c0 * inf.bytes := by rw [hby]; exact hbytes
    have hmaxI : ¬ (9223372036854775807 : Int) < ((i : Int) + (n : Int)) := by omega
    have hwrap : IntKind.i64.wrap (n : Int) = n := by
      simp [IntKind.wrap, IntKind.bits, IntKind.signed]; omega
    have hn0 : ¬ ((n : Int) < 0) := by omega
    have hnb : ¬ ((281474976710656 : Int) < (n : Int) * (inf.bytes : Int)) := by
      rw [hby]
      have h1 : n * bytes ≤ n * 1024 := Nat.mul_le_mul_left _ E.small
      have h2 : n * bytes ≤ 2 ^ 48 := by omega
      have h3 : ((n * bytes : Nat) : Int) ≤ ((2 ^ 48 : Nat) : Int) := Int.ofNat_le.2 h2
      rw [Int.natCast_mul] at h3
      omega
    have hneed : ¬ i + n ≤ c0 := by omega
    simp only [Builtin.append_, Sem.run_bind, List.getElem?_toArray, List.getElem?_cons_zero, List.getElem?_cons_succ, underlying_run' E.under, Result.andThen_ok, hsizeof, underlying_run' hd, Sem.run_pure]
    have hns : ¬ n * sz = 0 := by
      intro h
      rcases Nat.mul_eq_zero.1 h with h | h
      · omega
      · have := E.pos; omega
    simp [asInt, asIntOf, hwrap, hn0, htype, hnb, hns, hneed, hb2, hmaxI, hforced, hncd, hw1, askRoom_run, hold, hzero, newRow_run, hzc]
  · have e : Obj.cells ((cs.take (i * sz)).toArray ++ (Builtin.zeroCells zs.toArray n ++ Builtin.zeroCells zs.toArray (nc - (i + n)))) et =
        .cells (cs.take (i * sz) ++ (Builtin.zeroCells zs.toArray n).toList ++ (Builtin.zeroCells zs.toArray (nc - (i + n))).toList).toArray et := by
      congr 1
      simp
    have H2 := H1.alloc (Obj.cells (cs.take (i * sz) ++ (Builtin.zeroCells zs.toArray n).toList ++ (Builtin.zeroCells zs.toArray (nc - (i + n))).toList).toArray et)
    have e2 : (cs.take (i * sz) ++ (Builtin.zeroCells zs.toArray n).toList ++ (Builtin.zeroCells zs.toArray (nc - (i + n))).toList).take ((i + n) * sz) = cs.take (i * sz) ++ (Builtin.zeroCells zs.toArray n).toList := by
      have hz : (Builtin.zeroCells zs.toArray n).toList.length = n * sz := by rw [zeroCells_toList, E.len]
      rw [List.take_append_of_le_length (by simp [hz, hl, Nat.add_mul, Nat.min_eq_left hi])]
      rw [List.take_of_length_le (by simp [hz, hl, Nat.add_mul, Nat.min_eq_left hi])]
    have H3 := H2.shut_Sl (l := i + n) (c := nc) (sz := sz) hnc (by
      simp only [List.length_append, zeroCells_toList, List.length_take, hl, E.len, Nat.min_eq_left hisz]
      rw [← Nat.add_mul, ← Nat.add_mul]
      exact Nat.mul_le_mul_right _ (by omega))
    rw [e2] at H3
    rw [e]
    exact H3

/-- copy into a block. -/
theorem run_copy {st et sz bytes xt rt : Nat} {zs : List Value} (E : ElemT P st et sz bytes zs)
    {b o : Nat} {all : List Value} (H : Sat g w (pt b (.cells all.toArray et (0, 0)) :: F)) {src : Value} {n dl dc : Nat} {xs : List Value} (S : Src P w sz src n xs) (hd : o + (min n dl) * sz ≤ all.length) :
    ∃ w', (Builtin.copy_ #[st, xt] rt #[.slice (some ⟨b, o, none⟩) dl dc, src]).run P w = .ok (.int .i64 ((min n dl : Nat) : Int)) w' ∧
      Sat g w' (pt b (.cells (splice all o (xs.take ((min n dl) * sz))).toArray et (0, 0)) :: F) := by
  obtain ⟨inf, hinf, hsz, hby, z, hz, hzc⟩ := E.info
  have hsizeof : ∀ w, (sizeOf et).run P w = .ok sz w := fun w => by rw [← hsz]; exact sizeOf_run et inf hinf
  have hmin : min n dl ≤ n := Nat.min_le_left _ _
  have hmul : (min n dl) * sz ≤ n * sz := Nat.mul_le_mul_right _ hmin
  have hread := S.read (min n dl) w.drawn hmin
  have e0 : ({ w with drawn := w.drawn } : World) = w := rfl
  rw [e0] at hread
  have hlen : (xs.take ((min n dl) * sz)).length = (min n dl) * sz := by rw [List.length_take, S.length]; omega
  obtain ⟨w', hr, H2⟩ := store_run (P := P) (o := o) (xs.take ((min n dl) * sz)) 0 all w H (by rw [hlen]; omega) (fun x hx => S.one x (List.mem_of_mem_take hx))
  simp only [Nat.add_zero] at H2
  refine ⟨w', ?_, H2⟩
  have hmin' : Nat.min n dl = min n dl := rfl
  simp only [Builtin.copy_, Sem.run_bind, List.getElem?_toArray, List.getElem?_cons_zero, List.getElem?_cons_succ, underlying_run' E.under, Result.andThen_ok, hsizeof, Sem.run_pure, S.len, hmin', hread, hr, goInt]

/-- clear of a part of a block. -/
theorem run_clear {st et sz bytes rt : Nat} {zs : List Value} (E : ElemT P st et sz bytes zs)
    {b o : Nat} {all : List Value} (H : Sat g w (pt b (.cells all.toArray et (0, 0)) :: F)) {n c : Nat} (hd : o + n * sz ≤ all.length) :
    ∃ w', (Builtin.clear_ #[st] rt #[.slice (some ⟨b, o, none⟩) n c]).run P w = .ok (.tuple #[]) w' ∧
      Sat g w' (pt b (.cells (splice all o (Builtin.zeroCells zs.toArray n).toList).toArray et (0, 0)) :: F) := by
  obtain ⟨inf, hinf, hsz, hby, z, hz, hzc⟩ := E.info
  have hzero : ∀ w, (zeroValue et).run P w = .ok z w := fun w => by simp [zeroValue, typeInfo_run et inf hinf, hz]
  have hlen : (Builtin.zeroCells zs.toArray n).toList.length = n * sz := by rw [zeroCells_toList, E.len]
  obtain ⟨w', hr, H2⟩ := store_run (P := P) (o := o) (Builtin.zeroCells zs.toArray n).toList 0 all w H (by rw [hlen]; omega) (one_zeroCells E.one n)
  simp only [Nat.add_zero] at H2
  cases n with
  | zero =>
    refine ⟨w, ?_, ?_⟩
    · simp only [Builtin.clear_, Sem.run_bind, List.getElem?_toArray, List.getElem?_cons_zero, underlying_run' E.under, Result.andThen_ok, Sem.run_pure]
    · simpa [splice, Builtin.zeroCells] using H
  | succ n =>
    refine ⟨w', ?_, H2⟩
    simp only [Builtin.clear_, Sem.run_bind, List.getElem?_toArray, List.getElem?_cons_zero, underlying_run' E.under, Result.andThen_ok, Sem.run_pure, hzero, hzc, hr]

end Go.Sl
