/- Memory as separate pieces: what is said of a list of pieces that lie apart in the heap, and how each operation turns it. -/
import Derived.Test.YtohhoojcgcbmcaaVcU
set_option maxRecDepth 4000
set_option linter.unusedVariables false
set_option linter.unusedSimpArgs false
namespace Go.Sl
open Go Go.Vc

/-- Blocks, with what they hold. -/
abbrev Chunk := List (Nat × Obj)
/-- What is said of blocks. -/
abbrev HP := Chunk → Prop

def pt (b : Nat) (o : Obj) : HP := fun h => h = [(b, o)]
def stars : List HP → HP
  | [] => fun h => h = []
  | A :: L => fun h => ∃ h1 h2, h = h1 ++ h2 ∧ A h1 ∧ stars L h2
def exs {α : Type} (A : α → HP) : HP := fun h => ∃ x, A x h
def pr (p : Prop) : HP := fun h => p ∧ h = []

/-- These pieces lie apart in the heap; the rest of the world is as in g. -/
structure Sat (g w : World) (L : List HP) : Prop where
  os : w.os = g.os
  tape : w.tape = g.tape
  output : w.output = g.output
  mem : ∃ h, stars L h ∧ (h.map (·.1)).Nodup ∧ ∀ x ∈ h, w.heap[x.1]? = some x.2

variable {g w : World} {L F : List HP} {A B : HP}

theorem stars_perm {L L' : List HP} (p : L.Perm L') : ∀ {h : Chunk}, stars L h → ∃ h', h.Perm h' ∧ stars L' h' := by
  induction p with
  | nil => intro h e; exact ⟨h, .refl _, e⟩
  | cons x _ ih =>
    rintro h ⟨h1, h2, rfl, hx, hL⟩
    obtain ⟨h', p', hL'⟩ := ih hL
    exact ⟨h1 ++ h', p'.append_left h1, h1, h', rfl, hx, hL'⟩
  | swap x y l =>
    rintro h ⟨h1, _, rfl, hx, h2, h3, rfl, hy, hL⟩
    exact ⟨h2 ++ (h1 ++ h3), by rw [← List.append_assoc, ← List.append_assoc]; exact List.perm_append_comm.append_right h3, h2, _, rfl, hy, h1, h3, rfl, hx, hL⟩
  | trans _ _ ih1 ih2 =>
    intro h e
    obtain ⟨h1, p1, e1⟩ := ih1 e
    obtain ⟨h2, p2, e2⟩ := ih2 e1
    exact ⟨h2, p1.trans p2, e2⟩

theorem Sat.perm {L' : List HP} (H : Sat g w L) (p : L.Perm L') : Sat g w L' := by
  obtain ⟨h, hs, hn, hm⟩ := H.mem
  obtain ⟨h', p', hs'⟩ := stars_perm p hs
  exact ⟨H.os, H.tape, H.output, h', hs', (p'.map _).nodup_iff.1 hn, fun x hx => hm x (p'.mem_iff.2 hx)⟩

theorem perm_pull : ∀ {L : List HP} {i : Nat} {A : HP}, L[i]? = some A → L.Perm (A :: L.eraseIdx i)
  | [], i, A, h => by simp at h
  | B :: L, 0, A, h => by simp at h; subst h; exact .refl _
  | B :: L, i + 1, A, h => by
    simp only [List.getElem?_cons_succ] at h
    exact (perm_pull h |>.cons B).trans (.swap _ _ _)

/-- A piece is drawn to the front. -/
theorem Sat.pull (H : Sat g w L) (i : Nat) {A : HP} (h : L[i]? = some A) : Sat g w (A :: L.eraseIdx i) := H.perm (perm_pull h)

theorem take_map_range (d : HP) : ∀ (n : Nat) (L : List HP), n ≤ L.length → L.take n = (List.range n).map (fun i => L.getD i d)
  | 0, L, _ => by simp
  | n + 1, [], h => by simp at h
  | n + 1, A :: L, h => by
    rw [List.take_succ_cons, take_map_range d n L (by simpa using h), List.range_succ_eq_map]
    simp

/-- The first pieces in another order. -/
theorem Sat.ord (H : Sat g w L) (is : List Nat) {A : HP} (hp : is.isPerm (List.range is.length) = true) (hl : L[is.length - 1]? = some A) (h0 : is.length - 1 + 1 = is.length) :
    Sat g w (is.map (fun i => L.getD i (pr True)) ++ L.drop is.length) := by
  have hn : is.length ≤ L.length := by
    have := (List.getElem?_eq_some_iff.1 hl).1
    omega
  refine H.perm ?_
  have h1 : L.Perm (L.take is.length ++ L.drop is.length) := by rw [List.take_append_drop]
  refine h1.trans (List.Perm.append_right _ ?_)
  rw [take_map_range (pr True) _ _ hn]
  exact ((List.isPerm_iff.1 hp).map _).symm

theorem stars_append : ∀ {L M : List HP} {h : Chunk}, stars (L ++ M) h ↔ ∃ h1 h2, h = h1 ++ h2 ∧ stars L h1 ∧ stars M h2
  | [], M, h => by
    simp only [List.nil_append, stars]
    exact ⟨fun e => ⟨[], h, rfl, rfl, e⟩, fun ⟨_, _, e1, e2, e3⟩ => by subst e2; simp at e1; subst e1; exact e3⟩
  | A :: L, M, h => by
    simp only [List.cons_append, stars]
    constructor
    · rintro ⟨h1, h2, rfl, hA, h2'⟩
      obtain ⟨h3, h4, rfl, hL, hM⟩ := stars_append.1 h2'
      exact ⟨h1 ++ h3, h4, by simp, ⟨h1, h3, rfl, hA, hL⟩, hM⟩
    · rintro ⟨_, h4, rfl, ⟨h1, h3, rfl, hA, hL⟩, hM⟩
      exact ⟨h1, h3 ++ h4, by simp, hA, stars_append.2 ⟨h3, h4, rfl, hL, hM⟩⟩

theorem Sat.conv {L M : List HP} (H : Sat g w L) (h : ∀ c, stars L c → ∃ c', c.Perm c' ∧ stars M c') : Sat g w M := by
  obtain ⟨c, hs, hn, hm⟩ := H.mem
  obtain ⟨c', p, hs'⟩ := h c hs
  exact ⟨H.os, H.tape, H.output, c', hs', (p.map _).nodup_iff.1 hn, fun x hx => hm x (p.mem_iff.2 hx)⟩

theorem Sat.open_stars {M : List HP} (H : Sat g w (stars M :: F)) : Sat g w (M ++ F) :=
  H.conv fun c ⟨h1, h2, e, a, b⟩ => ⟨c, .refl _, stars_append.2 ⟨h1, h2, e, a, b⟩⟩
theorem Sat.shut_stars {M : List HP} (H : Sat g w (M ++ F)) : Sat g w (stars M :: F) :=
  H.conv fun c h => let ⟨h1, h2, e, a, b⟩ := stars_append.1 h; ⟨c, .refl _, h1, h2, e, a, b⟩
theorem Sat.open_ex {α : Type} {A : α → HP} (H : Sat g w (exs A :: F)) : ∃ x, Sat g w (A x :: F) := by
  obtain ⟨h, ⟨h1, h2, e, ⟨x, hx⟩, hF⟩, hn, hm⟩ := H.mem
  exact ⟨x, H.os, H.tape, H.output, h, ⟨h1, h2, e, hx, hF⟩, hn, hm⟩
theorem Sat.shut_ex {α : Type} {A : α → HP} (x : α) (H : Sat g w (A x :: F)) : Sat g w (exs A :: F) :=
  H.conv fun c ⟨h1, h2, e, a, b⟩ => ⟨c, .refl _, h1, h2, e, ⟨x, a⟩, b⟩
theorem Sat.open_pr {p : Prop} (H : Sat g w (pr p :: F)) : p ∧ Sat g w F := by
  obtain ⟨h, ⟨h1, h2, e, ⟨hp, e1⟩, hF⟩, hn, hm⟩ := H.mem
  subst e1; simp at e; subst e
  exact ⟨hp, H.os, H.tape, H.output, h, hF, hn, hm⟩
theorem Sat.shut_pr {p : Prop} (hp : p) (H : Sat g w F) : Sat g w (pr p :: F) :=
  H.conv fun c h => ⟨c, .refl _, [], c, by simp, ⟨hp, rfl⟩, h⟩
theorem Sat.mono (H : Sat g w (A :: F)) (h : ∀ c, A c → B c) : Sat g w (B :: F) :=
  H.conv fun c ⟨h1, h2, e, a, b⟩ => ⟨c, .refl _, h1, h2, e, h _ a, b⟩
theorem Sat.drop (H : Sat g w (A :: F)) : Sat g w F := by
  obtain ⟨h, ⟨h1, h2, rfl, _, hF⟩, hn, hm⟩ := H.mem
  refine ⟨H.os, H.tape, H.output, h2, hF, ?_, fun x hx => hm x (by simp [hx])⟩
  rw [List.map_append, List.nodup_append] at hn
  exact hn.2.1

/-! ### one block -/

theorem Sat.get {b : Nat} {o : Obj} (H : Sat g w (pt b o :: F)) : w.heap[b]? = some o := by
  obtain ⟨h, ⟨h1, h2, rfl, e, _⟩, _, hm⟩ := H.mem
  subst e
  exact hm (b, o) (by simp)

theorem Sat.lt {b : Nat} {o : Obj} (H : Sat g w (pt b o :: F)) : b < w.heap.size := by
  have := H.get
  rcases Nat.lt_or_ge b w.heap.size with h | h
  · exact h
  · simp [Array.getElem?_eq_none h] at this

theorem Sat.ne {b c : Nat} {o u : Obj} (H : Sat g w (pt b o :: pt c u :: F)) : b ≠ c := by
  obtain ⟨h, ⟨h1, _, rfl, e, h2, h3, rfl, e2, _⟩, hn, _⟩ := H.mem
  subst e e2
  intro hbc
  subst hbc
  simp at hn

theorem Sat.cell {b : Nat} {cs : Array Value} {T : TypeId} {fr : Nat × Nat} (H : Sat g w (pt b (.cells cs T fr) :: F)) (i : Nat) : w.cell? ⟨b, i, none⟩ = cs[i]? := by
  simp [World.cell?, H.get]

theorem Sat.frozen {b : Nat} {cs : Array Value} {T : TypeId} (H : Sat g w (pt b (.cells cs T (0, 0)) :: F)) (i : Nat) : w.frozen? ⟨b, i, none⟩ = false := by
  simp [World.frozen?, H.get]

/-- A block is turned. -/
theorem Sat.set {b : Nat} {o o' : Obj} (H : Sat g w (pt b o :: F)) {w' : World} (h1 : w'.os = w.os) (h2 : w'.tape = w.tape) (h3 : w'.output = w.output)
    (hb : w'.heap[b]? = some o') (hk : ∀ k, k ≠ b → w'.heap[k]? = w.heap[k]?) : Sat g w' (pt b o' :: F) := by
  obtain ⟨h, ⟨_, h2', rfl, e, hF⟩, hn, hm⟩ := H.mem
  subst e
  refine ⟨h1.trans H.os, h2.trans H.tape, h3.trans H.output, [(b, o')] ++ h2', ⟨_, h2', rfl, rfl, hF⟩, by simpa using hn, ?_⟩
  intro x hx
  rcases List.mem_append.1 hx with hx | hx
  · simp at hx; subst hx; exact hb
  · have hne : x.1 ≠ b := by
      intro hxb
      simp only [List.singleton_append, List.map_cons, List.nodup_cons] at hn
      exact hn.1 (List.mem_map.2 ⟨x, hx, hxb⟩)
    rw [hk _ hne]
    exact hm x (by simp [hx])

theorem heap_setCell_ne (w : World) (a : Addr) (v : Value) {k : Nat} (h : k ≠ a.block) : (w.setCell a v).heap[k]? = w.heap[k]? := by
  simp only [World.setCell, Array.getElem?_modify]
  rw [if_neg (by omega)]

theorem Sat.setCell {b : Nat} {cs : Array Value} {T : TypeId} {fr : Nat × Nat} (H : Sat g w (pt b (.cells cs T fr) :: F)) (i : Nat) (v : Value) :
    Sat g (w.setCell ⟨b, i, none⟩ v) (pt b (.cells (cs.setIfInBounds i v) T fr) :: F) := by
  refine H.set rfl rfl rfl ?_ fun k hk => heap_setCell_ne w _ v hk
  simp only [World.setCell, Array.getElem?_modify]
  simp [H.get]

theorem Sat.alloc (H : Sat g w F) (o : Obj) : Sat g (w.alloc o) (pt w.heap.size o :: F) := by
  obtain ⟨h, hF, hn, hm⟩ := H.mem
  have hlt : ∀ x ∈ h, x.1 < w.heap.size := by
    intro x hx
    have := hm x hx
    rcases Nat.lt_or_ge x.1 w.heap.size with h | h
    · exact h
    · simp [Array.getElem?_eq_none h] at this
  refine ⟨H.os, H.tape, H.output, [(w.heap.size, o)] ++ h, ⟨_, h, rfl, rfl, hF⟩, ?_, ?_⟩
  · simp only [List.singleton_append, List.map_cons, List.nodup_cons]
    refine ⟨?_, hn⟩
    intro hx
    obtain ⟨x, hx, e⟩ := List.mem_map.1 hx
    have := hlt x hx
    omega
  · intro x hx
    rcases List.mem_append.1 hx with hx | hx
    · simp at hx; subst hx
      show (w.heap.push o)[w.heap.size]? = some o
      simp
    · have := hlt x hx
      show (w.heap.push o)[x.1]? = some x.2
      rw [Array.getElem?_push, if_neg (by omega)]
      exact hm x hx

theorem Sat.drew (H : Sat g w F) : Sat g w.drew F := ⟨H.os, H.tape, H.output, H.mem⟩
theorem Sat.drawn (H : Sat g w F) (n : Nat) : Sat g { w with drawn := n } F := ⟨H.os, H.tape, H.output, H.mem⟩

/-! ### the steps of a condition -/

theorem al {o : Obj} {K : Addr → World → Prop} (H : Sat g w F) (h : ∀ b w', Sat g w' (pt b o :: F) → K ⟨b, 0, none⟩ w') : Al w o K := h _ _ (H.alloc o)
theorem dr {K : World → Prop} (H : Sat g w F) (h : ∀ w', Sat g w' F → K w') : Dr w K := h _ H.drew

theorem st {b i : Nat} {cs : Array Value} {T : TypeId} {v : Value} {K : World → Prop} (H : Sat g w (pt b (.cells cs T (0, 0)) :: F)) (hi : i < cs.size) (hv : oneCell v = true)
    (h : ∀ w', Sat g w' (pt b (.cells (cs.setIfInBounds i v) T (0, 0)) :: F) → K w') : St w ⟨b, i, none⟩ v K := by
  refine ⟨⟨cs[i], ?_⟩, ?_, hv, ?_⟩
  · rw [Addr.add_zero, H.cell]; simp [hi]
  · rw [Addr.add_zero, H.frozen]
  · simp only [Addr.add_zero]
    exact h _ (H.setCell i v)

theorem br {b : Bool} {X Y : Prop} (h1 : b = true → X) (h2 : b = false → Y) : Br b X Y := ⟨h1, h2⟩
theorem br_t {b : Bool} {X Y : Prop} (hb : b = true) (h : X) : Br b X Y := ⟨fun _ => h, fun e => by rw [hb] at e; cases e⟩
theorem br_f {b : Bool} {X Y : Prop} (hb : b = false) (h : Y) : Br b X Y := ⟨fun e => (by rw [hb] at e; cases e), fun _ => h⟩
theorem lt {α : Type} {x : α} {K : α → Prop} (h : ∀ y, y = x → K y) : Lt x K := h x rfl
theorem lt' {α : Type} {x y : α} {K : α → Prop} (e : x = y) (h : K y) : Lt x K := by subst e; exact h
theorem slb {len cap : Nat} {lo hi mx : Option Int} {K : Nat → Nat → Nat → Prop} (h1 : inB mx cap) (h2 : inB hi (bnd mx cap)) (h3 : inB lo (bnd hi len))
    (h : ∀ l h m, bnd lo 0 = l → bnd hi len = h → bnd mx cap = m → K l h m) : SlB len cap lo hi mx K := ⟨h1, h2, h3, h _ _ _ rfl rfl rfl⟩

theorem call {P : Program} {f : FuncId} {args : Array Value} {w : World} {R R' : Ending → World → Prop} (h : Calls P f args w R) (hr : ∀ e w', R e w' → R' e w') : Calls P f args w R' := h.mono hr

/-! ### cells one by one -/

/-- Some cells in a list's place. -/
def splice (all : List Value) (o : Nat) (xs : List Value) : List Value := all.take o ++ xs ++ all.drop (o + xs.length)

theorem splice_length {all : List Value} {o : Nat} {xs : List Value} (h : o + xs.length ≤ all.length) : (splice all o xs).length = all.length := by
  simp [splice]; omega

theorem loadFrom_run {P : Program} {b o : Nat} {all : List Value} {T : TypeId} {fr : Nat × Nat} (H : Sat g w (pt b (.cells all.toArray T fr) :: F)) : ∀ (n i : Nat) (acc : Array Value), o + i + n ≤ all.length →
    (loadCellsFrom ⟨b, o, none⟩ i n acc).run P w = .ok (acc ++ ((all.drop (o + i)).take n).toArray) w
  | 0, i, acc, h => by simp [loadCellsFrom]
  | n + 1, i, acc, h => by
    have hlt : o + i < all.length := by omega
    have hc : w.cell? ((⟨b, o, none⟩ : Addr).add i) = some all[o + i] := by
      by_cases hi : i = 0
      · subst hi; rw [Addr.add_zero, H.cell]; simp [hlt]
      · have : (⟨b, o, none⟩ : Addr).add i = ⟨b, o + i, none⟩ := by simp [Addr.add, hi]
        rw [this, H.cell]; simp [hlt]
    simp only [loadCellsFrom, Sem.run_bind, run_load, hc, Result.andThen_ok]
    rw [loadFrom_run H n (i + 1) _ (by omega)]
    have e : (all.drop (o + i)).take (n + 1) = all[o + i] :: (all.drop (o + (i + 1))).take n := by
      rw [← List.getElem_cons_drop hlt]
      simp [Nat.add_assoc]
    rw [e]
    simp

theorem load_run {P : Program} {b o : Nat} {all : List Value} {T : TypeId} {fr : Nat × Nat} (H : Sat g w (pt b (.cells all.toArray T fr) :: F)) (n : Nat) (h : o + n ≤ all.length) :
    (loadCells ⟨b, o, none⟩ n).run P w = .ok ((all.drop o).take n).toArray w := by
  have := loadFrom_run (P := P) H n 0 #[] (by omega)
  simpa [loadCells] using this

theorem store_run {P : Program} {b o : Nat} {T : TypeId} : ∀ (xs : List Value) (i : Nat) (all : List Value) (w : World), Sat g w (pt b (.cells all.toArray T (0, 0)) :: F) → o + i + xs.length ≤ all.length →
    (∀ x ∈ xs, oneCell x = true) → ∃ w', (storeCells ⟨b, o, none⟩ xs i).run P w = .ok () w' ∧ Sat g w' (pt b (.cells (splice all (o + i) xs).toArray T (0, 0)) :: F)
  | [], i, all, w, H, h, hx => ⟨w, by simp [storeCells], by simpa [splice] using H⟩
  | x :: xs, i, all, w, H, h, hx => by
    simp only [List.length_cons] at h
    have hlt : o + i < all.length := by omega
    have ha : (⟨b, o, none⟩ : Addr).add i = ⟨b, o + i, none⟩ := by
      by_cases hi : i = 0
      · subst hi; rw [Addr.add_zero]; rfl
      · simp [Addr.add, hi]
    have hst : (store (⟨b, o + i, none⟩ : Addr) x).run P w = .ok () (w.setCell ⟨b, o + i, none⟩ x) := by
      have h1 := H.cell (o + i)
      have h2 := H.frozen (o + i)
      have h3 : w.cell? ⟨b, o + i, none⟩ = some all[o + i] := by rw [h1]; simp [hlt]
      have hxx := hx x (by simp)
      cases x <;> simp [oneCell] at hxx <;> simp [store, Sem.run, h3, h2]
    have H' := H.setCell (o + i) x
    have e : all.toArray.setIfInBounds (o + i) x = (all.set (o + i) x).toArray := by simp
    rw [e] at H'
    obtain ⟨w', hr, H2⟩ := store_run (P := P) (o := o) xs (i + 1) (all.set (o + i) x) _ H' (by simp; omega) (fun y hy => hx y (by simp [hy]))
    refine ⟨w', ?_, ?_⟩
    · simp only [storeCells, Sem.run_bind, ha, hst, Result.andThen_ok]
      exact hr
    · have e2 : splice (all.set (o + i) x) (o + (i + 1)) xs = splice all (o + i) (x :: xs) := by
        unfold splice
        have e3 : (all.set (o + i) x).take (o + (i + 1)) = all.take (o + i) ++ [x] := by
          rw [← Nat.add_assoc, List.take_succ_eq_append_getElem (by simpa using hlt)]
          simp [List.take_set_of_le]
        have e4 : (all.set (o + i) x).drop (o + (i + 1) + xs.length) = all.drop (o + i + (xs.length + 1)) := by
          rw [List.drop_set_of_lt (by omega)]
          congr 1; omega
        rw [e3, e4]
        simp
      rw [e2] at H2
      exact H2

end Go.Sl
