/- The acts as they came. -/
import Derived.Test.YtohhoojcgcbmcaaLawG
import Derived.Deep.Slices
import Derived.ChangeArms
set_option maxRecDepth 4000
set_option linter.unusedVariables false
set_option linter.unusedSimpArgs false
namespace Go.Proofs.Ytohhoojcgcbmcaa
open Go Go.Vc Go.Sl Go.Tr Go.Proofs Go.RowKit Go.ChangeShapes Go.WideShapes

theorem cell_lt {w : World} {q : Addr} {v : Value} (h : w.cell? q = some v) : q.block < w.heap.size := by
  refine Nat.lt_of_not_le fun hle => ?_
  unfold World.cell? at h
  rw [Array.getElem?_eq_none hle] at h
  cases h

theorem all_cell {w0 w : World} {F : List HP} (H : Sat w0 w (All w0 :: F)) {q : Addr} {v : Value} (h : w0.cell? q = some v) : w.cell? q = some v := by
  rw [(all_below H).cell (cell_lt h)]; exact h

theorem acts_of {w0 : World} {p : Option Addr} {l : ActL} (h : ActsRd w0 p l) : Acts w0 p l := by
  intro w F H i x hx
  obtain ⟨a, h1, h2, h3, h4⟩ := h i x hx
  exact ⟨a, h1, all_cell H h2, all_cell H h3, all_cell H h4⟩

section
variable {H : Type} {enc : TypeId × Value → H} {P : Program} {w : World} {base : Nat} {spare : Nat → Bool} {held : Bool}

/-- A slice of acts, opened. -/
theorem open_acts {t e : TypeId} {f0 f1 f2 : Field} {fuel : Nat} {cs : List Value} {x : DataW H × List MemPlace} (ht : P.underlying t = some (.slice e)) (he : P.underlying e = some (.struct #[f0, f1, f2]))
    (ce : P.cellsOf e = 3) (o0 : f0.offset = 0) (o1 : f1.offset = 1) (o2 : f2.offset = 2) (c0 : P.cellsOf f0.type = 1) (c1 : P.cellsOf f1.type = 1) (c2 : P.cellsOf f2.type = 1)
    (u0 : P.underlying f0.type = some (.int .i64)) (u1 : P.underlying f1.type = some .string) (u2 : P.underlying f2.type = some (.int .i64))
    (h : DataW.trod enc P w base spare held fuel t cs = some x) :
    ∃ (a : Option Addr) (len cap : Nat) (l : ActL), cs = [.slice a len cap] ∧ l.length = len ∧ ActsRd w a l := by
  rcases Go.Deep.open_slice ht h with ⟨rfl, rfl⟩ | ⟨a, len, cap, m, n, D, Pl, rfl, hb, hl, hm, hmm, rfl, hx⟩
  · exact ⟨none, 0, 0, [], rfl, rfl, fun i x hx => by cases hx⟩
  · have hlm : len ≤ m := by rw [hmm]; split <;> omega
    have each : ∀ i, i < len → ∃ q : Int × Key × Int, w.cell? (a.add (i * 3)) = some (.int .i64 q.1) ∧ w.cell? ((a.add (i * 3)).add 1) = some (.string q.2.1) ∧ w.cell? ((a.add (i * 3)).add 2) = some (.int .i64 q.2.2) := by
      intro i hi
      obtain ⟨cs', h1, h2⟩ := hx i (by omega)
      rw [ce] at h1
      obtain ⟨_, hlen, hcell⟩ := World.cells?_some h1
      obtain ⟨xs, k, hk, hxy, _, hxl, hf⟩ := DataW.trod_struct he h2
      match xs, hxl, cs', hlen with
      | [y0, y1, y2], _, [v0, v1, v2], _ =>
        have g0 := hf 0 f0 rfl
        have g1 := hf 1 f1 rfl
        have g2 := hf 2 f2 rfl
        simp [o0, o1, o2, c0, c1, c2] at g0 g1 g2
        obtain ⟨n0, e0, _⟩ := DataW.trod_int u0 g0
        obtain ⟨s1, e1, _⟩ := DataW.trod_string u1 g1
        obtain ⟨n2, e2, _⟩ := DataW.trod_int u2 g2
        cases e0; cases e1; cases e2
        have d0 := hcell 0 (by omega)
        have d1 := hcell 1 (by omega)
        have d2 := hcell 2 (by omega)
        rw [Addr.add_zero] at d0
        exact ⟨(n0, s1, n2), d0, d1, d2⟩
    obtain ⟨q, hq⟩ := Go.Deep.choose_lt each
    refine ⟨some a, len, cap, (List.range len).map q, rfl, by simp, fun i x hx => ?_⟩
    rw [List.getElem?_map] at hx
    have hi : i < len := by
      have := (List.getElem?_eq_some_iff.1 (Option.map_eq_some_iff.1 hx).choose_spec.1).1
      simpa using this
    rw [List.getElem?_range hi] at hx
    cases hx
    exact ⟨a, rfl, hq i hi⟩
end

theorem walk.TreePlays (a : Option Addr) (c : Nat) (l : ActL) (ask : Key) (w : World) (hl : ActsRd w a l) : Calls prog f_affluxlaw08_TreePlays #[.slice a l.length c, .string ask] w fun e w' => e = .returned (.bool true) ∧ Below w.heap.size w w' := by
  refine (main.TreePlays (acts_of hl) (all_start w)).mono ?_
  rintro e w' ⟨rfl, H⟩
  exact ⟨rfl, all_below H⟩

end Go.Proofs.Ytohhoojcgcbmcaa
