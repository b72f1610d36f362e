/- TreeNone, walked. -/
import Derived.Test.YtohhoojcgcbmcaaLawD
import Derived.Below
set_option maxRecDepth 4000
set_option linter.unusedVariables false
set_option linter.unusedSimpArgs false
namespace Go.Proofs.Ytohhoojcgcbmcaa
open Go Go.Vc Go.Sl Go.Tr Go.Proofs Go.RowKit

variable {g w : World} {F : List HP}

theorem nil_Put {k : Key} {v : Int} (H : Sat g w F) : Calls prog f_tree_Tree_int_Put #[.pointer none, .string k, .int .i64 v] w fun e w' => e = .returned (.tuple #[.int .i64 0, .bool false]) ∧ Sat g w' F := by
  refine ok.tree_Tree_int_Put ?_
  unfold V.tree_Tree_int_Put
  exact br_t rfl ⟨rfl, H⟩
theorem nil_Delete {k : Key} (H : Sat g w F) : Calls prog f_tree_Tree_int_Delete #[.pointer none, .string k] w fun e w' => e = .returned (.tuple #[.int .i64 0, .bool false]) ∧ Sat g w' F := by
  refine ok.tree_Tree_int_Delete ?_
  unfold V.tree_Tree_int_Delete
  exact br_t rfl ⟨rfl, H⟩
theorem nil_Keys {k to : Key} {most : Int} (H : Sat g w F) : Calls prog f_tree_Tree_int_Keys #[.pointer none, .string k, .string to, .int .i64 most] w fun e w' => e = .returned (.slice none 0 0) ∧ Sat g w' F := by
  refine ok.tree_Tree_int_Keys ?_
  unfold V.tree_Tree_int_Keys
  refine (TP_Next (p := none) (E := []) (TP_none H)).mono ?_
  rintro e w1 ⟨rfl, H1⟩
  refine ⟨_, _, _, rfl, ?_⟩
  refine round.tree_Tree_int_Keys_L0 ?_
  unfold B.tree_Tree_int_Keys_L0
  exact jq False (fun J hJ => br_f rfl (br_f rfl (br_f rfl ⟨rfl, H1.drop⟩))) (fun h => h.elim)
theorem nil_Count {k to : Key} (H : Sat g w F) : Calls prog f_tree_Tree_int_Count #[.pointer none, .string k, .string to] w fun e w' => e = .returned (.int .i64 0) ∧ Sat g w' F := by
  refine ok.tree_Tree_int_Count ?_
  unfold V.tree_Tree_int_Count
  refine (nil.tree_Tree_int_Len H).mono ?_
  rintro e w1 ⟨rfl, H1⟩
  refine ⟨_, rfl, (nil_Keys H1).mono ?_⟩
  rintro e w2 ⟨rfl, H2⟩
  exact ⟨_, _, _, rfl, rfl, H2⟩
theorem nil_Depth (H : Sat g w F) : Calls prog f_tree_Tree_int_Depth #[.pointer none] w fun e w' => e = .returned (.int .i64 0) ∧ Sat g w' F := by
  refine ok.tree_Tree_int_Depth ?_
  unfold V.tree_Tree_int_Depth
  refine (nil.tree_Tree_int_Len H).mono ?_
  rintro e w1 ⟨rfl, H1⟩
  exact ⟨_, rfl, br_t rfl ⟨rfl, H1⟩⟩
theorem nil_Pages (H : Sat g w F) : Calls prog f_tree_Tree_int_Pages #[.pointer none] w fun e w' => e = .returned (.slice none 0 0) ∧ Sat g w' F := by
  refine ok.tree_Tree_int_Pages ?_
  unfold V.tree_Tree_int_Pages
  refine (nil.tree_Tree_int_Len H).mono ?_
  rintro e w1 ⟨rfl, H1⟩
  exact ⟨_, rfl, br_t rfl ⟨rfl, H1⟩⟩

theorem main.TreeNone {k : Key} {v : Int} (H : Sat g w F) : Calls prog f_affluxlaw08_TreeNone #[.string k, .int .i64 v] w fun e w' => e = .returned (.bool true) ∧ Sat g w' F := by
  refine ok.affluxlaw08_TreeNone ?_
  unfold V.affluxlaw08_TreeNone
  refine br (fun h => ?_) (fun h => ?_)
  · refine (spec.affluxlaw08_awake H).mono ?_
    rintro e w1 ⟨rfl, H1⟩
    exact ⟨_, rfl, rfl, H1⟩
  · refine (nil_Put H).mono ?_
    rintro e w1 ⟨rfl, H1⟩
    refine ⟨_, _, rfl, (nil_Delete H1).mono ?_⟩
    rintro e w2 ⟨rfl, H2⟩
    refine ⟨_, _, rfl, br_t rfl (br_t rfl (br_t rfl (br_t rfl ?_)))⟩
    refine (spec.affluxlaw08_looks (p := none) (q := none) (c := 0) (E := []) ((TP_none (H2.nil_Sl 31 2))) trivial (by simp)).mono ?_
    rintro e w3 ⟨rfl, H3⟩
    refine ⟨_, rfl, br_t rfl ((nil_Keys H3.drop.drop).mono ?_)⟩
    rintro e w4 ⟨rfl, H4⟩
    refine ⟨_, _, _, rfl, br_t rfl ((nil_Count H4).mono ?_)⟩
    rintro e w5 ⟨rfl, H5⟩
    refine ⟨_, rfl, br_t rfl ((nil_Depth H5).mono ?_)⟩
    rintro e w6 ⟨rfl, H6⟩
    refine ⟨_, rfl, br_t rfl ((nil_Pages H6).mono ?_)⟩
    rintro e w7 ⟨rfl, H7⟩
    refine ⟨_, _, _, rfl, br_t rfl ((spec.affluxlaw08_awake H7).mono ?_)⟩
    rintro e w8 ⟨rfl, H8⟩
    exact ⟨_, rfl, rfl, H8⟩

/-! ### the heap as it came -/
def All (w : World) : HP := fun h => h = (w.heap.toList.zipIdx.map fun x => (x.2, x.1))

theorem all_start (w : World) : Sat w w [All w] := by
  refine ⟨rfl, rfl, rfl, _, ⟨_, [], (List.append_nil _).symm, rfl, rfl⟩, ?_, ?_⟩
  · rw [List.map_map]
    have : (fun x : Nat × Obj => x.1) ∘ (fun x : Obj × Nat => (x.2, x.1)) = Prod.snd := rfl
    rw [this, List.zipIdx_map_snd]
    exact List.nodup_range'
  · intro x hx
    rw [List.mem_map] at hx
    obtain ⟨y, hy, rfl⟩ := hx
    rw [List.mem_zipIdx_iff_getElem?] at hy
    rw [← Array.getElem?_toList]
    exact hy

theorem all_block {w0 w : World} {F : List HP} (H : Sat w0 w (All w0 :: F)) {k : Nat} (hk : k < w0.heap.size) : w.heap[k]? = w0.heap[k]? := by
  obtain ⟨h, ⟨h1, h2, rfl, hA, hF⟩, hn, hm⟩ := H.mem
  have hA : h1 = (w0.heap.toList.zipIdx.map fun x => (x.2, x.1)) := hA
  have h0 : w0.heap[k]? = some w0.heap[k] := Array.getElem?_eq_getElem hk
  rw [h0]
  refine hm (k, w0.heap[k]) (List.mem_append_left _ ?_)
  rw [hA, List.mem_map]
  refine ⟨(w0.heap[k], k), ?_, rfl⟩
  rw [List.mem_zipIdx_iff_getElem?, Array.getElem?_toList]
  exact h0

theorem all_below {w0 w : World} {F : List HP} (H : Sat w0 w (All w0 :: F)) : Below w0.heap.size w0 w := by
  refine ⟨H.os, H.tape, H.output, ?_, fun k hk => all_block H hk⟩
  refine Nat.le_of_not_lt fun hlt => ?_
  have := all_block H (k := w.heap.size) hlt
  rw [Array.getElem?_eq_none (Nat.le_refl _), Array.getElem?_eq_getElem hlt] at this
  cases this

theorem walk.TreeNone (k : Key) (v : Int) (w : World) : Calls prog f_affluxlaw08_TreeNone #[.string k, .int .i64 v] w fun e w' => e = .returned (.bool true) ∧ Below w.heap.size w w' := by
  refine (main.TreeNone (k := k) (v := v) (all_start w)).mono ?_
  rintro e w' ⟨rfl, H⟩
  exact ⟨rfl, all_below H⟩

end Go.Proofs.Ytohhoojcgcbmcaa
