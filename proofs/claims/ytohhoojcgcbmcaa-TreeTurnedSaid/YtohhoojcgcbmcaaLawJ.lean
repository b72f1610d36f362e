/- TreeTurned, walked. -/
import Derived.Test.YtohhoojcgcbmcaaLawE
import Derived.Test.YtohhoojcgcbmcaaS12
import Derived.SliceStrings
set_option maxRecDepth 4000
set_option linter.unusedVariables false
set_option linter.unusedSimpArgs false
namespace Go.Tr
open Go Go.Vc

variable {V V' : Type}

theorem pw_eq : ∀ {a b : List Key}, a.Pairwise (fun x y => sLt x y = true) → b.Pairwise (fun x y => sLt x y = true) → (∀ x, x ∈ a ↔ x ∈ b) → a = b
  | [], [], _, _, _ => rfl
  | [], y :: b, _, _, h => by have := (h y).2 (by simp); cases this
  | x :: a, [], _, _, h => by have := (h x).1 (by simp); cases this
  | x :: a, y :: b, ha, hb, h => by
    rw [List.pairwise_cons] at ha hb
    have hxy : x = y := by
      rcases List.mem_cons.1 ((h x).1 (by simp)) with e | e
      · exact e
      · rcases List.mem_cons.1 ((h y).2 (by simp)) with e2 | e2
        · exact e2.symm
        · have h1 := hb.1 x e
          have h2 := ha.1 y e2
          rw [lt_asymm h1] at h2; cases h2
    subst hxy
    rw [pw_eq ha.2 hb.2]
    intro z
    constructor
    · intro hz
      rcases List.mem_cons.1 ((h z).1 (by simp [hz])) with e | e
      · have := ha.1 z hz
        rw [e, lt_irrefl] at this; cases this
      · exact e
    · intro hz
      rcases List.mem_cons.1 ((h z).2 (by simp [hz])) with e | e
      · have := hb.1 z hz
        rw [e, lt_irrefl] at this; cases this
      · exact e

theorem sorted_keys {es : List (Key × V)} (hs : Sorted es) : (es.map (·.1)).Pairwise (fun x y => sLt x y = true) := by
  rw [sorted_pair] at hs
  exact List.pairwise_map.2 hs

theorem keys_same {a : List (Key × V)} {b : List (Key × V')} (ha : Sorted a) (hb : Sorted b) (h : ∀ x, x ∈ a.map (·.1) ↔ x ∈ b.map (·.1)) : a.map (·.1) = b.map (·.1) :=
  pw_eq (sorted_keys ha) (sorted_keys hb) h

theorem mem_ins {k x : Key} {v : V} {es : List (Key × V)} : x ∈ (ins k v es).map (·.1) ↔ x = k ∨ x ∈ es.map (·.1) := by
  unfold ins
  split
  · rename_i hh
    obtain ⟨y, hy, hyk⟩ := has_some hh
    have hn := (List.getElem?_eq_some_iff.1 hy).1
    have e : (es.set (idx es k) (k, v)).map (·.1) = es.map (·.1) := by
      rw [List.map_set]
      refine List.ext_getElem? fun j => ?_
      rw [List.getElem?_set]
      split
      · rename_i hj
        subst hj
        rw [List.getElem?_map, hy]
        simp [hn, hyk]
      · rfl
    rw [e]
    constructor
    · intro h; exact .inr h
    · rintro (rfl | h)
      · exact List.mem_map.2 ⟨y, List.mem_of_getElem? hy, hyk⟩
      · exact h
  · have e : es.map (·.1) = (es.take (idx es k)).map (·.1) ++ (es.drop (idx es k)).map (·.1) := by rw [← List.map_append, List.take_append_drop]
    rw [e, List.map_append, List.map_cons, List.mem_append, List.mem_cons, List.mem_append]
    constructor
    · rintro (h | h | h)
      · exact .inr (.inl h)
      · exact .inl h
      · exact .inr (.inr h)
    · rintro (h | h | h)
      · exact .inr (.inl h)
      · exact .inl h
      · exact .inr (.inr h)

theorem mem_del {k x : Key} {es : List (Key × V)} (hs : Sorted es) (h : x ∈ (del k es).map (·.1)) : x ∈ es.map (·.1) ∧ x ≠ k := by
  unfold del at h
  split at h
  · rename_i hh
    obtain ⟨y, hy, hyk⟩ := has_some hh
    have e := list_at hy
    have hs2 := hs
    rw [e] at hs2
    have hm : Sorted (es.take (idx es k) ++ ([y] ++ es.drop (idx es k + 1))) := hs2
    have hm := mid_sides hm
    rw [hyk] at hm
    obtain ⟨z, hz, rfl⟩ := List.mem_map.1 h
    rcases List.mem_append.1 hz with hz | hz
    · exact ⟨List.mem_map.2 ⟨z, List.mem_of_mem_take hz, rfl⟩, lt_ne (hm.1 z hz)⟩
    · exact ⟨List.mem_map.2 ⟨z, List.mem_of_mem_drop hz, rfl⟩, (lt_ne (hm.2 z hz)).symm⟩
  · rename_i hh
    refine ⟨h, fun hk => hh ?_⟩
    subst hk
    obtain ⟨z, hz, rfl⟩ := List.mem_map.1 h
    obtain ⟨j, hj⟩ := List.mem_iff_getElem?.1 hz
    exact (at_idx hs hj).2

theorem keys_all (es : List (Key × V)) (m : Nat) : keysL (str []) ((es.drop (idx es (str []))).map (·.1)) m = (es.map (·.1)).take m := by
  have h0 : ∀ x : Key, sLt x (str []) = false := by
    intro x
    unfold sLt
    rw [ByteArray.toList_eq, ByteArray.toList_eq]
    show Op.bytesLess x.data.toList [] = false
    cases x.data.toList <;> rfl
  have hi : idx es (str []) = 0 := by
    unfold idx
    cases es with
    | nil => rfl
    | cons e es => rw [List.takeWhile_cons, if_neg (by rw [h0]; simp)]; rfl
  rw [hi, List.drop_zero]
  unfold keysL
  rw [takeWhile_all]
  intro x _
  unfold belowQ
  rw [eq_iff.2 rfl]; rfl

end Go.Tr
namespace Go.Proofs.Ytohhoojcgcbmcaa
open Go Go.Vc Go.Sl Go.Tr Go.Proofs Go.RowKit

variable {w0 w : World} {F : List HP}

/-- A slice of strings can be read. -/
def StrsRd (w : World) (p : Option Addr) (l : List Key) : Prop := ∀ i x, l[i]? = some x → ∃ a : Addr, p = some a ∧ w.cell? (a.add (i * 1)) = some (.string x)
def StrsIn (w0 : World) (p : Option Addr) (l : List Key) : Prop := ∀ {w : World} {F : List HP}, Sat w0 w (All w0 :: F) → StrsRd w p l

theorem cell_lt' {w : World} {q : Addr} {v : Value} (h : w.cell? q = some v) : q.block < w.heap.size := by
  refine Nat.lt_of_not_le fun hle => ?_
  unfold World.cell? at h
  rw [Array.getElem?_eq_none hle] at h
  cases h

theorem strs_of {p : Option Addr} {l : List Key} (h : StrsRd w0 p l) : StrsIn w0 p l := by
  intro w F H i x hx
  obtain ⟨a, h1, h2⟩ := h i x hx
  exact ⟨a, h1, by rw [(all_below H).cell (cell_lt' h2)]; exact h2⟩

theorem none_Depth {g : World} {b : Nat} {T : Top Int} (H : Sat g w (Tree_int b T :: F)) (h0 : T.all = []) :
    Calls prog f_tree_Tree_int_Depth #[.pointer (some ⟨b, 0, none⟩)] w fun e w' => e = .returned (.int .i64 0) ∧ Sat g w' (Tree_int b T :: F) := by
  refine ok.tree_Tree_int_Depth ?_
  unfold V.tree_Tree_int_Depth
  refine (spec.tree_Tree_int_Len H).mono ?_
  rintro e w1 ⟨rfl, H1⟩
  exact ⟨_, rfl, br_t (by rw [h0]; rfl) ⟨rfl, H1⟩⟩

theorem tmod_nat {i k n : Nat} (hi : i < n) (hk : k < n) (hn : n ≤ 100) : (IntKind.wrap .i64 ((i : Int) + (k : Int))).tmod (n : Int) = (((i + k) % n : Nat) : Int) := by
  rw [wrap_id (by omega) (by omega)]
  rw [Int.tmod_eq_emod_of_nonneg (by omega)]
  rw [← Int.natCast_add, ← Int.natCast_emod]

/-- What the first loop keeps: keys of the list, and all that were put. -/
def KeysUp {V : Type} (l : List Key) (put : Nat → Nat) (i : Nat) (T : Top V) : Prop :=
  Good T ∧ (∀ x ∈ T.all.map (·.1), x ∈ l) ∧ ∀ j x, j < i → l[put j]? = some x → x ∈ T.all.map (·.1)
/-- What the second one keeps: none of those that were deleted. -/
def KeysDown {V : Type} (l : List Key) (gone : Nat → Nat) (i : Nat) (T : Top V) : Prop :=
  Good T ∧ (∀ x ∈ T.all.map (·.1), x ∈ l) ∧ ∀ j x, j < i → l[gone j]? = some x → ¬ x ∈ T.all.map (·.1)

theorem put_up {V : Type} {l : List Key} {put : Nat → Nat} {i : Nat} {T : Top V} {x : Key} {v : V} (h : KeysUp l put i T) (hx : l[put i]? = some x) : KeysUp l put (i + 1) (putT x v T) := by
  have hok := putT_ok (k := x) (v := v) h.1
  refine ⟨hok.1, fun y hy => ?_, fun j y hj hy => ?_⟩
  · rw [hok.2, mem_ins] at hy
    rcases hy with rfl | hy
    · exact List.mem_of_getElem? hx
    · exact h.2.1 y hy
  · rw [hok.2, mem_ins]
    by_cases hji : j = i
    · subst hji
      rw [hx] at hy; cases hy
      exact .inl rfl
    · exact .inr (h.2.2 j y (by omega) hy)
theorem put_more {V : Type} {l : List Key} {put : Nat → Nat} {i : Nat} {T : Top V} {x : Key} {v : V} (h : KeysUp l put i T) (hx : x ∈ l) : KeysUp l put i (putT x v T) := by
  have hok := putT_ok (k := x) (v := v) h.1
  refine ⟨hok.1, fun y hy => ?_, fun j y hj hy => ?_⟩
  · rw [hok.2, mem_ins] at hy
    rcases hy with rfl | hy
    · exact hx
    · exact h.2.1 y hy
  · rw [hok.2, mem_ins]
    exact .inr (h.2.2 j y hj hy)
theorem del_down {V : Type} {l : List Key} {gone : Nat → Nat} {i : Nat} {T : Top V} {x : Key} {x0 : Key × V} (h : KeysDown l gone i T) (hx : l[gone i]? = some x) : KeysDown l gone (i + 1) (dropT x0 x T) := by
  have hok := dropT_ok (x0 := x0) (k := x) h.1
  refine ⟨hok.1, fun y hy => ?_, fun j y hj hy hm => ?_⟩
  · rw [hok.2] at hy
    exact h.2.1 y (mem_del h.1.2 hy).1
  · rw [hok.2] at hm
    have hm := mem_del h.1.2 hm
    by_cases hji : j = i
    · subst hji
      rw [hx] at hy; cases hy
      exact hm.2 rfl
    · exact h.2.2 j y (by omega) hy hm.1

theorem down_empty {V : Type} {l : List Key} {gone : Nat → Nat} {T : Top V} (h : KeysDown l gone l.length T) (hs : ∀ m, m < l.length → ∃ j, j < l.length ∧ gone j = m) : T.all = [] := by
  cases hT : T.all with
  | nil => rfl
  | cons e es =>
    have hm : e.1 ∈ T.all.map (·.1) := by rw [hT]; simp
    obtain ⟨m, hx⟩ := List.mem_iff_getElem?.1 (h.2.1 _ hm)
    obtain ⟨j, hj, rfl⟩ := hs m (List.getElem?_eq_some_iff.1 hx).1
    exact absurd hm (h.2.2 j _ hj hx)
theorem up_full {V : Type} {l : List Key} {put : Nat → Nat} {T : Top V} (h : KeysUp l put l.length T) (hs : ∀ m, m < l.length → ∃ j, j < l.length ∧ put j = m) (x : Key) : x ∈ T.all.map (·.1) ↔ x ∈ l := by
  refine ⟨h.2.1 x, fun hx => ?_⟩
  obtain ⟨m, hx⟩ := List.mem_iff_getElem?.1 hx
  obtain ⟨j, hj, rfl⟩ := hs m (List.getElem?_eq_some_iff.1 hx).1
  exact h.2.2 j x hj hx

theorem turn_back {n k : Nat} (hk : k < n) : ∀ m, m < n → ∃ j, j < n ∧ (j + k) % n = m := by
  intro m hm
  refine ⟨(m + n - k) % n, Nat.mod_lt _ (by omega), ?_⟩
  rw [Nat.mod_add_mod, show m + n - k + k = m + n by omega, Nat.add_mod_right, Nat.mod_eq_of_lt hm]

theorem turned_L1 {a b : Nat} {p : Option Addr} {c k : Nat} {l : List Key} (hA : StrsIn w0 p l) (hl : l.length ≤ 100) (hk : k < l.length) {R : Ending → World → Prop} (hR : ∀ w', Sat w0 w' (All w0 :: F) → R (.returned (.bool true)) w') :
    ∀ (n i : Nat) (A : Top Int) (B : Top Key) (w : World), l.length - i = n → i ≤ l.length → KeysDown l (fun j => (j + k) % l.length) i A → KeysDown l (fun j => j) i B → A.all.length ≤ 1000 → B.all.length ≤ 1000 →
      Sat w0 w (Tree_int a A :: Tree_string b B :: All w0 :: F) → L.affluxlaw08_TreeTurned_L1 p l.length c (k : Int) (some ⟨a, 0, none⟩) (some ⟨b, 0, none⟩) (i : Int) w R := by
  intro n
  induction n with
  | zero =>
    intro i A B w hd hi dA dB lA lB H
    obtain rfl : i = l.length := by omega
    have eA := down_empty dA (turn_back hk)
    have eB := down_empty dB (fun m hm => ⟨m, hm, rfl⟩)
    refine round.affluxlaw08_TreeTurned_L1 ?_
    unfold Go.Proofs.Ytohhoojcgcbmcaa.B.affluxlaw08_TreeTurned_L1
    refine br_f (decide_eq_false (by omega)) ((spec.tree_Tree_int_Len H).mono ?_)
    rintro e w1 ⟨rfl, H1⟩
    refine ⟨_, rfl, br_t (by rw [eA]; rfl) ((spec.tree_Tree_string_Len (H1.pull 1 rfl)).mono ?_)⟩
    rintro e w2 ⟨rfl, H2⟩
    refine ⟨_, rfl, br_t (by rw [eB]; rfl) ((none_Depth (H2.pull 1 rfl) eA).mono ?_)⟩
    rintro e w3 ⟨rfl, H3⟩
    refine ⟨_, rfl, br_t rfl ((none.tree_Tree_string_Pages (H3.pull 1 rfl) eB).mono ?_)⟩
    rintro e w4 ⟨rfl, H4⟩
    exact ⟨_, _, _, rfl, hR w4 H4.drop.drop⟩
  | succ n ih =>
    intro i A B w hd hi dA dB lA lB H
    refine round.affluxlaw08_TreeTurned_L1 ?_
    unfold Go.Proofs.Ytohhoojcgcbmcaa.B.affluxlaw08_TreeTurned_L1
    refine br_t (decide_eq_true (by omega)) ⟨⟨rfl, by omega⟩, ?_⟩
    have hm : (i + k) % l.length < l.length := Nat.mod_lt _ (by omega)
    obtain ⟨x, hx⟩ : ∃ x, l[(i + k) % l.length]? = some x := ⟨_, List.getElem?_eq_getElem hm⟩
    obtain ⟨y, hy⟩ : ∃ y, l[i]? = some y := ⟨_, List.getElem?_eq_getElem (by omega)⟩
    obtain ⟨q, rfl, c1⟩ := hA (H.pull 2 rfl) _ _ hx
    rw [tmod_nat (by omega) hk hl]
    refine ⟨_, rfl, ⟨by omega, by omega⟩, ?_⟩
    rw [Int.toNat_natCast]
    refine ⟨_, c1, (spec.tree_Tree_int_Delete (str [], 0) H dA.1 (by omega)).mono ?_⟩
    rintro e w1 ⟨rfl, H1⟩
    obtain ⟨q', hq, c2⟩ := hA (H1.pull 2 rfl) _ _ hy
    cases hq
    refine ⟨_, _, rfl, _, rfl, ⟨by omega, by omega⟩, ?_⟩
    rw [Int.toNat_natCast]
    refine ⟨_, c2, (spec.tree_Tree_string_Delete (str [], str []) (H1.pull 1 rfl) dB.1 (by omega)).mono ?_⟩
    rintro e w2 ⟨rfl, H2⟩
    refine ⟨_, _, rfl, lt' (y := ((i + 1 : Nat) : Int)) (by rw [wrap_id (by omega) (by omega)]; omega) ?_⟩
    refine ih (i + 1) _ _ w2 (by omega) (by omega) (del_down dA hx) (del_down dB hy) ?_ ?_ (H2.pull 1 rfl)
    · have := (dropT_ok (x0 := ((str [], 0) : Key × Int)) (k := x) dA.1).2
      rw [this]
      have := (del_len x A.all).2; omega
    · have := (dropT_ok (x0 := ((str [], str []) : Key × Key)) (k := y) dB.1).2
      rw [this]
      have := (del_len y B.all).2; omega

theorem turned_L0 {a b : Nat} {p : Option Addr} {c k : Nat} {l : List Key} (hA : StrsIn w0 p l) (hl : l.length ≤ 100) (hk : k < l.length) {R : Ending → World → Prop} (hR : ∀ w', Sat w0 w' (All w0 :: F) → R (.returned (.bool true)) w') :
    ∀ (n i : Nat) (A : Top Int) (B : Top Key) (w : World), l.length - i = n → i ≤ l.length → KeysUp l (fun j => j) i A → KeysUp l (fun j => l.length - 1 - j) i B → A.all.length ≤ i → B.all.length ≤ i + i →
      Sat w0 w (Tree_int a A :: Tree_string b B :: All w0 :: F) → L.affluxlaw08_TreeTurned_L0 p l.length c (k : Int) (some ⟨a, 0, none⟩) (some ⟨b, 0, none⟩) (i : Int) w R := by
  intro n
  induction n with
  | zero =>
    intro i A B w hd hi uA uB lA lB H
    obtain rfl : i = l.length := by omega
    have fA := up_full uA (fun m hm => ⟨m, hm, rfl⟩)
    have fB := up_full uB (fun m hm => ⟨l.length - 1 - m, by omega, by show l.length - 1 - (l.length - 1 - m) = m; omega⟩)
    have eAB : A.all.map (·.1) = B.all.map (·.1) := keys_same uA.1.2 uB.1.2 (fun x => (fA x).trans (fB x).symm)
    have eL : A.all.length = B.all.length := by have := congrArg List.length eAB; simpa using this
    have eK : keysT_int A (str []) (str []) 100 = keysT_string B (str []) (str []) 100 := by
      show keysL _ _ _ = keysL _ _ _
      rw [keys_all, keys_all, eAB]
    refine round.affluxlaw08_TreeTurned_L0 ?_
    unfold Go.Proofs.Ytohhoojcgcbmcaa.B.affluxlaw08_TreeTurned_L0
    refine br_f (decide_eq_false (by omega)) ?_
    refine jnw (fun w => Sat w0 w (Tree_int a A :: Tree_string b B :: All w0 :: F)) (fun J hJ => ?_) (fun w2 H2 => ?_)
    · refine (spec.tree_Tree_int_Keys H uA.1 (by omega)).mono ?_
      rintro e w1 ⟨p1, c1, rfl, H1⟩
      refine ⟨_, _, _, rfl, (spec.tree_Tree_string_Keys (H1.pull 2 rfl) uB.1 (by omega)).mono ?_⟩
      rintro e w2 ⟨p2, c2, rfl, H2⟩
      have hkl : (keysT_int A (str []) (str []) 100).length < 1048576 := by
        have : (keysT_int A (str []) (str []) 100).length ≤ A.all.length := by
          show (keysL _ _ _).length ≤ _
          rw [keys_all, List.length_take, List.length_map]; omega
        omega
      refine ⟨_, _, _, rfl, (spec.affluxref05_Same (H2.ord [2, 0, 1, 3] rfl rfl rfl) hkl).mono ?_⟩
      rintro e w3 ⟨rfl, H3⟩
      refine ⟨_, rfl, br_f (by rw [decide_eq_true eK]; rfl) ((spec.tree_Tree_int_Len (H3.pull 3 rfl)).mono ?_)⟩
      rintro e w4 ⟨rfl, H4⟩
      refine ⟨_, rfl, (spec.tree_Tree_string_Len (H4.pull 3 rfl)).mono ?_⟩
      rintro e w5 ⟨rfl, H5⟩
      refine ⟨_, rfl, br_f (by rw [eL]; simp) (hJ _ ?_)⟩
      exact (H5.ord [2, 3, 1, 0] rfl rfl rfl).drop.drop
    · refine turned_L1 hA hl hk hR _ 0 A B w2 rfl (Nat.zero_le _) ⟨uA.1, uA.2.1, fun j x hj => by omega⟩ ⟨uB.1, uB.2.1, fun j x hj => by omega⟩ (by omega) (by omega) H2
  | succ n ih =>
    intro i A B w hd hi uA uB lA lB H
    refine round.affluxlaw08_TreeTurned_L0 ?_
    unfold Go.Proofs.Ytohhoojcgcbmcaa.B.affluxlaw08_TreeTurned_L0
    refine br_t (decide_eq_true (by omega)) ?_
    have hm : (i + k) % l.length < l.length := Nat.mod_lt _ (by omega)
    obtain ⟨x, hx⟩ : ∃ x, l[i]? = some x := ⟨_, List.getElem?_eq_getElem (by omega)⟩
    obtain ⟨y, hy⟩ : ∃ y, l[(i + k) % l.length]? = some y := ⟨_, List.getElem?_eq_getElem hm⟩
    obtain ⟨z, hz⟩ : ∃ z, l[l.length - 1 - i]? = some z := ⟨_, List.getElem?_eq_getElem (by omega)⟩
    obtain ⟨q, rfl, c1⟩ := hA (H.pull 2 rfl) _ _ hx
    refine ⟨_, rfl, ⟨by omega, by omega⟩, ?_⟩
    rw [Int.toNat_natCast]
    refine ⟨_, c1, (spec.tree_Tree_int_Put H uA.1 (by omega)).mono ?_⟩
    rintro e w1 ⟨rfl, H1⟩
    obtain ⟨q', hq, c2⟩ := hA (H1.pull 2 rfl) _ _ hy
    cases hq
    refine ⟨_, _, rfl, ⟨rfl, by omega⟩, ?_⟩
    rw [tmod_nat (by omega) hk hl]
    refine ⟨_, rfl, ⟨by omega, by omega⟩, ?_⟩
    rw [Int.toNat_natCast]
    refine ⟨_, c2, (spec.tree_Tree_string_Put (H1.pull 1 rfl) uB.1 (by omega)).mono ?_⟩
    rintro e w2 ⟨rfl, H2⟩
    have uB1 := put_more (v := str [120]) uB (List.mem_of_getElem? hy)
    have lB1 : (putT y (str [120]) B).all.length ≤ i + i + 1 := by
      rw [(putT_ok uB.1).2]
      have := (ins_len y (str [120]) B.all).2; omega
    obtain ⟨q', hq, c3⟩ := hA (H2.pull 2 rfl) _ _ hz
    cases hq
    have hw : IntKind.wrap .i64 (IntKind.wrap .i64 ((l.length : Int) - (1 : Int)) - (i : Int)) = ((l.length - 1 - i : Nat) : Int) := by
      rw [wrap_id (x := (l.length : Int) - 1) (by omega) (by omega), wrap_id (by omega) (by omega)]; omega
    rw [hw]
    refine ⟨_, _, rfl, _, rfl, ⟨by omega, by omega⟩, ?_⟩
    rw [Int.toNat_natCast]
    refine ⟨_, c3, (spec.tree_Tree_string_Put H2 uB1.1 (by omega)).mono ?_⟩
    rintro e w3 ⟨rfl, H3⟩
    refine ⟨_, _, rfl, lt' (y := ((i + 1 : Nat) : Int)) (by rw [wrap_id (by omega) (by omega)]; omega) ?_⟩
    refine ih (i + 1) _ _ w3 (by omega) (by omega) (put_up uA hx) (put_up uB1 hz) ?_ ?_ (H3.pull 1 rfl)
    · rw [(putT_ok uA.1).2]
      have := (ins_len x (i : Int) A.all).2; omega
    · rw [(putT_ok uB1.1).2]
      have := (ins_len z (str [121]) (putT y (str [120]) B).all).2; omega

theorem good_start {V : Type} : Good (⟨0, ([] : List (Key × V))⟩ : Top V) := ⟨⟨Nat.le_refl _, by show (0 : Nat) ≤ 5; omega⟩, trivial⟩
theorem start_up {V : Type} (l : List Key) (put : Nat → Nat) : KeysUp l put 0 (⟨0, ([] : List (Key × V))⟩ : Top V) := ⟨good_start, fun x hx => (by cases hx), fun j x hj => by omega⟩

theorem main.TreeTurned {p : Option Addr} {c : Nat} {l : List Key} {by_ : Int} (hA : StrsIn w0 p l) (H : Sat w0 w (All w0 :: F)) :
    Calls prog f_affluxlaw08_TreeTurned #[.slice p l.length c, .int .i64 by_] w fun e w' => e = .returned (.bool true) ∧ Sat w0 w' (All w0 :: F) := by
  refine ok.affluxlaw08_TreeTurned ?_
  unfold V.affluxlaw08_TreeTurned
  refine jnw (fun w => Sat w0 w (All w0 :: F) ∧ 0 < l.length ∧ l.length ≤ 100) (fun J hJ => ?_) ?_
  · have aw : Calls prog f_affluxlaw08_awake #[] w fun e w' => ∃ b, e = .returned (.bool b) ∧ (Ending.returned (.bool b) = .returned (.bool true) ∧ Sat w0 w' (All w0 :: F)) := by
      refine (spec.affluxlaw08_awake H).mono ?_
      rintro e w2 ⟨rfl, H2⟩
      exact ⟨_, rfl, rfl, H2⟩
    refine br (fun h0 => br_t rfl (br_t rfl aw)) (fun h0 => br (fun h1 => br_t rfl aw) (fun h1 => ?_))
    refine (spec.affluxlaw08_awake H).mono ?_
    rintro e w2 ⟨rfl, H2⟩
    have h0 : (l.length : Int) ≠ 0 := by simpa using h0
    exact ⟨_, rfl, br_f rfl (hJ _ ⟨H2, by omega, by have := of_decide_eq_false h1; omega⟩)⟩
  · rintro w1 ⟨H1, h0, h1⟩
    have hwl : IntKind.wrap .u64 (l.length : Int) = (l.length : Int) := by
      simp [IntKind.wrap, IntKind.bits, IntKind.signed]; omega
    have hwn : 0 ≤ IntKind.wrap .u64 by_ := by
      simp [IntKind.wrap, IntKind.bits, IntKind.signed]; omega
    rw [hwl]
    refine ⟨⟨rfl, by omega⟩, ?_⟩
    obtain ⟨m, hm⟩ : ∃ m : Nat, IntKind.wrap .u64 by_ = (m : Int) := ⟨_, (Int.toNat_of_nonneg hwn).symm⟩
    have hk : m % l.length < l.length := Nat.mod_lt _ h0
    have hkk : IntKind.wrap .i64 ((IntKind.wrap .u64 by_).tmod (l.length : Int)) = ((m % l.length : Nat) : Int) := by
      rw [hm, Int.tmod_eq_emod_of_nonneg (by omega), ← Int.natCast_emod, wrap_id (by omega) (by omega)]
    refine lt' hkk ?_
    refine (spec.tree_New_int H1).mono ?_
    rintro e w2 ⟨a, rfl, H2⟩
    refine ⟨_, rfl, (spec.tree_New_string H2).mono ?_⟩
    rintro e w3 ⟨b, rfl, H3⟩
    refine ⟨_, rfl, ?_⟩
    exact turned_L0 hA h1 hk (fun w' H' => ⟨rfl, H'⟩) _ 0 _ _ w3 rfl (Nat.zero_le _) (start_up l _) (start_up l _) (Nat.zero_le _) (Nat.zero_le _) (H3.pull 1 rfl)

section
open Go.ChangeShapes Go.WideShapes
variable {H : Type} {enc : TypeId × Value → H} {P : Program} {base : Nat} {spare : Nat → Bool} {held : Bool}
/-- A slice of strings, opened. -/
theorem open_keys {t e : TypeId} {fuel : Nat} {cs : List Value} {x : DataW H × List MemPlace} (ht : P.underlying t = some (.slice e)) (he : P.underlying e = some .string) (hc : P.cellsOf e = 1)
    (h : DataW.trod enc P w base spare held fuel t cs = some x) :
    ∃ (a : Option Addr) (len cap : Nat) (l : List Key), cs = [.slice a len cap] ∧ l.length = len ∧ StrsRd w a l := by
  rcases open_strings ht he hc h with ⟨rfl, rfl⟩ | ⟨a, len, cap, ss, rfl, hb, hl, hm, hlen, _, hcell, _⟩
  · exact ⟨none, 0, 0, [], rfl, rfl, fun i x hx => by cases hx⟩
  · have hle : len ≤ ss.length := by rw [hlen]; split <;> omega
    refine ⟨some a, len, cap, ss.take len, rfl, by simp; omega, fun i x hx => ⟨a, rfl, ?_⟩⟩
    have hi := (List.getElem?_eq_some_iff.1 hx).1
    simp at hi
    rw [List.getElem?_take_of_lt (by omega)] at hx
    rw [Nat.mul_one, hcell i (by omega), List.getD, hx]; rfl
end

theorem walk.TreeTurned (a : Option Addr) (c : Nat) (l : List Key) (n : Int) (w : World) (hl : StrsRd w a l) : Calls prog f_affluxlaw08_TreeTurned #[.slice a l.length c, .int .i64 n] w fun e w' => e = .returned (.bool true) ∧ Below w.heap.size w w' := by
  refine (main.TreeTurned (strs_of hl) (all_start w)).mono ?_
  rintro e w' ⟨rfl, H⟩
  exact ⟨rfl, all_below H⟩

end Go.Proofs.Ytohhoojcgcbmcaa
