/- The document's example. -/
import Derived.Test.YtohhoojcgcbmcaaLawB
import Derived.Laws.BytesString
set_option maxRecDepth 4000
set_option linter.unusedVariables false
set_option linter.unusedSimpArgs false
namespace Go.Proofs.Ytohhoojcgcbmcaa
open Go Go.Vc Go.Sl Go.Tr Go.Proofs

theorem sLt_str (a b : List UInt8) : sLt (str a) (str b) = Op.bytesLess a b := by
  unfold sLt
  rw [ByteArray.toList_eq, ByteArray.toList_eq]; rfl

theorem run_conv1 {g w : World} {F : List HP} {b : Nat} {n : Int} (H : Sat g w (pt b (.cells #[.int .u8 n] 5 (0, 0)) :: F)) :
    (convert 55 9 (.slice (some ⟨b, 0, none⟩) 1 1)).run prog w = .ok (.string (ByteArray.empty.push (UInt8.ofNat n.toNat))) w := by
  rw [run_convert_bytes_string (e := 5) w 55 9 _ _ _ (by kernel_rfl) (by kernel_rfl) (by kernel_rfl)]
  exact run_bytesToString w _ 1 1 [n] (by
    have := load_run (P := prog) (o := 0) (all := [Value.int .u8 n]) H 1 (by simp)
    simpa using this)

/-- So many of the example's entries. -/
def aw (m : Nat) : List (Key × Int) := (List.range m).map fun i => (ByteArray.empty.push (UInt8.ofNat (97 + i)), (i : Int))

def awT (m : Nat) : Top Int := if m < 6 then ⟨0, aw m⟩ else ⟨1, ([(str [99], 2)], [([(str [97], 0), (str [98], 1)] : List (Key × Int)), ([(str [100], 3), (str [101], 4), (str [102], 5)] : List (Key × Int))])⟩

theorem ins_end {k : Key} {v : Int} {l : List (Key × Int)} (h : ∀ x ∈ l, sLt x.1 k = true) : ins k v l = l ++ [(k, v)] := by
  have := ins_mid (L := l) (M := []) (R := []) (k := k) (v := v) h (by simp)
  have e : ins k v ([] : List (Key × Int)) = [(k, v)] := rfl
  rw [e, List.append_nil, List.append_nil, List.append_nil] at this
  exact this

theorem aw_lt {m : Nat} (hm : m < 6) : ∀ x ∈ aw m, sLt x.1 (ByteArray.empty.push (UInt8.ofNat (97 + m))) = true := by
  intro x hx
  simp only [aw, List.mem_map, List.mem_range] at hx
  obtain ⟨i, hi, rfl⟩ := hx
  have e : ∀ j, ByteArray.empty.push (UInt8.ofNat (97 + j)) = str [UInt8.ofNat (97 + j)] := fun j => rfl
  rw [e, e, sLt_str]
  have : i = 0 ∨ i = 1 ∨ i = 2 ∨ i = 3 ∨ i = 4 := by omega
  have : m = 1 ∨ m = 2 ∨ m = 3 ∨ m = 4 ∨ m = 5 := by omega
  rcases this with rfl | rfl | rfl | rfl | rfl <;> rcases ‹i = 0 ∨ _› with rfl | rfl | rfl | rfl | rfl <;> first | omega | rfl

theorem aw_succ (m : Nat) : aw (m + 1) = aw m ++ [(ByteArray.empty.push (UInt8.ofNat (97 + m)), (m : Int))] := by
  simp [aw, List.range_succ]

theorem awT_succ {m : Nat} (hm : m < 6) : putT (ByteArray.empty.push (UInt8.ofNat (97 + m))) (m : Int) (awT m) = awT (m + 1) := by
  have e : awT m = ⟨0, aw m⟩ := if_pos hm
  have e2 : putP (d := 0) (ByteArray.empty.push (UInt8.ofNat (97 + m))) (m : Int) (aw m) = aw (m + 1) := by
    rw [aw_succ]
    exact ins_end (aw_lt hm)
  have hl : (aw (m + 1)).length = m + 1 := by simp [aw]
  rw [e]
  unfold putT
  dsimp only
  rw [e2]
  by_cases h : m < 5
  · rw [if_neg (show ¬ 5 < (ents (d := 0) (aw (m + 1))).length by show ¬ 5 < (aw (m + 1)).length; omega)]
    exact (if_pos (by omega)).symm
  · obtain rfl : m = 5 := by omega
    rfl

theorem awT_good : ∀ {m : Nat}, m ≤ 6 → Good (awT m)
  | 0, _ => ⟨⟨Nat.le_refl _, by show (0 : Nat) ≤ 5; omega⟩, trivial⟩
  | m + 1, h => by
    rw [← awT_succ (by omega)]
    exact (putT_ok (awT_good (by omega))).1

theorem awT_len {m : Nat} (h : m ≤ 6) : (awT m).all.length < 1000000 := by
  have : m = 0 ∨ m = 1 ∨ m = 2 ∨ m = 3 ∨ m = 4 ∨ m = 5 ∨ m = 6 := by omega
  rcases this with rfl | rfl | rfl | rfl | rfl | rfl | rfl <;> exact Nat.le_of_ble_eq_true rfl

theorem Strs_of {g w : World} {F : List HP} {b : Nat} (ks : List Key) (H : Sat g w (pt b (.cells (ks.map Value.string).toArray 9 (0, 0)) :: F)) : Sat g w (Strs (some ⟨b, 0, none⟩) ks.length ks :: F) := by
  have := H.shut_Sl (all := ks.map Value.string) (l := ks.length) (c := ks.length) (sz := 1) (Nat.le_refl _) (by simp)
  rw [List.take_of_length_le (by simp)] at this
  exact this

theorem awake_L0 {g : World} {F : List HP} {b : Nat} {R : Ending → World → Prop} (hR : ∀ w', Sat g w' (Tree_int b (awT 6) :: F) → L.affluxlaw08_awake_L0 (some ⟨b, 0, none⟩) 6 w' R) :
    ∀ (n m : Nat) (w : World), 6 - m = n → m ≤ 6 → Sat g w (Tree_int b (awT m) :: F) → L.affluxlaw08_awake_L0 (some ⟨b, 0, none⟩) (m : Int) w R := by
  intro n
  induction n with
  | zero =>
    intro m w hd hm H
    obtain rfl : m = 6 := by omega
    exact hR w H
  | succ n ih =>
    intro m w hd hm H
    refine round.affluxlaw08_awake_L0 ?_
    unfold B.affluxlaw08_awake_L0
    refine br_t (decide_eq_true (by omega)) ?_
    refine al H fun a w1 H1 => ?_
    have hv : IntKind.wrap .u8 (IntKind.wrap .i64 ((97 : Int) + (m : Int))) = ((97 + m : Nat) : Int) := by
      have : m = 0 ∨ m = 1 ∨ m = 2 ∨ m = 3 ∨ m = 4 ∨ m = 5 := by omega
      rcases this with rfl | rfl | rfl | rfl | rfl | rfl <;> rfl
    rw [hv] at H1
    refine runR_of (run_conv1 H1) ⟨_, rfl, ?_⟩
    rw [Int.toNat_natCast]
    refine (spec.tree_Tree_int_Put (H1.pull 1 rfl) (awT_good (by omega)) (awT_len (by omega))).mono ?_
    rintro e w2 ⟨rfl, H2⟩
    refine ⟨_, _, rfl, ?_⟩
    rw [awT_succ (by omega)] at H2
    refine lt' (y := ((m + 1 : Nat) : Int)) (by rw [wrap_id (by omega) (by omega)]; omega) ?_
    exact ih (m + 1) w2 (by omega) (by omega) ((H2.pull 1 rfl).drop)

theorem spec.affluxlaw08_awake {g w : World} {F : List HP} (H : Sat g w F) : Calls prog f_affluxlaw08_awake #[] w fun e w' => e = .returned (.bool true) ∧ Sat g w' F := by
  refine ok.affluxlaw08_awake ?_
  unfold V.affluxlaw08_awake
  refine (spec.tree_New_int H).mono ?_
  rintro e w1 ⟨b, rfl, H1⟩
  refine ⟨_, rfl, ?_⟩
  refine awake_L0 (fun w2 H2 => ?_) _ 0 w1 rfl (by omega) H1
  refine round.affluxlaw08_awake_L0 ?_
  unfold B.affluxlaw08_awake_L0
  refine br_f rfl ?_
  refine (spec.tree_Tree_int_Pages H2 (awT_good (by omega)) (by intro h; cases h) (Nat.le_of_ble_eq_true rfl)).mono ?_
  rintro e w3 ⟨p, c, vs, rfl, H3⟩
  refine ⟨_, _, _, rfl, ?_⟩
  refine (spec.tree_Tree_int_Next (H3.pull 2 rfl) (awT_good (by omega))).mono ?_
  rintro e w4 ⟨rfl, H4⟩
  have hnext : nextE (awT 6).all (str [98]) false = some (str [99], 2) := next_succ (es := (awT 6).all) (x := (str [98], 1)) (awT_good (by omega)).2 (j := 1) rfl
  rw [hnext]
  refine ⟨_, _, _, rfl, ?_⟩
  have hlen := StrsV_length (H4.pull 2 rfl)
  have hlen : 3 = vs.length := hlen
  obtain ⟨v0, v1, v2, rfl⟩ : ∃ v0 v1 v2, vs = [v0, v1, v2] := by
    match vs, hlen with
    | [v0, v1, v2], _ => exact ⟨v0, v1, v2, rfl⟩
  have H5 : Sat g w4 (StrsV [[str [99]], [str [97], str [98]], [str [100], str [101], str [102]]] [v0, v1, v2] :: Tree_int b (awT 6) :: Sl 29 1 p 3 c [v0, v1, v2] :: F) := H4.pull 2 rfl
  obtain ⟨p0, c0, rfl, H6⟩ := StrsV_cons H5
  obtain ⟨p1, c1, rfl, H7⟩ := StrsV_cons (H6.pull 1 rfl)
  obtain ⟨p2, c2, rfl, H8⟩ := StrsV_cons (H7.pull 1 rfl)
  have H9 : Sat g w4 (Sl 29 1 p 3 c [.slice p0 1 c0, .slice p1 2 c1, .slice p2 3 c2] :: Strs p0 c0 [str [99]] :: Strs p1 c1 [str [97], str [98]] :: Strs p2 c2 [str [100], str [101], str [102]] :: F) :=
    ((H8.pull 1 rfl).drop.pull 3 rfl).drop.ord [3, 2, 1, 0] rfl rfl rfl
  clear H8 H7 H6 H5 H4 H3
  refine br_t rfl ?_
  obtain ⟨a, rfl, h0⟩ := H9.Sl_cell (i := 0) rfl
  refine ⟨_, rfl, ⟨by decide, by simp⟩, _, _, _, h0, ?_⟩
  refine al H9 fun b5 w5 H10 => ?_
  have H11 := Strs_of [str [99]] H10
  refine (spec.affluxref05_Same (H11.ord [2, 0, 1] rfl rfl rfl) (by simp)).mono ?_
  rintro e w6 ⟨rfl, H12⟩
  refine ⟨_, rfl, br_t (decide_eq_true rfl) ?_⟩
  have H13 := H12.ord [2, 3, 4, 0, 1] rfl rfl rfl
  obtain ⟨a', ha, h1⟩ := H13.Sl_cell (i := 1) rfl
  obtain rfl : a = a' := by have := Option.some.inj ha; simpa using congrArg Addr.block this
  refine ⟨_, rfl, ⟨by decide, by simp⟩, _, _, _, h1, ?_⟩
  refine al H13 fun b7 w7 H14 => ?_
  have H15 := Strs_of [str [97], str [98]] H14
  refine (spec.affluxref05_Same (H15.ord [2, 0, 1] rfl rfl rfl) (by simp)).mono ?_
  rintro e w8 ⟨rfl, H16⟩
  refine ⟨_, rfl, br_t (decide_eq_true rfl) ?_⟩
  have H17 := H16.ord [2, 3, 0, 1] rfl rfl rfl
  obtain ⟨a', ha, h2⟩ := H17.Sl_cell (i := 2) rfl
  obtain rfl : a = a' := by have := Option.some.inj ha; simpa using congrArg Addr.block this
  refine ⟨_, rfl, ⟨by decide, by simp⟩, _, _, _, h2, ?_⟩
  refine al H17 fun b9 w9 H18 => ?_
  have H19 := Strs_of [str [100], str [101], str [102]] H18
  refine (spec.affluxref05_Same (H19.ord [2, 0, 1] rfl rfl rfl) (by simp)).mono ?_
  rintro e w10 ⟨rfl, H20⟩
  refine ⟨_, rfl, br_t (decide_eq_true rfl) (br_t (eq_iff.2 rfl) (br_t rfl ⟨rfl, ?_⟩))⟩
  exact H20.drop.drop.drop.drop.drop.drop.drop

end Go.Proofs.Ytohhoojcgcbmcaa
