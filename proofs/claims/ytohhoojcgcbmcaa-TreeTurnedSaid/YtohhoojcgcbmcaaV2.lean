/- The clean conditions of functions, printed by a program of this work (gen.py) out of the dump. -/
import Derived.Test.YtohhoojcgcbmcaaNamesT
set_option maxRecDepth 4000
set_option linter.unusedVariables false
set_option linter.unusedSimpArgs false
namespace Go.Proofs.Ytohhoojcgcbmcaa
open Go Go.Vc Go.Proofs
set_option linter.unusedVariables false
/-! #### afflux/affluxlaw08.TreeTurned -/
def lv_affluxlaw08_TreeTurned : Nat → List Nat := fun k => match k with | 6 => [0, 5, 6, 7, 8] | 14 => [0, 5, 6, 7, 9] | _ => []
def L.affluxlaw08_TreeTurned_L0 (p0 : Option Addr) (l0 : Nat) (c0 : Nat) (i5 : Int) (p6 : Option Addr) (p7 : Option Addr) (i8 : Int) (w : World) (R : Ending → World → Prop) : Prop :=
 LoopAt prog Try.f4 lv_affluxlaw08_TreeTurned [1, 1, 1, 1, 0, 1, 0] R [(0, .slice p0 l0 c0), (5, .int .i64 i5), (6, .pointer p6), (7, .pointer p7), (8, .int .i64 i8)] w
def L.affluxlaw08_TreeTurned_L1 (p0 : Option Addr) (l0 : Nat) (c0 : Nat) (i5 : Int) (p6 : Option Addr) (p7 : Option Addr) (i9 : Int) (w : World) (R : Ending → World → Prop) : Prop :=
 LoopAt prog Try.f4 lv_affluxlaw08_TreeTurned [1, 1, 1, 1, 1, 1, 0, 1, 0] R [(0, .slice p0 l0 c0), (5, .int .i64 i5), (6, .pointer p6), (7, .pointer p7), (9, .int .i64 i9)] w
def B.affluxlaw08_TreeTurned_L0 (p0 : Option Addr) (l0 : Nat) (c0 : Nat) (i5 : Int) (p6 : Option Addr) (p7 : Option Addr) (i8 : Int) (w : World) (R : Ending → World → Prop) : Prop :=
 Br (decide (i8 < (l0 : Int))) (
  ∃ a41, p0 = some a41 ∧ (0 ≤ i8 ∧ i8 < (l0 : Int)) ∧
  ∃ s42, w.cell? (a41.add (i8.toNat * 1)) = some (.string s42) ∧
  Calls prog f_tree_Tree_int_Put #[.pointer p6, .string s42, .int .i64 i8] w fun e w_1 => ∃ i44 b44, e = .returned (.tuple #[.int .i64 i44, .bool b44]) ∧
  (IntKind.i64 = IntKind.i64 ∧ (l0 : Int) ≠ 0) ∧
  ∃ a53, p0 = some a53 ∧ (0 ≤ ((IntKind.wrap .i64 (i8 + i5)).tmod (l0 : Int)) ∧ ((IntKind.wrap .i64 (i8 + i5)).tmod (l0 : Int)) < (l0 : Int)) ∧
  ∃ s54, w_1.cell? (a53.add (((IntKind.wrap .i64 (i8 + i5)).tmod (l0 : Int)).toNat * 1)) = some (.string s54) ∧
  Calls prog f_tree_Tree_string_Put #[.pointer p7, .string s54, .string (str [120])] w_1 fun e_1 w_2 => ∃ s55 b55, e_1 = .returned (.tuple #[.string s55, .bool b55]) ∧
  ∃ a63, p0 = some a63 ∧ (0 ≤ (IntKind.wrap .i64 ((IntKind.wrap .i64 ((l0 : Int) - (1 : Int))) - i8)) ∧ (IntKind.wrap .i64 ((IntKind.wrap .i64 ((l0 : Int) - (1 : Int))) - i8)) < (l0 : Int)) ∧
  ∃ s64, w_2.cell? (a63.add ((IntKind.wrap .i64 ((IntKind.wrap .i64 ((l0 : Int) - (1 : Int))) - i8)).toNat * 1)) = some (.string s64) ∧
  Calls prog f_tree_Tree_string_Put #[.pointer p7, .string s64, .string (str [121])] w_2 fun e_2 w_3 => ∃ s65 b65, e_2 = .returned (.tuple #[.string s65, .bool b65]) ∧
  Lt ((IntKind.wrap .i64 (i8 + (1 : Int))) : Int) fun i8_1 =>
  L.affluxlaw08_TreeTurned_L0 p0 l0 c0 i5 p6 p7 i8_1 w_3 R
 ) (
  Jn (α := World → Prop) (fun J =>
   Calls prog f_tree_Tree_int_Keys #[.pointer p6, .string (str []), .string (str []), .int .i64 100] w fun e_3 w_5 => ∃ p67 l67 c67, e_3 = .returned (.slice p67 l67 c67) ∧
   Calls prog f_tree_Tree_string_Keys #[.pointer p7, .string (str []), .string (str []), .int .i64 100] w_5 fun e_4 w_6 => ∃ p69 l69 c69, e_4 = .returned (.slice p69 l69 c69) ∧
   Calls prog f_affluxref05_Same #[.slice p67 l67 c67, .slice p69 l69 c69] w_6 fun e_5 w_7 => ∃ b70, e_5 = .returned (.bool b70) ∧
   Br (!b70) (
    Br true (
     R (.returned (.bool false)) w_7
    ) (
     J w_7
    )
   ) (
    Calls prog f_tree_Tree_int_Len #[.pointer p6] w_7 fun e_6 w_8 => ∃ i74, e_6 = .returned (.int .i64 i74) ∧
    Calls prog f_tree_Tree_string_Len #[.pointer p7] w_8 fun e_7 w_9 => ∃ i76, e_7 = .returned (.int .i64 i76) ∧
    Br (i74 != i76) (
     R (.returned (.bool false)) w_9
    ) (
     J w_9
    )
   )
  ) (fun w_4 =>
   L.affluxlaw08_TreeTurned_L1 p0 l0 c0 i5 p6 p7 0 w_4 R
  )
 )
def B.affluxlaw08_TreeTurned_L1 (p0 : Option Addr) (l0 : Nat) (c0 : Nat) (i5 : Int) (p6 : Option Addr) (p7 : Option Addr) (i9 : Int) (w : World) (R : Ending → World → Prop) : Prop :=
 Br (decide (i9 < (l0 : Int))) (
  (IntKind.i64 = IntKind.i64 ∧ (l0 : Int) ≠ 0) ∧
  ∃ a93, p0 = some a93 ∧ (0 ≤ ((IntKind.wrap .i64 (i9 + i5)).tmod (l0 : Int)) ∧ ((IntKind.wrap .i64 (i9 + i5)).tmod (l0 : Int)) < (l0 : Int)) ∧
  ∃ s94, w.cell? (a93.add (((IntKind.wrap .i64 (i9 + i5)).tmod (l0 : Int)).toNat * 1)) = some (.string s94) ∧
  Calls prog f_tree_Tree_int_Delete #[.pointer p6, .string s94] w fun e w_1 => ∃ i95 b95, e = .returned (.tuple #[.int .i64 i95, .bool b95]) ∧
  ∃ a99, p0 = some a99 ∧ (0 ≤ i9 ∧ i9 < (l0 : Int)) ∧
  ∃ s100, w_1.cell? (a99.add (i9.toNat * 1)) = some (.string s100) ∧
  Calls prog f_tree_Tree_string_Delete #[.pointer p7, .string s100] w_1 fun e_1 w_2 => ∃ s101 b101, e_1 = .returned (.tuple #[.string s101, .bool b101]) ∧
  Lt ((IntKind.wrap .i64 (i9 + (1 : Int))) : Int) fun i9_1 =>
  L.affluxlaw08_TreeTurned_L1 p0 l0 c0 i5 p6 p7 i9_1 w_2 R
 ) (
  Calls prog f_tree_Tree_int_Len #[.pointer p6] w fun e_2 w_3 => ∃ i103, e_2 = .returned (.int .i64 i103) ∧
  Br (i103 == (0 : Int)) (
   Calls prog f_tree_Tree_string_Len #[.pointer p7] w_3 fun e_3 w_4 => ∃ i107, e_3 = .returned (.int .i64 i107) ∧
   Br (i107 == (0 : Int)) (
    Calls prog f_tree_Tree_int_Depth #[.pointer p6] w_4 fun e_4 w_5 => ∃ i112, e_4 = .returned (.int .i64 i112) ∧
    Br (i112 == (0 : Int)) (
     Calls prog f_tree_Tree_string_Pages #[.pointer p7] w_5 fun e_5 w_6 => ∃ p117 l117 c117, e_5 = .returned (.slice p117 l117 c117) ∧
     R (.returned (.bool ((l117 : Int) == (0 : Int)))) w_6
    ) (
     R (.returned (.bool false)) w_5
    )
   ) (
    Br false (
     Calls prog f_tree_Tree_string_Pages #[.pointer p7] w_4 fun e_6 w_7 => ∃ p117_1 l117_1 c117_1, e_6 = .returned (.slice p117_1 l117_1 c117_1) ∧
     R (.returned (.bool ((l117_1 : Int) == (0 : Int)))) w_7
    ) (
     R (.returned (.bool false)) w_4
    )
   )
  ) (
   Br false (
    Calls prog f_tree_Tree_int_Depth #[.pointer p6] w_3 fun e_7 w_8 => ∃ i112_1, e_7 = .returned (.int .i64 i112_1) ∧
    Br (i112_1 == (0 : Int)) (
     Calls prog f_tree_Tree_string_Pages #[.pointer p7] w_8 fun e_8 w_9 => ∃ p117_2 l117_2 c117_2, e_8 = .returned (.slice p117_2 l117_2 c117_2) ∧
     R (.returned (.bool ((l117_2 : Int) == (0 : Int)))) w_9
    ) (
     R (.returned (.bool false)) w_8
    )
   ) (
    Br false (
     Calls prog f_tree_Tree_string_Pages #[.pointer p7] w_3 fun e_9 w_10 => ∃ p117_3 l117_3 c117_3, e_9 = .returned (.slice p117_3 l117_3 c117_3) ∧
     R (.returned (.bool ((l117_3 : Int) == (0 : Int)))) w_10
    ) (
     R (.returned (.bool false)) w_3
    )
   )
  )
 )
def V.affluxlaw08_TreeTurned (px0 : Option Addr) (lx0 : Nat) (cx0 : Nat) (ix1 : Int) (w : World) (R : Ending → World → Prop) : Prop :=
 Jn (α := World → Prop) (fun J =>
  Br ((lx0 : Int) == (0 : Int)) (
   Br true (
    Br true (
     Calls prog f_affluxlaw08_awake #[] w fun e w_2 => ∃ b22, e = .returned (.bool b22) ∧
     R (.returned (.bool b22)) w_2
    ) (
     J w
    )
   ) (
    Calls prog f_affluxlaw08_awake #[] w fun e_1 w_3 => ∃ b19, e_1 = .returned (.bool b19) ∧
    Br (!b19) (
     Calls prog f_affluxlaw08_awake #[] w_3 fun e_2 w_4 => ∃ b22_1, e_2 = .returned (.bool b22_1) ∧
     R (.returned (.bool b22_1)) w_4
    ) (
     J w_3
    )
   )
  ) (
   Br (decide ((lx0 : Int) > (100 : Int))) (
    Br true (
     Calls prog f_affluxlaw08_awake #[] w fun e_3 w_5 => ∃ b22_2, e_3 = .returned (.bool b22_2) ∧
     R (.returned (.bool b22_2)) w_5
    ) (
     J w
    )
   ) (
    Calls prog f_affluxlaw08_awake #[] w fun e_4 w_6 => ∃ b19_1, e_4 = .returned (.bool b19_1) ∧
    Br (!b19_1) (
     Calls prog f_affluxlaw08_awake #[] w_6 fun e_5 w_7 => ∃ b22_3, e_5 = .returned (.bool b22_3) ∧
     R (.returned (.bool b22_3)) w_7
    ) (
     J w_6
    )
   )
  )
 ) (fun w_1 =>
  (IntKind.u64 = IntKind.u64 ∧ (IntKind.wrap .u64 (lx0 : Int)) ≠ 0) ∧
  Lt ((IntKind.wrap .i64 ((IntKind.wrap .u64 ix1).tmod (IntKind.wrap .u64 (lx0 : Int)))) : Int) fun i5 =>
  Calls prog f_tree_New_int #[] w_1 fun e_6 w_8 => ∃ p30, e_6 = .returned (.pointer p30) ∧
  Calls prog f_tree_New_string #[] w_8 fun e_7 w_9 => ∃ p31, e_7 = .returned (.pointer p31) ∧
  L.affluxlaw08_TreeTurned_L0 px0 lx0 cx0 i5 p30 p31 0 w_9 R
 )
theorem eqB.affluxlaw08_TreeTurned_L0 (p0 : Option Addr) (l0 : Nat) (c0 : Nat) (i5 : Int) (p6 : Option Addr) (p7 : Option Addr) (i8 : Int) (w : World) (R : Ending → World → Prop) : RoundAt prog Try.f4 lv_affluxlaw08_TreeTurned [1, 1, 1, 1, 0, 1, 0] R [(0, .slice p0 l0 c0), (5, .int .i64 i5), (6, .pointer p6), (7, .pointer p7), (8, .int .i64 i8)] w = B.affluxlaw08_TreeTurned_L0 p0 l0 c0 i5 p6 p7 i8 w R := by kernel_rfl
theorem round.affluxlaw08_TreeTurned_L0 {p0 : Option Addr} {l0 : Nat} {c0 : Nat} {i5 : Int} {p6 : Option Addr} {p7 : Option Addr} {i8 : Int} {w : World} {R : Ending → World → Prop} (h : B.affluxlaw08_TreeTurned_L0 p0 l0 c0 i5 p6 p7 i8 w R) : L.affluxlaw08_TreeTurned_L0 p0 l0 c0 i5 p6 p7 i8 w R := LoopAt.unfold mix (cast (eqB.affluxlaw08_TreeTurned_L0 p0 l0 c0 i5 p6 p7 i8 w R).symm h)
theorem eqB.affluxlaw08_TreeTurned_L1 (p0 : Option Addr) (l0 : Nat) (c0 : Nat) (i5 : Int) (p6 : Option Addr) (p7 : Option Addr) (i9 : Int) (w : World) (R : Ending → World → Prop) : RoundAt prog Try.f4 lv_affluxlaw08_TreeTurned [1, 1, 1, 1, 1, 1, 0, 1, 0] R [(0, .slice p0 l0 c0), (5, .int .i64 i5), (6, .pointer p6), (7, .pointer p7), (9, .int .i64 i9)] w = B.affluxlaw08_TreeTurned_L1 p0 l0 c0 i5 p6 p7 i9 w R := by kernel_rfl
theorem round.affluxlaw08_TreeTurned_L1 {p0 : Option Addr} {l0 : Nat} {c0 : Nat} {i5 : Int} {p6 : Option Addr} {p7 : Option Addr} {i9 : Int} {w : World} {R : Ending → World → Prop} (h : B.affluxlaw08_TreeTurned_L1 p0 l0 c0 i5 p6 p7 i9 w R) : L.affluxlaw08_TreeTurned_L1 p0 l0 c0 i5 p6 p7 i9 w R := LoopAt.unfold mix (cast (eqB.affluxlaw08_TreeTurned_L1 p0 l0 c0 i5 p6 p7 i9 w R).symm h)
theorem eqV.affluxlaw08_TreeTurned (px0 : Option Addr) (lx0 : Nat) (cx0 : Nat) (ix1 : Int) (w : World) (R : Ending → World → Prop) : vcFn prog Try.f4 lv_affluxlaw08_TreeTurned [.slice px0 lx0 cx0, .int .i64 ix1] w R = V.affluxlaw08_TreeTurned px0 lx0 cx0 ix1 w R := by kernel_rfl
theorem ok.affluxlaw08_TreeTurned {px0 : Option Addr} {lx0 : Nat} {cx0 : Nat} {ix1 : Int} {w : World} {R : Ending → World → Prop} (h : V.affluxlaw08_TreeTurned px0 lx0 cx0 ix1 w R) : Calls prog f_affluxlaw08_TreeTurned #[.slice px0 lx0 cx0, .int .i64 ix1] w R := calls_of mix lv_affluxlaw08_TreeTurned Try.func4 (by rw [Try.ntmps4]; exact Nat.le_of_ble_eq_true rfl) (cast (eqV.affluxlaw08_TreeTurned px0 lx0 cx0 ix1 w R).symm h)
/-! #### afflux/tree.New[string] -/
def lv_tree_New_string : Nat → List Nat := fun _ => []
def V.tree_New_string (w : World) (R : Ending → World → Prop) : Prop :=
 Al w (.cells #[.slice none 0 0, .slice none 0 0] 75) fun a2 w_1 =>
 Al w_1 (.cells #[.pointer (some a2), .int .i64 0] 77) fun a4 w_2 =>
 R (.returned (.pointer (some a4))) w_2
theorem eqV.tree_New_string (w : World) (R : Ending → World → Prop) : vcFn prog Try.f14 lv_tree_New_string [] w R = V.tree_New_string w R := by kernel_rfl
theorem ok.tree_New_string {w : World} {R : Ending → World → Prop} (h : V.tree_New_string w R) : Calls prog f_tree_New_string #[] w R := calls_of mix lv_tree_New_string Try.func14 (by rw [Try.ntmps14]; exact Nat.le_of_ble_eq_true rfl) (cast (eqV.tree_New_string w R).symm h)
/-! #### (*afflux/tree.Tree[string]).Put -/
def lv_tree_Tree_string_Put : Nat → List Nat := fun _ => []
def V.tree_Tree_string_Put (px0 : Option Addr) (sx1 : ByteArray) (sx2 : ByteArray) (w : World) (R : Ending → World → Prop) : Prop :=
 Br (px0.isNone) (
  R (.returned (.tuple #[.string (str []), .bool false])) w
 ) (
  ∃ a16, px0 = some a16 ∧
  ∃ p18, w.cell? a16 = some (.pointer p18) ∧
  Calls prog f_tree_page_string_put #[.pointer p18, .string sx1, .string sx2] w fun e w_1 => ∃ s21 b21, e = .returned (.tuple #[.string s21, .bool b21]) ∧
  Jn (α := World → Prop) (fun J =>
   ∃ a25, px0 = some a25 ∧
   ∃ p27, w_1.cell? a25 = some (.pointer p27) ∧
   ∃ a28, p27 = some a28 ∧
   ∃ p31 l31 c31, w_1.cell? a28 = some (.slice p31 l31 c31) ∧
   Br (decide ((l31 : Int) > (5 : Int))) (
    ∃ a36, px0 = some a36 ∧
    ∃ p38, w_1.cell? a36 = some (.pointer p38) ∧
    Al w_1 (.cells #[.pointer p38] 69) fun a39 w_3 =>
    Al w_3 (.cells #[.slice none 0 0, .slice (some a39) 1 1] 75) fun a41 w_4 =>
    ∃ a42, px0 = some a42 ∧
    St w_4 a42 (.pointer (some a41)) fun w_5 =>
    ∃ a45, px0 = some a45 ∧
    ∃ p47, w_5.cell? a45 = some (.pointer p47) ∧
    Calls prog f_tree_page_string_split #[.pointer p47, .int .i64 0] w_5 fun e_1 w_6 => e_1 = .returned (.tuple #[]) ∧
    J w_6
   ) (
    J w_1
   )
  ) (fun w_2 =>
   Br (!b21) (
    ∃ a52, px0 = some a52 ∧
    ∃ i54, w_2.cell? (a52.add 1) = some (.int .i64 i54) ∧
    ∃ a56, px0 = some a56 ∧
    St w_2 (a56.add 1) (.int .i64 (IntKind.wrap .i64 (i54 + (1 : Int)))) fun w_7 =>
    R (.returned (.tuple #[.string s21, .bool b21])) w_7
   ) (
    R (.returned (.tuple #[.string s21, .bool b21])) w_2
   )
  )
 )
theorem eqV.tree_Tree_string_Put (px0 : Option Addr) (sx1 : ByteArray) (sx2 : ByteArray) (w : World) (R : Ending → World → Prop) : vcFn prog Try.f16 lv_tree_Tree_string_Put [.pointer px0, .string sx1, .string sx2] w R = V.tree_Tree_string_Put px0 sx1 sx2 w R := by kernel_rfl
theorem ok.tree_Tree_string_Put {px0 : Option Addr} {sx1 : ByteArray} {sx2 : ByteArray} {w : World} {R : Ending → World → Prop} (h : V.tree_Tree_string_Put px0 sx1 sx2 w R) : Calls prog f_tree_Tree_string_Put #[.pointer px0, .string sx1, .string sx2] w R := calls_of mix lv_tree_Tree_string_Put Try.func16 (by rw [Try.ntmps16]; exact Nat.le_of_ble_eq_true rfl) (cast (eqV.tree_Tree_string_Put px0 sx1 sx2 w R).symm h)
/-! #### (*afflux/tree.Tree[string]).Keys -/
def lv_tree_Tree_string_Keys : Nat → List Nat := fun k => match k with | 3 => [0, 2, 3, 9, 10, 12] | _ => []
def L.tree_Tree_string_Keys_L0 (p0 : Option Addr) (s2 : ByteArray) (i3 : Int) (p9 : Option Addr) (l9 : Nat) (c9 : Nat) (s10 : ByteArray) (b12 : Bool) (w : World) (R : Ending → World → Prop) : Prop :=
 LoopAt prog Try.f17 lv_tree_Tree_string_Keys [1, 1, 1, 0, 0] R [(0, .pointer p0), (2, .string s2), (3, .int .i64 i3), (9, .slice p9 l9 c9), (10, .string s10), (12, .bool b12)] w
def B.tree_Tree_string_Keys_L0 (p0 : Option Addr) (s2 : ByteArray) (i3 : Int) (p9 : Option Addr) (l9 : Nat) (c9 : Nat) (s10 : ByteArray) (b12 : Bool) (w : World) (R : Ending → World → Prop) : Prop :=
 Jn (α := Prop) (fun J =>
  Br b12 (
   Br (decide ((l9 : Int) < i3)) (
    Br (sEq s2 (str [])) (
     Br true (
      J
     ) (
      R (.returned (.slice p9 l9 c9)) w
     )
    ) (
     Br (sLt s10 s2) (
      J
     ) (
      R (.returned (.slice p9 l9 c9)) w
     )
    )
   ) (
    Br false (
     J
    ) (
     R (.returned (.slice p9 l9 c9)) w
    )
   )
  ) (
   Br false (
    Br (sEq s2 (str [])) (
     Br true (
      J
     ) (
      R (.returned (.slice p9 l9 c9)) w
     )
    ) (
     Br (sLt s10 s2) (
      J
     ) (
      R (.returned (.slice p9 l9 c9)) w
     )
    )
   ) (
    Br false (
     J
    ) (
     R (.returned (.slice p9 l9 c9)) w
    )
   )
  )
 ) (
  Al w (.cells #[.string s10] 9) fun a38 w_1 =>
  Run prog (Builtin.append_ #[29, 29] 29 #[.slice p9 l9 c9, .slice (some a38) 1 1]) w_1 fun v39 w_2 => ∃ p39 l39 c39, v39 = .slice p39 l39 c39 ∧
  Calls prog f_tree_Tree_string_Next #[.pointer p0, .string s10, .bool false] w_2 fun e w_3 => ∃ s43 s43_1 b43, e = .returned (.tuple #[.string s43, .string s43_1, .bool b43]) ∧
  L.tree_Tree_string_Keys_L0 p0 s2 i3 p39 l39 c39 s43 b43 w_3 R
 )
def V.tree_Tree_string_Keys (px0 : Option Addr) (sx1 : ByteArray) (sx2 : ByteArray) (ix3 : Int) (w : World) (R : Ending → World → Prop) : Prop :=
 Calls prog f_tree_Tree_string_Next #[.pointer px0, .string sx1, .bool true] w fun e w_1 => ∃ s16 s16_1 b16, e = .returned (.tuple #[.string s16, .string s16_1, .bool b16]) ∧
 L.tree_Tree_string_Keys_L0 px0 sx2 ix3 none 0 0 s16 b16 w_1 R
theorem eqB.tree_Tree_string_Keys_L0 (p0 : Option Addr) (s2 : ByteArray) (i3 : Int) (p9 : Option Addr) (l9 : Nat) (c9 : Nat) (s10 : ByteArray) (b12 : Bool) (w : World) (R : Ending → World → Prop) : RoundAt prog Try.f17 lv_tree_Tree_string_Keys [1, 1, 1, 0, 0] R [(0, .pointer p0), (2, .string s2), (3, .int .i64 i3), (9, .slice p9 l9 c9), (10, .string s10), (12, .bool b12)] w = B.tree_Tree_string_Keys_L0 p0 s2 i3 p9 l9 c9 s10 b12 w R := by kernel_rfl
theorem round.tree_Tree_string_Keys_L0 {p0 : Option Addr} {s2 : ByteArray} {i3 : Int} {p9 : Option Addr} {l9 : Nat} {c9 : Nat} {s10 : ByteArray} {b12 : Bool} {w : World} {R : Ending → World → Prop} (h : B.tree_Tree_string_Keys_L0 p0 s2 i3 p9 l9 c9 s10 b12 w R) : L.tree_Tree_string_Keys_L0 p0 s2 i3 p9 l9 c9 s10 b12 w R := LoopAt.unfold mix (cast (eqB.tree_Tree_string_Keys_L0 p0 s2 i3 p9 l9 c9 s10 b12 w R).symm h)
theorem eqV.tree_Tree_string_Keys (px0 : Option Addr) (sx1 : ByteArray) (sx2 : ByteArray) (ix3 : Int) (w : World) (R : Ending → World → Prop) : vcFn prog Try.f17 lv_tree_Tree_string_Keys [.pointer px0, .string sx1, .string sx2, .int .i64 ix3] w R = V.tree_Tree_string_Keys px0 sx1 sx2 ix3 w R := by kernel_rfl
theorem ok.tree_Tree_string_Keys {px0 : Option Addr} {sx1 : ByteArray} {sx2 : ByteArray} {ix3 : Int} {w : World} {R : Ending → World → Prop} (h : V.tree_Tree_string_Keys px0 sx1 sx2 ix3 w R) : Calls prog f_tree_Tree_string_Keys #[.pointer px0, .string sx1, .string sx2, .int .i64 ix3] w R := calls_of mix lv_tree_Tree_string_Keys Try.func17 (by rw [Try.ntmps17]; exact Nat.le_of_ble_eq_true rfl) (cast (eqV.tree_Tree_string_Keys px0 sx1 sx2 ix3 w R).symm h)
/-! #### (*afflux/tree.Tree[string]).Len -/
def lv_tree_Tree_string_Len : Nat → List Nat := fun _ => []
def V.tree_Tree_string_Len (px0 : Option Addr) (w : World) (R : Ending → World → Prop) : Prop :=
 Br (px0.isNone) (
  R (.returned (.int .i64 0)) w
 ) (
  ∃ a6, px0 = some a6 ∧
  ∃ i8, w.cell? (a6.add 1) = some (.int .i64 i8) ∧
  R (.returned (.int .i64 i8)) w
 )
theorem eqV.tree_Tree_string_Len (px0 : Option Addr) (w : World) (R : Ending → World → Prop) : vcFn prog Try.f19 lv_tree_Tree_string_Len [.pointer px0] w R = V.tree_Tree_string_Len px0 w R := by kernel_rfl
theorem ok.tree_Tree_string_Len {px0 : Option Addr} {w : World} {R : Ending → World → Prop} (h : V.tree_Tree_string_Len px0 w R) : Calls prog f_tree_Tree_string_Len #[.pointer px0] w R := calls_of mix lv_tree_Tree_string_Len Try.func19 (by rw [Try.ntmps19]; exact Nat.le_of_ble_eq_true rfl) (cast (eqV.tree_Tree_string_Len px0 w R).symm h)
/-! #### (*afflux/tree.Tree[string]).Delete -/
def lv_tree_Tree_string_Delete : Nat → List Nat := fun _ => []
def V.tree_Tree_string_Delete (px0 : Option Addr) (sx1 : ByteArray) (w : World) (R : Ending → World → Prop) : Prop :=
 Br (px0.isNone) (
  R (.returned (.tuple #[.string (str []), .bool false])) w
 ) (
  ∃ a14, px0 = some a14 ∧
  ∃ p16, w.cell? a14 = some (.pointer p16) ∧
  Calls prog f_tree_page_string_drop #[.pointer p16, .string sx1] w fun e w_1 => ∃ s18 b18, e = .returned (.tuple #[.string s18, .bool b18]) ∧
  Jn (α := World → Prop) (fun J =>
   Br b18 (
    ∃ a23, px0 = some a23 ∧
    ∃ i25, w_1.cell? (a23.add 1) = some (.int .i64 i25) ∧
    ∃ a27, px0 = some a27 ∧
    St w_1 (a27.add 1) (.int .i64 (IntKind.wrap .i64 (i25 - (1 : Int)))) fun w_3 =>
    J w_3
   ) (
    J w_1
   )
  ) (fun w_2 =>
   Jn (α := Bool → World → Prop) (fun J_1 =>
    ∃ a30, px0 = some a30 ∧
    ∃ p32, w_2.cell? a30 = some (.pointer p32) ∧
    ∃ a33, p32 = some a33 ∧
    ∃ p36 l36 c36, w_2.cell? a33 = some (.slice p36 l36 c36) ∧
    Br ((l36 : Int) == (0 : Int)) (
     ∃ a41, px0 = some a41 ∧
     ∃ p43, w_2.cell? a41 = some (.pointer p43) ∧
     Calls prog f_tree_page_string_leaf #[.pointer p43] w_2 fun e_1 w_5 => ∃ b44, e_1 = .returned (.bool b44) ∧
     J_1 (!b44) w_5
    ) (
     J_1 false w_2
    )
   ) (fun b46 w_4 =>
    Br b46 (
     ∃ a49, px0 = some a49 ∧
     ∃ p51, w_4.cell? a49 = some (.pointer p51) ∧
     ∃ a52, p51 = some a52 ∧
     ∃ p54 l54 c54, w_4.cell? (a52.add 1) = some (.slice p54 l54 c54) ∧
     ∃ a55, p54 = some a55 ∧ (0 ≤ (0 : Int) ∧ (0 : Int) < (l54 : Int)) ∧
     ∃ p56, w_4.cell? (a55.add ((0 : Int).toNat * 1)) = some (.pointer p56) ∧
     ∃ a57, px0 = some a57 ∧
     St w_4 a57 (.pointer p56) fun w_6 =>
     R (.returned (.tuple #[.string s18, .bool b18])) w_6
    ) (
     R (.returned (.tuple #[.string s18, .bool b18])) w_4
    )
   )
  )
 )
theorem eqV.tree_Tree_string_Delete (px0 : Option Addr) (sx1 : ByteArray) (w : World) (R : Ending → World → Prop) : vcFn prog Try.f21 lv_tree_Tree_string_Delete [.pointer px0, .string sx1] w R = V.tree_Tree_string_Delete px0 sx1 w R := by kernel_rfl
theorem ok.tree_Tree_string_Delete {px0 : Option Addr} {sx1 : ByteArray} {w : World} {R : Ending → World → Prop} (h : V.tree_Tree_string_Delete px0 sx1 w R) : Calls prog f_tree_Tree_string_Delete #[.pointer px0, .string sx1] w R := calls_of mix lv_tree_Tree_string_Delete Try.func21 (by rw [Try.ntmps21]; exact Nat.le_of_ble_eq_true rfl) (cast (eqV.tree_Tree_string_Delete px0 sx1 w R).symm h)
/-! #### (*afflux/tree.Tree[string]).Pages -/
def lv_tree_Tree_string_Pages : Nat → List Nat := fun _ => []
def V.tree_Tree_string_Pages (px0 : Option Addr) (w : World) (R : Ending → World → Prop) : Prop :=
 Calls prog f_tree_Tree_string_Len #[.pointer px0] w fun e w_1 => ∃ i4, e = .returned (.int .i64 i4) ∧
 Br (i4 == (0 : Int)) (
  R (.returned (.slice none 0 0)) w_1
 ) (
  ∃ a7, px0 = some a7 ∧
  ∃ p9, w_1.cell? a7 = some (.pointer p9) ∧
  Calls prog f_tree_page_string_pages #[.pointer p9, .slice none 0 0] w_1 fun e_1 w_2 => ∃ p10 l10 c10, e_1 = .returned (.slice p10 l10 c10) ∧
  R (.returned (.slice p10 l10 c10)) w_2
 )
theorem eqV.tree_Tree_string_Pages (px0 : Option Addr) (w : World) (R : Ending → World → Prop) : vcFn prog Try.f23 lv_tree_Tree_string_Pages [.pointer px0] w R = V.tree_Tree_string_Pages px0 w R := by kernel_rfl
theorem ok.tree_Tree_string_Pages {px0 : Option Addr} {w : World} {R : Ending → World → Prop} (h : V.tree_Tree_string_Pages px0 w R) : Calls prog f_tree_Tree_string_Pages #[.pointer px0] w R := calls_of mix lv_tree_Tree_string_Pages Try.func23 (by rw [Try.ntmps23]; exact Nat.le_of_ble_eq_true rfl) (cast (eqV.tree_Tree_string_Pages px0 w R).symm h)
/-! #### (*afflux/tree.page[string]).put -/
def lv_tree_page_string_put : Nat → List Nat := fun _ => []
def V.tree_page_string_put (px0 : Option Addr) (sx1 : ByteArray) (sx2 : ByteArray) (w : World) (R : Ending → World → Prop) : Prop :=
 ∃ a15, px0 = some a15 ∧
 Calls prog f_tree_shelf_string_find #[.pointer (some a15), .string sx1] w fun e w_1 => ∃ i18 b18, e = .returned (.tuple #[.int .i64 i18, .bool b18]) ∧
 Br b18 (
  Dr w_1 fun w_2 =>
  ∃ a24, px0 = some a24 ∧
  ∃ a30, px0 = some a30 ∧
  ∃ p27 l27 c27, w_2.cell? a24 = some (.slice p27 l27 c27) ∧
  ∃ p33 l33 c33, w_2.cell? a30 = some (.slice p33 l33 c33) ∧
  ∃ a35, p33 = some a35 ∧ (0 ≤ i18 ∧ i18 < (l33 : Int)) ∧
  ∃ s37, w_2.cell? ((a35.add (i18.toNat * 2)).add 1) = some (.string s37) ∧
  ∃ a39, p27 = some a39 ∧ (0 ≤ i18 ∧ i18 < (l27 : Int)) ∧
  St w_2 ((a39.add (i18.toNat * 2)).add 1) (.string sx2) fun w_3 =>
  R (.returned (.tuple #[.string s37, .bool true])) w_3
 ) (
  Calls prog f_tree_page_string_leaf #[.pointer px0] w_1 fun e_1 w_4 => ∃ b44, e_1 = .returned (.bool b44) ∧
  Br b44 (
   ∃ a46, px0 = some a46 ∧
   Calls prog f_tree_shelf_string_insert #[.pointer (some a46), .int .i64 i18, .agg #[.string sx1, .string sx2]] w_4 fun e_2 w_5 => e_2 = .returned (.tuple #[]) ∧
   R (.returned (.tuple #[.string (str []), .bool false])) w_5
  ) (
   ∃ a56, px0 = some a56 ∧
   ∃ p58 l58 c58, w_4.cell? (a56.add 1) = some (.slice p58 l58 c58) ∧
   ∃ a60, p58 = some a60 ∧ (0 ≤ i18 ∧ i18 < (l58 : Int)) ∧
   ∃ p61, w_4.cell? (a60.add (i18.toNat * 1)) = some (.pointer p61) ∧
   Calls prog f_tree_page_string_put #[.pointer p61, .string sx1, .string sx2] w_4 fun e_3 w_6 => ∃ s64 b64, e_3 = .returned (.tuple #[.string s64, .bool b64]) ∧
   ∃ a68, px0 = some a68 ∧
   ∃ p70 l70 c70, w_6.cell? (a68.add 1) = some (.slice p70 l70 c70) ∧
   ∃ a72, p70 = some a72 ∧ (0 ≤ i18 ∧ i18 < (l70 : Int)) ∧
   ∃ p73, w_6.cell? (a72.add (i18.toNat * 1)) = some (.pointer p73) ∧
   ∃ a74, p73 = some a74 ∧
   ∃ p77 l77 c77, w_6.cell? a74 = some (.slice p77 l77 c77) ∧
   Br (decide ((l77 : Int) > (5 : Int))) (
    Calls prog f_tree_page_string_split #[.pointer px0, .int .i64 i18] w_6 fun e_4 w_7 => e_4 = .returned (.tuple #[]) ∧
    R (.returned (.tuple #[.string s64, .bool b64])) w_7
   ) (
    R (.returned (.tuple #[.string s64, .bool b64])) w_6
   )
  )
 )
theorem eqV.tree_page_string_put (px0 : Option Addr) (sx1 : ByteArray) (sx2 : ByteArray) (w : World) (R : Ending → World → Prop) : vcFn prog Try.f31 lv_tree_page_string_put [.pointer px0, .string sx1, .string sx2] w R = V.tree_page_string_put px0 sx1 sx2 w R := by kernel_rfl
theorem ok.tree_page_string_put {px0 : Option Addr} {sx1 : ByteArray} {sx2 : ByteArray} {w : World} {R : Ending → World → Prop} (h : V.tree_page_string_put px0 sx1 sx2 w R) : Calls prog f_tree_page_string_put #[.pointer px0, .string sx1, .string sx2] w R := calls_of mix lv_tree_page_string_put Try.func31 (by rw [Try.ntmps31]; exact Nat.le_of_ble_eq_true rfl) (cast (eqV.tree_page_string_put px0 sx1 sx2 w R).symm h)
/-! #### (*afflux/tree.page[string]).split -/
def lv_tree_page_string_split : Nat → List Nat := fun _ => []
def V.tree_page_string_split (px0 : Option Addr) (ix1 : Int) (w : World) (R : Ending → World → Prop) : Prop :=
 ∃ a8, px0 = some a8 ∧
 ∃ p10 l10 c10, w.cell? (a8.add 1) = some (.slice p10 l10 c10) ∧
 ∃ a12, p10 = some a12 ∧ (0 ≤ ix1 ∧ ix1 < (l10 : Int)) ∧
 ∃ p13, w.cell? (a12.add (ix1.toNat * 1)) = some (.pointer p13) ∧
 ∃ a15, p13 = some a15 ∧
 ∃ p18 l18 c18, w.cell? a15 = some (.slice p18 l18 c18) ∧
 SlB l18 c18 (some (IntKind.wrap .i64 ((2 : Int) + (1 : Int)))) none none fun lo21 hi21 mx21 =>
 Calls prog f_slices_Clone_tree_entry_string #[.slice (slAt p18 lo21 mx21 2) (hi21 - lo21) (mx21 - lo21)] w fun e w_1 => ∃ p22 l22 c22, e = .returned (.slice p22 l22 c22) ∧
 Al w_1 (.cells #[.slice p22 l22 c22, .slice none 0 0] 75) fun a25 w_2 =>
 Jn (α := World → Prop) (fun J =>
  Calls prog f_tree_page_string_leaf #[.pointer p13] w_2 fun e_1 w_4 => ∃ b27, e_1 = .returned (.bool b27) ∧
  Br (!b27) (
   ∃ a31, p13 = some a31 ∧
   ∃ p33 l33 c33, w_4.cell? (a31.add 1) = some (.slice p33 l33 c33) ∧
   SlB l33 c33 (some (IntKind.wrap .i64 ((2 : Int) + (1 : Int)))) none none fun lo36 hi36 mx36 =>
   Calls prog f_slices_Clone_ptr_tree_page_string #[.slice (slAt p33 lo36 mx36 1) (hi36 - lo36) (mx36 - lo36)] w_4 fun e_2 w_5 => ∃ p37 l37 c37, e_2 = .returned (.slice p37 l37 c37) ∧
   ∃ a38, (some a25) = some a38 ∧
   St w_5 (a38.add 1) (.slice p37 l37 c37) fun w_6 =>
   ∃ a42, p13 = some a42 ∧
   ∃ p44 l44 c44, w_6.cell? (a42.add 1) = some (.slice p44 l44 c44) ∧
   SlB l44 c44 none (some (IntKind.wrap .i64 ((2 : Int) + (1 : Int)))) (some (IntKind.wrap .i64 ((2 : Int) + (1 : Int)))) fun lo49 hi49 mx49 =>
   ∃ a50, p13 = some a50 ∧
   St w_6 (a50.add 1) (.slice (slAt p44 lo49 mx49 1) (hi49 - lo49) (mx49 - lo49)) fun w_7 =>
   J w_7
  ) (
   J w_4
  )
 ) (fun w_3 =>
  Dr w_3 fun w_8 =>
  ∃ a53, px0 = some a53 ∧
  ∃ a57, p13 = some a57 ∧
  ∃ p60 l60 c60, w_8.cell? a57 = some (.slice p60 l60 c60) ∧
  ∃ a62, p60 = some a62 ∧ (0 ≤ (2 : Int) ∧ (2 : Int) < (l60 : Int)) ∧
  ∃ s63, w_8.cell? (a62.add ((2 : Int).toNat * 2)) = some (.string s63) ∧
  ∃ s63_1, w_8.cell? ((a62.add ((2 : Int).toNat * 2)).add 1) = some (.string s63_1) ∧
  Calls prog f_tree_shelf_string_insert #[.pointer (some a53), .int .i64 ix1, .agg #[.string s63, .string s63_1]] w_8 fun e_3 w_9 => e_3 = .returned (.tuple #[]) ∧
  ∃ a67, px0 = some a67 ∧
  ∃ p69 l69 c69, w_9.cell? (a67.add 1) = some (.slice p69 l69 c69) ∧
  Al w_9 (.cells #[.pointer (some a25)] 69) fun a73 w_10 =>
  Calls prog f_slices_Insert_ptr_tree_page_string #[.slice p69 l69 c69, .int .i64 (IntKind.wrap .i64 (ix1 + (1 : Int))), .slice (some a73) 1 1] w_10 fun e_4 w_11 => ∃ p74 l74 c74, e_4 = .returned (.slice p74 l74 c74) ∧
  ∃ a75, px0 = some a75 ∧
  St w_11 (a75.add 1) (.slice p74 l74 c74) fun w_12 =>
  ∃ a79, p13 = some a79 ∧
  ∃ p82 l82 c82, w_12.cell? a79 = some (.slice p82 l82 c82) ∧
  SlB l82 c82 none (some 2) (some 2) fun lo85 hi85 mx85 =>
  ∃ a86, p13 = some a86 ∧
  St w_12 a86 (.slice (slAt p82 lo85 mx85 2) (hi85 - lo85) (mx85 - lo85)) fun w_13 =>
  R (.returned (.tuple #[])) w_13
 )
theorem eqV.tree_page_string_split (px0 : Option Addr) (ix1 : Int) (w : World) (R : Ending → World → Prop) : vcFn prog Try.f32 lv_tree_page_string_split [.pointer px0, .int .i64 ix1] w R = V.tree_page_string_split px0 ix1 w R := by kernel_rfl
theorem ok.tree_page_string_split {px0 : Option Addr} {ix1 : Int} {w : World} {R : Ending → World → Prop} (h : V.tree_page_string_split px0 ix1 w R) : Calls prog f_tree_page_string_split #[.pointer px0, .int .i64 ix1] w R := calls_of mix lv_tree_page_string_split Try.func32 (by rw [Try.ntmps32]; exact Nat.le_of_ble_eq_true rfl) (cast (eqV.tree_page_string_split px0 ix1 w R).symm h)
/-! #### (*afflux/tree.Tree[string]).Next -/
def lv_tree_Tree_string_Next : Nat → List Nat := fun k => match k with | 4 => [1, 2, 9, 10] | _ => []
def L.tree_Tree_string_Next_L0 (s1 : ByteArray) (b2 : Bool) (p9 : Option Addr) (p10 : Option Addr) (w : World) (R : Ending → World → Prop) : Prop :=
 LoopAt prog Try.f33 lv_tree_Tree_string_Next [1, 1, 0, 1, 0, 1, 0] R [(1, .string s1), (2, .bool b2), (9, .pointer p9), (10, .pointer p10)] w
def B.tree_Tree_string_Next_L0 (s1 : ByteArray) (b2 : Bool) (p9 : Option Addr) (p10 : Option Addr) (w : World) (R : Ending → World → Prop) : Prop :=
 Br (!p10.isNone) (
  ∃ a23, p10 = some a23 ∧
  Calls prog f_tree_shelf_string_find #[.pointer (some a23), .string s1] w fun e w_1 => ∃ i26 b26, e = .returned (.tuple #[.int .i64 i26, .bool b26]) ∧
  Jn (α := Prop) (fun J =>
   Jn (α := Bool → Prop) (fun J_1 =>
    Br b26 (
     J_1 b2
    ) (
     J_1 false
    )
   ) (fun b32 =>
    Br b32 (
     ∃ a34, p10 = some a34 ∧
     ∃ p37 l37 c37, w_1.cell? a34 = some (.slice p37 l37 c37) ∧
     ∃ a39, p37 = some a39 ∧ (0 ≤ i26 ∧ i26 < (l37 : Int)) ∧
     Calls prog f_tree_told_string #[.pointer (some (a39.add (i26.toNat * 2)))] w_1 fun e_1 w_2 => ∃ s40 s40_1 b40, e_1 = .returned (.tuple #[.string s40, .string s40_1, .bool b40]) ∧
     R (.returned (.tuple #[.string s40, .string s40_1, .bool b40])) w_2
    ) (
     J
    )
   )
  ) (
   Jn (α := Int → Prop) (fun J_2 =>
    Br b26 (
     Lt ((IntKind.wrap .i64 (i26 + (1 : Int))) : Int) fun i11_1 =>
     J_2 i11_1
    ) (
     J_2 i26
    )
   ) (fun i11 =>
    ∃ a49, p10 = some a49 ∧
    ∃ p52 l52 c52, w_1.cell? a49 = some (.slice p52 l52 c52) ∧
    Br (decide (i11 < (l52 : Int))) (
     ∃ a56, p10 = some a56 ∧
     ∃ p59 l59 c59, w_1.cell? a56 = some (.slice p59 l59 c59) ∧
     ∃ a61, p59 = some a61 ∧ (0 ≤ i11 ∧ i11 < (l59 : Int)) ∧
     Calls prog f_tree_page_string_child #[.pointer p10, .int .i64 i11] w_1 fun e_2 w_3 => ∃ p64, e_2 = .returned (.pointer p64) ∧
     L.tree_Tree_string_Next_L0 s1 b2 (some (a61.add (i11.toNat * 2))) p64 w_3 R
    ) (
     Calls prog f_tree_page_string_child #[.pointer p10, .int .i64 i11] w_1 fun e_3 w_4 => ∃ p64_1, e_3 = .returned (.pointer p64_1) ∧
     L.tree_Tree_string_Next_L0 s1 b2 p9 p64_1 w_4 R
    )
   )
  )
 ) (
  Calls prog f_tree_told_string #[.pointer p9] w fun e_4 w_5 => ∃ s66 s66_1 b66, e_4 = .returned (.tuple #[.string s66, .string s66_1, .bool b66]) ∧
  R (.returned (.tuple #[.string s66, .string s66_1, .bool b66])) w_5
 )
def V.tree_Tree_string_Next (px0 : Option Addr) (sx1 : ByteArray) (bx2 : Bool) (w : World) (R : Ending → World → Prop) : Prop :=
 Br (!px0.isNone) (
  ∃ a16, px0 = some a16 ∧
  ∃ p18, w.cell? a16 = some (.pointer p18) ∧
  L.tree_Tree_string_Next_L0 sx1 bx2 none p18 w R
 ) (
  Calls prog f_tree_told_string #[.pointer none] w fun e w_1 => ∃ s66 s66_1 b66, e = .returned (.tuple #[.string s66, .string s66_1, .bool b66]) ∧
  R (.returned (.tuple #[.string s66, .string s66_1, .bool b66])) w_1
 )
theorem eqB.tree_Tree_string_Next_L0 (s1 : ByteArray) (b2 : Bool) (p9 : Option Addr) (p10 : Option Addr) (w : World) (R : Ending → World → Prop) : RoundAt prog Try.f33 lv_tree_Tree_string_Next [1, 1, 0, 1, 0, 1, 0] R [(1, .string s1), (2, .bool b2), (9, .pointer p9), (10, .pointer p10)] w = B.tree_Tree_string_Next_L0 s1 b2 p9 p10 w R := by kernel_rfl
theorem round.tree_Tree_string_Next_L0 {s1 : ByteArray} {b2 : Bool} {p9 : Option Addr} {p10 : Option Addr} {w : World} {R : Ending → World → Prop} (h : B.tree_Tree_string_Next_L0 s1 b2 p9 p10 w R) : L.tree_Tree_string_Next_L0 s1 b2 p9 p10 w R := LoopAt.unfold mix (cast (eqB.tree_Tree_string_Next_L0 s1 b2 p9 p10 w R).symm h)
theorem eqV.tree_Tree_string_Next (px0 : Option Addr) (sx1 : ByteArray) (bx2 : Bool) (w : World) (R : Ending → World → Prop) : vcFn prog Try.f33 lv_tree_Tree_string_Next [.pointer px0, .string sx1, .bool bx2] w R = V.tree_Tree_string_Next px0 sx1 bx2 w R := by kernel_rfl
theorem ok.tree_Tree_string_Next {px0 : Option Addr} {sx1 : ByteArray} {bx2 : Bool} {w : World} {R : Ending → World → Prop} (h : V.tree_Tree_string_Next px0 sx1 bx2 w R) : Calls prog f_tree_Tree_string_Next #[.pointer px0, .string sx1, .bool bx2] w R := calls_of mix lv_tree_Tree_string_Next Try.func33 (by rw [Try.ntmps33]; exact Nat.le_of_ble_eq_true rfl) (cast (eqV.tree_Tree_string_Next px0 sx1 bx2 w R).symm h)
/-! #### (*afflux/tree.page[string]).drop -/
def lv_tree_page_string_drop : Nat → List Nat := fun _ => []
def V.tree_page_string_drop (px0 : Option Addr) (sx1 : ByteArray) (w : World) (R : Ending → World → Prop) : Prop :=
 ∃ a11, px0 = some a11 ∧
 Calls prog f_tree_shelf_string_find #[.pointer (some a11), .string sx1] w fun e w_1 => ∃ i14 b14, e = .returned (.tuple #[.int .i64 i14, .bool b14]) ∧
 Jn (α := Bool → World → Prop) (fun J =>
  Calls prog f_tree_page_string_leaf #[.pointer px0] w_1 fun e_1 w_3 => ∃ b31, e_1 = .returned (.bool b31) ∧
  Br b31 (
   J (!b14) w_3
  ) (
   J false w_3
  )
 ) (fun b29 w_2 =>
  Br b29 (
   R (.returned (.tuple #[.string (str []), .bool false])) w_2
  ) (
   Calls prog f_tree_page_string_leaf #[.pointer px0] w_2 fun e_2 w_4 => ∃ b39, e_2 = .returned (.bool b39) ∧
   Br b39 (
    ∃ a41, px0 = some a41 ∧
    Calls prog f_tree_shelf_string_remove #[.pointer (some a41), .int .i64 i14] w_4 fun e_3 w_5 => ∃ s44 s44_1, e_3 = .returned (.agg #[.string s44, .string s44_1]) ∧
    R (.returned (.tuple #[.string s44_1, .bool true])) w_5
   ) (
    Br b14 (
     ∃ a49, px0 = some a49 ∧
     ∃ p52 l52 c52, w_4.cell? a49 = some (.slice p52 l52 c52) ∧
     ∃ a54, p52 = some a54 ∧ (0 ≤ i14 ∧ i14 < (l52 : Int)) ∧
     ∃ s56, w_4.cell? ((a54.add (i14.toNat * 2)).add 1) = some (.string s56) ∧
     Dr w_4 fun w_6 =>
     ∃ a58, px0 = some a58 ∧
     ∃ a64, px0 = some a64 ∧
     ∃ p66 l66 c66, w_6.cell? (a64.add 1) = some (.slice p66 l66 c66) ∧
     ∃ a68, p66 = some a68 ∧ (0 ≤ i14 ∧ i14 < (l66 : Int)) ∧
     ∃ p69, w_6.cell? (a68.add (i14.toNat * 1)) = some (.pointer p69) ∧
     (
      ∃ p61 l61 c61, w_6.cell? a58 = some (.slice p61 l61 c61) ∧
      Calls prog f_tree_page_string_last #[.pointer p69] w_6 fun e_4 w_7 => ∃ s70 s70_1, e_4 = .returned (.agg #[.string s70, .string s70_1]) ∧
      ∃ a71, p61 = some a71 ∧ (0 ≤ i14 ∧ i14 < (l61 : Int)) ∧
      St w_7 (a71.add (i14.toNat * 2)) (.string s70) fun w_8 =>
      St w_8 ((a71.add (i14.toNat * 2)).add 1) (.string s70_1) fun w_9 =>
      Calls prog f_tree_page_string_mend #[.pointer px0, .int .i64 i14] w_9 fun e_5 w_10 => e_5 = .returned (.tuple #[]) ∧
      R (.returned (.tuple #[.string s56, .bool b14])) w_10
     ) ∧
     (
      Calls prog f_tree_page_string_last #[.pointer p69] w_6 fun e_6 w_11 => ∃ s70_2 s70_3, e_6 = .returned (.agg #[.string s70_2, .string s70_3]) ∧
      ∃ p61_1 l61_1 c61_1, w_11.cell? a58 = some (.slice p61_1 l61_1 c61_1) ∧
      ∃ a71_1, p61_1 = some a71_1 ∧ (0 ≤ i14 ∧ i14 < (l61_1 : Int)) ∧
      St w_11 (a71_1.add (i14.toNat * 2)) (.string s70_2) fun w_12 =>
      St w_12 ((a71_1.add (i14.toNat * 2)).add 1) (.string s70_3) fun w_13 =>
      Calls prog f_tree_page_string_mend #[.pointer px0, .int .i64 i14] w_13 fun e_7 w_14 => e_7 = .returned (.tuple #[]) ∧
      R (.returned (.tuple #[.string s56, .bool b14])) w_14
     )
    ) (
     ∃ a19, px0 = some a19 ∧
     ∃ p21 l21 c21, w_4.cell? (a19.add 1) = some (.slice p21 l21 c21) ∧
     ∃ a23, p21 = some a23 ∧ (0 ≤ i14 ∧ i14 < (l21 : Int)) ∧
     ∃ p24, w_4.cell? (a23.add (i14.toNat * 1)) = some (.pointer p24) ∧
     Calls prog f_tree_page_string_drop #[.pointer p24, .string sx1] w_4 fun e_8 w_15 => ∃ s26 b26, e_8 = .returned (.tuple #[.string s26, .bool b26]) ∧
     Calls prog f_tree_page_string_mend #[.pointer px0, .int .i64 i14] w_15 fun e_9 w_16 => e_9 = .returned (.tuple #[]) ∧
     R (.returned (.tuple #[.string s26, .bool b26])) w_16
    )
   )
  )
 )
theorem eqV.tree_page_string_drop (px0 : Option Addr) (sx1 : ByteArray) (w : World) (R : Ending → World → Prop) : vcFn prog Try.f36 lv_tree_page_string_drop [.pointer px0, .string sx1] w R = V.tree_page_string_drop px0 sx1 w R := by kernel_rfl
theorem ok.tree_page_string_drop {px0 : Option Addr} {sx1 : ByteArray} {w : World} {R : Ending → World → Prop} (h : V.tree_page_string_drop px0 sx1 w R) : Calls prog f_tree_page_string_drop #[.pointer px0, .string sx1] w R := calls_of mix lv_tree_page_string_drop Try.func36 (by rw [Try.ntmps36]; exact Nat.le_of_ble_eq_true rfl) (cast (eqV.tree_page_string_drop px0 sx1 w R).symm h)
/-! #### (*afflux/tree.page[string]).leaf -/
def lv_tree_page_string_leaf : Nat → List Nat := fun _ => []
def V.tree_page_string_leaf (px0 : Option Addr) (w : World) (R : Ending → World → Prop) : Prop :=
 ∃ a4, px0 = some a4 ∧
 ∃ p6 l6 c6, w.cell? (a4.add 1) = some (.slice p6 l6 c6) ∧
 R (.returned (.bool ((l6 : Int) == (0 : Int)))) w
theorem eqV.tree_page_string_leaf (px0 : Option Addr) (w : World) (R : Ending → World → Prop) : vcFn prog Try.f37 lv_tree_page_string_leaf [.pointer px0] w R = V.tree_page_string_leaf px0 w R := by kernel_rfl
theorem ok.tree_page_string_leaf {px0 : Option Addr} {w : World} {R : Ending → World → Prop} (h : V.tree_page_string_leaf px0 w R) : Calls prog f_tree_page_string_leaf #[.pointer px0] w R := calls_of mix lv_tree_page_string_leaf Try.func37 (by rw [Try.ntmps37]; exact Nat.le_of_ble_eq_true rfl) (cast (eqV.tree_page_string_leaf px0 w R).symm h)
/-! #### (*afflux/tree.page[string]).pages -/
def lv_tree_page_string_pages : Nat → List Nat := fun k => match k with | 3 => [0, 1, 5, 14, 15, 16] | 9 => [1, 33, 34, 35] | _ => []
def L.tree_page_string_pages_L0 (p0 : Option Addr) (p1 : Option Addr) (l1 : Nat) (c1 : Nat) (p5 : Option Addr) (l5 : Nat) (c5 : Nat) (p14 : Option Addr) (l14 : Nat) (c14 : Nat) (i15 : Int) (i16 : Int) (w : World) (R : Ending → World → Prop) : Prop :=
 LoopAt prog Try.f38 lv_tree_page_string_pages [1, 1, 0, 1, 0] R [(0, .pointer p0), (1, .slice p1 l1 c1), (5, .slice p5 l5 c5), (14, .slice p14 l14 c14), (15, .int .i64 i15), (16, .int .i64 i16)] w
def L.tree_page_string_pages_L1 (p1 : Option Addr) (l1 : Nat) (c1 : Nat) (p33 : Option Addr) (l33 : Nat) (c33 : Nat) (i34 : Int) (i35 : Int) (w : World) (R : Ending → World → Prop) : Prop :=
 LoopAt prog Try.f38 lv_tree_page_string_pages [1, 1, 1, 1, 0, 1, 0] R [(1, .slice p1 l1 c1), (33, .slice p33 l33 c33), (34, .int .i64 i34), (35, .int .i64 i35)] w
def B.tree_page_string_pages_L0 (p0 : Option Addr) (p1 : Option Addr) (l1 : Nat) (c1 : Nat) (p5 : Option Addr) (l5 : Nat) (c5 : Nat) (p14 : Option Addr) (l14 : Nat) (c14 : Nat) (i15 : Int) (i16 : Int) (w : World) (R : Ending → World → Prop) : Prop :=
 Br (decide (i16 < i15)) (
  ∃ a18, p14 = some a18 ∧ (0 ≤ i16 ∧ i16 < (l14 : Int)) ∧
  ∃ s19, w.cell? (a18.add (i16.toNat * 2)) = some (.string s19) ∧
  ∃ s19_1, w.cell? ((a18.add (i16.toNat * 2)).add 1) = some (.string s19_1) ∧
  Al w (.cells #[.string (str []), .string (str [])] 94) fun a7 w_1 =>
  St w_1 a7 (.string s19) fun w_2 =>
  St w_2 (a7.add 1) (.string s19_1) fun w_3 =>
  ∃ s22, w_3.cell? a7 = some (.string s22) ∧
  Al w_3 (.cells #[.string s22] 9) fun a23 w_4 =>
  Run prog (Builtin.append_ #[29, 29] 29 #[.slice p5 l5 c5, .slice (some a23) 1 1]) w_4 fun v24 w_5 => ∃ p24 l24 c24, v24 = .slice p24 l24 c24 ∧
  L.tree_page_string_pages_L0 p0 p1 l1 c1 p24 l24 c24 p14 l14 c14 i15 (IntKind.wrap .i64 (i16 + (1 : Int))) w_5 R
 ) (
  Al w (.cells #[.slice p5 l5 c5] 29) fun a28 w_6 =>
  Run prog (Builtin.append_ #[47, 47] 47 #[.slice p1 l1 c1, .slice (some a28) 1 1]) w_6 fun v29 w_7 => ∃ p29 l29 c29, v29 = .slice p29 l29 c29 ∧
  ∃ a31, p0 = some a31 ∧
  ∃ p33 l33 c33, w_7.cell? (a31.add 1) = some (.slice p33 l33 c33) ∧
  L.tree_page_string_pages_L1 p29 l29 c29 p33 l33 c33 (l33 : Int) 0 w_7 R
 )
def B.tree_page_string_pages_L1 (p1 : Option Addr) (l1 : Nat) (c1 : Nat) (p33 : Option Addr) (l33 : Nat) (c33 : Nat) (i34 : Int) (i35 : Int) (w : World) (R : Ending → World → Prop) : Prop :=
 Br (decide (i35 < i34)) (
  ∃ a37, p33 = some a37 ∧ (0 ≤ i35 ∧ i35 < (l33 : Int)) ∧
  ∃ p38, w.cell? (a37.add (i35.toNat * 1)) = some (.pointer p38) ∧
  Calls prog f_tree_page_string_pages #[.pointer p38, .slice p1 l1 c1] w fun e w_1 => ∃ p41 l41 c41, e = .returned (.slice p41 l41 c41) ∧
  L.tree_page_string_pages_L1 p41 l41 c41 p33 l33 c33 i34 (IntKind.wrap .i64 (i35 + (1 : Int))) w_1 R
 ) (
  R (.returned (.slice p1 l1 c1)) w
 )
def V.tree_page_string_pages (px0 : Option Addr) (px1 : Option Addr) (lx1 : Nat) (cx1 : Nat) (w : World) (R : Ending → World → Prop) : Prop :=
 ∃ a11, px0 = some a11 ∧
 ∃ p14 l14 c14, w.cell? a11 = some (.slice p14 l14 c14) ∧
 L.tree_page_string_pages_L0 px0 px1 lx1 cx1 none 0 0 p14 l14 c14 (l14 : Int) 0 w R
theorem eqB.tree_page_string_pages_L0 (p0 : Option Addr) (p1 : Option Addr) (l1 : Nat) (c1 : Nat) (p5 : Option Addr) (l5 : Nat) (c5 : Nat) (p14 : Option Addr) (l14 : Nat) (c14 : Nat) (i15 : Int) (i16 : Int) (w : World) (R : Ending → World → Prop) : RoundAt prog Try.f38 lv_tree_page_string_pages [1, 1, 0, 1, 0] R [(0, .pointer p0), (1, .slice p1 l1 c1), (5, .slice p5 l5 c5), (14, .slice p14 l14 c14), (15, .int .i64 i15), (16, .int .i64 i16)] w = B.tree_page_string_pages_L0 p0 p1 l1 c1 p5 l5 c5 p14 l14 c14 i15 i16 w R := by kernel_rfl
theorem round.tree_page_string_pages_L0 {p0 : Option Addr} {p1 : Option Addr} {l1 : Nat} {c1 : Nat} {p5 : Option Addr} {l5 : Nat} {c5 : Nat} {p14 : Option Addr} {l14 : Nat} {c14 : Nat} {i15 : Int} {i16 : Int} {w : World} {R : Ending → World → Prop} (h : B.tree_page_string_pages_L0 p0 p1 l1 c1 p5 l5 c5 p14 l14 c14 i15 i16 w R) : L.tree_page_string_pages_L0 p0 p1 l1 c1 p5 l5 c5 p14 l14 c14 i15 i16 w R := LoopAt.unfold mix (cast (eqB.tree_page_string_pages_L0 p0 p1 l1 c1 p5 l5 c5 p14 l14 c14 i15 i16 w R).symm h)
theorem eqB.tree_page_string_pages_L1 (p1 : Option Addr) (l1 : Nat) (c1 : Nat) (p33 : Option Addr) (l33 : Nat) (c33 : Nat) (i34 : Int) (i35 : Int) (w : World) (R : Ending → World → Prop) : RoundAt prog Try.f38 lv_tree_page_string_pages [1, 1, 1, 1, 0, 1, 0] R [(1, .slice p1 l1 c1), (33, .slice p33 l33 c33), (34, .int .i64 i34), (35, .int .i64 i35)] w = B.tree_page_string_pages_L1 p1 l1 c1 p33 l33 c33 i34 i35 w R := by kernel_rfl
theorem round.tree_page_string_pages_L1 {p1 : Option Addr} {l1 : Nat} {c1 : Nat} {p33 : Option Addr} {l33 : Nat} {c33 : Nat} {i34 : Int} {i35 : Int} {w : World} {R : Ending → World → Prop} (h : B.tree_page_string_pages_L1 p1 l1 c1 p33 l33 c33 i34 i35 w R) : L.tree_page_string_pages_L1 p1 l1 c1 p33 l33 c33 i34 i35 w R := LoopAt.unfold mix (cast (eqB.tree_page_string_pages_L1 p1 l1 c1 p33 l33 c33 i34 i35 w R).symm h)
theorem eqV.tree_page_string_pages (px0 : Option Addr) (px1 : Option Addr) (lx1 : Nat) (cx1 : Nat) (w : World) (R : Ending → World → Prop) : vcFn prog Try.f38 lv_tree_page_string_pages [.pointer px0, .slice px1 lx1 cx1] w R = V.tree_page_string_pages px0 px1 lx1 cx1 w R := by kernel_rfl
theorem ok.tree_page_string_pages {px0 : Option Addr} {px1 : Option Addr} {lx1 : Nat} {cx1 : Nat} {w : World} {R : Ending → World → Prop} (h : V.tree_page_string_pages px0 px1 lx1 cx1 w R) : Calls prog f_tree_page_string_pages #[.pointer px0, .slice px1 lx1 cx1] w R := calls_of mix lv_tree_page_string_pages Try.func38 (by rw [Try.ntmps38]; exact Nat.le_of_ble_eq_true rfl) (cast (eqV.tree_page_string_pages px0 px1 lx1 cx1 w R).symm h)
/-! #### (*afflux/tree.shelf[string]).find -/
def lv_tree_shelf_string_find : Nat → List Nat := fun _ => []
def V.tree_shelf_string_find (px0 : Option Addr) (sx1 : ByteArray) (w : World) (R : Ending → World → Prop) : Prop :=
 ∃ a7, px0 = some a7 ∧
 ∃ p9 l9 c9, w.cell? a7 = some (.slice p9 l9 c9) ∧
 Calls prog f_slices_BinarySearchFunc_string_69 #[.slice p9 l9 c9, .string sx1, .func (.func f_tree_shelf_string_find_fn1) #[] #[]] w fun e w_1 => ∃ i11 b11, e = .returned (.tuple #[.int .i64 i11, .bool b11]) ∧
 R (.returned (.tuple #[.int .i64 i11, .bool b11])) w_1
theorem eqV.tree_shelf_string_find (px0 : Option Addr) (sx1 : ByteArray) (w : World) (R : Ending → World → Prop) : vcFn prog Try.f51 lv_tree_shelf_string_find [.pointer px0, .string sx1] w R = V.tree_shelf_string_find px0 sx1 w R := by kernel_rfl
theorem ok.tree_shelf_string_find {px0 : Option Addr} {sx1 : ByteArray} {w : World} {R : Ending → World → Prop} (h : V.tree_shelf_string_find px0 sx1 w R) : Calls prog f_tree_shelf_string_find #[.pointer px0, .string sx1] w R := calls_of mix lv_tree_shelf_string_find Try.func51 (by rw [Try.ntmps51]; exact Nat.le_of_ble_eq_true rfl) (cast (eqV.tree_shelf_string_find px0 sx1 w R).symm h)
/-! #### (*afflux/tree.shelf[string]).insert -/
def lv_tree_shelf_string_insert : Nat → List Nat := fun _ => []
def V.tree_shelf_string_insert (px0 : Option Addr) (ix1 : Int) (sx2 : ByteArray) (sx2_1 : ByteArray) (w : World) (R : Ending → World → Prop) : Prop :=
 Al w (.cells #[.string sx2, .string sx2_1] 94) fun a5 w_1 =>
 Dr w_1 fun w_2 =>
 ∃ a8, px0 = some a8 ∧
 ∃ p10 l10 c10, w_2.cell? a8 = some (.slice p10 l10 c10) ∧
 ∃ s12, w_2.cell? a5 = some (.string s12) ∧
 ∃ s12_1, w_2.cell? (a5.add 1) = some (.string s12_1) ∧
 Al w_2 (.cells #[.string s12, .string s12_1] 94) fun a13 w_3 =>
 Calls prog f_slices_Insert_tree_entry_string #[.slice p10 l10 c10, .int .i64 ix1, .slice (some a13) 1 1] w_3 fun e w_4 => ∃ p14 l14 c14, e = .returned (.slice p14 l14 c14) ∧
 ∃ a15, px0 = some a15 ∧
 St w_4 a15 (.slice p14 l14 c14) fun w_5 =>
 R (.returned (.tuple #[])) w_5
theorem eqV.tree_shelf_string_insert (px0 : Option Addr) (ix1 : Int) (sx2 : ByteArray) (sx2_1 : ByteArray) (w : World) (R : Ending → World → Prop) : vcFn prog Try.f52 lv_tree_shelf_string_insert [.pointer px0, .int .i64 ix1, .agg #[.string sx2, .string sx2_1]] w R = V.tree_shelf_string_insert px0 ix1 sx2 sx2_1 w R := by kernel_rfl
theorem ok.tree_shelf_string_insert {px0 : Option Addr} {ix1 : Int} {sx2 : ByteArray} {sx2_1 : ByteArray} {w : World} {R : Ending → World → Prop} (h : V.tree_shelf_string_insert px0 ix1 sx2 sx2_1 w R) : Calls prog f_tree_shelf_string_insert #[.pointer px0, .int .i64 ix1, .agg #[.string sx2, .string sx2_1]] w R := calls_of mix lv_tree_shelf_string_insert Try.func52 (by rw [Try.ntmps52]; exact Nat.le_of_ble_eq_true rfl) (cast (eqV.tree_shelf_string_insert px0 ix1 sx2 sx2_1 w R).symm h)
/-! #### slices.Clone[[]afflux/tree.entry[string],afflux/tree.entry[string]] -/
def lv_slices_Clone_tree_entry_string : Nat → List Nat := fun _ => []
def V.slices_Clone_tree_entry_string (px0 : Option Addr) (lx0 : Nat) (cx0 : Nat) (w : World) (R : Ending → World → Prop) : Prop :=
 Br (px0.isNone) (
  R (.returned (.slice none 0 0)) w
 ) (
  Al w (.cells #[] 94) fun a5 w_1 =>
  Run prog (Builtin.append_ #[70, 70] 70 #[.slice (some a5) 0 0, .slice px0 lx0 cx0]) w_1 fun v7 w_2 => ∃ p7 l7 c7, v7 = .slice p7 l7 c7 ∧
  R (.returned (.slice p7 l7 c7)) w_2
 )
theorem eqV.slices_Clone_tree_entry_string (px0 : Option Addr) (lx0 : Nat) (cx0 : Nat) (w : World) (R : Ending → World → Prop) : vcFn prog Try.f53 lv_slices_Clone_tree_entry_string [.slice px0 lx0 cx0] w R = V.slices_Clone_tree_entry_string px0 lx0 cx0 w R := by kernel_rfl
theorem ok.slices_Clone_tree_entry_string {px0 : Option Addr} {lx0 : Nat} {cx0 : Nat} {w : World} {R : Ending → World → Prop} (h : V.slices_Clone_tree_entry_string px0 lx0 cx0 w R) : Calls prog f_slices_Clone_tree_entry_string #[.slice px0 lx0 cx0] w R := calls_of mix lv_slices_Clone_tree_entry_string Try.func53 (by rw [Try.ntmps53]; exact Nat.le_of_ble_eq_true rfl) (cast (eqV.slices_Clone_tree_entry_string px0 lx0 cx0 w R).symm h)
/-! #### slices.Clone[[]*afflux/tree.page[string],*afflux/tree.page[string]] -/
def lv_slices_Clone_ptr_tree_page_string : Nat → List Nat := fun _ => []
def V.slices_Clone_ptr_tree_page_string (px0 : Option Addr) (lx0 : Nat) (cx0 : Nat) (w : World) (R : Ending → World → Prop) : Prop :=
 Br (px0.isNone) (
  R (.returned (.slice none 0 0)) w
 ) (
  Al w (.cells #[] 69) fun a5 w_1 =>
  Run prog (Builtin.append_ #[73, 73] 73 #[.slice (some a5) 0 0, .slice px0 lx0 cx0]) w_1 fun v7 w_2 => ∃ p7 l7 c7, v7 = .slice p7 l7 c7 ∧
  R (.returned (.slice p7 l7 c7)) w_2
 )
theorem eqV.slices_Clone_ptr_tree_page_string (px0 : Option Addr) (lx0 : Nat) (cx0 : Nat) (w : World) (R : Ending → World → Prop) : vcFn prog Try.f54 lv_slices_Clone_ptr_tree_page_string [.slice px0 lx0 cx0] w R = V.slices_Clone_ptr_tree_page_string px0 lx0 cx0 w R := by kernel_rfl
theorem ok.slices_Clone_ptr_tree_page_string {px0 : Option Addr} {lx0 : Nat} {cx0 : Nat} {w : World} {R : Ending → World → Prop} (h : V.slices_Clone_ptr_tree_page_string px0 lx0 cx0 w R) : Calls prog f_slices_Clone_ptr_tree_page_string #[.slice px0 lx0 cx0] w R := calls_of mix lv_slices_Clone_ptr_tree_page_string Try.func54 (by rw [Try.ntmps54]; exact Nat.le_of_ble_eq_true rfl) (cast (eqV.slices_Clone_ptr_tree_page_string px0 lx0 cx0 w R).symm h)
/-! #### slices.Insert[[]*afflux/tree.page[string],*afflux/tree.page[string]] -/
def lv_slices_Insert_ptr_tree_page_string : Nat → List Nat := fun _ => []
def V.slices_Insert_ptr_tree_page_string (px0 : Option Addr) (lx0 : Nat) (cx0 : Nat) (ix1 : Int) (px2 : Option Addr) (lx2 : Nat) (cx2 : Nat) (w : World) (R : Ending → World → Prop) : Prop :=
 SlB lx0 cx0 (some ix1) none none fun lo12 hi12 mx12 =>
 Br ((lx2 : Int) == (0 : Int)) (
  R (.returned (.slice px0 lx0 cx0)) w
 ) (
  Br (ix1 == (lx0 : Int)) (
   Run prog (Builtin.append_ #[73, 73] 73 #[.slice px0 lx0 cx0, .slice px2 lx2 cx2]) w fun v25 w_1 => ∃ p25 l25 c25, v25 = .slice p25 l25 c25 ∧
   R (.returned (.slice p25 l25 c25)) w_1
  ) (
   Br (decide ((IntKind.wrap .i64 ((lx0 : Int) + (lx2 : Int))) > (cx0 : Int))) (
    SlB lx0 cx0 none (some ix1) none fun lo34 hi34 mx34 =>
    Run prog (Builtin.append_ #[73, 3] 73 #[.slice (slAt px0 lo34 mx34 1) (hi34 - lo34) (mx34 - lo34), .int .i64 (IntKind.wrap .i64 ((IntKind.wrap .i64 ((lx0 : Int) + (lx2 : Int))) - ix1))]) w fun v40 w_2 => ∃ p40 l40 c40, v40 = .slice p40 l40 c40 ∧
    SlB l40 c40 (some ix1) none none fun lo43 hi43 mx43 =>
    Run prog (Builtin.copy_ #[73, 73] 3 #[.slice (slAt p40 lo43 mx43 1) (hi43 - lo43) (mx43 - lo43), .slice px2 lx2 cx2]) w_2 fun v45 w_3 => ∃ i45, v45 = .int .i64 i45 ∧
    Dr w_3 fun w_4 =>
    SlB l40 c40 (some (IntKind.wrap .i64 (ix1 + (lx2 : Int)))) none none fun lo50 hi50 mx50 =>
    SlB lx0 cx0 (some ix1) none none fun lo53 hi53 mx53 =>
    Run prog (Builtin.copy_ #[73, 73] 3 #[.slice (slAt p40 lo50 mx50 1) (hi50 - lo50) (mx50 - lo50), .slice (slAt px0 lo53 mx53 1) (hi53 - lo53) (mx53 - lo53)]) w_4 fun v54 w_5 => ∃ i54, v54 = .int .i64 i54 ∧
    R (.returned (.slice p40 l40 c40)) w_5
   ) (
    SlB lx0 cx0 none (some (IntKind.wrap .i64 ((lx0 : Int) + (lx2 : Int)))) none fun lo60 hi60 mx60 =>
    SlB (hi60 - lo60) (mx60 - lo60) (some (IntKind.wrap .i64 (ix1 + (lx2 : Int)))) none none fun lo66 hi66 mx66 =>
    Ext prog f_slices_overlaps_ptr_tree_page_string #[.slice px2 lx2 cx2, .slice (slAt (slAt px0 lo60 mx60 1) lo66 mx66 1) (hi66 - lo66) (mx66 - lo66)] w fun v67 w_6 => ∃ b67, v67 = .bool b67 ∧
    Br (!b67) (
     Dr w_6 fun w_7 =>
     SlB (hi60 - lo60) (mx60 - lo60) (some (IntKind.wrap .i64 (ix1 + (lx2 : Int)))) none none fun lo73 hi73 mx73 =>
     SlB (hi60 - lo60) (mx60 - lo60) (some ix1) none none fun lo76 hi76 mx76 =>
     Run prog (Builtin.copy_ #[73, 73] 3 #[.slice (slAt (slAt px0 lo60 mx60 1) lo73 mx73 1) (hi73 - lo73) (mx73 - lo73), .slice (slAt (slAt px0 lo60 mx60 1) lo76 mx76 1) (hi76 - lo76) (mx76 - lo76)]) w_7 fun v77 w_8 => ∃ i77, v77 = .int .i64 i77 ∧
     SlB (hi60 - lo60) (mx60 - lo60) (some ix1) none none fun lo80 hi80 mx80 =>
     Run prog (Builtin.copy_ #[73, 73] 3 #[.slice (slAt (slAt px0 lo60 mx60 1) lo80 mx80 1) (hi80 - lo80) (mx80 - lo80), .slice px2 lx2 cx2]) w_8 fun v82 w_9 => ∃ i82, v82 = .int .i64 i82 ∧
     R (.returned (.slice (slAt px0 lo60 mx60 1) (hi60 - lo60) (mx60 - lo60))) w_9
    ) (
     SlB (hi60 - lo60) (mx60 - lo60) (some (lx0 : Int)) none none fun lo86 hi86 mx86 =>
     Run prog (Builtin.copy_ #[73, 73] 3 #[.slice (slAt (slAt px0 lo60 mx60 1) lo86 mx86 1) (hi86 - lo86) (mx86 - lo86), .slice px2 lx2 cx2]) w_6 fun v88 w_10 => ∃ i88, v88 = .int .i64 i88 ∧
     SlB (hi60 - lo60) (mx60 - lo60) (some ix1) none none fun lo91 hi91 mx91 =>
     Calls prog f_slices_rotateRight_ptr_tree_page_string #[.slice (slAt (slAt px0 lo60 mx60 1) lo91 mx91 1) (hi91 - lo91) (mx91 - lo91), .int .i64 (lx2 : Int)] w_10 fun e w_11 => e = .returned (.tuple #[]) ∧
     R (.returned (.slice (slAt px0 lo60 mx60 1) (hi60 - lo60) (mx60 - lo60))) w_11
    )
   )
  )
 )
theorem eqV.slices_Insert_ptr_tree_page_string (px0 : Option Addr) (lx0 : Nat) (cx0 : Nat) (ix1 : Int) (px2 : Option Addr) (lx2 : Nat) (cx2 : Nat) (w : World) (R : Ending → World → Prop) : vcFn prog Try.f55 lv_slices_Insert_ptr_tree_page_string [.slice px0 lx0 cx0, .int .i64 ix1, .slice px2 lx2 cx2] w R = V.slices_Insert_ptr_tree_page_string px0 lx0 cx0 ix1 px2 lx2 cx2 w R := by kernel_rfl
theorem ok.slices_Insert_ptr_tree_page_string {px0 : Option Addr} {lx0 : Nat} {cx0 : Nat} {ix1 : Int} {px2 : Option Addr} {lx2 : Nat} {cx2 : Nat} {w : World} {R : Ending → World → Prop} (h : V.slices_Insert_ptr_tree_page_string px0 lx0 cx0 ix1 px2 lx2 cx2 w R) : Calls prog f_slices_Insert_ptr_tree_page_string #[.slice px0 lx0 cx0, .int .i64 ix1, .slice px2 lx2 cx2] w R := calls_of mix lv_slices_Insert_ptr_tree_page_string Try.func55 (by rw [Try.ntmps55]; exact Nat.le_of_ble_eq_true rfl) (cast (eqV.slices_Insert_ptr_tree_page_string px0 lx0 cx0 ix1 px2 lx2 cx2 w R).symm h)
/-! #### afflux/tree.told[string] -/
def lv_tree_told_string : Nat → List Nat := fun _ => []
def V.tree_told_string (px0 : Option Addr) (w : World) (R : Ending → World → Prop) : Prop :=
 Br (px0.isNone) (
  R (.returned (.tuple #[.string (str []), .string (str []), .bool false])) w
 ) (
  Dr w fun w_1 =>
  ∃ a10, px0 = some a10 ∧
  ∃ a14, px0 = some a14 ∧
  ∃ s12, w_1.cell? a10 = some (.string s12) ∧
  ∃ s16, w_1.cell? (a14.add 1) = some (.string s16) ∧
  R (.returned (.tuple #[.string s12, .string s16, .bool true])) w_1
 )
theorem eqV.tree_told_string (px0 : Option Addr) (w : World) (R : Ending → World → Prop) : vcFn prog Try.f56 lv_tree_told_string [.pointer px0] w R = V.tree_told_string px0 w R := by kernel_rfl
theorem ok.tree_told_string {px0 : Option Addr} {w : World} {R : Ending → World → Prop} (h : V.tree_told_string px0 w R) : Calls prog f_tree_told_string #[.pointer px0] w R := calls_of mix lv_tree_told_string Try.func56 (by rw [Try.ntmps56]; exact Nat.le_of_ble_eq_true rfl) (cast (eqV.tree_told_string px0 w R).symm h)
/-! #### (*afflux/tree.page[string]).child -/
def lv_tree_page_string_child : Nat → List Nat := fun _ => []
def V.tree_page_string_child (px0 : Option Addr) (ix1 : Int) (w : World) (R : Ending → World → Prop) : Prop :=
 Calls prog f_tree_page_string_leaf #[.pointer px0] w fun e w_1 => ∃ b6, e = .returned (.bool b6) ∧
 Br b6 (
  R (.returned (.pointer none)) w_1
 ) (
  ∃ a8, px0 = some a8 ∧
  ∃ p10 l10 c10, w_1.cell? (a8.add 1) = some (.slice p10 l10 c10) ∧
  ∃ a12, p10 = some a12 ∧ (0 ≤ ix1 ∧ ix1 < (l10 : Int)) ∧
  ∃ p13, w_1.cell? (a12.add (ix1.toNat * 1)) = some (.pointer p13) ∧
  R (.returned (.pointer p13)) w_1
 )
theorem eqV.tree_page_string_child (px0 : Option Addr) (ix1 : Int) (w : World) (R : Ending → World → Prop) : vcFn prog Try.f57 lv_tree_page_string_child [.pointer px0, .int .i64 ix1] w R = V.tree_page_string_child px0 ix1 w R := by kernel_rfl
theorem ok.tree_page_string_child {px0 : Option Addr} {ix1 : Int} {w : World} {R : Ending → World → Prop} (h : V.tree_page_string_child px0 ix1 w R) : Calls prog f_tree_page_string_child #[.pointer px0, .int .i64 ix1] w R := calls_of mix lv_tree_page_string_child Try.func57 (by rw [Try.ntmps57]; exact Nat.le_of_ble_eq_true rfl) (cast (eqV.tree_page_string_child px0 ix1 w R).symm h)
/-! #### (*afflux/tree.shelf[string]).remove -/
def lv_tree_shelf_string_remove : Nat → List Nat := fun _ => []
def V.tree_shelf_string_remove (px0 : Option Addr) (ix1 : Int) (w : World) (R : Ending → World → Prop) : Prop :=
 Al w (.cells #[.string (str []), .string (str [])] 94) fun a4 w_1 =>
 ∃ a7, px0 = some a7 ∧
 ∃ p9 l9 c9, w_1.cell? a7 = some (.slice p9 l9 c9) ∧
 ∃ a11, p9 = some a11 ∧ (0 ≤ ix1 ∧ ix1 < (l9 : Int)) ∧
 ∃ s12, w_1.cell? (a11.add (ix1.toNat * 2)) = some (.string s12) ∧
 ∃ s12_1, w_1.cell? ((a11.add (ix1.toNat * 2)).add 1) = some (.string s12_1) ∧
 Al w_1 (.cells #[.string (str []), .string (str [])] 94) fun a5 w_2 =>
 St w_2 a5 (.string s12) fun w_3 =>
 St w_3 (a5.add 1) (.string s12_1) fun w_4 =>
 ∃ a15, px0 = some a15 ∧
 ∃ p17 l17 c17, w_4.cell? a15 = some (.slice p17 l17 c17) ∧
 Calls prog f_slices_Delete_tree_entry_string #[.slice p17 l17 c17, .int .i64 ix1, .int .i64 (IntKind.wrap .i64 (ix1 + (1 : Int)))] w_4 fun e w_5 => ∃ p21 l21 c21, e = .returned (.slice p21 l21 c21) ∧
 ∃ a22, px0 = some a22 ∧
 St w_5 a22 (.slice p21 l21 c21) fun w_6 =>
 ∃ s24, w_6.cell? a5 = some (.string s24) ∧
 ∃ s24_1, w_6.cell? (a5.add 1) = some (.string s24_1) ∧
 St w_6 a4 (.string s24) fun w_7 =>
 St w_7 (a4.add 1) (.string s24_1) fun w_8 =>
 ∃ sr4, w_8.cell? a4 = some (.string sr4) ∧
 ∃ sr4_1, w_8.cell? (a4.add 1) = some (.string sr4_1) ∧
 R (.returned (.agg #[.string sr4, .string sr4_1])) w_8
theorem eqV.tree_shelf_string_remove (px0 : Option Addr) (ix1 : Int) (w : World) (R : Ending → World → Prop) : vcFn prog Try.f61 lv_tree_shelf_string_remove [.pointer px0, .int .i64 ix1] w R = V.tree_shelf_string_remove px0 ix1 w R := by kernel_rfl
theorem ok.tree_shelf_string_remove {px0 : Option Addr} {ix1 : Int} {w : World} {R : Ending → World → Prop} (h : V.tree_shelf_string_remove px0 ix1 w R) : Calls prog f_tree_shelf_string_remove #[.pointer px0, .int .i64 ix1] w R := calls_of mix lv_tree_shelf_string_remove Try.func61 (by rw [Try.ntmps61]; exact Nat.le_of_ble_eq_true rfl) (cast (eqV.tree_shelf_string_remove px0 ix1 w R).symm h)
/-! #### (*afflux/tree.page[string]).last -/
def lv_tree_page_string_last : Nat → List Nat := fun _ => []
def V.tree_page_string_last (px0 : Option Addr) (w : World) (R : Ending → World → Prop) : Prop :=
 Al w (.cells #[.string (str []), .string (str [])] 94) fun a2 w_1 =>
 Calls prog f_tree_page_string_leaf #[.pointer px0] w_1 fun e w_2 => ∃ b6, e = .returned (.bool b6) ∧
 Br b6 (
  Dr w_2 fun w_3 =>
  ∃ a8, px0 = some a8 ∧
  ∃ a11, px0 = some a11 ∧
  ∃ p14 l14 c14, w_3.cell? a11 = some (.slice p14 l14 c14) ∧
  Calls prog f_tree_shelf_string_remove #[.pointer (some a8), .int .i64 (IntKind.wrap .i64 ((l14 : Int) - (1 : Int)))] w_3 fun e_1 w_4 => ∃ s17 s17_1, e_1 = .returned (.agg #[.string s17, .string s17_1]) ∧
  St w_4 a2 (.string s17) fun w_5 =>
  St w_5 (a2.add 1) (.string s17_1) fun w_6 =>
  ∃ sr2, w_6.cell? a2 = some (.string sr2) ∧
  ∃ sr2_1, w_6.cell? (a2.add 1) = some (.string sr2_1) ∧
  R (.returned (.agg #[.string sr2, .string sr2_1])) w_6
 ) (
  ∃ a19, px0 = some a19 ∧
  ∃ p21 l21 c21, w_2.cell? (a19.add 1) = some (.slice p21 l21 c21) ∧
  Lt ((IntKind.wrap .i64 ((l21 : Int) - (1 : Int))) : Int) fun i3 =>
  ∃ a25, px0 = some a25 ∧
  ∃ p27 l27 c27, w_2.cell? (a25.add 1) = some (.slice p27 l27 c27) ∧
  ∃ a29, p27 = some a29 ∧ (0 ≤ i3 ∧ i3 < (l27 : Int)) ∧
  ∃ p30, w_2.cell? (a29.add (i3.toNat * 1)) = some (.pointer p30) ∧
  Calls prog f_tree_page_string_last #[.pointer p30] w_2 fun e_2 w_7 => ∃ s31 s31_1, e_2 = .returned (.agg #[.string s31, .string s31_1]) ∧
  Al w_7 (.cells #[.string (str []), .string (str [])] 94) fun a4 w_8 =>
  St w_8 a4 (.string s31) fun w_9 =>
  St w_9 (a4.add 1) (.string s31_1) fun w_10 =>
  Calls prog f_tree_page_string_mend #[.pointer px0, .int .i64 i3] w_10 fun e_3 w_11 => e_3 = .returned (.tuple #[]) ∧
  ∃ s35, w_11.cell? a4 = some (.string s35) ∧
  ∃ s35_1, w_11.cell? (a4.add 1) = some (.string s35_1) ∧
  St w_11 a2 (.string s35) fun w_12 =>
  St w_12 (a2.add 1) (.string s35_1) fun w_13 =>
  ∃ sr2_2, w_13.cell? a2 = some (.string sr2_2) ∧
  ∃ sr2_3, w_13.cell? (a2.add 1) = some (.string sr2_3) ∧
  R (.returned (.agg #[.string sr2_2, .string sr2_3])) w_13
 )
theorem eqV.tree_page_string_last (px0 : Option Addr) (w : World) (R : Ending → World → Prop) : vcFn prog Try.f62 lv_tree_page_string_last [.pointer px0] w R = V.tree_page_string_last px0 w R := by kernel_rfl
theorem ok.tree_page_string_last {px0 : Option Addr} {w : World} {R : Ending → World → Prop} (h : V.tree_page_string_last px0 w R) : Calls prog f_tree_page_string_last #[.pointer px0] w R := calls_of mix lv_tree_page_string_last Try.func62 (by rw [Try.ntmps62]; exact Nat.le_of_ble_eq_true rfl) (cast (eqV.tree_page_string_last px0 w R).symm h)
/-! #### (*afflux/tree.page[string]).mend -/
def lv_tree_page_string_mend : Nat → List Nat := fun _ => []
def V.tree_page_string_mend (px0 : Option Addr) (ix1 : Int) (w : World) (R : Ending → World → Prop) : Prop :=
 ∃ a9, px0 = some a9 ∧
 ∃ p11 l11 c11, w.cell? (a9.add 1) = some (.slice p11 l11 c11) ∧
 ∃ a13, p11 = some a13 ∧ (0 ≤ ix1 ∧ ix1 < (l11 : Int)) ∧
 ∃ p14, w.cell? (a13.add (ix1.toNat * 1)) = some (.pointer p14) ∧
 ∃ a15, p14 = some a15 ∧
 ∃ p18 l18 c18, w.cell? a15 = some (.slice p18 l18 c18) ∧
 Br (decide ((l18 : Int) ≥ (2 : Int))) (
  R (.returned (.tuple #[])) w
 ) (
  Jn (α := Bool → Prop) (fun J =>
   Br (decide (ix1 > (0 : Int))) (
    ∃ a26, px0 = some a26 ∧
    ∃ p28 l28 c28, w.cell? (a26.add 1) = some (.slice p28 l28 c28) ∧
    ∃ a31, p28 = some a31 ∧ (0 ≤ (IntKind.wrap .i64 (ix1 - (1 : Int))) ∧ (IntKind.wrap .i64 (ix1 - (1 : Int))) < (l28 : Int)) ∧
    ∃ p32, w.cell? (a31.add ((IntKind.wrap .i64 (ix1 - (1 : Int))).toNat * 1)) = some (.pointer p32) ∧
    ∃ a33, p32 = some a33 ∧
    ∃ p36 l36 c36, w.cell? a33 = some (.slice p36 l36 c36) ∧
    J (decide ((l36 : Int) > (2 : Int)))
   ) (
    J false
   )
  ) (fun b21 =>
   Br b21 (
    Calls prog f_tree_page_string_right #[.pointer px0, .int .i64 (IntKind.wrap .i64 (ix1 - (1 : Int)))] w fun e w_1 => e = .returned (.tuple #[]) ∧
    R (.returned (.tuple #[])) w_1
   ) (
    Jn (α := Bool → Prop) (fun J_1 =>
     ∃ a47, px0 = some a47 ∧
     ∃ p49 l49 c49, w.cell? (a47.add 1) = some (.slice p49 l49 c49) ∧
     Br (decide (ix1 < (IntKind.wrap .i64 ((l49 : Int) - (1 : Int))))) (
      ∃ a55, px0 = some a55 ∧
      ∃ p57 l57 c57, w.cell? (a55.add 1) = some (.slice p57 l57 c57) ∧
      ∃ a60, p57 = some a60 ∧ (0 ≤ (IntKind.wrap .i64 (ix1 + (1 : Int))) ∧ (IntKind.wrap .i64 (ix1 + (1 : Int))) < (l57 : Int)) ∧
      ∃ p61, w.cell? (a60.add ((IntKind.wrap .i64 (ix1 + (1 : Int))).toNat * 1)) = some (.pointer p61) ∧
      ∃ a62, p61 = some a62 ∧
      ∃ p65 l65 c65, w.cell? a62 = some (.slice p65 l65 c65) ∧
      J_1 (decide ((l65 : Int) > (2 : Int)))
     ) (
      J_1 false
     )
    ) (fun b44 =>
     Br b44 (
      Calls prog f_tree_page_string_left #[.pointer px0, .int .i64 ix1] w fun e_1 w_2 => e_1 = .returned (.tuple #[]) ∧
      R (.returned (.tuple #[])) w_2
     ) (
      Br (decide (ix1 > (0 : Int))) (
       Calls prog f_tree_page_string_join #[.pointer px0, .int .i64 (IntKind.wrap .i64 (ix1 - (1 : Int)))] w fun e_2 w_3 => e_2 = .returned (.tuple #[]) ∧
       R (.returned (.tuple #[])) w_3
      ) (
       Calls prog f_tree_page_string_join #[.pointer px0, .int .i64 ix1] w fun e_3 w_4 => e_3 = .returned (.tuple #[]) ∧
       R (.returned (.tuple #[])) w_4
      )
     )
    )
   )
  )
 )
theorem eqV.tree_page_string_mend (px0 : Option Addr) (ix1 : Int) (w : World) (R : Ending → World → Prop) : vcFn prog Try.f63 lv_tree_page_string_mend [.pointer px0, .int .i64 ix1] w R = V.tree_page_string_mend px0 ix1 w R := by kernel_rfl
theorem ok.tree_page_string_mend {px0 : Option Addr} {ix1 : Int} {w : World} {R : Ending → World → Prop} (h : V.tree_page_string_mend px0 ix1 w R) : Calls prog f_tree_page_string_mend #[.pointer px0, .int .i64 ix1] w R := calls_of mix lv_tree_page_string_mend Try.func63 (by rw [Try.ntmps63]; exact Nat.le_of_ble_eq_true rfl) (cast (eqV.tree_page_string_mend px0 ix1 w R).symm h)
/-! #### slices.BinarySearchFunc[[]afflux/tree.entry[string],afflux/tree.entry[string],string] -/
def lv_slices_BinarySearchFunc_string_69 : Nat → List Nat := fun k => match k with | 3 => [0, 1, 2, 8, 9, 10] | _ => []
def L.slices_BinarySearchFunc_string_69_L0 (p0 : Option Addr) (l0 : Nat) (c0 : Nat) (s1 : ByteArray) (v2 : Value) (i8 : Int) (i9 : Int) (i10 : Int) (w : World) (R : Ending → World → Prop) : Prop :=
 LoopAt prog Try.f69 lv_slices_BinarySearchFunc_string_69 [1, 1, 1, 0, 0] R [(0, .slice p0 l0 c0), (1, .string s1), (2, v2), (8, .int .i64 i8), (9, .int .i64 i9), (10, .int .i64 i10)] w
def B.slices_BinarySearchFunc_string_69_L0 (p0 : Option Addr) (l0 : Nat) (c0 : Nat) (s1 : ByteArray) (v2 : Value) (i8 : Int) (i9 : Int) (i10 : Int) (w : World) (R : Ending → World → Prop) : Prop :=
 Br (decide (i9 < i10)) (
  0 ≤ (1 : Int) ∧
  Lt ((IntKind.wrap .i64 ((IntKind.wrap .u64 (IntKind.wrap .i64 (i9 + i10))).fdiv (2 ^ (min (1 : Int).toNat (IntKind.bits .u64))))) : Int) fun i11 =>
  ∃ a27, p0 = some a27 ∧ (0 ≤ i11 ∧ i11 < (l0 : Int)) ∧
  ∃ s28, w.cell? (a27.add (i11.toNat * 2)) = some (.string s28) ∧
  ∃ s28_1, w.cell? ((a27.add (i11.toNat * 2)).add 1) = some (.string s28_1) ∧
  CallV prog v2 [.agg #[.string s28, .string s28_1], .string s1] w [3] fun v30 w_1 => ∃ i30, v30 = .int .i64 i30 ∧
  Br (decide (i30 < (0 : Int))) (
   Lt ((IntKind.wrap .i64 (i11 + (1 : Int))) : Int) fun i9_1 =>
   L.slices_BinarySearchFunc_string_69_L0 p0 l0 c0 s1 v2 i8 i9_1 i10 w_1 R
  ) (
   L.slices_BinarySearchFunc_string_69_L0 p0 l0 c0 s1 v2 i8 i9 i11 w_1 R
  )
 ) (
  Br (decide (i9 < i8)) (
   ∃ a43, p0 = some a43 ∧ (0 ≤ i9 ∧ i9 < (l0 : Int)) ∧
   ∃ s44, w.cell? (a43.add (i9.toNat * 2)) = some (.string s44) ∧
   ∃ s44_1, w.cell? ((a43.add (i9.toNat * 2)).add 1) = some (.string s44_1) ∧
   CallV prog v2 [.agg #[.string s44, .string s44_1], .string s1] w [3] fun v46 w_2 => ∃ i46, v46 = .int .i64 i46 ∧
   R (.returned (.tuple #[.int .i64 i9, .bool (i46 == (0 : Int))])) w_2
  ) (
   R (.returned (.tuple #[.int .i64 i9, .bool false])) w
  )
 )
def V.slices_BinarySearchFunc_string_69 (px0 : Option Addr) (lx0 : Nat) (cx0 : Nat) (sx1 : ByteArray) (vx2 : Value) (w : World) (R : Ending → World → Prop) : Prop :=
 L.slices_BinarySearchFunc_string_69_L0 px0 lx0 cx0 sx1 vx2 (lx0 : Int) 0 (lx0 : Int) w R
theorem eqB.slices_BinarySearchFunc_string_69_L0 (p0 : Option Addr) (l0 : Nat) (c0 : Nat) (s1 : ByteArray) (v2 : Value) (i8 : Int) (i9 : Int) (i10 : Int) (w : World) (R : Ending → World → Prop) : RoundAt prog Try.f69 lv_slices_BinarySearchFunc_string_69 [1, 1, 1, 0, 0] R [(0, .slice p0 l0 c0), (1, .string s1), (2, v2), (8, .int .i64 i8), (9, .int .i64 i9), (10, .int .i64 i10)] w = B.slices_BinarySearchFunc_string_69_L0 p0 l0 c0 s1 v2 i8 i9 i10 w R := by kernel_rfl
theorem round.slices_BinarySearchFunc_string_69_L0 {p0 : Option Addr} {l0 : Nat} {c0 : Nat} {s1 : ByteArray} {v2 : Value} {i8 : Int} {i9 : Int} {i10 : Int} {w : World} {R : Ending → World → Prop} (h : B.slices_BinarySearchFunc_string_69_L0 p0 l0 c0 s1 v2 i8 i9 i10 w R) : L.slices_BinarySearchFunc_string_69_L0 p0 l0 c0 s1 v2 i8 i9 i10 w R := LoopAt.unfold mix (cast (eqB.slices_BinarySearchFunc_string_69_L0 p0 l0 c0 s1 v2 i8 i9 i10 w R).symm h)
theorem eqV.slices_BinarySearchFunc_string_69 (px0 : Option Addr) (lx0 : Nat) (cx0 : Nat) (sx1 : ByteArray) (vx2 : Value) (w : World) (R : Ending → World → Prop) : vcFn prog Try.f69 lv_slices_BinarySearchFunc_string_69 [.slice px0 lx0 cx0, .string sx1, vx2] w R = V.slices_BinarySearchFunc_string_69 px0 lx0 cx0 sx1 vx2 w R := by kernel_rfl
theorem ok.slices_BinarySearchFunc_string_69 {px0 : Option Addr} {lx0 : Nat} {cx0 : Nat} {sx1 : ByteArray} {vx2 : Value} {w : World} {R : Ending → World → Prop} (h : V.slices_BinarySearchFunc_string_69 px0 lx0 cx0 sx1 vx2 w R) : Calls prog f_slices_BinarySearchFunc_string_69 #[.slice px0 lx0 cx0, .string sx1, vx2] w R := calls_of mix lv_slices_BinarySearchFunc_string_69 Try.func69 (by rw [Try.ntmps69]; exact Nat.le_of_ble_eq_true rfl) (cast (eqV.slices_BinarySearchFunc_string_69 px0 lx0 cx0 sx1 vx2 w R).symm h)
/-! #### (*afflux/tree.shelf[string]).find$1 -/
def lv_tree_shelf_string_find_fn1 : Nat → List Nat := fun _ => []
def V.tree_shelf_string_find_fn1 (sx0 : ByteArray) (sx0_1 : ByteArray) (sx1 : ByteArray) (w : World) (R : Ending → World → Prop) : Prop :=
 Al w (.cells #[.string sx0, .string sx0_1] 94) fun a2 w_1 =>
 ∃ s7, w_1.cell? a2 = some (.string s7) ∧
 Br (sLt s7 sx1) (
  R (.returned (.int .i64 (-1))) w_1
 ) (
  ∃ s12, w_1.cell? a2 = some (.string s12) ∧
  Br (!(sLt s12 sx1 || sEq s12 sx1)) (
   R (.returned (.int .i64 1)) w_1
  ) (
   R (.returned (.int .i64 0)) w_1
  )
 )
theorem eqV.tree_shelf_string_find_fn1 (sx0 : ByteArray) (sx0_1 : ByteArray) (sx1 : ByteArray) (w : World) (R : Ending → World → Prop) : vcFn prog Try.f70 lv_tree_shelf_string_find_fn1 [.agg #[.string sx0, .string sx0_1], .string sx1] w R = V.tree_shelf_string_find_fn1 sx0 sx0_1 sx1 w R := by kernel_rfl
theorem ok.tree_shelf_string_find_fn1 {sx0 : ByteArray} {sx0_1 : ByteArray} {sx1 : ByteArray} {w : World} {R : Ending → World → Prop} (h : V.tree_shelf_string_find_fn1 sx0 sx0_1 sx1 w R) : Calls prog f_tree_shelf_string_find_fn1 #[.agg #[.string sx0, .string sx0_1], .string sx1] w R := calls_of mix lv_tree_shelf_string_find_fn1 Try.func70 (by rw [Try.ntmps70]; exact Nat.le_of_ble_eq_true rfl) (cast (eqV.tree_shelf_string_find_fn1 sx0 sx0_1 sx1 w R).symm h)
/-! #### slices.Insert[[]afflux/tree.entry[string],afflux/tree.entry[string]] -/
def lv_slices_Insert_tree_entry_string : Nat → List Nat := fun _ => []
def V.slices_Insert_tree_entry_string (px0 : Option Addr) (lx0 : Nat) (cx0 : Nat) (ix1 : Int) (px2 : Option Addr) (lx2 : Nat) (cx2 : Nat) (w : World) (R : Ending → World → Prop) : Prop :=
 SlB lx0 cx0 (some ix1) none none fun lo12 hi12 mx12 =>
 Br ((lx2 : Int) == (0 : Int)) (
  R (.returned (.slice px0 lx0 cx0)) w
 ) (
  Br (ix1 == (lx0 : Int)) (
   Run prog (Builtin.append_ #[70, 70] 70 #[.slice px0 lx0 cx0, .slice px2 lx2 cx2]) w fun v25 w_1 => ∃ p25 l25 c25, v25 = .slice p25 l25 c25 ∧
   R (.returned (.slice p25 l25 c25)) w_1
  ) (
   Br (decide ((IntKind.wrap .i64 ((lx0 : Int) + (lx2 : Int))) > (cx0 : Int))) (
    SlB lx0 cx0 none (some ix1) none fun lo34 hi34 mx34 =>
    Run prog (Builtin.append_ #[70, 3] 70 #[.slice (slAt px0 lo34 mx34 2) (hi34 - lo34) (mx34 - lo34), .int .i64 (IntKind.wrap .i64 ((IntKind.wrap .i64 ((lx0 : Int) + (lx2 : Int))) - ix1))]) w fun v40 w_2 => ∃ p40 l40 c40, v40 = .slice p40 l40 c40 ∧
    SlB l40 c40 (some ix1) none none fun lo43 hi43 mx43 =>
    Run prog (Builtin.copy_ #[70, 70] 3 #[.slice (slAt p40 lo43 mx43 2) (hi43 - lo43) (mx43 - lo43), .slice px2 lx2 cx2]) w_2 fun v45 w_3 => ∃ i45, v45 = .int .i64 i45 ∧
    Dr w_3 fun w_4 =>
    SlB l40 c40 (some (IntKind.wrap .i64 (ix1 + (lx2 : Int)))) none none fun lo50 hi50 mx50 =>
    SlB lx0 cx0 (some ix1) none none fun lo53 hi53 mx53 =>
    Run prog (Builtin.copy_ #[70, 70] 3 #[.slice (slAt p40 lo50 mx50 2) (hi50 - lo50) (mx50 - lo50), .slice (slAt px0 lo53 mx53 2) (hi53 - lo53) (mx53 - lo53)]) w_4 fun v54 w_5 => ∃ i54, v54 = .int .i64 i54 ∧
    R (.returned (.slice p40 l40 c40)) w_5
   ) (
    SlB lx0 cx0 none (some (IntKind.wrap .i64 ((lx0 : Int) + (lx2 : Int)))) none fun lo60 hi60 mx60 =>
    SlB (hi60 - lo60) (mx60 - lo60) (some (IntKind.wrap .i64 (ix1 + (lx2 : Int)))) none none fun lo66 hi66 mx66 =>
    Ext prog f_slices_overlaps_tree_entry_string #[.slice px2 lx2 cx2, .slice (slAt (slAt px0 lo60 mx60 2) lo66 mx66 2) (hi66 - lo66) (mx66 - lo66)] w fun v67 w_6 => ∃ b67, v67 = .bool b67 ∧
    Br (!b67) (
     Dr w_6 fun w_7 =>
     SlB (hi60 - lo60) (mx60 - lo60) (some (IntKind.wrap .i64 (ix1 + (lx2 : Int)))) none none fun lo73 hi73 mx73 =>
     SlB (hi60 - lo60) (mx60 - lo60) (some ix1) none none fun lo76 hi76 mx76 =>
     Run prog (Builtin.copy_ #[70, 70] 3 #[.slice (slAt (slAt px0 lo60 mx60 2) lo73 mx73 2) (hi73 - lo73) (mx73 - lo73), .slice (slAt (slAt px0 lo60 mx60 2) lo76 mx76 2) (hi76 - lo76) (mx76 - lo76)]) w_7 fun v77 w_8 => ∃ i77, v77 = .int .i64 i77 ∧
     SlB (hi60 - lo60) (mx60 - lo60) (some ix1) none none fun lo80 hi80 mx80 =>
     Run prog (Builtin.copy_ #[70, 70] 3 #[.slice (slAt (slAt px0 lo60 mx60 2) lo80 mx80 2) (hi80 - lo80) (mx80 - lo80), .slice px2 lx2 cx2]) w_8 fun v82 w_9 => ∃ i82, v82 = .int .i64 i82 ∧
     R (.returned (.slice (slAt px0 lo60 mx60 2) (hi60 - lo60) (mx60 - lo60))) w_9
    ) (
     SlB (hi60 - lo60) (mx60 - lo60) (some (lx0 : Int)) none none fun lo86 hi86 mx86 =>
     Run prog (Builtin.copy_ #[70, 70] 3 #[.slice (slAt (slAt px0 lo60 mx60 2) lo86 mx86 2) (hi86 - lo86) (mx86 - lo86), .slice px2 lx2 cx2]) w_6 fun v88 w_10 => ∃ i88, v88 = .int .i64 i88 ∧
     SlB (hi60 - lo60) (mx60 - lo60) (some ix1) none none fun lo91 hi91 mx91 =>
     Calls prog f_slices_rotateRight_tree_entry_string #[.slice (slAt (slAt px0 lo60 mx60 2) lo91 mx91 2) (hi91 - lo91) (mx91 - lo91), .int .i64 (lx2 : Int)] w_10 fun e w_11 => e = .returned (.tuple #[]) ∧
     R (.returned (.slice (slAt px0 lo60 mx60 2) (hi60 - lo60) (mx60 - lo60))) w_11
    )
   )
  )
 )
theorem eqV.slices_Insert_tree_entry_string (px0 : Option Addr) (lx0 : Nat) (cx0 : Nat) (ix1 : Int) (px2 : Option Addr) (lx2 : Nat) (cx2 : Nat) (w : World) (R : Ending → World → Prop) : vcFn prog Try.f71 lv_slices_Insert_tree_entry_string [.slice px0 lx0 cx0, .int .i64 ix1, .slice px2 lx2 cx2] w R = V.slices_Insert_tree_entry_string px0 lx0 cx0 ix1 px2 lx2 cx2 w R := by kernel_rfl
theorem ok.slices_Insert_tree_entry_string {px0 : Option Addr} {lx0 : Nat} {cx0 : Nat} {ix1 : Int} {px2 : Option Addr} {lx2 : Nat} {cx2 : Nat} {w : World} {R : Ending → World → Prop} (h : V.slices_Insert_tree_entry_string px0 lx0 cx0 ix1 px2 lx2 cx2 w R) : Calls prog f_slices_Insert_tree_entry_string #[.slice px0 lx0 cx0, .int .i64 ix1, .slice px2 lx2 cx2] w R := calls_of mix lv_slices_Insert_tree_entry_string Try.func71 (by rw [Try.ntmps71]; exact Nat.le_of_ble_eq_true rfl) (cast (eqV.slices_Insert_tree_entry_string px0 lx0 cx0 ix1 px2 lx2 cx2 w R).symm h)
/-! #### slices.rotateRight[*afflux/tree.page[string]] -/
def lv_slices_rotateRight_ptr_tree_page_string : Nat → List Nat := fun _ => []
def V.slices_rotateRight_ptr_tree_page_string (px0 : Option Addr) (lx0 : Nat) (cx0 : Nat) (ix1 : Int) (w : World) (R : Ending → World → Prop) : Prop :=
 Calls prog f_slices_rotateLeft_ptr_tree_page_string #[.slice px0 lx0 cx0, .int .i64 (IntKind.wrap .i64 ((lx0 : Int) - ix1))] w fun e w_1 => e = .returned (.tuple #[]) ∧
 R (.returned (.tuple #[])) w_1
theorem eqV.slices_rotateRight_ptr_tree_page_string (px0 : Option Addr) (lx0 : Nat) (cx0 : Nat) (ix1 : Int) (w : World) (R : Ending → World → Prop) : vcFn prog Try.f73 lv_slices_rotateRight_ptr_tree_page_string [.slice px0 lx0 cx0, .int .i64 ix1] w R = V.slices_rotateRight_ptr_tree_page_string px0 lx0 cx0 ix1 w R := by kernel_rfl
theorem ok.slices_rotateRight_ptr_tree_page_string {px0 : Option Addr} {lx0 : Nat} {cx0 : Nat} {ix1 : Int} {w : World} {R : Ending → World → Prop} (h : V.slices_rotateRight_ptr_tree_page_string px0 lx0 cx0 ix1 w R) : Calls prog f_slices_rotateRight_ptr_tree_page_string #[.slice px0 lx0 cx0, .int .i64 ix1] w R := calls_of mix lv_slices_rotateRight_ptr_tree_page_string Try.func73 (by rw [Try.ntmps73]; exact Nat.le_of_ble_eq_true rfl) (cast (eqV.slices_rotateRight_ptr_tree_page_string px0 lx0 cx0 ix1 w R).symm h)
/-! #### slices.Delete[[]afflux/tree.entry[string],afflux/tree.entry[string]] -/
def lv_slices_Delete_tree_entry_string : Nat → List Nat := fun _ => []
def V.slices_Delete_tree_entry_string (px0 : Option Addr) (lx0 : Nat) (cx0 : Nat) (ix1 : Int) (ix2 : Int) (w : World) (R : Ending → World → Prop) : Prop :=
 SlB lx0 cx0 (some ix1) (some ix2) (some (lx0 : Int)) fun lo13 hi13 mx13 =>
 Br (ix1 == ix2) (
  R (.returned (.slice px0 lx0 cx0)) w
 ) (
  Dr w fun w_1 =>
  SlB lx0 cx0 none (some ix1) none fun lo22 hi22 mx22 =>
  SlB lx0 cx0 (some ix2) none none fun lo25 hi25 mx25 =>
  Run prog (Builtin.append_ #[70, 70] 70 #[.slice (slAt px0 lo22 mx22 2) (hi22 - lo22) (mx22 - lo22), .slice (slAt px0 lo25 mx25 2) (hi25 - lo25) (mx25 - lo25)]) w_1 fun v26 w_2 => ∃ p26 l26 c26, v26 = .slice p26 l26 c26 ∧
  SlB l26 c26 (some (l26 : Int)) (some (lx0 : Int)) none fun lo31 hi31 mx31 =>
  Run prog (Builtin.clear_ #[70] 0 #[.slice (slAt p26 lo31 mx31 2) (hi31 - lo31) (mx31 - lo31)]) w_2 fun v w_3 =>
  R (.returned (.slice p26 l26 c26)) w_3
 )
theorem eqV.slices_Delete_tree_entry_string (px0 : Option Addr) (lx0 : Nat) (cx0 : Nat) (ix1 : Int) (ix2 : Int) (w : World) (R : Ending → World → Prop) : vcFn prog Try.f78 lv_slices_Delete_tree_entry_string [.slice px0 lx0 cx0, .int .i64 ix1, .int .i64 ix2] w R = V.slices_Delete_tree_entry_string px0 lx0 cx0 ix1 ix2 w R := by kernel_rfl
theorem ok.slices_Delete_tree_entry_string {px0 : Option Addr} {lx0 : Nat} {cx0 : Nat} {ix1 : Int} {ix2 : Int} {w : World} {R : Ending → World → Prop} (h : V.slices_Delete_tree_entry_string px0 lx0 cx0 ix1 ix2 w R) : Calls prog f_slices_Delete_tree_entry_string #[.slice px0 lx0 cx0, .int .i64 ix1, .int .i64 ix2] w R := calls_of mix lv_slices_Delete_tree_entry_string Try.func78 (by rw [Try.ntmps78]; exact Nat.le_of_ble_eq_true rfl) (cast (eqV.slices_Delete_tree_entry_string px0 lx0 cx0 ix1 ix2 w R).symm h)
/-! #### (*afflux/tree.page[string]).right -/
def lv_tree_page_string_right : Nat → List Nat := fun _ => []
def V.tree_page_string_right (px0 : Option Addr) (ix1 : Int) (w : World) (R : Ending → World → Prop) : Prop :=
 Dr w fun w_1 =>
 ∃ a8, px0 = some a8 ∧
 ∃ a15, px0 = some a15 ∧
 ∃ p10 l10 c10, w_1.cell? (a8.add 1) = some (.slice p10 l10 c10) ∧
 ∃ a12, p10 = some a12 ∧ (0 ≤ ix1 ∧ ix1 < (l10 : Int)) ∧
 ∃ p13, w_1.cell? (a12.add (ix1.toNat * 1)) = some (.pointer p13) ∧
 ∃ p17 l17 c17, w_1.cell? (a15.add 1) = some (.slice p17 l17 c17) ∧
 ∃ a20, p17 = some a20 ∧ (0 ≤ (IntKind.wrap .i64 (ix1 + (1 : Int))) ∧ (IntKind.wrap .i64 (ix1 + (1 : Int))) < (l17 : Int)) ∧
 ∃ p21, w_1.cell? (a20.add ((IntKind.wrap .i64 (ix1 + (1 : Int))).toNat * 1)) = some (.pointer p21) ∧
 Dr w_1 fun w_2 =>
 ∃ a23, p21 = some a23 ∧
 ∃ a26, px0 = some a26 ∧
 ∃ p29 l29 c29, w_2.cell? a26 = some (.slice p29 l29 c29) ∧
 ∃ a31, p29 = some a31 ∧ (0 ≤ ix1 ∧ ix1 < (l29 : Int)) ∧
 ∃ s32, w_2.cell? (a31.add (ix1.toNat * 2)) = some (.string s32) ∧
 ∃ s32_1, w_2.cell? ((a31.add (ix1.toNat * 2)).add 1) = some (.string s32_1) ∧
 Calls prog f_tree_shelf_string_insert #[.pointer (some a23), .int .i64 0, .agg #[.string s32, .string s32_1]] w_2 fun e w_3 => e = .returned (.tuple #[]) ∧
 Jn (α := World → Prop) (fun J =>
  Dr w_3 fun w_5 =>
  ∃ a35, px0 = some a35 ∧
  ∃ a41, p13 = some a41 ∧
  ∃ a44, p13 = some a44 ∧
  ∃ p47 l47 c47, w_5.cell? a44 = some (.slice p47 l47 c47) ∧
  (
   ∃ p38 l38 c38, w_5.cell? a35 = some (.slice p38 l38 c38) ∧
   Calls prog f_tree_shelf_string_remove #[.pointer (some a41), .int .i64 (IntKind.wrap .i64 ((l47 : Int) - (1 : Int)))] w_5 fun e_1 w_6 => ∃ s50 s50_1, e_1 = .returned (.agg #[.string s50, .string s50_1]) ∧
   ∃ a51, p38 = some a51 ∧ (0 ≤ ix1 ∧ ix1 < (l38 : Int)) ∧
   St w_6 (a51.add (ix1.toNat * 2)) (.string s50) fun w_7 =>
   St w_7 ((a51.add (ix1.toNat * 2)).add 1) (.string s50_1) fun w_8 =>
   J w_8
  ) ∧
  (
   Calls prog f_tree_shelf_string_remove #[.pointer (some a41), .int .i64 (IntKind.wrap .i64 ((l47 : Int) - (1 : Int)))] w_5 fun e_2 w_9 => ∃ s50_2 s50_3, e_2 = .returned (.agg #[.string s50_2, .string s50_3]) ∧
   ∃ p38_1 l38_1 c38_1, w_9.cell? a35 = some (.slice p38_1 l38_1 c38_1) ∧
   ∃ a51_1, p38_1 = some a51_1 ∧ (0 ≤ ix1 ∧ ix1 < (l38_1 : Int)) ∧
   St w_9 (a51_1.add (ix1.toNat * 2)) (.string s50_2) fun w_10 =>
   St w_10 ((a51_1.add (ix1.toNat * 2)).add 1) (.string s50_3) fun w_11 =>
   J w_11
  )
 ) (fun w_4 =>
  Calls prog f_tree_page_string_leaf #[.pointer p13] w_4 fun e_3 w_12 => ∃ b53, e_3 = .returned (.bool b53) ∧
  Br (!b53) (
   ∃ a56, p13 = some a56 ∧
   ∃ p58 l58 c58, w_12.cell? (a56.add 1) = some (.slice p58 l58 c58) ∧
   Lt ((IntKind.wrap .i64 ((l58 : Int) - (1 : Int))) : Int) fun i6 =>
   Dr w_12 fun w_13 =>
   ∃ a63, p21 = some a63 ∧
   ∃ a67, p13 = some a67 ∧
   ∃ p65 l65 c65, w_13.cell? (a63.add 1) = some (.slice p65 l65 c65) ∧
   ∃ p69 l69 c69, w_13.cell? (a67.add 1) = some (.slice p69 l69 c69) ∧
   ∃ a71, p69 = some a71 ∧ (0 ≤ i6 ∧ i6 < (l69 : Int)) ∧
   ∃ p72, w_13.cell? (a71.add (i6.toNat * 1)) = some (.pointer p72) ∧
   Al w_13 (.cells #[.pointer p72] 69) fun a73 w_14 =>
   Calls prog f_slices_Insert_ptr_tree_page_string #[.slice p65 l65 c65, .int .i64 0, .slice (some a73) 1 1] w_14 fun e_4 w_15 => ∃ p74 l74 c74, e_4 = .returned (.slice p74 l74 c74) ∧
   ∃ a75, p21 = some a75 ∧
   St w_15 (a75.add 1) (.slice p74 l74 c74) fun w_16 =>
   ∃ a79, p13 = some a79 ∧
   ∃ p81 l81 c81, w_16.cell? (a79.add 1) = some (.slice p81 l81 c81) ∧
   SlB l81 c81 none (some i6) none fun lo83 hi83 mx83 =>
   ∃ a84, p13 = some a84 ∧
   St w_16 (a84.add 1) (.slice (slAt p81 lo83 mx83 1) (hi83 - lo83) (mx83 - lo83)) fun w_17 =>
   R (.returned (.tuple #[])) w_17
  ) (
   R (.returned (.tuple #[])) w_12
  )
 )
theorem eqV.tree_page_string_right (px0 : Option Addr) (ix1 : Int) (w : World) (R : Ending → World → Prop) : vcFn prog Try.f79 lv_tree_page_string_right [.pointer px0, .int .i64 ix1] w R = V.tree_page_string_right px0 ix1 w R := by kernel_rfl
theorem ok.tree_page_string_right {px0 : Option Addr} {ix1 : Int} {w : World} {R : Ending → World → Prop} (h : V.tree_page_string_right px0 ix1 w R) : Calls prog f_tree_page_string_right #[.pointer px0, .int .i64 ix1] w R := calls_of mix lv_tree_page_string_right Try.func79 (by rw [Try.ntmps79]; exact Nat.le_of_ble_eq_true rfl) (cast (eqV.tree_page_string_right px0 ix1 w R).symm h)
/-! #### (*afflux/tree.page[string]).left -/
def lv_tree_page_string_left : Nat → List Nat := fun _ => []
def V.tree_page_string_left (px0 : Option Addr) (ix1 : Int) (w : World) (R : Ending → World → Prop) : Prop :=
 Dr w fun w_1 =>
 ∃ a7, px0 = some a7 ∧
 ∃ a14, px0 = some a14 ∧
 ∃ p9 l9 c9, w_1.cell? (a7.add 1) = some (.slice p9 l9 c9) ∧
 ∃ a11, p9 = some a11 ∧ (0 ≤ ix1 ∧ ix1 < (l9 : Int)) ∧
 ∃ p12, w_1.cell? (a11.add (ix1.toNat * 1)) = some (.pointer p12) ∧
 ∃ p16 l16 c16, w_1.cell? (a14.add 1) = some (.slice p16 l16 c16) ∧
 ∃ a19, p16 = some a19 ∧ (0 ≤ (IntKind.wrap .i64 (ix1 + (1 : Int))) ∧ (IntKind.wrap .i64 (ix1 + (1 : Int))) < (l16 : Int)) ∧
 ∃ p20, w_1.cell? (a19.add ((IntKind.wrap .i64 (ix1 + (1 : Int))).toNat * 1)) = some (.pointer p20) ∧
 Dr w_1 fun w_2 =>
 ∃ a22, p12 = some a22 ∧
 ∃ a25, p12 = some a25 ∧
 ∃ a31, px0 = some a31 ∧
 ∃ p28 l28 c28, w_2.cell? a25 = some (.slice p28 l28 c28) ∧
 ∃ p34 l34 c34, w_2.cell? a31 = some (.slice p34 l34 c34) ∧
 ∃ a36, p34 = some a36 ∧ (0 ≤ ix1 ∧ ix1 < (l34 : Int)) ∧
 ∃ s37, w_2.cell? (a36.add (ix1.toNat * 2)) = some (.string s37) ∧
 ∃ s37_1, w_2.cell? ((a36.add (ix1.toNat * 2)).add 1) = some (.string s37_1) ∧
 Calls prog f_tree_shelf_string_insert #[.pointer (some a22), .int .i64 (l28 : Int), .agg #[.string s37, .string s37_1]] w_2 fun e w_3 => e = .returned (.tuple #[]) ∧
 Jn (α := World → Prop) (fun J =>
  Dr w_3 fun w_5 =>
  ∃ a40, px0 = some a40 ∧
  ∃ a46, p20 = some a46 ∧
  (
   ∃ p43 l43 c43, w_5.cell? a40 = some (.slice p43 l43 c43) ∧
   Calls prog f_tree_shelf_string_remove #[.pointer (some a46), .int .i64 0] w_5 fun e_1 w_6 => ∃ s48 s48_1, e_1 = .returned (.agg #[.string s48, .string s48_1]) ∧
   ∃ a49, p43 = some a49 ∧ (0 ≤ ix1 ∧ ix1 < (l43 : Int)) ∧
   St w_6 (a49.add (ix1.toNat * 2)) (.string s48) fun w_7 =>
   St w_7 ((a49.add (ix1.toNat * 2)).add 1) (.string s48_1) fun w_8 =>
   J w_8
  ) ∧
  (
   Calls prog f_tree_shelf_string_remove #[.pointer (some a46), .int .i64 0] w_5 fun e_2 w_9 => ∃ s48_2 s48_3, e_2 = .returned (.agg #[.string s48_2, .string s48_3]) ∧
   ∃ p43_1 l43_1 c43_1, w_9.cell? a40 = some (.slice p43_1 l43_1 c43_1) ∧
   ∃ a49_1, p43_1 = some a49_1 ∧ (0 ≤ ix1 ∧ ix1 < (l43_1 : Int)) ∧
   St w_9 (a49_1.add (ix1.toNat * 2)) (.string s48_2) fun w_10 =>
   St w_10 ((a49_1.add (ix1.toNat * 2)).add 1) (.string s48_3) fun w_11 =>
   J w_11
  )
 ) (fun w_4 =>
  Calls prog f_tree_page_string_leaf #[.pointer p20] w_4 fun e_3 w_12 => ∃ b51, e_3 = .returned (.bool b51) ∧
  Br (!b51) (
   Dr w_12 fun w_13 =>
   ∃ a55, p12 = some a55 ∧
   ∃ a59, p20 = some a59 ∧
   ∃ p57 l57 c57, w_13.cell? (a55.add 1) = some (.slice p57 l57 c57) ∧
   ∃ p61 l61 c61, w_13.cell? (a59.add 1) = some (.slice p61 l61 c61) ∧
   ∃ a62, p61 = some a62 ∧ (0 ≤ (0 : Int) ∧ (0 : Int) < (l61 : Int)) ∧
   ∃ p63, w_13.cell? (a62.add ((0 : Int).toNat * 1)) = some (.pointer p63) ∧
   Al w_13 (.cells #[.pointer p63] 69) fun a64 w_14 =>
   Run prog (Builtin.append_ #[73, 73] 73 #[.slice p57 l57 c57, .slice (some a64) 1 1]) w_14 fun v65 w_15 => ∃ p65 l65 c65, v65 = .slice p65 l65 c65 ∧
   ∃ a66, p12 = some a66 ∧
   St w_15 (a66.add 1) (.slice p65 l65 c65) fun w_16 =>
   ∃ a70, p20 = some a70 ∧
   ∃ p72 l72 c72, w_16.cell? (a70.add 1) = some (.slice p72 l72 c72) ∧
   Calls prog f_slices_Delete_ptr_tree_page_string #[.slice p72 l72 c72, .int .i64 0, .int .i64 1] w_16 fun e_4 w_17 => ∃ p73 l73 c73, e_4 = .returned (.slice p73 l73 c73) ∧
   ∃ a74, p20 = some a74 ∧
   St w_17 (a74.add 1) (.slice p73 l73 c73) fun w_18 =>
   R (.returned (.tuple #[])) w_18
  ) (
   R (.returned (.tuple #[])) w_12
  )
 )
theorem eqV.tree_page_string_left (px0 : Option Addr) (ix1 : Int) (w : World) (R : Ending → World → Prop) : vcFn prog Try.f80 lv_tree_page_string_left [.pointer px0, .int .i64 ix1] w R = V.tree_page_string_left px0 ix1 w R := by kernel_rfl
theorem ok.tree_page_string_left {px0 : Option Addr} {ix1 : Int} {w : World} {R : Ending → World → Prop} (h : V.tree_page_string_left px0 ix1 w R) : Calls prog f_tree_page_string_left #[.pointer px0, .int .i64 ix1] w R := calls_of mix lv_tree_page_string_left Try.func80 (by rw [Try.ntmps80]; exact Nat.le_of_ble_eq_true rfl) (cast (eqV.tree_page_string_left px0 ix1 w R).symm h)
/-! #### (*afflux/tree.page[string]).join -/
def lv_tree_page_string_join : Nat → List Nat := fun _ => []
def V.tree_page_string_join (px0 : Option Addr) (ix1 : Int) (w : World) (R : Ending → World → Prop) : Prop :=
 Dr w fun w_1 =>
 ∃ a7, px0 = some a7 ∧
 ∃ a14, px0 = some a14 ∧
 ∃ p9 l9 c9, w_1.cell? (a7.add 1) = some (.slice p9 l9 c9) ∧
 ∃ a11, p9 = some a11 ∧ (0 ≤ ix1 ∧ ix1 < (l9 : Int)) ∧
 ∃ p12, w_1.cell? (a11.add (ix1.toNat * 1)) = some (.pointer p12) ∧
 ∃ p16 l16 c16, w_1.cell? (a14.add 1) = some (.slice p16 l16 c16) ∧
 ∃ a19, p16 = some a19 ∧ (0 ≤ (IntKind.wrap .i64 (ix1 + (1 : Int))) ∧ (IntKind.wrap .i64 (ix1 + (1 : Int))) < (l16 : Int)) ∧
 ∃ p20, w_1.cell? (a19.add ((IntKind.wrap .i64 (ix1 + (1 : Int))).toNat * 1)) = some (.pointer p20) ∧
 Jn (α := World → Prop) (fun J =>
  Dr w_1 fun w_3 =>
  ∃ a22, p12 = some a22 ∧
  ∃ a25, p12 = some a25 ∧
  ∃ a31, px0 = some a31 ∧
  (
   ∃ p28 l28 c28, w_3.cell? a25 = some (.slice p28 l28 c28) ∧
   Calls prog f_tree_shelf_string_remove #[.pointer (some a31), .int .i64 ix1] w_3 fun e w_4 => ∃ s34 s34_1, e = .returned (.agg #[.string s34, .string s34_1]) ∧
   Calls prog f_tree_shelf_string_insert #[.pointer (some a22), .int .i64 (l28 : Int), .agg #[.string s34, .string s34_1]] w_4 fun e_1 w_5 => e_1 = .returned (.tuple #[]) ∧
   J w_5
  ) ∧
  (
   Calls prog f_tree_shelf_string_remove #[.pointer (some a31), .int .i64 ix1] w_3 fun e_2 w_6 => ∃ s34_2 s34_3, e_2 = .returned (.agg #[.string s34_2, .string s34_3]) ∧
   ∃ p28_1 l28_1 c28_1, w_6.cell? a25 = some (.slice p28_1 l28_1 c28_1) ∧
   Calls prog f_tree_shelf_string_insert #[.pointer (some a22), .int .i64 (l28_1 : Int), .agg #[.string s34_2, .string s34_3]] w_6 fun e_3 w_7 => e_3 = .returned (.tuple #[]) ∧
   J w_7
  )
 ) (fun w_2 =>
  Dr w_2 fun w_8 =>
  ∃ a38, p12 = some a38 ∧
  ∃ a43, p20 = some a43 ∧
  ∃ p41 l41 c41, w_8.cell? a38 = some (.slice p41 l41 c41) ∧
  ∃ p46 l46 c46, w_8.cell? a43 = some (.slice p46 l46 c46) ∧
  Run prog (Builtin.append_ #[70, 70] 70 #[.slice p41 l41 c41, .slice p46 l46 c46]) w_8 fun v47 w_9 => ∃ p47 l47 c47, v47 = .slice p47 l47 c47 ∧
  ∃ a48, p12 = some a48 ∧
  St w_9 a48 (.slice p47 l47 c47) fun w_10 =>
  Dr w_10 fun w_11 =>
  ∃ a53, p12 = some a53 ∧
  ∃ a57, p20 = some a57 ∧
  ∃ p55 l55 c55, w_11.cell? (a53.add 1) = some (.slice p55 l55 c55) ∧
  ∃ p59 l59 c59, w_11.cell? (a57.add 1) = some (.slice p59 l59 c59) ∧
  Run prog (Builtin.append_ #[73, 73] 73 #[.slice p55 l55 c55, .slice p59 l59 c59]) w_11 fun v60 w_12 => ∃ p60 l60 c60, v60 = .slice p60 l60 c60 ∧
  ∃ a61, p12 = some a61 ∧
  St w_12 (a61.add 1) (.slice p60 l60 c60) fun w_13 =>
  ∃ a65, px0 = some a65 ∧
  ∃ p67 l67 c67, w_13.cell? (a65.add 1) = some (.slice p67 l67 c67) ∧
  Calls prog f_slices_Delete_ptr_tree_page_string #[.slice p67 l67 c67, .int .i64 (IntKind.wrap .i64 (ix1 + (1 : Int))), .int .i64 (IntKind.wrap .i64 (ix1 + (2 : Int)))] w_13 fun e_4 w_14 => ∃ p72 l72 c72, e_4 = .returned (.slice p72 l72 c72) ∧
  ∃ a73, px0 = some a73 ∧
  St w_14 (a73.add 1) (.slice p72 l72 c72) fun w_15 =>
  R (.returned (.tuple #[])) w_15
 )
theorem eqV.tree_page_string_join (px0 : Option Addr) (ix1 : Int) (w : World) (R : Ending → World → Prop) : vcFn prog Try.f81 lv_tree_page_string_join [.pointer px0, .int .i64 ix1] w R = V.tree_page_string_join px0 ix1 w R := by kernel_rfl
theorem ok.tree_page_string_join {px0 : Option Addr} {ix1 : Int} {w : World} {R : Ending → World → Prop} (h : V.tree_page_string_join px0 ix1 w R) : Calls prog f_tree_page_string_join #[.pointer px0, .int .i64 ix1] w R := calls_of mix lv_tree_page_string_join Try.func81 (by rw [Try.ntmps81]; exact Nat.le_of_ble_eq_true rfl) (cast (eqV.tree_page_string_join px0 ix1 w R).symm h)
/-! #### slices.rotateRight[afflux/tree.entry[string]] -/
def lv_slices_rotateRight_tree_entry_string : Nat → List Nat := fun _ => []
def V.slices_rotateRight_tree_entry_string (px0 : Option Addr) (lx0 : Nat) (cx0 : Nat) (ix1 : Int) (w : World) (R : Ending → World → Prop) : Prop :=
 Calls prog f_slices_rotateLeft_tree_entry_string #[.slice px0 lx0 cx0, .int .i64 (IntKind.wrap .i64 ((lx0 : Int) - ix1))] w fun e w_1 => e = .returned (.tuple #[]) ∧
 R (.returned (.tuple #[])) w_1
theorem eqV.slices_rotateRight_tree_entry_string (px0 : Option Addr) (lx0 : Nat) (cx0 : Nat) (ix1 : Int) (w : World) (R : Ending → World → Prop) : vcFn prog Try.f86 lv_slices_rotateRight_tree_entry_string [.slice px0 lx0 cx0, .int .i64 ix1] w R = V.slices_rotateRight_tree_entry_string px0 lx0 cx0 ix1 w R := by kernel_rfl
theorem ok.slices_rotateRight_tree_entry_string {px0 : Option Addr} {lx0 : Nat} {cx0 : Nat} {ix1 : Int} {w : World} {R : Ending → World → Prop} (h : V.slices_rotateRight_tree_entry_string px0 lx0 cx0 ix1 w R) : Calls prog f_slices_rotateRight_tree_entry_string #[.slice px0 lx0 cx0, .int .i64 ix1] w R := calls_of mix lv_slices_rotateRight_tree_entry_string Try.func86 (by rw [Try.ntmps86]; exact Nat.le_of_ble_eq_true rfl) (cast (eqV.slices_rotateRight_tree_entry_string px0 lx0 cx0 ix1 w R).symm h)
/-! #### slices.rotateLeft[*afflux/tree.page[string]] -/
def lv_slices_rotateLeft_ptr_tree_page_string : Nat → List Nat := fun _ => []
def V.slices_rotateLeft_ptr_tree_page_string (px0 : Option Addr) (lx0 : Nat) (cx0 : Nat) (ix1 : Int) (w : World) (R : Ending → World → Prop) : Prop :=
 SlB lx0 cx0 none (some ix1) none fun lo6 hi6 mx6 =>
 Calls prog f_slices_Reverse_ptr_tree_page_string #[.slice (slAt px0 lo6 mx6 1) (hi6 - lo6) (mx6 - lo6)] w fun e w_1 => e = .returned (.tuple #[]) ∧
 SlB lx0 cx0 (some ix1) none none fun lo10 hi10 mx10 =>
 Calls prog f_slices_Reverse_ptr_tree_page_string #[.slice (slAt px0 lo10 mx10 1) (hi10 - lo10) (mx10 - lo10)] w_1 fun e_1 w_2 => e_1 = .returned (.tuple #[]) ∧
 Calls prog f_slices_Reverse_ptr_tree_page_string #[.slice px0 lx0 cx0] w_2 fun e_2 w_3 => e_2 = .returned (.tuple #[]) ∧
 R (.returned (.tuple #[])) w_3
theorem eqV.slices_rotateLeft_ptr_tree_page_string (px0 : Option Addr) (lx0 : Nat) (cx0 : Nat) (ix1 : Int) (w : World) (R : Ending → World → Prop) : vcFn prog Try.f87 lv_slices_rotateLeft_ptr_tree_page_string [.slice px0 lx0 cx0, .int .i64 ix1] w R = V.slices_rotateLeft_ptr_tree_page_string px0 lx0 cx0 ix1 w R := by kernel_rfl
theorem ok.slices_rotateLeft_ptr_tree_page_string {px0 : Option Addr} {lx0 : Nat} {cx0 : Nat} {ix1 : Int} {w : World} {R : Ending → World → Prop} (h : V.slices_rotateLeft_ptr_tree_page_string px0 lx0 cx0 ix1 w R) : Calls prog f_slices_rotateLeft_ptr_tree_page_string #[.slice px0 lx0 cx0, .int .i64 ix1] w R := calls_of mix lv_slices_rotateLeft_ptr_tree_page_string Try.func87 (by rw [Try.ntmps87]; exact Nat.le_of_ble_eq_true rfl) (cast (eqV.slices_rotateLeft_ptr_tree_page_string px0 lx0 cx0 ix1 w R).symm h)
/-! #### slices.Delete[[]*afflux/tree.page[string],*afflux/tree.page[string]] -/
def lv_slices_Delete_ptr_tree_page_string : Nat → List Nat := fun _ => []
def V.slices_Delete_ptr_tree_page_string (px0 : Option Addr) (lx0 : Nat) (cx0 : Nat) (ix1 : Int) (ix2 : Int) (w : World) (R : Ending → World → Prop) : Prop :=
 SlB lx0 cx0 (some ix1) (some ix2) (some (lx0 : Int)) fun lo13 hi13 mx13 =>
 Br (ix1 == ix2) (
  R (.returned (.slice px0 lx0 cx0)) w
 ) (
  Dr w fun w_1 =>
  SlB lx0 cx0 none (some ix1) none fun lo22 hi22 mx22 =>
  SlB lx0 cx0 (some ix2) none none fun lo25 hi25 mx25 =>
  Run prog (Builtin.append_ #[73, 73] 73 #[.slice (slAt px0 lo22 mx22 1) (hi22 - lo22) (mx22 - lo22), .slice (slAt px0 lo25 mx25 1) (hi25 - lo25) (mx25 - lo25)]) w_1 fun v26 w_2 => ∃ p26 l26 c26, v26 = .slice p26 l26 c26 ∧
  SlB l26 c26 (some (l26 : Int)) (some (lx0 : Int)) none fun lo31 hi31 mx31 =>
  Run prog (Builtin.clear_ #[73] 0 #[.slice (slAt p26 lo31 mx31 1) (hi31 - lo31) (mx31 - lo31)]) w_2 fun v w_3 =>
  R (.returned (.slice p26 l26 c26)) w_3
 )
theorem eqV.slices_Delete_ptr_tree_page_string (px0 : Option Addr) (lx0 : Nat) (cx0 : Nat) (ix1 : Int) (ix2 : Int) (w : World) (R : Ending → World → Prop) : vcFn prog Try.f89 lv_slices_Delete_ptr_tree_page_string [.slice px0 lx0 cx0, .int .i64 ix1, .int .i64 ix2] w R = V.slices_Delete_ptr_tree_page_string px0 lx0 cx0 ix1 ix2 w R := by kernel_rfl
theorem ok.slices_Delete_ptr_tree_page_string {px0 : Option Addr} {lx0 : Nat} {cx0 : Nat} {ix1 : Int} {ix2 : Int} {w : World} {R : Ending → World → Prop} (h : V.slices_Delete_ptr_tree_page_string px0 lx0 cx0 ix1 ix2 w R) : Calls prog f_slices_Delete_ptr_tree_page_string #[.slice px0 lx0 cx0, .int .i64 ix1, .int .i64 ix2] w R := calls_of mix lv_slices_Delete_ptr_tree_page_string Try.func89 (by rw [Try.ntmps89]; exact Nat.le_of_ble_eq_true rfl) (cast (eqV.slices_Delete_ptr_tree_page_string px0 lx0 cx0 ix1 ix2 w R).symm h)
/-! #### slices.rotateLeft[afflux/tree.entry[string]] -/
def lv_slices_rotateLeft_tree_entry_string : Nat → List Nat := fun _ => []
def V.slices_rotateLeft_tree_entry_string (px0 : Option Addr) (lx0 : Nat) (cx0 : Nat) (ix1 : Int) (w : World) (R : Ending → World → Prop) : Prop :=
 SlB lx0 cx0 none (some ix1) none fun lo6 hi6 mx6 =>
 Calls prog f_slices_Reverse_tree_entry_string #[.slice (slAt px0 lo6 mx6 2) (hi6 - lo6) (mx6 - lo6)] w fun e w_1 => e = .returned (.tuple #[]) ∧
 SlB lx0 cx0 (some ix1) none none fun lo10 hi10 mx10 =>
 Calls prog f_slices_Reverse_tree_entry_string #[.slice (slAt px0 lo10 mx10 2) (hi10 - lo10) (mx10 - lo10)] w_1 fun e_1 w_2 => e_1 = .returned (.tuple #[]) ∧
 Calls prog f_slices_Reverse_tree_entry_string #[.slice px0 lx0 cx0] w_2 fun e_2 w_3 => e_2 = .returned (.tuple #[]) ∧
 R (.returned (.tuple #[])) w_3
theorem eqV.slices_rotateLeft_tree_entry_string (px0 : Option Addr) (lx0 : Nat) (cx0 : Nat) (ix1 : Int) (w : World) (R : Ending → World → Prop) : vcFn prog Try.f92 lv_slices_rotateLeft_tree_entry_string [.slice px0 lx0 cx0, .int .i64 ix1] w R = V.slices_rotateLeft_tree_entry_string px0 lx0 cx0 ix1 w R := by kernel_rfl
theorem ok.slices_rotateLeft_tree_entry_string {px0 : Option Addr} {lx0 : Nat} {cx0 : Nat} {ix1 : Int} {w : World} {R : Ending → World → Prop} (h : V.slices_rotateLeft_tree_entry_string px0 lx0 cx0 ix1 w R) : Calls prog f_slices_rotateLeft_tree_entry_string #[.slice px0 lx0 cx0, .int .i64 ix1] w R := calls_of mix lv_slices_rotateLeft_tree_entry_string Try.func92 (by rw [Try.ntmps92]; exact Nat.le_of_ble_eq_true rfl) (cast (eqV.slices_rotateLeft_tree_entry_string px0 lx0 cx0 ix1 w R).symm h)
/-! #### slices.Reverse[[]*afflux/tree.page[string],*afflux/tree.page[string]] -/
def lv_slices_Reverse_ptr_tree_page_string : Nat → List Nat := fun k => match k with | 1 => [0, 2, 3] | _ => []
def L.slices_Reverse_ptr_tree_page_string_L0 (p0 : Option Addr) (l0 : Nat) (c0 : Nat) (i2 : Int) (i3 : Int) (w : World) (R : Ending → World → Prop) : Prop :=
 LoopAt prog Try.f93 lv_slices_Reverse_ptr_tree_page_string [1, 0] R [(0, .slice p0 l0 c0), (2, .int .i64 i2), (3, .int .i64 i3)] w
def B.slices_Reverse_ptr_tree_page_string_L0 (p0 : Option Addr) (l0 : Nat) (c0 : Nat) (i2 : Int) (i3 : Int) (w : World) (R : Ending → World → Prop) : Prop :=
 Br (decide (i2 < i3)) (
  Dr w fun w_1 =>
  ∃ a20, p0 = some a20 ∧ (0 ≤ i3 ∧ i3 < (l0 : Int)) ∧
  ∃ a24, p0 = some a24 ∧ (0 ≤ i2 ∧ i2 < (l0 : Int)) ∧
  ∃ p21, w_1.cell? (a20.add (i3.toNat * 1)) = some (.pointer p21) ∧
  ∃ p25, w_1.cell? (a24.add (i2.toNat * 1)) = some (.pointer p25) ∧
  ∃ a26, p0 = some a26 ∧ (0 ≤ i2 ∧ i2 < (l0 : Int)) ∧
  St w_1 (a26.add (i2.toNat * 1)) (.pointer p21) fun w_2 =>
  ∃ a27, p0 = some a27 ∧ (0 ≤ i3 ∧ i3 < (l0 : Int)) ∧
  St w_2 (a27.add (i3.toNat * 1)) (.pointer p25) fun w_3 =>
  Lt ((IntKind.wrap .i64 (i2 + (1 : Int))) : Int) fun i2_1 =>
  Lt ((IntKind.wrap .i64 (i3 - (1 : Int))) : Int) fun i3_1 =>
  L.slices_Reverse_ptr_tree_page_string_L0 p0 l0 c0 i2_1 i3_1 w_3 R
 ) (
  R (.returned (.tuple #[])) w
 )
def V.slices_Reverse_ptr_tree_page_string (px0 : Option Addr) (lx0 : Nat) (cx0 : Nat) (w : World) (R : Ending → World → Prop) : Prop :=
 Lt ((IntKind.wrap .i64 ((lx0 : Int) - (1 : Int))) : Int) fun i3 =>
 L.slices_Reverse_ptr_tree_page_string_L0 px0 lx0 cx0 0 i3 w R
theorem eqB.slices_Reverse_ptr_tree_page_string_L0 (p0 : Option Addr) (l0 : Nat) (c0 : Nat) (i2 : Int) (i3 : Int) (w : World) (R : Ending → World → Prop) : RoundAt prog Try.f93 lv_slices_Reverse_ptr_tree_page_string [1, 0] R [(0, .slice p0 l0 c0), (2, .int .i64 i2), (3, .int .i64 i3)] w = B.slices_Reverse_ptr_tree_page_string_L0 p0 l0 c0 i2 i3 w R := by kernel_rfl
theorem round.slices_Reverse_ptr_tree_page_string_L0 {p0 : Option Addr} {l0 : Nat} {c0 : Nat} {i2 : Int} {i3 : Int} {w : World} {R : Ending → World → Prop} (h : B.slices_Reverse_ptr_tree_page_string_L0 p0 l0 c0 i2 i3 w R) : L.slices_Reverse_ptr_tree_page_string_L0 p0 l0 c0 i2 i3 w R := LoopAt.unfold mix (cast (eqB.slices_Reverse_ptr_tree_page_string_L0 p0 l0 c0 i2 i3 w R).symm h)
theorem eqV.slices_Reverse_ptr_tree_page_string (px0 : Option Addr) (lx0 : Nat) (cx0 : Nat) (w : World) (R : Ending → World → Prop) : vcFn prog Try.f93 lv_slices_Reverse_ptr_tree_page_string [.slice px0 lx0 cx0] w R = V.slices_Reverse_ptr_tree_page_string px0 lx0 cx0 w R := by kernel_rfl
theorem ok.slices_Reverse_ptr_tree_page_string {px0 : Option Addr} {lx0 : Nat} {cx0 : Nat} {w : World} {R : Ending → World → Prop} (h : V.slices_Reverse_ptr_tree_page_string px0 lx0 cx0 w R) : Calls prog f_slices_Reverse_ptr_tree_page_string #[.slice px0 lx0 cx0] w R := calls_of mix lv_slices_Reverse_ptr_tree_page_string Try.func93 (by rw [Try.ntmps93]; exact Nat.le_of_ble_eq_true rfl) (cast (eqV.slices_Reverse_ptr_tree_page_string px0 lx0 cx0 w R).symm h)
/-! #### slices.Reverse[[]afflux/tree.entry[string],afflux/tree.entry[string]] -/
def lv_slices_Reverse_tree_entry_string : Nat → List Nat := fun k => match k with | 1 => [0, 2, 3] | _ => []
def L.slices_Reverse_tree_entry_string_L0 (p0 : Option Addr) (l0 : Nat) (c0 : Nat) (i2 : Int) (i3 : Int) (w : World) (R : Ending → World → Prop) : Prop :=
 LoopAt prog Try.f95 lv_slices_Reverse_tree_entry_string [1, 0] R [(0, .slice p0 l0 c0), (2, .int .i64 i2), (3, .int .i64 i3)] w
def B.slices_Reverse_tree_entry_string_L0 (p0 : Option Addr) (l0 : Nat) (c0 : Nat) (i2 : Int) (i3 : Int) (w : World) (R : Ending → World → Prop) : Prop :=
 Br (decide (i2 < i3)) (
  Dr w fun w_1 =>
  ∃ a20, p0 = some a20 ∧ (0 ≤ i3 ∧ i3 < (l0 : Int)) ∧
  ∃ a24, p0 = some a24 ∧ (0 ≤ i2 ∧ i2 < (l0 : Int)) ∧
  ∃ s21, w_1.cell? (a20.add (i3.toNat * 2)) = some (.string s21) ∧
  ∃ s21_1, w_1.cell? ((a20.add (i3.toNat * 2)).add 1) = some (.string s21_1) ∧
  ∃ s25, w_1.cell? (a24.add (i2.toNat * 2)) = some (.string s25) ∧
  ∃ s25_1, w_1.cell? ((a24.add (i2.toNat * 2)).add 1) = some (.string s25_1) ∧
  ∃ a26, p0 = some a26 ∧ (0 ≤ i2 ∧ i2 < (l0 : Int)) ∧
  St w_1 (a26.add (i2.toNat * 2)) (.string s21) fun w_2 =>
  St w_2 ((a26.add (i2.toNat * 2)).add 1) (.string s21_1) fun w_3 =>
  ∃ a27, p0 = some a27 ∧ (0 ≤ i3 ∧ i3 < (l0 : Int)) ∧
  St w_3 (a27.add (i3.toNat * 2)) (.string s25) fun w_4 =>
  St w_4 ((a27.add (i3.toNat * 2)).add 1) (.string s25_1) fun w_5 =>
  Lt ((IntKind.wrap .i64 (i2 + (1 : Int))) : Int) fun i2_1 =>
  Lt ((IntKind.wrap .i64 (i3 - (1 : Int))) : Int) fun i3_1 =>
  L.slices_Reverse_tree_entry_string_L0 p0 l0 c0 i2_1 i3_1 w_5 R
 ) (
  R (.returned (.tuple #[])) w
 )
def V.slices_Reverse_tree_entry_string (px0 : Option Addr) (lx0 : Nat) (cx0 : Nat) (w : World) (R : Ending → World → Prop) : Prop :=
 Lt ((IntKind.wrap .i64 ((lx0 : Int) - (1 : Int))) : Int) fun i3 =>
 L.slices_Reverse_tree_entry_string_L0 px0 lx0 cx0 0 i3 w R
theorem eqB.slices_Reverse_tree_entry_string_L0 (p0 : Option Addr) (l0 : Nat) (c0 : Nat) (i2 : Int) (i3 : Int) (w : World) (R : Ending → World → Prop) : RoundAt prog Try.f95 lv_slices_Reverse_tree_entry_string [1, 0] R [(0, .slice p0 l0 c0), (2, .int .i64 i2), (3, .int .i64 i3)] w = B.slices_Reverse_tree_entry_string_L0 p0 l0 c0 i2 i3 w R := by kernel_rfl
theorem round.slices_Reverse_tree_entry_string_L0 {p0 : Option Addr} {l0 : Nat} {c0 : Nat} {i2 : Int} {i3 : Int} {w : World} {R : Ending → World → Prop} (h : B.slices_Reverse_tree_entry_string_L0 p0 l0 c0 i2 i3 w R) : L.slices_Reverse_tree_entry_string_L0 p0 l0 c0 i2 i3 w R := LoopAt.unfold mix (cast (eqB.slices_Reverse_tree_entry_string_L0 p0 l0 c0 i2 i3 w R).symm h)
theorem eqV.slices_Reverse_tree_entry_string (px0 : Option Addr) (lx0 : Nat) (cx0 : Nat) (w : World) (R : Ending → World → Prop) : vcFn prog Try.f95 lv_slices_Reverse_tree_entry_string [.slice px0 lx0 cx0] w R = V.slices_Reverse_tree_entry_string px0 lx0 cx0 w R := by kernel_rfl
theorem ok.slices_Reverse_tree_entry_string {px0 : Option Addr} {lx0 : Nat} {cx0 : Nat} {w : World} {R : Ending → World → Prop} (h : V.slices_Reverse_tree_entry_string px0 lx0 cx0 w R) : Calls prog f_slices_Reverse_tree_entry_string #[.slice px0 lx0 cx0] w R := calls_of mix lv_slices_Reverse_tree_entry_string Try.func95 (by rw [Try.ntmps95]; exact Nat.le_of_ble_eq_true rfl) (cast (eqV.slices_Reverse_tree_entry_string px0 lx0 cx0 w R).symm h)
end Go.Proofs.Ytohhoojcgcbmcaa
