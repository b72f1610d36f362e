/- The clean conditions of functions, printed by a program of this work (gen.py) out of the dump. -/
import Derived.Test.YtohhoojcgcbmcaaNamesT
set_option maxRecDepth 4000
set_option linter.unusedVariables false
set_option linter.unusedSimpArgs false
namespace Go.Proofs.Ytohhoojcgcbmcaa
open Go Go.Vc Go.Proofs
set_option linter.unusedVariables false
/-! #### afflux/affluxlaw08.TreeKeys -/
def lv_affluxlaw08_TreeKeys : Nat → List Nat := fun k => match k with | 9 => [1, 2, 3, 9, 10, 12, 13, 14] | _ => []
def L.affluxlaw08_TreeKeys_L0 (s1 : ByteArray) (s2 : ByteArray) (i3 : Int) (p9 : Option Addr) (p10 : Option Addr) (l10 : Nat) (c10 : Nat) (p12 : Option Addr) (l12 : Nat) (c12 : Nat) (i13 : Int) (i14 : Int) (w : World) (R : Ending → World → Prop) : Prop :=
 LoopAt prog Try.f3 lv_affluxlaw08_TreeKeys [1, 1, 1, 1, 1, 1, 0, 1, 0] R [(1, .string s1), (2, .string s2), (3, .int .i64 i3), (9, .pointer p9), (10, .slice p10 l10 c10), (12, .slice p12 l12 c12), (13, .int .i64 i13), (14, .int .i64 i14)] w
def B.affluxlaw08_TreeKeys_L0 (s1 : ByteArray) (s2 : ByteArray) (i3 : Int) (p9 : Option Addr) (p10 : Option Addr) (l10 : Nat) (c10 : Nat) (p12 : Option Addr) (l12 : Nat) (c12 : Nat) (i13 : Int) (i14 : Int) (w : World) (R : Ending → World → Prop) : Prop :=
 Br (decide (i14 < (l10 : Int))) (
  Jn (α := Bool → Prop) (fun J =>
   ∃ a48, p10 = some a48 ∧ (0 ≤ i14 ∧ i14 < (l10 : Int)) ∧
   ∃ s50, w.cell? (a48.add (i14.toNat * 2)) = some (.string s50) ∧
   Br (!(sLt s50 s1)) (
    Br (sEq s2 (str [])) (
     J true
    ) (
     ∃ a59, p10 = some a59 ∧ (0 ≤ i14 ∧ i14 < (l10 : Int)) ∧
     ∃ s61, w.cell? (a59.add (i14.toNat * 2)) = some (.string s61) ∧
     J (sLt s61 s2)
    )
   ) (
    J false
   )
  ) (fun b65 =>
   Br b65 (
    Lt ((IntKind.wrap .i64 (i13 + (1 : Int))) : Int) fun i13_1 =>
    Br (decide ((l12 : Int) < i3)) (
     ∃ a75, p10 = some a75 ∧ (0 ≤ i14 ∧ i14 < (l10 : Int)) ∧
     ∃ s77, w.cell? (a75.add (i14.toNat * 2)) = some (.string s77) ∧
     Al w (.cells #[.string s77] 9) fun a78 w_1 =>
     Run prog (Builtin.append_ #[29, 29] 29 #[.slice p12 l12 c12, .slice (some a78) 1 1]) w_1 fun v79 w_2 => ∃ p79 l79 c79, v79 = .slice p79 l79 c79 ∧
     Lt ((IntKind.wrap .i64 (i14 + (1 : Int))) : Int) fun i14_1 =>
     L.affluxlaw08_TreeKeys_L0 s1 s2 i3 p9 p10 l10 c10 p79 l79 c79 i13_1 i14_1 w_2 R
    ) (
     Lt ((IntKind.wrap .i64 (i14 + (1 : Int))) : Int) fun i14_2 =>
     L.affluxlaw08_TreeKeys_L0 s1 s2 i3 p9 p10 l10 c10 p12 l12 c12 i13_1 i14_2 w R
    )
   ) (
    Lt ((IntKind.wrap .i64 (i14 + (1 : Int))) : Int) fun i14_3 =>
    L.affluxlaw08_TreeKeys_L0 s1 s2 i3 p9 p10 l10 c10 p12 l12 c12 i13 i14_3 w R
   )
  )
 ) (
  Calls prog f_tree_Tree_int_Keys #[.pointer p9, .string s1, .string s2, .int .i64 i3] w fun e w_3 => ∃ p84 l84 c84, e = .returned (.slice p84 l84 c84) ∧
  Calls prog f_affluxref05_Same #[.slice p84 l84 c84, .slice p12 l12 c12] w_3 fun e_1 w_4 => ∃ b86, e_1 = .returned (.bool b86) ∧
  Br b86 (
   Calls prog f_tree_Tree_int_Count #[.pointer p9, .string s1, .string s2] w_4 fun e_2 w_5 => ∃ i91, e_2 = .returned (.int .i64 i91) ∧
   R (.returned (.bool (i91 == i13))) w_5
  ) (
   R (.returned (.bool false)) w_4
  )
 )
def V.affluxlaw08_TreeKeys (px0 : Option Addr) (lx0 : Nat) (cx0 : Nat) (sx1 : ByteArray) (sx2 : ByteArray) (ix3 : Int) (w : World) (R : Ending → World → Prop) : Prop :=
 Jn (α := World → Prop) (fun J =>
  Calls prog f_affluxlaw08_great #[.slice px0 lx0 cx0] w fun e w_2 => ∃ b16, e = .returned (.bool b16) ∧
  Br b16 (
   Br true (
    Br true (
     Br true (
      Calls prog f_affluxlaw08_awake #[] w_2 fun e_1 w_3 => ∃ b31, e_1 = .returned (.bool b31) ∧
      R (.returned (.bool b31)) w_3
     ) (
      J w_2
     )
    ) (
     Calls prog f_affluxlaw08_awake #[] w_2 fun e_2 w_4 => ∃ b28, e_2 = .returned (.bool b28) ∧
     Br (!b28) (
      Calls prog f_affluxlaw08_awake #[] w_4 fun e_3 w_5 => ∃ b31_1, e_3 = .returned (.bool b31_1) ∧
      R (.returned (.bool b31_1)) w_5
     ) (
      J w_4
     )
    )
   ) (
    Br (decide ((sx2.size : Int) > (100 : Int))) (
     Br true (
      Calls prog f_affluxlaw08_awake #[] w_2 fun e_4 w_6 => ∃ b31_2, e_4 = .returned (.bool b31_2) ∧
      R (.returned (.bool b31_2)) w_6
     ) (
      J w_2
     )
    ) (
     Calls prog f_affluxlaw08_awake #[] w_2 fun e_5 w_7 => ∃ b28_1, e_5 = .returned (.bool b28_1) ∧
     Br (!b28_1) (
      Calls prog f_affluxlaw08_awake #[] w_7 fun e_6 w_8 => ∃ b31_3, e_6 = .returned (.bool b31_3) ∧
      R (.returned (.bool b31_3)) w_8
     ) (
      J w_7
     )
    )
   )
  ) (
   Br (decide ((sx1.size : Int) > (100 : Int))) (
    Br true (
     Br true (
      Calls prog f_affluxlaw08_awake #[] w_2 fun e_7 w_9 => ∃ b31_4, e_7 = .returned (.bool b31_4) ∧
      R (.returned (.bool b31_4)) w_9
     ) (
      J w_2
     )
    ) (
     Calls prog f_affluxlaw08_awake #[] w_2 fun e_8 w_10 => ∃ b28_2, e_8 = .returned (.bool b28_2) ∧
     Br (!b28_2) (
      Calls prog f_affluxlaw08_awake #[] w_10 fun e_9 w_11 => ∃ b31_5, e_9 = .returned (.bool b31_5) ∧
      R (.returned (.bool b31_5)) w_11
     ) (
      J w_10
     )
    )
   ) (
    Br (decide ((sx2.size : Int) > (100 : Int))) (
     Br true (
      Calls prog f_affluxlaw08_awake #[] w_2 fun e_10 w_12 => ∃ b31_6, e_10 = .returned (.bool b31_6) ∧
      R (.returned (.bool b31_6)) w_12
     ) (
      J w_2
     )
    ) (
     Calls prog f_affluxlaw08_awake #[] w_2 fun e_11 w_13 => ∃ b28_3, e_11 = .returned (.bool b28_3) ∧
     Br (!b28_3) (
      Calls prog f_affluxlaw08_awake #[] w_13 fun e_12 w_14 => ∃ b31_7, e_12 = .returned (.bool b31_7) ∧
      R (.returned (.bool b31_7)) w_14
     ) (
      J w_13
     )
    )
   )
  )
 ) (fun w_1 =>
  Calls prog f_affluxlaw08_play #[.slice px0 lx0 cx0] w_1 fun e_13 w_15 => ∃ p34 p34_1 l34 c34 b34, e_13 = .returned (.tuple #[.pointer p34, .slice p34_1 l34 c34, .bool b34]) ∧
  Br (!b34) (
   R (.returned (.bool false)) w_15
  ) (
   L.affluxlaw08_TreeKeys_L0 sx1 sx2 ix3 p34 p34_1 l34 c34 none 0 0 0 0 w_15 R
  )
 )
theorem eqB.affluxlaw08_TreeKeys_L0 (s1 : ByteArray) (s2 : ByteArray) (i3 : Int) (p9 : Option Addr) (p10 : Option Addr) (l10 : Nat) (c10 : Nat) (p12 : Option Addr) (l12 : Nat) (c12 : Nat) (i13 : Int) (i14 : Int) (w : World) (R : Ending → World → Prop) : RoundAt prog Try.f3 lv_affluxlaw08_TreeKeys [1, 1, 1, 1, 1, 1, 0, 1, 0] R [(1, .string s1), (2, .string s2), (3, .int .i64 i3), (9, .pointer p9), (10, .slice p10 l10 c10), (12, .slice p12 l12 c12), (13, .int .i64 i13), (14, .int .i64 i14)] w = B.affluxlaw08_TreeKeys_L0 s1 s2 i3 p9 p10 l10 c10 p12 l12 c12 i13 i14 w R := by kernel_rfl
theorem round.affluxlaw08_TreeKeys_L0 {s1 : ByteArray} {s2 : ByteArray} {i3 : Int} {p9 : Option Addr} {p10 : Option Addr} {l10 : Nat} {c10 : Nat} {p12 : Option Addr} {l12 : Nat} {c12 : Nat} {i13 : Int} {i14 : Int} {w : World} {R : Ending → World → Prop} (h : B.affluxlaw08_TreeKeys_L0 s1 s2 i3 p9 p10 l10 c10 p12 l12 c12 i13 i14 w R) : L.affluxlaw08_TreeKeys_L0 s1 s2 i3 p9 p10 l10 c10 p12 l12 c12 i13 i14 w R := LoopAt.unfold mix (cast (eqB.affluxlaw08_TreeKeys_L0 s1 s2 i3 p9 p10 l10 c10 p12 l12 c12 i13 i14 w R).symm h)
theorem eqV.affluxlaw08_TreeKeys (px0 : Option Addr) (lx0 : Nat) (cx0 : Nat) (sx1 : ByteArray) (sx2 : ByteArray) (ix3 : Int) (w : World) (R : Ending → World → Prop) : vcFn prog Try.f3 lv_affluxlaw08_TreeKeys [.slice px0 lx0 cx0, .string sx1, .string sx2, .int .i64 ix3] w R = V.affluxlaw08_TreeKeys px0 lx0 cx0 sx1 sx2 ix3 w R := by kernel_rfl
theorem ok.affluxlaw08_TreeKeys {px0 : Option Addr} {lx0 : Nat} {cx0 : Nat} {sx1 : ByteArray} {sx2 : ByteArray} {ix3 : Int} {w : World} {R : Ending → World → Prop} (h : V.affluxlaw08_TreeKeys px0 lx0 cx0 sx1 sx2 ix3 w R) : Calls prog f_affluxlaw08_TreeKeys #[.slice px0 lx0 cx0, .string sx1, .string sx2, .int .i64 ix3] w R := calls_of mix lv_affluxlaw08_TreeKeys Try.func3 (by rw [Try.ntmps3]; exact Nat.le_of_ble_eq_true rfl) (cast (eqV.affluxlaw08_TreeKeys px0 lx0 cx0 sx1 sx2 ix3 w R).symm h)
/-! #### afflux/affluxlaw08.TreePlays -/
def lv_affluxlaw08_TreePlays : Nat → List Nat := fun k => match k with | 7 => [5, 6, 8] | _ => []
def L.affluxlaw08_TreePlays_L0 (p5 : Option Addr) (p6 : Option Addr) (l6 : Nat) (c6 : Nat) (i8 : Int) (w : World) (R : Ending → World → Prop) : Prop :=
 LoopAt prog Try.f5 lv_affluxlaw08_TreePlays [1, 1, 1, 1, 0, 1, 0] R [(5, .pointer p5), (6, .slice p6 l6 c6), (8, .int .i64 i8)] w
def B.affluxlaw08_TreePlays_L0 (p5 : Option Addr) (p6 : Option Addr) (l6 : Nat) (c6 : Nat) (i8 : Int) (w : World) (R : Ending → World → Prop) : Prop :=
 Br (decide (i8 < (l6 : Int))) (
  ∃ a46, p6 = some a46 ∧ (0 ≤ i8 ∧ i8 < (l6 : Int)) ∧
  ∃ s48, w.cell? (a46.add (i8.toNat * 2)) = some (.string s48) ∧
  Calls prog f_affluxlaw08_looks #[.pointer p5, .slice p6 l6 c6, .string s48] w fun e w_1 => ∃ b49, e = .returned (.bool b49) ∧
  Br (!b49) (
   R (.returned (.bool false)) w_1
  ) (
   Lt ((IntKind.wrap .i64 (i8 + (1 : Int))) : Int) fun i8_1 =>
   L.affluxlaw08_TreePlays_L0 p5 p6 l6 c6 i8_1 w_1 R
  )
 ) (
  R (.returned (.bool true)) w
 )
def V.affluxlaw08_TreePlays (px0 : Option Addr) (lx0 : Nat) (cx0 : Nat) (sx1 : ByteArray) (w : World) (R : Ending → World → Prop) : Prop :=
 Jn (α := World → Prop) (fun J =>
  Calls prog f_affluxlaw08_great #[.slice px0 lx0 cx0] w fun e w_2 => ∃ b10, e = .returned (.bool b10) ∧
  Br b10 (
   Br true (
    Br true (
     Calls prog f_affluxlaw08_awake #[] w_2 fun e_1 w_3 => ∃ b20, e_1 = .returned (.bool b20) ∧
     R (.returned (.bool b20)) w_3
    ) (
     J w_2
    )
   ) (
    Calls prog f_affluxlaw08_awake #[] w_2 fun e_2 w_4 => ∃ b17, e_2 = .returned (.bool b17) ∧
    Br (!b17) (
     Calls prog f_affluxlaw08_awake #[] w_4 fun e_3 w_5 => ∃ b20_1, e_3 = .returned (.bool b20_1) ∧
     R (.returned (.bool b20_1)) w_5
    ) (
     J w_4
    )
   )
  ) (
   Br (decide ((sx1.size : Int) > (100 : Int))) (
    Br true (
     Calls prog f_affluxlaw08_awake #[] w_2 fun e_4 w_6 => ∃ b20_2, e_4 = .returned (.bool b20_2) ∧
     R (.returned (.bool b20_2)) w_6
    ) (
     J w_2
    )
   ) (
    Calls prog f_affluxlaw08_awake #[] w_2 fun e_5 w_7 => ∃ b17_1, e_5 = .returned (.bool b17_1) ∧
    Br (!b17_1) (
     Calls prog f_affluxlaw08_awake #[] w_7 fun e_6 w_8 => ∃ b20_3, e_6 = .returned (.bool b20_3) ∧
     R (.returned (.bool b20_3)) w_8
    ) (
     J w_7
    )
   )
  )
 ) (fun w_1 =>
  Calls prog f_affluxlaw08_play #[.slice px0 lx0 cx0] w_1 fun e_7 w_9 => ∃ p23 p23_1 l23 c23 b23, e_7 = .returned (.tuple #[.pointer p23, .slice p23_1 l23 c23, .bool b23]) ∧
  Br (!b23) (
   Br true (
    R (.returned (.bool false)) w_9
   ) (
    L.affluxlaw08_TreePlays_L0 p23 p23_1 l23 c23 0 w_9 R
   )
  ) (
   Calls prog f_affluxlaw08_looks #[.pointer p23, .slice p23_1 l23 c23, .string sx1] w_9 fun e_8 w_10 => ∃ b33, e_8 = .returned (.bool b33) ∧
   Br (!b33) (
    R (.returned (.bool false)) w_10
   ) (
    L.affluxlaw08_TreePlays_L0 p23 p23_1 l23 c23 0 w_10 R
   )
  )
 )
theorem eqB.affluxlaw08_TreePlays_L0 (p5 : Option Addr) (p6 : Option Addr) (l6 : Nat) (c6 : Nat) (i8 : Int) (w : World) (R : Ending → World → Prop) : RoundAt prog Try.f5 lv_affluxlaw08_TreePlays [1, 1, 1, 1, 0, 1, 0] R [(5, .pointer p5), (6, .slice p6 l6 c6), (8, .int .i64 i8)] w = B.affluxlaw08_TreePlays_L0 p5 p6 l6 c6 i8 w R := by kernel_rfl
theorem round.affluxlaw08_TreePlays_L0 {p5 : Option Addr} {p6 : Option Addr} {l6 : Nat} {c6 : Nat} {i8 : Int} {w : World} {R : Ending → World → Prop} (h : B.affluxlaw08_TreePlays_L0 p5 p6 l6 c6 i8 w R) : L.affluxlaw08_TreePlays_L0 p5 p6 l6 c6 i8 w R := LoopAt.unfold mix (cast (eqB.affluxlaw08_TreePlays_L0 p5 p6 l6 c6 i8 w R).symm h)
theorem eqV.affluxlaw08_TreePlays (px0 : Option Addr) (lx0 : Nat) (cx0 : Nat) (sx1 : ByteArray) (w : World) (R : Ending → World → Prop) : vcFn prog Try.f5 lv_affluxlaw08_TreePlays [.slice px0 lx0 cx0, .string sx1] w R = V.affluxlaw08_TreePlays px0 lx0 cx0 sx1 w R := by kernel_rfl
theorem ok.affluxlaw08_TreePlays {px0 : Option Addr} {lx0 : Nat} {cx0 : Nat} {sx1 : ByteArray} {w : World} {R : Ending → World → Prop} (h : V.affluxlaw08_TreePlays px0 lx0 cx0 sx1 w R) : Calls prog f_affluxlaw08_TreePlays #[.slice px0 lx0 cx0, .string sx1] w R := calls_of mix lv_affluxlaw08_TreePlays Try.func5 (by rw [Try.ntmps5]; exact Nat.le_of_ble_eq_true rfl) (cast (eqV.affluxlaw08_TreePlays px0 lx0 cx0 sx1 w R).symm h)
/-! #### afflux/affluxlaw08.TreeNone -/
def lv_affluxlaw08_TreeNone : Nat → List Nat := fun _ => []
def V.affluxlaw08_TreeNone (sx0 : ByteArray) (ix1 : Int) (w : World) (R : Ending → World → Prop) : Prop :=
 Br (decide ((sx0.size : Int) > (100 : Int))) (
  Calls prog f_affluxlaw08_awake #[] w fun e w_1 => ∃ b13, e = .returned (.bool b13) ∧
  R (.returned (.bool b13)) w_1
 ) (
  Calls prog f_tree_Tree_int_Put #[.pointer none, .string sx0, .int .i64 ix1] w fun e_1 w_2 => ∃ i18 b18, e_1 = .returned (.tuple #[.int .i64 i18, .bool b18]) ∧
  Calls prog f_tree_Tree_int_Delete #[.pointer none, .string sx0] w_2 fun e_2 w_3 => ∃ i24 b24, e_2 = .returned (.tuple #[.int .i64 i24, .bool b24]) ∧
  Br (i18 == (0 : Int)) (
   Br (!b18) (
    Br (i24 == (0 : Int)) (
     Br (!b24) (
      Calls prog f_affluxlaw08_looks #[.pointer none, .slice none 0 0, .string sx0] w_3 fun e_3 w_4 => ∃ b44, e_3 = .returned (.bool b44) ∧
      Br b44 (
       Calls prog f_tree_Tree_int_Keys #[.pointer none, .string sx0, .string (str []), .int .i64 5] w_4 fun e_4 w_5 => ∃ p49 l49 c49, e_4 = .returned (.slice p49 l49 c49) ∧
       Br ((l49 : Int) == (0 : Int)) (
        Calls prog f_tree_Tree_int_Count #[.pointer none, .string sx0, .string (str [])] w_5 fun e_5 w_6 => ∃ i56, e_5 = .returned (.int .i64 i56) ∧
        Br (i56 == (0 : Int)) (
         Calls prog f_tree_Tree_int_Depth #[.pointer none] w_6 fun e_6 w_7 => ∃ i61, e_6 = .returned (.int .i64 i61) ∧
         Br (i61 == (0 : Int)) (
          Calls prog f_tree_Tree_int_Pages #[.pointer none] w_7 fun e_7 w_8 => ∃ p66 l66 c66, e_7 = .returned (.slice p66 l66 c66) ∧
          Br ((l66 : Int) == (0 : Int)) (
           Calls prog f_affluxlaw08_awake #[] w_8 fun e_8 w_9 => ∃ b71, e_8 = .returned (.bool b71) ∧
           R (.returned (.bool b71)) w_9
          ) (
           R (.returned (.bool false)) w_8
          )
         ) (
          Br false (
           Calls prog f_affluxlaw08_awake #[] w_7 fun e_9 w_10 => ∃ b71_1, e_9 = .returned (.bool b71_1) ∧
           R (.returned (.bool b71_1)) w_10
          ) (
           R (.returned (.bool false)) w_7
          )
         )
        ) (
         Br false (
          Calls prog f_tree_Tree_int_Pages #[.pointer none] w_6 fun e_10 w_11 => ∃ p66_1 l66_1 c66_1, e_10 = .returned (.slice p66_1 l66_1 c66_1) ∧
          Br ((l66_1 : Int) == (0 : Int)) (
           Calls prog f_affluxlaw08_awake #[] w_11 fun e_11 w_12 => ∃ b71_2, e_11 = .returned (.bool b71_2) ∧
           R (.returned (.bool b71_2)) w_12
          ) (
           R (.returned (.bool false)) w_11
          )
         ) (
          Br false (
           Calls prog f_affluxlaw08_awake #[] w_6 fun e_12 w_13 => ∃ b71_3, e_12 = .returned (.bool b71_3) ∧
           R (.returned (.bool b71_3)) w_13
          ) (
           R (.returned (.bool false)) w_6
          )
         )
        )
       ) (
        Br false (
         Calls prog f_tree_Tree_int_Depth #[.pointer none] w_5 fun e_13 w_14 => ∃ i61_1, e_13 = .returned (.int .i64 i61_1) ∧
         Br (i61_1 == (0 : Int)) (
          Calls prog f_tree_Tree_int_Pages #[.pointer none] w_14 fun e_14 w_15 => ∃ p66_2 l66_2 c66_2, e_14 = .returned (.slice p66_2 l66_2 c66_2) ∧
          Br ((l66_2 : Int) == (0 : Int)) (
           Calls prog f_affluxlaw08_awake #[] w_15 fun e_15 w_16 => ∃ b71_4, e_15 = .returned (.bool b71_4) ∧
           R (.returned (.bool b71_4)) w_16
          ) (
           R (.returned (.bool false)) w_15
          )
         ) (
          Br false (
           Calls prog f_affluxlaw08_awake #[] w_14 fun e_16 w_17 => ∃ b71_5, e_16 = .returned (.bool b71_5) ∧
           R (.returned (.bool b71_5)) w_17
          ) (
           R (.returned (.bool false)) w_14
          )
         )
        ) (
         Br false (
          Calls prog f_tree_Tree_int_Pages #[.pointer none] w_5 fun e_17 w_18 => ∃ p66_3 l66_3 c66_3, e_17 = .returned (.slice p66_3 l66_3 c66_3) ∧
          Br ((l66_3 : Int) == (0 : Int)) (
           Calls prog f_affluxlaw08_awake #[] w_18 fun e_18 w_19 => ∃ b71_6, e_18 = .returned (.bool b71_6) ∧
           R (.returned (.bool b71_6)) w_19
          ) (
           R (.returned (.bool false)) w_18
          )
         ) (
          Br false (
           Calls prog f_affluxlaw08_awake #[] w_5 fun e_19 w_20 => ∃ b71_7, e_19 = .returned (.bool b71_7) ∧
           R (.returned (.bool b71_7)) w_20
          ) (
           R (.returned (.bool false)) w_5
          )
         )
        )
       )
      ) (
       Br false (
        Calls prog f_tree_Tree_int_Count #[.pointer none, .string sx0, .string (str [])] w_4 fun e_20 w_21 => ∃ i56_1, e_20 = .returned (.int .i64 i56_1) ∧
        Br (i56_1 == (0 : Int)) (
         Calls prog f_tree_Tree_int_Depth #[.pointer none] w_21 fun e_21 w_22 => ∃ i61_2, e_21 = .returned (.int .i64 i61_2) ∧
         Br (i61_2 == (0 : Int)) (
          Calls prog f_tree_Tree_int_Pages #[.pointer none] w_22 fun e_22 w_23 => ∃ p66_4 l66_4 c66_4, e_22 = .returned (.slice p66_4 l66_4 c66_4) ∧
          Br ((l66_4 : Int) == (0 : Int)) (
           Calls prog f_affluxlaw08_awake #[] w_23 fun e_23 w_24 => ∃ b71_8, e_23 = .returned (.bool b71_8) ∧
           R (.returned (.bool b71_8)) w_24
          ) (
           R (.returned (.bool false)) w_23
          )
         ) (
          Br false (
           Calls prog f_affluxlaw08_awake #[] w_22 fun e_24 w_25 => ∃ b71_9, e_24 = .returned (.bool b71_9) ∧
           R (.returned (.bool b71_9)) w_25
          ) (
           R (.returned (.bool false)) w_22
          )
         )
        ) (
         Br false (
          Calls prog f_tree_Tree_int_Pages #[.pointer none] w_21 fun e_25 w_26 => ∃ p66_5 l66_5 c66_5, e_25 = .returned (.slice p66_5 l66_5 c66_5) ∧
          Br ((l66_5 : Int) == (0 : Int)) (
           Calls prog f_affluxlaw08_awake #[] w_26 fun e_26 w_27 => ∃ b71_10, e_26 = .returned (.bool b71_10) ∧
           R (.returned (.bool b71_10)) w_27
          ) (
           R (.returned (.bool false)) w_26
          )
         ) (
          Br false (
           Calls prog f_affluxlaw08_awake #[] w_21 fun e_27 w_28 => ∃ b71_11, e_27 = .returned (.bool b71_11) ∧
           R (.returned (.bool b71_11)) w_28
          ) (
           R (.returned (.bool false)) w_21
          )
         )
        )
       ) (
        Br false (
         Calls prog f_tree_Tree_int_Depth #[.pointer none] w_4 fun e_28 w_29 => ∃ i61_3, e_28 = .returned (.int .i64 i61_3) ∧
         Br (i61_3 == (0 : Int)) (
          Calls prog f_tree_Tree_int_Pages #[.pointer none] w_29 fun e_29 w_30 => ∃ p66_6 l66_6 c66_6, e_29 = .returned (.slice p66_6 l66_6 c66_6) ∧
          Br ((l66_6 : Int) == (0 : Int)) (
           Calls prog f_affluxlaw08_awake #[] w_30 fun e_30 w_31 => ∃ b71_12, e_30 = .returned (.bool b71_12) ∧
           R (.returned (.bool b71_12)) w_31
          ) (
           R (.returned (.bool false)) w_30
          )
         ) (
          Br false (
           Calls prog f_affluxlaw08_awake #[] w_29 fun e_31 w_32 => ∃ b71_13, e_31 = .returned (.bool b71_13) ∧
           R (.returned (.bool b71_13)) w_32
          ) (
           R (.returned (.bool false)) w_29
          )
         )
        ) (
         Br false (
          Calls prog f_tree_Tree_int_Pages #[.pointer none] w_4 fun e_32 w_33 => ∃ p66_7 l66_7 c66_7, e_32 = .returned (.slice p66_7 l66_7 c66_7) ∧
          Br ((l66_7 : Int) == (0 : Int)) (
           Calls prog f_affluxlaw08_awake #[] w_33 fun e_33 w_34 => ∃ b71_14, e_33 = .returned (.bool b71_14) ∧
           R (.returned (.bool b71_14)) w_34
          ) (
           R (.returned (.bool false)) w_33
          )
         ) (
          Br false (
           Calls prog f_affluxlaw08_awake #[] w_4 fun e_34 w_35 => ∃ b71_15, e_34 = .returned (.bool b71_15) ∧
           R (.returned (.bool b71_15)) w_35
          ) (
           R (.returned (.bool false)) w_4
          )
         )
        )
       )
      )
     ) (
      Br false (
       Calls prog f_tree_Tree_int_Keys #[.pointer none, .string sx0, .string (str []), .int .i64 5] w_3 fun e_35 w_36 => ∃ p49_1 l49_1 c49_1, e_35 = .returned (.slice p49_1 l49_1 c49_1) ∧
       Br ((l49_1 : Int) == (0 : Int)) (
        Calls prog f_tree_Tree_int_Count #[.pointer none, .string sx0, .string (str [])] w_36 fun e_36 w_37 => ∃ i56_2, e_36 = .returned (.int .i64 i56_2) ∧
        Br (i56_2 == (0 : Int)) (
         Calls prog f_tree_Tree_int_Depth #[.pointer none] w_37 fun e_37 w_38 => ∃ i61_4, e_37 = .returned (.int .i64 i61_4) ∧
         Br (i61_4 == (0 : Int)) (
          Calls prog f_tree_Tree_int_Pages #[.pointer none] w_38 fun e_38 w_39 => ∃ p66_8 l66_8 c66_8, e_38 = .returned (.slice p66_8 l66_8 c66_8) ∧
          Br ((l66_8 : Int) == (0 : Int)) (
           Calls prog f_affluxlaw08_awake #[] w_39 fun e_39 w_40 => ∃ b71_16, e_39 = .returned (.bool b71_16) ∧
           R (.returned (.bool b71_16)) w_40
          ) (
           R (.returned (.bool false)) w_39
          )
         ) (
          Br false (
           Calls prog f_affluxlaw08_awake #[] w_38 fun e_40 w_41 => ∃ b71_17, e_40 = .returned (.bool b71_17) ∧
           R (.returned (.bool b71_17)) w_41
          ) (
           R (.returned (.bool false)) w_38
          )
         )
        ) (
         Br false (
          Calls prog f_tree_Tree_int_Pages #[.pointer none] w_37 fun e_41 w_42 => ∃ p66_9 l66_9 c66_9, e_41 = .returned (.slice p66_9 l66_9 c66_9) ∧
          Br ((l66_9 : Int) == (0 : Int)) (
           Calls prog f_affluxlaw08_awake #[] w_42 fun e_42 w_43 => ∃ b71_18, e_42 = .returned (.bool b71_18) ∧
           R (.returned (.bool b71_18)) w_43
          ) (
           R (.returned (.bool false)) w_42
          )
         ) (
          Br false (
           Calls prog f_affluxlaw08_awake #[] w_37 fun e_43 w_44 => ∃ b71_19, e_43 = .returned (.bool b71_19) ∧
           R (.returned (.bool b71_19)) w_44
          ) (
           R (.returned (.bool false)) w_37
          )
         )
        )
       ) (
        Br false (
         Calls prog f_tree_Tree_int_Depth #[.pointer none] w_36 fun e_44 w_45 => ∃ i61_5, e_44 = .returned (.int .i64 i61_5) ∧
         Br (i61_5 == (0 : Int)) (
          Calls prog f_tree_Tree_int_Pages #[.pointer none] w_45 fun e_45 w_46 => ∃ p66_10 l66_10 c66_10, e_45 = .returned (.slice p66_10 l66_10 c66_10) ∧
          Br ((l66_10 : Int) == (0 : Int)) (
           Calls prog f_affluxlaw08_awake #[] w_46 fun e_46 w_47 => ∃ b71_20, e_46 = .returned (.bool b71_20) ∧
           R (.returned (.bool b71_20)) w_47
          ) (
           R (.returned (.bool false)) w_46
          )
         ) (
          Br false (
           Calls prog f_affluxlaw08_awake #[] w_45 fun e_47 w_48 => ∃ b71_21, e_47 = .returned (.bool b71_21) ∧
           R (.returned (.bool b71_21)) w_48
          ) (
           R (.returned (.bool false)) w_45
          )
         )
        ) (
         Br false (
          Calls prog f_tree_Tree_int_Pages #[.pointer none] w_36 fun e_48 w_49 => ∃ p66_11 l66_11 c66_11, e_48 = .returned (.slice p66_11 l66_11 c66_11) ∧
          Br ((l66_11 : Int) == (0 : Int)) (
           Calls prog f_affluxlaw08_awake #[] w_49 fun e_49 w_50 => ∃ b71_22, e_49 = .returned (.bool b71_22) ∧
           R (.returned (.bool b71_22)) w_50
          ) (
           R (.returned (.bool false)) w_49
          )
         ) (
          Br false (
           Calls prog f_affluxlaw08_awake #[] w_36 fun e_50 w_51 => ∃ b71_23, e_50 = .returned (.bool b71_23) ∧
           R (.returned (.bool b71_23)) w_51
          ) (
           R (.returned (.bool false)) w_36
          )
         )
        )
       )
      ) (
       Br false (
        Calls prog f_tree_Tree_int_Count #[.pointer none, .string sx0, .string (str [])] w_3 fun e_51 w_52 => ∃ i56_3, e_51 = .returned (.int .i64 i56_3) ∧
        Br (i56_3 == (0 : Int)) (
         Calls prog f_tree_Tree_int_Depth #[.pointer none] w_52 fun e_52 w_53 => ∃ i61_6, e_52 = .returned (.int .i64 i61_6) ∧
         Br (i61_6 == (0 : Int)) (
          Calls prog f_tree_Tree_int_Pages #[.pointer none] w_53 fun e_53 w_54 => ∃ p66_12 l66_12 c66_12, e_53 = .returned (.slice p66_12 l66_12 c66_12) ∧
          Br ((l66_12 : Int) == (0 : Int)) (
           Calls prog f_affluxlaw08_awake #[] w_54 fun e_54 w_55 => ∃ b71_24, e_54 = .returned (.bool b71_24) ∧
           R (.returned (.bool b71_24)) w_55
          ) (
           R (.returned (.bool false)) w_54
          )
         ) (
          Br false (
           Calls prog f_affluxlaw08_awake #[] w_53 fun e_55 w_56 => ∃ b71_25, e_55 = .returned (.bool b71_25) ∧
           R (.returned (.bool b71_25)) w_56
          ) (
           R (.returned (.bool false)) w_53
          )
         )
        ) (
         Br false (
          Calls prog f_tree_Tree_int_Pages #[.pointer none] w_52 fun e_56 w_57 => ∃ p66_13 l66_13 c66_13, e_56 = .returned (.slice p66_13 l66_13 c66_13) ∧
          Br ((l66_13 : Int) == (0 : Int)) (
           Calls prog f_affluxlaw08_awake #[] w_57 fun e_57 w_58 => ∃ b71_26, e_57 = .returned (.bool b71_26) ∧
           R (.returned (.bool b71_26)) w_58
          ) (
           R (.returned (.bool false)) w_57
          )
         ) (
          Br false (
           Calls prog f_affluxlaw08_awake #[] w_52 fun e_58 w_59 => ∃ b71_27, e_58 = .returned (.bool b71_27) ∧
           R (.returned (.bool b71_27)) w_59
          ) (
           R (.returned (.bool false)) w_52
          )
         )
        )
       ) (
        Br false (
         Calls prog f_tree_Tree_int_Depth #[.pointer none] w_3 fun e_59 w_60 => ∃ i61_7, e_59 = .returned (.int .i64 i61_7) ∧
         Br (i61_7 == (0 : Int)) (
          Calls prog f_tree_Tree_int_Pages #[.pointer none] w_60 fun e_60 w_61 => ∃ p66_14 l66_14 c66_14, e_60 = .returned (.slice p66_14 l66_14 c66_14) ∧
          Br ((l66_14 : Int) == (0 : Int)) (
           Calls prog f_affluxlaw08_awake #[] w_61 fun e_61 w_62 => ∃ b71_28, e_61 = .returned (.bool b71_28) ∧
           R (.returned (.bool b71_28)) w_62
          ) (
           R (.returned (.bool false)) w_61
          )
         ) (
          Br false (
           Calls prog f_affluxlaw08_awake #[] w_60 fun e_62 w_63 => ∃ b71_29, e_62 = .returned (.bool b71_29) ∧
           R (.returned (.bool b71_29)) w_63
          ) (
           R (.returned (.bool false)) w_60
          )
         )
        ) (
         Br false (
          Calls prog f_tree_Tree_int_Pages #[.pointer none] w_3 fun e_63 w_64 => ∃ p66_15 l66_15 c66_15, e_63 = .returned (.slice p66_15 l66_15 c66_15) ∧
          Br ((l66_15 : Int) == (0 : Int)) (
           Calls prog f_affluxlaw08_awake #[] w_64 fun e_64 w_65 => ∃ b71_30, e_64 = .returned (.bool b71_30) ∧
           R (.returned (.bool b71_30)) w_65
          ) (
           R (.returned (.bool false)) w_64
          )
         ) (
          Br false (
           Calls prog f_affluxlaw08_awake #[] w_3 fun e_65 w_66 => ∃ b71_31, e_65 = .returned (.bool b71_31) ∧
           R (.returned (.bool b71_31)) w_66
          ) (
           R (.returned (.bool false)) w_3
          )
         )
        )
       )
      )
     )
    ) (
     Br false (
      Calls prog f_affluxlaw08_looks #[.pointer none, .slice none 0 0, .string sx0] w_3 fun e_66 w_67 => ∃ b44_1, e_66 = .returned (.bool b44_1) ∧
      Br b44_1 (
       Calls prog f_tree_Tree_int_Keys #[.pointer none, .string sx0, .string (str []), .int .i64 5] w_67 fun e_67 w_68 => ∃ p49_2 l49_2 c49_2, e_67 = .returned (.slice p49_2 l49_2 c49_2) ∧
       Br ((l49_2 : Int) == (0 : Int)) (
        Calls prog f_tree_Tree_int_Count #[.pointer none, .string sx0, .string (str [])] w_68 fun e_68 w_69 => ∃ i56_4, e_68 = .returned (.int .i64 i56_4) ∧
        Br (i56_4 == (0 : Int)) (
         Calls prog f_tree_Tree_int_Depth #[.pointer none] w_69 fun e_69 w_70 => ∃ i61_8, e_69 = .returned (.int .i64 i61_8) ∧
         Br (i61_8 == (0 : Int)) (
          Calls prog f_tree_Tree_int_Pages #[.pointer none] w_70 fun e_70 w_71 => ∃ p66_16 l66_16 c66_16, e_70 = .returned (.slice p66_16 l66_16 c66_16) ∧
          Br ((l66_16 : Int) == (0 : Int)) (
           Calls prog f_affluxlaw08_awake #[] w_71 fun e_71 w_72 => ∃ b71_32, e_71 = .returned (.bool b71_32) ∧
           R (.returned (.bool b71_32)) w_72
          ) (
           R (.returned (.bool false)) w_71
          )
         ) (
          Br false (
           Calls prog f_affluxlaw08_awake #[] w_70 fun e_72 w_73 => ∃ b71_33, e_72 = .returned (.bool b71_33) ∧
           R (.returned (.bool b71_33)) w_73
          ) (
           R (.returned (.bool false)) w_70
          )
         )
        ) (
         Br false (
          Calls prog f_tree_Tree_int_Pages #[.pointer none] w_69 fun e_73 w_74 => ∃ p66_17 l66_17 c66_17, e_73 = .returned (.slice p66_17 l66_17 c66_17) ∧
          Br ((l66_17 : Int) == (0 : Int)) (
           Calls prog f_affluxlaw08_awake #[] w_74 fun e_74 w_75 => ∃ b71_34, e_74 = .returned (.bool b71_34) ∧
           R (.returned (.bool b71_34)) w_75
          ) (
           R (.returned (.bool false)) w_74
          )
         ) (
          Br false (
           Calls prog f_affluxlaw08_awake #[] w_69 fun e_75 w_76 => ∃ b71_35, e_75 = .returned (.bool b71_35) ∧
           R (.returned (.bool b71_35)) w_76
          ) (
           R (.returned (.bool false)) w_69
          )
         )
        )
       ) (
        Br false (
         Calls prog f_tree_Tree_int_Depth #[.pointer none] w_68 fun e_76 w_77 => ∃ i61_9, e_76 = .returned (.int .i64 i61_9) ∧
         Br (i61_9 == (0 : Int)) (
          Calls prog f_tree_Tree_int_Pages #[.pointer none] w_77 fun e_77 w_78 => ∃ p66_18 l66_18 c66_18, e_77 = .returned (.slice p66_18 l66_18 c66_18) ∧
          Br ((l66_18 : Int) == (0 : Int)) (
           Calls prog f_affluxlaw08_awake #[] w_78 fun e_78 w_79 => ∃ b71_36, e_78 = .returned (.bool b71_36) ∧
           R (.returned (.bool b71_36)) w_79
          ) (
           R (.returned (.bool false)) w_78
          )
         ) (
          Br false (
           Calls prog f_affluxlaw08_awake #[] w_77 fun e_79 w_80 => ∃ b71_37, e_79 = .returned (.bool b71_37) ∧
           R (.returned (.bool b71_37)) w_80
          ) (
           R (.returned (.bool false)) w_77
          )
         )
        ) (
         Br false (
          Calls prog f_tree_Tree_int_Pages #[.pointer none] w_68 fun e_80 w_81 => ∃ p66_19 l66_19 c66_19, e_80 = .returned (.slice p66_19 l66_19 c66_19) ∧
          Br ((l66_19 : Int) == (0 : Int)) (
           Calls prog f_affluxlaw08_awake #[] w_81 fun e_81 w_82 => ∃ b71_38, e_81 = .returned (.bool b71_38) ∧
           R (.returned (.bool b71_38)) w_82
          ) (
           R (.returned (.bool false)) w_81
          )
         ) (
          Br false (
           Calls prog f_affluxlaw08_awake #[] w_68 fun e_82 w_83 => ∃ b71_39, e_82 = .returned (.bool b71_39) ∧
           R (.returned (.bool b71_39)) w_83
          ) (
           R (.returned (.bool false)) w_68
          )
         )
        )
       )
      ) (
       Br false (
        Calls prog f_tree_Tree_int_Count #[.pointer none, .string sx0, .string (str [])] w_67 fun e_83 w_84 => ∃ i56_5, e_83 = .returned (.int .i64 i56_5) ∧
        Br (i56_5 == (0 : Int)) (
         Calls prog f_tree_Tree_int_Depth #[.pointer none] w_84 fun e_84 w_85 => ∃ i61_10, e_84 = .returned (.int .i64 i61_10) ∧
         Br (i61_10 == (0 : Int)) (
          Calls prog f_tree_Tree_int_Pages #[.pointer none] w_85 fun e_85 w_86 => ∃ p66_20 l66_20 c66_20, e_85 = .returned (.slice p66_20 l66_20 c66_20) ∧
          Br ((l66_20 : Int) == (0 : Int)) (
           Calls prog f_affluxlaw08_awake #[] w_86 fun e_86 w_87 => ∃ b71_40, e_86 = .returned (.bool b71_40) ∧
           R (.returned (.bool b71_40)) w_87
          ) (
           R (.returned (.bool false)) w_86
          )
         ) (
          Br false (
           Calls prog f_affluxlaw08_awake #[] w_85 fun e_87 w_88 => ∃ b71_41, e_87 = .returned (.bool b71_41) ∧
           R (.returned (.bool b71_41)) w_88
          ) (
           R (.returned (.bool false)) w_85
          )
         )
        ) (
         Br false (
          Calls prog f_tree_Tree_int_Pages #[.pointer none] w_84 fun e_88 w_89 => ∃ p66_21 l66_21 c66_21, e_88 = .returned (.slice p66_21 l66_21 c66_21) ∧
          Br ((l66_21 : Int) == (0 : Int)) (
           Calls prog f_affluxlaw08_awake #[] w_89 fun e_89 w_90 => ∃ b71_42, e_89 = .returned (.bool b71_42) ∧
           R (.returned (.bool b71_42)) w_90
          ) (
           R (.returned (.bool false)) w_89
          )
         ) (
          Br false (
           Calls prog f_affluxlaw08_awake #[] w_84 fun e_90 w_91 => ∃ b71_43, e_90 = .returned (.bool b71_43) ∧
           R (.returned (.bool b71_43)) w_91
          ) (
           R (.returned (.bool false)) w_84
          )
         )
        )
       ) (
        Br false (
         Calls prog f_tree_Tree_int_Depth #[.pointer none] w_67 fun e_91 w_92 => ∃ i61_11, e_91 = .returned (.int .i64 i61_11) ∧
         Br (i61_11 == (0 : Int)) (
          Calls prog f_tree_Tree_int_Pages #[.pointer none] w_92 fun e_92 w_93 => ∃ p66_22 l66_22 c66_22, e_92 = .returned (.slice p66_22 l66_22 c66_22) ∧
          Br ((l66_22 : Int) == (0 : Int)) (
           Calls prog f_affluxlaw08_awake #[] w_93 fun e_93 w_94 => ∃ b71_44, e_93 = .returned (.bool b71_44) ∧
           R (.returned (.bool b71_44)) w_94
          ) (
           R (.returned (.bool false)) w_93
          )
         ) (
          Br false (
           Calls prog f_affluxlaw08_awake #[] w_92 fun e_94 w_95 => ∃ b71_45, e_94 = .returned (.bool b71_45) ∧
           R (.returned (.bool b71_45)) w_95
          ) (
           R (.returned (.bool false)) w_92
          )
         )
        ) (
         Br false (
          Calls prog f_tree_Tree_int_Pages #[.pointer none] w_67 fun e_95 w_96 => ∃ p66_23 l66_23 c66_23, e_95 = .returned (.slice p66_23 l66_23 c66_23) ∧
          Br ((l66_23 : Int) == (0 : Int)) (
           Calls prog f_affluxlaw08_awake #[] w_96 fun e_96 w_97 => ∃ b71_46, e_96 = .returned (.bool b71_46) ∧
           R (.returned (.bool b71_46)) w_97
          ) (
           R (.returned (.bool false)) w_96
          )
         ) (
          Br false (
           Calls prog f_affluxlaw08_awake #[] w_67 fun e_97 w_98 => ∃ b71_47, e_97 = .returned (.bool b71_47) ∧
           R (.returned (.bool b71_47)) w_98
          ) (
           R (.returned (.bool false)) w_67
          )
         )
        )
       )
      )
     ) (
      Br false (
       Calls prog f_tree_Tree_int_Keys #[.pointer none, .string sx0, .string (str []), .int .i64 5] w_3 fun e_98 w_99 => ∃ p49_3 l49_3 c49_3, e_98 = .returned (.slice p49_3 l49_3 c49_3) ∧
       Br ((l49_3 : Int) == (0 : Int)) (
        Calls prog f_tree_Tree_int_Count #[.pointer none, .string sx0, .string (str [])] w_99 fun e_99 w_100 => ∃ i56_6, e_99 = .returned (.int .i64 i56_6) ∧
        Br (i56_6 == (0 : Int)) (
         Calls prog f_tree_Tree_int_Depth #[.pointer none] w_100 fun e_100 w_101 => ∃ i61_12, e_100 = .returned (.int .i64 i61_12) ∧
         Br (i61_12 == (0 : Int)) (
          Calls prog f_tree_Tree_int_Pages #[.pointer none] w_101 fun e_101 w_102 => ∃ p66_24 l66_24 c66_24, e_101 = .returned (.slice p66_24 l66_24 c66_24) ∧
          Br ((l66_24 : Int) == (0 : Int)) (
           Calls prog f_affluxlaw08_awake #[] w_102 fun e_102 w_103 => ∃ b71_48, e_102 = .returned (.bool b71_48) ∧
           R (.returned (.bool b71_48)) w_103
          ) (
           R (.returned (.bool false)) w_102
          )
         ) (
          Br false (
           Calls prog f_affluxlaw08_awake #[] w_101 fun e_103 w_104 => ∃ b71_49, e_103 = .returned (.bool b71_49) ∧
           R (.returned (.bool b71_49)) w_104
          ) (
           R (.returned (.bool false)) w_101
          )
         )
        ) (
         Br false (
          Calls prog f_tree_Tree_int_Pages #[.pointer none] w_100 fun e_104 w_105 => ∃ p66_25 l66_25 c66_25, e_104 = .returned (.slice p66_25 l66_25 c66_25) ∧
          Br ((l66_25 : Int) == (0 : Int)) (
           Calls prog f_affluxlaw08_awake #[] w_105 fun e_105 w_106 => ∃ b71_50, e_105 = .returned (.bool b71_50) ∧
           R (.returned (.bool b71_50)) w_106
          ) (
           R (.returned (.bool false)) w_105
          )
         ) (
          Br false (
           Calls prog f_affluxlaw08_awake #[] w_100 fun e_106 w_107 => ∃ b71_51, e_106 = .returned (.bool b71_51) ∧
           R (.returned (.bool b71_51)) w_107
          ) (
           R (.returned (.bool false)) w_100
          )
         )
        )
       ) (
        Br false (
         Calls prog f_tree_Tree_int_Depth #[.pointer none] w_99 fun e_107 w_108 => ∃ i61_13, e_107 = .returned (.int .i64 i61_13) ∧
         Br (i61_13 == (0 : Int)) (
          Calls prog f_tree_Tree_int_Pages #[.pointer none] w_108 fun e_108 w_109 => ∃ p66_26 l66_26 c66_26, e_108 = .returned (.slice p66_26 l66_26 c66_26) ∧
          Br ((l66_26 : Int) == (0 : Int)) (
           Calls prog f_affluxlaw08_awake #[] w_109 fun e_109 w_110 => ∃ b71_52, e_109 = .returned (.bool b71_52) ∧
           R (.returned (.bool b71_52)) w_110
          ) (
           R (.returned (.bool false)) w_109
          )
         ) (
          Br false (
           Calls prog f_affluxlaw08_awake #[] w_108 fun e_110 w_111 => ∃ b71_53, e_110 = .returned (.bool b71_53) ∧
           R (.returned (.bool b71_53)) w_111
          ) (
           R (.returned (.bool false)) w_108
          )
         )
        ) (
         Br false (
          Calls prog f_tree_Tree_int_Pages #[.pointer none] w_99 fun e_111 w_112 => ∃ p66_27 l66_27 c66_27, e_111 = .returned (.slice p66_27 l66_27 c66_27) ∧
          Br ((l66_27 : Int) == (0 : Int)) (
           Calls prog f_affluxlaw08_awake #[] w_112 fun e_112 w_113 => ∃ b71_54, e_112 = .returned (.bool b71_54) ∧
           R (.returned (.bool b71_54)) w_113
          ) (
           R (.returned (.bool false)) w_112
          )
         ) (
          Br false (
           Calls prog f_affluxlaw08_awake #[] w_99 fun e_113 w_114 => ∃ b71_55, e_113 = .returned (.bool b71_55) ∧
           R (.returned (.bool b71_55)) w_114
          ) (
           R (.returned (.bool false)) w_99
          )
         )
        )
       )
      ) (
       Br false (
        Calls prog f_tree_Tree_int_Count #[.pointer none, .string sx0, .string (str [])] w_3 fun e_114 w_115 => ∃ i56_7, e_114 = .returned (.int .i64 i56_7) ∧
        Br (i56_7 == (0 : Int)) (
         Calls prog f_tree_Tree_int_Depth #[.pointer none] w_115 fun e_115 w_116 => ∃ i61_14, e_115 = .returned (.int .i64 i61_14) ∧
         Br (i61_14 == (0 : Int)) (
          Calls prog f_tree_Tree_int_Pages #[.pointer none] w_116 fun e_116 w_117 => ∃ p66_28 l66_28 c66_28, e_116 = .returned (.slice p66_28 l66_28 c66_28) ∧
          Br ((l66_28 : Int) == (0 : Int)) (
           Calls prog f_affluxlaw08_awake #[] w_117 fun e_117 w_118 => ∃ b71_56, e_117 = .returned (.bool b71_56) ∧
           R (.returned (.bool b71_56)) w_118
          ) (
           R (.returned (.bool false)) w_117
          )
         ) (
          Br false (
           Calls prog f_affluxlaw08_awake #[] w_116 fun e_118 w_119 => ∃ b71_57, e_118 = .returned (.bool b71_57) ∧
           R (.returned (.bool b71_57)) w_119
          ) (
           R (.returned (.bool false)) w_116
          )
         )
        ) (
         Br false (
          Calls prog f_tree_Tree_int_Pages #[.pointer none] w_115 fun e_119 w_120 => ∃ p66_29 l66_29 c66_29, e_119 = .returned (.slice p66_29 l66_29 c66_29) ∧
          Br ((l66_29 : Int) == (0 : Int)) (
           Calls prog f_affluxlaw08_awake #[] w_120 fun e_120 w_121 => ∃ b71_58, e_120 = .returned (.bool b71_58) ∧
           R (.returned (.bool b71_58)) w_121
          ) (
           R (.returned (.bool false)) w_120
          )
         ) (
          Br false (
           Calls prog f_affluxlaw08_awake #[] w_115 fun e_121 w_122 => ∃ b71_59, e_121 = .returned (.bool b71_59) ∧
           R (.returned (.bool b71_59)) w_122
          ) (
           R (.returned (.bool false)) w_115
          )
         )
        )
       ) (
        Br false (
         Calls prog f_tree_Tree_int_Depth #[.pointer none] w_3 fun e_122 w_123 => ∃ i61_15, e_122 = .returned (.int .i64 i61_15) ∧
         Br (i61_15 == (0 : Int)) (
          Calls prog f_tree_Tree_int_Pages #[.pointer none] w_123 fun e_123 w_124 => ∃ p66_30 l66_30 c66_30, e_123 = .returned (.slice p66_30 l66_30 c66_30) ∧
          Br ((l66_30 : Int) == (0 : Int)) (
           Calls prog f_affluxlaw08_awake #[] w_124 fun e_124 w_125 => ∃ b71_60, e_124 = .returned (.bool b71_60) ∧
           R (.returned (.bool b71_60)) w_125
          ) (
           R (.returned (.bool false)) w_124
          )
         ) (
          Br false (
           Calls prog f_affluxlaw08_awake #[] w_123 fun e_125 w_126 => ∃ b71_61, e_125 = .returned (.bool b71_61) ∧
           R (.returned (.bool b71_61)) w_126
          ) (
           R (.returned (.bool false)) w_123
          )
         )
        ) (
         Br false (
          Calls prog f_tree_Tree_int_Pages #[.pointer none] w_3 fun e_126 w_127 => ∃ p66_31 l66_31 c66_31, e_126 = .returned (.slice p66_31 l66_31 c66_31) ∧
          Br ((l66_31 : Int) == (0 : Int)) (
           Calls prog f_affluxlaw08_awake #[] w_127 fun e_127 w_128 => ∃ b71_62, e_127 = .returned (.bool b71_62) ∧
           R (.returned (.bool b71_62)) w_128
          ) (
           R (.returned (.bool false)) w_127
          )
         ) (
          Br false (
           Calls prog f_affluxlaw08_awake #[] w_3 fun e_128 w_129 => ∃ b71_63, e_128 = .returned (.bool b71_63) ∧
           R (.returned (.bool b71_63)) w_129
          ) (
           R (.returned (.bool false)) w_3
          )
         )
        )
       )
      )
     )
    )
   ) (
    Br false (
     Br (!b24) (
      Calls prog f_affluxlaw08_looks #[.pointer none, .slice none 0 0, .string sx0] w_3 fun e_129 w_130 => ∃ b44_2, e_129 = .returned (.bool b44_2) ∧
      Br b44_2 (
       Calls prog f_tree_Tree_int_Keys #[.pointer none, .string sx0, .string (str []), .int .i64 5] w_130 fun e_130 w_131 => ∃ p49_4 l49_4 c49_4, e_130 = .returned (.slice p49_4 l49_4 c49_4) ∧
       Br ((l49_4 : Int) == (0 : Int)) (
        Calls prog f_tree_Tree_int_Count #[.pointer none, .string sx0, .string (str [])] w_131 fun e_131 w_132 => ∃ i56_8, e_131 = .returned (.int .i64 i56_8) ∧
        Br (i56_8 == (0 : Int)) (
         Calls prog f_tree_Tree_int_Depth #[.pointer none] w_132 fun e_132 w_133 => ∃ i61_16, e_132 = .returned (.int .i64 i61_16) ∧
         Br (i61_16 == (0 : Int)) (
          Calls prog f_tree_Tree_int_Pages #[.pointer none] w_133 fun e_133 w_134 => ∃ p66_32 l66_32 c66_32, e_133 = .returned (.slice p66_32 l66_32 c66_32) ∧
          Br ((l66_32 : Int) == (0 : Int)) (
           Calls prog f_affluxlaw08_awake #[] w_134 fun e_134 w_135 => ∃ b71_64, e_134 = .returned (.bool b71_64) ∧
           R (.returned (.bool b71_64)) w_135
          ) (
           R (.returned (.bool false)) w_134
          )
         ) (
          Br false (
           Calls prog f_affluxlaw08_awake #[] w_133 fun e_135 w_136 => ∃ b71_65, e_135 = .returned (.bool b71_65) ∧
           R (.returned (.bool b71_65)) w_136
          ) (
           R (.returned (.bool false)) w_133
          )
         )
        ) (
         Br false (
          Calls prog f_tree_Tree_int_Pages #[.pointer none] w_132 fun e_136 w_137 => ∃ p66_33 l66_33 c66_33, e_136 = .returned (.slice p66_33 l66_33 c66_33) ∧
          Br ((l66_33 : Int) == (0 : Int)) (
           Calls prog f_affluxlaw08_awake #[] w_137 fun e_137 w_138 => ∃ b71_66, e_137 = .returned (.bool b71_66) ∧
           R (.returned (.bool b71_66)) w_138
          ) (
           R (.returned (.bool false)) w_137
          )
         ) (
          Br false (
           Calls prog f_affluxlaw08_awake #[] w_132 fun e_138 w_139 => ∃ b71_67, e_138 = .returned (.bool b71_67) ∧
           R (.returned (.bool b71_67)) w_139
          ) (
           R (.returned (.bool false)) w_132
          )
         )
        )
       ) (
        Br false (
         Calls prog f_tree_Tree_int_Depth #[.pointer none] w_131 fun e_139 w_140 => ∃ i61_17, e_139 = .returned (.int .i64 i61_17) ∧
         Br (i61_17 == (0 : Int)) (
          Calls prog f_tree_Tree_int_Pages #[.pointer none] w_140 fun e_140 w_141 => ∃ p66_34 l66_34 c66_34, e_140 = .returned (.slice p66_34 l66_34 c66_34) ∧
          Br ((l66_34 : Int) == (0 : Int)) (
           Calls prog f_affluxlaw08_awake #[] w_141 fun e_141 w_142 => ∃ b71_68, e_141 = .returned (.bool b71_68) ∧
           R (.returned (.bool b71_68)) w_142
          ) (
           R (.returned (.bool false)) w_141
          )
         ) (
          Br false (
           Calls prog f_affluxlaw08_awake #[] w_140 fun e_142 w_143 => ∃ b71_69, e_142 = .returned (.bool b71_69) ∧
           R (.returned (.bool b71_69)) w_143
          ) (
           R (.returned (.bool false)) w_140
          )
         )
        ) (
         Br false (
          Calls prog f_tree_Tree_int_Pages #[.pointer none] w_131 fun e_143 w_144 => ∃ p66_35 l66_35 c66_35, e_143 = .returned (.slice p66_35 l66_35 c66_35) ∧
          Br ((l66_35 : Int) == (0 : Int)) (
           Calls prog f_affluxlaw08_awake #[] w_144 fun e_144 w_145 => ∃ b71_70, e_144 = .returned (.bool b71_70) ∧
           R (.returned (.bool b71_70)) w_145
          ) (
           R (.returned (.bool false)) w_144
          )
         ) (
          Br false (
           Calls prog f_affluxlaw08_awake #[] w_131 fun e_145 w_146 => ∃ b71_71, e_145 = .returned (.bool b71_71) ∧
           R (.returned (.bool b71_71)) w_146
          ) (
           R (.returned (.bool false)) w_131
          )
         )
        )
       )
      ) (
       Br false (
        Calls prog f_tree_Tree_int_Count #[.pointer none, .string sx0, .string (str [])] w_130 fun e_146 w_147 => ∃ i56_9, e_146 = .returned (.int .i64 i56_9) ∧
        Br (i56_9 == (0 : Int)) (
         Calls prog f_tree_Tree_int_Depth #[.pointer none] w_147 fun e_147 w_148 => ∃ i61_18, e_147 = .returned (.int .i64 i61_18) ∧
         Br (i61_18 == (0 : Int)) (
          Calls prog f_tree_Tree_int_Pages #[.pointer none] w_148 fun e_148 w_149 => ∃ p66_36 l66_36 c66_36, e_148 = .returned (.slice p66_36 l66_36 c66_36) ∧
          Br ((l66_36 : Int) == (0 : Int)) (
           Calls prog f_affluxlaw08_awake #[] w_149 fun e_149 w_150 => ∃ b71_72, e_149 = .returned (.bool b71_72) ∧
           R (.returned (.bool b71_72)) w_150
          ) (
           R (.returned (.bool false)) w_149
          )
         ) (
          Br false (
           Calls prog f_affluxlaw08_awake #[] w_148 fun e_150 w_151 => ∃ b71_73, e_150 = .returned (.bool b71_73) ∧
           R (.returned (.bool b71_73)) w_151
          ) (
           R (.returned (.bool false)) w_148
          )
         )
        ) (
         Br false (
          Calls prog f_tree_Tree_int_Pages #[.pointer none] w_147 fun e_151 w_152 => ∃ p66_37 l66_37 c66_37, e_151 = .returned (.slice p66_37 l66_37 c66_37) ∧
          Br ((l66_37 : Int) == (0 : Int)) (
           Calls prog f_affluxlaw08_awake #[] w_152 fun e_152 w_153 => ∃ b71_74, e_152 = .returned (.bool b71_74) ∧
           R (.returned (.bool b71_74)) w_153
          ) (
           R (.returned (.bool false)) w_152
          )
         ) (
          Br false (
           Calls prog f_affluxlaw08_awake #[] w_147 fun e_153 w_154 => ∃ b71_75, e_153 = .returned (.bool b71_75) ∧
           R (.returned (.bool b71_75)) w_154
          ) (
           R (.returned (.bool false)) w_147
          )
         )
        )
       ) (
        Br false (
         Calls prog f_tree_Tree_int_Depth #[.pointer none] w_130 fun e_154 w_155 => ∃ i61_19, e_154 = .returned (.int .i64 i61_19) ∧
         Br (i61_19 == (0 : Int)) (
          Calls prog f_tree_Tree_int_Pages #[.pointer none] w_155 fun e_155 w_156 => ∃ p66_38 l66_38 c66_38, e_155 = .returned (.slice p66_38 l66_38 c66_38) ∧
          Br ((l66_38 : Int) == (0 : Int)) (
           Calls prog f_affluxlaw08_awake #[] w_156 fun e_156 w_157 => ∃ b71_76, e_156 = .returned (.bool b71_76) ∧
           R (.returned (.bool b71_76)) w_157
          ) (
           R (.returned (.bool false)) w_156
          )
         ) (
          Br false (
           Calls prog f_affluxlaw08_awake #[] w_155 fun e_157 w_158 => ∃ b71_77, e_157 = .returned (.bool b71_77) ∧
           R (.returned (.bool b71_77)) w_158
          ) (
           R (.returned (.bool false)) w_155
          )
         )
        ) (
         Br false (
          Calls prog f_tree_Tree_int_Pages #[.pointer none] w_130 fun e_158 w_159 => ∃ p66_39 l66_39 c66_39, e_158 = .returned (.slice p66_39 l66_39 c66_39) ∧
          Br ((l66_39 : Int) == (0 : Int)) (
           Calls prog f_affluxlaw08_awake #[] w_159 fun e_159 w_160 => ∃ b71_78, e_159 = .returned (.bool b71_78) ∧
           R (.returned (.bool b71_78)) w_160
          ) (
           R (.returned (.bool false)) w_159
          )
         ) (
          Br false (
           Calls prog f_affluxlaw08_awake #[] w_130 fun e_160 w_161 => ∃ b71_79, e_160 = .returned (.bool b71_79) ∧
           R (.returned (.bool b71_79)) w_161
          ) (
           R (.returned (.bool false)) w_130
          )
         )
        )
       )
      )
     ) (
      Br false (
       Calls prog f_tree_Tree_int_Keys #[.pointer none, .string sx0, .string (str []), .int .i64 5] w_3 fun e_161 w_162 => ∃ p49_5 l49_5 c49_5, e_161 = .returned (.slice p49_5 l49_5 c49_5) ∧
       Br ((l49_5 : Int) == (0 : Int)) (
        Calls prog f_tree_Tree_int_Count #[.pointer none, .string sx0, .string (str [])] w_162 fun e_162 w_163 => ∃ i56_10, e_162 = .returned (.int .i64 i56_10) ∧
        Br (i56_10 == (0 : Int)) (
         Calls prog f_tree_Tree_int_Depth #[.pointer none] w_163 fun e_163 w_164 => ∃ i61_20, e_163 = .returned (.int .i64 i61_20) ∧
         Br (i61_20 == (0 : Int)) (
          Calls prog f_tree_Tree_int_Pages #[.pointer none] w_164 fun e_164 w_165 => ∃ p66_40 l66_40 c66_40, e_164 = .returned (.slice p66_40 l66_40 c66_40) ∧
          Br ((l66_40 : Int) == (0 : Int)) (
           Calls prog f_affluxlaw08_awake #[] w_165 fun e_165 w_166 => ∃ b71_80, e_165 = .returned (.bool b71_80) ∧
           R (.returned (.bool b71_80)) w_166
          ) (
           R (.returned (.bool false)) w_165
          )
         ) (
          Br false (
           Calls prog f_affluxlaw08_awake #[] w_164 fun e_166 w_167 => ∃ b71_81, e_166 = .returned (.bool b71_81) ∧
           R (.returned (.bool b71_81)) w_167
          ) (
           R (.returned (.bool false)) w_164
          )
         )
        ) (
         Br false (
          Calls prog f_tree_Tree_int_Pages #[.pointer none] w_163 fun e_167 w_168 => ∃ p66_41 l66_41 c66_41, e_167 = .returned (.slice p66_41 l66_41 c66_41) ∧
          Br ((l66_41 : Int) == (0 : Int)) (
           Calls prog f_affluxlaw08_awake #[] w_168 fun e_168 w_169 => ∃ b71_82, e_168 = .returned (.bool b71_82) ∧
           R (.returned (.bool b71_82)) w_169
          ) (
           R (.returned (.bool false)) w_168
          )
         ) (
          Br false (
           Calls prog f_affluxlaw08_awake #[] w_163 fun e_169 w_170 => ∃ b71_83, e_169 = .returned (.bool b71_83) ∧
           R (.returned (.bool b71_83)) w_170
          ) (
           R (.returned (.bool false)) w_163
          )
         )
        )
       ) (
        Br false (
         Calls prog f_tree_Tree_int_Depth #[.pointer none] w_162 fun e_170 w_171 => ∃ i61_21, e_170 = .returned (.int .i64 i61_21) ∧
         Br (i61_21 == (0 : Int)) (
          Calls prog f_tree_Tree_int_Pages #[.pointer none] w_171 fun e_171 w_172 => ∃ p66_42 l66_42 c66_42, e_171 = .returned (.slice p66_42 l66_42 c66_42) ∧
          Br ((l66_42 : Int) == (0 : Int)) (
           Calls prog f_affluxlaw08_awake #[] w_172 fun e_172 w_173 => ∃ b71_84, e_172 = .returned (.bool b71_84) ∧
           R (.returned (.bool b71_84)) w_173
          ) (
           R (.returned (.bool false)) w_172
          )
         ) (
          Br false (
           Calls prog f_affluxlaw08_awake #[] w_171 fun e_173 w_174 => ∃ b71_85, e_173 = .returned (.bool b71_85) ∧
           R (.returned (.bool b71_85)) w_174
          ) (
           R (.returned (.bool false)) w_171
          )
         )
        ) (
         Br false (
          Calls prog f_tree_Tree_int_Pages #[.pointer none] w_162 fun e_174 w_175 => ∃ p66_43 l66_43 c66_43, e_174 = .returned (.slice p66_43 l66_43 c66_43) ∧
          Br ((l66_43 : Int) == (0 : Int)) (
           Calls prog f_affluxlaw08_awake #[] w_175 fun e_175 w_176 => ∃ b71_86, e_175 = .returned (.bool b71_86) ∧
           R (.returned (.bool b71_86)) w_176
          ) (
           R (.returned (.bool false)) w_175
          )
         ) (
          Br false (
           Calls prog f_affluxlaw08_awake #[] w_162 fun e_176 w_177 => ∃ b71_87, e_176 = .returned (.bool b71_87) ∧
           R (.returned (.bool b71_87)) w_177
          ) (
           R (.returned (.bool false)) w_162
          )
         )
        )
       )
      ) (
       Br false (
        Calls prog f_tree_Tree_int_Count #[.pointer none, .string sx0, .string (str [])] w_3 fun e_177 w_178 => ∃ i56_11, e_177 = .returned (.int .i64 i56_11) ∧
        Br (i56_11 == (0 : Int)) (
         Calls prog f_tree_Tree_int_Depth #[.pointer none] w_178 fun e_178 w_179 => ∃ i61_22, e_178 = .returned (.int .i64 i61_22) ∧
         Br (i61_22 == (0 : Int)) (
          Calls prog f_tree_Tree_int_Pages #[.pointer none] w_179 fun e_179 w_180 => ∃ p66_44 l66_44 c66_44, e_179 = .returned (.slice p66_44 l66_44 c66_44) ∧
          Br ((l66_44 : Int) == (0 : Int)) (
           Calls prog f_affluxlaw08_awake #[] w_180 fun e_180 w_181 => ∃ b71_88, e_180 = .returned (.bool b71_88) ∧
           R (.returned (.bool b71_88)) w_181
          ) (
           R (.returned (.bool false)) w_180
          )
         ) (
          Br false (
           Calls prog f_affluxlaw08_awake #[] w_179 fun e_181 w_182 => ∃ b71_89, e_181 = .returned (.bool b71_89) ∧
           R (.returned (.bool b71_89)) w_182
          ) (
           R (.returned (.bool false)) w_179
          )
         )
        ) (
         Br false (
          Calls prog f_tree_Tree_int_Pages #[.pointer none] w_178 fun e_182 w_183 => ∃ p66_45 l66_45 c66_45, e_182 = .returned (.slice p66_45 l66_45 c66_45) ∧
          Br ((l66_45 : Int) == (0 : Int)) (
           Calls prog f_affluxlaw08_awake #[] w_183 fun e_183 w_184 => ∃ b71_90, e_183 = .returned (.bool b71_90) ∧
           R (.returned (.bool b71_90)) w_184
          ) (
           R (.returned (.bool false)) w_183
          )
         ) (
          Br false (
           Calls prog f_affluxlaw08_awake #[] w_178 fun e_184 w_185 => ∃ b71_91, e_184 = .returned (.bool b71_91) ∧
           R (.returned (.bool b71_91)) w_185
          ) (
           R (.returned (.bool false)) w_178
          )
         )
        )
       ) (
        Br false (
         Calls prog f_tree_Tree_int_Depth #[.pointer none] w_3 fun e_185 w_186 => ∃ i61_23, e_185 = .returned (.int .i64 i61_23) ∧
         Br (i61_23 == (0 : Int)) (
          Calls prog f_tree_Tree_int_Pages #[.pointer none] w_186 fun e_186 w_187 => ∃ p66_46 l66_46 c66_46, e_186 = .returned (.slice p66_46 l66_46 c66_46) ∧
          Br ((l66_46 : Int) == (0 : Int)) (
           Calls prog f_affluxlaw08_awake #[] w_187 fun e_187 w_188 => ∃ b71_92, e_187 = .returned (.bool b71_92) ∧
           R (.returned (.bool b71_92)) w_188
          ) (
           R (.returned (.bool false)) w_187
          )
         ) (
          Br false (
           Calls prog f_affluxlaw08_awake #[] w_186 fun e_188 w_189 => ∃ b71_93, e_188 = .returned (.bool b71_93) ∧
           R (.returned (.bool b71_93)) w_189
          ) (
           R (.returned (.bool false)) w_186
          )
         )
        ) (
         Br false (
          Calls prog f_tree_Tree_int_Pages #[.pointer none] w_3 fun e_189 w_190 => ∃ p66_47 l66_47 c66_47, e_189 = .returned (.slice p66_47 l66_47 c66_47) ∧
          Br ((l66_47 : Int) == (0 : Int)) (
           Calls prog f_affluxlaw08_awake #[] w_190 fun e_190 w_191 => ∃ b71_94, e_190 = .returned (.bool b71_94) ∧
           R (.returned (.bool b71_94)) w_191
          ) (
           R (.returned (.bool false)) w_190
          )
         ) (
          Br false (
           Calls prog f_affluxlaw08_awake #[] w_3 fun e_191 w_192 => ∃ b71_95, e_191 = .returned (.bool b71_95) ∧
           R (.returned (.bool b71_95)) w_192
          ) (
           R (.returned (.bool false)) w_3
          )
         )
        )
       )
      )
     )
    ) (
     Br false (
      Calls prog f_affluxlaw08_looks #[.pointer none, .slice none 0 0, .string sx0] w_3 fun e_192 w_193 => ∃ b44_3, e_192 = .returned (.bool b44_3) ∧
      Br b44_3 (
       Calls prog f_tree_Tree_int_Keys #[.pointer none, .string sx0, .string (str []), .int .i64 5] w_193 fun e_193 w_194 => ∃ p49_6 l49_6 c49_6, e_193 = .returned (.slice p49_6 l49_6 c49_6) ∧
       Br ((l49_6 : Int) == (0 : Int)) (
        Calls prog f_tree_Tree_int_Count #[.pointer none, .string sx0, .string (str [])] w_194 fun e_194 w_195 => ∃ i56_12, e_194 = .returned (.int .i64 i56_12) ∧
        Br (i56_12 == (0 : Int)) (
         Calls prog f_tree_Tree_int_Depth #[.pointer none] w_195 fun e_195 w_196 => ∃ i61_24, e_195 = .returned (.int .i64 i61_24) ∧
         Br (i61_24 == (0 : Int)) (
          Calls prog f_tree_Tree_int_Pages #[.pointer none] w_196 fun e_196 w_197 => ∃ p66_48 l66_48 c66_48, e_196 = .returned (.slice p66_48 l66_48 c66_48) ∧
          Br ((l66_48 : Int) == (0 : Int)) (
           Calls prog f_affluxlaw08_awake #[] w_197 fun e_197 w_198 => ∃ b71_96, e_197 = .returned (.bool b71_96) ∧
           R (.returned (.bool b71_96)) w_198
          ) (
           R (.returned (.bool false)) w_197
          )
         ) (
          Br false (
           Calls prog f_affluxlaw08_awake #[] w_196 fun e_198 w_199 => ∃ b71_97, e_198 = .returned (.bool b71_97) ∧
           R (.returned (.bool b71_97)) w_199
          ) (
           R (.returned (.bool false)) w_196
          )
         )
        ) (
         Br false (
          Calls prog f_tree_Tree_int_Pages #[.pointer none] w_195 fun e_199 w_200 => ∃ p66_49 l66_49 c66_49, e_199 = .returned (.slice p66_49 l66_49 c66_49) ∧
          Br ((l66_49 : Int) == (0 : Int)) (
           Calls prog f_affluxlaw08_awake #[] w_200 fun e_200 w_201 => ∃ b71_98, e_200 = .returned (.bool b71_98) ∧
           R (.returned (.bool b71_98)) w_201
          ) (
           R (.returned (.bool false)) w_200
          )
         ) (
          Br false (
           Calls prog f_affluxlaw08_awake #[] w_195 fun e_201 w_202 => ∃ b71_99, e_201 = .returned (.bool b71_99) ∧
           R (.returned (.bool b71_99)) w_202
          ) (
           R (.returned (.bool false)) w_195
          )
         )
        )
       ) (
        Br false (
         Calls prog f_tree_Tree_int_Depth #[.pointer none] w_194 fun e_202 w_203 => ∃ i61_25, e_202 = .returned (.int .i64 i61_25) ∧
         Br (i61_25 == (0 : Int)) (
          Calls prog f_tree_Tree_int_Pages #[.pointer none] w_203 fun e_203 w_204 => ∃ p66_50 l66_50 c66_50, e_203 = .returned (.slice p66_50 l66_50 c66_50) ∧
          Br ((l66_50 : Int) == (0 : Int)) (
           Calls prog f_affluxlaw08_awake #[] w_204 fun e_204 w_205 => ∃ b71_100, e_204 = .returned (.bool b71_100) ∧
           R (.returned (.bool b71_100)) w_205
          ) (
           R (.returned (.bool false)) w_204
          )
         ) (
          Br false (
           Calls prog f_affluxlaw08_awake #[] w_203 fun e_205 w_206 => ∃ b71_101, e_205 = .returned (.bool b71_101) ∧
           R (.returned (.bool b71_101)) w_206
          ) (
           R (.returned (.bool false)) w_203
          )
         )
        ) (
         Br false (
          Calls prog f_tree_Tree_int_Pages #[.pointer none] w_194 fun e_206 w_207 => ∃ p66_51 l66_51 c66_51, e_206 = .returned (.slice p66_51 l66_51 c66_51) ∧
          Br ((l66_51 : Int) == (0 : Int)) (
           Calls prog f_affluxlaw08_awake #[] w_207 fun e_207 w_208 => ∃ b71_102, e_207 = .returned (.bool b71_102) ∧
           R (.returned (.bool b71_102)) w_208
          ) (
           R (.returned (.bool false)) w_207
          )
         ) (
          Br false (
           Calls prog f_affluxlaw08_awake #[] w_194 fun e_208 w_209 => ∃ b71_103, e_208 = .returned (.bool b71_103) ∧
           R (.returned (.bool b71_103)) w_209
          ) (
           R (.returned (.bool false)) w_194
          )
         )
        )
       )
      ) (
       Br false (
        Calls prog f_tree_Tree_int_Count #[.pointer none, .string sx0, .string (str [])] w_193 fun e_209 w_210 => ∃ i56_13, e_209 = .returned (.int .i64 i56_13) ∧
        Br (i56_13 == (0 : Int)) (
         Calls prog f_tree_Tree_int_Depth #[.pointer none] w_210 fun e_210 w_211 => ∃ i61_26, e_210 = .returned (.int .i64 i61_26) ∧
         Br (i61_26 == (0 : Int)) (
          Calls prog f_tree_Tree_int_Pages #[.pointer none] w_211 fun e_211 w_212 => ∃ p66_52 l66_52 c66_52, e_211 = .returned (.slice p66_52 l66_52 c66_52) ∧
          Br ((l66_52 : Int) == (0 : Int)) (
           Calls prog f_affluxlaw08_awake #[] w_212 fun e_212 w_213 => ∃ b71_104, e_212 = .returned (.bool b71_104) ∧
           R (.returned (.bool b71_104)) w_213
          ) (
           R (.returned (.bool false)) w_212
          )
         ) (
          Br false (
           Calls prog f_affluxlaw08_awake #[] w_211 fun e_213 w_214 => ∃ b71_105, e_213 = .returned (.bool b71_105) ∧
           R (.returned (.bool b71_105)) w_214
          ) (
           R (.returned (.bool false)) w_211
          )
         )
        ) (
         Br false (
          Calls prog f_tree_Tree_int_Pages #[.pointer none] w_210 fun e_214 w_215 => ∃ p66_53 l66_53 c66_53, e_214 = .returned (.slice p66_53 l66_53 c66_53) ∧
          Br ((l66_53 : Int) == (0 : Int)) (
           Calls prog f_affluxlaw08_awake #[] w_215 fun e_215 w_216 => ∃ b71_106, e_215 = .returned (.bool b71_106) ∧
           R (.returned (.bool b71_106)) w_216
          ) (
           R (.returned (.bool false)) w_215
          )
         ) (
          Br false (
           Calls prog f_affluxlaw08_awake #[] w_210 fun e_216 w_217 => ∃ b71_107, e_216 = .returned (.bool b71_107) ∧
           R (.returned (.bool b71_107)) w_217
          ) (
           R (.returned (.bool false)) w_210
          )
         )
        )
       ) (
        Br false (
         Calls prog f_tree_Tree_int_Depth #[.pointer none] w_193 fun e_217 w_218 => ∃ i61_27, e_217 = .returned (.int .i64 i61_27) ∧
         Br (i61_27 == (0 : Int)) (
          Calls prog f_tree_Tree_int_Pages #[.pointer none] w_218 fun e_218 w_219 => ∃ p66_54 l66_54 c66_54, e_218 = .returned (.slice p66_54 l66_54 c66_54) ∧
          Br ((l66_54 : Int) == (0 : Int)) (
           Calls prog f_affluxlaw08_awake #[] w_219 fun e_219 w_220 => ∃ b71_108, e_219 = .returned (.bool b71_108) ∧
           R (.returned (.bool b71_108)) w_220
          ) (
           R (.returned (.bool false)) w_219
          )
         ) (
          Br false (
           Calls prog f_affluxlaw08_awake #[] w_218 fun e_220 w_221 => ∃ b71_109, e_220 = .returned (.bool b71_109) ∧
           R (.returned (.bool b71_109)) w_221
          ) (
           R (.returned (.bool false)) w_218
          )
         )
        ) (
         Br false (
          Calls prog f_tree_Tree_int_Pages #[.pointer none] w_193 fun e_221 w_222 => ∃ p66_55 l66_55 c66_55, e_221 = .returned (.slice p66_55 l66_55 c66_55) ∧
          Br ((l66_55 : Int) == (0 : Int)) (
           Calls prog f_affluxlaw08_awake #[] w_222 fun e_222 w_223 => ∃ b71_110, e_222 = .returned (.bool b71_110) ∧
           R (.returned (.bool b71_110)) w_223
          ) (
           R (.returned (.bool false)) w_222
          )
         ) (
          Br false (
           Calls prog f_affluxlaw08_awake #[] w_193 fun e_223 w_224 => ∃ b71_111, e_223 = .returned (.bool b71_111) ∧
           R (.returned (.bool b71_111)) w_224
          ) (
           R (.returned (.bool false)) w_193
          )
         )
        )
       )
      )
     ) (
      Br false (
       Calls prog f_tree_Tree_int_Keys #[.pointer none, .string sx0, .string (str []), .int .i64 5] w_3 fun e_224 w_225 => ∃ p49_7 l49_7 c49_7, e_224 = .returned (.slice p49_7 l49_7 c49_7) ∧
       Br ((l49_7 : Int) == (0 : Int)) (
        Calls prog f_tree_Tree_int_Count #[.pointer none, .string sx0, .string (str [])] w_225 fun e_225 w_226 => ∃ i56_14, e_225 = .returned (.int .i64 i56_14) ∧
        Br (i56_14 == (0 : Int)) (
         Calls prog f_tree_Tree_int_Depth #[.pointer none] w_226 fun e_226 w_227 => ∃ i61_28, e_226 = .returned (.int .i64 i61_28) ∧
         Br (i61_28 == (0 : Int)) (
          Calls prog f_tree_Tree_int_Pages #[.pointer none] w_227 fun e_227 w_228 => ∃ p66_56 l66_56 c66_56, e_227 = .returned (.slice p66_56 l66_56 c66_56) ∧
          Br ((l66_56 : Int) == (0 : Int)) (
           Calls prog f_affluxlaw08_awake #[] w_228 fun e_228 w_229 => ∃ b71_112, e_228 = .returned (.bool b71_112) ∧
           R (.returned (.bool b71_112)) w_229
          ) (
           R (.returned (.bool false)) w_228
          )
         ) (
          Br false (
           Calls prog f_affluxlaw08_awake #[] w_227 fun e_229 w_230 => ∃ b71_113, e_229 = .returned (.bool b71_113) ∧
           R (.returned (.bool b71_113)) w_230
          ) (
           R (.returned (.bool false)) w_227
          )
         )
        ) (
         Br false (
          Calls prog f_tree_Tree_int_Pages #[.pointer none] w_226 fun e_230 w_231 => ∃ p66_57 l66_57 c66_57, e_230 = .returned (.slice p66_57 l66_57 c66_57) ∧
          Br ((l66_57 : Int) == (0 : Int)) (
           Calls prog f_affluxlaw08_awake #[] w_231 fun e_231 w_232 => ∃ b71_114, e_231 = .returned (.bool b71_114) ∧
           R (.returned (.bool b71_114)) w_232
          ) (
           R (.returned (.bool false)) w_231
          )
         ) (
          Br false (
           Calls prog f_affluxlaw08_awake #[] w_226 fun e_232 w_233 => ∃ b71_115, e_232 = .returned (.bool b71_115) ∧
           R (.returned (.bool b71_115)) w_233
          ) (
           R (.returned (.bool false)) w_226
          )
         )
        )
       ) (
        Br false (
         Calls prog f_tree_Tree_int_Depth #[.pointer none] w_225 fun e_233 w_234 => ∃ i61_29, e_233 = .returned (.int .i64 i61_29) ∧
         Br (i61_29 == (0 : Int)) (
          Calls prog f_tree_Tree_int_Pages #[.pointer none] w_234 fun e_234 w_235 => ∃ p66_58 l66_58 c66_58, e_234 = .returned (.slice p66_58 l66_58 c66_58) ∧
          Br ((l66_58 : Int) == (0 : Int)) (
           Calls prog f_affluxlaw08_awake #[] w_235 fun e_235 w_236 => ∃ b71_116, e_235 = .returned (.bool b71_116) ∧
           R (.returned (.bool b71_116)) w_236
          ) (
           R (.returned (.bool false)) w_235
          )
         ) (
          Br false (
           Calls prog f_affluxlaw08_awake #[] w_234 fun e_236 w_237 => ∃ b71_117, e_236 = .returned (.bool b71_117) ∧
           R (.returned (.bool b71_117)) w_237
          ) (
           R (.returned (.bool false)) w_234
          )
         )
        ) (
         Br false (
          Calls prog f_tree_Tree_int_Pages #[.pointer none] w_225 fun e_237 w_238 => ∃ p66_59 l66_59 c66_59, e_237 = .returned (.slice p66_59 l66_59 c66_59) ∧
          Br ((l66_59 : Int) == (0 : Int)) (
           Calls prog f_affluxlaw08_awake #[] w_238 fun e_238 w_239 => ∃ b71_118, e_238 = .returned (.bool b71_118) ∧
           R (.returned (.bool b71_118)) w_239
          ) (
           R (.returned (.bool false)) w_238
          )
         ) (
          Br false (
           Calls prog f_affluxlaw08_awake #[] w_225 fun e_239 w_240 => ∃ b71_119, e_239 = .returned (.bool b71_119) ∧
           R (.returned (.bool b71_119)) w_240
          ) (
           R (.returned (.bool false)) w_225
          )
         )
        )
       )
      ) (
       Br false (
        Calls prog f_tree_Tree_int_Count #[.pointer none, .string sx0, .string (str [])] w_3 fun e_240 w_241 => ∃ i56_15, e_240 = .returned (.int .i64 i56_15) ∧
        Br (i56_15 == (0 : Int)) (
         Calls prog f_tree_Tree_int_Depth #[.pointer none] w_241 fun e_241 w_242 => ∃ i61_30, e_241 = .returned (.int .i64 i61_30) ∧
         Br (i61_30 == (0 : Int)) (
          Calls prog f_tree_Tree_int_Pages #[.pointer none] w_242 fun e_242 w_243 => ∃ p66_60 l66_60 c66_60, e_242 = .returned (.slice p66_60 l66_60 c66_60) ∧
          Br ((l66_60 : Int) == (0 : Int)) (
           Calls prog f_affluxlaw08_awake #[] w_243 fun e_243 w_244 => ∃ b71_120, e_243 = .returned (.bool b71_120) ∧
           R (.returned (.bool b71_120)) w_244
          ) (
           R (.returned (.bool false)) w_243
          )
         ) (
          Br false (
           Calls prog f_affluxlaw08_awake #[] w_242 fun e_244 w_245 => ∃ b71_121, e_244 = .returned (.bool b71_121) ∧
           R (.returned (.bool b71_121)) w_245
          ) (
           R (.returned (.bool false)) w_242
          )
         )
        ) (
         Br false (
          Calls prog f_tree_Tree_int_Pages #[.pointer none] w_241 fun e_245 w_246 => ∃ p66_61 l66_61 c66_61, e_245 = .returned (.slice p66_61 l66_61 c66_61) ∧
          Br ((l66_61 : Int) == (0 : Int)) (
           Calls prog f_affluxlaw08_awake #[] w_246 fun e_246 w_247 => ∃ b71_122, e_246 = .returned (.bool b71_122) ∧
           R (.returned (.bool b71_122)) w_247
          ) (
           R (.returned (.bool false)) w_246
          )
         ) (
          Br false (
           Calls prog f_affluxlaw08_awake #[] w_241 fun e_247 w_248 => ∃ b71_123, e_247 = .returned (.bool b71_123) ∧
           R (.returned (.bool b71_123)) w_248
          ) (
           R (.returned (.bool false)) w_241
          )
         )
        )
       ) (
        Br false (
         Calls prog f_tree_Tree_int_Depth #[.pointer none] w_3 fun e_248 w_249 => ∃ i61_31, e_248 = .returned (.int .i64 i61_31) ∧
         Br (i61_31 == (0 : Int)) (
          Calls prog f_tree_Tree_int_Pages #[.pointer none] w_249 fun e_249 w_250 => ∃ p66_62 l66_62 c66_62, e_249 = .returned (.slice p66_62 l66_62 c66_62) ∧
          Br ((l66_62 : Int) == (0 : Int)) (
           Calls prog f_affluxlaw08_awake #[] w_250 fun e_250 w_251 => ∃ b71_124, e_250 = .returned (.bool b71_124) ∧
           R (.returned (.bool b71_124)) w_251
          ) (
           R (.returned (.bool false)) w_250
          )
         ) (
          Br false (
           Calls prog f_affluxlaw08_awake #[] w_249 fun e_251 w_252 => ∃ b71_125, e_251 = .returned (.bool b71_125) ∧
           R (.returned (.bool b71_125)) w_252
          ) (
           R (.returned (.bool false)) w_249
          )
         )
        ) (
         Br false (
          Calls prog f_tree_Tree_int_Pages #[.pointer none] w_3 fun e_252 w_253 => ∃ p66_63 l66_63 c66_63, e_252 = .returned (.slice p66_63 l66_63 c66_63) ∧
          Br ((l66_63 : Int) == (0 : Int)) (
           Calls prog f_affluxlaw08_awake #[] w_253 fun e_253 w_254 => ∃ b71_126, e_253 = .returned (.bool b71_126) ∧
           R (.returned (.bool b71_126)) w_254
          ) (
           R (.returned (.bool false)) w_253
          )
         ) (
          Br false (
           Calls prog f_affluxlaw08_awake #[] w_3 fun e_254 w_255 => ∃ b71_127, e_254 = .returned (.bool b71_127) ∧
           R (.returned (.bool b71_127)) w_255
          ) (
           R (.returned (.bool false)) w_3
          )
         )
        )
       )
      )
     )
    )
   )
  ) (
   Br false (
    Br (i24 == (0 : Int)) (
     Br (!b24) (
      Calls prog f_affluxlaw08_looks #[.pointer none, .slice none 0 0, .string sx0] w_3 fun e_255 w_256 => ∃ b44_4, e_255 = .returned (.bool b44_4) ∧
      Br b44_4 (
       Calls prog f_tree_Tree_int_Keys #[.pointer none, .string sx0, .string (str []), .int .i64 5] w_256 fun e_256 w_257 => ∃ p49_8 l49_8 c49_8, e_256 = .returned (.slice p49_8 l49_8 c49_8) ∧
       Br ((l49_8 : Int) == (0 : Int)) (
        Calls prog f_tree_Tree_int_Count #[.pointer none, .string sx0, .string (str [])] w_257 fun e_257 w_258 => ∃ i56_16, e_257 = .returned (.int .i64 i56_16) ∧
        Br (i56_16 == (0 : Int)) (
         Calls prog f_tree_Tree_int_Depth #[.pointer none] w_258 fun e_258 w_259 => ∃ i61_32, e_258 = .returned (.int .i64 i61_32) ∧
         Br (i61_32 == (0 : Int)) (
          Calls prog f_tree_Tree_int_Pages #[.pointer none] w_259 fun e_259 w_260 => ∃ p66_64 l66_64 c66_64, e_259 = .returned (.slice p66_64 l66_64 c66_64) ∧
          Br ((l66_64 : Int) == (0 : Int)) (
           Calls prog f_affluxlaw08_awake #[] w_260 fun e_260 w_261 => ∃ b71_128, e_260 = .returned (.bool b71_128) ∧
           R (.returned (.bool b71_128)) w_261
          ) (
           R (.returned (.bool false)) w_260
          )
         ) (
          Br false (
           Calls prog f_affluxlaw08_awake #[] w_259 fun e_261 w_262 => ∃ b71_129, e_261 = .returned (.bool b71_129) ∧
           R (.returned (.bool b71_129)) w_262
          ) (
           R (.returned (.bool false)) w_259
          )
         )
        ) (
         Br false (
          Calls prog f_tree_Tree_int_Pages #[.pointer none] w_258 fun e_262 w_263 => ∃ p66_65 l66_65 c66_65, e_262 = .returned (.slice p66_65 l66_65 c66_65) ∧
          Br ((l66_65 : Int) == (0 : Int)) (
           Calls prog f_affluxlaw08_awake #[] w_263 fun e_263 w_264 => ∃ b71_130, e_263 = .returned (.bool b71_130) ∧
           R (.returned (.bool b71_130)) w_264
          ) (
           R (.returned (.bool false)) w_263
          )
         ) (
          Br false (
           Calls prog f_affluxlaw08_awake #[] w_258 fun e_264 w_265 => ∃ b71_131, e_264 = .returned (.bool b71_131) ∧
           R (.returned (.bool b71_131)) w_265
          ) (
           R (.returned (.bool false)) w_258
          )
         )
        )
       ) (
        Br false (
         Calls prog f_tree_Tree_int_Depth #[.pointer none] w_257 fun e_265 w_266 => ∃ i61_33, e_265 = .returned (.int .i64 i61_33) ∧
         Br (i61_33 == (0 : Int)) (
          Calls prog f_tree_Tree_int_Pages #[.pointer none] w_266 fun e_266 w_267 => ∃ p66_66 l66_66 c66_66, e_266 = .returned (.slice p66_66 l66_66 c66_66) ∧
          Br ((l66_66 : Int) == (0 : Int)) (
           Calls prog f_affluxlaw08_awake #[] w_267 fun e_267 w_268 => ∃ b71_132, e_267 = .returned (.bool b71_132) ∧
           R (.returned (.bool b71_132)) w_268
          ) (
           R (.returned (.bool false)) w_267
          )
         ) (
          Br false (
           Calls prog f_affluxlaw08_awake #[] w_266 fun e_268 w_269 => ∃ b71_133, e_268 = .returned (.bool b71_133) ∧
           R (.returned (.bool b71_133)) w_269
          ) (
           R (.returned (.bool false)) w_266
          )
         )
        ) (
         Br false (
          Calls prog f_tree_Tree_int_Pages #[.pointer none] w_257 fun e_269 w_270 => ∃ p66_67 l66_67 c66_67, e_269 = .returned (.slice p66_67 l66_67 c66_67) ∧
          Br ((l66_67 : Int) == (0 : Int)) (
           Calls prog f_affluxlaw08_awake #[] w_270 fun e_270 w_271 => ∃ b71_134, e_270 = .returned (.bool b71_134) ∧
           R (.returned (.bool b71_134)) w_271
          ) (
           R (.returned (.bool false)) w_270
          )
         ) (
          Br false (
           Calls prog f_affluxlaw08_awake #[] w_257 fun e_271 w_272 => ∃ b71_135, e_271 = .returned (.bool b71_135) ∧
           R (.returned (.bool b71_135)) w_272
          ) (
           R (.returned (.bool false)) w_257
          )
         )
        )
       )
      ) (
       Br false (
        Calls prog f_tree_Tree_int_Count #[.pointer none, .string sx0, .string (str [])] w_256 fun e_272 w_273 => ∃ i56_17, e_272 = .returned (.int .i64 i56_17) ∧
        Br (i56_17 == (0 : Int)) (
         Calls prog f_tree_Tree_int_Depth #[.pointer none] w_273 fun e_273 w_274 => ∃ i61_34, e_273 = .returned (.int .i64 i61_34) ∧
         Br (i61_34 == (0 : Int)) (
          Calls prog f_tree_Tree_int_Pages #[.pointer none] w_274 fun e_274 w_275 => ∃ p66_68 l66_68 c66_68, e_274 = .returned (.slice p66_68 l66_68 c66_68) ∧
          Br ((l66_68 : Int) == (0 : Int)) (
           Calls prog f_affluxlaw08_awake #[] w_275 fun e_275 w_276 => ∃ b71_136, e_275 = .returned (.bool b71_136) ∧
           R (.returned (.bool b71_136)) w_276
          ) (
           R (.returned (.bool false)) w_275
          )
         ) (
          Br false (
           Calls prog f_affluxlaw08_awake #[] w_274 fun e_276 w_277 => ∃ b71_137, e_276 = .returned (.bool b71_137) ∧
           R (.returned (.bool b71_137)) w_277
          ) (
           R (.returned (.bool false)) w_274
          )
         )
        ) (
         Br false (
          Calls prog f_tree_Tree_int_Pages #[.pointer none] w_273 fun e_277 w_278 => ∃ p66_69 l66_69 c66_69, e_277 = .returned (.slice p66_69 l66_69 c66_69) ∧
          Br ((l66_69 : Int) == (0 : Int)) (
           Calls prog f_affluxlaw08_awake #[] w_278 fun e_278 w_279 => ∃ b71_138, e_278 = .returned (.bool b71_138) ∧
           R (.returned (.bool b71_138)) w_279
          ) (
           R (.returned (.bool false)) w_278
          )
         ) (
          Br false (
           Calls prog f_affluxlaw08_awake #[] w_273 fun e_279 w_280 => ∃ b71_139, e_279 = .returned (.bool b71_139) ∧
           R (.returned (.bool b71_139)) w_280
          ) (
           R (.returned (.bool false)) w_273
          )
         )
        )
       ) (
        Br false (
         Calls prog f_tree_Tree_int_Depth #[.pointer none] w_256 fun e_280 w_281 => ∃ i61_35, e_280 = .returned (.int .i64 i61_35) ∧
         Br (i61_35 == (0 : Int)) (
          Calls prog f_tree_Tree_int_Pages #[.pointer none] w_281 fun e_281 w_282 => ∃ p66_70 l66_70 c66_70, e_281 = .returned (.slice p66_70 l66_70 c66_70) ∧
          Br ((l66_70 : Int) == (0 : Int)) (
           Calls prog f_affluxlaw08_awake #[] w_282 fun e_282 w_283 => ∃ b71_140, e_282 = .returned (.bool b71_140) ∧
           R (.returned (.bool b71_140)) w_283
          ) (
           R (.returned (.bool false)) w_282
          )
         ) (
          Br false (
           Calls prog f_affluxlaw08_awake #[] w_281 fun e_283 w_284 => ∃ b71_141, e_283 = .returned (.bool b71_141) ∧
           R (.returned (.bool b71_141)) w_284
          ) (
           R (.returned (.bool false)) w_281
          )
         )
        ) (
         Br false (
          Calls prog f_tree_Tree_int_Pages #[.pointer none] w_256 fun e_284 w_285 => ∃ p66_71 l66_71 c66_71, e_284 = .returned (.slice p66_71 l66_71 c66_71) ∧
          Br ((l66_71 : Int) == (0 : Int)) (
           Calls prog f_affluxlaw08_awake #[] w_285 fun e_285 w_286 => ∃ b71_142, e_285 = .returned (.bool b71_142) ∧
           R (.returned (.bool b71_142)) w_286
          ) (
           R (.returned (.bool false)) w_285
          )
         ) (
          Br false (
           Calls prog f_affluxlaw08_awake #[] w_256 fun e_286 w_287 => ∃ b71_143, e_286 = .returned (.bool b71_143) ∧
           R (.returned (.bool b71_143)) w_287
          ) (
           R (.returned (.bool false)) w_256
          )
         )
        )
       )
      )
     ) (
      Br false (
       Calls prog f_tree_Tree_int_Keys #[.pointer none, .string sx0, .string (str []), .int .i64 5] w_3 fun e_287 w_288 => ∃ p49_9 l49_9 c49_9, e_287 = .returned (.slice p49_9 l49_9 c49_9) ∧
       Br ((l49_9 : Int) == (0 : Int)) (
        Calls prog f_tree_Tree_int_Count #[.pointer none, .string sx0, .string (str [])] w_288 fun e_288 w_289 => ∃ i56_18, e_288 = .returned (.int .i64 i56_18) ∧
        Br (i56_18 == (0 : Int)) (
         Calls prog f_tree_Tree_int_Depth #[.pointer none] w_289 fun e_289 w_290 => ∃ i61_36, e_289 = .returned (.int .i64 i61_36) ∧
         Br (i61_36 == (0 : Int)) (
          Calls prog f_tree_Tree_int_Pages #[.pointer none] w_290 fun e_290 w_291 => ∃ p66_72 l66_72 c66_72, e_290 = .returned (.slice p66_72 l66_72 c66_72) ∧
          Br ((l66_72 : Int) == (0 : Int)) (
           Calls prog f_affluxlaw08_awake #[] w_291 fun e_291 w_292 => ∃ b71_144, e_291 = .returned (.bool b71_144) ∧
           R (.returned (.bool b71_144)) w_292
          ) (
           R (.returned (.bool false)) w_291
          )
         ) (
          Br false (
           Calls prog f_affluxlaw08_awake #[] w_290 fun e_292 w_293 => ∃ b71_145, e_292 = .returned (.bool b71_145) ∧
           R (.returned (.bool b71_145)) w_293
          ) (
           R (.returned (.bool false)) w_290
          )
         )
        ) (
         Br false (
          Calls prog f_tree_Tree_int_Pages #[.pointer none] w_289 fun e_293 w_294 => ∃ p66_73 l66_73 c66_73, e_293 = .returned (.slice p66_73 l66_73 c66_73) ∧
          Br ((l66_73 : Int) == (0 : Int)) (
           Calls prog f_affluxlaw08_awake #[] w_294 fun e_294 w_295 => ∃ b71_146, e_294 = .returned (.bool b71_146) ∧
           R (.returned (.bool b71_146)) w_295
          ) (
           R (.returned (.bool false)) w_294
          )
         ) (
          Br false (
           Calls prog f_affluxlaw08_awake #[] w_289 fun e_295 w_296 => ∃ b71_147, e_295 = .returned (.bool b71_147) ∧
           R (.returned (.bool b71_147)) w_296
          ) (
           R (.returned (.bool false)) w_289
          )
         )
        )
       ) (
        Br false (
         Calls prog f_tree_Tree_int_Depth #[.pointer none] w_288 fun e_296 w_297 => ∃ i61_37, e_296 = .returned (.int .i64 i61_37) ∧
         Br (i61_37 == (0 : Int)) (
          Calls prog f_tree_Tree_int_Pages #[.pointer none] w_297 fun e_297 w_298 => ∃ p66_74 l66_74 c66_74, e_297 = .returned (.slice p66_74 l66_74 c66_74) ∧
          Br ((l66_74 : Int) == (0 : Int)) (
           Calls prog f_affluxlaw08_awake #[] w_298 fun e_298 w_299 => ∃ b71_148, e_298 = .returned (.bool b71_148) ∧
           R (.returned (.bool b71_148)) w_299
          ) (
           R (.returned (.bool false)) w_298
          )
         ) (
          Br false (
           Calls prog f_affluxlaw08_awake #[] w_297 fun e_299 w_300 => ∃ b71_149, e_299 = .returned (.bool b71_149) ∧
           R (.returned (.bool b71_149)) w_300
          ) (
           R (.returned (.bool false)) w_297
          )
         )
        ) (
         Br false (
          Calls prog f_tree_Tree_int_Pages #[.pointer none] w_288 fun e_300 w_301 => ∃ p66_75 l66_75 c66_75, e_300 = .returned (.slice p66_75 l66_75 c66_75) ∧
          Br ((l66_75 : Int) == (0 : Int)) (
           Calls prog f_affluxlaw08_awake #[] w_301 fun e_301 w_302 => ∃ b71_150, e_301 = .returned (.bool b71_150) ∧
           R (.returned (.bool b71_150)) w_302
          ) (
           R (.returned (.bool false)) w_301
          )
         ) (
          Br false (
           Calls prog f_affluxlaw08_awake #[] w_288 fun e_302 w_303 => ∃ b71_151, e_302 = .returned (.bool b71_151) ∧
           R (.returned (.bool b71_151)) w_303
          ) (
           R (.returned (.bool false)) w_288
          )
         )
        )
       )
      ) (
       Br false (
        Calls prog f_tree_Tree_int_Count #[.pointer none, .string sx0, .string (str [])] w_3 fun e_303 w_304 => ∃ i56_19, e_303 = .returned (.int .i64 i56_19) ∧
        Br (i56_19 == (0 : Int)) (
         Calls prog f_tree_Tree_int_Depth #[.pointer none] w_304 fun e_304 w_305 => ∃ i61_38, e_304 = .returned (.int .i64 i61_38) ∧
         Br (i61_38 == (0 : Int)) (
          Calls prog f_tree_Tree_int_Pages #[.pointer none] w_305 fun e_305 w_306 => ∃ p66_76 l66_76 c66_76, e_305 = .returned (.slice p66_76 l66_76 c66_76) ∧
          Br ((l66_76 : Int) == (0 : Int)) (
           Calls prog f_affluxlaw08_awake #[] w_306 fun e_306 w_307 => ∃ b71_152, e_306 = .returned (.bool b71_152) ∧
           R (.returned (.bool b71_152)) w_307
          ) (
           R (.returned (.bool false)) w_306
          )
         ) (
          Br false (
           Calls prog f_affluxlaw08_awake #[] w_305 fun e_307 w_308 => ∃ b71_153, e_307 = .returned (.bool b71_153) ∧
           R (.returned (.bool b71_153)) w_308
          ) (
           R (.returned (.bool false)) w_305
          )
         )
        ) (
         Br false (
          Calls prog f_tree_Tree_int_Pages #[.pointer none] w_304 fun e_308 w_309 => ∃ p66_77 l66_77 c66_77, e_308 = .returned (.slice p66_77 l66_77 c66_77) ∧
          Br ((l66_77 : Int) == (0 : Int)) (
           Calls prog f_affluxlaw08_awake #[] w_309 fun e_309 w_310 => ∃ b71_154, e_309 = .returned (.bool b71_154) ∧
           R (.returned (.bool b71_154)) w_310
          ) (
           R (.returned (.bool false)) w_309
          )
         ) (
          Br false (
           Calls prog f_affluxlaw08_awake #[] w_304 fun e_310 w_311 => ∃ b71_155, e_310 = .returned (.bool b71_155) ∧
           R (.returned (.bool b71_155)) w_311
          ) (
           R (.returned (.bool false)) w_304
          )
         )
        )
       ) (
        Br false (
         Calls prog f_tree_Tree_int_Depth #[.pointer none] w_3 fun e_311 w_312 => ∃ i61_39, e_311 = .returned (.int .i64 i61_39) ∧
         Br (i61_39 == (0 : Int)) (
          Calls prog f_tree_Tree_int_Pages #[.pointer none] w_312 fun e_312 w_313 => ∃ p66_78 l66_78 c66_78, e_312 = .returned (.slice p66_78 l66_78 c66_78) ∧
          Br ((l66_78 : Int) == (0 : Int)) (
           Calls prog f_affluxlaw08_awake #[] w_313 fun e_313 w_314 => ∃ b71_156, e_313 = .returned (.bool b71_156) ∧
           R (.returned (.bool b71_156)) w_314
          ) (
           R (.returned (.bool false)) w_313
          )
         ) (
          Br false (
           Calls prog f_affluxlaw08_awake #[] w_312 fun e_314 w_315 => ∃ b71_157, e_314 = .returned (.bool b71_157) ∧
           R (.returned (.bool b71_157)) w_315
          ) (
           R (.returned (.bool false)) w_312
          )
         )
        ) (
         Br false (
          Calls prog f_tree_Tree_int_Pages #[.pointer none] w_3 fun e_315 w_316 => ∃ p66_79 l66_79 c66_79, e_315 = .returned (.slice p66_79 l66_79 c66_79) ∧
          Br ((l66_79 : Int) == (0 : Int)) (
           Calls prog f_affluxlaw08_awake #[] w_316 fun e_316 w_317 => ∃ b71_158, e_316 = .returned (.bool b71_158) ∧
           R (.returned (.bool b71_158)) w_317
          ) (
           R (.returned (.bool false)) w_316
          )
         ) (
          Br false (
           Calls prog f_affluxlaw08_awake #[] w_3 fun e_317 w_318 => ∃ b71_159, e_317 = .returned (.bool b71_159) ∧
           R (.returned (.bool b71_159)) w_318
          ) (
           R (.returned (.bool false)) w_3
          )
         )
        )
       )
      )
     )
    ) (
     Br false (
      Calls prog f_affluxlaw08_looks #[.pointer none, .slice none 0 0, .string sx0] w_3 fun e_318 w_319 => ∃ b44_5, e_318 = .returned (.bool b44_5) ∧
      Br b44_5 (
       Calls prog f_tree_Tree_int_Keys #[.pointer none, .string sx0, .string (str []), .int .i64 5] w_319 fun e_319 w_320 => ∃ p49_10 l49_10 c49_10, e_319 = .returned (.slice p49_10 l49_10 c49_10) ∧
       Br ((l49_10 : Int) == (0 : Int)) (
        Calls prog f_tree_Tree_int_Count #[.pointer none, .string sx0, .string (str [])] w_320 fun e_320 w_321 => ∃ i56_20, e_320 = .returned (.int .i64 i56_20) ∧
        Br (i56_20 == (0 : Int)) (
         Calls prog f_tree_Tree_int_Depth #[.pointer none] w_321 fun e_321 w_322 => ∃ i61_40, e_321 = .returned (.int .i64 i61_40) ∧
         Br (i61_40 == (0 : Int)) (
          Calls prog f_tree_Tree_int_Pages #[.pointer none] w_322 fun e_322 w_323 => ∃ p66_80 l66_80 c66_80, e_322 = .returned (.slice p66_80 l66_80 c66_80) ∧
          Br ((l66_80 : Int) == (0 : Int)) (
           Calls prog f_affluxlaw08_awake #[] w_323 fun e_323 w_324 => ∃ b71_160, e_323 = .returned (.bool b71_160) ∧
           R (.returned (.bool b71_160)) w_324
          ) (
           R (.returned (.bool false)) w_323
          )
         ) (
          Br false (
           Calls prog f_affluxlaw08_awake #[] w_322 fun e_324 w_325 => ∃ b71_161, e_324 = .returned (.bool b71_161) ∧
           R (.returned (.bool b71_161)) w_325
          ) (
           R (.returned (.bool false)) w_322
          )
         )
        ) (
         Br false (
          Calls prog f_tree_Tree_int_Pages #[.pointer none] w_321 fun e_325 w_326 => ∃ p66_81 l66_81 c66_81, e_325 = .returned (.slice p66_81 l66_81 c66_81) ∧
          Br ((l66_81 : Int) == (0 : Int)) (
           Calls prog f_affluxlaw08_awake #[] w_326 fun e_326 w_327 => ∃ b71_162, e_326 = .returned (.bool b71_162) ∧
           R (.returned (.bool b71_162)) w_327
          ) (
           R (.returned (.bool false)) w_326
          )
         ) (
          Br false (
           Calls prog f_affluxlaw08_awake #[] w_321 fun e_327 w_328 => ∃ b71_163, e_327 = .returned (.bool b71_163) ∧
           R (.returned (.bool b71_163)) w_328
          ) (
           R (.returned (.bool false)) w_321
          )
         )
        )
       ) (
        Br false (
         Calls prog f_tree_Tree_int_Depth #[.pointer none] w_320 fun e_328 w_329 => ∃ i61_41, e_328 = .returned (.int .i64 i61_41) ∧
         Br (i61_41 == (0 : Int)) (
          Calls prog f_tree_Tree_int_Pages #[.pointer none] w_329 fun e_329 w_330 => ∃ p66_82 l66_82 c66_82, e_329 = .returned (.slice p66_82 l66_82 c66_82) ∧
          Br ((l66_82 : Int) == (0 : Int)) (
           Calls prog f_affluxlaw08_awake #[] w_330 fun e_330 w_331 => ∃ b71_164, e_330 = .returned (.bool b71_164) ∧
           R (.returned (.bool b71_164)) w_331
          ) (
           R (.returned (.bool false)) w_330
          )
         ) (
          Br false (
           Calls prog f_affluxlaw08_awake #[] w_329 fun e_331 w_332 => ∃ b71_165, e_331 = .returned (.bool b71_165) ∧
           R (.returned (.bool b71_165)) w_332
          ) (
           R (.returned (.bool false)) w_329
          )
         )
        ) (
         Br false (
          Calls prog f_tree_Tree_int_Pages #[.pointer none] w_320 fun e_332 w_333 => ∃ p66_83 l66_83 c66_83, e_332 = .returned (.slice p66_83 l66_83 c66_83) ∧
          Br ((l66_83 : Int) == (0 : Int)) (
           Calls prog f_affluxlaw08_awake #[] w_333 fun e_333 w_334 => ∃ b71_166, e_333 = .returned (.bool b71_166) ∧
           R (.returned (.bool b71_166)) w_334
          ) (
           R (.returned (.bool false)) w_333
          )
         ) (
          Br false (
           Calls prog f_affluxlaw08_awake #[] w_320 fun e_334 w_335 => ∃ b71_167, e_334 = .returned (.bool b71_167) ∧
           R (.returned (.bool b71_167)) w_335
          ) (
           R (.returned (.bool false)) w_320
          )
         )
        )
       )
      ) (
       Br false (
        Calls prog f_tree_Tree_int_Count #[.pointer none, .string sx0, .string (str [])] w_319 fun e_335 w_336 => ∃ i56_21, e_335 = .returned (.int .i64 i56_21) ∧
        Br (i56_21 == (0 : Int)) (
         Calls prog f_tree_Tree_int_Depth #[.pointer none] w_336 fun e_336 w_337 => ∃ i61_42, e_336 = .returned (.int .i64 i61_42) ∧
         Br (i61_42 == (0 : Int)) (
          Calls prog f_tree_Tree_int_Pages #[.pointer none] w_337 fun e_337 w_338 => ∃ p66_84 l66_84 c66_84, e_337 = .returned (.slice p66_84 l66_84 c66_84) ∧
          Br ((l66_84 : Int) == (0 : Int)) (
           Calls prog f_affluxlaw08_awake #[] w_338 fun e_338 w_339 => ∃ b71_168, e_338 = .returned (.bool b71_168) ∧
           R (.returned (.bool b71_168)) w_339
          ) (
           R (.returned (.bool false)) w_338
          )
         ) (
          Br false (
           Calls prog f_affluxlaw08_awake #[] w_337 fun e_339 w_340 => ∃ b71_169, e_339 = .returned (.bool b71_169) ∧
           R (.returned (.bool b71_169)) w_340
          ) (
           R (.returned (.bool false)) w_337
          )
         )
        ) (
         Br false (
          Calls prog f_tree_Tree_int_Pages #[.pointer none] w_336 fun e_340 w_341 => ∃ p66_85 l66_85 c66_85, e_340 = .returned (.slice p66_85 l66_85 c66_85) ∧
          Br ((l66_85 : Int) == (0 : Int)) (
           Calls prog f_affluxlaw08_awake #[] w_341 fun e_341 w_342 => ∃ b71_170, e_341 = .returned (.bool b71_170) ∧
           R (.returned (.bool b71_170)) w_342
          ) (
           R (.returned (.bool false)) w_341
          )
         ) (
          Br false (
           Calls prog f_affluxlaw08_awake #[] w_336 fun e_342 w_343 => ∃ b71_171, e_342 = .returned (.bool b71_171) ∧
           R (.returned (.bool b71_171)) w_343
          ) (
           R (.returned (.bool false)) w_336
          )
         )
        )
       ) (
        Br false (
         Calls prog f_tree_Tree_int_Depth #[.pointer none] w_319 fun e_343 w_344 => ∃ i61_43, e_343 = .returned (.int .i64 i61_43) ∧
         Br (i61_43 == (0 : Int)) (
          Calls prog f_tree_Tree_int_Pages #[.pointer none] w_344 fun e_344 w_345 => ∃ p66_86 l66_86 c66_86, e_344 = .returned (.slice p66_86 l66_86 c66_86) ∧
          Br ((l66_86 : Int) == (0 : Int)) (
           Calls prog f_affluxlaw08_awake #[] w_345 fun e_345 w_346 => ∃ b71_172, e_345 = .returned (.bool b71_172) ∧
           R (.returned (.bool b71_172)) w_346
          ) (
           R (.returned (.bool false)) w_345
          )
         ) (
          Br false (
           Calls prog f_affluxlaw08_awake #[] w_344 fun e_346 w_347 => ∃ b71_173, e_346 = .returned (.bool b71_173) ∧
           R (.returned (.bool b71_173)) w_347
          ) (
           R (.returned (.bool false)) w_344
          )
         )
        ) (
         Br false (
          Calls prog f_tree_Tree_int_Pages #[.pointer none] w_319 fun e_347 w_348 => ∃ p66_87 l66_87 c66_87, e_347 = .returned (.slice p66_87 l66_87 c66_87) ∧
          Br ((l66_87 : Int) == (0 : Int)) (
           Calls prog f_affluxlaw08_awake #[] w_348 fun e_348 w_349 => ∃ b71_174, e_348 = .returned (.bool b71_174) ∧
           R (.returned (.bool b71_174)) w_349
          ) (
           R (.returned (.bool false)) w_348
          )
         ) (
          Br false (
           Calls prog f_affluxlaw08_awake #[] w_319 fun e_349 w_350 => ∃ b71_175, e_349 = .returned (.bool b71_175) ∧
           R (.returned (.bool b71_175)) w_350
          ) (
           R (.returned (.bool false)) w_319
          )
         )
        )
       )
      )
     ) (
      Br false (
       Calls prog f_tree_Tree_int_Keys #[.pointer none, .string sx0, .string (str []), .int .i64 5] w_3 fun e_350 w_351 => ∃ p49_11 l49_11 c49_11, e_350 = .returned (.slice p49_11 l49_11 c49_11) ∧
       Br ((l49_11 : Int) == (0 : Int)) (
        Calls prog f_tree_Tree_int_Count #[.pointer none, .string sx0, .string (str [])] w_351 fun e_351 w_352 => ∃ i56_22, e_351 = .returned (.int .i64 i56_22) ∧
        Br (i56_22 == (0 : Int)) (
         Calls prog f_tree_Tree_int_Depth #[.pointer none] w_352 fun e_352 w_353 => ∃ i61_44, e_352 = .returned (.int .i64 i61_44) ∧
         Br (i61_44 == (0 : Int)) (
          Calls prog f_tree_Tree_int_Pages #[.pointer none] w_353 fun e_353 w_354 => ∃ p66_88 l66_88 c66_88, e_353 = .returned (.slice p66_88 l66_88 c66_88) ∧
          Br ((l66_88 : Int) == (0 : Int)) (
           Calls prog f_affluxlaw08_awake #[] w_354 fun e_354 w_355 => ∃ b71_176, e_354 = .returned (.bool b71_176) ∧
           R (.returned (.bool b71_176)) w_355
          ) (
           R (.returned (.bool false)) w_354
          )
         ) (
          Br false (
           Calls prog f_affluxlaw08_awake #[] w_353 fun e_355 w_356 => ∃ b71_177, e_355 = .returned (.bool b71_177) ∧
           R (.returned (.bool b71_177)) w_356
          ) (
           R (.returned (.bool false)) w_353
          )
         )
        ) (
         Br false (
          Calls prog f_tree_Tree_int_Pages #[.pointer none] w_352 fun e_356 w_357 => ∃ p66_89 l66_89 c66_89, e_356 = .returned (.slice p66_89 l66_89 c66_89) ∧
          Br ((l66_89 : Int) == (0 : Int)) (
           Calls prog f_affluxlaw08_awake #[] w_357 fun e_357 w_358 => ∃ b71_178, e_357 = .returned (.bool b71_178) ∧
           R (.returned (.bool b71_178)) w_358
          ) (
           R (.returned (.bool false)) w_357
          )
         ) (
          Br false (
           Calls prog f_affluxlaw08_awake #[] w_352 fun e_358 w_359 => ∃ b71_179, e_358 = .returned (.bool b71_179) ∧
           R (.returned (.bool b71_179)) w_359
          ) (
           R (.returned (.bool false)) w_352
          )
         )
        )
       ) (
        Br false (
         Calls prog f_tree_Tree_int_Depth #[.pointer none] w_351 fun e_359 w_360 => ∃ i61_45, e_359 = .returned (.int .i64 i61_45) ∧
         Br (i61_45 == (0 : Int)) (
          Calls prog f_tree_Tree_int_Pages #[.pointer none] w_360 fun e_360 w_361 => ∃ p66_90 l66_90 c66_90, e_360 = .returned (.slice p66_90 l66_90 c66_90) ∧
          Br ((l66_90 : Int) == (0 : Int)) (
           Calls prog f_affluxlaw08_awake #[] w_361 fun e_361 w_362 => ∃ b71_180, e_361 = .returned (.bool b71_180) ∧
           R (.returned (.bool b71_180)) w_362
          ) (
           R (.returned (.bool false)) w_361
          )
         ) (
          Br false (
           Calls prog f_affluxlaw08_awake #[] w_360 fun e_362 w_363 => ∃ b71_181, e_362 = .returned (.bool b71_181) ∧
           R (.returned (.bool b71_181)) w_363
          ) (
           R (.returned (.bool false)) w_360
          )
         )
        ) (
         Br false (
          Calls prog f_tree_Tree_int_Pages #[.pointer none] w_351 fun e_363 w_364 => ∃ p66_91 l66_91 c66_91, e_363 = .returned (.slice p66_91 l66_91 c66_91) ∧
          Br ((l66_91 : Int) == (0 : Int)) (
           Calls prog f_affluxlaw08_awake #[] w_364 fun e_364 w_365 => ∃ b71_182, e_364 = .returned (.bool b71_182) ∧
           R (.returned (.bool b71_182)) w_365
          ) (
           R (.returned (.bool false)) w_364
          )
         ) (
          Br false (
           Calls prog f_affluxlaw08_awake #[] w_351 fun e_365 w_366 => ∃ b71_183, e_365 = .returned (.bool b71_183) ∧
           R (.returned (.bool b71_183)) w_366
          ) (
           R (.returned (.bool false)) w_351
          )
         )
        )
       )
      ) (
       Br false (
        Calls prog f_tree_Tree_int_Count #[.pointer none, .string sx0, .string (str [])] w_3 fun e_366 w_367 => ∃ i56_23, e_366 = .returned (.int .i64 i56_23) ∧
        Br (i56_23 == (0 : Int)) (
         Calls prog f_tree_Tree_int_Depth #[.pointer none] w_367 fun e_367 w_368 => ∃ i61_46, e_367 = .returned (.int .i64 i61_46) ∧
         Br (i61_46 == (0 : Int)) (
          Calls prog f_tree_Tree_int_Pages #[.pointer none] w_368 fun e_368 w_369 => ∃ p66_92 l66_92 c66_92, e_368 = .returned (.slice p66_92 l66_92 c66_92) ∧
          Br ((l66_92 : Int) == (0 : Int)) (
           Calls prog f_affluxlaw08_awake #[] w_369 fun e_369 w_370 => ∃ b71_184, e_369 = .returned (.bool b71_184) ∧
           R (.returned (.bool b71_184)) w_370
          ) (
           R (.returned (.bool false)) w_369
          )
         ) (
          Br false (
           Calls prog f_affluxlaw08_awake #[] w_368 fun e_370 w_371 => ∃ b71_185, e_370 = .returned (.bool b71_185) ∧
           R (.returned (.bool b71_185)) w_371
          ) (
           R (.returned (.bool false)) w_368
          )
         )
        ) (
         Br false (
          Calls prog f_tree_Tree_int_Pages #[.pointer none] w_367 fun e_371 w_372 => ∃ p66_93 l66_93 c66_93, e_371 = .returned (.slice p66_93 l66_93 c66_93) ∧
          Br ((l66_93 : Int) == (0 : Int)) (
           Calls prog f_affluxlaw08_awake #[] w_372 fun e_372 w_373 => ∃ b71_186, e_372 = .returned (.bool b71_186) ∧
           R (.returned (.bool b71_186)) w_373
          ) (
           R (.returned (.bool false)) w_372
          )
         ) (
          Br false (
           Calls prog f_affluxlaw08_awake #[] w_367 fun e_373 w_374 => ∃ b71_187, e_373 = .returned (.bool b71_187) ∧
           R (.returned (.bool b71_187)) w_374
          ) (
           R (.returned (.bool false)) w_367
          )
         )
        )
       ) (
        Br false (
         Calls prog f_tree_Tree_int_Depth #[.pointer none] w_3 fun e_374 w_375 => ∃ i61_47, e_374 = .returned (.int .i64 i61_47) ∧
         Br (i61_47 == (0 : Int)) (
          Calls prog f_tree_Tree_int_Pages #[.pointer none] w_375 fun e_375 w_376 => ∃ p66_94 l66_94 c66_94, e_375 = .returned (.slice p66_94 l66_94 c66_94) ∧
          Br ((l66_94 : Int) == (0 : Int)) (
           Calls prog f_affluxlaw08_awake #[] w_376 fun e_376 w_377 => ∃ b71_188, e_376 = .returned (.bool b71_188) ∧
           R (.returned (.bool b71_188)) w_377
          ) (
           R (.returned (.bool false)) w_376
          )
         ) (
          Br false (
           Calls prog f_affluxlaw08_awake #[] w_375 fun e_377 w_378 => ∃ b71_189, e_377 = .returned (.bool b71_189) ∧
           R (.returned (.bool b71_189)) w_378
          ) (
           R (.returned (.bool false)) w_375
          )
         )
        ) (
         Br false (
          Calls prog f_tree_Tree_int_Pages #[.pointer none] w_3 fun e_378 w_379 => ∃ p66_95 l66_95 c66_95, e_378 = .returned (.slice p66_95 l66_95 c66_95) ∧
          Br ((l66_95 : Int) == (0 : Int)) (
           Calls prog f_affluxlaw08_awake #[] w_379 fun e_379 w_380 => ∃ b71_190, e_379 = .returned (.bool b71_190) ∧
           R (.returned (.bool b71_190)) w_380
          ) (
           R (.returned (.bool false)) w_379
          )
         ) (
          Br false (
           Calls prog f_affluxlaw08_awake #[] w_3 fun e_380 w_381 => ∃ b71_191, e_380 = .returned (.bool b71_191) ∧
           R (.returned (.bool b71_191)) w_381
          ) (
           R (.returned (.bool false)) w_3
          )
         )
        )
       )
      )
     )
    )
   ) (
    Br false (
     Br (!b24) (
      Calls prog f_affluxlaw08_looks #[.pointer none, .slice none 0 0, .string sx0] w_3 fun e_381 w_382 => ∃ b44_6, e_381 = .returned (.bool b44_6) ∧
      Br b44_6 (
       Calls prog f_tree_Tree_int_Keys #[.pointer none, .string sx0, .string (str []), .int .i64 5] w_382 fun e_382 w_383 => ∃ p49_12 l49_12 c49_12, e_382 = .returned (.slice p49_12 l49_12 c49_12) ∧
       Br ((l49_12 : Int) == (0 : Int)) (
        Calls prog f_tree_Tree_int_Count #[.pointer none, .string sx0, .string (str [])] w_383 fun e_383 w_384 => ∃ i56_24, e_383 = .returned (.int .i64 i56_24) ∧
        Br (i56_24 == (0 : Int)) (
         Calls prog f_tree_Tree_int_Depth #[.pointer none] w_384 fun e_384 w_385 => ∃ i61_48, e_384 = .returned (.int .i64 i61_48) ∧
         Br (i61_48 == (0 : Int)) (
          Calls prog f_tree_Tree_int_Pages #[.pointer none] w_385 fun e_385 w_386 => ∃ p66_96 l66_96 c66_96, e_385 = .returned (.slice p66_96 l66_96 c66_96) ∧
          Br ((l66_96 : Int) == (0 : Int)) (
           Calls prog f_affluxlaw08_awake #[] w_386 fun e_386 w_387 => ∃ b71_192, e_386 = .returned (.bool b71_192) ∧
           R (.returned (.bool b71_192)) w_387
          ) (
           R (.returned (.bool false)) w_386
          )
         ) (
          Br false (
           Calls prog f_affluxlaw08_awake #[] w_385 fun e_387 w_388 => ∃ b71_193, e_387 = .returned (.bool b71_193) ∧
           R (.returned (.bool b71_193)) w_388
          ) (
           R (.returned (.bool false)) w_385
          )
         )
        ) (
         Br false (
          Calls prog f_tree_Tree_int_Pages #[.pointer none] w_384 fun e_388 w_389 => ∃ p66_97 l66_97 c66_97, e_388 = .returned (.slice p66_97 l66_97 c66_97) ∧
          Br ((l66_97 : Int) == (0 : Int)) (
           Calls prog f_affluxlaw08_awake #[] w_389 fun e_389 w_390 => ∃ b71_194, e_389 = .returned (.bool b71_194) ∧
           R (.returned (.bool b71_194)) w_390
          ) (
           R (.returned (.bool false)) w_389
          )
         ) (
          Br false (
           Calls prog f_affluxlaw08_awake #[] w_384 fun e_390 w_391 => ∃ b71_195, e_390 = .returned (.bool b71_195) ∧
           R (.returned (.bool b71_195)) w_391
          ) (
           R (.returned (.bool false)) w_384
          )
         )
        )
       ) (
        Br false (
         Calls prog f_tree_Tree_int_Depth #[.pointer none] w_383 fun e_391 w_392 => ∃ i61_49, e_391 = .returned (.int .i64 i61_49) ∧
         Br (i61_49 == (0 : Int)) (
          Calls prog f_tree_Tree_int_Pages #[.pointer none] w_392 fun e_392 w_393 => ∃ p66_98 l66_98 c66_98, e_392 = .returned (.slice p66_98 l66_98 c66_98) ∧
          Br ((l66_98 : Int) == (0 : Int)) (
           Calls prog f_affluxlaw08_awake #[] w_393 fun e_393 w_394 => ∃ b71_196, e_393 = .returned (.bool b71_196) ∧
           R (.returned (.bool b71_196)) w_394
          ) (
           R (.returned (.bool false)) w_393
          )
         ) (
          Br false (
           Calls prog f_affluxlaw08_awake #[] w_392 fun e_394 w_395 => ∃ b71_197, e_394 = .returned (.bool b71_197) ∧
           R (.returned (.bool b71_197)) w_395
          ) (
           R (.returned (.bool false)) w_392
          )
         )
        ) (
         Br false (
          Calls prog f_tree_Tree_int_Pages #[.pointer none] w_383 fun e_395 w_396 => ∃ p66_99 l66_99 c66_99, e_395 = .returned (.slice p66_99 l66_99 c66_99) ∧
          Br ((l66_99 : Int) == (0 : Int)) (
           Calls prog f_affluxlaw08_awake #[] w_396 fun e_396 w_397 => ∃ b71_198, e_396 = .returned (.bool b71_198) ∧
           R (.returned (.bool b71_198)) w_397
          ) (
           R (.returned (.bool false)) w_396
          )
         ) (
          Br false (
           Calls prog f_affluxlaw08_awake #[] w_383 fun e_397 w_398 => ∃ b71_199, e_397 = .returned (.bool b71_199) ∧
           R (.returned (.bool b71_199)) w_398
          ) (
           R (.returned (.bool false)) w_383
          )
         )
        )
       )
      ) (
       Br false (
        Calls prog f_tree_Tree_int_Count #[.pointer none, .string sx0, .string (str [])] w_382 fun e_398 w_399 => ∃ i56_25, e_398 = .returned (.int .i64 i56_25) ∧
        Br (i56_25 == (0 : Int)) (
         Calls prog f_tree_Tree_int_Depth #[.pointer none] w_399 fun e_399 w_400 => ∃ i61_50, e_399 = .returned (.int .i64 i61_50) ∧
         Br (i61_50 == (0 : Int)) (
          Calls prog f_tree_Tree_int_Pages #[.pointer none] w_400 fun e_400 w_401 => ∃ p66_100 l66_100 c66_100, e_400 = .returned (.slice p66_100 l66_100 c66_100) ∧
          Br ((l66_100 : Int) == (0 : Int)) (
           Calls prog f_affluxlaw08_awake #[] w_401 fun e_401 w_402 => ∃ b71_200, e_401 = .returned (.bool b71_200) ∧
           R (.returned (.bool b71_200)) w_402
          ) (
           R (.returned (.bool false)) w_401
          )
         ) (
          Br false (
           Calls prog f_affluxlaw08_awake #[] w_400 fun e_402 w_403 => ∃ b71_201, e_402 = .returned (.bool b71_201) ∧
           R (.returned (.bool b71_201)) w_403
          ) (
           R (.returned (.bool false)) w_400
          )
         )
        ) (
         Br false (
          Calls prog f_tree_Tree_int_Pages #[.pointer none] w_399 fun e_403 w_404 => ∃ p66_101 l66_101 c66_101, e_403 = .returned (.slice p66_101 l66_101 c66_101) ∧
          Br ((l66_101 : Int) == (0 : Int)) (
           Calls prog f_affluxlaw08_awake #[] w_404 fun e_404 w_405 => ∃ b71_202, e_404 = .returned (.bool b71_202) ∧
           R (.returned (.bool b71_202)) w_405
          ) (
           R (.returned (.bool false)) w_404
          )
         ) (
          Br false (
           Calls prog f_affluxlaw08_awake #[] w_399 fun e_405 w_406 => ∃ b71_203, e_405 = .returned (.bool b71_203) ∧
           R (.returned (.bool b71_203)) w_406
          ) (
           R (.returned (.bool false)) w_399
          )
         )
        )
       ) (
        Br false (
         Calls prog f_tree_Tree_int_Depth #[.pointer none] w_382 fun e_406 w_407 => ∃ i61_51, e_406 = .returned (.int .i64 i61_51) ∧
         Br (i61_51 == (0 : Int)) (
          Calls prog f_tree_Tree_int_Pages #[.pointer none] w_407 fun e_407 w_408 => ∃ p66_102 l66_102 c66_102, e_407 = .returned (.slice p66_102 l66_102 c66_102) ∧
          Br ((l66_102 : Int) == (0 : Int)) (
           Calls prog f_affluxlaw08_awake #[] w_408 fun e_408 w_409 => ∃ b71_204, e_408 = .returned (.bool b71_204) ∧
           R (.returned (.bool b71_204)) w_409
          ) (
           R (.returned (.bool false)) w_408
          )
         ) (
          Br false (
           Calls prog f_affluxlaw08_awake #[] w_407 fun e_409 w_410 => ∃ b71_205, e_409 = .returned (.bool b71_205) ∧
           R (.returned (.bool b71_205)) w_410
          ) (
           R (.returned (.bool false)) w_407
          )
         )
        ) (
         Br false (
          Calls prog f_tree_Tree_int_Pages #[.pointer none] w_382 fun e_410 w_411 => ∃ p66_103 l66_103 c66_103, e_410 = .returned (.slice p66_103 l66_103 c66_103) ∧
          Br ((l66_103 : Int) == (0 : Int)) (
           Calls prog f_affluxlaw08_awake #[] w_411 fun e_411 w_412 => ∃ b71_206, e_411 = .returned (.bool b71_206) ∧
           R (.returned (.bool b71_206)) w_412
          ) (
           R (.returned (.bool false)) w_411
          )
         ) (
          Br false (
           Calls prog f_affluxlaw08_awake #[] w_382 fun e_412 w_413 => ∃ b71_207, e_412 = .returned (.bool b71_207) ∧
           R (.returned (.bool b71_207)) w_413
          ) (
           R (.returned (.bool false)) w_382
          )
         )
        )
       )
      )
     ) (
      Br false (
       Calls prog f_tree_Tree_int_Keys #[.pointer none, .string sx0, .string (str []), .int .i64 5] w_3 fun e_413 w_414 => ∃ p49_13 l49_13 c49_13, e_413 = .returned (.slice p49_13 l49_13 c49_13) ∧
       Br ((l49_13 : Int) == (0 : Int)) (
        Calls prog f_tree_Tree_int_Count #[.pointer none, .string sx0, .string (str [])] w_414 fun e_414 w_415 => ∃ i56_26, e_414 = .returned (.int .i64 i56_26) ∧
        Br (i56_26 == (0 : Int)) (
         Calls prog f_tree_Tree_int_Depth #[.pointer none] w_415 fun e_415 w_416 => ∃ i61_52, e_415 = .returned (.int .i64 i61_52) ∧
         Br (i61_52 == (0 : Int)) (
          Calls prog f_tree_Tree_int_Pages #[.pointer none] w_416 fun e_416 w_417 => ∃ p66_104 l66_104 c66_104, e_416 = .returned (.slice p66_104 l66_104 c66_104) ∧
          Br ((l66_104 : Int) == (0 : Int)) (
           Calls prog f_affluxlaw08_awake #[] w_417 fun e_417 w_418 => ∃ b71_208, e_417 = .returned (.bool b71_208) ∧
           R (.returned (.bool b71_208)) w_418
          ) (
           R (.returned (.bool false)) w_417
          )
         ) (
          Br false (
           Calls prog f_affluxlaw08_awake #[] w_416 fun e_418 w_419 => ∃ b71_209, e_418 = .returned (.bool b71_209) ∧
           R (.returned (.bool b71_209)) w_419
          ) (
           R (.returned (.bool false)) w_416
          )
         )
        ) (
         Br false (
          Calls prog f_tree_Tree_int_Pages #[.pointer none] w_415 fun e_419 w_420 => ∃ p66_105 l66_105 c66_105, e_419 = .returned (.slice p66_105 l66_105 c66_105) ∧
          Br ((l66_105 : Int) == (0 : Int)) (
           Calls prog f_affluxlaw08_awake #[] w_420 fun e_420 w_421 => ∃ b71_210, e_420 = .returned (.bool b71_210) ∧
           R (.returned (.bool b71_210)) w_421
          ) (
           R (.returned (.bool false)) w_420
          )
         ) (
          Br false (
           Calls prog f_affluxlaw08_awake #[] w_415 fun e_421 w_422 => ∃ b71_211, e_421 = .returned (.bool b71_211) ∧
           R (.returned (.bool b71_211)) w_422
          ) (
           R (.returned (.bool false)) w_415
          )
         )
        )
       ) (
        Br false (
         Calls prog f_tree_Tree_int_Depth #[.pointer none] w_414 fun e_422 w_423 => ∃ i61_53, e_422 = .returned (.int .i64 i61_53) ∧
         Br (i61_53 == (0 : Int)) (
          Calls prog f_tree_Tree_int_Pages #[.pointer none] w_423 fun e_423 w_424 => ∃ p66_106 l66_106 c66_106, e_423 = .returned (.slice p66_106 l66_106 c66_106) ∧
          Br ((l66_106 : Int) == (0 : Int)) (
           Calls prog f_affluxlaw08_awake #[] w_424 fun e_424 w_425 => ∃ b71_212, e_424 = .returned (.bool b71_212) ∧
           R (.returned (.bool b71_212)) w_425
          ) (
           R (.returned (.bool false)) w_424
          )
         ) (
          Br false (
           Calls prog f_affluxlaw08_awake #[] w_423 fun e_425 w_426 => ∃ b71_213, e_425 = .returned (.bool b71_213) ∧
           R (.returned (.bool b71_213)) w_426
          ) (
           R (.returned (.bool false)) w_423
          )
         )
        ) (
         Br false (
          Calls prog f_tree_Tree_int_Pages #[.pointer none] w_414 fun e_426 w_427 => ∃ p66_107 l66_107 c66_107, e_426 = .returned (.slice p66_107 l66_107 c66_107) ∧
          Br ((l66_107 : Int) == (0 : Int)) (
           Calls prog f_affluxlaw08_awake #[] w_427 fun e_427 w_428 => ∃ b71_214, e_427 = .returned (.bool b71_214) ∧
           R (.returned (.bool b71_214)) w_428
          ) (
           R (.returned (.bool false)) w_427
          )
         ) (
          Br false (
           Calls prog f_affluxlaw08_awake #[] w_414 fun e_428 w_429 => ∃ b71_215, e_428 = .returned (.bool b71_215) ∧
           R (.returned (.bool b71_215)) w_429
          ) (
           R (.returned (.bool false)) w_414
          )
         )
        )
       )
      ) (
       Br false (
        Calls prog f_tree_Tree_int_Count #[.pointer none, .string sx0, .string (str [])] w_3 fun e_429 w_430 => ∃ i56_27, e_429 = .returned (.int .i64 i56_27) ∧
        Br (i56_27 == (0 : Int)) (
         Calls prog f_tree_Tree_int_Depth #[.pointer none] w_430 fun e_430 w_431 => ∃ i61_54, e_430 = .returned (.int .i64 i61_54) ∧
         Br (i61_54 == (0 : Int)) (
          Calls prog f_tree_Tree_int_Pages #[.pointer none] w_431 fun e_431 w_432 => ∃ p66_108 l66_108 c66_108, e_431 = .returned (.slice p66_108 l66_108 c66_108) ∧
          Br ((l66_108 : Int) == (0 : Int)) (
           Calls prog f_affluxlaw08_awake #[] w_432 fun e_432 w_433 => ∃ b71_216, e_432 = .returned (.bool b71_216) ∧
           R (.returned (.bool b71_216)) w_433
          ) (
           R (.returned (.bool false)) w_432
          )
         ) (
          Br false (
           Calls prog f_affluxlaw08_awake #[] w_431 fun e_433 w_434 => ∃ b71_217, e_433 = .returned (.bool b71_217) ∧
           R (.returned (.bool b71_217)) w_434
          ) (
           R (.returned (.bool false)) w_431
          )
         )
        ) (
         Br false (
          Calls prog f_tree_Tree_int_Pages #[.pointer none] w_430 fun e_434 w_435 => ∃ p66_109 l66_109 c66_109, e_434 = .returned (.slice p66_109 l66_109 c66_109) ∧
          Br ((l66_109 : Int) == (0 : Int)) (
           Calls prog f_affluxlaw08_awake #[] w_435 fun e_435 w_436 => ∃ b71_218, e_435 = .returned (.bool b71_218) ∧
           R (.returned (.bool b71_218)) w_436
          ) (
           R (.returned (.bool false)) w_435
          )
         ) (
          Br false (
           Calls prog f_affluxlaw08_awake #[] w_430 fun e_436 w_437 => ∃ b71_219, e_436 = .returned (.bool b71_219) ∧
           R (.returned (.bool b71_219)) w_437
          ) (
           R (.returned (.bool false)) w_430
          )
         )
        )
       ) (
        Br false (
         Calls prog f_tree_Tree_int_Depth #[.pointer none] w_3 fun e_437 w_438 => ∃ i61_55, e_437 = .returned (.int .i64 i61_55) ∧
         Br (i61_55 == (0 : Int)) (
          Calls prog f_tree_Tree_int_Pages #[.pointer none] w_438 fun e_438 w_439 => ∃ p66_110 l66_110 c66_110, e_438 = .returned (.slice p66_110 l66_110 c66_110) ∧
          Br ((l66_110 : Int) == (0 : Int)) (
           Calls prog f_affluxlaw08_awake #[] w_439 fun e_439 w_440 => ∃ b71_220, e_439 = .returned (.bool b71_220) ∧
           R (.returned (.bool b71_220)) w_440
          ) (
           R (.returned (.bool false)) w_439
          )
         ) (
          Br false (
           Calls prog f_affluxlaw08_awake #[] w_438 fun e_440 w_441 => ∃ b71_221, e_440 = .returned (.bool b71_221) ∧
           R (.returned (.bool b71_221)) w_441
          ) (
           R (.returned (.bool false)) w_438
          )
         )
        ) (
         Br false (
          Calls prog f_tree_Tree_int_Pages #[.pointer none] w_3 fun e_441 w_442 => ∃ p66_111 l66_111 c66_111, e_441 = .returned (.slice p66_111 l66_111 c66_111) ∧
          Br ((l66_111 : Int) == (0 : Int)) (
           Calls prog f_affluxlaw08_awake #[] w_442 fun e_442 w_443 => ∃ b71_222, e_442 = .returned (.bool b71_222) ∧
           R (.returned (.bool b71_222)) w_443
          ) (
           R (.returned (.bool false)) w_442
          )
         ) (
          Br false (
           Calls prog f_affluxlaw08_awake #[] w_3 fun e_443 w_444 => ∃ b71_223, e_443 = .returned (.bool b71_223) ∧
           R (.returned (.bool b71_223)) w_444
          ) (
           R (.returned (.bool false)) w_3
          )
         )
        )
       )
      )
     )
    ) (
     Br false (
      Calls prog f_affluxlaw08_looks #[.pointer none, .slice none 0 0, .string sx0] w_3 fun e_444 w_445 => ∃ b44_7, e_444 = .returned (.bool b44_7) ∧
      Br b44_7 (
       Calls prog f_tree_Tree_int_Keys #[.pointer none, .string sx0, .string (str []), .int .i64 5] w_445 fun e_445 w_446 => ∃ p49_14 l49_14 c49_14, e_445 = .returned (.slice p49_14 l49_14 c49_14) ∧
       Br ((l49_14 : Int) == (0 : Int)) (
        Calls prog f_tree_Tree_int_Count #[.pointer none, .string sx0, .string (str [])] w_446 fun e_446 w_447 => ∃ i56_28, e_446 = .returned (.int .i64 i56_28) ∧
        Br (i56_28 == (0 : Int)) (
         Calls prog f_tree_Tree_int_Depth #[.pointer none] w_447 fun e_447 w_448 => ∃ i61_56, e_447 = .returned (.int .i64 i61_56) ∧
         Br (i61_56 == (0 : Int)) (
          Calls prog f_tree_Tree_int_Pages #[.pointer none] w_448 fun e_448 w_449 => ∃ p66_112 l66_112 c66_112, e_448 = .returned (.slice p66_112 l66_112 c66_112) ∧
          Br ((l66_112 : Int) == (0 : Int)) (
           Calls prog f_affluxlaw08_awake #[] w_449 fun e_449 w_450 => ∃ b71_224, e_449 = .returned (.bool b71_224) ∧
           R (.returned (.bool b71_224)) w_450
          ) (
           R (.returned (.bool false)) w_449
          )
         ) (
          Br false (
           Calls prog f_affluxlaw08_awake #[] w_448 fun e_450 w_451 => ∃ b71_225, e_450 = .returned (.bool b71_225) ∧
           R (.returned (.bool b71_225)) w_451
          ) (
           R (.returned (.bool false)) w_448
          )
         )
        ) (
         Br false (
          Calls prog f_tree_Tree_int_Pages #[.pointer none] w_447 fun e_451 w_452 => ∃ p66_113 l66_113 c66_113, e_451 = .returned (.slice p66_113 l66_113 c66_113) ∧
          Br ((l66_113 : Int) == (0 : Int)) (
           Calls prog f_affluxlaw08_awake #[] w_452 fun e_452 w_453 => ∃ b71_226, e_452 = .returned (.bool b71_226) ∧
           R (.returned (.bool b71_226)) w_453
          ) (
           R (.returned (.bool false)) w_452
          )
         ) (
          Br false (
           Calls prog f_affluxlaw08_awake #[] w_447 fun e_453 w_454 => ∃ b71_227, e_453 = .returned (.bool b71_227) ∧
           R (.returned (.bool b71_227)) w_454
          ) (
           R (.returned (.bool false)) w_447
          )
         )
        )
       ) (
        Br false (
         Calls prog f_tree_Tree_int_Depth #[.pointer none] w_446 fun e_454 w_455 => ∃ i61_57, e_454 = .returned (.int .i64 i61_57) ∧
         Br (i61_57 == (0 : Int)) (
          Calls prog f_tree_Tree_int_Pages #[.pointer none] w_455 fun e_455 w_456 => ∃ p66_114 l66_114 c66_114, e_455 = .returned (.slice p66_114 l66_114 c66_114) ∧
          Br ((l66_114 : Int) == (0 : Int)) (
           Calls prog f_affluxlaw08_awake #[] w_456 fun e_456 w_457 => ∃ b71_228, e_456 = .returned (.bool b71_228) ∧
           R (.returned (.bool b71_228)) w_457
          ) (
           R (.returned (.bool false)) w_456
          )
         ) (
          Br false (
           Calls prog f_affluxlaw08_awake #[] w_455 fun e_457 w_458 => ∃ b71_229, e_457 = .returned (.bool b71_229) ∧
           R (.returned (.bool b71_229)) w_458
          ) (
           R (.returned (.bool false)) w_455
          )
         )
        ) (
         Br false (
          Calls prog f_tree_Tree_int_Pages #[.pointer none] w_446 fun e_458 w_459 => ∃ p66_115 l66_115 c66_115, e_458 = .returned (.slice p66_115 l66_115 c66_115) ∧
          Br ((l66_115 : Int) == (0 : Int)) (
           Calls prog f_affluxlaw08_awake #[] w_459 fun e_459 w_460 => ∃ b71_230, e_459 = .returned (.bool b71_230) ∧
           R (.returned (.bool b71_230)) w_460
          ) (
           R (.returned (.bool false)) w_459
          )
         ) (
          Br false (
           Calls prog f_affluxlaw08_awake #[] w_446 fun e_460 w_461 => ∃ b71_231, e_460 = .returned (.bool b71_231) ∧
           R (.returned (.bool b71_231)) w_461
          ) (
           R (.returned (.bool false)) w_446
          )
         )
        )
       )
      ) (
       Br false (
        Calls prog f_tree_Tree_int_Count #[.pointer none, .string sx0, .string (str [])] w_445 fun e_461 w_462 => ∃ i56_29, e_461 = .returned (.int .i64 i56_29) ∧
        Br (i56_29 == (0 : Int)) (
         Calls prog f_tree_Tree_int_Depth #[.pointer none] w_462 fun e_462 w_463 => ∃ i61_58, e_462 = .returned (.int .i64 i61_58) ∧
         Br (i61_58 == (0 : Int)) (
          Calls prog f_tree_Tree_int_Pages #[.pointer none] w_463 fun e_463 w_464 => ∃ p66_116 l66_116 c66_116, e_463 = .returned (.slice p66_116 l66_116 c66_116) ∧
          Br ((l66_116 : Int) == (0 : Int)) (
           Calls prog f_affluxlaw08_awake #[] w_464 fun e_464 w_465 => ∃ b71_232, e_464 = .returned (.bool b71_232) ∧
           R (.returned (.bool b71_232)) w_465
          ) (
           R (.returned (.bool false)) w_464
          )
         ) (
          Br false (
           Calls prog f_affluxlaw08_awake #[] w_463 fun e_465 w_466 => ∃ b71_233, e_465 = .returned (.bool b71_233) ∧
           R (.returned (.bool b71_233)) w_466
          ) (
           R (.returned (.bool false)) w_463
          )
         )
        ) (
         Br false (
          Calls prog f_tree_Tree_int_Pages #[.pointer none] w_462 fun e_466 w_467 => ∃ p66_117 l66_117 c66_117, e_466 = .returned (.slice p66_117 l66_117 c66_117) ∧
          Br ((l66_117 : Int) == (0 : Int)) (
           Calls prog f_affluxlaw08_awake #[] w_467 fun e_467 w_468 => ∃ b71_234, e_467 = .returned (.bool b71_234) ∧
           R (.returned (.bool b71_234)) w_468
          ) (
           R (.returned (.bool false)) w_467
          )
         ) (
          Br false (
           Calls prog f_affluxlaw08_awake #[] w_462 fun e_468 w_469 => ∃ b71_235, e_468 = .returned (.bool b71_235) ∧
           R (.returned (.bool b71_235)) w_469
          ) (
           R (.returned (.bool false)) w_462
          )
         )
        )
       ) (
        Br false (
         Calls prog f_tree_Tree_int_Depth #[.pointer none] w_445 fun e_469 w_470 => ∃ i61_59, e_469 = .returned (.int .i64 i61_59) ∧
         Br (i61_59 == (0 : Int)) (
          Calls prog f_tree_Tree_int_Pages #[.pointer none] w_470 fun e_470 w_471 => ∃ p66_118 l66_118 c66_118, e_470 = .returned (.slice p66_118 l66_118 c66_118) ∧
          Br ((l66_118 : Int) == (0 : Int)) (
           Calls prog f_affluxlaw08_awake #[] w_471 fun e_471 w_472 => ∃ b71_236, e_471 = .returned (.bool b71_236) ∧
           R (.returned (.bool b71_236)) w_472
          ) (
           R (.returned (.bool false)) w_471
          )
         ) (
          Br false (
           Calls prog f_affluxlaw08_awake #[] w_470 fun e_472 w_473 => ∃ b71_237, e_472 = .returned (.bool b71_237) ∧
           R (.returned (.bool b71_237)) w_473
          ) (
           R (.returned (.bool false)) w_470
          )
         )
        ) (
         Br false (
          Calls prog f_tree_Tree_int_Pages #[.pointer none] w_445 fun e_473 w_474 => ∃ p66_119 l66_119 c66_119, e_473 = .returned (.slice p66_119 l66_119 c66_119) ∧
          Br ((l66_119 : Int) == (0 : Int)) (
           Calls prog f_affluxlaw08_awake #[] w_474 fun e_474 w_475 => ∃ b71_238, e_474 = .returned (.bool b71_238) ∧
           R (.returned (.bool b71_238)) w_475
          ) (
           R (.returned (.bool false)) w_474
          )
         ) (
          Br false (
           Calls prog f_affluxlaw08_awake #[] w_445 fun e_475 w_476 => ∃ b71_239, e_475 = .returned (.bool b71_239) ∧
           R (.returned (.bool b71_239)) w_476
          ) (
           R (.returned (.bool false)) w_445
          )
         )
        )
       )
      )
     ) (
      Br false (
       Calls prog f_tree_Tree_int_Keys #[.pointer none, .string sx0, .string (str []), .int .i64 5] w_3 fun e_476 w_477 => ∃ p49_15 l49_15 c49_15, e_476 = .returned (.slice p49_15 l49_15 c49_15) ∧
       Br ((l49_15 : Int) == (0 : Int)) (
        Calls prog f_tree_Tree_int_Count #[.pointer none, .string sx0, .string (str [])] w_477 fun e_477 w_478 => ∃ i56_30, e_477 = .returned (.int .i64 i56_30) ∧
        Br (i56_30 == (0 : Int)) (
         Calls prog f_tree_Tree_int_Depth #[.pointer none] w_478 fun e_478 w_479 => ∃ i61_60, e_478 = .returned (.int .i64 i61_60) ∧
         Br (i61_60 == (0 : Int)) (
          Calls prog f_tree_Tree_int_Pages #[.pointer none] w_479 fun e_479 w_480 => ∃ p66_120 l66_120 c66_120, e_479 = .returned (.slice p66_120 l66_120 c66_120) ∧
          Br ((l66_120 : Int) == (0 : Int)) (
           Calls prog f_affluxlaw08_awake #[] w_480 fun e_480 w_481 => ∃ b71_240, e_480 = .returned (.bool b71_240) ∧
           R (.returned (.bool b71_240)) w_481
          ) (
           R (.returned (.bool false)) w_480
          )
         ) (
          Br false (
           Calls prog f_affluxlaw08_awake #[] w_479 fun e_481 w_482 => ∃ b71_241, e_481 = .returned (.bool b71_241) ∧
           R (.returned (.bool b71_241)) w_482
          ) (
           R (.returned (.bool false)) w_479
          )
         )
        ) (
         Br false (
          Calls prog f_tree_Tree_int_Pages #[.pointer none] w_478 fun e_482 w_483 => ∃ p66_121 l66_121 c66_121, e_482 = .returned (.slice p66_121 l66_121 c66_121) ∧
          Br ((l66_121 : Int) == (0 : Int)) (
           Calls prog f_affluxlaw08_awake #[] w_483 fun e_483 w_484 => ∃ b71_242, e_483 = .returned (.bool b71_242) ∧
           R (.returned (.bool b71_242)) w_484
          ) (
           R (.returned (.bool false)) w_483
          )
         ) (
          Br false (
           Calls prog f_affluxlaw08_awake #[] w_478 fun e_484 w_485 => ∃ b71_243, e_484 = .returned (.bool b71_243) ∧
           R (.returned (.bool b71_243)) w_485
          ) (
           R (.returned (.bool false)) w_478
          )
         )
        )
       ) (
        Br false (
         Calls prog f_tree_Tree_int_Depth #[.pointer none] w_477 fun e_485 w_486 => ∃ i61_61, e_485 = .returned (.int .i64 i61_61) ∧
         Br (i61_61 == (0 : Int)) (
          Calls prog f_tree_Tree_int_Pages #[.pointer none] w_486 fun e_486 w_487 => ∃ p66_122 l66_122 c66_122, e_486 = .returned (.slice p66_122 l66_122 c66_122) ∧
          Br ((l66_122 : Int) == (0 : Int)) (
           Calls prog f_affluxlaw08_awake #[] w_487 fun e_487 w_488 => ∃ b71_244, e_487 = .returned (.bool b71_244) ∧
           R (.returned (.bool b71_244)) w_488
          ) (
           R (.returned (.bool false)) w_487
          )
         ) (
          Br false (
           Calls prog f_affluxlaw08_awake #[] w_486 fun e_488 w_489 => ∃ b71_245, e_488 = .returned (.bool b71_245) ∧
           R (.returned (.bool b71_245)) w_489
          ) (
           R (.returned (.bool false)) w_486
          )
         )
        ) (
         Br false (
          Calls prog f_tree_Tree_int_Pages #[.pointer none] w_477 fun e_489 w_490 => ∃ p66_123 l66_123 c66_123, e_489 = .returned (.slice p66_123 l66_123 c66_123) ∧
          Br ((l66_123 : Int) == (0 : Int)) (
           Calls prog f_affluxlaw08_awake #[] w_490 fun e_490 w_491 => ∃ b71_246, e_490 = .returned (.bool b71_246) ∧
           R (.returned (.bool b71_246)) w_491
          ) (
           R (.returned (.bool false)) w_490
          )
         ) (
          Br false (
           Calls prog f_affluxlaw08_awake #[] w_477 fun e_491 w_492 => ∃ b71_247, e_491 = .returned (.bool b71_247) ∧
           R (.returned (.bool b71_247)) w_492
          ) (
           R (.returned (.bool false)) w_477
          )
         )
        )
       )
      ) (
       Br false (
        Calls prog f_tree_Tree_int_Count #[.pointer none, .string sx0, .string (str [])] w_3 fun e_492 w_493 => ∃ i56_31, e_492 = .returned (.int .i64 i56_31) ∧
        Br (i56_31 == (0 : Int)) (
         Calls prog f_tree_Tree_int_Depth #[.pointer none] w_493 fun e_493 w_494 => ∃ i61_62, e_493 = .returned (.int .i64 i61_62) ∧
         Br (i61_62 == (0 : Int)) (
          Calls prog f_tree_Tree_int_Pages #[.pointer none] w_494 fun e_494 w_495 => ∃ p66_124 l66_124 c66_124, e_494 = .returned (.slice p66_124 l66_124 c66_124) ∧
          Br ((l66_124 : Int) == (0 : Int)) (
           Calls prog f_affluxlaw08_awake #[] w_495 fun e_495 w_496 => ∃ b71_248, e_495 = .returned (.bool b71_248) ∧
           R (.returned (.bool b71_248)) w_496
          ) (
           R (.returned (.bool false)) w_495
          )
         ) (
          Br false (
           Calls prog f_affluxlaw08_awake #[] w_494 fun e_496 w_497 => ∃ b71_249, e_496 = .returned (.bool b71_249) ∧
           R (.returned (.bool b71_249)) w_497
          ) (
           R (.returned (.bool false)) w_494
          )
         )
        ) (
         Br false (
          Calls prog f_tree_Tree_int_Pages #[.pointer none] w_493 fun e_497 w_498 => ∃ p66_125 l66_125 c66_125, e_497 = .returned (.slice p66_125 l66_125 c66_125) ∧
          Br ((l66_125 : Int) == (0 : Int)) (
           Calls prog f_affluxlaw08_awake #[] w_498 fun e_498 w_499 => ∃ b71_250, e_498 = .returned (.bool b71_250) ∧
           R (.returned (.bool b71_250)) w_499
          ) (
           R (.returned (.bool false)) w_498
          )
         ) (
          Br false (
           Calls prog f_affluxlaw08_awake #[] w_493 fun e_499 w_500 => ∃ b71_251, e_499 = .returned (.bool b71_251) ∧
           R (.returned (.bool b71_251)) w_500
          ) (
           R (.returned (.bool false)) w_493
          )
         )
        )
       ) (
        Br false (
         Calls prog f_tree_Tree_int_Depth #[.pointer none] w_3 fun e_500 w_501 => ∃ i61_63, e_500 = .returned (.int .i64 i61_63) ∧
         Br (i61_63 == (0 : Int)) (
          Calls prog f_tree_Tree_int_Pages #[.pointer none] w_501 fun e_501 w_502 => ∃ p66_126 l66_126 c66_126, e_501 = .returned (.slice p66_126 l66_126 c66_126) ∧
          Br ((l66_126 : Int) == (0 : Int)) (
           Calls prog f_affluxlaw08_awake #[] w_502 fun e_502 w_503 => ∃ b71_252, e_502 = .returned (.bool b71_252) ∧
           R (.returned (.bool b71_252)) w_503
          ) (
           R (.returned (.bool false)) w_502
          )
         ) (
          Br false (
           Calls prog f_affluxlaw08_awake #[] w_501 fun e_503 w_504 => ∃ b71_253, e_503 = .returned (.bool b71_253) ∧
           R (.returned (.bool b71_253)) w_504
          ) (
           R (.returned (.bool false)) w_501
          )
         )
        ) (
         Br false (
          Calls prog f_tree_Tree_int_Pages #[.pointer none] w_3 fun e_504 w_505 => ∃ p66_127 l66_127 c66_127, e_504 = .returned (.slice p66_127 l66_127 c66_127) ∧
          Br ((l66_127 : Int) == (0 : Int)) (
           Calls prog f_affluxlaw08_awake #[] w_505 fun e_505 w_506 => ∃ b71_254, e_505 = .returned (.bool b71_254) ∧
           R (.returned (.bool b71_254)) w_506
          ) (
           R (.returned (.bool false)) w_505
          )
         ) (
          Br false (
           Calls prog f_affluxlaw08_awake #[] w_3 fun e_506 w_507 => ∃ b71_255, e_506 = .returned (.bool b71_255) ∧
           R (.returned (.bool b71_255)) w_507
          ) (
           R (.returned (.bool false)) w_3
          )
         )
        )
       )
      )
     )
    )
   )
  )
 )
theorem eqV.affluxlaw08_TreeNone (sx0 : ByteArray) (ix1 : Int) (w : World) (R : Ending → World → Prop) : vcFn prog Try.f6 lv_affluxlaw08_TreeNone [.string sx0, .int .i64 ix1] w R = V.affluxlaw08_TreeNone sx0 ix1 w R := by kernel_rfl
theorem ok.affluxlaw08_TreeNone {sx0 : ByteArray} {ix1 : Int} {w : World} {R : Ending → World → Prop} (h : V.affluxlaw08_TreeNone sx0 ix1 w R) : Calls prog f_affluxlaw08_TreeNone #[.string sx0, .int .i64 ix1] w R := calls_of mix lv_affluxlaw08_TreeNone Try.func6 (by rw [Try.ntmps6]; exact Nat.le_of_ble_eq_true rfl) (cast (eqV.affluxlaw08_TreeNone sx0 ix1 w R).symm h)
/-! #### afflux/affluxlaw08.great -/
def lv_affluxlaw08_great : Nat → List Nat := fun k => match k with | 4 => [0, 3] | _ => []
def L.affluxlaw08_great_L0 (p0 : Option Addr) (l0 : Nat) (c0 : Nat) (i3 : Int) (w : World) (R : Ending → World → Prop) : Prop :=
 LoopAt prog Try.f7 lv_affluxlaw08_great [1, 1, 0, 1, 0] R [(0, .slice p0 l0 c0), (3, .int .i64 i3)] w
def B.affluxlaw08_great_L0 (p0 : Option Addr) (l0 : Nat) (c0 : Nat) (i3 : Int) (w : World) (R : Ending → World → Prop) : Prop :=
 Br (decide (i3 < (l0 : Int))) (
  ∃ a15, p0 = some a15 ∧ (0 ≤ i3 ∧ i3 < (l0 : Int)) ∧
  ∃ s17, w.cell? ((a15.add (i3.toNat * 3)).add 1) = some (.string s17) ∧
  Br (decide ((s17.size : Int) > (100 : Int))) (
   R (.returned (.bool true)) w
  ) (
   Lt ((IntKind.wrap .i64 (i3 + (1 : Int))) : Int) fun i3_1 =>
   L.affluxlaw08_great_L0 p0 l0 c0 i3_1 w R
  )
 ) (
  R (.returned (.bool false)) w
 )
def V.affluxlaw08_great (px0 : Option Addr) (lx0 : Nat) (cx0 : Nat) (w : World) (R : Ending → World → Prop) : Prop :=
 Br (decide ((lx0 : Int) > (150 : Int))) (
  R (.returned (.bool true)) w
 ) (
  L.affluxlaw08_great_L0 px0 lx0 cx0 0 w R
 )
theorem eqB.affluxlaw08_great_L0 (p0 : Option Addr) (l0 : Nat) (c0 : Nat) (i3 : Int) (w : World) (R : Ending → World → Prop) : RoundAt prog Try.f7 lv_affluxlaw08_great [1, 1, 0, 1, 0] R [(0, .slice p0 l0 c0), (3, .int .i64 i3)] w = B.affluxlaw08_great_L0 p0 l0 c0 i3 w R := by kernel_rfl
theorem round.affluxlaw08_great_L0 {p0 : Option Addr} {l0 : Nat} {c0 : Nat} {i3 : Int} {w : World} {R : Ending → World → Prop} (h : B.affluxlaw08_great_L0 p0 l0 c0 i3 w R) : L.affluxlaw08_great_L0 p0 l0 c0 i3 w R := LoopAt.unfold mix (cast (eqB.affluxlaw08_great_L0 p0 l0 c0 i3 w R).symm h)
theorem eqV.affluxlaw08_great (px0 : Option Addr) (lx0 : Nat) (cx0 : Nat) (w : World) (R : Ending → World → Prop) : vcFn prog Try.f7 lv_affluxlaw08_great [.slice px0 lx0 cx0] w R = V.affluxlaw08_great px0 lx0 cx0 w R := by kernel_rfl
theorem ok.affluxlaw08_great {px0 : Option Addr} {lx0 : Nat} {cx0 : Nat} {w : World} {R : Ending → World → Prop} (h : V.affluxlaw08_great px0 lx0 cx0 w R) : Calls prog f_affluxlaw08_great #[.slice px0 lx0 cx0] w R := calls_of mix lv_affluxlaw08_great Try.func7 (by rw [Try.ntmps7]; exact Nat.le_of_ble_eq_true rfl) (cast (eqV.affluxlaw08_great px0 lx0 cx0 w R).symm h)
/-! #### afflux/affluxlaw08.awake -/
def lv_affluxlaw08_awake : Nat → List Nat := fun k => match k with | 3 => [1, 2] | _ => []
def L.affluxlaw08_awake_L0 (p1 : Option Addr) (i2 : Int) (w : World) (R : Ending → World → Prop) : Prop :=
 LoopAt prog Try.f8 lv_affluxlaw08_awake [1, 1, 0, 1, 0] R [(1, .pointer p1), (2, .int .i64 i2)] w
def B.affluxlaw08_awake_L0 (p1 : Option Addr) (i2 : Int) (w : World) (R : Ending → World → Prop) : Prop :=
 Br (decide (i2 < (6 : Int))) (
  Al w (.cells #[.int .u8 (IntKind.wrap .u8 (IntKind.wrap .i64 ((97 : Int) + i2)))] 5) fun a16 w_1 =>
  RunR prog (convert 55 9 (.slice (some a16) 1 1)) w_1 fun v17 => ∃ s17, v17 = .string s17 ∧
  Calls prog f_tree_Tree_int_Put #[.pointer p1, .string s17, .int .i64 i2] w_1 fun e w_2 => ∃ i19 b19, e = .returned (.tuple #[.int .i64 i19, .bool b19]) ∧
  Lt ((IntKind.wrap .i64 (i2 + (1 : Int))) : Int) fun i2_1 =>
  L.affluxlaw08_awake_L0 p1 i2_1 w_2 R
 ) (
  Calls prog f_tree_Tree_int_Pages #[.pointer p1] w fun e_1 w_3 => ∃ p21 l21 c21, e_1 = .returned (.slice p21 l21 c21) ∧
  Calls prog f_tree_Tree_int_Next #[.pointer p1, .string (str [98]), .bool false] w_3 fun e_2 w_4 => ∃ s24 i24 b24, e_2 = .returned (.tuple #[.string s24, .int .i64 i24, .bool b24]) ∧
  Br ((l21 : Int) == (3 : Int)) (
   ∃ a33, p21 = some a33 ∧ (0 ≤ (0 : Int) ∧ (0 : Int) < (l21 : Int)) ∧
   ∃ p34 l34 c34, w_4.cell? (a33.add ((0 : Int).toNat * 1)) = some (.slice p34 l34 c34) ∧
   Al w_4 (.cells #[.string (str [99])] 9) fun a35 w_5 =>
   Calls prog f_affluxref05_Same #[.slice p34 l34 c34, .slice (some a35) 1 1] w_5 fun e_3 w_6 => ∃ b36, e_3 = .returned (.bool b36) ∧
   Br b36 (
    ∃ a40, p21 = some a40 ∧ (0 ≤ (1 : Int) ∧ (1 : Int) < (l21 : Int)) ∧
    ∃ p41 l41 c41, w_6.cell? (a40.add ((1 : Int).toNat * 1)) = some (.slice p41 l41 c41) ∧
    Al w_6 (.cells #[.string (str [97]), .string (str [98])] 9) fun a42 w_7 =>
    Calls prog f_affluxref05_Same #[.slice p41 l41 c41, .slice (some a42) 2 2] w_7 fun e_4 w_8 => ∃ b43, e_4 = .returned (.bool b43) ∧
    Br b43 (
     ∃ a47, p21 = some a47 ∧ (0 ≤ (2 : Int) ∧ (2 : Int) < (l21 : Int)) ∧
     ∃ p48 l48 c48, w_8.cell? (a47.add ((2 : Int).toNat * 1)) = some (.slice p48 l48 c48) ∧
     Al w_8 (.cells #[.string (str [100]), .string (str [101]), .string (str [102])] 9) fun a49 w_9 =>
     Calls prog f_affluxref05_Same #[.slice p48 l48 c48, .slice (some a49) 3 3] w_9 fun e_5 w_10 => ∃ b50, e_5 = .returned (.bool b50) ∧
     Br b50 (
      Br (sEq s24 (str [99])) (
       Br (i24 == (2 : Int)) (
        R (.returned (.bool b24)) w_10
       ) (
        R (.returned (.bool false)) w_10
       )
      ) (
       Br false (
        R (.returned (.bool b24)) w_10
       ) (
        R (.returned (.bool false)) w_10
       )
      )
     ) (
      Br false (
       Br (i24 == (2 : Int)) (
        R (.returned (.bool b24)) w_10
       ) (
        R (.returned (.bool false)) w_10
       )
      ) (
       Br false (
        R (.returned (.bool b24)) w_10
       ) (
        R (.returned (.bool false)) w_10
       )
      )
     )
    ) (
     Br false (
      Br (sEq s24 (str [99])) (
       Br (i24 == (2 : Int)) (
        R (.returned (.bool b24)) w_8
       ) (
        R (.returned (.bool false)) w_8
       )
      ) (
       Br false (
        R (.returned (.bool b24)) w_8
       ) (
        R (.returned (.bool false)) w_8
       )
      )
     ) (
      Br false (
       Br (i24 == (2 : Int)) (
        R (.returned (.bool b24)) w_8
       ) (
        R (.returned (.bool false)) w_8
       )
      ) (
       Br false (
        R (.returned (.bool b24)) w_8
       ) (
        R (.returned (.bool false)) w_8
       )
      )
     )
    )
   ) (
    Br false (
     ∃ a47_1, p21 = some a47_1 ∧ (0 ≤ (2 : Int) ∧ (2 : Int) < (l21 : Int)) ∧
     ∃ p48_1 l48_1 c48_1, w_6.cell? (a47_1.add ((2 : Int).toNat * 1)) = some (.slice p48_1 l48_1 c48_1) ∧
     Al w_6 (.cells #[.string (str [100]), .string (str [101]), .string (str [102])] 9) fun a49_1 w_11 =>
     Calls prog f_affluxref05_Same #[.slice p48_1 l48_1 c48_1, .slice (some a49_1) 3 3] w_11 fun e_6 w_12 => ∃ b50_1, e_6 = .returned (.bool b50_1) ∧
     Br b50_1 (
      Br (sEq s24 (str [99])) (
       Br (i24 == (2 : Int)) (
        R (.returned (.bool b24)) w_12
       ) (
        R (.returned (.bool false)) w_12
       )
      ) (
       Br false (
        R (.returned (.bool b24)) w_12
       ) (
        R (.returned (.bool false)) w_12
       )
      )
     ) (
      Br false (
       Br (i24 == (2 : Int)) (
        R (.returned (.bool b24)) w_12
       ) (
        R (.returned (.bool false)) w_12
       )
      ) (
       Br false (
        R (.returned (.bool b24)) w_12
       ) (
        R (.returned (.bool false)) w_12
       )
      )
     )
    ) (
     Br false (
      Br (sEq s24 (str [99])) (
       Br (i24 == (2 : Int)) (
        R (.returned (.bool b24)) w_6
       ) (
        R (.returned (.bool false)) w_6
       )
      ) (
       Br false (
        R (.returned (.bool b24)) w_6
       ) (
        R (.returned (.bool false)) w_6
       )
      )
     ) (
      Br false (
       Br (i24 == (2 : Int)) (
        R (.returned (.bool b24)) w_6
       ) (
        R (.returned (.bool false)) w_6
       )
      ) (
       Br false (
        R (.returned (.bool b24)) w_6
       ) (
        R (.returned (.bool false)) w_6
       )
      )
     )
    )
   )
  ) (
   Br false (
    ∃ a40_1, p21 = some a40_1 ∧ (0 ≤ (1 : Int) ∧ (1 : Int) < (l21 : Int)) ∧
    ∃ p41_1 l41_1 c41_1, w_4.cell? (a40_1.add ((1 : Int).toNat * 1)) = some (.slice p41_1 l41_1 c41_1) ∧
    Al w_4 (.cells #[.string (str [97]), .string (str [98])] 9) fun a42_1 w_13 =>
    Calls prog f_affluxref05_Same #[.slice p41_1 l41_1 c41_1, .slice (some a42_1) 2 2] w_13 fun e_7 w_14 => ∃ b43_1, e_7 = .returned (.bool b43_1) ∧
    Br b43_1 (
     ∃ a47_2, p21 = some a47_2 ∧ (0 ≤ (2 : Int) ∧ (2 : Int) < (l21 : Int)) ∧
     ∃ p48_2 l48_2 c48_2, w_14.cell? (a47_2.add ((2 : Int).toNat * 1)) = some (.slice p48_2 l48_2 c48_2) ∧
     Al w_14 (.cells #[.string (str [100]), .string (str [101]), .string (str [102])] 9) fun a49_2 w_15 =>
     Calls prog f_affluxref05_Same #[.slice p48_2 l48_2 c48_2, .slice (some a49_2) 3 3] w_15 fun e_8 w_16 => ∃ b50_2, e_8 = .returned (.bool b50_2) ∧
     Br b50_2 (
      Br (sEq s24 (str [99])) (
       Br (i24 == (2 : Int)) (
        R (.returned (.bool b24)) w_16
       ) (
        R (.returned (.bool false)) w_16
       )
      ) (
       Br false (
        R (.returned (.bool b24)) w_16
       ) (
        R (.returned (.bool false)) w_16
       )
      )
     ) (
      Br false (
       Br (i24 == (2 : Int)) (
        R (.returned (.bool b24)) w_16
       ) (
        R (.returned (.bool false)) w_16
       )
      ) (
       Br false (
        R (.returned (.bool b24)) w_16
       ) (
        R (.returned (.bool false)) w_16
       )
      )
     )
    ) (
     Br false (
      Br (sEq s24 (str [99])) (
       Br (i24 == (2 : Int)) (
        R (.returned (.bool b24)) w_14
       ) (
        R (.returned (.bool false)) w_14
       )
      ) (
       Br false (
        R (.returned (.bool b24)) w_14
       ) (
        R (.returned (.bool false)) w_14
       )
      )
     ) (
      Br false (
       Br (i24 == (2 : Int)) (
        R (.returned (.bool b24)) w_14
       ) (
        R (.returned (.bool false)) w_14
       )
      ) (
       Br false (
        R (.returned (.bool b24)) w_14
       ) (
        R (.returned (.bool false)) w_14
       )
      )
     )
    )
   ) (
    Br false (
     ∃ a47_3, p21 = some a47_3 ∧ (0 ≤ (2 : Int) ∧ (2 : Int) < (l21 : Int)) ∧
     ∃ p48_3 l48_3 c48_3, w_4.cell? (a47_3.add ((2 : Int).toNat * 1)) = some (.slice p48_3 l48_3 c48_3) ∧
     Al w_4 (.cells #[.string (str [100]), .string (str [101]), .string (str [102])] 9) fun a49_3 w_17 =>
     Calls prog f_affluxref05_Same #[.slice p48_3 l48_3 c48_3, .slice (some a49_3) 3 3] w_17 fun e_9 w_18 => ∃ b50_3, e_9 = .returned (.bool b50_3) ∧
     Br b50_3 (
      Br (sEq s24 (str [99])) (
       Br (i24 == (2 : Int)) (
        R (.returned (.bool b24)) w_18
       ) (
        R (.returned (.bool false)) w_18
       )
      ) (
       Br false (
        R (.returned (.bool b24)) w_18
       ) (
        R (.returned (.bool false)) w_18
       )
      )
     ) (
      Br false (
       Br (i24 == (2 : Int)) (
        R (.returned (.bool b24)) w_18
       ) (
        R (.returned (.bool false)) w_18
       )
      ) (
       Br false (
        R (.returned (.bool b24)) w_18
       ) (
        R (.returned (.bool false)) w_18
       )
      )
     )
    ) (
     Br false (
      Br (sEq s24 (str [99])) (
       Br (i24 == (2 : Int)) (
        R (.returned (.bool b24)) w_4
       ) (
        R (.returned (.bool false)) w_4
       )
      ) (
       Br false (
        R (.returned (.bool b24)) w_4
       ) (
        R (.returned (.bool false)) w_4
       )
      )
     ) (
      Br false (
       Br (i24 == (2 : Int)) (
        R (.returned (.bool b24)) w_4
       ) (
        R (.returned (.bool false)) w_4
       )
      ) (
       Br false (
        R (.returned (.bool b24)) w_4
       ) (
        R (.returned (.bool false)) w_4
       )
      )
     )
    )
   )
  )
 )
def V.affluxlaw08_awake (w : World) (R : Ending → World → Prop) : Prop :=
 Calls prog f_tree_New_int #[] w fun e w_1 => ∃ p7, e = .returned (.pointer p7) ∧
 L.affluxlaw08_awake_L0 p7 0 w_1 R
theorem eqB.affluxlaw08_awake_L0 (p1 : Option Addr) (i2 : Int) (w : World) (R : Ending → World → Prop) : RoundAt prog Try.f8 lv_affluxlaw08_awake [1, 1, 0, 1, 0] R [(1, .pointer p1), (2, .int .i64 i2)] w = B.affluxlaw08_awake_L0 p1 i2 w R := by kernel_rfl
theorem round.affluxlaw08_awake_L0 {p1 : Option Addr} {i2 : Int} {w : World} {R : Ending → World → Prop} (h : B.affluxlaw08_awake_L0 p1 i2 w R) : L.affluxlaw08_awake_L0 p1 i2 w R := LoopAt.unfold mix (cast (eqB.affluxlaw08_awake_L0 p1 i2 w R).symm h)
theorem eqV.affluxlaw08_awake (w : World) (R : Ending → World → Prop) : vcFn prog Try.f8 lv_affluxlaw08_awake [] w R = V.affluxlaw08_awake w R := by kernel_rfl
theorem ok.affluxlaw08_awake {w : World} {R : Ending → World → Prop} (h : V.affluxlaw08_awake w R) : Calls prog f_affluxlaw08_awake #[] w R := calls_of mix lv_affluxlaw08_awake Try.func8 (by rw [Try.ntmps8]; exact Nat.le_of_ble_eq_true rfl) (cast (eqV.affluxlaw08_awake w R).symm h)
/-! #### afflux/affluxlaw08.play -/
def lv_affluxlaw08_play : Nat → List Nat := fun k => match k with | 4 => [0, 5, 6, 7] | _ => []
def L.affluxlaw08_play_L0 (p0 : Option Addr) (l0 : Nat) (c0 : Nat) (p5 : Option Addr) (p6 : Option Addr) (l6 : Nat) (c6 : Nat) (i7 : Int) (w : World) (R : Ending → World → Prop) : Prop :=
 LoopAt prog Try.f9 lv_affluxlaw08_play [1, 1, 1, 0, 1, 0] R [(0, .slice p0 l0 c0), (5, .pointer p5), (6, .slice p6 l6 c6), (7, .int .i64 i7)] w
def B.affluxlaw08_play_L0 (p0 : Option Addr) (l0 : Nat) (c0 : Nat) (p5 : Option Addr) (p6 : Option Addr) (l6 : Nat) (c6 : Nat) (i7 : Int) (w : World) (R : Ending → World → Prop) : Prop :=
 Br (decide (i7 < (l0 : Int))) (
  ∃ a24, p0 = some a24 ∧ (0 ≤ i7 ∧ i7 < (l0 : Int)) ∧
  ∃ s26, w.cell? ((a24.add (i7.toNat * 3)).add 1) = some (.string s26) ∧
  Calls prog f_affluxlaw08_find #[.slice p6 l6 c6, .string s26] w fun e w_1 => ∃ i27 b27, e = .returned (.tuple #[.int .i64 i27, .bool b27]) ∧
  Jn (α := Int → Prop) (fun J =>
   Br b27 (
    ∃ a33, p6 = some a33 ∧ (0 ≤ i27 ∧ i27 < (l6 : Int)) ∧
    ∃ i35, w_1.cell? ((a33.add (i27.toNat * 2)).add 1) = some (.int .i64 i35) ∧
    J i35
   ) (
    J 0
   )
  ) (fun i10 =>
   Jn (α := Int → Bool → World → Prop) (fun J_1 =>
    ∃ a38, p0 = some a38 ∧ (0 ≤ i7 ∧ i7 < (l0 : Int)) ∧
    ∃ i40, w_1.cell? (a38.add (i7.toNat * 3)) = some (.int .i64 i40) ∧
    Br (i40 == (0 : Int)) (
     Dr w_1 fun w_3 =>
     ∃ a46, p0 = some a46 ∧ (0 ≤ i7 ∧ i7 < (l0 : Int)) ∧
     ∃ a51, p0 = some a51 ∧ (0 ≤ i7 ∧ i7 < (l0 : Int)) ∧
     ∃ s48, w_3.cell? ((a46.add (i7.toNat * 3)).add 1) = some (.string s48) ∧
     ∃ i53, w_3.cell? ((a51.add (i7.toNat * 3)).add 2) = some (.int .i64 i53) ∧
     Calls prog f_tree_Tree_int_Put #[.pointer p5, .string s48, .int .i64 i53] w_3 fun e_1 w_4 => ∃ i54 b54, e_1 = .returned (.tuple #[.int .i64 i54, .bool b54]) ∧
     J_1 i54 b54 w_4
    ) (
     ∃ a61, p0 = some a61 ∧ (0 ≤ i7 ∧ i7 < (l0 : Int)) ∧
     ∃ s63, w_1.cell? ((a61.add (i7.toNat * 3)).add 1) = some (.string s63) ∧
     Calls prog f_tree_Tree_int_Delete #[.pointer p5, .string s63] w_1 fun e_2 w_5 => ∃ i64 b64, e_2 = .returned (.tuple #[.int .i64 i64, .bool b64]) ∧
     J_1 i64 b64 w_5
    )
   ) (fun i11 b12 w_2 =>
    Jn (α := Prop) (fun J_2 =>
     Br (i11 != i10) (
      Br true (
       R (.returned (.tuple #[.pointer p5, .slice p6 l6 c6, .bool false])) w_2
      ) (
       J_2
      )
     ) (
      Br (!(b12 == b27)) (
       R (.returned (.tuple #[.pointer p5, .slice p6 l6 c6, .bool false])) w_2
      ) (
       J_2
      )
     )
    ) (
     Dr w_2 fun w_6 =>
     ∃ a80, p0 = some a80 ∧ (0 ≤ i7 ∧ i7 < (l0 : Int)) ∧
     ∃ a85, p0 = some a85 ∧ (0 ≤ i7 ∧ i7 < (l0 : Int)) ∧
     ∃ a90, p0 = some a90 ∧ (0 ≤ i7 ∧ i7 < (l0 : Int)) ∧
     ∃ s82, w_6.cell? ((a80.add (i7.toNat * 3)).add 1) = some (.string s82) ∧
     ∃ i87, w_6.cell? ((a85.add (i7.toNat * 3)).add 2) = some (.int .i64 i87) ∧
     ∃ i92, w_6.cell? (a90.add (i7.toNat * 3)) = some (.int .i64 i92) ∧
     Calls prog f_affluxlaw08_with #[.slice p6 l6 c6, .string s82, .int .i64 i87, .bool (i92 != (0 : Int))] w_6 fun e_3 w_7 => ∃ p94 l94 c94, e_3 = .returned (.slice p94 l94 c94) ∧
     Lt ((IntKind.wrap .i64 (i7 + (1 : Int))) : Int) fun i7_1 =>
     L.affluxlaw08_play_L0 p0 l0 c0 p5 p94 l94 c94 i7_1 w_7 R
    )
   )
  )
 ) (
  R (.returned (.tuple #[.pointer p5, .slice p6 l6 c6, .bool true])) w
 )
def V.affluxlaw08_play (px0 : Option Addr) (lx0 : Nat) (cx0 : Nat) (w : World) (R : Ending → World → Prop) : Prop :=
 Calls prog f_tree_New_int #[] w fun e w_1 => ∃ p13, e = .returned (.pointer p13) ∧
 L.affluxlaw08_play_L0 px0 lx0 cx0 p13 none 0 0 0 w_1 R
theorem eqB.affluxlaw08_play_L0 (p0 : Option Addr) (l0 : Nat) (c0 : Nat) (p5 : Option Addr) (p6 : Option Addr) (l6 : Nat) (c6 : Nat) (i7 : Int) (w : World) (R : Ending → World → Prop) : RoundAt prog Try.f9 lv_affluxlaw08_play [1, 1, 1, 0, 1, 0] R [(0, .slice p0 l0 c0), (5, .pointer p5), (6, .slice p6 l6 c6), (7, .int .i64 i7)] w = B.affluxlaw08_play_L0 p0 l0 c0 p5 p6 l6 c6 i7 w R := by kernel_rfl
theorem round.affluxlaw08_play_L0 {p0 : Option Addr} {l0 : Nat} {c0 : Nat} {p5 : Option Addr} {p6 : Option Addr} {l6 : Nat} {c6 : Nat} {i7 : Int} {w : World} {R : Ending → World → Prop} (h : B.affluxlaw08_play_L0 p0 l0 c0 p5 p6 l6 c6 i7 w R) : L.affluxlaw08_play_L0 p0 l0 c0 p5 p6 l6 c6 i7 w R := LoopAt.unfold mix (cast (eqB.affluxlaw08_play_L0 p0 l0 c0 p5 p6 l6 c6 i7 w R).symm h)
theorem eqV.affluxlaw08_play (px0 : Option Addr) (lx0 : Nat) (cx0 : Nat) (w : World) (R : Ending → World → Prop) : vcFn prog Try.f9 lv_affluxlaw08_play [.slice px0 lx0 cx0] w R = V.affluxlaw08_play px0 lx0 cx0 w R := by kernel_rfl
theorem ok.affluxlaw08_play {px0 : Option Addr} {lx0 : Nat} {cx0 : Nat} {w : World} {R : Ending → World → Prop} (h : V.affluxlaw08_play px0 lx0 cx0 w R) : Calls prog f_affluxlaw08_play #[.slice px0 lx0 cx0] w R := calls_of mix lv_affluxlaw08_play Try.func9 (by rw [Try.ntmps9]; exact Nat.le_of_ble_eq_true rfl) (cast (eqV.affluxlaw08_play px0 lx0 cx0 w R).symm h)
/-! #### afflux/affluxref05.Same -/
def lv_affluxref05_Same : Nat → List Nat := fun k => match k with | 4 => [0, 1, 5] | _ => []
def L.affluxref05_Same_L0 (p0 : Option Addr) (l0 : Nat) (c0 : Nat) (p1 : Option Addr) (l1 : Nat) (c1 : Nat) (i5 : Int) (w : World) (R : Ending → World → Prop) : Prop :=
 LoopAt prog Try.f10 lv_affluxref05_Same [1, 1, 0, 1, 0] R [(0, .slice p0 l0 c0), (1, .slice p1 l1 c1), (5, .int .i64 i5)] w
def B.affluxref05_Same_L0 (p0 : Option Addr) (l0 : Nat) (c0 : Nat) (p1 : Option Addr) (l1 : Nat) (c1 : Nat) (i5 : Int) (w : World) (R : Ending → World → Prop) : Prop :=
 Br (decide (i5 < (l0 : Int))) (
  Dr w fun w_1 =>
  ∃ a19, p0 = some a19 ∧ (0 ≤ i5 ∧ i5 < (l0 : Int)) ∧
  ∃ a23, p1 = some a23 ∧ (0 ≤ i5 ∧ i5 < (l1 : Int)) ∧
  ∃ s20, w_1.cell? (a19.add (i5.toNat * 1)) = some (.string s20) ∧
  ∃ s24, w_1.cell? (a23.add (i5.toNat * 1)) = some (.string s24) ∧
  Br (!(sEq s20 s24)) (
   R (.returned (.bool false)) w_1
  ) (
   Lt ((IntKind.wrap .i64 (i5 + (1 : Int))) : Int) fun i5_1 =>
   L.affluxref05_Same_L0 p0 l0 c0 p1 l1 c1 i5_1 w_1 R
  )
 ) (
  R (.returned (.bool true)) w
 )
def V.affluxref05_Same (px0 : Option Addr) (lx0 : Nat) (cx0 : Nat) (px1 : Option Addr) (lx1 : Nat) (cx1 : Nat) (w : World) (R : Ending → World → Prop) : Prop :=
 Br ((lx0 : Int) != (lx1 : Int)) (
  R (.returned (.bool false)) w
 ) (
  L.affluxref05_Same_L0 px0 lx0 cx0 px1 lx1 cx1 0 w R
 )
theorem eqB.affluxref05_Same_L0 (p0 : Option Addr) (l0 : Nat) (c0 : Nat) (p1 : Option Addr) (l1 : Nat) (c1 : Nat) (i5 : Int) (w : World) (R : Ending → World → Prop) : RoundAt prog Try.f10 lv_affluxref05_Same [1, 1, 0, 1, 0] R [(0, .slice p0 l0 c0), (1, .slice p1 l1 c1), (5, .int .i64 i5)] w = B.affluxref05_Same_L0 p0 l0 c0 p1 l1 c1 i5 w R := by kernel_rfl
theorem round.affluxref05_Same_L0 {p0 : Option Addr} {l0 : Nat} {c0 : Nat} {p1 : Option Addr} {l1 : Nat} {c1 : Nat} {i5 : Int} {w : World} {R : Ending → World → Prop} (h : B.affluxref05_Same_L0 p0 l0 c0 p1 l1 c1 i5 w R) : L.affluxref05_Same_L0 p0 l0 c0 p1 l1 c1 i5 w R := LoopAt.unfold mix (cast (eqB.affluxref05_Same_L0 p0 l0 c0 p1 l1 c1 i5 w R).symm h)
theorem eqV.affluxref05_Same (px0 : Option Addr) (lx0 : Nat) (cx0 : Nat) (px1 : Option Addr) (lx1 : Nat) (cx1 : Nat) (w : World) (R : Ending → World → Prop) : vcFn prog Try.f10 lv_affluxref05_Same [.slice px0 lx0 cx0, .slice px1 lx1 cx1] w R = V.affluxref05_Same px0 lx0 cx0 px1 lx1 cx1 w R := by kernel_rfl
theorem ok.affluxref05_Same {px0 : Option Addr} {lx0 : Nat} {cx0 : Nat} {px1 : Option Addr} {lx1 : Nat} {cx1 : Nat} {w : World} {R : Ending → World → Prop} (h : V.affluxref05_Same px0 lx0 cx0 px1 lx1 cx1 w R) : Calls prog f_affluxref05_Same #[.slice px0 lx0 cx0, .slice px1 lx1 cx1] w R := calls_of mix lv_affluxref05_Same Try.func10 (by rw [Try.ntmps10]; exact Nat.le_of_ble_eq_true rfl) (cast (eqV.affluxref05_Same px0 lx0 cx0 px1 lx1 cx1 w R).symm h)
/-! #### (*afflux/tree.Tree[int]).Keys -/
def lv_tree_Tree_int_Keys : Nat → List Nat := fun k => match k with | 3 => [0, 2, 3, 9, 10, 12] | _ => []
def L.tree_Tree_int_Keys_L0 (p0 : Option Addr) (s2 : ByteArray) (i3 : Int) (p9 : Option Addr) (l9 : Nat) (c9 : Nat) (s10 : ByteArray) (b12 : Bool) (w : World) (R : Ending → World → Prop) : Prop :=
 LoopAt prog Try.f11 lv_tree_Tree_int_Keys [1, 1, 1, 0, 0] R [(0, .pointer p0), (2, .string s2), (3, .int .i64 i3), (9, .slice p9 l9 c9), (10, .string s10), (12, .bool b12)] w
def B.tree_Tree_int_Keys_L0 (p0 : Option Addr) (s2 : ByteArray) (i3 : Int) (p9 : Option Addr) (l9 : Nat) (c9 : Nat) (s10 : ByteArray) (b12 : Bool) (w : World) (R : Ending → World → Prop) : Prop :=
 Jn (α := Prop) (fun J =>
  Br b12 (
   Br (decide ((l9 : Int) < i3)) (
    Br (sEq s2 (str [])) (
     Br true (
      J
     ) (
      R (.returned (.slice p9 l9 c9)) w
     )
    ) (
     Br (sLt s10 s2) (
      J
     ) (
      R (.returned (.slice p9 l9 c9)) w
     )
    )
   ) (
    Br false (
     J
    ) (
     R (.returned (.slice p9 l9 c9)) w
    )
   )
  ) (
   Br false (
    Br (sEq s2 (str [])) (
     Br true (
      J
     ) (
      R (.returned (.slice p9 l9 c9)) w
     )
    ) (
     Br (sLt s10 s2) (
      J
     ) (
      R (.returned (.slice p9 l9 c9)) w
     )
    )
   ) (
    Br false (
     J
    ) (
     R (.returned (.slice p9 l9 c9)) w
    )
   )
  )
 ) (
  Al w (.cells #[.string s10] 9) fun a38 w_1 =>
  Run prog (Builtin.append_ #[29, 29] 29 #[.slice p9 l9 c9, .slice (some a38) 1 1]) w_1 fun v39 w_2 => ∃ p39 l39 c39, v39 = .slice p39 l39 c39 ∧
  Calls prog f_tree_Tree_int_Next #[.pointer p0, .string s10, .bool false] w_2 fun e w_3 => ∃ s43 i43 b43, e = .returned (.tuple #[.string s43, .int .i64 i43, .bool b43]) ∧
  L.tree_Tree_int_Keys_L0 p0 s2 i3 p39 l39 c39 s43 b43 w_3 R
 )
def V.tree_Tree_int_Keys (px0 : Option Addr) (sx1 : ByteArray) (sx2 : ByteArray) (ix3 : Int) (w : World) (R : Ending → World → Prop) : Prop :=
 Calls prog f_tree_Tree_int_Next #[.pointer px0, .string sx1, .bool true] w fun e w_1 => ∃ s16 i16 b16, e = .returned (.tuple #[.string s16, .int .i64 i16, .bool b16]) ∧
 L.tree_Tree_int_Keys_L0 px0 sx2 ix3 none 0 0 s16 b16 w_1 R
theorem eqB.tree_Tree_int_Keys_L0 (p0 : Option Addr) (s2 : ByteArray) (i3 : Int) (p9 : Option Addr) (l9 : Nat) (c9 : Nat) (s10 : ByteArray) (b12 : Bool) (w : World) (R : Ending → World → Prop) : RoundAt prog Try.f11 lv_tree_Tree_int_Keys [1, 1, 1, 0, 0] R [(0, .pointer p0), (2, .string s2), (3, .int .i64 i3), (9, .slice p9 l9 c9), (10, .string s10), (12, .bool b12)] w = B.tree_Tree_int_Keys_L0 p0 s2 i3 p9 l9 c9 s10 b12 w R := by kernel_rfl
theorem round.tree_Tree_int_Keys_L0 {p0 : Option Addr} {s2 : ByteArray} {i3 : Int} {p9 : Option Addr} {l9 : Nat} {c9 : Nat} {s10 : ByteArray} {b12 : Bool} {w : World} {R : Ending → World → Prop} (h : B.tree_Tree_int_Keys_L0 p0 s2 i3 p9 l9 c9 s10 b12 w R) : L.tree_Tree_int_Keys_L0 p0 s2 i3 p9 l9 c9 s10 b12 w R := LoopAt.unfold mix (cast (eqB.tree_Tree_int_Keys_L0 p0 s2 i3 p9 l9 c9 s10 b12 w R).symm h)
theorem eqV.tree_Tree_int_Keys (px0 : Option Addr) (sx1 : ByteArray) (sx2 : ByteArray) (ix3 : Int) (w : World) (R : Ending → World → Prop) : vcFn prog Try.f11 lv_tree_Tree_int_Keys [.pointer px0, .string sx1, .string sx2, .int .i64 ix3] w R = V.tree_Tree_int_Keys px0 sx1 sx2 ix3 w R := by kernel_rfl
theorem ok.tree_Tree_int_Keys {px0 : Option Addr} {sx1 : ByteArray} {sx2 : ByteArray} {ix3 : Int} {w : World} {R : Ending → World → Prop} (h : V.tree_Tree_int_Keys px0 sx1 sx2 ix3 w R) : Calls prog f_tree_Tree_int_Keys #[.pointer px0, .string sx1, .string sx2, .int .i64 ix3] w R := calls_of mix lv_tree_Tree_int_Keys Try.func11 (by rw [Try.ntmps11]; exact Nat.le_of_ble_eq_true rfl) (cast (eqV.tree_Tree_int_Keys px0 sx1 sx2 ix3 w R).symm h)
/-! #### (*afflux/tree.Tree[int]).Count -/
def lv_tree_Tree_int_Count : Nat → List Nat := fun _ => []
def V.tree_Tree_int_Count (px0 : Option Addr) (sx1 : ByteArray) (sx2 : ByteArray) (w : World) (R : Ending → World → Prop) : Prop :=
 Calls prog f_tree_Tree_int_Len #[.pointer px0] w fun e w_1 => ∃ i11, e = .returned (.int .i64 i11) ∧
 Calls prog f_tree_Tree_int_Keys #[.pointer px0, .string sx1, .string sx2, .int .i64 i11] w_1 fun e_1 w_2 => ∃ p12 l12 c12, e_1 = .returned (.slice p12 l12 c12) ∧
 R (.returned (.int .i64 (l12 : Int))) w_2
theorem eqV.tree_Tree_int_Count (px0 : Option Addr) (sx1 : ByteArray) (sx2 : ByteArray) (w : World) (R : Ending → World → Prop) : vcFn prog Try.f12 lv_tree_Tree_int_Count [.pointer px0, .string sx1, .string sx2] w R = V.tree_Tree_int_Count px0 sx1 sx2 w R := by kernel_rfl
theorem ok.tree_Tree_int_Count {px0 : Option Addr} {sx1 : ByteArray} {sx2 : ByteArray} {w : World} {R : Ending → World → Prop} (h : V.tree_Tree_int_Count px0 sx1 sx2 w R) : Calls prog f_tree_Tree_int_Count #[.pointer px0, .string sx1, .string sx2] w R := calls_of mix lv_tree_Tree_int_Count Try.func12 (by rw [Try.ntmps12]; exact Nat.le_of_ble_eq_true rfl) (cast (eqV.tree_Tree_int_Count px0 sx1 sx2 w R).symm h)
/-! #### afflux/tree.New[int] -/
def lv_tree_New_int : Nat → List Nat := fun _ => []
def V.tree_New_int (w : World) (R : Ending → World → Prop) : Prop :=
 Al w (.cells #[.slice none 0 0, .slice none 0 0] 66) fun a2 w_1 =>
 Al w_1 (.cells #[.pointer (some a2), .int .i64 0] 68) fun a4 w_2 =>
 R (.returned (.pointer (some a4))) w_2
theorem eqV.tree_New_int (w : World) (R : Ending → World → Prop) : vcFn prog Try.f13 lv_tree_New_int [] w R = V.tree_New_int w R := by kernel_rfl
theorem ok.tree_New_int {w : World} {R : Ending → World → Prop} (h : V.tree_New_int w R) : Calls prog f_tree_New_int #[] w R := calls_of mix lv_tree_New_int Try.func13 (by rw [Try.ntmps13]; exact Nat.le_of_ble_eq_true rfl) (cast (eqV.tree_New_int w R).symm h)
/-! #### (*afflux/tree.Tree[int]).Put -/
def lv_tree_Tree_int_Put : Nat → List Nat := fun _ => []
def V.tree_Tree_int_Put (px0 : Option Addr) (sx1 : ByteArray) (ix2 : Int) (w : World) (R : Ending → World → Prop) : Prop :=
 Br (px0.isNone) (
  R (.returned (.tuple #[.int .i64 0, .bool false])) w
 ) (
  ∃ a16, px0 = some a16 ∧
  ∃ p18, w.cell? a16 = some (.pointer p18) ∧
  Calls prog f_tree_page_int_put #[.pointer p18, .string sx1, .int .i64 ix2] w fun e w_1 => ∃ i21 b21, e = .returned (.tuple #[.int .i64 i21, .bool b21]) ∧
  Jn (α := World → Prop) (fun J =>
   ∃ a25, px0 = some a25 ∧
   ∃ p27, w_1.cell? a25 = some (.pointer p27) ∧
   ∃ a28, p27 = some a28 ∧
   ∃ p31 l31 c31, w_1.cell? a28 = some (.slice p31 l31 c31) ∧
   Br (decide ((l31 : Int) > (5 : Int))) (
    ∃ a36, px0 = some a36 ∧
    ∃ p38, w_1.cell? a36 = some (.pointer p38) ∧
    Al w_1 (.cells #[.pointer p38] 60) fun a39 w_3 =>
    Al w_3 (.cells #[.slice none 0 0, .slice (some a39) 1 1] 66) fun a41 w_4 =>
    ∃ a42, px0 = some a42 ∧
    St w_4 a42 (.pointer (some a41)) fun w_5 =>
    ∃ a45, px0 = some a45 ∧
    ∃ p47, w_5.cell? a45 = some (.pointer p47) ∧
    Calls prog f_tree_page_int_split #[.pointer p47, .int .i64 0] w_5 fun e_1 w_6 => e_1 = .returned (.tuple #[]) ∧
    J w_6
   ) (
    J w_1
   )
  ) (fun w_2 =>
   Br (!b21) (
    ∃ a52, px0 = some a52 ∧
    ∃ i54, w_2.cell? (a52.add 1) = some (.int .i64 i54) ∧
    ∃ a56, px0 = some a56 ∧
    St w_2 (a56.add 1) (.int .i64 (IntKind.wrap .i64 (i54 + (1 : Int)))) fun w_7 =>
    R (.returned (.tuple #[.int .i64 i21, .bool b21])) w_7
   ) (
    R (.returned (.tuple #[.int .i64 i21, .bool b21])) w_2
   )
  )
 )
theorem eqV.tree_Tree_int_Put (px0 : Option Addr) (sx1 : ByteArray) (ix2 : Int) (w : World) (R : Ending → World → Prop) : vcFn prog Try.f15 lv_tree_Tree_int_Put [.pointer px0, .string sx1, .int .i64 ix2] w R = V.tree_Tree_int_Put px0 sx1 ix2 w R := by kernel_rfl
theorem ok.tree_Tree_int_Put {px0 : Option Addr} {sx1 : ByteArray} {ix2 : Int} {w : World} {R : Ending → World → Prop} (h : V.tree_Tree_int_Put px0 sx1 ix2 w R) : Calls prog f_tree_Tree_int_Put #[.pointer px0, .string sx1, .int .i64 ix2] w R := calls_of mix lv_tree_Tree_int_Put Try.func15 (by rw [Try.ntmps15]; exact Nat.le_of_ble_eq_true rfl) (cast (eqV.tree_Tree_int_Put px0 sx1 ix2 w R).symm h)
/-! #### (*afflux/tree.Tree[int]).Len -/
def lv_tree_Tree_int_Len : Nat → List Nat := fun _ => []
def V.tree_Tree_int_Len (px0 : Option Addr) (w : World) (R : Ending → World → Prop) : Prop :=
 Br (px0.isNone) (
  R (.returned (.int .i64 0)) w
 ) (
  ∃ a6, px0 = some a6 ∧
  ∃ i8, w.cell? (a6.add 1) = some (.int .i64 i8) ∧
  R (.returned (.int .i64 i8)) w
 )
theorem eqV.tree_Tree_int_Len (px0 : Option Addr) (w : World) (R : Ending → World → Prop) : vcFn prog Try.f18 lv_tree_Tree_int_Len [.pointer px0] w R = V.tree_Tree_int_Len px0 w R := by kernel_rfl
theorem ok.tree_Tree_int_Len {px0 : Option Addr} {w : World} {R : Ending → World → Prop} (h : V.tree_Tree_int_Len px0 w R) : Calls prog f_tree_Tree_int_Len #[.pointer px0] w R := calls_of mix lv_tree_Tree_int_Len Try.func18 (by rw [Try.ntmps18]; exact Nat.le_of_ble_eq_true rfl) (cast (eqV.tree_Tree_int_Len px0 w R).symm h)
/-! #### (*afflux/tree.Tree[int]).Delete -/
def lv_tree_Tree_int_Delete : Nat → List Nat := fun _ => []
def V.tree_Tree_int_Delete (px0 : Option Addr) (sx1 : ByteArray) (w : World) (R : Ending → World → Prop) : Prop :=
 Br (px0.isNone) (
  R (.returned (.tuple #[.int .i64 0, .bool false])) w
 ) (
  ∃ a14, px0 = some a14 ∧
  ∃ p16, w.cell? a14 = some (.pointer p16) ∧
  Calls prog f_tree_page_int_drop #[.pointer p16, .string sx1] w fun e w_1 => ∃ i18 b18, e = .returned (.tuple #[.int .i64 i18, .bool b18]) ∧
  Jn (α := World → Prop) (fun J =>
   Br b18 (
    ∃ a23, px0 = some a23 ∧
    ∃ i25, w_1.cell? (a23.add 1) = some (.int .i64 i25) ∧
    ∃ a27, px0 = some a27 ∧
    St w_1 (a27.add 1) (.int .i64 (IntKind.wrap .i64 (i25 - (1 : Int)))) fun w_3 =>
    J w_3
   ) (
    J w_1
   )
  ) (fun w_2 =>
   Jn (α := Bool → World → Prop) (fun J_1 =>
    ∃ a30, px0 = some a30 ∧
    ∃ p32, w_2.cell? a30 = some (.pointer p32) ∧
    ∃ a33, p32 = some a33 ∧
    ∃ p36 l36 c36, w_2.cell? a33 = some (.slice p36 l36 c36) ∧
    Br ((l36 : Int) == (0 : Int)) (
     ∃ a41, px0 = some a41 ∧
     ∃ p43, w_2.cell? a41 = some (.pointer p43) ∧
     Calls prog f_tree_page_int_leaf #[.pointer p43] w_2 fun e_1 w_5 => ∃ b44, e_1 = .returned (.bool b44) ∧
     J_1 (!b44) w_5
    ) (
     J_1 false w_2
    )
   ) (fun b46 w_4 =>
    Br b46 (
     ∃ a49, px0 = some a49 ∧
     ∃ p51, w_4.cell? a49 = some (.pointer p51) ∧
     ∃ a52, p51 = some a52 ∧
     ∃ p54 l54 c54, w_4.cell? (a52.add 1) = some (.slice p54 l54 c54) ∧
     ∃ a55, p54 = some a55 ∧ (0 ≤ (0 : Int) ∧ (0 : Int) < (l54 : Int)) ∧
     ∃ p56, w_4.cell? (a55.add ((0 : Int).toNat * 1)) = some (.pointer p56) ∧
     ∃ a57, px0 = some a57 ∧
     St w_4 a57 (.pointer p56) fun w_6 =>
     R (.returned (.tuple #[.int .i64 i18, .bool b18])) w_6
    ) (
     R (.returned (.tuple #[.int .i64 i18, .bool b18])) w_4
    )
   )
  )
 )
theorem eqV.tree_Tree_int_Delete (px0 : Option Addr) (sx1 : ByteArray) (w : World) (R : Ending → World → Prop) : vcFn prog Try.f20 lv_tree_Tree_int_Delete [.pointer px0, .string sx1] w R = V.tree_Tree_int_Delete px0 sx1 w R := by kernel_rfl
theorem ok.tree_Tree_int_Delete {px0 : Option Addr} {sx1 : ByteArray} {w : World} {R : Ending → World → Prop} (h : V.tree_Tree_int_Delete px0 sx1 w R) : Calls prog f_tree_Tree_int_Delete #[.pointer px0, .string sx1] w R := calls_of mix lv_tree_Tree_int_Delete Try.func20 (by rw [Try.ntmps20]; exact Nat.le_of_ble_eq_true rfl) (cast (eqV.tree_Tree_int_Delete px0 sx1 w R).symm h)
/-! #### (*afflux/tree.Tree[int]).Depth -/
def lv_tree_Tree_int_Depth : Nat → List Nat := fun k => match k with | 5 => [3, 4] | _ => []
def L.tree_Tree_int_Depth_L0 (i3 : Int) (p4 : Option Addr) (w : World) (R : Ending → World → Prop) : Prop :=
 LoopAt prog Try.f22 lv_tree_Tree_int_Depth [1, 1, 1, 0, 1, 0] R [(3, .int .i64 i3), (4, .pointer p4)] w
def B.tree_Tree_int_Depth_L0 (i3 : Int) (p4 : Option Addr) (w : World) (R : Ending → World → Prop) : Prop :=
 Calls prog f_tree_page_int_leaf #[.pointer p4] w fun e w_1 => ∃ b13, e = .returned (.bool b13) ∧
 Br (!b13) (
  Lt ((IntKind.wrap .i64 (i3 + (1 : Int))) : Int) fun i3_1 =>
  ∃ a16, p4 = some a16 ∧
  ∃ p18 l18 c18, w_1.cell? (a16.add 1) = some (.slice p18 l18 c18) ∧
  ∃ a19, p18 = some a19 ∧ (0 ≤ (0 : Int) ∧ (0 : Int) < (l18 : Int)) ∧
  ∃ p20, w_1.cell? (a19.add ((0 : Int).toNat * 1)) = some (.pointer p20) ∧
  L.tree_Tree_int_Depth_L0 i3_1 p20 w_1 R
 ) (
  R (.returned (.int .i64 i3)) w_1
 )
def V.tree_Tree_int_Depth (px0 : Option Addr) (w : World) (R : Ending → World → Prop) : Prop :=
 Calls prog f_tree_Tree_int_Len #[.pointer px0] w fun e w_1 => ∃ i6, e = .returned (.int .i64 i6) ∧
 Br (i6 == (0 : Int)) (
  R (.returned (.int .i64 0)) w_1
 ) (
  ∃ a9, px0 = some a9 ∧
  ∃ p11, w_1.cell? a9 = some (.pointer p11) ∧
  L.tree_Tree_int_Depth_L0 1 p11 w_1 R
 )
theorem eqB.tree_Tree_int_Depth_L0 (i3 : Int) (p4 : Option Addr) (w : World) (R : Ending → World → Prop) : RoundAt prog Try.f22 lv_tree_Tree_int_Depth [1, 1, 1, 0, 1, 0] R [(3, .int .i64 i3), (4, .pointer p4)] w = B.tree_Tree_int_Depth_L0 i3 p4 w R := by kernel_rfl
theorem round.tree_Tree_int_Depth_L0 {i3 : Int} {p4 : Option Addr} {w : World} {R : Ending → World → Prop} (h : B.tree_Tree_int_Depth_L0 i3 p4 w R) : L.tree_Tree_int_Depth_L0 i3 p4 w R := LoopAt.unfold mix (cast (eqB.tree_Tree_int_Depth_L0 i3 p4 w R).symm h)
theorem eqV.tree_Tree_int_Depth (px0 : Option Addr) (w : World) (R : Ending → World → Prop) : vcFn prog Try.f22 lv_tree_Tree_int_Depth [.pointer px0] w R = V.tree_Tree_int_Depth px0 w R := by kernel_rfl
theorem ok.tree_Tree_int_Depth {px0 : Option Addr} {w : World} {R : Ending → World → Prop} (h : V.tree_Tree_int_Depth px0 w R) : Calls prog f_tree_Tree_int_Depth #[.pointer px0] w R := calls_of mix lv_tree_Tree_int_Depth Try.func22 (by rw [Try.ntmps22]; exact Nat.le_of_ble_eq_true rfl) (cast (eqV.tree_Tree_int_Depth px0 w R).symm h)
/-! #### afflux/affluxlaw08.looks -/
def lv_affluxlaw08_looks : Nat → List Nat := fun _ => []
def V.affluxlaw08_looks (px0 : Option Addr) (px1 : Option Addr) (lx1 : Nat) (cx1 : Nat) (sx2 : ByteArray) (w : World) (R : Ending → World → Prop) : Prop :=
 Calls prog f_affluxlaw08_find #[.slice px1 lx1 cx1, .string sx2] w fun e w_1 => ∃ i32 b32, e = .returned (.tuple #[.int .i64 i32, .bool b32]) ∧
 Calls prog f_tree_Tree_int_Get #[.pointer px0, .string sx2] w_1 fun e_1 w_2 => ∃ i38 b38, e_1 = .returned (.tuple #[.int .i64 i38, .bool b38]) ∧
 Jn (α := Int → Int → Prop) (fun J =>
  Br b32 (
   ∃ a45, px1 = some a45 ∧ (0 ≤ i32 ∧ i32 < (lx1 : Int)) ∧
   ∃ i47, w_2.cell? ((a45.add (i32.toNat * 2)).add 1) = some (.int .i64 i47) ∧
   Lt ((IntKind.wrap .i64 (i32 + (1 : Int))) : Int) fun i12_1 =>
   J i47 i12_1
  ) (
   J 0 i32
  )
 ) (fun i11 i12 =>
  Jn (α := World → Prop) (fun J_1 =>
   Br (i38 != i11) (
    Br true (
     Br true (
      R (.returned (.bool false)) w_2
     ) (
      J_1 w_2
     )
    ) (
     Calls prog f_tree_Tree_int_Len #[.pointer px0] w_2 fun e_2 w_4 => ∃ i60, e_2 = .returned (.int .i64 i60) ∧
     Br (i60 != (lx1 : Int)) (
      R (.returned (.bool false)) w_4
     ) (
      J_1 w_4
     )
    )
   ) (
    Br (!(b38 == b32)) (
     Br true (
      R (.returned (.bool false)) w_2
     ) (
      J_1 w_2
     )
    ) (
     Calls prog f_tree_Tree_int_Len #[.pointer px0] w_2 fun e_3 w_5 => ∃ i60_1, e_3 = .returned (.int .i64 i60_1) ∧
     Br (i60_1 != (lx1 : Int)) (
      R (.returned (.bool false)) w_5
     ) (
      J_1 w_5
     )
    )
   )
  ) (fun w_3 =>
   Jn (α := Int → Prop) (fun J_2 =>
    Br (!b32) (
     Lt ((IntKind.wrap .i64 (i32 - (1 : Int))) : Int) fun i13_1 =>
     J_2 i13_1
    ) (
     J_2 i32
    )
   ) (fun i13 =>
    Calls prog f_tree_Tree_int_Next #[.pointer px0, .string sx2, .bool false] w_3 fun e_4 w_6 => ∃ s73 i73 b73, e_4 = .returned (.tuple #[.string s73, .int .i64 i73, .bool b73]) ∧
    Calls prog f_tree_Tree_int_Next #[.pointer px0, .string sx2, .bool true] w_6 fun e_5 w_7 => ∃ s80 i80 b80, e_5 = .returned (.tuple #[.string s80, .int .i64 i80, .bool b80]) ∧
    Calls prog f_tree_Tree_int_Ahead #[.pointer px0, .string sx2, .bool false] w_7 fun e_6 w_8 => ∃ s87 i87 b87, e_6 = .returned (.tuple #[.string s87, .int .i64 i87, .bool b87]) ∧
    Calls prog f_tree_Tree_int_Ahead #[.pointer px0, .string sx2, .bool true] w_8 fun e_7 w_9 => ∃ s94 i94 b94, e_7 = .returned (.tuple #[.string s94, .int .i64 i94, .bool b94]) ∧
    Calls prog f_tree_Tree_int_Last #[.pointer px0] w_9 fun e_8 w_10 => ∃ s100 i100 b100, e_8 = .returned (.tuple #[.string s100, .int .i64 i100, .bool b100]) ∧
    Calls prog f_affluxlaw08_told #[.slice px1 lx1 cx1, .int .i64 i12, .string s73, .int .i64 i73, .bool b73] w_10 fun e_9 w_11 => ∃ b109, e_9 = .returned (.bool b109) ∧
    Br b109 (
     Calls prog f_affluxlaw08_told #[.slice px1 lx1 cx1, .int .i64 i32, .string s80, .int .i64 i80, .bool b80] w_11 fun e_10 w_12 => ∃ b116, e_10 = .returned (.bool b116) ∧
     Br b116 (
      Calls prog f_affluxlaw08_told #[.slice px1 lx1 cx1, .int .i64 (IntKind.wrap .i64 (i32 - (1 : Int))), .string s87, .int .i64 i87, .bool b87] w_12 fun e_11 w_13 => ∃ b125, e_11 = .returned (.bool b125) ∧
      Br b125 (
       Calls prog f_affluxlaw08_told #[.slice px1 lx1 cx1, .int .i64 i13, .string s94, .int .i64 i94, .bool b94] w_13 fun e_12 w_14 => ∃ b133, e_12 = .returned (.bool b133) ∧
       Br b133 (
        Calls prog f_affluxlaw08_told #[.slice px1 lx1 cx1, .int .i64 (IntKind.wrap .i64 ((lx1 : Int) - (1 : Int))), .string s100, .int .i64 i100, .bool b100] w_14 fun e_13 w_15 => ∃ b143, e_13 = .returned (.bool b143) ∧
        R (.returned (.bool b143)) w_15
       ) (
        R (.returned (.bool false)) w_14
       )
      ) (
       Br false (
        Calls prog f_affluxlaw08_told #[.slice px1 lx1 cx1, .int .i64 (IntKind.wrap .i64 ((lx1 : Int) - (1 : Int))), .string s100, .int .i64 i100, .bool b100] w_13 fun e_14 w_16 => ∃ b143_1, e_14 = .returned (.bool b143_1) ∧
        R (.returned (.bool b143_1)) w_16
       ) (
        R (.returned (.bool false)) w_13
       )
      )
     ) (
      Br false (
       Calls prog f_affluxlaw08_told #[.slice px1 lx1 cx1, .int .i64 i13, .string s94, .int .i64 i94, .bool b94] w_12 fun e_15 w_17 => ∃ b133_1, e_15 = .returned (.bool b133_1) ∧
       Br b133_1 (
        Calls prog f_affluxlaw08_told #[.slice px1 lx1 cx1, .int .i64 (IntKind.wrap .i64 ((lx1 : Int) - (1 : Int))), .string s100, .int .i64 i100, .bool b100] w_17 fun e_16 w_18 => ∃ b143_2, e_16 = .returned (.bool b143_2) ∧
        R (.returned (.bool b143_2)) w_18
       ) (
        R (.returned (.bool false)) w_17
       )
      ) (
       Br false (
        Calls prog f_affluxlaw08_told #[.slice px1 lx1 cx1, .int .i64 (IntKind.wrap .i64 ((lx1 : Int) - (1 : Int))), .string s100, .int .i64 i100, .bool b100] w_12 fun e_17 w_19 => ∃ b143_3, e_17 = .returned (.bool b143_3) ∧
        R (.returned (.bool b143_3)) w_19
       ) (
        R (.returned (.bool false)) w_12
       )
      )
     )
    ) (
     Br false (
      Calls prog f_affluxlaw08_told #[.slice px1 lx1 cx1, .int .i64 (IntKind.wrap .i64 (i32 - (1 : Int))), .string s87, .int .i64 i87, .bool b87] w_11 fun e_18 w_20 => ∃ b125_1, e_18 = .returned (.bool b125_1) ∧
      Br b125_1 (
       Calls prog f_affluxlaw08_told #[.slice px1 lx1 cx1, .int .i64 i13, .string s94, .int .i64 i94, .bool b94] w_20 fun e_19 w_21 => ∃ b133_2, e_19 = .returned (.bool b133_2) ∧
       Br b133_2 (
        Calls prog f_affluxlaw08_told #[.slice px1 lx1 cx1, .int .i64 (IntKind.wrap .i64 ((lx1 : Int) - (1 : Int))), .string s100, .int .i64 i100, .bool b100] w_21 fun e_20 w_22 => ∃ b143_4, e_20 = .returned (.bool b143_4) ∧
        R (.returned (.bool b143_4)) w_22
       ) (
        R (.returned (.bool false)) w_21
       )
      ) (
       Br false (
        Calls prog f_affluxlaw08_told #[.slice px1 lx1 cx1, .int .i64 (IntKind.wrap .i64 ((lx1 : Int) - (1 : Int))), .string s100, .int .i64 i100, .bool b100] w_20 fun e_21 w_23 => ∃ b143_5, e_21 = .returned (.bool b143_5) ∧
        R (.returned (.bool b143_5)) w_23
       ) (
        R (.returned (.bool false)) w_20
       )
      )
     ) (
      Br false (
       Calls prog f_affluxlaw08_told #[.slice px1 lx1 cx1, .int .i64 i13, .string s94, .int .i64 i94, .bool b94] w_11 fun e_22 w_24 => ∃ b133_3, e_22 = .returned (.bool b133_3) ∧
       Br b133_3 (
        Calls prog f_affluxlaw08_told #[.slice px1 lx1 cx1, .int .i64 (IntKind.wrap .i64 ((lx1 : Int) - (1 : Int))), .string s100, .int .i64 i100, .bool b100] w_24 fun e_23 w_25 => ∃ b143_6, e_23 = .returned (.bool b143_6) ∧
        R (.returned (.bool b143_6)) w_25
       ) (
        R (.returned (.bool false)) w_24
       )
      ) (
       Br false (
        Calls prog f_affluxlaw08_told #[.slice px1 lx1 cx1, .int .i64 (IntKind.wrap .i64 ((lx1 : Int) - (1 : Int))), .string s100, .int .i64 i100, .bool b100] w_11 fun e_24 w_26 => ∃ b143_7, e_24 = .returned (.bool b143_7) ∧
        R (.returned (.bool b143_7)) w_26
       ) (
        R (.returned (.bool false)) w_11
       )
      )
     )
    )
   )
  )
 )
theorem eqV.affluxlaw08_looks (px0 : Option Addr) (px1 : Option Addr) (lx1 : Nat) (cx1 : Nat) (sx2 : ByteArray) (w : World) (R : Ending → World → Prop) : vcFn prog Try.f24 lv_affluxlaw08_looks [.pointer px0, .slice px1 lx1 cx1, .string sx2] w R = V.affluxlaw08_looks px0 px1 lx1 cx1 sx2 w R := by kernel_rfl
theorem ok.affluxlaw08_looks {px0 : Option Addr} {px1 : Option Addr} {lx1 : Nat} {cx1 : Nat} {sx2 : ByteArray} {w : World} {R : Ending → World → Prop} (h : V.affluxlaw08_looks px0 px1 lx1 cx1 sx2 w R) : Calls prog f_affluxlaw08_looks #[.pointer px0, .slice px1 lx1 cx1, .string sx2] w R := calls_of mix lv_affluxlaw08_looks Try.func24 (by rw [Try.ntmps24]; exact Nat.le_of_ble_eq_true rfl) (cast (eqV.affluxlaw08_looks px0 px1 lx1 cx1 sx2 w R).symm h)
/-! #### (*afflux/tree.Tree[int]).Pages -/
def lv_tree_Tree_int_Pages : Nat → List Nat := fun _ => []
def V.tree_Tree_int_Pages (px0 : Option Addr) (w : World) (R : Ending → World → Prop) : Prop :=
 Calls prog f_tree_Tree_int_Len #[.pointer px0] w fun e w_1 => ∃ i4, e = .returned (.int .i64 i4) ∧
 Br (i4 == (0 : Int)) (
  R (.returned (.slice none 0 0)) w_1
 ) (
  ∃ a7, px0 = some a7 ∧
  ∃ p9, w_1.cell? a7 = some (.pointer p9) ∧
  Calls prog f_tree_page_int_pages #[.pointer p9, .slice none 0 0] w_1 fun e_1 w_2 => ∃ p10 l10 c10, e_1 = .returned (.slice p10 l10 c10) ∧
  R (.returned (.slice p10 l10 c10)) w_2
 )
theorem eqV.tree_Tree_int_Pages (px0 : Option Addr) (w : World) (R : Ending → World → Prop) : vcFn prog Try.f25 lv_tree_Tree_int_Pages [.pointer px0] w R = V.tree_Tree_int_Pages px0 w R := by kernel_rfl
theorem ok.tree_Tree_int_Pages {px0 : Option Addr} {w : World} {R : Ending → World → Prop} (h : V.tree_Tree_int_Pages px0 w R) : Calls prog f_tree_Tree_int_Pages #[.pointer px0] w R := calls_of mix lv_tree_Tree_int_Pages Try.func25 (by rw [Try.ntmps25]; exact Nat.le_of_ble_eq_true rfl) (cast (eqV.tree_Tree_int_Pages px0 w R).symm h)
/-! #### (*afflux/tree.Tree[int]).Next -/
def lv_tree_Tree_int_Next : Nat → List Nat := fun k => match k with | 4 => [1, 2, 9, 10] | _ => []
def L.tree_Tree_int_Next_L0 (s1 : ByteArray) (b2 : Bool) (p9 : Option Addr) (p10 : Option Addr) (w : World) (R : Ending → World → Prop) : Prop :=
 LoopAt prog Try.f26 lv_tree_Tree_int_Next [1, 1, 0, 1, 0, 1, 0] R [(1, .string s1), (2, .bool b2), (9, .pointer p9), (10, .pointer p10)] w
def B.tree_Tree_int_Next_L0 (s1 : ByteArray) (b2 : Bool) (p9 : Option Addr) (p10 : Option Addr) (w : World) (R : Ending → World → Prop) : Prop :=
 Br (!p10.isNone) (
  ∃ a23, p10 = some a23 ∧
  Calls prog f_tree_shelf_int_find #[.pointer (some a23), .string s1] w fun e w_1 => ∃ i26 b26, e = .returned (.tuple #[.int .i64 i26, .bool b26]) ∧
  Jn (α := Prop) (fun J =>
   Jn (α := Bool → Prop) (fun J_1 =>
    Br b26 (
     J_1 b2
    ) (
     J_1 false
    )
   ) (fun b32 =>
    Br b32 (
     ∃ a34, p10 = some a34 ∧
     ∃ p37 l37 c37, w_1.cell? a34 = some (.slice p37 l37 c37) ∧
     ∃ a39, p37 = some a39 ∧ (0 ≤ i26 ∧ i26 < (l37 : Int)) ∧
     Calls prog f_tree_told_int #[.pointer (some (a39.add (i26.toNat * 2)))] w_1 fun e_1 w_2 => ∃ s40 i40 b40, e_1 = .returned (.tuple #[.string s40, .int .i64 i40, .bool b40]) ∧
     R (.returned (.tuple #[.string s40, .int .i64 i40, .bool b40])) w_2
    ) (
     J
    )
   )
  ) (
   Jn (α := Int → Prop) (fun J_2 =>
    Br b26 (
     Lt ((IntKind.wrap .i64 (i26 + (1 : Int))) : Int) fun i11_1 =>
     J_2 i11_1
    ) (
     J_2 i26
    )
   ) (fun i11 =>
    ∃ a49, p10 = some a49 ∧
    ∃ p52 l52 c52, w_1.cell? a49 = some (.slice p52 l52 c52) ∧
    Br (decide (i11 < (l52 : Int))) (
     ∃ a56, p10 = some a56 ∧
     ∃ p59 l59 c59, w_1.cell? a56 = some (.slice p59 l59 c59) ∧
     ∃ a61, p59 = some a61 ∧ (0 ≤ i11 ∧ i11 < (l59 : Int)) ∧
     Calls prog f_tree_page_int_child #[.pointer p10, .int .i64 i11] w_1 fun e_2 w_3 => ∃ p64, e_2 = .returned (.pointer p64) ∧
     L.tree_Tree_int_Next_L0 s1 b2 (some (a61.add (i11.toNat * 2))) p64 w_3 R
    ) (
     Calls prog f_tree_page_int_child #[.pointer p10, .int .i64 i11] w_1 fun e_3 w_4 => ∃ p64_1, e_3 = .returned (.pointer p64_1) ∧
     L.tree_Tree_int_Next_L0 s1 b2 p9 p64_1 w_4 R
    )
   )
  )
 ) (
  Calls prog f_tree_told_int #[.pointer p9] w fun e_4 w_5 => ∃ s66 i66 b66, e_4 = .returned (.tuple #[.string s66, .int .i64 i66, .bool b66]) ∧
  R (.returned (.tuple #[.string s66, .int .i64 i66, .bool b66])) w_5
 )
def V.tree_Tree_int_Next (px0 : Option Addr) (sx1 : ByteArray) (bx2 : Bool) (w : World) (R : Ending → World → Prop) : Prop :=
 Br (!px0.isNone) (
  ∃ a16, px0 = some a16 ∧
  ∃ p18, w.cell? a16 = some (.pointer p18) ∧
  L.tree_Tree_int_Next_L0 sx1 bx2 none p18 w R
 ) (
  Calls prog f_tree_told_int #[.pointer none] w fun e w_1 => ∃ s66 i66 b66, e = .returned (.tuple #[.string s66, .int .i64 i66, .bool b66]) ∧
  R (.returned (.tuple #[.string s66, .int .i64 i66, .bool b66])) w_1
 )
theorem eqB.tree_Tree_int_Next_L0 (s1 : ByteArray) (b2 : Bool) (p9 : Option Addr) (p10 : Option Addr) (w : World) (R : Ending → World → Prop) : RoundAt prog Try.f26 lv_tree_Tree_int_Next [1, 1, 0, 1, 0, 1, 0] R [(1, .string s1), (2, .bool b2), (9, .pointer p9), (10, .pointer p10)] w = B.tree_Tree_int_Next_L0 s1 b2 p9 p10 w R := by kernel_rfl
theorem round.tree_Tree_int_Next_L0 {s1 : ByteArray} {b2 : Bool} {p9 : Option Addr} {p10 : Option Addr} {w : World} {R : Ending → World → Prop} (h : B.tree_Tree_int_Next_L0 s1 b2 p9 p10 w R) : L.tree_Tree_int_Next_L0 s1 b2 p9 p10 w R := LoopAt.unfold mix (cast (eqB.tree_Tree_int_Next_L0 s1 b2 p9 p10 w R).symm h)
theorem eqV.tree_Tree_int_Next (px0 : Option Addr) (sx1 : ByteArray) (bx2 : Bool) (w : World) (R : Ending → World → Prop) : vcFn prog Try.f26 lv_tree_Tree_int_Next [.pointer px0, .string sx1, .bool bx2] w R = V.tree_Tree_int_Next px0 sx1 bx2 w R := by kernel_rfl
theorem ok.tree_Tree_int_Next {px0 : Option Addr} {sx1 : ByteArray} {bx2 : Bool} {w : World} {R : Ending → World → Prop} (h : V.tree_Tree_int_Next px0 sx1 bx2 w R) : Calls prog f_tree_Tree_int_Next #[.pointer px0, .string sx1, .bool bx2] w R := calls_of mix lv_tree_Tree_int_Next Try.func26 (by rw [Try.ntmps26]; exact Nat.le_of_ble_eq_true rfl) (cast (eqV.tree_Tree_int_Next px0 sx1 bx2 w R).symm h)
/-! #### afflux/affluxlaw08.find -/
def lv_affluxlaw08_find : Nat → List Nat := fun k => match k with | 2 => [0, 1, 6] | _ => []
def L.affluxlaw08_find_L0 (p0 : Option Addr) (l0 : Nat) (c0 : Nat) (s1 : ByteArray) (i6 : Int) (w : World) (R : Ending → World → Prop) : Prop :=
 LoopAt prog Try.f27 lv_affluxlaw08_find [1, 1, 0, 0] R [(0, .slice p0 l0 c0), (1, .string s1), (6, .int .i64 i6)] w
def B.affluxlaw08_find_L0 (p0 : Option Addr) (l0 : Nat) (c0 : Nat) (s1 : ByteArray) (i6 : Int) (w : World) (R : Ending → World → Prop) : Prop :=
 Br (decide (i6 < (l0 : Int))) (
  ∃ a14, p0 = some a14 ∧ (0 ≤ i6 ∧ i6 < (l0 : Int)) ∧
  ∃ s16, w.cell? (a14.add (i6.toNat * 2)) = some (.string s16) ∧
  Br (sLt s16 s1) (
   Lt ((IntKind.wrap .i64 (i6 + (1 : Int))) : Int) fun i6_1 =>
   L.affluxlaw08_find_L0 p0 l0 c0 s1 i6_1 w R
  ) (
   Dr w fun w_1 =>
   Br (decide (i6 < (l0 : Int))) (
    ∃ a30, p0 = some a30 ∧ (0 ≤ i6 ∧ i6 < (l0 : Int)) ∧
    ∃ s32, w_1.cell? (a30.add (i6.toNat * 2)) = some (.string s32) ∧
    R (.returned (.tuple #[.int .i64 i6, .bool (sEq s32 s1)])) w_1
   ) (
    R (.returned (.tuple #[.int .i64 i6, .bool false])) w_1
   )
  )
 ) (
  Br false (
   Lt ((IntKind.wrap .i64 (i6 + (1 : Int))) : Int) fun i6_2 =>
   L.affluxlaw08_find_L0 p0 l0 c0 s1 i6_2 w R
  ) (
   Dr w fun w_2 =>
   Br (decide (i6 < (l0 : Int))) (
    ∃ a30_1, p0 = some a30_1 ∧ (0 ≤ i6 ∧ i6 < (l0 : Int)) ∧
    ∃ s32_1, w_2.cell? (a30_1.add (i6.toNat * 2)) = some (.string s32_1) ∧
    R (.returned (.tuple #[.int .i64 i6, .bool (sEq s32_1 s1)])) w_2
   ) (
    R (.returned (.tuple #[.int .i64 i6, .bool false])) w_2
   )
  )
 )
def V.affluxlaw08_find (px0 : Option Addr) (lx0 : Nat) (cx0 : Nat) (sx1 : ByteArray) (w : World) (R : Ending → World → Prop) : Prop :=
 L.affluxlaw08_find_L0 px0 lx0 cx0 sx1 0 w R
theorem eqB.affluxlaw08_find_L0 (p0 : Option Addr) (l0 : Nat) (c0 : Nat) (s1 : ByteArray) (i6 : Int) (w : World) (R : Ending → World → Prop) : RoundAt prog Try.f27 lv_affluxlaw08_find [1, 1, 0, 0] R [(0, .slice p0 l0 c0), (1, .string s1), (6, .int .i64 i6)] w = B.affluxlaw08_find_L0 p0 l0 c0 s1 i6 w R := by kernel_rfl
theorem round.affluxlaw08_find_L0 {p0 : Option Addr} {l0 : Nat} {c0 : Nat} {s1 : ByteArray} {i6 : Int} {w : World} {R : Ending → World → Prop} (h : B.affluxlaw08_find_L0 p0 l0 c0 s1 i6 w R) : L.affluxlaw08_find_L0 p0 l0 c0 s1 i6 w R := LoopAt.unfold mix (cast (eqB.affluxlaw08_find_L0 p0 l0 c0 s1 i6 w R).symm h)
theorem eqV.affluxlaw08_find (px0 : Option Addr) (lx0 : Nat) (cx0 : Nat) (sx1 : ByteArray) (w : World) (R : Ending → World → Prop) : vcFn prog Try.f27 lv_affluxlaw08_find [.slice px0 lx0 cx0, .string sx1] w R = V.affluxlaw08_find px0 lx0 cx0 sx1 w R := by kernel_rfl
theorem ok.affluxlaw08_find {px0 : Option Addr} {lx0 : Nat} {cx0 : Nat} {sx1 : ByteArray} {w : World} {R : Ending → World → Prop} (h : V.affluxlaw08_find px0 lx0 cx0 sx1 w R) : Calls prog f_affluxlaw08_find #[.slice px0 lx0 cx0, .string sx1] w R := calls_of mix lv_affluxlaw08_find Try.func27 (by rw [Try.ntmps27]; exact Nat.le_of_ble_eq_true rfl) (cast (eqV.affluxlaw08_find px0 lx0 cx0 sx1 w R).symm h)
/-! #### afflux/affluxlaw08.with -/
def lv_affluxlaw08_with : Nat → List Nat := fun _ => []
def V.affluxlaw08_with (px0 : Option Addr) (lx0 : Nat) (cx0 : Nat) (sx1 : ByteArray) (ix2 : Int) (bx3 : Bool) (w : World) (R : Ending → World → Prop) : Prop :=
 Calls prog f_affluxlaw08_find #[.slice px0 lx0 cx0, .string sx1] w fun e w_1 => ∃ i15 b15, e = .returned (.tuple #[.int .i64 i15, .bool b15]) ∧
 Al w_1 (.cells #[] 31) fun a18 w_2 =>
 SlB lx0 cx0 none (some i15) none fun lo21 hi21 mx21 =>
 Run prog (Builtin.append_ #[26, 26] 26 #[.slice (some a18) 0 0, .slice (slAt px0 lo21 mx21 2) (hi21 - lo21) (mx21 - lo21)]) w_2 fun v22 w_3 => ∃ p22 l22 c22, v22 = .slice p22 l22 c22 ∧
 Br (!bx3) (
  Al w_3 (.cells #[.string sx1, .int .i64 ix2] 31) fun a29 w_4 =>
  Run prog (Builtin.append_ #[26, 26] 26 #[.slice p22 l22 c22, .slice (some a29) 1 1]) w_4 fun v30 w_5 => ∃ p30 l30 c30, v30 = .slice p30 l30 c30 ∧
  Br b15 (
   Lt ((IntKind.wrap .i64 (i15 + (1 : Int))) : Int) fun i9 =>
   SlB lx0 cx0 (some i9) none none fun lo37 hi37 mx37 =>
   Run prog (Builtin.append_ #[26, 26] 26 #[.slice p30 l30 c30, .slice (slAt px0 lo37 mx37 2) (hi37 - lo37) (mx37 - lo37)]) w_5 fun v38 w_6 => ∃ p38 l38 c38, v38 = .slice p38 l38 c38 ∧
   R (.returned (.slice p38 l38 c38)) w_6
  ) (
   SlB lx0 cx0 (some i15) none none fun lo37_1 hi37_1 mx37_1 =>
   Run prog (Builtin.append_ #[26, 26] 26 #[.slice p30 l30 c30, .slice (slAt px0 lo37_1 mx37_1 2) (hi37_1 - lo37_1) (mx37_1 - lo37_1)]) w_5 fun v38_1 w_7 => ∃ p38_1 l38_1 c38_1, v38_1 = .slice p38_1 l38_1 c38_1 ∧
   R (.returned (.slice p38_1 l38_1 c38_1)) w_7
  )
 ) (
  Br b15 (
   Lt ((IntKind.wrap .i64 (i15 + (1 : Int))) : Int) fun i9_1 =>
   SlB lx0 cx0 (some i9_1) none none fun lo37_2 hi37_2 mx37_2 =>
   Run prog (Builtin.append_ #[26, 26] 26 #[.slice p22 l22 c22, .slice (slAt px0 lo37_2 mx37_2 2) (hi37_2 - lo37_2) (mx37_2 - lo37_2)]) w_3 fun v38_2 w_8 => ∃ p38_2 l38_2 c38_2, v38_2 = .slice p38_2 l38_2 c38_2 ∧
   R (.returned (.slice p38_2 l38_2 c38_2)) w_8
  ) (
   SlB lx0 cx0 (some i15) none none fun lo37_3 hi37_3 mx37_3 =>
   Run prog (Builtin.append_ #[26, 26] 26 #[.slice p22 l22 c22, .slice (slAt px0 lo37_3 mx37_3 2) (hi37_3 - lo37_3) (mx37_3 - lo37_3)]) w_3 fun v38_3 w_9 => ∃ p38_3 l38_3 c38_3, v38_3 = .slice p38_3 l38_3 c38_3 ∧
   R (.returned (.slice p38_3 l38_3 c38_3)) w_9
  )
 )
theorem eqV.affluxlaw08_with (px0 : Option Addr) (lx0 : Nat) (cx0 : Nat) (sx1 : ByteArray) (ix2 : Int) (bx3 : Bool) (w : World) (R : Ending → World → Prop) : vcFn prog Try.f28 lv_affluxlaw08_with [.slice px0 lx0 cx0, .string sx1, .int .i64 ix2, .bool bx3] w R = V.affluxlaw08_with px0 lx0 cx0 sx1 ix2 bx3 w R := by kernel_rfl
theorem ok.affluxlaw08_with {px0 : Option Addr} {lx0 : Nat} {cx0 : Nat} {sx1 : ByteArray} {ix2 : Int} {bx3 : Bool} {w : World} {R : Ending → World → Prop} (h : V.affluxlaw08_with px0 lx0 cx0 sx1 ix2 bx3 w R) : Calls prog f_affluxlaw08_with #[.slice px0 lx0 cx0, .string sx1, .int .i64 ix2, .bool bx3] w R := calls_of mix lv_affluxlaw08_with Try.func28 (by rw [Try.ntmps28]; exact Nat.le_of_ble_eq_true rfl) (cast (eqV.affluxlaw08_with px0 lx0 cx0 sx1 ix2 bx3 w R).symm h)
/-! #### (*afflux/tree.page[int]).put -/
def lv_tree_page_int_put : Nat → List Nat := fun _ => []
def V.tree_page_int_put (px0 : Option Addr) (sx1 : ByteArray) (ix2 : Int) (w : World) (R : Ending → World → Prop) : Prop :=
 ∃ a15, px0 = some a15 ∧
 Calls prog f_tree_shelf_int_find #[.pointer (some a15), .string sx1] w fun e w_1 => ∃ i18 b18, e = .returned (.tuple #[.int .i64 i18, .bool b18]) ∧
 Br b18 (
  Dr w_1 fun w_2 =>
  ∃ a24, px0 = some a24 ∧
  ∃ a30, px0 = some a30 ∧
  ∃ p27 l27 c27, w_2.cell? a24 = some (.slice p27 l27 c27) ∧
  ∃ p33 l33 c33, w_2.cell? a30 = some (.slice p33 l33 c33) ∧
  ∃ a35, p33 = some a35 ∧ (0 ≤ i18 ∧ i18 < (l33 : Int)) ∧
  ∃ i37, w_2.cell? ((a35.add (i18.toNat * 2)).add 1) = some (.int .i64 i37) ∧
  ∃ a39, p27 = some a39 ∧ (0 ≤ i18 ∧ i18 < (l27 : Int)) ∧
  St w_2 ((a39.add (i18.toNat * 2)).add 1) (.int .i64 ix2) fun w_3 =>
  R (.returned (.tuple #[.int .i64 i37, .bool true])) w_3
 ) (
  Calls prog f_tree_page_int_leaf #[.pointer px0] w_1 fun e_1 w_4 => ∃ b44, e_1 = .returned (.bool b44) ∧
  Br b44 (
   ∃ a46, px0 = some a46 ∧
   Calls prog f_tree_shelf_int_insert #[.pointer (some a46), .int .i64 i18, .agg #[.string sx1, .int .i64 ix2]] w_4 fun e_2 w_5 => e_2 = .returned (.tuple #[]) ∧
   R (.returned (.tuple #[.int .i64 0, .bool false])) w_5
  ) (
   ∃ a56, px0 = some a56 ∧
   ∃ p58 l58 c58, w_4.cell? (a56.add 1) = some (.slice p58 l58 c58) ∧
   ∃ a60, p58 = some a60 ∧ (0 ≤ i18 ∧ i18 < (l58 : Int)) ∧
   ∃ p61, w_4.cell? (a60.add (i18.toNat * 1)) = some (.pointer p61) ∧
   Calls prog f_tree_page_int_put #[.pointer p61, .string sx1, .int .i64 ix2] w_4 fun e_3 w_6 => ∃ i64 b64, e_3 = .returned (.tuple #[.int .i64 i64, .bool b64]) ∧
   ∃ a68, px0 = some a68 ∧
   ∃ p70 l70 c70, w_6.cell? (a68.add 1) = some (.slice p70 l70 c70) ∧
   ∃ a72, p70 = some a72 ∧ (0 ≤ i18 ∧ i18 < (l70 : Int)) ∧
   ∃ p73, w_6.cell? (a72.add (i18.toNat * 1)) = some (.pointer p73) ∧
   ∃ a74, p73 = some a74 ∧
   ∃ p77 l77 c77, w_6.cell? a74 = some (.slice p77 l77 c77) ∧
   Br (decide ((l77 : Int) > (5 : Int))) (
    Calls prog f_tree_page_int_split #[.pointer px0, .int .i64 i18] w_6 fun e_4 w_7 => e_4 = .returned (.tuple #[]) ∧
    R (.returned (.tuple #[.int .i64 i64, .bool b64])) w_7
   ) (
    R (.returned (.tuple #[.int .i64 i64, .bool b64])) w_6
   )
  )
 )
theorem eqV.tree_page_int_put (px0 : Option Addr) (sx1 : ByteArray) (ix2 : Int) (w : World) (R : Ending → World → Prop) : vcFn prog Try.f29 lv_tree_page_int_put [.pointer px0, .string sx1, .int .i64 ix2] w R = V.tree_page_int_put px0 sx1 ix2 w R := by kernel_rfl
theorem ok.tree_page_int_put {px0 : Option Addr} {sx1 : ByteArray} {ix2 : Int} {w : World} {R : Ending → World → Prop} (h : V.tree_page_int_put px0 sx1 ix2 w R) : Calls prog f_tree_page_int_put #[.pointer px0, .string sx1, .int .i64 ix2] w R := calls_of mix lv_tree_page_int_put Try.func29 (by rw [Try.ntmps29]; exact Nat.le_of_ble_eq_true rfl) (cast (eqV.tree_page_int_put px0 sx1 ix2 w R).symm h)
/-! #### (*afflux/tree.page[int]).split -/
def lv_tree_page_int_split : Nat → List Nat := fun _ => []
def V.tree_page_int_split (px0 : Option Addr) (ix1 : Int) (w : World) (R : Ending → World → Prop) : Prop :=
 ∃ a8, px0 = some a8 ∧
 ∃ p10 l10 c10, w.cell? (a8.add 1) = some (.slice p10 l10 c10) ∧
 ∃ a12, p10 = some a12 ∧ (0 ≤ ix1 ∧ ix1 < (l10 : Int)) ∧
 ∃ p13, w.cell? (a12.add (ix1.toNat * 1)) = some (.pointer p13) ∧
 ∃ a15, p13 = some a15 ∧
 ∃ p18 l18 c18, w.cell? a15 = some (.slice p18 l18 c18) ∧
 SlB l18 c18 (some (IntKind.wrap .i64 ((2 : Int) + (1 : Int)))) none none fun lo21 hi21 mx21 =>
 Calls prog f_slices_Clone_tree_entry_int #[.slice (slAt p18 lo21 mx21 2) (hi21 - lo21) (mx21 - lo21)] w fun e w_1 => ∃ p22 l22 c22, e = .returned (.slice p22 l22 c22) ∧
 Al w_1 (.cells #[.slice p22 l22 c22, .slice none 0 0] 66) fun a25 w_2 =>
 Jn (α := World → Prop) (fun J =>
  Calls prog f_tree_page_int_leaf #[.pointer p13] w_2 fun e_1 w_4 => ∃ b27, e_1 = .returned (.bool b27) ∧
  Br (!b27) (
   ∃ a31, p13 = some a31 ∧
   ∃ p33 l33 c33, w_4.cell? (a31.add 1) = some (.slice p33 l33 c33) ∧
   SlB l33 c33 (some (IntKind.wrap .i64 ((2 : Int) + (1 : Int)))) none none fun lo36 hi36 mx36 =>
   Calls prog f_slices_Clone_ptr_tree_page_int #[.slice (slAt p33 lo36 mx36 1) (hi36 - lo36) (mx36 - lo36)] w_4 fun e_2 w_5 => ∃ p37 l37 c37, e_2 = .returned (.slice p37 l37 c37) ∧
   ∃ a38, (some a25) = some a38 ∧
   St w_5 (a38.add 1) (.slice p37 l37 c37) fun w_6 =>
   ∃ a42, p13 = some a42 ∧
   ∃ p44 l44 c44, w_6.cell? (a42.add 1) = some (.slice p44 l44 c44) ∧
   SlB l44 c44 none (some (IntKind.wrap .i64 ((2 : Int) + (1 : Int)))) (some (IntKind.wrap .i64 ((2 : Int) + (1 : Int)))) fun lo49 hi49 mx49 =>
   ∃ a50, p13 = some a50 ∧
   St w_6 (a50.add 1) (.slice (slAt p44 lo49 mx49 1) (hi49 - lo49) (mx49 - lo49)) fun w_7 =>
   J w_7
  ) (
   J w_4
  )
 ) (fun w_3 =>
  Dr w_3 fun w_8 =>
  ∃ a53, px0 = some a53 ∧
  ∃ a57, p13 = some a57 ∧
  ∃ p60 l60 c60, w_8.cell? a57 = some (.slice p60 l60 c60) ∧
  ∃ a62, p60 = some a62 ∧ (0 ≤ (2 : Int) ∧ (2 : Int) < (l60 : Int)) ∧
  ∃ s63, w_8.cell? (a62.add ((2 : Int).toNat * 2)) = some (.string s63) ∧
  ∃ i63, w_8.cell? ((a62.add ((2 : Int).toNat * 2)).add 1) = some (.int .i64 i63) ∧
  Calls prog f_tree_shelf_int_insert #[.pointer (some a53), .int .i64 ix1, .agg #[.string s63, .int .i64 i63]] w_8 fun e_3 w_9 => e_3 = .returned (.tuple #[]) ∧
  ∃ a67, px0 = some a67 ∧
  ∃ p69 l69 c69, w_9.cell? (a67.add 1) = some (.slice p69 l69 c69) ∧
  Al w_9 (.cells #[.pointer (some a25)] 60) fun a73 w_10 =>
  Calls prog f_slices_Insert_ptr_tree_page_int #[.slice p69 l69 c69, .int .i64 (IntKind.wrap .i64 (ix1 + (1 : Int))), .slice (some a73) 1 1] w_10 fun e_4 w_11 => ∃ p74 l74 c74, e_4 = .returned (.slice p74 l74 c74) ∧
  ∃ a75, px0 = some a75 ∧
  St w_11 (a75.add 1) (.slice p74 l74 c74) fun w_12 =>
  ∃ a79, p13 = some a79 ∧
  ∃ p82 l82 c82, w_12.cell? a79 = some (.slice p82 l82 c82) ∧
  SlB l82 c82 none (some 2) (some 2) fun lo85 hi85 mx85 =>
  ∃ a86, p13 = some a86 ∧
  St w_12 a86 (.slice (slAt p82 lo85 mx85 2) (hi85 - lo85) (mx85 - lo85)) fun w_13 =>
  R (.returned (.tuple #[])) w_13
 )
theorem eqV.tree_page_int_split (px0 : Option Addr) (ix1 : Int) (w : World) (R : Ending → World → Prop) : vcFn prog Try.f30 lv_tree_page_int_split [.pointer px0, .int .i64 ix1] w R = V.tree_page_int_split px0 ix1 w R := by kernel_rfl
theorem ok.tree_page_int_split {px0 : Option Addr} {ix1 : Int} {w : World} {R : Ending → World → Prop} (h : V.tree_page_int_split px0 ix1 w R) : Calls prog f_tree_page_int_split #[.pointer px0, .int .i64 ix1] w R := calls_of mix lv_tree_page_int_split Try.func30 (by rw [Try.ntmps30]; exact Nat.le_of_ble_eq_true rfl) (cast (eqV.tree_page_int_split px0 ix1 w R).symm h)
/-! #### (*afflux/tree.page[int]).drop -/
def lv_tree_page_int_drop : Nat → List Nat := fun _ => []
def V.tree_page_int_drop (px0 : Option Addr) (sx1 : ByteArray) (w : World) (R : Ending → World → Prop) : Prop :=
 ∃ a11, px0 = some a11 ∧
 Calls prog f_tree_shelf_int_find #[.pointer (some a11), .string sx1] w fun e w_1 => ∃ i14 b14, e = .returned (.tuple #[.int .i64 i14, .bool b14]) ∧
 Jn (α := Bool → World → Prop) (fun J =>
  Calls prog f_tree_page_int_leaf #[.pointer px0] w_1 fun e_1 w_3 => ∃ b31, e_1 = .returned (.bool b31) ∧
  Br b31 (
   J (!b14) w_3
  ) (
   J false w_3
  )
 ) (fun b29 w_2 =>
  Br b29 (
   R (.returned (.tuple #[.int .i64 0, .bool false])) w_2
  ) (
   Calls prog f_tree_page_int_leaf #[.pointer px0] w_2 fun e_2 w_4 => ∃ b39, e_2 = .returned (.bool b39) ∧
   Br b39 (
    ∃ a41, px0 = some a41 ∧
    Calls prog f_tree_shelf_int_remove #[.pointer (some a41), .int .i64 i14] w_4 fun e_3 w_5 => ∃ s44 i44, e_3 = .returned (.agg #[.string s44, .int .i64 i44]) ∧
    R (.returned (.tuple #[.int .i64 i44, .bool true])) w_5
   ) (
    Br b14 (
     ∃ a49, px0 = some a49 ∧
     ∃ p52 l52 c52, w_4.cell? a49 = some (.slice p52 l52 c52) ∧
     ∃ a54, p52 = some a54 ∧ (0 ≤ i14 ∧ i14 < (l52 : Int)) ∧
     ∃ i56, w_4.cell? ((a54.add (i14.toNat * 2)).add 1) = some (.int .i64 i56) ∧
     Dr w_4 fun w_6 =>
     ∃ a58, px0 = some a58 ∧
     ∃ a64, px0 = some a64 ∧
     ∃ p66 l66 c66, w_6.cell? (a64.add 1) = some (.slice p66 l66 c66) ∧
     ∃ a68, p66 = some a68 ∧ (0 ≤ i14 ∧ i14 < (l66 : Int)) ∧
     ∃ p69, w_6.cell? (a68.add (i14.toNat * 1)) = some (.pointer p69) ∧
     (
      ∃ p61 l61 c61, w_6.cell? a58 = some (.slice p61 l61 c61) ∧
      Calls prog f_tree_page_int_last #[.pointer p69] w_6 fun e_4 w_7 => ∃ s70 i70, e_4 = .returned (.agg #[.string s70, .int .i64 i70]) ∧
      ∃ a71, p61 = some a71 ∧ (0 ≤ i14 ∧ i14 < (l61 : Int)) ∧
      St w_7 (a71.add (i14.toNat * 2)) (.string s70) fun w_8 =>
      St w_8 ((a71.add (i14.toNat * 2)).add 1) (.int .i64 i70) fun w_9 =>
      Calls prog f_tree_page_int_mend #[.pointer px0, .int .i64 i14] w_9 fun e_5 w_10 => e_5 = .returned (.tuple #[]) ∧
      R (.returned (.tuple #[.int .i64 i56, .bool b14])) w_10
     ) ∧
     (
      Calls prog f_tree_page_int_last #[.pointer p69] w_6 fun e_6 w_11 => ∃ s70_1 i70_1, e_6 = .returned (.agg #[.string s70_1, .int .i64 i70_1]) ∧
      ∃ p61_1 l61_1 c61_1, w_11.cell? a58 = some (.slice p61_1 l61_1 c61_1) ∧
      ∃ a71_1, p61_1 = some a71_1 ∧ (0 ≤ i14 ∧ i14 < (l61_1 : Int)) ∧
      St w_11 (a71_1.add (i14.toNat * 2)) (.string s70_1) fun w_12 =>
      St w_12 ((a71_1.add (i14.toNat * 2)).add 1) (.int .i64 i70_1) fun w_13 =>
      Calls prog f_tree_page_int_mend #[.pointer px0, .int .i64 i14] w_13 fun e_7 w_14 => e_7 = .returned (.tuple #[]) ∧
      R (.returned (.tuple #[.int .i64 i56, .bool b14])) w_14
     )
    ) (
     ∃ a19, px0 = some a19 ∧
     ∃ p21 l21 c21, w_4.cell? (a19.add 1) = some (.slice p21 l21 c21) ∧
     ∃ a23, p21 = some a23 ∧ (0 ≤ i14 ∧ i14 < (l21 : Int)) ∧
     ∃ p24, w_4.cell? (a23.add (i14.toNat * 1)) = some (.pointer p24) ∧
     Calls prog f_tree_page_int_drop #[.pointer p24, .string sx1] w_4 fun e_8 w_15 => ∃ i26 b26, e_8 = .returned (.tuple #[.int .i64 i26, .bool b26]) ∧
     Calls prog f_tree_page_int_mend #[.pointer px0, .int .i64 i14] w_15 fun e_9 w_16 => e_9 = .returned (.tuple #[]) ∧
     R (.returned (.tuple #[.int .i64 i26, .bool b26])) w_16
    )
   )
  )
 )
theorem eqV.tree_page_int_drop (px0 : Option Addr) (sx1 : ByteArray) (w : World) (R : Ending → World → Prop) : vcFn prog Try.f34 lv_tree_page_int_drop [.pointer px0, .string sx1] w R = V.tree_page_int_drop px0 sx1 w R := by kernel_rfl
theorem ok.tree_page_int_drop {px0 : Option Addr} {sx1 : ByteArray} {w : World} {R : Ending → World → Prop} (h : V.tree_page_int_drop px0 sx1 w R) : Calls prog f_tree_page_int_drop #[.pointer px0, .string sx1] w R := calls_of mix lv_tree_page_int_drop Try.func34 (by rw [Try.ntmps34]; exact Nat.le_of_ble_eq_true rfl) (cast (eqV.tree_page_int_drop px0 sx1 w R).symm h)
/-! #### (*afflux/tree.page[int]).leaf -/
def lv_tree_page_int_leaf : Nat → List Nat := fun _ => []
def V.tree_page_int_leaf (px0 : Option Addr) (w : World) (R : Ending → World → Prop) : Prop :=
 ∃ a4, px0 = some a4 ∧
 ∃ p6 l6 c6, w.cell? (a4.add 1) = some (.slice p6 l6 c6) ∧
 R (.returned (.bool ((l6 : Int) == (0 : Int)))) w
theorem eqV.tree_page_int_leaf (px0 : Option Addr) (w : World) (R : Ending → World → Prop) : vcFn prog Try.f35 lv_tree_page_int_leaf [.pointer px0] w R = V.tree_page_int_leaf px0 w R := by kernel_rfl
theorem ok.tree_page_int_leaf {px0 : Option Addr} {w : World} {R : Ending → World → Prop} (h : V.tree_page_int_leaf px0 w R) : Calls prog f_tree_page_int_leaf #[.pointer px0] w R := calls_of mix lv_tree_page_int_leaf Try.func35 (by rw [Try.ntmps35]; exact Nat.le_of_ble_eq_true rfl) (cast (eqV.tree_page_int_leaf px0 w R).symm h)
/-! #### (*afflux/tree.Tree[int]).Get -/
def lv_tree_Tree_int_Get : Nat → List Nat := fun k => match k with | 5 => [1, 6, 7] | _ => []
def L.tree_Tree_int_Get_L0 (s1 : ByteArray) (i6 : Int) (p7 : Option Addr) (w : World) (R : Ending → World → Prop) : Prop :=
 LoopAt prog Try.f39 lv_tree_Tree_int_Get [1, 1, 1, 1, 0] R [(1, .string s1), (6, .int .i64 i6), (7, .pointer p7)] w
def B.tree_Tree_int_Get_L0 (s1 : ByteArray) (i6 : Int) (p7 : Option Addr) (w : World) (R : Ending → World → Prop) : Prop :=
 ∃ a19, p7 = some a19 ∧
 Calls prog f_tree_shelf_int_find #[.pointer (some a19), .string s1] w fun e w_1 => ∃ i22 b22, e = .returned (.tuple #[.int .i64 i22, .bool b22]) ∧
 Br b22 (
  ∃ a27, p7 = some a27 ∧
  ∃ p30 l30 c30, w_1.cell? a27 = some (.slice p30 l30 c30) ∧
  ∃ a32, p30 = some a32 ∧ (0 ≤ i22 ∧ i22 < (l30 : Int)) ∧
  ∃ i34, w_1.cell? ((a32.add (i22.toNat * 2)).add 1) = some (.int .i64 i34) ∧
  R (.returned (.tuple #[.int .i64 i34, .bool true])) w_1
 ) (
  Calls prog f_tree_page_int_leaf #[.pointer p7] w_1 fun e_1 w_2 => ∃ b36, e_1 = .returned (.bool b36) ∧
  Br b36 (
   R (.returned (.tuple #[.int .i64 i6, .bool false])) w_2
  ) (
   ∃ a39, p7 = some a39 ∧
   ∃ p41 l41 c41, w_2.cell? (a39.add 1) = some (.slice p41 l41 c41) ∧
   ∃ a43, p41 = some a43 ∧ (0 ≤ i22 ∧ i22 < (l41 : Int)) ∧
   ∃ p44, w_2.cell? (a43.add (i22.toNat * 1)) = some (.pointer p44) ∧
   L.tree_Tree_int_Get_L0 s1 i6 p44 w_2 R
  )
 )
def V.tree_Tree_int_Get (px0 : Option Addr) (sx1 : ByteArray) (w : World) (R : Ending → World → Prop) : Prop :=
 Br (px0.isNone) (
  R (.returned (.tuple #[.int .i64 0, .bool false])) w
 ) (
  ∃ a14, px0 = some a14 ∧
  ∃ p16, w.cell? a14 = some (.pointer p16) ∧
  L.tree_Tree_int_Get_L0 sx1 0 p16 w R
 )
theorem eqB.tree_Tree_int_Get_L0 (s1 : ByteArray) (i6 : Int) (p7 : Option Addr) (w : World) (R : Ending → World → Prop) : RoundAt prog Try.f39 lv_tree_Tree_int_Get [1, 1, 1, 1, 0] R [(1, .string s1), (6, .int .i64 i6), (7, .pointer p7)] w = B.tree_Tree_int_Get_L0 s1 i6 p7 w R := by kernel_rfl
theorem round.tree_Tree_int_Get_L0 {s1 : ByteArray} {i6 : Int} {p7 : Option Addr} {w : World} {R : Ending → World → Prop} (h : B.tree_Tree_int_Get_L0 s1 i6 p7 w R) : L.tree_Tree_int_Get_L0 s1 i6 p7 w R := LoopAt.unfold mix (cast (eqB.tree_Tree_int_Get_L0 s1 i6 p7 w R).symm h)
theorem eqV.tree_Tree_int_Get (px0 : Option Addr) (sx1 : ByteArray) (w : World) (R : Ending → World → Prop) : vcFn prog Try.f39 lv_tree_Tree_int_Get [.pointer px0, .string sx1] w R = V.tree_Tree_int_Get px0 sx1 w R := by kernel_rfl
theorem ok.tree_Tree_int_Get {px0 : Option Addr} {sx1 : ByteArray} {w : World} {R : Ending → World → Prop} (h : V.tree_Tree_int_Get px0 sx1 w R) : Calls prog f_tree_Tree_int_Get #[.pointer px0, .string sx1] w R := calls_of mix lv_tree_Tree_int_Get Try.func39 (by rw [Try.ntmps39]; exact Nat.le_of_ble_eq_true rfl) (cast (eqV.tree_Tree_int_Get px0 sx1 w R).symm h)
/-! #### (*afflux/tree.Tree[int]).Ahead -/
def lv_tree_Tree_int_Ahead : Nat → List Nat := fun k => match k with | 4 => [1, 2, 9, 10] | _ => []
def L.tree_Tree_int_Ahead_L0 (s1 : ByteArray) (b2 : Bool) (p9 : Option Addr) (p10 : Option Addr) (w : World) (R : Ending → World → Prop) : Prop :=
 LoopAt prog Try.f40 lv_tree_Tree_int_Ahead [1, 1, 0, 1, 0, 1, 0] R [(1, .string s1), (2, .bool b2), (9, .pointer p9), (10, .pointer p10)] w
def B.tree_Tree_int_Ahead_L0 (s1 : ByteArray) (b2 : Bool) (p9 : Option Addr) (p10 : Option Addr) (w : World) (R : Ending → World → Prop) : Prop :=
 Br (!p10.isNone) (
  ∃ a23, p10 = some a23 ∧
  Calls prog f_tree_shelf_int_find #[.pointer (some a23), .string s1] w fun e w_1 => ∃ i26 b26, e = .returned (.tuple #[.int .i64 i26, .bool b26]) ∧
  Jn (α := Prop) (fun J =>
   Jn (α := Bool → Prop) (fun J_1 =>
    Br b26 (
     J_1 b2
    ) (
     J_1 false
    )
   ) (fun b32 =>
    Br b32 (
     ∃ a34, p10 = some a34 ∧
     ∃ p37 l37 c37, w_1.cell? a34 = some (.slice p37 l37 c37) ∧
     ∃ a39, p37 = some a39 ∧ (0 ≤ i26 ∧ i26 < (l37 : Int)) ∧
     Calls prog f_tree_told_int #[.pointer (some (a39.add (i26.toNat * 2)))] w_1 fun e_1 w_2 => ∃ s40 i40 b40, e_1 = .returned (.tuple #[.string s40, .int .i64 i40, .bool b40]) ∧
     R (.returned (.tuple #[.string s40, .int .i64 i40, .bool b40])) w_2
    ) (
     J
    )
   )
  ) (
   Br (decide (i26 > (0 : Int))) (
    ∃ a47, p10 = some a47 ∧
    ∃ p50 l50 c50, w_1.cell? a47 = some (.slice p50 l50 c50) ∧
    ∃ a53, p50 = some a53 ∧ (0 ≤ (IntKind.wrap .i64 (i26 - (1 : Int))) ∧ (IntKind.wrap .i64 (i26 - (1 : Int))) < (l50 : Int)) ∧
    Calls prog f_tree_page_int_child #[.pointer p10, .int .i64 i26] w_1 fun e_2 w_3 => ∃ p56, e_2 = .returned (.pointer p56) ∧
    L.tree_Tree_int_Ahead_L0 s1 b2 (some (a53.add ((IntKind.wrap .i64 (i26 - (1 : Int))).toNat * 2))) p56 w_3 R
   ) (
    Calls prog f_tree_page_int_child #[.pointer p10, .int .i64 i26] w_1 fun e_3 w_4 => ∃ p56_1, e_3 = .returned (.pointer p56_1) ∧
    L.tree_Tree_int_Ahead_L0 s1 b2 p9 p56_1 w_4 R
   )
  )
 ) (
  Calls prog f_tree_told_int #[.pointer p9] w fun e_4 w_5 => ∃ s58 i58 b58, e_4 = .returned (.tuple #[.string s58, .int .i64 i58, .bool b58]) ∧
  R (.returned (.tuple #[.string s58, .int .i64 i58, .bool b58])) w_5
 )
def V.tree_Tree_int_Ahead (px0 : Option Addr) (sx1 : ByteArray) (bx2 : Bool) (w : World) (R : Ending → World → Prop) : Prop :=
 Br (!px0.isNone) (
  ∃ a16, px0 = some a16 ∧
  ∃ p18, w.cell? a16 = some (.pointer p18) ∧
  L.tree_Tree_int_Ahead_L0 sx1 bx2 none p18 w R
 ) (
  Calls prog f_tree_told_int #[.pointer none] w fun e w_1 => ∃ s58 i58 b58, e = .returned (.tuple #[.string s58, .int .i64 i58, .bool b58]) ∧
  R (.returned (.tuple #[.string s58, .int .i64 i58, .bool b58])) w_1
 )
theorem eqB.tree_Tree_int_Ahead_L0 (s1 : ByteArray) (b2 : Bool) (p9 : Option Addr) (p10 : Option Addr) (w : World) (R : Ending → World → Prop) : RoundAt prog Try.f40 lv_tree_Tree_int_Ahead [1, 1, 0, 1, 0, 1, 0] R [(1, .string s1), (2, .bool b2), (9, .pointer p9), (10, .pointer p10)] w = B.tree_Tree_int_Ahead_L0 s1 b2 p9 p10 w R := by kernel_rfl
theorem round.tree_Tree_int_Ahead_L0 {s1 : ByteArray} {b2 : Bool} {p9 : Option Addr} {p10 : Option Addr} {w : World} {R : Ending → World → Prop} (h : B.tree_Tree_int_Ahead_L0 s1 b2 p9 p10 w R) : L.tree_Tree_int_Ahead_L0 s1 b2 p9 p10 w R := LoopAt.unfold mix (cast (eqB.tree_Tree_int_Ahead_L0 s1 b2 p9 p10 w R).symm h)
theorem eqV.tree_Tree_int_Ahead (px0 : Option Addr) (sx1 : ByteArray) (bx2 : Bool) (w : World) (R : Ending → World → Prop) : vcFn prog Try.f40 lv_tree_Tree_int_Ahead [.pointer px0, .string sx1, .bool bx2] w R = V.tree_Tree_int_Ahead px0 sx1 bx2 w R := by kernel_rfl
theorem ok.tree_Tree_int_Ahead {px0 : Option Addr} {sx1 : ByteArray} {bx2 : Bool} {w : World} {R : Ending → World → Prop} (h : V.tree_Tree_int_Ahead px0 sx1 bx2 w R) : Calls prog f_tree_Tree_int_Ahead #[.pointer px0, .string sx1, .bool bx2] w R := calls_of mix lv_tree_Tree_int_Ahead Try.func40 (by rw [Try.ntmps40]; exact Nat.le_of_ble_eq_true rfl) (cast (eqV.tree_Tree_int_Ahead px0 sx1 bx2 w R).symm h)
/-! #### (*afflux/tree.Tree[int]).Last -/
def lv_tree_Tree_int_Last : Nat → List Nat := fun k => match k with | 4 => [5, 6] | _ => []
def L.tree_Tree_int_Last_L0 (p5 : Option Addr) (p6 : Option Addr) (w : World) (R : Ending → World → Prop) : Prop :=
 LoopAt prog Try.f41 lv_tree_Tree_int_Last [1, 1, 0, 1, 0, 1, 0] R [(5, .pointer p5), (6, .pointer p6)] w
def B.tree_Tree_int_Last_L0 (p5 : Option Addr) (p6 : Option Addr) (w : World) (R : Ending → World → Prop) : Prop :=
 Br (!p6.isNone) (
  Jn (α := Option Addr → World → Prop) (fun J =>
   ∃ a24, p6 = some a24 ∧
   ∃ p27 l27 c27, w.cell? a24 = some (.slice p27 l27 c27) ∧
   Br (decide ((l27 : Int) > (0 : Int))) (
    Dr w fun w_2 =>
    ∃ a31, p6 = some a31 ∧
    ∃ a36, p6 = some a36 ∧
    ∃ p34 l34 c34, w_2.cell? a31 = some (.slice p34 l34 c34) ∧
    ∃ p39 l39 c39, w_2.cell? a36 = some (.slice p39 l39 c39) ∧
    ∃ a42, p34 = some a42 ∧ (0 ≤ (IntKind.wrap .i64 ((l39 : Int) - (1 : Int))) ∧ (IntKind.wrap .i64 ((l39 : Int) - (1 : Int))) < (l34 : Int)) ∧
    J (some (a42.add ((IntKind.wrap .i64 ((l39 : Int) - (1 : Int))).toNat * 2))) w_2
   ) (
    J p5 w
   )
  ) (fun p5_1 w_1 =>
   ∃ a17, p6 = some a17 ∧
   ∃ p20 l20 c20, w_1.cell? a17 = some (.slice p20 l20 c20) ∧
   Calls prog f_tree_page_int_child #[.pointer p6, .int .i64 (l20 : Int)] w_1 fun e w_3 => ∃ p22, e = .returned (.pointer p22) ∧
   L.tree_Tree_int_Last_L0 p5_1 p22 w_3 R
  )
 ) (
  Calls prog f_tree_told_int #[.pointer p5] w fun e_1 w_4 => ∃ s44 i44 b44, e_1 = .returned (.tuple #[.string s44, .int .i64 i44, .bool b44]) ∧
  R (.returned (.tuple #[.string s44, .int .i64 i44, .bool b44])) w_4
 )
def V.tree_Tree_int_Last (px0 : Option Addr) (w : World) (R : Ending → World → Prop) : Prop :=
 Br (!px0.isNone) (
  ∃ a10, px0 = some a10 ∧
  ∃ p12, w.cell? a10 = some (.pointer p12) ∧
  L.tree_Tree_int_Last_L0 none p12 w R
 ) (
  Calls prog f_tree_told_int #[.pointer none] w fun e w_1 => ∃ s44 i44 b44, e = .returned (.tuple #[.string s44, .int .i64 i44, .bool b44]) ∧
  R (.returned (.tuple #[.string s44, .int .i64 i44, .bool b44])) w_1
 )
theorem eqB.tree_Tree_int_Last_L0 (p5 : Option Addr) (p6 : Option Addr) (w : World) (R : Ending → World → Prop) : RoundAt prog Try.f41 lv_tree_Tree_int_Last [1, 1, 0, 1, 0, 1, 0] R [(5, .pointer p5), (6, .pointer p6)] w = B.tree_Tree_int_Last_L0 p5 p6 w R := by kernel_rfl
theorem round.tree_Tree_int_Last_L0 {p5 : Option Addr} {p6 : Option Addr} {w : World} {R : Ending → World → Prop} (h : B.tree_Tree_int_Last_L0 p5 p6 w R) : L.tree_Tree_int_Last_L0 p5 p6 w R := LoopAt.unfold mix (cast (eqB.tree_Tree_int_Last_L0 p5 p6 w R).symm h)
theorem eqV.tree_Tree_int_Last (px0 : Option Addr) (w : World) (R : Ending → World → Prop) : vcFn prog Try.f41 lv_tree_Tree_int_Last [.pointer px0] w R = V.tree_Tree_int_Last px0 w R := by kernel_rfl
theorem ok.tree_Tree_int_Last {px0 : Option Addr} {w : World} {R : Ending → World → Prop} (h : V.tree_Tree_int_Last px0 w R) : Calls prog f_tree_Tree_int_Last #[.pointer px0] w R := calls_of mix lv_tree_Tree_int_Last Try.func41 (by rw [Try.ntmps41]; exact Nat.le_of_ble_eq_true rfl) (cast (eqV.tree_Tree_int_Last px0 w R).symm h)
/-! #### afflux/affluxlaw08.told -/
def lv_affluxlaw08_told : Nat → List Nat := fun _ => []
def V.affluxlaw08_told (px0 : Option Addr) (lx0 : Nat) (cx0 : Nat) (ix1 : Int) (sx2 : ByteArray) (ix3 : Int) (bx4 : Bool) (w : World) (R : Ending → World → Prop) : Prop :=
 Jn (α := Prop) (fun J =>
  Jn (α := Bool → Prop) (fun J_1 =>
   Br (decide (ix1 < (0 : Int))) (
    J_1 true
   ) (
    J_1 (decide (ix1 ≥ (lx0 : Int)))
   )
  ) (fun b18 =>
   Br b18 (
    Br (sEq sx2 (str [])) (
     Br (ix3 == (0 : Int)) (
      R (.returned (.bool (!bx4))) w
     ) (
      R (.returned (.bool false)) w
     )
    ) (
     Br false (
      R (.returned (.bool (!bx4))) w
     ) (
      R (.returned (.bool false)) w
     )
    )
   ) (
    J
   )
  )
 ) (
  ∃ a32, px0 = some a32 ∧ (0 ≤ ix1 ∧ ix1 < (lx0 : Int)) ∧
  ∃ s34, w.cell? (a32.add (ix1.toNat * 2)) = some (.string s34) ∧
  Br (sEq sx2 s34) (
   ∃ a40, px0 = some a40 ∧ (0 ≤ ix1 ∧ ix1 < (lx0 : Int)) ∧
   ∃ i42, w.cell? ((a40.add (ix1.toNat * 2)).add 1) = some (.int .i64 i42) ∧
   Br (ix3 == i42) (
    R (.returned (.bool bx4)) w
   ) (
    R (.returned (.bool false)) w
   )
  ) (
   Br false (
    R (.returned (.bool bx4)) w
   ) (
    R (.returned (.bool false)) w
   )
  )
 )
theorem eqV.affluxlaw08_told (px0 : Option Addr) (lx0 : Nat) (cx0 : Nat) (ix1 : Int) (sx2 : ByteArray) (ix3 : Int) (bx4 : Bool) (w : World) (R : Ending → World → Prop) : vcFn prog Try.f42 lv_affluxlaw08_told [.slice px0 lx0 cx0, .int .i64 ix1, .string sx2, .int .i64 ix3, .bool bx4] w R = V.affluxlaw08_told px0 lx0 cx0 ix1 sx2 ix3 bx4 w R := by kernel_rfl
theorem ok.affluxlaw08_told {px0 : Option Addr} {lx0 : Nat} {cx0 : Nat} {ix1 : Int} {sx2 : ByteArray} {ix3 : Int} {bx4 : Bool} {w : World} {R : Ending → World → Prop} (h : V.affluxlaw08_told px0 lx0 cx0 ix1 sx2 ix3 bx4 w R) : Calls prog f_affluxlaw08_told #[.slice px0 lx0 cx0, .int .i64 ix1, .string sx2, .int .i64 ix3, .bool bx4] w R := calls_of mix lv_affluxlaw08_told Try.func42 (by rw [Try.ntmps42]; exact Nat.le_of_ble_eq_true rfl) (cast (eqV.affluxlaw08_told px0 lx0 cx0 ix1 sx2 ix3 bx4 w R).symm h)
/-! #### (*afflux/tree.page[int]).pages -/
def lv_tree_page_int_pages : Nat → List Nat := fun k => match k with | 3 => [0, 1, 5, 14, 15, 16] | 9 => [1, 33, 34, 35] | _ => []
def L.tree_page_int_pages_L0 (p0 : Option Addr) (p1 : Option Addr) (l1 : Nat) (c1 : Nat) (p5 : Option Addr) (l5 : Nat) (c5 : Nat) (p14 : Option Addr) (l14 : Nat) (c14 : Nat) (i15 : Int) (i16 : Int) (w : World) (R : Ending → World → Prop) : Prop :=
 LoopAt prog Try.f43 lv_tree_page_int_pages [1, 1, 0, 1, 0] R [(0, .pointer p0), (1, .slice p1 l1 c1), (5, .slice p5 l5 c5), (14, .slice p14 l14 c14), (15, .int .i64 i15), (16, .int .i64 i16)] w
def L.tree_page_int_pages_L1 (p1 : Option Addr) (l1 : Nat) (c1 : Nat) (p33 : Option Addr) (l33 : Nat) (c33 : Nat) (i34 : Int) (i35 : Int) (w : World) (R : Ending → World → Prop) : Prop :=
 LoopAt prog Try.f43 lv_tree_page_int_pages [1, 1, 1, 1, 0, 1, 0] R [(1, .slice p1 l1 c1), (33, .slice p33 l33 c33), (34, .int .i64 i34), (35, .int .i64 i35)] w
def B.tree_page_int_pages_L0 (p0 : Option Addr) (p1 : Option Addr) (l1 : Nat) (c1 : Nat) (p5 : Option Addr) (l5 : Nat) (c5 : Nat) (p14 : Option Addr) (l14 : Nat) (c14 : Nat) (i15 : Int) (i16 : Int) (w : World) (R : Ending → World → Prop) : Prop :=
 Br (decide (i16 < i15)) (
  ∃ a18, p14 = some a18 ∧ (0 ≤ i16 ∧ i16 < (l14 : Int)) ∧
  ∃ s19, w.cell? (a18.add (i16.toNat * 2)) = some (.string s19) ∧
  ∃ i19, w.cell? ((a18.add (i16.toNat * 2)).add 1) = some (.int .i64 i19) ∧
  Al w (.cells #[.string (str []), .int .i64 0] 87) fun a7 w_1 =>
  St w_1 a7 (.string s19) fun w_2 =>
  St w_2 (a7.add 1) (.int .i64 i19) fun w_3 =>
  ∃ s22, w_3.cell? a7 = some (.string s22) ∧
  Al w_3 (.cells #[.string s22] 9) fun a23 w_4 =>
  Run prog (Builtin.append_ #[29, 29] 29 #[.slice p5 l5 c5, .slice (some a23) 1 1]) w_4 fun v24 w_5 => ∃ p24 l24 c24, v24 = .slice p24 l24 c24 ∧
  L.tree_page_int_pages_L0 p0 p1 l1 c1 p24 l24 c24 p14 l14 c14 i15 (IntKind.wrap .i64 (i16 + (1 : Int))) w_5 R
 ) (
  Al w (.cells #[.slice p5 l5 c5] 29) fun a28 w_6 =>
  Run prog (Builtin.append_ #[47, 47] 47 #[.slice p1 l1 c1, .slice (some a28) 1 1]) w_6 fun v29 w_7 => ∃ p29 l29 c29, v29 = .slice p29 l29 c29 ∧
  ∃ a31, p0 = some a31 ∧
  ∃ p33 l33 c33, w_7.cell? (a31.add 1) = some (.slice p33 l33 c33) ∧
  L.tree_page_int_pages_L1 p29 l29 c29 p33 l33 c33 (l33 : Int) 0 w_7 R
 )
def B.tree_page_int_pages_L1 (p1 : Option Addr) (l1 : Nat) (c1 : Nat) (p33 : Option Addr) (l33 : Nat) (c33 : Nat) (i34 : Int) (i35 : Int) (w : World) (R : Ending → World → Prop) : Prop :=
 Br (decide (i35 < i34)) (
  ∃ a37, p33 = some a37 ∧ (0 ≤ i35 ∧ i35 < (l33 : Int)) ∧
  ∃ p38, w.cell? (a37.add (i35.toNat * 1)) = some (.pointer p38) ∧
  Calls prog f_tree_page_int_pages #[.pointer p38, .slice p1 l1 c1] w fun e w_1 => ∃ p41 l41 c41, e = .returned (.slice p41 l41 c41) ∧
  L.tree_page_int_pages_L1 p41 l41 c41 p33 l33 c33 i34 (IntKind.wrap .i64 (i35 + (1 : Int))) w_1 R
 ) (
  R (.returned (.slice p1 l1 c1)) w
 )
def V.tree_page_int_pages (px0 : Option Addr) (px1 : Option Addr) (lx1 : Nat) (cx1 : Nat) (w : World) (R : Ending → World → Prop) : Prop :=
 ∃ a11, px0 = some a11 ∧
 ∃ p14 l14 c14, w.cell? a11 = some (.slice p14 l14 c14) ∧
 L.tree_page_int_pages_L0 px0 px1 lx1 cx1 none 0 0 p14 l14 c14 (l14 : Int) 0 w R
theorem eqB.tree_page_int_pages_L0 (p0 : Option Addr) (p1 : Option Addr) (l1 : Nat) (c1 : Nat) (p5 : Option Addr) (l5 : Nat) (c5 : Nat) (p14 : Option Addr) (l14 : Nat) (c14 : Nat) (i15 : Int) (i16 : Int) (w : World) (R : Ending → World → Prop) : RoundAt prog Try.f43 lv_tree_page_int_pages [1, 1, 0, 1, 0] R [(0, .pointer p0), (1, .slice p1 l1 c1), (5, .slice p5 l5 c5), (14, .slice p14 l14 c14), (15, .int .i64 i15), (16, .int .i64 i16)] w = B.tree_page_int_pages_L0 p0 p1 l1 c1 p5 l5 c5 p14 l14 c14 i15 i16 w R := by kernel_rfl
theorem round.tree_page_int_pages_L0 {p0 : Option Addr} {p1 : Option Addr} {l1 : Nat} {c1 : Nat} {p5 : Option Addr} {l5 : Nat} {c5 : Nat} {p14 : Option Addr} {l14 : Nat} {c14 : Nat} {i15 : Int} {i16 : Int} {w : World} {R : Ending → World → Prop} (h : B.tree_page_int_pages_L0 p0 p1 l1 c1 p5 l5 c5 p14 l14 c14 i15 i16 w R) : L.tree_page_int_pages_L0 p0 p1 l1 c1 p5 l5 c5 p14 l14 c14 i15 i16 w R := LoopAt.unfold mix (cast (eqB.tree_page_int_pages_L0 p0 p1 l1 c1 p5 l5 c5 p14 l14 c14 i15 i16 w R).symm h)
theorem eqB.tree_page_int_pages_L1 (p1 : Option Addr) (l1 : Nat) (c1 : Nat) (p33 : Option Addr) (l33 : Nat) (c33 : Nat) (i34 : Int) (i35 : Int) (w : World) (R : Ending → World → Prop) : RoundAt prog Try.f43 lv_tree_page_int_pages [1, 1, 1, 1, 0, 1, 0] R [(1, .slice p1 l1 c1), (33, .slice p33 l33 c33), (34, .int .i64 i34), (35, .int .i64 i35)] w = B.tree_page_int_pages_L1 p1 l1 c1 p33 l33 c33 i34 i35 w R := by kernel_rfl
theorem round.tree_page_int_pages_L1 {p1 : Option Addr} {l1 : Nat} {c1 : Nat} {p33 : Option Addr} {l33 : Nat} {c33 : Nat} {i34 : Int} {i35 : Int} {w : World} {R : Ending → World → Prop} (h : B.tree_page_int_pages_L1 p1 l1 c1 p33 l33 c33 i34 i35 w R) : L.tree_page_int_pages_L1 p1 l1 c1 p33 l33 c33 i34 i35 w R := LoopAt.unfold mix (cast (eqB.tree_page_int_pages_L1 p1 l1 c1 p33 l33 c33 i34 i35 w R).symm h)
theorem eqV.tree_page_int_pages (px0 : Option Addr) (px1 : Option Addr) (lx1 : Nat) (cx1 : Nat) (w : World) (R : Ending → World → Prop) : vcFn prog Try.f43 lv_tree_page_int_pages [.pointer px0, .slice px1 lx1 cx1] w R = V.tree_page_int_pages px0 px1 lx1 cx1 w R := by kernel_rfl
theorem ok.tree_page_int_pages {px0 : Option Addr} {px1 : Option Addr} {lx1 : Nat} {cx1 : Nat} {w : World} {R : Ending → World → Prop} (h : V.tree_page_int_pages px0 px1 lx1 cx1 w R) : Calls prog f_tree_page_int_pages #[.pointer px0, .slice px1 lx1 cx1] w R := calls_of mix lv_tree_page_int_pages Try.func43 (by rw [Try.ntmps43]; exact Nat.le_of_ble_eq_true rfl) (cast (eqV.tree_page_int_pages px0 px1 lx1 cx1 w R).symm h)
/-! #### (*afflux/tree.shelf[int]).find -/
def lv_tree_shelf_int_find : Nat → List Nat := fun _ => []
def V.tree_shelf_int_find (px0 : Option Addr) (sx1 : ByteArray) (w : World) (R : Ending → World → Prop) : Prop :=
 ∃ a7, px0 = some a7 ∧
 ∃ p9 l9 c9, w.cell? a7 = some (.slice p9 l9 c9) ∧
 Calls prog f_slices_BinarySearchFunc_string #[.slice p9 l9 c9, .string sx1, .func (.func f_tree_shelf_int_find_fn1) #[] #[]] w fun e w_1 => ∃ i11 b11, e = .returned (.tuple #[.int .i64 i11, .bool b11]) ∧
 R (.returned (.tuple #[.int .i64 i11, .bool b11])) w_1
theorem eqV.tree_shelf_int_find (px0 : Option Addr) (sx1 : ByteArray) (w : World) (R : Ending → World → Prop) : vcFn prog Try.f44 lv_tree_shelf_int_find [.pointer px0, .string sx1] w R = V.tree_shelf_int_find px0 sx1 w R := by kernel_rfl
theorem ok.tree_shelf_int_find {px0 : Option Addr} {sx1 : ByteArray} {w : World} {R : Ending → World → Prop} (h : V.tree_shelf_int_find px0 sx1 w R) : Calls prog f_tree_shelf_int_find #[.pointer px0, .string sx1] w R := calls_of mix lv_tree_shelf_int_find Try.func44 (by rw [Try.ntmps44]; exact Nat.le_of_ble_eq_true rfl) (cast (eqV.tree_shelf_int_find px0 sx1 w R).symm h)
/-! #### afflux/tree.told[int] -/
def lv_tree_told_int : Nat → List Nat := fun _ => []
def V.tree_told_int (px0 : Option Addr) (w : World) (R : Ending → World → Prop) : Prop :=
 Br (px0.isNone) (
  R (.returned (.tuple #[.string (str []), .int .i64 0, .bool false])) w
 ) (
  Dr w fun w_1 =>
  ∃ a10, px0 = some a10 ∧
  ∃ a14, px0 = some a14 ∧
  ∃ s12, w_1.cell? a10 = some (.string s12) ∧
  ∃ i16, w_1.cell? (a14.add 1) = some (.int .i64 i16) ∧
  R (.returned (.tuple #[.string s12, .int .i64 i16, .bool true])) w_1
 )
theorem eqV.tree_told_int (px0 : Option Addr) (w : World) (R : Ending → World → Prop) : vcFn prog Try.f45 lv_tree_told_int [.pointer px0] w R = V.tree_told_int px0 w R := by kernel_rfl
theorem ok.tree_told_int {px0 : Option Addr} {w : World} {R : Ending → World → Prop} (h : V.tree_told_int px0 w R) : Calls prog f_tree_told_int #[.pointer px0] w R := calls_of mix lv_tree_told_int Try.func45 (by rw [Try.ntmps45]; exact Nat.le_of_ble_eq_true rfl) (cast (eqV.tree_told_int px0 w R).symm h)
/-! #### (*afflux/tree.page[int]).child -/
def lv_tree_page_int_child : Nat → List Nat := fun _ => []
def V.tree_page_int_child (px0 : Option Addr) (ix1 : Int) (w : World) (R : Ending → World → Prop) : Prop :=
 Calls prog f_tree_page_int_leaf #[.pointer px0] w fun e w_1 => ∃ b6, e = .returned (.bool b6) ∧
 Br b6 (
  R (.returned (.pointer none)) w_1
 ) (
  ∃ a8, px0 = some a8 ∧
  ∃ p10 l10 c10, w_1.cell? (a8.add 1) = some (.slice p10 l10 c10) ∧
  ∃ a12, p10 = some a12 ∧ (0 ≤ ix1 ∧ ix1 < (l10 : Int)) ∧
  ∃ p13, w_1.cell? (a12.add (ix1.toNat * 1)) = some (.pointer p13) ∧
  R (.returned (.pointer p13)) w_1
 )
theorem eqV.tree_page_int_child (px0 : Option Addr) (ix1 : Int) (w : World) (R : Ending → World → Prop) : vcFn prog Try.f46 lv_tree_page_int_child [.pointer px0, .int .i64 ix1] w R = V.tree_page_int_child px0 ix1 w R := by kernel_rfl
theorem ok.tree_page_int_child {px0 : Option Addr} {ix1 : Int} {w : World} {R : Ending → World → Prop} (h : V.tree_page_int_child px0 ix1 w R) : Calls prog f_tree_page_int_child #[.pointer px0, .int .i64 ix1] w R := calls_of mix lv_tree_page_int_child Try.func46 (by rw [Try.ntmps46]; exact Nat.le_of_ble_eq_true rfl) (cast (eqV.tree_page_int_child px0 ix1 w R).symm h)
/-! #### (*afflux/tree.shelf[int]).insert -/
def lv_tree_shelf_int_insert : Nat → List Nat := fun _ => []
def V.tree_shelf_int_insert (px0 : Option Addr) (ix1 : Int) (sx2 : ByteArray) (ix2 : Int) (w : World) (R : Ending → World → Prop) : Prop :=
 Al w (.cells #[.string sx2, .int .i64 ix2] 87) fun a5 w_1 =>
 Dr w_1 fun w_2 =>
 ∃ a8, px0 = some a8 ∧
 ∃ p10 l10 c10, w_2.cell? a8 = some (.slice p10 l10 c10) ∧
 ∃ s12, w_2.cell? a5 = some (.string s12) ∧
 ∃ i12, w_2.cell? (a5.add 1) = some (.int .i64 i12) ∧
 Al w_2 (.cells #[.string s12, .int .i64 i12] 87) fun a13 w_3 =>
 Calls prog f_slices_Insert_tree_entry_int #[.slice p10 l10 c10, .int .i64 ix1, .slice (some a13) 1 1] w_3 fun e w_4 => ∃ p14 l14 c14, e = .returned (.slice p14 l14 c14) ∧
 ∃ a15, px0 = some a15 ∧
 St w_4 a15 (.slice p14 l14 c14) fun w_5 =>
 R (.returned (.tuple #[])) w_5
theorem eqV.tree_shelf_int_insert (px0 : Option Addr) (ix1 : Int) (sx2 : ByteArray) (ix2 : Int) (w : World) (R : Ending → World → Prop) : vcFn prog Try.f47 lv_tree_shelf_int_insert [.pointer px0, .int .i64 ix1, .agg #[.string sx2, .int .i64 ix2]] w R = V.tree_shelf_int_insert px0 ix1 sx2 ix2 w R := by kernel_rfl
theorem ok.tree_shelf_int_insert {px0 : Option Addr} {ix1 : Int} {sx2 : ByteArray} {ix2 : Int} {w : World} {R : Ending → World → Prop} (h : V.tree_shelf_int_insert px0 ix1 sx2 ix2 w R) : Calls prog f_tree_shelf_int_insert #[.pointer px0, .int .i64 ix1, .agg #[.string sx2, .int .i64 ix2]] w R := calls_of mix lv_tree_shelf_int_insert Try.func47 (by rw [Try.ntmps47]; exact Nat.le_of_ble_eq_true rfl) (cast (eqV.tree_shelf_int_insert px0 ix1 sx2 ix2 w R).symm h)
/-! #### slices.Clone[[]afflux/tree.entry[int],afflux/tree.entry[int]] -/
def lv_slices_Clone_tree_entry_int : Nat → List Nat := fun _ => []
def V.slices_Clone_tree_entry_int (px0 : Option Addr) (lx0 : Nat) (cx0 : Nat) (w : World) (R : Ending → World → Prop) : Prop :=
 Br (px0.isNone) (
  R (.returned (.slice none 0 0)) w
 ) (
  Al w (.cells #[] 87) fun a5 w_1 =>
  Run prog (Builtin.append_ #[61, 61] 61 #[.slice (some a5) 0 0, .slice px0 lx0 cx0]) w_1 fun v7 w_2 => ∃ p7 l7 c7, v7 = .slice p7 l7 c7 ∧
  R (.returned (.slice p7 l7 c7)) w_2
 )
theorem eqV.slices_Clone_tree_entry_int (px0 : Option Addr) (lx0 : Nat) (cx0 : Nat) (w : World) (R : Ending → World → Prop) : vcFn prog Try.f48 lv_slices_Clone_tree_entry_int [.slice px0 lx0 cx0] w R = V.slices_Clone_tree_entry_int px0 lx0 cx0 w R := by kernel_rfl
theorem ok.slices_Clone_tree_entry_int {px0 : Option Addr} {lx0 : Nat} {cx0 : Nat} {w : World} {R : Ending → World → Prop} (h : V.slices_Clone_tree_entry_int px0 lx0 cx0 w R) : Calls prog f_slices_Clone_tree_entry_int #[.slice px0 lx0 cx0] w R := calls_of mix lv_slices_Clone_tree_entry_int Try.func48 (by rw [Try.ntmps48]; exact Nat.le_of_ble_eq_true rfl) (cast (eqV.slices_Clone_tree_entry_int px0 lx0 cx0 w R).symm h)
/-! #### slices.Clone[[]*afflux/tree.page[int],*afflux/tree.page[int]] -/
def lv_slices_Clone_ptr_tree_page_int : Nat → List Nat := fun _ => []
def V.slices_Clone_ptr_tree_page_int (px0 : Option Addr) (lx0 : Nat) (cx0 : Nat) (w : World) (R : Ending → World → Prop) : Prop :=
 Br (px0.isNone) (
  R (.returned (.slice none 0 0)) w
 ) (
  Al w (.cells #[] 60) fun a5 w_1 =>
  Run prog (Builtin.append_ #[64, 64] 64 #[.slice (some a5) 0 0, .slice px0 lx0 cx0]) w_1 fun v7 w_2 => ∃ p7 l7 c7, v7 = .slice p7 l7 c7 ∧
  R (.returned (.slice p7 l7 c7)) w_2
 )
theorem eqV.slices_Clone_ptr_tree_page_int (px0 : Option Addr) (lx0 : Nat) (cx0 : Nat) (w : World) (R : Ending → World → Prop) : vcFn prog Try.f49 lv_slices_Clone_ptr_tree_page_int [.slice px0 lx0 cx0] w R = V.slices_Clone_ptr_tree_page_int px0 lx0 cx0 w R := by kernel_rfl
theorem ok.slices_Clone_ptr_tree_page_int {px0 : Option Addr} {lx0 : Nat} {cx0 : Nat} {w : World} {R : Ending → World → Prop} (h : V.slices_Clone_ptr_tree_page_int px0 lx0 cx0 w R) : Calls prog f_slices_Clone_ptr_tree_page_int #[.slice px0 lx0 cx0] w R := calls_of mix lv_slices_Clone_ptr_tree_page_int Try.func49 (by rw [Try.ntmps49]; exact Nat.le_of_ble_eq_true rfl) (cast (eqV.slices_Clone_ptr_tree_page_int px0 lx0 cx0 w R).symm h)
/-! #### slices.Insert[[]*afflux/tree.page[int],*afflux/tree.page[int]] -/
def lv_slices_Insert_ptr_tree_page_int : Nat → List Nat := fun _ => []
def V.slices_Insert_ptr_tree_page_int (px0 : Option Addr) (lx0 : Nat) (cx0 : Nat) (ix1 : Int) (px2 : Option Addr) (lx2 : Nat) (cx2 : Nat) (w : World) (R : Ending → World → Prop) : Prop :=
 SlB lx0 cx0 (some ix1) none none fun lo12 hi12 mx12 =>
 Br ((lx2 : Int) == (0 : Int)) (
  R (.returned (.slice px0 lx0 cx0)) w
 ) (
  Br (ix1 == (lx0 : Int)) (
   Run prog (Builtin.append_ #[64, 64] 64 #[.slice px0 lx0 cx0, .slice px2 lx2 cx2]) w fun v25 w_1 => ∃ p25 l25 c25, v25 = .slice p25 l25 c25 ∧
   R (.returned (.slice p25 l25 c25)) w_1
  ) (
   Br (decide ((IntKind.wrap .i64 ((lx0 : Int) + (lx2 : Int))) > (cx0 : Int))) (
    SlB lx0 cx0 none (some ix1) none fun lo34 hi34 mx34 =>
    Run prog (Builtin.append_ #[64, 3] 64 #[.slice (slAt px0 lo34 mx34 1) (hi34 - lo34) (mx34 - lo34), .int .i64 (IntKind.wrap .i64 ((IntKind.wrap .i64 ((lx0 : Int) + (lx2 : Int))) - ix1))]) w fun v40 w_2 => ∃ p40 l40 c40, v40 = .slice p40 l40 c40 ∧
    SlB l40 c40 (some ix1) none none fun lo43 hi43 mx43 =>
    Run prog (Builtin.copy_ #[64, 64] 3 #[.slice (slAt p40 lo43 mx43 1) (hi43 - lo43) (mx43 - lo43), .slice px2 lx2 cx2]) w_2 fun v45 w_3 => ∃ i45, v45 = .int .i64 i45 ∧
    Dr w_3 fun w_4 =>
    SlB l40 c40 (some (IntKind.wrap .i64 (ix1 + (lx2 : Int)))) none none fun lo50 hi50 mx50 =>
    SlB lx0 cx0 (some ix1) none none fun lo53 hi53 mx53 =>
    Run prog (Builtin.copy_ #[64, 64] 3 #[.slice (slAt p40 lo50 mx50 1) (hi50 - lo50) (mx50 - lo50), .slice (slAt px0 lo53 mx53 1) (hi53 - lo53) (mx53 - lo53)]) w_4 fun v54 w_5 => ∃ i54, v54 = .int .i64 i54 ∧
    R (.returned (.slice p40 l40 c40)) w_5
   ) (
    SlB lx0 cx0 none (some (IntKind.wrap .i64 ((lx0 : Int) + (lx2 : Int)))) none fun lo60 hi60 mx60 =>
    SlB (hi60 - lo60) (mx60 - lo60) (some (IntKind.wrap .i64 (ix1 + (lx2 : Int)))) none none fun lo66 hi66 mx66 =>
    Ext prog f_slices_overlaps_ptr_tree_page_int #[.slice px2 lx2 cx2, .slice (slAt (slAt px0 lo60 mx60 1) lo66 mx66 1) (hi66 - lo66) (mx66 - lo66)] w fun v67 w_6 => ∃ b67, v67 = .bool b67 ∧
    Br (!b67) (
     Dr w_6 fun w_7 =>
     SlB (hi60 - lo60) (mx60 - lo60) (some (IntKind.wrap .i64 (ix1 + (lx2 : Int)))) none none fun lo73 hi73 mx73 =>
     SlB (hi60 - lo60) (mx60 - lo60) (some ix1) none none fun lo76 hi76 mx76 =>
     Run prog (Builtin.copy_ #[64, 64] 3 #[.slice (slAt (slAt px0 lo60 mx60 1) lo73 mx73 1) (hi73 - lo73) (mx73 - lo73), .slice (slAt (slAt px0 lo60 mx60 1) lo76 mx76 1) (hi76 - lo76) (mx76 - lo76)]) w_7 fun v77 w_8 => ∃ i77, v77 = .int .i64 i77 ∧
     SlB (hi60 - lo60) (mx60 - lo60) (some ix1) none none fun lo80 hi80 mx80 =>
     Run prog (Builtin.copy_ #[64, 64] 3 #[.slice (slAt (slAt px0 lo60 mx60 1) lo80 mx80 1) (hi80 - lo80) (mx80 - lo80), .slice px2 lx2 cx2]) w_8 fun v82 w_9 => ∃ i82, v82 = .int .i64 i82 ∧
     R (.returned (.slice (slAt px0 lo60 mx60 1) (hi60 - lo60) (mx60 - lo60))) w_9
    ) (
     SlB (hi60 - lo60) (mx60 - lo60) (some (lx0 : Int)) none none fun lo86 hi86 mx86 =>
     Run prog (Builtin.copy_ #[64, 64] 3 #[.slice (slAt (slAt px0 lo60 mx60 1) lo86 mx86 1) (hi86 - lo86) (mx86 - lo86), .slice px2 lx2 cx2]) w_6 fun v88 w_10 => ∃ i88, v88 = .int .i64 i88 ∧
     SlB (hi60 - lo60) (mx60 - lo60) (some ix1) none none fun lo91 hi91 mx91 =>
     Calls prog f_slices_rotateRight_ptr_tree_page_int #[.slice (slAt (slAt px0 lo60 mx60 1) lo91 mx91 1) (hi91 - lo91) (mx91 - lo91), .int .i64 (lx2 : Int)] w_10 fun e w_11 => e = .returned (.tuple #[]) ∧
     R (.returned (.slice (slAt px0 lo60 mx60 1) (hi60 - lo60) (mx60 - lo60))) w_11
    )
   )
  )
 )
theorem eqV.slices_Insert_ptr_tree_page_int (px0 : Option Addr) (lx0 : Nat) (cx0 : Nat) (ix1 : Int) (px2 : Option Addr) (lx2 : Nat) (cx2 : Nat) (w : World) (R : Ending → World → Prop) : vcFn prog Try.f50 lv_slices_Insert_ptr_tree_page_int [.slice px0 lx0 cx0, .int .i64 ix1, .slice px2 lx2 cx2] w R = V.slices_Insert_ptr_tree_page_int px0 lx0 cx0 ix1 px2 lx2 cx2 w R := by kernel_rfl
theorem ok.slices_Insert_ptr_tree_page_int {px0 : Option Addr} {lx0 : Nat} {cx0 : Nat} {ix1 : Int} {px2 : Option Addr} {lx2 : Nat} {cx2 : Nat} {w : World} {R : Ending → World → Prop} (h : V.slices_Insert_ptr_tree_page_int px0 lx0 cx0 ix1 px2 lx2 cx2 w R) : Calls prog f_slices_Insert_ptr_tree_page_int #[.slice px0 lx0 cx0, .int .i64 ix1, .slice px2 lx2 cx2] w R := calls_of mix lv_slices_Insert_ptr_tree_page_int Try.func50 (by rw [Try.ntmps50]; exact Nat.le_of_ble_eq_true rfl) (cast (eqV.slices_Insert_ptr_tree_page_int px0 lx0 cx0 ix1 px2 lx2 cx2 w R).symm h)
/-! #### (*afflux/tree.shelf[int]).remove -/
def lv_tree_shelf_int_remove : Nat → List Nat := fun _ => []
def V.tree_shelf_int_remove (px0 : Option Addr) (ix1 : Int) (w : World) (R : Ending → World → Prop) : Prop :=
 Al w (.cells #[.string (str []), .int .i64 0] 87) fun a4 w_1 =>
 ∃ a7, px0 = some a7 ∧
 ∃ p9 l9 c9, w_1.cell? a7 = some (.slice p9 l9 c9) ∧
 ∃ a11, p9 = some a11 ∧ (0 ≤ ix1 ∧ ix1 < (l9 : Int)) ∧
 ∃ s12, w_1.cell? (a11.add (ix1.toNat * 2)) = some (.string s12) ∧
 ∃ i12, w_1.cell? ((a11.add (ix1.toNat * 2)).add 1) = some (.int .i64 i12) ∧
 Al w_1 (.cells #[.string (str []), .int .i64 0] 87) fun a5 w_2 =>
 St w_2 a5 (.string s12) fun w_3 =>
 St w_3 (a5.add 1) (.int .i64 i12) fun w_4 =>
 ∃ a15, px0 = some a15 ∧
 ∃ p17 l17 c17, w_4.cell? a15 = some (.slice p17 l17 c17) ∧
 Calls prog f_slices_Delete_tree_entry_int #[.slice p17 l17 c17, .int .i64 ix1, .int .i64 (IntKind.wrap .i64 (ix1 + (1 : Int)))] w_4 fun e w_5 => ∃ p21 l21 c21, e = .returned (.slice p21 l21 c21) ∧
 ∃ a22, px0 = some a22 ∧
 St w_5 a22 (.slice p21 l21 c21) fun w_6 =>
 ∃ s24, w_6.cell? a5 = some (.string s24) ∧
 ∃ i24, w_6.cell? (a5.add 1) = some (.int .i64 i24) ∧
 St w_6 a4 (.string s24) fun w_7 =>
 St w_7 (a4.add 1) (.int .i64 i24) fun w_8 =>
 ∃ sr4, w_8.cell? a4 = some (.string sr4) ∧
 ∃ ir4, w_8.cell? (a4.add 1) = some (.int .i64 ir4) ∧
 R (.returned (.agg #[.string sr4, .int .i64 ir4])) w_8
theorem eqV.tree_shelf_int_remove (px0 : Option Addr) (ix1 : Int) (w : World) (R : Ending → World → Prop) : vcFn prog Try.f58 lv_tree_shelf_int_remove [.pointer px0, .int .i64 ix1] w R = V.tree_shelf_int_remove px0 ix1 w R := by kernel_rfl
theorem ok.tree_shelf_int_remove {px0 : Option Addr} {ix1 : Int} {w : World} {R : Ending → World → Prop} (h : V.tree_shelf_int_remove px0 ix1 w R) : Calls prog f_tree_shelf_int_remove #[.pointer px0, .int .i64 ix1] w R := calls_of mix lv_tree_shelf_int_remove Try.func58 (by rw [Try.ntmps58]; exact Nat.le_of_ble_eq_true rfl) (cast (eqV.tree_shelf_int_remove px0 ix1 w R).symm h)
/-! #### (*afflux/tree.page[int]).last -/
def lv_tree_page_int_last : Nat → List Nat := fun _ => []
def V.tree_page_int_last (px0 : Option Addr) (w : World) (R : Ending → World → Prop) : Prop :=
 Al w (.cells #[.string (str []), .int .i64 0] 87) fun a2 w_1 =>
 Calls prog f_tree_page_int_leaf #[.pointer px0] w_1 fun e w_2 => ∃ b6, e = .returned (.bool b6) ∧
 Br b6 (
  Dr w_2 fun w_3 =>
  ∃ a8, px0 = some a8 ∧
  ∃ a11, px0 = some a11 ∧
  ∃ p14 l14 c14, w_3.cell? a11 = some (.slice p14 l14 c14) ∧
  Calls prog f_tree_shelf_int_remove #[.pointer (some a8), .int .i64 (IntKind.wrap .i64 ((l14 : Int) - (1 : Int)))] w_3 fun e_1 w_4 => ∃ s17 i17, e_1 = .returned (.agg #[.string s17, .int .i64 i17]) ∧
  St w_4 a2 (.string s17) fun w_5 =>
  St w_5 (a2.add 1) (.int .i64 i17) fun w_6 =>
  ∃ sr2, w_6.cell? a2 = some (.string sr2) ∧
  ∃ ir2, w_6.cell? (a2.add 1) = some (.int .i64 ir2) ∧
  R (.returned (.agg #[.string sr2, .int .i64 ir2])) w_6
 ) (
  ∃ a19, px0 = some a19 ∧
  ∃ p21 l21 c21, w_2.cell? (a19.add 1) = some (.slice p21 l21 c21) ∧
  Lt ((IntKind.wrap .i64 ((l21 : Int) - (1 : Int))) : Int) fun i3 =>
  ∃ a25, px0 = some a25 ∧
  ∃ p27 l27 c27, w_2.cell? (a25.add 1) = some (.slice p27 l27 c27) ∧
  ∃ a29, p27 = some a29 ∧ (0 ≤ i3 ∧ i3 < (l27 : Int)) ∧
  ∃ p30, w_2.cell? (a29.add (i3.toNat * 1)) = some (.pointer p30) ∧
  Calls prog f_tree_page_int_last #[.pointer p30] w_2 fun e_2 w_7 => ∃ s31 i31, e_2 = .returned (.agg #[.string s31, .int .i64 i31]) ∧
  Al w_7 (.cells #[.string (str []), .int .i64 0] 87) fun a4 w_8 =>
  St w_8 a4 (.string s31) fun w_9 =>
  St w_9 (a4.add 1) (.int .i64 i31) fun w_10 =>
  Calls prog f_tree_page_int_mend #[.pointer px0, .int .i64 i3] w_10 fun e_3 w_11 => e_3 = .returned (.tuple #[]) ∧
  ∃ s35, w_11.cell? a4 = some (.string s35) ∧
  ∃ i35, w_11.cell? (a4.add 1) = some (.int .i64 i35) ∧
  St w_11 a2 (.string s35) fun w_12 =>
  St w_12 (a2.add 1) (.int .i64 i35) fun w_13 =>
  ∃ sr2_1, w_13.cell? a2 = some (.string sr2_1) ∧
  ∃ ir2_1, w_13.cell? (a2.add 1) = some (.int .i64 ir2_1) ∧
  R (.returned (.agg #[.string sr2_1, .int .i64 ir2_1])) w_13
 )
theorem eqV.tree_page_int_last (px0 : Option Addr) (w : World) (R : Ending → World → Prop) : vcFn prog Try.f59 lv_tree_page_int_last [.pointer px0] w R = V.tree_page_int_last px0 w R := by kernel_rfl
theorem ok.tree_page_int_last {px0 : Option Addr} {w : World} {R : Ending → World → Prop} (h : V.tree_page_int_last px0 w R) : Calls prog f_tree_page_int_last #[.pointer px0] w R := calls_of mix lv_tree_page_int_last Try.func59 (by rw [Try.ntmps59]; exact Nat.le_of_ble_eq_true rfl) (cast (eqV.tree_page_int_last px0 w R).symm h)
/-! #### (*afflux/tree.page[int]).mend -/
def lv_tree_page_int_mend : Nat → List Nat := fun _ => []
def V.tree_page_int_mend (px0 : Option Addr) (ix1 : Int) (w : World) (R : Ending → World → Prop) : Prop :=
 ∃ a9, px0 = some a9 ∧
 ∃ p11 l11 c11, w.cell? (a9.add 1) = some (.slice p11 l11 c11) ∧
 ∃ a13, p11 = some a13 ∧ (0 ≤ ix1 ∧ ix1 < (l11 : Int)) ∧
 ∃ p14, w.cell? (a13.add (ix1.toNat * 1)) = some (.pointer p14) ∧
 ∃ a15, p14 = some a15 ∧
 ∃ p18 l18 c18, w.cell? a15 = some (.slice p18 l18 c18) ∧
 Br (decide ((l18 : Int) ≥ (2 : Int))) (
  R (.returned (.tuple #[])) w
 ) (
  Jn (α := Bool → Prop) (fun J =>
   Br (decide (ix1 > (0 : Int))) (
    ∃ a26, px0 = some a26 ∧
    ∃ p28 l28 c28, w.cell? (a26.add 1) = some (.slice p28 l28 c28) ∧
    ∃ a31, p28 = some a31 ∧ (0 ≤ (IntKind.wrap .i64 (ix1 - (1 : Int))) ∧ (IntKind.wrap .i64 (ix1 - (1 : Int))) < (l28 : Int)) ∧
    ∃ p32, w.cell? (a31.add ((IntKind.wrap .i64 (ix1 - (1 : Int))).toNat * 1)) = some (.pointer p32) ∧
    ∃ a33, p32 = some a33 ∧
    ∃ p36 l36 c36, w.cell? a33 = some (.slice p36 l36 c36) ∧
    J (decide ((l36 : Int) > (2 : Int)))
   ) (
    J false
   )
  ) (fun b21 =>
   Br b21 (
    Calls prog f_tree_page_int_right #[.pointer px0, .int .i64 (IntKind.wrap .i64 (ix1 - (1 : Int)))] w fun e w_1 => e = .returned (.tuple #[]) ∧
    R (.returned (.tuple #[])) w_1
   ) (
    Jn (α := Bool → Prop) (fun J_1 =>
     ∃ a47, px0 = some a47 ∧
     ∃ p49 l49 c49, w.cell? (a47.add 1) = some (.slice p49 l49 c49) ∧
     Br (decide (ix1 < (IntKind.wrap .i64 ((l49 : Int) - (1 : Int))))) (
      ∃ a55, px0 = some a55 ∧
      ∃ p57 l57 c57, w.cell? (a55.add 1) = some (.slice p57 l57 c57) ∧
      ∃ a60, p57 = some a60 ∧ (0 ≤ (IntKind.wrap .i64 (ix1 + (1 : Int))) ∧ (IntKind.wrap .i64 (ix1 + (1 : Int))) < (l57 : Int)) ∧
      ∃ p61, w.cell? (a60.add ((IntKind.wrap .i64 (ix1 + (1 : Int))).toNat * 1)) = some (.pointer p61) ∧
      ∃ a62, p61 = some a62 ∧
      ∃ p65 l65 c65, w.cell? a62 = some (.slice p65 l65 c65) ∧
      J_1 (decide ((l65 : Int) > (2 : Int)))
     ) (
      J_1 false
     )
    ) (fun b44 =>
     Br b44 (
      Calls prog f_tree_page_int_left #[.pointer px0, .int .i64 ix1] w fun e_1 w_2 => e_1 = .returned (.tuple #[]) ∧
      R (.returned (.tuple #[])) w_2
     ) (
      Br (decide (ix1 > (0 : Int))) (
       Calls prog f_tree_page_int_join #[.pointer px0, .int .i64 (IntKind.wrap .i64 (ix1 - (1 : Int)))] w fun e_2 w_3 => e_2 = .returned (.tuple #[]) ∧
       R (.returned (.tuple #[])) w_3
      ) (
       Calls prog f_tree_page_int_join #[.pointer px0, .int .i64 ix1] w fun e_3 w_4 => e_3 = .returned (.tuple #[]) ∧
       R (.returned (.tuple #[])) w_4
      )
     )
    )
   )
  )
 )
theorem eqV.tree_page_int_mend (px0 : Option Addr) (ix1 : Int) (w : World) (R : Ending → World → Prop) : vcFn prog Try.f60 lv_tree_page_int_mend [.pointer px0, .int .i64 ix1] w R = V.tree_page_int_mend px0 ix1 w R := by kernel_rfl
theorem ok.tree_page_int_mend {px0 : Option Addr} {ix1 : Int} {w : World} {R : Ending → World → Prop} (h : V.tree_page_int_mend px0 ix1 w R) : Calls prog f_tree_page_int_mend #[.pointer px0, .int .i64 ix1] w R := calls_of mix lv_tree_page_int_mend Try.func60 (by rw [Try.ntmps60]; exact Nat.le_of_ble_eq_true rfl) (cast (eqV.tree_page_int_mend px0 ix1 w R).symm h)
/-! #### slices.BinarySearchFunc[[]afflux/tree.entry[int],afflux/tree.entry[int],string] -/
def lv_slices_BinarySearchFunc_string : Nat → List Nat := fun k => match k with | 3 => [0, 1, 2, 8, 9, 10] | _ => []
def L.slices_BinarySearchFunc_string_L0 (p0 : Option Addr) (l0 : Nat) (c0 : Nat) (s1 : ByteArray) (v2 : Value) (i8 : Int) (i9 : Int) (i10 : Int) (w : World) (R : Ending → World → Prop) : Prop :=
 LoopAt prog Try.f64 lv_slices_BinarySearchFunc_string [1, 1, 1, 0, 0] R [(0, .slice p0 l0 c0), (1, .string s1), (2, v2), (8, .int .i64 i8), (9, .int .i64 i9), (10, .int .i64 i10)] w
def B.slices_BinarySearchFunc_string_L0 (p0 : Option Addr) (l0 : Nat) (c0 : Nat) (s1 : ByteArray) (v2 : Value) (i8 : Int) (i9 : Int) (i10 : Int) (w : World) (R : Ending → World → Prop) : Prop :=
 Br (decide (i9 < i10)) (
  0 ≤ (1 : Int) ∧
  Lt ((IntKind.wrap .i64 ((IntKind.wrap .u64 (IntKind.wrap .i64 (i9 + i10))).fdiv (2 ^ (min (1 : Int).toNat (IntKind.bits .u64))))) : Int) fun i11 =>
  ∃ a27, p0 = some a27 ∧ (0 ≤ i11 ∧ i11 < (l0 : Int)) ∧
  ∃ s28, w.cell? (a27.add (i11.toNat * 2)) = some (.string s28) ∧
  ∃ i28, w.cell? ((a27.add (i11.toNat * 2)).add 1) = some (.int .i64 i28) ∧
  CallV prog v2 [.agg #[.string s28, .int .i64 i28], .string s1] w [3] fun v30 w_1 => ∃ i30, v30 = .int .i64 i30 ∧
  Br (decide (i30 < (0 : Int))) (
   Lt ((IntKind.wrap .i64 (i11 + (1 : Int))) : Int) fun i9_1 =>
   L.slices_BinarySearchFunc_string_L0 p0 l0 c0 s1 v2 i8 i9_1 i10 w_1 R
  ) (
   L.slices_BinarySearchFunc_string_L0 p0 l0 c0 s1 v2 i8 i9 i11 w_1 R
  )
 ) (
  Br (decide (i9 < i8)) (
   ∃ a43, p0 = some a43 ∧ (0 ≤ i9 ∧ i9 < (l0 : Int)) ∧
   ∃ s44, w.cell? (a43.add (i9.toNat * 2)) = some (.string s44) ∧
   ∃ i44, w.cell? ((a43.add (i9.toNat * 2)).add 1) = some (.int .i64 i44) ∧
   CallV prog v2 [.agg #[.string s44, .int .i64 i44], .string s1] w [3] fun v46 w_2 => ∃ i46, v46 = .int .i64 i46 ∧
   R (.returned (.tuple #[.int .i64 i9, .bool (i46 == (0 : Int))])) w_2
  ) (
   R (.returned (.tuple #[.int .i64 i9, .bool false])) w
  )
 )
def V.slices_BinarySearchFunc_string (px0 : Option Addr) (lx0 : Nat) (cx0 : Nat) (sx1 : ByteArray) (vx2 : Value) (w : World) (R : Ending → World → Prop) : Prop :=
 L.slices_BinarySearchFunc_string_L0 px0 lx0 cx0 sx1 vx2 (lx0 : Int) 0 (lx0 : Int) w R
theorem eqB.slices_BinarySearchFunc_string_L0 (p0 : Option Addr) (l0 : Nat) (c0 : Nat) (s1 : ByteArray) (v2 : Value) (i8 : Int) (i9 : Int) (i10 : Int) (w : World) (R : Ending → World → Prop) : RoundAt prog Try.f64 lv_slices_BinarySearchFunc_string [1, 1, 1, 0, 0] R [(0, .slice p0 l0 c0), (1, .string s1), (2, v2), (8, .int .i64 i8), (9, .int .i64 i9), (10, .int .i64 i10)] w = B.slices_BinarySearchFunc_string_L0 p0 l0 c0 s1 v2 i8 i9 i10 w R := by kernel_rfl
theorem round.slices_BinarySearchFunc_string_L0 {p0 : Option Addr} {l0 : Nat} {c0 : Nat} {s1 : ByteArray} {v2 : Value} {i8 : Int} {i9 : Int} {i10 : Int} {w : World} {R : Ending → World → Prop} (h : B.slices_BinarySearchFunc_string_L0 p0 l0 c0 s1 v2 i8 i9 i10 w R) : L.slices_BinarySearchFunc_string_L0 p0 l0 c0 s1 v2 i8 i9 i10 w R := LoopAt.unfold mix (cast (eqB.slices_BinarySearchFunc_string_L0 p0 l0 c0 s1 v2 i8 i9 i10 w R).symm h)
theorem eqV.slices_BinarySearchFunc_string (px0 : Option Addr) (lx0 : Nat) (cx0 : Nat) (sx1 : ByteArray) (vx2 : Value) (w : World) (R : Ending → World → Prop) : vcFn prog Try.f64 lv_slices_BinarySearchFunc_string [.slice px0 lx0 cx0, .string sx1, vx2] w R = V.slices_BinarySearchFunc_string px0 lx0 cx0 sx1 vx2 w R := by kernel_rfl
theorem ok.slices_BinarySearchFunc_string {px0 : Option Addr} {lx0 : Nat} {cx0 : Nat} {sx1 : ByteArray} {vx2 : Value} {w : World} {R : Ending → World → Prop} (h : V.slices_BinarySearchFunc_string px0 lx0 cx0 sx1 vx2 w R) : Calls prog f_slices_BinarySearchFunc_string #[.slice px0 lx0 cx0, .string sx1, vx2] w R := calls_of mix lv_slices_BinarySearchFunc_string Try.func64 (by rw [Try.ntmps64]; exact Nat.le_of_ble_eq_true rfl) (cast (eqV.slices_BinarySearchFunc_string px0 lx0 cx0 sx1 vx2 w R).symm h)
/-! #### (*afflux/tree.shelf[int]).find$1 -/
def lv_tree_shelf_int_find_fn1 : Nat → List Nat := fun _ => []
def V.tree_shelf_int_find_fn1 (sx0 : ByteArray) (ix0 : Int) (sx1 : ByteArray) (w : World) (R : Ending → World → Prop) : Prop :=
 Al w (.cells #[.string sx0, .int .i64 ix0] 87) fun a2 w_1 =>
 ∃ s7, w_1.cell? a2 = some (.string s7) ∧
 Br (sLt s7 sx1) (
  R (.returned (.int .i64 (-1))) w_1
 ) (
  ∃ s12, w_1.cell? a2 = some (.string s12) ∧
  Br (!(sLt s12 sx1 || sEq s12 sx1)) (
   R (.returned (.int .i64 1)) w_1
  ) (
   R (.returned (.int .i64 0)) w_1
  )
 )
theorem eqV.tree_shelf_int_find_fn1 (sx0 : ByteArray) (ix0 : Int) (sx1 : ByteArray) (w : World) (R : Ending → World → Prop) : vcFn prog Try.f65 lv_tree_shelf_int_find_fn1 [.agg #[.string sx0, .int .i64 ix0], .string sx1] w R = V.tree_shelf_int_find_fn1 sx0 ix0 sx1 w R := by kernel_rfl
theorem ok.tree_shelf_int_find_fn1 {sx0 : ByteArray} {ix0 : Int} {sx1 : ByteArray} {w : World} {R : Ending → World → Prop} (h : V.tree_shelf_int_find_fn1 sx0 ix0 sx1 w R) : Calls prog f_tree_shelf_int_find_fn1 #[.agg #[.string sx0, .int .i64 ix0], .string sx1] w R := calls_of mix lv_tree_shelf_int_find_fn1 Try.func65 (by rw [Try.ntmps65]; exact Nat.le_of_ble_eq_true rfl) (cast (eqV.tree_shelf_int_find_fn1 sx0 ix0 sx1 w R).symm h)
/-! #### slices.Insert[[]afflux/tree.entry[int],afflux/tree.entry[int]] -/
def lv_slices_Insert_tree_entry_int : Nat → List Nat := fun _ => []
def V.slices_Insert_tree_entry_int (px0 : Option Addr) (lx0 : Nat) (cx0 : Nat) (ix1 : Int) (px2 : Option Addr) (lx2 : Nat) (cx2 : Nat) (w : World) (R : Ending → World → Prop) : Prop :=
 SlB lx0 cx0 (some ix1) none none fun lo12 hi12 mx12 =>
 Br ((lx2 : Int) == (0 : Int)) (
  R (.returned (.slice px0 lx0 cx0)) w
 ) (
  Br (ix1 == (lx0 : Int)) (
   Run prog (Builtin.append_ #[61, 61] 61 #[.slice px0 lx0 cx0, .slice px2 lx2 cx2]) w fun v25 w_1 => ∃ p25 l25 c25, v25 = .slice p25 l25 c25 ∧
   R (.returned (.slice p25 l25 c25)) w_1
  ) (
   Br (decide ((IntKind.wrap .i64 ((lx0 : Int) + (lx2 : Int))) > (cx0 : Int))) (
    SlB lx0 cx0 none (some ix1) none fun lo34 hi34 mx34 =>
    Run prog (Builtin.append_ #[61, 3] 61 #[.slice (slAt px0 lo34 mx34 2) (hi34 - lo34) (mx34 - lo34), .int .i64 (IntKind.wrap .i64 ((IntKind.wrap .i64 ((lx0 : Int) + (lx2 : Int))) - ix1))]) w fun v40 w_2 => ∃ p40 l40 c40, v40 = .slice p40 l40 c40 ∧
    SlB l40 c40 (some ix1) none none fun lo43 hi43 mx43 =>
    Run prog (Builtin.copy_ #[61, 61] 3 #[.slice (slAt p40 lo43 mx43 2) (hi43 - lo43) (mx43 - lo43), .slice px2 lx2 cx2]) w_2 fun v45 w_3 => ∃ i45, v45 = .int .i64 i45 ∧
    Dr w_3 fun w_4 =>
    SlB l40 c40 (some (IntKind.wrap .i64 (ix1 + (lx2 : Int)))) none none fun lo50 hi50 mx50 =>
    SlB lx0 cx0 (some ix1) none none fun lo53 hi53 mx53 =>
    Run prog (Builtin.copy_ #[61, 61] 3 #[.slice (slAt p40 lo50 mx50 2) (hi50 - lo50) (mx50 - lo50), .slice (slAt px0 lo53 mx53 2) (hi53 - lo53) (mx53 - lo53)]) w_4 fun v54 w_5 => ∃ i54, v54 = .int .i64 i54 ∧
    R (.returned (.slice p40 l40 c40)) w_5
   ) (
    SlB lx0 cx0 none (some (IntKind.wrap .i64 ((lx0 : Int) + (lx2 : Int)))) none fun lo60 hi60 mx60 =>
    SlB (hi60 - lo60) (mx60 - lo60) (some (IntKind.wrap .i64 (ix1 + (lx2 : Int)))) none none fun lo66 hi66 mx66 =>
    Ext prog f_slices_overlaps_tree_entry_int #[.slice px2 lx2 cx2, .slice (slAt (slAt px0 lo60 mx60 2) lo66 mx66 2) (hi66 - lo66) (mx66 - lo66)] w fun v67 w_6 => ∃ b67, v67 = .bool b67 ∧
    Br (!b67) (
     Dr w_6 fun w_7 =>
     SlB (hi60 - lo60) (mx60 - lo60) (some (IntKind.wrap .i64 (ix1 + (lx2 : Int)))) none none fun lo73 hi73 mx73 =>
     SlB (hi60 - lo60) (mx60 - lo60) (some ix1) none none fun lo76 hi76 mx76 =>
     Run prog (Builtin.copy_ #[61, 61] 3 #[.slice (slAt (slAt px0 lo60 mx60 2) lo73 mx73 2) (hi73 - lo73) (mx73 - lo73), .slice (slAt (slAt px0 lo60 mx60 2) lo76 mx76 2) (hi76 - lo76) (mx76 - lo76)]) w_7 fun v77 w_8 => ∃ i77, v77 = .int .i64 i77 ∧
     SlB (hi60 - lo60) (mx60 - lo60) (some ix1) none none fun lo80 hi80 mx80 =>
     Run prog (Builtin.copy_ #[61, 61] 3 #[.slice (slAt (slAt px0 lo60 mx60 2) lo80 mx80 2) (hi80 - lo80) (mx80 - lo80), .slice px2 lx2 cx2]) w_8 fun v82 w_9 => ∃ i82, v82 = .int .i64 i82 ∧
     R (.returned (.slice (slAt px0 lo60 mx60 2) (hi60 - lo60) (mx60 - lo60))) w_9
    ) (
     SlB (hi60 - lo60) (mx60 - lo60) (some (lx0 : Int)) none none fun lo86 hi86 mx86 =>
     Run prog (Builtin.copy_ #[61, 61] 3 #[.slice (slAt (slAt px0 lo60 mx60 2) lo86 mx86 2) (hi86 - lo86) (mx86 - lo86), .slice px2 lx2 cx2]) w_6 fun v88 w_10 => ∃ i88, v88 = .int .i64 i88 ∧
     SlB (hi60 - lo60) (mx60 - lo60) (some ix1) none none fun lo91 hi91 mx91 =>
     Calls prog f_slices_rotateRight_tree_entry_int #[.slice (slAt (slAt px0 lo60 mx60 2) lo91 mx91 2) (hi91 - lo91) (mx91 - lo91), .int .i64 (lx2 : Int)] w_10 fun e w_11 => e = .returned (.tuple #[]) ∧
     R (.returned (.slice (slAt px0 lo60 mx60 2) (hi60 - lo60) (mx60 - lo60))) w_11
    )
   )
  )
 )
theorem eqV.slices_Insert_tree_entry_int (px0 : Option Addr) (lx0 : Nat) (cx0 : Nat) (ix1 : Int) (px2 : Option Addr) (lx2 : Nat) (cx2 : Nat) (w : World) (R : Ending → World → Prop) : vcFn prog Try.f66 lv_slices_Insert_tree_entry_int [.slice px0 lx0 cx0, .int .i64 ix1, .slice px2 lx2 cx2] w R = V.slices_Insert_tree_entry_int px0 lx0 cx0 ix1 px2 lx2 cx2 w R := by kernel_rfl
theorem ok.slices_Insert_tree_entry_int {px0 : Option Addr} {lx0 : Nat} {cx0 : Nat} {ix1 : Int} {px2 : Option Addr} {lx2 : Nat} {cx2 : Nat} {w : World} {R : Ending → World → Prop} (h : V.slices_Insert_tree_entry_int px0 lx0 cx0 ix1 px2 lx2 cx2 w R) : Calls prog f_slices_Insert_tree_entry_int #[.slice px0 lx0 cx0, .int .i64 ix1, .slice px2 lx2 cx2] w R := calls_of mix lv_slices_Insert_tree_entry_int Try.func66 (by rw [Try.ntmps66]; exact Nat.le_of_ble_eq_true rfl) (cast (eqV.slices_Insert_tree_entry_int px0 lx0 cx0 ix1 px2 lx2 cx2 w R).symm h)
/-! #### slices.rotateRight[*afflux/tree.page[int]] -/
def lv_slices_rotateRight_ptr_tree_page_int : Nat → List Nat := fun _ => []
def V.slices_rotateRight_ptr_tree_page_int (px0 : Option Addr) (lx0 : Nat) (cx0 : Nat) (ix1 : Int) (w : World) (R : Ending → World → Prop) : Prop :=
 Calls prog f_slices_rotateLeft_ptr_tree_page_int #[.slice px0 lx0 cx0, .int .i64 (IntKind.wrap .i64 ((lx0 : Int) - ix1))] w fun e w_1 => e = .returned (.tuple #[]) ∧
 R (.returned (.tuple #[])) w_1
theorem eqV.slices_rotateRight_ptr_tree_page_int (px0 : Option Addr) (lx0 : Nat) (cx0 : Nat) (ix1 : Int) (w : World) (R : Ending → World → Prop) : vcFn prog Try.f68 lv_slices_rotateRight_ptr_tree_page_int [.slice px0 lx0 cx0, .int .i64 ix1] w R = V.slices_rotateRight_ptr_tree_page_int px0 lx0 cx0 ix1 w R := by kernel_rfl
theorem ok.slices_rotateRight_ptr_tree_page_int {px0 : Option Addr} {lx0 : Nat} {cx0 : Nat} {ix1 : Int} {w : World} {R : Ending → World → Prop} (h : V.slices_rotateRight_ptr_tree_page_int px0 lx0 cx0 ix1 w R) : Calls prog f_slices_rotateRight_ptr_tree_page_int #[.slice px0 lx0 cx0, .int .i64 ix1] w R := calls_of mix lv_slices_rotateRight_ptr_tree_page_int Try.func68 (by rw [Try.ntmps68]; exact Nat.le_of_ble_eq_true rfl) (cast (eqV.slices_rotateRight_ptr_tree_page_int px0 lx0 cx0 ix1 w R).symm h)
/-! #### slices.Delete[[]afflux/tree.entry[int],afflux/tree.entry[int]] -/
def lv_slices_Delete_tree_entry_int : Nat → List Nat := fun _ => []
def V.slices_Delete_tree_entry_int (px0 : Option Addr) (lx0 : Nat) (cx0 : Nat) (ix1 : Int) (ix2 : Int) (w : World) (R : Ending → World → Prop) : Prop :=
 SlB lx0 cx0 (some ix1) (some ix2) (some (lx0 : Int)) fun lo13 hi13 mx13 =>
 Br (ix1 == ix2) (
  R (.returned (.slice px0 lx0 cx0)) w
 ) (
  Dr w fun w_1 =>
  SlB lx0 cx0 none (some ix1) none fun lo22 hi22 mx22 =>
  SlB lx0 cx0 (some ix2) none none fun lo25 hi25 mx25 =>
  Run prog (Builtin.append_ #[61, 61] 61 #[.slice (slAt px0 lo22 mx22 2) (hi22 - lo22) (mx22 - lo22), .slice (slAt px0 lo25 mx25 2) (hi25 - lo25) (mx25 - lo25)]) w_1 fun v26 w_2 => ∃ p26 l26 c26, v26 = .slice p26 l26 c26 ∧
  SlB l26 c26 (some (l26 : Int)) (some (lx0 : Int)) none fun lo31 hi31 mx31 =>
  Run prog (Builtin.clear_ #[61] 0 #[.slice (slAt p26 lo31 mx31 2) (hi31 - lo31) (mx31 - lo31)]) w_2 fun v w_3 =>
  R (.returned (.slice p26 l26 c26)) w_3
 )
theorem eqV.slices_Delete_tree_entry_int (px0 : Option Addr) (lx0 : Nat) (cx0 : Nat) (ix1 : Int) (ix2 : Int) (w : World) (R : Ending → World → Prop) : vcFn prog Try.f74 lv_slices_Delete_tree_entry_int [.slice px0 lx0 cx0, .int .i64 ix1, .int .i64 ix2] w R = V.slices_Delete_tree_entry_int px0 lx0 cx0 ix1 ix2 w R := by kernel_rfl
theorem ok.slices_Delete_tree_entry_int {px0 : Option Addr} {lx0 : Nat} {cx0 : Nat} {ix1 : Int} {ix2 : Int} {w : World} {R : Ending → World → Prop} (h : V.slices_Delete_tree_entry_int px0 lx0 cx0 ix1 ix2 w R) : Calls prog f_slices_Delete_tree_entry_int #[.slice px0 lx0 cx0, .int .i64 ix1, .int .i64 ix2] w R := calls_of mix lv_slices_Delete_tree_entry_int Try.func74 (by rw [Try.ntmps74]; exact Nat.le_of_ble_eq_true rfl) (cast (eqV.slices_Delete_tree_entry_int px0 lx0 cx0 ix1 ix2 w R).symm h)
/-! #### (*afflux/tree.page[int]).right -/
def lv_tree_page_int_right : Nat → List Nat := fun _ => []
def V.tree_page_int_right (px0 : Option Addr) (ix1 : Int) (w : World) (R : Ending → World → Prop) : Prop :=
 Dr w fun w_1 =>
 ∃ a8, px0 = some a8 ∧
 ∃ a15, px0 = some a15 ∧
 ∃ p10 l10 c10, w_1.cell? (a8.add 1) = some (.slice p10 l10 c10) ∧
 ∃ a12, p10 = some a12 ∧ (0 ≤ ix1 ∧ ix1 < (l10 : Int)) ∧
 ∃ p13, w_1.cell? (a12.add (ix1.toNat * 1)) = some (.pointer p13) ∧
 ∃ p17 l17 c17, w_1.cell? (a15.add 1) = some (.slice p17 l17 c17) ∧
 ∃ a20, p17 = some a20 ∧ (0 ≤ (IntKind.wrap .i64 (ix1 + (1 : Int))) ∧ (IntKind.wrap .i64 (ix1 + (1 : Int))) < (l17 : Int)) ∧
 ∃ p21, w_1.cell? (a20.add ((IntKind.wrap .i64 (ix1 + (1 : Int))).toNat * 1)) = some (.pointer p21) ∧
 Dr w_1 fun w_2 =>
 ∃ a23, p21 = some a23 ∧
 ∃ a26, px0 = some a26 ∧
 ∃ p29 l29 c29, w_2.cell? a26 = some (.slice p29 l29 c29) ∧
 ∃ a31, p29 = some a31 ∧ (0 ≤ ix1 ∧ ix1 < (l29 : Int)) ∧
 ∃ s32, w_2.cell? (a31.add (ix1.toNat * 2)) = some (.string s32) ∧
 ∃ i32, w_2.cell? ((a31.add (ix1.toNat * 2)).add 1) = some (.int .i64 i32) ∧
 Calls prog f_tree_shelf_int_insert #[.pointer (some a23), .int .i64 0, .agg #[.string s32, .int .i64 i32]] w_2 fun e w_3 => e = .returned (.tuple #[]) ∧
 Jn (α := World → Prop) (fun J =>
  Dr w_3 fun w_5 =>
  ∃ a35, px0 = some a35 ∧
  ∃ a41, p13 = some a41 ∧
  ∃ a44, p13 = some a44 ∧
  ∃ p47 l47 c47, w_5.cell? a44 = some (.slice p47 l47 c47) ∧
  (
   ∃ p38 l38 c38, w_5.cell? a35 = some (.slice p38 l38 c38) ∧
   Calls prog f_tree_shelf_int_remove #[.pointer (some a41), .int .i64 (IntKind.wrap .i64 ((l47 : Int) - (1 : Int)))] w_5 fun e_1 w_6 => ∃ s50 i50, e_1 = .returned (.agg #[.string s50, .int .i64 i50]) ∧
   ∃ a51, p38 = some a51 ∧ (0 ≤ ix1 ∧ ix1 < (l38 : Int)) ∧
   St w_6 (a51.add (ix1.toNat * 2)) (.string s50) fun w_7 =>
   St w_7 ((a51.add (ix1.toNat * 2)).add 1) (.int .i64 i50) fun w_8 =>
   J w_8
  ) ∧
  (
   Calls prog f_tree_shelf_int_remove #[.pointer (some a41), .int .i64 (IntKind.wrap .i64 ((l47 : Int) - (1 : Int)))] w_5 fun e_2 w_9 => ∃ s50_1 i50_1, e_2 = .returned (.agg #[.string s50_1, .int .i64 i50_1]) ∧
   ∃ p38_1 l38_1 c38_1, w_9.cell? a35 = some (.slice p38_1 l38_1 c38_1) ∧
   ∃ a51_1, p38_1 = some a51_1 ∧ (0 ≤ ix1 ∧ ix1 < (l38_1 : Int)) ∧
   St w_9 (a51_1.add (ix1.toNat * 2)) (.string s50_1) fun w_10 =>
   St w_10 ((a51_1.add (ix1.toNat * 2)).add 1) (.int .i64 i50_1) fun w_11 =>
   J w_11
  )
 ) (fun w_4 =>
  Calls prog f_tree_page_int_leaf #[.pointer p13] w_4 fun e_3 w_12 => ∃ b53, e_3 = .returned (.bool b53) ∧
  Br (!b53) (
   ∃ a56, p13 = some a56 ∧
   ∃ p58 l58 c58, w_12.cell? (a56.add 1) = some (.slice p58 l58 c58) ∧
   Lt ((IntKind.wrap .i64 ((l58 : Int) - (1 : Int))) : Int) fun i6 =>
   Dr w_12 fun w_13 =>
   ∃ a63, p21 = some a63 ∧
   ∃ a67, p13 = some a67 ∧
   ∃ p65 l65 c65, w_13.cell? (a63.add 1) = some (.slice p65 l65 c65) ∧
   ∃ p69 l69 c69, w_13.cell? (a67.add 1) = some (.slice p69 l69 c69) ∧
   ∃ a71, p69 = some a71 ∧ (0 ≤ i6 ∧ i6 < (l69 : Int)) ∧
   ∃ p72, w_13.cell? (a71.add (i6.toNat * 1)) = some (.pointer p72) ∧
   Al w_13 (.cells #[.pointer p72] 60) fun a73 w_14 =>
   Calls prog f_slices_Insert_ptr_tree_page_int #[.slice p65 l65 c65, .int .i64 0, .slice (some a73) 1 1] w_14 fun e_4 w_15 => ∃ p74 l74 c74, e_4 = .returned (.slice p74 l74 c74) ∧
   ∃ a75, p21 = some a75 ∧
   St w_15 (a75.add 1) (.slice p74 l74 c74) fun w_16 =>
   ∃ a79, p13 = some a79 ∧
   ∃ p81 l81 c81, w_16.cell? (a79.add 1) = some (.slice p81 l81 c81) ∧
   SlB l81 c81 none (some i6) none fun lo83 hi83 mx83 =>
   ∃ a84, p13 = some a84 ∧
   St w_16 (a84.add 1) (.slice (slAt p81 lo83 mx83 1) (hi83 - lo83) (mx83 - lo83)) fun w_17 =>
   R (.returned (.tuple #[])) w_17
  ) (
   R (.returned (.tuple #[])) w_12
  )
 )
theorem eqV.tree_page_int_right (px0 : Option Addr) (ix1 : Int) (w : World) (R : Ending → World → Prop) : vcFn prog Try.f75 lv_tree_page_int_right [.pointer px0, .int .i64 ix1] w R = V.tree_page_int_right px0 ix1 w R := by kernel_rfl
theorem ok.tree_page_int_right {px0 : Option Addr} {ix1 : Int} {w : World} {R : Ending → World → Prop} (h : V.tree_page_int_right px0 ix1 w R) : Calls prog f_tree_page_int_right #[.pointer px0, .int .i64 ix1] w R := calls_of mix lv_tree_page_int_right Try.func75 (by rw [Try.ntmps75]; exact Nat.le_of_ble_eq_true rfl) (cast (eqV.tree_page_int_right px0 ix1 w R).symm h)
/-! #### (*afflux/tree.page[int]).left -/
def lv_tree_page_int_left : Nat → List Nat := fun _ => []
def V.tree_page_int_left (px0 : Option Addr) (ix1 : Int) (w : World) (R : Ending → World → Prop) : Prop :=
 Dr w fun w_1 =>
 ∃ a7, px0 = some a7 ∧
 ∃ a14, px0 = some a14 ∧
 ∃ p9 l9 c9, w_1.cell? (a7.add 1) = some (.slice p9 l9 c9) ∧
 ∃ a11, p9 = some a11 ∧ (0 ≤ ix1 ∧ ix1 < (l9 : Int)) ∧
 ∃ p12, w_1.cell? (a11.add (ix1.toNat * 1)) = some (.pointer p12) ∧
 ∃ p16 l16 c16, w_1.cell? (a14.add 1) = some (.slice p16 l16 c16) ∧
 ∃ a19, p16 = some a19 ∧ (0 ≤ (IntKind.wrap .i64 (ix1 + (1 : Int))) ∧ (IntKind.wrap .i64 (ix1 + (1 : Int))) < (l16 : Int)) ∧
 ∃ p20, w_1.cell? (a19.add ((IntKind.wrap .i64 (ix1 + (1 : Int))).toNat * 1)) = some (.pointer p20) ∧
 Dr w_1 fun w_2 =>
 ∃ a22, p12 = some a22 ∧
 ∃ a25, p12 = some a25 ∧
 ∃ a31, px0 = some a31 ∧
 ∃ p28 l28 c28, w_2.cell? a25 = some (.slice p28 l28 c28) ∧
 ∃ p34 l34 c34, w_2.cell? a31 = some (.slice p34 l34 c34) ∧
 ∃ a36, p34 = some a36 ∧ (0 ≤ ix1 ∧ ix1 < (l34 : Int)) ∧
 ∃ s37, w_2.cell? (a36.add (ix1.toNat * 2)) = some (.string s37) ∧
 ∃ i37, w_2.cell? ((a36.add (ix1.toNat * 2)).add 1) = some (.int .i64 i37) ∧
 Calls prog f_tree_shelf_int_insert #[.pointer (some a22), .int .i64 (l28 : Int), .agg #[.string s37, .int .i64 i37]] w_2 fun e w_3 => e = .returned (.tuple #[]) ∧
 Jn (α := World → Prop) (fun J =>
  Dr w_3 fun w_5 =>
  ∃ a40, px0 = some a40 ∧
  ∃ a46, p20 = some a46 ∧
  (
   ∃ p43 l43 c43, w_5.cell? a40 = some (.slice p43 l43 c43) ∧
   Calls prog f_tree_shelf_int_remove #[.pointer (some a46), .int .i64 0] w_5 fun e_1 w_6 => ∃ s48 i48, e_1 = .returned (.agg #[.string s48, .int .i64 i48]) ∧
   ∃ a49, p43 = some a49 ∧ (0 ≤ ix1 ∧ ix1 < (l43 : Int)) ∧
   St w_6 (a49.add (ix1.toNat * 2)) (.string s48) fun w_7 =>
   St w_7 ((a49.add (ix1.toNat * 2)).add 1) (.int .i64 i48) fun w_8 =>
   J w_8
  ) ∧
  (
   Calls prog f_tree_shelf_int_remove #[.pointer (some a46), .int .i64 0] w_5 fun e_2 w_9 => ∃ s48_1 i48_1, e_2 = .returned (.agg #[.string s48_1, .int .i64 i48_1]) ∧
   ∃ p43_1 l43_1 c43_1, w_9.cell? a40 = some (.slice p43_1 l43_1 c43_1) ∧
   ∃ a49_1, p43_1 = some a49_1 ∧ (0 ≤ ix1 ∧ ix1 < (l43_1 : Int)) ∧
   St w_9 (a49_1.add (ix1.toNat * 2)) (.string s48_1) fun w_10 =>
   St w_10 ((a49_1.add (ix1.toNat * 2)).add 1) (.int .i64 i48_1) fun w_11 =>
   J w_11
  )
 ) (fun w_4 =>
  Calls prog f_tree_page_int_leaf #[.pointer p20] w_4 fun e_3 w_12 => ∃ b51, e_3 = .returned (.bool b51) ∧
  Br (!b51) (
   Dr w_12 fun w_13 =>
   ∃ a55, p12 = some a55 ∧
   ∃ a59, p20 = some a59 ∧
   ∃ p57 l57 c57, w_13.cell? (a55.add 1) = some (.slice p57 l57 c57) ∧
   ∃ p61 l61 c61, w_13.cell? (a59.add 1) = some (.slice p61 l61 c61) ∧
   ∃ a62, p61 = some a62 ∧ (0 ≤ (0 : Int) ∧ (0 : Int) < (l61 : Int)) ∧
   ∃ p63, w_13.cell? (a62.add ((0 : Int).toNat * 1)) = some (.pointer p63) ∧
   Al w_13 (.cells #[.pointer p63] 60) fun a64 w_14 =>
   Run prog (Builtin.append_ #[64, 64] 64 #[.slice p57 l57 c57, .slice (some a64) 1 1]) w_14 fun v65 w_15 => ∃ p65 l65 c65, v65 = .slice p65 l65 c65 ∧
   ∃ a66, p12 = some a66 ∧
   St w_15 (a66.add 1) (.slice p65 l65 c65) fun w_16 =>
   ∃ a70, p20 = some a70 ∧
   ∃ p72 l72 c72, w_16.cell? (a70.add 1) = some (.slice p72 l72 c72) ∧
   Calls prog f_slices_Delete_ptr_tree_page_int #[.slice p72 l72 c72, .int .i64 0, .int .i64 1] w_16 fun e_4 w_17 => ∃ p73 l73 c73, e_4 = .returned (.slice p73 l73 c73) ∧
   ∃ a74, p20 = some a74 ∧
   St w_17 (a74.add 1) (.slice p73 l73 c73) fun w_18 =>
   R (.returned (.tuple #[])) w_18
  ) (
   R (.returned (.tuple #[])) w_12
  )
 )
theorem eqV.tree_page_int_left (px0 : Option Addr) (ix1 : Int) (w : World) (R : Ending → World → Prop) : vcFn prog Try.f76 lv_tree_page_int_left [.pointer px0, .int .i64 ix1] w R = V.tree_page_int_left px0 ix1 w R := by kernel_rfl
theorem ok.tree_page_int_left {px0 : Option Addr} {ix1 : Int} {w : World} {R : Ending → World → Prop} (h : V.tree_page_int_left px0 ix1 w R) : Calls prog f_tree_page_int_left #[.pointer px0, .int .i64 ix1] w R := calls_of mix lv_tree_page_int_left Try.func76 (by rw [Try.ntmps76]; exact Nat.le_of_ble_eq_true rfl) (cast (eqV.tree_page_int_left px0 ix1 w R).symm h)
/-! #### (*afflux/tree.page[int]).join -/
def lv_tree_page_int_join : Nat → List Nat := fun _ => []
def V.tree_page_int_join (px0 : Option Addr) (ix1 : Int) (w : World) (R : Ending → World → Prop) : Prop :=
 Dr w fun w_1 =>
 ∃ a7, px0 = some a7 ∧
 ∃ a14, px0 = some a14 ∧
 ∃ p9 l9 c9, w_1.cell? (a7.add 1) = some (.slice p9 l9 c9) ∧
 ∃ a11, p9 = some a11 ∧ (0 ≤ ix1 ∧ ix1 < (l9 : Int)) ∧
 ∃ p12, w_1.cell? (a11.add (ix1.toNat * 1)) = some (.pointer p12) ∧
 ∃ p16 l16 c16, w_1.cell? (a14.add 1) = some (.slice p16 l16 c16) ∧
 ∃ a19, p16 = some a19 ∧ (0 ≤ (IntKind.wrap .i64 (ix1 + (1 : Int))) ∧ (IntKind.wrap .i64 (ix1 + (1 : Int))) < (l16 : Int)) ∧
 ∃ p20, w_1.cell? (a19.add ((IntKind.wrap .i64 (ix1 + (1 : Int))).toNat * 1)) = some (.pointer p20) ∧
 Jn (α := World → Prop) (fun J =>
  Dr w_1 fun w_3 =>
  ∃ a22, p12 = some a22 ∧
  ∃ a25, p12 = some a25 ∧
  ∃ a31, px0 = some a31 ∧
  (
   ∃ p28 l28 c28, w_3.cell? a25 = some (.slice p28 l28 c28) ∧
   Calls prog f_tree_shelf_int_remove #[.pointer (some a31), .int .i64 ix1] w_3 fun e w_4 => ∃ s34 i34, e = .returned (.agg #[.string s34, .int .i64 i34]) ∧
   Calls prog f_tree_shelf_int_insert #[.pointer (some a22), .int .i64 (l28 : Int), .agg #[.string s34, .int .i64 i34]] w_4 fun e_1 w_5 => e_1 = .returned (.tuple #[]) ∧
   J w_5
  ) ∧
  (
   Calls prog f_tree_shelf_int_remove #[.pointer (some a31), .int .i64 ix1] w_3 fun e_2 w_6 => ∃ s34_1 i34_1, e_2 = .returned (.agg #[.string s34_1, .int .i64 i34_1]) ∧
   ∃ p28_1 l28_1 c28_1, w_6.cell? a25 = some (.slice p28_1 l28_1 c28_1) ∧
   Calls prog f_tree_shelf_int_insert #[.pointer (some a22), .int .i64 (l28_1 : Int), .agg #[.string s34_1, .int .i64 i34_1]] w_6 fun e_3 w_7 => e_3 = .returned (.tuple #[]) ∧
   J w_7
  )
 ) (fun w_2 =>
  Dr w_2 fun w_8 =>
  ∃ a38, p12 = some a38 ∧
  ∃ a43, p20 = some a43 ∧
  ∃ p41 l41 c41, w_8.cell? a38 = some (.slice p41 l41 c41) ∧
  ∃ p46 l46 c46, w_8.cell? a43 = some (.slice p46 l46 c46) ∧
  Run prog (Builtin.append_ #[61, 61] 61 #[.slice p41 l41 c41, .slice p46 l46 c46]) w_8 fun v47 w_9 => ∃ p47 l47 c47, v47 = .slice p47 l47 c47 ∧
  ∃ a48, p12 = some a48 ∧
  St w_9 a48 (.slice p47 l47 c47) fun w_10 =>
  Dr w_10 fun w_11 =>
  ∃ a53, p12 = some a53 ∧
  ∃ a57, p20 = some a57 ∧
  ∃ p55 l55 c55, w_11.cell? (a53.add 1) = some (.slice p55 l55 c55) ∧
  ∃ p59 l59 c59, w_11.cell? (a57.add 1) = some (.slice p59 l59 c59) ∧
  Run prog (Builtin.append_ #[64, 64] 64 #[.slice p55 l55 c55, .slice p59 l59 c59]) w_11 fun v60 w_12 => ∃ p60 l60 c60, v60 = .slice p60 l60 c60 ∧
  ∃ a61, p12 = some a61 ∧
  St w_12 (a61.add 1) (.slice p60 l60 c60) fun w_13 =>
  ∃ a65, px0 = some a65 ∧
  ∃ p67 l67 c67, w_13.cell? (a65.add 1) = some (.slice p67 l67 c67) ∧
  Calls prog f_slices_Delete_ptr_tree_page_int #[.slice p67 l67 c67, .int .i64 (IntKind.wrap .i64 (ix1 + (1 : Int))), .int .i64 (IntKind.wrap .i64 (ix1 + (2 : Int)))] w_13 fun e_4 w_14 => ∃ p72 l72 c72, e_4 = .returned (.slice p72 l72 c72) ∧
  ∃ a73, px0 = some a73 ∧
  St w_14 (a73.add 1) (.slice p72 l72 c72) fun w_15 =>
  R (.returned (.tuple #[])) w_15
 )
theorem eqV.tree_page_int_join (px0 : Option Addr) (ix1 : Int) (w : World) (R : Ending → World → Prop) : vcFn prog Try.f77 lv_tree_page_int_join [.pointer px0, .int .i64 ix1] w R = V.tree_page_int_join px0 ix1 w R := by kernel_rfl
theorem ok.tree_page_int_join {px0 : Option Addr} {ix1 : Int} {w : World} {R : Ending → World → Prop} (h : V.tree_page_int_join px0 ix1 w R) : Calls prog f_tree_page_int_join #[.pointer px0, .int .i64 ix1] w R := calls_of mix lv_tree_page_int_join Try.func77 (by rw [Try.ntmps77]; exact Nat.le_of_ble_eq_true rfl) (cast (eqV.tree_page_int_join px0 ix1 w R).symm h)
/-! #### slices.rotateRight[afflux/tree.entry[int]] -/
def lv_slices_rotateRight_tree_entry_int : Nat → List Nat := fun _ => []
def V.slices_rotateRight_tree_entry_int (px0 : Option Addr) (lx0 : Nat) (cx0 : Nat) (ix1 : Int) (w : World) (R : Ending → World → Prop) : Prop :=
 Calls prog f_slices_rotateLeft_tree_entry_int #[.slice px0 lx0 cx0, .int .i64 (IntKind.wrap .i64 ((lx0 : Int) - ix1))] w fun e w_1 => e = .returned (.tuple #[]) ∧
 R (.returned (.tuple #[])) w_1
theorem eqV.slices_rotateRight_tree_entry_int (px0 : Option Addr) (lx0 : Nat) (cx0 : Nat) (ix1 : Int) (w : World) (R : Ending → World → Prop) : vcFn prog Try.f83 lv_slices_rotateRight_tree_entry_int [.slice px0 lx0 cx0, .int .i64 ix1] w R = V.slices_rotateRight_tree_entry_int px0 lx0 cx0 ix1 w R := by kernel_rfl
theorem ok.slices_rotateRight_tree_entry_int {px0 : Option Addr} {lx0 : Nat} {cx0 : Nat} {ix1 : Int} {w : World} {R : Ending → World → Prop} (h : V.slices_rotateRight_tree_entry_int px0 lx0 cx0 ix1 w R) : Calls prog f_slices_rotateRight_tree_entry_int #[.slice px0 lx0 cx0, .int .i64 ix1] w R := calls_of mix lv_slices_rotateRight_tree_entry_int Try.func83 (by rw [Try.ntmps83]; exact Nat.le_of_ble_eq_true rfl) (cast (eqV.slices_rotateRight_tree_entry_int px0 lx0 cx0 ix1 w R).symm h)
/-! #### slices.rotateLeft[*afflux/tree.page[int]] -/
def lv_slices_rotateLeft_ptr_tree_page_int : Nat → List Nat := fun _ => []
def V.slices_rotateLeft_ptr_tree_page_int (px0 : Option Addr) (lx0 : Nat) (cx0 : Nat) (ix1 : Int) (w : World) (R : Ending → World → Prop) : Prop :=
 SlB lx0 cx0 none (some ix1) none fun lo6 hi6 mx6 =>
 Calls prog f_slices_Reverse_ptr_tree_page_int #[.slice (slAt px0 lo6 mx6 1) (hi6 - lo6) (mx6 - lo6)] w fun e w_1 => e = .returned (.tuple #[]) ∧
 SlB lx0 cx0 (some ix1) none none fun lo10 hi10 mx10 =>
 Calls prog f_slices_Reverse_ptr_tree_page_int #[.slice (slAt px0 lo10 mx10 1) (hi10 - lo10) (mx10 - lo10)] w_1 fun e_1 w_2 => e_1 = .returned (.tuple #[]) ∧
 Calls prog f_slices_Reverse_ptr_tree_page_int #[.slice px0 lx0 cx0] w_2 fun e_2 w_3 => e_2 = .returned (.tuple #[]) ∧
 R (.returned (.tuple #[])) w_3
theorem eqV.slices_rotateLeft_ptr_tree_page_int (px0 : Option Addr) (lx0 : Nat) (cx0 : Nat) (ix1 : Int) (w : World) (R : Ending → World → Prop) : vcFn prog Try.f84 lv_slices_rotateLeft_ptr_tree_page_int [.slice px0 lx0 cx0, .int .i64 ix1] w R = V.slices_rotateLeft_ptr_tree_page_int px0 lx0 cx0 ix1 w R := by kernel_rfl
theorem ok.slices_rotateLeft_ptr_tree_page_int {px0 : Option Addr} {lx0 : Nat} {cx0 : Nat} {ix1 : Int} {w : World} {R : Ending → World → Prop} (h : V.slices_rotateLeft_ptr_tree_page_int px0 lx0 cx0 ix1 w R) : Calls prog f_slices_rotateLeft_ptr_tree_page_int #[.slice px0 lx0 cx0, .int .i64 ix1] w R := calls_of mix lv_slices_rotateLeft_ptr_tree_page_int Try.func84 (by rw [Try.ntmps84]; exact Nat.le_of_ble_eq_true rfl) (cast (eqV.slices_rotateLeft_ptr_tree_page_int px0 lx0 cx0 ix1 w R).symm h)
/-! #### slices.Delete[[]*afflux/tree.page[int],*afflux/tree.page[int]] -/
def lv_slices_Delete_ptr_tree_page_int : Nat → List Nat := fun _ => []
def V.slices_Delete_ptr_tree_page_int (px0 : Option Addr) (lx0 : Nat) (cx0 : Nat) (ix1 : Int) (ix2 : Int) (w : World) (R : Ending → World → Prop) : Prop :=
 SlB lx0 cx0 (some ix1) (some ix2) (some (lx0 : Int)) fun lo13 hi13 mx13 =>
 Br (ix1 == ix2) (
  R (.returned (.slice px0 lx0 cx0)) w
 ) (
  Dr w fun w_1 =>
  SlB lx0 cx0 none (some ix1) none fun lo22 hi22 mx22 =>
  SlB lx0 cx0 (some ix2) none none fun lo25 hi25 mx25 =>
  Run prog (Builtin.append_ #[64, 64] 64 #[.slice (slAt px0 lo22 mx22 1) (hi22 - lo22) (mx22 - lo22), .slice (slAt px0 lo25 mx25 1) (hi25 - lo25) (mx25 - lo25)]) w_1 fun v26 w_2 => ∃ p26 l26 c26, v26 = .slice p26 l26 c26 ∧
  SlB l26 c26 (some (l26 : Int)) (some (lx0 : Int)) none fun lo31 hi31 mx31 =>
  Run prog (Builtin.clear_ #[64] 0 #[.slice (slAt p26 lo31 mx31 1) (hi31 - lo31) (mx31 - lo31)]) w_2 fun v w_3 =>
  R (.returned (.slice p26 l26 c26)) w_3
 )
theorem eqV.slices_Delete_ptr_tree_page_int (px0 : Option Addr) (lx0 : Nat) (cx0 : Nat) (ix1 : Int) (ix2 : Int) (w : World) (R : Ending → World → Prop) : vcFn prog Try.f88 lv_slices_Delete_ptr_tree_page_int [.slice px0 lx0 cx0, .int .i64 ix1, .int .i64 ix2] w R = V.slices_Delete_ptr_tree_page_int px0 lx0 cx0 ix1 ix2 w R := by kernel_rfl
theorem ok.slices_Delete_ptr_tree_page_int {px0 : Option Addr} {lx0 : Nat} {cx0 : Nat} {ix1 : Int} {ix2 : Int} {w : World} {R : Ending → World → Prop} (h : V.slices_Delete_ptr_tree_page_int px0 lx0 cx0 ix1 ix2 w R) : Calls prog f_slices_Delete_ptr_tree_page_int #[.slice px0 lx0 cx0, .int .i64 ix1, .int .i64 ix2] w R := calls_of mix lv_slices_Delete_ptr_tree_page_int Try.func88 (by rw [Try.ntmps88]; exact Nat.le_of_ble_eq_true rfl) (cast (eqV.slices_Delete_ptr_tree_page_int px0 lx0 cx0 ix1 ix2 w R).symm h)
/-! #### slices.rotateLeft[afflux/tree.entry[int]] -/
def lv_slices_rotateLeft_tree_entry_int : Nat → List Nat := fun _ => []
def V.slices_rotateLeft_tree_entry_int (px0 : Option Addr) (lx0 : Nat) (cx0 : Nat) (ix1 : Int) (w : World) (R : Ending → World → Prop) : Prop :=
 SlB lx0 cx0 none (some ix1) none fun lo6 hi6 mx6 =>
 Calls prog f_slices_Reverse_tree_entry_int #[.slice (slAt px0 lo6 mx6 2) (hi6 - lo6) (mx6 - lo6)] w fun e w_1 => e = .returned (.tuple #[]) ∧
 SlB lx0 cx0 (some ix1) none none fun lo10 hi10 mx10 =>
 Calls prog f_slices_Reverse_tree_entry_int #[.slice (slAt px0 lo10 mx10 2) (hi10 - lo10) (mx10 - lo10)] w_1 fun e_1 w_2 => e_1 = .returned (.tuple #[]) ∧
 Calls prog f_slices_Reverse_tree_entry_int #[.slice px0 lx0 cx0] w_2 fun e_2 w_3 => e_2 = .returned (.tuple #[]) ∧
 R (.returned (.tuple #[])) w_3
theorem eqV.slices_rotateLeft_tree_entry_int (px0 : Option Addr) (lx0 : Nat) (cx0 : Nat) (ix1 : Int) (w : World) (R : Ending → World → Prop) : vcFn prog Try.f90 lv_slices_rotateLeft_tree_entry_int [.slice px0 lx0 cx0, .int .i64 ix1] w R = V.slices_rotateLeft_tree_entry_int px0 lx0 cx0 ix1 w R := by kernel_rfl
theorem ok.slices_rotateLeft_tree_entry_int {px0 : Option Addr} {lx0 : Nat} {cx0 : Nat} {ix1 : Int} {w : World} {R : Ending → World → Prop} (h : V.slices_rotateLeft_tree_entry_int px0 lx0 cx0 ix1 w R) : Calls prog f_slices_rotateLeft_tree_entry_int #[.slice px0 lx0 cx0, .int .i64 ix1] w R := calls_of mix lv_slices_rotateLeft_tree_entry_int Try.func90 (by rw [Try.ntmps90]; exact Nat.le_of_ble_eq_true rfl) (cast (eqV.slices_rotateLeft_tree_entry_int px0 lx0 cx0 ix1 w R).symm h)
/-! #### slices.Reverse[[]*afflux/tree.page[int],*afflux/tree.page[int]] -/
def lv_slices_Reverse_ptr_tree_page_int : Nat → List Nat := fun k => match k with | 1 => [0, 2, 3] | _ => []
def L.slices_Reverse_ptr_tree_page_int_L0 (p0 : Option Addr) (l0 : Nat) (c0 : Nat) (i2 : Int) (i3 : Int) (w : World) (R : Ending → World → Prop) : Prop :=
 LoopAt prog Try.f91 lv_slices_Reverse_ptr_tree_page_int [1, 0] R [(0, .slice p0 l0 c0), (2, .int .i64 i2), (3, .int .i64 i3)] w
def B.slices_Reverse_ptr_tree_page_int_L0 (p0 : Option Addr) (l0 : Nat) (c0 : Nat) (i2 : Int) (i3 : Int) (w : World) (R : Ending → World → Prop) : Prop :=
 Br (decide (i2 < i3)) (
  Dr w fun w_1 =>
  ∃ a20, p0 = some a20 ∧ (0 ≤ i3 ∧ i3 < (l0 : Int)) ∧
  ∃ a24, p0 = some a24 ∧ (0 ≤ i2 ∧ i2 < (l0 : Int)) ∧
  ∃ p21, w_1.cell? (a20.add (i3.toNat * 1)) = some (.pointer p21) ∧
  ∃ p25, w_1.cell? (a24.add (i2.toNat * 1)) = some (.pointer p25) ∧
  ∃ a26, p0 = some a26 ∧ (0 ≤ i2 ∧ i2 < (l0 : Int)) ∧
  St w_1 (a26.add (i2.toNat * 1)) (.pointer p21) fun w_2 =>
  ∃ a27, p0 = some a27 ∧ (0 ≤ i3 ∧ i3 < (l0 : Int)) ∧
  St w_2 (a27.add (i3.toNat * 1)) (.pointer p25) fun w_3 =>
  Lt ((IntKind.wrap .i64 (i2 + (1 : Int))) : Int) fun i2_1 =>
  Lt ((IntKind.wrap .i64 (i3 - (1 : Int))) : Int) fun i3_1 =>
  L.slices_Reverse_ptr_tree_page_int_L0 p0 l0 c0 i2_1 i3_1 w_3 R
 ) (
  R (.returned (.tuple #[])) w
 )
def V.slices_Reverse_ptr_tree_page_int (px0 : Option Addr) (lx0 : Nat) (cx0 : Nat) (w : World) (R : Ending → World → Prop) : Prop :=
 Lt ((IntKind.wrap .i64 ((lx0 : Int) - (1 : Int))) : Int) fun i3 =>
 L.slices_Reverse_ptr_tree_page_int_L0 px0 lx0 cx0 0 i3 w R
theorem eqB.slices_Reverse_ptr_tree_page_int_L0 (p0 : Option Addr) (l0 : Nat) (c0 : Nat) (i2 : Int) (i3 : Int) (w : World) (R : Ending → World → Prop) : RoundAt prog Try.f91 lv_slices_Reverse_ptr_tree_page_int [1, 0] R [(0, .slice p0 l0 c0), (2, .int .i64 i2), (3, .int .i64 i3)] w = B.slices_Reverse_ptr_tree_page_int_L0 p0 l0 c0 i2 i3 w R := by kernel_rfl
theorem round.slices_Reverse_ptr_tree_page_int_L0 {p0 : Option Addr} {l0 : Nat} {c0 : Nat} {i2 : Int} {i3 : Int} {w : World} {R : Ending → World → Prop} (h : B.slices_Reverse_ptr_tree_page_int_L0 p0 l0 c0 i2 i3 w R) : L.slices_Reverse_ptr_tree_page_int_L0 p0 l0 c0 i2 i3 w R := LoopAt.unfold mix (cast (eqB.slices_Reverse_ptr_tree_page_int_L0 p0 l0 c0 i2 i3 w R).symm h)
theorem eqV.slices_Reverse_ptr_tree_page_int (px0 : Option Addr) (lx0 : Nat) (cx0 : Nat) (w : World) (R : Ending → World → Prop) : vcFn prog Try.f91 lv_slices_Reverse_ptr_tree_page_int [.slice px0 lx0 cx0] w R = V.slices_Reverse_ptr_tree_page_int px0 lx0 cx0 w R := by kernel_rfl
theorem ok.slices_Reverse_ptr_tree_page_int {px0 : Option Addr} {lx0 : Nat} {cx0 : Nat} {w : World} {R : Ending → World → Prop} (h : V.slices_Reverse_ptr_tree_page_int px0 lx0 cx0 w R) : Calls prog f_slices_Reverse_ptr_tree_page_int #[.slice px0 lx0 cx0] w R := calls_of mix lv_slices_Reverse_ptr_tree_page_int Try.func91 (by rw [Try.ntmps91]; exact Nat.le_of_ble_eq_true rfl) (cast (eqV.slices_Reverse_ptr_tree_page_int px0 lx0 cx0 w R).symm h)
/-! #### slices.Reverse[[]afflux/tree.entry[int],afflux/tree.entry[int]] -/
def lv_slices_Reverse_tree_entry_int : Nat → List Nat := fun k => match k with | 1 => [0, 2, 3] | _ => []
def L.slices_Reverse_tree_entry_int_L0 (p0 : Option Addr) (l0 : Nat) (c0 : Nat) (i2 : Int) (i3 : Int) (w : World) (R : Ending → World → Prop) : Prop :=
 LoopAt prog Try.f94 lv_slices_Reverse_tree_entry_int [1, 0] R [(0, .slice p0 l0 c0), (2, .int .i64 i2), (3, .int .i64 i3)] w
def B.slices_Reverse_tree_entry_int_L0 (p0 : Option Addr) (l0 : Nat) (c0 : Nat) (i2 : Int) (i3 : Int) (w : World) (R : Ending → World → Prop) : Prop :=
 Br (decide (i2 < i3)) (
  Dr w fun w_1 =>
  ∃ a20, p0 = some a20 ∧ (0 ≤ i3 ∧ i3 < (l0 : Int)) ∧
  ∃ a24, p0 = some a24 ∧ (0 ≤ i2 ∧ i2 < (l0 : Int)) ∧
  ∃ s21, w_1.cell? (a20.add (i3.toNat * 2)) = some (.string s21) ∧
  ∃ i21, w_1.cell? ((a20.add (i3.toNat * 2)).add 1) = some (.int .i64 i21) ∧
  ∃ s25, w_1.cell? (a24.add (i2.toNat * 2)) = some (.string s25) ∧
  ∃ i25, w_1.cell? ((a24.add (i2.toNat * 2)).add 1) = some (.int .i64 i25) ∧
  ∃ a26, p0 = some a26 ∧ (0 ≤ i2 ∧ i2 < (l0 : Int)) ∧
  St w_1 (a26.add (i2.toNat * 2)) (.string s21) fun w_2 =>
  St w_2 ((a26.add (i2.toNat * 2)).add 1) (.int .i64 i21) fun w_3 =>
  ∃ a27, p0 = some a27 ∧ (0 ≤ i3 ∧ i3 < (l0 : Int)) ∧
  St w_3 (a27.add (i3.toNat * 2)) (.string s25) fun w_4 =>
  St w_4 ((a27.add (i3.toNat * 2)).add 1) (.int .i64 i25) fun w_5 =>
  Lt ((IntKind.wrap .i64 (i2 + (1 : Int))) : Int) fun i2_1 =>
  Lt ((IntKind.wrap .i64 (i3 - (1 : Int))) : Int) fun i3_1 =>
  L.slices_Reverse_tree_entry_int_L0 p0 l0 c0 i2_1 i3_1 w_5 R
 ) (
  R (.returned (.tuple #[])) w
 )
def V.slices_Reverse_tree_entry_int (px0 : Option Addr) (lx0 : Nat) (cx0 : Nat) (w : World) (R : Ending → World → Prop) : Prop :=
 Lt ((IntKind.wrap .i64 ((lx0 : Int) - (1 : Int))) : Int) fun i3 =>
 L.slices_Reverse_tree_entry_int_L0 px0 lx0 cx0 0 i3 w R
theorem eqB.slices_Reverse_tree_entry_int_L0 (p0 : Option Addr) (l0 : Nat) (c0 : Nat) (i2 : Int) (i3 : Int) (w : World) (R : Ending → World → Prop) : RoundAt prog Try.f94 lv_slices_Reverse_tree_entry_int [1, 0] R [(0, .slice p0 l0 c0), (2, .int .i64 i2), (3, .int .i64 i3)] w = B.slices_Reverse_tree_entry_int_L0 p0 l0 c0 i2 i3 w R := by kernel_rfl
theorem round.slices_Reverse_tree_entry_int_L0 {p0 : Option Addr} {l0 : Nat} {c0 : Nat} {i2 : Int} {i3 : Int} {w : World} {R : Ending → World → Prop} (h : B.slices_Reverse_tree_entry_int_L0 p0 l0 c0 i2 i3 w R) : L.slices_Reverse_tree_entry_int_L0 p0 l0 c0 i2 i3 w R := LoopAt.unfold mix (cast (eqB.slices_Reverse_tree_entry_int_L0 p0 l0 c0 i2 i3 w R).symm h)
theorem eqV.slices_Reverse_tree_entry_int (px0 : Option Addr) (lx0 : Nat) (cx0 : Nat) (w : World) (R : Ending → World → Prop) : vcFn prog Try.f94 lv_slices_Reverse_tree_entry_int [.slice px0 lx0 cx0] w R = V.slices_Reverse_tree_entry_int px0 lx0 cx0 w R := by kernel_rfl
theorem ok.slices_Reverse_tree_entry_int {px0 : Option Addr} {lx0 : Nat} {cx0 : Nat} {w : World} {R : Ending → World → Prop} (h : V.slices_Reverse_tree_entry_int px0 lx0 cx0 w R) : Calls prog f_slices_Reverse_tree_entry_int #[.slice px0 lx0 cx0] w R := calls_of mix lv_slices_Reverse_tree_entry_int Try.func94 (by rw [Try.ntmps94]; exact Nat.le_of_ble_eq_true rfl) (cast (eqV.slices_Reverse_tree_entry_int px0 lx0 cx0 w R).symm h)
end Go.Proofs.Ytohhoojcgcbmcaa
