/- The names of the functions, and the program. Printed by a program of this work. -/
import Derived.Test.YtohhoojcgcbmcaaVcU
import Derived.Test.YtohhoojcgcbmcaaProg
import Derived.KernelRfl
set_option maxRecDepth 4000
set_option linter.unusedVariables false
set_option linter.unusedSimpArgs false
namespace Go.Proofs.Ytohhoojcgcbmcaa
open Go Go.Vc
noncomputable abbrev prog : Program := Try.prog
theorem mix : prog.follows .mixedOrders = true := by kernel_rfl
abbrev f_affluxlaw08_TreeKeys : FuncId := 3
abbrev f_affluxlaw08_TreeTurned : FuncId := 4
abbrev f_affluxlaw08_TreePlays : FuncId := 5
abbrev f_affluxlaw08_TreeNone : FuncId := 6
abbrev f_affluxlaw08_great : FuncId := 7
abbrev f_affluxlaw08_awake : FuncId := 8
abbrev f_affluxlaw08_play : FuncId := 9
abbrev f_affluxref05_Same : FuncId := 10
abbrev f_tree_Tree_int_Keys : FuncId := 11
abbrev f_tree_Tree_int_Count : FuncId := 12
abbrev f_tree_New_int : FuncId := 13
abbrev f_tree_New_string : FuncId := 14
abbrev f_tree_Tree_int_Put : FuncId := 15
abbrev f_tree_Tree_string_Put : FuncId := 16
abbrev f_tree_Tree_string_Keys : FuncId := 17
abbrev f_tree_Tree_int_Len : FuncId := 18
abbrev f_tree_Tree_string_Len : FuncId := 19
abbrev f_tree_Tree_int_Delete : FuncId := 20
abbrev f_tree_Tree_string_Delete : FuncId := 21
abbrev f_tree_Tree_int_Depth : FuncId := 22
abbrev f_tree_Tree_string_Pages : FuncId := 23
abbrev f_affluxlaw08_looks : FuncId := 24
abbrev f_tree_Tree_int_Pages : FuncId := 25
abbrev f_tree_Tree_int_Next : FuncId := 26
abbrev f_affluxlaw08_find : FuncId := 27
abbrev f_affluxlaw08_with : FuncId := 28
abbrev f_tree_page_int_put : FuncId := 29
abbrev f_tree_page_int_split : FuncId := 30
abbrev f_tree_page_string_put : FuncId := 31
abbrev f_tree_page_string_split : FuncId := 32
abbrev f_tree_Tree_string_Next : FuncId := 33
abbrev f_tree_page_int_drop : FuncId := 34
abbrev f_tree_page_int_leaf : FuncId := 35
abbrev f_tree_page_string_drop : FuncId := 36
abbrev f_tree_page_string_leaf : FuncId := 37
abbrev f_tree_page_string_pages : FuncId := 38
abbrev f_tree_Tree_int_Get : FuncId := 39
abbrev f_tree_Tree_int_Ahead : FuncId := 40
abbrev f_tree_Tree_int_Last : FuncId := 41
abbrev f_affluxlaw08_told : FuncId := 42
abbrev f_tree_page_int_pages : FuncId := 43
abbrev f_tree_shelf_int_find : FuncId := 44
abbrev f_tree_told_int : FuncId := 45
abbrev f_tree_page_int_child : FuncId := 46
abbrev f_tree_shelf_int_insert : FuncId := 47
abbrev f_slices_Clone_tree_entry_int : FuncId := 48
abbrev f_slices_Clone_ptr_tree_page_int : FuncId := 49
abbrev f_slices_Insert_ptr_tree_page_int : FuncId := 50
abbrev f_tree_shelf_string_find : FuncId := 51
abbrev f_tree_shelf_string_insert : FuncId := 52
abbrev f_slices_Clone_tree_entry_string : FuncId := 53
abbrev f_slices_Clone_ptr_tree_page_string : FuncId := 54
abbrev f_slices_Insert_ptr_tree_page_string : FuncId := 55
abbrev f_tree_told_string : FuncId := 56
abbrev f_tree_page_string_child : FuncId := 57
abbrev f_tree_shelf_int_remove : FuncId := 58
abbrev f_tree_page_int_last : FuncId := 59
abbrev f_tree_page_int_mend : FuncId := 60
abbrev f_tree_shelf_string_remove : FuncId := 61
abbrev f_tree_page_string_last : FuncId := 62
abbrev f_tree_page_string_mend : FuncId := 63
abbrev f_slices_BinarySearchFunc_string : FuncId := 64
abbrev f_tree_shelf_int_find_fn1 : FuncId := 65
abbrev f_slices_Insert_tree_entry_int : FuncId := 66
abbrev f_slices_overlaps_ptr_tree_page_int : FuncId := 67
abbrev f_slices_rotateRight_ptr_tree_page_int : FuncId := 68
abbrev f_slices_BinarySearchFunc_string_69 : FuncId := 69
abbrev f_tree_shelf_string_find_fn1 : FuncId := 70
abbrev f_slices_Insert_tree_entry_string : FuncId := 71
abbrev f_slices_overlaps_ptr_tree_page_string : FuncId := 72
abbrev f_slices_rotateRight_ptr_tree_page_string : FuncId := 73
abbrev f_slices_Delete_tree_entry_int : FuncId := 74
abbrev f_tree_page_int_right : FuncId := 75
abbrev f_tree_page_int_left : FuncId := 76
abbrev f_tree_page_int_join : FuncId := 77
abbrev f_slices_Delete_tree_entry_string : FuncId := 78
abbrev f_tree_page_string_right : FuncId := 79
abbrev f_tree_page_string_left : FuncId := 80
abbrev f_tree_page_string_join : FuncId := 81
abbrev f_slices_overlaps_tree_entry_int : FuncId := 82
abbrev f_slices_rotateRight_tree_entry_int : FuncId := 83
abbrev f_slices_rotateLeft_ptr_tree_page_int : FuncId := 84
abbrev f_slices_overlaps_tree_entry_string : FuncId := 85
abbrev f_slices_rotateRight_tree_entry_string : FuncId := 86
abbrev f_slices_rotateLeft_ptr_tree_page_string : FuncId := 87
abbrev f_slices_Delete_ptr_tree_page_int : FuncId := 88
abbrev f_slices_Delete_ptr_tree_page_string : FuncId := 89
abbrev f_slices_rotateLeft_tree_entry_int : FuncId := 90
abbrev f_slices_Reverse_ptr_tree_page_int : FuncId := 91
abbrev f_slices_rotateLeft_tree_entry_string : FuncId := 92
abbrev f_slices_Reverse_ptr_tree_page_string : FuncId := 93
abbrev f_slices_Reverse_tree_entry_int : FuncId := 94
abbrev f_slices_Reverse_tree_entry_string : FuncId := 95
abbrev f_tree_Tree_string_Ahead : FuncId := 111
abbrev f_tree_Tree_string_Count : FuncId := 112
abbrev f_tree_Tree_string_Depth : FuncId := 113
abbrev f_tree_Tree_string_Get : FuncId := 114
abbrev f_tree_Tree_string_Last : FuncId := 115
end Go.Proofs.Ytohhoojcgcbmcaa
