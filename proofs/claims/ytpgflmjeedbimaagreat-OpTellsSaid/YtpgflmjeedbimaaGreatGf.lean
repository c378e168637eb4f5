/- The numbers of the functions of this translation, by name. -/
import Derived.Test.YtpgflmjeedbimaaGreatProg
import Derived.Test.YtpgflmjeedbimaaGreatGa
import Derived.KernelRfl
set_option linter.unusedVariables false
set_option linter.unusedSimpArgs false
section
namespace Go.Proofs.YtpgflmjeedbimaaGreat
open Go.Den
noncomputable abbrev PR : Program := Go.Proofs.Tryz.prog
abbrev F_tumbrellaw12_OpTells : Nat := 3
abbrev F_tumbrellaw12_OpBack : Nat := 4
abbrev F_tumbrellaw12_awake : Nat := 15
abbrev F_tumbrelref12_Large : Nat := 16
abbrev F_tumbrellaw12_own : Nat := 17
abbrev F_tumbrelref05_Large : Nat := 18
abbrev F_op_Record : Nat := 19
abbrev F_tumbrelref12_Record : Nat := 20
abbrev F_op_Of : Nat := 21
abbrev F_tumbrelref12_Of : Nat := 22
abbrev F_op_Right : Nat := 23
abbrev F_tumbrelref12_Right : Nat := 24
abbrev F_tumbrelref05_Same : Nat := 25
abbrev F_op_Same : Nat := 26
abbrev F_tumbrelref12_Same : Nat := 27
abbrev F_tumbrellaw12_answer : Nat := 28
abbrev F_record_Right : Nat := 29
abbrev F_record_Same : Nat := 30
abbrev F_index_New : Nat := 32
abbrev F_index_Index_Put : Nat := 33
abbrev F_index_Index_Peek : Nat := 34
abbrev F_index_Index_Lease : Nat := 35
abbrev F_op_Do : Nat := 38
abbrev F_index_Index_Tick : Nat := 44
abbrev F_index_Index_Nack : Nat := 45
abbrev F_index_Index_Get : Nat := 46
abbrev F_index_Index_Requeue : Nat := 48
abbrev F_index_Index_Purge : Nat := 49
abbrev F_index_Right : Nat := 51
abbrev F_index_Index_Seen : Nat := 60
abbrev F_tumbrelref02_Same : Nat := 61
abbrev F_op_Of_1 : Nat := 62
abbrev F_op_Of_2 : Nat := 63
abbrev F_tumbrelref05_Right : Nat := 64
abbrev F_op_Op_kept : Nat := 65
abbrev F_op_lane : Nat := 66
abbrev F_slices_Equal_uint64_uint64 : Nat := 67
abbrev F_record_known : Nat := 68
abbrev F_record_numbers : Nat := 69
abbrev F_record_fits : Nat := 70
abbrev F_due_New : Nat := 72
abbrev F_dead_New : Nat := 73
abbrev F_lane_New : Nat := 74
abbrev F_life_Born : Nat := 75
abbrev F_index_Index_fits : Nat := 76
abbrev F_index_Index_is : Nat := 77
abbrev F_lane_Lane_First : Nat := 78
abbrev F_life_Life_Lease : Nat := 79
abbrev F_index_Index_Reset : Nat := 81
abbrev F_op_told : Nat := 82
abbrev F_index_Index_Ack : Nat := 83
abbrev F_index_Index_Extend : Nat := 84
abbrev F_due_Heap_Take : Nat := 104
abbrev F_life_Life_Pass : Nat := 105
abbrev F_index_Index_leased : Nat := 106
abbrev F_index_Index_Nack_1 : Nat := 107
abbrev F_life_Life_Nack : Nat := 108
abbrev F_index_Index_revive : Nat := 110
abbrev F_life_Life_Requeue : Nat := 111
abbrev F_life_Life_Purge : Nat := 112
abbrev F_dead_Dead_Has : Nat := 118
abbrev F_dead_Dead_Next : Nat := 123
abbrev F_tumbrelref05_many : Nat := 124
abbrev F_tumbrelref05_texts : Nat := 125
abbrev F_record_worded : Nat := 126
abbrev F_due_Heap_stands : Nat := 127
abbrev F_life_later : Nat := 128
abbrev F_index_Index_leave : Nat := 129
abbrev F_dead_Dead_Add : Nat := 130
abbrev F_index_Index_stand : Nat := 131
abbrev F_life_leased : Nat := 133
abbrev F_due_Heap_Put : Nat := 134
abbrev F_life_Life_Reset : Nat := 135
abbrev F_index_Index_Ack_1 : Nat := 136
abbrev F_life_Life_Ack : Nat := 137
abbrev F_index_Index_Extend_1 : Nat := 138
abbrev F_life_Life_Extend : Nat := 139
abbrev F_due_Heap_First : Nat := 164
abbrev F_due_Heap_Drop : Nat := 165
abbrev F_life_Life_ended : Nat := 166
abbrev F_life_Life_holds : Nat := 167
abbrev F_dead_Dead_find : Nat := 174
abbrev F_label_Fold : Nat := 177
abbrev F_label_Right : Nat := 178
abbrev F_life_sum : Nat := 179
abbrev F_lane_Lane_Drop : Nat := 180
abbrev F_dead_Dead_Drop : Nat := 181
abbrev F_lane_Lane_Put : Nat := 182
abbrev F_due_Heap_settle : Nat := 184
abbrev F_due_tree_entry_swap : Nat := 195
abbrev F_slices_IndexFunc_dead_Row_dead_Row : Nat := 199
abbrev F_dead_Dead_find_1 : Nat := 200
abbrev F_strings_Builder_WriteRune : Nat := 203
abbrev F_label_fold : Nat := 204
abbrev F_strings_Builder_String : Nat := 205
abbrev F_label_letter : Nat := 206
abbrev F_slices_Delete_dead_Row_dead_Row : Nat := 207
abbrev F_lane_Lane_Has : Nat := 208
abbrev F_due_tree_entry_sink : Nat := 209
abbrev F_due_tree_entry_up : Nat := 210
abbrev F_due_Heap_ahead : Nat := 211
abbrev F_strings_Builder_copyCheck : Nat := 229
abbrev F_unicode_utf8_AppendRune : Nat := 230
abbrev F_due_entry_less : Nat := 231
theorem c3 {f : Nat} {fn : Func} (ann : List (Nat × List Nat)) {args : List Value} {w : World} {R : Value → World → Prop} {M : Prop} (hf : PR.funcs[f]? = some fn) (hb : fn.body.isSome = true)
    (hc : chk PR ann fn.ntmps (bodyOf fn) = true) (hn : Nat.ble args.length fn.ntmps = true) (he : M = den PR ann (bodyOf fn) (retQ PR fn.results.toList R) (env0 args) w) (h : M) : CALL PR f args w R := call_of_den2 ann hf hb hc hn (he ▸ h)
end Go.Proofs.YtpgflmjeedbimaaGreat
end
