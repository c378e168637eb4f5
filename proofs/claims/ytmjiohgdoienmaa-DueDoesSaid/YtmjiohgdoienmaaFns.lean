/- The numbers of the functions of this translation, by name. -/
import Derived.Test.YtmjiohgdoienmaaProg
import Derived.Test.YtmjiohgdoienmaaDenCode
import Derived.KernelRfl
namespace Go.Proofs.Ytmjiohgdoienmaa
open Go.Den
noncomputable abbrev PR : Program := Go.Proofs.Try.prog
abbrev F_main_main : Nat := 0
abbrev F_gosem_cut : Nat := 1
abbrev F_gosem_cut_init : Nat := 2
abbrev F_tumbrellaw07_DueRises : Nat := 3
abbrev F_tumbrellaw07_DueMoves : Nat := 4
abbrev F_tumbrellaw07_DueDoes : Nat := 5
abbrev F_tumbrellaw07_awake : Nat := 6
abbrev F_due_New : Nat := 7
abbrev F_due_Heap_Put : Nat := 8
abbrev F_due_Heap_Take : Nat := 9
abbrev F_due_Heap_First : Nat := 10
abbrev F_due_Heap_Len : Nat := 11
abbrev F_due_Heap_Move : Nat := 12
abbrev F_due_Heap_Drop : Nat := 13
abbrev F_tumbrelref07_Heap_Put : Nat := 14
abbrev F_tumbrelref07_Heap_Take : Nat := 15
abbrev F_tumbrelref07_Heap_Drop : Nat := 16
abbrev F_tumbrelref07_Heap_Move : Nat := 17
abbrev F_tumbrelref07_Heap_First : Nat := 18
abbrev F_due_Heap_At : Nat := 19
abbrev F_tumbrelref07_Heap_At : Nat := 20
abbrev F_due_Heap_stands : Nat := 21
abbrev F_due_Heap_settle : Nat := 22
abbrev F_due_tree_entry_swap : Nat := 23
abbrev F_tumbrelref07_Heap_find : Nat := 24
abbrev F_due_tree_entry_sink : Nat := 25
abbrev F_due_tree_entry_up : Nat := 26
abbrev F_due_Heap_ahead : Nat := 27
abbrev F_due_entry_less : Nat := 28
abbrev F_runtime_boundsError_Error : Nat := 29
abbrev F_runtime_boundsError_RuntimeError : Nat := 30
abbrev F_runtime_errorString_Error : Nat := 31
abbrev F_runtime_errorString_RuntimeError : Nat := 32
abbrev F_runtime_plainError_Error : Nat := 33
abbrev F_runtime_plainError_RuntimeError : Nat := 34
abbrev F_runtime_errorAddressString_Error : Nat := 35
abbrev F_runtime_errorAddressString_RuntimeError : Nat := 36
abbrev F_runtime_TypeAssertionError_Error : Nat := 37
abbrev F_runtime_TypeAssertionError_RuntimeError : Nat := 38
abbrev F_runtime_PanicNilError_Error : Nat := 39
abbrev F_runtime_PanicNilError_RuntimeError : Nat := 40
abbrev F_internal_abi_Type_Align : Nat := 41
abbrev F_internal_runtime_maps_unhashableTypeError_Error : Nat := 42
abbrev F_internal_runtime_maps_unhashableTypeError_RuntimeError : Nat := 43
abbrev F_internal_abi_Kind_String : Nat := 44
end Go.Proofs.Ytmjiohgdoienmaa
