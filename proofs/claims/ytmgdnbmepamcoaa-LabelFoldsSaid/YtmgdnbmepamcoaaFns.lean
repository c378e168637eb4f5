/- The numbers of the functions of this translation, by name. -/
import Derived.Test.YtmgdnbmepamcoaaProg
import Derived.Test.YtmgdnbmepamcoaaDenCode
import Derived.KernelRfl
namespace Go.Proofs.Ytmgdnbmepamcoaa
open Go.Den
noncomputable abbrev PR : Program := Go.Proofs.Try.prog
abbrev F_main_main : Nat := 0
abbrev F_gosem_cut : Nat := 1
abbrev F_gosem_cut_init : Nat := 2
abbrev F_tumbrellaw03_LabelTells : Nat := 3
abbrev F_tumbrellaw03_LabelFolds : Nat := 4
abbrev F_tumbrellaw03_LabelCuts : Nat := 5
abbrev F_tumbrellaw03_LabelOrders : Nat := 6
abbrev F_tumbrellaw03_awake : Nat := 7
abbrev F_label_Right : Nat := 8
abbrev F_tumbrelref03_Right : Nat := 9
abbrev F_label_Fold : Nat := 10
abbrev F_tumbrelref03_Fold : Nat := 11
abbrev F_label_Len : Nat := 12
abbrev F_tumbrelref03_Len : Nat := 13
abbrev F_label_Cut : Nat := 14
abbrev F_tumbrelref03_Cut : Nat := 15
abbrev F_label_Less : Nat := 16
abbrev F_tumbrelref03_Less : Nat := 17
abbrev F_label_letter : Nat := 18
abbrev F_strings_Builder_WriteRune : Nat := 19
abbrev F_label_fold : Nat := 20
abbrev F_strings_Builder_String : Nat := 21
abbrev F_slices_Compare_rune_rune : Nat := 22
abbrev F_strings_Builder_copyCheck : Nat := 23
abbrev F_unicode_utf8_AppendRune : Nat := 24
abbrev F_cmp_Compare_rune : Nat := 25
abbrev F_internal_abi_NoEscape : Nat := 26
abbrev F_unicode_utf8_appendRuneNonASCII : Nat := 27
abbrev F_cmp_isNaN_rune : Nat := 28
abbrev F_runtime_boundsError_Error : Nat := 29
abbrev F_runtime_boundsError_RuntimeError : Nat := 30
abbrev F_runtime_errorString_Error : Nat := 31
abbrev F_runtime_errorString_RuntimeError : Nat := 32
abbrev F_runtime_plainError_Error : Nat := 33
abbrev F_runtime_plainError_RuntimeError : Nat := 34
abbrev F_runtime_errorAddressString_Error : Nat := 35
abbrev F_runtime_errorAddressString_RuntimeError : Nat := 36
abbrev F_runtime_TypeAssertionError_Error : Nat := 37
abbrev F_runtime_TypeAssertionError_RuntimeError : Nat := 38
abbrev F_runtime_PanicNilError_Error : Nat := 39
abbrev F_runtime_PanicNilError_RuntimeError : Nat := 40
abbrev F_internal_abi_Type_Align : Nat := 41
abbrev F_internal_runtime_maps_unhashableTypeError_Error : Nat := 42
abbrev F_internal_runtime_maps_unhashableTypeError_RuntimeError : Nat := 43
abbrev F_strings_Builder_Reset : Nat := 44
abbrev F_internal_abi_Kind_String : Nat := 45
end Go.Proofs.Ytmgdnbmepamcoaa
