/- The numbers of the functions of this translation, by name. -/
import Derived.Test.YtofllgbdphakiaaDoorProg
import Derived.Test.YtofllgbdphakiaaDoorGa
import Derived.KernelRfl
set_option linter.unusedVariables false
set_option linter.unusedSimpArgs false
section
namespace Go.Proofs.YtofllgbdphakiaaDoor
open Go.Den
noncomputable abbrev PR : Program := Go.Proofs.Tryd.prog
abbrev F_main_main : Nat := 0
abbrev F_gosem_cut : Nat := 1
abbrev F_gosem_cut_init : Nat := 2
abbrev F_tumbrellaw15_SeglogCut : Nat := 3
abbrev F_tumbrellaw15_awake : Nat := 4
abbrev F_tumbrellaw15_full : Nat := 5
abbrev F_tumbrelref05_Large : Nat := 6
abbrev F_record_Right : Nat := 7
abbrev F_seglog_Open : Nat := 8
abbrev F_tumbrellaw15_there : Nat := 9
abbrev F_seglog_Log_Read : Nat := 10
abbrev F_seglog_Log_Append : Nat := 11
abbrev F_disk_New : Nat := 12
abbrev F_seglog_Begin : Nat := 13
abbrev F_seglog_Log_End : Nat := 14
abbrev F_seglog_Log_Sync : Nat := 15
abbrev F_record_known : Nat := 16
abbrev F_record_numbers : Nat := 17
abbrev F_record_fits : Nat := 18
abbrev F_seglog_made : Nat := 19
abbrev F_disk_Disk_Read : Nat := 20
abbrev F_disk_Disk_Cut : Nat := 21
abbrev F_record_Bytes : Nat := 22
abbrev F_record_Same : Nat := 23
abbrev F_seglog_At : Nat := 24
abbrev F_seglog_Log_turn : Nat := 25
abbrev F_name_Of : Nat := 26
abbrev F_disk_Disk_Append : Nat := 27
abbrev F_disk_Disk_Create : Nat := 28
abbrev F_disk_Disk_Sync : Nat := 29
abbrev F_disk_Disk_DirSync : Nat := 30
abbrev F_record_worded : Nat := 31
abbrev F_disk_Disk_there : Nat := 32
abbrev F_slices_Clone_byte_byte : Nat := 33
abbrev F_disk_Disk_now : Nat := 34
abbrev F_disk_Disk_can : Nat := 35
abbrev F_frame_Bytes : Nat := 36
abbrev F_vint_All : Nat := 37
abbrev F_slices_Equal_uint64_uint64 : Nat := 38
abbrev F_record_All : Nat := 39
abbrev F_strings_IndexByte : Nat := 40
abbrev F_strconv_FormatUint : Nat := 41
abbrev F_disk_Disk_Held : Nat := 42
abbrev F_disk_named : Nat := 43
abbrev F_disk_Disk_change : Nat := 44
abbrev F_frame_low_int : Nat := 45
abbrev F_sum_Put : Nat := 46
abbrev F_vint_Put : Nat := 47
abbrev F_frame_All : Nat := 48
abbrev F_record_Read : Nat := 49
abbrev F_internal_stringslite_IndexByte : Nat := 50
abbrev F_internal_strconv_FormatUint : Nat := 51
abbrev F_slices_Contains_disk_file_disk_file : Nat := 52
abbrev F_maps_Clone_file : Nat := 53
abbrev F_slices_Concat_byte_byte : Nat := 54
abbrev F_sum_four : Nat := 55
abbrev F_sum_Of : Nat := 56
abbrev F_vint_lay : Nat := 57
abbrev F_frame_Read : Nat := 58
abbrev F_vint_Get : Nat := 59
abbrev F_internal_bytealg_IndexByteString : Nat := 60
abbrev F_internal_strconv_small : Nat := 61
abbrev F_internal_strconv_numDigits : Nat := 62
abbrev F_internal_strconv_formatBase10 : Nat := 63
abbrev F_internal_strconv_formatBits : Nat := 64
abbrev F_slices_Index_disk_file_disk_file : Nat := 65
abbrev F_maps_clone : Nat := 66
abbrev F_slices_Grow_byte_byte : Nat := 67
abbrev F_sum_More : Nat := 68
abbrev F_sum_Cut : Nat := 69
abbrev F_internal_strconv_log10Pow2 : Nat := 70
abbrev F_math_bits_Len64 : Nat := 71
abbrev F_internal_strconv_bool2_int : Nat := 72
abbrev F_internal_strconv_isPowerOfTwo : Nat := 73
abbrev F_math_bits_TrailingZeros : Nat := 74
abbrev F_sum_Table : Nat := 75
abbrev F_slices_Equal_byte_byte : Nat := 76
abbrev F_math_bits_TrailingZeros32 : Nat := 77
abbrev F_math_bits_TrailingZeros64 : Nat := 78
abbrev F_sum_entry : Nat := 79
abbrev F_runtime_boundsError_Error : Nat := 80
abbrev F_runtime_boundsError_RuntimeError : Nat := 81
abbrev F_runtime_errorString_Error : Nat := 82
abbrev F_runtime_errorString_RuntimeError : Nat := 83
abbrev F_runtime_plainError_Error : Nat := 84
abbrev F_runtime_plainError_RuntimeError : Nat := 85
abbrev F_runtime_errorAddressString_Error : Nat := 86
abbrev F_runtime_errorAddressString_RuntimeError : Nat := 87
abbrev F_runtime_TypeAssertionError_Error : Nat := 88
abbrev F_runtime_TypeAssertionError_RuntimeError : Nat := 89
abbrev F_runtime_PanicNilError_Error : Nat := 90
abbrev F_runtime_PanicNilError_RuntimeError : Nat := 91
abbrev F_internal_abi_Type_Align : Nat := 92
abbrev F_internal_runtime_maps_unhashableTypeError_Error : Nat := 93
abbrev F_internal_runtime_maps_unhashableTypeError_RuntimeError : Nat := 94
abbrev F_disk_Disk_Down : Nat := 95
abbrev F_api_Errno_Error : Nat := 96
abbrev F_internal_abi_Kind_String : Nat := 97
abbrev F_var_s_door_gosem_cut_vars_holds_initialisers_alone_see_the_manifest_s_row_cutvarsword_look_11_test_files_too : Nat := 98
abbrev F_var_s_door_internal_strconv_uint64pow10_is_laid_by_its_own_initialiser_plain_data_look_11 : Nat := 99
abbrev F_var_s_door_math_bits_deBruijn32tab_is_laid_by_its_own_initialiser_plain_data_look_11 : Nat := 100
abbrev F_var_s_door_math_bits_deBruijn64tab_is_laid_by_its_own_initialiser_plain_data_look_11 : Nat := 101
abbrev F_var_s_door_the_look_of_gosem_cut_vars_went_over_the_folder_that_the_caller_named_as_the_repository_s_root_look_11 : Nat := 102
abbrev F_gosem_cut_vars : Nat := 103
end Go.Proofs.YtofllgbdphakiaaDoor
end
