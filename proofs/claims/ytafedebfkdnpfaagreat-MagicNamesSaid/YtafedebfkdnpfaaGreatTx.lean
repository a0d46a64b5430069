/- The functions of the program, as texts of the abstract machine; each is checked against the program. -/
import Derived.Test.YtafedebfkdnpfaaGreatAmN
import Derived.Test.YtafedebfkdnpfaaGreatProg
namespace Go.Am.Z
open Go Go.Proofs Go.Am
def E : TypeId → Option (List CK)
  | 23 => (some [.str, .str])
  | 28 => (some [.str, .str])
  | 33 => (some [(.int .i64), (.int .i64), .str])
  | 35 => (some [.str, (.int .i64), (.int .i64), .str])
  | 105 => (some [(.int .i64), .str])
  | 115 => (some [(.int .i64), (.int .i64)])
  | _ => none
theorem E_ok : ∀ t ks, E t = some ks → EqOk Tryz.prog t ks := by
  intro t ks h
  unfold E at h
  split at h
  · cases h
    exact EqOk_nst (by kernel_rfl) (by kernel_rfl) (by kernel_rfl)
  · cases h
    exact EqOk_nst (by kernel_rfl) (by kernel_rfl) (by kernel_rfl)
  · cases h
    exact EqOk_nst (by kernel_rfl) (by kernel_rfl) (by kernel_rfl)
  · cases h
    exact EqOk_nst (by kernel_rfl) (by kernel_rfl) (by kernel_rfl)
  · cases h
    exact EqOk_nst (by kernel_rfl) (by kernel_rfl) (by kernel_rfl)
  · cases h
    exact EqOk_array (n := 2) (e := 3) (k := .int .i64) (by kernel_rfl) Tryz.underlying115 (by kernel_rfl) rfl
  · cases h
abbrev law17_MagicNames_id : FuncId := 3
abbrev law17_awake_id : FuncId := 7
abbrev magic_Given_id : FuncId := 8
abbrev ref16_Given_id : FuncId := 9
abbrev magic_Asked_id : FuncId := 10
abbrev ref17_Asked_id : FuncId := 11
abbrev magic_Found_id : FuncId := 12
abbrev ref17_Found_id : FuncId := 13
abbrev magic_Rewrite_id : FuncId := 15
abbrev magic_Prefix_id : FuncId := 17
abbrev adorn_Open_id : FuncId := 26
abbrev adorn_Demands_id : FuncId := 27
abbrev adorn_Prune_id : FuncId := 28
abbrev magic_book_use_id : FuncId := 29
abbrev magic_book_rules_id : FuncId := 30
abbrev magic_Rewrite_f1_id : FuncId := 31
abbrev slices_ContainsFunc_api_Rule_id : FuncId := 32
abbrev magic_Rewrite_f1_f1_id : FuncId := 33
abbrev strata_Names_id : FuncId := 35
abbrev slices_ContainsFunc_string_id : FuncId := 36
abbrev magic_Prefix_f1_id : FuncId := 37
abbrev strings_HasPrefix_id : FuncId := 38
abbrev strata_Needs_id : FuncId := 46
abbrev adorn_closed_id : FuncId := 47
abbrev comps_Reach_id : FuncId := 48
abbrev slices_ContainsFunc_int_id : FuncId := 49
abbrev adorn_Open_f1_id : FuncId := 50
abbrev slices_Contains_string_id : FuncId := 51
abbrev adorn_Pattern_id : FuncId := 52
abbrev adorn_bound_id : FuncId := 53
abbrev slices_Contains_adorn_Demand_id : FuncId := 54
abbrev safe_Binds_id : FuncId := 55
abbrev adorn_Prune_f1_id : FuncId := 56
abbrev adorn_Demand_covers_id : FuncId := 57
abbrev slices_ContainsFunc_adorn_Demand_id : FuncId := 58
abbrev adorn_Use_id : FuncId := 59
abbrev magic_holds_id : FuncId := 60
abbrev safe_Vars_id : FuncId := 61
abbrev slices_IndexFunc_api_Rule_id : FuncId := 62
abbrev strata_each_id : FuncId := 63
abbrev strata_Names_f1_id : FuncId := 64
abbrev strata_sorted_id : FuncId := 65
abbrev slices_IndexFunc_string_id : FuncId := 66
abbrev stringslite_HasPrefix_id : FuncId := 67
abbrev slices_BinarySearch_string_id : FuncId := 77
abbrev strata_Needs_f1_id : FuncId := 78
abbrev slices_SortFunc_sl_ar2_int_ar2_int_id : FuncId := 79
abbrev strata_Needs_f2_id : FuncId := 80
abbrev slices_Compare_int_id : FuncId := 81
abbrev slices_Compact_sl_ar2_int_ar2_int_id : FuncId := 82
abbrev slices_ContainsFunc_api_Literal_id : FuncId := 83
abbrev adorn_closed_f1_id : FuncId := 84
abbrev comps_seen_id : FuncId := 85
abbrev comps_lists_id : FuncId := 86
abbrev comps_held_id : FuncId := 87
abbrev slices_IndexFunc_int_id : FuncId := 88
abbrev slices_Index_string_id : FuncId := 89
abbrev p_strings_Builder_WriteString_id : FuncId := 90
abbrev p_strings_Builder_String_id : FuncId := 91
abbrev slices_Index_adorn_Demand_id : FuncId := 92
abbrev safe_names_id : FuncId := 93
abbrev safe_terms_id : FuncId := 94
abbrev slices_IndexFunc_adorn_Demand_id : FuncId := 95
abbrev adorn_Use_f1_id : FuncId := 96
abbrev strata_Uses_id : FuncId := 97
abbrev slices_Sort_string_id : FuncId := 98
abbrev slices_Compact_string_id : FuncId := 99
abbrev cmp_Less_string_id : FuncId := 109
abbrev slices_isNaN_string_id : FuncId := 110
abbrev slices_pdqsortCmpFunc_ar2_int_id : FuncId := 111
abbrev math_bits_Len_id : FuncId := 112
abbrev cmp_Compare_int_id : FuncId := 113
abbrev slices_IndexFunc_api_Literal_id : FuncId := 114
abbrev p_strings_Builder_copyCheck_id : FuncId := 115
abbrev slices_Clone_string_id : FuncId := 116
abbrev slices_Concat_api_Term_id : FuncId := 117
abbrev slices_pdqsortOrdered_string_id : FuncId := 118
abbrev cmp_isNaN_string_id : FuncId := 126
abbrev slices_insertionSortCmpFunc_ar2_int_id : FuncId := 127
abbrev slices_heapSortCmpFunc_ar2_int_id : FuncId := 128
abbrev slices_breakPatternsCmpFunc_ar2_int_id : FuncId := 129
abbrev slices_choosePivotCmpFunc_ar2_int_id : FuncId := 130
abbrev slices_reverseRangeCmpFunc_ar2_int_id : FuncId := 131
abbrev slices_partialInsertionSortCmpFunc_ar2_int_id : FuncId := 132
abbrev slices_partitionEqualCmpFunc_ar2_int_id : FuncId := 133
abbrev slices_partitionCmpFunc_ar2_int_id : FuncId := 134
abbrev math_bits_Len32_id : FuncId := 135
abbrev math_bits_Len64_id : FuncId := 136
abbrev cmp_isNaN_int_id : FuncId := 137
abbrev slices_Grow_api_Term_id : FuncId := 139
abbrev slices_insertionSortOrdered_string_id : FuncId := 140
abbrev slices_heapSortOrdered_string_id : FuncId := 141
abbrev slices_breakPatternsOrdered_string_id : FuncId := 142
abbrev slices_choosePivotOrdered_string_id : FuncId := 143
abbrev slices_reverseRangeOrdered_string_id : FuncId := 144
abbrev slices_partialInsertionSortOrdered_string_id : FuncId := 145
abbrev slices_partitionEqualOrdered_string_id : FuncId := 146
abbrev slices_partitionOrdered_string_id : FuncId := 147
abbrev T_int : TypeId := 3
abbrev T_bool : TypeId := 4
abbrev T_uint8 : TypeId := 5
abbrev T_string : TypeId := 9
abbrev T_antecedentref16_Demand : TypeId := 23
abbrev T_sl_api_Term : TypeId := 24
abbrev T_api_Atom : TypeId := 26
abbrev T_adorn_Demand : TypeId := 28
abbrev T_api_Term : TypeId := 35
abbrev T_sl_string : TypeId := 36
abbrev T_api_Program : TypeId := 40
abbrev T_api_Rule : TypeId := 50
abbrev T_api_Literal : TypeId := 54
abbrev T_magic_book : TypeId := 65
abbrev T_sl_ar2_int : TypeId := 82
abbrev T_map_string_int : TypeId := 84
abbrev T_sl_int : TypeId := 85
abbrev T_api_Step : TypeId := 105
abbrev T_ar2_int : TypeId := 115
abbrev T_strings_Builder : TypeId := 132
/-! ## 3 antecedent/antecedentlaw17.MagicNames -/
def law17_MagicNames_0 : XCode := .region [⟨(some 5), .ef (.box T_antecedentref16_Demand 2 (.t 1)), none, [], false⟩,
  ⟨(some 6), .ef (.box T_antecedentref16_Demand 2 (.t 2)), none, [], false⟩,
  ⟨(some 7), .ef (.box T_api_Atom 2 (.t 3)), none, [], false⟩,
  ⟨(some 8), .rd (.mov (.c (.bool false))), none, [], false⟩]
def law17_MagicNames_1 : XCode := .region [⟨(some 17), .call law17_awake_id [], none, [], false⟩,
  ⟨(some 18), .rd (.un .not (.t 17)), none, [], false⟩,
  ⟨(some 19), .rd (.mov (.t 18)), none, [], false⟩,
  ⟨(some 20), .rd (.mov (.t 0)), (some (19, false)), [], false⟩,
  ⟨(some 21), .rd (.lenS (.t 20)), (some (19, false)), [], false⟩,
  ⟨(some 22), .rd (.bin .gtr .other (.t 21) (.c (.int .i64 50))), (some (19, false)), [], false⟩,
  ⟨(some 23), .rd (.pick (.t 19) (.c (.bool true)) (.t 22)), none, [], false⟩,
  ⟨(some 24), .rd (.mov (.t 23)), none, [], false⟩,
  ⟨(some 25), .rd (.off 1 (.t 5)), (some (24, false)), [], false⟩,
  ⟨(some 26), .rd (.load 1 false (.t 25)), (some (24, false)), [], false⟩,
  ⟨(some 27), .rd (.lenS (.t 26)), (some (24, false)), [], false⟩,
  ⟨(some 28), .rd (.off 1 (.t 6)), (some (24, false)), [], false⟩,
  ⟨(some 29), .rd (.load 1 false (.t 28)), (some (24, false)), [], false⟩,
  ⟨(some 30), .rd (.lenS (.t 29)), (some (24, false)), [], false⟩,
  ⟨(some 31), .rd (.bin .add .other (.t 27) (.t 30)), (some (24, false)), [], false⟩,
  ⟨(some 32), .rd (.bin .gtr .other (.t 31) (.c (.int .i64 50))), (some (24, false)), [], false⟩,
  ⟨(some 33), .rd (.pick (.t 24) (.c (.bool true)) (.t 32)), none, [], false⟩,
  ⟨(some 34), .rd (.mov (.t 33)), none, [], false⟩,
  ⟨(some 35), .rd (.off 0 (.t 5)), (some (34, false)), [], false⟩,
  ⟨(some 36), .rd (.load 1 false (.t 35)), (some (34, false)), [], false⟩,
  ⟨(some 37), .rd (.lenS (.t 36)), (some (34, false)), [], false⟩,
  ⟨(some 38), .rd (.off 0 (.t 6)), (some (34, false)), [], false⟩,
  ⟨(some 39), .rd (.load 1 false (.t 38)), (some (34, false)), [], false⟩,
  ⟨(some 40), .rd (.lenS (.t 39)), (some (34, false)), [], false⟩,
  ⟨(some 41), .rd (.bin .add .other (.t 37) (.t 40)), (some (34, false)), [], false⟩,
  ⟨(some 42), .rd (.bin .gtr .other (.t 41) (.c (.int .i64 100))), (some (34, false)), [], false⟩,
  ⟨(some 43), .rd (.pick (.t 34) (.c (.bool true)) (.t 42)), none, [], false⟩,
  ⟨(some 44), .rd (.mov (.t 43)), none, [], false⟩,
  ⟨(some 45), .rd (.off 1 (.t 7)), (some (44, false)), [], false⟩,
  ⟨(some 46), .rd (.load 1 false (.t 45)), (some (44, false)), [], false⟩,
  ⟨(some 47), .rd (.lenL (.t 46)), (some (44, false)), [], false⟩,
  ⟨(some 48), .rd (.bin .gtr .other (.t 47) (.c (.int .i64 20))), (some (44, false)), [], false⟩,
  ⟨(some 49), .rd (.pick (.t 44) (.c (.bool true)) (.t 48)), none, [], false⟩]
def law17_MagicNames_2 : XCode := .seq (.region [⟨(some 50), .call law17_awake_id [], none, [], false⟩,
  ⟨(some 8), .rd (.mov (.t 50)), none, [], false⟩]) .ret
def law17_MagicNames_3 : XCode := .cond (.t 49) law17_MagicNames_2 .skip
def law17_MagicNames_4 : XCode := .seq law17_MagicNames_1 (.keep [0, 5, 6, 7, 49] law17_MagicNames_3)
def law17_MagicNames_5 : XCode := .draw [⟨(some 51), .rd (.load 2 true (.t 5)), none, [], false⟩,
  ⟨(some 52), .rd (.load 2 true (.t 6)), none, [], false⟩,
  ⟨(some 9), .ef (.new T_adorn_Demand 2 [.str [], .str []]), none, [], false⟩,
  ⟨(some 10), .ef (.new T_adorn_Demand 2 [.str [], .str []]), none, [], false⟩,
  ⟨none, .ef (.store 2 (.t 9) (.t 51)), none, [2, 0, 3], false⟩,
  ⟨none, .ef (.store 2 (.t 10) (.t 52)), none, [3, 1, 4, 0, 2], false⟩]
def law17_MagicNames_6 : XCode := .draw [⟨(some 53), .rd (.load 2 true (.t 7)), none, [], false⟩,
  ⟨(some 54), .rd (.off 1 (.t 5)), none, [], false⟩,
  ⟨(some 55), .rd (.load 1 false (.t 54)), none, [1], false⟩,
  ⟨(some 56), .call magic_Given_id [.t 53, .t 55], none, [0, 2, 1], false⟩,
  ⟨(some 57), .rd (.load 2 true (.t 7)), none, [], false⟩,
  ⟨(some 58), .rd (.off 1 (.t 5)), none, [], false⟩,
  ⟨(some 59), .rd (.load 1 false (.t 58)), none, [5], false⟩,
  ⟨(some 60), .call ref16_Given_id [.t 57, .t 59], none, [4, 6, 3, 5, 0, 2, 1], false⟩,
  ⟨(some 11), .rd (.mov (.t 56)), none, [3, 7, 0, 1, 2, 4, 6, 5], false⟩,
  ⟨(some 12), .rd (.mov (.t 60)), none, [7, 8, 0, 1, 2, 3, 4, 5, 6], false⟩]
def law17_MagicNames_7 : XCode := .draw [⟨(some 61), .rd (.mov (.t 0)), none, [], false⟩,
  ⟨(some 62), .rd (.load 2 true (.t 9)), none, [], false⟩,
  ⟨(some 63), .call magic_Asked_id [.t 61, .t 62], none, [0, 1], false⟩,
  ⟨(some 64), .rd (.mov (.t 0)), none, [], false⟩,
  ⟨(some 65), .rd (.load 2 true (.t 5)), none, [], false⟩,
  ⟨(some 66), .call ref17_Asked_id [.t 64, .t 65], none, [3, 4, 2, 0, 1], false⟩,
  ⟨(some 67), .rd (.bin .neq .other (.t 63) (.t 66)), none, [2, 5, 0, 1, 3, 4], false⟩,
  ⟨(some 68), .rd (.mov (.t 67)), none, [6, 5, 2, 0, 1, 3, 4], false⟩,
  ⟨(some 69), .rd (.mov (.t 0)), (some (68, false)), [7, 6, 5, 2, 0, 1, 3, 4], false⟩,
  ⟨(some 70), .rd (.load 2 true (.t 9)), (some (68, false)), [7, 6, 5, 2, 0, 1, 3, 4], false⟩,
  ⟨(some 71), .call magic_Found_id [.t 69, .t 70], (some (68, false)), [8, 9, 7, 6, 5, 2, 0, 1, 3, 4], false⟩,
  ⟨(some 72), .rd (.mov (.t 0)), (some (68, false)), [7, 6, 5, 2, 0, 1, 3, 4], false⟩,
  ⟨(some 73), .rd (.load 2 true (.t 5)), (some (68, false)), [7, 6, 5, 2, 0, 1, 3, 4], false⟩,
  ⟨(some 74), .call ref17_Found_id [.t 72, .t 73], (some (68, false)), [11, 12, 10, 7, 6, 5, 2, 0, 1, 3, 4, 8, 9], false⟩,
  ⟨(some 75), .rd (.bin .neq .other (.t 71) (.t 74)), (some (68, false)), [10, 13, 7, 8, 9, 6, 5, 2, 0, 1, 3, 4, 11, 12], false⟩,
  ⟨(some 76), .rd (.pick (.t 68) (.c (.bool true)) (.t 75)), none, [7, 14, 6, 5, 2, 0, 1, 3, 4, 10, 13, 8, 9, 11, 12], false⟩,
  ⟨(some 77), .rd (.mov (.t 76)), none, [15, 13, 7, 14, 6, 5, 2, 0, 1, 3, 4, 10, 8, 9, 11, 12], false⟩,
  ⟨(some 78), .rd (.mov (.t 11)), (some (77, false)), [16, 15, 13, 7, 14, 6, 5, 2, 0, 1, 3, 4, 10, 8, 9, 11, 12], false⟩,
  ⟨(some 79), .rd (.lenL (.t 78)), (some (77, false)), [17, 16, 15, 13, 7, 14, 6, 5, 2, 0, 1, 3, 4, 10, 8, 9, 11, 12], false⟩,
  ⟨(some 80), .rd (.mov (.t 12)), (some (77, false)), [16, 15, 13, 7, 14, 6, 5, 2, 0, 1, 3, 4, 10, 8, 9, 11, 12], false⟩,
  ⟨(some 81), .rd (.lenL (.t 80)), (some (77, false)), [19, 16, 15, 13, 7, 14, 6, 5, 2, 0, 1, 3, 4, 10, 8, 9, 11, 12], false⟩,
  ⟨(some 82), .rd (.bin .neq .other (.t 79) (.t 81)), (some (77, false)), [18, 20, 16, 17, 15, 13, 7, 14, 6, 5, 2, 0, 1, 3, 4, 10, 8, 9, 11, 12, 19], false⟩,
  ⟨(some 83), .rd (.pick (.t 77) (.c (.bool true)) (.t 82)), none, [16, 21, 15, 13, 7, 14, 6, 5, 2, 0, 1, 3, 4, 10, 8, 9, 11, 12, 18, 20, 17, 19], false⟩]
def law17_MagicNames_8 : XCode := .seq (.region [⟨(some 8), .rd (.mov (.c (.bool false))), none, [], false⟩]) .ret
def law17_MagicNames_9 : XCode := .cond (.t 83) law17_MagicNames_8 .skip
def law17_MagicNames_10 : XCode := .seq law17_MagicNames_7 (.keep [0, 5, 6, 9, 10, 11, 12, 83] law17_MagicNames_9)
def law17_MagicNames_11 : XCode := .cond (.t 87) .skip (.exit 0)
def law17_MagicNames_12 : XCode := .draw [⟨(some 89), .rd (.mov (.t 11)), none, [], false⟩,
  ⟨(some 90), .rd (.mov (.t 13)), none, [], false⟩,
  ⟨(some 91), .rd (.idx 4 (.t 89) (.t 90)), none, [0, 1], false⟩,
  ⟨(some 92), .rd (.load 4 true (.t 91)), none, [2, 0, 1], false⟩,
  ⟨(some 93), .rd (.mov (.t 12)), none, [], false⟩,
  ⟨(some 94), .rd (.mov (.t 13)), none, [], false⟩,
  ⟨(some 95), .rd (.idx 4 (.t 93) (.t 94)), none, [4, 5], false⟩,
  ⟨(some 96), .rd (.load 4 true (.t 95)), none, [6, 4, 5], false⟩,
  ⟨(some 97), .rd (.eqc true [.str, (.int .i64), (.int .i64), .str] (.t 92) (.t 96)), none, [3, 7, 2, 0, 1, 6, 4, 5], false⟩]
def law17_MagicNames_13 : XCode := .seq (.region [⟨(some 8), .rd (.mov (.c (.bool false))), none, [], false⟩]) .ret
def law17_MagicNames_14 : XCode := .cond (.t 97) law17_MagicNames_13 .skip
def law17_MagicNames_15 : XCode := .seq law17_MagicNames_12 (.keep [0, 5, 6, 9, 10, 11, 12, 85, 86, 97] law17_MagicNames_14)
def law17_MagicNames_16 : XCode := .seq (.region [⟨(some 88), .rd (.mov (.t 86)), none, [], false⟩,
  ⟨(some 13), .rd (.mov (.t 88)), none, [], false⟩]) law17_MagicNames_15
def law17_MagicNames_17 : XCode := .region [⟨(some 98), .rd (.bin .add .other (.t 86) (.c (.int .i64 1))), none, [], false⟩,
  ⟨(some 86), .rd (.mov (.t 98)), none, [], false⟩]
def law17_MagicNames_18 : XCode := .seq (.block 1 law17_MagicNames_16) (.keep [0, 5, 6, 9, 10, 11, 12, 85, 86] law17_MagicNames_17)
def law17_MagicNames_19 : XCode := .seq law17_MagicNames_11 (.keep [0, 5, 6, 9, 10, 11, 12, 85, 86] law17_MagicNames_18)
def law17_MagicNames_20 : XCode := .seq (.region [⟨(some 87), .rd (.bin .lss .other (.t 86) (.t 85)), none, [], false⟩]) law17_MagicNames_19
def law17_MagicNames_21 : XCode := .seq (.region [⟨(some 84), .rd (.mov (.t 11)), none, [], false⟩,
  ⟨(some 85), .rd (.lenL (.t 84)), none, [], false⟩,
  ⟨(some 86), .rd (.mov (.c (.int .i64 0))), none, [], false⟩]) (.block 0 (.loop [0, 5, 6, 9, 10, 11, 12, 85, 86] law17_MagicNames_20))
def law17_MagicNames_22 : XCode := .region [⟨(some 99), .rd (.off 1 (.t 5)), none, [], false⟩,
  ⟨(some 100), .rd (.load 1 false (.t 99)), none, [], false⟩,
  ⟨(some 101), .rd (.off 1 (.t 6)), none, [], false⟩,
  ⟨(some 102), .rd (.load 1 false (.t 101)), none, [], false⟩,
  ⟨(some 103), .ef (.buildSlice T_string 1 2 [.str []] [(0, 1, (.t 100)), (1, 1, (.t 102))]), none, [], false⟩,
  ⟨(some 104), .rd (.lenL (.t 103)), none, [], false⟩,
  ⟨(some 105), .rd (.mov (.c (.int .i64 0))), none, [], false⟩]
def law17_MagicNames_23 : XCode := .cond (.t 106) .skip (.exit 2)
def law17_MagicNames_24 : XCode := .region [⟨(some 109), .rd (.mov (.t 16)), none, [], false⟩,
  ⟨(some 110), .rd (.mov (.t 15)), none, [], false⟩,
  ⟨(some 111), .rd (.lenS (.t 110)), none, [], false⟩,
  ⟨(some 112), .rd (.bin .lss .other (.t 109) (.t 111)), none, [], false⟩]
def law17_MagicNames_25 : XCode := .cond (.t 112) .skip (.exit 4)
def law17_MagicNames_26 : XCode := .seq law17_MagicNames_24 (.keep [0, 5, 6, 9, 10, 15, 16, 103, 104, 105, 112] law17_MagicNames_25)
def law17_MagicNames_27 : XCode := .region [⟨(some 115), .rd (.mov (.t 15)), none, [], false⟩,
  ⟨(some 116), .rd (.mov (.t 16)), none, [], false⟩,
  ⟨(some 117), .rd (.indexS (.t 115) (.t 116)), none, [], false⟩,
  ⟨(some 118), .rd (.bin .neq .other (.t 117) (.c (.int .u8 98))), none, [], false⟩,
  ⟨(some 119), .rd (.mov (.t 118)), none, [], false⟩,
  ⟨(some 120), .rd (.mov (.t 15)), (some (119, true)), [], false⟩,
  ⟨(some 121), .rd (.mov (.t 16)), (some (119, true)), [], false⟩,
  ⟨(some 122), .rd (.indexS (.t 120) (.t 121)), (some (119, true)), [], false⟩,
  ⟨(some 123), .rd (.bin .neq .other (.t 122) (.c (.int .u8 102))), (some (119, true)), [], false⟩,
  ⟨(some 124), .rd (.pick (.t 119) (.t 123) (.c (.bool false))), none, [], false⟩]
def law17_MagicNames_28 : XCode := .seq (.region [⟨(some 8), .rd (.mov (.c (.bool true))), none, [], false⟩]) .ret
def law17_MagicNames_29 : XCode := .cond (.t 124) law17_MagicNames_28 .skip
def law17_MagicNames_30 : XCode := .seq law17_MagicNames_27 (.keep [0, 5, 6, 9, 10, 15, 16, 103, 104, 105, 124] law17_MagicNames_29)
def law17_MagicNames_31 : XCode := .region [⟨(some 113), .rd (.mov (.t 16)), none, [], false⟩,
  ⟨(some 114), .rd (.bin .add .other (.t 113) (.c (.int .i64 1))), none, [], false⟩,
  ⟨(some 16), .rd (.mov (.t 114)), none, [], false⟩]
def law17_MagicNames_32 : XCode := .seq (.block 5 law17_MagicNames_30) (.keep [0, 5, 6, 9, 10, 15, 16, 103, 104, 105] law17_MagicNames_31)
def law17_MagicNames_33 : XCode := .seq law17_MagicNames_26 (.keep [0, 5, 6, 9, 10, 15, 16, 103, 104, 105] law17_MagicNames_32)
def law17_MagicNames_34 : XCode := .seq (.region [⟨(some 16), .rd (.mov (.c (.int .i64 0))), none, [], false⟩]) (.block 4 (.loop [0, 5, 6, 9, 10, 15, 16, 103, 104, 105] law17_MagicNames_33))
def law17_MagicNames_35 : XCode := .seq (.region [⟨(some 107), .rd (.idx 1 (.t 103) (.t 105)), none, [], false⟩,
  ⟨(some 108), .rd (.load 1 false (.t 107)), none, [], false⟩,
  ⟨(some 15), .rd (.mov (.t 108)), none, [], false⟩]) law17_MagicNames_34
def law17_MagicNames_36 : XCode := .region [⟨(some 125), .rd (.bin .add .other (.t 105) (.c (.int .i64 1))), none, [], false⟩,
  ⟨(some 105), .rd (.mov (.t 125)), none, [], false⟩]
def law17_MagicNames_37 : XCode := .seq (.block 3 law17_MagicNames_35) (.keep [0, 5, 6, 9, 10, 103, 104, 105] law17_MagicNames_36)
def law17_MagicNames_38 : XCode := .seq law17_MagicNames_23 (.keep [0, 5, 6, 9, 10, 103, 104, 105] law17_MagicNames_37)
def law17_MagicNames_39 : XCode := .seq (.region [⟨(some 106), .rd (.bin .lss .other (.t 105) (.t 104)), none, [], false⟩]) law17_MagicNames_38
def law17_MagicNames_40 : XCode := .seq law17_MagicNames_22 (.keep [0, 5, 6, 9, 10, 103, 104, 105] (.block 2 (.loop [0, 5, 6, 9, 10, 103, 104, 105] law17_MagicNames_39)))
def law17_MagicNames_41 : XCode := .draw [⟨(some 126), .rd (.mov (.t 0)), none, [], false⟩,
  ⟨(some 127), .rd (.load 2 true (.t 9)), none, [], false⟩,
  ⟨(some 128), .call magic_Asked_id [.t 126, .t 127], none, [0, 1], false⟩,
  ⟨(some 129), .rd (.mov (.t 0)), none, [], false⟩,
  ⟨(some 130), .rd (.load 2 true (.t 10)), none, [], false⟩,
  ⟨(some 131), .call magic_Asked_id [.t 129, .t 130], none, [3, 4, 2, 0, 1], false⟩,
  ⟨(some 132), .rd (.bin .eql .other (.t 128) (.t 131)), none, [2, 5, 0, 1, 3, 4], false⟩,
  ⟨(some 133), .rd (.load 2 true (.t 5)), none, [], false⟩,
  ⟨(some 134), .rd (.load 2 true (.t 6)), none, [], false⟩,
  ⟨(some 135), .rd (.eqc false [.str, .str] (.t 133) (.t 134)), none, [7, 8], false⟩,
  ⟨(some 136), .rd (.bin .eql .bool (.t 132) (.t 135)), none, [6, 9, 2, 5, 0, 1, 3, 4, 7, 8], false⟩,
  ⟨(some 137), .rd (.mov (.t 136)), none, [10, 5, 6, 9, 2, 0, 1, 3, 4, 7, 8], false⟩,
  ⟨(some 138), .rd (.mov (.t 0)), (some (137, true)), [11, 10, 5, 6, 9, 2, 0, 1, 3, 4, 7, 8], false⟩,
  ⟨(some 139), .rd (.load 2 true (.t 9)), (some (137, true)), [11, 10, 5, 6, 9, 2, 0, 1, 3, 4, 7, 8], false⟩,
  ⟨(some 140), .call magic_Found_id [.t 138, .t 139], (some (137, true)), [12, 13, 11, 10, 5, 6, 9, 2, 0, 1, 3, 4, 7, 8], false⟩,
  ⟨(some 141), .rd (.mov (.t 0)), (some (137, true)), [11, 10, 5, 6, 9, 2, 0, 1, 3, 4, 7, 8], false⟩,
  ⟨(some 142), .rd (.load 2 true (.t 10)), (some (137, true)), [11, 10, 5, 6, 9, 2, 0, 1, 3, 4, 7, 8], false⟩,
  ⟨(some 143), .call magic_Found_id [.t 141, .t 142], (some (137, true)), [15, 16, 14, 11, 10, 5, 6, 9, 2, 0, 1, 3, 4, 7, 8, 12, 13], false⟩,
  ⟨(some 144), .rd (.bin .eql .other (.t 140) (.t 143)), (some (137, true)), [14, 17, 11, 12, 13, 10, 5, 6, 9, 2, 0, 1, 3, 4, 7, 8, 15, 16], false⟩,
  ⟨(some 145), .rd (.load 2 true (.t 5)), (some (137, true)), [11, 10, 5, 6, 9, 2, 0, 1, 3, 4, 7, 8], false⟩,
  ⟨(some 146), .rd (.load 2 true (.t 6)), (some (137, true)), [11, 10, 5, 6, 9, 2, 0, 1, 3, 4, 7, 8], false⟩,
  ⟨(some 147), .rd (.eqc false [.str, .str] (.t 145) (.t 146)), (some (137, true)), [19, 20, 11, 10, 5, 6, 9, 2, 0, 1, 3, 4, 7, 8], false⟩,
  ⟨(some 148), .rd (.bin .eql .bool (.t 144) (.t 147)), (some (137, true)), [18, 21, 11, 14, 17, 12, 13, 10, 5, 6, 9, 2, 0, 1, 3, 4, 7, 8, 15, 16, 19, 20], false⟩,
  ⟨(some 149), .rd (.pick (.t 137) (.t 148) (.c (.bool false))), none, [11, 22, 10, 5, 6, 9, 2, 0, 1, 3, 4, 7, 8, 18, 21, 14, 17, 12, 13, 15, 16, 19, 20], false⟩,
  ⟨(some 8), .rd (.mov (.t 149)), none, [23, 17, 0, 1, 2, 3, 4, 5, 6, 7, 8, 9, 10, 11, 12, 13, 14, 15, 16, 18, 19, 20, 21, 22], false⟩]
def law17_MagicNames_42 : XCode := .seq law17_MagicNames_41 .ret
def law17_MagicNames_43 : XCode := .seq law17_MagicNames_40 (.keep [0, 5, 6, 9, 10] law17_MagicNames_42)
def law17_MagicNames_44 : XCode := .seq law17_MagicNames_21 (.keep [0, 5, 6, 9, 10] law17_MagicNames_43)
def law17_MagicNames_45 : XCode := .seq law17_MagicNames_10 (.keep [0, 5, 6, 9, 10, 11, 12] law17_MagicNames_44)
def law17_MagicNames_46 : XCode := .seq law17_MagicNames_6 (.keep [0, 5, 6, 9, 10, 11, 12] law17_MagicNames_45)
def law17_MagicNames_47 : XCode := .seq law17_MagicNames_5 (.keep [0, 5, 6, 7, 9, 10] law17_MagicNames_46)
def law17_MagicNames_48 : XCode := .seq law17_MagicNames_4 (.keep [0, 5, 6, 7] law17_MagicNames_47)
def law17_MagicNames_49 : XCode := .seq law17_MagicNames_0 (.keep [0, 5, 6, 7] law17_MagicNames_48)
def law17_MagicNames : XFun := ⟨4, law17_MagicNames_49, [.tmp 8]⟩
theorem law17_MagicNames_ok : FunOk Tryz.prog law17_MagicNames_id law17_MagicNames := compFun_ok rfl E_ok (by kernel_rfl)

/-! ## 7 antecedent/antecedentlaw17.awake -/
def law17_awake_0 : XCode := .region [⟨(some 6), .rd (.build [.str [], .int .i64 0, .int .i64 0, .str []] [(0, 1, (.c (.str [88])))]), none, [], false⟩,
  ⟨(some 7), .rd (.build [.int .i64 0, .int .i64 0, .str []] [(0, 1, (.c (.int .i64 3))), (2, 1, (.c (.str [97])))]), none, [], false⟩,
  ⟨(some 8), .rd (.build [.str [], .int .i64 0, .int .i64 0, .str []] [(1, 3, (.t 7))]), none, [], false⟩,
  ⟨(some 1), .ef (.new T_api_Term 4 [.str [], .int .i64 0, .int .i64 0, .str []]), none, [], false⟩,
  ⟨(some 2), .ef (.new T_api_Term 4 [.str [], .int .i64 0, .int .i64 0, .str []]), none, [], false⟩,
  ⟨none, .ef (.store 4 (.t 1) (.t 6)), none, [], false⟩,
  ⟨none, .ef (.store 4 (.t 2) (.t 8)), none, [], false⟩]
def law17_awake_1 : XCode := .region [⟨(some 9), .rd (.load 4 true (.t 1)), none, [], false⟩,
  ⟨(some 10), .ef (.buildSlice T_api_Term 4 1 [.str [], .int .i64 0, .int .i64 0, .str []] [(0, 4, (.t 9))]), none, [], false⟩,
  ⟨(some 11), .rd (.build [.str [], .nilslice] [(0, 1, (.c (.str [112]))), (1, 1, (.t 10))]), none, [], false⟩,
  ⟨(some 12), .rd (.load 4 true (.t 1)), none, [], false⟩,
  ⟨(some 13), .ef (.buildSlice T_api_Term 4 1 [.str [], .int .i64 0, .int .i64 0, .str []] [(0, 4, (.t 12))]), none, [], false⟩,
  ⟨(some 14), .rd (.build [.str [], .nilslice] [(0, 1, (.c (.str [101]))), (1, 1, (.t 13))]), none, [], false⟩,
  ⟨(some 15), .rd (.build [.int .i64 0, .str [], .nilslice, .str [], .str [], .int .i64 0, .int .i64 0, .str [], .str [], .int .i64 0, .int .i64 0, .str [], .str [], .int .i64 0, .int .i64 0, .str [], .nilslice] [(0, 1, (.c (.int .i64 1))), (1, 2, (.t 14))]), none, [], false⟩,
  ⟨(some 16), .ef (.buildSlice T_api_Literal 17 1 [.int .i64 0, .str [], .nilslice, .str [], .str [], .int .i64 0, .int .i64 0, .str [], .str [], .int .i64 0, .int .i64 0, .str [], .str [], .int .i64 0, .int .i64 0, .str [], .nilslice] [(0, 17, (.t 15))]), none, [], false⟩,
  ⟨(some 17), .rd (.build [.str [], .nilslice, .int .i64 0, .nilslice] [(0, 2, (.t 11)), (3, 1, (.t 16))]), none, [], false⟩,
  ⟨(some 18), .ef (.buildSlice T_api_Rule 4 1 [.str [], .nilslice, .int .i64 0, .nilslice] [(0, 4, (.t 17))]), none, [], false⟩,
  ⟨(some 19), .rd (.load 4 true (.t 2)), none, [], false⟩,
  ⟨(some 20), .ef (.buildSlice T_api_Term 4 1 [.str [], .int .i64 0, .int .i64 0, .str []] [(0, 4, (.t 19))]), none, [], false⟩,
  ⟨(some 21), .rd (.build [.str [], .nilslice] [(0, 1, (.c (.str [112]))), (1, 1, (.t 20))]), none, [], false⟩,
  ⟨(some 22), .rd (.build [.nilslice, .str [], .nilslice] [(0, 1, (.t 18)), (1, 2, (.t 21))]), none, [], false⟩,
  ⟨(some 3), .ef (.new T_api_Program 3 [.nilslice, .str [], .nilslice]), none, [], false⟩,
  ⟨none, .ef (.store 3 (.t 3) (.t 22)), none, [], false⟩]
def law17_awake_2 : XCode := .region [⟨(some 24), .rd (.load 3 true (.t 3)), none, [], false⟩,
  ⟨(some 25), .call magic_Rewrite_id [.t 24, .c (.bool false)], none, [], false⟩,
  ⟨(some 23), .rd (.mov (.t 25)), none, [], false⟩,
  ⟨(some 26), .rd (.extract 0 (.t 23)), none, [], false⟩,
  ⟨(some 27), .rd (.extract 1 (.t 23)), none, [], false⟩,
  ⟨(some 4), .ef (.new T_api_Program 3 [.nilslice, .str [], .nilslice]), none, [], false⟩,
  ⟨none, .ef (.store 3 (.t 4) (.t 26)), none, [], false⟩,
  ⟨(some 5), .rd (.mov (.t 27)), none, [], false⟩]
def law17_awake_3 : XCode := .region [⟨(some 28), .rd (.mov (.t 5)), none, [], false⟩,
  ⟨(some 29), .rd (.mov (.t 28)), none, [], false⟩,
  ⟨(some 30), .rd (.off 0 (.t 4)), (some (29, true)), [], false⟩,
  ⟨(some 31), .rd (.load 1 false (.t 30)), (some (29, true)), [], false⟩,
  ⟨(some 32), .rd (.lenL (.t 31)), (some (29, true)), [], false⟩,
  ⟨(some 33), .rd (.bin .eql .other (.t 32) (.c (.int .i64 2))), (some (29, true)), [], false⟩,
  ⟨(some 34), .rd (.pick (.t 29) (.t 33) (.c (.bool false))), none, [], false⟩,
  ⟨(some 35), .rd (.mov (.t 34)), none, [], false⟩,
  ⟨(some 36), .rd (.off 0 (.t 4)), (some (35, true)), [], false⟩,
  ⟨(some 37), .rd (.load 1 false (.t 36)), (some (35, true)), [], false⟩,
  ⟨(some 38), .rd (.idx 4 (.t 37) (.c (.int .i64 0))), (some (35, true)), [], false⟩,
  ⟨(some 39), .rd (.off 0 (.t 38)), (some (35, true)), [], false⟩,
  ⟨(some 40), .rd (.off 0 (.t 39)), (some (35, true)), [], false⟩,
  ⟨(some 41), .rd (.load 1 false (.t 40)), (some (35, true)), [], false⟩,
  ⟨(some 42), .rd (.bin .eql .other (.t 41) (.c (.str [97, 115, 107, 95, 98, 95, 112]))), (some (35, true)), [], false⟩,
  ⟨(some 43), .rd (.pick (.t 35) (.t 42) (.c (.bool false))), none, [], false⟩,
  ⟨(some 44), .rd (.mov (.t 43)), none, [], false⟩,
  ⟨(some 45), .rd (.off 1 (.t 4)), (some (44, true)), [], false⟩,
  ⟨(some 46), .rd (.off 0 (.t 45)), (some (44, true)), [], false⟩,
  ⟨(some 47), .rd (.load 1 false (.t 46)), (some (44, true)), [], false⟩,
  ⟨(some 48), .rd (.bin .eql .other (.t 47) (.c (.str [97, 115, 107, 95, 105, 115, 95, 98, 95, 112]))), (some (44, true)), [], false⟩,
  ⟨(some 49), .rd (.pick (.t 44) (.t 48) (.c (.bool false))), none, [], false⟩,
  ⟨(some 50), .rd (.mov (.t 49)), none, [], false⟩,
  ⟨(some 51), .rd (.load 3 true (.t 3)), (some (50, true)), [], false⟩,
  ⟨(some 52), .call magic_Prefix_id [.t 51], (some (50, true)), [], false⟩,
  ⟨(some 53), .rd (.bin .eql .other (.t 52) (.c (.str [97, 115, 107, 95]))), (some (50, true)), [], false⟩,
  ⟨(some 54), .rd (.pick (.t 50) (.t 53) (.c (.bool false))), none, [], false⟩,
  ⟨(some 55), .rd (.mov (.t 54)), none, [], false⟩,
  ⟨(some 56), .rd (.off 1 (.t 3)), (some (55, true)), [], false⟩,
  ⟨(some 57), .rd (.load 2 true (.t 56)), (some (55, true)), [], false⟩,
  ⟨(some 58), .call magic_Given_id [.t 57, .c (.str [98])], (some (55, true)), [], false⟩,
  ⟨(some 59), .rd (.lenL (.t 58)), (some (55, true)), [], false⟩,
  ⟨(some 60), .rd (.bin .eql .other (.t 59) (.c (.int .i64 1))), (some (55, true)), [], false⟩,
  ⟨(some 61), .rd (.pick (.t 55) (.t 60) (.c (.bool false))), none, [], false⟩,
  ⟨(some 0), .rd (.mov (.t 61)), none, [], false⟩]
def law17_awake_4 : XCode := .seq law17_awake_3 .ret
def law17_awake_5 : XCode := .seq law17_awake_2 (.keep [3, 4, 5] law17_awake_4)
def law17_awake_6 : XCode := .seq law17_awake_1 (.keep [3] law17_awake_5)
def law17_awake_7 : XCode := .seq law17_awake_0 (.keep [1, 2] law17_awake_6)
def law17_awake_8 : XCode := .seq (.region [⟨(some 0), .rd (.mov (.c (.bool false))), none, [], false⟩]) law17_awake_7
def law17_awake : XFun := ⟨0, law17_awake_8, [.tmp 0]⟩
theorem law17_awake_ok : FunOk Tryz.prog law17_awake_id law17_awake := compFun_ok rfl E_ok (by kernel_rfl)

/-! ## 8 antecedent/magic.Given -/
def magic_Given_0 : XCode := .region [⟨(some 8), .rd (.off 1 (.t 2)), none, [], false⟩,
  ⟨(some 9), .rd (.load 1 false (.t 8)), none, [], false⟩,
  ⟨(some 10), .rd (.off 1 (.t 2)), none, [], false⟩,
  ⟨(some 11), .rd (.load 1 false (.t 10)), none, [], false⟩,
  ⟨(some 12), .rd (.lenL (.t 11)), none, [], false⟩,
  ⟨(some 13), .rd (.mov (.t 1)), none, [], false⟩,
  ⟨(some 14), .rd (.lenS (.t 13)), none, [], false⟩,
  ⟨(some 15), .rd (.min (.t 12) (.t 14)), none, [], false⟩,
  ⟨(some 16), .rd (.slice 4 (.t 9) none (some (.t 15)) none), none, [], false⟩,
  ⟨(some 17), .rd (.lenL (.t 16)), none, [], false⟩,
  ⟨(some 18), .rd (.mov (.c (.int .i64 0))), none, [], false⟩]
def magic_Given_1 : XCode := .cond (.t 19) .skip (.exit 0)
def magic_Given_2 : XCode := .region [⟨(some 20), .rd (.mov (.t 18)), none, [], false⟩,
  ⟨(some 21), .rd (.idx 4 (.t 16) (.t 18)), none, [], false⟩,
  ⟨(some 22), .rd (.load 4 true (.t 21)), none, [], false⟩,
  ⟨(some 7), .ef (.new T_api_Term 4 [.str [], .int .i64 0, .int .i64 0, .str []]), none, [], false⟩,
  ⟨(some 6), .rd (.mov (.t 20)), none, [], false⟩,
  ⟨none, .ef (.store 4 (.t 7) (.t 22)), none, [], false⟩]
def magic_Given_3 : XCode := .region [⟨(some 23), .rd (.mov (.t 1)), none, [], false⟩,
  ⟨(some 24), .rd (.mov (.t 6)), none, [], false⟩,
  ⟨(some 25), .rd (.indexS (.t 23) (.t 24)), none, [], false⟩,
  ⟨(some 26), .rd (.bin .eql .other (.t 25) (.c (.int .u8 98))), none, [], false⟩]
def magic_Given_4 : XCode := .region [⟨(some 27), .rd (.mov (.t 5)), none, [], false⟩,
  ⟨(some 28), .rd (.load 4 true (.t 7)), none, [], false⟩,
  ⟨(some 29), .ef (.buildSlice T_api_Term 4 1 [.str [], .int .i64 0, .int .i64 0, .str []] [(0, 4, (.t 28))]), none, [], false⟩,
  ⟨(some 30), .ef (.append T_api_Term 4 48 (.t 27) (.t 29)), none, [], false⟩,
  ⟨(some 5), .rd (.mov (.t 30)), none, [], false⟩]
def magic_Given_5 : XCode := .cond (.t 26) magic_Given_4 .skip
def magic_Given_6 : XCode := .seq magic_Given_3 (.keep [1, 5, 7, 16, 17, 18, 26] magic_Given_5)
def magic_Given_7 : XCode := .seq magic_Given_2 (.keep [1, 5, 6, 7, 16, 17, 18] magic_Given_6)
def magic_Given_8 : XCode := .region [⟨(some 31), .rd (.bin .add .other (.t 18) (.c (.int .i64 1))), none, [], false⟩,
  ⟨(some 18), .rd (.mov (.t 31)), none, [], false⟩]
def magic_Given_9 : XCode := .seq (.block 1 magic_Given_7) (.keep [1, 5, 16, 17, 18] magic_Given_8)
def magic_Given_10 : XCode := .seq magic_Given_1 (.keep [1, 5, 16, 17, 18] magic_Given_9)
def magic_Given_11 : XCode := .seq (.region [⟨(some 19), .rd (.bin .lss .other (.t 18) (.t 17)), none, [], false⟩]) magic_Given_10
def magic_Given_12 : XCode := .seq magic_Given_0 (.keep [1, 5, 16, 17, 18] (.block 0 (.loop [1, 5, 16, 17, 18] magic_Given_11)))
def magic_Given_13 : XCode := .seq (.region [⟨(some 32), .rd (.mov (.t 5)), none, [], false⟩,
  ⟨(some 4), .rd (.mov (.t 32)), none, [], false⟩]) .ret
def magic_Given_14 : XCode := .seq magic_Given_12 (.keep [5] magic_Given_13)
def magic_Given_15 : XCode := .seq (.region [⟨(some 5), .rd (.mov (.c (.nilslice))), none, [], false⟩]) magic_Given_14
def magic_Given_16 : XCode := .seq (.region [⟨(some 2), .ef (.box T_api_Atom 2 (.t 0)), none, [], false⟩,
  ⟨(some 4), .rd (.mov (.c (.nilslice))), none, [], false⟩]) magic_Given_15
def magic_Given : XFun := ⟨2, magic_Given_16, [.tmp 4]⟩
theorem magic_Given_ok : FunOk Tryz.prog magic_Given_id magic_Given := compFun_ok rfl E_ok (by kernel_rfl)

/-! ## 9 antecedent/antecedentref16.Given -/
def ref16_Given_0 : XCode := .region [⟨(some 7), .rd (.mov (.t 6)), none, [], false⟩,
  ⟨(some 8), .rd (.off 1 (.t 2)), none, [], false⟩,
  ⟨(some 9), .rd (.load 1 false (.t 8)), none, [], false⟩,
  ⟨(some 10), .rd (.lenL (.t 9)), none, [], false⟩,
  ⟨(some 11), .rd (.bin .lss .other (.t 7) (.t 10)), none, [], false⟩,
  ⟨(some 12), .rd (.mov (.t 11)), none, [], false⟩,
  ⟨(some 13), .rd (.mov (.t 6)), (some (12, true)), [], false⟩,
  ⟨(some 14), .rd (.mov (.t 1)), (some (12, true)), [], false⟩,
  ⟨(some 15), .rd (.lenS (.t 14)), (some (12, true)), [], false⟩,
  ⟨(some 16), .rd (.bin .lss .other (.t 13) (.t 15)), (some (12, true)), [], false⟩,
  ⟨(some 17), .rd (.pick (.t 12) (.t 16) (.c (.bool false))), none, [], false⟩]
def ref16_Given_1 : XCode := .cond (.t 17) .skip (.exit 0)
def ref16_Given_2 : XCode := .seq ref16_Given_0 (.keep [1, 2, 5, 6, 17] ref16_Given_1)
def ref16_Given_3 : XCode := .region [⟨(some 20), .rd (.mov (.t 1)), none, [], false⟩,
  ⟨(some 21), .rd (.mov (.t 6)), none, [], false⟩,
  ⟨(some 22), .rd (.indexS (.t 20) (.t 21)), none, [], false⟩,
  ⟨(some 23), .rd (.bin .eql .other (.t 22) (.c (.int .u8 98))), none, [], false⟩]
def ref16_Given_4 : XCode := .region [⟨(some 24), .rd (.mov (.t 5)), none, [], false⟩,
  ⟨(some 25), .rd (.off 1 (.t 2)), none, [], false⟩,
  ⟨(some 26), .rd (.load 1 false (.t 25)), none, [], false⟩,
  ⟨(some 27), .rd (.mov (.t 6)), none, [], false⟩,
  ⟨(some 28), .rd (.idx 4 (.t 26) (.t 27)), none, [], false⟩,
  ⟨(some 29), .rd (.load 4 true (.t 28)), none, [], false⟩,
  ⟨(some 30), .ef (.buildSlice T_api_Term 4 1 [.str [], .int .i64 0, .int .i64 0, .str []] [(0, 4, (.t 29))]), none, [], false⟩,
  ⟨(some 31), .ef (.append T_api_Term 4 48 (.t 24) (.t 30)), none, [], false⟩,
  ⟨(some 5), .rd (.mov (.t 31)), none, [], false⟩]
def ref16_Given_5 : XCode := .cond (.t 23) ref16_Given_4 .skip
def ref16_Given_6 : XCode := .seq ref16_Given_3 (.keep [1, 2, 5, 6, 23] ref16_Given_5)
def ref16_Given_7 : XCode := .region [⟨(some 18), .rd (.mov (.t 6)), none, [], false⟩,
  ⟨(some 19), .rd (.bin .add .other (.t 18) (.c (.int .i64 1))), none, [], false⟩,
  ⟨(some 6), .rd (.mov (.t 19)), none, [], false⟩]
def ref16_Given_8 : XCode := .seq (.block 1 ref16_Given_6) (.keep [1, 2, 5, 6] ref16_Given_7)
def ref16_Given_9 : XCode := .seq ref16_Given_2 (.keep [1, 2, 5, 6] ref16_Given_8)
def ref16_Given_10 : XCode := .seq (.region [⟨(some 6), .rd (.mov (.c (.int .i64 0))), none, [], false⟩]) (.block 0 (.loop [1, 2, 5, 6] ref16_Given_9))
def ref16_Given_11 : XCode := .seq (.region [⟨(some 32), .rd (.mov (.t 5)), none, [], false⟩,
  ⟨(some 4), .rd (.mov (.t 32)), none, [], false⟩]) .ret
def ref16_Given_12 : XCode := .seq ref16_Given_10 (.keep [5] ref16_Given_11)
def ref16_Given_13 : XCode := .seq (.region [⟨(some 5), .rd (.mov (.c (.nilslice))), none, [], false⟩]) ref16_Given_12
def ref16_Given_14 : XCode := .seq (.region [⟨(some 2), .ef (.box T_api_Atom 2 (.t 0)), none, [], false⟩,
  ⟨(some 4), .rd (.mov (.c (.nilslice))), none, [], false⟩]) ref16_Given_13
def ref16_Given : XFun := ⟨2, ref16_Given_14, [.tmp 4]⟩
theorem ref16_Given_ok : FunOk Tryz.prog ref16_Given_id ref16_Given := compFun_ok rfl E_ok (by kernel_rfl)

/-! ## 10 antecedent/magic.Asked -/
def magic_Asked_0 : XCode := .region [⟨(some 5), .rd (.mov (.t 0)), none, [], false⟩,
  ⟨(some 6), .rd (.off 1 (.t 3)), none, [], false⟩,
  ⟨(some 7), .rd (.load 1 false (.t 6)), none, [], false⟩,
  ⟨(some 8), .rd (.bin .add .other (.t 5) (.t 7)), none, [], false⟩,
  ⟨(some 9), .rd (.bin .add .other (.t 8) (.c (.str [95]))), none, [], false⟩,
  ⟨(some 10), .rd (.off 0 (.t 3)), none, [], false⟩,
  ⟨(some 11), .rd (.load 1 false (.t 10)), none, [], false⟩,
  ⟨(some 12), .rd (.bin .add .other (.t 9) (.t 11)), none, [], false⟩,
  ⟨(some 4), .rd (.mov (.t 12)), none, [], false⟩]
def magic_Asked_1 : XCode := .seq magic_Asked_0 .ret
def magic_Asked_2 : XCode := .seq (.region [⟨(some 3), .ef (.box T_adorn_Demand 2 (.t 1)), none, [], false⟩,
  ⟨(some 4), .rd (.mov (.c (.str []))), none, [], false⟩]) magic_Asked_1
def magic_Asked : XFun := ⟨2, magic_Asked_2, [.tmp 4]⟩
theorem magic_Asked_ok : FunOk Tryz.prog magic_Asked_id magic_Asked := compFun_ok rfl E_ok (by kernel_rfl)

/-! ## 11 antecedent/antecedentref17.Asked -/
def ref17_Asked_0 : XCode := .region [⟨(some 5), .rd (.mov (.t 0)), none, [], false⟩,
  ⟨(some 6), .rd (.off 1 (.t 3)), none, [], false⟩,
  ⟨(some 7), .rd (.load 1 false (.t 6)), none, [], false⟩,
  ⟨(some 8), .rd (.bin .add .other (.t 5) (.t 7)), none, [], false⟩,
  ⟨(some 9), .rd (.bin .add .other (.t 8) (.c (.str [95]))), none, [], false⟩,
  ⟨(some 10), .rd (.off 0 (.t 3)), none, [], false⟩,
  ⟨(some 11), .rd (.load 1 false (.t 10)), none, [], false⟩,
  ⟨(some 12), .rd (.bin .add .other (.t 9) (.t 11)), none, [], false⟩,
  ⟨(some 4), .rd (.mov (.t 12)), none, [], false⟩]
def ref17_Asked_1 : XCode := .seq ref17_Asked_0 .ret
def ref17_Asked_2 : XCode := .seq (.region [⟨(some 3), .ef (.box T_antecedentref16_Demand 2 (.t 1)), none, [], false⟩,
  ⟨(some 4), .rd (.mov (.c (.str []))), none, [], false⟩]) ref17_Asked_1
def ref17_Asked : XFun := ⟨2, ref17_Asked_2, [.tmp 4]⟩
theorem ref17_Asked_ok : FunOk Tryz.prog ref17_Asked_id ref17_Asked := compFun_ok rfl E_ok (by kernel_rfl)

/-! ## 12 antecedent/magic.Found -/
def magic_Found_0 : XCode := .region [⟨(some 5), .rd (.mov (.t 0)), none, [], false⟩,
  ⟨(some 6), .rd (.bin .add .other (.t 5) (.c (.str [105, 115, 95]))), none, [], false⟩,
  ⟨(some 7), .rd (.load 2 true (.t 3)), none, [], false⟩,
  ⟨(some 8), .call magic_Asked_id [.t 6, .t 7], none, [], false⟩,
  ⟨(some 4), .rd (.mov (.t 8)), none, [], false⟩]
def magic_Found_1 : XCode := .seq magic_Found_0 .ret
def magic_Found_2 : XCode := .seq (.region [⟨(some 3), .ef (.box T_adorn_Demand 2 (.t 1)), none, [], false⟩,
  ⟨(some 4), .rd (.mov (.c (.str []))), none, [], false⟩]) magic_Found_1
def magic_Found : XFun := ⟨2, magic_Found_2, [.tmp 4]⟩
theorem magic_Found_ok : FunOk Tryz.prog magic_Found_id magic_Found := compFun_ok rfl E_ok (by kernel_rfl)

/-! ## 13 antecedent/antecedentref17.Found -/
def ref17_Found_0 : XCode := .region [⟨(some 5), .rd (.mov (.t 0)), none, [], false⟩,
  ⟨(some 6), .rd (.bin .add .other (.t 5) (.c (.str [105, 115, 95]))), none, [], false⟩,
  ⟨(some 7), .rd (.off 1 (.t 3)), none, [], false⟩,
  ⟨(some 8), .rd (.load 1 false (.t 7)), none, [], false⟩,
  ⟨(some 9), .rd (.bin .add .other (.t 6) (.t 8)), none, [], false⟩,
  ⟨(some 10), .rd (.bin .add .other (.t 9) (.c (.str [95]))), none, [], false⟩,
  ⟨(some 11), .rd (.off 0 (.t 3)), none, [], false⟩,
  ⟨(some 12), .rd (.load 1 false (.t 11)), none, [], false⟩,
  ⟨(some 13), .rd (.bin .add .other (.t 10) (.t 12)), none, [], false⟩,
  ⟨(some 4), .rd (.mov (.t 13)), none, [], false⟩]
def ref17_Found_1 : XCode := .seq ref17_Found_0 .ret
def ref17_Found_2 : XCode := .seq (.region [⟨(some 3), .ef (.box T_antecedentref16_Demand 2 (.t 1)), none, [], false⟩,
  ⟨(some 4), .rd (.mov (.c (.str []))), none, [], false⟩]) ref17_Found_1
def ref17_Found : XFun := ⟨2, ref17_Found_2, [.tmp 4]⟩
theorem ref17_Found_ok : FunOk Tryz.prog ref17_Found_id ref17_Found := compFun_ok rfl E_ok (by kernel_rfl)

/-! ## 15 antecedent/magic.Rewrite -/
def magic_Rewrite_0 : XCode := .draw [⟨(some 16), .rd (.load 3 true (.t 2)), none, [], false⟩,
  ⟨(some 17), .call magic_Prefix_id [.t 16], none, [0], false⟩,
  ⟨(some 18), .rd (.load 3 true (.t 2)), none, [], false⟩,
  ⟨(some 19), .call adorn_Open_id [.t 18], none, [2, 1, 0], false⟩,
  ⟨(some 20), .rd (.load 3 true (.t 2)), none, [], false⟩,
  ⟨(some 21), .call adorn_Demands_id [.t 20], none, [4, 3, 2, 1, 0], false⟩,
  ⟨(some 22), .rd (.build [.str [], .nilslice, .nilslice] [(0, 1, (.t 17)), (1, 1, (.t 19)), (2, 1, (.t 21))]), none, [1, 3, 5, 0, 2, 4], false⟩,
  ⟨(some 6), .ef (.new T_magic_book 3 [.str [], .nilslice, .nilslice]), none, [], false⟩,
  ⟨none, .ef (.store 3 (.t 6) (.t 22)), none, [7, 6, 5, 0, 1, 2, 3, 4], false⟩]
def magic_Rewrite_1 : XCode := .region [⟨(some 23), .rd (.off 2 (.t 6)), none, [], false⟩,
  ⟨(some 24), .rd (.load 1 false (.t 23)), none, [], false⟩,
  ⟨(some 25), .rd (.lenL (.t 24)), none, [], false⟩,
  ⟨(some 26), .rd (.bin .eql .other (.t 25) (.c (.int .i64 0))), none, [], false⟩]
def magic_Rewrite_2 : XCode := .seq (.region [⟨(some 27), .rd (.load 3 true (.t 2)), none, [], false⟩,
  ⟨none, .ef (.store 3 (.t 4) (.t 27)), none, [], false⟩,
  ⟨(some 5), .rd (.mov (.c (.bool false))), none, [], false⟩]) .ret
def magic_Rewrite_3 : XCode := .cond (.t 26) magic_Rewrite_2 .skip
def magic_Rewrite_4 : XCode := .seq magic_Rewrite_1 (.keep [1, 2, 4, 6, 26] magic_Rewrite_3)
def magic_Rewrite_5 : XCode := .region [⟨(some 29), .rd (.off 2 (.t 6)), none, [], false⟩,
  ⟨(some 30), .rd (.load 1 false (.t 29)), none, [], false⟩,
  ⟨(some 31), .call adorn_Prune_id [.t 30], none, [], false⟩,
  ⟨(some 32), .rd (.off 2 (.t 6)), none, [], false⟩,
  ⟨none, .ef (.store 1 (.t 32) (.t 31)), none, [], false⟩]
def magic_Rewrite_6 : XCode := .cond (.t 28) magic_Rewrite_5 .skip
def magic_Rewrite_7 : XCode := .seq (.region [⟨(some 28), .rd (.mov (.t 1)), none, [], false⟩]) magic_Rewrite_6
def magic_Rewrite_8 : XCode := .region [⟨(some 33), .rd (.load 3 true (.t 6)), none, [], false⟩,
  ⟨(some 34), .rd (.off 1 (.t 2)), none, [], false⟩,
  ⟨(some 35), .rd (.load 2 true (.t 34)), none, [], false⟩,
  ⟨(some 36), .call magic_book_use_id [.t 33, .t 35, .c (.nilslice)], none, [], false⟩,
  ⟨(some 7), .ef (.new T_adorn_Demand 2 [.str [], .str []]), none, [], false⟩,
  ⟨none, .ef (.store 2 (.t 7) (.t 36)), none, [], false⟩]
def magic_Rewrite_9 : XCode := .draw [⟨(some 37), .rd (.off 0 (.t 6)), none, [], false⟩,
  ⟨(some 38), .rd (.load 1 false (.t 37)), none, [0], false⟩,
  ⟨(some 39), .rd (.load 2 true (.t 7)), none, [], false⟩,
  ⟨(some 40), .call magic_Found_id [.t 38, .t 39], none, [1, 2, 0], false⟩,
  ⟨(some 41), .rd (.off 1 (.t 2)), none, [], false⟩,
  ⟨(some 42), .rd (.off 1 (.t 41)), none, [4], false⟩,
  ⟨(some 43), .rd (.load 1 false (.t 42)), none, [5, 4], false⟩,
  ⟨(some 44), .rd (.build [.str [], .nilslice] [(0, 1, (.t 40)), (1, 1, (.t 43))]), none, [3, 6, 1, 2, 0, 5, 4], false⟩,
  ⟨(some 45), .rd (.build [.nilslice, .str [], .nilslice] [(1, 2, (.t 44))]), none, [7, 3, 6, 1, 2, 0, 5, 4], false⟩,
  ⟨(some 8), .ef (.new T_api_Program 3 [.nilslice, .str [], .nilslice]), none, [], false⟩,
  ⟨none, .ef (.store 3 (.t 8) (.t 45)), none, [9, 8, 3, 0, 1, 2, 4, 5, 6, 7], false⟩]
def magic_Rewrite_10 : XCode := .draw [⟨(some 46), .rd (.off 0 (.t 8)), none, [], false⟩,
  ⟨(some 47), .rd (.load 1 false (.t 46)), none, [0], false⟩,
  ⟨(some 48), .rd (.off 0 (.t 6)), none, [], false⟩,
  ⟨(some 49), .rd (.load 1 false (.t 48)), none, [2], false⟩,
  ⟨(some 50), .rd (.load 2 true (.t 7)), none, [], false⟩,
  ⟨(some 51), .call magic_Asked_id [.t 49, .t 50], none, [3, 4, 2], false⟩,
  ⟨(some 52), .rd (.off 1 (.t 2)), none, [], false⟩,
  ⟨(some 53), .rd (.load 2 true (.t 52)), none, [6], false⟩,
  ⟨(some 54), .rd (.off 1 (.t 7)), none, [], false⟩,
  ⟨(some 55), .rd (.load 1 false (.t 54)), none, [8], false⟩,
  ⟨(some 56), .call magic_Given_id [.t 53, .t 55], none, [7, 9, 5, 6, 8, 3, 4, 2], false⟩,
  ⟨(some 57), .rd (.build [.str [], .nilslice] [(0, 1, (.t 51)), (1, 1, (.t 56))]), none, [5, 10, 3, 4, 2, 7, 9, 6, 8], false⟩,
  ⟨(some 58), .rd (.build [.str [], .nilslice, .int .i64 0, .nilslice] [(0, 2, (.t 57))]), none, [11, 5, 10, 3, 4, 2, 7, 9, 6, 8], false⟩,
  ⟨(some 59), .ef (.buildSlice T_api_Rule 4 1 [.str [], .nilslice, .int .i64 0, .nilslice] [(0, 4, (.t 58))]), none, [12, 11, 5, 10, 3, 4, 2, 7, 9, 6, 8], false⟩,
  ⟨(some 60), .ef (.append T_api_Rule 4 72 (.t 47) (.t 59)), none, [1, 13, 10, 0, 12, 11, 5, 3, 4, 2, 7, 9, 6, 8], false⟩,
  ⟨(some 61), .rd (.off 0 (.t 8)), none, [0, 1, 2, 3, 4, 5, 6, 7, 8, 9, 10, 11, 12, 13, 14], false⟩,
  ⟨none, .ef (.store 1 (.t 61) (.t 60)), none, [15, 14, 0, 1, 2, 3, 4, 5, 6, 7, 8, 9, 10, 11, 12, 13], false⟩]
def magic_Rewrite_11 : XCode := .region [⟨(some 62), .rd (.off 2 (.t 6)), none, [], false⟩,
  ⟨(some 63), .rd (.load 1 false (.t 62)), none, [], false⟩,
  ⟨(some 64), .rd (.lenL (.t 63)), none, [], false⟩,
  ⟨(some 65), .rd (.mov (.c (.int .i64 0))), none, [], false⟩]
def magic_Rewrite_12 : XCode := .cond (.t 66) .skip (.exit 0)
def magic_Rewrite_13 : XCode := .region [⟨(some 67), .rd (.idx 2 (.t 63) (.t 65)), none, [], false⟩,
  ⟨(some 68), .rd (.load 2 true (.t 67)), none, [], false⟩,
  ⟨(some 10), .ef (.new T_adorn_Demand 2 [.str [], .str []]), none, [], false⟩,
  ⟨none, .ef (.store 2 (.t 10) (.t 68)), none, [], false⟩]
def magic_Rewrite_14 : XCode := .region [⟨(some 69), .rd (.off 0 (.t 2)), none, [], false⟩,
  ⟨(some 70), .rd (.load 1 false (.t 69)), none, [], false⟩,
  ⟨(some 71), .rd (.lenL (.t 70)), none, [], false⟩,
  ⟨(some 72), .rd (.mov (.c (.int .i64 0))), none, [], false⟩]
def magic_Rewrite_15 : XCode := .cond (.t 73) .skip (.exit 2)
def magic_Rewrite_16 : XCode := .region [⟨(some 74), .rd (.idx 4 (.t 70) (.t 72)), none, [], false⟩,
  ⟨(some 75), .rd (.load 4 true (.t 74)), none, [], false⟩,
  ⟨(some 12), .ef (.new T_api_Rule 4 [.str [], .nilslice, .int .i64 0, .nilslice]), none, [], false⟩,
  ⟨none, .ef (.store 4 (.t 12) (.t 75)), none, [], false⟩]
def magic_Rewrite_17 : XCode := .region [⟨(some 76), .rd (.off 0 (.t 12)), none, [], false⟩,
  ⟨(some 77), .rd (.off 0 (.t 76)), none, [], false⟩,
  ⟨(some 78), .rd (.load 1 false (.t 77)), none, [], false⟩,
  ⟨(some 79), .rd (.off 0 (.t 10)), none, [], false⟩,
  ⟨(some 80), .rd (.load 1 false (.t 79)), none, [], false⟩,
  ⟨(some 81), .rd (.bin .eql .other (.t 78) (.t 80)), none, [], false⟩]
def magic_Rewrite_18 : XCode := .draw [⟨(some 82), .rd (.off 0 (.t 8)), none, [], false⟩,
  ⟨(some 83), .rd (.load 1 false (.t 82)), none, [0], false⟩,
  ⟨(some 84), .rd (.load 3 true (.t 6)), none, [], false⟩,
  ⟨(some 85), .rd (.load 4 true (.t 12)), none, [], false⟩,
  ⟨(some 86), .rd (.load 2 true (.t 10)), none, [], false⟩,
  ⟨(some 87), .call magic_book_rules_id [.t 84, .t 85, .t 86], none, [2, 3, 4], false⟩,
  ⟨(some 88), .ef (.append T_api_Rule 4 72 (.t 83) (.t 87)), none, [1, 5, 0, 2, 3, 4], false⟩,
  ⟨(some 89), .rd (.off 0 (.t 8)), none, [0, 1, 2, 3, 4, 5, 6], false⟩,
  ⟨none, .ef (.store 1 (.t 89) (.t 88)), none, [7, 6, 0, 1, 2, 3, 4, 5], false⟩]
def magic_Rewrite_19 : XCode := .cond (.t 81) magic_Rewrite_18 .skip
def magic_Rewrite_20 : XCode := .seq magic_Rewrite_17 (.keep [2, 4, 6, 8, 10, 12, 63, 64, 65, 70, 71, 72, 81] magic_Rewrite_19)
def magic_Rewrite_21 : XCode := .seq magic_Rewrite_16 (.keep [2, 4, 6, 8, 10, 12, 63, 64, 65, 70, 71, 72] magic_Rewrite_20)
def magic_Rewrite_22 : XCode := .region [⟨(some 90), .rd (.bin .add .other (.t 72) (.c (.int .i64 1))), none, [], false⟩,
  ⟨(some 72), .rd (.mov (.t 90)), none, [], false⟩]
def magic_Rewrite_23 : XCode := .seq (.block 3 magic_Rewrite_21) (.keep [2, 4, 6, 8, 10, 63, 64, 65, 70, 71, 72] magic_Rewrite_22)
def magic_Rewrite_24 : XCode := .seq magic_Rewrite_15 (.keep [2, 4, 6, 8, 10, 63, 64, 65, 70, 71, 72] magic_Rewrite_23)
def magic_Rewrite_25 : XCode := .seq (.region [⟨(some 73), .rd (.bin .lss .other (.t 72) (.t 71)), none, [], false⟩]) magic_Rewrite_24
def magic_Rewrite_26 : XCode := .seq magic_Rewrite_14 (.keep [2, 4, 6, 8, 10, 63, 64, 65, 70, 71, 72] (.block 2 (.loop [2, 4, 6, 8, 10, 63, 64, 65, 70, 71, 72] magic_Rewrite_25)))
def magic_Rewrite_27 : XCode := .seq magic_Rewrite_13 (.keep [2, 4, 6, 8, 10, 63, 64, 65] magic_Rewrite_26)
def magic_Rewrite_28 : XCode := .region [⟨(some 91), .rd (.bin .add .other (.t 65) (.c (.int .i64 1))), none, [], false⟩,
  ⟨(some 65), .rd (.mov (.t 91)), none, [], false⟩]
def magic_Rewrite_29 : XCode := .seq (.block 1 magic_Rewrite_27) (.keep [2, 4, 6, 8, 63, 64, 65] magic_Rewrite_28)
def magic_Rewrite_30 : XCode := .seq magic_Rewrite_12 (.keep [2, 4, 6, 8, 63, 64, 65] magic_Rewrite_29)
def magic_Rewrite_31 : XCode := .seq (.region [⟨(some 66), .rd (.bin .lss .other (.t 65) (.t 64)), none, [], false⟩]) magic_Rewrite_30
def magic_Rewrite_32 : XCode := .seq magic_Rewrite_11 (.keep [2, 4, 6, 8, 63, 64, 65] (.block 0 (.loop [2, 4, 6, 8, 63, 64, 65] magic_Rewrite_31)))
def magic_Rewrite_33 : XCode := .region [⟨(some 93), .rd (.off 0 (.t 2)), none, [], false⟩,
  ⟨(some 94), .rd (.load 1 false (.t 93)), none, [], false⟩,
  ⟨(some 95), .rd (.lenL (.t 94)), none, [], false⟩,
  ⟨(some 96), .rd (.mov (.c (.int .i64 0))), none, [], false⟩]
def magic_Rewrite_34 : XCode := .cond (.t 97) .skip (.exit 4)
def magic_Rewrite_35 : XCode := .region [⟨(some 98), .rd (.idx 4 (.t 94) (.t 96)), none, [], false⟩,
  ⟨(some 99), .rd (.load 4 true (.t 98)), none, [], false⟩,
  ⟨(some 15), .ef (.new T_api_Rule 4 [.str [], .nilslice, .int .i64 0, .nilslice]), none, [], false⟩,
  ⟨none, .ef (.store 4 (.t 15) (.t 99)), none, [], false⟩]
def magic_Rewrite_36 : XCode := .region [⟨(some 100), .rd (.mov (.t 13)), none, [], false⟩,
  ⟨(some 101), .rd (.off 0 (.t 15)), none, [], false⟩,
  ⟨(some 102), .rd (.off 0 (.t 101)), none, [], false⟩,
  ⟨(some 103), .rd (.load 1 false (.t 102)), none, [], false⟩,
  ⟨(some 104), .callv (.t 100) [.t 103], none, [], false⟩,
  ⟨(some 105), .rd (.un .not (.t 104)), none, [], false⟩]
def magic_Rewrite_37 : XCode := .region [⟨(some 106), .rd (.off 0 (.t 8)), none, [], false⟩,
  ⟨(some 107), .rd (.load 1 false (.t 106)), none, [], false⟩,
  ⟨(some 108), .rd (.load 4 true (.t 15)), none, [], false⟩,
  ⟨(some 109), .ef (.buildSlice T_api_Rule 4 1 [.str [], .nilslice, .int .i64 0, .nilslice] [(0, 4, (.t 108))]), none, [], false⟩,
  ⟨(some 110), .ef (.append T_api_Rule 4 72 (.t 107) (.t 109)), none, [], false⟩,
  ⟨(some 111), .rd (.off 0 (.t 8)), none, [], false⟩,
  ⟨none, .ef (.store 1 (.t 111) (.t 110)), none, [], false⟩]
def magic_Rewrite_38 : XCode := .cond (.t 105) magic_Rewrite_37 .skip
def magic_Rewrite_39 : XCode := .seq magic_Rewrite_36 (.keep [4, 8, 13, 15, 94, 95, 96, 105] magic_Rewrite_38)
def magic_Rewrite_40 : XCode := .seq magic_Rewrite_35 (.keep [4, 8, 13, 15, 94, 95, 96] magic_Rewrite_39)
def magic_Rewrite_41 : XCode := .region [⟨(some 112), .rd (.bin .add .other (.t 96) (.c (.int .i64 1))), none, [], false⟩,
  ⟨(some 96), .rd (.mov (.t 112)), none, [], false⟩]
def magic_Rewrite_42 : XCode := .seq (.block 5 magic_Rewrite_40) (.keep [4, 8, 13, 94, 95, 96] magic_Rewrite_41)
def magic_Rewrite_43 : XCode := .seq magic_Rewrite_34 (.keep [4, 8, 13, 94, 95, 96] magic_Rewrite_42)
def magic_Rewrite_44 : XCode := .seq (.region [⟨(some 97), .rd (.bin .lss .other (.t 96) (.t 95)), none, [], false⟩]) magic_Rewrite_43
def magic_Rewrite_45 : XCode := .seq magic_Rewrite_33 (.keep [4, 8, 13, 94, 95, 96] (.block 4 (.loop [4, 8, 13, 94, 95, 96] magic_Rewrite_44)))
def magic_Rewrite_46 : XCode := .seq (.region [⟨(some 113), .rd (.load 3 true (.t 8)), none, [], false⟩,
  ⟨none, .ef (.store 3 (.t 4) (.t 113)), none, [], false⟩,
  ⟨(some 5), .rd (.mov (.c (.bool true))), none, [], false⟩]) .ret
def magic_Rewrite_47 : XCode := .seq magic_Rewrite_45 (.keep [4, 8] magic_Rewrite_46)
def magic_Rewrite_48 : XCode := .seq (.region [⟨(some 92), .rd (.mkfunc magic_Rewrite_f1_id [.t 2]), none, [], false⟩,
  ⟨(some 13), .rd (.mov (.t 92)), none, [], false⟩]) magic_Rewrite_47
def magic_Rewrite_49 : XCode := .seq magic_Rewrite_32 (.keep [2, 4, 8] magic_Rewrite_48)
def magic_Rewrite_50 : XCode := .seq magic_Rewrite_10 (.keep [2, 4, 6, 8] magic_Rewrite_49)
def magic_Rewrite_51 : XCode := .seq magic_Rewrite_9 (.keep [2, 4, 6, 7, 8] magic_Rewrite_50)
def magic_Rewrite_52 : XCode := .seq magic_Rewrite_8 (.keep [2, 4, 6, 7] magic_Rewrite_51)
def magic_Rewrite_53 : XCode := .seq magic_Rewrite_7 (.keep [2, 4, 6] magic_Rewrite_52)
def magic_Rewrite_54 : XCode := .seq magic_Rewrite_4 (.keep [1, 2, 4, 6] magic_Rewrite_53)
def magic_Rewrite_55 : XCode := .seq magic_Rewrite_0 (.keep [1, 2, 4, 6] magic_Rewrite_54)
def magic_Rewrite_56 : XCode := .seq (.region [⟨(some 2), .ef (.box T_api_Program 3 (.t 0)), none, [], false⟩,
  ⟨(some 4), .ef (.new T_api_Program 3 [.nilslice, .str [], .nilslice]), none, [], false⟩,
  ⟨(some 5), .rd (.mov (.c (.bool false))), none, [], false⟩]) magic_Rewrite_55
def magic_Rewrite : XFun := ⟨2, magic_Rewrite_56, [.cell 3 true 4, .tmp 5]⟩
theorem magic_Rewrite_ok : FunOk Tryz.prog magic_Rewrite_id magic_Rewrite := compFun_ok rfl E_ok (by kernel_rfl)

/-! ## 17 antecedent/magic.Prefix -/
def magic_Prefix_0 : XCode := .cond (.t 9) .skip (.exit 0)
def magic_Prefix_1 : XCode := .seq (.region [⟨(some 7), .rd (.mov (.t 3)), none, [], false⟩,
  ⟨(some 8), .rd (.mkfunc magic_Prefix_f1_id [.t 4]), none, [], false⟩,
  ⟨(some 9), .call slices_ContainsFunc_string_id [.t 7, .t 8], none, [], false⟩]) magic_Prefix_0
def magic_Prefix_2 : XCode := .region [⟨(some 10), .rd (.load 1 false (.t 4)), none, [], false⟩,
  ⟨(some 11), .rd (.bin .add .other (.t 10) (.c (.str [95]))), none, [], false⟩,
  ⟨none, .ef (.store 1 (.t 4) (.t 11)), none, [], false⟩]
def magic_Prefix_3 : XCode := .seq magic_Prefix_1 (.keep [3, 4] (.block 1 magic_Prefix_2))
def magic_Prefix_4 : XCode := .seq (.region [⟨(some 12), .rd (.load 1 false (.t 4)), none, [], false⟩,
  ⟨(some 2), .rd (.mov (.t 12)), none, [], false⟩]) .ret
def magic_Prefix_5 : XCode := .seq (.block 0 (.loop [3, 4] magic_Prefix_3)) (.keep [4] magic_Prefix_4)
def magic_Prefix_6 : XCode := .seq (.region [⟨(some 4), .ef (.new T_string 1 [.str []]), none, [], false⟩,
  ⟨none, .ef (.store 1 (.t 4) (.c (.str [97, 115, 107, 95]))), none, [], false⟩]) magic_Prefix_5
def magic_Prefix_7 : XCode := .seq (.region [⟨(some 5), .rd (.load 3 true (.t 1)), none, [], false⟩,
  ⟨(some 6), .call strata_Names_id [.t 5], none, [], false⟩,
  ⟨(some 3), .rd (.mov (.t 6)), none, [], false⟩]) magic_Prefix_6
def magic_Prefix_8 : XCode := .seq (.region [⟨(some 1), .ef (.box T_api_Program 3 (.t 0)), none, [], false⟩,
  ⟨(some 2), .rd (.mov (.c (.str []))), none, [], false⟩]) magic_Prefix_7
def magic_Prefix : XFun := ⟨1, magic_Prefix_8, [.tmp 2]⟩
theorem magic_Prefix_ok : FunOk Tryz.prog magic_Prefix_id magic_Prefix := compFun_ok rfl E_ok (by kernel_rfl)

/-! ## 26 antecedent/adorn.Open -/
def adorn_Open_0 : XCode := .region [⟨(some 13), .rd (.load 3 true (.t 1)), none, [], false⟩,
  ⟨(some 14), .call strata_Names_id [.t 13], none, [], false⟩,
  ⟨(some 3), .ef (.new T_sl_string 1 [.nilslice]), none, [], false⟩,
  ⟨none, .ef (.store 1 (.t 3) (.t 14)), none, [], false⟩]
def adorn_Open_1 : XCode := .region [⟨(some 17), .ef (.mkmap), none, [], false⟩,
  ⟨(some 18), .ef (.mkmap), none, [], false⟩,
  ⟨(some 6), .ef (.new T_map_string_int 1 [.nilmap]), none, [], false⟩,
  ⟨(some 5), .rd (.mov (.t 17)), none, [], false⟩,
  ⟨none, .ef (.store 1 (.t 6) (.t 18)), none, [], false⟩]
def adorn_Open_2 : XCode := .region [⟨(some 19), .rd (.off 0 (.t 1)), none, [], false⟩,
  ⟨(some 20), .rd (.load 1 false (.t 19)), none, [], false⟩,
  ⟨(some 21), .rd (.lenL (.t 20)), none, [], false⟩,
  ⟨(some 22), .rd (.mov (.c (.int .i64 0))), none, [], false⟩]
def adorn_Open_3 : XCode := .cond (.t 23) .skip (.exit 0)
def adorn_Open_4 : XCode := .region [⟨(some 24), .rd (.idx 4 (.t 20) (.t 22)), none, [], false⟩,
  ⟨(some 25), .rd (.load 4 true (.t 24)), none, [], false⟩,
  ⟨(some 8), .ef (.new T_api_Rule 4 [.str [], .nilslice, .int .i64 0, .nilslice]), none, [], false⟩,
  ⟨none, .ef (.store 4 (.t 8) (.t 25)), none, [], false⟩]
def adorn_Open_5 : XCode := .region [⟨(some 26), .rd (.mov (.t 5)), none, [], false⟩,
  ⟨(some 27), .rd (.off 0 (.t 8)), none, [], false⟩,
  ⟨(some 28), .rd (.off 0 (.t 27)), none, [], false⟩,
  ⟨(some 29), .rd (.load 1 false (.t 28)), none, [], false⟩,
  ⟨(some 30), .rd (.lookup (.int .i64 0) false .str (.t 26) (.t 29)), none, [], false⟩,
  ⟨(some 31), .rd (.off 3 (.t 8)), none, [], false⟩,
  ⟨(some 32), .rd (.load 1 false (.t 31)), none, [], false⟩,
  ⟨(some 33), .rd (.lenL (.t 32)), none, [], false⟩,
  ⟨(some 34), .rd (.bin .add .other (.t 30) (.t 33)), none, [], false⟩,
  ⟨none, .ef (.mapset .str (.t 26) (.t 29) (.t 34)), none, [], false⟩]
def adorn_Open_6 : XCode := .region [⟨(some 37), .rd (.load 1 false (.t 6)), none, [], false⟩,
  ⟨(some 38), .rd (.off 0 (.t 8)), none, [], false⟩,
  ⟨(some 39), .rd (.off 0 (.t 38)), none, [], false⟩,
  ⟨(some 40), .rd (.load 1 false (.t 39)), none, [], false⟩,
  ⟨(some 41), .rd (.lookup (.int .i64 0) false .str (.t 37) (.t 40)), none, [], false⟩,
  ⟨(some 42), .rd (.bin .add .other (.t 41) (.c (.int .i64 1))), none, [], false⟩,
  ⟨none, .ef (.mapset .str (.t 37) (.t 40) (.t 42)), none, [], false⟩]
def adorn_Open_7 : XCode := .cond (.t 36) adorn_Open_6 .skip
def adorn_Open_8 : XCode := .seq (.region [⟨(some 35), .rd (.load 4 true (.t 8)), none, [], false⟩,
  ⟨(some 36), .call adorn_closed_id [.t 35], none, [], false⟩]) adorn_Open_7
def adorn_Open_9 : XCode := .seq adorn_Open_5 (.keep [3, 4, 5, 6, 8, 20, 21, 22] adorn_Open_8)
def adorn_Open_10 : XCode := .seq adorn_Open_4 (.keep [3, 4, 5, 6, 8, 20, 21, 22] adorn_Open_9)
def adorn_Open_11 : XCode := .region [⟨(some 43), .rd (.bin .add .other (.t 22) (.c (.int .i64 1))), none, [], false⟩,
  ⟨(some 22), .rd (.mov (.t 43)), none, [], false⟩]
def adorn_Open_12 : XCode := .seq (.block 1 adorn_Open_10) (.keep [3, 4, 5, 6, 20, 21, 22] adorn_Open_11)
def adorn_Open_13 : XCode := .seq adorn_Open_3 (.keep [3, 4, 5, 6, 20, 21, 22] adorn_Open_12)
def adorn_Open_14 : XCode := .seq (.region [⟨(some 23), .rd (.bin .lss .other (.t 22) (.t 21)), none, [], false⟩]) adorn_Open_13
def adorn_Open_15 : XCode := .seq adorn_Open_2 (.keep [3, 4, 5, 6, 20, 21, 22] (.block 0 (.loop [3, 4, 5, 6, 20, 21, 22] adorn_Open_14)))
def adorn_Open_16 : XCode := .cond (.t 47) .skip (.exit 2)
def adorn_Open_17 : XCode := .region [⟨(some 48), .rd (.mov (.t 46)), none, [], false⟩,
  ⟨(some 49), .rd (.idx 1 (.t 44) (.t 46)), none, [], false⟩,
  ⟨(some 50), .rd (.load 1 false (.t 49)), none, [], false⟩,
  ⟨(some 10), .rd (.mov (.t 48)), none, [], false⟩,
  ⟨(some 11), .rd (.mov (.t 50)), none, [], false⟩]
def adorn_Open_18 : XCode := .region [⟨(some 51), .rd (.load 1 false (.t 3)), none, [], false⟩,
  ⟨(some 52), .rd (.lenL (.t 51)), none, [], false⟩,
  ⟨(some 53), .rd (.mov (.t 4)), none, [], false⟩,
  ⟨(some 54), .rd (.mov (.t 10)), none, [], false⟩,
  ⟨(some 55), .call comps_Reach_id [.t 52, .t 53, .t 54], none, [], false⟩,
  ⟨(some 12), .rd (.mov (.t 55)), none, [], false⟩]
def adorn_Open_19 : XCode := .region [⟨(some 56), .rd (.mov (.t 5)), none, [], false⟩,
  ⟨(some 57), .rd (.mov (.t 11)), none, [], false⟩,
  ⟨(some 58), .rd (.lookup (.int .i64 0) false .str (.t 56) (.t 57)), none, [], false⟩,
  ⟨(some 59), .rd (.bin .gtr .other (.t 58) (.c (.int .i64 0))), none, [], false⟩,
  ⟨(some 60), .rd (.mov (.t 59)), none, [], false⟩,
  ⟨(some 61), .rd (.mov (.t 12)), (some (60, true)), [], false⟩,
  ⟨(some 62), .rd (.mkfunc adorn_Open_f1_id [.t 6, .t 3]), (some (60, true)), [], false⟩,
  ⟨(some 63), .call slices_ContainsFunc_int_id [.t 61, .t 62], (some (60, true)), [], false⟩,
  ⟨(some 64), .rd (.un .not (.t 63)), (some (60, true)), [], false⟩,
  ⟨(some 65), .rd (.pick (.t 60) (.t 64) (.c (.bool false))), none, [], false⟩]
def adorn_Open_20 : XCode := .region [⟨(some 66), .rd (.mov (.t 9)), none, [], false⟩,
  ⟨(some 67), .rd (.mov (.t 11)), none, [], false⟩,
  ⟨(some 68), .ef (.buildSlice T_string 1 1 [.str []] [(0, 1, (.t 67))]), none, [], false⟩,
  ⟨(some 69), .ef (.append T_string 1 16 (.t 66) (.t 68)), none, [], false⟩,
  ⟨(some 9), .rd (.mov (.t 69)), none, [], false⟩]
def adorn_Open_21 : XCode := .cond (.t 65) adorn_Open_20 .skip
def adorn_Open_22 : XCode := .seq adorn_Open_19 (.keep [3, 4, 5, 6, 9, 11, 44, 45, 46, 65] adorn_Open_21)
def adorn_Open_23 : XCode := .seq adorn_Open_18 (.keep [3, 4, 5, 6, 9, 11, 12, 44, 45, 46] adorn_Open_22)
def adorn_Open_24 : XCode := .seq adorn_Open_17 (.keep [3, 4, 5, 6, 9, 10, 11, 44, 45, 46] adorn_Open_23)
def adorn_Open_25 : XCode := .region [⟨(some 70), .rd (.bin .add .other (.t 46) (.c (.int .i64 1))), none, [], false⟩,
  ⟨(some 46), .rd (.mov (.t 70)), none, [], false⟩]
def adorn_Open_26 : XCode := .seq (.block 3 adorn_Open_24) (.keep [3, 4, 5, 6, 9, 44, 45, 46] adorn_Open_25)
def adorn_Open_27 : XCode := .seq adorn_Open_16 (.keep [3, 4, 5, 6, 9, 44, 45, 46] adorn_Open_26)
def adorn_Open_28 : XCode := .seq (.region [⟨(some 47), .rd (.bin .lss .other (.t 46) (.t 45)), none, [], false⟩]) adorn_Open_27
def adorn_Open_29 : XCode := .seq (.region [⟨(some 44), .rd (.load 1 false (.t 3)), none, [], false⟩,
  ⟨(some 45), .rd (.lenL (.t 44)), none, [], false⟩,
  ⟨(some 46), .rd (.mov (.c (.int .i64 0))), none, [], false⟩]) (.block 2 (.loop [3, 4, 5, 6, 9, 44, 45, 46] adorn_Open_28))
def adorn_Open_30 : XCode := .seq (.region [⟨(some 71), .rd (.mov (.t 9)), none, [], false⟩,
  ⟨(some 2), .rd (.mov (.t 71)), none, [], false⟩]) .ret
def adorn_Open_31 : XCode := .seq adorn_Open_29 (.keep [9] adorn_Open_30)
def adorn_Open_32 : XCode := .seq (.region [⟨(some 9), .rd (.mov (.c (.nilslice))), none, [], false⟩]) adorn_Open_31
def adorn_Open_33 : XCode := .seq adorn_Open_15 (.keep [3, 4, 5, 6] adorn_Open_32)
def adorn_Open_34 : XCode := .seq adorn_Open_1 (.keep [1, 3, 4, 5, 6] adorn_Open_33)
def adorn_Open_35 : XCode := .seq (.region [⟨(some 15), .rd (.load 3 true (.t 1)), none, [], false⟩,
  ⟨(some 16), .call strata_Needs_id [.t 15], none, [], false⟩,
  ⟨(some 4), .rd (.mov (.t 16)), none, [], false⟩]) adorn_Open_34
def adorn_Open_36 : XCode := .seq adorn_Open_0 (.keep [1, 3] adorn_Open_35)
def adorn_Open_37 : XCode := .seq (.region [⟨(some 1), .ef (.box T_api_Program 3 (.t 0)), none, [], false⟩,
  ⟨(some 2), .rd (.mov (.c (.nilslice))), none, [], false⟩]) adorn_Open_36
def adorn_Open : XFun := ⟨1, adorn_Open_37, [.tmp 2]⟩
theorem adorn_Open_ok : FunOk Tryz.prog adorn_Open_id adorn_Open := compFun_ok rfl E_ok (by kernel_rfl)

/-! ## 27 antecedent/adorn.Demands -/
def adorn_Demands_0 : XCode := .region [⟨(some 14), .rd (.mov (.t 3)), none, [], false⟩,
  ⟨(some 15), .rd (.off 1 (.t 1)), none, [], false⟩,
  ⟨(some 16), .rd (.off 0 (.t 15)), none, [], false⟩,
  ⟨(some 17), .rd (.load 1 false (.t 16)), none, [], false⟩,
  ⟨(some 18), .call slices_Contains_string_id [.t 14, .t 17], none, [], false⟩,
  ⟨(some 19), .rd (.un .not (.t 18)), none, [], false⟩]
def adorn_Demands_1 : XCode := .seq (.region [⟨(some 2), .rd (.mov (.c (.nilslice))), none, [], false⟩]) .ret
def adorn_Demands_2 : XCode := .cond (.t 19) adorn_Demands_1 .skip
def adorn_Demands_3 : XCode := .seq adorn_Demands_0 (.keep [1, 3, 19] adorn_Demands_2)
def adorn_Demands_4 : XCode := .draw [⟨(some 20), .rd (.off 1 (.t 1)), none, [], false⟩,
  ⟨(some 21), .rd (.off 0 (.t 20)), none, [0], false⟩,
  ⟨(some 22), .rd (.load 1 false (.t 21)), none, [1, 0], false⟩,
  ⟨(some 23), .rd (.off 1 (.t 1)), none, [], false⟩,
  ⟨(some 24), .rd (.load 2 true (.t 23)), none, [3], false⟩,
  ⟨(some 25), .call adorn_Pattern_id [.t 24, .c (.nilslice)], none, [4, 3], false⟩,
  ⟨(some 26), .rd (.build [.str [], .str []] [(0, 1, (.t 22)), (1, 1, (.t 25))]), none, [2, 5, 1, 0, 4, 3], false⟩,
  ⟨(some 27), .ef (.buildSlice T_adorn_Demand 2 1 [.str [], .str []] [(0, 2, (.t 26))]), none, [6, 2, 5, 1, 0, 4, 3], false⟩,
  ⟨(some 4), .rd (.mov (.t 27)), none, [7, 5, 0, 1, 2, 3, 4, 6], false⟩]
def adorn_Demands_5 : XCode := .region [⟨(some 28), .rd (.mov (.t 5)), none, [], false⟩,
  ⟨(some 29), .rd (.mov (.t 4)), none, [], false⟩,
  ⟨(some 30), .rd (.lenL (.t 29)), none, [], false⟩,
  ⟨(some 31), .rd (.bin .lss .other (.t 28) (.t 30)), none, [], false⟩]
def adorn_Demands_6 : XCode := .cond (.t 31) .skip (.exit 0)
def adorn_Demands_7 : XCode := .seq adorn_Demands_5 (.keep [1, 3, 4, 5, 31] adorn_Demands_6)
def adorn_Demands_8 : XCode := .region [⟨(some 34), .rd (.off 0 (.t 1)), none, [], false⟩,
  ⟨(some 35), .rd (.load 1 false (.t 34)), none, [], false⟩,
  ⟨(some 36), .rd (.lenL (.t 35)), none, [], false⟩,
  ⟨(some 37), .rd (.mov (.c (.int .i64 0))), none, [], false⟩]
def adorn_Demands_9 : XCode := .cond (.t 38) .skip (.exit 2)
def adorn_Demands_10 : XCode := .region [⟨(some 39), .rd (.idx 4 (.t 35) (.t 37)), none, [], false⟩,
  ⟨(some 40), .rd (.load 4 true (.t 39)), none, [], false⟩,
  ⟨(some 7), .ef (.new T_api_Rule 4 [.str [], .nilslice, .int .i64 0, .nilslice]), none, [], false⟩,
  ⟨none, .ef (.store 4 (.t 7) (.t 40)), none, [], false⟩]
def adorn_Demands_11 : XCode := .draw [⟨(some 41), .rd (.off 0 (.t 7)), none, [], false⟩,
  ⟨(some 42), .rd (.off 0 (.t 41)), none, [0], false⟩,
  ⟨(some 43), .rd (.load 1 false (.t 42)), none, [1, 0], false⟩,
  ⟨(some 44), .rd (.mov (.t 4)), none, [], false⟩,
  ⟨(some 45), .rd (.mov (.t 5)), none, [], false⟩,
  ⟨(some 46), .rd (.idx 2 (.t 44) (.t 45)), none, [3, 4], false⟩,
  ⟨(some 47), .rd (.off 0 (.t 46)), none, [5, 3, 4], false⟩,
  ⟨(some 48), .rd (.load 1 false (.t 47)), none, [6, 5, 3, 4], false⟩,
  ⟨(some 49), .rd (.bin .neq .other (.t 43) (.t 48)), none, [2, 7, 1, 0, 6, 5, 3, 4], false⟩]
def adorn_Demands_12 : XCode := .cond (.t 49) (.exit 3) .skip
def adorn_Demands_13 : XCode := .seq adorn_Demands_11 (.keep [1, 3, 4, 5, 7, 35, 36, 37, 49] adorn_Demands_12)
def adorn_Demands_14 : XCode := .draw [⟨(some 50), .rd (.off 0 (.t 7)), none, [], false⟩,
  ⟨(some 51), .rd (.load 2 true (.t 50)), none, [0], false⟩,
  ⟨(some 52), .rd (.mov (.t 4)), none, [], false⟩,
  ⟨(some 53), .rd (.mov (.t 5)), none, [], false⟩,
  ⟨(some 54), .rd (.idx 2 (.t 52) (.t 53)), none, [2, 3], false⟩,
  ⟨(some 55), .rd (.off 1 (.t 54)), none, [4, 2, 3], false⟩,
  ⟨(some 56), .rd (.load 1 false (.t 55)), none, [5, 4, 2, 3], false⟩,
  ⟨(some 57), .call adorn_bound_id [.t 51, .t 56], none, [1, 6, 0, 5, 4, 2, 3], false⟩,
  ⟨(some 8), .rd (.mov (.t 57)), none, [7, 0, 1, 2, 3, 4, 5, 6], false⟩]
def adorn_Demands_15 : XCode := .region [⟨(some 58), .rd (.off 3 (.t 7)), none, [], false⟩,
  ⟨(some 59), .rd (.load 1 false (.t 58)), none, [], false⟩,
  ⟨(some 60), .rd (.lenL (.t 59)), none, [], false⟩,
  ⟨(some 61), .rd (.mov (.c (.int .i64 0))), none, [], false⟩]
def adorn_Demands_16 : XCode := .cond (.t 62) .skip (.exit 4)
def adorn_Demands_17 : XCode := .region [⟨(some 63), .rd (.idx 17 (.t 59) (.t 61)), none, [], false⟩,
  ⟨(some 64), .rd (.load 17 true (.t 63)), none, [], false⟩,
  ⟨(some 10), .ef (.new T_api_Literal 17 [.int .i64 0, .str [], .nilslice, .str [], .str [], .int .i64 0, .int .i64 0, .str [], .str [], .int .i64 0, .int .i64 0, .str [], .str [], .int .i64 0, .int .i64 0, .str [], .nilslice]), none, [], false⟩,
  ⟨none, .ef (.store 17 (.t 10) (.t 64)), none, [], false⟩]
def adorn_Demands_18 : XCode := .draw [⟨(some 65), .rd (.off 1 (.t 10)), none, [], false⟩,
  ⟨(some 66), .rd (.off 0 (.t 65)), none, [0], false⟩,
  ⟨(some 67), .rd (.load 1 false (.t 66)), none, [1, 0], false⟩,
  ⟨(some 68), .rd (.off 1 (.t 10)), none, [], false⟩,
  ⟨(some 69), .rd (.load 2 true (.t 68)), none, [3], false⟩,
  ⟨(some 70), .rd (.mov (.t 8)), none, [], false⟩,
  ⟨(some 71), .call adorn_Pattern_id [.t 69, .t 70], none, [4, 5, 3], false⟩,
  ⟨(some 72), .rd (.build [.str [], .str []] [(0, 1, (.t 67)), (1, 1, (.t 71))]), none, [2, 6, 1, 0, 4, 5, 3], false⟩,
  ⟨(some 11), .ef (.new T_adorn_Demand 2 [.str [], .str []]), none, [], false⟩,
  ⟨none, .ef (.store 2 (.t 11) (.t 72)), none, [8, 7, 6, 0, 1, 2, 3, 4, 5], false⟩]
def adorn_Demands_19 : XCode := .region [⟨(some 73), .rd (.off 0 (.t 10)), none, [], false⟩,
  ⟨(some 74), .rd (.load 1 false (.t 73)), none, [], false⟩,
  ⟨(some 75), .rd (.bin .eql .other (.t 74) (.c (.int .i64 1))), none, [], false⟩,
  ⟨(some 76), .rd (.mov (.t 75)), none, [], false⟩,
  ⟨(some 77), .rd (.mov (.t 3)), (some (76, true)), [], false⟩,
  ⟨(some 78), .rd (.off 0 (.t 11)), (some (76, true)), [], false⟩,
  ⟨(some 79), .rd (.load 1 false (.t 78)), (some (76, true)), [], false⟩,
  ⟨(some 80), .call slices_Contains_string_id [.t 77, .t 79], (some (76, true)), [], false⟩,
  ⟨(some 81), .rd (.pick (.t 76) (.t 80) (.c (.bool false))), none, [], false⟩,
  ⟨(some 82), .rd (.mov (.t 81)), none, [], false⟩,
  ⟨(some 83), .rd (.mov (.t 4)), (some (82, true)), [], false⟩,
  ⟨(some 84), .rd (.load 2 true (.t 11)), (some (82, true)), [], false⟩,
  ⟨(some 85), .call slices_Contains_adorn_Demand_id [.t 83, .t 84], (some (82, true)), [], false⟩,
  ⟨(some 86), .rd (.un .not (.t 85)), (some (82, true)), [], false⟩,
  ⟨(some 87), .rd (.pick (.t 82) (.t 86) (.c (.bool false))), none, [], false⟩]
def adorn_Demands_20 : XCode := .region [⟨(some 88), .rd (.mov (.t 4)), none, [], false⟩,
  ⟨(some 89), .rd (.load 2 true (.t 11)), none, [], false⟩,
  ⟨(some 90), .ef (.buildSlice T_adorn_Demand 2 1 [.str [], .str []] [(0, 2, (.t 89))]), none, [], false⟩,
  ⟨(some 91), .ef (.append T_adorn_Demand 2 32 (.t 88) (.t 90)), none, [], false⟩,
  ⟨(some 4), .rd (.mov (.t 91)), none, [], false⟩]
def adorn_Demands_21 : XCode := .cond (.t 87) adorn_Demands_20 .skip
def adorn_Demands_22 : XCode := .seq adorn_Demands_19 (.keep [1, 3, 4, 5, 8, 10, 11, 35, 36, 37, 59, 60, 61, 87] adorn_Demands_21)
def adorn_Demands_23 : XCode := .region [⟨(some 92), .rd (.load 17 true (.t 10)), none, [], false⟩,
  ⟨(some 93), .rd (.mov (.t 8)), none, [], false⟩,
  ⟨(some 94), .call safe_Binds_id [.t 92, .t 93], none, [], false⟩,
  ⟨(some 8), .rd (.mov (.t 94)), none, [], false⟩]
def adorn_Demands_24 : XCode := .seq adorn_Demands_22 (.keep [1, 3, 4, 5, 8, 10, 35, 36, 37, 59, 60, 61] adorn_Demands_23)
def adorn_Demands_25 : XCode := .seq adorn_Demands_18 (.keep [1, 3, 4, 5, 8, 10, 11, 35, 36, 37, 59, 60, 61] adorn_Demands_24)
def adorn_Demands_26 : XCode := .seq adorn_Demands_17 (.keep [1, 3, 4, 5, 8, 10, 35, 36, 37, 59, 60, 61] adorn_Demands_25)
def adorn_Demands_27 : XCode := .region [⟨(some 95), .rd (.bin .add .other (.t 61) (.c (.int .i64 1))), none, [], false⟩,
  ⟨(some 61), .rd (.mov (.t 95)), none, [], false⟩]
def adorn_Demands_28 : XCode := .seq (.block 5 adorn_Demands_26) (.keep [1, 3, 4, 5, 8, 35, 36, 37, 59, 60, 61] adorn_Demands_27)
def adorn_Demands_29 : XCode := .seq adorn_Demands_16 (.keep [1, 3, 4, 5, 8, 35, 36, 37, 59, 60, 61] adorn_Demands_28)
def adorn_Demands_30 : XCode := .seq (.region [⟨(some 62), .rd (.bin .lss .other (.t 61) (.t 60)), none, [], false⟩]) adorn_Demands_29
def adorn_Demands_31 : XCode := .seq adorn_Demands_15 (.keep [1, 3, 4, 5, 8, 35, 36, 37, 59, 60, 61] (.block 4 (.loop [1, 3, 4, 5, 8, 35, 36, 37, 59, 60, 61] adorn_Demands_30)))
def adorn_Demands_32 : XCode := .seq adorn_Demands_14 (.keep [1, 3, 4, 5, 7, 8, 35, 36, 37] adorn_Demands_31)
def adorn_Demands_33 : XCode := .seq adorn_Demands_13 (.keep [1, 3, 4, 5, 7, 35, 36, 37] adorn_Demands_32)
def adorn_Demands_34 : XCode := .seq adorn_Demands_10 (.keep [1, 3, 4, 5, 7, 35, 36, 37] adorn_Demands_33)
def adorn_Demands_35 : XCode := .region [⟨(some 96), .rd (.bin .add .other (.t 37) (.c (.int .i64 1))), none, [], false⟩,
  ⟨(some 37), .rd (.mov (.t 96)), none, [], false⟩]
def adorn_Demands_36 : XCode := .seq (.block 3 adorn_Demands_34) (.keep [1, 3, 4, 5, 35, 36, 37] adorn_Demands_35)
def adorn_Demands_37 : XCode := .seq adorn_Demands_9 (.keep [1, 3, 4, 5, 35, 36, 37] adorn_Demands_36)
def adorn_Demands_38 : XCode := .seq (.region [⟨(some 38), .rd (.bin .lss .other (.t 37) (.t 36)), none, [], false⟩]) adorn_Demands_37
def adorn_Demands_39 : XCode := .seq adorn_Demands_8 (.keep [1, 3, 4, 5, 35, 36, 37] (.block 2 (.loop [1, 3, 4, 5, 35, 36, 37] adorn_Demands_38)))
def adorn_Demands_40 : XCode := .seq (.label 0) adorn_Demands_39
def adorn_Demands_41 : XCode := .region [⟨(some 32), .rd (.mov (.t 5)), none, [], false⟩,
  ⟨(some 33), .rd (.bin .add .other (.t 32) (.c (.int .i64 1))), none, [], false⟩,
  ⟨(some 5), .rd (.mov (.t 33)), none, [], false⟩]
def adorn_Demands_42 : XCode := .seq (.block 1 (.straight adorn_Demands_40)) (.keep [1, 3, 4, 5] adorn_Demands_41)
def adorn_Demands_43 : XCode := .seq adorn_Demands_7 (.keep [1, 3, 4, 5] adorn_Demands_42)
def adorn_Demands_44 : XCode := .seq (.region [⟨(some 5), .rd (.mov (.c (.int .i64 0))), none, [], false⟩]) (.block 0 (.loop [1, 3, 4, 5] adorn_Demands_43))
def adorn_Demands_45 : XCode := .seq (.region [⟨(some 97), .rd (.mov (.t 4)), none, [], false⟩,
  ⟨(some 2), .rd (.mov (.t 97)), none, [], false⟩]) .ret
def adorn_Demands_46 : XCode := .seq adorn_Demands_44 (.keep [4] adorn_Demands_45)
def adorn_Demands_47 : XCode := .seq adorn_Demands_4 (.keep [1, 3, 4] adorn_Demands_46)
def adorn_Demands_48 : XCode := .seq adorn_Demands_3 (.keep [1, 3] adorn_Demands_47)
def adorn_Demands_49 : XCode := .seq (.region [⟨(some 12), .rd (.load 3 true (.t 1)), none, [], false⟩,
  ⟨(some 13), .call adorn_Open_id [.t 12], none, [], false⟩,
  ⟨(some 3), .rd (.mov (.t 13)), none, [], false⟩]) adorn_Demands_48
def adorn_Demands_50 : XCode := .seq (.region [⟨(some 1), .ef (.box T_api_Program 3 (.t 0)), none, [], false⟩,
  ⟨(some 2), .rd (.mov (.c (.nilslice))), none, [], false⟩]) adorn_Demands_49
def adorn_Demands : XFun := ⟨1, adorn_Demands_50, [.tmp 2]⟩
theorem adorn_Demands_ok : FunOk Tryz.prog adorn_Demands_id adorn_Demands := compFun_ok rfl E_ok (by kernel_rfl)

/-! ## 28 antecedent/adorn.Prune -/
def adorn_Prune_0 : XCode := .cond (.t 10) .skip (.exit 0)
def adorn_Prune_1 : XCode := .region [⟨(some 11), .rd (.idx 2 (.t 7) (.t 9)), none, [], false⟩,
  ⟨(some 12), .rd (.load 2 true (.t 11)), none, [], false⟩,
  ⟨(some 5), .ef (.new T_adorn_Demand 2 [.str [], .str []]), none, [], false⟩,
  ⟨none, .ef (.store 2 (.t 5) (.t 12)), none, [], false⟩]
def adorn_Prune_2 : XCode := .region [⟨(some 14), .rd (.mov (.t 3)), none, [], false⟩,
  ⟨(some 15), .rd (.load 2 true (.t 5)), none, [], false⟩,
  ⟨(some 16), .call slices_Contains_adorn_Demand_id [.t 14, .t 15], none, [], false⟩,
  ⟨(some 17), .rd (.un .not (.t 16)), none, [], false⟩,
  ⟨(some 18), .rd (.mov (.t 17)), none, [], false⟩,
  ⟨(some 19), .rd (.mov (.t 0)), (some (18, true)), [], false⟩,
  ⟨(some 20), .rd (.mov (.t 6)), (some (18, true)), [], false⟩,
  ⟨(some 21), .call slices_ContainsFunc_adorn_Demand_id [.t 19, .t 20], (some (18, true)), [], false⟩,
  ⟨(some 22), .rd (.un .not (.t 21)), (some (18, true)), [], false⟩,
  ⟨(some 23), .rd (.pick (.t 18) (.t 22) (.c (.bool false))), none, [], false⟩]
def adorn_Prune_3 : XCode := .region [⟨(some 24), .rd (.mov (.t 3)), none, [], false⟩,
  ⟨(some 25), .rd (.load 2 true (.t 5)), none, [], false⟩,
  ⟨(some 26), .ef (.buildSlice T_adorn_Demand 2 1 [.str [], .str []] [(0, 2, (.t 25))]), none, [], false⟩,
  ⟨(some 27), .ef (.append T_adorn_Demand 2 32 (.t 24) (.t 26)), none, [], false⟩,
  ⟨(some 3), .rd (.mov (.t 27)), none, [], false⟩]
def adorn_Prune_4 : XCode := .cond (.t 23) adorn_Prune_3 .skip
def adorn_Prune_5 : XCode := .seq adorn_Prune_2 (.keep [0, 3, 5, 7, 8, 9, 23] adorn_Prune_4)
def adorn_Prune_6 : XCode := .seq (.region [⟨(some 13), .rd (.mkfunc adorn_Prune_f1_id [.t 5]), none, [], false⟩,
  ⟨(some 6), .rd (.mov (.t 13)), none, [], false⟩]) adorn_Prune_5
def adorn_Prune_7 : XCode := .seq adorn_Prune_1 (.keep [0, 3, 5, 7, 8, 9] adorn_Prune_6)
def adorn_Prune_8 : XCode := .region [⟨(some 28), .rd (.bin .add .other (.t 9) (.c (.int .i64 1))), none, [], false⟩,
  ⟨(some 9), .rd (.mov (.t 28)), none, [], false⟩]
def adorn_Prune_9 : XCode := .seq (.block 1 adorn_Prune_7) (.keep [0, 3, 7, 8, 9] adorn_Prune_8)
def adorn_Prune_10 : XCode := .seq adorn_Prune_0 (.keep [0, 3, 7, 8, 9] adorn_Prune_9)
def adorn_Prune_11 : XCode := .seq (.region [⟨(some 10), .rd (.bin .lss .other (.t 9) (.t 8)), none, [], false⟩]) adorn_Prune_10
def adorn_Prune_12 : XCode := .seq (.region [⟨(some 7), .rd (.mov (.t 0)), none, [], false⟩,
  ⟨(some 8), .rd (.lenL (.t 7)), none, [], false⟩,
  ⟨(some 9), .rd (.mov (.c (.int .i64 0))), none, [], false⟩]) (.block 0 (.loop [0, 3, 7, 8, 9] adorn_Prune_11))
def adorn_Prune_13 : XCode := .seq (.region [⟨(some 29), .rd (.mov (.t 3)), none, [], false⟩,
  ⟨(some 2), .rd (.mov (.t 29)), none, [], false⟩]) .ret
def adorn_Prune_14 : XCode := .seq adorn_Prune_12 (.keep [3] adorn_Prune_13)
def adorn_Prune_15 : XCode := .seq (.region [⟨(some 3), .rd (.mov (.c (.nilslice))), none, [], false⟩]) adorn_Prune_14
def adorn_Prune_16 : XCode := .seq (.region [⟨(some 2), .rd (.mov (.c (.nilslice))), none, [], false⟩]) adorn_Prune_15
def adorn_Prune : XFun := ⟨1, adorn_Prune_16, [.tmp 2]⟩
theorem adorn_Prune_ok : FunOk Tryz.prog adorn_Prune_id adorn_Prune := compFun_ok rfl E_ok (by kernel_rfl)

/-! ## 29 (antecedent/magic.book).use -/
def magic_book_use_0 : XCode := .draw [⟨(some 10), .rd (.off 2 (.t 3)), none, [], false⟩,
  ⟨(some 11), .rd (.load 1 false (.t 10)), none, [0], false⟩,
  ⟨(some 12), .rd (.off 0 (.t 4)), none, [], false⟩,
  ⟨(some 13), .rd (.load 1 false (.t 12)), none, [2], false⟩,
  ⟨(some 14), .rd (.load 2 true (.t 4)), none, [], false⟩,
  ⟨(some 15), .rd (.mov (.t 2)), none, [], false⟩,
  ⟨(some 16), .call adorn_Pattern_id [.t 14, .t 15], none, [4, 5], false⟩,
  ⟨(some 17), .rd (.build [.str [], .str []] [(0, 1, (.t 13)), (1, 1, (.t 16))]), none, [3, 6, 2, 4, 5], false⟩,
  ⟨(some 18), .call adorn_Use_id [.t 11, .t 17], none, [1, 7, 6, 0, 3, 2, 4, 5], false⟩,
  ⟨(some 9), .rd (.mov (.t 18)), none, [8, 1, 7, 6, 0, 3, 2, 4, 5], false⟩,
  ⟨(some 19), .rd (.extract 0 (.t 9)), none, [9, 8, 1, 7, 6, 0, 3, 2, 4, 5], false⟩,
  ⟨(some 20), .rd (.extract 1 (.t 9)), none, [9, 8, 1, 7, 6, 0, 3, 2, 4, 5], false⟩,
  ⟨(some 7), .ef (.new T_adorn_Demand 2 [.str [], .str []]), none, [], false⟩,
  ⟨none, .ef (.store 2 (.t 7) (.t 19)), none, [12, 10, 8, 0, 1, 2, 3, 4, 5, 6, 7, 9], false⟩,
  ⟨(some 8), .rd (.mov (.t 20)), none, [11, 13, 0, 1, 2, 3, 4, 5, 6, 7, 8, 9, 10, 12], false⟩]
def magic_book_use_1 : XCode := .seq (.region [⟨(some 21), .rd (.load 2 true (.t 7)), none, [], false⟩,
  ⟨none, .ef (.store 2 (.t 6) (.t 21)), none, [], false⟩]) .ret
def magic_book_use_2 : XCode := .seq magic_book_use_0 (.keep [6, 7] magic_book_use_1)
def magic_book_use_3 : XCode := .seq (.region [⟨(some 3), .ef (.box T_magic_book 3 (.t 0)), none, [], false⟩,
  ⟨(some 4), .ef (.box T_api_Atom 2 (.t 1)), none, [], false⟩,
  ⟨(some 6), .ef (.new T_adorn_Demand 2 [.str [], .str []]), none, [], false⟩]) magic_book_use_2
def magic_book_use : XFun := ⟨3, magic_book_use_3, [.cell 2 true 6]⟩
theorem magic_book_use_ok : FunOk Tryz.prog magic_book_use_id magic_book_use := compFun_ok rfl E_ok (by kernel_rfl)

/-! ## 30 (antecedent/magic.book).rules -/
def magic_book_rules_0 : XCode := .region [⟨(some 3), .ef (.box T_magic_book 3 (.t 0)), none, [], false⟩,
  ⟨(some 4), .ef (.box T_api_Rule 4 (.t 1)), none, [], false⟩,
  ⟨(some 5), .ef (.box T_adorn_Demand 2 (.t 2)), none, [], false⟩,
  ⟨(some 6), .rd (.mov (.c (.nilslice))), none, [], false⟩]
def magic_book_rules_1 : XCode := .region [⟨(some 17), .rd (.off 0 (.t 4)), none, [], false⟩,
  ⟨(some 18), .rd (.load 2 true (.t 17)), none, [], false⟩,
  ⟨(some 19), .rd (.off 1 (.t 5)), none, [], false⟩,
  ⟨(some 20), .rd (.load 1 false (.t 19)), none, [], false⟩,
  ⟨(some 21), .call magic_Given_id [.t 18, .t 20], none, [], false⟩,
  ⟨(some 7), .rd (.mov (.t 21)), none, [], false⟩]
def magic_book_rules_2 : XCode := .region [⟨(some 22), .rd (.off 0 (.t 3)), none, [], false⟩,
  ⟨(some 23), .rd (.load 1 false (.t 22)), none, [], false⟩,
  ⟨(some 24), .rd (.load 2 true (.t 5)), none, [], false⟩,
  ⟨(some 25), .call magic_Asked_id [.t 23, .t 24], none, [], false⟩,
  ⟨(some 26), .rd (.mov (.t 7)), none, [], false⟩,
  ⟨(some 27), .call magic_holds_id [.t 25, .t 26], none, [], false⟩,
  ⟨(some 8), .ef (.new T_api_Literal 17 [.int .i64 0, .str [], .nilslice, .str [], .str [], .int .i64 0, .int .i64 0, .str [], .str [], .int .i64 0, .int .i64 0, .str [], .str [], .int .i64 0, .int .i64 0, .str [], .nilslice]), none, [], false⟩,
  ⟨none, .ef (.store 17 (.t 8) (.t 27)), none, [], false⟩]
def magic_book_rules_3 : XCode := .region [⟨(some 32), .rd (.off 3 (.t 4)), none, [], false⟩,
  ⟨(some 33), .rd (.load 1 false (.t 32)), none, [], false⟩,
  ⟨(some 34), .rd (.lenL (.t 33)), none, [], false⟩,
  ⟨(some 35), .rd (.mov (.c (.int .i64 0))), none, [], false⟩]
def magic_book_rules_4 : XCode := .cond (.t 36) .skip (.exit 0)
def magic_book_rules_5 : XCode := .region [⟨(some 37), .rd (.idx 17 (.t 33) (.t 35)), none, [], false⟩,
  ⟨(some 38), .rd (.load 17 true (.t 37)), none, [], false⟩,
  ⟨(some 13), .ef (.new T_api_Literal 17 [.int .i64 0, .str [], .nilslice, .str [], .str [], .int .i64 0, .int .i64 0, .str [], .str [], .int .i64 0, .int .i64 0, .str [], .str [], .int .i64 0, .int .i64 0, .str [], .nilslice]), none, [], false⟩,
  ⟨none, .ef (.store 17 (.t 13) (.t 38)), none, [], false⟩]
def magic_book_rules_6 : XCode := .region [⟨(some 40), .rd (.off 0 (.t 13)), none, [], false⟩,
  ⟨(some 41), .rd (.load 1 false (.t 40)), none, [], false⟩,
  ⟨(some 42), .rd (.bin .eql .other (.t 41) (.c (.int .i64 1))), none, [], false⟩,
  ⟨(some 43), .rd (.mov (.t 42)), none, [], false⟩,
  ⟨(some 44), .rd (.off 1 (.t 3)), (some (43, true)), [], false⟩,
  ⟨(some 45), .rd (.load 1 false (.t 44)), (some (43, true)), [], false⟩,
  ⟨(some 46), .rd (.off 1 (.t 13)), (some (43, true)), [], false⟩,
  ⟨(some 47), .rd (.off 0 (.t 46)), (some (43, true)), [], false⟩,
  ⟨(some 48), .rd (.load 1 false (.t 47)), (some (43, true)), [], false⟩,
  ⟨(some 49), .call slices_Contains_string_id [.t 45, .t 48], (some (43, true)), [], false⟩,
  ⟨(some 50), .rd (.pick (.t 43) (.t 49) (.c (.bool false))), none, [], false⟩]
def magic_book_rules_7 : XCode := .region [⟨(some 51), .rd (.load 3 true (.t 3)), none, [], false⟩,
  ⟨(some 52), .rd (.off 1 (.t 13)), none, [], false⟩,
  ⟨(some 53), .rd (.load 2 true (.t 52)), none, [], false⟩,
  ⟨(some 54), .rd (.mov (.t 10)), none, [], false⟩,
  ⟨(some 55), .call magic_book_use_id [.t 51, .t 53, .t 54], none, [], false⟩,
  ⟨(some 15), .ef (.new T_adorn_Demand 2 [.str [], .str []]), none, [], false⟩,
  ⟨none, .ef (.store 2 (.t 15) (.t 55)), none, [], false⟩]
def magic_book_rules_8 : XCode := .draw [⟨(some 58), .rd (.mov (.t 11)), none, [], false⟩,
  ⟨(some 59), .rd (.off 0 (.t 3)), none, [], false⟩,
  ⟨(some 60), .rd (.load 1 false (.t 59)), none, [1], false⟩,
  ⟨(some 61), .rd (.load 2 true (.t 15)), none, [], false⟩,
  ⟨(some 62), .call magic_Asked_id [.t 60, .t 61], none, [2, 3, 1], false⟩,
  ⟨(some 63), .rd (.off 1 (.t 13)), none, [], false⟩,
  ⟨(some 64), .rd (.load 2 true (.t 63)), none, [5], false⟩,
  ⟨(some 65), .rd (.off 1 (.t 15)), none, [], false⟩,
  ⟨(some 66), .rd (.load 1 false (.t 65)), none, [7], false⟩,
  ⟨(some 67), .call magic_Given_id [.t 64, .t 66], none, [6, 8, 4, 5, 7, 2, 3, 1], false⟩,
  ⟨(some 68), .rd (.build [.str [], .nilslice] [(0, 1, (.t 62)), (1, 1, (.t 67))]), none, [4, 9, 2, 3, 1, 6, 8, 5, 7], false⟩,
  ⟨(some 69), .rd (.mov (.t 9)), none, [], false⟩,
  ⟨(some 70), .rd (.mov (.t 16)), none, [], false⟩,
  ⟨(some 71), .rd (.mov (.t 16)), none, [], false⟩,
  ⟨(some 72), .rd (.slice 17 (.t 69) none (some (.t 70)) (some (.t 71))), none, [11, 12, 13], false⟩,
  ⟨(some 73), .rd (.build [.str [], .nilslice, .int .i64 0, .nilslice] [(0, 2, (.t 68)), (3, 1, (.t 72))]), none, [10, 14, 4, 9, 2, 3, 1, 6, 8, 5, 7, 11, 12, 13], false⟩,
  ⟨(some 74), .ef (.buildSlice T_api_Rule 4 1 [.str [], .nilslice, .int .i64 0, .nilslice] [(0, 4, (.t 73))]), none, [15, 10, 14, 4, 9, 2, 3, 1, 6, 8, 5, 7, 11, 12, 13], false⟩,
  ⟨(some 75), .ef (.append T_api_Rule 4 72 (.t 58) (.t 74)), none, [0, 16, 9, 15, 10, 14, 4, 2, 3, 1, 6, 8, 5, 7, 11, 12, 13], false⟩,
  ⟨(some 11), .rd (.mov (.t 75)), none, [17, 0, 1, 2, 3, 4, 5, 6, 7, 8, 9, 10, 11, 12, 13, 14, 15, 16], false⟩]
def magic_book_rules_9 : XCode := .draw [⟨(some 76), .rd (.off 0 (.t 3)), none, [], false⟩,
  ⟨(some 77), .rd (.load 1 false (.t 76)), none, [0], false⟩,
  ⟨(some 78), .rd (.load 2 true (.t 15)), none, [], false⟩,
  ⟨(some 79), .call magic_Found_id [.t 77, .t 78], none, [1, 2, 0], false⟩,
  ⟨(some 80), .rd (.off 1 (.t 13)), none, [], false⟩,
  ⟨(some 81), .rd (.off 1 (.t 80)), none, [4], false⟩,
  ⟨(some 82), .rd (.load 1 false (.t 81)), none, [5, 4], false⟩,
  ⟨(some 83), .call magic_holds_id [.t 79, .t 82], none, [3, 6, 1, 2, 0, 5, 4], false⟩,
  ⟨none, .ef (.store 17 (.t 14) (.t 83)), none, [7, 0, 1, 2, 3, 4, 5, 6], false⟩]
def magic_book_rules_10 : XCode := .seq magic_book_rules_8 (.keep [3, 4, 5, 9, 10, 11, 13, 14, 15, 33, 34, 35] magic_book_rules_9)
def magic_book_rules_11 : XCode := .seq (.region [⟨(some 56), .rd (.mov (.t 9)), none, [], false⟩,
  ⟨(some 57), .rd (.lenL (.t 56)), none, [], false⟩,
  ⟨(some 16), .rd (.mov (.t 57)), none, [], false⟩]) magic_book_rules_10
def magic_book_rules_12 : XCode := .seq magic_book_rules_7 (.keep [3, 4, 5, 9, 10, 11, 13, 14, 15, 33, 34, 35] magic_book_rules_11)
def magic_book_rules_13 : XCode := .cond (.t 50) magic_book_rules_12 .skip
def magic_book_rules_14 : XCode := .seq magic_book_rules_6 (.keep [3, 4, 5, 9, 10, 11, 13, 14, 33, 34, 35, 50] magic_book_rules_13)
def magic_book_rules_15 : XCode := .region [⟨(some 84), .rd (.mov (.t 9)), none, [], false⟩,
  ⟨(some 85), .rd (.load 17 true (.t 14)), none, [], false⟩,
  ⟨(some 86), .ef (.buildSlice T_api_Literal 17 1 [.int .i64 0, .str [], .nilslice, .str [], .str [], .int .i64 0, .int .i64 0, .str [], .str [], .int .i64 0, .int .i64 0, .str [], .str [], .int .i64 0, .int .i64 0, .str [], .nilslice] [(0, 17, (.t 85))]), none, [], false⟩,
  ⟨(some 87), .ef (.append T_api_Literal 17 232 (.t 84) (.t 86)), none, [], false⟩,
  ⟨(some 9), .rd (.mov (.t 87)), none, [], false⟩]
def magic_book_rules_16 : XCode := .region [⟨(some 88), .rd (.load 17 true (.t 13)), none, [], false⟩,
  ⟨(some 89), .rd (.mov (.t 10)), none, [], false⟩,
  ⟨(some 90), .call safe_Binds_id [.t 88, .t 89], none, [], false⟩,
  ⟨(some 10), .rd (.mov (.t 90)), none, [], false⟩]
def magic_book_rules_17 : XCode := .seq magic_book_rules_15 (.keep [3, 4, 5, 9, 10, 11, 13, 33, 34, 35] magic_book_rules_16)
def magic_book_rules_18 : XCode := .seq magic_book_rules_14 (.keep [3, 4, 5, 9, 10, 11, 13, 14, 33, 34, 35] magic_book_rules_17)
def magic_book_rules_19 : XCode := .seq (.region [⟨(some 39), .rd (.load 17 true (.t 13)), none, [], false⟩,
  ⟨(some 14), .ef (.new T_api_Literal 17 [.int .i64 0, .str [], .nilslice, .str [], .str [], .int .i64 0, .int .i64 0, .str [], .str [], .int .i64 0, .int .i64 0, .str [], .str [], .int .i64 0, .int .i64 0, .str [], .nilslice]), none, [], false⟩,
  ⟨none, .ef (.store 17 (.t 14) (.t 39)), none, [], false⟩]) magic_book_rules_18
def magic_book_rules_20 : XCode := .seq magic_book_rules_5 (.keep [3, 4, 5, 9, 10, 11, 13, 33, 34, 35] magic_book_rules_19)
def magic_book_rules_21 : XCode := .region [⟨(some 91), .rd (.bin .add .other (.t 35) (.c (.int .i64 1))), none, [], false⟩,
  ⟨(some 35), .rd (.mov (.t 91)), none, [], false⟩]
def magic_book_rules_22 : XCode := .seq (.block 1 magic_book_rules_20) (.keep [3, 4, 5, 9, 10, 11, 33, 34, 35] magic_book_rules_21)
def magic_book_rules_23 : XCode := .seq magic_book_rules_4 (.keep [3, 4, 5, 9, 10, 11, 33, 34, 35] magic_book_rules_22)
def magic_book_rules_24 : XCode := .seq (.region [⟨(some 36), .rd (.bin .lss .other (.t 35) (.t 34)), none, [], false⟩]) magic_book_rules_23
def magic_book_rules_25 : XCode := .seq magic_book_rules_3 (.keep [3, 4, 5, 9, 10, 11, 33, 34, 35] (.block 0 (.loop [3, 4, 5, 9, 10, 11, 33, 34, 35] magic_book_rules_24)))
def magic_book_rules_26 : XCode := .draw [⟨(some 92), .rd (.mov (.t 11)), none, [], false⟩,
  ⟨(some 93), .rd (.off 0 (.t 3)), none, [], false⟩,
  ⟨(some 94), .rd (.load 1 false (.t 93)), none, [1], false⟩,
  ⟨(some 95), .rd (.load 2 true (.t 5)), none, [], false⟩,
  ⟨(some 96), .call magic_Found_id [.t 94, .t 95], none, [2, 3, 1], false⟩,
  ⟨(some 97), .rd (.off 0 (.t 4)), none, [], false⟩,
  ⟨(some 98), .rd (.off 1 (.t 97)), none, [5], false⟩,
  ⟨(some 99), .rd (.load 1 false (.t 98)), none, [6, 5], false⟩,
  ⟨(some 100), .rd (.build [.str [], .nilslice] [(0, 1, (.t 96)), (1, 1, (.t 99))]), none, [4, 7, 2, 3, 1, 6, 5], false⟩,
  ⟨(some 101), .rd (.mov (.t 9)), none, [], false⟩,
  ⟨(some 102), .rd (.build [.str [], .nilslice, .int .i64 0, .nilslice] [(0, 2, (.t 100)), (3, 1, (.t 101))]), none, [8, 9, 4, 7, 2, 3, 1, 6, 5], false⟩,
  ⟨(some 103), .ef (.buildSlice T_api_Rule 4 1 [.str [], .nilslice, .int .i64 0, .nilslice] [(0, 4, (.t 102))]), none, [10, 8, 9, 4, 7, 2, 3, 1, 6, 5], false⟩,
  ⟨(some 104), .ef (.append T_api_Rule 4 72 (.t 92) (.t 103)), none, [0, 11, 4, 10, 8, 9, 7, 2, 3, 1, 6, 5], false⟩,
  ⟨(some 6), .rd (.mov (.t 104)), none, [12, 0, 1, 2, 3, 4, 5, 6, 7, 8, 9, 10, 11], false⟩]
def magic_book_rules_27 : XCode := .seq magic_book_rules_26 .ret
def magic_book_rules_28 : XCode := .seq magic_book_rules_25 (.keep [3, 4, 5, 9, 11] magic_book_rules_27)
def magic_book_rules_29 : XCode := .seq (.region [⟨(some 11), .rd (.mov (.c (.nilslice))), none, [], false⟩]) magic_book_rules_28
def magic_book_rules_30 : XCode := .seq (.region [⟨(some 30), .rd (.load 17 true (.t 8)), none, [], false⟩,
  ⟨(some 31), .call safe_Vars_id [.t 30], none, [], false⟩,
  ⟨(some 10), .rd (.mov (.t 31)), none, [], false⟩]) magic_book_rules_29
def magic_book_rules_31 : XCode := .seq (.region [⟨(some 28), .rd (.load 17 true (.t 8)), none, [], false⟩,
  ⟨(some 29), .ef (.buildSlice T_api_Literal 17 1 [.int .i64 0, .str [], .nilslice, .str [], .str [], .int .i64 0, .int .i64 0, .str [], .str [], .int .i64 0, .int .i64 0, .str [], .str [], .int .i64 0, .int .i64 0, .str [], .nilslice] [(0, 17, (.t 28))]), none, [], false⟩,
  ⟨(some 9), .rd (.mov (.t 29)), none, [], false⟩]) magic_book_rules_30
def magic_book_rules_32 : XCode := .seq magic_book_rules_2 (.keep [3, 4, 5, 8] magic_book_rules_31)
def magic_book_rules_33 : XCode := .seq magic_book_rules_1 (.keep [3, 4, 5, 7] magic_book_rules_32)
def magic_book_rules_34 : XCode := .seq magic_book_rules_0 (.keep [3, 4, 5] magic_book_rules_33)
def magic_book_rules : XFun := ⟨3, magic_book_rules_34, [.tmp 6]⟩
theorem magic_book_rules_ok : FunOk Tryz.prog magic_book_rules_id magic_book_rules := compFun_ok rfl E_ok (by kernel_rfl)

/-! ## 31 antecedent/magic.Rewrite$1 -/
def magic_Rewrite_f1_0 : XCode := .region [⟨(some 4), .rd (.off 0 (.t 1)), none, [], false⟩,
  ⟨(some 5), .rd (.load 1 false (.t 4)), none, [], false⟩,
  ⟨(some 6), .rd (.mkfunc magic_Rewrite_f1_f1_id [.t 2]), none, [], false⟩,
  ⟨(some 7), .call slices_ContainsFunc_api_Rule_id [.t 5, .t 6], none, [], false⟩,
  ⟨(some 3), .rd (.mov (.t 7)), none, [], false⟩]
def magic_Rewrite_f1_1 : XCode := .seq magic_Rewrite_f1_0 .ret
def magic_Rewrite_f1_2 : XCode := .seq (.region [⟨(some 2), .ef (.box T_string 1 (.t 0)), none, [], false⟩,
  ⟨(some 3), .rd (.mov (.c (.bool false))), none, [], false⟩]) magic_Rewrite_f1_1
def magic_Rewrite_f1 : XFun := ⟨2, magic_Rewrite_f1_2, [.tmp 3]⟩
theorem magic_Rewrite_f1_ok : FunOk Tryz.prog magic_Rewrite_f1_id magic_Rewrite_f1 := compFun_ok rfl E_ok (by kernel_rfl)

/-! ## 32 slices.ContainsFunc[[]antecedent/api.Rule,antecedent/api.Rule] -/
def slices_ContainsFunc_api_Rule_0 : XCode := .region [⟨(some 5), .rd (.mov (.t 0)), none, [], false⟩,
  ⟨(some 6), .rd (.mov (.t 1)), none, [], false⟩,
  ⟨(some 7), .call slices_IndexFunc_api_Rule_id [.t 5, .t 6], none, [], false⟩,
  ⟨(some 8), .rd (.bin .geq .other (.t 7) (.c (.int .i64 0))), none, [], false⟩,
  ⟨(some 4), .rd (.mov (.t 8)), none, [], false⟩]
def slices_ContainsFunc_api_Rule_1 : XCode := .seq slices_ContainsFunc_api_Rule_0 .ret
def slices_ContainsFunc_api_Rule_2 : XCode := .seq (.region [⟨(some 4), .rd (.mov (.c (.bool false))), none, [], false⟩]) slices_ContainsFunc_api_Rule_1
def slices_ContainsFunc_api_Rule : XFun := ⟨2, slices_ContainsFunc_api_Rule_2, [.tmp 4]⟩
theorem slices_ContainsFunc_api_Rule_ok : FunOk Tryz.prog slices_ContainsFunc_api_Rule_id slices_ContainsFunc_api_Rule := compFun_ok rfl E_ok (by kernel_rfl)

/-! ## 33 antecedent/magic.Rewrite$1$1 -/
def magic_Rewrite_f1_f1_0 : XCode := .region [⟨(some 4), .rd (.off 0 (.t 2)), none, [], false⟩,
  ⟨(some 5), .rd (.off 0 (.t 4)), none, [], false⟩,
  ⟨(some 6), .rd (.load 1 false (.t 5)), none, [], false⟩,
  ⟨(some 7), .rd (.load 1 false (.t 1)), none, [], false⟩,
  ⟨(some 8), .rd (.bin .eql .other (.t 6) (.t 7)), none, [], false⟩,
  ⟨(some 9), .rd (.mov (.t 8)), none, [], false⟩,
  ⟨(some 10), .rd (.off 3 (.t 2)), (some (9, true)), [], false⟩,
  ⟨(some 11), .rd (.load 1 false (.t 10)), (some (9, true)), [], false⟩,
  ⟨(some 12), .rd (.lenL (.t 11)), (some (9, true)), [], false⟩,
  ⟨(some 13), .rd (.bin .gtr .other (.t 12) (.c (.int .i64 0))), (some (9, true)), [], false⟩,
  ⟨(some 14), .rd (.pick (.t 9) (.t 13) (.c (.bool false))), none, [], false⟩,
  ⟨(some 3), .rd (.mov (.t 14)), none, [], false⟩]
def magic_Rewrite_f1_f1_1 : XCode := .seq magic_Rewrite_f1_f1_0 .ret
def magic_Rewrite_f1_f1_2 : XCode := .seq (.region [⟨(some 2), .ef (.box T_api_Rule 4 (.t 0)), none, [], false⟩,
  ⟨(some 3), .rd (.mov (.c (.bool false))), none, [], false⟩]) magic_Rewrite_f1_f1_1
def magic_Rewrite_f1_f1 : XFun := ⟨2, magic_Rewrite_f1_f1_2, [.tmp 3]⟩
theorem magic_Rewrite_f1_f1_ok : FunOk Tryz.prog magic_Rewrite_f1_f1_id magic_Rewrite_f1_f1 := compFun_ok rfl E_ok (by kernel_rfl)

/-! ## 35 antecedent/strata.Names -/
def strata_Names_0 : XCode := .region [⟨(some 6), .rd (.off 1 (.t 1)), none, [], false⟩,
  ⟨(some 7), .rd (.off 0 (.t 6)), none, [], false⟩,
  ⟨(some 8), .rd (.load 1 false (.t 7)), none, [], false⟩,
  ⟨(some 9), .ef (.buildSlice T_string 1 1 [.str []] [(0, 1, (.t 8))]), none, [], false⟩,
  ⟨(some 3), .ef (.new T_sl_string 1 [.nilslice]), none, [], false⟩,
  ⟨none, .ef (.store 1 (.t 3) (.t 9)), none, [], false⟩]
def strata_Names_1 : XCode := .region [⟨(some 10), .rd (.off 0 (.t 1)), none, [], false⟩,
  ⟨(some 11), .rd (.load 1 false (.t 10)), none, [], false⟩,
  ⟨(some 12), .rd (.lenL (.t 11)), none, [], false⟩,
  ⟨(some 13), .rd (.mov (.c (.int .i64 0))), none, [], false⟩]
def strata_Names_2 : XCode := .cond (.t 14) .skip (.exit 0)
def strata_Names_3 : XCode := .region [⟨(some 15), .rd (.idx 4 (.t 11) (.t 13)), none, [], false⟩,
  ⟨(some 16), .rd (.load 4 true (.t 15)), none, [], false⟩,
  ⟨(some 5), .ef (.new T_api_Rule 4 [.str [], .nilslice, .int .i64 0, .nilslice]), none, [], false⟩,
  ⟨none, .ef (.store 4 (.t 5) (.t 16)), none, [], false⟩]
def strata_Names_4 : XCode := .region [⟨(some 17), .rd (.load 1 false (.t 3)), none, [], false⟩,
  ⟨(some 18), .rd (.off 0 (.t 5)), none, [], false⟩,
  ⟨(some 19), .rd (.off 0 (.t 18)), none, [], false⟩,
  ⟨(some 20), .rd (.load 1 false (.t 19)), none, [], false⟩,
  ⟨(some 21), .ef (.buildSlice T_string 1 1 [.str []] [(0, 1, (.t 20))]), none, [], false⟩,
  ⟨(some 22), .ef (.append T_string 1 16 (.t 17) (.t 21)), none, [], false⟩,
  ⟨none, .ef (.store 1 (.t 3) (.t 22)), none, [], false⟩]
def strata_Names_5 : XCode := .region [⟨(some 23), .rd (.load 4 true (.t 5)), none, [], false⟩,
  ⟨(some 24), .rd (.mkfunc strata_Names_f1_id [.t 3]), none, [], false⟩,
  ⟨(some 25), .call strata_each_id [.t 23, .t 24], none, [], false⟩]
def strata_Names_6 : XCode := .seq strata_Names_4 (.keep [3, 5, 11, 12, 13] strata_Names_5)
def strata_Names_7 : XCode := .seq strata_Names_3 (.keep [3, 5, 11, 12, 13] strata_Names_6)
def strata_Names_8 : XCode := .region [⟨(some 26), .rd (.bin .add .other (.t 13) (.c (.int .i64 1))), none, [], false⟩,
  ⟨(some 13), .rd (.mov (.t 26)), none, [], false⟩]
def strata_Names_9 : XCode := .seq (.block 1 strata_Names_7) (.keep [3, 11, 12, 13] strata_Names_8)
def strata_Names_10 : XCode := .seq strata_Names_2 (.keep [3, 11, 12, 13] strata_Names_9)
def strata_Names_11 : XCode := .seq (.region [⟨(some 14), .rd (.bin .lss .other (.t 13) (.t 12)), none, [], false⟩]) strata_Names_10
def strata_Names_12 : XCode := .seq strata_Names_1 (.keep [3, 11, 12, 13] (.block 0 (.loop [3, 11, 12, 13] strata_Names_11)))
def strata_Names_13 : XCode := .seq (.region [⟨(some 27), .rd (.load 1 false (.t 3)), none, [], false⟩,
  ⟨(some 28), .call strata_sorted_id [.t 27], none, [], false⟩,
  ⟨(some 2), .rd (.mov (.t 28)), none, [], false⟩]) .ret
def strata_Names_14 : XCode := .seq strata_Names_12 (.keep [3] strata_Names_13)
def strata_Names_15 : XCode := .seq strata_Names_0 (.keep [1, 3] strata_Names_14)
def strata_Names_16 : XCode := .seq (.region [⟨(some 1), .ef (.box T_api_Program 3 (.t 0)), none, [], false⟩,
  ⟨(some 2), .rd (.mov (.c (.nilslice))), none, [], false⟩]) strata_Names_15
def strata_Names : XFun := ⟨1, strata_Names_16, [.tmp 2]⟩
theorem strata_Names_ok : FunOk Tryz.prog strata_Names_id strata_Names := compFun_ok rfl E_ok (by kernel_rfl)

/-! ## 36 slices.ContainsFunc[[]string,string] -/
def slices_ContainsFunc_string_0 : XCode := .region [⟨(some 5), .rd (.mov (.t 0)), none, [], false⟩,
  ⟨(some 6), .rd (.mov (.t 1)), none, [], false⟩,
  ⟨(some 7), .call slices_IndexFunc_string_id [.t 5, .t 6], none, [], false⟩,
  ⟨(some 8), .rd (.bin .geq .other (.t 7) (.c (.int .i64 0))), none, [], false⟩,
  ⟨(some 4), .rd (.mov (.t 8)), none, [], false⟩]
def slices_ContainsFunc_string_1 : XCode := .seq slices_ContainsFunc_string_0 .ret
def slices_ContainsFunc_string_2 : XCode := .seq (.region [⟨(some 4), .rd (.mov (.c (.bool false))), none, [], false⟩]) slices_ContainsFunc_string_1
def slices_ContainsFunc_string : XFun := ⟨2, slices_ContainsFunc_string_2, [.tmp 4]⟩
theorem slices_ContainsFunc_string_ok : FunOk Tryz.prog slices_ContainsFunc_string_id slices_ContainsFunc_string := compFun_ok rfl E_ok (by kernel_rfl)

/-! ## 37 antecedent/magic.Prefix$1 -/
def magic_Prefix_f1_0 : XCode := .region [⟨(some 4), .rd (.mov (.t 0)), none, [], false⟩,
  ⟨(some 5), .rd (.load 1 false (.t 1)), none, [], false⟩,
  ⟨(some 6), .call strings_HasPrefix_id [.t 4, .t 5], none, [], false⟩,
  ⟨(some 3), .rd (.mov (.t 6)), none, [], false⟩]
def magic_Prefix_f1_1 : XCode := .seq magic_Prefix_f1_0 .ret
def magic_Prefix_f1_2 : XCode := .seq (.region [⟨(some 3), .rd (.mov (.c (.bool false))), none, [], false⟩]) magic_Prefix_f1_1
def magic_Prefix_f1 : XFun := ⟨2, magic_Prefix_f1_2, [.tmp 3]⟩
theorem magic_Prefix_f1_ok : FunOk Tryz.prog magic_Prefix_f1_id magic_Prefix_f1 := compFun_ok rfl E_ok (by kernel_rfl)

/-! ## 38 strings.HasPrefix -/
def strings_HasPrefix_0 : XCode := .region [⟨(some 5), .rd (.mov (.t 0)), none, [], false⟩,
  ⟨(some 6), .rd (.mov (.t 1)), none, [], false⟩,
  ⟨(some 7), .call stringslite_HasPrefix_id [.t 5, .t 6], none, [], false⟩,
  ⟨(some 4), .rd (.mov (.t 7)), none, [], false⟩]
def strings_HasPrefix_1 : XCode := .seq strings_HasPrefix_0 .ret
def strings_HasPrefix_2 : XCode := .seq (.region [⟨(some 4), .rd (.mov (.c (.bool false))), none, [], false⟩]) strings_HasPrefix_1
def strings_HasPrefix : XFun := ⟨2, strings_HasPrefix_2, [.tmp 4]⟩
theorem strings_HasPrefix_ok : FunOk Tryz.prog strings_HasPrefix_id strings_HasPrefix := compFun_ok rfl E_ok (by kernel_rfl)

/-! ## 46 antecedent/strata.Needs -/
def strata_Needs_0 : XCode := .region [⟨(some 9), .rd (.load 3 true (.t 1)), none, [], false⟩,
  ⟨(some 10), .call strata_Names_id [.t 9], none, [], false⟩,
  ⟨(some 3), .ef (.new T_sl_string 1 [.nilslice]), none, [], false⟩,
  ⟨none, .ef (.store 1 (.t 3) (.t 10)), none, [], false⟩]
def strata_Needs_1 : XCode := .region [⟨(some 11), .rd (.off 0 (.t 1)), none, [], false⟩,
  ⟨(some 12), .rd (.load 1 false (.t 11)), none, [], false⟩,
  ⟨(some 13), .rd (.lenL (.t 12)), none, [], false⟩,
  ⟨(some 14), .rd (.mov (.c (.int .i64 0))), none, [], false⟩]
def strata_Needs_2 : XCode := .cond (.t 15) .skip (.exit 0)
def strata_Needs_3 : XCode := .region [⟨(some 16), .rd (.idx 4 (.t 12) (.t 14)), none, [], false⟩,
  ⟨(some 17), .rd (.load 4 true (.t 16)), none, [], false⟩,
  ⟨(some 6), .ef (.new T_api_Rule 4 [.str [], .nilslice, .int .i64 0, .nilslice]), none, [], false⟩,
  ⟨none, .ef (.store 4 (.t 6) (.t 17)), none, [], false⟩]
def strata_Needs_4 : XCode := .region [⟨(some 19), .rd (.load 1 false (.t 3)), none, [], false⟩,
  ⟨(some 20), .rd (.off 0 (.t 6)), none, [], false⟩,
  ⟨(some 21), .rd (.off 0 (.t 20)), none, [], false⟩,
  ⟨(some 22), .rd (.load 1 false (.t 21)), none, [], false⟩,
  ⟨(some 23), .call slices_BinarySearch_string_id [.t 19, .t 22], none, [], false⟩,
  ⟨(some 18), .rd (.mov (.t 23)), none, [], false⟩,
  ⟨(some 24), .rd (.extract 0 (.t 18)), none, [], false⟩,
  ⟨(some 25), .rd (.extract 1 (.t 18)), none, [], false⟩,
  ⟨(some 7), .ef (.new T_int 1 [.int .i64 0]), none, [], false⟩,
  ⟨none, .ef (.store 1 (.t 7) (.t 24)), none, [], false⟩,
  ⟨(some 8), .rd (.mov (.t 25)), none, [], false⟩]
def strata_Needs_5 : XCode := .region [⟨(some 26), .rd (.load 4 true (.t 6)), none, [], false⟩,
  ⟨(some 27), .rd (.mkfunc strata_Needs_f1_id [.t 3, .t 4, .t 7]), none, [], false⟩,
  ⟨(some 28), .call strata_each_id [.t 26, .t 27], none, [], false⟩]
def strata_Needs_6 : XCode := .seq strata_Needs_4 (.keep [3, 4, 6, 7, 12, 13, 14] strata_Needs_5)
def strata_Needs_7 : XCode := .seq strata_Needs_3 (.keep [3, 4, 6, 12, 13, 14] strata_Needs_6)
def strata_Needs_8 : XCode := .region [⟨(some 29), .rd (.bin .add .other (.t 14) (.c (.int .i64 1))), none, [], false⟩,
  ⟨(some 14), .rd (.mov (.t 29)), none, [], false⟩]
def strata_Needs_9 : XCode := .seq (.block 1 strata_Needs_7) (.keep [3, 4, 12, 13, 14] strata_Needs_8)
def strata_Needs_10 : XCode := .seq strata_Needs_2 (.keep [3, 4, 12, 13, 14] strata_Needs_9)
def strata_Needs_11 : XCode := .seq (.region [⟨(some 15), .rd (.bin .lss .other (.t 14) (.t 13)), none, [], false⟩]) strata_Needs_10
def strata_Needs_12 : XCode := .seq strata_Needs_1 (.keep [3, 4, 12, 13, 14] (.block 0 (.loop [3, 4, 12, 13, 14] strata_Needs_11)))
def strata_Needs_13 : XCode := .seq (.region [⟨(some 32), .rd (.load 1 false (.t 4)), none, [], false⟩,
  ⟨(some 33), .call slices_Compact_sl_ar2_int_ar2_int_id [.t 32], none, [], false⟩,
  ⟨(some 2), .rd (.mov (.t 33)), none, [], false⟩]) .ret
def strata_Needs_14 : XCode := .seq (.region [⟨(some 30), .rd (.load 1 false (.t 4)), none, [], false⟩,
  ⟨(some 31), .call slices_SortFunc_sl_ar2_int_ar2_int_id [.t 30, .c (.func strata_Needs_f2_id [])], none, [], false⟩]) strata_Needs_13
def strata_Needs_15 : XCode := .seq strata_Needs_12 (.keep [4] strata_Needs_14)
def strata_Needs_16 : XCode := .seq (.region [⟨(some 4), .ef (.new T_sl_ar2_int 1 [.nilslice]), none, [], false⟩]) strata_Needs_15
def strata_Needs_17 : XCode := .seq strata_Needs_0 (.keep [1, 3] strata_Needs_16)
def strata_Needs_18 : XCode := .seq (.region [⟨(some 1), .ef (.box T_api_Program 3 (.t 0)), none, [], false⟩,
  ⟨(some 2), .rd (.mov (.c (.nilslice))), none, [], false⟩]) strata_Needs_17
def strata_Needs : XFun := ⟨1, strata_Needs_18, [.tmp 2]⟩
theorem strata_Needs_ok : FunOk Tryz.prog strata_Needs_id strata_Needs := compFun_ok rfl E_ok (by kernel_rfl)

/-! ## 47 antecedent/adorn.closed -/
def adorn_closed_0 : XCode := .region [⟨(some 3), .rd (.off 2 (.t 1)), none, [], false⟩,
  ⟨(some 4), .rd (.load 1 false (.t 3)), none, [], false⟩,
  ⟨(some 5), .rd (.bin .neq .other (.t 4) (.c (.int .i64 0))), none, [], false⟩,
  ⟨(some 6), .rd (.mov (.t 5)), none, [], false⟩,
  ⟨(some 7), .rd (.off 3 (.t 1)), (some (6, false)), [], false⟩,
  ⟨(some 8), .rd (.load 1 false (.t 7)), (some (6, false)), [], false⟩,
  ⟨(some 9), .call slices_ContainsFunc_api_Literal_id [.t 8, .c (.func adorn_closed_f1_id [])], (some (6, false)), [], false⟩,
  ⟨(some 10), .rd (.pick (.t 6) (.c (.bool true)) (.t 9)), none, [], false⟩,
  ⟨(some 2), .rd (.mov (.t 10)), none, [], false⟩]
def adorn_closed_1 : XCode := .seq adorn_closed_0 .ret
def adorn_closed_2 : XCode := .seq (.region [⟨(some 1), .ef (.box T_api_Rule 4 (.t 0)), none, [], false⟩,
  ⟨(some 2), .rd (.mov (.c (.bool false))), none, [], false⟩]) adorn_closed_1
def adorn_closed : XFun := ⟨1, adorn_closed_2, [.tmp 2]⟩
theorem adorn_closed_ok : FunOk Tryz.prog adorn_closed_id adorn_closed := compFun_ok rfl E_ok (by kernel_rfl)

/-! ## 48 antecedent/comps.Reach -/
def comps_Reach_0 : XCode := .region [⟨(some 10), .rd (.mov (.t 0)), none, [], false⟩,
  ⟨(some 11), .call comps_held_id [.t 10], none, [], false⟩,
  ⟨(some 12), .rd (.mov (.t 1)), none, [], false⟩,
  ⟨(some 13), .call comps_lists_id [.t 11, .t 12, .c (.bool false)], none, [], false⟩,
  ⟨(some 14), .rd (.mov (.t 2)), none, [], false⟩,
  ⟨(some 15), .call comps_seen_id [.t 13, .t 14], none, [], false⟩,
  ⟨(some 16), .rd (.lenL (.t 15)), none, [], false⟩,
  ⟨(some 17), .rd (.mov (.c (.int .i64 0))), none, [], false⟩]
def comps_Reach_1 : XCode := .cond (.t 18) .skip (.exit 0)
def comps_Reach_2 : XCode := .region [⟨(some 19), .rd (.mov (.t 17)), none, [], false⟩,
  ⟨(some 20), .rd (.idx 1 (.t 15) (.t 17)), none, [], false⟩,
  ⟨(some 21), .rd (.load 1 false (.t 20)), none, [], false⟩,
  ⟨(some 8), .rd (.mov (.t 19)), none, [], false⟩,
  ⟨(some 9), .rd (.mov (.t 21)), none, [], false⟩]
def comps_Reach_3 : XCode := .region [⟨(some 23), .rd (.mov (.t 7)), none, [], false⟩,
  ⟨(some 24), .rd (.mov (.t 8)), none, [], false⟩,
  ⟨(some 25), .ef (.buildSlice T_int 1 1 [.int .i64 0] [(0, 1, (.t 24))]), none, [], false⟩,
  ⟨(some 26), .ef (.append T_int 1 8 (.t 23) (.t 25)), none, [], false⟩,
  ⟨(some 7), .rd (.mov (.t 26)), none, [], false⟩]
def comps_Reach_4 : XCode := .cond (.t 22) comps_Reach_3 .skip
def comps_Reach_5 : XCode := .seq (.region [⟨(some 22), .rd (.mov (.t 9)), none, [], false⟩]) comps_Reach_4
def comps_Reach_6 : XCode := .seq comps_Reach_2 (.keep [7, 8, 9, 15, 16, 17] comps_Reach_5)
def comps_Reach_7 : XCode := .region [⟨(some 27), .rd (.bin .add .other (.t 17) (.c (.int .i64 1))), none, [], false⟩,
  ⟨(some 17), .rd (.mov (.t 27)), none, [], false⟩]
def comps_Reach_8 : XCode := .seq (.block 1 comps_Reach_6) (.keep [7, 15, 16, 17] comps_Reach_7)
def comps_Reach_9 : XCode := .seq comps_Reach_1 (.keep [7, 15, 16, 17] comps_Reach_8)
def comps_Reach_10 : XCode := .seq (.region [⟨(some 18), .rd (.bin .lss .other (.t 17) (.t 16)), none, [], false⟩]) comps_Reach_9
def comps_Reach_11 : XCode := .seq comps_Reach_0 (.keep [7, 15, 16, 17] (.block 0 (.loop [7, 15, 16, 17] comps_Reach_10)))
def comps_Reach_12 : XCode := .seq (.region [⟨(some 28), .rd (.mov (.t 7)), none, [], false⟩,
  ⟨(some 6), .rd (.mov (.t 28)), none, [], false⟩]) .ret
def comps_Reach_13 : XCode := .seq comps_Reach_11 (.keep [7] comps_Reach_12)
def comps_Reach_14 : XCode := .seq (.region [⟨(some 7), .rd (.mov (.c (.nilslice))), none, [], false⟩]) comps_Reach_13
def comps_Reach_15 : XCode := .seq (.region [⟨(some 6), .rd (.mov (.c (.nilslice))), none, [], false⟩]) comps_Reach_14
def comps_Reach : XFun := ⟨3, comps_Reach_15, [.tmp 6]⟩
theorem comps_Reach_ok : FunOk Tryz.prog comps_Reach_id comps_Reach := compFun_ok rfl E_ok (by kernel_rfl)

/-! ## 49 slices.ContainsFunc[[]int,int] -/
def slices_ContainsFunc_int_0 : XCode := .region [⟨(some 5), .rd (.mov (.t 0)), none, [], false⟩,
  ⟨(some 6), .rd (.mov (.t 1)), none, [], false⟩,
  ⟨(some 7), .call slices_IndexFunc_int_id [.t 5, .t 6], none, [], false⟩,
  ⟨(some 8), .rd (.bin .geq .other (.t 7) (.c (.int .i64 0))), none, [], false⟩,
  ⟨(some 4), .rd (.mov (.t 8)), none, [], false⟩]
def slices_ContainsFunc_int_1 : XCode := .seq slices_ContainsFunc_int_0 .ret
def slices_ContainsFunc_int_2 : XCode := .seq (.region [⟨(some 4), .rd (.mov (.c (.bool false))), none, [], false⟩]) slices_ContainsFunc_int_1
def slices_ContainsFunc_int : XFun := ⟨2, slices_ContainsFunc_int_2, [.tmp 4]⟩
theorem slices_ContainsFunc_int_ok : FunOk Tryz.prog slices_ContainsFunc_int_id slices_ContainsFunc_int := compFun_ok rfl E_ok (by kernel_rfl)

/-! ## 50 antecedent/adorn.Open$1 -/
def adorn_Open_f1_0 : XCode := .draw [⟨(some 5), .rd (.load 1 false (.t 1)), none, [], false⟩,
  ⟨(some 6), .rd (.load 1 false (.t 2)), none, [], false⟩,
  ⟨(some 7), .rd (.mov (.t 0)), none, [], false⟩,
  ⟨(some 8), .rd (.idx 1 (.t 6) (.t 7)), none, [1, 2], false⟩,
  ⟨(some 9), .rd (.load 1 false (.t 8)), none, [3, 1, 2], false⟩,
  ⟨(some 10), .rd (.lookup (.int .i64 0) false .str (.t 5) (.t 9)), none, [0, 4, 3, 1, 2], false⟩,
  ⟨(some 11), .rd (.bin .gtr .other (.t 10) (.c (.int .i64 0))), none, [5, 0, 4, 3, 1, 2], false⟩,
  ⟨(some 4), .rd (.mov (.t 11)), none, [6, 0, 1, 2, 3, 4, 5], false⟩]
def adorn_Open_f1_1 : XCode := .seq adorn_Open_f1_0 .ret
def adorn_Open_f1_2 : XCode := .seq (.region [⟨(some 4), .rd (.mov (.c (.bool false))), none, [], false⟩]) adorn_Open_f1_1
def adorn_Open_f1 : XFun := ⟨3, adorn_Open_f1_2, [.tmp 4]⟩
theorem adorn_Open_f1_ok : FunOk Tryz.prog adorn_Open_f1_id adorn_Open_f1 := compFun_ok rfl E_ok (by kernel_rfl)

/-! ## 51 slices.Contains[[]string,string] -/
def slices_Contains_string_0 : XCode := .region [⟨(some 5), .rd (.mov (.t 0)), none, [], false⟩,
  ⟨(some 6), .rd (.mov (.t 1)), none, [], false⟩,
  ⟨(some 7), .call slices_Index_string_id [.t 5, .t 6], none, [], false⟩,
  ⟨(some 8), .rd (.bin .geq .other (.t 7) (.c (.int .i64 0))), none, [], false⟩,
  ⟨(some 4), .rd (.mov (.t 8)), none, [], false⟩]
def slices_Contains_string_1 : XCode := .seq slices_Contains_string_0 .ret
def slices_Contains_string_2 : XCode := .seq (.region [⟨(some 4), .rd (.mov (.c (.bool false))), none, [], false⟩]) slices_Contains_string_1
def slices_Contains_string : XFun := ⟨2, slices_Contains_string_2, [.tmp 4]⟩
theorem slices_Contains_string_ok : FunOk Tryz.prog slices_Contains_string_id slices_Contains_string := compFun_ok rfl E_ok (by kernel_rfl)

/-! ## 52 antecedent/adorn.Pattern -/
def adorn_Pattern_0 : XCode := .region [⟨(some 8), .rd (.off 1 (.t 2)), none, [], false⟩,
  ⟨(some 9), .rd (.load 1 false (.t 8)), none, [], false⟩,
  ⟨(some 10), .rd (.lenL (.t 9)), none, [], false⟩,
  ⟨(some 11), .rd (.mov (.c (.int .i64 0))), none, [], false⟩]
def adorn_Pattern_1 : XCode := .cond (.t 12) .skip (.exit 0)
def adorn_Pattern_2 : XCode := .region [⟨(some 13), .rd (.idx 4 (.t 9) (.t 11)), none, [], false⟩,
  ⟨(some 14), .rd (.load 4 true (.t 13)), none, [], false⟩,
  ⟨(some 7), .ef (.new T_api_Term 4 [.str [], .int .i64 0, .int .i64 0, .str []]), none, [], false⟩,
  ⟨none, .ef (.store 4 (.t 7) (.t 14)), none, [], false⟩]
def adorn_Pattern_3 : XCode := .region [⟨(some 15), .rd (.off 0 (.t 7)), none, [], false⟩,
  ⟨(some 16), .rd (.load 1 false (.t 15)), none, [], false⟩,
  ⟨(some 17), .rd (.bin .eql .other (.t 16) (.c (.str []))), none, [], false⟩,
  ⟨(some 18), .rd (.mov (.t 17)), none, [], false⟩,
  ⟨(some 19), .rd (.mov (.t 1)), (some (18, false)), [], false⟩,
  ⟨(some 20), .rd (.off 0 (.t 7)), (some (18, false)), [], false⟩,
  ⟨(some 21), .rd (.load 1 false (.t 20)), (some (18, false)), [], false⟩,
  ⟨(some 22), .call slices_Contains_string_id [.t 19, .t 21], (some (18, false)), [], false⟩,
  ⟨(some 23), .rd (.pick (.t 18) (.c (.bool true)) (.t 22)), none, [], false⟩]
def adorn_Pattern_4 : XCode := .region [⟨(some 24), .call p_strings_Builder_WriteString_id [.t 5, .c (.str [98])], none, [], false⟩]
def adorn_Pattern_5 : XCode := .region [⟨(some 25), .call p_strings_Builder_WriteString_id [.t 5, .c (.str [102])], none, [], false⟩]
def adorn_Pattern_6 : XCode := .cond (.t 23) adorn_Pattern_4 adorn_Pattern_5
def adorn_Pattern_7 : XCode := .seq adorn_Pattern_3 (.keep [1, 5, 9, 10, 11, 23] adorn_Pattern_6)
def adorn_Pattern_8 : XCode := .seq adorn_Pattern_2 (.keep [1, 5, 7, 9, 10, 11] adorn_Pattern_7)
def adorn_Pattern_9 : XCode := .region [⟨(some 26), .rd (.bin .add .other (.t 11) (.c (.int .i64 1))), none, [], false⟩,
  ⟨(some 11), .rd (.mov (.t 26)), none, [], false⟩]
def adorn_Pattern_10 : XCode := .seq (.block 1 adorn_Pattern_8) (.keep [1, 5, 9, 10, 11] adorn_Pattern_9)
def adorn_Pattern_11 : XCode := .seq adorn_Pattern_1 (.keep [1, 5, 9, 10, 11] adorn_Pattern_10)
def adorn_Pattern_12 : XCode := .seq (.region [⟨(some 12), .rd (.bin .lss .other (.t 11) (.t 10)), none, [], false⟩]) adorn_Pattern_11
def adorn_Pattern_13 : XCode := .seq adorn_Pattern_0 (.keep [1, 5, 9, 10, 11] (.block 0 (.loop [1, 5, 9, 10, 11] adorn_Pattern_12)))
def adorn_Pattern_14 : XCode := .seq (.region [⟨(some 27), .call p_strings_Builder_String_id [.t 5], none, [], false⟩,
  ⟨(some 4), .rd (.mov (.t 27)), none, [], false⟩]) .ret
def adorn_Pattern_15 : XCode := .seq adorn_Pattern_13 (.keep [5] adorn_Pattern_14)
def adorn_Pattern_16 : XCode := .seq (.region [⟨(some 5), .ef (.new T_strings_Builder 2 [.nilptr, .nilslice]), none, [], false⟩]) adorn_Pattern_15
def adorn_Pattern_17 : XCode := .seq (.region [⟨(some 2), .ef (.box T_api_Atom 2 (.t 0)), none, [], false⟩,
  ⟨(some 4), .rd (.mov (.c (.str []))), none, [], false⟩]) adorn_Pattern_16
def adorn_Pattern : XFun := ⟨2, adorn_Pattern_17, [.tmp 4]⟩
theorem adorn_Pattern_ok : FunOk Tryz.prog adorn_Pattern_id adorn_Pattern := compFun_ok rfl E_ok (by kernel_rfl)

/-! ## 53 antecedent/adorn.bound -/
def adorn_bound_0 : XCode := .region [⟨(some 8), .rd (.off 1 (.t 2)), none, [], false⟩,
  ⟨(some 9), .rd (.load 1 false (.t 8)), none, [], false⟩,
  ⟨(some 10), .rd (.lenL (.t 9)), none, [], false⟩,
  ⟨(some 11), .rd (.mov (.c (.int .i64 0))), none, [], false⟩]
def adorn_bound_1 : XCode := .cond (.t 12) .skip (.exit 0)
def adorn_bound_2 : XCode := .region [⟨(some 13), .rd (.mov (.t 11)), none, [], false⟩,
  ⟨(some 14), .rd (.idx 4 (.t 9) (.t 11)), none, [], false⟩,
  ⟨(some 15), .rd (.load 4 true (.t 14)), none, [], false⟩,
  ⟨(some 7), .ef (.new T_api_Term 4 [.str [], .int .i64 0, .int .i64 0, .str []]), none, [], false⟩,
  ⟨(some 6), .rd (.mov (.t 13)), none, [], false⟩,
  ⟨none, .ef (.store 4 (.t 7) (.t 15)), none, [], false⟩]
def adorn_bound_3 : XCode := .region [⟨(some 16), .rd (.mov (.t 6)), none, [], false⟩,
  ⟨(some 17), .rd (.mov (.t 1)), none, [], false⟩,
  ⟨(some 18), .rd (.lenS (.t 17)), none, [], false⟩,
  ⟨(some 19), .rd (.bin .lss .other (.t 16) (.t 18)), none, [], false⟩,
  ⟨(some 20), .rd (.mov (.t 19)), none, [], false⟩,
  ⟨(some 21), .rd (.mov (.t 1)), (some (20, true)), [], false⟩,
  ⟨(some 22), .rd (.mov (.t 6)), (some (20, true)), [], false⟩,
  ⟨(some 23), .rd (.mov (.t 6)), (some (20, true)), [], false⟩,
  ⟨(some 24), .rd (.bin .add .other (.t 23) (.c (.int .i64 1))), (some (20, true)), [], false⟩,
  ⟨(some 25), .rd (.sliceS (.t 21) (some (.t 22)) (some (.t 24))), (some (20, true)), [], false⟩,
  ⟨(some 26), .rd (.bin .eql .other (.t 25) (.c (.str [98]))), (some (20, true)), [], false⟩,
  ⟨(some 27), .rd (.pick (.t 20) (.t 26) (.c (.bool false))), none, [], false⟩]
def adorn_bound_4 : XCode := .region [⟨(some 28), .rd (.mov (.t 5)), none, [], false⟩,
  ⟨(some 29), .rd (.load 4 true (.t 7)), none, [], false⟩,
  ⟨(some 30), .ef (.buildSlice T_api_Term 4 1 [.str [], .int .i64 0, .int .i64 0, .str []] [(0, 4, (.t 29))]), none, [], false⟩,
  ⟨(some 31), .ef (.append T_api_Term 4 48 (.t 28) (.t 30)), none, [], false⟩,
  ⟨(some 5), .rd (.mov (.t 31)), none, [], false⟩]
def adorn_bound_5 : XCode := .cond (.t 27) adorn_bound_4 .skip
def adorn_bound_6 : XCode := .seq adorn_bound_3 (.keep [1, 5, 7, 9, 10, 11, 27] adorn_bound_5)
def adorn_bound_7 : XCode := .seq adorn_bound_2 (.keep [1, 5, 6, 7, 9, 10, 11] adorn_bound_6)
def adorn_bound_8 : XCode := .region [⟨(some 32), .rd (.bin .add .other (.t 11) (.c (.int .i64 1))), none, [], false⟩,
  ⟨(some 11), .rd (.mov (.t 32)), none, [], false⟩]
def adorn_bound_9 : XCode := .seq (.block 1 adorn_bound_7) (.keep [1, 5, 9, 10, 11] adorn_bound_8)
def adorn_bound_10 : XCode := .seq adorn_bound_1 (.keep [1, 5, 9, 10, 11] adorn_bound_9)
def adorn_bound_11 : XCode := .seq (.region [⟨(some 12), .rd (.bin .lss .other (.t 11) (.t 10)), none, [], false⟩]) adorn_bound_10
def adorn_bound_12 : XCode := .seq adorn_bound_0 (.keep [1, 5, 9, 10, 11] (.block 0 (.loop [1, 5, 9, 10, 11] adorn_bound_11)))
def adorn_bound_13 : XCode := .region [⟨(some 33), .rd (.mov (.t 5)), none, [], false⟩,
  ⟨(some 34), .rd (.build [.str [], .nilslice] [(1, 1, (.t 33))]), none, [], false⟩,
  ⟨(some 35), .rd (.build [.int .i64 0, .str [], .nilslice, .str [], .str [], .int .i64 0, .int .i64 0, .str [], .str [], .int .i64 0, .int .i64 0, .str [], .str [], .int .i64 0, .int .i64 0, .str [], .nilslice] [(0, 1, (.c (.int .i64 1))), (1, 2, (.t 34))]), none, [], false⟩,
  ⟨(some 36), .call safe_Vars_id [.t 35], none, [], false⟩,
  ⟨(some 4), .rd (.mov (.t 36)), none, [], false⟩]
def adorn_bound_14 : XCode := .seq adorn_bound_13 .ret
def adorn_bound_15 : XCode := .seq adorn_bound_12 (.keep [5] adorn_bound_14)
def adorn_bound_16 : XCode := .seq (.region [⟨(some 5), .rd (.mov (.c (.nilslice))), none, [], false⟩]) adorn_bound_15
def adorn_bound_17 : XCode := .seq (.region [⟨(some 2), .ef (.box T_api_Atom 2 (.t 0)), none, [], false⟩,
  ⟨(some 4), .rd (.mov (.c (.nilslice))), none, [], false⟩]) adorn_bound_16
def adorn_bound : XFun := ⟨2, adorn_bound_17, [.tmp 4]⟩
theorem adorn_bound_ok : FunOk Tryz.prog adorn_bound_id adorn_bound := compFun_ok rfl E_ok (by kernel_rfl)

/-! ## 54 slices.Contains[[]antecedent/adorn.Demand,antecedent/adorn.Demand] -/
def slices_Contains_adorn_Demand_0 : XCode := .region [⟨(some 5), .rd (.mov (.t 0)), none, [], false⟩,
  ⟨(some 6), .rd (.load 2 true (.t 3)), none, [], false⟩,
  ⟨(some 7), .call slices_Index_adorn_Demand_id [.t 5, .t 6], none, [], false⟩,
  ⟨(some 8), .rd (.bin .geq .other (.t 7) (.c (.int .i64 0))), none, [], false⟩,
  ⟨(some 4), .rd (.mov (.t 8)), none, [], false⟩]
def slices_Contains_adorn_Demand_1 : XCode := .seq slices_Contains_adorn_Demand_0 .ret
def slices_Contains_adorn_Demand_2 : XCode := .seq (.region [⟨(some 3), .ef (.box T_adorn_Demand 2 (.t 1)), none, [], false⟩,
  ⟨(some 4), .rd (.mov (.c (.bool false))), none, [], false⟩]) slices_Contains_adorn_Demand_1
def slices_Contains_adorn_Demand : XFun := ⟨2, slices_Contains_adorn_Demand_2, [.tmp 4]⟩
theorem slices_Contains_adorn_Demand_ok : FunOk Tryz.prog slices_Contains_adorn_Demand_id slices_Contains_adorn_Demand := compFun_ok rfl E_ok (by kernel_rfl)

/-! ## 55 antecedent/safe.Binds -/
def safe_Binds_0 : XCode := .region [⟨(some 5), .rd (.load 17 true (.t 2)), none, [], false⟩,
  ⟨(some 6), .call safe_terms_id [.t 5], none, [], false⟩,
  ⟨(some 7), .rd (.mov (.t 1)), none, [], false⟩,
  ⟨(some 8), .call safe_names_id [.t 6, .t 7], none, [], false⟩,
  ⟨(some 4), .rd (.mov (.t 8)), none, [], false⟩]
def safe_Binds_1 : XCode := .seq safe_Binds_0 .ret
def safe_Binds_2 : XCode := .seq (.region [⟨(some 2), .ef (.box T_api_Literal 17 (.t 0)), none, [], false⟩,
  ⟨(some 4), .rd (.mov (.c (.nilslice))), none, [], false⟩]) safe_Binds_1
def safe_Binds : XFun := ⟨2, safe_Binds_2, [.tmp 4]⟩
theorem safe_Binds_ok : FunOk Tryz.prog safe_Binds_id safe_Binds := compFun_ok rfl E_ok (by kernel_rfl)

/-! ## 56 antecedent/adorn.Prune$1 -/
def adorn_Prune_f1_0 : XCode := .region [⟨(some 4), .rd (.load 2 true (.t 2)), none, [], false⟩,
  ⟨(some 5), .rd (.load 2 true (.t 1)), none, [], false⟩,
  ⟨(some 6), .rd (.eqc true [.str, .str] (.t 4) (.t 5)), none, [], false⟩,
  ⟨(some 7), .rd (.mov (.t 6)), none, [], false⟩,
  ⟨(some 8), .rd (.load 2 true (.t 2)), (some (7, true)), [], false⟩,
  ⟨(some 9), .rd (.load 2 true (.t 1)), (some (7, true)), [], false⟩,
  ⟨(some 10), .call adorn_Demand_covers_id [.t 8, .t 9], (some (7, true)), [], false⟩,
  ⟨(some 11), .rd (.pick (.t 7) (.t 10) (.c (.bool false))), none, [], false⟩,
  ⟨(some 3), .rd (.mov (.t 11)), none, [], false⟩]
def adorn_Prune_f1_1 : XCode := .seq adorn_Prune_f1_0 .ret
def adorn_Prune_f1_2 : XCode := .seq (.region [⟨(some 2), .ef (.box T_adorn_Demand 2 (.t 0)), none, [], false⟩,
  ⟨(some 3), .rd (.mov (.c (.bool false))), none, [], false⟩]) adorn_Prune_f1_1
def adorn_Prune_f1 : XFun := ⟨2, adorn_Prune_f1_2, [.tmp 3]⟩
theorem adorn_Prune_f1_ok : FunOk Tryz.prog adorn_Prune_f1_id adorn_Prune_f1 := compFun_ok rfl E_ok (by kernel_rfl)

/-! ## 57 (antecedent/adorn.Demand).covers -/
def adorn_Demand_covers_0 : XCode := .region [⟨(some 6), .rd (.off 0 (.t 2)), none, [], false⟩,
  ⟨(some 7), .rd (.load 1 false (.t 6)), none, [], false⟩,
  ⟨(some 8), .rd (.off 0 (.t 3)), none, [], false⟩,
  ⟨(some 9), .rd (.load 1 false (.t 8)), none, [], false⟩,
  ⟨(some 10), .rd (.bin .neq .other (.t 7) (.t 9)), none, [], false⟩,
  ⟨(some 11), .rd (.mov (.t 10)), none, [], false⟩,
  ⟨(some 12), .rd (.off 1 (.t 2)), (some (11, false)), [], false⟩,
  ⟨(some 13), .rd (.load 1 false (.t 12)), (some (11, false)), [], false⟩,
  ⟨(some 14), .rd (.lenS (.t 13)), (some (11, false)), [], false⟩,
  ⟨(some 15), .rd (.off 1 (.t 3)), (some (11, false)), [], false⟩,
  ⟨(some 16), .rd (.load 1 false (.t 15)), (some (11, false)), [], false⟩,
  ⟨(some 17), .rd (.lenS (.t 16)), (some (11, false)), [], false⟩,
  ⟨(some 18), .rd (.bin .neq .other (.t 14) (.t 17)), (some (11, false)), [], false⟩,
  ⟨(some 19), .rd (.pick (.t 11) (.c (.bool true)) (.t 18)), none, [], false⟩]
def adorn_Demand_covers_1 : XCode := .seq (.region [⟨(some 4), .rd (.mov (.c (.bool false))), none, [], false⟩]) .ret
def adorn_Demand_covers_2 : XCode := .cond (.t 19) adorn_Demand_covers_1 .skip
def adorn_Demand_covers_3 : XCode := .seq adorn_Demand_covers_0 (.keep [2, 3, 19] adorn_Demand_covers_2)
def adorn_Demand_covers_4 : XCode := .region [⟨(some 20), .rd (.off 1 (.t 2)), none, [], false⟩,
  ⟨(some 21), .rd (.load 1 false (.t 20)), none, [], false⟩,
  ⟨(some 22), .rd (.lenS (.t 21)), none, [], false⟩,
  ⟨(some 23), .rd (.mov (.c (.int .i64 0))), none, [], false⟩]
def adorn_Demand_covers_5 : XCode := .cond (.t 24) .skip (.exit 0)
def adorn_Demand_covers_6 : XCode := .region [⟨(some 26), .rd (.off 1 (.t 2)), none, [], false⟩,
  ⟨(some 27), .rd (.load 1 false (.t 26)), none, [], false⟩,
  ⟨(some 28), .rd (.mov (.t 5)), none, [], false⟩,
  ⟨(some 29), .rd (.mov (.t 5)), none, [], false⟩,
  ⟨(some 30), .rd (.bin .add .other (.t 29) (.c (.int .i64 1))), none, [], false⟩,
  ⟨(some 31), .rd (.sliceS (.t 27) (some (.t 28)) (some (.t 30))), none, [], false⟩,
  ⟨(some 32), .rd (.bin .eql .other (.t 31) (.c (.str [98]))), none, [], false⟩,
  ⟨(some 33), .rd (.mov (.t 32)), none, [], false⟩,
  ⟨(some 34), .rd (.off 1 (.t 3)), (some (33, true)), [], false⟩,
  ⟨(some 35), .rd (.load 1 false (.t 34)), (some (33, true)), [], false⟩,
  ⟨(some 36), .rd (.mov (.t 5)), (some (33, true)), [], false⟩,
  ⟨(some 37), .rd (.mov (.t 5)), (some (33, true)), [], false⟩,
  ⟨(some 38), .rd (.bin .add .other (.t 37) (.c (.int .i64 1))), (some (33, true)), [], false⟩,
  ⟨(some 39), .rd (.sliceS (.t 35) (some (.t 36)) (some (.t 38))), (some (33, true)), [], false⟩,
  ⟨(some 40), .rd (.bin .neq .other (.t 39) (.c (.str [98]))), (some (33, true)), [], false⟩,
  ⟨(some 41), .rd (.pick (.t 33) (.t 40) (.c (.bool false))), none, [], false⟩]
def adorn_Demand_covers_7 : XCode := .seq (.region [⟨(some 4), .rd (.mov (.c (.bool false))), none, [], false⟩]) .ret
def adorn_Demand_covers_8 : XCode := .cond (.t 41) adorn_Demand_covers_7 .skip
def adorn_Demand_covers_9 : XCode := .seq adorn_Demand_covers_6 (.keep [2, 3, 22, 23, 41] adorn_Demand_covers_8)
def adorn_Demand_covers_10 : XCode := .seq (.region [⟨(some 25), .rd (.mov (.t 23)), none, [], false⟩,
  ⟨(some 5), .rd (.mov (.t 25)), none, [], false⟩]) adorn_Demand_covers_9
def adorn_Demand_covers_11 : XCode := .region [⟨(some 42), .rd (.bin .add .other (.t 23) (.c (.int .i64 1))), none, [], false⟩,
  ⟨(some 23), .rd (.mov (.t 42)), none, [], false⟩]
def adorn_Demand_covers_12 : XCode := .seq (.block 1 adorn_Demand_covers_10) (.keep [2, 3, 22, 23] adorn_Demand_covers_11)
def adorn_Demand_covers_13 : XCode := .seq adorn_Demand_covers_5 (.keep [2, 3, 22, 23] adorn_Demand_covers_12)
def adorn_Demand_covers_14 : XCode := .seq (.region [⟨(some 24), .rd (.bin .lss .other (.t 23) (.t 22)), none, [], false⟩]) adorn_Demand_covers_13
def adorn_Demand_covers_15 : XCode := .seq adorn_Demand_covers_4 (.keep [2, 3, 22, 23] (.block 0 (.loop [2, 3, 22, 23] adorn_Demand_covers_14)))
def adorn_Demand_covers_16 : XCode := .seq (.region [⟨(some 4), .rd (.mov (.c (.bool true))), none, [], false⟩]) .ret
def adorn_Demand_covers_17 : XCode := .seq adorn_Demand_covers_15 (.keep [] adorn_Demand_covers_16)
def adorn_Demand_covers_18 : XCode := .seq adorn_Demand_covers_3 (.keep [2, 3] adorn_Demand_covers_17)
def adorn_Demand_covers_19 : XCode := .seq (.region [⟨(some 2), .ef (.box T_adorn_Demand 2 (.t 0)), none, [], false⟩,
  ⟨(some 3), .ef (.box T_adorn_Demand 2 (.t 1)), none, [], false⟩,
  ⟨(some 4), .rd (.mov (.c (.bool false))), none, [], false⟩]) adorn_Demand_covers_18
def adorn_Demand_covers : XFun := ⟨2, adorn_Demand_covers_19, [.tmp 4]⟩
theorem adorn_Demand_covers_ok : FunOk Tryz.prog adorn_Demand_covers_id adorn_Demand_covers := compFun_ok rfl E_ok (by kernel_rfl)

/-! ## 58 slices.ContainsFunc[[]antecedent/adorn.Demand,antecedent/adorn.Demand] -/
def slices_ContainsFunc_adorn_Demand_0 : XCode := .region [⟨(some 5), .rd (.mov (.t 0)), none, [], false⟩,
  ⟨(some 6), .rd (.mov (.t 1)), none, [], false⟩,
  ⟨(some 7), .call slices_IndexFunc_adorn_Demand_id [.t 5, .t 6], none, [], false⟩,
  ⟨(some 8), .rd (.bin .geq .other (.t 7) (.c (.int .i64 0))), none, [], false⟩,
  ⟨(some 4), .rd (.mov (.t 8)), none, [], false⟩]
def slices_ContainsFunc_adorn_Demand_1 : XCode := .seq slices_ContainsFunc_adorn_Demand_0 .ret
def slices_ContainsFunc_adorn_Demand_2 : XCode := .seq (.region [⟨(some 4), .rd (.mov (.c (.bool false))), none, [], false⟩]) slices_ContainsFunc_adorn_Demand_1
def slices_ContainsFunc_adorn_Demand : XFun := ⟨2, slices_ContainsFunc_adorn_Demand_2, [.tmp 4]⟩
theorem slices_ContainsFunc_adorn_Demand_ok : FunOk Tryz.prog slices_ContainsFunc_adorn_Demand_id slices_ContainsFunc_adorn_Demand := compFun_ok rfl E_ok (by kernel_rfl)

/-! ## 59 antecedent/adorn.Use -/
def adorn_Use_0 : XCode := .region [⟨(some 7), .rd (.mov (.t 0)), none, [], false⟩,
  ⟨(some 8), .rd (.mkfunc adorn_Use_f1_id [.t 3]), none, [], false⟩,
  ⟨(some 9), .call slices_IndexFunc_adorn_Demand_id [.t 7, .t 8], none, [], false⟩,
  ⟨(some 6), .rd (.mov (.t 9)), none, [], false⟩]
def adorn_Use_1 : XCode := .seq (.region [⟨(some 12), .rd (.build [.str [], .str []] []), none, [], false⟩,
  ⟨none, .ef (.store 2 (.t 4) (.t 12)), none, [], false⟩,
  ⟨(some 5), .rd (.mov (.c (.bool false))), none, [], false⟩]) .ret
def adorn_Use_2 : XCode := .cond (.t 11) adorn_Use_1 .skip
def adorn_Use_3 : XCode := .seq (.region [⟨(some 10), .rd (.mov (.t 6)), none, [], false⟩,
  ⟨(some 11), .rd (.bin .lss .other (.t 10) (.c (.int .i64 0))), none, [], false⟩]) adorn_Use_2
def adorn_Use_4 : XCode := .region [⟨(some 13), .rd (.mov (.t 0)), none, [], false⟩,
  ⟨(some 14), .rd (.mov (.t 6)), none, [], false⟩,
  ⟨(some 15), .rd (.idx 2 (.t 13) (.t 14)), none, [], false⟩,
  ⟨(some 16), .rd (.load 2 true (.t 15)), none, [], false⟩,
  ⟨none, .ef (.store 2 (.t 4) (.t 16)), none, [], false⟩,
  ⟨(some 5), .rd (.mov (.c (.bool true))), none, [], false⟩]
def adorn_Use_5 : XCode := .seq adorn_Use_4 .ret
def adorn_Use_6 : XCode := .seq adorn_Use_3 (.keep [0, 4, 6] adorn_Use_5)
def adorn_Use_7 : XCode := .seq adorn_Use_0 (.keep [0, 4, 6] adorn_Use_6)
def adorn_Use_8 : XCode := .seq (.region [⟨(some 3), .ef (.box T_adorn_Demand 2 (.t 1)), none, [], false⟩,
  ⟨(some 4), .ef (.new T_adorn_Demand 2 [.str [], .str []]), none, [], false⟩,
  ⟨(some 5), .rd (.mov (.c (.bool false))), none, [], false⟩]) adorn_Use_7
def adorn_Use : XFun := ⟨2, adorn_Use_8, [.cell 2 true 4, .tmp 5]⟩
theorem adorn_Use_ok : FunOk Tryz.prog adorn_Use_id adorn_Use := compFun_ok rfl E_ok (by kernel_rfl)

/-! ## 60 antecedent/magic.holds -/
def magic_holds_0 : XCode := .region [⟨(some 5), .rd (.mov (.t 0)), none, [], false⟩,
  ⟨(some 6), .rd (.mov (.t 1)), none, [], false⟩,
  ⟨(some 7), .rd (.build [.str [], .nilslice] [(0, 1, (.t 5)), (1, 1, (.t 6))]), none, [], false⟩,
  ⟨(some 8), .rd (.build [.int .i64 0, .str [], .nilslice, .str [], .str [], .int .i64 0, .int .i64 0, .str [], .str [], .int .i64 0, .int .i64 0, .str [], .str [], .int .i64 0, .int .i64 0, .str [], .nilslice] [(0, 1, (.c (.int .i64 1))), (1, 2, (.t 7))]), none, [], false⟩,
  ⟨none, .ef (.store 17 (.t 4) (.t 8)), none, [], false⟩]
def magic_holds_1 : XCode := .seq magic_holds_0 .ret
def magic_holds_2 : XCode := .seq (.region [⟨(some 4), .ef (.new T_api_Literal 17 [.int .i64 0, .str [], .nilslice, .str [], .str [], .int .i64 0, .int .i64 0, .str [], .str [], .int .i64 0, .int .i64 0, .str [], .str [], .int .i64 0, .int .i64 0, .str [], .nilslice]), none, [], false⟩]) magic_holds_1
def magic_holds : XFun := ⟨2, magic_holds_2, [.cell 17 true 4]⟩
theorem magic_holds_ok : FunOk Tryz.prog magic_holds_id magic_holds := compFun_ok rfl E_ok (by kernel_rfl)

/-! ## 61 antecedent/safe.Vars -/
def safe_Vars_0 : XCode := .region [⟨(some 3), .rd (.load 17 true (.t 1)), none, [], false⟩,
  ⟨(some 4), .call safe_terms_id [.t 3], none, [], false⟩,
  ⟨(some 5), .call safe_names_id [.t 4, .c (.nilslice)], none, [], false⟩,
  ⟨(some 2), .rd (.mov (.t 5)), none, [], false⟩]
def safe_Vars_1 : XCode := .seq safe_Vars_0 .ret
def safe_Vars_2 : XCode := .seq (.region [⟨(some 1), .ef (.box T_api_Literal 17 (.t 0)), none, [], false⟩,
  ⟨(some 2), .rd (.mov (.c (.nilslice))), none, [], false⟩]) safe_Vars_1
def safe_Vars : XFun := ⟨1, safe_Vars_2, [.tmp 2]⟩
theorem safe_Vars_ok : FunOk Tryz.prog safe_Vars_id safe_Vars := compFun_ok rfl E_ok (by kernel_rfl)

/-! ## 62 slices.IndexFunc[[]antecedent/api.Rule,antecedent/api.Rule] -/
def slices_IndexFunc_api_Rule_0 : XCode := .cond (.t 9) .skip (.exit 0)
def slices_IndexFunc_api_Rule_1 : XCode := .region [⟨(some 11), .rd (.mov (.t 1)), none, [], false⟩,
  ⟨(some 12), .rd (.mov (.t 0)), none, [], false⟩,
  ⟨(some 13), .rd (.mov (.t 5)), none, [], false⟩,
  ⟨(some 14), .rd (.idx 4 (.t 12) (.t 13)), none, [], false⟩,
  ⟨(some 15), .rd (.load 4 true (.t 14)), none, [], false⟩,
  ⟨(some 16), .callv (.t 11) [.t 15], none, [], false⟩]
def slices_IndexFunc_api_Rule_2 : XCode := .seq (.region [⟨(some 17), .rd (.mov (.t 5)), none, [], false⟩,
  ⟨(some 4), .rd (.mov (.t 17)), none, [], false⟩]) .ret
def slices_IndexFunc_api_Rule_3 : XCode := .cond (.t 16) slices_IndexFunc_api_Rule_2 .skip
def slices_IndexFunc_api_Rule_4 : XCode := .seq slices_IndexFunc_api_Rule_1 (.keep [0, 1, 5, 7, 8, 16] slices_IndexFunc_api_Rule_3)
def slices_IndexFunc_api_Rule_5 : XCode := .seq (.region [⟨(some 10), .rd (.mov (.t 8)), none, [], false⟩,
  ⟨(some 5), .rd (.mov (.t 10)), none, [], false⟩]) slices_IndexFunc_api_Rule_4
def slices_IndexFunc_api_Rule_6 : XCode := .region [⟨(some 18), .rd (.bin .add .other (.t 8) (.c (.int .i64 1))), none, [], false⟩,
  ⟨(some 8), .rd (.mov (.t 18)), none, [], false⟩]
def slices_IndexFunc_api_Rule_7 : XCode := .seq (.block 1 slices_IndexFunc_api_Rule_5) (.keep [0, 1, 7, 8] slices_IndexFunc_api_Rule_6)
def slices_IndexFunc_api_Rule_8 : XCode := .seq slices_IndexFunc_api_Rule_0 (.keep [0, 1, 7, 8] slices_IndexFunc_api_Rule_7)
def slices_IndexFunc_api_Rule_9 : XCode := .seq (.region [⟨(some 9), .rd (.bin .lss .other (.t 8) (.t 7)), none, [], false⟩]) slices_IndexFunc_api_Rule_8
def slices_IndexFunc_api_Rule_10 : XCode := .seq (.region [⟨(some 6), .rd (.mov (.t 0)), none, [], false⟩,
  ⟨(some 7), .rd (.lenL (.t 6)), none, [], false⟩,
  ⟨(some 8), .rd (.mov (.c (.int .i64 0))), none, [], false⟩]) (.block 0 (.loop [0, 1, 7, 8] slices_IndexFunc_api_Rule_9))
def slices_IndexFunc_api_Rule_11 : XCode := .seq (.region [⟨(some 4), .rd (.mov (.c (.int .i64 (-1)))), none, [], false⟩]) .ret
def slices_IndexFunc_api_Rule_12 : XCode := .seq slices_IndexFunc_api_Rule_10 (.keep [] slices_IndexFunc_api_Rule_11)
def slices_IndexFunc_api_Rule_13 : XCode := .seq (.region [⟨(some 4), .rd (.mov (.c (.int .i64 0))), none, [], false⟩]) slices_IndexFunc_api_Rule_12
def slices_IndexFunc_api_Rule : XFun := ⟨2, slices_IndexFunc_api_Rule_13, [.tmp 4]⟩
theorem slices_IndexFunc_api_Rule_ok : FunOk Tryz.prog slices_IndexFunc_api_Rule_id slices_IndexFunc_api_Rule := compFun_ok rfl E_ok (by kernel_rfl)

/-! ## 63 antecedent/strata.each -/
def strata_each_0 : XCode := .region [⟨(some 8), .rd (.off 3 (.t 2)), none, [], false⟩,
  ⟨(some 9), .rd (.load 1 false (.t 8)), none, [], false⟩,
  ⟨(some 10), .rd (.lenL (.t 9)), none, [], false⟩,
  ⟨(some 11), .rd (.mov (.c (.int .i64 0))), none, [], false⟩]
def strata_each_1 : XCode := .cond (.t 12) .skip (.exit 0)
def strata_each_2 : XCode := .region [⟨(some 13), .rd (.idx 17 (.t 9) (.t 11)), none, [], false⟩,
  ⟨(some 14), .rd (.load 17 true (.t 13)), none, [], false⟩,
  ⟨(some 5), .ef (.new T_api_Literal 17 [.int .i64 0, .str [], .nilslice, .str [], .str [], .int .i64 0, .int .i64 0, .str [], .str [], .int .i64 0, .int .i64 0, .str [], .str [], .int .i64 0, .int .i64 0, .str [], .nilslice]), none, [], false⟩,
  ⟨none, .ef (.store 17 (.t 5) (.t 14)), none, [], false⟩]
def strata_each_3 : XCode := .region [⟨(some 15), .rd (.load 17 true (.t 5)), none, [], false⟩,
  ⟨(some 16), .call strata_Uses_id [.t 15], none, [], false⟩,
  ⟨(some 17), .rd (.lenL (.t 16)), none, [], false⟩,
  ⟨(some 18), .rd (.mov (.c (.int .i64 0))), none, [], false⟩]
def strata_each_4 : XCode := .cond (.t 19) .skip (.exit 2)
def strata_each_5 : XCode := .region [⟨(some 22), .rd (.mov (.t 1)), none, [], false⟩,
  ⟨(some 23), .rd (.load 17 true (.t 5)), none, [], false⟩,
  ⟨(some 24), .rd (.mov (.t 7)), none, [], false⟩,
  ⟨(some 25), .callv (.t 22) [.t 23, .t 24], none, [], false⟩]
def strata_each_6 : XCode := .seq (.region [⟨(some 20), .rd (.idx 1 (.t 16) (.t 18)), none, [], false⟩,
  ⟨(some 21), .rd (.load 1 false (.t 20)), none, [], false⟩,
  ⟨(some 7), .rd (.mov (.t 21)), none, [], false⟩]) strata_each_5
def strata_each_7 : XCode := .region [⟨(some 26), .rd (.bin .add .other (.t 18) (.c (.int .i64 1))), none, [], false⟩,
  ⟨(some 18), .rd (.mov (.t 26)), none, [], false⟩]
def strata_each_8 : XCode := .seq (.block 3 strata_each_6) (.keep [1, 5, 9, 10, 11, 16, 17, 18] strata_each_7)
def strata_each_9 : XCode := .seq strata_each_4 (.keep [1, 5, 9, 10, 11, 16, 17, 18] strata_each_8)
def strata_each_10 : XCode := .seq (.region [⟨(some 19), .rd (.bin .lss .other (.t 18) (.t 17)), none, [], false⟩]) strata_each_9
def strata_each_11 : XCode := .seq strata_each_3 (.keep [1, 5, 9, 10, 11, 16, 17, 18] (.block 2 (.loop [1, 5, 9, 10, 11, 16, 17, 18] strata_each_10)))
def strata_each_12 : XCode := .seq strata_each_2 (.keep [1, 5, 9, 10, 11] strata_each_11)
def strata_each_13 : XCode := .region [⟨(some 27), .rd (.bin .add .other (.t 11) (.c (.int .i64 1))), none, [], false⟩,
  ⟨(some 11), .rd (.mov (.t 27)), none, [], false⟩]
def strata_each_14 : XCode := .seq (.block 1 strata_each_12) (.keep [1, 9, 10, 11] strata_each_13)
def strata_each_15 : XCode := .seq strata_each_1 (.keep [1, 9, 10, 11] strata_each_14)
def strata_each_16 : XCode := .seq (.region [⟨(some 12), .rd (.bin .lss .other (.t 11) (.t 10)), none, [], false⟩]) strata_each_15
def strata_each_17 : XCode := .seq strata_each_0 (.keep [1, 9, 10, 11] (.block 0 (.loop [1, 9, 10, 11] strata_each_16)))
def strata_each_18 : XCode := .seq (.region [⟨(some 2), .ef (.box T_api_Rule 4 (.t 0)), none, [], false⟩]) strata_each_17
def strata_each : XFun := ⟨2, strata_each_18, []⟩
theorem strata_each_ok : FunOk Tryz.prog strata_each_id strata_each := compFun_ok rfl E_ok (by kernel_rfl)

/-! ## 64 antecedent/strata.Names$1 -/
def strata_Names_f1_0 : XCode := .region [⟨(some 5), .rd (.load 1 false (.t 2)), none, [], false⟩,
  ⟨(some 6), .rd (.mov (.t 1)), none, [], false⟩,
  ⟨(some 7), .ef (.buildSlice T_string 1 1 [.str []] [(0, 1, (.t 6))]), none, [], false⟩,
  ⟨(some 8), .ef (.append T_string 1 16 (.t 5) (.t 7)), none, [], false⟩,
  ⟨none, .ef (.store 1 (.t 2) (.t 8)), none, [], false⟩]
def strata_Names_f1_1 : XCode := .seq (.region [⟨(some 3), .ef (.box T_api_Literal 17 (.t 0)), none, [], false⟩]) strata_Names_f1_0
def strata_Names_f1 : XFun := ⟨3, strata_Names_f1_1, []⟩
theorem strata_Names_f1_ok : FunOk Tryz.prog strata_Names_f1_id strata_Names_f1 := compFun_ok rfl E_ok (by kernel_rfl)

/-! ## 65 antecedent/strata.sorted -/
def strata_sorted_0 : XCode := .seq (.region [⟨(some 5), .rd (.mov (.t 0)), none, [], false⟩,
  ⟨(some 6), .call slices_Compact_string_id [.t 5], none, [], false⟩,
  ⟨(some 2), .rd (.mov (.t 6)), none, [], false⟩]) .ret
def strata_sorted_1 : XCode := .seq (.region [⟨(some 3), .rd (.mov (.t 0)), none, [], false⟩,
  ⟨(some 4), .call slices_Sort_string_id [.t 3], none, [], false⟩]) strata_sorted_0
def strata_sorted_2 : XCode := .seq (.region [⟨(some 2), .rd (.mov (.c (.nilslice))), none, [], false⟩]) strata_sorted_1
def strata_sorted : XFun := ⟨1, strata_sorted_2, [.tmp 2]⟩
theorem strata_sorted_ok : FunOk Tryz.prog strata_sorted_id strata_sorted := compFun_ok rfl E_ok (by kernel_rfl)

/-! ## 66 slices.IndexFunc[[]string,string] -/
def slices_IndexFunc_string_0 : XCode := .cond (.t 9) .skip (.exit 0)
def slices_IndexFunc_string_1 : XCode := .region [⟨(some 11), .rd (.mov (.t 1)), none, [], false⟩,
  ⟨(some 12), .rd (.mov (.t 0)), none, [], false⟩,
  ⟨(some 13), .rd (.mov (.t 5)), none, [], false⟩,
  ⟨(some 14), .rd (.idx 1 (.t 12) (.t 13)), none, [], false⟩,
  ⟨(some 15), .rd (.load 1 false (.t 14)), none, [], false⟩,
  ⟨(some 16), .callv (.t 11) [.t 15], none, [], false⟩]
def slices_IndexFunc_string_2 : XCode := .seq (.region [⟨(some 17), .rd (.mov (.t 5)), none, [], false⟩,
  ⟨(some 4), .rd (.mov (.t 17)), none, [], false⟩]) .ret
def slices_IndexFunc_string_3 : XCode := .cond (.t 16) slices_IndexFunc_string_2 .skip
def slices_IndexFunc_string_4 : XCode := .seq slices_IndexFunc_string_1 (.keep [0, 1, 5, 7, 8, 16] slices_IndexFunc_string_3)
def slices_IndexFunc_string_5 : XCode := .seq (.region [⟨(some 10), .rd (.mov (.t 8)), none, [], false⟩,
  ⟨(some 5), .rd (.mov (.t 10)), none, [], false⟩]) slices_IndexFunc_string_4
def slices_IndexFunc_string_6 : XCode := .region [⟨(some 18), .rd (.bin .add .other (.t 8) (.c (.int .i64 1))), none, [], false⟩,
  ⟨(some 8), .rd (.mov (.t 18)), none, [], false⟩]
def slices_IndexFunc_string_7 : XCode := .seq (.block 1 slices_IndexFunc_string_5) (.keep [0, 1, 7, 8] slices_IndexFunc_string_6)
def slices_IndexFunc_string_8 : XCode := .seq slices_IndexFunc_string_0 (.keep [0, 1, 7, 8] slices_IndexFunc_string_7)
def slices_IndexFunc_string_9 : XCode := .seq (.region [⟨(some 9), .rd (.bin .lss .other (.t 8) (.t 7)), none, [], false⟩]) slices_IndexFunc_string_8
def slices_IndexFunc_string_10 : XCode := .seq (.region [⟨(some 6), .rd (.mov (.t 0)), none, [], false⟩,
  ⟨(some 7), .rd (.lenL (.t 6)), none, [], false⟩,
  ⟨(some 8), .rd (.mov (.c (.int .i64 0))), none, [], false⟩]) (.block 0 (.loop [0, 1, 7, 8] slices_IndexFunc_string_9))
def slices_IndexFunc_string_11 : XCode := .seq (.region [⟨(some 4), .rd (.mov (.c (.int .i64 (-1)))), none, [], false⟩]) .ret
def slices_IndexFunc_string_12 : XCode := .seq slices_IndexFunc_string_10 (.keep [] slices_IndexFunc_string_11)
def slices_IndexFunc_string_13 : XCode := .seq (.region [⟨(some 4), .rd (.mov (.c (.int .i64 0))), none, [], false⟩]) slices_IndexFunc_string_12
def slices_IndexFunc_string : XFun := ⟨2, slices_IndexFunc_string_13, [.tmp 4]⟩
theorem slices_IndexFunc_string_ok : FunOk Tryz.prog slices_IndexFunc_string_id slices_IndexFunc_string := compFun_ok rfl E_ok (by kernel_rfl)

/-! ## 67 internal/stringslite.HasPrefix -/
def stringslite_HasPrefix_0 : XCode := .region [⟨(some 5), .rd (.mov (.t 0)), none, [], false⟩,
  ⟨(some 6), .rd (.lenS (.t 5)), none, [], false⟩,
  ⟨(some 7), .rd (.mov (.t 1)), none, [], false⟩,
  ⟨(some 8), .rd (.lenS (.t 7)), none, [], false⟩,
  ⟨(some 9), .rd (.bin .geq .other (.t 6) (.t 8)), none, [], false⟩,
  ⟨(some 10), .rd (.mov (.t 9)), none, [], false⟩,
  ⟨(some 11), .rd (.mov (.t 0)), (some (10, true)), [], false⟩,
  ⟨(some 12), .rd (.mov (.t 1)), (some (10, true)), [], false⟩,
  ⟨(some 13), .rd (.lenS (.t 12)), (some (10, true)), [], false⟩,
  ⟨(some 14), .rd (.sliceS (.t 11) none (some (.t 13))), (some (10, true)), [], false⟩,
  ⟨(some 15), .rd (.mov (.t 1)), (some (10, true)), [], false⟩,
  ⟨(some 16), .rd (.bin .eql .other (.t 14) (.t 15)), (some (10, true)), [], false⟩,
  ⟨(some 17), .rd (.pick (.t 10) (.t 16) (.c (.bool false))), none, [], false⟩,
  ⟨(some 4), .rd (.mov (.t 17)), none, [], false⟩]
def stringslite_HasPrefix_1 : XCode := .seq stringslite_HasPrefix_0 .ret
def stringslite_HasPrefix_2 : XCode := .seq (.region [⟨(some 4), .rd (.mov (.c (.bool false))), none, [], false⟩]) stringslite_HasPrefix_1
def stringslite_HasPrefix : XFun := ⟨2, stringslite_HasPrefix_2, [.tmp 4]⟩
theorem stringslite_HasPrefix_ok : FunOk Tryz.prog stringslite_HasPrefix_id stringslite_HasPrefix := compFun_ok rfl E_ok (by kernel_rfl)

/-! ## 77 slices.BinarySearch[[]string,string] -/
def slices_BinarySearch_string_0 : XCode := .cond (.t 15) .skip (.exit 0)
def slices_BinarySearch_string_1 : XCode := .seq (.region [⟨(some 13), .rd (.mov (.t 7)), none, [], false⟩,
  ⟨(some 14), .rd (.mov (.t 8)), none, [], false⟩,
  ⟨(some 15), .rd (.bin .lss .other (.t 13) (.t 14)), none, [], false⟩]) slices_BinarySearch_string_0
def slices_BinarySearch_string_2 : XCode := .region [⟨(some 16), .rd (.mov (.t 7)), none, [], false⟩,
  ⟨(some 17), .rd (.mov (.t 8)), none, [], false⟩,
  ⟨(some 18), .rd (.bin .add .other (.t 16) (.t 17)), none, [], false⟩,
  ⟨(some 19), .rd (.conv .u64 (.t 18)), none, [], false⟩,
  ⟨(some 20), .rd (.bin .shr .other (.t 19) (.c (.int .u64 1))), none, [], false⟩,
  ⟨(some 21), .rd (.conv .i64 (.t 20)), none, [], false⟩,
  ⟨(some 9), .rd (.mov (.t 21)), none, [], false⟩]
def slices_BinarySearch_string_3 : XCode := .region [⟨(some 22), .rd (.mov (.t 0)), none, [], false⟩,
  ⟨(some 23), .rd (.mov (.t 9)), none, [], false⟩,
  ⟨(some 24), .rd (.idx 1 (.t 22) (.t 23)), none, [], false⟩,
  ⟨(some 25), .rd (.load 1 false (.t 24)), none, [], false⟩,
  ⟨(some 26), .rd (.mov (.t 1)), none, [], false⟩,
  ⟨(some 27), .call cmp_Less_string_id [.t 25, .t 26], none, [], false⟩]
def slices_BinarySearch_string_4 : XCode := .region [⟨(some 28), .rd (.mov (.t 9)), none, [], false⟩,
  ⟨(some 29), .rd (.bin .add .other (.t 28) (.c (.int .i64 1))), none, [], false⟩,
  ⟨(some 7), .rd (.mov (.t 29)), none, [], false⟩]
def slices_BinarySearch_string_5 : XCode := .region [⟨(some 30), .rd (.mov (.t 9)), none, [], false⟩,
  ⟨(some 8), .rd (.mov (.t 30)), none, [], false⟩]
def slices_BinarySearch_string_6 : XCode := .cond (.t 27) slices_BinarySearch_string_4 slices_BinarySearch_string_5
def slices_BinarySearch_string_7 : XCode := .seq slices_BinarySearch_string_3 (.keep [0, 1, 6, 7, 8, 9, 27] slices_BinarySearch_string_6)
def slices_BinarySearch_string_8 : XCode := .seq slices_BinarySearch_string_2 (.keep [0, 1, 6, 7, 8, 9] slices_BinarySearch_string_7)
def slices_BinarySearch_string_9 : XCode := .seq slices_BinarySearch_string_1 (.keep [0, 1, 6, 7, 8] (.block 1 slices_BinarySearch_string_8))
def slices_BinarySearch_string_10 : XCode := .region [⟨(some 31), .rd (.mov (.t 7)), none, [], false⟩,
  ⟨(some 32), .rd (.mov (.t 7)), none, [], false⟩,
  ⟨(some 33), .rd (.mov (.t 6)), none, [], false⟩,
  ⟨(some 34), .rd (.bin .lss .other (.t 32) (.t 33)), none, [], false⟩,
  ⟨(some 35), .rd (.mov (.t 34)), none, [], false⟩,
  ⟨(some 36), .rd (.mov (.t 0)), (some (35, true)), [], false⟩,
  ⟨(some 37), .rd (.mov (.t 7)), (some (35, true)), [], false⟩,
  ⟨(some 38), .rd (.idx 1 (.t 36) (.t 37)), (some (35, true)), [], false⟩,
  ⟨(some 39), .rd (.load 1 false (.t 38)), (some (35, true)), [], false⟩,
  ⟨(some 40), .rd (.mov (.t 1)), (some (35, true)), [], false⟩,
  ⟨(some 41), .rd (.bin .eql .other (.t 39) (.t 40)), (some (35, true)), [], false⟩,
  ⟨(some 42), .rd (.mov (.t 41)), (some (35, true)), [], false⟩,
  ⟨(some 43), .rd (.mov (.t 0)), (some (42, false)), [], false⟩,
  ⟨(some 44), .rd (.mov (.t 7)), (some (42, false)), [], false⟩,
  ⟨(some 45), .rd (.idx 1 (.t 43) (.t 44)), (some (42, false)), [], false⟩,
  ⟨(some 46), .rd (.load 1 false (.t 45)), (some (42, false)), [], false⟩,
  ⟨(some 47), .call slices_isNaN_string_id [.t 46], (some (42, false)), [], false⟩,
  ⟨(some 48), .rd (.mov (.t 47)), (some (42, false)), [], false⟩,
  ⟨(some 49), .rd (.mov (.t 1)), (some (48, true)), [], false⟩,
  ⟨(some 50), .call slices_isNaN_string_id [.t 49], (some (48, true)), [], false⟩,
  ⟨(some 51), .rd (.pick (.t 48) (.t 50) (.c (.bool false))), (some (42, false)), [], false⟩,
  ⟨(some 52), .rd (.pick (.t 42) (.c (.bool true)) (.t 51)), (some (35, true)), [], false⟩,
  ⟨(some 53), .rd (.pick (.t 35) (.t 52) (.c (.bool false))), none, [], false⟩,
  ⟨(some 4), .rd (.mov (.t 31)), none, [], false⟩,
  ⟨(some 5), .rd (.mov (.t 53)), none, [], false⟩]
def slices_BinarySearch_string_11 : XCode := .seq slices_BinarySearch_string_10 .ret
def slices_BinarySearch_string_12 : XCode := .seq (.block 0 (.loop [0, 1, 6, 7, 8] slices_BinarySearch_string_9)) (.keep [0, 1, 6, 7] slices_BinarySearch_string_11)
def slices_BinarySearch_string_13 : XCode := .seq (.region [⟨(some 12), .rd (.mov (.t 6)), none, [], false⟩,
  ⟨(some 7), .rd (.mov (.c (.int .i64 0))), none, [], false⟩,
  ⟨(some 8), .rd (.mov (.t 12)), none, [], false⟩]) slices_BinarySearch_string_12
def slices_BinarySearch_string_14 : XCode := .seq (.region [⟨(some 10), .rd (.mov (.t 0)), none, [], false⟩,
  ⟨(some 11), .rd (.lenL (.t 10)), none, [], false⟩,
  ⟨(some 6), .rd (.mov (.t 11)), none, [], false⟩]) slices_BinarySearch_string_13
def slices_BinarySearch_string_15 : XCode := .seq (.region [⟨(some 4), .rd (.mov (.c (.int .i64 0))), none, [], false⟩,
  ⟨(some 5), .rd (.mov (.c (.bool false))), none, [], false⟩]) slices_BinarySearch_string_14
def slices_BinarySearch_string : XFun := ⟨2, slices_BinarySearch_string_15, [.tmp 4, .tmp 5]⟩
theorem slices_BinarySearch_string_ok : FunOk Tryz.prog slices_BinarySearch_string_id slices_BinarySearch_string := compFun_ok rfl E_ok (by kernel_rfl)

/-! ## 78 antecedent/strata.Needs$1 -/
def strata_Needs_f1_0 : XCode := .region [⟨(some 10), .rd (.load 1 false (.t 2)), none, [], false⟩,
  ⟨(some 11), .rd (.mov (.t 1)), none, [], false⟩,
  ⟨(some 12), .call slices_BinarySearch_string_id [.t 10, .t 11], none, [], false⟩,
  ⟨(some 9), .rd (.mov (.t 12)), none, [], false⟩,
  ⟨(some 13), .rd (.extract 0 (.t 9)), none, [], false⟩,
  ⟨(some 14), .rd (.extract 1 (.t 9)), none, [], false⟩,
  ⟨(some 7), .rd (.mov (.t 13)), none, [], false⟩,
  ⟨(some 8), .rd (.mov (.t 14)), none, [], false⟩]
def strata_Needs_f1_1 : XCode := .region [⟨(some 15), .rd (.load 1 false (.t 3)), none, [], false⟩,
  ⟨(some 16), .rd (.load 1 false (.t 4)), none, [], false⟩,
  ⟨(some 17), .rd (.mov (.t 7)), none, [], false⟩,
  ⟨(some 18), .rd (.build [.int .i64 0, .int .i64 0] [(0, 1, (.t 16)), (1, 1, (.t 17))]), none, [], false⟩,
  ⟨(some 19), .ef (.buildSlice T_ar2_int 2 1 [.int .i64 0, .int .i64 0] [(0, 2, (.t 18))]), none, [], false⟩,
  ⟨(some 20), .ef (.append T_ar2_int 2 16 (.t 15) (.t 19)), none, [], false⟩,
  ⟨none, .ef (.store 1 (.t 3) (.t 20)), none, [], false⟩]
def strata_Needs_f1_2 : XCode := .seq strata_Needs_f1_0 (.keep [3, 4, 7] strata_Needs_f1_1)
def strata_Needs_f1_3 : XCode := .seq (.region [⟨(some 5), .ef (.box T_api_Literal 17 (.t 0)), none, [], false⟩]) strata_Needs_f1_2
def strata_Needs_f1 : XFun := ⟨5, strata_Needs_f1_3, []⟩
theorem strata_Needs_f1_ok : FunOk Tryz.prog strata_Needs_f1_id strata_Needs_f1 := compFun_ok rfl E_ok (by kernel_rfl)

/-! ## 79 slices.SortFunc[[][2]int,[2]int] -/
def slices_SortFunc_sl_ar2_int_ar2_int_0 : XCode := .region [⟨(some 7), .rd (.mov (.t 0)), none, [], false⟩,
  ⟨(some 8), .rd (.mov (.t 4)), none, [], false⟩,
  ⟨(some 9), .rd (.mov (.t 4)), none, [], false⟩,
  ⟨(some 10), .rd (.conv .u64 (.t 9)), none, [], false⟩,
  ⟨(some 11), .call math_bits_Len_id [.t 10], none, [], false⟩,
  ⟨(some 12), .rd (.mov (.t 1)), none, [], false⟩,
  ⟨(some 13), .call slices_pdqsortCmpFunc_ar2_int_id [.t 7, .c (.int .i64 0), .t 8, .t 11, .t 12], none, [], false⟩]
def slices_SortFunc_sl_ar2_int_ar2_int_1 : XCode := .seq (.region [⟨(some 5), .rd (.mov (.t 0)), none, [], false⟩,
  ⟨(some 6), .rd (.lenL (.t 5)), none, [], false⟩,
  ⟨(some 4), .rd (.mov (.t 6)), none, [], false⟩]) slices_SortFunc_sl_ar2_int_ar2_int_0
def slices_SortFunc_sl_ar2_int_ar2_int : XFun := ⟨2, slices_SortFunc_sl_ar2_int_ar2_int_1, []⟩
theorem slices_SortFunc_sl_ar2_int_ar2_int_ok : FunOk Tryz.prog slices_SortFunc_sl_ar2_int_ar2_int_id slices_SortFunc_sl_ar2_int_ar2_int := compFun_ok rfl E_ok (by kernel_rfl)

/-! ## 80 antecedent/strata.Needs$2 -/
def strata_Needs_f2_0 : XCode := .draw [⟨(some 5), .rd (.sliceA 2 (.t 2)), none, [], false⟩,
  ⟨(some 6), .rd (.sliceA 2 (.t 3)), none, [], false⟩,
  ⟨(some 7), .call slices_Compare_int_id [.t 5, .t 6], none, [0, 1], false⟩,
  ⟨(some 4), .rd (.mov (.t 7)), none, [2, 0, 1], false⟩]
def strata_Needs_f2_1 : XCode := .seq strata_Needs_f2_0 .ret
def strata_Needs_f2_2 : XCode := .seq (.region [⟨(some 2), .ef (.box T_ar2_int 2 (.t 0)), none, [], false⟩,
  ⟨(some 3), .ef (.box T_ar2_int 2 (.t 1)), none, [], false⟩,
  ⟨(some 4), .rd (.mov (.c (.int .i64 0))), none, [], false⟩]) strata_Needs_f2_1
def strata_Needs_f2 : XFun := ⟨2, strata_Needs_f2_2, [.tmp 4]⟩
theorem strata_Needs_f2_ok : FunOk Tryz.prog strata_Needs_f2_id strata_Needs_f2 := compFun_ok rfl E_ok (by kernel_rfl)

/-! ## 81 slices.Compare[[]int,int] -/
def slices_Compare_int_0 : XCode := .cond (.t 12) .skip (.exit 0)
def slices_Compare_int_1 : XCode := .region [⟨(some 13), .rd (.mov (.t 11)), none, [], false⟩,
  ⟨(some 14), .rd (.idx 1 (.t 9) (.t 11)), none, [], false⟩,
  ⟨(some 15), .rd (.load 1 false (.t 14)), none, [], false⟩,
  ⟨(some 5), .rd (.mov (.t 13)), none, [], false⟩,
  ⟨(some 6), .rd (.mov (.t 15)), none, [], false⟩]
def slices_Compare_int_2 : XCode := .region [⟨(some 16), .rd (.mov (.t 5)), none, [], false⟩,
  ⟨(some 17), .rd (.mov (.t 1)), none, [], false⟩,
  ⟨(some 18), .rd (.lenL (.t 17)), none, [], false⟩,
  ⟨(some 19), .rd (.bin .geq .other (.t 16) (.t 18)), none, [], false⟩]
def slices_Compare_int_3 : XCode := .seq (.region [⟨(some 4), .rd (.mov (.c (.int .i64 1))), none, [], false⟩]) .ret
def slices_Compare_int_4 : XCode := .cond (.t 19) slices_Compare_int_3 .skip
def slices_Compare_int_5 : XCode := .seq slices_Compare_int_2 (.keep [0, 1, 5, 6, 9, 10, 11, 19] slices_Compare_int_4)
def slices_Compare_int_6 : XCode := .region [⟨(some 20), .rd (.mov (.t 1)), none, [], false⟩,
  ⟨(some 21), .rd (.mov (.t 5)), none, [], false⟩,
  ⟨(some 22), .rd (.idx 1 (.t 20) (.t 21)), none, [], false⟩,
  ⟨(some 23), .rd (.load 1 false (.t 22)), none, [], false⟩,
  ⟨(some 7), .rd (.mov (.t 23)), none, [], false⟩]
def slices_Compare_int_7 : XCode := .region [⟨(some 24), .rd (.mov (.t 6)), none, [], false⟩,
  ⟨(some 25), .rd (.mov (.t 7)), none, [], false⟩,
  ⟨(some 26), .call cmp_Compare_int_id [.t 24, .t 25], none, [], false⟩,
  ⟨(some 8), .rd (.mov (.t 26)), none, [], false⟩]
def slices_Compare_int_8 : XCode := .seq (.region [⟨(some 29), .rd (.mov (.t 8)), none, [], false⟩,
  ⟨(some 4), .rd (.mov (.t 29)), none, [], false⟩]) .ret
def slices_Compare_int_9 : XCode := .cond (.t 28) slices_Compare_int_8 .skip
def slices_Compare_int_10 : XCode := .seq (.region [⟨(some 27), .rd (.mov (.t 8)), none, [], false⟩,
  ⟨(some 28), .rd (.bin .neq .other (.t 27) (.c (.int .i64 0))), none, [], false⟩]) slices_Compare_int_9
def slices_Compare_int_11 : XCode := .seq slices_Compare_int_7 (.keep [0, 1, 8, 9, 10, 11] slices_Compare_int_10)
def slices_Compare_int_12 : XCode := .seq slices_Compare_int_6 (.keep [0, 1, 6, 7, 9, 10, 11] slices_Compare_int_11)
def slices_Compare_int_13 : XCode := .seq slices_Compare_int_5 (.keep [0, 1, 5, 6, 9, 10, 11] slices_Compare_int_12)
def slices_Compare_int_14 : XCode := .seq slices_Compare_int_1 (.keep [0, 1, 5, 6, 9, 10, 11] slices_Compare_int_13)
def slices_Compare_int_15 : XCode := .region [⟨(some 30), .rd (.bin .add .other (.t 11) (.c (.int .i64 1))), none, [], false⟩,
  ⟨(some 11), .rd (.mov (.t 30)), none, [], false⟩]
def slices_Compare_int_16 : XCode := .seq (.block 1 slices_Compare_int_14) (.keep [0, 1, 9, 10, 11] slices_Compare_int_15)
def slices_Compare_int_17 : XCode := .seq slices_Compare_int_0 (.keep [0, 1, 9, 10, 11] slices_Compare_int_16)
def slices_Compare_int_18 : XCode := .seq (.region [⟨(some 12), .rd (.bin .lss .other (.t 11) (.t 10)), none, [], false⟩]) slices_Compare_int_17
def slices_Compare_int_19 : XCode := .seq (.region [⟨(some 9), .rd (.mov (.t 0)), none, [], false⟩,
  ⟨(some 10), .rd (.lenL (.t 9)), none, [], false⟩,
  ⟨(some 11), .rd (.mov (.c (.int .i64 0))), none, [], false⟩]) (.block 0 (.loop [0, 1, 9, 10, 11] slices_Compare_int_18))
def slices_Compare_int_20 : XCode := .region [⟨(some 31), .rd (.mov (.t 0)), none, [], false⟩,
  ⟨(some 32), .rd (.lenL (.t 31)), none, [], false⟩,
  ⟨(some 33), .rd (.mov (.t 1)), none, [], false⟩,
  ⟨(some 34), .rd (.lenL (.t 33)), none, [], false⟩,
  ⟨(some 35), .rd (.bin .lss .other (.t 32) (.t 34)), none, [], false⟩]
def slices_Compare_int_21 : XCode := .seq (.region [⟨(some 4), .rd (.mov (.c (.int .i64 (-1)))), none, [], false⟩]) .ret
def slices_Compare_int_22 : XCode := .cond (.t 35) slices_Compare_int_21 .skip
def slices_Compare_int_23 : XCode := .seq slices_Compare_int_20 (.keep [35] slices_Compare_int_22)
def slices_Compare_int_24 : XCode := .seq (.region [⟨(some 4), .rd (.mov (.c (.int .i64 0))), none, [], false⟩]) .ret
def slices_Compare_int_25 : XCode := .seq slices_Compare_int_23 (.keep [] slices_Compare_int_24)
def slices_Compare_int_26 : XCode := .seq slices_Compare_int_19 (.keep [0, 1] slices_Compare_int_25)
def slices_Compare_int_27 : XCode := .seq (.region [⟨(some 4), .rd (.mov (.c (.int .i64 0))), none, [], false⟩]) slices_Compare_int_26
def slices_Compare_int : XFun := ⟨2, slices_Compare_int_27, [.tmp 4]⟩
theorem slices_Compare_int_ok : FunOk Tryz.prog slices_Compare_int_id slices_Compare_int := compFun_ok rfl E_ok (by kernel_rfl)

/-! ## 82 slices.Compact[[][2]int,[2]int] -/
def slices_Compact_sl_ar2_int_ar2_int_0 : XCode := .seq (.region [⟨(some 9), .rd (.mov (.t 0)), none, [], false⟩,
  ⟨(some 2), .rd (.mov (.t 9)), none, [], false⟩]) .ret
def slices_Compact_sl_ar2_int_ar2_int_1 : XCode := .cond (.t 8) slices_Compact_sl_ar2_int_ar2_int_0 .skip
def slices_Compact_sl_ar2_int_ar2_int_2 : XCode := .seq (.region [⟨(some 6), .rd (.mov (.t 0)), none, [], false⟩,
  ⟨(some 7), .rd (.lenL (.t 6)), none, [], false⟩,
  ⟨(some 8), .rd (.bin .lss .other (.t 7) (.c (.int .i64 2))), none, [], false⟩]) slices_Compact_sl_ar2_int_ar2_int_1
def slices_Compact_sl_ar2_int_ar2_int_3 : XCode := .region [⟨(some 10), .rd (.mov (.t 3)), none, [], false⟩,
  ⟨(some 11), .rd (.mov (.t 0)), none, [], false⟩,
  ⟨(some 12), .rd (.lenL (.t 11)), none, [], false⟩,
  ⟨(some 13), .rd (.bin .lss .other (.t 10) (.t 12)), none, [], false⟩]
def slices_Compact_sl_ar2_int_ar2_int_4 : XCode := .cond (.t 13) .skip (.exit 0)
def slices_Compact_sl_ar2_int_ar2_int_5 : XCode := .seq slices_Compact_sl_ar2_int_ar2_int_3 (.keep [0, 3, 13] slices_Compact_sl_ar2_int_ar2_int_4)
def slices_Compact_sl_ar2_int_ar2_int_6 : XCode := .draw [⟨(some 16), .rd (.mov (.t 0)), none, [], false⟩,
  ⟨(some 17), .rd (.mov (.t 3)), none, [], false⟩,
  ⟨(some 18), .rd (.idx 2 (.t 16) (.t 17)), none, [0, 1], false⟩,
  ⟨(some 19), .rd (.load 2 true (.t 18)), none, [2, 0, 1], false⟩,
  ⟨(some 20), .rd (.mov (.t 0)), none, [], false⟩,
  ⟨(some 21), .rd (.mov (.t 3)), none, [], false⟩,
  ⟨(some 22), .rd (.bin .sub .other (.t 21) (.c (.int .i64 1))), none, [5], false⟩,
  ⟨(some 23), .rd (.idx 2 (.t 20) (.t 22)), none, [4, 6, 5], false⟩,
  ⟨(some 24), .rd (.load 2 true (.t 23)), none, [7, 4, 6, 5], false⟩,
  ⟨(some 25), .rd (.eqc false [(.int .i64), (.int .i64)] (.t 19) (.t 24)), none, [3, 8, 2, 0, 1, 7, 4, 6, 5], false⟩]
def slices_Compact_sl_ar2_int_ar2_int_7 : XCode := .region [⟨(some 26), .rd (.mov (.t 0)), none, [], false⟩,
  ⟨(some 27), .rd (.mov (.t 3)), none, [], false⟩,
  ⟨(some 28), .rd (.slice 2 (.t 26) (some (.t 27)) none none), none, [], false⟩,
  ⟨(some 4), .rd (.mov (.t 28)), none, [], false⟩]
def slices_Compact_sl_ar2_int_ar2_int_8 : XCode := .region [⟨(some 29), .rd (.mov (.t 5)), none, [], false⟩,
  ⟨(some 30), .rd (.mov (.t 4)), none, [], false⟩,
  ⟨(some 31), .rd (.lenL (.t 30)), none, [], false⟩,
  ⟨(some 32), .rd (.bin .lss .other (.t 29) (.t 31)), none, [], false⟩]
def slices_Compact_sl_ar2_int_ar2_int_9 : XCode := .cond (.t 32) .skip (.exit 2)
def slices_Compact_sl_ar2_int_ar2_int_10 : XCode := .seq slices_Compact_sl_ar2_int_ar2_int_8 (.keep [0, 3, 4, 5, 32] slices_Compact_sl_ar2_int_ar2_int_9)
def slices_Compact_sl_ar2_int_ar2_int_11 : XCode := .draw [⟨(some 35), .rd (.mov (.t 4)), none, [], false⟩,
  ⟨(some 36), .rd (.mov (.t 5)), none, [], false⟩,
  ⟨(some 37), .rd (.idx 2 (.t 35) (.t 36)), none, [0, 1], false⟩,
  ⟨(some 38), .rd (.load 2 true (.t 37)), none, [2, 0, 1], false⟩,
  ⟨(some 39), .rd (.mov (.t 4)), none, [], false⟩,
  ⟨(some 40), .rd (.mov (.t 5)), none, [], false⟩,
  ⟨(some 41), .rd (.bin .sub .other (.t 40) (.c (.int .i64 1))), none, [5], false⟩,
  ⟨(some 42), .rd (.idx 2 (.t 39) (.t 41)), none, [4, 6, 5], false⟩,
  ⟨(some 43), .rd (.load 2 true (.t 42)), none, [7, 4, 6, 5], false⟩,
  ⟨(some 44), .rd (.eqc true [(.int .i64), (.int .i64)] (.t 38) (.t 43)), none, [3, 8, 2, 0, 1, 7, 4, 6, 5], false⟩]
def slices_Compact_sl_ar2_int_ar2_int_12 : XCode := .region [⟨(some 45), .rd (.mov (.t 0)), none, [], false⟩,
  ⟨(some 46), .rd (.mov (.t 3)), none, [], false⟩,
  ⟨(some 47), .rd (.mov (.t 4)), none, [], false⟩,
  ⟨(some 48), .rd (.mov (.t 5)), none, [], false⟩,
  ⟨(some 49), .rd (.idx 2 (.t 47) (.t 48)), none, [], false⟩,
  ⟨(some 50), .rd (.load 2 true (.t 49)), none, [], false⟩,
  ⟨(some 51), .rd (.idx 2 (.t 45) (.t 46)), none, [], false⟩,
  ⟨none, .ef (.store 2 (.t 51) (.t 50)), none, [], false⟩]
def slices_Compact_sl_ar2_int_ar2_int_13 : XCode := .region [⟨(some 52), .rd (.mov (.t 3)), none, [], false⟩,
  ⟨(some 53), .rd (.bin .add .other (.t 52) (.c (.int .i64 1))), none, [], false⟩,
  ⟨(some 3), .rd (.mov (.t 53)), none, [], false⟩]
def slices_Compact_sl_ar2_int_ar2_int_14 : XCode := .seq slices_Compact_sl_ar2_int_ar2_int_12 (.keep [0, 3, 4, 5] slices_Compact_sl_ar2_int_ar2_int_13)
def slices_Compact_sl_ar2_int_ar2_int_15 : XCode := .cond (.t 44) slices_Compact_sl_ar2_int_ar2_int_14 .skip
def slices_Compact_sl_ar2_int_ar2_int_16 : XCode := .seq slices_Compact_sl_ar2_int_ar2_int_11 (.keep [0, 3, 4, 5, 44] slices_Compact_sl_ar2_int_ar2_int_15)
def slices_Compact_sl_ar2_int_ar2_int_17 : XCode := .region [⟨(some 33), .rd (.mov (.t 5)), none, [], false⟩,
  ⟨(some 34), .rd (.bin .add .other (.t 33) (.c (.int .i64 1))), none, [], false⟩,
  ⟨(some 5), .rd (.mov (.t 34)), none, [], false⟩]
def slices_Compact_sl_ar2_int_ar2_int_18 : XCode := .seq (.block 3 slices_Compact_sl_ar2_int_ar2_int_16) (.keep [0, 3, 4, 5] slices_Compact_sl_ar2_int_ar2_int_17)
def slices_Compact_sl_ar2_int_ar2_int_19 : XCode := .seq slices_Compact_sl_ar2_int_ar2_int_10 (.keep [0, 3, 4, 5] slices_Compact_sl_ar2_int_ar2_int_18)
def slices_Compact_sl_ar2_int_ar2_int_20 : XCode := .seq (.region [⟨(some 5), .rd (.mov (.c (.int .i64 1))), none, [], false⟩]) (.block 2 (.loop [0, 3, 4, 5] slices_Compact_sl_ar2_int_ar2_int_19))
def slices_Compact_sl_ar2_int_ar2_int_21 : XCode := .region [⟨(some 54), .rd (.mov (.t 0)), none, [], false⟩,
  ⟨(some 55), .rd (.mov (.t 3)), none, [], false⟩,
  ⟨(some 56), .rd (.slice 2 (.t 54) (some (.t 55)) none none), none, [], false⟩,
  ⟨none, .ef (.clear 2 [.int .i64 0, .int .i64 0] (.t 56)), none, [], false⟩]
def slices_Compact_sl_ar2_int_ar2_int_22 : XCode := .region [⟨(some 57), .rd (.mov (.t 0)), none, [], false⟩,
  ⟨(some 58), .rd (.mov (.t 3)), none, [], false⟩,
  ⟨(some 59), .rd (.slice 2 (.t 57) none (some (.t 58)) none), none, [], false⟩,
  ⟨(some 2), .rd (.mov (.t 59)), none, [], false⟩]
def slices_Compact_sl_ar2_int_ar2_int_23 : XCode := .seq slices_Compact_sl_ar2_int_ar2_int_22 .ret
def slices_Compact_sl_ar2_int_ar2_int_24 : XCode := .seq slices_Compact_sl_ar2_int_ar2_int_21 (.keep [0, 3] slices_Compact_sl_ar2_int_ar2_int_23)
def slices_Compact_sl_ar2_int_ar2_int_25 : XCode := .seq slices_Compact_sl_ar2_int_ar2_int_20 (.keep [0, 3] slices_Compact_sl_ar2_int_ar2_int_24)
def slices_Compact_sl_ar2_int_ar2_int_26 : XCode := .seq slices_Compact_sl_ar2_int_ar2_int_7 (.keep [0, 3, 4] slices_Compact_sl_ar2_int_ar2_int_25)
def slices_Compact_sl_ar2_int_ar2_int_27 : XCode := .cond (.t 25) slices_Compact_sl_ar2_int_ar2_int_26 .skip
def slices_Compact_sl_ar2_int_ar2_int_28 : XCode := .seq slices_Compact_sl_ar2_int_ar2_int_6 (.keep [0, 3, 25] slices_Compact_sl_ar2_int_ar2_int_27)
def slices_Compact_sl_ar2_int_ar2_int_29 : XCode := .region [⟨(some 14), .rd (.mov (.t 3)), none, [], false⟩,
  ⟨(some 15), .rd (.bin .add .other (.t 14) (.c (.int .i64 1))), none, [], false⟩,
  ⟨(some 3), .rd (.mov (.t 15)), none, [], false⟩]
def slices_Compact_sl_ar2_int_ar2_int_30 : XCode := .seq (.block 1 slices_Compact_sl_ar2_int_ar2_int_28) (.keep [0, 3] slices_Compact_sl_ar2_int_ar2_int_29)
def slices_Compact_sl_ar2_int_ar2_int_31 : XCode := .seq slices_Compact_sl_ar2_int_ar2_int_5 (.keep [0, 3] slices_Compact_sl_ar2_int_ar2_int_30)
def slices_Compact_sl_ar2_int_ar2_int_32 : XCode := .seq (.region [⟨(some 3), .rd (.mov (.c (.int .i64 1))), none, [], false⟩]) (.block 0 (.loop [0, 3] slices_Compact_sl_ar2_int_ar2_int_31))
def slices_Compact_sl_ar2_int_ar2_int_33 : XCode := .seq (.region [⟨(some 60), .rd (.mov (.t 0)), none, [], false⟩,
  ⟨(some 2), .rd (.mov (.t 60)), none, [], false⟩]) .ret
def slices_Compact_sl_ar2_int_ar2_int_34 : XCode := .seq slices_Compact_sl_ar2_int_ar2_int_32 (.keep [0] slices_Compact_sl_ar2_int_ar2_int_33)
def slices_Compact_sl_ar2_int_ar2_int_35 : XCode := .seq slices_Compact_sl_ar2_int_ar2_int_2 (.keep [0] slices_Compact_sl_ar2_int_ar2_int_34)
def slices_Compact_sl_ar2_int_ar2_int_36 : XCode := .seq (.region [⟨(some 2), .rd (.mov (.c (.nilslice))), none, [], false⟩]) slices_Compact_sl_ar2_int_ar2_int_35
def slices_Compact_sl_ar2_int_ar2_int : XFun := ⟨1, slices_Compact_sl_ar2_int_ar2_int_36, [.tmp 2]⟩
theorem slices_Compact_sl_ar2_int_ar2_int_ok : FunOk Tryz.prog slices_Compact_sl_ar2_int_ar2_int_id slices_Compact_sl_ar2_int_ar2_int := compFun_ok rfl E_ok (by kernel_rfl)

/-! ## 83 slices.ContainsFunc[[]antecedent/api.Literal,antecedent/api.Literal] -/
def slices_ContainsFunc_api_Literal_0 : XCode := .region [⟨(some 5), .rd (.mov (.t 0)), none, [], false⟩,
  ⟨(some 6), .rd (.mov (.t 1)), none, [], false⟩,
  ⟨(some 7), .call slices_IndexFunc_api_Literal_id [.t 5, .t 6], none, [], false⟩,
  ⟨(some 8), .rd (.bin .geq .other (.t 7) (.c (.int .i64 0))), none, [], false⟩,
  ⟨(some 4), .rd (.mov (.t 8)), none, [], false⟩]
def slices_ContainsFunc_api_Literal_1 : XCode := .seq slices_ContainsFunc_api_Literal_0 .ret
def slices_ContainsFunc_api_Literal_2 : XCode := .seq (.region [⟨(some 4), .rd (.mov (.c (.bool false))), none, [], false⟩]) slices_ContainsFunc_api_Literal_1
def slices_ContainsFunc_api_Literal : XFun := ⟨2, slices_ContainsFunc_api_Literal_2, [.tmp 4]⟩
theorem slices_ContainsFunc_api_Literal_ok : FunOk Tryz.prog slices_ContainsFunc_api_Literal_id slices_ContainsFunc_api_Literal := compFun_ok rfl E_ok (by kernel_rfl)

/-! ## 84 antecedent/adorn.closed$1 -/
def adorn_closed_f1_0 : XCode := .region [⟨(some 3), .rd (.off 0 (.t 1)), none, [], false⟩,
  ⟨(some 4), .rd (.load 1 false (.t 3)), none, [], false⟩,
  ⟨(some 5), .rd (.bin .eql .other (.t 4) (.c (.int .i64 2))), none, [], false⟩,
  ⟨(some 6), .rd (.mov (.t 5)), none, [], false⟩,
  ⟨(some 7), .rd (.off 0 (.t 1)), (some (6, false)), [], false⟩,
  ⟨(some 8), .rd (.load 1 false (.t 7)), (some (6, false)), [], false⟩,
  ⟨(some 9), .rd (.bin .eql .other (.t 8) (.c (.int .i64 5))), (some (6, false)), [], false⟩,
  ⟨(some 10), .rd (.pick (.t 6) (.c (.bool true)) (.t 9)), none, [], false⟩,
  ⟨(some 2), .rd (.mov (.t 10)), none, [], false⟩]
def adorn_closed_f1_1 : XCode := .seq adorn_closed_f1_0 .ret
def adorn_closed_f1_2 : XCode := .seq (.region [⟨(some 1), .ef (.box T_api_Literal 17 (.t 0)), none, [], false⟩,
  ⟨(some 2), .rd (.mov (.c (.bool false))), none, [], false⟩]) adorn_closed_f1_1
def adorn_closed_f1 : XFun := ⟨1, adorn_closed_f1_2, [.tmp 2]⟩
theorem adorn_closed_f1_ok : FunOk Tryz.prog adorn_closed_f1_id adorn_closed_f1 := compFun_ok rfl E_ok (by kernel_rfl)

/-! ## 85 antecedent/comps.seen -/
def comps_seen_0 : XCode := .region [⟨(some 10), .rd (.mov (.t 0)), none, [], false⟩,
  ⟨(some 11), .rd (.lenL (.t 10)), none, [], false⟩,
  ⟨(some 12), .ef (.mkslice T_bool 1 1 [.bool false] (.t 11) (.t 11)), none, [], false⟩,
  ⟨(some 5), .rd (.mov (.t 12)), none, [], false⟩]
def comps_seen_1 : XCode := .region [⟨(some 13), .rd (.mov (.t 1)), none, [], false⟩,
  ⟨(some 14), .rd (.bin .geq .other (.t 13) (.c (.int .i64 0))), none, [], false⟩,
  ⟨(some 15), .rd (.mov (.t 14)), none, [], false⟩,
  ⟨(some 16), .rd (.mov (.t 1)), (some (15, true)), [], false⟩,
  ⟨(some 17), .rd (.mov (.t 0)), (some (15, true)), [], false⟩,
  ⟨(some 18), .rd (.lenL (.t 17)), (some (15, true)), [], false⟩,
  ⟨(some 19), .rd (.bin .lss .other (.t 16) (.t 18)), (some (15, true)), [], false⟩,
  ⟨(some 20), .rd (.pick (.t 15) (.t 19) (.c (.bool false))), none, [], false⟩]
def comps_seen_2 : XCode := .region [⟨(some 21), .rd (.mov (.t 6)), none, [], false⟩,
  ⟨(some 22), .rd (.mov (.t 1)), none, [], false⟩,
  ⟨(some 23), .ef (.buildSlice T_int 1 1 [.int .i64 0] [(0, 1, (.t 22))]), none, [], false⟩,
  ⟨(some 24), .ef (.append T_int 1 8 (.t 21) (.t 23)), none, [], false⟩,
  ⟨(some 6), .rd (.mov (.t 24)), none, [], false⟩]
def comps_seen_3 : XCode := .region [⟨(some 25), .rd (.mov (.t 5)), none, [], false⟩,
  ⟨(some 26), .rd (.mov (.t 1)), none, [], false⟩,
  ⟨(some 27), .rd (.idx 1 (.t 25) (.t 26)), none, [], false⟩,
  ⟨none, .ef (.store 1 (.t 27) (.c (.bool true))), none, [], false⟩]
def comps_seen_4 : XCode := .seq comps_seen_2 (.keep [0, 1, 5, 6] comps_seen_3)
def comps_seen_5 : XCode := .cond (.t 20) comps_seen_4 .skip
def comps_seen_6 : XCode := .seq comps_seen_1 (.keep [0, 1, 5, 6, 20] comps_seen_5)
def comps_seen_7 : XCode := .seq (.region [⟨(some 31), .rd (.mov (.t 5)), none, [], false⟩,
  ⟨(some 4), .rd (.mov (.t 31)), none, [], false⟩]) .ret
def comps_seen_8 : XCode := .cond (.t 30) comps_seen_7 .skip
def comps_seen_9 : XCode := .seq (.region [⟨(some 28), .rd (.mov (.t 6)), none, [], false⟩,
  ⟨(some 29), .rd (.lenL (.t 28)), none, [], false⟩,
  ⟨(some 30), .rd (.bin .eql .other (.t 29) (.c (.int .i64 0))), none, [], false⟩]) comps_seen_8
def comps_seen_10 : XCode := .region [⟨(some 32), .rd (.mov (.t 6)), none, [], false⟩,
  ⟨(some 33), .rd (.mov (.t 6)), none, [], false⟩,
  ⟨(some 34), .rd (.lenL (.t 33)), none, [], false⟩,
  ⟨(some 35), .rd (.bin .sub .other (.t 34) (.c (.int .i64 1))), none, [], false⟩,
  ⟨(some 36), .rd (.idx 1 (.t 32) (.t 35)), none, [], false⟩,
  ⟨(some 37), .rd (.load 1 false (.t 36)), none, [], false⟩,
  ⟨(some 7), .rd (.mov (.t 37)), none, [], false⟩]
def comps_seen_11 : XCode := .region [⟨(some 38), .rd (.mov (.t 6)), none, [], false⟩,
  ⟨(some 39), .rd (.mov (.t 6)), none, [], false⟩,
  ⟨(some 40), .rd (.lenL (.t 39)), none, [], false⟩,
  ⟨(some 41), .rd (.bin .sub .other (.t 40) (.c (.int .i64 1))), none, [], false⟩,
  ⟨(some 42), .rd (.slice 1 (.t 38) none (some (.t 41)) none), none, [], false⟩,
  ⟨(some 6), .rd (.mov (.t 42)), none, [], false⟩]
def comps_seen_12 : XCode := .region [⟨(some 43), .rd (.mov (.t 0)), none, [], false⟩,
  ⟨(some 44), .rd (.mov (.t 7)), none, [], false⟩,
  ⟨(some 45), .rd (.idx 1 (.t 43) (.t 44)), none, [], false⟩,
  ⟨(some 46), .rd (.load 1 false (.t 45)), none, [], false⟩,
  ⟨(some 47), .rd (.lenL (.t 46)), none, [], false⟩,
  ⟨(some 48), .rd (.mov (.c (.int .i64 0))), none, [], false⟩]
def comps_seen_13 : XCode := .cond (.t 49) .skip (.exit 0)
def comps_seen_14 : XCode := .region [⟨(some 52), .rd (.mov (.t 5)), none, [], false⟩,
  ⟨(some 53), .rd (.mov (.t 9)), none, [], false⟩,
  ⟨(some 54), .rd (.idx 1 (.t 52) (.t 53)), none, [], false⟩,
  ⟨(some 55), .rd (.load 1 false (.t 54)), none, [], false⟩,
  ⟨(some 56), .rd (.un .not (.t 55)), none, [], false⟩]
def comps_seen_15 : XCode := .region [⟨(some 57), .rd (.mov (.t 5)), none, [], false⟩,
  ⟨(some 58), .rd (.mov (.t 9)), none, [], false⟩,
  ⟨(some 59), .rd (.idx 1 (.t 57) (.t 58)), none, [], false⟩,
  ⟨none, .ef (.store 1 (.t 59) (.c (.bool true))), none, [], false⟩]
def comps_seen_16 : XCode := .region [⟨(some 60), .rd (.mov (.t 6)), none, [], false⟩,
  ⟨(some 61), .rd (.mov (.t 9)), none, [], false⟩,
  ⟨(some 62), .ef (.buildSlice T_int 1 1 [.int .i64 0] [(0, 1, (.t 61))]), none, [], false⟩,
  ⟨(some 63), .ef (.append T_int 1 8 (.t 60) (.t 62)), none, [], false⟩,
  ⟨(some 6), .rd (.mov (.t 63)), none, [], false⟩]
def comps_seen_17 : XCode := .seq comps_seen_15 (.keep [0, 5, 6, 9, 46, 47, 48] comps_seen_16)
def comps_seen_18 : XCode := .cond (.t 56) comps_seen_17 .skip
def comps_seen_19 : XCode := .seq comps_seen_14 (.keep [0, 5, 6, 9, 46, 47, 48, 56] comps_seen_18)
def comps_seen_20 : XCode := .seq (.region [⟨(some 50), .rd (.idx 1 (.t 46) (.t 48)), none, [], false⟩,
  ⟨(some 51), .rd (.load 1 false (.t 50)), none, [], false⟩,
  ⟨(some 9), .rd (.mov (.t 51)), none, [], false⟩]) comps_seen_19
def comps_seen_21 : XCode := .region [⟨(some 64), .rd (.bin .add .other (.t 48) (.c (.int .i64 1))), none, [], false⟩,
  ⟨(some 48), .rd (.mov (.t 64)), none, [], false⟩]
def comps_seen_22 : XCode := .seq (.block 1 comps_seen_20) (.keep [0, 5, 6, 46, 47, 48] comps_seen_21)
def comps_seen_23 : XCode := .seq comps_seen_13 (.keep [0, 5, 6, 46, 47, 48] comps_seen_22)
def comps_seen_24 : XCode := .seq (.region [⟨(some 49), .rd (.bin .lss .other (.t 48) (.t 47)), none, [], false⟩]) comps_seen_23
def comps_seen_25 : XCode := .seq comps_seen_12 (.keep [0, 5, 6, 46, 47, 48] (.block 0 (.loop [0, 5, 6, 46, 47, 48] comps_seen_24)))
def comps_seen_26 : XCode := .seq comps_seen_25 (.goto 0)
def comps_seen_27 : XCode := .seq comps_seen_11 (.keep [0, 5, 6, 7] comps_seen_26)
def comps_seen_28 : XCode := .seq comps_seen_10 (.keep [0, 5, 6, 7] comps_seen_27)
def comps_seen_29 : XCode := .seq comps_seen_9 (.keep [0, 5, 6] comps_seen_28)
def comps_seen_30 : XCode := .seq (.label 0) comps_seen_29
def comps_seen_31 : XCode := .seq comps_seen_6 (.keep [0, 5, 6] comps_seen_30)
def comps_seen_32 : XCode := .seq (.region [⟨(some 6), .rd (.mov (.c (.nilslice))), none, [], false⟩]) comps_seen_31
def comps_seen_33 : XCode := .seq comps_seen_0 (.keep [0, 1, 5] comps_seen_32)
def comps_seen_34 : XCode := .seq (.region [⟨(some 31), .rd (.mov (.t 5)), none, [], false⟩,
  ⟨(some 4), .rd (.mov (.t 31)), none, [], false⟩]) .ret
def comps_seen_35 : XCode := .cond (.t 30) comps_seen_34 .skip
def comps_seen_36 : XCode := .seq (.region [⟨(some 28), .rd (.mov (.t 6)), none, [], false⟩,
  ⟨(some 29), .rd (.lenL (.t 28)), none, [], false⟩,
  ⟨(some 30), .rd (.bin .eql .other (.t 29) (.c (.int .i64 0))), none, [], false⟩]) comps_seen_35
def comps_seen_37 : XCode := .region [⟨(some 32), .rd (.mov (.t 6)), none, [], false⟩,
  ⟨(some 33), .rd (.mov (.t 6)), none, [], false⟩,
  ⟨(some 34), .rd (.lenL (.t 33)), none, [], false⟩,
  ⟨(some 35), .rd (.bin .sub .other (.t 34) (.c (.int .i64 1))), none, [], false⟩,
  ⟨(some 36), .rd (.idx 1 (.t 32) (.t 35)), none, [], false⟩,
  ⟨(some 37), .rd (.load 1 false (.t 36)), none, [], false⟩,
  ⟨(some 7), .rd (.mov (.t 37)), none, [], false⟩]
def comps_seen_38 : XCode := .region [⟨(some 38), .rd (.mov (.t 6)), none, [], false⟩,
  ⟨(some 39), .rd (.mov (.t 6)), none, [], false⟩,
  ⟨(some 40), .rd (.lenL (.t 39)), none, [], false⟩,
  ⟨(some 41), .rd (.bin .sub .other (.t 40) (.c (.int .i64 1))), none, [], false⟩,
  ⟨(some 42), .rd (.slice 1 (.t 38) none (some (.t 41)) none), none, [], false⟩,
  ⟨(some 6), .rd (.mov (.t 42)), none, [], false⟩]
def comps_seen_39 : XCode := .region [⟨(some 43), .rd (.mov (.t 0)), none, [], false⟩,
  ⟨(some 44), .rd (.mov (.t 7)), none, [], false⟩,
  ⟨(some 45), .rd (.idx 1 (.t 43) (.t 44)), none, [], false⟩,
  ⟨(some 46), .rd (.load 1 false (.t 45)), none, [], false⟩,
  ⟨(some 47), .rd (.lenL (.t 46)), none, [], false⟩,
  ⟨(some 48), .rd (.mov (.c (.int .i64 0))), none, [], false⟩]
def comps_seen_40 : XCode := .cond (.t 49) .skip (.exit 0)
def comps_seen_41 : XCode := .region [⟨(some 52), .rd (.mov (.t 5)), none, [], false⟩,
  ⟨(some 53), .rd (.mov (.t 9)), none, [], false⟩,
  ⟨(some 54), .rd (.idx 1 (.t 52) (.t 53)), none, [], false⟩,
  ⟨(some 55), .rd (.load 1 false (.t 54)), none, [], false⟩,
  ⟨(some 56), .rd (.un .not (.t 55)), none, [], false⟩]
def comps_seen_42 : XCode := .region [⟨(some 57), .rd (.mov (.t 5)), none, [], false⟩,
  ⟨(some 58), .rd (.mov (.t 9)), none, [], false⟩,
  ⟨(some 59), .rd (.idx 1 (.t 57) (.t 58)), none, [], false⟩,
  ⟨none, .ef (.store 1 (.t 59) (.c (.bool true))), none, [], false⟩]
def comps_seen_43 : XCode := .region [⟨(some 60), .rd (.mov (.t 6)), none, [], false⟩,
  ⟨(some 61), .rd (.mov (.t 9)), none, [], false⟩,
  ⟨(some 62), .ef (.buildSlice T_int 1 1 [.int .i64 0] [(0, 1, (.t 61))]), none, [], false⟩,
  ⟨(some 63), .ef (.append T_int 1 8 (.t 60) (.t 62)), none, [], false⟩,
  ⟨(some 6), .rd (.mov (.t 63)), none, [], false⟩]
def comps_seen_44 : XCode := .seq comps_seen_42 (.keep [0, 5, 6, 9, 46, 47, 48] comps_seen_43)
def comps_seen_45 : XCode := .cond (.t 56) comps_seen_44 .skip
def comps_seen_46 : XCode := .seq comps_seen_41 (.keep [0, 5, 6, 9, 46, 47, 48, 56] comps_seen_45)
def comps_seen_47 : XCode := .seq (.region [⟨(some 50), .rd (.idx 1 (.t 46) (.t 48)), none, [], false⟩,
  ⟨(some 51), .rd (.load 1 false (.t 50)), none, [], false⟩,
  ⟨(some 9), .rd (.mov (.t 51)), none, [], false⟩]) comps_seen_46
def comps_seen_48 : XCode := .region [⟨(some 64), .rd (.bin .add .other (.t 48) (.c (.int .i64 1))), none, [], false⟩,
  ⟨(some 48), .rd (.mov (.t 64)), none, [], false⟩]
def comps_seen_49 : XCode := .seq (.block 1 comps_seen_47) (.keep [0, 5, 6, 46, 47, 48] comps_seen_48)
def comps_seen_50 : XCode := .seq comps_seen_40 (.keep [0, 5, 6, 46, 47, 48] comps_seen_49)
def comps_seen_51 : XCode := .seq (.region [⟨(some 49), .rd (.bin .lss .other (.t 48) (.t 47)), none, [], false⟩]) comps_seen_50
def comps_seen_52 : XCode := .seq comps_seen_39 (.keep [0, 5, 6, 46, 47, 48] (.block 0 (.loop [0, 5, 6, 46, 47, 48] comps_seen_51)))
def comps_seen_53 : XCode := .seq comps_seen_52 (.goto 0)
def comps_seen_54 : XCode := .seq comps_seen_38 (.keep [0, 5, 6, 7] comps_seen_53)
def comps_seen_55 : XCode := .seq comps_seen_37 (.keep [0, 5, 6, 7] comps_seen_54)
def comps_seen_56 : XCode := .seq comps_seen_36 (.keep [0, 5, 6] comps_seen_55)
def comps_seen_57 : XCode := .seq .skip comps_seen_56
def comps_seen_58 : XCode := .seq (.region [⟨(some 4), .rd (.mov (.c (.nilslice))), none, [], false⟩]) (.scope 0 [0, 5, 6] comps_seen_33 comps_seen_57)
def comps_seen : XFun := ⟨2, comps_seen_58, [.tmp 4]⟩
theorem comps_seen_ok : FunOk Tryz.prog comps_seen_id comps_seen := compFun_ok rfl E_ok (by kernel_rfl)

/-! ## 86 antecedent/comps.lists -/
def comps_lists_0 : XCode := .cond (.t 17) .skip (.exit 0)
def comps_lists_1 : XCode := .region [⟨(some 18), .rd (.idx 2 (.t 14) (.t 16)), none, [], false⟩,
  ⟨(some 19), .rd (.load 2 true (.t 18)), none, [], false⟩,
  ⟨(some 9), .ef (.new T_ar2_int 2 [.int .i64 0, .int .i64 0]), none, [], false⟩,
  ⟨none, .ef (.store 2 (.t 9) (.t 19)), none, [], false⟩]
def comps_lists_2 : XCode := .draw [⟨(some 20), .rd (.idxA 2 1 (.t 9) (.c (.int .i64 0))), none, [], false⟩,
  ⟨(some 21), .rd (.load 1 false (.t 20)), none, [0], false⟩,
  ⟨(some 22), .rd (.idxA 2 1 (.t 9) (.c (.int .i64 1))), none, [], false⟩,
  ⟨(some 23), .rd (.load 1 false (.t 22)), none, [2], false⟩,
  ⟨(some 10), .rd (.mov (.t 21)), none, [1, 0], false⟩,
  ⟨(some 11), .rd (.mov (.t 23)), none, [3, 4, 0, 1, 2], false⟩]
def comps_lists_3 : XCode := .region [⟨(some 25), .rd (.mov (.t 11)), none, [], false⟩,
  ⟨(some 26), .rd (.mov (.t 10)), none, [], false⟩,
  ⟨(some 10), .rd (.mov (.t 25)), none, [], false⟩,
  ⟨(some 11), .rd (.mov (.t 26)), none, [], false⟩]
def comps_lists_4 : XCode := .cond (.t 24) comps_lists_3 .skip
def comps_lists_5 : XCode := .seq (.region [⟨(some 24), .rd (.mov (.t 2)), none, [], false⟩]) comps_lists_4
def comps_lists_6 : XCode := .region [⟨(some 27), .rd (.mov (.t 10)), none, [], false⟩,
  ⟨(some 28), .rd (.mov (.t 11)), none, [], false⟩,
  ⟨(some 29), .rd (.min (.t 27) (.t 28)), none, [], false⟩,
  ⟨(some 30), .rd (.bin .geq .other (.t 29) (.c (.int .i64 0))), none, [], false⟩,
  ⟨(some 31), .rd (.mov (.t 30)), none, [], false⟩,
  ⟨(some 32), .rd (.mov (.t 10)), (some (31, true)), [], false⟩,
  ⟨(some 33), .rd (.mov (.t 11)), (some (31, true)), [], false⟩,
  ⟨(some 34), .rd (.max (.t 32) (.t 33)), (some (31, true)), [], false⟩,
  ⟨(some 35), .rd (.mov (.t 0)), (some (31, true)), [], false⟩,
  ⟨(some 36), .rd (.bin .lss .other (.t 34) (.t 35)), (some (31, true)), [], false⟩,
  ⟨(some 37), .rd (.pick (.t 31) (.t 36) (.c (.bool false))), none, [], false⟩]
def comps_lists_7 : XCode := .region [⟨(some 38), .rd (.mov (.t 7)), none, [], false⟩,
  ⟨(some 39), .rd (.mov (.t 10)), none, [], false⟩,
  ⟨(some 40), .rd (.mov (.t 7)), none, [], false⟩,
  ⟨(some 41), .rd (.mov (.t 10)), none, [], false⟩,
  ⟨(some 42), .rd (.idx 1 (.t 40) (.t 41)), none, [], false⟩,
  ⟨(some 43), .rd (.load 1 false (.t 42)), none, [], false⟩,
  ⟨(some 44), .rd (.mov (.t 11)), none, [], false⟩,
  ⟨(some 45), .ef (.buildSlice T_int 1 1 [.int .i64 0] [(0, 1, (.t 44))]), none, [], false⟩,
  ⟨(some 46), .ef (.append T_int 1 8 (.t 43) (.t 45)), none, [], false⟩,
  ⟨(some 47), .rd (.idx 1 (.t 38) (.t 39)), none, [], false⟩,
  ⟨none, .ef (.store 1 (.t 47) (.t 46)), none, [], false⟩]
def comps_lists_8 : XCode := .cond (.t 37) comps_lists_7 .skip
def comps_lists_9 : XCode := .seq comps_lists_6 (.keep [0, 2, 7, 10, 11, 14, 15, 16, 37] comps_lists_8)
def comps_lists_10 : XCode := .seq comps_lists_5 (.keep [0, 2, 7, 10, 11, 14, 15, 16] comps_lists_9)
def comps_lists_11 : XCode := .seq comps_lists_2 (.keep [0, 2, 7, 10, 11, 14, 15, 16] comps_lists_10)
def comps_lists_12 : XCode := .seq comps_lists_1 (.keep [0, 2, 7, 9, 14, 15, 16] comps_lists_11)
def comps_lists_13 : XCode := .region [⟨(some 48), .rd (.bin .add .other (.t 16) (.c (.int .i64 1))), none, [], false⟩,
  ⟨(some 16), .rd (.mov (.t 48)), none, [], false⟩]
def comps_lists_14 : XCode := .seq (.block 1 comps_lists_12) (.keep [0, 2, 7, 14, 15, 16] comps_lists_13)
def comps_lists_15 : XCode := .seq comps_lists_0 (.keep [0, 2, 7, 14, 15, 16] comps_lists_14)
def comps_lists_16 : XCode := .seq (.region [⟨(some 17), .rd (.bin .lss .other (.t 16) (.t 15)), none, [], false⟩]) comps_lists_15
def comps_lists_17 : XCode := .seq (.region [⟨(some 14), .rd (.mov (.t 1)), none, [], false⟩,
  ⟨(some 15), .rd (.lenL (.t 14)), none, [], false⟩,
  ⟨(some 16), .rd (.mov (.c (.int .i64 0))), none, [], false⟩]) (.block 0 (.loop [0, 2, 7, 14, 15, 16] comps_lists_16))
def comps_lists_18 : XCode := .seq (.region [⟨(some 49), .rd (.mov (.t 7)), none, [], false⟩,
  ⟨(some 6), .rd (.mov (.t 49)), none, [], false⟩]) .ret
def comps_lists_19 : XCode := .seq comps_lists_17 (.keep [7] comps_lists_18)
def comps_lists_20 : XCode := .seq (.region [⟨(some 12), .rd (.mov (.t 0)), none, [], false⟩,
  ⟨(some 13), .ef (.mkslice T_sl_int 1 24 [.nilslice] (.t 12) (.t 12)), none, [], false⟩,
  ⟨(some 7), .rd (.mov (.t 13)), none, [], false⟩]) comps_lists_19
def comps_lists_21 : XCode := .seq (.region [⟨(some 6), .rd (.mov (.c (.nilslice))), none, [], false⟩]) comps_lists_20
def comps_lists : XFun := ⟨3, comps_lists_21, [.tmp 6]⟩
theorem comps_lists_ok : FunOk Tryz.prog comps_lists_id comps_lists := compFun_ok rfl E_ok (by kernel_rfl)

/-! ## 87 antecedent/comps.held -/
def comps_held_0 : XCode := .region [⟨(some 3), .rd (.mov (.t 0)), none, [], false⟩,
  ⟨(some 4), .rd (.min (.t 3) (.c (.int .i64 1000))), none, [], false⟩,
  ⟨(some 5), .rd (.max (.c (.int .i64 0)) (.t 4)), none, [], false⟩,
  ⟨(some 2), .rd (.mov (.t 5)), none, [], false⟩]
def comps_held_1 : XCode := .seq comps_held_0 .ret
def comps_held_2 : XCode := .seq (.region [⟨(some 2), .rd (.mov (.c (.int .i64 0))), none, [], false⟩]) comps_held_1
def comps_held : XFun := ⟨1, comps_held_2, [.tmp 2]⟩
theorem comps_held_ok : FunOk Tryz.prog comps_held_id comps_held := compFun_ok rfl E_ok (by kernel_rfl)

/-! ## 88 slices.IndexFunc[[]int,int] -/
def slices_IndexFunc_int_0 : XCode := .cond (.t 9) .skip (.exit 0)
def slices_IndexFunc_int_1 : XCode := .region [⟨(some 11), .rd (.mov (.t 1)), none, [], false⟩,
  ⟨(some 12), .rd (.mov (.t 0)), none, [], false⟩,
  ⟨(some 13), .rd (.mov (.t 5)), none, [], false⟩,
  ⟨(some 14), .rd (.idx 1 (.t 12) (.t 13)), none, [], false⟩,
  ⟨(some 15), .rd (.load 1 false (.t 14)), none, [], false⟩,
  ⟨(some 16), .callv (.t 11) [.t 15], none, [], false⟩]
def slices_IndexFunc_int_2 : XCode := .seq (.region [⟨(some 17), .rd (.mov (.t 5)), none, [], false⟩,
  ⟨(some 4), .rd (.mov (.t 17)), none, [], false⟩]) .ret
def slices_IndexFunc_int_3 : XCode := .cond (.t 16) slices_IndexFunc_int_2 .skip
def slices_IndexFunc_int_4 : XCode := .seq slices_IndexFunc_int_1 (.keep [0, 1, 5, 7, 8, 16] slices_IndexFunc_int_3)
def slices_IndexFunc_int_5 : XCode := .seq (.region [⟨(some 10), .rd (.mov (.t 8)), none, [], false⟩,
  ⟨(some 5), .rd (.mov (.t 10)), none, [], false⟩]) slices_IndexFunc_int_4
def slices_IndexFunc_int_6 : XCode := .region [⟨(some 18), .rd (.bin .add .other (.t 8) (.c (.int .i64 1))), none, [], false⟩,
  ⟨(some 8), .rd (.mov (.t 18)), none, [], false⟩]
def slices_IndexFunc_int_7 : XCode := .seq (.block 1 slices_IndexFunc_int_5) (.keep [0, 1, 7, 8] slices_IndexFunc_int_6)
def slices_IndexFunc_int_8 : XCode := .seq slices_IndexFunc_int_0 (.keep [0, 1, 7, 8] slices_IndexFunc_int_7)
def slices_IndexFunc_int_9 : XCode := .seq (.region [⟨(some 9), .rd (.bin .lss .other (.t 8) (.t 7)), none, [], false⟩]) slices_IndexFunc_int_8
def slices_IndexFunc_int_10 : XCode := .seq (.region [⟨(some 6), .rd (.mov (.t 0)), none, [], false⟩,
  ⟨(some 7), .rd (.lenL (.t 6)), none, [], false⟩,
  ⟨(some 8), .rd (.mov (.c (.int .i64 0))), none, [], false⟩]) (.block 0 (.loop [0, 1, 7, 8] slices_IndexFunc_int_9))
def slices_IndexFunc_int_11 : XCode := .seq (.region [⟨(some 4), .rd (.mov (.c (.int .i64 (-1)))), none, [], false⟩]) .ret
def slices_IndexFunc_int_12 : XCode := .seq slices_IndexFunc_int_10 (.keep [] slices_IndexFunc_int_11)
def slices_IndexFunc_int_13 : XCode := .seq (.region [⟨(some 4), .rd (.mov (.c (.int .i64 0))), none, [], false⟩]) slices_IndexFunc_int_12
def slices_IndexFunc_int : XFun := ⟨2, slices_IndexFunc_int_13, [.tmp 4]⟩
theorem slices_IndexFunc_int_ok : FunOk Tryz.prog slices_IndexFunc_int_id slices_IndexFunc_int := compFun_ok rfl E_ok (by kernel_rfl)

/-! ## 89 slices.Index[[]string,string] -/
def slices_Index_string_0 : XCode := .cond (.t 9) .skip (.exit 0)
def slices_Index_string_1 : XCode := .region [⟨(some 11), .rd (.mov (.t 1)), none, [], false⟩,
  ⟨(some 12), .rd (.mov (.t 0)), none, [], false⟩,
  ⟨(some 13), .rd (.mov (.t 5)), none, [], false⟩,
  ⟨(some 14), .rd (.idx 1 (.t 12) (.t 13)), none, [], false⟩,
  ⟨(some 15), .rd (.load 1 false (.t 14)), none, [], false⟩,
  ⟨(some 16), .rd (.bin .eql .other (.t 11) (.t 15)), none, [], false⟩]
def slices_Index_string_2 : XCode := .seq (.region [⟨(some 17), .rd (.mov (.t 5)), none, [], false⟩,
  ⟨(some 4), .rd (.mov (.t 17)), none, [], false⟩]) .ret
def slices_Index_string_3 : XCode := .cond (.t 16) slices_Index_string_2 .skip
def slices_Index_string_4 : XCode := .seq slices_Index_string_1 (.keep [0, 1, 5, 7, 8, 16] slices_Index_string_3)
def slices_Index_string_5 : XCode := .seq (.region [⟨(some 10), .rd (.mov (.t 8)), none, [], false⟩,
  ⟨(some 5), .rd (.mov (.t 10)), none, [], false⟩]) slices_Index_string_4
def slices_Index_string_6 : XCode := .region [⟨(some 18), .rd (.bin .add .other (.t 8) (.c (.int .i64 1))), none, [], false⟩,
  ⟨(some 8), .rd (.mov (.t 18)), none, [], false⟩]
def slices_Index_string_7 : XCode := .seq (.block 1 slices_Index_string_5) (.keep [0, 1, 7, 8] slices_Index_string_6)
def slices_Index_string_8 : XCode := .seq slices_Index_string_0 (.keep [0, 1, 7, 8] slices_Index_string_7)
def slices_Index_string_9 : XCode := .seq (.region [⟨(some 9), .rd (.bin .lss .other (.t 8) (.t 7)), none, [], false⟩]) slices_Index_string_8
def slices_Index_string_10 : XCode := .seq (.region [⟨(some 6), .rd (.mov (.t 0)), none, [], false⟩,
  ⟨(some 7), .rd (.lenL (.t 6)), none, [], false⟩,
  ⟨(some 8), .rd (.mov (.c (.int .i64 0))), none, [], false⟩]) (.block 0 (.loop [0, 1, 7, 8] slices_Index_string_9))
def slices_Index_string_11 : XCode := .seq (.region [⟨(some 4), .rd (.mov (.c (.int .i64 (-1)))), none, [], false⟩]) .ret
def slices_Index_string_12 : XCode := .seq slices_Index_string_10 (.keep [] slices_Index_string_11)
def slices_Index_string_13 : XCode := .seq (.region [⟨(some 4), .rd (.mov (.c (.int .i64 0))), none, [], false⟩]) slices_Index_string_12
def slices_Index_string : XFun := ⟨2, slices_Index_string_13, [.tmp 4]⟩
theorem slices_Index_string_ok : FunOk Tryz.prog slices_Index_string_id slices_Index_string := compFun_ok rfl E_ok (by kernel_rfl)

/-! ## 90 (*strings.Builder).WriteString -/
def p_strings_Builder_WriteString_0 : XCode := .region [⟨(some 8), .rd (.mov (.t 0)), none, [], false⟩,
  ⟨(some 9), .rd (.mov (.t 0)), none, [], false⟩,
  ⟨(some 10), .rd (.nilchk (.t 9)), none, [], false⟩,
  ⟨(some 11), .rd (.off 1 (.t 10)), none, [], false⟩,
  ⟨(some 12), .rd (.load 1 false (.t 11)), none, [], false⟩,
  ⟨(some 13), .rd (.mov (.t 1)), none, [], false⟩,
  ⟨(some 14), .ef (.appendS T_uint8 1 (.t 12) (.t 13)), none, [], false⟩,
  ⟨(some 15), .rd (.nilchk (.t 8)), none, [], false⟩,
  ⟨(some 16), .rd (.off 1 (.t 15)), none, [], false⟩,
  ⟨none, .ef (.store 1 (.t 16) (.t 14)), none, [], false⟩]
def p_strings_Builder_WriteString_1 : XCode := .region [⟨(some 17), .rd (.mov (.t 1)), none, [], false⟩,
  ⟨(some 18), .rd (.lenS (.t 17)), none, [], false⟩,
  ⟨(some 4), .rd (.mov (.t 18)), none, [], false⟩,
  ⟨(some 5), .rd (.mov (.c (.nilif))), none, [], false⟩]
def p_strings_Builder_WriteString_2 : XCode := .seq p_strings_Builder_WriteString_1 .ret
def p_strings_Builder_WriteString_3 : XCode := .seq p_strings_Builder_WriteString_0 (.keep [1] p_strings_Builder_WriteString_2)
def p_strings_Builder_WriteString_4 : XCode := .seq (.region [⟨(some 6), .rd (.mov (.t 0)), none, [], false⟩,
  ⟨(some 7), .call p_strings_Builder_copyCheck_id [.t 6], none, [], false⟩]) p_strings_Builder_WriteString_3
def p_strings_Builder_WriteString_5 : XCode := .seq (.region [⟨(some 4), .rd (.mov (.c (.int .i64 0))), none, [], false⟩,
  ⟨(some 5), .rd (.mov (.c (.nilif))), none, [], false⟩]) p_strings_Builder_WriteString_4
def p_strings_Builder_WriteString : XFun := ⟨2, p_strings_Builder_WriteString_5, [.tmp 4, .tmp 5]⟩
theorem p_strings_Builder_WriteString_ok : FunOk Tryz.prog p_strings_Builder_WriteString_id p_strings_Builder_WriteString := compFun_ok rfl E_ok (by kernel_rfl)

/-! ## 91 (*strings.Builder).String -/
def p_strings_Builder_String_0 : XCode := .draw [⟨(some 3), .rd (.mov (.t 0)), none, [], false⟩,
  ⟨(some 4), .rd (.nilchk (.t 3)), none, [0], false⟩,
  ⟨(some 5), .rd (.off 1 (.t 4)), none, [1, 0], false⟩,
  ⟨(some 6), .rd (.load 1 false (.t 5)), none, [2, 1, 0], false⟩,
  ⟨(some 7), .rd (.usd (.t 6)), none, [3, 2, 1, 0], false⟩,
  ⟨(some 8), .rd (.mov (.t 0)), none, [], false⟩,
  ⟨(some 9), .rd (.nilchk (.t 8)), none, [5], false⟩,
  ⟨(some 10), .rd (.off 1 (.t 9)), none, [6, 5], false⟩,
  ⟨(some 11), .rd (.load 1 false (.t 10)), none, [7, 6, 5], false⟩,
  ⟨(some 12), .rd (.lenL (.t 11)), none, [8, 7, 6, 5], false⟩,
  ⟨(some 13), .ef (.ustr T_uint8 (.t 7) (.t 12)), none, [4, 9, 3, 2, 1, 0, 8, 7, 6, 5], false⟩,
  ⟨(some 2), .rd (.mov (.t 13)), none, [10, 0, 1, 2, 3, 4, 5, 6, 7, 8, 9], false⟩]
def p_strings_Builder_String_1 : XCode := .seq p_strings_Builder_String_0 .ret
def p_strings_Builder_String_2 : XCode := .seq (.region [⟨(some 2), .rd (.mov (.c (.str []))), none, [], false⟩]) p_strings_Builder_String_1
def p_strings_Builder_String : XFun := ⟨1, p_strings_Builder_String_2, [.tmp 2]⟩
theorem p_strings_Builder_String_ok : FunOk Tryz.prog p_strings_Builder_String_id p_strings_Builder_String := compFun_ok rfl E_ok (by kernel_rfl)

/-! ## 92 slices.Index[[]antecedent/adorn.Demand,antecedent/adorn.Demand] -/
def slices_Index_adorn_Demand_0 : XCode := .cond (.t 9) .skip (.exit 0)
def slices_Index_adorn_Demand_1 : XCode := .draw [⟨(some 11), .rd (.load 2 true (.t 3)), none, [], false⟩,
  ⟨(some 12), .rd (.mov (.t 0)), none, [], false⟩,
  ⟨(some 13), .rd (.mov (.t 5)), none, [], false⟩,
  ⟨(some 14), .rd (.idx 2 (.t 12) (.t 13)), none, [1, 2], false⟩,
  ⟨(some 15), .rd (.load 2 true (.t 14)), none, [3, 1, 2], false⟩,
  ⟨(some 16), .rd (.eqc false [.str, .str] (.t 11) (.t 15)), none, [0, 4, 3, 1, 2], false⟩]
def slices_Index_adorn_Demand_2 : XCode := .seq (.region [⟨(some 17), .rd (.mov (.t 5)), none, [], false⟩,
  ⟨(some 4), .rd (.mov (.t 17)), none, [], false⟩]) .ret
def slices_Index_adorn_Demand_3 : XCode := .cond (.t 16) slices_Index_adorn_Demand_2 .skip
def slices_Index_adorn_Demand_4 : XCode := .seq slices_Index_adorn_Demand_1 (.keep [0, 3, 5, 7, 8, 16] slices_Index_adorn_Demand_3)
def slices_Index_adorn_Demand_5 : XCode := .seq (.region [⟨(some 10), .rd (.mov (.t 8)), none, [], false⟩,
  ⟨(some 5), .rd (.mov (.t 10)), none, [], false⟩]) slices_Index_adorn_Demand_4
def slices_Index_adorn_Demand_6 : XCode := .region [⟨(some 18), .rd (.bin .add .other (.t 8) (.c (.int .i64 1))), none, [], false⟩,
  ⟨(some 8), .rd (.mov (.t 18)), none, [], false⟩]
def slices_Index_adorn_Demand_7 : XCode := .seq (.block 1 slices_Index_adorn_Demand_5) (.keep [0, 3, 7, 8] slices_Index_adorn_Demand_6)
def slices_Index_adorn_Demand_8 : XCode := .seq slices_Index_adorn_Demand_0 (.keep [0, 3, 7, 8] slices_Index_adorn_Demand_7)
def slices_Index_adorn_Demand_9 : XCode := .seq (.region [⟨(some 9), .rd (.bin .lss .other (.t 8) (.t 7)), none, [], false⟩]) slices_Index_adorn_Demand_8
def slices_Index_adorn_Demand_10 : XCode := .seq (.region [⟨(some 6), .rd (.mov (.t 0)), none, [], false⟩,
  ⟨(some 7), .rd (.lenL (.t 6)), none, [], false⟩,
  ⟨(some 8), .rd (.mov (.c (.int .i64 0))), none, [], false⟩]) (.block 0 (.loop [0, 3, 7, 8] slices_Index_adorn_Demand_9))
def slices_Index_adorn_Demand_11 : XCode := .seq (.region [⟨(some 4), .rd (.mov (.c (.int .i64 (-1)))), none, [], false⟩]) .ret
def slices_Index_adorn_Demand_12 : XCode := .seq slices_Index_adorn_Demand_10 (.keep [] slices_Index_adorn_Demand_11)
def slices_Index_adorn_Demand_13 : XCode := .seq (.region [⟨(some 3), .ef (.box T_adorn_Demand 2 (.t 1)), none, [], false⟩,
  ⟨(some 4), .rd (.mov (.c (.int .i64 0))), none, [], false⟩]) slices_Index_adorn_Demand_12
def slices_Index_adorn_Demand : XFun := ⟨2, slices_Index_adorn_Demand_13, [.tmp 4]⟩
theorem slices_Index_adorn_Demand_ok : FunOk Tryz.prog slices_Index_adorn_Demand_id slices_Index_adorn_Demand := compFun_ok rfl E_ok (by kernel_rfl)

/-! ## 93 antecedent/safe.names -/
def safe_names_0 : XCode := .cond (.t 13) .skip (.exit 0)
def safe_names_1 : XCode := .region [⟨(some 14), .rd (.idx 4 (.t 10) (.t 12)), none, [], false⟩,
  ⟨(some 15), .rd (.load 4 true (.t 14)), none, [], false⟩,
  ⟨(some 7), .ef (.new T_api_Term 4 [.str [], .int .i64 0, .int .i64 0, .str []]), none, [], false⟩,
  ⟨none, .ef (.store 4 (.t 7) (.t 15)), none, [], false⟩]
def safe_names_2 : XCode := .region [⟨(some 19), .rd (.mov (.t 5)), none, [], false⟩,
  ⟨(some 20), .rd (.off 0 (.t 7)), none, [], false⟩,
  ⟨(some 21), .rd (.load 1 false (.t 20)), none, [], false⟩,
  ⟨(some 22), .ef (.buildSlice T_string 1 1 [.str []] [(0, 1, (.t 21))]), none, [], false⟩,
  ⟨(some 23), .ef (.append T_string 1 16 (.t 19) (.t 22)), none, [], false⟩,
  ⟨(some 5), .rd (.mov (.t 23)), none, [], false⟩]
def safe_names_3 : XCode := .cond (.t 18) safe_names_2 .skip
def safe_names_4 : XCode := .seq (.region [⟨(some 16), .rd (.off 0 (.t 7)), none, [], false⟩,
  ⟨(some 17), .rd (.load 1 false (.t 16)), none, [], false⟩,
  ⟨(some 18), .rd (.bin .neq .other (.t 17) (.c (.str []))), none, [], false⟩]) safe_names_3
def safe_names_5 : XCode := .seq safe_names_1 (.keep [5, 7, 10, 11, 12] safe_names_4)
def safe_names_6 : XCode := .region [⟨(some 24), .rd (.bin .add .other (.t 12) (.c (.int .i64 1))), none, [], false⟩,
  ⟨(some 12), .rd (.mov (.t 24)), none, [], false⟩]
def safe_names_7 : XCode := .seq (.block 1 safe_names_5) (.keep [5, 10, 11, 12] safe_names_6)
def safe_names_8 : XCode := .seq safe_names_0 (.keep [5, 10, 11, 12] safe_names_7)
def safe_names_9 : XCode := .seq (.region [⟨(some 13), .rd (.bin .lss .other (.t 12) (.t 11)), none, [], false⟩]) safe_names_8
def safe_names_10 : XCode := .seq (.region [⟨(some 10), .rd (.mov (.t 0)), none, [], false⟩,
  ⟨(some 11), .rd (.lenL (.t 10)), none, [], false⟩,
  ⟨(some 12), .rd (.mov (.c (.int .i64 0))), none, [], false⟩]) (.block 0 (.loop [5, 10, 11, 12] safe_names_9))
def safe_names_11 : XCode := .seq (.region [⟨(some 27), .rd (.mov (.t 5)), none, [], false⟩,
  ⟨(some 28), .call slices_Compact_string_id [.t 27], none, [], false⟩,
  ⟨(some 4), .rd (.mov (.t 28)), none, [], false⟩]) .ret
def safe_names_12 : XCode := .seq (.region [⟨(some 25), .rd (.mov (.t 5)), none, [], false⟩,
  ⟨(some 26), .call slices_Sort_string_id [.t 25], none, [], false⟩]) safe_names_11
def safe_names_13 : XCode := .seq safe_names_10 (.keep [5] safe_names_12)
def safe_names_14 : XCode := .seq (.region [⟨(some 8), .rd (.mov (.t 1)), none, [], false⟩,
  ⟨(some 9), .call slices_Clone_string_id [.t 8], none, [], false⟩,
  ⟨(some 5), .rd (.mov (.t 9)), none, [], false⟩]) safe_names_13
def safe_names_15 : XCode := .seq (.region [⟨(some 4), .rd (.mov (.c (.nilslice))), none, [], false⟩]) safe_names_14
def safe_names : XFun := ⟨2, safe_names_15, [.tmp 4]⟩
theorem safe_names_ok : FunOk Tryz.prog safe_names_id safe_names := compFun_ok rfl E_ok (by kernel_rfl)

/-! ## 94 antecedent/safe.terms -/
def safe_terms_0 : XCode := .region [⟨(some 3), .rd (.off 1 (.t 1)), none, [], false⟩,
  ⟨(some 4), .rd (.off 1 (.t 3)), none, [], false⟩,
  ⟨(some 5), .rd (.load 1 false (.t 4)), none, [], false⟩,
  ⟨(some 6), .rd (.off 4 (.t 1)), none, [], false⟩,
  ⟨(some 7), .rd (.load 4 true (.t 6)), none, [], false⟩,
  ⟨(some 8), .rd (.off 8 (.t 1)), none, [], false⟩,
  ⟨(some 9), .rd (.load 4 true (.t 8)), none, [], false⟩,
  ⟨(some 10), .rd (.off 12 (.t 1)), none, [], false⟩,
  ⟨(some 11), .rd (.load 4 true (.t 10)), none, [], false⟩,
  ⟨(some 12), .ef (.buildSlice T_api_Term 4 3 [.str [], .int .i64 0, .int .i64 0, .str []] [(0, 4, (.t 7)), (4, 4, (.t 9)), (8, 4, (.t 11))]), none, [], false⟩,
  ⟨(some 13), .ef (.buildSlice T_sl_api_Term 1 2 [.nilslice] [(0, 1, (.t 5)), (1, 1, (.t 12))]), none, [], false⟩,
  ⟨(some 14), .call slices_Concat_api_Term_id [.t 13], none, [], false⟩,
  ⟨(some 2), .rd (.mov (.t 14)), none, [], false⟩]
def safe_terms_1 : XCode := .seq safe_terms_0 .ret
def safe_terms_2 : XCode := .seq (.region [⟨(some 1), .ef (.box T_api_Literal 17 (.t 0)), none, [], false⟩,
  ⟨(some 2), .rd (.mov (.c (.nilslice))), none, [], false⟩]) safe_terms_1
def safe_terms : XFun := ⟨1, safe_terms_2, [.tmp 2]⟩
theorem safe_terms_ok : FunOk Tryz.prog safe_terms_id safe_terms := compFun_ok rfl E_ok (by kernel_rfl)

/-! ## 95 slices.IndexFunc[[]antecedent/adorn.Demand,antecedent/adorn.Demand] -/
def slices_IndexFunc_adorn_Demand_0 : XCode := .cond (.t 9) .skip (.exit 0)
def slices_IndexFunc_adorn_Demand_1 : XCode := .region [⟨(some 11), .rd (.mov (.t 1)), none, [], false⟩,
  ⟨(some 12), .rd (.mov (.t 0)), none, [], false⟩,
  ⟨(some 13), .rd (.mov (.t 5)), none, [], false⟩,
  ⟨(some 14), .rd (.idx 2 (.t 12) (.t 13)), none, [], false⟩,
  ⟨(some 15), .rd (.load 2 true (.t 14)), none, [], false⟩,
  ⟨(some 16), .callv (.t 11) [.t 15], none, [], false⟩]
def slices_IndexFunc_adorn_Demand_2 : XCode := .seq (.region [⟨(some 17), .rd (.mov (.t 5)), none, [], false⟩,
  ⟨(some 4), .rd (.mov (.t 17)), none, [], false⟩]) .ret
def slices_IndexFunc_adorn_Demand_3 : XCode := .cond (.t 16) slices_IndexFunc_adorn_Demand_2 .skip
def slices_IndexFunc_adorn_Demand_4 : XCode := .seq slices_IndexFunc_adorn_Demand_1 (.keep [0, 1, 5, 7, 8, 16] slices_IndexFunc_adorn_Demand_3)
def slices_IndexFunc_adorn_Demand_5 : XCode := .seq (.region [⟨(some 10), .rd (.mov (.t 8)), none, [], false⟩,
  ⟨(some 5), .rd (.mov (.t 10)), none, [], false⟩]) slices_IndexFunc_adorn_Demand_4
def slices_IndexFunc_adorn_Demand_6 : XCode := .region [⟨(some 18), .rd (.bin .add .other (.t 8) (.c (.int .i64 1))), none, [], false⟩,
  ⟨(some 8), .rd (.mov (.t 18)), none, [], false⟩]
def slices_IndexFunc_adorn_Demand_7 : XCode := .seq (.block 1 slices_IndexFunc_adorn_Demand_5) (.keep [0, 1, 7, 8] slices_IndexFunc_adorn_Demand_6)
def slices_IndexFunc_adorn_Demand_8 : XCode := .seq slices_IndexFunc_adorn_Demand_0 (.keep [0, 1, 7, 8] slices_IndexFunc_adorn_Demand_7)
def slices_IndexFunc_adorn_Demand_9 : XCode := .seq (.region [⟨(some 9), .rd (.bin .lss .other (.t 8) (.t 7)), none, [], false⟩]) slices_IndexFunc_adorn_Demand_8
def slices_IndexFunc_adorn_Demand_10 : XCode := .seq (.region [⟨(some 6), .rd (.mov (.t 0)), none, [], false⟩,
  ⟨(some 7), .rd (.lenL (.t 6)), none, [], false⟩,
  ⟨(some 8), .rd (.mov (.c (.int .i64 0))), none, [], false⟩]) (.block 0 (.loop [0, 1, 7, 8] slices_IndexFunc_adorn_Demand_9))
def slices_IndexFunc_adorn_Demand_11 : XCode := .seq (.region [⟨(some 4), .rd (.mov (.c (.int .i64 (-1)))), none, [], false⟩]) .ret
def slices_IndexFunc_adorn_Demand_12 : XCode := .seq slices_IndexFunc_adorn_Demand_10 (.keep [] slices_IndexFunc_adorn_Demand_11)
def slices_IndexFunc_adorn_Demand_13 : XCode := .seq (.region [⟨(some 4), .rd (.mov (.c (.int .i64 0))), none, [], false⟩]) slices_IndexFunc_adorn_Demand_12
def slices_IndexFunc_adorn_Demand : XFun := ⟨2, slices_IndexFunc_adorn_Demand_13, [.tmp 4]⟩
theorem slices_IndexFunc_adorn_Demand_ok : FunOk Tryz.prog slices_IndexFunc_adorn_Demand_id slices_IndexFunc_adorn_Demand := compFun_ok rfl E_ok (by kernel_rfl)

/-! ## 96 antecedent/adorn.Use$1 -/
def adorn_Use_f1_0 : XCode := .region [⟨(some 4), .rd (.load 2 true (.t 2)), none, [], false⟩,
  ⟨(some 5), .rd (.load 2 true (.t 1)), none, [], false⟩,
  ⟨(some 6), .call adorn_Demand_covers_id [.t 4, .t 5], none, [], false⟩,
  ⟨(some 3), .rd (.mov (.t 6)), none, [], false⟩]
def adorn_Use_f1_1 : XCode := .seq adorn_Use_f1_0 .ret
def adorn_Use_f1_2 : XCode := .seq (.region [⟨(some 2), .ef (.box T_adorn_Demand 2 (.t 0)), none, [], false⟩,
  ⟨(some 3), .rd (.mov (.c (.bool false))), none, [], false⟩]) adorn_Use_f1_1
def adorn_Use_f1 : XFun := ⟨2, adorn_Use_f1_2, [.tmp 3]⟩
theorem adorn_Use_f1_ok : FunOk Tryz.prog adorn_Use_f1_id adorn_Use_f1 := compFun_ok rfl E_ok (by kernel_rfl)

/-! ## 97 antecedent/strata.Uses -/
def strata_Uses_0 : XCode := .region [⟨(some 10), .rd (.bin .eql .other (.t 7) (.c (.int .i64 2))), none, [], false⟩,
  ⟨(some 8), .rd (.mov (.t 10)), none, [], false⟩]
def strata_Uses_1 : XCode := .cond (.t 8) .skip strata_Uses_0
def strata_Uses_2 : XCode := .seq (.region [⟨(some 9), .rd (.bin .eql .other (.t 7) (.c (.int .i64 1))), none, [], false⟩,
  ⟨(some 8), .rd (.mov (.t 9)), none, [], false⟩]) strata_Uses_1
def strata_Uses_3 : XCode := .region [⟨(some 11), .rd (.mov (.t 3)), none, [], false⟩,
  ⟨(some 12), .rd (.off 1 (.t 1)), none, [], false⟩,
  ⟨(some 13), .rd (.off 0 (.t 12)), none, [], false⟩,
  ⟨(some 14), .rd (.load 1 false (.t 13)), none, [], false⟩,
  ⟨(some 15), .ef (.buildSlice T_string 1 1 [.str []] [(0, 1, (.t 14))]), none, [], false⟩,
  ⟨(some 16), .ef (.append T_string 1 16 (.t 11) (.t 15)), none, [], false⟩,
  ⟨(some 3), .rd (.mov (.t 16)), none, [], false⟩]
def strata_Uses_4 : XCode := .region [⟨(some 19), .rd (.off 16 (.t 1)), none, [], false⟩,
  ⟨(some 20), .rd (.load 1 false (.t 19)), none, [], false⟩,
  ⟨(some 21), .rd (.lenL (.t 20)), none, [], false⟩,
  ⟨(some 22), .rd (.mov (.c (.int .i64 0))), none, [], false⟩]
def strata_Uses_5 : XCode := .cond (.t 23) .skip (.exit 1)
def strata_Uses_6 : XCode := .region [⟨(some 24), .rd (.idx 2 (.t 20) (.t 22)), none, [], false⟩,
  ⟨(some 25), .rd (.load 2 true (.t 24)), none, [], false⟩,
  ⟨(some 5), .ef (.new T_api_Step 2 [.int .i64 0, .str []]), none, [], false⟩,
  ⟨none, .ef (.store 2 (.t 5) (.t 25)), none, [], false⟩]
def strata_Uses_7 : XCode := .region [⟨(some 29), .rd (.mov (.t 3)), none, [], false⟩,
  ⟨(some 30), .rd (.off 1 (.t 5)), none, [], false⟩,
  ⟨(some 31), .rd (.load 1 false (.t 30)), none, [], false⟩,
  ⟨(some 32), .ef (.buildSlice T_string 1 1 [.str []] [(0, 1, (.t 31))]), none, [], false⟩,
  ⟨(some 33), .ef (.append T_string 1 16 (.t 29) (.t 32)), none, [], false⟩,
  ⟨(some 3), .rd (.mov (.t 33)), none, [], false⟩]
def strata_Uses_8 : XCode := .cond (.t 28) strata_Uses_7 .skip
def strata_Uses_9 : XCode := .seq (.region [⟨(some 26), .rd (.off 1 (.t 5)), none, [], false⟩,
  ⟨(some 27), .rd (.load 1 false (.t 26)), none, [], false⟩,
  ⟨(some 28), .rd (.bin .neq .other (.t 27) (.c (.str []))), none, [], false⟩]) strata_Uses_8
def strata_Uses_10 : XCode := .seq strata_Uses_6 (.keep [3, 5, 20, 21, 22] strata_Uses_9)
def strata_Uses_11 : XCode := .region [⟨(some 34), .rd (.bin .add .other (.t 22) (.c (.int .i64 1))), none, [], false⟩,
  ⟨(some 22), .rd (.mov (.t 34)), none, [], false⟩]
def strata_Uses_12 : XCode := .seq (.block 2 strata_Uses_10) (.keep [3, 20, 21, 22] strata_Uses_11)
def strata_Uses_13 : XCode := .seq strata_Uses_5 (.keep [3, 20, 21, 22] strata_Uses_12)
def strata_Uses_14 : XCode := .seq (.region [⟨(some 23), .rd (.bin .lss .other (.t 22) (.t 21)), none, [], false⟩]) strata_Uses_13
def strata_Uses_15 : XCode := .seq strata_Uses_4 (.keep [3, 20, 21, 22] (.block 1 (.loop [3, 20, 21, 22] strata_Uses_14)))
def strata_Uses_16 : XCode := .cond (.t 17) strata_Uses_15 .skip
def strata_Uses_17 : XCode := .seq (.region [⟨(some 18), .rd (.bin .eql .other (.t 7) (.c (.int .i64 5))), none, [], false⟩,
  ⟨(some 17), .rd (.mov (.t 18)), none, [], false⟩]) strata_Uses_16
def strata_Uses_18 : XCode := .cond (.t 8) strata_Uses_3 strata_Uses_17
def strata_Uses_19 : XCode := .seq strata_Uses_2 (.keep [1, 3, 7, 8] strata_Uses_18)
def strata_Uses_20 : XCode := .seq (.region [⟨(some 6), .rd (.off 0 (.t 1)), none, [], false⟩,
  ⟨(some 7), .rd (.load 1 false (.t 6)), none, [], false⟩]) (.block 0 strata_Uses_19)
def strata_Uses_21 : XCode := .seq (.region [⟨(some 35), .rd (.mov (.t 3)), none, [], false⟩,
  ⟨(some 36), .call strata_sorted_id [.t 35], none, [], false⟩,
  ⟨(some 2), .rd (.mov (.t 36)), none, [], false⟩]) .ret
def strata_Uses_22 : XCode := .seq strata_Uses_20 (.keep [3] strata_Uses_21)
def strata_Uses_23 : XCode := .seq (.region [⟨(some 3), .rd (.mov (.c (.nilslice))), none, [], false⟩]) strata_Uses_22
def strata_Uses_24 : XCode := .seq (.region [⟨(some 1), .ef (.box T_api_Literal 17 (.t 0)), none, [], false⟩,
  ⟨(some 2), .rd (.mov (.c (.nilslice))), none, [], false⟩]) strata_Uses_23
def strata_Uses : XFun := ⟨1, strata_Uses_24, [.tmp 2]⟩
theorem strata_Uses_ok : FunOk Tryz.prog strata_Uses_id strata_Uses := compFun_ok rfl E_ok (by kernel_rfl)

/-! ## 98 slices.Sort[[]string,string] -/
def slices_Sort_string_0 : XCode := .region [⟨(some 5), .rd (.mov (.t 0)), none, [], false⟩,
  ⟨(some 6), .rd (.mov (.t 2)), none, [], false⟩,
  ⟨(some 7), .rd (.mov (.t 2)), none, [], false⟩,
  ⟨(some 8), .rd (.conv .u64 (.t 7)), none, [], false⟩,
  ⟨(some 9), .call math_bits_Len_id [.t 8], none, [], false⟩,
  ⟨(some 10), .call slices_pdqsortOrdered_string_id [.t 5, .c (.int .i64 0), .t 6, .t 9], none, [], false⟩]
def slices_Sort_string_1 : XCode := .seq (.region [⟨(some 3), .rd (.mov (.t 0)), none, [], false⟩,
  ⟨(some 4), .rd (.lenL (.t 3)), none, [], false⟩,
  ⟨(some 2), .rd (.mov (.t 4)), none, [], false⟩]) slices_Sort_string_0
def slices_Sort_string : XFun := ⟨1, slices_Sort_string_1, []⟩
theorem slices_Sort_string_ok : FunOk Tryz.prog slices_Sort_string_id slices_Sort_string := compFun_ok rfl E_ok (by kernel_rfl)

/-! ## 99 slices.Compact[[]string,string] -/
def slices_Compact_string_0 : XCode := .seq (.region [⟨(some 9), .rd (.mov (.t 0)), none, [], false⟩,
  ⟨(some 2), .rd (.mov (.t 9)), none, [], false⟩]) .ret
def slices_Compact_string_1 : XCode := .cond (.t 8) slices_Compact_string_0 .skip
def slices_Compact_string_2 : XCode := .seq (.region [⟨(some 6), .rd (.mov (.t 0)), none, [], false⟩,
  ⟨(some 7), .rd (.lenL (.t 6)), none, [], false⟩,
  ⟨(some 8), .rd (.bin .lss .other (.t 7) (.c (.int .i64 2))), none, [], false⟩]) slices_Compact_string_1
def slices_Compact_string_3 : XCode := .region [⟨(some 10), .rd (.mov (.t 3)), none, [], false⟩,
  ⟨(some 11), .rd (.mov (.t 0)), none, [], false⟩,
  ⟨(some 12), .rd (.lenL (.t 11)), none, [], false⟩,
  ⟨(some 13), .rd (.bin .lss .other (.t 10) (.t 12)), none, [], false⟩]
def slices_Compact_string_4 : XCode := .cond (.t 13) .skip (.exit 0)
def slices_Compact_string_5 : XCode := .seq slices_Compact_string_3 (.keep [0, 3, 13] slices_Compact_string_4)
def slices_Compact_string_6 : XCode := .draw [⟨(some 16), .rd (.mov (.t 0)), none, [], false⟩,
  ⟨(some 17), .rd (.mov (.t 3)), none, [], false⟩,
  ⟨(some 18), .rd (.idx 1 (.t 16) (.t 17)), none, [0, 1], false⟩,
  ⟨(some 19), .rd (.load 1 false (.t 18)), none, [2, 0, 1], false⟩,
  ⟨(some 20), .rd (.mov (.t 0)), none, [], false⟩,
  ⟨(some 21), .rd (.mov (.t 3)), none, [], false⟩,
  ⟨(some 22), .rd (.bin .sub .other (.t 21) (.c (.int .i64 1))), none, [5], false⟩,
  ⟨(some 23), .rd (.idx 1 (.t 20) (.t 22)), none, [4, 6, 5], false⟩,
  ⟨(some 24), .rd (.load 1 false (.t 23)), none, [7, 4, 6, 5], false⟩,
  ⟨(some 25), .rd (.bin .eql .other (.t 19) (.t 24)), none, [3, 8, 2, 0, 1, 7, 4, 6, 5], false⟩]
def slices_Compact_string_7 : XCode := .region [⟨(some 26), .rd (.mov (.t 0)), none, [], false⟩,
  ⟨(some 27), .rd (.mov (.t 3)), none, [], false⟩,
  ⟨(some 28), .rd (.slice 1 (.t 26) (some (.t 27)) none none), none, [], false⟩,
  ⟨(some 4), .rd (.mov (.t 28)), none, [], false⟩]
def slices_Compact_string_8 : XCode := .region [⟨(some 29), .rd (.mov (.t 5)), none, [], false⟩,
  ⟨(some 30), .rd (.mov (.t 4)), none, [], false⟩,
  ⟨(some 31), .rd (.lenL (.t 30)), none, [], false⟩,
  ⟨(some 32), .rd (.bin .lss .other (.t 29) (.t 31)), none, [], false⟩]
def slices_Compact_string_9 : XCode := .cond (.t 32) .skip (.exit 2)
def slices_Compact_string_10 : XCode := .seq slices_Compact_string_8 (.keep [0, 3, 4, 5, 32] slices_Compact_string_9)
def slices_Compact_string_11 : XCode := .draw [⟨(some 35), .rd (.mov (.t 4)), none, [], false⟩,
  ⟨(some 36), .rd (.mov (.t 5)), none, [], false⟩,
  ⟨(some 37), .rd (.idx 1 (.t 35) (.t 36)), none, [0, 1], false⟩,
  ⟨(some 38), .rd (.load 1 false (.t 37)), none, [2, 0, 1], false⟩,
  ⟨(some 39), .rd (.mov (.t 4)), none, [], false⟩,
  ⟨(some 40), .rd (.mov (.t 5)), none, [], false⟩,
  ⟨(some 41), .rd (.bin .sub .other (.t 40) (.c (.int .i64 1))), none, [5], false⟩,
  ⟨(some 42), .rd (.idx 1 (.t 39) (.t 41)), none, [4, 6, 5], false⟩,
  ⟨(some 43), .rd (.load 1 false (.t 42)), none, [7, 4, 6, 5], false⟩,
  ⟨(some 44), .rd (.bin .neq .other (.t 38) (.t 43)), none, [3, 8, 2, 0, 1, 7, 4, 6, 5], false⟩]
def slices_Compact_string_12 : XCode := .region [⟨(some 45), .rd (.mov (.t 0)), none, [], false⟩,
  ⟨(some 46), .rd (.mov (.t 3)), none, [], false⟩,
  ⟨(some 47), .rd (.mov (.t 4)), none, [], false⟩,
  ⟨(some 48), .rd (.mov (.t 5)), none, [], false⟩,
  ⟨(some 49), .rd (.idx 1 (.t 47) (.t 48)), none, [], false⟩,
  ⟨(some 50), .rd (.load 1 false (.t 49)), none, [], false⟩,
  ⟨(some 51), .rd (.idx 1 (.t 45) (.t 46)), none, [], false⟩,
  ⟨none, .ef (.store 1 (.t 51) (.t 50)), none, [], false⟩]
def slices_Compact_string_13 : XCode := .region [⟨(some 52), .rd (.mov (.t 3)), none, [], false⟩,
  ⟨(some 53), .rd (.bin .add .other (.t 52) (.c (.int .i64 1))), none, [], false⟩,
  ⟨(some 3), .rd (.mov (.t 53)), none, [], false⟩]
def slices_Compact_string_14 : XCode := .seq slices_Compact_string_12 (.keep [0, 3, 4, 5] slices_Compact_string_13)
def slices_Compact_string_15 : XCode := .cond (.t 44) slices_Compact_string_14 .skip
def slices_Compact_string_16 : XCode := .seq slices_Compact_string_11 (.keep [0, 3, 4, 5, 44] slices_Compact_string_15)
def slices_Compact_string_17 : XCode := .region [⟨(some 33), .rd (.mov (.t 5)), none, [], false⟩,
  ⟨(some 34), .rd (.bin .add .other (.t 33) (.c (.int .i64 1))), none, [], false⟩,
  ⟨(some 5), .rd (.mov (.t 34)), none, [], false⟩]
def slices_Compact_string_18 : XCode := .seq (.block 3 slices_Compact_string_16) (.keep [0, 3, 4, 5] slices_Compact_string_17)
def slices_Compact_string_19 : XCode := .seq slices_Compact_string_10 (.keep [0, 3, 4, 5] slices_Compact_string_18)
def slices_Compact_string_20 : XCode := .seq (.region [⟨(some 5), .rd (.mov (.c (.int .i64 1))), none, [], false⟩]) (.block 2 (.loop [0, 3, 4, 5] slices_Compact_string_19))
def slices_Compact_string_21 : XCode := .region [⟨(some 54), .rd (.mov (.t 0)), none, [], false⟩,
  ⟨(some 55), .rd (.mov (.t 3)), none, [], false⟩,
  ⟨(some 56), .rd (.slice 1 (.t 54) (some (.t 55)) none none), none, [], false⟩,
  ⟨none, .ef (.clear 1 [.str []] (.t 56)), none, [], false⟩]
def slices_Compact_string_22 : XCode := .region [⟨(some 57), .rd (.mov (.t 0)), none, [], false⟩,
  ⟨(some 58), .rd (.mov (.t 3)), none, [], false⟩,
  ⟨(some 59), .rd (.slice 1 (.t 57) none (some (.t 58)) none), none, [], false⟩,
  ⟨(some 2), .rd (.mov (.t 59)), none, [], false⟩]
def slices_Compact_string_23 : XCode := .seq slices_Compact_string_22 .ret
def slices_Compact_string_24 : XCode := .seq slices_Compact_string_21 (.keep [0, 3] slices_Compact_string_23)
def slices_Compact_string_25 : XCode := .seq slices_Compact_string_20 (.keep [0, 3] slices_Compact_string_24)
def slices_Compact_string_26 : XCode := .seq slices_Compact_string_7 (.keep [0, 3, 4] slices_Compact_string_25)
def slices_Compact_string_27 : XCode := .cond (.t 25) slices_Compact_string_26 .skip
def slices_Compact_string_28 : XCode := .seq slices_Compact_string_6 (.keep [0, 3, 25] slices_Compact_string_27)
def slices_Compact_string_29 : XCode := .region [⟨(some 14), .rd (.mov (.t 3)), none, [], false⟩,
  ⟨(some 15), .rd (.bin .add .other (.t 14) (.c (.int .i64 1))), none, [], false⟩,
  ⟨(some 3), .rd (.mov (.t 15)), none, [], false⟩]
def slices_Compact_string_30 : XCode := .seq (.block 1 slices_Compact_string_28) (.keep [0, 3] slices_Compact_string_29)
def slices_Compact_string_31 : XCode := .seq slices_Compact_string_5 (.keep [0, 3] slices_Compact_string_30)
def slices_Compact_string_32 : XCode := .seq (.region [⟨(some 3), .rd (.mov (.c (.int .i64 1))), none, [], false⟩]) (.block 0 (.loop [0, 3] slices_Compact_string_31))
def slices_Compact_string_33 : XCode := .seq (.region [⟨(some 60), .rd (.mov (.t 0)), none, [], false⟩,
  ⟨(some 2), .rd (.mov (.t 60)), none, [], false⟩]) .ret
def slices_Compact_string_34 : XCode := .seq slices_Compact_string_32 (.keep [0] slices_Compact_string_33)
def slices_Compact_string_35 : XCode := .seq slices_Compact_string_2 (.keep [0] slices_Compact_string_34)
def slices_Compact_string_36 : XCode := .seq (.region [⟨(some 2), .rd (.mov (.c (.nilslice))), none, [], false⟩]) slices_Compact_string_35
def slices_Compact_string : XFun := ⟨1, slices_Compact_string_36, [.tmp 2]⟩
theorem slices_Compact_string_ok : FunOk Tryz.prog slices_Compact_string_id slices_Compact_string := compFun_ok rfl E_ok (by kernel_rfl)

/-! ## 109 cmp.Less[string] -/
def cmp_Less_string_0 : XCode := .region [⟨(some 5), .rd (.mov (.t 0)), none, [], false⟩,
  ⟨(some 6), .call cmp_isNaN_string_id [.t 5], none, [], false⟩,
  ⟨(some 7), .rd (.mov (.t 6)), none, [], false⟩,
  ⟨(some 8), .rd (.mov (.t 1)), (some (7, true)), [], false⟩,
  ⟨(some 9), .call cmp_isNaN_string_id [.t 8], (some (7, true)), [], false⟩,
  ⟨(some 10), .rd (.un .not (.t 9)), (some (7, true)), [], false⟩,
  ⟨(some 11), .rd (.pick (.t 7) (.t 10) (.c (.bool false))), none, [], false⟩,
  ⟨(some 12), .rd (.mov (.t 11)), none, [], false⟩,
  ⟨(some 13), .rd (.mov (.t 0)), (some (12, false)), [], false⟩,
  ⟨(some 14), .rd (.mov (.t 1)), (some (12, false)), [], false⟩,
  ⟨(some 15), .rd (.bin .lss .other (.t 13) (.t 14)), (some (12, false)), [], false⟩,
  ⟨(some 16), .rd (.pick (.t 12) (.c (.bool true)) (.t 15)), none, [], false⟩,
  ⟨(some 4), .rd (.mov (.t 16)), none, [], false⟩]
def cmp_Less_string_1 : XCode := .seq cmp_Less_string_0 .ret
def cmp_Less_string_2 : XCode := .seq (.region [⟨(some 4), .rd (.mov (.c (.bool false))), none, [], false⟩]) cmp_Less_string_1
def cmp_Less_string : XFun := ⟨2, cmp_Less_string_2, [.tmp 4]⟩
theorem cmp_Less_string_ok : FunOk Tryz.prog cmp_Less_string_id cmp_Less_string := compFun_ok rfl E_ok (by kernel_rfl)

/-! ## 110 slices.isNaN[string] -/
def slices_isNaN_string_0 : XCode := .region [⟨(some 3), .rd (.mov (.t 0)), none, [], false⟩,
  ⟨(some 4), .rd (.mov (.t 0)), none, [], false⟩,
  ⟨(some 5), .rd (.bin .neq .other (.t 3) (.t 4)), none, [], false⟩,
  ⟨(some 2), .rd (.mov (.t 5)), none, [], false⟩]
def slices_isNaN_string_1 : XCode := .seq slices_isNaN_string_0 .ret
def slices_isNaN_string_2 : XCode := .seq (.region [⟨(some 2), .rd (.mov (.c (.bool false))), none, [], false⟩]) slices_isNaN_string_1
def slices_isNaN_string : XFun := ⟨1, slices_isNaN_string_2, [.tmp 2]⟩
theorem slices_isNaN_string_ok : FunOk Tryz.prog slices_isNaN_string_id slices_isNaN_string := compFun_ok rfl E_ok (by kernel_rfl)

/-! ## 111 slices.pdqsortCmpFunc[[2]int] -/
def slices_pdqsortCmpFunc_ar2_int_0 : XCode := .region [⟨(some 21), .rd (.mov (.t 2)), none, [], false⟩,
  ⟨(some 22), .rd (.mov (.t 1)), none, [], false⟩,
  ⟨(some 23), .rd (.bin .sub .other (.t 21) (.t 22)), none, [], false⟩,
  ⟨(some 12), .rd (.mov (.t 23)), none, [], false⟩]
def slices_pdqsortCmpFunc_ar2_int_1 : XCode := .region [⟨(some 26), .rd (.mov (.t 0)), none, [], false⟩,
  ⟨(some 27), .rd (.mov (.t 1)), none, [], false⟩,
  ⟨(some 28), .rd (.mov (.t 2)), none, [], false⟩,
  ⟨(some 29), .rd (.mov (.t 4)), none, [], false⟩,
  ⟨(some 30), .call slices_insertionSortCmpFunc_ar2_int_id [.t 26, .t 27, .t 28, .t 29], none, [], false⟩]
def slices_pdqsortCmpFunc_ar2_int_2 : XCode := .seq slices_pdqsortCmpFunc_ar2_int_1 .ret
def slices_pdqsortCmpFunc_ar2_int_3 : XCode := .cond (.t 25) slices_pdqsortCmpFunc_ar2_int_2 .skip
def slices_pdqsortCmpFunc_ar2_int_4 : XCode := .seq (.region [⟨(some 24), .rd (.mov (.t 12)), none, [], false⟩,
  ⟨(some 25), .rd (.bin .leq .other (.t 24) (.c (.int .i64 12))), none, [], false⟩]) slices_pdqsortCmpFunc_ar2_int_3
def slices_pdqsortCmpFunc_ar2_int_5 : XCode := .region [⟨(some 33), .rd (.mov (.t 0)), none, [], false⟩,
  ⟨(some 34), .rd (.mov (.t 1)), none, [], false⟩,
  ⟨(some 35), .rd (.mov (.t 2)), none, [], false⟩,
  ⟨(some 36), .rd (.mov (.t 4)), none, [], false⟩,
  ⟨(some 37), .call slices_heapSortCmpFunc_ar2_int_id [.t 33, .t 34, .t 35, .t 36], none, [], false⟩]
def slices_pdqsortCmpFunc_ar2_int_6 : XCode := .seq slices_pdqsortCmpFunc_ar2_int_5 .ret
def slices_pdqsortCmpFunc_ar2_int_7 : XCode := .cond (.t 32) slices_pdqsortCmpFunc_ar2_int_6 .skip
def slices_pdqsortCmpFunc_ar2_int_8 : XCode := .seq (.region [⟨(some 31), .rd (.mov (.t 3)), none, [], false⟩,
  ⟨(some 32), .rd (.bin .eql .other (.t 31) (.c (.int .i64 0))), none, [], false⟩]) slices_pdqsortCmpFunc_ar2_int_7
def slices_pdqsortCmpFunc_ar2_int_9 : XCode := .region [⟨(some 40), .rd (.mov (.t 0)), none, [], false⟩,
  ⟨(some 41), .rd (.mov (.t 1)), none, [], false⟩,
  ⟨(some 42), .rd (.mov (.t 2)), none, [], false⟩,
  ⟨(some 43), .rd (.mov (.t 4)), none, [], false⟩,
  ⟨(some 44), .call slices_breakPatternsCmpFunc_ar2_int_id [.t 40, .t 41, .t 42, .t 43], none, [], false⟩]
def slices_pdqsortCmpFunc_ar2_int_10 : XCode := .region [⟨(some 45), .rd (.mov (.t 3)), none, [], false⟩,
  ⟨(some 46), .rd (.bin .sub .other (.t 45) (.c (.int .i64 1))), none, [], false⟩,
  ⟨(some 3), .rd (.mov (.t 46)), none, [], false⟩]
def slices_pdqsortCmpFunc_ar2_int_11 : XCode := .seq slices_pdqsortCmpFunc_ar2_int_9 (.keep [0, 1, 2, 3, 4, 10, 11, 12] slices_pdqsortCmpFunc_ar2_int_10)
def slices_pdqsortCmpFunc_ar2_int_12 : XCode := .cond (.t 39) slices_pdqsortCmpFunc_ar2_int_11 .skip
def slices_pdqsortCmpFunc_ar2_int_13 : XCode := .seq (.region [⟨(some 38), .rd (.mov (.t 10)), none, [], false⟩,
  ⟨(some 39), .rd (.un .not (.t 38)), none, [], false⟩]) slices_pdqsortCmpFunc_ar2_int_12
def slices_pdqsortCmpFunc_ar2_int_14 : XCode := .region [⟨(some 48), .rd (.mov (.t 0)), none, [], false⟩,
  ⟨(some 49), .rd (.mov (.t 1)), none, [], false⟩,
  ⟨(some 50), .rd (.mov (.t 2)), none, [], false⟩,
  ⟨(some 51), .rd (.mov (.t 4)), none, [], false⟩,
  ⟨(some 52), .call slices_choosePivotCmpFunc_ar2_int_id [.t 48, .t 49, .t 50, .t 51], none, [], false⟩,
  ⟨(some 47), .rd (.mov (.t 52)), none, [], false⟩,
  ⟨(some 53), .rd (.extract 0 (.t 47)), none, [], false⟩,
  ⟨(some 54), .rd (.extract 1 (.t 47)), none, [], false⟩,
  ⟨(some 13), .rd (.mov (.t 53)), none, [], false⟩,
  ⟨(some 14), .rd (.mov (.t 54)), none, [], false⟩]
def slices_pdqsortCmpFunc_ar2_int_15 : XCode := .region [⟨(some 57), .rd (.mov (.t 0)), none, [], false⟩,
  ⟨(some 58), .rd (.mov (.t 1)), none, [], false⟩,
  ⟨(some 59), .rd (.mov (.t 2)), none, [], false⟩,
  ⟨(some 60), .rd (.mov (.t 4)), none, [], false⟩,
  ⟨(some 61), .call slices_reverseRangeCmpFunc_ar2_int_id [.t 57, .t 58, .t 59, .t 60], none, [], false⟩]
def slices_pdqsortCmpFunc_ar2_int_16 : XCode := .region [⟨(some 62), .rd (.mov (.t 2)), none, [], false⟩,
  ⟨(some 63), .rd (.bin .sub .other (.t 62) (.c (.int .i64 1))), none, [], false⟩,
  ⟨(some 64), .rd (.mov (.t 13)), none, [], false⟩,
  ⟨(some 65), .rd (.mov (.t 1)), none, [], false⟩,
  ⟨(some 66), .rd (.bin .sub .other (.t 64) (.t 65)), none, [], false⟩,
  ⟨(some 67), .rd (.bin .sub .other (.t 63) (.t 66)), none, [], false⟩,
  ⟨(some 13), .rd (.mov (.t 67)), none, [], false⟩]
def slices_pdqsortCmpFunc_ar2_int_17 : XCode := .region [⟨(some 14), .rd (.mov (.c (.int .i64 1))), none, [], false⟩]
def slices_pdqsortCmpFunc_ar2_int_18 : XCode := .seq slices_pdqsortCmpFunc_ar2_int_16 (.keep [0, 1, 2, 3, 4, 10, 11, 12, 13] slices_pdqsortCmpFunc_ar2_int_17)
def slices_pdqsortCmpFunc_ar2_int_19 : XCode := .seq slices_pdqsortCmpFunc_ar2_int_15 (.keep [0, 1, 2, 3, 4, 10, 11, 12, 13] slices_pdqsortCmpFunc_ar2_int_18)
def slices_pdqsortCmpFunc_ar2_int_20 : XCode := .cond (.t 56) slices_pdqsortCmpFunc_ar2_int_19 .skip
def slices_pdqsortCmpFunc_ar2_int_21 : XCode := .seq (.region [⟨(some 55), .rd (.mov (.t 14)), none, [], false⟩,
  ⟨(some 56), .rd (.bin .eql .other (.t 55) (.c (.int .i64 2))), none, [], false⟩]) slices_pdqsortCmpFunc_ar2_int_20
def slices_pdqsortCmpFunc_ar2_int_22 : XCode := .region [⟨(some 68), .rd (.mov (.t 10)), none, [], false⟩,
  ⟨(some 69), .rd (.mov (.t 68)), none, [], false⟩,
  ⟨(some 70), .rd (.mov (.t 11)), (some (69, true)), [], false⟩,
  ⟨(some 71), .rd (.pick (.t 69) (.t 70) (.c (.bool false))), none, [], false⟩,
  ⟨(some 72), .rd (.mov (.t 71)), none, [], false⟩,
  ⟨(some 73), .rd (.mov (.t 14)), (some (72, true)), [], false⟩,
  ⟨(some 74), .rd (.bin .eql .other (.t 73) (.c (.int .i64 1))), (some (72, true)), [], false⟩,
  ⟨(some 75), .rd (.pick (.t 72) (.t 74) (.c (.bool false))), none, [], false⟩]
def slices_pdqsortCmpFunc_ar2_int_23 : XCode := .region [⟨(some 76), .rd (.mov (.t 0)), none, [], false⟩,
  ⟨(some 77), .rd (.mov (.t 1)), none, [], false⟩,
  ⟨(some 78), .rd (.mov (.t 2)), none, [], false⟩,
  ⟨(some 79), .rd (.mov (.t 4)), none, [], false⟩,
  ⟨(some 80), .call slices_partialInsertionSortCmpFunc_ar2_int_id [.t 76, .t 77, .t 78, .t 79], none, [], false⟩]
def slices_pdqsortCmpFunc_ar2_int_24 : XCode := .cond (.t 80) .ret .skip
def slices_pdqsortCmpFunc_ar2_int_25 : XCode := .seq slices_pdqsortCmpFunc_ar2_int_23 (.keep [0, 1, 2, 3, 4, 10, 11, 12, 13, 80] slices_pdqsortCmpFunc_ar2_int_24)
def slices_pdqsortCmpFunc_ar2_int_26 : XCode := .cond (.t 75) slices_pdqsortCmpFunc_ar2_int_25 .skip
def slices_pdqsortCmpFunc_ar2_int_27 : XCode := .seq slices_pdqsortCmpFunc_ar2_int_22 (.keep [0, 1, 2, 3, 4, 10, 11, 12, 13, 75] slices_pdqsortCmpFunc_ar2_int_26)
def slices_pdqsortCmpFunc_ar2_int_28 : XCode := .draw [⟨(some 81), .rd (.mov (.t 1)), none, [], false⟩,
  ⟨(some 82), .rd (.bin .gtr .other (.t 81) (.c (.int .i64 0))), none, [0], false⟩,
  ⟨(some 83), .rd (.mov (.t 82)), none, [1, 0], false⟩,
  ⟨(some 84), .rd (.mov (.t 4)), (some (83, true)), [2, 1, 0], false⟩,
  ⟨(some 85), .rd (.mov (.t 0)), (some (83, true)), [2, 1, 0], false⟩,
  ⟨(some 86), .rd (.mov (.t 1)), (some (83, true)), [2, 1, 0], false⟩,
  ⟨(some 87), .rd (.bin .sub .other (.t 86) (.c (.int .i64 1))), (some (83, true)), [5, 2, 1, 0], false⟩,
  ⟨(some 88), .rd (.idx 2 (.t 85) (.t 87)), (some (83, true)), [4, 6, 2, 1, 0, 5], false⟩,
  ⟨(some 89), .rd (.load 2 true (.t 88)), (some (83, true)), [7, 2, 4, 6, 1, 0, 5], false⟩,
  ⟨(some 90), .rd (.mov (.t 0)), (some (83, true)), [2, 1, 0], false⟩,
  ⟨(some 91), .rd (.mov (.t 13)), (some (83, true)), [2, 1, 0], false⟩,
  ⟨(some 92), .rd (.idx 2 (.t 90) (.t 91)), (some (83, true)), [9, 10, 2, 1, 0], false⟩,
  ⟨(some 93), .rd (.load 2 true (.t 92)), (some (83, true)), [11, 2, 9, 10, 1, 0], false⟩,
  ⟨(some 94), .callv (.t 84) [.t 89, .t 93], (some (83, true)), [3, 8, 12, 2, 1, 0, 7, 4, 6, 5, 11, 9, 10], false⟩,
  ⟨(some 95), .rd (.bin .lss .other (.t 94) (.c (.int .i64 0))), (some (83, true)), [13, 2, 3, 8, 12, 1, 0, 7, 4, 6, 5, 11, 9, 10], false⟩,
  ⟨(some 96), .rd (.un .not (.t 95)), (some (83, true)), [14, 2, 13, 3, 8, 12, 1, 0, 7, 4, 6, 5, 11, 9, 10], false⟩,
  ⟨(some 97), .rd (.pick (.t 83) (.t 96) (.c (.bool false))), none, [2, 15, 1, 0, 14, 13, 3, 8, 12, 7, 4, 6, 5, 11, 9, 10], false⟩]
def slices_pdqsortCmpFunc_ar2_int_29 : XCode := .region [⟨(some 98), .rd (.mov (.t 0)), none, [], false⟩,
  ⟨(some 99), .rd (.mov (.t 1)), none, [], false⟩,
  ⟨(some 100), .rd (.mov (.t 2)), none, [], false⟩,
  ⟨(some 101), .rd (.mov (.t 13)), none, [], false⟩,
  ⟨(some 102), .rd (.mov (.t 4)), none, [], false⟩,
  ⟨(some 103), .call slices_partitionEqualCmpFunc_ar2_int_id [.t 98, .t 99, .t 100, .t 101, .t 102], none, [], false⟩,
  ⟨(some 15), .rd (.mov (.t 103)), none, [], false⟩]
def slices_pdqsortCmpFunc_ar2_int_30 : XCode := .seq (.region [⟨(some 104), .rd (.mov (.t 15)), none, [], false⟩,
  ⟨(some 1), .rd (.mov (.t 104)), none, [], false⟩]) (.exit 1)
def slices_pdqsortCmpFunc_ar2_int_31 : XCode := .seq slices_pdqsortCmpFunc_ar2_int_29 (.keep [0, 2, 3, 4, 10, 11, 15] slices_pdqsortCmpFunc_ar2_int_30)
def slices_pdqsortCmpFunc_ar2_int_32 : XCode := .cond (.t 97) slices_pdqsortCmpFunc_ar2_int_31 .skip
def slices_pdqsortCmpFunc_ar2_int_33 : XCode := .seq slices_pdqsortCmpFunc_ar2_int_28 (.keep [0, 1, 2, 3, 4, 10, 11, 12, 13, 97] slices_pdqsortCmpFunc_ar2_int_32)
def slices_pdqsortCmpFunc_ar2_int_34 : XCode := .region [⟨(some 106), .rd (.mov (.t 0)), none, [], false⟩,
  ⟨(some 107), .rd (.mov (.t 1)), none, [], false⟩,
  ⟨(some 108), .rd (.mov (.t 2)), none, [], false⟩,
  ⟨(some 109), .rd (.mov (.t 13)), none, [], false⟩,
  ⟨(some 110), .rd (.mov (.t 4)), none, [], false⟩,
  ⟨(some 111), .call slices_partitionCmpFunc_ar2_int_id [.t 106, .t 107, .t 108, .t 109, .t 110], none, [], false⟩,
  ⟨(some 105), .rd (.mov (.t 111)), none, [], false⟩,
  ⟨(some 112), .rd (.extract 0 (.t 105)), none, [], false⟩,
  ⟨(some 113), .rd (.extract 1 (.t 105)), none, [], false⟩,
  ⟨(some 16), .rd (.mov (.t 112)), none, [], false⟩,
  ⟨(some 17), .rd (.mov (.t 113)), none, [], false⟩]
def slices_pdqsortCmpFunc_ar2_int_35 : XCode := .region [⟨(some 115), .rd (.mov (.t 16)), none, [], false⟩,
  ⟨(some 116), .rd (.mov (.t 1)), none, [], false⟩,
  ⟨(some 117), .rd (.bin .sub .other (.t 115) (.t 116)), none, [], false⟩,
  ⟨(some 118), .rd (.mov (.t 2)), none, [], false⟩,
  ⟨(some 119), .rd (.mov (.t 16)), none, [], false⟩,
  ⟨(some 120), .rd (.bin .sub .other (.t 118) (.t 119)), none, [], false⟩,
  ⟨(some 18), .rd (.mov (.t 117)), none, [], false⟩,
  ⟨(some 19), .rd (.mov (.t 120)), none, [], false⟩]
def slices_pdqsortCmpFunc_ar2_int_36 : XCode := .region [⟨(some 126), .rd (.mov (.t 18)), none, [], false⟩,
  ⟨(some 127), .rd (.mov (.t 20)), none, [], false⟩,
  ⟨(some 128), .rd (.bin .geq .other (.t 126) (.t 127)), none, [], false⟩,
  ⟨(some 10), .rd (.mov (.t 128)), none, [], false⟩]
def slices_pdqsortCmpFunc_ar2_int_37 : XCode := .region [⟨(some 129), .rd (.mov (.t 0)), none, [], false⟩,
  ⟨(some 130), .rd (.mov (.t 1)), none, [], false⟩,
  ⟨(some 131), .rd (.mov (.t 16)), none, [], false⟩,
  ⟨(some 132), .rd (.mov (.t 3)), none, [], false⟩,
  ⟨(some 133), .rd (.mov (.t 4)), none, [], false⟩,
  ⟨(some 134), .call slices_pdqsortCmpFunc_ar2_int_id [.t 129, .t 130, .t 131, .t 132, .t 133], none, [], false⟩]
def slices_pdqsortCmpFunc_ar2_int_38 : XCode := .region [⟨(some 135), .rd (.mov (.t 16)), none, [], false⟩,
  ⟨(some 136), .rd (.bin .add .other (.t 135) (.c (.int .i64 1))), none, [], false⟩,
  ⟨(some 1), .rd (.mov (.t 136)), none, [], false⟩]
def slices_pdqsortCmpFunc_ar2_int_39 : XCode := .seq slices_pdqsortCmpFunc_ar2_int_37 (.keep [0, 2, 3, 4, 10, 11, 16] slices_pdqsortCmpFunc_ar2_int_38)
def slices_pdqsortCmpFunc_ar2_int_40 : XCode := .seq slices_pdqsortCmpFunc_ar2_int_36 (.keep [0, 1, 2, 3, 4, 10, 11, 16] slices_pdqsortCmpFunc_ar2_int_39)
def slices_pdqsortCmpFunc_ar2_int_41 : XCode := .region [⟨(some 137), .rd (.mov (.t 19)), none, [], false⟩,
  ⟨(some 138), .rd (.mov (.t 20)), none, [], false⟩,
  ⟨(some 139), .rd (.bin .geq .other (.t 137) (.t 138)), none, [], false⟩,
  ⟨(some 10), .rd (.mov (.t 139)), none, [], false⟩]
def slices_pdqsortCmpFunc_ar2_int_42 : XCode := .region [⟨(some 140), .rd (.mov (.t 0)), none, [], false⟩,
  ⟨(some 141), .rd (.mov (.t 16)), none, [], false⟩,
  ⟨(some 142), .rd (.bin .add .other (.t 141) (.c (.int .i64 1))), none, [], false⟩,
  ⟨(some 143), .rd (.mov (.t 2)), none, [], false⟩,
  ⟨(some 144), .rd (.mov (.t 3)), none, [], false⟩,
  ⟨(some 145), .rd (.mov (.t 4)), none, [], false⟩,
  ⟨(some 146), .call slices_pdqsortCmpFunc_ar2_int_id [.t 140, .t 142, .t 143, .t 144, .t 145], none, [], false⟩]
def slices_pdqsortCmpFunc_ar2_int_43 : XCode := .region [⟨(some 147), .rd (.mov (.t 16)), none, [], false⟩,
  ⟨(some 2), .rd (.mov (.t 147)), none, [], false⟩]
def slices_pdqsortCmpFunc_ar2_int_44 : XCode := .seq slices_pdqsortCmpFunc_ar2_int_42 (.keep [0, 1, 3, 4, 10, 11, 16] slices_pdqsortCmpFunc_ar2_int_43)
def slices_pdqsortCmpFunc_ar2_int_45 : XCode := .seq slices_pdqsortCmpFunc_ar2_int_41 (.keep [0, 1, 2, 3, 4, 10, 11, 16] slices_pdqsortCmpFunc_ar2_int_44)
def slices_pdqsortCmpFunc_ar2_int_46 : XCode := .cond (.t 125) slices_pdqsortCmpFunc_ar2_int_40 slices_pdqsortCmpFunc_ar2_int_45
def slices_pdqsortCmpFunc_ar2_int_47 : XCode := .seq (.region [⟨(some 123), .rd (.mov (.t 18)), none, [], false⟩,
  ⟨(some 124), .rd (.mov (.t 19)), none, [], false⟩,
  ⟨(some 125), .rd (.bin .lss .other (.t 123) (.t 124)), none, [], false⟩]) slices_pdqsortCmpFunc_ar2_int_46
def slices_pdqsortCmpFunc_ar2_int_48 : XCode := .seq (.region [⟨(some 121), .rd (.mov (.t 12)), none, [], false⟩,
  ⟨(some 122), .rd (.bin .quo .other (.t 121) (.c (.int .i64 8))), none, [], false⟩,
  ⟨(some 20), .rd (.mov (.t 122)), none, [], false⟩]) slices_pdqsortCmpFunc_ar2_int_47
def slices_pdqsortCmpFunc_ar2_int_49 : XCode := .seq slices_pdqsortCmpFunc_ar2_int_35 (.keep [0, 1, 2, 3, 4, 11, 12, 16, 18, 19] slices_pdqsortCmpFunc_ar2_int_48)
def slices_pdqsortCmpFunc_ar2_int_50 : XCode := .seq (.region [⟨(some 114), .rd (.mov (.t 17)), none, [], false⟩,
  ⟨(some 11), .rd (.mov (.t 114)), none, [], false⟩]) slices_pdqsortCmpFunc_ar2_int_49
def slices_pdqsortCmpFunc_ar2_int_51 : XCode := .seq slices_pdqsortCmpFunc_ar2_int_34 (.keep [0, 1, 2, 3, 4, 12, 16, 17] slices_pdqsortCmpFunc_ar2_int_50)
def slices_pdqsortCmpFunc_ar2_int_52 : XCode := .seq slices_pdqsortCmpFunc_ar2_int_33 (.keep [0, 1, 2, 3, 4, 12, 13] slices_pdqsortCmpFunc_ar2_int_51)
def slices_pdqsortCmpFunc_ar2_int_53 : XCode := .seq slices_pdqsortCmpFunc_ar2_int_27 (.keep [0, 1, 2, 3, 4, 10, 11, 12, 13] slices_pdqsortCmpFunc_ar2_int_52)
def slices_pdqsortCmpFunc_ar2_int_54 : XCode := .seq slices_pdqsortCmpFunc_ar2_int_21 (.keep [0, 1, 2, 3, 4, 10, 11, 12, 13, 14] slices_pdqsortCmpFunc_ar2_int_53)
def slices_pdqsortCmpFunc_ar2_int_55 : XCode := .seq slices_pdqsortCmpFunc_ar2_int_14 (.keep [0, 1, 2, 3, 4, 10, 11, 12, 13, 14] slices_pdqsortCmpFunc_ar2_int_54)
def slices_pdqsortCmpFunc_ar2_int_56 : XCode := .seq slices_pdqsortCmpFunc_ar2_int_13 (.keep [0, 1, 2, 3, 4, 10, 11, 12] slices_pdqsortCmpFunc_ar2_int_55)
def slices_pdqsortCmpFunc_ar2_int_57 : XCode := .seq slices_pdqsortCmpFunc_ar2_int_8 (.keep [0, 1, 2, 3, 4, 10, 11, 12] slices_pdqsortCmpFunc_ar2_int_56)
def slices_pdqsortCmpFunc_ar2_int_58 : XCode := .seq slices_pdqsortCmpFunc_ar2_int_4 (.keep [0, 1, 2, 3, 4, 10, 11, 12] slices_pdqsortCmpFunc_ar2_int_57)
def slices_pdqsortCmpFunc_ar2_int_59 : XCode := .seq slices_pdqsortCmpFunc_ar2_int_0 (.keep [0, 1, 2, 3, 4, 10, 11, 12] slices_pdqsortCmpFunc_ar2_int_58)
def slices_pdqsortCmpFunc_ar2_int_60 : XCode := .seq (.region [⟨(some 11), .rd (.mov (.c (.bool true))), none, [], false⟩]) (.block 0 (.loop [0, 1, 2, 3, 4, 10, 11] (.block 1 slices_pdqsortCmpFunc_ar2_int_59)))
def slices_pdqsortCmpFunc_ar2_int_61 : XCode := .seq (.region [⟨(some 10), .rd (.mov (.c (.bool true))), none, [], false⟩]) slices_pdqsortCmpFunc_ar2_int_60
def slices_pdqsortCmpFunc_ar2_int : XFun := ⟨5, slices_pdqsortCmpFunc_ar2_int_61, []⟩
theorem slices_pdqsortCmpFunc_ar2_int_ok : FunOk Tryz.prog slices_pdqsortCmpFunc_ar2_int_id slices_pdqsortCmpFunc_ar2_int := compFun_ok rfl E_ok (by kernel_rfl)

/-! ## 112 math/bits.Len -/
def math_bits_Len_0 : XCode := .region [⟨(some 3), .rd (.mov (.t 0)), none, [], false⟩,
  ⟨(some 4), .rd (.conv .u32 (.t 3)), none, [], false⟩,
  ⟨(some 5), .call math_bits_Len32_id [.t 4], none, [], false⟩,
  ⟨(some 2), .rd (.mov (.t 5)), none, [], false⟩]
def math_bits_Len_1 : XCode := .seq math_bits_Len_0 .ret
def math_bits_Len_2 : XCode := .cond (.c (.bool false)) math_bits_Len_1 .skip
def math_bits_Len_3 : XCode := .seq (.region [⟨(some 6), .rd (.mov (.t 0)), none, [], false⟩,
  ⟨(some 7), .call math_bits_Len64_id [.t 6], none, [], false⟩,
  ⟨(some 2), .rd (.mov (.t 7)), none, [], false⟩]) .ret
def math_bits_Len_4 : XCode := .seq math_bits_Len_2 (.keep [0] math_bits_Len_3)
def math_bits_Len_5 : XCode := .seq (.region [⟨(some 2), .rd (.mov (.c (.int .i64 0))), none, [], false⟩]) math_bits_Len_4
def math_bits_Len : XFun := ⟨1, math_bits_Len_5, [.tmp 2]⟩
theorem math_bits_Len_ok : FunOk Tryz.prog math_bits_Len_id math_bits_Len := compFun_ok rfl E_ok (by kernel_rfl)

/-! ## 113 cmp.Compare[int] -/
def cmp_Compare_int_0 : XCode := .seq (.region [⟨(some 4), .rd (.mov (.c (.int .i64 0))), none, [], false⟩]) .ret
def cmp_Compare_int_1 : XCode := .cond (.t 12) cmp_Compare_int_0 .skip
def cmp_Compare_int_2 : XCode := .seq (.region [⟨(some 12), .rd (.mov (.t 6)), none, [], false⟩]) cmp_Compare_int_1
def cmp_Compare_int_3 : XCode := .seq (.region [⟨(some 4), .rd (.mov (.c (.int .i64 (-1)))), none, [], false⟩]) .ret
def cmp_Compare_int_4 : XCode := .seq cmp_Compare_int_2 (.keep [] cmp_Compare_int_3)
def cmp_Compare_int_5 : XCode := .cond (.t 11) cmp_Compare_int_4 .skip
def cmp_Compare_int_6 : XCode := .seq (.region [⟨(some 11), .rd (.mov (.t 5)), none, [], false⟩]) cmp_Compare_int_5
def cmp_Compare_int_7 : XCode := .seq (.region [⟨(some 4), .rd (.mov (.c (.int .i64 1))), none, [], false⟩]) .ret
def cmp_Compare_int_8 : XCode := .cond (.t 13) cmp_Compare_int_7 .skip
def cmp_Compare_int_9 : XCode := .seq (.region [⟨(some 13), .rd (.mov (.t 6)), none, [], false⟩]) cmp_Compare_int_8
def cmp_Compare_int_10 : XCode := .seq (.region [⟨(some 4), .rd (.mov (.c (.int .i64 (-1)))), none, [], false⟩]) .ret
def cmp_Compare_int_11 : XCode := .cond (.t 16) cmp_Compare_int_10 .skip
def cmp_Compare_int_12 : XCode := .seq (.region [⟨(some 14), .rd (.mov (.t 0)), none, [], false⟩,
  ⟨(some 15), .rd (.mov (.t 1)), none, [], false⟩,
  ⟨(some 16), .rd (.bin .lss .other (.t 14) (.t 15)), none, [], false⟩]) cmp_Compare_int_11
def cmp_Compare_int_13 : XCode := .seq (.region [⟨(some 4), .rd (.mov (.c (.int .i64 1))), none, [], false⟩]) .ret
def cmp_Compare_int_14 : XCode := .cond (.t 19) cmp_Compare_int_13 .skip
def cmp_Compare_int_15 : XCode := .seq (.region [⟨(some 17), .rd (.mov (.t 0)), none, [], false⟩,
  ⟨(some 18), .rd (.mov (.t 1)), none, [], false⟩,
  ⟨(some 19), .rd (.bin .gtr .other (.t 17) (.t 18)), none, [], false⟩]) cmp_Compare_int_14
def cmp_Compare_int_16 : XCode := .seq (.region [⟨(some 4), .rd (.mov (.c (.int .i64 0))), none, [], false⟩]) .ret
def cmp_Compare_int_17 : XCode := .seq cmp_Compare_int_15 (.keep [] cmp_Compare_int_16)
def cmp_Compare_int_18 : XCode := .seq cmp_Compare_int_12 (.keep [0, 1] cmp_Compare_int_17)
def cmp_Compare_int_19 : XCode := .seq cmp_Compare_int_9 (.keep [0, 1] cmp_Compare_int_18)
def cmp_Compare_int_20 : XCode := .seq cmp_Compare_int_6 (.keep [0, 1, 6] cmp_Compare_int_19)
def cmp_Compare_int_21 : XCode := .seq (.region [⟨(some 9), .rd (.mov (.t 1)), none, [], false⟩,
  ⟨(some 10), .call cmp_isNaN_int_id [.t 9], none, [], false⟩,
  ⟨(some 6), .rd (.mov (.t 10)), none, [], false⟩]) cmp_Compare_int_20
def cmp_Compare_int_22 : XCode := .seq (.region [⟨(some 7), .rd (.mov (.t 0)), none, [], false⟩,
  ⟨(some 8), .call cmp_isNaN_int_id [.t 7], none, [], false⟩,
  ⟨(some 5), .rd (.mov (.t 8)), none, [], false⟩]) cmp_Compare_int_21
def cmp_Compare_int_23 : XCode := .seq (.region [⟨(some 4), .rd (.mov (.c (.int .i64 0))), none, [], false⟩]) cmp_Compare_int_22
def cmp_Compare_int : XFun := ⟨2, cmp_Compare_int_23, [.tmp 4]⟩
theorem cmp_Compare_int_ok : FunOk Tryz.prog cmp_Compare_int_id cmp_Compare_int := compFun_ok rfl E_ok (by kernel_rfl)

/-! ## 114 slices.IndexFunc[[]antecedent/api.Literal,antecedent/api.Literal] -/
def slices_IndexFunc_api_Literal_0 : XCode := .cond (.t 9) .skip (.exit 0)
def slices_IndexFunc_api_Literal_1 : XCode := .region [⟨(some 11), .rd (.mov (.t 1)), none, [], false⟩,
  ⟨(some 12), .rd (.mov (.t 0)), none, [], false⟩,
  ⟨(some 13), .rd (.mov (.t 5)), none, [], false⟩,
  ⟨(some 14), .rd (.idx 17 (.t 12) (.t 13)), none, [], false⟩,
  ⟨(some 15), .rd (.load 17 true (.t 14)), none, [], false⟩,
  ⟨(some 16), .callv (.t 11) [.t 15], none, [], false⟩]
def slices_IndexFunc_api_Literal_2 : XCode := .seq (.region [⟨(some 17), .rd (.mov (.t 5)), none, [], false⟩,
  ⟨(some 4), .rd (.mov (.t 17)), none, [], false⟩]) .ret
def slices_IndexFunc_api_Literal_3 : XCode := .cond (.t 16) slices_IndexFunc_api_Literal_2 .skip
def slices_IndexFunc_api_Literal_4 : XCode := .seq slices_IndexFunc_api_Literal_1 (.keep [0, 1, 5, 7, 8, 16] slices_IndexFunc_api_Literal_3)
def slices_IndexFunc_api_Literal_5 : XCode := .seq (.region [⟨(some 10), .rd (.mov (.t 8)), none, [], false⟩,
  ⟨(some 5), .rd (.mov (.t 10)), none, [], false⟩]) slices_IndexFunc_api_Literal_4
def slices_IndexFunc_api_Literal_6 : XCode := .region [⟨(some 18), .rd (.bin .add .other (.t 8) (.c (.int .i64 1))), none, [], false⟩,
  ⟨(some 8), .rd (.mov (.t 18)), none, [], false⟩]
def slices_IndexFunc_api_Literal_7 : XCode := .seq (.block 1 slices_IndexFunc_api_Literal_5) (.keep [0, 1, 7, 8] slices_IndexFunc_api_Literal_6)
def slices_IndexFunc_api_Literal_8 : XCode := .seq slices_IndexFunc_api_Literal_0 (.keep [0, 1, 7, 8] slices_IndexFunc_api_Literal_7)
def slices_IndexFunc_api_Literal_9 : XCode := .seq (.region [⟨(some 9), .rd (.bin .lss .other (.t 8) (.t 7)), none, [], false⟩]) slices_IndexFunc_api_Literal_8
def slices_IndexFunc_api_Literal_10 : XCode := .seq (.region [⟨(some 6), .rd (.mov (.t 0)), none, [], false⟩,
  ⟨(some 7), .rd (.lenL (.t 6)), none, [], false⟩,
  ⟨(some 8), .rd (.mov (.c (.int .i64 0))), none, [], false⟩]) (.block 0 (.loop [0, 1, 7, 8] slices_IndexFunc_api_Literal_9))
def slices_IndexFunc_api_Literal_11 : XCode := .seq (.region [⟨(some 4), .rd (.mov (.c (.int .i64 (-1)))), none, [], false⟩]) .ret
def slices_IndexFunc_api_Literal_12 : XCode := .seq slices_IndexFunc_api_Literal_10 (.keep [] slices_IndexFunc_api_Literal_11)
def slices_IndexFunc_api_Literal_13 : XCode := .seq (.region [⟨(some 4), .rd (.mov (.c (.int .i64 0))), none, [], false⟩]) slices_IndexFunc_api_Literal_12
def slices_IndexFunc_api_Literal : XFun := ⟨2, slices_IndexFunc_api_Literal_13, [.tmp 4]⟩
theorem slices_IndexFunc_api_Literal_ok : FunOk Tryz.prog slices_IndexFunc_api_Literal_id slices_IndexFunc_api_Literal := compFun_ok rfl E_ok (by kernel_rfl)

/-! ## 115 (*strings.Builder).copyCheck -/
def p_strings_Builder_copyCheck_0 : XCode := .region [⟨(some 2), .rd (.mov (.t 0)), none, [], false⟩,
  ⟨(some 3), .rd (.nilchk (.t 2)), none, [], false⟩,
  ⟨(some 4), .rd (.off 0 (.t 3)), none, [], false⟩,
  ⟨(some 5), .rd (.load 1 false (.t 4)), none, [], false⟩,
  ⟨(some 6), .rd (.bin .eql .ptr (.t 5) (.c (.nilptr))), none, [], false⟩]
def p_strings_Builder_copyCheck_1 : XCode := .region [⟨(some 7), .rd (.mov (.t 0)), none, [], false⟩,
  ⟨(some 8), .rd (.mov (.t 0)), none, [], false⟩,
  ⟨(some 9), .rd (.upp (.t 8)), none, [], false⟩,
  ⟨(some 10), .rd (.mov (.t 9)), none, [], false⟩,
  ⟨(some 11), .rd (.upf T_strings_Builder 2 (.t 10)), none, [], false⟩,
  ⟨(some 12), .rd (.nilchk (.t 7)), none, [], false⟩,
  ⟨(some 13), .rd (.off 0 (.t 12)), none, [], false⟩,
  ⟨none, .ef (.store 1 (.t 13) (.t 11)), none, [], false⟩]
def p_strings_Builder_copyCheck_2 : XCode := .region [⟨(some 14), .rd (.mov (.t 0)), none, [], false⟩,
  ⟨(some 15), .rd (.nilchk (.t 14)), none, [], false⟩,
  ⟨(some 16), .rd (.off 0 (.t 15)), none, [], false⟩,
  ⟨(some 17), .rd (.load 1 false (.t 16)), none, [], false⟩,
  ⟨(some 18), .rd (.mov (.t 0)), none, [], false⟩,
  ⟨(some 19), .rd (.pne (.t 17) (.t 18)), none, [], false⟩]
def p_strings_Builder_copyCheck_3 : XCode := .region [⟨none, .bad, none, [], false⟩]
def p_strings_Builder_copyCheck_4 : XCode := .cond (.t 19) p_strings_Builder_copyCheck_3 .skip
def p_strings_Builder_copyCheck_5 : XCode := .seq p_strings_Builder_copyCheck_2 (.keep [19] p_strings_Builder_copyCheck_4)
def p_strings_Builder_copyCheck_6 : XCode := .cond (.t 6) p_strings_Builder_copyCheck_1 p_strings_Builder_copyCheck_5
def p_strings_Builder_copyCheck_7 : XCode := .seq p_strings_Builder_copyCheck_0 (.keep [0, 6] p_strings_Builder_copyCheck_6)
def p_strings_Builder_copyCheck : XFun := ⟨1, p_strings_Builder_copyCheck_7, []⟩
theorem p_strings_Builder_copyCheck_ok : FunOk Tryz.prog p_strings_Builder_copyCheck_id p_strings_Builder_copyCheck := compFun_ok rfl E_ok (by kernel_rfl)

/-! ## 116 slices.Clone[[]string,string] -/
def slices_Clone_string_0 : XCode := .seq (.region [⟨(some 2), .rd (.mov (.c (.nilslice))), none, [], false⟩]) .ret
def slices_Clone_string_1 : XCode := .cond (.t 4) slices_Clone_string_0 .skip
def slices_Clone_string_2 : XCode := .seq (.region [⟨(some 3), .rd (.mov (.t 0)), none, [], false⟩,
  ⟨(some 4), .rd (.bin .eql .slice (.t 3) (.c (.nilslice))), none, [], false⟩]) slices_Clone_string_1
def slices_Clone_string_3 : XCode := .region [⟨(some 5), .ef (.buildSlice T_string 1 0 [.str []] []), none, [], false⟩,
  ⟨(some 6), .rd (.mov (.t 0)), none, [], false⟩,
  ⟨(some 7), .ef (.append T_string 1 16 (.t 5) (.t 6)), none, [], false⟩,
  ⟨(some 2), .rd (.mov (.t 7)), none, [], false⟩]
def slices_Clone_string_4 : XCode := .seq slices_Clone_string_3 .ret
def slices_Clone_string_5 : XCode := .seq slices_Clone_string_2 (.keep [0] slices_Clone_string_4)
def slices_Clone_string_6 : XCode := .seq (.region [⟨(some 2), .rd (.mov (.c (.nilslice))), none, [], false⟩]) slices_Clone_string_5
def slices_Clone_string : XFun := ⟨1, slices_Clone_string_6, [.tmp 2]⟩
theorem slices_Clone_string_ok : FunOk Tryz.prog slices_Clone_string_id slices_Clone_string := compFun_ok rfl E_ok (by kernel_rfl)

/-! ## 117 slices.Concat[[]antecedent/api.Term,antecedent/api.Term] -/
def slices_Concat_api_Term_0 : XCode := .cond (.t 12) .skip (.exit 0)
def slices_Concat_api_Term_1 : XCode := .region [⟨(some 15), .rd (.mov (.t 3)), none, [], false⟩,
  ⟨(some 16), .rd (.mov (.t 5)), none, [], false⟩,
  ⟨(some 17), .rd (.lenL (.t 16)), none, [], false⟩,
  ⟨(some 18), .rd (.bin .add .other (.t 15) (.t 17)), none, [], false⟩,
  ⟨(some 3), .rd (.mov (.t 18)), none, [], false⟩]
def slices_Concat_api_Term_2 : XCode := .region [⟨(some 21), .bad, none, [], false⟩,
  ⟨none, .bad, none, [], false⟩]
def slices_Concat_api_Term_3 : XCode := .cond (.t 20) slices_Concat_api_Term_2 .skip
def slices_Concat_api_Term_4 : XCode := .seq (.region [⟨(some 19), .rd (.mov (.t 3)), none, [], false⟩,
  ⟨(some 20), .rd (.bin .lss .other (.t 19) (.c (.int .i64 0))), none, [], false⟩]) slices_Concat_api_Term_3
def slices_Concat_api_Term_5 : XCode := .seq slices_Concat_api_Term_1 (.keep [0, 3, 9, 10, 11] slices_Concat_api_Term_4)
def slices_Concat_api_Term_6 : XCode := .seq (.region [⟨(some 13), .rd (.idx 1 (.t 9) (.t 11)), none, [], false⟩,
  ⟨(some 14), .rd (.load 1 false (.t 13)), none, [], false⟩,
  ⟨(some 5), .rd (.mov (.t 14)), none, [], false⟩]) slices_Concat_api_Term_5
def slices_Concat_api_Term_7 : XCode := .region [⟨(some 22), .rd (.bin .add .other (.t 11) (.c (.int .i64 1))), none, [], false⟩,
  ⟨(some 11), .rd (.mov (.t 22)), none, [], false⟩]
def slices_Concat_api_Term_8 : XCode := .seq (.block 1 slices_Concat_api_Term_6) (.keep [0, 3, 9, 10, 11] slices_Concat_api_Term_7)
def slices_Concat_api_Term_9 : XCode := .seq slices_Concat_api_Term_0 (.keep [0, 3, 9, 10, 11] slices_Concat_api_Term_8)
def slices_Concat_api_Term_10 : XCode := .seq (.region [⟨(some 12), .rd (.bin .lss .other (.t 11) (.t 10)), none, [], false⟩]) slices_Concat_api_Term_9
def slices_Concat_api_Term_11 : XCode := .seq (.region [⟨(some 9), .rd (.mov (.t 0)), none, [], false⟩,
  ⟨(some 10), .rd (.lenL (.t 9)), none, [], false⟩,
  ⟨(some 11), .rd (.mov (.c (.int .i64 0))), none, [], false⟩]) (.block 0 (.loop [0, 3, 9, 10, 11] slices_Concat_api_Term_10))
def slices_Concat_api_Term_12 : XCode := .cond (.t 28) .skip (.exit 2)
def slices_Concat_api_Term_13 : XCode := .region [⟨(some 31), .rd (.mov (.t 6)), none, [], false⟩,
  ⟨(some 32), .rd (.mov (.t 8)), none, [], false⟩,
  ⟨(some 33), .ef (.append T_api_Term 4 48 (.t 31) (.t 32)), none, [], false⟩,
  ⟨(some 6), .rd (.mov (.t 33)), none, [], false⟩]
def slices_Concat_api_Term_14 : XCode := .seq (.region [⟨(some 29), .rd (.idx 1 (.t 25) (.t 27)), none, [], false⟩,
  ⟨(some 30), .rd (.load 1 false (.t 29)), none, [], false⟩,
  ⟨(some 8), .rd (.mov (.t 30)), none, [], false⟩]) slices_Concat_api_Term_13
def slices_Concat_api_Term_15 : XCode := .region [⟨(some 34), .rd (.bin .add .other (.t 27) (.c (.int .i64 1))), none, [], false⟩,
  ⟨(some 27), .rd (.mov (.t 34)), none, [], false⟩]
def slices_Concat_api_Term_16 : XCode := .seq (.block 3 slices_Concat_api_Term_14) (.keep [6, 25, 26, 27] slices_Concat_api_Term_15)
def slices_Concat_api_Term_17 : XCode := .seq slices_Concat_api_Term_12 (.keep [6, 25, 26, 27] slices_Concat_api_Term_16)
def slices_Concat_api_Term_18 : XCode := .seq (.region [⟨(some 28), .rd (.bin .lss .other (.t 27) (.t 26)), none, [], false⟩]) slices_Concat_api_Term_17
def slices_Concat_api_Term_19 : XCode := .seq (.region [⟨(some 25), .rd (.mov (.t 0)), none, [], false⟩,
  ⟨(some 26), .rd (.lenL (.t 25)), none, [], false⟩,
  ⟨(some 27), .rd (.mov (.c (.int .i64 0))), none, [], false⟩]) (.block 2 (.loop [6, 25, 26, 27] slices_Concat_api_Term_18))
def slices_Concat_api_Term_20 : XCode := .seq (.region [⟨(some 35), .rd (.mov (.t 6)), none, [], false⟩,
  ⟨(some 2), .rd (.mov (.t 35)), none, [], false⟩]) .ret
def slices_Concat_api_Term_21 : XCode := .seq slices_Concat_api_Term_19 (.keep [6] slices_Concat_api_Term_20)
def slices_Concat_api_Term_22 : XCode := .seq (.region [⟨(some 23), .rd (.mov (.t 3)), none, [], false⟩,
  ⟨(some 24), .call slices_Grow_api_Term_id [.c (.nilslice), .t 23], none, [], false⟩,
  ⟨(some 6), .rd (.mov (.t 24)), none, [], false⟩]) slices_Concat_api_Term_21
def slices_Concat_api_Term_23 : XCode := .seq slices_Concat_api_Term_11 (.keep [0, 3] slices_Concat_api_Term_22)
def slices_Concat_api_Term_24 : XCode := .seq (.region [⟨(some 3), .rd (.mov (.c (.int .i64 0))), none, [], false⟩]) slices_Concat_api_Term_23
def slices_Concat_api_Term_25 : XCode := .seq (.region [⟨(some 2), .rd (.mov (.c (.nilslice))), none, [], false⟩]) slices_Concat_api_Term_24
def slices_Concat_api_Term : XFun := ⟨1, slices_Concat_api_Term_25, [.tmp 2]⟩
theorem slices_Concat_api_Term_ok : FunOk Tryz.prog slices_Concat_api_Term_id slices_Concat_api_Term := compFun_ok rfl E_ok (by kernel_rfl)

/-! ## 118 slices.pdqsortOrdered[string] -/
def slices_pdqsortOrdered_string_0 : XCode := .region [⟨(some 19), .rd (.mov (.t 2)), none, [], false⟩,
  ⟨(some 20), .rd (.mov (.t 1)), none, [], false⟩,
  ⟨(some 21), .rd (.bin .sub .other (.t 19) (.t 20)), none, [], false⟩,
  ⟨(some 10), .rd (.mov (.t 21)), none, [], false⟩]
def slices_pdqsortOrdered_string_1 : XCode := .region [⟨(some 24), .rd (.mov (.t 0)), none, [], false⟩,
  ⟨(some 25), .rd (.mov (.t 1)), none, [], false⟩,
  ⟨(some 26), .rd (.mov (.t 2)), none, [], false⟩,
  ⟨(some 27), .call slices_insertionSortOrdered_string_id [.t 24, .t 25, .t 26], none, [], false⟩]
def slices_pdqsortOrdered_string_2 : XCode := .seq slices_pdqsortOrdered_string_1 .ret
def slices_pdqsortOrdered_string_3 : XCode := .cond (.t 23) slices_pdqsortOrdered_string_2 .skip
def slices_pdqsortOrdered_string_4 : XCode := .seq (.region [⟨(some 22), .rd (.mov (.t 10)), none, [], false⟩,
  ⟨(some 23), .rd (.bin .leq .other (.t 22) (.c (.int .i64 12))), none, [], false⟩]) slices_pdqsortOrdered_string_3
def slices_pdqsortOrdered_string_5 : XCode := .region [⟨(some 30), .rd (.mov (.t 0)), none, [], false⟩,
  ⟨(some 31), .rd (.mov (.t 1)), none, [], false⟩,
  ⟨(some 32), .rd (.mov (.t 2)), none, [], false⟩,
  ⟨(some 33), .call slices_heapSortOrdered_string_id [.t 30, .t 31, .t 32], none, [], false⟩]
def slices_pdqsortOrdered_string_6 : XCode := .seq slices_pdqsortOrdered_string_5 .ret
def slices_pdqsortOrdered_string_7 : XCode := .cond (.t 29) slices_pdqsortOrdered_string_6 .skip
def slices_pdqsortOrdered_string_8 : XCode := .seq (.region [⟨(some 28), .rd (.mov (.t 3)), none, [], false⟩,
  ⟨(some 29), .rd (.bin .eql .other (.t 28) (.c (.int .i64 0))), none, [], false⟩]) slices_pdqsortOrdered_string_7
def slices_pdqsortOrdered_string_9 : XCode := .region [⟨(some 36), .rd (.mov (.t 0)), none, [], false⟩,
  ⟨(some 37), .rd (.mov (.t 1)), none, [], false⟩,
  ⟨(some 38), .rd (.mov (.t 2)), none, [], false⟩,
  ⟨(some 39), .call slices_breakPatternsOrdered_string_id [.t 36, .t 37, .t 38], none, [], false⟩]
def slices_pdqsortOrdered_string_10 : XCode := .region [⟨(some 40), .rd (.mov (.t 3)), none, [], false⟩,
  ⟨(some 41), .rd (.bin .sub .other (.t 40) (.c (.int .i64 1))), none, [], false⟩,
  ⟨(some 3), .rd (.mov (.t 41)), none, [], false⟩]
def slices_pdqsortOrdered_string_11 : XCode := .seq slices_pdqsortOrdered_string_9 (.keep [0, 1, 2, 3, 8, 9, 10] slices_pdqsortOrdered_string_10)
def slices_pdqsortOrdered_string_12 : XCode := .cond (.t 35) slices_pdqsortOrdered_string_11 .skip
def slices_pdqsortOrdered_string_13 : XCode := .seq (.region [⟨(some 34), .rd (.mov (.t 8)), none, [], false⟩,
  ⟨(some 35), .rd (.un .not (.t 34)), none, [], false⟩]) slices_pdqsortOrdered_string_12
def slices_pdqsortOrdered_string_14 : XCode := .region [⟨(some 43), .rd (.mov (.t 0)), none, [], false⟩,
  ⟨(some 44), .rd (.mov (.t 1)), none, [], false⟩,
  ⟨(some 45), .rd (.mov (.t 2)), none, [], false⟩,
  ⟨(some 46), .call slices_choosePivotOrdered_string_id [.t 43, .t 44, .t 45], none, [], false⟩,
  ⟨(some 42), .rd (.mov (.t 46)), none, [], false⟩,
  ⟨(some 47), .rd (.extract 0 (.t 42)), none, [], false⟩,
  ⟨(some 48), .rd (.extract 1 (.t 42)), none, [], false⟩,
  ⟨(some 11), .rd (.mov (.t 47)), none, [], false⟩,
  ⟨(some 12), .rd (.mov (.t 48)), none, [], false⟩]
def slices_pdqsortOrdered_string_15 : XCode := .region [⟨(some 51), .rd (.mov (.t 0)), none, [], false⟩,
  ⟨(some 52), .rd (.mov (.t 1)), none, [], false⟩,
  ⟨(some 53), .rd (.mov (.t 2)), none, [], false⟩,
  ⟨(some 54), .call slices_reverseRangeOrdered_string_id [.t 51, .t 52, .t 53], none, [], false⟩]
def slices_pdqsortOrdered_string_16 : XCode := .region [⟨(some 55), .rd (.mov (.t 2)), none, [], false⟩,
  ⟨(some 56), .rd (.bin .sub .other (.t 55) (.c (.int .i64 1))), none, [], false⟩,
  ⟨(some 57), .rd (.mov (.t 11)), none, [], false⟩,
  ⟨(some 58), .rd (.mov (.t 1)), none, [], false⟩,
  ⟨(some 59), .rd (.bin .sub .other (.t 57) (.t 58)), none, [], false⟩,
  ⟨(some 60), .rd (.bin .sub .other (.t 56) (.t 59)), none, [], false⟩,
  ⟨(some 11), .rd (.mov (.t 60)), none, [], false⟩]
def slices_pdqsortOrdered_string_17 : XCode := .region [⟨(some 12), .rd (.mov (.c (.int .i64 1))), none, [], false⟩]
def slices_pdqsortOrdered_string_18 : XCode := .seq slices_pdqsortOrdered_string_16 (.keep [0, 1, 2, 3, 8, 9, 10, 11] slices_pdqsortOrdered_string_17)
def slices_pdqsortOrdered_string_19 : XCode := .seq slices_pdqsortOrdered_string_15 (.keep [0, 1, 2, 3, 8, 9, 10, 11] slices_pdqsortOrdered_string_18)
def slices_pdqsortOrdered_string_20 : XCode := .cond (.t 50) slices_pdqsortOrdered_string_19 .skip
def slices_pdqsortOrdered_string_21 : XCode := .seq (.region [⟨(some 49), .rd (.mov (.t 12)), none, [], false⟩,
  ⟨(some 50), .rd (.bin .eql .other (.t 49) (.c (.int .i64 2))), none, [], false⟩]) slices_pdqsortOrdered_string_20
def slices_pdqsortOrdered_string_22 : XCode := .region [⟨(some 61), .rd (.mov (.t 8)), none, [], false⟩,
  ⟨(some 62), .rd (.mov (.t 61)), none, [], false⟩,
  ⟨(some 63), .rd (.mov (.t 9)), (some (62, true)), [], false⟩,
  ⟨(some 64), .rd (.pick (.t 62) (.t 63) (.c (.bool false))), none, [], false⟩,
  ⟨(some 65), .rd (.mov (.t 64)), none, [], false⟩,
  ⟨(some 66), .rd (.mov (.t 12)), (some (65, true)), [], false⟩,
  ⟨(some 67), .rd (.bin .eql .other (.t 66) (.c (.int .i64 1))), (some (65, true)), [], false⟩,
  ⟨(some 68), .rd (.pick (.t 65) (.t 67) (.c (.bool false))), none, [], false⟩]
def slices_pdqsortOrdered_string_23 : XCode := .region [⟨(some 69), .rd (.mov (.t 0)), none, [], false⟩,
  ⟨(some 70), .rd (.mov (.t 1)), none, [], false⟩,
  ⟨(some 71), .rd (.mov (.t 2)), none, [], false⟩,
  ⟨(some 72), .call slices_partialInsertionSortOrdered_string_id [.t 69, .t 70, .t 71], none, [], false⟩]
def slices_pdqsortOrdered_string_24 : XCode := .cond (.t 72) .ret .skip
def slices_pdqsortOrdered_string_25 : XCode := .seq slices_pdqsortOrdered_string_23 (.keep [0, 1, 2, 3, 8, 9, 10, 11, 72] slices_pdqsortOrdered_string_24)
def slices_pdqsortOrdered_string_26 : XCode := .cond (.t 68) slices_pdqsortOrdered_string_25 .skip
def slices_pdqsortOrdered_string_27 : XCode := .seq slices_pdqsortOrdered_string_22 (.keep [0, 1, 2, 3, 8, 9, 10, 11, 68] slices_pdqsortOrdered_string_26)
def slices_pdqsortOrdered_string_28 : XCode := .draw [⟨(some 73), .rd (.mov (.t 1)), none, [], false⟩,
  ⟨(some 74), .rd (.bin .gtr .other (.t 73) (.c (.int .i64 0))), none, [0], false⟩,
  ⟨(some 75), .rd (.mov (.t 74)), none, [1, 0], false⟩,
  ⟨(some 76), .rd (.mov (.t 0)), (some (75, true)), [2, 1, 0], false⟩,
  ⟨(some 77), .rd (.mov (.t 1)), (some (75, true)), [2, 1, 0], false⟩,
  ⟨(some 78), .rd (.bin .sub .other (.t 77) (.c (.int .i64 1))), (some (75, true)), [4, 2, 1, 0], false⟩,
  ⟨(some 79), .rd (.idx 1 (.t 76) (.t 78)), (some (75, true)), [3, 5, 2, 1, 0, 4], false⟩,
  ⟨(some 80), .rd (.load 1 false (.t 79)), (some (75, true)), [6, 2, 3, 5, 1, 0, 4], false⟩,
  ⟨(some 81), .rd (.mov (.t 0)), (some (75, true)), [2, 1, 0], false⟩,
  ⟨(some 82), .rd (.mov (.t 11)), (some (75, true)), [2, 1, 0], false⟩,
  ⟨(some 83), .rd (.idx 1 (.t 81) (.t 82)), (some (75, true)), [8, 9, 2, 1, 0], false⟩,
  ⟨(some 84), .rd (.load 1 false (.t 83)), (some (75, true)), [10, 2, 8, 9, 1, 0], false⟩,
  ⟨(some 85), .call cmp_Less_string_id [.t 80, .t 84], (some (75, true)), [7, 11, 2, 6, 3, 5, 1, 0, 4, 10, 8, 9], false⟩,
  ⟨(some 86), .rd (.un .not (.t 85)), (some (75, true)), [12, 2, 7, 11, 6, 3, 5, 1, 0, 4, 10, 8, 9], false⟩,
  ⟨(some 87), .rd (.pick (.t 75) (.t 86) (.c (.bool false))), none, [2, 13, 1, 0, 12, 7, 11, 6, 3, 5, 4, 10, 8, 9], false⟩]
def slices_pdqsortOrdered_string_29 : XCode := .region [⟨(some 88), .rd (.mov (.t 0)), none, [], false⟩,
  ⟨(some 89), .rd (.mov (.t 1)), none, [], false⟩,
  ⟨(some 90), .rd (.mov (.t 2)), none, [], false⟩,
  ⟨(some 91), .rd (.mov (.t 11)), none, [], false⟩,
  ⟨(some 92), .call slices_partitionEqualOrdered_string_id [.t 88, .t 89, .t 90, .t 91], none, [], false⟩,
  ⟨(some 13), .rd (.mov (.t 92)), none, [], false⟩]
def slices_pdqsortOrdered_string_30 : XCode := .seq (.region [⟨(some 93), .rd (.mov (.t 13)), none, [], false⟩,
  ⟨(some 1), .rd (.mov (.t 93)), none, [], false⟩]) (.exit 1)
def slices_pdqsortOrdered_string_31 : XCode := .seq slices_pdqsortOrdered_string_29 (.keep [0, 2, 3, 8, 9, 13] slices_pdqsortOrdered_string_30)
def slices_pdqsortOrdered_string_32 : XCode := .cond (.t 87) slices_pdqsortOrdered_string_31 .skip
def slices_pdqsortOrdered_string_33 : XCode := .seq slices_pdqsortOrdered_string_28 (.keep [0, 1, 2, 3, 8, 9, 10, 11, 87] slices_pdqsortOrdered_string_32)
def slices_pdqsortOrdered_string_34 : XCode := .region [⟨(some 95), .rd (.mov (.t 0)), none, [], false⟩,
  ⟨(some 96), .rd (.mov (.t 1)), none, [], false⟩,
  ⟨(some 97), .rd (.mov (.t 2)), none, [], false⟩,
  ⟨(some 98), .rd (.mov (.t 11)), none, [], false⟩,
  ⟨(some 99), .call slices_partitionOrdered_string_id [.t 95, .t 96, .t 97, .t 98], none, [], false⟩,
  ⟨(some 94), .rd (.mov (.t 99)), none, [], false⟩,
  ⟨(some 100), .rd (.extract 0 (.t 94)), none, [], false⟩,
  ⟨(some 101), .rd (.extract 1 (.t 94)), none, [], false⟩,
  ⟨(some 14), .rd (.mov (.t 100)), none, [], false⟩,
  ⟨(some 15), .rd (.mov (.t 101)), none, [], false⟩]
def slices_pdqsortOrdered_string_35 : XCode := .region [⟨(some 103), .rd (.mov (.t 14)), none, [], false⟩,
  ⟨(some 104), .rd (.mov (.t 1)), none, [], false⟩,
  ⟨(some 105), .rd (.bin .sub .other (.t 103) (.t 104)), none, [], false⟩,
  ⟨(some 106), .rd (.mov (.t 2)), none, [], false⟩,
  ⟨(some 107), .rd (.mov (.t 14)), none, [], false⟩,
  ⟨(some 108), .rd (.bin .sub .other (.t 106) (.t 107)), none, [], false⟩,
  ⟨(some 16), .rd (.mov (.t 105)), none, [], false⟩,
  ⟨(some 17), .rd (.mov (.t 108)), none, [], false⟩]
def slices_pdqsortOrdered_string_36 : XCode := .region [⟨(some 114), .rd (.mov (.t 16)), none, [], false⟩,
  ⟨(some 115), .rd (.mov (.t 18)), none, [], false⟩,
  ⟨(some 116), .rd (.bin .geq .other (.t 114) (.t 115)), none, [], false⟩,
  ⟨(some 8), .rd (.mov (.t 116)), none, [], false⟩]
def slices_pdqsortOrdered_string_37 : XCode := .region [⟨(some 117), .rd (.mov (.t 0)), none, [], false⟩,
  ⟨(some 118), .rd (.mov (.t 1)), none, [], false⟩,
  ⟨(some 119), .rd (.mov (.t 14)), none, [], false⟩,
  ⟨(some 120), .rd (.mov (.t 3)), none, [], false⟩,
  ⟨(some 121), .call slices_pdqsortOrdered_string_id [.t 117, .t 118, .t 119, .t 120], none, [], false⟩]
def slices_pdqsortOrdered_string_38 : XCode := .region [⟨(some 122), .rd (.mov (.t 14)), none, [], false⟩,
  ⟨(some 123), .rd (.bin .add .other (.t 122) (.c (.int .i64 1))), none, [], false⟩,
  ⟨(some 1), .rd (.mov (.t 123)), none, [], false⟩]
def slices_pdqsortOrdered_string_39 : XCode := .seq slices_pdqsortOrdered_string_37 (.keep [0, 2, 3, 8, 9, 14] slices_pdqsortOrdered_string_38)
def slices_pdqsortOrdered_string_40 : XCode := .seq slices_pdqsortOrdered_string_36 (.keep [0, 1, 2, 3, 8, 9, 14] slices_pdqsortOrdered_string_39)
def slices_pdqsortOrdered_string_41 : XCode := .region [⟨(some 124), .rd (.mov (.t 17)), none, [], false⟩,
  ⟨(some 125), .rd (.mov (.t 18)), none, [], false⟩,
  ⟨(some 126), .rd (.bin .geq .other (.t 124) (.t 125)), none, [], false⟩,
  ⟨(some 8), .rd (.mov (.t 126)), none, [], false⟩]
def slices_pdqsortOrdered_string_42 : XCode := .region [⟨(some 127), .rd (.mov (.t 0)), none, [], false⟩,
  ⟨(some 128), .rd (.mov (.t 14)), none, [], false⟩,
  ⟨(some 129), .rd (.bin .add .other (.t 128) (.c (.int .i64 1))), none, [], false⟩,
  ⟨(some 130), .rd (.mov (.t 2)), none, [], false⟩,
  ⟨(some 131), .rd (.mov (.t 3)), none, [], false⟩,
  ⟨(some 132), .call slices_pdqsortOrdered_string_id [.t 127, .t 129, .t 130, .t 131], none, [], false⟩]
def slices_pdqsortOrdered_string_43 : XCode := .region [⟨(some 133), .rd (.mov (.t 14)), none, [], false⟩,
  ⟨(some 2), .rd (.mov (.t 133)), none, [], false⟩]
def slices_pdqsortOrdered_string_44 : XCode := .seq slices_pdqsortOrdered_string_42 (.keep [0, 1, 3, 8, 9, 14] slices_pdqsortOrdered_string_43)
def slices_pdqsortOrdered_string_45 : XCode := .seq slices_pdqsortOrdered_string_41 (.keep [0, 1, 2, 3, 8, 9, 14] slices_pdqsortOrdered_string_44)
def slices_pdqsortOrdered_string_46 : XCode := .cond (.t 113) slices_pdqsortOrdered_string_40 slices_pdqsortOrdered_string_45
def slices_pdqsortOrdered_string_47 : XCode := .seq (.region [⟨(some 111), .rd (.mov (.t 16)), none, [], false⟩,
  ⟨(some 112), .rd (.mov (.t 17)), none, [], false⟩,
  ⟨(some 113), .rd (.bin .lss .other (.t 111) (.t 112)), none, [], false⟩]) slices_pdqsortOrdered_string_46
def slices_pdqsortOrdered_string_48 : XCode := .seq (.region [⟨(some 109), .rd (.mov (.t 10)), none, [], false⟩,
  ⟨(some 110), .rd (.bin .quo .other (.t 109) (.c (.int .i64 8))), none, [], false⟩,
  ⟨(some 18), .rd (.mov (.t 110)), none, [], false⟩]) slices_pdqsortOrdered_string_47
def slices_pdqsortOrdered_string_49 : XCode := .seq slices_pdqsortOrdered_string_35 (.keep [0, 1, 2, 3, 9, 10, 14, 16, 17] slices_pdqsortOrdered_string_48)
def slices_pdqsortOrdered_string_50 : XCode := .seq (.region [⟨(some 102), .rd (.mov (.t 15)), none, [], false⟩,
  ⟨(some 9), .rd (.mov (.t 102)), none, [], false⟩]) slices_pdqsortOrdered_string_49
def slices_pdqsortOrdered_string_51 : XCode := .seq slices_pdqsortOrdered_string_34 (.keep [0, 1, 2, 3, 10, 14, 15] slices_pdqsortOrdered_string_50)
def slices_pdqsortOrdered_string_52 : XCode := .seq slices_pdqsortOrdered_string_33 (.keep [0, 1, 2, 3, 10, 11] slices_pdqsortOrdered_string_51)
def slices_pdqsortOrdered_string_53 : XCode := .seq slices_pdqsortOrdered_string_27 (.keep [0, 1, 2, 3, 8, 9, 10, 11] slices_pdqsortOrdered_string_52)
def slices_pdqsortOrdered_string_54 : XCode := .seq slices_pdqsortOrdered_string_21 (.keep [0, 1, 2, 3, 8, 9, 10, 11, 12] slices_pdqsortOrdered_string_53)
def slices_pdqsortOrdered_string_55 : XCode := .seq slices_pdqsortOrdered_string_14 (.keep [0, 1, 2, 3, 8, 9, 10, 11, 12] slices_pdqsortOrdered_string_54)
def slices_pdqsortOrdered_string_56 : XCode := .seq slices_pdqsortOrdered_string_13 (.keep [0, 1, 2, 3, 8, 9, 10] slices_pdqsortOrdered_string_55)
def slices_pdqsortOrdered_string_57 : XCode := .seq slices_pdqsortOrdered_string_8 (.keep [0, 1, 2, 3, 8, 9, 10] slices_pdqsortOrdered_string_56)
def slices_pdqsortOrdered_string_58 : XCode := .seq slices_pdqsortOrdered_string_4 (.keep [0, 1, 2, 3, 8, 9, 10] slices_pdqsortOrdered_string_57)
def slices_pdqsortOrdered_string_59 : XCode := .seq slices_pdqsortOrdered_string_0 (.keep [0, 1, 2, 3, 8, 9, 10] slices_pdqsortOrdered_string_58)
def slices_pdqsortOrdered_string_60 : XCode := .seq (.region [⟨(some 9), .rd (.mov (.c (.bool true))), none, [], false⟩]) (.block 0 (.loop [0, 1, 2, 3, 8, 9] (.block 1 slices_pdqsortOrdered_string_59)))
def slices_pdqsortOrdered_string_61 : XCode := .seq (.region [⟨(some 8), .rd (.mov (.c (.bool true))), none, [], false⟩]) slices_pdqsortOrdered_string_60
def slices_pdqsortOrdered_string : XFun := ⟨4, slices_pdqsortOrdered_string_61, []⟩
theorem slices_pdqsortOrdered_string_ok : FunOk Tryz.prog slices_pdqsortOrdered_string_id slices_pdqsortOrdered_string := compFun_ok rfl E_ok (by kernel_rfl)

/-! ## 126 cmp.isNaN[string] -/
def cmp_isNaN_string_0 : XCode := .region [⟨(some 3), .rd (.mov (.t 0)), none, [], false⟩,
  ⟨(some 4), .rd (.mov (.t 0)), none, [], false⟩,
  ⟨(some 5), .rd (.bin .neq .other (.t 3) (.t 4)), none, [], false⟩,
  ⟨(some 2), .rd (.mov (.t 5)), none, [], false⟩]
def cmp_isNaN_string_1 : XCode := .seq cmp_isNaN_string_0 .ret
def cmp_isNaN_string_2 : XCode := .seq (.region [⟨(some 2), .rd (.mov (.c (.bool false))), none, [], false⟩]) cmp_isNaN_string_1
def cmp_isNaN_string : XFun := ⟨1, cmp_isNaN_string_2, [.tmp 2]⟩
theorem cmp_isNaN_string_ok : FunOk Tryz.prog cmp_isNaN_string_id cmp_isNaN_string := compFun_ok rfl E_ok (by kernel_rfl)

/-! ## 127 slices.insertionSortCmpFunc[[2]int] -/
def slices_insertionSortCmpFunc_ar2_int_0 : XCode := .cond (.t 14) .skip (.exit 0)
def slices_insertionSortCmpFunc_ar2_int_1 : XCode := .seq (.region [⟨(some 12), .rd (.mov (.t 8)), none, [], false⟩,
  ⟨(some 13), .rd (.mov (.t 2)), none, [], false⟩,
  ⟨(some 14), .rd (.bin .lss .other (.t 12) (.t 13)), none, [], false⟩]) slices_insertionSortCmpFunc_ar2_int_0
def slices_insertionSortCmpFunc_ar2_int_2 : XCode := .draw [⟨(some 18), .rd (.mov (.t 9)), none, [], false⟩,
  ⟨(some 19), .rd (.mov (.t 1)), none, [], false⟩,
  ⟨(some 20), .rd (.bin .gtr .other (.t 18) (.t 19)), none, [0, 1], false⟩,
  ⟨(some 21), .rd (.mov (.t 20)), none, [2, 0, 1], false⟩,
  ⟨(some 22), .rd (.mov (.t 3)), (some (21, true)), [3, 2, 0, 1], false⟩,
  ⟨(some 23), .rd (.mov (.t 0)), (some (21, true)), [3, 2, 0, 1], false⟩,
  ⟨(some 24), .rd (.mov (.t 9)), (some (21, true)), [3, 2, 0, 1], false⟩,
  ⟨(some 25), .rd (.idx 2 (.t 23) (.t 24)), (some (21, true)), [5, 6, 3, 2, 0, 1], false⟩,
  ⟨(some 26), .rd (.load 2 true (.t 25)), (some (21, true)), [7, 3, 5, 6, 2, 0, 1], false⟩,
  ⟨(some 27), .rd (.mov (.t 0)), (some (21, true)), [3, 2, 0, 1], false⟩,
  ⟨(some 28), .rd (.mov (.t 9)), (some (21, true)), [3, 2, 0, 1], false⟩,
  ⟨(some 29), .rd (.bin .sub .other (.t 28) (.c (.int .i64 1))), (some (21, true)), [10, 3, 2, 0, 1], false⟩,
  ⟨(some 30), .rd (.idx 2 (.t 27) (.t 29)), (some (21, true)), [9, 11, 3, 2, 0, 1, 10], false⟩,
  ⟨(some 31), .rd (.load 2 true (.t 30)), (some (21, true)), [12, 3, 9, 11, 2, 0, 1, 10], false⟩,
  ⟨(some 32), .callv (.t 22) [.t 26, .t 31], (some (21, true)), [4, 8, 13, 3, 2, 0, 1, 7, 5, 6, 12, 9, 11, 10], false⟩,
  ⟨(some 33), .rd (.bin .lss .other (.t 32) (.c (.int .i64 0))), (some (21, true)), [14, 3, 4, 8, 13, 2, 0, 1, 7, 5, 6, 12, 9, 11, 10], false⟩,
  ⟨(some 34), .rd (.pick (.t 21) (.t 33) (.c (.bool false))), none, [3, 15, 2, 0, 1, 14, 4, 8, 13, 7, 5, 6, 12, 9, 11, 10], false⟩]
def slices_insertionSortCmpFunc_ar2_int_3 : XCode := .cond (.t 34) .skip (.exit 2)
def slices_insertionSortCmpFunc_ar2_int_4 : XCode := .seq slices_insertionSortCmpFunc_ar2_int_2 (.keep [0, 1, 2, 3, 8, 9, 34] slices_insertionSortCmpFunc_ar2_int_3)
def slices_insertionSortCmpFunc_ar2_int_5 : XCode := .draw [⟨(some 37), .rd (.mov (.t 0)), none, [], false⟩,
  ⟨(some 38), .rd (.mov (.t 9)), none, [], false⟩,
  ⟨(some 39), .rd (.mov (.t 0)), none, [], false⟩,
  ⟨(some 40), .rd (.mov (.t 9)), none, [], false⟩,
  ⟨(some 41), .rd (.bin .sub .other (.t 40) (.c (.int .i64 1))), none, [3], false⟩,
  ⟨(some 42), .rd (.mov (.t 0)), none, [], false⟩,
  ⟨(some 43), .rd (.mov (.t 9)), none, [], false⟩,
  ⟨(some 44), .rd (.bin .sub .other (.t 43) (.c (.int .i64 1))), none, [6], false⟩,
  ⟨(some 45), .rd (.idx 2 (.t 42) (.t 44)), none, [5, 7, 6], false⟩,
  ⟨(some 46), .rd (.load 2 true (.t 45)), none, [8, 5, 7, 6], false⟩,
  ⟨(some 47), .rd (.mov (.t 0)), none, [], false⟩,
  ⟨(some 48), .rd (.mov (.t 9)), none, [], false⟩,
  ⟨(some 49), .rd (.idx 2 (.t 47) (.t 48)), none, [10, 11], false⟩,
  ⟨(some 50), .rd (.load 2 true (.t 49)), none, [12, 10, 11], false⟩,
  ⟨(some 51), .rd (.idx 2 (.t 37) (.t 38)), none, [0, 1, 5, 6, 7, 8, 9, 13, 12, 10, 11], false⟩,
  ⟨none, .ef (.store 2 (.t 51) (.t 46)), none, [14, 9, 0, 1, 5, 6, 7, 8, 13, 12, 10, 11], false⟩,
  ⟨(some 52), .rd (.idx 2 (.t 39) (.t 41)), none, [2, 4, 0, 1, 3, 5, 6, 7, 8, 9, 10, 11, 12, 13, 14, 15], false⟩,
  ⟨none, .ef (.store 2 (.t 52) (.t 50)), none, [16, 13, 15, 0, 1, 2, 3, 4, 5, 6, 7, 8, 9, 10, 11, 12, 14], false⟩]
def slices_insertionSortCmpFunc_ar2_int_6 : XCode := .region [⟨(some 35), .rd (.mov (.t 9)), none, [], false⟩,
  ⟨(some 36), .rd (.bin .sub .other (.t 35) (.c (.int .i64 1))), none, [], false⟩,
  ⟨(some 9), .rd (.mov (.t 36)), none, [], false⟩]
def slices_insertionSortCmpFunc_ar2_int_7 : XCode := .seq (.block 3 slices_insertionSortCmpFunc_ar2_int_5) (.keep [0, 1, 2, 3, 8, 9] slices_insertionSortCmpFunc_ar2_int_6)
def slices_insertionSortCmpFunc_ar2_int_8 : XCode := .seq slices_insertionSortCmpFunc_ar2_int_4 (.keep [0, 1, 2, 3, 8, 9] slices_insertionSortCmpFunc_ar2_int_7)
def slices_insertionSortCmpFunc_ar2_int_9 : XCode := .seq (.region [⟨(some 17), .rd (.mov (.t 8)), none, [], false⟩,
  ⟨(some 9), .rd (.mov (.t 17)), none, [], false⟩]) (.block 2 (.loop [0, 1, 2, 3, 8, 9] slices_insertionSortCmpFunc_ar2_int_8))
def slices_insertionSortCmpFunc_ar2_int_10 : XCode := .region [⟨(some 15), .rd (.mov (.t 8)), none, [], false⟩,
  ⟨(some 16), .rd (.bin .add .other (.t 15) (.c (.int .i64 1))), none, [], false⟩,
  ⟨(some 8), .rd (.mov (.t 16)), none, [], false⟩]
def slices_insertionSortCmpFunc_ar2_int_11 : XCode := .seq (.block 1 slices_insertionSortCmpFunc_ar2_int_9) (.keep [0, 1, 2, 3, 8] slices_insertionSortCmpFunc_ar2_int_10)
def slices_insertionSortCmpFunc_ar2_int_12 : XCode := .seq slices_insertionSortCmpFunc_ar2_int_1 (.keep [0, 1, 2, 3, 8] slices_insertionSortCmpFunc_ar2_int_11)
def slices_insertionSortCmpFunc_ar2_int_13 : XCode := .seq (.region [⟨(some 10), .rd (.mov (.t 1)), none, [], false⟩,
  ⟨(some 11), .rd (.bin .add .other (.t 10) (.c (.int .i64 1))), none, [], false⟩,
  ⟨(some 8), .rd (.mov (.t 11)), none, [], false⟩]) (.block 0 (.loop [0, 1, 2, 3, 8] slices_insertionSortCmpFunc_ar2_int_12))
def slices_insertionSortCmpFunc_ar2_int : XFun := ⟨4, slices_insertionSortCmpFunc_ar2_int_13, []⟩
theorem slices_insertionSortCmpFunc_ar2_int_ok : FunOk Tryz.prog slices_insertionSortCmpFunc_ar2_int_id slices_insertionSortCmpFunc_ar2_int := compFun_ok rfl E_ok (by kernel_rfl)

/-! ## 135 math/bits.Len32 -/
def math_bits_Len32_0 : XCode := .region [⟨(some 2), .rd (.mov (.c (.int .i64 16))), none, [], false⟩]
def math_bits_Len32_1 : XCode := .seq (.region [⟨(some 5), .rd (.mov (.t 0)), none, [], false⟩,
  ⟨(some 6), .rd (.bin .shr .other (.t 5) (.c (.int .u64 16))), none, [], false⟩,
  ⟨(some 0), .rd (.mov (.t 6)), none, [], false⟩]) math_bits_Len32_0
def math_bits_Len32_2 : XCode := .cond (.t 4) math_bits_Len32_1 .skip
def math_bits_Len32_3 : XCode := .seq (.region [⟨(some 3), .rd (.mov (.t 0)), none, [], false⟩,
  ⟨(some 4), .rd (.bin .geq .other (.t 3) (.c (.int .u32 65536))), none, [], false⟩]) math_bits_Len32_2
def math_bits_Len32_4 : XCode := .region [⟨(some 11), .rd (.mov (.t 2)), none, [], false⟩,
  ⟨(some 12), .rd (.bin .add .other (.t 11) (.c (.int .i64 8))), none, [], false⟩,
  ⟨(some 2), .rd (.mov (.t 12)), none, [], false⟩]
def math_bits_Len32_5 : XCode := .seq (.region [⟨(some 9), .rd (.mov (.t 0)), none, [], false⟩,
  ⟨(some 10), .rd (.bin .shr .other (.t 9) (.c (.int .u64 8))), none, [], false⟩,
  ⟨(some 0), .rd (.mov (.t 10)), none, [], false⟩]) math_bits_Len32_4
def math_bits_Len32_6 : XCode := .cond (.t 8) math_bits_Len32_5 .skip
def math_bits_Len32_7 : XCode := .seq (.region [⟨(some 7), .rd (.mov (.t 0)), none, [], false⟩,
  ⟨(some 8), .rd (.bin .geq .other (.t 7) (.c (.int .u32 256))), none, [], false⟩]) math_bits_Len32_6
def math_bits_Len32_8 : XCode := .region [⟨(some 13), .rd (.mov (.t 2)), none, [], false⟩,
  ⟨(some 14), .rd (.mov (.t 0)), none, [], false⟩,
  ⟨(some 15), .rd (.conv .u8 (.t 14)), none, [], false⟩,
  ⟨(some 16), .rd (.indexS (.c (.str [0, 1, 2, 2, 3, 3, 3, 3, 4, 4, 4, 4, 4, 4, 4, 4, 5, 5, 5, 5, 5, 5, 5, 5, 5, 5, 5, 5, 5, 5, 5, 5, 6, 6, 6, 6, 6, 6, 6, 6, 6, 6, 6, 6, 6, 6, 6, 6, 6, 6, 6, 6, 6, 6, 6, 6, 6, 6, 6, 6, 6, 6, 6, 6, 7, 7, 7, 7, 7, 7, 7, 7, 7, 7, 7, 7, 7, 7, 7, 7, 7, 7, 7, 7, 7, 7, 7, 7, 7, 7, 7, 7, 7, 7, 7, 7, 7, 7, 7, 7, 7, 7, 7, 7, 7, 7, 7, 7, 7, 7, 7, 7, 7, 7, 7, 7, 7, 7, 7, 7, 7, 7, 7, 7, 7, 7, 7, 7, 8, 8, 8, 8, 8, 8, 8, 8, 8, 8, 8, 8, 8, 8, 8, 8, 8, 8, 8, 8, 8, 8, 8, 8, 8, 8, 8, 8, 8, 8, 8, 8, 8, 8, 8, 8, 8, 8, 8, 8, 8, 8, 8, 8, 8, 8, 8, 8, 8, 8, 8, 8, 8, 8, 8, 8, 8, 8, 8, 8, 8, 8, 8, 8, 8, 8, 8, 8, 8, 8, 8, 8, 8, 8, 8, 8, 8, 8, 8, 8, 8, 8, 8, 8, 8, 8, 8, 8, 8, 8, 8, 8, 8, 8, 8, 8, 8, 8, 8, 8, 8, 8, 8, 8, 8, 8, 8, 8, 8, 8, 8, 8, 8, 8, 8, 8, 8, 8, 8, 8, 8, 8, 8, 8, 8, 8, 8, 8])) (.t 15)), none, [], false⟩,
  ⟨(some 17), .rd (.conv .i64 (.t 16)), none, [], false⟩,
  ⟨(some 18), .rd (.bin .add .other (.t 13) (.t 17)), none, [], false⟩,
  ⟨(some 2), .rd (.mov (.t 18)), none, [], false⟩]
def math_bits_Len32_9 : XCode := .seq math_bits_Len32_8 .ret
def math_bits_Len32_10 : XCode := .seq math_bits_Len32_7 (.keep [0, 2] math_bits_Len32_9)
def math_bits_Len32_11 : XCode := .seq math_bits_Len32_3 (.keep [0, 2] math_bits_Len32_10)
def math_bits_Len32_12 : XCode := .seq (.region [⟨(some 2), .rd (.mov (.c (.int .i64 0))), none, [], false⟩]) math_bits_Len32_11
def math_bits_Len32 : XFun := ⟨1, math_bits_Len32_12, [.tmp 2]⟩
theorem math_bits_Len32_ok : FunOk Tryz.prog math_bits_Len32_id math_bits_Len32 := compFun_ok rfl E_ok (by kernel_rfl)

/-! ## 136 math/bits.Len64 -/
def math_bits_Len64_0 : XCode := .region [⟨(some 2), .rd (.mov (.c (.int .i64 32))), none, [], false⟩]
def math_bits_Len64_1 : XCode := .seq (.region [⟨(some 5), .rd (.mov (.t 0)), none, [], false⟩,
  ⟨(some 6), .rd (.bin .shr .other (.t 5) (.c (.int .u64 32))), none, [], false⟩,
  ⟨(some 0), .rd (.mov (.t 6)), none, [], false⟩]) math_bits_Len64_0
def math_bits_Len64_2 : XCode := .cond (.t 4) math_bits_Len64_1 .skip
def math_bits_Len64_3 : XCode := .seq (.region [⟨(some 3), .rd (.mov (.t 0)), none, [], false⟩,
  ⟨(some 4), .rd (.bin .geq .other (.t 3) (.c (.int .u64 4294967296))), none, [], false⟩]) math_bits_Len64_2
def math_bits_Len64_4 : XCode := .region [⟨(some 11), .rd (.mov (.t 2)), none, [], false⟩,
  ⟨(some 12), .rd (.bin .add .other (.t 11) (.c (.int .i64 16))), none, [], false⟩,
  ⟨(some 2), .rd (.mov (.t 12)), none, [], false⟩]
def math_bits_Len64_5 : XCode := .seq (.region [⟨(some 9), .rd (.mov (.t 0)), none, [], false⟩,
  ⟨(some 10), .rd (.bin .shr .other (.t 9) (.c (.int .u64 16))), none, [], false⟩,
  ⟨(some 0), .rd (.mov (.t 10)), none, [], false⟩]) math_bits_Len64_4
def math_bits_Len64_6 : XCode := .cond (.t 8) math_bits_Len64_5 .skip
def math_bits_Len64_7 : XCode := .seq (.region [⟨(some 7), .rd (.mov (.t 0)), none, [], false⟩,
  ⟨(some 8), .rd (.bin .geq .other (.t 7) (.c (.int .u64 65536))), none, [], false⟩]) math_bits_Len64_6
def math_bits_Len64_8 : XCode := .region [⟨(some 17), .rd (.mov (.t 2)), none, [], false⟩,
  ⟨(some 18), .rd (.bin .add .other (.t 17) (.c (.int .i64 8))), none, [], false⟩,
  ⟨(some 2), .rd (.mov (.t 18)), none, [], false⟩]
def math_bits_Len64_9 : XCode := .seq (.region [⟨(some 15), .rd (.mov (.t 0)), none, [], false⟩,
  ⟨(some 16), .rd (.bin .shr .other (.t 15) (.c (.int .u64 8))), none, [], false⟩,
  ⟨(some 0), .rd (.mov (.t 16)), none, [], false⟩]) math_bits_Len64_8
def math_bits_Len64_10 : XCode := .cond (.t 14) math_bits_Len64_9 .skip
def math_bits_Len64_11 : XCode := .seq (.region [⟨(some 13), .rd (.mov (.t 0)), none, [], false⟩,
  ⟨(some 14), .rd (.bin .geq .other (.t 13) (.c (.int .u64 256))), none, [], false⟩]) math_bits_Len64_10
def math_bits_Len64_12 : XCode := .region [⟨(some 19), .rd (.mov (.t 2)), none, [], false⟩,
  ⟨(some 20), .rd (.mov (.t 0)), none, [], false⟩,
  ⟨(some 21), .rd (.conv .u8 (.t 20)), none, [], false⟩,
  ⟨(some 22), .rd (.indexS (.c (.str [0, 1, 2, 2, 3, 3, 3, 3, 4, 4, 4, 4, 4, 4, 4, 4, 5, 5, 5, 5, 5, 5, 5, 5, 5, 5, 5, 5, 5, 5, 5, 5, 6, 6, 6, 6, 6, 6, 6, 6, 6, 6, 6, 6, 6, 6, 6, 6, 6, 6, 6, 6, 6, 6, 6, 6, 6, 6, 6, 6, 6, 6, 6, 6, 7, 7, 7, 7, 7, 7, 7, 7, 7, 7, 7, 7, 7, 7, 7, 7, 7, 7, 7, 7, 7, 7, 7, 7, 7, 7, 7, 7, 7, 7, 7, 7, 7, 7, 7, 7, 7, 7, 7, 7, 7, 7, 7, 7, 7, 7, 7, 7, 7, 7, 7, 7, 7, 7, 7, 7, 7, 7, 7, 7, 7, 7, 7, 7, 8, 8, 8, 8, 8, 8, 8, 8, 8, 8, 8, 8, 8, 8, 8, 8, 8, 8, 8, 8, 8, 8, 8, 8, 8, 8, 8, 8, 8, 8, 8, 8, 8, 8, 8, 8, 8, 8, 8, 8, 8, 8, 8, 8, 8, 8, 8, 8, 8, 8, 8, 8, 8, 8, 8, 8, 8, 8, 8, 8, 8, 8, 8, 8, 8, 8, 8, 8, 8, 8, 8, 8, 8, 8, 8, 8, 8, 8, 8, 8, 8, 8, 8, 8, 8, 8, 8, 8, 8, 8, 8, 8, 8, 8, 8, 8, 8, 8, 8, 8, 8, 8, 8, 8, 8, 8, 8, 8, 8, 8, 8, 8, 8, 8, 8, 8, 8, 8, 8, 8, 8, 8, 8, 8, 8, 8, 8, 8])) (.t 21)), none, [], false⟩,
  ⟨(some 23), .rd (.conv .i64 (.t 22)), none, [], false⟩,
  ⟨(some 24), .rd (.bin .add .other (.t 19) (.t 23)), none, [], false⟩,
  ⟨(some 2), .rd (.mov (.t 24)), none, [], false⟩]
def math_bits_Len64_13 : XCode := .seq math_bits_Len64_12 .ret
def math_bits_Len64_14 : XCode := .seq math_bits_Len64_11 (.keep [0, 2] math_bits_Len64_13)
def math_bits_Len64_15 : XCode := .seq math_bits_Len64_7 (.keep [0, 2] math_bits_Len64_14)
def math_bits_Len64_16 : XCode := .seq math_bits_Len64_3 (.keep [0, 2] math_bits_Len64_15)
def math_bits_Len64_17 : XCode := .seq (.region [⟨(some 2), .rd (.mov (.c (.int .i64 0))), none, [], false⟩]) math_bits_Len64_16
def math_bits_Len64 : XFun := ⟨1, math_bits_Len64_17, [.tmp 2]⟩
theorem math_bits_Len64_ok : FunOk Tryz.prog math_bits_Len64_id math_bits_Len64 := compFun_ok rfl E_ok (by kernel_rfl)

/-! ## 137 cmp.isNaN[int] -/
def cmp_isNaN_int_0 : XCode := .region [⟨(some 3), .rd (.mov (.t 0)), none, [], false⟩,
  ⟨(some 4), .rd (.mov (.t 0)), none, [], false⟩,
  ⟨(some 5), .rd (.bin .neq .other (.t 3) (.t 4)), none, [], false⟩,
  ⟨(some 2), .rd (.mov (.t 5)), none, [], false⟩]
def cmp_isNaN_int_1 : XCode := .seq cmp_isNaN_int_0 .ret
def cmp_isNaN_int_2 : XCode := .seq (.region [⟨(some 2), .rd (.mov (.c (.bool false))), none, [], false⟩]) cmp_isNaN_int_1
def cmp_isNaN_int : XFun := ⟨1, cmp_isNaN_int_2, [.tmp 2]⟩
theorem cmp_isNaN_int_ok : FunOk Tryz.prog cmp_isNaN_int_id cmp_isNaN_int := compFun_ok rfl E_ok (by kernel_rfl)

/-! ## 139 slices.Grow[[]antecedent/api.Term,antecedent/api.Term] -/
def slices_Grow_api_Term_0 : XCode := .region [⟨(some 7), .bad, none, [], false⟩,
  ⟨none, .bad, none, [], false⟩]
def slices_Grow_api_Term_1 : XCode := .cond (.t 6) slices_Grow_api_Term_0 .skip
def slices_Grow_api_Term_2 : XCode := .seq (.region [⟨(some 5), .rd (.mov (.t 1)), none, [], false⟩,
  ⟨(some 6), .rd (.bin .lss .other (.t 5) (.c (.int .i64 0))), none, [], false⟩]) slices_Grow_api_Term_1
def slices_Grow_api_Term_3 : XCode := .region [⟨(some 8), .rd (.mov (.t 1)), none, [], false⟩,
  ⟨(some 9), .rd (.mov (.t 0)), none, [], false⟩,
  ⟨(some 10), .rd (.capL (.t 9)), none, [], false⟩,
  ⟨(some 11), .rd (.mov (.t 0)), none, [], false⟩,
  ⟨(some 12), .rd (.lenL (.t 11)), none, [], false⟩,
  ⟨(some 13), .rd (.bin .sub .other (.t 10) (.t 12)), none, [], false⟩,
  ⟨(some 14), .rd (.bin .sub .other (.t 8) (.t 13)), none, [], false⟩,
  ⟨(some 1), .rd (.mov (.t 14)), none, [], false⟩]
def slices_Grow_api_Term_4 : XCode := .region [⟨(some 17), .rd (.mov (.t 0)), none, [], false⟩,
  ⟨(some 18), .rd (.mov (.t 0)), none, [], false⟩,
  ⟨(some 19), .rd (.capL (.t 18)), none, [], false⟩,
  ⟨(some 20), .rd (.slice 4 (.t 17) none (some (.t 19)) none), none, [], false⟩,
  ⟨(some 21), .rd (.mov (.t 1)), none, [], false⟩,
  ⟨(some 22), .ef (.appendZ T_api_Term 4 48 [.str [], .int .i64 0, .int .i64 0, .str []] (.t 20) (.t 21)), none, [], false⟩,
  ⟨(some 23), .rd (.mov (.t 0)), none, [], false⟩,
  ⟨(some 24), .rd (.lenL (.t 23)), none, [], false⟩,
  ⟨(some 25), .rd (.slice 4 (.t 22) none (some (.t 24)) none), none, [], false⟩,
  ⟨(some 0), .rd (.mov (.t 25)), none, [], false⟩]
def slices_Grow_api_Term_5 : XCode := .cond (.t 16) slices_Grow_api_Term_4 .skip
def slices_Grow_api_Term_6 : XCode := .seq (.region [⟨(some 15), .rd (.mov (.t 1)), none, [], false⟩,
  ⟨(some 16), .rd (.bin .gtr .other (.t 15) (.c (.int .i64 0))), none, [], false⟩]) slices_Grow_api_Term_5
def slices_Grow_api_Term_7 : XCode := .seq slices_Grow_api_Term_3 (.keep [0, 1] slices_Grow_api_Term_6)
def slices_Grow_api_Term_8 : XCode := .seq (.region [⟨(some 26), .rd (.mov (.t 0)), none, [], false⟩,
  ⟨(some 4), .rd (.mov (.t 26)), none, [], false⟩]) .ret
def slices_Grow_api_Term_9 : XCode := .seq slices_Grow_api_Term_7 (.keep [0] slices_Grow_api_Term_8)
def slices_Grow_api_Term_10 : XCode := .seq slices_Grow_api_Term_2 (.keep [0, 1] slices_Grow_api_Term_9)
def slices_Grow_api_Term_11 : XCode := .seq (.region [⟨(some 4), .rd (.mov (.c (.nilslice))), none, [], false⟩]) slices_Grow_api_Term_10
def slices_Grow_api_Term : XFun := ⟨2, slices_Grow_api_Term_11, [.tmp 4]⟩
theorem slices_Grow_api_Term_ok : FunOk Tryz.prog slices_Grow_api_Term_id slices_Grow_api_Term := compFun_ok rfl E_ok (by kernel_rfl)

/-! ## 140 slices.insertionSortOrdered[string] -/
def slices_insertionSortOrdered_string_0 : XCode := .cond (.t 12) .skip (.exit 0)
def slices_insertionSortOrdered_string_1 : XCode := .seq (.region [⟨(some 10), .rd (.mov (.t 6)), none, [], false⟩,
  ⟨(some 11), .rd (.mov (.t 2)), none, [], false⟩,
  ⟨(some 12), .rd (.bin .lss .other (.t 10) (.t 11)), none, [], false⟩]) slices_insertionSortOrdered_string_0
def slices_insertionSortOrdered_string_2 : XCode := .draw [⟨(some 16), .rd (.mov (.t 7)), none, [], false⟩,
  ⟨(some 17), .rd (.mov (.t 1)), none, [], false⟩,
  ⟨(some 18), .rd (.bin .gtr .other (.t 16) (.t 17)), none, [0, 1], false⟩,
  ⟨(some 19), .rd (.mov (.t 18)), none, [2, 0, 1], false⟩,
  ⟨(some 20), .rd (.mov (.t 0)), (some (19, true)), [3, 2, 0, 1], false⟩,
  ⟨(some 21), .rd (.mov (.t 7)), (some (19, true)), [3, 2, 0, 1], false⟩,
  ⟨(some 22), .rd (.idx 1 (.t 20) (.t 21)), (some (19, true)), [4, 5, 3, 2, 0, 1], false⟩,
  ⟨(some 23), .rd (.load 1 false (.t 22)), (some (19, true)), [6, 3, 4, 5, 2, 0, 1], false⟩,
  ⟨(some 24), .rd (.mov (.t 0)), (some (19, true)), [3, 2, 0, 1], false⟩,
  ⟨(some 25), .rd (.mov (.t 7)), (some (19, true)), [3, 2, 0, 1], false⟩,
  ⟨(some 26), .rd (.bin .sub .other (.t 25) (.c (.int .i64 1))), (some (19, true)), [9, 3, 2, 0, 1], false⟩,
  ⟨(some 27), .rd (.idx 1 (.t 24) (.t 26)), (some (19, true)), [8, 10, 3, 2, 0, 1, 9], false⟩,
  ⟨(some 28), .rd (.load 1 false (.t 27)), (some (19, true)), [11, 3, 8, 10, 2, 0, 1, 9], false⟩,
  ⟨(some 29), .call cmp_Less_string_id [.t 23, .t 28], (some (19, true)), [7, 12, 3, 6, 4, 5, 2, 0, 1, 11, 8, 10, 9], false⟩,
  ⟨(some 30), .rd (.pick (.t 19) (.t 29) (.c (.bool false))), none, [3, 13, 2, 0, 1, 7, 12, 6, 4, 5, 11, 8, 10, 9], false⟩]
def slices_insertionSortOrdered_string_3 : XCode := .cond (.t 30) .skip (.exit 2)
def slices_insertionSortOrdered_string_4 : XCode := .seq slices_insertionSortOrdered_string_2 (.keep [0, 1, 2, 6, 7, 30] slices_insertionSortOrdered_string_3)
def slices_insertionSortOrdered_string_5 : XCode := .draw [⟨(some 33), .rd (.mov (.t 0)), none, [], false⟩,
  ⟨(some 34), .rd (.mov (.t 7)), none, [], false⟩,
  ⟨(some 35), .rd (.mov (.t 0)), none, [], false⟩,
  ⟨(some 36), .rd (.mov (.t 7)), none, [], false⟩,
  ⟨(some 37), .rd (.bin .sub .other (.t 36) (.c (.int .i64 1))), none, [3], false⟩,
  ⟨(some 38), .rd (.mov (.t 0)), none, [], false⟩,
  ⟨(some 39), .rd (.mov (.t 7)), none, [], false⟩,
  ⟨(some 40), .rd (.bin .sub .other (.t 39) (.c (.int .i64 1))), none, [6], false⟩,
  ⟨(some 41), .rd (.idx 1 (.t 38) (.t 40)), none, [5, 7, 6], false⟩,
  ⟨(some 42), .rd (.load 1 false (.t 41)), none, [8, 5, 7, 6], false⟩,
  ⟨(some 43), .rd (.mov (.t 0)), none, [], false⟩,
  ⟨(some 44), .rd (.mov (.t 7)), none, [], false⟩,
  ⟨(some 45), .rd (.idx 1 (.t 43) (.t 44)), none, [10, 11], false⟩,
  ⟨(some 46), .rd (.load 1 false (.t 45)), none, [12, 10, 11], false⟩,
  ⟨(some 47), .rd (.idx 1 (.t 33) (.t 34)), none, [0, 1, 5, 6, 7, 8, 9, 13, 12, 10, 11], false⟩,
  ⟨none, .ef (.store 1 (.t 47) (.t 42)), none, [14, 9, 0, 1, 5, 6, 7, 8, 13, 12, 10, 11], false⟩,
  ⟨(some 48), .rd (.idx 1 (.t 35) (.t 37)), none, [2, 4, 0, 1, 3, 5, 6, 7, 8, 9, 10, 11, 12, 13, 14, 15], false⟩,
  ⟨none, .ef (.store 1 (.t 48) (.t 46)), none, [16, 13, 15, 0, 1, 2, 3, 4, 5, 6, 7, 8, 9, 10, 11, 12, 14], false⟩]
def slices_insertionSortOrdered_string_6 : XCode := .region [⟨(some 31), .rd (.mov (.t 7)), none, [], false⟩,
  ⟨(some 32), .rd (.bin .sub .other (.t 31) (.c (.int .i64 1))), none, [], false⟩,
  ⟨(some 7), .rd (.mov (.t 32)), none, [], false⟩]
def slices_insertionSortOrdered_string_7 : XCode := .seq (.block 3 slices_insertionSortOrdered_string_5) (.keep [0, 1, 2, 6, 7] slices_insertionSortOrdered_string_6)
def slices_insertionSortOrdered_string_8 : XCode := .seq slices_insertionSortOrdered_string_4 (.keep [0, 1, 2, 6, 7] slices_insertionSortOrdered_string_7)
def slices_insertionSortOrdered_string_9 : XCode := .seq (.region [⟨(some 15), .rd (.mov (.t 6)), none, [], false⟩,
  ⟨(some 7), .rd (.mov (.t 15)), none, [], false⟩]) (.block 2 (.loop [0, 1, 2, 6, 7] slices_insertionSortOrdered_string_8))
def slices_insertionSortOrdered_string_10 : XCode := .region [⟨(some 13), .rd (.mov (.t 6)), none, [], false⟩,
  ⟨(some 14), .rd (.bin .add .other (.t 13) (.c (.int .i64 1))), none, [], false⟩,
  ⟨(some 6), .rd (.mov (.t 14)), none, [], false⟩]
def slices_insertionSortOrdered_string_11 : XCode := .seq (.block 1 slices_insertionSortOrdered_string_9) (.keep [0, 1, 2, 6] slices_insertionSortOrdered_string_10)
def slices_insertionSortOrdered_string_12 : XCode := .seq slices_insertionSortOrdered_string_1 (.keep [0, 1, 2, 6] slices_insertionSortOrdered_string_11)
def slices_insertionSortOrdered_string_13 : XCode := .seq (.region [⟨(some 8), .rd (.mov (.t 1)), none, [], false⟩,
  ⟨(some 9), .rd (.bin .add .other (.t 8) (.c (.int .i64 1))), none, [], false⟩,
  ⟨(some 6), .rd (.mov (.t 9)), none, [], false⟩]) (.block 0 (.loop [0, 1, 2, 6] slices_insertionSortOrdered_string_12))
def slices_insertionSortOrdered_string : XFun := ⟨3, slices_insertionSortOrdered_string_13, []⟩
theorem slices_insertionSortOrdered_string_ok : FunOk Tryz.prog slices_insertionSortOrdered_string_id slices_insertionSortOrdered_string := compFun_ok rfl E_ok (by kernel_rfl)

def T : FuncId → Option XFun
  | 3 => some law17_MagicNames
  | 7 => some law17_awake
  | 8 => some magic_Given
  | 9 => some ref16_Given
  | 10 => some magic_Asked
  | 11 => some ref17_Asked
  | 12 => some magic_Found
  | 13 => some ref17_Found
  | 15 => some magic_Rewrite
  | 17 => some magic_Prefix
  | 26 => some adorn_Open
  | 27 => some adorn_Demands
  | 28 => some adorn_Prune
  | 29 => some magic_book_use
  | 30 => some magic_book_rules
  | 31 => some magic_Rewrite_f1
  | 32 => some slices_ContainsFunc_api_Rule
  | 33 => some magic_Rewrite_f1_f1
  | 35 => some strata_Names
  | 36 => some slices_ContainsFunc_string
  | 37 => some magic_Prefix_f1
  | 38 => some strings_HasPrefix
  | 46 => some strata_Needs
  | 47 => some adorn_closed
  | 48 => some comps_Reach
  | 49 => some slices_ContainsFunc_int
  | 50 => some adorn_Open_f1
  | 51 => some slices_Contains_string
  | 52 => some adorn_Pattern
  | 53 => some adorn_bound
  | 54 => some slices_Contains_adorn_Demand
  | 55 => some safe_Binds
  | 56 => some adorn_Prune_f1
  | 57 => some adorn_Demand_covers
  | 58 => some slices_ContainsFunc_adorn_Demand
  | 59 => some adorn_Use
  | 60 => some magic_holds
  | 61 => some safe_Vars
  | 62 => some slices_IndexFunc_api_Rule
  | 63 => some strata_each
  | 64 => some strata_Names_f1
  | 65 => some strata_sorted
  | 66 => some slices_IndexFunc_string
  | 67 => some stringslite_HasPrefix
  | 77 => some slices_BinarySearch_string
  | 78 => some strata_Needs_f1
  | 79 => some slices_SortFunc_sl_ar2_int_ar2_int
  | 80 => some strata_Needs_f2
  | 81 => some slices_Compare_int
  | 82 => some slices_Compact_sl_ar2_int_ar2_int
  | 83 => some slices_ContainsFunc_api_Literal
  | 84 => some adorn_closed_f1
  | 85 => some comps_seen
  | 86 => some comps_lists
  | 87 => some comps_held
  | 88 => some slices_IndexFunc_int
  | 89 => some slices_Index_string
  | 90 => some p_strings_Builder_WriteString
  | 91 => some p_strings_Builder_String
  | 92 => some slices_Index_adorn_Demand
  | 93 => some safe_names
  | 94 => some safe_terms
  | 95 => some slices_IndexFunc_adorn_Demand
  | 96 => some adorn_Use_f1
  | 97 => some strata_Uses
  | 98 => some slices_Sort_string
  | 99 => some slices_Compact_string
  | 109 => some cmp_Less_string
  | 110 => some slices_isNaN_string
  | 111 => some slices_pdqsortCmpFunc_ar2_int
  | 112 => some math_bits_Len
  | 113 => some cmp_Compare_int
  | 114 => some slices_IndexFunc_api_Literal
  | 115 => some p_strings_Builder_copyCheck
  | 116 => some slices_Clone_string
  | 117 => some slices_Concat_api_Term
  | 118 => some slices_pdqsortOrdered_string
  | 126 => some cmp_isNaN_string
  | 127 => some slices_insertionSortCmpFunc_ar2_int
  | 135 => some math_bits_Len32
  | 136 => some math_bits_Len64
  | 137 => some cmp_isNaN_int
  | 139 => some slices_Grow_api_Term
  | 140 => some slices_insertionSortOrdered_string
  | _ => none
theorem T_ok : ∀ f x, T f = some x → FunOk Tryz.prog f x := by
  intro f x h
  unfold T at h
  split at h
  · cases h; exact law17_MagicNames_ok
  · cases h; exact law17_awake_ok
  · cases h; exact magic_Given_ok
  · cases h; exact ref16_Given_ok
  · cases h; exact magic_Asked_ok
  · cases h; exact ref17_Asked_ok
  · cases h; exact magic_Found_ok
  · cases h; exact ref17_Found_ok
  · cases h; exact magic_Rewrite_ok
  · cases h; exact magic_Prefix_ok
  · cases h; exact adorn_Open_ok
  · cases h; exact adorn_Demands_ok
  · cases h; exact adorn_Prune_ok
  · cases h; exact magic_book_use_ok
  · cases h; exact magic_book_rules_ok
  · cases h; exact magic_Rewrite_f1_ok
  · cases h; exact slices_ContainsFunc_api_Rule_ok
  · cases h; exact magic_Rewrite_f1_f1_ok
  · cases h; exact strata_Names_ok
  · cases h; exact slices_ContainsFunc_string_ok
  · cases h; exact magic_Prefix_f1_ok
  · cases h; exact strings_HasPrefix_ok
  · cases h; exact strata_Needs_ok
  · cases h; exact adorn_closed_ok
  · cases h; exact comps_Reach_ok
  · cases h; exact slices_ContainsFunc_int_ok
  · cases h; exact adorn_Open_f1_ok
  · cases h; exact slices_Contains_string_ok
  · cases h; exact adorn_Pattern_ok
  · cases h; exact adorn_bound_ok
  · cases h; exact slices_Contains_adorn_Demand_ok
  · cases h; exact safe_Binds_ok
  · cases h; exact adorn_Prune_f1_ok
  · cases h; exact adorn_Demand_covers_ok
  · cases h; exact slices_ContainsFunc_adorn_Demand_ok
  · cases h; exact adorn_Use_ok
  · cases h; exact magic_holds_ok
  · cases h; exact safe_Vars_ok
  · cases h; exact slices_IndexFunc_api_Rule_ok
  · cases h; exact strata_each_ok
  · cases h; exact strata_Names_f1_ok
  · cases h; exact strata_sorted_ok
  · cases h; exact slices_IndexFunc_string_ok
  · cases h; exact stringslite_HasPrefix_ok
  · cases h; exact slices_BinarySearch_string_ok
  · cases h; exact strata_Needs_f1_ok
  · cases h; exact slices_SortFunc_sl_ar2_int_ar2_int_ok
  · cases h; exact strata_Needs_f2_ok
  · cases h; exact slices_Compare_int_ok
  · cases h; exact slices_Compact_sl_ar2_int_ar2_int_ok
  · cases h; exact slices_ContainsFunc_api_Literal_ok
  · cases h; exact adorn_closed_f1_ok
  · cases h; exact comps_seen_ok
  · cases h; exact comps_lists_ok
  · cases h; exact comps_held_ok
  · cases h; exact slices_IndexFunc_int_ok
  · cases h; exact slices_Index_string_ok
  · cases h; exact p_strings_Builder_WriteString_ok
  · cases h; exact p_strings_Builder_String_ok
  · cases h; exact slices_Index_adorn_Demand_ok
  · cases h; exact safe_names_ok
  · cases h; exact safe_terms_ok
  · cases h; exact slices_IndexFunc_adorn_Demand_ok
  · cases h; exact adorn_Use_f1_ok
  · cases h; exact strata_Uses_ok
  · cases h; exact slices_Sort_string_ok
  · cases h; exact slices_Compact_string_ok
  · cases h; exact cmp_Less_string_ok
  · cases h; exact slices_isNaN_string_ok
  · cases h; exact slices_pdqsortCmpFunc_ar2_int_ok
  · cases h; exact math_bits_Len_ok
  · cases h; exact cmp_Compare_int_ok
  · cases h; exact slices_IndexFunc_api_Literal_ok
  · cases h; exact p_strings_Builder_copyCheck_ok
  · cases h; exact slices_Clone_string_ok
  · cases h; exact slices_Concat_api_Term_ok
  · cases h; exact slices_pdqsortOrdered_string_ok
  · cases h; exact cmp_isNaN_string_ok
  · cases h; exact slices_insertionSortCmpFunc_ar2_int_ok
  · cases h; exact math_bits_Len32_ok
  · cases h; exact math_bits_Len64_ok
  · cases h; exact cmp_isNaN_int_ok
  · cases h; exact slices_Grow_api_Term_ok
  · cases h; exact slices_insertionSortOrdered_string_ok
  · cases h
end Go.Am.Z
