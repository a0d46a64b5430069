/- The functions of the program, as texts of the abstract machine; each is checked against the program. -/
import Derived.Test.YtafedebfkdnpfaaAmN
import Derived.Test.YtafedebfkdnpfaaProg
namespace Go.Am.A
open Go Go.Proofs Go.Am
def E : TypeId → Option (List CK)
  | 40 => (some [(.int .i64), (.int .i64)])
  | 56 => (some [.str, .str])
  | _ => none
theorem E_ok : ∀ t ks, E t = some ks → EqOk Try.prog t ks := by
  intro t ks h
  unfold E at h
  split at h
  · cases h
    exact EqOk_array (n := 2) (e := 3) (k := .int .i64) (by kernel_rfl) Try.underlying40 (by kernel_rfl) rfl
  · cases h
    exact EqOk_nst (by kernel_rfl) (by kernel_rfl) (by kernel_rfl)
  · cases h
abbrev law13_StrataNames_id : FuncId := 4
abbrev law13_awake_id : FuncId := 6
abbrev law13_few_id : FuncId := 7
abbrev strata_Strata_id : FuncId := 8
abbrev strata_Names_id : FuncId := 9
abbrev law13_StrataNames_f1_id : FuncId := 10
abbrev strata_Needs_id : FuncId := 11
abbrev strata_Uses_id : FuncId := 12
abbrev law13_awake_f1_id : FuncId := 20
abbrev ref13_Same_id : FuncId := 21
abbrev ref09_Few_id : FuncId := 22
abbrev comps_Comps_id : FuncId := 23
abbrev slices_ContainsFunc_api_Literal_id : FuncId := 24
abbrev strata_Strata_f1_id : FuncId := 25
abbrev strata_each_id : FuncId := 26
abbrev strata_Strata_f2_id : FuncId := 27
abbrev comps_Lists_id : FuncId := 28
abbrev strata_Names_f1_id : FuncId := 29
abbrev strata_sorted_id : FuncId := 30
abbrev slices_BinarySearch_string_id : FuncId := 31
abbrev strata_Needs_f1_id : FuncId := 32
abbrev slices_SortFunc_sl_ar2_int_ar2_int_id : FuncId := 33
abbrev strata_Needs_f2_id : FuncId := 34
abbrev slices_Compare_int_id : FuncId := 35
abbrev slices_Compact_sl_ar2_int_ar2_int_id : FuncId := 36
abbrev slices_ContainsFunc_int_id : FuncId := 45
abbrev ref11_Same_id : FuncId := 49
abbrev comps_held_id : FuncId := 50
abbrev comps_lists_id : FuncId := 51
abbrev comps_seen_id : FuncId := 52
abbrev comps_Comps_f1_id : FuncId := 53
abbrev comps_Comps_f1_f1_id : FuncId := 54
abbrev comps_Comps_f1_f1_f1_id : FuncId := 55
abbrev slices_IndexFunc_api_Literal_id : FuncId := 56
abbrev slices_Sort_string_id : FuncId := 57
abbrev slices_Compact_string_id : FuncId := 58
abbrev cmp_Less_string_id : FuncId := 59
abbrev slices_isNaN_string_id : FuncId := 60
abbrev slices_pdqsortCmpFunc_ar2_int_id : FuncId := 61
abbrev math_bits_Len_id : FuncId := 62
abbrev cmp_Compare_int_id : FuncId := 63
abbrev slices_IndexFunc_int_id : FuncId := 75
abbrev slices_pdqsortOrdered_string_id : FuncId := 77
abbrev cmp_isNaN_string_id : FuncId := 78
abbrev slices_insertionSortCmpFunc_ar2_int_id : FuncId := 79
abbrev slices_heapSortCmpFunc_ar2_int_id : FuncId := 80
abbrev slices_breakPatternsCmpFunc_ar2_int_id : FuncId := 81
abbrev slices_choosePivotCmpFunc_ar2_int_id : FuncId := 82
abbrev slices_reverseRangeCmpFunc_ar2_int_id : FuncId := 83
abbrev slices_partialInsertionSortCmpFunc_ar2_int_id : FuncId := 84
abbrev slices_partitionEqualCmpFunc_ar2_int_id : FuncId := 85
abbrev slices_partitionCmpFunc_ar2_int_id : FuncId := 86
abbrev math_bits_Len32_id : FuncId := 87
abbrev math_bits_Len64_id : FuncId := 88
abbrev cmp_isNaN_int_id : FuncId := 89
abbrev slices_insertionSortOrdered_string_id : FuncId := 93
abbrev slices_heapSortOrdered_string_id : FuncId := 94
abbrev slices_breakPatternsOrdered_string_id : FuncId := 95
abbrev slices_choosePivotOrdered_string_id : FuncId := 96
abbrev slices_reverseRangeOrdered_string_id : FuncId := 97
abbrev slices_partialInsertionSortOrdered_string_id : FuncId := 98
abbrev slices_partitionEqualOrdered_string_id : FuncId := 99
abbrev slices_partitionOrdered_string_id : FuncId := 100
abbrev T_int : TypeId := 3
abbrev T_bool : TypeId := 4
abbrev T_string : TypeId := 9
abbrev T_api_Atom : TypeId := 25
abbrev T_api_Program : TypeId := 27
abbrev T_sl_string : TypeId := 34
abbrev T_sl_ar2_int : TypeId := 38
abbrev T_ar2_int : TypeId := 40
abbrev T_api_Rule : TypeId := 43
abbrev T_api_Literal : TypeId := 50
abbrev T_sl_int : TypeId := 62
abbrev T_map_string_int : TypeId := 64
abbrev T_sl_sl_int : TypeId := 69
abbrev T_api_Step : TypeId := 79
/-! ## 4 antecedent/antecedentlaw13.StrataNames -/
def law13_StrataNames_0 : XCode := .region [⟨(some 22), .call law13_awake_id [], none, [], false⟩,
  ⟨(some 23), .rd (.un .not (.t 22)), none, [], false⟩,
  ⟨(some 24), .rd (.mov (.t 23)), none, [], false⟩,
  ⟨(some 25), .rd (.load 3 true (.t 1)), (some (24, false)), [], false⟩,
  ⟨(some 26), .call law13_few_id [.t 25], (some (24, false)), [], false⟩,
  ⟨(some 27), .rd (.un .not (.t 26)), (some (24, false)), [], false⟩,
  ⟨(some 28), .rd (.pick (.t 24) (.c (.bool true)) (.t 27)), none, [], false⟩]
def law13_StrataNames_1 : XCode := .seq (.region [⟨(some 29), .call law13_awake_id [], none, [], false⟩,
  ⟨(some 2), .rd (.mov (.t 29)), none, [], false⟩]) .ret
def law13_StrataNames_2 : XCode := .cond (.t 28) law13_StrataNames_1 .skip
def law13_StrataNames_3 : XCode := .seq law13_StrataNames_0 (.keep [1, 28] law13_StrataNames_2)
def law13_StrataNames_4 : XCode := .region [⟨(some 30), .rd (.load 3 true (.t 1)), none, [], false⟩,
  ⟨(some 31), .call strata_Names_id [.t 30], none, [], false⟩,
  ⟨(some 3), .ef (.new T_sl_string 1 [.nilslice]), none, [], false⟩,
  ⟨none, .ef (.store 1 (.t 3) (.t 31)), none, [], false⟩]
def law13_StrataNames_5 : XCode := .region [⟨(some 33), .rd (.mov (.t 5)), none, [], false⟩,
  ⟨(some 34), .rd (.load 1 false (.t 3)), none, [], false⟩,
  ⟨(some 35), .rd (.lenL (.t 34)), none, [], false⟩,
  ⟨(some 36), .rd (.bin .lss .other (.t 33) (.t 35)), none, [], false⟩]
def law13_StrataNames_6 : XCode := .cond (.t 36) .skip (.exit 0)
def law13_StrataNames_7 : XCode := .seq law13_StrataNames_5 (.keep [1, 3, 4, 5, 36] law13_StrataNames_6)
def law13_StrataNames_8 : XCode := .draw [⟨(some 39), .rd (.load 1 false (.t 3)), none, [], false⟩,
  ⟨(some 40), .rd (.mov (.t 5)), none, [], false⟩,
  ⟨(some 41), .rd (.bin .sub .other (.t 40) (.c (.int .i64 1))), none, [1], false⟩,
  ⟨(some 42), .rd (.idx 1 (.t 39) (.t 41)), none, [0, 2, 1], false⟩,
  ⟨(some 43), .rd (.load 1 false (.t 42)), none, [3, 0, 2, 1], false⟩,
  ⟨(some 44), .rd (.load 1 false (.t 3)), none, [], false⟩,
  ⟨(some 45), .rd (.mov (.t 5)), none, [], false⟩,
  ⟨(some 46), .rd (.idx 1 (.t 44) (.t 45)), none, [5, 6], false⟩,
  ⟨(some 47), .rd (.load 1 false (.t 46)), none, [7, 5, 6], false⟩,
  ⟨(some 48), .rd (.bin .geq .other (.t 43) (.t 47)), none, [4, 8, 3, 0, 2, 1, 7, 5, 6], false⟩]
def law13_StrataNames_9 : XCode := .seq (.region [⟨(some 2), .rd (.mov (.c (.bool false))), none, [], false⟩]) .ret
def law13_StrataNames_10 : XCode := .cond (.t 48) law13_StrataNames_9 .skip
def law13_StrataNames_11 : XCode := .seq law13_StrataNames_8 (.keep [1, 3, 4, 5, 48] law13_StrataNames_10)
def law13_StrataNames_12 : XCode := .region [⟨(some 37), .rd (.mov (.t 5)), none, [], false⟩,
  ⟨(some 38), .rd (.bin .add .other (.t 37) (.c (.int .i64 1))), none, [], false⟩,
  ⟨(some 5), .rd (.mov (.t 38)), none, [], false⟩]
def law13_StrataNames_13 : XCode := .seq (.block 1 law13_StrataNames_11) (.keep [1, 3, 4, 5] law13_StrataNames_12)
def law13_StrataNames_14 : XCode := .seq law13_StrataNames_7 (.keep [1, 3, 4, 5] law13_StrataNames_13)
def law13_StrataNames_15 : XCode := .seq (.region [⟨(some 5), .rd (.mov (.c (.int .i64 1))), none, [], false⟩]) (.block 0 (.loop [1, 3, 4, 5] law13_StrataNames_14))
def law13_StrataNames_16 : XCode := .cond (.t 54) .skip (.exit 2)
def law13_StrataNames_17 : XCode := .draw [⟨(some 56), .rd (.mov (.t 8)), none, [], false⟩,
  ⟨(some 57), .rd (.bin .gtr .other (.t 56) (.c (.int .i64 0))), none, [0], false⟩,
  ⟨(some 58), .rd (.mov (.t 57)), none, [1, 0], false⟩,
  ⟨(some 59), .rd (.mov (.t 6)), (some (58, true)), [2, 1, 0], false⟩,
  ⟨(some 60), .rd (.mov (.t 8)), (some (58, true)), [2, 1, 0], false⟩,
  ⟨(some 61), .rd (.idx 2 (.t 59) (.t 60)), (some (58, true)), [3, 4, 2, 1, 0], false⟩,
  ⟨(some 62), .rd (.idxA 2 1 (.t 61) (.c (.int .i64 0))), (some (58, true)), [5, 2, 3, 4, 1, 0], false⟩,
  ⟨(some 63), .rd (.load 1 false (.t 62)), (some (58, true)), [6, 2, 5, 3, 4, 1, 0], false⟩,
  ⟨(some 64), .rd (.mov (.t 6)), (some (58, true)), [2, 1, 0], false⟩,
  ⟨(some 65), .rd (.mov (.t 8)), (some (58, true)), [2, 1, 0], false⟩,
  ⟨(some 66), .rd (.bin .sub .other (.t 65) (.c (.int .i64 1))), (some (58, true)), [9, 2, 1, 0], false⟩,
  ⟨(some 67), .rd (.idx 2 (.t 64) (.t 66)), (some (58, true)), [8, 10, 2, 1, 0, 9], false⟩,
  ⟨(some 68), .rd (.idxA 2 1 (.t 67) (.c (.int .i64 0))), (some (58, true)), [11, 2, 8, 10, 1, 0, 9], false⟩,
  ⟨(some 69), .rd (.load 1 false (.t 68)), (some (58, true)), [12, 2, 11, 8, 10, 1, 0, 9], false⟩,
  ⟨(some 70), .rd (.bin .lss .other (.t 63) (.t 69)), (some (58, true)), [7, 13, 2, 6, 5, 3, 4, 1, 0, 12, 11, 8, 10, 9], false⟩,
  ⟨(some 71), .rd (.mov (.t 70)), (some (58, true)), [14, 2, 7, 13, 6, 5, 3, 4, 1, 0, 12, 11, 8, 10, 9], false⟩,
  ⟨(some 72), .rd (.mov (.t 6)), (some (71, false)), [15, 14, 2, 7, 13, 6, 5, 3, 4, 1, 0, 12, 11, 8, 10, 9], false⟩,
  ⟨(some 73), .rd (.mov (.t 8)), (some (71, false)), [15, 14, 2, 7, 13, 6, 5, 3, 4, 1, 0, 12, 11, 8, 10, 9], false⟩,
  ⟨(some 74), .rd (.idx 2 (.t 72) (.t 73)), (some (71, false)), [16, 17, 15, 14, 2, 7, 13, 6, 5, 3, 4, 1, 0, 12, 11, 8, 10, 9], false⟩,
  ⟨(some 75), .rd (.idxA 2 1 (.t 74) (.c (.int .i64 0))), (some (71, false)), [18, 15, 16, 17, 14, 2, 7, 13, 6, 5, 3, 4, 1, 0, 12, 11, 8, 10, 9], false⟩,
  ⟨(some 76), .rd (.load 1 false (.t 75)), (some (71, false)), [19, 15, 18, 16, 17, 14, 2, 7, 13, 6, 5, 3, 4, 1, 0, 12, 11, 8, 10, 9], false⟩,
  ⟨(some 77), .rd (.mov (.t 6)), (some (71, false)), [15, 14, 2, 7, 13, 6, 5, 3, 4, 1, 0, 12, 11, 8, 10, 9], false⟩,
  ⟨(some 78), .rd (.mov (.t 8)), (some (71, false)), [15, 14, 2, 7, 13, 6, 5, 3, 4, 1, 0, 12, 11, 8, 10, 9], false⟩,
  ⟨(some 79), .rd (.bin .sub .other (.t 78) (.c (.int .i64 1))), (some (71, false)), [22, 15, 14, 2, 7, 13, 6, 5, 3, 4, 1, 0, 12, 11, 8, 10, 9], false⟩,
  ⟨(some 80), .rd (.idx 2 (.t 77) (.t 79)), (some (71, false)), [21, 23, 15, 14, 2, 7, 13, 6, 5, 3, 4, 1, 0, 12, 11, 8, 10, 9, 22], false⟩,
  ⟨(some 81), .rd (.idxA 2 1 (.t 80) (.c (.int .i64 0))), (some (71, false)), [24, 15, 21, 23, 14, 2, 7, 13, 6, 5, 3, 4, 1, 0, 12, 11, 8, 10, 9, 22], false⟩,
  ⟨(some 82), .rd (.load 1 false (.t 81)), (some (71, false)), [25, 15, 24, 21, 23, 14, 2, 7, 13, 6, 5, 3, 4, 1, 0, 12, 11, 8, 10, 9, 22], false⟩,
  ⟨(some 83), .rd (.bin .eql .other (.t 76) (.t 82)), (some (71, false)), [20, 26, 15, 19, 18, 16, 17, 14, 2, 7, 13, 6, 5, 3, 4, 1, 0, 12, 11, 8, 10, 9, 25, 24, 21, 23, 22], false⟩,
  ⟨(some 84), .rd (.mov (.t 83)), (some (71, false)), [27, 15, 20, 26, 19, 18, 16, 17, 14, 2, 7, 13, 6, 5, 3, 4, 1, 0, 12, 11, 8, 10, 9, 25, 24, 21, 23, 22], false⟩,
  ⟨(some 85), .rd (.mov (.t 6)), (some (84, true)), [28, 27, 15, 20, 26, 19, 18, 16, 17, 14, 2, 7, 13, 6, 5, 3, 4, 1, 0, 12, 11, 8, 10, 9, 25, 24, 21, 23, 22], false⟩,
  ⟨(some 86), .rd (.mov (.t 8)), (some (84, true)), [28, 27, 15, 20, 26, 19, 18, 16, 17, 14, 2, 7, 13, 6, 5, 3, 4, 1, 0, 12, 11, 8, 10, 9, 25, 24, 21, 23, 22], false⟩,
  ⟨(some 87), .rd (.idx 2 (.t 85) (.t 86)), (some (84, true)), [29, 30, 28, 27, 15, 20, 26, 19, 18, 16, 17, 14, 2, 7, 13, 6, 5, 3, 4, 1, 0, 12, 11, 8, 10, 9, 25, 24, 21, 23, 22], false⟩,
  ⟨(some 88), .rd (.idxA 2 1 (.t 87) (.c (.int .i64 1))), (some (84, true)), [31, 28, 29, 30, 27, 15, 20, 26, 19, 18, 16, 17, 14, 2, 7, 13, 6, 5, 3, 4, 1, 0, 12, 11, 8, 10, 9, 25, 24, 21, 23, 22], false⟩,
  ⟨(some 89), .rd (.load 1 false (.t 88)), (some (84, true)), [32, 28, 31, 29, 30, 27, 15, 20, 26, 19, 18, 16, 17, 14, 2, 7, 13, 6, 5, 3, 4, 1, 0, 12, 11, 8, 10, 9, 25, 24, 21, 23, 22], false⟩,
  ⟨(some 90), .rd (.mov (.t 6)), (some (84, true)), [28, 27, 15, 20, 26, 19, 18, 16, 17, 14, 2, 7, 13, 6, 5, 3, 4, 1, 0, 12, 11, 8, 10, 9, 25, 24, 21, 23, 22], false⟩,
  ⟨(some 91), .rd (.mov (.t 8)), (some (84, true)), [28, 27, 15, 20, 26, 19, 18, 16, 17, 14, 2, 7, 13, 6, 5, 3, 4, 1, 0, 12, 11, 8, 10, 9, 25, 24, 21, 23, 22], false⟩,
  ⟨(some 92), .rd (.bin .sub .other (.t 91) (.c (.int .i64 1))), (some (84, true)), [35, 28, 27, 15, 20, 26, 19, 18, 16, 17, 14, 2, 7, 13, 6, 5, 3, 4, 1, 0, 12, 11, 8, 10, 9, 25, 24, 21, 23, 22], false⟩,
  ⟨(some 93), .rd (.idx 2 (.t 90) (.t 92)), (some (84, true)), [34, 36, 28, 27, 15, 20, 26, 19, 18, 16, 17, 14, 2, 7, 13, 6, 5, 3, 4, 1, 0, 12, 11, 8, 10, 9, 25, 24, 21, 23, 22, 35], false⟩,
  ⟨(some 94), .rd (.idxA 2 1 (.t 93) (.c (.int .i64 1))), (some (84, true)), [37, 28, 34, 36, 27, 15, 20, 26, 19, 18, 16, 17, 14, 2, 7, 13, 6, 5, 3, 4, 1, 0, 12, 11, 8, 10, 9, 25, 24, 21, 23, 22, 35], false⟩,
  ⟨(some 95), .rd (.load 1 false (.t 94)), (some (84, true)), [38, 28, 37, 34, 36, 27, 15, 20, 26, 19, 18, 16, 17, 14, 2, 7, 13, 6, 5, 3, 4, 1, 0, 12, 11, 8, 10, 9, 25, 24, 21, 23, 22, 35], false⟩,
  ⟨(some 96), .rd (.bin .leq .other (.t 89) (.t 95)), (some (84, true)), [33, 39, 28, 32, 31, 29, 30, 27, 15, 20, 26, 19, 18, 16, 17, 14, 2, 7, 13, 6, 5, 3, 4, 1, 0, 12, 11, 8, 10, 9, 25, 24, 21, 23, 22, 38, 37, 34, 36, 35], false⟩,
  ⟨(some 97), .rd (.pick (.t 84) (.t 96) (.c (.bool false))), (some (71, false)), [28, 40, 15, 27, 20, 26, 19, 18, 16, 17, 14, 2, 7, 13, 6, 5, 3, 4, 1, 0, 12, 11, 8, 10, 9, 25, 24, 21, 23, 22, 33, 39, 32, 31, 29, 30, 38, 37, 34, 36, 35], false⟩,
  ⟨(some 98), .rd (.pick (.t 71) (.c (.bool true)) (.t 97)), (some (58, true)), [15, 41, 2, 14, 7, 13, 6, 5, 3, 4, 1, 0, 12, 11, 8, 10, 9, 28, 40, 27, 20, 26, 19, 18, 16, 17, 25, 24, 21, 23, 22, 33, 39, 32, 31, 29, 30, 38, 37, 34, 36, 35], false⟩,
  ⟨(some 99), .rd (.pick (.t 58) (.t 98) (.c (.bool false))), none, [2, 42, 1, 0, 15, 41, 14, 7, 13, 6, 5, 3, 4, 12, 11, 8, 10, 9, 28, 40, 27, 20, 26, 19, 18, 16, 17, 25, 24, 21, 23, 22, 33, 39, 32, 31, 29, 30, 38, 37, 34, 36, 35], false⟩]
def law13_StrataNames_18 : XCode := .seq (.region [⟨(some 2), .rd (.mov (.c (.bool false))), none, [], false⟩]) .ret
def law13_StrataNames_19 : XCode := .cond (.t 99) law13_StrataNames_18 .skip
def law13_StrataNames_20 : XCode := .seq law13_StrataNames_17 (.keep [1, 4, 6, 7, 8, 52, 53, 99] law13_StrataNames_19)
def law13_StrataNames_21 : XCode := .region [⟨(some 100), .rd (.off 0 (.t 1)), none, [], false⟩,
  ⟨(some 101), .rd (.load 1 false (.t 100)), none, [], false⟩,
  ⟨(some 102), .rd (.lenL (.t 101)), none, [], false⟩,
  ⟨(some 103), .rd (.mov (.c (.int .i64 0))), none, [], false⟩]
def law13_StrataNames_22 : XCode := .cond (.t 104) .skip (.exit 4)
def law13_StrataNames_23 : XCode := .region [⟨(some 106), .rd (.off 0 (.t 1)), none, [], false⟩,
  ⟨(some 107), .rd (.load 1 false (.t 106)), none, [], false⟩,
  ⟨(some 108), .rd (.mov (.t 10)), none, [], false⟩,
  ⟨(some 109), .rd (.idx 4 (.t 107) (.t 108)), none, [], false⟩,
  ⟨(some 110), .rd (.off 3 (.t 109)), none, [], false⟩,
  ⟨(some 111), .rd (.load 1 false (.t 110)), none, [], false⟩,
  ⟨(some 112), .rd (.lenL (.t 111)), none, [], false⟩,
  ⟨(some 113), .rd (.mov (.c (.int .i64 0))), none, [], false⟩]
def law13_StrataNames_24 : XCode := .cond (.t 114) .skip (.exit 6)
def law13_StrataNames_25 : XCode := .region [⟨(some 115), .rd (.idx 17 (.t 111) (.t 113)), none, [], false⟩,
  ⟨(some 116), .rd (.load 17 true (.t 115)), none, [], false⟩,
  ⟨(some 12), .ef (.new T_api_Literal 17 [.int .i64 0, .str [], .nilslice, .str [], .str [], .int .i64 0, .int .i64 0, .str [], .str [], .int .i64 0, .int .i64 0, .str [], .str [], .int .i64 0, .int .i64 0, .str [], .nilslice]), none, [], false⟩,
  ⟨none, .ef (.store 17 (.t 12) (.t 116)), none, [], false⟩]
def law13_StrataNames_26 : XCode := .region [⟨(some 117), .rd (.load 17 true (.t 12)), none, [], false⟩,
  ⟨(some 118), .call strata_Uses_id [.t 117], none, [], false⟩,
  ⟨(some 119), .rd (.lenL (.t 118)), none, [], false⟩,
  ⟨(some 120), .rd (.mov (.c (.int .i64 0))), none, [], false⟩]
def law13_StrataNames_27 : XCode := .cond (.t 121) .skip (.exit 8)
def law13_StrataNames_28 : XCode := .draw [⟨(some 124), .rd (.mov (.t 9)), none, [], false⟩,
  ⟨(some 125), .rd (.mov (.t 124)), none, [0], false⟩,
  ⟨(some 126), .rd (.mov (.t 4)), (some (125, false)), [1, 0], false⟩,
  ⟨(some 127), .rd (.off 0 (.t 1)), (some (125, false)), [1, 0], false⟩,
  ⟨(some 128), .rd (.load 1 false (.t 127)), (some (125, false)), [3, 1, 0], false⟩,
  ⟨(some 129), .rd (.mov (.t 10)), (some (125, false)), [1, 0], false⟩,
  ⟨(some 130), .rd (.idx 4 (.t 128) (.t 129)), (some (125, false)), [4, 5, 1, 3, 0], false⟩,
  ⟨(some 131), .rd (.off 0 (.t 130)), (some (125, false)), [6, 1, 4, 5, 3, 0], false⟩,
  ⟨(some 132), .rd (.off 0 (.t 131)), (some (125, false)), [7, 1, 6, 4, 5, 3, 0], false⟩,
  ⟨(some 133), .rd (.load 1 false (.t 132)), (some (125, false)), [8, 1, 7, 6, 4, 5, 3, 0], false⟩,
  ⟨(some 134), .callv (.t 126) [.t 133], (some (125, false)), [2, 9, 1, 0, 8, 7, 6, 4, 5, 3], false⟩,
  ⟨(some 135), .rd (.mov (.t 6)), (some (125, false)), [1, 0], false⟩,
  ⟨(some 136), .rd (.mov (.t 8)), (some (125, false)), [1, 0], false⟩,
  ⟨(some 137), .rd (.idx 2 (.t 135) (.t 136)), (some (125, false)), [11, 12, 1, 0], false⟩,
  ⟨(some 138), .rd (.idxA 2 1 (.t 137) (.c (.int .i64 0))), (some (125, false)), [13, 1, 11, 12, 0], false⟩,
  ⟨(some 139), .rd (.load 1 false (.t 138)), (some (125, false)), [14, 1, 13, 11, 12, 0], false⟩,
  ⟨(some 140), .rd (.bin .eql .other (.t 134) (.t 139)), (some (125, false)), [10, 15, 1, 2, 9, 0, 8, 7, 6, 4, 5, 3, 14, 13, 11, 12], false⟩,
  ⟨(some 141), .rd (.mov (.t 140)), (some (125, false)), [16, 10, 1, 15, 2, 9, 0, 8, 7, 6, 4, 5, 3, 14, 13, 11, 12], false⟩,
  ⟨(some 142), .rd (.mov (.t 4)), (some (141, true)), [17, 16, 10, 1, 15, 2, 9, 0, 8, 7, 6, 4, 5, 3, 14, 13, 11, 12], false⟩,
  ⟨(some 143), .rd (.mov (.t 14)), (some (141, true)), [17, 16, 10, 1, 15, 2, 9, 0, 8, 7, 6, 4, 5, 3, 14, 13, 11, 12], false⟩,
  ⟨(some 144), .callv (.t 142) [.t 143], (some (141, true)), [18, 19, 17, 16, 10, 1, 15, 2, 9, 0, 8, 7, 6, 4, 5, 3, 14, 13, 11, 12], false⟩,
  ⟨(some 145), .rd (.mov (.t 6)), (some (141, true)), [17, 16, 10, 1, 15, 2, 9, 0, 8, 7, 6, 4, 5, 3, 14, 13, 11, 12], false⟩,
  ⟨(some 146), .rd (.mov (.t 8)), (some (141, true)), [17, 16, 10, 1, 15, 2, 9, 0, 8, 7, 6, 4, 5, 3, 14, 13, 11, 12], false⟩,
  ⟨(some 147), .rd (.idx 2 (.t 145) (.t 146)), (some (141, true)), [21, 22, 17, 16, 10, 1, 15, 2, 9, 0, 8, 7, 6, 4, 5, 3, 14, 13, 11, 12], false⟩,
  ⟨(some 148), .rd (.idxA 2 1 (.t 147) (.c (.int .i64 1))), (some (141, true)), [23, 17, 21, 22, 16, 10, 1, 15, 2, 9, 0, 8, 7, 6, 4, 5, 3, 14, 13, 11, 12], false⟩,
  ⟨(some 149), .rd (.load 1 false (.t 148)), (some (141, true)), [24, 17, 23, 21, 22, 16, 10, 1, 15, 2, 9, 0, 8, 7, 6, 4, 5, 3, 14, 13, 11, 12], false⟩,
  ⟨(some 150), .rd (.bin .eql .other (.t 144) (.t 149)), (some (141, true)), [20, 25, 17, 18, 19, 16, 10, 1, 15, 2, 9, 0, 8, 7, 6, 4, 5, 3, 14, 13, 11, 12, 24, 23, 21, 22], false⟩,
  ⟨(some 151), .rd (.pick (.t 141) (.t 150) (.c (.bool false))), (some (125, false)), [17, 26, 1, 16, 10, 15, 2, 9, 0, 8, 7, 6, 4, 5, 3, 14, 13, 11, 12, 20, 25, 18, 19, 24, 23, 21, 22], false⟩,
  ⟨(some 152), .rd (.pick (.t 125) (.c (.bool true)) (.t 151)), none, [1, 27, 0, 17, 26, 16, 10, 15, 2, 9, 8, 7, 6, 4, 5, 3, 14, 13, 11, 12, 20, 25, 18, 19, 24, 23, 21, 22], false⟩,
  ⟨(some 9), .rd (.mov (.t 152)), none, [28, 20, 0, 1, 2, 3, 4, 5, 6, 7, 8, 9, 10, 11, 12, 13, 14, 15, 16, 17, 18, 19, 21, 22, 23, 24, 25, 26, 27], false⟩]
def law13_StrataNames_29 : XCode := .seq (.region [⟨(some 122), .rd (.idx 1 (.t 118) (.t 120)), none, [], false⟩,
  ⟨(some 123), .rd (.load 1 false (.t 122)), none, [], false⟩,
  ⟨(some 14), .rd (.mov (.t 123)), none, [], false⟩]) law13_StrataNames_28
def law13_StrataNames_30 : XCode := .region [⟨(some 153), .rd (.bin .add .other (.t 120) (.c (.int .i64 1))), none, [], false⟩,
  ⟨(some 120), .rd (.mov (.t 153)), none, [], false⟩]
def law13_StrataNames_31 : XCode := .seq (.block 9 law13_StrataNames_29) (.keep [1, 4, 6, 7, 8, 9, 10, 52, 53, 102, 103, 111, 112, 113, 118, 119, 120] law13_StrataNames_30)
def law13_StrataNames_32 : XCode := .seq law13_StrataNames_27 (.keep [1, 4, 6, 7, 8, 9, 10, 52, 53, 102, 103, 111, 112, 113, 118, 119, 120] law13_StrataNames_31)
def law13_StrataNames_33 : XCode := .seq (.region [⟨(some 121), .rd (.bin .lss .other (.t 120) (.t 119)), none, [], false⟩]) law13_StrataNames_32
def law13_StrataNames_34 : XCode := .seq law13_StrataNames_26 (.keep [1, 4, 6, 7, 8, 9, 10, 52, 53, 102, 103, 111, 112, 113, 118, 119, 120] (.block 8 (.loop [1, 4, 6, 7, 8, 9, 10, 52, 53, 102, 103, 111, 112, 113, 118, 119, 120] law13_StrataNames_33)))
def law13_StrataNames_35 : XCode := .seq law13_StrataNames_25 (.keep [1, 4, 6, 7, 8, 9, 10, 12, 52, 53, 102, 103, 111, 112, 113] law13_StrataNames_34)
def law13_StrataNames_36 : XCode := .region [⟨(some 154), .rd (.bin .add .other (.t 113) (.c (.int .i64 1))), none, [], false⟩,
  ⟨(some 113), .rd (.mov (.t 154)), none, [], false⟩]
def law13_StrataNames_37 : XCode := .seq (.block 7 law13_StrataNames_35) (.keep [1, 4, 6, 7, 8, 9, 10, 52, 53, 102, 103, 111, 112, 113] law13_StrataNames_36)
def law13_StrataNames_38 : XCode := .seq law13_StrataNames_24 (.keep [1, 4, 6, 7, 8, 9, 10, 52, 53, 102, 103, 111, 112, 113] law13_StrataNames_37)
def law13_StrataNames_39 : XCode := .seq (.region [⟨(some 114), .rd (.bin .lss .other (.t 113) (.t 112)), none, [], false⟩]) law13_StrataNames_38
def law13_StrataNames_40 : XCode := .seq law13_StrataNames_23 (.keep [1, 4, 6, 7, 8, 9, 10, 52, 53, 102, 103, 111, 112, 113] (.block 6 (.loop [1, 4, 6, 7, 8, 9, 10, 52, 53, 102, 103, 111, 112, 113] law13_StrataNames_39)))
def law13_StrataNames_41 : XCode := .seq (.region [⟨(some 105), .rd (.mov (.t 103)), none, [], false⟩,
  ⟨(some 10), .rd (.mov (.t 105)), none, [], false⟩]) law13_StrataNames_40
def law13_StrataNames_42 : XCode := .region [⟨(some 155), .rd (.bin .add .other (.t 103) (.c (.int .i64 1))), none, [], false⟩,
  ⟨(some 103), .rd (.mov (.t 155)), none, [], false⟩]
def law13_StrataNames_43 : XCode := .seq (.block 5 law13_StrataNames_41) (.keep [1, 4, 6, 7, 8, 9, 52, 53, 102, 103] law13_StrataNames_42)
def law13_StrataNames_44 : XCode := .seq law13_StrataNames_22 (.keep [1, 4, 6, 7, 8, 9, 52, 53, 102, 103] law13_StrataNames_43)
def law13_StrataNames_45 : XCode := .seq (.region [⟨(some 104), .rd (.bin .lss .other (.t 103) (.t 102)), none, [], false⟩]) law13_StrataNames_44
def law13_StrataNames_46 : XCode := .seq law13_StrataNames_21 (.keep [1, 4, 6, 7, 8, 9, 52, 53, 102, 103] (.block 4 (.loop [1, 4, 6, 7, 8, 9, 52, 53, 102, 103] law13_StrataNames_45)))
def law13_StrataNames_47 : XCode := .region [⟨(some 157), .rd (.mov (.t 7)), none, [], false⟩,
  ⟨(some 158), .rd (.bin .add .other (.t 157) (.c (.int .i64 1))), none, [], false⟩,
  ⟨(some 7), .rd (.mov (.t 158)), none, [], false⟩]
def law13_StrataNames_48 : XCode := .cond (.t 156) law13_StrataNames_47 .skip
def law13_StrataNames_49 : XCode := .seq (.region [⟨(some 156), .rd (.mov (.t 9)), none, [], false⟩]) law13_StrataNames_48
def law13_StrataNames_50 : XCode := .seq law13_StrataNames_46 (.keep [1, 4, 6, 7, 9, 52, 53] law13_StrataNames_49)
def law13_StrataNames_51 : XCode := .seq (.region [⟨(some 9), .rd (.mov (.c (.bool false))), none, [], false⟩]) law13_StrataNames_50
def law13_StrataNames_52 : XCode := .seq law13_StrataNames_20 (.keep [1, 4, 6, 7, 8, 52, 53] law13_StrataNames_51)
def law13_StrataNames_53 : XCode := .seq (.region [⟨(some 55), .rd (.mov (.t 53)), none, [], false⟩,
  ⟨(some 8), .rd (.mov (.t 55)), none, [], false⟩]) law13_StrataNames_52
def law13_StrataNames_54 : XCode := .region [⟨(some 159), .rd (.bin .add .other (.t 53) (.c (.int .i64 1))), none, [], false⟩,
  ⟨(some 53), .rd (.mov (.t 159)), none, [], false⟩]
def law13_StrataNames_55 : XCode := .seq (.block 3 law13_StrataNames_53) (.keep [1, 4, 6, 7, 52, 53] law13_StrataNames_54)
def law13_StrataNames_56 : XCode := .seq law13_StrataNames_16 (.keep [1, 4, 6, 7, 52, 53] law13_StrataNames_55)
def law13_StrataNames_57 : XCode := .seq (.region [⟨(some 54), .rd (.bin .lss .other (.t 53) (.t 52)), none, [], false⟩]) law13_StrataNames_56
def law13_StrataNames_58 : XCode := .seq (.region [⟨(some 51), .rd (.mov (.t 6)), none, [], false⟩,
  ⟨(some 52), .rd (.lenL (.t 51)), none, [], false⟩,
  ⟨(some 53), .rd (.mov (.c (.int .i64 0))), none, [], false⟩]) (.block 2 (.loop [1, 4, 6, 7, 52, 53] law13_StrataNames_57))
def law13_StrataNames_59 : XCode := .region [⟨(some 160), .rd (.off 0 (.t 1)), none, [], false⟩,
  ⟨(some 161), .rd (.load 1 false (.t 160)), none, [], false⟩,
  ⟨(some 162), .rd (.lenL (.t 161)), none, [], false⟩,
  ⟨(some 163), .rd (.mov (.c (.int .i64 0))), none, [], false⟩]
def law13_StrataNames_60 : XCode := .cond (.t 164) .skip (.exit 10)
def law13_StrataNames_61 : XCode := .region [⟨(some 166), .rd (.off 0 (.t 1)), none, [], false⟩,
  ⟨(some 167), .rd (.load 1 false (.t 166)), none, [], false⟩,
  ⟨(some 168), .rd (.mov (.t 15)), none, [], false⟩,
  ⟨(some 169), .rd (.idx 4 (.t 167) (.t 168)), none, [], false⟩,
  ⟨(some 170), .rd (.off 3 (.t 169)), none, [], false⟩,
  ⟨(some 171), .rd (.load 1 false (.t 170)), none, [], false⟩,
  ⟨(some 172), .rd (.lenL (.t 171)), none, [], false⟩,
  ⟨(some 173), .rd (.mov (.c (.int .i64 0))), none, [], false⟩]
def law13_StrataNames_62 : XCode := .cond (.t 174) .skip (.exit 12)
def law13_StrataNames_63 : XCode := .region [⟨(some 175), .rd (.idx 17 (.t 171) (.t 173)), none, [], false⟩,
  ⟨(some 176), .rd (.load 17 true (.t 175)), none, [], false⟩,
  ⟨(some 17), .ef (.new T_api_Literal 17 [.int .i64 0, .str [], .nilslice, .str [], .str [], .int .i64 0, .int .i64 0, .str [], .str [], .int .i64 0, .int .i64 0, .str [], .str [], .int .i64 0, .int .i64 0, .str [], .nilslice]), none, [], false⟩,
  ⟨none, .ef (.store 17 (.t 17) (.t 176)), none, [], false⟩]
def law13_StrataNames_64 : XCode := .region [⟨(some 177), .rd (.load 17 true (.t 17)), none, [], false⟩,
  ⟨(some 178), .call strata_Uses_id [.t 177], none, [], false⟩,
  ⟨(some 179), .rd (.lenL (.t 178)), none, [], false⟩,
  ⟨(some 180), .rd (.mov (.c (.int .i64 0))), none, [], false⟩]
def law13_StrataNames_65 : XCode := .cond (.t 181) .skip (.exit 14)
def law13_StrataNames_66 : XCode := .cond (.t 187) .skip (.exit 16)
def law13_StrataNames_67 : XCode := .draw [⟨(some 189), .rd (.mov (.t 20)), none, [], false⟩,
  ⟨(some 190), .rd (.mov (.t 189)), none, [0], false⟩,
  ⟨(some 191), .rd (.mov (.t 6)), (some (190, false)), [1, 0], false⟩,
  ⟨(some 192), .rd (.mov (.t 21)), (some (190, false)), [1, 0], false⟩,
  ⟨(some 193), .rd (.idx 2 (.t 191) (.t 192)), (some (190, false)), [2, 3, 1, 0], false⟩,
  ⟨(some 194), .rd (.load 2 true (.t 193)), (some (190, false)), [4, 1, 2, 3, 0], false⟩,
  ⟨(some 195), .rd (.mov (.t 4)), (some (190, false)), [1, 0], false⟩,
  ⟨(some 196), .rd (.off 0 (.t 1)), (some (190, false)), [1, 0], false⟩,
  ⟨(some 197), .rd (.load 1 false (.t 196)), (some (190, false)), [7, 1, 0], false⟩,
  ⟨(some 198), .rd (.mov (.t 15)), (some (190, false)), [1, 0], false⟩,
  ⟨(some 199), .rd (.idx 4 (.t 197) (.t 198)), (some (190, false)), [8, 9, 1, 7, 0], false⟩,
  ⟨(some 200), .rd (.off 0 (.t 199)), (some (190, false)), [10, 1, 8, 9, 7, 0], false⟩,
  ⟨(some 201), .rd (.off 0 (.t 200)), (some (190, false)), [11, 1, 10, 8, 9, 7, 0], false⟩,
  ⟨(some 202), .rd (.load 1 false (.t 201)), (some (190, false)), [12, 1, 11, 10, 8, 9, 7, 0], false⟩,
  ⟨(some 203), .callv (.t 195) [.t 202], (some (190, false)), [6, 13, 1, 0, 12, 11, 10, 8, 9, 7], false⟩,
  ⟨(some 204), .rd (.mov (.t 4)), (some (190, false)), [1, 0], false⟩,
  ⟨(some 205), .rd (.mov (.t 19)), (some (190, false)), [1, 0], false⟩,
  ⟨(some 206), .callv (.t 204) [.t 205], (some (190, false)), [15, 16, 14, 1, 0, 6, 13, 12, 11, 10, 8, 9, 7], false⟩,
  ⟨(some 207), .rd (.build [.int .i64 0, .int .i64 0] [(0, 1, (.t 203)), (1, 1, (.t 206))]), (some (190, false)), [14, 17, 1, 6, 13, 0, 12, 11, 10, 8, 9, 7, 15, 16], false⟩,
  ⟨(some 208), .rd (.eqc false [(.int .i64), (.int .i64)] (.t 194) (.t 207)), (some (190, false)), [5, 18, 1, 4, 2, 3, 0, 14, 17, 6, 13, 12, 11, 10, 8, 9, 7, 15, 16], false⟩,
  ⟨(some 209), .rd (.pick (.t 190) (.c (.bool true)) (.t 208)), none, [1, 19, 0, 5, 18, 4, 2, 3, 14, 17, 6, 13, 12, 11, 10, 8, 9, 7, 15, 16], false⟩,
  ⟨(some 20), .rd (.mov (.t 209)), none, [20, 17, 0, 1, 2, 3, 4, 5, 6, 7, 8, 9, 10, 11, 12, 13, 14, 15, 16, 18, 19], false⟩]
def law13_StrataNames_68 : XCode := .seq (.region [⟨(some 188), .rd (.mov (.t 186)), none, [], false⟩,
  ⟨(some 21), .rd (.mov (.t 188)), none, [], false⟩]) law13_StrataNames_67
def law13_StrataNames_69 : XCode := .region [⟨(some 210), .rd (.bin .add .other (.t 186) (.c (.int .i64 1))), none, [], false⟩,
  ⟨(some 186), .rd (.mov (.t 210)), none, [], false⟩]
def law13_StrataNames_70 : XCode := .seq (.block 17 law13_StrataNames_68) (.keep [1, 4, 6, 7, 15, 19, 20, 162, 163, 171, 172, 173, 178, 179, 180, 185, 186] law13_StrataNames_69)
def law13_StrataNames_71 : XCode := .seq law13_StrataNames_66 (.keep [1, 4, 6, 7, 15, 19, 20, 162, 163, 171, 172, 173, 178, 179, 180, 185, 186] law13_StrataNames_70)
def law13_StrataNames_72 : XCode := .seq (.region [⟨(some 187), .rd (.bin .lss .other (.t 186) (.t 185)), none, [], false⟩]) law13_StrataNames_71
def law13_StrataNames_73 : XCode := .seq (.region [⟨(some 184), .rd (.mov (.t 6)), none, [], false⟩,
  ⟨(some 185), .rd (.lenL (.t 184)), none, [], false⟩,
  ⟨(some 186), .rd (.mov (.c (.int .i64 0))), none, [], false⟩]) (.block 16 (.loop [1, 4, 6, 7, 15, 19, 20, 162, 163, 171, 172, 173, 178, 179, 180, 185, 186] law13_StrataNames_72))
def law13_StrataNames_74 : XCode := .seq (.region [⟨(some 2), .rd (.mov (.c (.bool false))), none, [], false⟩]) .ret
def law13_StrataNames_75 : XCode := .cond (.t 212) law13_StrataNames_74 .skip
def law13_StrataNames_76 : XCode := .seq (.region [⟨(some 211), .rd (.mov (.t 20)), none, [], false⟩,
  ⟨(some 212), .rd (.un .not (.t 211)), none, [], false⟩]) law13_StrataNames_75
def law13_StrataNames_77 : XCode := .seq law13_StrataNames_73 (.keep [1, 4, 6, 7, 15, 20, 162, 163, 171, 172, 173, 178, 179, 180] law13_StrataNames_76)
def law13_StrataNames_78 : XCode := .seq (.region [⟨(some 20), .rd (.mov (.c (.bool false))), none, [], false⟩]) law13_StrataNames_77
def law13_StrataNames_79 : XCode := .seq (.region [⟨(some 182), .rd (.idx 1 (.t 178) (.t 180)), none, [], false⟩,
  ⟨(some 183), .rd (.load 1 false (.t 182)), none, [], false⟩,
  ⟨(some 19), .rd (.mov (.t 183)), none, [], false⟩]) law13_StrataNames_78
def law13_StrataNames_80 : XCode := .region [⟨(some 213), .rd (.bin .add .other (.t 180) (.c (.int .i64 1))), none, [], false⟩,
  ⟨(some 180), .rd (.mov (.t 213)), none, [], false⟩]
def law13_StrataNames_81 : XCode := .seq (.block 15 law13_StrataNames_79) (.keep [1, 4, 6, 7, 15, 162, 163, 171, 172, 173, 178, 179, 180] law13_StrataNames_80)
def law13_StrataNames_82 : XCode := .seq law13_StrataNames_65 (.keep [1, 4, 6, 7, 15, 162, 163, 171, 172, 173, 178, 179, 180] law13_StrataNames_81)
def law13_StrataNames_83 : XCode := .seq (.region [⟨(some 181), .rd (.bin .lss .other (.t 180) (.t 179)), none, [], false⟩]) law13_StrataNames_82
def law13_StrataNames_84 : XCode := .seq law13_StrataNames_64 (.keep [1, 4, 6, 7, 15, 162, 163, 171, 172, 173, 178, 179, 180] (.block 14 (.loop [1, 4, 6, 7, 15, 162, 163, 171, 172, 173, 178, 179, 180] law13_StrataNames_83)))
def law13_StrataNames_85 : XCode := .seq law13_StrataNames_63 (.keep [1, 4, 6, 7, 15, 17, 162, 163, 171, 172, 173] law13_StrataNames_84)
def law13_StrataNames_86 : XCode := .region [⟨(some 214), .rd (.bin .add .other (.t 173) (.c (.int .i64 1))), none, [], false⟩,
  ⟨(some 173), .rd (.mov (.t 214)), none, [], false⟩]
def law13_StrataNames_87 : XCode := .seq (.block 13 law13_StrataNames_85) (.keep [1, 4, 6, 7, 15, 162, 163, 171, 172, 173] law13_StrataNames_86)
def law13_StrataNames_88 : XCode := .seq law13_StrataNames_62 (.keep [1, 4, 6, 7, 15, 162, 163, 171, 172, 173] law13_StrataNames_87)
def law13_StrataNames_89 : XCode := .seq (.region [⟨(some 174), .rd (.bin .lss .other (.t 173) (.t 172)), none, [], false⟩]) law13_StrataNames_88
def law13_StrataNames_90 : XCode := .seq law13_StrataNames_61 (.keep [1, 4, 6, 7, 15, 162, 163, 171, 172, 173] (.block 12 (.loop [1, 4, 6, 7, 15, 162, 163, 171, 172, 173] law13_StrataNames_89)))
def law13_StrataNames_91 : XCode := .seq (.region [⟨(some 165), .rd (.mov (.t 163)), none, [], false⟩,
  ⟨(some 15), .rd (.mov (.t 165)), none, [], false⟩]) law13_StrataNames_90
def law13_StrataNames_92 : XCode := .region [⟨(some 215), .rd (.bin .add .other (.t 163) (.c (.int .i64 1))), none, [], false⟩,
  ⟨(some 163), .rd (.mov (.t 215)), none, [], false⟩]
def law13_StrataNames_93 : XCode := .seq (.block 11 law13_StrataNames_91) (.keep [1, 4, 6, 7, 162, 163] law13_StrataNames_92)
def law13_StrataNames_94 : XCode := .seq law13_StrataNames_60 (.keep [1, 4, 6, 7, 162, 163] law13_StrataNames_93)
def law13_StrataNames_95 : XCode := .seq (.region [⟨(some 164), .rd (.bin .lss .other (.t 163) (.t 162)), none, [], false⟩]) law13_StrataNames_94
def law13_StrataNames_96 : XCode := .seq law13_StrataNames_59 (.keep [1, 4, 6, 7, 162, 163] (.block 10 (.loop [1, 4, 6, 7, 162, 163] law13_StrataNames_95)))
def law13_StrataNames_97 : XCode := .region [⟨(some 216), .rd (.mov (.t 7)), none, [], false⟩,
  ⟨(some 217), .rd (.mov (.t 6)), none, [], false⟩,
  ⟨(some 218), .rd (.lenL (.t 217)), none, [], false⟩,
  ⟨(some 219), .rd (.bin .eql .other (.t 216) (.t 218)), none, [], false⟩,
  ⟨(some 220), .rd (.mov (.t 219)), none, [], false⟩,
  ⟨(some 221), .rd (.mov (.t 4)), (some (220, true)), [], false⟩,
  ⟨(some 222), .rd (.off 1 (.t 1)), (some (220, true)), [], false⟩,
  ⟨(some 223), .rd (.off 0 (.t 222)), (some (220, true)), [], false⟩,
  ⟨(some 224), .rd (.load 1 false (.t 223)), (some (220, true)), [], false⟩,
  ⟨(some 225), .callv (.t 221) [.t 224], (some (220, true)), [], false⟩,
  ⟨(some 226), .rd (.bin .geq .other (.t 225) (.c (.int .i64 0))), (some (220, true)), [], false⟩,
  ⟨(some 227), .rd (.pick (.t 220) (.t 226) (.c (.bool false))), none, [], false⟩,
  ⟨(some 2), .rd (.mov (.t 227)), none, [], false⟩]
def law13_StrataNames_98 : XCode := .seq law13_StrataNames_97 .ret
def law13_StrataNames_99 : XCode := .seq law13_StrataNames_96 (.keep [1, 4, 6, 7] law13_StrataNames_98)
def law13_StrataNames_100 : XCode := .seq law13_StrataNames_58 (.keep [1, 4, 6, 7] law13_StrataNames_99)
def law13_StrataNames_101 : XCode := .seq (.region [⟨(some 7), .rd (.mov (.c (.int .i64 0))), none, [], false⟩]) law13_StrataNames_100
def law13_StrataNames_102 : XCode := .seq (.region [⟨(some 49), .rd (.load 3 true (.t 1)), none, [], false⟩,
  ⟨(some 50), .call strata_Needs_id [.t 49], none, [], false⟩,
  ⟨(some 6), .rd (.mov (.t 50)), none, [], false⟩]) law13_StrataNames_101
def law13_StrataNames_103 : XCode := .seq law13_StrataNames_15 (.keep [1, 4] law13_StrataNames_102)
def law13_StrataNames_104 : XCode := .seq (.region [⟨(some 32), .rd (.mkfunc law13_StrataNames_f1_id [.t 3]), none, [], false⟩,
  ⟨(some 4), .rd (.mov (.t 32)), none, [], false⟩]) law13_StrataNames_103
def law13_StrataNames_105 : XCode := .seq law13_StrataNames_4 (.keep [1, 3] law13_StrataNames_104)
def law13_StrataNames_106 : XCode := .seq law13_StrataNames_3 (.keep [1] law13_StrataNames_105)
def law13_StrataNames_107 : XCode := .seq (.region [⟨(some 1), .ef (.box T_api_Program 3 (.t 0)), none, [], false⟩,
  ⟨(some 2), .rd (.mov (.c (.bool false))), none, [], false⟩]) law13_StrataNames_106
def law13_StrataNames : XFun := ⟨1, law13_StrataNames_107, [.tmp 2]⟩
theorem law13_StrataNames_ok : FunOk Try.prog law13_StrataNames_id law13_StrataNames := compFun_ok rfl E_ok (by kernel_rfl)

/-! ## 6 antecedent/antecedentlaw13.awake -/
def law13_awake_0 : XCode := .region [⟨(some 5), .rd (.mov (.t 1)), none, [], false⟩,
  ⟨(some 6), .callv (.t 5) [.c (.str [112])], none, [], false⟩,
  ⟨(some 7), .rd (.mov (.t 1)), none, [], false⟩,
  ⟨(some 8), .callv (.t 7) [.c (.str [113])], none, [], false⟩,
  ⟨(some 9), .rd (.build [.int .i64 0, .str [], .nilslice, .str [], .str [], .int .i64 0, .int .i64 0, .str [], .str [], .int .i64 0, .int .i64 0, .str [], .str [], .int .i64 0, .int .i64 0, .str [], .nilslice] [(0, 1, (.c (.int .i64 1))), (1, 2, (.t 8))]), none, [], false⟩,
  ⟨(some 10), .rd (.mov (.t 1)), none, [], false⟩,
  ⟨(some 11), .callv (.t 10) [.c (.str [114])], none, [], false⟩,
  ⟨(some 12), .rd (.build [.int .i64 0, .str [], .nilslice, .str [], .str [], .int .i64 0, .int .i64 0, .str [], .str [], .int .i64 0, .int .i64 0, .str [], .str [], .int .i64 0, .int .i64 0, .str [], .nilslice] [(0, 1, (.c (.int .i64 2))), (1, 2, (.t 11))]), none, [], false⟩,
  ⟨(some 13), .ef (.buildSlice T_api_Literal 17 2 [.int .i64 0, .str [], .nilslice, .str [], .str [], .int .i64 0, .int .i64 0, .str [], .str [], .int .i64 0, .int .i64 0, .str [], .str [], .int .i64 0, .int .i64 0, .str [], .nilslice] [(0, 17, (.t 9)), (17, 17, (.t 12))]), none, [], false⟩,
  ⟨(some 14), .rd (.build [.str [], .nilslice, .int .i64 0, .nilslice] [(0, 2, (.t 6)), (3, 1, (.t 13))]), none, [], false⟩,
  ⟨(some 15), .rd (.mov (.t 1)), none, [], false⟩,
  ⟨(some 16), .callv (.t 15) [.c (.str [113])], none, [], false⟩,
  ⟨(some 17), .rd (.mov (.t 1)), none, [], false⟩,
  ⟨(some 18), .callv (.t 17) [.c (.str [112])], none, [], false⟩,
  ⟨(some 19), .rd (.build [.int .i64 0, .str [], .nilslice, .str [], .str [], .int .i64 0, .int .i64 0, .str [], .str [], .int .i64 0, .int .i64 0, .str [], .str [], .int .i64 0, .int .i64 0, .str [], .nilslice] [(0, 1, (.c (.int .i64 1))), (1, 2, (.t 18))]), none, [], false⟩,
  ⟨(some 20), .ef (.buildSlice T_api_Literal 17 1 [.int .i64 0, .str [], .nilslice, .str [], .str [], .int .i64 0, .int .i64 0, .str [], .str [], .int .i64 0, .int .i64 0, .str [], .str [], .int .i64 0, .int .i64 0, .str [], .nilslice] [(0, 17, (.t 19))]), none, [], false⟩,
  ⟨(some 21), .rd (.build [.str [], .nilslice, .int .i64 0, .nilslice] [(0, 2, (.t 16)), (3, 1, (.t 20))]), none, [], false⟩,
  ⟨(some 22), .ef (.buildSlice T_api_Rule 4 2 [.str [], .nilslice, .int .i64 0, .nilslice] [(0, 4, (.t 14)), (4, 4, (.t 21))]), none, [], false⟩,
  ⟨(some 23), .rd (.mov (.t 1)), none, [], false⟩,
  ⟨(some 24), .callv (.t 23) [.c (.str [112])], none, [], false⟩,
  ⟨(some 25), .rd (.build [.nilslice, .str [], .nilslice] [(0, 1, (.t 22)), (1, 2, (.t 24))]), none, [], false⟩,
  ⟨(some 2), .ef (.new T_api_Program 3 [.nilslice, .str [], .nilslice]), none, [], false⟩,
  ⟨none, .ef (.store 3 (.t 2) (.t 25)), none, [], false⟩]
def law13_awake_1 : XCode := .region [⟨(some 27), .rd (.load 3 true (.t 2)), none, [], false⟩,
  ⟨(some 28), .call strata_Strata_id [.t 27], none, [], false⟩,
  ⟨(some 26), .rd (.mov (.t 28)), none, [], false⟩,
  ⟨(some 29), .rd (.extract 0 (.t 26)), none, [], false⟩,
  ⟨(some 30), .rd (.extract 1 (.t 26)), none, [], false⟩,
  ⟨(some 3), .rd (.mov (.t 29)), none, [], false⟩,
  ⟨(some 4), .rd (.mov (.t 30)), none, [], false⟩]
def law13_awake_2 : XCode := .region [⟨(some 31), .rd (.mov (.t 4)), none, [], false⟩,
  ⟨(some 32), .rd (.bin .eql .other (.t 31) (.c (.int .i64 0))), none, [], false⟩,
  ⟨(some 33), .rd (.mov (.t 32)), none, [], false⟩,
  ⟨(some 34), .rd (.mov (.t 3)), (some (33, true)), [], false⟩,
  ⟨(some 35), .ef (.buildSlice T_string 1 1 [.str []] [(0, 1, (.c (.str [114])))]), (some (33, true)), [], false⟩,
  ⟨(some 36), .ef (.buildSlice T_string 1 2 [.str []] [(0, 1, (.c (.str [112]))), (1, 1, (.c (.str [113])))]), (some (33, true)), [], false⟩,
  ⟨(some 37), .ef (.buildSlice T_sl_string 1 2 [.nilslice] [(0, 1, (.t 35)), (1, 1, (.t 36))]), (some (33, true)), [], false⟩,
  ⟨(some 38), .call ref13_Same_id [.t 34, .t 37], (some (33, true)), [], false⟩,
  ⟨(some 39), .rd (.pick (.t 33) (.t 38) (.c (.bool false))), none, [], false⟩,
  ⟨(some 40), .rd (.mov (.t 39)), none, [], false⟩,
  ⟨(some 41), .rd (.load 3 true (.t 2)), (some (40, true)), [], false⟩,
  ⟨(some 42), .call strata_Names_id [.t 41], (some (40, true)), [], false⟩,
  ⟨(some 43), .rd (.lenL (.t 42)), (some (40, true)), [], false⟩,
  ⟨(some 44), .rd (.bin .eql .other (.t 43) (.c (.int .i64 3))), (some (40, true)), [], false⟩,
  ⟨(some 45), .rd (.pick (.t 40) (.t 44) (.c (.bool false))), none, [], false⟩,
  ⟨(some 46), .rd (.mov (.t 45)), none, [], false⟩,
  ⟨(some 47), .rd (.load 3 true (.t 2)), (some (46, true)), [], false⟩,
  ⟨(some 48), .call strata_Needs_id [.t 47], (some (46, true)), [], false⟩,
  ⟨(some 49), .rd (.lenL (.t 48)), (some (46, true)), [], false⟩,
  ⟨(some 50), .rd (.bin .eql .other (.t 49) (.c (.int .i64 3))), (some (46, true)), [], false⟩,
  ⟨(some 51), .rd (.pick (.t 46) (.t 50) (.c (.bool false))), none, [], false⟩,
  ⟨(some 52), .rd (.mov (.t 51)), none, [], false⟩,
  ⟨(some 53), .rd (.off 0 (.t 2)), (some (52, true)), [], false⟩,
  ⟨(some 54), .rd (.load 1 false (.t 53)), (some (52, true)), [], false⟩,
  ⟨(some 55), .rd (.idx 4 (.t 54) (.c (.int .i64 0))), (some (52, true)), [], false⟩,
  ⟨(some 56), .rd (.off 3 (.t 55)), (some (52, true)), [], false⟩,
  ⟨(some 57), .rd (.load 1 false (.t 56)), (some (52, true)), [], false⟩,
  ⟨(some 58), .rd (.idx 17 (.t 57) (.c (.int .i64 1))), (some (52, true)), [], false⟩,
  ⟨(some 59), .rd (.load 17 true (.t 58)), (some (52, true)), [], false⟩,
  ⟨(some 60), .call strata_Uses_id [.t 59], (some (52, true)), [], false⟩,
  ⟨(some 61), .rd (.lenL (.t 60)), (some (52, true)), [], false⟩,
  ⟨(some 62), .rd (.bin .eql .other (.t 61) (.c (.int .i64 1))), (some (52, true)), [], false⟩,
  ⟨(some 63), .rd (.pick (.t 52) (.t 62) (.c (.bool false))), none, [], false⟩,
  ⟨(some 0), .rd (.mov (.t 63)), none, [], false⟩]
def law13_awake_3 : XCode := .seq law13_awake_2 .ret
def law13_awake_4 : XCode := .seq law13_awake_1 (.keep [2, 3, 4] law13_awake_3)
def law13_awake_5 : XCode := .seq law13_awake_0 (.keep [2] law13_awake_4)
def law13_awake_6 : XCode := .seq (.region [⟨(some 1), .rd (.mov (.c (.func law13_awake_f1_id []))), none, [], false⟩]) law13_awake_5
def law13_awake_7 : XCode := .seq (.region [⟨(some 0), .rd (.mov (.c (.bool false))), none, [], false⟩]) law13_awake_6
def law13_awake : XFun := ⟨0, law13_awake_7, [.tmp 0]⟩
theorem law13_awake_ok : FunOk Try.prog law13_awake_id law13_awake := compFun_ok rfl E_ok (by kernel_rfl)

/-! ## 7 antecedent/antecedentlaw13.few -/
def law13_few_0 : XCode := .seq (.region [⟨(some 3), .rd (.load 3 true (.t 1)), none, [], false⟩,
  ⟨(some 4), .call ref09_Few_id [.t 3, .c (.int .i64 10), .c (.int .i64 8)], none, [], false⟩,
  ⟨(some 2), .rd (.mov (.t 4)), none, [], false⟩]) .ret
def law13_few_1 : XCode := .seq (.region [⟨(some 1), .ef (.box T_api_Program 3 (.t 0)), none, [], false⟩,
  ⟨(some 2), .rd (.mov (.c (.bool false))), none, [], false⟩]) law13_few_0
def law13_few : XFun := ⟨1, law13_few_1, [.tmp 2]⟩
theorem law13_few_ok : FunOk Try.prog law13_few_id law13_few := compFun_ok rfl E_ok (by kernel_rfl)

/-! ## 8 antecedent/strata.Strata -/
def strata_Strata_0 : XCode := .region [⟨(some 22), .rd (.mov (.t 4)), none, [], false⟩,
  ⟨(some 23), .rd (.lenL (.t 22)), none, [], false⟩,
  ⟨(some 24), .rd (.load 3 true (.t 1)), none, [], false⟩,
  ⟨(some 25), .call strata_Needs_id [.t 24], none, [], false⟩,
  ⟨(some 26), .call comps_Comps_id [.t 23, .t 25], none, [], false⟩,
  ⟨(some 5), .rd (.mov (.t 26)), none, [], false⟩]
def strata_Strata_1 : XCode := .cond (.t 31) .skip (.exit 0)
def strata_Strata_2 : XCode := .region [⟨(some 32), .rd (.mov (.t 30)), none, [], false⟩,
  ⟨(some 33), .rd (.idx 1 (.t 28) (.t 30)), none, [], false⟩,
  ⟨(some 34), .rd (.load 1 false (.t 33)), none, [], false⟩,
  ⟨(some 7), .rd (.mov (.t 32)), none, [], false⟩,
  ⟨(some 8), .rd (.mov (.t 34)), none, [], false⟩]
def strata_Strata_3 : XCode := .draw [⟨(some 35), .rd (.load 1 false (.t 6)), none, [], false⟩,
  ⟨(some 36), .rd (.mov (.t 8)), none, [], false⟩,
  ⟨(some 37), .rd (.mov (.t 5)), none, [], false⟩,
  ⟨(some 38), .rd (.mov (.t 7)), none, [], false⟩,
  ⟨(some 39), .rd (.idx 1 (.t 37) (.t 38)), none, [2, 3], false⟩,
  ⟨(some 40), .rd (.load 1 false (.t 39)), none, [4, 2, 3], false⟩,
  ⟨none, .ef (.mapset .str (.t 35) (.t 36) (.t 40)), none, [0, 1, 5, 2, 3, 4], false⟩]
def strata_Strata_4 : XCode := .seq strata_Strata_2 (.keep [1, 4, 5, 6, 7, 8, 28, 29, 30] strata_Strata_3)
def strata_Strata_5 : XCode := .region [⟨(some 41), .rd (.bin .add .other (.t 30) (.c (.int .i64 1))), none, [], false⟩,
  ⟨(some 30), .rd (.mov (.t 41)), none, [], false⟩]
def strata_Strata_6 : XCode := .seq (.block 1 strata_Strata_4) (.keep [1, 4, 5, 6, 28, 29, 30] strata_Strata_5)
def strata_Strata_7 : XCode := .seq strata_Strata_1 (.keep [1, 4, 5, 6, 28, 29, 30] strata_Strata_6)
def strata_Strata_8 : XCode := .seq (.region [⟨(some 31), .rd (.bin .lss .other (.t 30) (.t 29)), none, [], false⟩]) strata_Strata_7
def strata_Strata_9 : XCode := .seq (.region [⟨(some 28), .rd (.mov (.t 4)), none, [], false⟩,
  ⟨(some 29), .rd (.lenL (.t 28)), none, [], false⟩,
  ⟨(some 30), .rd (.mov (.c (.int .i64 0))), none, [], false⟩]) (.block 0 (.loop [1, 4, 5, 6, 28, 29, 30] strata_Strata_8))
def strata_Strata_10 : XCode := .region [⟨(some 9), .ef (.new T_bool 1 [.bool false]), none, [], false⟩,
  ⟨(some 10), .ef (.new T_bool 1 [.bool false]), none, [], false⟩,
  ⟨none, .ef (.store 1 (.t 9) (.c (.bool false))), none, [], false⟩,
  ⟨none, .ef (.store 1 (.t 10) (.c (.bool false))), none, [], false⟩]
def strata_Strata_11 : XCode := .region [⟨(some 42), .rd (.off 0 (.t 1)), none, [], false⟩,
  ⟨(some 43), .rd (.load 1 false (.t 42)), none, [], false⟩,
  ⟨(some 44), .rd (.lenL (.t 43)), none, [], false⟩,
  ⟨(some 45), .rd (.mov (.c (.int .i64 0))), none, [], false⟩]
def strata_Strata_12 : XCode := .cond (.t 46) .skip (.exit 2)
def strata_Strata_13 : XCode := .region [⟨(some 47), .rd (.idx 4 (.t 43) (.t 45)), none, [], false⟩,
  ⟨(some 48), .rd (.load 4 true (.t 47)), none, [], false⟩,
  ⟨(some 12), .ef (.new T_api_Rule 4 [.str [], .nilslice, .int .i64 0, .nilslice]), none, [], false⟩,
  ⟨none, .ef (.store 4 (.t 12) (.t 48)), none, [], false⟩]
def strata_Strata_14 : XCode := .region [⟨(some 49), .rd (.off 3 (.t 12)), none, [], false⟩,
  ⟨(some 50), .rd (.load 1 false (.t 49)), none, [], false⟩,
  ⟨(some 51), .call slices_ContainsFunc_api_Literal_id [.t 50, .c (.func strata_Strata_f1_id [])], none, [], false⟩,
  ⟨(some 13), .ef (.new T_bool 1 [.bool false]), none, [], false⟩,
  ⟨none, .ef (.store 1 (.t 13) (.t 51)), none, [], false⟩]
def strata_Strata_15 : XCode := .region [⟨(some 52), .rd (.load 4 true (.t 12)), none, [], false⟩,
  ⟨(some 53), .rd (.mkfunc strata_Strata_f2_id [.t 6, .t 12, .t 9, .t 10, .t 13]), none, [], false⟩,
  ⟨(some 54), .call strata_each_id [.t 52, .t 53], none, [], false⟩]
def strata_Strata_16 : XCode := .seq strata_Strata_14 (.keep [4, 5, 6, 9, 10, 12, 13, 43, 44, 45] strata_Strata_15)
def strata_Strata_17 : XCode := .seq strata_Strata_13 (.keep [4, 5, 6, 9, 10, 12, 43, 44, 45] strata_Strata_16)
def strata_Strata_18 : XCode := .region [⟨(some 55), .rd (.bin .add .other (.t 45) (.c (.int .i64 1))), none, [], false⟩,
  ⟨(some 45), .rd (.mov (.t 55)), none, [], false⟩]
def strata_Strata_19 : XCode := .seq (.block 3 strata_Strata_17) (.keep [4, 5, 6, 9, 10, 43, 44, 45] strata_Strata_18)
def strata_Strata_20 : XCode := .seq strata_Strata_12 (.keep [4, 5, 6, 9, 10, 43, 44, 45] strata_Strata_19)
def strata_Strata_21 : XCode := .seq (.region [⟨(some 46), .rd (.bin .lss .other (.t 45) (.t 44)), none, [], false⟩]) strata_Strata_20
def strata_Strata_22 : XCode := .seq strata_Strata_11 (.keep [4, 5, 6, 9, 10, 43, 44, 45] (.block 2 (.loop [4, 5, 6, 9, 10, 43, 44, 45] strata_Strata_21)))
def strata_Strata_23 : XCode := .seq (.region [⟨(some 2), .rd (.mov (.c (.nilslice))), none, [], false⟩,
  ⟨(some 3), .rd (.mov (.c (.int .i64 8))), none, [], false⟩]) .ret
def strata_Strata_24 : XCode := .seq (.region [⟨(some 2), .rd (.mov (.c (.nilslice))), none, [], false⟩,
  ⟨(some 3), .rd (.mov (.c (.int .i64 9))), none, [], false⟩]) .ret
def strata_Strata_25 : XCode := .cond (.t 58) strata_Strata_24 .skip
def strata_Strata_26 : XCode := .seq (.region [⟨(some 59), .rd (.load 1 false (.t 10)), none, [], false⟩,
  ⟨(some 58), .rd (.mov (.t 59)), none, [], false⟩]) strata_Strata_25
def strata_Strata_27 : XCode := .cond (.t 56) strata_Strata_23 strata_Strata_26
def strata_Strata_28 : XCode := .seq (.region [⟨(some 57), .rd (.load 1 false (.t 9)), none, [], false⟩,
  ⟨(some 56), .rd (.mov (.t 57)), none, [], false⟩]) strata_Strata_27
def strata_Strata_29 : XCode := .region [⟨(some 60), .rd (.mov (.t 5)), none, [], false⟩,
  ⟨(some 61), .call comps_Lists_id [.t 60], none, [], false⟩,
  ⟨(some 62), .rd (.lenL (.t 61)), none, [], false⟩,
  ⟨(some 63), .rd (.mov (.c (.int .i64 0))), none, [], false⟩]
def strata_Strata_30 : XCode := .cond (.t 64) .skip (.exit 5)
def strata_Strata_31 : XCode := .cond (.t 70) .skip (.exit 7)
def strata_Strata_32 : XCode := .region [⟨(some 73), .rd (.mov (.t 17)), none, [], false⟩,
  ⟨(some 74), .rd (.mov (.t 4)), none, [], false⟩,
  ⟨(some 75), .rd (.mov (.t 19)), none, [], false⟩,
  ⟨(some 76), .rd (.idx 1 (.t 74) (.t 75)), none, [], false⟩,
  ⟨(some 77), .rd (.load 1 false (.t 76)), none, [], false⟩,
  ⟨(some 78), .ef (.buildSlice T_string 1 1 [.str []] [(0, 1, (.t 77))]), none, [], false⟩,
  ⟨(some 79), .ef (.append T_string 1 16 (.t 73) (.t 78)), none, [], false⟩,
  ⟨(some 17), .rd (.mov (.t 79)), none, [], false⟩]
def strata_Strata_33 : XCode := .seq (.region [⟨(some 71), .rd (.idx 1 (.t 67) (.t 69)), none, [], false⟩,
  ⟨(some 72), .rd (.load 1 false (.t 71)), none, [], false⟩,
  ⟨(some 19), .rd (.mov (.t 72)), none, [], false⟩]) strata_Strata_32
def strata_Strata_34 : XCode := .region [⟨(some 80), .rd (.bin .add .other (.t 69) (.c (.int .i64 1))), none, [], false⟩,
  ⟨(some 69), .rd (.mov (.t 80)), none, [], false⟩]
def strata_Strata_35 : XCode := .seq (.block 8 strata_Strata_33) (.keep [4, 14, 17, 61, 62, 63, 67, 68, 69] strata_Strata_34)
def strata_Strata_36 : XCode := .seq strata_Strata_31 (.keep [4, 14, 17, 61, 62, 63, 67, 68, 69] strata_Strata_35)
def strata_Strata_37 : XCode := .seq (.region [⟨(some 70), .rd (.bin .lss .other (.t 69) (.t 68)), none, [], false⟩]) strata_Strata_36
def strata_Strata_38 : XCode := .seq (.region [⟨(some 67), .rd (.mov (.t 16)), none, [], false⟩,
  ⟨(some 68), .rd (.lenL (.t 67)), none, [], false⟩,
  ⟨(some 69), .rd (.mov (.c (.int .i64 0))), none, [], false⟩]) (.block 7 (.loop [4, 14, 17, 61, 62, 63, 67, 68, 69] strata_Strata_37))
def strata_Strata_39 : XCode := .region [⟨(some 81), .rd (.mov (.t 14)), none, [], false⟩,
  ⟨(some 82), .rd (.mov (.t 17)), none, [], false⟩,
  ⟨(some 83), .ef (.buildSlice T_sl_string 1 1 [.nilslice] [(0, 1, (.t 82))]), none, [], false⟩,
  ⟨(some 84), .ef (.append T_sl_string 1 24 (.t 81) (.t 83)), none, [], false⟩,
  ⟨(some 14), .rd (.mov (.t 84)), none, [], false⟩]
def strata_Strata_40 : XCode := .seq strata_Strata_38 (.keep [4, 14, 17, 61, 62, 63] strata_Strata_39)
def strata_Strata_41 : XCode := .seq (.region [⟨(some 17), .rd (.mov (.c (.nilslice))), none, [], false⟩]) strata_Strata_40
def strata_Strata_42 : XCode := .seq (.region [⟨(some 65), .rd (.idx 1 (.t 61) (.t 63)), none, [], false⟩,
  ⟨(some 66), .rd (.load 1 false (.t 65)), none, [], false⟩,
  ⟨(some 16), .rd (.mov (.t 66)), none, [], false⟩]) strata_Strata_41
def strata_Strata_43 : XCode := .region [⟨(some 85), .rd (.bin .add .other (.t 63) (.c (.int .i64 1))), none, [], false⟩,
  ⟨(some 63), .rd (.mov (.t 85)), none, [], false⟩]
def strata_Strata_44 : XCode := .seq (.block 6 strata_Strata_42) (.keep [4, 14, 61, 62, 63] strata_Strata_43)
def strata_Strata_45 : XCode := .seq strata_Strata_30 (.keep [4, 14, 61, 62, 63] strata_Strata_44)
def strata_Strata_46 : XCode := .seq (.region [⟨(some 64), .rd (.bin .lss .other (.t 63) (.t 62)), none, [], false⟩]) strata_Strata_45
def strata_Strata_47 : XCode := .seq strata_Strata_29 (.keep [4, 14, 61, 62, 63] (.block 5 (.loop [4, 14, 61, 62, 63] strata_Strata_46)))
def strata_Strata_48 : XCode := .seq (.region [⟨(some 86), .rd (.mov (.t 14)), none, [], false⟩,
  ⟨(some 2), .rd (.mov (.t 86)), none, [], false⟩,
  ⟨(some 3), .rd (.mov (.c (.int .i64 0))), none, [], false⟩]) .ret
def strata_Strata_49 : XCode := .seq strata_Strata_47 (.keep [14] strata_Strata_48)
def strata_Strata_50 : XCode := .seq (.region [⟨(some 14), .rd (.mov (.c (.nilslice))), none, [], false⟩]) strata_Strata_49
def strata_Strata_51 : XCode := .seq (.block 4 strata_Strata_28) (.keep [4, 5] strata_Strata_50)
def strata_Strata_52 : XCode := .seq strata_Strata_22 (.keep [4, 5, 9, 10] strata_Strata_51)
def strata_Strata_53 : XCode := .seq strata_Strata_10 (.keep [1, 4, 5, 6, 9, 10] strata_Strata_52)
def strata_Strata_54 : XCode := .seq strata_Strata_9 (.keep [1, 4, 5, 6] strata_Strata_53)
def strata_Strata_55 : XCode := .seq (.region [⟨(some 27), .ef (.mkmap), none, [], false⟩,
  ⟨(some 6), .ef (.new T_map_string_int 1 [.nilmap]), none, [], false⟩,
  ⟨none, .ef (.store 1 (.t 6) (.t 27)), none, [], false⟩]) strata_Strata_54
def strata_Strata_56 : XCode := .seq strata_Strata_0 (.keep [1, 4, 5] strata_Strata_55)
def strata_Strata_57 : XCode := .seq (.region [⟨(some 20), .rd (.load 3 true (.t 1)), none, [], false⟩,
  ⟨(some 21), .call strata_Names_id [.t 20], none, [], false⟩,
  ⟨(some 4), .rd (.mov (.t 21)), none, [], false⟩]) strata_Strata_56
def strata_Strata_58 : XCode := .seq (.region [⟨(some 1), .ef (.box T_api_Program 3 (.t 0)), none, [], false⟩,
  ⟨(some 2), .rd (.mov (.c (.nilslice))), none, [], false⟩,
  ⟨(some 3), .rd (.mov (.c (.int .i64 0))), none, [], false⟩]) strata_Strata_57
def strata_Strata : XFun := ⟨1, strata_Strata_58, [.tmp 2, .tmp 3]⟩
theorem strata_Strata_ok : FunOk Try.prog strata_Strata_id strata_Strata := compFun_ok rfl E_ok (by kernel_rfl)

/-! ## 9 antecedent/strata.Names -/
def strata_Names_0 : XCode := .region [⟨(some 6), .rd (.off 1 (.t 1)), none, [], false⟩,
  ⟨(some 7), .rd (.off 0 (.t 6)), none, [], false⟩,
  ⟨(some 8), .rd (.load 1 false (.t 7)), none, [], false⟩,
  ⟨(some 9), .ef (.buildSlice T_string 1 1 [.str []] [(0, 1, (.t 8))]), none, [], false⟩,
  ⟨(some 3), .ef (.new T_sl_string 1 [.nilslice]), none, [], false⟩,
  ⟨none, .ef (.store 1 (.t 3) (.t 9)), none, [], false⟩]
def strata_Names_1 : XCode := .region [⟨(some 10), .rd (.off 0 (.t 1)), none, [], false⟩,
  ⟨(some 11), .rd (.load 1 false (.t 10)), none, [], false⟩,
  ⟨(some 12), .rd (.lenL (.t 11)), none, [], false⟩,
  ⟨(some 13), .rd (.mov (.c (.int .i64 0))), none, [], false⟩]
def strata_Names_2 : XCode := .cond (.t 14) .skip (.exit 0)
def strata_Names_3 : XCode := .region [⟨(some 15), .rd (.idx 4 (.t 11) (.t 13)), none, [], false⟩,
  ⟨(some 16), .rd (.load 4 true (.t 15)), none, [], false⟩,
  ⟨(some 5), .ef (.new T_api_Rule 4 [.str [], .nilslice, .int .i64 0, .nilslice]), none, [], false⟩,
  ⟨none, .ef (.store 4 (.t 5) (.t 16)), none, [], false⟩]
def strata_Names_4 : XCode := .region [⟨(some 17), .rd (.load 1 false (.t 3)), none, [], false⟩,
  ⟨(some 18), .rd (.off 0 (.t 5)), none, [], false⟩,
  ⟨(some 19), .rd (.off 0 (.t 18)), none, [], false⟩,
  ⟨(some 20), .rd (.load 1 false (.t 19)), none, [], false⟩,
  ⟨(some 21), .ef (.buildSlice T_string 1 1 [.str []] [(0, 1, (.t 20))]), none, [], false⟩,
  ⟨(some 22), .ef (.append T_string 1 16 (.t 17) (.t 21)), none, [], false⟩,
  ⟨none, .ef (.store 1 (.t 3) (.t 22)), none, [], false⟩]
def strata_Names_5 : XCode := .region [⟨(some 23), .rd (.load 4 true (.t 5)), none, [], false⟩,
  ⟨(some 24), .rd (.mkfunc strata_Names_f1_id [.t 3]), none, [], false⟩,
  ⟨(some 25), .call strata_each_id [.t 23, .t 24], none, [], false⟩]
def strata_Names_6 : XCode := .seq strata_Names_4 (.keep [3, 5, 11, 12, 13] strata_Names_5)
def strata_Names_7 : XCode := .seq strata_Names_3 (.keep [3, 5, 11, 12, 13] strata_Names_6)
def strata_Names_8 : XCode := .region [⟨(some 26), .rd (.bin .add .other (.t 13) (.c (.int .i64 1))), none, [], false⟩,
  ⟨(some 13), .rd (.mov (.t 26)), none, [], false⟩]
def strata_Names_9 : XCode := .seq (.block 1 strata_Names_7) (.keep [3, 11, 12, 13] strata_Names_8)
def strata_Names_10 : XCode := .seq strata_Names_2 (.keep [3, 11, 12, 13] strata_Names_9)
def strata_Names_11 : XCode := .seq (.region [⟨(some 14), .rd (.bin .lss .other (.t 13) (.t 12)), none, [], false⟩]) strata_Names_10
def strata_Names_12 : XCode := .seq strata_Names_1 (.keep [3, 11, 12, 13] (.block 0 (.loop [3, 11, 12, 13] strata_Names_11)))
def strata_Names_13 : XCode := .seq (.region [⟨(some 27), .rd (.load 1 false (.t 3)), none, [], false⟩,
  ⟨(some 28), .call strata_sorted_id [.t 27], none, [], false⟩,
  ⟨(some 2), .rd (.mov (.t 28)), none, [], false⟩]) .ret
def strata_Names_14 : XCode := .seq strata_Names_12 (.keep [3] strata_Names_13)
def strata_Names_15 : XCode := .seq strata_Names_0 (.keep [1, 3] strata_Names_14)
def strata_Names_16 : XCode := .seq (.region [⟨(some 1), .ef (.box T_api_Program 3 (.t 0)), none, [], false⟩,
  ⟨(some 2), .rd (.mov (.c (.nilslice))), none, [], false⟩]) strata_Names_15
def strata_Names : XFun := ⟨1, strata_Names_16, [.tmp 2]⟩
theorem strata_Names_ok : FunOk Try.prog strata_Names_id strata_Names := compFun_ok rfl E_ok (by kernel_rfl)

/-! ## 10 antecedent/antecedentlaw13.StrataNames$1 -/
def law13_StrataNames_f1_0 : XCode := .cond (.t 8) .skip (.exit 0)
def law13_StrataNames_f1_1 : XCode := .region [⟨(some 10), .rd (.load 1 false (.t 1)), none, [], false⟩,
  ⟨(some 11), .rd (.mov (.t 4)), none, [], false⟩,
  ⟨(some 12), .rd (.idx 1 (.t 10) (.t 11)), none, [], false⟩,
  ⟨(some 13), .rd (.load 1 false (.t 12)), none, [], false⟩,
  ⟨(some 14), .rd (.mov (.t 0)), none, [], false⟩,
  ⟨(some 15), .rd (.bin .eql .other (.t 13) (.t 14)), none, [], false⟩]
def law13_StrataNames_f1_2 : XCode := .seq (.region [⟨(some 16), .rd (.mov (.t 4)), none, [], false⟩,
  ⟨(some 3), .rd (.mov (.t 16)), none, [], false⟩]) .ret
def law13_StrataNames_f1_3 : XCode := .cond (.t 15) law13_StrataNames_f1_2 .skip
def law13_StrataNames_f1_4 : XCode := .seq law13_StrataNames_f1_1 (.keep [0, 1, 4, 6, 7, 15] law13_StrataNames_f1_3)
def law13_StrataNames_f1_5 : XCode := .seq (.region [⟨(some 9), .rd (.mov (.t 7)), none, [], false⟩,
  ⟨(some 4), .rd (.mov (.t 9)), none, [], false⟩]) law13_StrataNames_f1_4
def law13_StrataNames_f1_6 : XCode := .region [⟨(some 17), .rd (.bin .add .other (.t 7) (.c (.int .i64 1))), none, [], false⟩,
  ⟨(some 7), .rd (.mov (.t 17)), none, [], false⟩]
def law13_StrataNames_f1_7 : XCode := .seq (.block 1 law13_StrataNames_f1_5) (.keep [0, 1, 6, 7] law13_StrataNames_f1_6)
def law13_StrataNames_f1_8 : XCode := .seq law13_StrataNames_f1_0 (.keep [0, 1, 6, 7] law13_StrataNames_f1_7)
def law13_StrataNames_f1_9 : XCode := .seq (.region [⟨(some 8), .rd (.bin .lss .other (.t 7) (.t 6)), none, [], false⟩]) law13_StrataNames_f1_8
def law13_StrataNames_f1_10 : XCode := .seq (.region [⟨(some 5), .rd (.load 1 false (.t 1)), none, [], false⟩,
  ⟨(some 6), .rd (.lenL (.t 5)), none, [], false⟩,
  ⟨(some 7), .rd (.mov (.c (.int .i64 0))), none, [], false⟩]) (.block 0 (.loop [0, 1, 6, 7] law13_StrataNames_f1_9))
def law13_StrataNames_f1_11 : XCode := .seq (.region [⟨(some 3), .rd (.mov (.c (.int .i64 (-1)))), none, [], false⟩]) .ret
def law13_StrataNames_f1_12 : XCode := .seq law13_StrataNames_f1_10 (.keep [] law13_StrataNames_f1_11)
def law13_StrataNames_f1_13 : XCode := .seq (.region [⟨(some 3), .rd (.mov (.c (.int .i64 0))), none, [], false⟩]) law13_StrataNames_f1_12
def law13_StrataNames_f1 : XFun := ⟨2, law13_StrataNames_f1_13, [.tmp 3]⟩
theorem law13_StrataNames_f1_ok : FunOk Try.prog law13_StrataNames_f1_id law13_StrataNames_f1 := compFun_ok rfl E_ok (by kernel_rfl)

/-! ## 11 antecedent/strata.Needs -/
def strata_Needs_0 : XCode := .region [⟨(some 9), .rd (.load 3 true (.t 1)), none, [], false⟩,
  ⟨(some 10), .call strata_Names_id [.t 9], none, [], false⟩,
  ⟨(some 3), .ef (.new T_sl_string 1 [.nilslice]), none, [], false⟩,
  ⟨none, .ef (.store 1 (.t 3) (.t 10)), none, [], false⟩]
def strata_Needs_1 : XCode := .region [⟨(some 11), .rd (.off 0 (.t 1)), none, [], false⟩,
  ⟨(some 12), .rd (.load 1 false (.t 11)), none, [], false⟩,
  ⟨(some 13), .rd (.lenL (.t 12)), none, [], false⟩,
  ⟨(some 14), .rd (.mov (.c (.int .i64 0))), none, [], false⟩]
def strata_Needs_2 : XCode := .cond (.t 15) .skip (.exit 0)
def strata_Needs_3 : XCode := .region [⟨(some 16), .rd (.idx 4 (.t 12) (.t 14)), none, [], false⟩,
  ⟨(some 17), .rd (.load 4 true (.t 16)), none, [], false⟩,
  ⟨(some 6), .ef (.new T_api_Rule 4 [.str [], .nilslice, .int .i64 0, .nilslice]), none, [], false⟩,
  ⟨none, .ef (.store 4 (.t 6) (.t 17)), none, [], false⟩]
def strata_Needs_4 : XCode := .region [⟨(some 19), .rd (.load 1 false (.t 3)), none, [], false⟩,
  ⟨(some 20), .rd (.off 0 (.t 6)), none, [], false⟩,
  ⟨(some 21), .rd (.off 0 (.t 20)), none, [], false⟩,
  ⟨(some 22), .rd (.load 1 false (.t 21)), none, [], false⟩,
  ⟨(some 23), .call slices_BinarySearch_string_id [.t 19, .t 22], none, [], false⟩,
  ⟨(some 18), .rd (.mov (.t 23)), none, [], false⟩,
  ⟨(some 24), .rd (.extract 0 (.t 18)), none, [], false⟩,
  ⟨(some 25), .rd (.extract 1 (.t 18)), none, [], false⟩,
  ⟨(some 7), .ef (.new T_int 1 [.int .i64 0]), none, [], false⟩,
  ⟨none, .ef (.store 1 (.t 7) (.t 24)), none, [], false⟩,
  ⟨(some 8), .rd (.mov (.t 25)), none, [], false⟩]
def strata_Needs_5 : XCode := .region [⟨(some 26), .rd (.load 4 true (.t 6)), none, [], false⟩,
  ⟨(some 27), .rd (.mkfunc strata_Needs_f1_id [.t 3, .t 4, .t 7]), none, [], false⟩,
  ⟨(some 28), .call strata_each_id [.t 26, .t 27], none, [], false⟩]
def strata_Needs_6 : XCode := .seq strata_Needs_4 (.keep [3, 4, 6, 7, 12, 13, 14] strata_Needs_5)
def strata_Needs_7 : XCode := .seq strata_Needs_3 (.keep [3, 4, 6, 12, 13, 14] strata_Needs_6)
def strata_Needs_8 : XCode := .region [⟨(some 29), .rd (.bin .add .other (.t 14) (.c (.int .i64 1))), none, [], false⟩,
  ⟨(some 14), .rd (.mov (.t 29)), none, [], false⟩]
def strata_Needs_9 : XCode := .seq (.block 1 strata_Needs_7) (.keep [3, 4, 12, 13, 14] strata_Needs_8)
def strata_Needs_10 : XCode := .seq strata_Needs_2 (.keep [3, 4, 12, 13, 14] strata_Needs_9)
def strata_Needs_11 : XCode := .seq (.region [⟨(some 15), .rd (.bin .lss .other (.t 14) (.t 13)), none, [], false⟩]) strata_Needs_10
def strata_Needs_12 : XCode := .seq strata_Needs_1 (.keep [3, 4, 12, 13, 14] (.block 0 (.loop [3, 4, 12, 13, 14] strata_Needs_11)))
def strata_Needs_13 : XCode := .seq (.region [⟨(some 32), .rd (.load 1 false (.t 4)), none, [], false⟩,
  ⟨(some 33), .call slices_Compact_sl_ar2_int_ar2_int_id [.t 32], none, [], false⟩,
  ⟨(some 2), .rd (.mov (.t 33)), none, [], false⟩]) .ret
def strata_Needs_14 : XCode := .seq (.region [⟨(some 30), .rd (.load 1 false (.t 4)), none, [], false⟩,
  ⟨(some 31), .call slices_SortFunc_sl_ar2_int_ar2_int_id [.t 30, .c (.func strata_Needs_f2_id [])], none, [], false⟩]) strata_Needs_13
def strata_Needs_15 : XCode := .seq strata_Needs_12 (.keep [4] strata_Needs_14)
def strata_Needs_16 : XCode := .seq (.region [⟨(some 4), .ef (.new T_sl_ar2_int 1 [.nilslice]), none, [], false⟩]) strata_Needs_15
def strata_Needs_17 : XCode := .seq strata_Needs_0 (.keep [1, 3] strata_Needs_16)
def strata_Needs_18 : XCode := .seq (.region [⟨(some 1), .ef (.box T_api_Program 3 (.t 0)), none, [], false⟩,
  ⟨(some 2), .rd (.mov (.c (.nilslice))), none, [], false⟩]) strata_Needs_17
def strata_Needs : XFun := ⟨1, strata_Needs_18, [.tmp 2]⟩
theorem strata_Needs_ok : FunOk Try.prog strata_Needs_id strata_Needs := compFun_ok rfl E_ok (by kernel_rfl)

/-! ## 12 antecedent/strata.Uses -/
def strata_Uses_0 : XCode := .region [⟨(some 10), .rd (.bin .eql .other (.t 7) (.c (.int .i64 2))), none, [], false⟩,
  ⟨(some 8), .rd (.mov (.t 10)), none, [], false⟩]
def strata_Uses_1 : XCode := .cond (.t 8) .skip strata_Uses_0
def strata_Uses_2 : XCode := .seq (.region [⟨(some 9), .rd (.bin .eql .other (.t 7) (.c (.int .i64 1))), none, [], false⟩,
  ⟨(some 8), .rd (.mov (.t 9)), none, [], false⟩]) strata_Uses_1
def strata_Uses_3 : XCode := .region [⟨(some 11), .rd (.mov (.t 3)), none, [], false⟩,
  ⟨(some 12), .rd (.off 1 (.t 1)), none, [], false⟩,
  ⟨(some 13), .rd (.off 0 (.t 12)), none, [], false⟩,
  ⟨(some 14), .rd (.load 1 false (.t 13)), none, [], false⟩,
  ⟨(some 15), .ef (.buildSlice T_string 1 1 [.str []] [(0, 1, (.t 14))]), none, [], false⟩,
  ⟨(some 16), .ef (.append T_string 1 16 (.t 11) (.t 15)), none, [], false⟩,
  ⟨(some 3), .rd (.mov (.t 16)), none, [], false⟩]
def strata_Uses_4 : XCode := .region [⟨(some 19), .rd (.off 16 (.t 1)), none, [], false⟩,
  ⟨(some 20), .rd (.load 1 false (.t 19)), none, [], false⟩,
  ⟨(some 21), .rd (.lenL (.t 20)), none, [], false⟩,
  ⟨(some 22), .rd (.mov (.c (.int .i64 0))), none, [], false⟩]
def strata_Uses_5 : XCode := .cond (.t 23) .skip (.exit 1)
def strata_Uses_6 : XCode := .region [⟨(some 24), .rd (.idx 2 (.t 20) (.t 22)), none, [], false⟩,
  ⟨(some 25), .rd (.load 2 true (.t 24)), none, [], false⟩,
  ⟨(some 5), .ef (.new T_api_Step 2 [.int .i64 0, .str []]), none, [], false⟩,
  ⟨none, .ef (.store 2 (.t 5) (.t 25)), none, [], false⟩]
def strata_Uses_7 : XCode := .region [⟨(some 29), .rd (.mov (.t 3)), none, [], false⟩,
  ⟨(some 30), .rd (.off 1 (.t 5)), none, [], false⟩,
  ⟨(some 31), .rd (.load 1 false (.t 30)), none, [], false⟩,
  ⟨(some 32), .ef (.buildSlice T_string 1 1 [.str []] [(0, 1, (.t 31))]), none, [], false⟩,
  ⟨(some 33), .ef (.append T_string 1 16 (.t 29) (.t 32)), none, [], false⟩,
  ⟨(some 3), .rd (.mov (.t 33)), none, [], false⟩]
def strata_Uses_8 : XCode := .cond (.t 28) strata_Uses_7 .skip
def strata_Uses_9 : XCode := .seq (.region [⟨(some 26), .rd (.off 1 (.t 5)), none, [], false⟩,
  ⟨(some 27), .rd (.load 1 false (.t 26)), none, [], false⟩,
  ⟨(some 28), .rd (.bin .neq .other (.t 27) (.c (.str []))), none, [], false⟩]) strata_Uses_8
def strata_Uses_10 : XCode := .seq strata_Uses_6 (.keep [3, 5, 20, 21, 22] strata_Uses_9)
def strata_Uses_11 : XCode := .region [⟨(some 34), .rd (.bin .add .other (.t 22) (.c (.int .i64 1))), none, [], false⟩,
  ⟨(some 22), .rd (.mov (.t 34)), none, [], false⟩]
def strata_Uses_12 : XCode := .seq (.block 2 strata_Uses_10) (.keep [3, 20, 21, 22] strata_Uses_11)
def strata_Uses_13 : XCode := .seq strata_Uses_5 (.keep [3, 20, 21, 22] strata_Uses_12)
def strata_Uses_14 : XCode := .seq (.region [⟨(some 23), .rd (.bin .lss .other (.t 22) (.t 21)), none, [], false⟩]) strata_Uses_13
def strata_Uses_15 : XCode := .seq strata_Uses_4 (.keep [3, 20, 21, 22] (.block 1 (.loop [3, 20, 21, 22] strata_Uses_14)))
def strata_Uses_16 : XCode := .cond (.t 17) strata_Uses_15 .skip
def strata_Uses_17 : XCode := .seq (.region [⟨(some 18), .rd (.bin .eql .other (.t 7) (.c (.int .i64 5))), none, [], false⟩,
  ⟨(some 17), .rd (.mov (.t 18)), none, [], false⟩]) strata_Uses_16
def strata_Uses_18 : XCode := .cond (.t 8) strata_Uses_3 strata_Uses_17
def strata_Uses_19 : XCode := .seq strata_Uses_2 (.keep [1, 3, 7, 8] strata_Uses_18)
def strata_Uses_20 : XCode := .seq (.region [⟨(some 6), .rd (.off 0 (.t 1)), none, [], false⟩,
  ⟨(some 7), .rd (.load 1 false (.t 6)), none, [], false⟩]) (.block 0 strata_Uses_19)
def strata_Uses_21 : XCode := .seq (.region [⟨(some 35), .rd (.mov (.t 3)), none, [], false⟩,
  ⟨(some 36), .call strata_sorted_id [.t 35], none, [], false⟩,
  ⟨(some 2), .rd (.mov (.t 36)), none, [], false⟩]) .ret
def strata_Uses_22 : XCode := .seq strata_Uses_20 (.keep [3] strata_Uses_21)
def strata_Uses_23 : XCode := .seq (.region [⟨(some 3), .rd (.mov (.c (.nilslice))), none, [], false⟩]) strata_Uses_22
def strata_Uses_24 : XCode := .seq (.region [⟨(some 1), .ef (.box T_api_Literal 17 (.t 0)), none, [], false⟩,
  ⟨(some 2), .rd (.mov (.c (.nilslice))), none, [], false⟩]) strata_Uses_23
def strata_Uses : XFun := ⟨1, strata_Uses_24, [.tmp 2]⟩
theorem strata_Uses_ok : FunOk Try.prog strata_Uses_id strata_Uses := compFun_ok rfl E_ok (by kernel_rfl)

/-! ## 20 antecedent/antecedentlaw13.awake$1 -/
def law13_awake_f1_0 : XCode := .seq (.region [⟨(some 3), .rd (.mov (.t 0)), none, [], false⟩,
  ⟨(some 4), .rd (.build [.str [], .nilslice] [(0, 1, (.t 3))]), none, [], false⟩,
  ⟨none, .ef (.store 2 (.t 2) (.t 4)), none, [], false⟩]) .ret
def law13_awake_f1_1 : XCode := .seq (.region [⟨(some 2), .ef (.new T_api_Atom 2 [.str [], .nilslice]), none, [], false⟩]) law13_awake_f1_0
def law13_awake_f1 : XFun := ⟨1, law13_awake_f1_1, [.cell 2 true 2]⟩
theorem law13_awake_f1_ok : FunOk Try.prog law13_awake_f1_id law13_awake_f1 := compFun_ok rfl E_ok (by kernel_rfl)

/-! ## 21 antecedent/antecedentref13.Same -/
def ref13_Same_0 : XCode := .region [⟨(some 6), .rd (.mov (.t 0)), none, [], false⟩,
  ⟨(some 7), .rd (.lenL (.t 6)), none, [], false⟩,
  ⟨(some 8), .rd (.mov (.t 1)), none, [], false⟩,
  ⟨(some 9), .rd (.lenL (.t 8)), none, [], false⟩,
  ⟨(some 10), .rd (.bin .neq .other (.t 7) (.t 9)), none, [], false⟩]
def ref13_Same_1 : XCode := .seq (.region [⟨(some 4), .rd (.mov (.c (.bool false))), none, [], false⟩]) .ret
def ref13_Same_2 : XCode := .cond (.t 10) ref13_Same_1 .skip
def ref13_Same_3 : XCode := .seq ref13_Same_0 (.keep [0, 1, 10] ref13_Same_2)
def ref13_Same_4 : XCode := .cond (.t 14) .skip (.exit 0)
def ref13_Same_5 : XCode := .draw [⟨(some 16), .rd (.mov (.t 0)), none, [], false⟩,
  ⟨(some 17), .rd (.mov (.t 5)), none, [], false⟩,
  ⟨(some 18), .rd (.idx 1 (.t 16) (.t 17)), none, [0, 1], false⟩,
  ⟨(some 19), .rd (.load 1 false (.t 18)), none, [2, 0, 1], false⟩,
  ⟨(some 20), .rd (.mov (.t 1)), none, [], false⟩,
  ⟨(some 21), .rd (.mov (.t 5)), none, [], false⟩,
  ⟨(some 22), .rd (.idx 1 (.t 20) (.t 21)), none, [4, 5], false⟩,
  ⟨(some 23), .rd (.load 1 false (.t 22)), none, [6, 4, 5], false⟩,
  ⟨(some 24), .call ref11_Same_id [.t 19, .t 23], none, [3, 7, 2, 0, 1, 6, 4, 5], false⟩,
  ⟨(some 25), .rd (.un .not (.t 24)), none, [8, 3, 7, 2, 0, 1, 6, 4, 5], false⟩]
def ref13_Same_6 : XCode := .seq (.region [⟨(some 4), .rd (.mov (.c (.bool false))), none, [], false⟩]) .ret
def ref13_Same_7 : XCode := .cond (.t 25) ref13_Same_6 .skip
def ref13_Same_8 : XCode := .seq ref13_Same_5 (.keep [0, 1, 12, 13, 25] ref13_Same_7)
def ref13_Same_9 : XCode := .seq (.region [⟨(some 15), .rd (.mov (.t 13)), none, [], false⟩,
  ⟨(some 5), .rd (.mov (.t 15)), none, [], false⟩]) ref13_Same_8
def ref13_Same_10 : XCode := .region [⟨(some 26), .rd (.bin .add .other (.t 13) (.c (.int .i64 1))), none, [], false⟩,
  ⟨(some 13), .rd (.mov (.t 26)), none, [], false⟩]
def ref13_Same_11 : XCode := .seq (.block 1 ref13_Same_9) (.keep [0, 1, 12, 13] ref13_Same_10)
def ref13_Same_12 : XCode := .seq ref13_Same_4 (.keep [0, 1, 12, 13] ref13_Same_11)
def ref13_Same_13 : XCode := .seq (.region [⟨(some 14), .rd (.bin .lss .other (.t 13) (.t 12)), none, [], false⟩]) ref13_Same_12
def ref13_Same_14 : XCode := .seq (.region [⟨(some 11), .rd (.mov (.t 0)), none, [], false⟩,
  ⟨(some 12), .rd (.lenL (.t 11)), none, [], false⟩,
  ⟨(some 13), .rd (.mov (.c (.int .i64 0))), none, [], false⟩]) (.block 0 (.loop [0, 1, 12, 13] ref13_Same_13))
def ref13_Same_15 : XCode := .seq (.region [⟨(some 4), .rd (.mov (.c (.bool true))), none, [], false⟩]) .ret
def ref13_Same_16 : XCode := .seq ref13_Same_14 (.keep [] ref13_Same_15)
def ref13_Same_17 : XCode := .seq ref13_Same_3 (.keep [0, 1] ref13_Same_16)
def ref13_Same_18 : XCode := .seq (.region [⟨(some 4), .rd (.mov (.c (.bool false))), none, [], false⟩]) ref13_Same_17
def ref13_Same : XFun := ⟨2, ref13_Same_18, [.tmp 4]⟩
theorem ref13_Same_ok : FunOk Try.prog ref13_Same_id ref13_Same := compFun_ok rfl E_ok (by kernel_rfl)

/-! ## 22 antecedent/antecedentref09.Few -/
def ref09_Few_0 : XCode := .region [⟨(some 11), .rd (.off 0 (.t 3)), none, [], false⟩,
  ⟨(some 12), .rd (.load 1 false (.t 11)), none, [], false⟩,
  ⟨(some 13), .rd (.lenL (.t 12)), none, [], false⟩,
  ⟨(some 14), .rd (.mov (.t 1)), none, [], false⟩,
  ⟨(some 15), .rd (.bin .gtr .other (.t 13) (.t 14)), none, [], false⟩,
  ⟨(some 16), .rd (.mov (.t 15)), none, [], false⟩,
  ⟨(some 17), .rd (.off 1 (.t 3)), (some (16, false)), [], false⟩,
  ⟨(some 18), .rd (.off 1 (.t 17)), (some (16, false)), [], false⟩,
  ⟨(some 19), .rd (.load 1 false (.t 18)), (some (16, false)), [], false⟩,
  ⟨(some 20), .rd (.lenL (.t 19)), (some (16, false)), [], false⟩,
  ⟨(some 21), .rd (.bin .gtr .other (.t 20) (.c (.int .i64 10))), (some (16, false)), [], false⟩,
  ⟨(some 22), .rd (.pick (.t 16) (.c (.bool true)) (.t 21)), none, [], false⟩]
def ref09_Few_1 : XCode := .seq (.region [⟨(some 6), .rd (.mov (.c (.bool false))), none, [], false⟩]) .ret
def ref09_Few_2 : XCode := .cond (.t 22) ref09_Few_1 .skip
def ref09_Few_3 : XCode := .seq ref09_Few_0 (.keep [2, 3, 22] ref09_Few_2)
def ref09_Few_4 : XCode := .region [⟨(some 23), .rd (.off 0 (.t 3)), none, [], false⟩,
  ⟨(some 24), .rd (.load 1 false (.t 23)), none, [], false⟩,
  ⟨(some 25), .rd (.lenL (.t 24)), none, [], false⟩,
  ⟨(some 26), .rd (.mov (.c (.int .i64 0))), none, [], false⟩]
def ref09_Few_5 : XCode := .cond (.t 27) .skip (.exit 0)
def ref09_Few_6 : XCode := .region [⟨(some 29), .rd (.off 0 (.t 3)), none, [], false⟩,
  ⟨(some 30), .rd (.load 1 false (.t 29)), none, [], false⟩,
  ⟨(some 31), .rd (.mov (.t 8)), none, [], false⟩,
  ⟨(some 32), .rd (.idx 4 (.t 30) (.t 31)), none, [], false⟩,
  ⟨(some 33), .rd (.load 4 true (.t 32)), none, [], false⟩,
  ⟨(some 9), .ef (.new T_api_Rule 4 [.str [], .nilslice, .int .i64 0, .nilslice]), none, [], false⟩,
  ⟨none, .ef (.store 4 (.t 9) (.t 33)), none, [], false⟩]
def ref09_Few_7 : XCode := .region [⟨(some 34), .rd (.off 3 (.t 9)), none, [], false⟩,
  ⟨(some 35), .rd (.load 1 false (.t 34)), none, [], false⟩,
  ⟨(some 36), .rd (.lenL (.t 35)), none, [], false⟩,
  ⟨(some 37), .rd (.mov (.t 2)), none, [], false⟩,
  ⟨(some 38), .rd (.bin .gtr .other (.t 36) (.t 37)), none, [], false⟩,
  ⟨(some 39), .rd (.mov (.t 38)), none, [], false⟩,
  ⟨(some 40), .rd (.off 0 (.t 9)), (some (39, false)), [], false⟩,
  ⟨(some 41), .rd (.off 1 (.t 40)), (some (39, false)), [], false⟩,
  ⟨(some 42), .rd (.load 1 false (.t 41)), (some (39, false)), [], false⟩,
  ⟨(some 43), .rd (.lenL (.t 42)), (some (39, false)), [], false⟩,
  ⟨(some 44), .rd (.bin .gtr .other (.t 43) (.c (.int .i64 10))), (some (39, false)), [], false⟩,
  ⟨(some 45), .rd (.pick (.t 39) (.c (.bool true)) (.t 44)), none, [], false⟩]
def ref09_Few_8 : XCode := .seq (.region [⟨(some 6), .rd (.mov (.c (.bool false))), none, [], false⟩]) .ret
def ref09_Few_9 : XCode := .cond (.t 45) ref09_Few_8 .skip
def ref09_Few_10 : XCode := .seq ref09_Few_7 (.keep [2, 3, 7, 9, 25, 26, 45] ref09_Few_9)
def ref09_Few_11 : XCode := .region [⟨(some 46), .rd (.off 3 (.t 9)), none, [], false⟩,
  ⟨(some 47), .rd (.load 1 false (.t 46)), none, [], false⟩,
  ⟨(some 48), .rd (.lenL (.t 47)), none, [], false⟩,
  ⟨(some 49), .rd (.mov (.c (.int .i64 0))), none, [], false⟩]
def ref09_Few_12 : XCode := .cond (.t 50) .skip (.exit 2)
def ref09_Few_13 : XCode := .region [⟨(some 52), .rd (.mov (.t 7)), none, [], false⟩,
  ⟨(some 53), .rd (.off 3 (.t 9)), none, [], false⟩,
  ⟨(some 54), .rd (.load 1 false (.t 53)), none, [], false⟩,
  ⟨(some 55), .rd (.mov (.t 10)), none, [], false⟩,
  ⟨(some 56), .rd (.idx 17 (.t 54) (.t 55)), none, [], false⟩,
  ⟨(some 57), .rd (.off 16 (.t 56)), none, [], false⟩,
  ⟨(some 58), .rd (.load 1 false (.t 57)), none, [], false⟩,
  ⟨(some 59), .rd (.lenL (.t 58)), none, [], false⟩,
  ⟨(some 60), .rd (.bin .add .other (.t 52) (.t 59)), none, [], false⟩,
  ⟨(some 7), .rd (.mov (.t 60)), none, [], false⟩]
def ref09_Few_14 : XCode := .region [⟨(some 61), .rd (.off 3 (.t 9)), none, [], false⟩,
  ⟨(some 62), .rd (.load 1 false (.t 61)), none, [], false⟩,
  ⟨(some 63), .rd (.mov (.t 10)), none, [], false⟩,
  ⟨(some 64), .rd (.idx 17 (.t 62) (.t 63)), none, [], false⟩,
  ⟨(some 65), .rd (.off 16 (.t 64)), none, [], false⟩,
  ⟨(some 66), .rd (.load 1 false (.t 65)), none, [], false⟩,
  ⟨(some 67), .rd (.lenL (.t 66)), none, [], false⟩,
  ⟨(some 68), .rd (.bin .gtr .other (.t 67) (.c (.int .i64 30))), none, [], false⟩,
  ⟨(some 69), .rd (.mov (.t 68)), none, [], false⟩,
  ⟨(some 70), .rd (.off 3 (.t 9)), (some (69, false)), [], false⟩,
  ⟨(some 71), .rd (.load 1 false (.t 70)), (some (69, false)), [], false⟩,
  ⟨(some 72), .rd (.mov (.t 10)), (some (69, false)), [], false⟩,
  ⟨(some 73), .rd (.idx 17 (.t 71) (.t 72)), (some (69, false)), [], false⟩,
  ⟨(some 74), .rd (.off 1 (.t 73)), (some (69, false)), [], false⟩,
  ⟨(some 75), .rd (.off 1 (.t 74)), (some (69, false)), [], false⟩,
  ⟨(some 76), .rd (.load 1 false (.t 75)), (some (69, false)), [], false⟩,
  ⟨(some 77), .rd (.lenL (.t 76)), (some (69, false)), [], false⟩,
  ⟨(some 78), .rd (.bin .gtr .other (.t 77) (.c (.int .i64 10))), (some (69, false)), [], false⟩,
  ⟨(some 79), .rd (.pick (.t 69) (.c (.bool true)) (.t 78)), none, [], false⟩,
  ⟨(some 80), .rd (.mov (.t 79)), none, [], false⟩,
  ⟨(some 81), .rd (.mov (.t 7)), (some (80, false)), [], false⟩,
  ⟨(some 82), .rd (.bin .gtr .other (.t 81) (.c (.int .i64 60))), (some (80, false)), [], false⟩,
  ⟨(some 83), .rd (.pick (.t 80) (.c (.bool true)) (.t 82)), none, [], false⟩]
def ref09_Few_15 : XCode := .seq (.region [⟨(some 6), .rd (.mov (.c (.bool false))), none, [], false⟩]) .ret
def ref09_Few_16 : XCode := .cond (.t 83) ref09_Few_15 .skip
def ref09_Few_17 : XCode := .seq ref09_Few_14 (.keep [2, 3, 7, 9, 25, 26, 48, 49, 83] ref09_Few_16)
def ref09_Few_18 : XCode := .seq ref09_Few_13 (.keep [2, 3, 7, 9, 10, 25, 26, 48, 49] ref09_Few_17)
def ref09_Few_19 : XCode := .seq (.region [⟨(some 51), .rd (.mov (.t 49)), none, [], false⟩,
  ⟨(some 10), .rd (.mov (.t 51)), none, [], false⟩]) ref09_Few_18
def ref09_Few_20 : XCode := .region [⟨(some 84), .rd (.bin .add .other (.t 49) (.c (.int .i64 1))), none, [], false⟩,
  ⟨(some 49), .rd (.mov (.t 84)), none, [], false⟩]
def ref09_Few_21 : XCode := .seq (.block 3 ref09_Few_19) (.keep [2, 3, 7, 9, 25, 26, 48, 49] ref09_Few_20)
def ref09_Few_22 : XCode := .seq ref09_Few_12 (.keep [2, 3, 7, 9, 25, 26, 48, 49] ref09_Few_21)
def ref09_Few_23 : XCode := .seq (.region [⟨(some 50), .rd (.bin .lss .other (.t 49) (.t 48)), none, [], false⟩]) ref09_Few_22
def ref09_Few_24 : XCode := .seq ref09_Few_11 (.keep [2, 3, 7, 9, 25, 26, 48, 49] (.block 2 (.loop [2, 3, 7, 9, 25, 26, 48, 49] ref09_Few_23)))
def ref09_Few_25 : XCode := .seq ref09_Few_10 (.keep [2, 3, 7, 9, 25, 26] ref09_Few_24)
def ref09_Few_26 : XCode := .seq ref09_Few_6 (.keep [2, 3, 7, 9, 25, 26] ref09_Few_25)
def ref09_Few_27 : XCode := .seq (.region [⟨(some 28), .rd (.mov (.t 26)), none, [], false⟩,
  ⟨(some 8), .rd (.mov (.t 28)), none, [], false⟩]) ref09_Few_26
def ref09_Few_28 : XCode := .region [⟨(some 85), .rd (.bin .add .other (.t 26) (.c (.int .i64 1))), none, [], false⟩,
  ⟨(some 26), .rd (.mov (.t 85)), none, [], false⟩]
def ref09_Few_29 : XCode := .seq (.block 1 ref09_Few_27) (.keep [2, 3, 7, 25, 26] ref09_Few_28)
def ref09_Few_30 : XCode := .seq ref09_Few_5 (.keep [2, 3, 7, 25, 26] ref09_Few_29)
def ref09_Few_31 : XCode := .seq (.region [⟨(some 27), .rd (.bin .lss .other (.t 26) (.t 25)), none, [], false⟩]) ref09_Few_30
def ref09_Few_32 : XCode := .seq ref09_Few_4 (.keep [2, 3, 7, 25, 26] (.block 0 (.loop [2, 3, 7, 25, 26] ref09_Few_31)))
def ref09_Few_33 : XCode := .seq (.region [⟨(some 6), .rd (.mov (.c (.bool true))), none, [], false⟩]) .ret
def ref09_Few_34 : XCode := .seq ref09_Few_32 (.keep [] ref09_Few_33)
def ref09_Few_35 : XCode := .seq (.region [⟨(some 7), .rd (.mov (.c (.int .i64 0))), none, [], false⟩]) ref09_Few_34
def ref09_Few_36 : XCode := .seq ref09_Few_3 (.keep [2, 3] ref09_Few_35)
def ref09_Few_37 : XCode := .seq (.region [⟨(some 3), .ef (.box T_api_Program 3 (.t 0)), none, [], false⟩,
  ⟨(some 6), .rd (.mov (.c (.bool false))), none, [], false⟩]) ref09_Few_36
def ref09_Few : XFun := ⟨3, ref09_Few_37, [.tmp 6]⟩
theorem ref09_Few_ok : FunOk Try.prog ref09_Few_id ref09_Few := compFun_ok rfl E_ok (by kernel_rfl)

/-! ## 23 antecedent/comps.Comps -/
def comps_Comps_0 : XCode := .region [⟨(some 25), .rd (.mov (.t 0)), none, [], false⟩,
  ⟨(some 26), .rd (.mov (.t 1)), none, [], false⟩,
  ⟨(some 27), .call comps_lists_id [.t 25, .t 26, .c (.bool false)], none, [], false⟩,
  ⟨(some 28), .rd (.mov (.t 0)), none, [], false⟩,
  ⟨(some 29), .rd (.mov (.t 1)), none, [], false⟩,
  ⟨(some 30), .call comps_lists_id [.t 28, .t 29, .c (.bool true)], none, [], false⟩,
  ⟨(some 5), .ef (.new T_sl_sl_int 1 [.nilslice]), none, [], false⟩,
  ⟨none, .ef (.store 1 (.t 5) (.t 27)), none, [], false⟩,
  ⟨(some 6), .rd (.mov (.t 30)), none, [], false⟩]
def comps_Comps_1 : XCode := .region [⟨(some 31), .rd (.mov (.t 0)), none, [], false⟩,
  ⟨(some 32), .ef (.mkslice T_int 1 8 [.int .i64 0] (.t 31) (.t 31)), none, [], false⟩,
  ⟨(some 7), .ef (.new T_sl_int 1 [.nilslice]), none, [], false⟩,
  ⟨none, .ef (.store 1 (.t 7) (.t 32)), none, [], false⟩]
def comps_Comps_2 : XCode := .cond (.t 36) .skip (.exit 0)
def comps_Comps_3 : XCode := .region [⟨(some 38), .rd (.load 1 false (.t 7)), none, [], false⟩,
  ⟨(some 39), .rd (.mov (.t 8)), none, [], false⟩,
  ⟨(some 40), .rd (.idx 1 (.t 38) (.t 39)), none, [], false⟩,
  ⟨none, .ef (.store 1 (.t 40) (.c (.int .i64 (-1)))), none, [], false⟩]
def comps_Comps_4 : XCode := .seq (.region [⟨(some 37), .rd (.mov (.t 35)), none, [], false⟩,
  ⟨(some 8), .rd (.mov (.t 37)), none, [], false⟩]) comps_Comps_3
def comps_Comps_5 : XCode := .region [⟨(some 41), .rd (.bin .add .other (.t 35) (.c (.int .i64 1))), none, [], false⟩,
  ⟨(some 35), .rd (.mov (.t 41)), none, [], false⟩]
def comps_Comps_6 : XCode := .seq (.block 1 comps_Comps_4) (.keep [0, 5, 6, 7, 34, 35] comps_Comps_5)
def comps_Comps_7 : XCode := .seq comps_Comps_2 (.keep [0, 5, 6, 7, 34, 35] comps_Comps_6)
def comps_Comps_8 : XCode := .seq (.region [⟨(some 36), .rd (.bin .lss .other (.t 35) (.t 34)), none, [], false⟩]) comps_Comps_7
def comps_Comps_9 : XCode := .seq (.region [⟨(some 33), .rd (.load 1 false (.t 7)), none, [], false⟩,
  ⟨(some 34), .rd (.lenL (.t 33)), none, [], false⟩,
  ⟨(some 35), .rd (.mov (.c (.int .i64 0))), none, [], false⟩]) (.block 0 (.loop [0, 5, 6, 7, 34, 35] comps_Comps_8))
def comps_Comps_10 : XCode := .cond (.t 44) .skip (.exit 2)
def comps_Comps_11 : XCode := .region [⟨(some 46), .rd (.load 1 false (.t 7)), none, [], false⟩,
  ⟨(some 47), .rd (.mov (.t 10)), none, [], false⟩,
  ⟨(some 48), .rd (.idx 1 (.t 46) (.t 47)), none, [], false⟩,
  ⟨(some 49), .rd (.load 1 false (.t 48)), none, [], false⟩,
  ⟨(some 50), .rd (.bin .geq .other (.t 49) (.c (.int .i64 0))), none, [], false⟩]
def comps_Comps_12 : XCode := .cond (.t 50) (.exit 3) .skip
def comps_Comps_13 : XCode := .seq comps_Comps_11 (.keep [0, 5, 6, 7, 9, 10, 42, 43, 50] comps_Comps_12)
def comps_Comps_14 : XCode := .region [⟨(some 51), .rd (.load 1 false (.t 5)), none, [], false⟩,
  ⟨(some 52), .rd (.mov (.t 10)), none, [], false⟩,
  ⟨(some 53), .call comps_seen_id [.t 51, .t 52], none, [], false⟩,
  ⟨(some 54), .rd (.mov (.t 6)), none, [], false⟩,
  ⟨(some 55), .rd (.mov (.t 10)), none, [], false⟩,
  ⟨(some 56), .call comps_seen_id [.t 54, .t 55], none, [], false⟩,
  ⟨(some 12), .rd (.mov (.t 53)), none, [], false⟩,
  ⟨(some 13), .rd (.mov (.t 56)), none, [], false⟩]
def comps_Comps_15 : XCode := .cond (.t 59) .skip (.exit 4)
def comps_Comps_16 : XCode := .region [⟨(some 61), .rd (.mov (.t 12)), none, [], false⟩,
  ⟨(some 62), .rd (.mov (.t 14)), none, [], false⟩,
  ⟨(some 63), .rd (.idx 1 (.t 61) (.t 62)), none, [], false⟩,
  ⟨(some 64), .rd (.load 1 false (.t 63)), none, [], false⟩,
  ⟨(some 65), .rd (.mov (.t 64)), none, [], false⟩,
  ⟨(some 66), .rd (.mov (.t 13)), (some (65, true)), [], false⟩,
  ⟨(some 67), .rd (.mov (.t 14)), (some (65, true)), [], false⟩,
  ⟨(some 68), .rd (.idx 1 (.t 66) (.t 67)), (some (65, true)), [], false⟩,
  ⟨(some 69), .rd (.load 1 false (.t 68)), (some (65, true)), [], false⟩,
  ⟨(some 70), .rd (.pick (.t 65) (.t 69) (.c (.bool false))), none, [], false⟩]
def comps_Comps_17 : XCode := .region [⟨(some 71), .rd (.load 1 false (.t 7)), none, [], false⟩,
  ⟨(some 72), .rd (.mov (.t 14)), none, [], false⟩,
  ⟨(some 73), .rd (.load 1 false (.t 9)), none, [], false⟩,
  ⟨(some 74), .rd (.lenL (.t 73)), none, [], false⟩,
  ⟨(some 75), .rd (.idx 1 (.t 71) (.t 72)), none, [], false⟩,
  ⟨none, .ef (.store 1 (.t 75) (.t 74)), none, [], false⟩]
def comps_Comps_18 : XCode := .region [⟨(some 76), .rd (.mov (.t 11)), none, [], false⟩,
  ⟨(some 77), .rd (.mov (.t 14)), none, [], false⟩,
  ⟨(some 78), .ef (.buildSlice T_int 1 1 [.int .i64 0] [(0, 1, (.t 77))]), none, [], false⟩,
  ⟨(some 79), .ef (.append T_int 1 8 (.t 76) (.t 78)), none, [], false⟩,
  ⟨(some 11), .rd (.mov (.t 79)), none, [], false⟩]
def comps_Comps_19 : XCode := .seq comps_Comps_17 (.keep [0, 5, 6, 7, 9, 11, 12, 13, 14, 42, 43, 57, 58] comps_Comps_18)
def comps_Comps_20 : XCode := .cond (.t 70) comps_Comps_19 .skip
def comps_Comps_21 : XCode := .seq comps_Comps_16 (.keep [0, 5, 6, 7, 9, 11, 12, 13, 14, 42, 43, 57, 58, 70] comps_Comps_20)
def comps_Comps_22 : XCode := .seq (.region [⟨(some 60), .rd (.mov (.t 58)), none, [], false⟩,
  ⟨(some 14), .rd (.mov (.t 60)), none, [], false⟩]) comps_Comps_21
def comps_Comps_23 : XCode := .region [⟨(some 80), .rd (.bin .add .other (.t 58) (.c (.int .i64 1))), none, [], false⟩,
  ⟨(some 58), .rd (.mov (.t 80)), none, [], false⟩]
def comps_Comps_24 : XCode := .seq (.block 5 comps_Comps_22) (.keep [0, 5, 6, 7, 9, 11, 12, 13, 42, 43, 57, 58] comps_Comps_23)
def comps_Comps_25 : XCode := .seq comps_Comps_15 (.keep [0, 5, 6, 7, 9, 11, 12, 13, 42, 43, 57, 58] comps_Comps_24)
def comps_Comps_26 : XCode := .seq (.region [⟨(some 59), .rd (.bin .lss .other (.t 58) (.t 57)), none, [], false⟩]) comps_Comps_25
def comps_Comps_27 : XCode := .seq (.region [⟨(some 57), .rd (.mov (.t 0)), none, [], false⟩,
  ⟨(some 58), .rd (.mov (.c (.int .i64 0))), none, [], false⟩]) (.block 4 (.loop [0, 5, 6, 7, 9, 11, 12, 13, 42, 43, 57, 58] comps_Comps_26))
def comps_Comps_28 : XCode := .region [⟨(some 81), .rd (.load 1 false (.t 9)), none, [], false⟩,
  ⟨(some 82), .rd (.mov (.t 11)), none, [], false⟩,
  ⟨(some 83), .ef (.buildSlice T_sl_int 1 1 [.nilslice] [(0, 1, (.t 82))]), none, [], false⟩,
  ⟨(some 84), .ef (.append T_sl_int 1 24 (.t 81) (.t 83)), none, [], false⟩,
  ⟨none, .ef (.store 1 (.t 9) (.t 84)), none, [], false⟩]
def comps_Comps_29 : XCode := .seq comps_Comps_27 (.keep [0, 5, 6, 7, 9, 11, 42, 43] comps_Comps_28)
def comps_Comps_30 : XCode := .seq comps_Comps_14 (.keep [0, 5, 6, 7, 9, 11, 12, 13, 42, 43] comps_Comps_29)
def comps_Comps_31 : XCode := .seq (.region [⟨(some 11), .rd (.mov (.c (.nilslice))), none, [], false⟩]) comps_Comps_30
def comps_Comps_32 : XCode := .seq comps_Comps_13 (.keep [0, 5, 6, 7, 9, 10, 42, 43] comps_Comps_31)
def comps_Comps_33 : XCode := .seq (.region [⟨(some 45), .rd (.mov (.t 43)), none, [], false⟩,
  ⟨(some 10), .rd (.mov (.t 45)), none, [], false⟩]) comps_Comps_32
def comps_Comps_34 : XCode := .region [⟨(some 85), .rd (.bin .add .other (.t 43) (.c (.int .i64 1))), none, [], false⟩,
  ⟨(some 43), .rd (.mov (.t 85)), none, [], false⟩]
def comps_Comps_35 : XCode := .seq (.block 3 comps_Comps_33) (.keep [0, 5, 6, 7, 9, 42, 43] comps_Comps_34)
def comps_Comps_36 : XCode := .seq comps_Comps_10 (.keep [0, 5, 6, 7, 9, 42, 43] comps_Comps_35)
def comps_Comps_37 : XCode := .seq (.region [⟨(some 44), .rd (.bin .lss .other (.t 43) (.t 42)), none, [], false⟩]) comps_Comps_36
def comps_Comps_38 : XCode := .seq (.region [⟨(some 42), .rd (.mov (.t 0)), none, [], false⟩,
  ⟨(some 43), .rd (.mov (.c (.int .i64 0))), none, [], false⟩]) (.block 2 (.loop [0, 5, 6, 7, 9, 42, 43] comps_Comps_37))
def comps_Comps_39 : XCode := .region [⟨(some 86), .rd (.load 1 false (.t 9)), none, [], false⟩,
  ⟨(some 87), .rd (.lenL (.t 86)), none, [], false⟩,
  ⟨(some 88), .ef (.mkslice T_int 1 8 [.int .i64 0] (.t 87) (.t 87)), none, [], false⟩,
  ⟨(some 15), .ef (.new T_sl_int 1 [.nilslice]), none, [], false⟩,
  ⟨none, .ef (.store 1 (.t 15) (.t 88)), none, [], false⟩]
def comps_Comps_40 : XCode := .cond (.t 92) .skip (.exit 6)
def comps_Comps_41 : XCode := .region [⟨(some 94), .rd (.load 1 false (.t 15)), none, [], false⟩,
  ⟨(some 95), .rd (.mov (.t 16)), none, [], false⟩,
  ⟨(some 96), .rd (.idx 1 (.t 94) (.t 95)), none, [], false⟩,
  ⟨none, .ef (.store 1 (.t 96) (.c (.int .i64 (-1)))), none, [], false⟩]
def comps_Comps_42 : XCode := .seq (.region [⟨(some 93), .rd (.mov (.t 91)), none, [], false⟩,
  ⟨(some 16), .rd (.mov (.t 93)), none, [], false⟩]) comps_Comps_41
def comps_Comps_43 : XCode := .region [⟨(some 97), .rd (.bin .add .other (.t 91) (.c (.int .i64 1))), none, [], false⟩,
  ⟨(some 91), .rd (.mov (.t 97)), none, [], false⟩]
def comps_Comps_44 : XCode := .seq (.block 7 comps_Comps_42) (.keep [0, 5, 7, 9, 15, 90, 91] comps_Comps_43)
def comps_Comps_45 : XCode := .seq comps_Comps_40 (.keep [0, 5, 7, 9, 15, 90, 91] comps_Comps_44)
def comps_Comps_46 : XCode := .seq (.region [⟨(some 92), .rd (.bin .lss .other (.t 91) (.t 90)), none, [], false⟩]) comps_Comps_45
def comps_Comps_47 : XCode := .seq (.region [⟨(some 89), .rd (.load 1 false (.t 15)), none, [], false⟩,
  ⟨(some 90), .rd (.lenL (.t 89)), none, [], false⟩,
  ⟨(some 91), .rd (.mov (.c (.int .i64 0))), none, [], false⟩]) (.block 6 (.loop [0, 5, 7, 9, 15, 90, 91] comps_Comps_46))
def comps_Comps_48 : XCode := .cond (.t 102) .skip (.exit 8)
def comps_Comps_49 : XCode := .cond (.t 107) .skip (.exit 10)
def comps_Comps_50 : XCode := .region [⟨(some 112), .rd (.load 1 false (.t 15)), none, [], false⟩,
  ⟨(some 113), .rd (.mov (.t 19)), none, [], false⟩,
  ⟨(some 114), .rd (.mov (.t 18)), none, [], false⟩,
  ⟨(some 115), .rd (.idx 1 (.t 112) (.t 113)), none, [], false⟩,
  ⟨none, .ef (.store 1 (.t 115) (.t 114)), none, [], false⟩]
def comps_Comps_51 : XCode := .seq comps_Comps_50 (.exit 10)
def comps_Comps_52 : XCode := .cond (.t 111) comps_Comps_51 .skip
def comps_Comps_53 : XCode := .seq (.region [⟨(some 109), .rd (.mov (.t 17)), none, [], false⟩,
  ⟨(some 110), .rd (.mov (.t 19)), none, [], false⟩,
  ⟨(some 111), .callv (.t 109) [.t 110], none, [], false⟩]) comps_Comps_52
def comps_Comps_54 : XCode := .seq (.region [⟨(some 108), .rd (.mov (.t 106)), none, [], false⟩,
  ⟨(some 19), .rd (.mov (.t 108)), none, [], false⟩]) comps_Comps_53
def comps_Comps_55 : XCode := .region [⟨(some 116), .rd (.bin .add .other (.t 106) (.c (.int .i64 1))), none, [], false⟩,
  ⟨(some 106), .rd (.mov (.t 116)), none, [], false⟩]
def comps_Comps_56 : XCode := .seq (.block 11 comps_Comps_54) (.keep [0, 7, 9, 15, 17, 18, 100, 101, 105, 106] comps_Comps_55)
def comps_Comps_57 : XCode := .seq comps_Comps_49 (.keep [0, 7, 9, 15, 17, 18, 100, 101, 105, 106] comps_Comps_56)
def comps_Comps_58 : XCode := .seq (.region [⟨(some 107), .rd (.bin .lss .other (.t 106) (.t 105)), none, [], false⟩]) comps_Comps_57
def comps_Comps_59 : XCode := .seq (.region [⟨(some 104), .rd (.load 1 false (.t 9)), none, [], false⟩,
  ⟨(some 105), .rd (.lenL (.t 104)), none, [], false⟩,
  ⟨(some 106), .rd (.mov (.c (.int .i64 0))), none, [], false⟩]) (.block 10 (.loop [0, 7, 9, 15, 17, 18, 100, 101, 105, 106] comps_Comps_58))
def comps_Comps_60 : XCode := .seq (.label 0) comps_Comps_59
def comps_Comps_61 : XCode := .seq (.region [⟨(some 103), .rd (.mov (.t 101)), none, [], false⟩,
  ⟨(some 18), .rd (.mov (.t 103)), none, [], false⟩]) (.straight comps_Comps_60)
def comps_Comps_62 : XCode := .region [⟨(some 117), .rd (.bin .add .other (.t 101) (.c (.int .i64 1))), none, [], false⟩,
  ⟨(some 101), .rd (.mov (.t 117)), none, [], false⟩]
def comps_Comps_63 : XCode := .seq (.block 9 comps_Comps_61) (.keep [0, 7, 9, 15, 17, 100, 101] comps_Comps_62)
def comps_Comps_64 : XCode := .seq comps_Comps_48 (.keep [0, 7, 9, 15, 17, 100, 101] comps_Comps_63)
def comps_Comps_65 : XCode := .seq (.region [⟨(some 102), .rd (.bin .lss .other (.t 101) (.t 100)), none, [], false⟩]) comps_Comps_64
def comps_Comps_66 : XCode := .seq (.region [⟨(some 99), .rd (.load 1 false (.t 9)), none, [], false⟩,
  ⟨(some 100), .rd (.lenL (.t 99)), none, [], false⟩,
  ⟨(some 101), .rd (.mov (.c (.int .i64 0))), none, [], false⟩]) (.block 8 (.loop [0, 7, 9, 15, 17, 100, 101] comps_Comps_65))
def comps_Comps_67 : XCode := .cond (.t 123) .skip (.exit 12)
def comps_Comps_68 : XCode := .region [⟨(some 124), .rd (.mov (.t 122)), none, [], false⟩,
  ⟨(some 125), .rd (.idx 1 (.t 120) (.t 122)), none, [], false⟩,
  ⟨(some 126), .rd (.load 1 false (.t 125)), none, [], false⟩,
  ⟨(some 21), .rd (.mov (.t 124)), none, [], false⟩,
  ⟨(some 22), .rd (.mov (.t 126)), none, [], false⟩]
def comps_Comps_69 : XCode := .region [⟨(some 127), .rd (.mov (.t 20)), none, [], false⟩,
  ⟨(some 128), .rd (.mov (.t 21)), none, [], false⟩,
  ⟨(some 129), .rd (.load 1 false (.t 15)), none, [], false⟩,
  ⟨(some 130), .rd (.mov (.t 22)), none, [], false⟩,
  ⟨(some 131), .rd (.idx 1 (.t 129) (.t 130)), none, [], false⟩,
  ⟨(some 132), .rd (.load 1 false (.t 131)), none, [], false⟩,
  ⟨(some 133), .rd (.idx 1 (.t 127) (.t 128)), none, [], false⟩,
  ⟨none, .ef (.store 1 (.t 133) (.t 132)), none, [], false⟩]
def comps_Comps_70 : XCode := .seq comps_Comps_68 (.keep [15, 20, 21, 22, 120, 121, 122] comps_Comps_69)
def comps_Comps_71 : XCode := .region [⟨(some 134), .rd (.bin .add .other (.t 122) (.c (.int .i64 1))), none, [], false⟩,
  ⟨(some 122), .rd (.mov (.t 134)), none, [], false⟩]
def comps_Comps_72 : XCode := .seq (.block 13 comps_Comps_70) (.keep [15, 20, 120, 121, 122] comps_Comps_71)
def comps_Comps_73 : XCode := .seq comps_Comps_67 (.keep [15, 20, 120, 121, 122] comps_Comps_72)
def comps_Comps_74 : XCode := .seq (.region [⟨(some 123), .rd (.bin .lss .other (.t 122) (.t 121)), none, [], false⟩]) comps_Comps_73
def comps_Comps_75 : XCode := .seq (.region [⟨(some 120), .rd (.load 1 false (.t 7)), none, [], false⟩,
  ⟨(some 121), .rd (.lenL (.t 120)), none, [], false⟩,
  ⟨(some 122), .rd (.mov (.c (.int .i64 0))), none, [], false⟩]) (.block 12 (.loop [15, 20, 120, 121, 122] comps_Comps_74))
def comps_Comps_76 : XCode := .seq (.region [⟨(some 135), .rd (.mov (.t 20)), none, [], false⟩,
  ⟨(some 4), .rd (.mov (.t 135)), none, [], false⟩]) .ret
def comps_Comps_77 : XCode := .seq comps_Comps_75 (.keep [20] comps_Comps_76)
def comps_Comps_78 : XCode := .seq (.region [⟨(some 118), .rd (.mov (.t 0)), none, [], false⟩,
  ⟨(some 119), .ef (.mkslice T_int 1 8 [.int .i64 0] (.t 118) (.t 118)), none, [], false⟩,
  ⟨(some 20), .rd (.mov (.t 119)), none, [], false⟩]) comps_Comps_77
def comps_Comps_79 : XCode := .seq comps_Comps_66 (.keep [0, 7, 15] comps_Comps_78)
def comps_Comps_80 : XCode := .seq (.region [⟨(some 98), .rd (.mkfunc comps_Comps_f1_id [.t 15, .t 9, .t 5, .t 7]), none, [], false⟩,
  ⟨(some 17), .rd (.mov (.t 98)), none, [], false⟩]) comps_Comps_79
def comps_Comps_81 : XCode := .seq comps_Comps_47 (.keep [0, 5, 7, 9, 15] comps_Comps_80)
def comps_Comps_82 : XCode := .seq comps_Comps_39 (.keep [0, 5, 7, 9, 15] comps_Comps_81)
def comps_Comps_83 : XCode := .seq comps_Comps_38 (.keep [0, 5, 7, 9] comps_Comps_82)
def comps_Comps_84 : XCode := .seq (.region [⟨(some 9), .ef (.new T_sl_sl_int 1 [.nilslice]), none, [], false⟩]) comps_Comps_83
def comps_Comps_85 : XCode := .seq comps_Comps_9 (.keep [0, 5, 6, 7] comps_Comps_84)
def comps_Comps_86 : XCode := .seq comps_Comps_1 (.keep [0, 5, 6, 7] comps_Comps_85)
def comps_Comps_87 : XCode := .seq comps_Comps_0 (.keep [0, 5, 6] comps_Comps_86)
def comps_Comps_88 : XCode := .seq (.region [⟨(some 23), .rd (.mov (.t 0)), none, [], false⟩,
  ⟨(some 24), .call comps_held_id [.t 23], none, [], false⟩,
  ⟨(some 0), .rd (.mov (.t 24)), none, [], false⟩]) comps_Comps_87
def comps_Comps_89 : XCode := .seq (.region [⟨(some 4), .rd (.mov (.c (.nilslice))), none, [], false⟩]) comps_Comps_88
def comps_Comps : XFun := ⟨2, comps_Comps_89, [.tmp 4]⟩
theorem comps_Comps_ok : FunOk Try.prog comps_Comps_id comps_Comps := compFun_ok rfl E_ok (by kernel_rfl)

/-! ## 24 slices.ContainsFunc[[]antecedent/api.Literal,antecedent/api.Literal] -/
def slices_ContainsFunc_api_Literal_0 : XCode := .region [⟨(some 5), .rd (.mov (.t 0)), none, [], false⟩,
  ⟨(some 6), .rd (.mov (.t 1)), none, [], false⟩,
  ⟨(some 7), .call slices_IndexFunc_api_Literal_id [.t 5, .t 6], none, [], false⟩,
  ⟨(some 8), .rd (.bin .geq .other (.t 7) (.c (.int .i64 0))), none, [], false⟩,
  ⟨(some 4), .rd (.mov (.t 8)), none, [], false⟩]
def slices_ContainsFunc_api_Literal_1 : XCode := .seq slices_ContainsFunc_api_Literal_0 .ret
def slices_ContainsFunc_api_Literal_2 : XCode := .seq (.region [⟨(some 4), .rd (.mov (.c (.bool false))), none, [], false⟩]) slices_ContainsFunc_api_Literal_1
def slices_ContainsFunc_api_Literal : XFun := ⟨2, slices_ContainsFunc_api_Literal_2, [.tmp 4]⟩
theorem slices_ContainsFunc_api_Literal_ok : FunOk Try.prog slices_ContainsFunc_api_Literal_id slices_ContainsFunc_api_Literal := compFun_ok rfl E_ok (by kernel_rfl)

/-! ## 25 antecedent/strata.Strata$1 -/
def strata_Strata_f1_0 : XCode := .region [⟨(some 3), .rd (.off 0 (.t 1)), none, [], false⟩,
  ⟨(some 4), .rd (.load 1 false (.t 3)), none, [], false⟩,
  ⟨(some 5), .rd (.bin .eql .other (.t 4) (.c (.int .i64 4))), none, [], false⟩,
  ⟨(some 2), .rd (.mov (.t 5)), none, [], false⟩]
def strata_Strata_f1_1 : XCode := .seq strata_Strata_f1_0 .ret
def strata_Strata_f1_2 : XCode := .seq (.region [⟨(some 1), .ef (.box T_api_Literal 17 (.t 0)), none, [], false⟩,
  ⟨(some 2), .rd (.mov (.c (.bool false))), none, [], false⟩]) strata_Strata_f1_1
def strata_Strata_f1 : XFun := ⟨1, strata_Strata_f1_2, [.tmp 2]⟩
theorem strata_Strata_f1_ok : FunOk Try.prog strata_Strata_f1_id strata_Strata_f1 := compFun_ok rfl E_ok (by kernel_rfl)

/-! ## 26 antecedent/strata.each -/
def strata_each_0 : XCode := .region [⟨(some 8), .rd (.off 3 (.t 2)), none, [], false⟩,
  ⟨(some 9), .rd (.load 1 false (.t 8)), none, [], false⟩,
  ⟨(some 10), .rd (.lenL (.t 9)), none, [], false⟩,
  ⟨(some 11), .rd (.mov (.c (.int .i64 0))), none, [], false⟩]
def strata_each_1 : XCode := .cond (.t 12) .skip (.exit 0)
def strata_each_2 : XCode := .region [⟨(some 13), .rd (.idx 17 (.t 9) (.t 11)), none, [], false⟩,
  ⟨(some 14), .rd (.load 17 true (.t 13)), none, [], false⟩,
  ⟨(some 5), .ef (.new T_api_Literal 17 [.int .i64 0, .str [], .nilslice, .str [], .str [], .int .i64 0, .int .i64 0, .str [], .str [], .int .i64 0, .int .i64 0, .str [], .str [], .int .i64 0, .int .i64 0, .str [], .nilslice]), none, [], false⟩,
  ⟨none, .ef (.store 17 (.t 5) (.t 14)), none, [], false⟩]
def strata_each_3 : XCode := .region [⟨(some 15), .rd (.load 17 true (.t 5)), none, [], false⟩,
  ⟨(some 16), .call strata_Uses_id [.t 15], none, [], false⟩,
  ⟨(some 17), .rd (.lenL (.t 16)), none, [], false⟩,
  ⟨(some 18), .rd (.mov (.c (.int .i64 0))), none, [], false⟩]
def strata_each_4 : XCode := .cond (.t 19) .skip (.exit 2)
def strata_each_5 : XCode := .region [⟨(some 22), .rd (.mov (.t 1)), none, [], false⟩,
  ⟨(some 23), .rd (.load 17 true (.t 5)), none, [], false⟩,
  ⟨(some 24), .rd (.mov (.t 7)), none, [], false⟩,
  ⟨(some 25), .callv (.t 22) [.t 23, .t 24], none, [], false⟩]
def strata_each_6 : XCode := .seq (.region [⟨(some 20), .rd (.idx 1 (.t 16) (.t 18)), none, [], false⟩,
  ⟨(some 21), .rd (.load 1 false (.t 20)), none, [], false⟩,
  ⟨(some 7), .rd (.mov (.t 21)), none, [], false⟩]) strata_each_5
def strata_each_7 : XCode := .region [⟨(some 26), .rd (.bin .add .other (.t 18) (.c (.int .i64 1))), none, [], false⟩,
  ⟨(some 18), .rd (.mov (.t 26)), none, [], false⟩]
def strata_each_8 : XCode := .seq (.block 3 strata_each_6) (.keep [1, 5, 9, 10, 11, 16, 17, 18] strata_each_7)
def strata_each_9 : XCode := .seq strata_each_4 (.keep [1, 5, 9, 10, 11, 16, 17, 18] strata_each_8)
def strata_each_10 : XCode := .seq (.region [⟨(some 19), .rd (.bin .lss .other (.t 18) (.t 17)), none, [], false⟩]) strata_each_9
def strata_each_11 : XCode := .seq strata_each_3 (.keep [1, 5, 9, 10, 11, 16, 17, 18] (.block 2 (.loop [1, 5, 9, 10, 11, 16, 17, 18] strata_each_10)))
def strata_each_12 : XCode := .seq strata_each_2 (.keep [1, 5, 9, 10, 11] strata_each_11)
def strata_each_13 : XCode := .region [⟨(some 27), .rd (.bin .add .other (.t 11) (.c (.int .i64 1))), none, [], false⟩,
  ⟨(some 11), .rd (.mov (.t 27)), none, [], false⟩]
def strata_each_14 : XCode := .seq (.block 1 strata_each_12) (.keep [1, 9, 10, 11] strata_each_13)
def strata_each_15 : XCode := .seq strata_each_1 (.keep [1, 9, 10, 11] strata_each_14)
def strata_each_16 : XCode := .seq (.region [⟨(some 12), .rd (.bin .lss .other (.t 11) (.t 10)), none, [], false⟩]) strata_each_15
def strata_each_17 : XCode := .seq strata_each_0 (.keep [1, 9, 10, 11] (.block 0 (.loop [1, 9, 10, 11] strata_each_16)))
def strata_each_18 : XCode := .seq (.region [⟨(some 2), .ef (.box T_api_Rule 4 (.t 0)), none, [], false⟩]) strata_each_17
def strata_each : XFun := ⟨2, strata_each_18, []⟩
theorem strata_each_ok : FunOk Try.prog strata_each_id strata_each := compFun_ok rfl E_ok (by kernel_rfl)

/-! ## 27 antecedent/strata.Strata$2 -/
def strata_Strata_f2_0 : XCode := .region [⟨(some 9), .rd (.load 1 false (.t 2)), none, [], false⟩,
  ⟨(some 10), .rd (.mov (.t 1)), none, [], false⟩,
  ⟨(some 11), .rd (.lookup (.int .i64 0) false .str (.t 9) (.t 10)), none, [], false⟩,
  ⟨(some 12), .rd (.load 1 false (.t 2)), none, [], false⟩,
  ⟨(some 13), .rd (.off 0 (.t 3)), none, [], false⟩,
  ⟨(some 14), .rd (.off 0 (.t 13)), none, [], false⟩,
  ⟨(some 15), .rd (.load 1 false (.t 14)), none, [], false⟩,
  ⟨(some 16), .rd (.lookup (.int .i64 0) false .str (.t 12) (.t 15)), none, [], false⟩,
  ⟨(some 17), .rd (.bin .eql .other (.t 11) (.t 16)), none, [], false⟩]
def strata_Strata_f2_1 : XCode := .region [⟨(some 18), .rd (.load 1 false (.t 4)), none, [], false⟩,
  ⟨(some 19), .rd (.mov (.t 18)), none, [], false⟩,
  ⟨(some 20), .rd (.off 0 (.t 7)), (some (19, false)), [], false⟩,
  ⟨(some 21), .rd (.load 1 false (.t 20)), (some (19, false)), [], false⟩,
  ⟨(some 22), .rd (.bin .eql .other (.t 21) (.c (.int .i64 2))), (some (19, false)), [], false⟩,
  ⟨(some 23), .rd (.pick (.t 19) (.c (.bool true)) (.t 22)), none, [], false⟩,
  ⟨(some 24), .rd (.mov (.t 23)), none, [], false⟩,
  ⟨(some 25), .rd (.off 2 (.t 3)), (some (24, false)), [], false⟩,
  ⟨(some 26), .rd (.load 1 false (.t 25)), (some (24, false)), [], false⟩,
  ⟨(some 27), .rd (.bin .gtr .other (.t 26) (.c (.int .i64 0))), (some (24, false)), [], false⟩,
  ⟨(some 28), .rd (.pick (.t 24) (.c (.bool true)) (.t 27)), none, [], false⟩,
  ⟨none, .ef (.store 1 (.t 4) (.t 28)), none, [], false⟩]
def strata_Strata_f2_2 : XCode := .region [⟨(some 29), .rd (.load 1 false (.t 5)), none, [], false⟩,
  ⟨(some 30), .rd (.mov (.t 29)), none, [], false⟩,
  ⟨(some 31), .rd (.load 1 false (.t 6)), (some (30, false)), [], false⟩,
  ⟨(some 32), .rd (.pick (.t 30) (.c (.bool true)) (.t 31)), none, [], false⟩,
  ⟨none, .ef (.store 1 (.t 5) (.t 32)), none, [], false⟩]
def strata_Strata_f2_3 : XCode := .seq strata_Strata_f2_1 (.keep [5, 6] strata_Strata_f2_2)
def strata_Strata_f2_4 : XCode := .cond (.t 17) strata_Strata_f2_3 .skip
def strata_Strata_f2_5 : XCode := .seq strata_Strata_f2_0 (.keep [3, 4, 5, 6, 7, 17] strata_Strata_f2_4)
def strata_Strata_f2_6 : XCode := .seq (.region [⟨(some 7), .ef (.box T_api_Literal 17 (.t 0)), none, [], false⟩]) strata_Strata_f2_5
def strata_Strata_f2 : XFun := ⟨7, strata_Strata_f2_6, []⟩
theorem strata_Strata_f2_ok : FunOk Try.prog strata_Strata_f2_id strata_Strata_f2 := compFun_ok rfl E_ok (by kernel_rfl)

/-! ## 28 antecedent/comps.Lists -/
def comps_Lists_0 : XCode := .cond (.t 9) .skip (.exit 0)
def comps_Lists_1 : XCode := .region [⟨(some 10), .rd (.mov (.t 8)), none, [], false⟩,
  ⟨(some 11), .rd (.idx 1 (.t 6) (.t 8)), none, [], false⟩,
  ⟨(some 12), .rd (.load 1 false (.t 11)), none, [], false⟩,
  ⟨(some 4), .rd (.mov (.t 10)), none, [], false⟩,
  ⟨(some 5), .rd (.mov (.t 12)), none, [], false⟩]
def comps_Lists_2 : XCode := .region [⟨(some 13), .rd (.mov (.t 5)), none, [], false⟩,
  ⟨(some 14), .rd (.bin .lss .other (.t 13) (.c (.int .i64 0))), none, [], false⟩,
  ⟨(some 15), .rd (.mov (.t 14)), none, [], false⟩,
  ⟨(some 16), .rd (.mov (.t 5)), (some (15, false)), [], false⟩,
  ⟨(some 17), .rd (.bin .gtr .other (.t 16) (.c (.int .i64 1000))), (some (15, false)), [], false⟩,
  ⟨(some 18), .rd (.pick (.t 15) (.c (.bool true)) (.t 17)), none, [], false⟩]
def comps_Lists_3 : XCode := .cond (.t 18) (.exit 1) .skip
def comps_Lists_4 : XCode := .seq comps_Lists_2 (.keep [3, 4, 5, 6, 7, 8, 18] comps_Lists_3)
def comps_Lists_5 : XCode := .region [⟨(some 19), .rd (.mov (.t 3)), none, [], false⟩,
  ⟨(some 20), .rd (.lenL (.t 19)), none, [], false⟩,
  ⟨(some 21), .rd (.mov (.t 5)), none, [], false⟩,
  ⟨(some 22), .rd (.bin .leq .other (.t 20) (.t 21)), none, [], false⟩]
def comps_Lists_6 : XCode := .cond (.t 22) .skip (.exit 2)
def comps_Lists_7 : XCode := .seq comps_Lists_5 (.keep [3, 4, 5, 6, 7, 8, 22] comps_Lists_6)
def comps_Lists_8 : XCode := .region [⟨(some 23), .rd (.mov (.t 3)), none, [], false⟩,
  ⟨(some 24), .ef (.buildSlice T_sl_int 1 1 [.nilslice] [(0, 1, (.c (.nilslice)))]), none, [], false⟩,
  ⟨(some 25), .ef (.append T_sl_int 1 24 (.t 23) (.t 24)), none, [], false⟩,
  ⟨(some 3), .rd (.mov (.t 25)), none, [], false⟩]
def comps_Lists_9 : XCode := .seq comps_Lists_7 (.keep [3, 4, 5, 6, 7, 8] (.block 3 comps_Lists_8))
def comps_Lists_10 : XCode := .region [⟨(some 26), .rd (.mov (.t 3)), none, [], false⟩,
  ⟨(some 27), .rd (.mov (.t 5)), none, [], false⟩,
  ⟨(some 28), .rd (.mov (.t 3)), none, [], false⟩,
  ⟨(some 29), .rd (.mov (.t 5)), none, [], false⟩,
  ⟨(some 30), .rd (.idx 1 (.t 28) (.t 29)), none, [], false⟩,
  ⟨(some 31), .rd (.load 1 false (.t 30)), none, [], false⟩,
  ⟨(some 32), .rd (.mov (.t 4)), none, [], false⟩,
  ⟨(some 33), .ef (.buildSlice T_int 1 1 [.int .i64 0] [(0, 1, (.t 32))]), none, [], false⟩,
  ⟨(some 34), .ef (.append T_int 1 8 (.t 31) (.t 33)), none, [], false⟩,
  ⟨(some 35), .rd (.idx 1 (.t 26) (.t 27)), none, [], false⟩,
  ⟨none, .ef (.store 1 (.t 35) (.t 34)), none, [], false⟩]
def comps_Lists_11 : XCode := .seq (.block 2 (.loop [3, 4, 5, 6, 7, 8] comps_Lists_9)) (.keep [3, 4, 5, 6, 7, 8] comps_Lists_10)
def comps_Lists_12 : XCode := .seq comps_Lists_4 (.keep [3, 4, 5, 6, 7, 8] comps_Lists_11)
def comps_Lists_13 : XCode := .seq comps_Lists_1 (.keep [3, 4, 5, 6, 7, 8] comps_Lists_12)
def comps_Lists_14 : XCode := .region [⟨(some 36), .rd (.bin .add .other (.t 8) (.c (.int .i64 1))), none, [], false⟩,
  ⟨(some 8), .rd (.mov (.t 36)), none, [], false⟩]
def comps_Lists_15 : XCode := .seq (.block 1 comps_Lists_13) (.keep [3, 6, 7, 8] comps_Lists_14)
def comps_Lists_16 : XCode := .seq comps_Lists_0 (.keep [3, 6, 7, 8] comps_Lists_15)
def comps_Lists_17 : XCode := .seq (.region [⟨(some 9), .rd (.bin .lss .other (.t 8) (.t 7)), none, [], false⟩]) comps_Lists_16
def comps_Lists_18 : XCode := .seq (.region [⟨(some 6), .rd (.mov (.t 0)), none, [], false⟩,
  ⟨(some 7), .rd (.lenL (.t 6)), none, [], false⟩,
  ⟨(some 8), .rd (.mov (.c (.int .i64 0))), none, [], false⟩]) (.block 0 (.loop [3, 6, 7, 8] comps_Lists_17))
def comps_Lists_19 : XCode := .seq (.region [⟨(some 37), .rd (.mov (.t 3)), none, [], false⟩,
  ⟨(some 2), .rd (.mov (.t 37)), none, [], false⟩]) .ret
def comps_Lists_20 : XCode := .seq comps_Lists_18 (.keep [3] comps_Lists_19)
def comps_Lists_21 : XCode := .seq (.region [⟨(some 3), .rd (.mov (.c (.nilslice))), none, [], false⟩]) comps_Lists_20
def comps_Lists_22 : XCode := .seq (.region [⟨(some 2), .rd (.mov (.c (.nilslice))), none, [], false⟩]) comps_Lists_21
def comps_Lists : XFun := ⟨1, comps_Lists_22, [.tmp 2]⟩
theorem comps_Lists_ok : FunOk Try.prog comps_Lists_id comps_Lists := compFun_ok rfl E_ok (by kernel_rfl)

/-! ## 29 antecedent/strata.Names$1 -/
def strata_Names_f1_0 : XCode := .region [⟨(some 5), .rd (.load 1 false (.t 2)), none, [], false⟩,
  ⟨(some 6), .rd (.mov (.t 1)), none, [], false⟩,
  ⟨(some 7), .ef (.buildSlice T_string 1 1 [.str []] [(0, 1, (.t 6))]), none, [], false⟩,
  ⟨(some 8), .ef (.append T_string 1 16 (.t 5) (.t 7)), none, [], false⟩,
  ⟨none, .ef (.store 1 (.t 2) (.t 8)), none, [], false⟩]
def strata_Names_f1_1 : XCode := .seq (.region [⟨(some 3), .ef (.box T_api_Literal 17 (.t 0)), none, [], false⟩]) strata_Names_f1_0
def strata_Names_f1 : XFun := ⟨3, strata_Names_f1_1, []⟩
theorem strata_Names_f1_ok : FunOk Try.prog strata_Names_f1_id strata_Names_f1 := compFun_ok rfl E_ok (by kernel_rfl)

/-! ## 30 antecedent/strata.sorted -/
def strata_sorted_0 : XCode := .seq (.region [⟨(some 5), .rd (.mov (.t 0)), none, [], false⟩,
  ⟨(some 6), .call slices_Compact_string_id [.t 5], none, [], false⟩,
  ⟨(some 2), .rd (.mov (.t 6)), none, [], false⟩]) .ret
def strata_sorted_1 : XCode := .seq (.region [⟨(some 3), .rd (.mov (.t 0)), none, [], false⟩,
  ⟨(some 4), .call slices_Sort_string_id [.t 3], none, [], false⟩]) strata_sorted_0
def strata_sorted_2 : XCode := .seq (.region [⟨(some 2), .rd (.mov (.c (.nilslice))), none, [], false⟩]) strata_sorted_1
def strata_sorted : XFun := ⟨1, strata_sorted_2, [.tmp 2]⟩
theorem strata_sorted_ok : FunOk Try.prog strata_sorted_id strata_sorted := compFun_ok rfl E_ok (by kernel_rfl)

/-! ## 31 slices.BinarySearch[[]string,string] -/
def slices_BinarySearch_string_0 : XCode := .cond (.t 15) .skip (.exit 0)
def slices_BinarySearch_string_1 : XCode := .seq (.region [⟨(some 13), .rd (.mov (.t 7)), none, [], false⟩,
  ⟨(some 14), .rd (.mov (.t 8)), none, [], false⟩,
  ⟨(some 15), .rd (.bin .lss .other (.t 13) (.t 14)), none, [], false⟩]) slices_BinarySearch_string_0
def slices_BinarySearch_string_2 : XCode := .region [⟨(some 16), .rd (.mov (.t 7)), none, [], false⟩,
  ⟨(some 17), .rd (.mov (.t 8)), none, [], false⟩,
  ⟨(some 18), .rd (.bin .add .other (.t 16) (.t 17)), none, [], false⟩,
  ⟨(some 19), .rd (.conv .u64 (.t 18)), none, [], false⟩,
  ⟨(some 20), .rd (.bin .shr .other (.t 19) (.c (.int .u64 1))), none, [], false⟩,
  ⟨(some 21), .rd (.conv .i64 (.t 20)), none, [], false⟩,
  ⟨(some 9), .rd (.mov (.t 21)), none, [], false⟩]
def slices_BinarySearch_string_3 : XCode := .region [⟨(some 22), .rd (.mov (.t 0)), none, [], false⟩,
  ⟨(some 23), .rd (.mov (.t 9)), none, [], false⟩,
  ⟨(some 24), .rd (.idx 1 (.t 22) (.t 23)), none, [], false⟩,
  ⟨(some 25), .rd (.load 1 false (.t 24)), none, [], false⟩,
  ⟨(some 26), .rd (.mov (.t 1)), none, [], false⟩,
  ⟨(some 27), .call cmp_Less_string_id [.t 25, .t 26], none, [], false⟩]
def slices_BinarySearch_string_4 : XCode := .region [⟨(some 28), .rd (.mov (.t 9)), none, [], false⟩,
  ⟨(some 29), .rd (.bin .add .other (.t 28) (.c (.int .i64 1))), none, [], false⟩,
  ⟨(some 7), .rd (.mov (.t 29)), none, [], false⟩]
def slices_BinarySearch_string_5 : XCode := .region [⟨(some 30), .rd (.mov (.t 9)), none, [], false⟩,
  ⟨(some 8), .rd (.mov (.t 30)), none, [], false⟩]
def slices_BinarySearch_string_6 : XCode := .cond (.t 27) slices_BinarySearch_string_4 slices_BinarySearch_string_5
def slices_BinarySearch_string_7 : XCode := .seq slices_BinarySearch_string_3 (.keep [0, 1, 6, 7, 8, 9, 27] slices_BinarySearch_string_6)
def slices_BinarySearch_string_8 : XCode := .seq slices_BinarySearch_string_2 (.keep [0, 1, 6, 7, 8, 9] slices_BinarySearch_string_7)
def slices_BinarySearch_string_9 : XCode := .seq slices_BinarySearch_string_1 (.keep [0, 1, 6, 7, 8] (.block 1 slices_BinarySearch_string_8))
def slices_BinarySearch_string_10 : XCode := .region [⟨(some 31), .rd (.mov (.t 7)), none, [], false⟩,
  ⟨(some 32), .rd (.mov (.t 7)), none, [], false⟩,
  ⟨(some 33), .rd (.mov (.t 6)), none, [], false⟩,
  ⟨(some 34), .rd (.bin .lss .other (.t 32) (.t 33)), none, [], false⟩,
  ⟨(some 35), .rd (.mov (.t 34)), none, [], false⟩,
  ⟨(some 36), .rd (.mov (.t 0)), (some (35, true)), [], false⟩,
  ⟨(some 37), .rd (.mov (.t 7)), (some (35, true)), [], false⟩,
  ⟨(some 38), .rd (.idx 1 (.t 36) (.t 37)), (some (35, true)), [], false⟩,
  ⟨(some 39), .rd (.load 1 false (.t 38)), (some (35, true)), [], false⟩,
  ⟨(some 40), .rd (.mov (.t 1)), (some (35, true)), [], false⟩,
  ⟨(some 41), .rd (.bin .eql .other (.t 39) (.t 40)), (some (35, true)), [], false⟩,
  ⟨(some 42), .rd (.mov (.t 41)), (some (35, true)), [], false⟩,
  ⟨(some 43), .rd (.mov (.t 0)), (some (42, false)), [], false⟩,
  ⟨(some 44), .rd (.mov (.t 7)), (some (42, false)), [], false⟩,
  ⟨(some 45), .rd (.idx 1 (.t 43) (.t 44)), (some (42, false)), [], false⟩,
  ⟨(some 46), .rd (.load 1 false (.t 45)), (some (42, false)), [], false⟩,
  ⟨(some 47), .call slices_isNaN_string_id [.t 46], (some (42, false)), [], false⟩,
  ⟨(some 48), .rd (.mov (.t 47)), (some (42, false)), [], false⟩,
  ⟨(some 49), .rd (.mov (.t 1)), (some (48, true)), [], false⟩,
  ⟨(some 50), .call slices_isNaN_string_id [.t 49], (some (48, true)), [], false⟩,
  ⟨(some 51), .rd (.pick (.t 48) (.t 50) (.c (.bool false))), (some (42, false)), [], false⟩,
  ⟨(some 52), .rd (.pick (.t 42) (.c (.bool true)) (.t 51)), (some (35, true)), [], false⟩,
  ⟨(some 53), .rd (.pick (.t 35) (.t 52) (.c (.bool false))), none, [], false⟩,
  ⟨(some 4), .rd (.mov (.t 31)), none, [], false⟩,
  ⟨(some 5), .rd (.mov (.t 53)), none, [], false⟩]
def slices_BinarySearch_string_11 : XCode := .seq slices_BinarySearch_string_10 .ret
def slices_BinarySearch_string_12 : XCode := .seq (.block 0 (.loop [0, 1, 6, 7, 8] slices_BinarySearch_string_9)) (.keep [0, 1, 6, 7] slices_BinarySearch_string_11)
def slices_BinarySearch_string_13 : XCode := .seq (.region [⟨(some 12), .rd (.mov (.t 6)), none, [], false⟩,
  ⟨(some 7), .rd (.mov (.c (.int .i64 0))), none, [], false⟩,
  ⟨(some 8), .rd (.mov (.t 12)), none, [], false⟩]) slices_BinarySearch_string_12
def slices_BinarySearch_string_14 : XCode := .seq (.region [⟨(some 10), .rd (.mov (.t 0)), none, [], false⟩,
  ⟨(some 11), .rd (.lenL (.t 10)), none, [], false⟩,
  ⟨(some 6), .rd (.mov (.t 11)), none, [], false⟩]) slices_BinarySearch_string_13
def slices_BinarySearch_string_15 : XCode := .seq (.region [⟨(some 4), .rd (.mov (.c (.int .i64 0))), none, [], false⟩,
  ⟨(some 5), .rd (.mov (.c (.bool false))), none, [], false⟩]) slices_BinarySearch_string_14
def slices_BinarySearch_string : XFun := ⟨2, slices_BinarySearch_string_15, [.tmp 4, .tmp 5]⟩
theorem slices_BinarySearch_string_ok : FunOk Try.prog slices_BinarySearch_string_id slices_BinarySearch_string := compFun_ok rfl E_ok (by kernel_rfl)

/-! ## 32 antecedent/strata.Needs$1 -/
def strata_Needs_f1_0 : XCode := .region [⟨(some 10), .rd (.load 1 false (.t 2)), none, [], false⟩,
  ⟨(some 11), .rd (.mov (.t 1)), none, [], false⟩,
  ⟨(some 12), .call slices_BinarySearch_string_id [.t 10, .t 11], none, [], false⟩,
  ⟨(some 9), .rd (.mov (.t 12)), none, [], false⟩,
  ⟨(some 13), .rd (.extract 0 (.t 9)), none, [], false⟩,
  ⟨(some 14), .rd (.extract 1 (.t 9)), none, [], false⟩,
  ⟨(some 7), .rd (.mov (.t 13)), none, [], false⟩,
  ⟨(some 8), .rd (.mov (.t 14)), none, [], false⟩]
def strata_Needs_f1_1 : XCode := .region [⟨(some 15), .rd (.load 1 false (.t 3)), none, [], false⟩,
  ⟨(some 16), .rd (.load 1 false (.t 4)), none, [], false⟩,
  ⟨(some 17), .rd (.mov (.t 7)), none, [], false⟩,
  ⟨(some 18), .rd (.build [.int .i64 0, .int .i64 0] [(0, 1, (.t 16)), (1, 1, (.t 17))]), none, [], false⟩,
  ⟨(some 19), .ef (.buildSlice T_ar2_int 2 1 [.int .i64 0, .int .i64 0] [(0, 2, (.t 18))]), none, [], false⟩,
  ⟨(some 20), .ef (.append T_ar2_int 2 16 (.t 15) (.t 19)), none, [], false⟩,
  ⟨none, .ef (.store 1 (.t 3) (.t 20)), none, [], false⟩]
def strata_Needs_f1_2 : XCode := .seq strata_Needs_f1_0 (.keep [3, 4, 7] strata_Needs_f1_1)
def strata_Needs_f1_3 : XCode := .seq (.region [⟨(some 5), .ef (.box T_api_Literal 17 (.t 0)), none, [], false⟩]) strata_Needs_f1_2
def strata_Needs_f1 : XFun := ⟨5, strata_Needs_f1_3, []⟩
theorem strata_Needs_f1_ok : FunOk Try.prog strata_Needs_f1_id strata_Needs_f1 := compFun_ok rfl E_ok (by kernel_rfl)

/-! ## 33 slices.SortFunc[[][2]int,[2]int] -/
def slices_SortFunc_sl_ar2_int_ar2_int_0 : XCode := .region [⟨(some 7), .rd (.mov (.t 0)), none, [], false⟩,
  ⟨(some 8), .rd (.mov (.t 4)), none, [], false⟩,
  ⟨(some 9), .rd (.mov (.t 4)), none, [], false⟩,
  ⟨(some 10), .rd (.conv .u64 (.t 9)), none, [], false⟩,
  ⟨(some 11), .call math_bits_Len_id [.t 10], none, [], false⟩,
  ⟨(some 12), .rd (.mov (.t 1)), none, [], false⟩,
  ⟨(some 13), .call slices_pdqsortCmpFunc_ar2_int_id [.t 7, .c (.int .i64 0), .t 8, .t 11, .t 12], none, [], false⟩]
def slices_SortFunc_sl_ar2_int_ar2_int_1 : XCode := .seq (.region [⟨(some 5), .rd (.mov (.t 0)), none, [], false⟩,
  ⟨(some 6), .rd (.lenL (.t 5)), none, [], false⟩,
  ⟨(some 4), .rd (.mov (.t 6)), none, [], false⟩]) slices_SortFunc_sl_ar2_int_ar2_int_0
def slices_SortFunc_sl_ar2_int_ar2_int : XFun := ⟨2, slices_SortFunc_sl_ar2_int_ar2_int_1, []⟩
theorem slices_SortFunc_sl_ar2_int_ar2_int_ok : FunOk Try.prog slices_SortFunc_sl_ar2_int_ar2_int_id slices_SortFunc_sl_ar2_int_ar2_int := compFun_ok rfl E_ok (by kernel_rfl)

/-! ## 34 antecedent/strata.Needs$2 -/
def strata_Needs_f2_0 : XCode := .draw [⟨(some 5), .rd (.sliceA 2 (.t 2)), none, [], false⟩,
  ⟨(some 6), .rd (.sliceA 2 (.t 3)), none, [], false⟩,
  ⟨(some 7), .call slices_Compare_int_id [.t 5, .t 6], none, [0, 1], false⟩,
  ⟨(some 4), .rd (.mov (.t 7)), none, [2, 0, 1], false⟩]
def strata_Needs_f2_1 : XCode := .seq strata_Needs_f2_0 .ret
def strata_Needs_f2_2 : XCode := .seq (.region [⟨(some 2), .ef (.box T_ar2_int 2 (.t 0)), none, [], false⟩,
  ⟨(some 3), .ef (.box T_ar2_int 2 (.t 1)), none, [], false⟩,
  ⟨(some 4), .rd (.mov (.c (.int .i64 0))), none, [], false⟩]) strata_Needs_f2_1
def strata_Needs_f2 : XFun := ⟨2, strata_Needs_f2_2, [.tmp 4]⟩
theorem strata_Needs_f2_ok : FunOk Try.prog strata_Needs_f2_id strata_Needs_f2 := compFun_ok rfl E_ok (by kernel_rfl)

/-! ## 35 slices.Compare[[]int,int] -/
def slices_Compare_int_0 : XCode := .cond (.t 12) .skip (.exit 0)
def slices_Compare_int_1 : XCode := .region [⟨(some 13), .rd (.mov (.t 11)), none, [], false⟩,
  ⟨(some 14), .rd (.idx 1 (.t 9) (.t 11)), none, [], false⟩,
  ⟨(some 15), .rd (.load 1 false (.t 14)), none, [], false⟩,
  ⟨(some 5), .rd (.mov (.t 13)), none, [], false⟩,
  ⟨(some 6), .rd (.mov (.t 15)), none, [], false⟩]
def slices_Compare_int_2 : XCode := .region [⟨(some 16), .rd (.mov (.t 5)), none, [], false⟩,
  ⟨(some 17), .rd (.mov (.t 1)), none, [], false⟩,
  ⟨(some 18), .rd (.lenL (.t 17)), none, [], false⟩,
  ⟨(some 19), .rd (.bin .geq .other (.t 16) (.t 18)), none, [], false⟩]
def slices_Compare_int_3 : XCode := .seq (.region [⟨(some 4), .rd (.mov (.c (.int .i64 1))), none, [], false⟩]) .ret
def slices_Compare_int_4 : XCode := .cond (.t 19) slices_Compare_int_3 .skip
def slices_Compare_int_5 : XCode := .seq slices_Compare_int_2 (.keep [0, 1, 5, 6, 9, 10, 11, 19] slices_Compare_int_4)
def slices_Compare_int_6 : XCode := .region [⟨(some 20), .rd (.mov (.t 1)), none, [], false⟩,
  ⟨(some 21), .rd (.mov (.t 5)), none, [], false⟩,
  ⟨(some 22), .rd (.idx 1 (.t 20) (.t 21)), none, [], false⟩,
  ⟨(some 23), .rd (.load 1 false (.t 22)), none, [], false⟩,
  ⟨(some 7), .rd (.mov (.t 23)), none, [], false⟩]
def slices_Compare_int_7 : XCode := .region [⟨(some 24), .rd (.mov (.t 6)), none, [], false⟩,
  ⟨(some 25), .rd (.mov (.t 7)), none, [], false⟩,
  ⟨(some 26), .call cmp_Compare_int_id [.t 24, .t 25], none, [], false⟩,
  ⟨(some 8), .rd (.mov (.t 26)), none, [], false⟩]
def slices_Compare_int_8 : XCode := .seq (.region [⟨(some 29), .rd (.mov (.t 8)), none, [], false⟩,
  ⟨(some 4), .rd (.mov (.t 29)), none, [], false⟩]) .ret
def slices_Compare_int_9 : XCode := .cond (.t 28) slices_Compare_int_8 .skip
def slices_Compare_int_10 : XCode := .seq (.region [⟨(some 27), .rd (.mov (.t 8)), none, [], false⟩,
  ⟨(some 28), .rd (.bin .neq .other (.t 27) (.c (.int .i64 0))), none, [], false⟩]) slices_Compare_int_9
def slices_Compare_int_11 : XCode := .seq slices_Compare_int_7 (.keep [0, 1, 8, 9, 10, 11] slices_Compare_int_10)
def slices_Compare_int_12 : XCode := .seq slices_Compare_int_6 (.keep [0, 1, 6, 7, 9, 10, 11] slices_Compare_int_11)
def slices_Compare_int_13 : XCode := .seq slices_Compare_int_5 (.keep [0, 1, 5, 6, 9, 10, 11] slices_Compare_int_12)
def slices_Compare_int_14 : XCode := .seq slices_Compare_int_1 (.keep [0, 1, 5, 6, 9, 10, 11] slices_Compare_int_13)
def slices_Compare_int_15 : XCode := .region [⟨(some 30), .rd (.bin .add .other (.t 11) (.c (.int .i64 1))), none, [], false⟩,
  ⟨(some 11), .rd (.mov (.t 30)), none, [], false⟩]
def slices_Compare_int_16 : XCode := .seq (.block 1 slices_Compare_int_14) (.keep [0, 1, 9, 10, 11] slices_Compare_int_15)
def slices_Compare_int_17 : XCode := .seq slices_Compare_int_0 (.keep [0, 1, 9, 10, 11] slices_Compare_int_16)
def slices_Compare_int_18 : XCode := .seq (.region [⟨(some 12), .rd (.bin .lss .other (.t 11) (.t 10)), none, [], false⟩]) slices_Compare_int_17
def slices_Compare_int_19 : XCode := .seq (.region [⟨(some 9), .rd (.mov (.t 0)), none, [], false⟩,
  ⟨(some 10), .rd (.lenL (.t 9)), none, [], false⟩,
  ⟨(some 11), .rd (.mov (.c (.int .i64 0))), none, [], false⟩]) (.block 0 (.loop [0, 1, 9, 10, 11] slices_Compare_int_18))
def slices_Compare_int_20 : XCode := .region [⟨(some 31), .rd (.mov (.t 0)), none, [], false⟩,
  ⟨(some 32), .rd (.lenL (.t 31)), none, [], false⟩,
  ⟨(some 33), .rd (.mov (.t 1)), none, [], false⟩,
  ⟨(some 34), .rd (.lenL (.t 33)), none, [], false⟩,
  ⟨(some 35), .rd (.bin .lss .other (.t 32) (.t 34)), none, [], false⟩]
def slices_Compare_int_21 : XCode := .seq (.region [⟨(some 4), .rd (.mov (.c (.int .i64 (-1)))), none, [], false⟩]) .ret
def slices_Compare_int_22 : XCode := .cond (.t 35) slices_Compare_int_21 .skip
def slices_Compare_int_23 : XCode := .seq slices_Compare_int_20 (.keep [35] slices_Compare_int_22)
def slices_Compare_int_24 : XCode := .seq (.region [⟨(some 4), .rd (.mov (.c (.int .i64 0))), none, [], false⟩]) .ret
def slices_Compare_int_25 : XCode := .seq slices_Compare_int_23 (.keep [] slices_Compare_int_24)
def slices_Compare_int_26 : XCode := .seq slices_Compare_int_19 (.keep [0, 1] slices_Compare_int_25)
def slices_Compare_int_27 : XCode := .seq (.region [⟨(some 4), .rd (.mov (.c (.int .i64 0))), none, [], false⟩]) slices_Compare_int_26
def slices_Compare_int : XFun := ⟨2, slices_Compare_int_27, [.tmp 4]⟩
theorem slices_Compare_int_ok : FunOk Try.prog slices_Compare_int_id slices_Compare_int := compFun_ok rfl E_ok (by kernel_rfl)

/-! ## 36 slices.Compact[[][2]int,[2]int] -/
def slices_Compact_sl_ar2_int_ar2_int_0 : XCode := .seq (.region [⟨(some 9), .rd (.mov (.t 0)), none, [], false⟩,
  ⟨(some 2), .rd (.mov (.t 9)), none, [], false⟩]) .ret
def slices_Compact_sl_ar2_int_ar2_int_1 : XCode := .cond (.t 8) slices_Compact_sl_ar2_int_ar2_int_0 .skip
def slices_Compact_sl_ar2_int_ar2_int_2 : XCode := .seq (.region [⟨(some 6), .rd (.mov (.t 0)), none, [], false⟩,
  ⟨(some 7), .rd (.lenL (.t 6)), none, [], false⟩,
  ⟨(some 8), .rd (.bin .lss .other (.t 7) (.c (.int .i64 2))), none, [], false⟩]) slices_Compact_sl_ar2_int_ar2_int_1
def slices_Compact_sl_ar2_int_ar2_int_3 : XCode := .region [⟨(some 10), .rd (.mov (.t 3)), none, [], false⟩,
  ⟨(some 11), .rd (.mov (.t 0)), none, [], false⟩,
  ⟨(some 12), .rd (.lenL (.t 11)), none, [], false⟩,
  ⟨(some 13), .rd (.bin .lss .other (.t 10) (.t 12)), none, [], false⟩]
def slices_Compact_sl_ar2_int_ar2_int_4 : XCode := .cond (.t 13) .skip (.exit 0)
def slices_Compact_sl_ar2_int_ar2_int_5 : XCode := .seq slices_Compact_sl_ar2_int_ar2_int_3 (.keep [0, 3, 13] slices_Compact_sl_ar2_int_ar2_int_4)
def slices_Compact_sl_ar2_int_ar2_int_6 : XCode := .draw [⟨(some 16), .rd (.mov (.t 0)), none, [], false⟩,
  ⟨(some 17), .rd (.mov (.t 3)), none, [], false⟩,
  ⟨(some 18), .rd (.idx 2 (.t 16) (.t 17)), none, [0, 1], false⟩,
  ⟨(some 19), .rd (.load 2 true (.t 18)), none, [2, 0, 1], false⟩,
  ⟨(some 20), .rd (.mov (.t 0)), none, [], false⟩,
  ⟨(some 21), .rd (.mov (.t 3)), none, [], false⟩,
  ⟨(some 22), .rd (.bin .sub .other (.t 21) (.c (.int .i64 1))), none, [5], false⟩,
  ⟨(some 23), .rd (.idx 2 (.t 20) (.t 22)), none, [4, 6, 5], false⟩,
  ⟨(some 24), .rd (.load 2 true (.t 23)), none, [7, 4, 6, 5], false⟩,
  ⟨(some 25), .rd (.eqc false [(.int .i64), (.int .i64)] (.t 19) (.t 24)), none, [3, 8, 2, 0, 1, 7, 4, 6, 5], false⟩]
def slices_Compact_sl_ar2_int_ar2_int_7 : XCode := .region [⟨(some 26), .rd (.mov (.t 0)), none, [], false⟩,
  ⟨(some 27), .rd (.mov (.t 3)), none, [], false⟩,
  ⟨(some 28), .rd (.slice 2 (.t 26) (some (.t 27)) none none), none, [], false⟩,
  ⟨(some 4), .rd (.mov (.t 28)), none, [], false⟩]
def slices_Compact_sl_ar2_int_ar2_int_8 : XCode := .region [⟨(some 29), .rd (.mov (.t 5)), none, [], false⟩,
  ⟨(some 30), .rd (.mov (.t 4)), none, [], false⟩,
  ⟨(some 31), .rd (.lenL (.t 30)), none, [], false⟩,
  ⟨(some 32), .rd (.bin .lss .other (.t 29) (.t 31)), none, [], false⟩]
def slices_Compact_sl_ar2_int_ar2_int_9 : XCode := .cond (.t 32) .skip (.exit 2)
def slices_Compact_sl_ar2_int_ar2_int_10 : XCode := .seq slices_Compact_sl_ar2_int_ar2_int_8 (.keep [0, 3, 4, 5, 32] slices_Compact_sl_ar2_int_ar2_int_9)
def slices_Compact_sl_ar2_int_ar2_int_11 : XCode := .draw [⟨(some 35), .rd (.mov (.t 4)), none, [], false⟩,
  ⟨(some 36), .rd (.mov (.t 5)), none, [], false⟩,
  ⟨(some 37), .rd (.idx 2 (.t 35) (.t 36)), none, [0, 1], false⟩,
  ⟨(some 38), .rd (.load 2 true (.t 37)), none, [2, 0, 1], false⟩,
  ⟨(some 39), .rd (.mov (.t 4)), none, [], false⟩,
  ⟨(some 40), .rd (.mov (.t 5)), none, [], false⟩,
  ⟨(some 41), .rd (.bin .sub .other (.t 40) (.c (.int .i64 1))), none, [5], false⟩,
  ⟨(some 42), .rd (.idx 2 (.t 39) (.t 41)), none, [4, 6, 5], false⟩,
  ⟨(some 43), .rd (.load 2 true (.t 42)), none, [7, 4, 6, 5], false⟩,
  ⟨(some 44), .rd (.eqc true [(.int .i64), (.int .i64)] (.t 38) (.t 43)), none, [3, 8, 2, 0, 1, 7, 4, 6, 5], false⟩]
def slices_Compact_sl_ar2_int_ar2_int_12 : XCode := .region [⟨(some 45), .rd (.mov (.t 0)), none, [], false⟩,
  ⟨(some 46), .rd (.mov (.t 3)), none, [], false⟩,
  ⟨(some 47), .rd (.mov (.t 4)), none, [], false⟩,
  ⟨(some 48), .rd (.mov (.t 5)), none, [], false⟩,
  ⟨(some 49), .rd (.idx 2 (.t 47) (.t 48)), none, [], false⟩,
  ⟨(some 50), .rd (.load 2 true (.t 49)), none, [], false⟩,
  ⟨(some 51), .rd (.idx 2 (.t 45) (.t 46)), none, [], false⟩,
  ⟨none, .ef (.store 2 (.t 51) (.t 50)), none, [], false⟩]
def slices_Compact_sl_ar2_int_ar2_int_13 : XCode := .region [⟨(some 52), .rd (.mov (.t 3)), none, [], false⟩,
  ⟨(some 53), .rd (.bin .add .other (.t 52) (.c (.int .i64 1))), none, [], false⟩,
  ⟨(some 3), .rd (.mov (.t 53)), none, [], false⟩]
def slices_Compact_sl_ar2_int_ar2_int_14 : XCode := .seq slices_Compact_sl_ar2_int_ar2_int_12 (.keep [0, 3, 4, 5] slices_Compact_sl_ar2_int_ar2_int_13)
def slices_Compact_sl_ar2_int_ar2_int_15 : XCode := .cond (.t 44) slices_Compact_sl_ar2_int_ar2_int_14 .skip
def slices_Compact_sl_ar2_int_ar2_int_16 : XCode := .seq slices_Compact_sl_ar2_int_ar2_int_11 (.keep [0, 3, 4, 5, 44] slices_Compact_sl_ar2_int_ar2_int_15)
def slices_Compact_sl_ar2_int_ar2_int_17 : XCode := .region [⟨(some 33), .rd (.mov (.t 5)), none, [], false⟩,
  ⟨(some 34), .rd (.bin .add .other (.t 33) (.c (.int .i64 1))), none, [], false⟩,
  ⟨(some 5), .rd (.mov (.t 34)), none, [], false⟩]
def slices_Compact_sl_ar2_int_ar2_int_18 : XCode := .seq (.block 3 slices_Compact_sl_ar2_int_ar2_int_16) (.keep [0, 3, 4, 5] slices_Compact_sl_ar2_int_ar2_int_17)
def slices_Compact_sl_ar2_int_ar2_int_19 : XCode := .seq slices_Compact_sl_ar2_int_ar2_int_10 (.keep [0, 3, 4, 5] slices_Compact_sl_ar2_int_ar2_int_18)
def slices_Compact_sl_ar2_int_ar2_int_20 : XCode := .seq (.region [⟨(some 5), .rd (.mov (.c (.int .i64 1))), none, [], false⟩]) (.block 2 (.loop [0, 3, 4, 5] slices_Compact_sl_ar2_int_ar2_int_19))
def slices_Compact_sl_ar2_int_ar2_int_21 : XCode := .region [⟨(some 54), .rd (.mov (.t 0)), none, [], false⟩,
  ⟨(some 55), .rd (.mov (.t 3)), none, [], false⟩,
  ⟨(some 56), .rd (.slice 2 (.t 54) (some (.t 55)) none none), none, [], false⟩,
  ⟨none, .ef (.clear 2 [.int .i64 0, .int .i64 0] (.t 56)), none, [], false⟩]
def slices_Compact_sl_ar2_int_ar2_int_22 : XCode := .region [⟨(some 57), .rd (.mov (.t 0)), none, [], false⟩,
  ⟨(some 58), .rd (.mov (.t 3)), none, [], false⟩,
  ⟨(some 59), .rd (.slice 2 (.t 57) none (some (.t 58)) none), none, [], false⟩,
  ⟨(some 2), .rd (.mov (.t 59)), none, [], false⟩]
def slices_Compact_sl_ar2_int_ar2_int_23 : XCode := .seq slices_Compact_sl_ar2_int_ar2_int_22 .ret
def slices_Compact_sl_ar2_int_ar2_int_24 : XCode := .seq slices_Compact_sl_ar2_int_ar2_int_21 (.keep [0, 3] slices_Compact_sl_ar2_int_ar2_int_23)
def slices_Compact_sl_ar2_int_ar2_int_25 : XCode := .seq slices_Compact_sl_ar2_int_ar2_int_20 (.keep [0, 3] slices_Compact_sl_ar2_int_ar2_int_24)
def slices_Compact_sl_ar2_int_ar2_int_26 : XCode := .seq slices_Compact_sl_ar2_int_ar2_int_7 (.keep [0, 3, 4] slices_Compact_sl_ar2_int_ar2_int_25)
def slices_Compact_sl_ar2_int_ar2_int_27 : XCode := .cond (.t 25) slices_Compact_sl_ar2_int_ar2_int_26 .skip
def slices_Compact_sl_ar2_int_ar2_int_28 : XCode := .seq slices_Compact_sl_ar2_int_ar2_int_6 (.keep [0, 3, 25] slices_Compact_sl_ar2_int_ar2_int_27)
def slices_Compact_sl_ar2_int_ar2_int_29 : XCode := .region [⟨(some 14), .rd (.mov (.t 3)), none, [], false⟩,
  ⟨(some 15), .rd (.bin .add .other (.t 14) (.c (.int .i64 1))), none, [], false⟩,
  ⟨(some 3), .rd (.mov (.t 15)), none, [], false⟩]
def slices_Compact_sl_ar2_int_ar2_int_30 : XCode := .seq (.block 1 slices_Compact_sl_ar2_int_ar2_int_28) (.keep [0, 3] slices_Compact_sl_ar2_int_ar2_int_29)
def slices_Compact_sl_ar2_int_ar2_int_31 : XCode := .seq slices_Compact_sl_ar2_int_ar2_int_5 (.keep [0, 3] slices_Compact_sl_ar2_int_ar2_int_30)
def slices_Compact_sl_ar2_int_ar2_int_32 : XCode := .seq (.region [⟨(some 3), .rd (.mov (.c (.int .i64 1))), none, [], false⟩]) (.block 0 (.loop [0, 3] slices_Compact_sl_ar2_int_ar2_int_31))
def slices_Compact_sl_ar2_int_ar2_int_33 : XCode := .seq (.region [⟨(some 60), .rd (.mov (.t 0)), none, [], false⟩,
  ⟨(some 2), .rd (.mov (.t 60)), none, [], false⟩]) .ret
def slices_Compact_sl_ar2_int_ar2_int_34 : XCode := .seq slices_Compact_sl_ar2_int_ar2_int_32 (.keep [0] slices_Compact_sl_ar2_int_ar2_int_33)
def slices_Compact_sl_ar2_int_ar2_int_35 : XCode := .seq slices_Compact_sl_ar2_int_ar2_int_2 (.keep [0] slices_Compact_sl_ar2_int_ar2_int_34)
def slices_Compact_sl_ar2_int_ar2_int_36 : XCode := .seq (.region [⟨(some 2), .rd (.mov (.c (.nilslice))), none, [], false⟩]) slices_Compact_sl_ar2_int_ar2_int_35
def slices_Compact_sl_ar2_int_ar2_int : XFun := ⟨1, slices_Compact_sl_ar2_int_ar2_int_36, [.tmp 2]⟩
theorem slices_Compact_sl_ar2_int_ar2_int_ok : FunOk Try.prog slices_Compact_sl_ar2_int_ar2_int_id slices_Compact_sl_ar2_int_ar2_int := compFun_ok rfl E_ok (by kernel_rfl)

/-! ## 45 slices.ContainsFunc[[]int,int] -/
def slices_ContainsFunc_int_0 : XCode := .region [⟨(some 5), .rd (.mov (.t 0)), none, [], false⟩,
  ⟨(some 6), .rd (.mov (.t 1)), none, [], false⟩,
  ⟨(some 7), .call slices_IndexFunc_int_id [.t 5, .t 6], none, [], false⟩,
  ⟨(some 8), .rd (.bin .geq .other (.t 7) (.c (.int .i64 0))), none, [], false⟩,
  ⟨(some 4), .rd (.mov (.t 8)), none, [], false⟩]
def slices_ContainsFunc_int_1 : XCode := .seq slices_ContainsFunc_int_0 .ret
def slices_ContainsFunc_int_2 : XCode := .seq (.region [⟨(some 4), .rd (.mov (.c (.bool false))), none, [], false⟩]) slices_ContainsFunc_int_1
def slices_ContainsFunc_int : XFun := ⟨2, slices_ContainsFunc_int_2, [.tmp 4]⟩
theorem slices_ContainsFunc_int_ok : FunOk Try.prog slices_ContainsFunc_int_id slices_ContainsFunc_int := compFun_ok rfl E_ok (by kernel_rfl)

/-! ## 49 antecedent/antecedentref11.Same -/
def ref11_Same_0 : XCode := .region [⟨(some 6), .rd (.mov (.t 0)), none, [], false⟩,
  ⟨(some 7), .rd (.lenL (.t 6)), none, [], false⟩,
  ⟨(some 8), .rd (.mov (.t 1)), none, [], false⟩,
  ⟨(some 9), .rd (.lenL (.t 8)), none, [], false⟩,
  ⟨(some 10), .rd (.bin .neq .other (.t 7) (.t 9)), none, [], false⟩]
def ref11_Same_1 : XCode := .seq (.region [⟨(some 4), .rd (.mov (.c (.bool false))), none, [], false⟩]) .ret
def ref11_Same_2 : XCode := .cond (.t 10) ref11_Same_1 .skip
def ref11_Same_3 : XCode := .seq ref11_Same_0 (.keep [0, 1, 10] ref11_Same_2)
def ref11_Same_4 : XCode := .cond (.t 14) .skip (.exit 0)
def ref11_Same_5 : XCode := .draw [⟨(some 16), .rd (.mov (.t 0)), none, [], false⟩,
  ⟨(some 17), .rd (.mov (.t 5)), none, [], false⟩,
  ⟨(some 18), .rd (.idx 1 (.t 16) (.t 17)), none, [0, 1], false⟩,
  ⟨(some 19), .rd (.load 1 false (.t 18)), none, [2, 0, 1], false⟩,
  ⟨(some 20), .rd (.mov (.t 1)), none, [], false⟩,
  ⟨(some 21), .rd (.mov (.t 5)), none, [], false⟩,
  ⟨(some 22), .rd (.idx 1 (.t 20) (.t 21)), none, [4, 5], false⟩,
  ⟨(some 23), .rd (.load 1 false (.t 22)), none, [6, 4, 5], false⟩,
  ⟨(some 24), .rd (.bin .neq .other (.t 19) (.t 23)), none, [3, 7, 2, 0, 1, 6, 4, 5], false⟩]
def ref11_Same_6 : XCode := .seq (.region [⟨(some 4), .rd (.mov (.c (.bool false))), none, [], false⟩]) .ret
def ref11_Same_7 : XCode := .cond (.t 24) ref11_Same_6 .skip
def ref11_Same_8 : XCode := .seq ref11_Same_5 (.keep [0, 1, 12, 13, 24] ref11_Same_7)
def ref11_Same_9 : XCode := .seq (.region [⟨(some 15), .rd (.mov (.t 13)), none, [], false⟩,
  ⟨(some 5), .rd (.mov (.t 15)), none, [], false⟩]) ref11_Same_8
def ref11_Same_10 : XCode := .region [⟨(some 25), .rd (.bin .add .other (.t 13) (.c (.int .i64 1))), none, [], false⟩,
  ⟨(some 13), .rd (.mov (.t 25)), none, [], false⟩]
def ref11_Same_11 : XCode := .seq (.block 1 ref11_Same_9) (.keep [0, 1, 12, 13] ref11_Same_10)
def ref11_Same_12 : XCode := .seq ref11_Same_4 (.keep [0, 1, 12, 13] ref11_Same_11)
def ref11_Same_13 : XCode := .seq (.region [⟨(some 14), .rd (.bin .lss .other (.t 13) (.t 12)), none, [], false⟩]) ref11_Same_12
def ref11_Same_14 : XCode := .seq (.region [⟨(some 11), .rd (.mov (.t 0)), none, [], false⟩,
  ⟨(some 12), .rd (.lenL (.t 11)), none, [], false⟩,
  ⟨(some 13), .rd (.mov (.c (.int .i64 0))), none, [], false⟩]) (.block 0 (.loop [0, 1, 12, 13] ref11_Same_13))
def ref11_Same_15 : XCode := .seq (.region [⟨(some 4), .rd (.mov (.c (.bool true))), none, [], false⟩]) .ret
def ref11_Same_16 : XCode := .seq ref11_Same_14 (.keep [] ref11_Same_15)
def ref11_Same_17 : XCode := .seq ref11_Same_3 (.keep [0, 1] ref11_Same_16)
def ref11_Same_18 : XCode := .seq (.region [⟨(some 4), .rd (.mov (.c (.bool false))), none, [], false⟩]) ref11_Same_17
def ref11_Same : XFun := ⟨2, ref11_Same_18, [.tmp 4]⟩
theorem ref11_Same_ok : FunOk Try.prog ref11_Same_id ref11_Same := compFun_ok rfl E_ok (by kernel_rfl)

/-! ## 50 antecedent/comps.held -/
def comps_held_0 : XCode := .region [⟨(some 3), .rd (.mov (.t 0)), none, [], false⟩,
  ⟨(some 4), .rd (.min (.t 3) (.c (.int .i64 1000))), none, [], false⟩,
  ⟨(some 5), .rd (.max (.c (.int .i64 0)) (.t 4)), none, [], false⟩,
  ⟨(some 2), .rd (.mov (.t 5)), none, [], false⟩]
def comps_held_1 : XCode := .seq comps_held_0 .ret
def comps_held_2 : XCode := .seq (.region [⟨(some 2), .rd (.mov (.c (.int .i64 0))), none, [], false⟩]) comps_held_1
def comps_held : XFun := ⟨1, comps_held_2, [.tmp 2]⟩
theorem comps_held_ok : FunOk Try.prog comps_held_id comps_held := compFun_ok rfl E_ok (by kernel_rfl)

/-! ## 51 antecedent/comps.lists -/
def comps_lists_0 : XCode := .cond (.t 17) .skip (.exit 0)
def comps_lists_1 : XCode := .region [⟨(some 18), .rd (.idx 2 (.t 14) (.t 16)), none, [], false⟩,
  ⟨(some 19), .rd (.load 2 true (.t 18)), none, [], false⟩,
  ⟨(some 9), .ef (.new T_ar2_int 2 [.int .i64 0, .int .i64 0]), none, [], false⟩,
  ⟨none, .ef (.store 2 (.t 9) (.t 19)), none, [], false⟩]
def comps_lists_2 : XCode := .draw [⟨(some 20), .rd (.idxA 2 1 (.t 9) (.c (.int .i64 0))), none, [], false⟩,
  ⟨(some 21), .rd (.load 1 false (.t 20)), none, [0], false⟩,
  ⟨(some 22), .rd (.idxA 2 1 (.t 9) (.c (.int .i64 1))), none, [], false⟩,
  ⟨(some 23), .rd (.load 1 false (.t 22)), none, [2], false⟩,
  ⟨(some 10), .rd (.mov (.t 21)), none, [1, 0], false⟩,
  ⟨(some 11), .rd (.mov (.t 23)), none, [3, 4, 0, 1, 2], false⟩]
def comps_lists_3 : XCode := .region [⟨(some 25), .rd (.mov (.t 11)), none, [], false⟩,
  ⟨(some 26), .rd (.mov (.t 10)), none, [], false⟩,
  ⟨(some 10), .rd (.mov (.t 25)), none, [], false⟩,
  ⟨(some 11), .rd (.mov (.t 26)), none, [], false⟩]
def comps_lists_4 : XCode := .cond (.t 24) comps_lists_3 .skip
def comps_lists_5 : XCode := .seq (.region [⟨(some 24), .rd (.mov (.t 2)), none, [], false⟩]) comps_lists_4
def comps_lists_6 : XCode := .region [⟨(some 27), .rd (.mov (.t 10)), none, [], false⟩,
  ⟨(some 28), .rd (.mov (.t 11)), none, [], false⟩,
  ⟨(some 29), .rd (.min (.t 27) (.t 28)), none, [], false⟩,
  ⟨(some 30), .rd (.bin .geq .other (.t 29) (.c (.int .i64 0))), none, [], false⟩,
  ⟨(some 31), .rd (.mov (.t 30)), none, [], false⟩,
  ⟨(some 32), .rd (.mov (.t 10)), (some (31, true)), [], false⟩,
  ⟨(some 33), .rd (.mov (.t 11)), (some (31, true)), [], false⟩,
  ⟨(some 34), .rd (.max (.t 32) (.t 33)), (some (31, true)), [], false⟩,
  ⟨(some 35), .rd (.mov (.t 0)), (some (31, true)), [], false⟩,
  ⟨(some 36), .rd (.bin .lss .other (.t 34) (.t 35)), (some (31, true)), [], false⟩,
  ⟨(some 37), .rd (.pick (.t 31) (.t 36) (.c (.bool false))), none, [], false⟩]
def comps_lists_7 : XCode := .region [⟨(some 38), .rd (.mov (.t 7)), none, [], false⟩,
  ⟨(some 39), .rd (.mov (.t 10)), none, [], false⟩,
  ⟨(some 40), .rd (.mov (.t 7)), none, [], false⟩,
  ⟨(some 41), .rd (.mov (.t 10)), none, [], false⟩,
  ⟨(some 42), .rd (.idx 1 (.t 40) (.t 41)), none, [], false⟩,
  ⟨(some 43), .rd (.load 1 false (.t 42)), none, [], false⟩,
  ⟨(some 44), .rd (.mov (.t 11)), none, [], false⟩,
  ⟨(some 45), .ef (.buildSlice T_int 1 1 [.int .i64 0] [(0, 1, (.t 44))]), none, [], false⟩,
  ⟨(some 46), .ef (.append T_int 1 8 (.t 43) (.t 45)), none, [], false⟩,
  ⟨(some 47), .rd (.idx 1 (.t 38) (.t 39)), none, [], false⟩,
  ⟨none, .ef (.store 1 (.t 47) (.t 46)), none, [], false⟩]
def comps_lists_8 : XCode := .cond (.t 37) comps_lists_7 .skip
def comps_lists_9 : XCode := .seq comps_lists_6 (.keep [0, 2, 7, 10, 11, 14, 15, 16, 37] comps_lists_8)
def comps_lists_10 : XCode := .seq comps_lists_5 (.keep [0, 2, 7, 10, 11, 14, 15, 16] comps_lists_9)
def comps_lists_11 : XCode := .seq comps_lists_2 (.keep [0, 2, 7, 10, 11, 14, 15, 16] comps_lists_10)
def comps_lists_12 : XCode := .seq comps_lists_1 (.keep [0, 2, 7, 9, 14, 15, 16] comps_lists_11)
def comps_lists_13 : XCode := .region [⟨(some 48), .rd (.bin .add .other (.t 16) (.c (.int .i64 1))), none, [], false⟩,
  ⟨(some 16), .rd (.mov (.t 48)), none, [], false⟩]
def comps_lists_14 : XCode := .seq (.block 1 comps_lists_12) (.keep [0, 2, 7, 14, 15, 16] comps_lists_13)
def comps_lists_15 : XCode := .seq comps_lists_0 (.keep [0, 2, 7, 14, 15, 16] comps_lists_14)
def comps_lists_16 : XCode := .seq (.region [⟨(some 17), .rd (.bin .lss .other (.t 16) (.t 15)), none, [], false⟩]) comps_lists_15
def comps_lists_17 : XCode := .seq (.region [⟨(some 14), .rd (.mov (.t 1)), none, [], false⟩,
  ⟨(some 15), .rd (.lenL (.t 14)), none, [], false⟩,
  ⟨(some 16), .rd (.mov (.c (.int .i64 0))), none, [], false⟩]) (.block 0 (.loop [0, 2, 7, 14, 15, 16] comps_lists_16))
def comps_lists_18 : XCode := .seq (.region [⟨(some 49), .rd (.mov (.t 7)), none, [], false⟩,
  ⟨(some 6), .rd (.mov (.t 49)), none, [], false⟩]) .ret
def comps_lists_19 : XCode := .seq comps_lists_17 (.keep [7] comps_lists_18)
def comps_lists_20 : XCode := .seq (.region [⟨(some 12), .rd (.mov (.t 0)), none, [], false⟩,
  ⟨(some 13), .ef (.mkslice T_sl_int 1 24 [.nilslice] (.t 12) (.t 12)), none, [], false⟩,
  ⟨(some 7), .rd (.mov (.t 13)), none, [], false⟩]) comps_lists_19
def comps_lists_21 : XCode := .seq (.region [⟨(some 6), .rd (.mov (.c (.nilslice))), none, [], false⟩]) comps_lists_20
def comps_lists : XFun := ⟨3, comps_lists_21, [.tmp 6]⟩
theorem comps_lists_ok : FunOk Try.prog comps_lists_id comps_lists := compFun_ok rfl E_ok (by kernel_rfl)

/-! ## 52 antecedent/comps.seen -/
def comps_seen_0 : XCode := .region [⟨(some 10), .rd (.mov (.t 0)), none, [], false⟩,
  ⟨(some 11), .rd (.lenL (.t 10)), none, [], false⟩,
  ⟨(some 12), .ef (.mkslice T_bool 1 1 [.bool false] (.t 11) (.t 11)), none, [], false⟩,
  ⟨(some 5), .rd (.mov (.t 12)), none, [], false⟩]
def comps_seen_1 : XCode := .region [⟨(some 13), .rd (.mov (.t 1)), none, [], false⟩,
  ⟨(some 14), .rd (.bin .geq .other (.t 13) (.c (.int .i64 0))), none, [], false⟩,
  ⟨(some 15), .rd (.mov (.t 14)), none, [], false⟩,
  ⟨(some 16), .rd (.mov (.t 1)), (some (15, true)), [], false⟩,
  ⟨(some 17), .rd (.mov (.t 0)), (some (15, true)), [], false⟩,
  ⟨(some 18), .rd (.lenL (.t 17)), (some (15, true)), [], false⟩,
  ⟨(some 19), .rd (.bin .lss .other (.t 16) (.t 18)), (some (15, true)), [], false⟩,
  ⟨(some 20), .rd (.pick (.t 15) (.t 19) (.c (.bool false))), none, [], false⟩]
def comps_seen_2 : XCode := .region [⟨(some 21), .rd (.mov (.t 6)), none, [], false⟩,
  ⟨(some 22), .rd (.mov (.t 1)), none, [], false⟩,
  ⟨(some 23), .ef (.buildSlice T_int 1 1 [.int .i64 0] [(0, 1, (.t 22))]), none, [], false⟩,
  ⟨(some 24), .ef (.append T_int 1 8 (.t 21) (.t 23)), none, [], false⟩,
  ⟨(some 6), .rd (.mov (.t 24)), none, [], false⟩]
def comps_seen_3 : XCode := .region [⟨(some 25), .rd (.mov (.t 5)), none, [], false⟩,
  ⟨(some 26), .rd (.mov (.t 1)), none, [], false⟩,
  ⟨(some 27), .rd (.idx 1 (.t 25) (.t 26)), none, [], false⟩,
  ⟨none, .ef (.store 1 (.t 27) (.c (.bool true))), none, [], false⟩]
def comps_seen_4 : XCode := .seq comps_seen_2 (.keep [0, 1, 5, 6] comps_seen_3)
def comps_seen_5 : XCode := .cond (.t 20) comps_seen_4 .skip
def comps_seen_6 : XCode := .seq comps_seen_1 (.keep [0, 1, 5, 6, 20] comps_seen_5)
def comps_seen_7 : XCode := .seq (.region [⟨(some 31), .rd (.mov (.t 5)), none, [], false⟩,
  ⟨(some 4), .rd (.mov (.t 31)), none, [], false⟩]) .ret
def comps_seen_8 : XCode := .cond (.t 30) comps_seen_7 .skip
def comps_seen_9 : XCode := .seq (.region [⟨(some 28), .rd (.mov (.t 6)), none, [], false⟩,
  ⟨(some 29), .rd (.lenL (.t 28)), none, [], false⟩,
  ⟨(some 30), .rd (.bin .eql .other (.t 29) (.c (.int .i64 0))), none, [], false⟩]) comps_seen_8
def comps_seen_10 : XCode := .region [⟨(some 32), .rd (.mov (.t 6)), none, [], false⟩,
  ⟨(some 33), .rd (.mov (.t 6)), none, [], false⟩,
  ⟨(some 34), .rd (.lenL (.t 33)), none, [], false⟩,
  ⟨(some 35), .rd (.bin .sub .other (.t 34) (.c (.int .i64 1))), none, [], false⟩,
  ⟨(some 36), .rd (.idx 1 (.t 32) (.t 35)), none, [], false⟩,
  ⟨(some 37), .rd (.load 1 false (.t 36)), none, [], false⟩,
  ⟨(some 7), .rd (.mov (.t 37)), none, [], false⟩]
def comps_seen_11 : XCode := .region [⟨(some 38), .rd (.mov (.t 6)), none, [], false⟩,
  ⟨(some 39), .rd (.mov (.t 6)), none, [], false⟩,
  ⟨(some 40), .rd (.lenL (.t 39)), none, [], false⟩,
  ⟨(some 41), .rd (.bin .sub .other (.t 40) (.c (.int .i64 1))), none, [], false⟩,
  ⟨(some 42), .rd (.slice 1 (.t 38) none (some (.t 41)) none), none, [], false⟩,
  ⟨(some 6), .rd (.mov (.t 42)), none, [], false⟩]
def comps_seen_12 : XCode := .region [⟨(some 43), .rd (.mov (.t 0)), none, [], false⟩,
  ⟨(some 44), .rd (.mov (.t 7)), none, [], false⟩,
  ⟨(some 45), .rd (.idx 1 (.t 43) (.t 44)), none, [], false⟩,
  ⟨(some 46), .rd (.load 1 false (.t 45)), none, [], false⟩,
  ⟨(some 47), .rd (.lenL (.t 46)), none, [], false⟩,
  ⟨(some 48), .rd (.mov (.c (.int .i64 0))), none, [], false⟩]
def comps_seen_13 : XCode := .cond (.t 49) .skip (.exit 0)
def comps_seen_14 : XCode := .region [⟨(some 52), .rd (.mov (.t 5)), none, [], false⟩,
  ⟨(some 53), .rd (.mov (.t 9)), none, [], false⟩,
  ⟨(some 54), .rd (.idx 1 (.t 52) (.t 53)), none, [], false⟩,
  ⟨(some 55), .rd (.load 1 false (.t 54)), none, [], false⟩,
  ⟨(some 56), .rd (.un .not (.t 55)), none, [], false⟩]
def comps_seen_15 : XCode := .region [⟨(some 57), .rd (.mov (.t 5)), none, [], false⟩,
  ⟨(some 58), .rd (.mov (.t 9)), none, [], false⟩,
  ⟨(some 59), .rd (.idx 1 (.t 57) (.t 58)), none, [], false⟩,
  ⟨none, .ef (.store 1 (.t 59) (.c (.bool true))), none, [], false⟩]
def comps_seen_16 : XCode := .region [⟨(some 60), .rd (.mov (.t 6)), none, [], false⟩,
  ⟨(some 61), .rd (.mov (.t 9)), none, [], false⟩,
  ⟨(some 62), .ef (.buildSlice T_int 1 1 [.int .i64 0] [(0, 1, (.t 61))]), none, [], false⟩,
  ⟨(some 63), .ef (.append T_int 1 8 (.t 60) (.t 62)), none, [], false⟩,
  ⟨(some 6), .rd (.mov (.t 63)), none, [], false⟩]
def comps_seen_17 : XCode := .seq comps_seen_15 (.keep [0, 5, 6, 9, 46, 47, 48] comps_seen_16)
def comps_seen_18 : XCode := .cond (.t 56) comps_seen_17 .skip
def comps_seen_19 : XCode := .seq comps_seen_14 (.keep [0, 5, 6, 9, 46, 47, 48, 56] comps_seen_18)
def comps_seen_20 : XCode := .seq (.region [⟨(some 50), .rd (.idx 1 (.t 46) (.t 48)), none, [], false⟩,
  ⟨(some 51), .rd (.load 1 false (.t 50)), none, [], false⟩,
  ⟨(some 9), .rd (.mov (.t 51)), none, [], false⟩]) comps_seen_19
def comps_seen_21 : XCode := .region [⟨(some 64), .rd (.bin .add .other (.t 48) (.c (.int .i64 1))), none, [], false⟩,
  ⟨(some 48), .rd (.mov (.t 64)), none, [], false⟩]
def comps_seen_22 : XCode := .seq (.block 1 comps_seen_20) (.keep [0, 5, 6, 46, 47, 48] comps_seen_21)
def comps_seen_23 : XCode := .seq comps_seen_13 (.keep [0, 5, 6, 46, 47, 48] comps_seen_22)
def comps_seen_24 : XCode := .seq (.region [⟨(some 49), .rd (.bin .lss .other (.t 48) (.t 47)), none, [], false⟩]) comps_seen_23
def comps_seen_25 : XCode := .seq comps_seen_12 (.keep [0, 5, 6, 46, 47, 48] (.block 0 (.loop [0, 5, 6, 46, 47, 48] comps_seen_24)))
def comps_seen_26 : XCode := .seq comps_seen_25 (.goto 0)
def comps_seen_27 : XCode := .seq comps_seen_11 (.keep [0, 5, 6, 7] comps_seen_26)
def comps_seen_28 : XCode := .seq comps_seen_10 (.keep [0, 5, 6, 7] comps_seen_27)
def comps_seen_29 : XCode := .seq comps_seen_9 (.keep [0, 5, 6] comps_seen_28)
def comps_seen_30 : XCode := .seq (.label 0) comps_seen_29
def comps_seen_31 : XCode := .seq comps_seen_6 (.keep [0, 5, 6] comps_seen_30)
def comps_seen_32 : XCode := .seq (.region [⟨(some 6), .rd (.mov (.c (.nilslice))), none, [], false⟩]) comps_seen_31
def comps_seen_33 : XCode := .seq comps_seen_0 (.keep [0, 1, 5] comps_seen_32)
def comps_seen_34 : XCode := .seq (.region [⟨(some 31), .rd (.mov (.t 5)), none, [], false⟩,
  ⟨(some 4), .rd (.mov (.t 31)), none, [], false⟩]) .ret
def comps_seen_35 : XCode := .cond (.t 30) comps_seen_34 .skip
def comps_seen_36 : XCode := .seq (.region [⟨(some 28), .rd (.mov (.t 6)), none, [], false⟩,
  ⟨(some 29), .rd (.lenL (.t 28)), none, [], false⟩,
  ⟨(some 30), .rd (.bin .eql .other (.t 29) (.c (.int .i64 0))), none, [], false⟩]) comps_seen_35
def comps_seen_37 : XCode := .region [⟨(some 32), .rd (.mov (.t 6)), none, [], false⟩,
  ⟨(some 33), .rd (.mov (.t 6)), none, [], false⟩,
  ⟨(some 34), .rd (.lenL (.t 33)), none, [], false⟩,
  ⟨(some 35), .rd (.bin .sub .other (.t 34) (.c (.int .i64 1))), none, [], false⟩,
  ⟨(some 36), .rd (.idx 1 (.t 32) (.t 35)), none, [], false⟩,
  ⟨(some 37), .rd (.load 1 false (.t 36)), none, [], false⟩,
  ⟨(some 7), .rd (.mov (.t 37)), none, [], false⟩]
def comps_seen_38 : XCode := .region [⟨(some 38), .rd (.mov (.t 6)), none, [], false⟩,
  ⟨(some 39), .rd (.mov (.t 6)), none, [], false⟩,
  ⟨(some 40), .rd (.lenL (.t 39)), none, [], false⟩,
  ⟨(some 41), .rd (.bin .sub .other (.t 40) (.c (.int .i64 1))), none, [], false⟩,
  ⟨(some 42), .rd (.slice 1 (.t 38) none (some (.t 41)) none), none, [], false⟩,
  ⟨(some 6), .rd (.mov (.t 42)), none, [], false⟩]
def comps_seen_39 : XCode := .region [⟨(some 43), .rd (.mov (.t 0)), none, [], false⟩,
  ⟨(some 44), .rd (.mov (.t 7)), none, [], false⟩,
  ⟨(some 45), .rd (.idx 1 (.t 43) (.t 44)), none, [], false⟩,
  ⟨(some 46), .rd (.load 1 false (.t 45)), none, [], false⟩,
  ⟨(some 47), .rd (.lenL (.t 46)), none, [], false⟩,
  ⟨(some 48), .rd (.mov (.c (.int .i64 0))), none, [], false⟩]
def comps_seen_40 : XCode := .cond (.t 49) .skip (.exit 0)
def comps_seen_41 : XCode := .region [⟨(some 52), .rd (.mov (.t 5)), none, [], false⟩,
  ⟨(some 53), .rd (.mov (.t 9)), none, [], false⟩,
  ⟨(some 54), .rd (.idx 1 (.t 52) (.t 53)), none, [], false⟩,
  ⟨(some 55), .rd (.load 1 false (.t 54)), none, [], false⟩,
  ⟨(some 56), .rd (.un .not (.t 55)), none, [], false⟩]
def comps_seen_42 : XCode := .region [⟨(some 57), .rd (.mov (.t 5)), none, [], false⟩,
  ⟨(some 58), .rd (.mov (.t 9)), none, [], false⟩,
  ⟨(some 59), .rd (.idx 1 (.t 57) (.t 58)), none, [], false⟩,
  ⟨none, .ef (.store 1 (.t 59) (.c (.bool true))), none, [], false⟩]
def comps_seen_43 : XCode := .region [⟨(some 60), .rd (.mov (.t 6)), none, [], false⟩,
  ⟨(some 61), .rd (.mov (.t 9)), none, [], false⟩,
  ⟨(some 62), .ef (.buildSlice T_int 1 1 [.int .i64 0] [(0, 1, (.t 61))]), none, [], false⟩,
  ⟨(some 63), .ef (.append T_int 1 8 (.t 60) (.t 62)), none, [], false⟩,
  ⟨(some 6), .rd (.mov (.t 63)), none, [], false⟩]
def comps_seen_44 : XCode := .seq comps_seen_42 (.keep [0, 5, 6, 9, 46, 47, 48] comps_seen_43)
def comps_seen_45 : XCode := .cond (.t 56) comps_seen_44 .skip
def comps_seen_46 : XCode := .seq comps_seen_41 (.keep [0, 5, 6, 9, 46, 47, 48, 56] comps_seen_45)
def comps_seen_47 : XCode := .seq (.region [⟨(some 50), .rd (.idx 1 (.t 46) (.t 48)), none, [], false⟩,
  ⟨(some 51), .rd (.load 1 false (.t 50)), none, [], false⟩,
  ⟨(some 9), .rd (.mov (.t 51)), none, [], false⟩]) comps_seen_46
def comps_seen_48 : XCode := .region [⟨(some 64), .rd (.bin .add .other (.t 48) (.c (.int .i64 1))), none, [], false⟩,
  ⟨(some 48), .rd (.mov (.t 64)), none, [], false⟩]
def comps_seen_49 : XCode := .seq (.block 1 comps_seen_47) (.keep [0, 5, 6, 46, 47, 48] comps_seen_48)
def comps_seen_50 : XCode := .seq comps_seen_40 (.keep [0, 5, 6, 46, 47, 48] comps_seen_49)
def comps_seen_51 : XCode := .seq (.region [⟨(some 49), .rd (.bin .lss .other (.t 48) (.t 47)), none, [], false⟩]) comps_seen_50
def comps_seen_52 : XCode := .seq comps_seen_39 (.keep [0, 5, 6, 46, 47, 48] (.block 0 (.loop [0, 5, 6, 46, 47, 48] comps_seen_51)))
def comps_seen_53 : XCode := .seq comps_seen_52 (.goto 0)
def comps_seen_54 : XCode := .seq comps_seen_38 (.keep [0, 5, 6, 7] comps_seen_53)
def comps_seen_55 : XCode := .seq comps_seen_37 (.keep [0, 5, 6, 7] comps_seen_54)
def comps_seen_56 : XCode := .seq comps_seen_36 (.keep [0, 5, 6] comps_seen_55)
def comps_seen_57 : XCode := .seq .skip comps_seen_56
def comps_seen_58 : XCode := .seq (.region [⟨(some 4), .rd (.mov (.c (.nilslice))), none, [], false⟩]) (.scope 0 [0, 5, 6] comps_seen_33 comps_seen_57)
def comps_seen : XFun := ⟨2, comps_seen_58, [.tmp 4]⟩
theorem comps_seen_ok : FunOk Try.prog comps_seen_id comps_seen := compFun_ok rfl E_ok (by kernel_rfl)

/-! ## 53 antecedent/comps.Comps$1 -/
def comps_Comps_f1_0 : XCode := .region [⟨(some 7), .rd (.load 1 false (.t 1)), none, [], false⟩,
  ⟨(some 8), .rd (.load 1 false (.t 5)), none, [], false⟩,
  ⟨(some 9), .rd (.idx 1 (.t 7) (.t 8)), none, [], false⟩,
  ⟨(some 10), .rd (.load 1 false (.t 9)), none, [], false⟩,
  ⟨(some 11), .rd (.bin .lss .other (.t 10) (.c (.int .i64 0))), none, [], false⟩,
  ⟨(some 12), .rd (.mov (.t 11)), none, [], false⟩,
  ⟨(some 13), .rd (.load 1 false (.t 2)), (some (12, true)), [], false⟩,
  ⟨(some 14), .rd (.load 1 false (.t 5)), (some (12, true)), [], false⟩,
  ⟨(some 15), .rd (.idx 1 (.t 13) (.t 14)), (some (12, true)), [], false⟩,
  ⟨(some 16), .rd (.load 1 false (.t 15)), (some (12, true)), [], false⟩,
  ⟨(some 17), .rd (.mkfunc comps_Comps_f1_f1_id [.t 3, .t 4, .t 5, .t 1]), (some (12, true)), [], false⟩,
  ⟨(some 18), .call slices_ContainsFunc_int_id [.t 16, .t 17], (some (12, true)), [], false⟩,
  ⟨(some 19), .rd (.un .not (.t 18)), (some (12, true)), [], false⟩,
  ⟨(some 20), .rd (.pick (.t 12) (.t 19) (.c (.bool false))), none, [], false⟩,
  ⟨(some 6), .rd (.mov (.t 20)), none, [], false⟩]
def comps_Comps_f1_1 : XCode := .seq comps_Comps_f1_0 .ret
def comps_Comps_f1_2 : XCode := .seq (.region [⟨(some 5), .ef (.box T_int 1 (.t 0)), none, [], false⟩,
  ⟨(some 6), .rd (.mov (.c (.bool false))), none, [], false⟩]) comps_Comps_f1_1
def comps_Comps_f1 : XFun := ⟨5, comps_Comps_f1_2, [.tmp 6]⟩
theorem comps_Comps_f1_ok : FunOk Try.prog comps_Comps_f1_id comps_Comps_f1 := compFun_ok rfl E_ok (by kernel_rfl)

/-! ## 54 antecedent/comps.Comps$1$1 -/
def comps_Comps_f1_f1_0 : XCode := .region [⟨(some 7), .rd (.load 1 false (.t 1)), none, [], false⟩,
  ⟨(some 8), .rd (.mov (.t 0)), none, [], false⟩,
  ⟨(some 9), .rd (.idx 1 (.t 7) (.t 8)), none, [], false⟩,
  ⟨(some 10), .rd (.load 1 false (.t 9)), none, [], false⟩,
  ⟨(some 11), .rd (.mkfunc comps_Comps_f1_f1_f1_id [.t 2, .t 3, .t 4]), none, [], false⟩,
  ⟨(some 12), .call slices_ContainsFunc_int_id [.t 10, .t 11], none, [], false⟩,
  ⟨(some 6), .rd (.mov (.t 12)), none, [], false⟩]
def comps_Comps_f1_f1_1 : XCode := .seq comps_Comps_f1_f1_0 .ret
def comps_Comps_f1_f1_2 : XCode := .seq (.region [⟨(some 6), .rd (.mov (.c (.bool false))), none, [], false⟩]) comps_Comps_f1_f1_1
def comps_Comps_f1_f1 : XFun := ⟨5, comps_Comps_f1_f1_2, [.tmp 6]⟩
theorem comps_Comps_f1_f1_ok : FunOk Try.prog comps_Comps_f1_f1_id comps_Comps_f1_f1 := compFun_ok rfl E_ok (by kernel_rfl)

/-! ## 55 antecedent/comps.Comps$1$1$1 -/
def comps_Comps_f1_f1_f1_0 : XCode := .draw [⟨(some 6), .rd (.load 1 false (.t 1)), none, [], false⟩,
  ⟨(some 7), .rd (.mov (.t 0)), none, [], false⟩,
  ⟨(some 8), .rd (.idx 1 (.t 6) (.t 7)), none, [0, 1], false⟩,
  ⟨(some 9), .rd (.load 1 false (.t 8)), none, [2, 0, 1], false⟩,
  ⟨(some 10), .rd (.load 1 false (.t 2)), none, [], false⟩,
  ⟨(some 11), .rd (.bin .neq .other (.t 9) (.t 10)), none, [3, 4, 2, 0, 1], false⟩,
  ⟨(some 12), .rd (.mov (.t 11)), none, [5, 3, 4, 2, 0, 1], false⟩,
  ⟨(some 13), .rd (.load 1 false (.t 3)), (some (12, true)), [6, 5, 3, 4, 2, 0, 1], false⟩,
  ⟨(some 14), .rd (.load 1 false (.t 1)), (some (12, true)), [6, 5, 3, 4, 2, 0, 1], false⟩,
  ⟨(some 15), .rd (.mov (.t 0)), (some (12, true)), [6, 5, 3, 4, 2, 0, 1], false⟩,
  ⟨(some 16), .rd (.idx 1 (.t 14) (.t 15)), (some (12, true)), [8, 9, 6, 5, 3, 4, 2, 0, 1], false⟩,
  ⟨(some 17), .rd (.load 1 false (.t 16)), (some (12, true)), [10, 6, 8, 9, 5, 3, 4, 2, 0, 1], false⟩,
  ⟨(some 18), .rd (.idx 1 (.t 13) (.t 17)), (some (12, true)), [7, 11, 6, 5, 3, 4, 2, 0, 1, 10, 8, 9], false⟩,
  ⟨(some 19), .rd (.load 1 false (.t 18)), (some (12, true)), [12, 6, 7, 11, 5, 3, 4, 2, 0, 1, 10, 8, 9], false⟩,
  ⟨(some 20), .rd (.bin .lss .other (.t 19) (.c (.int .i64 0))), (some (12, true)), [13, 6, 12, 7, 11, 5, 3, 4, 2, 0, 1, 10, 8, 9], false⟩,
  ⟨(some 21), .rd (.pick (.t 12) (.t 20) (.c (.bool false))), none, [6, 14, 5, 3, 4, 2, 0, 1, 13, 12, 7, 11, 10, 8, 9], false⟩,
  ⟨(some 5), .rd (.mov (.t 21)), none, [15, 6, 0, 1, 2, 3, 4, 5, 7, 8, 9, 10, 11, 12, 13, 14], false⟩]
def comps_Comps_f1_f1_f1_1 : XCode := .seq comps_Comps_f1_f1_f1_0 .ret
def comps_Comps_f1_f1_f1_2 : XCode := .seq (.region [⟨(some 5), .rd (.mov (.c (.bool false))), none, [], false⟩]) comps_Comps_f1_f1_f1_1
def comps_Comps_f1_f1_f1 : XFun := ⟨4, comps_Comps_f1_f1_f1_2, [.tmp 5]⟩
theorem comps_Comps_f1_f1_f1_ok : FunOk Try.prog comps_Comps_f1_f1_f1_id comps_Comps_f1_f1_f1 := compFun_ok rfl E_ok (by kernel_rfl)

/-! ## 56 slices.IndexFunc[[]antecedent/api.Literal,antecedent/api.Literal] -/
def slices_IndexFunc_api_Literal_0 : XCode := .cond (.t 9) .skip (.exit 0)
def slices_IndexFunc_api_Literal_1 : XCode := .region [⟨(some 11), .rd (.mov (.t 1)), none, [], false⟩,
  ⟨(some 12), .rd (.mov (.t 0)), none, [], false⟩,
  ⟨(some 13), .rd (.mov (.t 5)), none, [], false⟩,
  ⟨(some 14), .rd (.idx 17 (.t 12) (.t 13)), none, [], false⟩,
  ⟨(some 15), .rd (.load 17 true (.t 14)), none, [], false⟩,
  ⟨(some 16), .callv (.t 11) [.t 15], none, [], false⟩]
def slices_IndexFunc_api_Literal_2 : XCode := .seq (.region [⟨(some 17), .rd (.mov (.t 5)), none, [], false⟩,
  ⟨(some 4), .rd (.mov (.t 17)), none, [], false⟩]) .ret
def slices_IndexFunc_api_Literal_3 : XCode := .cond (.t 16) slices_IndexFunc_api_Literal_2 .skip
def slices_IndexFunc_api_Literal_4 : XCode := .seq slices_IndexFunc_api_Literal_1 (.keep [0, 1, 5, 7, 8, 16] slices_IndexFunc_api_Literal_3)
def slices_IndexFunc_api_Literal_5 : XCode := .seq (.region [⟨(some 10), .rd (.mov (.t 8)), none, [], false⟩,
  ⟨(some 5), .rd (.mov (.t 10)), none, [], false⟩]) slices_IndexFunc_api_Literal_4
def slices_IndexFunc_api_Literal_6 : XCode := .region [⟨(some 18), .rd (.bin .add .other (.t 8) (.c (.int .i64 1))), none, [], false⟩,
  ⟨(some 8), .rd (.mov (.t 18)), none, [], false⟩]
def slices_IndexFunc_api_Literal_7 : XCode := .seq (.block 1 slices_IndexFunc_api_Literal_5) (.keep [0, 1, 7, 8] slices_IndexFunc_api_Literal_6)
def slices_IndexFunc_api_Literal_8 : XCode := .seq slices_IndexFunc_api_Literal_0 (.keep [0, 1, 7, 8] slices_IndexFunc_api_Literal_7)
def slices_IndexFunc_api_Literal_9 : XCode := .seq (.region [⟨(some 9), .rd (.bin .lss .other (.t 8) (.t 7)), none, [], false⟩]) slices_IndexFunc_api_Literal_8
def slices_IndexFunc_api_Literal_10 : XCode := .seq (.region [⟨(some 6), .rd (.mov (.t 0)), none, [], false⟩,
  ⟨(some 7), .rd (.lenL (.t 6)), none, [], false⟩,
  ⟨(some 8), .rd (.mov (.c (.int .i64 0))), none, [], false⟩]) (.block 0 (.loop [0, 1, 7, 8] slices_IndexFunc_api_Literal_9))
def slices_IndexFunc_api_Literal_11 : XCode := .seq (.region [⟨(some 4), .rd (.mov (.c (.int .i64 (-1)))), none, [], false⟩]) .ret
def slices_IndexFunc_api_Literal_12 : XCode := .seq slices_IndexFunc_api_Literal_10 (.keep [] slices_IndexFunc_api_Literal_11)
def slices_IndexFunc_api_Literal_13 : XCode := .seq (.region [⟨(some 4), .rd (.mov (.c (.int .i64 0))), none, [], false⟩]) slices_IndexFunc_api_Literal_12
def slices_IndexFunc_api_Literal : XFun := ⟨2, slices_IndexFunc_api_Literal_13, [.tmp 4]⟩
theorem slices_IndexFunc_api_Literal_ok : FunOk Try.prog slices_IndexFunc_api_Literal_id slices_IndexFunc_api_Literal := compFun_ok rfl E_ok (by kernel_rfl)

/-! ## 57 slices.Sort[[]string,string] -/
def slices_Sort_string_0 : XCode := .region [⟨(some 5), .rd (.mov (.t 0)), none, [], false⟩,
  ⟨(some 6), .rd (.mov (.t 2)), none, [], false⟩,
  ⟨(some 7), .rd (.mov (.t 2)), none, [], false⟩,
  ⟨(some 8), .rd (.conv .u64 (.t 7)), none, [], false⟩,
  ⟨(some 9), .call math_bits_Len_id [.t 8], none, [], false⟩,
  ⟨(some 10), .call slices_pdqsortOrdered_string_id [.t 5, .c (.int .i64 0), .t 6, .t 9], none, [], false⟩]
def slices_Sort_string_1 : XCode := .seq (.region [⟨(some 3), .rd (.mov (.t 0)), none, [], false⟩,
  ⟨(some 4), .rd (.lenL (.t 3)), none, [], false⟩,
  ⟨(some 2), .rd (.mov (.t 4)), none, [], false⟩]) slices_Sort_string_0
def slices_Sort_string : XFun := ⟨1, slices_Sort_string_1, []⟩
theorem slices_Sort_string_ok : FunOk Try.prog slices_Sort_string_id slices_Sort_string := compFun_ok rfl E_ok (by kernel_rfl)

/-! ## 58 slices.Compact[[]string,string] -/
def slices_Compact_string_0 : XCode := .seq (.region [⟨(some 9), .rd (.mov (.t 0)), none, [], false⟩,
  ⟨(some 2), .rd (.mov (.t 9)), none, [], false⟩]) .ret
def slices_Compact_string_1 : XCode := .cond (.t 8) slices_Compact_string_0 .skip
def slices_Compact_string_2 : XCode := .seq (.region [⟨(some 6), .rd (.mov (.t 0)), none, [], false⟩,
  ⟨(some 7), .rd (.lenL (.t 6)), none, [], false⟩,
  ⟨(some 8), .rd (.bin .lss .other (.t 7) (.c (.int .i64 2))), none, [], false⟩]) slices_Compact_string_1
def slices_Compact_string_3 : XCode := .region [⟨(some 10), .rd (.mov (.t 3)), none, [], false⟩,
  ⟨(some 11), .rd (.mov (.t 0)), none, [], false⟩,
  ⟨(some 12), .rd (.lenL (.t 11)), none, [], false⟩,
  ⟨(some 13), .rd (.bin .lss .other (.t 10) (.t 12)), none, [], false⟩]
def slices_Compact_string_4 : XCode := .cond (.t 13) .skip (.exit 0)
def slices_Compact_string_5 : XCode := .seq slices_Compact_string_3 (.keep [0, 3, 13] slices_Compact_string_4)
def slices_Compact_string_6 : XCode := .draw [⟨(some 16), .rd (.mov (.t 0)), none, [], false⟩,
  ⟨(some 17), .rd (.mov (.t 3)), none, [], false⟩,
  ⟨(some 18), .rd (.idx 1 (.t 16) (.t 17)), none, [0, 1], false⟩,
  ⟨(some 19), .rd (.load 1 false (.t 18)), none, [2, 0, 1], false⟩,
  ⟨(some 20), .rd (.mov (.t 0)), none, [], false⟩,
  ⟨(some 21), .rd (.mov (.t 3)), none, [], false⟩,
  ⟨(some 22), .rd (.bin .sub .other (.t 21) (.c (.int .i64 1))), none, [5], false⟩,
  ⟨(some 23), .rd (.idx 1 (.t 20) (.t 22)), none, [4, 6, 5], false⟩,
  ⟨(some 24), .rd (.load 1 false (.t 23)), none, [7, 4, 6, 5], false⟩,
  ⟨(some 25), .rd (.bin .eql .other (.t 19) (.t 24)), none, [3, 8, 2, 0, 1, 7, 4, 6, 5], false⟩]
def slices_Compact_string_7 : XCode := .region [⟨(some 26), .rd (.mov (.t 0)), none, [], false⟩,
  ⟨(some 27), .rd (.mov (.t 3)), none, [], false⟩,
  ⟨(some 28), .rd (.slice 1 (.t 26) (some (.t 27)) none none), none, [], false⟩,
  ⟨(some 4), .rd (.mov (.t 28)), none, [], false⟩]
def slices_Compact_string_8 : XCode := .region [⟨(some 29), .rd (.mov (.t 5)), none, [], false⟩,
  ⟨(some 30), .rd (.mov (.t 4)), none, [], false⟩,
  ⟨(some 31), .rd (.lenL (.t 30)), none, [], false⟩,
  ⟨(some 32), .rd (.bin .lss .other (.t 29) (.t 31)), none, [], false⟩]
def slices_Compact_string_9 : XCode := .cond (.t 32) .skip (.exit 2)
def slices_Compact_string_10 : XCode := .seq slices_Compact_string_8 (.keep [0, 3, 4, 5, 32] slices_Compact_string_9)
def slices_Compact_string_11 : XCode := .draw [⟨(some 35), .rd (.mov (.t 4)), none, [], false⟩,
  ⟨(some 36), .rd (.mov (.t 5)), none, [], false⟩,
  ⟨(some 37), .rd (.idx 1 (.t 35) (.t 36)), none, [0, 1], false⟩,
  ⟨(some 38), .rd (.load 1 false (.t 37)), none, [2, 0, 1], false⟩,
  ⟨(some 39), .rd (.mov (.t 4)), none, [], false⟩,
  ⟨(some 40), .rd (.mov (.t 5)), none, [], false⟩,
  ⟨(some 41), .rd (.bin .sub .other (.t 40) (.c (.int .i64 1))), none, [5], false⟩,
  ⟨(some 42), .rd (.idx 1 (.t 39) (.t 41)), none, [4, 6, 5], false⟩,
  ⟨(some 43), .rd (.load 1 false (.t 42)), none, [7, 4, 6, 5], false⟩,
  ⟨(some 44), .rd (.bin .neq .other (.t 38) (.t 43)), none, [3, 8, 2, 0, 1, 7, 4, 6, 5], false⟩]
def slices_Compact_string_12 : XCode := .region [⟨(some 45), .rd (.mov (.t 0)), none, [], false⟩,
  ⟨(some 46), .rd (.mov (.t 3)), none, [], false⟩,
  ⟨(some 47), .rd (.mov (.t 4)), none, [], false⟩,
  ⟨(some 48), .rd (.mov (.t 5)), none, [], false⟩,
  ⟨(some 49), .rd (.idx 1 (.t 47) (.t 48)), none, [], false⟩,
  ⟨(some 50), .rd (.load 1 false (.t 49)), none, [], false⟩,
  ⟨(some 51), .rd (.idx 1 (.t 45) (.t 46)), none, [], false⟩,
  ⟨none, .ef (.store 1 (.t 51) (.t 50)), none, [], false⟩]
def slices_Compact_string_13 : XCode := .region [⟨(some 52), .rd (.mov (.t 3)), none, [], false⟩,
  ⟨(some 53), .rd (.bin .add .other (.t 52) (.c (.int .i64 1))), none, [], false⟩,
  ⟨(some 3), .rd (.mov (.t 53)), none, [], false⟩]
def slices_Compact_string_14 : XCode := .seq slices_Compact_string_12 (.keep [0, 3, 4, 5] slices_Compact_string_13)
def slices_Compact_string_15 : XCode := .cond (.t 44) slices_Compact_string_14 .skip
def slices_Compact_string_16 : XCode := .seq slices_Compact_string_11 (.keep [0, 3, 4, 5, 44] slices_Compact_string_15)
def slices_Compact_string_17 : XCode := .region [⟨(some 33), .rd (.mov (.t 5)), none, [], false⟩,
  ⟨(some 34), .rd (.bin .add .other (.t 33) (.c (.int .i64 1))), none, [], false⟩,
  ⟨(some 5), .rd (.mov (.t 34)), none, [], false⟩]
def slices_Compact_string_18 : XCode := .seq (.block 3 slices_Compact_string_16) (.keep [0, 3, 4, 5] slices_Compact_string_17)
def slices_Compact_string_19 : XCode := .seq slices_Compact_string_10 (.keep [0, 3, 4, 5] slices_Compact_string_18)
def slices_Compact_string_20 : XCode := .seq (.region [⟨(some 5), .rd (.mov (.c (.int .i64 1))), none, [], false⟩]) (.block 2 (.loop [0, 3, 4, 5] slices_Compact_string_19))
def slices_Compact_string_21 : XCode := .region [⟨(some 54), .rd (.mov (.t 0)), none, [], false⟩,
  ⟨(some 55), .rd (.mov (.t 3)), none, [], false⟩,
  ⟨(some 56), .rd (.slice 1 (.t 54) (some (.t 55)) none none), none, [], false⟩,
  ⟨none, .ef (.clear 1 [.str []] (.t 56)), none, [], false⟩]
def slices_Compact_string_22 : XCode := .region [⟨(some 57), .rd (.mov (.t 0)), none, [], false⟩,
  ⟨(some 58), .rd (.mov (.t 3)), none, [], false⟩,
  ⟨(some 59), .rd (.slice 1 (.t 57) none (some (.t 58)) none), none, [], false⟩,
  ⟨(some 2), .rd (.mov (.t 59)), none, [], false⟩]
def slices_Compact_string_23 : XCode := .seq slices_Compact_string_22 .ret
def slices_Compact_string_24 : XCode := .seq slices_Compact_string_21 (.keep [0, 3] slices_Compact_string_23)
def slices_Compact_string_25 : XCode := .seq slices_Compact_string_20 (.keep [0, 3] slices_Compact_string_24)
def slices_Compact_string_26 : XCode := .seq slices_Compact_string_7 (.keep [0, 3, 4] slices_Compact_string_25)
def slices_Compact_string_27 : XCode := .cond (.t 25) slices_Compact_string_26 .skip
def slices_Compact_string_28 : XCode := .seq slices_Compact_string_6 (.keep [0, 3, 25] slices_Compact_string_27)
def slices_Compact_string_29 : XCode := .region [⟨(some 14), .rd (.mov (.t 3)), none, [], false⟩,
  ⟨(some 15), .rd (.bin .add .other (.t 14) (.c (.int .i64 1))), none, [], false⟩,
  ⟨(some 3), .rd (.mov (.t 15)), none, [], false⟩]
def slices_Compact_string_30 : XCode := .seq (.block 1 slices_Compact_string_28) (.keep [0, 3] slices_Compact_string_29)
def slices_Compact_string_31 : XCode := .seq slices_Compact_string_5 (.keep [0, 3] slices_Compact_string_30)
def slices_Compact_string_32 : XCode := .seq (.region [⟨(some 3), .rd (.mov (.c (.int .i64 1))), none, [], false⟩]) (.block 0 (.loop [0, 3] slices_Compact_string_31))
def slices_Compact_string_33 : XCode := .seq (.region [⟨(some 60), .rd (.mov (.t 0)), none, [], false⟩,
  ⟨(some 2), .rd (.mov (.t 60)), none, [], false⟩]) .ret
def slices_Compact_string_34 : XCode := .seq slices_Compact_string_32 (.keep [0] slices_Compact_string_33)
def slices_Compact_string_35 : XCode := .seq slices_Compact_string_2 (.keep [0] slices_Compact_string_34)
def slices_Compact_string_36 : XCode := .seq (.region [⟨(some 2), .rd (.mov (.c (.nilslice))), none, [], false⟩]) slices_Compact_string_35
def slices_Compact_string : XFun := ⟨1, slices_Compact_string_36, [.tmp 2]⟩
theorem slices_Compact_string_ok : FunOk Try.prog slices_Compact_string_id slices_Compact_string := compFun_ok rfl E_ok (by kernel_rfl)

/-! ## 59 cmp.Less[string] -/
def cmp_Less_string_0 : XCode := .region [⟨(some 5), .rd (.mov (.t 0)), none, [], false⟩,
  ⟨(some 6), .call cmp_isNaN_string_id [.t 5], none, [], false⟩,
  ⟨(some 7), .rd (.mov (.t 6)), none, [], false⟩,
  ⟨(some 8), .rd (.mov (.t 1)), (some (7, true)), [], false⟩,
  ⟨(some 9), .call cmp_isNaN_string_id [.t 8], (some (7, true)), [], false⟩,
  ⟨(some 10), .rd (.un .not (.t 9)), (some (7, true)), [], false⟩,
  ⟨(some 11), .rd (.pick (.t 7) (.t 10) (.c (.bool false))), none, [], false⟩,
  ⟨(some 12), .rd (.mov (.t 11)), none, [], false⟩,
  ⟨(some 13), .rd (.mov (.t 0)), (some (12, false)), [], false⟩,
  ⟨(some 14), .rd (.mov (.t 1)), (some (12, false)), [], false⟩,
  ⟨(some 15), .rd (.bin .lss .other (.t 13) (.t 14)), (some (12, false)), [], false⟩,
  ⟨(some 16), .rd (.pick (.t 12) (.c (.bool true)) (.t 15)), none, [], false⟩,
  ⟨(some 4), .rd (.mov (.t 16)), none, [], false⟩]
def cmp_Less_string_1 : XCode := .seq cmp_Less_string_0 .ret
def cmp_Less_string_2 : XCode := .seq (.region [⟨(some 4), .rd (.mov (.c (.bool false))), none, [], false⟩]) cmp_Less_string_1
def cmp_Less_string : XFun := ⟨2, cmp_Less_string_2, [.tmp 4]⟩
theorem cmp_Less_string_ok : FunOk Try.prog cmp_Less_string_id cmp_Less_string := compFun_ok rfl E_ok (by kernel_rfl)

/-! ## 60 slices.isNaN[string] -/
def slices_isNaN_string_0 : XCode := .region [⟨(some 3), .rd (.mov (.t 0)), none, [], false⟩,
  ⟨(some 4), .rd (.mov (.t 0)), none, [], false⟩,
  ⟨(some 5), .rd (.bin .neq .other (.t 3) (.t 4)), none, [], false⟩,
  ⟨(some 2), .rd (.mov (.t 5)), none, [], false⟩]
def slices_isNaN_string_1 : XCode := .seq slices_isNaN_string_0 .ret
def slices_isNaN_string_2 : XCode := .seq (.region [⟨(some 2), .rd (.mov (.c (.bool false))), none, [], false⟩]) slices_isNaN_string_1
def slices_isNaN_string : XFun := ⟨1, slices_isNaN_string_2, [.tmp 2]⟩
theorem slices_isNaN_string_ok : FunOk Try.prog slices_isNaN_string_id slices_isNaN_string := compFun_ok rfl E_ok (by kernel_rfl)

/-! ## 61 slices.pdqsortCmpFunc[[2]int] -/
def slices_pdqsortCmpFunc_ar2_int_0 : XCode := .region [⟨(some 21), .rd (.mov (.t 2)), none, [], false⟩,
  ⟨(some 22), .rd (.mov (.t 1)), none, [], false⟩,
  ⟨(some 23), .rd (.bin .sub .other (.t 21) (.t 22)), none, [], false⟩,
  ⟨(some 12), .rd (.mov (.t 23)), none, [], false⟩]
def slices_pdqsortCmpFunc_ar2_int_1 : XCode := .region [⟨(some 26), .rd (.mov (.t 0)), none, [], false⟩,
  ⟨(some 27), .rd (.mov (.t 1)), none, [], false⟩,
  ⟨(some 28), .rd (.mov (.t 2)), none, [], false⟩,
  ⟨(some 29), .rd (.mov (.t 4)), none, [], false⟩,
  ⟨(some 30), .call slices_insertionSortCmpFunc_ar2_int_id [.t 26, .t 27, .t 28, .t 29], none, [], false⟩]
def slices_pdqsortCmpFunc_ar2_int_2 : XCode := .seq slices_pdqsortCmpFunc_ar2_int_1 .ret
def slices_pdqsortCmpFunc_ar2_int_3 : XCode := .cond (.t 25) slices_pdqsortCmpFunc_ar2_int_2 .skip
def slices_pdqsortCmpFunc_ar2_int_4 : XCode := .seq (.region [⟨(some 24), .rd (.mov (.t 12)), none, [], false⟩,
  ⟨(some 25), .rd (.bin .leq .other (.t 24) (.c (.int .i64 12))), none, [], false⟩]) slices_pdqsortCmpFunc_ar2_int_3
def slices_pdqsortCmpFunc_ar2_int_5 : XCode := .region [⟨(some 33), .rd (.mov (.t 0)), none, [], false⟩,
  ⟨(some 34), .rd (.mov (.t 1)), none, [], false⟩,
  ⟨(some 35), .rd (.mov (.t 2)), none, [], false⟩,
  ⟨(some 36), .rd (.mov (.t 4)), none, [], false⟩,
  ⟨(some 37), .call slices_heapSortCmpFunc_ar2_int_id [.t 33, .t 34, .t 35, .t 36], none, [], false⟩]
def slices_pdqsortCmpFunc_ar2_int_6 : XCode := .seq slices_pdqsortCmpFunc_ar2_int_5 .ret
def slices_pdqsortCmpFunc_ar2_int_7 : XCode := .cond (.t 32) slices_pdqsortCmpFunc_ar2_int_6 .skip
def slices_pdqsortCmpFunc_ar2_int_8 : XCode := .seq (.region [⟨(some 31), .rd (.mov (.t 3)), none, [], false⟩,
  ⟨(some 32), .rd (.bin .eql .other (.t 31) (.c (.int .i64 0))), none, [], false⟩]) slices_pdqsortCmpFunc_ar2_int_7
def slices_pdqsortCmpFunc_ar2_int_9 : XCode := .region [⟨(some 40), .rd (.mov (.t 0)), none, [], false⟩,
  ⟨(some 41), .rd (.mov (.t 1)), none, [], false⟩,
  ⟨(some 42), .rd (.mov (.t 2)), none, [], false⟩,
  ⟨(some 43), .rd (.mov (.t 4)), none, [], false⟩,
  ⟨(some 44), .call slices_breakPatternsCmpFunc_ar2_int_id [.t 40, .t 41, .t 42, .t 43], none, [], false⟩]
def slices_pdqsortCmpFunc_ar2_int_10 : XCode := .region [⟨(some 45), .rd (.mov (.t 3)), none, [], false⟩,
  ⟨(some 46), .rd (.bin .sub .other (.t 45) (.c (.int .i64 1))), none, [], false⟩,
  ⟨(some 3), .rd (.mov (.t 46)), none, [], false⟩]
def slices_pdqsortCmpFunc_ar2_int_11 : XCode := .seq slices_pdqsortCmpFunc_ar2_int_9 (.keep [0, 1, 2, 3, 4, 10, 11, 12] slices_pdqsortCmpFunc_ar2_int_10)
def slices_pdqsortCmpFunc_ar2_int_12 : XCode := .cond (.t 39) slices_pdqsortCmpFunc_ar2_int_11 .skip
def slices_pdqsortCmpFunc_ar2_int_13 : XCode := .seq (.region [⟨(some 38), .rd (.mov (.t 10)), none, [], false⟩,
  ⟨(some 39), .rd (.un .not (.t 38)), none, [], false⟩]) slices_pdqsortCmpFunc_ar2_int_12
def slices_pdqsortCmpFunc_ar2_int_14 : XCode := .region [⟨(some 48), .rd (.mov (.t 0)), none, [], false⟩,
  ⟨(some 49), .rd (.mov (.t 1)), none, [], false⟩,
  ⟨(some 50), .rd (.mov (.t 2)), none, [], false⟩,
  ⟨(some 51), .rd (.mov (.t 4)), none, [], false⟩,
  ⟨(some 52), .call slices_choosePivotCmpFunc_ar2_int_id [.t 48, .t 49, .t 50, .t 51], none, [], false⟩,
  ⟨(some 47), .rd (.mov (.t 52)), none, [], false⟩,
  ⟨(some 53), .rd (.extract 0 (.t 47)), none, [], false⟩,
  ⟨(some 54), .rd (.extract 1 (.t 47)), none, [], false⟩,
  ⟨(some 13), .rd (.mov (.t 53)), none, [], false⟩,
  ⟨(some 14), .rd (.mov (.t 54)), none, [], false⟩]
def slices_pdqsortCmpFunc_ar2_int_15 : XCode := .region [⟨(some 57), .rd (.mov (.t 0)), none, [], false⟩,
  ⟨(some 58), .rd (.mov (.t 1)), none, [], false⟩,
  ⟨(some 59), .rd (.mov (.t 2)), none, [], false⟩,
  ⟨(some 60), .rd (.mov (.t 4)), none, [], false⟩,
  ⟨(some 61), .call slices_reverseRangeCmpFunc_ar2_int_id [.t 57, .t 58, .t 59, .t 60], none, [], false⟩]
def slices_pdqsortCmpFunc_ar2_int_16 : XCode := .region [⟨(some 62), .rd (.mov (.t 2)), none, [], false⟩,
  ⟨(some 63), .rd (.bin .sub .other (.t 62) (.c (.int .i64 1))), none, [], false⟩,
  ⟨(some 64), .rd (.mov (.t 13)), none, [], false⟩,
  ⟨(some 65), .rd (.mov (.t 1)), none, [], false⟩,
  ⟨(some 66), .rd (.bin .sub .other (.t 64) (.t 65)), none, [], false⟩,
  ⟨(some 67), .rd (.bin .sub .other (.t 63) (.t 66)), none, [], false⟩,
  ⟨(some 13), .rd (.mov (.t 67)), none, [], false⟩]
def slices_pdqsortCmpFunc_ar2_int_17 : XCode := .region [⟨(some 14), .rd (.mov (.c (.int .i64 1))), none, [], false⟩]
def slices_pdqsortCmpFunc_ar2_int_18 : XCode := .seq slices_pdqsortCmpFunc_ar2_int_16 (.keep [0, 1, 2, 3, 4, 10, 11, 12, 13] slices_pdqsortCmpFunc_ar2_int_17)
def slices_pdqsortCmpFunc_ar2_int_19 : XCode := .seq slices_pdqsortCmpFunc_ar2_int_15 (.keep [0, 1, 2, 3, 4, 10, 11, 12, 13] slices_pdqsortCmpFunc_ar2_int_18)
def slices_pdqsortCmpFunc_ar2_int_20 : XCode := .cond (.t 56) slices_pdqsortCmpFunc_ar2_int_19 .skip
def slices_pdqsortCmpFunc_ar2_int_21 : XCode := .seq (.region [⟨(some 55), .rd (.mov (.t 14)), none, [], false⟩,
  ⟨(some 56), .rd (.bin .eql .other (.t 55) (.c (.int .i64 2))), none, [], false⟩]) slices_pdqsortCmpFunc_ar2_int_20
def slices_pdqsortCmpFunc_ar2_int_22 : XCode := .region [⟨(some 68), .rd (.mov (.t 10)), none, [], false⟩,
  ⟨(some 69), .rd (.mov (.t 68)), none, [], false⟩,
  ⟨(some 70), .rd (.mov (.t 11)), (some (69, true)), [], false⟩,
  ⟨(some 71), .rd (.pick (.t 69) (.t 70) (.c (.bool false))), none, [], false⟩,
  ⟨(some 72), .rd (.mov (.t 71)), none, [], false⟩,
  ⟨(some 73), .rd (.mov (.t 14)), (some (72, true)), [], false⟩,
  ⟨(some 74), .rd (.bin .eql .other (.t 73) (.c (.int .i64 1))), (some (72, true)), [], false⟩,
  ⟨(some 75), .rd (.pick (.t 72) (.t 74) (.c (.bool false))), none, [], false⟩]
def slices_pdqsortCmpFunc_ar2_int_23 : XCode := .region [⟨(some 76), .rd (.mov (.t 0)), none, [], false⟩,
  ⟨(some 77), .rd (.mov (.t 1)), none, [], false⟩,
  ⟨(some 78), .rd (.mov (.t 2)), none, [], false⟩,
  ⟨(some 79), .rd (.mov (.t 4)), none, [], false⟩,
  ⟨(some 80), .call slices_partialInsertionSortCmpFunc_ar2_int_id [.t 76, .t 77, .t 78, .t 79], none, [], false⟩]
def slices_pdqsortCmpFunc_ar2_int_24 : XCode := .cond (.t 80) .ret .skip
def slices_pdqsortCmpFunc_ar2_int_25 : XCode := .seq slices_pdqsortCmpFunc_ar2_int_23 (.keep [0, 1, 2, 3, 4, 10, 11, 12, 13, 80] slices_pdqsortCmpFunc_ar2_int_24)
def slices_pdqsortCmpFunc_ar2_int_26 : XCode := .cond (.t 75) slices_pdqsortCmpFunc_ar2_int_25 .skip
def slices_pdqsortCmpFunc_ar2_int_27 : XCode := .seq slices_pdqsortCmpFunc_ar2_int_22 (.keep [0, 1, 2, 3, 4, 10, 11, 12, 13, 75] slices_pdqsortCmpFunc_ar2_int_26)
def slices_pdqsortCmpFunc_ar2_int_28 : XCode := .draw [⟨(some 81), .rd (.mov (.t 1)), none, [], false⟩,
  ⟨(some 82), .rd (.bin .gtr .other (.t 81) (.c (.int .i64 0))), none, [0], false⟩,
  ⟨(some 83), .rd (.mov (.t 82)), none, [1, 0], false⟩,
  ⟨(some 84), .rd (.mov (.t 4)), (some (83, true)), [2, 1, 0], false⟩,
  ⟨(some 85), .rd (.mov (.t 0)), (some (83, true)), [2, 1, 0], false⟩,
  ⟨(some 86), .rd (.mov (.t 1)), (some (83, true)), [2, 1, 0], false⟩,
  ⟨(some 87), .rd (.bin .sub .other (.t 86) (.c (.int .i64 1))), (some (83, true)), [5, 2, 1, 0], false⟩,
  ⟨(some 88), .rd (.idx 2 (.t 85) (.t 87)), (some (83, true)), [4, 6, 2, 1, 0, 5], false⟩,
  ⟨(some 89), .rd (.load 2 true (.t 88)), (some (83, true)), [7, 2, 4, 6, 1, 0, 5], false⟩,
  ⟨(some 90), .rd (.mov (.t 0)), (some (83, true)), [2, 1, 0], false⟩,
  ⟨(some 91), .rd (.mov (.t 13)), (some (83, true)), [2, 1, 0], false⟩,
  ⟨(some 92), .rd (.idx 2 (.t 90) (.t 91)), (some (83, true)), [9, 10, 2, 1, 0], false⟩,
  ⟨(some 93), .rd (.load 2 true (.t 92)), (some (83, true)), [11, 2, 9, 10, 1, 0], false⟩,
  ⟨(some 94), .callv (.t 84) [.t 89, .t 93], (some (83, true)), [3, 8, 12, 2, 1, 0, 7, 4, 6, 5, 11, 9, 10], false⟩,
  ⟨(some 95), .rd (.bin .lss .other (.t 94) (.c (.int .i64 0))), (some (83, true)), [13, 2, 3, 8, 12, 1, 0, 7, 4, 6, 5, 11, 9, 10], false⟩,
  ⟨(some 96), .rd (.un .not (.t 95)), (some (83, true)), [14, 2, 13, 3, 8, 12, 1, 0, 7, 4, 6, 5, 11, 9, 10], false⟩,
  ⟨(some 97), .rd (.pick (.t 83) (.t 96) (.c (.bool false))), none, [2, 15, 1, 0, 14, 13, 3, 8, 12, 7, 4, 6, 5, 11, 9, 10], false⟩]
def slices_pdqsortCmpFunc_ar2_int_29 : XCode := .region [⟨(some 98), .rd (.mov (.t 0)), none, [], false⟩,
  ⟨(some 99), .rd (.mov (.t 1)), none, [], false⟩,
  ⟨(some 100), .rd (.mov (.t 2)), none, [], false⟩,
  ⟨(some 101), .rd (.mov (.t 13)), none, [], false⟩,
  ⟨(some 102), .rd (.mov (.t 4)), none, [], false⟩,
  ⟨(some 103), .call slices_partitionEqualCmpFunc_ar2_int_id [.t 98, .t 99, .t 100, .t 101, .t 102], none, [], false⟩,
  ⟨(some 15), .rd (.mov (.t 103)), none, [], false⟩]
def slices_pdqsortCmpFunc_ar2_int_30 : XCode := .seq (.region [⟨(some 104), .rd (.mov (.t 15)), none, [], false⟩,
  ⟨(some 1), .rd (.mov (.t 104)), none, [], false⟩]) (.exit 1)
def slices_pdqsortCmpFunc_ar2_int_31 : XCode := .seq slices_pdqsortCmpFunc_ar2_int_29 (.keep [0, 2, 3, 4, 10, 11, 15] slices_pdqsortCmpFunc_ar2_int_30)
def slices_pdqsortCmpFunc_ar2_int_32 : XCode := .cond (.t 97) slices_pdqsortCmpFunc_ar2_int_31 .skip
def slices_pdqsortCmpFunc_ar2_int_33 : XCode := .seq slices_pdqsortCmpFunc_ar2_int_28 (.keep [0, 1, 2, 3, 4, 10, 11, 12, 13, 97] slices_pdqsortCmpFunc_ar2_int_32)
def slices_pdqsortCmpFunc_ar2_int_34 : XCode := .region [⟨(some 106), .rd (.mov (.t 0)), none, [], false⟩,
  ⟨(some 107), .rd (.mov (.t 1)), none, [], false⟩,
  ⟨(some 108), .rd (.mov (.t 2)), none, [], false⟩,
  ⟨(some 109), .rd (.mov (.t 13)), none, [], false⟩,
  ⟨(some 110), .rd (.mov (.t 4)), none, [], false⟩,
  ⟨(some 111), .call slices_partitionCmpFunc_ar2_int_id [.t 106, .t 107, .t 108, .t 109, .t 110], none, [], false⟩,
  ⟨(some 105), .rd (.mov (.t 111)), none, [], false⟩,
  ⟨(some 112), .rd (.extract 0 (.t 105)), none, [], false⟩,
  ⟨(some 113), .rd (.extract 1 (.t 105)), none, [], false⟩,
  ⟨(some 16), .rd (.mov (.t 112)), none, [], false⟩,
  ⟨(some 17), .rd (.mov (.t 113)), none, [], false⟩]
def slices_pdqsortCmpFunc_ar2_int_35 : XCode := .region [⟨(some 115), .rd (.mov (.t 16)), none, [], false⟩,
  ⟨(some 116), .rd (.mov (.t 1)), none, [], false⟩,
  ⟨(some 117), .rd (.bin .sub .other (.t 115) (.t 116)), none, [], false⟩,
  ⟨(some 118), .rd (.mov (.t 2)), none, [], false⟩,
  ⟨(some 119), .rd (.mov (.t 16)), none, [], false⟩,
  ⟨(some 120), .rd (.bin .sub .other (.t 118) (.t 119)), none, [], false⟩,
  ⟨(some 18), .rd (.mov (.t 117)), none, [], false⟩,
  ⟨(some 19), .rd (.mov (.t 120)), none, [], false⟩]
def slices_pdqsortCmpFunc_ar2_int_36 : XCode := .region [⟨(some 126), .rd (.mov (.t 18)), none, [], false⟩,
  ⟨(some 127), .rd (.mov (.t 20)), none, [], false⟩,
  ⟨(some 128), .rd (.bin .geq .other (.t 126) (.t 127)), none, [], false⟩,
  ⟨(some 10), .rd (.mov (.t 128)), none, [], false⟩]
def slices_pdqsortCmpFunc_ar2_int_37 : XCode := .region [⟨(some 129), .rd (.mov (.t 0)), none, [], false⟩,
  ⟨(some 130), .rd (.mov (.t 1)), none, [], false⟩,
  ⟨(some 131), .rd (.mov (.t 16)), none, [], false⟩,
  ⟨(some 132), .rd (.mov (.t 3)), none, [], false⟩,
  ⟨(some 133), .rd (.mov (.t 4)), none, [], false⟩,
  ⟨(some 134), .call slices_pdqsortCmpFunc_ar2_int_id [.t 129, .t 130, .t 131, .t 132, .t 133], none, [], false⟩]
def slices_pdqsortCmpFunc_ar2_int_38 : XCode := .region [⟨(some 135), .rd (.mov (.t 16)), none, [], false⟩,
  ⟨(some 136), .rd (.bin .add .other (.t 135) (.c (.int .i64 1))), none, [], false⟩,
  ⟨(some 1), .rd (.mov (.t 136)), none, [], false⟩]
def slices_pdqsortCmpFunc_ar2_int_39 : XCode := .seq slices_pdqsortCmpFunc_ar2_int_37 (.keep [0, 2, 3, 4, 10, 11, 16] slices_pdqsortCmpFunc_ar2_int_38)
def slices_pdqsortCmpFunc_ar2_int_40 : XCode := .seq slices_pdqsortCmpFunc_ar2_int_36 (.keep [0, 1, 2, 3, 4, 10, 11, 16] slices_pdqsortCmpFunc_ar2_int_39)
def slices_pdqsortCmpFunc_ar2_int_41 : XCode := .region [⟨(some 137), .rd (.mov (.t 19)), none, [], false⟩,
  ⟨(some 138), .rd (.mov (.t 20)), none, [], false⟩,
  ⟨(some 139), .rd (.bin .geq .other (.t 137) (.t 138)), none, [], false⟩,
  ⟨(some 10), .rd (.mov (.t 139)), none, [], false⟩]
def slices_pdqsortCmpFunc_ar2_int_42 : XCode := .region [⟨(some 140), .rd (.mov (.t 0)), none, [], false⟩,
  ⟨(some 141), .rd (.mov (.t 16)), none, [], false⟩,
  ⟨(some 142), .rd (.bin .add .other (.t 141) (.c (.int .i64 1))), none, [], false⟩,
  ⟨(some 143), .rd (.mov (.t 2)), none, [], false⟩,
  ⟨(some 144), .rd (.mov (.t 3)), none, [], false⟩,
  ⟨(some 145), .rd (.mov (.t 4)), none, [], false⟩,
  ⟨(some 146), .call slices_pdqsortCmpFunc_ar2_int_id [.t 140, .t 142, .t 143, .t 144, .t 145], none, [], false⟩]
def slices_pdqsortCmpFunc_ar2_int_43 : XCode := .region [⟨(some 147), .rd (.mov (.t 16)), none, [], false⟩,
  ⟨(some 2), .rd (.mov (.t 147)), none, [], false⟩]
def slices_pdqsortCmpFunc_ar2_int_44 : XCode := .seq slices_pdqsortCmpFunc_ar2_int_42 (.keep [0, 1, 3, 4, 10, 11, 16] slices_pdqsortCmpFunc_ar2_int_43)
def slices_pdqsortCmpFunc_ar2_int_45 : XCode := .seq slices_pdqsortCmpFunc_ar2_int_41 (.keep [0, 1, 2, 3, 4, 10, 11, 16] slices_pdqsortCmpFunc_ar2_int_44)
def slices_pdqsortCmpFunc_ar2_int_46 : XCode := .cond (.t 125) slices_pdqsortCmpFunc_ar2_int_40 slices_pdqsortCmpFunc_ar2_int_45
def slices_pdqsortCmpFunc_ar2_int_47 : XCode := .seq (.region [⟨(some 123), .rd (.mov (.t 18)), none, [], false⟩,
  ⟨(some 124), .rd (.mov (.t 19)), none, [], false⟩,
  ⟨(some 125), .rd (.bin .lss .other (.t 123) (.t 124)), none, [], false⟩]) slices_pdqsortCmpFunc_ar2_int_46
def slices_pdqsortCmpFunc_ar2_int_48 : XCode := .seq (.region [⟨(some 121), .rd (.mov (.t 12)), none, [], false⟩,
  ⟨(some 122), .rd (.bin .quo .other (.t 121) (.c (.int .i64 8))), none, [], false⟩,
  ⟨(some 20), .rd (.mov (.t 122)), none, [], false⟩]) slices_pdqsortCmpFunc_ar2_int_47
def slices_pdqsortCmpFunc_ar2_int_49 : XCode := .seq slices_pdqsortCmpFunc_ar2_int_35 (.keep [0, 1, 2, 3, 4, 11, 12, 16, 18, 19] slices_pdqsortCmpFunc_ar2_int_48)
def slices_pdqsortCmpFunc_ar2_int_50 : XCode := .seq (.region [⟨(some 114), .rd (.mov (.t 17)), none, [], false⟩,
  ⟨(some 11), .rd (.mov (.t 114)), none, [], false⟩]) slices_pdqsortCmpFunc_ar2_int_49
def slices_pdqsortCmpFunc_ar2_int_51 : XCode := .seq slices_pdqsortCmpFunc_ar2_int_34 (.keep [0, 1, 2, 3, 4, 12, 16, 17] slices_pdqsortCmpFunc_ar2_int_50)
def slices_pdqsortCmpFunc_ar2_int_52 : XCode := .seq slices_pdqsortCmpFunc_ar2_int_33 (.keep [0, 1, 2, 3, 4, 12, 13] slices_pdqsortCmpFunc_ar2_int_51)
def slices_pdqsortCmpFunc_ar2_int_53 : XCode := .seq slices_pdqsortCmpFunc_ar2_int_27 (.keep [0, 1, 2, 3, 4, 10, 11, 12, 13] slices_pdqsortCmpFunc_ar2_int_52)
def slices_pdqsortCmpFunc_ar2_int_54 : XCode := .seq slices_pdqsortCmpFunc_ar2_int_21 (.keep [0, 1, 2, 3, 4, 10, 11, 12, 13, 14] slices_pdqsortCmpFunc_ar2_int_53)
def slices_pdqsortCmpFunc_ar2_int_55 : XCode := .seq slices_pdqsortCmpFunc_ar2_int_14 (.keep [0, 1, 2, 3, 4, 10, 11, 12, 13, 14] slices_pdqsortCmpFunc_ar2_int_54)
def slices_pdqsortCmpFunc_ar2_int_56 : XCode := .seq slices_pdqsortCmpFunc_ar2_int_13 (.keep [0, 1, 2, 3, 4, 10, 11, 12] slices_pdqsortCmpFunc_ar2_int_55)
def slices_pdqsortCmpFunc_ar2_int_57 : XCode := .seq slices_pdqsortCmpFunc_ar2_int_8 (.keep [0, 1, 2, 3, 4, 10, 11, 12] slices_pdqsortCmpFunc_ar2_int_56)
def slices_pdqsortCmpFunc_ar2_int_58 : XCode := .seq slices_pdqsortCmpFunc_ar2_int_4 (.keep [0, 1, 2, 3, 4, 10, 11, 12] slices_pdqsortCmpFunc_ar2_int_57)
def slices_pdqsortCmpFunc_ar2_int_59 : XCode := .seq slices_pdqsortCmpFunc_ar2_int_0 (.keep [0, 1, 2, 3, 4, 10, 11, 12] slices_pdqsortCmpFunc_ar2_int_58)
def slices_pdqsortCmpFunc_ar2_int_60 : XCode := .seq (.region [⟨(some 11), .rd (.mov (.c (.bool true))), none, [], false⟩]) (.block 0 (.loop [0, 1, 2, 3, 4, 10, 11] (.block 1 slices_pdqsortCmpFunc_ar2_int_59)))
def slices_pdqsortCmpFunc_ar2_int_61 : XCode := .seq (.region [⟨(some 10), .rd (.mov (.c (.bool true))), none, [], false⟩]) slices_pdqsortCmpFunc_ar2_int_60
def slices_pdqsortCmpFunc_ar2_int : XFun := ⟨5, slices_pdqsortCmpFunc_ar2_int_61, []⟩
theorem slices_pdqsortCmpFunc_ar2_int_ok : FunOk Try.prog slices_pdqsortCmpFunc_ar2_int_id slices_pdqsortCmpFunc_ar2_int := compFun_ok rfl E_ok (by kernel_rfl)

/-! ## 62 math/bits.Len -/
def math_bits_Len_0 : XCode := .region [⟨(some 3), .rd (.mov (.t 0)), none, [], false⟩,
  ⟨(some 4), .rd (.conv .u32 (.t 3)), none, [], false⟩,
  ⟨(some 5), .call math_bits_Len32_id [.t 4], none, [], false⟩,
  ⟨(some 2), .rd (.mov (.t 5)), none, [], false⟩]
def math_bits_Len_1 : XCode := .seq math_bits_Len_0 .ret
def math_bits_Len_2 : XCode := .cond (.c (.bool false)) math_bits_Len_1 .skip
def math_bits_Len_3 : XCode := .seq (.region [⟨(some 6), .rd (.mov (.t 0)), none, [], false⟩,
  ⟨(some 7), .call math_bits_Len64_id [.t 6], none, [], false⟩,
  ⟨(some 2), .rd (.mov (.t 7)), none, [], false⟩]) .ret
def math_bits_Len_4 : XCode := .seq math_bits_Len_2 (.keep [0] math_bits_Len_3)
def math_bits_Len_5 : XCode := .seq (.region [⟨(some 2), .rd (.mov (.c (.int .i64 0))), none, [], false⟩]) math_bits_Len_4
def math_bits_Len : XFun := ⟨1, math_bits_Len_5, [.tmp 2]⟩
theorem math_bits_Len_ok : FunOk Try.prog math_bits_Len_id math_bits_Len := compFun_ok rfl E_ok (by kernel_rfl)

/-! ## 63 cmp.Compare[int] -/
def cmp_Compare_int_0 : XCode := .seq (.region [⟨(some 4), .rd (.mov (.c (.int .i64 0))), none, [], false⟩]) .ret
def cmp_Compare_int_1 : XCode := .cond (.t 12) cmp_Compare_int_0 .skip
def cmp_Compare_int_2 : XCode := .seq (.region [⟨(some 12), .rd (.mov (.t 6)), none, [], false⟩]) cmp_Compare_int_1
def cmp_Compare_int_3 : XCode := .seq (.region [⟨(some 4), .rd (.mov (.c (.int .i64 (-1)))), none, [], false⟩]) .ret
def cmp_Compare_int_4 : XCode := .seq cmp_Compare_int_2 (.keep [] cmp_Compare_int_3)
def cmp_Compare_int_5 : XCode := .cond (.t 11) cmp_Compare_int_4 .skip
def cmp_Compare_int_6 : XCode := .seq (.region [⟨(some 11), .rd (.mov (.t 5)), none, [], false⟩]) cmp_Compare_int_5
def cmp_Compare_int_7 : XCode := .seq (.region [⟨(some 4), .rd (.mov (.c (.int .i64 1))), none, [], false⟩]) .ret
def cmp_Compare_int_8 : XCode := .cond (.t 13) cmp_Compare_int_7 .skip
def cmp_Compare_int_9 : XCode := .seq (.region [⟨(some 13), .rd (.mov (.t 6)), none, [], false⟩]) cmp_Compare_int_8
def cmp_Compare_int_10 : XCode := .seq (.region [⟨(some 4), .rd (.mov (.c (.int .i64 (-1)))), none, [], false⟩]) .ret
def cmp_Compare_int_11 : XCode := .cond (.t 16) cmp_Compare_int_10 .skip
def cmp_Compare_int_12 : XCode := .seq (.region [⟨(some 14), .rd (.mov (.t 0)), none, [], false⟩,
  ⟨(some 15), .rd (.mov (.t 1)), none, [], false⟩,
  ⟨(some 16), .rd (.bin .lss .other (.t 14) (.t 15)), none, [], false⟩]) cmp_Compare_int_11
def cmp_Compare_int_13 : XCode := .seq (.region [⟨(some 4), .rd (.mov (.c (.int .i64 1))), none, [], false⟩]) .ret
def cmp_Compare_int_14 : XCode := .cond (.t 19) cmp_Compare_int_13 .skip
def cmp_Compare_int_15 : XCode := .seq (.region [⟨(some 17), .rd (.mov (.t 0)), none, [], false⟩,
  ⟨(some 18), .rd (.mov (.t 1)), none, [], false⟩,
  ⟨(some 19), .rd (.bin .gtr .other (.t 17) (.t 18)), none, [], false⟩]) cmp_Compare_int_14
def cmp_Compare_int_16 : XCode := .seq (.region [⟨(some 4), .rd (.mov (.c (.int .i64 0))), none, [], false⟩]) .ret
def cmp_Compare_int_17 : XCode := .seq cmp_Compare_int_15 (.keep [] cmp_Compare_int_16)
def cmp_Compare_int_18 : XCode := .seq cmp_Compare_int_12 (.keep [0, 1] cmp_Compare_int_17)
def cmp_Compare_int_19 : XCode := .seq cmp_Compare_int_9 (.keep [0, 1] cmp_Compare_int_18)
def cmp_Compare_int_20 : XCode := .seq cmp_Compare_int_6 (.keep [0, 1, 6] cmp_Compare_int_19)
def cmp_Compare_int_21 : XCode := .seq (.region [⟨(some 9), .rd (.mov (.t 1)), none, [], false⟩,
  ⟨(some 10), .call cmp_isNaN_int_id [.t 9], none, [], false⟩,
  ⟨(some 6), .rd (.mov (.t 10)), none, [], false⟩]) cmp_Compare_int_20
def cmp_Compare_int_22 : XCode := .seq (.region [⟨(some 7), .rd (.mov (.t 0)), none, [], false⟩,
  ⟨(some 8), .call cmp_isNaN_int_id [.t 7], none, [], false⟩,
  ⟨(some 5), .rd (.mov (.t 8)), none, [], false⟩]) cmp_Compare_int_21
def cmp_Compare_int_23 : XCode := .seq (.region [⟨(some 4), .rd (.mov (.c (.int .i64 0))), none, [], false⟩]) cmp_Compare_int_22
def cmp_Compare_int : XFun := ⟨2, cmp_Compare_int_23, [.tmp 4]⟩
theorem cmp_Compare_int_ok : FunOk Try.prog cmp_Compare_int_id cmp_Compare_int := compFun_ok rfl E_ok (by kernel_rfl)

/-! ## 75 slices.IndexFunc[[]int,int] -/
def slices_IndexFunc_int_0 : XCode := .cond (.t 9) .skip (.exit 0)
def slices_IndexFunc_int_1 : XCode := .region [⟨(some 11), .rd (.mov (.t 1)), none, [], false⟩,
  ⟨(some 12), .rd (.mov (.t 0)), none, [], false⟩,
  ⟨(some 13), .rd (.mov (.t 5)), none, [], false⟩,
  ⟨(some 14), .rd (.idx 1 (.t 12) (.t 13)), none, [], false⟩,
  ⟨(some 15), .rd (.load 1 false (.t 14)), none, [], false⟩,
  ⟨(some 16), .callv (.t 11) [.t 15], none, [], false⟩]
def slices_IndexFunc_int_2 : XCode := .seq (.region [⟨(some 17), .rd (.mov (.t 5)), none, [], false⟩,
  ⟨(some 4), .rd (.mov (.t 17)), none, [], false⟩]) .ret
def slices_IndexFunc_int_3 : XCode := .cond (.t 16) slices_IndexFunc_int_2 .skip
def slices_IndexFunc_int_4 : XCode := .seq slices_IndexFunc_int_1 (.keep [0, 1, 5, 7, 8, 16] slices_IndexFunc_int_3)
def slices_IndexFunc_int_5 : XCode := .seq (.region [⟨(some 10), .rd (.mov (.t 8)), none, [], false⟩,
  ⟨(some 5), .rd (.mov (.t 10)), none, [], false⟩]) slices_IndexFunc_int_4
def slices_IndexFunc_int_6 : XCode := .region [⟨(some 18), .rd (.bin .add .other (.t 8) (.c (.int .i64 1))), none, [], false⟩,
  ⟨(some 8), .rd (.mov (.t 18)), none, [], false⟩]
def slices_IndexFunc_int_7 : XCode := .seq (.block 1 slices_IndexFunc_int_5) (.keep [0, 1, 7, 8] slices_IndexFunc_int_6)
def slices_IndexFunc_int_8 : XCode := .seq slices_IndexFunc_int_0 (.keep [0, 1, 7, 8] slices_IndexFunc_int_7)
def slices_IndexFunc_int_9 : XCode := .seq (.region [⟨(some 9), .rd (.bin .lss .other (.t 8) (.t 7)), none, [], false⟩]) slices_IndexFunc_int_8
def slices_IndexFunc_int_10 : XCode := .seq (.region [⟨(some 6), .rd (.mov (.t 0)), none, [], false⟩,
  ⟨(some 7), .rd (.lenL (.t 6)), none, [], false⟩,
  ⟨(some 8), .rd (.mov (.c (.int .i64 0))), none, [], false⟩]) (.block 0 (.loop [0, 1, 7, 8] slices_IndexFunc_int_9))
def slices_IndexFunc_int_11 : XCode := .seq (.region [⟨(some 4), .rd (.mov (.c (.int .i64 (-1)))), none, [], false⟩]) .ret
def slices_IndexFunc_int_12 : XCode := .seq slices_IndexFunc_int_10 (.keep [] slices_IndexFunc_int_11)
def slices_IndexFunc_int_13 : XCode := .seq (.region [⟨(some 4), .rd (.mov (.c (.int .i64 0))), none, [], false⟩]) slices_IndexFunc_int_12
def slices_IndexFunc_int : XFun := ⟨2, slices_IndexFunc_int_13, [.tmp 4]⟩
theorem slices_IndexFunc_int_ok : FunOk Try.prog slices_IndexFunc_int_id slices_IndexFunc_int := compFun_ok rfl E_ok (by kernel_rfl)

/-! ## 77 slices.pdqsortOrdered[string] -/
def slices_pdqsortOrdered_string_0 : XCode := .region [⟨(some 19), .rd (.mov (.t 2)), none, [], false⟩,
  ⟨(some 20), .rd (.mov (.t 1)), none, [], false⟩,
  ⟨(some 21), .rd (.bin .sub .other (.t 19) (.t 20)), none, [], false⟩,
  ⟨(some 10), .rd (.mov (.t 21)), none, [], false⟩]
def slices_pdqsortOrdered_string_1 : XCode := .region [⟨(some 24), .rd (.mov (.t 0)), none, [], false⟩,
  ⟨(some 25), .rd (.mov (.t 1)), none, [], false⟩,
  ⟨(some 26), .rd (.mov (.t 2)), none, [], false⟩,
  ⟨(some 27), .call slices_insertionSortOrdered_string_id [.t 24, .t 25, .t 26], none, [], false⟩]
def slices_pdqsortOrdered_string_2 : XCode := .seq slices_pdqsortOrdered_string_1 .ret
def slices_pdqsortOrdered_string_3 : XCode := .cond (.t 23) slices_pdqsortOrdered_string_2 .skip
def slices_pdqsortOrdered_string_4 : XCode := .seq (.region [⟨(some 22), .rd (.mov (.t 10)), none, [], false⟩,
  ⟨(some 23), .rd (.bin .leq .other (.t 22) (.c (.int .i64 12))), none, [], false⟩]) slices_pdqsortOrdered_string_3
def slices_pdqsortOrdered_string_5 : XCode := .region [⟨(some 30), .rd (.mov (.t 0)), none, [], false⟩,
  ⟨(some 31), .rd (.mov (.t 1)), none, [], false⟩,
  ⟨(some 32), .rd (.mov (.t 2)), none, [], false⟩,
  ⟨(some 33), .call slices_heapSortOrdered_string_id [.t 30, .t 31, .t 32], none, [], false⟩]
def slices_pdqsortOrdered_string_6 : XCode := .seq slices_pdqsortOrdered_string_5 .ret
def slices_pdqsortOrdered_string_7 : XCode := .cond (.t 29) slices_pdqsortOrdered_string_6 .skip
def slices_pdqsortOrdered_string_8 : XCode := .seq (.region [⟨(some 28), .rd (.mov (.t 3)), none, [], false⟩,
  ⟨(some 29), .rd (.bin .eql .other (.t 28) (.c (.int .i64 0))), none, [], false⟩]) slices_pdqsortOrdered_string_7
def slices_pdqsortOrdered_string_9 : XCode := .region [⟨(some 36), .rd (.mov (.t 0)), none, [], false⟩,
  ⟨(some 37), .rd (.mov (.t 1)), none, [], false⟩,
  ⟨(some 38), .rd (.mov (.t 2)), none, [], false⟩,
  ⟨(some 39), .call slices_breakPatternsOrdered_string_id [.t 36, .t 37, .t 38], none, [], false⟩]
def slices_pdqsortOrdered_string_10 : XCode := .region [⟨(some 40), .rd (.mov (.t 3)), none, [], false⟩,
  ⟨(some 41), .rd (.bin .sub .other (.t 40) (.c (.int .i64 1))), none, [], false⟩,
  ⟨(some 3), .rd (.mov (.t 41)), none, [], false⟩]
def slices_pdqsortOrdered_string_11 : XCode := .seq slices_pdqsortOrdered_string_9 (.keep [0, 1, 2, 3, 8, 9, 10] slices_pdqsortOrdered_string_10)
def slices_pdqsortOrdered_string_12 : XCode := .cond (.t 35) slices_pdqsortOrdered_string_11 .skip
def slices_pdqsortOrdered_string_13 : XCode := .seq (.region [⟨(some 34), .rd (.mov (.t 8)), none, [], false⟩,
  ⟨(some 35), .rd (.un .not (.t 34)), none, [], false⟩]) slices_pdqsortOrdered_string_12
def slices_pdqsortOrdered_string_14 : XCode := .region [⟨(some 43), .rd (.mov (.t 0)), none, [], false⟩,
  ⟨(some 44), .rd (.mov (.t 1)), none, [], false⟩,
  ⟨(some 45), .rd (.mov (.t 2)), none, [], false⟩,
  ⟨(some 46), .call slices_choosePivotOrdered_string_id [.t 43, .t 44, .t 45], none, [], false⟩,
  ⟨(some 42), .rd (.mov (.t 46)), none, [], false⟩,
  ⟨(some 47), .rd (.extract 0 (.t 42)), none, [], false⟩,
  ⟨(some 48), .rd (.extract 1 (.t 42)), none, [], false⟩,
  ⟨(some 11), .rd (.mov (.t 47)), none, [], false⟩,
  ⟨(some 12), .rd (.mov (.t 48)), none, [], false⟩]
def slices_pdqsortOrdered_string_15 : XCode := .region [⟨(some 51), .rd (.mov (.t 0)), none, [], false⟩,
  ⟨(some 52), .rd (.mov (.t 1)), none, [], false⟩,
  ⟨(some 53), .rd (.mov (.t 2)), none, [], false⟩,
  ⟨(some 54), .call slices_reverseRangeOrdered_string_id [.t 51, .t 52, .t 53], none, [], false⟩]
def slices_pdqsortOrdered_string_16 : XCode := .region [⟨(some 55), .rd (.mov (.t 2)), none, [], false⟩,
  ⟨(some 56), .rd (.bin .sub .other (.t 55) (.c (.int .i64 1))), none, [], false⟩,
  ⟨(some 57), .rd (.mov (.t 11)), none, [], false⟩,
  ⟨(some 58), .rd (.mov (.t 1)), none, [], false⟩,
  ⟨(some 59), .rd (.bin .sub .other (.t 57) (.t 58)), none, [], false⟩,
  ⟨(some 60), .rd (.bin .sub .other (.t 56) (.t 59)), none, [], false⟩,
  ⟨(some 11), .rd (.mov (.t 60)), none, [], false⟩]
def slices_pdqsortOrdered_string_17 : XCode := .region [⟨(some 12), .rd (.mov (.c (.int .i64 1))), none, [], false⟩]
def slices_pdqsortOrdered_string_18 : XCode := .seq slices_pdqsortOrdered_string_16 (.keep [0, 1, 2, 3, 8, 9, 10, 11] slices_pdqsortOrdered_string_17)
def slices_pdqsortOrdered_string_19 : XCode := .seq slices_pdqsortOrdered_string_15 (.keep [0, 1, 2, 3, 8, 9, 10, 11] slices_pdqsortOrdered_string_18)
def slices_pdqsortOrdered_string_20 : XCode := .cond (.t 50) slices_pdqsortOrdered_string_19 .skip
def slices_pdqsortOrdered_string_21 : XCode := .seq (.region [⟨(some 49), .rd (.mov (.t 12)), none, [], false⟩,
  ⟨(some 50), .rd (.bin .eql .other (.t 49) (.c (.int .i64 2))), none, [], false⟩]) slices_pdqsortOrdered_string_20
def slices_pdqsortOrdered_string_22 : XCode := .region [⟨(some 61), .rd (.mov (.t 8)), none, [], false⟩,
  ⟨(some 62), .rd (.mov (.t 61)), none, [], false⟩,
  ⟨(some 63), .rd (.mov (.t 9)), (some (62, true)), [], false⟩,
  ⟨(some 64), .rd (.pick (.t 62) (.t 63) (.c (.bool false))), none, [], false⟩,
  ⟨(some 65), .rd (.mov (.t 64)), none, [], false⟩,
  ⟨(some 66), .rd (.mov (.t 12)), (some (65, true)), [], false⟩,
  ⟨(some 67), .rd (.bin .eql .other (.t 66) (.c (.int .i64 1))), (some (65, true)), [], false⟩,
  ⟨(some 68), .rd (.pick (.t 65) (.t 67) (.c (.bool false))), none, [], false⟩]
def slices_pdqsortOrdered_string_23 : XCode := .region [⟨(some 69), .rd (.mov (.t 0)), none, [], false⟩,
  ⟨(some 70), .rd (.mov (.t 1)), none, [], false⟩,
  ⟨(some 71), .rd (.mov (.t 2)), none, [], false⟩,
  ⟨(some 72), .call slices_partialInsertionSortOrdered_string_id [.t 69, .t 70, .t 71], none, [], false⟩]
def slices_pdqsortOrdered_string_24 : XCode := .cond (.t 72) .ret .skip
def slices_pdqsortOrdered_string_25 : XCode := .seq slices_pdqsortOrdered_string_23 (.keep [0, 1, 2, 3, 8, 9, 10, 11, 72] slices_pdqsortOrdered_string_24)
def slices_pdqsortOrdered_string_26 : XCode := .cond (.t 68) slices_pdqsortOrdered_string_25 .skip
def slices_pdqsortOrdered_string_27 : XCode := .seq slices_pdqsortOrdered_string_22 (.keep [0, 1, 2, 3, 8, 9, 10, 11, 68] slices_pdqsortOrdered_string_26)
def slices_pdqsortOrdered_string_28 : XCode := .draw [⟨(some 73), .rd (.mov (.t 1)), none, [], false⟩,
  ⟨(some 74), .rd (.bin .gtr .other (.t 73) (.c (.int .i64 0))), none, [0], false⟩,
  ⟨(some 75), .rd (.mov (.t 74)), none, [1, 0], false⟩,
  ⟨(some 76), .rd (.mov (.t 0)), (some (75, true)), [2, 1, 0], false⟩,
  ⟨(some 77), .rd (.mov (.t 1)), (some (75, true)), [2, 1, 0], false⟩,
  ⟨(some 78), .rd (.bin .sub .other (.t 77) (.c (.int .i64 1))), (some (75, true)), [4, 2, 1, 0], false⟩,
  ⟨(some 79), .rd (.idx 1 (.t 76) (.t 78)), (some (75, true)), [3, 5, 2, 1, 0, 4], false⟩,
  ⟨(some 80), .rd (.load 1 false (.t 79)), (some (75, true)), [6, 2, 3, 5, 1, 0, 4], false⟩,
  ⟨(some 81), .rd (.mov (.t 0)), (some (75, true)), [2, 1, 0], false⟩,
  ⟨(some 82), .rd (.mov (.t 11)), (some (75, true)), [2, 1, 0], false⟩,
  ⟨(some 83), .rd (.idx 1 (.t 81) (.t 82)), (some (75, true)), [8, 9, 2, 1, 0], false⟩,
  ⟨(some 84), .rd (.load 1 false (.t 83)), (some (75, true)), [10, 2, 8, 9, 1, 0], false⟩,
  ⟨(some 85), .call cmp_Less_string_id [.t 80, .t 84], (some (75, true)), [7, 11, 2, 6, 3, 5, 1, 0, 4, 10, 8, 9], false⟩,
  ⟨(some 86), .rd (.un .not (.t 85)), (some (75, true)), [12, 2, 7, 11, 6, 3, 5, 1, 0, 4, 10, 8, 9], false⟩,
  ⟨(some 87), .rd (.pick (.t 75) (.t 86) (.c (.bool false))), none, [2, 13, 1, 0, 12, 7, 11, 6, 3, 5, 4, 10, 8, 9], false⟩]
def slices_pdqsortOrdered_string_29 : XCode := .region [⟨(some 88), .rd (.mov (.t 0)), none, [], false⟩,
  ⟨(some 89), .rd (.mov (.t 1)), none, [], false⟩,
  ⟨(some 90), .rd (.mov (.t 2)), none, [], false⟩,
  ⟨(some 91), .rd (.mov (.t 11)), none, [], false⟩,
  ⟨(some 92), .call slices_partitionEqualOrdered_string_id [.t 88, .t 89, .t 90, .t 91], none, [], false⟩,
  ⟨(some 13), .rd (.mov (.t 92)), none, [], false⟩]
def slices_pdqsortOrdered_string_30 : XCode := .seq (.region [⟨(some 93), .rd (.mov (.t 13)), none, [], false⟩,
  ⟨(some 1), .rd (.mov (.t 93)), none, [], false⟩]) (.exit 1)
def slices_pdqsortOrdered_string_31 : XCode := .seq slices_pdqsortOrdered_string_29 (.keep [0, 2, 3, 8, 9, 13] slices_pdqsortOrdered_string_30)
def slices_pdqsortOrdered_string_32 : XCode := .cond (.t 87) slices_pdqsortOrdered_string_31 .skip
def slices_pdqsortOrdered_string_33 : XCode := .seq slices_pdqsortOrdered_string_28 (.keep [0, 1, 2, 3, 8, 9, 10, 11, 87] slices_pdqsortOrdered_string_32)
def slices_pdqsortOrdered_string_34 : XCode := .region [⟨(some 95), .rd (.mov (.t 0)), none, [], false⟩,
  ⟨(some 96), .rd (.mov (.t 1)), none, [], false⟩,
  ⟨(some 97), .rd (.mov (.t 2)), none, [], false⟩,
  ⟨(some 98), .rd (.mov (.t 11)), none, [], false⟩,
  ⟨(some 99), .call slices_partitionOrdered_string_id [.t 95, .t 96, .t 97, .t 98], none, [], false⟩,
  ⟨(some 94), .rd (.mov (.t 99)), none, [], false⟩,
  ⟨(some 100), .rd (.extract 0 (.t 94)), none, [], false⟩,
  ⟨(some 101), .rd (.extract 1 (.t 94)), none, [], false⟩,
  ⟨(some 14), .rd (.mov (.t 100)), none, [], false⟩,
  ⟨(some 15), .rd (.mov (.t 101)), none, [], false⟩]
def slices_pdqsortOrdered_string_35 : XCode := .region [⟨(some 103), .rd (.mov (.t 14)), none, [], false⟩,
  ⟨(some 104), .rd (.mov (.t 1)), none, [], false⟩,
  ⟨(some 105), .rd (.bin .sub .other (.t 103) (.t 104)), none, [], false⟩,
  ⟨(some 106), .rd (.mov (.t 2)), none, [], false⟩,
  ⟨(some 107), .rd (.mov (.t 14)), none, [], false⟩,
  ⟨(some 108), .rd (.bin .sub .other (.t 106) (.t 107)), none, [], false⟩,
  ⟨(some 16), .rd (.mov (.t 105)), none, [], false⟩,
  ⟨(some 17), .rd (.mov (.t 108)), none, [], false⟩]
def slices_pdqsortOrdered_string_36 : XCode := .region [⟨(some 114), .rd (.mov (.t 16)), none, [], false⟩,
  ⟨(some 115), .rd (.mov (.t 18)), none, [], false⟩,
  ⟨(some 116), .rd (.bin .geq .other (.t 114) (.t 115)), none, [], false⟩,
  ⟨(some 8), .rd (.mov (.t 116)), none, [], false⟩]
def slices_pdqsortOrdered_string_37 : XCode := .region [⟨(some 117), .rd (.mov (.t 0)), none, [], false⟩,
  ⟨(some 118), .rd (.mov (.t 1)), none, [], false⟩,
  ⟨(some 119), .rd (.mov (.t 14)), none, [], false⟩,
  ⟨(some 120), .rd (.mov (.t 3)), none, [], false⟩,
  ⟨(some 121), .call slices_pdqsortOrdered_string_id [.t 117, .t 118, .t 119, .t 120], none, [], false⟩]
def slices_pdqsortOrdered_string_38 : XCode := .region [⟨(some 122), .rd (.mov (.t 14)), none, [], false⟩,
  ⟨(some 123), .rd (.bin .add .other (.t 122) (.c (.int .i64 1))), none, [], false⟩,
  ⟨(some 1), .rd (.mov (.t 123)), none, [], false⟩]
def slices_pdqsortOrdered_string_39 : XCode := .seq slices_pdqsortOrdered_string_37 (.keep [0, 2, 3, 8, 9, 14] slices_pdqsortOrdered_string_38)
def slices_pdqsortOrdered_string_40 : XCode := .seq slices_pdqsortOrdered_string_36 (.keep [0, 1, 2, 3, 8, 9, 14] slices_pdqsortOrdered_string_39)
def slices_pdqsortOrdered_string_41 : XCode := .region [⟨(some 124), .rd (.mov (.t 17)), none, [], false⟩,
  ⟨(some 125), .rd (.mov (.t 18)), none, [], false⟩,
  ⟨(some 126), .rd (.bin .geq .other (.t 124) (.t 125)), none, [], false⟩,
  ⟨(some 8), .rd (.mov (.t 126)), none, [], false⟩]
def slices_pdqsortOrdered_string_42 : XCode := .region [⟨(some 127), .rd (.mov (.t 0)), none, [], false⟩,
  ⟨(some 128), .rd (.mov (.t 14)), none, [], false⟩,
  ⟨(some 129), .rd (.bin .add .other (.t 128) (.c (.int .i64 1))), none, [], false⟩,
  ⟨(some 130), .rd (.mov (.t 2)), none, [], false⟩,
  ⟨(some 131), .rd (.mov (.t 3)), none, [], false⟩,
  ⟨(some 132), .call slices_pdqsortOrdered_string_id [.t 127, .t 129, .t 130, .t 131], none, [], false⟩]
def slices_pdqsortOrdered_string_43 : XCode := .region [⟨(some 133), .rd (.mov (.t 14)), none, [], false⟩,
  ⟨(some 2), .rd (.mov (.t 133)), none, [], false⟩]
def slices_pdqsortOrdered_string_44 : XCode := .seq slices_pdqsortOrdered_string_42 (.keep [0, 1, 3, 8, 9, 14] slices_pdqsortOrdered_string_43)
def slices_pdqsortOrdered_string_45 : XCode := .seq slices_pdqsortOrdered_string_41 (.keep [0, 1, 2, 3, 8, 9, 14] slices_pdqsortOrdered_string_44)
def slices_pdqsortOrdered_string_46 : XCode := .cond (.t 113) slices_pdqsortOrdered_string_40 slices_pdqsortOrdered_string_45
def slices_pdqsortOrdered_string_47 : XCode := .seq (.region [⟨(some 111), .rd (.mov (.t 16)), none, [], false⟩,
  ⟨(some 112), .rd (.mov (.t 17)), none, [], false⟩,
  ⟨(some 113), .rd (.bin .lss .other (.t 111) (.t 112)), none, [], false⟩]) slices_pdqsortOrdered_string_46
def slices_pdqsortOrdered_string_48 : XCode := .seq (.region [⟨(some 109), .rd (.mov (.t 10)), none, [], false⟩,
  ⟨(some 110), .rd (.bin .quo .other (.t 109) (.c (.int .i64 8))), none, [], false⟩,
  ⟨(some 18), .rd (.mov (.t 110)), none, [], false⟩]) slices_pdqsortOrdered_string_47
def slices_pdqsortOrdered_string_49 : XCode := .seq slices_pdqsortOrdered_string_35 (.keep [0, 1, 2, 3, 9, 10, 14, 16, 17] slices_pdqsortOrdered_string_48)
def slices_pdqsortOrdered_string_50 : XCode := .seq (.region [⟨(some 102), .rd (.mov (.t 15)), none, [], false⟩,
  ⟨(some 9), .rd (.mov (.t 102)), none, [], false⟩]) slices_pdqsortOrdered_string_49
def slices_pdqsortOrdered_string_51 : XCode := .seq slices_pdqsortOrdered_string_34 (.keep [0, 1, 2, 3, 10, 14, 15] slices_pdqsortOrdered_string_50)
def slices_pdqsortOrdered_string_52 : XCode := .seq slices_pdqsortOrdered_string_33 (.keep [0, 1, 2, 3, 10, 11] slices_pdqsortOrdered_string_51)
def slices_pdqsortOrdered_string_53 : XCode := .seq slices_pdqsortOrdered_string_27 (.keep [0, 1, 2, 3, 8, 9, 10, 11] slices_pdqsortOrdered_string_52)
def slices_pdqsortOrdered_string_54 : XCode := .seq slices_pdqsortOrdered_string_21 (.keep [0, 1, 2, 3, 8, 9, 10, 11, 12] slices_pdqsortOrdered_string_53)
def slices_pdqsortOrdered_string_55 : XCode := .seq slices_pdqsortOrdered_string_14 (.keep [0, 1, 2, 3, 8, 9, 10, 11, 12] slices_pdqsortOrdered_string_54)
def slices_pdqsortOrdered_string_56 : XCode := .seq slices_pdqsortOrdered_string_13 (.keep [0, 1, 2, 3, 8, 9, 10] slices_pdqsortOrdered_string_55)
def slices_pdqsortOrdered_string_57 : XCode := .seq slices_pdqsortOrdered_string_8 (.keep [0, 1, 2, 3, 8, 9, 10] slices_pdqsortOrdered_string_56)
def slices_pdqsortOrdered_string_58 : XCode := .seq slices_pdqsortOrdered_string_4 (.keep [0, 1, 2, 3, 8, 9, 10] slices_pdqsortOrdered_string_57)
def slices_pdqsortOrdered_string_59 : XCode := .seq slices_pdqsortOrdered_string_0 (.keep [0, 1, 2, 3, 8, 9, 10] slices_pdqsortOrdered_string_58)
def slices_pdqsortOrdered_string_60 : XCode := .seq (.region [⟨(some 9), .rd (.mov (.c (.bool true))), none, [], false⟩]) (.block 0 (.loop [0, 1, 2, 3, 8, 9] (.block 1 slices_pdqsortOrdered_string_59)))
def slices_pdqsortOrdered_string_61 : XCode := .seq (.region [⟨(some 8), .rd (.mov (.c (.bool true))), none, [], false⟩]) slices_pdqsortOrdered_string_60
def slices_pdqsortOrdered_string : XFun := ⟨4, slices_pdqsortOrdered_string_61, []⟩
theorem slices_pdqsortOrdered_string_ok : FunOk Try.prog slices_pdqsortOrdered_string_id slices_pdqsortOrdered_string := compFun_ok rfl E_ok (by kernel_rfl)

/-! ## 78 cmp.isNaN[string] -/
def cmp_isNaN_string_0 : XCode := .region [⟨(some 3), .rd (.mov (.t 0)), none, [], false⟩,
  ⟨(some 4), .rd (.mov (.t 0)), none, [], false⟩,
  ⟨(some 5), .rd (.bin .neq .other (.t 3) (.t 4)), none, [], false⟩,
  ⟨(some 2), .rd (.mov (.t 5)), none, [], false⟩]
def cmp_isNaN_string_1 : XCode := .seq cmp_isNaN_string_0 .ret
def cmp_isNaN_string_2 : XCode := .seq (.region [⟨(some 2), .rd (.mov (.c (.bool false))), none, [], false⟩]) cmp_isNaN_string_1
def cmp_isNaN_string : XFun := ⟨1, cmp_isNaN_string_2, [.tmp 2]⟩
theorem cmp_isNaN_string_ok : FunOk Try.prog cmp_isNaN_string_id cmp_isNaN_string := compFun_ok rfl E_ok (by kernel_rfl)

/-! ## 79 slices.insertionSortCmpFunc[[2]int] -/
def slices_insertionSortCmpFunc_ar2_int_0 : XCode := .cond (.t 14) .skip (.exit 0)
def slices_insertionSortCmpFunc_ar2_int_1 : XCode := .seq (.region [⟨(some 12), .rd (.mov (.t 8)), none, [], false⟩,
  ⟨(some 13), .rd (.mov (.t 2)), none, [], false⟩,
  ⟨(some 14), .rd (.bin .lss .other (.t 12) (.t 13)), none, [], false⟩]) slices_insertionSortCmpFunc_ar2_int_0
def slices_insertionSortCmpFunc_ar2_int_2 : XCode := .draw [⟨(some 18), .rd (.mov (.t 9)), none, [], false⟩,
  ⟨(some 19), .rd (.mov (.t 1)), none, [], false⟩,
  ⟨(some 20), .rd (.bin .gtr .other (.t 18) (.t 19)), none, [0, 1], false⟩,
  ⟨(some 21), .rd (.mov (.t 20)), none, [2, 0, 1], false⟩,
  ⟨(some 22), .rd (.mov (.t 3)), (some (21, true)), [3, 2, 0, 1], false⟩,
  ⟨(some 23), .rd (.mov (.t 0)), (some (21, true)), [3, 2, 0, 1], false⟩,
  ⟨(some 24), .rd (.mov (.t 9)), (some (21, true)), [3, 2, 0, 1], false⟩,
  ⟨(some 25), .rd (.idx 2 (.t 23) (.t 24)), (some (21, true)), [5, 6, 3, 2, 0, 1], false⟩,
  ⟨(some 26), .rd (.load 2 true (.t 25)), (some (21, true)), [7, 3, 5, 6, 2, 0, 1], false⟩,
  ⟨(some 27), .rd (.mov (.t 0)), (some (21, true)), [3, 2, 0, 1], false⟩,
  ⟨(some 28), .rd (.mov (.t 9)), (some (21, true)), [3, 2, 0, 1], false⟩,
  ⟨(some 29), .rd (.bin .sub .other (.t 28) (.c (.int .i64 1))), (some (21, true)), [10, 3, 2, 0, 1], false⟩,
  ⟨(some 30), .rd (.idx 2 (.t 27) (.t 29)), (some (21, true)), [9, 11, 3, 2, 0, 1, 10], false⟩,
  ⟨(some 31), .rd (.load 2 true (.t 30)), (some (21, true)), [12, 3, 9, 11, 2, 0, 1, 10], false⟩,
  ⟨(some 32), .callv (.t 22) [.t 26, .t 31], (some (21, true)), [4, 8, 13, 3, 2, 0, 1, 7, 5, 6, 12, 9, 11, 10], false⟩,
  ⟨(some 33), .rd (.bin .lss .other (.t 32) (.c (.int .i64 0))), (some (21, true)), [14, 3, 4, 8, 13, 2, 0, 1, 7, 5, 6, 12, 9, 11, 10], false⟩,
  ⟨(some 34), .rd (.pick (.t 21) (.t 33) (.c (.bool false))), none, [3, 15, 2, 0, 1, 14, 4, 8, 13, 7, 5, 6, 12, 9, 11, 10], false⟩]
def slices_insertionSortCmpFunc_ar2_int_3 : XCode := .cond (.t 34) .skip (.exit 2)
def slices_insertionSortCmpFunc_ar2_int_4 : XCode := .seq slices_insertionSortCmpFunc_ar2_int_2 (.keep [0, 1, 2, 3, 8, 9, 34] slices_insertionSortCmpFunc_ar2_int_3)
def slices_insertionSortCmpFunc_ar2_int_5 : XCode := .draw [⟨(some 37), .rd (.mov (.t 0)), none, [], false⟩,
  ⟨(some 38), .rd (.mov (.t 9)), none, [], false⟩,
  ⟨(some 39), .rd (.mov (.t 0)), none, [], false⟩,
  ⟨(some 40), .rd (.mov (.t 9)), none, [], false⟩,
  ⟨(some 41), .rd (.bin .sub .other (.t 40) (.c (.int .i64 1))), none, [3], false⟩,
  ⟨(some 42), .rd (.mov (.t 0)), none, [], false⟩,
  ⟨(some 43), .rd (.mov (.t 9)), none, [], false⟩,
  ⟨(some 44), .rd (.bin .sub .other (.t 43) (.c (.int .i64 1))), none, [6], false⟩,
  ⟨(some 45), .rd (.idx 2 (.t 42) (.t 44)), none, [5, 7, 6], false⟩,
  ⟨(some 46), .rd (.load 2 true (.t 45)), none, [8, 5, 7, 6], false⟩,
  ⟨(some 47), .rd (.mov (.t 0)), none, [], false⟩,
  ⟨(some 48), .rd (.mov (.t 9)), none, [], false⟩,
  ⟨(some 49), .rd (.idx 2 (.t 47) (.t 48)), none, [10, 11], false⟩,
  ⟨(some 50), .rd (.load 2 true (.t 49)), none, [12, 10, 11], false⟩,
  ⟨(some 51), .rd (.idx 2 (.t 37) (.t 38)), none, [0, 1, 5, 6, 7, 8, 9, 13, 12, 10, 11], false⟩,
  ⟨none, .ef (.store 2 (.t 51) (.t 46)), none, [14, 9, 0, 1, 5, 6, 7, 8, 13, 12, 10, 11], false⟩,
  ⟨(some 52), .rd (.idx 2 (.t 39) (.t 41)), none, [2, 4, 0, 1, 3, 5, 6, 7, 8, 9, 10, 11, 12, 13, 14, 15], false⟩,
  ⟨none, .ef (.store 2 (.t 52) (.t 50)), none, [16, 13, 15, 0, 1, 2, 3, 4, 5, 6, 7, 8, 9, 10, 11, 12, 14], false⟩]
def slices_insertionSortCmpFunc_ar2_int_6 : XCode := .region [⟨(some 35), .rd (.mov (.t 9)), none, [], false⟩,
  ⟨(some 36), .rd (.bin .sub .other (.t 35) (.c (.int .i64 1))), none, [], false⟩,
  ⟨(some 9), .rd (.mov (.t 36)), none, [], false⟩]
def slices_insertionSortCmpFunc_ar2_int_7 : XCode := .seq (.block 3 slices_insertionSortCmpFunc_ar2_int_5) (.keep [0, 1, 2, 3, 8, 9] slices_insertionSortCmpFunc_ar2_int_6)
def slices_insertionSortCmpFunc_ar2_int_8 : XCode := .seq slices_insertionSortCmpFunc_ar2_int_4 (.keep [0, 1, 2, 3, 8, 9] slices_insertionSortCmpFunc_ar2_int_7)
def slices_insertionSortCmpFunc_ar2_int_9 : XCode := .seq (.region [⟨(some 17), .rd (.mov (.t 8)), none, [], false⟩,
  ⟨(some 9), .rd (.mov (.t 17)), none, [], false⟩]) (.block 2 (.loop [0, 1, 2, 3, 8, 9] slices_insertionSortCmpFunc_ar2_int_8))
def slices_insertionSortCmpFunc_ar2_int_10 : XCode := .region [⟨(some 15), .rd (.mov (.t 8)), none, [], false⟩,
  ⟨(some 16), .rd (.bin .add .other (.t 15) (.c (.int .i64 1))), none, [], false⟩,
  ⟨(some 8), .rd (.mov (.t 16)), none, [], false⟩]
def slices_insertionSortCmpFunc_ar2_int_11 : XCode := .seq (.block 1 slices_insertionSortCmpFunc_ar2_int_9) (.keep [0, 1, 2, 3, 8] slices_insertionSortCmpFunc_ar2_int_10)
def slices_insertionSortCmpFunc_ar2_int_12 : XCode := .seq slices_insertionSortCmpFunc_ar2_int_1 (.keep [0, 1, 2, 3, 8] slices_insertionSortCmpFunc_ar2_int_11)
def slices_insertionSortCmpFunc_ar2_int_13 : XCode := .seq (.region [⟨(some 10), .rd (.mov (.t 1)), none, [], false⟩,
  ⟨(some 11), .rd (.bin .add .other (.t 10) (.c (.int .i64 1))), none, [], false⟩,
  ⟨(some 8), .rd (.mov (.t 11)), none, [], false⟩]) (.block 0 (.loop [0, 1, 2, 3, 8] slices_insertionSortCmpFunc_ar2_int_12))
def slices_insertionSortCmpFunc_ar2_int : XFun := ⟨4, slices_insertionSortCmpFunc_ar2_int_13, []⟩
theorem slices_insertionSortCmpFunc_ar2_int_ok : FunOk Try.prog slices_insertionSortCmpFunc_ar2_int_id slices_insertionSortCmpFunc_ar2_int := compFun_ok rfl E_ok (by kernel_rfl)

/-! ## 87 math/bits.Len32 -/
def math_bits_Len32_0 : XCode := .region [⟨(some 2), .rd (.mov (.c (.int .i64 16))), none, [], false⟩]
def math_bits_Len32_1 : XCode := .seq (.region [⟨(some 5), .rd (.mov (.t 0)), none, [], false⟩,
  ⟨(some 6), .rd (.bin .shr .other (.t 5) (.c (.int .u64 16))), none, [], false⟩,
  ⟨(some 0), .rd (.mov (.t 6)), none, [], false⟩]) math_bits_Len32_0
def math_bits_Len32_2 : XCode := .cond (.t 4) math_bits_Len32_1 .skip
def math_bits_Len32_3 : XCode := .seq (.region [⟨(some 3), .rd (.mov (.t 0)), none, [], false⟩,
  ⟨(some 4), .rd (.bin .geq .other (.t 3) (.c (.int .u32 65536))), none, [], false⟩]) math_bits_Len32_2
def math_bits_Len32_4 : XCode := .region [⟨(some 11), .rd (.mov (.t 2)), none, [], false⟩,
  ⟨(some 12), .rd (.bin .add .other (.t 11) (.c (.int .i64 8))), none, [], false⟩,
  ⟨(some 2), .rd (.mov (.t 12)), none, [], false⟩]
def math_bits_Len32_5 : XCode := .seq (.region [⟨(some 9), .rd (.mov (.t 0)), none, [], false⟩,
  ⟨(some 10), .rd (.bin .shr .other (.t 9) (.c (.int .u64 8))), none, [], false⟩,
  ⟨(some 0), .rd (.mov (.t 10)), none, [], false⟩]) math_bits_Len32_4
def math_bits_Len32_6 : XCode := .cond (.t 8) math_bits_Len32_5 .skip
def math_bits_Len32_7 : XCode := .seq (.region [⟨(some 7), .rd (.mov (.t 0)), none, [], false⟩,
  ⟨(some 8), .rd (.bin .geq .other (.t 7) (.c (.int .u32 256))), none, [], false⟩]) math_bits_Len32_6
def math_bits_Len32_8 : XCode := .region [⟨(some 13), .rd (.mov (.t 2)), none, [], false⟩,
  ⟨(some 14), .rd (.mov (.t 0)), none, [], false⟩,
  ⟨(some 15), .rd (.conv .u8 (.t 14)), none, [], false⟩,
  ⟨(some 16), .rd (.indexS (.c (.str [0, 1, 2, 2, 3, 3, 3, 3, 4, 4, 4, 4, 4, 4, 4, 4, 5, 5, 5, 5, 5, 5, 5, 5, 5, 5, 5, 5, 5, 5, 5, 5, 6, 6, 6, 6, 6, 6, 6, 6, 6, 6, 6, 6, 6, 6, 6, 6, 6, 6, 6, 6, 6, 6, 6, 6, 6, 6, 6, 6, 6, 6, 6, 6, 7, 7, 7, 7, 7, 7, 7, 7, 7, 7, 7, 7, 7, 7, 7, 7, 7, 7, 7, 7, 7, 7, 7, 7, 7, 7, 7, 7, 7, 7, 7, 7, 7, 7, 7, 7, 7, 7, 7, 7, 7, 7, 7, 7, 7, 7, 7, 7, 7, 7, 7, 7, 7, 7, 7, 7, 7, 7, 7, 7, 7, 7, 7, 7, 8, 8, 8, 8, 8, 8, 8, 8, 8, 8, 8, 8, 8, 8, 8, 8, 8, 8, 8, 8, 8, 8, 8, 8, 8, 8, 8, 8, 8, 8, 8, 8, 8, 8, 8, 8, 8, 8, 8, 8, 8, 8, 8, 8, 8, 8, 8, 8, 8, 8, 8, 8, 8, 8, 8, 8, 8, 8, 8, 8, 8, 8, 8, 8, 8, 8, 8, 8, 8, 8, 8, 8, 8, 8, 8, 8, 8, 8, 8, 8, 8, 8, 8, 8, 8, 8, 8, 8, 8, 8, 8, 8, 8, 8, 8, 8, 8, 8, 8, 8, 8, 8, 8, 8, 8, 8, 8, 8, 8, 8, 8, 8, 8, 8, 8, 8, 8, 8, 8, 8, 8, 8, 8, 8, 8, 8, 8, 8])) (.t 15)), none, [], false⟩,
  ⟨(some 17), .rd (.conv .i64 (.t 16)), none, [], false⟩,
  ⟨(some 18), .rd (.bin .add .other (.t 13) (.t 17)), none, [], false⟩,
  ⟨(some 2), .rd (.mov (.t 18)), none, [], false⟩]
def math_bits_Len32_9 : XCode := .seq math_bits_Len32_8 .ret
def math_bits_Len32_10 : XCode := .seq math_bits_Len32_7 (.keep [0, 2] math_bits_Len32_9)
def math_bits_Len32_11 : XCode := .seq math_bits_Len32_3 (.keep [0, 2] math_bits_Len32_10)
def math_bits_Len32_12 : XCode := .seq (.region [⟨(some 2), .rd (.mov (.c (.int .i64 0))), none, [], false⟩]) math_bits_Len32_11
def math_bits_Len32 : XFun := ⟨1, math_bits_Len32_12, [.tmp 2]⟩
theorem math_bits_Len32_ok : FunOk Try.prog math_bits_Len32_id math_bits_Len32 := compFun_ok rfl E_ok (by kernel_rfl)

/-! ## 88 math/bits.Len64 -/
def math_bits_Len64_0 : XCode := .region [⟨(some 2), .rd (.mov (.c (.int .i64 32))), none, [], false⟩]
def math_bits_Len64_1 : XCode := .seq (.region [⟨(some 5), .rd (.mov (.t 0)), none, [], false⟩,
  ⟨(some 6), .rd (.bin .shr .other (.t 5) (.c (.int .u64 32))), none, [], false⟩,
  ⟨(some 0), .rd (.mov (.t 6)), none, [], false⟩]) math_bits_Len64_0
def math_bits_Len64_2 : XCode := .cond (.t 4) math_bits_Len64_1 .skip
def math_bits_Len64_3 : XCode := .seq (.region [⟨(some 3), .rd (.mov (.t 0)), none, [], false⟩,
  ⟨(some 4), .rd (.bin .geq .other (.t 3) (.c (.int .u64 4294967296))), none, [], false⟩]) math_bits_Len64_2
def math_bits_Len64_4 : XCode := .region [⟨(some 11), .rd (.mov (.t 2)), none, [], false⟩,
  ⟨(some 12), .rd (.bin .add .other (.t 11) (.c (.int .i64 16))), none, [], false⟩,
  ⟨(some 2), .rd (.mov (.t 12)), none, [], false⟩]
def math_bits_Len64_5 : XCode := .seq (.region [⟨(some 9), .rd (.mov (.t 0)), none, [], false⟩,
  ⟨(some 10), .rd (.bin .shr .other (.t 9) (.c (.int .u64 16))), none, [], false⟩,
  ⟨(some 0), .rd (.mov (.t 10)), none, [], false⟩]) math_bits_Len64_4
def math_bits_Len64_6 : XCode := .cond (.t 8) math_bits_Len64_5 .skip
def math_bits_Len64_7 : XCode := .seq (.region [⟨(some 7), .rd (.mov (.t 0)), none, [], false⟩,
  ⟨(some 8), .rd (.bin .geq .other (.t 7) (.c (.int .u64 65536))), none, [], false⟩]) math_bits_Len64_6
def math_bits_Len64_8 : XCode := .region [⟨(some 17), .rd (.mov (.t 2)), none, [], false⟩,
  ⟨(some 18), .rd (.bin .add .other (.t 17) (.c (.int .i64 8))), none, [], false⟩,
  ⟨(some 2), .rd (.mov (.t 18)), none, [], false⟩]
def math_bits_Len64_9 : XCode := .seq (.region [⟨(some 15), .rd (.mov (.t 0)), none, [], false⟩,
  ⟨(some 16), .rd (.bin .shr .other (.t 15) (.c (.int .u64 8))), none, [], false⟩,
  ⟨(some 0), .rd (.mov (.t 16)), none, [], false⟩]) math_bits_Len64_8
def math_bits_Len64_10 : XCode := .cond (.t 14) math_bits_Len64_9 .skip
def math_bits_Len64_11 : XCode := .seq (.region [⟨(some 13), .rd (.mov (.t 0)), none, [], false⟩,
  ⟨(some 14), .rd (.bin .geq .other (.t 13) (.c (.int .u64 256))), none, [], false⟩]) math_bits_Len64_10
def math_bits_Len64_12 : XCode := .region [⟨(some 19), .rd (.mov (.t 2)), none, [], false⟩,
  ⟨(some 20), .rd (.mov (.t 0)), none, [], false⟩,
  ⟨(some 21), .rd (.conv .u8 (.t 20)), none, [], false⟩,
  ⟨(some 22), .rd (.indexS (.c (.str [0, 1, 2, 2, 3, 3, 3, 3, 4, 4, 4, 4, 4, 4, 4, 4, 5, 5, 5, 5, 5, 5, 5, 5, 5, 5, 5, 5, 5, 5, 5, 5, 6, 6, 6, 6, 6, 6, 6, 6, 6, 6, 6, 6, 6, 6, 6, 6, 6, 6, 6, 6, 6, 6, 6, 6, 6, 6, 6, 6, 6, 6, 6, 6, 7, 7, 7, 7, 7, 7, 7, 7, 7, 7, 7, 7, 7, 7, 7, 7, 7, 7, 7, 7, 7, 7, 7, 7, 7, 7, 7, 7, 7, 7, 7, 7, 7, 7, 7, 7, 7, 7, 7, 7, 7, 7, 7, 7, 7, 7, 7, 7, 7, 7, 7, 7, 7, 7, 7, 7, 7, 7, 7, 7, 7, 7, 7, 7, 8, 8, 8, 8, 8, 8, 8, 8, 8, 8, 8, 8, 8, 8, 8, 8, 8, 8, 8, 8, 8, 8, 8, 8, 8, 8, 8, 8, 8, 8, 8, 8, 8, 8, 8, 8, 8, 8, 8, 8, 8, 8, 8, 8, 8, 8, 8, 8, 8, 8, 8, 8, 8, 8, 8, 8, 8, 8, 8, 8, 8, 8, 8, 8, 8, 8, 8, 8, 8, 8, 8, 8, 8, 8, 8, 8, 8, 8, 8, 8, 8, 8, 8, 8, 8, 8, 8, 8, 8, 8, 8, 8, 8, 8, 8, 8, 8, 8, 8, 8, 8, 8, 8, 8, 8, 8, 8, 8, 8, 8, 8, 8, 8, 8, 8, 8, 8, 8, 8, 8, 8, 8, 8, 8, 8, 8, 8, 8])) (.t 21)), none, [], false⟩,
  ⟨(some 23), .rd (.conv .i64 (.t 22)), none, [], false⟩,
  ⟨(some 24), .rd (.bin .add .other (.t 19) (.t 23)), none, [], false⟩,
  ⟨(some 2), .rd (.mov (.t 24)), none, [], false⟩]
def math_bits_Len64_13 : XCode := .seq math_bits_Len64_12 .ret
def math_bits_Len64_14 : XCode := .seq math_bits_Len64_11 (.keep [0, 2] math_bits_Len64_13)
def math_bits_Len64_15 : XCode := .seq math_bits_Len64_7 (.keep [0, 2] math_bits_Len64_14)
def math_bits_Len64_16 : XCode := .seq math_bits_Len64_3 (.keep [0, 2] math_bits_Len64_15)
def math_bits_Len64_17 : XCode := .seq (.region [⟨(some 2), .rd (.mov (.c (.int .i64 0))), none, [], false⟩]) math_bits_Len64_16
def math_bits_Len64 : XFun := ⟨1, math_bits_Len64_17, [.tmp 2]⟩
theorem math_bits_Len64_ok : FunOk Try.prog math_bits_Len64_id math_bits_Len64 := compFun_ok rfl E_ok (by kernel_rfl)

/-! ## 89 cmp.isNaN[int] -/
def cmp_isNaN_int_0 : XCode := .region [⟨(some 3), .rd (.mov (.t 0)), none, [], false⟩,
  ⟨(some 4), .rd (.mov (.t 0)), none, [], false⟩,
  ⟨(some 5), .rd (.bin .neq .other (.t 3) (.t 4)), none, [], false⟩,
  ⟨(some 2), .rd (.mov (.t 5)), none, [], false⟩]
def cmp_isNaN_int_1 : XCode := .seq cmp_isNaN_int_0 .ret
def cmp_isNaN_int_2 : XCode := .seq (.region [⟨(some 2), .rd (.mov (.c (.bool false))), none, [], false⟩]) cmp_isNaN_int_1
def cmp_isNaN_int : XFun := ⟨1, cmp_isNaN_int_2, [.tmp 2]⟩
theorem cmp_isNaN_int_ok : FunOk Try.prog cmp_isNaN_int_id cmp_isNaN_int := compFun_ok rfl E_ok (by kernel_rfl)

/-! ## 93 slices.insertionSortOrdered[string] -/
def slices_insertionSortOrdered_string_0 : XCode := .cond (.t 12) .skip (.exit 0)
def slices_insertionSortOrdered_string_1 : XCode := .seq (.region [⟨(some 10), .rd (.mov (.t 6)), none, [], false⟩,
  ⟨(some 11), .rd (.mov (.t 2)), none, [], false⟩,
  ⟨(some 12), .rd (.bin .lss .other (.t 10) (.t 11)), none, [], false⟩]) slices_insertionSortOrdered_string_0
def slices_insertionSortOrdered_string_2 : XCode := .draw [⟨(some 16), .rd (.mov (.t 7)), none, [], false⟩,
  ⟨(some 17), .rd (.mov (.t 1)), none, [], false⟩,
  ⟨(some 18), .rd (.bin .gtr .other (.t 16) (.t 17)), none, [0, 1], false⟩,
  ⟨(some 19), .rd (.mov (.t 18)), none, [2, 0, 1], false⟩,
  ⟨(some 20), .rd (.mov (.t 0)), (some (19, true)), [3, 2, 0, 1], false⟩,
  ⟨(some 21), .rd (.mov (.t 7)), (some (19, true)), [3, 2, 0, 1], false⟩,
  ⟨(some 22), .rd (.idx 1 (.t 20) (.t 21)), (some (19, true)), [4, 5, 3, 2, 0, 1], false⟩,
  ⟨(some 23), .rd (.load 1 false (.t 22)), (some (19, true)), [6, 3, 4, 5, 2, 0, 1], false⟩,
  ⟨(some 24), .rd (.mov (.t 0)), (some (19, true)), [3, 2, 0, 1], false⟩,
  ⟨(some 25), .rd (.mov (.t 7)), (some (19, true)), [3, 2, 0, 1], false⟩,
  ⟨(some 26), .rd (.bin .sub .other (.t 25) (.c (.int .i64 1))), (some (19, true)), [9, 3, 2, 0, 1], false⟩,
  ⟨(some 27), .rd (.idx 1 (.t 24) (.t 26)), (some (19, true)), [8, 10, 3, 2, 0, 1, 9], false⟩,
  ⟨(some 28), .rd (.load 1 false (.t 27)), (some (19, true)), [11, 3, 8, 10, 2, 0, 1, 9], false⟩,
  ⟨(some 29), .call cmp_Less_string_id [.t 23, .t 28], (some (19, true)), [7, 12, 3, 6, 4, 5, 2, 0, 1, 11, 8, 10, 9], false⟩,
  ⟨(some 30), .rd (.pick (.t 19) (.t 29) (.c (.bool false))), none, [3, 13, 2, 0, 1, 7, 12, 6, 4, 5, 11, 8, 10, 9], false⟩]
def slices_insertionSortOrdered_string_3 : XCode := .cond (.t 30) .skip (.exit 2)
def slices_insertionSortOrdered_string_4 : XCode := .seq slices_insertionSortOrdered_string_2 (.keep [0, 1, 2, 6, 7, 30] slices_insertionSortOrdered_string_3)
def slices_insertionSortOrdered_string_5 : XCode := .draw [⟨(some 33), .rd (.mov (.t 0)), none, [], false⟩,
  ⟨(some 34), .rd (.mov (.t 7)), none, [], false⟩,
  ⟨(some 35), .rd (.mov (.t 0)), none, [], false⟩,
  ⟨(some 36), .rd (.mov (.t 7)), none, [], false⟩,
  ⟨(some 37), .rd (.bin .sub .other (.t 36) (.c (.int .i64 1))), none, [3], false⟩,
  ⟨(some 38), .rd (.mov (.t 0)), none, [], false⟩,
  ⟨(some 39), .rd (.mov (.t 7)), none, [], false⟩,
  ⟨(some 40), .rd (.bin .sub .other (.t 39) (.c (.int .i64 1))), none, [6], false⟩,
  ⟨(some 41), .rd (.idx 1 (.t 38) (.t 40)), none, [5, 7, 6], false⟩,
  ⟨(some 42), .rd (.load 1 false (.t 41)), none, [8, 5, 7, 6], false⟩,
  ⟨(some 43), .rd (.mov (.t 0)), none, [], false⟩,
  ⟨(some 44), .rd (.mov (.t 7)), none, [], false⟩,
  ⟨(some 45), .rd (.idx 1 (.t 43) (.t 44)), none, [10, 11], false⟩,
  ⟨(some 46), .rd (.load 1 false (.t 45)), none, [12, 10, 11], false⟩,
  ⟨(some 47), .rd (.idx 1 (.t 33) (.t 34)), none, [0, 1, 5, 6, 7, 8, 9, 13, 12, 10, 11], false⟩,
  ⟨none, .ef (.store 1 (.t 47) (.t 42)), none, [14, 9, 0, 1, 5, 6, 7, 8, 13, 12, 10, 11], false⟩,
  ⟨(some 48), .rd (.idx 1 (.t 35) (.t 37)), none, [2, 4, 0, 1, 3, 5, 6, 7, 8, 9, 10, 11, 12, 13, 14, 15], false⟩,
  ⟨none, .ef (.store 1 (.t 48) (.t 46)), none, [16, 13, 15, 0, 1, 2, 3, 4, 5, 6, 7, 8, 9, 10, 11, 12, 14], false⟩]
def slices_insertionSortOrdered_string_6 : XCode := .region [⟨(some 31), .rd (.mov (.t 7)), none, [], false⟩,
  ⟨(some 32), .rd (.bin .sub .other (.t 31) (.c (.int .i64 1))), none, [], false⟩,
  ⟨(some 7), .rd (.mov (.t 32)), none, [], false⟩]
def slices_insertionSortOrdered_string_7 : XCode := .seq (.block 3 slices_insertionSortOrdered_string_5) (.keep [0, 1, 2, 6, 7] slices_insertionSortOrdered_string_6)
def slices_insertionSortOrdered_string_8 : XCode := .seq slices_insertionSortOrdered_string_4 (.keep [0, 1, 2, 6, 7] slices_insertionSortOrdered_string_7)
def slices_insertionSortOrdered_string_9 : XCode := .seq (.region [⟨(some 15), .rd (.mov (.t 6)), none, [], false⟩,
  ⟨(some 7), .rd (.mov (.t 15)), none, [], false⟩]) (.block 2 (.loop [0, 1, 2, 6, 7] slices_insertionSortOrdered_string_8))
def slices_insertionSortOrdered_string_10 : XCode := .region [⟨(some 13), .rd (.mov (.t 6)), none, [], false⟩,
  ⟨(some 14), .rd (.bin .add .other (.t 13) (.c (.int .i64 1))), none, [], false⟩,
  ⟨(some 6), .rd (.mov (.t 14)), none, [], false⟩]
def slices_insertionSortOrdered_string_11 : XCode := .seq (.block 1 slices_insertionSortOrdered_string_9) (.keep [0, 1, 2, 6] slices_insertionSortOrdered_string_10)
def slices_insertionSortOrdered_string_12 : XCode := .seq slices_insertionSortOrdered_string_1 (.keep [0, 1, 2, 6] slices_insertionSortOrdered_string_11)
def slices_insertionSortOrdered_string_13 : XCode := .seq (.region [⟨(some 8), .rd (.mov (.t 1)), none, [], false⟩,
  ⟨(some 9), .rd (.bin .add .other (.t 8) (.c (.int .i64 1))), none, [], false⟩,
  ⟨(some 6), .rd (.mov (.t 9)), none, [], false⟩]) (.block 0 (.loop [0, 1, 2, 6] slices_insertionSortOrdered_string_12))
def slices_insertionSortOrdered_string : XFun := ⟨3, slices_insertionSortOrdered_string_13, []⟩
theorem slices_insertionSortOrdered_string_ok : FunOk Try.prog slices_insertionSortOrdered_string_id slices_insertionSortOrdered_string := compFun_ok rfl E_ok (by kernel_rfl)

def T : FuncId → Option XFun
  | 4 => some law13_StrataNames
  | 6 => some law13_awake
  | 7 => some law13_few
  | 8 => some strata_Strata
  | 9 => some strata_Names
  | 10 => some law13_StrataNames_f1
  | 11 => some strata_Needs
  | 12 => some strata_Uses
  | 20 => some law13_awake_f1
  | 21 => some ref13_Same
  | 22 => some ref09_Few
  | 23 => some comps_Comps
  | 24 => some slices_ContainsFunc_api_Literal
  | 25 => some strata_Strata_f1
  | 26 => some strata_each
  | 27 => some strata_Strata_f2
  | 28 => some comps_Lists
  | 29 => some strata_Names_f1
  | 30 => some strata_sorted
  | 31 => some slices_BinarySearch_string
  | 32 => some strata_Needs_f1
  | 33 => some slices_SortFunc_sl_ar2_int_ar2_int
  | 34 => some strata_Needs_f2
  | 35 => some slices_Compare_int
  | 36 => some slices_Compact_sl_ar2_int_ar2_int
  | 45 => some slices_ContainsFunc_int
  | 49 => some ref11_Same
  | 50 => some comps_held
  | 51 => some comps_lists
  | 52 => some comps_seen
  | 53 => some comps_Comps_f1
  | 54 => some comps_Comps_f1_f1
  | 55 => some comps_Comps_f1_f1_f1
  | 56 => some slices_IndexFunc_api_Literal
  | 57 => some slices_Sort_string
  | 58 => some slices_Compact_string
  | 59 => some cmp_Less_string
  | 60 => some slices_isNaN_string
  | 61 => some slices_pdqsortCmpFunc_ar2_int
  | 62 => some math_bits_Len
  | 63 => some cmp_Compare_int
  | 75 => some slices_IndexFunc_int
  | 77 => some slices_pdqsortOrdered_string
  | 78 => some cmp_isNaN_string
  | 79 => some slices_insertionSortCmpFunc_ar2_int
  | 87 => some math_bits_Len32
  | 88 => some math_bits_Len64
  | 89 => some cmp_isNaN_int
  | 93 => some slices_insertionSortOrdered_string
  | _ => none
theorem T_ok : ∀ f x, T f = some x → FunOk Try.prog f x := by
  intro f x h
  unfold T at h
  split at h
  · cases h; exact law13_StrataNames_ok
  · cases h; exact law13_awake_ok
  · cases h; exact law13_few_ok
  · cases h; exact strata_Strata_ok
  · cases h; exact strata_Names_ok
  · cases h; exact law13_StrataNames_f1_ok
  · cases h; exact strata_Needs_ok
  · cases h; exact strata_Uses_ok
  · cases h; exact law13_awake_f1_ok
  · cases h; exact ref13_Same_ok
  · cases h; exact ref09_Few_ok
  · cases h; exact comps_Comps_ok
  · cases h; exact slices_ContainsFunc_api_Literal_ok
  · cases h; exact strata_Strata_f1_ok
  · cases h; exact strata_each_ok
  · cases h; exact strata_Strata_f2_ok
  · cases h; exact comps_Lists_ok
  · cases h; exact strata_Names_f1_ok
  · cases h; exact strata_sorted_ok
  · cases h; exact slices_BinarySearch_string_ok
  · cases h; exact strata_Needs_f1_ok
  · cases h; exact slices_SortFunc_sl_ar2_int_ar2_int_ok
  · cases h; exact strata_Needs_f2_ok
  · cases h; exact slices_Compare_int_ok
  · cases h; exact slices_Compact_sl_ar2_int_ar2_int_ok
  · cases h; exact slices_ContainsFunc_int_ok
  · cases h; exact ref11_Same_ok
  · cases h; exact comps_held_ok
  · cases h; exact comps_lists_ok
  · cases h; exact comps_seen_ok
  · cases h; exact comps_Comps_f1_ok
  · cases h; exact comps_Comps_f1_f1_ok
  · cases h; exact comps_Comps_f1_f1_f1_ok
  · cases h; exact slices_IndexFunc_api_Literal_ok
  · cases h; exact slices_Sort_string_ok
  · cases h; exact slices_Compact_string_ok
  · cases h; exact cmp_Less_string_ok
  · cases h; exact slices_isNaN_string_ok
  · cases h; exact slices_pdqsortCmpFunc_ar2_int_ok
  · cases h; exact math_bits_Len_ok
  · cases h; exact cmp_Compare_int_ok
  · cases h; exact slices_IndexFunc_int_ok
  · cases h; exact slices_pdqsortOrdered_string_ok
  · cases h; exact cmp_isNaN_string_ok
  · cases h; exact slices_insertionSortCmpFunc_ar2_int_ok
  · cases h; exact math_bits_Len32_ok
  · cases h; exact math_bits_Len64_ok
  · cases h; exact cmp_isNaN_int_ok
  · cases h; exact slices_insertionSortOrdered_string_ok
  · cases h
end Go.Am.A
