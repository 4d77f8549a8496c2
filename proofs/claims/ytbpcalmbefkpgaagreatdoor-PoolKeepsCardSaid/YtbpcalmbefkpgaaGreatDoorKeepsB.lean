/- Part 2 of the proof: SxHd, ZA. -/
import Derived.Test.YtbpcalmbefkpgaaGreatDoorProg
import Derived.Test.YtbpcalmbefkpgaaGreatDoorKeepsA
set_option linter.unusedVariables false
set_option linter.unusedSimpArgs false

section
/- The program of the seat, its functions by their names. Printed by gen.py. -/
namespace Go.Sx
open Go

noncomputable abbrev Pg : Program := Go.Proofs.Tryz.prog

def cL : Code → Code
  | .seq a _ => a
  | .cond _ a _ => a
  | _ => .skip
def cR : Code → Code
  | .seq _ b => b
  | .cond _ _ b => b
  | _ => .skip
def cB : Code → Code
  | .block _ b => b
  | .loop b => b
  | _ => .skip
def rA : Code → Code
  | .rangeFunc _ _ a _ => a
  | _ => .skip
def rB : Code → Code
  | .rangeFunc _ _ _ b => b
  | _ => .skip
def rOps : Code → Array Oper
  | .region _ ops _ => ops
  | _ => #[]

namespace F
abbrev main_main : Nat := 0
abbrev gosem_cut : Nat := 1
abbrev gosem_cut_init : Nat := 2
abbrev concordancelaw10_PoolPins : Nat := 3
abbrev concordancelaw10_PoolRefuses : Nat := 4
abbrev concordancelaw10_PoolPlays : Nat := 5
abbrev concordancelaw10_PoolKeeps : Nat := 6
abbrev concordancelaw10_speaks : Nat := 7
abbrev device_New : Nat := 8
abbrev twin_New : Nat := 9
abbrev pool_New : Nat := 10
abbrev concordancelaw10_PoolPins_c1 : Nat := 11
abbrev pool_Pool_Pin : Nat := 12
abbrev pool_Pool_Unpin : Nat := 13
abbrev pool_Pool_Held : Nat := 14
abbrev pool_Pool_Has : Nat := 15
abbrev pool_Pool_Evict : Nat := 16
abbrev concordancelaw10_PoolRefuses_c1 : Nat := 17
abbrev device_Device_Write : Nat := 18
abbrev pool_Pool_Put : Nat := 19
abbrev pool_Pool_Flush : Nat := 20
abbrev concordanceref09_New : Nat := 21
abbrev concordancelaw10_PoolPlays_c1 : Nat := 22
abbrev concordanceref10_Find : Nat := 23
abbrev page_Encode : Nat := 24
abbrev concordanceref10_Out : Nat := 25
abbrev concordanceref10_Write : Nat := 26
abbrev concordanceref10_Pages : Nat := 27
abbrev concordanceref10_Pin : Nat := 28
abbrev concordancelaw10_numbers : Nat := 29
abbrev twin_Area_Read : Nat := 30
abbrev concordancelaw10_PoolKeeps_c1 : Nat := 31
abbrev concordancelaw10_speaks_c1 : Nat := 32
abbrev device_Device_Size : Nat := 33
abbrev twin_Area_Pages : Nat := 34
abbrev order_Map_int_pool_frame_Get : Nat := 35
abbrev pool_Pool_space : Nat := 36
abbrev page_Whole : Nat := 37
abbrev order_Map_int_pool_frame_Set : Nat := 38
abbrev order_Recent_int_Use : Nat := 39
abbrev pool_Pool_pinned : Nat := 40
abbrev order_Map_int_pool_frame_All : Nat := 41
abbrev pool_Pool_out : Nat := 42
abbrev device_Device_command : Nat := 43
abbrev strings_Repeat : Nat := 44
abbrev pool_Pool_write : Nat := 45
abbrev page_Page_right : Nat := 46
abbrev page_Free : Nat := 47
abbrev strings_Builder_WriteString : Nat := 48
abbrev sum_Put : Nat := 49
abbrev strings_Builder_Len : Nat := 50
abbrev page_Build : Nat := 51
abbrev strings_Builder_String : Nat := 52
abbrev concordanceref10_Number : Nat := 53
abbrev twin_Area_there : Nat := 54
abbrev twin_Area_two : Nat := 55
abbrev order_Map_int_pool_frame_find : Nat := 56
abbrev order_Map_int_pool_frame_Len : Nat := 57
abbrev order_Recent_int_Oldest : Nat := 58
abbrev sum_Open : Nat := 59
abbrev page_noughts : Nat := 60
abbrev slices_Insert_rder_pair_int_pool_frame : Nat := 61
abbrev order_Recent_int_Drop : Nat := 62
abbrev order_each_int_pool_frame : Nat := 63
abbrev order_Map_int_pool_frame_Delete : Nat := 64
abbrev device_Device_fail : Nat := 65
abbrev math_bits_Mul : Nat := 66
abbrev strings_HasPrefix : Nat := 67
abbrev strings_Builder_Grow : Nat := 68
abbrev page_LSN : Nat := 69
abbrev twin_Area_Write : Nat := 70
abbrev page_within : Nat := 71
abbrev slices_ContainsFunc_page_Entry_page_Entry : Nat := 72
abbrev page_Page_right_c1 : Nat := 73
abbrev page_Size : Nat := 74
abbrev strings_Builder_copyCheck : Nat := 75
abbrev sum_Seal : Nat := 76
abbrev device_Device_Read : Nat := 77
abbrev slices_BinarySearchFunc_pair_int_pool_frame_int : Nat := 78
abbrev order_Map_int_pool_frame_find_c1 : Nat := 79
abbrev cmp_Compare_int : Nat := 80
abbrev slices_Clone_int_int : Nat := 81
abbrev order_Recent_int_Oldest_c1 : Nat := 82
abbrev sum_mark : Nat := 83
abbrev strings_Trim : Nat := 84
abbrev slices_overlaps_rder_pair_int_pool_frame : Nat := 85
abbrev slices_rotateRight_rder_pair_int_pool_frame : Nat := 86
abbrev slices_Index_int_int : Nat := 87
abbrev slices_Delete_int_int : Nat := 88
abbrev slices_Clone_rder_pair_int_pool_frame : Nat := 89
abbrev order_each_int_pool_frame_c1 : Nat := 90
abbrev slices_Delete_rder_pair_int_pool_frame : Nat := 91
abbrev math_bits_Mul32 : Nat := 92
abbrev math_bits_Mul64 : Nat := 93
abbrev internal_stringslite_HasPrefix : Nat := 94
abbrev strings_Builder_grow : Nat := 95
abbrev sum_Get : Nat := 96
abbrev twin_Area_round : Nat := 97
abbrev slices_IndexFunc_page_Entry_page_Entry : Nat := 98
abbrev internal_abi_NoEscape : Nat := 99
abbrev slices_Backward_evice_write_device_write : Nat := 100
abbrev cmp_isNaN_int : Nat := 101
abbrev sum_Sum : Nat := 102
abbrev strings_trimLeftByte : Nat := 103
abbrev strings_trimRightByte : Nat := 104
abbrev strings_makeASCIISet : Nat := 105
abbrev strings_trimLeftASCII : Nat := 106
abbrev strings_trimRightASCII : Nat := 107
abbrev strings_trimLeftUnicode : Nat := 108
abbrev strings_trimRightUnicode : Nat := 109
abbrev slices_rotateLeft_rder_pair_int_pool_frame : Nat := 110
abbrev internal_bytealg_MakeNoZero : Nat := 111
abbrev twin_name : Nat := 112
abbrev twin_Area_put : Nat := 113
abbrev device_Device_Sync : Nat := 114
abbrev slices_Backward_evice_write_device_write_c1 : Nat := 115
abbrev strings_asciiSet_contains : Nat := 116
abbrev unicode_utf8_DecodeRuneInString : Nat := 117
abbrev strings_ContainsRune : Nat := 118
abbrev unicode_utf8_DecodeLastRuneInString : Nat := 119
abbrev slices_Reverse_rder_pair_int_pool_frame : Nat := 120
abbrev unicode_utf8_decodeRuneInStringSlow : Nat := 121
abbrev strings_IndexRune : Nat := 122
abbrev unicode_utf8_RuneStart : Nat := 123
abbrev strings_IndexByte : Nat := 124
abbrev unicode_utf8_ValidRune : Nat := 125
abbrev internal_bytealg_Cutover : Nat := 126
abbrev internal_bytealg_IndexString : Nat := 127
abbrev internal_stringslite_IndexByte : Nat := 128
abbrev internal_bytealg_IndexByteString : Nat := 129
abbrev runtime_boundsError_Error : Nat := 130
abbrev runtime_boundsError_RuntimeError : Nat := 131
abbrev runtime_errorString_Error : Nat := 132
abbrev runtime_errorString_RuntimeError : Nat := 133
abbrev runtime_plainError_Error : Nat := 134
abbrev runtime_plainError_RuntimeError : Nat := 135
abbrev runtime_errorAddressString_Error : Nat := 136
abbrev runtime_errorAddressString_RuntimeError : Nat := 137
abbrev runtime_TypeAssertionError_Error : Nat := 138
abbrev runtime_TypeAssertionError_RuntimeError : Nat := 139
abbrev runtime_PanicNilError_Error : Nat := 140
abbrev runtime_PanicNilError_RuntimeError : Nat := 141
abbrev internal_abi_Type_Align : Nat := 142
abbrev internal_runtime_maps_unhashableTypeError_Error : Nat := 143
abbrev internal_runtime_maps_unhashableTypeError_RuntimeError : Nat := 144
abbrev device_Device_On : Nat := 145
abbrev strings_Builder_Reset : Nat := 146
abbrev order_Recent_int_Len : Nat := 147
abbrev internal_abi_Kind_String : Nat := 148
abbrev var_s_door_sum_turns_is_laid_by_its_own_initialiser_plain_data_look_11 : Nat := 149
abbrev var_s_door_gosem_cut_vars_holds_initialisers_alone_see_the_manifest_s_row_cutvarsword_look_11_test_files_too : Nat := 150
abbrev var_s_door_the_look_of_gosem_cut_vars_went_over_the_folder_that_the_caller_named_as_the_repository_s_root_look_11 : Nat := 151
abbrev var_s_door_unicode_utf8_acceptRanges_is_laid_by_its_own_initialiser_plain_data_look_11 : Nat := 152
abbrev var_s_door_unicode_utf8_first_is_laid_by_its_text_alone_pinned_1 : Nat := 153
abbrev gosem_cut_vars : Nat := 154
end F
end Go.Sx
end

section
set_option maxRecDepth 100000
set_option linter.unusedVariables false
namespace Go.Sx
open Go
/-- concordance/device.New -/
noncomputable def device_New_body : Code := (Go.Proofs.Tryz.f8.body).getD .skip

def device_New_g1 (K : Value → World → Prop) (ds : List Deferred) (x0 : Value) (x6 : Value) (x8 : Value) (w : World) : Prop :=
  pickV x6 (.bool true) x8 (fun t9_1 w =>
  cnd t9_1 (
  leaveW Pg ds (fun w => K (.tuple #[(.pointer none), (.int .i64 1)]) w) w) (
  run Pg (Instr.makeMap 71 none) (fun t11_2 w =>
  run Pg (Instr.build 74 #[(0, x0), (1, t11_2)]) (fun t12_3 w =>
  run Pg (Instr.box 74 t12_3) (fun t13_4 w =>
  leaveW Pg ds (fun w => K (.tuple #[t13_4, (.int .i64 0)]) w) w) w) w) w)) w

theorem device_New_g1_eq (K : Value → World → Prop) : opsG (op1W Pg) (rOps (cL (cL (cR device_New_body)))).toList ((groups (rOps (cL (cL (cR device_New_body)))).toList).drop 2) 5 (W Pg (cR (cL (cR device_New_body))) false (thenP (W Pg (cR (cR device_New_body)) false (retQ Pg [.tmp 2, .tmp 3] K)) (retQ Pg [.tmp 2, .tmp 3] K))) = (fun s w => device_New_g1 K s.ds (s.f 0) (s.f 6) (s.f 8) w) :=
  by kernel_rfl

def device_New (K : Value → World → Prop) (ds : List Deferred) (x0 : Value) (w : World) : Prop :=
  run Pg (binS .lss 3 true x0 (.int .i64 1)) (fun t5_5 w =>
  gcond t5_5 false (
  run Pg (binS .gtr 3 true x0 (.int .i64 4096)) (fun t8_6 w =>
  device_New_g1 K ds x0 t5_5 t8_6 w) w) (
  device_New_g1 K ds x0 t5_5 undef w)) w

theorem device_New_eq (K : Value → World → Prop) : W Pg device_New_body false (retQ Pg [.tmp 2, .tmp 3] K) = (fun s w => device_New K s.ds (s.f 0) w) :=
  Eq.trans (eqSeq (eqSeqL (eqSeqL (eqReg (rd := false) (id := 1) (ops := rOps (cL (cL (cR device_New_body)))) (by kernel_rfl) (eqPlain (eqGrd (device_New_g1_eq K))))))) (by kernel_rfl)

theorem device_New_ok : FnOk Pg F.device_New Go.Proofs.Tryz.f8 device_New_body 1 := ⟨Go.Proofs.Tryz.func8, by kernel_rfl, by kernel_rfl, by kernel_rfl, by kernel_rfl, by kernel_rfl⟩

theorem device_New_callS {K : Value → World → Prop} {x0 : Value} {w : World} (h : device_New K [] x0 w) : callS Pg F.device_New [x0] K w :=
  call_of_W device_New_ok (Eq.mpr (congrFun (congrFun (device_New_eq K) ⟨argFr [x0], []⟩) w) h)

theorem device_New_call {K : Value → World → Prop} {x0 : Value} {w : World} (h : device_New K [] x0 w) : call Pg F.device_New [x0] K w := .inl (device_New_callS h)

/-- (*concordance/device.Device).Size -/
noncomputable def device_Device_Size_body : Code := (Go.Proofs.Tryz.f33.body).getD .skip

def device_Device_Size (K : Value → World → Prop) (ds : List Deferred) (x0 : Value) (w : World) : Prop :=
  run Pg (binS .eql 24 true x0 (.pointer none)) (fun t4_1 w =>
  cnd t4_1 (
  leaveW Pg ds (fun w => K (.int .i64 0) w) w) (
  run Pg (nilS x0) (fun t6_2 w =>
  run Pg (Instr.fieldAt 74 t6_2 0) (fun t7_3 w =>
  run Pg (Instr.loadAt 3 t7_3) (fun t8_4 w =>
  leaveW Pg ds (fun w => K t8_4 w) w) w) w) w)) w

theorem device_Device_Size_eq (K : Value → World → Prop) : W Pg device_Device_Size_body false (retQ Pg [.tmp 2] K) = (fun s w => device_Device_Size K s.ds (s.f 0) w) :=
  by kernel_rfl

theorem device_Device_Size_ok : FnOk Pg F.device_Device_Size Go.Proofs.Tryz.f33 device_Device_Size_body 1 := ⟨Go.Proofs.Tryz.func33, by kernel_rfl, by kernel_rfl, by kernel_rfl, by kernel_rfl, by kernel_rfl⟩

theorem device_Device_Size_callS {K : Value → World → Prop} {x0 : Value} {w : World} (h : device_Device_Size K [] x0 w) : callS Pg F.device_Device_Size [x0] K w :=
  call_of_W device_Device_Size_ok (Eq.mpr (congrFun (congrFun (device_Device_Size_eq K) ⟨argFr [x0], []⟩) w) h)

theorem device_Device_Size_call {K : Value → World → Prop} {x0 : Value} {w : World} (h : device_Device_Size K [] x0 w) : call Pg F.device_Device_Size [x0] K w := .inl (device_Device_Size_callS h)

/-- (*concordance/device.Device).command -/
noncomputable def device_Device_command_body : Code := (Go.Proofs.Tryz.f43.body).getD .skip

def device_Device_command_j1 (K : Value → World → Prop) (ds : List Deferred) (x0 : Value) (w : World) : Prop :=
  run Pg (nilS x0) (fun t27_1 w =>
  run Pg (Instr.fieldAt 74 t27_1 6) (fun t28_2 w =>
  run Pg (Instr.loadAt 3 t28_2) (fun t29_3 w =>
  run Pg (binS .add 3 true t29_3 (.int .i64 1)) (fun t30_4 w =>
  run Pg (nilS x0) (fun t31_5 w =>
  run Pg (Instr.fieldAt 74 t31_5 6) (fun t32_6 w =>
  runU Pg (Instr.storeAt 3 t32_6 t30_4) (fun w =>
  leaveW Pg ds (fun w => K (.bool true) w) w) w) w) w) w) w) w) w

theorem device_Device_command_j1_eq (K : Value → World → Prop) : W Pg (cR (cR (cR device_Device_command_body))) false (retQ Pg [.tmp 2] K) = (fun s w => device_Device_command_j1 K s.ds (s.f 0) w) :=
  by kernel_rfl

def device_Device_command (K : Value → World → Prop) (ds : List Deferred) (x0 : Value) (w : World) : Prop :=
  run Pg (nilS x0) (fun t4_7 w =>
  run Pg (Instr.fieldAt 74 t4_7 4) (fun t5_8 w =>
  run Pg (Instr.loadAt 3 t5_8) (fun t6_9 w =>
  run Pg (binS .eql 3 true t6_9 (.int .i64 1)) (fun t7_10 w =>
  cnd t7_10 (
  run Pg (nilS x0) (fun t10_11 w =>
  run Pg (Instr.fieldAt 74 t10_11 5) (fun t11_12 w =>
  run Pg (Instr.loadAt 22 t11_12) (fun t12_13 w =>
  call Pg F.device_Device_fail [x0, t12_13] (fun t13_14 w =>
  leaveW Pg ds (fun w => K (.bool false) w) w) w) w) w) w) (
  run Pg (nilS x0) (fun t15_15 w =>
  run Pg (Instr.fieldAt 74 t15_15 4) (fun t16_16 w =>
  run Pg (Instr.loadAt 3 t16_16) (fun t17_17 w =>
  run Pg (binS .gtr 3 true t17_17 (.int .i64 1)) (fun t18_18 w =>
  cnd t18_18 (
  run Pg (nilS x0) (fun t20_19 w =>
  run Pg (Instr.fieldAt 74 t20_19 4) (fun t21_20 w =>
  run Pg (Instr.loadAt 3 t21_20) (fun t22_21 w =>
  run Pg (binS .sub 3 true t22_21 (.int .i64 1)) (fun t23_22 w =>
  run Pg (nilS x0) (fun t24_23 w =>
  run Pg (Instr.fieldAt 74 t24_23 4) (fun t25_24 w =>
  runU Pg (Instr.storeAt 3 t25_24 t23_22) (fun w =>
  device_Device_command_j1 K ds x0 w) w) w) w) w) w) w) w) (
  device_Device_command_j1 K ds x0 w)) w) w) w) w)) w) w) w) w

theorem device_Device_command_eq (K : Value → World → Prop) : W Pg device_Device_command_body false (retQ Pg [.tmp 2] K) = (fun s w => device_Device_command K s.ds (s.f 0) w) :=
  Eq.trans (eqSeq (eqSeq (eqSeq (device_Device_command_j1_eq K)))) (by kernel_rfl)

theorem device_Device_command_ok : FnOk Pg F.device_Device_command Go.Proofs.Tryz.f43 device_Device_command_body 1 := ⟨Go.Proofs.Tryz.func43, by kernel_rfl, by kernel_rfl, by kernel_rfl, by kernel_rfl, by kernel_rfl⟩

theorem device_Device_command_callS {K : Value → World → Prop} {x0 : Value} {w : World} (h : device_Device_command K [] x0 w) : callS Pg F.device_Device_command [x0] K w :=
  call_of_W device_Device_command_ok (Eq.mpr (congrFun (congrFun (device_Device_command_eq K) ⟨argFr [x0], []⟩) w) h)

theorem device_Device_command_call {K : Value → World → Prop} {x0 : Value} {w : World} (h : device_Device_command K [] x0 w) : call Pg F.device_Device_command [x0] K w := .inl (device_Device_command_callS h)

/-- (*concordance/device.Device).fail -/
noncomputable def device_Device_fail_body : Code := (Go.Proofs.Tryz.f65.body).getD .skip

def device_Device_fail_j1 (K : Value → World → Prop) (ds : List Deferred) (x0 : Value) (w : World) : Prop :=
  run Pg (nilS x0) (fun t42_1 w =>
  run Pg (Instr.fieldAt 74 t42_1 2) (fun t43_2 w =>
  runU Pg (Instr.storeAt 72 t43_2 (.slice none 0 0)) (fun w =>
  run Pg (nilS x0) (fun t44_3 w =>
  run Pg (Instr.fieldAt 74 t44_3 3) (fun t45_4 w =>
  runU Pg (Instr.storeAt 4 t45_4 (.bool true)) (fun w =>
  run Pg (nilS x0) (fun t46_5 w =>
  run Pg (Instr.fieldAt 74 t46_5 4) (fun t47_6 w =>
  runU Pg (Instr.storeAt 3 t47_6 (.int .i64 0)) (fun w =>
  run Pg (nilS x0) (fun t48_7 w =>
  run Pg (Instr.fieldAt 74 t48_7 5) (fun t49_8 w =>
  runU Pg (Instr.storeAt 22 t49_8 (.slice none 0 0)) (fun w =>
  leaveW Pg ds (fun w => K (.tuple #[]) w) w) w) w) w) w) w) w) w) w) w) w) w) w

theorem device_Device_fail_j1_eq (K : Value → World → Prop) : W Pg (cR device_Device_fail_body) false (retQ Pg [] K) = (fun s w => device_Device_fail_j1 K s.ds (s.f 0) w) :=
  by kernel_rfl

def device_Device_fail_j3 (K : Value → World → Prop) (X1 : List Deferred × Value × Value × Value × Value × Value → World → Prop) (ds : List Deferred) (x0 : Value) (x1 : Value) (x9 : Value) (x10 : Value) (x11 : Value) (w : World) : Prop :=
  run Pg (binS .add 3 true x11 (.int .i64 1)) (fun t37_9 w =>
  X1 (ds, x0, x1, x9, x10, t37_9) w) w

theorem device_Device_fail_j3_eq (K : Value → World → Prop) (X1 : List Deferred × Value × Value × Value × Value × Value → World → Prop) : W Pg (cR (cR (cR (cB (cB (cR (cL device_Device_fail_body))))))) false (thenP (fun s w => X1 (s.ds, s.f 0, s.f 1, s.f 9, s.f 10, s.f 11) w) (blockP 0 (thenP (fun s w => device_Device_fail_j1 K s.ds (s.f 0) w) (retQ Pg [] K)))) = (fun s w => device_Device_fail_j3 K X1 s.ds (s.f 0) (s.f 1) (s.f 9) (s.f 10) (s.f 11) w) :=
  by kernel_rfl

def device_Device_fail_g4 (K : Value → World → Prop) (X1 : List Deferred × Value × Value × Value × Value × Value → World → Prop) (ds : List Deferred) (x0 : Value) (x1 : Value) (x5 : Value) (x9 : Value) (x10 : Value) (x11 : Value) (x19 : Value) (x27 : Value) (w : World) : Prop :=
  pickV x19 x27 (.bool false) (fun t28_10 w =>
  cnd t28_10 (
  rn Pg (fun _ => True) (nilS x0) (fun t30_11 w =>
  rn Pg (fun _ => True) (Instr.fieldAt 74 t30_11 1) (fun t31_12 w =>
  rn Pg (fun w' => w' = w) (Instr.loadAt 71 t31_12) (fun t32_13 w =>
  rn Pg (fun _ => True) (Instr.fieldAt 100 x5 0) (fun t33_14 w =>
  rn Pg (fun w' => w' = w) (Instr.loadAt 3 t33_14) (fun t34_15 w =>
  rn Pg (fun _ => True) (Instr.fieldAt 100 x5 1) (fun t35_16 w =>
  rn Pg (fun w' => w' = w) (Instr.loadAt 9 t35_16) (fun t36_17 w =>
  runU Pg (Instr.mapUpdate 71 t32_13 t34_15 t36_17) (fun w =>
  (fun _ => True) w ∧ device_Device_fail_j3 K X1 ds x0 x1 x9 x10 x11 w) w) w) w) w) w) w) w) w.drew) (
  device_Device_fail_j3 K X1 ds x0 x1 x9 x10 x11 w)) w

theorem device_Device_fail_g4_eq (K : Value → World → Prop) (X1 : List Deferred × Value × Value × Value × Value × Value → World → Prop) : opsG (op1W Pg) (rOps (cL (cR (cB (cL (cR (cR (cB (cB (cR (cL device_Device_fail_body))))))))))).toList ((groups (rOps (cL (cR (cB (cL (cR (cR (cB (cB (cR (cL device_Device_fail_body))))))))))).toList).drop 2) 12 (W Pg (cR (cR (cB (cL (cR (cR (cB (cB (cR (cL device_Device_fail_body)))))))))) false (blockP 1 (thenP (fun s w => device_Device_fail_j3 K X1 s.ds (s.f 0) (s.f 1) (s.f 9) (s.f 10) (s.f 11) w) (thenP (fun s w => X1 (s.ds, s.f 0, s.f 1, s.f 9, s.f 10, s.f 11) w) (blockP 0 (thenP (fun s w => device_Device_fail_j1 K s.ds (s.f 0) w) (retQ Pg [] K))))))) = (fun s w => device_Device_fail_g4 K X1 s.ds (s.f 0) (s.f 1) (s.f 5) (s.f 9) (s.f 10) (s.f 11) (s.f 19) (s.f 27) w) :=
  by kernel_rfl

def device_Device_fail_l2 (K : Value → World → Prop) (X1 : List Deferred × Value × Value × Value × Value × Value → World → Prop) (st : List Deferred × Value × Value × Value × Value × Value) (w : World) : Prop :=
  run Pg (binS .lss 3 false st.2.2.2.2.2 st.2.2.2.2.1) (fun t12_18 w =>
  cnd t12_18 (
  run Pg (Instr.indexAt 72 st.2.2.2.1 st.2.2.2.2.2) (fun t14_19 w =>
  run Pg (Instr.loadAt 100 t14_19) (fun t15_20 w =>
  run Pg (Instr.alloc 100 true (.tuple #[])) (fun w_21 w =>
  runU Pg (Instr.storeAt 100 w_21 t15_20) (fun w =>
  run Pg (Builtin.len_ #[22] 3 #[st.2.2.1]) (fun t17_22 w =>
  run Pg (binS .gtr 3 true t17_22 (.int .i64 0)) (fun t18_23 w =>
  gcond t18_23 true (
  run Pg (Builtin.len_ #[22] 3 #[st.2.2.1]) (fun t23_24 w =>
  run Pg (binS .rem 3 false st.2.2.2.2.2 t23_24) (fun t24_25 w =>
  run Pg (Instr.indexAt 22 st.2.2.1 t24_25) (fun t25_26 w =>
  run Pg (Instr.loadAt 3 t25_26) (fun t26_27 w =>
  run Pg (binS .neq 3 true t26_27 (.int .i64 0)) (fun t27_28 w =>
  device_Device_fail_g4 K X1 st.1 st.2.1 st.2.2.1 w_21 st.2.2.2.1 st.2.2.2.2.1 st.2.2.2.2.2 t18_23 t27_28 w) w) w) w) w) w) (
  device_Device_fail_g4 K X1 st.1 st.2.1 st.2.2.1 w_21 st.2.2.2.1 st.2.2.2.2.1 st.2.2.2.2.2 t18_23 undef w)) w) w) w) w) w) w) (
  device_Device_fail_j1 K st.1 st.2.1 w)) w

theorem device_Device_fail_l2_eq (K : Value → World → Prop) (X1 : List Deferred × Value × Value × Value × Value × Value → World → Prop) : W Pg (cB (cB (cR (cL device_Device_fail_body)))) false (thenP (fun s w => X1 (s.ds, s.f 0, s.f 1, s.f 9, s.f 10, s.f 11) w) (blockP 0 (thenP (fun s w => device_Device_fail_j1 K s.ds (s.f 0) w) (retQ Pg [] K)))) = (fun s w => device_Device_fail_l2 K X1 (s.ds, s.f 0, s.f 1, s.f 9, s.f 10, s.f 11) w) :=
  Eq.trans (eqSeq (eqSeq ((eqSeq (device_Device_fail_j3_eq K X1)).trans (eqBlock (eqSeq (eqSeqL (eqReg (rd := false) (id := 3) (ops := rOps (cL (cR (cB (cL (cR (cR (cB (cB (cR (cL device_Device_fail_body))))))))))) (by kernel_rfl) (eqPlain (eqGrd (device_Device_fail_g4_eq K X1)))))))))) (by kernel_rfl)

theorem device_Device_fail_l2_mono (K : Value → World → Prop) : ∀ X Y : List Deferred × Value × Value × Value × Value × Value → World → Prop, (∀ t w, X t w → Y t w) → ∀ t w, device_Device_fail_l2 K X t w → device_Device_fail_l2 K Y t w :=
  loop_mono (fun s : St => ((s.ds, s.f 0, s.f 1, s.f 9, s.f 10, s.f 11) : List Deferred × Value × Value × Value × Value × Value)) (fun X1 => device_Device_fail_l2_eq K X1) (fun t => ⟨fun i => (bif Nat.beq i 0 then t.2.1 else (bif Nat.beq i 1 then t.2.2.1 else (bif Nat.beq i 9 then t.2.2.2.1 else (bif Nat.beq i 10 then t.2.2.2.2.1 else (bif Nat.beq i 11 then t.2.2.2.2.2 else undef))))), t.1⟩) (fun _ => rfl)

def device_Device_fail (K : Value → World → Prop) (ds : List Deferred) (x0 : Value) (x1 : Value) (w : World) : Prop :=
  run Pg (nilS x0) (fun t7_29 w =>
  run Pg (Instr.fieldAt 74 t7_29 2) (fun t8_30 w =>
  run Pg (Instr.loadAt 72 t8_30) (fun t9_31 w =>
  run Pg (Builtin.len_ #[72] 3 #[t9_31]) (fun t10_32 w =>
  Lp (device_Device_fail_l2 K) (ds, x0, x1, t9_31, t10_32, (.int .i64 0)) w) w) w) w) w

theorem device_Device_fail_eq (K : Value → World → Prop) : W Pg device_Device_fail_body false (retQ Pg [] K) = (fun s w => device_Device_fail K s.ds (s.f 0) (s.f 1) w) :=
  Eq.trans ((eqSeq (device_Device_fail_j1_eq K)).trans (eqSeq (eqBlock (eqLoop (rd := false) (fun s : St => ((s.ds, s.f 0, s.f 1, s.f 9, s.f 10, s.f 11) : List Deferred × Value × Value × Value × Value × Value)) (fun X1 => device_Device_fail_l2_eq K X1))))) (by kernel_rfl)

theorem device_Device_fail_ok : FnOk Pg F.device_Device_fail Go.Proofs.Tryz.f65 device_Device_fail_body 2 := ⟨Go.Proofs.Tryz.func65, by kernel_rfl, by kernel_rfl, by kernel_rfl, by kernel_rfl, by kernel_rfl⟩

theorem device_Device_fail_callS {K : Value → World → Prop} {x0 : Value} {x1 : Value} {w : World} (h : device_Device_fail K [] x0 x1 w) : callS Pg F.device_Device_fail [x0, x1] K w :=
  call_of_W device_Device_fail_ok (Eq.mpr (congrFun (congrFun (device_Device_fail_eq K) ⟨argFr [x0, x1], []⟩) w) h)

theorem device_Device_fail_call {K : Value → World → Prop} {x0 : Value} {x1 : Value} {w : World} (h : device_Device_fail K [] x0 x1 w) : call Pg F.device_Device_fail [x0, x1] K w := .inl (device_Device_fail_callS h)

/-- (*concordance/device.Device).Write -/
noncomputable def device_Device_Write_body : Code := (Go.Proofs.Tryz.f18.body).getD .skip

def device_Device_Write_g1 (K : Value → World → Prop) (ds : List Deferred) (x0 : Value) (x1 : Value) (x2 : Value) (x18 : Value) (x24 : Value) (w : World) : Prop :=
  pickV x18 (.bool true) x24 (fun t25_1 w =>
  cnd t25_1 (
  leaveW Pg ds (fun w => K (.int .i64 1) w) w) (
  run Pg (Builtin.len_ #[9] 3 #[x2]) (fun t28_2 w =>
  run Pg (binS .gtr 3 true t28_2 (.int .i64 256)) (fun t29_3 w =>
  cnd t29_3 (
  leaveW Pg ds (fun w => K (.int .i64 6) w) w) (
  call Pg F.device_Device_command [x0] (fun t32_4 w =>
  run Pg (Op.unary .not t32_4) (fun t33_5 w =>
  cnd t33_5 (
  leaveW Pg ds (fun w => K (.int .i64 7) w) w) (
  ∃ S : World → Prop, S w.drew ∧ (rn Pg (fun _ => True) (nilS x0) (fun t36_6 w =>
  rn Pg (fun _ => True) (Instr.fieldAt 74 t36_6 2) (fun t37_7 w =>
  rn Pg S (Instr.loadAt 72 t37_7) (fun t38_8 w =>
  rn Pg (fun _ => True) (Builtin.len_ #[9] 3 #[x2]) (fun t42_9 w =>
  rn Pg (fun _ => True) (binS .sub 3 true (.int .i64 256) t42_9) (fun t43_10 w =>
  call Pg F.strings_Repeat [(.string ⟨#[0]⟩), t43_10] (fun t44_11 w =>
  S w ∧ rn Pg (fun _ => True) (binS .add 9 false x2 t44_11) (fun t45_12 w =>
  rn Pg (fun _ => True) (Instr.build 100 #[(0, x1), (1, t45_12)]) (fun t46_13 w =>
  run Pg (Instr.buildSlice 72 1 #[(0, t46_13)]) (fun t47_14 w =>
  S w ∧ run Pg (Builtin.append_ #[72, 72] 72 #[t38_8, t47_14]) (fun t48_15 w =>
  rn Pg (fun _ => True) (nilS x0) (fun t49_16 w =>
  rn Pg (fun _ => True) (Instr.fieldAt 74 t49_16 2) (fun t50_17 w =>
  runU Pg (Instr.storeAt 72 t50_17 t48_15) (fun w =>
  leaveW Pg ds (fun w => K (.int .i64 0) w) w) w) w) w) w) w) w) w) w) w) w) w) w) w.drew))) w) w)) w) w)) w

theorem device_Device_Write_g1_eq (K : Value → World → Prop) : opsG (op1W Pg) (rOps (cL (cR (cR (cR (cR (cB (cL (cR device_Device_Write_body))))))))).toList ((groups (rOps (cL (cR (cR (cR (cR (cB (cL (cR device_Device_Write_body))))))))).toList).drop 2) 9 (W Pg (cR (cR (cR (cR (cR (cB (cL (cR device_Device_Write_body)))))))) false (blockP 0 (thenP (W Pg (cR (cR device_Device_Write_body)) false (retQ Pg [.tmp 6] K)) (retQ Pg [.tmp 6] K)))) = (fun s w => device_Device_Write_g1 K s.ds (s.f 0) (s.f 1) (s.f 2) (s.f 18) (s.f 24) w) :=
  by kernel_rfl

def device_Device_Write (K : Value → World → Prop) (ds : List Deferred) (x0 : Value) (x1 : Value) (x2 : Value) (w : World) : Prop :=
  run Pg (binS .eql 24 true x0 (.pointer none)) (fun t9_18 w =>
  cnd t9_18 (
  leaveW Pg ds (fun w => K (.int .i64 1) w) w) (
  run Pg (nilS x0) (fun t12_19 w =>
  run Pg (Instr.fieldAt 74 t12_19 3) (fun t13_20 w =>
  run Pg (Instr.loadAt 4 t13_20) (fun t14_21 w =>
  cnd t14_21 (
  leaveW Pg ds (fun w => K (.int .i64 7) w) w) (
  run Pg (binS .lss 3 true x1 (.int .i64 0)) (fun t17_22 w =>
  gcond t17_22 false (
  run Pg (nilS x0) (fun t21_23 w =>
  run Pg (Instr.fieldAt 74 t21_23 0) (fun t22_24 w =>
  run Pg (Instr.loadAt 3 t22_24) (fun t23_25 w =>
  run Pg (binS .geq 3 false x1 t23_25) (fun t24_26 w =>
  device_Device_Write_g1 K ds x0 x1 x2 t17_22 t24_26 w) w) w) w) w) (
  device_Device_Write_g1 K ds x0 x1 x2 t17_22 undef w)) w)) w) w) w)) w

theorem device_Device_Write_eq (K : Value → World → Prop) : W Pg device_Device_Write_body false (retQ Pg [.tmp 6] K) = (fun s w => device_Device_Write K s.ds (s.f 0) (s.f 1) (s.f 2) w) :=
  Eq.trans (eqSeq (eqSeqL (eqBlock (eqSeq (eqCond (rfl) (eqSeq (eqCond (rfl) (eqSeqL (eqReg (rd := false) (id := 5) (ops := rOps (cL (cR (cR (cR (cR (cB (cL (cR device_Device_Write_body))))))))) (by kernel_rfl) (eqPlain (eqGrd (device_Device_Write_g1_eq K)))))))))))) (by kernel_rfl)

theorem device_Device_Write_ok : FnOk Pg F.device_Device_Write Go.Proofs.Tryz.f18 device_Device_Write_body 3 := ⟨Go.Proofs.Tryz.func18, by kernel_rfl, by kernel_rfl, by kernel_rfl, by kernel_rfl, by kernel_rfl⟩

theorem device_Device_Write_callS {K : Value → World → Prop} {x0 : Value} {x1 : Value} {x2 : Value} {w : World} (h : device_Device_Write K [] x0 x1 x2 w) : callS Pg F.device_Device_Write [x0, x1, x2] K w :=
  call_of_W device_Device_Write_ok (Eq.mpr (congrFun (congrFun (device_Device_Write_eq K) ⟨argFr [x0, x1, x2], []⟩) w) h)

theorem device_Device_Write_call {K : Value → World → Prop} {x0 : Value} {x1 : Value} {x2 : Value} {w : World} (h : device_Device_Write K [] x0 x1 x2 w) : call Pg F.device_Device_Write [x0, x1, x2] K w := .inl (device_Device_Write_callS h)

/-- (*concordance/device.Device).Read -/
noncomputable def device_Device_Read_body : Code := (Go.Proofs.Tryz.f77.body).getD .skip

def device_Device_Read_j1 (K : Value → World → Prop) (ds : List Deferred) (x0 : Value) (x3 : Value) (x4 : Value) (x5 : Value) (w : World) : Prop :=
  run Pg (nilS x0) (fun t30_1 w =>
  run Pg (Instr.fieldAt 74 t30_1 2) (fun t31_2 w =>
  run Pg (Instr.loadAt 72 t31_2) (fun t32_3 w =>
  call Pg F.slices_Backward_evice_write_device_write [t32_3] (fun t33_4 w =>
  Rng Pg t33_4 2 (fun args beg B w =>
  run Pg (Instr.alloc 100 true (.tuple #[])) (fun w_17 w =>
  runU Pg (Instr.storeAt 100 w_17 (args.tail.headD undef)) (fun w =>
  beg (fun w =>
  run Pg (Instr.fieldAt 100 w_17 0) (fun t36_18 w =>
  run Pg (Instr.loadAt 3 t36_18) (fun t37_19 w =>
  run Pg (Instr.loadAt 3 x3) (fun t38_20 w =>
  run Pg (binS .eql 3 false t37_19 t38_20) (fun t39_21 w =>
  cnd t39_21 (
  run Pg (Instr.fieldAt 100 w_17 1) (fun t40_22 w =>
  run Pg (Instr.loadAt 9 t40_22) (fun t41_23 w =>
  runU Pg (Instr.storeAt 9 x4 t41_23) (fun w =>
  runU Pg (Instr.storeAt 25 x5 (.int .i64 0)) (fun w =>
  B (some .ret) w) w) w) w) w) (
  B none w)) w) w) w) w) w) w) w) (jumpN (fun ds w =>
  rn Pg (fun _ => True) (nilS x0) (fun t44_24 w =>
  rn Pg (fun _ => True) (Instr.fieldAt 74 t44_24 1) (fun t45_25 w =>
  rn Pg (fun w' => w' = w) (Instr.loadAt 71 t45_25) (fun t46_26 w =>
  rn Pg (fun w' => w' = w) (Instr.loadAt 3 x3) (fun t47_27 w =>
  rn Pg (fun w' => w' = w) (Instr.lookup 71 t46_26 t47_27 true) (fun t48_28 w =>
  rn Pg (fun _ => True) (Instr.extract t48_28 0) (fun t49_29 w =>
  rn Pg (fun _ => True) (Instr.extract t48_28 1) (fun t50_30 w =>
  cnd t50_30 (
  runU Pg (Instr.storeAt 9 x4 t49_29) (fun w =>
  runU Pg (Instr.storeAt 25 x5 (.int .i64 0)) (fun w =>
  leaveW Pg ds (fun w => rn Pg (fun w' => w' = w) (loadS 9 x4) (fun t4_31 w =>
  rn Pg (fun w' => w' = w) (loadS 25 x5) (fun t5_32 w =>
  K (.tuple #[t4_31, t5_32]) w) w) w) w) w) w) (
  call Pg F.strings_Repeat [(.string ⟨#[0]⟩), (.int .i64 256)] (fun t53_33 w =>
  runU Pg (Instr.storeAt 9 x4 t53_33) (fun w =>
  runU Pg (Instr.storeAt 25 x5 (.int .i64 0)) (fun w =>
  leaveW Pg ds (fun w => rn Pg (fun w' => w' = w) (loadS 9 x4) (fun t4_34 w =>
  rn Pg (fun w' => w' = w) (loadS 25 x5) (fun t5_35 w =>
  K (.tuple #[t4_34, t5_35]) w) w) w) w) w) w) w)) w) w) w) w) w) w) w.drew) (fun ds w =>
  leaveW Pg ds (fun w => rn Pg (fun w' => w' = w) (loadS 9 x4) (fun t4_36 w =>
  rn Pg (fun w' => w' = w) (loadS 25 x5) (fun t5_37 w =>
  K (.tuple #[t4_36, t5_37]) w) w) w) w) (fun id ds w =>
  bif Nat.beq id 1 then rn Pg (fun _ => True) (nilS x0) (fun t44_5 w =>
  rn Pg (fun _ => True) (Instr.fieldAt 74 t44_5 1) (fun t45_6 w =>
  rn Pg (fun w' => w' = w) (Instr.loadAt 71 t45_6) (fun t46_7 w =>
  rn Pg (fun w' => w' = w) (Instr.loadAt 3 x3) (fun t47_8 w =>
  rn Pg (fun w' => w' = w) (Instr.lookup 71 t46_7 t47_8 true) (fun t48_9 w =>
  rn Pg (fun _ => True) (Instr.extract t48_9 0) (fun t49_10 w =>
  rn Pg (fun _ => True) (Instr.extract t48_9 1) (fun t50_11 w =>
  cnd t50_11 (
  runU Pg (Instr.storeAt 9 x4 t49_10) (fun w =>
  runU Pg (Instr.storeAt 25 x5 (.int .i64 0)) (fun w =>
  leaveW Pg ds (fun w => rn Pg (fun w' => w' = w) (loadS 9 x4) (fun t4_12 w =>
  rn Pg (fun w' => w' = w) (loadS 25 x5) (fun t5_13 w =>
  K (.tuple #[t4_12, t5_13]) w) w) w) w) w) w) (
  call Pg F.strings_Repeat [(.string ⟨#[0]⟩), (.int .i64 256)] (fun t53_14 w =>
  runU Pg (Instr.storeAt 9 x4 t53_14) (fun w =>
  runU Pg (Instr.storeAt 25 x5 (.int .i64 0)) (fun w =>
  leaveW Pg ds (fun w => rn Pg (fun w' => w' = w) (loadS 9 x4) (fun t4_15 w =>
  rn Pg (fun w' => w' = w) (loadS 25 x5) (fun t5_16 w =>
  K (.tuple #[t4_15, t5_16]) w) w) w) w) w) w) w)) w) w) w) w) w) w) w.drew else False)) ds w) w) w) w) w

theorem device_Device_Read_j1_eq (K : Value → World → Prop) : W Pg (cR (cR device_Device_Read_body)) false (retQ Pg [.cell 4 9, .cell 5 25] K) = (fun s w => device_Device_Read_j1 K s.ds (s.f 0) (s.f 3) (s.f 4) (s.f 5) w) :=
  Eq.trans (eqSeqL (eqSeq (eqBlock (eqRng (asg := rA (cB (cR (cL (cR (cR device_Device_Read_body)))))) (body := rB (cB (cR (cL (cR (cR device_Device_Read_body)))))) (fun beg B => rfl))))) (by kernel_rfl)

def device_Device_Read_g2 (K : Value → World → Prop) (ds : List Deferred) (x0 : Value) (x3 : Value) (x4 : Value) (x5 : Value) (x21 : Value) (x27 : Value) (w : World) : Prop :=
  pickV x21 (.bool true) x27 (fun t28_38 w =>
  cnd t28_38 (
  runU Pg (Instr.storeAt 9 x4 (.string ⟨#[]⟩)) (fun w =>
  runU Pg (Instr.storeAt 25 x5 (.int .i64 1)) (fun w =>
  leaveW Pg ds (fun w => rn Pg (fun w' => w' = w) (loadS 9 x4) (fun t4_39 w =>
  rn Pg (fun w' => w' = w) (loadS 25 x5) (fun t5_40 w =>
  K (.tuple #[t4_39, t5_40]) w) w) w) w) w) w) (
  device_Device_Read_j1 K ds x0 x3 x4 x5 w)) w

theorem device_Device_Read_g2_eq (K : Value → World → Prop) : opsG (op1T Pg (fun _ => True) (masks (rOps (cL (cR (cR (cR (cR (cB (cL (cR device_Device_Read_body))))))))).toList) (rOps (cL (cR (cR (cR (cR (cB (cL (cR device_Device_Read_body))))))))).toList) (rOps (cL (cR (cR (cR (cR (cB (cL (cR device_Device_Read_body))))))))).toList ((groups (rOps (cL (cR (cR (cR (cR (cB (cL (cR device_Device_Read_body))))))))).toList).drop 2) 9 (W Pg (cR (cR (cR (cR (cR (cB (cL (cR device_Device_Read_body)))))))) false (blockP 0 (thenP (fun s w => device_Device_Read_j1 K s.ds (s.f 0) (s.f 3) (s.f 4) (s.f 5) w) (retQ Pg [.cell 4 9, .cell 5 25] K)))) = (fun s w => device_Device_Read_g2 K s.ds (s.f 0) (s.f 3) (s.f 4) (s.f 5) (s.f 21) (s.f 27) w) :=
  by kernel_rfl

def device_Device_Read (K : Value → World → Prop) (ds : List Deferred) (x0 : Value) (x1 : Value) (w : World) : Prop :=
  run Pg (Instr.box 3 x1) (fun i_41 w =>
  run Pg (Instr.alloc 9 true (.tuple #[])) (fun t4_42 w =>
  run Pg (Instr.alloc 25 true (.tuple #[])) (fun t5_43 w =>
  run Pg (binS .eql 24 true x0 (.pointer none)) (fun t12_44 w =>
  cnd t12_44 (
  runU Pg (Instr.storeAt 9 t4_42 (.string ⟨#[]⟩)) (fun w =>
  runU Pg (Instr.storeAt 25 t5_43 (.int .i64 1)) (fun w =>
  leaveW Pg ds (fun w => rn Pg (fun w' => w' = w) (loadS 9 t4_42) (fun t4_45 w =>
  rn Pg (fun w' => w' = w) (loadS 25 t5_43) (fun t5_46 w =>
  K (.tuple #[t4_45, t5_46]) w) w) w) w) w) w) (
  run Pg (nilS x0) (fun t15_47 w =>
  run Pg (Instr.fieldAt 74 t15_47 3) (fun t16_48 w =>
  run Pg (Instr.loadAt 4 t16_48) (fun t17_49 w =>
  cnd t17_49 (
  runU Pg (Instr.storeAt 9 t4_42 (.string ⟨#[]⟩)) (fun w =>
  runU Pg (Instr.storeAt 25 t5_43 (.int .i64 7)) (fun w =>
  leaveW Pg ds (fun w => rn Pg (fun w' => w' = w) (loadS 9 t4_42) (fun t4_50 w =>
  rn Pg (fun w' => w' = w) (loadS 25 t5_43) (fun t5_51 w =>
  K (.tuple #[t4_50, t5_51]) w) w) w) w) w) w) (
  rn Pg (fun w' => w' = w.drew) (Instr.loadAt 3 i_41) (fun t19_52 w =>
  rn Pg (fun _ => True) (binS .lss 3 true t19_52 (.int .i64 0)) (fun t20_53 w =>
  gcond t20_53 false (
  rn Pg (fun w' => w' = w) (Instr.loadAt 3 i_41) (fun t22_54 w =>
  rn Pg (fun _ => True) (nilS x0) (fun t24_55 w =>
  rn Pg (fun _ => True) (Instr.fieldAt 74 t24_55 0) (fun t25_56 w =>
  rn Pg (fun w' => w' = w) (Instr.loadAt 3 t25_56) (fun t26_57 w =>
  rn Pg (fun _ => True) (binS .geq 3 false t22_54 t26_57) (fun t27_58 w =>
  device_Device_Read_g2 K ds x0 i_41 t4_42 t5_43 t20_53 t27_58 w) w) w) w) w) w) (
  device_Device_Read_g2 K ds x0 i_41 t4_42 t5_43 t20_53 undef w)) w) w.drew)) w) w) w)) w) w) w) w

theorem device_Device_Read_eq (K : Value → World → Prop) : W Pg device_Device_Read_body false (retQ Pg [.cell 4 9, .cell 5 25] K) = (fun s w => device_Device_Read K s.ds (s.f 0) (s.f 1) w) :=
  Eq.trans (eqSeq ((eqSeq (device_Device_Read_j1_eq K)).trans (eqBlock (eqSeq (eqCond (rfl) (eqSeq (eqCond (rfl) (eqSeqL (eqDraw0 (rd := false) (id := 5) (ops := rOps (cL (cR (cR (cR (cR (cB (cL (cR device_Device_Read_body))))))))) (by kernel_rfl) (by kernel_rfl) (by kernel_rfl) (eqPlain (eqGrd (device_Device_Read_g2_eq K)))))))))))) (by kernel_rfl)

theorem device_Device_Read_ok : FnOk Pg F.device_Device_Read Go.Proofs.Tryz.f77 device_Device_Read_body 2 := ⟨Go.Proofs.Tryz.func77, by kernel_rfl, by kernel_rfl, by kernel_rfl, by kernel_rfl, by kernel_rfl⟩

theorem device_Device_Read_callS {K : Value → World → Prop} {x0 : Value} {x1 : Value} {w : World} (h : device_Device_Read K [] x0 x1 w) : callS Pg F.device_Device_Read [x0, x1] K w :=
  call_of_W device_Device_Read_ok (Eq.mpr (congrFun (congrFun (device_Device_Read_eq K) ⟨argFr [x0, x1], []⟩) w) h)

theorem device_Device_Read_call {K : Value → World → Prop} {x0 : Value} {x1 : Value} {w : World} (h : device_Device_Read K [] x0 x1 w) : call Pg F.device_Device_Read [x0, x1] K w := .inl (device_Device_Read_callS h)

/-- slices.Backward[[]concordance/device.write,concordance/device.write] -/
noncomputable def slices_Backward_evice_write_device_write_body : Code := (Go.Proofs.Tryz.f100.body).getD .skip

def slices_Backward_evice_write_device_write (K : Value → World → Prop) (ds : List Deferred) (x0 : Value) (w : World) : Prop :=
  run Pg (Instr.box 72 x0) (fun s_1 w =>
  run Pg (Instr.makeFunc (.func 115) #[] #[s_1]) (fun t3_2 w =>
  leaveW Pg ds (fun w => K t3_2 w) w) w) w

theorem slices_Backward_evice_write_device_write_eq (K : Value → World → Prop) : W Pg slices_Backward_evice_write_device_write_body false (retQ Pg [.tmp 2] K) = (fun s w => slices_Backward_evice_write_device_write K s.ds (s.f 0) w) :=
  by kernel_rfl

theorem slices_Backward_evice_write_device_write_ok : FnOk Pg F.slices_Backward_evice_write_device_write Go.Proofs.Tryz.f100 slices_Backward_evice_write_device_write_body 1 := ⟨Go.Proofs.Tryz.func100, by kernel_rfl, by kernel_rfl, by kernel_rfl, by kernel_rfl, by kernel_rfl⟩

theorem slices_Backward_evice_write_device_write_callS {K : Value → World → Prop} {x0 : Value} {w : World} (h : slices_Backward_evice_write_device_write K [] x0 w) : callS Pg F.slices_Backward_evice_write_device_write [x0] K w :=
  call_of_W slices_Backward_evice_write_device_write_ok (Eq.mpr (congrFun (congrFun (slices_Backward_evice_write_device_write_eq K) ⟨argFr [x0], []⟩) w) h)

theorem slices_Backward_evice_write_device_write_call {K : Value → World → Prop} {x0 : Value} {w : World} (h : slices_Backward_evice_write_device_write K [] x0 w) : call Pg F.slices_Backward_evice_write_device_write [x0] K w := .inl (slices_Backward_evice_write_device_write_callS h)

/-- slices.Backward[[]concordance/device.write,concordance/device.write]$1 -/
noncomputable def slices_Backward_evice_write_device_write_c1_body : Code := (Go.Proofs.Tryz.f115.body).getD .skip

def slices_Backward_evice_write_device_write_c1_l1 (K : Value → World → Prop) (X1 : List Deferred × Value × Value × Value → World → Prop) (st : List Deferred × Value × Value × Value) (w : World) : Prop :=
  run Pg (binS .geq 3 true st.2.2.2 (.int .i64 0)) (fun t8_1 w =>
  cnd t8_1 (
  run Pg (Instr.loadAt 72 st.2.2.1) (fun t13_2 w =>
  run Pg (Instr.indexAt 72 t13_2 st.2.2.2) (fun t15_3 w =>
  run Pg (Instr.loadAt 100 t15_3) (fun t16_4 w =>
  callV Pg st.2.1 [st.2.2.2, t16_4] (fun t17_5 w =>
  run Pg (Op.unary .not t17_5) (fun t18_6 w =>
  cnd t18_6 (
  leaveW Pg st.1 (fun w => K (.tuple #[]) w) w) (
  run Pg (binS .sub 3 true st.2.2.2 (.int .i64 1)) (fun t10_7 w =>
  X1 (st.1, st.2.1, st.2.2.1, t10_7) w) w)) w) w) w) w) w) (
  leaveW Pg st.1 (fun w => K (.tuple #[]) w) w)) w

theorem slices_Backward_evice_write_device_write_c1_l1_eq (K : Value → World → Prop) (X1 : List Deferred × Value × Value × Value → World → Prop) : W Pg (cB (cB (cR slices_Backward_evice_write_device_write_c1_body))) false (thenP (fun s w => X1 (s.ds, s.f 0, s.f 1, s.f 3) w) (blockP 0 (retQ Pg [] K))) = (fun s w => slices_Backward_evice_write_device_write_c1_l1 K X1 (s.ds, s.f 0, s.f 1, s.f 3) w) :=
  by kernel_rfl

theorem slices_Backward_evice_write_device_write_c1_l1_mono (K : Value → World → Prop) : ∀ X Y : List Deferred × Value × Value × Value → World → Prop, (∀ t w, X t w → Y t w) → ∀ t w, slices_Backward_evice_write_device_write_c1_l1 K X t w → slices_Backward_evice_write_device_write_c1_l1 K Y t w :=
  loop_mono (fun s : St => ((s.ds, s.f 0, s.f 1, s.f 3) : List Deferred × Value × Value × Value)) (fun X1 => slices_Backward_evice_write_device_write_c1_l1_eq K X1) (fun t => ⟨fun i => (bif Nat.beq i 0 then t.2.1 else (bif Nat.beq i 1 then t.2.2.1 else (bif Nat.beq i 3 then t.2.2.2 else undef))), t.1⟩) (fun _ => rfl)

def slices_Backward_evice_write_device_write_c1 (K : Value → World → Prop) (ds : List Deferred) (x0 : Value) (x1 : Value) (w : World) : Prop :=
  run Pg (Instr.loadAt 72 x1) (fun t4_8 w =>
  run Pg (Builtin.len_ #[72] 3 #[t4_8]) (fun t5_9 w =>
  run Pg (binS .sub 3 true t5_9 (.int .i64 1)) (fun t6_10 w =>
  Lp (slices_Backward_evice_write_device_write_c1_l1 K) (ds, x0, x1, t6_10) w) w) w) w

theorem slices_Backward_evice_write_device_write_c1_eq (K : Value → World → Prop) : W Pg slices_Backward_evice_write_device_write_c1_body false (retQ Pg [] K) = (fun s w => slices_Backward_evice_write_device_write_c1 K s.ds (s.f 0) (s.f 1) w) :=
  Eq.trans (eqSeq (eqBlock (eqLoop (rd := false) (fun s : St => ((s.ds, s.f 0, s.f 1, s.f 3) : List Deferred × Value × Value × Value)) (fun X1 => slices_Backward_evice_write_device_write_c1_l1_eq K X1)))) (by kernel_rfl)

theorem slices_Backward_evice_write_device_write_c1_ok : FnOk Pg F.slices_Backward_evice_write_device_write_c1 Go.Proofs.Tryz.f115 slices_Backward_evice_write_device_write_c1_body 2 := ⟨Go.Proofs.Tryz.func115, by kernel_rfl, by kernel_rfl, by kernel_rfl, by kernel_rfl, by kernel_rfl⟩

theorem slices_Backward_evice_write_device_write_c1_callS {K : Value → World → Prop} {x0 : Value} {x1 : Value} {w : World} (h : slices_Backward_evice_write_device_write_c1 K [] x0 x1 w) : callS Pg F.slices_Backward_evice_write_device_write_c1 [x0, x1] K w :=
  call_of_W slices_Backward_evice_write_device_write_c1_ok (Eq.mpr (congrFun (congrFun (slices_Backward_evice_write_device_write_c1_eq K) ⟨argFr [x0, x1], []⟩) w) h)

theorem slices_Backward_evice_write_device_write_c1_call {K : Value → World → Prop} {x0 : Value} {x1 : Value} {w : World} (h : slices_Backward_evice_write_device_write_c1 K [] x0 x1 w) : call Pg F.slices_Backward_evice_write_device_write_c1 [x0, x1] K w := .inl (slices_Backward_evice_write_device_write_c1_callS h)

/-- (*concordance/device.Device).Sync -/
noncomputable def device_Device_Sync_body : Code := (Go.Proofs.Tryz.f114.body).getD .skip

def device_Device_Sync_j2 (K : Value → World → Prop) (ds : List Deferred) (x0 : Value) (w : World) : Prop :=
  run Pg (nilS x0) (fun t35_1 w =>
  run Pg (Instr.fieldAt 74 t35_1 2) (fun t36_2 w =>
  runU Pg (Instr.storeAt 72 t36_2 (.slice none 0 0)) (fun w =>
  leaveW Pg ds (fun w => K (.int .i64 0) w) w) w) w) w

theorem device_Device_Sync_j2_eq (K : Value → World → Prop) : W Pg (cR (cR (cR device_Device_Sync_body))) false (retQ Pg [.tmp 2] K) = (fun s w => device_Device_Sync_j2 K s.ds (s.f 0) w) :=
  by kernel_rfl

def device_Device_Sync_l3 (K : Value → World → Prop) (X1 : List Deferred × Value × Value × Value × Value → World → Prop) (st : List Deferred × Value × Value × Value × Value) (w : World) : Prop :=
  run Pg (binS .lss 3 false st.2.2.2.2 st.2.2.2.1) (fun t22_3 w =>
  cnd t22_3 (
  run Pg (Instr.indexAt 72 st.2.2.1 st.2.2.2.2) (fun t23_4 w =>
  run Pg (Instr.loadAt 100 t23_4) (fun t24_5 w =>
  run Pg (Instr.alloc 100 true (.tuple #[])) (fun w_6 w =>
  runU Pg (Instr.storeAt 100 w_6 t24_5) (fun w =>
  rn Pg (fun _ => True) (nilS st.2.1) (fun t26_7 w =>
  rn Pg (fun _ => True) (Instr.fieldAt 74 t26_7 1) (fun t27_8 w =>
  rn Pg (fun w' => w' = w) (Instr.loadAt 71 t27_8) (fun t28_9 w =>
  rn Pg (fun _ => True) (Instr.fieldAt 100 w_6 0) (fun t29_10 w =>
  rn Pg (fun w' => w' = w) (Instr.loadAt 3 t29_10) (fun t30_11 w =>
  rn Pg (fun _ => True) (Instr.fieldAt 100 w_6 1) (fun t31_12 w =>
  rn Pg (fun w' => w' = w) (Instr.loadAt 9 t31_12) (fun t32_13 w =>
  runU Pg (Instr.mapUpdate 71 t28_9 t30_11 t32_13) (fun w =>
  (fun _ => True) w ∧ run Pg (binS .add 3 true st.2.2.2.2 (.int .i64 1)) (fun t33_14 w =>
  X1 (st.1, st.2.1, st.2.2.1, st.2.2.2.1, t33_14) w) w) w) w) w) w) w) w) w) w.drew) w) w) w) w) (
  device_Device_Sync_j2 K st.1 st.2.1 w)) w

theorem device_Device_Sync_l3_eq (K : Value → World → Prop) (X1 : List Deferred × Value × Value × Value × Value → World → Prop) : W Pg (cB (cB (cR (cL (cR (cR device_Device_Sync_body)))))) false (thenP (fun s w => X1 (s.ds, s.f 0, s.f 19, s.f 20, s.f 21) w) (blockP 1 (thenP (fun s w => device_Device_Sync_j2 K s.ds (s.f 0) w) (retQ Pg [.tmp 2] K)))) = (fun s w => device_Device_Sync_l3 K X1 (s.ds, s.f 0, s.f 19, s.f 20, s.f 21) w) :=
  by kernel_rfl

theorem device_Device_Sync_l3_mono (K : Value → World → Prop) : ∀ X Y : List Deferred × Value × Value × Value × Value → World → Prop, (∀ t w, X t w → Y t w) → ∀ t w, device_Device_Sync_l3 K X t w → device_Device_Sync_l3 K Y t w :=
  loop_mono (fun s : St => ((s.ds, s.f 0, s.f 19, s.f 20, s.f 21) : List Deferred × Value × Value × Value × Value)) (fun X1 => device_Device_Sync_l3_eq K X1) (fun t => ⟨fun i => (bif Nat.beq i 0 then t.2.1 else (bif Nat.beq i 19 then t.2.2.1 else (bif Nat.beq i 20 then t.2.2.2.1 else (bif Nat.beq i 21 then t.2.2.2.2 else undef)))), t.1⟩) (fun _ => rfl)

def device_Device_Sync_j1 (K : Value → World → Prop) (ds : List Deferred) (x0 : Value) (w : World) : Prop :=
  run Pg (nilS x0) (fun t17_15 w =>
  run Pg (Instr.fieldAt 74 t17_15 2) (fun t18_16 w =>
  run Pg (Instr.loadAt 72 t18_16) (fun t19_17 w =>
  run Pg (Builtin.len_ #[72] 3 #[t19_17]) (fun t20_18 w =>
  Lp (device_Device_Sync_l3 K) (ds, x0, t19_17, t20_18, (.int .i64 0)) w) w) w) w) w

theorem device_Device_Sync_j1_eq (K : Value → World → Prop) : W Pg (cR (cR device_Device_Sync_body)) false (retQ Pg [.tmp 2] K) = (fun s w => device_Device_Sync_j1 K s.ds (s.f 0) w) :=
  Eq.trans ((eqSeq (device_Device_Sync_j2_eq K)).trans (eqSeq (eqBlock (eqLoop (rd := false) (fun s : St => ((s.ds, s.f 0, s.f 19, s.f 20, s.f 21) : List Deferred × Value × Value × Value × Value)) (fun X1 => device_Device_Sync_l3_eq K X1))))) (by kernel_rfl)

def device_Device_Sync_j4 (K : Value → World → Prop) (ds : List Deferred) (x0 : Value) (x8 : Value) (w : World) : Prop :=
  cnd x8 (
  leaveW Pg ds (fun w => K (.int .i64 7) w) w) (
  device_Device_Sync_j1 K ds x0 w)

theorem device_Device_Sync_j4_eq (K : Value → World → Prop) : W Pg (cR (cR (cR (cB (cL (cR device_Device_Sync_body)))))) false (blockP 0 (thenP (fun s w => device_Device_Sync_j1 K s.ds (s.f 0) w) (retQ Pg [.tmp 2] K))) = (fun s w => device_Device_Sync_j4 K s.ds (s.f 0) (s.f 8) w) :=
  by kernel_rfl

def device_Device_Sync (K : Value → World → Prop) (ds : List Deferred) (x0 : Value) (w : World) : Prop :=
  run Pg (binS .eql 24 true x0 (.pointer none)) (fun t7_19 w =>
  cnd t7_19 (
  leaveW Pg ds (fun w => K (.int .i64 1) w) w) (
  run Pg (nilS x0) (fun t10_20 w =>
  run Pg (Instr.fieldAt 74 t10_20 3) (fun t11_21 w =>
  run Pg (Instr.loadAt 4 t11_21) (fun t12_22 w =>
  cnd t12_22 (
  device_Device_Sync_j4 K ds x0 t12_22 w) (
  call Pg F.device_Device_command [x0] (fun t14_23 w =>
  run Pg (Op.unary .not t14_23) (fun t15_24 w =>
  device_Device_Sync_j4 K ds x0 t15_24 w) w) w)) w) w) w)) w

theorem device_Device_Sync_eq (K : Value → World → Prop) : W Pg device_Device_Sync_body false (retQ Pg [.tmp 2] K) = (fun s w => device_Device_Sync K s.ds (s.f 0) w) :=
  Eq.trans (eqSeq ((eqSeq (device_Device_Sync_j1_eq K)).trans (eqBlock (eqSeq (eqCond (rfl) (eqSeq (device_Device_Sync_j4_eq K))))))) (by kernel_rfl)

theorem device_Device_Sync_ok : FnOk Pg F.device_Device_Sync Go.Proofs.Tryz.f114 device_Device_Sync_body 1 := ⟨Go.Proofs.Tryz.func114, by kernel_rfl, by kernel_rfl, by kernel_rfl, by kernel_rfl, by kernel_rfl⟩

theorem device_Device_Sync_callS {K : Value → World → Prop} {x0 : Value} {w : World} (h : device_Device_Sync K [] x0 w) : callS Pg F.device_Device_Sync [x0] K w :=
  call_of_W device_Device_Sync_ok (Eq.mpr (congrFun (congrFun (device_Device_Sync_eq K) ⟨argFr [x0], []⟩) w) h)

theorem device_Device_Sync_call {K : Value → World → Prop} {x0 : Value} {w : World} (h : device_Device_Sync K [] x0 w) : call Pg F.device_Device_Sync [x0] K w := .inl (device_Device_Sync_callS h)

/-- concordance/twin.New -/
noncomputable def twin_New_body : Code := (Go.Proofs.Tryz.f9.body).getD .skip

def twin_New_g5 (K : Value → World → Prop) (ds : List Deferred) (x0 : Value) (x1 : Value) (x2 : Value) (x3 : Value) (x4 : Value) (x54 : Value) (x68 : Value) (w : World) : Prop :=
  pickV x54 (.bool true) x68 (fun t69_1 w =>
  cnd t69_1 (
  leaveW Pg ds (fun w => K (.tuple #[(.pointer none), (.int .i64 1)]) w) w) (
  run Pg (Instr.build 77 #[(0, x0), (1, x1), (2, x2), (3, x3), (4, x4)]) (fun t75_2 w =>
  run Pg (Instr.box 77 t75_2) (fun t76_3 w =>
  leaveW Pg ds (fun w => K (.tuple #[t76_3, (.int .i64 0)]) w) w) w) w)) w

theorem twin_New_g5_eq (K : Value → World → Prop) : opsG (op1W Pg) (rOps (cL (cL (cR (cR twin_New_body))))).toList ((groups (rOps (cL (cL (cR (cR twin_New_body))))).toList).drop 6) 31 (W Pg (cR (cL (cR (cR twin_New_body)))) false (thenP (W Pg (cR (cR (cR twin_New_body))) false (retQ Pg [.tmp 10, .tmp 11] K)) (retQ Pg [.tmp 10, .tmp 11] K))) = (fun s w => twin_New_g5 K s.ds (s.f 0) (s.f 1) (s.f 2) (s.f 3) (s.f 4) (s.f 54) (s.f 68) w) :=
  by kernel_rfl

def twin_New_g4 (K : Value → World → Prop) (ds : List Deferred) (x0 : Value) (x1 : Value) (x2 : Value) (x3 : Value) (x4 : Value) (x54 : Value) (x61 : Value) (x67 : Value) (w : World) : Prop :=
  gcond x54 false (
  pickV x61 x67 (.bool false) (fun t68_4 w =>
  twin_New_g5 K ds x0 x1 x2 x3 x4 x54 t68_4 w) w) (
  twin_New_g5 K ds x0 x1 x2 x3 x4 x54 undef w)

theorem twin_New_g4_eq (K : Value → World → Prop) : opsG (op1W Pg) (rOps (cL (cL (cR (cR twin_New_body))))).toList ((groups (rOps (cL (cL (cR (cR twin_New_body))))).toList).drop 5) 30 (W Pg (cR (cL (cR (cR twin_New_body)))) false (thenP (W Pg (cR (cR (cR twin_New_body))) false (retQ Pg [.tmp 10, .tmp 11] K)) (retQ Pg [.tmp 10, .tmp 11] K))) = (fun s w => twin_New_g4 K s.ds (s.f 0) (s.f 1) (s.f 2) (s.f 3) (s.f 4) (s.f 54) (s.f 61) (s.f 67) w) :=
  Eq.trans (eqGrd (twin_New_g5_eq K)) (by kernel_rfl)

def twin_New_g3 (K : Value → World → Prop) (ds : List Deferred) (x0 : Value) (x1 : Value) (x2 : Value) (x3 : Value) (x4 : Value) (x54 : Value) (x61 : Value) (w : World) : Prop :=
  gcond x61 true (
  run Pg (binS .mul 3 true (.int .i64 3) x2) (fun t65_5 w =>
  run Pg (binS .add 3 false x1 t65_5) (fun t66_6 w =>
  run Pg (binS .lss 3 false x3 t66_6) (fun t67_7 w =>
  twin_New_g4 K ds x0 x1 x2 x3 x4 x54 x61 t67_7 w) w) w) w) (
  twin_New_g4 K ds x0 x1 x2 x3 x4 x54 x61 undef w)

theorem twin_New_g3_eq (K : Value → World → Prop) : opsG (op1W Pg) (rOps (cL (cL (cR (cR twin_New_body))))).toList ((groups (rOps (cL (cL (cR (cR twin_New_body))))).toList).drop 4) 24 (W Pg (cR (cL (cR (cR twin_New_body)))) false (thenP (W Pg (cR (cR (cR twin_New_body))) false (retQ Pg [.tmp 10, .tmp 11] K)) (retQ Pg [.tmp 10, .tmp 11] K))) = (fun s w => twin_New_g3 K s.ds (s.f 0) (s.f 1) (s.f 2) (s.f 3) (s.f 4) (s.f 54) (s.f 61) w) :=
  Eq.trans (eqGrd (twin_New_g4_eq K)) (by kernel_rfl)

def twin_New_g2 (K : Value → World → Prop) (ds : List Deferred) (x0 : Value) (x1 : Value) (x2 : Value) (x3 : Value) (x4 : Value) (x45 : Value) (x52 : Value) (w : World) : Prop :=
  pickV x45 (.bool true) x52 (fun t53_8 w =>
  gcond t53_8 false (
  run Pg (binS .mul 3 true (.int .i64 2) x4) (fun t58_9 w =>
  run Pg (binS .add 3 false x3 t58_9) (fun t59_10 w =>
  run Pg (binS .lss 3 false x1 t59_10) (fun t60_11 w =>
  twin_New_g3 K ds x0 x1 x2 x3 x4 t53_8 t60_11 w) w) w) w) (
  twin_New_g3 K ds x0 x1 x2 x3 x4 t53_8 undef w)) w

theorem twin_New_g2_eq (K : Value → World → Prop) : opsG (op1W Pg) (rOps (cL (cL (cR (cR twin_New_body))))).toList ((groups (rOps (cL (cL (cR (cR twin_New_body))))).toList).drop 2) 15 (W Pg (cR (cL (cR (cR twin_New_body)))) false (thenP (W Pg (cR (cR (cR twin_New_body))) false (retQ Pg [.tmp 10, .tmp 11] K)) (retQ Pg [.tmp 10, .tmp 11] K))) = (fun s w => twin_New_g2 K s.ds (s.f 0) (s.f 1) (s.f 2) (s.f 3) (s.f 4) (s.f 45) (s.f 52) w) :=
  Eq.trans (eqPlain (eqGrd (twin_New_g3_eq K))) (by kernel_rfl)

def twin_New_j1 (K : Value → World → Prop) (ds : List Deferred) (x0 : Value) (x1 : Value) (x2 : Value) (x3 : Value) (x4 : Value) (w : World) : Prop :=
  call Pg F.device_Device_Size [x0] (fun t40_12 w =>
  run Pg (binS .mul 3 true (.int .i64 3) x2) (fun t42_13 w =>
  run Pg (binS .sub 3 false t40_12 t42_13) (fun t43_14 w =>
  run Pg (binS .gtr 3 false x1 t43_14) (fun t44_15 w =>
  gcond t44_15 false (
  call Pg F.device_Device_Size [x0] (fun t48_16 w =>
  run Pg (binS .mul 3 true (.int .i64 2) x4) (fun t50_17 w =>
  run Pg (binS .sub 3 false t48_16 t50_17) (fun t51_18 w =>
  run Pg (binS .gtr 3 false x3 t51_18) (fun t52_19 w =>
  twin_New_g2 K ds x0 x1 x2 x3 x4 t44_15 t52_19 w) w) w) w) w) (
  twin_New_g2 K ds x0 x1 x2 x3 x4 t44_15 undef w)) w) w) w) w

theorem twin_New_j1_eq (K : Value → World → Prop) : W Pg (cR (cR twin_New_body)) false (retQ Pg [.tmp 10, .tmp 11] K) = (fun s w => twin_New_j1 K s.ds (s.f 0) (s.f 1) (s.f 2) (s.f 3) (s.f 4) w) :=
  Eq.trans (eqSeqL (eqSeqL (eqReg (rd := false) (id := 3) (ops := rOps (cL (cL (cR (cR twin_New_body))))) (by kernel_rfl) (eqPlain (eqGrd (twin_New_g2_eq K)))))) (by kernel_rfl)

def twin_New_g11 (K : Value → World → Prop) (ds : List Deferred) (x0 : Value) (x1 : Value) (x2 : Value) (x3 : Value) (x4 : Value) (x34 : Value) (x36 : Value) (w : World) : Prop :=
  pickV x34 (.bool true) x36 (fun t37_20 w =>
  cnd t37_20 (
  leaveW Pg ds (fun w => K (.tuple #[(.pointer none), (.int .i64 1)]) w) w) (
  twin_New_j1 K ds x0 x1 x2 x3 x4 w)) w

theorem twin_New_g11_eq (K : Value → World → Prop) : opsG (op1W Pg) (rOps (cL (cL (cR twin_New_body)))).toList ((groups (rOps (cL (cL (cR twin_New_body)))).toList).drop 12) 25 (W Pg (cR (cL (cR twin_New_body))) false (thenP (fun s w => twin_New_j1 K s.ds (s.f 0) (s.f 1) (s.f 2) (s.f 3) (s.f 4) w) (retQ Pg [.tmp 10, .tmp 11] K))) = (fun s w => twin_New_g11 K s.ds (s.f 0) (s.f 1) (s.f 2) (s.f 3) (s.f 4) (s.f 34) (s.f 36) w) :=
  by kernel_rfl

def twin_New_g10 (K : Value → World → Prop) (ds : List Deferred) (x0 : Value) (x1 : Value) (x2 : Value) (x3 : Value) (x4 : Value) (x30 : Value) (x32 : Value) (w : World) : Prop :=
  pickV x30 (.bool true) x32 (fun t33_21 w =>
  gcond t33_21 false (
  run Pg (binS .gtr 3 true x4 (.int .i64 800)) (fun t36_22 w =>
  twin_New_g11 K ds x0 x1 x2 x3 x4 t33_21 t36_22 w) w) (
  twin_New_g11 K ds x0 x1 x2 x3 x4 t33_21 undef w)) w

theorem twin_New_g10_eq (K : Value → World → Prop) : opsG (op1W Pg) (rOps (cL (cL (cR twin_New_body)))).toList ((groups (rOps (cL (cL (cR twin_New_body)))).toList).drop 10) 21 (W Pg (cR (cL (cR twin_New_body))) false (thenP (fun s w => twin_New_j1 K s.ds (s.f 0) (s.f 1) (s.f 2) (s.f 3) (s.f 4) w) (retQ Pg [.tmp 10, .tmp 11] K))) = (fun s w => twin_New_g10 K s.ds (s.f 0) (s.f 1) (s.f 2) (s.f 3) (s.f 4) (s.f 30) (s.f 32) w) :=
  Eq.trans (eqPlain (eqGrd (twin_New_g11_eq K))) (by kernel_rfl)

def twin_New_g9 (K : Value → World → Prop) (ds : List Deferred) (x0 : Value) (x1 : Value) (x2 : Value) (x3 : Value) (x4 : Value) (x26 : Value) (x28 : Value) (w : World) : Prop :=
  pickV x26 (.bool true) x28 (fun t29_23 w =>
  gcond t29_23 false (
  run Pg (binS .lss 3 true x4 (.int .i64 1)) (fun t32_24 w =>
  twin_New_g10 K ds x0 x1 x2 x3 x4 t29_23 t32_24 w) w) (
  twin_New_g10 K ds x0 x1 x2 x3 x4 t29_23 undef w)) w

theorem twin_New_g9_eq (K : Value → World → Prop) : opsG (op1W Pg) (rOps (cL (cL (cR twin_New_body)))).toList ((groups (rOps (cL (cL (cR twin_New_body)))).toList).drop 8) 17 (W Pg (cR (cL (cR twin_New_body))) false (thenP (fun s w => twin_New_j1 K s.ds (s.f 0) (s.f 1) (s.f 2) (s.f 3) (s.f 4) w) (retQ Pg [.tmp 10, .tmp 11] K))) = (fun s w => twin_New_g9 K s.ds (s.f 0) (s.f 1) (s.f 2) (s.f 3) (s.f 4) (s.f 26) (s.f 28) w) :=
  Eq.trans (eqPlain (eqGrd (twin_New_g10_eq K))) (by kernel_rfl)

def twin_New_g8 (K : Value → World → Prop) (ds : List Deferred) (x0 : Value) (x1 : Value) (x2 : Value) (x3 : Value) (x4 : Value) (x22 : Value) (x24 : Value) (w : World) : Prop :=
  pickV x22 (.bool true) x24 (fun t25_25 w =>
  gcond t25_25 false (
  run Pg (binS .gtr 3 true x2 (.int .i64 16)) (fun t28_26 w =>
  twin_New_g9 K ds x0 x1 x2 x3 x4 t25_25 t28_26 w) w) (
  twin_New_g9 K ds x0 x1 x2 x3 x4 t25_25 undef w)) w

theorem twin_New_g8_eq (K : Value → World → Prop) : opsG (op1W Pg) (rOps (cL (cL (cR twin_New_body)))).toList ((groups (rOps (cL (cL (cR twin_New_body)))).toList).drop 6) 13 (W Pg (cR (cL (cR twin_New_body))) false (thenP (fun s w => twin_New_j1 K s.ds (s.f 0) (s.f 1) (s.f 2) (s.f 3) (s.f 4) w) (retQ Pg [.tmp 10, .tmp 11] K))) = (fun s w => twin_New_g8 K s.ds (s.f 0) (s.f 1) (s.f 2) (s.f 3) (s.f 4) (s.f 22) (s.f 24) w) :=
  Eq.trans (eqPlain (eqGrd (twin_New_g9_eq K))) (by kernel_rfl)

def twin_New_g7 (K : Value → World → Prop) (ds : List Deferred) (x0 : Value) (x1 : Value) (x2 : Value) (x3 : Value) (x4 : Value) (x18 : Value) (x20 : Value) (w : World) : Prop :=
  pickV x18 (.bool true) x20 (fun t21_27 w =>
  gcond t21_27 false (
  run Pg (binS .lss 3 true x2 (.int .i64 1)) (fun t24_28 w =>
  twin_New_g8 K ds x0 x1 x2 x3 x4 t21_27 t24_28 w) w) (
  twin_New_g8 K ds x0 x1 x2 x3 x4 t21_27 undef w)) w

theorem twin_New_g7_eq (K : Value → World → Prop) : opsG (op1W Pg) (rOps (cL (cL (cR twin_New_body)))).toList ((groups (rOps (cL (cL (cR twin_New_body)))).toList).drop 4) 9 (W Pg (cR (cL (cR twin_New_body))) false (thenP (fun s w => twin_New_j1 K s.ds (s.f 0) (s.f 1) (s.f 2) (s.f 3) (s.f 4) w) (retQ Pg [.tmp 10, .tmp 11] K))) = (fun s w => twin_New_g7 K s.ds (s.f 0) (s.f 1) (s.f 2) (s.f 3) (s.f 4) (s.f 18) (s.f 20) w) :=
  Eq.trans (eqPlain (eqGrd (twin_New_g8_eq K))) (by kernel_rfl)

def twin_New_g6 (K : Value → World → Prop) (ds : List Deferred) (x0 : Value) (x1 : Value) (x2 : Value) (x3 : Value) (x4 : Value) (x14 : Value) (x16 : Value) (w : World) : Prop :=
  pickV x14 (.bool true) x16 (fun t17_29 w =>
  gcond t17_29 false (
  run Pg (binS .lss 3 true x3 (.int .i64 0)) (fun t20_30 w =>
  twin_New_g7 K ds x0 x1 x2 x3 x4 t17_29 t20_30 w) w) (
  twin_New_g7 K ds x0 x1 x2 x3 x4 t17_29 undef w)) w

theorem twin_New_g6_eq (K : Value → World → Prop) : opsG (op1W Pg) (rOps (cL (cL (cR twin_New_body)))).toList ((groups (rOps (cL (cL (cR twin_New_body)))).toList).drop 2) 5 (W Pg (cR (cL (cR twin_New_body))) false (thenP (fun s w => twin_New_j1 K s.ds (s.f 0) (s.f 1) (s.f 2) (s.f 3) (s.f 4) w) (retQ Pg [.tmp 10, .tmp 11] K))) = (fun s w => twin_New_g6 K s.ds (s.f 0) (s.f 1) (s.f 2) (s.f 3) (s.f 4) (s.f 14) (s.f 16) w) :=
  Eq.trans (eqPlain (eqGrd (twin_New_g7_eq K))) (by kernel_rfl)

def twin_New (K : Value → World → Prop) (ds : List Deferred) (x0 : Value) (x1 : Value) (x2 : Value) (x3 : Value) (x4 : Value) (w : World) : Prop :=
  run Pg (binS .eql 24 true x0 (.pointer none)) (fun t13_31 w =>
  gcond t13_31 false (
  run Pg (binS .lss 3 true x1 (.int .i64 0)) (fun t16_32 w =>
  twin_New_g6 K ds x0 x1 x2 x3 x4 t13_31 t16_32 w) w) (
  twin_New_g6 K ds x0 x1 x2 x3 x4 t13_31 undef w)) w

theorem twin_New_eq (K : Value → World → Prop) : W Pg twin_New_body false (retQ Pg [.tmp 10, .tmp 11] K) = (fun s w => twin_New K s.ds (s.f 0) (s.f 1) (s.f 2) (s.f 3) (s.f 4) w) :=
  Eq.trans (eqSeq ((eqSeq (twin_New_j1_eq K)).trans (eqSeqL (eqReg (rd := false) (id := 1) (ops := rOps (cL (cL (cR twin_New_body)))) (by kernel_rfl) (eqPlain (eqGrd (twin_New_g6_eq K))))))) (by kernel_rfl)

theorem twin_New_ok : FnOk Pg F.twin_New Go.Proofs.Tryz.f9 twin_New_body 5 := ⟨Go.Proofs.Tryz.func9, by kernel_rfl, by kernel_rfl, by kernel_rfl, by kernel_rfl, by kernel_rfl⟩

theorem twin_New_callS {K : Value → World → Prop} {x0 : Value} {x1 : Value} {x2 : Value} {x3 : Value} {x4 : Value} {w : World} (h : twin_New K [] x0 x1 x2 x3 x4 w) : callS Pg F.twin_New [x0, x1, x2, x3, x4] K w :=
  call_of_W twin_New_ok (Eq.mpr (congrFun (congrFun (twin_New_eq K) ⟨argFr [x0, x1, x2, x3, x4], []⟩) w) h)

theorem twin_New_call {K : Value → World → Prop} {x0 : Value} {x1 : Value} {x2 : Value} {x3 : Value} {x4 : Value} {w : World} (h : twin_New K [] x0 x1 x2 x3 x4 w) : call Pg F.twin_New [x0, x1, x2, x3, x4] K w := .inl (twin_New_callS h)

/-- (*concordance/twin.Area).Pages -/
noncomputable def twin_Area_Pages_body : Code := (Go.Proofs.Tryz.f34.body).getD .skip

def twin_Area_Pages (K : Value → World → Prop) (ds : List Deferred) (x0 : Value) (w : World) : Prop :=
  run Pg (binS .eql 28 true x0 (.pointer none)) (fun t4_1 w =>
  cnd t4_1 (
  leaveW Pg ds (fun w => K (.int .i64 0) w) w) (
  run Pg (nilS x0) (fun t6_2 w =>
  run Pg (Instr.fieldAt 77 t6_2 4) (fun t7_3 w =>
  run Pg (Instr.loadAt 3 t7_3) (fun t8_4 w =>
  leaveW Pg ds (fun w => K t8_4 w) w) w) w) w)) w

theorem twin_Area_Pages_eq (K : Value → World → Prop) : W Pg twin_Area_Pages_body false (retQ Pg [.tmp 2] K) = (fun s w => twin_Area_Pages K s.ds (s.f 0) w) :=
  by kernel_rfl

theorem twin_Area_Pages_ok : FnOk Pg F.twin_Area_Pages Go.Proofs.Tryz.f34 twin_Area_Pages_body 1 := ⟨Go.Proofs.Tryz.func34, by kernel_rfl, by kernel_rfl, by kernel_rfl, by kernel_rfl, by kernel_rfl⟩

theorem twin_Area_Pages_callS {K : Value → World → Prop} {x0 : Value} {w : World} (h : twin_Area_Pages K [] x0 w) : callS Pg F.twin_Area_Pages [x0] K w :=
  call_of_W twin_Area_Pages_ok (Eq.mpr (congrFun (congrFun (twin_Area_Pages_eq K) ⟨argFr [x0], []⟩) w) h)

theorem twin_Area_Pages_call {K : Value → World → Prop} {x0 : Value} {w : World} (h : twin_Area_Pages K [] x0 w) : call Pg F.twin_Area_Pages [x0] K w := .inl (twin_Area_Pages_callS h)

/-- (*concordance/twin.Area).there -/
noncomputable def twin_Area_there_body : Code := (Go.Proofs.Tryz.f54.body).getD .skip

def twin_Area_there_g2 (K : Value → World → Prop) (ds : List Deferred) (x11 : Value) (x17 : Value) (w : World) : Prop :=
  pickV x11 x17 (.bool false) (fun t18_1 w =>
  leaveW Pg ds (fun w => K t18_1 w) w) w

theorem twin_Area_there_g2_eq (K : Value → World → Prop) : opsG (op1W Pg) (rOps (cL (cR twin_Area_there_body))).toList ((groups (rOps (cL (cR twin_Area_there_body))).toList).drop 4) 13 (W Pg (cR (cR twin_Area_there_body)) false (retQ Pg [.tmp 4] K)) = (fun s w => twin_Area_there_g2 K s.ds (s.f 11) (s.f 17) w) :=
  by kernel_rfl

def twin_Area_there_g1 (K : Value → World → Prop) (ds : List Deferred) (x0 : Value) (x1 : Value) (x7 : Value) (x9 : Value) (w : World) : Prop :=
  pickV x7 x9 (.bool false) (fun t10_2 w =>
  gcond t10_2 true (
  run Pg (nilS x0) (fun t14_3 w =>
  run Pg (Instr.fieldAt 77 t14_3 4) (fun t15_4 w =>
  run Pg (Instr.loadAt 3 t15_4) (fun t16_5 w =>
  run Pg (binS .lss 3 false x1 t16_5) (fun t17_6 w =>
  twin_Area_there_g2 K ds t10_2 t17_6 w) w) w) w) w) (
  twin_Area_there_g2 K ds t10_2 undef w)) w

theorem twin_Area_there_g1_eq (K : Value → World → Prop) : opsG (op1W Pg) (rOps (cL (cR twin_Area_there_body))).toList ((groups (rOps (cL (cR twin_Area_there_body))).toList).drop 2) 5 (W Pg (cR (cR twin_Area_there_body)) false (retQ Pg [.tmp 4] K)) = (fun s w => twin_Area_there_g1 K s.ds (s.f 0) (s.f 1) (s.f 7) (s.f 9) w) :=
  Eq.trans (eqPlain (eqGrd (twin_Area_there_g2_eq K))) (by kernel_rfl)

def twin_Area_there (K : Value → World → Prop) (ds : List Deferred) (x0 : Value) (x1 : Value) (w : World) : Prop :=
  run Pg (binS .neq 28 true x0 (.pointer none)) (fun t6_7 w =>
  gcond t6_7 true (
  run Pg (binS .geq 3 true x1 (.int .i64 0)) (fun t9_8 w =>
  twin_Area_there_g1 K ds x0 x1 t6_7 t9_8 w) w) (
  twin_Area_there_g1 K ds x0 x1 t6_7 undef w)) w

theorem twin_Area_there_eq (K : Value → World → Prop) : W Pg twin_Area_there_body false (retQ Pg [.tmp 4] K) = (fun s w => twin_Area_there K s.ds (s.f 0) (s.f 1) w) :=
  Eq.trans (eqSeq (eqSeqL (eqReg (rd := false) (id := 1) (ops := rOps (cL (cR twin_Area_there_body))) (by kernel_rfl) (eqPlain (eqGrd (twin_Area_there_g1_eq K)))))) (by kernel_rfl)

theorem twin_Area_there_ok : FnOk Pg F.twin_Area_there Go.Proofs.Tryz.f54 twin_Area_there_body 2 := ⟨Go.Proofs.Tryz.func54, by kernel_rfl, by kernel_rfl, by kernel_rfl, by kernel_rfl, by kernel_rfl⟩

theorem twin_Area_there_callS {K : Value → World → Prop} {x0 : Value} {x1 : Value} {w : World} (h : twin_Area_there K [] x0 x1 w) : callS Pg F.twin_Area_there [x0, x1] K w :=
  call_of_W twin_Area_there_ok (Eq.mpr (congrFun (congrFun (twin_Area_there_eq K) ⟨argFr [x0, x1], []⟩) w) h)

theorem twin_Area_there_call {K : Value → World → Prop} {x0 : Value} {x1 : Value} {w : World} (h : twin_Area_there K [] x0 x1 w) : call Pg F.twin_Area_there [x0, x1] K w := .inl (twin_Area_there_callS h)

/-- (*concordance/twin.Area).two -/
noncomputable def twin_Area_two_body : Code := (Go.Proofs.Tryz.f55.body).getD .skip

def twin_Area_two (K : Value → World → Prop) (ds : List Deferred) (x0 : Value) (x1 : Value) (w : World) : Prop :=
  run Pg (nilS x0) (fun t11_1 w =>
  run Pg (Instr.fieldAt 77 t11_1 0) (fun t12_2 w =>
  run Pg (Instr.loadAt 24 t12_2) (fun t13_3 w =>
  call Pg F.device_Device_Read [t13_3, x1] (fun t15_4 w =>
  run Pg (Instr.extract t15_4 0) (fun t16_5 w =>
  run Pg (Instr.extract t15_4 1) (fun t17_6 w =>
  run Pg (binS .neq 25 true t17_6 (.int .i64 0)) (fun t19_7 w =>
  cnd t19_7 (
  leaveW Pg ds (fun w => K (.tuple #[(.string ⟨#[]⟩), t17_6]) w) w) (
  run Pg (nilS x0) (fun t23_8 w =>
  run Pg (Instr.fieldAt 77 t23_8 0) (fun t24_9 w =>
  run Pg (Instr.loadAt 24 t24_9) (fun t25_10 w =>
  run Pg (binS .add 3 true x1 (.int .i64 1)) (fun t27_11 w =>
  call Pg F.device_Device_Read [t25_10, t27_11] (fun t28_12 w =>
  run Pg (Instr.extract t28_12 0) (fun t29_13 w =>
  run Pg (Instr.extract t28_12 1) (fun t30_14 w =>
  run Pg (binS .neq 25 true t30_14 (.int .i64 0)) (fun t32_15 w =>
  cnd t32_15 (
  leaveW Pg ds (fun w => K (.tuple #[(.string ⟨#[]⟩), t30_14]) w) w) (
  run Pg (binS .add 9 false t16_5 t29_13) (fun t36_16 w =>
  leaveW Pg ds (fun w => K (.tuple #[t36_16, (.int .i64 0)]) w) w) w)) w) w) w) w) w) w) w) w)) w) w) w) w) w) w) w

theorem twin_Area_two_eq (K : Value → World → Prop) : W Pg twin_Area_two_body false (retQ Pg [.tmp 4, .tmp 5] K) = (fun s w => twin_Area_two K s.ds (s.f 0) (s.f 1) w) :=
  by kernel_rfl

theorem twin_Area_two_ok : FnOk Pg F.twin_Area_two Go.Proofs.Tryz.f55 twin_Area_two_body 2 := ⟨Go.Proofs.Tryz.func55, by kernel_rfl, by kernel_rfl, by kernel_rfl, by kernel_rfl, by kernel_rfl⟩

theorem twin_Area_two_callS {K : Value → World → Prop} {x0 : Value} {x1 : Value} {w : World} (h : twin_Area_two K [] x0 x1 w) : callS Pg F.twin_Area_two [x0, x1] K w :=
  call_of_W twin_Area_two_ok (Eq.mpr (congrFun (congrFun (twin_Area_two_eq K) ⟨argFr [x0, x1], []⟩) w) h)

theorem twin_Area_two_call {K : Value → World → Prop} {x0 : Value} {x1 : Value} {w : World} (h : twin_Area_two K [] x0 x1 w) : call Pg F.twin_Area_two [x0, x1] K w := .inl (twin_Area_two_callS h)

/-- (*concordance/twin.Area).Read -/
noncomputable def twin_Area_Read_body : Code := (Go.Proofs.Tryz.f30.body).getD .skip

def twin_Area_Read (K : Value → World → Prop) (ds : List Deferred) (x0 : Value) (x1 : Value) (w : World) : Prop :=
  call Pg F.twin_Area_there [x0, x1] (fun t8_1 w =>
  run Pg (Op.unary .not t8_1) (fun t9_2 w =>
  cnd t9_2 (
  leaveW Pg ds (fun w => K (.tuple #[(.string ⟨#[]⟩), (.int .i64 1)]) w) w) (
  run Pg (nilS x0) (fun t12_3 w =>
  run Pg (Instr.fieldAt 77 t12_3 3) (fun t13_4 w =>
  run Pg (Instr.loadAt 3 t13_4) (fun t14_5 w =>
  run Pg (binS .mul 3 true (.int .i64 2) x1) (fun t16_6 w =>
  run Pg (binS .add 3 false t14_5 t16_6) (fun t17_7 w =>
  call Pg F.twin_Area_two [x0, t17_7] (fun t18_8 w =>
  run Pg (Instr.extract t18_8 0) (fun t19_9 w =>
  run Pg (Instr.extract t18_8 1) (fun t20_10 w =>
  leaveW Pg ds (fun w => K (.tuple #[t19_9, t20_10]) w) w) w) w) w) w) w) w) w) w)) w) w

theorem twin_Area_Read_eq (K : Value → World → Prop) : W Pg twin_Area_Read_body false (retQ Pg [.tmp 4, .tmp 5] K) = (fun s w => twin_Area_Read K s.ds (s.f 0) (s.f 1) w) :=
  by kernel_rfl

theorem twin_Area_Read_ok : FnOk Pg F.twin_Area_Read Go.Proofs.Tryz.f30 twin_Area_Read_body 2 := ⟨Go.Proofs.Tryz.func30, by kernel_rfl, by kernel_rfl, by kernel_rfl, by kernel_rfl, by kernel_rfl⟩

theorem twin_Area_Read_callS {K : Value → World → Prop} {x0 : Value} {x1 : Value} {w : World} (h : twin_Area_Read K [] x0 x1 w) : callS Pg F.twin_Area_Read [x0, x1] K w :=
  call_of_W twin_Area_Read_ok (Eq.mpr (congrFun (congrFun (twin_Area_Read_eq K) ⟨argFr [x0, x1], []⟩) w) h)

theorem twin_Area_Read_call {K : Value → World → Prop} {x0 : Value} {x1 : Value} {w : World} (h : twin_Area_Read K [] x0 x1 w) : call Pg F.twin_Area_Read [x0, x1] K w := .inl (twin_Area_Read_callS h)

/-- concordance/twin.name -/
noncomputable def twin_name_body : Code := (Go.Proofs.Tryz.f112.body).getD .skip

def twin_name (K : Value → World → Prop) (ds : List Deferred) (x0 : Value) (w : World) : Prop :=
  call Pg F.sum_Put [x0, (.int .i64 2)] (fun t4_1 w =>
  run Pg (binS .add 9 true (.string ⟨#[67, 84]⟩) t4_1) (fun t5_2 w =>
  call Pg F.sum_Seal [t5_2] (fun t6_3 w =>
  leaveW Pg ds (fun w => K t6_3 w) w) w) w) w

theorem twin_name_eq (K : Value → World → Prop) : W Pg twin_name_body false (retQ Pg [.tmp 2] K) = (fun s w => twin_name K s.ds (s.f 0) w) :=
  by kernel_rfl

theorem twin_name_ok : FnOk Pg F.twin_name Go.Proofs.Tryz.f112 twin_name_body 1 := ⟨Go.Proofs.Tryz.func112, by kernel_rfl, by kernel_rfl, by kernel_rfl, by kernel_rfl, by kernel_rfl⟩

theorem twin_name_callS {K : Value → World → Prop} {x0 : Value} {w : World} (h : twin_name K [] x0 w) : callS Pg F.twin_name [x0] K w :=
  call_of_W twin_name_ok (Eq.mpr (congrFun (congrFun (twin_name_eq K) ⟨argFr [x0], []⟩) w) h)

theorem twin_name_call {K : Value → World → Prop} {x0 : Value} {w : World} (h : twin_name K [] x0 w) : call Pg F.twin_name [x0] K w := .inl (twin_name_callS h)

/-- (*concordance/twin.Area).put -/
noncomputable def twin_Area_put_body : Code := (Go.Proofs.Tryz.f113.body).getD .skip

def twin_Area_put (K : Value → World → Prop) (ds : List Deferred) (x0 : Value) (x1 : Value) (x2 : Value) (w : World) : Prop :=
  rn Pg (fun _ => True) (nilS x0) (fun t9_1 w =>
  rn Pg (fun _ => True) (Instr.fieldAt 77 t9_1 0) (fun t10_2 w =>
  rn Pg (fun w' => w' = w) (Instr.loadAt 24 t10_2) (fun t11_3 w =>
  rn Pg (fun _ => True) (Instr.sliceAt 9 x2 none (some (.int .i64 256)) none) (fun t14_4 w =>
  call Pg F.device_Device_Write [t11_3, x1, t14_4] (fun t15_5 w =>
  (fun _ => True) w ∧ run Pg (binS .neq 25 true t15_5 (.int .i64 0)) (fun t17_6 w =>
  cnd t17_6 (
  leaveW Pg ds (fun w => K t15_5 w) w) (
  rn Pg (fun _ => True) (nilS x0) (fun t20_7 w =>
  rn Pg (fun _ => True) (Instr.fieldAt 77 t20_7 0) (fun t21_8 w =>
  rn Pg (fun w' => w' = w) (Instr.loadAt 24 t21_8) (fun t22_9 w =>
  rn Pg (fun _ => True) (binS .add 3 true x1 (.int .i64 1)) (fun t24_10 w =>
  rn Pg (fun _ => True) (Instr.sliceAt 9 x2 (some (.int .i64 256)) none none) (fun t26_11 w =>
  call Pg F.device_Device_Write [t22_9, t24_10, t26_11] (fun t27_12 w =>
  (fun _ => True) w ∧ leaveW Pg ds (fun w => K t27_12 w) w) w) w) w) w) w) w.drew)) w) w) w) w) w) w.drew

theorem twin_Area_put_eq (K : Value → World → Prop) : W Pg twin_Area_put_body false (retQ Pg [.tmp 6] K) = (fun s w => twin_Area_put K s.ds (s.f 0) (s.f 1) (s.f 2) w) :=
  by kernel_rfl

theorem twin_Area_put_ok : FnOk Pg F.twin_Area_put Go.Proofs.Tryz.f113 twin_Area_put_body 3 := ⟨Go.Proofs.Tryz.func113, by kernel_rfl, by kernel_rfl, by kernel_rfl, by kernel_rfl, by kernel_rfl⟩

theorem twin_Area_put_callS {K : Value → World → Prop} {x0 : Value} {x1 : Value} {x2 : Value} {w : World} (h : twin_Area_put K [] x0 x1 x2 w) : callS Pg F.twin_Area_put [x0, x1, x2] K w :=
  call_of_W twin_Area_put_ok (Eq.mpr (congrFun (congrFun (twin_Area_put_eq K) ⟨argFr [x0, x1, x2], []⟩) w) h)

theorem twin_Area_put_call {K : Value → World → Prop} {x0 : Value} {x1 : Value} {x2 : Value} {w : World} (h : twin_Area_put K [] x0 x1 x2 w) : call Pg F.twin_Area_put [x0, x1, x2] K w := .inl (twin_Area_put_callS h)

/-- (*concordance/twin.Area).round -/
noncomputable def twin_Area_round_body : Code := (Go.Proofs.Tryz.f97.body).getD .skip

def twin_Area_round_j2 (K : Value → World → Prop) (ds : List Deferred) (x0 : Value) (w : World) : Prop :=
  run Pg (nilS x0) (fun t81_1 w =>
  run Pg (Instr.fieldAt 77 t81_1 0) (fun t82_2 w =>
  run Pg (Instr.loadAt 24 t82_2) (fun t83_3 w =>
  call Pg F.device_Device_Sync [t83_3] (fun t84_4 w =>
  leaveW Pg ds (fun w => K t84_4 w) w) w) w) w) w

theorem twin_Area_round_j2_eq (K : Value → World → Prop) : W Pg (cR (cR (cR (cR twin_Area_round_body)))) false (retQ Pg [.tmp 4] K) = (fun s w => twin_Area_round_j2 K s.ds (s.f 0) w) :=
  by kernel_rfl

def twin_Area_round_l3 (K : Value → World → Prop) (X1 : List Deferred × Value × Value × Value × Value → World → Prop) (st : List Deferred × Value × Value × Value × Value) (w : World) : Prop :=
  run Pg (binS .lss 3 false st.2.2.2.2 st.2.2.2.1) (fun t61_5 w =>
  cnd t61_5 (
  run Pg (Instr.indexAt 130 st.2.2.1 st.2.2.2.2) (fun t62_6 w =>
  run Pg (Instr.loadAt 132 t62_6) (fun t63_7 w =>
  run Pg (Instr.alloc 132 true (.tuple #[])) (fun x_8 w =>
  runU Pg (Instr.storeAt 132 x_8 t63_7) (fun w =>
  rn Pg (fun _ => True) (nilS st.2.1) (fun t66_9 w =>
  rn Pg (fun _ => True) (Instr.fieldAt 77 t66_9 3) (fun t67_10 w =>
  rn Pg (fun w' => w' = w) (Instr.loadAt 3 t67_10) (fun t68_11 w =>
  rn Pg (fun _ => True) (Instr.fieldAt 132 x_8 0) (fun t69_12 w =>
  rn Pg (fun w' => w' = w) (Instr.loadAt 3 t69_12) (fun t70_13 w =>
  rn Pg (fun _ => True) (binS .mul 3 true (.int .i64 2) t70_13) (fun t71_14 w =>
  rn Pg (fun _ => True) (binS .add 3 false t68_11 t71_14) (fun t72_15 w =>
  rn Pg (fun _ => True) (Instr.fieldAt 132 x_8 1) (fun t73_16 w =>
  rn Pg (fun w' => w' = w) (Instr.loadAt 9 t73_16) (fun t74_17 w =>
  call Pg F.twin_Area_put [st.2.1, t72_15, t74_17] (fun t75_18 w =>
  (fun _ => True) w ∧ run Pg (binS .neq 25 true t75_18 (.int .i64 0)) (fun t77_19 w =>
  cnd t77_19 (
  leaveW Pg st.1 (fun w => K t75_18 w) w) (
  run Pg (binS .add 3 true st.2.2.2.2 (.int .i64 1)) (fun t79_20 w =>
  X1 (st.1, st.2.1, st.2.2.1, st.2.2.2.1, t79_20) w) w)) w) w) w) w) w) w) w) w) w) w) w.drew) w) w) w) w) (
  twin_Area_round_j2 K st.1 st.2.1 w)) w

theorem twin_Area_round_l3_eq (K : Value → World → Prop) (X1 : List Deferred × Value × Value × Value × Value → World → Prop) : W Pg (cB (cB (cR (cL (cR (cR (cR twin_Area_round_body))))))) false (thenP (fun s w => X1 (s.ds, s.f 0, s.f 58, s.f 59, s.f 60) w) (blockP 2 (thenP (fun s w => twin_Area_round_j2 K s.ds (s.f 0) w) (retQ Pg [.tmp 4] K)))) = (fun s w => twin_Area_round_l3 K X1 (s.ds, s.f 0, s.f 58, s.f 59, s.f 60) w) :=
  by kernel_rfl

theorem twin_Area_round_l3_mono (K : Value → World → Prop) : ∀ X Y : List Deferred × Value × Value × Value × Value → World → Prop, (∀ t w, X t w → Y t w) → ∀ t w, twin_Area_round_l3 K X t w → twin_Area_round_l3 K Y t w :=
  loop_mono (fun s : St => ((s.ds, s.f 0, s.f 58, s.f 59, s.f 60) : List Deferred × Value × Value × Value × Value)) (fun X1 => twin_Area_round_l3_eq K X1) (fun t => ⟨fun i => (bif Nat.beq i 0 then t.2.1 else (bif Nat.beq i 58 then t.2.2.1 else (bif Nat.beq i 59 then t.2.2.2.1 else (bif Nat.beq i 60 then t.2.2.2.2 else undef)))), t.1⟩) (fun _ => rfl)

def twin_Area_round_j1 (K : Value → World → Prop) (ds : List Deferred) (x0 : Value) (x1 : Value) (w : World) : Prop :=
  run Pg (nilS x0) (fun t51_21 w =>
  run Pg (Instr.fieldAt 77 t51_21 0) (fun t52_22 w =>
  run Pg (Instr.loadAt 24 t52_22) (fun t53_23 w =>
  call Pg F.device_Device_Sync [t53_23] (fun t54_24 w =>
  run Pg (binS .neq 25 true t54_24 (.int .i64 0)) (fun t56_25 w =>
  cnd t56_25 (
  leaveW Pg ds (fun w => K t54_24 w) w) (
  run Pg (Builtin.len_ #[130] 3 #[x1]) (fun t59_26 w =>
  Lp (twin_Area_round_l3 K) (ds, x0, x1, t59_26, (.int .i64 0)) w) w)) w) w) w) w) w

theorem twin_Area_round_j1_eq (K : Value → World → Prop) : W Pg (cR (cR twin_Area_round_body)) false (retQ Pg [.tmp 4] K) = (fun s w => twin_Area_round_j1 K s.ds (s.f 0) (s.f 1) w) :=
  Eq.trans (eqSeq ((eqSeq (twin_Area_round_j2_eq K)).trans (eqSeq (eqBlock (eqLoop (rd := false) (fun s : St => ((s.ds, s.f 0, s.f 58, s.f 59, s.f 60) : List Deferred × Value × Value × Value × Value)) (fun X1 => twin_Area_round_l3_eq K X1)))))) (by kernel_rfl)

def twin_Area_round_l4 (K : Value → World → Prop) (X1 : List Deferred × Value × Value × Value × Value × Value → World → Prop) (st : List Deferred × Value × Value × Value × Value × Value) (w : World) : Prop :=
  run Pg (binS .lss 3 false st.2.2.2.2.2 st.2.2.2.2.1) (fun t17_27 w =>
  cnd t17_27 (
  run Pg (Instr.indexAt 130 st.2.2.2.1 st.2.2.2.2.2) (fun t19_28 w =>
  run Pg (Instr.loadAt 132 t19_28) (fun t20_29 w =>
  run Pg (Instr.alloc 132 true (.tuple #[])) (fun x_30 w =>
  runU Pg (Instr.storeAt 132 x_30 t20_29) (fun w =>
  run Pg (nilS st.2.1) (fun t22_31 w =>
  run Pg (Instr.fieldAt 77 t22_31 1) (fun t23_32 w =>
  run Pg (Instr.loadAt 3 t23_32) (fun t24_33 w =>
  run Pg (binS .mul 3 true (.int .i64 3) st.2.2.2.2.2) (fun t26_34 w =>
  run Pg (binS .add 3 false t24_33 t26_34) (fun t27_35 w =>
  ∃ S : World → Prop, S w.drew ∧ (rn Pg (fun _ => True) (nilS st.2.1) (fun t29_36 w =>
  rn Pg (fun _ => True) (Instr.fieldAt 77 t29_36 0) (fun t30_37 w =>
  rn Pg S (Instr.loadAt 24 t30_37) (fun t31_38 w =>
  rn Pg (fun _ => True) (Instr.fieldAt 132 x_30 0) (fun t33_39 w =>
  rn Pg (fun w' => w' = w) (Instr.loadAt 3 t33_39) (fun t34_40 w =>
  call Pg F.twin_name [t34_40] (fun t35_41 w =>
  S w ∧ call Pg F.device_Device_Write [t31_38, t27_35, t35_41] (fun t36_42 w =>
  run Pg (binS .neq 25 true t36_42 (.int .i64 0)) (fun t38_43 w =>
  cnd t38_43 (
  leaveW Pg st.1 (fun w => K t36_42 w) w) (
  run Pg (binS .add 3 true t27_35 (.int .i64 1)) (fun t42_44 w =>
  run Pg (Instr.fieldAt 132 x_30 1) (fun t43_45 w =>
  run Pg (Instr.loadAt 9 t43_45) (fun t44_46 w =>
  call Pg F.twin_Area_put [st.2.1, t42_44, t44_46] (fun t45_47 w =>
  run Pg (binS .neq 25 true t45_47 (.int .i64 0)) (fun t47_48 w =>
  cnd t47_48 (
  leaveW Pg st.1 (fun w => K t45_47 w) w) (
  run Pg (binS .add 3 true st.2.2.2.2.2 (.int .i64 1)) (fun t49_49 w =>
  X1 (st.1, st.2.1, st.2.2.1, st.2.2.2.1, st.2.2.2.2.1, t49_49) w) w)) w) w) w) w) w)) w) w) w) w) w) w) w) w.drew)) w) w) w) w) w) w) w) w) w) (
  twin_Area_round_j1 K st.1 st.2.1 st.2.2.1 w)) w

theorem twin_Area_round_l4_eq (K : Value → World → Prop) (X1 : List Deferred × Value × Value × Value × Value × Value → World → Prop) : W Pg (cB (cB (cR (cL (cR twin_Area_round_body))))) false (thenP (fun s w => X1 (s.ds, s.f 0, s.f 1, s.f 14, s.f 15, s.f 16) w) (blockP 0 (thenP (fun s w => twin_Area_round_j1 K s.ds (s.f 0) (s.f 1) w) (retQ Pg [.tmp 4] K)))) = (fun s w => twin_Area_round_l4 K X1 (s.ds, s.f 0, s.f 1, s.f 14, s.f 15, s.f 16) w) :=
  by kernel_rfl

theorem twin_Area_round_l4_mono (K : Value → World → Prop) : ∀ X Y : List Deferred × Value × Value × Value × Value × Value → World → Prop, (∀ t w, X t w → Y t w) → ∀ t w, twin_Area_round_l4 K X t w → twin_Area_round_l4 K Y t w :=
  loop_mono (fun s : St => ((s.ds, s.f 0, s.f 1, s.f 14, s.f 15, s.f 16) : List Deferred × Value × Value × Value × Value × Value)) (fun X1 => twin_Area_round_l4_eq K X1) (fun t => ⟨fun i => (bif Nat.beq i 0 then t.2.1 else (bif Nat.beq i 1 then t.2.2.1 else (bif Nat.beq i 14 then t.2.2.2.1 else (bif Nat.beq i 15 then t.2.2.2.2.1 else (bif Nat.beq i 16 then t.2.2.2.2.2 else undef))))), t.1⟩) (fun _ => rfl)

def twin_Area_round (K : Value → World → Prop) (ds : List Deferred) (x0 : Value) (x1 : Value) (w : World) : Prop :=
  run Pg (Builtin.len_ #[130] 3 #[x1]) (fun t15_50 w =>
  Lp (twin_Area_round_l4 K) (ds, x0, x1, x1, t15_50, (.int .i64 0)) w) w

theorem twin_Area_round_eq (K : Value → World → Prop) : W Pg twin_Area_round_body false (retQ Pg [.tmp 4] K) = (fun s w => twin_Area_round K s.ds (s.f 0) (s.f 1) w) :=
  Eq.trans (eqSeq ((eqSeq (twin_Area_round_j1_eq K)).trans (eqSeq (eqBlock (eqLoop (rd := false) (fun s : St => ((s.ds, s.f 0, s.f 1, s.f 14, s.f 15, s.f 16) : List Deferred × Value × Value × Value × Value × Value)) (fun X1 => twin_Area_round_l4_eq K X1)))))) (by kernel_rfl)

theorem twin_Area_round_ok : FnOk Pg F.twin_Area_round Go.Proofs.Tryz.f97 twin_Area_round_body 2 := ⟨Go.Proofs.Tryz.func97, by kernel_rfl, by kernel_rfl, by kernel_rfl, by kernel_rfl, by kernel_rfl⟩

theorem twin_Area_round_callS {K : Value → World → Prop} {x0 : Value} {x1 : Value} {w : World} (h : twin_Area_round K [] x0 x1 w) : callS Pg F.twin_Area_round [x0, x1] K w :=
  call_of_W twin_Area_round_ok (Eq.mpr (congrFun (congrFun (twin_Area_round_eq K) ⟨argFr [x0, x1], []⟩) w) h)

theorem twin_Area_round_call {K : Value → World → Prop} {x0 : Value} {x1 : Value} {w : World} (h : twin_Area_round K [] x0 x1 w) : call Pg F.twin_Area_round [x0, x1] K w := .inl (twin_Area_round_callS h)

/-- (*concordance/twin.Area).Write -/
noncomputable def twin_Area_Write_body : Code := (Go.Proofs.Tryz.f70.body).getD .skip

def twin_Area_Write_j2 (K : Value → World → Prop) (ds : List Deferred) (w : World) : Prop :=
  leaveW Pg ds (fun w => K (.int .i64 0) w) w

theorem twin_Area_Write_j2_eq (K : Value → World → Prop) : W Pg (cR (cR (cR (cR twin_Area_Write_body)))) false (retQ Pg [.tmp 4] K) = (fun s w => twin_Area_Write_j2 K s.ds  w) :=
  by kernel_rfl

def twin_Area_Write_l3 (K : Value → World → Prop) (X1 : List Deferred × Value × Value → World → Prop) (st : List Deferred × Value × Value) (w : World) : Prop :=
  run Pg (Builtin.len_ #[130] 3 #[st.2.2]) (fun t30_1 w =>
  run Pg (binS .gtr 3 true t30_1 (.int .i64 0)) (fun t31_2 w =>
  cnd t31_2 (
  run Pg (nilS st.2.1) (fun t33_3 w =>
  run Pg (Instr.fieldAt 77 t33_3 2) (fun t34_4 w =>
  run Pg (Instr.loadAt 3 t34_4) (fun t35_5 w =>
  run Pg (Builtin.len_ #[130] 3 #[st.2.2]) (fun t37_6 w =>
  run Pg (Builtin.min_ #[3, 3] 3 #[t35_5, t37_6]) (fun t38_7 w =>
  run Pg (Instr.sliceAt 130 st.2.2 none (some t38_7) none) (fun t42_8 w =>
  call Pg F.twin_Area_round [st.2.1, t42_8] (fun t43_9 w =>
  run Pg (binS .neq 25 true t43_9 (.int .i64 0)) (fun t45_10 w =>
  cnd t45_10 (
  leaveW Pg st.1 (fun w => K t43_9 w) w) (
  run Pg (Instr.sliceAt 130 st.2.2 (some t38_7) none none) (fun t49_11 w =>
  X1 (st.1, st.2.1, t49_11) w) w)) w) w) w) w) w) w) w) w) (
  twin_Area_Write_j2 K st.1  w)) w) w

theorem twin_Area_Write_l3_eq (K : Value → World → Prop) (X1 : List Deferred × Value × Value → World → Prop) : W Pg (cB (cB (cL (cR (cR (cR twin_Area_Write_body)))))) false (thenP (fun s w => X1 (s.ds, s.f 0, s.f 1) w) (blockP 2 (thenP (fun s w => twin_Area_Write_j2 K s.ds  w) (retQ Pg [.tmp 4] K)))) = (fun s w => twin_Area_Write_l3 K X1 (s.ds, s.f 0, s.f 1) w) :=
  by kernel_rfl

theorem twin_Area_Write_l3_mono (K : Value → World → Prop) : ∀ X Y : List Deferred × Value × Value → World → Prop, (∀ t w, X t w → Y t w) → ∀ t w, twin_Area_Write_l3 K X t w → twin_Area_Write_l3 K Y t w :=
  loop_mono (fun s : St => ((s.ds, s.f 0, s.f 1) : List Deferred × Value × Value)) (fun X1 => twin_Area_Write_l3_eq K X1) (fun t => ⟨fun i => (bif Nat.beq i 0 then t.2.1 else (bif Nat.beq i 1 then t.2.2 else undef)), t.1⟩) (fun _ => rfl)

def twin_Area_Write_j1 (K : Value → World → Prop) (ds : List Deferred) (x0 : Value) (x1 : Value) (w : World) : Prop :=
  Lp (twin_Area_Write_l3 K) (ds, x0, x1) w

theorem twin_Area_Write_j1_eq (K : Value → World → Prop) : W Pg (cR (cR (cR twin_Area_Write_body))) false (retQ Pg [.tmp 4] K) = (fun s w => twin_Area_Write_j1 K s.ds (s.f 0) (s.f 1) w) :=
  Eq.trans ((eqSeq (twin_Area_Write_j2_eq K)).trans (eqBlock (eqLoop (rd := false) (fun s : St => ((s.ds, s.f 0, s.f 1) : List Deferred × Value × Value)) (fun X1 => twin_Area_Write_l3_eq K X1)))) (by kernel_rfl)

def twin_Area_Write_g5 (K : Value → World → Prop) (X1 : List Deferred × Value × Value × Value × Value × Value → World → Prop) (ds : List Deferred) (x0 : Value) (x1 : Value) (x11 : Value) (x12 : Value) (x13 : Value) (x22 : Value) (x26 : Value) (w : World) : Prop :=
  pickV x22 (.bool true) x26 (fun t27_12 w =>
  cnd t27_12 (
  leaveW Pg ds (fun w => K (.int .i64 1) w) w) (
  run Pg (binS .add 3 true x13 (.int .i64 1)) (fun t28_13 w =>
  X1 (ds, x0, x1, x11, x12, t28_13) w) w)) w

theorem twin_Area_Write_g5_eq (K : Value → World → Prop) (X1 : List Deferred × Value × Value × Value × Value × Value → World → Prop) : opsG (op1W Pg) (rOps (cL (cR (cB (cL (cR (cR (cB (cB (cR (cL (cR (cR twin_Area_Write_body))))))))))))).toList ((groups (rOps (cL (cR (cB (cL (cR (cR (cB (cB (cR (cL (cR (cR twin_Area_Write_body))))))))))))).toList).drop 2) 10 (W Pg (cR (cR (cB (cL (cR (cR (cB (cB (cR (cL (cR (cR twin_Area_Write_body)))))))))))) false (blockP 1 (thenP (W Pg (cR (cR (cR (cB (cB (cR (cL (cR (cR twin_Area_Write_body))))))))) false (thenP (fun s w => X1 (s.ds, s.f 0, s.f 1, s.f 11, s.f 12, s.f 13) w) (blockP 0 (thenP (fun s w => twin_Area_Write_j1 K s.ds (s.f 0) (s.f 1) w) (retQ Pg [.tmp 4] K))))) (thenP (fun s w => X1 (s.ds, s.f 0, s.f 1, s.f 11, s.f 12, s.f 13) w) (blockP 0 (thenP (fun s w => twin_Area_Write_j1 K s.ds (s.f 0) (s.f 1) w) (retQ Pg [.tmp 4] K))))))) = (fun s w => twin_Area_Write_g5 K X1 s.ds (s.f 0) (s.f 1) (s.f 11) (s.f 12) (s.f 13) (s.f 22) (s.f 26) w) :=
  by kernel_rfl

def twin_Area_Write_l4 (K : Value → World → Prop) (X1 : List Deferred × Value × Value × Value × Value × Value → World → Prop) (st : List Deferred × Value × Value × Value × Value × Value) (w : World) : Prop :=
  run Pg (binS .lss 3 false st.2.2.2.2.2 st.2.2.2.2.1) (fun t14_14 w =>
  cnd t14_14 (
  run Pg (Instr.indexAt 130 st.2.2.2.1 st.2.2.2.2.2) (fun t15_15 w =>
  run Pg (Instr.loadAt 132 t15_15) (fun t16_16 w =>
  run Pg (Instr.alloc 132 true (.tuple #[])) (fun x_17 w =>
  runU Pg (Instr.storeAt 132 x_17 t16_16) (fun w =>
  run Pg (Instr.fieldAt 132 x_17 0) (fun t18_18 w =>
  run Pg (Instr.loadAt 3 t18_18) (fun t19_19 w =>
  call Pg F.twin_Area_there [st.2.1, t19_19] (fun t20_20 w =>
  run Pg (Op.unary .not t20_20) (fun t21_21 w =>
  gcond t21_21 false (
  run Pg (Instr.fieldAt 132 x_17 1) (fun t23_22 w =>
  run Pg (Instr.loadAt 9 t23_22) (fun t24_23 w =>
  call Pg F.page_Whole [t24_23] (fun t25_24 w =>
  run Pg (Op.unary .not t25_24) (fun t26_25 w =>
  twin_Area_Write_g5 K X1 st.1 st.2.1 st.2.2.1 st.2.2.2.1 st.2.2.2.2.1 st.2.2.2.2.2 t21_21 t26_25 w) w) w) w) w) (
  twin_Area_Write_g5 K X1 st.1 st.2.1 st.2.2.1 st.2.2.2.1 st.2.2.2.2.1 st.2.2.2.2.2 t21_21 undef w)) w) w) w) w) w) w) w) w) (
  twin_Area_Write_j1 K st.1 st.2.1 st.2.2.1 w)) w

theorem twin_Area_Write_l4_eq (K : Value → World → Prop) (X1 : List Deferred × Value × Value × Value × Value × Value → World → Prop) : W Pg (cB (cB (cR (cL (cR (cR twin_Area_Write_body)))))) false (thenP (fun s w => X1 (s.ds, s.f 0, s.f 1, s.f 11, s.f 12, s.f 13) w) (blockP 0 (thenP (fun s w => twin_Area_Write_j1 K s.ds (s.f 0) (s.f 1) w) (retQ Pg [.tmp 4] K)))) = (fun s w => twin_Area_Write_l4 K X1 (s.ds, s.f 0, s.f 1, s.f 11, s.f 12, s.f 13) w) :=
  Eq.trans (eqSeq (eqSeq (eqSeqL (eqBlock (eqSeq (eqSeqL (eqReg (rd := false) (id := 6) (ops := rOps (cL (cR (cB (cL (cR (cR (cB (cB (cR (cL (cR (cR twin_Area_Write_body))))))))))))) (by kernel_rfl) (eqPlain (eqGrd (twin_Area_Write_g5_eq K X1)))))))))) (by kernel_rfl)

theorem twin_Area_Write_l4_mono (K : Value → World → Prop) : ∀ X Y : List Deferred × Value × Value × Value × Value × Value → World → Prop, (∀ t w, X t w → Y t w) → ∀ t w, twin_Area_Write_l4 K X t w → twin_Area_Write_l4 K Y t w :=
  loop_mono (fun s : St => ((s.ds, s.f 0, s.f 1, s.f 11, s.f 12, s.f 13) : List Deferred × Value × Value × Value × Value × Value)) (fun X1 => twin_Area_Write_l4_eq K X1) (fun t => ⟨fun i => (bif Nat.beq i 0 then t.2.1 else (bif Nat.beq i 1 then t.2.2.1 else (bif Nat.beq i 11 then t.2.2.2.1 else (bif Nat.beq i 12 then t.2.2.2.2.1 else (bif Nat.beq i 13 then t.2.2.2.2.2 else undef))))), t.1⟩) (fun _ => rfl)

def twin_Area_Write (K : Value → World → Prop) (ds : List Deferred) (x0 : Value) (x1 : Value) (w : World) : Prop :=
  run Pg (binS .eql 28 true x0 (.pointer none)) (fun t10_26 w =>
  cnd t10_26 (
  leaveW Pg ds (fun w => K (.int .i64 1) w) w) (
  run Pg (Builtin.len_ #[130] 3 #[x1]) (fun t12_27 w =>
  Lp (twin_Area_Write_l4 K) (ds, x0, x1, x1, t12_27, (.int .i64 0)) w) w)) w

theorem twin_Area_Write_eq (K : Value → World → Prop) : W Pg twin_Area_Write_body false (retQ Pg [.tmp 4] K) = (fun s w => twin_Area_Write K s.ds (s.f 0) (s.f 1) w) :=
  Eq.trans (eqSeq (eqSeq ((eqSeq (twin_Area_Write_j1_eq K)).trans (eqSeq (eqBlock (eqLoop (rd := false) (fun s : St => ((s.ds, s.f 0, s.f 1, s.f 11, s.f 12, s.f 13) : List Deferred × Value × Value × Value × Value × Value)) (fun X1 => twin_Area_Write_l4_eq K X1))))))) (by kernel_rfl)

theorem twin_Area_Write_ok : FnOk Pg F.twin_Area_Write Go.Proofs.Tryz.f70 twin_Area_Write_body 2 := ⟨Go.Proofs.Tryz.func70, by kernel_rfl, by kernel_rfl, by kernel_rfl, by kernel_rfl, by kernel_rfl⟩

theorem twin_Area_Write_callS {K : Value → World → Prop} {x0 : Value} {x1 : Value} {w : World} (h : twin_Area_Write K [] x0 x1 w) : callS Pg F.twin_Area_Write [x0, x1] K w :=
  call_of_W twin_Area_Write_ok (Eq.mpr (congrFun (congrFun (twin_Area_Write_eq K) ⟨argFr [x0, x1], []⟩) w) h)

theorem twin_Area_Write_call {K : Value → World → Prop} {x0 : Value} {x1 : Value} {w : World} (h : twin_Area_Write K [] x0 x1 w) : call Pg F.twin_Area_Write [x0, x1] K w := .inl (twin_Area_Write_callS h)

/-- concordance/sum.Sum -/
noncomputable def sum_Sum_body : Code := (Go.Proofs.Tryz.f102.body).getD .skip

def sum_Sum_j1 (K : Value → World → Prop) (ds : List Deferred) (x3 : Value) (w : World) : Prop :=
  run Pg (Op.unary .xor x3) (fun t32_1 w =>
  leaveW Pg ds (fun w => K t32_1 w) w) w

theorem sum_Sum_j1_eq (K : Value → World → Prop) : W Pg (cR (cR (cR sum_Sum_body))) false (retQ Pg [.tmp 2] K) = (fun s w => sum_Sum_j1 K s.ds (s.f 3) w) :=
  by kernel_rfl

def sum_Sum_l2 (K : Value → World → Prop) (X1 : List Deferred × Value × Value × Value × Value → World → Prop) (st : List Deferred × Value × Value × Value × Value) (w : World) : Prop :=
  run Pg (binS .lss 3 false st.2.2.2.2 st.2.2.2.1) (fun t8_2 w =>
  cnd t8_2 (
  run Pg (Instr.index 9 st.2.1 st.2.2.2.2) (fun t13_3 w =>
  run Pg (convert 5 152 t13_3) (fun t14_4 w =>
  run Pg (binS .xor 152 false st.2.2.1 t14_4) (fun t15_5 w =>
  run Pg (binS .shr 152 true t15_5 (.int .u64 4)) (fun t17_6 w =>
  run Pg (binS .and 152 true t15_5 (.int .u32 15)) (fun t19_7 w =>
  run Pg (Instr.indexAt 176 (.pointer (some ⟨0, 0, none⟩)) t19_7) (fun t20_8 w =>
  run Pg (Instr.loadAt 152 t20_8) (fun t21_9 w =>
  run Pg (binS .xor 152 false t17_6 t21_9) (fun t22_10 w =>
  run Pg (binS .shr 152 true t22_10 (.int .u64 4)) (fun t24_11 w =>
  run Pg (binS .and 152 true t22_10 (.int .u32 15)) (fun t26_12 w =>
  run Pg (Instr.indexAt 176 (.pointer (some ⟨0, 0, none⟩)) t26_12) (fun t27_13 w =>
  run Pg (Instr.loadAt 152 t27_13) (fun t28_14 w =>
  run Pg (binS .xor 152 false t24_11 t28_14) (fun t29_15 w =>
  run Pg (binS .add 3 true st.2.2.2.2 (.int .i64 1)) (fun t30_16 w =>
  X1 (st.1, st.2.1, t29_15, st.2.2.2.1, t30_16) w) w) w) w) w) w) w) w) w) w) w) w) w) w) w) (
  sum_Sum_j1 K st.1 st.2.2.1 w)) w

theorem sum_Sum_l2_eq (K : Value → World → Prop) (X1 : List Deferred × Value × Value × Value × Value → World → Prop) : W Pg (cB (cB (cR (cL (cR (cR sum_Sum_body)))))) false (thenP (fun s w => X1 (s.ds, s.f 0, s.f 3, s.f 6, s.f 7) w) (blockP 0 (thenP (fun s w => sum_Sum_j1 K s.ds (s.f 3) w) (retQ Pg [.tmp 2] K)))) = (fun s w => sum_Sum_l2 K X1 (s.ds, s.f 0, s.f 3, s.f 6, s.f 7) w) :=
  by kernel_rfl

theorem sum_Sum_l2_mono (K : Value → World → Prop) : ∀ X Y : List Deferred × Value × Value × Value × Value → World → Prop, (∀ t w, X t w → Y t w) → ∀ t w, sum_Sum_l2 K X t w → sum_Sum_l2 K Y t w :=
  loop_mono (fun s : St => ((s.ds, s.f 0, s.f 3, s.f 6, s.f 7) : List Deferred × Value × Value × Value × Value)) (fun X1 => sum_Sum_l2_eq K X1) (fun t => ⟨fun i => (bif Nat.beq i 0 then t.2.1 else (bif Nat.beq i 3 then t.2.2.1 else (bif Nat.beq i 6 then t.2.2.2.1 else (bif Nat.beq i 7 then t.2.2.2.2 else undef)))), t.1⟩) (fun _ => rfl)

def sum_Sum (K : Value → World → Prop) (ds : List Deferred) (x0 : Value) (w : World) : Prop :=
  run Pg (Builtin.len_ #[9] 3 #[x0]) (fun t6_17 w =>
  Lp (sum_Sum_l2 K) (ds, x0, (.int .u32 4294967295), t6_17, (.int .i64 0)) w) w

theorem sum_Sum_eq (K : Value → World → Prop) : W Pg sum_Sum_body false (retQ Pg [.tmp 2] K) = (fun s w => sum_Sum K s.ds (s.f 0) w) :=
  Eq.trans (eqSeq (eqSeq ((eqSeq (sum_Sum_j1_eq K)).trans (eqSeq (eqBlock (eqLoop (rd := false) (fun s : St => ((s.ds, s.f 0, s.f 3, s.f 6, s.f 7) : List Deferred × Value × Value × Value × Value)) (fun X1 => sum_Sum_l2_eq K X1))))))) (by kernel_rfl)

theorem sum_Sum_ok : FnOk Pg F.sum_Sum Go.Proofs.Tryz.f102 sum_Sum_body 1 := ⟨Go.Proofs.Tryz.func102, by kernel_rfl, by kernel_rfl, by kernel_rfl, by kernel_rfl, by kernel_rfl⟩

theorem sum_Sum_callS {K : Value → World → Prop} {x0 : Value} {w : World} (h : sum_Sum K [] x0 w) : callS Pg F.sum_Sum [x0] K w :=
  call_of_W sum_Sum_ok (Eq.mpr (congrFun (congrFun (sum_Sum_eq K) ⟨argFr [x0], []⟩) w) h)

theorem sum_Sum_call {K : Value → World → Prop} {x0 : Value} {w : World} (h : sum_Sum K [] x0 w) : call Pg F.sum_Sum [x0] K w := .inl (sum_Sum_callS h)

/-- concordance/sum.Put -/
noncomputable def sum_Put_body : Code := (Go.Proofs.Tryz.f49.body).getD .skip

def sum_Put_j2 (K : Value → World → Prop) (ds : List Deferred) (x5 : Value) (w : World) : Prop :=
  run Pg (convert 42 9 x5) (fun t44_1 w =>
  leaveW Pg ds (fun w => K t44_1 w) w) w

theorem sum_Put_j2_eq (K : Value → World → Prop) : W Pg (cR (cR (cR (cR sum_Put_body)))) false (retQ Pg [.tmp 4] K) = (fun s w => sum_Put_j2 K s.ds (s.f 5) w) :=
  by kernel_rfl

def sum_Put_l3 (K : Value → World → Prop) (X1 : List Deferred × Value × Value × Value × Value × Value → World → Prop) (st : List Deferred × Value × Value × Value × Value × Value) (w : World) : Prop :=
  run Pg (binS .lss 3 false st.2.2.2.2.2 st.2.2.2.2.1) (fun t29_2 w =>
  cnd t29_2 (
  run Pg (binS .sub 3 true st.2.2.1 (.int .i64 1)) (fun t33_3 w =>
  run Pg (binS .sub 3 false t33_3 st.2.2.2.2.2) (fun t35_4 w =>
  run Pg (binS .mul 3 true (.int .i64 8) st.2.2.2.2.2) (fun t38_5 w =>
  run Pg (binS .shr 3 false st.2.1 t38_5) (fun t39_6 w =>
  run Pg (convert 3 5 t39_6) (fun t40_7 w =>
  run Pg (Instr.indexAt 42 st.2.2.2.1 t35_4) (fun t41_8 w =>
  runU Pg (Instr.storeAt 5 t41_8 t40_7) (fun w =>
  run Pg (binS .add 3 true st.2.2.2.2.2 (.int .i64 1)) (fun t42_9 w =>
  X1 (st.1, st.2.1, st.2.2.1, st.2.2.2.1, st.2.2.2.2.1, t42_9) w) w) w) w) w) w) w) w) w) (
  sum_Put_j2 K st.1 st.2.2.2.1 w)) w

theorem sum_Put_l3_eq (K : Value → World → Prop) (X1 : List Deferred × Value × Value × Value × Value × Value → World → Prop) : W Pg (cB (cB (cR (cL (cR (cR (cR sum_Put_body))))))) false (thenP (fun s w => X1 (s.ds, s.f 0, s.f 1, s.f 5, s.f 27, s.f 28) w) (blockP 0 (thenP (fun s w => sum_Put_j2 K s.ds (s.f 5) w) (retQ Pg [.tmp 4] K)))) = (fun s w => sum_Put_l3 K X1 (s.ds, s.f 0, s.f 1, s.f 5, s.f 27, s.f 28) w) :=
  by kernel_rfl

theorem sum_Put_l3_mono (K : Value → World → Prop) : ∀ X Y : List Deferred × Value × Value × Value × Value × Value → World → Prop, (∀ t w, X t w → Y t w) → ∀ t w, sum_Put_l3 K X t w → sum_Put_l3 K Y t w :=
  loop_mono (fun s : St => ((s.ds, s.f 0, s.f 1, s.f 5, s.f 27, s.f 28) : List Deferred × Value × Value × Value × Value × Value)) (fun X1 => sum_Put_l3_eq K X1) (fun t => ⟨fun i => (bif Nat.beq i 0 then t.2.1 else (bif Nat.beq i 1 then t.2.2.1 else (bif Nat.beq i 5 then t.2.2.2.1 else (bif Nat.beq i 27 then t.2.2.2.2.1 else (bif Nat.beq i 28 then t.2.2.2.2.2 else undef))))), t.1⟩) (fun _ => rfl)

def sum_Put_j1 (K : Value → World → Prop) (ds : List Deferred) (x0 : Value) (x1 : Value) (w : World) : Prop :=
  run Pg (Instr.makeSlice 42 x1 x1) (fun t25_10 w =>
  run Pg (Builtin.len_ #[42] 3 #[t25_10]) (fun t27_11 w =>
  Lp (sum_Put_l3 K) (ds, x0, x1, t25_10, t27_11, (.int .i64 0)) w) w) w

theorem sum_Put_j1_eq (K : Value → World → Prop) : W Pg (cR (cR sum_Put_body)) false (retQ Pg [.tmp 4] K) = (fun s w => sum_Put_j1 K s.ds (s.f 0) (s.f 1) w) :=
  Eq.trans (eqSeq ((eqSeq (sum_Put_j2_eq K)).trans (eqSeq (eqBlock (eqLoop (rd := false) (fun s : St => ((s.ds, s.f 0, s.f 1, s.f 5, s.f 27, s.f 28) : List Deferred × Value × Value × Value × Value × Value)) (fun X1 => sum_Put_l3_eq K X1)))))) (by kernel_rfl)

def sum_Put_g6 (K : Value → World → Prop) (ds : List Deferred) (x0 : Value) (x1 : Value) (x17 : Value) (x22 : Value) (w : World) : Prop :=
  pickV x17 (.bool true) x22 (fun t23_12 w =>
  cnd t23_12 (
  leaveW Pg ds (fun w => K (.string ⟨#[]⟩) w) w) (
  sum_Put_j1 K ds x0 x1 w)) w

theorem sum_Put_g6_eq (K : Value → World → Prop) : opsG (op1W Pg) (rOps (cL (cL (cR sum_Put_body)))).toList ((groups (rOps (cL (cL (cR sum_Put_body)))).toList).drop 6) 16 (W Pg (cR (cL (cR sum_Put_body))) false (thenP (fun s w => sum_Put_j1 K s.ds (s.f 0) (s.f 1) w) (retQ Pg [.tmp 4] K))) = (fun s w => sum_Put_g6 K s.ds (s.f 0) (s.f 1) (s.f 17) (s.f 22) w) :=
  by kernel_rfl

def sum_Put_g5 (K : Value → World → Prop) (ds : List Deferred) (x0 : Value) (x1 : Value) (x13 : Value) (x15 : Value) (w : World) : Prop :=
  pickV x13 (.bool true) x15 (fun t16_13 w =>
  gcond t16_13 false (
  run Pg (binS .mul 3 true (.int .i64 8) x1) (fun t20_14 w =>
  run Pg (binS .shr 3 false x0 t20_14) (fun t21_15 w =>
  run Pg (binS .neq 3 true t21_15 (.int .i64 0)) (fun t22_16 w =>
  sum_Put_g6 K ds x0 x1 t16_13 t22_16 w) w) w) w) (
  sum_Put_g6 K ds x0 x1 t16_13 undef w)) w

theorem sum_Put_g5_eq (K : Value → World → Prop) : opsG (op1W Pg) (rOps (cL (cL (cR sum_Put_body)))).toList ((groups (rOps (cL (cL (cR sum_Put_body)))).toList).drop 4) 9 (W Pg (cR (cL (cR sum_Put_body))) false (thenP (fun s w => sum_Put_j1 K s.ds (s.f 0) (s.f 1) w) (retQ Pg [.tmp 4] K))) = (fun s w => sum_Put_g5 K s.ds (s.f 0) (s.f 1) (s.f 13) (s.f 15) w) :=
  Eq.trans (eqPlain (eqGrd (sum_Put_g6_eq K))) (by kernel_rfl)

def sum_Put_g4 (K : Value → World → Prop) (ds : List Deferred) (x0 : Value) (x1 : Value) (x9 : Value) (x11 : Value) (w : World) : Prop :=
  pickV x9 (.bool true) x11 (fun t12_17 w =>
  gcond t12_17 false (
  run Pg (binS .lss 3 true x0 (.int .i64 0)) (fun t15_18 w =>
  sum_Put_g5 K ds x0 x1 t12_17 t15_18 w) w) (
  sum_Put_g5 K ds x0 x1 t12_17 undef w)) w

theorem sum_Put_g4_eq (K : Value → World → Prop) : opsG (op1W Pg) (rOps (cL (cL (cR sum_Put_body)))).toList ((groups (rOps (cL (cL (cR sum_Put_body)))).toList).drop 2) 5 (W Pg (cR (cL (cR sum_Put_body))) false (thenP (fun s w => sum_Put_j1 K s.ds (s.f 0) (s.f 1) w) (retQ Pg [.tmp 4] K))) = (fun s w => sum_Put_g4 K s.ds (s.f 0) (s.f 1) (s.f 9) (s.f 11) w) :=
  Eq.trans (eqPlain (eqGrd (sum_Put_g5_eq K))) (by kernel_rfl)

def sum_Put (K : Value → World → Prop) (ds : List Deferred) (x0 : Value) (x1 : Value) (w : World) : Prop :=
  run Pg (binS .lss 3 true x1 (.int .i64 1)) (fun t8_19 w =>
  gcond t8_19 false (
  run Pg (binS .gtr 3 true x1 (.int .i64 7)) (fun t11_20 w =>
  sum_Put_g4 K ds x0 x1 t8_19 t11_20 w) w) (
  sum_Put_g4 K ds x0 x1 t8_19 undef w)) w

theorem sum_Put_eq (K : Value → World → Prop) : W Pg sum_Put_body false (retQ Pg [.tmp 4] K) = (fun s w => sum_Put K s.ds (s.f 0) (s.f 1) w) :=
  Eq.trans (eqSeq ((eqSeq (sum_Put_j1_eq K)).trans (eqSeqL (eqReg (rd := false) (id := 1) (ops := rOps (cL (cL (cR sum_Put_body)))) (by kernel_rfl) (eqPlain (eqGrd (sum_Put_g4_eq K))))))) (by kernel_rfl)

theorem sum_Put_ok : FnOk Pg F.sum_Put Go.Proofs.Tryz.f49 sum_Put_body 2 := ⟨Go.Proofs.Tryz.func49, by kernel_rfl, by kernel_rfl, by kernel_rfl, by kernel_rfl, by kernel_rfl⟩

theorem sum_Put_callS {K : Value → World → Prop} {x0 : Value} {x1 : Value} {w : World} (h : sum_Put K [] x0 x1 w) : callS Pg F.sum_Put [x0, x1] K w :=
  call_of_W sum_Put_ok (Eq.mpr (congrFun (congrFun (sum_Put_eq K) ⟨argFr [x0, x1], []⟩) w) h)

theorem sum_Put_call {K : Value → World → Prop} {x0 : Value} {x1 : Value} {w : World} (h : sum_Put K [] x0 x1 w) : call Pg F.sum_Put [x0, x1] K w := .inl (sum_Put_callS h)

/-- concordance/sum.Get -/
noncomputable def sum_Get_body : Code := (Go.Proofs.Tryz.f96.body).getD .skip

def sum_Get_j1 (K : Value → World → Prop) (ds : List Deferred) (x3 : Value) (w : World) : Prop :=
  leaveW Pg ds (fun w => K x3 w) w

theorem sum_Get_j1_eq (K : Value → World → Prop) : W Pg (cR (cR (cR (cR sum_Get_body)))) false (retQ Pg [.tmp 2] K) = (fun s w => sum_Get_j1 K s.ds (s.f 3) w) :=
  by kernel_rfl

def sum_Get_l2 (K : Value → World → Prop) (X1 : List Deferred × Value × Value × Value × Value → World → Prop) (st : List Deferred × Value × Value × Value × Value) (w : World) : Prop :=
  run Pg (binS .lss 3 false st.2.2.2.2 st.2.2.2.1) (fun t11_1 w =>
  cnd t11_1 (
  run Pg (binS .shl 3 true st.2.2.1 (.int .u64 8)) (fun t14_2 w =>
  run Pg (Instr.index 9 st.2.1 st.2.2.2.2) (fun t17_3 w =>
  run Pg (convert 5 3 t17_3) (fun t18_4 w =>
  run Pg (binS .or 3 false t14_2 t18_4) (fun t19_5 w =>
  run Pg (binS .add 3 true st.2.2.2.2 (.int .i64 1)) (fun t20_6 w =>
  X1 (st.1, st.2.1, t19_5, st.2.2.2.1, t20_6) w) w) w) w) w) w) (
  sum_Get_j1 K st.1 st.2.2.1 w)) w

theorem sum_Get_l2_eq (K : Value → World → Prop) (X1 : List Deferred × Value × Value × Value × Value → World → Prop) : W Pg (cB (cB (cR (cL (cR (cR (cR sum_Get_body))))))) false (thenP (fun s w => X1 (s.ds, s.f 0, s.f 3, s.f 9, s.f 10) w) (blockP 0 (thenP (fun s w => sum_Get_j1 K s.ds (s.f 3) w) (retQ Pg [.tmp 2] K)))) = (fun s w => sum_Get_l2 K X1 (s.ds, s.f 0, s.f 3, s.f 9, s.f 10) w) :=
  by kernel_rfl

theorem sum_Get_l2_mono (K : Value → World → Prop) : ∀ X Y : List Deferred × Value × Value × Value × Value → World → Prop, (∀ t w, X t w → Y t w) → ∀ t w, sum_Get_l2 K X t w → sum_Get_l2 K Y t w :=
  loop_mono (fun s : St => ((s.ds, s.f 0, s.f 3, s.f 9, s.f 10) : List Deferred × Value × Value × Value × Value)) (fun X1 => sum_Get_l2_eq K X1) (fun t => ⟨fun i => (bif Nat.beq i 0 then t.2.1 else (bif Nat.beq i 3 then t.2.2.1 else (bif Nat.beq i 9 then t.2.2.2.1 else (bif Nat.beq i 10 then t.2.2.2.2 else undef)))), t.1⟩) (fun _ => rfl)

def sum_Get (K : Value → World → Prop) (ds : List Deferred) (x0 : Value) (w : World) : Prop :=
  run Pg (Builtin.len_ #[9] 3 #[x0]) (fun t6_7 w =>
  run Pg (binS .gtr 3 true t6_7 (.int .i64 7)) (fun t7_8 w =>
  cnd t7_8 (
  leaveW Pg ds (fun w => K (.int .i64 0) w) w) (
  run Pg (Builtin.len_ #[9] 3 #[x0]) (fun t9_9 w =>
  Lp (sum_Get_l2 K) (ds, x0, (.int .i64 0), t9_9, (.int .i64 0)) w) w)) w) w

theorem sum_Get_eq (K : Value → World → Prop) : W Pg sum_Get_body false (retQ Pg [.tmp 2] K) = (fun s w => sum_Get K s.ds (s.f 0) w) :=
  Eq.trans (eqSeq (eqSeq (eqSeq ((eqSeq (sum_Get_j1_eq K)).trans (eqSeq (eqBlock (eqLoop (rd := false) (fun s : St => ((s.ds, s.f 0, s.f 3, s.f 9, s.f 10) : List Deferred × Value × Value × Value × Value)) (fun X1 => sum_Get_l2_eq K X1)))))))) (by kernel_rfl)

theorem sum_Get_ok : FnOk Pg F.sum_Get Go.Proofs.Tryz.f96 sum_Get_body 1 := ⟨Go.Proofs.Tryz.func96, by kernel_rfl, by kernel_rfl, by kernel_rfl, by kernel_rfl, by kernel_rfl⟩

theorem sum_Get_callS {K : Value → World → Prop} {x0 : Value} {w : World} (h : sum_Get K [] x0 w) : callS Pg F.sum_Get [x0] K w :=
  call_of_W sum_Get_ok (Eq.mpr (congrFun (congrFun (sum_Get_eq K) ⟨argFr [x0], []⟩) w) h)

theorem sum_Get_call {K : Value → World → Prop} {x0 : Value} {w : World} (h : sum_Get K [] x0 w) : call Pg F.sum_Get [x0] K w := .inl (sum_Get_callS h)

/-- concordance/sum.mark -/
noncomputable def sum_mark_body : Code := (Go.Proofs.Tryz.f83.body).getD .skip

def sum_mark (K : Value → World → Prop) (ds : List Deferred) (x0 : Value) (w : World) : Prop :=
  call Pg F.sum_Sum [x0] (fun t5_1 w =>
  run Pg (convert 152 5 t5_1) (fun t7_2 w =>
  run Pg (binS .shr 152 true t5_1 (.int .u64 8)) (fun t9_3 w =>
  run Pg (convert 152 5 t9_3) (fun t10_4 w =>
  run Pg (binS .shr 152 true t5_1 (.int .u64 16)) (fun t12_5 w =>
  run Pg (convert 152 5 t12_5) (fun t13_6 w =>
  run Pg (binS .shr 152 true t5_1 (.int .u64 24)) (fun t15_7 w =>
  run Pg (convert 152 5 t15_7) (fun t16_8 w =>
  run Pg (Instr.buildSlice 42 4 #[(0, t7_2), (1, t10_4), (2, t13_6), (3, t16_8)]) (fun t17_9 w =>
  run Pg (convert 42 9 t17_9) (fun t18_10 w =>
  leaveW Pg ds (fun w => K t18_10 w) w) w) w) w) w) w) w) w) w) w) w

theorem sum_mark_eq (K : Value → World → Prop) : W Pg sum_mark_body false (retQ Pg [.tmp 2] K) = (fun s w => sum_mark K s.ds (s.f 0) w) :=
  by kernel_rfl

theorem sum_mark_ok : FnOk Pg F.sum_mark Go.Proofs.Tryz.f83 sum_mark_body 1 := ⟨Go.Proofs.Tryz.func83, by kernel_rfl, by kernel_rfl, by kernel_rfl, by kernel_rfl, by kernel_rfl⟩

theorem sum_mark_callS {K : Value → World → Prop} {x0 : Value} {w : World} (h : sum_mark K [] x0 w) : callS Pg F.sum_mark [x0] K w :=
  call_of_W sum_mark_ok (Eq.mpr (congrFun (congrFun (sum_mark_eq K) ⟨argFr [x0], []⟩) w) h)

theorem sum_mark_call {K : Value → World → Prop} {x0 : Value} {w : World} (h : sum_mark K [] x0 w) : call Pg F.sum_mark [x0] K w := .inl (sum_mark_callS h)

/-- concordance/sum.Seal -/
noncomputable def sum_Seal_body : Code := (Go.Proofs.Tryz.f76.body).getD .skip

def sum_Seal (K : Value → World → Prop) (ds : List Deferred) (x0 : Value) (w : World) : Prop :=
  call Pg F.sum_mark [x0] (fun t5_1 w =>
  run Pg (binS .add 9 false x0 t5_1) (fun t6_2 w =>
  leaveW Pg ds (fun w => K t6_2 w) w) w) w

theorem sum_Seal_eq (K : Value → World → Prop) : W Pg sum_Seal_body false (retQ Pg [.tmp 2] K) = (fun s w => sum_Seal K s.ds (s.f 0) w) :=
  by kernel_rfl

theorem sum_Seal_ok : FnOk Pg F.sum_Seal Go.Proofs.Tryz.f76 sum_Seal_body 1 := ⟨Go.Proofs.Tryz.func76, by kernel_rfl, by kernel_rfl, by kernel_rfl, by kernel_rfl, by kernel_rfl⟩

theorem sum_Seal_callS {K : Value → World → Prop} {x0 : Value} {w : World} (h : sum_Seal K [] x0 w) : callS Pg F.sum_Seal [x0] K w :=
  call_of_W sum_Seal_ok (Eq.mpr (congrFun (congrFun (sum_Seal_eq K) ⟨argFr [x0], []⟩) w) h)

theorem sum_Seal_call {K : Value → World → Prop} {x0 : Value} {w : World} (h : sum_Seal K [] x0 w) : call Pg F.sum_Seal [x0] K w := .inl (sum_Seal_callS h)

/-- concordance/sum.Open -/
noncomputable def sum_Open_body : Code := (Go.Proofs.Tryz.f59.body).getD .skip

def sum_Open (K : Value → World → Prop) (ds : List Deferred) (x0 : Value) (w : World) : Prop :=
  run Pg (Builtin.len_ #[9] 3 #[x0]) (fun t6_1 w =>
  run Pg (binS .lss 3 true t6_1 (.int .i64 4)) (fun t7_2 w =>
  cnd t7_2 (
  leaveW Pg ds (fun w => K (.tuple #[(.string ⟨#[]⟩), (.int .i64 3)]) w) w) (
  run Pg (Builtin.len_ #[9] 3 #[x0]) (fun t10_3 w =>
  run Pg (binS .sub 3 true t10_3 (.int .i64 4)) (fun t11_4 w =>
  run Pg (Instr.sliceAt 9 x0 none (some t11_4) none) (fun t12_5 w =>
  rn Pg (fun _ => True) (Builtin.len_ #[9] 3 #[t12_5]) (fun t15_6 w =>
  rn Pg (fun _ => True) (Instr.sliceAt 9 x0 (some t15_6) none none) (fun t16_7 w =>
  call Pg F.sum_mark [t12_5] (fun t18_8 w =>
  (fun _ => True) w ∧ rn Pg (fun _ => True) (binS .neq 9 false t16_7 t18_8) (fun t19_9 w =>
  cnd t19_9 (
  leaveW Pg ds (fun w => K (.tuple #[(.string ⟨#[]⟩), (.int .i64 5)]) w) w) (
  leaveW Pg ds (fun w => K (.tuple #[t12_5, (.int .i64 0)]) w) w)) w) w) w) w.drew) w) w) w)) w) w

theorem sum_Open_eq (K : Value → World → Prop) : W Pg sum_Open_body false (retQ Pg [.tmp 2, .tmp 3] K) = (fun s w => sum_Open K s.ds (s.f 0) w) :=
  by kernel_rfl

theorem sum_Open_ok : FnOk Pg F.sum_Open Go.Proofs.Tryz.f59 sum_Open_body 1 := ⟨Go.Proofs.Tryz.func59, by kernel_rfl, by kernel_rfl, by kernel_rfl, by kernel_rfl, by kernel_rfl⟩

theorem sum_Open_callS {K : Value → World → Prop} {x0 : Value} {w : World} (h : sum_Open K [] x0 w) : callS Pg F.sum_Open [x0] K w :=
  call_of_W sum_Open_ok (Eq.mpr (congrFun (congrFun (sum_Open_eq K) ⟨argFr [x0], []⟩) w) h)

theorem sum_Open_call {K : Value → World → Prop} {x0 : Value} {w : World} (h : sum_Open K [] x0 w) : call Pg F.sum_Open [x0] K w := .inl (sum_Open_callS h)

/-- concordance/page.noughts -/
noncomputable def page_noughts_body : Code := (Go.Proofs.Tryz.f60.body).getD .skip

def page_noughts (K : Value → World → Prop) (ds : List Deferred) (x0 : Value) (w : World) : Prop :=
  call Pg F.strings_Trim [x0, (.string ⟨#[0]⟩)] (fun t4_1 w =>
  run Pg (binS .eql 9 true t4_1 (.string ⟨#[]⟩)) (fun t5_2 w =>
  leaveW Pg ds (fun w => K t5_2 w) w) w) w

theorem page_noughts_eq (K : Value → World → Prop) : W Pg page_noughts_body false (retQ Pg [.tmp 2] K) = (fun s w => page_noughts K s.ds (s.f 0) w) :=
  by kernel_rfl

theorem page_noughts_ok : FnOk Pg F.page_noughts Go.Proofs.Tryz.f60 page_noughts_body 1 := ⟨Go.Proofs.Tryz.func60, by kernel_rfl, by kernel_rfl, by kernel_rfl, by kernel_rfl, by kernel_rfl⟩

theorem page_noughts_callS {K : Value → World → Prop} {x0 : Value} {w : World} (h : page_noughts K [] x0 w) : callS Pg F.page_noughts [x0] K w :=
  call_of_W page_noughts_ok (Eq.mpr (congrFun (congrFun (page_noughts_eq K) ⟨argFr [x0], []⟩) w) h)

theorem page_noughts_call {K : Value → World → Prop} {x0 : Value} {w : World} (h : page_noughts K [] x0 w) : call Pg F.page_noughts [x0] K w := .inl (page_noughts_callS h)

/-- concordance/page.Whole -/
noncomputable def page_Whole_body : Code := (Go.Proofs.Tryz.f37.body).getD .skip

def page_Whole_g3 (K : Value → World → Prop) (ds : List Deferred) (x15 : Value) (x24 : Value) (w : World) : Prop :=
  pickV x15 (.bool true) x24 (fun t25_1 w =>
  leaveW Pg ds (fun w => K t25_1 w) w) w

theorem page_Whole_g3_eq (K : Value → World → Prop) : opsG (op1T Pg (fun _ => True) (masks (rOps (cL (cR (cR (cR page_Whole_body))))).toList) (rOps (cL (cR (cR (cR page_Whole_body))))).toList) (rOps (cL (cR (cR (cR page_Whole_body))))).toList ((groups (rOps (cL (cR (cR (cR page_Whole_body))))).toList).drop 4) 12 (W Pg (cR (cR (cR (cR page_Whole_body)))) false (retQ Pg [.tmp 2] K)) = (fun s w => page_Whole_g3 K s.ds (s.f 15) (s.f 24) w) :=
  by kernel_rfl

def page_Whole_g2 (K : Value → World → Prop) (ds : List Deferred) (x15 : Value) (x18 : Value) (x23 : Value) (w : World) : Prop :=
  gcond x15 false (
  pickV x18 x23 (.bool false) (fun t24_2 w =>
  page_Whole_g3 K ds x15 t24_2 w) w) (
  page_Whole_g3 K ds x15 undef w)

theorem page_Whole_g2_eq (K : Value → World → Prop) : opsG (op1T Pg (fun _ => True) (masks (rOps (cL (cR (cR (cR page_Whole_body))))).toList) (rOps (cL (cR (cR (cR page_Whole_body))))).toList) (rOps (cL (cR (cR (cR page_Whole_body))))).toList ((groups (rOps (cL (cR (cR (cR page_Whole_body))))).toList).drop 3) 11 (W Pg (cR (cR (cR (cR page_Whole_body)))) false (retQ Pg [.tmp 2] K)) = (fun s w => page_Whole_g2 K s.ds (s.f 15) (s.f 18) (s.f 23) w) :=
  Eq.trans (eqGrd (page_Whole_g3_eq K)) (by kernel_rfl)

def page_Whole_g1 (K : Value → World → Prop) (ds : List Deferred) (x3 : Value) (x15 : Value) (x18 : Value) (w : World) : Prop :=
  gcond x18 true (
  rn Pg (fun _ => True) (Instr.sliceAt 9 x3 none (some (.int .i64 6)) none) (fun t20_3 w =>
  rn Pg (fun _ => True) (Instr.sliceAt 9 x3 (some (.int .i64 502)) none none) (fun t22_4 w =>
  rn Pg (fun _ => True) (binS .eql 9 false t20_3 t22_4) (fun t23_5 w =>
  page_Whole_g2 K ds x15 x18 t23_5 w) w) w) w) (
  page_Whole_g2 K ds x15 x18 undef w)

theorem page_Whole_g1_eq (K : Value → World → Prop) : opsG (op1T Pg (fun _ => True) (masks (rOps (cL (cR (cR (cR page_Whole_body))))).toList) (rOps (cL (cR (cR (cR page_Whole_body))))).toList) (rOps (cL (cR (cR (cR page_Whole_body))))).toList ((groups (rOps (cL (cR (cR (cR page_Whole_body))))).toList).drop 2) 6 (W Pg (cR (cR (cR (cR page_Whole_body)))) false (retQ Pg [.tmp 2] K)) = (fun s w => page_Whole_g1 K s.ds (s.f 3) (s.f 15) (s.f 18) w) :=
  Eq.trans (eqGrd (page_Whole_g2_eq K)) (by kernel_rfl)

def page_Whole (K : Value → World → Prop) (ds : List Deferred) (x0 : Value) (w : World) : Prop :=
  run Pg (Builtin.len_ #[9] 3 #[x0]) (fun t6_6 w =>
  run Pg (binS .neq 3 true t6_6 (.int .i64 512)) (fun t7_7 w =>
  cnd t7_7 (
  leaveW Pg ds (fun w => K (.bool false) w) w) (
  call Pg F.sum_Open [x0] (fun t10_8 w =>
  run Pg (Instr.extract t10_8 0) (fun t11_9 w =>
  run Pg (Instr.extract t10_8 1) (fun t12_10 w =>
  call Pg F.page_noughts [x0] (fun t14_11 w =>
  (fun _ => True) w ∧ gcond t14_11 false (
  rn Pg (fun _ => True) (binS .eql 25 true t12_10 (.int .i64 0)) (fun t17_12 w =>
  page_Whole_g1 K ds t11_9 t14_11 t17_12 w) w) (
  page_Whole_g1 K ds t11_9 t14_11 undef w)) w.drew) w) w) w)) w) w

theorem page_Whole_eq (K : Value → World → Prop) : W Pg page_Whole_body false (retQ Pg [.tmp 2] K) = (fun s w => page_Whole K s.ds (s.f 0) w) :=
  Eq.trans (eqSeq (eqSeq (eqSeq (eqSeqL (eqDraw0 (rd := false) (id := 4) (ops := rOps (cL (cR (cR (cR page_Whole_body))))) (by kernel_rfl) (by kernel_rfl) (by kernel_rfl) (eqPlain (eqGrd (page_Whole_g1_eq K)))))))) (by kernel_rfl)

theorem page_Whole_ok : FnOk Pg F.page_Whole Go.Proofs.Tryz.f37 page_Whole_body 1 := ⟨Go.Proofs.Tryz.func37, by kernel_rfl, by kernel_rfl, by kernel_rfl, by kernel_rfl, by kernel_rfl⟩

theorem page_Whole_callS {K : Value → World → Prop} {x0 : Value} {w : World} (h : page_Whole K [] x0 w) : callS Pg F.page_Whole [x0] K w :=
  call_of_W page_Whole_ok (Eq.mpr (congrFun (congrFun (page_Whole_eq K) ⟨argFr [x0], []⟩) w) h)

theorem page_Whole_call {K : Value → World → Prop} {x0 : Value} {w : World} (h : page_Whole K [] x0 w) : call Pg F.page_Whole [x0] K w := .inl (page_Whole_callS h)

/-- concordance/page.LSN -/
noncomputable def page_LSN_body : Code := (Go.Proofs.Tryz.f69.body).getD .skip

def page_LSN (K : Value → World → Prop) (ds : List Deferred) (x0 : Value) (w : World) : Prop :=
  run Pg (Builtin.len_ #[9] 3 #[x0]) (fun t4_1 w =>
  run Pg (binS .neq 3 true t4_1 (.int .i64 512)) (fun t5_2 w =>
  cnd t5_2 (
  leaveW Pg ds (fun w => K (.int .i64 0) w) w) (
  run Pg (Instr.sliceAt 9 x0 none (some (.int .i64 6)) none) (fun t7_3 w =>
  call Pg F.sum_Get [t7_3] (fun t8_4 w =>
  leaveW Pg ds (fun w => K t8_4 w) w) w) w)) w) w

theorem page_LSN_eq (K : Value → World → Prop) : W Pg page_LSN_body false (retQ Pg [.tmp 2] K) = (fun s w => page_LSN K s.ds (s.f 0) w) :=
  by kernel_rfl

theorem page_LSN_ok : FnOk Pg F.page_LSN Go.Proofs.Tryz.f69 page_LSN_body 1 := ⟨Go.Proofs.Tryz.func69, by kernel_rfl, by kernel_rfl, by kernel_rfl, by kernel_rfl, by kernel_rfl⟩

theorem page_LSN_callS {K : Value → World → Prop} {x0 : Value} {w : World} (h : page_LSN K [] x0 w) : callS Pg F.page_LSN [x0] K w :=
  call_of_W page_LSN_ok (Eq.mpr (congrFun (congrFun (page_LSN_eq K) ⟨argFr [x0], []⟩) w) h)

theorem page_LSN_call {K : Value → World → Prop} {x0 : Value} {w : World} (h : page_LSN K [] x0 w) : call Pg F.page_LSN [x0] K w := .inl (page_LSN_callS h)

/-- concordance/page.within -/
noncomputable def page_within_body : Code := (Go.Proofs.Tryz.f71.body).getD .skip

def page_within_g1 (K : Value → World → Prop) (ds : List Deferred) (x10 : Value) (x13 : Value) (w : World) : Prop :=
  pickV x10 x13 (.bool false) (fun t14_1 w =>
  leaveW Pg ds (fun w => K t14_1 w) w) w

theorem page_within_g1_eq (K : Value → World → Prop) : opsG (op1W Pg) (rOps (cL (cR page_within_body))).toList ((groups (rOps (cL (cR page_within_body))).toList).drop 2) 7 (W Pg (cR (cR page_within_body)) false (retQ Pg [.tmp 6] K)) = (fun s w => page_within_g1 K s.ds (s.f 10) (s.f 13) w) :=
  by kernel_rfl

def page_within (K : Value → World → Prop) (ds : List Deferred) (x0 : Value) (x1 : Value) (x2 : Value) (w : World) : Prop :=
  run Pg (binS .geq 3 false x0 x1) (fun t9_2 w =>
  gcond t9_2 true (
  run Pg (binS .leq 3 false x0 x2) (fun t13_3 w =>
  page_within_g1 K ds t9_2 t13_3 w) w) (
  page_within_g1 K ds t9_2 undef w)) w

theorem page_within_eq (K : Value → World → Prop) : W Pg page_within_body false (retQ Pg [.tmp 6] K) = (fun s w => page_within K s.ds (s.f 0) (s.f 1) (s.f 2) w) :=
  Eq.trans (eqSeq (eqSeqL (eqReg (rd := false) (id := 1) (ops := rOps (cL (cR page_within_body))) (by kernel_rfl) (eqPlain (eqGrd (page_within_g1_eq K)))))) (by kernel_rfl)

theorem page_within_ok : FnOk Pg F.page_within Go.Proofs.Tryz.f71 page_within_body 3 := ⟨Go.Proofs.Tryz.func71, by kernel_rfl, by kernel_rfl, by kernel_rfl, by kernel_rfl, by kernel_rfl⟩

theorem page_within_callS {K : Value → World → Prop} {x0 : Value} {x1 : Value} {x2 : Value} {w : World} (h : page_within K [] x0 x1 x2 w) : callS Pg F.page_within [x0, x1, x2] K w :=
  call_of_W page_within_ok (Eq.mpr (congrFun (congrFun (page_within_eq K) ⟨argFr [x0, x1, x2], []⟩) w) h)

theorem page_within_call {K : Value → World → Prop} {x0 : Value} {x1 : Value} {x2 : Value} {w : World} (h : page_within K [] x0 x1 x2 w) : call Pg F.page_within [x0, x1, x2] K w := .inl (page_within_callS h)

/-- concordance/page.Size -/
noncomputable def page_Size_body : Code := (Go.Proofs.Tryz.f74.body).getD .skip

def page_Size (K : Value → World → Prop) (ds : List Deferred) (x0 : Value) (w : World) : Prop :=
  run Pg (Instr.box 61 x0) (fun e_1 w =>
  run Pg (Instr.fieldAt 61 e_1 0) (fun t3_2 w =>
  run Pg (Instr.loadAt 9 t3_2) (fun t4_3 w =>
  run Pg (Builtin.len_ #[9] 3 #[t4_3]) (fun t5_4 w =>
  run Pg (binS .add 3 true (.int .i64 3) t5_4) (fun t6_5 w =>
  run Pg (Instr.fieldAt 61 e_1 1) (fun t7_6 w =>
  run Pg (Instr.loadAt 9 t7_6) (fun t8_7 w =>
  run Pg (Builtin.len_ #[9] 3 #[t8_7]) (fun t9_8 w =>
  run Pg (binS .add 3 false t6_5 t9_8) (fun t10_9 w =>
  leaveW Pg ds (fun w => K t10_9 w) w) w) w) w) w) w) w) w) w) w

theorem page_Size_eq (K : Value → World → Prop) : W Pg page_Size_body false (retQ Pg [.tmp 2] K) = (fun s w => page_Size K s.ds (s.f 0) w) :=
  by kernel_rfl

theorem page_Size_ok : FnOk Pg F.page_Size Go.Proofs.Tryz.f74 page_Size_body 1 := ⟨Go.Proofs.Tryz.func74, by kernel_rfl, by kernel_rfl, by kernel_rfl, by kernel_rfl, by kernel_rfl⟩

theorem page_Size_callS {K : Value → World → Prop} {x0 : Value} {w : World} (h : page_Size K [] x0 w) : callS Pg F.page_Size [x0] K w :=
  call_of_W page_Size_ok (Eq.mpr (congrFun (congrFun (page_Size_eq K) ⟨argFr [x0], []⟩) w) h)

theorem page_Size_call {K : Value → World → Prop} {x0 : Value} {w : World} (h : page_Size K [] x0 w) : call Pg F.page_Size [x0] K w := .inl (page_Size_callS h)

/-- concordance/page.Free -/
noncomputable def page_Free_body : Code := (Go.Proofs.Tryz.f47.body).getD .skip

def page_Free_j1 (K : Value → World → Prop) (ds : List Deferred) (x3 : Value) (w : World) : Prop :=
  leaveW Pg ds (fun w => K x3 w) w

theorem page_Free_j1_eq (K : Value → World → Prop) : W Pg (cR (cR (cR page_Free_body))) false (retQ Pg [.tmp 2] K) = (fun s w => page_Free_j1 K s.ds (s.f 3) w) :=
  by kernel_rfl

def page_Free_l2 (K : Value → World → Prop) (X1 : List Deferred × Value × Value × Value × Value → World → Prop) (st : List Deferred × Value × Value × Value × Value) (w : World) : Prop :=
  run Pg (binS .lss 3 false st.2.2.2.2 st.2.2.2.1) (fun t14_1 w =>
  cnd t14_1 (
  run Pg (Instr.indexAt 62 st.2.2.1 st.2.2.2.2) (fun t15_2 w =>
  run Pg (Instr.loadAt 61 t15_2) (fun t16_3 w =>
  run Pg (Instr.alloc 61 true (.tuple #[])) (fun e_4 w =>
  runU Pg (Instr.storeAt 61 e_4 t16_3) (fun w =>
  run Pg (Instr.loadAt 61 e_4) (fun t18_5 w =>
  call Pg F.page_Size [t18_5] (fun t19_6 w =>
  run Pg (binS .sub 3 false st.2.1 t19_6) (fun t20_7 w =>
  run Pg (binS .add 3 true st.2.2.2.2 (.int .i64 1)) (fun t21_8 w =>
  X1 (st.1, t20_7, st.2.2.1, st.2.2.2.1, t21_8) w) w) w) w) w) w) w) w) w) (
  page_Free_j1 K st.1 st.2.1 w)) w

theorem page_Free_l2_eq (K : Value → World → Prop) (X1 : List Deferred × Value × Value × Value × Value → World → Prop) : W Pg (cB (cB (cR (cL (cR (cR page_Free_body)))))) false (thenP (fun s w => X1 (s.ds, s.f 3, s.f 11, s.f 12, s.f 13) w) (blockP 0 (thenP (fun s w => page_Free_j1 K s.ds (s.f 3) w) (retQ Pg [.tmp 2] K)))) = (fun s w => page_Free_l2 K X1 (s.ds, s.f 3, s.f 11, s.f 12, s.f 13) w) :=
  by kernel_rfl

theorem page_Free_l2_mono (K : Value → World → Prop) : ∀ X Y : List Deferred × Value × Value × Value × Value → World → Prop, (∀ t w, X t w → Y t w) → ∀ t w, page_Free_l2 K X t w → page_Free_l2 K Y t w :=
  loop_mono (fun s : St => ((s.ds, s.f 3, s.f 11, s.f 12, s.f 13) : List Deferred × Value × Value × Value × Value)) (fun X1 => page_Free_l2_eq K X1) (fun t => ⟨fun i => (bif Nat.beq i 3 then t.2.1 else (bif Nat.beq i 11 then t.2.2.1 else (bif Nat.beq i 12 then t.2.2.2.1 else (bif Nat.beq i 13 then t.2.2.2.2 else undef)))), t.1⟩) (fun _ => rfl)

def page_Free (K : Value → World → Prop) (ds : List Deferred) (x0 : Value) (w : World) : Prop :=
  run Pg (Instr.box 64 x0) (fun p_9 w =>
  run Pg (Instr.fieldAt 64 p_9 4) (fun t6_10 w =>
  run Pg (Instr.loadAt 9 t6_10) (fun t7_11 w =>
  run Pg (Builtin.len_ #[9] 3 #[t7_11]) (fun t8_12 w =>
  run Pg (binS .sub 3 true (.int .i64 489) t8_12) (fun t9_13 w =>
  run Pg (Instr.fieldAt 64 p_9 5) (fun t10_14 w =>
  run Pg (Instr.loadAt 62 t10_14) (fun t11_15 w =>
  run Pg (Builtin.len_ #[62] 3 #[t11_15]) (fun t12_16 w =>
  Lp (page_Free_l2 K) (ds, t9_13, t11_15, t12_16, (.int .i64 0)) w) w) w) w) w) w) w) w) w

theorem page_Free_eq (K : Value → World → Prop) : W Pg page_Free_body false (retQ Pg [.tmp 2] K) = (fun s w => page_Free K s.ds (s.f 0) w) :=
  Eq.trans (eqSeq (eqSeq ((eqSeq (page_Free_j1_eq K)).trans (eqSeq (eqBlock (eqLoop (rd := false) (fun s : St => ((s.ds, s.f 3, s.f 11, s.f 12, s.f 13) : List Deferred × Value × Value × Value × Value)) (fun X1 => page_Free_l2_eq K X1))))))) (by kernel_rfl)

theorem page_Free_ok : FnOk Pg F.page_Free Go.Proofs.Tryz.f47 page_Free_body 1 := ⟨Go.Proofs.Tryz.func47, by kernel_rfl, by kernel_rfl, by kernel_rfl, by kernel_rfl, by kernel_rfl⟩

theorem page_Free_callS {K : Value → World → Prop} {x0 : Value} {w : World} (h : page_Free K [] x0 w) : callS Pg F.page_Free [x0] K w :=
  call_of_W page_Free_ok (Eq.mpr (congrFun (congrFun (page_Free_eq K) ⟨argFr [x0], []⟩) w) h)

theorem page_Free_call {K : Value → World → Prop} {x0 : Value} {w : World} (h : page_Free K [] x0 w) : call Pg F.page_Free [x0] K w := .inl (page_Free_callS h)

/-- slices.ContainsFunc[[]concordance/page.Entry,concordance/page.Entry] -/
noncomputable def slices_ContainsFunc_page_Entry_page_Entry_body : Code := (Go.Proofs.Tryz.f72.body).getD .skip

def slices_ContainsFunc_page_Entry_page_Entry (K : Value → World → Prop) (ds : List Deferred) (x0 : Value) (x1 : Value) (w : World) : Prop :=
  call Pg F.slices_IndexFunc_page_Entry_page_Entry [x0, x1] (fun t7_1 w =>
  run Pg (binS .geq 3 true t7_1 (.int .i64 0)) (fun t8_2 w =>
  leaveW Pg ds (fun w => K t8_2 w) w) w) w

theorem slices_ContainsFunc_page_Entry_page_Entry_eq (K : Value → World → Prop) : W Pg slices_ContainsFunc_page_Entry_page_Entry_body false (retQ Pg [.tmp 4] K) = (fun s w => slices_ContainsFunc_page_Entry_page_Entry K s.ds (s.f 0) (s.f 1) w) :=
  by kernel_rfl

theorem slices_ContainsFunc_page_Entry_page_Entry_ok : FnOk Pg F.slices_ContainsFunc_page_Entry_page_Entry Go.Proofs.Tryz.f72 slices_ContainsFunc_page_Entry_page_Entry_body 2 := ⟨Go.Proofs.Tryz.func72, by kernel_rfl, by kernel_rfl, by kernel_rfl, by kernel_rfl, by kernel_rfl⟩

theorem slices_ContainsFunc_page_Entry_page_Entry_callS {K : Value → World → Prop} {x0 : Value} {x1 : Value} {w : World} (h : slices_ContainsFunc_page_Entry_page_Entry K [] x0 x1 w) : callS Pg F.slices_ContainsFunc_page_Entry_page_Entry [x0, x1] K w :=
  call_of_W slices_ContainsFunc_page_Entry_page_Entry_ok (Eq.mpr (congrFun (congrFun (slices_ContainsFunc_page_Entry_page_Entry_eq K) ⟨argFr [x0, x1], []⟩) w) h)

theorem slices_ContainsFunc_page_Entry_page_Entry_call {K : Value → World → Prop} {x0 : Value} {x1 : Value} {w : World} (h : slices_ContainsFunc_page_Entry_page_Entry K [] x0 x1 w) : call Pg F.slices_ContainsFunc_page_Entry_page_Entry [x0, x1] K w := .inl (slices_ContainsFunc_page_Entry_page_Entry_callS h)

/-- slices.IndexFunc[[]concordance/page.Entry,concordance/page.Entry] -/
noncomputable def slices_IndexFunc_page_Entry_page_Entry_body : Code := (Go.Proofs.Tryz.f98.body).getD .skip

def slices_IndexFunc_page_Entry_page_Entry_j1 (K : Value → World → Prop) (ds : List Deferred) (w : World) : Prop :=
  leaveW Pg ds (fun w => K (.int .i64 (-1)) w) w

theorem slices_IndexFunc_page_Entry_page_Entry_j1_eq (K : Value → World → Prop) : W Pg (cR (cR slices_IndexFunc_page_Entry_page_Entry_body)) false (retQ Pg [.tmp 4] K) = (fun s w => slices_IndexFunc_page_Entry_page_Entry_j1 K s.ds  w) :=
  by kernel_rfl

def slices_IndexFunc_page_Entry_page_Entry_l2 (K : Value → World → Prop) (X1 : List Deferred × Value × Value × Value × Value → World → Prop) (st : List Deferred × Value × Value × Value × Value) (w : World) : Prop :=
  run Pg (binS .lss 3 false st.2.2.2.2 st.2.2.2.1) (fun t9_1 w =>
  cnd t9_1 (
  run Pg (Instr.indexAt 62 st.2.1 st.2.2.2.2) (fun t14_2 w =>
  run Pg (Instr.loadAt 61 t14_2) (fun t15_3 w =>
  callV Pg st.2.2.1 [t15_3] (fun t16_4 w =>
  cnd t16_4 (
  leaveW Pg st.1 (fun w => K st.2.2.2.2 w) w) (
  run Pg (binS .add 3 true st.2.2.2.2 (.int .i64 1)) (fun t18_5 w =>
  X1 (st.1, st.2.1, st.2.2.1, st.2.2.2.1, t18_5) w) w)) w) w) w) (
  slices_IndexFunc_page_Entry_page_Entry_j1 K st.1  w)) w

theorem slices_IndexFunc_page_Entry_page_Entry_l2_eq (K : Value → World → Prop) (X1 : List Deferred × Value × Value × Value × Value → World → Prop) : W Pg (cB (cB (cR (cL (cR slices_IndexFunc_page_Entry_page_Entry_body))))) false (thenP (fun s w => X1 (s.ds, s.f 0, s.f 1, s.f 7, s.f 8) w) (blockP 0 (thenP (fun s w => slices_IndexFunc_page_Entry_page_Entry_j1 K s.ds  w) (retQ Pg [.tmp 4] K)))) = (fun s w => slices_IndexFunc_page_Entry_page_Entry_l2 K X1 (s.ds, s.f 0, s.f 1, s.f 7, s.f 8) w) :=
  by kernel_rfl

theorem slices_IndexFunc_page_Entry_page_Entry_l2_mono (K : Value → World → Prop) : ∀ X Y : List Deferred × Value × Value × Value × Value → World → Prop, (∀ t w, X t w → Y t w) → ∀ t w, slices_IndexFunc_page_Entry_page_Entry_l2 K X t w → slices_IndexFunc_page_Entry_page_Entry_l2 K Y t w :=
  loop_mono (fun s : St => ((s.ds, s.f 0, s.f 1, s.f 7, s.f 8) : List Deferred × Value × Value × Value × Value)) (fun X1 => slices_IndexFunc_page_Entry_page_Entry_l2_eq K X1) (fun t => ⟨fun i => (bif Nat.beq i 0 then t.2.1 else (bif Nat.beq i 1 then t.2.2.1 else (bif Nat.beq i 7 then t.2.2.2.1 else (bif Nat.beq i 8 then t.2.2.2.2 else undef)))), t.1⟩) (fun _ => rfl)

def slices_IndexFunc_page_Entry_page_Entry (K : Value → World → Prop) (ds : List Deferred) (x0 : Value) (x1 : Value) (w : World) : Prop :=
  run Pg (Builtin.len_ #[62] 3 #[x0]) (fun t7_6 w =>
  Lp (slices_IndexFunc_page_Entry_page_Entry_l2 K) (ds, x0, x1, t7_6, (.int .i64 0)) w) w

theorem slices_IndexFunc_page_Entry_page_Entry_eq (K : Value → World → Prop) : W Pg slices_IndexFunc_page_Entry_page_Entry_body false (retQ Pg [.tmp 4] K) = (fun s w => slices_IndexFunc_page_Entry_page_Entry K s.ds (s.f 0) (s.f 1) w) :=
  Eq.trans (eqSeq ((eqSeq (slices_IndexFunc_page_Entry_page_Entry_j1_eq K)).trans (eqSeq (eqBlock (eqLoop (rd := false) (fun s : St => ((s.ds, s.f 0, s.f 1, s.f 7, s.f 8) : List Deferred × Value × Value × Value × Value)) (fun X1 => slices_IndexFunc_page_Entry_page_Entry_l2_eq K X1)))))) (by kernel_rfl)

theorem slices_IndexFunc_page_Entry_page_Entry_ok : FnOk Pg F.slices_IndexFunc_page_Entry_page_Entry Go.Proofs.Tryz.f98 slices_IndexFunc_page_Entry_page_Entry_body 2 := ⟨Go.Proofs.Tryz.func98, by kernel_rfl, by kernel_rfl, by kernel_rfl, by kernel_rfl, by kernel_rfl⟩

theorem slices_IndexFunc_page_Entry_page_Entry_callS {K : Value → World → Prop} {x0 : Value} {x1 : Value} {w : World} (h : slices_IndexFunc_page_Entry_page_Entry K [] x0 x1 w) : callS Pg F.slices_IndexFunc_page_Entry_page_Entry [x0, x1] K w :=
  call_of_W slices_IndexFunc_page_Entry_page_Entry_ok (Eq.mpr (congrFun (congrFun (slices_IndexFunc_page_Entry_page_Entry_eq K) ⟨argFr [x0, x1], []⟩) w) h)

theorem slices_IndexFunc_page_Entry_page_Entry_call {K : Value → World → Prop} {x0 : Value} {x1 : Value} {w : World} (h : slices_IndexFunc_page_Entry_page_Entry K [] x0 x1 w) : call Pg F.slices_IndexFunc_page_Entry_page_Entry [x0, x1] K w := .inl (slices_IndexFunc_page_Entry_page_Entry_callS h)

/-- (concordance/page.Page).right$1 -/
noncomputable def page_Page_right_c1_body : Code := (Go.Proofs.Tryz.f73.body).getD .skip

def page_Page_right_c1_g1 (K : Value → World → Prop) (ds : List Deferred) (x7 : Value) (x11 : Value) (w : World) : Prop :=
  pickV x7 (.bool true) x11 (fun t12_1 w =>
  leaveW Pg ds (fun w => K t12_1 w) w) w

theorem page_Page_right_c1_g1_eq (K : Value → World → Prop) : opsG (op1W Pg) (rOps (cL (cR page_Page_right_c1_body))).toList ((groups (rOps (cL (cR page_Page_right_c1_body))).toList).drop 2) 9 (W Pg (cR (cR page_Page_right_c1_body)) false (retQ Pg [.tmp 2] K)) = (fun s w => page_Page_right_c1_g1 K s.ds (s.f 7) (s.f 11) w) :=
  by kernel_rfl

def page_Page_right_c1 (K : Value → World → Prop) (ds : List Deferred) (x0 : Value) (w : World) : Prop :=
  run Pg (Instr.box 61 x0) (fun e_2 w =>
  run Pg (Instr.fieldAt 61 e_2 0) (fun t3_3 w =>
  run Pg (Instr.loadAt 9 t3_3) (fun t4_4 w =>
  run Pg (Builtin.len_ #[9] 3 #[t4_4]) (fun t5_5 w =>
  run Pg (binS .gtr 3 true t5_5 (.int .i64 64)) (fun t6_6 w =>
  gcond t6_6 false (
  run Pg (Instr.fieldAt 61 e_2 1) (fun t8_7 w =>
  run Pg (Instr.loadAt 9 t8_7) (fun t9_8 w =>
  run Pg (Builtin.len_ #[9] 3 #[t9_8]) (fun t10_9 w =>
  run Pg (binS .gtr 3 true t10_9 (.int .i64 100)) (fun t11_10 w =>
  page_Page_right_c1_g1 K ds t6_6 t11_10 w) w) w) w) w) (
  page_Page_right_c1_g1 K ds t6_6 undef w)) w) w) w) w) w

theorem page_Page_right_c1_eq (K : Value → World → Prop) : W Pg page_Page_right_c1_body false (retQ Pg [.tmp 2] K) = (fun s w => page_Page_right_c1 K s.ds (s.f 0) w) :=
  Eq.trans (eqSeq (eqSeqL (eqReg (rd := false) (id := 1) (ops := rOps (cL (cR page_Page_right_c1_body))) (by kernel_rfl) (eqPlain (eqGrd (page_Page_right_c1_g1_eq K)))))) (by kernel_rfl)

theorem page_Page_right_c1_ok : FnOk Pg F.page_Page_right_c1 Go.Proofs.Tryz.f73 page_Page_right_c1_body 1 := ⟨Go.Proofs.Tryz.func73, by kernel_rfl, by kernel_rfl, by kernel_rfl, by kernel_rfl, by kernel_rfl⟩

theorem page_Page_right_c1_callS {K : Value → World → Prop} {x0 : Value} {w : World} (h : page_Page_right_c1 K [] x0 w) : callS Pg F.page_Page_right_c1 [x0] K w :=
  call_of_W page_Page_right_c1_ok (Eq.mpr (congrFun (congrFun (page_Page_right_c1_eq K) ⟨argFr [x0], []⟩) w) h)

theorem page_Page_right_c1_call {K : Value → World → Prop} {x0 : Value} {w : World} (h : page_Page_right_c1 K [] x0 w) : call Pg F.page_Page_right_c1 [x0] K w := .inl (page_Page_right_c1_callS h)

/-- (concordance/page.Page).right -/
noncomputable def page_Page_right_body : Code := (Go.Proofs.Tryz.f46.body).getD .skip

def page_Page_right_g5 (K : Value → World → Prop) (ds : List Deferred) (x27 : Value) (x31 : Value) (w : World) : Prop :=
  pickV x27 x31 (.bool false) (fun t32_1 w =>
  leaveW Pg ds (fun w => K t32_1 w) w) w

theorem page_Page_right_g5_eq (K : Value → World → Prop) : opsG (op1W Pg) (rOps (cL (cR page_Page_right_body))).toList ((groups (rOps (cL (cR page_Page_right_body))).toList).drop 10) 29 (W Pg (cR (cR page_Page_right_body)) false (retQ Pg [.tmp 2] K)) = (fun s w => page_Page_right_g5 K s.ds (s.f 27) (s.f 31) w) :=
  by kernel_rfl

def page_Page_right_g4 (K : Value → World → Prop) (ds : List Deferred) (x1 : Value) (x21 : Value) (x25 : Value) (w : World) : Prop :=
  pickV x21 x25 (.bool false) (fun t26_2 w =>
  gcond t26_2 true (
  run Pg (Instr.fieldAt 64 x1 5) (fun t28_3 w =>
  run Pg (Instr.loadAt 62 t28_3) (fun t29_4 w =>
  call Pg F.slices_ContainsFunc_page_Entry_page_Entry [t29_4, (.func (.func 73) #[] #[])] (fun t30_5 w =>
  run Pg (Op.unary .not t30_5) (fun t31_6 w =>
  page_Page_right_g5 K ds t26_2 t31_6 w) w) w) w) w) (
  page_Page_right_g5 K ds t26_2 undef w)) w

theorem page_Page_right_g4_eq (K : Value → World → Prop) : opsG (op1W Pg) (rOps (cL (cR page_Page_right_body))).toList ((groups (rOps (cL (cR page_Page_right_body))).toList).drop 8) 23 (W Pg (cR (cR page_Page_right_body)) false (retQ Pg [.tmp 2] K)) = (fun s w => page_Page_right_g4 K s.ds (s.f 1) (s.f 21) (s.f 25) w) :=
  Eq.trans (eqPlain (eqGrd (page_Page_right_g5_eq K))) (by kernel_rfl)

def page_Page_right_g3 (K : Value → World → Prop) (ds : List Deferred) (x1 : Value) (x16 : Value) (x19 : Value) (w : World) : Prop :=
  pickV x16 x19 (.bool false) (fun t20_7 w =>
  gcond t20_7 true (
  run Pg (Instr.fieldAt 64 x1 4) (fun t22_8 w =>
  run Pg (Instr.loadAt 9 t22_8) (fun t23_9 w =>
  run Pg (Builtin.len_ #[9] 3 #[t23_9]) (fun t24_10 w =>
  run Pg (binS .leq 3 true t24_10 (.int .i64 64)) (fun t25_11 w =>
  page_Page_right_g4 K ds x1 t20_7 t25_11 w) w) w) w) w) (
  page_Page_right_g4 K ds x1 t20_7 undef w)) w

theorem page_Page_right_g3_eq (K : Value → World → Prop) : opsG (op1W Pg) (rOps (cL (cR page_Page_right_body))).toList ((groups (rOps (cL (cR page_Page_right_body))).toList).drop 6) 17 (W Pg (cR (cR page_Page_right_body)) false (retQ Pg [.tmp 2] K)) = (fun s w => page_Page_right_g3 K s.ds (s.f 1) (s.f 16) (s.f 19) w) :=
  Eq.trans (eqPlain (eqGrd (page_Page_right_g4_eq K))) (by kernel_rfl)

def page_Page_right_g2 (K : Value → World → Prop) (ds : List Deferred) (x1 : Value) (x11 : Value) (x14 : Value) (w : World) : Prop :=
  pickV x11 x14 (.bool false) (fun t15_12 w =>
  gcond t15_12 true (
  run Pg (Instr.fieldAt 64 x1 3) (fun t17_13 w =>
  run Pg (Instr.loadAt 3 t17_13) (fun t18_14 w =>
  call Pg F.page_within [t18_14, (.int .i64 0), (.int .i64 65535)] (fun t19_15 w =>
  page_Page_right_g3 K ds x1 t15_12 t19_15 w) w) w) w) (
  page_Page_right_g3 K ds x1 t15_12 undef w)) w

theorem page_Page_right_g2_eq (K : Value → World → Prop) : opsG (op1W Pg) (rOps (cL (cR page_Page_right_body))).toList ((groups (rOps (cL (cR page_Page_right_body))).toList).drop 4) 12 (W Pg (cR (cR page_Page_right_body)) false (retQ Pg [.tmp 2] K)) = (fun s w => page_Page_right_g2 K s.ds (s.f 1) (s.f 11) (s.f 14) w) :=
  Eq.trans (eqPlain (eqGrd (page_Page_right_g3_eq K))) (by kernel_rfl)

def page_Page_right_g1 (K : Value → World → Prop) (ds : List Deferred) (x1 : Value) (x6 : Value) (x9 : Value) (w : World) : Prop :=
  pickV x6 x9 (.bool false) (fun t10_16 w =>
  gcond t10_16 true (
  run Pg (Instr.fieldAt 64 x1 2) (fun t12_17 w =>
  run Pg (Instr.loadAt 3 t12_17) (fun t13_18 w =>
  call Pg F.page_within [t13_18, (.int .i64 0), (.int .i64 255)] (fun t14_19 w =>
  page_Page_right_g2 K ds x1 t10_16 t14_19 w) w) w) w) (
  page_Page_right_g2 K ds x1 t10_16 undef w)) w

theorem page_Page_right_g1_eq (K : Value → World → Prop) : opsG (op1W Pg) (rOps (cL (cR page_Page_right_body))).toList ((groups (rOps (cL (cR page_Page_right_body))).toList).drop 2) 7 (W Pg (cR (cR page_Page_right_body)) false (retQ Pg [.tmp 2] K)) = (fun s w => page_Page_right_g1 K s.ds (s.f 1) (s.f 6) (s.f 9) w) :=
  Eq.trans (eqPlain (eqGrd (page_Page_right_g2_eq K))) (by kernel_rfl)

def page_Page_right (K : Value → World → Prop) (ds : List Deferred) (x0 : Value) (w : World) : Prop :=
  run Pg (Instr.box 64 x0) (fun p_20 w =>
  run Pg (Instr.fieldAt 64 p_20 0) (fun t3_21 w =>
  run Pg (Instr.loadAt 3 t3_21) (fun t4_22 w =>
  call Pg F.page_within [t4_22, (.int .i64 0), (.int .i64 281474976710655)] (fun t5_23 w =>
  gcond t5_23 true (
  run Pg (Instr.fieldAt 64 p_20 1) (fun t7_24 w =>
  run Pg (Instr.loadAt 3 t7_24) (fun t8_25 w =>
  call Pg F.page_within [t8_25, (.int .i64 1), (.int .i64 255)] (fun t9_26 w =>
  page_Page_right_g1 K ds p_20 t5_23 t9_26 w) w) w) w) (
  page_Page_right_g1 K ds p_20 t5_23 undef w)) w) w) w) w

theorem page_Page_right_eq (K : Value → World → Prop) : W Pg page_Page_right_body false (retQ Pg [.tmp 2] K) = (fun s w => page_Page_right K s.ds (s.f 0) w) :=
  Eq.trans (eqSeq (eqSeqL (eqReg (rd := false) (id := 1) (ops := rOps (cL (cR page_Page_right_body))) (by kernel_rfl) (eqPlain (eqGrd (page_Page_right_g1_eq K)))))) (by kernel_rfl)

theorem page_Page_right_ok : FnOk Pg F.page_Page_right Go.Proofs.Tryz.f46 page_Page_right_body 1 := ⟨Go.Proofs.Tryz.func46, by kernel_rfl, by kernel_rfl, by kernel_rfl, by kernel_rfl, by kernel_rfl⟩

theorem page_Page_right_callS {K : Value → World → Prop} {x0 : Value} {w : World} (h : page_Page_right K [] x0 w) : callS Pg F.page_Page_right [x0] K w :=
  call_of_W page_Page_right_ok (Eq.mpr (congrFun (congrFun (page_Page_right_eq K) ⟨argFr [x0], []⟩) w) h)

theorem page_Page_right_call {K : Value → World → Prop} {x0 : Value} {w : World} (h : page_Page_right K [] x0 w) : call Pg F.page_Page_right [x0] K w := .inl (page_Page_right_callS h)

/-- concordance/page.Build -/
noncomputable def page_Build_body : Code := (Go.Proofs.Tryz.f51.body).getD .skip

def page_Build_g1 (K : Value → World → Prop) (ds : List Deferred) (x0 : Value) (x1 : Value) (x9 : Value) (x12 : Value) (w : World) : Prop :=
  pickV x9 (.bool true) x12 (fun t13_1 w =>
  cnd t13_1 (
  leaveW Pg ds (fun w => K (.string ⟨#[]⟩) w) w) (
  call Pg F.sum_Put [x0, (.int .i64 6)] (fun t15_2 w =>
  run Pg (binS .add 9 false t15_2 x1) (fun t18_3 w =>
  run Pg (binS .add 9 false t18_3 t15_2) (fun t20_4 w =>
  call Pg F.sum_Seal [t20_4] (fun t21_5 w =>
  leaveW Pg ds (fun w => K t21_5 w) w) w) w) w) w)) w

theorem page_Build_g1_eq (K : Value → World → Prop) : opsG (op1W Pg) (rOps (cL (cL (cR page_Build_body)))).toList ((groups (rOps (cL (cL (cR page_Build_body)))).toList).drop 2) 7 (W Pg (cR (cL (cR page_Build_body))) false (thenP (W Pg (cR (cR page_Build_body)) false (retQ Pg [.tmp 4] K)) (retQ Pg [.tmp 4] K))) = (fun s w => page_Build_g1 K s.ds (s.f 0) (s.f 1) (s.f 9) (s.f 12) w) :=
  by kernel_rfl

def page_Build (K : Value → World → Prop) (ds : List Deferred) (x0 : Value) (x1 : Value) (w : World) : Prop :=
  call Pg F.page_within [x0, (.int .i64 0), (.int .i64 281474976710655)] (fun t7_6 w =>
  run Pg (Op.unary .not t7_6) (fun t8_7 w =>
  gcond t8_7 false (
  run Pg (Builtin.len_ #[9] 3 #[x1]) (fun t11_8 w =>
  run Pg (binS .neq 3 true t11_8 (.int .i64 496)) (fun t12_9 w =>
  page_Build_g1 K ds x0 x1 t8_7 t12_9 w) w) w) (
  page_Build_g1 K ds x0 x1 t8_7 undef w)) w) w

theorem page_Build_eq (K : Value → World → Prop) : W Pg page_Build_body false (retQ Pg [.tmp 4] K) = (fun s w => page_Build K s.ds (s.f 0) (s.f 1) w) :=
  Eq.trans (eqSeq (eqSeqL (eqSeqL (eqReg (rd := false) (id := 1) (ops := rOps (cL (cL (cR page_Build_body)))) (by kernel_rfl) (eqPlain (eqGrd (page_Build_g1_eq K))))))) (by kernel_rfl)

theorem page_Build_ok : FnOk Pg F.page_Build Go.Proofs.Tryz.f51 page_Build_body 2 := ⟨Go.Proofs.Tryz.func51, by kernel_rfl, by kernel_rfl, by kernel_rfl, by kernel_rfl, by kernel_rfl⟩

theorem page_Build_callS {K : Value → World → Prop} {x0 : Value} {x1 : Value} {w : World} (h : page_Build K [] x0 x1 w) : callS Pg F.page_Build [x0, x1] K w :=
  call_of_W page_Build_ok (Eq.mpr (congrFun (congrFun (page_Build_eq K) ⟨argFr [x0, x1], []⟩) w) h)

theorem page_Build_call {K : Value → World → Prop} {x0 : Value} {x1 : Value} {w : World} (h : page_Build K [] x0 x1 w) : call Pg F.page_Build [x0, x1] K w := .inl (page_Build_callS h)

/-- concordance/page.Encode -/
noncomputable def page_Encode_body : Code := (Go.Proofs.Tryz.f24.body).getD .skip

def page_Encode_j1 (K : Value → World → Prop) (ds : List Deferred) (x1 : Value) (x4 : Value) (w : World) : Prop :=
  call Pg F.strings_Builder_Len [x4] (fun t70_1 w =>
  run Pg (binS .sub 3 true (.int .i64 496) t70_1) (fun t71_2 w =>
  call Pg F.strings_Repeat [(.string ⟨#[0]⟩), t71_2] (fun t72_3 w =>
  call Pg F.strings_Builder_WriteString [x4, t72_3] (fun t73_4 w =>
  ∃ S : World → Prop, S w.drew ∧ (rn Pg (fun _ => True) (Instr.fieldAt 64 x1 0) (fun t74_5 w =>
  rn Pg S (Instr.loadAt 3 t74_5) (fun t75_6 w =>
  call Pg F.strings_Builder_String [x4] (fun t76_7 w =>
  S w ∧ call Pg F.page_Build [t75_6, t76_7] (fun t77_8 w =>
  leaveW Pg ds (fun w => K (.tuple #[t77_8, (.int .i64 0)]) w) w) w) w) w) w.drew)) w) w) w) w

theorem page_Encode_j1_eq (K : Value → World → Prop) : W Pg (cR (cR (cR (cR (cR page_Encode_body))))) false (retQ Pg [.tmp 2, .tmp 3] K) = (fun s w => page_Encode_j1 K s.ds (s.f 1) (s.f 4) w) :=
  by kernel_rfl

def page_Encode_j3 (K : Value → World → Prop) (X1 : List Deferred × Value × Value × Value × Value × Value → World → Prop) (ds : List Deferred) (x1 : Value) (x4 : Value) (x6 : Value) (x7 : Value) (x42 : Value) (x43 : Value) (x44 : Value) (w : World) : Prop :=
  ∃ S : World → Prop, S w.drew ∧ (call Pg F.sum_Put [x7, (.int .i64 1)] (fun t51_9 w =>
  S w ∧ rn Pg (fun _ => True) (Instr.fieldAt 61 x6 0) (fun t52_10 w =>
  rn Pg S (Instr.loadAt 9 t52_10) (fun t53_11 w =>
  rn Pg (fun _ => True) (Builtin.len_ #[9] 3 #[t53_11]) (fun t54_12 w =>
  call Pg F.sum_Put [t54_12, (.int .i64 1)] (fun t55_13 w =>
  S w ∧ rn Pg (fun _ => True) (binS .add 9 false t51_9 t55_13) (fun t56_14 w =>
  rn Pg (fun _ => True) (Instr.fieldAt 61 x6 1) (fun t57_15 w =>
  rn Pg S (Instr.loadAt 9 t57_15) (fun t58_16 w =>
  rn Pg (fun _ => True) (Builtin.len_ #[9] 3 #[t58_16]) (fun t59_17 w =>
  call Pg F.sum_Put [t59_17, (.int .i64 1)] (fun t60_18 w =>
  S w ∧ rn Pg (fun _ => True) (binS .add 9 false t56_14 t60_18) (fun t61_19 w =>
  rn Pg (fun _ => True) (Instr.fieldAt 61 x6 0) (fun t62_20 w =>
  rn Pg S (Instr.loadAt 9 t62_20) (fun t63_21 w =>
  rn Pg (fun _ => True) (binS .add 9 false t61_19 t63_21) (fun t64_22 w =>
  rn Pg (fun _ => True) (Instr.fieldAt 61 x6 1) (fun t65_23 w =>
  rn Pg S (Instr.loadAt 9 t65_23) (fun t66_24 w =>
  rn Pg (fun _ => True) (binS .add 9 false t64_22 t66_24) (fun t67_25 w =>
  call Pg F.strings_Builder_WriteString [x4, t67_25] (fun t68_26 w =>
  run Pg (binS .add 3 true x44 (.int .i64 1)) (fun t69_27 w =>
  X1 (ds, x1, x4, x42, x43, t69_27) w) w) w) w) w) w) w) w) w) w) w) w) w) w) w) w) w) w) w) w.drew)

theorem page_Encode_j3_eq (K : Value → World → Prop) (X1 : List Deferred × Value × Value × Value × Value × Value → World → Prop) : W Pg (cR (cR (cR (cB (cL (cR (cR (cB (cB (cR (cL (cR (cR (cR (cR page_Encode_body))))))))))))))) false (blockP 2 (thenP (W Pg (cR (cR (cR (cB (cB (cR (cL (cR (cR (cR (cR page_Encode_body))))))))))) false (thenP (fun s w => X1 (s.ds, s.f 1, s.f 4, s.f 42, s.f 43, s.f 44) w) (blockP 1 (thenP (fun s w => page_Encode_j1 K s.ds (s.f 1) (s.f 4) w) (retQ Pg [.tmp 2, .tmp 3] K))))) (thenP (fun s w => X1 (s.ds, s.f 1, s.f 4, s.f 42, s.f 43, s.f 44) w) (blockP 1 (thenP (fun s w => page_Encode_j1 K s.ds (s.f 1) (s.f 4) w) (retQ Pg [.tmp 2, .tmp 3] K)))))) = (fun s w => page_Encode_j3 K X1 s.ds (s.f 1) (s.f 4) (s.f 6) (s.f 7) (s.f 42) (s.f 43) (s.f 44) w) :=
  by kernel_rfl

def page_Encode_l2 (K : Value → World → Prop) (X1 : List Deferred × Value × Value × Value × Value × Value → World → Prop) (st : List Deferred × Value × Value × Value × Value × Value) (w : World) : Prop :=
  run Pg (binS .lss 3 false st.2.2.2.2.2 st.2.2.2.2.1) (fun t45_28 w =>
  cnd t45_28 (
  run Pg (Instr.indexAt 62 st.2.2.2.1 st.2.2.2.2.2) (fun t46_29 w =>
  run Pg (Instr.loadAt 61 t46_29) (fun t47_30 w =>
  run Pg (Instr.alloc 61 true (.tuple #[])) (fun e_31 w =>
  runU Pg (Instr.storeAt 61 e_31 t47_30) (fun w =>
  run Pg (Instr.fieldAt 61 e_31 2) (fun t48_32 w =>
  run Pg (Instr.loadAt 4 t48_32) (fun t49_33 w =>
  cnd t49_33 (
  page_Encode_j3 K X1 st.1 st.2.1 st.2.2.1 e_31 (.int .i64 1) st.2.2.2.1 st.2.2.2.2.1 st.2.2.2.2.2 w) (
  page_Encode_j3 K X1 st.1 st.2.1 st.2.2.1 e_31 (.int .i64 0) st.2.2.2.1 st.2.2.2.2.1 st.2.2.2.2.2 w)) w) w) w) w) w) w) (
  page_Encode_j1 K st.1 st.2.1 st.2.2.1 w)) w

theorem page_Encode_l2_eq (K : Value → World → Prop) (X1 : List Deferred × Value × Value × Value × Value × Value → World → Prop) : W Pg (cB (cB (cR (cL (cR (cR (cR (cR page_Encode_body)))))))) false (thenP (fun s w => X1 (s.ds, s.f 1, s.f 4, s.f 42, s.f 43, s.f 44) w) (blockP 1 (thenP (fun s w => page_Encode_j1 K s.ds (s.f 1) (s.f 4) w) (retQ Pg [.tmp 2, .tmp 3] K)))) = (fun s w => page_Encode_l2 K X1 (s.ds, s.f 1, s.f 4, s.f 42, s.f 43, s.f 44) w) :=
  Eq.trans (eqSeq (eqSeq (eqSeqL (eqBlock (eqSeq (eqSeq (eqSeq (page_Encode_j3_eq K X1)))))))) (by kernel_rfl)

theorem page_Encode_l2_mono (K : Value → World → Prop) : ∀ X Y : List Deferred × Value × Value × Value × Value × Value → World → Prop, (∀ t w, X t w → Y t w) → ∀ t w, page_Encode_l2 K X t w → page_Encode_l2 K Y t w :=
  loop_mono (fun s : St => ((s.ds, s.f 1, s.f 4, s.f 42, s.f 43, s.f 44) : List Deferred × Value × Value × Value × Value × Value)) (fun X1 => page_Encode_l2_eq K X1) (fun t => ⟨fun i => (bif Nat.beq i 1 then t.2.1 else (bif Nat.beq i 4 then t.2.2.1 else (bif Nat.beq i 42 then t.2.2.2.1 else (bif Nat.beq i 43 then t.2.2.2.2.1 else (bif Nat.beq i 44 then t.2.2.2.2.2 else undef))))), t.1⟩) (fun _ => rfl)

def page_Encode (K : Value → World → Prop) (ds : List Deferred) (x0 : Value) (w : World) : Prop :=
  run Pg (Instr.box 64 x0) (fun p_34 w =>
  run Pg (Instr.loadAt 64 p_34) (fun t9_35 w =>
  call Pg F.page_Page_right [t9_35] (fun t10_36 w =>
  run Pg (Op.unary .not t10_36) (fun t11_37 w =>
  cnd t11_37 (
  leaveW Pg ds (fun w => K (.tuple #[(.string ⟨#[]⟩), (.int .i64 1)]) w) w) (
  run Pg (Instr.loadAt 64 p_34) (fun t13_38 w =>
  call Pg F.page_Free [t13_38] (fun t14_39 w =>
  run Pg (binS .lss 3 true t14_39 (.int .i64 0)) (fun t15_40 w =>
  cnd t15_40 (
  leaveW Pg ds (fun w => K (.tuple #[(.string ⟨#[]⟩), (.int .i64 8)]) w) w) (
  run Pg (Instr.alloc 105 true (.tuple #[])) (fun b_41 w =>
  ∃ S : World → Prop, S w.drew ∧ (rn Pg (fun _ => True) (Instr.fieldAt 64 p_34 1) (fun t16_42 w =>
  rn Pg (fun w' => w' = w) (Instr.loadAt 3 t16_42) (fun t17_43 w =>
  call Pg F.sum_Put [t17_43, (.int .i64 1)] (fun t18_44 w =>
  S w ∧ rn Pg (fun _ => True) (Instr.fieldAt 64 p_34 2) (fun t19_45 w =>
  rn Pg S (Instr.loadAt 3 t19_45) (fun t20_46 w =>
  call Pg F.sum_Put [t20_46, (.int .i64 1)] (fun t21_47 w =>
  S w ∧ rn Pg (fun _ => True) (binS .add 9 false t18_44 t21_47) (fun t22_48 w =>
  rn Pg (fun _ => True) (Instr.fieldAt 64 p_34 3) (fun t23_49 w =>
  rn Pg S (Instr.loadAt 3 t23_49) (fun t24_50 w =>
  call Pg F.sum_Put [t24_50, (.int .i64 2)] (fun t25_51 w =>
  S w ∧ rn Pg (fun _ => True) (binS .add 9 false t22_48 t25_51) (fun t26_52 w =>
  rn Pg (fun _ => True) (Instr.fieldAt 64 p_34 4) (fun t27_53 w =>
  rn Pg S (Instr.loadAt 9 t27_53) (fun t28_54 w =>
  rn Pg (fun _ => True) (Builtin.len_ #[9] 3 #[t28_54]) (fun t29_55 w =>
  call Pg F.sum_Put [t29_55, (.int .i64 1)] (fun t30_56 w =>
  S w ∧ rn Pg (fun _ => True) (binS .add 9 false t26_52 t30_56) (fun t31_57 w =>
  rn Pg (fun _ => True) (Instr.fieldAt 64 p_34 5) (fun t32_58 w =>
  rn Pg S (Instr.loadAt 62 t32_58) (fun t33_59 w =>
  rn Pg (fun _ => True) (Builtin.len_ #[62] 3 #[t33_59]) (fun t34_60 w =>
  call Pg F.sum_Put [t34_60, (.int .i64 2)] (fun t35_61 w =>
  S w ∧ rn Pg (fun _ => True) (binS .add 9 false t31_57 t35_61) (fun t36_62 w =>
  rn Pg (fun _ => True) (Instr.fieldAt 64 p_34 4) (fun t37_63 w =>
  rn Pg S (Instr.loadAt 9 t37_63) (fun t38_64 w =>
  rn Pg (fun _ => True) (binS .add 9 false t36_62 t38_64) (fun t39_65 w =>
  call Pg F.strings_Builder_WriteString [b_41, t39_65] (fun t40_66 w =>
  run Pg (Instr.fieldAt 64 p_34 5) (fun t41_67 w =>
  run Pg (Instr.loadAt 62 t41_67) (fun t42_68 w =>
  run Pg (Builtin.len_ #[62] 3 #[t42_68]) (fun t43_69 w =>
  Lp (page_Encode_l2 K) (ds, p_34, b_41, t42_68, t43_69, (.int .i64 0)) w) w) w) w) w) w) w) w) w) w) w) w) w) w) w) w) w) w) w) w) w) w) w) w) w) w) w) w) w.drew)) w)) w) w) w)) w) w) w) w

theorem page_Encode_eq (K : Value → World → Prop) : W Pg page_Encode_body false (retQ Pg [.tmp 2, .tmp 3] K) = (fun s w => page_Encode K s.ds (s.f 0) w) :=
  Eq.trans (eqSeq (eqSeq (eqSeq (eqSeq ((eqSeq (page_Encode_j1_eq K)).trans (eqSeq (eqBlock (eqLoop (rd := false) (fun s : St => ((s.ds, s.f 1, s.f 4, s.f 42, s.f 43, s.f 44) : List Deferred × Value × Value × Value × Value × Value)) (fun X1 => page_Encode_l2_eq K X1))))))))) (by kernel_rfl)

theorem page_Encode_ok : FnOk Pg F.page_Encode Go.Proofs.Tryz.f24 page_Encode_body 1 := ⟨Go.Proofs.Tryz.func24, by kernel_rfl, by kernel_rfl, by kernel_rfl, by kernel_rfl, by kernel_rfl⟩

theorem page_Encode_callS {K : Value → World → Prop} {x0 : Value} {w : World} (h : page_Encode K [] x0 w) : callS Pg F.page_Encode [x0] K w :=
  call_of_W page_Encode_ok (Eq.mpr (congrFun (congrFun (page_Encode_eq K) ⟨argFr [x0], []⟩) w) h)

theorem page_Encode_call {K : Value → World → Prop} {x0 : Value} {w : World} (h : page_Encode K [] x0 w) : call Pg F.page_Encode [x0] K w := .inl (page_Encode_callS h)

end Go.Sx
end
