/- Part 3 of the proof: SxTy, TryzShelf, SxDev, SxSum, SxR, SxAr, SxPage, SxTwin. -/
import Derived.Shelf.Strings.Builder1
import Derived.Shelf.Strings.Builder2
import Derived.Shelf.Strings.Trim
import Derived.Shelf.Small.Utf8
import Derived.Shelf.Small.Strs
import Derived.Shelf.Small.Wraps
import Derived.Shelf.Strings.BuilderF
import Derived.Shelf.Strings.BuilderK
import Derived.Shelf.Strings.Builder2Cap
import Derived.Shelf.Strings.Search1
import Derived.Shelf.Strings.Prefix
import Derived.Shelf.Unicode.Decode
import Derived.Shelf.Strings.Runes
import Derived.Shelf.Strings.AsciiSet
import Derived.Shelf.Bits.Mul64
import Derived.Shelf.Strings.Repeat
import Derived.Shelf.Unicode.DecodeSlow
import Derived.Shelf.Unicode.DecodeAny
import Derived.Shelf.Unicode.DecodeLast
import Derived.Shelf.Strings.BuilderCap
import Derived.Shelf.Slices.Turned
import Derived.Ground.Names2Prog
import Derived.Shelf.Slices.Clone
import Derived.Shelf.Slices.SearchI
import Derived.Shelf.Slices.Delete
import Derived.Shelf.Slices.Cells
import Derived.Shelf.Slices.Empties
import Derived.Ground.SlgnProg
import Derived.Shelf.SlicesE.Clone
import Derived.Test.YtbpcalmbefkpgaaGreatDoorProg
import Derived.Laws.Runes
import Derived.Great.BuildSlice
import Derived.Carry
import Derived.Test.YtbpcalmbefkpgaaGreatDoorKeepsA
import Derived.Test.YtbpcalmbefkpgaaGreatDoorKeepsB
set_option linter.unusedVariables false
set_option linter.unusedSimpArgs false

section
/- Facts on the types of the program. Printed by types.py. -/
namespace Go.Sx
open Go

namespace T
abbrev fn_1 : Nat := 1
abbrev i64 : Nat := 2
abbrev i64_2 : Nat := 3
abbrev bool : Nat := 4
abbrev u8 : Nat := 5
abbrev internal_abi_BoundsErrorCode : Nat := 6
abbrev st_7 : Nat := 7
abbrev runtime_boundsError : Nat := 8
abbrev string : Nat := 9
abbrev runtime_errorString : Nat := 10
abbrev runtime_plainError : Nat := 11
abbrev u64 : Nat := 12
abbrev st_13 : Nat := 13
abbrev runtime_errorAddressString : Nat := 14
abbrev p_runtime_TypeAssertionError : Nat := 15
abbrev p_runtime_PanicNilError : Nat := 16
abbrev p_internal_abi_Type : Nat := 17
abbrev st_18 : Nat := 18
abbrev internal_runtime_maps_unhashableTypeError : Nat := 19
abbrev i32 : Nat := 21
abbrev s_i64 : Nat := 22
abbrev fn_23 : Nat := 23
abbrev p_device_Device : Nat := 24
abbrev api_Errno : Nat := 25
abbrev fn_27 : Nat := 27
abbrev p_twin_Area : Nat := 28
abbrev fn_30 : Nat := 30
abbrev p_pool_Pool : Nat := 31
abbrev fn_33 : Nat := 33
abbrev fn_34 : Nat := 34
abbrev fn_36 : Nat := 36
abbrev fn_38 : Nat := 38
abbrev fn_39 : Nat := 39
abbrev fn_40 : Nat := 40
abbrev fn_41 : Nat := 41
abbrev s_u8 : Nat := 42
abbrev fn_43 : Nat := 43
abbrev fn_44 : Nat := 44
abbrev s_concordancelaw10_Act : Nat := 45
abbrev p_concordanceref10_Pool : Nat := 46
abbrev s_string : Nat := 47
abbrev st_48 : Nat := 48
abbrev concordanceref09_Pages : Nat := 49
abbrev fn_50 : Nat := 50
abbrev s_concordanceref10_Frame : Nat := 51
abbrev st_52 : Nat := 52
abbrev concordanceref10_Pool : Nat := 53
abbrev st_54 : Nat := 54
abbrev concordancelaw10_Act : Nat := 55
abbrev fn_56 : Nat := 56
abbrev st_57 : Nat := 57
abbrev concordanceref10_Frame : Nat := 58
abbrev fn_59 : Nat := 59
abbrev st_60 : Nat := 60
abbrev page_Entry : Nat := 61
abbrev s_page_Entry : Nat := 62
abbrev st_63 : Nat := 63
abbrev page_Page : Nat := 64
abbrev fn_65 : Nat := 65
abbrev fn_66 : Nat := 66
abbrev fn_68 : Nat := 68
abbrev fn_69 : Nat := 69
abbrev fn_70 : Nat := 70
abbrev m_i64_string : Nat := 71
abbrev s_device_write : Nat := 72
abbrev st_73 : Nat := 73
abbrev device_Device : Nat := 74
abbrev fn_75 : Nat := 75
abbrev st_76 : Nat := 76
abbrev twin_Area : Nat := 77
abbrev s_order_pair_int_pool_frame : Nat := 78
abbrev st_79 : Nat := 79
abbrev order_Map_int_pool_frame : Nat := 80
abbrev st_81 : Nat := 81
abbrev order_Recent_int : Nat := 82
abbrev st_83 : Nat := 83
abbrev pool_Pool : Nat := 84
abbrev p_pool_frame : Nat := 85
abbrev fn_87 : Nat := 87
abbrev fn_88 : Nat := 88
abbrev st_89 : Nat := 89
abbrev pool_frame : Nat := 90
abbrev fn_91 : Nat := 91
abbrev fn_92 : Nat := 92
abbrev fn_94 : Nat := 94
abbrev fn_95 : Nat := 95
abbrev fn_96 : Nat := 96
abbrev fn_97 : Nat := 97
abbrev fn_98 : Nat := 98
abbrev st_99 : Nat := 99
abbrev device_write : Nat := 100
abbrev fn_101 : Nat := 101
abbrev fn_102 : Nat := 102
abbrev p_strings_Builder : Nat := 103
abbrev st_104 : Nat := 104
abbrev strings_Builder : Nat := 105
abbrev fn_109 : Nat := 109
abbrev fn_110 : Nat := 110
abbrev fn_111 : Nat := 111
abbrev fn_112 : Nat := 112
abbrev fn_113 : Nat := 113
abbrev p_order_Map_int_pool_frame : Nat := 114
abbrev fn_116 : Nat := 116
abbrev st_117 : Nat := 117
abbrev order_pair_int_pool_frame : Nat := 118
abbrev fn_119 : Nat := 119
abbrev fn_120 : Nat := 120
abbrev fn_121 : Nat := 121
abbrev fn_122 : Nat := 122
abbrev p_order_Recent_int : Nat := 123
abbrev fn_124 : Nat := 124
abbrev fn_125 : Nat := 125
abbrev u64_2 : Nat := 126
abbrev fn_128 : Nat := 128
abbrev fn_129 : Nat := 129
abbrev s_twin_Image : Nat := 130
abbrev st_131 : Nat := 131
abbrev twin_Image : Nat := 132
abbrev fn_133 : Nat := 133
abbrev fn_134 : Nat := 134
abbrev fn_135 : Nat := 135
abbrev fn_136 : Nat := 136
abbrev fn_137 : Nat := 137
abbrev fn_138 : Nat := 138
abbrev p_u8 : Nat := 139
abbrev fn_140 : Nat := 140
abbrev fn_141 : Nat := 141
abbrev fn_142 : Nat := 142
abbrev fn_143 : Nat := 143
abbrev fn_144 : Nat := 144
abbrev fn_145 : Nat := 145
abbrev fn_146 : Nat := 146
abbrev fn_147 : Nat := 147
abbrev fn_148 : Nat := 148
abbrev fn_149 : Nat := 149
abbrev fn_150 : Nat := 150
abbrev fn_151 : Nat := 151
abbrev u32 : Nat := 152
abbrev fn_154 : Nat := 154
abbrev u64_3 : Nat := 155
abbrev fn_157 : Nat := 157
abbrev fn_158 : Nat := 158
abbrev fn_160 : Nat := 160
abbrev fn_161 : Nat := 161
abbrev iter_Seq2_int_device_write : Nat := 162
abbrev fn_163 : Nat := 163
abbrev fn_165 : Nat := 165
abbrev fn_166 : Nat := 166
abbrev a256_bool : Nat := 167
abbrev strings_asciiSet : Nat := 168
abbrev fn_170 : Nat := 170
abbrev fn_171 : Nat := 171
abbrev p_strings_asciiSet : Nat := 172
abbrev fn_173 : Nat := 173
abbrev fn_174 : Nat := 174
abbrev fn_175 : Nat := 175
abbrev a16_u32 : Nat := 176
abbrev fn_177 : Nat := 177
abbrev fn_179 : Nat := 179
abbrev fn_180 : Nat := 180
abbrev fn_181 : Nat := 181
abbrev fn_182 : Nat := 182
abbrev a256_u8 : Nat := 183
abbrev st_184 : Nat := 184
abbrev unicode_utf8_acceptRange : Nat := 185
abbrev a16_unicode_utf8_acceptRange : Nat := 186
abbrev fn_187 : Nat := 187
abbrev fn_188 : Nat := 188
abbrev fn_189 : Nat := 189
abbrev fn_190 : Nat := 190
abbrev st_191 : Nat := 191
abbrev runtime_TypeAssertionError : Nat := 192
abbrev st_194 : Nat := 194
abbrev runtime_PanicNilError : Nat := 195
abbrev internal_abi_TFlag : Nat := 196
abbrev internal_abi_Kind : Nat := 197
abbrev fn_198 : Nat := 198
abbrev internal_abi_NameOff : Nat := 199
abbrev internal_abi_TypeOff : Nat := 200
abbrev st_201 : Nat := 201
abbrev internal_abi_Type : Nat := 202
end T

theorem pl_fn_1 : Plain Pg T.fn_1 := ⟨fun _ => by kernel_rfl, fun _ => by kernel_rfl⟩
instance : PlainC Pg 1 := ⟨pl_fn_1⟩
instance : FuncC Pg 1 := ⟨by kernel_rfl⟩
theorem z_fn_1 (w : World) : (zeroValue T.fn_1).run Pg w = .ok .nilFunc w := by kernel_rfl
instance : ZeroC Pg 1 .nilFunc := ⟨z_fn_1⟩
theorem pl_i64 : Plain Pg T.i64 := ⟨fun _ => by kernel_rfl, fun _ => by kernel_rfl⟩
instance : PlainC Pg 2 := ⟨pl_i64⟩
theorem u_i64 : Pg.underlying T.i64 = some (.int .i64) := by kernel_rfl
instance : IntC Pg 2 .i64 := ⟨u_i64⟩
theorem z_i64 (w : World) : (zeroValue T.i64).run Pg w = .ok (.int .i64 0) w := by kernel_rfl
instance : ZeroC Pg 2 (.int .i64 0) := ⟨z_i64⟩
theorem pl_i64_2 : Plain Pg T.i64_2 := ⟨fun _ => by kernel_rfl, fun _ => by kernel_rfl⟩
instance : PlainC Pg 3 := ⟨pl_i64_2⟩
theorem u_i64_2 : Pg.underlying T.i64_2 = some (.int .i64) := by kernel_rfl
instance : IntC Pg 3 .i64 := ⟨u_i64_2⟩
theorem z_i64_2 (w : World) : (zeroValue T.i64_2).run Pg w = .ok (.int .i64 0) w := by kernel_rfl
instance : ZeroC Pg 3 (.int .i64 0) := ⟨z_i64_2⟩
theorem pl_bool : Plain Pg T.bool := ⟨fun _ => by kernel_rfl, fun _ => by kernel_rfl⟩
instance : PlainC Pg 4 := ⟨pl_bool⟩
instance : BoolC Pg 4 := ⟨by kernel_rfl⟩
theorem z_bool (w : World) : (zeroValue T.bool).run Pg w = .ok (.bool false) w := by kernel_rfl
instance : ZeroC Pg 4 (.bool false) := ⟨z_bool⟩
theorem pl_u8 : Plain Pg T.u8 := ⟨fun _ => by kernel_rfl, fun _ => by kernel_rfl⟩
instance : PlainC Pg 5 := ⟨pl_u8⟩
theorem u_u8 : Pg.underlying T.u8 = some (.int .u8) := by kernel_rfl
instance : IntC Pg 5 .u8 := ⟨u_u8⟩
theorem z_u8 (w : World) : (zeroValue T.u8).run Pg w = .ok (.int .u8 0) w := by kernel_rfl
instance : ZeroC Pg 5 (.int .u8 0) := ⟨z_u8⟩
theorem pl_internal_abi_BoundsErrorCode : Plain Pg T.internal_abi_BoundsErrorCode := ⟨fun _ => by kernel_rfl, fun _ => by kernel_rfl⟩
instance : PlainC Pg 6 := ⟨pl_internal_abi_BoundsErrorCode⟩
theorem u_internal_abi_BoundsErrorCode : Pg.underlying T.internal_abi_BoundsErrorCode = some (.int .u8) := by kernel_rfl
instance : IntC Pg 6 .u8 := ⟨u_internal_abi_BoundsErrorCode⟩
theorem z_internal_abi_BoundsErrorCode (w : World) : (zeroValue T.internal_abi_BoundsErrorCode).run Pg w = .ok (.int .u8 0) w := by kernel_rfl
instance : ZeroC Pg 6 (.int .u8 0) := ⟨z_internal_abi_BoundsErrorCode⟩
theorem ag_st_7 : Agg Pg T.st_7 4 := ⟨fun _ => by kernel_rfl, fun _ => by kernel_rfl⟩
instance : AggC Pg 7 4 := ⟨ag_st_7⟩
theorem z_st_7 (w : World) : (zeroValue T.st_7).run Pg w = .ok (.agg #[(.int .i64 0), (.int .i64 0), (.bool false), (.int .u8 0)]) w := by kernel_rfl
instance : ZeroC Pg 7 (.agg #[(.int .i64 0), (.int .i64 0), (.bool false), (.int .u8 0)]) := ⟨z_st_7⟩
theorem fa_st_7_x {b o : Nat} (w : World) : (Instr.fieldAt T.st_7 (.pointer (some ⟨b, o, none⟩)) 0).run Pg w = .ok (.pointer (some ⟨b, o + 0, none⟩)) w := fieldAt_of (ty := 2) (n := 1) (by kernel_rfl) (fun _ => by kernel_rfl) (by kernel_rfl) w
instance : FieldC Pg 7 0 0 := ⟨fun _ _ w => fa_st_7_x w⟩
theorem fa_st_7_y {b o : Nat} (w : World) : (Instr.fieldAt T.st_7 (.pointer (some ⟨b, o, none⟩)) 1).run Pg w = .ok (.pointer (some ⟨b, o + 1, none⟩)) w := fieldAt_of (ty := 3) (n := 1) (by kernel_rfl) (fun _ => by kernel_rfl) (by kernel_rfl) w
instance : FieldC Pg 7 1 1 := ⟨fun _ _ w => fa_st_7_y w⟩
theorem fa_st_7_signed {b o : Nat} (w : World) : (Instr.fieldAt T.st_7 (.pointer (some ⟨b, o, none⟩)) 2).run Pg w = .ok (.pointer (some ⟨b, o + 2, none⟩)) w := fieldAt_of (ty := 4) (n := 1) (by kernel_rfl) (fun _ => by kernel_rfl) (by kernel_rfl) w
instance : FieldC Pg 7 2 2 := ⟨fun _ _ w => fa_st_7_signed w⟩
theorem fa_st_7_code {b o : Nat} (w : World) : (Instr.fieldAt T.st_7 (.pointer (some ⟨b, o, none⟩)) 3).run Pg w = .ok (.pointer (some ⟨b, o + 3, none⟩)) w := fieldAt_of (ty := 6) (n := 1) (by kernel_rfl) (fun _ => by kernel_rfl) (by kernel_rfl) w
instance : FieldC Pg 7 3 3 := ⟨fun _ _ w => fa_st_7_code w⟩
theorem ag_runtime_boundsError : Agg Pg T.runtime_boundsError 4 := ⟨fun _ => by kernel_rfl, fun _ => by kernel_rfl⟩
instance : AggC Pg 8 4 := ⟨ag_runtime_boundsError⟩
theorem z_runtime_boundsError (w : World) : (zeroValue T.runtime_boundsError).run Pg w = .ok (.agg #[(.int .i64 0), (.int .i64 0), (.bool false), (.int .u8 0)]) w := by kernel_rfl
instance : ZeroC Pg 8 (.agg #[(.int .i64 0), (.int .i64 0), (.bool false), (.int .u8 0)]) := ⟨z_runtime_boundsError⟩
theorem fa_runtime_boundsError_x {b o : Nat} (w : World) : (Instr.fieldAt T.runtime_boundsError (.pointer (some ⟨b, o, none⟩)) 0).run Pg w = .ok (.pointer (some ⟨b, o + 0, none⟩)) w := fieldAt_of (ty := 2) (n := 1) (by kernel_rfl) (fun _ => by kernel_rfl) (by kernel_rfl) w
instance : FieldC Pg 8 0 0 := ⟨fun _ _ w => fa_runtime_boundsError_x w⟩
theorem fa_runtime_boundsError_y {b o : Nat} (w : World) : (Instr.fieldAt T.runtime_boundsError (.pointer (some ⟨b, o, none⟩)) 1).run Pg w = .ok (.pointer (some ⟨b, o + 1, none⟩)) w := fieldAt_of (ty := 3) (n := 1) (by kernel_rfl) (fun _ => by kernel_rfl) (by kernel_rfl) w
instance : FieldC Pg 8 1 1 := ⟨fun _ _ w => fa_runtime_boundsError_y w⟩
theorem fa_runtime_boundsError_signed {b o : Nat} (w : World) : (Instr.fieldAt T.runtime_boundsError (.pointer (some ⟨b, o, none⟩)) 2).run Pg w = .ok (.pointer (some ⟨b, o + 2, none⟩)) w := fieldAt_of (ty := 4) (n := 1) (by kernel_rfl) (fun _ => by kernel_rfl) (by kernel_rfl) w
instance : FieldC Pg 8 2 2 := ⟨fun _ _ w => fa_runtime_boundsError_signed w⟩
theorem fa_runtime_boundsError_code {b o : Nat} (w : World) : (Instr.fieldAt T.runtime_boundsError (.pointer (some ⟨b, o, none⟩)) 3).run Pg w = .ok (.pointer (some ⟨b, o + 3, none⟩)) w := fieldAt_of (ty := 6) (n := 1) (by kernel_rfl) (fun _ => by kernel_rfl) (by kernel_rfl) w
instance : FieldC Pg 8 3 3 := ⟨fun _ _ w => fa_runtime_boundsError_code w⟩
theorem pl_string : Plain Pg T.string := ⟨fun _ => by kernel_rfl, fun _ => by kernel_rfl⟩
instance : PlainC Pg 9 := ⟨pl_string⟩
theorem u_string : Pg.underlying T.string = some .string := by kernel_rfl
instance : StrC Pg 9 := ⟨u_string⟩
theorem z_string (w : World) : (zeroValue T.string).run Pg w = .ok (str []) w := by kernel_rfl
instance : ZeroC Pg 9 (str []) := ⟨z_string⟩
theorem pl_runtime_errorString : Plain Pg T.runtime_errorString := ⟨fun _ => by kernel_rfl, fun _ => by kernel_rfl⟩
instance : PlainC Pg 10 := ⟨pl_runtime_errorString⟩
theorem u_runtime_errorString : Pg.underlying T.runtime_errorString = some .string := by kernel_rfl
instance : StrC Pg 10 := ⟨u_runtime_errorString⟩
theorem z_runtime_errorString (w : World) : (zeroValue T.runtime_errorString).run Pg w = .ok (str []) w := by kernel_rfl
instance : ZeroC Pg 10 (str []) := ⟨z_runtime_errorString⟩
theorem pl_runtime_plainError : Plain Pg T.runtime_plainError := ⟨fun _ => by kernel_rfl, fun _ => by kernel_rfl⟩
instance : PlainC Pg 11 := ⟨pl_runtime_plainError⟩
theorem u_runtime_plainError : Pg.underlying T.runtime_plainError = some .string := by kernel_rfl
instance : StrC Pg 11 := ⟨u_runtime_plainError⟩
theorem z_runtime_plainError (w : World) : (zeroValue T.runtime_plainError).run Pg w = .ok (str []) w := by kernel_rfl
instance : ZeroC Pg 11 (str []) := ⟨z_runtime_plainError⟩
theorem pl_u64 : Plain Pg T.u64 := ⟨fun _ => by kernel_rfl, fun _ => by kernel_rfl⟩
instance : PlainC Pg 12 := ⟨pl_u64⟩
theorem u_u64 : Pg.underlying T.u64 = some (.int .u64) := by kernel_rfl
instance : IntC Pg 12 .u64 := ⟨u_u64⟩
theorem z_u64 (w : World) : (zeroValue T.u64).run Pg w = .ok (.int .u64 0) w := by kernel_rfl
instance : ZeroC Pg 12 (.int .u64 0) := ⟨z_u64⟩
theorem ag_st_13 : Agg Pg T.st_13 2 := ⟨fun _ => by kernel_rfl, fun _ => by kernel_rfl⟩
instance : AggC Pg 13 2 := ⟨ag_st_13⟩
theorem z_st_13 (w : World) : (zeroValue T.st_13).run Pg w = .ok (.agg #[(str []), (.int .u64 0)]) w := by kernel_rfl
instance : ZeroC Pg 13 (.agg #[(str []), (.int .u64 0)]) := ⟨z_st_13⟩
theorem fa_st_13_msg {b o : Nat} (w : World) : (Instr.fieldAt T.st_13 (.pointer (some ⟨b, o, none⟩)) 0).run Pg w = .ok (.pointer (some ⟨b, o + 0, none⟩)) w := fieldAt_of (ty := 9) (n := 1) (by kernel_rfl) (fun _ => by kernel_rfl) (by kernel_rfl) w
instance : FieldC Pg 13 0 0 := ⟨fun _ _ w => fa_st_13_msg w⟩
theorem fa_st_13_addr {b o : Nat} (w : World) : (Instr.fieldAt T.st_13 (.pointer (some ⟨b, o, none⟩)) 1).run Pg w = .ok (.pointer (some ⟨b, o + 1, none⟩)) w := fieldAt_of (ty := 12) (n := 1) (by kernel_rfl) (fun _ => by kernel_rfl) (by kernel_rfl) w
instance : FieldC Pg 13 1 1 := ⟨fun _ _ w => fa_st_13_addr w⟩
theorem ag_runtime_errorAddressString : Agg Pg T.runtime_errorAddressString 2 := ⟨fun _ => by kernel_rfl, fun _ => by kernel_rfl⟩
instance : AggC Pg 14 2 := ⟨ag_runtime_errorAddressString⟩
theorem z_runtime_errorAddressString (w : World) : (zeroValue T.runtime_errorAddressString).run Pg w = .ok (.agg #[(str []), (.int .u64 0)]) w := by kernel_rfl
instance : ZeroC Pg 14 (.agg #[(str []), (.int .u64 0)]) := ⟨z_runtime_errorAddressString⟩
theorem fa_runtime_errorAddressString_msg {b o : Nat} (w : World) : (Instr.fieldAt T.runtime_errorAddressString (.pointer (some ⟨b, o, none⟩)) 0).run Pg w = .ok (.pointer (some ⟨b, o + 0, none⟩)) w := fieldAt_of (ty := 9) (n := 1) (by kernel_rfl) (fun _ => by kernel_rfl) (by kernel_rfl) w
instance : FieldC Pg 14 0 0 := ⟨fun _ _ w => fa_runtime_errorAddressString_msg w⟩
theorem fa_runtime_errorAddressString_addr {b o : Nat} (w : World) : (Instr.fieldAt T.runtime_errorAddressString (.pointer (some ⟨b, o, none⟩)) 1).run Pg w = .ok (.pointer (some ⟨b, o + 1, none⟩)) w := fieldAt_of (ty := 12) (n := 1) (by kernel_rfl) (fun _ => by kernel_rfl) (by kernel_rfl) w
instance : FieldC Pg 14 1 1 := ⟨fun _ _ w => fa_runtime_errorAddressString_addr w⟩
theorem pl_p_runtime_TypeAssertionError : Plain Pg T.p_runtime_TypeAssertionError := ⟨fun _ => by kernel_rfl, fun _ => by kernel_rfl⟩
instance : PlainC Pg 15 := ⟨pl_p_runtime_TypeAssertionError⟩
instance : PtrC Pg 15 := ⟨by kernel_rfl⟩
theorem z_p_runtime_TypeAssertionError (w : World) : (zeroValue T.p_runtime_TypeAssertionError).run Pg w = .ok (.pointer none) w := by kernel_rfl
instance : ZeroC Pg 15 (.pointer none) := ⟨z_p_runtime_TypeAssertionError⟩
theorem pl_p_runtime_PanicNilError : Plain Pg T.p_runtime_PanicNilError := ⟨fun _ => by kernel_rfl, fun _ => by kernel_rfl⟩
instance : PlainC Pg 16 := ⟨pl_p_runtime_PanicNilError⟩
instance : PtrC Pg 16 := ⟨by kernel_rfl⟩
theorem z_p_runtime_PanicNilError (w : World) : (zeroValue T.p_runtime_PanicNilError).run Pg w = .ok (.pointer none) w := by kernel_rfl
instance : ZeroC Pg 16 (.pointer none) := ⟨z_p_runtime_PanicNilError⟩
theorem pl_p_internal_abi_Type : Plain Pg T.p_internal_abi_Type := ⟨fun _ => by kernel_rfl, fun _ => by kernel_rfl⟩
instance : PlainC Pg 17 := ⟨pl_p_internal_abi_Type⟩
instance : PtrC Pg 17 := ⟨by kernel_rfl⟩
theorem z_p_internal_abi_Type (w : World) : (zeroValue T.p_internal_abi_Type).run Pg w = .ok (.pointer none) w := by kernel_rfl
instance : ZeroC Pg 17 (.pointer none) := ⟨z_p_internal_abi_Type⟩
theorem ag_st_18 : Agg Pg T.st_18 1 := ⟨fun _ => by kernel_rfl, fun _ => by kernel_rfl⟩
instance : AggC Pg 18 1 := ⟨ag_st_18⟩
theorem z_st_18 (w : World) : (zeroValue T.st_18).run Pg w = .ok (.agg #[(.pointer none)]) w := by kernel_rfl
instance : ZeroC Pg 18 (.agg #[(.pointer none)]) := ⟨z_st_18⟩
theorem fa_st_18_typ {b o : Nat} (w : World) : (Instr.fieldAt T.st_18 (.pointer (some ⟨b, o, none⟩)) 0).run Pg w = .ok (.pointer (some ⟨b, o + 0, none⟩)) w := fieldAt_of (ty := 17) (n := 1) (by kernel_rfl) (fun _ => by kernel_rfl) (by kernel_rfl) w
instance : FieldC Pg 18 0 0 := ⟨fun _ _ w => fa_st_18_typ w⟩
theorem ag_internal_runtime_maps_unhashableTypeError : Agg Pg T.internal_runtime_maps_unhashableTypeError 1 := ⟨fun _ => by kernel_rfl, fun _ => by kernel_rfl⟩
instance : AggC Pg 19 1 := ⟨ag_internal_runtime_maps_unhashableTypeError⟩
theorem z_internal_runtime_maps_unhashableTypeError (w : World) : (zeroValue T.internal_runtime_maps_unhashableTypeError).run Pg w = .ok (.agg #[(.pointer none)]) w := by kernel_rfl
instance : ZeroC Pg 19 (.agg #[(.pointer none)]) := ⟨z_internal_runtime_maps_unhashableTypeError⟩
theorem fa_internal_runtime_maps_unhashableTypeError_typ {b o : Nat} (w : World) : (Instr.fieldAt T.internal_runtime_maps_unhashableTypeError (.pointer (some ⟨b, o, none⟩)) 0).run Pg w = .ok (.pointer (some ⟨b, o + 0, none⟩)) w := fieldAt_of (ty := 17) (n := 1) (by kernel_rfl) (fun _ => by kernel_rfl) (by kernel_rfl) w
instance : FieldC Pg 19 0 0 := ⟨fun _ _ w => fa_internal_runtime_maps_unhashableTypeError_typ w⟩
theorem pl_i32 : Plain Pg T.i32 := ⟨fun _ => by kernel_rfl, fun _ => by kernel_rfl⟩
instance : PlainC Pg 21 := ⟨pl_i32⟩
theorem u_i32 : Pg.underlying T.i32 = some (.int .i32) := by kernel_rfl
instance : IntC Pg 21 .i32 := ⟨u_i32⟩
theorem z_i32 (w : World) : (zeroValue T.i32).run Pg w = .ok (.int .i32 0) w := by kernel_rfl
instance : ZeroC Pg 21 (.int .i32 0) := ⟨z_i32⟩
theorem pl_s_i64 : Plain Pg T.s_i64 := ⟨fun _ => by kernel_rfl, fun _ => by kernel_rfl⟩
instance : PlainC Pg 22 := ⟨pl_s_i64⟩
theorem sl_s_i64 : SliceT Pg T.s_i64 3 1 := ⟨by kernel_rfl, fun _ => by kernel_rfl⟩
instance : SliceC Pg 22 3 1 := ⟨sl_s_i64⟩
theorem el_i64_2 : El Pg 3 1 8 (.int .i64 0) := ⟨by kernel_rfl, by kernel_rfl⟩
instance : ElC Pg 3 1 8 (.int .i64 0) := ⟨el_i64_2⟩
theorem z_s_i64 (w : World) : (zeroValue T.s_i64).run Pg w = .ok (.slice none 0 0) w := by kernel_rfl
instance : ZeroC Pg 22 (.slice none 0 0) := ⟨z_s_i64⟩
theorem pl_fn_23 : Plain Pg T.fn_23 := ⟨fun _ => by kernel_rfl, fun _ => by kernel_rfl⟩
instance : PlainC Pg 23 := ⟨pl_fn_23⟩
instance : FuncC Pg 23 := ⟨by kernel_rfl⟩
theorem z_fn_23 (w : World) : (zeroValue T.fn_23).run Pg w = .ok .nilFunc w := by kernel_rfl
instance : ZeroC Pg 23 .nilFunc := ⟨z_fn_23⟩
theorem pl_p_device_Device : Plain Pg T.p_device_Device := ⟨fun _ => by kernel_rfl, fun _ => by kernel_rfl⟩
instance : PlainC Pg 24 := ⟨pl_p_device_Device⟩
instance : PtrC Pg 24 := ⟨by kernel_rfl⟩
theorem z_p_device_Device (w : World) : (zeroValue T.p_device_Device).run Pg w = .ok (.pointer none) w := by kernel_rfl
instance : ZeroC Pg 24 (.pointer none) := ⟨z_p_device_Device⟩
theorem pl_api_Errno : Plain Pg T.api_Errno := ⟨fun _ => by kernel_rfl, fun _ => by kernel_rfl⟩
instance : PlainC Pg 25 := ⟨pl_api_Errno⟩
theorem u_api_Errno : Pg.underlying T.api_Errno = some (.int .i64) := by kernel_rfl
instance : IntC Pg 25 .i64 := ⟨u_api_Errno⟩
theorem z_api_Errno (w : World) : (zeroValue T.api_Errno).run Pg w = .ok (.int .i64 0) w := by kernel_rfl
instance : ZeroC Pg 25 (.int .i64 0) := ⟨z_api_Errno⟩
theorem pl_fn_27 : Plain Pg T.fn_27 := ⟨fun _ => by kernel_rfl, fun _ => by kernel_rfl⟩
instance : PlainC Pg 27 := ⟨pl_fn_27⟩
instance : FuncC Pg 27 := ⟨by kernel_rfl⟩
theorem z_fn_27 (w : World) : (zeroValue T.fn_27).run Pg w = .ok .nilFunc w := by kernel_rfl
instance : ZeroC Pg 27 .nilFunc := ⟨z_fn_27⟩
theorem pl_p_twin_Area : Plain Pg T.p_twin_Area := ⟨fun _ => by kernel_rfl, fun _ => by kernel_rfl⟩
instance : PlainC Pg 28 := ⟨pl_p_twin_Area⟩
instance : PtrC Pg 28 := ⟨by kernel_rfl⟩
theorem z_p_twin_Area (w : World) : (zeroValue T.p_twin_Area).run Pg w = .ok (.pointer none) w := by kernel_rfl
instance : ZeroC Pg 28 (.pointer none) := ⟨z_p_twin_Area⟩
theorem pl_fn_30 : Plain Pg T.fn_30 := ⟨fun _ => by kernel_rfl, fun _ => by kernel_rfl⟩
instance : PlainC Pg 30 := ⟨pl_fn_30⟩
instance : FuncC Pg 30 := ⟨by kernel_rfl⟩
theorem z_fn_30 (w : World) : (zeroValue T.fn_30).run Pg w = .ok .nilFunc w := by kernel_rfl
instance : ZeroC Pg 30 .nilFunc := ⟨z_fn_30⟩
theorem pl_p_pool_Pool : Plain Pg T.p_pool_Pool := ⟨fun _ => by kernel_rfl, fun _ => by kernel_rfl⟩
instance : PlainC Pg 31 := ⟨pl_p_pool_Pool⟩
instance : PtrC Pg 31 := ⟨by kernel_rfl⟩
theorem z_p_pool_Pool (w : World) : (zeroValue T.p_pool_Pool).run Pg w = .ok (.pointer none) w := by kernel_rfl
instance : ZeroC Pg 31 (.pointer none) := ⟨z_p_pool_Pool⟩
theorem pl_fn_33 : Plain Pg T.fn_33 := ⟨fun _ => by kernel_rfl, fun _ => by kernel_rfl⟩
instance : PlainC Pg 33 := ⟨pl_fn_33⟩
instance : FuncC Pg 33 := ⟨by kernel_rfl⟩
theorem z_fn_33 (w : World) : (zeroValue T.fn_33).run Pg w = .ok .nilFunc w := by kernel_rfl
instance : ZeroC Pg 33 .nilFunc := ⟨z_fn_33⟩
theorem pl_fn_34 : Plain Pg T.fn_34 := ⟨fun _ => by kernel_rfl, fun _ => by kernel_rfl⟩
instance : PlainC Pg 34 := ⟨pl_fn_34⟩
instance : FuncC Pg 34 := ⟨by kernel_rfl⟩
theorem z_fn_34 (w : World) : (zeroValue T.fn_34).run Pg w = .ok .nilFunc w := by kernel_rfl
instance : ZeroC Pg 34 .nilFunc := ⟨z_fn_34⟩
theorem pl_fn_36 : Plain Pg T.fn_36 := ⟨fun _ => by kernel_rfl, fun _ => by kernel_rfl⟩
instance : PlainC Pg 36 := ⟨pl_fn_36⟩
instance : FuncC Pg 36 := ⟨by kernel_rfl⟩
theorem z_fn_36 (w : World) : (zeroValue T.fn_36).run Pg w = .ok .nilFunc w := by kernel_rfl
instance : ZeroC Pg 36 .nilFunc := ⟨z_fn_36⟩
theorem pl_fn_38 : Plain Pg T.fn_38 := ⟨fun _ => by kernel_rfl, fun _ => by kernel_rfl⟩
instance : PlainC Pg 38 := ⟨pl_fn_38⟩
instance : FuncC Pg 38 := ⟨by kernel_rfl⟩
theorem z_fn_38 (w : World) : (zeroValue T.fn_38).run Pg w = .ok .nilFunc w := by kernel_rfl
instance : ZeroC Pg 38 .nilFunc := ⟨z_fn_38⟩
theorem pl_fn_39 : Plain Pg T.fn_39 := ⟨fun _ => by kernel_rfl, fun _ => by kernel_rfl⟩
instance : PlainC Pg 39 := ⟨pl_fn_39⟩
instance : FuncC Pg 39 := ⟨by kernel_rfl⟩
theorem z_fn_39 (w : World) : (zeroValue T.fn_39).run Pg w = .ok .nilFunc w := by kernel_rfl
instance : ZeroC Pg 39 .nilFunc := ⟨z_fn_39⟩
theorem pl_fn_40 : Plain Pg T.fn_40 := ⟨fun _ => by kernel_rfl, fun _ => by kernel_rfl⟩
instance : PlainC Pg 40 := ⟨pl_fn_40⟩
instance : FuncC Pg 40 := ⟨by kernel_rfl⟩
theorem z_fn_40 (w : World) : (zeroValue T.fn_40).run Pg w = .ok .nilFunc w := by kernel_rfl
instance : ZeroC Pg 40 .nilFunc := ⟨z_fn_40⟩
theorem pl_fn_41 : Plain Pg T.fn_41 := ⟨fun _ => by kernel_rfl, fun _ => by kernel_rfl⟩
instance : PlainC Pg 41 := ⟨pl_fn_41⟩
instance : FuncC Pg 41 := ⟨by kernel_rfl⟩
theorem z_fn_41 (w : World) : (zeroValue T.fn_41).run Pg w = .ok .nilFunc w := by kernel_rfl
instance : ZeroC Pg 41 .nilFunc := ⟨z_fn_41⟩
theorem pl_s_u8 : Plain Pg T.s_u8 := ⟨fun _ => by kernel_rfl, fun _ => by kernel_rfl⟩
instance : PlainC Pg 42 := ⟨pl_s_u8⟩
theorem sl_s_u8 : SliceT Pg T.s_u8 5 1 := ⟨by kernel_rfl, fun _ => by kernel_rfl⟩
instance : SliceC Pg 42 5 1 := ⟨sl_s_u8⟩
theorem el_u8 : El Pg 5 1 1 (.int .u8 0) := ⟨by kernel_rfl, by kernel_rfl⟩
instance : ElC Pg 5 1 1 (.int .u8 0) := ⟨el_u8⟩
theorem z_s_u8 (w : World) : (zeroValue T.s_u8).run Pg w = .ok (.slice none 0 0) w := by kernel_rfl
instance : ZeroC Pg 42 (.slice none 0 0) := ⟨z_s_u8⟩
theorem pl_fn_43 : Plain Pg T.fn_43 := ⟨fun _ => by kernel_rfl, fun _ => by kernel_rfl⟩
instance : PlainC Pg 43 := ⟨pl_fn_43⟩
instance : FuncC Pg 43 := ⟨by kernel_rfl⟩
theorem z_fn_43 (w : World) : (zeroValue T.fn_43).run Pg w = .ok .nilFunc w := by kernel_rfl
instance : ZeroC Pg 43 .nilFunc := ⟨z_fn_43⟩
theorem pl_fn_44 : Plain Pg T.fn_44 := ⟨fun _ => by kernel_rfl, fun _ => by kernel_rfl⟩
instance : PlainC Pg 44 := ⟨pl_fn_44⟩
instance : FuncC Pg 44 := ⟨by kernel_rfl⟩
theorem z_fn_44 (w : World) : (zeroValue T.fn_44).run Pg w = .ok .nilFunc w := by kernel_rfl
instance : ZeroC Pg 44 .nilFunc := ⟨z_fn_44⟩
theorem pl_s_concordancelaw10_Act : Plain Pg T.s_concordancelaw10_Act := ⟨fun _ => by kernel_rfl, fun _ => by kernel_rfl⟩
instance : PlainC Pg 45 := ⟨pl_s_concordancelaw10_Act⟩
theorem sl_s_concordancelaw10_Act : SliceT Pg T.s_concordancelaw10_Act 55 3 := ⟨by kernel_rfl, fun _ => by kernel_rfl⟩
instance : SliceC Pg 45 55 3 := ⟨sl_s_concordancelaw10_Act⟩
theorem el_concordancelaw10_Act : El Pg 55 3 32 (.agg #[(.int .i64 0), (.int .i64 0), (str [])]) := ⟨by kernel_rfl, by kernel_rfl⟩
instance : ElC Pg 55 3 32 (.agg #[(.int .i64 0), (.int .i64 0), (str [])]) := ⟨el_concordancelaw10_Act⟩
theorem z_s_concordancelaw10_Act (w : World) : (zeroValue T.s_concordancelaw10_Act).run Pg w = .ok (.slice none 0 0) w := by kernel_rfl
instance : ZeroC Pg 45 (.slice none 0 0) := ⟨z_s_concordancelaw10_Act⟩
theorem pl_p_concordanceref10_Pool : Plain Pg T.p_concordanceref10_Pool := ⟨fun _ => by kernel_rfl, fun _ => by kernel_rfl⟩
instance : PlainC Pg 46 := ⟨pl_p_concordanceref10_Pool⟩
instance : PtrC Pg 46 := ⟨by kernel_rfl⟩
theorem z_p_concordanceref10_Pool (w : World) : (zeroValue T.p_concordanceref10_Pool).run Pg w = .ok (.pointer none) w := by kernel_rfl
instance : ZeroC Pg 46 (.pointer none) := ⟨z_p_concordanceref10_Pool⟩
theorem pl_s_string : Plain Pg T.s_string := ⟨fun _ => by kernel_rfl, fun _ => by kernel_rfl⟩
instance : PlainC Pg 47 := ⟨pl_s_string⟩
theorem sl_s_string : SliceT Pg T.s_string 9 1 := ⟨by kernel_rfl, fun _ => by kernel_rfl⟩
instance : SliceC Pg 47 9 1 := ⟨sl_s_string⟩
theorem el_string : El Pg 9 1 16 (str []) := ⟨by kernel_rfl, by kernel_rfl⟩
instance : ElC Pg 9 1 16 (str []) := ⟨el_string⟩
theorem z_s_string (w : World) : (zeroValue T.s_string).run Pg w = .ok (.slice none 0 0) w := by kernel_rfl
instance : ZeroC Pg 47 (.slice none 0 0) := ⟨z_s_string⟩
theorem ag_st_48 : Agg Pg T.st_48 2 := ⟨fun _ => by kernel_rfl, fun _ => by kernel_rfl⟩
instance : AggC Pg 48 2 := ⟨ag_st_48⟩
theorem z_st_48 (w : World) : (zeroValue T.st_48).run Pg w = .ok (.agg #[(.slice none 0 0), (.slice none 0 0)]) w := by kernel_rfl
instance : ZeroC Pg 48 (.agg #[(.slice none 0 0), (.slice none 0 0)]) := ⟨z_st_48⟩
theorem fa_st_48_Now {b o : Nat} (w : World) : (Instr.fieldAt T.st_48 (.pointer (some ⟨b, o, none⟩)) 0).run Pg w = .ok (.pointer (some ⟨b, o + 0, none⟩)) w := fieldAt_of (ty := 47) (n := 1) (by kernel_rfl) (fun _ => by kernel_rfl) (by kernel_rfl) w
instance : FieldC Pg 48 0 0 := ⟨fun _ _ w => fa_st_48_Now w⟩
theorem fa_st_48_Or {b o : Nat} (w : World) : (Instr.fieldAt T.st_48 (.pointer (some ⟨b, o, none⟩)) 1).run Pg w = .ok (.pointer (some ⟨b, o + 1, none⟩)) w := fieldAt_of (ty := 47) (n := 1) (by kernel_rfl) (fun _ => by kernel_rfl) (by kernel_rfl) w
instance : FieldC Pg 48 1 1 := ⟨fun _ _ w => fa_st_48_Or w⟩
theorem ag_concordanceref09_Pages : Agg Pg T.concordanceref09_Pages 2 := ⟨fun _ => by kernel_rfl, fun _ => by kernel_rfl⟩
instance : AggC Pg 49 2 := ⟨ag_concordanceref09_Pages⟩
theorem z_concordanceref09_Pages (w : World) : (zeroValue T.concordanceref09_Pages).run Pg w = .ok (.agg #[(.slice none 0 0), (.slice none 0 0)]) w := by kernel_rfl
instance : ZeroC Pg 49 (.agg #[(.slice none 0 0), (.slice none 0 0)]) := ⟨z_concordanceref09_Pages⟩
theorem fa_concordanceref09_Pages_Now {b o : Nat} (w : World) : (Instr.fieldAt T.concordanceref09_Pages (.pointer (some ⟨b, o, none⟩)) 0).run Pg w = .ok (.pointer (some ⟨b, o + 0, none⟩)) w := fieldAt_of (ty := 47) (n := 1) (by kernel_rfl) (fun _ => by kernel_rfl) (by kernel_rfl) w
instance : FieldC Pg 49 0 0 := ⟨fun _ _ w => fa_concordanceref09_Pages_Now w⟩
theorem fa_concordanceref09_Pages_Or {b o : Nat} (w : World) : (Instr.fieldAt T.concordanceref09_Pages (.pointer (some ⟨b, o, none⟩)) 1).run Pg w = .ok (.pointer (some ⟨b, o + 1, none⟩)) w := fieldAt_of (ty := 47) (n := 1) (by kernel_rfl) (fun _ => by kernel_rfl) (by kernel_rfl) w
instance : FieldC Pg 49 1 1 := ⟨fun _ _ w => fa_concordanceref09_Pages_Or w⟩
theorem pl_fn_50 : Plain Pg T.fn_50 := ⟨fun _ => by kernel_rfl, fun _ => by kernel_rfl⟩
instance : PlainC Pg 50 := ⟨pl_fn_50⟩
instance : FuncC Pg 50 := ⟨by kernel_rfl⟩
theorem z_fn_50 (w : World) : (zeroValue T.fn_50).run Pg w = .ok .nilFunc w := by kernel_rfl
instance : ZeroC Pg 50 .nilFunc := ⟨z_fn_50⟩
theorem pl_s_concordanceref10_Frame : Plain Pg T.s_concordanceref10_Frame := ⟨fun _ => by kernel_rfl, fun _ => by kernel_rfl⟩
instance : PlainC Pg 51 := ⟨pl_s_concordanceref10_Frame⟩
theorem sl_s_concordanceref10_Frame : SliceT Pg T.s_concordanceref10_Frame 58 4 := ⟨by kernel_rfl, fun _ => by kernel_rfl⟩
instance : SliceC Pg 51 58 4 := ⟨sl_s_concordanceref10_Frame⟩
theorem el_concordanceref10_Frame : El Pg 58 4 40 (.agg #[(.int .i64 0), (.int .i64 0), (str []), (.bool false)]) := ⟨by kernel_rfl, by kernel_rfl⟩
instance : ElC Pg 58 4 40 (.agg #[(.int .i64 0), (.int .i64 0), (str []), (.bool false)]) := ⟨el_concordanceref10_Frame⟩
theorem z_s_concordanceref10_Frame (w : World) : (zeroValue T.s_concordanceref10_Frame).run Pg w = .ok (.slice none 0 0) w := by kernel_rfl
instance : ZeroC Pg 51 (.slice none 0 0) := ⟨z_s_concordanceref10_Frame⟩
theorem ag_st_52 : Agg Pg T.st_52 5 := ⟨fun _ => by kernel_rfl, fun _ => by kernel_rfl⟩
instance : AggC Pg 52 5 := ⟨ag_st_52⟩
theorem z_st_52 (w : World) : (zeroValue T.st_52).run Pg w = .ok (.agg #[(.int .i64 0), (.slice none 0 0), (.slice none 0 0), (.slice none 0 0), (.bool false)]) w := by kernel_rfl
instance : ZeroC Pg 52 (.agg #[(.int .i64 0), (.slice none 0 0), (.slice none 0 0), (.slice none 0 0), (.bool false)]) := ⟨z_st_52⟩
theorem fa_st_52_Most {b o : Nat} (w : World) : (Instr.fieldAt T.st_52 (.pointer (some ⟨b, o, none⟩)) 0).run Pg w = .ok (.pointer (some ⟨b, o + 0, none⟩)) w := fieldAt_of (ty := 3) (n := 1) (by kernel_rfl) (fun _ => by kernel_rfl) (by kernel_rfl) w
instance : FieldC Pg 52 0 0 := ⟨fun _ _ w => fa_st_52_Most w⟩
theorem fa_st_52_F {b o : Nat} (w : World) : (Instr.fieldAt T.st_52 (.pointer (some ⟨b, o, none⟩)) 1).run Pg w = .ok (.pointer (some ⟨b, o + 1, none⟩)) w := fieldAt_of (ty := 51) (n := 1) (by kernel_rfl) (fun _ => by kernel_rfl) (by kernel_rfl) w
instance : FieldC Pg 52 1 1 := ⟨fun _ _ w => fa_st_52_F w⟩
theorem fa_st_52_Disk {b o : Nat} (w : World) : (Instr.fieldAt T.st_52 (.pointer (some ⟨b, o, none⟩)) 2).run Pg w = .ok (.pointer (some ⟨b, o + 2, none⟩)) w := fieldAt_of (ty := 47) (n := 1) (by kernel_rfl) (fun _ => by kernel_rfl) (by kernel_rfl) w
instance : FieldC Pg 52 2 2 := ⟨fun _ _ w => fa_st_52_Disk w⟩
theorem fa_st_52_Asked {b o : Nat} (w : World) : (Instr.fieldAt T.st_52 (.pointer (some ⟨b, o, none⟩)) 3).run Pg w = .ok (.pointer (some ⟨b, o + 3, none⟩)) w := fieldAt_of (ty := 22) (n := 1) (by kernel_rfl) (fun _ => by kernel_rfl) (by kernel_rfl) w
instance : FieldC Pg 52 3 3 := ⟨fun _ _ w => fa_st_52_Asked w⟩
theorem fa_st_52_Refuse {b o : Nat} (w : World) : (Instr.fieldAt T.st_52 (.pointer (some ⟨b, o, none⟩)) 4).run Pg w = .ok (.pointer (some ⟨b, o + 4, none⟩)) w := fieldAt_of (ty := 4) (n := 1) (by kernel_rfl) (fun _ => by kernel_rfl) (by kernel_rfl) w
instance : FieldC Pg 52 4 4 := ⟨fun _ _ w => fa_st_52_Refuse w⟩
theorem ag_concordanceref10_Pool : Agg Pg T.concordanceref10_Pool 5 := ⟨fun _ => by kernel_rfl, fun _ => by kernel_rfl⟩
instance : AggC Pg 53 5 := ⟨ag_concordanceref10_Pool⟩
theorem z_concordanceref10_Pool (w : World) : (zeroValue T.concordanceref10_Pool).run Pg w = .ok (.agg #[(.int .i64 0), (.slice none 0 0), (.slice none 0 0), (.slice none 0 0), (.bool false)]) w := by kernel_rfl
instance : ZeroC Pg 53 (.agg #[(.int .i64 0), (.slice none 0 0), (.slice none 0 0), (.slice none 0 0), (.bool false)]) := ⟨z_concordanceref10_Pool⟩
theorem fa_concordanceref10_Pool_Most {b o : Nat} (w : World) : (Instr.fieldAt T.concordanceref10_Pool (.pointer (some ⟨b, o, none⟩)) 0).run Pg w = .ok (.pointer (some ⟨b, o + 0, none⟩)) w := fieldAt_of (ty := 3) (n := 1) (by kernel_rfl) (fun _ => by kernel_rfl) (by kernel_rfl) w
instance : FieldC Pg 53 0 0 := ⟨fun _ _ w => fa_concordanceref10_Pool_Most w⟩
theorem fa_concordanceref10_Pool_F {b o : Nat} (w : World) : (Instr.fieldAt T.concordanceref10_Pool (.pointer (some ⟨b, o, none⟩)) 1).run Pg w = .ok (.pointer (some ⟨b, o + 1, none⟩)) w := fieldAt_of (ty := 51) (n := 1) (by kernel_rfl) (fun _ => by kernel_rfl) (by kernel_rfl) w
instance : FieldC Pg 53 1 1 := ⟨fun _ _ w => fa_concordanceref10_Pool_F w⟩
theorem fa_concordanceref10_Pool_Disk {b o : Nat} (w : World) : (Instr.fieldAt T.concordanceref10_Pool (.pointer (some ⟨b, o, none⟩)) 2).run Pg w = .ok (.pointer (some ⟨b, o + 2, none⟩)) w := fieldAt_of (ty := 47) (n := 1) (by kernel_rfl) (fun _ => by kernel_rfl) (by kernel_rfl) w
instance : FieldC Pg 53 2 2 := ⟨fun _ _ w => fa_concordanceref10_Pool_Disk w⟩
theorem fa_concordanceref10_Pool_Asked {b o : Nat} (w : World) : (Instr.fieldAt T.concordanceref10_Pool (.pointer (some ⟨b, o, none⟩)) 3).run Pg w = .ok (.pointer (some ⟨b, o + 3, none⟩)) w := fieldAt_of (ty := 22) (n := 1) (by kernel_rfl) (fun _ => by kernel_rfl) (by kernel_rfl) w
instance : FieldC Pg 53 3 3 := ⟨fun _ _ w => fa_concordanceref10_Pool_Asked w⟩
theorem fa_concordanceref10_Pool_Refuse {b o : Nat} (w : World) : (Instr.fieldAt T.concordanceref10_Pool (.pointer (some ⟨b, o, none⟩)) 4).run Pg w = .ok (.pointer (some ⟨b, o + 4, none⟩)) w := fieldAt_of (ty := 4) (n := 1) (by kernel_rfl) (fun _ => by kernel_rfl) (by kernel_rfl) w
instance : FieldC Pg 53 4 4 := ⟨fun _ _ w => fa_concordanceref10_Pool_Refuse w⟩
theorem ag_st_54 : Agg Pg T.st_54 3 := ⟨fun _ => by kernel_rfl, fun _ => by kernel_rfl⟩
instance : AggC Pg 54 3 := ⟨ag_st_54⟩
theorem z_st_54 (w : World) : (zeroValue T.st_54).run Pg w = .ok (.agg #[(.int .i64 0), (.int .i64 0), (str [])]) w := by kernel_rfl
instance : ZeroC Pg 54 (.agg #[(.int .i64 0), (.int .i64 0), (str [])]) := ⟨z_st_54⟩
theorem fa_st_54_What {b o : Nat} (w : World) : (Instr.fieldAt T.st_54 (.pointer (some ⟨b, o, none⟩)) 0).run Pg w = .ok (.pointer (some ⟨b, o + 0, none⟩)) w := fieldAt_of (ty := 3) (n := 1) (by kernel_rfl) (fun _ => by kernel_rfl) (by kernel_rfl) w
instance : FieldC Pg 54 0 0 := ⟨fun _ _ w => fa_st_54_What w⟩
theorem fa_st_54_Page {b o : Nat} (w : World) : (Instr.fieldAt T.st_54 (.pointer (some ⟨b, o, none⟩)) 1).run Pg w = .ok (.pointer (some ⟨b, o + 1, none⟩)) w := fieldAt_of (ty := 3) (n := 1) (by kernel_rfl) (fun _ => by kernel_rfl) (by kernel_rfl) w
instance : FieldC Pg 54 1 1 := ⟨fun _ _ w => fa_st_54_Page w⟩
theorem fa_st_54_Text {b o : Nat} (w : World) : (Instr.fieldAt T.st_54 (.pointer (some ⟨b, o, none⟩)) 2).run Pg w = .ok (.pointer (some ⟨b, o + 2, none⟩)) w := fieldAt_of (ty := 9) (n := 1) (by kernel_rfl) (fun _ => by kernel_rfl) (by kernel_rfl) w
instance : FieldC Pg 54 2 2 := ⟨fun _ _ w => fa_st_54_Text w⟩
theorem ag_concordancelaw10_Act : Agg Pg T.concordancelaw10_Act 3 := ⟨fun _ => by kernel_rfl, fun _ => by kernel_rfl⟩
instance : AggC Pg 55 3 := ⟨ag_concordancelaw10_Act⟩
theorem z_concordancelaw10_Act (w : World) : (zeroValue T.concordancelaw10_Act).run Pg w = .ok (.agg #[(.int .i64 0), (.int .i64 0), (str [])]) w := by kernel_rfl
instance : ZeroC Pg 55 (.agg #[(.int .i64 0), (.int .i64 0), (str [])]) := ⟨z_concordancelaw10_Act⟩
theorem fa_concordancelaw10_Act_What {b o : Nat} (w : World) : (Instr.fieldAt T.concordancelaw10_Act (.pointer (some ⟨b, o, none⟩)) 0).run Pg w = .ok (.pointer (some ⟨b, o + 0, none⟩)) w := fieldAt_of (ty := 3) (n := 1) (by kernel_rfl) (fun _ => by kernel_rfl) (by kernel_rfl) w
instance : FieldC Pg 55 0 0 := ⟨fun _ _ w => fa_concordancelaw10_Act_What w⟩
theorem fa_concordancelaw10_Act_Page {b o : Nat} (w : World) : (Instr.fieldAt T.concordancelaw10_Act (.pointer (some ⟨b, o, none⟩)) 1).run Pg w = .ok (.pointer (some ⟨b, o + 1, none⟩)) w := fieldAt_of (ty := 3) (n := 1) (by kernel_rfl) (fun _ => by kernel_rfl) (by kernel_rfl) w
instance : FieldC Pg 55 1 1 := ⟨fun _ _ w => fa_concordancelaw10_Act_Page w⟩
theorem fa_concordancelaw10_Act_Text {b o : Nat} (w : World) : (Instr.fieldAt T.concordancelaw10_Act (.pointer (some ⟨b, o, none⟩)) 2).run Pg w = .ok (.pointer (some ⟨b, o + 2, none⟩)) w := fieldAt_of (ty := 9) (n := 1) (by kernel_rfl) (fun _ => by kernel_rfl) (by kernel_rfl) w
instance : FieldC Pg 55 2 2 := ⟨fun _ _ w => fa_concordancelaw10_Act_Text w⟩
theorem pl_fn_56 : Plain Pg T.fn_56 := ⟨fun _ => by kernel_rfl, fun _ => by kernel_rfl⟩
instance : PlainC Pg 56 := ⟨pl_fn_56⟩
instance : FuncC Pg 56 := ⟨by kernel_rfl⟩
theorem z_fn_56 (w : World) : (zeroValue T.fn_56).run Pg w = .ok .nilFunc w := by kernel_rfl
instance : ZeroC Pg 56 .nilFunc := ⟨z_fn_56⟩
theorem ag_st_57 : Agg Pg T.st_57 4 := ⟨fun _ => by kernel_rfl, fun _ => by kernel_rfl⟩
instance : AggC Pg 57 4 := ⟨ag_st_57⟩
theorem z_st_57 (w : World) : (zeroValue T.st_57).run Pg w = .ok (.agg #[(.int .i64 0), (.int .i64 0), (str []), (.bool false)]) w := by kernel_rfl
instance : ZeroC Pg 57 (.agg #[(.int .i64 0), (.int .i64 0), (str []), (.bool false)]) := ⟨z_st_57⟩
theorem fa_st_57_Page {b o : Nat} (w : World) : (Instr.fieldAt T.st_57 (.pointer (some ⟨b, o, none⟩)) 0).run Pg w = .ok (.pointer (some ⟨b, o + 0, none⟩)) w := fieldAt_of (ty := 3) (n := 1) (by kernel_rfl) (fun _ => by kernel_rfl) (by kernel_rfl) w
instance : FieldC Pg 57 0 0 := ⟨fun _ _ w => fa_st_57_Page w⟩
theorem fa_st_57_Pins {b o : Nat} (w : World) : (Instr.fieldAt T.st_57 (.pointer (some ⟨b, o, none⟩)) 1).run Pg w = .ok (.pointer (some ⟨b, o + 1, none⟩)) w := fieldAt_of (ty := 3) (n := 1) (by kernel_rfl) (fun _ => by kernel_rfl) (by kernel_rfl) w
instance : FieldC Pg 57 1 1 := ⟨fun _ _ w => fa_st_57_Pins w⟩
theorem fa_st_57_Bytes {b o : Nat} (w : World) : (Instr.fieldAt T.st_57 (.pointer (some ⟨b, o, none⟩)) 2).run Pg w = .ok (.pointer (some ⟨b, o + 2, none⟩)) w := fieldAt_of (ty := 9) (n := 1) (by kernel_rfl) (fun _ => by kernel_rfl) (by kernel_rfl) w
instance : FieldC Pg 57 2 2 := ⟨fun _ _ w => fa_st_57_Bytes w⟩
theorem fa_st_57_Dirty {b o : Nat} (w : World) : (Instr.fieldAt T.st_57 (.pointer (some ⟨b, o, none⟩)) 3).run Pg w = .ok (.pointer (some ⟨b, o + 3, none⟩)) w := fieldAt_of (ty := 4) (n := 1) (by kernel_rfl) (fun _ => by kernel_rfl) (by kernel_rfl) w
instance : FieldC Pg 57 3 3 := ⟨fun _ _ w => fa_st_57_Dirty w⟩
theorem ag_concordanceref10_Frame : Agg Pg T.concordanceref10_Frame 4 := ⟨fun _ => by kernel_rfl, fun _ => by kernel_rfl⟩
instance : AggC Pg 58 4 := ⟨ag_concordanceref10_Frame⟩
theorem z_concordanceref10_Frame (w : World) : (zeroValue T.concordanceref10_Frame).run Pg w = .ok (.agg #[(.int .i64 0), (.int .i64 0), (str []), (.bool false)]) w := by kernel_rfl
instance : ZeroC Pg 58 (.agg #[(.int .i64 0), (.int .i64 0), (str []), (.bool false)]) := ⟨z_concordanceref10_Frame⟩
theorem fa_concordanceref10_Frame_Page {b o : Nat} (w : World) : (Instr.fieldAt T.concordanceref10_Frame (.pointer (some ⟨b, o, none⟩)) 0).run Pg w = .ok (.pointer (some ⟨b, o + 0, none⟩)) w := fieldAt_of (ty := 3) (n := 1) (by kernel_rfl) (fun _ => by kernel_rfl) (by kernel_rfl) w
instance : FieldC Pg 58 0 0 := ⟨fun _ _ w => fa_concordanceref10_Frame_Page w⟩
theorem fa_concordanceref10_Frame_Pins {b o : Nat} (w : World) : (Instr.fieldAt T.concordanceref10_Frame (.pointer (some ⟨b, o, none⟩)) 1).run Pg w = .ok (.pointer (some ⟨b, o + 1, none⟩)) w := fieldAt_of (ty := 3) (n := 1) (by kernel_rfl) (fun _ => by kernel_rfl) (by kernel_rfl) w
instance : FieldC Pg 58 1 1 := ⟨fun _ _ w => fa_concordanceref10_Frame_Pins w⟩
theorem fa_concordanceref10_Frame_Bytes {b o : Nat} (w : World) : (Instr.fieldAt T.concordanceref10_Frame (.pointer (some ⟨b, o, none⟩)) 2).run Pg w = .ok (.pointer (some ⟨b, o + 2, none⟩)) w := fieldAt_of (ty := 9) (n := 1) (by kernel_rfl) (fun _ => by kernel_rfl) (by kernel_rfl) w
instance : FieldC Pg 58 2 2 := ⟨fun _ _ w => fa_concordanceref10_Frame_Bytes w⟩
theorem fa_concordanceref10_Frame_Dirty {b o : Nat} (w : World) : (Instr.fieldAt T.concordanceref10_Frame (.pointer (some ⟨b, o, none⟩)) 3).run Pg w = .ok (.pointer (some ⟨b, o + 3, none⟩)) w := fieldAt_of (ty := 4) (n := 1) (by kernel_rfl) (fun _ => by kernel_rfl) (by kernel_rfl) w
instance : FieldC Pg 58 3 3 := ⟨fun _ _ w => fa_concordanceref10_Frame_Dirty w⟩
theorem pl_fn_59 : Plain Pg T.fn_59 := ⟨fun _ => by kernel_rfl, fun _ => by kernel_rfl⟩
instance : PlainC Pg 59 := ⟨pl_fn_59⟩
instance : FuncC Pg 59 := ⟨by kernel_rfl⟩
theorem z_fn_59 (w : World) : (zeroValue T.fn_59).run Pg w = .ok .nilFunc w := by kernel_rfl
instance : ZeroC Pg 59 .nilFunc := ⟨z_fn_59⟩
theorem ag_st_60 : Agg Pg T.st_60 3 := ⟨fun _ => by kernel_rfl, fun _ => by kernel_rfl⟩
instance : AggC Pg 60 3 := ⟨ag_st_60⟩
theorem z_st_60 (w : World) : (zeroValue T.st_60).run Pg w = .ok (.agg #[(str []), (str []), (.bool false)]) w := by kernel_rfl
instance : ZeroC Pg 60 (.agg #[(str []), (str []), (.bool false)]) := ⟨z_st_60⟩
theorem fa_st_60_Key {b o : Nat} (w : World) : (Instr.fieldAt T.st_60 (.pointer (some ⟨b, o, none⟩)) 0).run Pg w = .ok (.pointer (some ⟨b, o + 0, none⟩)) w := fieldAt_of (ty := 9) (n := 1) (by kernel_rfl) (fun _ => by kernel_rfl) (by kernel_rfl) w
instance : FieldC Pg 60 0 0 := ⟨fun _ _ w => fa_st_60_Key w⟩
theorem fa_st_60_Value {b o : Nat} (w : World) : (Instr.fieldAt T.st_60 (.pointer (some ⟨b, o, none⟩)) 1).run Pg w = .ok (.pointer (some ⟨b, o + 1, none⟩)) w := fieldAt_of (ty := 9) (n := 1) (by kernel_rfl) (fun _ => by kernel_rfl) (by kernel_rfl) w
instance : FieldC Pg 60 1 1 := ⟨fun _ _ w => fa_st_60_Value w⟩
theorem fa_st_60_Marked {b o : Nat} (w : World) : (Instr.fieldAt T.st_60 (.pointer (some ⟨b, o, none⟩)) 2).run Pg w = .ok (.pointer (some ⟨b, o + 2, none⟩)) w := fieldAt_of (ty := 4) (n := 1) (by kernel_rfl) (fun _ => by kernel_rfl) (by kernel_rfl) w
instance : FieldC Pg 60 2 2 := ⟨fun _ _ w => fa_st_60_Marked w⟩
theorem ag_page_Entry : Agg Pg T.page_Entry 3 := ⟨fun _ => by kernel_rfl, fun _ => by kernel_rfl⟩
instance : AggC Pg 61 3 := ⟨ag_page_Entry⟩
theorem z_page_Entry (w : World) : (zeroValue T.page_Entry).run Pg w = .ok (.agg #[(str []), (str []), (.bool false)]) w := by kernel_rfl
instance : ZeroC Pg 61 (.agg #[(str []), (str []), (.bool false)]) := ⟨z_page_Entry⟩
theorem fa_page_Entry_Key {b o : Nat} (w : World) : (Instr.fieldAt T.page_Entry (.pointer (some ⟨b, o, none⟩)) 0).run Pg w = .ok (.pointer (some ⟨b, o + 0, none⟩)) w := fieldAt_of (ty := 9) (n := 1) (by kernel_rfl) (fun _ => by kernel_rfl) (by kernel_rfl) w
instance : FieldC Pg 61 0 0 := ⟨fun _ _ w => fa_page_Entry_Key w⟩
theorem fa_page_Entry_Value {b o : Nat} (w : World) : (Instr.fieldAt T.page_Entry (.pointer (some ⟨b, o, none⟩)) 1).run Pg w = .ok (.pointer (some ⟨b, o + 1, none⟩)) w := fieldAt_of (ty := 9) (n := 1) (by kernel_rfl) (fun _ => by kernel_rfl) (by kernel_rfl) w
instance : FieldC Pg 61 1 1 := ⟨fun _ _ w => fa_page_Entry_Value w⟩
theorem fa_page_Entry_Marked {b o : Nat} (w : World) : (Instr.fieldAt T.page_Entry (.pointer (some ⟨b, o, none⟩)) 2).run Pg w = .ok (.pointer (some ⟨b, o + 2, none⟩)) w := fieldAt_of (ty := 4) (n := 1) (by kernel_rfl) (fun _ => by kernel_rfl) (by kernel_rfl) w
instance : FieldC Pg 61 2 2 := ⟨fun _ _ w => fa_page_Entry_Marked w⟩
theorem pl_s_page_Entry : Plain Pg T.s_page_Entry := ⟨fun _ => by kernel_rfl, fun _ => by kernel_rfl⟩
instance : PlainC Pg 62 := ⟨pl_s_page_Entry⟩
theorem sl_s_page_Entry : SliceT Pg T.s_page_Entry 61 3 := ⟨by kernel_rfl, fun _ => by kernel_rfl⟩
instance : SliceC Pg 62 61 3 := ⟨sl_s_page_Entry⟩
theorem el_page_Entry : El Pg 61 3 40 (.agg #[(str []), (str []), (.bool false)]) := ⟨by kernel_rfl, by kernel_rfl⟩
instance : ElC Pg 61 3 40 (.agg #[(str []), (str []), (.bool false)]) := ⟨el_page_Entry⟩
theorem z_s_page_Entry (w : World) : (zeroValue T.s_page_Entry).run Pg w = .ok (.slice none 0 0) w := by kernel_rfl
instance : ZeroC Pg 62 (.slice none 0 0) := ⟨z_s_page_Entry⟩
theorem ag_st_63 : Agg Pg T.st_63 6 := ⟨fun _ => by kernel_rfl, fun _ => by kernel_rfl⟩
instance : AggC Pg 63 6 := ⟨ag_st_63⟩
theorem z_st_63 (w : World) : (zeroValue T.st_63).run Pg w = .ok (.agg #[(.int .i64 0), (.int .i64 0), (.int .i64 0), (.int .i64 0), (str []), (.slice none 0 0)]) w := by kernel_rfl
instance : ZeroC Pg 63 (.agg #[(.int .i64 0), (.int .i64 0), (.int .i64 0), (.int .i64 0), (str []), (.slice none 0 0)]) := ⟨z_st_63⟩
theorem fa_st_63_LSN {b o : Nat} (w : World) : (Instr.fieldAt T.st_63 (.pointer (some ⟨b, o, none⟩)) 0).run Pg w = .ok (.pointer (some ⟨b, o + 0, none⟩)) w := fieldAt_of (ty := 3) (n := 1) (by kernel_rfl) (fun _ => by kernel_rfl) (by kernel_rfl) w
instance : FieldC Pg 63 0 0 := ⟨fun _ _ w => fa_st_63_LSN w⟩
theorem fa_st_63_Kind {b o : Nat} (w : World) : (Instr.fieldAt T.st_63 (.pointer (some ⟨b, o, none⟩)) 1).run Pg w = .ok (.pointer (some ⟨b, o + 1, none⟩)) w := fieldAt_of (ty := 3) (n := 1) (by kernel_rfl) (fun _ => by kernel_rfl) (by kernel_rfl) w
instance : FieldC Pg 63 1 1 := ⟨fun _ _ w => fa_st_63_Kind w⟩
theorem fa_st_63_Level {b o : Nat} (w : World) : (Instr.fieldAt T.st_63 (.pointer (some ⟨b, o, none⟩)) 2).run Pg w = .ok (.pointer (some ⟨b, o + 2, none⟩)) w := fieldAt_of (ty := 3) (n := 1) (by kernel_rfl) (fun _ => by kernel_rfl) (by kernel_rfl) w
instance : FieldC Pg 63 2 2 := ⟨fun _ _ w => fa_st_63_Level w⟩
theorem fa_st_63_Right {b o : Nat} (w : World) : (Instr.fieldAt T.st_63 (.pointer (some ⟨b, o, none⟩)) 3).run Pg w = .ok (.pointer (some ⟨b, o + 3, none⟩)) w := fieldAt_of (ty := 3) (n := 1) (by kernel_rfl) (fun _ => by kernel_rfl) (by kernel_rfl) w
instance : FieldC Pg 63 3 3 := ⟨fun _ _ w => fa_st_63_Right w⟩
theorem fa_st_63_High {b o : Nat} (w : World) : (Instr.fieldAt T.st_63 (.pointer (some ⟨b, o, none⟩)) 4).run Pg w = .ok (.pointer (some ⟨b, o + 4, none⟩)) w := fieldAt_of (ty := 9) (n := 1) (by kernel_rfl) (fun _ => by kernel_rfl) (by kernel_rfl) w
instance : FieldC Pg 63 4 4 := ⟨fun _ _ w => fa_st_63_High w⟩
theorem fa_st_63_Entries {b o : Nat} (w : World) : (Instr.fieldAt T.st_63 (.pointer (some ⟨b, o, none⟩)) 5).run Pg w = .ok (.pointer (some ⟨b, o + 5, none⟩)) w := fieldAt_of (ty := 62) (n := 1) (by kernel_rfl) (fun _ => by kernel_rfl) (by kernel_rfl) w
instance : FieldC Pg 63 5 5 := ⟨fun _ _ w => fa_st_63_Entries w⟩
theorem ag_page_Page : Agg Pg T.page_Page 6 := ⟨fun _ => by kernel_rfl, fun _ => by kernel_rfl⟩
instance : AggC Pg 64 6 := ⟨ag_page_Page⟩
theorem z_page_Page (w : World) : (zeroValue T.page_Page).run Pg w = .ok (.agg #[(.int .i64 0), (.int .i64 0), (.int .i64 0), (.int .i64 0), (str []), (.slice none 0 0)]) w := by kernel_rfl
instance : ZeroC Pg 64 (.agg #[(.int .i64 0), (.int .i64 0), (.int .i64 0), (.int .i64 0), (str []), (.slice none 0 0)]) := ⟨z_page_Page⟩
theorem fa_page_Page_LSN {b o : Nat} (w : World) : (Instr.fieldAt T.page_Page (.pointer (some ⟨b, o, none⟩)) 0).run Pg w = .ok (.pointer (some ⟨b, o + 0, none⟩)) w := fieldAt_of (ty := 3) (n := 1) (by kernel_rfl) (fun _ => by kernel_rfl) (by kernel_rfl) w
instance : FieldC Pg 64 0 0 := ⟨fun _ _ w => fa_page_Page_LSN w⟩
theorem fa_page_Page_Kind {b o : Nat} (w : World) : (Instr.fieldAt T.page_Page (.pointer (some ⟨b, o, none⟩)) 1).run Pg w = .ok (.pointer (some ⟨b, o + 1, none⟩)) w := fieldAt_of (ty := 3) (n := 1) (by kernel_rfl) (fun _ => by kernel_rfl) (by kernel_rfl) w
instance : FieldC Pg 64 1 1 := ⟨fun _ _ w => fa_page_Page_Kind w⟩
theorem fa_page_Page_Level {b o : Nat} (w : World) : (Instr.fieldAt T.page_Page (.pointer (some ⟨b, o, none⟩)) 2).run Pg w = .ok (.pointer (some ⟨b, o + 2, none⟩)) w := fieldAt_of (ty := 3) (n := 1) (by kernel_rfl) (fun _ => by kernel_rfl) (by kernel_rfl) w
instance : FieldC Pg 64 2 2 := ⟨fun _ _ w => fa_page_Page_Level w⟩
theorem fa_page_Page_Right {b o : Nat} (w : World) : (Instr.fieldAt T.page_Page (.pointer (some ⟨b, o, none⟩)) 3).run Pg w = .ok (.pointer (some ⟨b, o + 3, none⟩)) w := fieldAt_of (ty := 3) (n := 1) (by kernel_rfl) (fun _ => by kernel_rfl) (by kernel_rfl) w
instance : FieldC Pg 64 3 3 := ⟨fun _ _ w => fa_page_Page_Right w⟩
theorem fa_page_Page_High {b o : Nat} (w : World) : (Instr.fieldAt T.page_Page (.pointer (some ⟨b, o, none⟩)) 4).run Pg w = .ok (.pointer (some ⟨b, o + 4, none⟩)) w := fieldAt_of (ty := 9) (n := 1) (by kernel_rfl) (fun _ => by kernel_rfl) (by kernel_rfl) w
instance : FieldC Pg 64 4 4 := ⟨fun _ _ w => fa_page_Page_High w⟩
theorem fa_page_Page_Entries {b o : Nat} (w : World) : (Instr.fieldAt T.page_Page (.pointer (some ⟨b, o, none⟩)) 5).run Pg w = .ok (.pointer (some ⟨b, o + 5, none⟩)) w := fieldAt_of (ty := 62) (n := 1) (by kernel_rfl) (fun _ => by kernel_rfl) (by kernel_rfl) w
instance : FieldC Pg 64 5 5 := ⟨fun _ _ w => fa_page_Page_Entries w⟩
theorem pl_fn_65 : Plain Pg T.fn_65 := ⟨fun _ => by kernel_rfl, fun _ => by kernel_rfl⟩
instance : PlainC Pg 65 := ⟨pl_fn_65⟩
instance : FuncC Pg 65 := ⟨by kernel_rfl⟩
theorem z_fn_65 (w : World) : (zeroValue T.fn_65).run Pg w = .ok .nilFunc w := by kernel_rfl
instance : ZeroC Pg 65 .nilFunc := ⟨z_fn_65⟩
theorem pl_fn_66 : Plain Pg T.fn_66 := ⟨fun _ => by kernel_rfl, fun _ => by kernel_rfl⟩
instance : PlainC Pg 66 := ⟨pl_fn_66⟩
instance : FuncC Pg 66 := ⟨by kernel_rfl⟩
theorem z_fn_66 (w : World) : (zeroValue T.fn_66).run Pg w = .ok .nilFunc w := by kernel_rfl
instance : ZeroC Pg 66 .nilFunc := ⟨z_fn_66⟩
theorem pl_fn_68 : Plain Pg T.fn_68 := ⟨fun _ => by kernel_rfl, fun _ => by kernel_rfl⟩
instance : PlainC Pg 68 := ⟨pl_fn_68⟩
instance : FuncC Pg 68 := ⟨by kernel_rfl⟩
theorem z_fn_68 (w : World) : (zeroValue T.fn_68).run Pg w = .ok .nilFunc w := by kernel_rfl
instance : ZeroC Pg 68 .nilFunc := ⟨z_fn_68⟩
theorem pl_fn_69 : Plain Pg T.fn_69 := ⟨fun _ => by kernel_rfl, fun _ => by kernel_rfl⟩
instance : PlainC Pg 69 := ⟨pl_fn_69⟩
instance : FuncC Pg 69 := ⟨by kernel_rfl⟩
theorem z_fn_69 (w : World) : (zeroValue T.fn_69).run Pg w = .ok .nilFunc w := by kernel_rfl
instance : ZeroC Pg 69 .nilFunc := ⟨z_fn_69⟩
theorem pl_fn_70 : Plain Pg T.fn_70 := ⟨fun _ => by kernel_rfl, fun _ => by kernel_rfl⟩
instance : PlainC Pg 70 := ⟨pl_fn_70⟩
instance : FuncC Pg 70 := ⟨by kernel_rfl⟩
theorem z_fn_70 (w : World) : (zeroValue T.fn_70).run Pg w = .ok .nilFunc w := by kernel_rfl
instance : ZeroC Pg 70 .nilFunc := ⟨z_fn_70⟩
theorem pl_m_i64_string : Plain Pg T.m_i64_string := ⟨fun _ => by kernel_rfl, fun _ => by kernel_rfl⟩
instance : PlainC Pg 71 := ⟨pl_m_i64_string⟩
theorem u_m_i64_string : Pg.underlying T.m_i64_string = some (.map 3 9) := by kernel_rfl
instance : MapC Pg 71 3 9 := ⟨u_m_i64_string⟩
theorem z_m_i64_string (w : World) : (zeroValue T.m_i64_string).run Pg w = .ok (.map none) w := by kernel_rfl
instance : ZeroC Pg 71 (.map none) := ⟨z_m_i64_string⟩
theorem pl_s_device_write : Plain Pg T.s_device_write := ⟨fun _ => by kernel_rfl, fun _ => by kernel_rfl⟩
instance : PlainC Pg 72 := ⟨pl_s_device_write⟩
theorem sl_s_device_write : SliceT Pg T.s_device_write 100 2 := ⟨by kernel_rfl, fun _ => by kernel_rfl⟩
instance : SliceC Pg 72 100 2 := ⟨sl_s_device_write⟩
theorem el_device_write : El Pg 100 2 24 (.agg #[(.int .i64 0), (str [])]) := ⟨by kernel_rfl, by kernel_rfl⟩
instance : ElC Pg 100 2 24 (.agg #[(.int .i64 0), (str [])]) := ⟨el_device_write⟩
theorem z_s_device_write (w : World) : (zeroValue T.s_device_write).run Pg w = .ok (.slice none 0 0) w := by kernel_rfl
instance : ZeroC Pg 72 (.slice none 0 0) := ⟨z_s_device_write⟩
theorem ag_st_73 : Agg Pg T.st_73 7 := ⟨fun _ => by kernel_rfl, fun _ => by kernel_rfl⟩
instance : AggC Pg 73 7 := ⟨ag_st_73⟩
theorem z_st_73 (w : World) : (zeroValue T.st_73).run Pg w = .ok (.agg #[(.int .i64 0), (.map none), (.slice none 0 0), (.bool false), (.int .i64 0), (.slice none 0 0), (.int .i64 0)]) w := by kernel_rfl
instance : ZeroC Pg 73 (.agg #[(.int .i64 0), (.map none), (.slice none 0 0), (.bool false), (.int .i64 0), (.slice none 0 0), (.int .i64 0)]) := ⟨z_st_73⟩
theorem fa_st_73_size {b o : Nat} (w : World) : (Instr.fieldAt T.st_73 (.pointer (some ⟨b, o, none⟩)) 0).run Pg w = .ok (.pointer (some ⟨b, o + 0, none⟩)) w := fieldAt_of (ty := 3) (n := 1) (by kernel_rfl) (fun _ => by kernel_rfl) (by kernel_rfl) w
instance : FieldC Pg 73 0 0 := ⟨fun _ _ w => fa_st_73_size w⟩
theorem fa_st_73_lasting {b o : Nat} (w : World) : (Instr.fieldAt T.st_73 (.pointer (some ⟨b, o, none⟩)) 1).run Pg w = .ok (.pointer (some ⟨b, o + 1, none⟩)) w := fieldAt_of (ty := 71) (n := 1) (by kernel_rfl) (fun _ => by kernel_rfl) (by kernel_rfl) w
instance : FieldC Pg 73 1 1 := ⟨fun _ _ w => fa_st_73_lasting w⟩
theorem fa_st_73_waiting {b o : Nat} (w : World) : (Instr.fieldAt T.st_73 (.pointer (some ⟨b, o, none⟩)) 2).run Pg w = .ok (.pointer (some ⟨b, o + 2, none⟩)) w := fieldAt_of (ty := 72) (n := 1) (by kernel_rfl) (fun _ => by kernel_rfl) (by kernel_rfl) w
instance : FieldC Pg 73 2 2 := ⟨fun _ _ w => fa_st_73_waiting w⟩
theorem fa_st_73_off {b o : Nat} (w : World) : (Instr.fieldAt T.st_73 (.pointer (some ⟨b, o, none⟩)) 3).run Pg w = .ok (.pointer (some ⟨b, o + 3, none⟩)) w := fieldAt_of (ty := 4) (n := 1) (by kernel_rfl) (fun _ => by kernel_rfl) (by kernel_rfl) w
instance : FieldC Pg 73 3 3 := ⟨fun _ _ w => fa_st_73_off w⟩
theorem fa_st_73_fuse {b o : Nat} (w : World) : (Instr.fieldAt T.st_73 (.pointer (some ⟨b, o, none⟩)) 4).run Pg w = .ok (.pointer (some ⟨b, o + 4, none⟩)) w := fieldAt_of (ty := 3) (n := 1) (by kernel_rfl) (fun _ => by kernel_rfl) (by kernel_rfl) w
instance : FieldC Pg 73 4 4 := ⟨fun _ _ w => fa_st_73_fuse w⟩
theorem fa_st_73_keep {b o : Nat} (w : World) : (Instr.fieldAt T.st_73 (.pointer (some ⟨b, o, none⟩)) 5).run Pg w = .ok (.pointer (some ⟨b, o + 5, none⟩)) w := fieldAt_of (ty := 22) (n := 1) (by kernel_rfl) (fun _ => by kernel_rfl) (by kernel_rfl) w
instance : FieldC Pg 73 5 5 := ⟨fun _ _ w => fa_st_73_keep w⟩
theorem fa_st_73_commands {b o : Nat} (w : World) : (Instr.fieldAt T.st_73 (.pointer (some ⟨b, o, none⟩)) 6).run Pg w = .ok (.pointer (some ⟨b, o + 6, none⟩)) w := fieldAt_of (ty := 3) (n := 1) (by kernel_rfl) (fun _ => by kernel_rfl) (by kernel_rfl) w
instance : FieldC Pg 73 6 6 := ⟨fun _ _ w => fa_st_73_commands w⟩
theorem ag_device_Device : Agg Pg T.device_Device 7 := ⟨fun _ => by kernel_rfl, fun _ => by kernel_rfl⟩
instance : AggC Pg 74 7 := ⟨ag_device_Device⟩
theorem z_device_Device (w : World) : (zeroValue T.device_Device).run Pg w = .ok (.agg #[(.int .i64 0), (.map none), (.slice none 0 0), (.bool false), (.int .i64 0), (.slice none 0 0), (.int .i64 0)]) w := by kernel_rfl
instance : ZeroC Pg 74 (.agg #[(.int .i64 0), (.map none), (.slice none 0 0), (.bool false), (.int .i64 0), (.slice none 0 0), (.int .i64 0)]) := ⟨z_device_Device⟩
theorem fa_device_Device_size {b o : Nat} (w : World) : (Instr.fieldAt T.device_Device (.pointer (some ⟨b, o, none⟩)) 0).run Pg w = .ok (.pointer (some ⟨b, o + 0, none⟩)) w := fieldAt_of (ty := 3) (n := 1) (by kernel_rfl) (fun _ => by kernel_rfl) (by kernel_rfl) w
instance : FieldC Pg 74 0 0 := ⟨fun _ _ w => fa_device_Device_size w⟩
theorem fa_device_Device_lasting {b o : Nat} (w : World) : (Instr.fieldAt T.device_Device (.pointer (some ⟨b, o, none⟩)) 1).run Pg w = .ok (.pointer (some ⟨b, o + 1, none⟩)) w := fieldAt_of (ty := 71) (n := 1) (by kernel_rfl) (fun _ => by kernel_rfl) (by kernel_rfl) w
instance : FieldC Pg 74 1 1 := ⟨fun _ _ w => fa_device_Device_lasting w⟩
theorem fa_device_Device_waiting {b o : Nat} (w : World) : (Instr.fieldAt T.device_Device (.pointer (some ⟨b, o, none⟩)) 2).run Pg w = .ok (.pointer (some ⟨b, o + 2, none⟩)) w := fieldAt_of (ty := 72) (n := 1) (by kernel_rfl) (fun _ => by kernel_rfl) (by kernel_rfl) w
instance : FieldC Pg 74 2 2 := ⟨fun _ _ w => fa_device_Device_waiting w⟩
theorem fa_device_Device_off {b o : Nat} (w : World) : (Instr.fieldAt T.device_Device (.pointer (some ⟨b, o, none⟩)) 3).run Pg w = .ok (.pointer (some ⟨b, o + 3, none⟩)) w := fieldAt_of (ty := 4) (n := 1) (by kernel_rfl) (fun _ => by kernel_rfl) (by kernel_rfl) w
instance : FieldC Pg 74 3 3 := ⟨fun _ _ w => fa_device_Device_off w⟩
theorem fa_device_Device_fuse {b o : Nat} (w : World) : (Instr.fieldAt T.device_Device (.pointer (some ⟨b, o, none⟩)) 4).run Pg w = .ok (.pointer (some ⟨b, o + 4, none⟩)) w := fieldAt_of (ty := 3) (n := 1) (by kernel_rfl) (fun _ => by kernel_rfl) (by kernel_rfl) w
instance : FieldC Pg 74 4 4 := ⟨fun _ _ w => fa_device_Device_fuse w⟩
theorem fa_device_Device_keep {b o : Nat} (w : World) : (Instr.fieldAt T.device_Device (.pointer (some ⟨b, o, none⟩)) 5).run Pg w = .ok (.pointer (some ⟨b, o + 5, none⟩)) w := fieldAt_of (ty := 22) (n := 1) (by kernel_rfl) (fun _ => by kernel_rfl) (by kernel_rfl) w
instance : FieldC Pg 74 5 5 := ⟨fun _ _ w => fa_device_Device_keep w⟩
theorem fa_device_Device_commands {b o : Nat} (w : World) : (Instr.fieldAt T.device_Device (.pointer (some ⟨b, o, none⟩)) 6).run Pg w = .ok (.pointer (some ⟨b, o + 6, none⟩)) w := fieldAt_of (ty := 3) (n := 1) (by kernel_rfl) (fun _ => by kernel_rfl) (by kernel_rfl) w
instance : FieldC Pg 74 6 6 := ⟨fun _ _ w => fa_device_Device_commands w⟩
theorem pl_fn_75 : Plain Pg T.fn_75 := ⟨fun _ => by kernel_rfl, fun _ => by kernel_rfl⟩
instance : PlainC Pg 75 := ⟨pl_fn_75⟩
instance : FuncC Pg 75 := ⟨by kernel_rfl⟩
theorem z_fn_75 (w : World) : (zeroValue T.fn_75).run Pg w = .ok .nilFunc w := by kernel_rfl
instance : ZeroC Pg 75 .nilFunc := ⟨z_fn_75⟩
theorem ag_st_76 : Agg Pg T.st_76 5 := ⟨fun _ => by kernel_rfl, fun _ => by kernel_rfl⟩
instance : AggC Pg 76 5 := ⟨ag_st_76⟩
theorem z_st_76 (w : World) : (zeroValue T.st_76).run Pg w = .ok (.agg #[(.pointer none), (.int .i64 0), (.int .i64 0), (.int .i64 0), (.int .i64 0)]) w := by kernel_rfl
instance : ZeroC Pg 76 (.agg #[(.pointer none), (.int .i64 0), (.int .i64 0), (.int .i64 0), (.int .i64 0)]) := ⟨z_st_76⟩
theorem fa_st_76_d {b o : Nat} (w : World) : (Instr.fieldAt T.st_76 (.pointer (some ⟨b, o, none⟩)) 0).run Pg w = .ok (.pointer (some ⟨b, o + 0, none⟩)) w := fieldAt_of (ty := 24) (n := 1) (by kernel_rfl) (fun _ => by kernel_rfl) (by kernel_rfl) w
instance : FieldC Pg 76 0 0 := ⟨fun _ _ w => fa_st_76_d w⟩
theorem fa_st_76_at {b o : Nat} (w : World) : (Instr.fieldAt T.st_76 (.pointer (some ⟨b, o, none⟩)) 1).run Pg w = .ok (.pointer (some ⟨b, o + 1, none⟩)) w := fieldAt_of (ty := 3) (n := 1) (by kernel_rfl) (fun _ => by kernel_rfl) (by kernel_rfl) w
instance : FieldC Pg 76 1 1 := ⟨fun _ _ w => fa_st_76_at w⟩
theorem fa_st_76_slots {b o : Nat} (w : World) : (Instr.fieldAt T.st_76 (.pointer (some ⟨b, o, none⟩)) 2).run Pg w = .ok (.pointer (some ⟨b, o + 2, none⟩)) w := fieldAt_of (ty := 3) (n := 1) (by kernel_rfl) (fun _ => by kernel_rfl) (by kernel_rfl) w
instance : FieldC Pg 76 2 2 := ⟨fun _ _ w => fa_st_76_slots w⟩
theorem fa_st_76_from {b o : Nat} (w : World) : (Instr.fieldAt T.st_76 (.pointer (some ⟨b, o, none⟩)) 3).run Pg w = .ok (.pointer (some ⟨b, o + 3, none⟩)) w := fieldAt_of (ty := 3) (n := 1) (by kernel_rfl) (fun _ => by kernel_rfl) (by kernel_rfl) w
instance : FieldC Pg 76 3 3 := ⟨fun _ _ w => fa_st_76_from w⟩
theorem fa_st_76_pages {b o : Nat} (w : World) : (Instr.fieldAt T.st_76 (.pointer (some ⟨b, o, none⟩)) 4).run Pg w = .ok (.pointer (some ⟨b, o + 4, none⟩)) w := fieldAt_of (ty := 3) (n := 1) (by kernel_rfl) (fun _ => by kernel_rfl) (by kernel_rfl) w
instance : FieldC Pg 76 4 4 := ⟨fun _ _ w => fa_st_76_pages w⟩
theorem ag_twin_Area : Agg Pg T.twin_Area 5 := ⟨fun _ => by kernel_rfl, fun _ => by kernel_rfl⟩
instance : AggC Pg 77 5 := ⟨ag_twin_Area⟩
theorem z_twin_Area (w : World) : (zeroValue T.twin_Area).run Pg w = .ok (.agg #[(.pointer none), (.int .i64 0), (.int .i64 0), (.int .i64 0), (.int .i64 0)]) w := by kernel_rfl
instance : ZeroC Pg 77 (.agg #[(.pointer none), (.int .i64 0), (.int .i64 0), (.int .i64 0), (.int .i64 0)]) := ⟨z_twin_Area⟩
theorem fa_twin_Area_d {b o : Nat} (w : World) : (Instr.fieldAt T.twin_Area (.pointer (some ⟨b, o, none⟩)) 0).run Pg w = .ok (.pointer (some ⟨b, o + 0, none⟩)) w := fieldAt_of (ty := 24) (n := 1) (by kernel_rfl) (fun _ => by kernel_rfl) (by kernel_rfl) w
instance : FieldC Pg 77 0 0 := ⟨fun _ _ w => fa_twin_Area_d w⟩
theorem fa_twin_Area_at {b o : Nat} (w : World) : (Instr.fieldAt T.twin_Area (.pointer (some ⟨b, o, none⟩)) 1).run Pg w = .ok (.pointer (some ⟨b, o + 1, none⟩)) w := fieldAt_of (ty := 3) (n := 1) (by kernel_rfl) (fun _ => by kernel_rfl) (by kernel_rfl) w
instance : FieldC Pg 77 1 1 := ⟨fun _ _ w => fa_twin_Area_at w⟩
theorem fa_twin_Area_slots {b o : Nat} (w : World) : (Instr.fieldAt T.twin_Area (.pointer (some ⟨b, o, none⟩)) 2).run Pg w = .ok (.pointer (some ⟨b, o + 2, none⟩)) w := fieldAt_of (ty := 3) (n := 1) (by kernel_rfl) (fun _ => by kernel_rfl) (by kernel_rfl) w
instance : FieldC Pg 77 2 2 := ⟨fun _ _ w => fa_twin_Area_slots w⟩
theorem fa_twin_Area_from {b o : Nat} (w : World) : (Instr.fieldAt T.twin_Area (.pointer (some ⟨b, o, none⟩)) 3).run Pg w = .ok (.pointer (some ⟨b, o + 3, none⟩)) w := fieldAt_of (ty := 3) (n := 1) (by kernel_rfl) (fun _ => by kernel_rfl) (by kernel_rfl) w
instance : FieldC Pg 77 3 3 := ⟨fun _ _ w => fa_twin_Area_from w⟩
theorem fa_twin_Area_pages {b o : Nat} (w : World) : (Instr.fieldAt T.twin_Area (.pointer (some ⟨b, o, none⟩)) 4).run Pg w = .ok (.pointer (some ⟨b, o + 4, none⟩)) w := fieldAt_of (ty := 3) (n := 1) (by kernel_rfl) (fun _ => by kernel_rfl) (by kernel_rfl) w
instance : FieldC Pg 77 4 4 := ⟨fun _ _ w => fa_twin_Area_pages w⟩
theorem pl_s_order_pair_int_pool_frame : Plain Pg T.s_order_pair_int_pool_frame := ⟨fun _ => by kernel_rfl, fun _ => by kernel_rfl⟩
instance : PlainC Pg 78 := ⟨pl_s_order_pair_int_pool_frame⟩
theorem sl_s_order_pair_int_pool_frame : SliceT Pg T.s_order_pair_int_pool_frame 118 2 := ⟨by kernel_rfl, fun _ => by kernel_rfl⟩
instance : SliceC Pg 78 118 2 := ⟨sl_s_order_pair_int_pool_frame⟩
theorem el_order_pair_int_pool_frame : El Pg 118 2 16 (.agg #[(.int .i64 0), (.pointer none)]) := ⟨by kernel_rfl, by kernel_rfl⟩
instance : ElC Pg 118 2 16 (.agg #[(.int .i64 0), (.pointer none)]) := ⟨el_order_pair_int_pool_frame⟩
theorem z_s_order_pair_int_pool_frame (w : World) : (zeroValue T.s_order_pair_int_pool_frame).run Pg w = .ok (.slice none 0 0) w := by kernel_rfl
instance : ZeroC Pg 78 (.slice none 0 0) := ⟨z_s_order_pair_int_pool_frame⟩
theorem ag_st_79 : Agg Pg T.st_79 1 := ⟨fun _ => by kernel_rfl, fun _ => by kernel_rfl⟩
instance : AggC Pg 79 1 := ⟨ag_st_79⟩
theorem z_st_79 (w : World) : (zeroValue T.st_79).run Pg w = .ok (.agg #[(.slice none 0 0)]) w := by kernel_rfl
instance : ZeroC Pg 79 (.agg #[(.slice none 0 0)]) := ⟨z_st_79⟩
theorem fa_st_79_pairs {b o : Nat} (w : World) : (Instr.fieldAt T.st_79 (.pointer (some ⟨b, o, none⟩)) 0).run Pg w = .ok (.pointer (some ⟨b, o + 0, none⟩)) w := fieldAt_of (ty := 78) (n := 1) (by kernel_rfl) (fun _ => by kernel_rfl) (by kernel_rfl) w
instance : FieldC Pg 79 0 0 := ⟨fun _ _ w => fa_st_79_pairs w⟩
theorem ag_order_Map_int_pool_frame : Agg Pg T.order_Map_int_pool_frame 1 := ⟨fun _ => by kernel_rfl, fun _ => by kernel_rfl⟩
instance : AggC Pg 80 1 := ⟨ag_order_Map_int_pool_frame⟩
theorem z_order_Map_int_pool_frame (w : World) : (zeroValue T.order_Map_int_pool_frame).run Pg w = .ok (.agg #[(.slice none 0 0)]) w := by kernel_rfl
instance : ZeroC Pg 80 (.agg #[(.slice none 0 0)]) := ⟨z_order_Map_int_pool_frame⟩
theorem fa_order_Map_int_pool_frame_pairs {b o : Nat} (w : World) : (Instr.fieldAt T.order_Map_int_pool_frame (.pointer (some ⟨b, o, none⟩)) 0).run Pg w = .ok (.pointer (some ⟨b, o + 0, none⟩)) w := fieldAt_of (ty := 78) (n := 1) (by kernel_rfl) (fun _ => by kernel_rfl) (by kernel_rfl) w
instance : FieldC Pg 80 0 0 := ⟨fun _ _ w => fa_order_Map_int_pool_frame_pairs w⟩
theorem ag_st_81 : Agg Pg T.st_81 1 := ⟨fun _ => by kernel_rfl, fun _ => by kernel_rfl⟩
instance : AggC Pg 81 1 := ⟨ag_st_81⟩
theorem z_st_81 (w : World) : (zeroValue T.st_81).run Pg w = .ok (.agg #[(.slice none 0 0)]) w := by kernel_rfl
instance : ZeroC Pg 81 (.agg #[(.slice none 0 0)]) := ⟨z_st_81⟩
theorem fa_st_81_list {b o : Nat} (w : World) : (Instr.fieldAt T.st_81 (.pointer (some ⟨b, o, none⟩)) 0).run Pg w = .ok (.pointer (some ⟨b, o + 0, none⟩)) w := fieldAt_of (ty := 22) (n := 1) (by kernel_rfl) (fun _ => by kernel_rfl) (by kernel_rfl) w
instance : FieldC Pg 81 0 0 := ⟨fun _ _ w => fa_st_81_list w⟩
theorem ag_order_Recent_int : Agg Pg T.order_Recent_int 1 := ⟨fun _ => by kernel_rfl, fun _ => by kernel_rfl⟩
instance : AggC Pg 82 1 := ⟨ag_order_Recent_int⟩
theorem z_order_Recent_int (w : World) : (zeroValue T.order_Recent_int).run Pg w = .ok (.agg #[(.slice none 0 0)]) w := by kernel_rfl
instance : ZeroC Pg 82 (.agg #[(.slice none 0 0)]) := ⟨z_order_Recent_int⟩
theorem fa_order_Recent_int_list {b o : Nat} (w : World) : (Instr.fieldAt T.order_Recent_int (.pointer (some ⟨b, o, none⟩)) 0).run Pg w = .ok (.pointer (some ⟨b, o + 0, none⟩)) w := fieldAt_of (ty := 22) (n := 1) (by kernel_rfl) (fun _ => by kernel_rfl) (by kernel_rfl) w
instance : FieldC Pg 82 0 0 := ⟨fun _ _ w => fa_order_Recent_int_list w⟩
theorem ag_st_83 : Agg Pg T.st_83 5 := ⟨fun _ => by kernel_rfl, fun _ => by kernel_rfl⟩
instance : AggC Pg 83 5 := ⟨ag_st_83⟩
theorem z_st_83 (w : World) : (zeroValue T.st_83).run Pg w = .ok (.agg #[(.pointer none), (.int .i64 0), .nilFunc, (.slice none 0 0), (.slice none 0 0)]) w := by kernel_rfl
instance : ZeroC Pg 83 (.agg #[(.pointer none), (.int .i64 0), .nilFunc, (.slice none 0 0), (.slice none 0 0)]) := ⟨z_st_83⟩
theorem fa_st_83_area {b o : Nat} (w : World) : (Instr.fieldAt T.st_83 (.pointer (some ⟨b, o, none⟩)) 0).run Pg w = .ok (.pointer (some ⟨b, o + 0, none⟩)) w := fieldAt_of (ty := 28) (n := 1) (by kernel_rfl) (fun _ => by kernel_rfl) (by kernel_rfl) w
instance : FieldC Pg 83 0 0 := ⟨fun _ _ w => fa_st_83_area w⟩
theorem fa_st_83_frames {b o : Nat} (w : World) : (Instr.fieldAt T.st_83 (.pointer (some ⟨b, o, none⟩)) 1).run Pg w = .ok (.pointer (some ⟨b, o + 1, none⟩)) w := fieldAt_of (ty := 3) (n := 1) (by kernel_rfl) (fun _ => by kernel_rfl) (by kernel_rfl) w
instance : FieldC Pg 83 1 1 := ⟨fun _ _ w => fa_st_83_frames w⟩
theorem fa_st_83_flush {b o : Nat} (w : World) : (Instr.fieldAt T.st_83 (.pointer (some ⟨b, o, none⟩)) 2).run Pg w = .ok (.pointer (some ⟨b, o + 2, none⟩)) w := fieldAt_of (ty := 34) (n := 1) (by kernel_rfl) (fun _ => by kernel_rfl) (by kernel_rfl) w
instance : FieldC Pg 83 2 2 := ⟨fun _ _ w => fa_st_83_flush w⟩
theorem fa_st_83_held {b o : Nat} (w : World) : (Instr.fieldAt T.st_83 (.pointer (some ⟨b, o, none⟩)) 3).run Pg w = .ok (.pointer (some ⟨b, o + 3, none⟩)) w := fieldAt_of (ty := 80) (n := 1) (by kernel_rfl) (fun _ => by kernel_rfl) (by kernel_rfl) w
instance : FieldC Pg 83 3 3 := ⟨fun _ _ w => fa_st_83_held w⟩
theorem fa_st_83_used {b o : Nat} (w : World) : (Instr.fieldAt T.st_83 (.pointer (some ⟨b, o, none⟩)) 4).run Pg w = .ok (.pointer (some ⟨b, o + 4, none⟩)) w := fieldAt_of (ty := 82) (n := 1) (by kernel_rfl) (fun _ => by kernel_rfl) (by kernel_rfl) w
instance : FieldC Pg 83 4 4 := ⟨fun _ _ w => fa_st_83_used w⟩
theorem ag_pool_Pool : Agg Pg T.pool_Pool 5 := ⟨fun _ => by kernel_rfl, fun _ => by kernel_rfl⟩
instance : AggC Pg 84 5 := ⟨ag_pool_Pool⟩
theorem z_pool_Pool (w : World) : (zeroValue T.pool_Pool).run Pg w = .ok (.agg #[(.pointer none), (.int .i64 0), .nilFunc, (.slice none 0 0), (.slice none 0 0)]) w := by kernel_rfl
instance : ZeroC Pg 84 (.agg #[(.pointer none), (.int .i64 0), .nilFunc, (.slice none 0 0), (.slice none 0 0)]) := ⟨z_pool_Pool⟩
theorem fa_pool_Pool_area {b o : Nat} (w : World) : (Instr.fieldAt T.pool_Pool (.pointer (some ⟨b, o, none⟩)) 0).run Pg w = .ok (.pointer (some ⟨b, o + 0, none⟩)) w := fieldAt_of (ty := 28) (n := 1) (by kernel_rfl) (fun _ => by kernel_rfl) (by kernel_rfl) w
instance : FieldC Pg 84 0 0 := ⟨fun _ _ w => fa_pool_Pool_area w⟩
theorem fa_pool_Pool_frames {b o : Nat} (w : World) : (Instr.fieldAt T.pool_Pool (.pointer (some ⟨b, o, none⟩)) 1).run Pg w = .ok (.pointer (some ⟨b, o + 1, none⟩)) w := fieldAt_of (ty := 3) (n := 1) (by kernel_rfl) (fun _ => by kernel_rfl) (by kernel_rfl) w
instance : FieldC Pg 84 1 1 := ⟨fun _ _ w => fa_pool_Pool_frames w⟩
theorem fa_pool_Pool_flush {b o : Nat} (w : World) : (Instr.fieldAt T.pool_Pool (.pointer (some ⟨b, o, none⟩)) 2).run Pg w = .ok (.pointer (some ⟨b, o + 2, none⟩)) w := fieldAt_of (ty := 34) (n := 1) (by kernel_rfl) (fun _ => by kernel_rfl) (by kernel_rfl) w
instance : FieldC Pg 84 2 2 := ⟨fun _ _ w => fa_pool_Pool_flush w⟩
theorem fa_pool_Pool_held {b o : Nat} (w : World) : (Instr.fieldAt T.pool_Pool (.pointer (some ⟨b, o, none⟩)) 3).run Pg w = .ok (.pointer (some ⟨b, o + 3, none⟩)) w := fieldAt_of (ty := 80) (n := 1) (by kernel_rfl) (fun _ => by kernel_rfl) (by kernel_rfl) w
instance : FieldC Pg 84 3 3 := ⟨fun _ _ w => fa_pool_Pool_held w⟩
theorem fa_pool_Pool_used {b o : Nat} (w : World) : (Instr.fieldAt T.pool_Pool (.pointer (some ⟨b, o, none⟩)) 4).run Pg w = .ok (.pointer (some ⟨b, o + 4, none⟩)) w := fieldAt_of (ty := 82) (n := 1) (by kernel_rfl) (fun _ => by kernel_rfl) (by kernel_rfl) w
instance : FieldC Pg 84 4 4 := ⟨fun _ _ w => fa_pool_Pool_used w⟩
theorem pl_p_pool_frame : Plain Pg T.p_pool_frame := ⟨fun _ => by kernel_rfl, fun _ => by kernel_rfl⟩
instance : PlainC Pg 85 := ⟨pl_p_pool_frame⟩
instance : PtrC Pg 85 := ⟨by kernel_rfl⟩
theorem z_p_pool_frame (w : World) : (zeroValue T.p_pool_frame).run Pg w = .ok (.pointer none) w := by kernel_rfl
instance : ZeroC Pg 85 (.pointer none) := ⟨z_p_pool_frame⟩
theorem pl_fn_87 : Plain Pg T.fn_87 := ⟨fun _ => by kernel_rfl, fun _ => by kernel_rfl⟩
instance : PlainC Pg 87 := ⟨pl_fn_87⟩
instance : FuncC Pg 87 := ⟨by kernel_rfl⟩
theorem z_fn_87 (w : World) : (zeroValue T.fn_87).run Pg w = .ok .nilFunc w := by kernel_rfl
instance : ZeroC Pg 87 .nilFunc := ⟨z_fn_87⟩
theorem pl_fn_88 : Plain Pg T.fn_88 := ⟨fun _ => by kernel_rfl, fun _ => by kernel_rfl⟩
instance : PlainC Pg 88 := ⟨pl_fn_88⟩
instance : FuncC Pg 88 := ⟨by kernel_rfl⟩
theorem z_fn_88 (w : World) : (zeroValue T.fn_88).run Pg w = .ok .nilFunc w := by kernel_rfl
instance : ZeroC Pg 88 .nilFunc := ⟨z_fn_88⟩
theorem ag_st_89 : Agg Pg T.st_89 3 := ⟨fun _ => by kernel_rfl, fun _ => by kernel_rfl⟩
instance : AggC Pg 89 3 := ⟨ag_st_89⟩
theorem z_st_89 (w : World) : (zeroValue T.st_89).run Pg w = .ok (.agg #[(str []), (.int .i64 0), (.bool false)]) w := by kernel_rfl
instance : ZeroC Pg 89 (.agg #[(str []), (.int .i64 0), (.bool false)]) := ⟨z_st_89⟩
theorem fa_st_89_bytes {b o : Nat} (w : World) : (Instr.fieldAt T.st_89 (.pointer (some ⟨b, o, none⟩)) 0).run Pg w = .ok (.pointer (some ⟨b, o + 0, none⟩)) w := fieldAt_of (ty := 9) (n := 1) (by kernel_rfl) (fun _ => by kernel_rfl) (by kernel_rfl) w
instance : FieldC Pg 89 0 0 := ⟨fun _ _ w => fa_st_89_bytes w⟩
theorem fa_st_89_pins {b o : Nat} (w : World) : (Instr.fieldAt T.st_89 (.pointer (some ⟨b, o, none⟩)) 1).run Pg w = .ok (.pointer (some ⟨b, o + 1, none⟩)) w := fieldAt_of (ty := 3) (n := 1) (by kernel_rfl) (fun _ => by kernel_rfl) (by kernel_rfl) w
instance : FieldC Pg 89 1 1 := ⟨fun _ _ w => fa_st_89_pins w⟩
theorem fa_st_89_dirty {b o : Nat} (w : World) : (Instr.fieldAt T.st_89 (.pointer (some ⟨b, o, none⟩)) 2).run Pg w = .ok (.pointer (some ⟨b, o + 2, none⟩)) w := fieldAt_of (ty := 4) (n := 1) (by kernel_rfl) (fun _ => by kernel_rfl) (by kernel_rfl) w
instance : FieldC Pg 89 2 2 := ⟨fun _ _ w => fa_st_89_dirty w⟩
theorem ag_pool_frame : Agg Pg T.pool_frame 3 := ⟨fun _ => by kernel_rfl, fun _ => by kernel_rfl⟩
instance : AggC Pg 90 3 := ⟨ag_pool_frame⟩
theorem z_pool_frame (w : World) : (zeroValue T.pool_frame).run Pg w = .ok (.agg #[(str []), (.int .i64 0), (.bool false)]) w := by kernel_rfl
instance : ZeroC Pg 90 (.agg #[(str []), (.int .i64 0), (.bool false)]) := ⟨z_pool_frame⟩
theorem fa_pool_frame_bytes {b o : Nat} (w : World) : (Instr.fieldAt T.pool_frame (.pointer (some ⟨b, o, none⟩)) 0).run Pg w = .ok (.pointer (some ⟨b, o + 0, none⟩)) w := fieldAt_of (ty := 9) (n := 1) (by kernel_rfl) (fun _ => by kernel_rfl) (by kernel_rfl) w
instance : FieldC Pg 90 0 0 := ⟨fun _ _ w => fa_pool_frame_bytes w⟩
theorem fa_pool_frame_pins {b o : Nat} (w : World) : (Instr.fieldAt T.pool_frame (.pointer (some ⟨b, o, none⟩)) 1).run Pg w = .ok (.pointer (some ⟨b, o + 1, none⟩)) w := fieldAt_of (ty := 3) (n := 1) (by kernel_rfl) (fun _ => by kernel_rfl) (by kernel_rfl) w
instance : FieldC Pg 90 1 1 := ⟨fun _ _ w => fa_pool_frame_pins w⟩
theorem fa_pool_frame_dirty {b o : Nat} (w : World) : (Instr.fieldAt T.pool_frame (.pointer (some ⟨b, o, none⟩)) 2).run Pg w = .ok (.pointer (some ⟨b, o + 2, none⟩)) w := fieldAt_of (ty := 4) (n := 1) (by kernel_rfl) (fun _ => by kernel_rfl) (by kernel_rfl) w
instance : FieldC Pg 90 2 2 := ⟨fun _ _ w => fa_pool_frame_dirty w⟩
theorem pl_fn_91 : Plain Pg T.fn_91 := ⟨fun _ => by kernel_rfl, fun _ => by kernel_rfl⟩
instance : PlainC Pg 91 := ⟨pl_fn_91⟩
instance : FuncC Pg 91 := ⟨by kernel_rfl⟩
theorem z_fn_91 (w : World) : (zeroValue T.fn_91).run Pg w = .ok .nilFunc w := by kernel_rfl
instance : ZeroC Pg 91 .nilFunc := ⟨z_fn_91⟩
theorem pl_fn_92 : Plain Pg T.fn_92 := ⟨fun _ => by kernel_rfl, fun _ => by kernel_rfl⟩
instance : PlainC Pg 92 := ⟨pl_fn_92⟩
instance : FuncC Pg 92 := ⟨by kernel_rfl⟩
theorem z_fn_92 (w : World) : (zeroValue T.fn_92).run Pg w = .ok .nilFunc w := by kernel_rfl
instance : ZeroC Pg 92 .nilFunc := ⟨z_fn_92⟩
theorem pl_fn_94 : Plain Pg T.fn_94 := ⟨fun _ => by kernel_rfl, fun _ => by kernel_rfl⟩
instance : PlainC Pg 94 := ⟨pl_fn_94⟩
instance : FuncC Pg 94 := ⟨by kernel_rfl⟩
theorem z_fn_94 (w : World) : (zeroValue T.fn_94).run Pg w = .ok .nilFunc w := by kernel_rfl
instance : ZeroC Pg 94 .nilFunc := ⟨z_fn_94⟩
theorem pl_fn_95 : Plain Pg T.fn_95 := ⟨fun _ => by kernel_rfl, fun _ => by kernel_rfl⟩
instance : PlainC Pg 95 := ⟨pl_fn_95⟩
instance : FuncC Pg 95 := ⟨by kernel_rfl⟩
theorem z_fn_95 (w : World) : (zeroValue T.fn_95).run Pg w = .ok .nilFunc w := by kernel_rfl
instance : ZeroC Pg 95 .nilFunc := ⟨z_fn_95⟩
theorem pl_fn_96 : Plain Pg T.fn_96 := ⟨fun _ => by kernel_rfl, fun _ => by kernel_rfl⟩
instance : PlainC Pg 96 := ⟨pl_fn_96⟩
instance : FuncC Pg 96 := ⟨by kernel_rfl⟩
theorem z_fn_96 (w : World) : (zeroValue T.fn_96).run Pg w = .ok .nilFunc w := by kernel_rfl
instance : ZeroC Pg 96 .nilFunc := ⟨z_fn_96⟩
theorem pl_fn_97 : Plain Pg T.fn_97 := ⟨fun _ => by kernel_rfl, fun _ => by kernel_rfl⟩
instance : PlainC Pg 97 := ⟨pl_fn_97⟩
instance : FuncC Pg 97 := ⟨by kernel_rfl⟩
theorem z_fn_97 (w : World) : (zeroValue T.fn_97).run Pg w = .ok .nilFunc w := by kernel_rfl
instance : ZeroC Pg 97 .nilFunc := ⟨z_fn_97⟩
theorem pl_fn_98 : Plain Pg T.fn_98 := ⟨fun _ => by kernel_rfl, fun _ => by kernel_rfl⟩
instance : PlainC Pg 98 := ⟨pl_fn_98⟩
instance : FuncC Pg 98 := ⟨by kernel_rfl⟩
theorem z_fn_98 (w : World) : (zeroValue T.fn_98).run Pg w = .ok .nilFunc w := by kernel_rfl
instance : ZeroC Pg 98 .nilFunc := ⟨z_fn_98⟩
theorem ag_st_99 : Agg Pg T.st_99 2 := ⟨fun _ => by kernel_rfl, fun _ => by kernel_rfl⟩
instance : AggC Pg 99 2 := ⟨ag_st_99⟩
theorem z_st_99 (w : World) : (zeroValue T.st_99).run Pg w = .ok (.agg #[(.int .i64 0), (str [])]) w := by kernel_rfl
instance : ZeroC Pg 99 (.agg #[(.int .i64 0), (str [])]) := ⟨z_st_99⟩
theorem fa_st_99_sector {b o : Nat} (w : World) : (Instr.fieldAt T.st_99 (.pointer (some ⟨b, o, none⟩)) 0).run Pg w = .ok (.pointer (some ⟨b, o + 0, none⟩)) w := fieldAt_of (ty := 3) (n := 1) (by kernel_rfl) (fun _ => by kernel_rfl) (by kernel_rfl) w
instance : FieldC Pg 99 0 0 := ⟨fun _ _ w => fa_st_99_sector w⟩
theorem fa_st_99_data {b o : Nat} (w : World) : (Instr.fieldAt T.st_99 (.pointer (some ⟨b, o, none⟩)) 1).run Pg w = .ok (.pointer (some ⟨b, o + 1, none⟩)) w := fieldAt_of (ty := 9) (n := 1) (by kernel_rfl) (fun _ => by kernel_rfl) (by kernel_rfl) w
instance : FieldC Pg 99 1 1 := ⟨fun _ _ w => fa_st_99_data w⟩
theorem ag_device_write : Agg Pg T.device_write 2 := ⟨fun _ => by kernel_rfl, fun _ => by kernel_rfl⟩
instance : AggC Pg 100 2 := ⟨ag_device_write⟩
theorem z_device_write (w : World) : (zeroValue T.device_write).run Pg w = .ok (.agg #[(.int .i64 0), (str [])]) w := by kernel_rfl
instance : ZeroC Pg 100 (.agg #[(.int .i64 0), (str [])]) := ⟨z_device_write⟩
theorem fa_device_write_sector {b o : Nat} (w : World) : (Instr.fieldAt T.device_write (.pointer (some ⟨b, o, none⟩)) 0).run Pg w = .ok (.pointer (some ⟨b, o + 0, none⟩)) w := fieldAt_of (ty := 3) (n := 1) (by kernel_rfl) (fun _ => by kernel_rfl) (by kernel_rfl) w
instance : FieldC Pg 100 0 0 := ⟨fun _ _ w => fa_device_write_sector w⟩
theorem fa_device_write_data {b o : Nat} (w : World) : (Instr.fieldAt T.device_write (.pointer (some ⟨b, o, none⟩)) 1).run Pg w = .ok (.pointer (some ⟨b, o + 1, none⟩)) w := fieldAt_of (ty := 9) (n := 1) (by kernel_rfl) (fun _ => by kernel_rfl) (by kernel_rfl) w
instance : FieldC Pg 100 1 1 := ⟨fun _ _ w => fa_device_write_data w⟩
theorem pl_fn_101 : Plain Pg T.fn_101 := ⟨fun _ => by kernel_rfl, fun _ => by kernel_rfl⟩
instance : PlainC Pg 101 := ⟨pl_fn_101⟩
instance : FuncC Pg 101 := ⟨by kernel_rfl⟩
theorem z_fn_101 (w : World) : (zeroValue T.fn_101).run Pg w = .ok .nilFunc w := by kernel_rfl
instance : ZeroC Pg 101 .nilFunc := ⟨z_fn_101⟩
theorem pl_fn_102 : Plain Pg T.fn_102 := ⟨fun _ => by kernel_rfl, fun _ => by kernel_rfl⟩
instance : PlainC Pg 102 := ⟨pl_fn_102⟩
instance : FuncC Pg 102 := ⟨by kernel_rfl⟩
theorem z_fn_102 (w : World) : (zeroValue T.fn_102).run Pg w = .ok .nilFunc w := by kernel_rfl
instance : ZeroC Pg 102 .nilFunc := ⟨z_fn_102⟩
theorem pl_p_strings_Builder : Plain Pg T.p_strings_Builder := ⟨fun _ => by kernel_rfl, fun _ => by kernel_rfl⟩
instance : PlainC Pg 103 := ⟨pl_p_strings_Builder⟩
instance : PtrC Pg 103 := ⟨by kernel_rfl⟩
theorem z_p_strings_Builder (w : World) : (zeroValue T.p_strings_Builder).run Pg w = .ok (.pointer none) w := by kernel_rfl
instance : ZeroC Pg 103 (.pointer none) := ⟨z_p_strings_Builder⟩
theorem ag_st_104 : Agg Pg T.st_104 2 := ⟨fun _ => by kernel_rfl, fun _ => by kernel_rfl⟩
instance : AggC Pg 104 2 := ⟨ag_st_104⟩
theorem z_st_104 (w : World) : (zeroValue T.st_104).run Pg w = .ok (.agg #[(.pointer none), (.slice none 0 0)]) w := by kernel_rfl
instance : ZeroC Pg 104 (.agg #[(.pointer none), (.slice none 0 0)]) := ⟨z_st_104⟩
theorem fa_st_104_addr {b o : Nat} (w : World) : (Instr.fieldAt T.st_104 (.pointer (some ⟨b, o, none⟩)) 0).run Pg w = .ok (.pointer (some ⟨b, o + 0, none⟩)) w := fieldAt_of (ty := 103) (n := 1) (by kernel_rfl) (fun _ => by kernel_rfl) (by kernel_rfl) w
instance : FieldC Pg 104 0 0 := ⟨fun _ _ w => fa_st_104_addr w⟩
theorem fa_st_104_buf {b o : Nat} (w : World) : (Instr.fieldAt T.st_104 (.pointer (some ⟨b, o, none⟩)) 1).run Pg w = .ok (.pointer (some ⟨b, o + 1, none⟩)) w := fieldAt_of (ty := 42) (n := 1) (by kernel_rfl) (fun _ => by kernel_rfl) (by kernel_rfl) w
instance : FieldC Pg 104 1 1 := ⟨fun _ _ w => fa_st_104_buf w⟩
theorem ag_strings_Builder : Agg Pg T.strings_Builder 2 := ⟨fun _ => by kernel_rfl, fun _ => by kernel_rfl⟩
instance : AggC Pg 105 2 := ⟨ag_strings_Builder⟩
theorem z_strings_Builder (w : World) : (zeroValue T.strings_Builder).run Pg w = .ok (.agg #[(.pointer none), (.slice none 0 0)]) w := by kernel_rfl
instance : ZeroC Pg 105 (.agg #[(.pointer none), (.slice none 0 0)]) := ⟨z_strings_Builder⟩
theorem fa_strings_Builder_addr {b o : Nat} (w : World) : (Instr.fieldAt T.strings_Builder (.pointer (some ⟨b, o, none⟩)) 0).run Pg w = .ok (.pointer (some ⟨b, o + 0, none⟩)) w := fieldAt_of (ty := 103) (n := 1) (by kernel_rfl) (fun _ => by kernel_rfl) (by kernel_rfl) w
instance : FieldC Pg 105 0 0 := ⟨fun _ _ w => fa_strings_Builder_addr w⟩
theorem fa_strings_Builder_buf {b o : Nat} (w : World) : (Instr.fieldAt T.strings_Builder (.pointer (some ⟨b, o, none⟩)) 1).run Pg w = .ok (.pointer (some ⟨b, o + 1, none⟩)) w := fieldAt_of (ty := 42) (n := 1) (by kernel_rfl) (fun _ => by kernel_rfl) (by kernel_rfl) w
instance : FieldC Pg 105 1 1 := ⟨fun _ _ w => fa_strings_Builder_buf w⟩
theorem pl_fn_109 : Plain Pg T.fn_109 := ⟨fun _ => by kernel_rfl, fun _ => by kernel_rfl⟩
instance : PlainC Pg 109 := ⟨pl_fn_109⟩
instance : FuncC Pg 109 := ⟨by kernel_rfl⟩
theorem z_fn_109 (w : World) : (zeroValue T.fn_109).run Pg w = .ok .nilFunc w := by kernel_rfl
instance : ZeroC Pg 109 .nilFunc := ⟨z_fn_109⟩
theorem pl_fn_110 : Plain Pg T.fn_110 := ⟨fun _ => by kernel_rfl, fun _ => by kernel_rfl⟩
instance : PlainC Pg 110 := ⟨pl_fn_110⟩
instance : FuncC Pg 110 := ⟨by kernel_rfl⟩
theorem z_fn_110 (w : World) : (zeroValue T.fn_110).run Pg w = .ok .nilFunc w := by kernel_rfl
instance : ZeroC Pg 110 .nilFunc := ⟨z_fn_110⟩
theorem pl_fn_111 : Plain Pg T.fn_111 := ⟨fun _ => by kernel_rfl, fun _ => by kernel_rfl⟩
instance : PlainC Pg 111 := ⟨pl_fn_111⟩
instance : FuncC Pg 111 := ⟨by kernel_rfl⟩
theorem z_fn_111 (w : World) : (zeroValue T.fn_111).run Pg w = .ok .nilFunc w := by kernel_rfl
instance : ZeroC Pg 111 .nilFunc := ⟨z_fn_111⟩
theorem pl_fn_112 : Plain Pg T.fn_112 := ⟨fun _ => by kernel_rfl, fun _ => by kernel_rfl⟩
instance : PlainC Pg 112 := ⟨pl_fn_112⟩
instance : FuncC Pg 112 := ⟨by kernel_rfl⟩
theorem z_fn_112 (w : World) : (zeroValue T.fn_112).run Pg w = .ok .nilFunc w := by kernel_rfl
instance : ZeroC Pg 112 .nilFunc := ⟨z_fn_112⟩
theorem pl_fn_113 : Plain Pg T.fn_113 := ⟨fun _ => by kernel_rfl, fun _ => by kernel_rfl⟩
instance : PlainC Pg 113 := ⟨pl_fn_113⟩
instance : FuncC Pg 113 := ⟨by kernel_rfl⟩
theorem z_fn_113 (w : World) : (zeroValue T.fn_113).run Pg w = .ok .nilFunc w := by kernel_rfl
instance : ZeroC Pg 113 .nilFunc := ⟨z_fn_113⟩
theorem pl_p_order_Map_int_pool_frame : Plain Pg T.p_order_Map_int_pool_frame := ⟨fun _ => by kernel_rfl, fun _ => by kernel_rfl⟩
instance : PlainC Pg 114 := ⟨pl_p_order_Map_int_pool_frame⟩
instance : PtrC Pg 114 := ⟨by kernel_rfl⟩
theorem z_p_order_Map_int_pool_frame (w : World) : (zeroValue T.p_order_Map_int_pool_frame).run Pg w = .ok (.pointer none) w := by kernel_rfl
instance : ZeroC Pg 114 (.pointer none) := ⟨z_p_order_Map_int_pool_frame⟩
theorem pl_fn_116 : Plain Pg T.fn_116 := ⟨fun _ => by kernel_rfl, fun _ => by kernel_rfl⟩
instance : PlainC Pg 116 := ⟨pl_fn_116⟩
instance : FuncC Pg 116 := ⟨by kernel_rfl⟩
theorem z_fn_116 (w : World) : (zeroValue T.fn_116).run Pg w = .ok .nilFunc w := by kernel_rfl
instance : ZeroC Pg 116 .nilFunc := ⟨z_fn_116⟩
theorem ag_st_117 : Agg Pg T.st_117 2 := ⟨fun _ => by kernel_rfl, fun _ => by kernel_rfl⟩
instance : AggC Pg 117 2 := ⟨ag_st_117⟩
theorem z_st_117 (w : World) : (zeroValue T.st_117).run Pg w = .ok (.agg #[(.int .i64 0), (.pointer none)]) w := by kernel_rfl
instance : ZeroC Pg 117 (.agg #[(.int .i64 0), (.pointer none)]) := ⟨z_st_117⟩
theorem fa_st_117_key {b o : Nat} (w : World) : (Instr.fieldAt T.st_117 (.pointer (some ⟨b, o, none⟩)) 0).run Pg w = .ok (.pointer (some ⟨b, o + 0, none⟩)) w := fieldAt_of (ty := 3) (n := 1) (by kernel_rfl) (fun _ => by kernel_rfl) (by kernel_rfl) w
instance : FieldC Pg 117 0 0 := ⟨fun _ _ w => fa_st_117_key w⟩
theorem fa_st_117_value {b o : Nat} (w : World) : (Instr.fieldAt T.st_117 (.pointer (some ⟨b, o, none⟩)) 1).run Pg w = .ok (.pointer (some ⟨b, o + 1, none⟩)) w := fieldAt_of (ty := 85) (n := 1) (by kernel_rfl) (fun _ => by kernel_rfl) (by kernel_rfl) w
instance : FieldC Pg 117 1 1 := ⟨fun _ _ w => fa_st_117_value w⟩
theorem ag_order_pair_int_pool_frame : Agg Pg T.order_pair_int_pool_frame 2 := ⟨fun _ => by kernel_rfl, fun _ => by kernel_rfl⟩
instance : AggC Pg 118 2 := ⟨ag_order_pair_int_pool_frame⟩
theorem z_order_pair_int_pool_frame (w : World) : (zeroValue T.order_pair_int_pool_frame).run Pg w = .ok (.agg #[(.int .i64 0), (.pointer none)]) w := by kernel_rfl
instance : ZeroC Pg 118 (.agg #[(.int .i64 0), (.pointer none)]) := ⟨z_order_pair_int_pool_frame⟩
theorem fa_order_pair_int_pool_frame_key {b o : Nat} (w : World) : (Instr.fieldAt T.order_pair_int_pool_frame (.pointer (some ⟨b, o, none⟩)) 0).run Pg w = .ok (.pointer (some ⟨b, o + 0, none⟩)) w := fieldAt_of (ty := 3) (n := 1) (by kernel_rfl) (fun _ => by kernel_rfl) (by kernel_rfl) w
instance : FieldC Pg 118 0 0 := ⟨fun _ _ w => fa_order_pair_int_pool_frame_key w⟩
theorem fa_order_pair_int_pool_frame_value {b o : Nat} (w : World) : (Instr.fieldAt T.order_pair_int_pool_frame (.pointer (some ⟨b, o, none⟩)) 1).run Pg w = .ok (.pointer (some ⟨b, o + 1, none⟩)) w := fieldAt_of (ty := 85) (n := 1) (by kernel_rfl) (fun _ => by kernel_rfl) (by kernel_rfl) w
instance : FieldC Pg 118 1 1 := ⟨fun _ _ w => fa_order_pair_int_pool_frame_value w⟩
theorem pl_fn_119 : Plain Pg T.fn_119 := ⟨fun _ => by kernel_rfl, fun _ => by kernel_rfl⟩
instance : PlainC Pg 119 := ⟨pl_fn_119⟩
instance : FuncC Pg 119 := ⟨by kernel_rfl⟩
theorem z_fn_119 (w : World) : (zeroValue T.fn_119).run Pg w = .ok .nilFunc w := by kernel_rfl
instance : ZeroC Pg 119 .nilFunc := ⟨z_fn_119⟩
theorem pl_fn_120 : Plain Pg T.fn_120 := ⟨fun _ => by kernel_rfl, fun _ => by kernel_rfl⟩
instance : PlainC Pg 120 := ⟨pl_fn_120⟩
instance : FuncC Pg 120 := ⟨by kernel_rfl⟩
theorem z_fn_120 (w : World) : (zeroValue T.fn_120).run Pg w = .ok .nilFunc w := by kernel_rfl
instance : ZeroC Pg 120 .nilFunc := ⟨z_fn_120⟩
theorem pl_fn_121 : Plain Pg T.fn_121 := ⟨fun _ => by kernel_rfl, fun _ => by kernel_rfl⟩
instance : PlainC Pg 121 := ⟨pl_fn_121⟩
instance : FuncC Pg 121 := ⟨by kernel_rfl⟩
theorem z_fn_121 (w : World) : (zeroValue T.fn_121).run Pg w = .ok .nilFunc w := by kernel_rfl
instance : ZeroC Pg 121 .nilFunc := ⟨z_fn_121⟩
theorem pl_fn_122 : Plain Pg T.fn_122 := ⟨fun _ => by kernel_rfl, fun _ => by kernel_rfl⟩
instance : PlainC Pg 122 := ⟨pl_fn_122⟩
instance : FuncC Pg 122 := ⟨by kernel_rfl⟩
theorem z_fn_122 (w : World) : (zeroValue T.fn_122).run Pg w = .ok .nilFunc w := by kernel_rfl
instance : ZeroC Pg 122 .nilFunc := ⟨z_fn_122⟩
theorem pl_p_order_Recent_int : Plain Pg T.p_order_Recent_int := ⟨fun _ => by kernel_rfl, fun _ => by kernel_rfl⟩
instance : PlainC Pg 123 := ⟨pl_p_order_Recent_int⟩
instance : PtrC Pg 123 := ⟨by kernel_rfl⟩
theorem z_p_order_Recent_int (w : World) : (zeroValue T.p_order_Recent_int).run Pg w = .ok (.pointer none) w := by kernel_rfl
instance : ZeroC Pg 123 (.pointer none) := ⟨z_p_order_Recent_int⟩
theorem pl_fn_124 : Plain Pg T.fn_124 := ⟨fun _ => by kernel_rfl, fun _ => by kernel_rfl⟩
instance : PlainC Pg 124 := ⟨pl_fn_124⟩
instance : FuncC Pg 124 := ⟨by kernel_rfl⟩
theorem z_fn_124 (w : World) : (zeroValue T.fn_124).run Pg w = .ok .nilFunc w := by kernel_rfl
instance : ZeroC Pg 124 .nilFunc := ⟨z_fn_124⟩
theorem pl_fn_125 : Plain Pg T.fn_125 := ⟨fun _ => by kernel_rfl, fun _ => by kernel_rfl⟩
instance : PlainC Pg 125 := ⟨pl_fn_125⟩
instance : FuncC Pg 125 := ⟨by kernel_rfl⟩
theorem z_fn_125 (w : World) : (zeroValue T.fn_125).run Pg w = .ok .nilFunc w := by kernel_rfl
instance : ZeroC Pg 125 .nilFunc := ⟨z_fn_125⟩
theorem pl_u64_2 : Plain Pg T.u64_2 := ⟨fun _ => by kernel_rfl, fun _ => by kernel_rfl⟩
instance : PlainC Pg 126 := ⟨pl_u64_2⟩
theorem u_u64_2 : Pg.underlying T.u64_2 = some (.int .u64) := by kernel_rfl
instance : IntC Pg 126 .u64 := ⟨u_u64_2⟩
theorem z_u64_2 (w : World) : (zeroValue T.u64_2).run Pg w = .ok (.int .u64 0) w := by kernel_rfl
instance : ZeroC Pg 126 (.int .u64 0) := ⟨z_u64_2⟩
theorem pl_fn_128 : Plain Pg T.fn_128 := ⟨fun _ => by kernel_rfl, fun _ => by kernel_rfl⟩
instance : PlainC Pg 128 := ⟨pl_fn_128⟩
instance : FuncC Pg 128 := ⟨by kernel_rfl⟩
theorem z_fn_128 (w : World) : (zeroValue T.fn_128).run Pg w = .ok .nilFunc w := by kernel_rfl
instance : ZeroC Pg 128 .nilFunc := ⟨z_fn_128⟩
theorem pl_fn_129 : Plain Pg T.fn_129 := ⟨fun _ => by kernel_rfl, fun _ => by kernel_rfl⟩
instance : PlainC Pg 129 := ⟨pl_fn_129⟩
instance : FuncC Pg 129 := ⟨by kernel_rfl⟩
theorem z_fn_129 (w : World) : (zeroValue T.fn_129).run Pg w = .ok .nilFunc w := by kernel_rfl
instance : ZeroC Pg 129 .nilFunc := ⟨z_fn_129⟩
theorem pl_s_twin_Image : Plain Pg T.s_twin_Image := ⟨fun _ => by kernel_rfl, fun _ => by kernel_rfl⟩
instance : PlainC Pg 130 := ⟨pl_s_twin_Image⟩
theorem sl_s_twin_Image : SliceT Pg T.s_twin_Image 132 2 := ⟨by kernel_rfl, fun _ => by kernel_rfl⟩
instance : SliceC Pg 130 132 2 := ⟨sl_s_twin_Image⟩
theorem el_twin_Image : El Pg 132 2 24 (.agg #[(.int .i64 0), (str [])]) := ⟨by kernel_rfl, by kernel_rfl⟩
instance : ElC Pg 132 2 24 (.agg #[(.int .i64 0), (str [])]) := ⟨el_twin_Image⟩
theorem z_s_twin_Image (w : World) : (zeroValue T.s_twin_Image).run Pg w = .ok (.slice none 0 0) w := by kernel_rfl
instance : ZeroC Pg 130 (.slice none 0 0) := ⟨z_s_twin_Image⟩
theorem ag_st_131 : Agg Pg T.st_131 2 := ⟨fun _ => by kernel_rfl, fun _ => by kernel_rfl⟩
instance : AggC Pg 131 2 := ⟨ag_st_131⟩
theorem z_st_131 (w : World) : (zeroValue T.st_131).run Pg w = .ok (.agg #[(.int .i64 0), (str [])]) w := by kernel_rfl
instance : ZeroC Pg 131 (.agg #[(.int .i64 0), (str [])]) := ⟨z_st_131⟩
theorem fa_st_131_Page {b o : Nat} (w : World) : (Instr.fieldAt T.st_131 (.pointer (some ⟨b, o, none⟩)) 0).run Pg w = .ok (.pointer (some ⟨b, o + 0, none⟩)) w := fieldAt_of (ty := 3) (n := 1) (by kernel_rfl) (fun _ => by kernel_rfl) (by kernel_rfl) w
instance : FieldC Pg 131 0 0 := ⟨fun _ _ w => fa_st_131_Page w⟩
theorem fa_st_131_Bytes {b o : Nat} (w : World) : (Instr.fieldAt T.st_131 (.pointer (some ⟨b, o, none⟩)) 1).run Pg w = .ok (.pointer (some ⟨b, o + 1, none⟩)) w := fieldAt_of (ty := 9) (n := 1) (by kernel_rfl) (fun _ => by kernel_rfl) (by kernel_rfl) w
instance : FieldC Pg 131 1 1 := ⟨fun _ _ w => fa_st_131_Bytes w⟩
theorem ag_twin_Image : Agg Pg T.twin_Image 2 := ⟨fun _ => by kernel_rfl, fun _ => by kernel_rfl⟩
instance : AggC Pg 132 2 := ⟨ag_twin_Image⟩
theorem z_twin_Image (w : World) : (zeroValue T.twin_Image).run Pg w = .ok (.agg #[(.int .i64 0), (str [])]) w := by kernel_rfl
instance : ZeroC Pg 132 (.agg #[(.int .i64 0), (str [])]) := ⟨z_twin_Image⟩
theorem fa_twin_Image_Page {b o : Nat} (w : World) : (Instr.fieldAt T.twin_Image (.pointer (some ⟨b, o, none⟩)) 0).run Pg w = .ok (.pointer (some ⟨b, o + 0, none⟩)) w := fieldAt_of (ty := 3) (n := 1) (by kernel_rfl) (fun _ => by kernel_rfl) (by kernel_rfl) w
instance : FieldC Pg 132 0 0 := ⟨fun _ _ w => fa_twin_Image_Page w⟩
theorem fa_twin_Image_Bytes {b o : Nat} (w : World) : (Instr.fieldAt T.twin_Image (.pointer (some ⟨b, o, none⟩)) 1).run Pg w = .ok (.pointer (some ⟨b, o + 1, none⟩)) w := fieldAt_of (ty := 9) (n := 1) (by kernel_rfl) (fun _ => by kernel_rfl) (by kernel_rfl) w
instance : FieldC Pg 132 1 1 := ⟨fun _ _ w => fa_twin_Image_Bytes w⟩
theorem pl_fn_133 : Plain Pg T.fn_133 := ⟨fun _ => by kernel_rfl, fun _ => by kernel_rfl⟩
instance : PlainC Pg 133 := ⟨pl_fn_133⟩
instance : FuncC Pg 133 := ⟨by kernel_rfl⟩
theorem z_fn_133 (w : World) : (zeroValue T.fn_133).run Pg w = .ok .nilFunc w := by kernel_rfl
instance : ZeroC Pg 133 .nilFunc := ⟨z_fn_133⟩
theorem pl_fn_134 : Plain Pg T.fn_134 := ⟨fun _ => by kernel_rfl, fun _ => by kernel_rfl⟩
instance : PlainC Pg 134 := ⟨pl_fn_134⟩
instance : FuncC Pg 134 := ⟨by kernel_rfl⟩
theorem z_fn_134 (w : World) : (zeroValue T.fn_134).run Pg w = .ok .nilFunc w := by kernel_rfl
instance : ZeroC Pg 134 .nilFunc := ⟨z_fn_134⟩
theorem pl_fn_135 : Plain Pg T.fn_135 := ⟨fun _ => by kernel_rfl, fun _ => by kernel_rfl⟩
instance : PlainC Pg 135 := ⟨pl_fn_135⟩
instance : FuncC Pg 135 := ⟨by kernel_rfl⟩
theorem z_fn_135 (w : World) : (zeroValue T.fn_135).run Pg w = .ok .nilFunc w := by kernel_rfl
instance : ZeroC Pg 135 .nilFunc := ⟨z_fn_135⟩
theorem pl_fn_136 : Plain Pg T.fn_136 := ⟨fun _ => by kernel_rfl, fun _ => by kernel_rfl⟩
instance : PlainC Pg 136 := ⟨pl_fn_136⟩
instance : FuncC Pg 136 := ⟨by kernel_rfl⟩
theorem z_fn_136 (w : World) : (zeroValue T.fn_136).run Pg w = .ok .nilFunc w := by kernel_rfl
instance : ZeroC Pg 136 .nilFunc := ⟨z_fn_136⟩
theorem pl_fn_137 : Plain Pg T.fn_137 := ⟨fun _ => by kernel_rfl, fun _ => by kernel_rfl⟩
instance : PlainC Pg 137 := ⟨pl_fn_137⟩
instance : FuncC Pg 137 := ⟨by kernel_rfl⟩
theorem z_fn_137 (w : World) : (zeroValue T.fn_137).run Pg w = .ok .nilFunc w := by kernel_rfl
instance : ZeroC Pg 137 .nilFunc := ⟨z_fn_137⟩
theorem pl_fn_138 : Plain Pg T.fn_138 := ⟨fun _ => by kernel_rfl, fun _ => by kernel_rfl⟩
instance : PlainC Pg 138 := ⟨pl_fn_138⟩
instance : FuncC Pg 138 := ⟨by kernel_rfl⟩
theorem z_fn_138 (w : World) : (zeroValue T.fn_138).run Pg w = .ok .nilFunc w := by kernel_rfl
instance : ZeroC Pg 138 .nilFunc := ⟨z_fn_138⟩
theorem pl_p_u8 : Plain Pg T.p_u8 := ⟨fun _ => by kernel_rfl, fun _ => by kernel_rfl⟩
instance : PlainC Pg 139 := ⟨pl_p_u8⟩
instance : PtrC Pg 139 := ⟨by kernel_rfl⟩
theorem z_p_u8 (w : World) : (zeroValue T.p_u8).run Pg w = .ok (.pointer none) w := by kernel_rfl
instance : ZeroC Pg 139 (.pointer none) := ⟨z_p_u8⟩
theorem pl_fn_140 : Plain Pg T.fn_140 := ⟨fun _ => by kernel_rfl, fun _ => by kernel_rfl⟩
instance : PlainC Pg 140 := ⟨pl_fn_140⟩
instance : FuncC Pg 140 := ⟨by kernel_rfl⟩
theorem z_fn_140 (w : World) : (zeroValue T.fn_140).run Pg w = .ok .nilFunc w := by kernel_rfl
instance : ZeroC Pg 140 .nilFunc := ⟨z_fn_140⟩
theorem pl_fn_141 : Plain Pg T.fn_141 := ⟨fun _ => by kernel_rfl, fun _ => by kernel_rfl⟩
instance : PlainC Pg 141 := ⟨pl_fn_141⟩
instance : FuncC Pg 141 := ⟨by kernel_rfl⟩
theorem z_fn_141 (w : World) : (zeroValue T.fn_141).run Pg w = .ok .nilFunc w := by kernel_rfl
instance : ZeroC Pg 141 .nilFunc := ⟨z_fn_141⟩
theorem pl_fn_142 : Plain Pg T.fn_142 := ⟨fun _ => by kernel_rfl, fun _ => by kernel_rfl⟩
instance : PlainC Pg 142 := ⟨pl_fn_142⟩
instance : FuncC Pg 142 := ⟨by kernel_rfl⟩
theorem z_fn_142 (w : World) : (zeroValue T.fn_142).run Pg w = .ok .nilFunc w := by kernel_rfl
instance : ZeroC Pg 142 .nilFunc := ⟨z_fn_142⟩
theorem pl_fn_143 : Plain Pg T.fn_143 := ⟨fun _ => by kernel_rfl, fun _ => by kernel_rfl⟩
instance : PlainC Pg 143 := ⟨pl_fn_143⟩
instance : FuncC Pg 143 := ⟨by kernel_rfl⟩
theorem z_fn_143 (w : World) : (zeroValue T.fn_143).run Pg w = .ok .nilFunc w := by kernel_rfl
instance : ZeroC Pg 143 .nilFunc := ⟨z_fn_143⟩
theorem pl_fn_144 : Plain Pg T.fn_144 := ⟨fun _ => by kernel_rfl, fun _ => by kernel_rfl⟩
instance : PlainC Pg 144 := ⟨pl_fn_144⟩
instance : FuncC Pg 144 := ⟨by kernel_rfl⟩
theorem z_fn_144 (w : World) : (zeroValue T.fn_144).run Pg w = .ok .nilFunc w := by kernel_rfl
instance : ZeroC Pg 144 .nilFunc := ⟨z_fn_144⟩
theorem pl_fn_145 : Plain Pg T.fn_145 := ⟨fun _ => by kernel_rfl, fun _ => by kernel_rfl⟩
instance : PlainC Pg 145 := ⟨pl_fn_145⟩
instance : FuncC Pg 145 := ⟨by kernel_rfl⟩
theorem z_fn_145 (w : World) : (zeroValue T.fn_145).run Pg w = .ok .nilFunc w := by kernel_rfl
instance : ZeroC Pg 145 .nilFunc := ⟨z_fn_145⟩
theorem pl_fn_146 : Plain Pg T.fn_146 := ⟨fun _ => by kernel_rfl, fun _ => by kernel_rfl⟩
instance : PlainC Pg 146 := ⟨pl_fn_146⟩
instance : FuncC Pg 146 := ⟨by kernel_rfl⟩
theorem z_fn_146 (w : World) : (zeroValue T.fn_146).run Pg w = .ok .nilFunc w := by kernel_rfl
instance : ZeroC Pg 146 .nilFunc := ⟨z_fn_146⟩
theorem pl_fn_147 : Plain Pg T.fn_147 := ⟨fun _ => by kernel_rfl, fun _ => by kernel_rfl⟩
instance : PlainC Pg 147 := ⟨pl_fn_147⟩
instance : FuncC Pg 147 := ⟨by kernel_rfl⟩
theorem z_fn_147 (w : World) : (zeroValue T.fn_147).run Pg w = .ok .nilFunc w := by kernel_rfl
instance : ZeroC Pg 147 .nilFunc := ⟨z_fn_147⟩
theorem pl_fn_148 : Plain Pg T.fn_148 := ⟨fun _ => by kernel_rfl, fun _ => by kernel_rfl⟩
instance : PlainC Pg 148 := ⟨pl_fn_148⟩
instance : FuncC Pg 148 := ⟨by kernel_rfl⟩
theorem z_fn_148 (w : World) : (zeroValue T.fn_148).run Pg w = .ok .nilFunc w := by kernel_rfl
instance : ZeroC Pg 148 .nilFunc := ⟨z_fn_148⟩
theorem pl_fn_149 : Plain Pg T.fn_149 := ⟨fun _ => by kernel_rfl, fun _ => by kernel_rfl⟩
instance : PlainC Pg 149 := ⟨pl_fn_149⟩
instance : FuncC Pg 149 := ⟨by kernel_rfl⟩
theorem z_fn_149 (w : World) : (zeroValue T.fn_149).run Pg w = .ok .nilFunc w := by kernel_rfl
instance : ZeroC Pg 149 .nilFunc := ⟨z_fn_149⟩
theorem pl_fn_150 : Plain Pg T.fn_150 := ⟨fun _ => by kernel_rfl, fun _ => by kernel_rfl⟩
instance : PlainC Pg 150 := ⟨pl_fn_150⟩
instance : FuncC Pg 150 := ⟨by kernel_rfl⟩
theorem z_fn_150 (w : World) : (zeroValue T.fn_150).run Pg w = .ok .nilFunc w := by kernel_rfl
instance : ZeroC Pg 150 .nilFunc := ⟨z_fn_150⟩
theorem pl_fn_151 : Plain Pg T.fn_151 := ⟨fun _ => by kernel_rfl, fun _ => by kernel_rfl⟩
instance : PlainC Pg 151 := ⟨pl_fn_151⟩
instance : FuncC Pg 151 := ⟨by kernel_rfl⟩
theorem z_fn_151 (w : World) : (zeroValue T.fn_151).run Pg w = .ok .nilFunc w := by kernel_rfl
instance : ZeroC Pg 151 .nilFunc := ⟨z_fn_151⟩
theorem pl_u32 : Plain Pg T.u32 := ⟨fun _ => by kernel_rfl, fun _ => by kernel_rfl⟩
instance : PlainC Pg 152 := ⟨pl_u32⟩
theorem u_u32 : Pg.underlying T.u32 = some (.int .u32) := by kernel_rfl
instance : IntC Pg 152 .u32 := ⟨u_u32⟩
theorem z_u32 (w : World) : (zeroValue T.u32).run Pg w = .ok (.int .u32 0) w := by kernel_rfl
instance : ZeroC Pg 152 (.int .u32 0) := ⟨z_u32⟩
theorem pl_fn_154 : Plain Pg T.fn_154 := ⟨fun _ => by kernel_rfl, fun _ => by kernel_rfl⟩
instance : PlainC Pg 154 := ⟨pl_fn_154⟩
instance : FuncC Pg 154 := ⟨by kernel_rfl⟩
theorem z_fn_154 (w : World) : (zeroValue T.fn_154).run Pg w = .ok .nilFunc w := by kernel_rfl
instance : ZeroC Pg 154 .nilFunc := ⟨z_fn_154⟩
theorem pl_u64_3 : Plain Pg T.u64_3 := ⟨fun _ => by kernel_rfl, fun _ => by kernel_rfl⟩
instance : PlainC Pg 155 := ⟨pl_u64_3⟩
theorem u_u64_3 : Pg.underlying T.u64_3 = some (.int .u64) := by kernel_rfl
instance : IntC Pg 155 .u64 := ⟨u_u64_3⟩
theorem z_u64_3 (w : World) : (zeroValue T.u64_3).run Pg w = .ok (.int .u64 0) w := by kernel_rfl
instance : ZeroC Pg 155 (.int .u64 0) := ⟨z_u64_3⟩
theorem pl_fn_157 : Plain Pg T.fn_157 := ⟨fun _ => by kernel_rfl, fun _ => by kernel_rfl⟩
instance : PlainC Pg 157 := ⟨pl_fn_157⟩
instance : FuncC Pg 157 := ⟨by kernel_rfl⟩
theorem z_fn_157 (w : World) : (zeroValue T.fn_157).run Pg w = .ok .nilFunc w := by kernel_rfl
instance : ZeroC Pg 157 .nilFunc := ⟨z_fn_157⟩
theorem pl_fn_158 : Plain Pg T.fn_158 := ⟨fun _ => by kernel_rfl, fun _ => by kernel_rfl⟩
instance : PlainC Pg 158 := ⟨pl_fn_158⟩
instance : FuncC Pg 158 := ⟨by kernel_rfl⟩
theorem z_fn_158 (w : World) : (zeroValue T.fn_158).run Pg w = .ok .nilFunc w := by kernel_rfl
instance : ZeroC Pg 158 .nilFunc := ⟨z_fn_158⟩
theorem pl_fn_160 : Plain Pg T.fn_160 := ⟨fun _ => by kernel_rfl, fun _ => by kernel_rfl⟩
instance : PlainC Pg 160 := ⟨pl_fn_160⟩
instance : FuncC Pg 160 := ⟨by kernel_rfl⟩
theorem z_fn_160 (w : World) : (zeroValue T.fn_160).run Pg w = .ok .nilFunc w := by kernel_rfl
instance : ZeroC Pg 160 .nilFunc := ⟨z_fn_160⟩
theorem pl_fn_161 : Plain Pg T.fn_161 := ⟨fun _ => by kernel_rfl, fun _ => by kernel_rfl⟩
instance : PlainC Pg 161 := ⟨pl_fn_161⟩
instance : FuncC Pg 161 := ⟨by kernel_rfl⟩
theorem z_fn_161 (w : World) : (zeroValue T.fn_161).run Pg w = .ok .nilFunc w := by kernel_rfl
instance : ZeroC Pg 161 .nilFunc := ⟨z_fn_161⟩
theorem pl_iter_Seq2_int_device_write : Plain Pg T.iter_Seq2_int_device_write := ⟨fun _ => by kernel_rfl, fun _ => by kernel_rfl⟩
instance : PlainC Pg 162 := ⟨pl_iter_Seq2_int_device_write⟩
instance : FuncC Pg 162 := ⟨by kernel_rfl⟩
theorem z_iter_Seq2_int_device_write (w : World) : (zeroValue T.iter_Seq2_int_device_write).run Pg w = .ok .nilFunc w := by kernel_rfl
instance : ZeroC Pg 162 .nilFunc := ⟨z_iter_Seq2_int_device_write⟩
theorem pl_fn_163 : Plain Pg T.fn_163 := ⟨fun _ => by kernel_rfl, fun _ => by kernel_rfl⟩
instance : PlainC Pg 163 := ⟨pl_fn_163⟩
instance : FuncC Pg 163 := ⟨by kernel_rfl⟩
theorem z_fn_163 (w : World) : (zeroValue T.fn_163).run Pg w = .ok .nilFunc w := by kernel_rfl
instance : ZeroC Pg 163 .nilFunc := ⟨z_fn_163⟩
theorem pl_fn_165 : Plain Pg T.fn_165 := ⟨fun _ => by kernel_rfl, fun _ => by kernel_rfl⟩
instance : PlainC Pg 165 := ⟨pl_fn_165⟩
instance : FuncC Pg 165 := ⟨by kernel_rfl⟩
theorem z_fn_165 (w : World) : (zeroValue T.fn_165).run Pg w = .ok .nilFunc w := by kernel_rfl
instance : ZeroC Pg 165 .nilFunc := ⟨z_fn_165⟩
theorem pl_fn_166 : Plain Pg T.fn_166 := ⟨fun _ => by kernel_rfl, fun _ => by kernel_rfl⟩
instance : PlainC Pg 166 := ⟨pl_fn_166⟩
instance : FuncC Pg 166 := ⟨by kernel_rfl⟩
theorem z_fn_166 (w : World) : (zeroValue T.fn_166).run Pg w = .ok .nilFunc w := by kernel_rfl
instance : ZeroC Pg 166 .nilFunc := ⟨z_fn_166⟩
theorem ag_a256_bool : Agg Pg T.a256_bool 256 := ⟨fun _ => by kernel_rfl, fun _ => by kernel_rfl⟩
instance : AggC Pg 167 256 := ⟨ag_a256_bool⟩
theorem ag_strings_asciiSet : Agg Pg T.strings_asciiSet 256 := ⟨fun _ => by kernel_rfl, fun _ => by kernel_rfl⟩
instance : AggC Pg 168 256 := ⟨ag_strings_asciiSet⟩
theorem pl_fn_170 : Plain Pg T.fn_170 := ⟨fun _ => by kernel_rfl, fun _ => by kernel_rfl⟩
instance : PlainC Pg 170 := ⟨pl_fn_170⟩
instance : FuncC Pg 170 := ⟨by kernel_rfl⟩
theorem z_fn_170 (w : World) : (zeroValue T.fn_170).run Pg w = .ok .nilFunc w := by kernel_rfl
instance : ZeroC Pg 170 .nilFunc := ⟨z_fn_170⟩
theorem pl_fn_171 : Plain Pg T.fn_171 := ⟨fun _ => by kernel_rfl, fun _ => by kernel_rfl⟩
instance : PlainC Pg 171 := ⟨pl_fn_171⟩
instance : FuncC Pg 171 := ⟨by kernel_rfl⟩
theorem z_fn_171 (w : World) : (zeroValue T.fn_171).run Pg w = .ok .nilFunc w := by kernel_rfl
instance : ZeroC Pg 171 .nilFunc := ⟨z_fn_171⟩
theorem pl_p_strings_asciiSet : Plain Pg T.p_strings_asciiSet := ⟨fun _ => by kernel_rfl, fun _ => by kernel_rfl⟩
instance : PlainC Pg 172 := ⟨pl_p_strings_asciiSet⟩
instance : PtrC Pg 172 := ⟨by kernel_rfl⟩
theorem z_p_strings_asciiSet (w : World) : (zeroValue T.p_strings_asciiSet).run Pg w = .ok (.pointer none) w := by kernel_rfl
instance : ZeroC Pg 172 (.pointer none) := ⟨z_p_strings_asciiSet⟩
theorem pl_fn_173 : Plain Pg T.fn_173 := ⟨fun _ => by kernel_rfl, fun _ => by kernel_rfl⟩
instance : PlainC Pg 173 := ⟨pl_fn_173⟩
instance : FuncC Pg 173 := ⟨by kernel_rfl⟩
theorem z_fn_173 (w : World) : (zeroValue T.fn_173).run Pg w = .ok .nilFunc w := by kernel_rfl
instance : ZeroC Pg 173 .nilFunc := ⟨z_fn_173⟩
theorem pl_fn_174 : Plain Pg T.fn_174 := ⟨fun _ => by kernel_rfl, fun _ => by kernel_rfl⟩
instance : PlainC Pg 174 := ⟨pl_fn_174⟩
instance : FuncC Pg 174 := ⟨by kernel_rfl⟩
theorem z_fn_174 (w : World) : (zeroValue T.fn_174).run Pg w = .ok .nilFunc w := by kernel_rfl
instance : ZeroC Pg 174 .nilFunc := ⟨z_fn_174⟩
theorem pl_fn_175 : Plain Pg T.fn_175 := ⟨fun _ => by kernel_rfl, fun _ => by kernel_rfl⟩
instance : PlainC Pg 175 := ⟨pl_fn_175⟩
instance : FuncC Pg 175 := ⟨by kernel_rfl⟩
theorem z_fn_175 (w : World) : (zeroValue T.fn_175).run Pg w = .ok .nilFunc w := by kernel_rfl
instance : ZeroC Pg 175 .nilFunc := ⟨z_fn_175⟩
theorem ag_a16_u32 : Agg Pg T.a16_u32 16 := ⟨fun _ => by kernel_rfl, fun _ => by kernel_rfl⟩
instance : AggC Pg 176 16 := ⟨ag_a16_u32⟩
theorem z_a16_u32 (w : World) : (zeroValue T.a16_u32).run Pg w = .ok (.agg #[(.int .u32 0), (.int .u32 0), (.int .u32 0), (.int .u32 0), (.int .u32 0), (.int .u32 0), (.int .u32 0), (.int .u32 0), (.int .u32 0), (.int .u32 0), (.int .u32 0), (.int .u32 0), (.int .u32 0), (.int .u32 0), (.int .u32 0), (.int .u32 0)]) w := by kernel_rfl
instance : ZeroC Pg 176 (.agg #[(.int .u32 0), (.int .u32 0), (.int .u32 0), (.int .u32 0), (.int .u32 0), (.int .u32 0), (.int .u32 0), (.int .u32 0), (.int .u32 0), (.int .u32 0), (.int .u32 0), (.int .u32 0), (.int .u32 0), (.int .u32 0), (.int .u32 0), (.int .u32 0)]) := ⟨z_a16_u32⟩
theorem pl_fn_177 : Plain Pg T.fn_177 := ⟨fun _ => by kernel_rfl, fun _ => by kernel_rfl⟩
instance : PlainC Pg 177 := ⟨pl_fn_177⟩
instance : FuncC Pg 177 := ⟨by kernel_rfl⟩
theorem z_fn_177 (w : World) : (zeroValue T.fn_177).run Pg w = .ok .nilFunc w := by kernel_rfl
instance : ZeroC Pg 177 .nilFunc := ⟨z_fn_177⟩
theorem pl_fn_179 : Plain Pg T.fn_179 := ⟨fun _ => by kernel_rfl, fun _ => by kernel_rfl⟩
instance : PlainC Pg 179 := ⟨pl_fn_179⟩
instance : FuncC Pg 179 := ⟨by kernel_rfl⟩
theorem z_fn_179 (w : World) : (zeroValue T.fn_179).run Pg w = .ok .nilFunc w := by kernel_rfl
instance : ZeroC Pg 179 .nilFunc := ⟨z_fn_179⟩
theorem pl_fn_180 : Plain Pg T.fn_180 := ⟨fun _ => by kernel_rfl, fun _ => by kernel_rfl⟩
instance : PlainC Pg 180 := ⟨pl_fn_180⟩
instance : FuncC Pg 180 := ⟨by kernel_rfl⟩
theorem z_fn_180 (w : World) : (zeroValue T.fn_180).run Pg w = .ok .nilFunc w := by kernel_rfl
instance : ZeroC Pg 180 .nilFunc := ⟨z_fn_180⟩
theorem pl_fn_181 : Plain Pg T.fn_181 := ⟨fun _ => by kernel_rfl, fun _ => by kernel_rfl⟩
instance : PlainC Pg 181 := ⟨pl_fn_181⟩
instance : FuncC Pg 181 := ⟨by kernel_rfl⟩
theorem z_fn_181 (w : World) : (zeroValue T.fn_181).run Pg w = .ok .nilFunc w := by kernel_rfl
instance : ZeroC Pg 181 .nilFunc := ⟨z_fn_181⟩
theorem pl_fn_182 : Plain Pg T.fn_182 := ⟨fun _ => by kernel_rfl, fun _ => by kernel_rfl⟩
instance : PlainC Pg 182 := ⟨pl_fn_182⟩
instance : FuncC Pg 182 := ⟨by kernel_rfl⟩
theorem z_fn_182 (w : World) : (zeroValue T.fn_182).run Pg w = .ok .nilFunc w := by kernel_rfl
instance : ZeroC Pg 182 .nilFunc := ⟨z_fn_182⟩
theorem ag_a256_u8 : Agg Pg T.a256_u8 256 := ⟨fun _ => by kernel_rfl, fun _ => by kernel_rfl⟩
instance : AggC Pg 183 256 := ⟨ag_a256_u8⟩
theorem ag_st_184 : Agg Pg T.st_184 2 := ⟨fun _ => by kernel_rfl, fun _ => by kernel_rfl⟩
instance : AggC Pg 184 2 := ⟨ag_st_184⟩
theorem z_st_184 (w : World) : (zeroValue T.st_184).run Pg w = .ok (.agg #[(.int .u8 0), (.int .u8 0)]) w := by kernel_rfl
instance : ZeroC Pg 184 (.agg #[(.int .u8 0), (.int .u8 0)]) := ⟨z_st_184⟩
theorem fa_st_184_lo {b o : Nat} (w : World) : (Instr.fieldAt T.st_184 (.pointer (some ⟨b, o, none⟩)) 0).run Pg w = .ok (.pointer (some ⟨b, o + 0, none⟩)) w := fieldAt_of (ty := 5) (n := 1) (by kernel_rfl) (fun _ => by kernel_rfl) (by kernel_rfl) w
instance : FieldC Pg 184 0 0 := ⟨fun _ _ w => fa_st_184_lo w⟩
theorem fa_st_184_hi {b o : Nat} (w : World) : (Instr.fieldAt T.st_184 (.pointer (some ⟨b, o, none⟩)) 1).run Pg w = .ok (.pointer (some ⟨b, o + 1, none⟩)) w := fieldAt_of (ty := 5) (n := 1) (by kernel_rfl) (fun _ => by kernel_rfl) (by kernel_rfl) w
instance : FieldC Pg 184 1 1 := ⟨fun _ _ w => fa_st_184_hi w⟩
theorem ag_unicode_utf8_acceptRange : Agg Pg T.unicode_utf8_acceptRange 2 := ⟨fun _ => by kernel_rfl, fun _ => by kernel_rfl⟩
instance : AggC Pg 185 2 := ⟨ag_unicode_utf8_acceptRange⟩
theorem z_unicode_utf8_acceptRange (w : World) : (zeroValue T.unicode_utf8_acceptRange).run Pg w = .ok (.agg #[(.int .u8 0), (.int .u8 0)]) w := by kernel_rfl
instance : ZeroC Pg 185 (.agg #[(.int .u8 0), (.int .u8 0)]) := ⟨z_unicode_utf8_acceptRange⟩
theorem fa_unicode_utf8_acceptRange_lo {b o : Nat} (w : World) : (Instr.fieldAt T.unicode_utf8_acceptRange (.pointer (some ⟨b, o, none⟩)) 0).run Pg w = .ok (.pointer (some ⟨b, o + 0, none⟩)) w := fieldAt_of (ty := 5) (n := 1) (by kernel_rfl) (fun _ => by kernel_rfl) (by kernel_rfl) w
instance : FieldC Pg 185 0 0 := ⟨fun _ _ w => fa_unicode_utf8_acceptRange_lo w⟩
theorem fa_unicode_utf8_acceptRange_hi {b o : Nat} (w : World) : (Instr.fieldAt T.unicode_utf8_acceptRange (.pointer (some ⟨b, o, none⟩)) 1).run Pg w = .ok (.pointer (some ⟨b, o + 1, none⟩)) w := fieldAt_of (ty := 5) (n := 1) (by kernel_rfl) (fun _ => by kernel_rfl) (by kernel_rfl) w
instance : FieldC Pg 185 1 1 := ⟨fun _ _ w => fa_unicode_utf8_acceptRange_hi w⟩
theorem ag_a16_unicode_utf8_acceptRange : Agg Pg T.a16_unicode_utf8_acceptRange 32 := ⟨fun _ => by kernel_rfl, fun _ => by kernel_rfl⟩
instance : AggC Pg 186 32 := ⟨ag_a16_unicode_utf8_acceptRange⟩
theorem z_a16_unicode_utf8_acceptRange (w : World) : (zeroValue T.a16_unicode_utf8_acceptRange).run Pg w = .ok (.agg #[(.int .u8 0), (.int .u8 0), (.int .u8 0), (.int .u8 0), (.int .u8 0), (.int .u8 0), (.int .u8 0), (.int .u8 0), (.int .u8 0), (.int .u8 0), (.int .u8 0), (.int .u8 0), (.int .u8 0), (.int .u8 0), (.int .u8 0), (.int .u8 0), (.int .u8 0), (.int .u8 0), (.int .u8 0), (.int .u8 0), (.int .u8 0), (.int .u8 0), (.int .u8 0), (.int .u8 0), (.int .u8 0), (.int .u8 0), (.int .u8 0), (.int .u8 0), (.int .u8 0), (.int .u8 0), (.int .u8 0), (.int .u8 0)]) w := by kernel_rfl
instance : ZeroC Pg 186 (.agg #[(.int .u8 0), (.int .u8 0), (.int .u8 0), (.int .u8 0), (.int .u8 0), (.int .u8 0), (.int .u8 0), (.int .u8 0), (.int .u8 0), (.int .u8 0), (.int .u8 0), (.int .u8 0), (.int .u8 0), (.int .u8 0), (.int .u8 0), (.int .u8 0), (.int .u8 0), (.int .u8 0), (.int .u8 0), (.int .u8 0), (.int .u8 0), (.int .u8 0), (.int .u8 0), (.int .u8 0), (.int .u8 0), (.int .u8 0), (.int .u8 0), (.int .u8 0), (.int .u8 0), (.int .u8 0), (.int .u8 0), (.int .u8 0)]) := ⟨z_a16_unicode_utf8_acceptRange⟩
theorem pl_fn_187 : Plain Pg T.fn_187 := ⟨fun _ => by kernel_rfl, fun _ => by kernel_rfl⟩
instance : PlainC Pg 187 := ⟨pl_fn_187⟩
instance : FuncC Pg 187 := ⟨by kernel_rfl⟩
theorem z_fn_187 (w : World) : (zeroValue T.fn_187).run Pg w = .ok .nilFunc w := by kernel_rfl
instance : ZeroC Pg 187 .nilFunc := ⟨z_fn_187⟩
theorem pl_fn_188 : Plain Pg T.fn_188 := ⟨fun _ => by kernel_rfl, fun _ => by kernel_rfl⟩
instance : PlainC Pg 188 := ⟨pl_fn_188⟩
instance : FuncC Pg 188 := ⟨by kernel_rfl⟩
theorem z_fn_188 (w : World) : (zeroValue T.fn_188).run Pg w = .ok .nilFunc w := by kernel_rfl
instance : ZeroC Pg 188 .nilFunc := ⟨z_fn_188⟩
theorem pl_fn_189 : Plain Pg T.fn_189 := ⟨fun _ => by kernel_rfl, fun _ => by kernel_rfl⟩
instance : PlainC Pg 189 := ⟨pl_fn_189⟩
instance : FuncC Pg 189 := ⟨by kernel_rfl⟩
theorem z_fn_189 (w : World) : (zeroValue T.fn_189).run Pg w = .ok .nilFunc w := by kernel_rfl
instance : ZeroC Pg 189 .nilFunc := ⟨z_fn_189⟩
theorem pl_fn_190 : Plain Pg T.fn_190 := ⟨fun _ => by kernel_rfl, fun _ => by kernel_rfl⟩
instance : PlainC Pg 190 := ⟨pl_fn_190⟩
instance : FuncC Pg 190 := ⟨by kernel_rfl⟩
theorem z_fn_190 (w : World) : (zeroValue T.fn_190).run Pg w = .ok .nilFunc w := by kernel_rfl
instance : ZeroC Pg 190 .nilFunc := ⟨z_fn_190⟩
theorem ag_st_191 : Agg Pg T.st_191 4 := ⟨fun _ => by kernel_rfl, fun _ => by kernel_rfl⟩
instance : AggC Pg 191 4 := ⟨ag_st_191⟩
theorem z_st_191 (w : World) : (zeroValue T.st_191).run Pg w = .ok (.agg #[(.pointer none), (.pointer none), (.pointer none), (str [])]) w := by kernel_rfl
instance : ZeroC Pg 191 (.agg #[(.pointer none), (.pointer none), (.pointer none), (str [])]) := ⟨z_st_191⟩
theorem fa_st_191__interface {b o : Nat} (w : World) : (Instr.fieldAt T.st_191 (.pointer (some ⟨b, o, none⟩)) 0).run Pg w = .ok (.pointer (some ⟨b, o + 0, none⟩)) w := fieldAt_of (ty := 17) (n := 1) (by kernel_rfl) (fun _ => by kernel_rfl) (by kernel_rfl) w
instance : FieldC Pg 191 0 0 := ⟨fun _ _ w => fa_st_191__interface w⟩
theorem fa_st_191_concrete {b o : Nat} (w : World) : (Instr.fieldAt T.st_191 (.pointer (some ⟨b, o, none⟩)) 1).run Pg w = .ok (.pointer (some ⟨b, o + 1, none⟩)) w := fieldAt_of (ty := 17) (n := 1) (by kernel_rfl) (fun _ => by kernel_rfl) (by kernel_rfl) w
instance : FieldC Pg 191 1 1 := ⟨fun _ _ w => fa_st_191_concrete w⟩
theorem fa_st_191_asserted {b o : Nat} (w : World) : (Instr.fieldAt T.st_191 (.pointer (some ⟨b, o, none⟩)) 2).run Pg w = .ok (.pointer (some ⟨b, o + 2, none⟩)) w := fieldAt_of (ty := 17) (n := 1) (by kernel_rfl) (fun _ => by kernel_rfl) (by kernel_rfl) w
instance : FieldC Pg 191 2 2 := ⟨fun _ _ w => fa_st_191_asserted w⟩
theorem fa_st_191_missingMethod {b o : Nat} (w : World) : (Instr.fieldAt T.st_191 (.pointer (some ⟨b, o, none⟩)) 3).run Pg w = .ok (.pointer (some ⟨b, o + 3, none⟩)) w := fieldAt_of (ty := 9) (n := 1) (by kernel_rfl) (fun _ => by kernel_rfl) (by kernel_rfl) w
instance : FieldC Pg 191 3 3 := ⟨fun _ _ w => fa_st_191_missingMethod w⟩
theorem ag_runtime_TypeAssertionError : Agg Pg T.runtime_TypeAssertionError 4 := ⟨fun _ => by kernel_rfl, fun _ => by kernel_rfl⟩
instance : AggC Pg 192 4 := ⟨ag_runtime_TypeAssertionError⟩
theorem z_runtime_TypeAssertionError (w : World) : (zeroValue T.runtime_TypeAssertionError).run Pg w = .ok (.agg #[(.pointer none), (.pointer none), (.pointer none), (str [])]) w := by kernel_rfl
instance : ZeroC Pg 192 (.agg #[(.pointer none), (.pointer none), (.pointer none), (str [])]) := ⟨z_runtime_TypeAssertionError⟩
theorem fa_runtime_TypeAssertionError__interface {b o : Nat} (w : World) : (Instr.fieldAt T.runtime_TypeAssertionError (.pointer (some ⟨b, o, none⟩)) 0).run Pg w = .ok (.pointer (some ⟨b, o + 0, none⟩)) w := fieldAt_of (ty := 17) (n := 1) (by kernel_rfl) (fun _ => by kernel_rfl) (by kernel_rfl) w
instance : FieldC Pg 192 0 0 := ⟨fun _ _ w => fa_runtime_TypeAssertionError__interface w⟩
theorem fa_runtime_TypeAssertionError_concrete {b o : Nat} (w : World) : (Instr.fieldAt T.runtime_TypeAssertionError (.pointer (some ⟨b, o, none⟩)) 1).run Pg w = .ok (.pointer (some ⟨b, o + 1, none⟩)) w := fieldAt_of (ty := 17) (n := 1) (by kernel_rfl) (fun _ => by kernel_rfl) (by kernel_rfl) w
instance : FieldC Pg 192 1 1 := ⟨fun _ _ w => fa_runtime_TypeAssertionError_concrete w⟩
theorem fa_runtime_TypeAssertionError_asserted {b o : Nat} (w : World) : (Instr.fieldAt T.runtime_TypeAssertionError (.pointer (some ⟨b, o, none⟩)) 2).run Pg w = .ok (.pointer (some ⟨b, o + 2, none⟩)) w := fieldAt_of (ty := 17) (n := 1) (by kernel_rfl) (fun _ => by kernel_rfl) (by kernel_rfl) w
instance : FieldC Pg 192 2 2 := ⟨fun _ _ w => fa_runtime_TypeAssertionError_asserted w⟩
theorem fa_runtime_TypeAssertionError_missingMethod {b o : Nat} (w : World) : (Instr.fieldAt T.runtime_TypeAssertionError (.pointer (some ⟨b, o, none⟩)) 3).run Pg w = .ok (.pointer (some ⟨b, o + 3, none⟩)) w := fieldAt_of (ty := 9) (n := 1) (by kernel_rfl) (fun _ => by kernel_rfl) (by kernel_rfl) w
instance : FieldC Pg 192 3 3 := ⟨fun _ _ w => fa_runtime_TypeAssertionError_missingMethod w⟩
theorem z_st_194 (w : World) : (zeroValue T.st_194).run Pg w = .ok (.agg #[]) w := by kernel_rfl
instance : ZeroC Pg 194 (.agg #[]) := ⟨z_st_194⟩
theorem z_runtime_PanicNilError (w : World) : (zeroValue T.runtime_PanicNilError).run Pg w = .ok (.agg #[]) w := by kernel_rfl
instance : ZeroC Pg 195 (.agg #[]) := ⟨z_runtime_PanicNilError⟩
theorem pl_internal_abi_TFlag : Plain Pg T.internal_abi_TFlag := ⟨fun _ => by kernel_rfl, fun _ => by kernel_rfl⟩
instance : PlainC Pg 196 := ⟨pl_internal_abi_TFlag⟩
theorem u_internal_abi_TFlag : Pg.underlying T.internal_abi_TFlag = some (.int .u8) := by kernel_rfl
instance : IntC Pg 196 .u8 := ⟨u_internal_abi_TFlag⟩
theorem z_internal_abi_TFlag (w : World) : (zeroValue T.internal_abi_TFlag).run Pg w = .ok (.int .u8 0) w := by kernel_rfl
instance : ZeroC Pg 196 (.int .u8 0) := ⟨z_internal_abi_TFlag⟩
theorem pl_internal_abi_Kind : Plain Pg T.internal_abi_Kind := ⟨fun _ => by kernel_rfl, fun _ => by kernel_rfl⟩
instance : PlainC Pg 197 := ⟨pl_internal_abi_Kind⟩
theorem u_internal_abi_Kind : Pg.underlying T.internal_abi_Kind = some (.int .u8) := by kernel_rfl
instance : IntC Pg 197 .u8 := ⟨u_internal_abi_Kind⟩
theorem z_internal_abi_Kind (w : World) : (zeroValue T.internal_abi_Kind).run Pg w = .ok (.int .u8 0) w := by kernel_rfl
instance : ZeroC Pg 197 (.int .u8 0) := ⟨z_internal_abi_Kind⟩
theorem pl_fn_198 : Plain Pg T.fn_198 := ⟨fun _ => by kernel_rfl, fun _ => by kernel_rfl⟩
instance : PlainC Pg 198 := ⟨pl_fn_198⟩
instance : FuncC Pg 198 := ⟨by kernel_rfl⟩
theorem z_fn_198 (w : World) : (zeroValue T.fn_198).run Pg w = .ok .nilFunc w := by kernel_rfl
instance : ZeroC Pg 198 .nilFunc := ⟨z_fn_198⟩
theorem pl_internal_abi_NameOff : Plain Pg T.internal_abi_NameOff := ⟨fun _ => by kernel_rfl, fun _ => by kernel_rfl⟩
instance : PlainC Pg 199 := ⟨pl_internal_abi_NameOff⟩
theorem u_internal_abi_NameOff : Pg.underlying T.internal_abi_NameOff = some (.int .i32) := by kernel_rfl
instance : IntC Pg 199 .i32 := ⟨u_internal_abi_NameOff⟩
theorem z_internal_abi_NameOff (w : World) : (zeroValue T.internal_abi_NameOff).run Pg w = .ok (.int .i32 0) w := by kernel_rfl
instance : ZeroC Pg 199 (.int .i32 0) := ⟨z_internal_abi_NameOff⟩
theorem pl_internal_abi_TypeOff : Plain Pg T.internal_abi_TypeOff := ⟨fun _ => by kernel_rfl, fun _ => by kernel_rfl⟩
instance : PlainC Pg 200 := ⟨pl_internal_abi_TypeOff⟩
theorem u_internal_abi_TypeOff : Pg.underlying T.internal_abi_TypeOff = some (.int .i32) := by kernel_rfl
instance : IntC Pg 200 .i32 := ⟨u_internal_abi_TypeOff⟩
theorem z_internal_abi_TypeOff (w : World) : (zeroValue T.internal_abi_TypeOff).run Pg w = .ok (.int .i32 0) w := by kernel_rfl
instance : ZeroC Pg 200 (.int .i32 0) := ⟨z_internal_abi_TypeOff⟩
theorem ag_st_201 : Agg Pg T.st_201 11 := ⟨fun _ => by kernel_rfl, fun _ => by kernel_rfl⟩
instance : AggC Pg 201 11 := ⟨ag_st_201⟩
theorem z_st_201 (w : World) : (zeroValue T.st_201).run Pg w = .ok (.agg #[(.int .u64 0), (.int .u64 0), (.int .u32 0), (.int .u8 0), (.int .u8 0), (.int .u8 0), (.int .u8 0), .nilFunc, (.pointer none), (.int .i32 0), (.int .i32 0)]) w := by kernel_rfl
instance : ZeroC Pg 201 (.agg #[(.int .u64 0), (.int .u64 0), (.int .u32 0), (.int .u8 0), (.int .u8 0), (.int .u8 0), (.int .u8 0), .nilFunc, (.pointer none), (.int .i32 0), (.int .i32 0)]) := ⟨z_st_201⟩
theorem fa_st_201_Size_ {b o : Nat} (w : World) : (Instr.fieldAt T.st_201 (.pointer (some ⟨b, o, none⟩)) 0).run Pg w = .ok (.pointer (some ⟨b, o + 0, none⟩)) w := fieldAt_of (ty := 12) (n := 1) (by kernel_rfl) (fun _ => by kernel_rfl) (by kernel_rfl) w
instance : FieldC Pg 201 0 0 := ⟨fun _ _ w => fa_st_201_Size_ w⟩
theorem fa_st_201_PtrBytes {b o : Nat} (w : World) : (Instr.fieldAt T.st_201 (.pointer (some ⟨b, o, none⟩)) 1).run Pg w = .ok (.pointer (some ⟨b, o + 1, none⟩)) w := fieldAt_of (ty := 12) (n := 1) (by kernel_rfl) (fun _ => by kernel_rfl) (by kernel_rfl) w
instance : FieldC Pg 201 1 1 := ⟨fun _ _ w => fa_st_201_PtrBytes w⟩
theorem fa_st_201_Hash {b o : Nat} (w : World) : (Instr.fieldAt T.st_201 (.pointer (some ⟨b, o, none⟩)) 2).run Pg w = .ok (.pointer (some ⟨b, o + 2, none⟩)) w := fieldAt_of (ty := 152) (n := 1) (by kernel_rfl) (fun _ => by kernel_rfl) (by kernel_rfl) w
instance : FieldC Pg 201 2 2 := ⟨fun _ _ w => fa_st_201_Hash w⟩
theorem fa_st_201_TFlag {b o : Nat} (w : World) : (Instr.fieldAt T.st_201 (.pointer (some ⟨b, o, none⟩)) 3).run Pg w = .ok (.pointer (some ⟨b, o + 3, none⟩)) w := fieldAt_of (ty := 196) (n := 1) (by kernel_rfl) (fun _ => by kernel_rfl) (by kernel_rfl) w
instance : FieldC Pg 201 3 3 := ⟨fun _ _ w => fa_st_201_TFlag w⟩
theorem fa_st_201_Align_ {b o : Nat} (w : World) : (Instr.fieldAt T.st_201 (.pointer (some ⟨b, o, none⟩)) 4).run Pg w = .ok (.pointer (some ⟨b, o + 4, none⟩)) w := fieldAt_of (ty := 5) (n := 1) (by kernel_rfl) (fun _ => by kernel_rfl) (by kernel_rfl) w
instance : FieldC Pg 201 4 4 := ⟨fun _ _ w => fa_st_201_Align_ w⟩
theorem fa_st_201_FieldAlign_ {b o : Nat} (w : World) : (Instr.fieldAt T.st_201 (.pointer (some ⟨b, o, none⟩)) 5).run Pg w = .ok (.pointer (some ⟨b, o + 5, none⟩)) w := fieldAt_of (ty := 5) (n := 1) (by kernel_rfl) (fun _ => by kernel_rfl) (by kernel_rfl) w
instance : FieldC Pg 201 5 5 := ⟨fun _ _ w => fa_st_201_FieldAlign_ w⟩
theorem fa_st_201_Kind_ {b o : Nat} (w : World) : (Instr.fieldAt T.st_201 (.pointer (some ⟨b, o, none⟩)) 6).run Pg w = .ok (.pointer (some ⟨b, o + 6, none⟩)) w := fieldAt_of (ty := 197) (n := 1) (by kernel_rfl) (fun _ => by kernel_rfl) (by kernel_rfl) w
instance : FieldC Pg 201 6 6 := ⟨fun _ _ w => fa_st_201_Kind_ w⟩
theorem fa_st_201_Equal {b o : Nat} (w : World) : (Instr.fieldAt T.st_201 (.pointer (some ⟨b, o, none⟩)) 7).run Pg w = .ok (.pointer (some ⟨b, o + 7, none⟩)) w := fieldAt_of (ty := 198) (n := 1) (by kernel_rfl) (fun _ => by kernel_rfl) (by kernel_rfl) w
instance : FieldC Pg 201 7 7 := ⟨fun _ _ w => fa_st_201_Equal w⟩
theorem fa_st_201_GCData {b o : Nat} (w : World) : (Instr.fieldAt T.st_201 (.pointer (some ⟨b, o, none⟩)) 8).run Pg w = .ok (.pointer (some ⟨b, o + 8, none⟩)) w := fieldAt_of (ty := 139) (n := 1) (by kernel_rfl) (fun _ => by kernel_rfl) (by kernel_rfl) w
instance : FieldC Pg 201 8 8 := ⟨fun _ _ w => fa_st_201_GCData w⟩
theorem fa_st_201_Str {b o : Nat} (w : World) : (Instr.fieldAt T.st_201 (.pointer (some ⟨b, o, none⟩)) 9).run Pg w = .ok (.pointer (some ⟨b, o + 9, none⟩)) w := fieldAt_of (ty := 199) (n := 1) (by kernel_rfl) (fun _ => by kernel_rfl) (by kernel_rfl) w
instance : FieldC Pg 201 9 9 := ⟨fun _ _ w => fa_st_201_Str w⟩
theorem fa_st_201_PtrToThis {b o : Nat} (w : World) : (Instr.fieldAt T.st_201 (.pointer (some ⟨b, o, none⟩)) 10).run Pg w = .ok (.pointer (some ⟨b, o + 10, none⟩)) w := fieldAt_of (ty := 200) (n := 1) (by kernel_rfl) (fun _ => by kernel_rfl) (by kernel_rfl) w
instance : FieldC Pg 201 10 10 := ⟨fun _ _ w => fa_st_201_PtrToThis w⟩
theorem ag_internal_abi_Type : Agg Pg T.internal_abi_Type 11 := ⟨fun _ => by kernel_rfl, fun _ => by kernel_rfl⟩
instance : AggC Pg 202 11 := ⟨ag_internal_abi_Type⟩
theorem z_internal_abi_Type (w : World) : (zeroValue T.internal_abi_Type).run Pg w = .ok (.agg #[(.int .u64 0), (.int .u64 0), (.int .u32 0), (.int .u8 0), (.int .u8 0), (.int .u8 0), (.int .u8 0), .nilFunc, (.pointer none), (.int .i32 0), (.int .i32 0)]) w := by kernel_rfl
instance : ZeroC Pg 202 (.agg #[(.int .u64 0), (.int .u64 0), (.int .u32 0), (.int .u8 0), (.int .u8 0), (.int .u8 0), (.int .u8 0), .nilFunc, (.pointer none), (.int .i32 0), (.int .i32 0)]) := ⟨z_internal_abi_Type⟩
theorem fa_internal_abi_Type_Size_ {b o : Nat} (w : World) : (Instr.fieldAt T.internal_abi_Type (.pointer (some ⟨b, o, none⟩)) 0).run Pg w = .ok (.pointer (some ⟨b, o + 0, none⟩)) w := fieldAt_of (ty := 12) (n := 1) (by kernel_rfl) (fun _ => by kernel_rfl) (by kernel_rfl) w
instance : FieldC Pg 202 0 0 := ⟨fun _ _ w => fa_internal_abi_Type_Size_ w⟩
theorem fa_internal_abi_Type_PtrBytes {b o : Nat} (w : World) : (Instr.fieldAt T.internal_abi_Type (.pointer (some ⟨b, o, none⟩)) 1).run Pg w = .ok (.pointer (some ⟨b, o + 1, none⟩)) w := fieldAt_of (ty := 12) (n := 1) (by kernel_rfl) (fun _ => by kernel_rfl) (by kernel_rfl) w
instance : FieldC Pg 202 1 1 := ⟨fun _ _ w => fa_internal_abi_Type_PtrBytes w⟩
theorem fa_internal_abi_Type_Hash {b o : Nat} (w : World) : (Instr.fieldAt T.internal_abi_Type (.pointer (some ⟨b, o, none⟩)) 2).run Pg w = .ok (.pointer (some ⟨b, o + 2, none⟩)) w := fieldAt_of (ty := 152) (n := 1) (by kernel_rfl) (fun _ => by kernel_rfl) (by kernel_rfl) w
instance : FieldC Pg 202 2 2 := ⟨fun _ _ w => fa_internal_abi_Type_Hash w⟩
theorem fa_internal_abi_Type_TFlag {b o : Nat} (w : World) : (Instr.fieldAt T.internal_abi_Type (.pointer (some ⟨b, o, none⟩)) 3).run Pg w = .ok (.pointer (some ⟨b, o + 3, none⟩)) w := fieldAt_of (ty := 196) (n := 1) (by kernel_rfl) (fun _ => by kernel_rfl) (by kernel_rfl) w
instance : FieldC Pg 202 3 3 := ⟨fun _ _ w => fa_internal_abi_Type_TFlag w⟩
theorem fa_internal_abi_Type_Align_ {b o : Nat} (w : World) : (Instr.fieldAt T.internal_abi_Type (.pointer (some ⟨b, o, none⟩)) 4).run Pg w = .ok (.pointer (some ⟨b, o + 4, none⟩)) w := fieldAt_of (ty := 5) (n := 1) (by kernel_rfl) (fun _ => by kernel_rfl) (by kernel_rfl) w
instance : FieldC Pg 202 4 4 := ⟨fun _ _ w => fa_internal_abi_Type_Align_ w⟩
theorem fa_internal_abi_Type_FieldAlign_ {b o : Nat} (w : World) : (Instr.fieldAt T.internal_abi_Type (.pointer (some ⟨b, o, none⟩)) 5).run Pg w = .ok (.pointer (some ⟨b, o + 5, none⟩)) w := fieldAt_of (ty := 5) (n := 1) (by kernel_rfl) (fun _ => by kernel_rfl) (by kernel_rfl) w
instance : FieldC Pg 202 5 5 := ⟨fun _ _ w => fa_internal_abi_Type_FieldAlign_ w⟩
theorem fa_internal_abi_Type_Kind_ {b o : Nat} (w : World) : (Instr.fieldAt T.internal_abi_Type (.pointer (some ⟨b, o, none⟩)) 6).run Pg w = .ok (.pointer (some ⟨b, o + 6, none⟩)) w := fieldAt_of (ty := 197) (n := 1) (by kernel_rfl) (fun _ => by kernel_rfl) (by kernel_rfl) w
instance : FieldC Pg 202 6 6 := ⟨fun _ _ w => fa_internal_abi_Type_Kind_ w⟩
theorem fa_internal_abi_Type_Equal {b o : Nat} (w : World) : (Instr.fieldAt T.internal_abi_Type (.pointer (some ⟨b, o, none⟩)) 7).run Pg w = .ok (.pointer (some ⟨b, o + 7, none⟩)) w := fieldAt_of (ty := 198) (n := 1) (by kernel_rfl) (fun _ => by kernel_rfl) (by kernel_rfl) w
instance : FieldC Pg 202 7 7 := ⟨fun _ _ w => fa_internal_abi_Type_Equal w⟩
theorem fa_internal_abi_Type_GCData {b o : Nat} (w : World) : (Instr.fieldAt T.internal_abi_Type (.pointer (some ⟨b, o, none⟩)) 8).run Pg w = .ok (.pointer (some ⟨b, o + 8, none⟩)) w := fieldAt_of (ty := 139) (n := 1) (by kernel_rfl) (fun _ => by kernel_rfl) (by kernel_rfl) w
instance : FieldC Pg 202 8 8 := ⟨fun _ _ w => fa_internal_abi_Type_GCData w⟩
theorem fa_internal_abi_Type_Str {b o : Nat} (w : World) : (Instr.fieldAt T.internal_abi_Type (.pointer (some ⟨b, o, none⟩)) 9).run Pg w = .ok (.pointer (some ⟨b, o + 9, none⟩)) w := fieldAt_of (ty := 199) (n := 1) (by kernel_rfl) (fun _ => by kernel_rfl) (by kernel_rfl) w
instance : FieldC Pg 202 9 9 := ⟨fun _ _ w => fa_internal_abi_Type_Str w⟩
theorem fa_internal_abi_Type_PtrToThis {b o : Nat} (w : World) : (Instr.fieldAt T.internal_abi_Type (.pointer (some ⟨b, o, none⟩)) 10).run Pg w = .ok (.pointer (some ⟨b, o + 10, none⟩)) w := fieldAt_of (ty := 200) (n := 1) (by kernel_rfl) (fun _ => by kernel_rfl) (by kernel_rfl) w
instance : FieldC Pg 202 10 10 := ⟨fun _ _ w => fa_internal_abi_Type_PtrToThis w⟩
end Go.Sx
end

section
/-
  DERIVED: THE SHELF's CONTRACTS AT THIS DUMP, IN PLAIN WORDS (tools/lay-plain.mjs out of 'TryzShelf.lean', which tools/lay-shelf.mjs wrote): THE SAME DECLARATIONS UNDER THE SAME NAMES: 'import', 'namespace', 'open', 'def', 'theorem' AND NOTHING ELSE: no command of the shelf's: FOR A HAND-IN. Each laying: the table of numbers ('.._ren') and one theorem, a field a fact of the dump's own or the kernel's comparison; each contract: ONE APPLICATION.
-/
namespace Go.Proofs
open Go.Shelf
def Tryz.lays169_ren : Go.Shelf.Ren := ⟨fun | 169 => 52 | n => n, fun | 70 => 103 | 9 => 9 | 0 => 0 | 72 => 105 | 37 => 42 | 127 => 139 | 3 => 3 | 5 => 5 | n => n, fun | n => n⟩
theorem Tryz.lays169 : Go.Proofs.Lays.n169 Tryz.prog Tryz.lays169_ren := {
  mixed := by kernel_rfl
  f169 := Tryz.func52.trans (congrArg some (by kernel_rfl))
  t0 := Tryz.underlying0
  a0 := Tryz.isAgg0
  z0 := Tryz.sizeOf0
  v0 := Tryz.zeroValue0
  t3 := Tryz.underlying3
  a3 := Tryz.isAgg3
  z3 := Tryz.sizeOf3
  v3 := Tryz.zeroValue3
  t9 := Tryz.underlying9
  a9 := Tryz.isAgg9
  z9 := Tryz.sizeOf9
  v9 := Tryz.zeroValue9
  t37 := Tryz.underlying42
  a37 := Tryz.isAgg42
  z37 := Tryz.sizeOf42
  v37 := Tryz.zeroValue42
  t70 := Tryz.underlying103
  a70 := Tryz.isAgg103
  z70 := Tryz.sizeOf103
  v70 := Tryz.zeroValue103
  t72 := Tryz.underlying105
  a72 := Tryz.isAgg105
  z72 := Tryz.sizeOf105
  v72 := Tryz.zeroValue105
  t127 := Tryz.underlying139
  a127 := Tryz.isAgg139
  z127 := Tryz.sizeOf139
  v127 := Tryz.zeroValue139 }
theorem Tryz.Builder_Extra_169 : Builder.Extra Tryz.prog Tryz.lays169_ren := {
  sizeBuilder := by kernel_rfl
  liesBuilder := by kernel_rfl
  t5 := Tryz.underlying5
  a5 := Tryz.isAgg5
  z5 := Tryz.sizeOf5
  v5 := Tryz.zeroValue5
  infoByte := by kernel_rfl
  cellsByte := by kernel_rfl
  sizeByte := by kernel_rfl
  neB5 := by decide }
open Go.RowKit in
theorem Tryz.Builder_String_any (B b : Nat) (l : List UInt8) (w : World) (h : Lib.IsBuilder 105 5 B b (Lib.byteCells l) w) (hBw : B ≤ w.heap.size) :
    Calls Tryz.prog 52 #[.pointer (some ⟨b, 0, none⟩)] w fun e w' => e = .returned (.string ⟨l.toArray⟩) ∧ Below B w w' := Any.Builder_String_any Tryz.lays169 Tryz.Builder_Extra_169 B b l w h hBw
def Tryz.lays160_ren : Go.Shelf.Ren := ⟨fun | 160 => 84 | 232 => 104 | 231 => 103 | 227 => 105 | 234 => 107 | 233 => 106 | 236 => 109 | 235 => 108 | 228 => 116 | 271 => 119 | 151 => 118 | 197 => 117 | 120 => 123 | 152 => 122 | 260 => 121 | 137 => 124 | 119 => 125 | 224 => 126 | 225 => 127 | 217 => 128 | 266 => 129 | n => n, fun | 9 => 9 | 4 => 4 | 3 => 3 | 5 => 5 | 117 => 169 | 116 => 168 | 0 => 0 | 124 => 172 | 21 => 21 | 105 => 178 | 46 => 126 | 119 => 183 | 139 => 186 | 138 => 185 | n => n, fun | 3 => 2 | 4 => 3 | n => n⟩
theorem Tryz.lays160 : Go.Proofs.Lays.n160 Tryz.prog Tryz.lays160_ren := {
  mixed := by kernel_rfl
  f119 := Tryz.func125.trans (congrArg some (by kernel_rfl))
  f120 := Tryz.func123.trans (congrArg some (by kernel_rfl))
  f137 := Tryz.func124.trans (congrArg some (by kernel_rfl))
  f151 := Tryz.func118.trans (congrArg some (by kernel_rfl))
  f152 := Tryz.func122.trans (congrArg some (by kernel_rfl))
  f160 := Tryz.func84.trans (congrArg some (by kernel_rfl))
  f197 := Tryz.func117.trans (congrArg some (by kernel_rfl))
  f217 := Tryz.func128.trans (congrArg some (by kernel_rfl))
  f224 := Tryz.func126.trans (congrArg some (by kernel_rfl))
  f225 := Tryz.func127.trans (congrArg some (by kernel_rfl))
  f227 := Tryz.func105.trans (congrArg some (by kernel_rfl))
  f228 := Tryz.func116.trans (congrArg some (by kernel_rfl))
  f231 := Tryz.func103.trans (congrArg some (by kernel_rfl))
  f232 := Tryz.func104.trans (congrArg some (by kernel_rfl))
  f233 := Tryz.func106.trans (congrArg some (by kernel_rfl))
  f234 := Tryz.func107.trans (congrArg some (by kernel_rfl))
  f235 := Tryz.func108.trans (congrArg some (by kernel_rfl))
  f236 := Tryz.func109.trans (congrArg some (by kernel_rfl))
  f260 := Tryz.func121.trans (congrArg some (by kernel_rfl))
  f266 := Tryz.func129.trans (congrArg some (by kernel_rfl))
  f271 := Tryz.func119.trans (congrArg some (by kernel_rfl))
  t0 := Tryz.underlying0
  a0 := Tryz.isAgg0
  z0 := Tryz.sizeOf0
  v0 := Tryz.zeroValue0
  t3 := Tryz.underlying3
  a3 := Tryz.isAgg3
  z3 := Tryz.sizeOf3
  v3 := Tryz.zeroValue3
  t4 := Tryz.underlying4
  a4 := Tryz.isAgg4
  z4 := Tryz.sizeOf4
  v4 := Tryz.zeroValue4
  t5 := Tryz.underlying5
  a5 := Tryz.isAgg5
  z5 := Tryz.sizeOf5
  v5 := Tryz.zeroValue5
  t9 := Tryz.underlying9
  a9 := Tryz.isAgg9
  z9 := Tryz.sizeOf9
  v9 := Tryz.zeroValue9
  t21 := Tryz.underlying21
  a21 := Tryz.isAgg21
  z21 := Tryz.sizeOf21
  v21 := Tryz.zeroValue21
  t46 := Tryz.underlying126
  a46 := Tryz.isAgg126
  z46 := Tryz.sizeOf126
  v46 := Tryz.zeroValue126
  t105 := Tryz.underlying178
  a105 := Tryz.isAgg178
  z105 := Tryz.sizeOf178
  v105 := Tryz.zeroValue178
  t116 := Tryz.underlying168
  a116 := Tryz.isAgg168
  z116 := Tryz.sizeOf168
  t117 := Tryz.underlying169
  a117 := Tryz.isAgg169
  z117 := Tryz.sizeOf169
  v117 := Tryz.zeroValue169
  t119 := Tryz.underlying183
  a119 := Tryz.isAgg183
  z119 := Tryz.sizeOf183
  t124 := Tryz.underlying172
  a124 := Tryz.isAgg172
  z124 := Tryz.sizeOf172
  v124 := Tryz.zeroValue172
  t138 := Tryz.underlying185
  a138 := Tryz.isAgg185
  z138 := Tryz.sizeOf185
  v138 := Tryz.zeroValue185
  t139 := Tryz.underlying186
  a139 := Tryz.isAgg186
  z139 := Tryz.sizeOf186
  v139 := Tryz.zeroValue186
  g3 := by kernel_rfl
  g4 := by kernel_rfl }
open Go.RowKit in
theorem Tryz.strings_Trim_one (s : ByteArray) (c : UInt8) (hc : c.toNat < 128) (w : World) (hs : s.size ≤ 9223372036854775807) :
    Calls Tryz.prog 84 #[.string s, .string ⟨#[c]⟩] w fun e w' => e = .returned (.string ⟨(Lib.trimB s.data.toList c).toArray⟩) ∧ (w' = w ∨ w' = w.drew) := Any.strings_Trim_one Tryz.lays160 s c hc w hs
def Tryz.lays122_ren : Go.Shelf.Ren := ⟨fun | 122 => 80 | 215 => 101 | n => n, fun | 3 => 3 | 4 => 4 | n => n, fun | n => n⟩
theorem Tryz.lays122 : Go.Proofs.Lays.n122 Tryz.prog Tryz.lays122_ren := {
  mixed := by kernel_rfl
  f122 := Tryz.func80.trans (congrArg some (by kernel_rfl))
  f215 := Tryz.func101.trans (congrArg some (by kernel_rfl))
  t3 := Tryz.underlying3
  a3 := Tryz.isAgg3
  z3 := Tryz.sizeOf3
  v3 := Tryz.zeroValue3
  t4 := Tryz.underlying4
  a4 := Tryz.isAgg4
  z4 := Tryz.sizeOf4
  v4 := Tryz.zeroValue4 }
open Go.RowKit in
theorem Tryz.cmp_Compare_int (x y : Int) (w : World) :
    Calls Tryz.prog 80 #[.int .i64 x, .int .i64 y] w fun e w' => e = .returned (.int .i64 (Lib.compareInt x y)) ∧ w' = w := Any.cmp_Compare_int Tryz.lays122 x y w
def Tryz.lays105_ren : Go.Shelf.Ren := ⟨fun | 105 => 44 | 212 => 66 | 99 => 67 | 165 => 68 | 166 => 48 | 170 => 50 | 169 => 52 | 263 => 92 | 264 => 93 | 206 => 94 | 240 => 75 | 241 => 95 | 276 => 99 | 277 => 111 | n => n, fun | 9 => 9 | 3 => 3 | 4 => 4 | 20 => 20 | 0 => 0 | 46 => 126 | 109 => 127 | 5 => 5 | 72 => 105 | 76 => 108 | 51 => 152 | 146 => 153 | 53 => 155 | 148 => 156 | 70 => 103 | 37 => 42 | 75 => 107 | 127 => 139 | 164 => 159 | 80 => 112 | n => n, fun | n => n⟩
theorem Tryz.lays105 : Go.Proofs.Lays.n105 Tryz.prog Tryz.lays105_ren := {
  mixed := by kernel_rfl
  f99 := Tryz.func67.trans (congrArg some (by kernel_rfl))
  f105 := Tryz.func44.trans (congrArg some (by kernel_rfl))
  f165 := Tryz.func68.trans (congrArg some (by kernel_rfl))
  f166 := Tryz.func48.trans (congrArg some (by kernel_rfl))
  f169 := Tryz.func52.trans (congrArg some (by kernel_rfl))
  f170 := Tryz.func50.trans (congrArg some (by kernel_rfl))
  f206 := Tryz.func94.trans (congrArg some (by kernel_rfl))
  f212 := Tryz.func66.trans (congrArg some (by kernel_rfl))
  f240 := Tryz.func75.trans (congrArg some (by kernel_rfl))
  f241 := Tryz.func95.trans (congrArg some (by kernel_rfl))
  f263 := Tryz.func92.trans (congrArg some (by kernel_rfl))
  f264 := Tryz.func93.trans (congrArg some (by kernel_rfl))
  f276 := Tryz.func99.trans (congrArg some (by kernel_rfl))
  f277 := Tryz.func111.trans (congrArg some (by kernel_rfl))
  t0 := Tryz.underlying0
  a0 := Tryz.isAgg0
  z0 := Tryz.sizeOf0
  v0 := Tryz.zeroValue0
  t3 := Tryz.underlying3
  a3 := Tryz.isAgg3
  z3 := Tryz.sizeOf3
  v3 := Tryz.zeroValue3
  t4 := Tryz.underlying4
  a4 := Tryz.isAgg4
  z4 := Tryz.sizeOf4
  v4 := Tryz.zeroValue4
  t5 := Tryz.underlying5
  a5 := Tryz.isAgg5
  z5 := Tryz.sizeOf5
  v5 := Tryz.zeroValue5
  t9 := Tryz.underlying9
  a9 := Tryz.isAgg9
  z9 := Tryz.sizeOf9
  v9 := Tryz.zeroValue9
  t20 := Tryz.underlying20
  a20 := Tryz.isAgg20
  z20 := Tryz.sizeOf20
  v20 := Tryz.zeroValue20
  t37 := Tryz.underlying42
  a37 := Tryz.isAgg42
  z37 := Tryz.sizeOf42
  v37 := Tryz.zeroValue42
  t46 := Tryz.underlying126
  a46 := Tryz.isAgg126
  z46 := Tryz.sizeOf126
  v46 := Tryz.zeroValue126
  t51 := Tryz.underlying152
  a51 := Tryz.isAgg152
  z51 := Tryz.sizeOf152
  v51 := Tryz.zeroValue152
  t53 := Tryz.underlying155
  a53 := Tryz.isAgg155
  z53 := Tryz.sizeOf155
  v53 := Tryz.zeroValue155
  t70 := Tryz.underlying103
  a70 := Tryz.isAgg103
  z70 := Tryz.sizeOf103
  v70 := Tryz.zeroValue103
  t72 := Tryz.underlying105
  a72 := Tryz.isAgg105
  z72 := Tryz.sizeOf105
  v72 := Tryz.zeroValue105
  t75 := Tryz.underlying107
  a75 := Tryz.isAgg107
  z75 := Tryz.sizeOf107
  v75 := Tryz.zeroValue107
  t76 := Tryz.underlying108
  a76 := Tryz.isAgg108
  z76 := Tryz.sizeOf108
  v76 := Tryz.zeroValue108
  t109 := Tryz.underlying127
  a109 := Tryz.isAgg127
  z109 := Tryz.sizeOf127
  v109 := Tryz.zeroValue127
  t127 := Tryz.underlying139
  a127 := Tryz.isAgg139
  z127 := Tryz.sizeOf139
  v127 := Tryz.zeroValue139
  t146 := Tryz.underlying153
  a146 := Tryz.isAgg153
  z146 := Tryz.sizeOf153
  v146 := Tryz.zeroValue153
  t148 := Tryz.underlying156
  a148 := Tryz.isAgg156
  z148 := Tryz.sizeOf156
  v148 := Tryz.zeroValue156
  t164 := Tryz.underlying159
  a164 := Tryz.isAgg159
  z164 := Tryz.sizeOf159
  v164 := Tryz.zeroValue159 }
theorem Tryz.Builder_Extra_105 : Builder.Extra Tryz.prog Tryz.lays105_ren := {
  sizeBuilder := by kernel_rfl
  liesBuilder := by kernel_rfl
  t5 := Tryz.underlying5
  a5 := Tryz.isAgg5
  z5 := Tryz.sizeOf5
  v5 := Tryz.zeroValue5
  infoByte := by kernel_rfl
  cellsByte := by kernel_rfl
  sizeByte := by kernel_rfl
  neB5 := by decide }
open Go.RowKit Go.Lib in
theorem Tryz.strings_Repeat (s : ByteArray) (c : Nat) (w : World) (hc : c ≤ 9223372036854775807) (hlen : s.size * c ≤ 140737488355328) :
    Calls Tryz.prog 44 #[.string s, .int .i64 c] w fun e w' => e = .returned (.string ⟨(Lib.repeatL s.data.toList c).toArray⟩) ∧ Below w.heap.size w w' := Any.strings_Repeat Tryz.lays105 Tryz.Builder_Extra_105 s c w hc hlen
end Go.Proofs
end

section
/- The device: what it stands for, what its functions do. -/
set_option linter.unusedVariables false
set_option linter.unusedSimpArgs false
set_option maxRecDepth 100000
namespace Go.Sx
open Go Go.RowKit

abbrev Text := List UInt8

structure Dev where
  size : Int
  last : Int → Option Text
  wait : List (Int × Text)
  off : Bool
  fuse : Int
  keep : List Int
  cmds : Int

def wcells (l : List (Int × Text)) : List Value := l.flatMap fun x => [int x.1, str x.2]

structure DevRep (w : World) (b m : Nat) (d : Dev) (wv kv : Value) : Prop where
  at_ : w.heap[b]? = some (.cells [int d.size, .map (some m), wv, .bool d.off, int d.fuse, kv, int d.cmds].toArray T.device_Device (0, 0))
  map : MapI (w.heap[m]?) (fun k => (d.last k).map str)
  wait : Own w T.device_write 2 wv d.wait.length (wcells d.wait)
  keep : Own w 3 1 kv d.keep.length (d.keep.map int)
  rng : 0 ≤ d.fuse ∧ d.fuse < 9223372036854775808
  few : d.wait.length ≤ 100000

/-- A device by its pointer. -/
def IsDev (w : World) (v : Value) (m : Nat) (d : Dev) : Prop := ∃ b wv kv, v = .pointer (some ⟨b, 0, none⟩) ∧ DevRep w b m d wv kv

/-- What a device's functions may turn. -/
def devA (m : Nat) (k : Nat) (o : Obj) : Prop := tag o = some T.device_Device ∨ tag o = some T.device_write ∨ k = m

theorem w64 {a : Int} (h0 : 0 ≤ a) (h1 : a < 9223372036854775808) : IntKind.i64.wrap a = a := wrap_small a h0 h1

theorem DevRep.qt {w w' : World} {b m : Nat} {d : Dev} {wv kv : Value} (h : DevRep w b m d wv kv) (f : Qt w w') : DevRep w' b m d wv kv := by
  refine ⟨f.all h.at_, ?_, h.wait.qt f, h.keep.qt f, h.rng, h.few⟩
  obtain ⟨es, c, h1, h2⟩ := h.map
  exact ⟨es, c, f.all h1, h2⟩

variable {K : Value → World → Prop} {w : World}

theorem device_Size_c {v : Value} {m : Nat} {d : Dev} (h : IsDev w v m d) (k : K (int d.size) w) : call Pg F.device_Device_Size [v] K w := by
  obtain ⟨b, wv, kv, rfl, h⟩ := h
  have h0 := h.at_
  refine device_Device_Size_call ?_
  unfold device_Device_Size
  refine run_i s_ptr_eql ?_
  refine cnd_i (fun e => nomatch e) (fun _ => ?_)
  refine run_i (p_nil _) ?_
  refine run_i s_field ?_
  refine run_i (s_load (cellAt_l h0 rfl)) ?_
  refine lv_i ?_
  exact k

theorem build_of {t : TypeId} {parts : Array (Nat × Value)} {cells : Array Value} (h : Pg.built t parts.toList = some cells) (w : World) : (Instr.build t parts).run Pg w = .ok (.agg cells) w := run_build w t parts cells h

theorem device_New_no {n : Int} (h : n < 1 ∨ 4096 < n) (k : K (.tuple #[.pointer none, int 1]) w) : call Pg F.device_New [int n] K w := by
  refine device_New_call ?_
  unfold device_New
  refine run_i (p_lss _) ?_
  by_cases h1 : n < 1 <;> simp only [h1, decide_true, decide_false, gc_tt, gc_tf, gc_ft, gc_ff, pk_t, pk_f, cn_t, cn_f, Bool.not_true, Bool.not_false]
  · unfold device_New_g1
    simp only [pk_t, cn_t]
    exact k
  · refine run_i (p_gtr _) ?_
    unfold device_New_g1
    by_cases h2 : 4096 < n <;> simp only [h2, decide_true, decide_false, gc_tt, gc_tf, gc_ft, gc_ff, pk_t, pk_f, cn_t, cn_f, Bool.not_true, Bool.not_false]
    · exact k
    · omega

theorem device_New_c {n : Int} (h0 : 1 ≤ n) (h1 : n ≤ 4096) (k : ∀ b m w' , Qt w w' → w.heap.size ≤ m → DevRep w' b m ⟨n, fun _ => none, [], false, 0, [], 0⟩ (.slice none 0 0) (.slice none 0 0) → w.heap.size ≤ b → K (.tuple #[.pointer (some ⟨b, 0, none⟩), int 0]) w') :
    call Pg F.device_New [int n] K w := by
  refine device_New_call ?_
  unfold device_New
  refine run_i (p_lss _) ?_
  by_cases h2 : n < 1 <;> simp only [h2, decide_true, decide_false, gc_tt, gc_tf, gc_ft, gc_ff, pk_t, pk_f, cn_t, cn_f, Bool.not_true, Bool.not_false]
  · omega
  · refine run_i (p_gtr _) ?_
    unfold device_New_g1
    by_cases h3 : 4096 < n <;> simp only [h3, decide_true, decide_false, gc_tt, gc_tf, gc_ft, gc_ff, pk_t, pk_f, cn_t, cn_f, Bool.not_true, Bool.not_false]
    · omega
    · refine run_i r_makeMap ?_
      refine run_i (build_of (cells := #[int n, .map (some w.heap.size), .slice none 0 0, .bool false, int 0, .slice none 0 0, int 0]) (by kernel_rfl) _) ?_
      refine run_i s_box ?_
      refine k _ w.heap.size _ (((Frm.refl w).alloc _).alloc _) (Nat.le_refl _) ⟨?_, ?_, .nil, .nil, by simp, by simp⟩ ?_
      · exact hp_alloc_new
      · have := MapI.new
        rw [show ((w.alloc (Obj.map #[] 0)).alloc _).heap[w.heap.size]? = some (Obj.map #[] 0) from by (exact (old hp_alloc_new))]
        exact this
      · simp

theorem lens (l : List (Int × Text)) : (wcells l).length = l.length * 2 := by
  induction l with
  | nil => rfl
  | cons x l ih => simp only [wcells, List.flatMap_cons, List.length_append, List.length_cons, List.length_nil] at ih ⊢; omega

theorem wcells_get (l : List (Int × Text)) (i : Nat) (h : i < l.length) : (wcells l)[i * 2]? = some (int (l[i]).1) ∧ (wcells l)[i * 2 + 1]? = some (str (l[i]).2) := by
  induction l generalizing i with
  | nil => simp at h
  | cons x l ih =>
    cases i with
    | zero => simp [wcells]
    | succ i =>
      have := ih i (by simpa using h)
      simp only [wcells, List.flatMap_cons] at this ⊢
      have e1 : (i + 1) * 2 = i * 2 + 1 + 1 := by omega
      rw [e1]
      simpa using this


theorem own_cell {e n : Nat} {v : Value} {l : List (Int × Text)} (h : Own w e 2 v n (wcells l)) (hn : n = l.length) {i : Nat} (hi : i < l.length) :
    ∃ g cap rest, v = .slice (some ⟨g, 0, none⟩) n cap ∧ w.heap[g]? = some (.cells (wcells l ++ rest).toArray e (0, 0)) ∧ ((wcells l ++ rest).drop (i * 2)).take 2 = [int (l[i]).1, str (l[i]).2] ∧ i * 2 + 2 ≤ (wcells l ++ rest).length := by
  obtain ⟨h0, ⟨_, h⟩ | ⟨g, cap, rest, h1, h2, h3, h4, h5⟩⟩ := h
  · omega
  · refine ⟨g, cap, rest, h1, h2, ?_, ?_⟩
    · obtain ⟨e1, e2⟩ := wcells_get l i hi
      have hl := lens l
      apply List.ext_getElem?
      intro j
      rw [List.getElem?_take, List.getElem?_drop]
      match j with
      | 0 => simp only [Nat.add_zero]; rw [if_pos (by omega), List.getElem?_append_left (by omega), e1]; rfl
      | 1 => rw [if_pos (by omega), List.getElem?_append_left (by omega), e2]; rfl
      | j + 2 => rw [if_neg (by omega)]; rfl
    · rw [List.length_append, lens]; omega

theorem bw_c1 {y wv : Value} {c : Nat} {l : List (Int × Text)} (I : Nat → World → Prop) (hl : l.length ≤ 100000) (hI : I l.length w)
    (hcell : ∀ k w, I k w → cellAt (w.heap[c]?) 0 = some wv ∧ Own w T.device_write 2 wv l.length (wcells l))
    (step : ∀ k w, (hk : k < l.length) → I (k + 1) w → ∀ K' : Value → World → Prop, (∀ w', I k w' → K' (.bool true) w') → (∀ w', K (.tuple #[]) w' → K' (.bool false) w') → callV Pg y [int k, .agg #[int (l[k]).1, str (l[k]).2]] K' w)
    (done : ∀ w, I 0 w → K (.tuple #[]) w) : callS Pg F.slices_Backward_evice_write_device_write_c1 [y, .pointer (some ⟨c, 0, none⟩)] K w := by
  refine slices_Backward_evice_write_device_write_c1_callS ?_
  unfold slices_Backward_evice_write_device_write_c1
  obtain ⟨hc, ho⟩ := hcell _ _ hI
  refine run_i (s_load hc) ?_
  have hlen : ∃ a cap, wv = .slice a l.length cap := by
    obtain ⟨_, ⟨rfl, h⟩ | ⟨g, cap, rest, h1, _⟩⟩ := ho
    · exact ⟨none, 0, by rw [h]⟩
    · exact ⟨_, _, h1⟩
  obtain ⟨a, cap, rfl⟩ := hlen
  refine run_i s_len_sl ?_
  refine run_i (p_sub _) ?_
  have e0 : IntKind.i64.wrap ((l.length : Int) - 1) = (l.length : Int) - 1 := by
    unfold IntKind.wrap; simp [IntKind.bits, IntKind.signed]; omega
  rw [e0]
  refine Lp_inv (slices_Backward_evice_write_device_write_c1_l1_mono K) (fun st w => ∃ k : Nat, st = ([], y, .pointer (some ⟨c, 0, none⟩), int ((k : Int) - 1)) ∧ k ≤ l.length ∧ I k w)
    (fun st _ => match st.2.2.2 with | .int _ k => (k + 1).toNat | _ => 0) ⟨l.length, rfl, Nat.le_refl _, hI⟩ ?_
  rintro st w ⟨k, rfl, hk, hI⟩
  unfold slices_Backward_evice_write_device_write_c1_l1
  refine run_i (p_geq _) ?_
  refine cnd_dec (fun h => ?_) (fun h => ?_)
  · obtain ⟨k, rfl⟩ : ∃ k', k = k' + 1 := ⟨k - 1, by omega⟩
    have ek : ((k + 1 : Nat) : Int) - 1 = k := by omega
    simp only [ek]
    obtain ⟨hc, ho⟩ := hcell _ _ hI
    refine run_i (s_load hc) ?_
    obtain ⟨g, cap', rest, e1, h2, h3, h4⟩ := own_cell ho rfl (i := k) (by omega)
    cases e1
    refine run_i (s_index (by omega) (by omega)) ?_
    refine run_i (s_loadA h2 (by simpa using h4)) ?_
    simp only [Int.toNat_natCast, Nat.zero_add, h3]
    refine step k w (by omega) hI _ ?_ ?_
    · intro w' h
      refine run_i (p_not _) ?_
      simp only [cn_f, Bool.not_true]
      refine run_i (p_sub _) ?_
      refine ⟨⟨k, ?_, by omega, h⟩, ?_⟩
      · have : IntKind.i64.wrap ((k : Int) - 1) = (k : Int) - 1 := by
          unfold IntKind.wrap; simp [IntKind.bits, IntKind.signed]; omega
        rw [this]
      · have : IntKind.i64.wrap ((k : Int) - 1) = (k : Int) - 1 := by
          unfold IntKind.wrap; simp [IntKind.bits, IntKind.signed]; omega
        rw [this]; simp
    · intro w' h
      refine run_i (p_not _) ?_
      exact h
  · have : k = 0 := by omega
    subst this
    exact done w hI

theorem call_of_calls {f : FuncId} {fn : Func} {c : Code} {args : List Value} {R : Ending → World → Prop} (h1 : Pg.funcs[f]? = some fn) (h2 : (fn.name == "runtime.NumGoroutine") = false) (h3 : fn.body = some c)
    (h : Calls Pg f args.toArray w R) (k : ∀ e w', R e w' → ∃ v, e = .returned v ∧ K v w') : call Pg f args K w :=
  .inl ⟨Go.Proofs.enters_of h1 h2 h3 _ _, h.mono fun e w' hr => by obtain ⟨v, rfl, hk⟩ := k e w' hr; exact hk⟩

theorem repeatL_one (x : UInt8) (n : Nat) : Lib.repeatL [x] n = List.replicate n x := by
  induction n with
  | zero => rfl
  | succ n ih => simp only [Lib.repeatL] at ih ⊢; simp [ih, List.replicate_succ]

theorem noughts_c {n : Nat} (hn : n ≤ 100000) (k : ∀ w', Qt w w' → K (str (List.replicate n 0)) w') : call Pg F.strings_Repeat [str [0], int n] K w := by
  refine call_of_calls (c := (Go.Proofs.Tryz.f44.body).getD .skip) Go.Proofs.Tryz.func44 (by kernel_rfl) (by kernel_rfl) (Go.Proofs.Tryz.strings_Repeat _ n w (by omega) (by rw [size_mk]; simp; omega)) ?_
  rintro e w' ⟨rfl, hb⟩
  refine ⟨_, rfl, ?_⟩
  have := k w' (.of_below hb)
  rw [show str (List.replicate n 0) = Value.string { data := (Lib.repeatL (ByteArray.mk [(0 : UInt8)].toArray).data.toList n).toArray } from by simp [str, repeatL_one]] at this
  exact this


def Dev.read (d : Dev) (i : Int) : Text := ((d.wait.reverse.find? (fun x => decide (x.1 = i))).map Prod.snd).getD ((d.last i).getD (List.replicate 256 0))

theorem find_none {l : List (Int × Text)} {i : Int} (h : ∀ j, (hj : j < l.length) → (l[j]).1 ≠ i) : l.reverse.find? (fun x => decide (x.1 = i)) = none := by
  rw [List.find?_eq_none]
  intro x hx
  obtain ⟨j, hj, rfl⟩ := List.mem_iff_getElem.1 (List.mem_reverse.1 hx)
  simpa using h j hj

theorem find_at {l : List (Int × Text)} {i : Int} {k : Nat} (hk : k < l.length) (h1 : (l[k]).1 = i) (h : ∀ j, k < j → (hj : j < l.length) → (l[j]).1 ≠ i) : l.reverse.find? (fun x => decide (x.1 = i)) = some l[k] := by
  have e : l = l.take k ++ l[k] :: l.drop (k + 1) := by simp
  have e2 : (l.drop (k + 1)).reverse.find? (fun x => decide (x.1 = i)) = none := find_none fun j hj => by
    rw [List.getElem_drop]
    exact h _ (by omega) _
  have e3 : l.reverse = (l.drop (k + 1)).reverse ++ (l[k] :: (l.take k).reverse) := by
    have := congrArg List.reverse e
    rw [List.reverse_append, List.reverse_cons, List.append_assoc] at this
    exact this
  rw [e3, List.find?_append, e2]
  simp [h1]

theorem device_Read_j1_c {w0 : World} {v : Value} {m : Nat} {d : Dev} {i : Int} {c4 c5 ci : Nat} (hq : Qt w0 w) (hd : IsDev w v m d) (h3 : w.heap[ci]? = some (.cells [int i].toArray T.i64_2 (0, 0)))
    (h4 : w.heap[c4]? = some (.cells [str []].toArray T.string (0, 0))) (h5 : w.heap[c5]? = some (.cells [int 0].toArray T.api_Errno (0, 0))) (hi : w0.heap.size ≤ ci) (hn4 : w0.heap.size ≤ c4) (hn5 : w0.heap.size ≤ c5)
    (n34 : ci ≠ c4) (n35 : ci ≠ c5) (n45 : c4 ≠ c5)
    (k : ∀ w', Qt w0 w' → K (.tuple #[str (d.read i), int 0]) w') : device_Device_Read_j1 K [] v (.pointer (some ⟨ci, 0, none⟩)) (.pointer (some ⟨c4, 0, none⟩)) (.pointer (some ⟨c5, 0, none⟩)) w := by
  obtain ⟨b, wv, kv, rfl, hd⟩ := hd
  have h0 := hd.at_
  obtain ⟨wa, wn, wc, rfl⟩ : ∃ a n c, wv = .slice a n c := by
    obtain ⟨_, ⟨rfl, _⟩ | ⟨g, cap, rest, h1, _⟩⟩ := hd.wait
    · exact ⟨_, _, _, rfl⟩
    · exact ⟨_, _, _, h1⟩
  unfold device_Device_Read_j1
  refine run_i (p_nil _) ?_
  refine run_i s_field ?_
  refine run_i (s_load (cellAt_l h0 rfl)) ?_
  refine slices_Backward_evice_write_device_write_call ?_
  unfold slices_Backward_evice_write_device_write
  refine run_i s_box ?_
  refine run_i (w' := _) (v := .func (.func F.slices_Backward_evice_write_device_write_c1) ⟨[]⟩ ⟨[.pointer (some ⟨w.heap.size, 0, none⟩)]⟩) rfl ?_
  refine ⟨_, _, rfl, fun lp hlp y hy H => ?_⟩
  obtain ⟨rec, hlp⟩ := hlp
  have hsz : ∀ (w : World) (o : Obj), (w.alloc o).heap.size = w.heap.size + 1 := fun _ _ => sz_alloc
  obtain ⟨s, hs0⟩ : ∃ s, s = w.heap.size := ⟨_, rfl⟩
  obtain ⟨D, hD0⟩ : ∃ D, D = (w.alloc (.cells #[.slice wa wn wc] T.s_device_write)).heap.size := ⟨_, rfl⟩
  obtain ⟨L, hL0⟩ : ∃ L, L = D + 1 := ⟨_, rfl⟩
  have eD : D = s + 1 := by rw [hD0, hs0, sz_alloc]
  have l3 := lt_of h3
  have l4 := lt_of h4
  have l5 := lt_of h5
  have hqs := hq.size
  have fin : ∀ w' t, Qt w0 w' → t = d.read i → w'.heap[D]? = some (.deferred (some [])) → w'.heap[c4]? = some (.cells [str t].toArray T.string (0, 0)) → w'.heap[c5]? = some (.cells [int 0].toArray T.api_Errno (0, 0)) →
      leaveW Pg [{ target := .collected D, args := #[] }] (fun w => rn Pg (fun w' => w' = w) (loadS 9 (.pointer (some ⟨c4, 0, none⟩))) (fun t4_31 w =>
        rn Pg (fun w' => w' = w) (loadS 25 (.pointer (some ⟨c5, 0, none⟩))) (fun t5_32 w => K (.tuple #[t4_31, t5_32]) w) w) w) w' := by
    intro w' t q ht hD h4' h5'
    refine ⟨hD, ?_⟩
    have n1 : c4 ≠ D := by omega
    have n2 : c5 ≠ D := by omega
    refine lv_i ?_
    refine rnR_i (s_loadS (cellAt_l (put_other h4' (by first | omega | (simp only [sz_alloc, sz_put, sz_drew]; omega))) rfl)) ?_
    refine rnR_i (s_loadS (cellAt_l (put_other h5' (by first | omega | (simp only [sz_alloc, sz_put, sz_drew]; omega))) rfl)) ?_
    rw [ht]
    exact k _ (q.put_new _ (by omega))
  have hdw := hd.wait
  show callS Pg F.slices_Backward_evice_write_device_write_c1 [y, .pointer (some ⟨w.heap.size, 0, none⟩)] _ _
  rw [← hs0]
  refine bw_c1 (wv := .slice wa wn wc) (l := d.wait) (fun k w1 => Qt w w1 ∧ w1.heap[L]? = some (lp .ready none) ∧ w1.heap[D]? = some (.deferred (some [])) ∧
    w1.heap[s]? = some (.cells [.slice wa wn wc].toArray T.s_device_write (0, 0)) ∧ ∀ j, k ≤ j → (hj : j < d.wait.length) → (d.wait[j]).1 ≠ i) hd.few ?_ ?_ ?_ ?_
  · refine ⟨(((Frm.refl w).alloc _).alloc _).alloc _, ?_, ?_, ?_, fun j h hj => by omega⟩
    · rw [hL0, hD0, ← sz_alloc (o := .deferred (some []))]; exact hp_alloc_new
    · rw [hD0]; exact old hp_alloc_new
    · rw [hs0]; exact old (old hp_alloc_new)
  · rintro k w1 ⟨q, _, _, hs, _⟩
    exact ⟨cellAt_l hs rfl, hdw.qt q⟩
  · rintro k w1 hk ⟨q, hL, hD, hs, hno⟩ K' kt kf
    refine H _ _ _ rfl (by rw [← hD0, ← hL0]; exact hL) ?_
    dsimp only [List.tail_cons, List.headD_cons]
    rw [← hD0, ← hL0]
    have g3 := q.all h3
    have g4 := q.all h4
    have g5 := q.all h5
    have m3 := lt_of g3
    have m4 := lt_of g4
    have m5 := lt_of g5
    have mL := lt_of hL
    have mD := lt_of hD
    have lne : ∀ o, some (lp .ready none) = some o → o = lp .ready none := fun o h => by cases h; rfl
    refine run_i s_alloc ?_
    refine runU_i (s_storeW hp_alloc_new rfl (by simp [Value.oneCell', str]) rfl) ?_
    refine ⟨by (exact (put_other (old hL) (by first | omega | (simp only [sz_alloc, sz_put, sz_drew]; omega)))), ?_⟩
    have nL4 : c4 ≠ L := by omega
    have nL5 : c5 ≠ L := by omega
    have nL3 : ci ≠ L := by omega
    refine run_i s_field ?_
    refine run_i (s_load (cellAt_l (put_other (hp_put_same (lt_of hp_alloc_new)) (by first | omega | (simp only [sz_alloc, sz_put, sz_drew]; omega))) rfl)) ?_
    refine run_i (s_load (cellAt_l (put_other (put_other (old g3) (by first | omega | (simp only [sz_alloc, sz_put, sz_drew]; omega))) (by first | omega | (simp only [sz_alloc, sz_put, sz_drew]; omega))) rfl)) ?_
    refine run_i (p_eql _) ?_
    refine cnd_dec (fun he => ?_) (fun he => ?_)
    · refine run_i s_field ?_
      refine run_i (s_load (cellAt_l (put_other (hp_put_same (lt_of hp_alloc_new)) (by first | omega | (simp only [sz_alloc, sz_put, sz_drew]; omega))) rfl)) ?_
      refine runU_i (s_store (put_other (put_other (old g4) (by first | omega | (simp only [sz_alloc, sz_put, sz_drew]; omega))) (by first | omega | (simp only [sz_alloc, sz_put, sz_drew]; omega))) rfl (by simp <;> omega)) ?_
      refine runU_i (s_store (put_other (put_other (put_other (old g5) (by first | omega | (simp only [sz_alloc, sz_put, sz_drew]; omega))) (by first | omega | (simp only [sz_alloc, sz_put, sz_drew]; omega))) (by first | omega | (simp only [sz_alloc, sz_put, sz_drew]; omega))) rfl (by simp <;> omega)) ?_
      refine ⟨by (exact (put_other (put_other (hp_put_same (lt_of (put_other (old hL) (by first | omega | (simp only [sz_alloc, sz_put, sz_drew]; omega))))) (by first | omega | (simp only [sz_alloc, sz_put, sz_drew]; omega))) (by first | omega | (simp only [sz_alloc, sz_put, sz_drew]; omega)))), ?_⟩
      refine kf _ ⟨.done, some .ret, by simp, ?_, ?_⟩
      · rw [← hD0, ← hL0]
        exact (hp_put_same (lt_of (put_other (put_other (hp_put_same (lt_of (put_other (old hL) (by first | omega | (simp only [sz_alloc, sz_put, sz_drew]; omega))))) (by first | omega | (simp only [sz_alloc, sz_put, sz_drew]; omega))) (by first | omega | (simp only [sz_alloc, sz_put, sz_drew]; omega)))))
      · rw [← hD0, ← hL0]
        refine fin _ (d.wait[k]).2 ?_ ?_ ?_ ?_ ?_
        · have q' : Qt w0 w1 := hq.trans q
          have := q'.size
          exact ((((((q'.alloc _).put_new _ (by omega)).put_new _ (by omega)).put_new _ (by omega)).put_new _ (by omega)).put_new _ (by omega)).put_new _ (by omega)
        · unfold Dev.read
          rw [find_at hk he (fun j h1 h2 => hno j (by omega) h2)]
          rfl
        · exact (put_other (put_other (put_other (put_other (put_other (put_other (old hD) (by first | omega | (simp only [sz_alloc, sz_put, sz_drew]; omega))) (by first | omega | (simp only [sz_alloc, sz_put, sz_drew]; omega))) (by first | omega | (simp only [sz_alloc, sz_put, sz_drew]; omega))) (by first | omega | (simp only [sz_alloc, sz_put, sz_drew]; omega))) (by first | omega | (simp only [sz_alloc, sz_put, sz_drew]; omega))) (by first | omega | (simp only [sz_alloc, sz_put, sz_drew]; omega)))
        · exact (put_other (put_other (put_other (hp_put_same (lt_of (put_other (put_other (old g4) (by first | omega | (simp only [sz_alloc, sz_put, sz_drew]; omega))) (by first | omega | (simp only [sz_alloc, sz_put, sz_drew]; omega))))) (by first | omega | (simp only [sz_alloc, sz_put, sz_drew]; omega))) (by first | omega | (simp only [sz_alloc, sz_put, sz_drew]; omega))) (by first | omega | (simp only [sz_alloc, sz_put, sz_drew]; omega)))
        · exact (put_other (put_other (hp_put_same (lt_of (put_other (put_other (put_other (old g5) (by first | omega | (simp only [sz_alloc, sz_put, sz_drew]; omega))) (by first | omega | (simp only [sz_alloc, sz_put, sz_drew]; omega))) (by first | omega | (simp only [sz_alloc, sz_put, sz_drew]; omega))))) (by first | omega | (simp only [sz_alloc, sz_put, sz_drew]; omega))) (by first | omega | (simp only [sz_alloc, sz_put, sz_drew]; omega)))
    · refine ⟨by (exact (hp_put_same (lt_of (put_other (old hL) (by first | omega | (simp only [sz_alloc, sz_put, sz_drew]; omega)))))), ?_⟩
      refine kt _ ⟨?_, ?_, ?_, ?_, ?_⟩
      · have := q.size
        exact (((q.alloc _).put_new _ (by omega)).put_new _ (by omega)).put_new _ (by omega)
      · exact (hp_put_same (lt_of (hp_put_same (lt_of (put_other (old hL) (by first | omega | (simp only [sz_alloc, sz_put, sz_drew]; omega)))))))
      · exact (put_other (put_other (put_other (old hD) (by first | omega | (simp only [sz_alloc, sz_put, sz_drew]; omega))) (by first | omega | (simp only [sz_alloc, sz_put, sz_drew]; omega))) (by first | omega | (simp only [sz_alloc, sz_put, sz_drew]; omega)))
      · exact (put_other (put_other (put_other (old hs) (by first | omega | (simp only [sz_alloc, sz_put, sz_drew]; omega))) (by first | omega | (simp only [sz_alloc, sz_put, sz_drew]; omega))) (by first | omega | (simp only [sz_alloc, sz_put, sz_drew]; omega)))
      · intro j h1 h2
        by_cases e : j = k
        · subst e; exact he
        · exact hno j (by omega) h2
  · rintro w1 ⟨q, hL, hD, hs, hno⟩
    refine ⟨.ready, none, by simp, by rw [← hD0, ← hL0]; exact hL, ?_⟩
    rw [← hD0, ← hL0]
    dsimp only [jumpN]
    obtain ⟨es, mc, hme, hmi⟩ := hd.map
    have lm := lt_of hme
    have lb := lt_of h0
    have g0 := q.all h0
    have gm := q.all hme
    have g3 := q.all h3
    have g4 := q.all h4
    have g5 := q.all h5
    have hrd : d.read i = (d.last i).getD (List.replicate 256 0) := by
      unfold Dev.read
      rw [find_none (fun j hj => hno j (by omega) hj)]
      rfl
    have q' : Qt w0 w1 := hq.trans q
    have := q'.size
    refine rnT_i (fun _ => (p_nil _)) ?_
    refine rnT_i (fun _ => s_field) ?_
    refine rnR_i (s_load (cellAt_l (drew_at (put_other g0 (by first | omega | (simp only [sz_alloc, sz_put, sz_drew]; omega)))) rfl)) ?_
    refine rnR_i (s_load (cellAt_l (drew_at (put_other g3 (by first | omega | (simp only [sz_alloc, sz_put, sz_drew]; omega)))) rfl)) ?_
    refine rnR_i (s_lookup ⟨es, mc, by (exact (drew_at (put_other gm (by first | omega | (simp only [sz_alloc, sz_put, sz_drew]; omega))))), hmi⟩) ?_
    refine rnT_i (fun _ => (s_extract rfl)) ?_
    refine rnT_i (fun _ => (s_extract rfl)) ?_
    cases hl : d.last i with
    | some t =>
      refine cn_ti ?_
      refine runU_i (s_store (drew_at (put_other g4 (by first | omega | (simp only [sz_alloc, sz_put, sz_drew]; omega)))) rfl (by simp <;> omega)) ?_
      refine runU_i (s_store (put_other (drew_at (put_other g5 (by first | omega | (simp only [sz_alloc, sz_put, sz_drew]; omega)))) (by first | omega | (simp only [sz_alloc, sz_put, sz_drew]; omega))) rfl (by simp <;> omega)) ?_
      refine fin _ t ?_ (by rw [hrd, hl]; rfl) ?_ ?_ ?_
      · exact (((q'.put_new _ (by omega)).drew).put_new _ (by omega)).put_new _ (by omega)
      · exact (put_other (put_other (drew_at (put_other hD (by first | omega | (simp only [sz_alloc, sz_put, sz_drew]; omega)))) (by first | omega | (simp only [sz_alloc, sz_put, sz_drew]; omega))) (by first | omega | (simp only [sz_alloc, sz_put, sz_drew]; omega)))
      · exact (put_other (hp_put_same (lt_of (drew_at (put_other g4 (by first | omega | (simp only [sz_alloc, sz_put, sz_drew]; omega)))))) (by first | omega | (simp only [sz_alloc, sz_put, sz_drew]; omega)))
      · exact (hp_put_same (lt_of (put_other (drew_at (put_other g5 (by first | omega | (simp only [sz_alloc, sz_put, sz_drew]; omega)))) (by first | omega | (simp only [sz_alloc, sz_put, sz_drew]; omega)))))
    | none =>
      refine cn_fi ?_
      refine noughts_c (n := 256) (by omega) (fun w2 q2 => ?_)
      have a3 := q2.all (show (w1.putObj L (lp LoopState.exhausted none)).drew.heap[c4]? = some (.cells [str []].toArray T.string (0, 0)) by (exact (drew_at (put_other g4 (by first | omega | (simp only [sz_alloc, sz_put, sz_drew]; omega))))))
      have a4 := q2.all (show (w1.putObj L (lp LoopState.exhausted none)).drew.heap[c5]? = some (.cells [int 0].toArray T.api_Errno (0, 0)) by (exact (drew_at (put_other g5 (by first | omega | (simp only [sz_alloc, sz_put, sz_drew]; omega))))))
      have a5 := q2.all (show (w1.putObj L (lp LoopState.exhausted none)).drew.heap[D]? = some (.deferred (some [])) by (exact (drew_at (put_other hD (by first | omega | (simp only [sz_alloc, sz_put, sz_drew]; omega))))))
      refine runU_i (s_store a3 rfl (by simp <;> omega)) ?_
      refine runU_i (s_store (put_other a4 (by first | omega | (simp only [sz_alloc, sz_put, sz_drew]; omega))) rfl (by simp <;> omega)) ?_
      refine fin _ _ ?_ (by rw [hrd, hl]) ?_ ?_ ?_
      · exact ((((q'.put_new _ (by omega)).drew).trans q2).put_new _ (by omega)).put_new _ (by omega)
      · exact (put_other (put_other a5 (by first | omega | (simp only [sz_alloc, sz_put, sz_drew]; omega))) (by first | omega | (simp only [sz_alloc, sz_put, sz_drew]; omega)))
      · exact (put_other (hp_put_same (lt_of a3)) (by first | omega | (simp only [sz_alloc, sz_put, sz_drew]; omega)))
      · exact (hp_put_same (lt_of (put_other a4 (by first | omega | (simp only [sz_alloc, sz_put, sz_drew]; omega)))))

theorem device_Read_c {v : Value} {m : Nat} {d : Dev} {i : Int} (hd : IsDev w v m d) (hoff : d.off = false) (h0 : 0 ≤ i) (h1 : i < d.size) (k : ∀ w', Qt w w' → K (.tuple #[str (d.read i), int 0]) w') : call Pg F.device_Device_Read [v, int i] K w := by
  obtain ⟨b, wv, kv, rfl, hd'⟩ := hd
  have ha := hd'.at_
  rw [hoff] at ha
  have lb := lt_of ha
  refine device_Device_Read_call ?_
  unfold device_Device_Read
  refine run_i s_box ?_
  refine run_i s_alloc ?_
  refine run_i s_alloc ?_
  refine run_i s_ptr_eql ?_
  refine cn_fi ?_
  refine run_i (p_nil _) ?_
  refine run_i s_field ?_
  refine run_i (s_load (cellAt_l (old (old (old ha))) rfl)) ?_
  refine cn_fi ?_
  refine rnR_i (s_load (cellAt_l (drew_at (old (old hp_alloc_new))) rfl)) ?_
  refine rnT_i (fun _ => (p_lss _)) ?_
  by_cases h2 : i < 0 <;> simp only [h2, decide_true, decide_false, gc_tt, gc_tf, gc_ft, gc_ff, pk_t, pk_f, cn_t, cn_f, Bool.not_true, Bool.not_false]
  · omega
  · refine rnR_i (s_load (cellAt_l (drew_at (old (old hp_alloc_new))) rfl)) ?_
    refine rnT_i (fun _ => (p_nil _)) ?_
    refine rnT_i (fun _ => s_field) ?_
    refine rnR_i (s_load (cellAt_l (drew_at (old (old (old ha)))) rfl)) ?_
    refine rnT_i (fun _ => (p_geq _)) ?_
    unfold device_Device_Read_g2
    by_cases h3 : d.size ≤ i <;> simp only [h3, decide_true, decide_false, gc_tt, gc_tf, gc_ft, gc_ff, pk_t, pk_f, cn_t, cn_f, Bool.not_true, Bool.not_false]
    · omega
    · have qq : Qt w (((w.alloc (.cells [int i].toArray 3)).alloc (.cells [str []].toArray 9)).alloc (.cells [int 0].toArray 25)).drew := ((((Frm.refl w).alloc _).alloc _).alloc _).drew
      refine device_Read_j1_c (w0 := w) (m := m) (d := d) (i := i) qq ⟨b, wv, kv, rfl, hd'.qt qq⟩ ?_ ?_ ?_ ?_ ?_ ?_ ?_ ?_ ?_ k
      · exact (drew_at (old (old hp_alloc_new)))
      · exact (drew_at (old hp_alloc_new))
      · exact (drew_at hp_alloc_new)
      all_goals first | omega | (simp only [sz_alloc]; omega)

theorem device_Read_off {v : Value} {m : Nat} {d : Dev} {i : Int} (hd : IsDev w v m d) (hoff : d.off = true) (k : ∀ w', Qt w w' → K (.tuple #[str [], int 7]) w') : call Pg F.device_Device_Read [v, int i] K w := by
  obtain ⟨b, wv, kv, rfl, hd'⟩ := hd
  have ha := hd'.at_
  rw [hoff] at ha
  have lb := lt_of ha
  refine device_Device_Read_call ?_
  unfold device_Device_Read
  refine run_i s_box ?_
  refine run_i s_alloc ?_
  refine run_i s_alloc ?_
  refine run_i s_ptr_eql ?_
  refine cn_fi ?_
  refine run_i (p_nil _) ?_
  refine run_i s_field ?_
  refine run_i (s_load (cellAt_l (old (old (old ha))) rfl)) ?_
  refine cn_ti ?_
  refine runU_i (s_store (old hp_alloc_new) rfl (by simp <;> omega)) ?_
  refine runU_i (s_store (put_other hp_alloc_new (by first | omega | (simp only [sz_alloc, sz_put, sz_drew]; omega))) rfl (by simp <;> omega)) ?_
  refine lv_i ?_
  refine rnR_i (s_loadS (cellAt_l (put_other (hp_put_same (lt_of (old hp_alloc_new))) (by first | omega | (simp only [sz_alloc, sz_put, sz_drew]; omega))) rfl)) ?_
  refine rnR_i (s_loadS (cellAt_l (hp_put_same (lt_of (put_other hp_alloc_new (by first | omega | (simp only [sz_alloc, sz_put, sz_drew]; omega))))) rfl)) ?_
  simp only [str_lit]
  skip
  refine k _ ?_
  exact (((((Frm.refl w).alloc _).alloc _).alloc _).put_new _ (by simp only [sz_alloc]; omega)).put_new _ (by simp only [sz_alloc]; omega)
end Go.Sx
end

section
/- Sums: the register by four bits, as the machine turns it. -/
set_option linter.unusedVariables false
set_option linter.unusedSimpArgs false
set_option maxRecDepth 100000
namespace Go.Sx
open Go Go.RowKit
variable {K : Value → World → Prop} {w : World}

def turnsL : List Int := [0, 498536548, 997073096, 651767980, 1994146192, 1802195444, 1303535960, 1342533948, 3988292384, 4027552580, 3604390888, 3412177804, 2607071920, 2262029012, 2685067896, 3183342108]

def Glob (w : World) : Prop := ∃ fz, w.heap[0]? = some (.cells (turnsL.map (Value.int .u32)).toArray T.a16_u32 fz)
theorem Glob.qt {w' : World} (h : Glob w) (q : Qt w w') : Glob w' := by obtain ⟨fz, h⟩ := h; exact ⟨fz, q.all h⟩

def bxor (a b : Int) : Int := bitv (fun _ x y => x ^^^ y) .u32 a b
def band (a b : Int) : Int := bitv (fun _ x y => x &&& y) .u32 a b
def nib (r : Int) : Int := bxor (r.fdiv (2 ^ (min (4 : Int).toNat IntKind.u32.bits))) (turnsL.getD (band r 15).toNat 0)
def tstep (r : Int) (x : UInt8) : Int := nib (nib (bxor r (IntKind.u32.wrap x.toNat)))
def tsum (s : Text) : Int := s.foldl tstep 4294967295
def csum (s : Text) : Int := bxor 4294967295 (tsum s)

theorem band_lt (r : Int) : 0 ≤ band r 15 ∧ band r 15 < 16 := by
  unfold band bitv
  have h : (BitVec.ofInt IntKind.u32.bits r &&& BitVec.ofInt IntKind.u32.bits 15).toNat < 16 := by
    rw [BitVec.toNat_and]
    have : (BitVec.ofInt IntKind.u32.bits 15).toNat = 15 := by decide
    rw [this]
    exact Nat.lt_of_le_of_lt Nat.and_le_right (by decide)
  generalize (BitVec.ofInt IntKind.u32.bits r &&& BitVec.ofInt IntKind.u32.bits 15).toNat = n at h
  have : IntKind.u32.wrap (n : Int) = n := by
    unfold IntKind.wrap; simp [IntKind.bits, IntKind.signed]; omega
  rw [this]; omega

theorem idx_arr {t e : TypeId} {len n b o : Nat} {k : IntKind} {i : Int} (ht : Pg.underlying t = some (.array len e)) (hs : ∀ w, (sizeOf e).run Pg w = .ok n w) (h0 : 0 ≤ i) (h1 : i < len) (w : World) :
    (Instr.indexAt t (.pointer (some ⟨b, o, none⟩)) (.int k i)).run Pg w = .ok (.pointer (some ⟨b, o + i.toNat * n, none⟩)) w := by
  simp [Instr.indexAt, asIntOf, go_sem, run_underlying ht, h0, h1, hs w, add_mk, Instr.sureAddr]

theorem idx_turn {i : Int} (h0 : 0 ≤ i) (h1 : i < 16) (w : World) : (Instr.indexAt T.a16_u32 (.pointer (some ⟨0, 0, none⟩)) (.int .u32 i)).run Pg w = .ok (.pointer (some ⟨0, 0 + i.toNat * 1, none⟩)) w := idx_arr (e := T.u32) (len := 16) (n := 1) (by kernel_rfl) (fun _ => by kernel_rfl) h0 h1 w

theorem turn_at {i : Int} (h0 : 0 ≤ i) (h1 : i < 16) (h : Glob w) : cellAt (w.heap[0]?) (0 + i.toNat * 1) = some (.int .u32 (turnsL.getD i.toNat 0)) := by
  obtain ⟨k, hk, hk'⟩ : ∃ k, i.toNat = k ∧ k < 16 := ⟨_, rfl, by omega⟩
  rw [hk]
  obtain ⟨fz, h⟩ := h
  rw [h]
  simp only [cellAt, Nat.zero_add, Nat.mul_one, List.getElem?_toArray, List.getElem?_map]
  have : k < turnsL.length := hk'
  simp [List.getElem?_eq_getElem this, List.getD]

theorem sum_Sum_c {s : Text} (hs : s.length ≤ 1000000) (hg : Glob w) (k : K (.int .u32 (csum s)) w) : call Pg F.sum_Sum [str s] K w := by
  refine sum_Sum_call ?_
  unfold sum_Sum
  refine run_i s_len_str ?_
  refine Lp_inv (sum_Sum_l2_mono K) (fun st w' => w' = w ∧ ∃ i : Nat, i ≤ s.length ∧ st = ([], str s, .int .u32 ((s.take i).foldl tstep 4294967295), int s.length, int i))
    (fun st _ => match st.2.2.2.2 with | .int _ k => (s.length - k).toNat | _ => 0) ⟨rfl, 0, by omega, rfl⟩ ?_
  rintro st w' ⟨rfl, i, hi, rfl⟩
  unfold sum_Sum_l2
  refine run_i (p_lss _) ?_
  refine cnd_dec (fun h => ?_) (fun h => ?_)
  · have hi' : i < s.length := by omega
    refine run_i (s_index_str (i := (i : Int)) (by omega) (by omega)) ?_
    refine run_i s_conv ?_
    refine run_i (p_xor _) ?_
    refine run_i (p_shr (by omega) _) ?_
    refine run_i (p_and _) ?_
    refine run_i (idx_turn (band_lt _).1 (band_lt _).2 _) ?_
    refine run_i (s_load (turn_at (band_lt _).1 (band_lt _).2 hg)) ?_
    refine run_i (p_xor _) ?_
    refine run_i (p_shr (by omega) _) ?_
    refine run_i (p_and _) ?_
    refine run_i (idx_turn (band_lt _).1 (band_lt _).2 _) ?_
    refine run_i (s_load (turn_at (band_lt _).1 (band_lt _).2 hg)) ?_
    refine run_i (p_xor _) ?_
    refine run_i (p_add _) ?_
    refine ⟨⟨rfl, i + 1, by omega, ?_⟩, ?_⟩
    · have e1 : IntKind.i64.wrap ((i : Int) + 1) = ((i + 1 : Nat) : Int) := by rw [w64 (by omega) (by omega)]; rfl
      rw [e1, List.take_add_one, List.getElem?_eq_getElem hi', List.foldl_append]
      have e2 : s.getD (i : Int).toNat 0 = s[i] := by simp [List.getD, hi']
      rw [e2]
      rfl
    · have e1 : IntKind.i64.wrap ((i : Int) + 1) = ((i + 1 : Nat) : Int) := by rw [w64 (by omega) (by omega)]; rfl
      simp only [e1]; omega
  · have : i = s.length := by omega
    subst this
    unfold sum_Sum_j1
    refine run_i (p_unxor _) ?_
    rw [List.take_length] at *
    exact k

theorem bslice_of {t e n by' len : Nat} {z : Value} {parts : Array (Nat × Value)} {cells : List Value} [ht : SliceC Pg t e n] [he : ElC Pg e n by' z] (h1 : ¬ len * n > 2 ^ 24) (h2 : ¬ len * n = 0)
    (h : Instr.fill (fun i => some (i * n, n)) ((Array.range (len * n)).map (z.cells[· % z.cells.size]!)) parts.toList = some cells.toArray) :
    (Instr.buildSlice t len parts).run Pg w = .ok (.slice (some ⟨w.heap.size, 0, none⟩) len len) (w.alloc (.cells cells.toArray e)) := by
  obtain ⟨i, hi, hz, hs, hby, hzs⟩ := he.get.get
  subst hs
  exact run_buildSlice w t e len parts _ i z ht.get.und hi hz h1 h2 h

theorem foldl_push (ns : List Int) : ∀ b : ByteArray, ns.foldl (fun r n => r.push (UInt8.ofNat n.toNat)) b = ⟨(b.data.toList ++ ns.map fun n => UInt8.ofNat n.toNat).toArray⟩ := by
  induction ns with
  | nil => intro b; simp
  | cons n ns ih =>
    intro b
    rw [List.foldl_cons, ih]
    congr 1
    simp [ByteArray.push]

theorem b2s_of {t d e b cap : Nat} {T : TypeId} {fz : Nat × Nat} {ns : List Int} {l : List Value} {m : Nat} (hu : Pg.underlying t = some (.slice e)) (he : Pg.underlying e = some (.int .u8)) (hd : Pg.underlying d = some .string)
    (hm : m = ns.length) (hl : w.heap[b]? = some (.cells l.toArray T fz)) (hp : l.take m = ns.map (Value.int .u8)) :
    (convert t d (.slice (some ⟨b, 0, none⟩) m cap)).run Pg w = .ok (str (ns.map fun n => UInt8.ofNat n.toNat)) w := by
  have h1 : (loadCells ⟨b, 0, none⟩ (ns.map (Value.int .u8)).length).run Pg w = .ok (ns.map (Value.int .u8)).toArray w := by
    refine run_loadCells_list w ⟨b, 0, none⟩ _ ?_
    intro j v hv
    rw [add_mk, cell_at, hl]
    rw [← hp, List.getElem?_take] at hv
    simp only [cellAt, Nat.zero_add, List.getElem?_toArray]
    split at hv
    · exact hv
    · cases hv
  rw [List.length_map, ← hm] at h1
  have h2 := run_bytesToString w ⟨b, 0, none⟩ m cap ns h1
  rw [foldl_push] at h2
  simp only [convert, Sem.run_bind, run_underlying hu, run_underlying hd, run_underlying he, Result.andThen]
  exact h2

def u8 (n : Int) : UInt8 := UInt8.ofNat (IntKind.u8.wrap n).toNat
def markT (s : Text) : Text := [u8 (csum s), u8 ((csum s).fdiv (2 ^ 8)), u8 ((csum s).fdiv (2 ^ 16)), u8 ((csum s).fdiv (2 ^ 24))]

theorem sum_mark_c {s : Text} (hs : s.length ≤ 1000000) (hg : Glob w) (k : ∀ w', Qt w w' → K (str (markT s)) w') : call Pg F.sum_mark [str s] K w := by
  refine sum_mark_call ?_
  unfold sum_mark
  refine sum_Sum_c hs hg ?_
  refine run_i s_conv ?_
  refine run_i (p_shr (by omega) _) ?_
  refine run_i s_conv ?_
  refine run_i (p_shr (by omega) _) ?_
  refine run_i s_conv ?_
  refine run_i (p_shr (by omega) _) ?_
  refine run_i s_conv ?_
  refine run_i (bslice_of (cells := [.int .u8 (IntKind.u8.wrap (csum s)), .int .u8 (IntKind.u8.wrap ((csum s).fdiv (2 ^ 8))), .int .u8 (IntKind.u8.wrap ((csum s).fdiv (2 ^ 16))), .int .u8 (IntKind.u8.wrap ((csum s).fdiv (2 ^ 24)))]) (by decide) (by decide) (by kernel_rfl)) ?_
  refine run_i (b2s_of (e := T.u8) (m := 4) (ns := [IntKind.u8.wrap (csum s), IntKind.u8.wrap ((csum s).fdiv (2 ^ 8)), IntKind.u8.wrap ((csum s).fdiv (2 ^ 16)), IntKind.u8.wrap ((csum s).fdiv (2 ^ 24))]) (by kernel_rfl) (by kernel_rfl) (by kernel_rfl) rfl hp_alloc_new rfl) ?_
  refine lv_i ?_
  exact k _ ((Frm.refl w).alloc _)

theorem sum_Open_c {s : Text} (hs : s.length ≤ 1000000) (h4 : 4 ≤ s.length) (hg : Glob w)
    (k : ∀ w', Qt w w' → K (if s.drop (s.length - 4) = markT (s.take (s.length - 4)) then .tuple #[str (s.take (s.length - 4)), int 0] else .tuple #[str [], int 5]) w') : call Pg F.sum_Open [str s] K w := by
  refine sum_Open_call ?_
  unfold sum_Open
  refine run_i s_len_str ?_
  refine run_i (p_lss _) ?_
  by_cases h1 : (s.length : Int) < 4 <;> simp only [h1, decide_true, decide_false, gc_tt, gc_tf, gc_ft, gc_ff, pk_t, pk_f, cn_t, cn_f, Bool.not_true, Bool.not_false]
  · omega
  · refine run_i s_len_str ?_
    refine run_i (p_sub _) ?_
    have e0 : IntKind.i64.wrap ((s.length : Int) - 4) = ((s.length - 4 : Nat) : Int) := by rw [w64 (by omega) (by omega)]; omega
    rw [e0]
    refine run_i (s_str_h (by omega) (by omega)) ?_
    refine rnT_i (fun _ => s_len_str) ?_
    refine rnT_i (fun _ => s_str_l (by omega) (by simp only [List.length_take]; omega)) ?_
    have q : Qt w w.drew := (Frm.refl w).drew
    refine sum_mark_c (by rw [List.length_take]; omega) (hg.qt q) (fun w' q' => ?_)
    have e1 : (s.take (s.length - 4)).length = s.length - 4 := by rw [List.length_take]; omega
    simp only [Int.toNat_natCast, e1]
    refine ⟨trivial, ?_⟩
    refine rnT_i (fun _ => (p_sne _)) ?_
    refine cnd_not (fun h => ?_) (fun h => ?_)
    · have := k w' (q.trans q')
      rw [if_neg h] at this
      exact this
    · have := k w' (q.trans q')
      rw [if_pos h] at this
      exact this
end Go.Sx
end

section
/- Rows that are read: slices of any shape; slices that are made. -/
set_option linter.unusedVariables false
set_option linter.unusedSimpArgs false
namespace Go.Sx
open Go Go.RowKit
variable {P : Program} {K : Value → World → Prop} {w : World}

/-- A slice of n elements of so many cells, that can be read. -/
def Rd (w : World) (e : TypeId) (size : Nat) (v : Value) (n : Nat) (xs : List Value) : Prop :=
  xs.length = n * size ∧ ∃ a cap, v = .slice a n cap ∧ n ≤ cap ∧ (0 < n → ∃ g o l fz, a = some ⟨g, o, none⟩ ∧ w.heap[g]? = some (.cells (List.toArray l) e fz) ∧ (l.drop o).take (n * size) = xs)

theorem Rd.of_own {e size n : Nat} {v : Value} {xs : List Value} (h : Own w e size v n xs) : Rd w e size v n xs := by
  obtain ⟨h0, ⟨rfl, rfl⟩ | ⟨g, cap, rest, rfl, hg, h3, h4, h5⟩⟩ := h
  · exact ⟨h0, none, 0, rfl, Nat.le_refl _, fun h => absurd h (by omega)⟩
  · refine ⟨h0, _, cap, rfl, h3, fun _ => ⟨g, 0, xs ++ rest, _, rfl, hg, ?_⟩⟩
    rw [List.drop_zero, ← h0, List.take_left]

theorem Rd.shape {e size n : Nat} {v : Value} {xs : List Value} (h : Rd w e size v n xs) : ∃ a cap, v = .slice a n cap := by
  obtain ⟨_, a, cap, rfl, _⟩ := h; exact ⟨a, cap, rfl⟩

theorem Rd.qt {w' : World} {e size n : Nat} {v : Value} {xs : List Value} (h : Rd w e size v n xs) (q : Qt w w') : Rd w' e size v n xs := by
  obtain ⟨h0, a, cap, rfl, hc, hr⟩ := h
  refine ⟨h0, a, cap, rfl, hc, fun hn => ?_⟩
  obtain ⟨g, o, l, fz, rfl, hg, hx⟩ := hr hn
  exact ⟨g, o, l, fz, rfl, q.all hg, hx⟩

theorem Rd.frm {A : Nat → Obj → Prop} {w' : World} {e size n : Nat} {v : Value} {xs : List Value} (h : Rd w e size v n xs) (q : Frm A w w') (hA : ∀ g c fz o n cap, v = .slice (some ⟨g, o, none⟩) n cap → ¬ A g (.cells c e fz)) : Rd w' e size v n xs := by
  obtain ⟨h0, a, cap, rfl, hc, hr⟩ := h
  refine ⟨h0, a, cap, rfl, hc, fun hn => ?_⟩
  obtain ⟨g, o, l, fz, rfl, hg, hx⟩ := hr hn
  exact ⟨g, o, l, fz, rfl, q.keep _ _ hg (hA _ _ _ _ _ _ rfl), hx⟩

theorem Rd.keep' {w' : World} {e size n : Nat} {v : Value} {xs : List Value} (h : Rd w e size v n xs) (hk : ∀ g l fz, 0 < n → w.heap[g]? = some (.cells l e fz) → (∃ o cap, v = .slice (some ⟨g, o, none⟩) n cap) → w'.heap[g]? = some (.cells l e fz)) : Rd w' e size v n xs := by
  obtain ⟨h0, a, cap, rfl, hc, hr⟩ := h
  refine ⟨h0, a, cap, rfl, hc, fun hn => ?_⟩
  obtain ⟨g, o, l, fz, rfl, hg, hx⟩ := hr hn
  exact ⟨g, o, l, fz, rfl, hk _ _ _ hn hg ⟨o, cap, rfl⟩, hx⟩

/-- an element's place. -/
theorem Rd.at_ {e size n : Nat} {v : Value} {xs : List Value} (h : Rd w e size v n xs) (hs : 0 < size) {i : Nat} (hi : i < n) :
    ∃ g o cap l fz, v = .slice (some ⟨g, o, none⟩) n cap ∧ n ≤ cap ∧ w.heap[g]? = some (.cells (List.toArray l) e fz) ∧ ((l.drop (o + i * size)).take size = (xs.drop (i * size)).take size) ∧ o + i * size + size ≤ l.length := by
  obtain ⟨h0, a, cap, rfl, hc, hr⟩ := h
  obtain ⟨g, o, l, fz, rfl, hg, hx⟩ := hr (by omega)
  have h2 : (i + 1) * size ≤ n * size := Nat.mul_le_mul_right _ hi
  have h3 : (i + 1) * size = i * size + size := by rw [Nat.add_mul]; omega
  have hlen : (l.drop o).length ≥ n * size := by
    have : ((l.drop o).take (n * size)).length = n * size := by rw [hx, h0]
    rw [List.length_take] at this; omega
  rw [List.length_drop] at hlen
  refine ⟨g, o, cap, l, fz, rfl, hc, hg, ?_, ?_⟩
  · rw [← hx, List.drop_take, List.take_take, List.drop_drop]
    congr 1
    omega
  · have : 0 < n * size := Nat.mul_pos (by omega) (by omega)
    omega

theorem Rd.get1 {e n : Nat} {v : Value} {xs : List Value} (h : Rd w e 1 v n xs) {i : Nat} (hi : i < n) :
    ∃ g o cap l fz, v = .slice (some ⟨g, o, none⟩) n cap ∧ w.heap[g]? = some (.cells (List.toArray l) e fz) ∧ l[o + i * 1]? = xs[i]? := by
  obtain ⟨g, o, cap, l, fz, hv, _, hg, hx, hl⟩ := h.at_ (by decide) hi
  refine ⟨g, o, cap, l, fz, hv, hg, ?_⟩
  have := congrArg (fun l : List Value => l[0]?) hx
  simpa [List.getElem?_take, List.getElem?_drop] using this

/-- an element of one cell is loaded. -/
theorem Rd.load {e n : Nat} {v u : Value} {xs : List Value} (h : Rd w e 1 v n xs) {i : Nat} (hi : i < n) (hu : xs[i]? = some u) {t te : TypeId} (ht : SliceT P t e 1) (hp : Plain P te) {j : Int} (hj : j = (i : Int))
    {Kp : Value → World → Prop} (k : Kp u w) : run P (Instr.indexAt t v (int j)) (fun p w => run P (Instr.loadAt te p) Kp w) w := by
  subst hj
  obtain ⟨g, o, cap, l, fz, rfl, hg, hx⟩ := h.get1 hi
  refine run_i (p_index ht (by omega) (by omega) _) ?_
  refine run_i (r_load hp (cellAt_l hg ?_)) k
  rw [Int.toNat_natCast, hx, hu]

/-- an element of several cells is loaded. -/
theorem Rd.loadA {e n size : Nat} {v : Value} {xs us : List Value} (h : Rd w e size v n xs) (hs : 0 < size) {i : Nat} (hi : i < n) (hu : (xs.drop (i * size)).take size = us) {t te : TypeId} (ht : SliceT P t e size) (hp : Agg P te size) {j : Int} (hj : j = (i : Int))
    {Kp : Value → World → Prop} (k : Kp (.agg us.toArray) w) : run P (Instr.indexAt t v (int j)) (fun p w => run P (Instr.loadAt te p) Kp w) w := by
  subst hj
  obtain ⟨g, o, cap, l, fz, rfl, _, hg, hx, hl⟩ := h.at_ hs hi
  refine run_i (p_index ht (by omega) (by omega) _) ?_
  refine run_i (r_load_agg hp hg (by rw [Int.toNat_natCast]; exact hl)) ?_
  rw [Int.toNat_natCast, hx, hu]
  exact k

theorem Rd.nil {e size : Nat} : Rd w e size (.slice none 0 0) 0 [] := ⟨by simp, none, 0, rfl, Nat.le_refl _, fun h => absurd h (by omega)⟩

/-- a part of it. -/
theorem Rd.part {e size n : Nat} {a : Option Addr} {cap : Nat} {xs : List Value} (h : Rd w e size (.slice a n cap) n xs) (hs : 0 < size) {l u : Nat} (h1 : l ≤ u) (h2 : u ≤ n) : Rd w e size (sliced a l u cap size) (u - l) ((xs.drop (l * size)).take ((u - l) * size)) := by
  obtain ⟨h0, a', cap', e1, hc, hr⟩ := h
  cases e1
  have e2 : (u - l) * size = u * size - l * size := Nat.sub_mul ..
  have e3 : u * size ≤ n * size := Nat.mul_le_mul_right _ h2
  have e4 : l * size ≤ u * size := Nat.mul_le_mul_right _ h1
  refine ⟨by rw [List.length_take, List.length_drop]; omega, ?_⟩
  by_cases hcl : cap = l
  · subst hcl
    refine ⟨a, 0, ?_, by omega, fun h => absurd h (by omega)⟩
    unfold sliced
    rw [if_pos (by omega)]
    congr 1 <;> omega
  · refine ⟨a.map (fun a => a.add (l * size)), cap - l, ?_, by omega, fun hn => ?_⟩
    · unfold sliced
      rw [if_neg hcl]
    · obtain ⟨g, o, l', fz, rfl, hg, hx⟩ := hr (by omega)
      refine ⟨g, o + l * size, l', fz, by simp [add_mk], hg, ?_⟩
      rw [← hx, List.drop_take, List.take_take, List.drop_drop]
      congr 1
      omega

theorem eqIn_slice {t e : TypeId} (ht : P.underlying t = some (.slice e)) {a : Option Addr} {n m : Nat} (d : Nat) (w : World) : (Op.equalIn (d + 1) t (.slice a n m) (.slice none 0 0)).run P w = .ok a.isNone w := by
  cases a <;> simp [Op.equalIn, run_underlying ht]
theorem s_sl_eql {t e n : TypeId} [ht : SliceC P t e n] {a : Option Addr} {l m : Nat} {c : Bool} {w : World} : (binS .eql t c (.slice a l m) (.slice none 0 0)).run P w = .ok (.bool a.isNone) w :=
  p_bin (fun _ => rfl) (fun w => eq_of (eqIn_slice ht.get.und) w) w
theorem s_sl_neq {t e n : TypeId} [ht : SliceC P t e n] {a : Option Addr} {l m : Nat} {c : Bool} {w : World} : (binS .neq t c (.slice a l m) (.slice none 0 0)).run P w = .ok (.bool !a.isNone) w :=
  p_bin (fun _ => rfl) (fun w => ne_of (eqIn_slice ht.get.und) w) w

theorem s_build0 {t e n : TypeId} [ht : SliceC P t e n] : (Instr.buildSlice t 0 #[]).run P w = .ok (.slice (some ⟨w.heap.size, 0, none⟩) 0 0) (w.alloc (.cells #[] e)) := by
  simp [Instr.buildSlice, run_underlying ht.get.und, ht.get.size, Instr.fill, newRow, go_sem]

/-- one element. -/
theorem s_build1 {t e n by' : TypeId} {z : Value} {v : Value} {l : List Value} [ht : SliceC P t e n] [he : ElC P e n by' z] [hv : CellsC v l] (h1 : Nat.ble n 1000 = true) (h2 : Nat.ble 1 n = true)
    (h : Instr.fill (fun i => some (i * n, n)) ((Array.range (1 * n)).map (z.cells[· % z.cells.size]!)) [(0, v)] = some l.toArray) :
    (Instr.buildSlice t 1 #[(0, v)]).run P w = .ok (.slice (some ⟨w.heap.size, 0, none⟩) 1 1) (w.alloc (.cells l.toArray e)) := by
  obtain ⟨i, hi, hz, hs, hby, hzs⟩ := he.get.get
  have h0' := Nat.le_of_ble_eq_true h1
  have h1' := Nat.le_of_ble_eq_true h2
  have hsmall : ¬ 1 * i.size > 2 ^ 24 := by rw [hs]; omega
  have hpos : ¬ 1 * i.size = 0 := by rw [hs]; omega
  rw [← hs] at h
  exact run_buildSlice w t e 1 _ _ i z ht.get.und hi hz hsmall hpos h

theorem s_loadW {t n b : Nat} [ht : AggC P t n] {l : List Value} {T : TypeId} {fz : Nat × Nat} (h : w.heap[b]? = some (.cells l.toArray T fz)) (hi : l.length = n) : (Instr.loadAt t (.pointer (some ⟨b, 0, none⟩))).run P w = .ok (.agg l.toArray) w := by
  have := r_load_agg (P := P) (i := 0) ht.get h (by omega)
  rw [List.drop_zero, List.take_of_length_le (by omega)] at this
  exact this

theorem take_snoc' {α : Type} {l : List α} {i : Nat} (h : i < l.length) : l.take (i + 1) = l.take i ++ [l[i]] := by
  rw [List.take_add_one, List.getElem?_eq_getElem h]; rfl

theorem Own.parts {e size n : Nat} {v : Value} {xs : List Value} (h : Own w e size v n xs) (hn : 0 < n) : ∃ g cap rest, v = .slice (some ⟨g, 0, none⟩) n cap ∧ w.heap[g]? = some (.cells (xs ++ rest).toArray e (0, 0)) ∧ n ≤ cap ∧ cap ≤ maxLen ∧ (xs ++ rest).length = cap * size := by
  obtain ⟨_, ⟨_, h⟩ | h⟩ := h
  · omega
  · exact h

theorem Own.mk' {e size n cap g : Nat} {l xs : List Value} (hl : w.heap[g]? = some (.cells l.toArray e (0, 0))) (h1 : l.take (n * size) = xs) (hn : n ≤ cap) (hc : cap ≤ maxLen) (hlen : l.length = cap * size) : Own w e size (.slice (some ⟨g, 0, none⟩) n cap) n xs := by
  have hle : n * size ≤ cap * size := Nat.mul_le_mul_right _ hn
  have e : l = xs ++ l.drop (n * size) := by rw [← h1, List.take_append_drop]
  refine ⟨by rw [← h1, List.length_take]; omega, .inr ⟨g, cap, l.drop (n * size), rfl, ?_, hn, hc, ?_⟩⟩
  · rw [← e]; exact hl
  · rw [← e]; exact hlen

theorem Own.empty {e size g : Nat} (h : w.heap[g]? = some (.cells #[] e (0, 0))) : Own w e size (.slice (some ⟨g, 0, none⟩) 0 0) 0 [] :=
  ⟨by simp, .inr ⟨g, 0, [], rfl, h, Nat.le_refl _, by decide, by simp⟩⟩

/-- append: what a slice of any shape has, behind an own one. -/
theorem s_append {t e ty : TypeId} {size bytes : Nat} {z : Value} [ht : SliceC P t e size] [he : ElC P e size bytes z] (hsz : Nat.ble 1 size = true) (hby : Nat.ble bytes 1000 = true)
    {v u : Value} {n m : Nat} {xs news : List Value} (hown : Own w e size v n xs) (hr : Rd w e size u m news) (h1 : ∀ u ∈ news, u.oneCell' = true) (h63 : n + m ≤ 1000000000)
    (k : ∀ v' w', Own w' e size v' (n + m) (xs ++ news) → Frm (fun b _ => v.ownBlock = some b) w w' → (v'.ownBlock = v.ownBlock ∨ v'.ownBlock = some w.heap.size) → (v' = .slice none 0 0 ↔ v = .slice none 0 0 ∧ m = 0) → K v' w') :
    run P (Builtin.append_ #[t, t] ty #[v, u]) K w := by
  have hby' : bytes ≤ 1000 := Nat.le_of_ble_eq_true hby
  obtain ⟨h0, a, cap, rfl, hc, hrr⟩ := hr
  have hb : (n + m) * bytes ≤ 140737488355328 := by
    have := Nat.mul_le_mul h63 hby'
    omega
  have hm63 : n + m ≤ maxLen := by simp [maxLen]; omega
  by_cases hm : 0 < m
  · obtain ⟨g, o, l, fz, rfl, hg, hx⟩ := hrr hm
    refine r_append (news := news) ht.get.und he.get hsz hown h0 ?_ h1 hm63 hb (fun v' w' h1 h2 h3 h4 => k v' w' h1 (.of_grown h2 (fun g o hg _ => hg)) h4 h3)
    exact CellsAt.cell ⟨l, _, _, hg, by rw [h0]; exact hx⟩
  · have hm0 : m = 0 := by omega
    subst hm0
    have hn0 : news = [] := List.eq_nil_of_length_eq_zero (by simpa using h0)
    subst hn0
    obtain ⟨sa, scap, hv⟩ : ∃ a c, v = .slice a n c := by
      obtain ⟨_, ⟨rfl, rfl⟩ | ⟨g, cap, rest, rfl, _⟩⟩ := hown
      · exact ⟨_, _, rfl⟩
      · exact ⟨_, _, rfl⟩
    have hcap : n ≤ scap := by
      obtain ⟨_, ⟨e1, rfl⟩ | ⟨g, cap, rest, e1, _, h, _⟩⟩ := hown
      · omega
      · rw [hv] at e1; cases e1; exact h
    obtain ⟨i, hi, hz, hs, hby2, hzs⟩ := he.get.get
    have hfc : (Builtin.firstCells size 0 (.slice a 0 cap)).run P w = .ok #[] w := by
      cases a with
      | none => simp [Builtin.firstCells, pure]
      | some a =>
        simp only [Builtin.firstCells, Nat.zero_mul]
        exact run_loadCells_list w a [] (fun j v h => by simp at h)
    have e : (Builtin.append_ #[t, t] ty #[v, .slice a 0 cap]).run P w = .ok v w := by
      subst hv
      cases sa with
      | none => simp [Builtin.append_, run_underlying ht.get.und, ht.get.size, Builtin.lenOf, hcap, hfc]
      | some sa => simp [Builtin.append_, run_underlying ht.get.und, ht.get.size, Builtin.lenOf, hcap, hfc, storeCells]
    refine run_i e (k v w ?_ (.refl _) (.inl rfl) ?_)
    · simpa using hown
    · simp

theorem Own.ne {e size n : Nat} {v : Value} {xs : List Value} {b : Nat} {c : Array Value} {Ty : TypeId} {fz : Nat × Nat} (h : Own w e size v n xs) (hb : w.heap[b]? = some (.cells c Ty fz)) (hne : e ≠ Ty) : v.ownBlock ≠ some b := by
  intro hg
  obtain ⟨l, hl⟩ := h.block hg
  rw [hl] at hb
  cases hb
  exact hne rfl

/-- x = append(x, v), x in a cell. -/
theorem s_push {t e ty size bytes : Nat} {z : Value} [ht : SliceC P t e size] [he : ElC P e size bytes z] [hp : PlainC P t] {x v : Value} {l : List Value} [hx : CellsC x l] (hsz : Nat.ble 1 size = true) (hs2 : Nat.ble size 1000 = true) (hby : Nat.ble bytes 1000 = true)
    (hfill : Instr.fill (fun i => some (i * size, size)) ((Array.range (1 * size)).map (z.cells[· % z.cells.size]!)) [(0, x)] = some l.toArray) (hl : l.length = size) (h1 : ∀ u ∈ l, u.oneCell' = true)
    {c o n : Nat} {cl xs : List Value} {Tc : TypeId} (hc : w.heap[c]? = some (.cells cl.toArray Tc (0, 0))) (hv : cl[o]? = some v) (hT : e ≠ Tc) (ho : Own w e size v n xs) (hn : n < 1000000) {K : World → Prop}
    (k : ∀ v' w', w'.heap[c]? = some (.cells (cl.set o v').toArray Tc (0, 0)) → Own w' e size v' (n + 1) (xs ++ l) → (∀ g, v'.ownBlock = some g → v.ownBlock = some g ∨ w.heap.size ≤ g) → Frm (fun b _ => b = c ∨ v.ownBlock = some b) w w' → K w') :
    run P (Instr.loadAt t (.pointer (some ⟨c, o, none⟩))) (fun t1 w => run P (Instr.buildSlice t 1 #[(0, x)]) (fun t2 w => run P (Builtin.append_ #[t, t] ty #[t1, t2]) (fun t3 w => runU P (Instr.storeAt t (.pointer (some ⟨c, o, none⟩)) t3) K w) w) w) w := by
  obtain ⟨sa, sc, rfl⟩ := (Rd.of_own ho).shape
  refine run_i (s_load (cellAt_l hc hv)) ?_
  refine run_i (s_build1 hs2 hsz hfill) ?_
  have q : Qt w (w.alloc (.cells l.toArray e)) := (Frm.refl w).alloc _
  have hrd : Rd (w.alloc (.cells l.toArray e)) e size (.slice (some ⟨w.heap.size, 0, none⟩) 1 1) 1 l := by
    refine ⟨by rw [hl, Nat.one_mul], _, 1, rfl, Nat.le_refl _, fun _ => ⟨_, 0, l, _, rfl, hp_alloc_new, ?_⟩⟩
    rw [List.drop_zero, Nat.one_mul, ← hl, List.take_length]
  refine s_append hsz hby (ho.qt q) hrd h1 (by omega) (fun v' w' ho' hfr hb _ => ?_)
  have hc1 := q.all hc
  have hne : (Value.slice sa n sc).ownBlock ≠ some c := ho.ne hc hT
  have hc2 := hfr.keep _ _ hc1 hne
  have lc := lt_of hc2
  have hol : o < cl.length := (List.getElem?_eq_some_iff.1 hv).1
  obtain ⟨sa', sc', rfl⟩ := (Rd.of_own ho').shape
  refine runU_i (s_store hc2 rfl hol) ?_
  refine k _ _ (hp_put_same lc) ?_ ?_ ?_
  · exact ho'.keep (fun g l' hg hl' => put_other hl' (fun e' => ho'.ne hc2 hT (by rw [hg, e'])))
  · intro g hg
    rcases hb with e | e
    · exact .inl (by rw [← e]; exact hg)
    · rw [e] at hg; cases hg; rw [sz_alloc]; exact .inr (by omega)
  · have f1 : Frm (fun b _ => b = c ∨ (Value.slice sa n sc).ownBlock = some b) w w' := ((Frm.refl w).alloc _).trans' hfr (fun b o hb hA e => hA (.inr e))
    exact f1.put_may _ (fun _ _ => .inl rfl)
end Go.Sx
end

section
/- Slices that come in as arguments. -/
set_option linter.unusedVariables false
set_option linter.unusedSimpArgs false
namespace Go.Sx
open Go Go.RowKit
variable {P : Program} {K : Value → World → Prop} {w : World}

/-- A slice of n elements of so many cells, whatever its row is. -/
def Ar (w : World) (size : Nat) (v : Value) (n : Nat) (xs : List Value) : Prop :=
  xs.length = n * size ∧ ∃ a cap, v = .slice a n cap ∧ (0 < n → ∃ g o, a = some ⟨g, o, none⟩ ∧ ∀ j, j < n * size → cellAt (w.heap[g]?) (o + j) = xs[j]?)

theorem cellAt_some {o : Option Obj} {i : Nat} {v : Value} (h : cellAt o i = some v) : ∃ ob, o = some ob := by
  cases o with
  | none => simp [cellAt] at h
  | some ob => exact ⟨ob, rfl⟩

theorem Ar.shape {size n : Nat} {v : Value} {xs : List Value} (h : Ar w size v n xs) : ∃ a cap, v = .slice a n cap := by
  obtain ⟨_, a, cap, rfl, _⟩ := h; exact ⟨a, cap, rfl⟩

theorem Ar.qt {w' : World} {size n : Nat} {v : Value} {xs : List Value} (h : Ar w size v n xs) (q : Qt w w') : Ar w' size v n xs := by
  obtain ⟨h0, a, cap, rfl, hr⟩ := h
  refine ⟨h0, a, cap, rfl, fun hn => ?_⟩
  obtain ⟨g, o, rfl, hx⟩ := hr hn
  refine ⟨g, o, rfl, fun j hj => ?_⟩
  have h1 := hx j hj
  have h2 : xs[j]? = some (xs[j]'(by omega)) := by rw [List.getElem?_eq_getElem]
  rw [h2] at h1 ⊢
  obtain ⟨ob, hob⟩ := cellAt_some h1
  rw [q.all hob]; rw [hob] at h1; exact h1

/-- an element's cells -/
theorem Ar.at_ {size n : Nat} {v : Value} {xs : List Value} (h : Ar w size v n xs) (hs : 0 < size) {i : Nat} (hi : i < n) :
    ∃ g o cap, v = .slice (some ⟨g, o, none⟩) n cap ∧ ∀ j, j < size → cellAt (w.heap[g]?) (o + i * size + j) = xs[i * size + j]? := by
  obtain ⟨h0, a, cap, rfl, hr⟩ := h
  obtain ⟨g, o, rfl, hx⟩ := hr (by omega)
  refine ⟨g, o, cap, rfl, fun j hj => ?_⟩
  have h2 : (i + 1) * size ≤ n * size := Nat.mul_le_mul_right _ hi
  have h3 : (i + 1) * size = i * size + size := by rw [Nat.add_mul]; omega
  rw [Nat.add_assoc]
  exact hx _ (by omega)

/-- an element of one cell is loaded. -/
theorem Ar.load {n : Nat} {v u : Value} {xs : List Value} (h : Ar w 1 v n xs) {i : Nat} (hi : i < n) (hu : xs[i]? = some u) {t te e : TypeId} (ht : SliceT P t e 1) (hp : Plain P te) {j : Int} (hj : j = (i : Int))
    {Kp : Value → World → Prop} (k : Kp u w) : run P (Instr.indexAt t v (int j)) (fun p w => run P (Instr.loadAt te p) Kp w) w := by
  subst hj
  obtain ⟨g, o, cap, rfl, hx⟩ := h.at_ (by decide) hi
  refine run_i (p_index ht (by omega) (by omega) _) ?_
  refine run_i (r_load hp ?_) k
  have := hx 0 (by decide)
  rw [Int.toNat_natCast]
  simp only [Nat.mul_one, Nat.add_zero] at this ⊢
  rw [this, hu]

/-- What a quiet run leaves. -/
theorem Qt.below {w w' : World} (q : Qt w w') : Below w.heap.size w w' :=
  ⟨q.os, q.tape, q.output, q.size, fun k hk => by rw [Array.getElem?_eq_getElem hk]; exact q.keep k _ (Array.getElem?_eq_getElem hk) (fun h => h)⟩
end Go.Sx
end

section
/- Pages: whole or not. -/
set_option linter.unusedVariables false
set_option linter.unusedSimpArgs false
set_option maxRecDepth 100000
namespace Go.Sx
open Go Go.RowKit
variable {K : Value → World → Prop} {w : World}

theorem trimL_nil (c : UInt8) (l : List UInt8) : Lib.trimLeftB l c = [] ↔ ∀ b ∈ l, b = c := by
  unfold Lib.trimLeftB
  induction l with
  | nil => simp
  | cons x l ih =>
    by_cases h : x = c
    · simp [List.dropWhile_cons, h, ih]
    · simp [List.dropWhile_cons, h]
theorem trimR_all (c : UInt8) (l : List UInt8) : (∀ b ∈ Lib.trimRightB l c, b = c) ↔ ∀ b ∈ l, b = c := by
  unfold Lib.trimRightB
  have key : ∀ l : List UInt8, (∀ b ∈ l.dropWhile (· == c), b = c) ↔ ∀ b ∈ l, b = c := by
    intro l
    induction l with
    | nil => simp
    | cons x l ih =>
      by_cases h : x = c
      · simp [List.dropWhile_cons, h, ih]
      · simp [List.dropWhile_cons, h]
  have := key l.reverse
  simpa using this
theorem trim_nil (c : UInt8) (l : List UInt8) : Lib.trimB l c = [] ↔ ∀ b ∈ l, b = c := by
  unfold Lib.trimB
  rw [trimL_nil, trimR_all]

def Nought (s : Text) : Prop := ∀ b ∈ s, b = 0
instance (s : Text) : Decidable (Nought s) := inferInstanceAs (Decidable (∀ b ∈ s, b = 0))
def WholeT (s : Text) : Prop := s.length = 512 ∧ (Nought s ∨ (s.drop 508 = markT (s.take 508) ∧ s.take 6 = (s.take 508).drop 502))
instance (s : Text) : Decidable (WholeT s) := inferInstanceAs (Decidable (_ ∧ _))

theorem page_noughts_c {s : Text} (hs : s.length ≤ 1000000) (k : ∀ w', Qt w w' → K (.bool (decide (Nought s))) w') : call Pg F.page_noughts [str s] K w := by
  refine page_noughts_call ?_
  unfold page_noughts
  refine call_of_calls (c := (Go.Proofs.Tryz.f84.body).getD .skip) Go.Proofs.Tryz.func84 (by kernel_rfl) (by kernel_rfl) (Go.Proofs.Tryz.strings_Trim_one ⟨s.toArray⟩ 0 (by decide) w (by rw [size_mk]; omega)) ?_
  rintro e w' ⟨rfl, hw⟩
  refine ⟨_, rfl, ?_⟩
  simp only [str_lit]
  refine run_i (p_seq _) ?_
  refine lv_i ?_
  have e : decide (Lib.trimB s 0 = []) = decide (Nought s) := by
    by_cases h : Nought s
    · rw [decide_eq_true h, decide_eq_true ((trim_nil 0 s).2 h)]
    · rw [decide_eq_false h, decide_eq_false (fun h' => h ((trim_nil 0 s).1 h'))]
  have := k w' (.of_drew_or hw)
  rw [← e] at this
  exact this

theorem page_Whole_c {s : Text} (hs : s.length ≤ 1000000) (hg : Glob w) (k : ∀ w', Qt w w' → K (.bool (decide (WholeT s))) w') : call Pg F.page_Whole [str s] K w := by
  refine page_Whole_call ?_
  unfold page_Whole
  refine run_i s_len_str ?_
  refine run_i (p_neq _) ?_
  by_cases hl : s.length = 512
  · have e : (s.length : Int) = 512 := by omega
    simp only [e, decide_true, Bool.not_true, cn_f]
    refine sum_Open_c hs (by omega) hg (fun w1 q1 => ?_)
    rw [hl]
    have q1d : Qt w w1.drew := q1.drew
    by_cases ho : s.drop 508 = markT (s.take 508)
    · rw [if_pos ho]
      refine run_i (s_extract rfl) ?_
      refine run_i (s_extract rfl) ?_
      refine page_noughts_c hs (fun w2 q2 => ?_)
      refine ⟨trivial, ?_⟩
      have fin := k w2 (q1d.trans q2)
      by_cases hn : Nought s
      · have hW : WholeT s := ⟨hl, .inl hn⟩
        simp only [hn, hW, decide_true, gc_tf] at fin ⊢
        unfold page_Whole_g1 page_Whole_g2 page_Whole_g3
        exact fin
      · simp only [hn, decide_false, gc_ff]
        refine rnT_i (fun _ => (p_eql _)) ?_
        unfold page_Whole_g1
        simp only [decide_true]
        refine gc_tti ?_
        refine rnT_i (fun _ => s_str_h (by omega) (by rw [List.length_take]; omega)) ?_
        refine rnT_i (fun _ => s_str_l (by omega) (by rw [List.length_take]; omega)) ?_
        refine rnT_i (fun _ => (p_seq _)) ?_
        unfold page_Whole_g2 page_Whole_g3
        refine gc_ffi ?_
        refine pk_ti ?_
        refine pk_fi ?_
        refine lv_i ?_
        have e2 : decide (WholeT s) = decide ((s.take 508).take (6 : Int).toNat = (s.take 508).drop (502 : Int).toNat) := by
          have e3 : (s.take 508).take (6 : Int).toNat = s.take 6 := by
            rw [List.take_take]; rfl
          rw [e3]
          apply decide_eq_decide.2
          exact ⟨fun h => (h.2.resolve_left hn).2, fun h => ⟨hl, .inr ⟨ho, h⟩⟩⟩
        rw [e2] at fin
        exact fin
    · rw [if_neg ho]
      refine run_i (s_extract rfl) ?_
      refine run_i (s_extract rfl) ?_
      refine page_noughts_c hs (fun w2 q2 => ?_)
      refine ⟨trivial, ?_⟩
      have fin := k w2 (q1d.trans q2)
      by_cases hn : Nought s
      · have hW : WholeT s := ⟨hl, .inl hn⟩
        simp only [hn, hW, decide_true, gc_tf] at fin ⊢
        unfold page_Whole_g1 page_Whole_g2 page_Whole_g3
        exact fin
      · have hW : ¬ WholeT s := fun h => h.2.elim hn (fun h => ho h.1)
        simp only [hn, hW, decide_false, gc_ff] at fin ⊢
        refine rnT_i (fun _ => (p_eql _)) ?_
        unfold page_Whole_g1 page_Whole_g2 page_Whole_g3
        exact fin
  · have e : ¬ (s.length : Int) = 512 := by omega
    have hW : ¬ WholeT s := fun h => hl h.1
    have fin := k w (.refl w)
    simp only [e, hW, decide_false, Bool.not_false, cn_t] at fin ⊢
    exact fin
end Go.Sx
end

section
/- Areas of twins: made, asked, read. -/
set_option linter.unusedVariables false
set_option linter.unusedSimpArgs false
set_option maxRecDepth 100000
namespace Go.Sx
open Go Go.RowKit
variable {K : Value → World → Prop} {w : World}

structure Area where
  at_ : Int
  slots : Int
  from_ : Int
  pages : Int

def IsArea (w : World) (v dv : Value) (a : Area) : Prop := ∃ b, v = .pointer (some ⟨b, 0, none⟩) ∧ w.heap[b]? = some (.cells [dv, int a.at_, int a.slots, int a.from_, int a.pages].toArray T.twin_Area (0, 0))

theorem IsArea.qt {w' : World} {v dv : Value} {a : Area} (h : IsArea w v dv a) (q : Qt w w') : IsArea w' v dv a := by
  obtain ⟨b, rfl, h⟩ := h; exact ⟨b, rfl, q.all h⟩
theorem IsDev.qt {w' : World} {v : Value} {m : Nat} {d : Dev} (h : IsDev w v m d) (q : Qt w w') : IsDev w' v m d := by
  obtain ⟨b, wv, kv, rfl, h⟩ := h; exact ⟨b, wv, kv, rfl, h.qt q⟩

structure Area.Ok (a : Area) (size : Int) : Prop where
  h1 : 0 ≤ a.at_
  h2 : 0 ≤ a.from_
  h3 : 1 ≤ a.slots
  h4 : a.slots ≤ 16
  h5 : 1 ≤ a.pages
  h6 : a.pages ≤ 800
  h7 : a.at_ ≤ size - 3 * a.slots
  h8 : a.from_ ≤ size - 2 * a.pages
  h9 : a.from_ + 2 * a.pages ≤ a.at_ ∨ a.at_ + 3 * a.slots ≤ a.from_

theorem twin_New_c {v : Value} {m : Nat} {d : Dev} {a : Area} (hd : IsDev w v m d) (hs : d.size ≤ 4096) (ha : a.Ok d.size)
    (k : ∀ av w', Qt w w' → IsArea w' av v a → (∀ b, av = .pointer (some b) → w.heap.size ≤ b.block) → K (.tuple #[av, int 0]) w') :
    call Pg F.twin_New [v, int a.at_, int a.slots, int a.from_, int a.pages] K w := by
  obtain ⟨h1, h2, h3, h4, h5, h6, h7, h8, h9⟩ := ha
  obtain ⟨b, wv, kv, rfl, hd'⟩ := hd
  have hd : IsDev w (.pointer (some ⟨b, 0, none⟩)) m d := ⟨b, wv, kv, rfl, hd'⟩
  refine twin_New_call ?_
  have e1 : decide (a.at_ < 0) = false := decide_eq_false (by omega)
  have e2 : decide (a.from_ < 0) = false := decide_eq_false (by omega)
  have e3 : decide (a.slots < 1) = false := decide_eq_false (by omega)
  have e4 : decide (16 < a.slots) = false := decide_eq_false (by omega)
  have e5 : decide (a.pages < 1) = false := decide_eq_false (by omega)
  have e6 : decide (800 < a.pages) = false := decide_eq_false (by omega)
  have m1 : IntKind.i64.wrap (3 * a.slots) = 3 * a.slots := w64 (by omega) (by omega)
  have m2 : IntKind.i64.wrap (2 * a.pages) = 2 * a.pages := w64 (by omega) (by omega)
  have m3 : IntKind.i64.wrap (d.size - 3 * a.slots) = d.size - 3 * a.slots := w64 (by omega) (by omega)
  have m4 : IntKind.i64.wrap (d.size - 2 * a.pages) = d.size - 2 * a.pages := w64 (by omega) (by omega)
  have m5 : IntKind.i64.wrap (a.from_ + 2 * a.pages) = a.from_ + 2 * a.pages := w64 (by omega) (by omega)
  have m6 : IntKind.i64.wrap (a.at_ + 3 * a.slots) = a.at_ + 3 * a.slots := w64 (by omega) (by omega)
  have e7 : decide (d.size - 3 * a.slots < a.at_) = false := decide_eq_false (by omega)
  have e8 : decide (d.size - 2 * a.pages < a.from_) = false := decide_eq_false (by omega)
  unfold twin_New twin_New_g6 twin_New_g7 twin_New_g8 twin_New_g9 twin_New_g10 twin_New_g11
  refine run_i s_ptr_eql ?_
  refine gc_ffi ?_
  refine run_i (p_lss _) ?_
  refine pk_fi ?_
  simp only [e1]
  refine gc_ffi ?_
  refine run_i (p_lss _) ?_
  refine pk_fi ?_
  simp only [e2]
  refine gc_ffi ?_
  refine run_i (p_lss _) ?_
  refine pk_fi ?_
  simp only [e3]
  refine gc_ffi ?_
  refine run_i (p_gtr _) ?_
  refine pk_fi ?_
  simp only [e4]
  refine gc_ffi ?_
  refine run_i (p_lss _) ?_
  refine pk_fi ?_
  simp only [e5]
  refine gc_ffi ?_
  refine run_i (p_gtr _) ?_
  refine pk_fi ?_
  simp only [e6]
  refine cn_fi ?_
  unfold twin_New_j1
  refine device_Size_c hd ?_
  refine run_i (p_mul _) ?_
  refine run_i (p_sub _) ?_
  refine run_i (p_gtr _) ?_
  simp only [m1, m3, e7]
  refine gc_ffi ?_
  refine device_Size_c hd ?_
  refine run_i (p_mul _) ?_
  refine run_i (p_sub _) ?_
  refine run_i (p_gtr _) ?_
  simp only [m2, m4, e8]
  unfold twin_New_g2
  refine pk_fi ?_
  refine gc_ffi ?_
  refine run_i (p_mul _) ?_
  refine run_i (p_add _) ?_
  refine run_i (p_lss _) ?_
  simp only [m2, m5]
  have fin : ∀ x68, x68 = Value.bool false → twin_New_g5 K [] (.pointer (some ⟨b, 0, none⟩)) (int a.at_) (int a.slots) (int a.from_) (int a.pages) (.bool false) x68 w := by
    rintro _ rfl
    unfold twin_New_g5
    refine pk_fi ?_
    refine cn_fi ?_
    refine run_i (build_of (cells := #[.pointer (some ⟨b, 0, none⟩), int a.at_, int a.slots, int a.from_, int a.pages]) (by kernel_rfl) _) ?_
    refine run_i s_box ?_
    refine lv_i ?_
    refine k _ _ ((Frm.refl w).alloc _) ⟨_, rfl, ?_⟩ ?_
    · exact hp_alloc_new
    · rintro b ⟨⟩
      simp
  rcases Int.lt_or_le a.at_ (a.from_ + 2 * a.pages) with h | h
  · have e9 : decide (a.at_ < a.from_ + 2 * a.pages) = true := decide_eq_true h
    have e10 : decide (a.from_ < a.at_ + 3 * a.slots) = false := decide_eq_false (by omega)
    simp only [e9]
    unfold twin_New_g3
    refine gc_tti ?_
    refine run_i (p_mul _) ?_
    refine run_i (p_add _) ?_
    refine run_i (p_lss _) ?_
    simp only [m1, m6, e10]
    unfold twin_New_g4
    refine gc_ffi ?_
    refine pk_ti ?_
    exact fin _ rfl
  · have e9 : decide (a.at_ < a.from_ + 2 * a.pages) = false := decide_eq_false (by omega)
    simp only [e9]
    unfold twin_New_g3
    refine gc_fti ?_
    unfold twin_New_g4
    refine gc_ffi ?_
    refine pk_fi ?_
    exact fin _ rfl

theorem twin_Pages_c {v dv : Value} {a : Area} (h : IsArea w v dv a) (k : K (int a.pages) w) : call Pg F.twin_Area_Pages [v] K w := by
  obtain ⟨b, rfl, h⟩ := h
  refine twin_Area_Pages_call ?_
  unfold twin_Area_Pages
  refine run_i s_ptr_eql ?_
  refine cn_fi ?_
  refine run_i (p_nil _) ?_
  refine run_i s_field ?_
  refine run_i (s_load (cellAt_l h rfl)) ?_
  refine lv_i ?_
  exact k

theorem twin_there_c {v dv : Value} {a : Area} {n : Int} (h : IsArea w v dv a) (k : K (.bool (decide (0 ≤ n ∧ n < a.pages))) w) : call Pg F.twin_Area_there [v, int n] K w := by
  obtain ⟨b, rfl, h⟩ := h
  refine twin_Area_there_call ?_
  unfold twin_Area_there
  refine run_i s_ptr_neq ?_
  refine gc_tti ?_
  refine run_i (p_geq _) ?_
  unfold twin_Area_there_g1
  refine pk_ti ?_
  by_cases h1 : 0 ≤ n <;> simp only [h1, decide_true, decide_false, gc_tt, gc_tf, gc_ft, gc_ff, pk_t, pk_f, cn_t, cn_f, Bool.not_true, Bool.not_false]
  · refine run_i (p_nil _) ?_
    refine run_i s_field ?_
    refine run_i (s_load (cellAt_l h rfl)) ?_
    refine run_i (p_lss _) ?_
    unfold twin_Area_there_g2
    refine pk_ti ?_
    refine lv_i ?_
    simpa [h1] using k
  · unfold twin_Area_there_g2
    refine pk_fi ?_
    refine lv_i ?_
    simpa [h1] using k

def Dev.two (d : Dev) (i : Int) : Text := d.read i ++ d.read (i + 1)

theorem twin_two_c {v dv : Value} {a : Area} {m : Nat} {d : Dev} {i : Int} (h : IsArea w v dv a) (hd : IsDev w dv m d) (hoff : d.off = false) (h0 : 0 ≤ i) (h1 : i + 1 < d.size) (hs : d.size ≤ 4096) (hl : ∀ i, (d.read i).length ≤ 256)
    (k : ∀ w', Qt w w' → K (.tuple #[str (d.two i), int 0]) w') : call Pg F.twin_Area_two [v, int i] K w := by
  have h' := h
  obtain ⟨b, rfl, hb⟩ := h'
  refine twin_Area_two_call ?_
  unfold twin_Area_two
  refine run_i (p_nil _) ?_
  refine run_i s_field ?_
  refine run_i (s_load (cellAt_l hb rfl)) ?_
  refine device_Read_c hd hoff h0 (by omega) (fun w1 q1 => ?_)
  have hb1 := q1.all hb
  refine run_i (s_extract rfl) ?_
  refine run_i (s_extract rfl) ?_
  refine run_i (p_neq _) ?_
  refine cn_fi ?_
  refine run_i (p_nil _) ?_
  refine run_i s_field ?_
  refine run_i (s_load (cellAt_l hb1 rfl)) ?_
  refine run_i (p_add _) ?_
  have e : IntKind.i64.wrap (i + 1) = i + 1 := w64 (by omega) (by omega)
  rw [e]
  refine device_Read_c (hd.qt q1) hoff (by omega) (by omega) (fun w2 q2 => ?_)
  refine run_i (s_extract rfl) ?_
  refine run_i (s_extract rfl) ?_
  refine run_i (p_neq _) ?_
  refine cn_fi ?_
  refine run_i (p_cat (by have := hl i; have := hl (i + 1); omega) _) ?_
  refine lv_i ?_
  exact k _ (q1.trans q2)

theorem twin_Read_c {v dv : Value} {a : Area} {m : Nat} {d : Dev} {n : Int} (h : IsArea w v dv a) (hd : IsDev w dv m d) (ha : a.Ok d.size) (hoff : d.off = false) (h0 : 0 ≤ n) (h1 : n < a.pages) (hs : d.size ≤ 4096) (hl : ∀ i, (d.read i).length ≤ 256)
    (k : ∀ w', Qt w w' → K (.tuple #[str (d.two (a.from_ + 2 * n)), int 0]) w') : call Pg F.twin_Area_Read [v, int n] K w := by
  have h' := h
  obtain ⟨b, rfl, hb⟩ := h'
  obtain ⟨a1, a2, a3, a4, a5, a6, a7, a8, a9⟩ := ha
  refine twin_Area_Read_call ?_
  unfold twin_Area_Read
  refine twin_there_c h ?_
  have e : decide (0 ≤ n ∧ n < a.pages) = true := decide_eq_true ⟨h0, h1⟩
  simp only [e]
  refine run_i (p_not _) ?_
  refine cn_fi ?_
  refine run_i (p_nil _) ?_
  refine run_i s_field ?_
  refine run_i (s_load (cellAt_l hb rfl)) ?_
  refine run_i (p_mul _) ?_
  refine run_i (p_add _) ?_
  have m2 : IntKind.i64.wrap (2 * n) = 2 * n := w64 (by omega) (by omega)
  have m3 : IntKind.i64.wrap (a.from_ + 2 * n) = a.from_ + 2 * n := w64 (by omega) (by omega)
  simp only [m2, m3]
  refine twin_two_c h hd hoff (by omega) (by omega) hs hl (fun w1 q1 => ?_)
  refine run_i (s_extract rfl) ?_
  refine run_i (s_extract rfl) ?_
  refine lv_i ?_
  exact k _ q1
end Go.Sx
end
