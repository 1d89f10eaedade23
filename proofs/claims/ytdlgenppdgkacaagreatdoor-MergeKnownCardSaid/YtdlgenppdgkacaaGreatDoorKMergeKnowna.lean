/- The closed law MergeKnown, evaluated without memory. -/
import Derived.Test.YtdlgenppdgkacaaGreatDoorProg
import Derived.Test.YtdlgenppdgkacaaGreatDoorKnBase2
set_option maxRecDepth 100000
namespace Go.Proofs.YtdlgenppdgkacaaGreatDoor.Ag
set_option maxRecDepth 100000
abbrev i_cartouchelaw10_MergeKnown : FuncId := 4
theorem F_cartouchelaw10_MergeKnown : Tryz.prog.funcs[i_cartouchelaw10_MergeKnown]? = some Tryz.f4 := Tryz.func4
abbrev i_cartouchelaw7_Simple : FuncId := 16
theorem F_cartouchelaw7_Simple : Tryz.prog.funcs[i_cartouchelaw7_Simple]? = some Tryz.f16 := Tryz.func16
abbrev i_cartoucheref8_Empty : FuncId := 18
theorem F_cartoucheref8_Empty : Tryz.prog.funcs[i_cartoucheref8_Empty]? = some Tryz.f18 := Tryz.func18
abbrev i_cartouchelaw10_msg : FuncId := 19
theorem F_cartouchelaw10_msg : Tryz.prog.funcs[i_cartouchelaw10_msg]? = some Tryz.f19 := Tryz.func19
abbrev i_cartouchelaw10_n : FuncId := 20
theorem F_cartouchelaw10_n : Tryz.prog.funcs[i_cartouchelaw10_n]? = some Tryz.f20 := Tryz.func20
abbrev i_merge_Default : FuncId := 21
theorem F_merge_Default : Tryz.prog.funcs[i_merge_Default]? = some Tryz.f21 := Tryz.func21
abbrev i_cartouchelaw10_awake : FuncId := 22
theorem F_cartouchelaw10_awake : Tryz.prog.funcs[i_cartouchelaw10_awake]? = some Tryz.f22 := Tryz.func22
abbrev i_cartouchelaw10_merged : FuncId := 23
theorem F_cartouchelaw10_merged : Tryz.prog.funcs[i_cartouchelaw10_merged]? = some Tryz.f23 := Tryz.func23
abbrev i_cartouchelaw10_in : FuncId := 24
theorem F_cartouchelaw10_in : Tryz.prog.funcs[i_cartouchelaw10_in]? = some Tryz.f24 := Tryz.func24
abbrev i_merge_Value : FuncId := 25
theorem F_merge_Value : Tryz.prog.funcs[i_merge_Value]? = some Tryz.f25 := Tryz.func25
abbrev i_cartoucheref8_SameField : FuncId := 26
theorem F_cartoucheref8_SameField : Tryz.prog.funcs[i_cartoucheref8_SameField]? = some Tryz.f26 := Tryz.func26
abbrev i_merge_Keep : FuncId := 27
theorem F_merge_Keep : Tryz.prog.funcs[i_merge_Keep]? = some Tryz.f27 := Tryz.func27
abbrev i_merge_Drop : FuncId := 28
theorem F_merge_Drop : Tryz.prog.funcs[i_merge_Drop]? = some Tryz.f28 := Tryz.func28
abbrev i_merge_Paths : FuncId := 29
theorem F_merge_Paths : Tryz.prog.funcs[i_merge_Paths]? = some Tryz.f29 := Tryz.func29
abbrev i_cartouchelaw10_told : FuncId := 30
theorem F_cartouchelaw10_told : Tryz.prog.funcs[i_cartouchelaw10_told]? = some Tryz.f30 := Tryz.func30
abbrev i_model_Typed : FuncId := 65
theorem F_model_Typed : Tryz.prog.funcs[i_model_Typed]? = some Tryz.f65 := Tryz.func65
abbrev i_model_Copy : FuncId := 68
theorem F_model_Copy : Tryz.prog.funcs[i_model_Copy]? = some Tryz.f68 := Tryz.func68
abbrev i_table_Field : FuncId := 69
theorem F_table_Field : Tryz.prog.funcs[i_table_Field]? = some Tryz.f69 := Tryz.func69
abbrev i_merge_Merge : FuncId := 70
theorem F_merge_Merge : Tryz.prog.funcs[i_merge_Merge]? = some Tryz.f70 := Tryz.func70
abbrev i_cartoucheref8_Equal : FuncId := 71
theorem F_cartoucheref8_Equal : Tryz.prog.funcs[i_cartoucheref8_Equal]? = some Tryz.f71 := Tryz.func71
abbrev i_merge_may : FuncId := 72
theorem F_merge_may : Tryz.prog.funcs[i_merge_may]? = some Tryz.f72 := Tryz.func72
abbrev i_merge_isPath : FuncId := 73
theorem F_merge_isPath : Tryz.prog.funcs[i_merge_isPath]? = some Tryz.f73 := Tryz.func73
abbrev i_strings_Cut : FuncId := 74
theorem F_strings_Cut : Tryz.prog.funcs[i_strings_Cut]? = some Tryz.f74 := Tryz.func74
abbrev i_table_Named : FuncId := 75
theorem F_table_Named : Tryz.prog.funcs[i_table_Named]? = some Tryz.f75 := Tryz.func75
abbrev i_model_Get : FuncId := 76
theorem F_model_Get : Tryz.prog.funcs[i_model_Get]? = some Tryz.f76 := Tryz.func76
abbrev i_cartoucheref8_vals : FuncId := 77
theorem F_cartoucheref8_vals : Tryz.prog.funcs[i_cartoucheref8_vals]? = some Tryz.f77 := Tryz.func77
abbrev i_merge_Keep_1 : FuncId := 78
theorem F_merge_Keep_1 : Tryz.prog.funcs[i_merge_Keep_1]? = some Tryz.f78 := Tryz.func78
abbrev i_merge_Keep_2 : FuncId := 79
theorem F_merge_Keep_2 : Tryz.prog.funcs[i_merge_Keep_2]? = some Tryz.f79 := Tryz.func79
abbrev i_merge_masked : FuncId := 80
theorem F_merge_masked : Tryz.prog.funcs[i_merge_masked]? = some Tryz.f80 := Tryz.func80
abbrev i_merge_Keep_3 : FuncId := 81
theorem F_merge_Keep_3 : Tryz.prog.funcs[i_merge_Keep_3]? = some Tryz.f81 := Tryz.func81
abbrev i_merge_Drop_1 : FuncId := 82
theorem F_merge_Drop_1 : Tryz.prog.funcs[i_merge_Drop_1]? = some Tryz.f82 := Tryz.func82
abbrev i_merge_Drop_2 : FuncId := 83
theorem F_merge_Drop_2 : Tryz.prog.funcs[i_merge_Drop_2]? = some Tryz.f83 := Tryz.func83
abbrev i_merge_Drop_3 : FuncId := 84
theorem F_merge_Drop_3 : Tryz.prog.funcs[i_merge_Drop_3]? = some Tryz.f84 := Tryz.func84
abbrev i_merge_paths : FuncId := 85
theorem F_merge_paths : Tryz.prog.funcs[i_merge_paths]? = some Tryz.f85 := Tryz.func85
abbrev i_cartoucheref1_List : FuncId := 98
theorem F_cartoucheref1_List : Tryz.prog.funcs[i_cartoucheref1_List]? = some Tryz.f98 := Tryz.func98
abbrev i_wire_PutVarint : FuncId := 104
theorem F_wire_PutVarint : Tryz.prog.funcs[i_wire_PutVarint]? = some Tryz.f104 := Tryz.func104
abbrev i_table_IsMessage : FuncId := 121
theorem F_table_IsMessage : Tryz.prog.funcs[i_table_IsMessage]? = some Tryz.f121 := Tryz.func121
abbrev i_model_typed : FuncId := 122
theorem F_model_typed : Tryz.prog.funcs[i_model_typed]? = some Tryz.f122 := Tryz.func122
abbrev i_slices_DeleteFunc_api_Field_api_Field : FuncId := 124
theorem F_slices_DeleteFunc_api_Field_api_Field : Tryz.prog.funcs[i_slices_DeleteFunc_api_Field_api_Field]? = some Tryz.f124 := Tryz.func124
abbrev i_table_At : FuncId := 126
theorem F_table_At : Tryz.prog.funcs[i_table_At]? = some Tryz.f126 := Tryz.func126
abbrev i_model_each_api_Field : FuncId := 131
theorem F_model_each_api_Field : Tryz.prog.funcs[i_model_each_api_Field]? = some Tryz.f131 := Tryz.func131
abbrev i_model_CopyField : FuncId := 132
theorem F_model_CopyField : Tryz.prog.funcs[i_model_CopyField]? = some Tryz.f132 := Tryz.func132
abbrev i_model_each_api_Entry : FuncId := 133
theorem F_model_each_api_Entry : Tryz.prog.funcs[i_model_each_api_Entry]? = some Tryz.f133 := Tryz.func133
abbrev i_model_CopyEntry : FuncId := 134
theorem F_model_CopyEntry : Tryz.prog.funcs[i_model_CopyEntry]? = some Tryz.f134 := Tryz.func134
abbrev i_merge_into : FuncId := 135
theorem F_merge_into : Tryz.prog.funcs[i_merge_into]? = some Tryz.f135 := Tryz.func135
abbrev i_merge_goes : FuncId := 136
theorem F_merge_goes : Tryz.prog.funcs[i_merge_goes]? = some Tryz.f136 := Tryz.func136
abbrev i_stringslite_Cut : FuncId := 137
theorem F_stringslite_Cut : Tryz.prog.funcs[i_stringslite_Cut]? = some Tryz.f137 := Tryz.func137
abbrev i_slices_IndexFunc_api_Field_api_Field : FuncId := 138
theorem F_slices_IndexFunc_api_Field_api_Field : Tryz.prog.funcs[i_slices_IndexFunc_api_Field_api_Field]? = some Tryz.f138 := Tryz.func138
abbrev i_model_Get_1 : FuncId := 139
theorem F_model_Get_1 : Tryz.prog.funcs[i_model_Get_1]? = some Tryz.f139 := Tryz.func139
abbrev i_merge_walk_message : FuncId := 140
theorem F_merge_walk_message : Tryz.prog.funcs[i_merge_walk_message]? = some Tryz.f140 := Tryz.func140
abbrev i_table_Good : FuncId := 145
theorem F_table_Good : Tryz.prog.funcs[i_table_Good]? = some Tryz.f145 := Tryz.func145
abbrev i_cartoucheref1_Same : FuncId := 154
theorem F_cartoucheref1_Same : Tryz.prog.funcs[i_cartoucheref1_Same]? = some Tryz.f154 := Tryz.func154
abbrev i_wire_PutEntry : FuncId := 160
theorem F_wire_PutEntry : Tryz.prog.funcs[i_wire_PutEntry]? = some Tryz.f160 := Tryz.func160
abbrev i_wire_varint : FuncId := 163
theorem F_wire_varint : Tryz.prog.funcs[i_wire_varint]? = some Tryz.f163 := Tryz.func163
abbrev i_wire_Size : FuncId := 164
theorem F_wire_Size : Tryz.prog.funcs[i_wire_Size]? = some Tryz.f164 := Tryz.func164
abbrev i_wire_word : FuncId := 165
theorem F_wire_word : Tryz.prog.funcs[i_wire_word]? = some Tryz.f165 := Tryz.func165
abbrev i_table_sort : FuncId := 172
theorem F_table_sort : Tryz.prog.funcs[i_table_sort]? = some Tryz.f172 := Tryz.func172
abbrev i_model_typedField : FuncId := 173
theorem F_model_typedField : Tryz.prog.funcs[i_model_typedField]? = some Tryz.f173 := Tryz.func173
abbrev i_slices_ContainsFunc_api_Val_api_Val : FuncId := 174
theorem F_slices_ContainsFunc_api_Val_api_Val : Tryz.prog.funcs[i_slices_ContainsFunc_api_Val_api_Val]? = some Tryz.f174 := Tryz.func174
abbrev i_model_each_api_Val : FuncId := 181
theorem F_model_each_api_Val : Tryz.prog.funcs[i_model_each_api_Val]? = some Tryz.f181 := Tryz.func181
abbrev i_model_CopyVal : FuncId := 182
theorem F_model_CopyVal : Tryz.prog.funcs[i_model_CopyVal]? = some Tryz.f182 := Tryz.func182
abbrev i_model_list : FuncId := 183
theorem F_model_list : Tryz.prog.funcs[i_model_list]? = some Tryz.f183 := Tryz.func183
abbrev i_model_Others : FuncId := 184
theorem F_model_Others : Tryz.prog.funcs[i_model_Others]? = some Tryz.f184 := Tryz.func184
abbrev i_merge_into_1 : FuncId := 185
theorem F_merge_into_1 : Tryz.prog.funcs[i_merge_into_1]? = some Tryz.f185 := Tryz.func185
abbrev i_slices_Contains_int_int : FuncId := 186
theorem F_slices_Contains_int_int : Tryz.prog.funcs[i_slices_Contains_int_int]? = some Tryz.f186 := Tryz.func186
abbrev i_model_Place : FuncId := 187
theorem F_model_Place : Tryz.prog.funcs[i_model_Place]? = some Tryz.f187 := Tryz.func187
abbrev i_merge_both : FuncId := 188
theorem F_merge_both : Tryz.prog.funcs[i_merge_both]? = some Tryz.f188 := Tryz.func188
abbrev i_model_Laid : FuncId := 189
theorem F_model_Laid : Tryz.prog.funcs[i_model_Laid]? = some Tryz.f189 := Tryz.func189
abbrev i_stringslite_Index : FuncId := 190
theorem F_stringslite_Index : Tryz.prog.funcs[i_stringslite_Index]? = some Tryz.f190 := Tryz.func190
abbrev i_merge_grouped : FuncId := 191
theorem F_merge_grouped : Tryz.prog.funcs[i_merge_grouped]? = some Tryz.f191 := Tryz.func191
abbrev i_scalar_Wire : FuncId := 196
theorem F_scalar_Wire : Tryz.prog.funcs[i_scalar_Wire]? = some Tryz.f196 := Tryz.func196
abbrev i_table_goodName : FuncId := 201
theorem F_table_goodName : Tryz.prog.funcs[i_table_goodName]? = some Tryz.f201 := Tryz.func201
abbrev i_table_goodEnum : FuncId := 202
theorem F_table_goodEnum : Tryz.prog.funcs[i_table_goodEnum]? = some Tryz.f202 := Tryz.func202
abbrev i_table_goodMessage : FuncId := 203
theorem F_table_goodMessage : Tryz.prog.funcs[i_table_goodMessage]? = some Tryz.f203 := Tryz.func203
abbrev i_slices_Insert_api_Field_api_Field : FuncId := 206
theorem F_slices_Insert_api_Field_api_Field : Tryz.prog.funcs[i_slices_Insert_api_Field_api_Field]? = some Tryz.f206 := Tryz.func206
abbrev i_wire_PutTag : FuncId := 207
theorem F_wire_PutTag : Tryz.prog.funcs[i_wire_PutTag]? = some Tryz.f207 := Tryz.func207
abbrev i_bits_Len64 : FuncId := 211
theorem F_bits_Len64 : Tryz.prog.funcs[i_bits_Len64]? = some Tryz.f211 := Tryz.func211
abbrev i_model_typedVal : FuncId := 216
theorem F_model_typedVal : Tryz.prog.funcs[i_model_typedVal]? = some Tryz.f216 := Tryz.func216
abbrev i_scalar_Compare : FuncId := 217
theorem F_scalar_Compare : Tryz.prog.funcs[i_scalar_Compare]? = some Tryz.f217 := Tryz.func217
abbrev i_model_typedField_1 : FuncId := 218
theorem F_model_typedField_1 : Tryz.prog.funcs[i_model_typedField_1]? = some Tryz.f218 := Tryz.func218
abbrev i_slices_IndexFunc_api_Val_api_Val : FuncId := 219
theorem F_slices_IndexFunc_api_Val_api_Val : Tryz.prog.funcs[i_slices_IndexFunc_api_Val_api_Val]? = some Tryz.f219 := Tryz.func219
abbrev i_model_each_api_Msg : FuncId := 221
theorem F_model_each_api_Msg : Tryz.prog.funcs[i_model_each_api_Msg]? = some Tryz.f221 := Tryz.func221
abbrev i_slices_Index_int_int : FuncId := 222
theorem F_slices_Index_int_int : Tryz.prog.funcs[i_slices_Index_int_int]? = some Tryz.f222 := Tryz.func222
abbrev i_slices_BinarySearchFunc_api_Field_api_Field_int : FuncId := 223
theorem F_slices_BinarySearchFunc_api_Field_api_Field_int : Tryz.prog.funcs[i_slices_BinarySearchFunc_api_Field_api_Field_int]? = some Tryz.f223 := Tryz.func223
abbrev i_model_Place_1 : FuncId := 224
theorem F_model_Place_1 : Tryz.prog.funcs[i_model_Place_1]? = some Tryz.f224 := Tryz.func224
abbrev i_slices_BinarySearchFunc_api_Val_api_Val_api_Val : FuncId := 225
theorem F_slices_BinarySearchFunc_api_Val_api_Val_api_Val : Tryz.prog.funcs[i_slices_BinarySearchFunc_api_Val_api_Val_api_Val]? = some Tryz.f225 := Tryz.func225
abbrev i_merge_both_1 : FuncId := 226
theorem F_merge_both_1 : Tryz.prog.funcs[i_merge_both_1]? = some Tryz.f226 := Tryz.func226
abbrev i_slices_Insert_api_Val_api_Val : FuncId := 227
theorem F_slices_Insert_api_Val_api_Val : Tryz.prog.funcs[i_slices_Insert_api_Val_api_Val]? = some Tryz.f227 := Tryz.func227
abbrev i_stringslite_IndexByte : FuncId := 228
theorem F_stringslite_IndexByte : Tryz.prog.funcs[i_stringslite_IndexByte]? = some Tryz.f228 := Tryz.func228
abbrev i_bytealg_IndexString : FuncId := 229
theorem F_bytealg_IndexString : Tryz.prog.funcs[i_bytealg_IndexString]? = some Tryz.f229 := Tryz.func229
abbrev i_bytealg_Cutover : FuncId := 230
theorem F_bytealg_Cutover : Tryz.prog.funcs[i_bytealg_Cutover]? = some Tryz.f230 := Tryz.func230
abbrev i_bytealg_IndexRabinKarp_string : FuncId := 231
theorem F_bytealg_IndexRabinKarp_string : Tryz.prog.funcs[i_bytealg_IndexRabinKarp_string]? = some Tryz.f231 := Tryz.func231
abbrev i_strings_Split : FuncId := 243
theorem F_strings_Split : Tryz.prog.funcs[i_strings_Split]? = some Tryz.f243 := Tryz.func243
abbrev i_lex_IsName : FuncId := 244
theorem F_lex_IsName : Tryz.prog.funcs[i_lex_IsName]? = some Tryz.f244 := Tryz.func244
abbrev i_table_named_add : FuncId := 246
theorem F_table_named_add : Tryz.prog.funcs[i_table_named_add]? = some Tryz.f246 := Tryz.func246
abbrev i_table_reserved : FuncId := 247
theorem F_table_reserved : Tryz.prog.funcs[i_table_reserved]? = some Tryz.f247 := Tryz.func247
abbrev i_table_goodField : FuncId := 248
theorem F_table_goodField : Tryz.prog.funcs[i_table_goodField]? = some Tryz.f248 := Tryz.func248
abbrev i_slices_overlaps_api_Field : FuncId := 249
theorem F_slices_overlaps_api_Field : Tryz.prog.funcs[i_slices_overlaps_api_Field]? = some Tryz.f249 := Tryz.func249
abbrev i_slices_rotateRight_api_Field : FuncId := 250
theorem F_slices_rotateRight_api_Field : Tryz.prog.funcs[i_slices_rotateRight_api_Field]? = some Tryz.f250 := Tryz.func250
abbrev i_wire_isKind : FuncId := 251
theorem F_wire_isKind : Tryz.prog.funcs[i_wire_isKind]? = some Tryz.f251 := Tryz.func251
abbrev i_scalar_Fits : FuncId := 256
theorem F_scalar_Fits : Tryz.prog.funcs[i_scalar_Fits]? = some Tryz.f256 := Tryz.func256
abbrev i_table_SymbolAt : FuncId := 257
theorem F_table_SymbolAt : Tryz.prog.funcs[i_table_SymbolAt]? = some Tryz.f257 := Tryz.func257
abbrev i_quote_Valid : FuncId := 258
theorem F_quote_Valid : Tryz.prog.funcs[i_quote_Valid]? = some Tryz.f258 := Tryz.func258
abbrev i_scalar_IsKey : FuncId := 259
theorem F_scalar_IsKey : Tryz.prog.funcs[i_scalar_IsKey]? = some Tryz.f259 := Tryz.func259
abbrev i_bytes_Compare : FuncId := 260
theorem F_bytes_Compare : Tryz.prog.funcs[i_bytes_Compare]? = some Tryz.f260 := Tryz.func260
abbrev i_scalar_signed : FuncId := 261
theorem F_scalar_signed : Tryz.prog.funcs[i_scalar_signed]? = some Tryz.f261 := Tryz.func261
abbrev i_cmp_Compare_int64 : FuncId := 262
theorem F_cmp_Compare_int64 : Tryz.prog.funcs[i_cmp_Compare_int64]? = some Tryz.f262 := Tryz.func262
abbrev i_cmp_Compare_uint64 : FuncId := 263
theorem F_cmp_Compare_uint64 : Tryz.prog.funcs[i_cmp_Compare_uint64]? = some Tryz.f263 := Tryz.func263
abbrev i_scalar_Numeric : FuncId := 264
theorem F_scalar_Numeric : Tryz.prog.funcs[i_scalar_Numeric]? = some Tryz.f264 := Tryz.func264
abbrev i_slices_overlaps_api_Val : FuncId := 265
theorem F_slices_overlaps_api_Val : Tryz.prog.funcs[i_slices_overlaps_api_Val]? = some Tryz.f265 := Tryz.func265
abbrev i_slices_rotateRight_api_Val : FuncId := 266
theorem F_slices_rotateRight_api_Val : Tryz.prog.funcs[i_slices_rotateRight_api_Val]? = some Tryz.f266 := Tryz.func266
abbrev i_bytealg_IndexByteString : FuncId := 267
theorem F_bytealg_IndexByteString : Tryz.prog.funcs[i_bytealg_IndexByteString]? = some Tryz.f267 := Tryz.func267
abbrev i_bytealg_hashStr_string : FuncId := 268
theorem F_bytealg_hashStr_string : Tryz.prog.funcs[i_bytealg_hashStr_string]? = some Tryz.f268 := Tryz.func268
abbrev i_strings_genSplit : FuncId := 275
theorem F_strings_genSplit : Tryz.prog.funcs[i_strings_genSplit]? = some Tryz.f275 := Tryz.func275
abbrev i_lex_letter : FuncId := 276
theorem F_lex_letter : Tryz.prog.funcs[i_lex_letter]? = some Tryz.f276 := Tryz.func276
abbrev i_lex_named : FuncId := 277
theorem F_lex_named : Tryz.prog.funcs[i_lex_named]? = some Tryz.f277 := Tryz.func277
abbrev i_slices_rotateLeft_api_Field : FuncId := 281
theorem F_slices_rotateLeft_api_Field : Tryz.prog.funcs[i_slices_rotateLeft_api_Field]? = some Tryz.f281 := Tryz.func281
abbrev i_scalar_known : FuncId := 296
theorem F_scalar_known : Tryz.prog.funcs[i_scalar_known]? = some Tryz.f296 := Tryz.func296
abbrev i_scalar_holds : FuncId := 297
theorem F_scalar_holds : Tryz.prog.funcs[i_scalar_holds]? = some Tryz.f297 := Tryz.func297
abbrev i_utf8_Valid : FuncId := 298
theorem F_utf8_Valid : Tryz.prog.funcs[i_utf8_Valid]? = some Tryz.f298 := Tryz.func298
abbrev i_bytealg_Compare : FuncId := 299
theorem F_bytealg_Compare : Tryz.prog.funcs[i_bytealg_Compare]? = some Tryz.f299 := Tryz.func299
abbrev i_cmp_isNaN_int64 : FuncId := 300
theorem F_cmp_isNaN_int64 : Tryz.prog.funcs[i_cmp_isNaN_int64]? = some Tryz.f300 := Tryz.func300
abbrev i_cmp_isNaN_uint64 : FuncId := 301
theorem F_cmp_isNaN_uint64 : Tryz.prog.funcs[i_cmp_isNaN_uint64]? = some Tryz.f301 := Tryz.func301
abbrev i_slices_rotateLeft_api_Val : FuncId := 302
theorem F_slices_rotateLeft_api_Val : Tryz.prog.funcs[i_slices_rotateLeft_api_Val]? = some Tryz.f302 := Tryz.func302
abbrev i_lex_digit : FuncId := 307
theorem F_lex_digit : Tryz.prog.funcs[i_lex_digit]? = some Tryz.f307 := Tryz.func307
abbrev i_slices_Reverse_api_Field_api_Field : FuncId := 310
theorem F_slices_Reverse_api_Field_api_Field : Tryz.prog.funcs[i_slices_Reverse_api_Field_api_Field]? = some Tryz.f310 := Tryz.func310
abbrev i_utf8_word_byte : FuncId := 326
theorem F_utf8_word_byte : Tryz.prog.funcs[i_utf8_word_byte]? = some Tryz.f326 := Tryz.func326
abbrev i_slices_Reverse_api_Val_api_Val : FuncId := 327
theorem F_slices_Reverse_api_Val_api_Val : Tryz.prog.funcs[i_slices_Reverse_api_Val_api_Val]? = some Tryz.f327 := Tryz.func327

abbrev i_strings_Join : FuncId := 245
abbrev i_strings_explode : FuncId := 304
abbrev i_strings_Count : FuncId := 305
abbrev i_strings_Index : FuncId := 306
/-! cartouche/cartouchelaw10.MergeKnown -/
def A_cartouchelaw10_MergeKnown : AFn := ⟨(.seq (.region [⟨some 0, none, .mov (.c (.bool false))⟩])
    (.seq (.region [⟨some 14, none, .call i_cartouchelaw7_Simple []⟩,
      ⟨some 1, none, .alloc 0 [.nil]⟩,
      ⟨none, none, .store 1 (.t 1) (.t 14)⟩])
    (.seq (.region [⟨some 15, none, .blit 0 3 1 [.c (.int .i64 1)]⟩,
      ⟨some 16, none, .call i_cartouchelaw10_n [.c (.int .i64 1), .t 15]⟩,
      ⟨some 17, none, .blit 0 29 3 [.t 16]⟩,
      ⟨some 18, none, .call i_cartouchelaw10_msg [.t 17]⟩,
      ⟨some 2, none, .alloc 0 [.nil, .nil]⟩,
      ⟨none, none, .store 2 (.t 2) (.t 18)⟩])
    (.seq (.region [⟨some 20, none, .load 1 true (.t 1)⟩,
      ⟨some 21, none, .call i_merge_Default [.t 20, .c (.int .i64 1), .c (.int .i64 3)]⟩,
      ⟨some 19, none, .mov (.t 21)⟩,
      ⟨some 22, none, .ext 0 (.t 19)⟩,
      ⟨some 23, none, .ext 1 (.t 19)⟩,
      ⟨some 3, none, .alloc 0 [.int .u64 0, .nil, .nil]⟩,
      ⟨none, none, .store 3 (.t 3) (.t 22)⟩,
      ⟨some 4, none, .mov (.t 23)⟩])
    (.seq (.region [⟨some 25, none, .load 1 true (.t 1)⟩,
      ⟨some 26, none, .call i_merge_Default [.t 25, .c (.int .i64 1), .c (.int .i64 9)]⟩,
      ⟨some 24, none, .mov (.t 26)⟩,
      ⟨some 27, none, .ext 0 (.t 24)⟩,
      ⟨some 28, none, .ext 1 (.t 24)⟩,
      ⟨some 5, none, .alloc 0 [.int .u64 0, .nil, .nil]⟩,
      ⟨none, none, .store 3 (.t 5) (.t 27)⟩,
      ⟨some 6, none, .mov (.t 28)⟩])
    (.seq (.seq (.region [⟨some 29, none, .call i_cartouchelaw10_awake []⟩,
      ⟨some 30, none, .un .not (.t 29)⟩,
      ⟨some 31, none, .mov (.t 30)⟩,
      ⟨some 32, some (31, false), .load 2 true (.t 2)⟩,
      ⟨some 33, some (31, false), .call i_cartouchelaw10_in [.c (.int .i64 3), .t 32]⟩,
      ⟨some 34, some (31, false), .blit 0 29 3 [.t 33]⟩,
      ⟨some 35, some (31, false), .call i_cartouchelaw10_msg [.t 34]⟩,
      ⟨some 36, some (31, false), .blit 0 3 1 [.c (.int .i64 1)]⟩,
      ⟨some 37, some (31, false), .call i_cartouchelaw10_n [.c (.int .i64 2), .t 36]⟩,
      ⟨some 38, some (31, false), .blit 0 29 3 [.t 37]⟩,
      ⟨some 39, some (31, false), .call i_cartouchelaw10_msg [.t 38]⟩,
      ⟨some 40, some (31, false), .call i_cartouchelaw10_in [.c (.int .i64 3), .t 39]⟩,
      ⟨some 41, some (31, false), .blit 0 29 3 [.t 40]⟩,
      ⟨some 42, some (31, false), .call i_cartouchelaw10_msg [.t 41]⟩,
      ⟨some 43, some (31, false), .blit 0 3 1 [.c (.int .i64 1)]⟩,
      ⟨some 44, some (31, false), .call i_cartouchelaw10_n [.c (.int .i64 1), .t 43]⟩,
      ⟨some 45, some (31, false), .blit 0 3 1 [.c (.int .i64 1)]⟩,
      ⟨some 46, some (31, false), .call i_cartouchelaw10_n [.c (.int .i64 2), .t 45]⟩,
      ⟨some 47, some (31, false), .blit 0 29 3 [.t 44, .t 46]⟩,
      ⟨some 48, some (31, false), .call i_cartouchelaw10_msg [.t 47]⟩,
      ⟨some 49, some (31, false), .call i_cartouchelaw10_in [.c (.int .i64 3), .t 48]⟩,
      ⟨some 50, some (31, false), .blit 0 29 3 [.t 49]⟩,
      ⟨some 51, some (31, false), .call i_cartouchelaw10_msg [.t 50]⟩,
      ⟨some 52, some (31, false), .call i_cartouchelaw10_merged [.t 35, .t 42, .t 51]⟩,
      ⟨some 53, some (31, false), .un .not (.t 52)⟩,
      ⟨some 54, none, .pickb (.t 31) (.c (.bool true)) (.t 53)⟩,
      ⟨some 55, none, .mov (.t 54)⟩,
      ⟨some 56, some (55, false), .mov (.t 4)⟩,
      ⟨some 57, some (55, false), .bin false .neq (.t 56) (.c (.int .i64 0))⟩,
      ⟨some 58, none, .pickb (.t 55) (.c (.bool true)) (.t 57)⟩,
      ⟨some 59, none, .mov (.t 58)⟩,
      ⟨some 60, some (59, false), .fldA 2 1 false (.t 3)⟩,
      ⟨some 61, some (59, false), .load 1 false (.t 60)⟩,
      ⟨some 62, some (59, false), .len false (.t 61)⟩,
      ⟨some 63, some (59, false), .bin false .neq (.t 62) (.c (.int .i64 1))⟩,
      ⟨some 64, none, .pickb (.t 59) (.c (.bool true)) (.t 63)⟩,
      ⟨some 65, none, .mov (.t 64)⟩,
      ⟨some 66, some (65, false), .fldA 2 1 false (.t 3)⟩,
      ⟨some 67, some (65, false), .load 1 false (.t 66)⟩,
      ⟨some 68, some (65, false), .idxA 2 (.t 67) (.c (.int .i64 0))⟩,
      ⟨some 69, some (65, false), .load 2 true (.t 68)⟩,
      ⟨some 70, some (65, false), .call i_cartoucheref8_Empty [.t 69]⟩,
      ⟨some 71, some (65, false), .un .not (.t 70)⟩,
      ⟨some 72, none, .pickb (.t 65) (.c (.bool true)) (.t 71)⟩,
      ⟨some 73, none, .mov (.t 72)⟩,
      ⟨some 74, some (73, false), .mov (.t 6)⟩,
      ⟨some 75, some (73, false), .bin false .neq (.t 74) (.c (.int .i64 20))⟩,
      ⟨some 76, none, .pickb (.t 73) (.c (.bool true)) (.t 75)⟩])
    (.cond (.t 76) (.seq (.region [⟨some 0, none, .mov (.c (.bool false))⟩])
    .ret)
    .skip))
    (.seq (.draw [9, 10, 1000000, 1000001, 2000010] [⟨some 78, none, .load 1 true (.t 1)⟩,
      ⟨some 79, none, .load 2 true (.t 2)⟩,
      ⟨some 80, none, .call i_cartouchelaw10_in [.c (.int .i64 3), .t 79]⟩,
      ⟨some 81, none, .bslice 3 [.t 80]⟩,
      ⟨some 82, none, .call i_cartouchelaw10_msg [.t 81]⟩,
      ⟨some 83, none, .call i_merge_Value [.t 78, .c (.int .i64 1), .t 82, .c (.str ⟨#[109, 46, 120]⟩)]⟩,
      ⟨some 77, none, .mov (.t 83)⟩,
      ⟨some 84, none, .ext 0 (.t 77)⟩,
      ⟨some 85, none, .ext 1 (.t 77)⟩,
      ⟨some 7, none, .alloc 0 [.int .i64 0, .nil, .nil]⟩,
      ⟨none, none, .store 3 (.t 7) (.t 84)⟩,
      ⟨some 4, none, .mov (.t 85)⟩])
    (.seq (.region [⟨some 87, none, .load 1 true (.t 1)⟩,
      ⟨some 88, none, .load 2 true (.t 2)⟩,
      ⟨some 89, none, .call i_merge_Value [.t 87, .c (.int .i64 1), .t 88, .c (.str ⟨#[109, 46, 120]⟩)]⟩,
      ⟨some 86, none, .mov (.t 89)⟩,
      ⟨some 90, none, .ext 0 (.t 86)⟩,
      ⟨some 91, none, .ext 1 (.t 86)⟩,
      ⟨some 6, none, .mov (.t 91)⟩])
    (.seq (.region [⟨some 93, none, .load 1 true (.t 1)⟩,
      ⟨some 94, none, .load 2 true (.t 2)⟩,
      ⟨some 95, none, .call i_merge_Value [.t 93, .c (.int .i64 1), .t 94, .c (.str ⟨#[120, 46, 121]⟩)]⟩,
      ⟨some 92, none, .mov (.t 95)⟩,
      ⟨some 96, none, .ext 0 (.t 92)⟩,
      ⟨some 97, none, .ext 1 (.t 92)⟩,
      ⟨some 8, none, .alloc 0 [.int .i64 0, .nil, .nil]⟩,
      ⟨none, none, .store 3 (.t 8) (.t 96)⟩,
      ⟨some 9, none, .mov (.t 97)⟩])
    (.seq (.seq (.draw [4, 5, 6, 1000003, 2000006] [⟨some 98, none, .mov (.t 4)⟩,
      ⟨some 99, none, .bin false .neq (.t 98) (.c (.int .i64 0))⟩,
      ⟨some 100, none, .mov (.t 99)⟩,
      ⟨some 101, some (100, false), .load 3 true (.t 7)⟩,
      ⟨some 102, some (100, false), .blit 0 3 1 [.c (.int .i64 1)]⟩,
      ⟨some 103, some (100, false), .call i_cartouchelaw10_n [.c (.int .i64 1), .t 102]⟩,
      ⟨some 104, some (100, false), .call i_cartoucheref8_SameField [.t 101, .t 103]⟩,
      ⟨some 105, some (100, false), .un .not (.t 104)⟩,
      ⟨some 106, none, .pickb (.t 100) (.c (.bool true)) (.t 105)⟩,
      ⟨some 107, none, .mov (.t 106)⟩,
      ⟨some 108, some (107, false), .mov (.t 6)⟩,
      ⟨some 109, some (107, false), .bin false .neq (.t 108) (.c (.int .i64 20))⟩,
      ⟨some 110, none, .pickb (.t 107) (.c (.bool true)) (.t 109)⟩,
      ⟨some 111, none, .mov (.t 110)⟩,
      ⟨some 112, some (111, false), .mov (.t 9)⟩,
      ⟨some 113, some (111, false), .bin false .neq (.t 112) (.c (.int .i64 12))⟩,
      ⟨some 114, none, .pickb (.t 111) (.c (.bool true)) (.t 113)⟩])
    (.cond (.t 114) (.seq (.region [⟨some 0, none, .mov (.c (.bool false))⟩])
    .ret)
    .skip))
    (.seq (.region [⟨some 115, none, .blit 0 3 1 [.c (.int .i64 1)]⟩,
      ⟨some 116, none, .call i_cartouchelaw10_n [.c (.int .i64 1), .t 115]⟩,
      ⟨some 117, none, .blit 0 3 1 [.c (.int .i64 2)]⟩,
      ⟨some 118, none, .call i_cartouchelaw10_n [.c (.int .i64 1), .t 117]⟩,
      ⟨some 119, none, .blit 0 3 1 [.c (.int .i64 3)]⟩,
      ⟨some 120, none, .call i_cartouchelaw10_n [.c (.int .i64 2), .t 119]⟩,
      ⟨some 121, none, .blit 0 29 3 [.t 118, .t 120]⟩,
      ⟨some 122, none, .call i_cartouchelaw10_msg [.t 121]⟩,
      ⟨some 123, none, .call i_cartouchelaw10_in [.c (.int .i64 3), .t 122]⟩,
      ⟨some 124, none, .blit 0 29 3 [.t 116, .t 123]⟩,
      ⟨some 125, none, .call i_cartouchelaw10_msg [.t 124]⟩,
      ⟨some 10, none, .alloc 0 [.nil, .nil]⟩,
      ⟨none, none, .store 2 (.t 10) (.t 125)⟩])
    (.seq (.region [⟨some 127, none, .load 1 true (.t 1)⟩,
      ⟨some 128, none, .load 2 true (.t 10)⟩,
      ⟨some 129, none, .blit 0 9 1 [.c (.str ⟨#[109, 46, 120]⟩)]⟩,
      ⟨some 130, none, .call i_merge_Keep [.t 127, .c (.int .i64 1), .t 128, .t 129]⟩,
      ⟨some 126, none, .mov (.t 130)⟩,
      ⟨some 131, none, .ext 0 (.t 126)⟩,
      ⟨some 132, none, .ext 1 (.t 126)⟩,
      ⟨some 11, none, .alloc 0 [.nil, .nil]⟩,
      ⟨none, none, .store 2 (.t 11) (.t 131)⟩,
      ⟨some 4, none, .mov (.t 132)⟩])
    (.seq (.region [⟨some 134, none, .load 1 true (.t 1)⟩,
      ⟨some 135, none, .load 2 true (.t 10)⟩,
      ⟨some 136, none, .blit 0 9 1 [.c (.str ⟨#[109, 46, 120]⟩)]⟩,
      ⟨some 137, none, .call i_merge_Drop [.t 134, .c (.int .i64 1), .t 135, .t 136]⟩,
      ⟨some 133, none, .mov (.t 137)⟩,
      ⟨some 138, none, .ext 0 (.t 133)⟩,
      ⟨some 139, none, .ext 1 (.t 133)⟩,
      ⟨some 12, none, .alloc 0 [.nil, .nil]⟩,
      ⟨none, none, .store 2 (.t 12) (.t 138)⟩,
      ⟨some 6, none, .mov (.t 139)⟩])
    (.seq (.draw [1, 2, 3, 5, 6, 7, 8, 9, 10, 11, 1000000, 2000011] [⟨some 141, none, .load 1 true (.t 1)⟩,
      ⟨some 142, none, .blit 0 3 1 [.c (.int .i64 1)]⟩,
      ⟨some 143, none, .call i_cartouchelaw10_n [.c (.int .i64 1), .t 142]⟩,
      ⟨some 144, none, .call i_cartouchelaw10_n [.c (.int .i64 2), .c (.nil)]⟩,
      ⟨some 145, none, .bslice 1 [.c (.int .i64 2)]⟩,
      ⟨some 146, none, .call i_cartouchelaw10_n [.c (.int .i64 1), .t 145]⟩,
      ⟨some 147, none, .blit 0 29 3 [.t 146]⟩,
      ⟨some 148, none, .call i_cartouchelaw10_msg [.t 147]⟩,
      ⟨some 149, none, .call i_cartouchelaw10_in [.c (.int .i64 3), .t 148]⟩,
      ⟨some 150, none, .blit 0 29 3 [.t 143, .t 144, .t 149]⟩,
      ⟨some 151, none, .call i_cartouchelaw10_msg [.t 150]⟩,
      ⟨some 152, none, .call i_merge_Paths [.t 141, .c (.int .i64 1), .t 151]⟩,
      ⟨some 140, none, .mov (.t 152)⟩,
      ⟨some 153, none, .ext 0 (.t 140)⟩,
      ⟨some 154, none, .ext 1 (.t 140)⟩,
      ⟨some 13, none, .mov (.t 153)⟩,
      ⟨some 9, none, .mov (.t 154)⟩])
    (.seq (.draw [2, 3, 4, 5, 6, 7, 8, 9, 13, 14, 16, 17, 18, 19, 20, 21, 22, 30, 35, 36, 41, 42, 47, 48, 1000000, 1000011, 2000022, 2000030, 2000035, 2000036, 2000041, 2000042, 2000047, 2000048] [⟨some 155, none, .load 2 true (.t 11)⟩,
      ⟨some 156, none, .mov (.t 4)⟩,
      ⟨some 157, none, .blit 0 3 1 [.c (.int .i64 2)]⟩,
      ⟨some 158, none, .call i_cartouchelaw10_n [.c (.int .i64 1), .t 157]⟩,
      ⟨some 159, none, .blit 0 29 3 [.t 158]⟩,
      ⟨some 160, none, .call i_cartouchelaw10_msg [.t 159]⟩,
      ⟨some 161, none, .call i_cartouchelaw10_in [.c (.int .i64 3), .t 160]⟩,
      ⟨some 162, none, .blit 0 29 3 [.t 161]⟩,
      ⟨some 163, none, .call i_cartouchelaw10_msg [.t 162]⟩,
      ⟨some 164, none, .call i_cartouchelaw10_told [.t 155, .t 156, .t 163, .c (.int .i64 0)]⟩,
      ⟨some 165, none, .mov (.t 164)⟩,
      ⟨some 166, some (165, true), .load 2 true (.t 12)⟩,
      ⟨some 167, some (165, true), .mov (.t 6)⟩,
      ⟨some 168, some (165, true), .blit 0 3 1 [.c (.int .i64 1)]⟩,
      ⟨some 169, some (165, true), .call i_cartouchelaw10_n [.c (.int .i64 1), .t 168]⟩,
      ⟨some 170, some (165, true), .bslice 1 [.c (.int .i64 3)]⟩,
      ⟨some 171, some (165, true), .call i_cartouchelaw10_n [.c (.int .i64 2), .t 170]⟩,
      ⟨some 172, some (165, true), .blit 0 29 3 [.t 171]⟩,
      ⟨some 173, some (165, true), .call i_cartouchelaw10_msg [.t 172]⟩,
      ⟨some 174, some (165, true), .call i_cartouchelaw10_in [.c (.int .i64 3), .t 173]⟩,
      ⟨some 175, some (165, true), .blit 0 29 3 [.t 169, .t 174]⟩,
      ⟨some 176, some (165, true), .call i_cartouchelaw10_msg [.t 175]⟩,
      ⟨some 177, some (165, true), .call i_cartouchelaw10_told [.t 166, .t 167, .t 176, .c (.int .i64 0)]⟩,
      ⟨some 178, none, .pickb (.t 165) (.t 177) (.c (.bool false))⟩,
      ⟨some 179, none, .mov (.t 178)⟩,
      ⟨some 180, some (179, true), .mov (.t 9)⟩,
      ⟨some 181, some (179, true), .bin false .eql (.t 180) (.c (.int .i64 0))⟩,
      ⟨some 182, none, .pickb (.t 179) (.t 181) (.c (.bool false))⟩,
      ⟨some 183, none, .mov (.t 182)⟩,
      ⟨some 184, some (183, true), .mov (.t 13)⟩,
      ⟨some 185, some (183, true), .len false (.t 184)⟩,
      ⟨some 186, some (183, true), .bin false .eql (.t 185) (.c (.int .i64 3))⟩,
      ⟨some 187, none, .pickb (.t 183) (.t 186) (.c (.bool false))⟩,
      ⟨some 188, none, .mov (.t 187)⟩,
      ⟨some 189, some (188, true), .mov (.t 13)⟩,
      ⟨some 190, some (188, true), .idxA 1 (.t 189) (.c (.int .i64 0))⟩,
      ⟨some 191, some (188, true), .load 1 false (.t 190)⟩,
      ⟨some 192, some (188, true), .bin false .eql (.t 191) (.c (.str ⟨#[120]⟩))⟩,
      ⟨some 193, none, .pickb (.t 188) (.t 192) (.c (.bool false))⟩,
      ⟨some 194, none, .mov (.t 193)⟩,
      ⟨some 195, some (194, true), .mov (.t 13)⟩,
      ⟨some 196, some (194, true), .idxA 1 (.t 195) (.c (.int .i64 1))⟩,
      ⟨some 197, some (194, true), .load 1 false (.t 196)⟩,
      ⟨some 198, some (194, true), .bin false .eql (.t 197) (.c (.str ⟨#[108]⟩))⟩,
      ⟨some 199, none, .pickb (.t 194) (.t 198) (.c (.bool false))⟩,
      ⟨some 200, none, .mov (.t 199)⟩,
      ⟨some 201, some (200, true), .mov (.t 13)⟩,
      ⟨some 202, some (200, true), .idxA 1 (.t 201) (.c (.int .i64 2))⟩,
      ⟨some 203, some (200, true), .load 1 false (.t 202)⟩,
      ⟨some 204, some (200, true), .bin false .eql (.t 203) (.c (.str ⟨#[109, 46, 120]⟩))⟩,
      ⟨some 205, none, .pickb (.t 200) (.t 204) (.c (.bool false))⟩,
      ⟨some 0, none, .mov (.t 205)⟩])
    .ret))))))))))))))), [.tmp 0]⟩
theorem T_cartouchelaw10_MergeKnown : trFn Tryz.prog [(1, [0, 1, 0]), (2, [1, 0, 1, 0, 1, 0]), (3, [0, 0, 0, 0, 0, 1, 0, 0]), (4, [0, 0, 0, 0, 0, 1, 0, 0]), (5, [0, 0, 0, 0, 0, 1, 0, 1, 0, 1, 0, 0, 1, 0, 1, 0, 1, 0, 1, 0, 0, 1, 0, 0, 0, 0, 0, 0, 0, 0, 0, 0, 0, 0, 0, 0, 0, 0, 0, 0, 0, 0, 0, 0, 0, 0, 0, 0]), (7, [0, 0, 0, 0, 0, 0, 0, 0, 0, 1, 0, 0]), (9, [0, 0, 0, 0, 0, 0, 1, 0, 0]), (10, [0, 0, 0, 0, 1, 0, 0, 0, 0, 0, 0, 0, 0, 0, 0, 0, 0]), (12, [1, 0, 1, 0, 1, 0, 1, 0, 0, 1, 0, 1, 0]), (13, [0, 0, 1, 0, 0, 0, 0, 1, 0, 0]), (14, [0, 0, 1, 0, 0, 0, 0, 1, 0, 0]), (15, [0, 1, 0, 0, 0, 0, 1, 0, 0, 1, 0, 0, 0, 0, 0, 0, 0]), (16, [0, 0, 1, 0, 1, 0, 0, 1, 0, 0, 0, 0, 0, 1, 0, 0, 0, 1, 0, 0, 1, 0, 0, 0, 0, 0, 0, 0, 0, 0, 0, 0, 0, 0, 0, 0, 0, 0, 0, 0, 0, 0, 0, 0, 0, 0, 0, 0, 0, 0, 0, 0]), (1000007, [9, 10, 1000000, 1000001, 2000010]), (1000010, [4, 5, 6, 1000003, 2000006]), (1000015, [1, 2, 3, 5, 6, 7, 8, 9, 10, 11, 1000000, 2000011]), (1000016, [2, 3, 4, 5, 6, 7, 8, 9, 13, 14, 16, 17, 18, 19, 20, 21, 22, 30, 35, 36, 41, 42, 47, 48, 1000000, 1000011, 2000022, 2000030, 2000035, 2000036, 2000041, 2000042, 2000047, 2000048])] Tryz.f4 = some A_cartouchelaw10_MergeKnown := by kernel_rfl
theorem L_cartouchelaw10_MergeKnown : 0 ≤ Tryz.f4.ntmps := by decide

/-! cartouche/cartouchelaw7.Simple -/
def A_cartouchelaw7_Simple : AFn := ⟨(.seq (.region [⟨some 0, none, .alloc 0 [.nil]⟩])
    (.seq (.region [⟨some 1, none, .build [.str ⟨#[]⟩, .int .i64 0] [(0, 1, .c (.str ⟨#[65]⟩))]⟩,
      ⟨some 2, none, .blit 0 107 2 [.t 1]⟩,
      ⟨some 3, none, .build [.str ⟨#[]⟩, .bool false, .nil, .nil, .nil, .nil] [(0, 1, .c (.str ⟨#[69]⟩)), (1, 1, .c (.bool true)), (4, 1, .t 2)]⟩,
      ⟨some 4, none, .build [.str ⟨#[]⟩, .int .i64 0, .int .i64 0, .int .i64 0, .int .i64 0, .int .i64 0, .int .i64 0] [(0, 1, .c (.str ⟨#[120]⟩)), (1, 1, .c (.int .i64 1)), (2, 1, .c (.int .i64 2))]⟩,
      ⟨some 5, none, .build [.str ⟨#[]⟩, .int .i64 0, .int .i64 0, .int .i64 0, .int .i64 0, .int .i64 0, .int .i64 0] [(0, 1, .c (.str ⟨#[108]⟩)), (1, 1, .c (.int .i64 2)), (2, 1, .c (.int .i64 4)), (4, 1, .c (.int .i64 3))]⟩,
      ⟨some 6, none, .build [.str ⟨#[]⟩, .int .i64 0, .int .i64 0, .int .i64 0, .int .i64 0, .int .i64 0, .int .i64 0] [(0, 1, .c (.str ⟨#[109]⟩)), (1, 1, .c (.int .i64 3)), (2, 1, .c (.int .i64 17)), (3, 1, .c (.int .i64 1)), (4, 1, .c (.int .i64 1))]⟩,
      ⟨some 7, none, .blit 0 114 7 [.t 4, .t 5, .t 6]⟩,
      ⟨some 8, none, .build [.str ⟨#[]⟩, .bool false, .nil, .nil, .nil, .nil] [(0, 1, .c (.str ⟨#[77]⟩)), (2, 1, .t 7)]⟩,
      ⟨some 9, none, .blit 0 112 6 [.t 3, .t 8]⟩,
      ⟨some 10, none, .build [.nil] [(0, 1, .t 9)]⟩,
      ⟨none, none, .store 1 (.t 0) (.t 10)⟩])
    .ret)), [.cell 0 1 true]⟩
theorem T_cartouchelaw7_Simple : trFn Tryz.prog [(0, [1]), (1, [0, 1, 0, 0, 0, 0, 1, 0, 1, 0, 0])] Tryz.f16 = some A_cartouchelaw7_Simple := by kernel_rfl
theorem L_cartouchelaw7_Simple : 0 ≤ Tryz.f16.ntmps := by decide

/-! cartouche/cartoucheref8.Empty -/
def A_cartoucheref8_Empty : AFn := ⟨(.seq (.region [⟨some 1, none, .box 0 (.t 0)⟩,
      ⟨some 2, none, .mov (.c (.bool false))⟩])
    (.seq (.region [⟨some 3, none, .fldA 0 1 false (.t 1)⟩,
      ⟨some 4, none, .load 1 false (.t 3)⟩,
      ⟨some 5, none, .len false (.t 4)⟩,
      ⟨some 6, none, .bin false .eql (.t 5) (.c (.int .i64 0))⟩,
      ⟨some 7, none, .mov (.t 6)⟩,
      ⟨some 8, some (7, true), .fldA 1 1 false (.t 1)⟩,
      ⟨some 9, some (7, true), .load 1 false (.t 8)⟩,
      ⟨some 10, some (7, true), .len false (.t 9)⟩,
      ⟨some 11, some (7, true), .bin false .eql (.t 10) (.c (.int .i64 0))⟩,
      ⟨some 12, none, .pickb (.t 7) (.t 11) (.c (.bool false))⟩,
      ⟨some 2, none, .mov (.t 12)⟩])
    .ret)), [.tmp 2]⟩
theorem T_cartoucheref8_Empty : trFn Tryz.prog [(0, [1, 0])] Tryz.f18 = some A_cartoucheref8_Empty := by kernel_rfl
theorem L_cartoucheref8_Empty : 1 ≤ Tryz.f18.ntmps := by decide

/-! cartouche/cartouchelaw10.msg -/
def A_cartouchelaw10_msg : AFn := ⟨(.seq (.region [⟨some 2, none, .alloc 0 [.nil, .nil]⟩])
    (.seq (.region [⟨some 3, none, .mov (.t 0)⟩,
      ⟨some 4, none, .build [.nil, .nil] [(0, 1, .t 3)]⟩,
      ⟨none, none, .store 2 (.t 2) (.t 4)⟩])
    .ret)), [.cell 2 2 true]⟩
theorem T_cartouchelaw10_msg : trFn Tryz.prog [(0, [1])] Tryz.f19 = some A_cartouchelaw10_msg := by kernel_rfl
theorem L_cartouchelaw10_msg : 1 ≤ Tryz.f19.ntmps := by decide

/-! cartouche/cartouchelaw10.n -/
def A_cartouchelaw10_n : AFn := ⟨(.seq (.region [⟨some 4, none, .alloc 0 [.int .i64 0, .nil, .nil]⟩])
    (.seq (.region [⟨some 7, none, .mov (.t 0)⟩,
      ⟨some 8, none, .build [.int .i64 0, .nil, .nil] [(0, 1, .t 7)]⟩,
      ⟨some 5, none, .alloc 0 [.int .i64 0, .nil, .nil]⟩,
      ⟨none, none, .store 3 (.t 5) (.t 8)⟩])
    (.seq (.seq (.region [⟨some 6, none, .mov (.c (.int .i64 0))⟩])
    (.block 0 (.loop (.seq (.seq (.region [⟨some 9, none, .mov (.t 6)⟩,
      ⟨some 10, none, .mov (.t 1)⟩,
      ⟨some 11, none, .len false (.t 10)⟩,
      ⟨some 12, none, .bin false .lss (.t 9) (.t 11)⟩])
    (.cond (.t 12) .skip
    (.exit 0)))
    (.seq (.block 1 (.draw [1, 9, 11, 1000004, 1000005, 1000007, 2000009, 2000011] [⟨some 15, none, .fldA 2 1 false (.t 5)⟩,
      ⟨some 16, none, .load 1 false (.t 15)⟩,
      ⟨some 17, none, .mov (.t 1)⟩,
      ⟨some 18, none, .mov (.t 6)⟩,
      ⟨some 19, none, .idxA 1 (.t 17) (.t 18)⟩,
      ⟨some 20, none, .load 1 false (.t 19)⟩,
      ⟨some 21, none, .conv .u64 (.t 20)⟩,
      ⟨some 22, none, .build [.int .u64 0, .nil, .nil] [(0, 1, .t 21)]⟩,
      ⟨some 23, none, .bslice 3 [.t 22]⟩,
      ⟨some 24, none, .app 0 26 3 56 (.t 16) (.t 23)⟩,
      ⟨some 25, none, .fldA 2 1 false (.t 5)⟩,
      ⟨none, none, .store 1 (.t 25) (.t 24)⟩]))
    (.region [⟨some 13, none, .mov (.t 6)⟩,
      ⟨some 14, none, .bin false .add (.t 13) (.c (.int .i64 1))⟩,
      ⟨some 6, none, .mov (.t 14)⟩]))))))
    (.seq (.region [⟨some 26, none, .load 3 true (.t 5)⟩,
      ⟨none, none, .store 3 (.t 4) (.t 26)⟩])
    .ret)))), [.cell 4 3 true]⟩
theorem T_cartouchelaw10_n : trFn Tryz.prog [(0, [1]), (1, [0, 0, 1, 0]), (1000005, [1, 9, 11, 1000004, 1000005, 1000007, 2000009, 2000011])] Tryz.f20 = some A_cartouchelaw10_n := by kernel_rfl
theorem L_cartouchelaw10_n : 2 ≤ Tryz.f20.ntmps := by decide

/-! cartouche/merge.Default -/
def A_merge_Default : AFn := ⟨(.seq (.region [⟨some 3, none, .box 0 (.t 0)⟩,
      ⟨some 6, none, .alloc 0 [.int .u64 0, .nil, .nil]⟩,
      ⟨some 7, none, .mov (.c (.int .i64 0))⟩])
    (.seq (.region [⟨some 11, none, .load 1 true (.t 3)⟩,
      ⟨some 12, none, .mov (.t 1)⟩,
      ⟨some 13, none, .mov (.t 2)⟩,
      ⟨some 14, none, .call i_table_Field [.t 11, .t 12, .t 13]⟩,
      ⟨some 10, none, .mov (.t 14)⟩,
      ⟨some 15, none, .ext 0 (.t 10)⟩,
      ⟨some 16, none, .ext 1 (.t 10)⟩,
      ⟨some 8, none, .alloc 0 [.str ⟨#[]⟩, .int .i64 0, .int .i64 0, .int .i64 0, .int .i64 0, .int .i64 0, .int .i64 0]⟩,
      ⟨none, none, .store 7 (.t 8) (.t 15)⟩,
      ⟨some 9, none, .mov (.t 16)⟩])
    (.seq (.block 0 (.seq (.region [⟨some 18, none, .mov (.t 9)⟩,
      ⟨some 19, none, .bin false .neq (.t 18) (.c (.int .i64 0))⟩,
      ⟨some 17, none, .mov (.t 19)⟩])
    (.cond (.t 17) (.seq (.region [⟨some 20, none, .build [.int .u64 0, .nil, .nil] []⟩,
      ⟨some 21, none, .mov (.t 9)⟩,
      ⟨none, none, .store 3 (.t 6) (.t 20)⟩,
      ⟨some 7, none, .mov (.t 21)⟩])
    .ret)
    (.seq (.region [⟨some 23, none, .fldA 2 1 false (.t 8)⟩,
      ⟨some 24, none, .load 1 false (.t 23)⟩,
      ⟨some 25, none, .bin false .eql (.t 24) (.c (.int .i64 17))⟩,
      ⟨some 22, none, .mov (.t 25)⟩])
    (.cond (.t 22) (.seq (.region [⟨some 26, none, .build [.nil, .nil] []⟩,
      ⟨some 27, none, .blit 0 35 2 [.t 26]⟩,
      ⟨some 28, none, .build [.int .u64 0, .nil, .nil] [(2, 1, .t 27)]⟩,
      ⟨none, none, .store 3 (.t 6) (.t 28)⟩,
      ⟨some 7, none, .mov (.c (.int .i64 0))⟩])
    .ret)
    .skip)))))
    (.seq (.region [⟨some 29, none, .build [.int .u64 0, .nil, .nil] []⟩,
      ⟨none, none, .store 3 (.t 6) (.t 29)⟩,
      ⟨some 7, none, .mov (.c (.int .i64 0))⟩])
    .ret)))), [.cell 6 3 true, .tmp 7]⟩
theorem T_merge_Default : trFn Tryz.prog [(0, [1, 1, 0]), (1, [0, 0, 0, 0, 0, 0, 0, 1, 0, 0]), (5, [0, 1, 0, 0, 0])] Tryz.f21 = some A_merge_Default := by kernel_rfl
theorem L_merge_Default : 3 ≤ Tryz.f21.ntmps := by decide

/-! cartouche/cartouchelaw10.awake -/
def A_cartouchelaw10_awake : AFn := ⟨(.seq (.region [⟨some 0, none, .mov (.c (.bool false))⟩])
    (.seq (.region [⟨some 1, none, .blit 0 3 1 [.c (.int .i64 1)]⟩,
      ⟨some 2, none, .call i_cartouchelaw10_n [.c (.int .i64 1), .t 1]⟩,
      ⟨some 3, none, .blit 0 3 1 [.c (.int .i64 1)]⟩,
      ⟨some 4, none, .call i_cartouchelaw10_n [.c (.int .i64 2), .t 3]⟩,
      ⟨some 5, none, .blit 0 29 3 [.t 2, .t 4]⟩,
      ⟨some 6, none, .call i_cartouchelaw10_msg [.t 5]⟩,
      ⟨some 7, none, .blit 0 3 1 [.c (.int .i64 0)]⟩,
      ⟨some 8, none, .call i_cartouchelaw10_n [.c (.int .i64 1), .t 7]⟩,
      ⟨some 9, none, .blit 0 3 1 [.c (.int .i64 2)]⟩,
      ⟨some 10, none, .call i_cartouchelaw10_n [.c (.int .i64 2), .t 9]⟩,
      ⟨some 11, none, .blit 0 29 3 [.t 8, .t 10]⟩,
      ⟨some 12, none, .call i_cartouchelaw10_msg [.t 11]⟩,
      ⟨some 13, none, .blit 0 3 1 [.c (.int .i64 0)]⟩,
      ⟨some 14, none, .call i_cartouchelaw10_n [.c (.int .i64 1), .t 13]⟩,
      ⟨some 15, none, .blit 0 3 1 [.c (.int .i64 1), .c (.int .i64 2)]⟩,
      ⟨some 16, none, .call i_cartouchelaw10_n [.c (.int .i64 2), .t 15]⟩,
      ⟨some 17, none, .blit 0 29 3 [.t 14, .t 16]⟩,
      ⟨some 18, none, .call i_cartouchelaw10_msg [.t 17]⟩,
      ⟨some 19, none, .call i_cartouchelaw10_merged [.t 6, .t 12, .t 18]⟩,
      ⟨some 0, none, .mov (.t 19)⟩])
    .ret)), [.tmp 0]⟩
theorem T_cartouchelaw10_awake : trFn Tryz.prog [(1, [1, 0, 1, 0, 1, 0, 1, 0, 1, 0, 1, 0, 1, 0, 1, 0, 1, 0, 0, 0])] Tryz.f22 = some A_cartouchelaw10_awake := by kernel_rfl
theorem L_cartouchelaw10_awake : 0 ≤ Tryz.f22.ntmps := by decide

/-! cartouche/cartouchelaw10.merged -/
def A_cartouchelaw10_merged : AFn := ⟨(.seq (.region [⟨some 3, none, .box 0 (.t 0)⟩,
      ⟨some 4, none, .box 0 (.t 1)⟩,
      ⟨some 5, none, .box 0 (.t 2)⟩,
      ⟨some 6, none, .mov (.c (.bool false))⟩])
    (.seq (.draw [7, 8, 1000001, 1000002, 2000008] [⟨some 10, none, .call i_cartouchelaw7_Simple []⟩,
      ⟨some 11, none, .load 2 true (.t 3)⟩,
      ⟨some 12, none, .load 2 true (.t 4)⟩,
      ⟨some 13, none, .call i_merge_Merge [.t 10, .c (.int .i64 1), .t 11, .t 12]⟩,
      ⟨some 9, none, .mov (.t 13)⟩,
      ⟨some 14, none, .ext 0 (.t 9)⟩,
      ⟨some 15, none, .ext 1 (.t 9)⟩,
      ⟨some 7, none, .alloc 0 [.nil, .nil]⟩,
      ⟨none, none, .store 2 (.t 7) (.t 14)⟩,
      ⟨some 8, none, .mov (.t 15)⟩])
    (.seq (.region [⟨some 16, none, .mov (.t 8)⟩,
      ⟨some 17, none, .bin false .eql (.t 16) (.c (.int .i64 0))⟩,
      ⟨some 18, none, .mov (.t 17)⟩,
      ⟨some 19, some (18, true), .load 2 true (.t 7)⟩,
      ⟨some 20, some (18, true), .load 2 true (.t 5)⟩,
      ⟨some 21, some (18, true), .call i_cartoucheref8_Equal [.t 19, .t 20]⟩,
      ⟨some 22, none, .pickb (.t 18) (.t 21) (.c (.bool false))⟩,
      ⟨some 6, none, .mov (.t 22)⟩])
    .ret))), [.tmp 6]⟩
theorem T_cartouchelaw10_merged : trFn Tryz.prog [(0, [1, 1, 1, 0]), (1, [0, 0, 0, 0, 0, 0, 0, 1, 0, 0]), (1000001, [7, 8, 1000001, 1000002, 2000008])] Tryz.f23 = some A_cartouchelaw10_merged := by kernel_rfl
theorem L_cartouchelaw10_merged : 3 ≤ Tryz.f23.ntmps := by decide

/-! cartouche/cartouchelaw10.in -/
def A_cartouchelaw10_in : AFn := ⟨(.seq (.region [⟨some 3, none, .box 0 (.t 1)⟩,
      ⟨some 4, none, .alloc 0 [.int .i64 0, .nil, .nil]⟩])
    (.seq (.region [⟨some 5, none, .mov (.t 0)⟩,
      ⟨some 6, none, .load 2 true (.t 3)⟩,
      ⟨some 7, none, .blit 0 35 2 [.t 6]⟩,
      ⟨some 8, none, .build [.int .u64 0, .nil, .nil] [(2, 1, .t 7)]⟩,
      ⟨some 9, none, .blit 0 26 3 [.t 8]⟩,
      ⟨some 10, none, .build [.int .i64 0, .nil, .nil] [(0, 1, .t 5), (2, 1, .t 9)]⟩,
      ⟨none, none, .store 3 (.t 4) (.t 10)⟩])
    .ret)), [.cell 4 3 true]⟩
theorem T_cartouchelaw10_in : trFn Tryz.prog [(0, [1, 1]), (1, [0, 0, 1, 0, 1, 0, 0])] Tryz.f24 = some A_cartouchelaw10_in := by kernel_rfl
theorem L_cartouchelaw10_in : 2 ≤ Tryz.f24.ntmps := by decide

/-! cartouche/merge.Value -/
def A_merge_Value : AFn := ⟨(.seq (.region [⟨some 4, none, .box 0 (.t 0)⟩,
      ⟨some 6, none, .box 0 (.t 2)⟩,
      ⟨some 8, none, .alloc 0 [.int .i64 0, .nil, .nil]⟩,
      ⟨some 9, none, .mov (.c (.int .i64 0))⟩])
    (.seq (.seq (.region [⟨some 18, none, .load 1 true (.t 4)⟩,
      ⟨some 19, none, .mov (.t 1)⟩,
      ⟨some 20, none, .load 2 true (.t 6)⟩,
      ⟨some 21, none, .blit 0 35 2 [.t 20]⟩,
      ⟨some 22, none, .call i_merge_may [.t 18, .t 19, .t 21]⟩,
      ⟨some 10, none, .mov (.t 22)⟩])
    (.seq (.region [⟨some 23, none, .mov (.t 10)⟩,
      ⟨some 24, none, .bin false .neq (.t 23) (.c (.int .i64 0))⟩])
    (.cond (.t 24) (.seq (.region [⟨some 25, none, .build [.int .i64 0, .nil, .nil] []⟩,
      ⟨some 26, none, .mov (.t 10)⟩,
      ⟨none, none, .store 3 (.t 8) (.t 25)⟩,
      ⟨some 9, none, .mov (.t 26)⟩])
    .ret)
    .skip)))
    (.seq (.seq (.region [⟨some 27, none, .load 1 true (.t 4)⟩,
      ⟨some 28, none, .mov (.t 1)⟩,
      ⟨some 29, none, .mov (.t 3)⟩,
      ⟨some 30, none, .call i_merge_isPath [.t 27, .t 28, .t 29]⟩,
      ⟨some 31, none, .un .not (.t 30)⟩])
    (.cond (.t 31) (.seq (.region [⟨some 32, none, .build [.int .i64 0, .nil, .nil] []⟩,
      ⟨none, none, .store 3 (.t 8) (.t 32)⟩,
      ⟨some 9, none, .mov (.c (.int .i64 12))⟩])
    .ret)
    .skip))
    (.block 0 (.loop (.block 1 (.seq (.region [⟨some 34, none, .mov (.t 3)⟩,
      ⟨some 35, none, .call i_strings_Cut [.t 34, .c (.str ⟨#[46]⟩)]⟩,
      ⟨some 33, none, .mov (.t 35)⟩,
      ⟨some 36, none, .ext 0 (.t 33)⟩,
      ⟨some 37, none, .ext 1 (.t 33)⟩,
      ⟨some 38, none, .ext 2 (.t 33)⟩,
      ⟨some 11, none, .mov (.t 36)⟩,
      ⟨some 12, none, .mov (.t 37)⟩,
      ⟨some 13, none, .mov (.t 38)⟩])
    (.seq (.region [⟨some 40, none, .load 1 true (.t 4)⟩,
      ⟨some 41, none, .mov (.t 1)⟩,
      ⟨some 42, none, .mov (.t 11)⟩,
      ⟨some 43, none, .call i_table_Named [.t 40, .t 41, .t 42]⟩,
      ⟨some 39, none, .mov (.t 43)⟩,
      ⟨some 44, none, .ext 0 (.t 39)⟩,
      ⟨some 45, none, .ext 1 (.t 39)⟩,
      ⟨some 14, none, .alloc 0 [.str ⟨#[]⟩, .int .i64 0, .int .i64 0, .int .i64 0, .int .i64 0, .int .i64 0, .int .i64 0]⟩,
      ⟨none, none, .store 7 (.t 14) (.t 44)⟩,
      ⟨some 15, none, .mov (.t 45)⟩])
    (.seq (.region [⟨some 47, none, .load 2 true (.t 6)⟩,
      ⟨some 48, none, .fldA 1 1 false (.t 14)⟩,
      ⟨some 49, none, .load 1 false (.t 48)⟩,
      ⟨some 50, none, .call i_model_Get [.t 47, .t 49]⟩,
      ⟨some 46, none, .mov (.t 50)⟩,
      ⟨some 51, none, .ext 0 (.t 46)⟩,
      ⟨some 52, none, .ext 1 (.t 46)⟩,
      ⟨some 16, none, .alloc 0 [.int .i64 0, .nil, .nil]⟩,
      ⟨none, none, .store 3 (.t 16) (.t 51)⟩,
      ⟨some 17, none, .mov (.t 52)⟩])
    (.seq (.block 2 (.seq (.region [⟨some 54, none, .mov (.t 17)⟩,
      ⟨some 55, none, .un .not (.t 54)⟩,
      ⟨some 53, none, .mov (.t 55)⟩])
    (.cond (.t 53) (.seq (.region [⟨some 56, none, .build [.int .i64 0, .nil, .nil] []⟩,
      ⟨none, none, .store 3 (.t 8) (.t 56)⟩,
      ⟨some 9, none, .mov (.c (.int .i64 20))⟩])
    .ret)
    (.seq (.region [⟨some 58, none, .mov (.t 13)⟩,
      ⟨some 59, none, .un .not (.t 58)⟩,
      ⟨some 57, none, .mov (.t 59)⟩])
    (.cond (.t 57) (.seq (.region [⟨some 60, none, .load 3 true (.t 16)⟩,
      ⟨none, none, .store 3 (.t 8) (.t 60)⟩,
      ⟨some 9, none, .mov (.c (.int .i64 0))⟩])
    .ret)
    .skip)))))
    (.draw [2, 12, 1000004, 1000005, 1000007, 1000008, 1000009, 2000012] [⟨some 61, none, .mov (.t 12)⟩,
      ⟨some 62, none, .fldA 3 1 false (.t 14)⟩,
      ⟨some 63, none, .load 1 false (.t 62)⟩,
      ⟨some 64, none, .fldA 2 1 false (.t 16)⟩,
      ⟨some 65, none, .load 1 false (.t 64)⟩,
      ⟨some 66, none, .idxA 3 (.t 65) (.c (.int .i64 0))⟩,
      ⟨some 67, none, .fldA 2 1 false (.t 66)⟩,
      ⟨some 68, none, .load 1 false (.t 67)⟩,
      ⟨some 69, none, .idxA 2 (.t 68) (.c (.int .i64 0))⟩,
      ⟨some 70, none, .load 2 true (.t 69)⟩,
      ⟨some 3, none, .mov (.t 61)⟩,
      ⟨some 1, none, .mov (.t 63)⟩,
      ⟨none, none, .store 2 (.t 6) (.t 70)⟩]))))))))))), [.cell 8 3 true, .tmp 9]⟩
theorem T_merge_Value : trFn Tryz.prog [(0, [1, 1, 1, 0]), (1, [0, 0, 0, 1, 0, 0]), (7, [0, 0, 0, 0, 0, 0, 0, 1, 0, 0]), (8, [0, 0, 0, 0, 0, 0, 0, 1, 0, 0]), (1000013, [2, 12, 1000004, 1000005, 1000007, 1000008, 1000009, 2000012])] Tryz.f25 = some A_merge_Value := by kernel_rfl
theorem L_merge_Value : 4 ≤ Tryz.f25.ntmps := by decide

/-! cartouche/cartoucheref8.SameField -/
def A_cartoucheref8_SameField : AFn := ⟨(.seq (.region [⟨some 2, none, .box 0 (.t 0)⟩,
      ⟨some 3, none, .box 0 (.t 1)⟩,
      ⟨some 4, none, .mov (.c (.bool false))⟩])
    (.seq (.region [⟨some 5, none, .fldA 0 1 false (.t 2)⟩,
      ⟨some 6, none, .load 1 false (.t 5)⟩,
      ⟨some 7, none, .fldA 0 1 false (.t 3)⟩,
      ⟨some 8, none, .load 1 false (.t 7)⟩,
      ⟨some 9, none, .bin false .eql (.t 6) (.t 8)⟩,
      ⟨some 10, none, .mov (.t 9)⟩,
      ⟨some 11, some (10, true), .fldA 1 1 false (.t 2)⟩,
      ⟨some 12, some (10, true), .load 1 false (.t 11)⟩,
      ⟨some 13, some (10, true), .fldA 1 1 false (.t 3)⟩,
      ⟨some 14, some (10, true), .load 1 false (.t 13)⟩,
      ⟨some 15, some (10, true), .call i_cartoucheref8_vals [.t 12, .t 14]⟩,
      ⟨some 16, none, .pickb (.t 10) (.t 15) (.c (.bool false))⟩,
      ⟨some 17, none, .mov (.t 16)⟩,
      ⟨some 18, some (17, true), .fldA 2 1 false (.t 2)⟩,
      ⟨some 19, some (17, true), .load 1 false (.t 18)⟩,
      ⟨some 20, some (17, true), .fldA 2 1 false (.t 3)⟩,
      ⟨some 21, some (17, true), .load 1 false (.t 20)⟩,
      ⟨some 22, some (17, true), .call i_cartoucheref8_vals [.t 19, .t 21]⟩,
      ⟨some 23, none, .pickb (.t 17) (.t 22) (.c (.bool false))⟩,
      ⟨some 4, none, .mov (.t 23)⟩])
    .ret)), [.tmp 4]⟩
theorem T_cartoucheref8_SameField : trFn Tryz.prog [(0, [1, 1, 0])] Tryz.f26 = some A_cartoucheref8_SameField := by kernel_rfl
theorem L_cartoucheref8_SameField : 2 ≤ Tryz.f26.ntmps := by decide

/-! cartouche/merge.Keep -/
def A_merge_Keep : AFn := ⟨(.seq (.region [⟨some 4, none, .box 0 (.t 0)⟩,
      ⟨some 6, none, .box 0 (.t 2)⟩,
      ⟨some 8, none, .alloc 0 [.nil, .nil]⟩,
      ⟨some 9, none, .mov (.c (.int .i64 0))⟩])
    (.seq (.region [⟨some 10, none, .mov (.c (.fn (.func 78) [] []))⟩])
    (.seq (.region [⟨some 11, none, .mov (.c (.fn (.func 79) [] []))⟩])
    (.seq (.region [⟨some 12, none, .load 1 true (.t 4)⟩,
      ⟨some 13, none, .mov (.t 1)⟩,
      ⟨some 14, none, .load 2 true (.t 6)⟩,
      ⟨some 15, none, .mov (.t 3)⟩,
      ⟨some 16, none, .mov (.t 10)⟩,
      ⟨some 17, none, .mov (.t 11)⟩,
      ⟨some 18, none, .build [.nilfn, .nilfn, .nilfn] [(0, 1, .t 16), (1, 1, .t 17), (2, 1, .c (.fn (.func 81) [] []))]⟩,
      ⟨some 19, none, .call i_merge_masked [.t 12, .t 13, .t 14, .t 15, .t 18]⟩,
      ⟨some 20, none, .ext 0 (.t 19)⟩,
      ⟨some 21, none, .ext 1 (.t 19)⟩,
      ⟨none, none, .store 2 (.t 8) (.t 20)⟩,
      ⟨some 9, none, .mov (.t 21)⟩])
    .ret)))), [.cell 8 2 true, .tmp 9]⟩
theorem T_merge_Keep : trFn Tryz.prog [(0, [1, 1, 1, 0])] Tryz.f27 = some A_merge_Keep := by kernel_rfl
theorem L_merge_Keep : 4 ≤ Tryz.f27.ntmps := by decide

/-! cartouche/merge.Drop -/
def A_merge_Drop : AFn := ⟨(.seq (.region [⟨some 4, none, .box 0 (.t 0)⟩,
      ⟨some 6, none, .box 0 (.t 2)⟩,
      ⟨some 8, none, .alloc 0 [.nil, .nil]⟩,
      ⟨some 9, none, .mov (.c (.int .i64 0))⟩])
    (.seq (.region [⟨some 10, none, .mov (.c (.fn (.func 82) [] []))⟩])
    (.seq (.region [⟨some 11, none, .mov (.c (.fn (.func 83) [] []))⟩])
    (.seq (.region [⟨some 12, none, .load 1 true (.t 4)⟩,
      ⟨some 13, none, .mov (.t 1)⟩,
      ⟨some 14, none, .load 2 true (.t 6)⟩,
      ⟨some 15, none, .mov (.t 3)⟩,
      ⟨some 16, none, .mov (.t 11)⟩,
      ⟨some 17, none, .mov (.t 10)⟩,
      ⟨some 18, none, .build [.nilfn, .nilfn, .nilfn] [(0, 1, .t 16), (1, 1, .t 17), (2, 1, .c (.fn (.func 84) [] []))]⟩,
      ⟨some 19, none, .call i_merge_masked [.t 12, .t 13, .t 14, .t 15, .t 18]⟩,
      ⟨some 20, none, .ext 0 (.t 19)⟩,
      ⟨some 21, none, .ext 1 (.t 19)⟩,
      ⟨none, none, .store 2 (.t 8) (.t 20)⟩,
      ⟨some 9, none, .mov (.t 21)⟩])
    .ret)))), [.cell 8 2 true, .tmp 9]⟩
theorem T_merge_Drop : trFn Tryz.prog [(0, [1, 1, 1, 0])] Tryz.f28 = some A_merge_Drop := by kernel_rfl
theorem L_merge_Drop : 4 ≤ Tryz.f28.ntmps := by decide

/-! cartouche/merge.Paths -/
def A_merge_Paths : AFn := ⟨(.seq (.region [⟨some 3, none, .box 0 (.t 0)⟩,
      ⟨some 5, none, .box 0 (.t 2)⟩,
      ⟨some 6, none, .mov (.c (.nil))⟩,
      ⟨some 7, none, .mov (.c (.int .i64 0))⟩])
    (.seq (.seq (.region [⟨some 10, none, .load 1 true (.t 3)⟩,
      ⟨some 11, none, .mov (.t 1)⟩,
      ⟨some 12, none, .load 2 true (.t 5)⟩,
      ⟨some 13, none, .blit 0 35 2 [.t 12]⟩,
      ⟨some 14, none, .call i_merge_may [.t 10, .t 11, .t 13]⟩,
      ⟨some 8, none, .mov (.t 14)⟩])
    (.seq (.region [⟨some 15, none, .mov (.t 8)⟩,
      ⟨some 16, none, .bin false .neq (.t 15) (.c (.int .i64 0))⟩])
    (.cond (.t 16) (.seq (.region [⟨some 17, none, .mov (.t 8)⟩,
      ⟨some 6, none, .mov (.c (.nil))⟩,
      ⟨some 7, none, .mov (.t 17)⟩])
    .ret)
    .skip)))
    (.seq (.region [⟨some 18, none, .load 1 true (.t 3)⟩,
      ⟨some 19, none, .mov (.t 1)⟩,
      ⟨some 20, none, .load 2 true (.t 5)⟩,
      ⟨some 21, none, .call i_merge_paths [.t 18, .t 19, .t 20]⟩,
      ⟨some 9, none, .mov (.t 21)⟩])
    (.seq (.region [⟨some 22, none, .mov (.t 9)⟩,
      ⟨some 23, none, .len false (.t 22)⟩,
      ⟨some 24, none, .mks 0 9 1 16 (.str ⟨#[]⟩) (.c (.int .i64 0)) (.t 23)⟩,
      ⟨some 25, none, .mov (.t 9)⟩,
      ⟨some 26, none, .app 0 9 1 16 (.t 24) (.t 25)⟩,
      ⟨some 6, none, .mov (.t 26)⟩,
      ⟨some 7, none, .mov (.c (.int .i64 0))⟩])
    .ret)))), [.tmp 6, .tmp 7]⟩
theorem T_merge_Paths : trFn Tryz.prog [(0, [1, 1, 0, 0]), (1, [0, 0, 0, 1, 0, 0])] Tryz.f29 = some A_merge_Paths := by kernel_rfl
theorem L_merge_Paths : 3 ≤ Tryz.f29.ntmps := by decide

/-! cartouche/cartouchelaw10.told -/
def A_cartouchelaw10_told : AFn := ⟨(.seq (.region [⟨some 4, none, .box 0 (.t 0)⟩,
      ⟨some 6, none, .box 0 (.t 2)⟩,
      ⟨some 8, none, .mov (.c (.bool false))⟩])
    (.seq (.seq (.region [⟨some 9, none, .mov (.t 3)⟩,
      ⟨some 10, none, .bin false .neq (.t 9) (.c (.int .i64 0))⟩])
    (.cond (.t 10) (.seq (.region [⟨some 11, none, .mov (.t 1)⟩,
      ⟨some 12, none, .mov (.t 3)⟩,
      ⟨some 13, none, .bin false .eql (.t 11) (.t 12)⟩,
      ⟨some 14, none, .mov (.t 13)⟩,
      ⟨some 15, some (14, true), .load 2 true (.t 4)⟩,
      ⟨some 16, some (14, true), .call i_cartoucheref8_Empty [.t 15]⟩,
      ⟨some 17, none, .pickb (.t 14) (.t 16) (.c (.bool false))⟩,
      ⟨some 8, none, .mov (.t 17)⟩])
    .ret)
    .skip))
    (.seq (.region [⟨some 18, none, .mov (.t 1)⟩,
      ⟨some 19, none, .bin false .eql (.t 18) (.c (.int .i64 0))⟩,
      ⟨some 20, none, .mov (.t 19)⟩,
      ⟨some 21, some (20, true), .load 2 true (.t 4)⟩,
      ⟨some 22, some (20, true), .load 2 true (.t 6)⟩,
      ⟨some 23, some (20, true), .call i_cartoucheref8_Equal [.t 21, .t 22]⟩,
      ⟨some 24, none, .pickb (.t 20) (.t 23) (.c (.bool false))⟩,
      ⟨some 8, none, .mov (.t 24)⟩])
    .ret))), [.tmp 8]⟩
theorem T_cartouchelaw10_told : trFn Tryz.prog [(0, [1, 1, 0])] Tryz.f30 = some A_cartouchelaw10_told := by kernel_rfl
theorem L_cartouchelaw10_told : 4 ≤ Tryz.f30.ntmps := by decide

/-! cartouche/model.Typed -/
def A_model_Typed : AFn := ⟨(.seq (.region [⟨some 3, none, .box 0 (.t 0)⟩,
      ⟨some 5, none, .box 0 (.t 2)⟩,
      ⟨some 6, none, .mov (.c (.bool false))⟩,
      ⟨some 7, none, .mov (.c (.int .i64 0))⟩])
    (.seq (.seq (.region [⟨some 8, none, .load 1 true (.t 3)⟩,
      ⟨some 9, none, .mov (.t 1)⟩,
      ⟨some 10, none, .call i_table_IsMessage [.t 8, .t 9]⟩,
      ⟨some 11, none, .un .not (.t 10)⟩])
    (.cond (.t 11) (.seq (.region [⟨some 6, none, .mov (.c (.bool false))⟩,
      ⟨some 7, none, .mov (.c (.int .i64 18))⟩])
    .ret)
    .skip))
    (.seq (.region [⟨some 12, none, .load 1 true (.t 3)⟩,
      ⟨some 13, none, .mov (.t 1)⟩,
      ⟨some 14, none, .load 2 true (.t 5)⟩,
      ⟨some 15, none, .call i_model_typed [.t 12, .t 13, .t 14]⟩,
      ⟨some 6, none, .mov (.t 15)⟩,
      ⟨some 7, none, .mov (.c (.int .i64 0))⟩])
    .ret))), [.tmp 6, .tmp 7]⟩
theorem T_model_Typed : trFn Tryz.prog [(0, [1, 1, 0, 0])] Tryz.f65 = some A_model_Typed := by kernel_rfl
theorem L_model_Typed : 3 ≤ Tryz.f65.ntmps := by decide

/-! cartouche/model.Copy -/
def A_model_Copy : AFn := ⟨(.seq (.region [⟨some 1, none, .box 0 (.t 0)⟩,
      ⟨some 2, none, .alloc 0 [.nil, .nil]⟩])
    (.seq (.draw [1, 2, 5, 6, 7, 1000004, 2000005, 2000006, 2000007] [⟨some 3, none, .fldA 0 1 false (.t 1)⟩,
      ⟨some 4, none, .load 1 false (.t 3)⟩,
      ⟨some 5, none, .call i_model_each_api_Field [.t 4, .c (.fn (.func 132) [] [])]⟩,
      ⟨some 6, none, .fldA 1 1 false (.t 1)⟩,
      ⟨some 7, none, .load 1 false (.t 6)⟩,
      ⟨some 8, none, .call i_model_each_api_Entry [.t 7, .c (.fn (.func 134) [] [])]⟩,
      ⟨some 9, none, .build [.nil, .nil] [(0, 1, .t 5), (1, 1, .t 8)]⟩,
      ⟨none, none, .store 2 (.t 2) (.t 9)⟩])
    .ret)), [.cell 2 2 true]⟩
theorem T_model_Copy : trFn Tryz.prog [(0, [1, 1]), (1000001, [1, 2, 5, 6, 7, 1000004, 2000005, 2000006, 2000007])] Tryz.f68 = some A_model_Copy := by kernel_rfl
theorem L_model_Copy : 1 ≤ Tryz.f68.ntmps := by decide

/-! cartouche/table.Field -/
def A_table_Field : AFn := ⟨(.seq (.region [⟨some 3, none, .box 0 (.t 0)⟩,
      ⟨some 6, none, .alloc 0 [.str ⟨#[]⟩, .int .i64 0, .int .i64 0, .int .i64 0, .int .i64 0, .int .i64 0, .int .i64 0]⟩,
      ⟨some 7, none, .mov (.c (.int .i64 0))⟩])
    (.seq (.seq (.region [⟨some 10, none, .load 1 true (.t 3)⟩,
      ⟨some 11, none, .mov (.t 1)⟩,
      ⟨some 12, none, .call i_table_IsMessage [.t 10, .t 11]⟩,
      ⟨some 13, none, .un .not (.t 12)⟩])
    (.cond (.t 13) (.seq (.region [⟨some 14, none, .build [.str ⟨#[]⟩, .int .i64 0, .int .i64 0, .int .i64 0, .int .i64 0, .int .i64 0, .int .i64 0] []⟩,
      ⟨none, none, .store 7 (.t 6) (.t 14)⟩,
      ⟨some 7, none, .mov (.c (.int .i64 18))⟩])
    .ret)
    .skip))
    (.seq (.region [⟨some 16, none, .fldA 0 1 false (.t 3)⟩,
      ⟨some 17, none, .load 1 false (.t 16)⟩,
      ⟨some 18, none, .mov (.t 1)⟩,
      ⟨some 19, none, .idxA 6 (.t 17) (.t 18)⟩,
      ⟨some 20, none, .load 6 true (.t 19)⟩,
      ⟨some 21, none, .mov (.t 2)⟩,
      ⟨some 22, none, .call i_table_At [.t 20, .t 21]⟩,
      ⟨some 15, none, .mov (.t 22)⟩,
      ⟨some 23, none, .ext 0 (.t 15)⟩,
      ⟨some 24, none, .ext 1 (.t 15)⟩,
      ⟨some 8, none, .alloc 0 [.str ⟨#[]⟩, .int .i64 0, .int .i64 0, .int .i64 0, .int .i64 0, .int .i64 0, .int .i64 0]⟩,
      ⟨none, none, .store 7 (.t 8) (.t 23)⟩,
      ⟨some 9, none, .mov (.t 24)⟩])
    (.seq (.seq (.region [⟨some 25, none, .mov (.t 9)⟩,
      ⟨some 26, none, .un .not (.t 25)⟩])
    (.cond (.t 26) (.seq (.region [⟨some 27, none, .build [.str ⟨#[]⟩, .int .i64 0, .int .i64 0, .int .i64 0, .int .i64 0, .int .i64 0, .int .i64 0] []⟩,
      ⟨none, none, .store 7 (.t 6) (.t 27)⟩,
      ⟨some 7, none, .mov (.c (.int .i64 20))⟩])
    .ret)
    .skip))
    (.seq (.region [⟨some 28, none, .load 7 true (.t 8)⟩,
      ⟨none, none, .store 7 (.t 6) (.t 28)⟩,
      ⟨some 7, none, .mov (.c (.int .i64 0))⟩])
    .ret))))), [.cell 6 7 true, .tmp 7]⟩
theorem T_table_Field : trFn Tryz.prog [(0, [1, 1, 0]), (3, [0, 0, 0, 0, 0, 0, 0, 0, 0, 0, 1, 0, 0])] Tryz.f69 = some A_table_Field := by kernel_rfl
theorem L_table_Field : 3 ≤ Tryz.f69.ntmps := by decide

/-! cartouche/merge.Merge -/
def A_merge_Merge : AFn := ⟨(.seq (.region [⟨some 4, none, .box 0 (.t 0)⟩,
      ⟨some 6, none, .box 0 (.t 2)⟩,
      ⟨some 7, none, .box 0 (.t 3)⟩,
      ⟨some 8, none, .alloc 0 [.nil, .nil]⟩,
      ⟨some 9, none, .mov (.c (.int .i64 0))⟩])
    (.seq (.seq (.region [⟨some 11, none, .load 1 true (.t 4)⟩,
      ⟨some 12, none, .mov (.t 1)⟩,
      ⟨some 13, none, .load 2 true (.t 6)⟩,
      ⟨some 14, none, .load 2 true (.t 7)⟩,
      ⟨some 15, none, .blit 0 35 2 [.t 13, .t 14]⟩,
      ⟨some 16, none, .call i_merge_may [.t 11, .t 12, .t 15]⟩,
      ⟨some 10, none, .mov (.t 16)⟩])
    (.seq (.region [⟨some 17, none, .mov (.t 10)⟩,
      ⟨some 18, none, .bin false .neq (.t 17) (.c (.int .i64 0))⟩])
    (.cond (.t 18) (.seq (.region [⟨some 19, none, .build [.nil, .nil] []⟩,
      ⟨some 20, none, .mov (.t 10)⟩,
      ⟨none, none, .store 2 (.t 8) (.t 19)⟩,
      ⟨some 9, none, .mov (.t 20)⟩])
    .ret)
    .skip)))
    (.seq (.draw [2, 3, 5, 6, 7, 8, 1000000, 1000004, 2000006, 2000007, 2000008] [⟨some 21, none, .load 1 true (.t 4)⟩,
      ⟨some 22, none, .mov (.t 1)⟩,
      ⟨some 23, none, .load 2 true (.t 6)⟩,
      ⟨some 24, none, .call i_model_Copy [.t 23]⟩,
      ⟨some 25, none, .load 2 true (.t 7)⟩,
      ⟨some 26, none, .call i_model_Copy [.t 25]⟩,
      ⟨some 27, none, .call i_merge_into [.t 21, .t 22, .t 24, .t 26]⟩,
      ⟨some 28, none, .call i_model_Copy [.t 27]⟩,
      ⟨none, none, .store 2 (.t 8) (.t 28)⟩,
      ⟨some 9, none, .mov (.c (.int .i64 0))⟩])
    .ret))), [.cell 8 2 true, .tmp 9]⟩
theorem T_merge_Merge : trFn Tryz.prog [(0, [1, 1, 1, 1, 0]), (1, [0, 0, 0, 0, 1, 0, 0]), (1000004, [2, 3, 5, 6, 7, 8, 1000000, 1000004, 2000006, 2000007, 2000008])] Tryz.f70 = some A_merge_Merge := by kernel_rfl
theorem L_merge_Merge : 4 ≤ Tryz.f70.ntmps := by decide

/-! cartouche/cartoucheref8.Equal -/
def A_cartoucheref8_Equal : AFn := ⟨(.seq (.region [⟨some 2, none, .box 0 (.t 0)⟩,
      ⟨some 3, none, .box 0 (.t 1)⟩,
      ⟨some 4, none, .mov (.c (.bool false))⟩])
    (.seq (.seq (.region [⟨some 6, none, .fldA 0 1 false (.t 2)⟩,
      ⟨some 7, none, .load 1 false (.t 6)⟩,
      ⟨some 8, none, .len false (.t 7)⟩,
      ⟨some 9, none, .fldA 0 1 false (.t 3)⟩,
      ⟨some 10, none, .load 1 false (.t 9)⟩,
      ⟨some 11, none, .len false (.t 10)⟩,
      ⟨some 12, none, .bin false .neq (.t 8) (.t 11)⟩,
      ⟨some 13, none, .mov (.t 12)⟩,
      ⟨some 14, some (13, false), .fldA 1 1 false (.t 2)⟩,
      ⟨some 15, some (13, false), .load 1 false (.t 14)⟩,
      ⟨some 16, some (13, false), .fldA 1 1 false (.t 3)⟩,
      ⟨some 17, some (13, false), .load 1 false (.t 16)⟩,
      ⟨some 18, some (13, false), .call i_cartoucheref1_List [.t 15, .t 17]⟩,
      ⟨some 19, some (13, false), .un .not (.t 18)⟩,
      ⟨some 20, none, .pickb (.t 13) (.c (.bool true)) (.t 19)⟩])
    (.cond (.t 20) (.seq (.region [⟨some 4, none, .mov (.c (.bool false))⟩])
    .ret)
    .skip))
    (.seq (.seq (.region [⟨some 5, none, .mov (.c (.int .i64 0))⟩])
    (.block 0 (.loop (.seq (.seq (.region [⟨some 21, none, .mov (.t 5)⟩,
      ⟨some 22, none, .fldA 0 1 false (.t 2)⟩,
      ⟨some 23, none, .load 1 false (.t 22)⟩,
      ⟨some 24, none, .len false (.t 23)⟩,
      ⟨some 25, none, .bin false .lss (.t 21) (.t 24)⟩])
    (.cond (.t 25) .skip
    (.exit 0)))
    (.seq (.block 1 (.seq (.draw [1, 3, 4, 10, 1000006, 1000008, 1000009, 2000010] [⟨some 28, none, .fldA 0 1 false (.t 2)⟩,
      ⟨some 29, none, .load 1 false (.t 28)⟩,
      ⟨some 30, none, .mov (.t 5)⟩,
      ⟨some 31, none, .idxA 3 (.t 29) (.t 30)⟩,
      ⟨some 32, none, .load 3 true (.t 31)⟩,
      ⟨some 33, none, .fldA 0 1 false (.t 3)⟩,
      ⟨some 34, none, .load 1 false (.t 33)⟩,
      ⟨some 35, none, .mov (.t 5)⟩,
      ⟨some 36, none, .idxA 3 (.t 34) (.t 35)⟩,
      ⟨some 37, none, .load 3 true (.t 36)⟩,
      ⟨some 38, none, .call i_cartoucheref8_SameField [.t 32, .t 37]⟩,
      ⟨some 39, none, .un .not (.t 38)⟩])
    (.cond (.t 39) (.seq (.region [⟨some 4, none, .mov (.c (.bool false))⟩])
    .ret)
    .skip)))
    (.region [⟨some 26, none, .mov (.t 5)⟩,
      ⟨some 27, none, .bin false .add (.t 26) (.c (.int .i64 1))⟩,
      ⟨some 5, none, .mov (.t 27)⟩]))))))
    (.seq (.region [⟨some 4, none, .mov (.c (.bool true))⟩])
    .ret)))), [.tmp 4]⟩
theorem T_cartoucheref8_Equal : trFn Tryz.prog [(0, [1, 1, 0]), (1000006, [1, 3, 4, 10, 1000006, 1000008, 1000009, 2000010])] Tryz.f71 = some A_cartoucheref8_Equal := by kernel_rfl
theorem L_cartoucheref8_Equal : 2 ≤ Tryz.f71.ntmps := by decide

/-! cartouche/merge.may -/
def A_merge_may : AFn := ⟨(.seq (.region [⟨some 3, none, .box 0 (.t 0)⟩,
      ⟨some 6, none, .mov (.c (.int .i64 0))⟩])
    (.seq (.seq (.region [⟨some 11, none, .load 1 true (.t 3)⟩,
      ⟨some 12, none, .mov (.t 1)⟩,
      ⟨some 13, none, .call i_table_IsMessage [.t 11, .t 12]⟩,
      ⟨some 14, none, .un .not (.t 13)⟩])
    (.cond (.t 14) (.seq (.region [⟨some 6, none, .mov (.c (.int .i64 18))⟩])
    .ret)
    .skip))
    (.seq (.seq (.region [⟨some 15, none, .mov (.t 2)⟩,
      ⟨some 16, none, .len false (.t 15)⟩,
      ⟨some 17, none, .mov (.c (.int .i64 0))⟩])
    (.block 0 (.loop (.seq (.region [⟨some 18, none, .bin false .lss (.t 17) (.t 16)⟩])
    (.seq (.cond (.t 18) .skip
    (.exit 0))
    (.seq (.block 1 (.seq (.region [⟨some 19, none, .idxA 2 (.t 15) (.t 17)⟩,
      ⟨some 20, none, .load 2 true (.t 19)⟩,
      ⟨some 8, none, .alloc 0 [.nil, .nil]⟩,
      ⟨none, none, .store 2 (.t 8) (.t 20)⟩])
    (.seq (.region [⟨some 22, none, .load 1 true (.t 3)⟩,
      ⟨some 23, none, .mov (.t 1)⟩,
      ⟨some 24, none, .load 2 true (.t 8)⟩,
      ⟨some 25, none, .call i_model_Typed [.t 22, .t 23, .t 24]⟩,
      ⟨some 21, none, .mov (.t 25)⟩,
      ⟨some 26, none, .ext 0 (.t 21)⟩,
      ⟨some 27, none, .ext 1 (.t 21)⟩,
      ⟨some 9, none, .mov (.t 26)⟩,
      ⟨some 10, none, .mov (.t 27)⟩])
    (.seq (.region [⟨some 28, none, .mov (.t 9)⟩,
      ⟨some 29, none, .un .not (.t 28)⟩])
    (.cond (.t 29) (.seq (.region [⟨some 6, none, .mov (.c (.int .i64 10))⟩])
    .ret)
    .skip)))))
    (.region [⟨some 30, none, .bin false .add (.t 17) (.c (.int .i64 1))⟩,
      ⟨some 17, none, .mov (.t 30)⟩])))))))
    (.seq (.region [⟨some 6, none, .mov (.c (.int .i64 0))⟩])
    .ret)))), [.tmp 6]⟩
theorem T_merge_may : trFn Tryz.prog [(0, [1, 0]), (5, [0, 0, 1, 0])] Tryz.f72 = some A_merge_may := by kernel_rfl
theorem L_merge_may : 3 ≤ Tryz.f72.ntmps := by decide

/-! cartouche/merge.isPath -/
def A_merge_isPath : AFn := ⟨(.seq (.region [⟨some 3, none, .box 0 (.t 0)⟩,
      ⟨some 6, none, .mov (.c (.bool false))⟩])
    (.seq (.region [⟨some 13, none, .mov (.t 2)⟩,
      ⟨some 14, none, .call i_strings_Cut [.t 13, .c (.str ⟨#[46]⟩)]⟩,
      ⟨some 12, none, .mov (.t 14)⟩,
      ⟨some 15, none, .ext 0 (.t 12)⟩,
      ⟨some 16, none, .ext 1 (.t 12)⟩,
      ⟨some 17, none, .ext 2 (.t 12)⟩,
      ⟨some 7, none, .mov (.t 15)⟩,
      ⟨some 8, none, .mov (.t 16)⟩,
      ⟨some 9, none, .mov (.t 17)⟩])
    (.seq (.region [⟨some 19, none, .load 1 true (.t 3)⟩,
      ⟨some 20, none, .mov (.t 1)⟩,
      ⟨some 21, none, .mov (.t 7)⟩,
      ⟨some 22, none, .call i_table_Named [.t 19, .t 20, .t 21]⟩,
      ⟨some 18, none, .mov (.t 22)⟩,
      ⟨some 23, none, .ext 0 (.t 18)⟩,
      ⟨some 24, none, .ext 1 (.t 18)⟩,
      ⟨some 10, none, .alloc 0 [.str ⟨#[]⟩, .int .i64 0, .int .i64 0, .int .i64 0, .int .i64 0, .int .i64 0, .int .i64 0]⟩,
      ⟨none, none, .store 7 (.t 10) (.t 23)⟩,
      ⟨some 11, none, .mov (.t 24)⟩])
    (.seq (.block 0 (.seq (.region [⟨some 26, none, .mov (.t 11)⟩,
      ⟨some 27, none, .bin false .neq (.t 26) (.c (.int .i64 0))⟩,
      ⟨some 25, none, .mov (.t 27)⟩])
    (.cond (.t 25) (.seq (.region [⟨some 6, none, .mov (.c (.bool false))⟩])
    .ret)
    (.seq (.region [⟨some 29, none, .mov (.t 9)⟩,
      ⟨some 30, none, .un .not (.t 29)⟩,
      ⟨some 28, none, .mov (.t 30)⟩])
    (.cond (.t 28) (.seq (.region [⟨some 6, none, .mov (.c (.bool true))⟩])
    .ret)
    .skip)))))
    (.seq (.region [⟨some 31, none, .load 7 true (.t 10)⟩,
      ⟨some 32, none, .call i_merge_goes [.t 31]⟩,
      ⟨some 33, none, .mov (.t 32)⟩,
      ⟨some 34, some (33, true), .load 1 true (.t 3)⟩,
      ⟨some 35, some (33, true), .fldA 3 1 false (.t 10)⟩,
      ⟨some 36, some (33, true), .load 1 false (.t 35)⟩,
      ⟨some 37, some (33, true), .mov (.t 8)⟩,
      ⟨some 38, some (33, true), .call i_merge_isPath [.t 34, .t 36, .t 37]⟩,
      ⟨some 39, none, .pickb (.t 33) (.t 38) (.c (.bool false))⟩,
      ⟨some 6, none, .mov (.t 39)⟩])
    .ret))))), [.tmp 6]⟩
theorem T_merge_isPath : trFn Tryz.prog [(0, [1, 0]), (2, [0, 0, 0, 0, 0, 0, 0, 1, 0, 0])] Tryz.f73 = some A_merge_isPath := by kernel_rfl
theorem L_merge_isPath : 3 ≤ Tryz.f73.ntmps := by decide

/-! strings.Cut -/
def A_strings_Cut : AFn := ⟨(.seq (.region [⟨some 4, none, .mov (.c (.str ⟨#[]⟩))⟩,
      ⟨some 5, none, .mov (.c (.str ⟨#[]⟩))⟩,
      ⟨some 6, none, .mov (.c (.bool false))⟩])
    (.seq (.region [⟨some 7, none, .mov (.t 0)⟩,
      ⟨some 8, none, .mov (.t 1)⟩,
      ⟨some 9, none, .call i_stringslite_Cut [.t 7, .t 8]⟩,
      ⟨some 10, none, .ext 0 (.t 9)⟩,
      ⟨some 11, none, .ext 1 (.t 9)⟩,
      ⟨some 12, none, .ext 2 (.t 9)⟩,
      ⟨some 4, none, .mov (.t 10)⟩,
      ⟨some 5, none, .mov (.t 11)⟩,
      ⟨some 6, none, .mov (.t 12)⟩])
    .ret)), [.tmp 4, .tmp 5, .tmp 6]⟩
theorem T_strings_Cut : trFn Tryz.prog [] Tryz.f74 = some A_strings_Cut := by kernel_rfl
theorem L_strings_Cut : 2 ≤ Tryz.f74.ntmps := by decide

/-! cartouche/table.Named -/
def A_table_Named : AFn := ⟨(.seq (.region [⟨some 3, none, .box 0 (.t 0)⟩,
      ⟨some 6, none, .alloc 0 [.str ⟨#[]⟩, .int .i64 0, .int .i64 0, .int .i64 0, .int .i64 0, .int .i64 0, .int .i64 0]⟩,
      ⟨some 7, none, .mov (.c (.int .i64 0))⟩])
    (.seq (.seq (.region [⟨some 10, none, .load 1 true (.t 3)⟩,
      ⟨some 11, none, .mov (.t 1)⟩,
      ⟨some 12, none, .call i_table_IsMessage [.t 10, .t 11]⟩,
      ⟨some 13, none, .un .not (.t 12)⟩])
    (.cond (.t 13) (.seq (.region [⟨some 14, none, .build [.str ⟨#[]⟩, .int .i64 0, .int .i64 0, .int .i64 0, .int .i64 0, .int .i64 0, .int .i64 0] []⟩,
      ⟨none, none, .store 7 (.t 6) (.t 14)⟩,
      ⟨some 7, none, .mov (.c (.int .i64 18))⟩])
    .ret)
    .skip))
    (.seq (.seq (.region [⟨some 15, none, .fldA 0 1 false (.t 3)⟩,
      ⟨some 16, none, .load 1 false (.t 15)⟩,
      ⟨some 17, none, .mov (.t 1)⟩,
      ⟨some 18, none, .idxA 6 (.t 16) (.t 17)⟩,
      ⟨some 19, none, .fldA 2 1 false (.t 18)⟩,
      ⟨some 20, none, .load 1 false (.t 19)⟩,
      ⟨some 21, none, .len false (.t 20)⟩,
      ⟨some 22, none, .mov (.c (.int .i64 0))⟩])
    (.block 0 (.loop (.seq (.region [⟨some 23, none, .bin false .lss (.t 22) (.t 21)⟩])
    (.seq (.cond (.t 23) .skip
    (.exit 0))
    (.seq (.block 1 (.seq (.region [⟨some 24, none, .idxA 7 (.t 20) (.t 22)⟩,
      ⟨some 25, none, .load 7 true (.t 24)⟩,
      ⟨some 9, none, .alloc 0 [.str ⟨#[]⟩, .int .i64 0, .int .i64 0, .int .i64 0, .int .i64 0, .int .i64 0, .int .i64 0]⟩,
      ⟨none, none, .store 7 (.t 9) (.t 25)⟩])
    (.seq (.region [⟨some 26, none, .fldA 0 1 false (.t 9)⟩,
      ⟨some 27, none, .load 1 false (.t 26)⟩,
      ⟨some 28, none, .mov (.t 2)⟩,
      ⟨some 29, none, .bin false .eql (.t 27) (.t 28)⟩])
    (.cond (.t 29) (.seq (.region [⟨some 30, none, .load 7 true (.t 9)⟩,
      ⟨none, none, .store 7 (.t 6) (.t 30)⟩,
      ⟨some 7, none, .mov (.c (.int .i64 0))⟩])
    .ret)
    .skip))))
    (.region [⟨some 31, none, .bin false .add (.t 22) (.c (.int .i64 1))⟩,
      ⟨some 22, none, .mov (.t 31)⟩])))))))
    (.seq (.region [⟨some 32, none, .build [.str ⟨#[]⟩, .int .i64 0, .int .i64 0, .int .i64 0, .int .i64 0, .int .i64 0, .int .i64 0] []⟩,
      ⟨none, none, .store 7 (.t 6) (.t 32)⟩,
      ⟨some 7, none, .mov (.c (.int .i64 20))⟩])
    .ret)))), [.cell 6 7 true, .tmp 7]⟩
theorem T_table_Named : trFn Tryz.prog [(0, [1, 1, 0]), (5, [0, 0, 1, 0])] Tryz.f75 = some A_table_Named := by kernel_rfl
theorem L_table_Named : 3 ≤ Tryz.f75.ntmps := by decide

/-! cartouche/model.Get -/
def A_model_Get : AFn := ⟨(.seq (.region [⟨some 2, none, .box 0 (.t 0)⟩,
      ⟨some 3, none, .box 0 (.t 1)⟩,
      ⟨some 4, none, .alloc 0 [.int .i64 0, .nil, .nil]⟩,
      ⟨some 5, none, .mov (.c (.bool false))⟩])
    (.seq (.region [⟨some 7, none, .fldA 0 1 false (.t 2)⟩,
      ⟨some 8, none, .load 1 false (.t 7)⟩,
      ⟨some 9, none, .mkfn (.func 139) [] [.t 3]⟩,
      ⟨some 10, none, .call i_slices_IndexFunc_api_Field_api_Field [.t 8, .t 9]⟩,
      ⟨some 6, none, .mov (.t 10)⟩])
    (.seq (.seq (.region [⟨some 11, none, .mov (.t 6)⟩,
      ⟨some 12, none, .bin false .lss (.t 11) (.c (.int .i64 0))⟩])
    (.cond (.t 12) (.seq (.region [⟨some 13, none, .build [.int .i64 0, .nil, .nil] []⟩,
      ⟨none, none, .store 3 (.t 4) (.t 13)⟩,
      ⟨some 5, none, .mov (.c (.bool false))⟩])
    .ret)
    .skip))
    (.seq (.region [⟨some 14, none, .fldA 0 1 false (.t 2)⟩,
      ⟨some 15, none, .load 1 false (.t 14)⟩,
      ⟨some 16, none, .mov (.t 6)⟩,
      ⟨some 17, none, .idxA 3 (.t 15) (.t 16)⟩,
      ⟨some 18, none, .load 3 true (.t 17)⟩,
      ⟨some 19, none, .call i_model_CopyField [.t 18]⟩,
      ⟨none, none, .store 3 (.t 4) (.t 19)⟩,
      ⟨some 5, none, .mov (.c (.bool true))⟩])
    .ret)))), [.cell 4 3 true, .tmp 5]⟩
theorem T_model_Get : trFn Tryz.prog [(0, [1, 1, 1, 0])] Tryz.f76 = some A_model_Get := by kernel_rfl
theorem L_model_Get : 2 ≤ Tryz.f76.ntmps := by decide

/-! cartouche/cartoucheref8.vals -/
def A_cartoucheref8_vals : AFn := ⟨(.seq (.region [⟨some 4, none, .mov (.c (.bool false))⟩])
    (.seq (.seq (.region [⟨some 7, none, .mov (.t 0)⟩,
      ⟨some 8, none, .len false (.t 7)⟩,
      ⟨some 9, none, .mov (.t 1)⟩,
      ⟨some 10, none, .len false (.t 9)⟩,
      ⟨some 11, none, .bin false .neq (.t 8) (.t 10)⟩])
    (.cond (.t 11) (.seq (.region [⟨some 4, none, .mov (.c (.bool false))⟩])
    .ret)
    .skip))
    (.seq (.seq (.region [⟨some 5, none, .mov (.c (.int .i64 0))⟩])
    (.block 0 (.loop (.seq (.seq (.region [⟨some 12, none, .mov (.t 5)⟩,
      ⟨some 13, none, .mov (.t 0)⟩,
      ⟨some 14, none, .len false (.t 13)⟩,
      ⟨some 15, none, .bin false .lss (.t 12) (.t 14)⟩])
    (.cond (.t 15) .skip
    (.exit 0)))
    (.seq (.block 1 (.seq (.seq (.draw [2, 4, 14, 16, 29, 31, 32, 1000007, 1000009, 1000020, 1000022, 1000035, 1000037, 1000038] [⟨some 18, none, .mov (.t 0)⟩,
      ⟨some 19, none, .mov (.t 5)⟩,
      ⟨some 20, none, .idxA 3 (.t 18) (.t 19)⟩,
      ⟨some 21, none, .fldA 0 1 false (.t 20)⟩,
      ⟨some 22, none, .load 1 false (.t 21)⟩,
      ⟨some 23, none, .mov (.t 1)⟩,
      ⟨some 24, none, .mov (.t 5)⟩,
      ⟨some 25, none, .idxA 3 (.t 23) (.t 24)⟩,
      ⟨some 26, none, .fldA 0 1 false (.t 25)⟩,
      ⟨some 27, none, .load 1 false (.t 26)⟩,
      ⟨some 28, none, .bin false .neq (.t 22) (.t 27)⟩,
      ⟨some 29, none, .mov (.t 28)⟩,
      ⟨some 30, some (29, false), .mov (.t 0)⟩,
      ⟨some 31, some (29, false), .mov (.t 5)⟩,
      ⟨some 32, some (29, false), .idxA 3 (.t 30) (.t 31)⟩,
      ⟨some 33, some (29, false), .fldA 1 1 false (.t 32)⟩,
      ⟨some 34, some (29, false), .load 1 false (.t 33)⟩,
      ⟨some 35, some (29, false), .b2s (.t 34)⟩,
      ⟨some 36, some (29, false), .mov (.t 1)⟩,
      ⟨some 37, some (29, false), .mov (.t 5)⟩,
      ⟨some 38, some (29, false), .idxA 3 (.t 36) (.t 37)⟩,
      ⟨some 39, some (29, false), .fldA 1 1 false (.t 38)⟩,
      ⟨some 40, some (29, false), .load 1 false (.t 39)⟩,
      ⟨some 41, some (29, false), .b2s (.t 40)⟩,
      ⟨some 42, some (29, false), .bin false .neq (.t 35) (.t 41)⟩,
      ⟨some 43, none, .pickb (.t 29) (.c (.bool true)) (.t 42)⟩,
      ⟨some 44, none, .mov (.t 43)⟩,
      ⟨some 45, some (44, false), .mov (.t 0)⟩,
      ⟨some 46, some (44, false), .mov (.t 5)⟩,
      ⟨some 47, some (44, false), .idxA 3 (.t 45) (.t 46)⟩,
      ⟨some 48, some (44, false), .fldA 2 1 false (.t 47)⟩,
      ⟨some 49, some (44, false), .load 1 false (.t 48)⟩,
      ⟨some 50, some (44, false), .len false (.t 49)⟩,
      ⟨some 51, some (44, false), .mov (.t 1)⟩,
      ⟨some 52, some (44, false), .mov (.t 5)⟩,
      ⟨some 53, some (44, false), .idxA 3 (.t 51) (.t 52)⟩,
      ⟨some 54, some (44, false), .fldA 2 1 false (.t 53)⟩,
      ⟨some 55, some (44, false), .load 1 false (.t 54)⟩,
      ⟨some 56, some (44, false), .len false (.t 55)⟩,
      ⟨some 57, some (44, false), .bin false .neq (.t 50) (.t 56)⟩,
      ⟨some 58, none, .pickb (.t 44) (.c (.bool true)) (.t 57)⟩])
    (.cond (.t 58) (.seq (.region [⟨some 4, none, .mov (.c (.bool false))⟩])
    .ret)
    .skip))
    (.seq (.region [⟨some 6, none, .mov (.c (.int .i64 0))⟩])
    (.block 2 (.loop (.seq (.seq (.region [⟨some 59, none, .mov (.t 6)⟩,
      ⟨some 60, none, .mov (.t 0)⟩,
      ⟨some 61, none, .mov (.t 5)⟩,
      ⟨some 62, none, .idxA 3 (.t 60) (.t 61)⟩,
      ⟨some 63, none, .fldA 2 1 false (.t 62)⟩,
      ⟨some 64, none, .load 1 false (.t 63)⟩,
      ⟨some 65, none, .len false (.t 64)⟩,
      ⟨some 66, none, .bin false .lss (.t 59) (.t 65)⟩])
    (.cond (.t 66) .skip
    (.exit 2)))
    (.seq (.block 3 (.seq (.draw [2, 4, 6, 7, 16, 1000010, 1000012, 1000014, 1000015, 2000016] [⟨some 69, none, .mov (.t 0)⟩,
      ⟨some 70, none, .mov (.t 5)⟩,
      ⟨some 71, none, .idxA 3 (.t 69) (.t 70)⟩,
      ⟨some 72, none, .fldA 2 1 false (.t 71)⟩,
      ⟨some 73, none, .load 1 false (.t 72)⟩,
      ⟨some 74, none, .mov (.t 6)⟩,
      ⟨some 75, none, .idxA 2 (.t 73) (.t 74)⟩,
      ⟨some 76, none, .load 2 true (.t 75)⟩,
      ⟨some 77, none, .mov (.t 1)⟩,
      ⟨some 78, none, .mov (.t 5)⟩,
      ⟨some 79, none, .idxA 3 (.t 77) (.t 78)⟩,
      ⟨some 80, none, .fldA 2 1 false (.t 79)⟩,
      ⟨some 81, none, .load 1 false (.t 80)⟩,
      ⟨some 82, none, .mov (.t 6)⟩,
      ⟨some 83, none, .idxA 2 (.t 81) (.t 82)⟩,
      ⟨some 84, none, .load 2 true (.t 83)⟩,
      ⟨some 85, none, .call i_cartoucheref8_Equal [.t 76, .t 84]⟩,
      ⟨some 86, none, .un .not (.t 85)⟩])
    (.cond (.t 86) (.seq (.region [⟨some 4, none, .mov (.c (.bool false))⟩])
    .ret)
    .skip)))
    (.region [⟨some 67, none, .mov (.t 6)⟩,
      ⟨some 68, none, .bin false .add (.t 67) (.c (.int .i64 1))⟩,
      ⟨some 6, none, .mov (.t 68)⟩]))))))))
    (.region [⟨some 16, none, .mov (.t 5)⟩,
      ⟨some 17, none, .bin false .add (.t 16) (.c (.int .i64 1))⟩,
      ⟨some 5, none, .mov (.t 17)⟩]))))))
    (.seq (.region [⟨some 4, none, .mov (.c (.bool true))⟩])
    .ret)))), [.tmp 4]⟩
theorem T_cartoucheref8_vals : trFn Tryz.prog [(1000006, [2, 4, 14, 16, 29, 31, 32, 1000007, 1000009, 1000020, 1000022, 1000035, 1000037, 1000038]), (1000011, [2, 4, 6, 7, 16, 1000010, 1000012, 1000014, 1000015, 2000016])] Tryz.f77 = some A_cartoucheref8_vals := by kernel_rfl
theorem L_cartoucheref8_vals : 2 ≤ Tryz.f77.ntmps := by decide

/-! cartouche/merge.Keep$1 -/
def A_merge_Keep_1 : AFn := ⟨(.seq (.region [⟨some 1, none, .box 0 (.t 0)⟩,
      ⟨some 2, none, .mov (.c (.nil))⟩])
    (.seq (.region [⟨some 3, none, .load 3 true (.t 1)⟩,
      ⟨some 4, none, .blit 0 29 3 [.t 3]⟩,
      ⟨some 2, none, .mov (.t 4)⟩])
    .ret)), [.tmp 2]⟩
theorem T_merge_Keep_1 : trFn Tryz.prog [(0, [1, 0]), (1, [0, 1, 0])] Tryz.f78 = some A_merge_Keep_1 := by kernel_rfl
theorem L_merge_Keep_1 : 1 ≤ Tryz.f78.ntmps := by decide

/-! cartouche/merge.Keep$2 -/
def A_merge_Keep_2 : AFn := ⟨(.seq (.region [⟨some 1, none, .box 0 (.t 0)⟩,
      ⟨some 2, none, .mov (.c (.nil))⟩])
    (.seq (.region [⟨some 2, none, .mov (.c (.nil))⟩])
    .ret)), [.tmp 2]⟩
theorem T_merge_Keep_2 : trFn Tryz.prog [(0, [1, 0])] Tryz.f79 = some A_merge_Keep_2 := by kernel_rfl
theorem L_merge_Keep_2 : 1 ≤ Tryz.f79.ntmps := by decide

/-! cartouche/merge.masked -/
def A_merge_masked : AFn := ⟨(.seq (.region [⟨some 5, none, .box 0 (.t 0)⟩,
      ⟨some 7, none, .box 0 (.t 2)⟩,
      ⟨some 9, none, .box 0 (.t 4)⟩,
      ⟨some 10, none, .alloc 0 [.nil, .nil]⟩,
      ⟨some 11, none, .mov (.c (.int .i64 0))⟩])
    (.seq (.seq (.region [⟨some 15, none, .load 1 true (.t 5)⟩,
      ⟨some 16, none, .mov (.t 1)⟩,
      ⟨some 17, none, .load 2 true (.t 7)⟩,
      ⟨some 18, none, .blit 0 35 2 [.t 17]⟩,
      ⟨some 19, none, .call i_merge_may [.t 15, .t 16, .t 18]⟩,
      ⟨some 12, none, .mov (.t 19)⟩])
    (.seq (.region [⟨some 20, none, .mov (.t 12)⟩,
      ⟨some 21, none, .bin false .neq (.t 20) (.c (.int .i64 0))⟩])
    (.cond (.t 21) (.seq (.region [⟨some 22, none, .build [.nil, .nil] []⟩,
      ⟨some 23, none, .mov (.t 12)⟩,
      ⟨none, none, .store 2 (.t 10) (.t 22)⟩,
      ⟨some 11, none, .mov (.t 23)⟩])
    .ret)
    .skip)))
    (.seq (.seq (.region [⟨some 24, none, .mov (.t 3)⟩,
      ⟨some 25, none, .len false (.t 24)⟩,
      ⟨some 26, none, .mov (.c (.int .i64 0))⟩])
    (.block 0 (.loop (.seq (.region [⟨some 27, none, .bin false .lss (.t 26) (.t 25)⟩])
    (.seq (.cond (.t 27) .skip
    (.exit 0))
    (.seq (.block 1 (.seq (.region [⟨some 28, none, .idxA 1 (.t 24) (.t 26)⟩,
      ⟨some 29, none, .load 1 false (.t 28)⟩,
      ⟨some 14, none, .mov (.t 29)⟩])
    (.seq (.region [⟨some 30, none, .load 1 true (.t 5)⟩,
      ⟨some 31, none, .mov (.t 1)⟩,
      ⟨some 32, none, .mov (.t 14)⟩,
      ⟨some 33, none, .call i_merge_isPath [.t 30, .t 31, .t 32]⟩,
      ⟨some 34, none, .un .not (.t 33)⟩])
    (.cond (.t 34) (.seq (.region [⟨some 35, none, .build [.nil, .nil] []⟩,
      ⟨none, none, .store 2 (.t 10) (.t 35)⟩,
      ⟨some 11, none, .mov (.c (.int .i64 12))⟩])
    .ret)
    .skip))))
    (.region [⟨some 36, none, .bin false .add (.t 26) (.c (.int .i64 1))⟩,
      ⟨some 26, none, .mov (.t 36)⟩])))))))
    (.seq (.region [⟨some 37, none, .load 3 true (.t 9)⟩,
      ⟨some 38, none, .load 1 true (.t 5)⟩,
      ⟨some 39, none, .mov (.t 1)⟩,
      ⟨some 40, none, .load 2 true (.t 7)⟩,
      ⟨some 41, none, .mov (.t 3)⟩,
      ⟨some 42, none, .call i_merge_walk_message [.t 37, .t 38, .t 39, .t 40, .t 41]⟩,
      ⟨some 43, none, .call i_model_Copy [.t 42]⟩,
      ⟨none, none, .store 2 (.t 10) (.t 43)⟩,
      ⟨some 11, none, .mov (.c (.int .i64 0))⟩])
    .ret)))), [.cell 10 2 true, .tmp 11]⟩
theorem T_merge_masked : trFn Tryz.prog [(0, [1, 1, 1, 1, 0]), (1, [0, 0, 0, 1, 0, 0])] Tryz.f80 = some A_merge_masked := by kernel_rfl
theorem L_merge_masked : 5 ≤ Tryz.f80.ntmps := by decide

/-! cartouche/merge.Keep$3 -/
def A_merge_Keep_3 : AFn := ⟨(.seq (.region [⟨some 2, none, .mov (.c (.nil))⟩])
    (.seq (.region [⟨some 2, none, .mov (.c (.nil))⟩])
    .ret)), [.tmp 2]⟩
theorem T_merge_Keep_3 : trFn Tryz.prog [] Tryz.f81 = some A_merge_Keep_3 := by kernel_rfl
theorem L_merge_Keep_3 : 1 ≤ Tryz.f81.ntmps := by decide

/-! cartouche/merge.Drop$1 -/
def A_merge_Drop_1 : AFn := ⟨(.seq (.region [⟨some 1, none, .box 0 (.t 0)⟩,
      ⟨some 2, none, .mov (.c (.nil))⟩])
    (.seq (.region [⟨some 3, none, .load 3 true (.t 1)⟩,
      ⟨some 4, none, .blit 0 29 3 [.t 3]⟩,
      ⟨some 2, none, .mov (.t 4)⟩])
    .ret)), [.tmp 2]⟩
theorem T_merge_Drop_1 : trFn Tryz.prog [(0, [1, 0]), (1, [0, 1, 0])] Tryz.f82 = some A_merge_Drop_1 := by kernel_rfl
theorem L_merge_Drop_1 : 1 ≤ Tryz.f82.ntmps := by decide

/-! cartouche/merge.Drop$2 -/
def A_merge_Drop_2 : AFn := ⟨(.seq (.region [⟨some 1, none, .box 0 (.t 0)⟩,
      ⟨some 2, none, .mov (.c (.nil))⟩])
    (.seq (.region [⟨some 2, none, .mov (.c (.nil))⟩])
    .ret)), [.tmp 2]⟩
theorem T_merge_Drop_2 : trFn Tryz.prog [(0, [1, 0])] Tryz.f83 = some A_merge_Drop_2 := by kernel_rfl
theorem L_merge_Drop_2 : 1 ≤ Tryz.f83.ntmps := by decide

/-! cartouche/merge.Drop$3 -/
def A_merge_Drop_3 : AFn := ⟨(.seq (.region [⟨some 2, none, .mov (.c (.nil))⟩])
    (.seq (.region [⟨some 3, none, .mov (.t 0)⟩,
      ⟨some 2, none, .mov (.t 3)⟩])
    .ret)), [.tmp 2]⟩
theorem T_merge_Drop_3 : trFn Tryz.prog [] Tryz.f84 = some A_merge_Drop_3 := by kernel_rfl
theorem L_merge_Drop_3 : 1 ≤ Tryz.f84.ntmps := by decide

/-! cartouche/merge.paths -/
def A_merge_paths : AFn := ⟨(.seq (.region [⟨some 3, none, .box 0 (.t 0)⟩,
      ⟨some 5, none, .box 0 (.t 2)⟩,
      ⟨some 6, none, .mov (.c (.nil))⟩])
    (.seq (.region [⟨some 7, none, .mov (.c (.nil))⟩])
    (.seq (.seq (.region [⟨some 14, none, .fldA 0 1 false (.t 5)⟩,
      ⟨some 15, none, .load 1 false (.t 14)⟩,
      ⟨some 16, none, .len false (.t 15)⟩,
      ⟨some 17, none, .mov (.c (.int .i64 0))⟩])
    (.block 0 (.loop (.seq (.region [⟨some 18, none, .bin false .lss (.t 17) (.t 16)⟩])
    (.seq (.cond (.t 18) .skip
    (.exit 0))
    (.seq (.block 1 (.seq (.region [⟨some 19, none, .idxA 3 (.t 15) (.t 17)⟩,
      ⟨some 20, none, .load 3 true (.t 19)⟩,
      ⟨some 9, none, .alloc 0 [.int .i64 0, .nil, .nil]⟩,
      ⟨none, none, .store 3 (.t 9) (.t 20)⟩])
    (.seq (.draw [11, 12, 1000001, 1000003, 1000004, 1000006, 2000012] [⟨some 22, none, .fldA 0 1 false (.t 3)⟩,
      ⟨some 23, none, .load 1 false (.t 22)⟩,
      ⟨some 24, none, .mov (.t 1)⟩,
      ⟨some 25, none, .idxA 6 (.t 23) (.t 24)⟩,
      ⟨some 26, none, .load 6 true (.t 25)⟩,
      ⟨some 27, none, .fldA 0 1 false (.t 9)⟩,
      ⟨some 28, none, .load 1 false (.t 27)⟩,
      ⟨some 29, none, .call i_table_At [.t 26, .t 28]⟩,
      ⟨some 21, none, .mov (.t 29)⟩,
      ⟨some 30, none, .ext 0 (.t 21)⟩,
      ⟨some 31, none, .ext 1 (.t 21)⟩,
      ⟨some 10, none, .alloc 0 [.str ⟨#[]⟩, .int .i64 0, .int .i64 0, .int .i64 0, .int .i64 0, .int .i64 0, .int .i64 0]⟩,
      ⟨none, none, .store 7 (.t 10) (.t 30)⟩,
      ⟨some 11, none, .mov (.t 31)⟩])
    (.seq (.seq (.region [⟨some 32, none, .load 7 true (.t 10)⟩,
      ⟨some 33, none, .call i_merge_goes [.t 32]⟩,
      ⟨some 34, none, .un .not (.t 33)⟩,
      ⟨some 35, none, .mov (.t 34)⟩,
      ⟨some 36, some (35, false), .fldA 2 1 false (.t 9)⟩,
      ⟨some 37, some (35, false), .load 1 false (.t 36)⟩,
      ⟨some 38, some (35, false), .idxA 3 (.t 37) (.c (.int .i64 0))⟩,
      ⟨some 39, some (35, false), .fldA 2 1 false (.t 38)⟩,
      ⟨some 40, some (35, false), .load 1 false (.t 39)⟩,
      ⟨some 41, some (35, false), .idxA 2 (.t 40) (.c (.int .i64 0))⟩,
      ⟨some 42, some (35, false), .fldA 0 1 false (.t 41)⟩,
      ⟨some 43, some (35, false), .load 1 false (.t 42)⟩,
      ⟨some 44, some (35, false), .len false (.t 43)⟩,
      ⟨some 45, some (35, false), .bin false .eql (.t 44) (.c (.int .i64 0))⟩,
      ⟨some 46, none, .pickb (.t 35) (.c (.bool true)) (.t 45)⟩])
    (.cond (.t 46) (.seq (.region [⟨some 47, none, .mov (.t 7)⟩,
      ⟨some 48, none, .fldA 0 1 false (.t 10)⟩,
      ⟨some 49, none, .load 1 false (.t 48)⟩,
      ⟨some 50, none, .blit 0 9 1 [.t 49]⟩,
      ⟨some 51, none, .app 0 9 1 16 (.t 47) (.t 50)⟩,
      ⟨some 7, none, .mov (.t 51)⟩])
    (.exit 1))
    .skip))
    (.seq (.draw [0, 10, 11, 1000002, 1000004, 1000005, 1000007, 1000008, 1000009, 2000010, 2000011] [⟨some 52, none, .load 1 true (.t 3)⟩,
      ⟨some 53, none, .fldA 3 1 false (.t 10)⟩,
      ⟨some 54, none, .load 1 false (.t 53)⟩,
      ⟨some 55, none, .fldA 2 1 false (.t 9)⟩,
      ⟨some 56, none, .load 1 false (.t 55)⟩,
      ⟨some 57, none, .idxA 3 (.t 56) (.c (.int .i64 0))⟩,
      ⟨some 58, none, .fldA 2 1 false (.t 57)⟩,
      ⟨some 59, none, .load 1 false (.t 58)⟩,
      ⟨some 60, none, .idxA 2 (.t 59) (.c (.int .i64 0))⟩,
      ⟨some 61, none, .load 2 true (.t 60)⟩,
      ⟨some 62, none, .call i_merge_paths [.t 52, .t 54, .t 61]⟩,
      ⟨some 63, none, .len false (.t 62)⟩,
      ⟨some 64, none, .mov (.c (.int .i64 0))⟩])
    (.block 2 (.loop (.seq (.region [⟨some 65, none, .bin false .lss (.t 64) (.t 63)⟩])
    (.seq (.cond (.t 65) .skip
    (.exit 2))
    (.seq (.block 3 (.seq (.region [⟨some 66, none, .idxA 1 (.t 62) (.t 64)⟩,
      ⟨some 67, none, .load 1 false (.t 66)⟩,
      ⟨some 13, none, .mov (.t 67)⟩])
    (.region [⟨some 68, none, .mov (.t 7)⟩,
      ⟨some 69, none, .fldA 0 1 false (.t 10)⟩,
      ⟨some 70, none, .load 1 false (.t 69)⟩,
      ⟨some 71, none, .bin false .add (.t 70) (.c (.str ⟨#[46]⟩))⟩,
      ⟨some 72, none, .mov (.t 13)⟩,
      ⟨some 73, none, .bin false .add (.t 71) (.t 72)⟩,
      ⟨some 74, none, .blit 0 9 1 [.t 73]⟩,
      ⟨some 75, none, .app 0 9 1 16 (.t 68) (.t 74)⟩,
      ⟨some 7, none, .mov (.t 75)⟩])))
    (.region [⟨some 76, none, .bin false .add (.t 64) (.c (.int .i64 1))⟩,
      ⟨some 64, none, .mov (.t 76)⟩])))))))))))
    (.region [⟨some 77, none, .bin false .add (.t 17) (.c (.int .i64 1))⟩,
      ⟨some 17, none, .mov (.t 77)⟩])))))))
    (.seq (.region [⟨some 78, none, .mov (.t 7)⟩,
      ⟨some 6, none, .mov (.t 78)⟩])
    .ret)))), [.tmp 6]⟩
theorem T_merge_paths : trFn Tryz.prog [(0, [1, 1, 0]), (4, [0, 0, 1, 0]), (5, [0, 0, 0, 0, 0, 0, 0, 0, 0, 0, 0, 1, 0, 0]), (7, [0, 0, 0, 1, 0, 0]), (11, [0, 0, 0, 0, 0, 0, 1, 0, 0]), (1000005, [11, 12, 1000001, 1000003, 1000004, 1000006, 2000012]), (1000008, [0, 10, 11, 1000002, 1000004, 1000005, 1000007, 1000008, 1000009, 2000010, 2000011])] Tryz.f85 = some A_merge_paths := by kernel_rfl
theorem L_merge_paths : 3 ≤ Tryz.f85.ntmps := by decide

/-! cartouche/cartoucheref1.List -/
def A_cartoucheref1_List : AFn := ⟨(.seq (.region [⟨some 4, none, .mov (.c (.bool false))⟩])
    (.seq (.seq (.region [⟨some 6, none, .mov (.t 0)⟩,
      ⟨some 7, none, .len false (.t 6)⟩,
      ⟨some 8, none, .mov (.t 1)⟩,
      ⟨some 9, none, .len false (.t 8)⟩,
      ⟨some 10, none, .bin false .neq (.t 7) (.t 9)⟩])
    (.cond (.t 10) (.seq (.region [⟨some 4, none, .mov (.c (.bool false))⟩])
    .ret)
    .skip))
    (.seq (.seq (.region [⟨some 5, none, .mov (.c (.int .i64 0))⟩])
    (.block 0 (.loop (.seq (.seq (.region [⟨some 11, none, .mov (.t 5)⟩,
      ⟨some 12, none, .mov (.t 0)⟩,
      ⟨some 13, none, .len false (.t 12)⟩,
      ⟨some 14, none, .bin false .lss (.t 11) (.t 13)⟩])
    (.cond (.t 14) .skip
    (.exit 0)))
    (.seq (.block 1 (.seq (.draw [2, 3, 8, 1000006, 1000007, 2000008] [⟨some 17, none, .mov (.t 0)⟩,
      ⟨some 18, none, .mov (.t 5)⟩,
      ⟨some 19, none, .idxA 4 (.t 17) (.t 18)⟩,
      ⟨some 20, none, .load 4 true (.t 19)⟩,
      ⟨some 21, none, .mov (.t 1)⟩,
      ⟨some 22, none, .mov (.t 5)⟩,
      ⟨some 23, none, .idxA 4 (.t 21) (.t 22)⟩,
      ⟨some 24, none, .load 4 true (.t 23)⟩,
      ⟨some 25, none, .call i_cartoucheref1_Same [.t 20, .t 24]⟩,
      ⟨some 26, none, .un .not (.t 25)⟩])
    (.cond (.t 26) (.seq (.region [⟨some 4, none, .mov (.c (.bool false))⟩])
    .ret)
    .skip)))
    (.region [⟨some 15, none, .mov (.t 5)⟩,
      ⟨some 16, none, .bin false .add (.t 15) (.c (.int .i64 1))⟩,
      ⟨some 5, none, .mov (.t 16)⟩]))))))
    (.seq (.region [⟨some 4, none, .mov (.c (.bool true))⟩])
    .ret)))), [.tmp 4]⟩
theorem T_cartoucheref1_List : trFn Tryz.prog [(1000006, [2, 3, 8, 1000006, 1000007, 2000008])] Tryz.f98 = some A_cartoucheref1_List := by kernel_rfl
theorem L_cartoucheref1_List : 2 ≤ Tryz.f98.ntmps := by decide

/-! cartouche/wire.PutVarint -/
def A_wire_PutVarint : AFn := ⟨(.seq (.region [⟨some 2, none, .mov (.c (.nil))⟩])
    (.seq (.region [⟨some 3, none, .mov (.t 0)⟩,
      ⟨some 4, none, .call i_wire_Size [.t 3]⟩,
      ⟨some 5, none, .mks 0 5 1 1 (.int .u8 0) (.c (.int .i64 0)) (.t 4)⟩,
      ⟨some 6, none, .mov (.t 0)⟩,
      ⟨some 7, none, .call i_wire_varint [.t 5, .t 6]⟩,
      ⟨some 2, none, .mov (.t 7)⟩])
    .ret)), [.tmp 2]⟩
theorem T_wire_PutVarint : trFn Tryz.prog [] Tryz.f104 = some A_wire_PutVarint := by kernel_rfl
theorem L_wire_PutVarint : 1 ≤ Tryz.f104.ntmps := by decide

/-! cartouche/table.IsMessage -/
def A_table_IsMessage : AFn := ⟨(.seq (.region [⟨some 2, none, .box 0 (.t 0)⟩,
      ⟨some 4, none, .mov (.c (.bool false))⟩])
    (.seq (.region [⟨some 5, none, .load 1 true (.t 2)⟩,
      ⟨some 6, none, .call i_table_Good [.t 5]⟩,
      ⟨some 7, none, .mov (.t 6)⟩,
      ⟨some 8, some (7, true), .load 1 true (.t 2)⟩,
      ⟨some 9, some (7, true), .mov (.t 1)⟩,
      ⟨some 10, some (7, true), .call i_table_sort [.t 8, .t 9, .c (.bool false)]⟩,
      ⟨some 11, none, .pickb (.t 7) (.t 10) (.c (.bool false))⟩,
      ⟨some 4, none, .mov (.t 11)⟩])
    .ret)), [.tmp 4]⟩
theorem T_table_IsMessage : trFn Tryz.prog [(0, [1, 0])] Tryz.f121 = some A_table_IsMessage := by kernel_rfl
theorem L_table_IsMessage : 2 ≤ Tryz.f121.ntmps := by decide

/-! cartouche/model.typed -/
def A_model_typed : AFn := ⟨(.seq (.region [⟨some 3, none, .box 0 (.t 0)⟩,
      ⟨some 5, none, .box 0 (.t 2)⟩,
      ⟨some 6, none, .mov (.c (.bool false))⟩])
    (.seq (.region [⟨some 18, none, .fldA 0 1 false (.t 3)⟩,
      ⟨some 19, none, .load 1 false (.t 18)⟩,
      ⟨some 20, none, .mov (.t 1)⟩,
      ⟨some 21, none, .idxA 6 (.t 19) (.t 20)⟩,
      ⟨some 22, none, .load 6 true (.t 21)⟩,
      ⟨some 7, none, .alloc 0 [.str ⟨#[]⟩, .bool false, .nil, .nil, .nil, .nil]⟩,
      ⟨none, none, .store 6 (.t 7) (.t 22)⟩])
    (.seq (.region [⟨some 23, none, .fldA 3 1 false (.t 7)⟩,
      ⟨some 24, none, .load 1 false (.t 23)⟩,
      ⟨some 25, none, .len false (.t 24)⟩,
      ⟨some 26, none, .mks 0 3 1 8 (.int .i64 0) (.t 25) (.t 25)⟩,
      ⟨some 8, none, .mov (.t 26)⟩])
    (.seq (.region [⟨some 9, none, .mov (.c (.int .i64 0))⟩])
    (.seq (.seq (.region [⟨some 27, none, .fldA 0 1 false (.t 5)⟩,
      ⟨some 28, none, .load 1 false (.t 27)⟩,
      ⟨some 29, none, .len false (.t 28)⟩,
      ⟨some 30, none, .mov (.c (.int .i64 0))⟩])
    (.block 0 (.loop (.seq (.region [⟨some 31, none, .bin false .lss (.t 30) (.t 29)⟩])
    (.seq (.cond (.t 31) .skip
    (.exit 0))
    (.seq (.block 1 (.seq (.region [⟨some 32, none, .idxA 3 (.t 28) (.t 30)⟩,
      ⟨some 33, none, .load 3 true (.t 32)⟩,
      ⟨some 11, none, .alloc 0 [.int .i64 0, .nil, .nil]⟩,
      ⟨none, none, .store 3 (.t 11) (.t 33)⟩])
    (.seq (.region [⟨some 35, none, .load 6 true (.t 7)⟩,
      ⟨some 36, none, .fldA 0 1 false (.t 11)⟩,
      ⟨some 37, none, .load 1 false (.t 36)⟩,
      ⟨some 38, none, .call i_table_At [.t 35, .t 37]⟩,
      ⟨some 34, none, .mov (.t 38)⟩,
      ⟨some 39, none, .ext 0 (.t 34)⟩,
      ⟨some 40, none, .ext 1 (.t 34)⟩,
      ⟨some 12, none, .alloc 0 [.str ⟨#[]⟩, .int .i64 0, .int .i64 0, .int .i64 0, .int .i64 0, .int .i64 0, .int .i64 0]⟩,
      ⟨none, none, .store 7 (.t 12) (.t 39)⟩,
      ⟨some 13, none, .mov (.t 40)⟩])
    (.seq (.seq (.region [⟨some 41, none, .mov (.t 13)⟩,
      ⟨some 42, none, .un .not (.t 41)⟩,
      ⟨some 43, none, .mov (.t 42)⟩,
      ⟨some 44, some (43, false), .fldA 0 1 false (.t 11)⟩,
      ⟨some 45, some (43, false), .load 1 false (.t 44)⟩,
      ⟨some 46, some (43, false), .mov (.t 9)⟩,
      ⟨some 47, some (43, false), .bin false .leq (.t 45) (.t 46)⟩,
      ⟨some 48, none, .pickb (.t 43) (.c (.bool true)) (.t 47)⟩,
      ⟨some 49, none, .mov (.t 48)⟩,
      ⟨some 50, some (49, false), .load 1 true (.t 3)⟩,
      ⟨some 51, some (49, false), .load 7 true (.t 12)⟩,
      ⟨some 52, some (49, false), .load 3 true (.t 11)⟩,
      ⟨some 53, some (49, false), .call i_model_typedField [.t 50, .t 51, .t 52]⟩,
      ⟨some 54, some (49, false), .un .not (.t 53)⟩,
      ⟨some 55, none, .pickb (.t 49) (.c (.bool true)) (.t 54)⟩])
    (.cond (.t 55) (.seq (.region [⟨some 6, none, .mov (.c (.bool false))⟩])
    .ret)
    .skip))
    (.seq (.region [⟨some 56, none, .fldA 0 1 false (.t 11)⟩,
      ⟨some 57, none, .load 1 false (.t 56)⟩,
      ⟨some 9, none, .mov (.t 57)⟩])
    (.seq (.region [⟨some 58, none, .fldA 4 1 false (.t 12)⟩,
      ⟨some 59, none, .load 1 false (.t 58)⟩,
      ⟨some 60, none, .bin false .eql (.t 59) (.c (.int .i64 4))⟩])
    (.cond (.t 60) (.seq (.region [⟨some 61, none, .mov (.t 8)⟩,
      ⟨some 62, none, .fldA 5 1 false (.t 12)⟩,
      ⟨some 63, none, .load 1 false (.t 62)⟩,
      ⟨some 64, none, .idxA 1 (.t 61) (.t 63)⟩,
      ⟨some 65, none, .load 1 false (.t 64)⟩,
      ⟨some 66, none, .bin false .add (.t 65) (.c (.int .i64 1))⟩,
      ⟨some 67, none, .idxA 1 (.t 61) (.t 63)⟩,
      ⟨none, none, .store 1 (.t 67) (.t 66)⟩])
    (.seq (.region [⟨some 68, none, .mov (.t 8)⟩,
      ⟨some 69, none, .fldA 5 1 false (.t 12)⟩,
      ⟨some 70, none, .load 1 false (.t 69)⟩,
      ⟨some 71, none, .idxA 1 (.t 68) (.t 70)⟩,
      ⟨some 72, none, .load 1 false (.t 71)⟩,
      ⟨some 73, none, .bin false .gtr (.t 72) (.c (.int .i64 1))⟩])
    (.cond (.t 73) (.seq (.region [⟨some 6, none, .mov (.c (.bool false))⟩])
    .ret)
    .skip)))
    .skip)))))))
    (.region [⟨some 74, none, .bin false .add (.t 30) (.c (.int .i64 1))⟩,
      ⟨some 30, none, .mov (.t 74)⟩])))))))
    (.seq (.seq (.region [⟨some 75, none, .fldA 1 1 false (.t 5)⟩,
      ⟨some 76, none, .load 1 false (.t 75)⟩,
      ⟨some 77, none, .len false (.t 76)⟩,
      ⟨some 78, none, .mov (.c (.int .i64 0))⟩])
    (.block 2 (.loop (.seq (.region [⟨some 79, none, .bin false .lss (.t 78) (.t 77)⟩])
    (.seq (.cond (.t 79) .skip
    (.exit 2))
    (.seq (.block 3 (.seq (.region [⟨some 80, none, .idxA 4 (.t 76) (.t 78)⟩,
      ⟨some 81, none, .load 4 true (.t 80)⟩,
      ⟨some 15, none, .alloc 0 [.int .i64 0, .int .i64 0, .int .u64 0, .nil]⟩,
      ⟨none, none, .store 4 (.t 15) (.t 81)⟩])
    (.seq (.region [⟨some 83, none, .load 4 true (.t 15)⟩,
      ⟨some 84, none, .call i_wire_PutEntry [.t 83]⟩,
      ⟨some 82, none, .mov (.t 84)⟩,
      ⟨some 85, none, .ext 0 (.t 82)⟩,
      ⟨some 86, none, .ext 1 (.t 82)⟩,
      ⟨some 16, none, .mov (.t 85)⟩,
      ⟨some 17, none, .mov (.t 86)⟩])
    (.seq (.region [⟨some 87, none, .mov (.t 17)⟩,
      ⟨some 88, none, .bin false .neq (.t 87) (.c (.int .i64 0))⟩])
    (.cond (.t 88) (.seq (.region [⟨some 6, none, .mov (.c (.bool false))⟩])
    .ret)
    .skip)))))
    (.region [⟨some 89, none, .bin false .add (.t 78) (.c (.int .i64 1))⟩,
      ⟨some 78, none, .mov (.t 89)⟩])))))))
    (.seq (.region [⟨some 6, none, .mov (.c (.bool true))⟩])
    .ret))))))), [.tmp 6]⟩
theorem T_model_typed : trFn Tryz.prog [(0, [1, 1, 0]), (1, [0, 0, 0, 0, 0, 1, 0]), (6, [0, 0, 1, 0]), (7, [0, 0, 0, 0, 0, 0, 0, 1, 0, 0]), (18, [0, 0, 1, 0])] Tryz.f122 = some A_model_typed := by kernel_rfl
theorem L_model_typed : 3 ≤ Tryz.f122.ntmps := by decide

/-! slices.DeleteFunc[[]cartouche/api.Field,cartouche/api.Field] -/
def A_slices_DeleteFunc_api_Field_api_Field : AFn := ⟨(.seq (.region [⟨some 4, none, .mov (.c (.nil))⟩])
    (.seq (.region [⟨some 8, none, .mov (.t 0)⟩,
      ⟨some 9, none, .mov (.t 1)⟩,
      ⟨some 10, none, .call i_slices_IndexFunc_api_Field_api_Field [.t 8, .t 9]⟩,
      ⟨some 5, none, .mov (.t 10)⟩])
    (.seq (.seq (.region [⟨some 11, none, .mov (.t 5)⟩,
      ⟨some 12, none, .bin false .eql (.t 11) (.c (.int .i64 (-1)))⟩])
    (.cond (.t 12) (.seq (.region [⟨some 13, none, .mov (.t 0)⟩,
      ⟨some 4, none, .mov (.t 13)⟩])
    .ret)
    .skip))
    (.seq (.seq (.region [⟨some 14, none, .mov (.t 5)⟩,
      ⟨some 15, none, .bin false .add (.t 14) (.c (.int .i64 1))⟩,
      ⟨some 6, none, .mov (.t 15)⟩])
    (.block 0 (.loop (.seq (.seq (.region [⟨some 16, none, .mov (.t 6)⟩,
      ⟨some 17, none, .mov (.t 0)⟩,
      ⟨some 18, none, .len false (.t 17)⟩,
      ⟨some 19, none, .bin false .lss (.t 16) (.t 18)⟩])
    (.cond (.t 19) .skip
    (.exit 0)))
    (.seq (.block 1 (.seq (.region [⟨some 22, none, .mov (.t 0)⟩,
      ⟨some 23, none, .mov (.t 6)⟩,
      ⟨some 24, none, .idxA 3 (.t 22) (.t 23)⟩,
      ⟨some 25, none, .load 3 true (.t 24)⟩,
      ⟨some 7, none, .alloc 0 [.int .i64 0, .nil, .nil]⟩,
      ⟨none, none, .store 3 (.t 7) (.t 25)⟩])
    (.seq (.region [⟨some 26, none, .mov (.t 1)⟩,
      ⟨some 27, none, .load 3 true (.t 7)⟩,
      ⟨some 28, none, .callv (.t 26) [.t 27]⟩,
      ⟨some 29, none, .un .not (.t 28)⟩])
    (.cond (.t 29) (.seq (.region [⟨some 30, none, .mov (.t 0)⟩,
      ⟨some 31, none, .mov (.t 5)⟩,
      ⟨some 32, none, .load 3 true (.t 7)⟩,
      ⟨some 33, none, .idxA 3 (.t 30) (.t 31)⟩,
      ⟨none, none, .store 3 (.t 33) (.t 32)⟩])
    (.region [⟨some 34, none, .mov (.t 5)⟩,
      ⟨some 35, none, .bin false .add (.t 34) (.c (.int .i64 1))⟩,
      ⟨some 5, none, .mov (.t 35)⟩]))
    .skip))))
    (.region [⟨some 20, none, .mov (.t 6)⟩,
      ⟨some 21, none, .bin false .add (.t 20) (.c (.int .i64 1))⟩,
      ⟨some 6, none, .mov (.t 21)⟩]))))))
    (.seq (.region [⟨some 36, none, .mov (.t 0)⟩,
      ⟨some 37, none, .mov (.t 5)⟩,
      ⟨some 38, none, .slcT 0 3 (.t 36) (.t 37)⟩,
      ⟨none, none, .clr 3 (.agg [.int .i64 0, .nil, .nil]) (.t 38)⟩])
    (.seq (.region [⟨some 39, none, .mov (.t 0)⟩,
      ⟨some 40, none, .mov (.t 5)⟩,
      ⟨some 41, none, .slcH 3 (.t 39) (.t 40)⟩,
      ⟨some 4, none, .mov (.t 41)⟩])
    .ret)))))), [.tmp 4]⟩
theorem T_slices_DeleteFunc_api_Field_api_Field : trFn Tryz.prog [(7, [0, 0, 0, 0, 1, 0]), (11, [0, 0, 1000, 902]), (12, [0, 0, 901, 0])] Tryz.f124 = some A_slices_DeleteFunc_api_Field_api_Field := by kernel_rfl
theorem L_slices_DeleteFunc_api_Field_api_Field : 2 ≤ Tryz.f124.ntmps := by decide

/-! cartouche/table.At -/
def A_table_At : AFn := ⟨(.seq (.region [⟨some 2, none, .box 0 (.t 0)⟩,
      ⟨some 4, none, .alloc 0 [.str ⟨#[]⟩, .int .i64 0, .int .i64 0, .int .i64 0, .int .i64 0, .int .i64 0, .int .i64 0]⟩,
      ⟨some 5, none, .mov (.c (.bool false))⟩])
    (.seq (.draw [1, 2] [⟨some 9, none, .fldA 2 1 false (.t 2)⟩,
      ⟨some 10, none, .load 1 false (.t 9)⟩,
      ⟨some 11, none, .len false (.t 10)⟩,
      ⟨some 6, none, .mov (.c (.int .i64 0))⟩,
      ⟨some 7, none, .mov (.t 11)⟩])
    (.seq (.block 0 (.loop (.seq (.seq (.region [⟨some 12, none, .mov (.t 6)⟩,
      ⟨some 13, none, .mov (.t 7)⟩,
      ⟨some 14, none, .bin false .lss (.t 12) (.t 13)⟩])
    (.cond (.t 14) .skip
    (.exit 0)))
    (.block 1 (.seq (.region [⟨some 15, none, .mov (.t 6)⟩,
      ⟨some 16, none, .mov (.t 7)⟩,
      ⟨some 17, none, .bin false .add (.t 15) (.t 16)⟩,
      ⟨some 18, none, .bin false .quo (.t 17) (.c (.int .i64 2))⟩,
      ⟨some 8, none, .mov (.t 18)⟩])
    (.seq (.region [⟨some 19, none, .fldA 2 1 false (.t 2)⟩,
      ⟨some 20, none, .load 1 false (.t 19)⟩,
      ⟨some 21, none, .mov (.t 8)⟩,
      ⟨some 22, none, .idxA 7 (.t 20) (.t 21)⟩,
      ⟨some 23, none, .fldA 1 1 false (.t 22)⟩,
      ⟨some 24, none, .load 1 false (.t 23)⟩,
      ⟨some 25, none, .mov (.t 1)⟩,
      ⟨some 26, none, .bin false .lss (.t 24) (.t 25)⟩])
    (.cond (.t 26) (.region [⟨some 27, none, .mov (.t 8)⟩,
      ⟨some 28, none, .bin false .add (.t 27) (.c (.int .i64 1))⟩,
      ⟨some 6, none, .mov (.t 28)⟩])
    (.region [⟨some 29, none, .mov (.t 8)⟩,
      ⟨some 7, none, .mov (.t 29)⟩]))))))))
    (.seq (.seq (.region [⟨some 30, none, .mov (.t 6)⟩,
      ⟨some 31, none, .fldA 2 1 false (.t 2)⟩,
      ⟨some 32, none, .load 1 false (.t 31)⟩,
      ⟨some 33, none, .len false (.t 32)⟩,
      ⟨some 34, none, .bin false .eql (.t 30) (.t 33)⟩,
      ⟨some 35, none, .mov (.t 34)⟩,
      ⟨some 36, some (35, false), .fldA 2 1 false (.t 2)⟩,
      ⟨some 37, some (35, false), .load 1 false (.t 36)⟩,
      ⟨some 38, some (35, false), .mov (.t 6)⟩,
      ⟨some 39, some (35, false), .idxA 7 (.t 37) (.t 38)⟩,
      ⟨some 40, some (35, false), .fldA 1 1 false (.t 39)⟩,
      ⟨some 41, some (35, false), .load 1 false (.t 40)⟩,
      ⟨some 42, some (35, false), .mov (.t 1)⟩,
      ⟨some 43, some (35, false), .bin false .neq (.t 41) (.t 42)⟩,
      ⟨some 44, none, .pickb (.t 35) (.c (.bool true)) (.t 43)⟩])
    (.cond (.t 44) (.seq (.region [⟨some 45, none, .build [.str ⟨#[]⟩, .int .i64 0, .int .i64 0, .int .i64 0, .int .i64 0, .int .i64 0, .int .i64 0] []⟩,
      ⟨none, none, .store 7 (.t 4) (.t 45)⟩,
      ⟨some 5, none, .mov (.c (.bool false))⟩])
    .ret)
    .skip))
    (.seq (.region [⟨some 46, none, .fldA 2 1 false (.t 2)⟩,
      ⟨some 47, none, .load 1 false (.t 46)⟩,
      ⟨some 48, none, .mov (.t 6)⟩,
      ⟨some 49, none, .idxA 7 (.t 47) (.t 48)⟩,
      ⟨some 50, none, .load 7 true (.t 49)⟩,
      ⟨none, none, .store 7 (.t 4) (.t 50)⟩,
      ⟨some 5, none, .mov (.c (.bool true))⟩])
    .ret))))), [.cell 4 7 true, .tmp 5]⟩
theorem T_table_At : trFn Tryz.prog [(0, [1, 1, 0]), (1000001, [1, 2])] Tryz.f126 = some A_table_At := by kernel_rfl
theorem L_table_At : 2 ≤ Tryz.f126.ntmps := by decide

/-! cartouche/model.each[cartouche/api.Field] -/
def A_model_each_api_Field : AFn := ⟨(.seq (.region [⟨some 4, none, .mov (.c (.nil))⟩])
    (.seq (.region [⟨some 8, none, .mov (.t 0)⟩,
      ⟨some 9, none, .len false (.t 8)⟩,
      ⟨some 10, none, .mks 0 29 3 56 (.agg [.int .i64 0, .nil, .nil]) (.c (.int .i64 0)) (.t 9)⟩,
      ⟨some 5, none, .mov (.t 10)⟩])
    (.seq (.seq (.region [⟨some 11, none, .mov (.t 0)⟩,
      ⟨some 12, none, .len false (.t 11)⟩,
      ⟨some 13, none, .mov (.c (.int .i64 0))⟩])
    (.block 0 (.loop (.seq (.region [⟨some 14, none, .bin false .lss (.t 13) (.t 12)⟩])
    (.seq (.cond (.t 14) .skip
    (.exit 0))
    (.seq (.block 1 (.seq (.region [⟨some 15, none, .idxA 3 (.t 11) (.t 13)⟩,
      ⟨some 16, none, .load 3 true (.t 15)⟩,
      ⟨some 7, none, .alloc 0 [.int .i64 0, .nil, .nil]⟩,
      ⟨none, none, .store 3 (.t 7) (.t 16)⟩])
    (.region [⟨some 17, none, .mov (.t 5)⟩,
      ⟨some 18, none, .mov (.t 1)⟩,
      ⟨some 19, none, .load 3 true (.t 7)⟩,
      ⟨some 20, none, .callv (.t 18) [.t 19]⟩,
      ⟨some 21, none, .blit 0 29 3 [.t 20]⟩,
      ⟨some 22, none, .app 0 29 3 56 (.t 17) (.t 21)⟩,
      ⟨some 5, none, .mov (.t 22)⟩])))
    (.region [⟨some 23, none, .bin false .add (.t 13) (.c (.int .i64 1))⟩,
      ⟨some 13, none, .mov (.t 23)⟩])))))))
    (.seq (.region [⟨some 24, none, .mov (.t 5)⟩,
      ⟨some 4, none, .mov (.t 24)⟩])
    .ret)))), [.tmp 4]⟩
theorem T_model_each_api_Field : trFn Tryz.prog [(4, [0, 0, 1, 0]), (5, [0, 0, 0, 0, 1, 0, 0])] Tryz.f131 = some A_model_each_api_Field := by kernel_rfl
theorem L_model_each_api_Field : 2 ≤ Tryz.f131.ntmps := by decide

/-! cartouche/model.CopyField -/
def A_model_CopyField : AFn := ⟨(.seq (.region [⟨some 1, none, .box 0 (.t 0)⟩,
      ⟨some 2, none, .alloc 0 [.int .i64 0, .nil, .nil]⟩])
    (.seq (.draw [3, 4, 7, 8, 9, 1000001, 1000006, 2000008, 2000009] [⟨some 3, none, .fldA 0 1 false (.t 1)⟩,
      ⟨some 4, none, .load 1 false (.t 3)⟩,
      ⟨some 5, none, .fldA 1 1 false (.t 1)⟩,
      ⟨some 6, none, .load 1 false (.t 5)⟩,
      ⟨some 7, none, .call i_model_each_api_Val [.t 6, .c (.fn (.func 182) [] [])]⟩,
      ⟨some 8, none, .fldA 2 1 false (.t 1)⟩,
      ⟨some 9, none, .load 1 false (.t 8)⟩,
      ⟨some 10, none, .call i_model_each_api_Val [.t 9, .c (.fn (.func 182) [] [])]⟩,
      ⟨some 11, none, .build [.int .i64 0, .nil, .nil] [(0, 1, .t 4), (1, 1, .t 7), (2, 1, .t 10)]⟩,
      ⟨none, none, .store 3 (.t 2) (.t 11)⟩])
    .ret)), [.cell 2 3 true]⟩
theorem T_model_CopyField : trFn Tryz.prog [(0, [1, 1]), (1000001, [3, 4, 7, 8, 9, 1000001, 1000006, 2000008, 2000009])] Tryz.f132 = some A_model_CopyField := by kernel_rfl
theorem L_model_CopyField : 1 ≤ Tryz.f132.ntmps := by decide

/-! cartouche/model.each[cartouche/api.Entry] -/
def A_model_each_api_Entry : AFn := ⟨(.seq (.region [⟨some 4, none, .mov (.c (.nil))⟩])
    (.seq (.region [⟨some 8, none, .mov (.t 0)⟩,
      ⟨some 9, none, .len false (.t 8)⟩,
      ⟨some 10, none, .mks 0 40 4 48 (.agg [.int .i64 0, .int .i64 0, .int .u64 0, .nil]) (.c (.int .i64 0)) (.t 9)⟩,
      ⟨some 5, none, .mov (.t 10)⟩])
    (.seq (.seq (.region [⟨some 11, none, .mov (.t 0)⟩,
      ⟨some 12, none, .len false (.t 11)⟩,
      ⟨some 13, none, .mov (.c (.int .i64 0))⟩])
    (.block 0 (.loop (.seq (.region [⟨some 14, none, .bin false .lss (.t 13) (.t 12)⟩])
    (.seq (.cond (.t 14) .skip
    (.exit 0))
    (.seq (.block 1 (.seq (.region [⟨some 15, none, .idxA 4 (.t 11) (.t 13)⟩,
      ⟨some 16, none, .load 4 true (.t 15)⟩,
      ⟨some 7, none, .alloc 0 [.int .i64 0, .int .i64 0, .int .u64 0, .nil]⟩,
      ⟨none, none, .store 4 (.t 7) (.t 16)⟩])
    (.region [⟨some 17, none, .mov (.t 5)⟩,
      ⟨some 18, none, .mov (.t 1)⟩,
      ⟨some 19, none, .load 4 true (.t 7)⟩,
      ⟨some 20, none, .callv (.t 18) [.t 19]⟩,
      ⟨some 21, none, .blit 0 40 4 [.t 20]⟩,
      ⟨some 22, none, .app 0 40 4 48 (.t 17) (.t 21)⟩,
      ⟨some 5, none, .mov (.t 22)⟩])))
    (.region [⟨some 23, none, .bin false .add (.t 13) (.c (.int .i64 1))⟩,
      ⟨some 13, none, .mov (.t 23)⟩])))))))
    (.seq (.region [⟨some 24, none, .mov (.t 5)⟩,
      ⟨some 4, none, .mov (.t 24)⟩])
    .ret)))), [.tmp 4]⟩
theorem T_model_each_api_Entry : trFn Tryz.prog [(4, [0, 0, 1, 0]), (5, [0, 0, 0, 0, 1, 0, 0])] Tryz.f133 = some A_model_each_api_Entry := by kernel_rfl
theorem L_model_each_api_Entry : 2 ≤ Tryz.f133.ntmps := by decide

/-! cartouche/model.CopyEntry -/
def A_model_CopyEntry : AFn := ⟨(.seq (.region [⟨some 1, none, .box 0 (.t 0)⟩,
      ⟨some 2, none, .alloc 0 [.int .i64 0, .int .i64 0, .int .u64 0, .nil]⟩])
    (.seq (.region [⟨some 3, none, .fldA 3 1 false (.t 1)⟩,
      ⟨some 4, none, .load 1 false (.t 3)⟩,
      ⟨some 5, none, .call i_model_list [.t 4]⟩,
      ⟨some 6, none, .fldA 3 1 false (.t 1)⟩,
      ⟨none, none, .store 1 (.t 6) (.t 5)⟩])
    (.seq (.region [⟨some 7, none, .load 4 true (.t 1)⟩,
      ⟨none, none, .store 4 (.t 2) (.t 7)⟩])
    .ret))), [.cell 2 4 true]⟩
theorem T_model_CopyEntry : trFn Tryz.prog [(0, [1, 1])] Tryz.f134 = some A_model_CopyEntry := by kernel_rfl
theorem L_model_CopyEntry : 1 ≤ Tryz.f134.ntmps := by decide

/-! cartouche/merge.into -/
def A_merge_into : AFn := ⟨(.seq (.region [⟨some 4, none, .box 0 (.t 0)⟩,
      ⟨some 6, none, .box 0 (.t 2)⟩,
      ⟨some 7, none, .box 0 (.t 3)⟩,
      ⟨some 8, none, .alloc 0 [.nil, .nil]⟩])
    (.seq (.region [⟨some 17, none, .fldA 0 1 false (.t 4)⟩,
      ⟨some 18, none, .load 1 false (.t 17)⟩,
      ⟨some 19, none, .mov (.t 1)⟩,
      ⟨some 20, none, .idxA 6 (.t 18) (.t 19)⟩,
      ⟨some 21, none, .load 6 true (.t 20)⟩,
      ⟨some 9, none, .alloc 0 [.str ⟨#[]⟩, .bool false, .nil, .nil, .nil, .nil]⟩,
      ⟨none, none, .store 6 (.t 9) (.t 21)⟩])
    (.seq (.seq (.region [⟨some 22, none, .fldA 0 1 false (.t 7)⟩,
      ⟨some 23, none, .load 1 false (.t 22)⟩,
      ⟨some 24, none, .len false (.t 23)⟩,
      ⟨some 25, none, .mov (.c (.int .i64 0))⟩])
    (.block 0 (.loop (.seq (.region [⟨some 26, none, .bin false .lss (.t 25) (.t 24)⟩])
    (.seq (.cond (.t 26) .skip
    (.exit 0))
    (.seq (.block 1 (.seq (.region [⟨some 27, none, .idxA 3 (.t 23) (.t 25)⟩,
      ⟨some 28, none, .load 3 true (.t 27)⟩,
      ⟨some 11, none, .alloc 0 [.int .i64 0, .nil, .nil]⟩,
      ⟨none, none, .store 3 (.t 11) (.t 28)⟩])
    (.seq (.region [⟨some 30, none, .load 6 true (.t 9)⟩,
      ⟨some 31, none, .fldA 0 1 false (.t 11)⟩,
      ⟨some 32, none, .load 1 false (.t 31)⟩,
      ⟨some 33, none, .call i_table_At [.t 30, .t 32]⟩,
      ⟨some 29, none, .mov (.t 33)⟩,
      ⟨some 34, none, .ext 0 (.t 29)⟩,
      ⟨some 35, none, .ext 1 (.t 29)⟩,
      ⟨some 12, none, .alloc 0 [.str ⟨#[]⟩, .int .i64 0, .int .i64 0, .int .i64 0, .int .i64 0, .int .i64 0, .int .i64 0]⟩,
      ⟨none, none, .store 7 (.t 12) (.t 34)⟩,
      ⟨some 13, none, .mov (.t 35)⟩])
    (.seq (.seq (.region [⟨some 36, none, .fldA 4 1 false (.t 12)⟩,
      ⟨some 37, none, .load 1 false (.t 36)⟩,
      ⟨some 38, none, .bin false .eql (.t 37) (.c (.int .i64 4))⟩])
    (.cond (.t 38) (.seq (.region [⟨some 39, none, .load 6 true (.t 9)⟩,
      ⟨some 40, none, .fldA 5 1 false (.t 12)⟩,
      ⟨some 41, none, .load 1 false (.t 40)⟩,
      ⟨some 42, none, .call i_model_Others [.t 39, .t 41]⟩,
      ⟨some 14, none, .alloc 0 [.nil]⟩,
      ⟨none, none, .store 1 (.t 14) (.t 42)⟩])
    (.region [⟨some 43, none, .fldA 0 1 false (.t 6)⟩,
      ⟨some 44, none, .load 1 false (.t 43)⟩,
      ⟨some 45, none, .mkfn (.func 185) [] [.t 14]⟩,
      ⟨some 46, none, .call i_slices_DeleteFunc_api_Field_api_Field [.t 44, .t 45]⟩,
      ⟨some 47, none, .fldA 0 1 false (.t 6)⟩,
      ⟨none, none, .store 1 (.t 47) (.t 46)⟩]))
    .skip))
    (.seq (.seq (.region [⟨some 49, none, .fldA 0 1 false (.t 6)⟩,
      ⟨some 50, none, .load 1 false (.t 49)⟩,
      ⟨some 51, none, .fldA 0 1 false (.t 11)⟩,
      ⟨some 52, none, .load 1 false (.t 51)⟩,
      ⟨some 53, none, .call i_model_Place [.t 50, .t 52]⟩,
      ⟨some 48, none, .mov (.t 53)⟩,
      ⟨some 54, none, .ext 0 (.t 48)⟩,
      ⟨some 55, none, .ext 1 (.t 48)⟩,
      ⟨some 15, none, .mov (.t 54)⟩,
      ⟨some 16, none, .mov (.t 55)⟩])
    (.seq (.region [⟨some 56, none, .mov (.t 16)⟩])
    (.cond (.t 56) (.draw [0, 8, 9, 1000001, 1000003, 1000005, 1000006, 1000007, 2000008, 2000009] [⟨some 57, none, .load 1 true (.t 4)⟩,
      ⟨some 58, none, .load 7 true (.t 12)⟩,
      ⟨some 59, none, .fldA 0 1 false (.t 6)⟩,
      ⟨some 60, none, .load 1 false (.t 59)⟩,
      ⟨some 61, none, .mov (.t 15)⟩,
      ⟨some 62, none, .idxA 3 (.t 60) (.t 61)⟩,
      ⟨some 63, none, .load 3 true (.t 62)⟩,
      ⟨some 64, none, .load 3 true (.t 11)⟩,
      ⟨some 65, none, .call i_merge_both [.t 57, .t 58, .t 63, .t 64]⟩,
      ⟨none, none, .store 3 (.t 11) (.t 65)⟩])
    .skip)))
    (.region [⟨some 66, none, .fldA 0 1 false (.t 6)⟩,
      ⟨some 67, none, .load 1 false (.t 66)⟩,
      ⟨some 68, none, .load 3 true (.t 11)⟩,
      ⟨some 69, none, .call i_model_Laid [.t 67, .t 68]⟩,
      ⟨some 70, none, .fldA 0 1 false (.t 6)⟩,
      ⟨none, none, .store 1 (.t 70) (.t 69)⟩]))))))
    (.region [⟨some 71, none, .bin false .add (.t 25) (.c (.int .i64 1))⟩,
      ⟨some 25, none, .mov (.t 71)⟩])))))))
    (.seq (.region [⟨some 72, none, .fldA 1 1 false (.t 6)⟩,
      ⟨some 73, none, .load 1 false (.t 72)⟩,
      ⟨some 74, none, .fldA 1 1 false (.t 7)⟩,
      ⟨some 75, none, .load 1 false (.t 74)⟩,
      ⟨some 76, none, .app 0 40 4 48 (.t 73) (.t 75)⟩,
      ⟨some 77, none, .fldA 1 1 false (.t 6)⟩,
      ⟨none, none, .store 1 (.t 77) (.t 76)⟩])
    (.seq (.region [⟨some 78, none, .load 2 true (.t 6)⟩,
      ⟨none, none, .store 2 (.t 8) (.t 78)⟩])
    .ret))))), [.cell 8 2 true]⟩
theorem T_merge_into : trFn Tryz.prog [(0, [1, 1, 1, 1]), (1, [0, 0, 0, 0, 0, 1, 0]), (4, [0, 0, 1, 0]), (5, [0, 0, 0, 0, 0, 0, 0, 1, 0, 0]), (7, [0, 0, 0, 0, 1, 0]), (1000011, [0, 8, 9, 1000001, 1000003, 1000005, 1000006, 1000007, 2000008, 2000009])] Tryz.f135 = some A_merge_into := by kernel_rfl
theorem L_merge_into : 4 ≤ Tryz.f135.ntmps := by decide

/-! cartouche/merge.goes -/
def A_merge_goes : AFn := ⟨(.seq (.region [⟨some 1, none, .box 0 (.t 0)⟩,
      ⟨some 2, none, .mov (.c (.bool false))⟩])
    (.seq (.region [⟨some 3, none, .fldA 4 1 false (.t 1)⟩,
      ⟨some 4, none, .load 1 false (.t 3)⟩,
      ⟨some 5, none, .bin false .eql (.t 4) (.c (.int .i64 1))⟩,
      ⟨some 6, none, .mov (.t 5)⟩,
      ⟨some 7, some (6, true), .fldA 2 1 false (.t 1)⟩,
      ⟨some 8, some (6, true), .load 1 false (.t 7)⟩,
      ⟨some 9, some (6, true), .bin false .eql (.t 8) (.c (.int .i64 17))⟩,
      ⟨some 10, none, .pickb (.t 6) (.t 9) (.c (.bool false))⟩,
      ⟨some 2, none, .mov (.t 10)⟩])
    .ret)), [.tmp 2]⟩
theorem T_merge_goes : trFn Tryz.prog [(0, [1, 0])] Tryz.f136 = some A_merge_goes := by kernel_rfl
theorem L_merge_goes : 1 ≤ Tryz.f136.ntmps := by decide

/-! internal/stringslite.Cut -/
def A_stringslite_Cut : AFn := ⟨(.seq (.region [⟨some 4, none, .mov (.c (.str ⟨#[]⟩))⟩,
      ⟨some 5, none, .mov (.c (.str ⟨#[]⟩))⟩,
      ⟨some 6, none, .mov (.c (.bool false))⟩])
    (.seq (.seq (.region [⟨some 8, none, .mov (.t 0)⟩,
      ⟨some 9, none, .mov (.t 1)⟩,
      ⟨some 10, none, .call i_stringslite_Index [.t 8, .t 9]⟩,
      ⟨some 7, none, .mov (.t 10)⟩])
    (.seq (.region [⟨some 11, none, .mov (.t 7)⟩,
      ⟨some 12, none, .bin false .geq (.t 11) (.c (.int .i64 0))⟩])
    (.cond (.t 12) (.seq (.draw [6] [⟨some 13, none, .mov (.t 0)⟩,
      ⟨some 14, none, .mov (.t 7)⟩,
      ⟨some 15, none, .slcS (.t 13) none (some (.t 14))⟩,
      ⟨some 16, none, .mov (.t 0)⟩,
      ⟨some 17, none, .mov (.t 7)⟩,
      ⟨some 18, none, .mov (.t 1)⟩,
      ⟨some 19, none, .len true (.t 18)⟩,
      ⟨some 20, none, .bin false .add (.t 17) (.t 19)⟩,
      ⟨some 21, none, .slcS (.t 16) (some (.t 20)) none⟩,
      ⟨some 4, none, .mov (.t 15)⟩,
      ⟨some 5, none, .mov (.t 21)⟩,
      ⟨some 6, none, .mov (.c (.bool true))⟩])
    .ret)
    .skip)))
    (.seq (.region [⟨some 22, none, .mov (.t 0)⟩,
      ⟨some 4, none, .mov (.t 22)⟩,
      ⟨some 5, none, .mov (.c (.str ⟨#[]⟩))⟩,
      ⟨some 6, none, .mov (.c (.bool false))⟩])
    .ret))), [.tmp 4, .tmp 5, .tmp 6]⟩
theorem T_stringslite_Cut : trFn Tryz.prog [(1000003, [6])] Tryz.f137 = some A_stringslite_Cut := by kernel_rfl
theorem L_stringslite_Cut : 2 ≤ Tryz.f137.ntmps := by decide

/-! slices.IndexFunc[[]cartouche/api.Field,cartouche/api.Field] -/
def A_slices_IndexFunc_api_Field_api_Field : AFn := ⟨(.seq (.region [⟨some 4, none, .mov (.c (.int .i64 0))⟩])
    (.seq (.seq (.region [⟨some 6, none, .mov (.t 0)⟩,
      ⟨some 7, none, .len false (.t 6)⟩,
      ⟨some 8, none, .mov (.c (.int .i64 0))⟩])
    (.block 0 (.loop (.seq (.region [⟨some 9, none, .bin false .lss (.t 8) (.t 7)⟩])
    (.seq (.cond (.t 9) .skip
    (.exit 0))
    (.seq (.block 1 (.seq (.region [⟨some 10, none, .mov (.t 8)⟩,
      ⟨some 5, none, .mov (.t 10)⟩])
    (.seq (.region [⟨some 11, none, .mov (.t 1)⟩,
      ⟨some 12, none, .mov (.t 0)⟩,
      ⟨some 13, none, .mov (.t 5)⟩,
      ⟨some 14, none, .idxA 3 (.t 12) (.t 13)⟩,
      ⟨some 15, none, .load 3 true (.t 14)⟩,
      ⟨some 16, none, .callv (.t 11) [.t 15]⟩])
    (.cond (.t 16) (.seq (.region [⟨some 17, none, .mov (.t 5)⟩,
      ⟨some 4, none, .mov (.t 17)⟩])
    .ret)
    .skip))))
    (.region [⟨some 18, none, .bin false .add (.t 8) (.c (.int .i64 1))⟩,
      ⟨some 8, none, .mov (.t 18)⟩])))))))
    (.seq (.region [⟨some 4, none, .mov (.c (.int .i64 (-1)))⟩])
    .ret))), [.tmp 4]⟩
theorem T_slices_IndexFunc_api_Field_api_Field : trFn Tryz.prog [] Tryz.f138 = some A_slices_IndexFunc_api_Field_api_Field := by kernel_rfl
theorem L_slices_IndexFunc_api_Field_api_Field : 2 ≤ Tryz.f138.ntmps := by decide

/-! cartouche/model.Get$1 -/
def A_model_Get_1 : AFn := ⟨(.seq (.region [⟨some 2, none, .box 0 (.t 0)⟩,
      ⟨some 3, none, .mov (.c (.bool false))⟩])
    (.seq (.region [⟨some 4, none, .fldA 0 1 false (.t 2)⟩,
      ⟨some 5, none, .load 1 false (.t 4)⟩,
      ⟨some 6, none, .load 1 false (.t 1)⟩,
      ⟨some 7, none, .bin false .eql (.t 5) (.t 6)⟩,
      ⟨some 3, none, .mov (.t 7)⟩])
    .ret)), [.tmp 3]⟩
theorem T_model_Get_1 : trFn Tryz.prog [(0, [1, 0])] Tryz.f139 = some A_model_Get_1 := by kernel_rfl
theorem L_model_Get_1 : 2 ≤ Tryz.f139.ntmps := by decide

/-! (cartouche/merge.walk).message -/
def A_merge_walk_message : AFn := ⟨(.seq (.region [⟨some 5, none, .box 0 (.t 0)⟩,
      ⟨some 6, none, .box 0 (.t 1)⟩,
      ⟨some 8, none, .box 0 (.t 3)⟩,
      ⟨some 10, none, .alloc 0 [.nil, .nil]⟩])
    (.seq (.region [⟨some 19, none, .mov (.t 4)⟩,
      ⟨some 20, none, .call i_merge_grouped [.t 19]⟩,
      ⟨some 11, none, .mov (.t 20)⟩])
    (.seq (.region [⟨some 21, none, .fldA 2 1 false (.t 5)⟩,
      ⟨some 22, none, .load 1 false (.t 21)⟩,
      ⟨some 23, none, .fldA 1 1 false (.t 8)⟩,
      ⟨some 24, none, .load 1 false (.t 23)⟩,
      ⟨some 25, none, .callv (.t 22) [.t 24]⟩,
      ⟨some 26, none, .build [.nil, .nil] [(1, 1, .t 25)]⟩,
      ⟨some 12, none, .alloc 0 [.nil, .nil]⟩,
      ⟨none, none, .store 2 (.t 12) (.t 26)⟩])
    (.seq (.seq (.region [⟨some 27, none, .fldA 0 1 false (.t 8)⟩,
      ⟨some 28, none, .load 1 false (.t 27)⟩,
      ⟨some 29, none, .len false (.t 28)⟩,
      ⟨some 30, none, .mov (.c (.int .i64 0))⟩])
    (.block 0 (.loop (.seq (.region [⟨some 31, none, .bin false .lss (.t 30) (.t 29)⟩])
    (.seq (.cond (.t 31) .skip
    (.exit 0))
    (.seq (.block 1 (.seq (.region [⟨some 32, none, .idxA 3 (.t 28) (.t 30)⟩,
      ⟨some 33, none, .load 3 true (.t 32)⟩,
      ⟨some 14, none, .alloc 0 [.int .i64 0, .nil, .nil]⟩,
      ⟨none, none, .store 3 (.t 14) (.t 33)⟩])
    (.seq (.draw [11, 12, 1000001, 1000003, 1000004, 1000006, 2000012] [⟨some 35, none, .fldA 0 1 false (.t 6)⟩,
      ⟨some 36, none, .load 1 false (.t 35)⟩,
      ⟨some 37, none, .mov (.t 2)⟩,
      ⟨some 38, none, .idxA 6 (.t 36) (.t 37)⟩,
      ⟨some 39, none, .load 6 true (.t 38)⟩,
      ⟨some 40, none, .fldA 0 1 false (.t 14)⟩,
      ⟨some 41, none, .load 1 false (.t 40)⟩,
      ⟨some 42, none, .call i_table_At [.t 39, .t 41]⟩,
      ⟨some 34, none, .mov (.t 42)⟩,
      ⟨some 43, none, .ext 0 (.t 34)⟩,
      ⟨some 44, none, .ext 1 (.t 34)⟩,
      ⟨some 15, none, .alloc 0 [.str ⟨#[]⟩, .int .i64 0, .int .i64 0, .int .i64 0, .int .i64 0, .int .i64 0, .int .i64 0]⟩,
      ⟨none, none, .store 7 (.t 15) (.t 43)⟩,
      ⟨some 16, none, .mov (.t 44)⟩])
    (.seq (.region [⟨some 45, none, .mov (.t 11)⟩,
      ⟨some 46, none, .fldA 0 1 false (.t 15)⟩,
      ⟨some 47, none, .load 1 false (.t 46)⟩,
      ⟨some 48, none, .look .str (.agg [.bool false, .nil]) false (.t 45) (.t 47)⟩,
      ⟨some 17, none, .alloc 0 [.bool false, .nil]⟩,
      ⟨none, none, .store 2 (.t 17) (.t 48)⟩])
    (.block 2 (.seq (.region [⟨some 58, none, .fldA 0 1 false (.t 17)⟩,
      ⟨some 59, none, .load 1 false (.t 58)⟩,
      ⟨some 57, none, .mov (.t 59)⟩])
    (.cond (.t 57) (.draw [3, 5, 6, 8, 1000001, 1000004, 2000006, 2000008] [⟨some 60, none, .fldA 0 1 false (.t 12)⟩,
      ⟨some 61, none, .load 1 false (.t 60)⟩,
      ⟨some 62, none, .fldA 0 1 false (.t 5)⟩,
      ⟨some 63, none, .load 1 false (.t 62)⟩,
      ⟨some 64, none, .load 3 true (.t 14)⟩,
      ⟨some 65, none, .callv (.t 63) [.t 64]⟩,
      ⟨some 66, none, .app 0 29 3 56 (.t 61) (.t 65)⟩,
      ⟨some 67, none, .fldA 0 1 false (.t 12)⟩,
      ⟨none, none, .store 1 (.t 67) (.t 66)⟩])
    (.seq (.region [⟨some 69, none, .fldA 1 1 false (.t 17)⟩,
      ⟨some 70, none, .load 1 false (.t 69)⟩,
      ⟨some 71, none, .len false (.t 70)⟩,
      ⟨some 72, none, .bin false .gtr (.t 71) (.c (.int .i64 0))⟩,
      ⟨some 68, none, .mov (.t 72)⟩])
    (.cond (.t 68) (.seq (.draw [14, 15, 1000000, 1000001, 1000003, 1000005, 1000006, 1000008, 1000009, 1000010, 1000012, 2000015] [⟨some 73, none, .load 3 true (.t 5)⟩,
      ⟨some 74, none, .load 1 true (.t 6)⟩,
      ⟨some 75, none, .fldA 3 1 false (.t 15)⟩,
      ⟨some 76, none, .load 1 false (.t 75)⟩,
      ⟨some 77, none, .fldA 2 1 false (.t 14)⟩,
      ⟨some 78, none, .load 1 false (.t 77)⟩,
      ⟨some 79, none, .idxA 3 (.t 78) (.c (.int .i64 0))⟩,
      ⟨some 80, none, .fldA 2 1 false (.t 79)⟩,
      ⟨some 81, none, .load 1 false (.t 80)⟩,
      ⟨some 82, none, .idxA 2 (.t 81) (.c (.int .i64 0))⟩,
      ⟨some 83, none, .load 2 true (.t 82)⟩,
      ⟨some 84, none, .fldA 1 1 false (.t 17)⟩,
      ⟨some 85, none, .load 1 false (.t 84)⟩,
      ⟨some 86, none, .call i_merge_walk_message [.t 73, .t 74, .t 76, .t 83, .t 85]⟩,
      ⟨some 18, none, .alloc 0 [.nil, .nil]⟩,
      ⟨none, none, .store 2 (.t 18) (.t 86)⟩])
    (.region [⟨some 87, none, .fldA 0 1 false (.t 12)⟩,
      ⟨some 88, none, .load 1 false (.t 87)⟩,
      ⟨some 89, none, .fldA 0 1 false (.t 14)⟩,
      ⟨some 90, none, .load 1 false (.t 89)⟩,
      ⟨some 91, none, .load 2 true (.t 18)⟩,
      ⟨some 92, none, .blit 0 35 2 [.t 91]⟩,
      ⟨some 93, none, .build [.int .u64 0, .nil, .nil] [(2, 1, .t 92)]⟩,
      ⟨some 94, none, .blit 0 26 3 [.t 93]⟩,
      ⟨some 95, none, .build [.int .i64 0, .nil, .nil] [(0, 1, .t 90), (2, 1, .t 94)]⟩,
      ⟨some 96, none, .blit 0 29 3 [.t 95]⟩,
      ⟨some 97, none, .app 0 29 3 56 (.t 88) (.t 96)⟩,
      ⟨some 98, none, .fldA 0 1 false (.t 12)⟩,
      ⟨none, none, .store 1 (.t 98) (.t 97)⟩]))
    (.draw [3, 5, 6, 8, 1000001, 1000004, 2000006, 2000008] [⟨some 49, none, .fldA 0 1 false (.t 12)⟩,
      ⟨some 50, none, .load 1 false (.t 49)⟩,
      ⟨some 51, none, .fldA 1 1 false (.t 5)⟩,
      ⟨some 52, none, .load 1 false (.t 51)⟩,
      ⟨some 53, none, .load 3 true (.t 14)⟩,
      ⟨some 54, none, .callv (.t 52) [.t 53]⟩,
      ⟨some 55, none, .app 0 29 3 56 (.t 50) (.t 54)⟩,
      ⟨some 56, none, .fldA 0 1 false (.t 12)⟩,
      ⟨none, none, .store 1 (.t 56) (.t 55)⟩]))))))))))
    (.region [⟨some 99, none, .bin false .add (.t 30) (.c (.int .i64 1))⟩,
      ⟨some 30, none, .mov (.t 99)⟩])))))))
    (.seq (.region [⟨some 100, none, .load 2 true (.t 12)⟩,
      ⟨none, none, .store 2 (.t 10) (.t 100)⟩])
    .ret))))), [.cell 10 2 true]⟩
theorem T_merge_walk_message : trFn Tryz.prog [(0, [1, 1, 1, 1]), (2, [0, 0, 0, 0, 0, 0, 1, 0]), (5, [0, 0, 1, 0]), (6, [0, 0, 0, 0, 0, 0, 0, 0, 0, 0, 0, 1, 0, 0]), (7, [0, 0, 0, 0, 1, 0]), (12, [0, 0, 0, 0, 0, 0, 0, 0, 0, 0, 0, 0, 0, 0, 1, 0]), (13, [0, 0, 0, 0, 0, 1, 0, 1, 0, 1, 0, 0, 0]), (1000006, [11, 12, 1000001, 1000003, 1000004, 1000006, 2000012]), (1000008, [3, 5, 6, 8, 1000001, 1000004, 2000006, 2000008]), (1000010, [3, 5, 6, 8, 1000001, 1000004, 2000006, 2000008]), (1000012, [14, 15, 1000000, 1000001, 1000003, 1000005, 1000006, 1000008, 1000009, 1000010, 1000012, 2000015])] Tryz.f140 = some A_merge_walk_message := by kernel_rfl
theorem L_merge_walk_message : 5 ≤ Tryz.f140.ntmps := by decide

/-! cartouche/table.Good -/
def A_table_Good : AFn := ⟨(.seq (.region [⟨some 1, none, .box 0 (.t 0)⟩,
      ⟨some 2, none, .mov (.c (.bool false))⟩])
    (.seq (.seq (.region [⟨some 8, none, .fldA 0 1 false (.t 1)⟩,
      ⟨some 9, none, .load 1 false (.t 8)⟩,
      ⟨some 10, none, .len false (.t 9)⟩,
      ⟨some 11, none, .bin false .gtr (.t 10) (.c (.int .i64 128))⟩])
    (.cond (.t 11) (.seq (.region [⟨some 2, none, .mov (.c (.bool false))⟩])
    .ret)
    .skip))
    (.seq (.region [⟨some 12, none, .mkmap 0 .str⟩,
      ⟨some 3, none, .mov (.t 12)⟩])
    (.seq (.seq (.region [⟨some 13, none, .fldA 0 1 false (.t 1)⟩,
      ⟨some 14, none, .load 1 false (.t 13)⟩,
      ⟨some 15, none, .len false (.t 14)⟩,
      ⟨some 16, none, .mov (.c (.int .i64 0))⟩])
    (.block 0 (.loop (.seq (.region [⟨some 17, none, .bin false .lss (.t 16) (.t 15)⟩])
    (.seq (.cond (.t 17) .skip
    (.exit 0))
    (.seq (.block 1 (.seq (.region [⟨some 18, none, .mov (.t 16)⟩,
      ⟨some 19, none, .idxA 6 (.t 14) (.t 16)⟩,
      ⟨some 20, none, .load 6 true (.t 19)⟩,
      ⟨some 5, none, .alloc 0 [.str ⟨#[]⟩, .bool false, .nil, .nil, .nil, .nil]⟩,
      ⟨some 4, none, .mov (.t 18)⟩,
      ⟨none, none, .store 6 (.t 5) (.t 20)⟩])
    (.seq (.seq (.region [⟨some 22, none, .mov (.t 3)⟩,
      ⟨some 23, none, .fldA 0 1 false (.t 5)⟩,
      ⟨some 24, none, .load 1 false (.t 23)⟩,
      ⟨some 25, none, .look .str (.int .i64 0) true (.t 22) (.t 24)⟩,
      ⟨some 21, none, .mov (.t 25)⟩,
      ⟨some 26, none, .ext 0 (.t 21)⟩,
      ⟨some 27, none, .ext 1 (.t 21)⟩,
      ⟨some 6, none, .mov (.t 26)⟩,
      ⟨some 7, none, .mov (.t 27)⟩])
    (.seq (.region [⟨some 28, none, .mov (.t 7)⟩,
      ⟨some 29, none, .mov (.t 28)⟩,
      ⟨some 30, some (29, false), .load 1 true (.t 1)⟩,
      ⟨some 31, some (29, false), .mov (.t 4)⟩,
      ⟨some 32, some (29, false), .mov (.t 3)⟩,
      ⟨some 33, some (29, false), .call i_table_goodName [.t 30, .t 31, .t 32]⟩,
      ⟨some 34, some (29, false), .un .not (.t 33)⟩,
      ⟨some 35, none, .pickb (.t 29) (.c (.bool true)) (.t 34)⟩])
    (.cond (.t 35) (.seq (.region [⟨some 2, none, .mov (.c (.bool false))⟩])
    .ret)
    .skip)))
    (.seq (.region [⟨some 36, none, .mov (.t 3)⟩,
      ⟨some 37, none, .fldA 0 1 false (.t 5)⟩,
      ⟨some 38, none, .load 1 false (.t 37)⟩,
      ⟨some 39, none, .mov (.t 4)⟩,
      ⟨none, none, .mapset .str (.t 36) (.t 38) (.t 39)⟩])
    (.seq (.region [⟨some 40, none, .fldA 1 1 false (.t 5)⟩,
      ⟨some 41, none, .load 1 false (.t 40)⟩,
      ⟨some 42, none, .mov (.t 41)⟩,
      ⟨some 43, some (42, true), .load 6 true (.t 5)⟩,
      ⟨some 44, some (42, true), .call i_table_goodEnum [.t 43]⟩,
      ⟨some 45, some (42, true), .un .not (.t 44)⟩,
      ⟨some 46, none, .pickb (.t 42) (.t 45) (.c (.bool false))⟩,
      ⟨some 47, none, .mov (.t 46)⟩,
      ⟨some 48, some (47, false), .fldA 1 1 false (.t 5)⟩,
      ⟨some 49, some (47, false), .load 1 false (.t 48)⟩,
      ⟨some 50, some (47, false), .un .not (.t 49)⟩,
      ⟨some 51, some (47, false), .mov (.t 50)⟩,
      ⟨some 52, some (51, true), .load 1 true (.t 1)⟩,
      ⟨some 53, some (51, true), .load 6 true (.t 5)⟩,
      ⟨some 54, some (51, true), .call i_table_goodMessage [.t 52, .t 53]⟩,
      ⟨some 55, some (51, true), .un .not (.t 54)⟩,
      ⟨some 56, some (47, false), .pickb (.t 51) (.t 55) (.c (.bool false))⟩,
      ⟨some 57, none, .pickb (.t 47) (.c (.bool true)) (.t 56)⟩])
    (.cond (.t 57) (.seq (.region [⟨some 2, none, .mov (.c (.bool false))⟩])
    .ret)
    .skip))))))
    (.region [⟨some 58, none, .bin false .add (.t 16) (.c (.int .i64 1))⟩,
      ⟨some 16, none, .mov (.t 58)⟩])))))))
    (.seq (.region [⟨some 2, none, .mov (.c (.bool true))⟩])
    .ret))))), [.tmp 2]⟩
theorem T_table_Good : trFn Tryz.prog [(0, [1, 0]), (6, [0, 0, 0, 1, 0, 0])] Tryz.f145 = some A_table_Good := by kernel_rfl
theorem L_table_Good : 1 ≤ Tryz.f145.ntmps := by decide

/-! cartouche/cartoucheref1.Same -/
def A_cartoucheref1_Same : AFn := ⟨(.seq (.region [⟨some 2, none, .box 0 (.t 0)⟩,
      ⟨some 3, none, .box 0 (.t 1)⟩,
      ⟨some 4, none, .mov (.c (.bool false))⟩])
    (.seq (.region [⟨some 5, none, .fldA 0 1 false (.t 2)⟩,
      ⟨some 6, none, .load 1 false (.t 5)⟩,
      ⟨some 7, none, .fldA 0 1 false (.t 3)⟩,
      ⟨some 8, none, .load 1 false (.t 7)⟩,
      ⟨some 9, none, .bin false .eql (.t 6) (.t 8)⟩,
      ⟨some 10, none, .mov (.t 9)⟩,
      ⟨some 11, some (10, true), .fldA 1 1 false (.t 2)⟩,
      ⟨some 12, some (10, true), .load 1 false (.t 11)⟩,
      ⟨some 13, some (10, true), .fldA 1 1 false (.t 3)⟩,
      ⟨some 14, some (10, true), .load 1 false (.t 13)⟩,
      ⟨some 15, some (10, true), .bin false .eql (.t 12) (.t 14)⟩,
      ⟨some 16, none, .pickb (.t 10) (.t 15) (.c (.bool false))⟩,
      ⟨some 17, none, .mov (.t 16)⟩,
      ⟨some 18, some (17, true), .fldA 2 1 false (.t 2)⟩,
      ⟨some 19, some (17, true), .load 1 false (.t 18)⟩,
      ⟨some 20, some (17, true), .fldA 2 1 false (.t 3)⟩,
      ⟨some 21, some (17, true), .load 1 false (.t 20)⟩,
      ⟨some 22, some (17, true), .bin false .eql (.t 19) (.t 21)⟩,
      ⟨some 23, none, .pickb (.t 17) (.t 22) (.c (.bool false))⟩,
      ⟨some 24, none, .mov (.t 23)⟩,
      ⟨some 25, some (24, true), .fldA 3 1 false (.t 2)⟩,
      ⟨some 26, some (24, true), .load 1 false (.t 25)⟩,
      ⟨some 27, some (24, true), .b2s (.t 26)⟩,
      ⟨some 28, some (24, true), .fldA 3 1 false (.t 3)⟩,
      ⟨some 29, some (24, true), .load 1 false (.t 28)⟩,
      ⟨some 30, some (24, true), .b2s (.t 29)⟩,
      ⟨some 31, some (24, true), .bin false .eql (.t 27) (.t 30)⟩,
      ⟨some 32, none, .pickb (.t 24) (.t 31) (.c (.bool false))⟩,
      ⟨some 4, none, .mov (.t 32)⟩])
    .ret)), [.tmp 4]⟩
theorem T_cartoucheref1_Same : trFn Tryz.prog [(0, [1, 1, 0])] Tryz.f154 = some A_cartoucheref1_Same := by kernel_rfl
theorem L_cartoucheref1_Same : 2 ≤ Tryz.f154.ntmps := by decide

/-! cartouche/wire.PutEntry -/
def A_wire_PutEntry : AFn := ⟨(.seq (.region [⟨some 1, none, .box 0 (.t 0)⟩,
      ⟨some 2, none, .mov (.c (.nil))⟩,
      ⟨some 3, none, .mov (.c (.int .i64 0))⟩])
    (.seq (.region [⟨some 7, none, .fldA 0 1 false (.t 1)⟩,
      ⟨some 8, none, .load 1 false (.t 7)⟩,
      ⟨some 9, none, .fldA 1 1 false (.t 1)⟩,
      ⟨some 10, none, .load 1 false (.t 9)⟩,
      ⟨some 11, none, .call i_wire_PutTag [.t 8, .t 10]⟩,
      ⟨some 6, none, .mov (.t 11)⟩,
      ⟨some 12, none, .ext 0 (.t 6)⟩,
      ⟨some 13, none, .ext 1 (.t 6)⟩,
      ⟨some 4, none, .mov (.t 12)⟩,
      ⟨some 5, none, .mov (.t 13)⟩])
    (.seq (.block 0 (.seq (.region [⟨some 15, none, .mov (.t 5)⟩,
      ⟨some 16, none, .bin false .neq (.t 15) (.c (.int .i64 0))⟩,
      ⟨some 14, none, .mov (.t 16)⟩])
    (.cond (.t 14) (.seq (.region [⟨some 17, none, .mov (.t 5)⟩,
      ⟨some 2, none, .mov (.c (.nil))⟩,
      ⟨some 3, none, .mov (.t 17)⟩])
    .ret)
    (.seq (.seq (.region [⟨some 19, none, .fldA 1 1 false (.t 1)⟩,
      ⟨some 20, none, .load 1 false (.t 19)⟩,
      ⟨some 21, none, .bin false .eql (.t 20) (.c (.int .i64 5))⟩,
      ⟨some 22, none, .mov (.t 21)⟩,
      ⟨some 23, some (22, true), .fldA 2 1 false (.t 1)⟩,
      ⟨some 24, some (22, true), .load 1 false (.t 23)⟩,
      ⟨some 25, some (22, true), .bin false .shr (.t 24) (.c (.int .u64 32))⟩,
      ⟨some 26, some (22, true), .bin false .neq (.t 25) (.c (.int .u64 0))⟩,
      ⟨some 27, none, .pickb (.t 22) (.t 26) (.c (.bool false))⟩,
      ⟨some 18, none, .mov (.t 27)⟩])
    (.cond (.t 18) .skip
    (.seq (.region [⟨some 28, none, .fldA 1 1 false (.t 1)⟩,
      ⟨some 29, none, .load 1 false (.t 28)⟩,
      ⟨some 30, none, .bin false .eql (.t 29) (.c (.int .i64 2))⟩,
      ⟨some 31, none, .mov (.t 30)⟩,
      ⟨some 32, some (31, true), .fldA 2 1 false (.t 1)⟩,
      ⟨some 33, some (31, true), .load 1 false (.t 32)⟩,
      ⟨some 34, some (31, true), .bin false .neq (.t 33) (.c (.int .u64 0))⟩,
      ⟨some 35, none, .pickb (.t 31) (.t 34) (.c (.bool false))⟩,
      ⟨some 18, none, .mov (.t 35)⟩])
    (.cond (.t 18) .skip
    (.region [⟨some 36, none, .fldA 1 1 false (.t 1)⟩,
      ⟨some 37, none, .load 1 false (.t 36)⟩,
      ⟨some 38, none, .bin false .neq (.t 37) (.c (.int .i64 2))⟩,
      ⟨some 39, none, .mov (.t 38)⟩,
      ⟨some 40, some (39, true), .fldA 3 1 false (.t 1)⟩,
      ⟨some 41, some (39, true), .load 1 false (.t 40)⟩,
      ⟨some 42, some (39, true), .len false (.t 41)⟩,
      ⟨some 43, some (39, true), .bin false .gtr (.t 42) (.c (.int .i64 0))⟩,
      ⟨some 44, none, .pickb (.t 39) (.t 43) (.c (.bool false))⟩,
      ⟨some 18, none, .mov (.t 44)⟩])))))
    (.cond (.t 18) (.seq (.region [⟨some 2, none, .mov (.c (.nil))⟩,
      ⟨some 3, none, .mov (.c (.int .i64 7))⟩])
    .ret)
    .skip)))))
    (.seq (.seq (.region [⟨some 45, none, .fldA 1 1 false (.t 1)⟩,
      ⟨some 46, none, .load 1 false (.t 45)⟩])
    (.block 1 (.seq (.region [⟨some 57, none, .bin false .eql (.t 46) (.c (.int .i64 0))⟩,
      ⟨some 56, none, .mov (.t 57)⟩])
    (.cond (.t 56) (.region [⟨some 58, none, .mov (.t 4)⟩,
      ⟨some 59, none, .fldA 2 1 false (.t 1)⟩,
      ⟨some 60, none, .load 1 false (.t 59)⟩,
      ⟨some 61, none, .call i_wire_varint [.t 58, .t 60]⟩,
      ⟨some 4, none, .mov (.t 61)⟩])
    (.seq (.region [⟨some 63, none, .bin false .eql (.t 46) (.c (.int .i64 1))⟩,
      ⟨some 62, none, .mov (.t 63)⟩])
    (.cond (.t 62) (.region [⟨some 64, none, .mov (.t 4)⟩,
      ⟨some 65, none, .fldA 2 1 false (.t 1)⟩,
      ⟨some 66, none, .load 1 false (.t 65)⟩,
      ⟨some 67, none, .call i_wire_word [.t 66, .c (.int .i64 8)]⟩,
      ⟨some 68, none, .app 0 5 1 1 (.t 64) (.t 67)⟩,
      ⟨some 4, none, .mov (.t 68)⟩])
    (.seq (.region [⟨some 70, none, .bin false .eql (.t 46) (.c (.int .i64 5))⟩,
      ⟨some 69, none, .mov (.t 70)⟩])
    (.cond (.t 69) (.region [⟨some 71, none, .mov (.t 4)⟩,
      ⟨some 72, none, .fldA 2 1 false (.t 1)⟩,
      ⟨some 73, none, .load 1 false (.t 72)⟩,
      ⟨some 74, none, .call i_wire_word [.t 73, .c (.int .i64 4)]⟩,
      ⟨some 75, none, .app 0 5 1 1 (.t 71) (.t 74)⟩,
      ⟨some 4, none, .mov (.t 75)⟩])
    (.draw [2, 3, 5, 8, 1000007, 2000008] [⟨some 47, none, .mov (.t 4)⟩,
      ⟨some 48, none, .fldA 3 1 false (.t 1)⟩,
      ⟨some 49, none, .load 1 false (.t 48)⟩,
      ⟨some 50, none, .len false (.t 49)⟩,
      ⟨some 51, none, .conv .u64 (.t 50)⟩,
      ⟨some 52, none, .call i_wire_varint [.t 47, .t 51]⟩,
      ⟨some 53, none, .fldA 3 1 false (.t 1)⟩,
      ⟨some 54, none, .load 1 false (.t 53)⟩,
      ⟨some 55, none, .app 0 5 1 1 (.t 52) (.t 54)⟩,
      ⟨some 4, none, .mov (.t 55)⟩])))))))))
    (.seq (.region [⟨some 76, none, .mov (.t 4)⟩,
      ⟨some 77, none, .len false (.t 76)⟩,
      ⟨some 78, none, .mks 0 5 1 1 (.int .u8 0) (.c (.int .i64 0)) (.t 77)⟩,
      ⟨some 79, none, .mov (.t 4)⟩,
      ⟨some 80, none, .app 0 5 1 1 (.t 78) (.t 79)⟩,
      ⟨some 2, none, .mov (.t 80)⟩,
      ⟨some 3, none, .mov (.c (.int .i64 0))⟩])
    .ret))))), [.tmp 2, .tmp 3]⟩
theorem T_wire_PutEntry : trFn Tryz.prog [(0, [1, 0, 0]), (1000009, [2, 3, 5, 8, 1000007, 2000008])] Tryz.f160 = some A_wire_PutEntry := by kernel_rfl
theorem L_wire_PutEntry : 1 ≤ Tryz.f160.ntmps := by decide

/-! cartouche/wire.varint -/
def A_wire_varint : AFn := ⟨(.seq (.region [⟨some 4, none, .mov (.c (.nil))⟩])
    (.seq (.block 0 (.loop (.seq (.seq (.region [⟨some 5, none, .mov (.t 1)⟩,
      ⟨some 6, none, .bin false .geq (.t 5) (.c (.int .u64 128))⟩])
    (.cond (.t 6) .skip
    (.exit 0)))
    (.block 1 (.seq (.region [⟨some 7, none, .mov (.t 0)⟩,
      ⟨some 8, none, .mov (.t 1)⟩,
      ⟨some 9, none, .conv .u8 (.t 8)⟩,
      ⟨some 10, none, .bin false .or (.t 9) (.c (.int .u8 128))⟩,
      ⟨some 11, none, .blit 0 5 1 [.t 10]⟩,
      ⟨some 12, none, .app 0 5 1 1 (.t 7) (.t 11)⟩,
      ⟨some 0, none, .mov (.t 12)⟩])
    (.region [⟨some 13, none, .mov (.t 1)⟩,
      ⟨some 14, none, .bin false .shr (.t 13) (.c (.int .u64 7))⟩,
      ⟨some 1, none, .mov (.t 14)⟩]))))))
    (.seq (.region [⟨some 15, none, .mov (.t 0)⟩,
      ⟨some 16, none, .mov (.t 1)⟩,
      ⟨some 17, none, .conv .u8 (.t 16)⟩,
      ⟨some 18, none, .blit 0 5 1 [.t 17]⟩,
      ⟨some 19, none, .app 0 5 1 1 (.t 15) (.t 18)⟩,
      ⟨some 4, none, .mov (.t 19)⟩])
    .ret))), [.tmp 4]⟩
theorem T_wire_varint : trFn Tryz.prog [(2, [0, 0, 0, 0, 1, 0, 0]), (4, [0, 0, 0, 1, 0, 0])] Tryz.f163 = some A_wire_varint := by kernel_rfl
theorem L_wire_varint : 2 ≤ Tryz.f163.ntmps := by decide

/-! cartouche/wire.Size -/
def A_wire_Size : AFn := ⟨(.seq (.region [⟨some 2, none, .mov (.c (.int .i64 0))⟩])
    (.seq (.region [⟨some 3, none, .mov (.t 0)⟩,
      ⟨some 4, none, .call i_bits_Len64 [.t 3]⟩,
      ⟨some 5, none, .mm true (.c (.int .i64 1)) (.t 4)⟩,
      ⟨some 6, none, .bin false .add (.t 5) (.c (.int .i64 7))⟩,
      ⟨some 7, none, .bin false .sub (.t 6) (.c (.int .i64 1))⟩,
      ⟨some 8, none, .bin false .quo (.t 7) (.c (.int .i64 7))⟩,
      ⟨some 2, none, .mov (.t 8)⟩])
    .ret)), [.tmp 2]⟩
theorem T_wire_Size : trFn Tryz.prog [] Tryz.f164 = some A_wire_Size := by kernel_rfl
theorem L_wire_Size : 1 ≤ Tryz.f164.ntmps := by decide

/-! cartouche/wire.word -/
def A_wire_word : AFn := ⟨(.seq (.region [⟨some 4, none, .mov (.c (.nil))⟩])
    (.seq (.region [⟨some 7, none, .mov (.t 1)⟩,
      ⟨some 8, none, .mks 0 5 1 1 (.int .u8 0) (.c (.int .i64 0)) (.t 7)⟩,
      ⟨some 5, none, .mov (.t 8)⟩])
    (.seq (.seq (.region [⟨some 9, none, .mov (.t 1)⟩,
      ⟨some 10, none, .mov (.c (.int .i64 0))⟩])
    (.block 0 (.loop (.seq (.region [⟨some 11, none, .bin false .lss (.t 10) (.t 9)⟩])
    (.seq (.cond (.t 11) .skip
    (.exit 0))
    (.seq (.block 1 (.seq (.region [⟨some 12, none, .mov (.t 10)⟩,
      ⟨some 6, none, .mov (.t 12)⟩])
    (.region [⟨some 13, none, .mov (.t 5)⟩,
      ⟨some 14, none, .mov (.t 0)⟩,
      ⟨some 15, none, .mov (.t 6)⟩,
      ⟨some 16, none, .bin false .mul (.c (.int .i64 8)) (.t 15)⟩,
      ⟨some 17, none, .bin false .shr (.t 14) (.t 16)⟩,
      ⟨some 18, none, .conv .u8 (.t 17)⟩,
      ⟨some 19, none, .blit 0 5 1 [.t 18]⟩,
      ⟨some 20, none, .app 0 5 1 1 (.t 13) (.t 19)⟩,
      ⟨some 5, none, .mov (.t 20)⟩])))
    (.region [⟨some 21, none, .bin false .add (.t 10) (.c (.int .i64 1))⟩,
      ⟨some 10, none, .mov (.t 21)⟩])))))))
    (.seq (.region [⟨some 22, none, .mov (.t 5)⟩,
      ⟨some 4, none, .mov (.t 22)⟩])
    .ret)))), [.tmp 4]⟩
theorem T_wire_word : trFn Tryz.prog [(5, [0, 0, 0, 0, 0, 0, 1, 0, 0])] Tryz.f165 = some A_wire_word := by kernel_rfl
theorem L_wire_word : 2 ≤ Tryz.f165.ntmps := by decide

/-! cartouche/table.sort -/
def A_table_sort : AFn := ⟨(.seq (.region [⟨some 3, none, .box 0 (.t 0)⟩,
      ⟨some 6, none, .mov (.c (.bool false))⟩])
    (.seq (.region [⟨some 7, none, .mov (.t 1)⟩,
      ⟨some 8, none, .bin false .geq (.t 7) (.c (.int .i64 0))⟩,
      ⟨some 9, none, .mov (.t 8)⟩,
      ⟨some 10, some (9, true), .mov (.t 1)⟩,
      ⟨some 11, some (9, true), .fldA 0 1 false (.t 3)⟩,
      ⟨some 12, some (9, true), .load 1 false (.t 11)⟩,
      ⟨some 13, some (9, true), .len false (.t 12)⟩,
      ⟨some 14, some (9, true), .bin false .lss (.t 10) (.t 13)⟩,
      ⟨some 15, none, .pickb (.t 9) (.t 14) (.c (.bool false))⟩,
      ⟨some 16, none, .mov (.t 15)⟩,
      ⟨some 17, some (16, true), .fldA 0 1 false (.t 3)⟩,
      ⟨some 18, some (16, true), .load 1 false (.t 17)⟩,
      ⟨some 19, some (16, true), .mov (.t 1)⟩,
      ⟨some 20, some (16, true), .idxA 6 (.t 18) (.t 19)⟩,
      ⟨some 21, some (16, true), .fldA 1 1 false (.t 20)⟩,
      ⟨some 22, some (16, true), .load 1 false (.t 21)⟩,
      ⟨some 23, some (16, true), .mov (.t 2)⟩,
      ⟨some 24, some (16, true), .bin true .eql (.t 22) (.t 23)⟩,
      ⟨some 25, none, .pickb (.t 16) (.t 24) (.c (.bool false))⟩,
      ⟨some 6, none, .mov (.t 25)⟩])
    .ret)), [.tmp 6]⟩
theorem T_table_sort : trFn Tryz.prog [(0, [1, 0])] Tryz.f172 = some A_table_sort := by kernel_rfl
theorem L_table_sort : 3 ≤ Tryz.f172.ntmps := by decide

/-! cartouche/model.typedField -/
def A_model_typedField : AFn := ⟨(.seq (.region [⟨some 3, none, .box 0 (.t 0)⟩,
      ⟨some 4, none, .box 0 (.t 1)⟩,
      ⟨some 5, none, .box 0 (.t 2)⟩,
      ⟨some 6, none, .mov (.c (.bool false))⟩])
    (.seq (.seq (.region [⟨some 11, none, .fldA 4 1 false (.t 4)⟩,
      ⟨some 12, none, .load 1 false (.t 11)⟩])
    (.block 0 (.seq (.seq (.region [⟨some 18, none, .bin false .eql (.t 12) (.c (.int .i64 0))⟩,
      ⟨some 17, none, .mov (.t 18)⟩])
    (.cond (.t 17) .skip
    (.seq (.region [⟨some 19, none, .bin false .eql (.t 12) (.c (.int .i64 1))⟩,
      ⟨some 17, none, .mov (.t 19)⟩])
    (.cond (.t 17) .skip
    (.region [⟨some 20, none, .bin false .eql (.t 12) (.c (.int .i64 4))⟩,
      ⟨some 17, none, .mov (.t 20)⟩])))))
    (.cond (.t 17) (.seq (.region [⟨some 21, none, .fldA 2 1 false (.t 5)⟩,
      ⟨some 22, none, .load 1 false (.t 21)⟩,
      ⟨some 23, none, .len false (.t 22)⟩,
      ⟨some 24, none, .bin false .neq (.t 23) (.c (.int .i64 1))⟩,
      ⟨some 25, none, .mov (.t 24)⟩,
      ⟨some 26, some (25, false), .fldA 1 1 false (.t 5)⟩,
      ⟨some 27, some (25, false), .load 1 false (.t 26)⟩,
      ⟨some 28, some (25, false), .len false (.t 27)⟩,
      ⟨some 29, some (25, false), .bin false .gtr (.t 28) (.c (.int .i64 0))⟩,
      ⟨some 30, none, .pickb (.t 25) (.c (.bool true)) (.t 29)⟩])
    (.cond (.t 30) (.seq (.region [⟨some 6, none, .mov (.c (.bool false))⟩])
    .ret)
    .skip))
    (.seq (.region [⟨some 32, none, .bin false .eql (.t 12) (.c (.int .i64 5))⟩,
      ⟨some 31, none, .mov (.t 32)⟩])
    (.cond (.t 31) (.seq (.seq (.region [⟨some 33, none, .fldA 1 1 false (.t 5)⟩,
      ⟨some 34, none, .load 1 false (.t 33)⟩,
      ⟨some 35, none, .len false (.t 34)⟩,
      ⟨some 36, none, .fldA 2 1 false (.t 5)⟩,
      ⟨some 37, none, .load 1 false (.t 36)⟩,
      ⟨some 38, none, .len false (.t 37)⟩,
      ⟨some 39, none, .bin false .neq (.t 35) (.t 38)⟩])
    (.cond (.t 39) (.seq (.region [⟨some 6, none, .mov (.c (.bool false))⟩])
    .ret)
    .skip))
    (.seq (.region [⟨some 40, none, .fldA 1 1 false (.t 5)⟩,
      ⟨some 41, none, .load 1 false (.t 40)⟩,
      ⟨some 42, none, .len false (.t 41)⟩,
      ⟨some 43, none, .mov (.c (.int .i64 0))⟩])
    (.block 1 (.loop (.seq (.region [⟨some 44, none, .bin false .lss (.t 43) (.t 42)⟩])
    (.seq (.cond (.t 44) .skip
    (.exit 1))
    (.seq (.block 2 (.seq (.region [⟨some 45, none, .mov (.t 43)⟩,
      ⟨some 46, none, .idxA 3 (.t 41) (.t 43)⟩,
      ⟨some 47, none, .load 3 true (.t 46)⟩,
      ⟨some 8, none, .alloc 0 [.int .u64 0, .nil, .nil]⟩,
      ⟨some 7, none, .mov (.t 45)⟩,
      ⟨none, none, .store 3 (.t 8) (.t 47)⟩])
    (.seq (.seq (.region [⟨some 48, none, .load 1 true (.t 3)⟩,
      ⟨some 49, none, .fldA 6 1 false (.t 4)⟩,
      ⟨some 50, none, .load 1 false (.t 49)⟩,
      ⟨some 51, none, .load 3 true (.t 8)⟩,
      ⟨some 52, none, .call i_model_typedVal [.t 48, .t 50, .c (.int .i64 0), .t 51]⟩,
      ⟨some 53, none, .un .not (.t 52)⟩])
    (.cond (.t 53) (.seq (.region [⟨some 6, none, .mov (.c (.bool false))⟩])
    .ret)
    .skip))
    (.seq (.region [⟨some 54, none, .mov (.t 7)⟩,
      ⟨some 55, none, .bin false .gtr (.t 54) (.c (.int .i64 0))⟩])
    (.cond (.t 55) (.seq (.draw [1, 9, 1000003, 1000006, 1000007, 1000008, 2000009] [⟨some 57, none, .fldA 6 1 false (.t 4)⟩,
      ⟨some 58, none, .load 1 false (.t 57)⟩,
      ⟨some 59, none, .fldA 1 1 false (.t 5)⟩,
      ⟨some 60, none, .load 1 false (.t 59)⟩,
      ⟨some 61, none, .mov (.t 7)⟩,
      ⟨some 62, none, .bin false .sub (.t 61) (.c (.int .i64 1))⟩,
      ⟨some 63, none, .idxA 3 (.t 60) (.t 62)⟩,
      ⟨some 64, none, .load 3 true (.t 63)⟩,
      ⟨some 65, none, .load 3 true (.t 8)⟩,
      ⟨some 66, none, .call i_scalar_Compare [.t 58, .t 64, .t 65]⟩,
      ⟨some 56, none, .mov (.t 66)⟩,
      ⟨some 67, none, .ext 0 (.t 56)⟩,
      ⟨some 68, none, .ext 1 (.t 56)⟩,
      ⟨some 9, none, .mov (.t 67)⟩,
      ⟨some 10, none, .mov (.t 68)⟩])
    (.seq (.region [⟨some 69, none, .mov (.t 9)⟩,
      ⟨some 70, none, .bin false .geq (.t 69) (.c (.int .i64 0))⟩])
    (.cond (.t 70) (.seq (.region [⟨some 6, none, .mov (.c (.bool false))⟩])
    .ret)
    .skip)))
    .skip)))))
    (.region [⟨some 71, none, .bin false .add (.t 43) (.c (.int .i64 1))⟩,
      ⟨some 43, none, .mov (.t 71)⟩]))))))))
    (.seq (.region [⟨some 13, none, .fldA 1 1 false (.t 5)⟩,
      ⟨some 14, none, .load 1 false (.t 13)⟩,
      ⟨some 15, none, .len false (.t 14)⟩,
      ⟨some 16, none, .bin false .gtr (.t 15) (.c (.int .i64 0))⟩])
    (.cond (.t 16) (.seq (.region [⟨some 6, none, .mov (.c (.bool false))⟩])
    .ret)
    .skip))))))))
    (.seq (.region [⟨some 72, none, .fldA 2 1 false (.t 5)⟩,
      ⟨some 73, none, .load 1 false (.t 72)⟩,
      ⟨some 74, none, .mkfn (.func 218) [] [.t 3, .t 4]⟩,
      ⟨some 75, none, .call i_slices_ContainsFunc_api_Val_api_Val [.t 73, .t 74]⟩,
      ⟨some 76, none, .un .not (.t 75)⟩,
      ⟨some 6, none, .mov (.t 76)⟩])
    .ret))), [.tmp 6]⟩
theorem T_model_typedField : trFn Tryz.prog [(0, [1, 1, 1, 0]), (14, [0, 0, 0, 1, 0, 0]), (1000018, [1, 9, 1000003, 1000006, 1000007, 1000008, 2000009])] Tryz.f173 = some A_model_typedField := by kernel_rfl
theorem L_model_typedField : 3 ≤ Tryz.f173.ntmps := by decide

/-! slices.ContainsFunc[[]cartouche/api.Val,cartouche/api.Val] -/
def A_slices_ContainsFunc_api_Val_api_Val : AFn := ⟨(.seq (.region [⟨some 4, none, .mov (.c (.bool false))⟩])
    (.seq (.region [⟨some 5, none, .mov (.t 0)⟩,
      ⟨some 6, none, .mov (.t 1)⟩,
      ⟨some 7, none, .call i_slices_IndexFunc_api_Val_api_Val [.t 5, .t 6]⟩,
      ⟨some 8, none, .bin false .geq (.t 7) (.c (.int .i64 0))⟩,
      ⟨some 4, none, .mov (.t 8)⟩])
    .ret)), [.tmp 4]⟩
theorem T_slices_ContainsFunc_api_Val_api_Val : trFn Tryz.prog [] Tryz.f174 = some A_slices_ContainsFunc_api_Val_api_Val := by kernel_rfl
theorem L_slices_ContainsFunc_api_Val_api_Val : 2 ≤ Tryz.f174.ntmps := by decide

/-! cartouche/model.each[cartouche/api.Val] -/
def A_model_each_api_Val : AFn := ⟨(.seq (.region [⟨some 4, none, .mov (.c (.nil))⟩])
    (.seq (.region [⟨some 8, none, .mov (.t 0)⟩,
      ⟨some 9, none, .len false (.t 8)⟩,
      ⟨some 10, none, .mks 0 26 3 56 (.agg [.int .u64 0, .nil, .nil]) (.c (.int .i64 0)) (.t 9)⟩,
      ⟨some 5, none, .mov (.t 10)⟩])
    (.seq (.seq (.region [⟨some 11, none, .mov (.t 0)⟩,
      ⟨some 12, none, .len false (.t 11)⟩,
      ⟨some 13, none, .mov (.c (.int .i64 0))⟩])
    (.block 0 (.loop (.seq (.region [⟨some 14, none, .bin false .lss (.t 13) (.t 12)⟩])
    (.seq (.cond (.t 14) .skip
    (.exit 0))
    (.seq (.block 1 (.seq (.region [⟨some 15, none, .idxA 3 (.t 11) (.t 13)⟩,
      ⟨some 16, none, .load 3 true (.t 15)⟩,
      ⟨some 7, none, .alloc 0 [.int .u64 0, .nil, .nil]⟩,
      ⟨none, none, .store 3 (.t 7) (.t 16)⟩])
    (.region [⟨some 17, none, .mov (.t 5)⟩,
      ⟨some 18, none, .mov (.t 1)⟩,
      ⟨some 19, none, .load 3 true (.t 7)⟩,
      ⟨some 20, none, .callv (.t 18) [.t 19]⟩,
      ⟨some 21, none, .blit 0 26 3 [.t 20]⟩,
      ⟨some 22, none, .app 0 26 3 56 (.t 17) (.t 21)⟩,
      ⟨some 5, none, .mov (.t 22)⟩])))
    (.region [⟨some 23, none, .bin false .add (.t 13) (.c (.int .i64 1))⟩,
      ⟨some 13, none, .mov (.t 23)⟩])))))))
    (.seq (.region [⟨some 24, none, .mov (.t 5)⟩,
      ⟨some 4, none, .mov (.t 24)⟩])
    .ret)))), [.tmp 4]⟩
theorem T_model_each_api_Val : trFn Tryz.prog [(4, [0, 0, 1, 0]), (5, [0, 0, 0, 0, 1, 0, 0])] Tryz.f181 = some A_model_each_api_Val := by kernel_rfl
theorem L_model_each_api_Val : 2 ≤ Tryz.f181.ntmps := by decide

/-! cartouche/model.CopyVal -/
def A_model_CopyVal : AFn := ⟨(.seq (.region [⟨some 1, none, .box 0 (.t 0)⟩,
      ⟨some 2, none, .alloc 0 [.int .u64 0, .nil, .nil]⟩])
    (.seq (.draw [3, 4, 7, 8, 9, 1000001, 1000006, 2000008, 2000009] [⟨some 3, none, .fldA 0 1 false (.t 1)⟩,
      ⟨some 4, none, .load 1 false (.t 3)⟩,
      ⟨some 5, none, .fldA 1 1 false (.t 1)⟩,
      ⟨some 6, none, .load 1 false (.t 5)⟩,
      ⟨some 7, none, .call i_model_list [.t 6]⟩,
      ⟨some 8, none, .fldA 2 1 false (.t 1)⟩,
      ⟨some 9, none, .load 1 false (.t 8)⟩,
      ⟨some 10, none, .call i_model_each_api_Msg [.t 9, .c (.fn (.func 68) [] [])]⟩,
      ⟨some 11, none, .build [.int .u64 0, .nil, .nil] [(0, 1, .t 4), (1, 1, .t 7), (2, 1, .t 10)]⟩,
      ⟨none, none, .store 3 (.t 2) (.t 11)⟩])
    .ret)), [.cell 2 3 true]⟩
theorem T_model_CopyVal : trFn Tryz.prog [(0, [1, 1]), (1000001, [3, 4, 7, 8, 9, 1000001, 1000006, 2000008, 2000009])] Tryz.f182 = some A_model_CopyVal := by kernel_rfl
theorem L_model_CopyVal : 1 ≤ Tryz.f182.ntmps := by decide

/-! cartouche/model.list -/
def A_model_list : AFn := ⟨(.seq (.region [⟨some 2, none, .mov (.c (.nil))⟩])
    (.seq (.region [⟨some 3, none, .mov (.t 0)⟩,
      ⟨some 4, none, .len false (.t 3)⟩,
      ⟨some 5, none, .mks 0 5 1 1 (.int .u8 0) (.c (.int .i64 0)) (.t 4)⟩,
      ⟨some 6, none, .mov (.t 0)⟩,
      ⟨some 7, none, .app 0 5 1 1 (.t 5) (.t 6)⟩,
      ⟨some 2, none, .mov (.t 7)⟩])
    .ret)), [.tmp 2]⟩
theorem T_model_list : trFn Tryz.prog [] Tryz.f183 = some A_model_list := by kernel_rfl
theorem L_model_list : 1 ≤ Tryz.f183.ntmps := by decide

/-! cartouche/model.Others -/
def A_model_Others : AFn := ⟨(.seq (.region [⟨some 2, none, .box 0 (.t 0)⟩,
      ⟨some 4, none, .mov (.c (.nil))⟩])
    (.seq (.region [⟨some 5, none, .mov (.c (.nil))⟩])
    (.seq (.seq (.region [⟨some 8, none, .fldA 2 1 false (.t 2)⟩,
      ⟨some 9, none, .load 1 false (.t 8)⟩,
      ⟨some 10, none, .len false (.t 9)⟩,
      ⟨some 11, none, .mov (.c (.int .i64 0))⟩])
    (.block 0 (.loop (.seq (.region [⟨some 12, none, .bin false .lss (.t 11) (.t 10)⟩])
    (.seq (.cond (.t 12) .skip
    (.exit 0))
    (.seq (.block 1 (.seq (.region [⟨some 13, none, .idxA 7 (.t 9) (.t 11)⟩,
      ⟨some 14, none, .load 7 true (.t 13)⟩,
      ⟨some 7, none, .alloc 0 [.str ⟨#[]⟩, .int .i64 0, .int .i64 0, .int .i64 0, .int .i64 0, .int .i64 0, .int .i64 0]⟩,
      ⟨none, none, .store 7 (.t 7) (.t 14)⟩])
    (.seq (.region [⟨some 15, none, .fldA 4 1 false (.t 7)⟩,
      ⟨some 16, none, .load 1 false (.t 15)⟩,
      ⟨some 17, none, .bin false .eql (.t 16) (.c (.int .i64 4))⟩,
      ⟨some 18, none, .mov (.t 17)⟩,
      ⟨some 19, some (18, true), .fldA 5 1 false (.t 7)⟩,
      ⟨some 20, some (18, true), .load 1 false (.t 19)⟩,
      ⟨some 21, some (18, true), .mov (.t 1)⟩,
      ⟨some 22, some (18, true), .bin false .eql (.t 20) (.t 21)⟩,
      ⟨some 23, none, .pickb (.t 18) (.t 22) (.c (.bool false))⟩])
    (.cond (.t 23) (.region [⟨some 24, none, .mov (.t 5)⟩,
      ⟨some 25, none, .fldA 1 1 false (.t 7)⟩,
      ⟨some 26, none, .load 1 false (.t 25)⟩,
      ⟨some 27, none, .blit 0 3 1 [.t 26]⟩,
      ⟨some 28, none, .app 0 3 1 8 (.t 24) (.t 27)⟩,
      ⟨some 5, none, .mov (.t 28)⟩])
    .skip))))
    (.region [⟨some 29, none, .bin false .add (.t 11) (.c (.int .i64 1))⟩,
      ⟨some 11, none, .mov (.t 29)⟩])))))))
    (.seq (.region [⟨some 30, none, .mov (.t 5)⟩,
      ⟨some 4, none, .mov (.t 30)⟩])
    .ret)))), [.tmp 4]⟩
theorem T_model_Others : trFn Tryz.prog [(0, [1, 0]), (4, [0, 0, 1, 0]), (6, [0, 0, 0, 1, 0, 0])] Tryz.f184 = some A_model_Others := by kernel_rfl
theorem L_model_Others : 2 ≤ Tryz.f184.ntmps := by decide

/-! cartouche/merge.into$1 -/
def A_merge_into_1 : AFn := ⟨(.seq (.region [⟨some 2, none, .box 0 (.t 0)⟩,
      ⟨some 3, none, .mov (.c (.bool false))⟩])
    (.seq (.region [⟨some 4, none, .load 1 false (.t 1)⟩,
      ⟨some 5, none, .fldA 0 1 false (.t 2)⟩,
      ⟨some 6, none, .load 1 false (.t 5)⟩,
      ⟨some 7, none, .call i_slices_Contains_int_int [.t 4, .t 6]⟩,
      ⟨some 3, none, .mov (.t 7)⟩])
    .ret)), [.tmp 3]⟩
theorem T_merge_into_1 : trFn Tryz.prog [(0, [1, 0])] Tryz.f185 = some A_merge_into_1 := by kernel_rfl
theorem L_merge_into_1 : 2 ≤ Tryz.f185.ntmps := by decide

/-! slices.Contains[[]int,int] -/
def A_slices_Contains_int_int : AFn := ⟨(.seq (.region [⟨some 4, none, .mov (.c (.bool false))⟩])
    (.seq (.region [⟨some 5, none, .mov (.t 0)⟩,
      ⟨some 6, none, .mov (.t 1)⟩,
      ⟨some 7, none, .call i_slices_Index_int_int [.t 5, .t 6]⟩,
      ⟨some 8, none, .bin false .geq (.t 7) (.c (.int .i64 0))⟩,
      ⟨some 4, none, .mov (.t 8)⟩])
    .ret)), [.tmp 4]⟩
theorem T_slices_Contains_int_int : trFn Tryz.prog [] Tryz.f186 = some A_slices_Contains_int_int := by kernel_rfl
theorem L_slices_Contains_int_int : 2 ≤ Tryz.f186.ntmps := by decide

/-! cartouche/model.Place -/
def A_model_Place : AFn := ⟨(.seq (.region [⟨some 4, none, .mov (.c (.int .i64 0))⟩,
      ⟨some 5, none, .mov (.c (.bool false))⟩])
    (.seq (.region [⟨some 6, none, .mov (.t 0)⟩,
      ⟨some 7, none, .mov (.t 1)⟩,
      ⟨some 8, none, .call i_slices_BinarySearchFunc_api_Field_api_Field_int [.t 6, .t 7, .c (.fn (.func 224) [] [])]⟩,
      ⟨some 9, none, .ext 0 (.t 8)⟩,
      ⟨some 10, none, .ext 1 (.t 8)⟩,
      ⟨some 4, none, .mov (.t 9)⟩,
      ⟨some 5, none, .mov (.t 10)⟩])
    .ret)), [.tmp 4, .tmp 5]⟩
theorem T_model_Place : trFn Tryz.prog [] Tryz.f187 = some A_model_Place := by kernel_rfl
theorem L_model_Place : 2 ≤ Tryz.f187.ntmps := by decide

/-! cartouche/merge.both -/
def A_merge_both : AFn := ⟨(.seq (.region [⟨some 4, none, .box 0 (.t 0)⟩,
      ⟨some 5, none, .box 0 (.t 1)⟩,
      ⟨some 6, none, .box 0 (.t 2)⟩,
      ⟨some 7, none, .box 0 (.t 3)⟩,
      ⟨some 8, none, .alloc 0 [.int .i64 0, .nil, .nil]⟩])
    (.seq (.block 0 (.seq (.region [⟨some 14, none, .fldA 4 1 false (.t 5)⟩,
      ⟨some 15, none, .load 1 false (.t 14)⟩,
      ⟨some 16, none, .bin false .eql (.t 15) (.c (.int .i64 1))⟩,
      ⟨some 17, none, .mov (.t 16)⟩,
      ⟨some 18, some (17, true), .fldA 2 1 false (.t 5)⟩,
      ⟨some 19, some (17, true), .load 1 false (.t 18)⟩,
      ⟨some 20, some (17, true), .bin false .eql (.t 19) (.c (.int .i64 17))⟩,
      ⟨some 21, none, .pickb (.t 17) (.t 20) (.c (.bool false))⟩,
      ⟨some 13, none, .mov (.t 21)⟩])
    (.cond (.t 13) (.draw [0, 17, 18, 19, 20, 22, 1000002, 1000004, 1000005, 1000007, 1000008, 1000009, 1000011, 1000012, 1000014, 1000015, 1000016, 2000017, 2000018, 2000019, 2000020, 2000022] [⟨some 22, none, .load 1 true (.t 4)⟩,
      ⟨some 23, none, .fldA 3 1 false (.t 5)⟩,
      ⟨some 24, none, .load 1 false (.t 23)⟩,
      ⟨some 25, none, .fldA 2 1 false (.t 6)⟩,
      ⟨some 26, none, .load 1 false (.t 25)⟩,
      ⟨some 27, none, .idxA 3 (.t 26) (.c (.int .i64 0))⟩,
      ⟨some 28, none, .fldA 2 1 false (.t 27)⟩,
      ⟨some 29, none, .load 1 false (.t 28)⟩,
      ⟨some 30, none, .idxA 2 (.t 29) (.c (.int .i64 0))⟩,
      ⟨some 31, none, .load 2 true (.t 30)⟩,
      ⟨some 32, none, .fldA 2 1 false (.t 7)⟩,
      ⟨some 33, none, .load 1 false (.t 32)⟩,
      ⟨some 34, none, .idxA 3 (.t 33) (.c (.int .i64 0))⟩,
      ⟨some 35, none, .fldA 2 1 false (.t 34)⟩,
      ⟨some 36, none, .load 1 false (.t 35)⟩,
      ⟨some 37, none, .idxA 2 (.t 36) (.c (.int .i64 0))⟩,
      ⟨some 38, none, .load 2 true (.t 37)⟩,
      ⟨some 39, none, .call i_merge_into [.t 22, .t 24, .t 31, .t 38]⟩,
      ⟨some 40, none, .blit 0 35 2 [.t 39]⟩,
      ⟨some 41, none, .build [.int .u64 0, .nil, .nil] [(2, 1, .t 40)]⟩,
      ⟨some 42, none, .blit 0 26 3 [.t 41]⟩,
      ⟨some 43, none, .fldA 2 1 false (.t 7)⟩,
      ⟨none, none, .store 1 (.t 43) (.t 42)⟩])
    (.seq (.region [⟨some 45, none, .fldA 4 1 false (.t 5)⟩,
      ⟨some 46, none, .load 1 false (.t 45)⟩,
      ⟨some 47, none, .bin false .eql (.t 46) (.c (.int .i64 2))⟩,
      ⟨some 48, none, .mov (.t 47)⟩,
      ⟨some 49, some (48, false), .fldA 4 1 false (.t 5)⟩,
      ⟨some 50, some (48, false), .load 1 false (.t 49)⟩,
      ⟨some 51, some (48, false), .bin false .eql (.t 50) (.c (.int .i64 3))⟩,
      ⟨some 52, none, .pickb (.t 48) (.c (.bool true)) (.t 51)⟩,
      ⟨some 44, none, .mov (.t 52)⟩])
    (.cond (.t 44) (.region [⟨some 53, none, .fldA 2 1 false (.t 6)⟩,
      ⟨some 54, none, .load 1 false (.t 53)⟩,
      ⟨some 55, none, .fldA 2 1 false (.t 7)⟩,
      ⟨some 56, none, .load 1 false (.t 55)⟩,
      ⟨some 57, none, .app 0 26 3 56 (.t 54) (.t 56)⟩,
      ⟨some 58, none, .fldA 2 1 false (.t 7)⟩,
      ⟨none, none, .store 1 (.t 58) (.t 57)⟩])
    (.seq (.region [⟨some 60, none, .fldA 4 1 false (.t 5)⟩,
      ⟨some 61, none, .load 1 false (.t 60)⟩,
      ⟨some 62, none, .bin false .eql (.t 61) (.c (.int .i64 5))⟩,
      ⟨some 59, none, .mov (.t 62)⟩])
    (.cond (.t 59) (.seq (.seq (.region [⟨some 63, none, .fldA 1 1 false (.t 7)⟩,
      ⟨some 64, none, .load 1 false (.t 63)⟩,
      ⟨some 65, none, .len false (.t 64)⟩,
      ⟨some 66, none, .mov (.c (.int .i64 0))⟩])
    (.block 1 (.loop (.seq (.region [⟨some 67, none, .bin false .lss (.t 66) (.t 65)⟩])
    (.seq (.cond (.t 67) .skip
    (.exit 1))
    (.seq (.block 2 (.seq (.region [⟨some 68, none, .mov (.t 66)⟩,
      ⟨some 69, none, .idxA 3 (.t 64) (.t 66)⟩,
      ⟨some 70, none, .load 3 true (.t 69)⟩,
      ⟨some 10, none, .alloc 0 [.int .u64 0, .nil, .nil]⟩,
      ⟨some 9, none, .mov (.t 68)⟩,
      ⟨none, none, .store 3 (.t 10) (.t 70)⟩])
    (.seq (.region [⟨some 72, none, .fldA 1 1 false (.t 6)⟩,
      ⟨some 73, none, .load 1 false (.t 72)⟩,
      ⟨some 74, none, .load 3 true (.t 10)⟩,
      ⟨some 75, none, .mkfn (.func 226) [] [.t 5]⟩,
      ⟨some 76, none, .call i_slices_BinarySearchFunc_api_Val_api_Val_api_Val [.t 73, .t 74, .t 75]⟩,
      ⟨some 71, none, .mov (.t 76)⟩,
      ⟨some 77, none, .ext 0 (.t 71)⟩,
      ⟨some 78, none, .ext 1 (.t 71)⟩,
      ⟨some 11, none, .mov (.t 77)⟩,
      ⟨some 12, none, .mov (.t 78)⟩])
    (.seq (.region [⟨some 79, none, .mov (.t 12)⟩])
    (.cond (.t 79) (.draw [1, 8, 9, 1000004, 1000006, 1000007, 2000008, 2000009] [⟨some 80, none, .fldA 2 1 false (.t 6)⟩,
      ⟨some 81, none, .load 1 false (.t 80)⟩,
      ⟨some 82, none, .mov (.t 11)⟩,
      ⟨some 83, none, .fldA 2 1 false (.t 7)⟩,
      ⟨some 84, none, .load 1 false (.t 83)⟩,
      ⟨some 85, none, .mov (.t 9)⟩,
      ⟨some 86, none, .idxA 3 (.t 84) (.t 85)⟩,
      ⟨some 87, none, .load 3 true (.t 86)⟩,
      ⟨some 88, none, .idxA 3 (.t 81) (.t 82)⟩,
      ⟨none, none, .store 3 (.t 88) (.t 87)⟩])
    (.draw [1, 5, 15, 17, 19, 1000003, 1000007, 1000010, 1000012, 1000013, 2000015, 2000017, 2000019] [⟨some 89, none, .fldA 1 1 false (.t 6)⟩,
      ⟨some 90, none, .load 1 false (.t 89)⟩,
      ⟨some 91, none, .mov (.t 11)⟩,
      ⟨some 92, none, .load 3 true (.t 10)⟩,
      ⟨some 93, none, .bslice 3 [.t 92]⟩,
      ⟨some 94, none, .call i_slices_Insert_api_Val_api_Val [.t 90, .t 91, .t 93]⟩,
      ⟨some 95, none, .fldA 2 1 false (.t 6)⟩,
      ⟨some 96, none, .load 1 false (.t 95)⟩,
      ⟨some 97, none, .mov (.t 11)⟩,
      ⟨some 98, none, .fldA 2 1 false (.t 7)⟩,
      ⟨some 99, none, .load 1 false (.t 98)⟩,
      ⟨some 100, none, .mov (.t 9)⟩,
      ⟨some 101, none, .idxA 3 (.t 99) (.t 100)⟩,
      ⟨some 102, none, .load 3 true (.t 101)⟩,
      ⟨some 103, none, .bslice 3 [.t 102]⟩,
      ⟨some 104, none, .call i_slices_Insert_api_Val_api_Val [.t 96, .t 97, .t 103]⟩,
      ⟨some 105, none, .fldA 1 1 false (.t 6)⟩,
      ⟨none, none, .store 1 (.t 105) (.t 94)⟩,
      ⟨some 106, none, .fldA 2 1 false (.t 6)⟩,
      ⟨none, none, .store 1 (.t 106) (.t 104)⟩]))))))
    (.region [⟨some 107, none, .bin false .add (.t 66) (.c (.int .i64 1))⟩,
      ⟨some 66, none, .mov (.t 107)⟩])))))))
    (.seq (.region [⟨some 108, none, .load 3 true (.t 6)⟩,
      ⟨none, none, .store 3 (.t 8) (.t 108)⟩])
    .ret))
    .skip)))))))
    (.seq (.region [⟨some 109, none, .load 3 true (.t 7)⟩,
      ⟨none, none, .store 3 (.t 8) (.t 109)⟩])
    .ret))), [.cell 8 3 true]⟩
theorem T_merge_both : trFn Tryz.prog [(0, [1, 1, 1, 1, 1]), (2, [0, 0, 0, 0, 0, 0, 0, 0, 0, 0, 0, 0, 0, 0, 0, 0, 0, 0, 1, 0, 1, 0, 0]), (8, [0, 0, 0, 1, 0, 0]), (1000002, [0, 17, 18, 19, 20, 22, 1000002, 1000004, 1000005, 1000007, 1000008, 1000009, 1000011, 1000012, 1000014, 1000015, 1000016, 2000017, 2000018, 2000019, 2000020, 2000022]), (1000011, [1, 8, 9, 1000004, 1000006, 1000007, 2000008, 2000009]), (1000012, [1, 5, 15, 17, 19, 1000003, 1000007, 1000010, 1000012, 1000013, 2000015, 2000017, 2000019])] Tryz.f188 = some A_merge_both := by kernel_rfl
theorem L_merge_both : 4 ≤ Tryz.f188.ntmps := by decide

/-! cartouche/model.Laid -/
def A_model_Laid : AFn := ⟨(.seq (.region [⟨some 3, none, .box 0 (.t 1)⟩,
      ⟨some 4, none, .mov (.c (.nil))⟩])
    (.seq (.region [⟨some 8, none, .mov (.t 0)⟩,
      ⟨some 9, none, .fldA 0 1 false (.t 3)⟩,
      ⟨some 10, none, .load 1 false (.t 9)⟩,
      ⟨some 11, none, .call i_model_Place [.t 8, .t 10]⟩,
      ⟨some 7, none, .mov (.t 11)⟩,
      ⟨some 12, none, .ext 0 (.t 7)⟩,
      ⟨some 13, none, .ext 1 (.t 7)⟩,
      ⟨some 5, none, .mov (.t 12)⟩,
      ⟨some 6, none, .mov (.t 13)⟩])
    (.seq (.seq (.region [⟨some 14, none, .mov (.t 6)⟩])
    (.cond (.t 14) (.seq (.region [⟨some 15, none, .mov (.t 0)⟩,
      ⟨some 16, none, .mov (.t 5)⟩,
      ⟨some 17, none, .load 3 true (.t 3)⟩,
      ⟨some 18, none, .idxA 3 (.t 15) (.t 16)⟩,
      ⟨none, none, .store 3 (.t 18) (.t 17)⟩])
    (.seq (.region [⟨some 19, none, .mov (.t 0)⟩,
      ⟨some 4, none, .mov (.t 19)⟩])
    .ret))
    .skip))
    (.seq (.region [⟨some 20, none, .mov (.t 0)⟩,
      ⟨some 21, none, .mov (.t 5)⟩,
      ⟨some 22, none, .load 3 true (.t 3)⟩,
      ⟨some 23, none, .blit 0 29 3 [.t 22]⟩,
      ⟨some 24, none, .call i_slices_Insert_api_Field_api_Field [.t 20, .t 21, .t 23]⟩,
      ⟨some 4, none, .mov (.t 24)⟩])
    .ret)))), [.tmp 4]⟩
theorem T_model_Laid : trFn Tryz.prog [(0, [1, 0]), (5, [0, 0, 0, 1, 0, 0])] Tryz.f189 = some A_model_Laid := by kernel_rfl
theorem L_model_Laid : 2 ≤ Tryz.f189.ntmps := by decide

/-! internal/stringslite.Index -/
def A_stringslite_Index : AFn := ⟨(.seq (.region [⟨some 4, none, .mov (.c (.int .i64 0))⟩])
    (.seq (.region [⟨some 14, none, .mov (.t 1)⟩,
      ⟨some 15, none, .len true (.t 14)⟩,
      ⟨some 5, none, .mov (.t 15)⟩])
    (.seq (.block 0 (.seq (.region [⟨some 17, none, .mov (.t 5)⟩,
      ⟨some 18, none, .bin false .eql (.t 17) (.c (.int .i64 0))⟩,
      ⟨some 19, none, .mov (.t 18)⟩,
      ⟨some 20, some (19, false), .mov (.t 1)⟩,
      ⟨some 21, some (19, false), .mov (.t 0)⟩,
      ⟨some 22, some (19, false), .bin false .eql (.t 20) (.t 21)⟩,
      ⟨some 23, none, .pickb (.t 19) (.c (.bool true)) (.t 22)⟩,
      ⟨some 16, none, .mov (.t 23)⟩])
    (.cond (.t 16) (.seq (.region [⟨some 4, none, .mov (.c (.int .i64 0))⟩])
    .ret)
    (.seq (.region [⟨some 25, none, .mov (.t 5)⟩,
      ⟨some 26, none, .bin false .eql (.t 25) (.c (.int .i64 1))⟩,
      ⟨some 24, none, .mov (.t 26)⟩])
    (.cond (.t 24) (.seq (.region [⟨some 27, none, .mov (.t 0)⟩,
      ⟨some 28, none, .mov (.t 1)⟩,
      ⟨some 29, none, .idxS (.t 28) (.c (.int .i64 0))⟩,
      ⟨some 30, none, .call i_stringslite_IndexByte [.t 27, .t 29]⟩,
      ⟨some 4, none, .mov (.t 30)⟩])
    .ret)
    (.seq (.region [⟨some 32, none, .mov (.t 5)⟩,
      ⟨some 33, none, .mov (.t 0)⟩,
      ⟨some 34, none, .len true (.t 33)⟩,
      ⟨some 35, none, .bin false .geq (.t 32) (.t 34)⟩,
      ⟨some 31, none, .mov (.t 35)⟩])
    (.cond (.t 31) (.seq (.region [⟨some 4, none, .mov (.c (.int .i64 (-1)))⟩])
    .ret)
    (.seq (.region [⟨some 37, none, .mov (.t 5)⟩,
      ⟨some 38, none, .bad⟩,
      ⟨some 39, none, .bin false .leq (.t 37) (.t 38)⟩,
      ⟨some 40, none, .mov (.t 39)⟩,
      ⟨some 41, some (40, true), .mov (.t 0)⟩,
      ⟨some 42, some (40, true), .len true (.t 41)⟩,
      ⟨some 43, some (40, true), .bin false .leq (.t 42) (.c (.int .i64 64))⟩,
      ⟨some 44, none, .pickb (.t 40) (.t 43) (.c (.bool false))⟩,
      ⟨some 36, none, .mov (.t 44)⟩])
    (.cond (.t 36) (.seq (.region [⟨some 45, none, .mov (.t 0)⟩,
      ⟨some 46, none, .mov (.t 1)⟩,
      ⟨some 47, none, .bad⟩,
      ⟨some 4, none, .mov (.t 47)⟩])
    .ret)
    .skip)))))))))
    (.seq (.region [⟨some 48, none, .mov (.t 1)⟩,
      ⟨some 49, none, .idxS (.t 48) (.c (.int .i64 0))⟩,
      ⟨some 6, none, .mov (.t 49)⟩])
    (.seq (.region [⟨some 50, none, .mov (.t 1)⟩,
      ⟨some 51, none, .idxS (.t 50) (.c (.int .i64 1))⟩,
      ⟨some 7, none, .mov (.t 51)⟩])
    (.seq (.region [⟨some 8, none, .mov (.c (.int .i64 0))⟩])
    (.seq (.region [⟨some 52, none, .mov (.t 0)⟩,
      ⟨some 53, none, .len true (.t 52)⟩,
      ⟨some 54, none, .mov (.t 5)⟩,
      ⟨some 55, none, .bin false .sub (.t 53) (.t 54)⟩,
      ⟨some 56, none, .bin false .add (.t 55) (.c (.int .i64 1))⟩,
      ⟨some 9, none, .mov (.t 56)⟩])
    (.seq (.region [⟨some 10, none, .mov (.c (.int .i64 0))⟩])
    (.seq (.block 1 (.loop (.seq (.seq (.region [⟨some 57, none, .mov (.t 8)⟩,
      ⟨some 58, none, .mov (.t 9)⟩,
      ⟨some 59, none, .bin false .lss (.t 57) (.t 58)⟩])
    (.cond (.t 59) .skip
    (.exit 1)))
    (.block 2 (.seq (.seq (.region [⟨some 60, none, .mov (.t 0)⟩,
      ⟨some 61, none, .mov (.t 8)⟩,
      ⟨some 62, none, .idxS (.t 60) (.t 61)⟩,
      ⟨some 63, none, .mov (.t 6)⟩,
      ⟨some 64, none, .bin false .neq (.t 62) (.t 63)⟩])
    (.cond (.t 64) (.seq (.region [⟨some 65, none, .mov (.t 0)⟩,
      ⟨some 66, none, .mov (.t 8)⟩,
      ⟨some 67, none, .bin false .add (.t 66) (.c (.int .i64 1))⟩,
      ⟨some 68, none, .mov (.t 9)⟩,
      ⟨some 69, none, .slcS (.t 65) (some (.t 67)) (some (.t 68))⟩,
      ⟨some 70, none, .mov (.t 6)⟩,
      ⟨some 71, none, .call i_stringslite_IndexByte [.t 69, .t 70]⟩,
      ⟨some 11, none, .mov (.t 71)⟩])
    (.seq (.seq (.region [⟨some 72, none, .mov (.t 11)⟩,
      ⟨some 73, none, .bin false .lss (.t 72) (.c (.int .i64 0))⟩])
    (.cond (.t 73) (.seq (.region [⟨some 4, none, .mov (.c (.int .i64 (-1)))⟩])
    .ret)
    .skip))
    (.region [⟨some 74, none, .mov (.t 8)⟩,
      ⟨some 75, none, .mov (.t 11)⟩,
      ⟨some 76, none, .bin false .add (.t 75) (.c (.int .i64 1))⟩,
      ⟨some 77, none, .bin false .add (.t 74) (.t 76)⟩,
      ⟨some 8, none, .mov (.t 77)⟩])))
    .skip))
    (.seq (.seq (.region [⟨some 78, none, .mov (.t 0)⟩,
      ⟨some 79, none, .mov (.t 8)⟩,
      ⟨some 80, none, .bin false .add (.t 79) (.c (.int .i64 1))⟩,
      ⟨some 81, none, .idxS (.t 78) (.t 80)⟩,
      ⟨some 82, none, .mov (.t 7)⟩,
      ⟨some 83, none, .bin false .eql (.t 81) (.t 82)⟩,
      ⟨some 84, none, .mov (.t 83)⟩,
      ⟨some 85, some (84, true), .mov (.t 0)⟩,
      ⟨some 86, some (84, true), .mov (.t 8)⟩,
      ⟨some 87, some (84, true), .mov (.t 8)⟩,
      ⟨some 88, some (84, true), .mov (.t 5)⟩,
      ⟨some 89, some (84, true), .bin false .add (.t 87) (.t 88)⟩,
      ⟨some 90, some (84, true), .slcS (.t 85) (some (.t 86)) (some (.t 89))⟩,
      ⟨some 91, some (84, true), .mov (.t 1)⟩,
      ⟨some 92, some (84, true), .bin false .eql (.t 90) (.t 91)⟩,
      ⟨some 93, none, .pickb (.t 84) (.t 92) (.c (.bool false))⟩])
    (.cond (.t 93) (.seq (.region [⟨some 94, none, .mov (.t 8)⟩,
      ⟨some 4, none, .mov (.t 94)⟩])
    .ret)
    .skip))
    (.seq (.region [⟨some 95, none, .mov (.t 8)⟩,
      ⟨some 96, none, .bin false .add (.t 95) (.c (.int .i64 1))⟩,
      ⟨some 8, none, .mov (.t 96)⟩])
    (.seq (.region [⟨some 97, none, .mov (.t 10)⟩,
      ⟨some 98, none, .bin false .add (.t 97) (.c (.int .i64 1))⟩,
      ⟨some 10, none, .mov (.t 98)⟩])
    (.seq (.region [⟨some 99, none, .mov (.t 5)⟩,
      ⟨some 100, none, .bad⟩,
      ⟨some 101, none, .bin false .leq (.t 99) (.t 100)⟩,
      ⟨some 102, none, .mov (.t 101)⟩,
      ⟨some 103, some (102, true), .mov (.t 10)⟩,
      ⟨some 104, some (102, true), .mov (.t 8)⟩,
      ⟨some 105, some (102, true), .call i_bytealg_Cutover [.t 104]⟩,
      ⟨some 106, some (102, true), .bin false .gtr (.t 103) (.t 105)⟩,
      ⟨some 107, none, .pickb (.t 102) (.t 106) (.c (.bool false))⟩])
    (.cond (.t 107) (.seq (.region [⟨some 108, none, .mov (.t 0)⟩,
      ⟨some 109, none, .mov (.t 8)⟩,
      ⟨some 110, none, .slcS (.t 108) (some (.t 109)) none⟩,
      ⟨some 111, none, .mov (.t 1)⟩,
      ⟨some 112, none, .bad⟩,
      ⟨some 12, none, .mov (.t 112)⟩])
    (.seq (.seq (.region [⟨some 113, none, .mov (.t 12)⟩,
      ⟨some 114, none, .bin false .geq (.t 113) (.c (.int .i64 0))⟩])
    (.cond (.t 114) (.seq (.region [⟨some 115, none, .mov (.t 12)⟩,
      ⟨some 116, none, .mov (.t 8)⟩,
      ⟨some 117, none, .bin false .add (.t 115) (.t 116)⟩,
      ⟨some 4, none, .mov (.t 117)⟩])
    .ret)
    .skip))
    (.seq (.region [⟨some 4, none, .mov (.c (.int .i64 (-1)))⟩])
    .ret)))
    (.seq (.region [⟨some 118, none, .mov (.t 5)⟩,
      ⟨some 119, none, .bad⟩,
      ⟨some 120, none, .bin false .gtr (.t 118) (.t 119)⟩,
      ⟨some 121, none, .mov (.t 120)⟩,
      ⟨some 122, some (121, true), .mov (.t 10)⟩,
      ⟨some 123, some (121, true), .mov (.t 8)⟩,
      ⟨some 124, some (121, true), .bin false .shr (.t 123) (.c (.int .u64 4))⟩,
      ⟨some 125, some (121, true), .bin false .add (.c (.int .i64 4)) (.t 124)⟩,
      ⟨some 126, some (121, true), .bin false .geq (.t 122) (.t 125)⟩,
      ⟨some 127, none, .pickb (.t 121) (.t 126) (.c (.bool false))⟩,
      ⟨some 128, none, .mov (.t 127)⟩,
      ⟨some 129, some (128, true), .mov (.t 8)⟩,
      ⟨some 130, some (128, true), .mov (.t 9)⟩,
      ⟨some 131, some (128, true), .bin false .lss (.t 129) (.t 130)⟩,
      ⟨some 132, none, .pickb (.t 128) (.t 131) (.c (.bool false))⟩])
    (.cond (.t 132) (.seq (.region [⟨some 133, none, .mov (.t 0)⟩,
      ⟨some 134, none, .mov (.t 8)⟩,
      ⟨some 135, none, .slcS (.t 133) (some (.t 134)) none⟩,
      ⟨some 136, none, .mov (.t 1)⟩,
      ⟨some 137, none, .call i_bytealg_IndexRabinKarp_string [.t 135, .t 136]⟩,
      ⟨some 13, none, .mov (.t 137)⟩])
    (.seq (.seq (.region [⟨some 138, none, .mov (.t 13)⟩,
      ⟨some 139, none, .bin false .lss (.t 138) (.c (.int .i64 0))⟩])
    (.cond (.t 139) (.seq (.region [⟨some 4, none, .mov (.c (.int .i64 (-1)))⟩])
    .ret)
    .skip))
    (.seq (.region [⟨some 140, none, .mov (.t 8)⟩,
      ⟨some 141, none, .mov (.t 13)⟩,
      ⟨some 142, none, .bin false .add (.t 140) (.t 141)⟩,
      ⟨some 4, none, .mov (.t 142)⟩])
    .ret)))
    .skip))))))))))))
    (.seq (.region [⟨some 4, none, .mov (.c (.int .i64 (-1)))⟩])
    .ret)))))))))), [.tmp 4]⟩
theorem T_stringslite_Index : trFn Tryz.prog [] Tryz.f190 = some A_stringslite_Index := by kernel_rfl
theorem L_stringslite_Index : 2 ≤ Tryz.f190.ntmps := by decide

/-! cartouche/merge.grouped -/
def A_merge_grouped : AFn := ⟨(.seq (.region [⟨some 2, none, .mov (.c (.nilmap))⟩])
    (.seq (.region [⟨some 10, none, .mkmap 0 .str⟩,
      ⟨some 3, none, .mov (.t 10)⟩])
    (.seq (.seq (.region [⟨some 11, none, .mov (.t 0)⟩,
      ⟨some 12, none, .len false (.t 11)⟩,
      ⟨some 13, none, .mov (.c (.int .i64 0))⟩])
    (.block 0 (.loop (.seq (.region [⟨some 14, none, .bin false .lss (.t 13) (.t 12)⟩])
    (.seq (.cond (.t 14) .skip
    (.exit 0))
    (.seq (.block 1 (.seq (.region [⟨some 15, none, .idxA 1 (.t 11) (.t 13)⟩,
      ⟨some 16, none, .load 1 false (.t 15)⟩,
      ⟨some 5, none, .mov (.t 16)⟩])
    (.seq (.region [⟨some 18, none, .mov (.t 5)⟩,
      ⟨some 19, none, .call i_strings_Cut [.t 18, .c (.str ⟨#[46]⟩)]⟩,
      ⟨some 17, none, .mov (.t 19)⟩,
      ⟨some 20, none, .ext 0 (.t 17)⟩,
      ⟨some 21, none, .ext 1 (.t 17)⟩,
      ⟨some 22, none, .ext 2 (.t 17)⟩,
      ⟨some 6, none, .mov (.t 20)⟩,
      ⟨some 7, none, .mov (.t 21)⟩,
      ⟨some 8, none, .mov (.t 22)⟩])
    (.seq (.region [⟨some 23, none, .mov (.t 3)⟩,
      ⟨some 24, none, .mov (.t 6)⟩,
      ⟨some 25, none, .look .str (.agg [.bool false, .nil]) false (.t 23) (.t 24)⟩,
      ⟨some 9, none, .alloc 0 [.bool false, .nil]⟩,
      ⟨none, none, .store 2 (.t 9) (.t 25)⟩])
    (.seq (.seq (.region [⟨some 26, none, .mov (.t 8)⟩])
    (.cond (.t 26) (.region [⟨some 27, none, .fldA 1 1 false (.t 9)⟩,
      ⟨some 28, none, .load 1 false (.t 27)⟩,
      ⟨some 29, none, .mov (.t 7)⟩,
      ⟨some 30, none, .blit 0 9 1 [.t 29]⟩,
      ⟨some 31, none, .app 0 9 1 16 (.t 28) (.t 30)⟩,
      ⟨some 32, none, .fldA 1 1 false (.t 9)⟩,
      ⟨none, none, .storeS 1 (.t 32) (.t 31)⟩])
    (.region [⟨some 33, none, .fldA 0 1 false (.t 9)⟩,
      ⟨none, none, .store 1 (.t 33) (.c (.bool true))⟩])))
    (.region [⟨some 34, none, .mov (.t 3)⟩,
      ⟨some 35, none, .mov (.t 6)⟩,
      ⟨some 36, none, .load 2 true (.t 9)⟩,
      ⟨none, none, .mapset .str (.t 34) (.t 35) (.t 36)⟩]))))))
    (.region [⟨some 37, none, .bin false .add (.t 13) (.c (.int .i64 1))⟩,
      ⟨some 13, none, .mov (.t 37)⟩])))))))
    (.seq (.region [⟨some 38, none, .mov (.t 3)⟩,
      ⟨some 2, none, .mov (.t 38)⟩])
    .ret)))), [.tmp 2]⟩
theorem T_merge_grouped : trFn Tryz.prog [(6, [0, 0, 0, 1, 0]), (8, [0, 0, 0, 1, 0, 0, 904])] Tryz.f191 = some A_merge_grouped := by kernel_rfl
theorem L_merge_grouped : 1 ≤ Tryz.f191.ntmps := by decide

/-! cartouche/scalar.Wire -/
def A_scalar_Wire : AFn := ⟨(.seq (.region [⟨some 2, none, .mov (.c (.int .i64 0))⟩,
      ⟨some 3, none, .mov (.c (.int .i64 0))⟩])
    (.seq (.seq (.region [⟨some 4, none, .mov (.t 0)⟩])
    (.block 0 (.seq (.seq (.region [⟨some 6, none, .bin false .eql (.t 4) (.c (.int .i64 1))⟩,
      ⟨some 5, none, .mov (.t 6)⟩])
    (.cond (.t 5) .skip
    (.seq (.region [⟨some 7, none, .bin false .eql (.t 4) (.c (.int .i64 2))⟩,
      ⟨some 5, none, .mov (.t 7)⟩])
    (.cond (.t 5) .skip
    (.seq (.region [⟨some 8, none, .bin false .eql (.t 4) (.c (.int .i64 3))⟩,
      ⟨some 5, none, .mov (.t 8)⟩])
    (.cond (.t 5) .skip
    (.seq (.region [⟨some 9, none, .bin false .eql (.t 4) (.c (.int .i64 4))⟩,
      ⟨some 5, none, .mov (.t 9)⟩])
    (.cond (.t 5) .skip
    (.seq (.region [⟨some 10, none, .bin false .eql (.t 4) (.c (.int .i64 5))⟩,
      ⟨some 5, none, .mov (.t 10)⟩])
    (.cond (.t 5) .skip
    (.seq (.region [⟨some 11, none, .bin false .eql (.t 4) (.c (.int .i64 6))⟩,
      ⟨some 5, none, .mov (.t 11)⟩])
    (.cond (.t 5) .skip
    (.seq (.region [⟨some 12, none, .bin false .eql (.t 4) (.c (.int .i64 7))⟩,
      ⟨some 5, none, .mov (.t 12)⟩])
    (.cond (.t 5) .skip
    (.region [⟨some 13, none, .bin false .eql (.t 4) (.c (.int .i64 16))⟩,
      ⟨some 5, none, .mov (.t 13)⟩])))))))))))))))
    (.cond (.t 5) (.seq (.region [⟨some 2, none, .mov (.c (.int .i64 0))⟩,
      ⟨some 3, none, .mov (.c (.int .i64 0))⟩])
    .ret)
    (.seq (.seq (.region [⟨some 15, none, .bin false .eql (.t 4) (.c (.int .i64 8))⟩,
      ⟨some 14, none, .mov (.t 15)⟩])
    (.cond (.t 14) .skip
    (.seq (.region [⟨some 16, none, .bin false .eql (.t 4) (.c (.int .i64 10))⟩,
      ⟨some 14, none, .mov (.t 16)⟩])
    (.cond (.t 14) .skip
    (.region [⟨some 17, none, .bin false .eql (.t 4) (.c (.int .i64 12))⟩,
      ⟨some 14, none, .mov (.t 17)⟩])))))
    (.cond (.t 14) (.seq (.region [⟨some 2, none, .mov (.c (.int .i64 5))⟩,
      ⟨some 3, none, .mov (.c (.int .i64 0))⟩])
    .ret)
    (.seq (.seq (.region [⟨some 19, none, .bin false .eql (.t 4) (.c (.int .i64 9))⟩,
      ⟨some 18, none, .mov (.t 19)⟩])
    (.cond (.t 18) .skip
    (.seq (.region [⟨some 20, none, .bin false .eql (.t 4) (.c (.int .i64 11))⟩,
      ⟨some 18, none, .mov (.t 20)⟩])
    (.cond (.t 18) .skip
    (.region [⟨some 21, none, .bin false .eql (.t 4) (.c (.int .i64 13))⟩,
      ⟨some 18, none, .mov (.t 21)⟩])))))
    (.cond (.t 18) (.seq (.region [⟨some 2, none, .mov (.c (.int .i64 1))⟩,
      ⟨some 3, none, .mov (.c (.int .i64 0))⟩])
    .ret)
    (.seq (.seq (.region [⟨some 23, none, .bin false .eql (.t 4) (.c (.int .i64 14))⟩,
      ⟨some 22, none, .mov (.t 23)⟩])
    (.cond (.t 22) .skip
    (.seq (.region [⟨some 24, none, .bin false .eql (.t 4) (.c (.int .i64 15))⟩,
      ⟨some 22, none, .mov (.t 24)⟩])
    (.cond (.t 22) .skip
    (.region [⟨some 25, none, .bin false .eql (.t 4) (.c (.int .i64 17))⟩,
      ⟨some 22, none, .mov (.t 25)⟩])))))
    (.cond (.t 22) (.seq (.region [⟨some 2, none, .mov (.c (.int .i64 2))⟩,
      ⟨some 3, none, .mov (.c (.int .i64 0))⟩])
    .ret)
    .skip))))))))))
    (.seq (.region [⟨some 2, none, .mov (.c (.int .i64 0))⟩,
      ⟨some 3, none, .mov (.c (.int .i64 18))⟩])
    .ret))), [.tmp 2, .tmp 3]⟩
theorem T_scalar_Wire : trFn Tryz.prog [] Tryz.f196 = some A_scalar_Wire := by kernel_rfl
theorem L_scalar_Wire : 1 ≤ Tryz.f196.ntmps := by decide

/-! cartouche/table.goodName -/
def A_table_goodName : AFn := ⟨(.seq (.region [⟨some 3, none, .box 0 (.t 0)⟩,
      ⟨some 6, none, .mov (.c (.bool false))⟩])
    (.seq (.region [⟨some 14, none, .fldA 0 1 false (.t 3)⟩,
      ⟨some 15, none, .load 1 false (.t 14)⟩,
      ⟨some 16, none, .mov (.t 1)⟩,
      ⟨some 17, none, .idxA 6 (.t 15) (.t 16)⟩,
      ⟨some 18, none, .load 6 true (.t 17)⟩,
      ⟨some 7, none, .alloc 0 [.str ⟨#[]⟩, .bool false, .nil, .nil, .nil, .nil]⟩,
      ⟨none, none, .store 6 (.t 7) (.t 18)⟩])
    (.seq (.region [⟨some 19, none, .fldA 0 1 false (.t 7)⟩,
      ⟨some 20, none, .load 1 false (.t 19)⟩,
      ⟨some 21, none, .call i_strings_Split [.t 20, .c (.str ⟨#[46]⟩)]⟩,
      ⟨some 8, none, .mov (.t 21)⟩])
    (.seq (.region [⟨some 9, none, .mov (.c (.int .i64 8))⟩])
    (.seq (.seq (.region [⟨some 22, none, .fldA 1 1 false (.t 7)⟩,
      ⟨some 23, none, .load 1 false (.t 22)⟩])
    (.cond (.t 23) (.region [⟨some 24, none, .mov (.t 9)⟩,
      ⟨some 25, none, .bin false .add (.t 24) (.c (.int .i64 1))⟩,
      ⟨some 9, none, .mov (.t 25)⟩])
    .skip))
    (.seq (.seq (.region [⟨some 26, none, .mov (.t 8)⟩,
      ⟨some 27, none, .len false (.t 26)⟩,
      ⟨some 28, none, .mov (.t 9)⟩,
      ⟨some 29, none, .bin false .gtr (.t 27) (.t 28)⟩])
    (.cond (.t 29) (.seq (.region [⟨some 6, none, .mov (.c (.bool false))⟩])
    .ret)
    .skip))
    (.seq (.seq (.region [⟨some 30, none, .mov (.t 8)⟩,
      ⟨some 31, none, .len false (.t 30)⟩,
      ⟨some 32, none, .mov (.c (.int .i64 0))⟩])
    (.block 0 (.loop (.seq (.region [⟨some 33, none, .bin false .lss (.t 32) (.t 31)⟩])
    (.seq (.cond (.t 33) .skip
    (.exit 0))
    (.seq (.block 1 (.seq (.region [⟨some 34, none, .idxA 1 (.t 30) (.t 32)⟩,
      ⟨some 35, none, .load 1 false (.t 34)⟩,
      ⟨some 11, none, .mov (.t 35)⟩])
    (.seq (.region [⟨some 36, none, .mov (.t 11)⟩,
      ⟨some 37, none, .call i_lex_IsName [.t 36]⟩,
      ⟨some 38, none, .un .not (.t 37)⟩])
    (.cond (.t 38) (.seq (.region [⟨some 6, none, .mov (.c (.bool false))⟩])
    .ret)
    .skip))))
    (.region [⟨some 39, none, .bin false .add (.t 32) (.c (.int .i64 1))⟩,
      ⟨some 32, none, .mov (.t 39)⟩])))))))
    (.seq (.seq (.region [⟨some 40, none, .mov (.t 8)⟩,
      ⟨some 41, none, .len false (.t 40)⟩,
      ⟨some 42, none, .bin false .eql (.t 41) (.c (.int .i64 1))⟩])
    (.cond (.t 42) (.seq (.region [⟨some 6, none, .mov (.c (.bool true))⟩])
    .ret)
    .skip))
    (.seq (.region [⟨some 44, none, .mov (.t 2)⟩,
      ⟨some 45, none, .mov (.t 8)⟩,
      ⟨some 46, none, .mov (.t 8)⟩,
      ⟨some 47, none, .len false (.t 46)⟩,
      ⟨some 48, none, .bin false .sub (.t 47) (.c (.int .i64 1))⟩,
      ⟨some 49, none, .slc 1 (.t 45) none (some (.t 48)) none⟩,
      ⟨some 50, none, .call i_strings_Join [.t 49, .c (.str ⟨#[46]⟩)]⟩,
      ⟨some 51, none, .look .str (.int .i64 0) true (.t 44) (.t 50)⟩,
      ⟨some 43, none, .mov (.t 51)⟩,
      ⟨some 52, none, .ext 0 (.t 43)⟩,
      ⟨some 53, none, .ext 1 (.t 43)⟩,
      ⟨some 12, none, .mov (.t 52)⟩,
      ⟨some 13, none, .mov (.t 53)⟩])
    (.seq (.region [⟨some 54, none, .mov (.t 13)⟩,
      ⟨some 55, none, .mov (.t 54)⟩,
      ⟨some 56, some (55, true), .fldA 0 1 false (.t 3)⟩,
      ⟨some 57, some (55, true), .load 1 false (.t 56)⟩,
      ⟨some 58, some (55, true), .mov (.t 12)⟩,
      ⟨some 59, some (55, true), .idxA 6 (.t 57) (.t 58)⟩,
      ⟨some 60, some (55, true), .fldA 1 1 false (.t 59)⟩,
      ⟨some 61, some (55, true), .load 1 false (.t 60)⟩,
      ⟨some 62, some (55, true), .un .not (.t 61)⟩,
      ⟨some 63, none, .pickb (.t 55) (.t 62) (.c (.bool false))⟩,
      ⟨some 6, none, .mov (.t 63)⟩])
    .ret)))))))))), [.tmp 6]⟩
theorem T_table_goodName : trFn Tryz.prog [(0, [1, 0]), (1, [0, 0, 0, 0, 0, 1, 0])] Tryz.f201 = some A_table_goodName := by kernel_rfl
theorem L_table_goodName : 3 ≤ Tryz.f201.ntmps := by decide

/-! cartouche/table.goodEnum -/
def A_table_goodEnum : AFn := ⟨(.seq (.region [⟨some 1, none, .box 0 (.t 0)⟩,
      ⟨some 2, none, .mov (.c (.bool false))⟩])
    (.seq (.seq (.region [⟨some 7, none, .fldA 4 1 false (.t 1)⟩,
      ⟨some 8, none, .load 1 false (.t 7)⟩,
      ⟨some 9, none, .len false (.t 8)⟩,
      ⟨some 10, none, .bin false .lss (.t 9) (.c (.int .i64 1))⟩,
      ⟨some 11, none, .mov (.t 10)⟩,
      ⟨some 12, some (11, false), .fldA 4 1 false (.t 1)⟩,
      ⟨some 13, some (11, false), .load 1 false (.t 12)⟩,
      ⟨some 14, some (11, false), .len false (.t 13)⟩,
      ⟨some 15, some (11, false), .bin false .gtr (.t 14) (.c (.int .i64 128))⟩,
      ⟨some 16, none, .pickb (.t 11) (.c (.bool true)) (.t 15)⟩,
      ⟨some 17, none, .mov (.t 16)⟩,
      ⟨some 18, some (17, false), .fldA 4 1 false (.t 1)⟩,
      ⟨some 19, some (17, false), .load 1 false (.t 18)⟩,
      ⟨some 20, some (17, false), .idxA 2 (.t 19) (.c (.int .i64 0))⟩,
      ⟨some 21, some (17, false), .fldA 1 1 false (.t 20)⟩,
      ⟨some 22, some (17, false), .load 1 false (.t 21)⟩,
      ⟨some 23, some (17, false), .bin false .neq (.t 22) (.c (.int .i64 0))⟩,
      ⟨some 24, none, .pickb (.t 17) (.c (.bool true)) (.t 23)⟩,
      ⟨some 25, none, .mov (.t 24)⟩,
      ⟨some 26, some (25, false), .fldA 2 1 false (.t 1)⟩,
      ⟨some 27, some (25, false), .load 1 false (.t 26)⟩,
      ⟨some 28, some (25, false), .len false (.t 27)⟩,
      ⟨some 29, some (25, false), .fldA 3 1 false (.t 1)⟩,
      ⟨some 30, some (25, false), .load 1 false (.t 29)⟩,
      ⟨some 31, some (25, false), .len false (.t 30)⟩,
      ⟨some 32, some (25, false), .bin false .add (.t 28) (.t 31)⟩,
      ⟨some 33, some (25, false), .fldA 5 1 false (.t 1)⟩,
      ⟨some 34, some (25, false), .load 1 false (.t 33)⟩,
      ⟨some 35, some (25, false), .len false (.t 34)⟩,
      ⟨some 36, some (25, false), .bin false .add (.t 32) (.t 35)⟩,
      ⟨some 37, some (25, false), .bin false .gtr (.t 36) (.c (.int .i64 0))⟩,
      ⟨some 38, none, .pickb (.t 25) (.c (.bool true)) (.t 37)⟩])
    (.cond (.t 38) (.seq (.region [⟨some 2, none, .mov (.c (.bool false))⟩])
    .ret)
    .skip))
    (.seq (.region [⟨some 39, none, .mkmap 0 .str⟩,
      ⟨some 40, none, .mkmap 0 (.int .i64)⟩,
      ⟨some 3, none, .mov (.t 39)⟩,
      ⟨some 4, none, .mov (.t 40)⟩])
    (.seq (.seq (.region [⟨some 41, none, .fldA 4 1 false (.t 1)⟩,
      ⟨some 42, none, .load 1 false (.t 41)⟩,
      ⟨some 43, none, .len false (.t 42)⟩,
      ⟨some 44, none, .mov (.c (.int .i64 0))⟩])
    (.block 0 (.loop (.seq (.region [⟨some 45, none, .bin false .lss (.t 44) (.t 43)⟩])
    (.seq (.cond (.t 45) .skip
    (.exit 0))
    (.seq (.block 1 (.seq (.region [⟨some 46, none, .idxA 2 (.t 42) (.t 44)⟩,
      ⟨some 47, none, .load 2 true (.t 46)⟩,
      ⟨some 6, none, .alloc 0 [.str ⟨#[]⟩, .int .i64 0]⟩,
      ⟨none, none, .store 2 (.t 6) (.t 47)⟩])
    (.seq (.seq (.region [⟨some 48, none, .fldA 0 1 false (.t 6)⟩,
      ⟨some 49, none, .load 1 false (.t 48)⟩,
      ⟨some 50, none, .call i_lex_IsName [.t 49]⟩,
      ⟨some 51, none, .un .not (.t 50)⟩,
      ⟨some 52, none, .mov (.t 51)⟩,
      ⟨some 53, some (52, false), .mov (.t 3)⟩,
      ⟨some 54, some (52, false), .fldA 0 1 false (.t 6)⟩,
      ⟨some 55, some (52, false), .load 1 false (.t 54)⟩,
      ⟨some 56, some (52, false), .call i_table_named_add [.t 53, .t 55]⟩,
      ⟨some 57, some (52, false), .un .not (.t 56)⟩,
      ⟨some 58, none, .pickb (.t 52) (.c (.bool true)) (.t 57)⟩,
      ⟨some 59, none, .mov (.t 58)⟩,
      ⟨some 60, some (59, false), .fldA 1 1 false (.t 6)⟩,
      ⟨some 61, some (59, false), .load 1 false (.t 60)⟩,
      ⟨some 62, some (59, false), .bin false .lss (.t 61) (.c (.int .i64 0))⟩,
      ⟨some 63, none, .pickb (.t 59) (.c (.bool true)) (.t 62)⟩,
      ⟨some 64, none, .mov (.t 63)⟩,
      ⟨some 65, some (64, false), .fldA 1 1 false (.t 6)⟩,
      ⟨some 66, some (64, false), .load 1 false (.t 65)⟩,
      ⟨some 67, some (64, false), .bin false .gtr (.t 66) (.c (.int .i64 2147483647))⟩,
      ⟨some 68, none, .pickb (.t 64) (.c (.bool true)) (.t 67)⟩])
    (.cond (.t 68) (.seq (.region [⟨some 2, none, .mov (.c (.bool false))⟩])
    .ret)
    .skip))
    (.region [⟨some 69, none, .mov (.t 4)⟩,
      ⟨some 70, none, .fldA 1 1 false (.t 6)⟩,
      ⟨some 71, none, .load 1 false (.t 70)⟩,
      ⟨some 72, none, .build [] []⟩,
      ⟨none, none, .mapset (.int .i64) (.t 69) (.t 71) (.t 72)⟩]))))
    (.region [⟨some 73, none, .bin false .add (.t 44) (.c (.int .i64 1))⟩,
      ⟨some 44, none, .mov (.t 73)⟩])))))))
    (.seq (.region [⟨some 74, none, .mov (.t 4)⟩,
      ⟨some 75, none, .lenm (.t 74)⟩,
      ⟨some 76, none, .fldA 4 1 false (.t 1)⟩,
      ⟨some 77, none, .load 1 false (.t 76)⟩,
      ⟨some 78, none, .len false (.t 77)⟩,
      ⟨some 79, none, .bin false .eql (.t 75) (.t 78)⟩,
      ⟨some 2, none, .mov (.t 79)⟩])
    .ret))))), [.tmp 2]⟩
theorem T_table_goodEnum : trFn Tryz.prog [(0, [1, 0]), (6, [0, 0, 1, 0])] Tryz.f202 = some A_table_goodEnum := by kernel_rfl
theorem L_table_goodEnum : 1 ≤ Tryz.f202.ntmps := by decide

end Go.Proofs.YtdlgenppdgkacaaGreatDoor.Ag
