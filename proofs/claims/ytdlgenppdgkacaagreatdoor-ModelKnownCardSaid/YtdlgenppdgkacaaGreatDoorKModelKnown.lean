/- The closed law ModelKnown, evaluated without memory. -/
import Derived.Test.YtdlgenppdgkacaaGreatDoorProg
import Derived.Test.YtdlgenppdgkacaaGreatDoorKnBase
set_option maxRecDepth 100000
namespace Go.Proofs.YtdlgenppdgkacaaGreatDoor.Ag
set_option maxRecDepth 100000
abbrev i_cartouchelaw8_ModelKnown : FuncId := 3
theorem F_cartouchelaw8_ModelKnown : Tryz.prog.funcs[i_cartouchelaw8_ModelKnown]? = some Tryz.f3 := Tryz.func3
abbrev i_cartouchelaw8_awake : FuncId := 9
theorem F_cartouchelaw8_awake : Tryz.prog.funcs[i_cartouchelaw8_awake]? = some Tryz.f9 := Tryz.func9
abbrev i_cartouchelaw8_typed : FuncId := 10
theorem F_cartouchelaw8_typed : Tryz.prog.funcs[i_cartouchelaw8_typed]? = some Tryz.f10 := Tryz.func10
abbrev i_cartouchelaw8_msg : FuncId := 11
theorem F_cartouchelaw8_msg : Tryz.prog.funcs[i_cartouchelaw8_msg]? = some Tryz.f11 := Tryz.func11
abbrev i_cartouchelaw8_n : FuncId := 12
theorem F_cartouchelaw8_n : Tryz.prog.funcs[i_cartouchelaw8_n]? = some Tryz.f12 := Tryz.func12
abbrev i_cartouchelaw8_normal : FuncId := 13
theorem F_cartouchelaw8_normal : Tryz.prog.funcs[i_cartouchelaw8_normal]? = some Tryz.f13 := Tryz.func13
abbrev i_cartouchelaw8_in : FuncId := 14
theorem F_cartouchelaw8_in : Tryz.prog.funcs[i_cartouchelaw8_in]? = some Tryz.f14 := Tryz.func14
abbrev i_model_Settle : FuncId := 15
theorem F_model_Settle : Tryz.prog.funcs[i_model_Settle]? = some Tryz.f15 := Tryz.func15
abbrev i_cartouchelaw7_Simple : FuncId := 16
theorem F_cartouchelaw7_Simple : Tryz.prog.funcs[i_cartouchelaw7_Simple]? = some Tryz.f16 := Tryz.func16
abbrev i_model_Depth : FuncId := 17
theorem F_model_Depth : Tryz.prog.funcs[i_model_Depth]? = some Tryz.f17 := Tryz.func17
abbrev i_cartoucheref8_Empty : FuncId := 18
theorem F_cartoucheref8_Empty : Tryz.prog.funcs[i_cartoucheref8_Empty]? = some Tryz.f18 := Tryz.func18
abbrev i_model_Equal : FuncId := 64
theorem F_model_Equal : Tryz.prog.funcs[i_model_Equal]? = some Tryz.f64 := Tryz.func64
abbrev i_model_Typed : FuncId := 65
theorem F_model_Typed : Tryz.prog.funcs[i_model_Typed]? = some Tryz.f65 := Tryz.func65
abbrev i_model_Normal : FuncId := 66
theorem F_model_Normal : Tryz.prog.funcs[i_model_Normal]? = some Tryz.f66 := Tryz.func66
abbrev i_model_settled : FuncId := 67
theorem F_model_settled : Tryz.prog.funcs[i_model_settled]? = some Tryz.f67 := Tryz.func67
abbrev i_model_Copy : FuncId := 68
theorem F_model_Copy : Tryz.prog.funcs[i_model_Copy]? = some Tryz.f68 := Tryz.func68
abbrev i_bytes_Equal : FuncId := 103
theorem F_bytes_Equal : Tryz.prog.funcs[i_bytes_Equal]? = some Tryz.f103 := Tryz.func103
abbrev i_wire_PutVarint : FuncId := 104
theorem F_wire_PutVarint : Tryz.prog.funcs[i_wire_PutVarint]? = some Tryz.f104 := Tryz.func104
abbrev i_slices_EqualFunc_api_Field_api_Field_api_Field_api_Field : FuncId := 115
theorem F_slices_EqualFunc_api_Field_api_Field_api_Field_api_Field : Tryz.prog.funcs[i_slices_EqualFunc_api_Field_api_Field_api_Field_api_Field]? = some Tryz.f115 := Tryz.func115
abbrev i_model_Equal_1 : FuncId := 116
theorem F_model_Equal_1 : Tryz.prog.funcs[i_model_Equal_1]? = some Tryz.f116 := Tryz.func116
abbrev i_slices_EqualFunc_api_Val_api_Val_api_Val_api_Val : FuncId := 117
theorem F_slices_EqualFunc_api_Val_api_Val_api_Val_api_Val : Tryz.prog.funcs[i_slices_EqualFunc_api_Val_api_Val_api_Val_api_Val]? = some Tryz.f117 := Tryz.func117
abbrev i_model_equalVal : FuncId := 118
theorem F_model_equalVal : Tryz.prog.funcs[i_model_equalVal]? = some Tryz.f118 := Tryz.func118
abbrev i_slices_EqualFunc_api_Entry_api_Entry_api_Entry_api_Entry : FuncId := 119
theorem F_slices_EqualFunc_api_Entry_api_Entry_api_Entry_api_Entry : Tryz.prog.funcs[i_slices_EqualFunc_api_Entry_api_Entry_api_Entry_api_Entry]? = some Tryz.f119 := Tryz.func119
abbrev i_model_Equal_2 : FuncId := 120
theorem F_model_Equal_2 : Tryz.prog.funcs[i_model_Equal_2]? = some Tryz.f120 := Tryz.func120
abbrev i_table_IsMessage : FuncId := 121
theorem F_table_IsMessage : Tryz.prog.funcs[i_table_IsMessage]? = some Tryz.f121 := Tryz.func121
abbrev i_model_typed : FuncId := 122
theorem F_model_typed : Tryz.prog.funcs[i_model_typed]? = some Tryz.f122 := Tryz.func122
abbrev i_model_normal : FuncId := 123
theorem F_model_normal : Tryz.prog.funcs[i_model_normal]? = some Tryz.f123 := Tryz.func123
abbrev i_slices_DeleteFunc_api_Field_api_Field : FuncId := 124
theorem F_slices_DeleteFunc_api_Field_api_Field : Tryz.prog.funcs[i_slices_DeleteFunc_api_Field_api_Field]? = some Tryz.f124 := Tryz.func124
abbrev i_model_settled_1 : FuncId := 125
theorem F_model_settled_1 : Tryz.prog.funcs[i_model_settled_1]? = some Tryz.f125 := Tryz.func125
abbrev i_table_At : FuncId := 126
theorem F_table_At : Tryz.prog.funcs[i_table_At]? = some Tryz.f126 := Tryz.func126
abbrev i_model_told : FuncId := 127
theorem F_model_told : Tryz.prog.funcs[i_model_told]? = some Tryz.f127 := Tryz.func127
abbrev i_slices_DeleteFunc_api_Entry_api_Entry : FuncId := 128
theorem F_slices_DeleteFunc_api_Entry_api_Entry : Tryz.prog.funcs[i_slices_DeleteFunc_api_Entry_api_Entry]? = some Tryz.f128 := Tryz.func128
abbrev i_model_settled_2 : FuncId := 129
theorem F_model_settled_2 : Tryz.prog.funcs[i_model_settled_2]? = some Tryz.f129 := Tryz.func129
abbrev i_model_Taken : FuncId := 130
theorem F_model_Taken : Tryz.prog.funcs[i_model_Taken]? = some Tryz.f130 := Tryz.func130
abbrev i_model_each_api_Field : FuncId := 131
theorem F_model_each_api_Field : Tryz.prog.funcs[i_model_each_api_Field]? = some Tryz.f131 := Tryz.func131
abbrev i_model_CopyField : FuncId := 132
theorem F_model_CopyField : Tryz.prog.funcs[i_model_CopyField]? = some Tryz.f132 := Tryz.func132
abbrev i_model_each_api_Entry : FuncId := 133
theorem F_model_each_api_Entry : Tryz.prog.funcs[i_model_each_api_Entry]? = some Tryz.f133 := Tryz.func133
abbrev i_model_CopyEntry : FuncId := 134
theorem F_model_CopyEntry : Tryz.prog.funcs[i_model_CopyEntry]? = some Tryz.f134 := Tryz.func134
abbrev i_slices_IndexFunc_api_Field_api_Field : FuncId := 138
theorem F_slices_IndexFunc_api_Field_api_Field : Tryz.prog.funcs[i_slices_IndexFunc_api_Field_api_Field]? = some Tryz.f138 := Tryz.func138
abbrev i_table_Good : FuncId := 145
theorem F_table_Good : Tryz.prog.funcs[i_table_Good]? = some Tryz.f145 := Tryz.func145
abbrev i_wire_PutEntry : FuncId := 160
theorem F_wire_PutEntry : Tryz.prog.funcs[i_wire_PutEntry]? = some Tryz.f160 := Tryz.func160
abbrev i_wire_varint : FuncId := 163
theorem F_wire_varint : Tryz.prog.funcs[i_wire_varint]? = some Tryz.f163 := Tryz.func163
abbrev i_wire_Size : FuncId := 164
theorem F_wire_Size : Tryz.prog.funcs[i_wire_Size]? = some Tryz.f164 := Tryz.func164
abbrev i_wire_word : FuncId := 165
theorem F_wire_word : Tryz.prog.funcs[i_wire_word]? = some Tryz.f165 := Tryz.func165
abbrev i_slices_EqualFunc_api_Msg_api_Msg_api_Msg_api_Msg : FuncId := 171
theorem F_slices_EqualFunc_api_Msg_api_Msg_api_Msg_api_Msg : Tryz.prog.funcs[i_slices_EqualFunc_api_Msg_api_Msg_api_Msg_api_Msg]? = some Tryz.f171 := Tryz.func171
abbrev i_table_sort : FuncId := 172
theorem F_table_sort : Tryz.prog.funcs[i_table_sort]? = some Tryz.f172 := Tryz.func172
abbrev i_model_typedField : FuncId := 173
theorem F_model_typedField : Tryz.prog.funcs[i_model_typedField]? = some Tryz.f173 := Tryz.func173
abbrev i_slices_ContainsFunc_api_Val_api_Val : FuncId := 174
theorem F_slices_ContainsFunc_api_Val_api_Val : Tryz.prog.funcs[i_slices_ContainsFunc_api_Val_api_Val]? = some Tryz.f174 := Tryz.func174
abbrev i_model_normal_1 : FuncId := 175
theorem F_model_normal_1 : Tryz.prog.funcs[i_model_normal_1]? = some Tryz.f175 := Tryz.func175
abbrev i_slices_ContainsFunc_api_Entry_api_Entry : FuncId := 176
theorem F_slices_ContainsFunc_api_Entry_api_Entry : Tryz.prog.funcs[i_slices_ContainsFunc_api_Entry_api_Entry]? = some Tryz.f176 := Tryz.func176
abbrev i_model_normal_2 : FuncId := 177
theorem F_model_normal_2 : Tryz.prog.funcs[i_model_normal_2]? = some Tryz.f177 := Tryz.func177
abbrev i_model_Nothing : FuncId := 178
theorem F_model_Nothing : Tryz.prog.funcs[i_model_Nothing]? = some Tryz.f178 := Tryz.func178
abbrev i_slices_IndexFunc_api_Entry_api_Entry : FuncId := 179
theorem F_slices_IndexFunc_api_Entry_api_Entry : Tryz.prog.funcs[i_slices_IndexFunc_api_Entry_api_Entry]? = some Tryz.f179 := Tryz.func179
abbrev i_table_How : FuncId := 180
theorem F_table_How : Tryz.prog.funcs[i_table_How]? = some Tryz.f180 := Tryz.func180
abbrev i_model_each_api_Val : FuncId := 181
theorem F_model_each_api_Val : Tryz.prog.funcs[i_model_each_api_Val]? = some Tryz.f181 := Tryz.func181
abbrev i_model_CopyVal : FuncId := 182
theorem F_model_CopyVal : Tryz.prog.funcs[i_model_CopyVal]? = some Tryz.f182 := Tryz.func182
abbrev i_model_list : FuncId := 183
theorem F_model_list : Tryz.prog.funcs[i_model_list]? = some Tryz.f183 := Tryz.func183
abbrev i_table_Wire : FuncId := 192
theorem F_table_Wire : Tryz.prog.funcs[i_table_Wire]? = some Tryz.f192 := Tryz.func192
abbrev i_scalar_Wire : FuncId := 196
theorem F_scalar_Wire : Tryz.prog.funcs[i_scalar_Wire]? = some Tryz.f196 := Tryz.func196
abbrev i_table_goodName : FuncId := 201
theorem F_table_goodName : Tryz.prog.funcs[i_table_goodName]? = some Tryz.f201 := Tryz.func201
abbrev i_table_goodEnum : FuncId := 202
theorem F_table_goodEnum : Tryz.prog.funcs[i_table_goodEnum]? = some Tryz.f202 := Tryz.func202
abbrev i_table_goodMessage : FuncId := 203
theorem F_table_goodMessage : Tryz.prog.funcs[i_table_goodMessage]? = some Tryz.f203 := Tryz.func203
abbrev i_wire_PutTag : FuncId := 207
theorem F_wire_PutTag : Tryz.prog.funcs[i_wire_PutTag]? = some Tryz.f207 := Tryz.func207
abbrev i_bits_Len64 : FuncId := 211
theorem F_bits_Len64 : Tryz.prog.funcs[i_bits_Len64]? = some Tryz.f211 := Tryz.func211
abbrev i_model_typedVal : FuncId := 216
theorem F_model_typedVal : Tryz.prog.funcs[i_model_typedVal]? = some Tryz.f216 := Tryz.func216
abbrev i_scalar_Compare : FuncId := 217
theorem F_scalar_Compare : Tryz.prog.funcs[i_scalar_Compare]? = some Tryz.f217 := Tryz.func217
abbrev i_model_typedField_1 : FuncId := 218
theorem F_model_typedField_1 : Tryz.prog.funcs[i_model_typedField_1]? = some Tryz.f218 := Tryz.func218
abbrev i_slices_IndexFunc_api_Val_api_Val : FuncId := 219
theorem F_slices_IndexFunc_api_Val_api_Val : Tryz.prog.funcs[i_slices_IndexFunc_api_Val_api_Val]? = some Tryz.f219 := Tryz.func219
abbrev i_table_HasRow : FuncId := 220
theorem F_table_HasRow : Tryz.prog.funcs[i_table_HasRow]? = some Tryz.f220 := Tryz.func220
abbrev i_model_each_api_Msg : FuncId := 221
theorem F_model_each_api_Msg : Tryz.prog.funcs[i_model_each_api_Msg]? = some Tryz.f221 := Tryz.func221
abbrev i_strings_Split : FuncId := 243
theorem F_strings_Split : Tryz.prog.funcs[i_strings_Split]? = some Tryz.f243 := Tryz.func243
abbrev i_lex_IsName : FuncId := 244
theorem F_lex_IsName : Tryz.prog.funcs[i_lex_IsName]? = some Tryz.f244 := Tryz.func244
abbrev i_table_named_add : FuncId := 246
theorem F_table_named_add : Tryz.prog.funcs[i_table_named_add]? = some Tryz.f246 := Tryz.func246
abbrev i_table_reserved : FuncId := 247
theorem F_table_reserved : Tryz.prog.funcs[i_table_reserved]? = some Tryz.f247 := Tryz.func247
abbrev i_table_goodField : FuncId := 248
theorem F_table_goodField : Tryz.prog.funcs[i_table_goodField]? = some Tryz.f248 := Tryz.func248
abbrev i_wire_isKind : FuncId := 251
theorem F_wire_isKind : Tryz.prog.funcs[i_wire_isKind]? = some Tryz.f251 := Tryz.func251
abbrev i_scalar_Fits : FuncId := 256
theorem F_scalar_Fits : Tryz.prog.funcs[i_scalar_Fits]? = some Tryz.f256 := Tryz.func256
abbrev i_table_SymbolAt : FuncId := 257
theorem F_table_SymbolAt : Tryz.prog.funcs[i_table_SymbolAt]? = some Tryz.f257 := Tryz.func257
abbrev i_quote_Valid : FuncId := 258
theorem F_quote_Valid : Tryz.prog.funcs[i_quote_Valid]? = some Tryz.f258 := Tryz.func258
abbrev i_scalar_IsKey : FuncId := 259
theorem F_scalar_IsKey : Tryz.prog.funcs[i_scalar_IsKey]? = some Tryz.f259 := Tryz.func259
abbrev i_bytes_Compare : FuncId := 260
theorem F_bytes_Compare : Tryz.prog.funcs[i_bytes_Compare]? = some Tryz.f260 := Tryz.func260
abbrev i_scalar_signed : FuncId := 261
theorem F_scalar_signed : Tryz.prog.funcs[i_scalar_signed]? = some Tryz.f261 := Tryz.func261
abbrev i_cmp_Compare_int64 : FuncId := 262
theorem F_cmp_Compare_int64 : Tryz.prog.funcs[i_cmp_Compare_int64]? = some Tryz.f262 := Tryz.func262
abbrev i_cmp_Compare_uint64 : FuncId := 263
theorem F_cmp_Compare_uint64 : Tryz.prog.funcs[i_cmp_Compare_uint64]? = some Tryz.f263 := Tryz.func263
abbrev i_scalar_Numeric : FuncId := 264
theorem F_scalar_Numeric : Tryz.prog.funcs[i_scalar_Numeric]? = some Tryz.f264 := Tryz.func264
abbrev i_strings_genSplit : FuncId := 275
theorem F_strings_genSplit : Tryz.prog.funcs[i_strings_genSplit]? = some Tryz.f275 := Tryz.func275
abbrev i_lex_letter : FuncId := 276
theorem F_lex_letter : Tryz.prog.funcs[i_lex_letter]? = some Tryz.f276 := Tryz.func276
abbrev i_lex_named : FuncId := 277
theorem F_lex_named : Tryz.prog.funcs[i_lex_named]? = some Tryz.f277 := Tryz.func277
abbrev i_scalar_known : FuncId := 296
theorem F_scalar_known : Tryz.prog.funcs[i_scalar_known]? = some Tryz.f296 := Tryz.func296
abbrev i_scalar_holds : FuncId := 297
theorem F_scalar_holds : Tryz.prog.funcs[i_scalar_holds]? = some Tryz.f297 := Tryz.func297
abbrev i_utf8_Valid : FuncId := 298
theorem F_utf8_Valid : Tryz.prog.funcs[i_utf8_Valid]? = some Tryz.f298 := Tryz.func298
abbrev i_bytealg_Compare : FuncId := 299
theorem F_bytealg_Compare : Tryz.prog.funcs[i_bytealg_Compare]? = some Tryz.f299 := Tryz.func299
abbrev i_cmp_isNaN_int64 : FuncId := 300
theorem F_cmp_isNaN_int64 : Tryz.prog.funcs[i_cmp_isNaN_int64]? = some Tryz.f300 := Tryz.func300
abbrev i_cmp_isNaN_uint64 : FuncId := 301
theorem F_cmp_isNaN_uint64 : Tryz.prog.funcs[i_cmp_isNaN_uint64]? = some Tryz.f301 := Tryz.func301
abbrev i_lex_digit : FuncId := 307
theorem F_lex_digit : Tryz.prog.funcs[i_lex_digit]? = some Tryz.f307 := Tryz.func307
abbrev i_utf8_word_byte : FuncId := 326
theorem F_utf8_word_byte : Tryz.prog.funcs[i_utf8_word_byte]? = some Tryz.f326 := Tryz.func326

abbrev i_strings_Join : FuncId := 245
abbrev i_strings_explode : FuncId := 304
abbrev i_strings_Count : FuncId := 305
abbrev i_strings_Index : FuncId := 306
/-! cartouche/cartouchelaw8.ModelKnown -/
def A_cartouchelaw8_ModelKnown : AFn := ⟨(.seq (.region [⟨some 0, none, .mov (.c (.bool false))⟩])
    (.seq (.region [⟨some 5, none, .build [.int .u64 0, .nil, .nil] [(0, 1, .c (.int .u64 1))]⟩,
      ⟨some 6, none, .build [.int .u64 0, .nil, .nil] [(0, 1, .c (.int .u64 2))]⟩,
      ⟨some 7, none, .blit 0 26 3 [.t 5, .t 6]⟩,
      ⟨some 8, none, .build [.int .i64 0, .nil, .nil] [(0, 1, .c (.int .i64 2)), (2, 1, .t 7)]⟩,
      ⟨some 1, none, .alloc 0 [.int .i64 0, .nil, .nil]⟩,
      ⟨none, none, .store 3 (.t 1) (.t 8)⟩])
    (.seq (.region [⟨some 9, none, .build [.int .u64 0, .nil, .nil] [(0, 1, .c (.int .u64 1))]⟩,
      ⟨some 10, none, .build [.int .u64 0, .nil, .nil] [(0, 1, .c (.int .u64 2))]⟩,
      ⟨some 11, none, .blit 0 26 3 [.t 9, .t 10]⟩,
      ⟨some 12, none, .build [.int .i64 0, .nil, .nil] [(0, 1, .c (.int .i64 1)), (2, 1, .t 11)]⟩,
      ⟨some 2, none, .alloc 0 [.int .i64 0, .nil, .nil]⟩,
      ⟨none, none, .store 3 (.t 2) (.t 12)⟩])
    (.seq (.seq (.region [⟨some 13, none, .call i_cartouchelaw8_awake []⟩,
      ⟨some 14, none, .un .not (.t 13)⟩,
      ⟨some 15, none, .mov (.t 14)⟩,
      ⟨some 16, some (15, false), .call i_cartouchelaw8_n [.c (.int .i64 9), .c (.int .i64 1)]⟩,
      ⟨some 17, some (15, false), .blit 0 29 3 [.t 16]⟩,
      ⟨some 18, some (15, false), .call i_cartouchelaw8_msg [.t 17]⟩,
      ⟨some 19, some (15, false), .call i_cartouchelaw8_typed [.t 18, .c (.bool false)]⟩,
      ⟨some 20, some (15, false), .un .not (.t 19)⟩,
      ⟨some 21, none, .pickb (.t 15) (.c (.bool true)) (.t 20)⟩,
      ⟨some 22, none, .mov (.t 21)⟩,
      ⟨some 23, some (22, false), .load 3 true (.t 1)⟩,
      ⟨some 24, some (22, false), .blit 0 29 3 [.t 23]⟩,
      ⟨some 25, some (22, false), .call i_cartouchelaw8_msg [.t 24]⟩,
      ⟨some 26, some (22, false), .call i_cartouchelaw8_typed [.t 25, .c (.bool true)]⟩,
      ⟨some 27, some (22, false), .un .not (.t 26)⟩,
      ⟨some 28, none, .pickb (.t 22) (.c (.bool true)) (.t 27)⟩,
      ⟨some 29, none, .mov (.t 28)⟩,
      ⟨some 30, some (29, false), .load 3 true (.t 2)⟩,
      ⟨some 31, some (29, false), .blit 0 29 3 [.t 30]⟩,
      ⟨some 32, some (29, false), .call i_cartouchelaw8_msg [.t 31]⟩,
      ⟨some 33, some (29, false), .call i_cartouchelaw8_typed [.t 32, .c (.bool false)]⟩,
      ⟨some 34, some (29, false), .un .not (.t 33)⟩,
      ⟨some 35, none, .pickb (.t 29) (.c (.bool true)) (.t 34)⟩])
    (.cond (.t 35) (.seq (.region [⟨some 0, none, .mov (.c (.bool false))⟩])
    .ret)
    .skip))
    (.seq (.seq (.region [⟨some 36, none, .call i_cartouchelaw8_n [.c (.int .i64 1), .c (.int .i64 0)]⟩,
      ⟨some 37, none, .blit 0 29 3 [.t 36]⟩,
      ⟨some 38, none, .call i_cartouchelaw8_msg [.t 37]⟩,
      ⟨some 39, none, .call i_cartouchelaw8_normal [.t 38, .c (.bool false)]⟩,
      ⟨some 40, none, .un .not (.t 39)⟩,
      ⟨some 41, none, .mov (.t 40)⟩,
      ⟨some 42, some (41, false), .build [.nil, .nil] []⟩,
      ⟨some 43, some (41, false), .call i_cartouchelaw8_in [.c (.int .i64 3), .t 42]⟩,
      ⟨some 44, some (41, false), .blit 0 29 3 [.t 43]⟩,
      ⟨some 45, some (41, false), .call i_cartouchelaw8_msg [.t 44]⟩,
      ⟨some 46, some (41, false), .call i_cartouchelaw8_normal [.t 45, .c (.bool true)]⟩,
      ⟨some 47, some (41, false), .un .not (.t 46)⟩,
      ⟨some 48, none, .pickb (.t 41) (.c (.bool true)) (.t 47)⟩,
      ⟨some 49, none, .mov (.t 48)⟩,
      ⟨some 50, some (49, false), .build [.int .i64 0, .int .i64 0, .int .u64 0, .nil] [(0, 1, .c (.int .i64 1)), (2, 1, .c (.int .u64 5))]⟩,
      ⟨some 51, some (49, false), .blit 0 40 4 [.t 50]⟩,
      ⟨some 52, some (49, false), .build [.nil, .nil] [(1, 1, .t 51)]⟩,
      ⟨some 53, some (49, false), .call i_cartouchelaw8_normal [.t 52, .c (.bool false)]⟩,
      ⟨some 54, some (49, false), .un .not (.t 53)⟩,
      ⟨some 55, none, .pickb (.t 49) (.c (.bool true)) (.t 54)⟩,
      ⟨some 56, none, .mov (.t 55)⟩,
      ⟨some 57, some (56, false), .blit 0 5 1 [.c (.int .u8 1)]⟩,
      ⟨some 58, some (56, false), .build [.int .i64 0, .int .i64 0, .int .u64 0, .nil] [(0, 1, .c (.int .i64 1)), (1, 1, .c (.int .i64 2)), (3, 1, .t 57)]⟩,
      ⟨some 59, some (56, false), .blit 0 40 4 [.t 58]⟩,
      ⟨some 60, some (56, false), .build [.nil, .nil] [(1, 1, .t 59)]⟩,
      ⟨some 61, some (56, false), .call i_cartouchelaw8_normal [.t 60, .c (.bool true)]⟩,
      ⟨some 62, some (56, false), .un .not (.t 61)⟩,
      ⟨some 63, none, .pickb (.t 56) (.c (.bool true)) (.t 62)⟩])
    (.cond (.t 63) (.seq (.region [⟨some 0, none, .mov (.c (.bool false))⟩])
    .ret)
    .skip))
    (.seq (.region [⟨some 65, none, .call i_cartouchelaw7_Simple []⟩,
      ⟨some 66, none, .call i_cartouchelaw8_n [.c (.int .i64 1), .c (.int .i64 0)]⟩,
      ⟨some 67, none, .build [.int .i64 0, .nil, .nil] [(0, 1, .c (.int .i64 2))]⟩,
      ⟨some 68, none, .blit 0 29 3 [.t 66, .t 67]⟩,
      ⟨some 69, none, .call i_cartouchelaw8_msg [.t 68]⟩,
      ⟨some 70, none, .call i_model_Settle [.t 65, .c (.int .i64 1), .t 69]⟩,
      ⟨some 64, none, .mov (.t 70)⟩,
      ⟨some 71, none, .ext 0 (.t 64)⟩,
      ⟨some 72, none, .ext 1 (.t 64)⟩,
      ⟨some 3, none, .alloc 0 [.nil, .nil]⟩,
      ⟨none, none, .store 2 (.t 3) (.t 71)⟩,
      ⟨some 4, none, .mov (.t 72)⟩])
    (.seq (.region [⟨some 73, none, .build [.nil, .nil] []⟩,
      ⟨some 74, none, .call i_model_Depth [.t 73]⟩,
      ⟨some 75, none, .bin false .eql (.t 74) (.c (.int .i64 1))⟩,
      ⟨some 76, none, .mov (.t 75)⟩,
      ⟨some 77, some (76, true), .build [.nil, .nil] []⟩,
      ⟨some 78, some (76, true), .call i_cartouchelaw8_in [.c (.int .i64 3), .t 77]⟩,
      ⟨some 79, some (76, true), .blit 0 29 3 [.t 78]⟩,
      ⟨some 80, some (76, true), .call i_cartouchelaw8_msg [.t 79]⟩,
      ⟨some 81, some (76, true), .call i_cartouchelaw8_in [.c (.int .i64 3), .t 80]⟩,
      ⟨some 82, some (76, true), .blit 0 29 3 [.t 81]⟩,
      ⟨some 83, some (76, true), .call i_cartouchelaw8_msg [.t 82]⟩,
      ⟨some 84, some (76, true), .call i_model_Depth [.t 83]⟩,
      ⟨some 85, some (76, true), .bin false .eql (.t 84) (.c (.int .i64 3))⟩,
      ⟨some 86, none, .pickb (.t 76) (.t 85) (.c (.bool false))⟩,
      ⟨some 87, none, .mov (.t 86)⟩,
      ⟨some 88, some (87, true), .mov (.t 4)⟩,
      ⟨some 89, some (87, true), .bin false .eql (.t 88) (.c (.int .i64 0))⟩,
      ⟨some 90, none, .pickb (.t 87) (.t 89) (.c (.bool false))⟩,
      ⟨some 91, none, .mov (.t 90)⟩,
      ⟨some 92, some (91, true), .load 2 true (.t 3)⟩,
      ⟨some 93, some (91, true), .call i_cartoucheref8_Empty [.t 92]⟩,
      ⟨some 94, none, .pickb (.t 91) (.t 93) (.c (.bool false))⟩,
      ⟨some 0, none, .mov (.t 94)⟩])
    .ret))))))), [.tmp 0]⟩
theorem T_cartouchelaw8_ModelKnown : trFn Tryz.prog [(1, [0, 0, 1, 0, 1, 0]), (2, [0, 0, 1, 0, 1, 0]), (3, [0, 0, 0, 0, 1, 0, 0, 0, 0, 0, 0, 1, 0, 0, 0, 0, 0, 0, 1, 0, 0, 0, 0]), (5, [0, 1, 0, 0, 0, 0, 0, 0, 1, 0, 0, 0, 0, 0, 0, 1, 0, 0, 0, 0, 0, 1, 0, 1, 0, 0, 0, 0]), (7, [0, 0, 0, 1, 0, 0, 0, 0, 0, 1, 0, 0]), (8, [0, 0, 0, 0, 0, 0, 1, 0, 0, 1, 0, 0, 0, 0, 0, 0, 0, 0, 0, 0, 0, 0, 0])] Tryz.f3 = some A_cartouchelaw8_ModelKnown := by kernel_rfl
theorem L_cartouchelaw8_ModelKnown : 0 ≤ Tryz.f3.ntmps := by decide

/-! cartouche/cartouchelaw8.awake -/
def A_cartouchelaw8_awake : AFn := ⟨(.seq (.region [⟨some 0, none, .mov (.c (.bool false))⟩])
    (.seq (.region [⟨some 1, none, .call i_cartouchelaw8_n [.c (.int .i64 1), .c (.int .i64 5)]⟩,
      ⟨some 2, none, .blit 0 29 3 [.t 1]⟩,
      ⟨some 3, none, .call i_cartouchelaw8_msg [.t 2]⟩,
      ⟨some 4, none, .call i_cartouchelaw8_typed [.t 3, .c (.bool true)]⟩,
      ⟨some 5, none, .mov (.t 4)⟩,
      ⟨some 6, some (5, true), .call i_cartouchelaw8_n [.c (.int .i64 1), .c (.int .i64 1099511627776)]⟩,
      ⟨some 7, some (5, true), .blit 0 29 3 [.t 6]⟩,
      ⟨some 8, some (5, true), .call i_cartouchelaw8_msg [.t 7]⟩,
      ⟨some 9, some (5, true), .call i_cartouchelaw8_typed [.t 8, .c (.bool false)]⟩,
      ⟨some 10, none, .pickb (.t 5) (.t 9) (.c (.bool false))⟩,
      ⟨some 11, none, .mov (.t 10)⟩,
      ⟨some 12, some (11, true), .call i_cartouchelaw8_n [.c (.int .i64 1), .c (.int .i64 5)]⟩,
      ⟨some 13, some (11, true), .blit 0 29 3 [.t 12]⟩,
      ⟨some 14, some (11, true), .call i_cartouchelaw8_msg [.t 13]⟩,
      ⟨some 15, some (11, true), .call i_cartouchelaw8_n [.c (.int .i64 1), .c (.int .i64 5)]⟩,
      ⟨some 16, some (11, true), .blit 0 29 3 [.t 15]⟩,
      ⟨some 17, some (11, true), .call i_cartouchelaw8_msg [.t 16]⟩,
      ⟨some 18, some (11, true), .call i_model_Equal [.t 14, .t 17]⟩,
      ⟨some 19, none, .pickb (.t 11) (.t 18) (.c (.bool false))⟩,
      ⟨some 20, none, .mov (.t 19)⟩,
      ⟨some 21, some (20, true), .call i_cartouchelaw8_n [.c (.int .i64 1), .c (.int .i64 5)]⟩,
      ⟨some 22, some (20, true), .blit 0 29 3 [.t 21]⟩,
      ⟨some 23, some (20, true), .call i_cartouchelaw8_msg [.t 22]⟩,
      ⟨some 24, some (20, true), .call i_cartouchelaw8_n [.c (.int .i64 1), .c (.int .i64 6)]⟩,
      ⟨some 25, some (20, true), .blit 0 29 3 [.t 24]⟩,
      ⟨some 26, some (20, true), .call i_cartouchelaw8_msg [.t 25]⟩,
      ⟨some 27, some (20, true), .call i_model_Equal [.t 23, .t 26]⟩,
      ⟨some 28, some (20, true), .un .not (.t 27)⟩,
      ⟨some 29, none, .pickb (.t 20) (.t 28) (.c (.bool false))⟩,
      ⟨some 0, none, .mov (.t 29)⟩])
    .ret)), [.tmp 0]⟩
theorem T_cartouchelaw8_awake : trFn Tryz.prog [(1, [0, 1, 0, 0, 0, 0, 1, 0, 0, 0, 0, 0, 1, 0, 0, 1, 0, 0, 0, 0, 0, 1, 0, 0, 1, 0, 0, 0, 0, 0])] Tryz.f9 = some A_cartouchelaw8_awake := by kernel_rfl
theorem L_cartouchelaw8_awake : 0 ≤ Tryz.f9.ntmps := by decide

/-! cartouche/cartouchelaw8.typed -/
def A_cartouchelaw8_typed : AFn := ⟨(.seq (.region [⟨some 2, none, .box 0 (.t 0)⟩,
      ⟨some 4, none, .mov (.c (.bool false))⟩])
    (.seq (.draw [0, 2, 1000001, 2000002] [⟨some 8, none, .call i_cartouchelaw7_Simple []⟩,
      ⟨some 9, none, .load 2 true (.t 2)⟩,
      ⟨some 10, none, .call i_model_Typed [.t 8, .c (.int .i64 1), .t 9]⟩,
      ⟨some 7, none, .mov (.t 10)⟩,
      ⟨some 11, none, .ext 0 (.t 7)⟩,
      ⟨some 12, none, .ext 1 (.t 7)⟩,
      ⟨some 5, none, .mov (.t 11)⟩,
      ⟨some 6, none, .mov (.t 12)⟩])
    (.seq (.region [⟨some 13, none, .mov (.t 6)⟩,
      ⟨some 14, none, .bin false .eql (.t 13) (.c (.int .i64 0))⟩,
      ⟨some 15, none, .mov (.t 14)⟩,
      ⟨some 16, some (15, true), .mov (.t 5)⟩,
      ⟨some 17, some (15, true), .mov (.t 1)⟩,
      ⟨some 18, some (15, true), .bin true .eql (.t 16) (.t 17)⟩,
      ⟨some 19, none, .pickb (.t 15) (.t 18) (.c (.bool false))⟩,
      ⟨some 4, none, .mov (.t 19)⟩])
    .ret))), [.tmp 4]⟩
theorem T_cartouchelaw8_typed : trFn Tryz.prog [(0, [1, 0]), (1000001, [0, 2, 1000001, 2000002])] Tryz.f10 = some A_cartouchelaw8_typed := by kernel_rfl
theorem L_cartouchelaw8_typed : 2 ≤ Tryz.f10.ntmps := by decide

/-! cartouche/cartouchelaw8.msg -/
def A_cartouchelaw8_msg : AFn := ⟨(.seq (.region [⟨some 2, none, .alloc 0 [.nil, .nil]⟩])
    (.seq (.region [⟨some 3, none, .mov (.t 0)⟩,
      ⟨some 4, none, .build [.nil, .nil] [(0, 1, .t 3)]⟩,
      ⟨none, none, .store 2 (.t 2) (.t 4)⟩])
    .ret)), [.cell 2 2 true]⟩
theorem T_cartouchelaw8_msg : trFn Tryz.prog [(0, [1])] Tryz.f11 = some A_cartouchelaw8_msg := by kernel_rfl
theorem L_cartouchelaw8_msg : 1 ≤ Tryz.f11.ntmps := by decide

/-! cartouche/cartouchelaw8.n -/
def A_cartouchelaw8_n : AFn := ⟨(.seq (.region [⟨some 4, none, .alloc 0 [.int .i64 0, .nil, .nil]⟩])
    (.seq (.region [⟨some 5, none, .mov (.t 0)⟩,
      ⟨some 6, none, .mov (.t 1)⟩,
      ⟨some 7, none, .conv .u64 (.t 6)⟩,
      ⟨some 8, none, .build [.int .u64 0, .nil, .nil] [(0, 1, .t 7)]⟩,
      ⟨some 9, none, .blit 0 26 3 [.t 8]⟩,
      ⟨some 10, none, .build [.int .i64 0, .nil, .nil] [(0, 1, .t 5), (2, 1, .t 9)]⟩,
      ⟨none, none, .store 3 (.t 4) (.t 10)⟩])
    .ret)), [.cell 4 3 true]⟩
theorem T_cartouchelaw8_n : trFn Tryz.prog [(0, [1]), (1, [0, 0, 0, 0, 1, 0, 0])] Tryz.f12 = some A_cartouchelaw8_n := by kernel_rfl
theorem L_cartouchelaw8_n : 2 ≤ Tryz.f12.ntmps := by decide

/-! cartouche/cartouchelaw8.normal -/
def A_cartouchelaw8_normal : AFn := ⟨(.seq (.region [⟨some 2, none, .box 0 (.t 0)⟩,
      ⟨some 4, none, .mov (.c (.bool false))⟩])
    (.seq (.draw [0, 2, 1000001, 2000002] [⟨some 8, none, .call i_cartouchelaw7_Simple []⟩,
      ⟨some 9, none, .load 2 true (.t 2)⟩,
      ⟨some 10, none, .call i_model_Normal [.t 8, .c (.int .i64 1), .t 9]⟩,
      ⟨some 7, none, .mov (.t 10)⟩,
      ⟨some 11, none, .ext 0 (.t 7)⟩,
      ⟨some 12, none, .ext 1 (.t 7)⟩,
      ⟨some 5, none, .mov (.t 11)⟩,
      ⟨some 6, none, .mov (.t 12)⟩])
    (.seq (.region [⟨some 13, none, .mov (.t 6)⟩,
      ⟨some 14, none, .bin false .eql (.t 13) (.c (.int .i64 0))⟩,
      ⟨some 15, none, .mov (.t 14)⟩,
      ⟨some 16, some (15, true), .mov (.t 5)⟩,
      ⟨some 17, some (15, true), .mov (.t 1)⟩,
      ⟨some 18, some (15, true), .bin true .eql (.t 16) (.t 17)⟩,
      ⟨some 19, none, .pickb (.t 15) (.t 18) (.c (.bool false))⟩,
      ⟨some 4, none, .mov (.t 19)⟩])
    .ret))), [.tmp 4]⟩
theorem T_cartouchelaw8_normal : trFn Tryz.prog [(0, [1, 0]), (1000001, [0, 2, 1000001, 2000002])] Tryz.f13 = some A_cartouchelaw8_normal := by kernel_rfl
theorem L_cartouchelaw8_normal : 2 ≤ Tryz.f13.ntmps := by decide

/-! cartouche/cartouchelaw8.in -/
def A_cartouchelaw8_in : AFn := ⟨(.seq (.region [⟨some 3, none, .box 0 (.t 1)⟩,
      ⟨some 4, none, .alloc 0 [.int .i64 0, .nil, .nil]⟩])
    (.seq (.region [⟨some 5, none, .mov (.t 0)⟩,
      ⟨some 6, none, .load 2 true (.t 3)⟩,
      ⟨some 7, none, .blit 0 35 2 [.t 6]⟩,
      ⟨some 8, none, .build [.int .u64 0, .nil, .nil] [(2, 1, .t 7)]⟩,
      ⟨some 9, none, .blit 0 26 3 [.t 8]⟩,
      ⟨some 10, none, .build [.int .i64 0, .nil, .nil] [(0, 1, .t 5), (2, 1, .t 9)]⟩,
      ⟨none, none, .store 3 (.t 4) (.t 10)⟩])
    .ret)), [.cell 4 3 true]⟩
theorem T_cartouchelaw8_in : trFn Tryz.prog [(0, [1, 1]), (1, [0, 0, 1, 0, 1, 0, 0])] Tryz.f14 = some A_cartouchelaw8_in := by kernel_rfl
theorem L_cartouchelaw8_in : 2 ≤ Tryz.f14.ntmps := by decide

/-! cartouche/model.Settle -/
def A_model_Settle : AFn := ⟨(.seq (.region [⟨some 3, none, .box 0 (.t 0)⟩,
      ⟨some 5, none, .box 0 (.t 2)⟩,
      ⟨some 6, none, .alloc 0 [.nil, .nil]⟩,
      ⟨some 7, none, .mov (.c (.int .i64 0))⟩])
    (.seq (.region [⟨some 11, none, .load 1 true (.t 3)⟩,
      ⟨some 12, none, .mov (.t 1)⟩,
      ⟨some 13, none, .load 2 true (.t 5)⟩,
      ⟨some 14, none, .call i_model_Typed [.t 11, .t 12, .t 13]⟩,
      ⟨some 10, none, .mov (.t 14)⟩,
      ⟨some 15, none, .ext 0 (.t 10)⟩,
      ⟨some 16, none, .ext 1 (.t 10)⟩,
      ⟨some 8, none, .mov (.t 15)⟩,
      ⟨some 9, none, .mov (.t 16)⟩])
    (.seq (.block 0 (.seq (.region [⟨some 18, none, .mov (.t 9)⟩,
      ⟨some 19, none, .bin false .neq (.t 18) (.c (.int .i64 0))⟩,
      ⟨some 17, none, .mov (.t 19)⟩])
    (.cond (.t 17) (.seq (.region [⟨some 20, none, .build [.nil, .nil] []⟩,
      ⟨some 21, none, .mov (.t 9)⟩,
      ⟨none, none, .store 2 (.t 6) (.t 20)⟩,
      ⟨some 7, none, .mov (.t 21)⟩])
    .ret)
    (.seq (.region [⟨some 23, none, .mov (.t 8)⟩,
      ⟨some 24, none, .un .not (.t 23)⟩,
      ⟨some 22, none, .mov (.t 24)⟩])
    (.cond (.t 22) (.seq (.region [⟨some 25, none, .build [.nil, .nil] []⟩,
      ⟨none, none, .store 2 (.t 6) (.t 25)⟩,
      ⟨some 7, none, .mov (.c (.int .i64 10))⟩])
    .ret)
    .skip)))))
    (.seq (.draw [2, 3, 4, 5, 1000000, 2000004, 2000005] [⟨some 26, none, .load 1 true (.t 3)⟩,
      ⟨some 27, none, .mov (.t 1)⟩,
      ⟨some 28, none, .load 2 true (.t 5)⟩,
      ⟨some 29, none, .call i_model_Copy [.t 28]⟩,
      ⟨some 30, none, .call i_model_settled [.t 26, .t 27, .t 29]⟩,
      ⟨none, none, .store 2 (.t 6) (.t 30)⟩,
      ⟨some 7, none, .mov (.c (.int .i64 0))⟩])
    .ret)))), [.cell 6 2 true, .tmp 7]⟩
theorem T_model_Settle : trFn Tryz.prog [(0, [1, 1, 1, 0]), (1000006, [2, 3, 4, 5, 1000000, 2000004, 2000005])] Tryz.f15 = some A_model_Settle := by kernel_rfl
theorem L_model_Settle : 3 ≤ Tryz.f15.ntmps := by decide

/-! cartouche/cartouchelaw7.Simple -/
def A_cartouchelaw7_Simple : AFn := ⟨(.seq (.region [⟨some 0, none, .alloc 0 [.nil]⟩])
    (.seq (.region [⟨some 1, none, .build [.str ⟨#[]⟩, .int .i64 0] [(0, 1, .c (.str ⟨#[65]⟩))]⟩,
      ⟨some 2, none, .blit 0 107 2 [.t 1]⟩,
      ⟨some 3, none, .build [.str ⟨#[]⟩, .bool false, .nil, .nil, .nil, .nil] [(0, 1, .c (.str ⟨#[69]⟩)), (1, 1, .c (.bool true)), (4, 1, .t 2)]⟩,
      ⟨some 4, none, .build [.str ⟨#[]⟩, .int .i64 0, .int .i64 0, .int .i64 0, .int .i64 0, .int .i64 0, .int .i64 0] [(0, 1, .c (.str ⟨#[120]⟩)), (1, 1, .c (.int .i64 1)), (2, 1, .c (.int .i64 2))]⟩,
      ⟨some 5, none, .build [.str ⟨#[]⟩, .int .i64 0, .int .i64 0, .int .i64 0, .int .i64 0, .int .i64 0, .int .i64 0] [(0, 1, .c (.str ⟨#[108]⟩)), (1, 1, .c (.int .i64 2)), (2, 1, .c (.int .i64 4)), (4, 1, .c (.int .i64 3))]⟩,
      ⟨some 6, none, .build [.str ⟨#[]⟩, .int .i64 0, .int .i64 0, .int .i64 0, .int .i64 0, .int .i64 0, .int .i64 0] [(0, 1, .c (.str ⟨#[109]⟩)), (1, 1, .c (.int .i64 3)), (2, 1, .c (.int .i64 17)), (3, 1, .c (.int .i64 1)), (4, 1, .c (.int .i64 1))]⟩,
      ⟨some 7, none, .blit 0 114 7 [.t 4, .t 5, .t 6]⟩,
      ⟨some 8, none, .build [.str ⟨#[]⟩, .bool false, .nil, .nil, .nil, .nil] [(0, 1, .c (.str ⟨#[77]⟩)), (2, 1, .t 7)]⟩,
      ⟨some 9, none, .blit 0 112 6 [.t 3, .t 8]⟩,
      ⟨some 10, none, .build [.nil] [(0, 1, .t 9)]⟩,
      ⟨none, none, .store 1 (.t 0) (.t 10)⟩])
    .ret)), [.cell 0 1 true]⟩
theorem T_cartouchelaw7_Simple : trFn Tryz.prog [(0, [1]), (1, [0, 1, 0, 0, 0, 0, 1, 0, 1, 0, 0])] Tryz.f16 = some A_cartouchelaw7_Simple := by kernel_rfl
theorem L_cartouchelaw7_Simple : 0 ≤ Tryz.f16.ntmps := by decide

/-! cartouche/model.Depth -/
def A_model_Depth : AFn := ⟨(.seq (.region [⟨some 1, none, .box 0 (.t 0)⟩,
      ⟨some 2, none, .mov (.c (.int .i64 0))⟩])
    (.seq (.region [⟨some 3, none, .mov (.c (.int .i64 0))⟩])
    (.seq (.seq (.region [⟨some 12, none, .fldA 0 1 false (.t 1)⟩,
      ⟨some 13, none, .load 1 false (.t 12)⟩,
      ⟨some 14, none, .len false (.t 13)⟩,
      ⟨some 15, none, .mov (.c (.int .i64 0))⟩])
    (.block 0 (.loop (.seq (.region [⟨some 16, none, .bin false .lss (.t 15) (.t 14)⟩])
    (.seq (.cond (.t 16) .skip
    (.exit 0))
    (.seq (.block 1 (.seq (.region [⟨some 17, none, .idxA 3 (.t 13) (.t 15)⟩,
      ⟨some 18, none, .load 3 true (.t 17)⟩,
      ⟨some 5, none, .alloc 0 [.int .i64 0, .nil, .nil]⟩,
      ⟨none, none, .store 3 (.t 5) (.t 18)⟩])
    (.seq (.region [⟨some 19, none, .fldA 1 1 false (.t 5)⟩,
      ⟨some 20, none, .load 1 false (.t 19)⟩,
      ⟨some 21, none, .fldA 2 1 false (.t 5)⟩,
      ⟨some 22, none, .load 1 false (.t 21)⟩,
      ⟨some 23, none, .build [.nil, .nil] [(0, 1, .t 20), (1, 1, .t 22)]⟩,
      ⟨some 24, none, .mov (.c (.int .i64 0))⟩])
    (.block 2 (.loop (.seq (.region [⟨some 25, none, .bin false .lss (.t 24) (.c (.int .i64 2))⟩])
    (.seq (.cond (.t 25) .skip
    (.exit 2))
    (.seq (.block 3 (.seq (.region [⟨some 26, none, .arrV 2 1 false (.t 23) (.t 24)⟩,
      ⟨some 7, none, .mov (.t 26)⟩])
    (.seq (.region [⟨some 27, none, .mov (.t 7)⟩,
      ⟨some 28, none, .len false (.t 27)⟩,
      ⟨some 29, none, .mov (.c (.int .i64 0))⟩])
    (.block 4 (.loop (.seq (.region [⟨some 30, none, .bin false .lss (.t 29) (.t 28)⟩])
    (.seq (.cond (.t 30) .skip
    (.exit 4))
    (.seq (.block 5 (.seq (.region [⟨some 31, none, .idxA 3 (.t 27) (.t 29)⟩,
      ⟨some 32, none, .load 3 true (.t 31)⟩,
      ⟨some 9, none, .alloc 0 [.int .u64 0, .nil, .nil]⟩,
      ⟨none, none, .store 3 (.t 9) (.t 32)⟩])
    (.seq (.region [⟨some 33, none, .fldA 2 1 false (.t 9)⟩,
      ⟨some 34, none, .load 1 false (.t 33)⟩,
      ⟨some 35, none, .len false (.t 34)⟩,
      ⟨some 36, none, .mov (.c (.int .i64 0))⟩])
    (.block 6 (.loop (.seq (.region [⟨some 37, none, .bin false .lss (.t 36) (.t 35)⟩])
    (.seq (.cond (.t 37) .skip
    (.exit 6))
    (.seq (.block 7 (.seq (.region [⟨some 38, none, .idxA 2 (.t 34) (.t 36)⟩,
      ⟨some 39, none, .load 2 true (.t 38)⟩,
      ⟨some 11, none, .alloc 0 [.nil, .nil]⟩,
      ⟨none, none, .store 2 (.t 11) (.t 39)⟩])
    (.region [⟨some 40, none, .mov (.t 3)⟩,
      ⟨some 41, none, .load 2 true (.t 11)⟩,
      ⟨some 42, none, .call i_model_Depth [.t 41]⟩,
      ⟨some 43, none, .mm true (.t 40) (.t 42)⟩,
      ⟨some 3, none, .mov (.t 43)⟩])))
    (.region [⟨some 44, none, .bin false .add (.t 36) (.c (.int .i64 1))⟩,
      ⟨some 36, none, .mov (.t 44)⟩])))))))))
    (.region [⟨some 45, none, .bin false .add (.t 29) (.c (.int .i64 1))⟩,
      ⟨some 29, none, .mov (.t 45)⟩])))))))))
    (.region [⟨some 46, none, .bin false .add (.t 24) (.c (.int .i64 1))⟩,
      ⟨some 24, none, .mov (.t 46)⟩])))))))))
    (.region [⟨some 47, none, .bin false .add (.t 15) (.c (.int .i64 1))⟩,
      ⟨some 15, none, .mov (.t 47)⟩])))))))
    (.seq (.region [⟨some 48, none, .mov (.t 3)⟩,
      ⟨some 49, none, .bin false .add (.t 48) (.c (.int .i64 1))⟩,
      ⟨some 2, none, .mov (.t 49)⟩])
    .ret)))), [.tmp 2]⟩
theorem T_model_Depth : trFn Tryz.prog [(0, [1, 0]), (4, [0, 0, 1, 0]), (10, [0, 0, 1, 0]), (13, [0, 0, 1, 0])] Tryz.f17 = some A_model_Depth := by kernel_rfl
theorem L_model_Depth : 1 ≤ Tryz.f17.ntmps := by decide

/-! cartouche/cartoucheref8.Empty -/
def A_cartoucheref8_Empty : AFn := ⟨(.seq (.region [⟨some 1, none, .box 0 (.t 0)⟩,
      ⟨some 2, none, .mov (.c (.bool false))⟩])
    (.seq (.region [⟨some 3, none, .fldA 0 1 false (.t 1)⟩,
      ⟨some 4, none, .load 1 false (.t 3)⟩,
      ⟨some 5, none, .len false (.t 4)⟩,
      ⟨some 6, none, .bin false .eql (.t 5) (.c (.int .i64 0))⟩,
      ⟨some 7, none, .mov (.t 6)⟩,
      ⟨some 8, some (7, true), .fldA 1 1 false (.t 1)⟩,
      ⟨some 9, some (7, true), .load 1 false (.t 8)⟩,
      ⟨some 10, some (7, true), .len false (.t 9)⟩,
      ⟨some 11, some (7, true), .bin false .eql (.t 10) (.c (.int .i64 0))⟩,
      ⟨some 12, none, .pickb (.t 7) (.t 11) (.c (.bool false))⟩,
      ⟨some 2, none, .mov (.t 12)⟩])
    .ret)), [.tmp 2]⟩
theorem T_cartoucheref8_Empty : trFn Tryz.prog [(0, [1, 0])] Tryz.f18 = some A_cartoucheref8_Empty := by kernel_rfl
theorem L_cartoucheref8_Empty : 1 ≤ Tryz.f18.ntmps := by decide

/-! cartouche/model.Equal -/
def A_model_Equal : AFn := ⟨(.seq (.region [⟨some 2, none, .box 0 (.t 0)⟩,
      ⟨some 3, none, .box 0 (.t 1)⟩,
      ⟨some 4, none, .mov (.c (.bool false))⟩])
    (.seq (.region [⟨some 5, none, .fldA 0 1 false (.t 2)⟩,
      ⟨some 6, none, .load 1 false (.t 5)⟩,
      ⟨some 7, none, .fldA 0 1 false (.t 3)⟩,
      ⟨some 8, none, .load 1 false (.t 7)⟩,
      ⟨some 9, none, .call i_slices_EqualFunc_api_Field_api_Field_api_Field_api_Field [.t 6, .t 8, .c (.fn (.func 116) [] [])]⟩,
      ⟨some 10, none, .mov (.t 9)⟩,
      ⟨some 11, some (10, true), .fldA 1 1 false (.t 2)⟩,
      ⟨some 12, some (10, true), .load 1 false (.t 11)⟩,
      ⟨some 13, some (10, true), .fldA 1 1 false (.t 3)⟩,
      ⟨some 14, some (10, true), .load 1 false (.t 13)⟩,
      ⟨some 15, some (10, true), .call i_slices_EqualFunc_api_Entry_api_Entry_api_Entry_api_Entry [.t 12, .t 14, .c (.fn (.func 120) [] [])]⟩,
      ⟨some 16, none, .pickb (.t 10) (.t 15) (.c (.bool false))⟩,
      ⟨some 4, none, .mov (.t 16)⟩])
    .ret)), [.tmp 4]⟩
theorem T_model_Equal : trFn Tryz.prog [(0, [1, 1, 0])] Tryz.f64 = some A_model_Equal := by kernel_rfl
theorem L_model_Equal : 2 ≤ Tryz.f64.ntmps := by decide

/-! cartouche/model.Typed -/
def A_model_Typed : AFn := ⟨(.seq (.region [⟨some 3, none, .box 0 (.t 0)⟩,
      ⟨some 5, none, .box 0 (.t 2)⟩,
      ⟨some 6, none, .mov (.c (.bool false))⟩,
      ⟨some 7, none, .mov (.c (.int .i64 0))⟩])
    (.seq (.seq (.region [⟨some 8, none, .load 1 true (.t 3)⟩,
      ⟨some 9, none, .mov (.t 1)⟩,
      ⟨some 10, none, .call i_table_IsMessage [.t 8, .t 9]⟩,
      ⟨some 11, none, .un .not (.t 10)⟩])
    (.cond (.t 11) (.seq (.region [⟨some 6, none, .mov (.c (.bool false))⟩,
      ⟨some 7, none, .mov (.c (.int .i64 18))⟩])
    .ret)
    .skip))
    (.seq (.region [⟨some 12, none, .load 1 true (.t 3)⟩,
      ⟨some 13, none, .mov (.t 1)⟩,
      ⟨some 14, none, .load 2 true (.t 5)⟩,
      ⟨some 15, none, .call i_model_typed [.t 12, .t 13, .t 14]⟩,
      ⟨some 6, none, .mov (.t 15)⟩,
      ⟨some 7, none, .mov (.c (.int .i64 0))⟩])
    .ret))), [.tmp 6, .tmp 7]⟩
theorem T_model_Typed : trFn Tryz.prog [(0, [1, 1, 0, 0])] Tryz.f65 = some A_model_Typed := by kernel_rfl
theorem L_model_Typed : 3 ≤ Tryz.f65.ntmps := by decide

/-! cartouche/model.Normal -/
def A_model_Normal : AFn := ⟨(.seq (.region [⟨some 3, none, .box 0 (.t 0)⟩,
      ⟨some 5, none, .box 0 (.t 2)⟩,
      ⟨some 6, none, .mov (.c (.bool false))⟩,
      ⟨some 7, none, .mov (.c (.int .i64 0))⟩])
    (.seq (.region [⟨some 11, none, .load 1 true (.t 3)⟩,
      ⟨some 12, none, .mov (.t 1)⟩,
      ⟨some 13, none, .load 2 true (.t 5)⟩,
      ⟨some 14, none, .call i_model_Typed [.t 11, .t 12, .t 13]⟩,
      ⟨some 10, none, .mov (.t 14)⟩,
      ⟨some 15, none, .ext 0 (.t 10)⟩,
      ⟨some 16, none, .ext 1 (.t 10)⟩,
      ⟨some 8, none, .mov (.t 15)⟩,
      ⟨some 9, none, .mov (.t 16)⟩])
    (.seq (.region [⟨some 17, none, .mov (.t 8)⟩,
      ⟨some 18, none, .mov (.t 17)⟩,
      ⟨some 19, some (18, true), .load 1 true (.t 3)⟩,
      ⟨some 20, some (18, true), .mov (.t 1)⟩,
      ⟨some 21, some (18, true), .load 2 true (.t 5)⟩,
      ⟨some 22, some (18, true), .call i_model_normal [.t 19, .t 20, .t 21]⟩,
      ⟨some 23, none, .pickb (.t 18) (.t 22) (.c (.bool false))⟩,
      ⟨some 24, none, .mov (.t 9)⟩,
      ⟨some 6, none, .mov (.t 23)⟩,
      ⟨some 7, none, .mov (.t 24)⟩])
    .ret))), [.tmp 6, .tmp 7]⟩
theorem T_model_Normal : trFn Tryz.prog [(0, [1, 1, 0, 0])] Tryz.f66 = some A_model_Normal := by kernel_rfl
theorem L_model_Normal : 3 ≤ Tryz.f66.ntmps := by decide

/-! cartouche/model.settled -/
def A_model_settled : AFn := ⟨(.seq (.region [⟨some 3, none, .box 0 (.t 0)⟩,
      ⟨some 5, none, .box 0 (.t 2)⟩,
      ⟨some 6, none, .alloc 0 [.nil, .nil]⟩])
    (.seq (.region [⟨some 14, none, .fldA 0 1 false (.t 3)⟩,
      ⟨some 15, none, .load 1 false (.t 14)⟩,
      ⟨some 16, none, .mov (.t 1)⟩,
      ⟨some 17, none, .idxA 6 (.t 15) (.t 16)⟩,
      ⟨some 18, none, .load 6 true (.t 17)⟩,
      ⟨some 7, none, .alloc 0 [.str ⟨#[]⟩, .bool false, .nil, .nil, .nil, .nil]⟩,
      ⟨none, none, .store 6 (.t 7) (.t 18)⟩])
    (.seq (.region [⟨some 19, none, .fldA 0 1 false (.t 5)⟩,
      ⟨some 20, none, .load 1 false (.t 19)⟩,
      ⟨some 21, none, .mkfn (.func 125) [] [.t 7]⟩,
      ⟨some 22, none, .call i_slices_DeleteFunc_api_Field_api_Field [.t 20, .t 21]⟩,
      ⟨some 23, none, .fldA 0 1 false (.t 5)⟩,
      ⟨none, none, .store 1 (.t 23) (.t 22)⟩])
    (.seq (.seq (.region [⟨some 24, none, .fldA 0 1 false (.t 5)⟩,
      ⟨some 25, none, .load 1 false (.t 24)⟩,
      ⟨some 26, none, .len false (.t 25)⟩,
      ⟨some 27, none, .mov (.c (.int .i64 0))⟩])
    (.block 0 (.loop (.seq (.region [⟨some 28, none, .bin false .lss (.t 27) (.t 26)⟩])
    (.seq (.cond (.t 28) .skip
    (.exit 0))
    (.seq (.block 1 (.seq (.region [⟨some 29, none, .idxA 3 (.t 25) (.t 27)⟩,
      ⟨some 30, none, .load 3 true (.t 29)⟩,
      ⟨some 9, none, .alloc 0 [.int .i64 0, .nil, .nil]⟩,
      ⟨none, none, .store 3 (.t 9) (.t 30)⟩])
    (.seq (.region [⟨some 32, none, .load 6 true (.t 7)⟩,
      ⟨some 33, none, .fldA 0 1 false (.t 9)⟩,
      ⟨some 34, none, .load 1 false (.t 33)⟩,
      ⟨some 35, none, .call i_table_At [.t 32, .t 34]⟩,
      ⟨some 31, none, .mov (.t 35)⟩,
      ⟨some 36, none, .ext 0 (.t 31)⟩,
      ⟨some 37, none, .ext 1 (.t 31)⟩,
      ⟨some 10, none, .alloc 0 [.str ⟨#[]⟩, .int .i64 0, .int .i64 0, .int .i64 0, .int .i64 0, .int .i64 0, .int .i64 0]⟩,
      ⟨none, none, .store 7 (.t 10) (.t 36)⟩,
      ⟨some 11, none, .mov (.t 37)⟩])
    (.seq (.seq (.region [⟨some 38, none, .fldA 2 1 false (.t 10)⟩,
      ⟨some 39, none, .load 1 false (.t 38)⟩,
      ⟨some 40, none, .bin false .neq (.t 39) (.c (.int .i64 17))⟩])
    (.cond (.t 40) (.exit 1)
    .skip))
    (.seq (.region [⟨some 41, none, .fldA 2 1 false (.t 9)⟩,
      ⟨some 42, none, .load 1 false (.t 41)⟩,
      ⟨some 43, none, .len false (.t 42)⟩,
      ⟨some 44, none, .mov (.c (.int .i64 0))⟩])
    (.block 2 (.loop (.seq (.region [⟨some 45, none, .bin false .lss (.t 44) (.t 43)⟩])
    (.seq (.cond (.t 45) .skip
    (.exit 2))
    (.seq (.block 3 (.seq (.region [⟨some 46, none, .idxA 3 (.t 42) (.t 44)⟩,
      ⟨some 47, none, .load 3 true (.t 46)⟩,
      ⟨some 13, none, .alloc 0 [.int .u64 0, .nil, .nil]⟩,
      ⟨none, none, .store 3 (.t 13) (.t 47)⟩])
    (.draw [2, 9, 10, 11, 1000001, 1000004, 1000006, 1000007, 1000008, 2000010, 2000011] [⟨some 48, none, .fldA 2 1 false (.t 13)⟩,
      ⟨some 49, none, .load 1 false (.t 48)⟩,
      ⟨some 50, none, .load 1 true (.t 3)⟩,
      ⟨some 51, none, .fldA 3 1 false (.t 10)⟩,
      ⟨some 52, none, .load 1 false (.t 51)⟩,
      ⟨some 53, none, .fldA 2 1 false (.t 13)⟩,
      ⟨some 54, none, .load 1 false (.t 53)⟩,
      ⟨some 55, none, .idxA 2 (.t 54) (.c (.int .i64 0))⟩,
      ⟨some 56, none, .load 2 true (.t 55)⟩,
      ⟨some 57, none, .call i_model_settled [.t 50, .t 52, .t 56]⟩,
      ⟨some 58, none, .idxA 2 (.t 49) (.c (.int .i64 0))⟩,
      ⟨none, none, .store 2 (.t 58) (.t 57)⟩])))
    (.region [⟨some 59, none, .bin false .add (.t 44) (.c (.int .i64 1))⟩,
      ⟨some 44, none, .mov (.t 59)⟩])))))))))))
    (.region [⟨some 60, none, .bin false .add (.t 27) (.c (.int .i64 1))⟩,
      ⟨some 27, none, .mov (.t 60)⟩])))))))
    (.seq (.region [⟨some 61, none, .fldA 1 1 false (.t 5)⟩,
      ⟨some 62, none, .load 1 false (.t 61)⟩,
      ⟨some 63, none, .mkfn (.func 129) [] [.t 7]⟩,
      ⟨some 64, none, .call i_slices_DeleteFunc_api_Entry_api_Entry [.t 62, .t 63]⟩,
      ⟨some 65, none, .fldA 1 1 false (.t 5)⟩,
      ⟨none, none, .store 1 (.t 65) (.t 64)⟩])
    (.seq (.region [⟨some 66, none, .load 2 true (.t 5)⟩,
      ⟨none, none, .store 2 (.t 6) (.t 66)⟩])
    .ret)))))), [.cell 6 2 true]⟩
theorem T_model_settled : trFn Tryz.prog [(0, [1, 1, 1]), (1, [0, 0, 0, 0, 0, 1, 0]), (5, [0, 0, 1, 0]), (6, [0, 0, 0, 0, 0, 0, 0, 1, 0, 0]), (10, [0, 0, 1, 0]), (1000011, [2, 9, 10, 11, 1000001, 1000004, 1000006, 1000007, 1000008, 2000010, 2000011])] Tryz.f67 = some A_model_settled := by kernel_rfl
theorem L_model_settled : 3 ≤ Tryz.f67.ntmps := by decide

/-! cartouche/model.Copy -/
def A_model_Copy : AFn := ⟨(.seq (.region [⟨some 1, none, .box 0 (.t 0)⟩,
      ⟨some 2, none, .alloc 0 [.nil, .nil]⟩])
    (.seq (.draw [1, 2, 5, 6, 7, 1000004, 2000005, 2000006, 2000007] [⟨some 3, none, .fldA 0 1 false (.t 1)⟩,
      ⟨some 4, none, .load 1 false (.t 3)⟩,
      ⟨some 5, none, .call i_model_each_api_Field [.t 4, .c (.fn (.func 132) [] [])]⟩,
      ⟨some 6, none, .fldA 1 1 false (.t 1)⟩,
      ⟨some 7, none, .load 1 false (.t 6)⟩,
      ⟨some 8, none, .call i_model_each_api_Entry [.t 7, .c (.fn (.func 134) [] [])]⟩,
      ⟨some 9, none, .build [.nil, .nil] [(0, 1, .t 5), (1, 1, .t 8)]⟩,
      ⟨none, none, .store 2 (.t 2) (.t 9)⟩])
    .ret)), [.cell 2 2 true]⟩
theorem T_model_Copy : trFn Tryz.prog [(0, [1, 1]), (1000001, [1, 2, 5, 6, 7, 1000004, 2000005, 2000006, 2000007])] Tryz.f68 = some A_model_Copy := by kernel_rfl
theorem L_model_Copy : 1 ≤ Tryz.f68.ntmps := by decide

/-! bytes.Equal -/
def A_bytes_Equal : AFn := ⟨(.seq (.region [⟨some 4, none, .mov (.c (.bool false))⟩])
    (.seq (.region [⟨some 5, none, .mov (.t 0)⟩,
      ⟨some 6, none, .b2s (.t 5)⟩,
      ⟨some 7, none, .mov (.t 1)⟩,
      ⟨some 8, none, .b2s (.t 7)⟩,
      ⟨some 9, none, .bin false .eql (.t 6) (.t 8)⟩,
      ⟨some 4, none, .mov (.t 9)⟩])
    .ret)), [.tmp 4]⟩
theorem T_bytes_Equal : trFn Tryz.prog [] Tryz.f103 = some A_bytes_Equal := by kernel_rfl
theorem L_bytes_Equal : 2 ≤ Tryz.f103.ntmps := by decide

/-! cartouche/wire.PutVarint -/
def A_wire_PutVarint : AFn := ⟨(.seq (.region [⟨some 2, none, .mov (.c (.nil))⟩])
    (.seq (.region [⟨some 3, none, .mov (.t 0)⟩,
      ⟨some 4, none, .call i_wire_Size [.t 3]⟩,
      ⟨some 5, none, .mks 0 5 1 1 (.int .u8 0) (.c (.int .i64 0)) (.t 4)⟩,
      ⟨some 6, none, .mov (.t 0)⟩,
      ⟨some 7, none, .call i_wire_varint [.t 5, .t 6]⟩,
      ⟨some 2, none, .mov (.t 7)⟩])
    .ret)), [.tmp 2]⟩
theorem T_wire_PutVarint : trFn Tryz.prog [] Tryz.f104 = some A_wire_PutVarint := by kernel_rfl
theorem L_wire_PutVarint : 1 ≤ Tryz.f104.ntmps := by decide

/-! slices.EqualFunc[[]cartouche/api.Field,[]cartouche/api.Field,cartouche/api.Field,cartouche/api.Field] -/
def A_slices_EqualFunc_api_Field_api_Field_api_Field_api_Field : AFn := ⟨(.seq (.region [⟨some 6, none, .mov (.c (.bool false))⟩])
    (.seq (.seq (.region [⟨some 10, none, .mov (.t 0)⟩,
      ⟨some 11, none, .len false (.t 10)⟩,
      ⟨some 12, none, .mov (.t 1)⟩,
      ⟨some 13, none, .len false (.t 12)⟩,
      ⟨some 14, none, .bin false .neq (.t 11) (.t 13)⟩])
    (.cond (.t 14) (.seq (.region [⟨some 6, none, .mov (.c (.bool false))⟩])
    .ret)
    .skip))
    (.seq (.seq (.region [⟨some 15, none, .mov (.t 0)⟩,
      ⟨some 16, none, .len false (.t 15)⟩,
      ⟨some 17, none, .mov (.c (.int .i64 0))⟩])
    (.block 0 (.loop (.seq (.region [⟨some 18, none, .bin false .lss (.t 17) (.t 16)⟩])
    (.seq (.cond (.t 18) .skip
    (.exit 0))
    (.seq (.block 1 (.seq (.region [⟨some 19, none, .mov (.t 17)⟩,
      ⟨some 20, none, .idxA 3 (.t 15) (.t 17)⟩,
      ⟨some 21, none, .load 3 true (.t 20)⟩,
      ⟨some 8, none, .alloc 0 [.int .i64 0, .nil, .nil]⟩,
      ⟨some 7, none, .mov (.t 19)⟩,
      ⟨none, none, .store 3 (.t 8) (.t 21)⟩])
    (.seq (.region [⟨some 22, none, .mov (.t 1)⟩,
      ⟨some 23, none, .mov (.t 7)⟩,
      ⟨some 24, none, .idxA 3 (.t 22) (.t 23)⟩,
      ⟨some 25, none, .load 3 true (.t 24)⟩,
      ⟨some 9, none, .alloc 0 [.int .i64 0, .nil, .nil]⟩,
      ⟨none, none, .store 3 (.t 9) (.t 25)⟩])
    (.seq (.region [⟨some 26, none, .mov (.t 2)⟩,
      ⟨some 27, none, .load 3 true (.t 8)⟩,
      ⟨some 28, none, .load 3 true (.t 9)⟩,
      ⟨some 29, none, .callv (.t 26) [.t 27, .t 28]⟩,
      ⟨some 30, none, .un .not (.t 29)⟩])
    (.cond (.t 30) (.seq (.region [⟨some 6, none, .mov (.c (.bool false))⟩])
    .ret)
    .skip)))))
    (.region [⟨some 31, none, .bin false .add (.t 17) (.c (.int .i64 1))⟩,
      ⟨some 17, none, .mov (.t 31)⟩])))))))
    (.seq (.region [⟨some 6, none, .mov (.c (.bool true))⟩])
    .ret)))), [.tmp 6]⟩
theorem T_slices_EqualFunc_api_Field_api_Field_api_Field_api_Field : trFn Tryz.prog [(5, [0, 0, 0, 1, 0, 0]), (6, [0, 0, 0, 0, 1, 0])] Tryz.f115 = some A_slices_EqualFunc_api_Field_api_Field_api_Field_api_Field := by kernel_rfl
theorem L_slices_EqualFunc_api_Field_api_Field_api_Field_api_Field : 3 ≤ Tryz.f115.ntmps := by decide

/-! cartouche/model.Equal$1 -/
def A_model_Equal_1 : AFn := ⟨(.seq (.region [⟨some 2, none, .box 0 (.t 0)⟩,
      ⟨some 3, none, .box 0 (.t 1)⟩,
      ⟨some 4, none, .mov (.c (.bool false))⟩])
    (.seq (.region [⟨some 5, none, .fldA 0 1 false (.t 2)⟩,
      ⟨some 6, none, .load 1 false (.t 5)⟩,
      ⟨some 7, none, .fldA 0 1 false (.t 3)⟩,
      ⟨some 8, none, .load 1 false (.t 7)⟩,
      ⟨some 9, none, .bin false .eql (.t 6) (.t 8)⟩,
      ⟨some 10, none, .mov (.t 9)⟩,
      ⟨some 11, some (10, true), .fldA 1 1 false (.t 2)⟩,
      ⟨some 12, some (10, true), .load 1 false (.t 11)⟩,
      ⟨some 13, some (10, true), .fldA 1 1 false (.t 3)⟩,
      ⟨some 14, some (10, true), .load 1 false (.t 13)⟩,
      ⟨some 15, some (10, true), .call i_slices_EqualFunc_api_Val_api_Val_api_Val_api_Val [.t 12, .t 14, .c (.fn (.func 118) [] [])]⟩,
      ⟨some 16, none, .pickb (.t 10) (.t 15) (.c (.bool false))⟩,
      ⟨some 17, none, .mov (.t 16)⟩,
      ⟨some 18, some (17, true), .fldA 2 1 false (.t 2)⟩,
      ⟨some 19, some (17, true), .load 1 false (.t 18)⟩,
      ⟨some 20, some (17, true), .fldA 2 1 false (.t 3)⟩,
      ⟨some 21, some (17, true), .load 1 false (.t 20)⟩,
      ⟨some 22, some (17, true), .call i_slices_EqualFunc_api_Val_api_Val_api_Val_api_Val [.t 19, .t 21, .c (.fn (.func 118) [] [])]⟩,
      ⟨some 23, none, .pickb (.t 17) (.t 22) (.c (.bool false))⟩,
      ⟨some 4, none, .mov (.t 23)⟩])
    .ret)), [.tmp 4]⟩
theorem T_model_Equal_1 : trFn Tryz.prog [(0, [1, 1, 0])] Tryz.f116 = some A_model_Equal_1 := by kernel_rfl
theorem L_model_Equal_1 : 2 ≤ Tryz.f116.ntmps := by decide

/-! slices.EqualFunc[[]cartouche/api.Val,[]cartouche/api.Val,cartouche/api.Val,cartouche/api.Val] -/
def A_slices_EqualFunc_api_Val_api_Val_api_Val_api_Val : AFn := ⟨(.seq (.region [⟨some 6, none, .mov (.c (.bool false))⟩])
    (.seq (.seq (.region [⟨some 10, none, .mov (.t 0)⟩,
      ⟨some 11, none, .len false (.t 10)⟩,
      ⟨some 12, none, .mov (.t 1)⟩,
      ⟨some 13, none, .len false (.t 12)⟩,
      ⟨some 14, none, .bin false .neq (.t 11) (.t 13)⟩])
    (.cond (.t 14) (.seq (.region [⟨some 6, none, .mov (.c (.bool false))⟩])
    .ret)
    .skip))
    (.seq (.seq (.region [⟨some 15, none, .mov (.t 0)⟩,
      ⟨some 16, none, .len false (.t 15)⟩,
      ⟨some 17, none, .mov (.c (.int .i64 0))⟩])
    (.block 0 (.loop (.seq (.region [⟨some 18, none, .bin false .lss (.t 17) (.t 16)⟩])
    (.seq (.cond (.t 18) .skip
    (.exit 0))
    (.seq (.block 1 (.seq (.region [⟨some 19, none, .mov (.t 17)⟩,
      ⟨some 20, none, .idxA 3 (.t 15) (.t 17)⟩,
      ⟨some 21, none, .load 3 true (.t 20)⟩,
      ⟨some 8, none, .alloc 0 [.int .u64 0, .nil, .nil]⟩,
      ⟨some 7, none, .mov (.t 19)⟩,
      ⟨none, none, .store 3 (.t 8) (.t 21)⟩])
    (.seq (.region [⟨some 22, none, .mov (.t 1)⟩,
      ⟨some 23, none, .mov (.t 7)⟩,
      ⟨some 24, none, .idxA 3 (.t 22) (.t 23)⟩,
      ⟨some 25, none, .load 3 true (.t 24)⟩,
      ⟨some 9, none, .alloc 0 [.int .u64 0, .nil, .nil]⟩,
      ⟨none, none, .store 3 (.t 9) (.t 25)⟩])
    (.seq (.region [⟨some 26, none, .mov (.t 2)⟩,
      ⟨some 27, none, .load 3 true (.t 8)⟩,
      ⟨some 28, none, .load 3 true (.t 9)⟩,
      ⟨some 29, none, .callv (.t 26) [.t 27, .t 28]⟩,
      ⟨some 30, none, .un .not (.t 29)⟩])
    (.cond (.t 30) (.seq (.region [⟨some 6, none, .mov (.c (.bool false))⟩])
    .ret)
    .skip)))))
    (.region [⟨some 31, none, .bin false .add (.t 17) (.c (.int .i64 1))⟩,
      ⟨some 17, none, .mov (.t 31)⟩])))))))
    (.seq (.region [⟨some 6, none, .mov (.c (.bool true))⟩])
    .ret)))), [.tmp 6]⟩
theorem T_slices_EqualFunc_api_Val_api_Val_api_Val_api_Val : trFn Tryz.prog [(5, [0, 0, 0, 1, 0, 0]), (6, [0, 0, 0, 0, 1, 0])] Tryz.f117 = some A_slices_EqualFunc_api_Val_api_Val_api_Val_api_Val := by kernel_rfl
theorem L_slices_EqualFunc_api_Val_api_Val_api_Val_api_Val : 3 ≤ Tryz.f117.ntmps := by decide

/-! cartouche/model.equalVal -/
def A_model_equalVal : AFn := ⟨(.seq (.region [⟨some 2, none, .box 0 (.t 0)⟩,
      ⟨some 3, none, .box 0 (.t 1)⟩,
      ⟨some 4, none, .mov (.c (.bool false))⟩])
    (.seq (.region [⟨some 5, none, .fldA 0 1 false (.t 2)⟩,
      ⟨some 6, none, .load 1 false (.t 5)⟩,
      ⟨some 7, none, .fldA 0 1 false (.t 3)⟩,
      ⟨some 8, none, .load 1 false (.t 7)⟩,
      ⟨some 9, none, .bin false .eql (.t 6) (.t 8)⟩,
      ⟨some 10, none, .mov (.t 9)⟩,
      ⟨some 11, some (10, true), .fldA 1 1 false (.t 2)⟩,
      ⟨some 12, some (10, true), .load 1 false (.t 11)⟩,
      ⟨some 13, some (10, true), .fldA 1 1 false (.t 3)⟩,
      ⟨some 14, some (10, true), .load 1 false (.t 13)⟩,
      ⟨some 15, some (10, true), .call i_bytes_Equal [.t 12, .t 14]⟩,
      ⟨some 16, none, .pickb (.t 10) (.t 15) (.c (.bool false))⟩,
      ⟨some 17, none, .mov (.t 16)⟩,
      ⟨some 18, some (17, true), .fldA 2 1 false (.t 2)⟩,
      ⟨some 19, some (17, true), .load 1 false (.t 18)⟩,
      ⟨some 20, some (17, true), .fldA 2 1 false (.t 3)⟩,
      ⟨some 21, some (17, true), .load 1 false (.t 20)⟩,
      ⟨some 22, some (17, true), .call i_slices_EqualFunc_api_Msg_api_Msg_api_Msg_api_Msg [.t 19, .t 21, .c (.fn (.func 64) [] [])]⟩,
      ⟨some 23, none, .pickb (.t 17) (.t 22) (.c (.bool false))⟩,
      ⟨some 4, none, .mov (.t 23)⟩])
    .ret)), [.tmp 4]⟩
theorem T_model_equalVal : trFn Tryz.prog [(0, [1, 1, 0])] Tryz.f118 = some A_model_equalVal := by kernel_rfl
theorem L_model_equalVal : 2 ≤ Tryz.f118.ntmps := by decide

/-! slices.EqualFunc[[]cartouche/api.Entry,[]cartouche/api.Entry,cartouche/api.Entry,cartouche/api.Entry] -/
def A_slices_EqualFunc_api_Entry_api_Entry_api_Entry_api_Entry : AFn := ⟨(.seq (.region [⟨some 6, none, .mov (.c (.bool false))⟩])
    (.seq (.seq (.region [⟨some 10, none, .mov (.t 0)⟩,
      ⟨some 11, none, .len false (.t 10)⟩,
      ⟨some 12, none, .mov (.t 1)⟩,
      ⟨some 13, none, .len false (.t 12)⟩,
      ⟨some 14, none, .bin false .neq (.t 11) (.t 13)⟩])
    (.cond (.t 14) (.seq (.region [⟨some 6, none, .mov (.c (.bool false))⟩])
    .ret)
    .skip))
    (.seq (.seq (.region [⟨some 15, none, .mov (.t 0)⟩,
      ⟨some 16, none, .len false (.t 15)⟩,
      ⟨some 17, none, .mov (.c (.int .i64 0))⟩])
    (.block 0 (.loop (.seq (.region [⟨some 18, none, .bin false .lss (.t 17) (.t 16)⟩])
    (.seq (.cond (.t 18) .skip
    (.exit 0))
    (.seq (.block 1 (.seq (.region [⟨some 19, none, .mov (.t 17)⟩,
      ⟨some 20, none, .idxA 4 (.t 15) (.t 17)⟩,
      ⟨some 21, none, .load 4 true (.t 20)⟩,
      ⟨some 8, none, .alloc 0 [.int .i64 0, .int .i64 0, .int .u64 0, .nil]⟩,
      ⟨some 7, none, .mov (.t 19)⟩,
      ⟨none, none, .store 4 (.t 8) (.t 21)⟩])
    (.seq (.region [⟨some 22, none, .mov (.t 1)⟩,
      ⟨some 23, none, .mov (.t 7)⟩,
      ⟨some 24, none, .idxA 4 (.t 22) (.t 23)⟩,
      ⟨some 25, none, .load 4 true (.t 24)⟩,
      ⟨some 9, none, .alloc 0 [.int .i64 0, .int .i64 0, .int .u64 0, .nil]⟩,
      ⟨none, none, .store 4 (.t 9) (.t 25)⟩])
    (.seq (.region [⟨some 26, none, .mov (.t 2)⟩,
      ⟨some 27, none, .load 4 true (.t 8)⟩,
      ⟨some 28, none, .load 4 true (.t 9)⟩,
      ⟨some 29, none, .callv (.t 26) [.t 27, .t 28]⟩,
      ⟨some 30, none, .un .not (.t 29)⟩])
    (.cond (.t 30) (.seq (.region [⟨some 6, none, .mov (.c (.bool false))⟩])
    .ret)
    .skip)))))
    (.region [⟨some 31, none, .bin false .add (.t 17) (.c (.int .i64 1))⟩,
      ⟨some 17, none, .mov (.t 31)⟩])))))))
    (.seq (.region [⟨some 6, none, .mov (.c (.bool true))⟩])
    .ret)))), [.tmp 6]⟩
theorem T_slices_EqualFunc_api_Entry_api_Entry_api_Entry_api_Entry : trFn Tryz.prog [(5, [0, 0, 0, 1, 0, 0]), (6, [0, 0, 0, 0, 1, 0])] Tryz.f119 = some A_slices_EqualFunc_api_Entry_api_Entry_api_Entry_api_Entry := by kernel_rfl
theorem L_slices_EqualFunc_api_Entry_api_Entry_api_Entry_api_Entry : 3 ≤ Tryz.f119.ntmps := by decide

/-! cartouche/model.Equal$2 -/
def A_model_Equal_2 : AFn := ⟨(.seq (.region [⟨some 2, none, .box 0 (.t 0)⟩,
      ⟨some 3, none, .box 0 (.t 1)⟩,
      ⟨some 4, none, .mov (.c (.bool false))⟩])
    (.seq (.region [⟨some 5, none, .fldA 0 1 false (.t 2)⟩,
      ⟨some 6, none, .load 1 false (.t 5)⟩,
      ⟨some 7, none, .fldA 0 1 false (.t 3)⟩,
      ⟨some 8, none, .load 1 false (.t 7)⟩,
      ⟨some 9, none, .bin false .eql (.t 6) (.t 8)⟩,
      ⟨some 10, none, .mov (.t 9)⟩,
      ⟨some 11, some (10, true), .fldA 1 1 false (.t 2)⟩,
      ⟨some 12, some (10, true), .load 1 false (.t 11)⟩,
      ⟨some 13, some (10, true), .fldA 1 1 false (.t 3)⟩,
      ⟨some 14, some (10, true), .load 1 false (.t 13)⟩,
      ⟨some 15, some (10, true), .bin false .eql (.t 12) (.t 14)⟩,
      ⟨some 16, none, .pickb (.t 10) (.t 15) (.c (.bool false))⟩,
      ⟨some 17, none, .mov (.t 16)⟩,
      ⟨some 18, some (17, true), .fldA 2 1 false (.t 2)⟩,
      ⟨some 19, some (17, true), .load 1 false (.t 18)⟩,
      ⟨some 20, some (17, true), .fldA 2 1 false (.t 3)⟩,
      ⟨some 21, some (17, true), .load 1 false (.t 20)⟩,
      ⟨some 22, some (17, true), .bin false .eql (.t 19) (.t 21)⟩,
      ⟨some 23, none, .pickb (.t 17) (.t 22) (.c (.bool false))⟩,
      ⟨some 24, none, .mov (.t 23)⟩,
      ⟨some 25, some (24, true), .fldA 3 1 false (.t 2)⟩,
      ⟨some 26, some (24, true), .load 1 false (.t 25)⟩,
      ⟨some 27, some (24, true), .fldA 3 1 false (.t 3)⟩,
      ⟨some 28, some (24, true), .load 1 false (.t 27)⟩,
      ⟨some 29, some (24, true), .call i_bytes_Equal [.t 26, .t 28]⟩,
      ⟨some 30, none, .pickb (.t 24) (.t 29) (.c (.bool false))⟩,
      ⟨some 4, none, .mov (.t 30)⟩])
    .ret)), [.tmp 4]⟩
theorem T_model_Equal_2 : trFn Tryz.prog [(0, [1, 1, 0])] Tryz.f120 = some A_model_Equal_2 := by kernel_rfl
theorem L_model_Equal_2 : 2 ≤ Tryz.f120.ntmps := by decide

/-! cartouche/table.IsMessage -/
def A_table_IsMessage : AFn := ⟨(.seq (.region [⟨some 2, none, .box 0 (.t 0)⟩,
      ⟨some 4, none, .mov (.c (.bool false))⟩])
    (.seq (.region [⟨some 5, none, .load 1 true (.t 2)⟩,
      ⟨some 6, none, .call i_table_Good [.t 5]⟩,
      ⟨some 7, none, .mov (.t 6)⟩,
      ⟨some 8, some (7, true), .load 1 true (.t 2)⟩,
      ⟨some 9, some (7, true), .mov (.t 1)⟩,
      ⟨some 10, some (7, true), .call i_table_sort [.t 8, .t 9, .c (.bool false)]⟩,
      ⟨some 11, none, .pickb (.t 7) (.t 10) (.c (.bool false))⟩,
      ⟨some 4, none, .mov (.t 11)⟩])
    .ret)), [.tmp 4]⟩
theorem T_table_IsMessage : trFn Tryz.prog [(0, [1, 0])] Tryz.f121 = some A_table_IsMessage := by kernel_rfl
theorem L_table_IsMessage : 2 ≤ Tryz.f121.ntmps := by decide

/-! cartouche/model.typed -/
def A_model_typed : AFn := ⟨(.seq (.region [⟨some 3, none, .box 0 (.t 0)⟩,
      ⟨some 5, none, .box 0 (.t 2)⟩,
      ⟨some 6, none, .mov (.c (.bool false))⟩])
    (.seq (.region [⟨some 18, none, .fldA 0 1 false (.t 3)⟩,
      ⟨some 19, none, .load 1 false (.t 18)⟩,
      ⟨some 20, none, .mov (.t 1)⟩,
      ⟨some 21, none, .idxA 6 (.t 19) (.t 20)⟩,
      ⟨some 22, none, .load 6 true (.t 21)⟩,
      ⟨some 7, none, .alloc 0 [.str ⟨#[]⟩, .bool false, .nil, .nil, .nil, .nil]⟩,
      ⟨none, none, .store 6 (.t 7) (.t 22)⟩])
    (.seq (.region [⟨some 23, none, .fldA 3 1 false (.t 7)⟩,
      ⟨some 24, none, .load 1 false (.t 23)⟩,
      ⟨some 25, none, .len false (.t 24)⟩,
      ⟨some 26, none, .mks 0 3 1 8 (.int .i64 0) (.t 25) (.t 25)⟩,
      ⟨some 8, none, .mov (.t 26)⟩])
    (.seq (.region [⟨some 9, none, .mov (.c (.int .i64 0))⟩])
    (.seq (.seq (.region [⟨some 27, none, .fldA 0 1 false (.t 5)⟩,
      ⟨some 28, none, .load 1 false (.t 27)⟩,
      ⟨some 29, none, .len false (.t 28)⟩,
      ⟨some 30, none, .mov (.c (.int .i64 0))⟩])
    (.block 0 (.loop (.seq (.region [⟨some 31, none, .bin false .lss (.t 30) (.t 29)⟩])
    (.seq (.cond (.t 31) .skip
    (.exit 0))
    (.seq (.block 1 (.seq (.region [⟨some 32, none, .idxA 3 (.t 28) (.t 30)⟩,
      ⟨some 33, none, .load 3 true (.t 32)⟩,
      ⟨some 11, none, .alloc 0 [.int .i64 0, .nil, .nil]⟩,
      ⟨none, none, .store 3 (.t 11) (.t 33)⟩])
    (.seq (.region [⟨some 35, none, .load 6 true (.t 7)⟩,
      ⟨some 36, none, .fldA 0 1 false (.t 11)⟩,
      ⟨some 37, none, .load 1 false (.t 36)⟩,
      ⟨some 38, none, .call i_table_At [.t 35, .t 37]⟩,
      ⟨some 34, none, .mov (.t 38)⟩,
      ⟨some 39, none, .ext 0 (.t 34)⟩,
      ⟨some 40, none, .ext 1 (.t 34)⟩,
      ⟨some 12, none, .alloc 0 [.str ⟨#[]⟩, .int .i64 0, .int .i64 0, .int .i64 0, .int .i64 0, .int .i64 0, .int .i64 0]⟩,
      ⟨none, none, .store 7 (.t 12) (.t 39)⟩,
      ⟨some 13, none, .mov (.t 40)⟩])
    (.seq (.seq (.region [⟨some 41, none, .mov (.t 13)⟩,
      ⟨some 42, none, .un .not (.t 41)⟩,
      ⟨some 43, none, .mov (.t 42)⟩,
      ⟨some 44, some (43, false), .fldA 0 1 false (.t 11)⟩,
      ⟨some 45, some (43, false), .load 1 false (.t 44)⟩,
      ⟨some 46, some (43, false), .mov (.t 9)⟩,
      ⟨some 47, some (43, false), .bin false .leq (.t 45) (.t 46)⟩,
      ⟨some 48, none, .pickb (.t 43) (.c (.bool true)) (.t 47)⟩,
      ⟨some 49, none, .mov (.t 48)⟩,
      ⟨some 50, some (49, false), .load 1 true (.t 3)⟩,
      ⟨some 51, some (49, false), .load 7 true (.t 12)⟩,
      ⟨some 52, some (49, false), .load 3 true (.t 11)⟩,
      ⟨some 53, some (49, false), .call i_model_typedField [.t 50, .t 51, .t 52]⟩,
      ⟨some 54, some (49, false), .un .not (.t 53)⟩,
      ⟨some 55, none, .pickb (.t 49) (.c (.bool true)) (.t 54)⟩])
    (.cond (.t 55) (.seq (.region [⟨some 6, none, .mov (.c (.bool false))⟩])
    .ret)
    .skip))
    (.seq (.region [⟨some 56, none, .fldA 0 1 false (.t 11)⟩,
      ⟨some 57, none, .load 1 false (.t 56)⟩,
      ⟨some 9, none, .mov (.t 57)⟩])
    (.seq (.region [⟨some 58, none, .fldA 4 1 false (.t 12)⟩,
      ⟨some 59, none, .load 1 false (.t 58)⟩,
      ⟨some 60, none, .bin false .eql (.t 59) (.c (.int .i64 4))⟩])
    (.cond (.t 60) (.seq (.region [⟨some 61, none, .mov (.t 8)⟩,
      ⟨some 62, none, .fldA 5 1 false (.t 12)⟩,
      ⟨some 63, none, .load 1 false (.t 62)⟩,
      ⟨some 64, none, .idxA 1 (.t 61) (.t 63)⟩,
      ⟨some 65, none, .load 1 false (.t 64)⟩,
      ⟨some 66, none, .bin false .add (.t 65) (.c (.int .i64 1))⟩,
      ⟨some 67, none, .idxA 1 (.t 61) (.t 63)⟩,
      ⟨none, none, .store 1 (.t 67) (.t 66)⟩])
    (.seq (.region [⟨some 68, none, .mov (.t 8)⟩,
      ⟨some 69, none, .fldA 5 1 false (.t 12)⟩,
      ⟨some 70, none, .load 1 false (.t 69)⟩,
      ⟨some 71, none, .idxA 1 (.t 68) (.t 70)⟩,
      ⟨some 72, none, .load 1 false (.t 71)⟩,
      ⟨some 73, none, .bin false .gtr (.t 72) (.c (.int .i64 1))⟩])
    (.cond (.t 73) (.seq (.region [⟨some 6, none, .mov (.c (.bool false))⟩])
    .ret)
    .skip)))
    .skip)))))))
    (.region [⟨some 74, none, .bin false .add (.t 30) (.c (.int .i64 1))⟩,
      ⟨some 30, none, .mov (.t 74)⟩])))))))
    (.seq (.seq (.region [⟨some 75, none, .fldA 1 1 false (.t 5)⟩,
      ⟨some 76, none, .load 1 false (.t 75)⟩,
      ⟨some 77, none, .len false (.t 76)⟩,
      ⟨some 78, none, .mov (.c (.int .i64 0))⟩])
    (.block 2 (.loop (.seq (.region [⟨some 79, none, .bin false .lss (.t 78) (.t 77)⟩])
    (.seq (.cond (.t 79) .skip
    (.exit 2))
    (.seq (.block 3 (.seq (.region [⟨some 80, none, .idxA 4 (.t 76) (.t 78)⟩,
      ⟨some 81, none, .load 4 true (.t 80)⟩,
      ⟨some 15, none, .alloc 0 [.int .i64 0, .int .i64 0, .int .u64 0, .nil]⟩,
      ⟨none, none, .store 4 (.t 15) (.t 81)⟩])
    (.seq (.region [⟨some 83, none, .load 4 true (.t 15)⟩,
      ⟨some 84, none, .call i_wire_PutEntry [.t 83]⟩,
      ⟨some 82, none, .mov (.t 84)⟩,
      ⟨some 85, none, .ext 0 (.t 82)⟩,
      ⟨some 86, none, .ext 1 (.t 82)⟩,
      ⟨some 16, none, .mov (.t 85)⟩,
      ⟨some 17, none, .mov (.t 86)⟩])
    (.seq (.region [⟨some 87, none, .mov (.t 17)⟩,
      ⟨some 88, none, .bin false .neq (.t 87) (.c (.int .i64 0))⟩])
    (.cond (.t 88) (.seq (.region [⟨some 6, none, .mov (.c (.bool false))⟩])
    .ret)
    .skip)))))
    (.region [⟨some 89, none, .bin false .add (.t 78) (.c (.int .i64 1))⟩,
      ⟨some 78, none, .mov (.t 89)⟩])))))))
    (.seq (.region [⟨some 6, none, .mov (.c (.bool true))⟩])
    .ret))))))), [.tmp 6]⟩
theorem T_model_typed : trFn Tryz.prog [(0, [1, 1, 0]), (1, [0, 0, 0, 0, 0, 1, 0]), (6, [0, 0, 1, 0]), (7, [0, 0, 0, 0, 0, 0, 0, 1, 0, 0]), (18, [0, 0, 1, 0])] Tryz.f122 = some A_model_typed := by kernel_rfl
theorem L_model_typed : 3 ≤ Tryz.f122.ntmps := by decide

/-! cartouche/model.normal -/
def A_model_normal : AFn := ⟨(.seq (.region [⟨some 3, none, .box 0 (.t 0)⟩,
      ⟨some 5, none, .box 0 (.t 2)⟩,
      ⟨some 6, none, .mov (.c (.bool false))⟩])
    (.seq (.region [⟨some 12, none, .fldA 0 1 false (.t 3)⟩,
      ⟨some 13, none, .load 1 false (.t 12)⟩,
      ⟨some 14, none, .mov (.t 1)⟩,
      ⟨some 15, none, .idxA 6 (.t 13) (.t 14)⟩,
      ⟨some 16, none, .load 6 true (.t 15)⟩,
      ⟨some 7, none, .alloc 0 [.str ⟨#[]⟩, .bool false, .nil, .nil, .nil, .nil]⟩,
      ⟨none, none, .store 6 (.t 7) (.t 16)⟩])
    (.seq (.seq (.region [⟨some 17, none, .fldA 0 1 false (.t 5)⟩,
      ⟨some 18, none, .load 1 false (.t 17)⟩,
      ⟨some 19, none, .len false (.t 18)⟩,
      ⟨some 20, none, .mov (.c (.int .i64 0))⟩])
    (.block 0 (.loop (.seq (.region [⟨some 21, none, .bin false .lss (.t 20) (.t 19)⟩])
    (.seq (.cond (.t 21) .skip
    (.exit 0))
    (.seq (.block 1 (.seq (.region [⟨some 22, none, .idxA 3 (.t 18) (.t 20)⟩,
      ⟨some 23, none, .load 3 true (.t 22)⟩,
      ⟨some 9, none, .alloc 0 [.int .i64 0, .nil, .nil]⟩,
      ⟨none, none, .store 3 (.t 9) (.t 23)⟩])
    (.seq (.region [⟨some 25, none, .load 6 true (.t 7)⟩,
      ⟨some 26, none, .fldA 0 1 false (.t 9)⟩,
      ⟨some 27, none, .load 1 false (.t 26)⟩,
      ⟨some 28, none, .call i_table_At [.t 25, .t 27]⟩,
      ⟨some 24, none, .mov (.t 28)⟩,
      ⟨some 29, none, .ext 0 (.t 24)⟩,
      ⟨some 30, none, .ext 1 (.t 24)⟩,
      ⟨some 10, none, .alloc 0 [.str ⟨#[]⟩, .int .i64 0, .int .i64 0, .int .i64 0, .int .i64 0, .int .i64 0, .int .i64 0]⟩,
      ⟨none, none, .store 7 (.t 10) (.t 29)⟩,
      ⟨some 11, none, .mov (.t 30)⟩])
    (.seq (.seq (.region [⟨some 31, none, .load 7 true (.t 10)⟩,
      ⟨some 32, none, .load 3 true (.t 9)⟩,
      ⟨some 33, none, .call i_model_told [.t 31, .t 32]⟩,
      ⟨some 34, none, .un .not (.t 33)⟩])
    (.cond (.t 34) (.seq (.region [⟨some 6, none, .mov (.c (.bool false))⟩])
    .ret)
    .skip))
    (.seq (.region [⟨some 35, none, .fldA 2 1 false (.t 10)⟩,
      ⟨some 36, none, .load 1 false (.t 35)⟩,
      ⟨some 37, none, .bin false .eql (.t 36) (.c (.int .i64 17))⟩,
      ⟨some 38, none, .mov (.t 37)⟩,
      ⟨some 39, some (38, true), .fldA 2 1 false (.t 9)⟩,
      ⟨some 40, some (38, true), .load 1 false (.t 39)⟩,
      ⟨some 41, some (38, true), .mkfn (.func 175) [] [.t 3, .t 10]⟩,
      ⟨some 42, some (38, true), .call i_slices_ContainsFunc_api_Val_api_Val [.t 40, .t 41]⟩,
      ⟨some 43, none, .pickb (.t 38) (.t 42) (.c (.bool false))⟩])
    (.cond (.t 43) (.seq (.region [⟨some 6, none, .mov (.c (.bool false))⟩])
    .ret)
    .skip))))))
    (.region [⟨some 44, none, .bin false .add (.t 20) (.c (.int .i64 1))⟩,
      ⟨some 20, none, .mov (.t 44)⟩])))))))
    (.seq (.region [⟨some 45, none, .fldA 1 1 false (.t 5)⟩,
      ⟨some 46, none, .load 1 false (.t 45)⟩,
      ⟨some 47, none, .mkfn (.func 177) [] [.t 7]⟩,
      ⟨some 48, none, .call i_slices_ContainsFunc_api_Entry_api_Entry [.t 46, .t 47]⟩,
      ⟨some 49, none, .un .not (.t 48)⟩,
      ⟨some 6, none, .mov (.t 49)⟩])
    .ret)))), [.tmp 6]⟩
theorem T_model_normal : trFn Tryz.prog [(0, [1, 1, 0]), (1, [0, 0, 0, 0, 0, 1, 0]), (4, [0, 0, 1, 0]), (5, [0, 0, 0, 0, 0, 0, 0, 1, 0, 0])] Tryz.f123 = some A_model_normal := by kernel_rfl
theorem L_model_normal : 3 ≤ Tryz.f123.ntmps := by decide

/-! slices.DeleteFunc[[]cartouche/api.Field,cartouche/api.Field] -/
def A_slices_DeleteFunc_api_Field_api_Field : AFn := ⟨(.seq (.region [⟨some 4, none, .mov (.c (.nil))⟩])
    (.seq (.region [⟨some 8, none, .mov (.t 0)⟩,
      ⟨some 9, none, .mov (.t 1)⟩,
      ⟨some 10, none, .call i_slices_IndexFunc_api_Field_api_Field [.t 8, .t 9]⟩,
      ⟨some 5, none, .mov (.t 10)⟩])
    (.seq (.seq (.region [⟨some 11, none, .mov (.t 5)⟩,
      ⟨some 12, none, .bin false .eql (.t 11) (.c (.int .i64 (-1)))⟩])
    (.cond (.t 12) (.seq (.region [⟨some 13, none, .mov (.t 0)⟩,
      ⟨some 4, none, .mov (.t 13)⟩])
    .ret)
    .skip))
    (.seq (.seq (.region [⟨some 14, none, .mov (.t 5)⟩,
      ⟨some 15, none, .bin false .add (.t 14) (.c (.int .i64 1))⟩,
      ⟨some 6, none, .mov (.t 15)⟩])
    (.block 0 (.loop (.seq (.seq (.region [⟨some 16, none, .mov (.t 6)⟩,
      ⟨some 17, none, .mov (.t 0)⟩,
      ⟨some 18, none, .len false (.t 17)⟩,
      ⟨some 19, none, .bin false .lss (.t 16) (.t 18)⟩])
    (.cond (.t 19) .skip
    (.exit 0)))
    (.seq (.block 1 (.seq (.region [⟨some 22, none, .mov (.t 0)⟩,
      ⟨some 23, none, .mov (.t 6)⟩,
      ⟨some 24, none, .idxA 3 (.t 22) (.t 23)⟩,
      ⟨some 25, none, .load 3 true (.t 24)⟩,
      ⟨some 7, none, .alloc 0 [.int .i64 0, .nil, .nil]⟩,
      ⟨none, none, .store 3 (.t 7) (.t 25)⟩])
    (.seq (.region [⟨some 26, none, .mov (.t 1)⟩,
      ⟨some 27, none, .load 3 true (.t 7)⟩,
      ⟨some 28, none, .callv (.t 26) [.t 27]⟩,
      ⟨some 29, none, .un .not (.t 28)⟩])
    (.cond (.t 29) (.seq (.region [⟨some 30, none, .mov (.t 0)⟩,
      ⟨some 31, none, .mov (.t 5)⟩,
      ⟨some 32, none, .load 3 true (.t 7)⟩,
      ⟨some 33, none, .idxA 3 (.t 30) (.t 31)⟩,
      ⟨none, none, .store 3 (.t 33) (.t 32)⟩])
    (.region [⟨some 34, none, .mov (.t 5)⟩,
      ⟨some 35, none, .bin false .add (.t 34) (.c (.int .i64 1))⟩,
      ⟨some 5, none, .mov (.t 35)⟩]))
    .skip))))
    (.region [⟨some 20, none, .mov (.t 6)⟩,
      ⟨some 21, none, .bin false .add (.t 20) (.c (.int .i64 1))⟩,
      ⟨some 6, none, .mov (.t 21)⟩]))))))
    (.seq (.region [⟨some 36, none, .mov (.t 0)⟩,
      ⟨some 37, none, .mov (.t 5)⟩,
      ⟨some 38, none, .slcT 0 3 (.t 36) (.t 37)⟩,
      ⟨none, none, .clr 3 (.agg [.int .i64 0, .nil, .nil]) (.t 38)⟩])
    (.seq (.region [⟨some 39, none, .mov (.t 0)⟩,
      ⟨some 40, none, .mov (.t 5)⟩,
      ⟨some 41, none, .slcH 3 (.t 39) (.t 40)⟩,
      ⟨some 4, none, .mov (.t 41)⟩])
    .ret)))))), [.tmp 4]⟩
theorem T_slices_DeleteFunc_api_Field_api_Field : trFn Tryz.prog [(7, [0, 0, 0, 0, 1, 0]), (11, [0, 0, 1000, 902]), (12, [0, 0, 901, 0])] Tryz.f124 = some A_slices_DeleteFunc_api_Field_api_Field := by kernel_rfl
theorem L_slices_DeleteFunc_api_Field_api_Field : 2 ≤ Tryz.f124.ntmps := by decide

/-! cartouche/model.settled$1 -/
def A_model_settled_1 : AFn := ⟨(.seq (.region [⟨some 2, none, .box 0 (.t 0)⟩,
      ⟨some 3, none, .mov (.c (.bool false))⟩])
    (.seq (.region [⟨some 7, none, .load 6 true (.t 1)⟩,
      ⟨some 8, none, .fldA 0 1 false (.t 2)⟩,
      ⟨some 9, none, .load 1 false (.t 8)⟩,
      ⟨some 10, none, .call i_table_At [.t 7, .t 9]⟩,
      ⟨some 6, none, .mov (.t 10)⟩,
      ⟨some 11, none, .ext 0 (.t 6)⟩,
      ⟨some 12, none, .ext 1 (.t 6)⟩,
      ⟨some 4, none, .alloc 0 [.str ⟨#[]⟩, .int .i64 0, .int .i64 0, .int .i64 0, .int .i64 0, .int .i64 0, .int .i64 0]⟩,
      ⟨none, none, .store 7 (.t 4) (.t 11)⟩,
      ⟨some 5, none, .mov (.t 12)⟩])
    (.seq (.region [⟨some 13, none, .load 7 true (.t 4)⟩,
      ⟨some 14, none, .load 3 true (.t 2)⟩,
      ⟨some 15, none, .call i_model_told [.t 13, .t 14]⟩,
      ⟨some 16, none, .un .not (.t 15)⟩,
      ⟨some 3, none, .mov (.t 16)⟩])
    .ret))), [.tmp 3]⟩
theorem T_model_settled_1 : trFn Tryz.prog [(0, [1, 0]), (1, [0, 0, 0, 0, 0, 0, 0, 1, 0, 0])] Tryz.f125 = some A_model_settled_1 := by kernel_rfl
theorem L_model_settled_1 : 2 ≤ Tryz.f125.ntmps := by decide

/-! cartouche/table.At -/
def A_table_At : AFn := ⟨(.seq (.region [⟨some 2, none, .box 0 (.t 0)⟩,
      ⟨some 4, none, .alloc 0 [.str ⟨#[]⟩, .int .i64 0, .int .i64 0, .int .i64 0, .int .i64 0, .int .i64 0, .int .i64 0]⟩,
      ⟨some 5, none, .mov (.c (.bool false))⟩])
    (.seq (.draw [1, 2] [⟨some 9, none, .fldA 2 1 false (.t 2)⟩,
      ⟨some 10, none, .load 1 false (.t 9)⟩,
      ⟨some 11, none, .len false (.t 10)⟩,
      ⟨some 6, none, .mov (.c (.int .i64 0))⟩,
      ⟨some 7, none, .mov (.t 11)⟩])
    (.seq (.block 0 (.loop (.seq (.seq (.region [⟨some 12, none, .mov (.t 6)⟩,
      ⟨some 13, none, .mov (.t 7)⟩,
      ⟨some 14, none, .bin false .lss (.t 12) (.t 13)⟩])
    (.cond (.t 14) .skip
    (.exit 0)))
    (.block 1 (.seq (.region [⟨some 15, none, .mov (.t 6)⟩,
      ⟨some 16, none, .mov (.t 7)⟩,
      ⟨some 17, none, .bin false .add (.t 15) (.t 16)⟩,
      ⟨some 18, none, .bin false .quo (.t 17) (.c (.int .i64 2))⟩,
      ⟨some 8, none, .mov (.t 18)⟩])
    (.seq (.region [⟨some 19, none, .fldA 2 1 false (.t 2)⟩,
      ⟨some 20, none, .load 1 false (.t 19)⟩,
      ⟨some 21, none, .mov (.t 8)⟩,
      ⟨some 22, none, .idxA 7 (.t 20) (.t 21)⟩,
      ⟨some 23, none, .fldA 1 1 false (.t 22)⟩,
      ⟨some 24, none, .load 1 false (.t 23)⟩,
      ⟨some 25, none, .mov (.t 1)⟩,
      ⟨some 26, none, .bin false .lss (.t 24) (.t 25)⟩])
    (.cond (.t 26) (.region [⟨some 27, none, .mov (.t 8)⟩,
      ⟨some 28, none, .bin false .add (.t 27) (.c (.int .i64 1))⟩,
      ⟨some 6, none, .mov (.t 28)⟩])
    (.region [⟨some 29, none, .mov (.t 8)⟩,
      ⟨some 7, none, .mov (.t 29)⟩]))))))))
    (.seq (.seq (.region [⟨some 30, none, .mov (.t 6)⟩,
      ⟨some 31, none, .fldA 2 1 false (.t 2)⟩,
      ⟨some 32, none, .load 1 false (.t 31)⟩,
      ⟨some 33, none, .len false (.t 32)⟩,
      ⟨some 34, none, .bin false .eql (.t 30) (.t 33)⟩,
      ⟨some 35, none, .mov (.t 34)⟩,
      ⟨some 36, some (35, false), .fldA 2 1 false (.t 2)⟩,
      ⟨some 37, some (35, false), .load 1 false (.t 36)⟩,
      ⟨some 38, some (35, false), .mov (.t 6)⟩,
      ⟨some 39, some (35, false), .idxA 7 (.t 37) (.t 38)⟩,
      ⟨some 40, some (35, false), .fldA 1 1 false (.t 39)⟩,
      ⟨some 41, some (35, false), .load 1 false (.t 40)⟩,
      ⟨some 42, some (35, false), .mov (.t 1)⟩,
      ⟨some 43, some (35, false), .bin false .neq (.t 41) (.t 42)⟩,
      ⟨some 44, none, .pickb (.t 35) (.c (.bool true)) (.t 43)⟩])
    (.cond (.t 44) (.seq (.region [⟨some 45, none, .build [.str ⟨#[]⟩, .int .i64 0, .int .i64 0, .int .i64 0, .int .i64 0, .int .i64 0, .int .i64 0] []⟩,
      ⟨none, none, .store 7 (.t 4) (.t 45)⟩,
      ⟨some 5, none, .mov (.c (.bool false))⟩])
    .ret)
    .skip))
    (.seq (.region [⟨some 46, none, .fldA 2 1 false (.t 2)⟩,
      ⟨some 47, none, .load 1 false (.t 46)⟩,
      ⟨some 48, none, .mov (.t 6)⟩,
      ⟨some 49, none, .idxA 7 (.t 47) (.t 48)⟩,
      ⟨some 50, none, .load 7 true (.t 49)⟩,
      ⟨none, none, .store 7 (.t 4) (.t 50)⟩,
      ⟨some 5, none, .mov (.c (.bool true))⟩])
    .ret))))), [.cell 4 7 true, .tmp 5]⟩
theorem T_table_At : trFn Tryz.prog [(0, [1, 1, 0]), (1000001, [1, 2])] Tryz.f126 = some A_table_At := by kernel_rfl
theorem L_table_At : 2 ≤ Tryz.f126.ntmps := by decide

/-! cartouche/model.told -/
def A_model_told : AFn := ⟨(.seq (.region [⟨some 2, none, .box 0 (.t 0)⟩,
      ⟨some 3, none, .box 0 (.t 1)⟩,
      ⟨some 4, none, .mov (.c (.bool false))⟩])
    (.seq (.seq (.region [⟨some 5, none, .fldA 4 1 false (.t 2)⟩,
      ⟨some 6, none, .load 1 false (.t 5)⟩])
    (.block 0 (.seq (.region [⟨some 8, none, .bin false .eql (.t 6) (.c (.int .i64 0))⟩,
      ⟨some 7, none, .mov (.t 8)⟩])
    (.cond (.t 7) (.seq (.region [⟨some 9, none, .fldA 2 1 false (.t 3)⟩,
      ⟨some 10, none, .load 1 false (.t 9)⟩,
      ⟨some 11, none, .idxA 3 (.t 10) (.c (.int .i64 0))⟩,
      ⟨some 12, none, .load 3 true (.t 11)⟩,
      ⟨some 13, none, .call i_model_Nothing [.t 12]⟩,
      ⟨some 14, none, .un .not (.t 13)⟩,
      ⟨some 4, none, .mov (.t 14)⟩])
    .ret)
    (.seq (.seq (.region [⟨some 16, none, .bin false .eql (.t 6) (.c (.int .i64 2))⟩,
      ⟨some 15, none, .mov (.t 16)⟩])
    (.cond (.t 15) .skip
    (.seq (.region [⟨some 17, none, .bin false .eql (.t 6) (.c (.int .i64 3))⟩,
      ⟨some 15, none, .mov (.t 17)⟩])
    (.cond (.t 15) .skip
    (.region [⟨some 18, none, .bin false .eql (.t 6) (.c (.int .i64 5))⟩,
      ⟨some 15, none, .mov (.t 18)⟩])))))
    (.cond (.t 15) (.seq (.region [⟨some 19, none, .fldA 2 1 false (.t 3)⟩,
      ⟨some 20, none, .load 1 false (.t 19)⟩,
      ⟨some 21, none, .len false (.t 20)⟩,
      ⟨some 22, none, .bin false .gtr (.t 21) (.c (.int .i64 0))⟩,
      ⟨some 4, none, .mov (.t 22)⟩])
    .ret)
    .skip))))))
    (.seq (.region [⟨some 4, none, .mov (.c (.bool true))⟩])
    .ret))), [.tmp 4]⟩
theorem T_model_told : trFn Tryz.prog [(0, [1, 1, 0])] Tryz.f127 = some A_model_told := by kernel_rfl
theorem L_model_told : 2 ≤ Tryz.f127.ntmps := by decide

/-! slices.DeleteFunc[[]cartouche/api.Entry,cartouche/api.Entry] -/
def A_slices_DeleteFunc_api_Entry_api_Entry : AFn := ⟨(.seq (.region [⟨some 4, none, .mov (.c (.nil))⟩])
    (.seq (.region [⟨some 8, none, .mov (.t 0)⟩,
      ⟨some 9, none, .mov (.t 1)⟩,
      ⟨some 10, none, .call i_slices_IndexFunc_api_Entry_api_Entry [.t 8, .t 9]⟩,
      ⟨some 5, none, .mov (.t 10)⟩])
    (.seq (.seq (.region [⟨some 11, none, .mov (.t 5)⟩,
      ⟨some 12, none, .bin false .eql (.t 11) (.c (.int .i64 (-1)))⟩])
    (.cond (.t 12) (.seq (.region [⟨some 13, none, .mov (.t 0)⟩,
      ⟨some 4, none, .mov (.t 13)⟩])
    .ret)
    .skip))
    (.seq (.seq (.region [⟨some 14, none, .mov (.t 5)⟩,
      ⟨some 15, none, .bin false .add (.t 14) (.c (.int .i64 1))⟩,
      ⟨some 6, none, .mov (.t 15)⟩])
    (.block 0 (.loop (.seq (.seq (.region [⟨some 16, none, .mov (.t 6)⟩,
      ⟨some 17, none, .mov (.t 0)⟩,
      ⟨some 18, none, .len false (.t 17)⟩,
      ⟨some 19, none, .bin false .lss (.t 16) (.t 18)⟩])
    (.cond (.t 19) .skip
    (.exit 0)))
    (.seq (.block 1 (.seq (.region [⟨some 22, none, .mov (.t 0)⟩,
      ⟨some 23, none, .mov (.t 6)⟩,
      ⟨some 24, none, .idxA 4 (.t 22) (.t 23)⟩,
      ⟨some 25, none, .load 4 true (.t 24)⟩,
      ⟨some 7, none, .alloc 0 [.int .i64 0, .int .i64 0, .int .u64 0, .nil]⟩,
      ⟨none, none, .store 4 (.t 7) (.t 25)⟩])
    (.seq (.region [⟨some 26, none, .mov (.t 1)⟩,
      ⟨some 27, none, .load 4 true (.t 7)⟩,
      ⟨some 28, none, .callv (.t 26) [.t 27]⟩,
      ⟨some 29, none, .un .not (.t 28)⟩])
    (.cond (.t 29) (.seq (.region [⟨some 30, none, .mov (.t 0)⟩,
      ⟨some 31, none, .mov (.t 5)⟩,
      ⟨some 32, none, .load 4 true (.t 7)⟩,
      ⟨some 33, none, .idxA 4 (.t 30) (.t 31)⟩,
      ⟨none, none, .store 4 (.t 33) (.t 32)⟩])
    (.region [⟨some 34, none, .mov (.t 5)⟩,
      ⟨some 35, none, .bin false .add (.t 34) (.c (.int .i64 1))⟩,
      ⟨some 5, none, .mov (.t 35)⟩]))
    .skip))))
    (.region [⟨some 20, none, .mov (.t 6)⟩,
      ⟨some 21, none, .bin false .add (.t 20) (.c (.int .i64 1))⟩,
      ⟨some 6, none, .mov (.t 21)⟩]))))))
    (.seq (.region [⟨some 36, none, .mov (.t 0)⟩,
      ⟨some 37, none, .mov (.t 5)⟩,
      ⟨some 38, none, .slcT 0 4 (.t 36) (.t 37)⟩,
      ⟨none, none, .clr 4 (.agg [.int .i64 0, .int .i64 0, .int .u64 0, .nil]) (.t 38)⟩])
    (.seq (.region [⟨some 39, none, .mov (.t 0)⟩,
      ⟨some 40, none, .mov (.t 5)⟩,
      ⟨some 41, none, .slcH 4 (.t 39) (.t 40)⟩,
      ⟨some 4, none, .mov (.t 41)⟩])
    .ret)))))), [.tmp 4]⟩
theorem T_slices_DeleteFunc_api_Entry_api_Entry : trFn Tryz.prog [(7, [0, 0, 0, 0, 1, 0]), (11, [0, 0, 1000, 902]), (12, [0, 0, 901, 0])] Tryz.f128 = some A_slices_DeleteFunc_api_Entry_api_Entry := by kernel_rfl
theorem L_slices_DeleteFunc_api_Entry_api_Entry : 2 ≤ Tryz.f128.ntmps := by decide

/-! cartouche/model.settled$2 -/
def A_model_settled_2 : AFn := ⟨(.seq (.region [⟨some 2, none, .box 0 (.t 0)⟩,
      ⟨some 3, none, .mov (.c (.bool false))⟩])
    (.seq (.region [⟨some 4, none, .load 6 true (.t 1)⟩,
      ⟨some 5, none, .load 4 true (.t 2)⟩,
      ⟨some 6, none, .call i_model_Taken [.t 4, .t 5]⟩,
      ⟨some 3, none, .mov (.t 6)⟩])
    .ret)), [.tmp 3]⟩
theorem T_model_settled_2 : trFn Tryz.prog [(0, [1, 0])] Tryz.f129 = some A_model_settled_2 := by kernel_rfl
theorem L_model_settled_2 : 2 ≤ Tryz.f129.ntmps := by decide

/-! cartouche/model.Taken -/
def A_model_Taken : AFn := ⟨(.seq (.region [⟨some 2, none, .box 0 (.t 0)⟩,
      ⟨some 3, none, .box 0 (.t 1)⟩,
      ⟨some 4, none, .mov (.c (.bool false))⟩])
    (.seq (.region [⟨some 8, none, .load 6 true (.t 2)⟩,
      ⟨some 9, none, .fldA 0 1 false (.t 3)⟩,
      ⟨some 10, none, .load 1 false (.t 9)⟩,
      ⟨some 11, none, .call i_table_At [.t 8, .t 10]⟩,
      ⟨some 7, none, .mov (.t 11)⟩,
      ⟨some 12, none, .ext 0 (.t 7)⟩,
      ⟨some 13, none, .ext 1 (.t 7)⟩,
      ⟨some 5, none, .alloc 0 [.str ⟨#[]⟩, .int .i64 0, .int .i64 0, .int .i64 0, .int .i64 0, .int .i64 0, .int .i64 0]⟩,
      ⟨none, none, .store 7 (.t 5) (.t 12)⟩,
      ⟨some 6, none, .mov (.t 13)⟩])
    (.seq (.region [⟨some 14, none, .mov (.t 6)⟩,
      ⟨some 15, none, .mov (.t 14)⟩,
      ⟨some 16, some (15, true), .load 7 true (.t 5)⟩,
      ⟨some 17, some (15, true), .fldA 1 1 false (.t 3)⟩,
      ⟨some 18, some (15, true), .load 1 false (.t 17)⟩,
      ⟨some 19, some (15, true), .call i_table_How [.t 16, .t 18]⟩,
      ⟨some 20, some (15, true), .bin false .neq (.t 19) (.c (.int .i64 0))⟩,
      ⟨some 21, none, .pickb (.t 15) (.t 20) (.c (.bool false))⟩,
      ⟨some 4, none, .mov (.t 21)⟩])
    .ret))), [.tmp 4]⟩
theorem T_model_Taken : trFn Tryz.prog [(0, [1, 1, 0]), (1, [0, 0, 0, 0, 0, 0, 0, 1, 0, 0])] Tryz.f130 = some A_model_Taken := by kernel_rfl
theorem L_model_Taken : 2 ≤ Tryz.f130.ntmps := by decide

/-! cartouche/model.each[cartouche/api.Field] -/
def A_model_each_api_Field : AFn := ⟨(.seq (.region [⟨some 4, none, .mov (.c (.nil))⟩])
    (.seq (.region [⟨some 8, none, .mov (.t 0)⟩,
      ⟨some 9, none, .len false (.t 8)⟩,
      ⟨some 10, none, .mks 0 29 3 56 (.agg [.int .i64 0, .nil, .nil]) (.c (.int .i64 0)) (.t 9)⟩,
      ⟨some 5, none, .mov (.t 10)⟩])
    (.seq (.seq (.region [⟨some 11, none, .mov (.t 0)⟩,
      ⟨some 12, none, .len false (.t 11)⟩,
      ⟨some 13, none, .mov (.c (.int .i64 0))⟩])
    (.block 0 (.loop (.seq (.region [⟨some 14, none, .bin false .lss (.t 13) (.t 12)⟩])
    (.seq (.cond (.t 14) .skip
    (.exit 0))
    (.seq (.block 1 (.seq (.region [⟨some 15, none, .idxA 3 (.t 11) (.t 13)⟩,
      ⟨some 16, none, .load 3 true (.t 15)⟩,
      ⟨some 7, none, .alloc 0 [.int .i64 0, .nil, .nil]⟩,
      ⟨none, none, .store 3 (.t 7) (.t 16)⟩])
    (.region [⟨some 17, none, .mov (.t 5)⟩,
      ⟨some 18, none, .mov (.t 1)⟩,
      ⟨some 19, none, .load 3 true (.t 7)⟩,
      ⟨some 20, none, .callv (.t 18) [.t 19]⟩,
      ⟨some 21, none, .blit 0 29 3 [.t 20]⟩,
      ⟨some 22, none, .app 0 29 3 56 (.t 17) (.t 21)⟩,
      ⟨some 5, none, .mov (.t 22)⟩])))
    (.region [⟨some 23, none, .bin false .add (.t 13) (.c (.int .i64 1))⟩,
      ⟨some 13, none, .mov (.t 23)⟩])))))))
    (.seq (.region [⟨some 24, none, .mov (.t 5)⟩,
      ⟨some 4, none, .mov (.t 24)⟩])
    .ret)))), [.tmp 4]⟩
theorem T_model_each_api_Field : trFn Tryz.prog [(4, [0, 0, 1, 0]), (5, [0, 0, 0, 0, 1, 0, 0])] Tryz.f131 = some A_model_each_api_Field := by kernel_rfl
theorem L_model_each_api_Field : 2 ≤ Tryz.f131.ntmps := by decide

/-! cartouche/model.CopyField -/
def A_model_CopyField : AFn := ⟨(.seq (.region [⟨some 1, none, .box 0 (.t 0)⟩,
      ⟨some 2, none, .alloc 0 [.int .i64 0, .nil, .nil]⟩])
    (.seq (.draw [3, 4, 7, 8, 9, 1000001, 1000006, 2000008, 2000009] [⟨some 3, none, .fldA 0 1 false (.t 1)⟩,
      ⟨some 4, none, .load 1 false (.t 3)⟩,
      ⟨some 5, none, .fldA 1 1 false (.t 1)⟩,
      ⟨some 6, none, .load 1 false (.t 5)⟩,
      ⟨some 7, none, .call i_model_each_api_Val [.t 6, .c (.fn (.func 182) [] [])]⟩,
      ⟨some 8, none, .fldA 2 1 false (.t 1)⟩,
      ⟨some 9, none, .load 1 false (.t 8)⟩,
      ⟨some 10, none, .call i_model_each_api_Val [.t 9, .c (.fn (.func 182) [] [])]⟩,
      ⟨some 11, none, .build [.int .i64 0, .nil, .nil] [(0, 1, .t 4), (1, 1, .t 7), (2, 1, .t 10)]⟩,
      ⟨none, none, .store 3 (.t 2) (.t 11)⟩])
    .ret)), [.cell 2 3 true]⟩
theorem T_model_CopyField : trFn Tryz.prog [(0, [1, 1]), (1000001, [3, 4, 7, 8, 9, 1000001, 1000006, 2000008, 2000009])] Tryz.f132 = some A_model_CopyField := by kernel_rfl
theorem L_model_CopyField : 1 ≤ Tryz.f132.ntmps := by decide

/-! cartouche/model.each[cartouche/api.Entry] -/
def A_model_each_api_Entry : AFn := ⟨(.seq (.region [⟨some 4, none, .mov (.c (.nil))⟩])
    (.seq (.region [⟨some 8, none, .mov (.t 0)⟩,
      ⟨some 9, none, .len false (.t 8)⟩,
      ⟨some 10, none, .mks 0 40 4 48 (.agg [.int .i64 0, .int .i64 0, .int .u64 0, .nil]) (.c (.int .i64 0)) (.t 9)⟩,
      ⟨some 5, none, .mov (.t 10)⟩])
    (.seq (.seq (.region [⟨some 11, none, .mov (.t 0)⟩,
      ⟨some 12, none, .len false (.t 11)⟩,
      ⟨some 13, none, .mov (.c (.int .i64 0))⟩])
    (.block 0 (.loop (.seq (.region [⟨some 14, none, .bin false .lss (.t 13) (.t 12)⟩])
    (.seq (.cond (.t 14) .skip
    (.exit 0))
    (.seq (.block 1 (.seq (.region [⟨some 15, none, .idxA 4 (.t 11) (.t 13)⟩,
      ⟨some 16, none, .load 4 true (.t 15)⟩,
      ⟨some 7, none, .alloc 0 [.int .i64 0, .int .i64 0, .int .u64 0, .nil]⟩,
      ⟨none, none, .store 4 (.t 7) (.t 16)⟩])
    (.region [⟨some 17, none, .mov (.t 5)⟩,
      ⟨some 18, none, .mov (.t 1)⟩,
      ⟨some 19, none, .load 4 true (.t 7)⟩,
      ⟨some 20, none, .callv (.t 18) [.t 19]⟩,
      ⟨some 21, none, .blit 0 40 4 [.t 20]⟩,
      ⟨some 22, none, .app 0 40 4 48 (.t 17) (.t 21)⟩,
      ⟨some 5, none, .mov (.t 22)⟩])))
    (.region [⟨some 23, none, .bin false .add (.t 13) (.c (.int .i64 1))⟩,
      ⟨some 13, none, .mov (.t 23)⟩])))))))
    (.seq (.region [⟨some 24, none, .mov (.t 5)⟩,
      ⟨some 4, none, .mov (.t 24)⟩])
    .ret)))), [.tmp 4]⟩
theorem T_model_each_api_Entry : trFn Tryz.prog [(4, [0, 0, 1, 0]), (5, [0, 0, 0, 0, 1, 0, 0])] Tryz.f133 = some A_model_each_api_Entry := by kernel_rfl
theorem L_model_each_api_Entry : 2 ≤ Tryz.f133.ntmps := by decide

/-! cartouche/model.CopyEntry -/
def A_model_CopyEntry : AFn := ⟨(.seq (.region [⟨some 1, none, .box 0 (.t 0)⟩,
      ⟨some 2, none, .alloc 0 [.int .i64 0, .int .i64 0, .int .u64 0, .nil]⟩])
    (.seq (.region [⟨some 3, none, .fldA 3 1 false (.t 1)⟩,
      ⟨some 4, none, .load 1 false (.t 3)⟩,
      ⟨some 5, none, .call i_model_list [.t 4]⟩,
      ⟨some 6, none, .fldA 3 1 false (.t 1)⟩,
      ⟨none, none, .store 1 (.t 6) (.t 5)⟩])
    (.seq (.region [⟨some 7, none, .load 4 true (.t 1)⟩,
      ⟨none, none, .store 4 (.t 2) (.t 7)⟩])
    .ret))), [.cell 2 4 true]⟩
theorem T_model_CopyEntry : trFn Tryz.prog [(0, [1, 1])] Tryz.f134 = some A_model_CopyEntry := by kernel_rfl
theorem L_model_CopyEntry : 1 ≤ Tryz.f134.ntmps := by decide

/-! slices.IndexFunc[[]cartouche/api.Field,cartouche/api.Field] -/
def A_slices_IndexFunc_api_Field_api_Field : AFn := ⟨(.seq (.region [⟨some 4, none, .mov (.c (.int .i64 0))⟩])
    (.seq (.seq (.region [⟨some 6, none, .mov (.t 0)⟩,
      ⟨some 7, none, .len false (.t 6)⟩,
      ⟨some 8, none, .mov (.c (.int .i64 0))⟩])
    (.block 0 (.loop (.seq (.region [⟨some 9, none, .bin false .lss (.t 8) (.t 7)⟩])
    (.seq (.cond (.t 9) .skip
    (.exit 0))
    (.seq (.block 1 (.seq (.region [⟨some 10, none, .mov (.t 8)⟩,
      ⟨some 5, none, .mov (.t 10)⟩])
    (.seq (.region [⟨some 11, none, .mov (.t 1)⟩,
      ⟨some 12, none, .mov (.t 0)⟩,
      ⟨some 13, none, .mov (.t 5)⟩,
      ⟨some 14, none, .idxA 3 (.t 12) (.t 13)⟩,
      ⟨some 15, none, .load 3 true (.t 14)⟩,
      ⟨some 16, none, .callv (.t 11) [.t 15]⟩])
    (.cond (.t 16) (.seq (.region [⟨some 17, none, .mov (.t 5)⟩,
      ⟨some 4, none, .mov (.t 17)⟩])
    .ret)
    .skip))))
    (.region [⟨some 18, none, .bin false .add (.t 8) (.c (.int .i64 1))⟩,
      ⟨some 8, none, .mov (.t 18)⟩])))))))
    (.seq (.region [⟨some 4, none, .mov (.c (.int .i64 (-1)))⟩])
    .ret))), [.tmp 4]⟩
theorem T_slices_IndexFunc_api_Field_api_Field : trFn Tryz.prog [] Tryz.f138 = some A_slices_IndexFunc_api_Field_api_Field := by kernel_rfl
theorem L_slices_IndexFunc_api_Field_api_Field : 2 ≤ Tryz.f138.ntmps := by decide

/-! cartouche/table.Good -/
def A_table_Good : AFn := ⟨(.seq (.region [⟨some 1, none, .box 0 (.t 0)⟩,
      ⟨some 2, none, .mov (.c (.bool false))⟩])
    (.seq (.seq (.region [⟨some 8, none, .fldA 0 1 false (.t 1)⟩,
      ⟨some 9, none, .load 1 false (.t 8)⟩,
      ⟨some 10, none, .len false (.t 9)⟩,
      ⟨some 11, none, .bin false .gtr (.t 10) (.c (.int .i64 128))⟩])
    (.cond (.t 11) (.seq (.region [⟨some 2, none, .mov (.c (.bool false))⟩])
    .ret)
    .skip))
    (.seq (.region [⟨some 12, none, .mkmap 0 .str⟩,
      ⟨some 3, none, .mov (.t 12)⟩])
    (.seq (.seq (.region [⟨some 13, none, .fldA 0 1 false (.t 1)⟩,
      ⟨some 14, none, .load 1 false (.t 13)⟩,
      ⟨some 15, none, .len false (.t 14)⟩,
      ⟨some 16, none, .mov (.c (.int .i64 0))⟩])
    (.block 0 (.loop (.seq (.region [⟨some 17, none, .bin false .lss (.t 16) (.t 15)⟩])
    (.seq (.cond (.t 17) .skip
    (.exit 0))
    (.seq (.block 1 (.seq (.region [⟨some 18, none, .mov (.t 16)⟩,
      ⟨some 19, none, .idxA 6 (.t 14) (.t 16)⟩,
      ⟨some 20, none, .load 6 true (.t 19)⟩,
      ⟨some 5, none, .alloc 0 [.str ⟨#[]⟩, .bool false, .nil, .nil, .nil, .nil]⟩,
      ⟨some 4, none, .mov (.t 18)⟩,
      ⟨none, none, .store 6 (.t 5) (.t 20)⟩])
    (.seq (.seq (.region [⟨some 22, none, .mov (.t 3)⟩,
      ⟨some 23, none, .fldA 0 1 false (.t 5)⟩,
      ⟨some 24, none, .load 1 false (.t 23)⟩,
      ⟨some 25, none, .look .str (.int .i64 0) true (.t 22) (.t 24)⟩,
      ⟨some 21, none, .mov (.t 25)⟩,
      ⟨some 26, none, .ext 0 (.t 21)⟩,
      ⟨some 27, none, .ext 1 (.t 21)⟩,
      ⟨some 6, none, .mov (.t 26)⟩,
      ⟨some 7, none, .mov (.t 27)⟩])
    (.seq (.region [⟨some 28, none, .mov (.t 7)⟩,
      ⟨some 29, none, .mov (.t 28)⟩,
      ⟨some 30, some (29, false), .load 1 true (.t 1)⟩,
      ⟨some 31, some (29, false), .mov (.t 4)⟩,
      ⟨some 32, some (29, false), .mov (.t 3)⟩,
      ⟨some 33, some (29, false), .call i_table_goodName [.t 30, .t 31, .t 32]⟩,
      ⟨some 34, some (29, false), .un .not (.t 33)⟩,
      ⟨some 35, none, .pickb (.t 29) (.c (.bool true)) (.t 34)⟩])
    (.cond (.t 35) (.seq (.region [⟨some 2, none, .mov (.c (.bool false))⟩])
    .ret)
    .skip)))
    (.seq (.region [⟨some 36, none, .mov (.t 3)⟩,
      ⟨some 37, none, .fldA 0 1 false (.t 5)⟩,
      ⟨some 38, none, .load 1 false (.t 37)⟩,
      ⟨some 39, none, .mov (.t 4)⟩,
      ⟨none, none, .mapset .str (.t 36) (.t 38) (.t 39)⟩])
    (.seq (.region [⟨some 40, none, .fldA 1 1 false (.t 5)⟩,
      ⟨some 41, none, .load 1 false (.t 40)⟩,
      ⟨some 42, none, .mov (.t 41)⟩,
      ⟨some 43, some (42, true), .load 6 true (.t 5)⟩,
      ⟨some 44, some (42, true), .call i_table_goodEnum [.t 43]⟩,
      ⟨some 45, some (42, true), .un .not (.t 44)⟩,
      ⟨some 46, none, .pickb (.t 42) (.t 45) (.c (.bool false))⟩,
      ⟨some 47, none, .mov (.t 46)⟩,
      ⟨some 48, some (47, false), .fldA 1 1 false (.t 5)⟩,
      ⟨some 49, some (47, false), .load 1 false (.t 48)⟩,
      ⟨some 50, some (47, false), .un .not (.t 49)⟩,
      ⟨some 51, some (47, false), .mov (.t 50)⟩,
      ⟨some 52, some (51, true), .load 1 true (.t 1)⟩,
      ⟨some 53, some (51, true), .load 6 true (.t 5)⟩,
      ⟨some 54, some (51, true), .call i_table_goodMessage [.t 52, .t 53]⟩,
      ⟨some 55, some (51, true), .un .not (.t 54)⟩,
      ⟨some 56, some (47, false), .pickb (.t 51) (.t 55) (.c (.bool false))⟩,
      ⟨some 57, none, .pickb (.t 47) (.c (.bool true)) (.t 56)⟩])
    (.cond (.t 57) (.seq (.region [⟨some 2, none, .mov (.c (.bool false))⟩])
    .ret)
    .skip))))))
    (.region [⟨some 58, none, .bin false .add (.t 16) (.c (.int .i64 1))⟩,
      ⟨some 16, none, .mov (.t 58)⟩])))))))
    (.seq (.region [⟨some 2, none, .mov (.c (.bool true))⟩])
    .ret))))), [.tmp 2]⟩
theorem T_table_Good : trFn Tryz.prog [(0, [1, 0]), (6, [0, 0, 0, 1, 0, 0])] Tryz.f145 = some A_table_Good := by kernel_rfl
theorem L_table_Good : 1 ≤ Tryz.f145.ntmps := by decide

/-! cartouche/wire.PutEntry -/
def A_wire_PutEntry : AFn := ⟨(.seq (.region [⟨some 1, none, .box 0 (.t 0)⟩,
      ⟨some 2, none, .mov (.c (.nil))⟩,
      ⟨some 3, none, .mov (.c (.int .i64 0))⟩])
    (.seq (.region [⟨some 7, none, .fldA 0 1 false (.t 1)⟩,
      ⟨some 8, none, .load 1 false (.t 7)⟩,
      ⟨some 9, none, .fldA 1 1 false (.t 1)⟩,
      ⟨some 10, none, .load 1 false (.t 9)⟩,
      ⟨some 11, none, .call i_wire_PutTag [.t 8, .t 10]⟩,
      ⟨some 6, none, .mov (.t 11)⟩,
      ⟨some 12, none, .ext 0 (.t 6)⟩,
      ⟨some 13, none, .ext 1 (.t 6)⟩,
      ⟨some 4, none, .mov (.t 12)⟩,
      ⟨some 5, none, .mov (.t 13)⟩])
    (.seq (.block 0 (.seq (.region [⟨some 15, none, .mov (.t 5)⟩,
      ⟨some 16, none, .bin false .neq (.t 15) (.c (.int .i64 0))⟩,
      ⟨some 14, none, .mov (.t 16)⟩])
    (.cond (.t 14) (.seq (.region [⟨some 17, none, .mov (.t 5)⟩,
      ⟨some 2, none, .mov (.c (.nil))⟩,
      ⟨some 3, none, .mov (.t 17)⟩])
    .ret)
    (.seq (.seq (.region [⟨some 19, none, .fldA 1 1 false (.t 1)⟩,
      ⟨some 20, none, .load 1 false (.t 19)⟩,
      ⟨some 21, none, .bin false .eql (.t 20) (.c (.int .i64 5))⟩,
      ⟨some 22, none, .mov (.t 21)⟩,
      ⟨some 23, some (22, true), .fldA 2 1 false (.t 1)⟩,
      ⟨some 24, some (22, true), .load 1 false (.t 23)⟩,
      ⟨some 25, some (22, true), .bin false .shr (.t 24) (.c (.int .u64 32))⟩,
      ⟨some 26, some (22, true), .bin false .neq (.t 25) (.c (.int .u64 0))⟩,
      ⟨some 27, none, .pickb (.t 22) (.t 26) (.c (.bool false))⟩,
      ⟨some 18, none, .mov (.t 27)⟩])
    (.cond (.t 18) .skip
    (.seq (.region [⟨some 28, none, .fldA 1 1 false (.t 1)⟩,
      ⟨some 29, none, .load 1 false (.t 28)⟩,
      ⟨some 30, none, .bin false .eql (.t 29) (.c (.int .i64 2))⟩,
      ⟨some 31, none, .mov (.t 30)⟩,
      ⟨some 32, some (31, true), .fldA 2 1 false (.t 1)⟩,
      ⟨some 33, some (31, true), .load 1 false (.t 32)⟩,
      ⟨some 34, some (31, true), .bin false .neq (.t 33) (.c (.int .u64 0))⟩,
      ⟨some 35, none, .pickb (.t 31) (.t 34) (.c (.bool false))⟩,
      ⟨some 18, none, .mov (.t 35)⟩])
    (.cond (.t 18) .skip
    (.region [⟨some 36, none, .fldA 1 1 false (.t 1)⟩,
      ⟨some 37, none, .load 1 false (.t 36)⟩,
      ⟨some 38, none, .bin false .neq (.t 37) (.c (.int .i64 2))⟩,
      ⟨some 39, none, .mov (.t 38)⟩,
      ⟨some 40, some (39, true), .fldA 3 1 false (.t 1)⟩,
      ⟨some 41, some (39, true), .load 1 false (.t 40)⟩,
      ⟨some 42, some (39, true), .len false (.t 41)⟩,
      ⟨some 43, some (39, true), .bin false .gtr (.t 42) (.c (.int .i64 0))⟩,
      ⟨some 44, none, .pickb (.t 39) (.t 43) (.c (.bool false))⟩,
      ⟨some 18, none, .mov (.t 44)⟩])))))
    (.cond (.t 18) (.seq (.region [⟨some 2, none, .mov (.c (.nil))⟩,
      ⟨some 3, none, .mov (.c (.int .i64 7))⟩])
    .ret)
    .skip)))))
    (.seq (.seq (.region [⟨some 45, none, .fldA 1 1 false (.t 1)⟩,
      ⟨some 46, none, .load 1 false (.t 45)⟩])
    (.block 1 (.seq (.region [⟨some 57, none, .bin false .eql (.t 46) (.c (.int .i64 0))⟩,
      ⟨some 56, none, .mov (.t 57)⟩])
    (.cond (.t 56) (.region [⟨some 58, none, .mov (.t 4)⟩,
      ⟨some 59, none, .fldA 2 1 false (.t 1)⟩,
      ⟨some 60, none, .load 1 false (.t 59)⟩,
      ⟨some 61, none, .call i_wire_varint [.t 58, .t 60]⟩,
      ⟨some 4, none, .mov (.t 61)⟩])
    (.seq (.region [⟨some 63, none, .bin false .eql (.t 46) (.c (.int .i64 1))⟩,
      ⟨some 62, none, .mov (.t 63)⟩])
    (.cond (.t 62) (.region [⟨some 64, none, .mov (.t 4)⟩,
      ⟨some 65, none, .fldA 2 1 false (.t 1)⟩,
      ⟨some 66, none, .load 1 false (.t 65)⟩,
      ⟨some 67, none, .call i_wire_word [.t 66, .c (.int .i64 8)]⟩,
      ⟨some 68, none, .app 0 5 1 1 (.t 64) (.t 67)⟩,
      ⟨some 4, none, .mov (.t 68)⟩])
    (.seq (.region [⟨some 70, none, .bin false .eql (.t 46) (.c (.int .i64 5))⟩,
      ⟨some 69, none, .mov (.t 70)⟩])
    (.cond (.t 69) (.region [⟨some 71, none, .mov (.t 4)⟩,
      ⟨some 72, none, .fldA 2 1 false (.t 1)⟩,
      ⟨some 73, none, .load 1 false (.t 72)⟩,
      ⟨some 74, none, .call i_wire_word [.t 73, .c (.int .i64 4)]⟩,
      ⟨some 75, none, .app 0 5 1 1 (.t 71) (.t 74)⟩,
      ⟨some 4, none, .mov (.t 75)⟩])
    (.draw [2, 3, 5, 8, 1000007, 2000008] [⟨some 47, none, .mov (.t 4)⟩,
      ⟨some 48, none, .fldA 3 1 false (.t 1)⟩,
      ⟨some 49, none, .load 1 false (.t 48)⟩,
      ⟨some 50, none, .len false (.t 49)⟩,
      ⟨some 51, none, .conv .u64 (.t 50)⟩,
      ⟨some 52, none, .call i_wire_varint [.t 47, .t 51]⟩,
      ⟨some 53, none, .fldA 3 1 false (.t 1)⟩,
      ⟨some 54, none, .load 1 false (.t 53)⟩,
      ⟨some 55, none, .app 0 5 1 1 (.t 52) (.t 54)⟩,
      ⟨some 4, none, .mov (.t 55)⟩])))))))))
    (.seq (.region [⟨some 76, none, .mov (.t 4)⟩,
      ⟨some 77, none, .len false (.t 76)⟩,
      ⟨some 78, none, .mks 0 5 1 1 (.int .u8 0) (.c (.int .i64 0)) (.t 77)⟩,
      ⟨some 79, none, .mov (.t 4)⟩,
      ⟨some 80, none, .app 0 5 1 1 (.t 78) (.t 79)⟩,
      ⟨some 2, none, .mov (.t 80)⟩,
      ⟨some 3, none, .mov (.c (.int .i64 0))⟩])
    .ret))))), [.tmp 2, .tmp 3]⟩
theorem T_wire_PutEntry : trFn Tryz.prog [(0, [1, 0, 0]), (1000009, [2, 3, 5, 8, 1000007, 2000008])] Tryz.f160 = some A_wire_PutEntry := by kernel_rfl
theorem L_wire_PutEntry : 1 ≤ Tryz.f160.ntmps := by decide

/-! cartouche/wire.varint -/
def A_wire_varint : AFn := ⟨(.seq (.region [⟨some 4, none, .mov (.c (.nil))⟩])
    (.seq (.block 0 (.loop (.seq (.seq (.region [⟨some 5, none, .mov (.t 1)⟩,
      ⟨some 6, none, .bin false .geq (.t 5) (.c (.int .u64 128))⟩])
    (.cond (.t 6) .skip
    (.exit 0)))
    (.block 1 (.seq (.region [⟨some 7, none, .mov (.t 0)⟩,
      ⟨some 8, none, .mov (.t 1)⟩,
      ⟨some 9, none, .conv .u8 (.t 8)⟩,
      ⟨some 10, none, .bin false .or (.t 9) (.c (.int .u8 128))⟩,
      ⟨some 11, none, .blit 0 5 1 [.t 10]⟩,
      ⟨some 12, none, .app 0 5 1 1 (.t 7) (.t 11)⟩,
      ⟨some 0, none, .mov (.t 12)⟩])
    (.region [⟨some 13, none, .mov (.t 1)⟩,
      ⟨some 14, none, .bin false .shr (.t 13) (.c (.int .u64 7))⟩,
      ⟨some 1, none, .mov (.t 14)⟩]))))))
    (.seq (.region [⟨some 15, none, .mov (.t 0)⟩,
      ⟨some 16, none, .mov (.t 1)⟩,
      ⟨some 17, none, .conv .u8 (.t 16)⟩,
      ⟨some 18, none, .blit 0 5 1 [.t 17]⟩,
      ⟨some 19, none, .app 0 5 1 1 (.t 15) (.t 18)⟩,
      ⟨some 4, none, .mov (.t 19)⟩])
    .ret))), [.tmp 4]⟩
theorem T_wire_varint : trFn Tryz.prog [(2, [0, 0, 0, 0, 1, 0, 0]), (4, [0, 0, 0, 1, 0, 0])] Tryz.f163 = some A_wire_varint := by kernel_rfl
theorem L_wire_varint : 2 ≤ Tryz.f163.ntmps := by decide

/-! cartouche/wire.Size -/
def A_wire_Size : AFn := ⟨(.seq (.region [⟨some 2, none, .mov (.c (.int .i64 0))⟩])
    (.seq (.region [⟨some 3, none, .mov (.t 0)⟩,
      ⟨some 4, none, .call i_bits_Len64 [.t 3]⟩,
      ⟨some 5, none, .mm true (.c (.int .i64 1)) (.t 4)⟩,
      ⟨some 6, none, .bin false .add (.t 5) (.c (.int .i64 7))⟩,
      ⟨some 7, none, .bin false .sub (.t 6) (.c (.int .i64 1))⟩,
      ⟨some 8, none, .bin false .quo (.t 7) (.c (.int .i64 7))⟩,
      ⟨some 2, none, .mov (.t 8)⟩])
    .ret)), [.tmp 2]⟩
theorem T_wire_Size : trFn Tryz.prog [] Tryz.f164 = some A_wire_Size := by kernel_rfl
theorem L_wire_Size : 1 ≤ Tryz.f164.ntmps := by decide

/-! cartouche/wire.word -/
def A_wire_word : AFn := ⟨(.seq (.region [⟨some 4, none, .mov (.c (.nil))⟩])
    (.seq (.region [⟨some 7, none, .mov (.t 1)⟩,
      ⟨some 8, none, .mks 0 5 1 1 (.int .u8 0) (.c (.int .i64 0)) (.t 7)⟩,
      ⟨some 5, none, .mov (.t 8)⟩])
    (.seq (.seq (.region [⟨some 9, none, .mov (.t 1)⟩,
      ⟨some 10, none, .mov (.c (.int .i64 0))⟩])
    (.block 0 (.loop (.seq (.region [⟨some 11, none, .bin false .lss (.t 10) (.t 9)⟩])
    (.seq (.cond (.t 11) .skip
    (.exit 0))
    (.seq (.block 1 (.seq (.region [⟨some 12, none, .mov (.t 10)⟩,
      ⟨some 6, none, .mov (.t 12)⟩])
    (.region [⟨some 13, none, .mov (.t 5)⟩,
      ⟨some 14, none, .mov (.t 0)⟩,
      ⟨some 15, none, .mov (.t 6)⟩,
      ⟨some 16, none, .bin false .mul (.c (.int .i64 8)) (.t 15)⟩,
      ⟨some 17, none, .bin false .shr (.t 14) (.t 16)⟩,
      ⟨some 18, none, .conv .u8 (.t 17)⟩,
      ⟨some 19, none, .blit 0 5 1 [.t 18]⟩,
      ⟨some 20, none, .app 0 5 1 1 (.t 13) (.t 19)⟩,
      ⟨some 5, none, .mov (.t 20)⟩])))
    (.region [⟨some 21, none, .bin false .add (.t 10) (.c (.int .i64 1))⟩,
      ⟨some 10, none, .mov (.t 21)⟩])))))))
    (.seq (.region [⟨some 22, none, .mov (.t 5)⟩,
      ⟨some 4, none, .mov (.t 22)⟩])
    .ret)))), [.tmp 4]⟩
theorem T_wire_word : trFn Tryz.prog [(5, [0, 0, 0, 0, 0, 0, 1, 0, 0])] Tryz.f165 = some A_wire_word := by kernel_rfl
theorem L_wire_word : 2 ≤ Tryz.f165.ntmps := by decide

/-! slices.EqualFunc[[]cartouche/api.Msg,[]cartouche/api.Msg,cartouche/api.Msg,cartouche/api.Msg] -/
def A_slices_EqualFunc_api_Msg_api_Msg_api_Msg_api_Msg : AFn := ⟨(.seq (.region [⟨some 6, none, .mov (.c (.bool false))⟩])
    (.seq (.seq (.region [⟨some 10, none, .mov (.t 0)⟩,
      ⟨some 11, none, .len false (.t 10)⟩,
      ⟨some 12, none, .mov (.t 1)⟩,
      ⟨some 13, none, .len false (.t 12)⟩,
      ⟨some 14, none, .bin false .neq (.t 11) (.t 13)⟩])
    (.cond (.t 14) (.seq (.region [⟨some 6, none, .mov (.c (.bool false))⟩])
    .ret)
    .skip))
    (.seq (.seq (.region [⟨some 15, none, .mov (.t 0)⟩,
      ⟨some 16, none, .len false (.t 15)⟩,
      ⟨some 17, none, .mov (.c (.int .i64 0))⟩])
    (.block 0 (.loop (.seq (.region [⟨some 18, none, .bin false .lss (.t 17) (.t 16)⟩])
    (.seq (.cond (.t 18) .skip
    (.exit 0))
    (.seq (.block 1 (.seq (.region [⟨some 19, none, .mov (.t 17)⟩,
      ⟨some 20, none, .idxA 2 (.t 15) (.t 17)⟩,
      ⟨some 21, none, .load 2 true (.t 20)⟩,
      ⟨some 8, none, .alloc 0 [.nil, .nil]⟩,
      ⟨some 7, none, .mov (.t 19)⟩,
      ⟨none, none, .store 2 (.t 8) (.t 21)⟩])
    (.seq (.region [⟨some 22, none, .mov (.t 1)⟩,
      ⟨some 23, none, .mov (.t 7)⟩,
      ⟨some 24, none, .idxA 2 (.t 22) (.t 23)⟩,
      ⟨some 25, none, .load 2 true (.t 24)⟩,
      ⟨some 9, none, .alloc 0 [.nil, .nil]⟩,
      ⟨none, none, .store 2 (.t 9) (.t 25)⟩])
    (.seq (.region [⟨some 26, none, .mov (.t 2)⟩,
      ⟨some 27, none, .load 2 true (.t 8)⟩,
      ⟨some 28, none, .load 2 true (.t 9)⟩,
      ⟨some 29, none, .callv (.t 26) [.t 27, .t 28]⟩,
      ⟨some 30, none, .un .not (.t 29)⟩])
    (.cond (.t 30) (.seq (.region [⟨some 6, none, .mov (.c (.bool false))⟩])
    .ret)
    .skip)))))
    (.region [⟨some 31, none, .bin false .add (.t 17) (.c (.int .i64 1))⟩,
      ⟨some 17, none, .mov (.t 31)⟩])))))))
    (.seq (.region [⟨some 6, none, .mov (.c (.bool true))⟩])
    .ret)))), [.tmp 6]⟩
theorem T_slices_EqualFunc_api_Msg_api_Msg_api_Msg_api_Msg : trFn Tryz.prog [(5, [0, 0, 0, 1, 0, 0]), (6, [0, 0, 0, 0, 1, 0])] Tryz.f171 = some A_slices_EqualFunc_api_Msg_api_Msg_api_Msg_api_Msg := by kernel_rfl
theorem L_slices_EqualFunc_api_Msg_api_Msg_api_Msg_api_Msg : 3 ≤ Tryz.f171.ntmps := by decide

/-! cartouche/table.sort -/
def A_table_sort : AFn := ⟨(.seq (.region [⟨some 3, none, .box 0 (.t 0)⟩,
      ⟨some 6, none, .mov (.c (.bool false))⟩])
    (.seq (.region [⟨some 7, none, .mov (.t 1)⟩,
      ⟨some 8, none, .bin false .geq (.t 7) (.c (.int .i64 0))⟩,
      ⟨some 9, none, .mov (.t 8)⟩,
      ⟨some 10, some (9, true), .mov (.t 1)⟩,
      ⟨some 11, some (9, true), .fldA 0 1 false (.t 3)⟩,
      ⟨some 12, some (9, true), .load 1 false (.t 11)⟩,
      ⟨some 13, some (9, true), .len false (.t 12)⟩,
      ⟨some 14, some (9, true), .bin false .lss (.t 10) (.t 13)⟩,
      ⟨some 15, none, .pickb (.t 9) (.t 14) (.c (.bool false))⟩,
      ⟨some 16, none, .mov (.t 15)⟩,
      ⟨some 17, some (16, true), .fldA 0 1 false (.t 3)⟩,
      ⟨some 18, some (16, true), .load 1 false (.t 17)⟩,
      ⟨some 19, some (16, true), .mov (.t 1)⟩,
      ⟨some 20, some (16, true), .idxA 6 (.t 18) (.t 19)⟩,
      ⟨some 21, some (16, true), .fldA 1 1 false (.t 20)⟩,
      ⟨some 22, some (16, true), .load 1 false (.t 21)⟩,
      ⟨some 23, some (16, true), .mov (.t 2)⟩,
      ⟨some 24, some (16, true), .bin true .eql (.t 22) (.t 23)⟩,
      ⟨some 25, none, .pickb (.t 16) (.t 24) (.c (.bool false))⟩,
      ⟨some 6, none, .mov (.t 25)⟩])
    .ret)), [.tmp 6]⟩
theorem T_table_sort : trFn Tryz.prog [(0, [1, 0])] Tryz.f172 = some A_table_sort := by kernel_rfl
theorem L_table_sort : 3 ≤ Tryz.f172.ntmps := by decide

/-! cartouche/model.typedField -/
def A_model_typedField : AFn := ⟨(.seq (.region [⟨some 3, none, .box 0 (.t 0)⟩,
      ⟨some 4, none, .box 0 (.t 1)⟩,
      ⟨some 5, none, .box 0 (.t 2)⟩,
      ⟨some 6, none, .mov (.c (.bool false))⟩])
    (.seq (.seq (.region [⟨some 11, none, .fldA 4 1 false (.t 4)⟩,
      ⟨some 12, none, .load 1 false (.t 11)⟩])
    (.block 0 (.seq (.seq (.region [⟨some 18, none, .bin false .eql (.t 12) (.c (.int .i64 0))⟩,
      ⟨some 17, none, .mov (.t 18)⟩])
    (.cond (.t 17) .skip
    (.seq (.region [⟨some 19, none, .bin false .eql (.t 12) (.c (.int .i64 1))⟩,
      ⟨some 17, none, .mov (.t 19)⟩])
    (.cond (.t 17) .skip
    (.region [⟨some 20, none, .bin false .eql (.t 12) (.c (.int .i64 4))⟩,
      ⟨some 17, none, .mov (.t 20)⟩])))))
    (.cond (.t 17) (.seq (.region [⟨some 21, none, .fldA 2 1 false (.t 5)⟩,
      ⟨some 22, none, .load 1 false (.t 21)⟩,
      ⟨some 23, none, .len false (.t 22)⟩,
      ⟨some 24, none, .bin false .neq (.t 23) (.c (.int .i64 1))⟩,
      ⟨some 25, none, .mov (.t 24)⟩,
      ⟨some 26, some (25, false), .fldA 1 1 false (.t 5)⟩,
      ⟨some 27, some (25, false), .load 1 false (.t 26)⟩,
      ⟨some 28, some (25, false), .len false (.t 27)⟩,
      ⟨some 29, some (25, false), .bin false .gtr (.t 28) (.c (.int .i64 0))⟩,
      ⟨some 30, none, .pickb (.t 25) (.c (.bool true)) (.t 29)⟩])
    (.cond (.t 30) (.seq (.region [⟨some 6, none, .mov (.c (.bool false))⟩])
    .ret)
    .skip))
    (.seq (.region [⟨some 32, none, .bin false .eql (.t 12) (.c (.int .i64 5))⟩,
      ⟨some 31, none, .mov (.t 32)⟩])
    (.cond (.t 31) (.seq (.seq (.region [⟨some 33, none, .fldA 1 1 false (.t 5)⟩,
      ⟨some 34, none, .load 1 false (.t 33)⟩,
      ⟨some 35, none, .len false (.t 34)⟩,
      ⟨some 36, none, .fldA 2 1 false (.t 5)⟩,
      ⟨some 37, none, .load 1 false (.t 36)⟩,
      ⟨some 38, none, .len false (.t 37)⟩,
      ⟨some 39, none, .bin false .neq (.t 35) (.t 38)⟩])
    (.cond (.t 39) (.seq (.region [⟨some 6, none, .mov (.c (.bool false))⟩])
    .ret)
    .skip))
    (.seq (.region [⟨some 40, none, .fldA 1 1 false (.t 5)⟩,
      ⟨some 41, none, .load 1 false (.t 40)⟩,
      ⟨some 42, none, .len false (.t 41)⟩,
      ⟨some 43, none, .mov (.c (.int .i64 0))⟩])
    (.block 1 (.loop (.seq (.region [⟨some 44, none, .bin false .lss (.t 43) (.t 42)⟩])
    (.seq (.cond (.t 44) .skip
    (.exit 1))
    (.seq (.block 2 (.seq (.region [⟨some 45, none, .mov (.t 43)⟩,
      ⟨some 46, none, .idxA 3 (.t 41) (.t 43)⟩,
      ⟨some 47, none, .load 3 true (.t 46)⟩,
      ⟨some 8, none, .alloc 0 [.int .u64 0, .nil, .nil]⟩,
      ⟨some 7, none, .mov (.t 45)⟩,
      ⟨none, none, .store 3 (.t 8) (.t 47)⟩])
    (.seq (.seq (.region [⟨some 48, none, .load 1 true (.t 3)⟩,
      ⟨some 49, none, .fldA 6 1 false (.t 4)⟩,
      ⟨some 50, none, .load 1 false (.t 49)⟩,
      ⟨some 51, none, .load 3 true (.t 8)⟩,
      ⟨some 52, none, .call i_model_typedVal [.t 48, .t 50, .c (.int .i64 0), .t 51]⟩,
      ⟨some 53, none, .un .not (.t 52)⟩])
    (.cond (.t 53) (.seq (.region [⟨some 6, none, .mov (.c (.bool false))⟩])
    .ret)
    .skip))
    (.seq (.region [⟨some 54, none, .mov (.t 7)⟩,
      ⟨some 55, none, .bin false .gtr (.t 54) (.c (.int .i64 0))⟩])
    (.cond (.t 55) (.seq (.draw [1, 9, 1000003, 1000006, 1000007, 1000008, 2000009] [⟨some 57, none, .fldA 6 1 false (.t 4)⟩,
      ⟨some 58, none, .load 1 false (.t 57)⟩,
      ⟨some 59, none, .fldA 1 1 false (.t 5)⟩,
      ⟨some 60, none, .load 1 false (.t 59)⟩,
      ⟨some 61, none, .mov (.t 7)⟩,
      ⟨some 62, none, .bin false .sub (.t 61) (.c (.int .i64 1))⟩,
      ⟨some 63, none, .idxA 3 (.t 60) (.t 62)⟩,
      ⟨some 64, none, .load 3 true (.t 63)⟩,
      ⟨some 65, none, .load 3 true (.t 8)⟩,
      ⟨some 66, none, .call i_scalar_Compare [.t 58, .t 64, .t 65]⟩,
      ⟨some 56, none, .mov (.t 66)⟩,
      ⟨some 67, none, .ext 0 (.t 56)⟩,
      ⟨some 68, none, .ext 1 (.t 56)⟩,
      ⟨some 9, none, .mov (.t 67)⟩,
      ⟨some 10, none, .mov (.t 68)⟩])
    (.seq (.region [⟨some 69, none, .mov (.t 9)⟩,
      ⟨some 70, none, .bin false .geq (.t 69) (.c (.int .i64 0))⟩])
    (.cond (.t 70) (.seq (.region [⟨some 6, none, .mov (.c (.bool false))⟩])
    .ret)
    .skip)))
    .skip)))))
    (.region [⟨some 71, none, .bin false .add (.t 43) (.c (.int .i64 1))⟩,
      ⟨some 43, none, .mov (.t 71)⟩]))))))))
    (.seq (.region [⟨some 13, none, .fldA 1 1 false (.t 5)⟩,
      ⟨some 14, none, .load 1 false (.t 13)⟩,
      ⟨some 15, none, .len false (.t 14)⟩,
      ⟨some 16, none, .bin false .gtr (.t 15) (.c (.int .i64 0))⟩])
    (.cond (.t 16) (.seq (.region [⟨some 6, none, .mov (.c (.bool false))⟩])
    .ret)
    .skip))))))))
    (.seq (.region [⟨some 72, none, .fldA 2 1 false (.t 5)⟩,
      ⟨some 73, none, .load 1 false (.t 72)⟩,
      ⟨some 74, none, .mkfn (.func 218) [] [.t 3, .t 4]⟩,
      ⟨some 75, none, .call i_slices_ContainsFunc_api_Val_api_Val [.t 73, .t 74]⟩,
      ⟨some 76, none, .un .not (.t 75)⟩,
      ⟨some 6, none, .mov (.t 76)⟩])
    .ret))), [.tmp 6]⟩
theorem T_model_typedField : trFn Tryz.prog [(0, [1, 1, 1, 0]), (14, [0, 0, 0, 1, 0, 0]), (1000018, [1, 9, 1000003, 1000006, 1000007, 1000008, 2000009])] Tryz.f173 = some A_model_typedField := by kernel_rfl
theorem L_model_typedField : 3 ≤ Tryz.f173.ntmps := by decide

/-! slices.ContainsFunc[[]cartouche/api.Val,cartouche/api.Val] -/
def A_slices_ContainsFunc_api_Val_api_Val : AFn := ⟨(.seq (.region [⟨some 4, none, .mov (.c (.bool false))⟩])
    (.seq (.region [⟨some 5, none, .mov (.t 0)⟩,
      ⟨some 6, none, .mov (.t 1)⟩,
      ⟨some 7, none, .call i_slices_IndexFunc_api_Val_api_Val [.t 5, .t 6]⟩,
      ⟨some 8, none, .bin false .geq (.t 7) (.c (.int .i64 0))⟩,
      ⟨some 4, none, .mov (.t 8)⟩])
    .ret)), [.tmp 4]⟩
theorem T_slices_ContainsFunc_api_Val_api_Val : trFn Tryz.prog [] Tryz.f174 = some A_slices_ContainsFunc_api_Val_api_Val := by kernel_rfl
theorem L_slices_ContainsFunc_api_Val_api_Val : 2 ≤ Tryz.f174.ntmps := by decide

/-! cartouche/model.normal$1 -/
def A_model_normal_1 : AFn := ⟨(.seq (.region [⟨some 3, none, .box 0 (.t 0)⟩,
      ⟨some 4, none, .mov (.c (.bool false))⟩])
    (.seq (.draw [0, 7, 1000002, 1000004, 1000005, 1000006, 2000007] [⟨some 5, none, .load 1 true (.t 1)⟩,
      ⟨some 6, none, .fldA 3 1 false (.t 2)⟩,
      ⟨some 7, none, .load 1 false (.t 6)⟩,
      ⟨some 8, none, .fldA 2 1 false (.t 3)⟩,
      ⟨some 9, none, .load 1 false (.t 8)⟩,
      ⟨some 10, none, .idxA 2 (.t 9) (.c (.int .i64 0))⟩,
      ⟨some 11, none, .load 2 true (.t 10)⟩,
      ⟨some 12, none, .call i_model_normal [.t 5, .t 7, .t 11]⟩,
      ⟨some 13, none, .un .not (.t 12)⟩,
      ⟨some 4, none, .mov (.t 13)⟩])
    .ret)), [.tmp 4]⟩
theorem T_model_normal_1 : trFn Tryz.prog [(0, [1, 0]), (1000001, [0, 7, 1000002, 1000004, 1000005, 1000006, 2000007])] Tryz.f175 = some A_model_normal_1 := by kernel_rfl
theorem L_model_normal_1 : 3 ≤ Tryz.f175.ntmps := by decide

/-! slices.ContainsFunc[[]cartouche/api.Entry,cartouche/api.Entry] -/
def A_slices_ContainsFunc_api_Entry_api_Entry : AFn := ⟨(.seq (.region [⟨some 4, none, .mov (.c (.bool false))⟩])
    (.seq (.region [⟨some 5, none, .mov (.t 0)⟩,
      ⟨some 6, none, .mov (.t 1)⟩,
      ⟨some 7, none, .call i_slices_IndexFunc_api_Entry_api_Entry [.t 5, .t 6]⟩,
      ⟨some 8, none, .bin false .geq (.t 7) (.c (.int .i64 0))⟩,
      ⟨some 4, none, .mov (.t 8)⟩])
    .ret)), [.tmp 4]⟩
theorem T_slices_ContainsFunc_api_Entry_api_Entry : trFn Tryz.prog [] Tryz.f176 = some A_slices_ContainsFunc_api_Entry_api_Entry := by kernel_rfl
theorem L_slices_ContainsFunc_api_Entry_api_Entry : 2 ≤ Tryz.f176.ntmps := by decide

/-! cartouche/model.normal$2 -/
def A_model_normal_2 : AFn := ⟨(.seq (.region [⟨some 2, none, .box 0 (.t 0)⟩,
      ⟨some 3, none, .mov (.c (.bool false))⟩])
    (.seq (.region [⟨some 4, none, .load 6 true (.t 1)⟩,
      ⟨some 5, none, .load 4 true (.t 2)⟩,
      ⟨some 6, none, .call i_model_Taken [.t 4, .t 5]⟩,
      ⟨some 3, none, .mov (.t 6)⟩])
    .ret)), [.tmp 3]⟩
theorem T_model_normal_2 : trFn Tryz.prog [(0, [1, 0])] Tryz.f177 = some A_model_normal_2 := by kernel_rfl
theorem L_model_normal_2 : 2 ≤ Tryz.f177.ntmps := by decide

/-! cartouche/model.Nothing -/
def A_model_Nothing : AFn := ⟨(.seq (.region [⟨some 1, none, .box 0 (.t 0)⟩,
      ⟨some 2, none, .mov (.c (.bool false))⟩])
    (.seq (.region [⟨some 3, none, .fldA 0 1 false (.t 1)⟩,
      ⟨some 4, none, .load 1 false (.t 3)⟩,
      ⟨some 5, none, .bin false .eql (.t 4) (.c (.int .u64 0))⟩,
      ⟨some 6, none, .mov (.t 5)⟩,
      ⟨some 7, some (6, true), .fldA 1 1 false (.t 1)⟩,
      ⟨some 8, some (6, true), .load 1 false (.t 7)⟩,
      ⟨some 9, some (6, true), .len false (.t 8)⟩,
      ⟨some 10, some (6, true), .bin false .eql (.t 9) (.c (.int .i64 0))⟩,
      ⟨some 11, none, .pickb (.t 6) (.t 10) (.c (.bool false))⟩,
      ⟨some 12, none, .mov (.t 11)⟩,
      ⟨some 13, some (12, true), .fldA 2 1 false (.t 1)⟩,
      ⟨some 14, some (12, true), .load 1 false (.t 13)⟩,
      ⟨some 15, some (12, true), .len false (.t 14)⟩,
      ⟨some 16, some (12, true), .bin false .eql (.t 15) (.c (.int .i64 0))⟩,
      ⟨some 17, none, .pickb (.t 12) (.t 16) (.c (.bool false))⟩,
      ⟨some 2, none, .mov (.t 17)⟩])
    .ret)), [.tmp 2]⟩
theorem T_model_Nothing : trFn Tryz.prog [(0, [1, 0])] Tryz.f178 = some A_model_Nothing := by kernel_rfl
theorem L_model_Nothing : 1 ≤ Tryz.f178.ntmps := by decide

/-! slices.IndexFunc[[]cartouche/api.Entry,cartouche/api.Entry] -/
def A_slices_IndexFunc_api_Entry_api_Entry : AFn := ⟨(.seq (.region [⟨some 4, none, .mov (.c (.int .i64 0))⟩])
    (.seq (.seq (.region [⟨some 6, none, .mov (.t 0)⟩,
      ⟨some 7, none, .len false (.t 6)⟩,
      ⟨some 8, none, .mov (.c (.int .i64 0))⟩])
    (.block 0 (.loop (.seq (.region [⟨some 9, none, .bin false .lss (.t 8) (.t 7)⟩])
    (.seq (.cond (.t 9) .skip
    (.exit 0))
    (.seq (.block 1 (.seq (.region [⟨some 10, none, .mov (.t 8)⟩,
      ⟨some 5, none, .mov (.t 10)⟩])
    (.seq (.region [⟨some 11, none, .mov (.t 1)⟩,
      ⟨some 12, none, .mov (.t 0)⟩,
      ⟨some 13, none, .mov (.t 5)⟩,
      ⟨some 14, none, .idxA 4 (.t 12) (.t 13)⟩,
      ⟨some 15, none, .load 4 true (.t 14)⟩,
      ⟨some 16, none, .callv (.t 11) [.t 15]⟩])
    (.cond (.t 16) (.seq (.region [⟨some 17, none, .mov (.t 5)⟩,
      ⟨some 4, none, .mov (.t 17)⟩])
    .ret)
    .skip))))
    (.region [⟨some 18, none, .bin false .add (.t 8) (.c (.int .i64 1))⟩,
      ⟨some 8, none, .mov (.t 18)⟩])))))))
    (.seq (.region [⟨some 4, none, .mov (.c (.int .i64 (-1)))⟩])
    .ret))), [.tmp 4]⟩
theorem T_slices_IndexFunc_api_Entry_api_Entry : trFn Tryz.prog [] Tryz.f179 = some A_slices_IndexFunc_api_Entry_api_Entry := by kernel_rfl
theorem L_slices_IndexFunc_api_Entry_api_Entry : 2 ≤ Tryz.f179.ntmps := by decide

/-! cartouche/table.How -/
def A_table_How : AFn := ⟨(.seq (.region [⟨some 2, none, .box 0 (.t 0)⟩,
      ⟨some 4, none, .mov (.c (.int .i64 0))⟩])
    (.seq (.block 0 (.seq (.region [⟨some 6, none, .mov (.t 1)⟩,
      ⟨some 7, none, .load 7 true (.t 2)⟩,
      ⟨some 8, none, .call i_table_Wire [.t 7]⟩,
      ⟨some 9, none, .bin false .eql (.t 6) (.t 8)⟩,
      ⟨some 5, none, .mov (.t 9)⟩])
    (.cond (.t 5) (.seq (.region [⟨some 4, none, .mov (.c (.int .i64 1))⟩])
    .ret)
    (.seq (.region [⟨some 11, none, .mov (.t 1)⟩,
      ⟨some 12, none, .bin false .eql (.t 11) (.c (.int .i64 2))⟩,
      ⟨some 13, none, .mov (.t 12)⟩,
      ⟨some 14, some (13, true), .load 7 true (.t 2)⟩,
      ⟨some 15, some (13, true), .call i_table_HasRow [.t 14]⟩,
      ⟨some 16, none, .pickb (.t 13) (.t 15) (.c (.bool false))⟩,
      ⟨some 10, none, .mov (.t 16)⟩])
    (.cond (.t 10) (.seq (.region [⟨some 4, none, .mov (.c (.int .i64 2))⟩])
    .ret)
    .skip)))))
    (.seq (.region [⟨some 4, none, .mov (.c (.int .i64 0))⟩])
    .ret))), [.tmp 4]⟩
theorem T_table_How : trFn Tryz.prog [(0, [1, 0])] Tryz.f180 = some A_table_How := by kernel_rfl
theorem L_table_How : 2 ≤ Tryz.f180.ntmps := by decide

/-! cartouche/model.each[cartouche/api.Val] -/
def A_model_each_api_Val : AFn := ⟨(.seq (.region [⟨some 4, none, .mov (.c (.nil))⟩])
    (.seq (.region [⟨some 8, none, .mov (.t 0)⟩,
      ⟨some 9, none, .len false (.t 8)⟩,
      ⟨some 10, none, .mks 0 26 3 56 (.agg [.int .u64 0, .nil, .nil]) (.c (.int .i64 0)) (.t 9)⟩,
      ⟨some 5, none, .mov (.t 10)⟩])
    (.seq (.seq (.region [⟨some 11, none, .mov (.t 0)⟩,
      ⟨some 12, none, .len false (.t 11)⟩,
      ⟨some 13, none, .mov (.c (.int .i64 0))⟩])
    (.block 0 (.loop (.seq (.region [⟨some 14, none, .bin false .lss (.t 13) (.t 12)⟩])
    (.seq (.cond (.t 14) .skip
    (.exit 0))
    (.seq (.block 1 (.seq (.region [⟨some 15, none, .idxA 3 (.t 11) (.t 13)⟩,
      ⟨some 16, none, .load 3 true (.t 15)⟩,
      ⟨some 7, none, .alloc 0 [.int .u64 0, .nil, .nil]⟩,
      ⟨none, none, .store 3 (.t 7) (.t 16)⟩])
    (.region [⟨some 17, none, .mov (.t 5)⟩,
      ⟨some 18, none, .mov (.t 1)⟩,
      ⟨some 19, none, .load 3 true (.t 7)⟩,
      ⟨some 20, none, .callv (.t 18) [.t 19]⟩,
      ⟨some 21, none, .blit 0 26 3 [.t 20]⟩,
      ⟨some 22, none, .app 0 26 3 56 (.t 17) (.t 21)⟩,
      ⟨some 5, none, .mov (.t 22)⟩])))
    (.region [⟨some 23, none, .bin false .add (.t 13) (.c (.int .i64 1))⟩,
      ⟨some 13, none, .mov (.t 23)⟩])))))))
    (.seq (.region [⟨some 24, none, .mov (.t 5)⟩,
      ⟨some 4, none, .mov (.t 24)⟩])
    .ret)))), [.tmp 4]⟩
theorem T_model_each_api_Val : trFn Tryz.prog [(4, [0, 0, 1, 0]), (5, [0, 0, 0, 0, 1, 0, 0])] Tryz.f181 = some A_model_each_api_Val := by kernel_rfl
theorem L_model_each_api_Val : 2 ≤ Tryz.f181.ntmps := by decide

/-! cartouche/model.CopyVal -/
def A_model_CopyVal : AFn := ⟨(.seq (.region [⟨some 1, none, .box 0 (.t 0)⟩,
      ⟨some 2, none, .alloc 0 [.int .u64 0, .nil, .nil]⟩])
    (.seq (.draw [3, 4, 7, 8, 9, 1000001, 1000006, 2000008, 2000009] [⟨some 3, none, .fldA 0 1 false (.t 1)⟩,
      ⟨some 4, none, .load 1 false (.t 3)⟩,
      ⟨some 5, none, .fldA 1 1 false (.t 1)⟩,
      ⟨some 6, none, .load 1 false (.t 5)⟩,
      ⟨some 7, none, .call i_model_list [.t 6]⟩,
      ⟨some 8, none, .fldA 2 1 false (.t 1)⟩,
      ⟨some 9, none, .load 1 false (.t 8)⟩,
      ⟨some 10, none, .call i_model_each_api_Msg [.t 9, .c (.fn (.func 68) [] [])]⟩,
      ⟨some 11, none, .build [.int .u64 0, .nil, .nil] [(0, 1, .t 4), (1, 1, .t 7), (2, 1, .t 10)]⟩,
      ⟨none, none, .store 3 (.t 2) (.t 11)⟩])
    .ret)), [.cell 2 3 true]⟩
theorem T_model_CopyVal : trFn Tryz.prog [(0, [1, 1]), (1000001, [3, 4, 7, 8, 9, 1000001, 1000006, 2000008, 2000009])] Tryz.f182 = some A_model_CopyVal := by kernel_rfl
theorem L_model_CopyVal : 1 ≤ Tryz.f182.ntmps := by decide

/-! cartouche/model.list -/
def A_model_list : AFn := ⟨(.seq (.region [⟨some 2, none, .mov (.c (.nil))⟩])
    (.seq (.region [⟨some 3, none, .mov (.t 0)⟩,
      ⟨some 4, none, .len false (.t 3)⟩,
      ⟨some 5, none, .mks 0 5 1 1 (.int .u8 0) (.c (.int .i64 0)) (.t 4)⟩,
      ⟨some 6, none, .mov (.t 0)⟩,
      ⟨some 7, none, .app 0 5 1 1 (.t 5) (.t 6)⟩,
      ⟨some 2, none, .mov (.t 7)⟩])
    .ret)), [.tmp 2]⟩
theorem T_model_list : trFn Tryz.prog [] Tryz.f183 = some A_model_list := by kernel_rfl
theorem L_model_list : 1 ≤ Tryz.f183.ntmps := by decide

/-! cartouche/table.Wire -/
def A_table_Wire : AFn := ⟨(.seq (.region [⟨some 1, none, .box 0 (.t 0)⟩,
      ⟨some 2, none, .mov (.c (.int .i64 0))⟩])
    (.seq (.seq (.region [⟨some 5, none, .fldA 4 1 false (.t 1)⟩,
      ⟨some 6, none, .load 1 false (.t 5)⟩,
      ⟨some 7, none, .bin false .eql (.t 6) (.c (.int .i64 5))⟩])
    (.cond (.t 7) (.seq (.region [⟨some 2, none, .mov (.c (.int .i64 2))⟩])
    .ret)
    .skip))
    (.seq (.region [⟨some 9, none, .fldA 2 1 false (.t 1)⟩,
      ⟨some 10, none, .load 1 false (.t 9)⟩,
      ⟨some 11, none, .call i_scalar_Wire [.t 10]⟩,
      ⟨some 8, none, .mov (.t 11)⟩,
      ⟨some 12, none, .ext 0 (.t 8)⟩,
      ⟨some 13, none, .ext 1 (.t 8)⟩,
      ⟨some 3, none, .mov (.t 12)⟩,
      ⟨some 4, none, .mov (.t 13)⟩])
    (.seq (.region [⟨some 14, none, .mov (.t 3)⟩,
      ⟨some 2, none, .mov (.t 14)⟩])
    .ret)))), [.tmp 2]⟩
theorem T_table_Wire : trFn Tryz.prog [(0, [1, 0])] Tryz.f192 = some A_table_Wire := by kernel_rfl
theorem L_table_Wire : 1 ≤ Tryz.f192.ntmps := by decide

/-! cartouche/scalar.Wire -/
def A_scalar_Wire : AFn := ⟨(.seq (.region [⟨some 2, none, .mov (.c (.int .i64 0))⟩,
      ⟨some 3, none, .mov (.c (.int .i64 0))⟩])
    (.seq (.seq (.region [⟨some 4, none, .mov (.t 0)⟩])
    (.block 0 (.seq (.seq (.region [⟨some 6, none, .bin false .eql (.t 4) (.c (.int .i64 1))⟩,
      ⟨some 5, none, .mov (.t 6)⟩])
    (.cond (.t 5) .skip
    (.seq (.region [⟨some 7, none, .bin false .eql (.t 4) (.c (.int .i64 2))⟩,
      ⟨some 5, none, .mov (.t 7)⟩])
    (.cond (.t 5) .skip
    (.seq (.region [⟨some 8, none, .bin false .eql (.t 4) (.c (.int .i64 3))⟩,
      ⟨some 5, none, .mov (.t 8)⟩])
    (.cond (.t 5) .skip
    (.seq (.region [⟨some 9, none, .bin false .eql (.t 4) (.c (.int .i64 4))⟩,
      ⟨some 5, none, .mov (.t 9)⟩])
    (.cond (.t 5) .skip
    (.seq (.region [⟨some 10, none, .bin false .eql (.t 4) (.c (.int .i64 5))⟩,
      ⟨some 5, none, .mov (.t 10)⟩])
    (.cond (.t 5) .skip
    (.seq (.region [⟨some 11, none, .bin false .eql (.t 4) (.c (.int .i64 6))⟩,
      ⟨some 5, none, .mov (.t 11)⟩])
    (.cond (.t 5) .skip
    (.seq (.region [⟨some 12, none, .bin false .eql (.t 4) (.c (.int .i64 7))⟩,
      ⟨some 5, none, .mov (.t 12)⟩])
    (.cond (.t 5) .skip
    (.region [⟨some 13, none, .bin false .eql (.t 4) (.c (.int .i64 16))⟩,
      ⟨some 5, none, .mov (.t 13)⟩])))))))))))))))
    (.cond (.t 5) (.seq (.region [⟨some 2, none, .mov (.c (.int .i64 0))⟩,
      ⟨some 3, none, .mov (.c (.int .i64 0))⟩])
    .ret)
    (.seq (.seq (.region [⟨some 15, none, .bin false .eql (.t 4) (.c (.int .i64 8))⟩,
      ⟨some 14, none, .mov (.t 15)⟩])
    (.cond (.t 14) .skip
    (.seq (.region [⟨some 16, none, .bin false .eql (.t 4) (.c (.int .i64 10))⟩,
      ⟨some 14, none, .mov (.t 16)⟩])
    (.cond (.t 14) .skip
    (.region [⟨some 17, none, .bin false .eql (.t 4) (.c (.int .i64 12))⟩,
      ⟨some 14, none, .mov (.t 17)⟩])))))
    (.cond (.t 14) (.seq (.region [⟨some 2, none, .mov (.c (.int .i64 5))⟩,
      ⟨some 3, none, .mov (.c (.int .i64 0))⟩])
    .ret)
    (.seq (.seq (.region [⟨some 19, none, .bin false .eql (.t 4) (.c (.int .i64 9))⟩,
      ⟨some 18, none, .mov (.t 19)⟩])
    (.cond (.t 18) .skip
    (.seq (.region [⟨some 20, none, .bin false .eql (.t 4) (.c (.int .i64 11))⟩,
      ⟨some 18, none, .mov (.t 20)⟩])
    (.cond (.t 18) .skip
    (.region [⟨some 21, none, .bin false .eql (.t 4) (.c (.int .i64 13))⟩,
      ⟨some 18, none, .mov (.t 21)⟩])))))
    (.cond (.t 18) (.seq (.region [⟨some 2, none, .mov (.c (.int .i64 1))⟩,
      ⟨some 3, none, .mov (.c (.int .i64 0))⟩])
    .ret)
    (.seq (.seq (.region [⟨some 23, none, .bin false .eql (.t 4) (.c (.int .i64 14))⟩,
      ⟨some 22, none, .mov (.t 23)⟩])
    (.cond (.t 22) .skip
    (.seq (.region [⟨some 24, none, .bin false .eql (.t 4) (.c (.int .i64 15))⟩,
      ⟨some 22, none, .mov (.t 24)⟩])
    (.cond (.t 22) .skip
    (.region [⟨some 25, none, .bin false .eql (.t 4) (.c (.int .i64 17))⟩,
      ⟨some 22, none, .mov (.t 25)⟩])))))
    (.cond (.t 22) (.seq (.region [⟨some 2, none, .mov (.c (.int .i64 2))⟩,
      ⟨some 3, none, .mov (.c (.int .i64 0))⟩])
    .ret)
    .skip))))))))))
    (.seq (.region [⟨some 2, none, .mov (.c (.int .i64 0))⟩,
      ⟨some 3, none, .mov (.c (.int .i64 18))⟩])
    .ret))), [.tmp 2, .tmp 3]⟩
theorem T_scalar_Wire : trFn Tryz.prog [] Tryz.f196 = some A_scalar_Wire := by kernel_rfl
theorem L_scalar_Wire : 1 ≤ Tryz.f196.ntmps := by decide

/-! cartouche/table.goodName -/
def A_table_goodName : AFn := ⟨(.seq (.region [⟨some 3, none, .box 0 (.t 0)⟩,
      ⟨some 6, none, .mov (.c (.bool false))⟩])
    (.seq (.region [⟨some 14, none, .fldA 0 1 false (.t 3)⟩,
      ⟨some 15, none, .load 1 false (.t 14)⟩,
      ⟨some 16, none, .mov (.t 1)⟩,
      ⟨some 17, none, .idxA 6 (.t 15) (.t 16)⟩,
      ⟨some 18, none, .load 6 true (.t 17)⟩,
      ⟨some 7, none, .alloc 0 [.str ⟨#[]⟩, .bool false, .nil, .nil, .nil, .nil]⟩,
      ⟨none, none, .store 6 (.t 7) (.t 18)⟩])
    (.seq (.region [⟨some 19, none, .fldA 0 1 false (.t 7)⟩,
      ⟨some 20, none, .load 1 false (.t 19)⟩,
      ⟨some 21, none, .call i_strings_Split [.t 20, .c (.str ⟨#[46]⟩)]⟩,
      ⟨some 8, none, .mov (.t 21)⟩])
    (.seq (.region [⟨some 9, none, .mov (.c (.int .i64 8))⟩])
    (.seq (.seq (.region [⟨some 22, none, .fldA 1 1 false (.t 7)⟩,
      ⟨some 23, none, .load 1 false (.t 22)⟩])
    (.cond (.t 23) (.region [⟨some 24, none, .mov (.t 9)⟩,
      ⟨some 25, none, .bin false .add (.t 24) (.c (.int .i64 1))⟩,
      ⟨some 9, none, .mov (.t 25)⟩])
    .skip))
    (.seq (.seq (.region [⟨some 26, none, .mov (.t 8)⟩,
      ⟨some 27, none, .len false (.t 26)⟩,
      ⟨some 28, none, .mov (.t 9)⟩,
      ⟨some 29, none, .bin false .gtr (.t 27) (.t 28)⟩])
    (.cond (.t 29) (.seq (.region [⟨some 6, none, .mov (.c (.bool false))⟩])
    .ret)
    .skip))
    (.seq (.seq (.region [⟨some 30, none, .mov (.t 8)⟩,
      ⟨some 31, none, .len false (.t 30)⟩,
      ⟨some 32, none, .mov (.c (.int .i64 0))⟩])
    (.block 0 (.loop (.seq (.region [⟨some 33, none, .bin false .lss (.t 32) (.t 31)⟩])
    (.seq (.cond (.t 33) .skip
    (.exit 0))
    (.seq (.block 1 (.seq (.region [⟨some 34, none, .idxA 1 (.t 30) (.t 32)⟩,
      ⟨some 35, none, .load 1 false (.t 34)⟩,
      ⟨some 11, none, .mov (.t 35)⟩])
    (.seq (.region [⟨some 36, none, .mov (.t 11)⟩,
      ⟨some 37, none, .call i_lex_IsName [.t 36]⟩,
      ⟨some 38, none, .un .not (.t 37)⟩])
    (.cond (.t 38) (.seq (.region [⟨some 6, none, .mov (.c (.bool false))⟩])
    .ret)
    .skip))))
    (.region [⟨some 39, none, .bin false .add (.t 32) (.c (.int .i64 1))⟩,
      ⟨some 32, none, .mov (.t 39)⟩])))))))
    (.seq (.seq (.region [⟨some 40, none, .mov (.t 8)⟩,
      ⟨some 41, none, .len false (.t 40)⟩,
      ⟨some 42, none, .bin false .eql (.t 41) (.c (.int .i64 1))⟩])
    (.cond (.t 42) (.seq (.region [⟨some 6, none, .mov (.c (.bool true))⟩])
    .ret)
    .skip))
    (.seq (.region [⟨some 44, none, .mov (.t 2)⟩,
      ⟨some 45, none, .mov (.t 8)⟩,
      ⟨some 46, none, .mov (.t 8)⟩,
      ⟨some 47, none, .len false (.t 46)⟩,
      ⟨some 48, none, .bin false .sub (.t 47) (.c (.int .i64 1))⟩,
      ⟨some 49, none, .slc 1 (.t 45) none (some (.t 48)) none⟩,
      ⟨some 50, none, .call i_strings_Join [.t 49, .c (.str ⟨#[46]⟩)]⟩,
      ⟨some 51, none, .look .str (.int .i64 0) true (.t 44) (.t 50)⟩,
      ⟨some 43, none, .mov (.t 51)⟩,
      ⟨some 52, none, .ext 0 (.t 43)⟩,
      ⟨some 53, none, .ext 1 (.t 43)⟩,
      ⟨some 12, none, .mov (.t 52)⟩,
      ⟨some 13, none, .mov (.t 53)⟩])
    (.seq (.region [⟨some 54, none, .mov (.t 13)⟩,
      ⟨some 55, none, .mov (.t 54)⟩,
      ⟨some 56, some (55, true), .fldA 0 1 false (.t 3)⟩,
      ⟨some 57, some (55, true), .load 1 false (.t 56)⟩,
      ⟨some 58, some (55, true), .mov (.t 12)⟩,
      ⟨some 59, some (55, true), .idxA 6 (.t 57) (.t 58)⟩,
      ⟨some 60, some (55, true), .fldA 1 1 false (.t 59)⟩,
      ⟨some 61, some (55, true), .load 1 false (.t 60)⟩,
      ⟨some 62, some (55, true), .un .not (.t 61)⟩,
      ⟨some 63, none, .pickb (.t 55) (.t 62) (.c (.bool false))⟩,
      ⟨some 6, none, .mov (.t 63)⟩])
    .ret)))))))))), [.tmp 6]⟩
theorem T_table_goodName : trFn Tryz.prog [(0, [1, 0]), (1, [0, 0, 0, 0, 0, 1, 0])] Tryz.f201 = some A_table_goodName := by kernel_rfl
theorem L_table_goodName : 3 ≤ Tryz.f201.ntmps := by decide

/-! cartouche/table.goodEnum -/
def A_table_goodEnum : AFn := ⟨(.seq (.region [⟨some 1, none, .box 0 (.t 0)⟩,
      ⟨some 2, none, .mov (.c (.bool false))⟩])
    (.seq (.seq (.region [⟨some 7, none, .fldA 4 1 false (.t 1)⟩,
      ⟨some 8, none, .load 1 false (.t 7)⟩,
      ⟨some 9, none, .len false (.t 8)⟩,
      ⟨some 10, none, .bin false .lss (.t 9) (.c (.int .i64 1))⟩,
      ⟨some 11, none, .mov (.t 10)⟩,
      ⟨some 12, some (11, false), .fldA 4 1 false (.t 1)⟩,
      ⟨some 13, some (11, false), .load 1 false (.t 12)⟩,
      ⟨some 14, some (11, false), .len false (.t 13)⟩,
      ⟨some 15, some (11, false), .bin false .gtr (.t 14) (.c (.int .i64 128))⟩,
      ⟨some 16, none, .pickb (.t 11) (.c (.bool true)) (.t 15)⟩,
      ⟨some 17, none, .mov (.t 16)⟩,
      ⟨some 18, some (17, false), .fldA 4 1 false (.t 1)⟩,
      ⟨some 19, some (17, false), .load 1 false (.t 18)⟩,
      ⟨some 20, some (17, false), .idxA 2 (.t 19) (.c (.int .i64 0))⟩,
      ⟨some 21, some (17, false), .fldA 1 1 false (.t 20)⟩,
      ⟨some 22, some (17, false), .load 1 false (.t 21)⟩,
      ⟨some 23, some (17, false), .bin false .neq (.t 22) (.c (.int .i64 0))⟩,
      ⟨some 24, none, .pickb (.t 17) (.c (.bool true)) (.t 23)⟩,
      ⟨some 25, none, .mov (.t 24)⟩,
      ⟨some 26, some (25, false), .fldA 2 1 false (.t 1)⟩,
      ⟨some 27, some (25, false), .load 1 false (.t 26)⟩,
      ⟨some 28, some (25, false), .len false (.t 27)⟩,
      ⟨some 29, some (25, false), .fldA 3 1 false (.t 1)⟩,
      ⟨some 30, some (25, false), .load 1 false (.t 29)⟩,
      ⟨some 31, some (25, false), .len false (.t 30)⟩,
      ⟨some 32, some (25, false), .bin false .add (.t 28) (.t 31)⟩,
      ⟨some 33, some (25, false), .fldA 5 1 false (.t 1)⟩,
      ⟨some 34, some (25, false), .load 1 false (.t 33)⟩,
      ⟨some 35, some (25, false), .len false (.t 34)⟩,
      ⟨some 36, some (25, false), .bin false .add (.t 32) (.t 35)⟩,
      ⟨some 37, some (25, false), .bin false .gtr (.t 36) (.c (.int .i64 0))⟩,
      ⟨some 38, none, .pickb (.t 25) (.c (.bool true)) (.t 37)⟩])
    (.cond (.t 38) (.seq (.region [⟨some 2, none, .mov (.c (.bool false))⟩])
    .ret)
    .skip))
    (.seq (.region [⟨some 39, none, .mkmap 0 .str⟩,
      ⟨some 40, none, .mkmap 0 (.int .i64)⟩,
      ⟨some 3, none, .mov (.t 39)⟩,
      ⟨some 4, none, .mov (.t 40)⟩])
    (.seq (.seq (.region [⟨some 41, none, .fldA 4 1 false (.t 1)⟩,
      ⟨some 42, none, .load 1 false (.t 41)⟩,
      ⟨some 43, none, .len false (.t 42)⟩,
      ⟨some 44, none, .mov (.c (.int .i64 0))⟩])
    (.block 0 (.loop (.seq (.region [⟨some 45, none, .bin false .lss (.t 44) (.t 43)⟩])
    (.seq (.cond (.t 45) .skip
    (.exit 0))
    (.seq (.block 1 (.seq (.region [⟨some 46, none, .idxA 2 (.t 42) (.t 44)⟩,
      ⟨some 47, none, .load 2 true (.t 46)⟩,
      ⟨some 6, none, .alloc 0 [.str ⟨#[]⟩, .int .i64 0]⟩,
      ⟨none, none, .store 2 (.t 6) (.t 47)⟩])
    (.seq (.seq (.region [⟨some 48, none, .fldA 0 1 false (.t 6)⟩,
      ⟨some 49, none, .load 1 false (.t 48)⟩,
      ⟨some 50, none, .call i_lex_IsName [.t 49]⟩,
      ⟨some 51, none, .un .not (.t 50)⟩,
      ⟨some 52, none, .mov (.t 51)⟩,
      ⟨some 53, some (52, false), .mov (.t 3)⟩,
      ⟨some 54, some (52, false), .fldA 0 1 false (.t 6)⟩,
      ⟨some 55, some (52, false), .load 1 false (.t 54)⟩,
      ⟨some 56, some (52, false), .call i_table_named_add [.t 53, .t 55]⟩,
      ⟨some 57, some (52, false), .un .not (.t 56)⟩,
      ⟨some 58, none, .pickb (.t 52) (.c (.bool true)) (.t 57)⟩,
      ⟨some 59, none, .mov (.t 58)⟩,
      ⟨some 60, some (59, false), .fldA 1 1 false (.t 6)⟩,
      ⟨some 61, some (59, false), .load 1 false (.t 60)⟩,
      ⟨some 62, some (59, false), .bin false .lss (.t 61) (.c (.int .i64 0))⟩,
      ⟨some 63, none, .pickb (.t 59) (.c (.bool true)) (.t 62)⟩,
      ⟨some 64, none, .mov (.t 63)⟩,
      ⟨some 65, some (64, false), .fldA 1 1 false (.t 6)⟩,
      ⟨some 66, some (64, false), .load 1 false (.t 65)⟩,
      ⟨some 67, some (64, false), .bin false .gtr (.t 66) (.c (.int .i64 2147483647))⟩,
      ⟨some 68, none, .pickb (.t 64) (.c (.bool true)) (.t 67)⟩])
    (.cond (.t 68) (.seq (.region [⟨some 2, none, .mov (.c (.bool false))⟩])
    .ret)
    .skip))
    (.region [⟨some 69, none, .mov (.t 4)⟩,
      ⟨some 70, none, .fldA 1 1 false (.t 6)⟩,
      ⟨some 71, none, .load 1 false (.t 70)⟩,
      ⟨some 72, none, .build [] []⟩,
      ⟨none, none, .mapset (.int .i64) (.t 69) (.t 71) (.t 72)⟩]))))
    (.region [⟨some 73, none, .bin false .add (.t 44) (.c (.int .i64 1))⟩,
      ⟨some 44, none, .mov (.t 73)⟩])))))))
    (.seq (.region [⟨some 74, none, .mov (.t 4)⟩,
      ⟨some 75, none, .lenm (.t 74)⟩,
      ⟨some 76, none, .fldA 4 1 false (.t 1)⟩,
      ⟨some 77, none, .load 1 false (.t 76)⟩,
      ⟨some 78, none, .len false (.t 77)⟩,
      ⟨some 79, none, .bin false .eql (.t 75) (.t 78)⟩,
      ⟨some 2, none, .mov (.t 79)⟩])
    .ret))))), [.tmp 2]⟩
theorem T_table_goodEnum : trFn Tryz.prog [(0, [1, 0]), (6, [0, 0, 1, 0])] Tryz.f202 = some A_table_goodEnum := by kernel_rfl
theorem L_table_goodEnum : 1 ≤ Tryz.f202.ntmps := by decide

/-! cartouche/table.goodMessage -/
def A_table_goodMessage : AFn := ⟨(.seq (.region [⟨some 2, none, .box 0 (.t 0)⟩,
      ⟨some 3, none, .box 0 (.t 1)⟩,
      ⟨some 4, none, .mov (.c (.bool false))⟩])
    (.seq (.seq (.region [⟨some 16, none, .fldA 4 1 false (.t 3)⟩,
      ⟨some 17, none, .load 1 false (.t 16)⟩,
      ⟨some 18, none, .len false (.t 17)⟩,
      ⟨some 19, none, .bin false .gtr (.t 18) (.c (.int .i64 0))⟩,
      ⟨some 20, none, .mov (.t 19)⟩,
      ⟨some 21, some (20, false), .fldA 2 1 false (.t 3)⟩,
      ⟨some 22, some (20, false), .load 1 false (.t 21)⟩,
      ⟨some 23, some (20, false), .len false (.t 22)⟩,
      ⟨some 24, some (20, false), .bin false .gtr (.t 23) (.c (.int .i64 128))⟩,
      ⟨some 25, none, .pickb (.t 20) (.c (.bool true)) (.t 24)⟩,
      ⟨some 26, none, .mov (.t 25)⟩,
      ⟨some 27, some (26, false), .fldA 5 1 false (.t 3)⟩,
      ⟨some 28, some (26, false), .load 1 false (.t 27)⟩,
      ⟨some 29, some (26, false), .len false (.t 28)⟩,
      ⟨some 30, some (26, false), .bin false .gtr (.t 29) (.c (.int .i64 128))⟩,
      ⟨some 31, none, .pickb (.t 26) (.c (.bool true)) (.t 30)⟩])
    (.cond (.t 31) (.seq (.region [⟨some 4, none, .mov (.c (.bool false))⟩])
    .ret)
    .skip))
    (.seq (.draw [3000000] [⟨some 32, none, .mkmap 0 .str⟩,
      ⟨some 33, none, .fldA 3 1 false (.t 3)⟩,
      ⟨some 34, none, .load 1 false (.t 33)⟩,
      ⟨some 35, none, .len false (.t 34)⟩,
      ⟨some 36, none, .mks 0 3 1 8 (.int .i64 0) (.t 35) (.t 35)⟩,
      ⟨some 5, none, .mov (.t 32)⟩,
      ⟨some 6, none, .mov (.t 36)⟩])
    (.seq (.seq (.region [⟨some 37, none, .fldA 3 1 false (.t 3)⟩,
      ⟨some 38, none, .load 1 false (.t 37)⟩,
      ⟨some 39, none, .len false (.t 38)⟩,
      ⟨some 40, none, .mov (.c (.int .i64 0))⟩])
    (.block 0 (.loop (.seq (.region [⟨some 41, none, .bin false .lss (.t 40) (.t 39)⟩])
    (.seq (.cond (.t 41) .skip
    (.exit 0))
    (.seq (.block 1 (.seq (.region [⟨some 42, none, .idxA 1 (.t 38) (.t 40)⟩,
      ⟨some 43, none, .load 1 false (.t 42)⟩,
      ⟨some 8, none, .mov (.t 43)⟩])
    (.seq (.region [⟨some 44, none, .mov (.t 8)⟩,
      ⟨some 45, none, .call i_lex_IsName [.t 44]⟩,
      ⟨some 46, none, .un .not (.t 45)⟩,
      ⟨some 47, none, .mov (.t 46)⟩,
      ⟨some 48, some (47, false), .mov (.t 5)⟩,
      ⟨some 49, some (47, false), .mov (.t 8)⟩,
      ⟨some 50, some (47, false), .call i_table_named_add [.t 48, .t 49]⟩,
      ⟨some 51, some (47, false), .un .not (.t 50)⟩,
      ⟨some 52, none, .pickb (.t 47) (.c (.bool true)) (.t 51)⟩])
    (.cond (.t 52) (.seq (.region [⟨some 4, none, .mov (.c (.bool false))⟩])
    .ret)
    .skip))))
    (.region [⟨some 53, none, .bin false .add (.t 40) (.c (.int .i64 1))⟩,
      ⟨some 40, none, .mov (.t 53)⟩])))))))
    (.seq (.seq (.region [⟨some 54, none, .fldA 5 1 false (.t 3)⟩,
      ⟨some 55, none, .load 1 false (.t 54)⟩,
      ⟨some 56, none, .len false (.t 55)⟩,
      ⟨some 57, none, .mov (.c (.int .i64 0))⟩])
    (.block 2 (.loop (.seq (.region [⟨some 58, none, .bin false .lss (.t 57) (.t 56)⟩])
    (.seq (.cond (.t 58) .skip
    (.exit 2))
    (.seq (.block 3 (.seq (.region [⟨some 59, none, .mov (.t 57)⟩,
      ⟨some 60, none, .idxA 2 (.t 55) (.t 57)⟩,
      ⟨some 61, none, .load 2 true (.t 60)⟩,
      ⟨some 10, none, .alloc 0 [.int .i64 0, .int .i64 0]⟩,
      ⟨some 9, none, .mov (.t 59)⟩,
      ⟨none, none, .store 2 (.t 10) (.t 61)⟩])
    (.seq (.draw [1, 5, 10, 20, 1000012, 1000022, 1000025, 1000027] [⟨some 62, none, .fldA 0 1 false (.t 10)⟩,
      ⟨some 63, none, .load 1 false (.t 62)⟩,
      ⟨some 64, none, .bin false .lss (.t 63) (.c (.int .i64 1))⟩,
      ⟨some 65, none, .mov (.t 64)⟩,
      ⟨some 66, some (65, false), .fldA 1 1 false (.t 10)⟩,
      ⟨some 67, some (65, false), .load 1 false (.t 66)⟩,
      ⟨some 68, some (65, false), .bin false .gtr (.t 67) (.c (.int .i64 536870911))⟩,
      ⟨some 69, none, .pickb (.t 65) (.c (.bool true)) (.t 68)⟩,
      ⟨some 70, none, .mov (.t 69)⟩,
      ⟨some 71, some (70, false), .fldA 0 1 false (.t 10)⟩,
      ⟨some 72, some (70, false), .load 1 false (.t 71)⟩,
      ⟨some 73, some (70, false), .fldA 1 1 false (.t 10)⟩,
      ⟨some 74, some (70, false), .load 1 false (.t 73)⟩,
      ⟨some 75, some (70, false), .bin false .gtr (.t 72) (.t 74)⟩,
      ⟨some 76, none, .pickb (.t 70) (.c (.bool true)) (.t 75)⟩,
      ⟨some 77, none, .mov (.t 76)⟩,
      ⟨some 78, some (77, false), .mov (.t 9)⟩,
      ⟨some 79, some (77, false), .bin false .gtr (.t 78) (.c (.int .i64 0))⟩,
      ⟨some 80, some (77, false), .mov (.t 79)⟩,
      ⟨some 81, some (80, true), .fldA 0 1 false (.t 10)⟩,
      ⟨some 82, some (80, true), .load 1 false (.t 81)⟩,
      ⟨some 83, some (80, true), .fldA 5 1 false (.t 3)⟩,
      ⟨some 84, some (80, true), .load 1 false (.t 83)⟩,
      ⟨some 85, some (80, true), .mov (.t 9)⟩,
      ⟨some 86, some (80, true), .bin false .sub (.t 85) (.c (.int .i64 1))⟩,
      ⟨some 87, some (80, true), .idxA 2 (.t 84) (.t 86)⟩,
      ⟨some 88, some (80, true), .fldA 1 1 false (.t 87)⟩,
      ⟨some 89, some (80, true), .load 1 false (.t 88)⟩,
      ⟨some 90, some (80, true), .bin false .leq (.t 82) (.t 89)⟩,
      ⟨some 91, some (77, false), .pickb (.t 80) (.t 90) (.c (.bool false))⟩,
      ⟨some 92, none, .pickb (.t 77) (.c (.bool true)) (.t 91)⟩])
    (.cond (.t 92) (.seq (.region [⟨some 4, none, .mov (.c (.bool false))⟩])
    .ret)
    .skip))))
    (.region [⟨some 93, none, .bin false .add (.t 57) (.c (.int .i64 1))⟩,
      ⟨some 57, none, .mov (.t 93)⟩])))))))
    (.seq (.region [⟨some 11, none, .mov (.c (.int .i64 0))⟩])
    (.seq (.seq (.region [⟨some 94, none, .fldA 2 1 false (.t 3)⟩,
      ⟨some 95, none, .load 1 false (.t 94)⟩,
      ⟨some 96, none, .len false (.t 95)⟩,
      ⟨some 97, none, .mov (.c (.int .i64 0))⟩])
    (.block 4 (.loop (.seq (.region [⟨some 98, none, .bin false .lss (.t 97) (.t 96)⟩])
    (.seq (.cond (.t 98) .skip
    (.exit 4))
    (.seq (.block 5 (.seq (.region [⟨some 99, none, .idxA 7 (.t 95) (.t 97)⟩,
      ⟨some 100, none, .load 7 true (.t 99)⟩,
      ⟨some 13, none, .alloc 0 [.str ⟨#[]⟩, .int .i64 0, .int .i64 0, .int .i64 0, .int .i64 0, .int .i64 0, .int .i64 0]⟩,
      ⟨none, none, .store 7 (.t 13) (.t 100)⟩])
    (.seq (.seq (.region [⟨some 101, none, .fldA 0 1 false (.t 13)⟩,
      ⟨some 102, none, .load 1 false (.t 101)⟩,
      ⟨some 103, none, .call i_lex_IsName [.t 102]⟩,
      ⟨some 104, none, .un .not (.t 103)⟩,
      ⟨some 105, none, .mov (.t 104)⟩,
      ⟨some 106, some (105, false), .mov (.t 5)⟩,
      ⟨some 107, some (105, false), .fldA 0 1 false (.t 13)⟩,
      ⟨some 108, some (105, false), .load 1 false (.t 107)⟩,
      ⟨some 109, some (105, false), .call i_table_named_add [.t 106, .t 108]⟩,
      ⟨some 110, some (105, false), .un .not (.t 109)⟩,
      ⟨some 111, none, .pickb (.t 105) (.c (.bool true)) (.t 110)⟩,
      ⟨some 112, none, .mov (.t 111)⟩,
      ⟨some 113, some (112, false), .fldA 1 1 false (.t 13)⟩,
      ⟨some 114, some (112, false), .load 1 false (.t 113)⟩,
      ⟨some 115, some (112, false), .mov (.t 11)⟩,
      ⟨some 116, some (112, false), .bin false .leq (.t 114) (.t 115)⟩,
      ⟨some 117, none, .pickb (.t 112) (.c (.bool true)) (.t 116)⟩,
      ⟨some 118, none, .mov (.t 117)⟩,
      ⟨some 119, some (118, false), .fldA 1 1 false (.t 13)⟩,
      ⟨some 120, some (118, false), .load 1 false (.t 119)⟩,
      ⟨some 121, some (118, false), .bin false .gtr (.t 120) (.c (.int .i64 536870911))⟩,
      ⟨some 122, none, .pickb (.t 118) (.c (.bool true)) (.t 121)⟩,
      ⟨some 123, none, .mov (.t 122)⟩,
      ⟨some 124, some (123, false), .load 6 true (.t 3)⟩,
      ⟨some 125, some (123, false), .fldA 1 1 false (.t 13)⟩,
      ⟨some 126, some (123, false), .load 1 false (.t 125)⟩,
      ⟨some 127, some (123, false), .call i_table_reserved [.t 124, .t 126]⟩,
      ⟨some 128, none, .pickb (.t 123) (.c (.bool true)) (.t 127)⟩,
      ⟨some 129, none, .mov (.t 128)⟩,
      ⟨some 130, some (129, false), .load 1 true (.t 2)⟩,
      ⟨some 131, some (129, false), .load 6 true (.t 3)⟩,
      ⟨some 132, some (129, false), .load 7 true (.t 13)⟩,
      ⟨some 133, some (129, false), .call i_table_goodField [.t 130, .t 131, .t 132]⟩,
      ⟨some 134, some (129, false), .un .not (.t 133)⟩,
      ⟨some 135, none, .pickb (.t 129) (.c (.bool true)) (.t 134)⟩])
    (.cond (.t 135) (.seq (.region [⟨some 4, none, .mov (.c (.bool false))⟩])
    .ret)
    .skip))
    (.seq (.region [⟨some 136, none, .fldA 1 1 false (.t 13)⟩,
      ⟨some 137, none, .load 1 false (.t 136)⟩,
      ⟨some 11, none, .mov (.t 137)⟩])
    (.seq (.region [⟨some 138, none, .fldA 4 1 false (.t 13)⟩,
      ⟨some 139, none, .load 1 false (.t 138)⟩,
      ⟨some 140, none, .bin false .eql (.t 139) (.c (.int .i64 4))⟩])
    (.cond (.t 140) (.region [⟨some 141, none, .mov (.t 6)⟩,
      ⟨some 142, none, .fldA 5 1 false (.t 13)⟩,
      ⟨some 143, none, .load 1 false (.t 142)⟩,
      ⟨some 144, none, .idxA 1 (.t 141) (.t 143)⟩,
      ⟨some 145, none, .load 1 false (.t 144)⟩,
      ⟨some 146, none, .bin false .add (.t 145) (.c (.int .i64 1))⟩,
      ⟨some 147, none, .idxA 1 (.t 141) (.t 143)⟩,
      ⟨none, none, .store 1 (.t 147) (.t 146)⟩])
    .skip))))))
    (.region [⟨some 148, none, .bin false .add (.t 97) (.c (.int .i64 1))⟩,
      ⟨some 97, none, .mov (.t 148)⟩])))))))
    (.seq (.seq (.region [⟨some 149, none, .mov (.t 6)⟩,
      ⟨some 150, none, .len false (.t 149)⟩,
      ⟨some 151, none, .mov (.c (.int .i64 0))⟩])
    (.block 6 (.loop (.seq (.region [⟨some 152, none, .bin false .lss (.t 151) (.t 150)⟩])
    (.seq (.cond (.t 152) .skip
    (.exit 6))
    (.seq (.block 7 (.seq (.region [⟨some 153, none, .idxA 1 (.t 149) (.t 151)⟩,
      ⟨some 154, none, .load 1 false (.t 153)⟩,
      ⟨some 15, none, .mov (.t 154)⟩])
    (.seq (.region [⟨some 155, none, .mov (.t 15)⟩,
      ⟨some 156, none, .bin false .eql (.t 155) (.c (.int .i64 0))⟩])
    (.cond (.t 156) (.seq (.region [⟨some 4, none, .mov (.c (.bool false))⟩])
    .ret)
    .skip))))
    (.region [⟨some 157, none, .bin false .add (.t 151) (.c (.int .i64 1))⟩,
      ⟨some 151, none, .mov (.t 157)⟩])))))))
    (.seq (.region [⟨some 4, none, .mov (.c (.bool true))⟩])
    .ret))))))))), [.tmp 4]⟩
theorem T_table_goodMessage : trFn Tryz.prog [(0, [1, 1, 0]), (12, [0, 0, 0, 1, 0, 0]), (19, [0, 0, 1, 0]), (1000003, [3000000]), (1000013, [1, 5, 10, 20, 1000012, 1000022, 1000025, 1000027])] Tryz.f203 = some A_table_goodMessage := by kernel_rfl
theorem L_table_goodMessage : 2 ≤ Tryz.f203.ntmps := by decide

/-! cartouche/wire.PutTag -/
def A_wire_PutTag : AFn := ⟨(.seq (.region [⟨some 4, none, .mov (.c (.nil))⟩,
      ⟨some 5, none, .mov (.c (.int .i64 0))⟩])
    (.seq (.block 0 (.seq (.region [⟨some 7, none, .mov (.t 0)⟩,
      ⟨some 8, none, .bin false .lss (.t 7) (.c (.int .i64 1))⟩,
      ⟨some 9, none, .mov (.t 8)⟩,
      ⟨some 10, some (9, false), .mov (.t 0)⟩,
      ⟨some 11, some (9, false), .bin false .gtr (.t 10) (.c (.int .i64 536870911))⟩,
      ⟨some 12, none, .pickb (.t 9) (.c (.bool true)) (.t 11)⟩,
      ⟨some 6, none, .mov (.t 12)⟩])
    (.cond (.t 6) (.seq (.region [⟨some 4, none, .mov (.c (.nil))⟩,
      ⟨some 5, none, .mov (.c (.int .i64 5))⟩])
    .ret)
    (.seq (.region [⟨some 14, none, .mov (.t 1)⟩,
      ⟨some 15, none, .call i_wire_isKind [.t 14]⟩,
      ⟨some 16, none, .un .not (.t 15)⟩,
      ⟨some 13, none, .mov (.t 16)⟩])
    (.cond (.t 13) (.seq (.region [⟨some 4, none, .mov (.c (.nil))⟩,
      ⟨some 5, none, .mov (.c (.int .i64 6))⟩])
    .ret)
    .skip)))))
    (.seq (.region [⟨some 17, none, .mov (.t 0)⟩,
      ⟨some 18, none, .conv .u64 (.t 17)⟩,
      ⟨some 19, none, .bin false .mul (.t 18) (.c (.int .u64 8))⟩,
      ⟨some 20, none, .mov (.t 1)⟩,
      ⟨some 21, none, .conv .u64 (.t 20)⟩,
      ⟨some 22, none, .bin false .add (.t 19) (.t 21)⟩,
      ⟨some 23, none, .call i_wire_PutVarint [.t 22]⟩,
      ⟨some 4, none, .mov (.t 23)⟩,
      ⟨some 5, none, .mov (.c (.int .i64 0))⟩])
    .ret))), [.tmp 4, .tmp 5]⟩
theorem T_wire_PutTag : trFn Tryz.prog [] Tryz.f207 = some A_wire_PutTag := by kernel_rfl
theorem L_wire_PutTag : 2 ≤ Tryz.f207.ntmps := by decide

/-! math/bits.Len64 -/
def A_bits_Len64 : AFn := ⟨(.seq (.region [⟨some 2, none, .mov (.c (.int .i64 0))⟩])
    (.seq (.seq (.region [⟨some 3, none, .mov (.t 0)⟩,
      ⟨some 4, none, .bin false .geq (.t 3) (.c (.int .u64 4294967296))⟩])
    (.cond (.t 4) (.seq (.region [⟨some 5, none, .mov (.t 0)⟩,
      ⟨some 6, none, .bin false .shr (.t 5) (.c (.int .u64 32))⟩,
      ⟨some 0, none, .mov (.t 6)⟩])
    (.region [⟨some 2, none, .mov (.c (.int .i64 32))⟩]))
    .skip))
    (.seq (.seq (.region [⟨some 7, none, .mov (.t 0)⟩,
      ⟨some 8, none, .bin false .geq (.t 7) (.c (.int .u64 65536))⟩])
    (.cond (.t 8) (.seq (.region [⟨some 9, none, .mov (.t 0)⟩,
      ⟨some 10, none, .bin false .shr (.t 9) (.c (.int .u64 16))⟩,
      ⟨some 0, none, .mov (.t 10)⟩])
    (.region [⟨some 11, none, .mov (.t 2)⟩,
      ⟨some 12, none, .bin false .add (.t 11) (.c (.int .i64 16))⟩,
      ⟨some 2, none, .mov (.t 12)⟩]))
    .skip))
    (.seq (.seq (.region [⟨some 13, none, .mov (.t 0)⟩,
      ⟨some 14, none, .bin false .geq (.t 13) (.c (.int .u64 256))⟩])
    (.cond (.t 14) (.seq (.region [⟨some 15, none, .mov (.t 0)⟩,
      ⟨some 16, none, .bin false .shr (.t 15) (.c (.int .u64 8))⟩,
      ⟨some 0, none, .mov (.t 16)⟩])
    (.region [⟨some 17, none, .mov (.t 2)⟩,
      ⟨some 18, none, .bin false .add (.t 17) (.c (.int .i64 8))⟩,
      ⟨some 2, none, .mov (.t 18)⟩]))
    .skip))
    (.seq (.region [⟨some 19, none, .mov (.t 2)⟩,
      ⟨some 20, none, .mov (.t 0)⟩,
      ⟨some 21, none, .conv .u8 (.t 20)⟩,
      ⟨some 22, none, .idxS (.c (.str ⟨#[0, 1, 2, 2, 3, 3, 3, 3, 4, 4, 4, 4, 4, 4, 4, 4, 5, 5, 5, 5, 5, 5, 5, 5, 5, 5, 5, 5, 5, 5, 5, 5, 6, 6, 6, 6, 6, 6, 6, 6, 6, 6, 6, 6, 6, 6, 6, 6, 6, 6, 6, 6, 6, 6, 6, 6, 6, 6, 6, 6, 6, 6, 6, 6, 7, 7, 7, 7, 7, 7, 7, 7, 7, 7, 7, 7, 7, 7, 7, 7, 7, 7, 7, 7, 7, 7, 7, 7, 7, 7, 7, 7, 7, 7, 7, 7, 7, 7, 7, 7, 7, 7, 7, 7, 7, 7, 7, 7, 7, 7, 7, 7, 7, 7, 7, 7, 7, 7, 7, 7, 7, 7, 7, 7, 7, 7, 7, 7, 8, 8, 8, 8, 8, 8, 8, 8, 8, 8, 8, 8, 8, 8, 8, 8, 8, 8, 8, 8, 8, 8, 8, 8, 8, 8, 8, 8, 8, 8, 8, 8, 8, 8, 8, 8, 8, 8, 8, 8, 8, 8, 8, 8, 8, 8, 8, 8, 8, 8, 8, 8, 8, 8, 8, 8, 8, 8, 8, 8, 8, 8, 8, 8, 8, 8, 8, 8, 8, 8, 8, 8, 8, 8, 8, 8, 8, 8, 8, 8, 8, 8, 8, 8, 8, 8, 8, 8, 8, 8, 8, 8, 8, 8, 8, 8, 8, 8, 8, 8, 8, 8, 8, 8, 8, 8, 8, 8, 8, 8, 8, 8, 8, 8, 8, 8, 8, 8, 8, 8, 8, 8, 8, 8, 8, 8, 8, 8]⟩)) (.t 21)⟩,
      ⟨some 23, none, .conv .i64 (.t 22)⟩,
      ⟨some 24, none, .bin false .add (.t 19) (.t 23)⟩,
      ⟨some 2, none, .mov (.t 24)⟩])
    .ret))))), [.tmp 2]⟩
theorem T_bits_Len64 : trFn Tryz.prog [] Tryz.f211 = some A_bits_Len64 := by kernel_rfl
theorem L_bits_Len64 : 1 ≤ Tryz.f211.ntmps := by decide

/-! cartouche/model.typedVal -/
def A_model_typedVal : AFn := ⟨(.seq (.region [⟨some 4, none, .box 0 (.t 0)⟩,
      ⟨some 7, none, .box 0 (.t 3)⟩,
      ⟨some 8, none, .mov (.c (.bool false))⟩])
    (.seq (.seq (.region [⟨some 11, none, .mov (.t 1)⟩])
    (.block 0 (.seq (.region [⟨some 13, none, .bin false .eql (.t 11) (.c (.int .i64 17))⟩,
      ⟨some 12, none, .mov (.t 13)⟩])
    (.cond (.t 12) (.seq (.draw [1, 5, 6, 11, 12, 16, 22, 1000019, 1000020, 1000021, 2000022] [⟨some 14, none, .fldA 0 1 false (.t 7)⟩,
      ⟨some 15, none, .load 1 false (.t 14)⟩,
      ⟨some 16, none, .bin false .eql (.t 15) (.c (.int .u64 0))⟩,
      ⟨some 17, none, .mov (.t 16)⟩,
      ⟨some 18, some (17, true), .fldA 1 1 false (.t 7)⟩,
      ⟨some 19, some (17, true), .load 1 false (.t 18)⟩,
      ⟨some 20, some (17, true), .len false (.t 19)⟩,
      ⟨some 21, some (17, true), .bin false .eql (.t 20) (.c (.int .i64 0))⟩,
      ⟨some 22, none, .pickb (.t 17) (.t 21) (.c (.bool false))⟩,
      ⟨some 23, none, .mov (.t 22)⟩,
      ⟨some 24, some (23, true), .fldA 2 1 false (.t 7)⟩,
      ⟨some 25, some (23, true), .load 1 false (.t 24)⟩,
      ⟨some 26, some (23, true), .len false (.t 25)⟩,
      ⟨some 27, some (23, true), .bin false .eql (.t 26) (.c (.int .i64 1))⟩,
      ⟨some 28, none, .pickb (.t 23) (.t 27) (.c (.bool false))⟩,
      ⟨some 29, none, .mov (.t 28)⟩,
      ⟨some 30, some (29, true), .load 1 true (.t 4)⟩,
      ⟨some 31, some (29, true), .mov (.t 2)⟩,
      ⟨some 32, some (29, true), .fldA 2 1 false (.t 7)⟩,
      ⟨some 33, some (29, true), .load 1 false (.t 32)⟩,
      ⟨some 34, some (29, true), .idxA 2 (.t 33) (.c (.int .i64 0))⟩,
      ⟨some 35, some (29, true), .load 2 true (.t 34)⟩,
      ⟨some 36, some (29, true), .call i_model_typed [.t 30, .t 31, .t 35]⟩,
      ⟨some 37, none, .pickb (.t 29) (.t 36) (.c (.bool false))⟩,
      ⟨some 8, none, .mov (.t 37)⟩])
    .ret)
    (.seq (.region [⟨some 39, none, .bin false .eql (.t 11) (.c (.int .i64 16))⟩,
      ⟨some 38, none, .mov (.t 39)⟩])
    (.cond (.t 38) (.seq (.seq (.region [⟨some 40, none, .mov (.t 1)⟩,
      ⟨some 41, none, .load 3 true (.t 7)⟩,
      ⟨some 42, none, .call i_scalar_Fits [.t 40, .t 41]⟩,
      ⟨some 43, none, .un .not (.t 42)⟩])
    (.cond (.t 43) (.seq (.region [⟨some 8, none, .mov (.c (.bool false))⟩])
    .ret)
    .skip))
    (.seq (.draw [1, 3, 4, 8, 1000006, 2000008] [⟨some 45, none, .fldA 0 1 false (.t 4)⟩,
      ⟨some 46, none, .load 1 false (.t 45)⟩,
      ⟨some 47, none, .mov (.t 2)⟩,
      ⟨some 48, none, .idxA 6 (.t 46) (.t 47)⟩,
      ⟨some 49, none, .load 6 true (.t 48)⟩,
      ⟨some 50, none, .fldA 0 1 false (.t 7)⟩,
      ⟨some 51, none, .load 1 false (.t 50)⟩,
      ⟨some 52, none, .conv .i64 (.t 51)⟩,
      ⟨some 53, none, .call i_table_SymbolAt [.t 49, .t 52]⟩,
      ⟨some 44, none, .mov (.t 53)⟩,
      ⟨some 54, none, .ext 0 (.t 44)⟩,
      ⟨some 55, none, .ext 1 (.t 44)⟩,
      ⟨some 9, none, .mov (.t 54)⟩,
      ⟨some 10, none, .mov (.t 55)⟩])
    (.seq (.region [⟨some 56, none, .mov (.t 10)⟩,
      ⟨some 8, none, .mov (.t 56)⟩])
    .ret)))
    (.seq (.region [⟨some 58, none, .bin false .eql (.t 11) (.c (.int .i64 14))⟩,
      ⟨some 57, none, .mov (.t 58)⟩])
    (.cond (.t 57) (.seq (.region [⟨some 59, none, .mov (.t 1)⟩,
      ⟨some 60, none, .load 3 true (.t 7)⟩,
      ⟨some 61, none, .call i_scalar_Fits [.t 59, .t 60]⟩,
      ⟨some 62, none, .mov (.t 61)⟩,
      ⟨some 63, some (62, true), .fldA 1 1 false (.t 7)⟩,
      ⟨some 64, some (62, true), .load 1 false (.t 63)⟩,
      ⟨some 65, some (62, true), .call i_quote_Valid [.t 64]⟩,
      ⟨some 66, none, .pickb (.t 62) (.t 65) (.c (.bool false))⟩,
      ⟨some 8, none, .mov (.t 66)⟩])
    .ret)
    .skip))))))))
    (.seq (.region [⟨some 67, none, .mov (.t 1)⟩,
      ⟨some 68, none, .load 3 true (.t 7)⟩,
      ⟨some 69, none, .call i_scalar_Fits [.t 67, .t 68]⟩,
      ⟨some 8, none, .mov (.t 69)⟩])
    .ret))), [.tmp 8]⟩
theorem T_model_typedVal : trFn Tryz.prog [(0, [1, 1, 0]), (1000003, [1, 5, 6, 11, 12, 16, 22, 1000019, 1000020, 1000021, 2000022]), (1000007, [1, 3, 4, 8, 1000006, 2000008])] Tryz.f216 = some A_model_typedVal := by kernel_rfl
theorem L_model_typedVal : 4 ≤ Tryz.f216.ntmps := by decide

/-! cartouche/scalar.Compare -/
def A_scalar_Compare : AFn := ⟨(.seq (.region [⟨some 4, none, .box 0 (.t 1)⟩,
      ⟨some 5, none, .box 0 (.t 2)⟩,
      ⟨some 6, none, .mov (.c (.int .i64 0))⟩,
      ⟨some 7, none, .mov (.c (.int .i64 0))⟩])
    (.seq (.block 0 (.seq (.region [⟨some 9, none, .mov (.t 0)⟩,
      ⟨some 10, none, .call i_scalar_IsKey [.t 9]⟩,
      ⟨some 11, none, .un .not (.t 10)⟩,
      ⟨some 8, none, .mov (.t 11)⟩])
    (.cond (.t 8) (.seq (.region [⟨some 6, none, .mov (.c (.int .i64 0))⟩,
      ⟨some 7, none, .mov (.c (.int .i64 18))⟩])
    .ret)
    (.seq (.region [⟨some 13, none, .mov (.t 0)⟩,
      ⟨some 14, none, .load 3 true (.t 4)⟩,
      ⟨some 15, none, .call i_scalar_Fits [.t 13, .t 14]⟩,
      ⟨some 16, none, .un .not (.t 15)⟩,
      ⟨some 17, none, .mov (.t 16)⟩,
      ⟨some 18, some (17, false), .mov (.t 0)⟩,
      ⟨some 19, some (17, false), .load 3 true (.t 5)⟩,
      ⟨some 20, some (17, false), .call i_scalar_Fits [.t 18, .t 19]⟩,
      ⟨some 21, some (17, false), .un .not (.t 20)⟩,
      ⟨some 22, none, .pickb (.t 17) (.c (.bool true)) (.t 21)⟩,
      ⟨some 12, none, .mov (.t 22)⟩])
    (.cond (.t 12) (.seq (.region [⟨some 6, none, .mov (.c (.int .i64 0))⟩,
      ⟨some 7, none, .mov (.c (.int .i64 7))⟩])
    .ret)
    (.seq (.region [⟨some 24, none, .mov (.t 0)⟩,
      ⟨some 25, none, .bin false .eql (.t 24) (.c (.int .i64 14))⟩,
      ⟨some 23, none, .mov (.t 25)⟩])
    (.cond (.t 23) (.seq (.region [⟨some 26, none, .fldA 1 1 false (.t 4)⟩,
      ⟨some 27, none, .load 1 false (.t 26)⟩,
      ⟨some 28, none, .fldA 1 1 false (.t 5)⟩,
      ⟨some 29, none, .load 1 false (.t 28)⟩,
      ⟨some 30, none, .call i_bytes_Compare [.t 27, .t 29]⟩,
      ⟨some 6, none, .mov (.t 30)⟩,
      ⟨some 7, none, .mov (.c (.int .i64 0))⟩])
    .ret)
    (.seq (.region [⟨some 32, none, .mov (.t 0)⟩,
      ⟨some 33, none, .call i_scalar_signed [.t 32]⟩,
      ⟨some 31, none, .mov (.t 33)⟩])
    (.cond (.t 31) (.seq (.region [⟨some 34, none, .fldA 0 1 false (.t 4)⟩,
      ⟨some 35, none, .load 1 false (.t 34)⟩,
      ⟨some 36, none, .conv .i64 (.t 35)⟩,
      ⟨some 37, none, .fldA 0 1 false (.t 5)⟩,
      ⟨some 38, none, .load 1 false (.t 37)⟩,
      ⟨some 39, none, .conv .i64 (.t 38)⟩,
      ⟨some 40, none, .call i_cmp_Compare_int64 [.t 36, .t 39]⟩,
      ⟨some 6, none, .mov (.t 40)⟩,
      ⟨some 7, none, .mov (.c (.int .i64 0))⟩])
    .ret)
    .skip)))))))))
    (.seq (.region [⟨some 41, none, .fldA 0 1 false (.t 4)⟩,
      ⟨some 42, none, .load 1 false (.t 41)⟩,
      ⟨some 43, none, .fldA 0 1 false (.t 5)⟩,
      ⟨some 44, none, .load 1 false (.t 43)⟩,
      ⟨some 45, none, .call i_cmp_Compare_uint64 [.t 42, .t 44]⟩,
      ⟨some 6, none, .mov (.t 45)⟩,
      ⟨some 7, none, .mov (.c (.int .i64 0))⟩])
    .ret))), [.tmp 6, .tmp 7]⟩
theorem T_scalar_Compare : trFn Tryz.prog [(0, [1, 1, 0, 0])] Tryz.f217 = some A_scalar_Compare := by kernel_rfl
theorem L_scalar_Compare : 3 ≤ Tryz.f217.ntmps := by decide

/-! cartouche/model.typedField$1 -/
def A_model_typedField_1 : AFn := ⟨(.seq (.region [⟨some 3, none, .box 0 (.t 0)⟩,
      ⟨some 4, none, .mov (.c (.bool false))⟩])
    (.seq (.region [⟨some 5, none, .load 1 true (.t 1)⟩,
      ⟨some 6, none, .fldA 2 1 false (.t 2)⟩,
      ⟨some 7, none, .load 1 false (.t 6)⟩,
      ⟨some 8, none, .fldA 3 1 false (.t 2)⟩,
      ⟨some 9, none, .load 1 false (.t 8)⟩,
      ⟨some 10, none, .load 3 true (.t 3)⟩,
      ⟨some 11, none, .call i_model_typedVal [.t 5, .t 7, .t 9, .t 10]⟩,
      ⟨some 12, none, .un .not (.t 11)⟩,
      ⟨some 4, none, .mov (.t 12)⟩])
    .ret)), [.tmp 4]⟩
theorem T_model_typedField_1 : trFn Tryz.prog [(0, [1, 0])] Tryz.f218 = some A_model_typedField_1 := by kernel_rfl
theorem L_model_typedField_1 : 3 ≤ Tryz.f218.ntmps := by decide

/-! slices.IndexFunc[[]cartouche/api.Val,cartouche/api.Val] -/
def A_slices_IndexFunc_api_Val_api_Val : AFn := ⟨(.seq (.region [⟨some 4, none, .mov (.c (.int .i64 0))⟩])
    (.seq (.seq (.region [⟨some 6, none, .mov (.t 0)⟩,
      ⟨some 7, none, .len false (.t 6)⟩,
      ⟨some 8, none, .mov (.c (.int .i64 0))⟩])
    (.block 0 (.loop (.seq (.region [⟨some 9, none, .bin false .lss (.t 8) (.t 7)⟩])
    (.seq (.cond (.t 9) .skip
    (.exit 0))
    (.seq (.block 1 (.seq (.region [⟨some 10, none, .mov (.t 8)⟩,
      ⟨some 5, none, .mov (.t 10)⟩])
    (.seq (.region [⟨some 11, none, .mov (.t 1)⟩,
      ⟨some 12, none, .mov (.t 0)⟩,
      ⟨some 13, none, .mov (.t 5)⟩,
      ⟨some 14, none, .idxA 3 (.t 12) (.t 13)⟩,
      ⟨some 15, none, .load 3 true (.t 14)⟩,
      ⟨some 16, none, .callv (.t 11) [.t 15]⟩])
    (.cond (.t 16) (.seq (.region [⟨some 17, none, .mov (.t 5)⟩,
      ⟨some 4, none, .mov (.t 17)⟩])
    .ret)
    .skip))))
    (.region [⟨some 18, none, .bin false .add (.t 8) (.c (.int .i64 1))⟩,
      ⟨some 8, none, .mov (.t 18)⟩])))))))
    (.seq (.region [⟨some 4, none, .mov (.c (.int .i64 (-1)))⟩])
    .ret))), [.tmp 4]⟩
theorem T_slices_IndexFunc_api_Val_api_Val : trFn Tryz.prog [] Tryz.f219 = some A_slices_IndexFunc_api_Val_api_Val := by kernel_rfl
theorem L_slices_IndexFunc_api_Val_api_Val : 2 ≤ Tryz.f219.ntmps := by decide

/-! cartouche/table.HasRow -/
def A_table_HasRow : AFn := ⟨(.seq (.region [⟨some 1, none, .box 0 (.t 0)⟩,
      ⟨some 2, none, .mov (.c (.bool false))⟩])
    (.seq (.region [⟨some 3, none, .fldA 4 1 false (.t 1)⟩,
      ⟨some 4, none, .load 1 false (.t 3)⟩,
      ⟨some 5, none, .bin false .eql (.t 4) (.c (.int .i64 2))⟩,
      ⟨some 6, none, .mov (.t 5)⟩,
      ⟨some 7, some (6, false), .fldA 4 1 false (.t 1)⟩,
      ⟨some 8, some (6, false), .load 1 false (.t 7)⟩,
      ⟨some 9, some (6, false), .bin false .eql (.t 8) (.c (.int .i64 3))⟩,
      ⟨some 10, none, .pickb (.t 6) (.c (.bool true)) (.t 9)⟩,
      ⟨some 11, none, .mov (.t 10)⟩,
      ⟨some 12, some (11, true), .fldA 2 1 false (.t 1)⟩,
      ⟨some 13, some (11, true), .load 1 false (.t 12)⟩,
      ⟨some 14, some (11, true), .call i_scalar_Numeric [.t 13]⟩,
      ⟨some 15, none, .pickb (.t 11) (.t 14) (.c (.bool false))⟩,
      ⟨some 2, none, .mov (.t 15)⟩])
    .ret)), [.tmp 2]⟩
theorem T_table_HasRow : trFn Tryz.prog [(0, [1, 0])] Tryz.f220 = some A_table_HasRow := by kernel_rfl
theorem L_table_HasRow : 1 ≤ Tryz.f220.ntmps := by decide

/-! cartouche/model.each[cartouche/api.Msg] -/
def A_model_each_api_Msg : AFn := ⟨(.seq (.region [⟨some 4, none, .mov (.c (.nil))⟩])
    (.seq (.region [⟨some 8, none, .mov (.t 0)⟩,
      ⟨some 9, none, .len false (.t 8)⟩,
      ⟨some 10, none, .mks 0 35 2 48 (.agg [.nil, .nil]) (.c (.int .i64 0)) (.t 9)⟩,
      ⟨some 5, none, .mov (.t 10)⟩])
    (.seq (.seq (.region [⟨some 11, none, .mov (.t 0)⟩,
      ⟨some 12, none, .len false (.t 11)⟩,
      ⟨some 13, none, .mov (.c (.int .i64 0))⟩])
    (.block 0 (.loop (.seq (.region [⟨some 14, none, .bin false .lss (.t 13) (.t 12)⟩])
    (.seq (.cond (.t 14) .skip
    (.exit 0))
    (.seq (.block 1 (.seq (.region [⟨some 15, none, .idxA 2 (.t 11) (.t 13)⟩,
      ⟨some 16, none, .load 2 true (.t 15)⟩,
      ⟨some 7, none, .alloc 0 [.nil, .nil]⟩,
      ⟨none, none, .store 2 (.t 7) (.t 16)⟩])
    (.region [⟨some 17, none, .mov (.t 5)⟩,
      ⟨some 18, none, .mov (.t 1)⟩,
      ⟨some 19, none, .load 2 true (.t 7)⟩,
      ⟨some 20, none, .callv (.t 18) [.t 19]⟩,
      ⟨some 21, none, .blit 0 35 2 [.t 20]⟩,
      ⟨some 22, none, .app 0 35 2 48 (.t 17) (.t 21)⟩,
      ⟨some 5, none, .mov (.t 22)⟩])))
    (.region [⟨some 23, none, .bin false .add (.t 13) (.c (.int .i64 1))⟩,
      ⟨some 13, none, .mov (.t 23)⟩])))))))
    (.seq (.region [⟨some 24, none, .mov (.t 5)⟩,
      ⟨some 4, none, .mov (.t 24)⟩])
    .ret)))), [.tmp 4]⟩
theorem T_model_each_api_Msg : trFn Tryz.prog [(4, [0, 0, 1, 0]), (5, [0, 0, 0, 0, 1, 0, 0])] Tryz.f221 = some A_model_each_api_Msg := by kernel_rfl
theorem L_model_each_api_Msg : 2 ≤ Tryz.f221.ntmps := by decide

/-! strings.Split -/
def A_strings_Split : AFn := ⟨(.seq (.region [⟨some 4, none, .mov (.c (.nil))⟩])
    (.seq (.region [⟨some 5, none, .mov (.t 0)⟩,
      ⟨some 6, none, .mov (.t 1)⟩,
      ⟨some 7, none, .call i_strings_genSplit [.t 5, .t 6, .c (.int .i64 0), .c (.int .i64 (-1))]⟩,
      ⟨some 4, none, .mov (.t 7)⟩])
    .ret)), [.tmp 4]⟩
theorem T_strings_Split : trFn Tryz.prog [] Tryz.f243 = some A_strings_Split := by kernel_rfl
theorem L_strings_Split : 2 ≤ Tryz.f243.ntmps := by decide

/-! cartouche/lex.IsName -/
def A_lex_IsName : AFn := ⟨(.seq (.region [⟨some 2, none, .mov (.c (.bool false))⟩])
    (.seq (.region [⟨some 3, none, .mov (.t 0)⟩,
      ⟨some 4, none, .bin false .neq (.t 3) (.c (.str ⟨#[]⟩))⟩,
      ⟨some 5, none, .mov (.t 4)⟩,
      ⟨some 6, some (5, true), .mov (.t 0)⟩,
      ⟨some 7, some (5, true), .idxS (.t 6) (.c (.int .i64 0))⟩,
      ⟨some 8, some (5, true), .call i_lex_letter [.t 7]⟩,
      ⟨some 9, none, .pickb (.t 5) (.t 8) (.c (.bool false))⟩,
      ⟨some 10, none, .mov (.t 9)⟩,
      ⟨some 11, some (10, true), .mov (.t 0)⟩,
      ⟨some 12, some (10, true), .call i_lex_named [.t 11, .c (.int .i64 0)]⟩,
      ⟨some 13, some (10, true), .mov (.t 0)⟩,
      ⟨some 14, some (10, true), .len true (.t 13)⟩,
      ⟨some 15, some (10, true), .bin false .eql (.t 12) (.t 14)⟩,
      ⟨some 16, none, .pickb (.t 10) (.t 15) (.c (.bool false))⟩,
      ⟨some 2, none, .mov (.t 16)⟩])
    .ret)), [.tmp 2]⟩
theorem T_lex_IsName : trFn Tryz.prog [] Tryz.f244 = some A_lex_IsName := by kernel_rfl
theorem L_lex_IsName : 1 ≤ Tryz.f244.ntmps := by decide

/-! (cartouche/table.named).add -/
def A_table_named_add : AFn := ⟨(.seq (.region [⟨some 4, none, .mov (.c (.bool false))⟩])
    (.seq (.seq (.region [⟨some 8, none, .mov (.t 0)⟩,
      ⟨some 9, none, .mov (.t 1)⟩,
      ⟨some 10, none, .look .str (.agg []) true (.t 8) (.t 9)⟩,
      ⟨some 7, none, .mov (.t 10)⟩,
      ⟨some 11, none, .ext 0 (.t 7)⟩,
      ⟨some 12, none, .ext 1 (.t 7)⟩,
      ⟨some 5, none, .alloc 0 []⟩,
      ⟨none, none, .store 0 (.t 5) (.t 11)⟩,
      ⟨some 6, none, .mov (.t 12)⟩])
    (.seq (.region [⟨some 13, none, .mov (.t 6)⟩])
    (.cond (.t 13) (.seq (.region [⟨some 4, none, .mov (.c (.bool false))⟩])
    .ret)
    .skip)))
    (.seq (.region [⟨some 14, none, .mov (.t 0)⟩,
      ⟨some 15, none, .mov (.t 1)⟩,
      ⟨some 16, none, .build [] []⟩,
      ⟨none, none, .mapset .str (.t 14) (.t 15) (.t 16)⟩])
    (.seq (.region [⟨some 4, none, .mov (.c (.bool true))⟩])
    .ret)))), [.tmp 4]⟩
theorem T_table_named_add : trFn Tryz.prog [(1, [0, 0, 0, 0, 0, 0, 1, 0, 0])] Tryz.f246 = some A_table_named_add := by kernel_rfl
theorem L_table_named_add : 2 ≤ Tryz.f246.ntmps := by decide

/-! cartouche/table.reserved -/
def A_table_reserved : AFn := ⟨(.seq (.region [⟨some 2, none, .box 0 (.t 0)⟩,
      ⟨some 4, none, .mov (.c (.bool false))⟩])
    (.seq (.seq (.region [⟨some 7, none, .fldA 5 1 false (.t 2)⟩,
      ⟨some 8, none, .load 1 false (.t 7)⟩,
      ⟨some 9, none, .len false (.t 8)⟩,
      ⟨some 10, none, .mov (.c (.int .i64 0))⟩])
    (.block 0 (.loop (.seq (.region [⟨some 11, none, .bin false .lss (.t 10) (.t 9)⟩])
    (.seq (.cond (.t 11) .skip
    (.exit 0))
    (.seq (.block 1 (.seq (.region [⟨some 12, none, .idxA 2 (.t 8) (.t 10)⟩,
      ⟨some 13, none, .load 2 true (.t 12)⟩,
      ⟨some 6, none, .alloc 0 [.int .i64 0, .int .i64 0]⟩,
      ⟨none, none, .store 2 (.t 6) (.t 13)⟩])
    (.seq (.region [⟨some 14, none, .mov (.t 1)⟩,
      ⟨some 15, none, .fldA 0 1 false (.t 6)⟩,
      ⟨some 16, none, .load 1 false (.t 15)⟩,
      ⟨some 17, none, .bin false .geq (.t 14) (.t 16)⟩,
      ⟨some 18, none, .mov (.t 17)⟩,
      ⟨some 19, some (18, true), .mov (.t 1)⟩,
      ⟨some 20, some (18, true), .fldA 1 1 false (.t 6)⟩,
      ⟨some 21, some (18, true), .load 1 false (.t 20)⟩,
      ⟨some 22, some (18, true), .bin false .leq (.t 19) (.t 21)⟩,
      ⟨some 23, none, .pickb (.t 18) (.t 22) (.c (.bool false))⟩])
    (.cond (.t 23) (.seq (.region [⟨some 4, none, .mov (.c (.bool true))⟩])
    .ret)
    .skip))))
    (.region [⟨some 24, none, .bin false .add (.t 10) (.c (.int .i64 1))⟩,
      ⟨some 10, none, .mov (.t 24)⟩])))))))
    (.seq (.region [⟨some 4, none, .mov (.c (.bool false))⟩])
    .ret))), [.tmp 4]⟩
theorem T_table_reserved : trFn Tryz.prog [(0, [1, 0]), (3, [0, 0, 1, 0])] Tryz.f247 = some A_table_reserved := by kernel_rfl
theorem L_table_reserved : 2 ≤ Tryz.f247.ntmps := by decide

/-! cartouche/table.goodField -/
def A_table_goodField : AFn := ⟨(.seq (.region [⟨some 3, none, .box 0 (.t 0)⟩,
      ⟨some 4, none, .box 0 (.t 1)⟩,
      ⟨some 5, none, .box 0 (.t 2)⟩,
      ⟨some 6, none, .mov (.c (.bool false))⟩])
    (.seq (.seq (.region [⟨some 7, none, .fldA 2 1 false (.t 5)⟩,
      ⟨some 8, none, .load 1 false (.t 7)⟩])
    (.block 0 (.seq (.seq (.region [⟨some 23, none, .bin false .eql (.t 8) (.c (.int .i64 16))⟩,
      ⟨some 22, none, .mov (.t 23)⟩])
    (.cond (.t 22) .skip
    (.region [⟨some 24, none, .bin false .eql (.t 8) (.c (.int .i64 17))⟩,
      ⟨some 22, none, .mov (.t 24)⟩])))
    (.cond (.t 22) (.seq (.region [⟨some 25, none, .load 1 true (.t 3)⟩,
      ⟨some 26, none, .fldA 3 1 false (.t 5)⟩,
      ⟨some 27, none, .load 1 false (.t 26)⟩,
      ⟨some 28, none, .fldA 2 1 false (.t 5)⟩,
      ⟨some 29, none, .load 1 false (.t 28)⟩,
      ⟨some 30, none, .bin false .eql (.t 29) (.c (.int .i64 16))⟩,
      ⟨some 31, none, .call i_table_sort [.t 25, .t 27, .t 30]⟩,
      ⟨some 32, none, .un .not (.t 31)⟩])
    (.cond (.t 32) (.seq (.region [⟨some 6, none, .mov (.c (.bool false))⟩])
    .ret)
    .skip))
    (.seq (.region [⟨some 9, none, .fldA 3 1 false (.t 5)⟩,
      ⟨some 10, none, .load 1 false (.t 9)⟩,
      ⟨some 11, none, .bin false .neq (.t 10) (.c (.int .i64 0))⟩,
      ⟨some 12, none, .mov (.t 11)⟩,
      ⟨some 13, some (12, false), .fldA 2 1 false (.t 5)⟩,
      ⟨some 14, some (12, false), .load 1 false (.t 13)⟩,
      ⟨some 15, some (12, false), .bin false .lss (.t 14) (.c (.int .i64 1))⟩,
      ⟨some 16, none, .pickb (.t 12) (.c (.bool true)) (.t 15)⟩,
      ⟨some 17, none, .mov (.t 16)⟩,
      ⟨some 18, some (17, false), .fldA 2 1 false (.t 5)⟩,
      ⟨some 19, some (17, false), .load 1 false (.t 18)⟩,
      ⟨some 20, some (17, false), .bin false .gtr (.t 19) (.c (.int .i64 17))⟩,
      ⟨some 21, none, .pickb (.t 17) (.c (.bool true)) (.t 20)⟩])
    (.cond (.t 21) (.seq (.region [⟨some 6, none, .mov (.c (.bool false))⟩])
    .ret)
    .skip))))))
    (.seq (.seq (.region [⟨some 33, none, .fldA 4 1 false (.t 5)⟩,
      ⟨some 34, none, .load 1 false (.t 33)⟩,
      ⟨some 35, none, .bin false .lss (.t 34) (.c (.int .i64 0))⟩,
      ⟨some 36, none, .mov (.t 35)⟩,
      ⟨some 37, some (36, false), .fldA 4 1 false (.t 5)⟩,
      ⟨some 38, some (36, false), .load 1 false (.t 37)⟩,
      ⟨some 39, some (36, false), .bin false .gtr (.t 38) (.c (.int .i64 5))⟩,
      ⟨some 40, none, .pickb (.t 36) (.c (.bool true)) (.t 39)⟩,
      ⟨some 41, none, .mov (.t 40)⟩,
      ⟨some 42, some (41, false), .fldA 4 1 false (.t 5)⟩,
      ⟨some 43, some (41, false), .load 1 false (.t 42)⟩,
      ⟨some 44, some (41, false), .bin false .eql (.t 43) (.c (.int .i64 0))⟩,
      ⟨some 45, some (41, false), .mov (.t 44)⟩,
      ⟨some 46, some (45, true), .fldA 2 1 false (.t 5)⟩,
      ⟨some 47, some (45, true), .load 1 false (.t 46)⟩,
      ⟨some 48, some (45, true), .bin false .eql (.t 47) (.c (.int .i64 17))⟩,
      ⟨some 49, some (41, false), .pickb (.t 45) (.t 48) (.c (.bool false))⟩,
      ⟨some 50, none, .pickb (.t 41) (.c (.bool true)) (.t 49)⟩,
      ⟨some 51, none, .mov (.t 50)⟩,
      ⟨some 52, some (51, false), .fldA 4 1 false (.t 5)⟩,
      ⟨some 53, some (51, false), .load 1 false (.t 52)⟩,
      ⟨some 54, some (51, false), .bin false .eql (.t 53) (.c (.int .i64 3))⟩,
      ⟨some 55, some (51, false), .mov (.t 54)⟩,
      ⟨some 56, some (55, true), .fldA 2 1 false (.t 5)⟩,
      ⟨some 57, some (55, true), .load 1 false (.t 56)⟩,
      ⟨some 58, some (55, true), .call i_scalar_Numeric [.t 57]⟩,
      ⟨some 59, some (55, true), .un .not (.t 58)⟩,
      ⟨some 60, some (51, false), .pickb (.t 55) (.t 59) (.c (.bool false))⟩,
      ⟨some 61, none, .pickb (.t 51) (.c (.bool true)) (.t 60)⟩])
    (.cond (.t 61) (.seq (.region [⟨some 6, none, .mov (.c (.bool false))⟩])
    .ret)
    .skip))
    (.seq (.seq (.region [⟨some 62, none, .fldA 4 1 false (.t 5)⟩,
      ⟨some 63, none, .load 1 false (.t 62)⟩,
      ⟨some 64, none, .bin false .eql (.t 63) (.c (.int .i64 4))⟩])
    (.cond (.t 64) (.seq (.region [⟨some 65, none, .fldA 5 1 false (.t 5)⟩,
      ⟨some 66, none, .load 1 false (.t 65)⟩,
      ⟨some 67, none, .bin false .lss (.t 66) (.c (.int .i64 0))⟩,
      ⟨some 68, none, .mov (.t 67)⟩,
      ⟨some 69, some (68, false), .fldA 5 1 false (.t 5)⟩,
      ⟨some 70, some (68, false), .load 1 false (.t 69)⟩,
      ⟨some 71, some (68, false), .fldA 3 1 false (.t 4)⟩,
      ⟨some 72, some (68, false), .load 1 false (.t 71)⟩,
      ⟨some 73, some (68, false), .len false (.t 72)⟩,
      ⟨some 74, some (68, false), .bin false .geq (.t 70) (.t 73)⟩,
      ⟨some 75, none, .pickb (.t 68) (.c (.bool true)) (.t 74)⟩])
    (.cond (.t 75) (.seq (.region [⟨some 6, none, .mov (.c (.bool false))⟩])
    .ret)
    .skip))
    (.seq (.region [⟨some 76, none, .fldA 5 1 false (.t 5)⟩,
      ⟨some 77, none, .load 1 false (.t 76)⟩,
      ⟨some 78, none, .bin false .neq (.t 77) (.c (.int .i64 0))⟩])
    (.cond (.t 78) (.seq (.region [⟨some 6, none, .mov (.c (.bool false))⟩])
    .ret)
    .skip))))
    (.seq (.seq (.region [⟨some 79, none, .fldA 4 1 false (.t 5)⟩,
      ⟨some 80, none, .load 1 false (.t 79)⟩,
      ⟨some 81, none, .bin false .eql (.t 80) (.c (.int .i64 5))⟩])
    (.cond (.t 81) (.seq (.region [⟨some 82, none, .fldA 6 1 false (.t 5)⟩,
      ⟨some 83, none, .load 1 false (.t 82)⟩,
      ⟨some 84, none, .call i_scalar_IsKey [.t 83]⟩,
      ⟨some 6, none, .mov (.t 84)⟩])
    .ret)
    .skip))
    (.seq (.region [⟨some 85, none, .fldA 6 1 false (.t 5)⟩,
      ⟨some 86, none, .load 1 false (.t 85)⟩,
      ⟨some 87, none, .bin false .eql (.t 86) (.c (.int .i64 0))⟩,
      ⟨some 6, none, .mov (.t 87)⟩])
    .ret)))))), [.tmp 6]⟩
theorem T_table_goodField : trFn Tryz.prog [(0, [1, 1, 1, 0])] Tryz.f248 = some A_table_goodField := by kernel_rfl
theorem L_table_goodField : 3 ≤ Tryz.f248.ntmps := by decide

/-! cartouche/wire.isKind -/
def A_wire_isKind : AFn := ⟨(.seq (.region [⟨some 2, none, .mov (.c (.bool false))⟩])
    (.seq (.seq (.region [⟨some 3, none, .mov (.t 0)⟩])
    (.block 0 (.seq (.seq (.region [⟨some 5, none, .bin false .eql (.t 3) (.c (.int .i64 0))⟩,
      ⟨some 4, none, .mov (.t 5)⟩])
    (.cond (.t 4) .skip
    (.seq (.region [⟨some 6, none, .bin false .eql (.t 3) (.c (.int .i64 1))⟩,
      ⟨some 4, none, .mov (.t 6)⟩])
    (.cond (.t 4) .skip
    (.seq (.region [⟨some 7, none, .bin false .eql (.t 3) (.c (.int .i64 2))⟩,
      ⟨some 4, none, .mov (.t 7)⟩])
    (.cond (.t 4) .skip
    (.region [⟨some 8, none, .bin false .eql (.t 3) (.c (.int .i64 5))⟩,
      ⟨some 4, none, .mov (.t 8)⟩])))))))
    (.cond (.t 4) (.seq (.region [⟨some 2, none, .mov (.c (.bool true))⟩])
    .ret)
    .skip))))
    (.seq (.region [⟨some 2, none, .mov (.c (.bool false))⟩])
    .ret))), [.tmp 2]⟩
theorem T_wire_isKind : trFn Tryz.prog [] Tryz.f251 = some A_wire_isKind := by kernel_rfl
theorem L_wire_isKind : 1 ≤ Tryz.f251.ntmps := by decide

/-! cartouche/scalar.Fits -/
def A_scalar_Fits : AFn := ⟨(.seq (.region [⟨some 3, none, .box 0 (.t 1)⟩,
      ⟨some 4, none, .mov (.c (.bool false))⟩])
    (.seq (.block 0 (.seq (.region [⟨some 6, none, .mov (.t 0)⟩,
      ⟨some 7, none, .call i_scalar_known [.t 6]⟩,
      ⟨some 8, none, .un .not (.t 7)⟩,
      ⟨some 9, none, .mov (.t 8)⟩,
      ⟨some 10, some (9, false), .fldA 2 1 false (.t 3)⟩,
      ⟨some 11, some (9, false), .load 1 false (.t 10)⟩,
      ⟨some 12, some (9, false), .len false (.t 11)⟩,
      ⟨some 13, some (9, false), .bin false .gtr (.t 12) (.c (.int .i64 0))⟩,
      ⟨some 14, none, .pickb (.t 9) (.c (.bool true)) (.t 13)⟩,
      ⟨some 5, none, .mov (.t 14)⟩])
    (.cond (.t 5) (.seq (.region [⟨some 4, none, .mov (.c (.bool false))⟩])
    .ret)
    (.seq (.region [⟨some 16, none, .mov (.t 0)⟩,
      ⟨some 17, none, .call i_scalar_Numeric [.t 16]⟩,
      ⟨some 15, none, .mov (.t 17)⟩])
    (.cond (.t 15) (.seq (.region [⟨some 18, none, .fldA 1 1 false (.t 3)⟩,
      ⟨some 19, none, .load 1 false (.t 18)⟩,
      ⟨some 20, none, .len false (.t 19)⟩,
      ⟨some 21, none, .bin false .eql (.t 20) (.c (.int .i64 0))⟩,
      ⟨some 22, none, .mov (.t 21)⟩,
      ⟨some 23, some (22, true), .mov (.t 0)⟩,
      ⟨some 24, some (22, true), .fldA 0 1 false (.t 3)⟩,
      ⟨some 25, some (22, true), .load 1 false (.t 24)⟩,
      ⟨some 26, some (22, true), .call i_scalar_holds [.t 23, .t 25]⟩,
      ⟨some 27, none, .pickb (.t 22) (.t 26) (.c (.bool false))⟩,
      ⟨some 4, none, .mov (.t 27)⟩])
    .ret)
    .skip)))))
    (.seq (.region [⟨some 28, none, .fldA 0 1 false (.t 3)⟩,
      ⟨some 29, none, .load 1 false (.t 28)⟩,
      ⟨some 30, none, .bin false .eql (.t 29) (.c (.int .u64 0))⟩,
      ⟨some 4, none, .mov (.t 30)⟩])
    .ret))), [.tmp 4]⟩
theorem T_scalar_Fits : trFn Tryz.prog [(0, [1, 0])] Tryz.f256 = some A_scalar_Fits := by kernel_rfl
theorem L_scalar_Fits : 2 ≤ Tryz.f256.ntmps := by decide

/-! cartouche/table.SymbolAt -/
def A_table_SymbolAt : AFn := ⟨(.seq (.region [⟨some 2, none, .box 0 (.t 0)⟩,
      ⟨some 4, none, .mov (.c (.str ⟨#[]⟩))⟩,
      ⟨some 5, none, .mov (.c (.bool false))⟩])
    (.seq (.seq (.region [⟨some 8, none, .fldA 4 1 false (.t 2)⟩,
      ⟨some 9, none, .load 1 false (.t 8)⟩,
      ⟨some 10, none, .len false (.t 9)⟩,
      ⟨some 11, none, .mov (.c (.int .i64 0))⟩])
    (.block 0 (.loop (.seq (.region [⟨some 12, none, .bin false .lss (.t 11) (.t 10)⟩])
    (.seq (.cond (.t 12) .skip
    (.exit 0))
    (.seq (.block 1 (.seq (.region [⟨some 13, none, .idxA 2 (.t 9) (.t 11)⟩,
      ⟨some 14, none, .load 2 true (.t 13)⟩,
      ⟨some 7, none, .alloc 0 [.str ⟨#[]⟩, .int .i64 0]⟩,
      ⟨none, none, .store 2 (.t 7) (.t 14)⟩])
    (.seq (.region [⟨some 15, none, .fldA 1 1 false (.t 7)⟩,
      ⟨some 16, none, .load 1 false (.t 15)⟩,
      ⟨some 17, none, .mov (.t 1)⟩,
      ⟨some 18, none, .bin false .eql (.t 16) (.t 17)⟩])
    (.cond (.t 18) (.seq (.region [⟨some 19, none, .fldA 0 1 false (.t 7)⟩,
      ⟨some 20, none, .load 1 false (.t 19)⟩,
      ⟨some 4, none, .mov (.t 20)⟩,
      ⟨some 5, none, .mov (.c (.bool true))⟩])
    .ret)
    .skip))))
    (.region [⟨some 21, none, .bin false .add (.t 11) (.c (.int .i64 1))⟩,
      ⟨some 11, none, .mov (.t 21)⟩])))))))
    (.seq (.region [⟨some 4, none, .mov (.c (.str ⟨#[]⟩))⟩,
      ⟨some 5, none, .mov (.c (.bool false))⟩])
    .ret))), [.tmp 4, .tmp 5]⟩
theorem T_table_SymbolAt : trFn Tryz.prog [(0, [1, 0, 0]), (3, [0, 0, 1, 0])] Tryz.f257 = some A_table_SymbolAt := by kernel_rfl
theorem L_table_SymbolAt : 2 ≤ Tryz.f257.ntmps := by decide

/-! cartouche/quote.Valid -/
def A_quote_Valid : AFn := ⟨(.seq (.region [⟨some 2, none, .mov (.c (.bool false))⟩])
    (.seq (.region [⟨some 3, none, .mov (.t 0)⟩,
      ⟨some 4, none, .call i_utf8_Valid [.t 3]⟩,
      ⟨some 2, none, .mov (.t 4)⟩])
    .ret)), [.tmp 2]⟩
theorem T_quote_Valid : trFn Tryz.prog [] Tryz.f258 = some A_quote_Valid := by kernel_rfl
theorem L_quote_Valid : 1 ≤ Tryz.f258.ntmps := by decide

/-! cartouche/scalar.IsKey -/
def A_scalar_IsKey : AFn := ⟨(.seq (.region [⟨some 2, none, .mov (.c (.bool false))⟩])
    (.seq (.region [⟨some 3, none, .mov (.t 0)⟩,
      ⟨some 4, none, .bin false .geq (.t 3) (.c (.int .i64 1))⟩,
      ⟨some 5, none, .mov (.t 4)⟩,
      ⟨some 6, some (5, true), .mov (.t 0)⟩,
      ⟨some 7, some (5, true), .bin false .leq (.t 6) (.c (.int .i64 11))⟩,
      ⟨some 8, none, .pickb (.t 5) (.t 7) (.c (.bool false))⟩,
      ⟨some 9, none, .mov (.t 8)⟩,
      ⟨some 10, some (9, false), .mov (.t 0)⟩,
      ⟨some 11, some (9, false), .bin false .eql (.t 10) (.c (.int .i64 14))⟩,
      ⟨some 12, none, .pickb (.t 9) (.c (.bool true)) (.t 11)⟩,
      ⟨some 2, none, .mov (.t 12)⟩])
    .ret)), [.tmp 2]⟩
theorem T_scalar_IsKey : trFn Tryz.prog [] Tryz.f259 = some A_scalar_IsKey := by kernel_rfl
theorem L_scalar_IsKey : 1 ≤ Tryz.f259.ntmps := by decide

/-! bytes.Compare -/
def A_bytes_Compare : AFn := ⟨(.seq (.region [⟨some 4, none, .mov (.c (.int .i64 0))⟩])
    (.seq (.region [⟨some 5, none, .mov (.t 0)⟩,
      ⟨some 6, none, .mov (.t 1)⟩,
      ⟨some 7, none, .bad⟩,
      ⟨some 4, none, .mov (.t 7)⟩])
    .ret)), [.tmp 4]⟩
theorem T_bytes_Compare : trFn Tryz.prog [] Tryz.f260 = some A_bytes_Compare := by kernel_rfl
theorem L_bytes_Compare : 2 ≤ Tryz.f260.ntmps := by decide

/-! cartouche/scalar.signed -/
def A_scalar_signed : AFn := ⟨(.seq (.region [⟨some 2, none, .mov (.c (.bool false))⟩])
    (.seq (.seq (.region [⟨some 3, none, .mov (.t 0)⟩])
    (.block 0 (.seq (.seq (.region [⟨some 5, none, .bin false .eql (.t 3) (.c (.int .i64 2))⟩,
      ⟨some 4, none, .mov (.t 5)⟩])
    (.cond (.t 4) .skip
    (.seq (.region [⟨some 6, none, .bin false .eql (.t 3) (.c (.int .i64 3))⟩,
      ⟨some 4, none, .mov (.t 6)⟩])
    (.cond (.t 4) .skip
    (.seq (.region [⟨some 7, none, .bin false .eql (.t 3) (.c (.int .i64 6))⟩,
      ⟨some 4, none, .mov (.t 7)⟩])
    (.cond (.t 4) .skip
    (.seq (.region [⟨some 8, none, .bin false .eql (.t 3) (.c (.int .i64 7))⟩,
      ⟨some 4, none, .mov (.t 8)⟩])
    (.cond (.t 4) .skip
    (.seq (.region [⟨some 9, none, .bin false .eql (.t 3) (.c (.int .i64 10))⟩,
      ⟨some 4, none, .mov (.t 9)⟩])
    (.cond (.t 4) .skip
    (.region [⟨some 10, none, .bin false .eql (.t 3) (.c (.int .i64 11))⟩,
      ⟨some 4, none, .mov (.t 10)⟩])))))))))))
    (.cond (.t 4) (.seq (.region [⟨some 2, none, .mov (.c (.bool true))⟩])
    .ret)
    .skip))))
    (.seq (.region [⟨some 2, none, .mov (.c (.bool false))⟩])
    .ret))), [.tmp 2]⟩
theorem T_scalar_signed : trFn Tryz.prog [] Tryz.f261 = some A_scalar_signed := by kernel_rfl
theorem L_scalar_signed : 1 ≤ Tryz.f261.ntmps := by decide

/-! cmp.Compare[int64] -/
def A_cmp_Compare_int64 : AFn := ⟨(.seq (.region [⟨some 4, none, .mov (.c (.int .i64 0))⟩])
    (.seq (.region [⟨some 7, none, .mov (.t 0)⟩,
      ⟨some 8, none, .call i_cmp_isNaN_int64 [.t 7]⟩,
      ⟨some 5, none, .mov (.t 8)⟩])
    (.seq (.region [⟨some 9, none, .mov (.t 1)⟩,
      ⟨some 10, none, .call i_cmp_isNaN_int64 [.t 9]⟩,
      ⟨some 6, none, .mov (.t 10)⟩])
    (.seq (.seq (.region [⟨some 11, none, .mov (.t 5)⟩])
    (.cond (.t 11) (.seq (.seq (.region [⟨some 12, none, .mov (.t 6)⟩])
    (.cond (.t 12) (.seq (.region [⟨some 4, none, .mov (.c (.int .i64 0))⟩])
    .ret)
    .skip))
    (.seq (.region [⟨some 4, none, .mov (.c (.int .i64 (-1)))⟩])
    .ret))
    .skip))
    (.seq (.seq (.region [⟨some 13, none, .mov (.t 6)⟩])
    (.cond (.t 13) (.seq (.region [⟨some 4, none, .mov (.c (.int .i64 1))⟩])
    .ret)
    .skip))
    (.seq (.seq (.region [⟨some 14, none, .mov (.t 0)⟩,
      ⟨some 15, none, .mov (.t 1)⟩,
      ⟨some 16, none, .bin false .lss (.t 14) (.t 15)⟩])
    (.cond (.t 16) (.seq (.region [⟨some 4, none, .mov (.c (.int .i64 (-1)))⟩])
    .ret)
    .skip))
    (.seq (.seq (.region [⟨some 17, none, .mov (.t 0)⟩,
      ⟨some 18, none, .mov (.t 1)⟩,
      ⟨some 19, none, .bin false .gtr (.t 17) (.t 18)⟩])
    (.cond (.t 19) (.seq (.region [⟨some 4, none, .mov (.c (.int .i64 1))⟩])
    .ret)
    .skip))
    (.seq (.region [⟨some 4, none, .mov (.c (.int .i64 0))⟩])
    .ret)))))))), [.tmp 4]⟩
theorem T_cmp_Compare_int64 : trFn Tryz.prog [] Tryz.f262 = some A_cmp_Compare_int64 := by kernel_rfl
theorem L_cmp_Compare_int64 : 2 ≤ Tryz.f262.ntmps := by decide

/-! cmp.Compare[uint64] -/
def A_cmp_Compare_uint64 : AFn := ⟨(.seq (.region [⟨some 4, none, .mov (.c (.int .i64 0))⟩])
    (.seq (.region [⟨some 7, none, .mov (.t 0)⟩,
      ⟨some 8, none, .call i_cmp_isNaN_uint64 [.t 7]⟩,
      ⟨some 5, none, .mov (.t 8)⟩])
    (.seq (.region [⟨some 9, none, .mov (.t 1)⟩,
      ⟨some 10, none, .call i_cmp_isNaN_uint64 [.t 9]⟩,
      ⟨some 6, none, .mov (.t 10)⟩])
    (.seq (.seq (.region [⟨some 11, none, .mov (.t 5)⟩])
    (.cond (.t 11) (.seq (.seq (.region [⟨some 12, none, .mov (.t 6)⟩])
    (.cond (.t 12) (.seq (.region [⟨some 4, none, .mov (.c (.int .i64 0))⟩])
    .ret)
    .skip))
    (.seq (.region [⟨some 4, none, .mov (.c (.int .i64 (-1)))⟩])
    .ret))
    .skip))
    (.seq (.seq (.region [⟨some 13, none, .mov (.t 6)⟩])
    (.cond (.t 13) (.seq (.region [⟨some 4, none, .mov (.c (.int .i64 1))⟩])
    .ret)
    .skip))
    (.seq (.seq (.region [⟨some 14, none, .mov (.t 0)⟩,
      ⟨some 15, none, .mov (.t 1)⟩,
      ⟨some 16, none, .bin false .lss (.t 14) (.t 15)⟩])
    (.cond (.t 16) (.seq (.region [⟨some 4, none, .mov (.c (.int .i64 (-1)))⟩])
    .ret)
    .skip))
    (.seq (.seq (.region [⟨some 17, none, .mov (.t 0)⟩,
      ⟨some 18, none, .mov (.t 1)⟩,
      ⟨some 19, none, .bin false .gtr (.t 17) (.t 18)⟩])
    (.cond (.t 19) (.seq (.region [⟨some 4, none, .mov (.c (.int .i64 1))⟩])
    .ret)
    .skip))
    (.seq (.region [⟨some 4, none, .mov (.c (.int .i64 0))⟩])
    .ret)))))))), [.tmp 4]⟩
theorem T_cmp_Compare_uint64 : trFn Tryz.prog [] Tryz.f263 = some A_cmp_Compare_uint64 := by kernel_rfl
theorem L_cmp_Compare_uint64 : 2 ≤ Tryz.f263.ntmps := by decide

/-! cartouche/scalar.Numeric -/
def A_scalar_Numeric : AFn := ⟨(.seq (.region [⟨some 2, none, .mov (.c (.bool false))⟩])
    (.seq (.region [⟨some 6, none, .mov (.t 0)⟩,
      ⟨some 7, none, .call i_scalar_Wire [.t 6]⟩,
      ⟨some 5, none, .mov (.t 7)⟩,
      ⟨some 8, none, .ext 0 (.t 5)⟩,
      ⟨some 9, none, .ext 1 (.t 5)⟩,
      ⟨some 3, none, .mov (.t 8)⟩,
      ⟨some 4, none, .mov (.t 9)⟩])
    (.seq (.region [⟨some 10, none, .mov (.t 4)⟩,
      ⟨some 11, none, .bin false .eql (.t 10) (.c (.int .i64 0))⟩,
      ⟨some 12, none, .mov (.t 11)⟩,
      ⟨some 13, some (12, true), .mov (.t 3)⟩,
      ⟨some 14, some (12, true), .bin false .neq (.t 13) (.c (.int .i64 2))⟩,
      ⟨some 15, none, .pickb (.t 12) (.t 14) (.c (.bool false))⟩,
      ⟨some 2, none, .mov (.t 15)⟩])
    .ret))), [.tmp 2]⟩
theorem T_scalar_Numeric : trFn Tryz.prog [] Tryz.f264 = some A_scalar_Numeric := by kernel_rfl
theorem L_scalar_Numeric : 1 ≤ Tryz.f264.ntmps := by decide

/-! strings.genSplit -/
def A_strings_genSplit : AFn := ⟨(.seq (.region [⟨some 8, none, .mov (.c (.nil))⟩])
    (.seq (.seq (.region [⟨some 12, none, .mov (.t 3)⟩,
      ⟨some 13, none, .bin false .eql (.t 12) (.c (.int .i64 0))⟩])
    (.cond (.t 13) (.seq (.region [⟨some 8, none, .mov (.c (.nil))⟩])
    .ret)
    .skip))
    (.seq (.seq (.region [⟨some 14, none, .mov (.t 1)⟩,
      ⟨some 15, none, .bin false .eql (.t 14) (.c (.str ⟨#[]⟩))⟩])
    (.cond (.t 15) (.seq (.region [⟨some 16, none, .mov (.t 0)⟩,
      ⟨some 17, none, .mov (.t 3)⟩,
      ⟨some 18, none, .call i_strings_explode [.t 16, .t 17]⟩,
      ⟨some 8, none, .mov (.t 18)⟩])
    .ret)
    .skip))
    (.seq (.seq (.region [⟨some 19, none, .mov (.t 3)⟩,
      ⟨some 20, none, .bin false .lss (.t 19) (.c (.int .i64 0))⟩])
    (.cond (.t 20) (.region [⟨some 21, none, .mov (.t 0)⟩,
      ⟨some 22, none, .mov (.t 1)⟩,
      ⟨some 23, none, .call i_strings_Count [.t 21, .t 22]⟩,
      ⟨some 24, none, .bin false .add (.t 23) (.c (.int .i64 1))⟩,
      ⟨some 3, none, .mov (.t 24)⟩])
    .skip))
    (.seq (.region [⟨some 25, none, .mov (.t 3)⟩,
      ⟨some 26, none, .mov (.t 0)⟩,
      ⟨some 27, none, .len true (.t 26)⟩,
      ⟨some 28, none, .bin false .add (.t 27) (.c (.int .i64 1))⟩,
      ⟨some 29, none, .mm false (.t 25) (.t 28)⟩,
      ⟨some 3, none, .mov (.t 29)⟩])
    (.seq (.region [⟨some 30, none, .mov (.t 3)⟩,
      ⟨some 31, none, .mks 0 9 1 16 (.str ⟨#[]⟩) (.t 30) (.t 30)⟩,
      ⟨some 9, none, .mov (.t 31)⟩])
    (.seq (.region [⟨some 32, none, .mov (.t 3)⟩,
      ⟨some 33, none, .bin false .sub (.t 32) (.c (.int .i64 1))⟩,
      ⟨some 3, none, .mov (.t 33)⟩])
    (.seq (.region [⟨some 10, none, .mov (.c (.int .i64 0))⟩])
    (.seq (.block 0 (.loop (.seq (.seq (.region [⟨some 34, none, .mov (.t 10)⟩,
      ⟨some 35, none, .mov (.t 3)⟩,
      ⟨some 36, none, .bin false .lss (.t 34) (.t 35)⟩])
    (.cond (.t 36) .skip
    (.exit 0)))
    (.block 1 (.seq (.region [⟨some 37, none, .mov (.t 0)⟩,
      ⟨some 38, none, .mov (.t 1)⟩,
      ⟨some 39, none, .call i_strings_Index [.t 37, .t 38]⟩,
      ⟨some 11, none, .mov (.t 39)⟩])
    (.seq (.seq (.region [⟨some 40, none, .mov (.t 11)⟩,
      ⟨some 41, none, .bin false .lss (.t 40) (.c (.int .i64 0))⟩])
    (.cond (.t 41) (.exit 0)
    .skip))
    (.seq (.region [⟨some 42, none, .mov (.t 9)⟩,
      ⟨some 43, none, .mov (.t 10)⟩,
      ⟨some 44, none, .mov (.t 0)⟩,
      ⟨some 45, none, .mov (.t 11)⟩,
      ⟨some 46, none, .mov (.t 2)⟩,
      ⟨some 47, none, .bin false .add (.t 45) (.t 46)⟩,
      ⟨some 48, none, .slcS (.t 44) none (some (.t 47))⟩,
      ⟨some 49, none, .idxA 1 (.t 42) (.t 43)⟩,
      ⟨none, none, .store 1 (.t 49) (.t 48)⟩])
    (.seq (.region [⟨some 50, none, .mov (.t 0)⟩,
      ⟨some 51, none, .mov (.t 11)⟩,
      ⟨some 52, none, .mov (.t 1)⟩,
      ⟨some 53, none, .len true (.t 52)⟩,
      ⟨some 54, none, .bin false .add (.t 51) (.t 53)⟩,
      ⟨some 55, none, .slcS (.t 50) (some (.t 54)) none⟩,
      ⟨some 0, none, .mov (.t 55)⟩])
    (.region [⟨some 56, none, .mov (.t 10)⟩,
      ⟨some 57, none, .bin false .add (.t 56) (.c (.int .i64 1))⟩,
      ⟨some 10, none, .mov (.t 57)⟩])))))))))
    (.seq (.region [⟨some 58, none, .mov (.t 9)⟩,
      ⟨some 59, none, .mov (.t 10)⟩,
      ⟨some 60, none, .mov (.t 0)⟩,
      ⟨some 61, none, .idxA 1 (.t 58) (.t 59)⟩,
      ⟨none, none, .store 1 (.t 61) (.t 60)⟩])
    (.seq (.region [⟨some 62, none, .mov (.t 9)⟩,
      ⟨some 63, none, .mov (.t 10)⟩,
      ⟨some 64, none, .bin false .add (.t 63) (.c (.int .i64 1))⟩,
      ⟨some 65, none, .slc 1 (.t 62) none (some (.t 64)) none⟩,
      ⟨some 8, none, .mov (.t 65)⟩])
    .ret))))))))))), [.tmp 8]⟩
theorem T_strings_genSplit : trFn Tryz.prog [] Tryz.f275 = some A_strings_genSplit := by kernel_rfl
theorem L_strings_genSplit : 4 ≤ Tryz.f275.ntmps := by decide

/-! cartouche/lex.letter -/
def A_lex_letter : AFn := ⟨(.seq (.region [⟨some 2, none, .mov (.c (.bool false))⟩])
    (.seq (.region [⟨some 3, none, .mov (.t 0)⟩,
      ⟨some 4, none, .bin false .geq (.t 3) (.c (.int .u8 97))⟩,
      ⟨some 5, none, .mov (.t 4)⟩,
      ⟨some 6, some (5, true), .mov (.t 0)⟩,
      ⟨some 7, some (5, true), .bin false .leq (.t 6) (.c (.int .u8 122))⟩,
      ⟨some 8, none, .pickb (.t 5) (.t 7) (.c (.bool false))⟩,
      ⟨some 9, none, .mov (.t 8)⟩,
      ⟨some 10, some (9, false), .mov (.t 0)⟩,
      ⟨some 11, some (9, false), .bin false .geq (.t 10) (.c (.int .u8 65))⟩,
      ⟨some 12, some (9, false), .mov (.t 11)⟩,
      ⟨some 13, some (12, true), .mov (.t 0)⟩,
      ⟨some 14, some (12, true), .bin false .leq (.t 13) (.c (.int .u8 90))⟩,
      ⟨some 15, some (9, false), .pickb (.t 12) (.t 14) (.c (.bool false))⟩,
      ⟨some 16, none, .pickb (.t 9) (.c (.bool true)) (.t 15)⟩,
      ⟨some 17, none, .mov (.t 16)⟩,
      ⟨some 18, some (17, false), .mov (.t 0)⟩,
      ⟨some 19, some (17, false), .bin false .eql (.t 18) (.c (.int .u8 95))⟩,
      ⟨some 20, none, .pickb (.t 17) (.c (.bool true)) (.t 19)⟩,
      ⟨some 2, none, .mov (.t 20)⟩])
    .ret)), [.tmp 2]⟩
theorem T_lex_letter : trFn Tryz.prog [] Tryz.f276 = some A_lex_letter := by kernel_rfl
theorem L_lex_letter : 1 ≤ Tryz.f276.ntmps := by decide

/-! cartouche/lex.named -/
def A_lex_named : AFn := ⟨(.seq (.region [⟨some 4, none, .mov (.c (.int .i64 0))⟩])
    (.seq (.block 0 (.loop (.seq (.seq (.region [⟨some 5, none, .mov (.t 1)⟩,
      ⟨some 6, none, .mov (.t 0)⟩,
      ⟨some 7, none, .len true (.t 6)⟩,
      ⟨some 8, none, .bin false .lss (.t 5) (.t 7)⟩,
      ⟨some 9, none, .mov (.t 8)⟩,
      ⟨some 10, some (9, true), .mov (.t 0)⟩,
      ⟨some 11, some (9, true), .mov (.t 1)⟩,
      ⟨some 12, some (9, true), .idxS (.t 10) (.t 11)⟩,
      ⟨some 13, some (9, true), .call i_lex_letter [.t 12]⟩,
      ⟨some 14, some (9, true), .mov (.t 13)⟩,
      ⟨some 15, some (14, false), .mov (.t 0)⟩,
      ⟨some 16, some (14, false), .mov (.t 1)⟩,
      ⟨some 17, some (14, false), .idxS (.t 15) (.t 16)⟩,
      ⟨some 18, some (14, false), .call i_lex_digit [.t 17]⟩,
      ⟨some 19, some (9, true), .pickb (.t 14) (.c (.bool true)) (.t 18)⟩,
      ⟨some 20, none, .pickb (.t 9) (.t 19) (.c (.bool false))⟩])
    (.cond (.t 20) .skip
    (.exit 0)))
    (.block 1 (.region [⟨some 21, none, .mov (.t 1)⟩,
      ⟨some 22, none, .bin false .add (.t 21) (.c (.int .i64 1))⟩,
      ⟨some 1, none, .mov (.t 22)⟩])))))
    (.seq (.region [⟨some 23, none, .mov (.t 1)⟩,
      ⟨some 4, none, .mov (.t 23)⟩])
    .ret))), [.tmp 4]⟩
theorem T_lex_named : trFn Tryz.prog [] Tryz.f277 = some A_lex_named := by kernel_rfl
theorem L_lex_named : 2 ≤ Tryz.f277.ntmps := by decide

/-! cartouche/scalar.known -/
def A_scalar_known : AFn := ⟨(.seq (.region [⟨some 2, none, .mov (.c (.bool false))⟩])
    (.seq (.region [⟨some 3, none, .mov (.t 0)⟩,
      ⟨some 4, none, .bin false .geq (.t 3) (.c (.int .i64 1))⟩,
      ⟨some 5, none, .mov (.t 4)⟩,
      ⟨some 6, some (5, true), .mov (.t 0)⟩,
      ⟨some 7, some (5, true), .bin false .leq (.t 6) (.c (.int .i64 16))⟩,
      ⟨some 8, none, .pickb (.t 5) (.t 7) (.c (.bool false))⟩,
      ⟨some 2, none, .mov (.t 8)⟩])
    .ret)), [.tmp 2]⟩
theorem T_scalar_known : trFn Tryz.prog [] Tryz.f296 = some A_scalar_known := by kernel_rfl
theorem L_scalar_known : 1 ≤ Tryz.f296.ntmps := by decide

/-! cartouche/scalar.holds -/
def A_scalar_holds : AFn := ⟨(.seq (.region [⟨some 4, none, .mov (.c (.bool false))⟩])
    (.seq (.seq (.region [⟨some 5, none, .mov (.t 0)⟩])
    (.block 0 (.seq (.region [⟨some 7, none, .bin false .eql (.t 5) (.c (.int .i64 1))⟩,
      ⟨some 6, none, .mov (.t 7)⟩])
    (.cond (.t 6) (.seq (.region [⟨some 8, none, .mov (.t 1)⟩,
      ⟨some 9, none, .bin false .leq (.t 8) (.c (.int .u64 1))⟩,
      ⟨some 4, none, .mov (.t 9)⟩])
    .ret)
    (.seq (.seq (.region [⟨some 11, none, .bin false .eql (.t 5) (.c (.int .i64 2))⟩,
      ⟨some 10, none, .mov (.t 11)⟩])
    (.cond (.t 10) .skip
    (.seq (.region [⟨some 12, none, .bin false .eql (.t 5) (.c (.int .i64 6))⟩,
      ⟨some 10, none, .mov (.t 12)⟩])
    (.cond (.t 10) .skip
    (.region [⟨some 13, none, .bin false .eql (.t 5) (.c (.int .i64 10))⟩,
      ⟨some 10, none, .mov (.t 13)⟩])))))
    (.cond (.t 10) (.seq (.region [⟨some 14, none, .mov (.t 1)⟩,
      ⟨some 15, none, .conv .i64 (.t 14)⟩,
      ⟨some 16, none, .mov (.t 1)⟩,
      ⟨some 17, none, .conv .i32 (.t 16)⟩,
      ⟨some 18, none, .conv .i64 (.t 17)⟩,
      ⟨some 19, none, .bin false .eql (.t 15) (.t 18)⟩,
      ⟨some 4, none, .mov (.t 19)⟩])
    .ret)
    (.seq (.region [⟨some 21, none, .bin false .eql (.t 5) (.c (.int .i64 16))⟩,
      ⟨some 20, none, .mov (.t 21)⟩])
    (.cond (.t 20) (.seq (.region [⟨some 22, none, .mov (.t 1)⟩,
      ⟨some 23, none, .bin false .leq (.t 22) (.c (.int .u64 2147483647))⟩,
      ⟨some 4, none, .mov (.t 23)⟩])
    .ret)
    (.seq (.seq (.region [⟨some 25, none, .bin false .eql (.t 5) (.c (.int .i64 4))⟩,
      ⟨some 24, none, .mov (.t 25)⟩])
    (.cond (.t 24) .skip
    (.seq (.region [⟨some 26, none, .bin false .eql (.t 5) (.c (.int .i64 8))⟩,
      ⟨some 24, none, .mov (.t 26)⟩])
    (.cond (.t 24) .skip
    (.region [⟨some 27, none, .bin false .eql (.t 5) (.c (.int .i64 12))⟩,
      ⟨some 24, none, .mov (.t 27)⟩])))))
    (.cond (.t 24) (.seq (.region [⟨some 28, none, .mov (.t 1)⟩,
      ⟨some 29, none, .bin false .leq (.t 28) (.c (.int .u64 4294967295))⟩,
      ⟨some 4, none, .mov (.t 29)⟩])
    .ret)
    .skip))))))))))
    (.seq (.region [⟨some 4, none, .mov (.c (.bool true))⟩])
    .ret))), [.tmp 4]⟩
theorem T_scalar_holds : trFn Tryz.prog [] Tryz.f297 = some A_scalar_holds := by kernel_rfl
theorem L_scalar_holds : 2 ≤ Tryz.f297.ntmps := by decide

/-! unicode/utf8.Valid -/
def A_utf8_Valid : AFn := ⟨(.seq (.region [⟨some 2, none, .mov (.c (.bool false))⟩])
    (.seq (.region [⟨some 7, none, .mov (.t 0)⟩,
      ⟨some 8, none, .mov (.t 0)⟩,
      ⟨some 9, none, .len false (.t 8)⟩,
      ⟨some 10, none, .mov (.t 0)⟩,
      ⟨some 11, none, .len false (.t 10)⟩,
      ⟨some 12, none, .slc 1 (.t 7) none (some (.t 9)) (some (.t 11))⟩,
      ⟨some 0, none, .mov (.t 12)⟩])
    (.seq (.block 0 (.loop (.seq (.seq (.region [⟨some 13, none, .mov (.t 0)⟩,
      ⟨some 14, none, .len false (.t 13)⟩,
      ⟨some 15, none, .bin false .gtr (.t 14) (.c (.int .i64 0))⟩])
    (.cond (.t 15) .skip
    (.exit 0)))
    (.block 1 (.seq (.region [⟨some 16, none, .mov (.t 0)⟩,
      ⟨some 17, none, .idxA 1 (.t 16) (.c (.int .i64 0))⟩,
      ⟨some 18, none, .load 1 false (.t 17)⟩,
      ⟨some 3, none, .mov (.t 18)⟩])
    (.seq (.seq (.region [⟨some 19, none, .mov (.t 3)⟩,
      ⟨some 20, none, .bin false .lss (.t 19) (.c (.int .u8 128))⟩])
    (.cond (.t 20) (.seq (.region [⟨some 21, none, .mov (.t 0)⟩,
      ⟨some 22, none, .slc 1 (.t 21) (some (.c (.int .i64 1))) none none⟩,
      ⟨some 0, none, .mov (.t 22)⟩])
    (.seq (.seq (.region [⟨some 23, none, .mov (.t 0)⟩,
      ⟨some 24, none, .len false (.t 23)⟩,
      ⟨some 25, none, .bin false .gtr (.t 24) (.c (.int .i64 8))⟩,
      ⟨some 26, none, .mov (.t 25)⟩,
      ⟨some 27, some (26, true), .mov (.t 0)⟩,
      ⟨some 28, some (26, true), .call i_utf8_word_byte [.t 27]⟩,
      ⟨some 29, some (26, true), .bin false .and (.t 28) (.c (.int .u64 9259542123273814144))⟩,
      ⟨some 30, some (26, true), .bin false .eql (.t 29) (.c (.int .u64 0))⟩,
      ⟨some 31, none, .pickb (.t 26) (.t 30) (.c (.bool false))⟩])
    (.cond (.t 31) (.seq (.region [⟨some 32, none, .mov (.t 0)⟩,
      ⟨some 33, none, .slc 1 (.t 32) (some (.c (.int .i64 8))) none none⟩,
      ⟨some 0, none, .mov (.t 33)⟩])
    (.seq (.draw [1, 5, 8] [⟨some 34, none, .mov (.t 0)⟩,
      ⟨some 35, none, .len false (.t 34)⟩,
      ⟨some 36, none, .bin false .gtr (.t 35) (.c (.int .i64 16))⟩,
      ⟨some 37, none, .mov (.t 36)⟩,
      ⟨some 38, some (37, true), .mov (.t 0)⟩,
      ⟨some 39, some (37, true), .call i_utf8_word_byte [.t 38]⟩,
      ⟨some 40, some (37, true), .mov (.t 0)⟩,
      ⟨some 41, some (37, true), .slc 1 (.t 40) (some (.c (.int .i64 8))) none none⟩,
      ⟨some 42, some (37, true), .call i_utf8_word_byte [.t 41]⟩,
      ⟨some 43, some (37, true), .bin false .or (.t 39) (.t 42)⟩,
      ⟨some 44, some (37, true), .bin false .and (.t 43) (.c (.int .u64 9259542123273814144))⟩,
      ⟨some 45, some (37, true), .bin false .eql (.t 44) (.c (.int .u64 0))⟩,
      ⟨some 46, none, .pickb (.t 37) (.t 45) (.c (.bool false))⟩])
    (.cond (.t 46) (.seq (.region [⟨some 47, none, .mov (.t 0)⟩,
      ⟨some 48, none, .slc 1 (.t 47) (some (.c (.int .i64 16))) none none⟩,
      ⟨some 0, none, .mov (.t 48)⟩])
    (.block 2 (.loop (.seq (.seq (.draw [1, 5, 8, 12, 15] [⟨some 49, none, .mov (.t 0)⟩,
      ⟨some 50, none, .len false (.t 49)⟩,
      ⟨some 51, none, .bin false .gtr (.t 50) (.c (.int .i64 32))⟩,
      ⟨some 52, none, .mov (.t 51)⟩,
      ⟨some 53, some (52, true), .mov (.t 0)⟩,
      ⟨some 54, some (52, true), .call i_utf8_word_byte [.t 53]⟩,
      ⟨some 55, some (52, true), .mov (.t 0)⟩,
      ⟨some 56, some (52, true), .slc 1 (.t 55) (some (.c (.int .i64 8))) none none⟩,
      ⟨some 57, some (52, true), .call i_utf8_word_byte [.t 56]⟩,
      ⟨some 58, some (52, true), .bin false .or (.t 54) (.t 57)⟩,
      ⟨some 59, some (52, true), .mov (.t 0)⟩,
      ⟨some 60, some (52, true), .slc 1 (.t 59) (some (.c (.int .i64 16))) none none⟩,
      ⟨some 61, some (52, true), .call i_utf8_word_byte [.t 60]⟩,
      ⟨some 62, some (52, true), .mov (.t 0)⟩,
      ⟨some 63, some (52, true), .slc 1 (.t 62) (some (.c (.int .i64 24))) none none⟩,
      ⟨some 64, some (52, true), .call i_utf8_word_byte [.t 63]⟩,
      ⟨some 65, some (52, true), .bin false .or (.t 61) (.t 64)⟩,
      ⟨some 66, some (52, true), .bin false .or (.t 58) (.t 65)⟩,
      ⟨some 67, some (52, true), .bin false .and (.t 66) (.c (.int .u64 9259542123273814144))⟩,
      ⟨some 68, some (52, true), .bin false .eql (.t 67) (.c (.int .u64 0))⟩,
      ⟨some 69, none, .pickb (.t 52) (.t 68) (.c (.bool false))⟩])
    (.cond (.t 69) .skip
    (.exit 2)))
    (.block 3 (.region [⟨some 70, none, .mov (.t 0)⟩,
      ⟨some 71, none, .slc 1 (.t 70) (some (.c (.int .i64 32))) none none⟩,
      ⟨some 0, none, .mov (.t 71)⟩]))))))
    .skip)))
    .skip))
    (.exit 1)))
    .skip))
    (.seq (.region [⟨some 72, none, .mov (.t 3)⟩,
      ⟨some 73, none, .bad⟩,
      ⟨some 74, none, .load 1 false (.t 73)⟩,
      ⟨some 4, none, .mov (.t 74)⟩])
    (.seq (.region [⟨some 75, none, .mov (.t 4)⟩,
      ⟨some 76, none, .bin false .and (.t 75) (.c (.int .u8 7))⟩,
      ⟨some 77, none, .conv .i64 (.t 76)⟩,
      ⟨some 5, none, .mov (.t 77)⟩])
    (.seq (.region [⟨some 78, none, .mov (.t 4)⟩,
      ⟨some 79, none, .bin false .shr (.t 78) (.c (.int .u64 4))⟩,
      ⟨some 80, none, .bad⟩,
      ⟨some 81, none, .load 2 true (.t 80)⟩,
      ⟨some 6, none, .alloc 0 [.int .u8 0, .int .u8 0]⟩,
      ⟨none, none, .store 2 (.t 6) (.t 81)⟩])
    (.seq (.region [⟨some 82, none, .mov (.t 5)⟩])
    (.block 4 (.seq (.region [⟨some 84, none, .bin false .eql (.t 82) (.c (.int .i64 2))⟩,
      ⟨some 83, none, .mov (.t 84)⟩])
    (.cond (.t 83) (.seq (.seq (.draw [1, 5, 6, 13, 1000008, 1000015, 1000016] [⟨some 85, none, .mov (.t 0)⟩,
      ⟨some 86, none, .len false (.t 85)⟩,
      ⟨some 87, none, .bin false .lss (.t 86) (.c (.int .i64 2))⟩,
      ⟨some 88, none, .mov (.t 87)⟩,
      ⟨some 89, some (88, false), .mov (.t 0)⟩,
      ⟨some 90, some (88, false), .idxA 1 (.t 89) (.c (.int .i64 1))⟩,
      ⟨some 91, some (88, false), .load 1 false (.t 90)⟩,
      ⟨some 92, some (88, false), .fldA 0 1 false (.t 6)⟩,
      ⟨some 93, some (88, false), .load 1 false (.t 92)⟩,
      ⟨some 94, some (88, false), .bin false .lss (.t 91) (.t 93)⟩,
      ⟨some 95, none, .pickb (.t 88) (.c (.bool true)) (.t 94)⟩,
      ⟨some 96, none, .mov (.t 95)⟩,
      ⟨some 97, some (96, false), .fldA 1 1 false (.t 6)⟩,
      ⟨some 98, some (96, false), .load 1 false (.t 97)⟩,
      ⟨some 99, some (96, false), .mov (.t 0)⟩,
      ⟨some 100, some (96, false), .idxA 1 (.t 99) (.c (.int .i64 1))⟩,
      ⟨some 101, some (96, false), .load 1 false (.t 100)⟩,
      ⟨some 102, some (96, false), .bin false .lss (.t 98) (.t 101)⟩,
      ⟨some 103, none, .pickb (.t 96) (.c (.bool true)) (.t 102)⟩])
    (.cond (.t 103) (.seq (.region [⟨some 2, none, .mov (.c (.bool false))⟩])
    .ret)
    .skip))
    (.region [⟨some 104, none, .mov (.t 0)⟩,
      ⟨some 105, none, .slc 1 (.t 104) (some (.c (.int .i64 2))) none none⟩,
      ⟨some 0, none, .mov (.t 105)⟩]))
    (.seq (.region [⟨some 107, none, .bin false .eql (.t 82) (.c (.int .i64 3))⟩,
      ⟨some 106, none, .mov (.t 107)⟩])
    (.cond (.t 106) (.seq (.seq (.draw [1, 5, 6, 13, 21, 22, 27, 28, 1000008, 1000015, 1000016, 2000021, 2000022, 2000027, 2000028] [⟨some 108, none, .mov (.t 0)⟩,
      ⟨some 109, none, .len false (.t 108)⟩,
      ⟨some 110, none, .bin false .lss (.t 109) (.c (.int .i64 3))⟩,
      ⟨some 111, none, .mov (.t 110)⟩,
      ⟨some 112, some (111, false), .mov (.t 0)⟩,
      ⟨some 113, some (111, false), .idxA 1 (.t 112) (.c (.int .i64 1))⟩,
      ⟨some 114, some (111, false), .load 1 false (.t 113)⟩,
      ⟨some 115, some (111, false), .fldA 0 1 false (.t 6)⟩,
      ⟨some 116, some (111, false), .load 1 false (.t 115)⟩,
      ⟨some 117, some (111, false), .bin false .lss (.t 114) (.t 116)⟩,
      ⟨some 118, none, .pickb (.t 111) (.c (.bool true)) (.t 117)⟩,
      ⟨some 119, none, .mov (.t 118)⟩,
      ⟨some 120, some (119, false), .fldA 1 1 false (.t 6)⟩,
      ⟨some 121, some (119, false), .load 1 false (.t 120)⟩,
      ⟨some 122, some (119, false), .mov (.t 0)⟩,
      ⟨some 123, some (119, false), .idxA 1 (.t 122) (.c (.int .i64 1))⟩,
      ⟨some 124, some (119, false), .load 1 false (.t 123)⟩,
      ⟨some 125, some (119, false), .bin false .lss (.t 121) (.t 124)⟩,
      ⟨some 126, none, .pickb (.t 119) (.c (.bool true)) (.t 125)⟩,
      ⟨some 127, none, .mov (.t 126)⟩,
      ⟨some 128, some (127, false), .mov (.t 0)⟩,
      ⟨some 129, some (127, false), .idxA 1 (.t 128) (.c (.int .i64 2))⟩,
      ⟨some 130, some (127, false), .load 1 false (.t 129)⟩,
      ⟨some 131, some (127, false), .bin false .lss (.t 130) (.c (.int .u8 128))⟩,
      ⟨some 132, none, .pickb (.t 127) (.c (.bool true)) (.t 131)⟩,
      ⟨some 133, none, .mov (.t 132)⟩,
      ⟨some 134, some (133, false), .mov (.t 0)⟩,
      ⟨some 135, some (133, false), .idxA 1 (.t 134) (.c (.int .i64 2))⟩,
      ⟨some 136, some (133, false), .load 1 false (.t 135)⟩,
      ⟨some 137, some (133, false), .bin false .lss (.c (.int .u8 191)) (.t 136)⟩,
      ⟨some 138, none, .pickb (.t 133) (.c (.bool true)) (.t 137)⟩])
    (.cond (.t 138) (.seq (.region [⟨some 2, none, .mov (.c (.bool false))⟩])
    .ret)
    .skip))
    (.region [⟨some 139, none, .mov (.t 0)⟩,
      ⟨some 140, none, .slc 1 (.t 139) (some (.c (.int .i64 3))) none none⟩,
      ⟨some 0, none, .mov (.t 140)⟩]))
    (.seq (.region [⟨some 142, none, .bin false .eql (.t 82) (.c (.int .i64 4))⟩,
      ⟨some 141, none, .mov (.t 142)⟩])
    (.cond (.t 141) (.seq (.seq (.draw [1, 5, 6, 13, 21, 22, 27, 28, 33, 34, 39, 40, 1000008, 1000015, 1000016, 2000021, 2000022, 2000027, 2000028, 2000033, 2000034, 2000039, 2000040] [⟨some 143, none, .mov (.t 0)⟩,
      ⟨some 144, none, .len false (.t 143)⟩,
      ⟨some 145, none, .bin false .lss (.t 144) (.c (.int .i64 4))⟩,
      ⟨some 146, none, .mov (.t 145)⟩,
      ⟨some 147, some (146, false), .mov (.t 0)⟩,
      ⟨some 148, some (146, false), .idxA 1 (.t 147) (.c (.int .i64 1))⟩,
      ⟨some 149, some (146, false), .load 1 false (.t 148)⟩,
      ⟨some 150, some (146, false), .fldA 0 1 false (.t 6)⟩,
      ⟨some 151, some (146, false), .load 1 false (.t 150)⟩,
      ⟨some 152, some (146, false), .bin false .lss (.t 149) (.t 151)⟩,
      ⟨some 153, none, .pickb (.t 146) (.c (.bool true)) (.t 152)⟩,
      ⟨some 154, none, .mov (.t 153)⟩,
      ⟨some 155, some (154, false), .fldA 1 1 false (.t 6)⟩,
      ⟨some 156, some (154, false), .load 1 false (.t 155)⟩,
      ⟨some 157, some (154, false), .mov (.t 0)⟩,
      ⟨some 158, some (154, false), .idxA 1 (.t 157) (.c (.int .i64 1))⟩,
      ⟨some 159, some (154, false), .load 1 false (.t 158)⟩,
      ⟨some 160, some (154, false), .bin false .lss (.t 156) (.t 159)⟩,
      ⟨some 161, none, .pickb (.t 154) (.c (.bool true)) (.t 160)⟩,
      ⟨some 162, none, .mov (.t 161)⟩,
      ⟨some 163, some (162, false), .mov (.t 0)⟩,
      ⟨some 164, some (162, false), .idxA 1 (.t 163) (.c (.int .i64 2))⟩,
      ⟨some 165, some (162, false), .load 1 false (.t 164)⟩,
      ⟨some 166, some (162, false), .bin false .lss (.t 165) (.c (.int .u8 128))⟩,
      ⟨some 167, none, .pickb (.t 162) (.c (.bool true)) (.t 166)⟩,
      ⟨some 168, none, .mov (.t 167)⟩,
      ⟨some 169, some (168, false), .mov (.t 0)⟩,
      ⟨some 170, some (168, false), .idxA 1 (.t 169) (.c (.int .i64 2))⟩,
      ⟨some 171, some (168, false), .load 1 false (.t 170)⟩,
      ⟨some 172, some (168, false), .bin false .lss (.c (.int .u8 191)) (.t 171)⟩,
      ⟨some 173, none, .pickb (.t 168) (.c (.bool true)) (.t 172)⟩,
      ⟨some 174, none, .mov (.t 173)⟩,
      ⟨some 175, some (174, false), .mov (.t 0)⟩,
      ⟨some 176, some (174, false), .idxA 1 (.t 175) (.c (.int .i64 3))⟩,
      ⟨some 177, some (174, false), .load 1 false (.t 176)⟩,
      ⟨some 178, some (174, false), .bin false .lss (.t 177) (.c (.int .u8 128))⟩,
      ⟨some 179, none, .pickb (.t 174) (.c (.bool true)) (.t 178)⟩,
      ⟨some 180, none, .mov (.t 179)⟩,
      ⟨some 181, some (180, false), .mov (.t 0)⟩,
      ⟨some 182, some (180, false), .idxA 1 (.t 181) (.c (.int .i64 3))⟩,
      ⟨some 183, some (180, false), .load 1 false (.t 182)⟩,
      ⟨some 184, some (180, false), .bin false .lss (.c (.int .u8 191)) (.t 183)⟩,
      ⟨some 185, none, .pickb (.t 180) (.c (.bool true)) (.t 184)⟩])
    (.cond (.t 185) (.seq (.region [⟨some 2, none, .mov (.c (.bool false))⟩])
    .ret)
    .skip))
    (.region [⟨some 186, none, .mov (.t 0)⟩,
      ⟨some 187, none, .slc 1 (.t 186) (some (.c (.int .i64 4))) none none⟩,
      ⟨some 0, none, .mov (.t 187)⟩]))
    (.seq (.region [⟨some 2, none, .mov (.c (.bool false))⟩])
    .ret))))))))))))))))))
    (.seq (.region [⟨some 2, none, .mov (.c (.bool true))⟩])
    .ret)))), [.tmp 2]⟩
theorem T_utf8_Valid : trFn Tryz.prog [(14, [0, 0, 0, 0, 1, 0]), (1000008, [1, 5, 8]), (1000010, [1, 5, 8, 12, 15]), (1000018, [1, 5, 6, 13, 1000008, 1000015, 1000016]), (1000022, [1, 5, 6, 13, 21, 22, 27, 28, 1000008, 1000015, 1000016, 2000021, 2000022, 2000027, 2000028]), (1000026, [1, 5, 6, 13, 21, 22, 27, 28, 33, 34, 39, 40, 1000008, 1000015, 1000016, 2000021, 2000022, 2000027, 2000028, 2000033, 2000034, 2000039, 2000040])] Tryz.f298 = some A_utf8_Valid := by kernel_rfl
theorem L_utf8_Valid : 1 ≤ Tryz.f298.ntmps := by decide

-- NOT 299 internal/bytealg.Compare: IndexError('tuple index out of range')
/-! cmp.isNaN[int64] -/
def A_cmp_isNaN_int64 : AFn := ⟨(.seq (.region [⟨some 2, none, .mov (.c (.bool false))⟩])
    (.seq (.region [⟨some 3, none, .mov (.t 0)⟩,
      ⟨some 4, none, .mov (.t 0)⟩,
      ⟨some 5, none, .bin false .neq (.t 3) (.t 4)⟩,
      ⟨some 2, none, .mov (.t 5)⟩])
    .ret)), [.tmp 2]⟩
theorem T_cmp_isNaN_int64 : trFn Tryz.prog [] Tryz.f300 = some A_cmp_isNaN_int64 := by kernel_rfl
theorem L_cmp_isNaN_int64 : 1 ≤ Tryz.f300.ntmps := by decide

/-! cmp.isNaN[uint64] -/
def A_cmp_isNaN_uint64 : AFn := ⟨(.seq (.region [⟨some 2, none, .mov (.c (.bool false))⟩])
    (.seq (.region [⟨some 3, none, .mov (.t 0)⟩,
      ⟨some 4, none, .mov (.t 0)⟩,
      ⟨some 5, none, .bin false .neq (.t 3) (.t 4)⟩,
      ⟨some 2, none, .mov (.t 5)⟩])
    .ret)), [.tmp 2]⟩
theorem T_cmp_isNaN_uint64 : trFn Tryz.prog [] Tryz.f301 = some A_cmp_isNaN_uint64 := by kernel_rfl
theorem L_cmp_isNaN_uint64 : 1 ≤ Tryz.f301.ntmps := by decide

/-! cartouche/lex.digit -/
def A_lex_digit : AFn := ⟨(.seq (.region [⟨some 2, none, .mov (.c (.bool false))⟩])
    (.seq (.region [⟨some 3, none, .mov (.t 0)⟩,
      ⟨some 4, none, .bin false .geq (.t 3) (.c (.int .u8 48))⟩,
      ⟨some 5, none, .mov (.t 4)⟩,
      ⟨some 6, some (5, true), .mov (.t 0)⟩,
      ⟨some 7, some (5, true), .bin false .leq (.t 6) (.c (.int .u8 57))⟩,
      ⟨some 8, none, .pickb (.t 5) (.t 7) (.c (.bool false))⟩,
      ⟨some 2, none, .mov (.t 8)⟩])
    .ret)), [.tmp 2]⟩
theorem T_lex_digit : trFn Tryz.prog [] Tryz.f307 = some A_lex_digit := by kernel_rfl
theorem L_lex_digit : 1 ≤ Tryz.f307.ntmps := by decide

/-! unicode/utf8.word[[]byte] -/
def A_utf8_word_byte : AFn := ⟨(.seq (.region [⟨some 2, none, .mov (.c (.int .u64 0))⟩])
    (.seq (.cond (.c (.bool false)) (.seq (.draw [1, 2, 1000005, 1000006, 1000011, 1000012, 1000017, 1000018] [⟨some 3, none, .mov (.t 0)⟩,
      ⟨some 4, none, .idxA 1 (.t 3) (.c (.int .i64 0))⟩,
      ⟨some 5, none, .load 1 false (.t 4)⟩,
      ⟨some 6, none, .conv .u64 (.t 5)⟩,
      ⟨some 7, none, .mov (.t 0)⟩,
      ⟨some 8, none, .idxA 1 (.t 7) (.c (.int .i64 1))⟩,
      ⟨some 9, none, .load 1 false (.t 8)⟩,
      ⟨some 10, none, .conv .u64 (.t 9)⟩,
      ⟨some 11, none, .bin false .shl (.t 10) (.c (.int .u64 8))⟩,
      ⟨some 12, none, .bin false .or (.t 6) (.t 11)⟩,
      ⟨some 13, none, .mov (.t 0)⟩,
      ⟨some 14, none, .idxA 1 (.t 13) (.c (.int .i64 2))⟩,
      ⟨some 15, none, .load 1 false (.t 14)⟩,
      ⟨some 16, none, .conv .u64 (.t 15)⟩,
      ⟨some 17, none, .bin false .shl (.t 16) (.c (.int .u64 16))⟩,
      ⟨some 18, none, .bin false .or (.t 12) (.t 17)⟩,
      ⟨some 19, none, .mov (.t 0)⟩,
      ⟨some 20, none, .idxA 1 (.t 19) (.c (.int .i64 3))⟩,
      ⟨some 21, none, .load 1 false (.t 20)⟩,
      ⟨some 22, none, .conv .u64 (.t 21)⟩,
      ⟨some 23, none, .bin false .shl (.t 22) (.c (.int .u64 24))⟩,
      ⟨some 24, none, .bin false .or (.t 18) (.t 23)⟩,
      ⟨some 2, none, .mov (.t 24)⟩])
    .ret)
    .skip)
    (.seq (.draw [1, 2, 1000005, 1000006, 1000011, 1000012, 1000017, 1000018, 1000023, 1000024, 1000029, 1000030, 1000035, 1000036, 1000041, 1000042] [⟨some 25, none, .mov (.t 0)⟩,
      ⟨some 26, none, .idxA 1 (.t 25) (.c (.int .i64 0))⟩,
      ⟨some 27, none, .load 1 false (.t 26)⟩,
      ⟨some 28, none, .conv .u64 (.t 27)⟩,
      ⟨some 29, none, .mov (.t 0)⟩,
      ⟨some 30, none, .idxA 1 (.t 29) (.c (.int .i64 1))⟩,
      ⟨some 31, none, .load 1 false (.t 30)⟩,
      ⟨some 32, none, .conv .u64 (.t 31)⟩,
      ⟨some 33, none, .bin false .shl (.t 32) (.c (.int .u64 8))⟩,
      ⟨some 34, none, .bin false .or (.t 28) (.t 33)⟩,
      ⟨some 35, none, .mov (.t 0)⟩,
      ⟨some 36, none, .idxA 1 (.t 35) (.c (.int .i64 2))⟩,
      ⟨some 37, none, .load 1 false (.t 36)⟩,
      ⟨some 38, none, .conv .u64 (.t 37)⟩,
      ⟨some 39, none, .bin false .shl (.t 38) (.c (.int .u64 16))⟩,
      ⟨some 40, none, .bin false .or (.t 34) (.t 39)⟩,
      ⟨some 41, none, .mov (.t 0)⟩,
      ⟨some 42, none, .idxA 1 (.t 41) (.c (.int .i64 3))⟩,
      ⟨some 43, none, .load 1 false (.t 42)⟩,
      ⟨some 44, none, .conv .u64 (.t 43)⟩,
      ⟨some 45, none, .bin false .shl (.t 44) (.c (.int .u64 24))⟩,
      ⟨some 46, none, .bin false .or (.t 40) (.t 45)⟩,
      ⟨some 47, none, .mov (.t 0)⟩,
      ⟨some 48, none, .idxA 1 (.t 47) (.c (.int .i64 4))⟩,
      ⟨some 49, none, .load 1 false (.t 48)⟩,
      ⟨some 50, none, .conv .u64 (.t 49)⟩,
      ⟨some 51, none, .bin false .shl (.t 50) (.c (.int .u64 32))⟩,
      ⟨some 52, none, .bin false .or (.t 46) (.t 51)⟩,
      ⟨some 53, none, .mov (.t 0)⟩,
      ⟨some 54, none, .idxA 1 (.t 53) (.c (.int .i64 5))⟩,
      ⟨some 55, none, .load 1 false (.t 54)⟩,
      ⟨some 56, none, .conv .u64 (.t 55)⟩,
      ⟨some 57, none, .bin false .shl (.t 56) (.c (.int .u64 40))⟩,
      ⟨some 58, none, .bin false .or (.t 52) (.t 57)⟩,
      ⟨some 59, none, .mov (.t 0)⟩,
      ⟨some 60, none, .idxA 1 (.t 59) (.c (.int .i64 6))⟩,
      ⟨some 61, none, .load 1 false (.t 60)⟩,
      ⟨some 62, none, .conv .u64 (.t 61)⟩,
      ⟨some 63, none, .bin false .shl (.t 62) (.c (.int .u64 48))⟩,
      ⟨some 64, none, .bin false .or (.t 58) (.t 63)⟩,
      ⟨some 65, none, .mov (.t 0)⟩,
      ⟨some 66, none, .idxA 1 (.t 65) (.c (.int .i64 7))⟩,
      ⟨some 67, none, .load 1 false (.t 66)⟩,
      ⟨some 68, none, .conv .u64 (.t 67)⟩,
      ⟨some 69, none, .bin false .shl (.t 68) (.c (.int .u64 56))⟩,
      ⟨some 70, none, .bin false .or (.t 64) (.t 69)⟩,
      ⟨some 2, none, .mov (.t 70)⟩])
    .ret))), [.tmp 2]⟩
theorem T_utf8_word_byte : trFn Tryz.prog [(1000001, [1, 2, 1000005, 1000006, 1000011, 1000012, 1000017, 1000018]), (1000002, [1, 2, 1000005, 1000006, 1000011, 1000012, 1000017, 1000018, 1000023, 1000024, 1000029, 1000030, 1000035, 1000036, 1000041, 1000042])] Tryz.f326 = some A_utf8_word_byte := by kernel_rfl
theorem L_utf8_word_byte : 1 ≤ Tryz.f326.ntmps := by decide

def tab_ModelKnown : Tab := [(i_cartouchelaw8_ModelKnown, (0, A_cartouchelaw8_ModelKnown)), (i_cartouchelaw8_awake, (0, A_cartouchelaw8_awake)), (i_cartouchelaw8_typed, (2, A_cartouchelaw8_typed)), (i_cartouchelaw8_msg, (1, A_cartouchelaw8_msg)), (i_cartouchelaw8_n, (2, A_cartouchelaw8_n)), (i_cartouchelaw8_normal, (2, A_cartouchelaw8_normal)), (i_cartouchelaw8_in, (2, A_cartouchelaw8_in)), (i_model_Settle, (3, A_model_Settle)), (i_cartouchelaw7_Simple, (0, A_cartouchelaw7_Simple)), (i_model_Depth, (1, A_model_Depth)), (i_cartoucheref8_Empty, (1, A_cartoucheref8_Empty)), (i_model_Equal, (2, A_model_Equal)), (i_model_Typed, (3, A_model_Typed)), (i_model_Normal, (3, A_model_Normal)), (i_model_settled, (3, A_model_settled)), (i_model_Copy, (1, A_model_Copy)), (i_bytes_Equal, (2, A_bytes_Equal)), (i_wire_PutVarint, (1, A_wire_PutVarint)), (i_slices_EqualFunc_api_Field_api_Field_api_Field_api_Field, (3, A_slices_EqualFunc_api_Field_api_Field_api_Field_api_Field)), (i_model_Equal_1, (2, A_model_Equal_1)), (i_slices_EqualFunc_api_Val_api_Val_api_Val_api_Val, (3, A_slices_EqualFunc_api_Val_api_Val_api_Val_api_Val)), (i_model_equalVal, (2, A_model_equalVal)), (i_slices_EqualFunc_api_Entry_api_Entry_api_Entry_api_Entry, (3, A_slices_EqualFunc_api_Entry_api_Entry_api_Entry_api_Entry)), (i_model_Equal_2, (2, A_model_Equal_2)), (i_table_IsMessage, (2, A_table_IsMessage)), (i_model_typed, (3, A_model_typed)), (i_model_normal, (3, A_model_normal)), (i_slices_DeleteFunc_api_Field_api_Field, (2, A_slices_DeleteFunc_api_Field_api_Field)), (i_model_settled_1, (2, A_model_settled_1)), (i_table_At, (2, A_table_At)), (i_model_told, (2, A_model_told)), (i_slices_DeleteFunc_api_Entry_api_Entry, (2, A_slices_DeleteFunc_api_Entry_api_Entry)), (i_model_settled_2, (2, A_model_settled_2)), (i_model_Taken, (2, A_model_Taken)), (i_model_each_api_Field, (2, A_model_each_api_Field)), (i_model_CopyField, (1, A_model_CopyField)), (i_model_each_api_Entry, (2, A_model_each_api_Entry)), (i_model_CopyEntry, (1, A_model_CopyEntry)), (i_slices_IndexFunc_api_Field_api_Field, (2, A_slices_IndexFunc_api_Field_api_Field)), (i_table_Good, (1, A_table_Good)), (i_wire_PutEntry, (1, A_wire_PutEntry)), (i_wire_varint, (2, A_wire_varint)), (i_wire_Size, (1, A_wire_Size)), (i_wire_word, (2, A_wire_word)), (i_slices_EqualFunc_api_Msg_api_Msg_api_Msg_api_Msg, (3, A_slices_EqualFunc_api_Msg_api_Msg_api_Msg_api_Msg)), (i_table_sort, (3, A_table_sort)), (i_model_typedField, (3, A_model_typedField)), (i_slices_ContainsFunc_api_Val_api_Val, (2, A_slices_ContainsFunc_api_Val_api_Val)), (i_model_normal_1, (3, A_model_normal_1)), (i_slices_ContainsFunc_api_Entry_api_Entry, (2, A_slices_ContainsFunc_api_Entry_api_Entry)), (i_model_normal_2, (2, A_model_normal_2)), (i_model_Nothing, (1, A_model_Nothing)), (i_slices_IndexFunc_api_Entry_api_Entry, (2, A_slices_IndexFunc_api_Entry_api_Entry)), (i_table_How, (2, A_table_How)), (i_model_each_api_Val, (2, A_model_each_api_Val)), (i_model_CopyVal, (1, A_model_CopyVal)), (i_model_list, (1, A_model_list)), (i_table_Wire, (1, A_table_Wire)), (i_scalar_Wire, (1, A_scalar_Wire)), (i_table_goodName, (3, A_table_goodName)), (i_table_goodEnum, (1, A_table_goodEnum)), (i_table_goodMessage, (2, A_table_goodMessage)), (i_wire_PutTag, (2, A_wire_PutTag)), (i_bits_Len64, (1, A_bits_Len64)), (i_model_typedVal, (4, A_model_typedVal)), (i_scalar_Compare, (3, A_scalar_Compare)), (i_model_typedField_1, (3, A_model_typedField_1)), (i_slices_IndexFunc_api_Val_api_Val, (2, A_slices_IndexFunc_api_Val_api_Val)), (i_table_HasRow, (1, A_table_HasRow)), (i_model_each_api_Msg, (2, A_model_each_api_Msg)), (i_strings_Split, (2, A_strings_Split)), (i_lex_IsName, (1, A_lex_IsName)), (i_table_named_add, (2, A_table_named_add)), (i_table_reserved, (2, A_table_reserved)), (i_table_goodField, (3, A_table_goodField)), (i_wire_isKind, (1, A_wire_isKind)), (i_scalar_Fits, (2, A_scalar_Fits)), (i_table_SymbolAt, (2, A_table_SymbolAt)), (i_quote_Valid, (1, A_quote_Valid)), (i_scalar_IsKey, (1, A_scalar_IsKey)), (i_bytes_Compare, (2, A_bytes_Compare)), (i_scalar_signed, (1, A_scalar_signed)), (i_cmp_Compare_int64, (2, A_cmp_Compare_int64)), (i_cmp_Compare_uint64, (2, A_cmp_Compare_uint64)), (i_scalar_Numeric, (1, A_scalar_Numeric)), (i_strings_genSplit, (4, A_strings_genSplit)), (i_lex_letter, (1, A_lex_letter)), (i_lex_named, (2, A_lex_named)), (i_scalar_known, (1, A_scalar_known)), (i_scalar_holds, (2, A_scalar_holds)), (i_utf8_Valid, (1, A_utf8_Valid)), (i_cmp_isNaN_int64, (1, A_cmp_isNaN_int64)), (i_cmp_isNaN_uint64, (1, A_cmp_isNaN_uint64)), (i_lex_digit, (1, A_lex_digit)), (i_utf8_word_byte, (1, A_utf8_word_byte))]
def modes_ModelKnown : List (Nat × Nat) := [(i_cartouchelaw8_ModelKnown, 1), (i_cartouchelaw8_awake, 1), (i_cartouchelaw8_typed, 0), (i_cartouchelaw8_msg, 2), (i_cartouchelaw8_n, 2), (i_cartouchelaw8_normal, 0), (i_cartouchelaw8_in, 2), (i_model_Settle, 0), (i_cartouchelaw7_Simple, 2), (i_model_Depth, 1), (i_cartoucheref8_Empty, 1), (i_model_Equal, 1), (i_model_Typed, 0), (i_model_Normal, 0), (i_model_settled, 0), (i_model_Copy, 0), (i_bytes_Equal, 1), (i_wire_PutVarint, 0), (i_slices_EqualFunc_api_Field_api_Field_api_Field_api_Field, 1), (i_model_Equal_1, 1), (i_slices_EqualFunc_api_Val_api_Val_api_Val_api_Val, 1), (i_model_equalVal, 1), (i_slices_EqualFunc_api_Entry_api_Entry_api_Entry_api_Entry, 1), (i_model_Equal_2, 1), (i_table_IsMessage, 0), (i_model_typed, 0), (i_model_normal, 1), (i_slices_DeleteFunc_api_Field_api_Field, 0), (i_model_settled_1, 1), (i_table_At, 1), (i_model_told, 1), (i_slices_DeleteFunc_api_Entry_api_Entry, 0), (i_model_settled_2, 1), (i_model_Taken, 1), (i_model_each_api_Field, 0), (i_model_CopyField, 0), (i_model_each_api_Entry, 0), (i_model_CopyEntry, 2), (i_slices_IndexFunc_api_Field_api_Field, 1), (i_table_Good, 0), (i_wire_PutEntry, 0), (i_wire_varint, 0), (i_wire_Size, 1), (i_wire_word, 2), (i_slices_EqualFunc_api_Msg_api_Msg_api_Msg_api_Msg, 1), (i_table_sort, 1), (i_model_typedField, 0), (i_slices_ContainsFunc_api_Val_api_Val, 1), (i_model_normal_1, 1), (i_slices_ContainsFunc_api_Entry_api_Entry, 1), (i_model_normal_2, 1), (i_model_Nothing, 1), (i_slices_IndexFunc_api_Entry_api_Entry, 1), (i_table_How, 1), (i_model_each_api_Val, 0), (i_model_CopyVal, 0), (i_model_list, 2), (i_table_Wire, 1), (i_scalar_Wire, 1), (i_table_goodName, 1), (i_table_goodEnum, 0), (i_table_goodMessage, 0), (i_wire_PutTag, 2), (i_bits_Len64, 1), (i_model_typedVal, 0), (i_scalar_Compare, 1), (i_model_typedField_1, 0), (i_slices_IndexFunc_api_Val_api_Val, 1), (i_table_HasRow, 1), (i_model_each_api_Msg, 0), (i_strings_Split, 2), (i_lex_IsName, 1), (i_table_named_add, 0), (i_table_reserved, 1), (i_table_goodField, 1), (i_wire_isKind, 1), (i_scalar_Fits, 1), (i_table_SymbolAt, 1), (i_quote_Valid, 1), (i_scalar_IsKey, 1), (i_bytes_Compare, 1), (i_scalar_signed, 1), (i_cmp_Compare_int64, 1), (i_cmp_Compare_uint64, 1), (i_scalar_Numeric, 1), (i_strings_genSplit, 2), (i_lex_letter, 1), (i_lex_named, 1), (i_scalar_known, 1), (i_scalar_holds, 1), (i_utf8_Valid, 1), (i_cmp_isNaN_int64, 1), (i_cmp_isNaN_uint64, 1), (i_lex_digit, 1), (i_utf8_word_byte, 1)]
theorem tabOk_ModelKnown : TabOk Tryz.prog tab_ModelKnown := .cons _ _ F_cartouchelaw8_ModelKnown T_cartouchelaw8_ModelKnown L_cartouchelaw8_ModelKnown (by kernel_rfl) (.cons _ _ F_cartouchelaw8_awake T_cartouchelaw8_awake L_cartouchelaw8_awake (by kernel_rfl) (.cons _ _ F_cartouchelaw8_typed T_cartouchelaw8_typed L_cartouchelaw8_typed (by kernel_rfl) (.cons _ _ F_cartouchelaw8_msg T_cartouchelaw8_msg L_cartouchelaw8_msg (by kernel_rfl) (.cons _ _ F_cartouchelaw8_n T_cartouchelaw8_n L_cartouchelaw8_n (by kernel_rfl) (.cons _ _ F_cartouchelaw8_normal T_cartouchelaw8_normal L_cartouchelaw8_normal (by kernel_rfl) (.cons _ _ F_cartouchelaw8_in T_cartouchelaw8_in L_cartouchelaw8_in (by kernel_rfl) (.cons _ _ F_model_Settle T_model_Settle L_model_Settle (by kernel_rfl) (.cons _ _ F_cartouchelaw7_Simple T_cartouchelaw7_Simple L_cartouchelaw7_Simple (by kernel_rfl) (.cons _ _ F_model_Depth T_model_Depth L_model_Depth (by kernel_rfl) (.cons _ _ F_cartoucheref8_Empty T_cartoucheref8_Empty L_cartoucheref8_Empty (by kernel_rfl) (.cons _ _ F_model_Equal T_model_Equal L_model_Equal (by kernel_rfl) (.cons _ _ F_model_Typed T_model_Typed L_model_Typed (by kernel_rfl) (.cons _ _ F_model_Normal T_model_Normal L_model_Normal (by kernel_rfl) (.cons _ _ F_model_settled T_model_settled L_model_settled (by kernel_rfl) (.cons _ _ F_model_Copy T_model_Copy L_model_Copy (by kernel_rfl) (.cons _ _ F_bytes_Equal T_bytes_Equal L_bytes_Equal (by kernel_rfl) (.cons _ _ F_wire_PutVarint T_wire_PutVarint L_wire_PutVarint (by kernel_rfl) (.cons _ _ F_slices_EqualFunc_api_Field_api_Field_api_Field_api_Field T_slices_EqualFunc_api_Field_api_Field_api_Field_api_Field L_slices_EqualFunc_api_Field_api_Field_api_Field_api_Field (by kernel_rfl) (.cons _ _ F_model_Equal_1 T_model_Equal_1 L_model_Equal_1 (by kernel_rfl) (.cons _ _ F_slices_EqualFunc_api_Val_api_Val_api_Val_api_Val T_slices_EqualFunc_api_Val_api_Val_api_Val_api_Val L_slices_EqualFunc_api_Val_api_Val_api_Val_api_Val (by kernel_rfl) (.cons _ _ F_model_equalVal T_model_equalVal L_model_equalVal (by kernel_rfl) (.cons _ _ F_slices_EqualFunc_api_Entry_api_Entry_api_Entry_api_Entry T_slices_EqualFunc_api_Entry_api_Entry_api_Entry_api_Entry L_slices_EqualFunc_api_Entry_api_Entry_api_Entry_api_Entry (by kernel_rfl) (.cons _ _ F_model_Equal_2 T_model_Equal_2 L_model_Equal_2 (by kernel_rfl) (.cons _ _ F_table_IsMessage T_table_IsMessage L_table_IsMessage (by kernel_rfl) (.cons _ _ F_model_typed T_model_typed L_model_typed (by kernel_rfl) (.cons _ _ F_model_normal T_model_normal L_model_normal (by kernel_rfl) (.cons _ _ F_slices_DeleteFunc_api_Field_api_Field T_slices_DeleteFunc_api_Field_api_Field L_slices_DeleteFunc_api_Field_api_Field (by kernel_rfl) (.cons _ _ F_model_settled_1 T_model_settled_1 L_model_settled_1 (by kernel_rfl) (.cons _ _ F_table_At T_table_At L_table_At (by kernel_rfl) (.cons _ _ F_model_told T_model_told L_model_told (by kernel_rfl) (.cons _ _ F_slices_DeleteFunc_api_Entry_api_Entry T_slices_DeleteFunc_api_Entry_api_Entry L_slices_DeleteFunc_api_Entry_api_Entry (by kernel_rfl) (.cons _ _ F_model_settled_2 T_model_settled_2 L_model_settled_2 (by kernel_rfl) (.cons _ _ F_model_Taken T_model_Taken L_model_Taken (by kernel_rfl) (.cons _ _ F_model_each_api_Field T_model_each_api_Field L_model_each_api_Field (by kernel_rfl) (.cons _ _ F_model_CopyField T_model_CopyField L_model_CopyField (by kernel_rfl) (.cons _ _ F_model_each_api_Entry T_model_each_api_Entry L_model_each_api_Entry (by kernel_rfl) (.cons _ _ F_model_CopyEntry T_model_CopyEntry L_model_CopyEntry (by kernel_rfl) (.cons _ _ F_slices_IndexFunc_api_Field_api_Field T_slices_IndexFunc_api_Field_api_Field L_slices_IndexFunc_api_Field_api_Field (by kernel_rfl) (.cons _ _ F_table_Good T_table_Good L_table_Good (by kernel_rfl) (.cons _ _ F_wire_PutEntry T_wire_PutEntry L_wire_PutEntry (by kernel_rfl) (.cons _ _ F_wire_varint T_wire_varint L_wire_varint (by kernel_rfl) (.cons _ _ F_wire_Size T_wire_Size L_wire_Size (by kernel_rfl) (.cons _ _ F_wire_word T_wire_word L_wire_word (by kernel_rfl) (.cons _ _ F_slices_EqualFunc_api_Msg_api_Msg_api_Msg_api_Msg T_slices_EqualFunc_api_Msg_api_Msg_api_Msg_api_Msg L_slices_EqualFunc_api_Msg_api_Msg_api_Msg_api_Msg (by kernel_rfl) (.cons _ _ F_table_sort T_table_sort L_table_sort (by kernel_rfl) (.cons _ _ F_model_typedField T_model_typedField L_model_typedField (by kernel_rfl) (.cons _ _ F_slices_ContainsFunc_api_Val_api_Val T_slices_ContainsFunc_api_Val_api_Val L_slices_ContainsFunc_api_Val_api_Val (by kernel_rfl) (.cons _ _ F_model_normal_1 T_model_normal_1 L_model_normal_1 (by kernel_rfl) (.cons _ _ F_slices_ContainsFunc_api_Entry_api_Entry T_slices_ContainsFunc_api_Entry_api_Entry L_slices_ContainsFunc_api_Entry_api_Entry (by kernel_rfl) (.cons _ _ F_model_normal_2 T_model_normal_2 L_model_normal_2 (by kernel_rfl) (.cons _ _ F_model_Nothing T_model_Nothing L_model_Nothing (by kernel_rfl) (.cons _ _ F_slices_IndexFunc_api_Entry_api_Entry T_slices_IndexFunc_api_Entry_api_Entry L_slices_IndexFunc_api_Entry_api_Entry (by kernel_rfl) (.cons _ _ F_table_How T_table_How L_table_How (by kernel_rfl) (.cons _ _ F_model_each_api_Val T_model_each_api_Val L_model_each_api_Val (by kernel_rfl) (.cons _ _ F_model_CopyVal T_model_CopyVal L_model_CopyVal (by kernel_rfl) (.cons _ _ F_model_list T_model_list L_model_list (by kernel_rfl) (.cons _ _ F_table_Wire T_table_Wire L_table_Wire (by kernel_rfl) (.cons _ _ F_scalar_Wire T_scalar_Wire L_scalar_Wire (by kernel_rfl) (.cons _ _ F_table_goodName T_table_goodName L_table_goodName (by kernel_rfl) (.cons _ _ F_table_goodEnum T_table_goodEnum L_table_goodEnum (by kernel_rfl) (.cons _ _ F_table_goodMessage T_table_goodMessage L_table_goodMessage (by kernel_rfl) (.cons _ _ F_wire_PutTag T_wire_PutTag L_wire_PutTag (by kernel_rfl) (.cons _ _ F_bits_Len64 T_bits_Len64 L_bits_Len64 (by kernel_rfl) (.cons _ _ F_model_typedVal T_model_typedVal L_model_typedVal (by kernel_rfl) (.cons _ _ F_scalar_Compare T_scalar_Compare L_scalar_Compare (by kernel_rfl) (.cons _ _ F_model_typedField_1 T_model_typedField_1 L_model_typedField_1 (by kernel_rfl) (.cons _ _ F_slices_IndexFunc_api_Val_api_Val T_slices_IndexFunc_api_Val_api_Val L_slices_IndexFunc_api_Val_api_Val (by kernel_rfl) (.cons _ _ F_table_HasRow T_table_HasRow L_table_HasRow (by kernel_rfl) (.cons _ _ F_model_each_api_Msg T_model_each_api_Msg L_model_each_api_Msg (by kernel_rfl) (.cons _ _ F_strings_Split T_strings_Split L_strings_Split (by kernel_rfl) (.cons _ _ F_lex_IsName T_lex_IsName L_lex_IsName (by kernel_rfl) (.cons _ _ F_table_named_add T_table_named_add L_table_named_add (by kernel_rfl) (.cons _ _ F_table_reserved T_table_reserved L_table_reserved (by kernel_rfl) (.cons _ _ F_table_goodField T_table_goodField L_table_goodField (by kernel_rfl) (.cons _ _ F_wire_isKind T_wire_isKind L_wire_isKind (by kernel_rfl) (.cons _ _ F_scalar_Fits T_scalar_Fits L_scalar_Fits (by kernel_rfl) (.cons _ _ F_table_SymbolAt T_table_SymbolAt L_table_SymbolAt (by kernel_rfl) (.cons _ _ F_quote_Valid T_quote_Valid L_quote_Valid (by kernel_rfl) (.cons _ _ F_scalar_IsKey T_scalar_IsKey L_scalar_IsKey (by kernel_rfl) (.cons _ _ F_bytes_Compare T_bytes_Compare L_bytes_Compare (by kernel_rfl) (.cons _ _ F_scalar_signed T_scalar_signed L_scalar_signed (by kernel_rfl) (.cons _ _ F_cmp_Compare_int64 T_cmp_Compare_int64 L_cmp_Compare_int64 (by kernel_rfl) (.cons _ _ F_cmp_Compare_uint64 T_cmp_Compare_uint64 L_cmp_Compare_uint64 (by kernel_rfl) (.cons _ _ F_scalar_Numeric T_scalar_Numeric L_scalar_Numeric (by kernel_rfl) (.cons _ _ F_strings_genSplit T_strings_genSplit L_strings_genSplit (by kernel_rfl) (.cons _ _ F_lex_letter T_lex_letter L_lex_letter (by kernel_rfl) (.cons _ _ F_lex_named T_lex_named L_lex_named (by kernel_rfl) (.cons _ _ F_scalar_known T_scalar_known L_scalar_known (by kernel_rfl) (.cons _ _ F_scalar_holds T_scalar_holds L_scalar_holds (by kernel_rfl) (.cons _ _ F_utf8_Valid T_utf8_Valid L_utf8_Valid (by kernel_rfl) (.cons _ _ F_cmp_isNaN_int64 T_cmp_isNaN_int64 L_cmp_isNaN_int64 (by kernel_rfl) (.cons _ _ F_cmp_isNaN_uint64 T_cmp_isNaN_uint64 L_cmp_isNaN_uint64 (by kernel_rfl) (.cons _ _ F_lex_digit T_lex_digit L_lex_digit (by kernel_rfl) (.cons _ _ F_utf8_word_byte T_utf8_word_byte L_utf8_word_byte (by kernel_rfl) (.nil)))))))))))))))))))))))))))))))))))))))))))))))))))))))))))))))))))))))))))))))))))))))))))))))

def memoModelKnown0 : List (FuncId × List IV × IV) := []
theorem allModelKnown0 : ∀ e ∈ memoModelKnown0, callOk Tryz.prog e.1 = true ∧ FC Tryz.prog e.1 e.2.1 (· = e.2.2) := fun e h => by cases h
def cvModelKnown0 : IV := (.agg [(.slice [(.agg [(.str ⟨#[69]⟩), (.bool true), .nil, .nil, (.slice [(.agg [(.str ⟨#[65]⟩), (.int .i64 (0))])]), .nil]), (.agg [(.str ⟨#[77]⟩), (.bool false), (.slice [(.agg [(.str ⟨#[120]⟩), (.int .i64 (1)), (.int .i64 (2)), (.int .i64 (0)), (.int .i64 (0)), (.int .i64 (0)), (.int .i64 (0))]), (.agg [(.str ⟨#[108]⟩), (.int .i64 (2)), (.int .i64 (4)), (.int .i64 (0)), (.int .i64 (3)), (.int .i64 (0)), (.int .i64 (0))]), (.agg [(.str ⟨#[109]⟩), (.int .i64 (3)), (.int .i64 (17)), (.int .i64 (1)), (.int .i64 (1)), (.int .i64 (0)), (.int .i64 (0))])]), .nil, .nil, .nil])])])
theorem mmModelKnown1 : givesIv (evF (memoB memoModelKnown0 libBase) tab_ModelKnown modes_ModelKnown 1000 60 i_cartouchelaw7_Simple [] []) (cvModelKnown0) = true := by kernel_rfl
def memoModelKnown1 : List (FuncId × List IV × IV) := (i_cartouchelaw7_Simple, [], cvModelKnown0) :: memoModelKnown0
theorem allModelKnown1 : ∀ e ∈ memoModelKnown1, callOk Tryz.prog e.1 = true ∧ FC Tryz.prog e.1 e.2.1 (· = e.2.2) := List.forall_mem_cons.2 ⟨⟨by kernel_rfl, .ofGives (memoB_ok libBase_ok allModelKnown0) tabOk_ModelKnown (xs := []) mmModelKnown1⟩, allModelKnown0⟩
def cvModelKnown1 : IV := (.agg [(.slice [(.agg [(.int .i64 (1)), .nil, (.slice [(.agg [(.int .u64 (5)), .nil, .nil])])])]), .nil])
theorem mmModelKnown2 : givesIv (evF (memoB memoModelKnown1 libBase) tab_ModelKnown modes_ModelKnown 1000 60 i_cartouchelaw8_typed [.iv cvModelKnown1, .iv (.bool true)] []) ((.bool true)) = true := by kernel_rfl
def memoModelKnown2 : List (FuncId × List IV × IV) := (i_cartouchelaw8_typed, [cvModelKnown1, (.bool true)], (.bool true)) :: memoModelKnown1
theorem allModelKnown2 : ∀ e ∈ memoModelKnown2, callOk Tryz.prog e.1 = true ∧ FC Tryz.prog e.1 e.2.1 (· = e.2.2) := List.forall_mem_cons.2 ⟨⟨by kernel_rfl, .ofGives (memoB_ok libBase_ok allModelKnown1) tabOk_ModelKnown (xs := [cvModelKnown1, (.bool true)]) mmModelKnown2⟩, allModelKnown1⟩
def cvModelKnown2 : IV := (.agg [(.slice [(.agg [(.int .i64 (1)), .nil, (.slice [(.agg [(.int .u64 (1099511627776)), .nil, .nil])])])]), .nil])
theorem mmModelKnown3 : givesIv (evF (memoB memoModelKnown2 libBase) tab_ModelKnown modes_ModelKnown 1000 60 i_cartouchelaw8_typed [.iv cvModelKnown2, .iv (.bool false)] []) ((.bool true)) = true := by kernel_rfl
def memoModelKnown3 : List (FuncId × List IV × IV) := (i_cartouchelaw8_typed, [cvModelKnown2, (.bool false)], (.bool true)) :: memoModelKnown2
theorem allModelKnown3 : ∀ e ∈ memoModelKnown3, callOk Tryz.prog e.1 = true ∧ FC Tryz.prog e.1 e.2.1 (· = e.2.2) := List.forall_mem_cons.2 ⟨⟨by kernel_rfl, .ofGives (memoB_ok libBase_ok allModelKnown2) tabOk_ModelKnown (xs := [cvModelKnown2, (.bool false)]) mmModelKnown3⟩, allModelKnown2⟩
theorem mmModelKnown4 : givesIv (evF (memoB memoModelKnown3 libBase) tab_ModelKnown modes_ModelKnown 1000 60 i_cartouchelaw8_awake [] []) ((.bool true)) = true := by kernel_rfl
def memoModelKnown4 : List (FuncId × List IV × IV) := (i_cartouchelaw8_awake, [], (.bool true)) :: memoModelKnown3
theorem allModelKnown4 : ∀ e ∈ memoModelKnown4, callOk Tryz.prog e.1 = true ∧ FC Tryz.prog e.1 e.2.1 (· = e.2.2) := List.forall_mem_cons.2 ⟨⟨by kernel_rfl, .ofGives (memoB_ok libBase_ok allModelKnown3) tabOk_ModelKnown (xs := []) mmModelKnown4⟩, allModelKnown3⟩
def cvModelKnown3 : IV := (.agg [(.slice [(.agg [(.int .i64 (9)), .nil, (.slice [(.agg [(.int .u64 (1)), .nil, .nil])])])]), .nil])
theorem mmModelKnown5 : givesIv (evF (memoB memoModelKnown4 libBase) tab_ModelKnown modes_ModelKnown 1000 60 i_cartouchelaw8_typed [.iv cvModelKnown3, .iv (.bool false)] []) ((.bool true)) = true := by kernel_rfl
def memoModelKnown5 : List (FuncId × List IV × IV) := (i_cartouchelaw8_typed, [cvModelKnown3, (.bool false)], (.bool true)) :: memoModelKnown4
theorem allModelKnown5 : ∀ e ∈ memoModelKnown5, callOk Tryz.prog e.1 = true ∧ FC Tryz.prog e.1 e.2.1 (· = e.2.2) := List.forall_mem_cons.2 ⟨⟨by kernel_rfl, .ofGives (memoB_ok libBase_ok allModelKnown4) tabOk_ModelKnown (xs := [cvModelKnown3, (.bool false)]) mmModelKnown5⟩, allModelKnown4⟩
def cvModelKnown4 : IV := (.agg [(.slice [(.agg [(.int .i64 (2)), .nil, (.slice [(.agg [(.int .u64 (1)), .nil, .nil]), (.agg [(.int .u64 (2)), .nil, .nil])])])]), .nil])
theorem mmModelKnown6 : givesIv (evF (memoB memoModelKnown5 libBase) tab_ModelKnown modes_ModelKnown 1000 60 i_cartouchelaw8_typed [.iv cvModelKnown4, .iv (.bool true)] []) ((.bool true)) = true := by kernel_rfl
def memoModelKnown6 : List (FuncId × List IV × IV) := (i_cartouchelaw8_typed, [cvModelKnown4, (.bool true)], (.bool true)) :: memoModelKnown5
theorem allModelKnown6 : ∀ e ∈ memoModelKnown6, callOk Tryz.prog e.1 = true ∧ FC Tryz.prog e.1 e.2.1 (· = e.2.2) := List.forall_mem_cons.2 ⟨⟨by kernel_rfl, .ofGives (memoB_ok libBase_ok allModelKnown5) tabOk_ModelKnown (xs := [cvModelKnown4, (.bool true)]) mmModelKnown6⟩, allModelKnown5⟩
def cvModelKnown5 : IV := (.agg [(.slice [(.agg [(.int .i64 (1)), .nil, (.slice [(.agg [(.int .u64 (1)), .nil, .nil]), (.agg [(.int .u64 (2)), .nil, .nil])])])]), .nil])
theorem mmModelKnown7 : givesIv (evF (memoB memoModelKnown6 libBase) tab_ModelKnown modes_ModelKnown 1000 60 i_cartouchelaw8_typed [.iv cvModelKnown5, .iv (.bool false)] []) ((.bool true)) = true := by kernel_rfl
def memoModelKnown7 : List (FuncId × List IV × IV) := (i_cartouchelaw8_typed, [cvModelKnown5, (.bool false)], (.bool true)) :: memoModelKnown6
theorem allModelKnown7 : ∀ e ∈ memoModelKnown7, callOk Tryz.prog e.1 = true ∧ FC Tryz.prog e.1 e.2.1 (· = e.2.2) := List.forall_mem_cons.2 ⟨⟨by kernel_rfl, .ofGives (memoB_ok libBase_ok allModelKnown6) tabOk_ModelKnown (xs := [cvModelKnown5, (.bool false)]) mmModelKnown7⟩, allModelKnown6⟩
def cvModelKnown6 : IV := (.agg [(.slice [(.agg [(.int .i64 (1)), .nil, (.slice [(.agg [(.int .u64 (0)), .nil, .nil])])])]), .nil])
theorem mmModelKnown8 : givesIv (evF (memoB memoModelKnown7 libBase) tab_ModelKnown modes_ModelKnown 1000 60 i_cartouchelaw8_normal [.iv cvModelKnown6, .iv (.bool false)] []) ((.bool true)) = true := by kernel_rfl
def memoModelKnown8 : List (FuncId × List IV × IV) := (i_cartouchelaw8_normal, [cvModelKnown6, (.bool false)], (.bool true)) :: memoModelKnown7
theorem allModelKnown8 : ∀ e ∈ memoModelKnown8, callOk Tryz.prog e.1 = true ∧ FC Tryz.prog e.1 e.2.1 (· = e.2.2) := List.forall_mem_cons.2 ⟨⟨by kernel_rfl, .ofGives (memoB_ok libBase_ok allModelKnown7) tabOk_ModelKnown (xs := [cvModelKnown6, (.bool false)]) mmModelKnown8⟩, allModelKnown7⟩
def cvModelKnown7 : IV := (.agg [(.slice [(.agg [(.int .i64 (3)), .nil, (.slice [(.agg [(.int .u64 (0)), .nil, (.slice [(.agg [.nil, .nil])])])])])]), .nil])
theorem mmModelKnown9 : givesIv (evF (memoB memoModelKnown8 libBase) tab_ModelKnown modes_ModelKnown 1000 60 i_cartouchelaw8_normal [.iv cvModelKnown7, .iv (.bool true)] []) ((.bool true)) = true := by kernel_rfl
def memoModelKnown9 : List (FuncId × List IV × IV) := (i_cartouchelaw8_normal, [cvModelKnown7, (.bool true)], (.bool true)) :: memoModelKnown8
theorem allModelKnown9 : ∀ e ∈ memoModelKnown9, callOk Tryz.prog e.1 = true ∧ FC Tryz.prog e.1 e.2.1 (· = e.2.2) := List.forall_mem_cons.2 ⟨⟨by kernel_rfl, .ofGives (memoB_ok libBase_ok allModelKnown8) tabOk_ModelKnown (xs := [cvModelKnown7, (.bool true)]) mmModelKnown9⟩, allModelKnown8⟩
theorem known_ModelKnown : saysTrue (evF (memoB memoModelKnown9 libBase) tab_ModelKnown modes_ModelKnown 1000 60 i_cartouchelaw8_ModelKnown [] []) = true := by kernel_rfl
theorem fc_ModelKnown : FC Tryz.prog i_cartouchelaw8_ModelKnown [] (· = .bool true) := .ofEv (memoB_ok libBase_ok allModelKnown9) tabOk_ModelKnown known_ModelKnown
end Go.Proofs.YtdlgenppdgkacaaGreatDoor.Ag
