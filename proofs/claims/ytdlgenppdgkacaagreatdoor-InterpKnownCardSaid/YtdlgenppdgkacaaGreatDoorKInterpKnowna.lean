/- The closed law InterpKnown, evaluated without memory. -/
import Derived.Test.YtdlgenppdgkacaaGreatDoorProg
import Derived.Test.YtdlgenppdgkacaaGreatDoorKnBase2
import Derived.Test.YtdlgenppdgkacaaGreatDoorAgP2
set_option maxRecDepth 100000
namespace Go.Proofs.YtdlgenppdgkacaaGreatDoor.Ag
set_option maxRecDepth 100000
abbrev i_cartouchelaw9_InterpKnown : FuncId := 5
theorem F_cartouchelaw9_InterpKnown : Tryz.prog.funcs[i_cartouchelaw9_InterpKnown]? = some Tryz.f5 := Tryz.func5
abbrev i_cartouchelaw7_Simple : FuncId := 16
theorem F_cartouchelaw7_Simple : Tryz.prog.funcs[i_cartouchelaw7_Simple]? = some Tryz.f16 := Tryz.func16
abbrev i_model_Depth : FuncId := 17
theorem F_model_Depth : Tryz.prog.funcs[i_model_Depth]? = some Tryz.f17 := Tryz.func17
abbrev i_cartoucheref8_Empty : FuncId := 18
theorem F_cartoucheref8_Empty : Tryz.prog.funcs[i_cartoucheref8_Empty]? = some Tryz.f18 := Tryz.func18
abbrev i_cartoucheref8_SameField : FuncId := 26
theorem F_cartoucheref8_SameField : Tryz.prog.funcs[i_cartoucheref8_SameField]? = some Tryz.f26 := Tryz.func26
abbrev i_cartouchelaw9_awake : FuncId := 31
theorem F_cartouchelaw9_awake : Tryz.prog.funcs[i_cartouchelaw9_awake]? = some Tryz.f31 := Tryz.func31
abbrev i_cartouchelaw9_reads : FuncId := 32
theorem F_cartouchelaw9_reads : Tryz.prog.funcs[i_cartouchelaw9_reads]? = some Tryz.f32 := Tryz.func32
abbrev i_cartouchelaw9_msg : FuncId := 33
theorem F_cartouchelaw9_msg : Tryz.prog.funcs[i_cartouchelaw9_msg]? = some Tryz.f33 := Tryz.func33
abbrev i_cartouchelaw9_n : FuncId := 34
theorem F_cartouchelaw9_n : Tryz.prog.funcs[i_cartouchelaw9_n]? = some Tryz.f34 := Tryz.func34
abbrev i_cartouchelaw9_in : FuncId := 35
theorem F_cartouchelaw9_in : Tryz.prog.funcs[i_cartouchelaw9_in]? = some Tryz.f35 := Tryz.func35
abbrev i_cartouchelaw9_fails : FuncId := 36
theorem F_cartouchelaw9_fails : Tryz.prog.funcs[i_cartouchelaw9_fails]? = some Tryz.f36 := Tryz.func36
abbrev i_interp_Encode : FuncId := 37
theorem F_interp_Encode : Tryz.prog.funcs[i_interp_Encode]? = some Tryz.f37 := Tryz.func37
abbrev i_interp_Size : FuncId := 38
theorem F_interp_Size : Tryz.prog.funcs[i_interp_Size]? = some Tryz.f38 := Tryz.func38
abbrev i_interp_Entries : FuncId := 39
theorem F_interp_Entries : Tryz.prog.funcs[i_interp_Entries]? = some Tryz.f39 := Tryz.func39
abbrev i_model_Typed : FuncId := 65
theorem F_model_Typed : Tryz.prog.funcs[i_model_Typed]? = some Tryz.f65 := Tryz.func65
abbrev i_model_Copy : FuncId := 68
theorem F_model_Copy : Tryz.prog.funcs[i_model_Copy]? = some Tryz.f68 := Tryz.func68
abbrev i_cartoucheref8_Equal : FuncId := 71
theorem F_cartoucheref8_Equal : Tryz.prog.funcs[i_cartoucheref8_Equal]? = some Tryz.f71 := Tryz.func71
abbrev i_cartoucheref8_vals : FuncId := 77
theorem F_cartoucheref8_vals : Tryz.prog.funcs[i_cartoucheref8_vals]? = some Tryz.f77 := Tryz.func77
abbrev i_interp_Decode : FuncId := 86
theorem F_interp_Decode : Tryz.prog.funcs[i_interp_Decode]? = some Tryz.f86 := Tryz.func86
abbrev i_interp_write : FuncId := 87
theorem F_interp_write : Tryz.prog.funcs[i_interp_write]? = some Tryz.f87 := Tryz.func87
abbrev i_interp_read : FuncId := 88
theorem F_interp_read : Tryz.prog.funcs[i_interp_read]? = some Tryz.f88 := Tryz.func88
abbrev i_cartoucheref1_List : FuncId := 98
theorem F_cartoucheref1_List : Tryz.prog.funcs[i_cartoucheref1_List]? = some Tryz.f98 := Tryz.func98
abbrev i_wire_PutVarint : FuncId := 104
theorem F_wire_PutVarint : Tryz.prog.funcs[i_wire_PutVarint]? = some Tryz.f104 := Tryz.func104
abbrev i_wire_PutFix32 : FuncId := 105
theorem F_wire_PutFix32 : Tryz.prog.funcs[i_wire_PutFix32]? = some Tryz.f105 := Tryz.func105
abbrev i_table_IsMessage : FuncId := 121
theorem F_table_IsMessage : Tryz.prog.funcs[i_table_IsMessage]? = some Tryz.f121 := Tryz.func121
abbrev i_model_typed : FuncId := 122
theorem F_model_typed : Tryz.prog.funcs[i_model_typed]? = some Tryz.f122 := Tryz.func122
abbrev i_slices_DeleteFunc_api_Field_api_Field : FuncId := 124
theorem F_slices_DeleteFunc_api_Field_api_Field : Tryz.prog.funcs[i_slices_DeleteFunc_api_Field_api_Field]? = some Tryz.f124 := Tryz.func124
abbrev i_table_At : FuncId := 126
theorem F_table_At : Tryz.prog.funcs[i_table_At]? = some Tryz.f126 := Tryz.func126
abbrev i_model_each_api_Field : FuncId := 131
theorem F_model_each_api_Field : Tryz.prog.funcs[i_model_each_api_Field]? = some Tryz.f131 := Tryz.func131
abbrev i_model_CopyField : FuncId := 132
theorem F_model_CopyField : Tryz.prog.funcs[i_model_CopyField]? = some Tryz.f132 := Tryz.func132
abbrev i_model_each_api_Entry : FuncId := 133
theorem F_model_each_api_Entry : Tryz.prog.funcs[i_model_each_api_Entry]? = some Tryz.f133 := Tryz.func133
abbrev i_model_CopyEntry : FuncId := 134
theorem F_model_CopyEntry : Tryz.prog.funcs[i_model_CopyEntry]? = some Tryz.f134 := Tryz.func134
abbrev i_slices_IndexFunc_api_Field_api_Field : FuncId := 138
theorem F_slices_IndexFunc_api_Field_api_Field : Tryz.prog.funcs[i_slices_IndexFunc_api_Field_api_Field]? = some Tryz.f138 := Tryz.func138
abbrev i_interp_written : FuncId := 141
theorem F_interp_written : Tryz.prog.funcs[i_interp_written]? = some Tryz.f141 := Tryz.func141
abbrev i_interp_read_1 : FuncId := 142
theorem F_interp_read_1 : Tryz.prog.funcs[i_interp_read_1]? = some Tryz.f142 := Tryz.func142
abbrev i_interp_cursor_done : FuncId := 143
theorem F_interp_cursor_done : Tryz.prog.funcs[i_interp_cursor_done]? = some Tryz.f143 := Tryz.func143
abbrev i_interp_cursor_entry : FuncId := 144
theorem F_interp_cursor_entry : Tryz.prog.funcs[i_interp_cursor_entry]? = some Tryz.f144 := Tryz.func144
abbrev i_table_Good : FuncId := 145
theorem F_table_Good : Tryz.prog.funcs[i_table_Good]? = some Tryz.f145 := Tryz.func145
abbrev i_cartoucheref1_Same : FuncId := 154
theorem F_cartoucheref1_Same : Tryz.prog.funcs[i_cartoucheref1_Same]? = some Tryz.f154 := Tryz.func154
abbrev i_wire_Join : FuncId := 159
theorem F_wire_Join : Tryz.prog.funcs[i_wire_Join]? = some Tryz.f159 := Tryz.func159
abbrev i_wire_PutEntry : FuncId := 160
theorem F_wire_PutEntry : Tryz.prog.funcs[i_wire_PutEntry]? = some Tryz.f160 := Tryz.func160
abbrev i_wire_varint : FuncId := 163
theorem F_wire_varint : Tryz.prog.funcs[i_wire_varint]? = some Tryz.f163 := Tryz.func163
abbrev i_wire_Size : FuncId := 164
theorem F_wire_Size : Tryz.prog.funcs[i_wire_Size]? = some Tryz.f164 := Tryz.func164
abbrev i_wire_word : FuncId := 165
theorem F_wire_word : Tryz.prog.funcs[i_wire_word]? = some Tryz.f165 := Tryz.func165
abbrev i_wire_GetVarint : FuncId := 166
theorem F_wire_GetVarint : Tryz.prog.funcs[i_wire_GetVarint]? = some Tryz.f166 := Tryz.func166
abbrev i_wire_GetFix32 : FuncId := 167
theorem F_wire_GetFix32 : Tryz.prog.funcs[i_wire_GetFix32]? = some Tryz.f167 := Tryz.func167
abbrev i_table_sort : FuncId := 172
theorem F_table_sort : Tryz.prog.funcs[i_table_sort]? = some Tryz.f172 := Tryz.func172
abbrev i_model_typedField : FuncId := 173
theorem F_model_typedField : Tryz.prog.funcs[i_model_typedField]? = some Tryz.f173 := Tryz.func173
abbrev i_slices_ContainsFunc_api_Val_api_Val : FuncId := 174
theorem F_slices_ContainsFunc_api_Val_api_Val : Tryz.prog.funcs[i_slices_ContainsFunc_api_Val_api_Val]? = some Tryz.f174 := Tryz.func174
abbrev i_model_Nothing : FuncId := 178
theorem F_model_Nothing : Tryz.prog.funcs[i_model_Nothing]? = some Tryz.f178 := Tryz.func178
abbrev i_table_How : FuncId := 180
theorem F_table_How : Tryz.prog.funcs[i_table_How]? = some Tryz.f180 := Tryz.func180
abbrev i_model_each_api_Val : FuncId := 181
theorem F_model_each_api_Val : Tryz.prog.funcs[i_model_each_api_Val]? = some Tryz.f181 := Tryz.func181
abbrev i_model_CopyVal : FuncId := 182
theorem F_model_CopyVal : Tryz.prog.funcs[i_model_CopyVal]? = some Tryz.f182 := Tryz.func182
abbrev i_model_list : FuncId := 183
theorem F_model_list : Tryz.prog.funcs[i_model_list]? = some Tryz.f183 := Tryz.func183
abbrev i_model_Others : FuncId := 184
theorem F_model_Others : Tryz.prog.funcs[i_model_Others]? = some Tryz.f184 := Tryz.func184
abbrev i_slices_Contains_int_int : FuncId := 186
theorem F_slices_Contains_int_int : Tryz.prog.funcs[i_slices_Contains_int_int]? = some Tryz.f186 := Tryz.func186
abbrev i_model_Place : FuncId := 187
theorem F_model_Place : Tryz.prog.funcs[i_model_Place]? = some Tryz.f187 := Tryz.func187
abbrev i_table_Wire : FuncId := 192
theorem F_table_Wire : Tryz.prog.funcs[i_table_Wire]? = some Tryz.f192 := Tryz.func192
abbrev i_interp_value : FuncId := 193
theorem F_interp_value : Tryz.prog.funcs[i_interp_value]? = some Tryz.f193 := Tryz.func193
abbrev i_interp_tagged : FuncId := 194
theorem F_interp_tagged : Tryz.prog.funcs[i_interp_tagged]? = some Tryz.f194 := Tryz.func194
abbrev i_wire_PutChunk : FuncId := 195
theorem F_wire_PutChunk : Tryz.prog.funcs[i_wire_PutChunk]? = some Tryz.f195 := Tryz.func195
abbrev i_scalar_Wire : FuncId := 196
theorem F_scalar_Wire : Tryz.prog.funcs[i_scalar_Wire]? = some Tryz.f196 := Tryz.func196
abbrev i_interp_cursor_tag : FuncId := 197
theorem F_interp_cursor_tag : Tryz.prog.funcs[i_interp_cursor_tag]? = some Tryz.f197 := Tryz.func197
abbrev i_interp_cursor_put : FuncId := 198
theorem F_interp_cursor_put : Tryz.prog.funcs[i_interp_cursor_put]? = some Tryz.f198 := Tryz.func198
abbrev i_interp_cursor_row : FuncId := 199
theorem F_interp_cursor_row : Tryz.prog.funcs[i_interp_cursor_row]? = some Tryz.f199 := Tryz.func199
abbrev i_interp_cursor_rest : FuncId := 200
theorem F_interp_cursor_rest : Tryz.prog.funcs[i_interp_cursor_rest]? = some Tryz.f200 := Tryz.func200
abbrev i_table_goodName : FuncId := 201
theorem F_table_goodName : Tryz.prog.funcs[i_table_goodName]? = some Tryz.f201 := Tryz.func201
abbrev i_table_goodEnum : FuncId := 202
theorem F_table_goodEnum : Tryz.prog.funcs[i_table_goodEnum]? = some Tryz.f202 := Tryz.func202
abbrev i_table_goodMessage : FuncId := 203
theorem F_table_goodMessage : Tryz.prog.funcs[i_table_goodMessage]? = some Tryz.f203 := Tryz.func203
abbrev i_slices_Insert_api_Field_api_Field : FuncId := 206
theorem F_slices_Insert_api_Field_api_Field : Tryz.prog.funcs[i_slices_Insert_api_Field_api_Field]? = some Tryz.f206 := Tryz.func206
abbrev i_wire_PutTag : FuncId := 207
theorem F_wire_PutTag : Tryz.prog.funcs[i_wire_PutTag]? = some Tryz.f207 := Tryz.func207
abbrev i_wire_GetTag : FuncId := 208
theorem F_wire_GetTag : Tryz.prog.funcs[i_wire_GetTag]? = some Tryz.f208 := Tryz.func208
abbrev i_wire_read : FuncId := 209
theorem F_wire_read : Tryz.prog.funcs[i_wire_read]? = some Tryz.f209 := Tryz.func209
abbrev i_wire_GetChunk : FuncId := 210
theorem F_wire_GetChunk : Tryz.prog.funcs[i_wire_GetChunk]? = some Tryz.f210 := Tryz.func210
abbrev i_bits_Len64 : FuncId := 211
theorem F_bits_Len64 : Tryz.prog.funcs[i_bits_Len64]? = some Tryz.f211 := Tryz.func211
abbrev i_wire_place : FuncId := 212
theorem F_wire_place : Tryz.prog.funcs[i_wire_place]? = some Tryz.f212 := Tryz.func212
abbrev i_model_typedVal : FuncId := 216
theorem F_model_typedVal : Tryz.prog.funcs[i_model_typedVal]? = some Tryz.f216 := Tryz.func216
abbrev i_scalar_Compare : FuncId := 217
theorem F_scalar_Compare : Tryz.prog.funcs[i_scalar_Compare]? = some Tryz.f217 := Tryz.func217
abbrev i_model_typedField_1 : FuncId := 218
theorem F_model_typedField_1 : Tryz.prog.funcs[i_model_typedField_1]? = some Tryz.f218 := Tryz.func218
abbrev i_slices_IndexFunc_api_Val_api_Val : FuncId := 219
theorem F_slices_IndexFunc_api_Val_api_Val : Tryz.prog.funcs[i_slices_IndexFunc_api_Val_api_Val]? = some Tryz.f219 := Tryz.func219
abbrev i_table_HasRow : FuncId := 220
theorem F_table_HasRow : Tryz.prog.funcs[i_table_HasRow]? = some Tryz.f220 := Tryz.func220
abbrev i_model_each_api_Msg : FuncId := 221
theorem F_model_each_api_Msg : Tryz.prog.funcs[i_model_each_api_Msg]? = some Tryz.f221 := Tryz.func221
abbrev i_slices_Index_int_int : FuncId := 222
theorem F_slices_Index_int_int : Tryz.prog.funcs[i_slices_Index_int_int]? = some Tryz.f222 := Tryz.func222
abbrev i_slices_BinarySearchFunc_api_Field_api_Field_int : FuncId := 223
theorem F_slices_BinarySearchFunc_api_Field_api_Field_int : Tryz.prog.funcs[i_slices_BinarySearchFunc_api_Field_api_Field_int]? = some Tryz.f223 := Tryz.func223
abbrev i_model_Place_1 : FuncId := 224
theorem F_model_Place_1 : Tryz.prog.funcs[i_model_Place_1]? = some Tryz.f224 := Tryz.func224
abbrev i_slices_Insert_api_Val_api_Val : FuncId := 227
theorem F_slices_Insert_api_Val_api_Val : Tryz.prog.funcs[i_slices_Insert_api_Val_api_Val]? = some Tryz.f227 := Tryz.func227
abbrev i_scalar_Put : FuncId := 232
theorem F_scalar_Put : Tryz.prog.funcs[i_scalar_Put]? = some Tryz.f232 := Tryz.func232
abbrev i_interp_must : FuncId := 233
theorem F_interp_must : Tryz.prog.funcs[i_interp_must]? = some Tryz.f233 := Tryz.func233
abbrev i_interp_cursor_within : FuncId := 234
theorem F_interp_cursor_within : Tryz.prog.funcs[i_interp_cursor_within]? = some Tryz.f234 := Tryz.func234
abbrev i_interp_cursor_scalar : FuncId := 235
theorem F_interp_cursor_scalar : Tryz.prog.funcs[i_interp_cursor_scalar]? = some Tryz.f235 := Tryz.func235
abbrev i_interp_field : FuncId := 236
theorem F_interp_field : Tryz.prog.funcs[i_interp_field]? = some Tryz.f236 := Tryz.func236
abbrev i_interp_cursor_value : FuncId := 237
theorem F_interp_cursor_value : Tryz.prog.funcs[i_interp_cursor_value]? = some Tryz.f237 := Tryz.func237
abbrev i_interp_cursor_put_1 : FuncId := 238
theorem F_interp_cursor_put_1 : Tryz.prog.funcs[i_interp_cursor_put_1]? = some Tryz.f238 := Tryz.func238
abbrev i_interp_cursor_pair : FuncId := 239
theorem F_interp_cursor_pair : Tryz.prog.funcs[i_interp_cursor_pair]? = some Tryz.f239 := Tryz.func239
abbrev i_interp_laid : FuncId := 240
theorem F_interp_laid : Tryz.prog.funcs[i_interp_laid]? = some Tryz.f240 := Tryz.func240
abbrev i_interp_cursor_chunk : FuncId := 241
theorem F_interp_cursor_chunk : Tryz.prog.funcs[i_interp_cursor_chunk]? = some Tryz.f241 := Tryz.func241
abbrev i_wire_GetFix64 : FuncId := 242
theorem F_wire_GetFix64 : Tryz.prog.funcs[i_wire_GetFix64]? = some Tryz.f242 := Tryz.func242
abbrev i_strings_Split : FuncId := 243
theorem F_strings_Split : Tryz.prog.funcs[i_strings_Split]? = some Tryz.f243 := Tryz.func243
abbrev i_lex_IsName : FuncId := 244
theorem F_lex_IsName : Tryz.prog.funcs[i_lex_IsName]? = some Tryz.f244 := Tryz.func244
abbrev i_table_named_add : FuncId := 246
theorem F_table_named_add : Tryz.prog.funcs[i_table_named_add]? = some Tryz.f246 := Tryz.func246
abbrev i_table_reserved : FuncId := 247
theorem F_table_reserved : Tryz.prog.funcs[i_table_reserved]? = some Tryz.f247 := Tryz.func247
abbrev i_table_goodField : FuncId := 248
theorem F_table_goodField : Tryz.prog.funcs[i_table_goodField]? = some Tryz.f248 := Tryz.func248
abbrev i_slices_overlaps_api_Field : FuncId := 249
theorem F_slices_overlaps_api_Field : Tryz.prog.funcs[i_slices_overlaps_api_Field]? = some Tryz.f249 := Tryz.func249
abbrev i_slices_rotateRight_api_Field : FuncId := 250
theorem F_slices_rotateRight_api_Field : Tryz.prog.funcs[i_slices_rotateRight_api_Field]? = some Tryz.f250 := Tryz.func250
abbrev i_wire_isKind : FuncId := 251
theorem F_wire_isKind : Tryz.prog.funcs[i_wire_isKind]? = some Tryz.f251 := Tryz.func251
abbrev i_wire_Span : FuncId := 252
theorem F_wire_Span : Tryz.prog.funcs[i_wire_Span]? = some Tryz.f252 := Tryz.func252
abbrev i_scalar_Fits : FuncId := 256
theorem F_scalar_Fits : Tryz.prog.funcs[i_scalar_Fits]? = some Tryz.f256 := Tryz.func256
abbrev i_table_SymbolAt : FuncId := 257
theorem F_table_SymbolAt : Tryz.prog.funcs[i_table_SymbolAt]? = some Tryz.f257 := Tryz.func257
abbrev i_quote_Valid : FuncId := 258
theorem F_quote_Valid : Tryz.prog.funcs[i_quote_Valid]? = some Tryz.f258 := Tryz.func258
abbrev i_scalar_IsKey : FuncId := 259
theorem F_scalar_IsKey : Tryz.prog.funcs[i_scalar_IsKey]? = some Tryz.f259 := Tryz.func259
abbrev i_bytes_Compare : FuncId := 260
theorem F_bytes_Compare : Tryz.prog.funcs[i_bytes_Compare]? = some Tryz.f260 := Tryz.func260
abbrev i_scalar_signed : FuncId := 261
theorem F_scalar_signed : Tryz.prog.funcs[i_scalar_signed]? = some Tryz.f261 := Tryz.func261
abbrev i_cmp_Compare_int64 : FuncId := 262
theorem F_cmp_Compare_int64 : Tryz.prog.funcs[i_cmp_Compare_int64]? = some Tryz.f262 := Tryz.func262
abbrev i_cmp_Compare_uint64 : FuncId := 263
theorem F_cmp_Compare_uint64 : Tryz.prog.funcs[i_cmp_Compare_uint64]? = some Tryz.f263 := Tryz.func263
abbrev i_scalar_Numeric : FuncId := 264
theorem F_scalar_Numeric : Tryz.prog.funcs[i_scalar_Numeric]? = some Tryz.f264 := Tryz.func264
abbrev i_slices_overlaps_api_Val : FuncId := 265
theorem F_slices_overlaps_api_Val : Tryz.prog.funcs[i_slices_overlaps_api_Val]? = some Tryz.f265 := Tryz.func265
abbrev i_slices_rotateRight_api_Val : FuncId := 266
theorem F_slices_rotateRight_api_Val : Tryz.prog.funcs[i_slices_rotateRight_api_Val]? = some Tryz.f266 := Tryz.func266
abbrev i_scalar_may : FuncId := 269
theorem F_scalar_may : Tryz.prog.funcs[i_scalar_may]? = some Tryz.f269 := Tryz.func269
abbrev i_wire_PutFix64 : FuncId := 270
theorem F_wire_PutFix64 : Tryz.prog.funcs[i_wire_PutFix64]? = some Tryz.f270 := Tryz.func270
abbrev i_wire_ZigZag : FuncId := 271
theorem F_wire_ZigZag : Tryz.prog.funcs[i_wire_ZigZag]? = some Tryz.f271 := Tryz.func271
abbrev i_interp_cursor_message : FuncId := 272
theorem F_interp_cursor_message : Tryz.prog.funcs[i_interp_cursor_message]? = some Tryz.f272 := Tryz.func272
abbrev i_scalar_Get : FuncId := 273
theorem F_scalar_Get : Tryz.prog.funcs[i_scalar_Get]? = some Tryz.f273 := Tryz.func273
abbrev i_interp_Default : FuncId := 274
theorem F_interp_Default : Tryz.prog.funcs[i_interp_Default]? = some Tryz.f274 := Tryz.func274
abbrev i_strings_genSplit : FuncId := 275
theorem F_strings_genSplit : Tryz.prog.funcs[i_strings_genSplit]? = some Tryz.f275 := Tryz.func275
abbrev i_lex_letter : FuncId := 276
theorem F_lex_letter : Tryz.prog.funcs[i_lex_letter]? = some Tryz.f276 := Tryz.func276
abbrev i_lex_named : FuncId := 277
theorem F_lex_named : Tryz.prog.funcs[i_lex_named]? = some Tryz.f277 := Tryz.func277
abbrev i_slices_rotateLeft_api_Field : FuncId := 281
theorem F_slices_rotateLeft_api_Field : Tryz.prog.funcs[i_slices_rotateLeft_api_Field]? = some Tryz.f281 := Tryz.func281
abbrev i_scalar_known : FuncId := 296
theorem F_scalar_known : Tryz.prog.funcs[i_scalar_known]? = some Tryz.f296 := Tryz.func296
abbrev i_scalar_holds : FuncId := 297
theorem F_scalar_holds : Tryz.prog.funcs[i_scalar_holds]? = some Tryz.f297 := Tryz.func297
abbrev i_utf8_Valid : FuncId := 298
theorem F_utf8_Valid : Tryz.prog.funcs[i_utf8_Valid]? = some Tryz.f298 := Tryz.func298
abbrev i_bytealg_Compare : FuncId := 299
theorem F_bytealg_Compare : Tryz.prog.funcs[i_bytealg_Compare]? = some Tryz.f299 := Tryz.func299
abbrev i_cmp_isNaN_int64 : FuncId := 300
theorem F_cmp_isNaN_int64 : Tryz.prog.funcs[i_cmp_isNaN_int64]? = some Tryz.f300 := Tryz.func300
abbrev i_cmp_isNaN_uint64 : FuncId := 301
theorem F_cmp_isNaN_uint64 : Tryz.prog.funcs[i_cmp_isNaN_uint64]? = some Tryz.f301 := Tryz.func301
abbrev i_slices_rotateLeft_api_Val : FuncId := 302
theorem F_slices_rotateLeft_api_Val : Tryz.prog.funcs[i_slices_rotateLeft_api_Val]? = some Tryz.f302 := Tryz.func302
abbrev i_wire_ZagZig : FuncId := 303
theorem F_wire_ZagZig : Tryz.prog.funcs[i_wire_ZagZig]? = some Tryz.f303 := Tryz.func303
abbrev i_lex_digit : FuncId := 307
theorem F_lex_digit : Tryz.prog.funcs[i_lex_digit]? = some Tryz.f307 := Tryz.func307
abbrev i_slices_Reverse_api_Field_api_Field : FuncId := 310
theorem F_slices_Reverse_api_Field_api_Field : Tryz.prog.funcs[i_slices_Reverse_api_Field_api_Field]? = some Tryz.f310 := Tryz.func310
abbrev i_utf8_word_byte : FuncId := 326
theorem F_utf8_word_byte : Tryz.prog.funcs[i_utf8_word_byte]? = some Tryz.f326 := Tryz.func326
abbrev i_slices_Reverse_api_Val_api_Val : FuncId := 327
theorem F_slices_Reverse_api_Val_api_Val : Tryz.prog.funcs[i_slices_Reverse_api_Val_api_Val]? = some Tryz.f327 := Tryz.func327

abbrev i_strings_Join : FuncId := 245
abbrev i_strings_explode : FuncId := 304
abbrev i_strings_Count : FuncId := 305
abbrev i_strings_Index : FuncId := 306
/-! cartouche/interp.read -/
def AD_interp_read : ADef := (.step (.region [⟨some 3, none, .box 0 (.t 0)⟩,
      ⟨some 6, none, .alloc 0 [.nil, .nil]⟩,
      ⟨some 7, none, .alloc 0 [.int .i64 0]⟩,
      ⟨some 8, none, .alloc 0 [.int .i64 0]⟩,
      ⟨some 9, none, .alloc 0 [.int .i64 0]⟩])
    (.step (.seq (.region [⟨some 11, none, .load 1 true (.t 3)⟩,
      ⟨some 12, none, .mov (.t 1)⟩,
      ⟨some 13, none, .call i_table_IsMessage [.t 11, .t 12]⟩,
      ⟨some 14, none, .un .not (.t 13)⟩])
    (.cond (.t 14) (.seq (.region [⟨some 15, none, .build [.nil, .nil] []⟩,
      ⟨none, none, .store 2 (.t 6) (.t 15)⟩,
      ⟨none, none, .store 1 (.t 7) (.c (.int .i64 0))⟩,
      ⟨none, none, .store 1 (.t 8) (.c (.int .i64 0))⟩,
      ⟨none, none, .store 1 (.t 9) (.c (.int .i64 18))⟩])
    .ret)
    .skip))
    (.step (.seq (.region [⟨some 16, none, .mov (.t 2)⟩,
      ⟨some 17, none, .len false (.t 16)⟩,
      ⟨some 18, none, .bin false .gtr (.t 17) (.c (.int .i64 65536))⟩])
    (.cond (.t 18) (.seq (.region [⟨some 19, none, .build [.nil, .nil] []⟩,
      ⟨none, none, .store 2 (.t 6) (.t 19)⟩,
      ⟨none, none, .store 1 (.t 7) (.c (.int .i64 0))⟩,
      ⟨none, none, .store 1 (.t 8) (.c (.int .i64 0))⟩,
      ⟨none, none, .store 1 (.t 9) (.c (.int .i64 1))⟩])
    .ret)
    .skip))
    (.dfr [⟨some 20, none, .mkfn (.func 142) [] [.t 6, .t 7, .t 8, .t 9]⟩] (.t 20)
    (.seq (.region [⟨some 21, none, .mov (.t 2)⟩,
      ⟨some 22, none, .build [.nil, .int .i64 0] [(0, 1, .t 21)]⟩,
      ⟨some 23, none, .box 0 (.t 22)⟩,
      ⟨some 10, none, .mov (.t 23)⟩])
    (.seq (.block 0 (.loop (.seq (.seq (.region [⟨some 24, none, .mov (.t 10)⟩,
      ⟨some 25, none, .call i_interp_cursor_done [.t 24]⟩,
      ⟨some 26, none, .un .not (.t 25)⟩])
    (.cond (.t 26) .skip
    (.exit 0)))
    (.block 1 (.seq (.region [⟨some 27, none, .mov (.t 10)⟩,
      ⟨some 28, none, .load 1 true (.t 3)⟩,
      ⟨some 29, none, .mov (.t 1)⟩,
      ⟨some 30, none, .call i_interp_cursor_entry [.t 27, .t 28, .t 29, .c (.int .i64 1), .t 6]⟩])
    (.cond (.t 30) (.region [⟨some 31, none, .load 1 false (.t 7)⟩,
      ⟨some 32, none, .bin false .add (.t 31) (.c (.int .i64 1))⟩,
      ⟨none, none, .store 1 (.t 7) (.t 32)⟩])
    (.region [⟨some 33, none, .load 1 false (.t 8)⟩,
      ⟨some 34, none, .bin false .add (.t 33) (.c (.int .i64 1))⟩,
      ⟨none, none, .store 1 (.t 8) (.t 34)⟩])))))))
    (.seq (.draw [0, 1, 4, 5, 6, 7, 1000002, 1000003, 2000006, 2000007] [⟨some 35, none, .load 2 true (.t 6)⟩,
      ⟨some 36, none, .call i_model_Copy [.t 35]⟩,
      ⟨some 37, none, .load 1 false (.t 7)⟩,
      ⟨some 38, none, .load 1 false (.t 8)⟩,
      ⟨none, none, .store 2 (.t 6) (.t 36)⟩,
      ⟨none, none, .store 1 (.t 7) (.t 37)⟩,
      ⟨none, none, .store 1 (.t 8) (.t 38)⟩,
      ⟨none, none, .store 1 (.t 9) (.c (.int .i64 0))⟩])
    .ret)))))))
def RS_interp_read : List ARes := [.cell 6 2 true, .cell 7 1 false, .cell 8 1 false, .cell 9 1 false]
theorem TD_interp_read : trFnD Tryz.prog [(0, [1, 1, 1, 1, 1]), (6, [0, 0, 1, 0]), (1000011, [0, 1, 4, 5, 6, 7, 1000002, 1000003, 2000006, 2000007])] Tryz.f88 = some (AD_interp_read, RS_interp_read) := by kernel_rfl
theorem LD_interp_read : 3 ≤ Tryz.f88.ntmps := by decide

/-! cartouche/interp.read.1 -/
def AR_interp_read_1 : ACode := (.seq (.region [⟨some 9, none, .mov (.t 4)⟩,
      ⟨some 10, none, .tas 41 (.int .i64 0) (.t 9)⟩,
      ⟨some 8, none, .mov (.t 10)⟩,
      ⟨some 11, none, .ext 0 (.t 8)⟩,
      ⟨some 12, none, .ext 1 (.t 8)⟩,
      ⟨some 5, none, .mov (.t 11)⟩,
      ⟨some 6, none, .mov (.t 12)⟩])
    (.seq (.region [⟨some 13, none, .mov (.t 6)⟩])
    (.cond (.t 13) (.region [⟨some 14, none, .build [.nil, .nil] []⟩,
      ⟨some 15, none, .mov (.t 5)⟩,
      ⟨none, none, .store 2 (.t 0) (.t 14)⟩,
      ⟨none, none, .store 1 (.t 1) (.c (.int .i64 0))⟩,
      ⟨none, none, .store 1 (.t 2) (.c (.int .i64 0))⟩,
      ⟨none, none, .store 1 (.t 3) (.t 15)⟩])
    (.seq (.region [⟨some 16, none, .mov (.t 4)⟩,
      ⟨some 17, none, .eqnil true (.t 16)⟩])
    (.cond (.t 17) (.region [⟨some 18, none, .mov (.t 4)⟩,
      ⟨none, none, .panicA (.t 18)⟩])
    .skip)))))
theorem TR_interp_read_1 : trRec Tryz.prog [] Tryz.f142 = some (7, 4, AR_interp_read_1) := by kernel_rfl
theorem LR_interp_read_1 : 4 ≤ Tryz.f142.ntmps := by decide

/-! cartouche/cartouchelaw9.InterpKnown -/
def A_cartouchelaw9_InterpKnown : AFn := ⟨(.seq (.region [⟨some 0, none, .mov (.c (.bool false))⟩])
    (.seq (.region [⟨some 11, none, .call i_cartouchelaw7_Simple []⟩,
      ⟨some 1, none, .alloc 0 [.nil]⟩,
      ⟨none, none, .store 1 (.t 1) (.t 11)⟩])
    (.seq (.seq (.region [⟨some 12, none, .call i_cartouchelaw9_awake []⟩,
      ⟨some 13, none, .un .not (.t 12)⟩,
      ⟨some 14, none, .mov (.t 13)⟩,
      ⟨some 15, some (14, false), .blit 0 3 1 [.c (.int .i64 0)]⟩,
      ⟨some 16, some (14, false), .call i_cartouchelaw9_n [.c (.int .i64 1), .t 15]⟩,
      ⟨some 17, some (14, false), .blit 0 29 3 [.t 16]⟩,
      ⟨some 18, some (14, false), .call i_cartouchelaw9_msg [.t 17]⟩,
      ⟨some 19, some (14, false), .blit 0 5 1 [.c (.int .u8 8), .c (.int .u8 0)]⟩,
      ⟨some 20, some (14, false), .call i_cartouchelaw9_reads [.t 18, .t 19]⟩,
      ⟨some 21, some (14, false), .un .not (.t 20)⟩,
      ⟨some 22, none, .pickb (.t 14) (.c (.bool true)) (.t 21)⟩,
      ⟨some 23, none, .mov (.t 22)⟩,
      ⟨some 24, some (23, false), .blit 0 3 1 [.c (.int .i64 1), .c (.int .i64 2), .c (.int .i64 3)]⟩,
      ⟨some 25, some (23, false), .call i_cartouchelaw9_n [.c (.int .i64 2), .t 24]⟩,
      ⟨some 26, some (23, false), .blit 0 29 3 [.t 25]⟩,
      ⟨some 27, some (23, false), .call i_cartouchelaw9_msg [.t 26]⟩,
      ⟨some 28, some (23, false), .blit 0 5 1 [.c (.int .u8 18), .c (.int .u8 2), .c (.int .u8 1), .c (.int .u8 2), .c (.int .u8 16), .c (.int .u8 3)]⟩,
      ⟨some 29, some (23, false), .call i_cartouchelaw9_reads [.t 27, .t 28]⟩,
      ⟨some 30, some (23, false), .un .not (.t 29)⟩,
      ⟨some 31, none, .pickb (.t 23) (.c (.bool true)) (.t 30)⟩,
      ⟨some 32, none, .mov (.t 31)⟩,
      ⟨some 33, some (32, false), .call i_cartouchelaw9_n [.c (.int .i64 2), .c (.nil)]⟩,
      ⟨some 34, some (32, false), .blit 0 29 3 [.t 33]⟩,
      ⟨some 35, some (32, false), .call i_cartouchelaw9_msg [.t 34]⟩,
      ⟨some 36, some (32, false), .blit 0 5 1 [.c (.int .u8 18), .c (.int .u8 0)]⟩,
      ⟨some 37, some (32, false), .call i_cartouchelaw9_reads [.t 35, .t 36]⟩,
      ⟨some 38, some (32, false), .un .not (.t 37)⟩,
      ⟨some 39, none, .pickb (.t 32) (.c (.bool true)) (.t 38)⟩,
      ⟨some 40, none, .mov (.t 39)⟩,
      ⟨some 41, some (40, false), .blit 0 3 1 [.c (.int .i64 1)]⟩,
      ⟨some 42, some (40, false), .call i_cartouchelaw9_n [.c (.int .i64 1), .t 41]⟩,
      ⟨some 43, some (40, false), .call i_cartouchelaw9_n [.c (.int .i64 2), .c (.nil)]⟩,
      ⟨some 44, some (40, false), .blit 0 29 3 [.t 42, .t 43]⟩,
      ⟨some 45, some (40, false), .call i_cartouchelaw9_msg [.t 44]⟩,
      ⟨some 46, some (40, false), .call i_cartouchelaw9_in [.c (.int .i64 3), .t 45]⟩,
      ⟨some 47, some (40, false), .blit 0 29 3 [.t 46]⟩,
      ⟨some 48, some (40, false), .call i_cartouchelaw9_msg [.t 47]⟩,
      ⟨some 49, some (40, false), .blit 0 5 1 [.c (.int .u8 26), .c (.int .u8 2), .c (.int .u8 8), .c (.int .u8 1), .c (.int .u8 26), .c (.int .u8 2), .c (.int .u8 18), .c (.int .u8 0)]⟩,
      ⟨some 50, some (40, false), .call i_cartouchelaw9_reads [.t 48, .t 49]⟩,
      ⟨some 51, some (40, false), .un .not (.t 50)⟩,
      ⟨some 52, none, .pickb (.t 40) (.c (.bool true)) (.t 51)⟩,
      ⟨some 53, none, .mov (.t 52)⟩,
      ⟨some 54, some (53, false), .build [.int .i64 0, .int .i64 0, .int .u64 0, .nil] [(0, 1, .c (.int .i64 3)), (2, 1, .c (.int .u64 7))]⟩,
      ⟨some 55, some (53, false), .blit 0 40 4 [.t 54]⟩,
      ⟨some 56, some (53, false), .build [.nil, .nil] [(1, 1, .t 55)]⟩,
      ⟨some 57, some (53, false), .blit 0 5 1 [.c (.int .u8 24), .c (.int .u8 7)]⟩,
      ⟨some 58, some (53, false), .call i_cartouchelaw9_reads [.t 56, .t 57]⟩,
      ⟨some 59, some (53, false), .un .not (.t 58)⟩,
      ⟨some 60, none, .pickb (.t 53) (.c (.bool true)) (.t 59)⟩])
    (.cond (.t 60) (.seq (.region [⟨some 0, none, .mov (.c (.bool false))⟩])
    .ret)
    .skip))
    (.seq (.seq (.region [⟨some 61, none, .blit 0 5 1 [.c (.int .u8 8)]⟩,
      ⟨some 62, none, .call i_cartouchelaw9_fails [.c (.int .i64 3), .t 61]⟩,
      ⟨some 63, none, .un .not (.t 62)⟩,
      ⟨some 64, none, .mov (.t 63)⟩,
      ⟨some 65, some (64, false), .blit 0 5 1 [.c (.int .u8 11)]⟩,
      ⟨some 66, some (64, false), .call i_cartouchelaw9_fails [.c (.int .i64 6), .t 65]⟩,
      ⟨some 67, some (64, false), .un .not (.t 66)⟩,
      ⟨some 68, none, .pickb (.t 64) (.c (.bool true)) (.t 67)⟩,
      ⟨some 69, none, .mov (.t 68)⟩,
      ⟨some 70, some (69, false), .blit 0 5 1 [.c (.int .u8 18), .c (.int .u8 1), .c (.int .u8 128)]⟩,
      ⟨some 71, some (69, false), .call i_cartouchelaw9_fails [.c (.int .i64 3), .t 70]⟩,
      ⟨some 72, some (69, false), .un .not (.t 71)⟩,
      ⟨some 73, none, .pickb (.t 69) (.c (.bool true)) (.t 72)⟩,
      ⟨some 74, none, .mov (.t 73)⟩,
      ⟨some 75, some (74, false), .blit 0 5 1 [.c (.int .u8 26), .c (.int .u8 1), .c (.int .u8 8)]⟩,
      ⟨some 76, some (74, false), .call i_cartouchelaw9_fails [.c (.int .i64 3), .t 75]⟩,
      ⟨some 77, some (74, false), .un .not (.t 76)⟩,
      ⟨some 78, none, .pickb (.t 74) (.c (.bool true)) (.t 77)⟩])
    (.cond (.t 78) (.seq (.region [⟨some 0, none, .mov (.c (.bool false))⟩])
    .ret)
    .skip))
    (.seq (.draw [1, 2, 4, 5, 6, 7, 1000000, 2000007] [⟨some 80, none, .load 1 true (.t 1)⟩,
      ⟨some 81, none, .blit 0 3 1 [.c (.int .i64 0)]⟩,
      ⟨some 82, none, .call i_cartouchelaw9_n [.c (.int .i64 1), .t 81]⟩,
      ⟨some 83, none, .bslice 1 [.c (.int .i64 1), .c (.int .i64 300)]⟩,
      ⟨some 84, none, .call i_cartouchelaw9_n [.c (.int .i64 2), .t 83]⟩,
      ⟨some 85, none, .blit 0 29 3 [.t 82, .t 84]⟩,
      ⟨some 86, none, .call i_cartouchelaw9_msg [.t 85]⟩,
      ⟨some 87, none, .call i_interp_Encode [.t 80, .c (.int .i64 1), .t 86]⟩,
      ⟨some 79, none, .mov (.t 87)⟩,
      ⟨some 88, none, .ext 0 (.t 79)⟩,
      ⟨some 89, none, .ext 1 (.t 79)⟩,
      ⟨some 2, none, .mov (.t 88)⟩,
      ⟨some 3, none, .mov (.t 89)⟩])
    (.seq (.draw [1, 2, 3, 4, 5, 1000000, 2000005] [⟨some 91, none, .load 1 true (.t 1)⟩,
      ⟨some 92, none, .blit 0 3 1 [.c (.int .i64 (-1))]⟩,
      ⟨some 93, none, .call i_cartouchelaw9_n [.c (.int .i64 1), .t 92]⟩,
      ⟨some 94, none, .blit 0 29 3 [.t 93]⟩,
      ⟨some 95, none, .call i_cartouchelaw9_msg [.t 94]⟩,
      ⟨some 96, none, .call i_interp_Encode [.t 91, .c (.int .i64 1), .t 95]⟩,
      ⟨some 90, none, .mov (.t 96)⟩,
      ⟨some 97, none, .ext 0 (.t 90)⟩,
      ⟨some 98, none, .ext 1 (.t 90)⟩,
      ⟨some 4, none, .mov (.t 97)⟩,
      ⟨some 5, none, .mov (.t 98)⟩])
    (.seq (.draw [1, 2, 3, 4, 5, 1000000, 2000005] [⟨some 100, none, .load 1 true (.t 1)⟩,
      ⟨some 101, none, .blit 0 3 1 [.c (.int .i64 (-1))]⟩,
      ⟨some 102, none, .call i_cartouchelaw9_n [.c (.int .i64 1), .t 101]⟩,
      ⟨some 103, none, .blit 0 29 3 [.t 102]⟩,
      ⟨some 104, none, .call i_cartouchelaw9_msg [.t 103]⟩,
      ⟨some 105, none, .call i_interp_Size [.t 100, .c (.int .i64 1), .t 104]⟩,
      ⟨some 99, none, .mov (.t 105)⟩,
      ⟨some 106, none, .ext 0 (.t 99)⟩,
      ⟨some 107, none, .ext 1 (.t 99)⟩,
      ⟨some 6, none, .mov (.t 106)⟩,
      ⟨some 7, none, .mov (.t 107)⟩])
    (.seq (.region [⟨some 109, none, .load 1 true (.t 1)⟩,
      ⟨some 110, none, .blit 0 5 1 [.c (.int .u8 8), .c (.int .u8 5), .c (.int .u8 24), .c (.int .u8 7)]⟩,
      ⟨some 111, none, .call i_interp_Entries [.t 109, .c (.int .i64 1), .t 110]⟩,
      ⟨some 108, none, .mov (.t 111)⟩,
      ⟨some 112, none, .ext 0 (.t 108)⟩,
      ⟨some 113, none, .ext 1 (.t 108)⟩,
      ⟨some 114, none, .ext 2 (.t 108)⟩,
      ⟨some 8, none, .mov (.t 112)⟩,
      ⟨some 9, none, .mov (.t 113)⟩,
      ⟨some 10, none, .mov (.t 114)⟩])
    (.seq (.region [⟨some 115, none, .mov (.t 3)⟩,
      ⟨some 116, none, .bin false .eql (.t 115) (.c (.int .i64 0))⟩,
      ⟨some 117, none, .mov (.t 116)⟩,
      ⟨some 118, some (117, true), .mov (.t 2)⟩,
      ⟨some 119, some (117, true), .b2s (.t 118)⟩,
      ⟨some 120, some (117, true), .bin false .eql (.t 119) (.c (.str ⟨#[18, 3, 1, 172, 2]⟩))⟩,
      ⟨some 121, none, .pickb (.t 117) (.t 120) (.c (.bool false))⟩,
      ⟨some 122, none, .mov (.t 121)⟩,
      ⟨some 123, some (122, true), .mov (.t 5)⟩,
      ⟨some 124, some (122, true), .bin false .eql (.t 123) (.c (.int .i64 0))⟩,
      ⟨some 125, none, .pickb (.t 122) (.t 124) (.c (.bool false))⟩,
      ⟨some 126, none, .mov (.t 125)⟩,
      ⟨some 127, some (126, true), .mov (.t 4)⟩,
      ⟨some 128, some (126, true), .len false (.t 127)⟩,
      ⟨some 129, some (126, true), .bin false .eql (.t 128) (.c (.int .i64 11))⟩,
      ⟨some 130, none, .pickb (.t 126) (.t 129) (.c (.bool false))⟩,
      ⟨some 131, none, .mov (.t 130)⟩,
      ⟨some 132, some (131, true), .mov (.t 7)⟩,
      ⟨some 133, some (131, true), .bin false .eql (.t 132) (.c (.int .i64 0))⟩,
      ⟨some 134, none, .pickb (.t 131) (.t 133) (.c (.bool false))⟩,
      ⟨some 135, none, .mov (.t 134)⟩,
      ⟨some 136, some (135, true), .mov (.t 6)⟩,
      ⟨some 137, some (135, true), .bin false .eql (.t 136) (.c (.int .i64 11))⟩,
      ⟨some 138, none, .pickb (.t 135) (.t 137) (.c (.bool false))⟩,
      ⟨some 139, none, .mov (.t 138)⟩,
      ⟨some 140, some (139, true), .mov (.t 10)⟩,
      ⟨some 141, some (139, true), .bin false .eql (.t 140) (.c (.int .i64 0))⟩,
      ⟨some 142, none, .pickb (.t 139) (.t 141) (.c (.bool false))⟩,
      ⟨some 143, none, .mov (.t 142)⟩,
      ⟨some 144, some (143, true), .mov (.t 8)⟩,
      ⟨some 145, some (143, true), .bin false .eql (.t 144) (.c (.int .i64 1))⟩,
      ⟨some 146, none, .pickb (.t 143) (.t 145) (.c (.bool false))⟩,
      ⟨some 147, none, .mov (.t 146)⟩,
      ⟨some 148, some (147, true), .mov (.t 9)⟩,
      ⟨some 149, some (147, true), .bin false .eql (.t 148) (.c (.int .i64 1))⟩,
      ⟨some 150, none, .pickb (.t 147) (.t 149) (.c (.bool false))⟩,
      ⟨some 0, none, .mov (.t 150)⟩])
    .ret))))))))), [.tmp 0]⟩
theorem T_cartouchelaw9_InterpKnown : trFn Tryz.prog [(1, [0, 1, 0]), (2, [0, 0, 0, 1, 0, 1, 0, 1, 0, 0, 0, 0, 1, 0, 1, 0, 1, 0, 0, 0, 0, 0, 1, 0, 1, 0, 0, 0, 0, 1, 0, 0, 1, 0, 0, 1, 0, 1, 0, 0, 0, 0, 0, 1, 0, 1, 0, 0, 0]), (4, [1, 0, 0, 0, 1, 0, 0, 0, 0, 1, 0, 0, 0, 0, 1, 0, 0, 0]), (6, [0, 1, 0, 0, 0, 1, 0, 0, 0, 0, 0, 0, 0]), (7, [0, 1, 0, 1, 0, 0, 0, 0, 0, 0, 0]), (8, [0, 1, 0, 1, 0, 0, 0, 0, 0, 0, 0]), (9, [0, 1, 0, 0, 0, 0, 0, 0, 0, 0]), (1000006, [1, 2, 4, 5, 6, 7, 1000000, 2000007]), (1000007, [1, 2, 3, 4, 5, 1000000, 2000005]), (1000008, [1, 2, 3, 4, 5, 1000000, 2000005])] Tryz.f5 = some A_cartouchelaw9_InterpKnown := by kernel_rfl
theorem L_cartouchelaw9_InterpKnown : 0 ≤ Tryz.f5.ntmps := by decide

/-! cartouche/cartouchelaw7.Simple -/
def A_cartouchelaw7_Simple : AFn := ⟨(.seq (.region [⟨some 0, none, .alloc 0 [.nil]⟩])
    (.seq (.region [⟨some 1, none, .build [.str ⟨#[]⟩, .int .i64 0] [(0, 1, .c (.str ⟨#[65]⟩))]⟩,
      ⟨some 2, none, .blit 0 107 2 [.t 1]⟩,
      ⟨some 3, none, .build [.str ⟨#[]⟩, .bool false, .nil, .nil, .nil, .nil] [(0, 1, .c (.str ⟨#[69]⟩)), (1, 1, .c (.bool true)), (4, 1, .t 2)]⟩,
      ⟨some 4, none, .build [.str ⟨#[]⟩, .int .i64 0, .int .i64 0, .int .i64 0, .int .i64 0, .int .i64 0, .int .i64 0] [(0, 1, .c (.str ⟨#[120]⟩)), (1, 1, .c (.int .i64 1)), (2, 1, .c (.int .i64 2))]⟩,
      ⟨some 5, none, .build [.str ⟨#[]⟩, .int .i64 0, .int .i64 0, .int .i64 0, .int .i64 0, .int .i64 0, .int .i64 0] [(0, 1, .c (.str ⟨#[108]⟩)), (1, 1, .c (.int .i64 2)), (2, 1, .c (.int .i64 4)), (4, 1, .c (.int .i64 3))]⟩,
      ⟨some 6, none, .build [.str ⟨#[]⟩, .int .i64 0, .int .i64 0, .int .i64 0, .int .i64 0, .int .i64 0, .int .i64 0] [(0, 1, .c (.str ⟨#[109]⟩)), (1, 1, .c (.int .i64 3)), (2, 1, .c (.int .i64 17)), (3, 1, .c (.int .i64 1)), (4, 1, .c (.int .i64 1))]⟩,
      ⟨some 7, none, .blit 0 114 7 [.t 4, .t 5, .t 6]⟩,
      ⟨some 8, none, .build [.str ⟨#[]⟩, .bool false, .nil, .nil, .nil, .nil] [(0, 1, .c (.str ⟨#[77]⟩)), (2, 1, .t 7)]⟩,
      ⟨some 9, none, .blit 0 112 6 [.t 3, .t 8]⟩,
      ⟨some 10, none, .build [.nil] [(0, 1, .t 9)]⟩,
      ⟨none, none, .store 1 (.t 0) (.t 10)⟩])
    .ret)), [.cell 0 1 true]⟩
theorem T_cartouchelaw7_Simple : trFn Tryz.prog [(0, [1]), (1, [0, 1, 0, 0, 0, 0, 1, 0, 1, 0, 0])] Tryz.f16 = some A_cartouchelaw7_Simple := by kernel_rfl
theorem L_cartouchelaw7_Simple : 0 ≤ Tryz.f16.ntmps := by decide

/-! cartouche/model.Depth -/
def A_model_Depth : AFn := ⟨(.seq (.region [⟨some 1, none, .box 0 (.t 0)⟩,
      ⟨some 2, none, .mov (.c (.int .i64 0))⟩])
    (.seq (.region [⟨some 3, none, .mov (.c (.int .i64 0))⟩])
    (.seq (.seq (.region [⟨some 12, none, .fldA 0 1 false (.t 1)⟩,
      ⟨some 13, none, .load 1 false (.t 12)⟩,
      ⟨some 14, none, .len false (.t 13)⟩,
      ⟨some 15, none, .mov (.c (.int .i64 0))⟩])
    (.block 0 (.loop (.seq (.region [⟨some 16, none, .bin false .lss (.t 15) (.t 14)⟩])
    (.seq (.cond (.t 16) .skip
    (.exit 0))
    (.seq (.block 1 (.seq (.region [⟨some 17, none, .idxA 3 (.t 13) (.t 15)⟩,
      ⟨some 18, none, .load 3 true (.t 17)⟩,
      ⟨some 5, none, .alloc 0 [.int .i64 0, .nil, .nil]⟩,
      ⟨none, none, .store 3 (.t 5) (.t 18)⟩])
    (.seq (.region [⟨some 19, none, .fldA 1 1 false (.t 5)⟩,
      ⟨some 20, none, .load 1 false (.t 19)⟩,
      ⟨some 21, none, .fldA 2 1 false (.t 5)⟩,
      ⟨some 22, none, .load 1 false (.t 21)⟩,
      ⟨some 23, none, .build [.nil, .nil] [(0, 1, .t 20), (1, 1, .t 22)]⟩,
      ⟨some 24, none, .mov (.c (.int .i64 0))⟩])
    (.block 2 (.loop (.seq (.region [⟨some 25, none, .bin false .lss (.t 24) (.c (.int .i64 2))⟩])
    (.seq (.cond (.t 25) .skip
    (.exit 2))
    (.seq (.block 3 (.seq (.region [⟨some 26, none, .arrV 2 1 false (.t 23) (.t 24)⟩,
      ⟨some 7, none, .mov (.t 26)⟩])
    (.seq (.region [⟨some 27, none, .mov (.t 7)⟩,
      ⟨some 28, none, .len false (.t 27)⟩,
      ⟨some 29, none, .mov (.c (.int .i64 0))⟩])
    (.block 4 (.loop (.seq (.region [⟨some 30, none, .bin false .lss (.t 29) (.t 28)⟩])
    (.seq (.cond (.t 30) .skip
    (.exit 4))
    (.seq (.block 5 (.seq (.region [⟨some 31, none, .idxA 3 (.t 27) (.t 29)⟩,
      ⟨some 32, none, .load 3 true (.t 31)⟩,
      ⟨some 9, none, .alloc 0 [.int .u64 0, .nil, .nil]⟩,
      ⟨none, none, .store 3 (.t 9) (.t 32)⟩])
    (.seq (.region [⟨some 33, none, .fldA 2 1 false (.t 9)⟩,
      ⟨some 34, none, .load 1 false (.t 33)⟩,
      ⟨some 35, none, .len false (.t 34)⟩,
      ⟨some 36, none, .mov (.c (.int .i64 0))⟩])
    (.block 6 (.loop (.seq (.region [⟨some 37, none, .bin false .lss (.t 36) (.t 35)⟩])
    (.seq (.cond (.t 37) .skip
    (.exit 6))
    (.seq (.block 7 (.seq (.region [⟨some 38, none, .idxA 2 (.t 34) (.t 36)⟩,
      ⟨some 39, none, .load 2 true (.t 38)⟩,
      ⟨some 11, none, .alloc 0 [.nil, .nil]⟩,
      ⟨none, none, .store 2 (.t 11) (.t 39)⟩])
    (.region [⟨some 40, none, .mov (.t 3)⟩,
      ⟨some 41, none, .load 2 true (.t 11)⟩,
      ⟨some 42, none, .call i_model_Depth [.t 41]⟩,
      ⟨some 43, none, .mm true (.t 40) (.t 42)⟩,
      ⟨some 3, none, .mov (.t 43)⟩])))
    (.region [⟨some 44, none, .bin false .add (.t 36) (.c (.int .i64 1))⟩,
      ⟨some 36, none, .mov (.t 44)⟩])))))))))
    (.region [⟨some 45, none, .bin false .add (.t 29) (.c (.int .i64 1))⟩,
      ⟨some 29, none, .mov (.t 45)⟩])))))))))
    (.region [⟨some 46, none, .bin false .add (.t 24) (.c (.int .i64 1))⟩,
      ⟨some 24, none, .mov (.t 46)⟩])))))))))
    (.region [⟨some 47, none, .bin false .add (.t 15) (.c (.int .i64 1))⟩,
      ⟨some 15, none, .mov (.t 47)⟩])))))))
    (.seq (.region [⟨some 48, none, .mov (.t 3)⟩,
      ⟨some 49, none, .bin false .add (.t 48) (.c (.int .i64 1))⟩,
      ⟨some 2, none, .mov (.t 49)⟩])
    .ret)))), [.tmp 2]⟩
theorem T_model_Depth : trFn Tryz.prog [(0, [1, 0]), (4, [0, 0, 1, 0]), (10, [0, 0, 1, 0]), (13, [0, 0, 1, 0])] Tryz.f17 = some A_model_Depth := by kernel_rfl
theorem L_model_Depth : 1 ≤ Tryz.f17.ntmps := by decide

/-! cartouche/cartoucheref8.Empty -/
def A_cartoucheref8_Empty : AFn := ⟨(.seq (.region [⟨some 1, none, .box 0 (.t 0)⟩,
      ⟨some 2, none, .mov (.c (.bool false))⟩])
    (.seq (.region [⟨some 3, none, .fldA 0 1 false (.t 1)⟩,
      ⟨some 4, none, .load 1 false (.t 3)⟩,
      ⟨some 5, none, .len false (.t 4)⟩,
      ⟨some 6, none, .bin false .eql (.t 5) (.c (.int .i64 0))⟩,
      ⟨some 7, none, .mov (.t 6)⟩,
      ⟨some 8, some (7, true), .fldA 1 1 false (.t 1)⟩,
      ⟨some 9, some (7, true), .load 1 false (.t 8)⟩,
      ⟨some 10, some (7, true), .len false (.t 9)⟩,
      ⟨some 11, some (7, true), .bin false .eql (.t 10) (.c (.int .i64 0))⟩,
      ⟨some 12, none, .pickb (.t 7) (.t 11) (.c (.bool false))⟩,
      ⟨some 2, none, .mov (.t 12)⟩])
    .ret)), [.tmp 2]⟩
theorem T_cartoucheref8_Empty : trFn Tryz.prog [(0, [1, 0])] Tryz.f18 = some A_cartoucheref8_Empty := by kernel_rfl
theorem L_cartoucheref8_Empty : 1 ≤ Tryz.f18.ntmps := by decide

/-! cartouche/cartoucheref8.SameField -/
def A_cartoucheref8_SameField : AFn := ⟨(.seq (.region [⟨some 2, none, .box 0 (.t 0)⟩,
      ⟨some 3, none, .box 0 (.t 1)⟩,
      ⟨some 4, none, .mov (.c (.bool false))⟩])
    (.seq (.region [⟨some 5, none, .fldA 0 1 false (.t 2)⟩,
      ⟨some 6, none, .load 1 false (.t 5)⟩,
      ⟨some 7, none, .fldA 0 1 false (.t 3)⟩,
      ⟨some 8, none, .load 1 false (.t 7)⟩,
      ⟨some 9, none, .bin false .eql (.t 6) (.t 8)⟩,
      ⟨some 10, none, .mov (.t 9)⟩,
      ⟨some 11, some (10, true), .fldA 1 1 false (.t 2)⟩,
      ⟨some 12, some (10, true), .load 1 false (.t 11)⟩,
      ⟨some 13, some (10, true), .fldA 1 1 false (.t 3)⟩,
      ⟨some 14, some (10, true), .load 1 false (.t 13)⟩,
      ⟨some 15, some (10, true), .call i_cartoucheref8_vals [.t 12, .t 14]⟩,
      ⟨some 16, none, .pickb (.t 10) (.t 15) (.c (.bool false))⟩,
      ⟨some 17, none, .mov (.t 16)⟩,
      ⟨some 18, some (17, true), .fldA 2 1 false (.t 2)⟩,
      ⟨some 19, some (17, true), .load 1 false (.t 18)⟩,
      ⟨some 20, some (17, true), .fldA 2 1 false (.t 3)⟩,
      ⟨some 21, some (17, true), .load 1 false (.t 20)⟩,
      ⟨some 22, some (17, true), .call i_cartoucheref8_vals [.t 19, .t 21]⟩,
      ⟨some 23, none, .pickb (.t 17) (.t 22) (.c (.bool false))⟩,
      ⟨some 4, none, .mov (.t 23)⟩])
    .ret)), [.tmp 4]⟩
theorem T_cartoucheref8_SameField : trFn Tryz.prog [(0, [1, 1, 0])] Tryz.f26 = some A_cartoucheref8_SameField := by kernel_rfl
theorem L_cartoucheref8_SameField : 2 ≤ Tryz.f26.ntmps := by decide

/-! cartouche/cartouchelaw9.awake -/
def A_cartouchelaw9_awake : AFn := ⟨(.seq (.region [⟨some 0, none, .mov (.c (.bool false))⟩])
    (.seq (.region [⟨some 4, none, .call i_cartouchelaw7_Simple []⟩,
      ⟨some 5, none, .blit 0 3 1 [.c (.int .i64 5)]⟩,
      ⟨some 6, none, .call i_cartouchelaw9_n [.c (.int .i64 1), .t 5]⟩,
      ⟨some 7, none, .blit 0 29 3 [.t 6]⟩,
      ⟨some 8, none, .call i_cartouchelaw9_msg [.t 7]⟩,
      ⟨some 9, none, .call i_interp_Encode [.t 4, .c (.int .i64 1), .t 8]⟩,
      ⟨some 3, none, .mov (.t 9)⟩,
      ⟨some 10, none, .ext 0 (.t 3)⟩,
      ⟨some 11, none, .ext 1 (.t 3)⟩,
      ⟨some 1, none, .mov (.t 10)⟩,
      ⟨some 2, none, .mov (.t 11)⟩])
    (.seq (.region [⟨some 12, none, .blit 0 3 1 [.c (.int .i64 5)]⟩,
      ⟨some 13, none, .call i_cartouchelaw9_n [.c (.int .i64 1), .t 12]⟩,
      ⟨some 14, none, .blit 0 29 3 [.t 13]⟩,
      ⟨some 15, none, .call i_cartouchelaw9_msg [.t 14]⟩,
      ⟨some 16, none, .blit 0 5 1 [.c (.int .u8 8), .c (.int .u8 5)]⟩,
      ⟨some 17, none, .call i_cartouchelaw9_reads [.t 15, .t 16]⟩,
      ⟨some 18, none, .mov (.t 17)⟩,
      ⟨some 19, some (18, true), .mov (.t 2)⟩,
      ⟨some 20, some (18, true), .bin false .eql (.t 19) (.c (.int .i64 0))⟩,
      ⟨some 21, none, .pickb (.t 18) (.t 20) (.c (.bool false))⟩,
      ⟨some 22, none, .mov (.t 21)⟩,
      ⟨some 23, some (22, true), .mov (.t 1)⟩,
      ⟨some 24, some (22, true), .b2s (.t 23)⟩,
      ⟨some 25, some (22, true), .bin false .eql (.t 24) (.c (.str ⟨#[8, 5]⟩))⟩,
      ⟨some 26, none, .pickb (.t 22) (.t 25) (.c (.bool false))⟩,
      ⟨some 0, none, .mov (.t 26)⟩])
    .ret))), [.tmp 0]⟩
theorem T_cartouchelaw9_awake : trFn Tryz.prog [(1, [0, 1, 0, 1, 0, 0, 0, 0, 0, 0, 0]), (2, [1, 0, 1, 0, 1, 0, 0, 0, 0, 0, 0, 0, 0, 0, 0, 0])] Tryz.f31 = some A_cartouchelaw9_awake := by kernel_rfl
theorem L_cartouchelaw9_awake : 0 ≤ Tryz.f31.ntmps := by decide

/-! cartouche/cartouchelaw9.reads -/
def A_cartouchelaw9_reads : AFn := ⟨(.seq (.region [⟨some 2, none, .box 0 (.t 0)⟩,
      ⟨some 4, none, .mov (.c (.bool false))⟩])
    (.seq (.region [⟨some 8, none, .call i_cartouchelaw7_Simple []⟩,
      ⟨some 9, none, .mov (.t 1)⟩,
      ⟨some 10, none, .call i_interp_Decode [.t 8, .c (.int .i64 1), .t 9]⟩,
      ⟨some 7, none, .mov (.t 10)⟩,
      ⟨some 11, none, .ext 0 (.t 7)⟩,
      ⟨some 12, none, .ext 1 (.t 7)⟩,
      ⟨some 5, none, .alloc 0 [.nil, .nil]⟩,
      ⟨none, none, .store 2 (.t 5) (.t 11)⟩,
      ⟨some 6, none, .mov (.t 12)⟩])
    (.seq (.region [⟨some 13, none, .mov (.t 6)⟩,
      ⟨some 14, none, .bin false .eql (.t 13) (.c (.int .i64 0))⟩,
      ⟨some 15, none, .mov (.t 14)⟩,
      ⟨some 16, some (15, true), .load 2 true (.t 5)⟩,
      ⟨some 17, some (15, true), .load 2 true (.t 2)⟩,
      ⟨some 18, some (15, true), .call i_cartoucheref8_Equal [.t 16, .t 17]⟩,
      ⟨some 19, none, .pickb (.t 15) (.t 18) (.c (.bool false))⟩,
      ⟨some 4, none, .mov (.t 19)⟩])
    .ret))), [.tmp 4]⟩
theorem T_cartouchelaw9_reads : trFn Tryz.prog [(0, [1, 0]), (1, [0, 0, 0, 0, 0, 0, 1, 0, 0])] Tryz.f32 = some A_cartouchelaw9_reads := by kernel_rfl
theorem L_cartouchelaw9_reads : 2 ≤ Tryz.f32.ntmps := by decide

/-! cartouche/cartouchelaw9.msg -/
def A_cartouchelaw9_msg : AFn := ⟨(.seq (.region [⟨some 2, none, .alloc 0 [.nil, .nil]⟩])
    (.seq (.region [⟨some 3, none, .mov (.t 0)⟩,
      ⟨some 4, none, .build [.nil, .nil] [(0, 1, .t 3)]⟩,
      ⟨none, none, .store 2 (.t 2) (.t 4)⟩])
    .ret)), [.cell 2 2 true]⟩
theorem T_cartouchelaw9_msg : trFn Tryz.prog [(0, [1])] Tryz.f33 = some A_cartouchelaw9_msg := by kernel_rfl
theorem L_cartouchelaw9_msg : 1 ≤ Tryz.f33.ntmps := by decide

/-! cartouche/cartouchelaw9.n -/
def A_cartouchelaw9_n : AFn := ⟨(.seq (.region [⟨some 4, none, .alloc 0 [.int .i64 0, .nil, .nil]⟩])
    (.seq (.region [⟨some 7, none, .mov (.t 0)⟩,
      ⟨some 8, none, .build [.int .i64 0, .nil, .nil] [(0, 1, .t 7)]⟩,
      ⟨some 5, none, .alloc 0 [.int .i64 0, .nil, .nil]⟩,
      ⟨none, none, .store 3 (.t 5) (.t 8)⟩])
    (.seq (.seq (.region [⟨some 6, none, .mov (.c (.int .i64 0))⟩])
    (.block 0 (.loop (.seq (.seq (.region [⟨some 9, none, .mov (.t 6)⟩,
      ⟨some 10, none, .mov (.t 1)⟩,
      ⟨some 11, none, .len false (.t 10)⟩,
      ⟨some 12, none, .bin false .lss (.t 9) (.t 11)⟩])
    (.cond (.t 12) .skip
    (.exit 0)))
    (.seq (.block 1 (.draw [1, 9, 11, 1000004, 1000005, 1000007, 2000009, 2000011] [⟨some 15, none, .fldA 2 1 false (.t 5)⟩,
      ⟨some 16, none, .load 1 false (.t 15)⟩,
      ⟨some 17, none, .mov (.t 1)⟩,
      ⟨some 18, none, .mov (.t 6)⟩,
      ⟨some 19, none, .idxA 1 (.t 17) (.t 18)⟩,
      ⟨some 20, none, .load 1 false (.t 19)⟩,
      ⟨some 21, none, .conv .u64 (.t 20)⟩,
      ⟨some 22, none, .build [.int .u64 0, .nil, .nil] [(0, 1, .t 21)]⟩,
      ⟨some 23, none, .bslice 3 [.t 22]⟩,
      ⟨some 24, none, .app 0 26 3 56 (.t 16) (.t 23)⟩,
      ⟨some 25, none, .fldA 2 1 false (.t 5)⟩,
      ⟨none, none, .store 1 (.t 25) (.t 24)⟩]))
    (.region [⟨some 13, none, .mov (.t 6)⟩,
      ⟨some 14, none, .bin false .add (.t 13) (.c (.int .i64 1))⟩,
      ⟨some 6, none, .mov (.t 14)⟩]))))))
    (.seq (.region [⟨some 26, none, .load 3 true (.t 5)⟩,
      ⟨none, none, .store 3 (.t 4) (.t 26)⟩])
    .ret)))), [.cell 4 3 true]⟩
theorem T_cartouchelaw9_n : trFn Tryz.prog [(0, [1]), (1, [0, 0, 1, 0]), (1000005, [1, 9, 11, 1000004, 1000005, 1000007, 2000009, 2000011])] Tryz.f34 = some A_cartouchelaw9_n := by kernel_rfl
theorem L_cartouchelaw9_n : 2 ≤ Tryz.f34.ntmps := by decide

/-! cartouche/cartouchelaw9.in -/
def A_cartouchelaw9_in : AFn := ⟨(.seq (.region [⟨some 3, none, .box 0 (.t 1)⟩,
      ⟨some 4, none, .alloc 0 [.int .i64 0, .nil, .nil]⟩])
    (.seq (.region [⟨some 5, none, .mov (.t 0)⟩,
      ⟨some 6, none, .load 2 true (.t 3)⟩,
      ⟨some 7, none, .blit 0 35 2 [.t 6]⟩,
      ⟨some 8, none, .build [.int .u64 0, .nil, .nil] [(2, 1, .t 7)]⟩,
      ⟨some 9, none, .blit 0 26 3 [.t 8]⟩,
      ⟨some 10, none, .build [.int .i64 0, .nil, .nil] [(0, 1, .t 5), (2, 1, .t 9)]⟩,
      ⟨none, none, .store 3 (.t 4) (.t 10)⟩])
    .ret)), [.cell 4 3 true]⟩
theorem T_cartouchelaw9_in : trFn Tryz.prog [(0, [1, 1]), (1, [0, 0, 1, 0, 1, 0, 0])] Tryz.f35 = some A_cartouchelaw9_in := by kernel_rfl
theorem L_cartouchelaw9_in : 2 ≤ Tryz.f35.ntmps := by decide

/-! cartouche/cartouchelaw9.fails -/
def A_cartouchelaw9_fails : AFn := ⟨(.seq (.region [⟨some 4, none, .mov (.c (.bool false))⟩])
    (.seq (.region [⟨some 8, none, .call i_cartouchelaw7_Simple []⟩,
      ⟨some 9, none, .mov (.t 1)⟩,
      ⟨some 10, none, .call i_interp_Decode [.t 8, .c (.int .i64 1), .t 9]⟩,
      ⟨some 7, none, .mov (.t 10)⟩,
      ⟨some 11, none, .ext 0 (.t 7)⟩,
      ⟨some 12, none, .ext 1 (.t 7)⟩,
      ⟨some 5, none, .alloc 0 [.nil, .nil]⟩,
      ⟨none, none, .store 2 (.t 5) (.t 11)⟩,
      ⟨some 6, none, .mov (.t 12)⟩])
    (.seq (.region [⟨some 13, none, .mov (.t 6)⟩,
      ⟨some 14, none, .mov (.t 0)⟩,
      ⟨some 15, none, .bin false .eql (.t 13) (.t 14)⟩,
      ⟨some 16, none, .mov (.t 15)⟩,
      ⟨some 17, some (16, true), .load 2 true (.t 5)⟩,
      ⟨some 18, some (16, true), .call i_cartoucheref8_Empty [.t 17]⟩,
      ⟨some 19, none, .pickb (.t 16) (.t 18) (.c (.bool false))⟩,
      ⟨some 4, none, .mov (.t 19)⟩])
    .ret))), [.tmp 4]⟩
theorem T_cartouchelaw9_fails : trFn Tryz.prog [(1, [0, 0, 0, 0, 0, 0, 1, 0, 0])] Tryz.f36 = some A_cartouchelaw9_fails := by kernel_rfl
theorem L_cartouchelaw9_fails : 2 ≤ Tryz.f36.ntmps := by decide

/-! cartouche/interp.Encode -/
def A_interp_Encode : AFn := ⟨(.seq (.region [⟨some 3, none, .box 0 (.t 0)⟩,
      ⟨some 5, none, .box 0 (.t 2)⟩,
      ⟨some 6, none, .mov (.c (.nil))⟩,
      ⟨some 7, none, .mov (.c (.int .i64 0))⟩])
    (.seq (.region [⟨some 11, none, .load 1 true (.t 3)⟩,
      ⟨some 12, none, .mov (.t 1)⟩,
      ⟨some 13, none, .load 2 true (.t 5)⟩,
      ⟨some 14, none, .call i_interp_write [.t 11, .t 12, .t 13]⟩,
      ⟨some 10, none, .mov (.t 14)⟩,
      ⟨some 15, none, .ext 0 (.t 10)⟩,
      ⟨some 16, none, .ext 1 (.t 10)⟩,
      ⟨some 8, none, .mov (.t 15)⟩,
      ⟨some 9, none, .mov (.t 16)⟩])
    (.seq (.block 0 (.seq (.region [⟨some 18, none, .mov (.t 9)⟩,
      ⟨some 19, none, .bin false .neq (.t 18) (.c (.int .i64 0))⟩,
      ⟨some 17, none, .mov (.t 19)⟩])
    (.cond (.t 17) (.seq (.region [⟨some 20, none, .mov (.t 9)⟩,
      ⟨some 6, none, .mov (.c (.nil))⟩,
      ⟨some 7, none, .mov (.t 20)⟩])
    .ret)
    (.seq (.region [⟨some 22, none, .mov (.t 8)⟩,
      ⟨some 23, none, .len false (.t 22)⟩,
      ⟨some 24, none, .bin false .gtr (.t 23) (.c (.int .i64 65536))⟩,
      ⟨some 21, none, .mov (.t 24)⟩])
    (.cond (.t 21) (.seq (.region [⟨some 6, none, .mov (.c (.nil))⟩,
      ⟨some 7, none, .mov (.c (.int .i64 1))⟩])
    .ret)
    .skip)))))
    (.seq (.region [⟨some 25, none, .mov (.t 8)⟩,
      ⟨some 26, none, .len false (.t 25)⟩,
      ⟨some 27, none, .mks 0 5 1 1 (.int .u8 0) (.c (.int .i64 0)) (.t 26)⟩,
      ⟨some 28, none, .mov (.t 8)⟩,
      ⟨some 29, none, .app 0 5 1 1 (.t 27) (.t 28)⟩,
      ⟨some 6, none, .mov (.t 29)⟩,
      ⟨some 7, none, .mov (.c (.int .i64 0))⟩])
    .ret)))), [.tmp 6, .tmp 7]⟩
theorem T_interp_Encode : trFn Tryz.prog [(0, [1, 1, 0, 0])] Tryz.f37 = some A_interp_Encode := by kernel_rfl
theorem L_interp_Encode : 3 ≤ Tryz.f37.ntmps := by decide

/-! cartouche/interp.Size -/
def A_interp_Size : AFn := ⟨(.seq (.region [⟨some 3, none, .box 0 (.t 0)⟩,
      ⟨some 5, none, .box 0 (.t 2)⟩,
      ⟨some 6, none, .mov (.c (.int .i64 0))⟩,
      ⟨some 7, none, .mov (.c (.int .i64 0))⟩])
    (.seq (.region [⟨some 11, none, .load 1 true (.t 3)⟩,
      ⟨some 12, none, .mov (.t 1)⟩,
      ⟨some 13, none, .load 2 true (.t 5)⟩,
      ⟨some 14, none, .call i_interp_write [.t 11, .t 12, .t 13]⟩,
      ⟨some 10, none, .mov (.t 14)⟩,
      ⟨some 15, none, .ext 0 (.t 10)⟩,
      ⟨some 16, none, .ext 1 (.t 10)⟩,
      ⟨some 8, none, .mov (.t 15)⟩,
      ⟨some 9, none, .mov (.t 16)⟩])
    (.seq (.block 0 (.seq (.region [⟨some 18, none, .mov (.t 9)⟩,
      ⟨some 19, none, .bin false .neq (.t 18) (.c (.int .i64 0))⟩,
      ⟨some 17, none, .mov (.t 19)⟩])
    (.cond (.t 17) (.seq (.region [⟨some 20, none, .mov (.t 9)⟩,
      ⟨some 6, none, .mov (.c (.int .i64 0))⟩,
      ⟨some 7, none, .mov (.t 20)⟩])
    .ret)
    (.seq (.region [⟨some 22, none, .mov (.t 8)⟩,
      ⟨some 23, none, .len false (.t 22)⟩,
      ⟨some 24, none, .bin false .gtr (.t 23) (.c (.int .i64 16777216))⟩,
      ⟨some 21, none, .mov (.t 24)⟩])
    (.cond (.t 21) (.seq (.region [⟨some 6, none, .mov (.c (.int .i64 0))⟩,
      ⟨some 7, none, .mov (.c (.int .i64 1))⟩])
    .ret)
    .skip)))))
    (.seq (.region [⟨some 25, none, .mov (.t 8)⟩,
      ⟨some 26, none, .len false (.t 25)⟩,
      ⟨some 6, none, .mov (.t 26)⟩,
      ⟨some 7, none, .mov (.c (.int .i64 0))⟩])
    .ret)))), [.tmp 6, .tmp 7]⟩
theorem T_interp_Size : trFn Tryz.prog [(0, [1, 1, 0, 0])] Tryz.f38 = some A_interp_Size := by kernel_rfl
theorem L_interp_Size : 3 ≤ Tryz.f38.ntmps := by decide

/-! cartouche/interp.Entries -/
def A_interp_Entries : AFn := ⟨(.seq (.region [⟨some 3, none, .box 0 (.t 0)⟩,
      ⟨some 6, none, .mov (.c (.int .i64 0))⟩,
      ⟨some 7, none, .mov (.c (.int .i64 0))⟩,
      ⟨some 8, none, .mov (.c (.int .i64 0))⟩])
    (.seq (.region [⟨some 10, none, .load 1 true (.t 3)⟩,
      ⟨some 11, none, .mov (.t 1)⟩,
      ⟨some 12, none, .mov (.t 2)⟩,
      ⟨some 13, none, .call i_interp_read [.t 10, .t 11, .t 12]⟩,
      ⟨some 9, none, .mov (.t 13)⟩,
      ⟨some 14, none, .ext 0 (.t 9)⟩,
      ⟨some 15, none, .ext 1 (.t 9)⟩,
      ⟨some 16, none, .ext 2 (.t 9)⟩,
      ⟨some 17, none, .ext 3 (.t 9)⟩,
      ⟨some 6, none, .mov (.t 15)⟩,
      ⟨some 7, none, .mov (.t 16)⟩,
      ⟨some 8, none, .mov (.t 17)⟩])
    (.seq (.region [⟨some 18, none, .mov (.t 6)⟩,
      ⟨some 19, none, .mov (.t 7)⟩,
      ⟨some 20, none, .mov (.t 8)⟩,
      ⟨some 6, none, .mov (.t 18)⟩,
      ⟨some 7, none, .mov (.t 19)⟩,
      ⟨some 8, none, .mov (.t 20)⟩])
    .ret))), [.tmp 6, .tmp 7, .tmp 8]⟩
theorem T_interp_Entries : trFn Tryz.prog [(0, [1, 0, 0, 0])] Tryz.f39 = some A_interp_Entries := by kernel_rfl
theorem L_interp_Entries : 3 ≤ Tryz.f39.ntmps := by decide

/-! cartouche/model.Typed -/
def A_model_Typed : AFn := ⟨(.seq (.region [⟨some 3, none, .box 0 (.t 0)⟩,
      ⟨some 5, none, .box 0 (.t 2)⟩,
      ⟨some 6, none, .mov (.c (.bool false))⟩,
      ⟨some 7, none, .mov (.c (.int .i64 0))⟩])
    (.seq (.seq (.region [⟨some 8, none, .load 1 true (.t 3)⟩,
      ⟨some 9, none, .mov (.t 1)⟩,
      ⟨some 10, none, .call i_table_IsMessage [.t 8, .t 9]⟩,
      ⟨some 11, none, .un .not (.t 10)⟩])
    (.cond (.t 11) (.seq (.region [⟨some 6, none, .mov (.c (.bool false))⟩,
      ⟨some 7, none, .mov (.c (.int .i64 18))⟩])
    .ret)
    .skip))
    (.seq (.region [⟨some 12, none, .load 1 true (.t 3)⟩,
      ⟨some 13, none, .mov (.t 1)⟩,
      ⟨some 14, none, .load 2 true (.t 5)⟩,
      ⟨some 15, none, .call i_model_typed [.t 12, .t 13, .t 14]⟩,
      ⟨some 6, none, .mov (.t 15)⟩,
      ⟨some 7, none, .mov (.c (.int .i64 0))⟩])
    .ret))), [.tmp 6, .tmp 7]⟩
theorem T_model_Typed : trFn Tryz.prog [(0, [1, 1, 0, 0])] Tryz.f65 = some A_model_Typed := by kernel_rfl
theorem L_model_Typed : 3 ≤ Tryz.f65.ntmps := by decide

/-! cartouche/model.Copy -/
def A_model_Copy : AFn := ⟨(.seq (.region [⟨some 1, none, .box 0 (.t 0)⟩,
      ⟨some 2, none, .alloc 0 [.nil, .nil]⟩])
    (.seq (.draw [1, 2, 5, 6, 7, 1000004, 2000005, 2000006, 2000007] [⟨some 3, none, .fldA 0 1 false (.t 1)⟩,
      ⟨some 4, none, .load 1 false (.t 3)⟩,
      ⟨some 5, none, .call i_model_each_api_Field [.t 4, .c (.fn (.func 132) [] [])]⟩,
      ⟨some 6, none, .fldA 1 1 false (.t 1)⟩,
      ⟨some 7, none, .load 1 false (.t 6)⟩,
      ⟨some 8, none, .call i_model_each_api_Entry [.t 7, .c (.fn (.func 134) [] [])]⟩,
      ⟨some 9, none, .build [.nil, .nil] [(0, 1, .t 5), (1, 1, .t 8)]⟩,
      ⟨none, none, .store 2 (.t 2) (.t 9)⟩])
    .ret)), [.cell 2 2 true]⟩
theorem T_model_Copy : trFn Tryz.prog [(0, [1, 1]), (1000001, [1, 2, 5, 6, 7, 1000004, 2000005, 2000006, 2000007])] Tryz.f68 = some A_model_Copy := by kernel_rfl
theorem L_model_Copy : 1 ≤ Tryz.f68.ntmps := by decide

/-! cartouche/cartoucheref8.Equal -/
def A_cartoucheref8_Equal : AFn := ⟨(.seq (.region [⟨some 2, none, .box 0 (.t 0)⟩,
      ⟨some 3, none, .box 0 (.t 1)⟩,
      ⟨some 4, none, .mov (.c (.bool false))⟩])
    (.seq (.seq (.region [⟨some 6, none, .fldA 0 1 false (.t 2)⟩,
      ⟨some 7, none, .load 1 false (.t 6)⟩,
      ⟨some 8, none, .len false (.t 7)⟩,
      ⟨some 9, none, .fldA 0 1 false (.t 3)⟩,
      ⟨some 10, none, .load 1 false (.t 9)⟩,
      ⟨some 11, none, .len false (.t 10)⟩,
      ⟨some 12, none, .bin false .neq (.t 8) (.t 11)⟩,
      ⟨some 13, none, .mov (.t 12)⟩,
      ⟨some 14, some (13, false), .fldA 1 1 false (.t 2)⟩,
      ⟨some 15, some (13, false), .load 1 false (.t 14)⟩,
      ⟨some 16, some (13, false), .fldA 1 1 false (.t 3)⟩,
      ⟨some 17, some (13, false), .load 1 false (.t 16)⟩,
      ⟨some 18, some (13, false), .call i_cartoucheref1_List [.t 15, .t 17]⟩,
      ⟨some 19, some (13, false), .un .not (.t 18)⟩,
      ⟨some 20, none, .pickb (.t 13) (.c (.bool true)) (.t 19)⟩])
    (.cond (.t 20) (.seq (.region [⟨some 4, none, .mov (.c (.bool false))⟩])
    .ret)
    .skip))
    (.seq (.seq (.region [⟨some 5, none, .mov (.c (.int .i64 0))⟩])
    (.block 0 (.loop (.seq (.seq (.region [⟨some 21, none, .mov (.t 5)⟩,
      ⟨some 22, none, .fldA 0 1 false (.t 2)⟩,
      ⟨some 23, none, .load 1 false (.t 22)⟩,
      ⟨some 24, none, .len false (.t 23)⟩,
      ⟨some 25, none, .bin false .lss (.t 21) (.t 24)⟩])
    (.cond (.t 25) .skip
    (.exit 0)))
    (.seq (.block 1 (.seq (.draw [1, 3, 4, 10, 1000006, 1000008, 1000009, 2000010] [⟨some 28, none, .fldA 0 1 false (.t 2)⟩,
      ⟨some 29, none, .load 1 false (.t 28)⟩,
      ⟨some 30, none, .mov (.t 5)⟩,
      ⟨some 31, none, .idxA 3 (.t 29) (.t 30)⟩,
      ⟨some 32, none, .load 3 true (.t 31)⟩,
      ⟨some 33, none, .fldA 0 1 false (.t 3)⟩,
      ⟨some 34, none, .load 1 false (.t 33)⟩,
      ⟨some 35, none, .mov (.t 5)⟩,
      ⟨some 36, none, .idxA 3 (.t 34) (.t 35)⟩,
      ⟨some 37, none, .load 3 true (.t 36)⟩,
      ⟨some 38, none, .call i_cartoucheref8_SameField [.t 32, .t 37]⟩,
      ⟨some 39, none, .un .not (.t 38)⟩])
    (.cond (.t 39) (.seq (.region [⟨some 4, none, .mov (.c (.bool false))⟩])
    .ret)
    .skip)))
    (.region [⟨some 26, none, .mov (.t 5)⟩,
      ⟨some 27, none, .bin false .add (.t 26) (.c (.int .i64 1))⟩,
      ⟨some 5, none, .mov (.t 27)⟩]))))))
    (.seq (.region [⟨some 4, none, .mov (.c (.bool true))⟩])
    .ret)))), [.tmp 4]⟩
theorem T_cartoucheref8_Equal : trFn Tryz.prog [(0, [1, 1, 0]), (1000006, [1, 3, 4, 10, 1000006, 1000008, 1000009, 2000010])] Tryz.f71 = some A_cartoucheref8_Equal := by kernel_rfl
theorem L_cartoucheref8_Equal : 2 ≤ Tryz.f71.ntmps := by decide

/-! cartouche/cartoucheref8.vals -/
def A_cartoucheref8_vals : AFn := ⟨(.seq (.region [⟨some 4, none, .mov (.c (.bool false))⟩])
    (.seq (.seq (.region [⟨some 7, none, .mov (.t 0)⟩,
      ⟨some 8, none, .len false (.t 7)⟩,
      ⟨some 9, none, .mov (.t 1)⟩,
      ⟨some 10, none, .len false (.t 9)⟩,
      ⟨some 11, none, .bin false .neq (.t 8) (.t 10)⟩])
    (.cond (.t 11) (.seq (.region [⟨some 4, none, .mov (.c (.bool false))⟩])
    .ret)
    .skip))
    (.seq (.seq (.region [⟨some 5, none, .mov (.c (.int .i64 0))⟩])
    (.block 0 (.loop (.seq (.seq (.region [⟨some 12, none, .mov (.t 5)⟩,
      ⟨some 13, none, .mov (.t 0)⟩,
      ⟨some 14, none, .len false (.t 13)⟩,
      ⟨some 15, none, .bin false .lss (.t 12) (.t 14)⟩])
    (.cond (.t 15) .skip
    (.exit 0)))
    (.seq (.block 1 (.seq (.seq (.draw [2, 4, 14, 16, 29, 31, 32, 1000007, 1000009, 1000020, 1000022, 1000035, 1000037, 1000038] [⟨some 18, none, .mov (.t 0)⟩,
      ⟨some 19, none, .mov (.t 5)⟩,
      ⟨some 20, none, .idxA 3 (.t 18) (.t 19)⟩,
      ⟨some 21, none, .fldA 0 1 false (.t 20)⟩,
      ⟨some 22, none, .load 1 false (.t 21)⟩,
      ⟨some 23, none, .mov (.t 1)⟩,
      ⟨some 24, none, .mov (.t 5)⟩,
      ⟨some 25, none, .idxA 3 (.t 23) (.t 24)⟩,
      ⟨some 26, none, .fldA 0 1 false (.t 25)⟩,
      ⟨some 27, none, .load 1 false (.t 26)⟩,
      ⟨some 28, none, .bin false .neq (.t 22) (.t 27)⟩,
      ⟨some 29, none, .mov (.t 28)⟩,
      ⟨some 30, some (29, false), .mov (.t 0)⟩,
      ⟨some 31, some (29, false), .mov (.t 5)⟩,
      ⟨some 32, some (29, false), .idxA 3 (.t 30) (.t 31)⟩,
      ⟨some 33, some (29, false), .fldA 1 1 false (.t 32)⟩,
      ⟨some 34, some (29, false), .load 1 false (.t 33)⟩,
      ⟨some 35, some (29, false), .b2s (.t 34)⟩,
      ⟨some 36, some (29, false), .mov (.t 1)⟩,
      ⟨some 37, some (29, false), .mov (.t 5)⟩,
      ⟨some 38, some (29, false), .idxA 3 (.t 36) (.t 37)⟩,
      ⟨some 39, some (29, false), .fldA 1 1 false (.t 38)⟩,
      ⟨some 40, some (29, false), .load 1 false (.t 39)⟩,
      ⟨some 41, some (29, false), .b2s (.t 40)⟩,
      ⟨some 42, some (29, false), .bin false .neq (.t 35) (.t 41)⟩,
      ⟨some 43, none, .pickb (.t 29) (.c (.bool true)) (.t 42)⟩,
      ⟨some 44, none, .mov (.t 43)⟩,
      ⟨some 45, some (44, false), .mov (.t 0)⟩,
      ⟨some 46, some (44, false), .mov (.t 5)⟩,
      ⟨some 47, some (44, false), .idxA 3 (.t 45) (.t 46)⟩,
      ⟨some 48, some (44, false), .fldA 2 1 false (.t 47)⟩,
      ⟨some 49, some (44, false), .load 1 false (.t 48)⟩,
      ⟨some 50, some (44, false), .len false (.t 49)⟩,
      ⟨some 51, some (44, false), .mov (.t 1)⟩,
      ⟨some 52, some (44, false), .mov (.t 5)⟩,
      ⟨some 53, some (44, false), .idxA 3 (.t 51) (.t 52)⟩,
      ⟨some 54, some (44, false), .fldA 2 1 false (.t 53)⟩,
      ⟨some 55, some (44, false), .load 1 false (.t 54)⟩,
      ⟨some 56, some (44, false), .len false (.t 55)⟩,
      ⟨some 57, some (44, false), .bin false .neq (.t 50) (.t 56)⟩,
      ⟨some 58, none, .pickb (.t 44) (.c (.bool true)) (.t 57)⟩])
    (.cond (.t 58) (.seq (.region [⟨some 4, none, .mov (.c (.bool false))⟩])
    .ret)
    .skip))
    (.seq (.region [⟨some 6, none, .mov (.c (.int .i64 0))⟩])
    (.block 2 (.loop (.seq (.seq (.region [⟨some 59, none, .mov (.t 6)⟩,
      ⟨some 60, none, .mov (.t 0)⟩,
      ⟨some 61, none, .mov (.t 5)⟩,
      ⟨some 62, none, .idxA 3 (.t 60) (.t 61)⟩,
      ⟨some 63, none, .fldA 2 1 false (.t 62)⟩,
      ⟨some 64, none, .load 1 false (.t 63)⟩,
      ⟨some 65, none, .len false (.t 64)⟩,
      ⟨some 66, none, .bin false .lss (.t 59) (.t 65)⟩])
    (.cond (.t 66) .skip
    (.exit 2)))
    (.seq (.block 3 (.seq (.draw [2, 4, 6, 7, 16, 1000010, 1000012, 1000014, 1000015, 2000016] [⟨some 69, none, .mov (.t 0)⟩,
      ⟨some 70, none, .mov (.t 5)⟩,
      ⟨some 71, none, .idxA 3 (.t 69) (.t 70)⟩,
      ⟨some 72, none, .fldA 2 1 false (.t 71)⟩,
      ⟨some 73, none, .load 1 false (.t 72)⟩,
      ⟨some 74, none, .mov (.t 6)⟩,
      ⟨some 75, none, .idxA 2 (.t 73) (.t 74)⟩,
      ⟨some 76, none, .load 2 true (.t 75)⟩,
      ⟨some 77, none, .mov (.t 1)⟩,
      ⟨some 78, none, .mov (.t 5)⟩,
      ⟨some 79, none, .idxA 3 (.t 77) (.t 78)⟩,
      ⟨some 80, none, .fldA 2 1 false (.t 79)⟩,
      ⟨some 81, none, .load 1 false (.t 80)⟩,
      ⟨some 82, none, .mov (.t 6)⟩,
      ⟨some 83, none, .idxA 2 (.t 81) (.t 82)⟩,
      ⟨some 84, none, .load 2 true (.t 83)⟩,
      ⟨some 85, none, .call i_cartoucheref8_Equal [.t 76, .t 84]⟩,
      ⟨some 86, none, .un .not (.t 85)⟩])
    (.cond (.t 86) (.seq (.region [⟨some 4, none, .mov (.c (.bool false))⟩])
    .ret)
    .skip)))
    (.region [⟨some 67, none, .mov (.t 6)⟩,
      ⟨some 68, none, .bin false .add (.t 67) (.c (.int .i64 1))⟩,
      ⟨some 6, none, .mov (.t 68)⟩]))))))))
    (.region [⟨some 16, none, .mov (.t 5)⟩,
      ⟨some 17, none, .bin false .add (.t 16) (.c (.int .i64 1))⟩,
      ⟨some 5, none, .mov (.t 17)⟩]))))))
    (.seq (.region [⟨some 4, none, .mov (.c (.bool true))⟩])
    .ret)))), [.tmp 4]⟩
theorem T_cartoucheref8_vals : trFn Tryz.prog [(1000006, [2, 4, 14, 16, 29, 31, 32, 1000007, 1000009, 1000020, 1000022, 1000035, 1000037, 1000038]), (1000011, [2, 4, 6, 7, 16, 1000010, 1000012, 1000014, 1000015, 2000016])] Tryz.f77 = some A_cartoucheref8_vals := by kernel_rfl
theorem L_cartoucheref8_vals : 2 ≤ Tryz.f77.ntmps := by decide

/-! cartouche/interp.Decode -/
def A_interp_Decode : AFn := ⟨(.seq (.region [⟨some 3, none, .box 0 (.t 0)⟩,
      ⟨some 6, none, .alloc 0 [.nil, .nil]⟩,
      ⟨some 7, none, .mov (.c (.int .i64 0))⟩])
    (.seq (.region [⟨some 13, none, .load 1 true (.t 3)⟩,
      ⟨some 14, none, .mov (.t 1)⟩,
      ⟨some 15, none, .mov (.t 2)⟩,
      ⟨some 16, none, .call i_interp_read [.t 13, .t 14, .t 15]⟩,
      ⟨some 12, none, .mov (.t 16)⟩,
      ⟨some 17, none, .ext 0 (.t 12)⟩,
      ⟨some 18, none, .ext 1 (.t 12)⟩,
      ⟨some 19, none, .ext 2 (.t 12)⟩,
      ⟨some 20, none, .ext 3 (.t 12)⟩,
      ⟨some 8, none, .alloc 0 [.nil, .nil]⟩,
      ⟨none, none, .store 2 (.t 8) (.t 17)⟩,
      ⟨some 9, none, .mov (.t 18)⟩,
      ⟨some 10, none, .mov (.t 19)⟩,
      ⟨some 11, none, .mov (.t 20)⟩])
    (.seq (.region [⟨some 21, none, .load 2 true (.t 8)⟩,
      ⟨some 22, none, .mov (.t 11)⟩,
      ⟨none, none, .store 2 (.t 6) (.t 21)⟩,
      ⟨some 7, none, .mov (.t 22)⟩])
    .ret))), [.cell 6 2 true, .tmp 7]⟩
theorem T_interp_Decode : trFn Tryz.prog [(0, [1, 1, 0]), (1, [0, 0, 0, 0, 0, 0, 0, 0, 0, 1, 0, 0, 0, 0])] Tryz.f86 = some A_interp_Decode := by kernel_rfl
theorem L_interp_Decode : 3 ≤ Tryz.f86.ntmps := by decide

/-! cartouche/interp.write -/
def A_interp_write : AFn := ⟨(.seq (.region [⟨some 3, none, .box 0 (.t 0)⟩,
      ⟨some 5, none, .box 0 (.t 2)⟩,
      ⟨some 6, none, .mov (.c (.nil))⟩,
      ⟨some 7, none, .mov (.c (.int .i64 0))⟩])
    (.seq (.region [⟨some 11, none, .load 1 true (.t 3)⟩,
      ⟨some 12, none, .mov (.t 1)⟩,
      ⟨some 13, none, .load 2 true (.t 5)⟩,
      ⟨some 14, none, .call i_model_Typed [.t 11, .t 12, .t 13]⟩,
      ⟨some 10, none, .mov (.t 14)⟩,
      ⟨some 15, none, .ext 0 (.t 10)⟩,
      ⟨some 16, none, .ext 1 (.t 10)⟩,
      ⟨some 8, none, .mov (.t 15)⟩,
      ⟨some 9, none, .mov (.t 16)⟩])
    (.seq (.block 0 (.seq (.region [⟨some 18, none, .mov (.t 9)⟩,
      ⟨some 19, none, .bin false .neq (.t 18) (.c (.int .i64 0))⟩,
      ⟨some 17, none, .mov (.t 19)⟩])
    (.cond (.t 17) (.seq (.region [⟨some 20, none, .mov (.t 9)⟩,
      ⟨some 6, none, .mov (.c (.nil))⟩,
      ⟨some 7, none, .mov (.t 20)⟩])
    .ret)
    (.seq (.region [⟨some 22, none, .mov (.t 8)⟩,
      ⟨some 23, none, .un .not (.t 22)⟩,
      ⟨some 21, none, .mov (.t 23)⟩])
    (.cond (.t 21) (.seq (.region [⟨some 6, none, .mov (.c (.nil))⟩,
      ⟨some 7, none, .mov (.c (.int .i64 10))⟩])
    .ret)
    (.seq (.region [⟨some 25, none, .load 2 true (.t 5)⟩,
      ⟨some 26, none, .call i_model_Depth [.t 25]⟩,
      ⟨some 27, none, .bin false .gtr (.t 26) (.c (.int .i64 16))⟩,
      ⟨some 24, none, .mov (.t 27)⟩])
    (.cond (.t 24) (.seq (.region [⟨some 6, none, .mov (.c (.nil))⟩,
      ⟨some 7, none, .mov (.c (.int .i64 2))⟩])
    .ret)
    .skip)))))))
    (.seq (.region [⟨some 28, none, .load 1 true (.t 3)⟩,
      ⟨some 29, none, .mov (.t 1)⟩,
      ⟨some 30, none, .load 2 true (.t 5)⟩,
      ⟨some 31, none, .call i_interp_written [.t 28, .t 29, .t 30]⟩,
      ⟨some 6, none, .mov (.t 31)⟩,
      ⟨some 7, none, .mov (.c (.int .i64 0))⟩])
    .ret)))), [.tmp 6, .tmp 7]⟩
theorem T_interp_write : trFn Tryz.prog [(0, [1, 1, 0, 0])] Tryz.f87 = some A_interp_write := by kernel_rfl
theorem L_interp_write : 3 ≤ Tryz.f87.ntmps := by decide

/-! cartouche/cartoucheref1.List -/
def A_cartoucheref1_List : AFn := ⟨(.seq (.region [⟨some 4, none, .mov (.c (.bool false))⟩])
    (.seq (.seq (.region [⟨some 6, none, .mov (.t 0)⟩,
      ⟨some 7, none, .len false (.t 6)⟩,
      ⟨some 8, none, .mov (.t 1)⟩,
      ⟨some 9, none, .len false (.t 8)⟩,
      ⟨some 10, none, .bin false .neq (.t 7) (.t 9)⟩])
    (.cond (.t 10) (.seq (.region [⟨some 4, none, .mov (.c (.bool false))⟩])
    .ret)
    .skip))
    (.seq (.seq (.region [⟨some 5, none, .mov (.c (.int .i64 0))⟩])
    (.block 0 (.loop (.seq (.seq (.region [⟨some 11, none, .mov (.t 5)⟩,
      ⟨some 12, none, .mov (.t 0)⟩,
      ⟨some 13, none, .len false (.t 12)⟩,
      ⟨some 14, none, .bin false .lss (.t 11) (.t 13)⟩])
    (.cond (.t 14) .skip
    (.exit 0)))
    (.seq (.block 1 (.seq (.draw [2, 3, 8, 1000006, 1000007, 2000008] [⟨some 17, none, .mov (.t 0)⟩,
      ⟨some 18, none, .mov (.t 5)⟩,
      ⟨some 19, none, .idxA 4 (.t 17) (.t 18)⟩,
      ⟨some 20, none, .load 4 true (.t 19)⟩,
      ⟨some 21, none, .mov (.t 1)⟩,
      ⟨some 22, none, .mov (.t 5)⟩,
      ⟨some 23, none, .idxA 4 (.t 21) (.t 22)⟩,
      ⟨some 24, none, .load 4 true (.t 23)⟩,
      ⟨some 25, none, .call i_cartoucheref1_Same [.t 20, .t 24]⟩,
      ⟨some 26, none, .un .not (.t 25)⟩])
    (.cond (.t 26) (.seq (.region [⟨some 4, none, .mov (.c (.bool false))⟩])
    .ret)
    .skip)))
    (.region [⟨some 15, none, .mov (.t 5)⟩,
      ⟨some 16, none, .bin false .add (.t 15) (.c (.int .i64 1))⟩,
      ⟨some 5, none, .mov (.t 16)⟩]))))))
    (.seq (.region [⟨some 4, none, .mov (.c (.bool true))⟩])
    .ret)))), [.tmp 4]⟩
theorem T_cartoucheref1_List : trFn Tryz.prog [(1000006, [2, 3, 8, 1000006, 1000007, 2000008])] Tryz.f98 = some A_cartoucheref1_List := by kernel_rfl
theorem L_cartoucheref1_List : 2 ≤ Tryz.f98.ntmps := by decide

/-! cartouche/wire.PutVarint -/
def A_wire_PutVarint : AFn := ⟨(.seq (.region [⟨some 2, none, .mov (.c (.nil))⟩])
    (.seq (.region [⟨some 3, none, .mov (.t 0)⟩,
      ⟨some 4, none, .call i_wire_Size [.t 3]⟩,
      ⟨some 5, none, .mks 0 5 1 1 (.int .u8 0) (.c (.int .i64 0)) (.t 4)⟩,
      ⟨some 6, none, .mov (.t 0)⟩,
      ⟨some 7, none, .call i_wire_varint [.t 5, .t 6]⟩,
      ⟨some 2, none, .mov (.t 7)⟩])
    .ret)), [.tmp 2]⟩
theorem T_wire_PutVarint : trFn Tryz.prog [] Tryz.f104 = some A_wire_PutVarint := by kernel_rfl
theorem L_wire_PutVarint : 1 ≤ Tryz.f104.ntmps := by decide

/-! cartouche/wire.PutFix32 -/
def A_wire_PutFix32 : AFn := ⟨(.seq (.region [⟨some 2, none, .mov (.c (.nil))⟩])
    (.seq (.region [⟨some 3, none, .mov (.t 0)⟩,
      ⟨some 4, none, .conv .u64 (.t 3)⟩,
      ⟨some 5, none, .call i_wire_word [.t 4, .c (.int .i64 4)]⟩,
      ⟨some 2, none, .mov (.t 5)⟩])
    .ret)), [.tmp 2]⟩
theorem T_wire_PutFix32 : trFn Tryz.prog [] Tryz.f105 = some A_wire_PutFix32 := by kernel_rfl
theorem L_wire_PutFix32 : 1 ≤ Tryz.f105.ntmps := by decide

/-! cartouche/table.IsMessage -/
def A_table_IsMessage : AFn := ⟨(.seq (.region [⟨some 2, none, .box 0 (.t 0)⟩,
      ⟨some 4, none, .mov (.c (.bool false))⟩])
    (.seq (.region [⟨some 5, none, .load 1 true (.t 2)⟩,
      ⟨some 6, none, .call i_table_Good [.t 5]⟩,
      ⟨some 7, none, .mov (.t 6)⟩,
      ⟨some 8, some (7, true), .load 1 true (.t 2)⟩,
      ⟨some 9, some (7, true), .mov (.t 1)⟩,
      ⟨some 10, some (7, true), .call i_table_sort [.t 8, .t 9, .c (.bool false)]⟩,
      ⟨some 11, none, .pickb (.t 7) (.t 10) (.c (.bool false))⟩,
      ⟨some 4, none, .mov (.t 11)⟩])
    .ret)), [.tmp 4]⟩
theorem T_table_IsMessage : trFn Tryz.prog [(0, [1, 0])] Tryz.f121 = some A_table_IsMessage := by kernel_rfl
theorem L_table_IsMessage : 2 ≤ Tryz.f121.ntmps := by decide

/-! cartouche/model.typed -/
def A_model_typed : AFn := ⟨(.seq (.region [⟨some 3, none, .box 0 (.t 0)⟩,
      ⟨some 5, none, .box 0 (.t 2)⟩,
      ⟨some 6, none, .mov (.c (.bool false))⟩])
    (.seq (.region [⟨some 18, none, .fldA 0 1 false (.t 3)⟩,
      ⟨some 19, none, .load 1 false (.t 18)⟩,
      ⟨some 20, none, .mov (.t 1)⟩,
      ⟨some 21, none, .idxA 6 (.t 19) (.t 20)⟩,
      ⟨some 22, none, .load 6 true (.t 21)⟩,
      ⟨some 7, none, .alloc 0 [.str ⟨#[]⟩, .bool false, .nil, .nil, .nil, .nil]⟩,
      ⟨none, none, .store 6 (.t 7) (.t 22)⟩])
    (.seq (.region [⟨some 23, none, .fldA 3 1 false (.t 7)⟩,
      ⟨some 24, none, .load 1 false (.t 23)⟩,
      ⟨some 25, none, .len false (.t 24)⟩,
      ⟨some 26, none, .mks 0 3 1 8 (.int .i64 0) (.t 25) (.t 25)⟩,
      ⟨some 8, none, .mov (.t 26)⟩])
    (.seq (.region [⟨some 9, none, .mov (.c (.int .i64 0))⟩])
    (.seq (.seq (.region [⟨some 27, none, .fldA 0 1 false (.t 5)⟩,
      ⟨some 28, none, .load 1 false (.t 27)⟩,
      ⟨some 29, none, .len false (.t 28)⟩,
      ⟨some 30, none, .mov (.c (.int .i64 0))⟩])
    (.block 0 (.loop (.seq (.region [⟨some 31, none, .bin false .lss (.t 30) (.t 29)⟩])
    (.seq (.cond (.t 31) .skip
    (.exit 0))
    (.seq (.block 1 (.seq (.region [⟨some 32, none, .idxA 3 (.t 28) (.t 30)⟩,
      ⟨some 33, none, .load 3 true (.t 32)⟩,
      ⟨some 11, none, .alloc 0 [.int .i64 0, .nil, .nil]⟩,
      ⟨none, none, .store 3 (.t 11) (.t 33)⟩])
    (.seq (.region [⟨some 35, none, .load 6 true (.t 7)⟩,
      ⟨some 36, none, .fldA 0 1 false (.t 11)⟩,
      ⟨some 37, none, .load 1 false (.t 36)⟩,
      ⟨some 38, none, .call i_table_At [.t 35, .t 37]⟩,
      ⟨some 34, none, .mov (.t 38)⟩,
      ⟨some 39, none, .ext 0 (.t 34)⟩,
      ⟨some 40, none, .ext 1 (.t 34)⟩,
      ⟨some 12, none, .alloc 0 [.str ⟨#[]⟩, .int .i64 0, .int .i64 0, .int .i64 0, .int .i64 0, .int .i64 0, .int .i64 0]⟩,
      ⟨none, none, .store 7 (.t 12) (.t 39)⟩,
      ⟨some 13, none, .mov (.t 40)⟩])
    (.seq (.seq (.region [⟨some 41, none, .mov (.t 13)⟩,
      ⟨some 42, none, .un .not (.t 41)⟩,
      ⟨some 43, none, .mov (.t 42)⟩,
      ⟨some 44, some (43, false), .fldA 0 1 false (.t 11)⟩,
      ⟨some 45, some (43, false), .load 1 false (.t 44)⟩,
      ⟨some 46, some (43, false), .mov (.t 9)⟩,
      ⟨some 47, some (43, false), .bin false .leq (.t 45) (.t 46)⟩,
      ⟨some 48, none, .pickb (.t 43) (.c (.bool true)) (.t 47)⟩,
      ⟨some 49, none, .mov (.t 48)⟩,
      ⟨some 50, some (49, false), .load 1 true (.t 3)⟩,
      ⟨some 51, some (49, false), .load 7 true (.t 12)⟩,
      ⟨some 52, some (49, false), .load 3 true (.t 11)⟩,
      ⟨some 53, some (49, false), .call i_model_typedField [.t 50, .t 51, .t 52]⟩,
      ⟨some 54, some (49, false), .un .not (.t 53)⟩,
      ⟨some 55, none, .pickb (.t 49) (.c (.bool true)) (.t 54)⟩])
    (.cond (.t 55) (.seq (.region [⟨some 6, none, .mov (.c (.bool false))⟩])
    .ret)
    .skip))
    (.seq (.region [⟨some 56, none, .fldA 0 1 false (.t 11)⟩,
      ⟨some 57, none, .load 1 false (.t 56)⟩,
      ⟨some 9, none, .mov (.t 57)⟩])
    (.seq (.region [⟨some 58, none, .fldA 4 1 false (.t 12)⟩,
      ⟨some 59, none, .load 1 false (.t 58)⟩,
      ⟨some 60, none, .bin false .eql (.t 59) (.c (.int .i64 4))⟩])
    (.cond (.t 60) (.seq (.region [⟨some 61, none, .mov (.t 8)⟩,
      ⟨some 62, none, .fldA 5 1 false (.t 12)⟩,
      ⟨some 63, none, .load 1 false (.t 62)⟩,
      ⟨some 64, none, .idxA 1 (.t 61) (.t 63)⟩,
      ⟨some 65, none, .load 1 false (.t 64)⟩,
      ⟨some 66, none, .bin false .add (.t 65) (.c (.int .i64 1))⟩,
      ⟨some 67, none, .idxA 1 (.t 61) (.t 63)⟩,
      ⟨none, none, .store 1 (.t 67) (.t 66)⟩])
    (.seq (.region [⟨some 68, none, .mov (.t 8)⟩,
      ⟨some 69, none, .fldA 5 1 false (.t 12)⟩,
      ⟨some 70, none, .load 1 false (.t 69)⟩,
      ⟨some 71, none, .idxA 1 (.t 68) (.t 70)⟩,
      ⟨some 72, none, .load 1 false (.t 71)⟩,
      ⟨some 73, none, .bin false .gtr (.t 72) (.c (.int .i64 1))⟩])
    (.cond (.t 73) (.seq (.region [⟨some 6, none, .mov (.c (.bool false))⟩])
    .ret)
    .skip)))
    .skip)))))))
    (.region [⟨some 74, none, .bin false .add (.t 30) (.c (.int .i64 1))⟩,
      ⟨some 30, none, .mov (.t 74)⟩])))))))
    (.seq (.seq (.region [⟨some 75, none, .fldA 1 1 false (.t 5)⟩,
      ⟨some 76, none, .load 1 false (.t 75)⟩,
      ⟨some 77, none, .len false (.t 76)⟩,
      ⟨some 78, none, .mov (.c (.int .i64 0))⟩])
    (.block 2 (.loop (.seq (.region [⟨some 79, none, .bin false .lss (.t 78) (.t 77)⟩])
    (.seq (.cond (.t 79) .skip
    (.exit 2))
    (.seq (.block 3 (.seq (.region [⟨some 80, none, .idxA 4 (.t 76) (.t 78)⟩,
      ⟨some 81, none, .load 4 true (.t 80)⟩,
      ⟨some 15, none, .alloc 0 [.int .i64 0, .int .i64 0, .int .u64 0, .nil]⟩,
      ⟨none, none, .store 4 (.t 15) (.t 81)⟩])
    (.seq (.region [⟨some 83, none, .load 4 true (.t 15)⟩,
      ⟨some 84, none, .call i_wire_PutEntry [.t 83]⟩,
      ⟨some 82, none, .mov (.t 84)⟩,
      ⟨some 85, none, .ext 0 (.t 82)⟩,
      ⟨some 86, none, .ext 1 (.t 82)⟩,
      ⟨some 16, none, .mov (.t 85)⟩,
      ⟨some 17, none, .mov (.t 86)⟩])
    (.seq (.region [⟨some 87, none, .mov (.t 17)⟩,
      ⟨some 88, none, .bin false .neq (.t 87) (.c (.int .i64 0))⟩])
    (.cond (.t 88) (.seq (.region [⟨some 6, none, .mov (.c (.bool false))⟩])
    .ret)
    .skip)))))
    (.region [⟨some 89, none, .bin false .add (.t 78) (.c (.int .i64 1))⟩,
      ⟨some 78, none, .mov (.t 89)⟩])))))))
    (.seq (.region [⟨some 6, none, .mov (.c (.bool true))⟩])
    .ret))))))), [.tmp 6]⟩
theorem T_model_typed : trFn Tryz.prog [(0, [1, 1, 0]), (1, [0, 0, 0, 0, 0, 1, 0]), (6, [0, 0, 1, 0]), (7, [0, 0, 0, 0, 0, 0, 0, 1, 0, 0]), (18, [0, 0, 1, 0])] Tryz.f122 = some A_model_typed := by kernel_rfl
theorem L_model_typed : 3 ≤ Tryz.f122.ntmps := by decide

/-! slices.DeleteFunc[[]cartouche/api.Field,cartouche/api.Field] -/
def A_slices_DeleteFunc_api_Field_api_Field : AFn := ⟨(.seq (.region [⟨some 4, none, .mov (.c (.nil))⟩])
    (.seq (.region [⟨some 8, none, .mov (.t 0)⟩,
      ⟨some 9, none, .mov (.t 1)⟩,
      ⟨some 10, none, .call i_slices_IndexFunc_api_Field_api_Field [.t 8, .t 9]⟩,
      ⟨some 5, none, .mov (.t 10)⟩])
    (.seq (.seq (.region [⟨some 11, none, .mov (.t 5)⟩,
      ⟨some 12, none, .bin false .eql (.t 11) (.c (.int .i64 (-1)))⟩])
    (.cond (.t 12) (.seq (.region [⟨some 13, none, .mov (.t 0)⟩,
      ⟨some 4, none, .mov (.t 13)⟩])
    .ret)
    .skip))
    (.seq (.seq (.region [⟨some 14, none, .mov (.t 5)⟩,
      ⟨some 15, none, .bin false .add (.t 14) (.c (.int .i64 1))⟩,
      ⟨some 6, none, .mov (.t 15)⟩])
    (.block 0 (.loop (.seq (.seq (.region [⟨some 16, none, .mov (.t 6)⟩,
      ⟨some 17, none, .mov (.t 0)⟩,
      ⟨some 18, none, .len false (.t 17)⟩,
      ⟨some 19, none, .bin false .lss (.t 16) (.t 18)⟩])
    (.cond (.t 19) .skip
    (.exit 0)))
    (.seq (.block 1 (.seq (.region [⟨some 22, none, .mov (.t 0)⟩,
      ⟨some 23, none, .mov (.t 6)⟩,
      ⟨some 24, none, .idxA 3 (.t 22) (.t 23)⟩,
      ⟨some 25, none, .load 3 true (.t 24)⟩,
      ⟨some 7, none, .alloc 0 [.int .i64 0, .nil, .nil]⟩,
      ⟨none, none, .store 3 (.t 7) (.t 25)⟩])
    (.seq (.region [⟨some 26, none, .mov (.t 1)⟩,
      ⟨some 27, none, .load 3 true (.t 7)⟩,
      ⟨some 28, none, .callv (.t 26) [.t 27]⟩,
      ⟨some 29, none, .un .not (.t 28)⟩])
    (.cond (.t 29) (.seq (.region [⟨some 30, none, .mov (.t 0)⟩,
      ⟨some 31, none, .mov (.t 5)⟩,
      ⟨some 32, none, .load 3 true (.t 7)⟩,
      ⟨some 33, none, .idxA 3 (.t 30) (.t 31)⟩,
      ⟨none, none, .store 3 (.t 33) (.t 32)⟩])
    (.region [⟨some 34, none, .mov (.t 5)⟩,
      ⟨some 35, none, .bin false .add (.t 34) (.c (.int .i64 1))⟩,
      ⟨some 5, none, .mov (.t 35)⟩]))
    .skip))))
    (.region [⟨some 20, none, .mov (.t 6)⟩,
      ⟨some 21, none, .bin false .add (.t 20) (.c (.int .i64 1))⟩,
      ⟨some 6, none, .mov (.t 21)⟩]))))))
    (.seq (.region [⟨some 36, none, .mov (.t 0)⟩,
      ⟨some 37, none, .mov (.t 5)⟩,
      ⟨some 38, none, .slcT 0 3 (.t 36) (.t 37)⟩,
      ⟨none, none, .clr 3 (.agg [.int .i64 0, .nil, .nil]) (.t 38)⟩])
    (.seq (.region [⟨some 39, none, .mov (.t 0)⟩,
      ⟨some 40, none, .mov (.t 5)⟩,
      ⟨some 41, none, .slcH 3 (.t 39) (.t 40)⟩,
      ⟨some 4, none, .mov (.t 41)⟩])
    .ret)))))), [.tmp 4]⟩
theorem T_slices_DeleteFunc_api_Field_api_Field : trFn Tryz.prog [(7, [0, 0, 0, 0, 1, 0]), (11, [0, 0, 1000, 902]), (12, [0, 0, 901, 0])] Tryz.f124 = some A_slices_DeleteFunc_api_Field_api_Field := by kernel_rfl
theorem L_slices_DeleteFunc_api_Field_api_Field : 2 ≤ Tryz.f124.ntmps := by decide

/-! cartouche/table.At -/
def A_table_At : AFn := ⟨(.seq (.region [⟨some 2, none, .box 0 (.t 0)⟩,
      ⟨some 4, none, .alloc 0 [.str ⟨#[]⟩, .int .i64 0, .int .i64 0, .int .i64 0, .int .i64 0, .int .i64 0, .int .i64 0]⟩,
      ⟨some 5, none, .mov (.c (.bool false))⟩])
    (.seq (.draw [1, 2] [⟨some 9, none, .fldA 2 1 false (.t 2)⟩,
      ⟨some 10, none, .load 1 false (.t 9)⟩,
      ⟨some 11, none, .len false (.t 10)⟩,
      ⟨some 6, none, .mov (.c (.int .i64 0))⟩,
      ⟨some 7, none, .mov (.t 11)⟩])
    (.seq (.block 0 (.loop (.seq (.seq (.region [⟨some 12, none, .mov (.t 6)⟩,
      ⟨some 13, none, .mov (.t 7)⟩,
      ⟨some 14, none, .bin false .lss (.t 12) (.t 13)⟩])
    (.cond (.t 14) .skip
    (.exit 0)))
    (.block 1 (.seq (.region [⟨some 15, none, .mov (.t 6)⟩,
      ⟨some 16, none, .mov (.t 7)⟩,
      ⟨some 17, none, .bin false .add (.t 15) (.t 16)⟩,
      ⟨some 18, none, .bin false .quo (.t 17) (.c (.int .i64 2))⟩,
      ⟨some 8, none, .mov (.t 18)⟩])
    (.seq (.region [⟨some 19, none, .fldA 2 1 false (.t 2)⟩,
      ⟨some 20, none, .load 1 false (.t 19)⟩,
      ⟨some 21, none, .mov (.t 8)⟩,
      ⟨some 22, none, .idxA 7 (.t 20) (.t 21)⟩,
      ⟨some 23, none, .fldA 1 1 false (.t 22)⟩,
      ⟨some 24, none, .load 1 false (.t 23)⟩,
      ⟨some 25, none, .mov (.t 1)⟩,
      ⟨some 26, none, .bin false .lss (.t 24) (.t 25)⟩])
    (.cond (.t 26) (.region [⟨some 27, none, .mov (.t 8)⟩,
      ⟨some 28, none, .bin false .add (.t 27) (.c (.int .i64 1))⟩,
      ⟨some 6, none, .mov (.t 28)⟩])
    (.region [⟨some 29, none, .mov (.t 8)⟩,
      ⟨some 7, none, .mov (.t 29)⟩]))))))))
    (.seq (.seq (.region [⟨some 30, none, .mov (.t 6)⟩,
      ⟨some 31, none, .fldA 2 1 false (.t 2)⟩,
      ⟨some 32, none, .load 1 false (.t 31)⟩,
      ⟨some 33, none, .len false (.t 32)⟩,
      ⟨some 34, none, .bin false .eql (.t 30) (.t 33)⟩,
      ⟨some 35, none, .mov (.t 34)⟩,
      ⟨some 36, some (35, false), .fldA 2 1 false (.t 2)⟩,
      ⟨some 37, some (35, false), .load 1 false (.t 36)⟩,
      ⟨some 38, some (35, false), .mov (.t 6)⟩,
      ⟨some 39, some (35, false), .idxA 7 (.t 37) (.t 38)⟩,
      ⟨some 40, some (35, false), .fldA 1 1 false (.t 39)⟩,
      ⟨some 41, some (35, false), .load 1 false (.t 40)⟩,
      ⟨some 42, some (35, false), .mov (.t 1)⟩,
      ⟨some 43, some (35, false), .bin false .neq (.t 41) (.t 42)⟩,
      ⟨some 44, none, .pickb (.t 35) (.c (.bool true)) (.t 43)⟩])
    (.cond (.t 44) (.seq (.region [⟨some 45, none, .build [.str ⟨#[]⟩, .int .i64 0, .int .i64 0, .int .i64 0, .int .i64 0, .int .i64 0, .int .i64 0] []⟩,
      ⟨none, none, .store 7 (.t 4) (.t 45)⟩,
      ⟨some 5, none, .mov (.c (.bool false))⟩])
    .ret)
    .skip))
    (.seq (.region [⟨some 46, none, .fldA 2 1 false (.t 2)⟩,
      ⟨some 47, none, .load 1 false (.t 46)⟩,
      ⟨some 48, none, .mov (.t 6)⟩,
      ⟨some 49, none, .idxA 7 (.t 47) (.t 48)⟩,
      ⟨some 50, none, .load 7 true (.t 49)⟩,
      ⟨none, none, .store 7 (.t 4) (.t 50)⟩,
      ⟨some 5, none, .mov (.c (.bool true))⟩])
    .ret))))), [.cell 4 7 true, .tmp 5]⟩
theorem T_table_At : trFn Tryz.prog [(0, [1, 1, 0]), (1000001, [1, 2])] Tryz.f126 = some A_table_At := by kernel_rfl
theorem L_table_At : 2 ≤ Tryz.f126.ntmps := by decide

/-! cartouche/model.each[cartouche/api.Field] -/
def A_model_each_api_Field : AFn := ⟨(.seq (.region [⟨some 4, none, .mov (.c (.nil))⟩])
    (.seq (.region [⟨some 8, none, .mov (.t 0)⟩,
      ⟨some 9, none, .len false (.t 8)⟩,
      ⟨some 10, none, .mks 0 29 3 56 (.agg [.int .i64 0, .nil, .nil]) (.c (.int .i64 0)) (.t 9)⟩,
      ⟨some 5, none, .mov (.t 10)⟩])
    (.seq (.seq (.region [⟨some 11, none, .mov (.t 0)⟩,
      ⟨some 12, none, .len false (.t 11)⟩,
      ⟨some 13, none, .mov (.c (.int .i64 0))⟩])
    (.block 0 (.loop (.seq (.region [⟨some 14, none, .bin false .lss (.t 13) (.t 12)⟩])
    (.seq (.cond (.t 14) .skip
    (.exit 0))
    (.seq (.block 1 (.seq (.region [⟨some 15, none, .idxA 3 (.t 11) (.t 13)⟩,
      ⟨some 16, none, .load 3 true (.t 15)⟩,
      ⟨some 7, none, .alloc 0 [.int .i64 0, .nil, .nil]⟩,
      ⟨none, none, .store 3 (.t 7) (.t 16)⟩])
    (.region [⟨some 17, none, .mov (.t 5)⟩,
      ⟨some 18, none, .mov (.t 1)⟩,
      ⟨some 19, none, .load 3 true (.t 7)⟩,
      ⟨some 20, none, .callv (.t 18) [.t 19]⟩,
      ⟨some 21, none, .blit 0 29 3 [.t 20]⟩,
      ⟨some 22, none, .app 0 29 3 56 (.t 17) (.t 21)⟩,
      ⟨some 5, none, .mov (.t 22)⟩])))
    (.region [⟨some 23, none, .bin false .add (.t 13) (.c (.int .i64 1))⟩,
      ⟨some 13, none, .mov (.t 23)⟩])))))))
    (.seq (.region [⟨some 24, none, .mov (.t 5)⟩,
      ⟨some 4, none, .mov (.t 24)⟩])
    .ret)))), [.tmp 4]⟩
theorem T_model_each_api_Field : trFn Tryz.prog [(4, [0, 0, 1, 0]), (5, [0, 0, 0, 0, 1, 0, 0])] Tryz.f131 = some A_model_each_api_Field := by kernel_rfl
theorem L_model_each_api_Field : 2 ≤ Tryz.f131.ntmps := by decide

/-! cartouche/model.CopyField -/
def A_model_CopyField : AFn := ⟨(.seq (.region [⟨some 1, none, .box 0 (.t 0)⟩,
      ⟨some 2, none, .alloc 0 [.int .i64 0, .nil, .nil]⟩])
    (.seq (.draw [3, 4, 7, 8, 9, 1000001, 1000006, 2000008, 2000009] [⟨some 3, none, .fldA 0 1 false (.t 1)⟩,
      ⟨some 4, none, .load 1 false (.t 3)⟩,
      ⟨some 5, none, .fldA 1 1 false (.t 1)⟩,
      ⟨some 6, none, .load 1 false (.t 5)⟩,
      ⟨some 7, none, .call i_model_each_api_Val [.t 6, .c (.fn (.func 182) [] [])]⟩,
      ⟨some 8, none, .fldA 2 1 false (.t 1)⟩,
      ⟨some 9, none, .load 1 false (.t 8)⟩,
      ⟨some 10, none, .call i_model_each_api_Val [.t 9, .c (.fn (.func 182) [] [])]⟩,
      ⟨some 11, none, .build [.int .i64 0, .nil, .nil] [(0, 1, .t 4), (1, 1, .t 7), (2, 1, .t 10)]⟩,
      ⟨none, none, .store 3 (.t 2) (.t 11)⟩])
    .ret)), [.cell 2 3 true]⟩
theorem T_model_CopyField : trFn Tryz.prog [(0, [1, 1]), (1000001, [3, 4, 7, 8, 9, 1000001, 1000006, 2000008, 2000009])] Tryz.f132 = some A_model_CopyField := by kernel_rfl
theorem L_model_CopyField : 1 ≤ Tryz.f132.ntmps := by decide

/-! cartouche/model.each[cartouche/api.Entry] -/
def A_model_each_api_Entry : AFn := ⟨(.seq (.region [⟨some 4, none, .mov (.c (.nil))⟩])
    (.seq (.region [⟨some 8, none, .mov (.t 0)⟩,
      ⟨some 9, none, .len false (.t 8)⟩,
      ⟨some 10, none, .mks 0 40 4 48 (.agg [.int .i64 0, .int .i64 0, .int .u64 0, .nil]) (.c (.int .i64 0)) (.t 9)⟩,
      ⟨some 5, none, .mov (.t 10)⟩])
    (.seq (.seq (.region [⟨some 11, none, .mov (.t 0)⟩,
      ⟨some 12, none, .len false (.t 11)⟩,
      ⟨some 13, none, .mov (.c (.int .i64 0))⟩])
    (.block 0 (.loop (.seq (.region [⟨some 14, none, .bin false .lss (.t 13) (.t 12)⟩])
    (.seq (.cond (.t 14) .skip
    (.exit 0))
    (.seq (.block 1 (.seq (.region [⟨some 15, none, .idxA 4 (.t 11) (.t 13)⟩,
      ⟨some 16, none, .load 4 true (.t 15)⟩,
      ⟨some 7, none, .alloc 0 [.int .i64 0, .int .i64 0, .int .u64 0, .nil]⟩,
      ⟨none, none, .store 4 (.t 7) (.t 16)⟩])
    (.region [⟨some 17, none, .mov (.t 5)⟩,
      ⟨some 18, none, .mov (.t 1)⟩,
      ⟨some 19, none, .load 4 true (.t 7)⟩,
      ⟨some 20, none, .callv (.t 18) [.t 19]⟩,
      ⟨some 21, none, .blit 0 40 4 [.t 20]⟩,
      ⟨some 22, none, .app 0 40 4 48 (.t 17) (.t 21)⟩,
      ⟨some 5, none, .mov (.t 22)⟩])))
    (.region [⟨some 23, none, .bin false .add (.t 13) (.c (.int .i64 1))⟩,
      ⟨some 13, none, .mov (.t 23)⟩])))))))
    (.seq (.region [⟨some 24, none, .mov (.t 5)⟩,
      ⟨some 4, none, .mov (.t 24)⟩])
    .ret)))), [.tmp 4]⟩
theorem T_model_each_api_Entry : trFn Tryz.prog [(4, [0, 0, 1, 0]), (5, [0, 0, 0, 0, 1, 0, 0])] Tryz.f133 = some A_model_each_api_Entry := by kernel_rfl
theorem L_model_each_api_Entry : 2 ≤ Tryz.f133.ntmps := by decide

/-! cartouche/model.CopyEntry -/
def A_model_CopyEntry : AFn := ⟨(.seq (.region [⟨some 1, none, .box 0 (.t 0)⟩,
      ⟨some 2, none, .alloc 0 [.int .i64 0, .int .i64 0, .int .u64 0, .nil]⟩])
    (.seq (.region [⟨some 3, none, .fldA 3 1 false (.t 1)⟩,
      ⟨some 4, none, .load 1 false (.t 3)⟩,
      ⟨some 5, none, .call i_model_list [.t 4]⟩,
      ⟨some 6, none, .fldA 3 1 false (.t 1)⟩,
      ⟨none, none, .store 1 (.t 6) (.t 5)⟩])
    (.seq (.region [⟨some 7, none, .load 4 true (.t 1)⟩,
      ⟨none, none, .store 4 (.t 2) (.t 7)⟩])
    .ret))), [.cell 2 4 true]⟩
theorem T_model_CopyEntry : trFn Tryz.prog [(0, [1, 1])] Tryz.f134 = some A_model_CopyEntry := by kernel_rfl
theorem L_model_CopyEntry : 1 ≤ Tryz.f134.ntmps := by decide

/-! slices.IndexFunc[[]cartouche/api.Field,cartouche/api.Field] -/
def A_slices_IndexFunc_api_Field_api_Field : AFn := ⟨(.seq (.region [⟨some 4, none, .mov (.c (.int .i64 0))⟩])
    (.seq (.seq (.region [⟨some 6, none, .mov (.t 0)⟩,
      ⟨some 7, none, .len false (.t 6)⟩,
      ⟨some 8, none, .mov (.c (.int .i64 0))⟩])
    (.block 0 (.loop (.seq (.region [⟨some 9, none, .bin false .lss (.t 8) (.t 7)⟩])
    (.seq (.cond (.t 9) .skip
    (.exit 0))
    (.seq (.block 1 (.seq (.region [⟨some 10, none, .mov (.t 8)⟩,
      ⟨some 5, none, .mov (.t 10)⟩])
    (.seq (.region [⟨some 11, none, .mov (.t 1)⟩,
      ⟨some 12, none, .mov (.t 0)⟩,
      ⟨some 13, none, .mov (.t 5)⟩,
      ⟨some 14, none, .idxA 3 (.t 12) (.t 13)⟩,
      ⟨some 15, none, .load 3 true (.t 14)⟩,
      ⟨some 16, none, .callv (.t 11) [.t 15]⟩])
    (.cond (.t 16) (.seq (.region [⟨some 17, none, .mov (.t 5)⟩,
      ⟨some 4, none, .mov (.t 17)⟩])
    .ret)
    .skip))))
    (.region [⟨some 18, none, .bin false .add (.t 8) (.c (.int .i64 1))⟩,
      ⟨some 8, none, .mov (.t 18)⟩])))))))
    (.seq (.region [⟨some 4, none, .mov (.c (.int .i64 (-1)))⟩])
    .ret))), [.tmp 4]⟩
theorem T_slices_IndexFunc_api_Field_api_Field : trFn Tryz.prog [] Tryz.f138 = some A_slices_IndexFunc_api_Field_api_Field := by kernel_rfl
theorem L_slices_IndexFunc_api_Field_api_Field : 2 ≤ Tryz.f138.ntmps := by decide

/-! cartouche/interp.written -/
def A_interp_written : AFn := ⟨(.seq (.region [⟨some 3, none, .box 0 (.t 0)⟩,
      ⟨some 5, none, .box 0 (.t 2)⟩,
      ⟨some 6, none, .mov (.c (.nil))⟩])
    (.seq (.region [⟨some 7, none, .mov (.c (.nil))⟩])
    (.seq (.seq (.region [⟨some 27, none, .fldA 0 1 false (.t 5)⟩,
      ⟨some 28, none, .load 1 false (.t 27)⟩,
      ⟨some 29, none, .len false (.t 28)⟩,
      ⟨some 30, none, .mov (.c (.int .i64 0))⟩])
    (.block 0 (.loop (.seq (.region [⟨some 31, none, .bin false .lss (.t 30) (.t 29)⟩])
    (.seq (.cond (.t 31) .skip
    (.exit 0))
    (.seq (.block 1 (.seq (.region [⟨some 32, none, .idxA 3 (.t 28) (.t 30)⟩,
      ⟨some 33, none, .load 3 true (.t 32)⟩,
      ⟨some 9, none, .alloc 0 [.int .i64 0, .nil, .nil]⟩,
      ⟨none, none, .store 3 (.t 9) (.t 33)⟩])
    (.seq (.draw [11, 12, 1000001, 1000003, 1000004, 1000006, 2000012] [⟨some 35, none, .fldA 0 1 false (.t 3)⟩,
      ⟨some 36, none, .load 1 false (.t 35)⟩,
      ⟨some 37, none, .mov (.t 1)⟩,
      ⟨some 38, none, .idxA 6 (.t 36) (.t 37)⟩,
      ⟨some 39, none, .load 6 true (.t 38)⟩,
      ⟨some 40, none, .fldA 0 1 false (.t 9)⟩,
      ⟨some 41, none, .load 1 false (.t 40)⟩,
      ⟨some 42, none, .call i_table_At [.t 39, .t 41]⟩,
      ⟨some 34, none, .mov (.t 42)⟩,
      ⟨some 43, none, .ext 0 (.t 34)⟩,
      ⟨some 44, none, .ext 1 (.t 34)⟩,
      ⟨some 10, none, .alloc 0 [.str ⟨#[]⟩, .int .i64 0, .int .i64 0, .int .i64 0, .int .i64 0, .int .i64 0, .int .i64 0]⟩,
      ⟨none, none, .store 7 (.t 10) (.t 43)⟩,
      ⟨some 11, none, .mov (.t 44)⟩])
    (.seq (.region [⟨some 45, none, .load 7 true (.t 10)⟩,
      ⟨some 46, none, .call i_table_Wire [.t 45]⟩,
      ⟨some 12, none, .mov (.t 46)⟩])
    (.seq (.region [⟨some 47, none, .fldA 4 1 false (.t 10)⟩,
      ⟨some 48, none, .load 1 false (.t 47)⟩])
    (.block 2 (.seq (.seq (.region [⟨some 99, none, .bin false .eql (.t 48) (.c (.int .i64 0))⟩,
      ⟨some 98, none, .mov (.t 99)⟩])
    (.cond (.t 98) .skip
    (.seq (.region [⟨some 100, none, .bin false .eql (.t 48) (.c (.int .i64 1))⟩,
      ⟨some 98, none, .mov (.t 100)⟩])
    (.cond (.t 98) .skip
    (.region [⟨some 101, none, .bin false .eql (.t 48) (.c (.int .i64 4))⟩,
      ⟨some 98, none, .mov (.t 101)⟩])))))
    (.cond (.t 98) (.seq (.region [⟨some 102, none, .fldA 4 1 false (.t 10)⟩,
      ⟨some 103, none, .load 1 false (.t 102)⟩,
      ⟨some 104, none, .bin false .neq (.t 103) (.c (.int .i64 0))⟩,
      ⟨some 105, none, .mov (.t 104)⟩,
      ⟨some 106, some (105, false), .fldA 2 1 false (.t 9)⟩,
      ⟨some 107, some (105, false), .load 1 false (.t 106)⟩,
      ⟨some 108, some (105, false), .idxA 3 (.t 107) (.c (.int .i64 0))⟩,
      ⟨some 109, some (105, false), .load 3 true (.t 108)⟩,
      ⟨some 110, some (105, false), .call i_model_Nothing [.t 109]⟩,
      ⟨some 111, some (105, false), .un .not (.t 110)⟩,
      ⟨some 112, none, .pickb (.t 105) (.c (.bool true)) (.t 111)⟩])
    (.cond (.t 112) (.draw [2, 4, 14, 1000005, 1000007, 1000009, 1000011, 1000012, 1000013, 2000014] [⟨some 113, none, .mov (.t 7)⟩,
      ⟨some 114, none, .fldA 1 1 false (.t 10)⟩,
      ⟨some 115, none, .load 1 false (.t 114)⟩,
      ⟨some 116, none, .mov (.t 12)⟩,
      ⟨some 117, none, .call i_interp_tagged [.t 113, .t 115, .t 116]⟩,
      ⟨some 118, none, .load 1 true (.t 3)⟩,
      ⟨some 119, none, .fldA 2 1 false (.t 10)⟩,
      ⟨some 120, none, .load 1 false (.t 119)⟩,
      ⟨some 121, none, .fldA 3 1 false (.t 10)⟩,
      ⟨some 122, none, .load 1 false (.t 121)⟩,
      ⟨some 123, none, .fldA 2 1 false (.t 9)⟩,
      ⟨some 124, none, .load 1 false (.t 123)⟩,
      ⟨some 125, none, .idxA 3 (.t 124) (.c (.int .i64 0))⟩,
      ⟨some 126, none, .load 3 true (.t 125)⟩,
      ⟨some 127, none, .call i_interp_value [.t 117, .t 118, .t 120, .t 122, .t 126]⟩,
      ⟨some 7, none, .mov (.t 127)⟩])
    .skip))
    (.seq (.region [⟨some 129, none, .bin false .eql (.t 48) (.c (.int .i64 2))⟩,
      ⟨some 128, none, .mov (.t 129)⟩])
    (.cond (.t 128) (.seq (.region [⟨some 130, none, .fldA 2 1 false (.t 9)⟩,
      ⟨some 131, none, .load 1 false (.t 130)⟩,
      ⟨some 132, none, .len false (.t 131)⟩,
      ⟨some 133, none, .mov (.c (.int .i64 0))⟩])
    (.block 5 (.loop (.seq (.region [⟨some 134, none, .bin false .lss (.t 133) (.t 132)⟩])
    (.seq (.cond (.t 134) .skip
    (.exit 5))
    (.seq (.block 6 (.seq (.region [⟨some 135, none, .idxA 3 (.t 131) (.t 133)⟩,
      ⟨some 136, none, .load 3 true (.t 135)⟩,
      ⟨some 14, none, .alloc 0 [.int .u64 0, .nil, .nil]⟩,
      ⟨none, none, .store 3 (.t 14) (.t 136)⟩])
    (.draw [2, 4, 11, 1000005, 1000007, 1000009, 1000010, 2000011] [⟨some 137, none, .mov (.t 7)⟩,
      ⟨some 138, none, .fldA 1 1 false (.t 10)⟩,
      ⟨some 139, none, .load 1 false (.t 138)⟩,
      ⟨some 140, none, .mov (.t 12)⟩,
      ⟨some 141, none, .call i_interp_tagged [.t 137, .t 139, .t 140]⟩,
      ⟨some 142, none, .load 1 true (.t 3)⟩,
      ⟨some 143, none, .fldA 2 1 false (.t 10)⟩,
      ⟨some 144, none, .load 1 false (.t 143)⟩,
      ⟨some 145, none, .fldA 3 1 false (.t 10)⟩,
      ⟨some 146, none, .load 1 false (.t 145)⟩,
      ⟨some 147, none, .load 3 true (.t 14)⟩,
      ⟨some 148, none, .call i_interp_value [.t 141, .t 142, .t 144, .t 146, .t 147]⟩,
      ⟨some 7, none, .mov (.t 148)⟩])))
    (.region [⟨some 149, none, .bin false .add (.t 133) (.c (.int .i64 1))⟩,
      ⟨some 133, none, .mov (.t 149)⟩])))))))
    (.seq (.region [⟨some 151, none, .bin false .eql (.t 48) (.c (.int .i64 3))⟩,
      ⟨some 150, none, .mov (.t 151)⟩])
    (.cond (.t 150) (.seq (.region [⟨some 15, none, .mov (.c (.nil))⟩])
    (.seq (.seq (.region [⟨some 152, none, .fldA 2 1 false (.t 9)⟩,
      ⟨some 153, none, .load 1 false (.t 152)⟩,
      ⟨some 154, none, .len false (.t 153)⟩,
      ⟨some 155, none, .mov (.c (.int .i64 0))⟩])
    (.block 7 (.loop (.seq (.region [⟨some 156, none, .bin false .lss (.t 155) (.t 154)⟩])
    (.seq (.cond (.t 156) .skip
    (.exit 7))
    (.seq (.block 8 (.seq (.region [⟨some 157, none, .idxA 3 (.t 153) (.t 155)⟩,
      ⟨some 158, none, .load 3 true (.t 157)⟩,
      ⟨some 17, none, .alloc 0 [.int .u64 0, .nil, .nil]⟩,
      ⟨none, none, .store 3 (.t 17) (.t 158)⟩])
    (.region [⟨some 159, none, .mov (.t 15)⟩,
      ⟨some 160, none, .load 1 true (.t 3)⟩,
      ⟨some 161, none, .fldA 2 1 false (.t 10)⟩,
      ⟨some 162, none, .load 1 false (.t 161)⟩,
      ⟨some 163, none, .fldA 3 1 false (.t 10)⟩,
      ⟨some 164, none, .load 1 false (.t 163)⟩,
      ⟨some 165, none, .load 3 true (.t 17)⟩,
      ⟨some 166, none, .call i_interp_value [.t 159, .t 160, .t 162, .t 164, .t 165]⟩,
      ⟨some 15, none, .mov (.t 166)⟩])))
    (.region [⟨some 167, none, .bin false .add (.t 155) (.c (.int .i64 1))⟩,
      ⟨some 155, none, .mov (.t 167)⟩])))))))
    (.seq (.region [⟨some 168, none, .fldA 2 1 false (.t 9)⟩,
      ⟨some 169, none, .load 1 false (.t 168)⟩,
      ⟨some 170, none, .len false (.t 169)⟩,
      ⟨some 171, none, .bin false .gtr (.t 170) (.c (.int .i64 0))⟩])
    (.cond (.t 171) (.region [⟨some 172, none, .mov (.t 7)⟩,
      ⟨some 173, none, .fldA 1 1 false (.t 10)⟩,
      ⟨some 174, none, .load 1 false (.t 173)⟩,
      ⟨some 175, none, .call i_interp_tagged [.t 172, .t 174, .c (.int .i64 2)]⟩,
      ⟨some 176, none, .mov (.t 15)⟩,
      ⟨some 177, none, .call i_wire_PutChunk [.t 176]⟩,
      ⟨some 178, none, .app 0 5 1 1 (.t 175) (.t 177)⟩,
      ⟨some 7, none, .mov (.t 178)⟩])
    .skip))))
    (.seq (.region [⟨some 50, none, .fldA 6 1 false (.t 10)⟩,
      ⟨some 51, none, .load 1 false (.t 50)⟩,
      ⟨some 52, none, .call i_scalar_Wire [.t 51]⟩,
      ⟨some 49, none, .mov (.t 52)⟩,
      ⟨some 53, none, .ext 0 (.t 49)⟩,
      ⟨some 54, none, .ext 1 (.t 49)⟩,
      ⟨some 18, none, .mov (.t 53)⟩,
      ⟨some 19, none, .mov (.t 54)⟩])
    (.seq (.region [⟨some 56, none, .fldA 2 1 false (.t 10)⟩,
      ⟨some 57, none, .load 1 false (.t 56)⟩,
      ⟨some 58, none, .call i_scalar_Wire [.t 57]⟩,
      ⟨some 55, none, .mov (.t 58)⟩,
      ⟨some 59, none, .ext 0 (.t 55)⟩,
      ⟨some 60, none, .ext 1 (.t 55)⟩,
      ⟨some 20, none, .mov (.t 59)⟩,
      ⟨some 21, none, .mov (.t 60)⟩])
    (.seq (.region [⟨some 61, none, .fldA 1 1 false (.t 9)⟩,
      ⟨some 62, none, .load 1 false (.t 61)⟩,
      ⟨some 63, none, .len false (.t 62)⟩,
      ⟨some 64, none, .mov (.c (.int .i64 0))⟩])
    (.block 3 (.loop (.seq (.region [⟨some 65, none, .bin false .lss (.t 64) (.t 63)⟩])
    (.seq (.cond (.t 65) .skip
    (.exit 3))
    (.seq (.block 4 (.seq (.region [⟨some 66, none, .mov (.t 64)⟩,
      ⟨some 67, none, .idxA 3 (.t 62) (.t 64)⟩,
      ⟨some 68, none, .load 3 true (.t 67)⟩,
      ⟨some 23, none, .alloc 0 [.int .u64 0, .nil, .nil]⟩,
      ⟨some 22, none, .mov (.t 66)⟩,
      ⟨none, none, .store 3 (.t 23) (.t 68)⟩])
    (.seq (.draw [1, 6, 1000002, 1000004, 1000005, 2000006] [⟨some 69, none, .mov (.t 18)⟩,
      ⟨some 70, none, .call i_interp_tagged [.c (.nil), .c (.int .i64 1), .t 69]⟩,
      ⟨some 71, none, .load 1 true (.t 3)⟩,
      ⟨some 72, none, .fldA 6 1 false (.t 10)⟩,
      ⟨some 73, none, .load 1 false (.t 72)⟩,
      ⟨some 74, none, .load 3 true (.t 23)⟩,
      ⟨some 75, none, .call i_interp_value [.t 70, .t 71, .t 73, .c (.int .i64 0), .t 74]⟩,
      ⟨some 24, none, .mov (.t 75)⟩])
    (.seq (.draw [2, 13, 1000003, 1000005, 1000007, 1000009, 1000011, 1000012, 2000013] [⟨some 76, none, .mov (.t 24)⟩,
      ⟨some 77, none, .mov (.t 20)⟩,
      ⟨some 78, none, .call i_interp_tagged [.t 76, .c (.int .i64 2), .t 77]⟩,
      ⟨some 79, none, .load 1 true (.t 3)⟩,
      ⟨some 80, none, .fldA 2 1 false (.t 10)⟩,
      ⟨some 81, none, .load 1 false (.t 80)⟩,
      ⟨some 82, none, .fldA 3 1 false (.t 10)⟩,
      ⟨some 83, none, .load 1 false (.t 82)⟩,
      ⟨some 84, none, .fldA 2 1 false (.t 9)⟩,
      ⟨some 85, none, .load 1 false (.t 84)⟩,
      ⟨some 86, none, .mov (.t 22)⟩,
      ⟨some 87, none, .idxA 3 (.t 85) (.t 86)⟩,
      ⟨some 88, none, .load 3 true (.t 87)⟩,
      ⟨some 89, none, .call i_interp_value [.t 78, .t 79, .t 81, .t 83, .t 88]⟩,
      ⟨some 24, none, .mov (.t 89)⟩])
    (.region [⟨some 90, none, .mov (.t 7)⟩,
      ⟨some 91, none, .fldA 1 1 false (.t 10)⟩,
      ⟨some 92, none, .load 1 false (.t 91)⟩,
      ⟨some 93, none, .call i_interp_tagged [.t 90, .t 92, .c (.int .i64 2)]⟩,
      ⟨some 94, none, .mov (.t 24)⟩,
      ⟨some 95, none, .call i_wire_PutChunk [.t 94]⟩,
      ⟨some 96, none, .app 0 5 1 1 (.t 93) (.t 95)⟩,
      ⟨some 7, none, .mov (.t 96)⟩])))))
    (.region [⟨some 97, none, .bin false .add (.t 64) (.c (.int .i64 1))⟩,
      ⟨some 64, none, .mov (.t 97)⟩])))))))))))))))))))))
    (.region [⟨some 179, none, .bin false .add (.t 30) (.c (.int .i64 1))⟩,
      ⟨some 30, none, .mov (.t 179)⟩])))))))
    (.seq (.region [⟨some 181, none, .fldA 1 1 false (.t 5)⟩,
      ⟨some 182, none, .load 1 false (.t 181)⟩,
      ⟨some 183, none, .call i_wire_Join [.t 182]⟩,
      ⟨some 180, none, .mov (.t 183)⟩,
      ⟨some 184, none, .ext 0 (.t 180)⟩,
      ⟨some 185, none, .ext 1 (.t 180)⟩,
      ⟨some 25, none, .mov (.t 184)⟩,
      ⟨some 26, none, .mov (.t 185)⟩])
    (.seq (.region [⟨some 186, none, .mov (.t 7)⟩,
      ⟨some 187, none, .mov (.t 25)⟩,
      ⟨some 188, none, .app 0 5 1 1 (.t 186) (.t 187)⟩,
      ⟨some 6, none, .mov (.t 188)⟩])
    .ret))))), [.tmp 6]⟩
theorem T_interp_written : trFn Tryz.prog [(0, [1, 1, 0]), (4, [0, 0, 1, 0]), (5, [0, 0, 0, 0, 0, 0, 0, 0, 0, 0, 0, 1, 0, 0]), (12, [0, 0, 0, 1, 0, 0]), (25, [0, 0, 1, 0]), (32, [0, 0, 1, 0]), (1000005, [11, 12, 1000001, 1000003, 1000004, 1000006, 2000012]), (1000013, [1, 6, 1000002, 1000004, 1000005, 2000006]), (1000014, [2, 13, 1000003, 1000005, 1000007, 1000009, 1000011, 1000012, 2000013]), (1000021, [2, 4, 14, 1000005, 1000007, 1000009, 1000011, 1000012, 1000013, 2000014]), (1000026, [2, 4, 11, 1000005, 1000007, 1000009, 1000010, 2000011])] Tryz.f141 = some A_interp_written := by kernel_rfl
theorem L_interp_written : 3 ≤ Tryz.f141.ntmps := by decide

/-! (*cartouche/interp.cursor).done -/
def A_interp_cursor_done : AFn := ⟨(.seq (.region [⟨some 2, none, .mov (.c (.bool false))⟩])
    (.seq (.draw [3, 1000007, 1000008] [⟨some 3, none, .mov (.t 0)⟩,
      ⟨some 4, none, .nilck (.t 3)⟩,
      ⟨some 5, none, .fldA 1 1 false (.t 4)⟩,
      ⟨some 6, none, .load 1 false (.t 5)⟩,
      ⟨some 7, none, .mov (.t 0)⟩,
      ⟨some 8, none, .nilck (.t 7)⟩,
      ⟨some 9, none, .fldA 0 1 false (.t 8)⟩,
      ⟨some 10, none, .load 1 false (.t 9)⟩,
      ⟨some 11, none, .len false (.t 10)⟩,
      ⟨some 12, none, .bin false .eql (.t 6) (.t 11)⟩,
      ⟨some 2, none, .mov (.t 12)⟩])
    .ret)), [.tmp 2]⟩
theorem T_interp_cursor_done : trFn Tryz.prog [(1000001, [3, 1000007, 1000008])] Tryz.f143 = some A_interp_cursor_done := by kernel_rfl
theorem L_interp_cursor_done : 1 ≤ Tryz.f143.ntmps := by decide

/-! (*cartouche/interp.cursor).entry -/
def A_interp_cursor_entry : AFn := ⟨(.seq (.region [⟨some 6, none, .box 0 (.t 1)⟩,
      ⟨some 10, none, .mov (.c (.bool false))⟩])
    (.seq (.region [⟨some 16, none, .mov (.t 0)⟩,
      ⟨some 17, none, .call i_interp_cursor_tag [.t 16]⟩,
      ⟨some 15, none, .mov (.t 17)⟩,
      ⟨some 18, none, .ext 0 (.t 15)⟩,
      ⟨some 19, none, .ext 1 (.t 15)⟩,
      ⟨some 11, none, .mov (.t 18)⟩,
      ⟨some 12, none, .mov (.t 19)⟩])
    (.seq (.seq (.region [⟨some 21, none, .fldA 0 1 false (.t 6)⟩,
      ⟨some 22, none, .load 1 false (.t 21)⟩,
      ⟨some 23, none, .mov (.t 2)⟩,
      ⟨some 24, none, .idxA 6 (.t 22) (.t 23)⟩,
      ⟨some 25, none, .load 6 true (.t 24)⟩,
      ⟨some 26, none, .mov (.t 11)⟩,
      ⟨some 27, none, .call i_table_At [.t 25, .t 26]⟩,
      ⟨some 20, none, .mov (.t 27)⟩,
      ⟨some 28, none, .ext 0 (.t 20)⟩,
      ⟨some 29, none, .ext 1 (.t 20)⟩,
      ⟨some 13, none, .alloc 0 [.str ⟨#[]⟩, .int .i64 0, .int .i64 0, .int .i64 0, .int .i64 0, .int .i64 0, .int .i64 0]⟩,
      ⟨none, none, .store 7 (.t 13) (.t 28)⟩,
      ⟨some 14, none, .mov (.t 29)⟩])
    (.seq (.region [⟨some 30, none, .mov (.t 14)⟩])
    (.cond (.t 30) (.seq (.region [⟨some 31, none, .load 7 true (.t 13)⟩,
      ⟨some 32, none, .mov (.t 12)⟩,
      ⟨some 33, none, .call i_table_How [.t 31, .t 32]⟩])
    (.block 0 (.seq (.region [⟨some 35, none, .bin false .eql (.t 33) (.c (.int .i64 1))⟩,
      ⟨some 34, none, .mov (.t 35)⟩])
    (.cond (.t 34) (.seq (.region [⟨some 36, none, .mov (.t 0)⟩,
      ⟨some 37, none, .load 1 true (.t 6)⟩,
      ⟨some 38, none, .mov (.t 2)⟩,
      ⟨some 39, none, .load 7 true (.t 13)⟩,
      ⟨some 40, none, .mov (.t 3)⟩,
      ⟨some 41, none, .mov (.t 4)⟩,
      ⟨some 42, none, .call i_interp_cursor_put [.t 36, .t 37, .t 38, .t 39, .t 40, .t 41]⟩])
    (.seq (.region [⟨some 10, none, .mov (.c (.bool true))⟩])
    .ret))
    (.seq (.region [⟨some 44, none, .bin false .eql (.t 33) (.c (.int .i64 2))⟩,
      ⟨some 43, none, .mov (.t 44)⟩])
    (.cond (.t 43) (.seq (.region [⟨some 45, none, .mov (.t 0)⟩,
      ⟨some 46, none, .load 1 true (.t 6)⟩,
      ⟨some 47, none, .load 7 true (.t 13)⟩,
      ⟨some 48, none, .mov (.t 4)⟩,
      ⟨some 49, none, .call i_interp_cursor_row [.t 45, .t 46, .t 47, .t 48]⟩])
    (.seq (.region [⟨some 10, none, .mov (.c (.bool true))⟩])
    .ret))
    .skip))))))
    .skip)))
    (.seq (.draw [8, 9, 10, 13, 1000004, 2000010, 2000013] [⟨some 50, none, .mov (.t 4)⟩,
      ⟨some 51, none, .mov (.t 4)⟩,
      ⟨some 52, none, .nilck (.t 51)⟩,
      ⟨some 53, none, .fldA 1 1 false (.t 52)⟩,
      ⟨some 54, none, .load 1 false (.t 53)⟩,
      ⟨some 55, none, .mov (.t 0)⟩,
      ⟨some 56, none, .mov (.t 11)⟩,
      ⟨some 57, none, .mov (.t 12)⟩,
      ⟨some 58, none, .call i_interp_cursor_rest [.t 55, .t 56, .t 57]⟩,
      ⟨some 59, none, .blit 0 40 4 [.t 58]⟩,
      ⟨some 60, none, .app 0 40 4 48 (.t 54) (.t 59)⟩,
      ⟨some 61, none, .nilck (.t 50)⟩,
      ⟨some 62, none, .fldA 1 1 false (.t 61)⟩,
      ⟨none, none, .store 1 (.t 62) (.t 60)⟩])
    (.seq (.region [⟨some 10, none, .mov (.c (.bool false))⟩])
    .ret))))), [.tmp 10]⟩
theorem T_interp_cursor_entry : trFn Tryz.prog [(0, [1, 0]), (2, [0, 0, 0, 0, 0, 0, 0, 0, 0, 0, 1, 0, 0]), (11, [0, 0, 0, 0, 0, 0, 0, 0, 0, 1, 0, 0, 0, 0]), (1000011, [8, 9, 10, 13, 1000004, 2000010, 2000013])] Tryz.f144 = some A_interp_cursor_entry := by kernel_rfl
theorem L_interp_cursor_entry : 5 ≤ Tryz.f144.ntmps := by decide

/-! cartouche/table.Good -/
def A_table_Good : AFn := ⟨(.seq (.region [⟨some 1, none, .box 0 (.t 0)⟩,
      ⟨some 2, none, .mov (.c (.bool false))⟩])
    (.seq (.seq (.region [⟨some 8, none, .fldA 0 1 false (.t 1)⟩,
      ⟨some 9, none, .load 1 false (.t 8)⟩,
      ⟨some 10, none, .len false (.t 9)⟩,
      ⟨some 11, none, .bin false .gtr (.t 10) (.c (.int .i64 128))⟩])
    (.cond (.t 11) (.seq (.region [⟨some 2, none, .mov (.c (.bool false))⟩])
    .ret)
    .skip))
    (.seq (.region [⟨some 12, none, .mkmap 0 .str⟩,
      ⟨some 3, none, .mov (.t 12)⟩])
    (.seq (.seq (.region [⟨some 13, none, .fldA 0 1 false (.t 1)⟩,
      ⟨some 14, none, .load 1 false (.t 13)⟩,
      ⟨some 15, none, .len false (.t 14)⟩,
      ⟨some 16, none, .mov (.c (.int .i64 0))⟩])
    (.block 0 (.loop (.seq (.region [⟨some 17, none, .bin false .lss (.t 16) (.t 15)⟩])
    (.seq (.cond (.t 17) .skip
    (.exit 0))
    (.seq (.block 1 (.seq (.region [⟨some 18, none, .mov (.t 16)⟩,
      ⟨some 19, none, .idxA 6 (.t 14) (.t 16)⟩,
      ⟨some 20, none, .load 6 true (.t 19)⟩,
      ⟨some 5, none, .alloc 0 [.str ⟨#[]⟩, .bool false, .nil, .nil, .nil, .nil]⟩,
      ⟨some 4, none, .mov (.t 18)⟩,
      ⟨none, none, .store 6 (.t 5) (.t 20)⟩])
    (.seq (.seq (.region [⟨some 22, none, .mov (.t 3)⟩,
      ⟨some 23, none, .fldA 0 1 false (.t 5)⟩,
      ⟨some 24, none, .load 1 false (.t 23)⟩,
      ⟨some 25, none, .look .str (.int .i64 0) true (.t 22) (.t 24)⟩,
      ⟨some 21, none, .mov (.t 25)⟩,
      ⟨some 26, none, .ext 0 (.t 21)⟩,
      ⟨some 27, none, .ext 1 (.t 21)⟩,
      ⟨some 6, none, .mov (.t 26)⟩,
      ⟨some 7, none, .mov (.t 27)⟩])
    (.seq (.region [⟨some 28, none, .mov (.t 7)⟩,
      ⟨some 29, none, .mov (.t 28)⟩,
      ⟨some 30, some (29, false), .load 1 true (.t 1)⟩,
      ⟨some 31, some (29, false), .mov (.t 4)⟩,
      ⟨some 32, some (29, false), .mov (.t 3)⟩,
      ⟨some 33, some (29, false), .call i_table_goodName [.t 30, .t 31, .t 32]⟩,
      ⟨some 34, some (29, false), .un .not (.t 33)⟩,
      ⟨some 35, none, .pickb (.t 29) (.c (.bool true)) (.t 34)⟩])
    (.cond (.t 35) (.seq (.region [⟨some 2, none, .mov (.c (.bool false))⟩])
    .ret)
    .skip)))
    (.seq (.region [⟨some 36, none, .mov (.t 3)⟩,
      ⟨some 37, none, .fldA 0 1 false (.t 5)⟩,
      ⟨some 38, none, .load 1 false (.t 37)⟩,
      ⟨some 39, none, .mov (.t 4)⟩,
      ⟨none, none, .mapset .str (.t 36) (.t 38) (.t 39)⟩])
    (.seq (.region [⟨some 40, none, .fldA 1 1 false (.t 5)⟩,
      ⟨some 41, none, .load 1 false (.t 40)⟩,
      ⟨some 42, none, .mov (.t 41)⟩,
      ⟨some 43, some (42, true), .load 6 true (.t 5)⟩,
      ⟨some 44, some (42, true), .call i_table_goodEnum [.t 43]⟩,
      ⟨some 45, some (42, true), .un .not (.t 44)⟩,
      ⟨some 46, none, .pickb (.t 42) (.t 45) (.c (.bool false))⟩,
      ⟨some 47, none, .mov (.t 46)⟩,
      ⟨some 48, some (47, false), .fldA 1 1 false (.t 5)⟩,
      ⟨some 49, some (47, false), .load 1 false (.t 48)⟩,
      ⟨some 50, some (47, false), .un .not (.t 49)⟩,
      ⟨some 51, some (47, false), .mov (.t 50)⟩,
      ⟨some 52, some (51, true), .load 1 true (.t 1)⟩,
      ⟨some 53, some (51, true), .load 6 true (.t 5)⟩,
      ⟨some 54, some (51, true), .call i_table_goodMessage [.t 52, .t 53]⟩,
      ⟨some 55, some (51, true), .un .not (.t 54)⟩,
      ⟨some 56, some (47, false), .pickb (.t 51) (.t 55) (.c (.bool false))⟩,
      ⟨some 57, none, .pickb (.t 47) (.c (.bool true)) (.t 56)⟩])
    (.cond (.t 57) (.seq (.region [⟨some 2, none, .mov (.c (.bool false))⟩])
    .ret)
    .skip))))))
    (.region [⟨some 58, none, .bin false .add (.t 16) (.c (.int .i64 1))⟩,
      ⟨some 16, none, .mov (.t 58)⟩])))))))
    (.seq (.region [⟨some 2, none, .mov (.c (.bool true))⟩])
    .ret))))), [.tmp 2]⟩
theorem T_table_Good : trFn Tryz.prog [(0, [1, 0]), (6, [0, 0, 0, 1, 0, 0])] Tryz.f145 = some A_table_Good := by kernel_rfl
theorem L_table_Good : 1 ≤ Tryz.f145.ntmps := by decide

/-! cartouche/cartoucheref1.Same -/
def A_cartoucheref1_Same : AFn := ⟨(.seq (.region [⟨some 2, none, .box 0 (.t 0)⟩,
      ⟨some 3, none, .box 0 (.t 1)⟩,
      ⟨some 4, none, .mov (.c (.bool false))⟩])
    (.seq (.region [⟨some 5, none, .fldA 0 1 false (.t 2)⟩,
      ⟨some 6, none, .load 1 false (.t 5)⟩,
      ⟨some 7, none, .fldA 0 1 false (.t 3)⟩,
      ⟨some 8, none, .load 1 false (.t 7)⟩,
      ⟨some 9, none, .bin false .eql (.t 6) (.t 8)⟩,
      ⟨some 10, none, .mov (.t 9)⟩,
      ⟨some 11, some (10, true), .fldA 1 1 false (.t 2)⟩,
      ⟨some 12, some (10, true), .load 1 false (.t 11)⟩,
      ⟨some 13, some (10, true), .fldA 1 1 false (.t 3)⟩,
      ⟨some 14, some (10, true), .load 1 false (.t 13)⟩,
      ⟨some 15, some (10, true), .bin false .eql (.t 12) (.t 14)⟩,
      ⟨some 16, none, .pickb (.t 10) (.t 15) (.c (.bool false))⟩,
      ⟨some 17, none, .mov (.t 16)⟩,
      ⟨some 18, some (17, true), .fldA 2 1 false (.t 2)⟩,
      ⟨some 19, some (17, true), .load 1 false (.t 18)⟩,
      ⟨some 20, some (17, true), .fldA 2 1 false (.t 3)⟩,
      ⟨some 21, some (17, true), .load 1 false (.t 20)⟩,
      ⟨some 22, some (17, true), .bin false .eql (.t 19) (.t 21)⟩,
      ⟨some 23, none, .pickb (.t 17) (.t 22) (.c (.bool false))⟩,
      ⟨some 24, none, .mov (.t 23)⟩,
      ⟨some 25, some (24, true), .fldA 3 1 false (.t 2)⟩,
      ⟨some 26, some (24, true), .load 1 false (.t 25)⟩,
      ⟨some 27, some (24, true), .b2s (.t 26)⟩,
      ⟨some 28, some (24, true), .fldA 3 1 false (.t 3)⟩,
      ⟨some 29, some (24, true), .load 1 false (.t 28)⟩,
      ⟨some 30, some (24, true), .b2s (.t 29)⟩,
      ⟨some 31, some (24, true), .bin false .eql (.t 27) (.t 30)⟩,
      ⟨some 32, none, .pickb (.t 24) (.t 31) (.c (.bool false))⟩,
      ⟨some 4, none, .mov (.t 32)⟩])
    .ret)), [.tmp 4]⟩
theorem T_cartoucheref1_Same : trFn Tryz.prog [(0, [1, 1, 0])] Tryz.f154 = some A_cartoucheref1_Same := by kernel_rfl
theorem L_cartoucheref1_Same : 2 ≤ Tryz.f154.ntmps := by decide

/-! cartouche/wire.Join -/
def A_wire_Join : AFn := ⟨(.seq (.region [⟨some 2, none, .mov (.c (.nil))⟩,
      ⟨some 3, none, .mov (.c (.int .i64 0))⟩])
    (.seq (.region [⟨some 4, none, .mov (.c (.nil))⟩])
    (.seq (.seq (.region [⟨some 9, none, .mov (.t 0)⟩,
      ⟨some 10, none, .len false (.t 9)⟩,
      ⟨some 11, none, .mov (.c (.int .i64 0))⟩])
    (.block 0 (.loop (.seq (.region [⟨some 12, none, .bin false .lss (.t 11) (.t 10)⟩])
    (.seq (.cond (.t 12) .skip
    (.exit 0))
    (.seq (.block 1 (.seq (.region [⟨some 13, none, .idxA 4 (.t 9) (.t 11)⟩,
      ⟨some 14, none, .load 4 true (.t 13)⟩,
      ⟨some 6, none, .alloc 0 [.int .i64 0, .int .i64 0, .int .u64 0, .nil]⟩,
      ⟨none, none, .store 4 (.t 6) (.t 14)⟩])
    (.seq (.region [⟨some 16, none, .load 4 true (.t 6)⟩,
      ⟨some 17, none, .call i_wire_PutEntry [.t 16]⟩,
      ⟨some 15, none, .mov (.t 17)⟩,
      ⟨some 18, none, .ext 0 (.t 15)⟩,
      ⟨some 19, none, .ext 1 (.t 15)⟩,
      ⟨some 7, none, .mov (.t 18)⟩,
      ⟨some 8, none, .mov (.t 19)⟩])
    (.seq (.seq (.region [⟨some 20, none, .mov (.t 8)⟩,
      ⟨some 21, none, .bin false .neq (.t 20) (.c (.int .i64 0))⟩])
    (.cond (.t 21) (.seq (.region [⟨some 22, none, .mov (.t 8)⟩,
      ⟨some 2, none, .mov (.c (.nil))⟩,
      ⟨some 3, none, .mov (.t 22)⟩])
    .ret)
    .skip))
    (.region [⟨some 23, none, .mov (.t 4)⟩,
      ⟨some 24, none, .mov (.t 7)⟩,
      ⟨some 25, none, .app 0 5 1 1 (.t 23) (.t 24)⟩,
      ⟨some 4, none, .mov (.t 25)⟩])))))
    (.region [⟨some 26, none, .bin false .add (.t 11) (.c (.int .i64 1))⟩,
      ⟨some 11, none, .mov (.t 26)⟩])))))))
    (.seq (.region [⟨some 27, none, .mov (.t 4)⟩,
      ⟨some 28, none, .len false (.t 27)⟩,
      ⟨some 29, none, .mks 0 5 1 1 (.int .u8 0) (.c (.int .i64 0)) (.t 28)⟩,
      ⟨some 30, none, .mov (.t 4)⟩,
      ⟨some 31, none, .app 0 5 1 1 (.t 29) (.t 30)⟩,
      ⟨some 2, none, .mov (.t 31)⟩,
      ⟨some 3, none, .mov (.c (.int .i64 0))⟩])
    .ret)))), [.tmp 2, .tmp 3]⟩
theorem T_wire_Join : trFn Tryz.prog [(4, [0, 0, 1, 0])] Tryz.f159 = some A_wire_Join := by kernel_rfl
theorem L_wire_Join : 1 ≤ Tryz.f159.ntmps := by decide

/-! cartouche/wire.PutEntry -/
def A_wire_PutEntry : AFn := ⟨(.seq (.region [⟨some 1, none, .box 0 (.t 0)⟩,
      ⟨some 2, none, .mov (.c (.nil))⟩,
      ⟨some 3, none, .mov (.c (.int .i64 0))⟩])
    (.seq (.region [⟨some 7, none, .fldA 0 1 false (.t 1)⟩,
      ⟨some 8, none, .load 1 false (.t 7)⟩,
      ⟨some 9, none, .fldA 1 1 false (.t 1)⟩,
      ⟨some 10, none, .load 1 false (.t 9)⟩,
      ⟨some 11, none, .call i_wire_PutTag [.t 8, .t 10]⟩,
      ⟨some 6, none, .mov (.t 11)⟩,
      ⟨some 12, none, .ext 0 (.t 6)⟩,
      ⟨some 13, none, .ext 1 (.t 6)⟩,
      ⟨some 4, none, .mov (.t 12)⟩,
      ⟨some 5, none, .mov (.t 13)⟩])
    (.seq (.block 0 (.seq (.region [⟨some 15, none, .mov (.t 5)⟩,
      ⟨some 16, none, .bin false .neq (.t 15) (.c (.int .i64 0))⟩,
      ⟨some 14, none, .mov (.t 16)⟩])
    (.cond (.t 14) (.seq (.region [⟨some 17, none, .mov (.t 5)⟩,
      ⟨some 2, none, .mov (.c (.nil))⟩,
      ⟨some 3, none, .mov (.t 17)⟩])
    .ret)
    (.seq (.seq (.region [⟨some 19, none, .fldA 1 1 false (.t 1)⟩,
      ⟨some 20, none, .load 1 false (.t 19)⟩,
      ⟨some 21, none, .bin false .eql (.t 20) (.c (.int .i64 5))⟩,
      ⟨some 22, none, .mov (.t 21)⟩,
      ⟨some 23, some (22, true), .fldA 2 1 false (.t 1)⟩,
      ⟨some 24, some (22, true), .load 1 false (.t 23)⟩,
      ⟨some 25, some (22, true), .bin false .shr (.t 24) (.c (.int .u64 32))⟩,
      ⟨some 26, some (22, true), .bin false .neq (.t 25) (.c (.int .u64 0))⟩,
      ⟨some 27, none, .pickb (.t 22) (.t 26) (.c (.bool false))⟩,
      ⟨some 18, none, .mov (.t 27)⟩])
    (.cond (.t 18) .skip
    (.seq (.region [⟨some 28, none, .fldA 1 1 false (.t 1)⟩,
      ⟨some 29, none, .load 1 false (.t 28)⟩,
      ⟨some 30, none, .bin false .eql (.t 29) (.c (.int .i64 2))⟩,
      ⟨some 31, none, .mov (.t 30)⟩,
      ⟨some 32, some (31, true), .fldA 2 1 false (.t 1)⟩,
      ⟨some 33, some (31, true), .load 1 false (.t 32)⟩,
      ⟨some 34, some (31, true), .bin false .neq (.t 33) (.c (.int .u64 0))⟩,
      ⟨some 35, none, .pickb (.t 31) (.t 34) (.c (.bool false))⟩,
      ⟨some 18, none, .mov (.t 35)⟩])
    (.cond (.t 18) .skip
    (.region [⟨some 36, none, .fldA 1 1 false (.t 1)⟩,
      ⟨some 37, none, .load 1 false (.t 36)⟩,
      ⟨some 38, none, .bin false .neq (.t 37) (.c (.int .i64 2))⟩,
      ⟨some 39, none, .mov (.t 38)⟩,
      ⟨some 40, some (39, true), .fldA 3 1 false (.t 1)⟩,
      ⟨some 41, some (39, true), .load 1 false (.t 40)⟩,
      ⟨some 42, some (39, true), .len false (.t 41)⟩,
      ⟨some 43, some (39, true), .bin false .gtr (.t 42) (.c (.int .i64 0))⟩,
      ⟨some 44, none, .pickb (.t 39) (.t 43) (.c (.bool false))⟩,
      ⟨some 18, none, .mov (.t 44)⟩])))))
    (.cond (.t 18) (.seq (.region [⟨some 2, none, .mov (.c (.nil))⟩,
      ⟨some 3, none, .mov (.c (.int .i64 7))⟩])
    .ret)
    .skip)))))
    (.seq (.seq (.region [⟨some 45, none, .fldA 1 1 false (.t 1)⟩,
      ⟨some 46, none, .load 1 false (.t 45)⟩])
    (.block 1 (.seq (.region [⟨some 57, none, .bin false .eql (.t 46) (.c (.int .i64 0))⟩,
      ⟨some 56, none, .mov (.t 57)⟩])
    (.cond (.t 56) (.region [⟨some 58, none, .mov (.t 4)⟩,
      ⟨some 59, none, .fldA 2 1 false (.t 1)⟩,
      ⟨some 60, none, .load 1 false (.t 59)⟩,
      ⟨some 61, none, .call i_wire_varint [.t 58, .t 60]⟩,
      ⟨some 4, none, .mov (.t 61)⟩])
    (.seq (.region [⟨some 63, none, .bin false .eql (.t 46) (.c (.int .i64 1))⟩,
      ⟨some 62, none, .mov (.t 63)⟩])
    (.cond (.t 62) (.region [⟨some 64, none, .mov (.t 4)⟩,
      ⟨some 65, none, .fldA 2 1 false (.t 1)⟩,
      ⟨some 66, none, .load 1 false (.t 65)⟩,
      ⟨some 67, none, .call i_wire_word [.t 66, .c (.int .i64 8)]⟩,
      ⟨some 68, none, .app 0 5 1 1 (.t 64) (.t 67)⟩,
      ⟨some 4, none, .mov (.t 68)⟩])
    (.seq (.region [⟨some 70, none, .bin false .eql (.t 46) (.c (.int .i64 5))⟩,
      ⟨some 69, none, .mov (.t 70)⟩])
    (.cond (.t 69) (.region [⟨some 71, none, .mov (.t 4)⟩,
      ⟨some 72, none, .fldA 2 1 false (.t 1)⟩,
      ⟨some 73, none, .load 1 false (.t 72)⟩,
      ⟨some 74, none, .call i_wire_word [.t 73, .c (.int .i64 4)]⟩,
      ⟨some 75, none, .app 0 5 1 1 (.t 71) (.t 74)⟩,
      ⟨some 4, none, .mov (.t 75)⟩])
    (.draw [2, 3, 5, 8, 1000007, 2000008] [⟨some 47, none, .mov (.t 4)⟩,
      ⟨some 48, none, .fldA 3 1 false (.t 1)⟩,
      ⟨some 49, none, .load 1 false (.t 48)⟩,
      ⟨some 50, none, .len false (.t 49)⟩,
      ⟨some 51, none, .conv .u64 (.t 50)⟩,
      ⟨some 52, none, .call i_wire_varint [.t 47, .t 51]⟩,
      ⟨some 53, none, .fldA 3 1 false (.t 1)⟩,
      ⟨some 54, none, .load 1 false (.t 53)⟩,
      ⟨some 55, none, .app 0 5 1 1 (.t 52) (.t 54)⟩,
      ⟨some 4, none, .mov (.t 55)⟩])))))))))
    (.seq (.region [⟨some 76, none, .mov (.t 4)⟩,
      ⟨some 77, none, .len false (.t 76)⟩,
      ⟨some 78, none, .mks 0 5 1 1 (.int .u8 0) (.c (.int .i64 0)) (.t 77)⟩,
      ⟨some 79, none, .mov (.t 4)⟩,
      ⟨some 80, none, .app 0 5 1 1 (.t 78) (.t 79)⟩,
      ⟨some 2, none, .mov (.t 80)⟩,
      ⟨some 3, none, .mov (.c (.int .i64 0))⟩])
    .ret))))), [.tmp 2, .tmp 3]⟩
theorem T_wire_PutEntry : trFn Tryz.prog [(0, [1, 0, 0]), (1000009, [2, 3, 5, 8, 1000007, 2000008])] Tryz.f160 = some A_wire_PutEntry := by kernel_rfl
theorem L_wire_PutEntry : 1 ≤ Tryz.f160.ntmps := by decide

/-! cartouche/wire.varint -/
def A_wire_varint : AFn := ⟨(.seq (.region [⟨some 4, none, .mov (.c (.nil))⟩])
    (.seq (.block 0 (.loop (.seq (.seq (.region [⟨some 5, none, .mov (.t 1)⟩,
      ⟨some 6, none, .bin false .geq (.t 5) (.c (.int .u64 128))⟩])
    (.cond (.t 6) .skip
    (.exit 0)))
    (.block 1 (.seq (.region [⟨some 7, none, .mov (.t 0)⟩,
      ⟨some 8, none, .mov (.t 1)⟩,
      ⟨some 9, none, .conv .u8 (.t 8)⟩,
      ⟨some 10, none, .bin false .or (.t 9) (.c (.int .u8 128))⟩,
      ⟨some 11, none, .blit 0 5 1 [.t 10]⟩,
      ⟨some 12, none, .app 0 5 1 1 (.t 7) (.t 11)⟩,
      ⟨some 0, none, .mov (.t 12)⟩])
    (.region [⟨some 13, none, .mov (.t 1)⟩,
      ⟨some 14, none, .bin false .shr (.t 13) (.c (.int .u64 7))⟩,
      ⟨some 1, none, .mov (.t 14)⟩]))))))
    (.seq (.region [⟨some 15, none, .mov (.t 0)⟩,
      ⟨some 16, none, .mov (.t 1)⟩,
      ⟨some 17, none, .conv .u8 (.t 16)⟩,
      ⟨some 18, none, .blit 0 5 1 [.t 17]⟩,
      ⟨some 19, none, .app 0 5 1 1 (.t 15) (.t 18)⟩,
      ⟨some 4, none, .mov (.t 19)⟩])
    .ret))), [.tmp 4]⟩
theorem T_wire_varint : trFn Tryz.prog [(2, [0, 0, 0, 0, 1, 0, 0]), (4, [0, 0, 0, 1, 0, 0])] Tryz.f163 = some A_wire_varint := by kernel_rfl
theorem L_wire_varint : 2 ≤ Tryz.f163.ntmps := by decide

/-! cartouche/wire.Size -/
def A_wire_Size : AFn := ⟨(.seq (.region [⟨some 2, none, .mov (.c (.int .i64 0))⟩])
    (.seq (.region [⟨some 3, none, .mov (.t 0)⟩,
      ⟨some 4, none, .call i_bits_Len64 [.t 3]⟩,
      ⟨some 5, none, .mm true (.c (.int .i64 1)) (.t 4)⟩,
      ⟨some 6, none, .bin false .add (.t 5) (.c (.int .i64 7))⟩,
      ⟨some 7, none, .bin false .sub (.t 6) (.c (.int .i64 1))⟩,
      ⟨some 8, none, .bin false .quo (.t 7) (.c (.int .i64 7))⟩,
      ⟨some 2, none, .mov (.t 8)⟩])
    .ret)), [.tmp 2]⟩
theorem T_wire_Size : trFn Tryz.prog [] Tryz.f164 = some A_wire_Size := by kernel_rfl
theorem L_wire_Size : 1 ≤ Tryz.f164.ntmps := by decide

/-! cartouche/wire.word -/
def A_wire_word : AFn := ⟨(.seq (.region [⟨some 4, none, .mov (.c (.nil))⟩])
    (.seq (.region [⟨some 7, none, .mov (.t 1)⟩,
      ⟨some 8, none, .mks 0 5 1 1 (.int .u8 0) (.c (.int .i64 0)) (.t 7)⟩,
      ⟨some 5, none, .mov (.t 8)⟩])
    (.seq (.seq (.region [⟨some 9, none, .mov (.t 1)⟩,
      ⟨some 10, none, .mov (.c (.int .i64 0))⟩])
    (.block 0 (.loop (.seq (.region [⟨some 11, none, .bin false .lss (.t 10) (.t 9)⟩])
    (.seq (.cond (.t 11) .skip
    (.exit 0))
    (.seq (.block 1 (.seq (.region [⟨some 12, none, .mov (.t 10)⟩,
      ⟨some 6, none, .mov (.t 12)⟩])
    (.region [⟨some 13, none, .mov (.t 5)⟩,
      ⟨some 14, none, .mov (.t 0)⟩,
      ⟨some 15, none, .mov (.t 6)⟩,
      ⟨some 16, none, .bin false .mul (.c (.int .i64 8)) (.t 15)⟩,
      ⟨some 17, none, .bin false .shr (.t 14) (.t 16)⟩,
      ⟨some 18, none, .conv .u8 (.t 17)⟩,
      ⟨some 19, none, .blit 0 5 1 [.t 18]⟩,
      ⟨some 20, none, .app 0 5 1 1 (.t 13) (.t 19)⟩,
      ⟨some 5, none, .mov (.t 20)⟩])))
    (.region [⟨some 21, none, .bin false .add (.t 10) (.c (.int .i64 1))⟩,
      ⟨some 10, none, .mov (.t 21)⟩])))))))
    (.seq (.region [⟨some 22, none, .mov (.t 5)⟩,
      ⟨some 4, none, .mov (.t 22)⟩])
    .ret)))), [.tmp 4]⟩
theorem T_wire_word : trFn Tryz.prog [(5, [0, 0, 0, 0, 0, 0, 1, 0, 0])] Tryz.f165 = some A_wire_word := by kernel_rfl
theorem L_wire_word : 2 ≤ Tryz.f165.ntmps := by decide

/-! cartouche/wire.GetVarint -/
def A_wire_GetVarint : AFn := ⟨(.seq (.region [⟨some 4, none, .mov (.c (.int .u64 0))⟩,
      ⟨some 5, none, .mov (.c (.int .i64 0))⟩,
      ⟨some 6, none, .mov (.c (.int .i64 0))⟩])
    (.scope (.seq (.seq (.region [⟨some 9, none, .mov (.t 0)⟩,
      ⟨some 10, none, .mov (.t 1)⟩,
      ⟨some 11, none, .call i_wire_place [.t 9, .t 10]⟩,
      ⟨some 12, none, .un .not (.t 11)⟩])
    (.cond (.t 12) (.seq (.region [⟨some 4, none, .mov (.c (.int .u64 0))⟩,
      ⟨some 5, none, .mov (.c (.int .i64 0))⟩,
      ⟨some 6, none, .mov (.c (.int .i64 18))⟩])
    .ret)
    .skip))
    (.seq .label
    (.seq (.seq (.region [⟨some 13, none, .mov (.c (.int .i64 0))⟩])
    (.block 0 (.loop (.seq (.region [⟨some 14, none, .bin false .lss (.t 13) (.c (.int .i64 10))⟩])
    (.seq (.cond (.t 14) .skip
    (.exit 0))
    (.seq (.block 1 (.seq (.region [⟨some 15, none, .mov (.t 13)⟩,
      ⟨some 7, none, .mov (.t 15)⟩])
    (.seq (.seq (.region [⟨some 16, none, .mov (.t 1)⟩,
      ⟨some 17, none, .mov (.t 7)⟩,
      ⟨some 18, none, .bin false .add (.t 16) (.t 17)⟩,
      ⟨some 19, none, .mov (.t 0)⟩,
      ⟨some 20, none, .len false (.t 19)⟩,
      ⟨some 21, none, .bin false .eql (.t 18) (.t 20)⟩])
    (.cond (.t 21) (.exit 0)
    .skip))
    (.seq (.region [⟨some 22, none, .mov (.t 0)⟩,
      ⟨some 23, none, .mov (.t 1)⟩,
      ⟨some 24, none, .mov (.t 7)⟩,
      ⟨some 25, none, .bin false .add (.t 23) (.t 24)⟩,
      ⟨some 26, none, .idxA 1 (.t 22) (.t 25)⟩,
      ⟨some 27, none, .load 1 false (.t 26)⟩,
      ⟨some 8, none, .mov (.t 27)⟩])
    (.seq (.seq (.region [⟨some 28, none, .mov (.t 7)⟩,
      ⟨some 29, none, .bin false .eql (.t 28) (.c (.int .i64 9))⟩,
      ⟨some 30, none, .mov (.t 29)⟩,
      ⟨some 31, some (30, true), .mov (.t 8)⟩,
      ⟨some 32, some (30, true), .bin false .gtr (.t 31) (.c (.int .u8 1))⟩,
      ⟨some 33, none, .pickb (.t 30) (.t 32) (.c (.bool false))⟩])
    (.cond (.t 33) (.seq (.region [⟨some 4, none, .mov (.c (.int .u64 0))⟩,
      ⟨some 5, none, .mov (.c (.int .i64 0))⟩,
      ⟨some 6, none, .mov (.c (.int .i64 4))⟩])
    .ret)
    .skip))
    (.seq (.region [⟨some 34, none, .mov (.t 4)⟩,
      ⟨some 35, none, .mov (.t 8)⟩,
      ⟨some 36, none, .bin false .and (.t 35) (.c (.int .u8 127))⟩,
      ⟨some 37, none, .conv .u64 (.t 36)⟩,
      ⟨some 38, none, .mov (.t 7)⟩,
      ⟨some 39, none, .bin false .mul (.c (.int .i64 7)) (.t 38)⟩,
      ⟨some 40, none, .bin false .shl (.t 37) (.t 39)⟩,
      ⟨some 41, none, .bin false .or (.t 34) (.t 40)⟩,
      ⟨some 4, none, .mov (.t 41)⟩])
    (.seq (.region [⟨some 42, none, .mov (.t 8)⟩,
      ⟨some 43, none, .bin false .lss (.t 42) (.c (.int .u8 128))⟩])
    (.cond (.t 43) (.seq (.region [⟨some 44, none, .mov (.t 4)⟩,
      ⟨some 45, none, .mov (.t 1)⟩,
      ⟨some 46, none, .mov (.t 7)⟩,
      ⟨some 47, none, .bin false .add (.t 45) (.t 46)⟩,
      ⟨some 48, none, .bin false .add (.t 47) (.c (.int .i64 1))⟩,
      ⟨some 4, none, .mov (.t 44)⟩,
      ⟨some 5, none, .mov (.t 48)⟩,
      ⟨some 6, none, .mov (.c (.int .i64 0))⟩])
    .ret)
    .skip))))))))
    (.region [⟨some 49, none, .bin false .add (.t 13) (.c (.int .i64 1))⟩,
      ⟨some 13, none, .mov (.t 49)⟩])))))))
    (.seq (.region [⟨some 4, none, .mov (.c (.int .u64 0))⟩,
      ⟨some 5, none, .mov (.c (.int .i64 0))⟩,
      ⟨some 6, none, .mov (.c (.int .i64 3))⟩])
    .ret)))))), [.tmp 4, .tmp 5, .tmp 6]⟩
theorem T_wire_GetVarint : trFn Tryz.prog [] Tryz.f166 = some A_wire_GetVarint := by kernel_rfl
theorem L_wire_GetVarint : 2 ≤ Tryz.f166.ntmps := by decide

/-! cartouche/wire.GetFix32 -/
def A_wire_GetFix32 : AFn := ⟨(.seq (.region [⟨some 4, none, .mov (.c (.int .u32 0))⟩,
      ⟨some 5, none, .mov (.c (.int .i64 0))⟩,
      ⟨some 6, none, .mov (.c (.int .i64 0))⟩])
    (.seq (.region [⟨some 9, none, .mov (.t 0)⟩,
      ⟨some 10, none, .mov (.t 1)⟩,
      ⟨some 11, none, .call i_wire_read [.t 9, .t 10, .c (.int .i64 4)]⟩,
      ⟨some 8, none, .mov (.t 11)⟩,
      ⟨some 12, none, .ext 0 (.t 8)⟩,
      ⟨some 13, none, .ext 1 (.t 8)⟩,
      ⟨some 14, none, .ext 2 (.t 8)⟩,
      ⟨some 7, none, .mov (.t 12)⟩,
      ⟨some 5, none, .mov (.t 13)⟩,
      ⟨some 6, none, .mov (.t 14)⟩])
    (.seq (.region [⟨some 15, none, .mov (.t 7)⟩,
      ⟨some 16, none, .conv .u32 (.t 15)⟩,
      ⟨some 17, none, .mov (.t 5)⟩,
      ⟨some 18, none, .mov (.t 6)⟩,
      ⟨some 4, none, .mov (.t 16)⟩,
      ⟨some 5, none, .mov (.t 17)⟩,
      ⟨some 6, none, .mov (.t 18)⟩])
    .ret))), [.tmp 4, .tmp 5, .tmp 6]⟩
theorem T_wire_GetFix32 : trFn Tryz.prog [] Tryz.f167 = some A_wire_GetFix32 := by kernel_rfl
theorem L_wire_GetFix32 : 2 ≤ Tryz.f167.ntmps := by decide

/-! cartouche/table.sort -/
def A_table_sort : AFn := ⟨(.seq (.region [⟨some 3, none, .box 0 (.t 0)⟩,
      ⟨some 6, none, .mov (.c (.bool false))⟩])
    (.seq (.region [⟨some 7, none, .mov (.t 1)⟩,
      ⟨some 8, none, .bin false .geq (.t 7) (.c (.int .i64 0))⟩,
      ⟨some 9, none, .mov (.t 8)⟩,
      ⟨some 10, some (9, true), .mov (.t 1)⟩,
      ⟨some 11, some (9, true), .fldA 0 1 false (.t 3)⟩,
      ⟨some 12, some (9, true), .load 1 false (.t 11)⟩,
      ⟨some 13, some (9, true), .len false (.t 12)⟩,
      ⟨some 14, some (9, true), .bin false .lss (.t 10) (.t 13)⟩,
      ⟨some 15, none, .pickb (.t 9) (.t 14) (.c (.bool false))⟩,
      ⟨some 16, none, .mov (.t 15)⟩,
      ⟨some 17, some (16, true), .fldA 0 1 false (.t 3)⟩,
      ⟨some 18, some (16, true), .load 1 false (.t 17)⟩,
      ⟨some 19, some (16, true), .mov (.t 1)⟩,
      ⟨some 20, some (16, true), .idxA 6 (.t 18) (.t 19)⟩,
      ⟨some 21, some (16, true), .fldA 1 1 false (.t 20)⟩,
      ⟨some 22, some (16, true), .load 1 false (.t 21)⟩,
      ⟨some 23, some (16, true), .mov (.t 2)⟩,
      ⟨some 24, some (16, true), .bin true .eql (.t 22) (.t 23)⟩,
      ⟨some 25, none, .pickb (.t 16) (.t 24) (.c (.bool false))⟩,
      ⟨some 6, none, .mov (.t 25)⟩])
    .ret)), [.tmp 6]⟩
theorem T_table_sort : trFn Tryz.prog [(0, [1, 0])] Tryz.f172 = some A_table_sort := by kernel_rfl
theorem L_table_sort : 3 ≤ Tryz.f172.ntmps := by decide

/-! cartouche/model.typedField -/
def A_model_typedField : AFn := ⟨(.seq (.region [⟨some 3, none, .box 0 (.t 0)⟩,
      ⟨some 4, none, .box 0 (.t 1)⟩,
      ⟨some 5, none, .box 0 (.t 2)⟩,
      ⟨some 6, none, .mov (.c (.bool false))⟩])
    (.seq (.seq (.region [⟨some 11, none, .fldA 4 1 false (.t 4)⟩,
      ⟨some 12, none, .load 1 false (.t 11)⟩])
    (.block 0 (.seq (.seq (.region [⟨some 18, none, .bin false .eql (.t 12) (.c (.int .i64 0))⟩,
      ⟨some 17, none, .mov (.t 18)⟩])
    (.cond (.t 17) .skip
    (.seq (.region [⟨some 19, none, .bin false .eql (.t 12) (.c (.int .i64 1))⟩,
      ⟨some 17, none, .mov (.t 19)⟩])
    (.cond (.t 17) .skip
    (.region [⟨some 20, none, .bin false .eql (.t 12) (.c (.int .i64 4))⟩,
      ⟨some 17, none, .mov (.t 20)⟩])))))
    (.cond (.t 17) (.seq (.region [⟨some 21, none, .fldA 2 1 false (.t 5)⟩,
      ⟨some 22, none, .load 1 false (.t 21)⟩,
      ⟨some 23, none, .len false (.t 22)⟩,
      ⟨some 24, none, .bin false .neq (.t 23) (.c (.int .i64 1))⟩,
      ⟨some 25, none, .mov (.t 24)⟩,
      ⟨some 26, some (25, false), .fldA 1 1 false (.t 5)⟩,
      ⟨some 27, some (25, false), .load 1 false (.t 26)⟩,
      ⟨some 28, some (25, false), .len false (.t 27)⟩,
      ⟨some 29, some (25, false), .bin false .gtr (.t 28) (.c (.int .i64 0))⟩,
      ⟨some 30, none, .pickb (.t 25) (.c (.bool true)) (.t 29)⟩])
    (.cond (.t 30) (.seq (.region [⟨some 6, none, .mov (.c (.bool false))⟩])
    .ret)
    .skip))
    (.seq (.region [⟨some 32, none, .bin false .eql (.t 12) (.c (.int .i64 5))⟩,
      ⟨some 31, none, .mov (.t 32)⟩])
    (.cond (.t 31) (.seq (.seq (.region [⟨some 33, none, .fldA 1 1 false (.t 5)⟩,
      ⟨some 34, none, .load 1 false (.t 33)⟩,
      ⟨some 35, none, .len false (.t 34)⟩,
      ⟨some 36, none, .fldA 2 1 false (.t 5)⟩,
      ⟨some 37, none, .load 1 false (.t 36)⟩,
      ⟨some 38, none, .len false (.t 37)⟩,
      ⟨some 39, none, .bin false .neq (.t 35) (.t 38)⟩])
    (.cond (.t 39) (.seq (.region [⟨some 6, none, .mov (.c (.bool false))⟩])
    .ret)
    .skip))
    (.seq (.region [⟨some 40, none, .fldA 1 1 false (.t 5)⟩,
      ⟨some 41, none, .load 1 false (.t 40)⟩,
      ⟨some 42, none, .len false (.t 41)⟩,
      ⟨some 43, none, .mov (.c (.int .i64 0))⟩])
    (.block 1 (.loop (.seq (.region [⟨some 44, none, .bin false .lss (.t 43) (.t 42)⟩])
    (.seq (.cond (.t 44) .skip
    (.exit 1))
    (.seq (.block 2 (.seq (.region [⟨some 45, none, .mov (.t 43)⟩,
      ⟨some 46, none, .idxA 3 (.t 41) (.t 43)⟩,
      ⟨some 47, none, .load 3 true (.t 46)⟩,
      ⟨some 8, none, .alloc 0 [.int .u64 0, .nil, .nil]⟩,
      ⟨some 7, none, .mov (.t 45)⟩,
      ⟨none, none, .store 3 (.t 8) (.t 47)⟩])
    (.seq (.seq (.region [⟨some 48, none, .load 1 true (.t 3)⟩,
      ⟨some 49, none, .fldA 6 1 false (.t 4)⟩,
      ⟨some 50, none, .load 1 false (.t 49)⟩,
      ⟨some 51, none, .load 3 true (.t 8)⟩,
      ⟨some 52, none, .call i_model_typedVal [.t 48, .t 50, .c (.int .i64 0), .t 51]⟩,
      ⟨some 53, none, .un .not (.t 52)⟩])
    (.cond (.t 53) (.seq (.region [⟨some 6, none, .mov (.c (.bool false))⟩])
    .ret)
    .skip))
    (.seq (.region [⟨some 54, none, .mov (.t 7)⟩,
      ⟨some 55, none, .bin false .gtr (.t 54) (.c (.int .i64 0))⟩])
    (.cond (.t 55) (.seq (.draw [1, 9, 1000003, 1000006, 1000007, 1000008, 2000009] [⟨some 57, none, .fldA 6 1 false (.t 4)⟩,
      ⟨some 58, none, .load 1 false (.t 57)⟩,
      ⟨some 59, none, .fldA 1 1 false (.t 5)⟩,
      ⟨some 60, none, .load 1 false (.t 59)⟩,
      ⟨some 61, none, .mov (.t 7)⟩,
      ⟨some 62, none, .bin false .sub (.t 61) (.c (.int .i64 1))⟩,
      ⟨some 63, none, .idxA 3 (.t 60) (.t 62)⟩,
      ⟨some 64, none, .load 3 true (.t 63)⟩,
      ⟨some 65, none, .load 3 true (.t 8)⟩,
      ⟨some 66, none, .call i_scalar_Compare [.t 58, .t 64, .t 65]⟩,
      ⟨some 56, none, .mov (.t 66)⟩,
      ⟨some 67, none, .ext 0 (.t 56)⟩,
      ⟨some 68, none, .ext 1 (.t 56)⟩,
      ⟨some 9, none, .mov (.t 67)⟩,
      ⟨some 10, none, .mov (.t 68)⟩])
    (.seq (.region [⟨some 69, none, .mov (.t 9)⟩,
      ⟨some 70, none, .bin false .geq (.t 69) (.c (.int .i64 0))⟩])
    (.cond (.t 70) (.seq (.region [⟨some 6, none, .mov (.c (.bool false))⟩])
    .ret)
    .skip)))
    .skip)))))
    (.region [⟨some 71, none, .bin false .add (.t 43) (.c (.int .i64 1))⟩,
      ⟨some 43, none, .mov (.t 71)⟩]))))))))
    (.seq (.region [⟨some 13, none, .fldA 1 1 false (.t 5)⟩,
      ⟨some 14, none, .load 1 false (.t 13)⟩,
      ⟨some 15, none, .len false (.t 14)⟩,
      ⟨some 16, none, .bin false .gtr (.t 15) (.c (.int .i64 0))⟩])
    (.cond (.t 16) (.seq (.region [⟨some 6, none, .mov (.c (.bool false))⟩])
    .ret)
    .skip))))))))
    (.seq (.region [⟨some 72, none, .fldA 2 1 false (.t 5)⟩,
      ⟨some 73, none, .load 1 false (.t 72)⟩,
      ⟨some 74, none, .mkfn (.func 218) [] [.t 3, .t 4]⟩,
      ⟨some 75, none, .call i_slices_ContainsFunc_api_Val_api_Val [.t 73, .t 74]⟩,
      ⟨some 76, none, .un .not (.t 75)⟩,
      ⟨some 6, none, .mov (.t 76)⟩])
    .ret))), [.tmp 6]⟩
theorem T_model_typedField : trFn Tryz.prog [(0, [1, 1, 1, 0]), (14, [0, 0, 0, 1, 0, 0]), (1000018, [1, 9, 1000003, 1000006, 1000007, 1000008, 2000009])] Tryz.f173 = some A_model_typedField := by kernel_rfl
theorem L_model_typedField : 3 ≤ Tryz.f173.ntmps := by decide

/-! slices.ContainsFunc[[]cartouche/api.Val,cartouche/api.Val] -/
def A_slices_ContainsFunc_api_Val_api_Val : AFn := ⟨(.seq (.region [⟨some 4, none, .mov (.c (.bool false))⟩])
    (.seq (.region [⟨some 5, none, .mov (.t 0)⟩,
      ⟨some 6, none, .mov (.t 1)⟩,
      ⟨some 7, none, .call i_slices_IndexFunc_api_Val_api_Val [.t 5, .t 6]⟩,
      ⟨some 8, none, .bin false .geq (.t 7) (.c (.int .i64 0))⟩,
      ⟨some 4, none, .mov (.t 8)⟩])
    .ret)), [.tmp 4]⟩
theorem T_slices_ContainsFunc_api_Val_api_Val : trFn Tryz.prog [] Tryz.f174 = some A_slices_ContainsFunc_api_Val_api_Val := by kernel_rfl
theorem L_slices_ContainsFunc_api_Val_api_Val : 2 ≤ Tryz.f174.ntmps := by decide

/-! cartouche/model.Nothing -/
def A_model_Nothing : AFn := ⟨(.seq (.region [⟨some 1, none, .box 0 (.t 0)⟩,
      ⟨some 2, none, .mov (.c (.bool false))⟩])
    (.seq (.region [⟨some 3, none, .fldA 0 1 false (.t 1)⟩,
      ⟨some 4, none, .load 1 false (.t 3)⟩,
      ⟨some 5, none, .bin false .eql (.t 4) (.c (.int .u64 0))⟩,
      ⟨some 6, none, .mov (.t 5)⟩,
      ⟨some 7, some (6, true), .fldA 1 1 false (.t 1)⟩,
      ⟨some 8, some (6, true), .load 1 false (.t 7)⟩,
      ⟨some 9, some (6, true), .len false (.t 8)⟩,
      ⟨some 10, some (6, true), .bin false .eql (.t 9) (.c (.int .i64 0))⟩,
      ⟨some 11, none, .pickb (.t 6) (.t 10) (.c (.bool false))⟩,
      ⟨some 12, none, .mov (.t 11)⟩,
      ⟨some 13, some (12, true), .fldA 2 1 false (.t 1)⟩,
      ⟨some 14, some (12, true), .load 1 false (.t 13)⟩,
      ⟨some 15, some (12, true), .len false (.t 14)⟩,
      ⟨some 16, some (12, true), .bin false .eql (.t 15) (.c (.int .i64 0))⟩,
      ⟨some 17, none, .pickb (.t 12) (.t 16) (.c (.bool false))⟩,
      ⟨some 2, none, .mov (.t 17)⟩])
    .ret)), [.tmp 2]⟩
theorem T_model_Nothing : trFn Tryz.prog [(0, [1, 0])] Tryz.f178 = some A_model_Nothing := by kernel_rfl
theorem L_model_Nothing : 1 ≤ Tryz.f178.ntmps := by decide

/-! cartouche/table.How -/
def A_table_How : AFn := ⟨(.seq (.region [⟨some 2, none, .box 0 (.t 0)⟩,
      ⟨some 4, none, .mov (.c (.int .i64 0))⟩])
    (.seq (.block 0 (.seq (.region [⟨some 6, none, .mov (.t 1)⟩,
      ⟨some 7, none, .load 7 true (.t 2)⟩,
      ⟨some 8, none, .call i_table_Wire [.t 7]⟩,
      ⟨some 9, none, .bin false .eql (.t 6) (.t 8)⟩,
      ⟨some 5, none, .mov (.t 9)⟩])
    (.cond (.t 5) (.seq (.region [⟨some 4, none, .mov (.c (.int .i64 1))⟩])
    .ret)
    (.seq (.region [⟨some 11, none, .mov (.t 1)⟩,
      ⟨some 12, none, .bin false .eql (.t 11) (.c (.int .i64 2))⟩,
      ⟨some 13, none, .mov (.t 12)⟩,
      ⟨some 14, some (13, true), .load 7 true (.t 2)⟩,
      ⟨some 15, some (13, true), .call i_table_HasRow [.t 14]⟩,
      ⟨some 16, none, .pickb (.t 13) (.t 15) (.c (.bool false))⟩,
      ⟨some 10, none, .mov (.t 16)⟩])
    (.cond (.t 10) (.seq (.region [⟨some 4, none, .mov (.c (.int .i64 2))⟩])
    .ret)
    .skip)))))
    (.seq (.region [⟨some 4, none, .mov (.c (.int .i64 0))⟩])
    .ret))), [.tmp 4]⟩
theorem T_table_How : trFn Tryz.prog [(0, [1, 0])] Tryz.f180 = some A_table_How := by kernel_rfl
theorem L_table_How : 2 ≤ Tryz.f180.ntmps := by decide

/-! cartouche/model.each[cartouche/api.Val] -/
def A_model_each_api_Val : AFn := ⟨(.seq (.region [⟨some 4, none, .mov (.c (.nil))⟩])
    (.seq (.region [⟨some 8, none, .mov (.t 0)⟩,
      ⟨some 9, none, .len false (.t 8)⟩,
      ⟨some 10, none, .mks 0 26 3 56 (.agg [.int .u64 0, .nil, .nil]) (.c (.int .i64 0)) (.t 9)⟩,
      ⟨some 5, none, .mov (.t 10)⟩])
    (.seq (.seq (.region [⟨some 11, none, .mov (.t 0)⟩,
      ⟨some 12, none, .len false (.t 11)⟩,
      ⟨some 13, none, .mov (.c (.int .i64 0))⟩])
    (.block 0 (.loop (.seq (.region [⟨some 14, none, .bin false .lss (.t 13) (.t 12)⟩])
    (.seq (.cond (.t 14) .skip
    (.exit 0))
    (.seq (.block 1 (.seq (.region [⟨some 15, none, .idxA 3 (.t 11) (.t 13)⟩,
      ⟨some 16, none, .load 3 true (.t 15)⟩,
      ⟨some 7, none, .alloc 0 [.int .u64 0, .nil, .nil]⟩,
      ⟨none, none, .store 3 (.t 7) (.t 16)⟩])
    (.region [⟨some 17, none, .mov (.t 5)⟩,
      ⟨some 18, none, .mov (.t 1)⟩,
      ⟨some 19, none, .load 3 true (.t 7)⟩,
      ⟨some 20, none, .callv (.t 18) [.t 19]⟩,
      ⟨some 21, none, .blit 0 26 3 [.t 20]⟩,
      ⟨some 22, none, .app 0 26 3 56 (.t 17) (.t 21)⟩,
      ⟨some 5, none, .mov (.t 22)⟩])))
    (.region [⟨some 23, none, .bin false .add (.t 13) (.c (.int .i64 1))⟩,
      ⟨some 13, none, .mov (.t 23)⟩])))))))
    (.seq (.region [⟨some 24, none, .mov (.t 5)⟩,
      ⟨some 4, none, .mov (.t 24)⟩])
    .ret)))), [.tmp 4]⟩
theorem T_model_each_api_Val : trFn Tryz.prog [(4, [0, 0, 1, 0]), (5, [0, 0, 0, 0, 1, 0, 0])] Tryz.f181 = some A_model_each_api_Val := by kernel_rfl
theorem L_model_each_api_Val : 2 ≤ Tryz.f181.ntmps := by decide

/-! cartouche/model.CopyVal -/
def A_model_CopyVal : AFn := ⟨(.seq (.region [⟨some 1, none, .box 0 (.t 0)⟩,
      ⟨some 2, none, .alloc 0 [.int .u64 0, .nil, .nil]⟩])
    (.seq (.draw [3, 4, 7, 8, 9, 1000001, 1000006, 2000008, 2000009] [⟨some 3, none, .fldA 0 1 false (.t 1)⟩,
      ⟨some 4, none, .load 1 false (.t 3)⟩,
      ⟨some 5, none, .fldA 1 1 false (.t 1)⟩,
      ⟨some 6, none, .load 1 false (.t 5)⟩,
      ⟨some 7, none, .call i_model_list [.t 6]⟩,
      ⟨some 8, none, .fldA 2 1 false (.t 1)⟩,
      ⟨some 9, none, .load 1 false (.t 8)⟩,
      ⟨some 10, none, .call i_model_each_api_Msg [.t 9, .c (.fn (.func 68) [] [])]⟩,
      ⟨some 11, none, .build [.int .u64 0, .nil, .nil] [(0, 1, .t 4), (1, 1, .t 7), (2, 1, .t 10)]⟩,
      ⟨none, none, .store 3 (.t 2) (.t 11)⟩])
    .ret)), [.cell 2 3 true]⟩
theorem T_model_CopyVal : trFn Tryz.prog [(0, [1, 1]), (1000001, [3, 4, 7, 8, 9, 1000001, 1000006, 2000008, 2000009])] Tryz.f182 = some A_model_CopyVal := by kernel_rfl
theorem L_model_CopyVal : 1 ≤ Tryz.f182.ntmps := by decide

/-! cartouche/model.list -/
def A_model_list : AFn := ⟨(.seq (.region [⟨some 2, none, .mov (.c (.nil))⟩])
    (.seq (.region [⟨some 3, none, .mov (.t 0)⟩,
      ⟨some 4, none, .len false (.t 3)⟩,
      ⟨some 5, none, .mks 0 5 1 1 (.int .u8 0) (.c (.int .i64 0)) (.t 4)⟩,
      ⟨some 6, none, .mov (.t 0)⟩,
      ⟨some 7, none, .app 0 5 1 1 (.t 5) (.t 6)⟩,
      ⟨some 2, none, .mov (.t 7)⟩])
    .ret)), [.tmp 2]⟩
theorem T_model_list : trFn Tryz.prog [] Tryz.f183 = some A_model_list := by kernel_rfl
theorem L_model_list : 1 ≤ Tryz.f183.ntmps := by decide

/-! cartouche/model.Others -/
def A_model_Others : AFn := ⟨(.seq (.region [⟨some 2, none, .box 0 (.t 0)⟩,
      ⟨some 4, none, .mov (.c (.nil))⟩])
    (.seq (.region [⟨some 5, none, .mov (.c (.nil))⟩])
    (.seq (.seq (.region [⟨some 8, none, .fldA 2 1 false (.t 2)⟩,
      ⟨some 9, none, .load 1 false (.t 8)⟩,
      ⟨some 10, none, .len false (.t 9)⟩,
      ⟨some 11, none, .mov (.c (.int .i64 0))⟩])
    (.block 0 (.loop (.seq (.region [⟨some 12, none, .bin false .lss (.t 11) (.t 10)⟩])
    (.seq (.cond (.t 12) .skip
    (.exit 0))
    (.seq (.block 1 (.seq (.region [⟨some 13, none, .idxA 7 (.t 9) (.t 11)⟩,
      ⟨some 14, none, .load 7 true (.t 13)⟩,
      ⟨some 7, none, .alloc 0 [.str ⟨#[]⟩, .int .i64 0, .int .i64 0, .int .i64 0, .int .i64 0, .int .i64 0, .int .i64 0]⟩,
      ⟨none, none, .store 7 (.t 7) (.t 14)⟩])
    (.seq (.region [⟨some 15, none, .fldA 4 1 false (.t 7)⟩,
      ⟨some 16, none, .load 1 false (.t 15)⟩,
      ⟨some 17, none, .bin false .eql (.t 16) (.c (.int .i64 4))⟩,
      ⟨some 18, none, .mov (.t 17)⟩,
      ⟨some 19, some (18, true), .fldA 5 1 false (.t 7)⟩,
      ⟨some 20, some (18, true), .load 1 false (.t 19)⟩,
      ⟨some 21, some (18, true), .mov (.t 1)⟩,
      ⟨some 22, some (18, true), .bin false .eql (.t 20) (.t 21)⟩,
      ⟨some 23, none, .pickb (.t 18) (.t 22) (.c (.bool false))⟩])
    (.cond (.t 23) (.region [⟨some 24, none, .mov (.t 5)⟩,
      ⟨some 25, none, .fldA 1 1 false (.t 7)⟩,
      ⟨some 26, none, .load 1 false (.t 25)⟩,
      ⟨some 27, none, .blit 0 3 1 [.t 26]⟩,
      ⟨some 28, none, .app 0 3 1 8 (.t 24) (.t 27)⟩,
      ⟨some 5, none, .mov (.t 28)⟩])
    .skip))))
    (.region [⟨some 29, none, .bin false .add (.t 11) (.c (.int .i64 1))⟩,
      ⟨some 11, none, .mov (.t 29)⟩])))))))
    (.seq (.region [⟨some 30, none, .mov (.t 5)⟩,
      ⟨some 4, none, .mov (.t 30)⟩])
    .ret)))), [.tmp 4]⟩
theorem T_model_Others : trFn Tryz.prog [(0, [1, 0]), (4, [0, 0, 1, 0]), (6, [0, 0, 0, 1, 0, 0])] Tryz.f184 = some A_model_Others := by kernel_rfl
theorem L_model_Others : 2 ≤ Tryz.f184.ntmps := by decide

/-! slices.Contains[[]int,int] -/
def A_slices_Contains_int_int : AFn := ⟨(.seq (.region [⟨some 4, none, .mov (.c (.bool false))⟩])
    (.seq (.region [⟨some 5, none, .mov (.t 0)⟩,
      ⟨some 6, none, .mov (.t 1)⟩,
      ⟨some 7, none, .call i_slices_Index_int_int [.t 5, .t 6]⟩,
      ⟨some 8, none, .bin false .geq (.t 7) (.c (.int .i64 0))⟩,
      ⟨some 4, none, .mov (.t 8)⟩])
    .ret)), [.tmp 4]⟩
theorem T_slices_Contains_int_int : trFn Tryz.prog [] Tryz.f186 = some A_slices_Contains_int_int := by kernel_rfl
theorem L_slices_Contains_int_int : 2 ≤ Tryz.f186.ntmps := by decide

/-! cartouche/model.Place -/
def A_model_Place : AFn := ⟨(.seq (.region [⟨some 4, none, .mov (.c (.int .i64 0))⟩,
      ⟨some 5, none, .mov (.c (.bool false))⟩])
    (.seq (.region [⟨some 6, none, .mov (.t 0)⟩,
      ⟨some 7, none, .mov (.t 1)⟩,
      ⟨some 8, none, .call i_slices_BinarySearchFunc_api_Field_api_Field_int [.t 6, .t 7, .c (.fn (.func 224) [] [])]⟩,
      ⟨some 9, none, .ext 0 (.t 8)⟩,
      ⟨some 10, none, .ext 1 (.t 8)⟩,
      ⟨some 4, none, .mov (.t 9)⟩,
      ⟨some 5, none, .mov (.t 10)⟩])
    .ret)), [.tmp 4, .tmp 5]⟩
theorem T_model_Place : trFn Tryz.prog [] Tryz.f187 = some A_model_Place := by kernel_rfl
theorem L_model_Place : 2 ≤ Tryz.f187.ntmps := by decide

/-! cartouche/table.Wire -/
def A_table_Wire : AFn := ⟨(.seq (.region [⟨some 1, none, .box 0 (.t 0)⟩,
      ⟨some 2, none, .mov (.c (.int .i64 0))⟩])
    (.seq (.seq (.region [⟨some 5, none, .fldA 4 1 false (.t 1)⟩,
      ⟨some 6, none, .load 1 false (.t 5)⟩,
      ⟨some 7, none, .bin false .eql (.t 6) (.c (.int .i64 5))⟩])
    (.cond (.t 7) (.seq (.region [⟨some 2, none, .mov (.c (.int .i64 2))⟩])
    .ret)
    .skip))
    (.seq (.region [⟨some 9, none, .fldA 2 1 false (.t 1)⟩,
      ⟨some 10, none, .load 1 false (.t 9)⟩,
      ⟨some 11, none, .call i_scalar_Wire [.t 10]⟩,
      ⟨some 8, none, .mov (.t 11)⟩,
      ⟨some 12, none, .ext 0 (.t 8)⟩,
      ⟨some 13, none, .ext 1 (.t 8)⟩,
      ⟨some 3, none, .mov (.t 12)⟩,
      ⟨some 4, none, .mov (.t 13)⟩])
    (.seq (.region [⟨some 14, none, .mov (.t 3)⟩,
      ⟨some 2, none, .mov (.t 14)⟩])
    .ret)))), [.tmp 2]⟩
theorem T_table_Wire : trFn Tryz.prog [(0, [1, 0])] Tryz.f192 = some A_table_Wire := by kernel_rfl
theorem L_table_Wire : 1 ≤ Tryz.f192.ntmps := by decide

/-! cartouche/interp.value -/
def A_interp_value : AFn := ⟨(.seq (.region [⟨some 6, none, .box 0 (.t 1)⟩,
      ⟨some 9, none, .box 0 (.t 4)⟩,
      ⟨some 10, none, .mov (.c (.nil))⟩])
    (.seq (.seq (.region [⟨some 13, none, .mov (.t 2)⟩,
      ⟨some 14, none, .bin false .eql (.t 13) (.c (.int .i64 17))⟩])
    (.cond (.t 14) (.seq (.draw [1, 7, 8, 9, 1000004, 1000005, 1000006, 2000007, 2000008, 2000009] [⟨some 15, none, .mov (.t 0)⟩,
      ⟨some 16, none, .load 1 true (.t 6)⟩,
      ⟨some 17, none, .mov (.t 3)⟩,
      ⟨some 18, none, .fldA 2 1 false (.t 9)⟩,
      ⟨some 19, none, .load 1 false (.t 18)⟩,
      ⟨some 20, none, .idxA 2 (.t 19) (.c (.int .i64 0))⟩,
      ⟨some 21, none, .load 2 true (.t 20)⟩,
      ⟨some 22, none, .call i_interp_written [.t 16, .t 17, .t 21]⟩,
      ⟨some 23, none, .call i_wire_PutChunk [.t 22]⟩,
      ⟨some 24, none, .app 0 5 1 1 (.t 15) (.t 23)⟩,
      ⟨some 10, none, .mov (.t 24)⟩])
    .ret)
    .skip))
    (.seq (.region [⟨some 26, none, .mov (.t 2)⟩,
      ⟨some 27, none, .load 3 true (.t 9)⟩,
      ⟨some 28, none, .call i_scalar_Put [.t 26, .t 27]⟩,
      ⟨some 25, none, .mov (.t 28)⟩,
      ⟨some 29, none, .ext 0 (.t 25)⟩,
      ⟨some 30, none, .ext 1 (.t 25)⟩,
      ⟨some 11, none, .mov (.t 29)⟩,
      ⟨some 12, none, .mov (.t 30)⟩])
    (.seq (.region [⟨some 31, none, .mov (.t 0)⟩,
      ⟨some 32, none, .mov (.t 11)⟩,
      ⟨some 33, none, .app 0 5 1 1 (.t 31) (.t 32)⟩,
      ⟨some 10, none, .mov (.t 33)⟩])
    .ret)))), [.tmp 10]⟩
theorem T_interp_value : trFn Tryz.prog [(0, [1, 1, 0]), (1000002, [1, 7, 8, 9, 1000004, 1000005, 1000006, 2000007, 2000008, 2000009])] Tryz.f193 = some A_interp_value := by kernel_rfl
theorem L_interp_value : 5 ≤ Tryz.f193.ntmps := by decide

/-! cartouche/interp.tagged -/
def A_interp_tagged : AFn := ⟨(.seq (.region [⟨some 6, none, .mov (.c (.nil))⟩])
    (.seq (.region [⟨some 10, none, .mov (.t 1)⟩,
      ⟨some 11, none, .mov (.t 2)⟩,
      ⟨some 12, none, .call i_wire_PutTag [.t 10, .t 11]⟩,
      ⟨some 9, none, .mov (.t 12)⟩,
      ⟨some 13, none, .ext 0 (.t 9)⟩,
      ⟨some 14, none, .ext 1 (.t 9)⟩,
      ⟨some 7, none, .mov (.t 13)⟩,
      ⟨some 8, none, .mov (.t 14)⟩])
    (.seq (.region [⟨some 15, none, .mov (.t 0)⟩,
      ⟨some 16, none, .mov (.t 7)⟩,
      ⟨some 17, none, .app 0 5 1 1 (.t 15) (.t 16)⟩,
      ⟨some 6, none, .mov (.t 17)⟩])
    .ret))), [.tmp 6]⟩
theorem T_interp_tagged : trFn Tryz.prog [] Tryz.f194 = some A_interp_tagged := by kernel_rfl
theorem L_interp_tagged : 3 ≤ Tryz.f194.ntmps := by decide

/-! cartouche/wire.PutChunk -/
def A_wire_PutChunk : AFn := ⟨(.seq (.region [⟨some 2, none, .mov (.c (.nil))⟩])
    (.seq (.region [⟨some 4, none, .mov (.t 0)⟩,
      ⟨some 5, none, .len false (.t 4)⟩,
      ⟨some 6, none, .conv .u64 (.t 5)⟩,
      ⟨some 3, none, .mov (.t 6)⟩])
    (.seq (.region [⟨some 7, none, .mov (.t 3)⟩,
      ⟨some 8, none, .call i_wire_Size [.t 7]⟩,
      ⟨some 9, none, .mov (.t 0)⟩,
      ⟨some 10, none, .len false (.t 9)⟩,
      ⟨some 11, none, .bin false .add (.t 8) (.t 10)⟩,
      ⟨some 12, none, .mks 0 5 1 1 (.int .u8 0) (.c (.int .i64 0)) (.t 11)⟩,
      ⟨some 13, none, .mov (.t 3)⟩,
      ⟨some 14, none, .call i_wire_varint [.t 12, .t 13]⟩,
      ⟨some 15, none, .mov (.t 0)⟩,
      ⟨some 16, none, .app 0 5 1 1 (.t 14) (.t 15)⟩,
      ⟨some 2, none, .mov (.t 16)⟩])
    .ret))), [.tmp 2]⟩
theorem T_wire_PutChunk : trFn Tryz.prog [] Tryz.f195 = some A_wire_PutChunk := by kernel_rfl
theorem L_wire_PutChunk : 1 ≤ Tryz.f195.ntmps := by decide

/-! cartouche/scalar.Wire -/
def A_scalar_Wire : AFn := ⟨(.seq (.region [⟨some 2, none, .mov (.c (.int .i64 0))⟩,
      ⟨some 3, none, .mov (.c (.int .i64 0))⟩])
    (.seq (.seq (.region [⟨some 4, none, .mov (.t 0)⟩])
    (.block 0 (.seq (.seq (.region [⟨some 6, none, .bin false .eql (.t 4) (.c (.int .i64 1))⟩,
      ⟨some 5, none, .mov (.t 6)⟩])
    (.cond (.t 5) .skip
    (.seq (.region [⟨some 7, none, .bin false .eql (.t 4) (.c (.int .i64 2))⟩,
      ⟨some 5, none, .mov (.t 7)⟩])
    (.cond (.t 5) .skip
    (.seq (.region [⟨some 8, none, .bin false .eql (.t 4) (.c (.int .i64 3))⟩,
      ⟨some 5, none, .mov (.t 8)⟩])
    (.cond (.t 5) .skip
    (.seq (.region [⟨some 9, none, .bin false .eql (.t 4) (.c (.int .i64 4))⟩,
      ⟨some 5, none, .mov (.t 9)⟩])
    (.cond (.t 5) .skip
    (.seq (.region [⟨some 10, none, .bin false .eql (.t 4) (.c (.int .i64 5))⟩,
      ⟨some 5, none, .mov (.t 10)⟩])
    (.cond (.t 5) .skip
    (.seq (.region [⟨some 11, none, .bin false .eql (.t 4) (.c (.int .i64 6))⟩,
      ⟨some 5, none, .mov (.t 11)⟩])
    (.cond (.t 5) .skip
    (.seq (.region [⟨some 12, none, .bin false .eql (.t 4) (.c (.int .i64 7))⟩,
      ⟨some 5, none, .mov (.t 12)⟩])
    (.cond (.t 5) .skip
    (.region [⟨some 13, none, .bin false .eql (.t 4) (.c (.int .i64 16))⟩,
      ⟨some 5, none, .mov (.t 13)⟩])))))))))))))))
    (.cond (.t 5) (.seq (.region [⟨some 2, none, .mov (.c (.int .i64 0))⟩,
      ⟨some 3, none, .mov (.c (.int .i64 0))⟩])
    .ret)
    (.seq (.seq (.region [⟨some 15, none, .bin false .eql (.t 4) (.c (.int .i64 8))⟩,
      ⟨some 14, none, .mov (.t 15)⟩])
    (.cond (.t 14) .skip
    (.seq (.region [⟨some 16, none, .bin false .eql (.t 4) (.c (.int .i64 10))⟩,
      ⟨some 14, none, .mov (.t 16)⟩])
    (.cond (.t 14) .skip
    (.region [⟨some 17, none, .bin false .eql (.t 4) (.c (.int .i64 12))⟩,
      ⟨some 14, none, .mov (.t 17)⟩])))))
    (.cond (.t 14) (.seq (.region [⟨some 2, none, .mov (.c (.int .i64 5))⟩,
      ⟨some 3, none, .mov (.c (.int .i64 0))⟩])
    .ret)
    (.seq (.seq (.region [⟨some 19, none, .bin false .eql (.t 4) (.c (.int .i64 9))⟩,
      ⟨some 18, none, .mov (.t 19)⟩])
    (.cond (.t 18) .skip
    (.seq (.region [⟨some 20, none, .bin false .eql (.t 4) (.c (.int .i64 11))⟩,
      ⟨some 18, none, .mov (.t 20)⟩])
    (.cond (.t 18) .skip
    (.region [⟨some 21, none, .bin false .eql (.t 4) (.c (.int .i64 13))⟩,
      ⟨some 18, none, .mov (.t 21)⟩])))))
    (.cond (.t 18) (.seq (.region [⟨some 2, none, .mov (.c (.int .i64 1))⟩,
      ⟨some 3, none, .mov (.c (.int .i64 0))⟩])
    .ret)
    (.seq (.seq (.region [⟨some 23, none, .bin false .eql (.t 4) (.c (.int .i64 14))⟩,
      ⟨some 22, none, .mov (.t 23)⟩])
    (.cond (.t 22) .skip
    (.seq (.region [⟨some 24, none, .bin false .eql (.t 4) (.c (.int .i64 15))⟩,
      ⟨some 22, none, .mov (.t 24)⟩])
    (.cond (.t 22) .skip
    (.region [⟨some 25, none, .bin false .eql (.t 4) (.c (.int .i64 17))⟩,
      ⟨some 22, none, .mov (.t 25)⟩])))))
    (.cond (.t 22) (.seq (.region [⟨some 2, none, .mov (.c (.int .i64 2))⟩,
      ⟨some 3, none, .mov (.c (.int .i64 0))⟩])
    .ret)
    .skip))))))))))
    (.seq (.region [⟨some 2, none, .mov (.c (.int .i64 0))⟩,
      ⟨some 3, none, .mov (.c (.int .i64 18))⟩])
    .ret))), [.tmp 2, .tmp 3]⟩
theorem T_scalar_Wire : trFn Tryz.prog [] Tryz.f196 = some A_scalar_Wire := by kernel_rfl
theorem L_scalar_Wire : 1 ≤ Tryz.f196.ntmps := by decide

/-! (*cartouche/interp.cursor).tag -/
def A_interp_cursor_tag : AFn := ⟨(.seq (.region [⟨some 2, none, .mov (.c (.int .i64 0))⟩,
      ⟨some 3, none, .mov (.c (.int .i64 0))⟩])
    (.seq (.draw [3, 8, 1000007, 2000008] [⟨some 7, none, .mov (.t 0)⟩,
      ⟨some 8, none, .nilck (.t 7)⟩,
      ⟨some 9, none, .fldA 0 1 false (.t 8)⟩,
      ⟨some 10, none, .load 1 false (.t 9)⟩,
      ⟨some 11, none, .mov (.t 0)⟩,
      ⟨some 12, none, .nilck (.t 11)⟩,
      ⟨some 13, none, .fldA 1 1 false (.t 12)⟩,
      ⟨some 14, none, .load 1 false (.t 13)⟩,
      ⟨some 15, none, .call i_wire_GetTag [.t 10, .t 14]⟩,
      ⟨some 6, none, .mov (.t 15)⟩,
      ⟨some 16, none, .ext 0 (.t 6)⟩,
      ⟨some 17, none, .ext 1 (.t 6)⟩,
      ⟨some 18, none, .ext 2 (.t 6)⟩,
      ⟨some 19, none, .ext 3 (.t 6)⟩,
      ⟨some 2, none, .mov (.t 16)⟩,
      ⟨some 3, none, .mov (.t 17)⟩,
      ⟨some 4, none, .mov (.t 18)⟩,
      ⟨some 5, none, .mov (.t 19)⟩])
    (.seq (.region [⟨some 20, none, .mov (.t 5)⟩,
      ⟨some 21, none, .call i_interp_must [.t 20]⟩])
    (.seq (.region [⟨some 22, none, .mov (.t 0)⟩,
      ⟨some 23, none, .mov (.t 4)⟩,
      ⟨some 24, none, .nilck (.t 22)⟩,
      ⟨some 25, none, .fldA 1 1 false (.t 24)⟩,
      ⟨none, none, .store 1 (.t 25) (.t 23)⟩])
    (.seq (.region [⟨some 26, none, .mov (.t 2)⟩,
      ⟨some 27, none, .mov (.t 3)⟩,
      ⟨some 2, none, .mov (.t 26)⟩,
      ⟨some 3, none, .mov (.t 27)⟩])
    .ret))))), [.tmp 2, .tmp 3]⟩
theorem T_interp_cursor_tag : trFn Tryz.prog [(1000001, [3, 8, 1000007, 2000008])] Tryz.f197 = some A_interp_cursor_tag := by kernel_rfl
theorem L_interp_cursor_tag : 1 ≤ Tryz.f197.ntmps := by decide

/-! (*cartouche/interp.cursor).put -/
def A_interp_cursor_put : AFn := ⟨(.seq (.region [⟨some 7, none, .box 0 (.t 1)⟩,
      ⟨some 9, none, .box 0 (.t 3)⟩])
    (.seq (.region [⟨some 22, none, .fldA 4 1 false (.t 9)⟩,
      ⟨some 23, none, .load 1 false (.t 22)⟩])
    (.block 0 (.seq (.seq (.region [⟨some 41, none, .bin false .eql (.t 23) (.c (.int .i64 0))⟩,
      ⟨some 40, none, .mov (.t 41)⟩])
    (.cond (.t 40) .skip
    (.region [⟨some 42, none, .bin false .eql (.t 23) (.c (.int .i64 1))⟩,
      ⟨some 40, none, .mov (.t 42)⟩])))
    (.cond (.t 40) (.seq (.region [⟨some 43, none, .build [.int .u64 0, .nil, .nil] []⟩,
      ⟨some 12, none, .alloc 0 [.int .u64 0, .nil, .nil]⟩,
      ⟨none, none, .store 3 (.t 12) (.t 43)⟩])
    (.seq (.seq (.region [⟨some 44, none, .fldA 2 1 false (.t 9)⟩,
      ⟨some 45, none, .load 1 false (.t 44)⟩,
      ⟨some 46, none, .bin false .eql (.t 45) (.c (.int .i64 17))⟩])
    (.cond (.t 46) (.seq (.region [⟨some 47, none, .build [.nil, .nil] []⟩,
      ⟨some 13, none, .alloc 0 [.nil, .nil]⟩,
      ⟨none, none, .store 2 (.t 13) (.t 47)⟩])
    (.seq (.seq (.draw [3, 6, 1000005, 2000006] [⟨some 49, none, .mov (.t 5)⟩,
      ⟨some 50, none, .nilck (.t 49)⟩,
      ⟨some 51, none, .fldA 0 1 false (.t 50)⟩,
      ⟨some 52, none, .load 1 false (.t 51)⟩,
      ⟨some 53, none, .fldA 1 1 false (.t 9)⟩,
      ⟨some 54, none, .load 1 false (.t 53)⟩,
      ⟨some 55, none, .call i_model_Place [.t 52, .t 54]⟩,
      ⟨some 48, none, .mov (.t 55)⟩,
      ⟨some 56, none, .ext 0 (.t 48)⟩,
      ⟨some 57, none, .ext 1 (.t 48)⟩,
      ⟨some 14, none, .mov (.t 56)⟩,
      ⟨some 15, none, .mov (.t 57)⟩])
    (.seq (.region [⟨some 58, none, .mov (.t 15)⟩])
    (.cond (.t 58) (.region [⟨some 59, none, .mov (.t 5)⟩,
      ⟨some 60, none, .nilck (.t 59)⟩,
      ⟨some 61, none, .fldA 0 1 false (.t 60)⟩,
      ⟨some 62, none, .load 1 false (.t 61)⟩,
      ⟨some 63, none, .mov (.t 14)⟩,
      ⟨some 64, none, .idxA 3 (.t 62) (.t 63)⟩,
      ⟨some 65, none, .fldA 2 1 false (.t 64)⟩,
      ⟨some 66, none, .load 1 false (.t 65)⟩,
      ⟨some 67, none, .idxA 3 (.t 66) (.c (.int .i64 0))⟩,
      ⟨some 68, none, .fldA 2 1 false (.t 67)⟩,
      ⟨some 69, none, .load 1 false (.t 68)⟩,
      ⟨some 70, none, .idxA 2 (.t 69) (.c (.int .i64 0))⟩,
      ⟨some 71, none, .load 2 true (.t 70)⟩,
      ⟨none, none, .store 2 (.t 13) (.t 71)⟩])
    .skip)))
    (.region [⟨some 72, none, .mov (.t 0)⟩,
      ⟨some 73, none, .load 1 true (.t 7)⟩,
      ⟨some 74, none, .fldA 3 1 false (.t 9)⟩,
      ⟨some 75, none, .load 1 false (.t 74)⟩,
      ⟨some 76, none, .mov (.t 4)⟩,
      ⟨some 77, none, .load 2 true (.t 13)⟩,
      ⟨some 78, none, .call i_interp_cursor_within [.t 72, .t 73, .t 75, .t 76, .t 77]⟩,
      ⟨none, none, .store 3 (.t 12) (.t 78)⟩])))
    (.region [⟨some 79, none, .mov (.t 0)⟩,
      ⟨some 80, none, .load 1 true (.t 7)⟩,
      ⟨some 81, none, .fldA 2 1 false (.t 9)⟩,
      ⟨some 82, none, .load 1 false (.t 81)⟩,
      ⟨some 83, none, .fldA 3 1 false (.t 9)⟩,
      ⟨some 84, none, .load 1 false (.t 83)⟩,
      ⟨some 85, none, .call i_interp_cursor_scalar [.t 79, .t 80, .t 82, .t 84]⟩,
      ⟨none, none, .store 3 (.t 12) (.t 85)⟩])))
    (.draw [8000000, 2, 3, 8, 7000005, 1000004, 2000008] [⟨some 86, none, .mov (.t 5)⟩,
      ⟨some 87, none, .fldA 1 1 false (.t 9)⟩,
      ⟨some 88, none, .load 1 false (.t 87)⟩,
      ⟨some 89, none, .call i_interp_field [.t 86, .t 88]⟩,
      ⟨some 90, none, .load 3 true (.t 12)⟩,
      ⟨some 91, none, .blit 0 26 3 [.t 90]⟩,
      ⟨some 92, none, .nilck (.t 89)⟩,
      ⟨some 93, none, .fldA 2 1 false (.t 92)⟩,
      ⟨none, none, .store 1 (.t 93) (.t 91)⟩])))
    (.seq (.seq (.region [⟨some 95, none, .bin false .eql (.t 23) (.c (.int .i64 2))⟩,
      ⟨some 94, none, .mov (.t 95)⟩])
    (.cond (.t 94) .skip
    (.region [⟨some 96, none, .bin false .eql (.t 23) (.c (.int .i64 3))⟩,
      ⟨some 94, none, .mov (.t 96)⟩])))
    (.cond (.t 94) (.seq (.region [⟨some 97, none, .mov (.t 0)⟩,
      ⟨some 98, none, .load 1 true (.t 7)⟩,
      ⟨some 99, none, .fldA 2 1 false (.t 9)⟩,
      ⟨some 100, none, .load 1 false (.t 99)⟩,
      ⟨some 101, none, .fldA 3 1 false (.t 9)⟩,
      ⟨some 102, none, .load 1 false (.t 101)⟩,
      ⟨some 103, none, .mov (.t 4)⟩,
      ⟨some 104, none, .call i_interp_cursor_value [.t 97, .t 98, .t 100, .t 102, .t 103]⟩,
      ⟨some 16, none, .alloc 0 [.int .u64 0, .nil, .nil]⟩,
      ⟨none, none, .store 3 (.t 16) (.t 104)⟩])
    (.seq (.region [⟨some 105, none, .mov (.t 5)⟩,
      ⟨some 106, none, .fldA 1 1 false (.t 9)⟩,
      ⟨some 107, none, .load 1 false (.t 106)⟩,
      ⟨some 108, none, .call i_interp_field [.t 105, .t 107]⟩,
      ⟨some 17, none, .mov (.t 108)⟩])
    (.draw [8000000, 4, 7, 10, 7000006, 1000005, 2000007, 2000010] [⟨some 109, none, .mov (.t 17)⟩,
      ⟨some 110, none, .mov (.t 17)⟩,
      ⟨some 111, none, .nilck (.t 110)⟩,
      ⟨some 112, none, .fldA 2 1 false (.t 111)⟩,
      ⟨some 113, none, .load 1 false (.t 112)⟩,
      ⟨some 114, none, .load 3 true (.t 16)⟩,
      ⟨some 115, none, .blit 0 26 3 [.t 114]⟩,
      ⟨some 116, none, .app 0 26 3 56 (.t 113) (.t 115)⟩,
      ⟨some 117, none, .nilck (.t 109)⟩,
      ⟨some 118, none, .fldA 2 1 false (.t 117)⟩,
      ⟨none, none, .store 1 (.t 118) (.t 116)⟩])))
    (.seq (.region [⟨some 120, none, .bin false .eql (.t 23) (.c (.int .i64 4))⟩,
      ⟨some 119, none, .mov (.t 120)⟩])
    (.cond (.t 119) (.seq (.region [⟨some 121, none, .mov (.t 0)⟩,
      ⟨some 122, none, .load 1 true (.t 7)⟩,
      ⟨some 123, none, .fldA 2 1 false (.t 9)⟩,
      ⟨some 124, none, .load 1 false (.t 123)⟩,
      ⟨some 125, none, .fldA 3 1 false (.t 9)⟩,
      ⟨some 126, none, .load 1 false (.t 125)⟩,
      ⟨some 127, none, .mov (.t 4)⟩,
      ⟨some 128, none, .call i_interp_cursor_value [.t 121, .t 122, .t 124, .t 126, .t 127]⟩,
      ⟨some 18, none, .alloc 0 [.int .u64 0, .nil, .nil]⟩,
      ⟨none, none, .store 3 (.t 18) (.t 128)⟩])
    (.seq (.draw [8, 9, 1000001, 1000003, 1000004, 1000006, 2000009] [⟨some 129, none, .fldA 0 1 false (.t 7)⟩,
      ⟨some 130, none, .load 1 false (.t 129)⟩,
      ⟨some 131, none, .mov (.t 2)⟩,
      ⟨some 132, none, .idxA 6 (.t 130) (.t 131)⟩,
      ⟨some 133, none, .load 6 true (.t 132)⟩,
      ⟨some 134, none, .fldA 5 1 false (.t 9)⟩,
      ⟨some 135, none, .load 1 false (.t 134)⟩,
      ⟨some 136, none, .call i_model_Others [.t 133, .t 135]⟩,
      ⟨some 19, none, .alloc 0 [.nil]⟩,
      ⟨none, none, .store 1 (.t 19) (.t 136)⟩])
    (.seq (.region [⟨some 137, none, .mov (.t 5)⟩,
      ⟨some 138, none, .mov (.t 5)⟩,
      ⟨some 139, none, .nilck (.t 138)⟩,
      ⟨some 140, none, .fldA 0 1 false (.t 139)⟩,
      ⟨some 141, none, .load 1 false (.t 140)⟩,
      ⟨some 142, none, .mkfn (.func 238) [] [.t 19]⟩,
      ⟨some 143, none, .call i_slices_DeleteFunc_api_Field_api_Field [.t 141, .t 142]⟩,
      ⟨some 144, none, .nilck (.t 137)⟩,
      ⟨some 145, none, .fldA 0 1 false (.t 144)⟩,
      ⟨none, none, .store 1 (.t 145) (.t 143)⟩])
    (.draw [8000000, 2, 3, 8, 7000005, 1000004, 2000008] [⟨some 146, none, .mov (.t 5)⟩,
      ⟨some 147, none, .fldA 1 1 false (.t 9)⟩,
      ⟨some 148, none, .load 1 false (.t 147)⟩,
      ⟨some 149, none, .call i_interp_field [.t 146, .t 148]⟩,
      ⟨some 150, none, .load 3 true (.t 18)⟩,
      ⟨some 151, none, .blit 0 26 3 [.t 150]⟩,
      ⟨some 152, none, .nilck (.t 149)⟩,
      ⟨some 153, none, .fldA 2 1 false (.t 152)⟩,
      ⟨none, none, .store 1 (.t 153) (.t 151)⟩]))))
    (.seq (.region [⟨some 25, none, .mov (.t 0)⟩,
      ⟨some 26, none, .load 1 true (.t 7)⟩,
      ⟨some 27, none, .load 7 true (.t 9)⟩,
      ⟨some 28, none, .mov (.t 4)⟩,
      ⟨some 29, none, .call i_interp_cursor_pair [.t 25, .t 26, .t 27, .t 28]⟩,
      ⟨some 24, none, .mov (.t 29)⟩,
      ⟨some 30, none, .ext 0 (.t 24)⟩,
      ⟨some 31, none, .ext 1 (.t 24)⟩,
      ⟨some 20, none, .alloc 0 [.int .u64 0, .nil, .nil]⟩,
      ⟨some 21, none, .alloc 0 [.int .u64 0, .nil, .nil]⟩,
      ⟨none, none, .store 3 (.t 20) (.t 30)⟩,
      ⟨none, none, .store 3 (.t 21) (.t 31)⟩])
    (.draw [3, 4, 7, 1000000, 1000005, 1000006, 2000007] [⟨some 32, none, .load 7 true (.t 9)⟩,
      ⟨some 33, none, .mov (.t 5)⟩,
      ⟨some 34, none, .fldA 1 1 false (.t 9)⟩,
      ⟨some 35, none, .load 1 false (.t 34)⟩,
      ⟨some 36, none, .call i_interp_field [.t 33, .t 35]⟩,
      ⟨some 37, none, .load 3 true (.t 20)⟩,
      ⟨some 38, none, .load 3 true (.t 21)⟩,
      ⟨some 39, none, .call i_interp_laid [.t 32, .t 36, .t 37, .t 38]⟩]))))))))))), []⟩
theorem T_interp_cursor_put : trFn Tryz.prog [(0, [1, 1]), (2, [0, 0, 0, 0, 0, 0, 0, 0, 1, 1, 0, 0]), (6, [0, 1, 0]), (8, [0, 1, 0]), (14, [0, 0, 0, 0, 0, 1, 0, 0, 0]), (17, [0, 0, 0, 0, 0, 0, 0, 0, 1, 0]), (19, [0, 0, 0, 0, 0, 0, 1, 0, 0, 0, 0]), (21, [0, 0, 0, 0, 0, 0, 0, 0, 1, 0]), (22, [0, 0, 0, 0, 0, 0, 0, 0, 1, 0]), (24, [0, 0, 0, 0, 0, 1, 0, 0, 0]), (1000003, [3, 4, 7, 1000000, 1000005, 1000006, 2000007]), (1000009, [3, 6, 1000005, 2000006]), (1000014, [8000000, 2, 3, 8, 7000005, 1000004, 2000008]), (1000019, [8000000, 4, 7, 10, 7000006, 1000005, 2000007, 2000010]), (1000022, [8, 9, 1000001, 1000003, 1000004, 1000006, 2000009]), (1000024, [8000000, 2, 3, 8, 7000005, 1000004, 2000008])] Tryz.f198 = some A_interp_cursor_put := by kernel_rfl
theorem L_interp_cursor_put : 6 ≤ Tryz.f198.ntmps := by decide

/-! (*cartouche/interp.cursor).row -/
def A_interp_cursor_row : AFn := ⟨(.seq (.region [⟨some 5, none, .box 0 (.t 1)⟩,
      ⟨some 6, none, .box 0 (.t 2)⟩])
    (.seq (.region [⟨some 10, none, .mov (.t 0)⟩,
      ⟨some 11, none, .call i_interp_cursor_chunk [.t 10]⟩,
      ⟨some 8, none, .mov (.t 11)⟩])
    (.seq (.region [⟨some 12, none, .mov (.t 3)⟩,
      ⟨some 13, none, .fldA 1 1 false (.t 6)⟩,
      ⟨some 14, none, .load 1 false (.t 13)⟩,
      ⟨some 15, none, .call i_interp_field [.t 12, .t 14]⟩,
      ⟨some 9, none, .mov (.t 15)⟩])
    (.block 0 (.loop (.seq (.seq (.region [⟨some 16, none, .mov (.t 8)⟩,
      ⟨some 17, none, .call i_interp_cursor_done [.t 16]⟩,
      ⟨some 18, none, .un .not (.t 17)⟩])
    (.cond (.t 18) .skip
    (.exit 0)))
    (.block 1 (.draw [6, 11, 12, 13, 16, 1000004, 1000008, 1000010, 2000013, 2000016] [⟨some 19, none, .mov (.t 9)⟩,
      ⟨some 20, none, .mov (.t 9)⟩,
      ⟨some 21, none, .nilck (.t 20)⟩,
      ⟨some 22, none, .fldA 2 1 false (.t 21)⟩,
      ⟨some 23, none, .load 1 false (.t 22)⟩,
      ⟨some 24, none, .mov (.t 8)⟩,
      ⟨some 25, none, .load 1 true (.t 5)⟩,
      ⟨some 26, none, .fldA 2 1 false (.t 6)⟩,
      ⟨some 27, none, .load 1 false (.t 26)⟩,
      ⟨some 28, none, .fldA 3 1 false (.t 6)⟩,
      ⟨some 29, none, .load 1 false (.t 28)⟩,
      ⟨some 30, none, .call i_interp_cursor_scalar [.t 24, .t 25, .t 27, .t 29]⟩,
      ⟨some 31, none, .blit 0 26 3 [.t 30]⟩,
      ⟨some 32, none, .app 0 26 3 56 (.t 23) (.t 31)⟩,
      ⟨some 33, none, .nilck (.t 19)⟩,
      ⟨some 34, none, .fldA 2 1 false (.t 33)⟩,
      ⟨none, none, .store 1 (.t 34) (.t 32)⟩])))))))), []⟩
theorem T_interp_cursor_row : trFn Tryz.prog [(0, [1, 1]), (4, [0, 0, 0, 0, 0, 0, 0, 0, 0, 0, 0, 0, 1, 0, 0, 0, 0]), (1000004, [6, 11, 12, 13, 16, 1000004, 1000008, 1000010, 2000013, 2000016])] Tryz.f199 = some A_interp_cursor_row := by kernel_rfl
theorem L_interp_cursor_row : 4 ≤ Tryz.f199.ntmps := by decide

/-! (*cartouche/interp.cursor).rest -/
def A_interp_cursor_rest : AFn := ⟨(.seq (.region [⟨some 6, none, .alloc 0 [.int .i64 0, .int .i64 0, .int .u64 0, .nil]⟩])
    (.seq (.region [⟨some 11, none, .mov (.t 1)⟩,
      ⟨some 12, none, .mov (.t 2)⟩,
      ⟨some 13, none, .build [.int .i64 0, .int .i64 0, .int .u64 0, .nil] [(0, 1, .t 11), (1, 1, .t 12)]⟩,
      ⟨some 7, none, .alloc 0 [.int .i64 0, .int .i64 0, .int .u64 0, .nil]⟩,
      ⟨none, none, .store 4 (.t 7) (.t 13)⟩])
    (.seq (.region [⟨some 8, none, .mov (.c (.int .i64 0))⟩])
    (.seq (.region [⟨some 9, none, .mov (.c (.int .i64 0))⟩])
    (.seq (.seq (.region [⟨some 14, none, .mov (.t 2)⟩])
    (.block 0 (.seq (.region [⟨some 30, none, .bin false .eql (.t 14) (.c (.int .i64 0))⟩,
      ⟨some 29, none, .mov (.t 30)⟩])
    (.cond (.t 29) (.draw [3, 8, 14, 1000007, 2000008, 2000014] [⟨some 32, none, .mov (.t 0)⟩,
      ⟨some 33, none, .nilck (.t 32)⟩,
      ⟨some 34, none, .fldA 0 1 false (.t 33)⟩,
      ⟨some 35, none, .load 1 false (.t 34)⟩,
      ⟨some 36, none, .mov (.t 0)⟩,
      ⟨some 37, none, .nilck (.t 36)⟩,
      ⟨some 38, none, .fldA 1 1 false (.t 37)⟩,
      ⟨some 39, none, .load 1 false (.t 38)⟩,
      ⟨some 40, none, .call i_wire_GetVarint [.t 35, .t 39]⟩,
      ⟨some 31, none, .mov (.t 40)⟩,
      ⟨some 41, none, .ext 0 (.t 31)⟩,
      ⟨some 42, none, .ext 1 (.t 31)⟩,
      ⟨some 43, none, .ext 2 (.t 31)⟩,
      ⟨some 44, none, .fldA 2 1 false (.t 7)⟩,
      ⟨none, none, .store 1 (.t 44) (.t 41)⟩,
      ⟨some 9, none, .mov (.t 42)⟩,
      ⟨some 8, none, .mov (.t 43)⟩])
    (.seq (.region [⟨some 46, none, .bin false .eql (.t 14) (.c (.int .i64 1))⟩,
      ⟨some 45, none, .mov (.t 46)⟩])
    (.cond (.t 45) (.draw [3, 8, 14, 1000007, 2000008, 2000014] [⟨some 48, none, .mov (.t 0)⟩,
      ⟨some 49, none, .nilck (.t 48)⟩,
      ⟨some 50, none, .fldA 0 1 false (.t 49)⟩,
      ⟨some 51, none, .load 1 false (.t 50)⟩,
      ⟨some 52, none, .mov (.t 0)⟩,
      ⟨some 53, none, .nilck (.t 52)⟩,
      ⟨some 54, none, .fldA 1 1 false (.t 53)⟩,
      ⟨some 55, none, .load 1 false (.t 54)⟩,
      ⟨some 56, none, .call i_wire_GetFix64 [.t 51, .t 55]⟩,
      ⟨some 47, none, .mov (.t 56)⟩,
      ⟨some 57, none, .ext 0 (.t 47)⟩,
      ⟨some 58, none, .ext 1 (.t 47)⟩,
      ⟨some 59, none, .ext 2 (.t 47)⟩,
      ⟨some 60, none, .fldA 2 1 false (.t 7)⟩,
      ⟨none, none, .store 1 (.t 60) (.t 57)⟩,
      ⟨some 9, none, .mov (.t 58)⟩,
      ⟨some 8, none, .mov (.t 59)⟩])
    (.seq (.region [⟨some 62, none, .bin false .eql (.t 14) (.c (.int .i64 5))⟩,
      ⟨some 61, none, .mov (.t 62)⟩])
    (.cond (.t 61) (.seq (.region [⟨some 10, none, .mov (.c (.int .u32 0))⟩])
    (.seq (.draw [3, 8, 1000007, 2000008] [⟨some 64, none, .mov (.t 0)⟩,
      ⟨some 65, none, .nilck (.t 64)⟩,
      ⟨some 66, none, .fldA 0 1 false (.t 65)⟩,
      ⟨some 67, none, .load 1 false (.t 66)⟩,
      ⟨some 68, none, .mov (.t 0)⟩,
      ⟨some 69, none, .nilck (.t 68)⟩,
      ⟨some 70, none, .fldA 1 1 false (.t 69)⟩,
      ⟨some 71, none, .load 1 false (.t 70)⟩,
      ⟨some 72, none, .call i_wire_GetFix32 [.t 67, .t 71]⟩,
      ⟨some 63, none, .mov (.t 72)⟩,
      ⟨some 73, none, .ext 0 (.t 63)⟩,
      ⟨some 74, none, .ext 1 (.t 63)⟩,
      ⟨some 75, none, .ext 2 (.t 63)⟩,
      ⟨some 10, none, .mov (.t 73)⟩,
      ⟨some 9, none, .mov (.t 74)⟩,
      ⟨some 8, none, .mov (.t 75)⟩])
    (.region [⟨some 76, none, .mov (.t 10)⟩,
      ⟨some 77, none, .conv .u64 (.t 76)⟩,
      ⟨some 78, none, .fldA 2 1 false (.t 7)⟩,
      ⟨none, none, .store 1 (.t 78) (.t 77)⟩])))
    (.draw [3, 8, 14, 1000007, 2000008, 2000014] [⟨some 16, none, .mov (.t 0)⟩,
      ⟨some 17, none, .nilck (.t 16)⟩,
      ⟨some 18, none, .fldA 0 1 false (.t 17)⟩,
      ⟨some 19, none, .load 1 false (.t 18)⟩,
      ⟨some 20, none, .mov (.t 0)⟩,
      ⟨some 21, none, .nilck (.t 20)⟩,
      ⟨some 22, none, .fldA 1 1 false (.t 21)⟩,
      ⟨some 23, none, .load 1 false (.t 22)⟩,
      ⟨some 24, none, .call i_wire_GetChunk [.t 19, .t 23]⟩,
      ⟨some 15, none, .mov (.t 24)⟩,
      ⟨some 25, none, .ext 0 (.t 15)⟩,
      ⟨some 26, none, .ext 1 (.t 15)⟩,
      ⟨some 27, none, .ext 2 (.t 15)⟩,
      ⟨some 28, none, .fldA 3 1 false (.t 7)⟩,
      ⟨none, none, .store 1 (.t 28) (.t 25)⟩,
      ⟨some 9, none, .mov (.t 26)⟩,
      ⟨some 8, none, .mov (.t 27)⟩])))))))))
    (.seq (.region [⟨some 79, none, .mov (.t 8)⟩,
      ⟨some 80, none, .call i_interp_must [.t 79]⟩])
    (.seq (.region [⟨some 81, none, .mov (.t 0)⟩,
      ⟨some 82, none, .mov (.t 9)⟩,
      ⟨some 83, none, .nilck (.t 81)⟩,
      ⟨some 84, none, .fldA 1 1 false (.t 83)⟩,
      ⟨none, none, .store 1 (.t 84) (.t 82)⟩])
    (.seq (.region [⟨some 85, none, .load 4 true (.t 7)⟩,
      ⟨none, none, .store 4 (.t 6) (.t 85)⟩])
    .ret)))))))), [.cell 6 4 true]⟩
theorem T_interp_cursor_rest : trFn Tryz.prog [(0, [1]), (1, [0, 0, 0, 1, 0]), (1000005, [3, 8, 14, 1000007, 2000008, 2000014]), (1000007, [3, 8, 14, 1000007, 2000008, 2000014]), (1000009, [3, 8, 14, 1000007, 2000008, 2000014]), (1000012, [3, 8, 1000007, 2000008])] Tryz.f200 = some A_interp_cursor_rest := by kernel_rfl
theorem L_interp_cursor_rest : 3 ≤ Tryz.f200.ntmps := by decide

/-! cartouche/table.goodName -/
def A_table_goodName : AFn := ⟨(.seq (.region [⟨some 3, none, .box 0 (.t 0)⟩,
      ⟨some 6, none, .mov (.c (.bool false))⟩])
    (.seq (.region [⟨some 14, none, .fldA 0 1 false (.t 3)⟩,
      ⟨some 15, none, .load 1 false (.t 14)⟩,
      ⟨some 16, none, .mov (.t 1)⟩,
      ⟨some 17, none, .idxA 6 (.t 15) (.t 16)⟩,
      ⟨some 18, none, .load 6 true (.t 17)⟩,
      ⟨some 7, none, .alloc 0 [.str ⟨#[]⟩, .bool false, .nil, .nil, .nil, .nil]⟩,
      ⟨none, none, .store 6 (.t 7) (.t 18)⟩])
    (.seq (.region [⟨some 19, none, .fldA 0 1 false (.t 7)⟩,
      ⟨some 20, none, .load 1 false (.t 19)⟩,
      ⟨some 21, none, .call i_strings_Split [.t 20, .c (.str ⟨#[46]⟩)]⟩,
      ⟨some 8, none, .mov (.t 21)⟩])
    (.seq (.region [⟨some 9, none, .mov (.c (.int .i64 8))⟩])
    (.seq (.seq (.region [⟨some 22, none, .fldA 1 1 false (.t 7)⟩,
      ⟨some 23, none, .load 1 false (.t 22)⟩])
    (.cond (.t 23) (.region [⟨some 24, none, .mov (.t 9)⟩,
      ⟨some 25, none, .bin false .add (.t 24) (.c (.int .i64 1))⟩,
      ⟨some 9, none, .mov (.t 25)⟩])
    .skip))
    (.seq (.seq (.region [⟨some 26, none, .mov (.t 8)⟩,
      ⟨some 27, none, .len false (.t 26)⟩,
      ⟨some 28, none, .mov (.t 9)⟩,
      ⟨some 29, none, .bin false .gtr (.t 27) (.t 28)⟩])
    (.cond (.t 29) (.seq (.region [⟨some 6, none, .mov (.c (.bool false))⟩])
    .ret)
    .skip))
    (.seq (.seq (.region [⟨some 30, none, .mov (.t 8)⟩,
      ⟨some 31, none, .len false (.t 30)⟩,
      ⟨some 32, none, .mov (.c (.int .i64 0))⟩])
    (.block 0 (.loop (.seq (.region [⟨some 33, none, .bin false .lss (.t 32) (.t 31)⟩])
    (.seq (.cond (.t 33) .skip
    (.exit 0))
    (.seq (.block 1 (.seq (.region [⟨some 34, none, .idxA 1 (.t 30) (.t 32)⟩,
      ⟨some 35, none, .load 1 false (.t 34)⟩,
      ⟨some 11, none, .mov (.t 35)⟩])
    (.seq (.region [⟨some 36, none, .mov (.t 11)⟩,
      ⟨some 37, none, .call i_lex_IsName [.t 36]⟩,
      ⟨some 38, none, .un .not (.t 37)⟩])
    (.cond (.t 38) (.seq (.region [⟨some 6, none, .mov (.c (.bool false))⟩])
    .ret)
    .skip))))
    (.region [⟨some 39, none, .bin false .add (.t 32) (.c (.int .i64 1))⟩,
      ⟨some 32, none, .mov (.t 39)⟩])))))))
    (.seq (.seq (.region [⟨some 40, none, .mov (.t 8)⟩,
      ⟨some 41, none, .len false (.t 40)⟩,
      ⟨some 42, none, .bin false .eql (.t 41) (.c (.int .i64 1))⟩])
    (.cond (.t 42) (.seq (.region [⟨some 6, none, .mov (.c (.bool true))⟩])
    .ret)
    .skip))
    (.seq (.region [⟨some 44, none, .mov (.t 2)⟩,
      ⟨some 45, none, .mov (.t 8)⟩,
      ⟨some 46, none, .mov (.t 8)⟩,
      ⟨some 47, none, .len false (.t 46)⟩,
      ⟨some 48, none, .bin false .sub (.t 47) (.c (.int .i64 1))⟩,
      ⟨some 49, none, .slc 1 (.t 45) none (some (.t 48)) none⟩,
      ⟨some 50, none, .call i_strings_Join [.t 49, .c (.str ⟨#[46]⟩)]⟩,
      ⟨some 51, none, .look .str (.int .i64 0) true (.t 44) (.t 50)⟩,
      ⟨some 43, none, .mov (.t 51)⟩,
      ⟨some 52, none, .ext 0 (.t 43)⟩,
      ⟨some 53, none, .ext 1 (.t 43)⟩,
      ⟨some 12, none, .mov (.t 52)⟩,
      ⟨some 13, none, .mov (.t 53)⟩])
    (.seq (.region [⟨some 54, none, .mov (.t 13)⟩,
      ⟨some 55, none, .mov (.t 54)⟩,
      ⟨some 56, some (55, true), .fldA 0 1 false (.t 3)⟩,
      ⟨some 57, some (55, true), .load 1 false (.t 56)⟩,
      ⟨some 58, some (55, true), .mov (.t 12)⟩,
      ⟨some 59, some (55, true), .idxA 6 (.t 57) (.t 58)⟩,
      ⟨some 60, some (55, true), .fldA 1 1 false (.t 59)⟩,
      ⟨some 61, some (55, true), .load 1 false (.t 60)⟩,
      ⟨some 62, some (55, true), .un .not (.t 61)⟩,
      ⟨some 63, none, .pickb (.t 55) (.t 62) (.c (.bool false))⟩,
      ⟨some 6, none, .mov (.t 63)⟩])
    .ret)))))))))), [.tmp 6]⟩
theorem T_table_goodName : trFn Tryz.prog [(0, [1, 0]), (1, [0, 0, 0, 0, 0, 1, 0])] Tryz.f201 = some A_table_goodName := by kernel_rfl
theorem L_table_goodName : 3 ≤ Tryz.f201.ntmps := by decide

/-! cartouche/table.goodEnum -/
def A_table_goodEnum : AFn := ⟨(.seq (.region [⟨some 1, none, .box 0 (.t 0)⟩,
      ⟨some 2, none, .mov (.c (.bool false))⟩])
    (.seq (.seq (.region [⟨some 7, none, .fldA 4 1 false (.t 1)⟩,
      ⟨some 8, none, .load 1 false (.t 7)⟩,
      ⟨some 9, none, .len false (.t 8)⟩,
      ⟨some 10, none, .bin false .lss (.t 9) (.c (.int .i64 1))⟩,
      ⟨some 11, none, .mov (.t 10)⟩,
      ⟨some 12, some (11, false), .fldA 4 1 false (.t 1)⟩,
      ⟨some 13, some (11, false), .load 1 false (.t 12)⟩,
      ⟨some 14, some (11, false), .len false (.t 13)⟩,
      ⟨some 15, some (11, false), .bin false .gtr (.t 14) (.c (.int .i64 128))⟩,
      ⟨some 16, none, .pickb (.t 11) (.c (.bool true)) (.t 15)⟩,
      ⟨some 17, none, .mov (.t 16)⟩,
      ⟨some 18, some (17, false), .fldA 4 1 false (.t 1)⟩,
      ⟨some 19, some (17, false), .load 1 false (.t 18)⟩,
      ⟨some 20, some (17, false), .idxA 2 (.t 19) (.c (.int .i64 0))⟩,
      ⟨some 21, some (17, false), .fldA 1 1 false (.t 20)⟩,
      ⟨some 22, some (17, false), .load 1 false (.t 21)⟩,
      ⟨some 23, some (17, false), .bin false .neq (.t 22) (.c (.int .i64 0))⟩,
      ⟨some 24, none, .pickb (.t 17) (.c (.bool true)) (.t 23)⟩,
      ⟨some 25, none, .mov (.t 24)⟩,
      ⟨some 26, some (25, false), .fldA 2 1 false (.t 1)⟩,
      ⟨some 27, some (25, false), .load 1 false (.t 26)⟩,
      ⟨some 28, some (25, false), .len false (.t 27)⟩,
      ⟨some 29, some (25, false), .fldA 3 1 false (.t 1)⟩,
      ⟨some 30, some (25, false), .load 1 false (.t 29)⟩,
      ⟨some 31, some (25, false), .len false (.t 30)⟩,
      ⟨some 32, some (25, false), .bin false .add (.t 28) (.t 31)⟩,
      ⟨some 33, some (25, false), .fldA 5 1 false (.t 1)⟩,
      ⟨some 34, some (25, false), .load 1 false (.t 33)⟩,
      ⟨some 35, some (25, false), .len false (.t 34)⟩,
      ⟨some 36, some (25, false), .bin false .add (.t 32) (.t 35)⟩,
      ⟨some 37, some (25, false), .bin false .gtr (.t 36) (.c (.int .i64 0))⟩,
      ⟨some 38, none, .pickb (.t 25) (.c (.bool true)) (.t 37)⟩])
    (.cond (.t 38) (.seq (.region [⟨some 2, none, .mov (.c (.bool false))⟩])
    .ret)
    .skip))
    (.seq (.region [⟨some 39, none, .mkmap 0 .str⟩,
      ⟨some 40, none, .mkmap 0 (.int .i64)⟩,
      ⟨some 3, none, .mov (.t 39)⟩,
      ⟨some 4, none, .mov (.t 40)⟩])
    (.seq (.seq (.region [⟨some 41, none, .fldA 4 1 false (.t 1)⟩,
      ⟨some 42, none, .load 1 false (.t 41)⟩,
      ⟨some 43, none, .len false (.t 42)⟩,
      ⟨some 44, none, .mov (.c (.int .i64 0))⟩])
    (.block 0 (.loop (.seq (.region [⟨some 45, none, .bin false .lss (.t 44) (.t 43)⟩])
    (.seq (.cond (.t 45) .skip
    (.exit 0))
    (.seq (.block 1 (.seq (.region [⟨some 46, none, .idxA 2 (.t 42) (.t 44)⟩,
      ⟨some 47, none, .load 2 true (.t 46)⟩,
      ⟨some 6, none, .alloc 0 [.str ⟨#[]⟩, .int .i64 0]⟩,
      ⟨none, none, .store 2 (.t 6) (.t 47)⟩])
    (.seq (.seq (.region [⟨some 48, none, .fldA 0 1 false (.t 6)⟩,
      ⟨some 49, none, .load 1 false (.t 48)⟩,
      ⟨some 50, none, .call i_lex_IsName [.t 49]⟩,
      ⟨some 51, none, .un .not (.t 50)⟩,
      ⟨some 52, none, .mov (.t 51)⟩,
      ⟨some 53, some (52, false), .mov (.t 3)⟩,
      ⟨some 54, some (52, false), .fldA 0 1 false (.t 6)⟩,
      ⟨some 55, some (52, false), .load 1 false (.t 54)⟩,
      ⟨some 56, some (52, false), .call i_table_named_add [.t 53, .t 55]⟩,
      ⟨some 57, some (52, false), .un .not (.t 56)⟩,
      ⟨some 58, none, .pickb (.t 52) (.c (.bool true)) (.t 57)⟩,
      ⟨some 59, none, .mov (.t 58)⟩,
      ⟨some 60, some (59, false), .fldA 1 1 false (.t 6)⟩,
      ⟨some 61, some (59, false), .load 1 false (.t 60)⟩,
      ⟨some 62, some (59, false), .bin false .lss (.t 61) (.c (.int .i64 0))⟩,
      ⟨some 63, none, .pickb (.t 59) (.c (.bool true)) (.t 62)⟩,
      ⟨some 64, none, .mov (.t 63)⟩,
      ⟨some 65, some (64, false), .fldA 1 1 false (.t 6)⟩,
      ⟨some 66, some (64, false), .load 1 false (.t 65)⟩,
      ⟨some 67, some (64, false), .bin false .gtr (.t 66) (.c (.int .i64 2147483647))⟩,
      ⟨some 68, none, .pickb (.t 64) (.c (.bool true)) (.t 67)⟩])
    (.cond (.t 68) (.seq (.region [⟨some 2, none, .mov (.c (.bool false))⟩])
    .ret)
    .skip))
    (.region [⟨some 69, none, .mov (.t 4)⟩,
      ⟨some 70, none, .fldA 1 1 false (.t 6)⟩,
      ⟨some 71, none, .load 1 false (.t 70)⟩,
      ⟨some 72, none, .build [] []⟩,
      ⟨none, none, .mapset (.int .i64) (.t 69) (.t 71) (.t 72)⟩]))))
    (.region [⟨some 73, none, .bin false .add (.t 44) (.c (.int .i64 1))⟩,
      ⟨some 44, none, .mov (.t 73)⟩])))))))
    (.seq (.region [⟨some 74, none, .mov (.t 4)⟩,
      ⟨some 75, none, .lenm (.t 74)⟩,
      ⟨some 76, none, .fldA 4 1 false (.t 1)⟩,
      ⟨some 77, none, .load 1 false (.t 76)⟩,
      ⟨some 78, none, .len false (.t 77)⟩,
      ⟨some 79, none, .bin false .eql (.t 75) (.t 78)⟩,
      ⟨some 2, none, .mov (.t 79)⟩])
    .ret))))), [.tmp 2]⟩
theorem T_table_goodEnum : trFn Tryz.prog [(0, [1, 0]), (6, [0, 0, 1, 0])] Tryz.f202 = some A_table_goodEnum := by kernel_rfl
theorem L_table_goodEnum : 1 ≤ Tryz.f202.ntmps := by decide

end Go.Proofs.YtdlgenppdgkacaaGreatDoor.Ag
