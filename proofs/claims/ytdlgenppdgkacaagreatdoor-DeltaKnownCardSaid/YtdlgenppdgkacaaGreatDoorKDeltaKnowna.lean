/- The closed law DeltaKnown, evaluated without memory. -/
import Derived.Test.YtdlgenppdgkacaaGreatDoorProg
import Derived.Test.YtdlgenppdgkacaaGreatDoorKnBase2
set_option maxRecDepth 100000
namespace Go.Proofs.YtdlgenppdgkacaaGreatDoor.Ag
set_option maxRecDepth 100000
abbrev i_cartouchelaw21_DeltaKnown : FuncId := 7
theorem F_cartouchelaw21_DeltaKnown : Tryz.prog.funcs[i_cartouchelaw21_DeltaKnown]? = some Tryz.f7 := Tryz.func7
abbrev i_cartouchelaw7_Simple : FuncId := 16
theorem F_cartouchelaw7_Simple : Tryz.prog.funcs[i_cartouchelaw7_Simple]? = some Tryz.f16 := Tryz.func16
abbrev i_model_Depth : FuncId := 17
theorem F_model_Depth : Tryz.prog.funcs[i_model_Depth]? = some Tryz.f17 := Tryz.func17
abbrev i_cartoucheref8_Empty : FuncId := 18
theorem F_cartoucheref8_Empty : Tryz.prog.funcs[i_cartoucheref8_Empty]? = some Tryz.f18 := Tryz.func18
abbrev i_cartoucheref8_SameField : FuncId := 26
theorem F_cartoucheref8_SameField : Tryz.prog.funcs[i_cartoucheref8_SameField]? = some Tryz.f26 := Tryz.func26
abbrev i_interp_Encode : FuncId := 37
theorem F_interp_Encode : Tryz.prog.funcs[i_interp_Encode]? = some Tryz.f37 := Tryz.func37
abbrev i_delta_Diff : FuncId := 46
theorem F_delta_Diff : Tryz.prog.funcs[i_delta_Diff]? = some Tryz.f46 := Tryz.func46
abbrev i_cartouchelaw21_msg : FuncId := 47
theorem F_cartouchelaw21_msg : Tryz.prog.funcs[i_cartouchelaw21_msg]? = some Tryz.f47 := Tryz.func47
abbrev i_cartouchelaw21_n : FuncId := 48
theorem F_cartouchelaw21_n : Tryz.prog.funcs[i_cartouchelaw21_n]? = some Tryz.f48 := Tryz.func48
abbrev i_cartouchelaw21_in : FuncId := 49
theorem F_cartouchelaw21_in : Tryz.prog.funcs[i_cartouchelaw21_in]? = some Tryz.f49 := Tryz.func49
abbrev i_cartouchelaw21_awake : FuncId := 50
theorem F_cartouchelaw21_awake : Tryz.prog.funcs[i_cartouchelaw21_awake]? = some Tryz.f50 := Tryz.func50
abbrev i_cartoucheref21_Same : FuncId := 51
theorem F_cartoucheref21_Same : Tryz.prog.funcs[i_cartoucheref21_Same]? = some Tryz.f51 := Tryz.func51
abbrev i_cartouchelaw21_Ref : FuncId := 52
theorem F_cartouchelaw21_Ref : Tryz.prog.funcs[i_cartouchelaw21_Ref]? = some Tryz.f52 := Tryz.func52
abbrev i_delta_Apply : FuncId := 53
theorem F_delta_Apply : Tryz.prog.funcs[i_delta_Apply]? = some Tryz.f53 := Tryz.func53
abbrev i_delta_Bytes : FuncId := 54
theorem F_delta_Bytes : Tryz.prog.funcs[i_delta_Bytes]? = some Tryz.f54 := Tryz.func54
abbrev i_delta_Read : FuncId := 55
theorem F_delta_Read : Tryz.prog.funcs[i_delta_Read]? = some Tryz.f55 := Tryz.func55
abbrev i_model_Equal : FuncId := 64
theorem F_model_Equal : Tryz.prog.funcs[i_model_Equal]? = some Tryz.f64 := Tryz.func64
abbrev i_model_Typed : FuncId := 65
theorem F_model_Typed : Tryz.prog.funcs[i_model_Typed]? = some Tryz.f65 := Tryz.func65
abbrev i_model_Normal : FuncId := 66
theorem F_model_Normal : Tryz.prog.funcs[i_model_Normal]? = some Tryz.f66 := Tryz.func66
abbrev i_model_Copy : FuncId := 68
theorem F_model_Copy : Tryz.prog.funcs[i_model_Copy]? = some Tryz.f68 := Tryz.func68
abbrev i_cartoucheref8_Equal : FuncId := 71
theorem F_cartoucheref8_Equal : Tryz.prog.funcs[i_cartoucheref8_Equal]? = some Tryz.f71 := Tryz.func71
abbrev i_cartoucheref8_vals : FuncId := 77
theorem F_cartoucheref8_vals : Tryz.prog.funcs[i_cartoucheref8_vals]? = some Tryz.f77 := Tryz.func77
abbrev i_interp_Decode : FuncId := 86
theorem F_interp_Decode : Tryz.prog.funcs[i_interp_Decode]? = some Tryz.f86 := Tryz.func86
abbrev i_interp_write : FuncId := 87
theorem F_interp_write : Tryz.prog.funcs[i_interp_write]? = some Tryz.f87 := Tryz.func87
abbrev i_interp_read : FuncId := 88
theorem F_interp_read : Tryz.prog.funcs[i_interp_read]? = some Tryz.f88 := Tryz.func88
abbrev i_delta_may : FuncId := 95
theorem F_delta_may : Tryz.prog.funcs[i_delta_may]? = some Tryz.f95 := Tryz.func95
abbrev i_delta_diff : FuncId := 96
theorem F_delta_diff : Tryz.prog.funcs[i_delta_diff]? = some Tryz.f96 := Tryz.func96
abbrev i_cartouchelaw21_told : FuncId := 97
theorem F_cartouchelaw21_told : Tryz.prog.funcs[i_cartouchelaw21_told]? = some Tryz.f97 := Tryz.func97
abbrev i_cartoucheref1_List : FuncId := 98
theorem F_cartoucheref1_List : Tryz.prog.funcs[i_cartoucheref1_List]? = some Tryz.f98 := Tryz.func98
abbrev i_delta_apply : FuncId := 99
theorem F_delta_apply : Tryz.prog.funcs[i_delta_apply]? = some Tryz.f99 := Tryz.func99
abbrev i_delta_entry : FuncId := 100
theorem F_delta_entry : Tryz.prog.funcs[i_delta_entry]? = some Tryz.f100 := Tryz.func100
abbrev i_wire_Split : FuncId := 101
theorem F_wire_Split : Tryz.prog.funcs[i_wire_Split]? = some Tryz.f101 := Tryz.func101
abbrev i_delta_step : FuncId := 102
theorem F_delta_step : Tryz.prog.funcs[i_delta_step]? = some Tryz.f102 := Tryz.func102
abbrev i_bytes_Equal : FuncId := 103
theorem F_bytes_Equal : Tryz.prog.funcs[i_bytes_Equal]? = some Tryz.f103 := Tryz.func103
abbrev i_wire_PutVarint : FuncId := 104
theorem F_wire_PutVarint : Tryz.prog.funcs[i_wire_PutVarint]? = some Tryz.f104 := Tryz.func104
abbrev i_wire_PutFix32 : FuncId := 105
theorem F_wire_PutFix32 : Tryz.prog.funcs[i_wire_PutFix32]? = some Tryz.f105 := Tryz.func105
abbrev i_slices_EqualFunc_api_Field_api_Field_api_Field_api_Field : FuncId := 115
theorem F_slices_EqualFunc_api_Field_api_Field_api_Field_api_Field : Tryz.prog.funcs[i_slices_EqualFunc_api_Field_api_Field_api_Field_api_Field]? = some Tryz.f115 := Tryz.func115
abbrev i_model_Equal_1 : FuncId := 116
theorem F_model_Equal_1 : Tryz.prog.funcs[i_model_Equal_1]? = some Tryz.f116 := Tryz.func116
abbrev i_slices_EqualFunc_api_Val_api_Val_api_Val_api_Val : FuncId := 117
theorem F_slices_EqualFunc_api_Val_api_Val_api_Val_api_Val : Tryz.prog.funcs[i_slices_EqualFunc_api_Val_api_Val_api_Val_api_Val]? = some Tryz.f117 := Tryz.func117
abbrev i_model_equalVal : FuncId := 118
theorem F_model_equalVal : Tryz.prog.funcs[i_model_equalVal]? = some Tryz.f118 := Tryz.func118
abbrev i_slices_EqualFunc_api_Entry_api_Entry_api_Entry_api_Entry : FuncId := 119
theorem F_slices_EqualFunc_api_Entry_api_Entry_api_Entry_api_Entry : Tryz.prog.funcs[i_slices_EqualFunc_api_Entry_api_Entry_api_Entry_api_Entry]? = some Tryz.f119 := Tryz.func119
abbrev i_model_Equal_2 : FuncId := 120
theorem F_model_Equal_2 : Tryz.prog.funcs[i_model_Equal_2]? = some Tryz.f120 := Tryz.func120
abbrev i_table_IsMessage : FuncId := 121
theorem F_table_IsMessage : Tryz.prog.funcs[i_table_IsMessage]? = some Tryz.f121 := Tryz.func121
abbrev i_model_typed : FuncId := 122
theorem F_model_typed : Tryz.prog.funcs[i_model_typed]? = some Tryz.f122 := Tryz.func122
abbrev i_model_normal : FuncId := 123
theorem F_model_normal : Tryz.prog.funcs[i_model_normal]? = some Tryz.f123 := Tryz.func123
abbrev i_slices_DeleteFunc_api_Field_api_Field : FuncId := 124
theorem F_slices_DeleteFunc_api_Field_api_Field : Tryz.prog.funcs[i_slices_DeleteFunc_api_Field_api_Field]? = some Tryz.f124 := Tryz.func124
abbrev i_table_At : FuncId := 126
theorem F_table_At : Tryz.prog.funcs[i_table_At]? = some Tryz.f126 := Tryz.func126
abbrev i_model_told : FuncId := 127
theorem F_model_told : Tryz.prog.funcs[i_model_told]? = some Tryz.f127 := Tryz.func127
abbrev i_model_Taken : FuncId := 130
theorem F_model_Taken : Tryz.prog.funcs[i_model_Taken]? = some Tryz.f130 := Tryz.func130
abbrev i_model_each_api_Field : FuncId := 131
theorem F_model_each_api_Field : Tryz.prog.funcs[i_model_each_api_Field]? = some Tryz.f131 := Tryz.func131
abbrev i_model_CopyField : FuncId := 132
theorem F_model_CopyField : Tryz.prog.funcs[i_model_CopyField]? = some Tryz.f132 := Tryz.func132
abbrev i_model_each_api_Entry : FuncId := 133
theorem F_model_each_api_Entry : Tryz.prog.funcs[i_model_each_api_Entry]? = some Tryz.f133 := Tryz.func133
abbrev i_model_CopyEntry : FuncId := 134
theorem F_model_CopyEntry : Tryz.prog.funcs[i_model_CopyEntry]? = some Tryz.f134 := Tryz.func134
abbrev i_slices_IndexFunc_api_Field_api_Field : FuncId := 138
theorem F_slices_IndexFunc_api_Field_api_Field : Tryz.prog.funcs[i_slices_IndexFunc_api_Field_api_Field]? = some Tryz.f138 := Tryz.func138
abbrev i_interp_written : FuncId := 141
theorem F_interp_written : Tryz.prog.funcs[i_interp_written]? = some Tryz.f141 := Tryz.func141
abbrev i_interp_read_1 : FuncId := 142
theorem F_interp_read_1 : Tryz.prog.funcs[i_interp_read_1]? = some Tryz.f142 := Tryz.func142
abbrev i_interp_cursor_done : FuncId := 143
theorem F_interp_cursor_done : Tryz.prog.funcs[i_interp_cursor_done]? = some Tryz.f143 := Tryz.func143
abbrev i_interp_cursor_entry : FuncId := 144
theorem F_interp_cursor_entry : Tryz.prog.funcs[i_interp_cursor_entry]? = some Tryz.f144 := Tryz.func144
abbrev i_table_Good : FuncId := 145
theorem F_table_Good : Tryz.prog.funcs[i_table_Good]? = some Tryz.f145 := Tryz.func145
abbrev i_delta_diff_1 : FuncId := 148
theorem F_delta_diff_1 : Tryz.prog.funcs[i_delta_diff_1]? = some Tryz.f148 := Tryz.func148
abbrev i_delta_ints : FuncId := 149
theorem F_delta_ints : Tryz.prog.funcs[i_delta_ints]? = some Tryz.f149 := Tryz.func149
abbrev i_delta_entries : FuncId := 150
theorem F_delta_entries : Tryz.prog.funcs[i_delta_entries]? = some Tryz.f150 := Tryz.func150
abbrev i_delta_alone : FuncId := 151
theorem F_delta_alone : Tryz.prog.funcs[i_delta_alone]? = some Tryz.f151 := Tryz.func151
abbrev i_delta_goes : FuncId := 152
theorem F_delta_goes : Tryz.prog.funcs[i_delta_goes]? = some Tryz.f152 := Tryz.func152
abbrev i_delta_unknown : FuncId := 153
theorem F_delta_unknown : Tryz.prog.funcs[i_delta_unknown]? = some Tryz.f153 := Tryz.func153
abbrev i_cartoucheref1_Same : FuncId := 154
theorem F_cartoucheref1_Same : Tryz.prog.funcs[i_cartoucheref1_Same]? = some Tryz.f154 := Tryz.func154
abbrev i_delta_at : FuncId := 155
theorem F_delta_at : Tryz.prog.funcs[i_delta_at]? = some Tryz.f155 := Tryz.func155
abbrev i_delta_laid : FuncId := 156
theorem F_delta_laid : Tryz.prog.funcs[i_delta_laid]? = some Tryz.f156 := Tryz.func156
abbrev i_slices_Delete_api_Field_api_Field : FuncId := 157
theorem F_slices_Delete_api_Field_api_Field : Tryz.prog.funcs[i_slices_Delete_api_Field_api_Field]? = some Tryz.f157 := Tryz.func157
abbrev i_delta_along : FuncId := 158
theorem F_delta_along : Tryz.prog.funcs[i_delta_along]? = some Tryz.f158 := Tryz.func158
abbrev i_wire_Join : FuncId := 159
theorem F_wire_Join : Tryz.prog.funcs[i_wire_Join]? = some Tryz.f159 := Tryz.func159
abbrev i_wire_PutEntry : FuncId := 160
theorem F_wire_PutEntry : Tryz.prog.funcs[i_wire_PutEntry]? = some Tryz.f160 := Tryz.func160
abbrev i_wire_GetEntry : FuncId := 161
theorem F_wire_GetEntry : Tryz.prog.funcs[i_wire_GetEntry]? = some Tryz.f161 := Tryz.func161
abbrev i_delta_numbers : FuncId := 162
theorem F_delta_numbers : Tryz.prog.funcs[i_delta_numbers]? = some Tryz.f162 := Tryz.func162
abbrev i_wire_varint : FuncId := 163
theorem F_wire_varint : Tryz.prog.funcs[i_wire_varint]? = some Tryz.f163 := Tryz.func163
abbrev i_wire_Size : FuncId := 164
theorem F_wire_Size : Tryz.prog.funcs[i_wire_Size]? = some Tryz.f164 := Tryz.func164
abbrev i_wire_word : FuncId := 165
theorem F_wire_word : Tryz.prog.funcs[i_wire_word]? = some Tryz.f165 := Tryz.func165
abbrev i_wire_GetVarint : FuncId := 166
theorem F_wire_GetVarint : Tryz.prog.funcs[i_wire_GetVarint]? = some Tryz.f166 := Tryz.func166
abbrev i_wire_GetFix32 : FuncId := 167
theorem F_wire_GetFix32 : Tryz.prog.funcs[i_wire_GetFix32]? = some Tryz.f167 := Tryz.func167
abbrev i_slices_EqualFunc_api_Msg_api_Msg_api_Msg_api_Msg : FuncId := 171
theorem F_slices_EqualFunc_api_Msg_api_Msg_api_Msg_api_Msg : Tryz.prog.funcs[i_slices_EqualFunc_api_Msg_api_Msg_api_Msg_api_Msg]? = some Tryz.f171 := Tryz.func171
abbrev i_table_sort : FuncId := 172
theorem F_table_sort : Tryz.prog.funcs[i_table_sort]? = some Tryz.f172 := Tryz.func172
abbrev i_model_typedField : FuncId := 173
theorem F_model_typedField : Tryz.prog.funcs[i_model_typedField]? = some Tryz.f173 := Tryz.func173
abbrev i_slices_ContainsFunc_api_Val_api_Val : FuncId := 174
theorem F_slices_ContainsFunc_api_Val_api_Val : Tryz.prog.funcs[i_slices_ContainsFunc_api_Val_api_Val]? = some Tryz.f174 := Tryz.func174
abbrev i_model_normal_1 : FuncId := 175
theorem F_model_normal_1 : Tryz.prog.funcs[i_model_normal_1]? = some Tryz.f175 := Tryz.func175
abbrev i_slices_ContainsFunc_api_Entry_api_Entry : FuncId := 176
theorem F_slices_ContainsFunc_api_Entry_api_Entry : Tryz.prog.funcs[i_slices_ContainsFunc_api_Entry_api_Entry]? = some Tryz.f176 := Tryz.func176
abbrev i_model_normal_2 : FuncId := 177
theorem F_model_normal_2 : Tryz.prog.funcs[i_model_normal_2]? = some Tryz.f177 := Tryz.func177
abbrev i_model_Nothing : FuncId := 178
theorem F_model_Nothing : Tryz.prog.funcs[i_model_Nothing]? = some Tryz.f178 := Tryz.func178
abbrev i_slices_IndexFunc_api_Entry_api_Entry : FuncId := 179
theorem F_slices_IndexFunc_api_Entry_api_Entry : Tryz.prog.funcs[i_slices_IndexFunc_api_Entry_api_Entry]? = some Tryz.f179 := Tryz.func179
abbrev i_table_How : FuncId := 180
theorem F_table_How : Tryz.prog.funcs[i_table_How]? = some Tryz.f180 := Tryz.func180
abbrev i_model_each_api_Val : FuncId := 181
theorem F_model_each_api_Val : Tryz.prog.funcs[i_model_each_api_Val]? = some Tryz.f181 := Tryz.func181
abbrev i_model_CopyVal : FuncId := 182
theorem F_model_CopyVal : Tryz.prog.funcs[i_model_CopyVal]? = some Tryz.f182 := Tryz.func182
abbrev i_model_list : FuncId := 183
theorem F_model_list : Tryz.prog.funcs[i_model_list]? = some Tryz.f183 := Tryz.func183
abbrev i_model_Others : FuncId := 184
theorem F_model_Others : Tryz.prog.funcs[i_model_Others]? = some Tryz.f184 := Tryz.func184
abbrev i_slices_Contains_int_int : FuncId := 186
theorem F_slices_Contains_int_int : Tryz.prog.funcs[i_slices_Contains_int_int]? = some Tryz.f186 := Tryz.func186
abbrev i_model_Place : FuncId := 187
theorem F_model_Place : Tryz.prog.funcs[i_model_Place]? = some Tryz.f187 := Tryz.func187
abbrev i_table_Wire : FuncId := 192
theorem F_table_Wire : Tryz.prog.funcs[i_table_Wire]? = some Tryz.f192 := Tryz.func192
abbrev i_interp_value : FuncId := 193
theorem F_interp_value : Tryz.prog.funcs[i_interp_value]? = some Tryz.f193 := Tryz.func193
abbrev i_interp_tagged : FuncId := 194
theorem F_interp_tagged : Tryz.prog.funcs[i_interp_tagged]? = some Tryz.f194 := Tryz.func194
abbrev i_wire_PutChunk : FuncId := 195
theorem F_wire_PutChunk : Tryz.prog.funcs[i_wire_PutChunk]? = some Tryz.f195 := Tryz.func195
abbrev i_scalar_Wire : FuncId := 196
theorem F_scalar_Wire : Tryz.prog.funcs[i_scalar_Wire]? = some Tryz.f196 := Tryz.func196
abbrev i_interp_cursor_tag : FuncId := 197
theorem F_interp_cursor_tag : Tryz.prog.funcs[i_interp_cursor_tag]? = some Tryz.f197 := Tryz.func197
abbrev i_interp_cursor_put : FuncId := 198
theorem F_interp_cursor_put : Tryz.prog.funcs[i_interp_cursor_put]? = some Tryz.f198 := Tryz.func198
abbrev i_interp_cursor_row : FuncId := 199
theorem F_interp_cursor_row : Tryz.prog.funcs[i_interp_cursor_row]? = some Tryz.f199 := Tryz.func199
abbrev i_interp_cursor_rest : FuncId := 200
theorem F_interp_cursor_rest : Tryz.prog.funcs[i_interp_cursor_rest]? = some Tryz.f200 := Tryz.func200
abbrev i_table_goodName : FuncId := 201
theorem F_table_goodName : Tryz.prog.funcs[i_table_goodName]? = some Tryz.f201 := Tryz.func201
abbrev i_table_goodEnum : FuncId := 202
theorem F_table_goodEnum : Tryz.prog.funcs[i_table_goodEnum]? = some Tryz.f202 := Tryz.func202
abbrev i_table_goodMessage : FuncId := 203
theorem F_table_goodMessage : Tryz.prog.funcs[i_table_goodMessage]? = some Tryz.f203 := Tryz.func203
abbrev i_delta_at_1 : FuncId := 204
theorem F_delta_at_1 : Tryz.prog.funcs[i_delta_at_1]? = some Tryz.f204 := Tryz.func204
abbrev i_delta_laid_1 : FuncId := 205
theorem F_delta_laid_1 : Tryz.prog.funcs[i_delta_laid_1]? = some Tryz.f205 := Tryz.func205
abbrev i_slices_Insert_api_Field_api_Field : FuncId := 206
theorem F_slices_Insert_api_Field_api_Field : Tryz.prog.funcs[i_slices_Insert_api_Field_api_Field]? = some Tryz.f206 := Tryz.func206
abbrev i_wire_PutTag : FuncId := 207
theorem F_wire_PutTag : Tryz.prog.funcs[i_wire_PutTag]? = some Tryz.f207 := Tryz.func207
abbrev i_wire_GetTag : FuncId := 208
theorem F_wire_GetTag : Tryz.prog.funcs[i_wire_GetTag]? = some Tryz.f208 := Tryz.func208
abbrev i_wire_read : FuncId := 209
theorem F_wire_read : Tryz.prog.funcs[i_wire_read]? = some Tryz.f209 := Tryz.func209
abbrev i_wire_GetChunk : FuncId := 210
theorem F_wire_GetChunk : Tryz.prog.funcs[i_wire_GetChunk]? = some Tryz.f210 := Tryz.func210
abbrev i_bits_Len64 : FuncId := 211
theorem F_bits_Len64 : Tryz.prog.funcs[i_bits_Len64]? = some Tryz.f211 := Tryz.func211
abbrev i_wire_place : FuncId := 212
theorem F_wire_place : Tryz.prog.funcs[i_wire_place]? = some Tryz.f212 := Tryz.func212
abbrev i_model_typedVal : FuncId := 216
theorem F_model_typedVal : Tryz.prog.funcs[i_model_typedVal]? = some Tryz.f216 := Tryz.func216
abbrev i_scalar_Compare : FuncId := 217
theorem F_scalar_Compare : Tryz.prog.funcs[i_scalar_Compare]? = some Tryz.f217 := Tryz.func217
abbrev i_model_typedField_1 : FuncId := 218
theorem F_model_typedField_1 : Tryz.prog.funcs[i_model_typedField_1]? = some Tryz.f218 := Tryz.func218
abbrev i_slices_IndexFunc_api_Val_api_Val : FuncId := 219
theorem F_slices_IndexFunc_api_Val_api_Val : Tryz.prog.funcs[i_slices_IndexFunc_api_Val_api_Val]? = some Tryz.f219 := Tryz.func219
abbrev i_table_HasRow : FuncId := 220
theorem F_table_HasRow : Tryz.prog.funcs[i_table_HasRow]? = some Tryz.f220 := Tryz.func220
abbrev i_model_each_api_Msg : FuncId := 221
theorem F_model_each_api_Msg : Tryz.prog.funcs[i_model_each_api_Msg]? = some Tryz.f221 := Tryz.func221
abbrev i_slices_Index_int_int : FuncId := 222
theorem F_slices_Index_int_int : Tryz.prog.funcs[i_slices_Index_int_int]? = some Tryz.f222 := Tryz.func222
abbrev i_slices_BinarySearchFunc_api_Field_api_Field_int : FuncId := 223
theorem F_slices_BinarySearchFunc_api_Field_api_Field_int : Tryz.prog.funcs[i_slices_BinarySearchFunc_api_Field_api_Field_int]? = some Tryz.f223 := Tryz.func223
abbrev i_model_Place_1 : FuncId := 224
theorem F_model_Place_1 : Tryz.prog.funcs[i_model_Place_1]? = some Tryz.f224 := Tryz.func224
abbrev i_slices_Insert_api_Val_api_Val : FuncId := 227
theorem F_slices_Insert_api_Val_api_Val : Tryz.prog.funcs[i_slices_Insert_api_Val_api_Val]? = some Tryz.f227 := Tryz.func227
abbrev i_scalar_Put : FuncId := 232
theorem F_scalar_Put : Tryz.prog.funcs[i_scalar_Put]? = some Tryz.f232 := Tryz.func232
abbrev i_interp_must : FuncId := 233
theorem F_interp_must : Tryz.prog.funcs[i_interp_must]? = some Tryz.f233 := Tryz.func233
abbrev i_interp_cursor_within : FuncId := 234
theorem F_interp_cursor_within : Tryz.prog.funcs[i_interp_cursor_within]? = some Tryz.f234 := Tryz.func234
abbrev i_interp_cursor_scalar : FuncId := 235
theorem F_interp_cursor_scalar : Tryz.prog.funcs[i_interp_cursor_scalar]? = some Tryz.f235 := Tryz.func235
abbrev i_interp_field : FuncId := 236
theorem F_interp_field : Tryz.prog.funcs[i_interp_field]? = some Tryz.f236 := Tryz.func236
abbrev i_interp_cursor_value : FuncId := 237
theorem F_interp_cursor_value : Tryz.prog.funcs[i_interp_cursor_value]? = some Tryz.f237 := Tryz.func237
abbrev i_interp_cursor_put_1 : FuncId := 238
theorem F_interp_cursor_put_1 : Tryz.prog.funcs[i_interp_cursor_put_1]? = some Tryz.f238 := Tryz.func238
abbrev i_interp_cursor_pair : FuncId := 239
theorem F_interp_cursor_pair : Tryz.prog.funcs[i_interp_cursor_pair]? = some Tryz.f239 := Tryz.func239
abbrev i_interp_laid : FuncId := 240
theorem F_interp_laid : Tryz.prog.funcs[i_interp_laid]? = some Tryz.f240 := Tryz.func240
abbrev i_interp_cursor_chunk : FuncId := 241
theorem F_interp_cursor_chunk : Tryz.prog.funcs[i_interp_cursor_chunk]? = some Tryz.f241 := Tryz.func241
abbrev i_wire_GetFix64 : FuncId := 242
theorem F_wire_GetFix64 : Tryz.prog.funcs[i_wire_GetFix64]? = some Tryz.f242 := Tryz.func242
abbrev i_strings_Split : FuncId := 243
theorem F_strings_Split : Tryz.prog.funcs[i_strings_Split]? = some Tryz.f243 := Tryz.func243
abbrev i_lex_IsName : FuncId := 244
theorem F_lex_IsName : Tryz.prog.funcs[i_lex_IsName]? = some Tryz.f244 := Tryz.func244
abbrev i_table_named_add : FuncId := 246
theorem F_table_named_add : Tryz.prog.funcs[i_table_named_add]? = some Tryz.f246 := Tryz.func246
abbrev i_table_reserved : FuncId := 247
theorem F_table_reserved : Tryz.prog.funcs[i_table_reserved]? = some Tryz.f247 := Tryz.func247
abbrev i_table_goodField : FuncId := 248
theorem F_table_goodField : Tryz.prog.funcs[i_table_goodField]? = some Tryz.f248 := Tryz.func248
abbrev i_slices_overlaps_api_Field : FuncId := 249
theorem F_slices_overlaps_api_Field : Tryz.prog.funcs[i_slices_overlaps_api_Field]? = some Tryz.f249 := Tryz.func249
abbrev i_slices_rotateRight_api_Field : FuncId := 250
theorem F_slices_rotateRight_api_Field : Tryz.prog.funcs[i_slices_rotateRight_api_Field]? = some Tryz.f250 := Tryz.func250
abbrev i_wire_isKind : FuncId := 251
theorem F_wire_isKind : Tryz.prog.funcs[i_wire_isKind]? = some Tryz.f251 := Tryz.func251
abbrev i_wire_Span : FuncId := 252
theorem F_wire_Span : Tryz.prog.funcs[i_wire_Span]? = some Tryz.f252 := Tryz.func252
abbrev i_scalar_Fits : FuncId := 256
theorem F_scalar_Fits : Tryz.prog.funcs[i_scalar_Fits]? = some Tryz.f256 := Tryz.func256
abbrev i_table_SymbolAt : FuncId := 257
theorem F_table_SymbolAt : Tryz.prog.funcs[i_table_SymbolAt]? = some Tryz.f257 := Tryz.func257
abbrev i_quote_Valid : FuncId := 258
theorem F_quote_Valid : Tryz.prog.funcs[i_quote_Valid]? = some Tryz.f258 := Tryz.func258
abbrev i_scalar_IsKey : FuncId := 259
theorem F_scalar_IsKey : Tryz.prog.funcs[i_scalar_IsKey]? = some Tryz.f259 := Tryz.func259
abbrev i_bytes_Compare : FuncId := 260
theorem F_bytes_Compare : Tryz.prog.funcs[i_bytes_Compare]? = some Tryz.f260 := Tryz.func260
abbrev i_scalar_signed : FuncId := 261
theorem F_scalar_signed : Tryz.prog.funcs[i_scalar_signed]? = some Tryz.f261 := Tryz.func261
abbrev i_cmp_Compare_int64 : FuncId := 262
theorem F_cmp_Compare_int64 : Tryz.prog.funcs[i_cmp_Compare_int64]? = some Tryz.f262 := Tryz.func262
abbrev i_cmp_Compare_uint64 : FuncId := 263
theorem F_cmp_Compare_uint64 : Tryz.prog.funcs[i_cmp_Compare_uint64]? = some Tryz.f263 := Tryz.func263
abbrev i_scalar_Numeric : FuncId := 264
theorem F_scalar_Numeric : Tryz.prog.funcs[i_scalar_Numeric]? = some Tryz.f264 := Tryz.func264
abbrev i_slices_overlaps_api_Val : FuncId := 265
theorem F_slices_overlaps_api_Val : Tryz.prog.funcs[i_slices_overlaps_api_Val]? = some Tryz.f265 := Tryz.func265
abbrev i_slices_rotateRight_api_Val : FuncId := 266
theorem F_slices_rotateRight_api_Val : Tryz.prog.funcs[i_slices_rotateRight_api_Val]? = some Tryz.f266 := Tryz.func266
abbrev i_scalar_may : FuncId := 269
theorem F_scalar_may : Tryz.prog.funcs[i_scalar_may]? = some Tryz.f269 := Tryz.func269
abbrev i_wire_PutFix64 : FuncId := 270
theorem F_wire_PutFix64 : Tryz.prog.funcs[i_wire_PutFix64]? = some Tryz.f270 := Tryz.func270
abbrev i_wire_ZigZag : FuncId := 271
theorem F_wire_ZigZag : Tryz.prog.funcs[i_wire_ZigZag]? = some Tryz.f271 := Tryz.func271
abbrev i_interp_cursor_message : FuncId := 272
theorem F_interp_cursor_message : Tryz.prog.funcs[i_interp_cursor_message]? = some Tryz.f272 := Tryz.func272
abbrev i_scalar_Get : FuncId := 273
theorem F_scalar_Get : Tryz.prog.funcs[i_scalar_Get]? = some Tryz.f273 := Tryz.func273
abbrev i_interp_Default : FuncId := 274
theorem F_interp_Default : Tryz.prog.funcs[i_interp_Default]? = some Tryz.f274 := Tryz.func274
abbrev i_strings_genSplit : FuncId := 275
theorem F_strings_genSplit : Tryz.prog.funcs[i_strings_genSplit]? = some Tryz.f275 := Tryz.func275
abbrev i_lex_letter : FuncId := 276
theorem F_lex_letter : Tryz.prog.funcs[i_lex_letter]? = some Tryz.f276 := Tryz.func276
abbrev i_lex_named : FuncId := 277
theorem F_lex_named : Tryz.prog.funcs[i_lex_named]? = some Tryz.f277 := Tryz.func277
abbrev i_slices_rotateLeft_api_Field : FuncId := 281
theorem F_slices_rotateLeft_api_Field : Tryz.prog.funcs[i_slices_rotateLeft_api_Field]? = some Tryz.f281 := Tryz.func281
abbrev i_scalar_known : FuncId := 296
theorem F_scalar_known : Tryz.prog.funcs[i_scalar_known]? = some Tryz.f296 := Tryz.func296
abbrev i_scalar_holds : FuncId := 297
theorem F_scalar_holds : Tryz.prog.funcs[i_scalar_holds]? = some Tryz.f297 := Tryz.func297
abbrev i_utf8_Valid : FuncId := 298
theorem F_utf8_Valid : Tryz.prog.funcs[i_utf8_Valid]? = some Tryz.f298 := Tryz.func298
abbrev i_bytealg_Compare : FuncId := 299
theorem F_bytealg_Compare : Tryz.prog.funcs[i_bytealg_Compare]? = some Tryz.f299 := Tryz.func299
abbrev i_cmp_isNaN_int64 : FuncId := 300
theorem F_cmp_isNaN_int64 : Tryz.prog.funcs[i_cmp_isNaN_int64]? = some Tryz.f300 := Tryz.func300
abbrev i_cmp_isNaN_uint64 : FuncId := 301
theorem F_cmp_isNaN_uint64 : Tryz.prog.funcs[i_cmp_isNaN_uint64]? = some Tryz.f301 := Tryz.func301
abbrev i_slices_rotateLeft_api_Val : FuncId := 302
theorem F_slices_rotateLeft_api_Val : Tryz.prog.funcs[i_slices_rotateLeft_api_Val]? = some Tryz.f302 := Tryz.func302
abbrev i_wire_ZagZig : FuncId := 303
theorem F_wire_ZagZig : Tryz.prog.funcs[i_wire_ZagZig]? = some Tryz.f303 := Tryz.func303
abbrev i_lex_digit : FuncId := 307
theorem F_lex_digit : Tryz.prog.funcs[i_lex_digit]? = some Tryz.f307 := Tryz.func307
abbrev i_slices_Reverse_api_Field_api_Field : FuncId := 310
theorem F_slices_Reverse_api_Field_api_Field : Tryz.prog.funcs[i_slices_Reverse_api_Field_api_Field]? = some Tryz.f310 := Tryz.func310
abbrev i_utf8_word_byte : FuncId := 326
theorem F_utf8_word_byte : Tryz.prog.funcs[i_utf8_word_byte]? = some Tryz.f326 := Tryz.func326
abbrev i_slices_Reverse_api_Val_api_Val : FuncId := 327
theorem F_slices_Reverse_api_Val_api_Val : Tryz.prog.funcs[i_slices_Reverse_api_Val_api_Val]? = some Tryz.f327 := Tryz.func327

abbrev i_strings_Join : FuncId := 245
abbrev i_strings_explode : FuncId := 304
abbrev i_strings_Count : FuncId := 305
abbrev i_strings_Index : FuncId := 306
/-! cartouche/cartouchelaw21.DeltaKnown -/
def A_cartouchelaw21_DeltaKnown : AFn := ⟨(.seq (.region [⟨some 0, none, .mov (.c (.bool false))⟩])
    (.seq (.region [⟨some 17, none, .call i_cartouchelaw7_Simple []⟩,
      ⟨some 1, none, .alloc 0 [.nil]⟩,
      ⟨none, none, .store 1 (.t 1) (.t 17)⟩])
    (.seq (.draw [1, 2, 4, 5, 6, 7, 8, 9, 11, 13, 15, 16, 17, 18, 19, 20, 21, 1000000, 2000021] [⟨some 19, none, .load 1 true (.t 1)⟩,
      ⟨some 20, none, .blit 0 3 1 [.c (.int .i64 1)]⟩,
      ⟨some 21, none, .call i_cartouchelaw21_n [.c (.int .i64 1), .t 20]⟩,
      ⟨some 22, none, .bslice 1 [.c (.int .i64 2)]⟩,
      ⟨some 23, none, .call i_cartouchelaw21_n [.c (.int .i64 1), .t 22]⟩,
      ⟨some 24, none, .blit 0 29 3 [.t 23]⟩,
      ⟨some 25, none, .call i_cartouchelaw21_msg [.t 24]⟩,
      ⟨some 26, none, .call i_cartouchelaw21_in [.c (.int .i64 3), .t 25]⟩,
      ⟨some 27, none, .blit 0 29 3 [.t 21, .t 26]⟩,
      ⟨some 28, none, .call i_cartouchelaw21_msg [.t 27]⟩,
      ⟨some 29, none, .bslice 1 [.c (.int .i64 1)]⟩,
      ⟨some 30, none, .call i_cartouchelaw21_n [.c (.int .i64 1), .t 29]⟩,
      ⟨some 31, none, .bslice 1 [.c (.int .i64 3)]⟩,
      ⟨some 32, none, .call i_cartouchelaw21_n [.c (.int .i64 2), .t 31]⟩,
      ⟨some 33, none, .bslice 1 [.c (.int .i64 5)]⟩,
      ⟨some 34, none, .call i_cartouchelaw21_n [.c (.int .i64 1), .t 33]⟩,
      ⟨some 35, none, .blit 0 29 3 [.t 34]⟩,
      ⟨some 36, none, .call i_cartouchelaw21_msg [.t 35]⟩,
      ⟨some 37, none, .call i_cartouchelaw21_in [.c (.int .i64 3), .t 36]⟩,
      ⟨some 38, none, .blit 0 29 3 [.t 30, .t 32, .t 37]⟩,
      ⟨some 39, none, .call i_cartouchelaw21_msg [.t 38]⟩,
      ⟨some 40, none, .call i_delta_Diff [.t 19, .c (.int .i64 1), .t 28, .t 39]⟩,
      ⟨some 18, none, .mov (.t 40)⟩,
      ⟨some 41, none, .ext 0 (.t 18)⟩,
      ⟨some 42, none, .ext 1 (.t 18)⟩,
      ⟨some 2, none, .mov (.t 41)⟩,
      ⟨some 3, none, .mov (.t 42)⟩])
    (.seq (.region [⟨some 43, none, .build [.int .i64 0, .int .i64 0, .int .u64 0, .nil] [(0, 1, .c (.int .i64 9)), (2, 1, .c (.int .u64 1))]⟩,
      ⟨some 44, none, .blit 0 40 4 [.t 43]⟩,
      ⟨some 4, none, .mov (.t 44)⟩])
    (.seq (.draw [1, 2, 3, 4, 7, 1000000, 1000006, 2000007] [⟨some 46, none, .load 1 true (.t 1)⟩,
      ⟨some 47, none, .blit 0 3 1 [.c (.int .i64 1)]⟩,
      ⟨some 48, none, .call i_cartouchelaw21_n [.c (.int .i64 1), .t 47]⟩,
      ⟨some 49, none, .blit 0 29 3 [.t 48]⟩,
      ⟨some 50, none, .call i_cartouchelaw21_msg [.t 49]⟩,
      ⟨some 51, none, .mov (.t 4)⟩,
      ⟨some 52, none, .build [.nil, .nil] [(1, 1, .t 51)]⟩,
      ⟨some 53, none, .call i_delta_Diff [.t 46, .c (.int .i64 1), .t 50, .t 52]⟩,
      ⟨some 45, none, .mov (.t 53)⟩,
      ⟨some 54, none, .ext 0 (.t 45)⟩,
      ⟨some 55, none, .ext 1 (.t 45)⟩,
      ⟨some 5, none, .mov (.t 54)⟩,
      ⟨some 6, none, .mov (.t 55)⟩])
    (.seq (.seq (.region [⟨some 56, none, .call i_cartouchelaw21_awake []⟩,
      ⟨some 57, none, .un .not (.t 56)⟩,
      ⟨some 58, none, .mov (.t 57)⟩,
      ⟨some 59, none, .pickb (.t 58) (.c (.bool true)) (.c (.bool false))⟩,
      ⟨some 60, none, .mov (.t 59)⟩,
      ⟨some 61, some (60, false), .mov (.t 3)⟩,
      ⟨some 62, some (60, false), .bin false .neq (.t 61) (.c (.int .i64 0))⟩,
      ⟨some 63, none, .pickb (.t 60) (.c (.bool true)) (.t 62)⟩,
      ⟨some 64, none, .mov (.t 63)⟩,
      ⟨some 65, some (64, false), .mov (.t 2)⟩,
      ⟨some 66, some (64, false), .call i_cartouchelaw21_Ref [.t 65]⟩,
      ⟨some 67, some (64, false), .blit 0 3 1 [.c (.int .i64 3)]⟩,
      ⟨some 68, some (64, false), .call i_cartouchelaw21_n [.c (.int .i64 2), .t 67]⟩,
      ⟨some 69, some (64, false), .build [.int .i64 0, .nil, .int .i64 0, .nil, .nil, .nil] [(0, 1, .c (.int .i64 1)), (2, 3, .t 68)]⟩,
      ⟨some 70, some (64, false), .blit 0 3 1 [.c (.int .i64 3)]⟩,
      ⟨some 71, some (64, false), .blit 0 3 1 [.c (.int .i64 5)]⟩,
      ⟨some 72, some (64, false), .call i_cartouchelaw21_n [.c (.int .i64 1), .t 71]⟩,
      ⟨some 73, some (64, false), .build [.int .i64 0, .nil, .int .i64 0, .nil, .nil, .nil] [(0, 1, .c (.int .i64 1)), (1, 1, .t 70), (2, 3, .t 72)]⟩,
      ⟨some 74, some (64, false), .blit 0 81 6 [.t 69, .t 73]⟩,
      ⟨some 75, some (64, false), .call i_cartoucheref21_Same [.t 66, .t 74]⟩,
      ⟨some 76, some (64, false), .un .not (.t 75)⟩,
      ⟨some 77, none, .pickb (.t 64) (.c (.bool true)) (.t 76)⟩,
      ⟨some 78, none, .mov (.t 77)⟩,
      ⟨some 79, some (78, false), .mov (.t 6)⟩,
      ⟨some 80, some (78, false), .bin false .neq (.t 79) (.c (.int .i64 0))⟩,
      ⟨some 81, none, .pickb (.t 78) (.c (.bool true)) (.t 80)⟩,
      ⟨some 82, none, .mov (.t 81)⟩,
      ⟨some 83, some (82, false), .mov (.t 5)⟩,
      ⟨some 84, some (82, false), .call i_cartouchelaw21_Ref [.t 83]⟩,
      ⟨some 85, some (82, false), .build [.int .i64 0, .nil, .nil] [(0, 1, .c (.int .i64 1))]⟩,
      ⟨some 86, some (82, false), .build [.int .i64 0, .nil, .int .i64 0, .nil, .nil, .nil] [(0, 1, .c (.int .i64 2)), (2, 3, .t 85)]⟩,
      ⟨some 87, some (82, false), .mov (.t 4)⟩,
      ⟨some 88, some (82, false), .build [.int .i64 0, .nil, .int .i64 0, .nil, .nil, .nil] [(0, 1, .c (.int .i64 3)), (5, 1, .t 87)]⟩,
      ⟨some 89, some (82, false), .blit 0 81 6 [.t 86, .t 88]⟩,
      ⟨some 90, some (82, false), .call i_cartoucheref21_Same [.t 84, .t 89]⟩,
      ⟨some 91, some (82, false), .un .not (.t 90)⟩,
      ⟨some 92, none, .pickb (.t 82) (.c (.bool true)) (.t 91)⟩])
    (.cond (.t 92) (.seq (.region [⟨some 0, none, .mov (.c (.bool false))⟩])
    .ret)
    .skip))
    (.seq (.region [⟨some 93, none, .build [.int .i64 0, .nil, .nil] [(0, 1, .c (.int .i64 1))]⟩,
      ⟨some 94, none, .build [.int .i64 0, .nil, .int .i64 0, .nil, .nil, .nil] [(0, 1, .c (.int .i64 2)), (2, 3, .t 93)]⟩,
      ⟨some 7, none, .alloc 0 [.int .i64 0, .nil, .int .i64 0, .nil, .nil, .nil]⟩,
      ⟨none, none, .store 6 (.t 7) (.t 94)⟩])
    (.seq (.region [⟨some 95, none, .blit 0 3 1 [.c (.int .i64 3)]⟩,
      ⟨some 96, none, .blit 0 3 1 [.c (.int .i64 5)]⟩,
      ⟨some 97, none, .call i_cartouchelaw21_n [.c (.int .i64 1), .t 96]⟩,
      ⟨some 98, none, .build [.int .i64 0, .nil, .int .i64 0, .nil, .nil, .nil] [(0, 1, .c (.int .i64 1)), (1, 1, .t 95), (2, 3, .t 97)]⟩,
      ⟨some 8, none, .alloc 0 [.int .i64 0, .nil, .int .i64 0, .nil, .nil, .nil]⟩,
      ⟨none, none, .store 6 (.t 8) (.t 98)⟩])
    (.seq (.draw [1, 2, 3, 4, 8, 1000000, 1000005, 1000006, 2000008] [⟨some 100, none, .load 1 true (.t 1)⟩,
      ⟨some 101, none, .blit 0 3 1 [.c (.int .i64 1)]⟩,
      ⟨some 102, none, .call i_cartouchelaw21_n [.c (.int .i64 1), .t 101]⟩,
      ⟨some 103, none, .blit 0 29 3 [.t 102]⟩,
      ⟨some 104, none, .call i_cartouchelaw21_msg [.t 103]⟩,
      ⟨some 105, none, .load 6 true (.t 7)⟩,
      ⟨some 106, none, .load 6 true (.t 7)⟩,
      ⟨some 107, none, .bslice 6 [.t 105, .t 106]⟩,
      ⟨some 108, none, .call i_delta_Apply [.t 100, .c (.int .i64 1), .t 104, .t 107]⟩,
      ⟨some 99, none, .mov (.t 108)⟩,
      ⟨some 109, none, .ext 0 (.t 99)⟩,
      ⟨some 110, none, .ext 1 (.t 99)⟩,
      ⟨some 3, none, .mov (.t 110)⟩])
    (.seq (.region [⟨some 112, none, .load 1 true (.t 1)⟩,
      ⟨some 113, none, .build [.nil, .nil] []⟩,
      ⟨some 114, none, .load 6 true (.t 8)⟩,
      ⟨some 115, none, .blit 0 82 6 [.t 114]⟩,
      ⟨some 116, none, .call i_delta_Apply [.t 112, .c (.int .i64 1), .t 113, .t 115]⟩,
      ⟨some 111, none, .mov (.t 116)⟩,
      ⟨some 117, none, .ext 0 (.t 111)⟩,
      ⟨some 118, none, .ext 1 (.t 111)⟩,
      ⟨some 6, none, .mov (.t 118)⟩])
    (.seq (.draw [10, 11, 1000000, 1000001, 1000004, 2000011] [⟨some 120, none, .load 1 true (.t 1)⟩,
      ⟨some 121, none, .build [.nil, .nil] []⟩,
      ⟨some 122, none, .bslice 1 [.c (.int .i64 5), .c (.int .i64 6)]⟩,
      ⟨some 123, none, .call i_cartouchelaw21_n [.c (.int .i64 1), .t 122]⟩,
      ⟨some 124, none, .build [.int .i64 0, .nil, .int .i64 0, .nil, .nil, .nil] [(0, 1, .c (.int .i64 1)), (2, 3, .t 123)]⟩,
      ⟨some 125, none, .bslice 6 [.t 124]⟩,
      ⟨some 126, none, .call i_delta_Apply [.t 120, .c (.int .i64 1), .t 121, .t 125]⟩,
      ⟨some 119, none, .mov (.t 126)⟩,
      ⟨some 127, none, .ext 0 (.t 119)⟩,
      ⟨some 128, none, .ext 1 (.t 119)⟩,
      ⟨some 9, none, .alloc 0 [.nil, .nil]⟩,
      ⟨none, none, .store 2 (.t 9) (.t 127)⟩,
      ⟨some 10, none, .mov (.t 128)⟩])
    (.seq (.region [⟨some 130, none, .load 1 true (.t 1)⟩,
      ⟨some 131, none, .load 6 true (.t 7)⟩,
      ⟨some 132, none, .blit 0 82 6 [.t 131]⟩,
      ⟨some 133, none, .call i_delta_Bytes [.t 130, .c (.int .i64 1), .t 132]⟩,
      ⟨some 129, none, .mov (.t 133)⟩,
      ⟨some 134, none, .ext 0 (.t 129)⟩,
      ⟨some 135, none, .ext 1 (.t 129)⟩,
      ⟨some 11, none, .mov (.t 134)⟩,
      ⟨some 12, none, .mov (.t 135)⟩])
    (.seq (.region [⟨some 137, none, .load 1 true (.t 1)⟩,
      ⟨some 138, none, .load 6 true (.t 8)⟩,
      ⟨some 139, none, .blit 0 82 6 [.t 138]⟩,
      ⟨some 140, none, .call i_delta_Bytes [.t 137, .c (.int .i64 1), .t 139]⟩,
      ⟨some 136, none, .mov (.t 140)⟩,
      ⟨some 141, none, .ext 0 (.t 136)⟩,
      ⟨some 142, none, .ext 1 (.t 136)⟩,
      ⟨some 13, none, .mov (.t 141)⟩,
      ⟨some 14, none, .mov (.t 142)⟩])
    (.seq (.region [⟨some 144, none, .load 1 true (.t 1)⟩,
      ⟨some 145, none, .blit 0 5 1 [.c (.int .u8 10), .c (.int .u8 0)]⟩,
      ⟨some 146, none, .call i_delta_Read [.t 144, .c (.int .i64 1), .t 145]⟩,
      ⟨some 143, none, .mov (.t 146)⟩,
      ⟨some 147, none, .ext 0 (.t 143)⟩,
      ⟨some 148, none, .ext 1 (.t 143)⟩,
      ⟨some 15, none, .mov (.t 147)⟩,
      ⟨some 16, none, .mov (.t 148)⟩])
    (.seq (.region [⟨some 149, none, .mov (.t 3)⟩,
      ⟨some 150, none, .bin false .eql (.t 149) (.c (.int .i64 20))⟩,
      ⟨some 151, none, .mov (.t 150)⟩,
      ⟨some 152, some (151, true), .mov (.t 6)⟩,
      ⟨some 153, some (151, true), .bin false .eql (.t 152) (.c (.int .i64 20))⟩,
      ⟨some 154, none, .pickb (.t 151) (.t 153) (.c (.bool false))⟩,
      ⟨some 155, none, .mov (.t 154)⟩,
      ⟨some 156, some (155, true), .mov (.t 10)⟩,
      ⟨some 157, some (155, true), .bin false .eql (.t 156) (.c (.int .i64 10))⟩,
      ⟨some 158, none, .pickb (.t 155) (.t 157) (.c (.bool false))⟩,
      ⟨some 159, none, .mov (.t 158)⟩,
      ⟨some 160, some (159, true), .mov (.t 12)⟩,
      ⟨some 161, some (159, true), .bin false .eql (.t 160) (.c (.int .i64 0))⟩,
      ⟨some 162, none, .pickb (.t 159) (.t 161) (.c (.bool false))⟩,
      ⟨some 163, none, .mov (.t 162)⟩,
      ⟨some 164, some (163, true), .mov (.t 11)⟩,
      ⟨some 165, some (163, true), .b2s (.t 164)⟩,
      ⟨some 166, some (163, true), .bin false .eql (.t 165) (.c (.str ⟨#[18, 4, 10, 0, 24, 1]⟩))⟩,
      ⟨some 167, none, .pickb (.t 163) (.t 166) (.c (.bool false))⟩,
      ⟨some 168, none, .mov (.t 167)⟩,
      ⟨some 169, some (168, true), .mov (.t 14)⟩,
      ⟨some 170, some (168, true), .bin false .eql (.t 169) (.c (.int .i64 0))⟩,
      ⟨some 171, none, .pickb (.t 168) (.t 170) (.c (.bool false))⟩,
      ⟨some 172, none, .mov (.t 171)⟩,
      ⟨some 173, some (172, true), .mov (.t 13)⟩,
      ⟨some 174, some (172, true), .b2s (.t 173)⟩,
      ⟨some 175, some (172, true), .bin false .eql (.t 174) (.c (.str ⟨#[10, 7, 10, 1, 3, 18, 2, 8, 5]⟩))⟩,
      ⟨some 176, none, .pickb (.t 172) (.t 175) (.c (.bool false))⟩,
      ⟨some 177, none, .mov (.t 176)⟩,
      ⟨some 178, some (177, true), .mov (.t 16)⟩,
      ⟨some 179, some (177, true), .bin false .eql (.t 178) (.c (.int .i64 11))⟩,
      ⟨some 180, none, .pickb (.t 177) (.t 179) (.c (.bool false))⟩,
      ⟨some 0, none, .mov (.t 180)⟩])
    .ret))))))))))))))), [.tmp 0]⟩
theorem T_cartouchelaw21_DeltaKnown : trFn Tryz.prog [(1, [0, 1, 0]), (2, [0, 1, 0, 0, 0, 1, 0, 0, 1, 0, 0, 0, 0, 0, 0, 0, 1, 0, 0, 1, 0, 0, 0, 0, 0, 0, 0]), (3, [0, 1, 0]), (4, [0, 1, 0, 1, 0, 0, 0, 0, 0, 0, 0, 0, 0]), (5, [0, 0, 0, 0, 0, 0, 0, 0, 0, 0, 0, 1, 0, 0, 1, 1, 0, 0, 1, 0, 0, 0, 0, 0, 0, 0, 0, 0, 0, 0, 0, 0, 0, 1, 0, 0, 0]), (7, [0, 0, 1, 0]), (8, [1, 1, 0, 0, 1, 0]), (9, [0, 1, 0, 1, 0, 0, 0, 0, 0, 0, 0, 0, 0]), (10, [0, 0, 0, 1, 0, 0, 0, 0, 0]), (11, [0, 0, 0, 0, 0, 0, 0, 0, 0, 0, 1, 0, 0]), (12, [0, 0, 1, 0, 0, 0, 0, 0, 0]), (13, [0, 0, 1, 0, 0, 0, 0, 0, 0]), (14, [0, 1, 0, 0, 0, 0, 0, 0]), (1000002, [1, 2, 4, 5, 6, 7, 8, 9, 11, 13, 15, 16, 17, 18, 19, 20, 21, 1000000, 2000021]), (1000004, [1, 2, 3, 4, 7, 1000000, 1000006, 2000007]), (1000009, [1, 2, 3, 4, 8, 1000000, 1000005, 1000006, 2000008]), (1000011, [10, 11, 1000000, 1000001, 1000004, 2000011])] Tryz.f7 = some A_cartouchelaw21_DeltaKnown := by kernel_rfl
theorem L_cartouchelaw21_DeltaKnown : 0 ≤ Tryz.f7.ntmps := by decide

/-! cartouche/cartouchelaw7.Simple -/
def A_cartouchelaw7_Simple : AFn := ⟨(.seq (.region [⟨some 0, none, .alloc 0 [.nil]⟩])
    (.seq (.region [⟨some 1, none, .build [.str ⟨#[]⟩, .int .i64 0] [(0, 1, .c (.str ⟨#[65]⟩))]⟩,
      ⟨some 2, none, .blit 0 107 2 [.t 1]⟩,
      ⟨some 3, none, .build [.str ⟨#[]⟩, .bool false, .nil, .nil, .nil, .nil] [(0, 1, .c (.str ⟨#[69]⟩)), (1, 1, .c (.bool true)), (4, 1, .t 2)]⟩,
      ⟨some 4, none, .build [.str ⟨#[]⟩, .int .i64 0, .int .i64 0, .int .i64 0, .int .i64 0, .int .i64 0, .int .i64 0] [(0, 1, .c (.str ⟨#[120]⟩)), (1, 1, .c (.int .i64 1)), (2, 1, .c (.int .i64 2))]⟩,
      ⟨some 5, none, .build [.str ⟨#[]⟩, .int .i64 0, .int .i64 0, .int .i64 0, .int .i64 0, .int .i64 0, .int .i64 0] [(0, 1, .c (.str ⟨#[108]⟩)), (1, 1, .c (.int .i64 2)), (2, 1, .c (.int .i64 4)), (4, 1, .c (.int .i64 3))]⟩,
      ⟨some 6, none, .build [.str ⟨#[]⟩, .int .i64 0, .int .i64 0, .int .i64 0, .int .i64 0, .int .i64 0, .int .i64 0] [(0, 1, .c (.str ⟨#[109]⟩)), (1, 1, .c (.int .i64 3)), (2, 1, .c (.int .i64 17)), (3, 1, .c (.int .i64 1)), (4, 1, .c (.int .i64 1))]⟩,
      ⟨some 7, none, .blit 0 114 7 [.t 4, .t 5, .t 6]⟩,
      ⟨some 8, none, .build [.str ⟨#[]⟩, .bool false, .nil, .nil, .nil, .nil] [(0, 1, .c (.str ⟨#[77]⟩)), (2, 1, .t 7)]⟩,
      ⟨some 9, none, .blit 0 112 6 [.t 3, .t 8]⟩,
      ⟨some 10, none, .build [.nil] [(0, 1, .t 9)]⟩,
      ⟨none, none, .store 1 (.t 0) (.t 10)⟩])
    .ret)), [.cell 0 1 true]⟩
theorem T_cartouchelaw7_Simple : trFn Tryz.prog [(0, [1]), (1, [0, 1, 0, 0, 0, 0, 1, 0, 1, 0, 0])] Tryz.f16 = some A_cartouchelaw7_Simple := by kernel_rfl
theorem L_cartouchelaw7_Simple : 0 ≤ Tryz.f16.ntmps := by decide

/-! cartouche/model.Depth -/
def A_model_Depth : AFn := ⟨(.seq (.region [⟨some 1, none, .box 0 (.t 0)⟩,
      ⟨some 2, none, .mov (.c (.int .i64 0))⟩])
    (.seq (.region [⟨some 3, none, .mov (.c (.int .i64 0))⟩])
    (.seq (.seq (.region [⟨some 12, none, .fldA 0 1 false (.t 1)⟩,
      ⟨some 13, none, .load 1 false (.t 12)⟩,
      ⟨some 14, none, .len false (.t 13)⟩,
      ⟨some 15, none, .mov (.c (.int .i64 0))⟩])
    (.block 0 (.loop (.seq (.region [⟨some 16, none, .bin false .lss (.t 15) (.t 14)⟩])
    (.seq (.cond (.t 16) .skip
    (.exit 0))
    (.seq (.block 1 (.seq (.region [⟨some 17, none, .idxA 3 (.t 13) (.t 15)⟩,
      ⟨some 18, none, .load 3 true (.t 17)⟩,
      ⟨some 5, none, .alloc 0 [.int .i64 0, .nil, .nil]⟩,
      ⟨none, none, .store 3 (.t 5) (.t 18)⟩])
    (.seq (.region [⟨some 19, none, .fldA 1 1 false (.t 5)⟩,
      ⟨some 20, none, .load 1 false (.t 19)⟩,
      ⟨some 21, none, .fldA 2 1 false (.t 5)⟩,
      ⟨some 22, none, .load 1 false (.t 21)⟩,
      ⟨some 23, none, .build [.nil, .nil] [(0, 1, .t 20), (1, 1, .t 22)]⟩,
      ⟨some 24, none, .mov (.c (.int .i64 0))⟩])
    (.block 2 (.loop (.seq (.region [⟨some 25, none, .bin false .lss (.t 24) (.c (.int .i64 2))⟩])
    (.seq (.cond (.t 25) .skip
    (.exit 2))
    (.seq (.block 3 (.seq (.region [⟨some 26, none, .arrV 2 1 false (.t 23) (.t 24)⟩,
      ⟨some 7, none, .mov (.t 26)⟩])
    (.seq (.region [⟨some 27, none, .mov (.t 7)⟩,
      ⟨some 28, none, .len false (.t 27)⟩,
      ⟨some 29, none, .mov (.c (.int .i64 0))⟩])
    (.block 4 (.loop (.seq (.region [⟨some 30, none, .bin false .lss (.t 29) (.t 28)⟩])
    (.seq (.cond (.t 30) .skip
    (.exit 4))
    (.seq (.block 5 (.seq (.region [⟨some 31, none, .idxA 3 (.t 27) (.t 29)⟩,
      ⟨some 32, none, .load 3 true (.t 31)⟩,
      ⟨some 9, none, .alloc 0 [.int .u64 0, .nil, .nil]⟩,
      ⟨none, none, .store 3 (.t 9) (.t 32)⟩])
    (.seq (.region [⟨some 33, none, .fldA 2 1 false (.t 9)⟩,
      ⟨some 34, none, .load 1 false (.t 33)⟩,
      ⟨some 35, none, .len false (.t 34)⟩,
      ⟨some 36, none, .mov (.c (.int .i64 0))⟩])
    (.block 6 (.loop (.seq (.region [⟨some 37, none, .bin false .lss (.t 36) (.t 35)⟩])
    (.seq (.cond (.t 37) .skip
    (.exit 6))
    (.seq (.block 7 (.seq (.region [⟨some 38, none, .idxA 2 (.t 34) (.t 36)⟩,
      ⟨some 39, none, .load 2 true (.t 38)⟩,
      ⟨some 11, none, .alloc 0 [.nil, .nil]⟩,
      ⟨none, none, .store 2 (.t 11) (.t 39)⟩])
    (.region [⟨some 40, none, .mov (.t 3)⟩,
      ⟨some 41, none, .load 2 true (.t 11)⟩,
      ⟨some 42, none, .call i_model_Depth [.t 41]⟩,
      ⟨some 43, none, .mm true (.t 40) (.t 42)⟩,
      ⟨some 3, none, .mov (.t 43)⟩])))
    (.region [⟨some 44, none, .bin false .add (.t 36) (.c (.int .i64 1))⟩,
      ⟨some 36, none, .mov (.t 44)⟩])))))))))
    (.region [⟨some 45, none, .bin false .add (.t 29) (.c (.int .i64 1))⟩,
      ⟨some 29, none, .mov (.t 45)⟩])))))))))
    (.region [⟨some 46, none, .bin false .add (.t 24) (.c (.int .i64 1))⟩,
      ⟨some 24, none, .mov (.t 46)⟩])))))))))
    (.region [⟨some 47, none, .bin false .add (.t 15) (.c (.int .i64 1))⟩,
      ⟨some 15, none, .mov (.t 47)⟩])))))))
    (.seq (.region [⟨some 48, none, .mov (.t 3)⟩,
      ⟨some 49, none, .bin false .add (.t 48) (.c (.int .i64 1))⟩,
      ⟨some 2, none, .mov (.t 49)⟩])
    .ret)))), [.tmp 2]⟩
theorem T_model_Depth : trFn Tryz.prog [(0, [1, 0]), (4, [0, 0, 1, 0]), (10, [0, 0, 1, 0]), (13, [0, 0, 1, 0])] Tryz.f17 = some A_model_Depth := by kernel_rfl
theorem L_model_Depth : 1 ≤ Tryz.f17.ntmps := by decide

/-! cartouche/cartoucheref8.Empty -/
def A_cartoucheref8_Empty : AFn := ⟨(.seq (.region [⟨some 1, none, .box 0 (.t 0)⟩,
      ⟨some 2, none, .mov (.c (.bool false))⟩])
    (.seq (.region [⟨some 3, none, .fldA 0 1 false (.t 1)⟩,
      ⟨some 4, none, .load 1 false (.t 3)⟩,
      ⟨some 5, none, .len false (.t 4)⟩,
      ⟨some 6, none, .bin false .eql (.t 5) (.c (.int .i64 0))⟩,
      ⟨some 7, none, .mov (.t 6)⟩,
      ⟨some 8, some (7, true), .fldA 1 1 false (.t 1)⟩,
      ⟨some 9, some (7, true), .load 1 false (.t 8)⟩,
      ⟨some 10, some (7, true), .len false (.t 9)⟩,
      ⟨some 11, some (7, true), .bin false .eql (.t 10) (.c (.int .i64 0))⟩,
      ⟨some 12, none, .pickb (.t 7) (.t 11) (.c (.bool false))⟩,
      ⟨some 2, none, .mov (.t 12)⟩])
    .ret)), [.tmp 2]⟩
theorem T_cartoucheref8_Empty : trFn Tryz.prog [(0, [1, 0])] Tryz.f18 = some A_cartoucheref8_Empty := by kernel_rfl
theorem L_cartoucheref8_Empty : 1 ≤ Tryz.f18.ntmps := by decide

/-! cartouche/cartoucheref8.SameField -/
def A_cartoucheref8_SameField : AFn := ⟨(.seq (.region [⟨some 2, none, .box 0 (.t 0)⟩,
      ⟨some 3, none, .box 0 (.t 1)⟩,
      ⟨some 4, none, .mov (.c (.bool false))⟩])
    (.seq (.region [⟨some 5, none, .fldA 0 1 false (.t 2)⟩,
      ⟨some 6, none, .load 1 false (.t 5)⟩,
      ⟨some 7, none, .fldA 0 1 false (.t 3)⟩,
      ⟨some 8, none, .load 1 false (.t 7)⟩,
      ⟨some 9, none, .bin false .eql (.t 6) (.t 8)⟩,
      ⟨some 10, none, .mov (.t 9)⟩,
      ⟨some 11, some (10, true), .fldA 1 1 false (.t 2)⟩,
      ⟨some 12, some (10, true), .load 1 false (.t 11)⟩,
      ⟨some 13, some (10, true), .fldA 1 1 false (.t 3)⟩,
      ⟨some 14, some (10, true), .load 1 false (.t 13)⟩,
      ⟨some 15, some (10, true), .call i_cartoucheref8_vals [.t 12, .t 14]⟩,
      ⟨some 16, none, .pickb (.t 10) (.t 15) (.c (.bool false))⟩,
      ⟨some 17, none, .mov (.t 16)⟩,
      ⟨some 18, some (17, true), .fldA 2 1 false (.t 2)⟩,
      ⟨some 19, some (17, true), .load 1 false (.t 18)⟩,
      ⟨some 20, some (17, true), .fldA 2 1 false (.t 3)⟩,
      ⟨some 21, some (17, true), .load 1 false (.t 20)⟩,
      ⟨some 22, some (17, true), .call i_cartoucheref8_vals [.t 19, .t 21]⟩,
      ⟨some 23, none, .pickb (.t 17) (.t 22) (.c (.bool false))⟩,
      ⟨some 4, none, .mov (.t 23)⟩])
    .ret)), [.tmp 4]⟩
theorem T_cartoucheref8_SameField : trFn Tryz.prog [(0, [1, 1, 0])] Tryz.f26 = some A_cartoucheref8_SameField := by kernel_rfl
theorem L_cartoucheref8_SameField : 2 ≤ Tryz.f26.ntmps := by decide

/-! cartouche/interp.Encode -/
def A_interp_Encode : AFn := ⟨(.seq (.region [⟨some 3, none, .box 0 (.t 0)⟩,
      ⟨some 5, none, .box 0 (.t 2)⟩,
      ⟨some 6, none, .mov (.c (.nil))⟩,
      ⟨some 7, none, .mov (.c (.int .i64 0))⟩])
    (.seq (.region [⟨some 11, none, .load 1 true (.t 3)⟩,
      ⟨some 12, none, .mov (.t 1)⟩,
      ⟨some 13, none, .load 2 true (.t 5)⟩,
      ⟨some 14, none, .call i_interp_write [.t 11, .t 12, .t 13]⟩,
      ⟨some 10, none, .mov (.t 14)⟩,
      ⟨some 15, none, .ext 0 (.t 10)⟩,
      ⟨some 16, none, .ext 1 (.t 10)⟩,
      ⟨some 8, none, .mov (.t 15)⟩,
      ⟨some 9, none, .mov (.t 16)⟩])
    (.seq (.block 0 (.seq (.region [⟨some 18, none, .mov (.t 9)⟩,
      ⟨some 19, none, .bin false .neq (.t 18) (.c (.int .i64 0))⟩,
      ⟨some 17, none, .mov (.t 19)⟩])
    (.cond (.t 17) (.seq (.region [⟨some 20, none, .mov (.t 9)⟩,
      ⟨some 6, none, .mov (.c (.nil))⟩,
      ⟨some 7, none, .mov (.t 20)⟩])
    .ret)
    (.seq (.region [⟨some 22, none, .mov (.t 8)⟩,
      ⟨some 23, none, .len false (.t 22)⟩,
      ⟨some 24, none, .bin false .gtr (.t 23) (.c (.int .i64 65536))⟩,
      ⟨some 21, none, .mov (.t 24)⟩])
    (.cond (.t 21) (.seq (.region [⟨some 6, none, .mov (.c (.nil))⟩,
      ⟨some 7, none, .mov (.c (.int .i64 1))⟩])
    .ret)
    .skip)))))
    (.seq (.region [⟨some 25, none, .mov (.t 8)⟩,
      ⟨some 26, none, .len false (.t 25)⟩,
      ⟨some 27, none, .mks 0 5 1 1 (.int .u8 0) (.c (.int .i64 0)) (.t 26)⟩,
      ⟨some 28, none, .mov (.t 8)⟩,
      ⟨some 29, none, .app 0 5 1 1 (.t 27) (.t 28)⟩,
      ⟨some 6, none, .mov (.t 29)⟩,
      ⟨some 7, none, .mov (.c (.int .i64 0))⟩])
    .ret)))), [.tmp 6, .tmp 7]⟩
theorem T_interp_Encode : trFn Tryz.prog [(0, [1, 1, 0, 0])] Tryz.f37 = some A_interp_Encode := by kernel_rfl
theorem L_interp_Encode : 3 ≤ Tryz.f37.ntmps := by decide

/-! cartouche/delta.Diff -/
def A_delta_Diff : AFn := ⟨(.seq (.region [⟨some 4, none, .box 0 (.t 0)⟩,
      ⟨some 6, none, .box 0 (.t 2)⟩,
      ⟨some 7, none, .box 0 (.t 3)⟩,
      ⟨some 8, none, .mov (.c (.nil))⟩,
      ⟨some 9, none, .mov (.c (.int .i64 0))⟩])
    (.seq (.seq (.region [⟨some 12, none, .load 1 true (.t 4)⟩,
      ⟨some 13, none, .mov (.t 1)⟩,
      ⟨some 14, none, .load 2 true (.t 6)⟩,
      ⟨some 15, none, .load 2 true (.t 7)⟩,
      ⟨some 16, none, .blit 0 35 2 [.t 14, .t 15]⟩,
      ⟨some 17, none, .call i_delta_may [.t 12, .t 13, .t 16]⟩,
      ⟨some 10, none, .mov (.t 17)⟩])
    (.seq (.region [⟨some 18, none, .mov (.t 10)⟩,
      ⟨some 19, none, .bin false .neq (.t 18) (.c (.int .i64 0))⟩])
    (.cond (.t 19) (.seq (.region [⟨some 20, none, .mov (.t 10)⟩,
      ⟨some 8, none, .mov (.c (.nil))⟩,
      ⟨some 9, none, .mov (.t 20)⟩])
    .ret)
    .skip)))
    (.seq (.region [⟨some 21, none, .load 1 true (.t 4)⟩,
      ⟨some 22, none, .mov (.t 1)⟩,
      ⟨some 23, none, .load 2 true (.t 6)⟩,
      ⟨some 24, none, .load 2 true (.t 7)⟩,
      ⟨some 25, none, .call i_delta_diff [.t 21, .t 22, .c (.nil), .t 23, .t 24]⟩,
      ⟨some 11, none, .mov (.t 25)⟩])
    (.seq (.region [⟨some 26, none, .mov (.t 11)⟩,
      ⟨some 27, none, .len false (.t 26)⟩,
      ⟨some 28, none, .mks 0 82 6 112 (.agg [.int .i64 0, .nil, .int .i64 0, .nil, .nil, .nil]) (.c (.int .i64 0)) (.t 27)⟩,
      ⟨some 29, none, .mov (.t 11)⟩,
      ⟨some 30, none, .app 0 82 6 112 (.t 28) (.t 29)⟩,
      ⟨some 8, none, .mov (.t 30)⟩,
      ⟨some 9, none, .mov (.c (.int .i64 0))⟩])
    .ret)))), [.tmp 8, .tmp 9]⟩
theorem T_delta_Diff : trFn Tryz.prog [(0, [1, 1, 1, 0, 0]), (1, [0, 0, 0, 0, 1, 0, 0])] Tryz.f46 = some A_delta_Diff := by kernel_rfl
theorem L_delta_Diff : 4 ≤ Tryz.f46.ntmps := by decide

/-! cartouche/cartouchelaw21.msg -/
def A_cartouchelaw21_msg : AFn := ⟨(.seq (.region [⟨some 2, none, .alloc 0 [.nil, .nil]⟩])
    (.seq (.region [⟨some 3, none, .mov (.t 0)⟩,
      ⟨some 4, none, .build [.nil, .nil] [(0, 1, .t 3)]⟩,
      ⟨none, none, .store 2 (.t 2) (.t 4)⟩])
    .ret)), [.cell 2 2 true]⟩
theorem T_cartouchelaw21_msg : trFn Tryz.prog [(0, [1])] Tryz.f47 = some A_cartouchelaw21_msg := by kernel_rfl
theorem L_cartouchelaw21_msg : 1 ≤ Tryz.f47.ntmps := by decide

/-! cartouche/cartouchelaw21.n -/
def A_cartouchelaw21_n : AFn := ⟨(.seq (.region [⟨some 4, none, .alloc 0 [.int .i64 0, .nil, .nil]⟩])
    (.seq (.region [⟨some 7, none, .mov (.t 0)⟩,
      ⟨some 8, none, .build [.int .i64 0, .nil, .nil] [(0, 1, .t 7)]⟩,
      ⟨some 5, none, .alloc 0 [.int .i64 0, .nil, .nil]⟩,
      ⟨none, none, .store 3 (.t 5) (.t 8)⟩])
    (.seq (.seq (.region [⟨some 6, none, .mov (.c (.int .i64 0))⟩])
    (.block 0 (.loop (.seq (.seq (.region [⟨some 9, none, .mov (.t 6)⟩,
      ⟨some 10, none, .mov (.t 1)⟩,
      ⟨some 11, none, .len false (.t 10)⟩,
      ⟨some 12, none, .bin false .lss (.t 9) (.t 11)⟩])
    (.cond (.t 12) .skip
    (.exit 0)))
    (.seq (.block 1 (.draw [1, 9, 11, 1000004, 1000005, 1000007, 2000009, 2000011] [⟨some 15, none, .fldA 2 1 false (.t 5)⟩,
      ⟨some 16, none, .load 1 false (.t 15)⟩,
      ⟨some 17, none, .mov (.t 1)⟩,
      ⟨some 18, none, .mov (.t 6)⟩,
      ⟨some 19, none, .idxA 1 (.t 17) (.t 18)⟩,
      ⟨some 20, none, .load 1 false (.t 19)⟩,
      ⟨some 21, none, .conv .u64 (.t 20)⟩,
      ⟨some 22, none, .build [.int .u64 0, .nil, .nil] [(0, 1, .t 21)]⟩,
      ⟨some 23, none, .bslice 3 [.t 22]⟩,
      ⟨some 24, none, .app 0 26 3 56 (.t 16) (.t 23)⟩,
      ⟨some 25, none, .fldA 2 1 false (.t 5)⟩,
      ⟨none, none, .store 1 (.t 25) (.t 24)⟩]))
    (.region [⟨some 13, none, .mov (.t 6)⟩,
      ⟨some 14, none, .bin false .add (.t 13) (.c (.int .i64 1))⟩,
      ⟨some 6, none, .mov (.t 14)⟩]))))))
    (.seq (.region [⟨some 26, none, .load 3 true (.t 5)⟩,
      ⟨none, none, .store 3 (.t 4) (.t 26)⟩])
    .ret)))), [.cell 4 3 true]⟩
theorem T_cartouchelaw21_n : trFn Tryz.prog [(0, [1]), (1, [0, 0, 1, 0]), (1000005, [1, 9, 11, 1000004, 1000005, 1000007, 2000009, 2000011])] Tryz.f48 = some A_cartouchelaw21_n := by kernel_rfl
theorem L_cartouchelaw21_n : 2 ≤ Tryz.f48.ntmps := by decide

/-! cartouche/cartouchelaw21.in -/
def A_cartouchelaw21_in : AFn := ⟨(.seq (.region [⟨some 3, none, .box 0 (.t 1)⟩,
      ⟨some 4, none, .alloc 0 [.int .i64 0, .nil, .nil]⟩])
    (.seq (.region [⟨some 5, none, .mov (.t 0)⟩,
      ⟨some 6, none, .load 2 true (.t 3)⟩,
      ⟨some 7, none, .blit 0 35 2 [.t 6]⟩,
      ⟨some 8, none, .build [.int .u64 0, .nil, .nil] [(2, 1, .t 7)]⟩,
      ⟨some 9, none, .blit 0 26 3 [.t 8]⟩,
      ⟨some 10, none, .build [.int .i64 0, .nil, .nil] [(0, 1, .t 5), (2, 1, .t 9)]⟩,
      ⟨none, none, .store 3 (.t 4) (.t 10)⟩])
    .ret)), [.cell 4 3 true]⟩
theorem T_cartouchelaw21_in : trFn Tryz.prog [(0, [1, 1]), (1, [0, 0, 1, 0, 1, 0, 0])] Tryz.f49 = some A_cartouchelaw21_in := by kernel_rfl
theorem L_cartouchelaw21_in : 2 ≤ Tryz.f49.ntmps := by decide

/-! cartouche/cartouchelaw21.awake -/
def A_cartouchelaw21_awake : AFn := ⟨(.seq (.region [⟨some 0, none, .mov (.c (.bool false))⟩])
    (.seq (.region [⟨some 6, none, .call i_cartouchelaw7_Simple []⟩,
      ⟨some 1, none, .alloc 0 [.nil]⟩,
      ⟨none, none, .store 1 (.t 1) (.t 6)⟩])
    (.seq (.draw [1, 2, 3, 4, 6, 7, 8, 9, 1000000, 2000009] [⟨some 8, none, .load 1 true (.t 1)⟩,
      ⟨some 9, none, .blit 0 3 1 [.c (.int .i64 1)]⟩,
      ⟨some 10, none, .call i_cartouchelaw21_n [.c (.int .i64 1), .t 9]⟩,
      ⟨some 11, none, .blit 0 29 3 [.t 10]⟩,
      ⟨some 12, none, .call i_cartouchelaw21_msg [.t 11]⟩,
      ⟨some 13, none, .bslice 1 [.c (.int .i64 2)]⟩,
      ⟨some 14, none, .call i_cartouchelaw21_n [.c (.int .i64 1), .t 13]⟩,
      ⟨some 15, none, .blit 0 29 3 [.t 14]⟩,
      ⟨some 16, none, .call i_cartouchelaw21_msg [.t 15]⟩,
      ⟨some 17, none, .call i_delta_Diff [.t 8, .c (.int .i64 1), .t 12, .t 16]⟩,
      ⟨some 7, none, .mov (.t 17)⟩,
      ⟨some 18, none, .ext 0 (.t 7)⟩,
      ⟨some 19, none, .ext 1 (.t 7)⟩,
      ⟨some 2, none, .mov (.t 18)⟩,
      ⟨some 3, none, .mov (.t 19)⟩])
    (.seq (.draw [13, 14, 1000000, 1000007, 2000014] [⟨some 21, none, .load 1 true (.t 1)⟩,
      ⟨some 22, none, .bslice 1 [.c (.int .i64 1)]⟩,
      ⟨some 23, none, .call i_cartouchelaw21_n [.c (.int .i64 1), .t 22]⟩,
      ⟨some 24, none, .bslice 3 [.t 23]⟩,
      ⟨some 25, none, .call i_cartouchelaw21_msg [.t 24]⟩,
      ⟨some 26, none, .bslice 1 [.c (.int .i64 2)]⟩,
      ⟨some 27, none, .call i_cartouchelaw21_n [.c (.int .i64 1), .t 26]⟩,
      ⟨some 28, none, .build [.int .i64 0, .nil, .int .i64 0, .nil, .nil, .nil] [(0, 1, .c (.int .i64 1)), (2, 3, .t 27)]⟩,
      ⟨some 29, none, .bslice 6 [.t 28]⟩,
      ⟨some 30, none, .call i_delta_Apply [.t 21, .c (.int .i64 1), .t 25, .t 29]⟩,
      ⟨some 20, none, .mov (.t 30)⟩,
      ⟨some 31, none, .ext 0 (.t 20)⟩,
      ⟨some 32, none, .ext 1 (.t 20)⟩,
      ⟨some 4, none, .alloc 0 [.nil, .nil]⟩,
      ⟨none, none, .store 2 (.t 4) (.t 31)⟩,
      ⟨some 5, none, .mov (.t 32)⟩])
    (.seq (.draw [4, 6, 7, 8, 9, 14, 15, 16, 17, 18, 1000012, 2000018] [⟨some 33, none, .mov (.t 3)⟩,
      ⟨some 34, none, .bin false .eql (.t 33) (.c (.int .i64 0))⟩,
      ⟨some 35, none, .mov (.t 34)⟩,
      ⟨some 36, some (35, true), .mov (.t 2)⟩,
      ⟨some 37, some (35, true), .call i_cartouchelaw21_Ref [.t 36]⟩,
      ⟨some 38, some (35, true), .bslice 1 [.c (.int .i64 2)]⟩,
      ⟨some 39, some (35, true), .call i_cartouchelaw21_n [.c (.int .i64 1), .t 38]⟩,
      ⟨some 40, some (35, true), .build [.int .i64 0, .nil, .int .i64 0, .nil, .nil, .nil] [(0, 1, .c (.int .i64 1)), (2, 3, .t 39)]⟩,
      ⟨some 41, some (35, true), .blit 0 81 6 [.t 40]⟩,
      ⟨some 42, some (35, true), .call i_cartoucheref21_Same [.t 37, .t 41]⟩,
      ⟨some 43, none, .pickb (.t 35) (.t 42) (.c (.bool false))⟩,
      ⟨some 44, none, .mov (.t 43)⟩,
      ⟨some 45, some (44, true), .load 2 true (.t 4)⟩,
      ⟨some 46, some (44, true), .mov (.t 5)⟩,
      ⟨some 47, some (44, true), .blit 0 3 1 [.c (.int .i64 2)]⟩,
      ⟨some 48, some (44, true), .call i_cartouchelaw21_n [.c (.int .i64 1), .t 47]⟩,
      ⟨some 49, some (44, true), .blit 0 29 3 [.t 48]⟩,
      ⟨some 50, some (44, true), .call i_cartouchelaw21_msg [.t 49]⟩,
      ⟨some 51, some (44, true), .call i_cartouchelaw21_told [.t 45, .t 46, .t 50, .c (.int .i64 0)]⟩,
      ⟨some 52, none, .pickb (.t 44) (.t 51) (.c (.bool false))⟩,
      ⟨some 0, none, .mov (.t 52)⟩])
    .ret))))), [.tmp 0]⟩
theorem T_cartouchelaw21_awake : trFn Tryz.prog [(1, [0, 1, 0]), (2, [0, 1, 0, 1, 0, 0, 0, 1, 0, 0, 0, 0, 0, 0, 0]), (3, [0, 0, 0, 0, 0, 0, 0, 0, 0, 0, 0, 0, 0, 1, 0, 0]), (4, [0, 0, 0, 0, 0, 0, 0, 0, 1, 0, 0, 0, 0, 0, 1, 0, 1, 0, 0, 0, 0]), (1000002, [1, 2, 3, 4, 6, 7, 8, 9, 1000000, 2000009]), (1000003, [13, 14, 1000000, 1000007, 2000014]), (1000004, [4, 6, 7, 8, 9, 14, 15, 16, 17, 18, 1000012, 2000018])] Tryz.f50 = some A_cartouchelaw21_awake := by kernel_rfl
theorem L_cartouchelaw21_awake : 0 ≤ Tryz.f50.ntmps := by decide

/-! cartouche/cartoucheref21.Same -/
def A_cartoucheref21_Same : AFn := ⟨(.seq (.region [⟨some 4, none, .mov (.c (.bool false))⟩])
    (.seq (.seq (.region [⟨some 9, none, .mov (.t 0)⟩,
      ⟨some 10, none, .len false (.t 9)⟩,
      ⟨some 11, none, .mov (.t 1)⟩,
      ⟨some 12, none, .len false (.t 11)⟩,
      ⟨some 13, none, .bin false .neq (.t 10) (.t 12)⟩])
    (.cond (.t 13) (.seq (.region [⟨some 4, none, .mov (.c (.bool false))⟩])
    .ret)
    .skip))
    (.seq (.seq (.region [⟨some 5, none, .mov (.c (.int .i64 0))⟩])
    (.block 0 (.loop (.seq (.seq (.region [⟨some 14, none, .mov (.t 5)⟩,
      ⟨some 15, none, .mov (.t 0)⟩,
      ⟨some 16, none, .len false (.t 15)⟩,
      ⟨some 17, none, .bin false .lss (.t 14) (.t 16)⟩])
    (.cond (.t 17) .skip
    (.exit 0)))
    (.seq (.block 1 (.seq (.region [⟨some 20, none, .mov (.t 0)⟩,
      ⟨some 21, none, .mov (.t 5)⟩,
      ⟨some 22, none, .idxA 6 (.t 20) (.t 21)⟩,
      ⟨some 23, none, .load 6 true (.t 22)⟩,
      ⟨some 6, none, .alloc 0 [.int .i64 0, .nil, .int .i64 0, .nil, .nil, .nil]⟩,
      ⟨none, none, .store 6 (.t 6) (.t 23)⟩])
    (.seq (.region [⟨some 24, none, .mov (.t 1)⟩,
      ⟨some 25, none, .mov (.t 5)⟩,
      ⟨some 26, none, .idxA 6 (.t 24) (.t 25)⟩,
      ⟨some 27, none, .load 6 true (.t 26)⟩,
      ⟨some 7, none, .alloc 0 [.int .i64 0, .nil, .int .i64 0, .nil, .nil, .nil]⟩,
      ⟨none, none, .store 6 (.t 7) (.t 27)⟩])
    (.seq (.seq (.region [⟨some 28, none, .fldA 0 1 false (.t 6)⟩,
      ⟨some 29, none, .load 1 false (.t 28)⟩,
      ⟨some 30, none, .fldA 0 1 false (.t 7)⟩,
      ⟨some 31, none, .load 1 false (.t 30)⟩,
      ⟨some 32, none, .bin false .neq (.t 29) (.t 31)⟩,
      ⟨some 33, none, .mov (.t 32)⟩,
      ⟨some 34, some (33, false), .fldA 1 1 false (.t 6)⟩,
      ⟨some 35, some (33, false), .load 1 false (.t 34)⟩,
      ⟨some 36, some (33, false), .len false (.t 35)⟩,
      ⟨some 37, some (33, false), .fldA 1 1 false (.t 7)⟩,
      ⟨some 38, some (33, false), .load 1 false (.t 37)⟩,
      ⟨some 39, some (33, false), .len false (.t 38)⟩,
      ⟨some 40, some (33, false), .bin false .neq (.t 36) (.t 39)⟩,
      ⟨some 41, none, .pickb (.t 33) (.c (.bool true)) (.t 40)⟩,
      ⟨some 42, none, .mov (.t 41)⟩,
      ⟨some 43, some (42, false), .fldA 2 3 true (.t 6)⟩,
      ⟨some 44, some (42, false), .load 3 true (.t 43)⟩,
      ⟨some 45, some (42, false), .fldA 2 3 true (.t 7)⟩,
      ⟨some 46, some (42, false), .load 3 true (.t 45)⟩,
      ⟨some 47, some (42, false), .call i_cartoucheref8_SameField [.t 44, .t 46]⟩,
      ⟨some 48, some (42, false), .un .not (.t 47)⟩,
      ⟨some 49, none, .pickb (.t 42) (.c (.bool true)) (.t 48)⟩,
      ⟨some 50, none, .mov (.t 49)⟩,
      ⟨some 51, some (50, false), .fldA 5 1 false (.t 6)⟩,
      ⟨some 52, some (50, false), .load 1 false (.t 51)⟩,
      ⟨some 53, some (50, false), .fldA 5 1 false (.t 7)⟩,
      ⟨some 54, some (50, false), .load 1 false (.t 53)⟩,
      ⟨some 55, some (50, false), .call i_cartoucheref1_List [.t 52, .t 54]⟩,
      ⟨some 56, some (50, false), .un .not (.t 55)⟩,
      ⟨some 57, none, .pickb (.t 50) (.c (.bool true)) (.t 56)⟩])
    (.cond (.t 57) (.seq (.region [⟨some 4, none, .mov (.c (.bool false))⟩])
    .ret)
    .skip))
    (.seq (.region [⟨some 8, none, .mov (.c (.int .i64 0))⟩])
    (.block 2 (.loop (.seq (.seq (.region [⟨some 58, none, .mov (.t 8)⟩,
      ⟨some 59, none, .fldA 1 1 false (.t 6)⟩,
      ⟨some 60, none, .load 1 false (.t 59)⟩,
      ⟨some 61, none, .len false (.t 60)⟩,
      ⟨some 62, none, .bin false .lss (.t 58) (.t 61)⟩])
    (.cond (.t 62) .skip
    (.exit 2)))
    (.seq (.block 3 (.seq (.draw [1, 3, 4, 1000006, 1000008, 1000009] [⟨some 65, none, .fldA 1 1 false (.t 6)⟩,
      ⟨some 66, none, .load 1 false (.t 65)⟩,
      ⟨some 67, none, .mov (.t 8)⟩,
      ⟨some 68, none, .idxA 1 (.t 66) (.t 67)⟩,
      ⟨some 69, none, .load 1 false (.t 68)⟩,
      ⟨some 70, none, .fldA 1 1 false (.t 7)⟩,
      ⟨some 71, none, .load 1 false (.t 70)⟩,
      ⟨some 72, none, .mov (.t 8)⟩,
      ⟨some 73, none, .idxA 1 (.t 71) (.t 72)⟩,
      ⟨some 74, none, .load 1 false (.t 73)⟩,
      ⟨some 75, none, .bin false .neq (.t 69) (.t 74)⟩])
    (.cond (.t 75) (.seq (.region [⟨some 4, none, .mov (.c (.bool false))⟩])
    .ret)
    .skip)))
    (.region [⟨some 63, none, .mov (.t 8)⟩,
      ⟨some 64, none, .bin false .add (.t 63) (.c (.int .i64 1))⟩,
      ⟨some 8, none, .mov (.t 64)⟩]))))))))))
    (.region [⟨some 18, none, .mov (.t 5)⟩,
      ⟨some 19, none, .bin false .add (.t 18) (.c (.int .i64 1))⟩,
      ⟨some 5, none, .mov (.t 19)⟩]))))))
    (.seq (.region [⟨some 4, none, .mov (.c (.bool true))⟩])
    .ret)))), [.tmp 4]⟩
theorem T_cartoucheref21_Same : trFn Tryz.prog [(6, [0, 0, 0, 0, 1, 0]), (7, [0, 0, 0, 0, 1, 0]), (1000013, [1, 3, 4, 1000006, 1000008, 1000009])] Tryz.f51 = some A_cartoucheref21_Same := by kernel_rfl
theorem L_cartoucheref21_Same : 2 ≤ Tryz.f51.ntmps := by decide

/-! cartouche/cartouchelaw21.Ref -/
def A_cartouchelaw21_Ref : AFn := ⟨(.seq (.region [⟨some 2, none, .mov (.c (.nil))⟩])
    (.seq (.region [⟨some 3, none, .mov (.c (.nil))⟩])
    (.seq (.seq (.region [⟨some 4, none, .mov (.c (.int .i64 0))⟩])
    (.block 0 (.loop (.seq (.seq (.region [⟨some 5, none, .mov (.t 4)⟩,
      ⟨some 6, none, .mov (.t 0)⟩,
      ⟨some 7, none, .len false (.t 6)⟩,
      ⟨some 8, none, .bin false .lss (.t 5) (.t 7)⟩])
    (.cond (.t 8) .skip
    (.exit 0)))
    (.seq (.block 1 (.draw [3, 5, 21, 22, 23, 1000008, 1000010, 1000013, 1000015, 1000018, 1000020, 2000021, 2000022, 2000023] [⟨some 11, none, .mov (.t 3)⟩,
      ⟨some 12, none, .mov (.t 0)⟩,
      ⟨some 13, none, .mov (.t 4)⟩,
      ⟨some 14, none, .idxA 6 (.t 12) (.t 13)⟩,
      ⟨some 15, none, .fldA 0 1 false (.t 14)⟩,
      ⟨some 16, none, .load 1 false (.t 15)⟩,
      ⟨some 17, none, .mov (.t 0)⟩,
      ⟨some 18, none, .mov (.t 4)⟩,
      ⟨some 19, none, .idxA 6 (.t 17) (.t 18)⟩,
      ⟨some 20, none, .fldA 1 1 false (.t 19)⟩,
      ⟨some 21, none, .load 1 false (.t 20)⟩,
      ⟨some 22, none, .mov (.t 0)⟩,
      ⟨some 23, none, .mov (.t 4)⟩,
      ⟨some 24, none, .idxA 6 (.t 22) (.t 23)⟩,
      ⟨some 25, none, .fldA 2 3 true (.t 24)⟩,
      ⟨some 26, none, .load 3 true (.t 25)⟩,
      ⟨some 27, none, .mov (.t 0)⟩,
      ⟨some 28, none, .mov (.t 4)⟩,
      ⟨some 29, none, .idxA 6 (.t 27) (.t 28)⟩,
      ⟨some 30, none, .fldA 5 1 false (.t 29)⟩,
      ⟨some 31, none, .load 1 false (.t 30)⟩,
      ⟨some 32, none, .build [.int .i64 0, .nil, .int .i64 0, .nil, .nil, .nil] [(0, 1, .t 16), (1, 1, .t 21), (2, 3, .t 26), (5, 1, .t 31)]⟩,
      ⟨some 33, none, .blit 0 81 6 [.t 32]⟩,
      ⟨some 34, none, .app 0 81 6 112 (.t 11) (.t 33)⟩,
      ⟨some 3, none, .mov (.t 34)⟩]))
    (.region [⟨some 9, none, .mov (.t 4)⟩,
      ⟨some 10, none, .bin false .add (.t 9) (.c (.int .i64 1))⟩,
      ⟨some 4, none, .mov (.t 10)⟩]))))))
    (.seq (.region [⟨some 35, none, .mov (.t 3)⟩,
      ⟨some 2, none, .mov (.t 35)⟩])
    .ret)))), [.tmp 2]⟩
theorem T_cartouchelaw21_Ref : trFn Tryz.prog [(5, [0, 0, 0, 0, 0, 0, 0, 0, 0, 0, 0, 0, 0, 0, 0, 0, 0, 0, 0, 0, 0, 0, 1, 0, 0]), (1000005, [3, 5, 21, 22, 23, 1000008, 1000010, 1000013, 1000015, 1000018, 1000020, 2000021, 2000022, 2000023])] Tryz.f52 = some A_cartouchelaw21_Ref := by kernel_rfl
theorem L_cartouchelaw21_Ref : 1 ≤ Tryz.f52.ntmps := by decide

/-! cartouche/delta.Apply -/
def A_delta_Apply : AFn := ⟨(.seq (.region [⟨some 4, none, .box 0 (.t 0)⟩,
      ⟨some 6, none, .box 0 (.t 2)⟩,
      ⟨some 8, none, .alloc 0 [.nil, .nil]⟩,
      ⟨some 9, none, .mov (.c (.int .i64 0))⟩])
    (.seq (.seq (.region [⟨some 16, none, .load 1 true (.t 4)⟩,
      ⟨some 17, none, .mov (.t 1)⟩,
      ⟨some 18, none, .load 2 true (.t 6)⟩,
      ⟨some 19, none, .blit 0 35 2 [.t 18]⟩,
      ⟨some 20, none, .call i_delta_may [.t 16, .t 17, .t 19]⟩,
      ⟨some 10, none, .mov (.t 20)⟩])
    (.seq (.region [⟨some 21, none, .mov (.t 10)⟩,
      ⟨some 22, none, .bin false .neq (.t 21) (.c (.int .i64 0))⟩])
    (.cond (.t 22) (.seq (.region [⟨some 23, none, .build [.nil, .nil] []⟩,
      ⟨some 24, none, .mov (.t 10)⟩,
      ⟨none, none, .store 2 (.t 8) (.t 23)⟩,
      ⟨some 9, none, .mov (.t 24)⟩])
    .ret)
    .skip)))
    (.seq (.region [⟨some 25, none, .load 2 true (.t 6)⟩,
      ⟨some 26, none, .call i_model_Copy [.t 25]⟩,
      ⟨some 11, none, .alloc 0 [.nil, .nil]⟩,
      ⟨none, none, .store 2 (.t 11) (.t 26)⟩])
    (.seq (.seq (.region [⟨some 27, none, .mov (.t 3)⟩,
      ⟨some 28, none, .len false (.t 27)⟩,
      ⟨some 29, none, .mov (.c (.int .i64 0))⟩])
    (.block 0 (.loop (.seq (.region [⟨some 30, none, .bin false .lss (.t 29) (.t 28)⟩])
    (.seq (.cond (.t 30) .skip
    (.exit 0))
    (.seq (.block 1 (.seq (.region [⟨some 31, none, .idxA 6 (.t 27) (.t 29)⟩,
      ⟨some 32, none, .load 6 true (.t 31)⟩,
      ⟨some 13, none, .alloc 0 [.int .i64 0, .nil, .int .i64 0, .nil, .nil, .nil]⟩,
      ⟨none, none, .store 6 (.t 13) (.t 32)⟩])
    (.seq (.region [⟨some 33, none, .load 1 true (.t 4)⟩,
      ⟨some 34, none, .mov (.t 1)⟩,
      ⟨some 35, none, .load 6 true (.t 13)⟩,
      ⟨some 36, none, .call i_delta_apply [.t 33, .t 34, .t 11, .t 35]⟩,
      ⟨some 14, none, .mov (.t 36)⟩])
    (.seq (.region [⟨some 37, none, .mov (.t 14)⟩,
      ⟨some 38, none, .bin false .neq (.t 37) (.c (.int .i64 0))⟩])
    (.cond (.t 38) (.seq (.region [⟨some 39, none, .build [.nil, .nil] []⟩,
      ⟨some 40, none, .mov (.t 14)⟩,
      ⟨none, none, .store 2 (.t 8) (.t 39)⟩,
      ⟨some 9, none, .mov (.t 40)⟩])
    .ret)
    .skip)))))
    (.region [⟨some 41, none, .bin false .add (.t 29) (.c (.int .i64 1))⟩,
      ⟨some 29, none, .mov (.t 41)⟩])))))))
    (.seq (.seq (.region [⟨some 42, none, .load 1 true (.t 4)⟩,
      ⟨some 43, none, .mov (.t 1)⟩,
      ⟨some 44, none, .load 2 true (.t 11)⟩,
      ⟨some 45, none, .blit 0 35 2 [.t 44]⟩,
      ⟨some 46, none, .call i_delta_may [.t 42, .t 43, .t 45]⟩,
      ⟨some 15, none, .mov (.t 46)⟩])
    (.seq (.region [⟨some 47, none, .mov (.t 15)⟩,
      ⟨some 48, none, .bin false .neq (.t 47) (.c (.int .i64 0))⟩])
    (.cond (.t 48) (.seq (.region [⟨some 49, none, .build [.nil, .nil] []⟩,
      ⟨some 50, none, .mov (.t 15)⟩,
      ⟨none, none, .store 2 (.t 8) (.t 49)⟩,
      ⟨some 9, none, .mov (.t 50)⟩])
    .ret)
    .skip)))
    (.seq (.region [⟨some 51, none, .load 2 true (.t 11)⟩,
      ⟨some 52, none, .call i_model_Copy [.t 51]⟩,
      ⟨none, none, .store 2 (.t 8) (.t 52)⟩,
      ⟨some 9, none, .mov (.c (.int .i64 0))⟩])
    .ret)))))), [.cell 8 2 true, .tmp 9]⟩
theorem T_delta_Apply : trFn Tryz.prog [(0, [1, 1, 1, 0]), (1, [0, 0, 0, 1, 0, 0]), (4, [0, 0, 1, 0]), (7, [0, 0, 1, 0]), (12, [0, 0, 0, 1, 0, 0])] Tryz.f53 = some A_delta_Apply := by kernel_rfl
theorem L_delta_Apply : 4 ≤ Tryz.f53.ntmps := by decide

/-! cartouche/delta.Bytes -/
def A_delta_Bytes : AFn := ⟨(.seq (.region [⟨some 3, none, .box 0 (.t 0)⟩,
      ⟨some 6, none, .mov (.c (.nil))⟩,
      ⟨some 7, none, .mov (.c (.int .i64 0))⟩])
    (.seq (.seq (.region [⟨some 14, none, .load 1 true (.t 3)⟩,
      ⟨some 15, none, .mov (.t 1)⟩,
      ⟨some 16, none, .call i_delta_may [.t 14, .t 15, .c (.nil)]⟩,
      ⟨some 8, none, .mov (.t 16)⟩])
    (.seq (.region [⟨some 17, none, .mov (.t 8)⟩,
      ⟨some 18, none, .bin false .neq (.t 17) (.c (.int .i64 0))⟩])
    (.cond (.t 18) (.seq (.region [⟨some 19, none, .mov (.t 8)⟩,
      ⟨some 6, none, .mov (.c (.nil))⟩,
      ⟨some 7, none, .mov (.t 19)⟩])
    .ret)
    .skip)))
    (.seq (.region [⟨some 9, none, .mov (.c (.nil))⟩])
    (.seq (.seq (.region [⟨some 20, none, .mov (.t 2)⟩,
      ⟨some 21, none, .len false (.t 20)⟩,
      ⟨some 22, none, .mov (.c (.int .i64 0))⟩])
    (.block 0 (.loop (.seq (.region [⟨some 23, none, .bin false .lss (.t 22) (.t 21)⟩])
    (.seq (.cond (.t 23) .skip
    (.exit 0))
    (.seq (.block 1 (.seq (.region [⟨some 24, none, .idxA 6 (.t 20) (.t 22)⟩,
      ⟨some 25, none, .load 6 true (.t 24)⟩,
      ⟨some 11, none, .alloc 0 [.int .i64 0, .nil, .int .i64 0, .nil, .nil, .nil]⟩,
      ⟨none, none, .store 6 (.t 11) (.t 25)⟩])
    (.seq (.region [⟨some 27, none, .load 1 true (.t 3)⟩,
      ⟨some 28, none, .mov (.t 1)⟩,
      ⟨some 29, none, .load 6 true (.t 11)⟩,
      ⟨some 30, none, .call i_delta_entry [.t 27, .t 28, .t 29]⟩,
      ⟨some 26, none, .mov (.t 30)⟩,
      ⟨some 31, none, .ext 0 (.t 26)⟩,
      ⟨some 32, none, .ext 1 (.t 26)⟩,
      ⟨some 12, none, .mov (.t 31)⟩,
      ⟨some 13, none, .mov (.t 32)⟩])
    (.seq (.seq (.region [⟨some 33, none, .mov (.t 13)⟩,
      ⟨some 34, none, .bin false .neq (.t 33) (.c (.int .i64 0))⟩])
    (.cond (.t 34) (.seq (.region [⟨some 35, none, .mov (.t 13)⟩,
      ⟨some 6, none, .mov (.c (.nil))⟩,
      ⟨some 7, none, .mov (.t 35)⟩])
    .ret)
    .skip))
    (.region [⟨some 36, none, .mov (.t 9)⟩,
      ⟨some 37, none, .mov (.t 12)⟩,
      ⟨some 38, none, .app 0 5 1 1 (.t 36) (.t 37)⟩,
      ⟨some 9, none, .mov (.t 38)⟩])))))
    (.region [⟨some 39, none, .bin false .add (.t 22) (.c (.int .i64 1))⟩,
      ⟨some 22, none, .mov (.t 39)⟩])))))))
    (.seq (.region [⟨some 40, none, .mov (.t 9)⟩,
      ⟨some 41, none, .len false (.t 40)⟩,
      ⟨some 42, none, .mks 0 5 1 1 (.int .u8 0) (.c (.int .i64 0)) (.t 41)⟩,
      ⟨some 43, none, .mov (.t 9)⟩,
      ⟨some 44, none, .app 0 5 1 1 (.t 42) (.t 43)⟩,
      ⟨some 6, none, .mov (.t 44)⟩,
      ⟨some 7, none, .mov (.c (.int .i64 0))⟩])
    .ret))))), [.tmp 6, .tmp 7]⟩
theorem T_delta_Bytes : trFn Tryz.prog [(0, [1, 0, 0]), (7, [0, 0, 1, 0])] Tryz.f54 = some A_delta_Bytes := by kernel_rfl
theorem L_delta_Bytes : 3 ≤ Tryz.f54.ntmps := by decide

/-! cartouche/delta.Read -/
def A_delta_Read : AFn := ⟨(.seq (.region [⟨some 3, none, .box 0 (.t 0)⟩,
      ⟨some 6, none, .mov (.c (.nil))⟩,
      ⟨some 7, none, .mov (.c (.int .i64 0))⟩])
    (.seq (.seq (.region [⟨some 18, none, .load 1 true (.t 3)⟩,
      ⟨some 19, none, .mov (.t 1)⟩,
      ⟨some 20, none, .call i_delta_may [.t 18, .t 19, .c (.nil)]⟩,
      ⟨some 8, none, .mov (.t 20)⟩])
    (.seq (.region [⟨some 21, none, .mov (.t 8)⟩,
      ⟨some 22, none, .bin false .neq (.t 21) (.c (.int .i64 0))⟩])
    (.cond (.t 22) (.seq (.region [⟨some 23, none, .mov (.t 8)⟩,
      ⟨some 6, none, .mov (.c (.nil))⟩,
      ⟨some 7, none, .mov (.t 23)⟩])
    .ret)
    .skip)))
    (.seq (.region [⟨some 25, none, .mov (.t 2)⟩,
      ⟨some 26, none, .call i_wire_Split [.t 25]⟩,
      ⟨some 24, none, .mov (.t 26)⟩,
      ⟨some 27, none, .ext 0 (.t 24)⟩,
      ⟨some 28, none, .ext 1 (.t 24)⟩,
      ⟨some 9, none, .mov (.t 27)⟩,
      ⟨some 10, none, .mov (.t 28)⟩])
    (.seq (.seq (.region [⟨some 29, none, .mov (.t 10)⟩,
      ⟨some 30, none, .bin false .neq (.t 29) (.c (.int .i64 0))⟩])
    (.cond (.t 30) (.seq (.region [⟨some 6, none, .mov (.c (.nil))⟩,
      ⟨some 7, none, .mov (.c (.int .i64 11))⟩])
    .ret)
    .skip))
    (.seq (.region [⟨some 31, none, .mov (.t 9)⟩,
      ⟨some 32, none, .len false (.t 31)⟩,
      ⟨some 33, none, .mks 0 82 6 112 (.agg [.int .i64 0, .nil, .int .i64 0, .nil, .nil, .nil]) (.c (.int .i64 0)) (.t 32)⟩,
      ⟨some 11, none, .mov (.t 33)⟩])
    (.seq (.seq (.region [⟨some 34, none, .mov (.t 9)⟩,
      ⟨some 35, none, .len false (.t 34)⟩,
      ⟨some 36, none, .mov (.c (.int .i64 0))⟩])
    (.block 0 (.loop (.seq (.region [⟨some 37, none, .bin false .lss (.t 36) (.t 35)⟩])
    (.seq (.cond (.t 37) .skip
    (.exit 0))
    (.seq (.block 1 (.seq (.region [⟨some 38, none, .idxA 4 (.t 34) (.t 36)⟩,
      ⟨some 39, none, .load 4 true (.t 38)⟩,
      ⟨some 13, none, .alloc 0 [.int .i64 0, .int .i64 0, .int .u64 0, .nil]⟩,
      ⟨none, none, .store 4 (.t 13) (.t 39)⟩])
    (.seq (.region [⟨some 41, none, .load 1 true (.t 3)⟩,
      ⟨some 42, none, .mov (.t 1)⟩,
      ⟨some 43, none, .load 4 true (.t 13)⟩,
      ⟨some 44, none, .call i_delta_step [.t 41, .t 42, .t 43]⟩,
      ⟨some 40, none, .mov (.t 44)⟩,
      ⟨some 45, none, .ext 0 (.t 40)⟩,
      ⟨some 46, none, .ext 1 (.t 40)⟩,
      ⟨some 14, none, .alloc 0 [.int .i64 0, .nil, .int .i64 0, .nil, .nil, .nil]⟩,
      ⟨none, none, .store 6 (.t 14) (.t 45)⟩,
      ⟨some 15, none, .mov (.t 46)⟩])
    (.seq (.seq (.region [⟨some 47, none, .mov (.t 15)⟩,
      ⟨some 48, none, .un .not (.t 47)⟩])
    (.cond (.t 48) (.seq (.region [⟨some 6, none, .mov (.c (.nil))⟩,
      ⟨some 7, none, .mov (.c (.int .i64 11))⟩])
    .ret)
    .skip))
    (.region [⟨some 49, none, .mov (.t 11)⟩,
      ⟨some 50, none, .load 6 true (.t 14)⟩,
      ⟨some 51, none, .blit 0 82 6 [.t 50]⟩,
      ⟨some 52, none, .app 0 82 6 112 (.t 49) (.t 51)⟩,
      ⟨some 11, none, .mov (.t 52)⟩])))))
    (.region [⟨some 53, none, .bin false .add (.t 36) (.c (.int .i64 1))⟩,
      ⟨some 36, none, .mov (.t 53)⟩])))))))
    (.seq (.seq (.region [⟨some 55, none, .load 1 true (.t 3)⟩,
      ⟨some 56, none, .mov (.t 1)⟩,
      ⟨some 57, none, .mov (.t 11)⟩,
      ⟨some 58, none, .call i_delta_Bytes [.t 55, .t 56, .t 57]⟩,
      ⟨some 54, none, .mov (.t 58)⟩,
      ⟨some 59, none, .ext 0 (.t 54)⟩,
      ⟨some 60, none, .ext 1 (.t 54)⟩,
      ⟨some 16, none, .mov (.t 59)⟩,
      ⟨some 17, none, .mov (.t 60)⟩])
    (.seq (.region [⟨some 61, none, .mov (.t 17)⟩,
      ⟨some 62, none, .bin false .neq (.t 61) (.c (.int .i64 0))⟩,
      ⟨some 63, none, .mov (.t 62)⟩,
      ⟨some 64, some (63, false), .mov (.t 16)⟩,
      ⟨some 65, some (63, false), .mov (.t 2)⟩,
      ⟨some 66, some (63, false), .call i_bytes_Equal [.t 64, .t 65]⟩,
      ⟨some 67, some (63, false), .un .not (.t 66)⟩,
      ⟨some 68, none, .pickb (.t 63) (.c (.bool true)) (.t 67)⟩])
    (.cond (.t 68) (.seq (.region [⟨some 6, none, .mov (.c (.nil))⟩,
      ⟨some 7, none, .mov (.c (.int .i64 11))⟩])
    .ret)
    .skip)))
    (.seq (.region [⟨some 69, none, .mov (.t 11)⟩,
      ⟨some 6, none, .mov (.t 69)⟩,
      ⟨some 7, none, .mov (.c (.int .i64 0))⟩])
    .ret)))))))), [.tmp 6, .tmp 7]⟩
theorem T_delta_Read : trFn Tryz.prog [(0, [1, 0, 0]), (10, [0, 0, 1, 0]), (11, [0, 0, 0, 0, 0, 0, 0, 1, 0, 0]), (14, [0, 0, 1, 0, 0])] Tryz.f55 = some A_delta_Read := by kernel_rfl
theorem L_delta_Read : 3 ≤ Tryz.f55.ntmps := by decide

/-! cartouche/model.Equal -/
def A_model_Equal : AFn := ⟨(.seq (.region [⟨some 2, none, .box 0 (.t 0)⟩,
      ⟨some 3, none, .box 0 (.t 1)⟩,
      ⟨some 4, none, .mov (.c (.bool false))⟩])
    (.seq (.region [⟨some 5, none, .fldA 0 1 false (.t 2)⟩,
      ⟨some 6, none, .load 1 false (.t 5)⟩,
      ⟨some 7, none, .fldA 0 1 false (.t 3)⟩,
      ⟨some 8, none, .load 1 false (.t 7)⟩,
      ⟨some 9, none, .call i_slices_EqualFunc_api_Field_api_Field_api_Field_api_Field [.t 6, .t 8, .c (.fn (.func 116) [] [])]⟩,
      ⟨some 10, none, .mov (.t 9)⟩,
      ⟨some 11, some (10, true), .fldA 1 1 false (.t 2)⟩,
      ⟨some 12, some (10, true), .load 1 false (.t 11)⟩,
      ⟨some 13, some (10, true), .fldA 1 1 false (.t 3)⟩,
      ⟨some 14, some (10, true), .load 1 false (.t 13)⟩,
      ⟨some 15, some (10, true), .call i_slices_EqualFunc_api_Entry_api_Entry_api_Entry_api_Entry [.t 12, .t 14, .c (.fn (.func 120) [] [])]⟩,
      ⟨some 16, none, .pickb (.t 10) (.t 15) (.c (.bool false))⟩,
      ⟨some 4, none, .mov (.t 16)⟩])
    .ret)), [.tmp 4]⟩
theorem T_model_Equal : trFn Tryz.prog [(0, [1, 1, 0])] Tryz.f64 = some A_model_Equal := by kernel_rfl
theorem L_model_Equal : 2 ≤ Tryz.f64.ntmps := by decide

/-! cartouche/model.Typed -/
def A_model_Typed : AFn := ⟨(.seq (.region [⟨some 3, none, .box 0 (.t 0)⟩,
      ⟨some 5, none, .box 0 (.t 2)⟩,
      ⟨some 6, none, .mov (.c (.bool false))⟩,
      ⟨some 7, none, .mov (.c (.int .i64 0))⟩])
    (.seq (.seq (.region [⟨some 8, none, .load 1 true (.t 3)⟩,
      ⟨some 9, none, .mov (.t 1)⟩,
      ⟨some 10, none, .call i_table_IsMessage [.t 8, .t 9]⟩,
      ⟨some 11, none, .un .not (.t 10)⟩])
    (.cond (.t 11) (.seq (.region [⟨some 6, none, .mov (.c (.bool false))⟩,
      ⟨some 7, none, .mov (.c (.int .i64 18))⟩])
    .ret)
    .skip))
    (.seq (.region [⟨some 12, none, .load 1 true (.t 3)⟩,
      ⟨some 13, none, .mov (.t 1)⟩,
      ⟨some 14, none, .load 2 true (.t 5)⟩,
      ⟨some 15, none, .call i_model_typed [.t 12, .t 13, .t 14]⟩,
      ⟨some 6, none, .mov (.t 15)⟩,
      ⟨some 7, none, .mov (.c (.int .i64 0))⟩])
    .ret))), [.tmp 6, .tmp 7]⟩
theorem T_model_Typed : trFn Tryz.prog [(0, [1, 1, 0, 0])] Tryz.f65 = some A_model_Typed := by kernel_rfl
theorem L_model_Typed : 3 ≤ Tryz.f65.ntmps := by decide

/-! cartouche/model.Normal -/
def A_model_Normal : AFn := ⟨(.seq (.region [⟨some 3, none, .box 0 (.t 0)⟩,
      ⟨some 5, none, .box 0 (.t 2)⟩,
      ⟨some 6, none, .mov (.c (.bool false))⟩,
      ⟨some 7, none, .mov (.c (.int .i64 0))⟩])
    (.seq (.region [⟨some 11, none, .load 1 true (.t 3)⟩,
      ⟨some 12, none, .mov (.t 1)⟩,
      ⟨some 13, none, .load 2 true (.t 5)⟩,
      ⟨some 14, none, .call i_model_Typed [.t 11, .t 12, .t 13]⟩,
      ⟨some 10, none, .mov (.t 14)⟩,
      ⟨some 15, none, .ext 0 (.t 10)⟩,
      ⟨some 16, none, .ext 1 (.t 10)⟩,
      ⟨some 8, none, .mov (.t 15)⟩,
      ⟨some 9, none, .mov (.t 16)⟩])
    (.seq (.region [⟨some 17, none, .mov (.t 8)⟩,
      ⟨some 18, none, .mov (.t 17)⟩,
      ⟨some 19, some (18, true), .load 1 true (.t 3)⟩,
      ⟨some 20, some (18, true), .mov (.t 1)⟩,
      ⟨some 21, some (18, true), .load 2 true (.t 5)⟩,
      ⟨some 22, some (18, true), .call i_model_normal [.t 19, .t 20, .t 21]⟩,
      ⟨some 23, none, .pickb (.t 18) (.t 22) (.c (.bool false))⟩,
      ⟨some 24, none, .mov (.t 9)⟩,
      ⟨some 6, none, .mov (.t 23)⟩,
      ⟨some 7, none, .mov (.t 24)⟩])
    .ret))), [.tmp 6, .tmp 7]⟩
theorem T_model_Normal : trFn Tryz.prog [(0, [1, 1, 0, 0])] Tryz.f66 = some A_model_Normal := by kernel_rfl
theorem L_model_Normal : 3 ≤ Tryz.f66.ntmps := by decide

/-! cartouche/model.Copy -/
def A_model_Copy : AFn := ⟨(.seq (.region [⟨some 1, none, .box 0 (.t 0)⟩,
      ⟨some 2, none, .alloc 0 [.nil, .nil]⟩])
    (.seq (.draw [1, 2, 5, 6, 7, 1000004, 2000005, 2000006, 2000007] [⟨some 3, none, .fldA 0 1 false (.t 1)⟩,
      ⟨some 4, none, .load 1 false (.t 3)⟩,
      ⟨some 5, none, .call i_model_each_api_Field [.t 4, .c (.fn (.func 132) [] [])]⟩,
      ⟨some 6, none, .fldA 1 1 false (.t 1)⟩,
      ⟨some 7, none, .load 1 false (.t 6)⟩,
      ⟨some 8, none, .call i_model_each_api_Entry [.t 7, .c (.fn (.func 134) [] [])]⟩,
      ⟨some 9, none, .build [.nil, .nil] [(0, 1, .t 5), (1, 1, .t 8)]⟩,
      ⟨none, none, .store 2 (.t 2) (.t 9)⟩])
    .ret)), [.cell 2 2 true]⟩
theorem T_model_Copy : trFn Tryz.prog [(0, [1, 1]), (1000001, [1, 2, 5, 6, 7, 1000004, 2000005, 2000006, 2000007])] Tryz.f68 = some A_model_Copy := by kernel_rfl
theorem L_model_Copy : 1 ≤ Tryz.f68.ntmps := by decide

/-! cartouche/cartoucheref8.Equal -/
def A_cartoucheref8_Equal : AFn := ⟨(.seq (.region [⟨some 2, none, .box 0 (.t 0)⟩,
      ⟨some 3, none, .box 0 (.t 1)⟩,
      ⟨some 4, none, .mov (.c (.bool false))⟩])
    (.seq (.seq (.region [⟨some 6, none, .fldA 0 1 false (.t 2)⟩,
      ⟨some 7, none, .load 1 false (.t 6)⟩,
      ⟨some 8, none, .len false (.t 7)⟩,
      ⟨some 9, none, .fldA 0 1 false (.t 3)⟩,
      ⟨some 10, none, .load 1 false (.t 9)⟩,
      ⟨some 11, none, .len false (.t 10)⟩,
      ⟨some 12, none, .bin false .neq (.t 8) (.t 11)⟩,
      ⟨some 13, none, .mov (.t 12)⟩,
      ⟨some 14, some (13, false), .fldA 1 1 false (.t 2)⟩,
      ⟨some 15, some (13, false), .load 1 false (.t 14)⟩,
      ⟨some 16, some (13, false), .fldA 1 1 false (.t 3)⟩,
      ⟨some 17, some (13, false), .load 1 false (.t 16)⟩,
      ⟨some 18, some (13, false), .call i_cartoucheref1_List [.t 15, .t 17]⟩,
      ⟨some 19, some (13, false), .un .not (.t 18)⟩,
      ⟨some 20, none, .pickb (.t 13) (.c (.bool true)) (.t 19)⟩])
    (.cond (.t 20) (.seq (.region [⟨some 4, none, .mov (.c (.bool false))⟩])
    .ret)
    .skip))
    (.seq (.seq (.region [⟨some 5, none, .mov (.c (.int .i64 0))⟩])
    (.block 0 (.loop (.seq (.seq (.region [⟨some 21, none, .mov (.t 5)⟩,
      ⟨some 22, none, .fldA 0 1 false (.t 2)⟩,
      ⟨some 23, none, .load 1 false (.t 22)⟩,
      ⟨some 24, none, .len false (.t 23)⟩,
      ⟨some 25, none, .bin false .lss (.t 21) (.t 24)⟩])
    (.cond (.t 25) .skip
    (.exit 0)))
    (.seq (.block 1 (.seq (.draw [1, 3, 4, 10, 1000006, 1000008, 1000009, 2000010] [⟨some 28, none, .fldA 0 1 false (.t 2)⟩,
      ⟨some 29, none, .load 1 false (.t 28)⟩,
      ⟨some 30, none, .mov (.t 5)⟩,
      ⟨some 31, none, .idxA 3 (.t 29) (.t 30)⟩,
      ⟨some 32, none, .load 3 true (.t 31)⟩,
      ⟨some 33, none, .fldA 0 1 false (.t 3)⟩,
      ⟨some 34, none, .load 1 false (.t 33)⟩,
      ⟨some 35, none, .mov (.t 5)⟩,
      ⟨some 36, none, .idxA 3 (.t 34) (.t 35)⟩,
      ⟨some 37, none, .load 3 true (.t 36)⟩,
      ⟨some 38, none, .call i_cartoucheref8_SameField [.t 32, .t 37]⟩,
      ⟨some 39, none, .un .not (.t 38)⟩])
    (.cond (.t 39) (.seq (.region [⟨some 4, none, .mov (.c (.bool false))⟩])
    .ret)
    .skip)))
    (.region [⟨some 26, none, .mov (.t 5)⟩,
      ⟨some 27, none, .bin false .add (.t 26) (.c (.int .i64 1))⟩,
      ⟨some 5, none, .mov (.t 27)⟩]))))))
    (.seq (.region [⟨some 4, none, .mov (.c (.bool true))⟩])
    .ret)))), [.tmp 4]⟩
theorem T_cartoucheref8_Equal : trFn Tryz.prog [(0, [1, 1, 0]), (1000006, [1, 3, 4, 10, 1000006, 1000008, 1000009, 2000010])] Tryz.f71 = some A_cartoucheref8_Equal := by kernel_rfl
theorem L_cartoucheref8_Equal : 2 ≤ Tryz.f71.ntmps := by decide

/-! cartouche/cartoucheref8.vals -/
def A_cartoucheref8_vals : AFn := ⟨(.seq (.region [⟨some 4, none, .mov (.c (.bool false))⟩])
    (.seq (.seq (.region [⟨some 7, none, .mov (.t 0)⟩,
      ⟨some 8, none, .len false (.t 7)⟩,
      ⟨some 9, none, .mov (.t 1)⟩,
      ⟨some 10, none, .len false (.t 9)⟩,
      ⟨some 11, none, .bin false .neq (.t 8) (.t 10)⟩])
    (.cond (.t 11) (.seq (.region [⟨some 4, none, .mov (.c (.bool false))⟩])
    .ret)
    .skip))
    (.seq (.seq (.region [⟨some 5, none, .mov (.c (.int .i64 0))⟩])
    (.block 0 (.loop (.seq (.seq (.region [⟨some 12, none, .mov (.t 5)⟩,
      ⟨some 13, none, .mov (.t 0)⟩,
      ⟨some 14, none, .len false (.t 13)⟩,
      ⟨some 15, none, .bin false .lss (.t 12) (.t 14)⟩])
    (.cond (.t 15) .skip
    (.exit 0)))
    (.seq (.block 1 (.seq (.seq (.draw [2, 4, 14, 16, 29, 31, 32, 1000007, 1000009, 1000020, 1000022, 1000035, 1000037, 1000038] [⟨some 18, none, .mov (.t 0)⟩,
      ⟨some 19, none, .mov (.t 5)⟩,
      ⟨some 20, none, .idxA 3 (.t 18) (.t 19)⟩,
      ⟨some 21, none, .fldA 0 1 false (.t 20)⟩,
      ⟨some 22, none, .load 1 false (.t 21)⟩,
      ⟨some 23, none, .mov (.t 1)⟩,
      ⟨some 24, none, .mov (.t 5)⟩,
      ⟨some 25, none, .idxA 3 (.t 23) (.t 24)⟩,
      ⟨some 26, none, .fldA 0 1 false (.t 25)⟩,
      ⟨some 27, none, .load 1 false (.t 26)⟩,
      ⟨some 28, none, .bin false .neq (.t 22) (.t 27)⟩,
      ⟨some 29, none, .mov (.t 28)⟩,
      ⟨some 30, some (29, false), .mov (.t 0)⟩,
      ⟨some 31, some (29, false), .mov (.t 5)⟩,
      ⟨some 32, some (29, false), .idxA 3 (.t 30) (.t 31)⟩,
      ⟨some 33, some (29, false), .fldA 1 1 false (.t 32)⟩,
      ⟨some 34, some (29, false), .load 1 false (.t 33)⟩,
      ⟨some 35, some (29, false), .b2s (.t 34)⟩,
      ⟨some 36, some (29, false), .mov (.t 1)⟩,
      ⟨some 37, some (29, false), .mov (.t 5)⟩,
      ⟨some 38, some (29, false), .idxA 3 (.t 36) (.t 37)⟩,
      ⟨some 39, some (29, false), .fldA 1 1 false (.t 38)⟩,
      ⟨some 40, some (29, false), .load 1 false (.t 39)⟩,
      ⟨some 41, some (29, false), .b2s (.t 40)⟩,
      ⟨some 42, some (29, false), .bin false .neq (.t 35) (.t 41)⟩,
      ⟨some 43, none, .pickb (.t 29) (.c (.bool true)) (.t 42)⟩,
      ⟨some 44, none, .mov (.t 43)⟩,
      ⟨some 45, some (44, false), .mov (.t 0)⟩,
      ⟨some 46, some (44, false), .mov (.t 5)⟩,
      ⟨some 47, some (44, false), .idxA 3 (.t 45) (.t 46)⟩,
      ⟨some 48, some (44, false), .fldA 2 1 false (.t 47)⟩,
      ⟨some 49, some (44, false), .load 1 false (.t 48)⟩,
      ⟨some 50, some (44, false), .len false (.t 49)⟩,
      ⟨some 51, some (44, false), .mov (.t 1)⟩,
      ⟨some 52, some (44, false), .mov (.t 5)⟩,
      ⟨some 53, some (44, false), .idxA 3 (.t 51) (.t 52)⟩,
      ⟨some 54, some (44, false), .fldA 2 1 false (.t 53)⟩,
      ⟨some 55, some (44, false), .load 1 false (.t 54)⟩,
      ⟨some 56, some (44, false), .len false (.t 55)⟩,
      ⟨some 57, some (44, false), .bin false .neq (.t 50) (.t 56)⟩,
      ⟨some 58, none, .pickb (.t 44) (.c (.bool true)) (.t 57)⟩])
    (.cond (.t 58) (.seq (.region [⟨some 4, none, .mov (.c (.bool false))⟩])
    .ret)
    .skip))
    (.seq (.region [⟨some 6, none, .mov (.c (.int .i64 0))⟩])
    (.block 2 (.loop (.seq (.seq (.region [⟨some 59, none, .mov (.t 6)⟩,
      ⟨some 60, none, .mov (.t 0)⟩,
      ⟨some 61, none, .mov (.t 5)⟩,
      ⟨some 62, none, .idxA 3 (.t 60) (.t 61)⟩,
      ⟨some 63, none, .fldA 2 1 false (.t 62)⟩,
      ⟨some 64, none, .load 1 false (.t 63)⟩,
      ⟨some 65, none, .len false (.t 64)⟩,
      ⟨some 66, none, .bin false .lss (.t 59) (.t 65)⟩])
    (.cond (.t 66) .skip
    (.exit 2)))
    (.seq (.block 3 (.seq (.draw [2, 4, 6, 7, 16, 1000010, 1000012, 1000014, 1000015, 2000016] [⟨some 69, none, .mov (.t 0)⟩,
      ⟨some 70, none, .mov (.t 5)⟩,
      ⟨some 71, none, .idxA 3 (.t 69) (.t 70)⟩,
      ⟨some 72, none, .fldA 2 1 false (.t 71)⟩,
      ⟨some 73, none, .load 1 false (.t 72)⟩,
      ⟨some 74, none, .mov (.t 6)⟩,
      ⟨some 75, none, .idxA 2 (.t 73) (.t 74)⟩,
      ⟨some 76, none, .load 2 true (.t 75)⟩,
      ⟨some 77, none, .mov (.t 1)⟩,
      ⟨some 78, none, .mov (.t 5)⟩,
      ⟨some 79, none, .idxA 3 (.t 77) (.t 78)⟩,
      ⟨some 80, none, .fldA 2 1 false (.t 79)⟩,
      ⟨some 81, none, .load 1 false (.t 80)⟩,
      ⟨some 82, none, .mov (.t 6)⟩,
      ⟨some 83, none, .idxA 2 (.t 81) (.t 82)⟩,
      ⟨some 84, none, .load 2 true (.t 83)⟩,
      ⟨some 85, none, .call i_cartoucheref8_Equal [.t 76, .t 84]⟩,
      ⟨some 86, none, .un .not (.t 85)⟩])
    (.cond (.t 86) (.seq (.region [⟨some 4, none, .mov (.c (.bool false))⟩])
    .ret)
    .skip)))
    (.region [⟨some 67, none, .mov (.t 6)⟩,
      ⟨some 68, none, .bin false .add (.t 67) (.c (.int .i64 1))⟩,
      ⟨some 6, none, .mov (.t 68)⟩]))))))))
    (.region [⟨some 16, none, .mov (.t 5)⟩,
      ⟨some 17, none, .bin false .add (.t 16) (.c (.int .i64 1))⟩,
      ⟨some 5, none, .mov (.t 17)⟩]))))))
    (.seq (.region [⟨some 4, none, .mov (.c (.bool true))⟩])
    .ret)))), [.tmp 4]⟩
theorem T_cartoucheref8_vals : trFn Tryz.prog [(1000006, [2, 4, 14, 16, 29, 31, 32, 1000007, 1000009, 1000020, 1000022, 1000035, 1000037, 1000038]), (1000011, [2, 4, 6, 7, 16, 1000010, 1000012, 1000014, 1000015, 2000016])] Tryz.f77 = some A_cartoucheref8_vals := by kernel_rfl
theorem L_cartoucheref8_vals : 2 ≤ Tryz.f77.ntmps := by decide

/-! cartouche/interp.Decode -/
def A_interp_Decode : AFn := ⟨(.seq (.region [⟨some 3, none, .box 0 (.t 0)⟩,
      ⟨some 6, none, .alloc 0 [.nil, .nil]⟩,
      ⟨some 7, none, .mov (.c (.int .i64 0))⟩])
    (.seq (.region [⟨some 13, none, .load 1 true (.t 3)⟩,
      ⟨some 14, none, .mov (.t 1)⟩,
      ⟨some 15, none, .mov (.t 2)⟩,
      ⟨some 16, none, .call i_interp_read [.t 13, .t 14, .t 15]⟩,
      ⟨some 12, none, .mov (.t 16)⟩,
      ⟨some 17, none, .ext 0 (.t 12)⟩,
      ⟨some 18, none, .ext 1 (.t 12)⟩,
      ⟨some 19, none, .ext 2 (.t 12)⟩,
      ⟨some 20, none, .ext 3 (.t 12)⟩,
      ⟨some 8, none, .alloc 0 [.nil, .nil]⟩,
      ⟨none, none, .store 2 (.t 8) (.t 17)⟩,
      ⟨some 9, none, .mov (.t 18)⟩,
      ⟨some 10, none, .mov (.t 19)⟩,
      ⟨some 11, none, .mov (.t 20)⟩])
    (.seq (.region [⟨some 21, none, .load 2 true (.t 8)⟩,
      ⟨some 22, none, .mov (.t 11)⟩,
      ⟨none, none, .store 2 (.t 6) (.t 21)⟩,
      ⟨some 7, none, .mov (.t 22)⟩])
    .ret))), [.cell 6 2 true, .tmp 7]⟩
theorem T_interp_Decode : trFn Tryz.prog [(0, [1, 1, 0]), (1, [0, 0, 0, 0, 0, 0, 0, 0, 0, 1, 0, 0, 0, 0])] Tryz.f86 = some A_interp_Decode := by kernel_rfl
theorem L_interp_Decode : 3 ≤ Tryz.f86.ntmps := by decide

/-! cartouche/interp.write -/
def A_interp_write : AFn := ⟨(.seq (.region [⟨some 3, none, .box 0 (.t 0)⟩,
      ⟨some 5, none, .box 0 (.t 2)⟩,
      ⟨some 6, none, .mov (.c (.nil))⟩,
      ⟨some 7, none, .mov (.c (.int .i64 0))⟩])
    (.seq (.region [⟨some 11, none, .load 1 true (.t 3)⟩,
      ⟨some 12, none, .mov (.t 1)⟩,
      ⟨some 13, none, .load 2 true (.t 5)⟩,
      ⟨some 14, none, .call i_model_Typed [.t 11, .t 12, .t 13]⟩,
      ⟨some 10, none, .mov (.t 14)⟩,
      ⟨some 15, none, .ext 0 (.t 10)⟩,
      ⟨some 16, none, .ext 1 (.t 10)⟩,
      ⟨some 8, none, .mov (.t 15)⟩,
      ⟨some 9, none, .mov (.t 16)⟩])
    (.seq (.block 0 (.seq (.region [⟨some 18, none, .mov (.t 9)⟩,
      ⟨some 19, none, .bin false .neq (.t 18) (.c (.int .i64 0))⟩,
      ⟨some 17, none, .mov (.t 19)⟩])
    (.cond (.t 17) (.seq (.region [⟨some 20, none, .mov (.t 9)⟩,
      ⟨some 6, none, .mov (.c (.nil))⟩,
      ⟨some 7, none, .mov (.t 20)⟩])
    .ret)
    (.seq (.region [⟨some 22, none, .mov (.t 8)⟩,
      ⟨some 23, none, .un .not (.t 22)⟩,
      ⟨some 21, none, .mov (.t 23)⟩])
    (.cond (.t 21) (.seq (.region [⟨some 6, none, .mov (.c (.nil))⟩,
      ⟨some 7, none, .mov (.c (.int .i64 10))⟩])
    .ret)
    (.seq (.region [⟨some 25, none, .load 2 true (.t 5)⟩,
      ⟨some 26, none, .call i_model_Depth [.t 25]⟩,
      ⟨some 27, none, .bin false .gtr (.t 26) (.c (.int .i64 16))⟩,
      ⟨some 24, none, .mov (.t 27)⟩])
    (.cond (.t 24) (.seq (.region [⟨some 6, none, .mov (.c (.nil))⟩,
      ⟨some 7, none, .mov (.c (.int .i64 2))⟩])
    .ret)
    .skip)))))))
    (.seq (.region [⟨some 28, none, .load 1 true (.t 3)⟩,
      ⟨some 29, none, .mov (.t 1)⟩,
      ⟨some 30, none, .load 2 true (.t 5)⟩,
      ⟨some 31, none, .call i_interp_written [.t 28, .t 29, .t 30]⟩,
      ⟨some 6, none, .mov (.t 31)⟩,
      ⟨some 7, none, .mov (.c (.int .i64 0))⟩])
    .ret)))), [.tmp 6, .tmp 7]⟩
theorem T_interp_write : trFn Tryz.prog [(0, [1, 1, 0, 0])] Tryz.f87 = some A_interp_write := by kernel_rfl
theorem L_interp_write : 3 ≤ Tryz.f87.ntmps := by decide

-- NOT 88 cartouche/interp.read: op defer
/-! cartouche/delta.may -/
def A_delta_may : AFn := ⟨(.seq (.region [⟨some 3, none, .box 0 (.t 0)⟩,
      ⟨some 6, none, .mov (.c (.int .i64 0))⟩])
    (.seq (.seq (.region [⟨some 11, none, .load 1 true (.t 3)⟩,
      ⟨some 12, none, .mov (.t 1)⟩,
      ⟨some 13, none, .call i_table_IsMessage [.t 11, .t 12]⟩,
      ⟨some 14, none, .un .not (.t 13)⟩])
    (.cond (.t 14) (.seq (.region [⟨some 6, none, .mov (.c (.int .i64 18))⟩])
    .ret)
    .skip))
    (.seq (.seq (.region [⟨some 15, none, .mov (.t 2)⟩,
      ⟨some 16, none, .len false (.t 15)⟩,
      ⟨some 17, none, .mov (.c (.int .i64 0))⟩])
    (.block 0 (.loop (.seq (.region [⟨some 18, none, .bin false .lss (.t 17) (.t 16)⟩])
    (.seq (.cond (.t 18) .skip
    (.exit 0))
    (.seq (.block 1 (.seq (.region [⟨some 19, none, .idxA 2 (.t 15) (.t 17)⟩,
      ⟨some 20, none, .load 2 true (.t 19)⟩,
      ⟨some 8, none, .alloc 0 [.nil, .nil]⟩,
      ⟨none, none, .store 2 (.t 8) (.t 20)⟩])
    (.seq (.region [⟨some 22, none, .load 1 true (.t 3)⟩,
      ⟨some 23, none, .mov (.t 1)⟩,
      ⟨some 24, none, .load 2 true (.t 8)⟩,
      ⟨some 25, none, .call i_model_Typed [.t 22, .t 23, .t 24]⟩,
      ⟨some 21, none, .mov (.t 25)⟩,
      ⟨some 26, none, .ext 0 (.t 21)⟩,
      ⟨some 27, none, .ext 1 (.t 21)⟩,
      ⟨some 9, none, .mov (.t 26)⟩,
      ⟨some 10, none, .mov (.t 27)⟩])
    (.seq (.region [⟨some 28, none, .mov (.t 9)⟩,
      ⟨some 29, none, .un .not (.t 28)⟩])
    (.cond (.t 29) (.seq (.region [⟨some 6, none, .mov (.c (.int .i64 10))⟩])
    .ret)
    .skip)))))
    (.region [⟨some 30, none, .bin false .add (.t 17) (.c (.int .i64 1))⟩,
      ⟨some 17, none, .mov (.t 30)⟩])))))))
    (.seq (.region [⟨some 6, none, .mov (.c (.int .i64 0))⟩])
    .ret)))), [.tmp 6]⟩
theorem T_delta_may : trFn Tryz.prog [(0, [1, 0]), (5, [0, 0, 1, 0])] Tryz.f95 = some A_delta_may := by kernel_rfl
theorem L_delta_may : 3 ≤ Tryz.f95.ntmps := by decide

/-! cartouche/delta.diff -/
def A_delta_diff : AFn := ⟨(.seq (.region [⟨some 5, none, .box 0 (.t 0)⟩,
      ⟨some 7, none, .box 0 (.t 2)⟩,
      ⟨some 8, none, .box 0 (.t 3)⟩,
      ⟨some 9, none, .box 0 (.t 4)⟩,
      ⟨some 10, none, .mov (.c (.nil))⟩])
    (.seq (.region [⟨some 11, none, .alloc 0 [.nil]⟩])
    (.seq (.region [⟨some 19, none, .mkfn (.func 148) [] [.t 11, .t 7]⟩,
      ⟨some 12, none, .mov (.t 19)⟩])
    (.seq (.region [⟨some 13, none, .mov (.c (.int .i64 0))⟩,
      ⟨some 14, none, .mov (.c (.int .i64 0))⟩])
    (.seq (.block 0 (.loop (.seq (.seq (.region [⟨some 20, none, .mov (.t 13)⟩,
      ⟨some 21, none, .fldA 0 1 false (.t 8)⟩,
      ⟨some 22, none, .load 1 false (.t 21)⟩,
      ⟨some 23, none, .len false (.t 22)⟩,
      ⟨some 24, none, .bin false .lss (.t 20) (.t 23)⟩,
      ⟨some 25, none, .mov (.t 24)⟩,
      ⟨some 26, some (25, false), .mov (.t 14)⟩,
      ⟨some 27, some (25, false), .fldA 0 1 false (.t 9)⟩,
      ⟨some 28, some (25, false), .load 1 false (.t 27)⟩,
      ⟨some 29, some (25, false), .len false (.t 28)⟩,
      ⟨some 30, some (25, false), .bin false .lss (.t 26) (.t 29)⟩,
      ⟨some 31, none, .pickb (.t 25) (.c (.bool true)) (.t 30)⟩])
    (.cond (.t 31) .skip
    (.exit 0)))
    (.block 1 (.seq (.block 2 (.seq (.draw [2, 3, 8, 9, 13, 15, 17, 1000019, 1000021, 1000023] [⟨some 33, none, .mov (.t 14)⟩,
      ⟨some 34, none, .fldA 0 1 false (.t 9)⟩,
      ⟨some 35, none, .load 1 false (.t 34)⟩,
      ⟨some 36, none, .len false (.t 35)⟩,
      ⟨some 37, none, .bin false .eql (.t 33) (.t 36)⟩,
      ⟨some 38, none, .mov (.t 37)⟩,
      ⟨some 39, some (38, false), .mov (.t 13)⟩,
      ⟨some 40, some (38, false), .fldA 0 1 false (.t 8)⟩,
      ⟨some 41, some (38, false), .load 1 false (.t 40)⟩,
      ⟨some 42, some (38, false), .len false (.t 41)⟩,
      ⟨some 43, some (38, false), .bin false .lss (.t 39) (.t 42)⟩,
      ⟨some 44, some (38, false), .mov (.t 43)⟩,
      ⟨some 45, some (44, true), .fldA 0 1 false (.t 8)⟩,
      ⟨some 46, some (44, true), .load 1 false (.t 45)⟩,
      ⟨some 47, some (44, true), .mov (.t 13)⟩,
      ⟨some 48, some (44, true), .idxA 3 (.t 46) (.t 47)⟩,
      ⟨some 49, some (44, true), .fldA 0 1 false (.t 48)⟩,
      ⟨some 50, some (44, true), .load 1 false (.t 49)⟩,
      ⟨some 51, some (44, true), .fldA 0 1 false (.t 9)⟩,
      ⟨some 52, some (44, true), .load 1 false (.t 51)⟩,
      ⟨some 53, some (44, true), .mov (.t 14)⟩,
      ⟨some 54, some (44, true), .idxA 3 (.t 52) (.t 53)⟩,
      ⟨some 55, some (44, true), .fldA 0 1 false (.t 54)⟩,
      ⟨some 56, some (44, true), .load 1 false (.t 55)⟩,
      ⟨some 57, some (44, true), .bin false .lss (.t 50) (.t 56)⟩,
      ⟨some 58, some (38, false), .pickb (.t 44) (.t 57) (.c (.bool false))⟩,
      ⟨some 59, none, .pickb (.t 38) (.c (.bool true)) (.t 58)⟩,
      ⟨some 32, none, .mov (.t 59)⟩])
    (.cond (.t 32) (.seq (.region [⟨some 60, none, .mov (.t 12)⟩,
      ⟨some 61, none, .fldA 0 1 false (.t 8)⟩,
      ⟨some 62, none, .load 1 false (.t 61)⟩,
      ⟨some 63, none, .mov (.t 13)⟩,
      ⟨some 64, none, .idxA 3 (.t 62) (.t 63)⟩,
      ⟨some 65, none, .fldA 0 1 false (.t 64)⟩,
      ⟨some 66, none, .load 1 false (.t 65)⟩,
      ⟨some 67, none, .build [.int .i64 0, .nil, .nil] [(0, 1, .t 66)]⟩,
      ⟨some 68, none, .callv (.t 60) [.c (.int .i64 2), .t 67, .c (.nil)]⟩])
    (.seq (.region [⟨some 69, none, .mov (.t 13)⟩,
      ⟨some 70, none, .bin false .add (.t 69) (.c (.int .i64 1))⟩,
      ⟨some 13, none, .mov (.t 70)⟩])
    (.exit 1)))
    (.seq (.draw [2, 3, 7, 9, 11, 1000013, 1000015, 1000017] [⟨some 72, none, .mov (.t 13)⟩,
      ⟨some 73, none, .fldA 0 1 false (.t 8)⟩,
      ⟨some 74, none, .load 1 false (.t 73)⟩,
      ⟨some 75, none, .len false (.t 74)⟩,
      ⟨some 76, none, .bin false .eql (.t 72) (.t 75)⟩,
      ⟨some 77, none, .mov (.t 76)⟩,
      ⟨some 78, some (77, false), .fldA 0 1 false (.t 8)⟩,
      ⟨some 79, some (77, false), .load 1 false (.t 78)⟩,
      ⟨some 80, some (77, false), .mov (.t 13)⟩,
      ⟨some 81, some (77, false), .idxA 3 (.t 79) (.t 80)⟩,
      ⟨some 82, some (77, false), .fldA 0 1 false (.t 81)⟩,
      ⟨some 83, some (77, false), .load 1 false (.t 82)⟩,
      ⟨some 84, some (77, false), .fldA 0 1 false (.t 9)⟩,
      ⟨some 85, some (77, false), .load 1 false (.t 84)⟩,
      ⟨some 86, some (77, false), .mov (.t 14)⟩,
      ⟨some 87, some (77, false), .idxA 3 (.t 85) (.t 86)⟩,
      ⟨some 88, some (77, false), .fldA 0 1 false (.t 87)⟩,
      ⟨some 89, some (77, false), .load 1 false (.t 88)⟩,
      ⟨some 90, some (77, false), .bin false .gtr (.t 83) (.t 89)⟩,
      ⟨some 91, none, .pickb (.t 77) (.c (.bool true)) (.t 90)⟩,
      ⟨some 71, none, .mov (.t 91)⟩])
    (.cond (.t 71) (.seq (.region [⟨some 92, none, .mov (.t 12)⟩,
      ⟨some 93, none, .fldA 0 1 false (.t 9)⟩,
      ⟨some 94, none, .load 1 false (.t 93)⟩,
      ⟨some 95, none, .mov (.t 14)⟩,
      ⟨some 96, none, .idxA 3 (.t 94) (.t 95)⟩,
      ⟨some 97, none, .load 3 true (.t 96)⟩,
      ⟨some 98, none, .callv (.t 92) [.c (.int .i64 1), .t 97, .c (.nil)]⟩])
    (.seq (.region [⟨some 99, none, .mov (.t 14)⟩,
      ⟨some 100, none, .bin false .add (.t 99) (.c (.int .i64 1))⟩,
      ⟨some 14, none, .mov (.t 100)⟩])
    (.exit 1)))
    .skip)))))
    (.seq (.draw [6000000, 12, 13, 5000010, 5000011, 1000001, 1000003, 1000004, 1000006, 1000008, 1000009, 2000013] [⟨some 101, none, .fldA 0 1 false (.t 8)⟩,
      ⟨some 102, none, .load 1 false (.t 101)⟩,
      ⟨some 103, none, .mov (.t 13)⟩,
      ⟨some 104, none, .idxA 3 (.t 102) (.t 103)⟩,
      ⟨some 105, none, .load 3 true (.t 104)⟩,
      ⟨some 106, none, .fldA 0 1 false (.t 9)⟩,
      ⟨some 107, none, .load 1 false (.t 106)⟩,
      ⟨some 108, none, .mov (.t 14)⟩,
      ⟨some 109, none, .idxA 3 (.t 107) (.t 108)⟩,
      ⟨some 110, none, .load 3 true (.t 109)⟩,
      ⟨some 15, none, .alloc 0 [.int .i64 0, .nil, .nil]⟩,
      ⟨some 16, none, .alloc 0 [.int .i64 0, .nil, .nil]⟩,
      ⟨none, none, .store 3 (.t 15) (.t 105)⟩,
      ⟨none, none, .store 3 (.t 16) (.t 110)⟩])
    (.seq (.region [⟨some 111, none, .mov (.t 13)⟩,
      ⟨some 112, none, .bin false .add (.t 111) (.c (.int .i64 1))⟩,
      ⟨some 113, none, .mov (.t 14)⟩,
      ⟨some 114, none, .bin false .add (.t 113) (.c (.int .i64 1))⟩,
      ⟨some 13, none, .mov (.t 112)⟩,
      ⟨some 14, none, .mov (.t 114)⟩])
    (.seq (.seq (.draw [0, 1, 3, 4, 1000002, 2000003, 2000004] [⟨some 115, none, .load 3 true (.t 15)⟩,
      ⟨some 116, none, .call i_delta_alone [.t 115]⟩,
      ⟨some 117, none, .load 3 true (.t 16)⟩,
      ⟨some 118, none, .call i_delta_alone [.t 117]⟩,
      ⟨some 119, none, .call i_model_Equal [.t 116, .t 118]⟩])
    (.cond (.t 119) (.exit 1)
    .skip))
    (.seq (.draw [11, 12, 1000001, 1000003, 1000004, 1000006, 2000012] [⟨some 121, none, .fldA 0 1 false (.t 5)⟩,
      ⟨some 122, none, .load 1 false (.t 121)⟩,
      ⟨some 123, none, .mov (.t 1)⟩,
      ⟨some 124, none, .idxA 6 (.t 122) (.t 123)⟩,
      ⟨some 125, none, .load 6 true (.t 124)⟩,
      ⟨some 126, none, .fldA 0 1 false (.t 15)⟩,
      ⟨some 127, none, .load 1 false (.t 126)⟩,
      ⟨some 128, none, .call i_table_At [.t 125, .t 127]⟩,
      ⟨some 120, none, .mov (.t 128)⟩,
      ⟨some 129, none, .ext 0 (.t 120)⟩,
      ⟨some 130, none, .ext 1 (.t 120)⟩,
      ⟨some 17, none, .alloc 0 [.str ⟨#[]⟩, .int .i64 0, .int .i64 0, .int .i64 0, .int .i64 0, .int .i64 0, .int .i64 0]⟩,
      ⟨none, none, .store 7 (.t 17) (.t 129)⟩,
      ⟨some 18, none, .mov (.t 130)⟩])
    (.seq (.region [⟨some 131, none, .load 7 true (.t 17)⟩,
      ⟨some 132, none, .call i_delta_goes [.t 131]⟩])
    (.cond (.t 132) (.draw [4, 5, 9, 24, 25, 26, 1000000, 1000001, 1000003, 1000007, 1000011, 1000012, 1000014, 1000015, 1000016, 1000018, 1000019, 1000021, 1000022, 1000023, 2000025, 2000026] [⟨some 133, none, .load 1 false (.t 11)⟩,
      ⟨some 134, none, .load 1 true (.t 5)⟩,
      ⟨some 135, none, .fldA 3 1 false (.t 17)⟩,
      ⟨some 136, none, .load 1 false (.t 135)⟩,
      ⟨some 137, none, .load 1 false (.t 7)⟩,
      ⟨some 138, none, .call i_delta_ints [.t 137]⟩,
      ⟨some 139, none, .fldA 0 1 false (.t 15)⟩,
      ⟨some 140, none, .load 1 false (.t 139)⟩,
      ⟨some 141, none, .bslice 1 [.t 140]⟩,
      ⟨some 142, none, .app 0 3 1 8 (.t 138) (.t 141)⟩,
      ⟨some 143, none, .fldA 2 1 false (.t 15)⟩,
      ⟨some 144, none, .load 1 false (.t 143)⟩,
      ⟨some 145, none, .idxA 3 (.t 144) (.c (.int .i64 0))⟩,
      ⟨some 146, none, .fldA 2 1 false (.t 145)⟩,
      ⟨some 147, none, .load 1 false (.t 146)⟩,
      ⟨some 148, none, .idxA 2 (.t 147) (.c (.int .i64 0))⟩,
      ⟨some 149, none, .load 2 true (.t 148)⟩,
      ⟨some 150, none, .fldA 2 1 false (.t 16)⟩,
      ⟨some 151, none, .load 1 false (.t 150)⟩,
      ⟨some 152, none, .idxA 3 (.t 151) (.c (.int .i64 0))⟩,
      ⟨some 153, none, .fldA 2 1 false (.t 152)⟩,
      ⟨some 154, none, .load 1 false (.t 153)⟩,
      ⟨some 155, none, .idxA 2 (.t 154) (.c (.int .i64 0))⟩,
      ⟨some 156, none, .load 2 true (.t 155)⟩,
      ⟨some 157, none, .call i_delta_diff [.t 134, .t 136, .t 142, .t 149, .t 156]⟩,
      ⟨some 158, none, .app 0 82 6 112 (.t 133) (.t 157)⟩,
      ⟨none, none, .store 1 (.t 11) (.t 158)⟩])
    (.region [⟨some 159, none, .mov (.t 12)⟩,
      ⟨some 160, none, .load 3 true (.t 16)⟩,
      ⟨some 161, none, .callv (.t 159) [.c (.int .i64 1), .t 160, .c (.nil)]⟩]))))))))))))
    (.seq (.seq (.draw [1, 2, 5, 6, 1000004, 2000005, 2000006] [⟨some 162, none, .fldA 1 1 false (.t 8)⟩,
      ⟨some 163, none, .load 1 false (.t 162)⟩,
      ⟨some 164, none, .call i_delta_unknown [.t 163]⟩,
      ⟨some 165, none, .fldA 1 1 false (.t 9)⟩,
      ⟨some 166, none, .load 1 false (.t 165)⟩,
      ⟨some 167, none, .call i_delta_unknown [.t 166]⟩,
      ⟨some 168, none, .call i_model_Equal [.t 164, .t 167]⟩,
      ⟨some 169, none, .un .not (.t 168)⟩])
    (.cond (.t 169) (.region [⟨some 170, none, .mov (.t 12)⟩,
      ⟨some 171, none, .build [.int .i64 0, .nil, .nil] []⟩,
      ⟨some 172, none, .fldA 1 1 false (.t 9)⟩,
      ⟨some 173, none, .load 1 false (.t 172)⟩,
      ⟨some 174, none, .callv (.t 170) [.c (.int .i64 3), .t 171, .t 173]⟩])
    .skip))
    (.seq (.region [⟨some 175, none, .load 1 false (.t 11)⟩,
      ⟨some 10, none, .mov (.t 175)⟩])
    .ret))))))), [.tmp 10]⟩
theorem T_delta_diff : trFn Tryz.prog [(0, [1, 1, 1, 1, 0]), (1, [1]), (11, [0, 0, 0, 0, 0, 0, 0, 0, 0, 0, 1, 1, 0, 0]), (14, [0, 0, 0, 0, 0, 0, 0, 0, 0, 0, 0, 1, 0, 0]), (1000005, [2, 3, 8, 9, 13, 15, 17, 1000019, 1000021, 1000023]), (1000008, [2, 3, 7, 9, 11, 1000013, 1000015, 1000017]), (1000011, [6000000, 12, 13, 5000010, 5000011, 1000001, 1000003, 1000004, 1000006, 1000008, 1000009, 2000013]), (1000013, [0, 1, 3, 4, 1000002, 2000003, 2000004]), (1000014, [11, 12, 1000001, 1000003, 1000004, 1000006, 2000012]), (1000016, [4, 5, 9, 24, 25, 26, 1000000, 1000001, 1000003, 1000007, 1000011, 1000012, 1000014, 1000015, 1000016, 1000018, 1000019, 1000021, 1000022, 1000023, 2000025, 2000026]), (1000018, [1, 2, 5, 6, 1000004, 2000005, 2000006])] Tryz.f96 = some A_delta_diff := by kernel_rfl
theorem L_delta_diff : 5 ≤ Tryz.f96.ntmps := by decide

/-! cartouche/cartouchelaw21.told -/
def A_cartouchelaw21_told : AFn := ⟨(.seq (.region [⟨some 4, none, .box 0 (.t 0)⟩,
      ⟨some 6, none, .box 0 (.t 2)⟩,
      ⟨some 8, none, .mov (.c (.bool false))⟩])
    (.seq (.seq (.region [⟨some 9, none, .mov (.t 3)⟩,
      ⟨some 10, none, .bin false .neq (.t 9) (.c (.int .i64 0))⟩])
    (.cond (.t 10) (.seq (.region [⟨some 11, none, .mov (.t 1)⟩,
      ⟨some 12, none, .mov (.t 3)⟩,
      ⟨some 13, none, .bin false .eql (.t 11) (.t 12)⟩,
      ⟨some 14, none, .mov (.t 13)⟩,
      ⟨some 15, some (14, true), .load 2 true (.t 4)⟩,
      ⟨some 16, some (14, true), .call i_cartoucheref8_Empty [.t 15]⟩,
      ⟨some 17, none, .pickb (.t 14) (.t 16) (.c (.bool false))⟩,
      ⟨some 8, none, .mov (.t 17)⟩])
    .ret)
    .skip))
    (.seq (.region [⟨some 18, none, .mov (.t 1)⟩,
      ⟨some 19, none, .bin false .eql (.t 18) (.c (.int .i64 0))⟩,
      ⟨some 20, none, .mov (.t 19)⟩,
      ⟨some 21, some (20, true), .load 2 true (.t 4)⟩,
      ⟨some 22, some (20, true), .load 2 true (.t 6)⟩,
      ⟨some 23, some (20, true), .call i_cartoucheref8_Equal [.t 21, .t 22]⟩,
      ⟨some 24, none, .pickb (.t 20) (.t 23) (.c (.bool false))⟩,
      ⟨some 8, none, .mov (.t 24)⟩])
    .ret))), [.tmp 8]⟩
theorem T_cartouchelaw21_told : trFn Tryz.prog [(0, [1, 1, 0])] Tryz.f97 = some A_cartouchelaw21_told := by kernel_rfl
theorem L_cartouchelaw21_told : 4 ≤ Tryz.f97.ntmps := by decide

/-! cartouche/cartoucheref1.List -/
def A_cartoucheref1_List : AFn := ⟨(.seq (.region [⟨some 4, none, .mov (.c (.bool false))⟩])
    (.seq (.seq (.region [⟨some 6, none, .mov (.t 0)⟩,
      ⟨some 7, none, .len false (.t 6)⟩,
      ⟨some 8, none, .mov (.t 1)⟩,
      ⟨some 9, none, .len false (.t 8)⟩,
      ⟨some 10, none, .bin false .neq (.t 7) (.t 9)⟩])
    (.cond (.t 10) (.seq (.region [⟨some 4, none, .mov (.c (.bool false))⟩])
    .ret)
    .skip))
    (.seq (.seq (.region [⟨some 5, none, .mov (.c (.int .i64 0))⟩])
    (.block 0 (.loop (.seq (.seq (.region [⟨some 11, none, .mov (.t 5)⟩,
      ⟨some 12, none, .mov (.t 0)⟩,
      ⟨some 13, none, .len false (.t 12)⟩,
      ⟨some 14, none, .bin false .lss (.t 11) (.t 13)⟩])
    (.cond (.t 14) .skip
    (.exit 0)))
    (.seq (.block 1 (.seq (.draw [2, 3, 8, 1000006, 1000007, 2000008] [⟨some 17, none, .mov (.t 0)⟩,
      ⟨some 18, none, .mov (.t 5)⟩,
      ⟨some 19, none, .idxA 4 (.t 17) (.t 18)⟩,
      ⟨some 20, none, .load 4 true (.t 19)⟩,
      ⟨some 21, none, .mov (.t 1)⟩,
      ⟨some 22, none, .mov (.t 5)⟩,
      ⟨some 23, none, .idxA 4 (.t 21) (.t 22)⟩,
      ⟨some 24, none, .load 4 true (.t 23)⟩,
      ⟨some 25, none, .call i_cartoucheref1_Same [.t 20, .t 24]⟩,
      ⟨some 26, none, .un .not (.t 25)⟩])
    (.cond (.t 26) (.seq (.region [⟨some 4, none, .mov (.c (.bool false))⟩])
    .ret)
    .skip)))
    (.region [⟨some 15, none, .mov (.t 5)⟩,
      ⟨some 16, none, .bin false .add (.t 15) (.c (.int .i64 1))⟩,
      ⟨some 5, none, .mov (.t 16)⟩]))))))
    (.seq (.region [⟨some 4, none, .mov (.c (.bool true))⟩])
    .ret)))), [.tmp 4]⟩
theorem T_cartoucheref1_List : trFn Tryz.prog [(1000006, [2, 3, 8, 1000006, 1000007, 2000008])] Tryz.f98 = some A_cartoucheref1_List := by kernel_rfl
theorem L_cartoucheref1_List : 2 ≤ Tryz.f98.ntmps := by decide

/-! cartouche/delta.apply -/
def A_delta_apply : AFn := ⟨(.seq (.region [⟨some 4, none, .box 0 (.t 0)⟩,
      ⟨some 7, none, .box 0 (.t 3)⟩,
      ⟨some 8, none, .mov (.c (.int .i64 0))⟩])
    (.seq (.seq (.region [⟨some 16, none, .fldA 0 1 false (.t 7)⟩,
      ⟨some 17, none, .load 1 false (.t 16)⟩,
      ⟨some 18, none, .bin false .lss (.t 17) (.c (.int .i64 1))⟩,
      ⟨some 19, none, .mov (.t 18)⟩,
      ⟨some 20, some (19, false), .fldA 0 1 false (.t 7)⟩,
      ⟨some 21, some (19, false), .load 1 false (.t 20)⟩,
      ⟨some 22, some (19, false), .bin false .gtr (.t 21) (.c (.int .i64 3))⟩,
      ⟨some 23, none, .pickb (.t 19) (.c (.bool true)) (.t 22)⟩])
    (.cond (.t 23) (.seq (.region [⟨some 8, none, .mov (.c (.int .i64 18))⟩])
    .ret)
    .skip))
    (.seq (.seq (.region [⟨some 24, none, .fldA 1 1 false (.t 7)⟩,
      ⟨some 25, none, .load 1 false (.t 24)⟩,
      ⟨some 26, none, .len false (.t 25)⟩,
      ⟨some 27, none, .mov (.c (.int .i64 0))⟩])
    (.block 0 (.loop (.seq (.region [⟨some 28, none, .bin false .lss (.t 27) (.t 26)⟩])
    (.seq (.cond (.t 28) .skip
    (.exit 0))
    (.seq (.block 1 (.seq (.region [⟨some 29, none, .idxA 1 (.t 25) (.t 27)⟩,
      ⟨some 30, none, .load 1 false (.t 29)⟩,
      ⟨some 10, none, .mov (.t 30)⟩])
    (.seq (.region [⟨some 32, none, .fldA 0 1 false (.t 4)⟩,
      ⟨some 33, none, .load 1 false (.t 32)⟩,
      ⟨some 34, none, .mov (.t 1)⟩,
      ⟨some 35, none, .idxA 6 (.t 33) (.t 34)⟩,
      ⟨some 36, none, .load 6 true (.t 35)⟩,
      ⟨some 37, none, .mov (.t 10)⟩,
      ⟨some 38, none, .call i_table_At [.t 36, .t 37]⟩,
      ⟨some 31, none, .mov (.t 38)⟩,
      ⟨some 39, none, .ext 0 (.t 31)⟩,
      ⟨some 40, none, .ext 1 (.t 31)⟩,
      ⟨some 11, none, .alloc 0 [.str ⟨#[]⟩, .int .i64 0, .int .i64 0, .int .i64 0, .int .i64 0, .int .i64 0, .int .i64 0]⟩,
      ⟨none, none, .store 7 (.t 11) (.t 39)⟩,
      ⟨some 12, none, .mov (.t 40)⟩])
    (.seq (.region [⟨some 41, none, .mov (.t 2)⟩,
      ⟨some 42, none, .mov (.t 10)⟩,
      ⟨some 43, none, .call i_delta_at [.t 41, .t 42]⟩,
      ⟨some 13, none, .mov (.t 43)⟩])
    (.seq (.seq (.region [⟨some 44, none, .mov (.t 12)⟩,
      ⟨some 45, none, .un .not (.t 44)⟩,
      ⟨some 46, none, .mov (.t 45)⟩,
      ⟨some 47, some (46, false), .load 7 true (.t 11)⟩,
      ⟨some 48, some (46, false), .call i_delta_goes [.t 47]⟩,
      ⟨some 49, some (46, false), .un .not (.t 48)⟩,
      ⟨some 50, none, .pickb (.t 46) (.c (.bool true)) (.t 49)⟩,
      ⟨some 51, none, .mov (.t 50)⟩,
      ⟨some 52, some (51, false), .mov (.t 13)⟩,
      ⟨some 53, some (51, false), .bin false .lss (.t 52) (.c (.int .i64 0))⟩,
      ⟨some 54, none, .pickb (.t 51) (.c (.bool true)) (.t 53)⟩,
      ⟨some 55, none, .mov (.t 54)⟩,
      ⟨some 56, some (55, false), .mov (.t 2)⟩,
      ⟨some 57, some (55, false), .nilck (.t 56)⟩,
      ⟨some 58, some (55, false), .fldA 0 1 false (.t 57)⟩,
      ⟨some 59, some (55, false), .load 1 false (.t 58)⟩,
      ⟨some 60, some (55, false), .mov (.t 13)⟩,
      ⟨some 61, some (55, false), .idxA 3 (.t 59) (.t 60)⟩,
      ⟨some 62, some (55, false), .fldA 2 1 false (.t 61)⟩,
      ⟨some 63, some (55, false), .load 1 false (.t 62)⟩,
      ⟨some 64, some (55, false), .len false (.t 63)⟩,
      ⟨some 65, some (55, false), .bin false .neq (.t 64) (.c (.int .i64 1))⟩,
      ⟨some 66, none, .pickb (.t 55) (.c (.bool true)) (.t 65)⟩,
      ⟨some 67, none, .mov (.t 66)⟩,
      ⟨some 68, some (67, false), .mov (.t 2)⟩,
      ⟨some 69, some (67, false), .nilck (.t 68)⟩,
      ⟨some 70, some (67, false), .fldA 0 1 false (.t 69)⟩,
      ⟨some 71, some (67, false), .load 1 false (.t 70)⟩,
      ⟨some 72, some (67, false), .mov (.t 13)⟩,
      ⟨some 73, some (67, false), .idxA 3 (.t 71) (.t 72)⟩,
      ⟨some 74, some (67, false), .fldA 2 1 false (.t 73)⟩,
      ⟨some 75, some (67, false), .load 1 false (.t 74)⟩,
      ⟨some 76, some (67, false), .idxA 3 (.t 75) (.c (.int .i64 0))⟩,
      ⟨some 77, some (67, false), .fldA 2 1 false (.t 76)⟩,
      ⟨some 78, some (67, false), .load 1 false (.t 77)⟩,
      ⟨some 79, some (67, false), .len false (.t 78)⟩,
      ⟨some 80, some (67, false), .bin false .neq (.t 79) (.c (.int .i64 1))⟩,
      ⟨some 81, none, .pickb (.t 67) (.c (.bool true)) (.t 80)⟩])
    (.cond (.t 81) (.seq (.region [⟨some 8, none, .mov (.c (.int .i64 20))⟩])
    .ret)
    .skip))
    (.draw [1, 1000005, 1000007, 1000009, 1000010, 1000012, 1000013] [⟨some 82, none, .fldA 3 1 false (.t 11)⟩,
      ⟨some 83, none, .load 1 false (.t 82)⟩,
      ⟨some 84, none, .mov (.t 2)⟩,
      ⟨some 85, none, .nilck (.t 84)⟩,
      ⟨some 86, none, .fldA 0 1 false (.t 85)⟩,
      ⟨some 87, none, .load 1 false (.t 86)⟩,
      ⟨some 88, none, .mov (.t 13)⟩,
      ⟨some 89, none, .idxA 3 (.t 87) (.t 88)⟩,
      ⟨some 90, none, .fldA 2 1 false (.t 89)⟩,
      ⟨some 91, none, .load 1 false (.t 90)⟩,
      ⟨some 92, none, .idxA 3 (.t 91) (.c (.int .i64 0))⟩,
      ⟨some 93, none, .fldA 2 1 false (.t 92)⟩,
      ⟨some 94, none, .load 1 false (.t 93)⟩,
      ⟨some 95, none, .idxA 2 (.t 94) (.c (.int .i64 0))⟩,
      ⟨some 1, none, .mov (.t 83)⟩,
      ⟨some 2, none, .mov (.t 95)⟩]))))))
    (.region [⟨some 96, none, .bin false .add (.t 27) (.c (.int .i64 1))⟩,
      ⟨some 27, none, .mov (.t 96)⟩])))))))
    (.seq (.seq (.region [⟨some 97, none, .fldA 0 1 false (.t 7)⟩,
      ⟨some 98, none, .load 1 false (.t 97)⟩])
    (.block 2 (.seq (.region [⟨some 106, none, .bin false .eql (.t 98) (.c (.int .i64 1))⟩,
      ⟨some 105, none, .mov (.t 106)⟩])
    (.cond (.t 105) (.seq (.seq (.draw [3, 4, 5, 6, 1000000, 2000006] [⟨some 107, none, .load 1 true (.t 4)⟩,
      ⟨some 108, none, .mov (.t 1)⟩,
      ⟨some 109, none, .fldA 2 3 true (.t 7)⟩,
      ⟨some 110, none, .load 3 true (.t 109)⟩,
      ⟨some 111, none, .call i_delta_alone [.t 110]⟩,
      ⟨some 112, none, .blit 0 35 2 [.t 111]⟩,
      ⟨some 113, none, .call i_delta_may [.t 107, .t 108, .t 112]⟩,
      ⟨some 14, none, .mov (.t 113)⟩])
    (.seq (.region [⟨some 114, none, .mov (.t 14)⟩,
      ⟨some 115, none, .bin false .neq (.t 114) (.c (.int .i64 0))⟩])
    (.cond (.t 115) (.seq (.region [⟨some 116, none, .mov (.t 14)⟩,
      ⟨some 8, none, .mov (.t 116)⟩])
    .ret)
    .skip)))
    (.region [⟨some 117, none, .mov (.t 2)⟩,
      ⟨some 118, none, .fldA 2 3 true (.t 7)⟩,
      ⟨some 119, none, .load 3 true (.t 118)⟩,
      ⟨some 120, none, .call i_model_CopyField [.t 119]⟩,
      ⟨some 121, none, .call i_delta_laid [.t 117, .t 120]⟩]))
    (.seq (.region [⟨some 123, none, .bin false .eql (.t 98) (.c (.int .i64 2))⟩,
      ⟨some 122, none, .mov (.t 123)⟩])
    (.cond (.t 122) (.seq (.region [⟨some 124, none, .mov (.t 2)⟩,
      ⟨some 125, none, .fldA 2 3 true (.t 7)⟩,
      ⟨some 126, none, .fldA 0 1 false (.t 125)⟩,
      ⟨some 127, none, .load 1 false (.t 126)⟩,
      ⟨some 128, none, .call i_delta_at [.t 124, .t 127]⟩,
      ⟨some 15, none, .mov (.t 128)⟩])
    (.seq (.seq (.region [⟨some 129, none, .mov (.t 15)⟩,
      ⟨some 130, none, .bin false .lss (.t 129) (.c (.int .i64 0))⟩])
    (.cond (.t 130) (.seq (.region [⟨some 8, none, .mov (.c (.int .i64 20))⟩])
    .ret)
    .skip))
    (.region [⟨some 131, none, .mov (.t 2)⟩,
      ⟨some 132, none, .mov (.t 2)⟩,
      ⟨some 133, none, .nilck (.t 132)⟩,
      ⟨some 134, none, .fldA 0 1 false (.t 133)⟩,
      ⟨some 135, none, .load 1 false (.t 134)⟩,
      ⟨some 136, none, .mov (.t 15)⟩,
      ⟨some 137, none, .mov (.t 15)⟩,
      ⟨some 138, none, .bin false .add (.t 137) (.c (.int .i64 1))⟩,
      ⟨some 139, none, .call i_slices_Delete_api_Field_api_Field [.t 135, .t 136, .t 138]⟩,
      ⟨some 140, none, .nilck (.t 131)⟩,
      ⟨some 141, none, .fldA 0 1 false (.t 140)⟩,
      ⟨none, none, .store 1 (.t 141) (.t 139)⟩])))
    (.region [⟨some 99, none, .mov (.t 2)⟩,
      ⟨some 100, none, .fldA 5 1 false (.t 7)⟩,
      ⟨some 101, none, .load 1 false (.t 100)⟩,
      ⟨some 102, none, .call i_delta_entries [.t 101]⟩,
      ⟨some 103, none, .nilck (.t 99)⟩,
      ⟨some 104, none, .fldA 1 1 false (.t 103)⟩,
      ⟨none, none, .store 1 (.t 104) (.t 102)⟩])))))))
    (.seq (.region [⟨some 8, none, .mov (.c (.int .i64 0))⟩])
    .ret))))), [.tmp 8]⟩
theorem T_delta_apply : trFn Tryz.prog [(0, [1, 1, 0]), (6, [0, 0, 0, 0, 0, 0, 0, 0, 0, 0, 1, 0, 0]), (15, [0, 0, 0, 0, 0, 1, 0, 0]), (1000010, [1, 1000005, 1000007, 1000009, 1000010, 1000012, 1000013]), (1000015, [3, 4, 5, 6, 1000000, 2000006])] Tryz.f99 = some A_delta_apply := by kernel_rfl
theorem L_delta_apply : 4 ≤ Tryz.f99.ntmps := by decide

/-! cartouche/delta.entry -/
def A_delta_entry : AFn := ⟨(.seq (.region [⟨some 3, none, .box 0 (.t 0)⟩,
      ⟨some 5, none, .box 0 (.t 2)⟩,
      ⟨some 6, none, .mov (.c (.nil))⟩,
      ⟨some 7, none, .mov (.c (.int .i64 0))⟩])
    (.seq (.seq (.region [⟨some 18, none, .fldA 0 1 false (.t 5)⟩,
      ⟨some 19, none, .load 1 false (.t 18)⟩,
      ⟨some 20, none, .bin false .lss (.t 19) (.c (.int .i64 1))⟩,
      ⟨some 21, none, .mov (.t 20)⟩,
      ⟨some 22, some (21, false), .fldA 0 1 false (.t 5)⟩,
      ⟨some 23, some (21, false), .load 1 false (.t 22)⟩,
      ⟨some 24, some (21, false), .bin false .gtr (.t 23) (.c (.int .i64 3))⟩,
      ⟨some 25, none, .pickb (.t 21) (.c (.bool true)) (.t 24)⟩])
    (.cond (.t 25) (.seq (.region [⟨some 6, none, .mov (.c (.nil))⟩,
      ⟨some 7, none, .mov (.c (.int .i64 18))⟩])
    .ret)
    .skip))
    (.seq (.region [⟨some 27, none, .load 1 true (.t 3)⟩,
      ⟨some 28, none, .mov (.t 1)⟩,
      ⟨some 29, none, .fldA 1 1 false (.t 5)⟩,
      ⟨some 30, none, .load 1 false (.t 29)⟩,
      ⟨some 31, none, .call i_delta_along [.t 27, .t 28, .t 30]⟩,
      ⟨some 26, none, .mov (.t 31)⟩,
      ⟨some 32, none, .ext 0 (.t 26)⟩,
      ⟨some 33, none, .ext 1 (.t 26)⟩,
      ⟨some 1, none, .mov (.t 32)⟩,
      ⟨some 8, none, .mov (.t 33)⟩])
    (.seq (.seq (.region [⟨some 34, none, .mov (.t 8)⟩,
      ⟨some 35, none, .un .not (.t 34)⟩])
    (.cond (.t 35) (.seq (.region [⟨some 6, none, .mov (.c (.nil))⟩,
      ⟨some 7, none, .mov (.c (.int .i64 20))⟩])
    .ret)
    .skip))
    (.seq (.region [⟨some 9, none, .mov (.c (.nil))⟩])
    (.seq (.seq (.region [⟨some 36, none, .fldA 1 1 false (.t 5)⟩,
      ⟨some 37, none, .load 1 false (.t 36)⟩,
      ⟨some 38, none, .len false (.t 37)⟩,
      ⟨some 39, none, .mov (.c (.int .i64 0))⟩])
    (.block 0 (.loop (.seq (.region [⟨some 40, none, .bin false .lss (.t 39) (.t 38)⟩])
    (.seq (.cond (.t 40) .skip
    (.exit 0))
    (.seq (.block 1 (.seq (.region [⟨some 41, none, .idxA 1 (.t 37) (.t 39)⟩,
      ⟨some 42, none, .load 1 false (.t 41)⟩,
      ⟨some 11, none, .mov (.t 42)⟩])
    (.region [⟨some 43, none, .mov (.t 9)⟩,
      ⟨some 44, none, .mov (.t 11)⟩,
      ⟨some 45, none, .conv .u64 (.t 44)⟩,
      ⟨some 46, none, .call i_wire_PutVarint [.t 45]⟩,
      ⟨some 47, none, .app 0 5 1 1 (.t 43) (.t 46)⟩,
      ⟨some 9, none, .mov (.t 47)⟩])))
    (.region [⟨some 48, none, .bin false .add (.t 39) (.c (.int .i64 1))⟩,
      ⟨some 39, none, .mov (.t 48)⟩])))))))
    (.seq (.region [⟨some 49, none, .fldA 0 1 false (.t 5)⟩,
      ⟨some 50, none, .load 1 false (.t 49)⟩,
      ⟨some 51, none, .bin false .add (.t 50) (.c (.int .i64 1))⟩,
      ⟨some 52, none, .build [.int .i64 0, .int .i64 0, .int .u64 0, .nil] [(0, 1, .t 51), (1, 1, .c (.int .i64 2))]⟩,
      ⟨some 12, none, .alloc 0 [.int .i64 0, .int .i64 0, .int .u64 0, .nil]⟩,
      ⟨none, none, .store 4 (.t 12) (.t 52)⟩])
    (.seq (.region [⟨some 13, none, .mov (.c (.int .i64 0))⟩])
    (.seq (.seq (.region [⟨some 53, none, .fldA 0 1 false (.t 5)⟩,
      ⟨some 54, none, .load 1 false (.t 53)⟩])
    (.block 2 (.seq (.region [⟨some 66, none, .bin false .eql (.t 54) (.c (.int .i64 1))⟩,
      ⟨some 65, none, .mov (.t 66)⟩])
    (.cond (.t 65) (.seq (.region [⟨some 67, none, .fldA 2 3 true (.t 5)⟩,
      ⟨some 68, none, .load 3 true (.t 67)⟩,
      ⟨some 69, none, .call i_delta_alone [.t 68]⟩,
      ⟨some 14, none, .alloc 0 [.nil, .nil]⟩,
      ⟨none, none, .store 2 (.t 14) (.t 69)⟩])
    (.seq (.seq (.region [⟨some 70, none, .load 1 true (.t 3)⟩,
      ⟨some 71, none, .mov (.t 1)⟩,
      ⟨some 72, none, .load 2 true (.t 14)⟩,
      ⟨some 73, none, .blit 0 35 2 [.t 72]⟩,
      ⟨some 74, none, .call i_delta_may [.t 70, .t 71, .t 73]⟩,
      ⟨some 13, none, .mov (.t 74)⟩])
    (.seq (.region [⟨some 75, none, .mov (.t 13)⟩,
      ⟨some 76, none, .bin false .neq (.t 75) (.c (.int .i64 0))⟩])
    (.cond (.t 76) (.seq (.region [⟨some 77, none, .mov (.t 13)⟩,
      ⟨some 6, none, .mov (.c (.nil))⟩,
      ⟨some 7, none, .mov (.t 77)⟩])
    .ret)
    .skip)))
    (.seq (.seq (.region [⟨some 79, none, .load 1 true (.t 3)⟩,
      ⟨some 80, none, .mov (.t 1)⟩,
      ⟨some 81, none, .load 2 true (.t 14)⟩,
      ⟨some 82, none, .call i_model_Normal [.t 79, .t 80, .t 81]⟩,
      ⟨some 78, none, .mov (.t 82)⟩,
      ⟨some 83, none, .ext 0 (.t 78)⟩,
      ⟨some 84, none, .ext 1 (.t 78)⟩,
      ⟨some 15, none, .mov (.t 83)⟩,
      ⟨some 16, none, .mov (.t 84)⟩])
    (.seq (.region [⟨some 85, none, .mov (.t 15)⟩,
      ⟨some 86, none, .un .not (.t 85)⟩])
    (.cond (.t 86) (.seq (.region [⟨some 6, none, .mov (.c (.nil))⟩,
      ⟨some 7, none, .mov (.c (.int .i64 7))⟩])
    .ret)
    .skip)))
    (.seq (.region [⟨some 88, none, .load 1 true (.t 3)⟩,
      ⟨some 89, none, .mov (.t 1)⟩,
      ⟨some 90, none, .load 2 true (.t 14)⟩,
      ⟨some 91, none, .call i_interp_Encode [.t 88, .t 89, .t 90]⟩,
      ⟨some 87, none, .mov (.t 91)⟩,
      ⟨some 92, none, .ext 0 (.t 87)⟩,
      ⟨some 93, none, .ext 1 (.t 87)⟩,
      ⟨some 94, none, .fldA 3 1 false (.t 12)⟩,
      ⟨none, none, .store 1 (.t 94) (.t 92)⟩,
      ⟨some 13, none, .mov (.t 93)⟩])
    (.seq (.region [⟨some 95, none, .mov (.t 13)⟩,
      ⟨some 96, none, .bin false .neq (.t 95) (.c (.int .i64 0))⟩])
    (.cond (.t 96) (.seq (.region [⟨some 97, none, .mov (.t 13)⟩,
      ⟨some 6, none, .mov (.c (.nil))⟩,
      ⟨some 7, none, .mov (.t 97)⟩])
    .ret)
    .skip))))))
    (.seq (.region [⟨some 99, none, .bin false .eql (.t 54) (.c (.int .i64 2))⟩,
      ⟨some 98, none, .mov (.t 99)⟩])
    (.cond (.t 98) (.seq (.seq (.region [⟨some 100, none, .fldA 2 3 true (.t 5)⟩,
      ⟨some 101, none, .fldA 0 1 false (.t 100)⟩,
      ⟨some 102, none, .load 1 false (.t 101)⟩,
      ⟨some 103, none, .bin false .lss (.t 102) (.c (.int .i64 1))⟩,
      ⟨some 104, none, .mov (.t 103)⟩,
      ⟨some 105, some (104, false), .fldA 2 3 true (.t 5)⟩,
      ⟨some 106, some (104, false), .fldA 0 1 false (.t 105)⟩,
      ⟨some 107, some (104, false), .load 1 false (.t 106)⟩,
      ⟨some 108, some (104, false), .bin false .gtr (.t 107) (.c (.int .i64 536870911))⟩,
      ⟨some 109, none, .pickb (.t 104) (.c (.bool true)) (.t 108)⟩])
    (.cond (.t 109) (.seq (.region [⟨some 6, none, .mov (.c (.nil))⟩,
      ⟨some 7, none, .mov (.c (.int .i64 5))⟩])
    .ret)
    .skip))
    (.draw [5, 7, 1000002, 2000007] [⟨some 110, none, .fldA 2 3 true (.t 5)⟩,
      ⟨some 111, none, .fldA 0 1 false (.t 110)⟩,
      ⟨some 112, none, .load 1 false (.t 111)⟩,
      ⟨some 113, none, .conv .u64 (.t 112)⟩,
      ⟨some 114, none, .fldA 1 1 false (.t 12)⟩,
      ⟨none, none, .store 1 (.t 114) (.c (.int .i64 0))⟩,
      ⟨some 115, none, .fldA 2 1 false (.t 12)⟩,
      ⟨none, none, .store 1 (.t 115) (.t 113)⟩]))
    (.seq (.region [⟨some 56, none, .fldA 5 1 false (.t 5)⟩,
      ⟨some 57, none, .load 1 false (.t 56)⟩,
      ⟨some 58, none, .call i_wire_Join [.t 57]⟩,
      ⟨some 55, none, .mov (.t 58)⟩,
      ⟨some 59, none, .ext 0 (.t 55)⟩,
      ⟨some 60, none, .ext 1 (.t 55)⟩,
      ⟨some 61, none, .fldA 3 1 false (.t 12)⟩,
      ⟨none, none, .store 1 (.t 61) (.t 59)⟩,
      ⟨some 13, none, .mov (.t 60)⟩])
    (.seq (.region [⟨some 62, none, .mov (.t 13)⟩,
      ⟨some 63, none, .bin false .neq (.t 62) (.c (.int .i64 0))⟩])
    (.cond (.t 63) (.seq (.region [⟨some 64, none, .mov (.t 13)⟩,
      ⟨some 6, none, .mov (.c (.nil))⟩,
      ⟨some 7, none, .mov (.t 64)⟩])
    .ret)
    .skip)))))))))
    (.seq (.region [⟨some 117, none, .mov (.t 9)⟩,
      ⟨some 118, none, .build [.int .i64 0, .int .i64 0, .int .u64 0, .nil] [(0, 1, .c (.int .i64 1)), (1, 1, .c (.int .i64 2)), (3, 1, .t 117)]⟩,
      ⟨some 119, none, .load 4 true (.t 12)⟩,
      ⟨some 120, none, .blit 0 40 4 [.t 118, .t 119]⟩,
      ⟨some 121, none, .call i_wire_Join [.t 120]⟩,
      ⟨some 116, none, .mov (.t 121)⟩,
      ⟨some 122, none, .ext 0 (.t 116)⟩,
      ⟨some 123, none, .ext 1 (.t 116)⟩,
      ⟨some 17, none, .mov (.t 122)⟩,
      ⟨some 13, none, .mov (.t 123)⟩])
    (.seq (.seq (.region [⟨some 124, none, .mov (.t 13)⟩,
      ⟨some 125, none, .bin false .neq (.t 124) (.c (.int .i64 0))⟩])
    (.cond (.t 125) (.seq (.region [⟨some 126, none, .mov (.t 13)⟩,
      ⟨some 6, none, .mov (.c (.nil))⟩,
      ⟨some 7, none, .mov (.t 126)⟩])
    .ret)
    .skip))
    (.seq (.region [⟨some 127, none, .fldA 0 1 false (.t 5)⟩,
      ⟨some 128, none, .load 1 false (.t 127)⟩,
      ⟨some 129, none, .mov (.t 17)⟩,
      ⟨some 130, none, .build [.int .i64 0, .int .i64 0, .int .u64 0, .nil] [(0, 1, .t 128), (1, 1, .c (.int .i64 2)), (3, 1, .t 129)]⟩,
      ⟨some 131, none, .call i_wire_PutEntry [.t 130]⟩,
      ⟨some 132, none, .ext 0 (.t 131)⟩,
      ⟨some 133, none, .ext 1 (.t 131)⟩,
      ⟨some 6, none, .mov (.t 132)⟩,
      ⟨some 7, none, .mov (.t 133)⟩])
    .ret)))))))))))), [.tmp 6, .tmp 7]⟩
theorem T_delta_entry : trFn Tryz.prog [(0, [1, 1, 0, 0]), (12, [0, 0, 0, 0, 1, 0]), (19, [0, 0, 0, 1, 0]), (20, [0, 0, 0, 1, 0, 0]), (33, [0, 0, 0, 1, 0, 0, 0, 0, 0, 0]), (1000032, [5, 7, 1000002, 2000007])] Tryz.f100 = some A_delta_entry := by kernel_rfl
theorem L_delta_entry : 3 ≤ Tryz.f100.ntmps := by decide

/-! cartouche/wire.Split -/
def A_wire_Split : AFn := ⟨(.seq (.region [⟨some 2, none, .mov (.c (.nil))⟩,
      ⟨some 3, none, .mov (.c (.int .i64 0))⟩])
    (.seq (.region [⟨some 4, none, .mov (.c (.nil))⟩])
    (.seq (.seq (.region [⟨some 5, none, .mov (.c (.int .i64 0))⟩])
    (.block 0 (.loop (.seq (.seq (.region [⟨some 9, none, .mov (.t 5)⟩,
      ⟨some 10, none, .mov (.t 0)⟩,
      ⟨some 11, none, .len false (.t 10)⟩,
      ⟨some 12, none, .bin false .lss (.t 9) (.t 11)⟩])
    (.cond (.t 12) .skip
    (.exit 0)))
    (.block 1 (.seq (.region [⟨some 14, none, .mov (.t 0)⟩,
      ⟨some 15, none, .mov (.t 5)⟩,
      ⟨some 16, none, .call i_wire_GetEntry [.t 14, .t 15]⟩,
      ⟨some 13, none, .mov (.t 16)⟩,
      ⟨some 17, none, .ext 0 (.t 13)⟩,
      ⟨some 18, none, .ext 1 (.t 13)⟩,
      ⟨some 19, none, .ext 2 (.t 13)⟩,
      ⟨some 6, none, .alloc 0 [.int .i64 0, .int .i64 0, .int .u64 0, .nil]⟩,
      ⟨none, none, .store 4 (.t 6) (.t 17)⟩,
      ⟨some 7, none, .mov (.t 18)⟩,
      ⟨some 8, none, .mov (.t 19)⟩])
    (.seq (.seq (.region [⟨some 20, none, .mov (.t 8)⟩,
      ⟨some 21, none, .bin false .neq (.t 20) (.c (.int .i64 0))⟩])
    (.cond (.t 21) (.seq (.region [⟨some 22, none, .mov (.t 8)⟩,
      ⟨some 2, none, .mov (.c (.nil))⟩,
      ⟨some 3, none, .mov (.t 22)⟩])
    .ret)
    .skip))
    (.region [⟨some 23, none, .mov (.t 4)⟩,
      ⟨some 24, none, .load 4 true (.t 6)⟩,
      ⟨some 25, none, .blit 0 40 4 [.t 24]⟩,
      ⟨some 26, none, .app 0 40 4 48 (.t 23) (.t 25)⟩,
      ⟨some 27, none, .mov (.t 7)⟩,
      ⟨some 4, none, .mov (.t 26)⟩,
      ⟨some 5, none, .mov (.t 27)⟩]))))))))
    (.seq (.region [⟨some 28, none, .mov (.t 4)⟩,
      ⟨some 29, none, .len false (.t 28)⟩,
      ⟨some 30, none, .mks 0 40 4 48 (.agg [.int .i64 0, .int .i64 0, .int .u64 0, .nil]) (.c (.int .i64 0)) (.t 29)⟩,
      ⟨some 31, none, .mov (.t 4)⟩,
      ⟨some 32, none, .app 0 40 4 48 (.t 30) (.t 31)⟩,
      ⟨some 2, none, .mov (.t 32)⟩,
      ⟨some 3, none, .mov (.c (.int .i64 0))⟩])
    .ret)))), [.tmp 2, .tmp 3]⟩
theorem T_wire_Split : trFn Tryz.prog [(4, [0, 0, 0, 0, 0, 0, 0, 1, 0, 0, 0]), (7, [0, 0, 1, 0, 0, 0, 0])] Tryz.f101 = some A_wire_Split := by kernel_rfl
theorem L_wire_Split : 1 ≤ Tryz.f101.ntmps := by decide

/-! cartouche/delta.step -/
def A_delta_step : AFn := ⟨(.seq (.region [⟨some 3, none, .box 0 (.t 0)⟩,
      ⟨some 5, none, .box 0 (.t 2)⟩,
      ⟨some 6, none, .alloc 0 [.int .i64 0, .nil, .int .i64 0, .nil, .nil, .nil]⟩,
      ⟨some 7, none, .mov (.c (.bool false))⟩])
    (.seq (.region [⟨some 14, none, .fldA 3 1 false (.t 5)⟩,
      ⟨some 15, none, .load 1 false (.t 14)⟩,
      ⟨some 16, none, .call i_wire_Split [.t 15]⟩,
      ⟨some 13, none, .mov (.t 16)⟩,
      ⟨some 17, none, .ext 0 (.t 13)⟩,
      ⟨some 18, none, .ext 1 (.t 13)⟩,
      ⟨some 8, none, .mov (.t 17)⟩,
      ⟨some 9, none, .mov (.t 18)⟩])
    (.seq (.seq (.region [⟨some 19, none, .mov (.t 9)⟩,
      ⟨some 20, none, .bin false .neq (.t 19) (.c (.int .i64 0))⟩,
      ⟨some 21, none, .mov (.t 20)⟩,
      ⟨some 22, some (21, false), .fldA 1 1 false (.t 5)⟩,
      ⟨some 23, some (21, false), .load 1 false (.t 22)⟩,
      ⟨some 24, some (21, false), .bin false .neq (.t 23) (.c (.int .i64 2))⟩,
      ⟨some 25, none, .pickb (.t 21) (.c (.bool true)) (.t 24)⟩,
      ⟨some 26, none, .mov (.t 25)⟩,
      ⟨some 27, some (26, false), .fldA 0 1 false (.t 5)⟩,
      ⟨some 28, some (26, false), .load 1 false (.t 27)⟩,
      ⟨some 29, some (26, false), .bin false .gtr (.t 28) (.c (.int .i64 3))⟩,
      ⟨some 30, none, .pickb (.t 26) (.c (.bool true)) (.t 29)⟩,
      ⟨some 31, none, .mov (.t 30)⟩,
      ⟨some 32, some (31, false), .mov (.t 8)⟩,
      ⟨some 33, some (31, false), .len false (.t 32)⟩,
      ⟨some 34, some (31, false), .bin false .neq (.t 33) (.c (.int .i64 2))⟩,
      ⟨some 35, none, .pickb (.t 31) (.c (.bool true)) (.t 34)⟩,
      ⟨some 36, none, .mov (.t 35)⟩,
      ⟨some 37, some (36, false), .mov (.t 8)⟩,
      ⟨some 38, some (36, false), .idxA 4 (.t 37) (.c (.int .i64 1))⟩,
      ⟨some 39, some (36, false), .fldA 2 1 false (.t 38)⟩,
      ⟨some 40, some (36, false), .load 1 false (.t 39)⟩,
      ⟨some 41, some (36, false), .bin false .gtr (.t 40) (.c (.int .u64 536870911))⟩,
      ⟨some 42, none, .pickb (.t 36) (.c (.bool true)) (.t 41)⟩])
    (.cond (.t 42) (.seq (.region [⟨some 43, none, .build [.int .i64 0, .nil, .int .i64 0, .nil, .nil, .nil] []⟩,
      ⟨none, none, .store 6 (.t 6) (.t 43)⟩,
      ⟨some 7, none, .mov (.c (.bool false))⟩])
    .ret)
    .skip))
    (.seq (.region [⟨some 44, none, .fldA 0 1 false (.t 5)⟩,
      ⟨some 45, none, .load 1 false (.t 44)⟩,
      ⟨some 46, none, .fldA 0 1 false (.t 6)⟩,
      ⟨none, none, .store 1 (.t 46) (.t 45)⟩])
    (.seq (.seq (.region [⟨some 48, none, .mov (.t 8)⟩,
      ⟨some 49, none, .idxA 4 (.t 48) (.c (.int .i64 0))⟩,
      ⟨some 50, none, .fldA 3 1 false (.t 49)⟩,
      ⟨some 51, none, .load 1 false (.t 50)⟩,
      ⟨some 52, none, .call i_delta_numbers [.t 51]⟩,
      ⟨some 47, none, .mov (.t 52)⟩,
      ⟨some 53, none, .ext 0 (.t 47)⟩,
      ⟨some 54, none, .ext 1 (.t 47)⟩,
      ⟨some 55, none, .fldA 1 1 false (.t 6)⟩,
      ⟨none, none, .store 1 (.t 55) (.t 53)⟩,
      ⟨some 7, none, .mov (.t 54)⟩])
    (.seq (.region [⟨some 56, none, .mov (.t 7)⟩,
      ⟨some 57, none, .un .not (.t 56)⟩])
    (.cond (.t 57) (.seq (.region [⟨some 58, none, .build [.int .i64 0, .nil, .int .i64 0, .nil, .nil, .nil] []⟩,
      ⟨none, none, .store 6 (.t 6) (.t 58)⟩,
      ⟨some 7, none, .mov (.c (.bool false))⟩])
    .ret)
    .skip)))
    (.seq (.region [⟨some 60, none, .load 1 true (.t 3)⟩,
      ⟨some 61, none, .mov (.t 1)⟩,
      ⟨some 62, none, .fldA 1 1 false (.t 6)⟩,
      ⟨some 63, none, .load 1 false (.t 62)⟩,
      ⟨some 64, none, .call i_delta_along [.t 60, .t 61, .t 63]⟩,
      ⟨some 59, none, .mov (.t 64)⟩,
      ⟨some 65, none, .ext 0 (.t 59)⟩,
      ⟨some 66, none, .ext 1 (.t 59)⟩,
      ⟨some 1, none, .mov (.t 65)⟩,
      ⟨some 10, none, .mov (.t 66)⟩])
    (.seq (.seq (.region [⟨some 67, none, .mov (.t 10)⟩,
      ⟨some 68, none, .un .not (.t 67)⟩])
    (.cond (.t 68) (.seq (.region [⟨some 69, none, .build [.int .i64 0, .nil, .int .i64 0, .nil, .nil, .nil] []⟩,
      ⟨none, none, .store 6 (.t 6) (.t 69)⟩,
      ⟨some 7, none, .mov (.c (.bool false))⟩])
    .ret)
    .skip))
    (.seq (.seq (.region [⟨some 70, none, .fldA 0 1 false (.t 6)⟩,
      ⟨some 71, none, .load 1 false (.t 70)⟩])
    (.block 0 (.seq (.region [⟨some 85, none, .bin false .eql (.t 71) (.c (.int .i64 1))⟩,
      ⟨some 84, none, .mov (.t 85)⟩])
    (.cond (.t 84) (.seq (.draw [10, 11, 1000000, 1000003, 1000005, 2000011] [⟨some 87, none, .load 1 true (.t 3)⟩,
      ⟨some 88, none, .mov (.t 1)⟩,
      ⟨some 89, none, .mov (.t 8)⟩,
      ⟨some 90, none, .idxA 4 (.t 89) (.c (.int .i64 1))⟩,
      ⟨some 91, none, .fldA 3 1 false (.t 90)⟩,
      ⟨some 92, none, .load 1 false (.t 91)⟩,
      ⟨some 93, none, .call i_interp_Decode [.t 87, .t 88, .t 92]⟩,
      ⟨some 86, none, .mov (.t 93)⟩,
      ⟨some 94, none, .ext 0 (.t 86)⟩,
      ⟨some 95, none, .ext 1 (.t 86)⟩,
      ⟨some 11, none, .alloc 0 [.nil, .nil]⟩,
      ⟨none, none, .store 2 (.t 11) (.t 94)⟩,
      ⟨some 12, none, .mov (.t 95)⟩])
    (.seq (.seq (.region [⟨some 96, none, .mov (.t 12)⟩,
      ⟨some 97, none, .bin false .neq (.t 96) (.c (.int .i64 0))⟩,
      ⟨some 98, none, .mov (.t 97)⟩,
      ⟨some 99, some (98, false), .fldA 0 1 false (.t 11)⟩,
      ⟨some 100, some (98, false), .load 1 false (.t 99)⟩,
      ⟨some 101, some (98, false), .len false (.t 100)⟩,
      ⟨some 102, some (98, false), .bin false .neq (.t 101) (.c (.int .i64 1))⟩,
      ⟨some 103, none, .pickb (.t 98) (.c (.bool true)) (.t 102)⟩])
    (.cond (.t 103) (.seq (.region [⟨some 104, none, .build [.int .i64 0, .nil, .int .i64 0, .nil, .nil, .nil] []⟩,
      ⟨none, none, .store 6 (.t 6) (.t 104)⟩,
      ⟨some 7, none, .mov (.c (.bool false))⟩])
    .ret)
    .skip))
    (.region [⟨some 105, none, .fldA 0 1 false (.t 11)⟩,
      ⟨some 106, none, .load 1 false (.t 105)⟩,
      ⟨some 107, none, .idxA 3 (.t 106) (.c (.int .i64 0))⟩,
      ⟨some 108, none, .load 3 true (.t 107)⟩,
      ⟨some 109, none, .fldA 2 3 true (.t 6)⟩,
      ⟨none, none, .store 3 (.t 109) (.t 108)⟩])))
    (.seq (.region [⟨some 111, none, .bin false .eql (.t 71) (.c (.int .i64 2))⟩,
      ⟨some 110, none, .mov (.t 111)⟩])
    (.cond (.t 110) (.region [⟨some 112, none, .mov (.t 8)⟩,
      ⟨some 113, none, .idxA 4 (.t 112) (.c (.int .i64 1))⟩,
      ⟨some 114, none, .fldA 2 1 false (.t 113)⟩,
      ⟨some 115, none, .load 1 false (.t 114)⟩,
      ⟨some 116, none, .conv .i64 (.t 115)⟩,
      ⟨some 117, none, .fldA 2 3 true (.t 6)⟩,
      ⟨some 118, none, .fldA 0 1 false (.t 117)⟩,
      ⟨none, none, .store 1 (.t 118) (.t 116)⟩])
    (.seq (.region [⟨some 73, none, .mov (.t 8)⟩,
      ⟨some 74, none, .idxA 4 (.t 73) (.c (.int .i64 1))⟩,
      ⟨some 75, none, .fldA 3 1 false (.t 74)⟩,
      ⟨some 76, none, .load 1 false (.t 75)⟩,
      ⟨some 77, none, .call i_wire_Split [.t 76]⟩,
      ⟨some 72, none, .mov (.t 77)⟩,
      ⟨some 78, none, .ext 0 (.t 72)⟩,
      ⟨some 79, none, .ext 1 (.t 72)⟩,
      ⟨some 80, none, .fldA 5 1 false (.t 6)⟩,
      ⟨none, none, .store 1 (.t 80) (.t 78)⟩,
      ⟨some 9, none, .mov (.t 79)⟩])
    (.seq (.region [⟨some 81, none, .mov (.t 9)⟩,
      ⟨some 82, none, .bin false .neq (.t 81) (.c (.int .i64 0))⟩])
    (.cond (.t 82) (.seq (.region [⟨some 83, none, .build [.int .i64 0, .nil, .int .i64 0, .nil, .nil, .nil] []⟩,
      ⟨none, none, .store 6 (.t 6) (.t 83)⟩,
      ⟨some 7, none, .mov (.c (.bool false))⟩])
    .ret)
    .skip)))))))))
    (.seq (.region [⟨some 119, none, .load 6 true (.t 6)⟩,
      ⟨none, none, .store 6 (.t 6) (.t 119)⟩,
      ⟨some 7, none, .mov (.c (.bool true))⟩])
    .ret))))))))), [.cell 6 6 true, .tmp 7]⟩
theorem T_delta_step : trFn Tryz.prog [(0, [1, 1, 1, 0]), (16, [0, 0, 0, 0, 0, 0, 0, 0, 0, 0, 1, 0, 0]), (1000016, [10, 11, 1000000, 1000003, 1000005, 2000011])] Tryz.f102 = some A_delta_step := by kernel_rfl
theorem L_delta_step : 3 ≤ Tryz.f102.ntmps := by decide

/-! bytes.Equal -/
def A_bytes_Equal : AFn := ⟨(.seq (.region [⟨some 4, none, .mov (.c (.bool false))⟩])
    (.seq (.region [⟨some 5, none, .mov (.t 0)⟩,
      ⟨some 6, none, .b2s (.t 5)⟩,
      ⟨some 7, none, .mov (.t 1)⟩,
      ⟨some 8, none, .b2s (.t 7)⟩,
      ⟨some 9, none, .bin false .eql (.t 6) (.t 8)⟩,
      ⟨some 4, none, .mov (.t 9)⟩])
    .ret)), [.tmp 4]⟩
theorem T_bytes_Equal : trFn Tryz.prog [] Tryz.f103 = some A_bytes_Equal := by kernel_rfl
theorem L_bytes_Equal : 2 ≤ Tryz.f103.ntmps := by decide

/-! cartouche/wire.PutVarint -/
def A_wire_PutVarint : AFn := ⟨(.seq (.region [⟨some 2, none, .mov (.c (.nil))⟩])
    (.seq (.region [⟨some 3, none, .mov (.t 0)⟩,
      ⟨some 4, none, .call i_wire_Size [.t 3]⟩,
      ⟨some 5, none, .mks 0 5 1 1 (.int .u8 0) (.c (.int .i64 0)) (.t 4)⟩,
      ⟨some 6, none, .mov (.t 0)⟩,
      ⟨some 7, none, .call i_wire_varint [.t 5, .t 6]⟩,
      ⟨some 2, none, .mov (.t 7)⟩])
    .ret)), [.tmp 2]⟩
theorem T_wire_PutVarint : trFn Tryz.prog [] Tryz.f104 = some A_wire_PutVarint := by kernel_rfl
theorem L_wire_PutVarint : 1 ≤ Tryz.f104.ntmps := by decide

/-! cartouche/wire.PutFix32 -/
def A_wire_PutFix32 : AFn := ⟨(.seq (.region [⟨some 2, none, .mov (.c (.nil))⟩])
    (.seq (.region [⟨some 3, none, .mov (.t 0)⟩,
      ⟨some 4, none, .conv .u64 (.t 3)⟩,
      ⟨some 5, none, .call i_wire_word [.t 4, .c (.int .i64 4)]⟩,
      ⟨some 2, none, .mov (.t 5)⟩])
    .ret)), [.tmp 2]⟩
theorem T_wire_PutFix32 : trFn Tryz.prog [] Tryz.f105 = some A_wire_PutFix32 := by kernel_rfl
theorem L_wire_PutFix32 : 1 ≤ Tryz.f105.ntmps := by decide

/-! slices.EqualFunc[[]cartouche/api.Field,[]cartouche/api.Field,cartouche/api.Field,cartouche/api.Field] -/
def A_slices_EqualFunc_api_Field_api_Field_api_Field_api_Field : AFn := ⟨(.seq (.region [⟨some 6, none, .mov (.c (.bool false))⟩])
    (.seq (.seq (.region [⟨some 10, none, .mov (.t 0)⟩,
      ⟨some 11, none, .len false (.t 10)⟩,
      ⟨some 12, none, .mov (.t 1)⟩,
      ⟨some 13, none, .len false (.t 12)⟩,
      ⟨some 14, none, .bin false .neq (.t 11) (.t 13)⟩])
    (.cond (.t 14) (.seq (.region [⟨some 6, none, .mov (.c (.bool false))⟩])
    .ret)
    .skip))
    (.seq (.seq (.region [⟨some 15, none, .mov (.t 0)⟩,
      ⟨some 16, none, .len false (.t 15)⟩,
      ⟨some 17, none, .mov (.c (.int .i64 0))⟩])
    (.block 0 (.loop (.seq (.region [⟨some 18, none, .bin false .lss (.t 17) (.t 16)⟩])
    (.seq (.cond (.t 18) .skip
    (.exit 0))
    (.seq (.block 1 (.seq (.region [⟨some 19, none, .mov (.t 17)⟩,
      ⟨some 20, none, .idxA 3 (.t 15) (.t 17)⟩,
      ⟨some 21, none, .load 3 true (.t 20)⟩,
      ⟨some 8, none, .alloc 0 [.int .i64 0, .nil, .nil]⟩,
      ⟨some 7, none, .mov (.t 19)⟩,
      ⟨none, none, .store 3 (.t 8) (.t 21)⟩])
    (.seq (.region [⟨some 22, none, .mov (.t 1)⟩,
      ⟨some 23, none, .mov (.t 7)⟩,
      ⟨some 24, none, .idxA 3 (.t 22) (.t 23)⟩,
      ⟨some 25, none, .load 3 true (.t 24)⟩,
      ⟨some 9, none, .alloc 0 [.int .i64 0, .nil, .nil]⟩,
      ⟨none, none, .store 3 (.t 9) (.t 25)⟩])
    (.seq (.region [⟨some 26, none, .mov (.t 2)⟩,
      ⟨some 27, none, .load 3 true (.t 8)⟩,
      ⟨some 28, none, .load 3 true (.t 9)⟩,
      ⟨some 29, none, .callv (.t 26) [.t 27, .t 28]⟩,
      ⟨some 30, none, .un .not (.t 29)⟩])
    (.cond (.t 30) (.seq (.region [⟨some 6, none, .mov (.c (.bool false))⟩])
    .ret)
    .skip)))))
    (.region [⟨some 31, none, .bin false .add (.t 17) (.c (.int .i64 1))⟩,
      ⟨some 17, none, .mov (.t 31)⟩])))))))
    (.seq (.region [⟨some 6, none, .mov (.c (.bool true))⟩])
    .ret)))), [.tmp 6]⟩
theorem T_slices_EqualFunc_api_Field_api_Field_api_Field_api_Field : trFn Tryz.prog [(5, [0, 0, 0, 1, 0, 0]), (6, [0, 0, 0, 0, 1, 0])] Tryz.f115 = some A_slices_EqualFunc_api_Field_api_Field_api_Field_api_Field := by kernel_rfl
theorem L_slices_EqualFunc_api_Field_api_Field_api_Field_api_Field : 3 ≤ Tryz.f115.ntmps := by decide

/-! cartouche/model.Equal$1 -/
def A_model_Equal_1 : AFn := ⟨(.seq (.region [⟨some 2, none, .box 0 (.t 0)⟩,
      ⟨some 3, none, .box 0 (.t 1)⟩,
      ⟨some 4, none, .mov (.c (.bool false))⟩])
    (.seq (.region [⟨some 5, none, .fldA 0 1 false (.t 2)⟩,
      ⟨some 6, none, .load 1 false (.t 5)⟩,
      ⟨some 7, none, .fldA 0 1 false (.t 3)⟩,
      ⟨some 8, none, .load 1 false (.t 7)⟩,
      ⟨some 9, none, .bin false .eql (.t 6) (.t 8)⟩,
      ⟨some 10, none, .mov (.t 9)⟩,
      ⟨some 11, some (10, true), .fldA 1 1 false (.t 2)⟩,
      ⟨some 12, some (10, true), .load 1 false (.t 11)⟩,
      ⟨some 13, some (10, true), .fldA 1 1 false (.t 3)⟩,
      ⟨some 14, some (10, true), .load 1 false (.t 13)⟩,
      ⟨some 15, some (10, true), .call i_slices_EqualFunc_api_Val_api_Val_api_Val_api_Val [.t 12, .t 14, .c (.fn (.func 118) [] [])]⟩,
      ⟨some 16, none, .pickb (.t 10) (.t 15) (.c (.bool false))⟩,
      ⟨some 17, none, .mov (.t 16)⟩,
      ⟨some 18, some (17, true), .fldA 2 1 false (.t 2)⟩,
      ⟨some 19, some (17, true), .load 1 false (.t 18)⟩,
      ⟨some 20, some (17, true), .fldA 2 1 false (.t 3)⟩,
      ⟨some 21, some (17, true), .load 1 false (.t 20)⟩,
      ⟨some 22, some (17, true), .call i_slices_EqualFunc_api_Val_api_Val_api_Val_api_Val [.t 19, .t 21, .c (.fn (.func 118) [] [])]⟩,
      ⟨some 23, none, .pickb (.t 17) (.t 22) (.c (.bool false))⟩,
      ⟨some 4, none, .mov (.t 23)⟩])
    .ret)), [.tmp 4]⟩
theorem T_model_Equal_1 : trFn Tryz.prog [(0, [1, 1, 0])] Tryz.f116 = some A_model_Equal_1 := by kernel_rfl
theorem L_model_Equal_1 : 2 ≤ Tryz.f116.ntmps := by decide

/-! slices.EqualFunc[[]cartouche/api.Val,[]cartouche/api.Val,cartouche/api.Val,cartouche/api.Val] -/
def A_slices_EqualFunc_api_Val_api_Val_api_Val_api_Val : AFn := ⟨(.seq (.region [⟨some 6, none, .mov (.c (.bool false))⟩])
    (.seq (.seq (.region [⟨some 10, none, .mov (.t 0)⟩,
      ⟨some 11, none, .len false (.t 10)⟩,
      ⟨some 12, none, .mov (.t 1)⟩,
      ⟨some 13, none, .len false (.t 12)⟩,
      ⟨some 14, none, .bin false .neq (.t 11) (.t 13)⟩])
    (.cond (.t 14) (.seq (.region [⟨some 6, none, .mov (.c (.bool false))⟩])
    .ret)
    .skip))
    (.seq (.seq (.region [⟨some 15, none, .mov (.t 0)⟩,
      ⟨some 16, none, .len false (.t 15)⟩,
      ⟨some 17, none, .mov (.c (.int .i64 0))⟩])
    (.block 0 (.loop (.seq (.region [⟨some 18, none, .bin false .lss (.t 17) (.t 16)⟩])
    (.seq (.cond (.t 18) .skip
    (.exit 0))
    (.seq (.block 1 (.seq (.region [⟨some 19, none, .mov (.t 17)⟩,
      ⟨some 20, none, .idxA 3 (.t 15) (.t 17)⟩,
      ⟨some 21, none, .load 3 true (.t 20)⟩,
      ⟨some 8, none, .alloc 0 [.int .u64 0, .nil, .nil]⟩,
      ⟨some 7, none, .mov (.t 19)⟩,
      ⟨none, none, .store 3 (.t 8) (.t 21)⟩])
    (.seq (.region [⟨some 22, none, .mov (.t 1)⟩,
      ⟨some 23, none, .mov (.t 7)⟩,
      ⟨some 24, none, .idxA 3 (.t 22) (.t 23)⟩,
      ⟨some 25, none, .load 3 true (.t 24)⟩,
      ⟨some 9, none, .alloc 0 [.int .u64 0, .nil, .nil]⟩,
      ⟨none, none, .store 3 (.t 9) (.t 25)⟩])
    (.seq (.region [⟨some 26, none, .mov (.t 2)⟩,
      ⟨some 27, none, .load 3 true (.t 8)⟩,
      ⟨some 28, none, .load 3 true (.t 9)⟩,
      ⟨some 29, none, .callv (.t 26) [.t 27, .t 28]⟩,
      ⟨some 30, none, .un .not (.t 29)⟩])
    (.cond (.t 30) (.seq (.region [⟨some 6, none, .mov (.c (.bool false))⟩])
    .ret)
    .skip)))))
    (.region [⟨some 31, none, .bin false .add (.t 17) (.c (.int .i64 1))⟩,
      ⟨some 17, none, .mov (.t 31)⟩])))))))
    (.seq (.region [⟨some 6, none, .mov (.c (.bool true))⟩])
    .ret)))), [.tmp 6]⟩
theorem T_slices_EqualFunc_api_Val_api_Val_api_Val_api_Val : trFn Tryz.prog [(5, [0, 0, 0, 1, 0, 0]), (6, [0, 0, 0, 0, 1, 0])] Tryz.f117 = some A_slices_EqualFunc_api_Val_api_Val_api_Val_api_Val := by kernel_rfl
theorem L_slices_EqualFunc_api_Val_api_Val_api_Val_api_Val : 3 ≤ Tryz.f117.ntmps := by decide

/-! cartouche/model.equalVal -/
def A_model_equalVal : AFn := ⟨(.seq (.region [⟨some 2, none, .box 0 (.t 0)⟩,
      ⟨some 3, none, .box 0 (.t 1)⟩,
      ⟨some 4, none, .mov (.c (.bool false))⟩])
    (.seq (.region [⟨some 5, none, .fldA 0 1 false (.t 2)⟩,
      ⟨some 6, none, .load 1 false (.t 5)⟩,
      ⟨some 7, none, .fldA 0 1 false (.t 3)⟩,
      ⟨some 8, none, .load 1 false (.t 7)⟩,
      ⟨some 9, none, .bin false .eql (.t 6) (.t 8)⟩,
      ⟨some 10, none, .mov (.t 9)⟩,
      ⟨some 11, some (10, true), .fldA 1 1 false (.t 2)⟩,
      ⟨some 12, some (10, true), .load 1 false (.t 11)⟩,
      ⟨some 13, some (10, true), .fldA 1 1 false (.t 3)⟩,
      ⟨some 14, some (10, true), .load 1 false (.t 13)⟩,
      ⟨some 15, some (10, true), .call i_bytes_Equal [.t 12, .t 14]⟩,
      ⟨some 16, none, .pickb (.t 10) (.t 15) (.c (.bool false))⟩,
      ⟨some 17, none, .mov (.t 16)⟩,
      ⟨some 18, some (17, true), .fldA 2 1 false (.t 2)⟩,
      ⟨some 19, some (17, true), .load 1 false (.t 18)⟩,
      ⟨some 20, some (17, true), .fldA 2 1 false (.t 3)⟩,
      ⟨some 21, some (17, true), .load 1 false (.t 20)⟩,
      ⟨some 22, some (17, true), .call i_slices_EqualFunc_api_Msg_api_Msg_api_Msg_api_Msg [.t 19, .t 21, .c (.fn (.func 64) [] [])]⟩,
      ⟨some 23, none, .pickb (.t 17) (.t 22) (.c (.bool false))⟩,
      ⟨some 4, none, .mov (.t 23)⟩])
    .ret)), [.tmp 4]⟩
theorem T_model_equalVal : trFn Tryz.prog [(0, [1, 1, 0])] Tryz.f118 = some A_model_equalVal := by kernel_rfl
theorem L_model_equalVal : 2 ≤ Tryz.f118.ntmps := by decide

/-! slices.EqualFunc[[]cartouche/api.Entry,[]cartouche/api.Entry,cartouche/api.Entry,cartouche/api.Entry] -/
def A_slices_EqualFunc_api_Entry_api_Entry_api_Entry_api_Entry : AFn := ⟨(.seq (.region [⟨some 6, none, .mov (.c (.bool false))⟩])
    (.seq (.seq (.region [⟨some 10, none, .mov (.t 0)⟩,
      ⟨some 11, none, .len false (.t 10)⟩,
      ⟨some 12, none, .mov (.t 1)⟩,
      ⟨some 13, none, .len false (.t 12)⟩,
      ⟨some 14, none, .bin false .neq (.t 11) (.t 13)⟩])
    (.cond (.t 14) (.seq (.region [⟨some 6, none, .mov (.c (.bool false))⟩])
    .ret)
    .skip))
    (.seq (.seq (.region [⟨some 15, none, .mov (.t 0)⟩,
      ⟨some 16, none, .len false (.t 15)⟩,
      ⟨some 17, none, .mov (.c (.int .i64 0))⟩])
    (.block 0 (.loop (.seq (.region [⟨some 18, none, .bin false .lss (.t 17) (.t 16)⟩])
    (.seq (.cond (.t 18) .skip
    (.exit 0))
    (.seq (.block 1 (.seq (.region [⟨some 19, none, .mov (.t 17)⟩,
      ⟨some 20, none, .idxA 4 (.t 15) (.t 17)⟩,
      ⟨some 21, none, .load 4 true (.t 20)⟩,
      ⟨some 8, none, .alloc 0 [.int .i64 0, .int .i64 0, .int .u64 0, .nil]⟩,
      ⟨some 7, none, .mov (.t 19)⟩,
      ⟨none, none, .store 4 (.t 8) (.t 21)⟩])
    (.seq (.region [⟨some 22, none, .mov (.t 1)⟩,
      ⟨some 23, none, .mov (.t 7)⟩,
      ⟨some 24, none, .idxA 4 (.t 22) (.t 23)⟩,
      ⟨some 25, none, .load 4 true (.t 24)⟩,
      ⟨some 9, none, .alloc 0 [.int .i64 0, .int .i64 0, .int .u64 0, .nil]⟩,
      ⟨none, none, .store 4 (.t 9) (.t 25)⟩])
    (.seq (.region [⟨some 26, none, .mov (.t 2)⟩,
      ⟨some 27, none, .load 4 true (.t 8)⟩,
      ⟨some 28, none, .load 4 true (.t 9)⟩,
      ⟨some 29, none, .callv (.t 26) [.t 27, .t 28]⟩,
      ⟨some 30, none, .un .not (.t 29)⟩])
    (.cond (.t 30) (.seq (.region [⟨some 6, none, .mov (.c (.bool false))⟩])
    .ret)
    .skip)))))
    (.region [⟨some 31, none, .bin false .add (.t 17) (.c (.int .i64 1))⟩,
      ⟨some 17, none, .mov (.t 31)⟩])))))))
    (.seq (.region [⟨some 6, none, .mov (.c (.bool true))⟩])
    .ret)))), [.tmp 6]⟩
theorem T_slices_EqualFunc_api_Entry_api_Entry_api_Entry_api_Entry : trFn Tryz.prog [(5, [0, 0, 0, 1, 0, 0]), (6, [0, 0, 0, 0, 1, 0])] Tryz.f119 = some A_slices_EqualFunc_api_Entry_api_Entry_api_Entry_api_Entry := by kernel_rfl
theorem L_slices_EqualFunc_api_Entry_api_Entry_api_Entry_api_Entry : 3 ≤ Tryz.f119.ntmps := by decide

/-! cartouche/model.Equal$2 -/
def A_model_Equal_2 : AFn := ⟨(.seq (.region [⟨some 2, none, .box 0 (.t 0)⟩,
      ⟨some 3, none, .box 0 (.t 1)⟩,
      ⟨some 4, none, .mov (.c (.bool false))⟩])
    (.seq (.region [⟨some 5, none, .fldA 0 1 false (.t 2)⟩,
      ⟨some 6, none, .load 1 false (.t 5)⟩,
      ⟨some 7, none, .fldA 0 1 false (.t 3)⟩,
      ⟨some 8, none, .load 1 false (.t 7)⟩,
      ⟨some 9, none, .bin false .eql (.t 6) (.t 8)⟩,
      ⟨some 10, none, .mov (.t 9)⟩,
      ⟨some 11, some (10, true), .fldA 1 1 false (.t 2)⟩,
      ⟨some 12, some (10, true), .load 1 false (.t 11)⟩,
      ⟨some 13, some (10, true), .fldA 1 1 false (.t 3)⟩,
      ⟨some 14, some (10, true), .load 1 false (.t 13)⟩,
      ⟨some 15, some (10, true), .bin false .eql (.t 12) (.t 14)⟩,
      ⟨some 16, none, .pickb (.t 10) (.t 15) (.c (.bool false))⟩,
      ⟨some 17, none, .mov (.t 16)⟩,
      ⟨some 18, some (17, true), .fldA 2 1 false (.t 2)⟩,
      ⟨some 19, some (17, true), .load 1 false (.t 18)⟩,
      ⟨some 20, some (17, true), .fldA 2 1 false (.t 3)⟩,
      ⟨some 21, some (17, true), .load 1 false (.t 20)⟩,
      ⟨some 22, some (17, true), .bin false .eql (.t 19) (.t 21)⟩,
      ⟨some 23, none, .pickb (.t 17) (.t 22) (.c (.bool false))⟩,
      ⟨some 24, none, .mov (.t 23)⟩,
      ⟨some 25, some (24, true), .fldA 3 1 false (.t 2)⟩,
      ⟨some 26, some (24, true), .load 1 false (.t 25)⟩,
      ⟨some 27, some (24, true), .fldA 3 1 false (.t 3)⟩,
      ⟨some 28, some (24, true), .load 1 false (.t 27)⟩,
      ⟨some 29, some (24, true), .call i_bytes_Equal [.t 26, .t 28]⟩,
      ⟨some 30, none, .pickb (.t 24) (.t 29) (.c (.bool false))⟩,
      ⟨some 4, none, .mov (.t 30)⟩])
    .ret)), [.tmp 4]⟩
theorem T_model_Equal_2 : trFn Tryz.prog [(0, [1, 1, 0])] Tryz.f120 = some A_model_Equal_2 := by kernel_rfl
theorem L_model_Equal_2 : 2 ≤ Tryz.f120.ntmps := by decide

/-! cartouche/table.IsMessage -/
def A_table_IsMessage : AFn := ⟨(.seq (.region [⟨some 2, none, .box 0 (.t 0)⟩,
      ⟨some 4, none, .mov (.c (.bool false))⟩])
    (.seq (.region [⟨some 5, none, .load 1 true (.t 2)⟩,
      ⟨some 6, none, .call i_table_Good [.t 5]⟩,
      ⟨some 7, none, .mov (.t 6)⟩,
      ⟨some 8, some (7, true), .load 1 true (.t 2)⟩,
      ⟨some 9, some (7, true), .mov (.t 1)⟩,
      ⟨some 10, some (7, true), .call i_table_sort [.t 8, .t 9, .c (.bool false)]⟩,
      ⟨some 11, none, .pickb (.t 7) (.t 10) (.c (.bool false))⟩,
      ⟨some 4, none, .mov (.t 11)⟩])
    .ret)), [.tmp 4]⟩
theorem T_table_IsMessage : trFn Tryz.prog [(0, [1, 0])] Tryz.f121 = some A_table_IsMessage := by kernel_rfl
theorem L_table_IsMessage : 2 ≤ Tryz.f121.ntmps := by decide

/-! cartouche/model.typed -/
def A_model_typed : AFn := ⟨(.seq (.region [⟨some 3, none, .box 0 (.t 0)⟩,
      ⟨some 5, none, .box 0 (.t 2)⟩,
      ⟨some 6, none, .mov (.c (.bool false))⟩])
    (.seq (.region [⟨some 18, none, .fldA 0 1 false (.t 3)⟩,
      ⟨some 19, none, .load 1 false (.t 18)⟩,
      ⟨some 20, none, .mov (.t 1)⟩,
      ⟨some 21, none, .idxA 6 (.t 19) (.t 20)⟩,
      ⟨some 22, none, .load 6 true (.t 21)⟩,
      ⟨some 7, none, .alloc 0 [.str ⟨#[]⟩, .bool false, .nil, .nil, .nil, .nil]⟩,
      ⟨none, none, .store 6 (.t 7) (.t 22)⟩])
    (.seq (.region [⟨some 23, none, .fldA 3 1 false (.t 7)⟩,
      ⟨some 24, none, .load 1 false (.t 23)⟩,
      ⟨some 25, none, .len false (.t 24)⟩,
      ⟨some 26, none, .mks 0 3 1 8 (.int .i64 0) (.t 25) (.t 25)⟩,
      ⟨some 8, none, .mov (.t 26)⟩])
    (.seq (.region [⟨some 9, none, .mov (.c (.int .i64 0))⟩])
    (.seq (.seq (.region [⟨some 27, none, .fldA 0 1 false (.t 5)⟩,
      ⟨some 28, none, .load 1 false (.t 27)⟩,
      ⟨some 29, none, .len false (.t 28)⟩,
      ⟨some 30, none, .mov (.c (.int .i64 0))⟩])
    (.block 0 (.loop (.seq (.region [⟨some 31, none, .bin false .lss (.t 30) (.t 29)⟩])
    (.seq (.cond (.t 31) .skip
    (.exit 0))
    (.seq (.block 1 (.seq (.region [⟨some 32, none, .idxA 3 (.t 28) (.t 30)⟩,
      ⟨some 33, none, .load 3 true (.t 32)⟩,
      ⟨some 11, none, .alloc 0 [.int .i64 0, .nil, .nil]⟩,
      ⟨none, none, .store 3 (.t 11) (.t 33)⟩])
    (.seq (.region [⟨some 35, none, .load 6 true (.t 7)⟩,
      ⟨some 36, none, .fldA 0 1 false (.t 11)⟩,
      ⟨some 37, none, .load 1 false (.t 36)⟩,
      ⟨some 38, none, .call i_table_At [.t 35, .t 37]⟩,
      ⟨some 34, none, .mov (.t 38)⟩,
      ⟨some 39, none, .ext 0 (.t 34)⟩,
      ⟨some 40, none, .ext 1 (.t 34)⟩,
      ⟨some 12, none, .alloc 0 [.str ⟨#[]⟩, .int .i64 0, .int .i64 0, .int .i64 0, .int .i64 0, .int .i64 0, .int .i64 0]⟩,
      ⟨none, none, .store 7 (.t 12) (.t 39)⟩,
      ⟨some 13, none, .mov (.t 40)⟩])
    (.seq (.seq (.region [⟨some 41, none, .mov (.t 13)⟩,
      ⟨some 42, none, .un .not (.t 41)⟩,
      ⟨some 43, none, .mov (.t 42)⟩,
      ⟨some 44, some (43, false), .fldA 0 1 false (.t 11)⟩,
      ⟨some 45, some (43, false), .load 1 false (.t 44)⟩,
      ⟨some 46, some (43, false), .mov (.t 9)⟩,
      ⟨some 47, some (43, false), .bin false .leq (.t 45) (.t 46)⟩,
      ⟨some 48, none, .pickb (.t 43) (.c (.bool true)) (.t 47)⟩,
      ⟨some 49, none, .mov (.t 48)⟩,
      ⟨some 50, some (49, false), .load 1 true (.t 3)⟩,
      ⟨some 51, some (49, false), .load 7 true (.t 12)⟩,
      ⟨some 52, some (49, false), .load 3 true (.t 11)⟩,
      ⟨some 53, some (49, false), .call i_model_typedField [.t 50, .t 51, .t 52]⟩,
      ⟨some 54, some (49, false), .un .not (.t 53)⟩,
      ⟨some 55, none, .pickb (.t 49) (.c (.bool true)) (.t 54)⟩])
    (.cond (.t 55) (.seq (.region [⟨some 6, none, .mov (.c (.bool false))⟩])
    .ret)
    .skip))
    (.seq (.region [⟨some 56, none, .fldA 0 1 false (.t 11)⟩,
      ⟨some 57, none, .load 1 false (.t 56)⟩,
      ⟨some 9, none, .mov (.t 57)⟩])
    (.seq (.region [⟨some 58, none, .fldA 4 1 false (.t 12)⟩,
      ⟨some 59, none, .load 1 false (.t 58)⟩,
      ⟨some 60, none, .bin false .eql (.t 59) (.c (.int .i64 4))⟩])
    (.cond (.t 60) (.seq (.region [⟨some 61, none, .mov (.t 8)⟩,
      ⟨some 62, none, .fldA 5 1 false (.t 12)⟩,
      ⟨some 63, none, .load 1 false (.t 62)⟩,
      ⟨some 64, none, .idxA 1 (.t 61) (.t 63)⟩,
      ⟨some 65, none, .load 1 false (.t 64)⟩,
      ⟨some 66, none, .bin false .add (.t 65) (.c (.int .i64 1))⟩,
      ⟨some 67, none, .idxA 1 (.t 61) (.t 63)⟩,
      ⟨none, none, .store 1 (.t 67) (.t 66)⟩])
    (.seq (.region [⟨some 68, none, .mov (.t 8)⟩,
      ⟨some 69, none, .fldA 5 1 false (.t 12)⟩,
      ⟨some 70, none, .load 1 false (.t 69)⟩,
      ⟨some 71, none, .idxA 1 (.t 68) (.t 70)⟩,
      ⟨some 72, none, .load 1 false (.t 71)⟩,
      ⟨some 73, none, .bin false .gtr (.t 72) (.c (.int .i64 1))⟩])
    (.cond (.t 73) (.seq (.region [⟨some 6, none, .mov (.c (.bool false))⟩])
    .ret)
    .skip)))
    .skip)))))))
    (.region [⟨some 74, none, .bin false .add (.t 30) (.c (.int .i64 1))⟩,
      ⟨some 30, none, .mov (.t 74)⟩])))))))
    (.seq (.seq (.region [⟨some 75, none, .fldA 1 1 false (.t 5)⟩,
      ⟨some 76, none, .load 1 false (.t 75)⟩,
      ⟨some 77, none, .len false (.t 76)⟩,
      ⟨some 78, none, .mov (.c (.int .i64 0))⟩])
    (.block 2 (.loop (.seq (.region [⟨some 79, none, .bin false .lss (.t 78) (.t 77)⟩])
    (.seq (.cond (.t 79) .skip
    (.exit 2))
    (.seq (.block 3 (.seq (.region [⟨some 80, none, .idxA 4 (.t 76) (.t 78)⟩,
      ⟨some 81, none, .load 4 true (.t 80)⟩,
      ⟨some 15, none, .alloc 0 [.int .i64 0, .int .i64 0, .int .u64 0, .nil]⟩,
      ⟨none, none, .store 4 (.t 15) (.t 81)⟩])
    (.seq (.region [⟨some 83, none, .load 4 true (.t 15)⟩,
      ⟨some 84, none, .call i_wire_PutEntry [.t 83]⟩,
      ⟨some 82, none, .mov (.t 84)⟩,
      ⟨some 85, none, .ext 0 (.t 82)⟩,
      ⟨some 86, none, .ext 1 (.t 82)⟩,
      ⟨some 16, none, .mov (.t 85)⟩,
      ⟨some 17, none, .mov (.t 86)⟩])
    (.seq (.region [⟨some 87, none, .mov (.t 17)⟩,
      ⟨some 88, none, .bin false .neq (.t 87) (.c (.int .i64 0))⟩])
    (.cond (.t 88) (.seq (.region [⟨some 6, none, .mov (.c (.bool false))⟩])
    .ret)
    .skip)))))
    (.region [⟨some 89, none, .bin false .add (.t 78) (.c (.int .i64 1))⟩,
      ⟨some 78, none, .mov (.t 89)⟩])))))))
    (.seq (.region [⟨some 6, none, .mov (.c (.bool true))⟩])
    .ret))))))), [.tmp 6]⟩
theorem T_model_typed : trFn Tryz.prog [(0, [1, 1, 0]), (1, [0, 0, 0, 0, 0, 1, 0]), (6, [0, 0, 1, 0]), (7, [0, 0, 0, 0, 0, 0, 0, 1, 0, 0]), (18, [0, 0, 1, 0])] Tryz.f122 = some A_model_typed := by kernel_rfl
theorem L_model_typed : 3 ≤ Tryz.f122.ntmps := by decide

/-! cartouche/model.normal -/
def A_model_normal : AFn := ⟨(.seq (.region [⟨some 3, none, .box 0 (.t 0)⟩,
      ⟨some 5, none, .box 0 (.t 2)⟩,
      ⟨some 6, none, .mov (.c (.bool false))⟩])
    (.seq (.region [⟨some 12, none, .fldA 0 1 false (.t 3)⟩,
      ⟨some 13, none, .load 1 false (.t 12)⟩,
      ⟨some 14, none, .mov (.t 1)⟩,
      ⟨some 15, none, .idxA 6 (.t 13) (.t 14)⟩,
      ⟨some 16, none, .load 6 true (.t 15)⟩,
      ⟨some 7, none, .alloc 0 [.str ⟨#[]⟩, .bool false, .nil, .nil, .nil, .nil]⟩,
      ⟨none, none, .store 6 (.t 7) (.t 16)⟩])
    (.seq (.seq (.region [⟨some 17, none, .fldA 0 1 false (.t 5)⟩,
      ⟨some 18, none, .load 1 false (.t 17)⟩,
      ⟨some 19, none, .len false (.t 18)⟩,
      ⟨some 20, none, .mov (.c (.int .i64 0))⟩])
    (.block 0 (.loop (.seq (.region [⟨some 21, none, .bin false .lss (.t 20) (.t 19)⟩])
    (.seq (.cond (.t 21) .skip
    (.exit 0))
    (.seq (.block 1 (.seq (.region [⟨some 22, none, .idxA 3 (.t 18) (.t 20)⟩,
      ⟨some 23, none, .load 3 true (.t 22)⟩,
      ⟨some 9, none, .alloc 0 [.int .i64 0, .nil, .nil]⟩,
      ⟨none, none, .store 3 (.t 9) (.t 23)⟩])
    (.seq (.region [⟨some 25, none, .load 6 true (.t 7)⟩,
      ⟨some 26, none, .fldA 0 1 false (.t 9)⟩,
      ⟨some 27, none, .load 1 false (.t 26)⟩,
      ⟨some 28, none, .call i_table_At [.t 25, .t 27]⟩,
      ⟨some 24, none, .mov (.t 28)⟩,
      ⟨some 29, none, .ext 0 (.t 24)⟩,
      ⟨some 30, none, .ext 1 (.t 24)⟩,
      ⟨some 10, none, .alloc 0 [.str ⟨#[]⟩, .int .i64 0, .int .i64 0, .int .i64 0, .int .i64 0, .int .i64 0, .int .i64 0]⟩,
      ⟨none, none, .store 7 (.t 10) (.t 29)⟩,
      ⟨some 11, none, .mov (.t 30)⟩])
    (.seq (.seq (.region [⟨some 31, none, .load 7 true (.t 10)⟩,
      ⟨some 32, none, .load 3 true (.t 9)⟩,
      ⟨some 33, none, .call i_model_told [.t 31, .t 32]⟩,
      ⟨some 34, none, .un .not (.t 33)⟩])
    (.cond (.t 34) (.seq (.region [⟨some 6, none, .mov (.c (.bool false))⟩])
    .ret)
    .skip))
    (.seq (.region [⟨some 35, none, .fldA 2 1 false (.t 10)⟩,
      ⟨some 36, none, .load 1 false (.t 35)⟩,
      ⟨some 37, none, .bin false .eql (.t 36) (.c (.int .i64 17))⟩,
      ⟨some 38, none, .mov (.t 37)⟩,
      ⟨some 39, some (38, true), .fldA 2 1 false (.t 9)⟩,
      ⟨some 40, some (38, true), .load 1 false (.t 39)⟩,
      ⟨some 41, some (38, true), .mkfn (.func 175) [] [.t 3, .t 10]⟩,
      ⟨some 42, some (38, true), .call i_slices_ContainsFunc_api_Val_api_Val [.t 40, .t 41]⟩,
      ⟨some 43, none, .pickb (.t 38) (.t 42) (.c (.bool false))⟩])
    (.cond (.t 43) (.seq (.region [⟨some 6, none, .mov (.c (.bool false))⟩])
    .ret)
    .skip))))))
    (.region [⟨some 44, none, .bin false .add (.t 20) (.c (.int .i64 1))⟩,
      ⟨some 20, none, .mov (.t 44)⟩])))))))
    (.seq (.region [⟨some 45, none, .fldA 1 1 false (.t 5)⟩,
      ⟨some 46, none, .load 1 false (.t 45)⟩,
      ⟨some 47, none, .mkfn (.func 177) [] [.t 7]⟩,
      ⟨some 48, none, .call i_slices_ContainsFunc_api_Entry_api_Entry [.t 46, .t 47]⟩,
      ⟨some 49, none, .un .not (.t 48)⟩,
      ⟨some 6, none, .mov (.t 49)⟩])
    .ret)))), [.tmp 6]⟩
theorem T_model_normal : trFn Tryz.prog [(0, [1, 1, 0]), (1, [0, 0, 0, 0, 0, 1, 0]), (4, [0, 0, 1, 0]), (5, [0, 0, 0, 0, 0, 0, 0, 1, 0, 0])] Tryz.f123 = some A_model_normal := by kernel_rfl
theorem L_model_normal : 3 ≤ Tryz.f123.ntmps := by decide

/-! slices.DeleteFunc[[]cartouche/api.Field,cartouche/api.Field] -/
def A_slices_DeleteFunc_api_Field_api_Field : AFn := ⟨(.seq (.region [⟨some 4, none, .mov (.c (.nil))⟩])
    (.seq (.region [⟨some 8, none, .mov (.t 0)⟩,
      ⟨some 9, none, .mov (.t 1)⟩,
      ⟨some 10, none, .call i_slices_IndexFunc_api_Field_api_Field [.t 8, .t 9]⟩,
      ⟨some 5, none, .mov (.t 10)⟩])
    (.seq (.seq (.region [⟨some 11, none, .mov (.t 5)⟩,
      ⟨some 12, none, .bin false .eql (.t 11) (.c (.int .i64 (-1)))⟩])
    (.cond (.t 12) (.seq (.region [⟨some 13, none, .mov (.t 0)⟩,
      ⟨some 4, none, .mov (.t 13)⟩])
    .ret)
    .skip))
    (.seq (.seq (.region [⟨some 14, none, .mov (.t 5)⟩,
      ⟨some 15, none, .bin false .add (.t 14) (.c (.int .i64 1))⟩,
      ⟨some 6, none, .mov (.t 15)⟩])
    (.block 0 (.loop (.seq (.seq (.region [⟨some 16, none, .mov (.t 6)⟩,
      ⟨some 17, none, .mov (.t 0)⟩,
      ⟨some 18, none, .len false (.t 17)⟩,
      ⟨some 19, none, .bin false .lss (.t 16) (.t 18)⟩])
    (.cond (.t 19) .skip
    (.exit 0)))
    (.seq (.block 1 (.seq (.region [⟨some 22, none, .mov (.t 0)⟩,
      ⟨some 23, none, .mov (.t 6)⟩,
      ⟨some 24, none, .idxA 3 (.t 22) (.t 23)⟩,
      ⟨some 25, none, .load 3 true (.t 24)⟩,
      ⟨some 7, none, .alloc 0 [.int .i64 0, .nil, .nil]⟩,
      ⟨none, none, .store 3 (.t 7) (.t 25)⟩])
    (.seq (.region [⟨some 26, none, .mov (.t 1)⟩,
      ⟨some 27, none, .load 3 true (.t 7)⟩,
      ⟨some 28, none, .callv (.t 26) [.t 27]⟩,
      ⟨some 29, none, .un .not (.t 28)⟩])
    (.cond (.t 29) (.seq (.region [⟨some 30, none, .mov (.t 0)⟩,
      ⟨some 31, none, .mov (.t 5)⟩,
      ⟨some 32, none, .load 3 true (.t 7)⟩,
      ⟨some 33, none, .idxA 3 (.t 30) (.t 31)⟩,
      ⟨none, none, .store 3 (.t 33) (.t 32)⟩])
    (.region [⟨some 34, none, .mov (.t 5)⟩,
      ⟨some 35, none, .bin false .add (.t 34) (.c (.int .i64 1))⟩,
      ⟨some 5, none, .mov (.t 35)⟩]))
    .skip))))
    (.region [⟨some 20, none, .mov (.t 6)⟩,
      ⟨some 21, none, .bin false .add (.t 20) (.c (.int .i64 1))⟩,
      ⟨some 6, none, .mov (.t 21)⟩]))))))
    (.seq (.region [⟨some 36, none, .mov (.t 0)⟩,
      ⟨some 37, none, .mov (.t 5)⟩,
      ⟨some 38, none, .slcT 0 3 (.t 36) (.t 37)⟩,
      ⟨none, none, .clr 3 (.agg [.int .i64 0, .nil, .nil]) (.t 38)⟩])
    (.seq (.region [⟨some 39, none, .mov (.t 0)⟩,
      ⟨some 40, none, .mov (.t 5)⟩,
      ⟨some 41, none, .slcH 3 (.t 39) (.t 40)⟩,
      ⟨some 4, none, .mov (.t 41)⟩])
    .ret)))))), [.tmp 4]⟩
theorem T_slices_DeleteFunc_api_Field_api_Field : trFn Tryz.prog [(7, [0, 0, 0, 0, 1, 0]), (11, [0, 0, 1000, 902]), (12, [0, 0, 901, 0])] Tryz.f124 = some A_slices_DeleteFunc_api_Field_api_Field := by kernel_rfl
theorem L_slices_DeleteFunc_api_Field_api_Field : 2 ≤ Tryz.f124.ntmps := by decide

/-! cartouche/table.At -/
def A_table_At : AFn := ⟨(.seq (.region [⟨some 2, none, .box 0 (.t 0)⟩,
      ⟨some 4, none, .alloc 0 [.str ⟨#[]⟩, .int .i64 0, .int .i64 0, .int .i64 0, .int .i64 0, .int .i64 0, .int .i64 0]⟩,
      ⟨some 5, none, .mov (.c (.bool false))⟩])
    (.seq (.draw [1, 2] [⟨some 9, none, .fldA 2 1 false (.t 2)⟩,
      ⟨some 10, none, .load 1 false (.t 9)⟩,
      ⟨some 11, none, .len false (.t 10)⟩,
      ⟨some 6, none, .mov (.c (.int .i64 0))⟩,
      ⟨some 7, none, .mov (.t 11)⟩])
    (.seq (.block 0 (.loop (.seq (.seq (.region [⟨some 12, none, .mov (.t 6)⟩,
      ⟨some 13, none, .mov (.t 7)⟩,
      ⟨some 14, none, .bin false .lss (.t 12) (.t 13)⟩])
    (.cond (.t 14) .skip
    (.exit 0)))
    (.block 1 (.seq (.region [⟨some 15, none, .mov (.t 6)⟩,
      ⟨some 16, none, .mov (.t 7)⟩,
      ⟨some 17, none, .bin false .add (.t 15) (.t 16)⟩,
      ⟨some 18, none, .bin false .quo (.t 17) (.c (.int .i64 2))⟩,
      ⟨some 8, none, .mov (.t 18)⟩])
    (.seq (.region [⟨some 19, none, .fldA 2 1 false (.t 2)⟩,
      ⟨some 20, none, .load 1 false (.t 19)⟩,
      ⟨some 21, none, .mov (.t 8)⟩,
      ⟨some 22, none, .idxA 7 (.t 20) (.t 21)⟩,
      ⟨some 23, none, .fldA 1 1 false (.t 22)⟩,
      ⟨some 24, none, .load 1 false (.t 23)⟩,
      ⟨some 25, none, .mov (.t 1)⟩,
      ⟨some 26, none, .bin false .lss (.t 24) (.t 25)⟩])
    (.cond (.t 26) (.region [⟨some 27, none, .mov (.t 8)⟩,
      ⟨some 28, none, .bin false .add (.t 27) (.c (.int .i64 1))⟩,
      ⟨some 6, none, .mov (.t 28)⟩])
    (.region [⟨some 29, none, .mov (.t 8)⟩,
      ⟨some 7, none, .mov (.t 29)⟩]))))))))
    (.seq (.seq (.region [⟨some 30, none, .mov (.t 6)⟩,
      ⟨some 31, none, .fldA 2 1 false (.t 2)⟩,
      ⟨some 32, none, .load 1 false (.t 31)⟩,
      ⟨some 33, none, .len false (.t 32)⟩,
      ⟨some 34, none, .bin false .eql (.t 30) (.t 33)⟩,
      ⟨some 35, none, .mov (.t 34)⟩,
      ⟨some 36, some (35, false), .fldA 2 1 false (.t 2)⟩,
      ⟨some 37, some (35, false), .load 1 false (.t 36)⟩,
      ⟨some 38, some (35, false), .mov (.t 6)⟩,
      ⟨some 39, some (35, false), .idxA 7 (.t 37) (.t 38)⟩,
      ⟨some 40, some (35, false), .fldA 1 1 false (.t 39)⟩,
      ⟨some 41, some (35, false), .load 1 false (.t 40)⟩,
      ⟨some 42, some (35, false), .mov (.t 1)⟩,
      ⟨some 43, some (35, false), .bin false .neq (.t 41) (.t 42)⟩,
      ⟨some 44, none, .pickb (.t 35) (.c (.bool true)) (.t 43)⟩])
    (.cond (.t 44) (.seq (.region [⟨some 45, none, .build [.str ⟨#[]⟩, .int .i64 0, .int .i64 0, .int .i64 0, .int .i64 0, .int .i64 0, .int .i64 0] []⟩,
      ⟨none, none, .store 7 (.t 4) (.t 45)⟩,
      ⟨some 5, none, .mov (.c (.bool false))⟩])
    .ret)
    .skip))
    (.seq (.region [⟨some 46, none, .fldA 2 1 false (.t 2)⟩,
      ⟨some 47, none, .load 1 false (.t 46)⟩,
      ⟨some 48, none, .mov (.t 6)⟩,
      ⟨some 49, none, .idxA 7 (.t 47) (.t 48)⟩,
      ⟨some 50, none, .load 7 true (.t 49)⟩,
      ⟨none, none, .store 7 (.t 4) (.t 50)⟩,
      ⟨some 5, none, .mov (.c (.bool true))⟩])
    .ret))))), [.cell 4 7 true, .tmp 5]⟩
theorem T_table_At : trFn Tryz.prog [(0, [1, 1, 0]), (1000001, [1, 2])] Tryz.f126 = some A_table_At := by kernel_rfl
theorem L_table_At : 2 ≤ Tryz.f126.ntmps := by decide

/-! cartouche/model.told -/
def A_model_told : AFn := ⟨(.seq (.region [⟨some 2, none, .box 0 (.t 0)⟩,
      ⟨some 3, none, .box 0 (.t 1)⟩,
      ⟨some 4, none, .mov (.c (.bool false))⟩])
    (.seq (.seq (.region [⟨some 5, none, .fldA 4 1 false (.t 2)⟩,
      ⟨some 6, none, .load 1 false (.t 5)⟩])
    (.block 0 (.seq (.region [⟨some 8, none, .bin false .eql (.t 6) (.c (.int .i64 0))⟩,
      ⟨some 7, none, .mov (.t 8)⟩])
    (.cond (.t 7) (.seq (.region [⟨some 9, none, .fldA 2 1 false (.t 3)⟩,
      ⟨some 10, none, .load 1 false (.t 9)⟩,
      ⟨some 11, none, .idxA 3 (.t 10) (.c (.int .i64 0))⟩,
      ⟨some 12, none, .load 3 true (.t 11)⟩,
      ⟨some 13, none, .call i_model_Nothing [.t 12]⟩,
      ⟨some 14, none, .un .not (.t 13)⟩,
      ⟨some 4, none, .mov (.t 14)⟩])
    .ret)
    (.seq (.seq (.region [⟨some 16, none, .bin false .eql (.t 6) (.c (.int .i64 2))⟩,
      ⟨some 15, none, .mov (.t 16)⟩])
    (.cond (.t 15) .skip
    (.seq (.region [⟨some 17, none, .bin false .eql (.t 6) (.c (.int .i64 3))⟩,
      ⟨some 15, none, .mov (.t 17)⟩])
    (.cond (.t 15) .skip
    (.region [⟨some 18, none, .bin false .eql (.t 6) (.c (.int .i64 5))⟩,
      ⟨some 15, none, .mov (.t 18)⟩])))))
    (.cond (.t 15) (.seq (.region [⟨some 19, none, .fldA 2 1 false (.t 3)⟩,
      ⟨some 20, none, .load 1 false (.t 19)⟩,
      ⟨some 21, none, .len false (.t 20)⟩,
      ⟨some 22, none, .bin false .gtr (.t 21) (.c (.int .i64 0))⟩,
      ⟨some 4, none, .mov (.t 22)⟩])
    .ret)
    .skip))))))
    (.seq (.region [⟨some 4, none, .mov (.c (.bool true))⟩])
    .ret))), [.tmp 4]⟩
theorem T_model_told : trFn Tryz.prog [(0, [1, 1, 0])] Tryz.f127 = some A_model_told := by kernel_rfl
theorem L_model_told : 2 ≤ Tryz.f127.ntmps := by decide

/-! cartouche/model.Taken -/
def A_model_Taken : AFn := ⟨(.seq (.region [⟨some 2, none, .box 0 (.t 0)⟩,
      ⟨some 3, none, .box 0 (.t 1)⟩,
      ⟨some 4, none, .mov (.c (.bool false))⟩])
    (.seq (.region [⟨some 8, none, .load 6 true (.t 2)⟩,
      ⟨some 9, none, .fldA 0 1 false (.t 3)⟩,
      ⟨some 10, none, .load 1 false (.t 9)⟩,
      ⟨some 11, none, .call i_table_At [.t 8, .t 10]⟩,
      ⟨some 7, none, .mov (.t 11)⟩,
      ⟨some 12, none, .ext 0 (.t 7)⟩,
      ⟨some 13, none, .ext 1 (.t 7)⟩,
      ⟨some 5, none, .alloc 0 [.str ⟨#[]⟩, .int .i64 0, .int .i64 0, .int .i64 0, .int .i64 0, .int .i64 0, .int .i64 0]⟩,
      ⟨none, none, .store 7 (.t 5) (.t 12)⟩,
      ⟨some 6, none, .mov (.t 13)⟩])
    (.seq (.region [⟨some 14, none, .mov (.t 6)⟩,
      ⟨some 15, none, .mov (.t 14)⟩,
      ⟨some 16, some (15, true), .load 7 true (.t 5)⟩,
      ⟨some 17, some (15, true), .fldA 1 1 false (.t 3)⟩,
      ⟨some 18, some (15, true), .load 1 false (.t 17)⟩,
      ⟨some 19, some (15, true), .call i_table_How [.t 16, .t 18]⟩,
      ⟨some 20, some (15, true), .bin false .neq (.t 19) (.c (.int .i64 0))⟩,
      ⟨some 21, none, .pickb (.t 15) (.t 20) (.c (.bool false))⟩,
      ⟨some 4, none, .mov (.t 21)⟩])
    .ret))), [.tmp 4]⟩
theorem T_model_Taken : trFn Tryz.prog [(0, [1, 1, 0]), (1, [0, 0, 0, 0, 0, 0, 0, 1, 0, 0])] Tryz.f130 = some A_model_Taken := by kernel_rfl
theorem L_model_Taken : 2 ≤ Tryz.f130.ntmps := by decide

/-! cartouche/model.each[cartouche/api.Field] -/
def A_model_each_api_Field : AFn := ⟨(.seq (.region [⟨some 4, none, .mov (.c (.nil))⟩])
    (.seq (.region [⟨some 8, none, .mov (.t 0)⟩,
      ⟨some 9, none, .len false (.t 8)⟩,
      ⟨some 10, none, .mks 0 29 3 56 (.agg [.int .i64 0, .nil, .nil]) (.c (.int .i64 0)) (.t 9)⟩,
      ⟨some 5, none, .mov (.t 10)⟩])
    (.seq (.seq (.region [⟨some 11, none, .mov (.t 0)⟩,
      ⟨some 12, none, .len false (.t 11)⟩,
      ⟨some 13, none, .mov (.c (.int .i64 0))⟩])
    (.block 0 (.loop (.seq (.region [⟨some 14, none, .bin false .lss (.t 13) (.t 12)⟩])
    (.seq (.cond (.t 14) .skip
    (.exit 0))
    (.seq (.block 1 (.seq (.region [⟨some 15, none, .idxA 3 (.t 11) (.t 13)⟩,
      ⟨some 16, none, .load 3 true (.t 15)⟩,
      ⟨some 7, none, .alloc 0 [.int .i64 0, .nil, .nil]⟩,
      ⟨none, none, .store 3 (.t 7) (.t 16)⟩])
    (.region [⟨some 17, none, .mov (.t 5)⟩,
      ⟨some 18, none, .mov (.t 1)⟩,
      ⟨some 19, none, .load 3 true (.t 7)⟩,
      ⟨some 20, none, .callv (.t 18) [.t 19]⟩,
      ⟨some 21, none, .blit 0 29 3 [.t 20]⟩,
      ⟨some 22, none, .app 0 29 3 56 (.t 17) (.t 21)⟩,
      ⟨some 5, none, .mov (.t 22)⟩])))
    (.region [⟨some 23, none, .bin false .add (.t 13) (.c (.int .i64 1))⟩,
      ⟨some 13, none, .mov (.t 23)⟩])))))))
    (.seq (.region [⟨some 24, none, .mov (.t 5)⟩,
      ⟨some 4, none, .mov (.t 24)⟩])
    .ret)))), [.tmp 4]⟩
theorem T_model_each_api_Field : trFn Tryz.prog [(4, [0, 0, 1, 0]), (5, [0, 0, 0, 0, 1, 0, 0])] Tryz.f131 = some A_model_each_api_Field := by kernel_rfl
theorem L_model_each_api_Field : 2 ≤ Tryz.f131.ntmps := by decide

/-! cartouche/model.CopyField -/
def A_model_CopyField : AFn := ⟨(.seq (.region [⟨some 1, none, .box 0 (.t 0)⟩,
      ⟨some 2, none, .alloc 0 [.int .i64 0, .nil, .nil]⟩])
    (.seq (.draw [3, 4, 7, 8, 9, 1000001, 1000006, 2000008, 2000009] [⟨some 3, none, .fldA 0 1 false (.t 1)⟩,
      ⟨some 4, none, .load 1 false (.t 3)⟩,
      ⟨some 5, none, .fldA 1 1 false (.t 1)⟩,
      ⟨some 6, none, .load 1 false (.t 5)⟩,
      ⟨some 7, none, .call i_model_each_api_Val [.t 6, .c (.fn (.func 182) [] [])]⟩,
      ⟨some 8, none, .fldA 2 1 false (.t 1)⟩,
      ⟨some 9, none, .load 1 false (.t 8)⟩,
      ⟨some 10, none, .call i_model_each_api_Val [.t 9, .c (.fn (.func 182) [] [])]⟩,
      ⟨some 11, none, .build [.int .i64 0, .nil, .nil] [(0, 1, .t 4), (1, 1, .t 7), (2, 1, .t 10)]⟩,
      ⟨none, none, .store 3 (.t 2) (.t 11)⟩])
    .ret)), [.cell 2 3 true]⟩
theorem T_model_CopyField : trFn Tryz.prog [(0, [1, 1]), (1000001, [3, 4, 7, 8, 9, 1000001, 1000006, 2000008, 2000009])] Tryz.f132 = some A_model_CopyField := by kernel_rfl
theorem L_model_CopyField : 1 ≤ Tryz.f132.ntmps := by decide

/-! cartouche/model.each[cartouche/api.Entry] -/
def A_model_each_api_Entry : AFn := ⟨(.seq (.region [⟨some 4, none, .mov (.c (.nil))⟩])
    (.seq (.region [⟨some 8, none, .mov (.t 0)⟩,
      ⟨some 9, none, .len false (.t 8)⟩,
      ⟨some 10, none, .mks 0 40 4 48 (.agg [.int .i64 0, .int .i64 0, .int .u64 0, .nil]) (.c (.int .i64 0)) (.t 9)⟩,
      ⟨some 5, none, .mov (.t 10)⟩])
    (.seq (.seq (.region [⟨some 11, none, .mov (.t 0)⟩,
      ⟨some 12, none, .len false (.t 11)⟩,
      ⟨some 13, none, .mov (.c (.int .i64 0))⟩])
    (.block 0 (.loop (.seq (.region [⟨some 14, none, .bin false .lss (.t 13) (.t 12)⟩])
    (.seq (.cond (.t 14) .skip
    (.exit 0))
    (.seq (.block 1 (.seq (.region [⟨some 15, none, .idxA 4 (.t 11) (.t 13)⟩,
      ⟨some 16, none, .load 4 true (.t 15)⟩,
      ⟨some 7, none, .alloc 0 [.int .i64 0, .int .i64 0, .int .u64 0, .nil]⟩,
      ⟨none, none, .store 4 (.t 7) (.t 16)⟩])
    (.region [⟨some 17, none, .mov (.t 5)⟩,
      ⟨some 18, none, .mov (.t 1)⟩,
      ⟨some 19, none, .load 4 true (.t 7)⟩,
      ⟨some 20, none, .callv (.t 18) [.t 19]⟩,
      ⟨some 21, none, .blit 0 40 4 [.t 20]⟩,
      ⟨some 22, none, .app 0 40 4 48 (.t 17) (.t 21)⟩,
      ⟨some 5, none, .mov (.t 22)⟩])))
    (.region [⟨some 23, none, .bin false .add (.t 13) (.c (.int .i64 1))⟩,
      ⟨some 13, none, .mov (.t 23)⟩])))))))
    (.seq (.region [⟨some 24, none, .mov (.t 5)⟩,
      ⟨some 4, none, .mov (.t 24)⟩])
    .ret)))), [.tmp 4]⟩
theorem T_model_each_api_Entry : trFn Tryz.prog [(4, [0, 0, 1, 0]), (5, [0, 0, 0, 0, 1, 0, 0])] Tryz.f133 = some A_model_each_api_Entry := by kernel_rfl
theorem L_model_each_api_Entry : 2 ≤ Tryz.f133.ntmps := by decide

/-! cartouche/model.CopyEntry -/
def A_model_CopyEntry : AFn := ⟨(.seq (.region [⟨some 1, none, .box 0 (.t 0)⟩,
      ⟨some 2, none, .alloc 0 [.int .i64 0, .int .i64 0, .int .u64 0, .nil]⟩])
    (.seq (.region [⟨some 3, none, .fldA 3 1 false (.t 1)⟩,
      ⟨some 4, none, .load 1 false (.t 3)⟩,
      ⟨some 5, none, .call i_model_list [.t 4]⟩,
      ⟨some 6, none, .fldA 3 1 false (.t 1)⟩,
      ⟨none, none, .store 1 (.t 6) (.t 5)⟩])
    (.seq (.region [⟨some 7, none, .load 4 true (.t 1)⟩,
      ⟨none, none, .store 4 (.t 2) (.t 7)⟩])
    .ret))), [.cell 2 4 true]⟩
theorem T_model_CopyEntry : trFn Tryz.prog [(0, [1, 1])] Tryz.f134 = some A_model_CopyEntry := by kernel_rfl
theorem L_model_CopyEntry : 1 ≤ Tryz.f134.ntmps := by decide

/-! slices.IndexFunc[[]cartouche/api.Field,cartouche/api.Field] -/
def A_slices_IndexFunc_api_Field_api_Field : AFn := ⟨(.seq (.region [⟨some 4, none, .mov (.c (.int .i64 0))⟩])
    (.seq (.seq (.region [⟨some 6, none, .mov (.t 0)⟩,
      ⟨some 7, none, .len false (.t 6)⟩,
      ⟨some 8, none, .mov (.c (.int .i64 0))⟩])
    (.block 0 (.loop (.seq (.region [⟨some 9, none, .bin false .lss (.t 8) (.t 7)⟩])
    (.seq (.cond (.t 9) .skip
    (.exit 0))
    (.seq (.block 1 (.seq (.region [⟨some 10, none, .mov (.t 8)⟩,
      ⟨some 5, none, .mov (.t 10)⟩])
    (.seq (.region [⟨some 11, none, .mov (.t 1)⟩,
      ⟨some 12, none, .mov (.t 0)⟩,
      ⟨some 13, none, .mov (.t 5)⟩,
      ⟨some 14, none, .idxA 3 (.t 12) (.t 13)⟩,
      ⟨some 15, none, .load 3 true (.t 14)⟩,
      ⟨some 16, none, .callv (.t 11) [.t 15]⟩])
    (.cond (.t 16) (.seq (.region [⟨some 17, none, .mov (.t 5)⟩,
      ⟨some 4, none, .mov (.t 17)⟩])
    .ret)
    .skip))))
    (.region [⟨some 18, none, .bin false .add (.t 8) (.c (.int .i64 1))⟩,
      ⟨some 8, none, .mov (.t 18)⟩])))))))
    (.seq (.region [⟨some 4, none, .mov (.c (.int .i64 (-1)))⟩])
    .ret))), [.tmp 4]⟩
theorem T_slices_IndexFunc_api_Field_api_Field : trFn Tryz.prog [] Tryz.f138 = some A_slices_IndexFunc_api_Field_api_Field := by kernel_rfl
theorem L_slices_IndexFunc_api_Field_api_Field : 2 ≤ Tryz.f138.ntmps := by decide

/-! cartouche/interp.written -/
def A_interp_written : AFn := ⟨(.seq (.region [⟨some 3, none, .box 0 (.t 0)⟩,
      ⟨some 5, none, .box 0 (.t 2)⟩,
      ⟨some 6, none, .mov (.c (.nil))⟩])
    (.seq (.region [⟨some 7, none, .mov (.c (.nil))⟩])
    (.seq (.seq (.region [⟨some 27, none, .fldA 0 1 false (.t 5)⟩,
      ⟨some 28, none, .load 1 false (.t 27)⟩,
      ⟨some 29, none, .len false (.t 28)⟩,
      ⟨some 30, none, .mov (.c (.int .i64 0))⟩])
    (.block 0 (.loop (.seq (.region [⟨some 31, none, .bin false .lss (.t 30) (.t 29)⟩])
    (.seq (.cond (.t 31) .skip
    (.exit 0))
    (.seq (.block 1 (.seq (.region [⟨some 32, none, .idxA 3 (.t 28) (.t 30)⟩,
      ⟨some 33, none, .load 3 true (.t 32)⟩,
      ⟨some 9, none, .alloc 0 [.int .i64 0, .nil, .nil]⟩,
      ⟨none, none, .store 3 (.t 9) (.t 33)⟩])
    (.seq (.draw [11, 12, 1000001, 1000003, 1000004, 1000006, 2000012] [⟨some 35, none, .fldA 0 1 false (.t 3)⟩,
      ⟨some 36, none, .load 1 false (.t 35)⟩,
      ⟨some 37, none, .mov (.t 1)⟩,
      ⟨some 38, none, .idxA 6 (.t 36) (.t 37)⟩,
      ⟨some 39, none, .load 6 true (.t 38)⟩,
      ⟨some 40, none, .fldA 0 1 false (.t 9)⟩,
      ⟨some 41, none, .load 1 false (.t 40)⟩,
      ⟨some 42, none, .call i_table_At [.t 39, .t 41]⟩,
      ⟨some 34, none, .mov (.t 42)⟩,
      ⟨some 43, none, .ext 0 (.t 34)⟩,
      ⟨some 44, none, .ext 1 (.t 34)⟩,
      ⟨some 10, none, .alloc 0 [.str ⟨#[]⟩, .int .i64 0, .int .i64 0, .int .i64 0, .int .i64 0, .int .i64 0, .int .i64 0]⟩,
      ⟨none, none, .store 7 (.t 10) (.t 43)⟩,
      ⟨some 11, none, .mov (.t 44)⟩])
    (.seq (.region [⟨some 45, none, .load 7 true (.t 10)⟩,
      ⟨some 46, none, .call i_table_Wire [.t 45]⟩,
      ⟨some 12, none, .mov (.t 46)⟩])
    (.seq (.region [⟨some 47, none, .fldA 4 1 false (.t 10)⟩,
      ⟨some 48, none, .load 1 false (.t 47)⟩])
    (.block 2 (.seq (.seq (.region [⟨some 99, none, .bin false .eql (.t 48) (.c (.int .i64 0))⟩,
      ⟨some 98, none, .mov (.t 99)⟩])
    (.cond (.t 98) .skip
    (.seq (.region [⟨some 100, none, .bin false .eql (.t 48) (.c (.int .i64 1))⟩,
      ⟨some 98, none, .mov (.t 100)⟩])
    (.cond (.t 98) .skip
    (.region [⟨some 101, none, .bin false .eql (.t 48) (.c (.int .i64 4))⟩,
      ⟨some 98, none, .mov (.t 101)⟩])))))
    (.cond (.t 98) (.seq (.region [⟨some 102, none, .fldA 4 1 false (.t 10)⟩,
      ⟨some 103, none, .load 1 false (.t 102)⟩,
      ⟨some 104, none, .bin false .neq (.t 103) (.c (.int .i64 0))⟩,
      ⟨some 105, none, .mov (.t 104)⟩,
      ⟨some 106, some (105, false), .fldA 2 1 false (.t 9)⟩,
      ⟨some 107, some (105, false), .load 1 false (.t 106)⟩,
      ⟨some 108, some (105, false), .idxA 3 (.t 107) (.c (.int .i64 0))⟩,
      ⟨some 109, some (105, false), .load 3 true (.t 108)⟩,
      ⟨some 110, some (105, false), .call i_model_Nothing [.t 109]⟩,
      ⟨some 111, some (105, false), .un .not (.t 110)⟩,
      ⟨some 112, none, .pickb (.t 105) (.c (.bool true)) (.t 111)⟩])
    (.cond (.t 112) (.draw [2, 4, 14, 1000005, 1000007, 1000009, 1000011, 1000012, 1000013, 2000014] [⟨some 113, none, .mov (.t 7)⟩,
      ⟨some 114, none, .fldA 1 1 false (.t 10)⟩,
      ⟨some 115, none, .load 1 false (.t 114)⟩,
      ⟨some 116, none, .mov (.t 12)⟩,
      ⟨some 117, none, .call i_interp_tagged [.t 113, .t 115, .t 116]⟩,
      ⟨some 118, none, .load 1 true (.t 3)⟩,
      ⟨some 119, none, .fldA 2 1 false (.t 10)⟩,
      ⟨some 120, none, .load 1 false (.t 119)⟩,
      ⟨some 121, none, .fldA 3 1 false (.t 10)⟩,
      ⟨some 122, none, .load 1 false (.t 121)⟩,
      ⟨some 123, none, .fldA 2 1 false (.t 9)⟩,
      ⟨some 124, none, .load 1 false (.t 123)⟩,
      ⟨some 125, none, .idxA 3 (.t 124) (.c (.int .i64 0))⟩,
      ⟨some 126, none, .load 3 true (.t 125)⟩,
      ⟨some 127, none, .call i_interp_value [.t 117, .t 118, .t 120, .t 122, .t 126]⟩,
      ⟨some 7, none, .mov (.t 127)⟩])
    .skip))
    (.seq (.region [⟨some 129, none, .bin false .eql (.t 48) (.c (.int .i64 2))⟩,
      ⟨some 128, none, .mov (.t 129)⟩])
    (.cond (.t 128) (.seq (.region [⟨some 130, none, .fldA 2 1 false (.t 9)⟩,
      ⟨some 131, none, .load 1 false (.t 130)⟩,
      ⟨some 132, none, .len false (.t 131)⟩,
      ⟨some 133, none, .mov (.c (.int .i64 0))⟩])
    (.block 5 (.loop (.seq (.region [⟨some 134, none, .bin false .lss (.t 133) (.t 132)⟩])
    (.seq (.cond (.t 134) .skip
    (.exit 5))
    (.seq (.block 6 (.seq (.region [⟨some 135, none, .idxA 3 (.t 131) (.t 133)⟩,
      ⟨some 136, none, .load 3 true (.t 135)⟩,
      ⟨some 14, none, .alloc 0 [.int .u64 0, .nil, .nil]⟩,
      ⟨none, none, .store 3 (.t 14) (.t 136)⟩])
    (.draw [2, 4, 11, 1000005, 1000007, 1000009, 1000010, 2000011] [⟨some 137, none, .mov (.t 7)⟩,
      ⟨some 138, none, .fldA 1 1 false (.t 10)⟩,
      ⟨some 139, none, .load 1 false (.t 138)⟩,
      ⟨some 140, none, .mov (.t 12)⟩,
      ⟨some 141, none, .call i_interp_tagged [.t 137, .t 139, .t 140]⟩,
      ⟨some 142, none, .load 1 true (.t 3)⟩,
      ⟨some 143, none, .fldA 2 1 false (.t 10)⟩,
      ⟨some 144, none, .load 1 false (.t 143)⟩,
      ⟨some 145, none, .fldA 3 1 false (.t 10)⟩,
      ⟨some 146, none, .load 1 false (.t 145)⟩,
      ⟨some 147, none, .load 3 true (.t 14)⟩,
      ⟨some 148, none, .call i_interp_value [.t 141, .t 142, .t 144, .t 146, .t 147]⟩,
      ⟨some 7, none, .mov (.t 148)⟩])))
    (.region [⟨some 149, none, .bin false .add (.t 133) (.c (.int .i64 1))⟩,
      ⟨some 133, none, .mov (.t 149)⟩])))))))
    (.seq (.region [⟨some 151, none, .bin false .eql (.t 48) (.c (.int .i64 3))⟩,
      ⟨some 150, none, .mov (.t 151)⟩])
    (.cond (.t 150) (.seq (.region [⟨some 15, none, .mov (.c (.nil))⟩])
    (.seq (.seq (.region [⟨some 152, none, .fldA 2 1 false (.t 9)⟩,
      ⟨some 153, none, .load 1 false (.t 152)⟩,
      ⟨some 154, none, .len false (.t 153)⟩,
      ⟨some 155, none, .mov (.c (.int .i64 0))⟩])
    (.block 7 (.loop (.seq (.region [⟨some 156, none, .bin false .lss (.t 155) (.t 154)⟩])
    (.seq (.cond (.t 156) .skip
    (.exit 7))
    (.seq (.block 8 (.seq (.region [⟨some 157, none, .idxA 3 (.t 153) (.t 155)⟩,
      ⟨some 158, none, .load 3 true (.t 157)⟩,
      ⟨some 17, none, .alloc 0 [.int .u64 0, .nil, .nil]⟩,
      ⟨none, none, .store 3 (.t 17) (.t 158)⟩])
    (.region [⟨some 159, none, .mov (.t 15)⟩,
      ⟨some 160, none, .load 1 true (.t 3)⟩,
      ⟨some 161, none, .fldA 2 1 false (.t 10)⟩,
      ⟨some 162, none, .load 1 false (.t 161)⟩,
      ⟨some 163, none, .fldA 3 1 false (.t 10)⟩,
      ⟨some 164, none, .load 1 false (.t 163)⟩,
      ⟨some 165, none, .load 3 true (.t 17)⟩,
      ⟨some 166, none, .call i_interp_value [.t 159, .t 160, .t 162, .t 164, .t 165]⟩,
      ⟨some 15, none, .mov (.t 166)⟩])))
    (.region [⟨some 167, none, .bin false .add (.t 155) (.c (.int .i64 1))⟩,
      ⟨some 155, none, .mov (.t 167)⟩])))))))
    (.seq (.region [⟨some 168, none, .fldA 2 1 false (.t 9)⟩,
      ⟨some 169, none, .load 1 false (.t 168)⟩,
      ⟨some 170, none, .len false (.t 169)⟩,
      ⟨some 171, none, .bin false .gtr (.t 170) (.c (.int .i64 0))⟩])
    (.cond (.t 171) (.region [⟨some 172, none, .mov (.t 7)⟩,
      ⟨some 173, none, .fldA 1 1 false (.t 10)⟩,
      ⟨some 174, none, .load 1 false (.t 173)⟩,
      ⟨some 175, none, .call i_interp_tagged [.t 172, .t 174, .c (.int .i64 2)]⟩,
      ⟨some 176, none, .mov (.t 15)⟩,
      ⟨some 177, none, .call i_wire_PutChunk [.t 176]⟩,
      ⟨some 178, none, .app 0 5 1 1 (.t 175) (.t 177)⟩,
      ⟨some 7, none, .mov (.t 178)⟩])
    .skip))))
    (.seq (.region [⟨some 50, none, .fldA 6 1 false (.t 10)⟩,
      ⟨some 51, none, .load 1 false (.t 50)⟩,
      ⟨some 52, none, .call i_scalar_Wire [.t 51]⟩,
      ⟨some 49, none, .mov (.t 52)⟩,
      ⟨some 53, none, .ext 0 (.t 49)⟩,
      ⟨some 54, none, .ext 1 (.t 49)⟩,
      ⟨some 18, none, .mov (.t 53)⟩,
      ⟨some 19, none, .mov (.t 54)⟩])
    (.seq (.region [⟨some 56, none, .fldA 2 1 false (.t 10)⟩,
      ⟨some 57, none, .load 1 false (.t 56)⟩,
      ⟨some 58, none, .call i_scalar_Wire [.t 57]⟩,
      ⟨some 55, none, .mov (.t 58)⟩,
      ⟨some 59, none, .ext 0 (.t 55)⟩,
      ⟨some 60, none, .ext 1 (.t 55)⟩,
      ⟨some 20, none, .mov (.t 59)⟩,
      ⟨some 21, none, .mov (.t 60)⟩])
    (.seq (.region [⟨some 61, none, .fldA 1 1 false (.t 9)⟩,
      ⟨some 62, none, .load 1 false (.t 61)⟩,
      ⟨some 63, none, .len false (.t 62)⟩,
      ⟨some 64, none, .mov (.c (.int .i64 0))⟩])
    (.block 3 (.loop (.seq (.region [⟨some 65, none, .bin false .lss (.t 64) (.t 63)⟩])
    (.seq (.cond (.t 65) .skip
    (.exit 3))
    (.seq (.block 4 (.seq (.region [⟨some 66, none, .mov (.t 64)⟩,
      ⟨some 67, none, .idxA 3 (.t 62) (.t 64)⟩,
      ⟨some 68, none, .load 3 true (.t 67)⟩,
      ⟨some 23, none, .alloc 0 [.int .u64 0, .nil, .nil]⟩,
      ⟨some 22, none, .mov (.t 66)⟩,
      ⟨none, none, .store 3 (.t 23) (.t 68)⟩])
    (.seq (.draw [1, 6, 1000002, 1000004, 1000005, 2000006] [⟨some 69, none, .mov (.t 18)⟩,
      ⟨some 70, none, .call i_interp_tagged [.c (.nil), .c (.int .i64 1), .t 69]⟩,
      ⟨some 71, none, .load 1 true (.t 3)⟩,
      ⟨some 72, none, .fldA 6 1 false (.t 10)⟩,
      ⟨some 73, none, .load 1 false (.t 72)⟩,
      ⟨some 74, none, .load 3 true (.t 23)⟩,
      ⟨some 75, none, .call i_interp_value [.t 70, .t 71, .t 73, .c (.int .i64 0), .t 74]⟩,
      ⟨some 24, none, .mov (.t 75)⟩])
    (.seq (.draw [2, 13, 1000003, 1000005, 1000007, 1000009, 1000011, 1000012, 2000013] [⟨some 76, none, .mov (.t 24)⟩,
      ⟨some 77, none, .mov (.t 20)⟩,
      ⟨some 78, none, .call i_interp_tagged [.t 76, .c (.int .i64 2), .t 77]⟩,
      ⟨some 79, none, .load 1 true (.t 3)⟩,
      ⟨some 80, none, .fldA 2 1 false (.t 10)⟩,
      ⟨some 81, none, .load 1 false (.t 80)⟩,
      ⟨some 82, none, .fldA 3 1 false (.t 10)⟩,
      ⟨some 83, none, .load 1 false (.t 82)⟩,
      ⟨some 84, none, .fldA 2 1 false (.t 9)⟩,
      ⟨some 85, none, .load 1 false (.t 84)⟩,
      ⟨some 86, none, .mov (.t 22)⟩,
      ⟨some 87, none, .idxA 3 (.t 85) (.t 86)⟩,
      ⟨some 88, none, .load 3 true (.t 87)⟩,
      ⟨some 89, none, .call i_interp_value [.t 78, .t 79, .t 81, .t 83, .t 88]⟩,
      ⟨some 24, none, .mov (.t 89)⟩])
    (.region [⟨some 90, none, .mov (.t 7)⟩,
      ⟨some 91, none, .fldA 1 1 false (.t 10)⟩,
      ⟨some 92, none, .load 1 false (.t 91)⟩,
      ⟨some 93, none, .call i_interp_tagged [.t 90, .t 92, .c (.int .i64 2)]⟩,
      ⟨some 94, none, .mov (.t 24)⟩,
      ⟨some 95, none, .call i_wire_PutChunk [.t 94]⟩,
      ⟨some 96, none, .app 0 5 1 1 (.t 93) (.t 95)⟩,
      ⟨some 7, none, .mov (.t 96)⟩])))))
    (.region [⟨some 97, none, .bin false .add (.t 64) (.c (.int .i64 1))⟩,
      ⟨some 64, none, .mov (.t 97)⟩])))))))))))))))))))))
    (.region [⟨some 179, none, .bin false .add (.t 30) (.c (.int .i64 1))⟩,
      ⟨some 30, none, .mov (.t 179)⟩])))))))
    (.seq (.region [⟨some 181, none, .fldA 1 1 false (.t 5)⟩,
      ⟨some 182, none, .load 1 false (.t 181)⟩,
      ⟨some 183, none, .call i_wire_Join [.t 182]⟩,
      ⟨some 180, none, .mov (.t 183)⟩,
      ⟨some 184, none, .ext 0 (.t 180)⟩,
      ⟨some 185, none, .ext 1 (.t 180)⟩,
      ⟨some 25, none, .mov (.t 184)⟩,
      ⟨some 26, none, .mov (.t 185)⟩])
    (.seq (.region [⟨some 186, none, .mov (.t 7)⟩,
      ⟨some 187, none, .mov (.t 25)⟩,
      ⟨some 188, none, .app 0 5 1 1 (.t 186) (.t 187)⟩,
      ⟨some 6, none, .mov (.t 188)⟩])
    .ret))))), [.tmp 6]⟩
theorem T_interp_written : trFn Tryz.prog [(0, [1, 1, 0]), (4, [0, 0, 1, 0]), (5, [0, 0, 0, 0, 0, 0, 0, 0, 0, 0, 0, 1, 0, 0]), (12, [0, 0, 0, 1, 0, 0]), (25, [0, 0, 1, 0]), (32, [0, 0, 1, 0]), (1000005, [11, 12, 1000001, 1000003, 1000004, 1000006, 2000012]), (1000013, [1, 6, 1000002, 1000004, 1000005, 2000006]), (1000014, [2, 13, 1000003, 1000005, 1000007, 1000009, 1000011, 1000012, 2000013]), (1000021, [2, 4, 14, 1000005, 1000007, 1000009, 1000011, 1000012, 1000013, 2000014]), (1000026, [2, 4, 11, 1000005, 1000007, 1000009, 1000010, 2000011])] Tryz.f141 = some A_interp_written := by kernel_rfl
theorem L_interp_written : 3 ≤ Tryz.f141.ntmps := by decide

/-! cartouche/interp.read$1 -/
def A_interp_read_1 : AFn := ⟨(.seq (.region [⟨some 7, none, .bad⟩,
      ⟨some 4, none, .mov (.t 7)⟩])
    (.seq (.region [⟨some 9, none, .mov (.t 4)⟩,
      ⟨some 10, none, .bad⟩,
      ⟨some 8, none, .mov (.t 10)⟩,
      ⟨some 11, none, .ext 0 (.t 8)⟩,
      ⟨some 12, none, .ext 1 (.t 8)⟩,
      ⟨some 5, none, .mov (.t 11)⟩,
      ⟨some 6, none, .mov (.t 12)⟩])
    (.seq (.region [⟨some 13, none, .mov (.t 6)⟩])
    (.cond (.t 13) (.region [⟨some 14, none, .build [.nil, .nil] []⟩,
      ⟨some 15, none, .mov (.t 5)⟩,
      ⟨none, none, .store 2 (.t 0) (.t 14)⟩,
      ⟨none, none, .store 1 (.t 1) (.c (.int .i64 0))⟩,
      ⟨none, none, .store 1 (.t 2) (.c (.int .i64 0))⟩,
      ⟨none, none, .store 1 (.t 3) (.t 15)⟩])
    (.seq (.region [⟨some 16, none, .mov (.t 4)⟩,
      ⟨some 17, none, .bin false .neq (.t 16) (.c (.niliface))⟩])
    (.cond (.t 17) (.region [⟨some 18, none, .mov (.t 4)⟩,
      ⟨none, none, .bad⟩])
    .skip)))))), []⟩
theorem T_interp_read_1 : trFn Tryz.prog [] Tryz.f142 = some A_interp_read_1 := by kernel_rfl
theorem L_interp_read_1 : 4 ≤ Tryz.f142.ntmps := by decide

/-! (*cartouche/interp.cursor).done -/
def A_interp_cursor_done : AFn := ⟨(.seq (.region [⟨some 2, none, .mov (.c (.bool false))⟩])
    (.seq (.draw [3, 1000007, 1000008] [⟨some 3, none, .mov (.t 0)⟩,
      ⟨some 4, none, .nilck (.t 3)⟩,
      ⟨some 5, none, .fldA 1 1 false (.t 4)⟩,
      ⟨some 6, none, .load 1 false (.t 5)⟩,
      ⟨some 7, none, .mov (.t 0)⟩,
      ⟨some 8, none, .nilck (.t 7)⟩,
      ⟨some 9, none, .fldA 0 1 false (.t 8)⟩,
      ⟨some 10, none, .load 1 false (.t 9)⟩,
      ⟨some 11, none, .len false (.t 10)⟩,
      ⟨some 12, none, .bin false .eql (.t 6) (.t 11)⟩,
      ⟨some 2, none, .mov (.t 12)⟩])
    .ret)), [.tmp 2]⟩
theorem T_interp_cursor_done : trFn Tryz.prog [(1000001, [3, 1000007, 1000008])] Tryz.f143 = some A_interp_cursor_done := by kernel_rfl
theorem L_interp_cursor_done : 1 ≤ Tryz.f143.ntmps := by decide

/-! (*cartouche/interp.cursor).entry -/
def A_interp_cursor_entry : AFn := ⟨(.seq (.region [⟨some 6, none, .box 0 (.t 1)⟩,
      ⟨some 10, none, .mov (.c (.bool false))⟩])
    (.seq (.region [⟨some 16, none, .mov (.t 0)⟩,
      ⟨some 17, none, .call i_interp_cursor_tag [.t 16]⟩,
      ⟨some 15, none, .mov (.t 17)⟩,
      ⟨some 18, none, .ext 0 (.t 15)⟩,
      ⟨some 19, none, .ext 1 (.t 15)⟩,
      ⟨some 11, none, .mov (.t 18)⟩,
      ⟨some 12, none, .mov (.t 19)⟩])
    (.seq (.seq (.region [⟨some 21, none, .fldA 0 1 false (.t 6)⟩,
      ⟨some 22, none, .load 1 false (.t 21)⟩,
      ⟨some 23, none, .mov (.t 2)⟩,
      ⟨some 24, none, .idxA 6 (.t 22) (.t 23)⟩,
      ⟨some 25, none, .load 6 true (.t 24)⟩,
      ⟨some 26, none, .mov (.t 11)⟩,
      ⟨some 27, none, .call i_table_At [.t 25, .t 26]⟩,
      ⟨some 20, none, .mov (.t 27)⟩,
      ⟨some 28, none, .ext 0 (.t 20)⟩,
      ⟨some 29, none, .ext 1 (.t 20)⟩,
      ⟨some 13, none, .alloc 0 [.str ⟨#[]⟩, .int .i64 0, .int .i64 0, .int .i64 0, .int .i64 0, .int .i64 0, .int .i64 0]⟩,
      ⟨none, none, .store 7 (.t 13) (.t 28)⟩,
      ⟨some 14, none, .mov (.t 29)⟩])
    (.seq (.region [⟨some 30, none, .mov (.t 14)⟩])
    (.cond (.t 30) (.seq (.region [⟨some 31, none, .load 7 true (.t 13)⟩,
      ⟨some 32, none, .mov (.t 12)⟩,
      ⟨some 33, none, .call i_table_How [.t 31, .t 32]⟩])
    (.block 0 (.seq (.region [⟨some 35, none, .bin false .eql (.t 33) (.c (.int .i64 1))⟩,
      ⟨some 34, none, .mov (.t 35)⟩])
    (.cond (.t 34) (.seq (.region [⟨some 36, none, .mov (.t 0)⟩,
      ⟨some 37, none, .load 1 true (.t 6)⟩,
      ⟨some 38, none, .mov (.t 2)⟩,
      ⟨some 39, none, .load 7 true (.t 13)⟩,
      ⟨some 40, none, .mov (.t 3)⟩,
      ⟨some 41, none, .mov (.t 4)⟩,
      ⟨some 42, none, .call i_interp_cursor_put [.t 36, .t 37, .t 38, .t 39, .t 40, .t 41]⟩])
    (.seq (.region [⟨some 10, none, .mov (.c (.bool true))⟩])
    .ret))
    (.seq (.region [⟨some 44, none, .bin false .eql (.t 33) (.c (.int .i64 2))⟩,
      ⟨some 43, none, .mov (.t 44)⟩])
    (.cond (.t 43) (.seq (.region [⟨some 45, none, .mov (.t 0)⟩,
      ⟨some 46, none, .load 1 true (.t 6)⟩,
      ⟨some 47, none, .load 7 true (.t 13)⟩,
      ⟨some 48, none, .mov (.t 4)⟩,
      ⟨some 49, none, .call i_interp_cursor_row [.t 45, .t 46, .t 47, .t 48]⟩])
    (.seq (.region [⟨some 10, none, .mov (.c (.bool true))⟩])
    .ret))
    .skip))))))
    .skip)))
    (.seq (.draw [8, 9, 10, 13, 1000004, 2000010, 2000013] [⟨some 50, none, .mov (.t 4)⟩,
      ⟨some 51, none, .mov (.t 4)⟩,
      ⟨some 52, none, .nilck (.t 51)⟩,
      ⟨some 53, none, .fldA 1 1 false (.t 52)⟩,
      ⟨some 54, none, .load 1 false (.t 53)⟩,
      ⟨some 55, none, .mov (.t 0)⟩,
      ⟨some 56, none, .mov (.t 11)⟩,
      ⟨some 57, none, .mov (.t 12)⟩,
      ⟨some 58, none, .call i_interp_cursor_rest [.t 55, .t 56, .t 57]⟩,
      ⟨some 59, none, .blit 0 40 4 [.t 58]⟩,
      ⟨some 60, none, .app 0 40 4 48 (.t 54) (.t 59)⟩,
      ⟨some 61, none, .nilck (.t 50)⟩,
      ⟨some 62, none, .fldA 1 1 false (.t 61)⟩,
      ⟨none, none, .store 1 (.t 62) (.t 60)⟩])
    (.seq (.region [⟨some 10, none, .mov (.c (.bool false))⟩])
    .ret))))), [.tmp 10]⟩
theorem T_interp_cursor_entry : trFn Tryz.prog [(0, [1, 0]), (2, [0, 0, 0, 0, 0, 0, 0, 0, 0, 0, 1, 0, 0]), (11, [0, 0, 0, 0, 0, 0, 0, 0, 0, 1, 0, 0, 0, 0]), (1000011, [8, 9, 10, 13, 1000004, 2000010, 2000013])] Tryz.f144 = some A_interp_cursor_entry := by kernel_rfl
theorem L_interp_cursor_entry : 5 ≤ Tryz.f144.ntmps := by decide

end Go.Proofs.YtdlgenppdgkacaaGreatDoor.Ag
