import Derived.Test.YtifmnhcmmoacfaaGreatDoorQDefs
import Derived.Test.YtifmnhcmmoacfaaGreatDoorProg
set_option linter.unusedVariables false
set_option maxRecDepth 100000
set_option maxHeartbeats 1000000
set_option linter.unusedSectionVars false
namespace Go.Proofs.YtifmnhcmmoacfaaGreatDoorQ
open Go Go.PE
noncomputable abbrev A := Tryz.prog
theorem follows_any : A.follows .mixedOrders = true := by kernel_rfl
noncomputable def B3 : Code := bodyOf Tryz.f3
theorem f3_eq : A.funcs[3]? = some Tryz.f3 := by kernel_rfl
noncomputable def B6 : Code := bodyOf Tryz.f6
theorem f6_eq : A.funcs[6]? = some Tryz.f6 := by kernel_rfl
noncomputable def B7 : Code := bodyOf Tryz.f7
theorem f7_eq : A.funcs[7]? = some Tryz.f7 := by kernel_rfl
noncomputable def B8 : Code := bodyOf Tryz.f8
theorem f8_eq : A.funcs[8]? = some Tryz.f8 := by kernel_rfl
noncomputable def B9 : Code := bodyOf Tryz.f9
theorem f9_eq : A.funcs[9]? = some Tryz.f9 := by kernel_rfl
noncomputable def B10 : Code := bodyOf Tryz.f10
theorem f10_eq : A.funcs[10]? = some Tryz.f10 := by kernel_rfl
noncomputable def B16 : Code := bodyOf Tryz.f16
theorem f16_eq : A.funcs[16]? = some Tryz.f16 := by kernel_rfl
noncomputable def B28 : Code := bodyOf Tryz.f28
theorem f28_eq : A.funcs[28]? = some Tryz.f28 := by kernel_rfl
noncomputable def B30 : Code := bodyOf Tryz.f30
theorem f30_eq : A.funcs[30]? = some Tryz.f30 := by kernel_rfl
noncomputable def B31 : Code := bodyOf Tryz.f31
theorem f31_eq : A.funcs[31]? = some Tryz.f31 := by kernel_rfl
noncomputable def B32 : Code := bodyOf Tryz.f32
theorem f32_eq : A.funcs[32]? = some Tryz.f32 := by kernel_rfl
noncomputable def B33 : Code := bodyOf Tryz.f33
theorem f33_eq : A.funcs[33]? = some Tryz.f33 := by kernel_rfl
noncomputable def B37 : Code := bodyOf Tryz.f37
theorem f37_eq : A.funcs[37]? = some Tryz.f37 := by kernel_rfl
noncomputable def B38 : Code := bodyOf Tryz.f38
theorem f38_eq : A.funcs[38]? = some Tryz.f38 := by kernel_rfl
noncomputable def B39 : Code := bodyOf Tryz.f39
theorem f39_eq : A.funcs[39]? = some Tryz.f39 := by kernel_rfl
noncomputable def B40 : Code := bodyOf Tryz.f40
theorem f40_eq : A.funcs[40]? = some Tryz.f40 := by kernel_rfl
noncomputable def B41 : Code := bodyOf Tryz.f41
theorem f41_eq : A.funcs[41]? = some Tryz.f41 := by kernel_rfl
noncomputable def B42 : Code := bodyOf Tryz.f42
theorem f42_eq : A.funcs[42]? = some Tryz.f42 := by kernel_rfl
noncomputable def B43 : Code := bodyOf Tryz.f43
theorem f43_eq : A.funcs[43]? = some Tryz.f43 := by kernel_rfl
noncomputable def B44 : Code := bodyOf Tryz.f44
theorem f44_eq : A.funcs[44]? = some Tryz.f44 := by kernel_rfl
noncomputable def B45 : Code := bodyOf Tryz.f45
theorem f45_eq : A.funcs[45]? = some Tryz.f45 := by kernel_rfl
noncomputable def B48 : Code := bodyOf Tryz.f48
theorem f48_eq : A.funcs[48]? = some Tryz.f48 := by kernel_rfl
noncomputable def B58 : Code := bodyOf Tryz.f58
theorem f58_eq : A.funcs[58]? = some Tryz.f58 := by kernel_rfl
noncomputable def B59 : Code := bodyOf Tryz.f59
theorem f59_eq : A.funcs[59]? = some Tryz.f59 := by kernel_rfl
noncomputable def B60 : Code := bodyOf Tryz.f60
theorem f60_eq : A.funcs[60]? = some Tryz.f60 := by kernel_rfl
noncomputable def B61 : Code := bodyOf Tryz.f61
theorem f61_eq : A.funcs[61]? = some Tryz.f61 := by kernel_rfl
noncomputable def B63 : Code := bodyOf Tryz.f63
theorem f63_eq : A.funcs[63]? = some Tryz.f63 := by kernel_rfl
noncomputable def B64 : Code := bodyOf Tryz.f64
theorem f64_eq : A.funcs[64]? = some Tryz.f64 := by kernel_rfl
noncomputable def B65 : Code := bodyOf Tryz.f65
theorem f65_eq : A.funcs[65]? = some Tryz.f65 := by kernel_rfl
noncomputable def B66 : Code := bodyOf Tryz.f66
theorem f66_eq : A.funcs[66]? = some Tryz.f66 := by kernel_rfl
noncomputable def B67 : Code := bodyOf Tryz.f67
theorem f67_eq : A.funcs[67]? = some Tryz.f67 := by kernel_rfl
noncomputable def B68 : Code := bodyOf Tryz.f68
theorem f68_eq : A.funcs[68]? = some Tryz.f68 := by kernel_rfl
noncomputable def B69 : Code := bodyOf Tryz.f69
theorem f69_eq : A.funcs[69]? = some Tryz.f69 := by kernel_rfl
noncomputable def B70 : Code := bodyOf Tryz.f70
theorem f70_eq : A.funcs[70]? = some Tryz.f70 := by kernel_rfl
noncomputable def B71 : Code := bodyOf Tryz.f71
theorem f71_eq : A.funcs[71]? = some Tryz.f71 := by kernel_rfl
noncomputable def B72 : Code := bodyOf Tryz.f72
theorem f72_eq : A.funcs[72]? = some Tryz.f72 := by kernel_rfl
noncomputable def B73 : Code := bodyOf Tryz.f73
theorem f73_eq : A.funcs[73]? = some Tryz.f73 := by kernel_rfl
noncomputable def B89 : Code := bodyOf Tryz.f89
theorem f89_eq : A.funcs[89]? = some Tryz.f89 := by kernel_rfl
noncomputable def B90 : Code := bodyOf Tryz.f90
theorem f90_eq : A.funcs[90]? = some Tryz.f90 := by kernel_rfl
noncomputable def B91 : Code := bodyOf Tryz.f91
theorem f91_eq : A.funcs[91]? = some Tryz.f91 := by kernel_rfl
noncomputable def B92 : Code := bodyOf Tryz.f92
theorem f92_eq : A.funcs[92]? = some Tryz.f92 := by kernel_rfl
noncomputable def B93 : Code := bodyOf Tryz.f93
theorem f93_eq : A.funcs[93]? = some Tryz.f93 := by kernel_rfl
noncomputable def B94 : Code := bodyOf Tryz.f94
theorem f94_eq : A.funcs[94]? = some Tryz.f94 := by kernel_rfl
noncomputable def B95 : Code := bodyOf Tryz.f95
theorem f95_eq : A.funcs[95]? = some Tryz.f95 := by kernel_rfl
noncomputable def B96 : Code := bodyOf Tryz.f96
theorem f96_eq : A.funcs[96]? = some Tryz.f96 := by kernel_rfl
noncomputable def B97 : Code := bodyOf Tryz.f97
theorem f97_eq : A.funcs[97]? = some Tryz.f97 := by kernel_rfl
noncomputable def B98 : Code := bodyOf Tryz.f98
theorem f98_eq : A.funcs[98]? = some Tryz.f98 := by kernel_rfl
noncomputable def B99 : Code := bodyOf Tryz.f99
theorem f99_eq : A.funcs[99]? = some Tryz.f99 := by kernel_rfl
noncomputable def B100 : Code := bodyOf Tryz.f100
theorem f100_eq : A.funcs[100]? = some Tryz.f100 := by kernel_rfl
noncomputable def B101 : Code := bodyOf Tryz.f101
theorem f101_eq : A.funcs[101]? = some Tryz.f101 := by kernel_rfl
noncomputable def B102 : Code := bodyOf Tryz.f102
theorem f102_eq : A.funcs[102]? = some Tryz.f102 := by kernel_rfl
noncomputable def B103 : Code := bodyOf Tryz.f103
theorem f103_eq : A.funcs[103]? = some Tryz.f103 := by kernel_rfl
noncomputable def B104 : Code := bodyOf Tryz.f104
theorem f104_eq : A.funcs[104]? = some Tryz.f104 := by kernel_rfl
noncomputable def B105 : Code := bodyOf Tryz.f105
theorem f105_eq : A.funcs[105]? = some Tryz.f105 := by kernel_rfl
noncomputable def B106 : Code := bodyOf Tryz.f106
theorem f106_eq : A.funcs[106]? = some Tryz.f106 := by kernel_rfl
noncomputable def B107 : Code := bodyOf Tryz.f107
theorem f107_eq : A.funcs[107]? = some Tryz.f107 := by kernel_rfl
noncomputable def B108 : Code := bodyOf Tryz.f108
theorem f108_eq : A.funcs[108]? = some Tryz.f108 := by kernel_rfl
noncomputable def B109 : Code := bodyOf Tryz.f109
theorem f109_eq : A.funcs[109]? = some Tryz.f109 := by kernel_rfl
noncomputable def B110 : Code := bodyOf Tryz.f110
theorem f110_eq : A.funcs[110]? = some Tryz.f110 := by kernel_rfl
noncomputable def B111 : Code := bodyOf Tryz.f111
theorem f111_eq : A.funcs[111]? = some Tryz.f111 := by kernel_rfl
noncomputable def B112 : Code := bodyOf Tryz.f112
theorem f112_eq : A.funcs[112]? = some Tryz.f112 := by kernel_rfl
noncomputable def B113 : Code := bodyOf Tryz.f113
theorem f113_eq : A.funcs[113]? = some Tryz.f113 := by kernel_rfl
noncomputable def B114 : Code := bodyOf Tryz.f114
theorem f114_eq : A.funcs[114]? = some Tryz.f114 := by kernel_rfl
noncomputable def B115 : Code := bodyOf Tryz.f115
theorem f115_eq : A.funcs[115]? = some Tryz.f115 := by kernel_rfl
noncomputable def B116 : Code := bodyOf Tryz.f116
theorem f116_eq : A.funcs[116]? = some Tryz.f116 := by kernel_rfl
noncomputable def B117 : Code := bodyOf Tryz.f117
theorem f117_eq : A.funcs[117]? = some Tryz.f117 := by kernel_rfl
noncomputable def B129 : Code := bodyOf Tryz.f129
theorem f129_eq : A.funcs[129]? = some Tryz.f129 := by kernel_rfl
noncomputable def B130 : Code := bodyOf Tryz.f130
theorem f130_eq : A.funcs[130]? = some Tryz.f130 := by kernel_rfl
noncomputable def B131 : Code := bodyOf Tryz.f131
theorem f131_eq : A.funcs[131]? = some Tryz.f131 := by kernel_rfl
noncomputable def B132 : Code := bodyOf Tryz.f132
theorem f132_eq : A.funcs[132]? = some Tryz.f132 := by kernel_rfl
noncomputable def B135 : Code := bodyOf Tryz.f135
theorem f135_eq : A.funcs[135]? = some Tryz.f135 := by kernel_rfl
noncomputable def B137 : Code := bodyOf Tryz.f137
theorem f137_eq : A.funcs[137]? = some Tryz.f137 := by kernel_rfl
noncomputable def B138 : Code := bodyOf Tryz.f138
theorem f138_eq : A.funcs[138]? = some Tryz.f138 := by kernel_rfl
noncomputable def B139 : Code := bodyOf Tryz.f139
theorem f139_eq : A.funcs[139]? = some Tryz.f139 := by kernel_rfl
noncomputable def B140 : Code := bodyOf Tryz.f140
theorem f140_eq : A.funcs[140]? = some Tryz.f140 := by kernel_rfl
noncomputable def B141 : Code := bodyOf Tryz.f141
theorem f141_eq : A.funcs[141]? = some Tryz.f141 := by kernel_rfl
noncomputable def B142 : Code := bodyOf Tryz.f142
theorem f142_eq : A.funcs[142]? = some Tryz.f142 := by kernel_rfl
noncomputable def B143 : Code := bodyOf Tryz.f143
theorem f143_eq : A.funcs[143]? = some Tryz.f143 := by kernel_rfl
noncomputable def B144 : Code := bodyOf Tryz.f144
theorem f144_eq : A.funcs[144]? = some Tryz.f144 := by kernel_rfl
noncomputable def B145 : Code := bodyOf Tryz.f145
theorem f145_eq : A.funcs[145]? = some Tryz.f145 := by kernel_rfl
noncomputable def B146 : Code := bodyOf Tryz.f146
theorem f146_eq : A.funcs[146]? = some Tryz.f146 := by kernel_rfl
noncomputable def B147 : Code := bodyOf Tryz.f147
theorem f147_eq : A.funcs[147]? = some Tryz.f147 := by kernel_rfl
noncomputable def B148 : Code := bodyOf Tryz.f148
theorem f148_eq : A.funcs[148]? = some Tryz.f148 := by kernel_rfl
noncomputable def B153 : Code := bodyOf Tryz.f153
theorem f153_eq : A.funcs[153]? = some Tryz.f153 := by kernel_rfl
noncomputable def B154 : Code := bodyOf Tryz.f154
theorem f154_eq : A.funcs[154]? = some Tryz.f154 := by kernel_rfl
noncomputable def B155 : Code := bodyOf Tryz.f155
theorem f155_eq : A.funcs[155]? = some Tryz.f155 := by kernel_rfl
noncomputable def B156 : Code := bodyOf Tryz.f156
theorem f156_eq : A.funcs[156]? = some Tryz.f156 := by kernel_rfl
noncomputable def B157 : Code := bodyOf Tryz.f157
theorem f157_eq : A.funcs[157]? = some Tryz.f157 := by kernel_rfl
noncomputable def B176 : Code := bodyOf Tryz.f176
theorem f176_eq : A.funcs[176]? = some Tryz.f176 := by kernel_rfl
noncomputable def B177 : Code := bodyOf Tryz.f177
theorem f177_eq : A.funcs[177]? = some Tryz.f177 := by kernel_rfl
noncomputable def B180 : Code := bodyOf Tryz.f180
theorem f180_eq : A.funcs[180]? = some Tryz.f180 := by kernel_rfl
noncomputable def B182 : Code := bodyOf Tryz.f182
theorem f182_eq : A.funcs[182]? = some Tryz.f182 := by kernel_rfl
noncomputable def B183 : Code := bodyOf Tryz.f183
theorem f183_eq : A.funcs[183]? = some Tryz.f183 := by kernel_rfl
noncomputable def B184 : Code := bodyOf Tryz.f184
theorem f184_eq : A.funcs[184]? = some Tryz.f184 := by kernel_rfl
noncomputable def B187 : Code := bodyOf Tryz.f187
theorem f187_eq : A.funcs[187]? = some Tryz.f187 := by kernel_rfl
noncomputable def B188 : Code := bodyOf Tryz.f188
theorem f188_eq : A.funcs[188]? = some Tryz.f188 := by kernel_rfl
noncomputable def B189 : Code := bodyOf Tryz.f189
theorem f189_eq : A.funcs[189]? = some Tryz.f189 := by kernel_rfl
noncomputable def B208 : Code := bodyOf Tryz.f208
theorem f208_eq : A.funcs[208]? = some Tryz.f208 := by kernel_rfl
noncomputable def B212 : Code := bodyOf Tryz.f212
theorem f212_eq : A.funcs[212]? = some Tryz.f212 := by kernel_rfl
noncomputable def B252 : Code := bodyOf Tryz.f252
theorem f252_eq : A.funcs[252]? = some Tryz.f252 := by kernel_rfl
variable [PE.Ground]
theorem slices_Clone__string_string_ok : ∀ (a0 : (List Str)) (r : (List Str)), slices_Clone__string_string a0 = some r → PE.Spec A 106 [(.lst .str a0 0)] [] (.row 0) [] [(.row .str r 0)] := fun _ r h => noneE h
theorem slices_Clone__api_Node_api_Node_ok : ∀ (a0 : (List T_api_Node)) (r : (List T_api_Node)), slices_Clone__api_Node_api_Node a0 = some r → PE.Spec A 107 [(.lst (.user 1) a0 0)] [] (.row 0) [] [(.row (.user 1) r 0)] := fun _ r h => noneE h
theorem strconv_FormatInt_ok : ∀ (a0 : Int) (a1 : Int) (r : Str), strconv_FormatInt a0 a1 = some r → PE.Spec A 184 [(.int .i64 a0), (.int .i64 a1)] [] (.str r) [] [] := fun _ _ r h => noneE h
theorem slices_Delete__string_string_ok : ∀ (a0 : Int) (a1 : Int) (a2 : (List Str)) (r : (List Str)), slices_Delete__string_string a0 a1 a2 = some r → PE.Spec A 112 [(.row 0), (.int .i64 a0), (.int .i64 a1)] [(.row .str a2 0)] (.row 1) [.dead] [(.row .str r 0)] := fun _ _ _ r h => noneE h
theorem slices_Delete__api_Node_api_Node_ok : ∀ (a0 : Int) (a1 : Int) (a2 : (List T_api_Node)) (r : (List T_api_Node)), slices_Delete__api_Node_api_Node a0 a1 a2 = some r → PE.Spec A 113 [(.row 0), (.int .i64 a0), (.int .i64 a1)] [(.row (.user 1) a2 0)] (.row 1) [.dead] [(.row (.user 1) r 0)] := fun _ _ _ r h => noneE h
theorem slices_Insert__string_string_ok : ∀ (a0 : Int) (a1 : (List Str)) (a2 : (List Str)) (r : (List Str)), slices_Insert__string_string a0 a1 a2 = some r → PE.Spec A 114 [(.row 0), (.int .i64 a0), (.lst .str a1 0)] [(.row .str a2 0)] (.row 1) [.dead] [(.row .str r 0)] := fun _ _ _ r h => noneE h
theorem slices_Insert__api_Node_api_Node_ok : ∀ (a0 : Int) (a1 : (List T_api_Node)) (a2 : (List T_api_Node)) (r : (List T_api_Node)), slices_Insert__api_Node_api_Node a0 a1 a2 = some r → PE.Spec A 115 [(.row 0), (.int .i64 a0), (.lst (.user 1) a1 0)] [(.row (.user 1) a2 0)] (.row 1) [.dead] [(.row (.user 1) r 0)] := fun _ _ _ r h => noneE h
theorem pack_EncodeAs_ok : ∀ (a0 : Int) (a1 : T_api_Node) (r : (Str × Int)), pack_EncodeAs a0 a1 = some r → PE.Spec A 72 [(.int .i64 a0), (.agg [(.int .i64 a1.g_Kind), (.bool a1.g_Bool), (.int .i64 a1.g_Number), (.str a1.g_Text), (.lst .str a1.g_Names 0), (.lst (.user 1) a1.g_Items 0)])] [] (.tuple [(.str r.1), (.int .i64 r.2)]) [] [] := fun _ _ r h => noneE h
theorem strings_Builder_copyCheck_ok : ∀ (r : Unit), strings_Builder_copyCheck = some r → PE.Spec A 180 [(.ptr 0 0)] [(.box [.nilptr, .nil])] (.tuple []) [(.box [(.ptr 0 0), .nil])] [] := fun r h => noneE h
theorem strings_Builder_copyCheck_i2_ok : ∀ (a0 : (List Int)) (r : Unit), strings_Builder_copyCheck_i2 a0 = some r → PE.Spec A 180 [(.ptr 0 0)] [(.box [(.ptr 0 0), (.row 1)]), (.row (.int .u8) a0 0)] (.tuple []) [(.box [(.ptr 0 0), (.row 1)]), (.row (.int .u8) a0 0)] [] := fun _ r h => noneE h
theorem strings_Builder_String_ok : ∀ (a0 : (List Int)) (r : Str), strings_Builder_String a0 = some r → PE.Spec A 137 [(.ptr 0 0)] [(.box [(.ptr 0 0), (.row 1)]), (.row (.int .u8) a0 0)] (.str r) [.dead, .dead] [] := fun _ r h => noneE h
theorem slices_Clone__api_Field_api_Field_ok : ∀ (a0 : (List T_api_Field)) (r : (List T_api_Field)), slices_Clone__api_Field_api_Field a0 = some r → PE.Spec A 45 [(.lst (.user 0) a0 0)] [] (.row 0) [] [(.row (.user 0) r 0)] := fun _ r h => noneE h
def internal_stringslite_HasPrefix_phi (goal : V → List C → List C → Prop) (r : Bool) : Prop := goal (.bool r) [] []
theorem internal_stringslite_HasPrefix_sp (a0 : Str) (a1 : Str) (r : Bool) (H : ∀ goal : V → List C → List C → Prop, internal_stringslite_HasPrefix_phi goal r → PtS A 177 0 [.code (sub B177 [])] ⟨[(0, (.str a0)), (1, (.str a1))], []⟩ goal) : PE.Spec A 177 [(.str a0), (.str a1)] [] (.bool r) [] [] :=
  specOf follows_any f177_eq (by kernel_rfl) (H _ ⟨rfl, rfl, rfl⟩)
theorem internal_stringslite_HasPrefix_pt (n : Nat) : ∀ (a0 : Str) (a1 : Str) (r : Bool), internal_stringslite_HasPrefix n a0 a1 = some r → ∀ (goal : V → List C → List C → Prop), internal_stringslite_HasPrefix_phi goal r → PtS A 177 0 [.code (sub B177 [])] ⟨[(0, (.str a0)), (1, (.str a1))], []⟩ goal :=
  fun a0 a1 r h goal hq => have h := Eq.trans (Eq.symm (internal_stringslite_HasPrefix.eq_1 n a0 a1)) h
    (boolE h (fun b1 h => (condE h (fun b2 h => (exec_sound (.ret [] []) 4 [⟨[], [], [], [], []⟩, ⟨[], [], [(5, true)], [], []⟩] (And.intro b1 (And.intro b2 (someE (Φ := internal_stringslite_HasPrefix_phi goal) h hq))) (by kernel_rfl))))) (fun b1 h => (exec_sound (.ret [] []) 4 [⟨[], [], [], [], []⟩, ⟨[], [], [(5, false)], [], []⟩] (And.intro b1 (someE (Φ := internal_stringslite_HasPrefix_phi goal) h hq)) (by kernel_rfl))))
theorem internal_stringslite_HasPrefix_ok (n : Nat) (a0 : Str) (a1 : Str) (r : Bool) (h : internal_stringslite_HasPrefix n a0 a1 = some r) : PE.Spec A 177 [(.str a0), (.str a1)] [] (.bool r) [] [] := internal_stringslite_HasPrefix_sp a0 a1 r (internal_stringslite_HasPrefix_pt n a0 a1 r h)
def primitive_forms_phi (goal : V → List C → List C → Prop) (r : Unit) : Prop := goal (.map 0) [] [(.tmap (.int .i64) (.user 2) ((ast (fun y => 8 == y) 8 (⟨([49, 65, 65, 76] : Str), 6⟩ : T_primitive_form) (ast (fun y => 7 == y) 7 (⟨([83] : Str), 626⟩ : T_primitive_form) (ast (fun y => 6 == y) 6 (⟨([77] : Str), 2⟩ : T_primitive_form) (ast (fun y => 5 == y) 5 (⟨([48, 65] : Str), 16⟩ : T_primitive_form) (ast (fun y => 4 == y) 4 (⟨([65] : Str), 32⟩ : T_primitive_form) (ast (fun y => 3 == y) 3 (⟨([66] : Str), 32⟩ : T_primitive_form) (ast (fun y => 2 == y) 2 (⟨([68] : Str), 32⟩ : T_primitive_form) (ast (fun y => 1 == y) 1 (⟨([69] : Str), 32⟩ : T_primitive_form) [])))))))) : (List (Int × T_primitive_form))))]
theorem primitive_forms_sp (r : Unit) (H : ∀ goal : V → List C → List C → Prop, primitive_forms_phi goal r → PtS A 131 0 [.code (sub B131 [])] ⟨[], []⟩ goal) : PE.Spec A 131 [] [] (.map 0) [] [(.tmap (.int .i64) (.user 2) ((ast (fun y => 8 == y) 8 (⟨([49, 65, 65, 76] : Str), 6⟩ : T_primitive_form) (ast (fun y => 7 == y) 7 (⟨([83] : Str), 626⟩ : T_primitive_form) (ast (fun y => 6 == y) 6 (⟨([77] : Str), 2⟩ : T_primitive_form) (ast (fun y => 5 == y) 5 (⟨([48, 65] : Str), 16⟩ : T_primitive_form) (ast (fun y => 4 == y) 4 (⟨([65] : Str), 32⟩ : T_primitive_form) (ast (fun y => 3 == y) 3 (⟨([66] : Str), 32⟩ : T_primitive_form) (ast (fun y => 2 == y) 2 (⟨([68] : Str), 32⟩ : T_primitive_form) (ast (fun y => 1 == y) 1 (⟨([69] : Str), 32⟩ : T_primitive_form) [])))))))) : (List (Int × T_primitive_form))))] :=
  specOf follows_any f131_eq (by kernel_rfl) (H _ ⟨rfl, rfl, rfl⟩)
theorem primitive_forms_pt (n : Nat) : ∀ (r : Unit), primitive_forms n = some r → ∀ (goal : V → List C → List C → Prop), primitive_forms_phi goal r → PtS A 131 0 [.code (sub B131 [])] ⟨[], []⟩ goal :=
  fun r h goal hq => have h := Eq.trans (Eq.symm (primitive_forms.eq_1 n)) h
    (exec_sound (.ret [] [200000]) 4 [⟨[], [], [], [], []⟩, ⟨[], [], [], [], []⟩] (someE (Φ := primitive_forms_phi goal) h hq) (by kernel_rfl))
theorem primitive_forms_ok (n : Nat) (r : Unit) (h : primitive_forms n = some r) : PE.Spec A 131 [] [] (.map 0) [] [(.tmap (.int .i64) (.user 2) ((ast (fun y => 8 == y) 8 (⟨([49, 65, 65, 76] : Str), 6⟩ : T_primitive_form) (ast (fun y => 7 == y) 7 (⟨([83] : Str), 626⟩ : T_primitive_form) (ast (fun y => 6 == y) 6 (⟨([77] : Str), 2⟩ : T_primitive_form) (ast (fun y => 5 == y) 5 (⟨([48, 65] : Str), 16⟩ : T_primitive_form) (ast (fun y => 4 == y) 4 (⟨([65] : Str), 32⟩ : T_primitive_form) (ast (fun y => 3 == y) 3 (⟨([66] : Str), 32⟩ : T_primitive_form) (ast (fun y => 2 == y) 2 (⟨([68] : Str), 32⟩ : T_primitive_form) (ast (fun y => 1 == y) 1 (⟨([69] : Str), 32⟩ : T_primitive_form) [])))))))) : (List (Int × T_primitive_form))))] := primitive_forms_sp  r (primitive_forms_pt n  r h)
def strings_HasPrefix_phi (goal : V → List C → List C → Prop) (r : Bool) : Prop := goal (.bool r) [] []
theorem strings_HasPrefix_sp (a0 : Str) (a1 : Str) (r : Bool) (H : ∀ goal : V → List C → List C → Prop, strings_HasPrefix_phi goal r → PtS A 132 0 [.code (sub B132 [])] ⟨[(0, (.str a0)), (1, (.str a1))], []⟩ goal) : PE.Spec A 132 [(.str a0), (.str a1)] [] (.bool r) [] [] :=
  specOf follows_any f132_eq (by kernel_rfl) (H _ ⟨rfl, rfl, rfl⟩)
theorem strings_HasPrefix_pt (n : Nat) : ∀ (a0 : Str) (a1 : Str) (r : Bool), strings_HasPrefix n a0 a1 = some r → ∀ (goal : V → List C → List C → Prop), strings_HasPrefix_phi goal r → PtS A 132 0 [.code (sub B132 [])] ⟨[(0, (.str a0)), (1, (.str a1))], []⟩ goal :=
  fun a0 a1 r h goal hq => have h := Eq.trans (Eq.symm (strings_HasPrefix.eq_1 n a0 a1)) h
    (bindE h (fun b2 b1 h => (exec_sound (.ret [] []) 4 [⟨[], [], [], [], []⟩, ⟨[], [(2, .call [] [some .str, some .str] (.bool b2) [] [])], [], [], []⟩] (And.intro (internal_stringslite_HasPrefix_ok n a0 a1 b2 b1) (someE (Φ := strings_HasPrefix_phi goal) h hq)) (by kernel_rfl))))
theorem strings_HasPrefix_ok (n : Nat) (a0 : Str) (a1 : Str) (r : Bool) (h : strings_HasPrefix n a0 a1 = some r) : PE.Spec A 132 [(.str a0), (.str a1)] [] (.bool r) [] [] := strings_HasPrefix_sp a0 a1 r (strings_HasPrefix_pt n a0 a1 r h)
end Go.Proofs.YtifmnhcmmoacfaaGreatDoorQ
