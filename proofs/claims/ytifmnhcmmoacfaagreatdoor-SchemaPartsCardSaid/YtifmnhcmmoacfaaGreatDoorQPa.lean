/- primitive.begins: whichever order the map's entries come in, the answer is one. -/
import Derived.Test.YtifmnhcmmoacfaaGreatDoorQTb
import Derived.Test.YtifmnhcmmoacfaaGreatDoorQEf
import Derived.Test.YtifmnhcmmoacfaaGreatDoorQLa
import Derived.Test.YtifmnhcmmoacfaaGreatDoorQLb
import Derived.Test.YtifmnhcmmoacfaaGreatDoorProg
set_option linter.unusedVariables false
set_option linter.unusedSectionVars false
set_option linter.unusedSimpArgs false
set_option maxRecDepth 100000
set_option maxHeartbeats 1000000
namespace Go.Proofs.YtifmnhcmmoacfaaGreatDoorQ
open Go Go.PE
noncomputable abbrev A := Tryz.prog
theorem z09 : A.follows .mixedOrders = true := by kernel_rfl
noncomputable def B4 : Code := z0m Tryz.f4
theorem zCi : A.funcs[4]? = some Tryz.f4 := by kernel_rfl
noncomputable def B6 : Code := z0m Tryz.f6
theorem zCz : A.funcs[6]? = some Tryz.f6 := by kernel_rfl
noncomputable def B7 : Code := z0m Tryz.f7
theorem zCF : A.funcs[7]? = some Tryz.f7 := by kernel_rfl
noncomputable def B8 : Code := z0m Tryz.f8
theorem zCH : A.funcs[8]? = some Tryz.f8 := by kernel_rfl
noncomputable def B10 : Code := z0m Tryz.f10
theorem zBj : A.funcs[10]? = some Tryz.f10 := by kernel_rfl
noncomputable def B11 : Code := z0m Tryz.f11
theorem zBA : A.funcs[11]? = some Tryz.f11 := by kernel_rfl
noncomputable def B12 : Code := z0m Tryz.f12
theorem zB9 : A.funcs[12]? = some Tryz.f12 := by kernel_rfl
noncomputable def B13 : Code := z0m Tryz.f13
theorem zCo : A.funcs[13]? = some Tryz.f13 := by kernel_rfl
noncomputable def B14 : Code := z0m Tryz.f14
theorem zBB : A.funcs[14]? = some Tryz.f14 := by kernel_rfl
noncomputable def B15 : Code := z0m Tryz.f15
theorem zC7 : A.funcs[15]? = some Tryz.f15 := by kernel_rfl
noncomputable def B16 : Code := z0m Tryz.f16
theorem zCd : A.funcs[16]? = some Tryz.f16 := by kernel_rfl
noncomputable def B17 : Code := z0m Tryz.f17
theorem zCp : A.funcs[17]? = some Tryz.f17 := by kernel_rfl
noncomputable def B18 : Code := z0m Tryz.f18
theorem zBP : A.funcs[18]? = some Tryz.f18 := by kernel_rfl
noncomputable def B21 : Code := z0m Tryz.f21
theorem zC8 : A.funcs[21]? = some Tryz.f21 := by kernel_rfl
noncomputable def B23 : Code := z0m Tryz.f23
theorem zBO : A.funcs[23]? = some Tryz.f23 := by kernel_rfl
noncomputable def B28 : Code := z0m Tryz.f28
theorem zC5 : A.funcs[28]? = some Tryz.f28 := by kernel_rfl
noncomputable def B29 : Code := z0m Tryz.f29
theorem zCr : A.funcs[29]? = some Tryz.f29 := by kernel_rfl
noncomputable def B30 : Code := z0m Tryz.f30
theorem zAS : A.funcs[30]? = some Tryz.f30 := by kernel_rfl
noncomputable def B31 : Code := z0m Tryz.f31
theorem zBS : A.funcs[31]? = some Tryz.f31 := by kernel_rfl
noncomputable def B32 : Code := z0m Tryz.f32
theorem zBY : A.funcs[32]? = some Tryz.f32 := by kernel_rfl
noncomputable def B33 : Code := z0m Tryz.f33
theorem zB2 : A.funcs[33]? = some Tryz.f33 := by kernel_rfl
noncomputable def B34 : Code := z0m Tryz.f34
theorem zBE : A.funcs[34]? = some Tryz.f34 := by kernel_rfl
noncomputable def B35 : Code := z0m Tryz.f35
theorem zC9 : A.funcs[35]? = some Tryz.f35 := by kernel_rfl
noncomputable def B36 : Code := z0m Tryz.f36
theorem zBu : A.funcs[36]? = some Tryz.f36 := by kernel_rfl
noncomputable def B37 : Code := z0m Tryz.f37
theorem zCh : A.funcs[37]? = some Tryz.f37 := by kernel_rfl
noncomputable def B38 : Code := z0m Tryz.f38
theorem zCq : A.funcs[38]? = some Tryz.f38 := by kernel_rfl
noncomputable def B39 : Code := z0m Tryz.f39
theorem zAY : A.funcs[39]? = some Tryz.f39 := by kernel_rfl
noncomputable def B40 : Code := z0m Tryz.f40
theorem zBd : A.funcs[40]? = some Tryz.f40 := by kernel_rfl
noncomputable def B41 : Code := z0m Tryz.f41
theorem zBc : A.funcs[41]? = some Tryz.f41 := by kernel_rfl
noncomputable def B42 : Code := z0m Tryz.f42
theorem zCc : A.funcs[42]? = some Tryz.f42 := by kernel_rfl
noncomputable def B43 : Code := z0m Tryz.f43
theorem zBh : A.funcs[43]? = some Tryz.f43 := by kernel_rfl
noncomputable def B44 : Code := z0m Tryz.f44
theorem zCe : A.funcs[44]? = some Tryz.f44 := by kernel_rfl
noncomputable def B45 : Code := z0m Tryz.f45
theorem zz0 : A.funcs[45]? = some Tryz.f45 := by kernel_rfl
noncomputable def B46 : Code := z0m Tryz.f46
theorem zBt : A.funcs[46]? = some Tryz.f46 := by kernel_rfl
noncomputable def B47 : Code := z0m Tryz.f47
theorem zBU : A.funcs[47]? = some Tryz.f47 := by kernel_rfl
noncomputable def B48 : Code := z0m Tryz.f48
theorem zB7 : A.funcs[48]? = some Tryz.f48 := by kernel_rfl
noncomputable def B49 : Code := z0m Tryz.f49
theorem zBL : A.funcs[49]? = some Tryz.f49 := by kernel_rfl
noncomputable def B50 : Code := z0m Tryz.f50
theorem zAZ : A.funcs[50]? = some Tryz.f50 := by kernel_rfl
noncomputable def B51 : Code := z0m Tryz.f51
theorem zBe : A.funcs[51]? = some Tryz.f51 := by kernel_rfl
noncomputable def B52 : Code := z0m Tryz.f52
theorem zBJ : A.funcs[52]? = some Tryz.f52 := by kernel_rfl
noncomputable def B53 : Code := z0m Tryz.f53
theorem zBf : A.funcs[53]? = some Tryz.f53 := by kernel_rfl
noncomputable def B58 : Code := z0m Tryz.f58
theorem zBT : A.funcs[58]? = some Tryz.f58 := by kernel_rfl
noncomputable def B59 : Code := z0m Tryz.f59
theorem zCf : A.funcs[59]? = some Tryz.f59 := by kernel_rfl
noncomputable def B60 : Code := z0m Tryz.f60
theorem zCn : A.funcs[60]? = some Tryz.f60 := by kernel_rfl
noncomputable def B61 : Code := z0m Tryz.f61
theorem zC3 : A.funcs[61]? = some Tryz.f61 := by kernel_rfl
noncomputable def B62 : Code := z0m Tryz.f62
theorem zBX : A.funcs[62]? = some Tryz.f62 := by kernel_rfl
noncomputable def B63 : Code := z0m Tryz.f63
theorem zCj : A.funcs[63]? = some Tryz.f63 := by kernel_rfl
noncomputable def B64 : Code := z0m Tryz.f64
theorem zAX : A.funcs[64]? = some Tryz.f64 := by kernel_rfl
noncomputable def B65 : Code := z0m Tryz.f65
theorem zC0 : A.funcs[65]? = some Tryz.f65 := by kernel_rfl
noncomputable def B66 : Code := z0m Tryz.f66
theorem zBo : A.funcs[66]? = some Tryz.f66 := by kernel_rfl
noncomputable def B67 : Code := z0m Tryz.f67
theorem zBF : A.funcs[67]? = some Tryz.f67 := by kernel_rfl
noncomputable def B68 : Code := z0m Tryz.f68
theorem zBW : A.funcs[68]? = some Tryz.f68 := by kernel_rfl
noncomputable def B69 : Code := z0m Tryz.f69
theorem zAW : A.funcs[69]? = some Tryz.f69 := by kernel_rfl
noncomputable def B70 : Code := z0m Tryz.f70
theorem zCb : A.funcs[70]? = some Tryz.f70 := by kernel_rfl
noncomputable def B71 : Code := z0m Tryz.f71
theorem zBZ : A.funcs[71]? = some Tryz.f71 := by kernel_rfl
noncomputable def B72 : Code := z0m Tryz.f72
theorem zBy : A.funcs[72]? = some Tryz.f72 := by kernel_rfl
noncomputable def B73 : Code := z0m Tryz.f73
theorem zBM : A.funcs[73]? = some Tryz.f73 := by kernel_rfl
noncomputable def B74 : Code := z0m Tryz.f74
theorem zBC : A.funcs[74]? = some Tryz.f74 := by kernel_rfl
noncomputable def B75 : Code := z0m Tryz.f75
theorem zBw : A.funcs[75]? = some Tryz.f75 := by kernel_rfl
noncomputable def B76 : Code := z0m Tryz.f76
theorem zB3 : A.funcs[76]? = some Tryz.f76 := by kernel_rfl
noncomputable def B77 : Code := z0m Tryz.f77
theorem zB0 : A.funcs[77]? = some Tryz.f77 := by kernel_rfl
noncomputable def B78 : Code := z0m Tryz.f78
theorem zBG : A.funcs[78]? = some Tryz.f78 := by kernel_rfl
noncomputable def B79 : Code := z0m Tryz.f79
theorem zBb : A.funcs[79]? = some Tryz.f79 := by kernel_rfl
noncomputable def B80 : Code := z0m Tryz.f80
theorem zBs : A.funcs[80]? = some Tryz.f80 := by kernel_rfl
noncomputable def B81 : Code := z0m Tryz.f81
theorem zBz : A.funcs[81]? = some Tryz.f81 := by kernel_rfl
noncomputable def B82 : Code := z0m Tryz.f82
theorem zBN : A.funcs[82]? = some Tryz.f82 := by kernel_rfl
noncomputable def B89 : Code := z0m Tryz.f89
theorem zBi : A.funcs[89]? = some Tryz.f89 := by kernel_rfl
noncomputable def B90 : Code := z0m Tryz.f90
theorem zB4 : A.funcs[90]? = some Tryz.f90 := by kernel_rfl
noncomputable def B91 : Code := z0m Tryz.f91
theorem zAT : A.funcs[91]? = some Tryz.f91 := by kernel_rfl
noncomputable def B92 : Code := z0m Tryz.f92
theorem zCa : A.funcs[92]? = some Tryz.f92 := by kernel_rfl
noncomputable def B93 : Code := z0m Tryz.f93
theorem zAV : A.funcs[93]? = some Tryz.f93 := by kernel_rfl
noncomputable def B94 : Code := z0m Tryz.f94
theorem zwe : A.funcs[94]? = some Tryz.f94 := by kernel_rfl
noncomputable def B95 : Code := z0m Tryz.f95
theorem zBx : A.funcs[95]? = some Tryz.f95 := by kernel_rfl
noncomputable def B96 : Code := z0m Tryz.f96
theorem zBr : A.funcs[96]? = some Tryz.f96 := by kernel_rfl
noncomputable def B97 : Code := z0m Tryz.f97
theorem zBa : A.funcs[97]? = some Tryz.f97 := by kernel_rfl
noncomputable def B98 : Code := z0m Tryz.f98
theorem zCl : A.funcs[98]? = some Tryz.f98 := by kernel_rfl
noncomputable def B99 : Code := z0m Tryz.f99
theorem zBp : A.funcs[99]? = some Tryz.f99 := by kernel_rfl
noncomputable def B100 : Code := z0m Tryz.f100
theorem zzB : A.funcs[100]? = some Tryz.f100 := by kernel_rfl
noncomputable def B101 : Code := z0m Tryz.f101
theorem zzy : A.funcs[101]? = some Tryz.f101 := by kernel_rfl
noncomputable def B102 : Code := z0m Tryz.f102
theorem zzp : A.funcs[102]? = some Tryz.f102 := by kernel_rfl
noncomputable def B103 : Code := z0m Tryz.f103
theorem zAH : A.funcs[103]? = some Tryz.f103 := by kernel_rfl
noncomputable def B104 : Code := z0m Tryz.f104
theorem zA2 : A.funcs[104]? = some Tryz.f104 := by kernel_rfl
noncomputable def B105 : Code := z0m Tryz.f105
theorem zAI : A.funcs[105]? = some Tryz.f105 := by kernel_rfl
noncomputable def B106 : Code := z0m Tryz.f106
theorem zxf : A.funcs[106]? = some Tryz.f106 := by kernel_rfl
noncomputable def B107 : Code := z0m Tryz.f107
theorem zy7 : A.funcs[107]? = some Tryz.f107 := by kernel_rfl
noncomputable def B108 : Code := z0m Tryz.f108
theorem zxh : A.funcs[108]? = some Tryz.f108 := by kernel_rfl
noncomputable def B109 : Code := z0m Tryz.f109
theorem zzY : A.funcs[109]? = some Tryz.f109 := by kernel_rfl
noncomputable def B110 : Code := z0m Tryz.f110
theorem zAd : A.funcs[110]? = some Tryz.f110 := by kernel_rfl
noncomputable def B111 : Code := z0m Tryz.f111
theorem zAl : A.funcs[111]? = some Tryz.f111 := by kernel_rfl
noncomputable def B112 : Code := z0m Tryz.f112
theorem zCD : A.funcs[112]? = some Tryz.f112 := by kernel_rfl
noncomputable def B113 : Code := z0m Tryz.f113
theorem zCx : A.funcs[113]? = some Tryz.f113 := by kernel_rfl
noncomputable def B114 : Code := z0m Tryz.f114
theorem zAn : A.funcs[114]? = some Tryz.f114 := by kernel_rfl
noncomputable def B115 : Code := z0m Tryz.f115
theorem zAA : A.funcs[115]? = some Tryz.f115 := by kernel_rfl
noncomputable def B116 : Code := z0m Tryz.f116
theorem zAj : A.funcs[116]? = some Tryz.f116 := by kernel_rfl
noncomputable def B117 : Code := z0m Tryz.f117
theorem zAa : A.funcs[117]? = some Tryz.f117 := by kernel_rfl
noncomputable def B119 : Code := z0m Tryz.f119
theorem zzM : A.funcs[119]? = some Tryz.f119 := by kernel_rfl
noncomputable def B120 : Code := z0m Tryz.f120
theorem zzE : A.funcs[120]? = some Tryz.f120 := by kernel_rfl
noncomputable def B121 : Code := z0m Tryz.f121
theorem zAm : A.funcs[121]? = some Tryz.f121 := by kernel_rfl
noncomputable def B122 : Code := z0m Tryz.f122
theorem zAt : A.funcs[122]? = some Tryz.f122 := by kernel_rfl
noncomputable def B129 : Code := z0m Tryz.f129
theorem zzP : A.funcs[129]? = some Tryz.f129 := by kernel_rfl
noncomputable def B130 : Code := z0m Tryz.f130
theorem zAh : A.funcs[130]? = some Tryz.f130 := by kernel_rfl
noncomputable def B131 : Code := z0m Tryz.f131
theorem zzS : A.funcs[131]? = some Tryz.f131 := by kernel_rfl
noncomputable def B132 : Code := z0m Tryz.f132
theorem zA7 : A.funcs[132]? = some Tryz.f132 := by kernel_rfl
noncomputable def B138 : Code := z0m Tryz.f138
theorem zzH : A.funcs[138]? = some Tryz.f138 := by kernel_rfl
noncomputable def B139 : Code := z0m Tryz.f139
theorem zzF : A.funcs[139]? = some Tryz.f139 := by kernel_rfl
noncomputable def B140 : Code := z0m Tryz.f140
theorem zzA : A.funcs[140]? = some Tryz.f140 := by kernel_rfl
noncomputable def B141 : Code := z0m Tryz.f141
theorem zzN : A.funcs[141]? = some Tryz.f141 := by kernel_rfl
noncomputable def B142 : Code := z0m Tryz.f142
theorem zAO : A.funcs[142]? = some Tryz.f142 := by kernel_rfl
noncomputable def B143 : Code := z0m Tryz.f143
theorem zAk : A.funcs[143]? = some Tryz.f143 := by kernel_rfl
noncomputable def B144 : Code := z0m Tryz.f144
theorem zA4 : A.funcs[144]? = some Tryz.f144 := by kernel_rfl
noncomputable def B145 : Code := z0m Tryz.f145
theorem zzn : A.funcs[145]? = some Tryz.f145 := by kernel_rfl
noncomputable def B146 : Code := z0m Tryz.f146
theorem zA6 : A.funcs[146]? = some Tryz.f146 := by kernel_rfl
noncomputable def B147 : Code := z0m Tryz.f147
theorem zAe : A.funcs[147]? = some Tryz.f147 := by kernel_rfl
noncomputable def B148 : Code := z0m Tryz.f148
theorem zAs : A.funcs[148]? = some Tryz.f148 := by kernel_rfl
noncomputable def B153 : Code := z0m Tryz.f153
theorem zA0 : A.funcs[153]? = some Tryz.f153 := by kernel_rfl
noncomputable def B154 : Code := z0m Tryz.f154
theorem zAw : A.funcs[154]? = some Tryz.f154 := by kernel_rfl
noncomputable def B155 : Code := z0m Tryz.f155
theorem zzz : A.funcs[155]? = some Tryz.f155 := by kernel_rfl
noncomputable def B156 : Code := z0m Tryz.f156
theorem zAD : A.funcs[156]? = some Tryz.f156 := by kernel_rfl
noncomputable def B157 : Code := z0m Tryz.f157
theorem zzf : A.funcs[157]? = some Tryz.f157 := by kernel_rfl
noncomputable def B158 : Code := z0m Tryz.f158
theorem zxS : A.funcs[158]? = some Tryz.f158 := by kernel_rfl
noncomputable def B164 : Code := z0m Tryz.f164
theorem zzD : A.funcs[164]? = some Tryz.f164 := by kernel_rfl
noncomputable def B165 : Code := z0m Tryz.f165
theorem zzq : A.funcs[165]? = some Tryz.f165 := by kernel_rfl
noncomputable def B166 : Code := z0m Tryz.f166
theorem zzr : A.funcs[166]? = some Tryz.f166 := by kernel_rfl
noncomputable def B167 : Code := z0m Tryz.f167
theorem zCK : A.funcs[167]? = some Tryz.f167 := by kernel_rfl
noncomputable def B168 : Code := z0m Tryz.f168
theorem zCB : A.funcs[168]? = some Tryz.f168 := by kernel_rfl
noncomputable def B176 : Code := z0m Tryz.f176
theorem zzo : A.funcs[176]? = some Tryz.f176 := by kernel_rfl
noncomputable def B177 : Code := z0m Tryz.f177
theorem zzv : A.funcs[177]? = some Tryz.f177 := by kernel_rfl
noncomputable def B182 : Code := z0m Tryz.f182
theorem zzZ : A.funcs[182]? = some Tryz.f182 := by kernel_rfl
noncomputable def B183 : Code := z0m Tryz.f183
theorem zA9 : A.funcs[183]? = some Tryz.f183 := by kernel_rfl
noncomputable def B184 : Code := z0m Tryz.f184
theorem zAp : A.funcs[184]? = some Tryz.f184 := by kernel_rfl
noncomputable def B187 : Code := z0m Tryz.f187
theorem zA1 : A.funcs[187]? = some Tryz.f187 := by kernel_rfl
noncomputable def B189 : Code := z0m Tryz.f189
theorem zAE : A.funcs[189]? = some Tryz.f189 := by kernel_rfl
noncomputable def B190 : Code := z0m Tryz.f190
theorem zzt : A.funcs[190]? = some Tryz.f190 := by kernel_rfl
noncomputable def B191 : Code := z0m Tryz.f191
theorem zxg : A.funcs[191]? = some Tryz.f191 := by kernel_rfl
noncomputable def B198 : Code := z0m Tryz.f198
theorem zAJ : A.funcs[198]? = some Tryz.f198 := by kernel_rfl
noncomputable def B199 : Code := z0m Tryz.f199
theorem zAv : A.funcs[199]? = some Tryz.f199 := by kernel_rfl
noncomputable def B208 : Code := z0m Tryz.f208
theorem zzh : A.funcs[208]? = some Tryz.f208 := by kernel_rfl
noncomputable def B209 : Code := z0m Tryz.f209
theorem zzm : A.funcs[209]? = some Tryz.f209 := by kernel_rfl
noncomputable def B212 : Code := z0m Tryz.f212
theorem zAb : A.funcs[212]? = some Tryz.f212 := by kernel_rfl
noncomputable def B213 : Code := z0m Tryz.f213
theorem zxO : A.funcs[213]? = some Tryz.f213 := by kernel_rfl
noncomputable def B214 : Code := z0m Tryz.f214
theorem zy3 : A.funcs[214]? = some Tryz.f214 := by kernel_rfl
noncomputable def B215 : Code := z0m Tryz.f215
theorem zxF : A.funcs[215]? = some Tryz.f215 := by kernel_rfl
noncomputable def B234 : Code := z0m Tryz.f234
theorem zzx : A.funcs[234]? = some Tryz.f234 := by kernel_rfl
noncomputable def B235 : Code := z0m Tryz.f235
theorem zAK : A.funcs[235]? = some Tryz.f235 := by kernel_rfl
noncomputable def B236 : Code := z0m Tryz.f236
theorem zA8 : A.funcs[236]? = some Tryz.f236 := by kernel_rfl
noncomputable def B252 : Code := z0m Tryz.f252
theorem zzj : A.funcs[252]? = some Tryz.f252 := by kernel_rfl
noncomputable def B253 : Code := z0m Tryz.f253
theorem zAu : A.funcs[253]? = some Tryz.f253 := by kernel_rfl
noncomputable def B256 : Code := z0m Tryz.f256
theorem zAB : A.funcs[256]? = some Tryz.f256 := by kernel_rfl
noncomputable def B257 : Code := z0m Tryz.f257
theorem zx9 : A.funcs[257]? = some Tryz.f257 := by kernel_rfl
noncomputable def B258 : Code := z0m Tryz.f258
theorem zxV : A.funcs[258]? = some Tryz.f258 := by kernel_rfl
noncomputable def B259 : Code := z0m Tryz.f259
theorem zzO : A.funcs[259]? = some Tryz.f259 := by kernel_rfl
noncomputable def B267 : Code := z0m Tryz.f267
theorem zzs : A.funcs[267]? = some Tryz.f267 := by kernel_rfl
noncomputable def B268 : Code := z0m Tryz.f268
theorem zAf : A.funcs[268]? = some Tryz.f268 := by kernel_rfl
noncomputable def B273 : Code := z0m Tryz.f273
theorem zzw : A.funcs[273]? = some Tryz.f273 := by kernel_rfl
noncomputable def B274 : Code := z0m Tryz.f274
theorem zAo : A.funcs[274]? = some Tryz.f274 := by kernel_rfl
noncomputable def B276 : Code := z0m Tryz.f276
theorem zzV : A.funcs[276]? = some Tryz.f276 := by kernel_rfl
noncomputable def B277 : Code := z0m Tryz.f277
theorem zAi : A.funcs[277]? = some Tryz.f277 := by kernel_rfl
noncomputable def B278 : Code := z0m Tryz.f278
theorem zAL : A.funcs[278]? = some Tryz.f278 := by kernel_rfl
abbrev GoT : Type := V → List  C → List  C → Prop
def r0 : RD := ⟨[],[],[],[],  []⟩
variable [PE.Ground] [Tables]
theorem zay : ∀ (a0 : (List Str)) (r : (List Str)),z4x a0 = some r → PE.Spec A 106 [(.lst .str a0 0)] [] (.row 0) [] [(.row .str r 0)] :=
  fun a0 r h => z0d h (fun hf h => by
    injection h with h
    subst h
    exact zlU (by kernel_rfl) (fun e => by subst e; exact z0n z09 zxf (by kernel_rfl) (z01 (.ret [.nilRow 2 .str 7] [7]) 8 [r0,r0,r0] (And.intro (Eq.refl (.row 0 : V)) (And.intro (Eq.refl ([] : List C)) (Eq.refl ([.row .str ([] : List (El .str)) 0] : List C)))) (by kernel_rfl)))
      (z0n z09 zxf (by kernel_rfl) (z01 (.ret [] [400200]) 9 [r0,r0,r0] (And.intro hf (And.intro (Eq.refl (.row 0 : V)) (And.intro (Eq.refl ([] : List C)) (Eq.refl ([.row .str a0 0] : List C))))) (by kernel_rfl))))
theorem z9a : ∀ (a0 : (List z00)) (r : (List z00)),z3i a0 = some r → PE.Spec A 107 [(.lst (.user 3) a0 0)] [] (.row 0) [] [(.row (.user 3) r 0)] :=
  fun a0 r h => z0d h (fun hf h => by
    injection h with h
    subst h
    exact zlU (by kernel_rfl) (fun e => by subst e; exact z0n z09 zy7 (by kernel_rfl) (z01 (.ret [.nilRow 2 (.user 3) 7] [7]) 8 [r0,r0,r0] (And.intro (Eq.refl (.row 0 : V)) (And.intro (Eq.refl ([] : List C)) (Eq.refl ([.row (.user 3) ([] : List (El (.user 3))) 0] : List C)))) (by kernel_rfl)))
      (z0n z09 zy7 (by kernel_rfl) (z01 (.ret [] [400200]) 9 [r0,r0,r0] (And.intro hf (And.intro (Eq.refl (.row 0 : V)) (And.intro (Eq.refl ([] : List C)) (Eq.refl ([.row (.user 3) a0 0] : List C))))) (by kernel_rfl))))
theorem z2x : ∀ (a0 : Str) (a1 : Int) (r : Str),strings_Repeat a0 a1 = some r → PE.Spec A 96 [(.str a0),(.int .i64 a1)] [] (.str r) [] [] :=
  fun a0 a1 r h => z0d h (fun hc h => by
    injection h with h
    subst h
    exact zvs a0 a1 hc.1 hc.2.1 hc.2.2 zBr)
theorem zcU : ∀ (a0 : Int) (r : Int),z6w a0 = some r → PE.Spec A 277 [(.int .u64 a0)] [] (.int .i64 r) [] [] :=
  fun a0 r h => z0d h (fun hc h => by
    injection h with h
    subst h
    subst hc; exact zyU zAi)
theorem za6 : ∀ (a0 : Int) (a1 : Int) (a2 : (List Str)) (r : (List Str)),z7o a0 a1 a2 = some r → PE.Spec A 112 [(.row 0),(.int .i64 a0),(.int .i64 a1)] [(.row .str a2 0)] (.row 1) [.dead] [(.row .str r 0)] := fun _ _ _ r h => z1e h
theorem z8O : ∀ (a0 : Int) (a1 : Int) (a2 : (List z00)) (r : (List z00)),z5E a0 a1 a2 = some r → PE.Spec A 113 [(.row 0),(.int .i64 a0),(.int .i64 a1)] [(.row (.user 3) a2 0)] (.row 1) [.dead] [(.row (.user 3) r 0)] := fun _ _ _ r h => z1e h
theorem z5M : ∀ (a0 : Int) (a1 : (List Str)) (a2 : (List Str)) (r : (List Str)),z3Y a0 a1 a2 = some r → PE.Spec A 114 [(.row 0),(.int .i64 a0),(.lst .str a1 0)] [(.row .str a2 0)] (.row 1) [.dead] [(.row .str r 0)] :=
  fun a0 a1 a2 r h => z0d h (fun hc h => by
    injection h with h
    subst h
    obtain ⟨rfl,h1,h2,h3⟩ := hc; exact zxl a2 a1 h1 h2 h3 zAn)
theorem z4F : ∀ (a0 : Int) (a1 : (List z00)) (a2 : (List z00)) (r : (List z00)),z3e a0 a1 a2 = some r → PE.Spec A 115 [(.row 0),(.int .i64 a0),(.lst (.user 3) a1 0)] [(.row (.user 3) a2 0)] (.row 1) [.dead] [(.row (.user 3) r 0)] :=
  fun a0 a1 a2 r h => z0d h (fun hc h => by
    injection h with h
    subst h
    obtain ⟨rfl,h1,h2,h3⟩ := hc; exact zwq a2 a1 h1 h2 h3 zAA)
theorem z2h : ∀ (a0 : Int) (a1 : Int) (a2 : (List Int)) (r : (List Int)),z0Y a0 a1 a2 = some r → PE.Spec A 278 [(.row 0),(.int .u64 a0),(.int .i64 a1)] [(.row (.int .u8) a2 0)] (.row 1) [.dead] [(.row (.int .u8) r 0)] :=
  fun a0 a1 a2 r h => z0d h (fun hc h => by
    injection h with h
    subst h
    obtain ⟨rfl,h0,h1,h2⟩ := hc; obtain ⟨u,rfl⟩ := Int.eq_ofNat_of_zero_le h0; exact znC a2 u (by omega) h2 zAL)
theorem zly : ∀ (a0 : Int) (a1 : Int) (a2 : (List Int)) (r : (List Int)),z0Y a0 a1 a2 = some r → PE.Spec A 278 [(.row 0),(.int .u64 a0),(.int .i64 a1)] [(.row (.int .u8) a2 0)] (.lst (.int .u8) r 0) [.dead] [] := fun a0 a1 a2 r h => z5g (.list (.int .u8)) r (by kernel_rfl) (z2h a0 a1 a2 r h)
theorem z9n : ∀ (a0 : Int) (a1 : Int) (r : (List Int)),z3y a0 a1 = some r → PE.Spec A 278 [.nil,(.int .u64 a0),(.int .i64 a1)] [] (.row 0) [] [(.row (.int .u8) r 0)] := fun _ _ r h => z1e h
theorem zjm : ∀ (a0 : Int) (a1 : Int) (r : (List Int)),z3y a0 a1 = some r → PE.Spec A 278 [.nil,(.int .u64 a0),(.int .i64 a1)] [] (.lst (.int .u8) r 0) [] [] := fun _ _ r h => z1e h
theorem ztZ : ∀ (a0 : Str) (a1 : Int) (r : Str),zop a0 a1 = some r → PE.Spec A 156 [(.str a0),(.int .i64 a1)] [] (.str r) [] [] :=
  fun a0 a1 r h => z0d h (fun hc h => by
    injection h with h
    subst h
    exact zxM a0 a1 hc zAD)
theorem z8v : ∀ (a0 : (List z03)) (r : (List z03)),z2S a0 = some r → PE.Spec A 45 [(.lst (.user 0) a0 0)] [] (.row 0) [] [(.row (.user 0) r 0)] :=
  fun a0 r h => z0d h (fun hf h => by
    injection h with h
    subst h
    exact zlU (by kernel_rfl) (fun e => by subst e; exact z0n z09 zz0 (by kernel_rfl) (z01 (.ret [.nilRow 2 (.user 0) 7] [7]) 8 [r0,r0,r0] (And.intro (Eq.refl (.row 0 : V)) (And.intro (Eq.refl ([] : List C)) (Eq.refl ([.row (.user 0) ([] : List (El (.user 0))) 0] : List C)))) (by kernel_rfl)))
      (z0n z09 zz0 (by kernel_rfl) (z01 (.ret [] [400200]) 9 [r0,r0,r0] (And.intro hf (And.intro (Eq.refl (.row 0 : V)) (And.intro (Eq.refl ([] : List C)) (Eq.refl ([.row (.user 0) a0 0] : List C))))) (by kernel_rfl))))
theorem zey : ∀ (a0 : Int) (r : Str),internal_strconv_Itoa a0 = some r → PE.Spec A 268 [(.int .i64 a0)] [] (.str r) [] [] :=
  fun a0 r h => z0d h (fun hc h => by
    injection h with h
    subst h
    exact zx3 a0 hc.1 hc.2 zAf)
theorem zoQ : ∀ (a0 : z00) (r : (Str × Int)),zm9 a0 = some r → PE.Spec A 167 [(.agg [(.int .i64 a0.z08),(.bool a0.z0c),(.int .i64 a0.z06),(.str a0.z0b),(.lst .str a0.z07 0),(.lst (.user 3) a0.z05 0)])] [] (.tuple [(.str r.1),(.int .i64 r.2)]) [] [] := fun _ r h => z1e h
theorem zoD : ∀ (a0 : z00) (r : (Str × Int)),zmq a0 = some r → PE.Spec A 168 [(.agg [(.int .i64 a0.z08),(.bool a0.z0c),(.int .i64 a0.z06),(.str a0.z0b),(.lst .str a0.z07 0),(.lst (.user 3) a0.z05 0)])] [] (.tuple [(.str r.1),(.int .i64 r.2)]) [] [] := fun _ r h => z1e h
def z8E (goal : GoT) (r : Unit) : Prop := goal (.map 0) [] [(.tmap (.int .i64) (.user 4) ((ast (fun y => 8 == y) 8 (⟨([49,65,65,76] : Str),6⟩ : z02) (ast (fun y => 7 == y) 7 (⟨([83] : Str),626⟩ : z02) (ast (fun y => 6 == y) 6 (⟨([77] : Str),2⟩ : z02) (ast (fun y => 5 == y) 5 (⟨([48,65] : Str),16⟩ : z02) (ast (fun y => 4 == y) 4 (⟨([65] : Str),32⟩ : z02) (ast (fun y => 3 == y) 3 (⟨([66] : Str),32⟩ : z02) (ast (fun y => 2 == y) 2 (⟨([68] : Str),32⟩ : z02) (ast (fun y => 1 == y) 1 (⟨([69] : Str),32⟩ : z02) ([] : List (Int × z02)))))))))) : (List (Int × z02))))]
def zeM (r : Unit) : Prop := PE.Spec A 131 [] [] (.map 0) [] [(.tmap (.int .i64) (.user 4) ((ast (fun y => 8 == y) 8 (⟨([49,65,65,76] : Str),6⟩ : z02) (ast (fun y => 7 == y) 7 (⟨([83] : Str),626⟩ : z02) (ast (fun y => 6 == y) 6 (⟨([77] : Str),2⟩ : z02) (ast (fun y => 5 == y) 5 (⟨([48,65] : Str),16⟩ : z02) (ast (fun y => 4 == y) 4 (⟨([65] : Str),32⟩ : z02) (ast (fun y => 3 == y) 3 (⟨([66] : Str),32⟩ : z02) (ast (fun y => 2 == y) 2 (⟨([68] : Str),32⟩ : z02) (ast (fun y => 1 == y) 1 (⟨([69] : Str),32⟩ : z02) ([] : List (Int × z02)))))))))) : (List (Int × z02))))]
theorem zjC (r : Unit) (H : ∀ goal : GoT,z8E goal r → PtS A 131 0 [.code (sub B131 [])] ⟨[],[]⟩ goal) : zeM r :=
  z0n z09 zzS (by kernel_rfl) (H _ ⟨rfl,rfl,rfl⟩)
theorem zke (n : Nat) : ∀ (r : Unit),z4C n = some r → ∀ (goal : GoT),z8E goal r → PtS A 131 0 [.code (sub B131 [])] ⟨[],[]⟩ goal :=
  fun r h goal hq => have h := Eq.trans (Eq.symm (z4C.eq_1 n)) h
    (z01 (.ret [] [200000]) 4 [r0,r0] (z0e (Φ := z8E goal) h hq) (by kernel_rfl))
theorem z3L (n : Nat) (r : Unit) (h : z4C n = some r) : zeM r := zjC  r (zke n  r h)
def z1D (goal : GoT) (r : Bool) : Prop := goal (.bool r) [] []
def z5x (a0 : Str) (a1 : Str) (r : Bool) : Prop := PE.Spec A 177 [(.str a0),(.str a1)] [] (.bool r) [] []
theorem z9s (a0 : Str) (a1 : Str) (r : Bool) (H : ∀ goal : GoT,z1D goal r → PtS A 177 0 [.code (sub B177 [])] ⟨[(0,(.str a0)),(1,(.str a1))],[]⟩ goal) : z5x a0 a1 r :=
  z0n z09 zzv (by kernel_rfl) (H _ ⟨rfl,rfl,rfl⟩)
theorem z9M (n : Nat) : ∀ (a0 : Str) (a1 : Str) (r : Bool),z18 n a0 a1 = some r → ∀ (goal : GoT),z1D goal r → PtS A 177 0 [.code (sub B177 [])] ⟨[(0,(.str a0)),(1,(.str a1))],[]⟩ goal :=
  fun a0 a1 r h goal hq => have h := Eq.trans (Eq.symm (z18.eq_1 n a0 a1)) h
    (z0j h (fun b1 h => (z0d h (fun b2 h => (z01 (.ret [] []) 4 [r0,⟨[],[],[(5,true)],[],[]⟩] (And.intro b1 (And.intro b2 (z0e (Φ := z1D goal) h hq))) (by kernel_rfl))))) (fun b1 h => (z01 (.ret [] []) 4 [r0,⟨[],[],[(5,false)],[],[]⟩] (And.intro b1 (z0e (Φ := z1D goal) h hq)) (by kernel_rfl))))
theorem z2U (n : Nat) (a0 : Str) (a1 : Str) (r : Bool) (h : z18 n a0 a1 = some r) : z5x a0 a1 r := z9s a0 a1 r (z9M n a0 a1 r h)
def z7D (goal : GoT) (r : Bool) : Prop := goal (.bool r) [] []
def zcx (a0 : Str) (a1 : Str) (r : Bool) : Prop := PE.Spec A 132 [(.str a0),(.str a1)] [] (.bool r) [] []
theorem zhz (a0 : Str) (a1 : Str) (r : Bool) (H : ∀ goal : GoT,z7D goal r → PtS A 132 0 [.code (sub B132 [])] ⟨[(0,(.str a0)),(1,(.str a1))],[]⟩ goal) : zcx a0 a1 r :=
  z0n z09 zA7 (by kernel_rfl) (H _ ⟨rfl,rfl,rfl⟩)
theorem zhD (n : Nat) : ∀ (a0 : Str) (a1 : Str) (r : Bool),strings_HasPrefix n a0 a1 = some r → ∀ (goal : GoT),z7D goal r → PtS A 132 0 [.code (sub B132 [])] ⟨[(0,(.str a0)),(1,(.str a1))],[]⟩ goal :=
  fun a0 a1 r h goal hq => have h := Eq.trans (Eq.symm (strings_HasPrefix.eq_1 n a0 a1)) h
    (z0f h (fun b2 b1 h => (z01 (.ret [] []) 4 [r0,⟨[],[(2,.call [] [some .str,some .str] (.bool b2) [] [])],[],[],[]⟩] (And.intro (z2U n a0 a1 b2 b1) (z0e (Φ := z7D goal) h hq)) (by kernel_rfl))))
theorem zbu (n : Nat) (a0 : Str) (a1 : Str) (r : Bool) (h : strings_HasPrefix n a0 a1 = some r) : zcx a0 a1 r := zhz a0 a1 r (zhD n a0 a1 r h)
end Go.Proofs.YtifmnhcmmoacfaaGreatDoorQ
set_option maxRecDepth 100000
namespace Go.Proofs.YtifmnhcmmoacfaaGreatDoorQ
open Go Go.PE
theorem hasPrefix (n : Nat) (s c : Str) : strings_HasPrefix n s c = some (c.isPrefixOf s) := by
  unfold strings_HasPrefix z18
  by_cases h : c.length ≤ s.length
  · have h1 : decide ((s.length : Int) ≥ (c.length : Int)) = true := by simpa using h
    have h2 : cLo (c.length : Int) s.length := ⟨by omega,by omega⟩
    rw [if_pos h1,if_pos h2,Int.toNat_natCast]
    show some (List.take c.length s == c) = some (c.isPrefixOf s)
    congr 1
    rw [Bool.eq_iff_iff,List.isPrefixOf_iff_prefix,List.prefix_iff_eq_take]
    simp only [beq_iff_eq]
    exact ⟨fun q => q.symm,fun q => q.symm⟩
  · have h1 : decide ((s.length : Int) ≥ (c.length : Int)) = false := by simpa using h
    rw [if_neg (by rw [h1]; simp)]
    show some false = some (c.isPrefixOf s)
    congr 1
    cases hp : c.isPrefixOf s with
    | false => rfl
    | true => exact absurd (List.isPrefixOf_iff_prefix.1 hp).length_le h
theorem zxW : ∀ p ∈ z1s,∀ q ∈ z1s,p.1 = q.1 → p = q := by
  intro p hp q hq e
  simp only [z1s,List.mem_cons,List.mem_nil_iff,or_false] at hp hq
  rcases hp with rfl | rfl | rfl | rfl | rfl | rfl | rfl | rfl <;> rcases hq with rfl | rfl | rfl | rfl | rfl | rfl | rfl | rfl <;> first
    | rfl
    | (simp at e)
theorem zv3 {text : Str} (h : ∀ p ∈ z1s,p.2.z3q.isPrefixOf text = false) : z1S text = some (0,⟨[],0⟩,false) := by
  have : z1s.find? (fun p => p.2.z3q.isPrefixOf text) = none := by
    rw [List.find?_eq_none]
    intro p hp
    rw [h p hp]; simp
  simp only [z1S,this]
theorem zwF {text : Str} {p : Int × z02} (hp : p ∈ z1s) (h : p.2.z3q.isPrefixOf text = true) : z1S text = some (p.1,p.2,true) := by
  simp only [z1s,List.mem_cons,List.mem_nil_iff,or_false] at hp
  cases text with
  | nil => rcases hp with rfl | rfl | rfl | rfl | rfl | rfl | rfl | rfl <;> simp at h
  | cons x t =>
    rcases hp with rfl | rfl | rfl | rfl | rfl | rfl | rfl | rfl <;> (simp [List.isPrefixOf] at h) <;> first
      | (subst h; simp [z1S,z1s,List.find?,List.isPrefixOf])
      | (obtain ⟨rfl,h⟩ := h; have h' := List.isPrefixOf_iff_prefix.2 h; simp [z1S,z1s,List.find?,List.isPrefixOf,h'])
variable [PE.Ground] [Tables]
noncomputable abbrev kA : List Item := [.code (sub B94 [1,0,0]),.code (sub B94 [1,0,1]),.code (sub B94 [1,1])]
noncomputable abbrev kL : List Item := [.code (sub B94 [1,0,1,0,0]),.inLoop (sub B94 [1,0,1,0,0]),.inBlock 0,.code (sub B94 [1,1])]
noncomputable abbrev kM : List Item := [.code (sub B94 [1,0,1,0,0,1]),.inLoop (sub B94 [1,0,1,0,0]),.inBlock 0,.code (sub B94 [1,1])]
noncomputable abbrev kE : List Item := [.code (sub B94 [1,0,1,0,0,1,1,0,0]),.code (sub B94 [1,0,1,0,0,1,1,0,1]),.inBlock 1,.inLoop (sub B94 [1,0,1,0,0]),.inBlock 0,.code (sub B94 [1,1])]
noncomputable abbrev kO : List Item := [.code (sub B94 [1,0,1,0,0,1,1,0,1]),.inBlock 1,.inLoop (sub B94 [1,0,1,0,0]),.inBlock 0,.code (sub B94 [1,1])]
def stA (text : Str) : St := ⟨[(0,.str text),(3,.ptr 0 0)],[(0,.box [.str [],.int .i64 0])]⟩
def stL (text : Str) (bm c : Nat) (seen : Array Nat) : St := ⟨[(0,.str text),(3,.ptr 0 0),(8,.ptr 1 0)],[(0,.box [.str [],.int .i64 0]),(1,.miter bm c seen c)]⟩
def zxz (text : Str) (bm c : Nat) (seen : Array Nat) : St := ⟨(10,.bool false) :: (9,.tuple [.bool false]) :: (stL text bm c seen).tm,(stL text bm c seen).hp⟩
def stE (text : Str) (bm c : Nat) (seen : Array Nat) : St := ⟨(10,.bool true) :: (9,.tuple [.bool true,.undef,.undef]) :: (stL text bm c seen).tm,(stL text bm c seen).hp⟩
def stR (text : Str) (bm c : Nat) (seen : Array Nat) (p : Int × z02) : St := ⟨(11,.tuple [.int .i64 p.1,.agg [.str p.2.z3q,.int .i64 p.2.zcT]]) :: (stL text bm c seen).tm,(stL text bm c seen).hp⟩
def stO (text : Str) (bm c : Nat) (seen : Array Nat) (p : Int × z02) : St :=
  ⟨(5,.int .i64 p.1) :: (6,.ptr 400300 0) :: (13,.agg [.str p.2.z3q,.int .i64 p.2.zcT]) :: (12,.int .i64 p.1) :: (stR text bm c seen p).tm,(400300,.box [.str p.2.z3q,.int .i64 p.2.zcT]) :: (400300,.box [.str [],.int .i64 0]) :: (stR text bm c seen p).hp⟩
def rV (r : Int × z02 × Bool) : V := .tuple [(.int .i64 r.1),(.agg [(.str r.2.1.z3q),(.int .i64 r.2.1.zcT)]),(.bool r.2.2)]
def won (r : Int × z02 × Bool) : V → List C → List C → Prop := fun v o n => v = rV r ∧ o = [] ∧ n = []
noncomputable abbrev ops1 : Array Oper := zzG (sub B94 [1,0,0])
noncomputable abbrev ops2 : Array Oper := zzG (sub B94 [1,0,1,0,0,0])
noncomputable abbrev ops3 : Array Oper := zzG (sub B94 [1,0,1,0,0,1,1,0,0])
noncomputable abbrev opN (ops : Array Oper) (i : Nat) : Oper := (ops[i]?).getD default
structure zxk (cx : Cx) (text : Str) (bm c : Nat) (ens : Array MapEntry) (seen : Array Nat) : Prop where
  lt : bm < cx.w0.heap.size
  map : cx.w0.heap[bm]? = some (.map ens c)
  own : ¬ cx.hid bm
  nd : (ens.toList.map (·.born)).Nodup
  born : ∀ e ∈ ens.toList,e.born < c
  rep : zhI cx.I0 (fun _ => none) (.int .i64) (.user 4) z1s ens.toList
  no : ∀ e ∈ ens.toList,seen.contains e.born = true → ∀ p ∈ z1s,e.key = .int .i64 p.1 → p.2.z3q.isPrefixOf text = false
theorem zvP {cx : Cx} {I : Facts} {s : Hand} {w : World} {text : Str} {bm c : Nat} {seen : Array Nat} (h : WInv cx I s (get (stL text bm c seen).hp) w) : ∃ b,s 1 = some (.pointer (some ⟨b,0,none⟩)) ∧ w.heap[b]? = some (.mapIter (some bm) c seen c) := by
  have := h.cont 1 (.miter bm c seen c) rfl
  simpa only [repC] using this
theorem zxb {cx : Cx} {I : Facts} {s : Hand} {w : World} {nt : Nat} {st : St} {a : Act} {d : Nat} {x : V} {v : Value} (h : WInv cx I s (get st.hp) w) (hs : ∀ t,z1x I s st.tm a.tmps t) (hn : nt ≤ a.tmps.size) (hd : d < nt) (hdf : a.defers = []) (hx : repV I s x v) :
    At cx I s nt ⟨(d,x) :: st.tm,st.hp⟩ (a.put (some d) v) w := by
  refine ⟨⟨I,s,Facts.le_refl _,Hand.le_refl _,h,fun t => ?_⟩,by rw [zjJ]; exact hn,by rw [put_defers]; exact hdf⟩
  unfold z1x
  rw [zo4 a (d := some d) (by simpa [zsp,Nat.blt_eq] using hd) hn,zjL]
  by_cases e : d = t
  · subst e; simpa using hx
  · rw [if_neg e,if_neg (fun q => e (Option.some.inj q))]; exact hs t
theorem round (text : Str) (r : Int × z02 × Bool) (hr : z1S text = some r) {cx : Cx} {bm c : Nat} {ens : Array MapEntry} {seen : Array Nat} (hk : zxk cx text bm c ens seen) {e : MapEntry} (he : e ∈ (leftOf ens seen).toList)
    (ih : zxk cx text bm c ens (seen.push e.born) → PtC cx A 94 0 kL (stL text bm c (seen.push e.born)) (won r)) : PtC cx A 94 0 kE (stL text bm c (seen.push e.born)) (won r) := by
  intro hm fn hfn I s a w hG hw hs hsz hdf b cs k' hlk hb hbk
  obtain rfl : k' = kE := hlk.resolve_right (by rintro ⟨q,_⟩; have := congrArg List.length q; simp at this)
  have hfn' : fn = Tryz.f94 := Option.some.inj (hfn.symm.trans zwe)
  subst hfn'
  have hnt : Tryz.f94.ntmps = 21 := by kernel_rfl
  have hreg : sub B94 [1,0,1,0,0,1,1,0,0] = .region 3 ops3 false := by kernel_rfl
  obtain ⟨bi,hbi,hci⟩ := zvP hw
  have hmap : w.heap[bm]? = some (.map ens c) := (hw.same bm hk.lt hk.own).1.trans hk.map
  have hmem := mem_left he
  obtain ⟨p,hp,hkey,hval⟩ := ztM _ _ hk.rep e hmem.1
  have hval' : repV I s (.agg [.str p.2.z3q,.int .i64 p.2.zcT]) e.val := z3V hw.le (fun _ _ q => by cases q) _ _ hval
  have hrun := run_entry_at (P := A) w bi bm c seen ens c e hci hmap hmem.1 hk.nd
  have h8 : a.eval (.tmp 8) = .pointer (some ⟨bi,0,none⟩) := by
    have := hs 8
    unfold z1x at this
    have e8 : getV (stL text bm c (seen.push e.born)).tm 8 = .ptr 1 0 := rfl
    rw [e8] at this
    simp only [repV] at this
    obtain ⟨b',q1,q2⟩ := this
    rw [hbi] at q1
    cases q1
    exact q2
  have h0 : ops3[0]? = some (opN ops3 0) := by kernel_rfl
  have hop : (opN ops3 0).op = .entry (.tmp 8) := by kernel_rfl
  have hdst : (opN ops3 0).dst = some 11 := by kernel_rfl
  have hgd : (opN ops3 0).guard = none := by kernel_rfl
  have hex : execOp a.eval (opN ops3 0) = (Instr.entry (a.eval (.tmp 8)) >>= fun v => pure (Next.value v)) := by unfold execOp; rw [hop]
  have hrange : List.range ops3.size = 0 :: List.range' 1 (ops3.toList.drop 1).length := by kernel_rfl
  show PE.Ends cx A 94 0 (won r) I s (lone (b.at a (.code (sub B94 [1,0,1,0,0,1,1,0,0]) :: kO)) cs w) cs
  rw [hreg]
  refine zj4 (S := fun a' w' => At cx I s 21 (stO text bm c (seen.push e.born) p) a' w') hbk ?_ ?_
  · rw [hrange,wpOps_cons]
    refine zhu h0 hgd (by rw [hex,h8]; exact z8s hrun) ?_
    rw [hdst]
    have hat : At cx I s 21 (stR text bm c (seen.push e.born) p) (a.put (some 11) (.tuple #[e.key,e.val])) w :=
      zxb hw hs (by rw [← hnt]; exact hsz) (by omega) hdf (by
        simp only [repV]
        exact ⟨_,rfl,by simp only [z0s]; exact ⟨by simp only [repV]; exact hkey,hval',trivial⟩⟩)
    refine zls (Iin := I) (sin := s) (st' := stO text bm c (seen.push e.born) p) (ps := []) (rid := 3) (d := ⟨[],[],[],[],[]⟩) hG (by kernel_rfl) (fun q hq => by simp at hq) (fun j o hj => ?_) (fun a' w' q => q) hat
    have : (ops3.toList.drop 1)[j]? = ops3.toList[1 + j]? := List.getElem?_drop
    rw [this] at hj
    simpa using hj
  · intro a' w' ⟨⟨I1,s1,q1,q2,q3,q4⟩,q5,q6⟩
    cases hpre : p.2.z3q.isPrefixOf text with
    | true =>
      have hr2 := zwF hp hpre
      rw [hr] at hr2
      obtain rfl := Option.some.inj hr2
      have hpt : PtC cx A 94 0 kO (stO text bm c (seen.push e.born) p) (won (p.1,p.2,true)) :=
        zck (PT := fun _ _ => False) (fun _ _ q => q.elim) (.ret [] []) 5 [⟨[],[(3,.call [] [some .str,some .str] (.bool true) [] [])],[],[],[]⟩,⟨[],[],[],[],[]⟩]
          (And.intro (zbu 1 text p.2.z3q true (by rw [hasPrefix,hpre])) (show won (p.1,p.2,true) (rV (p.1,p.2,true)) [] [] from ⟨rfl,rfl,rfl⟩)) (by kernel_rfl)
      exact (hpt hm _ hfn I1 s1 a' w' hG q3 q4 (by rw [hnt]; exact q5) q6 b cs kO (.inl rfl) hb hbk).mono q1 fun i hi => by omega
    | false =>
      have hk' : zxk cx text bm c ens (seen.push e.born) := by
        refine ⟨hk.lt,hk.map,hk.own,hk.nd,hk.born,hk.rep,fun x hx hsn q hq hkq => ?_⟩
        rw [Array.contains_push,Bool.or_eq_true] at hsn
        by_cases hxe : x.born = e.born
        · have hxx : x = e := by
            have := hk.nd
            rw [List.nodup_iff_pairwise_ne,List.pairwise_map] at this
            by_cases h : x = e
            · exact h
            · exfalso
              obtain ⟨i,hi⟩ := List.getElem?_of_mem hx
              obtain ⟨j,hj⟩ := List.getElem?_of_mem hmem.1
              have hne : i ≠ j := by rintro rfl; rw [hi] at hj; exact h (Option.some.inj hj)
              obtain ⟨li,ei⟩ := List.getElem?_eq_some_iff.1 hi
              obtain ⟨lj,ej⟩ := List.getElem?_eq_some_iff.1 hj
              rcases Nat.lt_or_gt_of_ne hne with q | q
              · exact List.pairwise_iff_getElem.1 this i j li lj q (by rw [ei,ej,hxe])
              · exact List.pairwise_iff_getElem.1 this j i lj li q (by rw [ei,ej,hxe])
          subst hxx
          have hkey' : x.key = .int .i64 p.1 := hkey
          rw [hkey'] at hkq
          have : p.1 = q.1 := by injection hkq
          rw [← zxW p hp q hq this]
          exact hpre
        · exact hk.no x hx (by
            rcases hsn with h | h
            · exact h
            · exact absurd (by simpa using h) hxe) q hq hkq
      have hpt : PtC cx A 94 0 kO (stO text bm c (seen.push e.born) p) (won r) :=
        zck (PT := fun k st => k = kL ∧ st = stL text bm c (seen.push e.born)) (fun k st q => by obtain ⟨rfl,rfl⟩ := q; exact ih hk') (.cut [] [0,3,8] [0,1]) 6 [⟨[],[(3,.call [] [some .str,some .str] (.bool false) [] [])],[],[],[]⟩]
          (And.intro (zbu 1 text p.2.z3q false (by rw [hasPrefix,hpre])) (And.intro (Eq.refl kL) (Eq.refl (stL text bm c (seen.push e.born))))) (by kernel_rfl)
      exact (hpt hm _ hfn I1 s1 a' w' hG q3 q4 (by rw [hnt]; exact q5) q6 b cs kO (.inl rfl) hb hbk).mono q1 fun i hi => by omega
theorem zyG (text : Str) (r : Int × z02 × Bool) (hr : z1S text = some r) {cx : Cx} {bm c : Nat} {ens : Array MapEntry} : ∀ (n : Nat) (seen : Array Nat),(leftOf ens seen).size = n → zxk cx text bm c ens seen →
    PtC cx A 94 0 kL (stL text bm c seen) (won r) := by
  intro n
  induction n using Nat.strongRecOn with
  | ind n ih =>
  intro seen hn hk hm fn hfn I s a w hG hw hs hsz hdf b cs k' hlk hb hbk
  obtain rfl : k' = kL := hlk.resolve_right (by rintro ⟨q,_⟩; have := congrArg List.length q; simp at this)
  have hfn' : fn = Tryz.f94 := Option.some.inj (hfn.symm.trans zwe)
  subst hfn'
  have hnt : Tryz.f94.ntmps = 21 := by kernel_rfl
  have hseq : sub B94 [1,0,1,0,0] = .seq (sub B94 [1,0,1,0,0,0]) (sub B94 [1,0,1,0,0,1]) := by kernel_rfl
  have hreg : sub B94 [1,0,1,0,0,0] = .region 2 ops2 false := by kernel_rfl
  obtain ⟨bi,hbi,hci⟩ := zvP hw
  have hmap : w.heap[bm]? = some (.map ens c) := (hw.same bm hk.lt hk.own).1.trans hk.map
  have h8 : a.eval (.tmp 8) = .pointer (some ⟨bi,0,none⟩) := by
    have := hs 8
    unfold z1x at this
    have e8 : getV (stL text bm c seen).tm 8 = .ptr 1 0 := rfl
    rw [e8] at this
    simp only [repV] at this
    obtain ⟨b',q1,q2⟩ := this
    rw [hbi] at q1
    cases q1
    exact q2
  have h0 : ops2[0]? = some (opN ops2 0) := by kernel_rfl
  have hop : (opN ops2 0).op = .next (.tmp 8) false := by kernel_rfl
  have hdst : (opN ops2 0).dst = some 9 := by kernel_rfl
  have hgd : (opN ops2 0).guard = none := by kernel_rfl
  have hex : execOp a.eval (opN ops2 0) = (Instr.next (a.eval (.tmp 8)) false (opN ops2 0).type >>= fun v => pure (Next.value v)) := by unfold execOp; rw [hop]
  have hrange : List.range ops2.size = 0 :: List.range' 1 (ops2.toList.drop 1).length := by kernel_rfl
  have hdrop : ∀ (j : Nat) (o : Oper),(ops2.toList.drop 1)[j]? = some o → ops2[1 + j]? = some o := fun j o hj => by
    have : (ops2.toList.drop 1)[j]? = ops2.toList[1 + j]? := List.getElem?_drop
    rw [this] at hj
    simpa using hj
  refine PE.Ends.steps (m' := lone (b.at a (.code (sub B94 [1,0,1,0,0,0]) :: kM)) cs w) ?_ (by
    show Steps A (lone (b.at a (.code (sub B94 [1,0,1,0,0]) :: _)) cs w) _
    rw [hseq]; exact .one step_seq)
  rw [hreg]
  refine zj4 (S := fun a' w' => (At cx I s 21 (zxz text bm c seen) a' w' ∧ (leftOf ens seen).size = 0) ∨ ∃ e ∈ (leftOf ens seen).toList,At cx I s 21 (stE text bm c (seen.push e.born)) a' w') hbk ?_ ?_
  · rw [hrange,wpOps_cons]
    rcases run_next_at (P := A) w (opN ops2 0).type bi bm c c seen ens c hci hmap hk.born (Nat.le_refl _) with ⟨hz,hrun⟩ | ⟨e,he,w1,hw1,hrun⟩
    · refine zhu h0 hgd (by rw [hex,h8]; exact z8s hrun) ?_
      rw [hdst]
      have hat : At cx I s 21 ⟨(9,.tuple [.bool false]) :: (stL text bm c seen).tm,(stL text bm c seen).hp⟩ (a.put (some 9) (.tuple #[.bool false])) w :=
        zxb hw hs (by rw [← hnt]; exact hsz) (by omega) hdf (by
          simp only [repV]
          exact ⟨_,rfl,by simp only [z0s,repV]; exact ⟨trivial,trivial⟩⟩)
      exact zls (Iin := I) (sin := s) (st' := zxz text bm c seen) (ps := []) (rid := 2) (d := ⟨[],[],[],[],[]⟩) hG (by kernel_rfl) (fun q hq => by simp at hq) hdrop (fun a' w' q => .inl ⟨q,hz⟩) hat
    · refine zhu h0 hgd (by rw [hex,h8]; exact z8s hrun) ?_
      rw [hdst]
      have hw2 := hw.stepped (id := 1) (m := bm) (since := c) (last := c) (last' := c) (seen := seen) (seen' := seen.push e.born) rfl hbi hw1
      have hhp : setF (get (stL text bm c seen).hp) 1 (.miter bm c (seen.push e.born) c) = get (stL text bm c (seen.push e.born)).hp := by
        funext i
        simp only [setF,stL,PE.get]
        by_cases h1 : i = 1
        · subst h1; rfl
        · rw [if_neg h1]
          by_cases h00 : i = 0
          · subst h00; rfl
          · rw [z2w (Ne.symm h00),cond_false,z2w (Ne.symm h1)]; rfl
      rw [hhp] at hw2
      have hat : At cx I s 21 ⟨(9,.tuple [.bool true,.undef,.undef]) :: (stL text bm c (seen.push e.born)).tm,(stL text bm c (seen.push e.born)).hp⟩ (a.put (some 9) (.tuple #[.bool true,e.key,e.val])) (ChangeMaps.setBlock w1 bi (.mapIter (some bm) c (seen.push e.born) c)) :=
        zxb hw2 hs (by rw [← hnt]; exact hsz) (by omega) hdf (by
          simp only [repV]
          exact ⟨_,rfl,by simp only [z0s,repV]; exact ⟨trivial,trivial,trivial,trivial⟩⟩)
      exact zls (Iin := I) (sin := s) (st' := stE text bm c (seen.push e.born)) (ps := []) (rid := 2) (d := ⟨[],[],[],[],[]⟩) hG (by kernel_rfl) (fun q hq => by simp at hq) hdrop (fun a' w' q => .inr ⟨e,he,q⟩) hat
  · rintro a' w' (⟨⟨⟨I1,s1,q1,q2,q3,q4⟩,q5,q6⟩,hz⟩ | ⟨e,he,⟨⟨I1,s1,q1,q2,q3,q4⟩,q5,q6⟩⟩)
    · have hr2 := zv3 (text := text) (fun p hp => by
        obtain ⟨x,hx,hkx,_⟩ := zri _ _ hk.rep p hp
        exact hk.no x hx (all_seen ens seen hz x hx) p hp hkx)
      rw [hr] at hr2
      obtain rfl := Option.some.inj hr2
      have hpt : PtC cx A 94 0 kM (zxz text bm c seen) (won (0,⟨[],0⟩,false)) :=
        zck (PT := fun _ _ => False) (fun _ _ q => q.elim) (.ret [] []) 5 [⟨[],[],[],[],[]⟩]
          (show won (0,⟨[],0⟩,false) (rV (0,⟨[],0⟩,false)) [] [] from ⟨rfl,rfl,rfl⟩) (by kernel_rfl)
      exact (hpt hm _ hfn I1 s1 a' w' hG q3 q4 (by rw [hnt]; exact q5) q6 b cs kM (.inl rfl) hb hbk).mono q1 fun i hi => by omega
    · have hlt := left_shrinks ens seen e he
      have hrd := round text r hr hk he (fun hk' => ih _ (by omega) (seen.push e.born) rfl hk')
      have hpt : PtC cx A 94 0 kM (stE text bm c (seen.push e.born)) (won r) :=
        zck (PT := fun k st => k = kE ∧ st = stL text bm c (seen.push e.born)) (fun k st q => by obtain ⟨rfl,rfl⟩ := q; exact hrd) (.cut [] [0,3,8] [0,1]) 5 []
          (And.intro (Eq.refl kE) (Eq.refl (stL text bm c (seen.push e.born)))) (by kernel_rfl)
      exact (hpt hm _ hfn I1 s1 a' w' hG q3 q4 (by rw [hnt]; exact q5) q6 b cs kM (.inl rfl) hb hbk).mono q1 fun i hi => by omega
def stF (text : Str) : St := ⟨(7,.map 200000) :: (stA text).tm,(200000,.tmap (.int .i64) (.user 4) z1s) :: (stA text).hp⟩
theorem head (text : Str) (r : Int × z02 × Bool) (hr : z1S text = some r) {cx : Cx} : PtC cx A 94 0 kA (stA text) (won r) := by
  intro hm fn hfn I s a w hG hw hs hsz hdf b cs k' hlk hb hbk
  obtain rfl : k' = kA := hlk.resolve_right (by rintro ⟨q,_⟩; have := congrArg List.length q; simp at this)
  have hfn' : fn = Tryz.f94 := Option.some.inj (hfn.symm.trans zwe)
  subst hfn'
  have hnt : Tryz.f94.ntmps = 21 := by kernel_rfl
  have hreg : sub B94 [1,0,0] = .region 1 ops1 false := by kernel_rfl
  have hblk : sub B94 [1,0,1] = .block 0 (sub B94 [1,0,1,0]) := by kernel_rfl
  have hloop : sub B94 [1,0,1,0] = .loop (sub B94 [1,0,1,0,0]) := by kernel_rfl
  have h0 : ops1[0]? = some (opN ops1 0) := by kernel_rfl
  have h1 : ops1[1]? = some (opN ops1 1) := by kernel_rfl
  have hop : (opN ops1 1).op = .range 164 (.tmp 7) := by kernel_rfl
  have hdst : (opN ops1 1).dst = some 8 := by kernel_rfl
  have hgd : (opN ops1 1).guard = none := by kernel_rfl
  have hrange : List.range ops1.size = [0,1] := by kernel_rfl
  have hund : A.underlying 164 = some (.map 3 124) := by kernel_rfl
  show PE.Ends cx A 94 0 (won r) I s (lone (b.at a (.code (sub B94 [1,0,0]) :: [.code (sub B94 [1,0,1]),.code (sub B94 [1,1])])) cs w) cs
  rw [hreg]
  refine zj4 (S := fun a' w' => ∃ (bm c : Nat) (ens : Array MapEntry) (I' : Facts) (s' : Hand),I.le I' ∧ WInv cx I' s' (PE.get (stL text bm c #[]).hp) w' ∧ (∀ t,z1x I' s' (stL text bm c #[]).tm a'.tmps t) ∧ 21 ≤ a'.tmps.size ∧ a'.defers = [] ∧
      w'.heap[bm]? = some (.map ens c) ∧ ¬ zlP s' (PE.get (stL text bm c #[]).hp) bm ∧ (ens.toList.map (·.born)).Nodup ∧ (∀ e ∈ ens.toList,e.born < c) ∧ zhI I' (fun _ => none) (.int .i64) (.user 4) z1s ens.toList) hbk ?_ ?_
  · rw [hrange,wpOps_cons]
    refine zxx (Iin := I) (sin := s) (nt := 21) (rid := 1) (d := ⟨[],[(0,.call [] [] (.map 0) [] [.tmap (.int .i64) (.user 4) z1s])],[],[],[]⟩) (st := stA text) (st' := stF text)
      (ps := [PE.Spec A 131 [] [] (.map 0) [] [.tmap (.int .i64) (.user 4) z1s]]) hG (by kernel_rfl) (fun q hq => by
        simp only [List.mem_singleton] at hq
        subst hq
        exact z3L 1 () rfl) h0 ?_ ⟨⟨I,s,Facts.le_refl _,Hand.le_refl _,hw,hs⟩,by rw [← hnt]; exact hsz,hdf⟩
    rintro a1 w1 ⟨⟨I1,s1,e1,e2,e3,e4⟩,e5,e6⟩
    rw [wpOps_cons]
    have hc := e3.cont 200000 (.tmap (.int .i64) (.user 4) z1s) rfl
    simp only [repC] at hc
    obtain ⟨bm,ens,c,k1,k2,k3,k4,k5⟩ := hc
    have h7 : a1.eval (.tmp 7) = .map (some bm) := by
      have := e4 7
      unfold z1x at this
      have ee : getV (stF text).tm 7 = .map 200000 := rfl
      rw [ee] at this
      simp only [repV] at this
      obtain ⟨b',q1,q2⟩ := this
      rw [k1] at q1
      cases q1
      exact q2
    have hrun : (Instr.range 164 (.map (some bm))).run A w1 = .ok (.pointer (some ⟨w1.heap.size,0,none⟩)) (w1.alloc (.mapIter (some bm) c #[] c)) := by
      simp only [Instr.range,Sem.run_bind,run_underlying hund,Result.andThen_ok,MapKept.run_getObj_map k2,Sem.run_pure]
      rfl
    have hex : execOp a1.eval (opN ops1 1) = (Instr.range 164 (a1.eval (.tmp 7)) >>= fun v => pure (Next.value v)) := by unfold execOp; rw [hop]
    refine zhu h1 hgd (by rw [hex,h7]; exact z8s hrun) ?_
    rw [hdst]
    have hnone : PE.get (stF text).hp 200100 = none := rfl
    have hlt := z0P? k2
    have hcr := e3.create hnone (.pointer (some ⟨w1.heap.size,0,none⟩)) (.miter bm c #[] c) (z5K w1 (.mapIter (some bm) c #[] c)) (Facts.le_refl _) (fun _ _ _ => rfl) (fun o u hu => by rw [e3.z2W] at hu; cases hu) (fun b' hb' => by simp [blk] at hb'; exact hb'.symm) (by
      simp only [repC]
      exact ⟨_,by simp,alloc_at _ _⟩)
    let s2 := setF s1 200100 (.pointer (some ⟨w1.heap.size,0,none⟩))
    have hs2 : s1.le s2 := z8S (e3.unknown hnone)
    have hren : WInv cx I1 (zaO s2 [0,200100]) (PE.get (stL text bm c #[]).hp) (w1.alloc (.mapIter (some bm) c #[] c)) := by
      refine hcr.rename (m := numbered 0 [0,200100]) zs4 (fun i j hij => zbS hij) (fun j c' hj => ?_) (fun j v hv => ?_)
      · simp only [stL,PE.get] at hj
        by_cases j0 : 0 = j
        · subst j0
          cases hj
          exact ⟨0,_,rfl,rfl,rfl⟩
        · by_cases j1 : 1 = j
          · subst j1
            cases hj
            exact ⟨200100,.miter bm c #[] c,rfl,setF_same _ _ _,rfl⟩
          · rw [z2w j0,cond_false,z2w j1] at hj
            cases hj
      · match j with
        | 0 => rfl
        | 1 => rfl
        | j + 2 => simp [zaO] at hv
    have hbox := e3.cont 0 (.box [.str [],.int .i64 0]) rfl
    simp only [repC] at hbox
    obtain ⟨b0,arr,et,fr,g1,g2,_⟩ := hbox
    show ∃ _ _ _ _ _,_
    refine ⟨bm,c,ens,I1,zaO s2 [0,200100],e1,hren,fun t => ?_,by rw [zjJ]; exact e5,by rw [put_defers]; exact e6,?_,?_,k4,k5,zkQ _ _ k3⟩
    · unfold z1x
      rw [zo4 a1 (d := some 8) (nt := 21) (by rfl) e5]
      by_cases t0 : 0 = t
      · subst t0
        have := e4 0
        unfold z1x at this
        rw [if_neg (by simp)]
        have ee : getV (stF text).tm 0 = .str text := rfl
        rw [ee] at this
        exact this
      · by_cases t3 : 3 = t
        · subst t3
          have := e4 3
          unfold z1x at this
          rw [if_neg (by simp)]
          have ee : getV (stF text).tm 3 = .ptr 0 0 := rfl
          rw [ee] at this
          have ee2 : getV (stL text bm c #[]).tm 3 = .ptr 0 0 := rfl
          rw [ee2]
          simp only [repV] at this ⊢
          obtain ⟨b',q1,q2⟩ := this
          exact ⟨b',by show s2 0 = _; exact hs2 _ _ q1,q2⟩
        · by_cases t8 : 8 = t
          · subst t8
            have ee2 : getV (stL text bm c #[]).tm 8 = .ptr 1 0 := rfl
            rw [ee2,if_pos rfl]
            simp only [repV]
            exact ⟨w1.heap.size,by show s2 200100 = _; simp [s2],rfl⟩
          · have ee : getV (stL text bm c #[]).tm t = .undef := by
              simp only [stL,getV,PE.get]
              rw [z2w t0,cond_false,z2w t3,cond_false,z2w t8]
              rfl
            rw [ee]
            simp only [repV]
    · rw [(z5K w1 (.mapIter (some bm) c #[] c)).heap bm (fun q => by have := Option.some.inj q; omega) hlt]
      exact k2
    · rintro ⟨j,d,q1,q2⟩
      simp only [stL,PE.get] at q1
      by_cases j0 : 0 = j
      · subst j0
        cases q1
        have e0 : zaO s2 [0,200100] 0 = s2 0 := rfl
        simp only [blk,e0,hs2 _ _ g1,Option.some.injEq] at q2
        subst q2
        rw [g2] at k2
        cases k2
      · by_cases j1 : 1 = j
        · subst j1
          cases q1
          have e1' : zaO s2 [0,200100] 1 = s2 200100 := rfl
          simp only [blk,e1',s2,setF_same,Option.some.injEq] at q2
          omega
        · rw [z2w j0,cond_false,z2w j1] at q1
          cases q1
  · rintro a' w' ⟨bm,c,ens,I',s',g1,g2,g3,g4,g5,g6,g7,g8,g9,g10⟩
    refine PE.Ends.steps (m' := lone (b.at a' kL) cs w') ?_ (Steps.trans (.one (by rw [hblk]; exact step_block)) (.one (by rw [hloop]; exact step_loop)))
    have hk : zxk ⟨w',I',zlP s' (PE.get (stL text bm c #[]).hp)⟩ text bm c ens #[] :=
      ⟨z0P? g6,g6,g7,g8,g9,g10,fun e _ hsn => by simp at hsn⟩
    have := zyG text r hr (leftOf ens #[]).size #[] rfl hk hm _ hfn I' s' a' w' (Facts.le_trans hG (Facts.le_trans hw.le g1)) g2.enter g3 (by rw [hnt]; exact g4) g5 b cs kL (.inl rfl) hb hbk
    exact (PE.Ends.zx5 g2 this).mono g1 fun i hi => by omega
theorem z6G (a0 : Str) (r : Int × z02 × Bool) (h : z1S a0 = some r) : PE.Spec A 94 [(.str a0)] [] (.tuple [(.int .i64 r.1),(.agg [(.str r.2.1.z3q),(.int .i64 r.2.1.zcT)]),(.bool r.2.2)]) [] [] :=
  z0n z09 zwe (by kernel_rfl) (fun cx => zck (PT := fun k st => k = kA ∧ st = stA a0) (fun k st q => by obtain ⟨rfl,rfl⟩ := q; exact head a0 r h) (.cut [] [0,3] [100100]) 4 [⟨[],[],[],[],[]⟩]
    (And.intro (Eq.refl kA) (Eq.refl (stA a0))) (by kernel_rfl))
end Go.Proofs.YtifmnhcmmoacfaaGreatDoorQ
set_option maxRecDepth 100000
set_option maxHeartbeats 1000000
namespace Go.Proofs.YtifmnhcmmoacfaaGreatDoorQ
open Go Go.PE
variable [PE.Ground] [Tables]
def zfb (goal : GoT) (r : Int) : Prop := goal (.int .i64 r) [] []
def ztb (a0 : Int) (a1 : Int) (r : Int) : Prop := PE.Spec A 36 [(.int .i64 a0),(.int .i64 a1)] [] (.int .i64 r) [] []
theorem zwx (a0 : Int) (a1 : Int) (r : Int) (H : ∀ goal : GoT,zfb goal r → PtS A 36 0 [.code (sub B36 [])] ⟨[(0,(.int .i64 a0)),(1,(.int .i64 a1))],[]⟩ goal) : ztb a0 a1 r :=
  z0n z09 zBu (by kernel_rfl) (H _ ⟨rfl,rfl,rfl⟩)
theorem zwA (n : Nat) : ∀ (a0 : Int) (a1 : Int) (r : Int),zoI n a0 a1 = some r → ∀ (goal : GoT),zfb goal r → PtS A 36 0 [.code (sub B36 [])] ⟨[(0,(.int .i64 a0)),(1,(.int .i64 a1))],[]⟩ goal :=
  fun a0 a1 r h goal hq => have h := Eq.trans (Eq.symm (zoI.eq_1 n a0 a1)) h
    (z0j h (fun b1 h => (z01 (.ret [] []) 8 [r0,⟨[],[],[(1,true)],[],[]⟩,r0] (And.intro b1 (z0e (Φ := zfb goal) h hq)) (by kernel_rfl))) (fun b1 h => (z0d h (fun b2 h => (z0d h (fun b3 h => (z01 (.ret [] []) 9 [r0,⟨[],[],[(1,false)],[],[]⟩,r0] (And.intro b1 (And.intro b2 (And.intro b3 (z0e (Φ := zfb goal) h hq)))) (by kernel_rfl))))))))
theorem zwz (n : Nat) (a0 : Int) (a1 : Int) (r : Int) (h : zoI n a0 a1 = some r) : ztb a0 a1 r := zwx a0 a1 r (zwA n a0 a1 r h)
def z8d (a1 : (List Int)) (goal : GoT) (r : (Int × Int)) : Prop := goal (.int .i64 r.1) [(.box [(.lst (.int .i64) a1 0),(.int .i64 r.2)])] []
def zgM (a0 : Int) (a1 : (List Int)) (a2 : Int) (r : (Int × Int)) : Prop := PE.Spec A 15 [(.ptr 0 0),(.int .i64 a0)] [(.box [(.lst (.int .i64) a1 0),(.int .i64 a2)])] (.int .i64 r.1) [(.box [(.lst (.int .i64) a1 0),(.int .i64 r.2)])] []
theorem zmS (a0 : Int) (a1 : (List Int)) (a2 : Int) (r : (Int × Int)) (H : ∀ goal : GoT,z8d a1 goal r → PtS A 15 1 [.code (sub B15 [])] ⟨[(0,(.ptr 0 0)),(1,(.int .i64 a0))],[(0,(.box [(.lst (.int .i64) a1 0),(.int .i64 a2)]))]⟩ goal) : zgM a0 a1 a2 r :=
  z0n z09 zC7 (by kernel_rfl) (H _ ⟨rfl,rfl,rfl⟩)
theorem zmQ (n : Nat) : ∀ (a0 : Int) (a1 : (List Int)) (a2 : Int) (r : (Int × Int)),z2q n a0 a1 a2 = some r → ∀ (goal : GoT),z8d a1 goal r → PtS A 15 1 [.code (sub B15 [])] ⟨[(0,(.ptr 0 0)),(1,(.int .i64 a0))],[(0,(.box [(.lst (.int .i64) a1 0),(.int .i64 a2)]))]⟩ goal :=
  fun a0 a1 a2 r h goal hq => have h := Eq.trans (Eq.symm (z2q.eq_1 n a0 a1 a2)) h
    (z0j h (fun b1 h => (z01 (.ret [] []) 8 [r0,⟨[],[],[(9,true)],[],[]⟩,r0] (And.intro b1 (z0e (Φ := z8d a1 goal) h hq)) (by kernel_rfl))) (fun b1 h => (z0d h (fun b2 h => (z0f h (fun b4 b3 h => (z01 (.ret [] []) 11 [r0,⟨[],[],[(9,false)],[],[]⟩,r0,⟨[],[(12,.call [] [some (.int .i64),some (.int .i64)] (.int .i64 b4) [] [])],[],[],[]⟩] (And.intro b1 (And.intro b2 (And.intro (zwz n (rd 0 a1 (z0a ((z0a (a2 + 1)) - 1))) a0 b4 b3) (z0e (Φ := z8d a1 goal) h hq)))) (by kernel_rfl))))))))
theorem z1w (n : Nat) (a0 : Int) (a1 : (List Int)) (a2 : Int) (r : (Int × Int)) (h : z2q n a0 a1 a2 = some r) : zgM a0 a1 a2 r := zmS a0 a1 a2 r (zmQ n a0 a1 a2 r h)
def z98 (goal : GoT) (r : (Int × (List z04) × Str × Str × (List z03))) : Prop := PtS A 4 0 [.code (sub B4 [1,1,1,1,1,1])] ⟨[(1,(.int .u8 r.1)),(6,(.lst (.user 7) r.2.1 0)),(7,(.ptr 0 0))],[(0,(.box [(.str r.2.2.1),(.str r.2.2.2.1),(.row 1)])),(1,(.row (.user 0) r.2.2.2.2 0))]⟩ goal
def z9C (n : Nat) : Prop := ∀ (p0 : Int) (p1 : (List z04)) (p2 : Int) (p3 : Int) (p4 : (List Int)) (p5 : Int) (p6 : Str) (p7 : Str) (p8 : (List z03)) (r : (Int × (List z04) × Str × Str × (List z03))),z1F n p0 p1 p2 p3 p4 p5 p6 p7 p8 = some r → ∀ (goal : GoT),z98 goal r → PtS A 4 0 [.code (sub B4 [1,1,1,1,1,0,1,0,0]),.inLoop (sub B4 [1,1,1,1,1,0,1,0,0]),.inBlock 0,.code (sub B4 [1,1,1,1,1,1])] ⟨[(1,(.int .u8 p0)),(5,(.ptr 0 0)),(6,(.lst (.user 7) p1 0)),(7,(.ptr 1 0)),(33,(.int .i64 p2)),(34,(.int .i64 p3))],[(0,(.box [(.lst (.int .i64) p4 0),(.int .i64 p5)])),(1,(.box [(.str p6),(.str p7),(.row 2)])),(2,(.row (.user 0) p8 0))]⟩ goal
theorem zew (n : Nat) : z9C n := by
  induction n with
  | zero => exact (fun p0 p1 p2 p3 p4 p5 p6 p7 p8 r h => z1e (Eq.trans (Eq.symm (z1F.eq_1 p0 p1 p2 p3 p4 p5 p6 p7 p8)) h))
  | succ n ih => exact (fun p0 p1 p2 p3 p4 p5 p6 p7 p8 r h goal hq => have h := Eq.trans (Eq.symm (z1F.eq_2 _ _ _ _ _ _ _ _ _ _)) h
    (z0j h (fun b12 h => (z0f h (fun b14 b13 h => (z0d h (fun b15 h => (z0d h (fun b16 h => (z01 (.cut [] [1,5,6,7,33,34] [0,1,2]) 13 [⟨[],[],[(0,true)],[],[]⟩,r0,⟨[],[(4,.call [0] [none,some (.int .i64)] (.int .i64 b14.1) [(.box [(.lst (.int .i64) p4 0),(.int .i64 b14.2)])] [])],[],[],[]⟩,r0] (And.intro b12 (And.intro (z1w n 2 p4 p5 b14 b13) (And.intro b15 (And.intro b16 (ih p0 p1 p2 (z0a (p3 + 1)) p4 b14.2 p6 p7 (p8.set (p3).toNat (⟨(rd z03.dft p8 p3).z0l,(rd z03.dft p8 p3).z08,(b14.1 == 0),(rd z03.dft p8 p3).z0G,(rd z03.dft p8 p3).z15⟩ : z03)) r h goal hq))))) (by kernel_rfl))))))))) (fun b12 h => (z01 (.cut [] [1,6,7] [1,2]) 5 [⟨[],[],[(0,false)],[],[]⟩] (And.intro b12 (z0e (Φ := z98 goal) h hq)) (by kernel_rfl)))))
theorem zfi (n : Nat) : z9C n := (zew n)
def z97 (goal : GoT) (r : (Bool × z0k × (List z04))) : Prop := PtS A 4 0 [.code (sub B4 [1,1,1,1,1,1,1,1,1,1,1,1])] ⟨[(7,(.ptr 0 0)),(13,(.row 1)),(14,(.bool r.1))],[(0,(.box [(.str r.2.1.z3M),(.str r.2.1.z1V),(.lst (.user 0) r.2.1.z0C 0)])),(1,(.row (.user 7) r.2.2 0))]⟩ goal
def z9I (n : Nat) : Prop := ∀ (p0 : Int) (p1 : Bool) (p2 : (List z04)) (p3 : Int) (p4 : Int) (p5 : z0k) (p6 : (List z04)) (r : (Bool × z0k × (List z04))),z19 n p0 p1 p2 p3 p4 p5 p6 = some r → ∀ (goal : GoT),z97 goal r → PtS A 4 0 [.code (sub B4 [1,1,1,1,1,1,1,1,1,1,1,0,1,0,0]),.inLoop (sub B4 [1,1,1,1,1,1,1,1,1,1,1,0,1,0,0]),.inBlock 2,.code (sub B4 [1,1,1,1,1,1,1,1,1,1,1,1])] ⟨[(1,(.int .u8 p0)),(7,(.ptr 0 0)),(13,(.row 1)),(14,(.bool p1)),(73,(.lst (.user 7) p2 0)),(74,(.int .i64 p3)),(75,(.int .i64 p4))],[(0,(.box [(.str p5.z3M),(.str p5.z1V),(.lst (.user 0) p5.z0C 0)])),(1,(.row (.user 7) p6 0))]⟩ goal
theorem ze1 (n : Nat) : z9I n := by
  induction n with
  | zero => exact (fun p0 p1 p2 p3 p4 p5 p6 r h => z1e (Eq.trans (Eq.symm (z19.eq_1 p0 p1 p2 p3 p4 p5 p6)) h))
  | succ n ih => exact (fun p0 p1 p2 p3 p4 p5 p6 r h goal hq => have h := Eq.trans (Eq.symm (z19.eq_2 _ _ _ _ _ _ _ _)) h
    (z0j h (fun b24 h => (z0d h (fun b25 h => (z0d h (fun b26 h => (z0j h (fun b27 h => (z0d h (fun b28 h => (z01 (.cut [] [1,7,13,14,73,74,75] [0,2200300]) 16 [⟨[],[],[(0,true)],[],[]⟩,r0,⟨[],[],[(4,true)],[],[]⟩,r0,r0] (And.intro b24 (And.intro b25 (And.intro b26 (And.intro b27 (And.intro b28 (ih p0 p1 p2 p3 (z0a (p4 + 1)) p5 (p6 ++ [(rd z04.dft p2 p4)]) r h goal hq)))))) (by rw [← z04.eta (rd z04.dft p2 p4)]; kernel_rfl))))) (fun b27 h => (z0j h (fun b29 h => (z01 (.cut [] [1,7,13,14,73,74,75] [0,1]) 16 [⟨[],[],[(0,true)],[],[]⟩,r0,⟨[],[],[(4,false)],[],[]⟩,⟨[],[],[(1,true)],[],[]⟩,r0] (And.intro b24 (And.intro b25 (And.intro b26 (And.intro b27 (And.intro b29 (ih p0 true p2 p3 (z0a (p4 + 1)) p5 p6 r h goal hq)))))) (by kernel_rfl))) (fun b29 h => (z0d h (fun b30 h => (z01 (.cut [] [1,7,13,14,73,74,75] [0,1]) 16 [⟨[],[],[(0,true)],[],[]⟩,r0,⟨[],[],[(4,false)],[],[]⟩,⟨[],[],[(1,false)],[],[]⟩,r0] (And.intro b24 (And.intro b25 (And.intro b26 (And.intro b27 (And.intro b29 (And.intro b30 (ih p0 ((rd z03.dft p5.z0C p4).z0p) p2 p3 (z0a (p4 + 1)) p5 p6 r h goal hq))))))) (by kernel_rfl))))))))))))) (fun b24 h => (z01 (.cut [] [7,13,14] [0,1]) 5 [⟨[],[],[(0,false)],[],[]⟩] (And.intro b24 (z0e (Φ := z97 goal) h hq)) (by kernel_rfl)))))
theorem zf2 (n : Nat) : z9I n := (ze1 n)
def zeR (goal : GoT) (r : Bool) : Prop := goal (.bool r) [] []
def zoG (a0 : (List Int)) (r : Bool) : Prop := PE.Spec A 11 [(.lst (.int .i64) a0 0)] [] (.bool r) [] []
theorem ztL (a0 : (List Int)) (r : Bool) (H : ∀ goal : GoT,zeR goal r → PtS A 11 0 [.code (sub B11 [])] ⟨[(0,(.lst (.int .i64) a0 0))],[]⟩ goal) : zoG a0 r :=
  z0n z09 zBA (by kernel_rfl) (H _ ⟨rfl,rfl,rfl⟩)
theorem zth (n : Nat) : ∀ (a0 : (List Int)) (r : Bool),zgm n a0 = some r → ∀ (goal : GoT),zeR goal r → PtS A 11 0 [.code (sub B11 [])] ⟨[(0,(.lst (.int .i64) a0 0))],[]⟩ goal :=
  fun a0 r h goal hq => have h := Eq.trans (Eq.symm (zgm.eq_1 n a0)) h
    (z01 (.ret [] []) 4 [r0,r0] (z0e (Φ := zeR goal) h hq) (by kernel_rfl))
theorem zms (n : Nat) (a0 : (List Int)) (r : Bool) (h : zgm n a0 = some r) : zoG a0 r := ztL a0 r (zth n a0 r h)
def zcz (goal : GoT) (r : (List (Str × z0h))) : Prop := PtS A 48 0 [.code (sub B48 [1,1,1])] ⟨[(3,(.map 0))],[(0,(.tmap .str (.user 1) r))]⟩ goal
def zd8 (n : Nat) : Prop := ∀ (p0 : (List z03)) (p1 : Int) (p2 : Int) (p3 : (List (Str × z0h))) (r : (List (Str × z0h))),z2I n p0 p1 p2 p3 = some r → ∀ (goal : GoT),zcz goal r → PtS A 48 0 [.code (sub B48 [1,1,0,1,0,0]),.inLoop (sub B48 [1,1,0,1,0,0]),.inBlock 0,.code (sub B48 [1,1,1])] ⟨[(3,(.map 0)),(9,(.lst (.user 0) p0 0)),(10,(.int .i64 p1)),(11,(.int .i64 p2))],[(0,(.tmap .str (.user 1) p3))]⟩ goal
theorem zj8 (n : Nat) : zd8 n := by
  induction n with
  | zero => exact (fun p0 p1 p2 p3 r h => z1e (Eq.trans (Eq.symm (z2I.eq_1 p0 p1 p2 p3)) h))
  | succ n ih => exact (fun p0 p1 p2 p3 r h goal hq => have h := Eq.trans (Eq.symm (z2I.eq_2 _ _ _ _ _)) h
    (z0j h (fun b1 h => (z0d h (fun b2 h => (z0j h (fun b3 h => (z01 (.cut [] [3,9,10,11] [0]) 18 [⟨[],[],[(0,true)],[],[]⟩,r0,r0,⟨[],[],[(1,true)],[],[]⟩,r0,r0] (And.intro b1 (And.intro b2 (And.intro b3 (ih p0 p1 (z0a (p2 + 1)) (ast (fun y => (rd z03.dft p0 p2).z0l == y) ((rd z03.dft p0 p2).z0l) (⟨⟨(rd z03.dft p0 p2).z0l,(rd z03.dft p0 p2).z08,(rd z03.dft p0 p2).z0p,(rd z03.dft p0 p2).z0G,(rd z03.dft p0 p2).z15⟩,p2⟩ : z0h) p3) r h goal hq)))) (by kernel_rfl))) (fun b3 h => (z01 (.cut [] [3,9,10,11] [0]) 18 [⟨[],[],[(0,true)],[],[]⟩,r0,r0,⟨[],[],[(1,false)],[],[]⟩,r0] (And.intro b1 (And.intro b2 (And.intro b3 (ih p0 p1 (z0a (p2 + 1)) p3 r h goal hq)))) (by kernel_rfl))))))) (fun b1 h => (z01 (.cut [] [3] [0]) 5 [⟨[],[],[(0,false)],[],[]⟩] (And.intro b1 (z0e (Φ := zcz goal) h hq)) (by kernel_rfl)))))
theorem zjt (n : Nat) : zd8 n := (zj8 n)
def zbl (goal : GoT) (r : (List (Str × z0h))) : Prop := goal (.map 0) [] [(.tmap .str (.user 1) r)]
def zic (a0 : (List z03)) (r : (List (Str × z0h))) : Prop := PE.Spec A 48 [(.lst (.user 0) a0 0)] [] (.map 0) [] [(.tmap .str (.user 1) r)]
theorem znS (a0 : (List z03)) (r : (List (Str × z0h))) (H : ∀ goal : GoT,zbl goal r → PtS A 48 0 [.code (sub B48 [])] ⟨[(0,(.lst (.user 0) a0 0))],[]⟩ goal) : zic a0 r :=
  z0n z09 zB7 (by kernel_rfl) (H _ ⟨rfl,rfl,rfl⟩)
theorem zoH (n : Nat) : ∀ (a0 : (List z03)) (r : (List (Str × z0h))),z7I n a0 = some r → ∀ (goal : GoT),zbl goal r → PtS A 48 0 [.code (sub B48 [])] ⟨[(0,(.lst (.user 0) a0 0))],[]⟩ goal :=
  fun a0 r h goal hq => have h := Eq.trans (Eq.symm (z7I.eq_1 n a0)) h
    (z0f h (fun b5 eb5 h => (z01 (.cut [] [3,9,10,11] [200000]) 9 [r0,r0,r0] (zjt n a0 (a0.length : Int) 0 ([] : List (Str × z0h)) b5 eb5 goal (z01 (.ret [] [0]) 2 [r0] (z0e (Φ := zbl goal) h hq) (by kernel_rfl))) (by kernel_rfl))))
theorem zcL (n : Nat) (a0 : (List z03)) (r : (List (Str × z0h))) (h : z7I n a0 = some r) : zic a0 r := znS a0 r (zoH n a0 r h)
def z3H (goal : GoT) (r : (Sum Unit Unit)) : Prop := (Sum.elim (fun x => PtS A 28 0 [.code .ret] ⟨[(2,(.bool false))],[]⟩ goal) (fun x => PtS A 28 0 [.code (sub B28 [1,1,1])] ⟨[],[]⟩ goal)) r
def zdU (n : Nat) : Prop := ∀ (p0 : Str) (p1 : Int) (p2 : Int) (r : (Sum Unit Unit)),z5v n p0 p1 p2 = some r → ∀ (goal : GoT),z3H goal r → PtS A 28 0 [.code (sub B28 [1,1,0,1,0,0]),.inLoop (sub B28 [1,1,0,1,0,0]),.inBlock 0,.code (sub B28 [1,1,1])] ⟨[(0,(.str p0)),(14,(.int .i64 p1)),(15,(.int .i64 p2))],[]⟩ goal
def zet (n : Nat) : Prop := ∀ (p0 : Str) (p1 : Int) (p2 : Bool) (p3 : Int) (p4 : Int) (r : (Sum Unit Unit)),z8t n p0 p1 p2 p3 p4 = some r → ∀ (goal : GoT),z3H goal r → PtS A 28 0 [.code (sub B28 [1,1,0,1,0,0,1,1,0,0,1,1]),.inBlock 1,.code (sub B28 [1,1,0,1,0,0,1,1,1]),.inLoop (sub B28 [1,1,0,1,0,0]),.inBlock 0,.code (sub B28 [1,1,1])] ⟨[(0,(.str p0)),(3,(.int .i64 p1)),(4,(.bool p2)),(14,(.int .i64 p3)),(15,(.int .i64 p4))],[]⟩ goal
theorem zd9 (n : Nat) : zdU n ∧ zet n := by
  induction n with
  | zero => exact ⟨(fun p0 p1 p2 r h => z1e (Eq.trans (Eq.symm (z5v.eq_1 p0 p1 p2)) h)),(fun p0 p1 p2 p3 p4 r h => z1e (Eq.trans (Eq.symm (z8t.eq_1 p0 p1 p2 p3 p4)) h))⟩
  | succ n ih => exact ⟨(fun p0 p1 p2 r h goal hq => have h := Eq.trans (Eq.symm (z5v.eq_2 _ _ _ _)) h
    (z0j h (fun b2 h => (z0d h (fun b3 h => (z0j h (fun b4 h => (z0d h (fun b5 h => (z01 (.cut [] [0,3,4,14,15] []) 11 [⟨[],[],[(0,true)],[],[]⟩,r0,⟨[],[],[(4,true)],[],[]⟩] (And.intro b2 (And.intro b3 (And.intro b4 (And.intro b5 (ih.2 p0 p2 (decide ((bt p0 p2) ≤ 122)) p1 p2 r h goal hq))))) (by kernel_rfl))))) (fun b4 h => (z01 (.cut [] [0,3,4,14,15] []) 11 [⟨[],[],[(0,true)],[],[]⟩,r0,⟨[],[],[(4,false)],[],[]⟩] (And.intro b2 (And.intro b3 (And.intro b4 (ih.2 p0 p2 false p1 p2 r h goal hq)))) (by kernel_rfl))))))) (fun b2 h => (z01 (.cut [] [] []) 5 [⟨[],[],[(0,false)],[],[]⟩] (And.intro b2 (z0e (Φ := z3H goal) h hq)) (by kernel_rfl))))),(fun p0 p1 p2 p3 p4 r h goal hq => have h := Eq.trans (Eq.symm (z8t.eq_2 _ _ _ _ _ _)) h
    (z0j h (fun b6 h => (z0j h (fun b7 h => (z01 (.cutRet [] [2] []) 5 [⟨[],[],[(2,true),(5,true)],[],[]⟩,r0] (And.intro b6 (And.intro b7 (z0e (Φ := z3H goal) h hq))) (by kernel_rfl))) (fun b7 h => (z0d h (fun b8 h => (z0j h (fun b9 h => (z0d h (fun b10 h => (z0j h (fun b11 h => (z01 (.cutRet [] [2] []) 5 [⟨[],[],[(2,true),(5,false),(10,true),(15,true)],[],[]⟩,r0] (And.intro b6 (And.intro b7 (And.intro b8 (And.intro b9 (And.intro b10 (And.intro b11 (z0e (Φ := z3H goal) h hq))))))) (by kernel_rfl))) (fun b11 h => (z0d h (fun b12 h => (z0j h (fun b13 h => (z01 (.cutRet [] [2] []) 5 [⟨[],[],[(2,true),(5,false),(10,true),(15,false),(23,true)],[],[]⟩,r0] (And.intro b6 (And.intro b7 (And.intro b8 (And.intro b9 (And.intro b10 (And.intro b11 (And.intro b12 (And.intro b13 (z0e (Φ := z3H goal) h hq))))))))) (by kernel_rfl))) (fun b13 h => (z01 (.cut [] [0,14,15] []) 7 [⟨[],[],[(2,true),(5,false),(10,true),(15,false),(23,false)],[],[]⟩,r0] (And.intro b6 (And.intro b7 (And.intro b8 (And.intro b9 (And.intro b10 (And.intro b11 (And.intro b12 (And.intro b13 (ih.1 p0 p3 (z0a (p4 + 1)) r h goal hq))))))))) (by kernel_rfl))))))))))) (fun b9 h => (z01 (.cut [] [0,14,15] []) 7 [⟨[],[],[(2,true),(5,false),(10,false)],[],[]⟩,r0] (And.intro b6 (And.intro b7 (And.intro b8 (And.intro b9 (ih.1 p0 p3 (z0a (p4 + 1)) r h goal hq))))) (by kernel_rfl))))))))) (fun b6 h => (z01 (.cut [] [0,14,15] []) 7 [⟨[],[],[(2,false)],[],[]⟩,r0] (And.intro b6 (ih.1 p0 p3 (z0a (p4 + 1)) r h goal hq)) (by kernel_rfl)))))⟩
theorem zkO (n : Nat) : zdU n := (zd9 n).1
theorem zwS (n : Nat) : zet n := (zd9 n).2
def z7A (goal : GoT) (r : Bool) : Prop := goal (.bool r) [] []
def zky (a0 : Str) (r : Bool) : Prop := PE.Spec A 28 [(.str a0)] [] (.bool r) [] []
theorem zpZ (a0 : Str) (r : Bool) (H : ∀ goal : GoT,z7A goal r → PtS A 28 0 [.code (sub B28 [])] ⟨[(0,(.str a0))],[]⟩ goal) : zky a0 r :=
  z0n z09 zC5 (by kernel_rfl) (H _ ⟨rfl,rfl,rfl⟩)
theorem zqK (n : Nat) : ∀ (a0 : Str) (r : Bool),z7F n a0 = some r → ∀ (goal : GoT),z7A goal r → PtS A 28 0 [.code (sub B28 [])] ⟨[(0,(.str a0))],[]⟩ goal :=
  fun a0 r h goal hq => have h := Eq.trans (Eq.symm (z7F.eq_1 n a0)) h
    (z0j h (fun b1 h => (z01 (.ret [] []) 8 [r0,⟨[],[],[(7,true)],[(4,true),(5,true),(6,true),(7,false)],[3]⟩,r0] (And.intro b1 (z0e (Φ := z7A goal) h hq)) (by kernel_rfl))) (fun b1 h => (z0f h (fun b14 eb14 h => (z01 (.cut [] [0,14,15] []) 12 [r0,⟨[],[],[(7,false)],[(4,true),(5,true),(6,true),(7,false)],[3]⟩,r0] (And.intro b1 (zkO n a0 (a0.length : Int) 0 b14 eb14 goal (match b14,h with | .inl b15,h => (z01 (.ret [] []) 0 [] (z0e (Φ := z7A goal) h hq) (by kernel_rfl)) | .inr b16,h => (z01 (.ret [] []) 2 [r0] (z0e (Φ := z7A goal) h hq) (by kernel_rfl))))) (by kernel_rfl))))))
theorem z5l (n : Nat) (a0 : Str) (r : Bool) (h : z7F n a0 = some r) : zky a0 r := zpZ a0 r (zqK n a0 r h)
def z2J (goal : GoT) (r : Bool) : Prop := goal (.bool r) [] []
def zfH (a0 : z03) (r : Bool) : Prop := PE.Spec A 65 [(.agg [(.str a0.z0l),(.int .i64 a0.z08),(.bool a0.z0p),(.int .i64 a0.z0G),(.int .i64 a0.z15)])] [] (.bool r) [] []
theorem zlO (a0 : z03) (r : Bool) (H : ∀ goal : GoT,z2J goal r → PtS A 65 0 [.code (sub B65 [])] ⟨[(0,(.agg [(.str a0.z0l),(.int .i64 a0.z08),(.bool a0.z0p),(.int .i64 a0.z0G),(.int .i64 a0.z15)]))],[]⟩ goal) : zfH a0 r :=
  z0n z09 zC0 (by kernel_rfl) (H _ ⟨rfl,rfl,rfl⟩)
theorem zkY (n : Nat) : ∀ (a0 : z03) (r : Bool),z6X n a0 = some r → ∀ (goal : GoT),z2J goal r → PtS A 65 0 [.code (sub B65 [])] ⟨[(0,(.agg [(.str a0.z0l),(.int .i64 a0.z08),(.bool a0.z0p),(.int .i64 a0.z0G),(.int .i64 a0.z15)]))],[]⟩ goal :=
  fun a0 r h goal hq => have h := Eq.trans (Eq.symm (z6X.eq_1 n a0)) h
    (z0j h (fun b1 h => (z01 (.ret [] []) 11 [r0,r0,⟨[],[],[(1,true)],[],[]⟩,⟨[],[],[],[(4,true),(5,true),(6,true),(7,true),(8,true),(9,false),(11,true),(12,true),(13,true),(14,false)],[3,10]⟩] (And.intro b1 (z0e (Φ := z2J goal) h hq)) (by kernel_rfl))) (fun b1 h => (z0j h (fun b2 h => (z01 (.ret [] []) 14 [r0,r0,⟨[],[],[(1,false)],[],[]⟩,⟨[],[],[(1,true)],[],[]⟩,⟨[],[],[],[(4,true),(5,true),(6,true),(7,true),(8,true),(9,false),(11,true),(12,true),(13,true),(14,false)],[3,10]⟩] (And.intro b1 (And.intro b2 (z0e (Φ := z2J goal) h hq))) (by kernel_rfl))) (fun b2 h => (z0j h (fun b3 h => (z01 (.ret [] []) 20 [r0,r0,⟨[],[],[(1,false)],[],[]⟩,⟨[],[],[(1,false)],[],[]⟩,⟨[],[],[(1,true)],[],[]⟩,⟨[],[],[],[(4,true),(5,true),(6,true),(7,false)],[3]⟩] (And.intro b1 (And.intro b2 (And.intro b3 (z0e (Φ := z2J goal) h hq)))) (by kernel_rfl))) (fun b3 h => (z0j h (fun b4 h => (z01 (.ret [] []) 20 [r0,r0,⟨[],[],[(1,false)],[],[]⟩,⟨[],[],[(1,false)],[],[]⟩,⟨[],[],[(1,false)],[],[]⟩,⟨[],[],[(1,true)],[],[]⟩,⟨[],[],[],[(4,true),(5,true),(6,true),(7,false)],[3]⟩] (And.intro b1 (And.intro b2 (And.intro b3 (And.intro b4 (z0e (Φ := z2J goal) h hq))))) (by kernel_rfl))) (fun b4 h => (z01 (.ret [] []) 22 [r0,r0,⟨[],[],[(1,false)],[],[]⟩,⟨[],[],[(1,false)],[],[]⟩,⟨[],[],[(1,false)],[],[]⟩,⟨[],[],[(1,false)],[],[]⟩,r0] (And.intro b1 (And.intro b2 (And.intro b3 (And.intro b4 (z0e (Φ := z2J goal) h hq))))) (by kernel_rfl))))))))))
theorem zlC (n : Nat) (a0 : z03) (r : Bool) (h : z6X n a0 = some r) : zfH a0 r := zlO a0 r (zkY n a0 r h)
def z7q (goal : GoT) (r : Bool) : Prop := goal (.bool r) [] []
def zfw (a0 : z03) (r : Bool) : Prop := PE.Spec A 64 [(.agg [(.str a0.z0l),(.int .i64 a0.z08),(.bool a0.z0p),(.int .i64 a0.z0G),(.int .i64 a0.z15)])] [] (.bool r) [] []
theorem zlr (a0 : z03) (r : Bool) (H : ∀ goal : GoT,z7q goal r → PtS A 64 0 [.code (sub B64 [])] ⟨[(0,(.agg [(.str a0.z0l),(.int .i64 a0.z08),(.bool a0.z0p),(.int .i64 a0.z0G),(.int .i64 a0.z15)]))],[]⟩ goal) : zfw a0 r :=
  z0n z09 zAX (by kernel_rfl) (H _ ⟨rfl,rfl,rfl⟩)
theorem zkP (n : Nat) : ∀ (a0 : z03) (r : Bool),z6Y n a0 = some r → ∀ (goal : GoT),z7q goal r → PtS A 64 0 [.code (sub B64 [])] ⟨[(0,(.agg [(.str a0.z0l),(.int .i64 a0.z08),(.bool a0.z0p),(.int .i64 a0.z0G),(.int .i64 a0.z15)]))],[]⟩ goal :=
  fun a0 r h goal hq => have h := Eq.trans (Eq.symm (z6Y.eq_1 n a0)) h
    (z0f h (fun b2 b1 h => (z0j h (fun b3 h => (z01 (.ret [] []) 4 [r0,⟨[],[(2,.call [] [some .str] (.bool b2) [] [])],[(4,true)],[],[]⟩] (And.intro (z5l n a0.z0l b2 b1) (And.intro b3 (z0e (Φ := z7q goal) h hq))) (by kernel_rfl))) (fun b3 h => (z0f h (fun b5 b4 h => (z01 (.ret [] []) 4 [r0,⟨[],[(2,.call [] [some .str] (.bool b2) [] []),(6,.call [] [some (.user 0)] (.bool b5) [] [])],[(4,false)],[],[]⟩] (And.intro (z5l n a0.z0l b2 b1) (And.intro b3 (And.intro (zlC n a0 b5 b4) (z0e (Φ := z7q goal) h hq)))) (by kernel_rfl))))))))
theorem zeK (n : Nat) (a0 : z03) (r : Bool) (h : z6Y n a0 = some r) : zfw a0 r := zlr a0 r (zkP n a0 r h)
def z1l (goal : GoT) (r : (Sum Int Unit)) : Prop := (Sum.elim (fun x => PtS A 105 0 [.code .ret] ⟨[(4,(.int .i64 x))],[]⟩ goal) (fun x => PtS A 105 0 [.code (sub B105 [1,1])] ⟨[],[]⟩ goal)) r
def z2L (n : Nat) : Prop := ∀ (p0 : (List z03)) (p1 : Int) (p2 : Int) (r : (Sum Int Unit)),z0t n p0 p1 p2 = some r → ∀ (goal : GoT),z1l goal r → PtS A 105 0 [.code (sub B105 [1,0,1,0,0]),.inLoop (sub B105 [1,0,1,0,0]),.inBlock 0,.code (sub B105 [1,1])] ⟨[(0,(.lst (.user 0) p0 0)),(1,(.fn 64 [] [])),(7,(.int .i64 p1)),(8,(.int .i64 p2))],[]⟩ goal
theorem z5X (n : Nat) : z2L n := by
  induction n with
  | zero => exact (fun p0 p1 p2 r h => z1e (Eq.trans (Eq.symm (z0t.eq_1 p0 p1 p2)) h))
  | succ n ih => exact (fun p0 p1 p2 r h goal hq => have h := Eq.trans (Eq.symm (z0t.eq_2 _ _ _ _)) h
    (z0j h (fun b1 h => (z0d h (fun b2 h => (z0f h (fun b4 b3 h => (z0j h (fun b5 h => (z01 (.cutRet [] [4] []) 14 [⟨[],[],[(0,true)],[],[]⟩,r0,⟨[],[(5,.call [] [some (.user 0)] (.bool b4) [] [])],[(5,true)],[],[]⟩,r0] (And.intro b1 (And.intro b2 (And.intro (zeK n (rd z03.dft p0 p2) b4 b3) (And.intro b5 (z0e (Φ := z1l goal) h hq))))) (by kernel_rfl))) (fun b5 h => (z01 (.cut [] [0,1,7,8] []) 16 [⟨[],[],[(0,true)],[],[]⟩,r0,⟨[],[(5,.call [] [some (.user 0)] (.bool b4) [] [])],[(5,false)],[],[]⟩,r0] (And.intro b1 (And.intro b2 (And.intro (zeK n (rd z03.dft p0 p2) b4 b3) (And.intro b5 (ih p0 p1 (z0a (p2 + 1)) r h goal hq))))) (by kernel_rfl))))))))) (fun b1 h => (z01 (.cut [] [] []) 5 [⟨[],[],[(0,false)],[],[]⟩] (And.intro b1 (z0e (Φ := z1l goal) h hq)) (by kernel_rfl)))))
theorem z6u (n : Nat) : z2L n := (z5X n)
def z0Z (goal : GoT) (r : Int) : Prop := goal (.int .i64 r) [] []
def z3B (a0 : (List z03)) (r : Int) : Prop := PE.Spec A 105 [(.lst (.user 0) a0 0),(.fn 64 [] [])] [] (.int .i64 r) [] []
theorem z7v (a0 : (List z03)) (r : Int) (H : ∀ goal : GoT,z0Z goal r → PtS A 105 0 [.code (sub B105 [])] ⟨[(0,(.lst (.user 0) a0 0)),(1,(.fn 64 [] []))],[]⟩ goal) : z3B a0 r :=
  z0n z09 zAI (by kernel_rfl) (H _ ⟨rfl,rfl,rfl⟩)
theorem z7t (n : Nat) : ∀ (a0 : (List z03)) (r : Int),z0S n a0 = some r → ∀ (goal : GoT),z0Z goal r → PtS A 105 0 [.code (sub B105 [])] ⟨[(0,(.lst (.user 0) a0 0)),(1,(.fn 64 [] []))],[]⟩ goal :=
  fun a0 r h goal hq => have h := Eq.trans (Eq.symm (z0S.eq_1 n a0)) h
    (z0f h (fun b6 eb6 h => (z01 (.cut [] [0,1,7,8] []) 7 [r0,r0] (z6u n a0 (a0.length : Int) 0 b6 eb6 goal (match b6,h with | .inl b7,h => (z01 (.ret [] []) 0 [] (z0e (Φ := z0Z goal) h hq) (by kernel_rfl)) | .inr b8,h => (z01 (.ret [] []) 2 [r0] (z0e (Φ := z0Z goal) h hq) (by kernel_rfl)))) (by kernel_rfl))))
theorem z7u (n : Nat) (a0 : (List z03)) (r : Int) (h : z0S n a0 = some r) : z3B a0 r := z7v a0 r (z7t n a0 r h)
def z1m (goal : GoT) (r : Bool) : Prop := goal (.bool r) [] []
def z2Z (a0 : (List z03)) (r : Bool) : Prop := PE.Spec A 63 [(.lst (.user 0) a0 0),(.fn 64 [] [])] [] (.bool r) [] []
theorem z6l (a0 : (List z03)) (r : Bool) (H : ∀ goal : GoT,z1m goal r → PtS A 63 0 [.code (sub B63 [])] ⟨[(0,(.lst (.user 0) a0 0)),(1,(.fn 64 [] []))],[]⟩ goal) : z2Z a0 r :=
  z0n z09 zCj (by kernel_rfl) (H _ ⟨rfl,rfl,rfl⟩)
theorem z6x (n : Nat) : ∀ (a0 : (List z03)) (r : Bool),z0N n a0 = some r → ∀ (goal : GoT),z1m goal r → PtS A 63 0 [.code (sub B63 [])] ⟨[(0,(.lst (.user 0) a0 0)),(1,(.fn 64 [] []))],[]⟩ goal :=
  fun a0 r h goal hq => have h := Eq.trans (Eq.symm (z0N.eq_1 n a0)) h
    (z0f h (fun b2 b1 h => (z01 (.ret [] []) 4 [r0,⟨[],[(2,.call [] [some (.list (.user 0)),none] (.int .i64 b2) [] [])],[],[],[]⟩] (And.intro (z7u n a0 b2 b1) (z0e (Φ := z1m goal) h hq)) (by kernel_rfl))))
theorem z6E (n : Nat) (a0 : (List z03)) (r : Bool) (h : z0N n a0 = some r) : z2Z a0 r := z6l a0 r (z6x n a0 r h)
def z8C (goal : GoT) (r : Bool) : Prop := goal (.bool r) [] []
def zi0 (a0 : Str) (a1 : (List z03)) (r : Bool) : Prop := PE.Spec A 37 [(.str a0),(.lst (.user 0) a1 0)] [] (.bool r) [] []
theorem zoN (a0 : Str) (a1 : (List z03)) (r : Bool) (H : ∀ goal : GoT,z8C goal r → PtS A 37 0 [.code (sub B37 [])] ⟨[(0,(.str a0)),(1,(.lst (.user 0) a1 0))],[]⟩ goal) : zi0 a0 a1 r :=
  z0n z09 zCh (by kernel_rfl) (H _ ⟨rfl,rfl,rfl⟩)
theorem zpo (n : Nat) : ∀ (a0 : Str) (a1 : (List z03)) (r : Bool),z96 n a0 a1 = some r → ∀ (goal : GoT),z8C goal r → PtS A 37 0 [.code (sub B37 [])] ⟨[(0,(.str a0)),(1,(.lst (.user 0) a1 0))],[]⟩ goal :=
  fun a0 a1 r h goal hq => have h := Eq.trans (Eq.symm (z96.eq_1 n a0 a1)) h
    (z0f h (fun b2 b1 h => (z0f h (fun b4 b3 h => (z0j h (fun b5 h => (z01 (.ret [] []) 10 [r0,⟨[],[(1,.call [] [some (.list (.user 0))] (.map 0) [] [(.tmap .str (.user 1) b2)])],[],[],[]⟩,⟨[],[(1,.call [] [some .str] (.bool b4) [] [])],[(14,true)],[(4,true),(5,true),(6,true),(7,false),(9,true),(10,true),(11,true),(12,true),(13,true),(14,false)],[3,8]⟩,r0] (And.intro (zcL n a1 b2 b1) (And.intro (z5l n a0 b4 b3) (And.intro b5 (z0e (Φ := z8C goal) h hq)))) (by kernel_rfl))) (fun b5 h => (z0f h (fun b7 b6 h => (z01 (.ret [] []) 11 [r0,⟨[],[(1,.call [] [some (.list (.user 0))] (.map 0) [] [(.tmap .str (.user 1) b2)])],[],[],[]⟩,⟨[],[(1,.call [] [some .str] (.bool b4) [] [])],[(14,false)],[(4,true),(5,true),(6,true),(7,false),(9,true),(10,true),(11,true),(12,true),(13,true),(14,false)],[3,8]⟩,⟨[],[(1,.call [] [some (.list (.user 0)),none] (.bool b7) [] [])],[],[],[]⟩] (And.intro (zcL n a1 b2 b1) (And.intro (z5l n a0 b4 b3) (And.intro b5 (And.intro (z6E n a1 b7 b6) (z0e (Φ := z8C goal) h hq))))) (by kernel_rfl))))))))))
theorem zgf (n : Nat) (a0 : Str) (a1 : (List z03)) (r : Bool) (h : z96 n a0 a1 = some r) : zi0 a0 a1 r := zoN a0 a1 r (zpo n a0 a1 r h)
def zfs (goal : GoT) (r : z00) : Prop := goal (.agg [(.int .i64 r.z08),(.bool r.z0c),(.int .i64 r.z06),(.str r.z0b),(.lst .str r.z07 0),(.lst (.user 3) r.z05 0)]) [] []
def zpl (a0 : Str) (r : z00) : Prop := PE.Spec A 39 [(.str a0)] [] (.agg [(.int .i64 r.z08),(.bool r.z0c),(.int .i64 r.z06),(.str r.z0b),(.lst .str r.z07 0),(.lst (.user 3) r.z05 0)]) [] []
theorem ztY (a0 : Str) (r : z00) (H : ∀ goal : GoT,zfs goal r → PtS A 39 0 [.code (sub B39 [])] ⟨[(0,(.str a0))],[]⟩ goal) : zpl a0 r :=
  z0n z09 zAY (by kernel_rfl) (H _ ⟨rfl,rfl,rfl⟩)
theorem zuA (n : Nat) : ∀ (a0 : Str) (r : z00),z4v n a0 = some r → ∀ (goal : GoT),zfs goal r → PtS A 39 0 [.code (sub B39 [])] ⟨[(0,(.str a0))],[]⟩ goal :=
  fun a0 r h goal hq => have h := Eq.trans (Eq.symm (z4v.eq_1 n a0)) h
    (z01 (.ret [.bNorm 100000 3] []) 4 [r0,r0] (z0e (Φ := zfs goal) h hq) (by kernel_rfl))
theorem z4O (n : Nat) (a0 : Str) (r : z00) (h : z4v n a0 = some r) : zpl a0 r := ztY a0 r (zuA n a0 r h)
def zcn (goal : GoT) (r : z00) : Prop := goal (.agg [(.int .i64 r.z08),(.bool r.z0c),(.int .i64 r.z06),(.str r.z0b),(.lst .str r.z07 0),(.lst (.user 3) r.z05 0)]) [] []
def zk8 (a0 : Int) (r : z00) : Prop := PE.Spec A 40 [(.int .i64 a0)] [] (.agg [(.int .i64 r.z08),(.bool r.z0c),(.int .i64 r.z06),(.str r.z0b),(.lst .str r.z07 0),(.lst (.user 3) r.z05 0)]) [] []
theorem zpU (a0 : Int) (r : z00) (H : ∀ goal : GoT,zcn goal r → PtS A 40 0 [.code (sub B40 [])] ⟨[(0,(.int .i64 a0))],[]⟩ goal) : zk8 a0 r :=
  z0n z09 zBd (by kernel_rfl) (H _ ⟨rfl,rfl,rfl⟩)
theorem zqN (n : Nat) : ∀ (a0 : Int) (r : z00),z6H n a0 = some r → ∀ (goal : GoT),zcn goal r → PtS A 40 0 [.code (sub B40 [])] ⟨[(0,(.int .i64 a0))],[]⟩ goal :=
  fun a0 r h goal hq => have h := Eq.trans (Eq.symm (z6H.eq_1 n a0)) h
    (z01 (.ret [.bNorm 100000 3] []) 4 [r0,r0] (z0e (Φ := zcn goal) h hq) (by kernel_rfl))
theorem zdM (n : Nat) (a0 : Int) (r : z00) (h : z6H n a0 = some r) : zk8 a0 r := zpU a0 r (zqN n a0 r h)
def zcy (goal : GoT) (r : z00) : Prop := goal (.agg [(.int .i64 r.z08),(.bool r.z0c),(.int .i64 r.z06),(.str r.z0b),(.lst .str r.z07 0),(.lst (.user 3) r.z05 0)]) [] []
def zjI (a0 : Bool) (r : z00) : Prop := PE.Spec A 41 [(.bool a0)] [] (.agg [(.int .i64 r.z08),(.bool r.z0c),(.int .i64 r.z06),(.str r.z0b),(.lst .str r.z07 0),(.lst (.user 3) r.z05 0)]) [] []
theorem zqf (a0 : Bool) (r : z00) (H : ∀ goal : GoT,zcy goal r → PtS A 41 0 [.code (sub B41 [])] ⟨[(0,(.bool a0))],[]⟩ goal) : zjI a0 r :=
  z0n z09 zBc (by kernel_rfl) (H _ ⟨rfl,rfl,rfl⟩)
theorem zqH (n : Nat) : ∀ (a0 : Bool) (r : z00),zc8 n a0 = some r → ∀ (goal : GoT),zcy goal r → PtS A 41 0 [.code (sub B41 [])] ⟨[(0,(.bool a0))],[]⟩ goal :=
  fun a0 r h goal hq => have h := Eq.trans (Eq.symm (zc8.eq_1 n a0)) h
    (z01 (.ret [.bNorm 100000 3] []) 4 [r0,r0] (z0e (Φ := zcy goal) h hq) (by kernel_rfl))
theorem zqz (n : Nat) (a0 : Bool) (r : z00) (h : zc8 n a0 = some r) : zjI a0 r := zqf a0 r (zqH n a0 r h)
def zhj (goal : GoT) (r : (Int × Bool × Int × Str × (List Str) × (List z00))) : Prop := PtS A 66 0 [.code (sub B66 [1,1,1])] ⟨[(1,(.ptr 0 0)),(2,(.ptr 1 0))],[(0,(.box [(.int .i64 r.1),(.bool r.2.1),(.int .i64 r.2.2.1),(.str r.2.2.2.1),(.row 2),(.row 3)])),(1,(.box [(.int .i64 0),(.bool false),(.int .i64 0),(.str []),.nil,.nil])),(2,(.row .str r.2.2.2.2.1 0)),(3,(.row (.user 3) r.2.2.2.2.2 0))]⟩ goal
def zhe (goal : GoT) (r : z00) : Prop := goal (.agg [(.int .i64 r.z08),(.bool r.z0c),(.int .i64 r.z06),(.str r.z0b),(.row 0),(.row 1)]) [] [(.row .str r.z07 0),(.row (.user 3) r.z05 0)]
def zlB (a0 : z00) (r : z00) : Prop := PE.Spec A 66 [(.agg [(.int .i64 a0.z08),(.bool a0.z0c),(.int .i64 a0.z06),(.str a0.z0b),(.lst .str a0.z07 0),(.lst (.user 3) a0.z05 0)])] [] (.agg [(.int .i64 r.z08),(.bool r.z0c),(.int .i64 r.z06),(.str r.z0b),(.row 0),(.row 1)]) [] [(.row .str r.z07 0),(.row (.user 3) r.z05 0)]
theorem zp1 (a0 : z00) (r : z00) (H : ∀ goal : GoT,zhe goal r → PtS A 66 0 [.code (sub B66 [])] ⟨[(0,(.agg [(.int .i64 a0.z08),(.bool a0.z0c),(.int .i64 a0.z06),(.str a0.z0b),(.lst .str a0.z07 0),(.lst (.user 3) a0.z05 0)]))],[]⟩ goal) : zlB a0 r :=
  z0n z09 zBo (by kernel_rfl) (H _ ⟨rfl,rfl,rfl⟩)
theorem zjv (a0 : z00) (r : z00) (H : zlB a0 r) : PE.Spec A 66 [(.agg [(.int .i64 a0.z08),(.bool a0.z0c),(.int .i64 a0.z06),(.str a0.z0b),(.lst .str a0.z07 0),(.lst (.user 3) a0.z05 0)])] [] (.agg [(.int .i64 r.z08),(.bool r.z0c),(.int .i64 r.z06),(.str r.z0b),(.lst .str r.z07 0),(.lst (.user 3) r.z05 0)]) [] [] :=
  z5g (.user 3) r (by cases r; kernel_rfl) H
def zhY (n : Nat) : Prop := ∀ (p0 : Int) (p1 : Int) (p2 : Int) (p3 : Bool) (p4 : Int) (p5 : Str) (p6 : (List z00)) (p7 : (List Str)) (r : (Int × Bool × Int × Str × (List Str) × (List z00))),z7K n p0 p1 p2 p3 p4 p5 p6 p7 = some r → ∀ (goal : GoT),zhj goal r → PtS A 66 0 [.code (sub B66 [1,1,0,1,0,0]),.inLoop (sub B66 [1,1,0,1,0,0]),.inBlock 0,.code (sub B66 [1,1,1])] ⟨[(1,(.ptr 0 0)),(2,(.ptr 1 0)),(14,(.row 2)),(15,(.int .i64 p0)),(16,(.int .i64 p1))],[(0,(.box [(.int .i64 p2),(.bool p3),(.int .i64 p4),(.str p5),(.row 3),(.row 2)])),(1,(.box [(.int .i64 0),(.bool false),(.int .i64 0),(.str []),.nil,.nil])),(2,(.row (.user 3) p6 0)),(3,(.row .str p7 0))]⟩ goal
def zpv (n : Nat) : Prop := ∀ (a0 : z00) (r : z00),z5G n a0 = some r → ∀ (goal : GoT),zhe goal r → PtS A 66 0 [.code (sub B66 [])] ⟨[(0,(.agg [(.int .i64 a0.z08),(.bool a0.z0c),(.int .i64 a0.z06),(.str a0.z0b),(.lst .str a0.z07 0),(.lst (.user 3) a0.z05 0)]))],[]⟩ goal
theorem zgp (n : Nat) : zhY n ∧ zpv n := by
  induction n with
  | zero => exact ⟨(fun p0 p1 p2 p3 p4 p5 p6 p7 r h => z1e (Eq.trans (Eq.symm (z7K.eq_1 p0 p1 p2 p3 p4 p5 p6 p7)) h)),(fun a0 r h => z1e (Eq.trans (Eq.symm (z5G.eq_1 a0)) h))⟩
  | succ n ih => exact ⟨(fun p0 p1 p2 p3 p4 p5 p6 p7 r h goal hq => have h := Eq.trans (Eq.symm (z7K.eq_2 _ _ _ _ _ _ _ _ _)) h
    (z0j h (fun b5 h => (z0d h (fun b6 h => (z0d h (fun b7 h => (z0f h (fun b9 b8 h => (z0d h (fun b10 h => (z0d h (fun b11 h => (z01 (.cut [] [1,2,14,15,16] [0,1,2,3]) 13 [⟨[],[],[(0,true)],[],[]⟩,r0,⟨[],[(4,.call [] [some (.user 3)] (.agg [(.int .i64 b9.z08),(.bool b9.z0c),(.int .i64 b9.z06),(.str b9.z0b),(.lst .str b9.z07 0),(.lst (.user 3) b9.z05 0)]) [] [])],[],[],[]⟩,r0] (And.intro b5 (And.intro b6 (And.intro b7 (And.intro (zjv (rd z00.dft p6 p1) b9 (zp1 (rd z00.dft p6 p1) b9 (ih.2 (rd z00.dft p6 p1) b9 b8))) (And.intro b10 (And.intro b11 (ih.1 p0 (z0a (p1 + 1)) p2 p3 p4 p5 (p6.set (p1).toNat b9) p7 r h goal hq))))))) (by rw [← z00.eta (rd z00.dft p6 p1)]; cases b9; kernel_rfl))))))))))))) (fun b5 h => (z01 (.cut [] [1,2] [0,1,3,2]) 5 [⟨[],[],[(0,false)],[],[]⟩] (And.intro b5 (z0e (Φ := zhj goal) h hq)) (by kernel_rfl))))),(fun a0 r h goal hq => have h := Eq.trans (Eq.symm (z5G.eq_2 _ _)) h
    (z0f h (fun b2 b1 h => (z0f h (fun b4 b3 h => (z0f h (fun b13 eb13 h => (z01 (.cut [] [1,2,14,15,16] [100000,100100,200500,200200]) 9 [r0,⟨[],[(2,.call [] [some (.list .str)] (.row 0) [] [(.row .str b2 0)]),(5,.call [] [some (.list (.user 3))] (.row 0) [] [(.row (.user 3) b4 0)])],[],[],[]⟩,r0] (And.intro (zay a0.z07 b2 b1) (And.intro (z9a a0.z05 b4 b3) (ih.1 (b4.length : Int) 0 a0.z08 a0.z0c a0.z06 a0.z0b b4 b2 b13 eb13 goal (z01 (.ret [] [2,3]) 2 [r0] (z0e (Φ := zhe goal) h hq) (by kernel_rfl))))) (by kernel_rfl)))))))))⟩
theorem zyd (n : Nat) : zhY n := (zgp n).1
theorem zvv (n : Nat) : zpv n := (zgp n).2
theorem zcc (n : Nat) (a0 : z00) (r : z00) (h : z5G n a0 = some r) : zlB a0 r := zp1 a0 r (zvv n a0 r h)
theorem zaU (n : Nat) (a0 : z00) (r : z00) (h : z5G n a0 = some r) : PE.Spec A 66 [(.agg [(.int .i64 a0.z08),(.bool a0.z0c),(.int .i64 a0.z06),(.str a0.z0b),(.lst .str a0.z07 0),(.lst (.user 3) a0.z05 0)])] [] (.agg [(.int .i64 r.z08),(.bool r.z0c),(.int .i64 r.z06),(.str r.z0b),(.lst .str r.z07 0),(.lst (.user 3) r.z05 0)]) [] [] := zjv a0 r (zcc n a0 r h)
def zgK (goal : GoT) (r : z00) : Prop := goal (.agg [(.int .i64 r.z08),(.bool r.z0c),(.int .i64 r.z06),(.str r.z0b),(.lst .str r.z07 0),(.lst (.user 3) r.z05 0)]) [] []
def zr1 (a0 : (List Str)) (a1 : (List z00)) (r : z00) : Prop := PE.Spec A 38 [(.lst .str a0 0),(.lst (.user 3) a1 0)] [] (.agg [(.int .i64 r.z08),(.bool r.z0c),(.int .i64 r.z06),(.str r.z0b),(.lst .str r.z07 0),(.lst (.user 3) r.z05 0)]) [] []
theorem zuM (a0 : (List Str)) (a1 : (List z00)) (r : z00) (H : ∀ goal : GoT,zgK goal r → PtS A 38 0 [.code (sub B38 [])] ⟨[(0,(.lst .str a0 0)),(1,(.lst (.user 3) a1 0))],[]⟩ goal) : zr1 a0 a1 r :=
  z0n z09 zCq (by kernel_rfl) (H _ ⟨rfl,rfl,rfl⟩)
theorem zvk (n : Nat) : ∀ (a0 : (List Str)) (a1 : (List z00)) (r : z00),zfe n a0 a1 = some r → ∀ (goal : GoT),zgK goal r → PtS A 38 0 [.code (sub B38 [])] ⟨[(0,(.lst .str a0 0)),(1,(.lst (.user 3) a1 0))],[]⟩ goal :=
  fun a0 a1 r h goal hq => have h := Eq.trans (Eq.symm (zfe.eq_1 n a0 a1)) h
    (z0f h (fun b2 b1 h => (z01 (.ret [.bNorm 100000 3] []) 4 [r0,⟨[],[(3,.call [] [some (.user 3)] (.agg [(.int .i64 b2.z08),(.bool b2.z0c),(.int .i64 b2.z06),(.str b2.z0b),(.lst .str b2.z07 0),(.lst (.user 3) b2.z05 0)]) [] [])],[],[],[]⟩] (And.intro (zaU n (⟨5,false,0,[],a0,a1⟩ : z00) b2 b1) (z0e (Φ := zgK goal) h hq)) (by cases b2; kernel_rfl))))
theorem ziU (n : Nat) (a0 : (List Str)) (a1 : (List z00)) (r : z00) (h : zfe n a0 a1 = some r) : zr1 a0 a1 r := zuM a0 a1 r (zvk n a0 a1 r h)
def zd7 (goal : GoT) (r : (Str × (List z03) × (List z00))) : Prop := PtS A 16 0 [.code (sub B16 [1,1,1,1])] ⟨[(0,(.str r.1)),(1,(.lst (.user 0) r.2.1 0)),(4,(.ptr 0 0)),(7,(.row 1))],[(0,(.box [(.str []),(.str []),.nil])),(1,(.row (.user 3) r.2.2 0))]⟩ goal
def zeb (n : Nat) : Prop := ∀ (p0 : Str) (p1 : (List z03)) (p2 : (List z03)) (p3 : Int) (p4 : Int) (p5 : (List z00)) (r : (Str × (List z03) × (List z00))),z4q n p0 p1 p2 p3 p4 p5 = some r → ∀ (goal : GoT),zd7 goal r → PtS A 16 0 [.code (sub B16 [1,1,1,0,1,0,0]),.inLoop (sub B16 [1,1,1,0,1,0,0]),.inBlock 0,.code (sub B16 [1,1,1,1])] ⟨[(0,(.str p0)),(1,(.lst (.user 0) p1 0)),(4,(.ptr 0 0)),(7,(.row 1)),(20,(.lst (.user 0) p2 0)),(21,(.int .i64 p3)),(22,(.int .i64 p4))],[(0,(.box [(.str []),(.str []),.nil])),(1,(.row (.user 3) p5 0))]⟩ goal
theorem zk3 (n : Nat) : zeb n := by
  induction n with
  | zero => exact (fun p0 p1 p2 p3 p4 p5 r h => z1e (Eq.trans (Eq.symm (z4q.eq_1 p0 p1 p2 p3 p4 p5)) h))
  | succ n ih => exact (fun p0 p1 p2 p3 p4 p5 r h goal hq => have h := Eq.trans (Eq.symm (z4q.eq_2 _ _ _ _ _ _ _)) h
    (z0j h (fun b4 h => (z0d h (fun b5 h => (z0f h (fun b7 b6 h => (z0f h (fun b9 b8 h => (z0f h (fun b11 b10 h => (z0f h (fun b13 b12 h => (z0f h (fun b15 b14 h => (z0f h (fun b17 b16 h => (z0d h (fun b18 h => (z01 (.cut [] [0,1,4,7,20,21,22] [0,802000]) 13 [⟨[],[],[(0,true)],[],[]⟩,r0,⟨[],[(4,.call [] [some .str] (.agg [(.int .i64 b7.z08),(.bool b7.z0c),(.int .i64 b7.z06),(.str b7.z0b),(.lst .str b7.z07 0),(.lst (.user 3) b7.z05 0)]) [] []),(7,.call [] [some (.int .i64)] (.agg [(.int .i64 b9.z08),(.bool b9.z0c),(.int .i64 b9.z06),(.str b9.z0b),(.lst .str b9.z07 0),(.lst (.user 3) b9.z05 0)]) [] []),(10,.call [] [some .bool] (.agg [(.int .i64 b11.z08),(.bool b11.z0c),(.int .i64 b11.z06),(.str b11.z0b),(.lst .str b11.z07 0),(.lst (.user 3) b11.z05 0)]) [] []),(13,.call [] [some (.int .i64)] (.agg [(.int .i64 b13.z08),(.bool b13.z0c),(.int .i64 b13.z06),(.str b13.z0b),(.lst .str b13.z07 0),(.lst (.user 3) b13.z05 0)]) [] []),(16,.call [] [some (.int .i64)] (.agg [(.int .i64 b15.z08),(.bool b15.z0c),(.int .i64 b15.z06),(.str b15.z0b),(.lst .str b15.z07 0),(.lst (.user 3) b15.z05 0)]) [] []),(18,.call [] [some (.list .str),some (.list (.user 3))] (.agg [(.int .i64 b17.z08),(.bool b17.z0c),(.int .i64 b17.z06),(.str b17.z0b),(.lst .str b17.z07 0),(.lst (.user 3) b17.z05 0)]) [] [])],[],[],[]⟩,r0] (And.intro b4 (And.intro b5 (And.intro (z4O n ((rd z03.dft p2 p4).z0l) b7 b6) (And.intro (zdM n ((rd z03.dft p2 p4).z08) b9 b8) (And.intro (zqz n ((rd z03.dft p2 p4).z0p) b11 b10) (And.intro (zdM n ((rd z03.dft p2 p4).z0G) b13 b12) (And.intro (zdM n ((rd z03.dft p2 p4).z15) b15 b14) (And.intro (ziU n ([([110,97,109,101] : Str),([107,105,110,100] : Str),([114,101,113,117,105,114,101,100] : Str),([108,101,97,115,116] : Str),([109,111,115,116] : Str)]) [b7,b9,b11,b13,b15] b17 b16) (And.intro b18 (ih p0 p1 p2 p3 (z0a (p4 + 1)) (p5 ++ [b17]) r h goal hq)))))))))) (by cases b17; cases b15; cases b13; cases b11; cases b9; cases b7; kernel_rfl))))))))))))))))))) (fun b4 h => (z01 (.cut [] [0,1,4,7] [0,1]) 5 [⟨[],[],[(0,false)],[],[]⟩] (And.intro b4 (z0e (Φ := zd7 goal) h hq)) (by kernel_rfl)))))
theorem zlI (n : Nat) : zeb n := (zk3 n)
def zeV (goal : GoT) (r : z00) : Prop := goal (.agg [(.int .i64 r.z08),(.bool r.z0c),(.int .i64 r.z06),(.str r.z0b),(.lst .str r.z07 0),(.lst (.user 3) r.z05 0)]) [] []
def zoq (a0 : (List z00)) (r : z00) : Prop := PE.Spec A 42 [(.lst (.user 3) a0 0)] [] (.agg [(.int .i64 r.z08),(.bool r.z0c),(.int .i64 r.z06),(.str r.z0b),(.lst .str r.z07 0),(.lst (.user 3) r.z05 0)]) [] []
theorem zug (a0 : (List z00)) (r : z00) (H : ∀ goal : GoT,zeV goal r → PtS A 42 0 [.code (sub B42 [])] ⟨[(0,(.lst (.user 3) a0 0))],[]⟩ goal) : zoq a0 r :=
  z0n z09 zCc (by kernel_rfl) (H _ ⟨rfl,rfl,rfl⟩)
theorem ztl (n : Nat) : ∀ (a0 : (List z00)) (r : z00),zep n a0 = some r → ∀ (goal : GoT),zeV goal r → PtS A 42 0 [.code (sub B42 [])] ⟨[(0,(.lst (.user 3) a0 0))],[]⟩ goal :=
  fun a0 r h goal hq => have h := Eq.trans (Eq.symm (zep.eq_1 n a0)) h
    (z0f h (fun b2 b1 h => (z01 (.ret [.bNorm 100000 3] []) 4 [r0,⟨[],[(2,.call [] [some (.user 3)] (.agg [(.int .i64 b2.z08),(.bool b2.z0c),(.int .i64 b2.z06),(.str b2.z0b),(.lst .str b2.z07 0),(.lst (.user 3) b2.z05 0)]) [] [])],[],[],[]⟩] (And.intro (zaU n (⟨4,false,0,[],[],a0⟩ : z00) b2 b1) (z0e (Φ := zeV goal) h hq)) (by cases b2; kernel_rfl))))
theorem zmK (n : Nat) (a0 : (List z00)) (r : z00) (h : zep n a0 = some r) : zoq a0 r := zug a0 r (ztl n a0 r h)
def z2E (goal : GoT) (r : (Sum Int Unit)) : Prop := (Sum.elim (fun x => PtS A 108 0 [.code .ret] ⟨[(4,(.int .i64 x))],[]⟩ goal) (fun x => PtS A 108 0 [.code (sub B108 [1,1])] ⟨[],[]⟩ goal)) r
def z5f (n : Nat) : Prop := ∀ (p0 : (List Str)) (p1 : Str) (p2 : Int) (p3 : Int) (r : (Sum Int Unit)),z0u n p0 p1 p2 p3 = some r → ∀ (goal : GoT),z2E goal r → PtS A 108 0 [.code (sub B108 [1,0,1,0,0]),.inLoop (sub B108 [1,0,1,0,0]),.inBlock 0,.code (sub B108 [1,1])] ⟨[(0,(.lst .str p0 0)),(1,(.str p1)),(7,(.int .i64 p2)),(8,(.int .i64 p3))],[]⟩ goal
theorem z9c (n : Nat) : z5f n := by
  induction n with
  | zero => exact (fun p0 p1 p2 p3 r h => z1e (Eq.trans (Eq.symm (z0u.eq_1 p0 p1 p2 p3)) h))
  | succ n ih => exact (fun p0 p1 p2 p3 r h goal hq => have h := Eq.trans (Eq.symm (z0u.eq_2 _ _ _ _ _)) h
    (z0j h (fun b1 h => (z0d h (fun b2 h => (z0j h (fun b3 h => (z01 (.cutRet [] [4] []) 14 [⟨[],[],[(0,true)],[],[]⟩,r0,⟨[],[],[(5,true)],[],[]⟩,r0] (And.intro b1 (And.intro b2 (And.intro b3 (z0e (Φ := z2E goal) h hq)))) (by kernel_rfl))) (fun b3 h => (z01 (.cut [] [0,1,7,8] []) 16 [⟨[],[],[(0,true)],[],[]⟩,r0,⟨[],[],[(5,false)],[],[]⟩,r0] (And.intro b1 (And.intro b2 (And.intro b3 (ih p0 p1 p2 (z0a (p3 + 1)) r h goal hq)))) (by kernel_rfl))))))) (fun b1 h => (z01 (.cut [] [] []) 5 [⟨[],[],[(0,false)],[],[]⟩] (And.intro b1 (z0e (Φ := z2E goal) h hq)) (by kernel_rfl)))))
theorem z9L (n : Nat) : z5f n := (z9c n)
def z1X (goal : GoT) (r : Int) : Prop := goal (.int .i64 r) [] []
def z6P (a0 : (List Str)) (a1 : Str) (r : Int) : Prop := PE.Spec A 108 [(.lst .str a0 0),(.str a1)] [] (.int .i64 r) [] []
theorem zaJ (a0 : (List Str)) (a1 : Str) (r : Int) (H : ∀ goal : GoT,z1X goal r → PtS A 108 0 [.code (sub B108 [])] ⟨[(0,(.lst .str a0 0)),(1,(.str a1))],[]⟩ goal) : z6P a0 a1 r :=
  z0n z09 zxh (by kernel_rfl) (H _ ⟨rfl,rfl,rfl⟩)
theorem zaC (n : Nat) : ∀ (a0 : (List Str)) (a1 : Str) (r : Int),z0I n a0 a1 = some r → ∀ (goal : GoT),z1X goal r → PtS A 108 0 [.code (sub B108 [])] ⟨[(0,(.lst .str a0 0)),(1,(.str a1))],[]⟩ goal :=
  fun a0 a1 r h goal hq => have h := Eq.trans (Eq.symm (z0I.eq_1 n a0 a1)) h
    (z0f h (fun b4 eb4 h => (z01 (.cut [] [0,1,7,8] []) 7 [r0,r0] (z9L n a0 a1 (a0.length : Int) 0 b4 eb4 goal (match b4,h with | .inl b5,h => (z01 (.ret [] []) 0 [] (z0e (Φ := z1X goal) h hq) (by kernel_rfl)) | .inr b6,h => (z01 (.ret [] []) 2 [r0] (z0e (Φ := z1X goal) h hq) (by kernel_rfl)))) (by kernel_rfl))))
theorem z5Y (n : Nat) (a0 : (List Str)) (a1 : Str) (r : Int) (h : z0I n a0 a1 = some r) : z6P a0 a1 r := zaJ a0 a1 r (zaC n a0 a1 r h)
def z2D (goal : GoT) (r : Bool) : Prop := goal (.bool r) [] []
def z5y (a0 : (List Str)) (a1 : Str) (r : Bool) : Prop := PE.Spec A 67 [(.lst .str a0 0),(.str a1)] [] (.bool r) [] []
theorem z9w (a0 : (List Str)) (a1 : Str) (r : Bool) (H : ∀ goal : GoT,z2D goal r → PtS A 67 0 [.code (sub B67 [])] ⟨[(0,(.lst .str a0 0)),(1,(.str a1))],[]⟩ goal) : z5y a0 a1 r :=
  z0n z09 zBF (by kernel_rfl) (H _ ⟨rfl,rfl,rfl⟩)
theorem z9J (n : Nat) : ∀ (a0 : (List Str)) (a1 : Str) (r : Bool),z1p n a0 a1 = some r → ∀ (goal : GoT),z2D goal r → PtS A 67 0 [.code (sub B67 [])] ⟨[(0,(.lst .str a0 0)),(1,(.str a1))],[]⟩ goal :=
  fun a0 a1 r h goal hq => have h := Eq.trans (Eq.symm (z1p.eq_1 n a0 a1)) h
    (z0f h (fun b2 b1 h => (z01 (.ret [] []) 4 [r0,⟨[],[(2,.call [] [some (.list .str),some .str] (.int .i64 b2) [] [])],[],[],[]⟩] (And.intro (z5Y n a0 a1 b2 b1) (z0e (Φ := z2D goal) h hq)) (by kernel_rfl))))
theorem z2O (n : Nat) (a0 : (List Str)) (a1 : Str) (r : Bool) (h : z1p n a0 a1 = some r) : z5y a0 a1 r := z9w a0 a1 r (z9J n a0 a1 r h)
def z6s (goal : GoT) (r : Int) : Prop := goal (.int .i64 r) [] []
def zaz (a0 : z02) (r : Int) : Prop := PE.Spec A 97 [(.agg [(.str a0.z3q),(.int .i64 a0.zcT)])] [] (.int .i64 r) [] []
theorem zfZ (a0 : z02) (r : Int) (H : ∀ goal : GoT,z6s goal r → PtS A 97 0 [.code (sub B97 [])] ⟨[(0,(.agg [(.str a0.z3q),(.int .i64 a0.zcT)]))],[]⟩ goal) : zaz a0 r :=
  z0n z09 zBa (by kernel_rfl) (H _ ⟨rfl,rfl,rfl⟩)
theorem zg5 (n : Nat) : ∀ (a0 : z02) (r : Int),z0L n a0 = some r → ∀ (goal : GoT),z6s goal r → PtS A 97 0 [.code (sub B97 [])] ⟨[(0,(.agg [(.str a0.z3q),(.int .i64 a0.zcT)]))],[]⟩ goal :=
  fun a0 r h goal hq => have h := Eq.trans (Eq.symm (z0L.eq_1 n a0)) h
    (z01 (.ret [] []) 4 [r0,r0] (And.intro (by decide : nz 3) (And.intro (by decide : nz 3) (z0e (Φ := z6s goal) h hq))) (by kernel_rfl))
theorem z1g (n : Nat) (a0 : z02) (r : Int) (h : z0L n a0 = some r) : zaz a0 r := zfZ a0 r (zg5 n a0 r h)
def z6F (goal : GoT) (r : Int) : Prop := goal (.int .i64 r) [] []
def zaI (a0 : z02) (r : Int) : Prop := PE.Spec A 95 [(.agg [(.str a0.z3q),(.int .i64 a0.zcT)])] [] (.int .i64 r) [] []
theorem zg6 (a0 : z02) (r : Int) (H : ∀ goal : GoT,z6F goal r → PtS A 95 0 [.code (sub B95 [])] ⟨[(0,(.agg [(.str a0.z3q),(.int .i64 a0.zcT)]))],[]⟩ goal) : zaI a0 r :=
  z0n z09 zBx (by kernel_rfl) (H _ ⟨rfl,rfl,rfl⟩)
theorem zg9 (n : Nat) : ∀ (a0 : z02) (r : Int),z2r n a0 = some r → ∀ (goal : GoT),z6F goal r → PtS A 95 0 [.code (sub B95 [])] ⟨[(0,(.agg [(.str a0.z3q),(.int .i64 a0.zcT)]))],[]⟩ goal :=
  fun a0 r h goal hq => have h := Eq.trans (Eq.symm (z2r.eq_1 n a0)) h
    (z0f h (fun b2 b1 h => (z0f h (fun b4 b3 h => (z01 (.ret [] []) 4 [r0,⟨[],[(6,.call [] [some (.user 4)] (.int .i64 b2) [] []),(12,.call [] [some (.user 4)] (.int .i64 b4) [] [])],[],[],[]⟩] (And.intro (z1g n a0 b2 b1) (And.intro (by decide : nz 3) (And.intro (z1g n a0 b4 b3) (z0e (Φ := z6F goal) h hq)))) (by kernel_rfl))))))
theorem z1G (n : Nat) (a0 : z02) (r : Int) (h : z2r n a0 = some r) : zaI a0 r := zg6 a0 r (zg9 n a0 r h)
def z7m (goal : GoT) (r : Int) : Prop := goal (.int .i64 r) [] []
def zfK (a0 : Int) (r : Int) : Prop := PE.Spec A 110 [(.int .i64 a0)] [] (.int .i64 r) [] []
theorem zla (a0 : Int) (r : Int) (H : ∀ goal : GoT,z7m goal r → PtS A 110 0 [.code (sub B110 [])] ⟨[(0,(.int .i64 a0))],[]⟩ goal) : zfK a0 r :=
  z0n z09 zAd (by kernel_rfl) (H _ ⟨rfl,rfl,rfl⟩)
theorem zlh (n : Nat) : ∀ (a0 : Int) (r : Int),zat n a0 = some r → ∀ (goal : GoT),z7m goal r → PtS A 110 0 [.code (sub B110 [])] ⟨[(0,(.int .i64 a0))],[]⟩ goal :=
  fun a0 r h goal hq => have h := Eq.trans (Eq.symm (zat.eq_1 n a0)) h
    (z0f h (fun b2 b1 h => (z0j h (fun b3 h => (z01 (.ret [] []) 10 [r0,⟨[],[(0,.call [] [] (.map 0) [] [(.tmap (.int .i64) (.user 4) ((ast (fun y => 8 == y) 8 (⟨([49,65,65,76] : Str),6⟩ : z02) (ast (fun y => 7 == y) 7 (⟨([83] : Str),626⟩ : z02) (ast (fun y => 6 == y) 6 (⟨([77] : Str),2⟩ : z02) (ast (fun y => 5 == y) 5 (⟨([48,65] : Str),16⟩ : z02) (ast (fun y => 4 == y) 4 (⟨([65] : Str),32⟩ : z02) (ast (fun y => 3 == y) 3 (⟨([66] : Str),32⟩ : z02) (ast (fun y => 2 == y) 2 (⟨([68] : Str),32⟩ : z02) (ast (fun y => 1 == y) 1 (⟨([69] : Str),32⟩ : z02) ([] : List (Int × z02)))))))))) : (List (Int × z02))))])],[],[],[]⟩,⟨[],[],[(1,true)],[],[]⟩,r0] (And.intro (z3L n  b2 b1) (And.intro b3 (z0e (Φ := z7m goal) h hq))) (by kernel_rfl))) (fun b3 h => (z0f h (fun b5 b4 h => (z01 (.ret [] []) 11 [r0,⟨[],[(0,.call [] [] (.map 0) [] [(.tmap (.int .i64) (.user 4) ((ast (fun y => 8 == y) 8 (⟨([49,65,65,76] : Str),6⟩ : z02) (ast (fun y => 7 == y) 7 (⟨([83] : Str),626⟩ : z02) (ast (fun y => 6 == y) 6 (⟨([77] : Str),2⟩ : z02) (ast (fun y => 5 == y) 5 (⟨([48,65] : Str),16⟩ : z02) (ast (fun y => 4 == y) 4 (⟨([65] : Str),32⟩ : z02) (ast (fun y => 3 == y) 3 (⟨([66] : Str),32⟩ : z02) (ast (fun y => 2 == y) 2 (⟨([68] : Str),32⟩ : z02) (ast (fun y => 1 == y) 1 (⟨([69] : Str),32⟩ : z02) ([] : List (Int × z02)))))))))) : (List (Int × z02))))])],[],[],[]⟩,⟨[],[],[(1,false)],[],[]⟩,⟨[],[(1,.call [] [some (.user 4)] (.int .i64 b5) [] [])],[],[],[]⟩] (And.intro (z3L n  b2 b1) (And.intro b3 (And.intro (z1G n ((alk (fun y => a0 == y) (ast (fun y => 8 == y) 8 (⟨([49,65,65,76] : Str),6⟩ : z02) (ast (fun y => 7 == y) 7 (⟨([83] : Str),626⟩ : z02) (ast (fun y => 6 == y) 6 (⟨([77] : Str),2⟩ : z02) (ast (fun y => 5 == y) 5 (⟨([48,65] : Str),16⟩ : z02) (ast (fun y => 4 == y) 4 (⟨([65] : Str),32⟩ : z02) (ast (fun y => 3 == y) 3 (⟨([66] : Str),32⟩ : z02) (ast (fun y => 2 == y) 2 (⟨([68] : Str),32⟩ : z02) (ast (fun y => 1 == y) 1 (⟨([69] : Str),32⟩ : z02) ([] : List (Int × z02))))))))))).getD z02.dft) b5 b4) (z0e (Φ := z7m goal) h hq)))) (by kernel_rfl))))))))
theorem zlV (n : Nat) (a0 : Int) (r : Int) (h : zat n a0 = some r) : zfK a0 r := zla a0 r (zlh n a0 r h)
def zdQ (goal : GoT) (r : Str) : Prop := goal (.str r) [] []
def zmo (r : Str) : Prop := PE.Spec A 69 [] [] (.str r) [] []
theorem zst (r : Str) (H : ∀ goal : GoT,zdQ goal r → PtS A 69 0 [.code (sub B69 [])] ⟨[],[]⟩ goal) : zmo r :=
  z0n z09 zAW (by kernel_rfl) (H _ ⟨rfl,rfl,rfl⟩)
theorem zsC (n : Nat) : ∀ (r : Str),zdS n = some r → ∀ (goal : GoT),zdQ goal r → PtS A 69 0 [.code (sub B69 [])] ⟨[],[]⟩ goal :=
  fun r h goal hq => have h := Eq.trans (Eq.symm (zdS.eq_1 n)) h
    (z0f h (fun b2 b1 h => (z0f h (fun b4 b3 h => (z01 (.ret [] []) 4 [r0,⟨[],[(0,.call [] [some (.int .i64)] (.int .i64 b2) [] []),(1,.call [] [some .str,some (.int .i64)] (.str b4) [] [])],[],[],[]⟩] (And.intro (zlV n 1 b2 b1) (And.intro (z2x ([35] : Str) b2 b4 b3) (z0e (Φ := zdQ goal) h hq))) (by kernel_rfl))))))
theorem zrE (n : Nat) (r : Str) (h : zdS n = some r) : zmo r := zst  r (zsC n  r h)
def zau (goal : GoT) (r : Int) : Prop := goal (.int .i64 r) [] []
def zm3 (a0 : z00) (a1 : Str) (r : Int) : Prop := PE.Spec A 73 [(.agg [(.int .i64 a0.z08),(.bool a0.z0c),(.int .i64 a0.z06),(.str a0.z0b),(.lst .str a0.z07 0),(.lst (.user 3) a0.z05 0)]),(.str a1)] [] (.int .i64 r) [] []
theorem zsl (a0 : z00) (a1 : Str) (r : Int) (H : ∀ goal : GoT,zau goal r → PtS A 73 0 [.code (sub B73 [])] ⟨[(0,(.agg [(.int .i64 a0.z08),(.bool a0.z0c),(.int .i64 a0.z06),(.str a0.z0b),(.lst .str a0.z07 0),(.lst (.user 3) a0.z05 0)])),(1,(.str a1))],[]⟩ goal) : zm3 a0 a1 r :=
  z0n z09 zBM (by kernel_rfl) (H _ ⟨rfl,rfl,rfl⟩)
theorem zsN (n : Nat) : ∀ (a0 : z00) (a1 : Str) (r : Int),za0 n a0 a1 = some r → ∀ (goal : GoT),zau goal r → PtS A 73 0 [.code (sub B73 [])] ⟨[(0,(.agg [(.int .i64 a0.z08),(.bool a0.z0c),(.int .i64 a0.z06),(.str a0.z0b),(.lst .str a0.z07 0),(.lst (.user 3) a0.z05 0)])),(1,(.str a1))],[]⟩ goal :=
  fun a0 a1 r h goal hq => have h := Eq.trans (Eq.symm (za0.eq_1 n a0 a1)) h
    (z0j h (fun b1 h => (z01 (.ret [] []) 8 [r0,⟨[],[],[(2,true)],[],[]⟩,r0] (And.intro b1 (z0e (Φ := zau goal) h hq)) (by kernel_rfl))) (fun b1 h => (z0d h (fun b2 h => (z0f h (fun b4 b3 h => (z01 (.ret [] []) 9 [r0,⟨[],[],[(2,false)],[],[]⟩,⟨[],[(11,.call [] [some (.list .str),some .str] (.int .i64 b4) [] [])],[],[],[]⟩] (And.intro b1 (And.intro b2 (And.intro (z5Y n (a0.z07.take (if (a0.z05.length : Int) < (a0.z07.length : Int) then (a0.z05.length : Int) else (a0.z07.length : Int)).toNat) a1 b4 b3) (z0e (Φ := zau goal) h hq)))) (by kernel_rfl))))))))
theorem zbB (n : Nat) (a0 : z00) (a1 : Str) (r : Int) (h : za0 n a0 a1 = some r) : zm3 a0 a1 r := zsl a0 a1 r (zsN n a0 a1 r h)
def zdg (goal : GoT) (r : z00) : Prop := goal (.agg [(.int .i64 r.z08),(.bool r.z0c),(.int .i64 r.z06),(.str r.z0b),(.row 0),(.row 1)]) [] [(.row .str r.z07 0),(.row (.user 3) r.z05 0)]
def zlY (a0 : z00) (a1 : Str) (a2 : z00) (r : z00) : Prop := PE.Spec A 109 [(.agg [(.int .i64 a0.z08),(.bool a0.z0c),(.int .i64 a0.z06),(.str a0.z0b),(.lst .str a0.z07 0),(.lst (.user 3) a0.z05 0)]),(.str a1),(.agg [(.int .i64 a2.z08),(.bool a2.z0c),(.int .i64 a2.z06),(.str a2.z0b),(.lst .str a2.z07 0),(.lst (.user 3) a2.z05 0)])] [] (.agg [(.int .i64 r.z08),(.bool r.z0c),(.int .i64 r.z06),(.str r.z0b),(.row 0),(.row 1)]) [] [(.row .str r.z07 0),(.row (.user 3) r.z05 0)]
theorem zv6 (a0 : z00) (a1 : Str) (a2 : z00) (r : z00) (H : ∀ goal : GoT,zdg goal r → PtS A 109 0 [.code (sub B109 [])] ⟨[(0,(.agg [(.int .i64 a0.z08),(.bool a0.z0c),(.int .i64 a0.z06),(.str a0.z0b),(.lst .str a0.z07 0),(.lst (.user 3) a0.z05 0)])),(1,(.str a1)),(2,(.agg [(.int .i64 a2.z08),(.bool a2.z0c),(.int .i64 a2.z06),(.str a2.z0b),(.lst .str a2.z07 0),(.lst (.user 3) a2.z05 0)]))],[]⟩ goal) : zlY a0 a1 a2 r :=
  z0n z09 zzY (by kernel_rfl) (H _ ⟨rfl,rfl,rfl⟩)
theorem zsf (a0 : z00) (a1 : Str) (a2 : z00) (r : z00) (H : zlY a0 a1 a2 r) : PE.Spec A 109 [(.agg [(.int .i64 a0.z08),(.bool a0.z0c),(.int .i64 a0.z06),(.str a0.z0b),(.lst .str a0.z07 0),(.lst (.user 3) a0.z05 0)]),(.str a1),(.agg [(.int .i64 a2.z08),(.bool a2.z0c),(.int .i64 a2.z06),(.str a2.z0b),(.lst .str a2.z07 0),(.lst (.user 3) a2.z05 0)])] [] (.agg [(.int .i64 r.z08),(.bool r.z0c),(.int .i64 r.z06),(.str r.z0b),(.lst .str r.z07 0),(.lst (.user 3) r.z05 0)]) [] [] :=
  z5g (.user 3) r (by cases r; kernel_rfl) H
theorem zve (n : Nat) : ∀ (a0 : z00) (a1 : Str) (a2 : z00) (r : z00),z88 n a0 a1 a2 = some r → ∀ (goal : GoT),zdg goal r → PtS A 109 0 [.code (sub B109 [])] ⟨[(0,(.agg [(.int .i64 a0.z08),(.bool a0.z0c),(.int .i64 a0.z06),(.str a0.z0b),(.lst .str a0.z07 0),(.lst (.user 3) a0.z05 0)])),(1,(.str a1)),(2,(.agg [(.int .i64 a2.z08),(.bool a2.z0c),(.int .i64 a2.z06),(.str a2.z0b),(.lst .str a2.z07 0),(.lst (.user 3) a2.z05 0)]))],[]⟩ goal :=
  fun a0 a1 a2 r h goal hq => have h := Eq.trans (Eq.symm (z88.eq_1 n a0 a1 a2)) h
    (z0f h (fun b2 b1 h => (z0f h (fun b4 b3 h => (z0j h (fun b5 h => (z0f h (fun b7 b6 h => (z0d h (fun b8 h => (z0d h (fun b9 h => (z01 (.ret [] [200100,200101]) 14 [r0,⟨[],[(1,.call [] [some (.user 3)] (.agg [(.int .i64 b2.z08),(.bool b2.z0c),(.int .i64 b2.z06),(.str b2.z0b),(.row 0),(.row 1)]) [] [(.row .str b2.z07 0),(.row (.user 3) b2.z05 0)])],[],[],[]⟩,⟨[],[(2,.call [] [some (.user 3),some .str] (.int .i64 b4) [] [])],[],[],[]⟩,⟨[],[],[(1,true)],[],[]⟩,⟨[],[(4,.call [] [some (.user 3)] (.agg [(.int .i64 b7.z08),(.bool b7.z0c),(.int .i64 b7.z06),(.str b7.z0b),(.lst .str b7.z07 0),(.lst (.user 3) b7.z05 0)]) [] [])],[],[],[]⟩,r0] (And.intro (zcc n a0 b2 b1) (And.intro (zbB n a0 a1 b4 b3) (And.intro b5 (And.intro (zaU n a2 b7 b6) (And.intro b8 (And.intro b9 (z0e (Φ := zdg goal) h hq))))))) (by cases b7; cases a2; cases a0; kernel_rfl))))))))) (fun b5 h => (z0d h (fun b10 h => (z0f h (fun b12 b11 h => (z0d h (fun b13 h => (z01 (.ret [] [700400,701000]) 15 [r0,⟨[],[(1,.call [] [some (.user 3)] (.agg [(.int .i64 b2.z08),(.bool b2.z0c),(.int .i64 b2.z06),(.str b2.z0b),(.row 0),(.row 1)]) [] [(.row .str b2.z07 0),(.row (.user 3) b2.z05 0)])],[],[],[]⟩,⟨[],[(2,.call [] [some (.user 3),some .str] (.int .i64 b4) [] [])],[],[],[]⟩,⟨[],[],[(1,false)],[],[]⟩,⟨[],[(8,.call [] [some (.user 3)] (.agg [(.int .i64 b12.z08),(.bool b12.z0c),(.int .i64 b12.z06),(.str b12.z0b),(.lst .str b12.z07 0),(.lst (.user 3) b12.z05 0)]) [] [])],[],[],[]⟩,r0] (And.intro (zcc n a0 b2 b1) (And.intro (zbB n a0 a1 b4 b3) (And.intro b5 (And.intro b10 (And.intro (zaU n a2 b12 b11) (And.intro b13 (z0e (Φ := zdg goal) h hq))))))) (by cases b12; cases a2; cases a0; kernel_rfl))))))))))))))
theorem zf8 (n : Nat) (a0 : z00) (a1 : Str) (a2 : z00) (r : z00) (h : z88 n a0 a1 a2 = some r) : zlY a0 a1 a2 r := zv6 a0 a1 a2 r (zve n a0 a1 a2 r h)
theorem zti (n : Nat) (a0 : z00) (a1 : Str) (a2 : z00) (r : z00) (h : z88 n a0 a1 a2 = some r) : PE.Spec A 109 [(.agg [(.int .i64 a0.z08),(.bool a0.z0c),(.int .i64 a0.z06),(.str a0.z0b),(.lst .str a0.z07 0),(.lst (.user 3) a0.z05 0)]),(.str a1),(.agg [(.int .i64 a2.z08),(.bool a2.z0c),(.int .i64 a2.z06),(.str a2.z0b),(.lst .str a2.z07 0),(.lst (.user 3) a2.z05 0)])] [] (.agg [(.int .i64 r.z08),(.bool r.z0c),(.int .i64 r.z06),(.str r.z0b),(.lst .str r.z07 0),(.lst (.user 3) r.z05 0)]) [] [] := zsf a0 a1 a2 r (zf8 n a0 a1 a2 r h)
def zgP (goal : GoT) (r : z00) : Prop := PtS A 68 0 [.code (sub B68 [1,1])] ⟨[(3,(.ptr 0 0)),(6,(.ptr 1 0))],[(0,(.box [(.int .i64 r.z08),(.bool r.z0c),(.int .i64 r.z06),(.str r.z0b),(.lst .str r.z07 0),(.lst (.user 3) r.z05 0)])),(1,(.box [(.int .i64 0),(.bool false),(.int .i64 0),(.str []),.nil,.nil]))]⟩ goal
def zi1 (n : Nat) : Prop := ∀ (p0 : Str) (p1 : (List Str)) (p2 : Int) (p3 : Int) (p4 : z00) (r : z00),z6z n p0 p1 p2 p3 p4 = some r → ∀ (goal : GoT),zgP goal r → PtS A 68 0 [.code (sub B68 [1,0,1,0,0]),.inLoop (sub B68 [1,0,1,0,0]),.inBlock 0,.code (sub B68 [1,1])] ⟨[(2,(.str p0)),(3,(.ptr 0 0)),(6,(.ptr 1 0)),(9,(.lst .str p1 0)),(10,(.int .i64 p2)),(11,(.int .i64 p3))],[(0,(.box [(.int .i64 p4.z08),(.bool p4.z0c),(.int .i64 p4.z06),(.str p4.z0b),(.lst .str p4.z07 0),(.lst (.user 3) p4.z05 0)])),(1,(.box [(.int .i64 0),(.bool false),(.int .i64 0),(.str []),.nil,.nil]))]⟩ goal
theorem zoe (n : Nat) : zi1 n := by
  induction n with
  | zero => exact (fun p0 p1 p2 p3 p4 r h => z1e (Eq.trans (Eq.symm (z6z.eq_1 p0 p1 p2 p3 p4)) h))
  | succ n ih => exact (fun p0 p1 p2 p3 p4 r h goal hq => have h := Eq.trans (Eq.symm (z6z.eq_2 _ _ _ _ _ _)) h
    (z0j h (fun b1 h => (z0d h (fun b2 h => (z0f h (fun b4 b3 h => (z0f h (fun b6 b5 h => (z01 (.cut [] [2,3,6,9,10,11] [0,1]) 13 [⟨[],[],[(0,true)],[],[]⟩,r0,⟨[],[(3,.call [] [some .str] (.agg [(.int .i64 b4.z08),(.bool b4.z0c),(.int .i64 b4.z06),(.str b4.z0b),(.lst .str b4.z07 0),(.lst (.user 3) b4.z05 0)]) [] []),(4,.call [] [some (.user 3),some .str,some (.user 3)] (.agg [(.int .i64 b6.z08),(.bool b6.z0c),(.int .i64 b6.z06),(.str b6.z0b),(.lst .str b6.z07 0),(.lst (.user 3) b6.z05 0)]) [] [])],[],[],[]⟩,r0] (And.intro b1 (And.intro b2 (And.intro (z4O n p0 b4 b3) (And.intro (zti n p4 (rd [] p1 p3) b4 b6 b5) (ih p0 p1 p2 (z0a (p3 + 1)) b6 r h goal hq))))) (by cases b6; cases b4; cases p4; kernel_rfl))))))))) (fun b1 h => (z01 (.cut [] [3,6] [0,1]) 5 [⟨[],[],[(0,false)],[],[]⟩] (And.intro b1 (z0e (Φ := zgP goal) h hq)) (by cases p4; kernel_rfl)))))
theorem zpN (n : Nat) : zi1 n := (zoe n)
def zgo (goal : GoT) (r : z00) : Prop := goal (.agg [(.int .i64 r.z08),(.bool r.z0c),(.int .i64 r.z06),(.str r.z0b),(.lst .str r.z07 0),(.lst (.user 3) r.z05 0)]) [] []
def zrq (a0 : z00) (a1 : (List Str)) (a2 : Str) (r : z00) : Prop := PE.Spec A 68 [(.agg [(.int .i64 a0.z08),(.bool a0.z0c),(.int .i64 a0.z06),(.str a0.z0b),(.lst .str a0.z07 0),(.lst (.user 3) a0.z05 0)]),(.lst .str a1 0),(.str a2)] [] (.agg [(.int .i64 r.z08),(.bool r.z0c),(.int .i64 r.z06),(.str r.z0b),(.lst .str r.z07 0),(.lst (.user 3) r.z05 0)]) [] []
theorem zuV (a0 : z00) (a1 : (List Str)) (a2 : Str) (r : z00) (H : ∀ goal : GoT,zgo goal r → PtS A 68 0 [.code (sub B68 [])] ⟨[(0,(.agg [(.int .i64 a0.z08),(.bool a0.z0c),(.int .i64 a0.z06),(.str a0.z0b),(.lst .str a0.z07 0),(.lst (.user 3) a0.z05 0)])),(1,(.lst .str a1 0)),(2,(.str a2))],[]⟩ goal) : zrq a0 a1 a2 r :=
  z0n z09 zBW (by kernel_rfl) (H _ ⟨rfl,rfl,rfl⟩)
theorem zv4 (n : Nat) : ∀ (a0 : z00) (a1 : (List Str)) (a2 : Str) (r : z00),zf7 n a0 a1 a2 = some r → ∀ (goal : GoT),zgo goal r → PtS A 68 0 [.code (sub B68 [])] ⟨[(0,(.agg [(.int .i64 a0.z08),(.bool a0.z0c),(.int .i64 a0.z06),(.str a0.z0b),(.lst .str a0.z07 0),(.lst (.user 3) a0.z05 0)])),(1,(.lst .str a1 0)),(2,(.str a2))],[]⟩ goal :=
  fun a0 a1 a2 r h goal hq => have h := Eq.trans (Eq.symm (zf7.eq_1 n a0 a1 a2)) h
    (z0f h (fun b8 eb8 h => (z01 (.cut [] [2,3,6,9,10,11] [100000,100100]) 7 [r0,r0] (zpN n a2 a1 (a1.length : Int) 0 a0 b8 eb8 goal (z01 (.ret [.bNorm 1 3] []) 2 [r0] (z0e (Φ := zgo goal) h hq) (by cases b8; kernel_rfl))) (by cases a0; kernel_rfl))))
theorem zj5 (n : Nat) (a0 : z00) (a1 : (List Str)) (a2 : Str) (r : z00) (h : zf7 n a0 a1 a2 = some r) : zrq a0 a1 a2 r := zuV a0 a1 a2 r (zv4 n a0 a1 a2 r h)
def zab (goal : GoT) (r : Unit) : Prop := goal (.map 0) [] [(.tmap (.int .i64) .str ((ast (fun y => 3 == y) 3 ([77,71,80,75] : Str) (ast (fun y => 2 == y) 2 ([67,66,79,82] : Str) (ast (fun y => 1 == y) 1 ([74,83,79,78] : Str) ([] : List (Int × Str))))) : (List (Int × Str))))]
def zh7 (r : Unit) : Prop := PE.Spec A 148 [] [] (.map 0) [] [(.tmap (.int .i64) .str ((ast (fun y => 3 == y) 3 ([77,71,80,75] : Str) (ast (fun y => 2 == y) 2 ([67,66,79,82] : Str) (ast (fun y => 1 == y) 1 ([74,83,79,78] : Str) ([] : List (Int × Str))))) : (List (Int × Str))))]
theorem znk (r : Unit) (H : ∀ goal : GoT,zab goal r → PtS A 148 0 [.code (sub B148 [])] ⟨[],[]⟩ goal) : zh7 r :=
  z0n z09 zAs (by kernel_rfl) (H _ ⟨rfl,rfl,rfl⟩)
theorem zn3 (n : Nat) : ∀ (r : Unit),z7X n = some r → ∀ (goal : GoT),zab goal r → PtS A 148 0 [.code (sub B148 [])] ⟨[],[]⟩ goal :=
  fun r h goal hq => have h := Eq.trans (Eq.symm (z7X.eq_1 n)) h
    (z01 (.ret [] [200000]) 4 [r0,r0] (z0e (Φ := zab goal) h hq) (by kernel_rfl))
theorem zbk (n : Nat) (r : Unit) (h : z7X n = some r) : zh7 r := znk  r (zn3 n  r h)
def z6p (goal : GoT) (r : (Sum Unit Str)) : Prop := (Sum.elim (fun x => PtS A 183 0 [.code .ret] ⟨[(2,(.bool false))],[]⟩ goal) (fun x => PtS A 183 0 [.code (sub B183 [1,1])] ⟨[(0,(.str x))],[]⟩ goal)) r
def z9W (n : Nat) : Prop := ∀ (p0 : Str) (p1 : Str) (p2 : Nat) (r : (Sum Unit Str)),z4A n p0 p1 p2 = some r → ∀ (goal : GoT),z6p goal r → PtS A 183 0 [.code (sub B183 [1,0,1,0,0]),.inLoop (sub B183 [1,0,1,0,0]),.inBlock 0,.code (sub B183 [1,1])] ⟨[(0,(.str p0)),(6,(.ptr 0 0))],[(0,(.siter p1 p2))]⟩ goal
theorem zeX (n : Nat) : z9W n := by
  induction n with
  | zero => exact (fun p0 p1 p2 r h => z1e (Eq.trans (Eq.symm (z4A.eq_1 p0 p1 p2)) h))
  | succ n ih => exact (fun p0 p1 p2 r h goal hq => have h := Eq.trans (Eq.symm (z4A.eq_2 _ _ _ _)) h
    (iteE h (fun b1 h => (z0j h (fun b2 h => (z01 (.cutRet [] [2] []) 13 [⟨[],[(0,.yes)],[],[],[]⟩,r0,⟨[],[],[(5,true)],[(3,true),(4,true),(5,false)],[2]⟩,r0] (And.intro b1 (And.intro b2 (z0e (Φ := z6p goal) h hq))) (by kernel_rfl))) (fun b2 h => (z01 (.cut [] [0,6] [0]) 14 [⟨[],[(0,.yes)],[],[],[]⟩,r0,⟨[],[],[(5,false)],[(3,true),(4,true),(5,false)],[2]⟩] (And.intro b1 (And.intro b2 (ih p0 p1 (p2 + (sdec p1 p2).2) r h goal hq))) (by kernel_rfl))))) (fun b1 h => (z01 (.cut [] [0] []) 5 [⟨[],[(0,.no)],[],[],[]⟩] (And.intro b1 (z0e (Φ := z6p goal) h hq)) (by kernel_rfl)))))
theorem zg8 (n : Nat) : z9W n := (zeX n)
def z5F (goal : GoT) (r : Bool) : Prop := goal (.bool r) [] []
def zdn (a0 : Str) (r : Bool) : Prop := PE.Spec A 183 [(.str a0)] [] (.bool r) [] []
theorem ziO (a0 : Str) (r : Bool) (H : ∀ goal : GoT,z5F goal r → PtS A 183 0 [.code (sub B183 [])] ⟨[(0,(.str a0))],[]⟩ goal) : zdn a0 r :=
  z0n z09 zA9 (by kernel_rfl) (H _ ⟨rfl,rfl,rfl⟩)
theorem ziV (n : Nat) : ∀ (a0 : Str) (r : Bool),z6N n a0 = some r → ∀ (goal : GoT),z5F goal r → PtS A 183 0 [.code (sub B183 [])] ⟨[(0,(.str a0))],[]⟩ goal :=
  fun a0 r h goal hq => have h := Eq.trans (Eq.symm (z6N.eq_1 n a0)) h
    (z0f h (fun b3 eb3 h => (z01 (.cut [] [0,6] [200100]) 7 [r0,r0] (zg8 n a0 a0 0 b3 eb3 goal (match b3,h with | .inl b4,h => (z01 (.ret [] []) 0 [] (z0e (Φ := z5F goal) h hq) (by kernel_rfl)) | .inr b5,h => (z01 (.ret [] []) 2 [r0] (z0e (Φ := z5F goal) h hq) (by kernel_rfl)))) (by kernel_rfl))))
theorem zjc (n : Nat) (a0 : Str) (r : Bool) (h : z6N n a0 = some r) : zdn a0 r := ziO a0 r (ziV n a0 r h)
def z7U (goal : GoT) (r : Bool) : Prop := goal (.bool r) [] []
def zgr (a0 : z0g) (r : Bool) : Prop := PE.Spec A 146 [(.agg [(.str a0.z0z),(.int .i64 a0.z2s),(.int .i64 a0.z2t),(.int .i64 a0.z3G),(.int .i64 a0.z5W)])] [] (.bool r) [] []
theorem znm (a0 : z0g) (r : Bool) (H : ∀ goal : GoT,z7U goal r → PtS A 146 0 [.code (sub B146 [])] ⟨[(0,(.agg [(.str a0.z0z),(.int .i64 a0.z2s),(.int .i64 a0.z2t),(.int .i64 a0.z3G),(.int .i64 a0.z5W)]))],[]⟩ goal) : zgr a0 r :=
  z0n z09 zA6 (by kernel_rfl) (H _ ⟨rfl,rfl,rfl⟩)
theorem znp (n : Nat) : ∀ (a0 : z0g) (r : Bool),z9A n a0 = some r → ∀ (goal : GoT),z7U goal r → PtS A 146 0 [.code (sub B146 [])] ⟨[(0,(.agg [(.str a0.z0z),(.int .i64 a0.z2s),(.int .i64 a0.z2t),(.int .i64 a0.z3G),(.int .i64 a0.z5W)]))],[]⟩ goal :=
  fun a0 r h goal hq => have h := Eq.trans (Eq.symm (z9A.eq_1 n a0)) h
    (z0f h (fun b2 b1 h => (z0j h (fun b3 h => (z0f h (fun b5 b4 h => (z01 (.ret [] []) 6 [r0,⟨[],[(0,.call [] [] (.map 0) [] [(.tmap (.int .i64) .str ((ast (fun y => 3 == y) 3 ([77,71,80,75] : Str) (ast (fun y => 2 == y) 2 ([67,66,79,82] : Str) (ast (fun y => 1 == y) 1 ([74,83,79,78] : Str) ([] : List (Int × Str))))) : (List (Int × Str))))])],[],[],[]⟩,⟨[],[(4,.call [] [some .str] (.bool b5) [] [])],[(1,true)],[(7,true),(8,true),(9,true),(10,false),(12,true),(13,true),(14,true),(15,false),(17,true),(18,true),(19,true),(20,false),(22,true),(23,true),(24,true),(25,false),(27,true),(28,true),(29,true),(30,false),(32,true),(33,true),(34,true),(35,false)],[6,11,16,21,26,31]⟩] (And.intro (zbk n  b2 b1) (And.intro b3 (And.intro (zjc n a0.z0z b5 b4) (z0e (Φ := z7U goal) h hq)))) (by kernel_rfl))))) (fun b3 h => (z01 (.ret [] []) 6 [r0,⟨[],[(0,.call [] [] (.map 0) [] [(.tmap (.int .i64) .str ((ast (fun y => 3 == y) 3 ([77,71,80,75] : Str) (ast (fun y => 2 == y) 2 ([67,66,79,82] : Str) (ast (fun y => 1 == y) 1 ([74,83,79,78] : Str) ([] : List (Int × Str))))) : (List (Int × Str))))])],[],[],[]⟩,⟨[],[],[(1,false)],[],[]⟩] (And.intro (zbk n  b2 b1) (And.intro b3 (z0e (Φ := z7U goal) h hq))) (by kernel_rfl))))))
theorem zfP (n : Nat) (a0 : z0g) (r : Bool) (h : z9A n a0 = some r) : zgr a0 r := znm a0 r (znp n a0 r h)
def z3f (goal : GoT) (r : Str) : Prop := goal (.str r) [] []
def z8V (a0 : Int) (r : Str) : Prop := PE.Spec A 253 [(.int .i64 a0)] [] (.str r) [] []
theorem zdB (a0 : Int) (r : Str) (H : ∀ goal : GoT,z3f goal r → PtS A 253 0 [.code (sub B253 [])] ⟨[(0,(.int .i64 a0))],[]⟩ goal) : z8V a0 r :=
  z0n z09 zAu (by kernel_rfl) (H _ ⟨rfl,rfl,rfl⟩)
theorem zdv (n : Nat) : ∀ (a0 : Int) (r : Str),internal_strconv_small n a0 = some r → ∀ (goal : GoT),z3f goal r → PtS A 253 0 [.code (sub B253 [])] ⟨[(0,(.int .i64 a0))],[]⟩ goal :=
  fun a0 r h goal hq => have h := Eq.trans (Eq.symm (internal_strconv_small.eq_1 n a0)) h
    (z0j h (fun b1 h => (z0d h (fun b2 h => (z01 (.ret [] []) 8 [r0,⟨[],[],[(1,true)],[],[]⟩,r0] (And.intro b1 (And.intro b2 (z0e (Φ := z3f goal) h hq))) (by kernel_rfl))))) (fun b1 h => (z0d h (fun b3 h => (z01 (.ret [] []) 9 [r0,⟨[],[],[(1,false)],[],[]⟩,r0] (And.intro b1 (And.intro b3 (z0e (Φ := z3f goal) h hq))) (by kernel_rfl))))))
theorem zdp (n : Nat) (a0 : Int) (r : Str) (h : internal_strconv_small n a0 = some r) : z8V a0 r := zdB a0 r (zdv n a0 r h)
def z1o (goal : GoT) (r : Str) : Prop := goal (.str r) [] []
theorem z5B (n : Nat) : ∀ (p0 : Int) (p1 : Int) (r : Str),z2p n p0 p1 = some r → ∀ (goal : GoT),z1o goal r → PtS A 209 0 [.code (sub B209 [1,0,1,0,1,1,1,1]),.code (sub B209 [1,1])] ⟨[(0,(.int .i64 p0)),(5,(.ptr 0 0)),(6,(.int .u64 p1))],[(0,(.arr (.int .u8) ((List.replicate 24 (0 : Int)) : List Int)))]⟩ goal :=
  fun p0 p1 r h goal hq => have h := Eq.trans (Eq.symm (z2p.eq_1 n p0 p1)) h
    (z1e h)
def z2M (goal : GoT) (r : Bool) : Prop := goal (.bool r) [] []
def z5P (a0 : Int) (r : Bool) : Prop := PE.Spec A 276 [(.int .i64 a0)] [] (.bool r) [] []
theorem z9U (a0 : Int) (r : Bool) (H : ∀ goal : GoT,z2M goal r → PtS A 276 0 [.code (sub B276 [])] ⟨[(0,(.int .i64 a0))],[]⟩ goal) : z5P a0 r :=
  z0n z09 zzV (by kernel_rfl) (H _ ⟨rfl,rfl,rfl⟩)
theorem z9S (n : Nat) : ∀ (a0 : Int) (r : Bool),z1v n a0 = some r → ∀ (goal : GoT),z2M goal r → PtS A 276 0 [.code (sub B276 [])] ⟨[(0,(.int .i64 a0))],[]⟩ goal :=
  fun a0 r h goal hq => have h := Eq.trans (Eq.symm (z1v.eq_1 n a0)) h
    (z01 (.ret [] []) 4 [r0,r0] (z0e (Φ := z2M goal) h hq) (by kernel_rfl))
theorem z5w (n : Nat) (a0 : Int) (r : Bool) (h : z1v n a0 = some r) : z5P a0 r := z9U a0 r (z9S n a0 r h)
def z4J (goal : GoT) (r : ((List Int) × Int × Bool × Bool × Int × (List Int))) : Prop := PtS A 256 0 [.code (sub B256 [1,1,1,1,1,0,1,0,1,1,1,1]),.code (sub B256 [1,1,1,1,1,1])] ⟨[(0,(.lst (.int .u8) r.1 0)),(1,(.int .u64 r.2.1)),(3,(.bool r.2.2.1)),(4,(.bool r.2.2.2.1)),(10,.nil),(11,(.str [])),(12,(.ptr 0 0)),(13,(.int .i64 r.2.2.2.2.1))],[(0,(.arr (.int .u8) r.2.2.2.2.2))]⟩ goal
def z4S (n : Nat) : Prop := ∀ (p0 : (List Int)) (p1 : Int) (p2 : Bool) (p3 : Bool) (p4 : Int) (p5 : Int) (p6 : Int) (p7 : Int) (p8 : (List Int)) (r : ((List Int) × Int × Bool × Bool × Int × (List Int))),z0E n p0 p1 p2 p3 p4 p5 p6 p7 p8 = some r → ∀ (goal : GoT),z4J goal r → PtS A 256 0 [.code (sub B256 [1,1,1,1,1,0,1,0,1,1,1,0,0,0]),.inLoop (sub B256 [1,1,1,1,1,0,1,0,1,1,1,0,0,0]),.inBlock 0,.code (sub B256 [1,1,1,1,1,0,1,0,1,1,1,1]),.code (sub B256 [1,1,1,1,1,1])] ⟨[(0,(.lst (.int .u8) p0 0)),(1,(.int .u64 p1)),(3,(.bool p2)),(4,(.bool p3)),(10,.nil),(11,(.str [])),(12,(.ptr 0 0)),(13,(.int .i64 p4)),(14,(.int .u64 p5)),(15,(.int .u64 p6)),(16,(.int .u64 p7))],[(0,(.arr (.int .u8) p8))]⟩ goal
theorem z9d (n : Nat) : z4S n := by
  induction n with
  | zero => exact (fun p0 p1 p2 p3 p4 p5 p6 p7 p8 r h => z1e (Eq.trans (Eq.symm (z0E.eq_1 p0 p1 p2 p3 p4 p5 p6 p7 p8)) h))
  | succ n ih => exact (fun p0 p1 p2 p3 p4 p5 p6 p7 p8 r h goal hq => have h := Eq.trans (Eq.symm (z0E.eq_2 _ _ _ _ _ _ _ _ _ _)) h
    (z0j h (fun b8 h => (z0d h (fun b9 h => (z0d h (fun b10 h => (z0d h (fun b11 h => (z0d h (fun b12 h => (z0d h (fun b13 h => (z01 (.cut [] [0,1,3,4,10,11,12,13,14,15,16] [0]) 13 [⟨[],[],[(2,true)],[],[]⟩,r0,r0,r0] (And.intro b8 (And.intro b9 (And.intro b10 (And.intro b11 (And.intro b12 (And.intro b13 (ih p0 (shr .u64 p1 p5) p2 p3 (z0a (p4 - 1)) p5 p6 p7 (p8.set (z0a (p4 - 1)).toNat (bt ([48,49,50,51,52,53,54,55,56,57,97,98,99,100,101,102,103,104,105,106,107,108,109,110,111,112,113,114,115,116,117,118,119,120,121,122] : Str) (iand .u64 p1 p7))) r h goal hq))))))) (by kernel_rfl))))))))))))) (fun b8 h => (z01 (.cut [] [0,1,3,4,10,11,12,13] [0]) 5 [⟨[],[],[(2,false)],[],[]⟩] (And.intro b8 (z0e (Φ := z4J goal) h hq)) (by kernel_rfl)))))
theorem z9G (n : Nat) : z4S n := (z9d n)
def z0W (goal : GoT) (r : ((List Int) × Str)) : Prop := goal (.tuple [(.lst (.int .u8) r.1 0),(.str r.2)]) [] []
theorem z5d (n : Nat) : ∀ (p0 : (List Int)) (p1 : Bool) (p2 : Bool) (p3 : Int) (p4 : (List Int)) (r : ((List Int) × Str)),z1q n p0 p1 p2 p3 p4 = some r → ∀ (goal : GoT),z0W goal r → PtS A 256 0 [.code (sub B256 [1,1,1,1,1,1])] ⟨[(0,(.lst (.int .u8) p0 0)),(3,(.bool p1)),(4,(.bool p2)),(10,.nil),(11,(.str [])),(12,(.ptr 0 0)),(13,(.int .i64 p3))],[(0,(.arr (.int .u8) p4))]⟩ goal :=
  fun p0 p1 p2 p3 p4 r h goal hq => have h := Eq.trans (Eq.symm (z1q.eq_1 n p0 p1 p2 p3 p4)) h
    (z0j h (fun b32 h => (z0d h (fun b33 h => (z0d h (fun b34 h => (z0d h (fun b35 h => (z0j h (fun b36 h => (z1e h)) (fun b36 h => (z0d h (fun b39 h => (z0d h (fun b40 h => (z01 (.ret [.norm 10 (.list (.int .u8))] []) 14 [⟨[],[],[(0,true)],[],[]⟩,r0,r0,⟨[],[],[(0,false)],[],[]⟩,r0] (And.intro b32 (And.intro b33 (And.intro b34 (And.intro b35 (And.intro b36 (And.intro b39 (And.intro b40 (z0e (Φ := z0W goal) h hq)))))))) (by kernel_rfl))))))))))))))) (fun b32 h => (z0j h (fun b41 h => (z1e h)) (fun b41 h => (z0d h (fun b44 h => (z0d h (fun b45 h => (z01 (.ret [.norm 10 (.list (.int .u8))] []) 12 [⟨[],[],[(0,false)],[],[]⟩,⟨[],[],[(0,false)],[],[]⟩,r0] (And.intro b32 (And.intro b41 (And.intro b44 (And.intro b45 (z0e (Φ := z0W goal) h hq))))) (by kernel_rfl))))))))))
def z4K (goal : GoT) (r : ((List Int) × Int × Bool × Bool × Int × (List Int))) : Prop := PtS A 256 0 [.code (sub B256 [1,1,1,1,1,0,1,1,1,1]),.code (sub B256 [1,1,1,1,1,1])] ⟨[(0,(.lst (.int .u8) r.1 0)),(1,(.int .u64 r.2.1)),(3,(.bool r.2.2.1)),(4,(.bool r.2.2.2.1)),(10,.nil),(11,(.str [])),(12,(.ptr 0 0)),(13,(.int .i64 r.2.2.2.2.1))],[(0,(.arr (.int .u8) r.2.2.2.2.2))]⟩ goal
def z4M (n : Nat) : Prop := ∀ (p0 : (List Int)) (p1 : Int) (p2 : Bool) (p3 : Bool) (p4 : Int) (p5 : Int) (p6 : (List Int)) (r : ((List Int) × Int × Bool × Bool × Int × (List Int))),z1r n p0 p1 p2 p3 p4 p5 p6 = some r → ∀ (goal : GoT),z4K goal r → PtS A 256 0 [.code (sub B256 [1,1,1,1,1,0,1,1,1,0,0,0]),.inLoop (sub B256 [1,1,1,1,1,0,1,1,1,0,0,0]),.inBlock 2,.code (sub B256 [1,1,1,1,1,0,1,1,1,1]),.code (sub B256 [1,1,1,1,1,1])] ⟨[(0,(.lst (.int .u8) p0 0)),(1,(.int .u64 p1)),(3,(.bool p2)),(4,(.bool p3)),(10,.nil),(11,(.str [])),(12,(.ptr 0 0)),(13,(.int .i64 p4)),(17,(.int .u64 p5))],[(0,(.arr (.int .u8) p6))]⟩ goal
theorem z9e (n : Nat) : z4M n := by
  induction n with
  | zero => exact (fun p0 p1 p2 p3 p4 p5 p6 r h => z1e (Eq.trans (Eq.symm (z1r.eq_1 p0 p1 p2 p3 p4 p5 p6)) h))
  | succ n ih => exact (fun p0 p1 p2 p3 p4 p5 p6 r h goal hq => have h := Eq.trans (Eq.symm (z1r.eq_2 _ _ _ _ _ _ _ _)) h
    (z0j h (fun b20 h => (z0d h (fun b21 h => (z0d h (fun b22 h => (z0d h (fun b23 h => (z0d h (fun b24 h => (z0d h (fun b25 h => (z01 (.cut [] [0,1,3,4,10,11,12,13,17] [0]) 15 [⟨[],[],[(2,true)],[],[]⟩,r0,r0,r0,r0] (And.intro b20 (And.intro b21 (And.intro b22 (And.intro b23 (And.intro b24 (And.intro b25 (ih p0 (z1b (Int.tdiv p1 p5)) p2 p3 (z0a (p4 - 1)) p5 (p6.set (z0a (p4 - 1)).toNat (bt ([48,49,50,51,52,53,54,55,56,57,97,98,99,100,101,102,103,104,105,106,107,108,109,110,111,112,113,114,115,116,117,118,119,120,121,122] : Str) (z1b (p1 - (z1b ((z1b (Int.tdiv p1 p5)) * p5)))))) r h goal hq))))))) (by kernel_rfl))))))))))))) (fun b20 h => (z01 (.cut [] [0,1,3,4,10,11,12,13] [0]) 5 [⟨[],[],[(2,false)],[],[]⟩] (And.intro b20 (z0e (Φ := z4K goal) h hq)) (by kernel_rfl)))))
theorem z9u (n : Nat) : z4M n := (z9e n)
theorem z4Z (n : Nat) : ∀ (p0 : (List Int)) (p1 : Int) (p2 : Int) (p3 : Bool) (p4 : Bool) (r : ((List Int) × Str)),z1t n p0 p1 p2 p3 p4 = some r → ∀ (goal : GoT),z0W goal r → PtS A 256 0 [.code (sub B256 [1,1,1,1,1])] ⟨[(0,(.lst (.int .u8) p0 0)),(1,(.int .u64 p1)),(2,(.int .i64 p2)),(3,(.bool p3)),(4,(.bool p4)),(10,.nil),(11,(.str [])),(12,(.ptr 0 0)),(13,(.int .i64 65))],[(0,(.arr (.int .u8) ((List.replicate 65 (0 : Int)) : List Int)))]⟩ goal :=
  fun p0 p1 p2 p3 p4 r h goal hq => have h := Eq.trans (Eq.symm (z1t.eq_1 n p0 p1 p2 p3 p4)) h
    (z0f h (fun b4 b3 h => (z0j h (fun b5 h => (z0f h (fun b7 b6 h => (z0f h (fun b15 eb15 h => (z01 (.cut [] [0,1,3,4,10,11,12,13,14,15,16] [0]) 13 [⟨[],[(1,.call [] [some (.int .i64)] (.bool b4) [] [])],[(1,true)],[],[]⟩,⟨[],[(2,.call [] [some (.int .u64)] (.int .i64 b7) [] [])],[],[],[]⟩,r0,r0] (And.intro (z5w n p2 b4 b3) (And.intro b5 (And.intro (zcU (z1b p2) b7 b6) (z9G n p0 p1 p3 p4 65 (z1b b7) (z1b p2) (z1b ((z1b p2) - 1)) (List.replicate 65 (0 : Int)) b15 eb15 goal (z0d h (fun b16 h => (z0d h (fun b17 h => (z0d h (fun b18 h => (z0d h (fun b19 h => (z01 (.cut [] [0,3,4,10,11,12,13] [0]) 3 [r0,r0] (And.intro b16 (And.intro b17 (And.intro b18 (And.intro b19 (z5d n b15.1 b15.2.2.1 b15.2.2.2.1 (z0a (b15.2.2.2.2.1 - 1)) (b15.2.2.2.2.2.set (z0a (b15.2.2.2.2.1 - 1)).toNat (bt ([48,49,50,51,52,53,54,55,56,57,97,98,99,100,101,102,103,104,105,106,107,108,109,110,111,112,113,114,115,116,117,118,119,120,121,122] : Str) b15.2.1)) r h goal hq))))) (by kernel_rfl)))))))))))))) (by kernel_rfl))))))) (fun b5 h => (z0f h (fun b27 eb27 h => (z01 (.cut [] [0,1,3,4,10,11,12,13,17] [0]) 9 [⟨[],[(1,.call [] [some (.int .i64)] (.bool b4) [] [])],[(1,false)],[],[]⟩,r0] (And.intro (z5w n p2 b4 b3) (And.intro b5 (z9u n p0 p1 p3 p4 65 (z1b p2) (List.replicate 65 (0 : Int)) b27 eb27 goal (z0d h (fun b28 h => (z0d h (fun b29 h => (z0d h (fun b30 h => (z0d h (fun b31 h => (z01 (.cut [] [0,3,4,10,11,12,13] [0]) 3 [r0,r0] (And.intro b28 (And.intro b29 (And.intro b30 (And.intro b31 (z5d n b27.1 b27.2.2.1 b27.2.2.2.1 (z0a (b27.2.2.2.2.1 - 1)) (b27.2.2.2.2.2.set (z0a (b27.2.2.2.2.1 - 1)).toNat (bt ([48,49,50,51,52,53,54,55,56,57,97,98,99,100,101,102,103,104,105,106,107,108,109,110,111,112,113,114,115,116,117,118,119,120,121,122] : Str) b27.2.1)) r h goal hq))))) (by kernel_rfl))))))))))))) (by kernel_rfl))))))))
def z6V (a0 : (List Int)) (a1 : Int) (a2 : Int) (a3 : Bool) (a4 : Bool) (r : ((List Int) × Str)) : Prop := PE.Spec A 256 [(.lst (.int .u8) a0 0),(.int .u64 a1),(.int .i64 a2),(.bool a3),(.bool a4)] [] (.tuple [(.lst (.int .u8) r.1 0),(.str r.2)]) [] []
theorem zaN (a0 : (List Int)) (a1 : Int) (a2 : Int) (a3 : Bool) (a4 : Bool) (r : ((List Int) × Str)) (H : ∀ goal : GoT,z0W goal r → PtS A 256 0 [.code (sub B256 [])] ⟨[(0,(.lst (.int .u8) a0 0)),(1,(.int .u64 a1)),(2,(.int .i64 a2)),(3,(.bool a3)),(4,(.bool a4))],[]⟩ goal) : z6V a0 a1 a2 a3 a4 r :=
  z0n z09 zAB (by kernel_rfl) (H _ ⟨rfl,rfl,rfl⟩)
theorem zaX (n : Nat) : ∀ (a0 : (List Int)) (a1 : Int) (a2 : Int) (a3 : Bool) (a4 : Bool) (r : ((List Int) × Str)),z1O n a0 a1 a2 a3 a4 = some r → ∀ (goal : GoT),z0W goal r → PtS A 256 0 [.code (sub B256 [])] ⟨[(0,(.lst (.int .u8) a0 0)),(1,(.int .u64 a1)),(2,(.int .i64 a2)),(3,(.bool a3)),(4,(.bool a4))],[]⟩ goal :=
  fun a0 a1 a2 a3 a4 r h goal hq => have h := Eq.trans (Eq.symm (z1O.eq_1 n a0 a1 a2 a3 a4)) h
    (z0j h (fun b1 h => (z1e h)) (fun b1 h => (z0j h (fun b2 h => (z01 (.cut [] [0,1,2,3,4,10,11,12,13] [400000]) 16 [r0,⟨[],[],[(9,false)],[(3,true),(4,true),(5,false),(7,true),(8,true),(9,false)],[2,6]⟩,r0,r0,⟨[],[],[(0,true)],[],[]⟩,r0] (And.intro b1 (And.intro b2 (z4Z n a0 (z1b (0 - a1)) a2 a3 a4 r h goal hq))) (by kernel_rfl))) (fun b2 h => (z01 (.cut [] [0,1,2,3,4,10,11,12,13] [400000]) 16 [r0,⟨[],[],[(9,false)],[(3,true),(4,true),(5,false),(7,true),(8,true),(9,false)],[2,6]⟩,r0,r0,⟨[],[],[(0,false)],[],[]⟩] (And.intro b1 (And.intro b2 (z4Z n a0 a1 a2 a3 a4 r h goal hq))) (by kernel_rfl))))))
theorem zaV (n : Nat) (a0 : (List Int)) (a1 : Int) (a2 : Int) (a3 : Bool) (a4 : Bool) (r : ((List Int) × Str)) (h : z1O n a0 a1 a2 a3 a4 = some r) : z6V a0 a1 a2 a3 a4 r := zaN a0 a1 a2 a3 a4 r (zaX n a0 a1 a2 a3 a4 r h)
def z7l (a0 : Int) (a1 : Int) (r : Str) : Prop := PE.Spec A 209 [(.int .i64 a0),(.int .i64 a1)] [] (.str r) [] []
theorem zb5 (a0 : Int) (a1 : Int) (r : Str) (H : ∀ goal : GoT,z1o goal r → PtS A 209 0 [.code (sub B209 [])] ⟨[(0,(.int .i64 a0)),(1,(.int .i64 a1))],[]⟩ goal) : z7l a0 a1 r :=
  z0n z09 zzm (by kernel_rfl) (H _ ⟨rfl,rfl,rfl⟩)
theorem zb2 (n : Nat) : ∀ (a0 : Int) (a1 : Int) (r : Str),z1Z n a0 a1 = some r → ∀ (goal : GoT),z1o goal r → PtS A 209 0 [.code (sub B209 [])] ⟨[(0,(.int .i64 a0)),(1,(.int .i64 a1))],[]⟩ goal :=
  fun a0 a1 r h goal hq => have h := Eq.trans (Eq.symm (z1Z.eq_1 n a0 a1)) h
    (z0j h (fun b1 h => (z0j h (fun b2 h => (z0f h (fun b4 b3 h => (z01 (.ret [] []) 12 [r0,⟨[],[],[(1,true)],[],[]⟩,⟨[],[],[(5,true)],[(3,true),(4,true),(5,false)],[2]⟩,⟨[],[(1,.call [] [some (.int .i64)] (.str b4) [] [])],[],[],[]⟩] (And.intro b1 (And.intro b2 (And.intro (zdp n a0 b4 b3) (z0e (Φ := z1o goal) h hq)))) (by kernel_rfl))))) (fun b2 h => (z0j h (fun b5 h => (z01 (.cut [] [0,5,6] [500000]) 20 [r0,⟨[],[],[(1,true)],[],[]⟩,⟨[],[],[(5,false)],[(3,true),(4,true),(5,false)],[2]⟩,r0,r0,⟨[],[],[(1,true)],[],[]⟩,r0] (And.intro b1 (And.intro b2 (And.intro b5 (z5B n a0 (z1b (0 - (z1b a0))) r h goal hq)))) (by kernel_rfl))) (fun b5 h => (z01 (.cut [] [0,5,6] [500000]) 20 [r0,⟨[],[],[(1,true)],[],[]⟩,⟨[],[],[(5,false)],[(3,true),(4,true),(5,false)],[2]⟩,r0,r0,⟨[],[],[(1,false)],[],[]⟩] (And.intro b1 (And.intro b2 (And.intro b5 (z5B n a0 (z1b a0) r h goal hq)))) (by kernel_rfl))))))) (fun b1 h => (z0f h (fun b7 b6 h => (z01 (.ret [] []) 11 [r0,⟨[],[],[(1,false)],[],[]⟩,⟨[],[(5,.call [] [some (.list (.int .u8)),some (.int .u64),some (.int .i64),some .bool,some .bool] (.tuple [(.lst (.int .u8) b7.1 0),(.str b7.2)]) [] [])],[],[],[]⟩,r0] (And.intro b1 (And.intro (zaV n [] (z1b a0) a1 (decide (a0 < 0)) false b7 b6) (z0e (Φ := z1o goal) h hq))) (by kernel_rfl))))))
theorem zbf (n : Nat) (a0 : Int) (a1 : Int) (r : Str) (h : z1Z n a0 a1 = some r) : z7l a0 a1 r := zb5 a0 a1 r (zb2 n a0 a1 r h)
def z7R (goal : GoT) (r : Str) : Prop := goal (.str r) [] []
def zcf (a0 : Int) (a1 : Int) (r : Str) : Prop := PE.Spec A 184 [(.int .i64 a0),(.int .i64 a1)] [] (.str r) [] []
theorem zhA (a0 : Int) (a1 : Int) (r : Str) (H : ∀ goal : GoT,z7R goal r → PtS A 184 0 [.code (sub B184 [])] ⟨[(0,(.int .i64 a0)),(1,(.int .i64 a1))],[]⟩ goal) : zcf a0 a1 r :=
  z0n z09 zAp (by kernel_rfl) (H _ ⟨rfl,rfl,rfl⟩)
theorem zhN (n : Nat) : ∀ (a0 : Int) (a1 : Int) (r : Str),z4r n a0 a1 = some r → ∀ (goal : GoT),z7R goal r → PtS A 184 0 [.code (sub B184 [])] ⟨[(0,(.int .i64 a0)),(1,(.int .i64 a1))],[]⟩ goal :=
  fun a0 a1 r h goal hq => have h := Eq.trans (Eq.symm (z4r.eq_1 n a0 a1)) h
    (z0f h (fun b2 b1 h => (z01 (.ret [] []) 4 [r0,⟨[],[(2,.call [] [some (.int .i64),some (.int .i64)] (.str b2) [] [])],[],[],[]⟩] (And.intro (zbf n a0 a1 b2 b1) (z0e (Φ := z7R goal) h hq)) (by kernel_rfl))))
theorem zhB (n : Nat) (a0 : Int) (a1 : Int) (r : Str) (h : z4r n a0 a1 = some r) : zcf a0 a1 r := zhA a0 a1 r (zhN n a0 a1 r h)
def zcK (goal : GoT) (r : Str) : Prop := goal (.str r) [] []
def zjr (a0 : Int) (a1 : Int) (r : Str) : Prop := PE.Spec A 147 [(.int .i64 a0),(.int .i64 a1)] [] (.str r) [] []
theorem zqB (a0 : Int) (a1 : Int) (r : Str) (H : ∀ goal : GoT,zcK goal r → PtS A 147 0 [.code (sub B147 [])] ⟨[(0,(.int .i64 a0)),(1,(.int .i64 a1))],[]⟩ goal) : zjr a0 a1 r :=
  z0n z09 zAe (by kernel_rfl) (H _ ⟨rfl,rfl,rfl⟩)
theorem zpQ (n : Nat) : ∀ (a0 : Int) (a1 : Int) (r : Str),z5q n a0 a1 = some r → ∀ (goal : GoT),zcK goal r → PtS A 147 0 [.code (sub B147 [])] ⟨[(0,(.int .i64 a0)),(1,(.int .i64 a1))],[]⟩ goal :=
  fun a0 a1 r h goal hq => have h := Eq.trans (Eq.symm (z5q.eq_1 n a0 a1)) h
    (z0f h (fun b2 b1 h => (z0f h (fun b4 b3 h => (z0d h (fun b5 h => (z01 (.ret [] []) 6 [r0,⟨[],[(1,.call [] [some (.int .i64),some (.int .i64)] (.str b2) [] [])],[],[],[]⟩,⟨[],[(4,.call [] [some .str,some (.int .i64)] (.str b4) [] [])],[],[],[]⟩] (And.intro (zhB n a0 16 b2 b1) (And.intro (z2x ([48] : Str) (z0a (a1 - (b2.length : Int))) b4 b3) (And.intro b5 (z0e (Φ := zcK goal) h hq)))) (by kernel_rfl))))))))
theorem zdr (n : Nat) (a0 : Int) (a1 : Int) (r : Str) (h : z5q n a0 a1 = some r) : zjr a0 a1 r := zqB a0 a1 r (zpQ n a0 a1 r h)
def z8z (goal : GoT) (r : (Str × Int)) : Prop := goal (.tuple [(.str r.1),(.int .i64 r.2)]) [] []
def zhX (a0 : z0g) (r : (Str × Int)) : Prop := PE.Spec A 111 [(.agg [(.str a0.z0z),(.int .i64 a0.z2s),(.int .i64 a0.z2t),(.int .i64 a0.z3G),(.int .i64 a0.z5W)])] [] (.tuple [(.str r.1),(.int .i64 r.2)]) [] []
theorem zoJ (a0 : z0g) (r : (Str × Int)) (H : ∀ goal : GoT,z8z goal r → PtS A 111 0 [.code (sub B111 [])] ⟨[(0,(.agg [(.str a0.z0z),(.int .i64 a0.z2s),(.int .i64 a0.z2t),(.int .i64 a0.z3G),(.int .i64 a0.z5W)]))],[]⟩ goal) : zhX a0 r :=
  z0n z09 zAl (by kernel_rfl) (H _ ⟨rfl,rfl,rfl⟩)
theorem znM (n : Nat) : ∀ (a0 : z0g) (r : (Str × Int)),z7L n a0 = some r → ∀ (goal : GoT),z8z goal r → PtS A 111 0 [.code (sub B111 [])] ⟨[(0,(.agg [(.str a0.z0z),(.int .i64 a0.z2s),(.int .i64 a0.z2t),(.int .i64 a0.z3G),(.int .i64 a0.z5W)]))],[]⟩ goal :=
  fun a0 r h goal hq => have h := Eq.trans (Eq.symm (z7L.eq_1 n a0)) h
    (z0f h (fun b2 b1 h => (z0j h (fun b3 h => (z01 (.ret [] []) 8 [r0,⟨[],[(1,.call [] [some (.user 5)] (.bool b2) [] [])],[(2,true)],[],[]⟩,r0] (And.intro (zfP n a0 b2 b1) (And.intro b3 (z0e (Φ := z8z goal) h hq))) (by kernel_rfl))) (fun b3 h => (z0f h (fun b5 b4 h => (z0d h (fun b6 h => (z0f h (fun b8 b7 h => (z0d h (fun b9 h => (z0f h (fun b11 b10 h => (z0d h (fun b12 h => (z0f h (fun b14 b13 h => (z0d h (fun b15 h => (z0d h (fun b16 h => (z01 (.ret [] []) 9 [r0,⟨[],[(1,.call [] [some (.user 5)] (.bool b2) [] [])],[(2,false)],[],[]⟩,⟨[],[(4,.call [] [some (.int .i64),some (.int .i64)] (.str b5) [] []),(8,.call [] [some (.int .i64),some (.int .i64)] (.str b8) [] []),(10,.call [] [] (.map 0) [] [(.tmap (.int .i64) .str ((ast (fun y => 3 == y) 3 ([77,71,80,75] : Str) (ast (fun y => 2 == y) 2 ([67,66,79,82] : Str) (ast (fun y => 1 == y) 1 ([74,83,79,78] : Str) ([] : List (Int × Str))))) : (List (Int × Str))))]),(17,.call [] [some (.int .i64),some (.int .i64)] (.str b14) [] [])],[],[],[]⟩] (And.intro (zfP n a0 b2 b1) (And.intro b3 (And.intro (zdr n a0.z2s 1 b5 b4) (And.intro b6 (And.intro (zdr n a0.z2t 1 b8 b7) (And.intro b9 (And.intro (zbk n  b11 b10) (And.intro b12 (And.intro (zdr n a0.z5W 6 b14 b13) (And.intro b15 (And.intro b16 (z0e (Φ := z8z goal) h hq)))))))))))) (by kernel_rfl))))))))))))))))))))))))
theorem z5H (n : Nat) (a0 : z0g) (r : (Str × Int)) (h : z7L n a0 = some r) : zhX a0 r := zoJ a0 r (znM n a0 r h)
def zcw (goal : GoT) (r : Bool) : Prop := goal (.bool r) [] []
def zjZ (a0 : z00) (r : Bool) : Prop := PE.Spec A 89 [(.agg [(.int .i64 a0.z08),(.bool a0.z0c),(.int .i64 a0.z06),(.str a0.z0b),(.lst .str a0.z07 0),(.lst (.user 3) a0.z05 0)])] [] (.bool r) [] []
theorem zqD (a0 : z00) (r : Bool) (H : ∀ goal : GoT,zcw goal r → PtS A 89 0 [.code (sub B89 [])] ⟨[(0,(.agg [(.int .i64 a0.z08),(.bool a0.z0c),(.int .i64 a0.z06),(.str a0.z0b),(.lst .str a0.z07 0),(.lst (.user 3) a0.z05 0)]))],[]⟩ goal) : zjZ a0 r :=
  z0n z09 zBi (by kernel_rfl) (H _ ⟨rfl,rfl,rfl⟩)
theorem zqx (n : Nat) : ∀ (a0 : z00) (r : Bool),za8 n a0 = some r → ∀ (goal : GoT),zcw goal r → PtS A 89 0 [.code (sub B89 [])] ⟨[(0,(.agg [(.int .i64 a0.z08),(.bool a0.z0c),(.int .i64 a0.z06),(.str a0.z0b),(.lst .str a0.z07 0),(.lst (.user 3) a0.z05 0)]))],[]⟩ goal :=
  fun a0 r h goal hq => have h := Eq.trans (Eq.symm (za8.eq_1 n a0)) h
    (z01 (.ret [] []) 4 [r0,⟨[],[],[],[(4,true),(5,true),(6,true),(7,false),(9,true),(10,true),(11,true),(12,true),(13,true),(14,true),(15,true),(16,true),(17,false),(19,true),(20,true),(21,true),(22,true),(23,true),(24,true),(25,true),(26,true),(27,false),(29,true),(30,true),(31,true),(32,true),(33,true),(34,true),(35,true),(36,true),(37,true),(38,true),(39,true),(40,true),(41,true),(42,true),(43,false),(45,true),(46,true),(47,true),(48,true),(49,true),(50,true),(51,true),(52,true),(53,true),(54,false)],[3,8,12,18,22,28,32,37,44,48]⟩] (z0e (Φ := zcw goal) h hq) (by kernel_rfl))
theorem z8n (n : Nat) (a0 : z00) (r : Bool) (h : za8 n a0 = some r) : zjZ a0 r := zqD a0 r (zqx n a0 r h)
def z3R (goal : GoT) (r : Int) : Prop := goal (.int .u64 r) [] []
def z7Q (a0 : Str) (r : Int) : Prop := PE.Spec A 176 [(.str a0)] [] (.int .u64 r) [] []
theorem zbK (a0 : Str) (r : Int) (H : ∀ goal : GoT,z3R goal r → PtS A 176 0 [.code (sub B176 [])] ⟨[(0,(.str a0))],[]⟩ goal) : z7Q a0 r :=
  z0n z09 zzo (by kernel_rfl) (H _ ⟨rfl,rfl,rfl⟩)
theorem zbE (n : Nat) : ∀ (a0 : Str) (r : Int),z0B n a0 = some r → ∀ (goal : GoT),z3R goal r → PtS A 176 0 [.code (sub B176 [])] ⟨[(0,(.str a0))],[]⟩ goal :=
  fun a0 r h goal hq => have h := Eq.trans (Eq.symm (z0B.eq_1 n a0)) h
    (z0d h (fun b1 h => (z0d h (fun b2 h => (z0d h (fun b3 h => (z0d h (fun b4 h => (z0d h (fun b5 h => (z0d h (fun b6 h => (z0d h (fun b7 h => (z0d h (fun b8 h => (z01 (.ret [] []) 7 [r0,r0] (And.intro b1 (And.intro b2 (And.intro (by decide : nn 8) (And.intro b3 (And.intro (by decide : nn 16) (And.intro b4 (And.intro (by decide : nn 24) (And.intro b5 (And.intro (by decide : nn 32) (And.intro b6 (And.intro (by decide : nn 40) (And.intro b7 (And.intro (by decide : nn 48) (And.intro b8 (And.intro (by decide : nn 56) (z0e (Φ := z3R goal) h hq)))))))))))))))) (by kernel_rfl))))))))))))))))))
theorem z0o (n : Nat) (a0 : Str) (r : Int) (h : z0B n a0 = some r) : z7Q a0 r := zbK a0 r (zbE n a0 r h)
def z3j (goal : GoT) (r : (Str × Str × Int × Int × Bool × Str × Int × Str × Str × Int × Int × Int × Bool)) : Prop := PtS A 129 0 [.code (sub B129 [1,0,0,0,1,0,1,0,1,0,1,1]),.code (sub B129 [1,0,0,0,1,0,1,1]),.inBlock 1,.inLoop (sub B129 [1,0,0,0]),.inBlock 0,.code (sub B129 [1,1])] ⟨[(0,(.str r.1)),(20,(.str r.2.1)),(21,(.int .u64 r.2.2.1)),(22,(.int .u64 r.2.2.2.1)),(23,(.bool r.2.2.2.2.1)),(31,(.str r.2.2.2.2.2.1)),(32,(.int .u64 r.2.2.2.2.2.2.1)),(33,(.str r.2.2.2.2.2.2.2.1)),(34,(.str r.2.2.2.2.2.2.2.2.1)),(35,(.int .u64 r.2.2.2.2.2.2.2.2.2.1)),(36,(.int .u64 r.2.2.2.2.2.2.2.2.2.2.1)),(37,(.int .u64 r.2.2.2.2.2.2.2.2.2.2.2.1)),(38,(.bool r.2.2.2.2.2.2.2.2.2.2.2.2))],[]⟩ goal
def z6i (n : Nat) : Prop := ∀ (p0 : Str) (p1 : Str) (p2 : Int) (p3 : Int) (p4 : Bool) (p5 : Str) (p6 : Int) (p7 : Str) (p8 : Str) (p9 : Int) (p10 : Int) (p11 : Int) (p12 : Bool) (r : (Str × Str × Int × Int × Bool × Str × Int × Str × Str × Int × Int × Int × Bool)),z0O n p0 p1 p2 p3 p4 p5 p6 p7 p8 p9 p10 p11 p12 = some r → ∀ (goal : GoT),z3j goal r → PtS A 129 0 [.code (sub B129 [1,0,0,0,1,0,1,0,1,0,1,0,1,0,1,1,0,1,0,0]),.inLoop (sub B129 [1,0,0,0,1,0,1,0,1,0,1,0,1,0,1,1,0,1,0,0]),.inBlock 2,.code (sub B129 [1,0,0,0,1,0,1,0,1,0,1,1]),.code (sub B129 [1,0,0,0,1,0,1,1]),.inBlock 1,.inLoop (sub B129 [1,0,0,0]),.inBlock 0,.code (sub B129 [1,1])] ⟨[(0,(.str p0)),(20,(.str p1)),(21,(.int .u64 p2)),(22,(.int .u64 p3)),(23,(.bool p4)),(31,(.str p5)),(32,(.int .u64 p6)),(33,(.str p7)),(34,(.str p8)),(35,(.int .u64 p9)),(36,(.int .u64 p10)),(37,(.int .u64 p11)),(38,(.bool p12))],[]⟩ goal
theorem za2 (n : Nat) : z6i n := by
  induction n with
  | zero => exact (fun p0 p1 p2 p3 p4 p5 p6 p7 p8 p9 p10 p11 p12 r h => z1e (Eq.trans (Eq.symm (z0O.eq_1 p0 p1 p2 p3 p4 p5 p6 p7 p8 p9 p10 p11 p12)) h))
  | succ n ih => exact (fun p0 p1 p2 p3 p4 p5 p6 p7 p8 p9 p10 p11 p12 r h goal hq => have h := Eq.trans (Eq.symm (z0O.eq_2 _ _ _ _ _ _ _ _ _ _ _ _ _ _)) h
    (z0j h (fun b18 h => (z0f h (fun b20 b19 h => (z0d h (fun b21 h => (z0f h (fun b23 b22 h => (z0d h (fun b24 h => (z0f h (fun b26 b25 h => (z0d h (fun b27 h => (z0f h (fun b29 b28 h => (z0j h (fun b30 h => (z0d h (fun b31 h => (z01 (.cut [] [0,20,21,22,23,31,32,33,34,35,36,37,38] []) 9 [⟨[],[(5,.call [] [some .str] (.int .u64 b20) [] []),(8,.call [] [some .str] (.int .u64 b23) [] []),(12,.call [] [some .str] (.int .u64 b26) [] []),(15,.call [] [some .str] (.int .u64 b29) [] [])],[(3,true),(20,true)],[],[]⟩,r0] (And.intro b18 (And.intro (z0o n p0 b20 b19) (And.intro b21 (And.intro (z0o n (p0.drop 8) b23 b22) (And.intro b24 (And.intro (z0o n (p0.drop 16) b26 b25) (And.intro b27 (And.intro (z0o n (p0.drop 24) b29 b28) (And.intro b30 (And.intro b31 (ih (p0.drop 32) p1 p2 p3 p4 p5 p6 p7 p8 p9 p10 p11 p12 r h goal hq))))))))))) (by kernel_rfl))))) (fun b30 h => (z01 (.cut [] [0,20,21,22,23,31,32,33,34,35,36,37,38] []) 5 [⟨[],[(5,.call [] [some .str] (.int .u64 b20) [] []),(8,.call [] [some .str] (.int .u64 b23) [] []),(12,.call [] [some .str] (.int .u64 b26) [] []),(15,.call [] [some .str] (.int .u64 b29) [] [])],[(3,true),(20,false)],[],[]⟩] (And.intro b18 (And.intro (z0o n p0 b20 b19) (And.intro b21 (And.intro (z0o n (p0.drop 8) b23 b22) (And.intro b24 (And.intro (z0o n (p0.drop 16) b26 b25) (And.intro b27 (And.intro (z0o n (p0.drop 24) b29 b28) (And.intro b30 (z0e (Φ := z3j goal) h hq)))))))))) (by kernel_rfl))))))))))))))))))) (fun b18 h => (z01 (.cut [] [0,20,21,22,23,31,32,33,34,35,36,37,38] []) 5 [⟨[],[],[(3,false)],[],[]⟩] (And.intro b18 (z0e (Φ := z3j goal) h hq)) (by kernel_rfl)))))
theorem zaD (n : Nat) : z6i n := (za2 n)
def z5S (goal : GoT) (r : Unit) : Prop := PtS A 129 0 [.code (sub B129 [1,1])] ⟨[],[]⟩ goal
def z6g (n : Nat) : Prop := ∀ (p0 : Str) (r : Unit),z0y n p0 = some r → ∀ (goal : GoT),z5S goal r → PtS A 129 0 [.code (sub B129 [1,0,0,0]),.inLoop (sub B129 [1,0,0,0]),.inBlock 0,.code (sub B129 [1,1])] ⟨[(0,(.str p0))],[]⟩ goal
theorem zad (n : Nat) : z6g n := by
  induction n with
  | zero => exact (fun p0 r h => z1e (Eq.trans (Eq.symm (z0y.eq_1 p0)) h))
  | succ n ih => exact (fun p0 r h goal hq => have h := Eq.trans (Eq.symm (z0y.eq_2 _ _)) h
    (z0j h (fun b1 h => (z0d h (fun b2 h => (z0j h (fun b3 h => (z0d h (fun b4 h => (z0j h (fun b5 h => (z0f h (fun b7 b6 h => (z0j h (fun b8 h => (z0d h (fun b9 h => (z0j h (fun b10 h => (z0f h (fun b12 b11 h => (z0d h (fun b13 h => (z0f h (fun b15 b14 h => (z0j h (fun b16 h => (z0d h (fun b17 h => (z0f h (fun b33 eb33 h => (z01 (.cut [] [0,20,21,22,23,31,32,33,34,35,36,37,38] []) 27 [⟨[],[],[(2,true)],[],[]⟩,r0,⟨[],[],[(1,true)],[],[]⟩,r0,⟨[],[(5,.call [] [some .str] (.int .u64 b7) [] [])],[(3,true),(8,true)],[],[]⟩,r0,⟨[],[(5,.call [] [some .str] (.int .u64 b12) [] []),(8,.call [] [some .str] (.int .u64 b15) [] [])],[(3,true),(12,true)],[],[]⟩,r0] (And.intro b1 (And.intro b2 (And.intro b3 (And.intro b4 (And.intro b5 (And.intro (z0o n (p0.drop 1) b7 b6) (And.intro b8 (And.intro b9 (And.intro b10 (And.intro (z0o n ((p0.drop 1).drop 8) b12 b11) (And.intro b13 (And.intro (z0o n (((p0.drop 1).drop 8).drop 8) b15 b14) (And.intro b16 (And.intro b17 (zaD n (((p0.drop 1).drop 8).drop 16) (p0.drop 1) b7 (iand .u64 b7 9259542123273814144) ((iand .u64 b7 9259542123273814144) == 0) ((p0.drop 1).drop 8) b12 ((p0.drop 1).drop 8) (((p0.drop 1).drop 8).drop 8) b15 (ior .u64 b12 b15) (iand .u64 (ior .u64 b12 b15) 9259542123273814144) ((iand .u64 (ior .u64 b12 b15) 9259542123273814144) == 0) b33 eb33 goal (z01 (.cut [] [0] []) 2 [] (ih b33.1 r h goal hq) (by kernel_rfl))))))))))))))))) (by kernel_rfl))))))) (fun b16 h => (z01 (.cut [] [0] []) 26 [⟨[],[],[(2,true)],[],[]⟩,r0,⟨[],[],[(1,true)],[],[]⟩,r0,⟨[],[(5,.call [] [some .str] (.int .u64 b7) [] [])],[(3,true),(8,true)],[],[]⟩,r0,⟨[],[(5,.call [] [some .str] (.int .u64 b12) [] []),(8,.call [] [some .str] (.int .u64 b15) [] [])],[(3,true),(12,false)],[],[]⟩] (And.intro b1 (And.intro b2 (And.intro b3 (And.intro b4 (And.intro b5 (And.intro (z0o n (p0.drop 1) b7 b6) (And.intro b8 (And.intro b9 (And.intro b10 (And.intro (z0o n ((p0.drop 1).drop 8) b12 b11) (And.intro b13 (And.intro (z0o n (((p0.drop 1).drop 8).drop 8) b15 b14) (And.intro b16 (ih ((p0.drop 1).drop 8) r h goal hq)))))))))))))) (by kernel_rfl))))))))))) (fun b10 h => (z01 (.cut [] [0] []) 26 [⟨[],[],[(2,true)],[],[]⟩,r0,⟨[],[],[(1,true)],[],[]⟩,r0,⟨[],[(5,.call [] [some .str] (.int .u64 b7) [] [])],[(3,true),(8,true)],[],[]⟩,r0,⟨[],[],[(3,false)],[],[]⟩] (And.intro b1 (And.intro b2 (And.intro b3 (And.intro b4 (And.intro b5 (And.intro (z0o n (p0.drop 1) b7 b6) (And.intro b8 (And.intro b9 (And.intro b10 (ih ((p0.drop 1).drop 8) r h goal hq)))))))))) (by kernel_rfl))))))) (fun b8 h => (z01 (.cut [] [0] []) 21 [⟨[],[],[(2,true)],[],[]⟩,r0,⟨[],[],[(1,true)],[],[]⟩,r0,⟨[],[(5,.call [] [some .str] (.int .u64 b7) [] [])],[(3,true),(8,false)],[],[]⟩] (And.intro b1 (And.intro b2 (And.intro b3 (And.intro b4 (And.intro b5 (And.intro (z0o n (p0.drop 1) b7 b6) (And.intro b8 (ih (p0.drop 1) r h goal hq)))))))) (by kernel_rfl))))))) (fun b5 h => (z01 (.cut [] [0] []) 21 [⟨[],[],[(2,true)],[],[]⟩,r0,⟨[],[],[(1,true)],[],[]⟩,r0,⟨[],[],[(3,false)],[],[]⟩] (And.intro b1 (And.intro b2 (And.intro b3 (And.intro b4 (And.intro b5 (ih (p0.drop 1) r h goal hq)))))) (by kernel_rfl))))))) (fun b3 h => (z1e h)))))) (fun b1 h => (z01 (.cut [] [] []) 5 [⟨[],[],[(2,false)],[],[]⟩] (And.intro b1 (z0e (Φ := z5S goal) h hq)) (by kernel_rfl)))))
theorem zaY (n : Nat) : z6g n := (zad n)
def z3X (goal : GoT) (r : Bool) : Prop := goal (.bool r) [] []
def z8e (a0 : Str) (r : Bool) : Prop := PE.Spec A 129 [(.str a0)] [] (.bool r) [] []
theorem zcR (a0 : Str) (r : Bool) (H : ∀ goal : GoT,z3X goal r → PtS A 129 0 [.code (sub B129 [])] ⟨[(0,(.str a0))],[]⟩ goal) : z8e a0 r :=
  z0n z09 zzP (by kernel_rfl) (H _ ⟨rfl,rfl,rfl⟩)
theorem zcF (n : Nat) : ∀ (a0 : Str) (r : Bool),z1i n a0 = some r → ∀ (goal : GoT),z3X goal r → PtS A 129 0 [.code (sub B129 [])] ⟨[(0,(.str a0))],[]⟩ goal :=
  fun a0 r h goal hq => have h := Eq.trans (Eq.symm (z1i.eq_1 n a0)) h
    (z0f h (fun b35 eb35 h => (z01 (.cut [] [0] []) 5 [r0] (zaY n a0 b35 eb35 goal (z01 (.ret [] []) 2 [r0] (z0e (Φ := z3X goal) h hq) (by kernel_rfl))) (by kernel_rfl))))
theorem z7B (n : Nat) (a0 : Str) (r : Bool) (h : z1i n a0 = some r) : z8e a0 r := zcR a0 r (zcF n a0 r h)
def zbO (goal : GoT) (r : Bool) : Prop := goal (.bool r) [] []
def znX (a0 : Str) (r : Bool) : Prop := PE.Spec A 90 [(.str a0)] [] (.bool r) [] []
theorem zu9 (a0 : Str) (r : Bool) (H : ∀ goal : GoT,zbO goal r → PtS A 90 0 [.code (sub B90 [])] ⟨[(0,(.str a0))],[]⟩ goal) : znX a0 r :=
  z0n z09 zB4 (by kernel_rfl) (H _ ⟨rfl,rfl,rfl⟩)
theorem ztR (n : Nat) : ∀ (a0 : Str) (r : Bool),zc9 n a0 = some r → ∀ (goal : GoT),zbO goal r → PtS A 90 0 [.code (sub B90 [])] ⟨[(0,(.str a0))],[]⟩ goal :=
  fun a0 r h goal hq => have h := Eq.trans (Eq.symm (zc9.eq_1 n a0)) h
    (z0j h (fun b1 h => (z0f h (fun b3 b2 h => (z01 (.ret [] []) 4 [r0,⟨[],[(5,.call [] [some .str] (.bool b3) [] [])],[(3,true)],[],[]⟩] (And.intro b1 (And.intro (z7B n a0 b3 b2) (z0e (Φ := zbO goal) h hq))) (by kernel_rfl))))) (fun b1 h => (z01 (.ret [] []) 4 [r0,⟨[],[],[(3,false)],[],[]⟩] (And.intro b1 (z0e (Φ := zbO goal) h hq)) (by kernel_rfl))))
theorem z8Y (n : Nat) (a0 : Str) (r : Bool) (h : zc9 n a0 = some r) : znX a0 r := zu9 a0 r (ztR n a0 r h)
def z7V (goal : GoT) (r : (Sum Unit z00)) : Prop := (Sum.elim (fun x => PtS A 91 0 [.code .ret] ⟨[(2,(.bool false))],[]⟩ goal) (fun x => PtS A 91 0 [.code (sub B91 [1,1,1])] ⟨[(1,(.ptr 0 0))],[(0,(.box [(.int .i64 x.z08),(.bool x.z0c),(.int .i64 x.z06),(.str x.z0b),(.lst .str x.z07 0),(.lst (.user 3) x.z05 0)]))]⟩ goal)) r
def zfA (n : Nat) : Prop := ∀ (p0 : (List Str)) (p1 : Int) (p2 : Int) (p3 : z00) (p4 : (List (Str × Bool))) (r : (Sum Unit z00)),z4R n p0 p1 p2 p3 p4 = some r → ∀ (goal : GoT),z7V goal r → PtS A 91 0 [.code (sub B91 [1,1,0,1,0,0]),.inLoop (sub B91 [1,1,0,1,0,0]),.inBlock 0,.code (sub B91 [1,1,1])] ⟨[(1,(.ptr 0 0)),(3,(.map 1)),(8,(.lst .str p0 0)),(9,(.int .i64 p1)),(10,(.int .i64 p2))],[(0,(.box [(.int .i64 p3.z08),(.bool p3.z0c),(.int .i64 p3.z06),(.str p3.z0b),(.lst .str p3.z07 0),(.lst (.user 3) p3.z05 0)])),(1,(.tmap .str .bool p4))]⟩ goal
theorem zl7 (n : Nat) : zfA n := by
  induction n with
  | zero => exact (fun p0 p1 p2 p3 p4 r h => z1e (Eq.trans (Eq.symm (z4R.eq_1 p0 p1 p2 p3 p4)) h))
  | succ n ih => exact (fun p0 p1 p2 p3 p4 r h goal hq => have h := Eq.trans (Eq.symm (z4R.eq_2 _ _ _ _ _ _)) h
    (z0j h (fun b1 h => (z0d h (fun b2 h => (z0j h (fun b3 h => (z01 (.cutRet [] [2] []) 15 [⟨[],[],[(0,true)],[],[]⟩,r0,⟨[],[],[(3,true)],[],[]⟩,r0] (And.intro b1 (And.intro b2 (And.intro b3 (z0e (Φ := z7V goal) h hq)))) (by kernel_rfl))) (fun b3 h => (z0f h (fun b5 b4 h => (z0j h (fun b6 h => (z01 (.cutRet [] [2] []) 15 [⟨[],[],[(0,true)],[],[]⟩,r0,⟨[],[(5,.call [] [some .str] (.bool b5) [] [])],[(3,false),(7,true)],[],[]⟩,r0] (And.intro b1 (And.intro b2 (And.intro b3 (And.intro (z8Y n (rd [] p0 p2) b5 b4) (And.intro b6 (z0e (Φ := z7V goal) h hq)))))) (by kernel_rfl))) (fun b6 h => (z01 (.cut [] [1,3,8,9,10] [0,1]) 18 [⟨[],[],[(0,true)],[],[]⟩,r0,⟨[],[(5,.call [] [some .str] (.bool b5) [] [])],[(3,false),(7,false)],[],[]⟩,r0,r0] (And.intro b1 (And.intro b2 (And.intro b3 (And.intro (z8Y n (rd [] p0 p2) b5 b4) (And.intro b6 (ih p0 p1 (z0a (p2 + 1)) p3 (ast (fun y => (rd [] p0 p2) == y) (rd [] p0 p2) true p4) r h goal hq)))))) (by cases p3; kernel_rfl))))))))))) (fun b1 h => (z01 (.cut [] [1] [0]) 5 [⟨[],[],[(0,false)],[],[]⟩] (And.intro b1 (z0e (Φ := z7V goal) h hq)) (by cases p3; kernel_rfl)))))
theorem znn (n : Nat) : zfA n := (zl7 n)
def zas (goal : GoT) (r : Bool) : Prop := goal (.bool r) [] []
def zmJ (a0 : z00) (r : Bool) : Prop := PE.Spec A 91 [(.agg [(.int .i64 a0.z08),(.bool a0.z0c),(.int .i64 a0.z06),(.str a0.z0b),(.lst .str a0.z07 0),(.lst (.user 3) a0.z05 0)])] [] (.bool r) [] []
theorem zsG (a0 : z00) (r : Bool) (H : ∀ goal : GoT,zas goal r → PtS A 91 0 [.code (sub B91 [])] ⟨[(0,(.agg [(.int .i64 a0.z08),(.bool a0.z0c),(.int .i64 a0.z06),(.str a0.z0b),(.lst .str a0.z07 0),(.lst (.user 3) a0.z05 0)]))],[]⟩ goal) : zmJ a0 r :=
  z0n z09 zAT (by kernel_rfl) (H _ ⟨rfl,rfl,rfl⟩)
theorem zrW (n : Nat) : ∀ (a0 : z00) (r : Bool),zbZ n a0 = some r → ∀ (goal : GoT),zas goal r → PtS A 91 0 [.code (sub B91 [])] ⟨[(0,(.agg [(.int .i64 a0.z08),(.bool a0.z0c),(.int .i64 a0.z06),(.str a0.z0b),(.lst .str a0.z07 0),(.lst (.user 3) a0.z05 0)]))],[]⟩ goal :=
  fun a0 r h goal hq => have h := Eq.trans (Eq.symm (zbZ.eq_1 n a0)) h
    (z0f h (fun b7 eb7 h => (z01 (.cut [] [1,3,8,9,10] [100000,200000]) 9 [r0,r0,r0] (znn n a0.z07 (a0.z07.length : Int) 0 a0 ([] : List (Str × Bool)) b7 eb7 goal (match b7,h with | .inl b8,h => (z01 (.ret [] []) 0 [] (z0e (Φ := zas goal) h hq) (by kernel_rfl)) | .inr b9,h => (z01 (.ret [] []) 2 [r0] (z0e (Φ := zas goal) h hq) (by kernel_rfl)))) (by cases a0; kernel_rfl))))
theorem zjB (n : Nat) (a0 : z00) (r : Bool) (h : zbZ n a0 = some r) : zmJ a0 r := zsG a0 r (zrW n a0 r h)
def z4o (goal : GoT) (r : Bool) : Prop := goal (.bool r) [] []
def zmn (a0 : z00) (a1 : Int) (r : Bool) : Prop := PE.Spec A 58 [(.agg [(.int .i64 a0.z08),(.bool a0.z0c),(.int .i64 a0.z06),(.str a0.z0b),(.lst .str a0.z07 0),(.lst (.user 3) a0.z05 0)]),(.int .i64 a1)] [] (.bool r) [] []
theorem zjE (a0 : z00) (a1 : Int) (r : Bool) (H : ∀ goal : GoT,z4o goal r → PtS A 58 0 [.code (sub B58 [])] ⟨[(0,(.agg [(.int .i64 a0.z08),(.bool a0.z0c),(.int .i64 a0.z06),(.str a0.z0b),(.lst .str a0.z07 0),(.lst (.user 3) a0.z05 0)])),(1,(.int .i64 a1))],[]⟩ goal) : zmn a0 a1 r :=
  z0n z09 zBT (by kernel_rfl) (H _ ⟨rfl,rfl,rfl⟩)
def z1y (goal : GoT) (r : (Bool × Int)) : Prop := goal (.bool r.1) [(.box [(.int .i64 r.2)])] []
def z3p (a0 : (List z00)) (a1 : Int) (r : (Bool × Int)) : Prop := PE.Spec A 92 [(.lst (.user 3) a0 0),(.fn 93 [] [(.ptr 0 0)])] [(.box [(.int .i64 a1)])] (.bool r.1) [(.box [(.int .i64 r.2)])] []
theorem z1H (a0 : (List z00)) (a1 : Int) (r : (Bool × Int)) (H : ∀ goal : GoT,z1y goal r → PtS A 92 1 [.code (sub B92 [])] ⟨[(0,(.lst (.user 3) a0 0)),(1,(.fn 93 [] [(.ptr 0 0)]))],[(0,(.box [(.int .i64 a1)]))]⟩ goal) : z3p a0 a1 r :=
  z0n z09 zCa (by kernel_rfl) (H _ ⟨rfl,rfl,rfl⟩)
def z1z (goal : GoT) (r : (Sum (Int × Int) Int)) : Prop := (Sum.elim (fun x => PtS A 130 1 [.code .ret] ⟨[(4,(.int .i64 x.1))],[(0,(.box [(.int .i64 x.2)]))]⟩ goal) (fun x => PtS A 130 1 [.code (sub B130 [1,1])] ⟨[],[(0,(.box [(.int .i64 x)]))]⟩ goal)) r
def z1c (goal : GoT) (r : (Int × Int)) : Prop := goal (.int .i64 r.1) [(.box [(.int .i64 r.2)])] []
def z3T (a0 : (List z00)) (a1 : Int) (r : (Int × Int)) : Prop := PE.Spec A 130 [(.lst (.user 3) a0 0),(.fn 93 [] [(.ptr 0 0)])] [(.box [(.int .i64 a1)])] (.int .i64 r.1) [(.box [(.int .i64 r.2)])] []
theorem z3O (a0 : (List z00)) (a1 : Int) (r : (Int × Int)) (H : ∀ goal : GoT,z1c goal r → PtS A 130 1 [.code (sub B130 [])] ⟨[(0,(.lst (.user 3) a0 0)),(1,(.fn 93 [] [(.ptr 0 0)]))],[(0,(.box [(.int .i64 a1)]))]⟩ goal) : z3T a0 a1 r :=
  z0n z09 zAh (by kernel_rfl) (H _ ⟨rfl,rfl,rfl⟩)
def zb6 (a1 : Int) (goal : GoT) (r : Bool) : Prop := goal (.bool r) [(.box [(.int .i64 a1)])] []
def zhW (a0 : z00) (a1 : Int) (r : Bool) : Prop := PE.Spec A 93 [(.agg [(.int .i64 a0.z08),(.bool a0.z0c),(.int .i64 a0.z06),(.str a0.z0b),(.lst .str a0.z07 0),(.lst (.user 3) a0.z05 0)]),(.ptr 0 0)] [(.box [(.int .i64 a1)])] (.bool r) [(.box [(.int .i64 a1)])] []
theorem zcB (a0 : z00) (a1 : Int) (r : Bool) (H : ∀ goal : GoT,zb6 a1 goal r → PtS A 93 1 [.code (sub B93 [])] ⟨[(0,(.agg [(.int .i64 a0.z08),(.bool a0.z0c),(.int .i64 a0.z06),(.str a0.z0b),(.lst .str a0.z07 0),(.lst (.user 3) a0.z05 0)])),(1,(.ptr 0 0))],[(0,(.box [(.int .i64 a1)]))]⟩ goal) : zhW a0 a1 r :=
  z0n z09 zAV (by kernel_rfl) (H _ ⟨rfl,rfl,rfl⟩)
def zkt (n : Nat) : Prop := ∀ (a0 : z00) (a1 : Int) (r : Bool),z8b n a0 a1 = some r → ∀ (goal : GoT),z4o goal r → PtS A 58 0 [.code (sub B58 [])] ⟨[(0,(.agg [(.int .i64 a0.z08),(.bool a0.z0c),(.int .i64 a0.z06),(.str a0.z0b),(.lst .str a0.z07 0),(.lst (.user 3) a0.z05 0)])),(1,(.int .i64 a1))],[]⟩ goal
def z3g (n : Nat) : Prop := ∀ (a0 : (List z00)) (a1 : Int) (r : (Bool × Int)),z0x n a0 a1 = some r → ∀ (goal : GoT),z1y goal r → PtS A 92 1 [.code (sub B92 [])] ⟨[(0,(.lst (.user 3) a0 0)),(1,(.fn 93 [] [(.ptr 0 0)]))],[(0,(.box [(.int .i64 a1)]))]⟩ goal
def z3h (n : Nat) : Prop := ∀ (p0 : (List z00)) (p1 : Int) (p2 : Int) (p3 : Int) (r : (Sum (Int × Int) Int)),z0w n p0 p1 p2 p3 = some r → ∀ (goal : GoT),z1z goal r → PtS A 130 1 [.code (sub B130 [1,0,1,0,0]),.inLoop (sub B130 [1,0,1,0,0]),.inBlock 0,.code (sub B130 [1,1])] ⟨[(0,(.lst (.user 3) p0 0)),(1,(.fn 93 [] [(.ptr 0 0)])),(7,(.int .i64 p1)),(8,(.int .i64 p2))],[(0,(.box [(.int .i64 p3)]))]⟩ goal
def z3I (n : Nat) : Prop := ∀ (a0 : (List z00)) (a1 : Int) (r : (Int × Int)),z0M n a0 a1 = some r → ∀ (goal : GoT),z1c goal r → PtS A 130 1 [.code (sub B130 [])] ⟨[(0,(.lst (.user 3) a0 0)),(1,(.fn 93 [] [(.ptr 0 0)]))],[(0,(.box [(.int .i64 a1)]))]⟩ goal
def zh3 (n : Nat) : Prop := ∀ (a0 : z00) (a1 : Int) (r : Bool),z8T n a0 a1 = some r → ∀ (goal : GoT),zb6 a1 goal r → PtS A 93 1 [.code (sub B93 [])] ⟨[(0,(.agg [(.int .i64 a0.z08),(.bool a0.z0c),(.int .i64 a0.z06),(.str a0.z0b),(.lst .str a0.z07 0),(.lst (.user 3) a0.z05 0)])),(1,(.ptr 0 0))],[(0,(.box [(.int .i64 a1)]))]⟩ goal
theorem z8p (n : Nat) : zkt n ∧ z3g n ∧ z3h n ∧ z3I n ∧ zh3 n := by
  induction n with
  | zero => exact ⟨(fun a0 a1 r h => z1e (Eq.trans (Eq.symm (z8b.eq_1 a0 a1)) h)),(fun a0 a1 r h => z1e (Eq.trans (Eq.symm (z0x.eq_1 a0 a1)) h)),(fun p0 p1 p2 p3 r h => z1e (Eq.trans (Eq.symm (z0w.eq_1 p0 p1 p2 p3)) h)),(fun a0 a1 r h => z1e (Eq.trans (Eq.symm (z0M.eq_1 a0 a1)) h)),(fun a0 a1 r h => z1e (Eq.trans (Eq.symm (z8T.eq_1 a0 a1)) h))⟩
  | succ n ih => exact ⟨(fun a0 a1 r h goal hq => have h := Eq.trans (Eq.symm (z8b.eq_2 _ _ _)) h
    (z0j h (fun b1 h => (z01 (.ret [] []) 8 [r0,⟨[],[],[(12,true)],[(3,true),(4,true),(5,true),(6,false),(8,true),(9,true),(10,true),(11,false)],[2,7]⟩,r0] (And.intro b1 (z0e (Φ := z4o goal) h hq)) (by kernel_rfl))) (fun b1 h => (z0f h (fun b3 b2 h => (z0j h (fun b4 h => (z01 (.ret [] []) 8 [r0,⟨[],[(14,.call [] [some (.user 3)] (.bool b3) [] [])],[(12,false),(17,true)],[(3,true),(4,true),(5,true),(6,false),(8,true),(9,true),(10,true),(11,false)],[2,7]⟩,r0] (And.intro b1 (And.intro (z8n n a0 b3 b2) (And.intro b4 (z0e (Φ := z4o goal) h hq)))) (by cases a0; kernel_rfl))) (fun b4 h => (z0f h (fun b6 b5 h => (z0j h (fun b7 h => (z01 (.ret [] []) 8 [r0,⟨[],[(14,.call [] [some (.user 3)] (.bool b3) [] []),(20,.call [] [some .str] (.bool b6) [] [])],[(12,false),(17,false),(28,true)],[(3,true),(4,true),(5,true),(6,false),(8,true),(9,true),(10,true),(11,false),(24,true),(25,true),(26,true),(27,true),(28,false)],[2,7,23]⟩,r0] (And.intro b1 (And.intro (z8n n a0 b3 b2) (And.intro b4 (And.intro (z8Y n a0.z0b b6 b5) (And.intro b7 (z0e (Φ := z4o goal) h hq)))))) (by cases a0; kernel_rfl))) (fun b7 h => (z0j h (fun b8 h => (z0f h (fun b10 b9 h => (z0j h (fun b11 h => (z01 (.ret [] []) 13 [r0,⟨[],[(14,.call [] [some (.user 3)] (.bool b3) [] []),(20,.call [] [some .str] (.bool b6) [] [])],[(12,false),(17,false),(28,false)],[(3,true),(4,true),(5,true),(6,false),(8,true),(9,true),(10,true),(11,false),(24,true),(25,true),(26,true),(27,true),(28,false)],[2,7,23]⟩,⟨[],[(5,.call [] [some (.user 3)] (.bool b10) [] [])],[(3,true),(7,true)],[],[]⟩,r0] (And.intro b1 (And.intro (z8n n a0 b3 b2) (And.intro b4 (And.intro (z8Y n a0.z0b b6 b5) (And.intro b7 (And.intro b8 (And.intro (zjB n a0 b10 b9) (And.intro b11 (z0e (Φ := z4o goal) h hq))))))))) (by cases a0; kernel_rfl))) (fun b11 h => (z0f h (fun b13 b12 h => (z01 (.ret [] []) 14 [r0,⟨[],[(14,.call [] [some (.user 3)] (.bool b3) [] []),(20,.call [] [some .str] (.bool b6) [] [])],[(12,false),(17,false),(28,false)],[(3,true),(4,true),(5,true),(6,false),(8,true),(9,true),(10,true),(11,false),(24,true),(25,true),(26,true),(27,true),(28,false)],[2,7,23]⟩,⟨[],[(5,.call [] [some (.user 3)] (.bool b10) [] [])],[(3,true),(7,false)],[],[]⟩,⟨[],[(3,.call [100100] [some (.list (.user 3)),none] (.bool b13.1) [(.box [(.int .i64 b13.2)])] [])],[],[],[]⟩] (And.intro b1 (And.intro (z8n n a0 b3 b2) (And.intro b4 (And.intro (z8Y n a0.z0b b6 b5) (And.intro b7 (And.intro b8 (And.intro (zjB n a0 b10 b9) (And.intro b11 (And.intro (z1H a0.z05 a1 b13 (ih.2.1 a0.z05 a1 b13 b12)) (z0e (Φ := z4o goal) h hq)))))))))) (by cases a0; kernel_rfl))))))))) (fun b8 h => (z0f h (fun b15 b14 h => (z01 (.ret [] []) 14 [r0,⟨[],[(14,.call [] [some (.user 3)] (.bool b3) [] []),(20,.call [] [some .str] (.bool b6) [] [])],[(12,false),(17,false),(28,false)],[(3,true),(4,true),(5,true),(6,false),(8,true),(9,true),(10,true),(11,false),(24,true),(25,true),(26,true),(27,true),(28,false)],[2,7,23]⟩,⟨[],[],[(3,false)],[],[]⟩,⟨[],[(3,.call [100100] [some (.list (.user 3)),none] (.bool b15.1) [(.box [(.int .i64 b15.2)])] [])],[],[],[]⟩] (And.intro b1 (And.intro (z8n n a0 b3 b2) (And.intro b4 (And.intro (z8Y n a0.z0b b6 b5) (And.intro b7 (And.intro b8 (And.intro (z1H a0.z05 a1 b15 (ih.2.1 a0.z05 a1 b15 b14)) (z0e (Φ := z4o goal) h hq)))))))) (by cases a0; kernel_rfl))))))))))))))))),(fun a0 a1 r h goal hq => have h := Eq.trans (Eq.symm (z0x.eq_2 _ _ _)) h
    (z0f h (fun b2 b1 h => (z01 (.ret [] []) 4 [r0,⟨[],[(2,.call [0] [some (.list (.user 3)),none] (.int .i64 b2.1) [(.box [(.int .i64 b2.2)])] [])],[],[],[]⟩] (And.intro (z3O a0 a1 b2 (ih.2.2.2.1 a0 a1 b2 b1)) (z0e (Φ := z1y goal) h hq)) (by kernel_rfl))))),(fun p0 p1 p2 p3 r h goal hq => have h := Eq.trans (Eq.symm (z0w.eq_2 _ _ _ _ _)) h
    (z0j h (fun b1 h => (z0d h (fun b2 h => (z0f h (fun b4 b3 h => (z0j h (fun b5 h => (z01 (.cutRet [] [4] [0]) 14 [⟨[],[],[(0,true)],[],[]⟩,r0,⟨[],[(5,.call [0] [some (.user 3),none] (.bool b4) [(.box [(.int .i64 p3)])] [])],[(5,true)],[],[]⟩,r0] (And.intro b1 (And.intro b2 (And.intro (zcB (rd z00.dft p0 p2) p3 b4 (ih.2.2.2.2 (rd z00.dft p0 p2) p3 b4 b3)) (And.intro b5 (z0e (Φ := z1z goal) h hq))))) (by rw [← z00.eta (rd z00.dft p0 p2)]; kernel_rfl))) (fun b5 h => (z01 (.cut [] [0,1,7,8] [0]) 16 [⟨[],[],[(0,true)],[],[]⟩,r0,⟨[],[(5,.call [0] [some (.user 3),none] (.bool b4) [(.box [(.int .i64 p3)])] [])],[(5,false)],[],[]⟩,r0] (And.intro b1 (And.intro b2 (And.intro (zcB (rd z00.dft p0 p2) p3 b4 (ih.2.2.2.2 (rd z00.dft p0 p2) p3 b4 b3)) (And.intro b5 (ih.2.2.1 p0 p1 (z0a (p2 + 1)) p3 r h goal hq))))) (by rw [← z00.eta (rd z00.dft p0 p2)]; kernel_rfl))))))))) (fun b1 h => (z01 (.cut [] [] [0]) 5 [⟨[],[],[(0,false)],[],[]⟩] (And.intro b1 (z0e (Φ := z1z goal) h hq)) (by kernel_rfl))))),(fun a0 a1 r h goal hq => have h := Eq.trans (Eq.symm (z0M.eq_2 _ _ _)) h
    (z0f h (fun b6 eb6 h => (z01 (.cut [] [0,1,7,8] [0]) 7 [r0,r0] (ih.2.2.1 a0 (a0.length : Int) 0 a1 b6 eb6 goal (match b6,h with | .inl b7,h => (z01 (.ret [] []) 0 [] (z0e (Φ := z1c goal) h hq) (by kernel_rfl)) | .inr b8,h => (z01 (.ret [] []) 2 [r0] (z0e (Φ := z1c goal) h hq) (by kernel_rfl)))) (by kernel_rfl))))),(fun a0 a1 r h goal hq => have h := Eq.trans (Eq.symm (z8T.eq_2 _ _ _)) h
    (z0f h (fun b2 b1 h => (z01 (.ret [] []) 4 [r0,⟨[],[(3,.call [] [some (.user 3),some (.int .i64)] (.bool b2) [] [])],[],[],[]⟩] (And.intro (zjE a0 (z0a (a1 - 1)) b2 (ih.1 a0 (z0a (a1 - 1)) b2 b1)) (z0e (Φ := zb6 a1 goal) h hq)) (by cases a0; kernel_rfl)))))⟩
theorem zsQ (n : Nat) : zkt n := (z8p n).1
theorem z7h (n : Nat) : z3g n := (z8p n).2.1
theorem zg7 (n : Nat) : z3h n := (z8p n).2.2.1
theorem z7W (n : Nat) : z3I n := (z8p n).2.2.2.1
theorem zoz (n : Nat) : zh3 n := (z8p n).2.2.2.2
theorem zt6 (n : Nat) (a0 : z00) (a1 : Int) (r : Bool) (h : z8b n a0 a1 = some r) : zmn a0 a1 r := zjE a0 a1 r (zsQ n a0 a1 r h)
theorem zg4 (n : Nat) (a0 : (List z00)) (a1 : Int) (r : (Bool × Int)) (h : z0x n a0 a1 = some r) : z3p a0 a1 r := z1H a0 a1 r (z7h n a0 a1 r h)
theorem zhp (n : Nat) (a0 : (List z00)) (a1 : Int) (r : (Int × Int)) (h : z0M n a0 a1 = some r) : z3T a0 a1 r := z3O a0 a1 r (z7W n a0 a1 r h)
theorem zxi (n : Nat) (a0 : z00) (a1 : Int) (r : Bool) (h : z8T n a0 a1 = some r) : zhW a0 a1 r := zcB a0 a1 r (zoz n a0 a1 r h)
def zdE (goal : GoT) (r : Bool) : Prop := goal (.bool r) [] []
def zm6 (a0 : z00) (r : Bool) : Prop := PE.Spec A 30 [(.agg [(.int .i64 a0.z08),(.bool a0.z0c),(.int .i64 a0.z06),(.str a0.z0b),(.lst .str a0.z07 0),(.lst (.user 3) a0.z05 0)])] [] (.bool r) [] []
theorem zsP (a0 : z00) (r : Bool) (H : ∀ goal : GoT,zdE goal r → PtS A 30 0 [.code (sub B30 [])] ⟨[(0,(.agg [(.int .i64 a0.z08),(.bool a0.z0c),(.int .i64 a0.z06),(.str a0.z0b),(.lst .str a0.z07 0),(.lst (.user 3) a0.z05 0)]))],[]⟩ goal) : zm6 a0 r :=
  z0n z09 zAS (by kernel_rfl) (H _ ⟨rfl,rfl,rfl⟩)
theorem zsB (n : Nat) : ∀ (a0 : z00) (r : Bool),z92 n a0 = some r → ∀ (goal : GoT),zdE goal r → PtS A 30 0 [.code (sub B30 [])] ⟨[(0,(.agg [(.int .i64 a0.z08),(.bool a0.z0c),(.int .i64 a0.z06),(.str a0.z0b),(.lst .str a0.z07 0),(.lst (.user 3) a0.z05 0)]))],[]⟩ goal :=
  fun a0 r h goal hq => have h := Eq.trans (Eq.symm (z92.eq_1 n a0)) h
    (z0f h (fun b2 b1 h => (z01 (.ret [] []) 4 [r0,⟨[],[(1,.call [] [some (.user 3),some (.int .i64)] (.bool b2) [] [])],[],[],[]⟩] (And.intro (zt6 n a0 8 b2 b1) (z0e (Φ := zdE goal) h hq)) (by cases a0; kernel_rfl))))
theorem z1J (n : Nat) (a0 : z00) (r : Bool) (h : z92 n a0 = some r) : zm6 a0 r := zsP a0 r (zsB n a0 r h)
def z2c (goal : GoT) (r : (Sum (Int × (List Str)) (List Str))) : Prop := (Sum.elim (fun x => PtS A 108 1 [.code .ret] ⟨[(4,(.int .i64 x.1))],[(0,(.row .str x.2 0))]⟩ goal) (fun x => PtS A 108 1 [.code (sub B108 [1,1])] ⟨[],[(0,(.row .str x 0))]⟩ goal)) r
def z4b (n : Nat) : Prop := ∀ (p0 : Str) (p1 : Int) (p2 : Int) (p3 : (List Str)) (r : (Sum (Int × (List Str)) (List Str))),z0D n p0 p1 p2 p3 = some r → ∀ (goal : GoT),z2c goal r → PtS A 108 1 [.code (sub B108 [1,0,1,0,0]),.inLoop (sub B108 [1,0,1,0,0]),.inBlock 0,.code (sub B108 [1,1])] ⟨[(0,(.row 0)),(1,(.str p0)),(7,(.int .i64 p1)),(8,(.int .i64 p2))],[(0,(.row .str p3 0))]⟩ goal
theorem z8j (n : Nat) : z4b n := by
  induction n with
  | zero => exact (fun p0 p1 p2 p3 r h => z1e (Eq.trans (Eq.symm (z0D.eq_1 p0 p1 p2 p3)) h))
  | succ n ih => exact (fun p0 p1 p2 p3 r h goal hq => have h := Eq.trans (Eq.symm (z0D.eq_2 _ _ _ _ _)) h
    (z0j h (fun b1 h => (z0d h (fun b2 h => (z0d h (fun b3 h => (z0j h (fun b4 h => (z01 (.cutRet [] [4] [0]) 14 [⟨[],[],[(0,true)],[],[]⟩,r0,⟨[],[],[(5,true)],[],[]⟩,r0] (And.intro b1 (And.intro b2 (And.intro b3 (And.intro b4 (z0e (Φ := z2c goal) h hq))))) (by kernel_rfl))) (fun b4 h => (z01 (.cut [] [0,1,7,8] [0]) 16 [⟨[],[],[(0,true)],[],[]⟩,r0,⟨[],[],[(5,false)],[],[]⟩,r0] (And.intro b1 (And.intro b2 (And.intro b3 (And.intro b4 (ih p0 p1 (z0a (p2 + 1)) p3 r h goal hq))))) (by kernel_rfl))))))))) (fun b1 h => (z01 (.cut [] [] [0]) 5 [⟨[],[],[(0,false)],[],[]⟩] (And.intro b1 (z0e (Φ := z2c goal) h hq)) (by kernel_rfl)))))
theorem z8m (n : Nat) : z4b n := (z8j n)
def z1B (goal : GoT) (r : (Int × (List Str))) : Prop := goal (.int .i64 r.1) [(.row .str r.2 0)] []
def z5D (a0 : Str) (a1 : (List Str)) (r : (Int × (List Str))) : Prop := PE.Spec A 108 [(.row 0),(.str a0)] [(.row .str a1 0)] (.int .i64 r.1) [(.row .str r.2 0)] []
theorem z9q (a0 : Str) (a1 : (List Str)) (r : (Int × (List Str))) (H : ∀ goal : GoT,z1B goal r → PtS A 108 1 [.code (sub B108 [])] ⟨[(0,(.row 0)),(1,(.str a0))],[(0,(.row .str a1 0))]⟩ goal) : z5D a0 a1 r :=
  z0n z09 zxh (by kernel_rfl) (H _ ⟨rfl,rfl,rfl⟩)
theorem z9m (n : Nat) : ∀ (a0 : Str) (a1 : (List Str)) (r : (Int × (List Str))),z16 n a0 a1 = some r → ∀ (goal : GoT),z1B goal r → PtS A 108 1 [.code (sub B108 [])] ⟨[(0,(.row 0)),(1,(.str a0))],[(0,(.row .str a1 0))]⟩ goal :=
  fun a0 a1 r h goal hq => have h := Eq.trans (Eq.symm (z16.eq_1 n a0 a1)) h
    (z0f h (fun b5 eb5 h => (z01 (.cut [] [0,1,7,8] [0]) 7 [r0,r0] (z8m n a0 (a1.length : Int) 0 a1 b5 eb5 goal (match b5,h with | .inl b6,h => (z01 (.ret [] []) 0 [] (z0e (Φ := z1B goal) h hq) (by kernel_rfl)) | .inr b7,h => (z01 (.ret [] []) 2 [r0] (z0e (Φ := z1B goal) h hq) (by kernel_rfl)))) (by kernel_rfl))))
theorem z5c (n : Nat) (a0 : Str) (a1 : (List Str)) (r : (Int × (List Str))) (h : z16 n a0 a1 = some r) : z5D a0 a1 r := z9q a0 a1 r (z9m n a0 a1 r h)
def z1W (goal : GoT) (r : (List Int)) : Prop := goal (.row 0) [] [(.row (.int .u8) r 0)]
def z3P (a0 : Bool) (r : (List Int)) : Prop := PE.Spec A 257 [.nil,(.bool a0)] [] (.row 0) [] [(.row (.int .u8) r 0)]
theorem zax (a0 : Bool) (r : (List Int)) (H : ∀ goal : GoT,z1W goal r → PtS A 257 0 [.code (sub B257 [])] ⟨[(0,.nil),(1,(.bool a0))],[]⟩ goal) : z3P a0 r :=
  z0n z09 zx9 (by kernel_rfl) (H _ ⟨rfl,rfl,rfl⟩)
theorem z9Q (a0 : Bool) (r : (List Int)) (H : z3P a0 r) : PE.Spec A 257 [.nil,(.bool a0)] [] (.lst (.int .u8) r 0) [] [] :=
  z5g (.list (.int .u8)) r (by kernel_rfl) H
theorem zaR (n : Nat) : ∀ (a0 : Bool) (r : (List Int)),z1P n a0 = some r → ∀ (goal : GoT),z1W goal r → PtS A 257 0 [.code (sub B257 [])] ⟨[(0,.nil),(1,(.bool a0))],[]⟩ goal :=
  fun a0 r h goal hq => have h := Eq.trans (Eq.symm (z1P.eq_1 n a0)) h
    (z0j h (fun b1 h => (z01 (.ret [] [300100]) 8 [r0,⟨[],[],[(0,true)],[],[]⟩,r0] (And.intro b1 (And.intro (by decide : fits ((bytesOf ([116,114,117,101] : Str)).length * 1)) (z0e (Φ := z1W goal) h hq))) (by kernel_rfl))) (fun b1 h => (z01 (.ret [] [400100]) 9 [r0,⟨[],[],[(0,false)],[],[]⟩,r0] (And.intro b1 (And.intro (by decide : fits ((bytesOf ([102,97,108,115,101] : Str)).length * 1)) (z0e (Φ := z1W goal) h hq))) (by kernel_rfl))))
theorem z6f (n : Nat) (a0 : Bool) (r : (List Int)) (h : z1P n a0 = some r) : z3P a0 r := zax a0 r (zaR n a0 r h)
theorem zkU (n : Nat) (a0 : Bool) (r : (List Int)) (h : z1P n a0 = some r) : PE.Spec A 257 [.nil,(.bool a0)] [] (.lst (.int .u8) r 0) [] [] := z9Q a0 r (z6f n a0 r h)
def z7e (goal : GoT) (r : (List Int)) : Prop := goal (.row 0) [] [(.row (.int .u8) r 0)]
def z8g (a0 : Bool) (r : (List Int)) : Prop := PE.Spec A 213 [.nil,(.bool a0)] [] (.row 0) [] [(.row (.int .u8) r 0)]
theorem zgc (a0 : Bool) (r : (List Int)) (H : ∀ goal : GoT,z7e goal r → PtS A 213 0 [.code (sub B213 [])] ⟨[(0,.nil),(1,(.bool a0))],[]⟩ goal) : z8g a0 r :=
  z0n z09 zxO (by kernel_rfl) (H _ ⟨rfl,rfl,rfl⟩)
theorem zeQ (a0 : Bool) (r : (List Int)) (H : z8g a0 r) : PE.Spec A 213 [.nil,(.bool a0)] [] (.lst (.int .u8) r 0) [] [] :=
  z5g (.list (.int .u8)) r (by kernel_rfl) H
theorem zhb (n : Nat) : ∀ (a0 : Bool) (r : (List Int)),z4W n a0 = some r → ∀ (goal : GoT),z7e goal r → PtS A 213 0 [.code (sub B213 [])] ⟨[(0,.nil),(1,(.bool a0))],[]⟩ goal :=
  fun a0 r h goal hq => have h := Eq.trans (Eq.symm (z4W.eq_1 n a0)) h
    (z0f h (fun b2 b1 h => (z01 (.ret [] [200200]) 4 [r0,⟨[],[(2,.call [] [none,some .bool] (.row 0) [] [(.row (.int .u8) b2 0)])],[],[],[]⟩] (And.intro (z6f n a0 b2 b1) (z0e (Φ := z7e goal) h hq)) (by kernel_rfl))))
theorem zaK (n : Nat) (a0 : Bool) (r : (List Int)) (h : z4W n a0 = some r) : z8g a0 r := zgc a0 r (zhb n a0 r h)
theorem zt8 (n : Nat) (a0 : Bool) (r : (List Int)) (h : z4W n a0 = some r) : PE.Spec A 213 [.nil,(.bool a0)] [] (.lst (.int .u8) r 0) [] [] := zeQ a0 r (zaK n a0 r h)
def z2g (goal : GoT) (r : (List Int)) : Prop := goal (.row 0) [] [(.row (.int .u8) r 0)]
def z3Z (a0 : Int) (a1 : Int) (r : (List Int)) : Prop := PE.Spec A 258 [.nil,(.int .i64 a0),(.int .i64 a1)] [] (.row 0) [] [(.row (.int .u8) r 0)]
theorem zb9 (a0 : Int) (a1 : Int) (r : (List Int)) (H : ∀ goal : GoT,z2g goal r → PtS A 258 0 [.code (sub B258 [])] ⟨[(0,.nil),(1,(.int .i64 a0)),(2,(.int .i64 a1))],[]⟩ goal) : z3Z a0 a1 r :=
  z0n z09 zxV (by kernel_rfl) (H _ ⟨rfl,rfl,rfl⟩)
theorem z9Z (a0 : Int) (a1 : Int) (r : (List Int)) (H : z3Z a0 a1 r) : PE.Spec A 258 [.nil,(.int .i64 a0),(.int .i64 a1)] [] (.lst (.int .u8) r 0) [] [] :=
  z5g (.list (.int .u8)) r (by kernel_rfl) H
theorem zba (n : Nat) : ∀ (a0 : Int) (a1 : Int) (r : (List Int)),z2a n a0 a1 = some r → ∀ (goal : GoT),z2g goal r → PtS A 258 0 [.code (sub B258 [])] ⟨[(0,.nil),(1,(.int .i64 a0)),(2,(.int .i64 a1))],[]⟩ goal :=
  fun a0 a1 r h goal hq => have h := Eq.trans (Eq.symm (z2a.eq_1 n a0 a1)) h
    (z0j h (fun b1 h => (z0f h (fun b3 b2 h => (z01 (.ret [] [600300]) 13 [r0,r0,⟨[],[],[(1,true)],[],[]⟩,r0,r0,⟨[],[(3,.call [400200] [none,some (.int .u64),some (.int .i64)] (.row 1) [.dead] [(.row (.int .u8) b3 0)])],[],[],[]⟩] (And.intro b1 (And.intro (by decide : fits (1 * 1)) (And.intro (z2h (z1b (0 - (z1b a0))) a1 [45] b3 b2) (z0e (Φ := z2g goal) h hq)))) (by kernel_rfl))))) (fun b1 h => (z0f h (fun b5 b4 h => (z01 (.ret [] [600300]) 11 [r0,r0,⟨[],[],[(1,false)],[],[]⟩,⟨[],[(3,.call [] [none,some (.int .u64),some (.int .i64)] (.row 0) [] [(.row (.int .u8) b5 0)])],[],[],[]⟩] (And.intro b1 (And.intro (z9n (z1b a0) a1 b5 b4) (z0e (Φ := z2g goal) h hq))) (by kernel_rfl))))))
theorem z6I (n : Nat) (a0 : Int) (a1 : Int) (r : (List Int)) (h : z2a n a0 a1 = some r) : z3Z a0 a1 r := zb9 a0 a1 r (zba n a0 a1 r h)
theorem zmp (n : Nat) (a0 : Int) (a1 : Int) (r : (List Int)) (h : z2a n a0 a1 = some r) : PE.Spec A 258 [.nil,(.int .i64 a0),(.int .i64 a1)] [] (.lst (.int .u8) r 0) [] [] := z9Z a0 a1 r (z6I n a0 a1 r h)
def z7N (goal : GoT) (r : (List Int)) : Prop := goal (.row 0) [] [(.row (.int .u8) r 0)]
def z8N (a0 : Int) (a1 : Int) (r : (List Int)) : Prop := PE.Spec A 214 [.nil,(.int .i64 a0),(.int .i64 a1)] [] (.row 0) [] [(.row (.int .u8) r 0)]
theorem zhK (a0 : Int) (a1 : Int) (r : (List Int)) (H : ∀ goal : GoT,z7N goal r → PtS A 214 0 [.code (sub B214 [])] ⟨[(0,.nil),(1,(.int .i64 a0)),(2,(.int .i64 a1))],[]⟩ goal) : z8N a0 a1 r :=
  z0n z09 zy3 (by kernel_rfl) (H _ ⟨rfl,rfl,rfl⟩)
theorem zg1 (a0 : Int) (a1 : Int) (r : (List Int)) (H : z8N a0 a1 r) : PE.Spec A 214 [.nil,(.int .i64 a0),(.int .i64 a1)] [] (.lst (.int .u8) r 0) [] [] :=
  z5g (.list (.int .u8)) r (by kernel_rfl) H
theorem zhQ (n : Nat) : ∀ (a0 : Int) (a1 : Int) (r : (List Int)),z5I n a0 a1 = some r → ∀ (goal : GoT),z7N goal r → PtS A 214 0 [.code (sub B214 [])] ⟨[(0,.nil),(1,(.int .i64 a0)),(2,(.int .i64 a1))],[]⟩ goal :=
  fun a0 a1 r h goal hq => have h := Eq.trans (Eq.symm (z5I.eq_1 n a0 a1)) h
    (z0f h (fun b2 b1 h => (z01 (.ret [] [200300]) 4 [r0,⟨[],[(3,.call [] [none,some (.int .i64),some (.int .i64)] (.row 0) [] [(.row (.int .u8) b2 0)])],[],[],[]⟩] (And.intro (z6I n a0 a1 b2 b1) (z0e (Φ := z7N goal) h hq)) (by kernel_rfl))))
theorem zbp (n : Nat) (a0 : Int) (a1 : Int) (r : (List Int)) (h : z5I n a0 a1 = some r) : z8N a0 a1 r := zhK a0 a1 r (zhQ n a0 a1 r h)
theorem ztG (n : Nat) (a0 : Int) (a1 : Int) (r : (List Int)) (h : z5I n a0 a1 = some r) : PE.Spec A 214 [.nil,(.int .i64 a0),(.int .i64 a1)] [] (.lst (.int .u8) r 0) [] [] := zg1 a0 a1 r (zbp n a0 a1 r h)
def zb4 (goal : GoT) (r : Unit) : Prop := goal (.map 0) [] [(.tmap (.int .u8) (.int .u8) ((ast (fun y => 13 == y) 13 114 (ast (fun y => 12 == y) 12 102 (ast (fun y => 10 == y) 10 110 (ast (fun y => 9 == y) 9 116 (ast (fun y => 8 == y) 8 98 (ast (fun y => 92 == y) 92 92 (ast (fun y => 34 == y) 34 34 ([] : List (Int × Int))))))))) : (List (Int × Int))))]
def zid (r : Unit) : Prop := PE.Spec A 259 [] [] (.map 0) [] [(.tmap (.int .u8) (.int .u8) ((ast (fun y => 13 == y) 13 114 (ast (fun y => 12 == y) 12 102 (ast (fun y => 10 == y) 10 110 (ast (fun y => 9 == y) 9 116 (ast (fun y => 8 == y) 8 98 (ast (fun y => 92 == y) 92 92 (ast (fun y => 34 == y) 34 34 ([] : List (Int × Int))))))))) : (List (Int × Int))))]
theorem zp3 (r : Unit) (H : ∀ goal : GoT,zb4 goal r → PtS A 259 0 [.code (sub B259 [])] ⟨[],[]⟩ goal) : zid r :=
  z0n z09 zzO (by kernel_rfl) (H _ ⟨rfl,rfl,rfl⟩)
theorem zpf (n : Nat) : ∀ (r : Unit),z8Z n = some r → ∀ (goal : GoT),zb4 goal r → PtS A 259 0 [.code (sub B259 [])] ⟨[],[]⟩ goal :=
  fun r h goal hq => have h := Eq.trans (Eq.symm (z8Z.eq_1 n)) h
    (z01 (.ret [] [200000]) 4 [r0,r0] (z0e (Φ := zb4 goal) h hq) (by kernel_rfl))
theorem zgJ (n : Nat) (r : Unit) (h : z8Z n = some r) : zid r := zp3  r (zpf n  r h)
def zdk (goal : GoT) (r : (List Int)) : Prop := PtS A 215 0 [.code (sub B215 [1,1,1,1])] ⟨[(0,(.row 0))],[(0,(.row (.int .u8) r 0))]⟩ goal
def zdY (n : Nat) : Prop := ∀ (p0 : Str) (p1 : Int) (p2 : Int) (p3 : (List Int)) (r : (List Int)),z5j n p0 p1 p2 p3 = some r → ∀ (goal : GoT),zdk goal r → PtS A 215 0 [.code (sub B215 [1,1,1,0,1,0,0]),.inLoop (sub B215 [1,1,1,0,1,0,0]),.inBlock 0,.code (sub B215 [1,1,1,1])] ⟨[(0,(.row 0)),(1,(.str p0)),(5,(.map 1)),(15,(.int .i64 p1)),(16,(.int .i64 p2))],[(0,(.row (.int .u8) p3 0)),(1,(.tmap (.int .u8) (.int .u8) ((ast (fun y => 13 == y) 13 114 (ast (fun y => 12 == y) 12 102 (ast (fun y => 10 == y) 10 110 (ast (fun y => 9 == y) 9 116 (ast (fun y => 8 == y) 8 98 (ast (fun y => 92 == y) 92 92 (ast (fun y => 34 == y) 34 34 ([] : List (Int × Int))))))))) : (List (Int × Int)))))]⟩ goal
theorem zkc (n : Nat) : zdY n := by
  induction n with
  | zero => exact (fun p0 p1 p2 p3 r h => z1e (Eq.trans (Eq.symm (z5j.eq_1 p0 p1 p2 p3)) h))
  | succ n ih => exact (fun p0 p1 p2 p3 r h goal hq => have h := Eq.trans (Eq.symm (z5j.eq_2 _ _ _ _ _)) h
    (z0j h (fun b3 h => (z0d h (fun b4 h => (z0j h (fun b5 h => (z0d h (fun b6 h => (z01 (.cut [] [0,1,5,15,16] [1100300,1]) 22 [⟨[],[],[(0,true)],[],[]⟩,r0,r0,r0,⟨[],[],[(1,true)],[],[]⟩,r0,r0] (And.intro b3 (And.intro b4 (And.intro b5 (And.intro b6 (ih p0 p1 (z0a (p2 + 1)) (p3 ++ [92,((alk (fun y => (bt p0 p2) == y) (ast (fun y => 13 == y) 13 114 (ast (fun y => 12 == y) 12 102 (ast (fun y => 10 == y) 10 110 (ast (fun y => 9 == y) 9 116 (ast (fun y => 8 == y) 8 98 (ast (fun y => 92 == y) 92 92 (ast (fun y => 34 == y) 34 34 ([] : List (Int × Int)))))))))).getD 0)]) r h goal hq))))) (by kernel_rfl))))) (fun b5 h => (z0j h (fun b7 h => (z0d h (fun b8 h => (z0d h (fun b9 h => (z0d h (fun b10 h => (z01 (.cut [] [0,1,5,15,16] [1300800,1]) 25 [⟨[],[],[(0,true)],[],[]⟩,r0,r0,r0,⟨[],[],[(1,false)],[],[]⟩,⟨[],[],[(2,true)],[],[]⟩,r0,r0] (And.intro b3 (And.intro b4 (And.intro b5 (And.intro b7 (And.intro (by decide : nn 4) (And.intro b8 (And.intro b9 (And.intro b10 (ih p0 p1 (z0a (p2 + 1)) (p3 ++ [92,117,48,48,(bt ([48,49,50,51,52,53,54,55,56,57,97,98,99,100,101,102] : Str) (shr .u8 (bt p0 p2) 4)),(bt ([48,49,50,51,52,53,54,55,56,57,97,98,99,100,101,102] : Str) (iand .u8 (bt p0 p2) 15))]) r h goal hq))))))))) (by kernel_rfl))))))))) (fun b7 h => (z0d h (fun b11 h => (z01 (.cut [] [0,1,5,15,16] [900300,1]) 25 [⟨[],[],[(0,true)],[],[]⟩,r0,r0,r0,⟨[],[],[(1,false)],[],[]⟩,⟨[],[],[(2,false)],[],[]⟩,r0,r0] (And.intro b3 (And.intro b4 (And.intro b5 (And.intro b7 (And.intro b11 (ih p0 p1 (z0a (p2 + 1)) (p3 ++ [(bt p0 p2)]) r h goal hq)))))) (by kernel_rfl))))))))))) (fun b3 h => (z01 (.cut [] [0] [0]) 5 [⟨[],[],[(0,false)],[],[]⟩] (And.intro b3 (z0e (Φ := zdk goal) h hq)) (by kernel_rfl)))))
theorem zl0 (n : Nat) : zdY n := (zkc n)
def zcQ (goal : GoT) (r : (List Int)) : Prop := goal (.row 0) [] [(.row (.int .u8) r 0)]
def zeU (a0 : Str) (r : (List Int)) : Prop := PE.Spec A 215 [.nil,(.str a0)] [] (.row 0) [] [(.row (.int .u8) r 0)]
theorem zq9 (a0 : Str) (r : (List Int)) (H : ∀ goal : GoT,zcQ goal r → PtS A 215 0 [.code (sub B215 [])] ⟨[(0,.nil),(1,(.str a0))],[]⟩ goal) : zeU a0 r :=
  z0n z09 zxF (by kernel_rfl) (H _ ⟨rfl,rfl,rfl⟩)
theorem zn6 (a0 : Str) (r : (List Int)) (H : zeU a0 r) : PE.Spec A 215 [.nil,(.str a0)] [] (.lst (.int .u8) r 0) [] [] :=
  z5g (.list (.int .u8)) r (by kernel_rfl) H
theorem zql (n : Nat) : ∀ (a0 : Str) (r : (List Int)),zc3 n a0 = some r → ∀ (goal : GoT),zcQ goal r → PtS A 215 0 [.code (sub B215 [])] ⟨[(0,.nil),(1,(.str a0))],[]⟩ goal :=
  fun a0 r h goal hq => have h := Eq.trans (Eq.symm (zc3.eq_1 n a0)) h
    (z0f h (fun b2 b1 h => (z0f h (fun b13 eb13 h => (z01 (.cut [] [0,1,5,15,16] [300200,200000]) 11 [r0,⟨[],[(0,.call [] [] (.map 0) [] [(.tmap (.int .u8) (.int .u8) ((ast (fun y => 13 == y) 13 114 (ast (fun y => 12 == y) 12 102 (ast (fun y => 10 == y) 10 110 (ast (fun y => 9 == y) 9 116 (ast (fun y => 8 == y) 8 98 (ast (fun y => 92 == y) 92 92 (ast (fun y => 34 == y) 34 34 ([] : List (Int × Int))))))))) : (List (Int × Int))))])],[],[],[]⟩,r0,r0] (And.intro (zgJ n  b2 b1) (And.intro (by decide : fits (1 * 1)) (zl0 n a0 (a0.length : Int) 0 [34] b13 eb13 goal (z0d h (fun b14 h => (z01 (.ret [] [1500200]) 2 [r0] (And.intro b14 (z0e (Φ := zcQ goal) h hq)) (by kernel_rfl))))))) (by kernel_rfl))))))
theorem zij (n : Nat) (a0 : Str) (r : (List Int)) (h : zc3 n a0 = some r) : zeU a0 r := zq9 a0 r (zql n a0 r h)
theorem zx7 (n : Nat) (a0 : Str) (r : (List Int)) (h : zc3 n a0 = some r) : PE.Spec A 215 [.nil,(.str a0)] [] (.lst (.int .u8) r 0) [] [] := zn6 a0 r (zij n a0 r h)
def zaT (goal : GoT) (r : (List Int)) : Prop := PtS A 215 1 [.code (sub B215 [1,1,1,1])] ⟨[(0,(.row 1))],[(0,.dead),(1,(.row (.int .u8) r 0))]⟩ goal
def zbv (n : Nat) : Prop := ∀ (p0 : Str) (p1 : Int) (p2 : Int) (p3 : (List Int)) (r : (List Int)),z1E n p0 p1 p2 p3 = some r → ∀ (goal : GoT),zaT goal r → PtS A 215 1 [.code (sub B215 [1,1,1,0,1,0,0]),.inLoop (sub B215 [1,1,1,0,1,0,0]),.inBlock 0,.code (sub B215 [1,1,1,1])] ⟨[(0,(.row 1)),(1,(.str p0)),(5,(.map 2)),(15,(.int .i64 p1)),(16,(.int .i64 p2))],[(0,.dead),(1,(.row (.int .u8) p3 0)),(2,(.tmap (.int .u8) (.int .u8) ((ast (fun y => 13 == y) 13 114 (ast (fun y => 12 == y) 12 102 (ast (fun y => 10 == y) 10 110 (ast (fun y => 9 == y) 9 116 (ast (fun y => 8 == y) 8 98 (ast (fun y => 92 == y) 92 92 (ast (fun y => 34 == y) 34 34 ([] : List (Int × Int))))))))) : (List (Int × Int)))))]⟩ goal
theorem zhm (n : Nat) : zbv n := by
  induction n with
  | zero => exact (fun p0 p1 p2 p3 r h => z1e (Eq.trans (Eq.symm (z1E.eq_1 p0 p1 p2 p3)) h))
  | succ n ih => exact (fun p0 p1 p2 p3 r h goal hq => have h := Eq.trans (Eq.symm (z1E.eq_2 _ _ _ _ _)) h
    (z0j h (fun b4 h => (z0d h (fun b5 h => (z0j h (fun b6 h => (z0d h (fun b7 h => (z01 (.cut [] [0,1,5,15,16] [0,1100300,2]) 22 [⟨[],[],[(0,true)],[],[]⟩,r0,r0,r0,⟨[],[],[(1,true)],[],[]⟩,r0,r0] (And.intro b4 (And.intro b5 (And.intro b6 (And.intro b7 (ih p0 p1 (z0a (p2 + 1)) (p3 ++ [92,((alk (fun y => (bt p0 p2) == y) (ast (fun y => 13 == y) 13 114 (ast (fun y => 12 == y) 12 102 (ast (fun y => 10 == y) 10 110 (ast (fun y => 9 == y) 9 116 (ast (fun y => 8 == y) 8 98 (ast (fun y => 92 == y) 92 92 (ast (fun y => 34 == y) 34 34 ([] : List (Int × Int)))))))))).getD 0)]) r h goal hq))))) (by kernel_rfl))))) (fun b6 h => (z0j h (fun b8 h => (z0d h (fun b9 h => (z0d h (fun b10 h => (z0d h (fun b11 h => (z01 (.cut [] [0,1,5,15,16] [0,1300800,2]) 25 [⟨[],[],[(0,true)],[],[]⟩,r0,r0,r0,⟨[],[],[(1,false)],[],[]⟩,⟨[],[],[(2,true)],[],[]⟩,r0,r0] (And.intro b4 (And.intro b5 (And.intro b6 (And.intro b8 (And.intro (by decide : nn 4) (And.intro b9 (And.intro b10 (And.intro b11 (ih p0 p1 (z0a (p2 + 1)) (p3 ++ [92,117,48,48,(bt ([48,49,50,51,52,53,54,55,56,57,97,98,99,100,101,102] : Str) (shr .u8 (bt p0 p2) 4)),(bt ([48,49,50,51,52,53,54,55,56,57,97,98,99,100,101,102] : Str) (iand .u8 (bt p0 p2) 15))]) r h goal hq))))))))) (by kernel_rfl))))))))) (fun b8 h => (z0d h (fun b12 h => (z01 (.cut [] [0,1,5,15,16] [0,900300,2]) 25 [⟨[],[],[(0,true)],[],[]⟩,r0,r0,r0,⟨[],[],[(1,false)],[],[]⟩,⟨[],[],[(2,false)],[],[]⟩,r0,r0] (And.intro b4 (And.intro b5 (And.intro b6 (And.intro b8 (And.intro b12 (ih p0 p1 (z0a (p2 + 1)) (p3 ++ [(bt p0 p2)]) r h goal hq)))))) (by kernel_rfl))))))))))) (fun b4 h => (z01 (.cut [] [0] [0,1]) 5 [⟨[],[],[(0,false)],[],[]⟩] (And.intro b4 (z0e (Φ := zaT goal) h hq)) (by kernel_rfl)))))
theorem zhO (n : Nat) : zbv n := (zhm n)
def z9h (goal : GoT) (r : (List Int)) : Prop := goal (.row 1) [.dead] [(.row (.int .u8) r 0)]
def zbd (a0 : Str) (a1 : (List Int)) (r : (List Int)) : Prop := PE.Spec A 215 [(.row 0),(.str a0)] [(.row (.int .u8) a1 0)] (.row 1) [.dead] [(.row (.int .u8) r 0)]
theorem zl4 (a0 : Str) (a1 : (List Int)) (r : (List Int)) (H : ∀ goal : GoT,z9h goal r → PtS A 215 1 [.code (sub B215 [])] ⟨[(0,(.row 0)),(1,(.str a0))],[(0,(.row (.int .u8) a1 0))]⟩ goal) : zbd a0 a1 r :=
  z0n z09 zxF (by kernel_rfl) (H _ ⟨rfl,rfl,rfl⟩)
theorem zj0 (a0 : Str) (a1 : (List Int)) (r : (List Int)) (H : zbd a0 a1 r) : PE.Spec A 215 [(.row 0),(.str a0)] [(.row (.int .u8) a1 0)] (.lst (.int .u8) r 0) [.dead] [] :=
  z5g (.list (.int .u8)) r (by kernel_rfl) H
theorem zlL (n : Nat) : ∀ (a0 : Str) (a1 : (List Int)) (r : (List Int)),z3w n a0 a1 = some r → ∀ (goal : GoT),z9h goal r → PtS A 215 1 [.code (sub B215 [])] ⟨[(0,(.row 0)),(1,(.str a0))],[(0,(.row (.int .u8) a1 0))]⟩ goal :=
  fun a0 a1 r h goal hq => have h := Eq.trans (Eq.symm (z3w.eq_1 n a0 a1)) h
    (z0f h (fun b2 b1 h => (z0d h (fun b3 h => (z0f h (fun b14 eb14 h => (z01 (.cut [] [0,1,5,15,16] [0,300200,200000]) 11 [r0,⟨[],[(0,.call [] [] (.map 0) [] [(.tmap (.int .u8) (.int .u8) ((ast (fun y => 13 == y) 13 114 (ast (fun y => 12 == y) 12 102 (ast (fun y => 10 == y) 10 110 (ast (fun y => 9 == y) 9 116 (ast (fun y => 8 == y) 8 98 (ast (fun y => 92 == y) 92 92 (ast (fun y => 34 == y) 34 34 ([] : List (Int × Int))))))))) : (List (Int × Int))))])],[],[],[]⟩,r0,r0] (And.intro (zgJ n  b2 b1) (And.intro b3 (zhO n a0 (a0.length : Int) 0 (a1 ++ [34]) b14 eb14 goal (z0d h (fun b15 h => (z01 (.ret [] [1500200]) 2 [r0] (And.intro b15 (z0e (Φ := z9h goal) h hq)) (by kernel_rfl))))))) (by kernel_rfl))))))))
theorem z7Y (n : Nat) (a0 : Str) (a1 : (List Int)) (r : (List Int)) (h : z3w n a0 a1 = some r) : zbd a0 a1 r := zl4 a0 a1 r (zlL n a0 a1 r h)
theorem zvK (n : Nat) (a0 : Str) (a1 : (List Int)) (r : (List Int)) (h : z3w n a0 a1 = some r) : PE.Spec A 215 [(.row 0),(.str a0)] [(.row (.int .u8) a1 0)] (.lst (.int .u8) r 0) [.dead] [] := zj0 a0 a1 r (z7Y n a0 a1 r h)
end Go.Proofs.YtifmnhcmmoacfaaGreatDoorQ
