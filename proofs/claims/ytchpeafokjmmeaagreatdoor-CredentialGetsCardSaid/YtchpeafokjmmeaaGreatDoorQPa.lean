/- primitive.begins: whichever order the map's entries come in, the answer is one. -/
import Derived.Test.YtchpeafokjmmeaaGreatDoorQTb
import Derived.Test.YtchpeafokjmmeaaGreatDoorQEf
import Derived.Test.YtchpeafokjmmeaaGreatDoorQLa
import Derived.Test.YtchpeafokjmmeaaGreatDoorQLb
import Derived.Test.YtchpeafokjmmeaaGreatDoorProg
set_option linter.unusedVariables false
set_option linter.unusedSectionVars false
set_option linter.unusedSimpArgs false
set_option maxRecDepth 100000
set_option maxHeartbeats 1000000
namespace Go.Proofs.YtchpeafokjmmeaaGreatDoorQ
open Go Go.PE
noncomputable abbrev A := Tryz.prog
theorem z05 : A.follows .mixedOrders = true := by kernel_rfl
noncomputable def B3 : Code := z0l Tryz.f3
theorem zDd : A.funcs[3]? = some Tryz.f3 := by kernel_rfl
noncomputable def B5 : Code := z0l Tryz.f5
theorem zE6 : A.funcs[5]? = some Tryz.f5 := by kernel_rfl
noncomputable def B6 : Code := z0l Tryz.f6
theorem zDZ : A.funcs[6]? = some Tryz.f6 := by kernel_rfl
noncomputable def B7 : Code := z0l Tryz.f7
theorem zE3 : A.funcs[7]? = some Tryz.f7 := by kernel_rfl
noncomputable def B8 : Code := z0l Tryz.f8
theorem zE5 : A.funcs[8]? = some Tryz.f8 := by kernel_rfl
noncomputable def B9 : Code := z0l Tryz.f9
theorem zDY : A.funcs[9]? = some Tryz.f9 := by kernel_rfl
noncomputable def B10 : Code := z0l Tryz.f10
theorem zDi : A.funcs[10]? = some Tryz.f10 := by kernel_rfl
noncomputable def B11 : Code := z0l Tryz.f11
theorem zD2 : A.funcs[11]? = some Tryz.f11 := by kernel_rfl
noncomputable def B12 : Code := z0l Tryz.f12
theorem zCX : A.funcs[12]? = some Tryz.f12 := by kernel_rfl
noncomputable def B16 : Code := z0l Tryz.f16
theorem zDe : A.funcs[16]? = some Tryz.f16 := by kernel_rfl
noncomputable def B19 : Code := z0l Tryz.f19
theorem zCt : A.funcs[19]? = some Tryz.f19 := by kernel_rfl
noncomputable def B20 : Code := z0l Tryz.f20
theorem zD0 : A.funcs[20]? = some Tryz.f20 := by kernel_rfl
noncomputable def B21 : Code := z0l Tryz.f21
theorem zCw : A.funcs[21]? = some Tryz.f21 := by kernel_rfl
noncomputable def B22 : Code := z0l Tryz.f22
theorem zD8 : A.funcs[22]? = some Tryz.f22 := by kernel_rfl
noncomputable def B23 : Code := z0l Tryz.f23
theorem zDb : A.funcs[23]? = some Tryz.f23 := by kernel_rfl
noncomputable def B24 : Code := z0l Tryz.f24
theorem zCT : A.funcs[24]? = some Tryz.f24 := by kernel_rfl
noncomputable def B25 : Code := z0l Tryz.f25
theorem zDq : A.funcs[25]? = some Tryz.f25 := by kernel_rfl
noncomputable def B26 : Code := z0l Tryz.f26
theorem zCq : A.funcs[26]? = some Tryz.f26 := by kernel_rfl
noncomputable def B27 : Code := z0l Tryz.f27
theorem zDG : A.funcs[27]? = some Tryz.f27 := by kernel_rfl
noncomputable def B28 : Code := z0l Tryz.f28
theorem zDs : A.funcs[28]? = some Tryz.f28 := by kernel_rfl
noncomputable def B29 : Code := z0l Tryz.f29
theorem zDC : A.funcs[29]? = some Tryz.f29 := by kernel_rfl
noncomputable def B30 : Code := z0l Tryz.f30
theorem zDN : A.funcs[30]? = some Tryz.f30 := by kernel_rfl
noncomputable def B31 : Code := z0l Tryz.f31
theorem zDf : A.funcs[31]? = some Tryz.f31 := by kernel_rfl
noncomputable def B32 : Code := z0l Tryz.f32
theorem zD4 : A.funcs[32]? = some Tryz.f32 := by kernel_rfl
noncomputable def B34 : Code := z0l Tryz.f34
theorem zCD : A.funcs[34]? = some Tryz.f34 := by kernel_rfl
noncomputable def B35 : Code := z0l Tryz.f35
theorem zDJ : A.funcs[35]? = some Tryz.f35 := by kernel_rfl
noncomputable def B38 : Code := z0l Tryz.f38
theorem zCA : A.funcs[38]? = some Tryz.f38 := by kernel_rfl
noncomputable def B40 : Code := z0l Tryz.f40
theorem zCP : A.funcs[40]? = some Tryz.f40 := by kernel_rfl
noncomputable def B41 : Code := z0l Tryz.f41
theorem zEc : A.funcs[41]? = some Tryz.f41 := by kernel_rfl
noncomputable def B42 : Code := z0l Tryz.f42
theorem zCE : A.funcs[42]? = some Tryz.f42 := by kernel_rfl
noncomputable def B43 : Code := z0l Tryz.f43
theorem zCv : A.funcs[43]? = some Tryz.f43 := by kernel_rfl
noncomputable def B44 : Code := z0l Tryz.f44
theorem zDo : A.funcs[44]? = some Tryz.f44 := by kernel_rfl
noncomputable def B45 : Code := z0l Tryz.f45
theorem zCR : A.funcs[45]? = some Tryz.f45 := by kernel_rfl
noncomputable def B46 : Code := z0l Tryz.f46
theorem zDl : A.funcs[46]? = some Tryz.f46 := by kernel_rfl
noncomputable def B47 : Code := z0l Tryz.f47
theorem zCL : A.funcs[47]? = some Tryz.f47 := by kernel_rfl
noncomputable def B48 : Code := z0l Tryz.f48
theorem zDM : A.funcs[48]? = some Tryz.f48 := by kernel_rfl
noncomputable def B49 : Code := z0l Tryz.f49
theorem zCG : A.funcs[49]? = some Tryz.f49 := by kernel_rfl
noncomputable def B50 : Code := z0l Tryz.f50
theorem zDg : A.funcs[50]? = some Tryz.f50 := by kernel_rfl
noncomputable def B51 : Code := z0l Tryz.f51
theorem zCx : A.funcs[51]? = some Tryz.f51 := by kernel_rfl
noncomputable def B52 : Code := z0l Tryz.f52
theorem zCI : A.funcs[52]? = some Tryz.f52 := by kernel_rfl
noncomputable def B53 : Code := z0l Tryz.f53
theorem zD1 : A.funcs[53]? = some Tryz.f53 := by kernel_rfl
noncomputable def B54 : Code := z0l Tryz.f54
theorem zDw : A.funcs[54]? = some Tryz.f54 := by kernel_rfl
noncomputable def B55 : Code := z0l Tryz.f55
theorem zDu : A.funcs[55]? = some Tryz.f55 := by kernel_rfl
noncomputable def B56 : Code := z0l Tryz.f56
theorem zDc : A.funcs[56]? = some Tryz.f56 := by kernel_rfl
noncomputable def B57 : Code := z0l Tryz.f57
theorem zAx : A.funcs[57]? = some Tryz.f57 := by kernel_rfl
noncomputable def B58 : Code := z0l Tryz.f58
theorem zAk : A.funcs[58]? = some Tryz.f58 := by kernel_rfl
noncomputable def B59 : Code := z0l Tryz.f59
theorem zAi : A.funcs[59]? = some Tryz.f59 := by kernel_rfl
noncomputable def B60 : Code := z0l Tryz.f60
theorem zAd : A.funcs[60]? = some Tryz.f60 := by kernel_rfl
noncomputable def B61 : Code := z0l Tryz.f61
theorem zDH : A.funcs[61]? = some Tryz.f61 := by kernel_rfl
noncomputable def B62 : Code := z0l Tryz.f62
theorem zDk : A.funcs[62]? = some Tryz.f62 := by kernel_rfl
noncomputable def B63 : Code := z0l Tryz.f63
theorem zDy : A.funcs[63]? = some Tryz.f63 := by kernel_rfl
noncomputable def B64 : Code := z0l Tryz.f64
theorem zDE : A.funcs[64]? = some Tryz.f64 := by kernel_rfl
noncomputable def B65 : Code := z0l Tryz.f65
theorem zAA : A.funcs[65]? = some Tryz.f65 := by kernel_rfl
noncomputable def B66 : Code := z0l Tryz.f66
theorem zCY : A.funcs[66]? = some Tryz.f66 := by kernel_rfl
noncomputable def B67 : Code := z0l Tryz.f67
theorem zD7 : A.funcs[67]? = some Tryz.f67 := by kernel_rfl
noncomputable def B68 : Code := z0l Tryz.f68
theorem zCV : A.funcs[68]? = some Tryz.f68 := by kernel_rfl
noncomputable def B69 : Code := z0l Tryz.f69
theorem zDL : A.funcs[69]? = some Tryz.f69 := by kernel_rfl
noncomputable def B70 : Code := z0l Tryz.f70
theorem zDj : A.funcs[70]? = some Tryz.f70 := by kernel_rfl
noncomputable def B71 : Code := z0l Tryz.f71
theorem zCN : A.funcs[71]? = some Tryz.f71 := by kernel_rfl
noncomputable def B72 : Code := z0l Tryz.f72
theorem zCJ : A.funcs[72]? = some Tryz.f72 := by kernel_rfl
noncomputable def B73 : Code := z0l Tryz.f73
theorem zDF : A.funcs[73]? = some Tryz.f73 := by kernel_rfl
noncomputable def B74 : Code := z0l Tryz.f74
theorem zCu : A.funcs[74]? = some Tryz.f74 := by kernel_rfl
noncomputable def B75 : Code := z0l Tryz.f75
theorem zCy : A.funcs[75]? = some Tryz.f75 := by kernel_rfl
noncomputable def B76 : Code := z0l Tryz.f76
theorem zDr : A.funcs[76]? = some Tryz.f76 := by kernel_rfl
noncomputable def B77 : Code := z0l Tryz.f77
theorem zCM : A.funcs[77]? = some Tryz.f77 := by kernel_rfl
noncomputable def B78 : Code := z0l Tryz.f78
theorem zCW : A.funcs[78]? = some Tryz.f78 := by kernel_rfl
noncomputable def B79 : Code := z0l Tryz.f79
theorem zCs : A.funcs[79]? = some Tryz.f79 := by kernel_rfl
noncomputable def B80 : Code := z0l Tryz.f80
theorem zDa : A.funcs[80]? = some Tryz.f80 := by kernel_rfl
noncomputable def B81 : Code := z0l Tryz.f81
theorem zEe : A.funcs[81]? = some Tryz.f81 := by kernel_rfl
noncomputable def B82 : Code := z0l Tryz.f82
theorem zEd : A.funcs[82]? = some Tryz.f82 := by kernel_rfl
noncomputable def B87 : Code := z0l Tryz.f87
theorem zDx : A.funcs[87]? = some Tryz.f87 := by kernel_rfl
noncomputable def B88 : Code := z0l Tryz.f88
theorem zD3 : A.funcs[88]? = some Tryz.f88 := by kernel_rfl
noncomputable def B89 : Code := z0l Tryz.f89
theorem zCO : A.funcs[89]? = some Tryz.f89 := by kernel_rfl
noncomputable def B90 : Code := z0l Tryz.f90
theorem zDO : A.funcs[90]? = some Tryz.f90 := by kernel_rfl
noncomputable def B91 : Code := z0l Tryz.f91
theorem zDh : A.funcs[91]? = some Tryz.f91 := by kernel_rfl
noncomputable def B92 : Code := z0l Tryz.f92
theorem zD6 : A.funcs[92]? = some Tryz.f92 := by kernel_rfl
noncomputable def B93 : Code := z0l Tryz.f93
theorem zCK : A.funcs[93]? = some Tryz.f93 := by kernel_rfl
noncomputable def B94 : Code := z0l Tryz.f94
theorem zDB : A.funcs[94]? = some Tryz.f94 := by kernel_rfl
noncomputable def B95 : Code := z0l Tryz.f95
theorem zD5 : A.funcs[95]? = some Tryz.f95 := by kernel_rfl
noncomputable def B96 : Code := z0l Tryz.f96
theorem zAz : A.funcs[96]? = some Tryz.f96 := by kernel_rfl
noncomputable def B97 : Code := z0l Tryz.f97
theorem zAj : A.funcs[97]? = some Tryz.f97 := by kernel_rfl
noncomputable def B98 : Code := z0l Tryz.f98
theorem zAs : A.funcs[98]? = some Tryz.f98 := by kernel_rfl
noncomputable def B99 : Code := z0l Tryz.f99
theorem zAn : A.funcs[99]? = some Tryz.f99 := by kernel_rfl
noncomputable def B100 : Code := z0l Tryz.f100
theorem zAT : A.funcs[100]? = some Tryz.f100 := by kernel_rfl
noncomputable def B101 : Code := z0l Tryz.f101
theorem zBu : A.funcs[101]? = some Tryz.f101 := by kernel_rfl
noncomputable def B102 : Code := z0l Tryz.f102
theorem zC0 : A.funcs[102]? = some Tryz.f102 := by kernel_rfl
noncomputable def B103 : Code := z0l Tryz.f103
theorem zAK : A.funcs[103]? = some Tryz.f103 := by kernel_rfl
noncomputable def B104 : Code := z0l Tryz.f104
theorem zBl : A.funcs[104]? = some Tryz.f104 := by kernel_rfl
noncomputable def B105 : Code := z0l Tryz.f105
theorem zAF : A.funcs[105]? = some Tryz.f105 := by kernel_rfl
noncomputable def B106 : Code := z0l Tryz.f106
theorem zCg : A.funcs[106]? = some Tryz.f106 := by kernel_rfl
noncomputable def B107 : Code := z0l Tryz.f107
theorem zBB : A.funcs[107]? = some Tryz.f107 := by kernel_rfl
noncomputable def B108 : Code := z0l Tryz.f108
theorem zCi : A.funcs[108]? = some Tryz.f108 := by kernel_rfl
noncomputable def B109 : Code := z0l Tryz.f109
theorem zC6 : A.funcs[109]? = some Tryz.f109 := by kernel_rfl
noncomputable def B110 : Code := z0l Tryz.f110
theorem zBM : A.funcs[110]? = some Tryz.f110 := by kernel_rfl
noncomputable def B111 : Code := z0l Tryz.f111
theorem zBA : A.funcs[111]? = some Tryz.f111 := by kernel_rfl
noncomputable def B112 : Code := z0l Tryz.f112
theorem zBH : A.funcs[112]? = some Tryz.f112 := by kernel_rfl
noncomputable def B113 : Code := z0l Tryz.f113
theorem zBv : A.funcs[113]? = some Tryz.f113 := by kernel_rfl
noncomputable def B114 : Code := z0l Tryz.f114
theorem zBe : A.funcs[114]? = some Tryz.f114 := by kernel_rfl
noncomputable def B115 : Code := z0l Tryz.f115
theorem zBm : A.funcs[115]? = some Tryz.f115 := by kernel_rfl
noncomputable def B116 : Code := z0l Tryz.f116
theorem zBJ : A.funcs[116]? = some Tryz.f116 := by kernel_rfl
noncomputable def B117 : Code := z0l Tryz.f117
theorem zAZ : A.funcs[117]? = some Tryz.f117 := by kernel_rfl
noncomputable def B118 : Code := z0l Tryz.f118
theorem zAW : A.funcs[118]? = some Tryz.f118 := by kernel_rfl
noncomputable def B125 : Code := z0l Tryz.f125
theorem zBb : A.funcs[125]? = some Tryz.f125 := by kernel_rfl
noncomputable def B126 : Code := z0l Tryz.f126
theorem zBW : A.funcs[126]? = some Tryz.f126 := by kernel_rfl
noncomputable def B127 : Code := z0l Tryz.f127
theorem zBI : A.funcs[127]? = some Tryz.f127 := by kernel_rfl
noncomputable def B128 : Code := z0l Tryz.f128
theorem zCa : A.funcs[128]? = some Tryz.f128 := by kernel_rfl
noncomputable def B129 : Code := z0l Tryz.f129
theorem zAV : A.funcs[129]? = some Tryz.f129 := by kernel_rfl
noncomputable def B130 : Code := z0l Tryz.f130
theorem zC8 : A.funcs[130]? = some Tryz.f130 := by kernel_rfl
noncomputable def B131 : Code := z0l Tryz.f131
theorem zAD : A.funcs[131]? = some Tryz.f131 := by kernel_rfl
noncomputable def B132 : Code := z0l Tryz.f132
theorem zCe : A.funcs[132]? = some Tryz.f132 := by kernel_rfl
noncomputable def B133 : Code := z0l Tryz.f133
theorem zyG : A.funcs[133]? = some Tryz.f133 := by kernel_rfl
noncomputable def B134 : Code := z0l Tryz.f134
theorem zyK : A.funcs[134]? = some Tryz.f134 := by kernel_rfl
noncomputable def B135 : Code := z0l Tryz.f135
theorem zBp : A.funcs[135]? = some Tryz.f135 := by kernel_rfl
noncomputable def B136 : Code := z0l Tryz.f136
theorem zCj : A.funcs[136]? = some Tryz.f136 := by kernel_rfl
noncomputable def B137 : Code := z0l Tryz.f137
theorem zAC : A.funcs[137]? = some Tryz.f137 := by kernel_rfl
noncomputable def B138 : Code := z0l Tryz.f138
theorem zB7 : A.funcs[138]? = some Tryz.f138 := by kernel_rfl
noncomputable def B142 : Code := z0l Tryz.f142
theorem zBO : A.funcs[142]? = some Tryz.f142 := by kernel_rfl
noncomputable def B143 : Code := z0l Tryz.f143
theorem zBd : A.funcs[143]? = some Tryz.f143 := by kernel_rfl
noncomputable def B144 : Code := z0l Tryz.f144
theorem zBg : A.funcs[144]? = some Tryz.f144 := by kernel_rfl
noncomputable def B145 : Code := z0l Tryz.f145
theorem zCd : A.funcs[145]? = some Tryz.f145 := by kernel_rfl
noncomputable def B146 : Code := z0l Tryz.f146
theorem zCc : A.funcs[146]? = some Tryz.f146 := by kernel_rfl
noncomputable def B147 : Code := z0l Tryz.f147
theorem zBz : A.funcs[147]? = some Tryz.f147 := by kernel_rfl
noncomputable def B148 : Code := z0l Tryz.f148
theorem zC2 : A.funcs[148]? = some Tryz.f148 := by kernel_rfl
noncomputable def B149 : Code := z0l Tryz.f149
theorem zAN : A.funcs[149]? = some Tryz.f149 := by kernel_rfl
noncomputable def B150 : Code := z0l Tryz.f150
theorem zBt : A.funcs[150]? = some Tryz.f150 := by kernel_rfl
noncomputable def B151 : Code := z0l Tryz.f151
theorem zC1 : A.funcs[151]? = some Tryz.f151 := by kernel_rfl
noncomputable def B152 : Code := z0l Tryz.f152
theorem zBV : A.funcs[152]? = some Tryz.f152 := by kernel_rfl
noncomputable def B153 : Code := z0l Tryz.f153
theorem zB2 : A.funcs[153]? = some Tryz.f153 := by kernel_rfl
noncomputable def B154 : Code := z0l Tryz.f154
theorem zCb : A.funcs[154]? = some Tryz.f154 := by kernel_rfl
noncomputable def B155 : Code := z0l Tryz.f155
theorem zBn : A.funcs[155]? = some Tryz.f155 := by kernel_rfl
noncomputable def B156 : Code := z0l Tryz.f156
theorem zBT : A.funcs[156]? = some Tryz.f156 := by kernel_rfl
noncomputable def B167 : Code := z0l Tryz.f167
theorem zB0 : A.funcs[167]? = some Tryz.f167 := by kernel_rfl
noncomputable def B168 : Code := z0l Tryz.f168
theorem zBx : A.funcs[168]? = some Tryz.f168 := by kernel_rfl
noncomputable def B169 : Code := z0l Tryz.f169
theorem zAP : A.funcs[169]? = some Tryz.f169 := by kernel_rfl
noncomputable def B170 : Code := z0l Tryz.f170
theorem zAU : A.funcs[170]? = some Tryz.f170 := by kernel_rfl
noncomputable def B171 : Code := z0l Tryz.f171
theorem zB9 : A.funcs[171]? = some Tryz.f171 := by kernel_rfl
noncomputable def B172 : Code := z0l Tryz.f172
theorem zAH : A.funcs[172]? = some Tryz.f172 := by kernel_rfl
noncomputable def B173 : Code := z0l Tryz.f173
theorem zAS : A.funcs[173]? = some Tryz.f173 := by kernel_rfl
noncomputable def B175 : Code := z0l Tryz.f175
theorem zBr : A.funcs[175]? = some Tryz.f175 := by kernel_rfl
noncomputable def B179 : Code := z0l Tryz.f179
theorem zBX : A.funcs[179]? = some Tryz.f179 := by kernel_rfl
noncomputable def B180 : Code := z0l Tryz.f180
theorem zBU : A.funcs[180]? = some Tryz.f180 := by kernel_rfl
noncomputable def B181 : Code := z0l Tryz.f181
theorem zBC : A.funcs[181]? = some Tryz.f181 := by kernel_rfl
noncomputable def B182 : Code := z0l Tryz.f182
theorem zBa : A.funcs[182]? = some Tryz.f182 := by kernel_rfl
noncomputable def B183 : Code := z0l Tryz.f183
theorem zCk : A.funcs[183]? = some Tryz.f183 := by kernel_rfl
noncomputable def B184 : Code := z0l Tryz.f184
theorem zB1 : A.funcs[184]? = some Tryz.f184 := by kernel_rfl
noncomputable def B185 : Code := z0l Tryz.f185
theorem ztN : A.funcs[185]? = some Tryz.f185 := by kernel_rfl
noncomputable def B186 : Code := z0l Tryz.f186
theorem zBZ : A.funcs[186]? = some Tryz.f186 := by kernel_rfl
noncomputable def B187 : Code := z0l Tryz.f187
theorem zB6 : A.funcs[187]? = some Tryz.f187 := by kernel_rfl
noncomputable def B188 : Code := z0l Tryz.f188
theorem zB3 : A.funcs[188]? = some Tryz.f188 := by kernel_rfl
noncomputable def B203 : Code := z0l Tryz.f203
theorem zAE : A.funcs[203]? = some Tryz.f203 := by kernel_rfl
noncomputable def B204 : Code := z0l Tryz.f204
theorem zBs : A.funcs[204]? = some Tryz.f204 := by kernel_rfl
noncomputable def B205 : Code := z0l Tryz.f205
theorem zBP : A.funcs[205]? = some Tryz.f205 := by kernel_rfl
noncomputable def B206 : Code := z0l Tryz.f206
theorem zC7 : A.funcs[206]? = some Tryz.f206 := by kernel_rfl
noncomputable def B213 : Code := z0l Tryz.f213
theorem zBj : A.funcs[213]? = some Tryz.f213 := by kernel_rfl
noncomputable def B216 : Code := z0l Tryz.f216
theorem zB4 : A.funcs[216]? = some Tryz.f216 := by kernel_rfl
noncomputable def B217 : Code := z0l Tryz.f217
theorem zC4 : A.funcs[217]? = some Tryz.f217 := by kernel_rfl
noncomputable def B218 : Code := z0l Tryz.f218
theorem zE1 : A.funcs[218]? = some Tryz.f218 := by kernel_rfl
noncomputable def B219 : Code := z0l Tryz.f219
theorem zE9 : A.funcs[219]? = some Tryz.f219 := by kernel_rfl
noncomputable def B220 : Code := z0l Tryz.f220
theorem zBw : A.funcs[220]? = some Tryz.f220 := by kernel_rfl
noncomputable def B221 : Code := z0l Tryz.f221
theorem zC9 : A.funcs[221]? = some Tryz.f221 := by kernel_rfl
noncomputable def B251 : Code := z0l Tryz.f251
theorem zB5 : A.funcs[251]? = some Tryz.f251 := by kernel_rfl
noncomputable def B285 : Code := z0l Tryz.f285
theorem zAI : A.funcs[285]? = some Tryz.f285 := by kernel_rfl
noncomputable def B295 : Code := z0l Tryz.f295
theorem zAQ : A.funcs[295]? = some Tryz.f295 := by kernel_rfl
theorem ai {a b : Prop} (x : a) (y : b) : a ∧ b := ⟨x,y⟩
def _root_.Go.PE.V.ii (n : Int) : V := .int .i64  n
abbrev GoT : Type := V → List  C → List  C → Prop
def r0 : RD := ⟨[],[],[],[],  []⟩
variable [PE.Ground] [Tables]
theorem z4Q : ∀ (a0 : Str) (a1 : Int) (r : Str),strings_Repeat a0 a1 = some r → PE.Spec A 137 [(.str a0),(.ii a1)] [] (.str r) [] [] :=
  fun a0 a1 r h => z0a h (fun hc h => by
    injection h with h
    subst h
    exact zx1 a0 a1 hc.1 hc.2.1 hc.2.2 zAC)
theorem z4u : ∀ (a0 : z03) (r : Bool),z8r a0 = some r → PE.Spec A 81 [(vu0 a0)] [] (.bool r) [] [] := fun _ r h => z14 h
theorem zc7 : ∀ (a0 : z03) (r : Bool),zaR a0 = some r → PE.Spec A 82 [(vu0 a0)] [] (.bool r) [] [] := fun _ r h => z14 h
theorem zbI : ∀ (a0 : z03) (r : (z00 × Str × Int)),zei a0 = some r → PE.Spec A 41 [(vu0 a0)] [] (.tuple [(vu2 r.1),(.str r.2.1),(.ii r.2.2)]) [] [] := fun _ r h => z14 h
theorem z3Y : ∀ (a0 : (List Str)) (r : (List Str)),z19 a0 = some r → PE.Spec A 57 [(.lst .str a0 0)] [] (.row 0) [] [(.row .str r 0)] :=
  fun a0 r h => z0a h (fun hf h => by
    injection h with h
    subst h
    exact zfB (by kernel_rfl) (fun e => by subst e; exact z0m z05 zAx (by kernel_rfl) (z01 (.ret [.nilRow 2 .str 7] [7]) 8 [r0,r0,r0] (ai (Eq.refl (.row 0 : V)) (ai (Eq.refl ([] : List C)) (Eq.refl ([.row .str ([] : List (El .str)) 0] : List C)))) (by kernel_rfl)))
      (z0m z05 zAx (by kernel_rfl) (z01 (.ret [] [400200]) 9 [r0,r0,r0] (ai hf (ai (Eq.refl (.row 0 : V)) (ai (Eq.refl ([] : List C)) (Eq.refl ([.row .str a0 0] : List C))))) (by kernel_rfl))))
theorem z5e : ∀ (a0 : (List z00)) (r : (List z00)),z1x a0 = some r → PE.Spec A 99 [(.lst (.user 2) a0 0)] [] (.row 0) [] [(.row (.user 2) r 0)] :=
  fun a0 r h => z0a h (fun hf h => by
    injection h with h
    subst h
    exact zfB (by kernel_rfl) (fun e => by subst e; exact z0m z05 zAn (by kernel_rfl) (z01 (.ret [.nilRow 2 (.user 2) 7] [7]) 8 [r0,r0,r0] (ai (Eq.refl (.row 0 : V)) (ai (Eq.refl ([] : List C)) (Eq.refl ([.row (.user 2) ([] : List (El (.user 2))) 0] : List C)))) (by kernel_rfl)))
      (z0m z05 zAn (by kernel_rfl) (z01 (.ret [] [400200]) 9 [r0,r0,r0] (ai hf (ai (Eq.refl (.row 0 : V)) (ai (Eq.refl ([] : List C)) (Eq.refl ([.row (.user 2) a0 0] : List C))))) (by kernel_rfl))))
theorem zf3 : ∀ (a0 : (List Int)) (r : (List Int)),z7Q a0 = some r → PE.Spec A 58 [(.lst (.int .i64) a0 0)] [] (.row 0) [] [(.row (.int .i64) r 0)] :=
  fun a0 r h => z0a h (fun hf h => by
    injection h with h
    subst h
    exact zfB (by kernel_rfl) (fun e => by subst e; exact z0m z05 zAk (by kernel_rfl) (z01 (.ret [.nilRow 2 (.int .i64) 7] [7]) 8 [r0,r0,r0] (ai (Eq.refl (.row 0 : V)) (ai (Eq.refl ([] : List C)) (Eq.refl ([.row (.int .i64) ([] : List (El (.int .i64))) 0] : List C)))) (by kernel_rfl)))
      (z0m z05 zAk (by kernel_rfl) (z01 (.ret [] [400200]) 9 [r0,r0,r0] (ai hf (ai (Eq.refl (.row 0 : V)) (ai (Eq.refl ([] : List C)) (Eq.refl ([.row (.int .i64) a0 0] : List C))))) (by kernel_rfl))))
theorem z6q : ∀ (a0 : (List z02)) (r : (List z02)),z1Y a0 = some r → PE.Spec A 59 [(.lst (.user 1) a0 0)] [] (.row 0) [] [(.row (.user 1) r 0)] :=
  fun a0 r h => z0a h (fun hf h => by
    injection h with h
    subst h
    exact zfB (by kernel_rfl) (fun e => by subst e; exact z0m z05 zAi (by kernel_rfl) (z01 (.ret [.nilRow 2 (.user 1) 7] [7]) 8 [r0,r0,r0] (ai (Eq.refl (.row 0 : V)) (ai (Eq.refl ([] : List C)) (Eq.refl ([.row (.user 1) ([] : List (El (.user 1))) 0] : List C)))) (by kernel_rfl)))
      (z0m z05 zAi (by kernel_rfl) (z01 (.ret [] [400200]) 9 [r0,r0,r0] (ai hf (ai (Eq.refl (.row 0 : V)) (ai (Eq.refl ([] : List C)) (Eq.refl ([.row (.user 1) a0 0] : List C))))) (by kernel_rfl))))
theorem z9C : ∀ (a0 : (List z06)) (r : (List z06)),z3H a0 = some r → PE.Spec A 60 [(.lst (.user 3) a0 0)] [] (.row 0) [] [(.row (.user 3) r 0)] :=
  fun a0 r h => z0a h (fun hf h => by
    injection h with h
    subst h
    exact zfB (by kernel_rfl) (fun e => by subst e; exact z0m z05 zAd (by kernel_rfl) (z01 (.ret [.nilRow 2 (.user 3) 7] [7]) 8 [r0,r0,r0] (ai (Eq.refl (.row 0 : V)) (ai (Eq.refl ([] : List C)) (Eq.refl ([.row (.user 3) ([] : List (El (.user 3))) 0] : List C)))) (by kernel_rfl)))
      (z0m z05 zAd (by kernel_rfl) (z01 (.ret [] [400200]) 9 [r0,r0,r0] (ai hf (ai (Eq.refl (.row 0 : V)) (ai (Eq.refl ([] : List C)) (Eq.refl ([.row (.user 3) a0 0] : List C))))) (by kernel_rfl))))
theorem z2H : ∀ (a0 : Int) (a1 : Int) (a2 : (List Int)) (r : (List Int)),z18 a0 a1 a2 = some r → PE.Spec A 173 [(.row 0),(.int .u64 a0),(.ii a1)] [(.row (.int .u8) a2 0)] (.row 1) [.dead] [(.row (.int .u8) r 0)] :=
  fun a0 a1 a2 r h => z0a h (fun hc h => by
    injection h with h
    subst h
    obtain ⟨rfl,h0,h1,h2⟩ := hc; obtain ⟨u,rfl⟩ := Int.eq_ofNat_of_zero_le h0; exact zqr a2 u (by omega) h2 zAS)
theorem zne : ∀ (a0 : Int) (a1 : Int) (a2 : (List Int)) (r : (List Int)),z18 a0 a1 a2 = some r → PE.Spec A 173 [(.row 0),(.int .u64 a0),(.ii a1)] [(.row (.int .u8) a2 0)] (.lst (.int .u8) r 0) [.dead] [] := fun a0 a1 a2 r h => z6S (.list (.int .u8)) r (by kernel_rfl) (z2H a0 a1 a2 r h)
theorem za7 : ∀ (a0 : Int) (a1 : Int) (r : (List Int)),z3X a0 a1 = some r → PE.Spec A 173 [.nil,(.int .u64 a0),(.ii a1)] [] (.row 0) [] [(.row (.int .u8) r 0)] := fun _ _ r h => z14 h
theorem zkK : ∀ (a0 : Int) (a1 : Int) (r : (List Int)),z3X a0 a1 = some r → PE.Spec A 173 [.nil,(.int .u64 a0),(.ii a1)] [] (.lst (.int .u8) r 0) [] [] := fun _ _ r h => z14 h
theorem zw1 : ∀ (a0 : Str) (a1 : Int) (r : Str),zqS a0 a1 = some r → PE.Spec A 104 [(.str a0),(.ii a1)] [] (.str r) [] [] :=
  fun a0 a1 r h => z0a h (fun hc h => by
    injection h with h
    subst h
    exact zzi a0 a1 hc zBl)
theorem zft : ∀ (a0 : Int) (r : Str),internal_strconv_Itoa a0 = some r → PE.Spec A 205 [(.ii a0)] [] (.str r) [] [] :=
  fun a0 r h => z0a h (fun hc h => by
    injection h with h
    subst h
    exact zyD a0 hc.1 hc.2 zBP)
theorem zq9 : ∀ (a0 : z00) (r : (Str × Int)),zoa a0 = some r → PE.Spec A 218 [(vu2 a0)] [] (.tuple [(.str r.1),(.ii r.2)]) [] [] := fun _ r h => z14 h
theorem zr2 : ∀ (a0 : z00) (r : (Str × Int)),zoe a0 = some r → PE.Spec A 219 [(vu2 a0)] [] (.tuple [(.str r.1),(.ii r.2)]) [] [] := fun _ r h => z14 h
def z96 (goal : GoT) (r : Unit) : Prop := goal (.map 0) [] [(.tmap (.int .i64) (.user 4) ((ast (fun y => 8 == y) 8 (⟨([49,65,65,76] : Str),6⟩ : z04) (ast (fun y => 7 == y) 7 (⟨([83] : Str),626⟩ : z04) (ast (fun y => 6 == y) 6 (⟨([77] : Str),2⟩ : z04) (ast (fun y => 5 == y) 5 (⟨([48,65] : Str),16⟩ : z04) (ast (fun y => 4 == y) 4 (⟨([65] : Str),32⟩ : z04) (ast (fun y => 3 == y) 3 (⟨([66] : Str),32⟩ : z04) (ast (fun y => 2 == y) 2 (⟨([68] : Str),32⟩ : z04) (ast (fun y => 1 == y) 1 (⟨([69] : Str),32⟩ : z04) ([] : List (Int × z04)))))))))) : (List (Int × z04))))]
def zfL (r : Unit) : Prop := PE.Spec A 95 [] [] (.map 0) [] [(.tmap (.int .i64) (.user 4) ((ast (fun y => 8 == y) 8 (⟨([49,65,65,76] : Str),6⟩ : z04) (ast (fun y => 7 == y) 7 (⟨([83] : Str),626⟩ : z04) (ast (fun y => 6 == y) 6 (⟨([77] : Str),2⟩ : z04) (ast (fun y => 5 == y) 5 (⟨([48,65] : Str),16⟩ : z04) (ast (fun y => 4 == y) 4 (⟨([65] : Str),32⟩ : z04) (ast (fun y => 3 == y) 3 (⟨([66] : Str),32⟩ : z04) (ast (fun y => 2 == y) 2 (⟨([68] : Str),32⟩ : z04) (ast (fun y => 1 == y) 1 (⟨([69] : Str),32⟩ : z04) ([] : List (Int × z04)))))))))) : (List (Int × z04))))]
theorem zme (r : Unit) (H : ∀ goal : GoT,z96 goal r → PtS A 95 0 [.code (sub B95 [])] ⟨[],[]⟩ goal) : zfL r :=
  z0m z05 zD5 (by kernel_rfl) (H _ ⟨rfl,rfl,rfl⟩)
theorem zma (n : Nat) : ∀ (r : Unit),z5a n = some r → ∀ (goal : GoT),z96 goal r → PtS A 95 0 [.code (sub B95 [])] ⟨[],[]⟩ goal :=
  fun r h goal hq => have h := Eq.trans (Eq.symm (z5a.eq_1 n)) h
    (z01 (.ret [] [200000]) 4 [r0,r0] (z0b (Φ := z96 goal) h hq) (by kernel_rfl))
theorem z5F (n : Nat) (r : Unit) (h : z5a n = some r) : zfL r := zme  r (zma n  r h)
def z1O (goal : GoT) (r : Bool) : Prop := goal (.bool r) [] []
def z6a (a0 : Str) (a1 : Str) (r : Bool) : Prop := PE.Spec A 213 [(.str a0),(.str a1)] [] (.bool r) [] []
theorem z9J (a0 : Str) (a1 : Str) (r : Bool) (H : ∀ goal : GoT,z1O goal r → PtS A 213 0 [.code (sub B213 [])] ⟨[(0,(.str a0)),(1,(.str a1))],[]⟩ goal) : z6a a0 a1 r :=
  z0m z05 zBj (by kernel_rfl) (H _ ⟨rfl,rfl,rfl⟩)
theorem z9S (n : Nat) : ∀ (a0 : Str) (a1 : Str) (r : Bool),z1b n a0 a1 = some r → ∀ (goal : GoT),z1O goal r → PtS A 213 0 [.code (sub B213 [])] ⟨[(0,(.str a0)),(1,(.str a1))],[]⟩ goal :=
  fun a0 a1 r h goal hq => have h := Eq.trans (Eq.symm (z1b.eq_1 n a0 a1)) h
    (z0h h (fun b1 h => (z0a h (fun b2 h => (z01 (.ret [] []) 4 [r0,⟨[],[],[(5,true)],[],[]⟩] (ai b1 (ai b2 (z0b (Φ := z1O goal) h hq))) (by kernel_rfl))))) (fun b1 h => (z01 (.ret [] []) 4 [r0,⟨[],[],[(5,false)],[],[]⟩] (ai b1 (z0b (Φ := z1O goal) h hq)) (by kernel_rfl))))
theorem z3o (n : Nat) (a0 : Str) (a1 : Str) (r : Bool) (h : z1b n a0 a1 = some r) : z6a a0 a1 r := z9J a0 a1 r (z9S n a0 a1 r h)
def z7M (goal : GoT) (r : Bool) : Prop := goal (.bool r) [] []
def zdD (a0 : Str) (a1 : Str) (r : Bool) : Prop := PE.Spec A 175 [(.str a0),(.str a1)] [] (.bool r) [] []
theorem zjl (a0 : Str) (a1 : Str) (r : Bool) (H : ∀ goal : GoT,z7M goal r → PtS A 175 0 [.code (sub B175 [])] ⟨[(0,(.str a0)),(1,(.str a1))],[]⟩ goal) : zdD a0 a1 r :=
  z0m z05 zBr (by kernel_rfl) (H _ ⟨rfl,rfl,rfl⟩)
theorem zje (n : Nat) : ∀ (a0 : Str) (a1 : Str) (r : Bool),strings_HasPrefix n a0 a1 = some r → ∀ (goal : GoT),z7M goal r → PtS A 175 0 [.code (sub B175 [])] ⟨[(0,(.str a0)),(1,(.str a1))],[]⟩ goal :=
  fun a0 a1 r h goal hq => have h := Eq.trans (Eq.symm (strings_HasPrefix.eq_1 n a0 a1)) h
    (z0c h (fun b2 b1 h => (z01 (.ret [] []) 4 [r0,⟨[],[(2,.call [] [some .str,some .str] (.bool b2) [] [])],[],[],[]⟩] (ai (z3o n a0 a1 b2 b1) (z0b (Φ := z7M goal) h hq)) (by kernel_rfl))))
theorem zcb (n : Nat) (a0 : Str) (a1 : Str) (r : Bool) (h : strings_HasPrefix n a0 a1 = some r) : zdD a0 a1 r := zjl a0 a1 r (zje n a0 a1 r h)
end Go.Proofs.YtchpeafokjmmeaaGreatDoorQ
set_option maxRecDepth 100000
namespace Go.Proofs.YtchpeafokjmmeaaGreatDoorQ
open Go Go.PE
theorem hasPrefix (n : Nat) (s c : Str) : strings_HasPrefix n s c = some (c.isPrefixOf s) := by
  unfold strings_HasPrefix z1b
  by_cases h : c.length ≤ s.length
  · have h1 : decide ((s.length : Int) ≥ (c.length : Int)) = true := by simpa using h
    have h2 : cLo (c.length : Int) s.length := ⟨by omega,by omega⟩
    rw [if_pos h1,if_pos h2,Int.toNat_natCast]
    show some (List.take c.length s == c) = some (c.isPrefixOf s)
    congr 1
    rw [Bool.eq_iff_iff,List.isPrefixOf_iff_prefix,List.prefix_iff_eq_take]
    simp only [beq_iff_eq]
    exact ⟨fun q => q.symm,fun q => q.symm⟩
  · have h1 : decide ((s.length : Int) ≥ (c.length : Int)) = false := by simpa using h
    rw [if_neg (by rw [h1]; simp)]
    show some false = some (c.isPrefixOf s)
    congr 1
    cases hp : c.isPrefixOf s with
    | false => rfl
    | true => exact absurd (List.isPrefixOf_iff_prefix.1 hp).length_le h
theorem zyE : ∀ p ∈ z1B,∀ q ∈ z1B,p.1 = q.1 → p = q := by
  intro p hp q hq e
  simp only [z1B,List.mem_cons,List.mem_nil_iff,or_false] at hp hq
  rcases hp with rfl | rfl | rfl | rfl | rfl | rfl | rfl | rfl <;> rcases hq with rfl | rfl | rfl | rfl | rfl | rfl | rfl | rfl <;> first
    | rfl
    | (simp at e)
theorem zwg {text : Str} (h : ∀ p ∈ z1B,p.2.z3L.isPrefixOf text = false) : z2r text = some (0,⟨[],0⟩,false) := by
  have : z1B.find? (fun p => p.2.z3L.isPrefixOf text) = none := by
    rw [List.find?_eq_none]
    intro p hp
    rw [h p hp]; simp
  simp only [z2r,this]
theorem zxJ {text : Str} {p : Int × z04} (hp : p ∈ z1B) (h : p.2.z3L.isPrefixOf text = true) : z2r text = some (p.1,p.2,true) := by
  simp only [z1B,List.mem_cons,List.mem_nil_iff,or_false] at hp
  cases text with
  | nil => rcases hp with rfl | rfl | rfl | rfl | rfl | rfl | rfl | rfl <;> simp at h
  | cons x t =>
    rcases hp with rfl | rfl | rfl | rfl | rfl | rfl | rfl | rfl <;> (simp [List.isPrefixOf] at h) <;> first
      | (subst h; simp [z2r,z1B,List.find?,List.isPrefixOf])
      | (obtain ⟨rfl,h⟩ := h; have h' := List.isPrefixOf_iff_prefix.2 h; simp [z2r,z1B,List.find?,List.isPrefixOf,h'])
variable [PE.Ground] [Tables]
noncomputable abbrev kA : List Item := [.code (sub B185 [1,0,0]),.code (sub B185 [1,0,1]),.code (sub B185 [1,1])]
noncomputable abbrev kL : List Item := [.code (sub B185 [1,0,1,0,0]),.inLoop (sub B185 [1,0,1,0,0]),.inBlock 0,.code (sub B185 [1,1])]
noncomputable abbrev kM : List Item := [.code (sub B185 [1,0,1,0,0,1]),.inLoop (sub B185 [1,0,1,0,0]),.inBlock 0,.code (sub B185 [1,1])]
noncomputable abbrev kE : List Item := [.code (sub B185 [1,0,1,0,0,1,1,0,0]),.code (sub B185 [1,0,1,0,0,1,1,0,1]),.inBlock 1,.inLoop (sub B185 [1,0,1,0,0]),.inBlock 0,.code (sub B185 [1,1])]
noncomputable abbrev kO : List Item := [.code (sub B185 [1,0,1,0,0,1,1,0,1]),.inBlock 1,.inLoop (sub B185 [1,0,1,0,0]),.inBlock 0,.code (sub B185 [1,1])]
def stA (text : Str) : St := ⟨[(0,.str text),(3,.ptr 0 0)],[(0,.box [.str [],.int .i64 0])]⟩
def stL (text : Str) (bm c : Nat) (seen : Array Nat) : St := ⟨[(0,.str text),(3,.ptr 0 0),(8,.ptr 1 0)],[(0,.box [.str [],.int .i64 0]),(1,.miter bm c seen c)]⟩
def zz5 (text : Str) (bm c : Nat) (seen : Array Nat) : St := ⟨(10,.bool false) :: (9,.tuple [.bool false]) :: (stL text bm c seen).tm,(stL text bm c seen).hp⟩
def stE (text : Str) (bm c : Nat) (seen : Array Nat) : St := ⟨(10,.bool true) :: (9,.tuple [.bool true,.undef,.undef]) :: (stL text bm c seen).tm,(stL text bm c seen).hp⟩
def stR (text : Str) (bm c : Nat) (seen : Array Nat) (p : Int × z04) : St := ⟨(11,.tuple [.int .i64 p.1,.agg [.str p.2.z3L,.int .i64 p.2.zdI]]) :: (stL text bm c seen).tm,(stL text bm c seen).hp⟩
def stO (text : Str) (bm c : Nat) (seen : Array Nat) (p : Int × z04) : St :=
  ⟨(5,.int .i64 p.1) :: (6,.ptr 400300 0) :: (13,.agg [.str p.2.z3L,.int .i64 p.2.zdI]) :: (12,.int .i64 p.1) :: (stR text bm c seen p).tm,(400300,.box [.str p.2.z3L,.int .i64 p.2.zdI]) :: (400300,.box [.str [],.int .i64 0]) :: (stR text bm c seen p).hp⟩
def rV (r : Int × z04 × Bool) : V := .tuple [(.int .i64 r.1),(.agg [(.str r.2.1.z3L),(.int .i64 r.2.1.zdI)]),(.bool r.2.2)]
def won (r : Int × z04 × Bool) : V → List C → List C → Prop := fun v o n => v = rV r ∧ o = [] ∧ n = []
noncomputable abbrev ops1 : Array Oper := zAJ (sub B185 [1,0,0])
noncomputable abbrev ops2 : Array Oper := zAJ (sub B185 [1,0,1,0,0,0])
noncomputable abbrev ops3 : Array Oper := zAJ (sub B185 [1,0,1,0,0,1,1,0,0])
noncomputable abbrev opN (ops : Array Oper) (i : Nat) : Oper := (ops[i]?).getD default
structure zza (cx : Cx) (text : Str) (bm c : Nat) (ens : Array MapEntry) (seen : Array Nat) : Prop where
  lt : bm < cx.w0.heap.size
  map : cx.w0.heap[bm]? = some (.map ens c)
  own : ¬ cx.hid bm
  nd : (ens.toList.map (·.born)).Nodup
  born : ∀ e ∈ ens.toList,e.born < c
  rep : ziY cx.I0 (fun _ => none) (.int .i64) (.user 4) z1B ens.toList
  no : ∀ e ∈ ens.toList,seen.contains e.born = true → ∀ p ∈ z1B,e.key = .int .i64 p.1 → p.2.z3L.isPrefixOf text = false
theorem zx3 {cx : Cx} {I : Facts} {s : Hand} {w : World} {text : Str} {bm c : Nat} {seen : Array Nat} (h : WInv cx I s (get (stL text bm c seen).hp) w) : ∃ b,s 1 = some (.pointer (some ⟨b,0,none⟩)) ∧ w.heap[b]? = some (.mapIter (some bm) c seen c) := by
  have := h.cont 1 (.miter bm c seen c) rfl
  simpa only [repC] using this
theorem zyQ {cx : Cx} {I : Facts} {s : Hand} {w : World} {nt : Nat} {st : St} {a : Act} {d : Nat} {x : V} {v : Value} (h : WInv cx I s (get st.hp) w) (hs : ∀ t,z1M I s st.tm a.tmps t) (hn : nt ≤ a.tmps.size) (hd : d < nt) (hdf : a.defers = []) (hx : repV I s x v) :
    At cx I s nt ⟨(d,x) :: st.tm,st.hp⟩ (a.put (some d) v) w := by
  refine ⟨⟨I,s,Facts.le_refl _,Hand.le_refl _,h,fun t => ?_⟩,by rw [zlt]; exact hn,by rw [put_defers]; exact hdf⟩
  unfold z1M
  rw [zq7 a (d := some d) (by simpa [zuq,Nat.blt_eq] using hd) hn,zmf]
  by_cases e : d = t
  · subst e; simpa using hx
  · rw [if_neg e,if_neg (fun q => e (Option.some.inj q))]; exact hs t
theorem round (text : Str) (r : Int × z04 × Bool) (hr : z2r text = some r) {cx : Cx} {bm c : Nat} {ens : Array MapEntry} {seen : Array Nat} (hk : zza cx text bm c ens seen) {e : MapEntry} (he : e ∈ (leftOf ens seen).toList)
    (ih : zza cx text bm c ens (seen.push e.born) → PtC cx A 185 0 kL (stL text bm c (seen.push e.born)) (won r)) : PtC cx A 185 0 kE (stL text bm c (seen.push e.born)) (won r) := by
  intro hm fn hfn I s a w hG hw hs hsz hdf b cs k' hlk hb hbk
  obtain rfl : k' = kE := hlk.resolve_right (by rintro ⟨q,_⟩; have := congrArg List.length q; simp at this)
  have hfn' : fn = Tryz.f185 := Option.some.inj (hfn.symm.trans ztN)
  subst hfn'
  have hnt : Tryz.f185.ntmps = 21 := by kernel_rfl
  have hreg : sub B185 [1,0,1,0,0,1,1,0,0] = .region 3 ops3 false := by kernel_rfl
  obtain ⟨bi,hbi,hci⟩ := zx3 hw
  have hmap : w.heap[bm]? = some (.map ens c) := (hw.same bm hk.lt hk.own).1.trans hk.map
  have hmem := mem_left he
  obtain ⟨p,hp,hkey,hval⟩ := zuR _ _ hk.rep e hmem.1
  have hval' : repV I s (.agg [.str p.2.z3L,.int .i64 p.2.zdI]) e.val := z4o hw.le (fun _ _ q => by cases q) _ _ hval
  have hrun := run_entry_at (P := A) w bi bm c seen ens c e hci hmap hmem.1 hk.nd
  have h8 : a.eval (.tmp 8) = .pointer (some ⟨bi,0,none⟩) := by
    have := hs 8
    unfold z1M at this
    have e8 : getV (stL text bm c (seen.push e.born)).tm 8 = .ptr 1 0 := rfl
    rw [e8] at this
    simp only [repV] at this
    obtain ⟨b',q1,q2⟩ := this
    rw [hbi] at q1
    cases q1
    exact q2
  have h0 : ops3[0]? = some (opN ops3 0) := by kernel_rfl
  have hop : (opN ops3 0).op = .entry (.tmp 8) := by kernel_rfl
  have hdst : (opN ops3 0).dst = some 11 := by kernel_rfl
  have hgd : (opN ops3 0).guard = none := by kernel_rfl
  have hex : execOp a.eval (opN ops3 0) = (Instr.entry (a.eval (.tmp 8)) >>= fun v => pure (Next.value v)) := by unfold execOp; rw [hop]
  have hrange : List.range ops3.size = 0 :: List.range' 1 (ops3.toList.drop 1).length := by kernel_rfl
  show PE.Ends cx A 185 0 (won r) I s (lone (b.at a (.code (sub B185 [1,0,1,0,0,1,1,0,0]) :: kO)) cs w) cs
  rw [hreg]
  refine zk2 (S := fun a' w' => At cx I s 21 (stO text bm c (seen.push e.born) p) a' w') hbk ?_ ?_
  · rw [hrange,wpOps_cons]
    refine ziR h0 hgd (by rw [hex,h8]; exact z8C hrun) ?_
    rw [hdst]
    have hat : At cx I s 21 (stR text bm c (seen.push e.born) p) (a.put (some 11) (.tuple #[e.key,e.val])) w :=
      zyQ hw hs (by rw [← hnt]; exact hsz) (by omega) hdf (by
        simp only [repV]
        exact ⟨_,rfl,by simp only [z0v]; exact ⟨by simp only [repV]; exact hkey,hval',trivial⟩⟩)
    refine zn3 (Iin := I) (sin := s) (st' := stO text bm c (seen.push e.born) p) (ps := []) (rid := 3) (d := ⟨[],[],[],[],[]⟩) hG (by kernel_rfl) (fun q hq => by simp at hq) (fun j o hj => ?_) (fun a' w' q => q) hat
    have : (ops3.toList.drop 1)[j]? = ops3.toList[1 + j]? := List.getElem?_drop
    rw [this] at hj
    simpa using hj
  · intro a' w' ⟨⟨I1,s1,q1,q2,q3,q4⟩,q5,q6⟩
    cases hpre : p.2.z3L.isPrefixOf text with
    | true =>
      have hr2 := zxJ hp hpre
      rw [hr] at hr2
      obtain rfl := Option.some.inj hr2
      have hpt : PtC cx A 185 0 kO (stO text bm c (seen.push e.born) p) (won (p.1,p.2,true)) :=
        zdf (PT := fun _ _ => False) (fun _ _ q => q.elim) (.ret [] []) 5 [⟨[],[(3,.call [] [some .str,some .str] (.bool true) [] [])],[],[],[]⟩,⟨[],[],[],[],[]⟩]
          (And.intro (zcb 1 text p.2.z3L true (by rw [hasPrefix,hpre])) (show won (p.1,p.2,true) (rV (p.1,p.2,true)) [] [] from ⟨rfl,rfl,rfl⟩)) (by kernel_rfl)
      exact (hpt hm _ hfn I1 s1 a' w' hG q3 q4 (by rw [hnt]; exact q5) q6 b cs kO (.inl rfl) hb hbk).mono q1 fun i hi => by omega
    | false =>
      have hk' : zza cx text bm c ens (seen.push e.born) := by
        refine ⟨hk.lt,hk.map,hk.own,hk.nd,hk.born,hk.rep,fun x hx hsn q hq hkq => ?_⟩
        rw [Array.contains_push,Bool.or_eq_true] at hsn
        by_cases hxe : x.born = e.born
        · have hxx : x = e := by
            have := hk.nd
            rw [List.nodup_iff_pairwise_ne,List.pairwise_map] at this
            by_cases h : x = e
            · exact h
            · exfalso
              obtain ⟨i,hi⟩ := List.getElem?_of_mem hx
              obtain ⟨j,hj⟩ := List.getElem?_of_mem hmem.1
              have hne : i ≠ j := by rintro rfl; rw [hi] at hj; exact h (Option.some.inj hj)
              obtain ⟨li,ei⟩ := List.getElem?_eq_some_iff.1 hi
              obtain ⟨lj,ej⟩ := List.getElem?_eq_some_iff.1 hj
              rcases Nat.lt_or_gt_of_ne hne with q | q
              · exact List.pairwise_iff_getElem.1 this i j li lj q (by rw [ei,ej,hxe])
              · exact List.pairwise_iff_getElem.1 this j i lj li q (by rw [ei,ej,hxe])
          subst hxx
          have hkey' : x.key = .int .i64 p.1 := hkey
          rw [hkey'] at hkq
          have : p.1 = q.1 := by injection hkq
          rw [← zyE p hp q hq this]
          exact hpre
        · exact hk.no x hx (by
            rcases hsn with h | h
            · exact h
            · exact absurd (by simpa using h) hxe) q hq hkq
      have hpt : PtC cx A 185 0 kO (stO text bm c (seen.push e.born) p) (won r) :=
        zdf (PT := fun k st => k = kL ∧ st = stL text bm c (seen.push e.born)) (fun k st q => by obtain ⟨rfl,rfl⟩ := q; exact ih hk') (.cut [] [0,3,8] [0,1]) 6 [⟨[],[(3,.call [] [some .str,some .str] (.bool false) [] [])],[],[],[]⟩]
          (And.intro (zcb 1 text p.2.z3L false (by rw [hasPrefix,hpre])) (And.intro (Eq.refl kL) (Eq.refl (stL text bm c (seen.push e.born))))) (by kernel_rfl)
      exact (hpt hm _ hfn I1 s1 a' w' hG q3 q4 (by rw [hnt]; exact q5) q6 b cs kO (.inl rfl) hb hbk).mono q1 fun i hi => by omega
theorem zzS (text : Str) (r : Int × z04 × Bool) (hr : z2r text = some r) {cx : Cx} {bm c : Nat} {ens : Array MapEntry} : ∀ (n : Nat) (seen : Array Nat),(leftOf ens seen).size = n → zza cx text bm c ens seen →
    PtC cx A 185 0 kL (stL text bm c seen) (won r) := by
  intro n
  induction n using Nat.strongRecOn with
  | ind n ih =>
  intro seen hn hk hm fn hfn I s a w hG hw hs hsz hdf b cs k' hlk hb hbk
  obtain rfl : k' = kL := hlk.resolve_right (by rintro ⟨q,_⟩; have := congrArg List.length q; simp at this)
  have hfn' : fn = Tryz.f185 := Option.some.inj (hfn.symm.trans ztN)
  subst hfn'
  have hnt : Tryz.f185.ntmps = 21 := by kernel_rfl
  have hseq : sub B185 [1,0,1,0,0] = .seq (sub B185 [1,0,1,0,0,0]) (sub B185 [1,0,1,0,0,1]) := by kernel_rfl
  have hreg : sub B185 [1,0,1,0,0,0] = .region 2 ops2 false := by kernel_rfl
  obtain ⟨bi,hbi,hci⟩ := zx3 hw
  have hmap : w.heap[bm]? = some (.map ens c) := (hw.same bm hk.lt hk.own).1.trans hk.map
  have h8 : a.eval (.tmp 8) = .pointer (some ⟨bi,0,none⟩) := by
    have := hs 8
    unfold z1M at this
    have e8 : getV (stL text bm c seen).tm 8 = .ptr 1 0 := rfl
    rw [e8] at this
    simp only [repV] at this
    obtain ⟨b',q1,q2⟩ := this
    rw [hbi] at q1
    cases q1
    exact q2
  have h0 : ops2[0]? = some (opN ops2 0) := by kernel_rfl
  have hop : (opN ops2 0).op = .next (.tmp 8) false := by kernel_rfl
  have hdst : (opN ops2 0).dst = some 9 := by kernel_rfl
  have hgd : (opN ops2 0).guard = none := by kernel_rfl
  have hex : execOp a.eval (opN ops2 0) = (Instr.next (a.eval (.tmp 8)) false (opN ops2 0).type >>= fun v => pure (Next.value v)) := by unfold execOp; rw [hop]
  have hrange : List.range ops2.size = 0 :: List.range' 1 (ops2.toList.drop 1).length := by kernel_rfl
  have hdrop : ∀ (j : Nat) (o : Oper),(ops2.toList.drop 1)[j]? = some o → ops2[1 + j]? = some o := fun j o hj => by
    have : (ops2.toList.drop 1)[j]? = ops2.toList[1 + j]? := List.getElem?_drop
    rw [this] at hj
    simpa using hj
  refine PE.Ends.steps (m' := lone (b.at a (.code (sub B185 [1,0,1,0,0,0]) :: kM)) cs w) ?_ (by
    show Steps A (lone (b.at a (.code (sub B185 [1,0,1,0,0]) :: _)) cs w) _
    rw [hseq]; exact .one step_seq)
  rw [hreg]
  refine zk2 (S := fun a' w' => (At cx I s 21 (zz5 text bm c seen) a' w' ∧ (leftOf ens seen).size = 0) ∨ ∃ e ∈ (leftOf ens seen).toList,At cx I s 21 (stE text bm c (seen.push e.born)) a' w') hbk ?_ ?_
  · rw [hrange,wpOps_cons]
    rcases run_next_at (P := A) w (opN ops2 0).type bi bm c c seen ens c hci hmap hk.born (Nat.le_refl _) with ⟨hz,hrun⟩ | ⟨e,he,w1,hw1,hrun⟩
    · refine ziR h0 hgd (by rw [hex,h8]; exact z8C hrun) ?_
      rw [hdst]
      have hat : At cx I s 21 ⟨(9,.tuple [.bool false]) :: (stL text bm c seen).tm,(stL text bm c seen).hp⟩ (a.put (some 9) (.tuple #[.bool false])) w :=
        zyQ hw hs (by rw [← hnt]; exact hsz) (by omega) hdf (by
          simp only [repV]
          exact ⟨_,rfl,by simp only [z0v,repV]; exact ⟨trivial,trivial⟩⟩)
      exact zn3 (Iin := I) (sin := s) (st' := zz5 text bm c seen) (ps := []) (rid := 2) (d := ⟨[],[],[],[],[]⟩) hG (by kernel_rfl) (fun q hq => by simp at hq) hdrop (fun a' w' q => .inl ⟨q,hz⟩) hat
    · refine ziR h0 hgd (by rw [hex,h8]; exact z8C hrun) ?_
      rw [hdst]
      have hw2 := hw.stepped (id := 1) (m := bm) (since := c) (last := c) (last' := c) (seen := seen) (seen' := seen.push e.born) rfl hbi hw1
      have hhp : setF (get (stL text bm c seen).hp) 1 (.miter bm c (seen.push e.born) c) = get (stL text bm c (seen.push e.born)).hp := by
        funext i
        simp only [setF,stL,PE.get]
        by_cases h1 : i = 1
        · subst h1; rfl
        · rw [if_neg h1]
          by_cases h00 : i = 0
          · subst h00; rfl
          · rw [z2X (Ne.symm h00),cond_false,z2X (Ne.symm h1)]; rfl
      rw [hhp] at hw2
      have hat : At cx I s 21 ⟨(9,.tuple [.bool true,.undef,.undef]) :: (stL text bm c (seen.push e.born)).tm,(stL text bm c (seen.push e.born)).hp⟩ (a.put (some 9) (.tuple #[.bool true,e.key,e.val])) (ChangeMaps.setBlock w1 bi (.mapIter (some bm) c (seen.push e.born) c)) :=
        zyQ hw2 hs (by rw [← hnt]; exact hsz) (by omega) hdf (by
          simp only [repV]
          exact ⟨_,rfl,by simp only [z0v,repV]; exact ⟨trivial,trivial,trivial,trivial⟩⟩)
      exact zn3 (Iin := I) (sin := s) (st' := stE text bm c (seen.push e.born)) (ps := []) (rid := 2) (d := ⟨[],[],[],[],[]⟩) hG (by kernel_rfl) (fun q hq => by simp at hq) hdrop (fun a' w' q => .inr ⟨e,he,q⟩) hat
  · rintro a' w' (⟨⟨⟨I1,s1,q1,q2,q3,q4⟩,q5,q6⟩,hz⟩ | ⟨e,he,⟨⟨I1,s1,q1,q2,q3,q4⟩,q5,q6⟩⟩)
    · have hr2 := zwg (text := text) (fun p hp => by
        obtain ⟨x,hx,hkx,_⟩ := zsj _ _ hk.rep p hp
        exact hk.no x hx (all_seen ens seen hz x hx) p hp hkx)
      rw [hr] at hr2
      obtain rfl := Option.some.inj hr2
      have hpt : PtC cx A 185 0 kM (zz5 text bm c seen) (won (0,⟨[],0⟩,false)) :=
        zdf (PT := fun _ _ => False) (fun _ _ q => q.elim) (.ret [] []) 5 [⟨[],[],[],[],[]⟩]
          (show won (0,⟨[],0⟩,false) (rV (0,⟨[],0⟩,false)) [] [] from ⟨rfl,rfl,rfl⟩) (by kernel_rfl)
      exact (hpt hm _ hfn I1 s1 a' w' hG q3 q4 (by rw [hnt]; exact q5) q6 b cs kM (.inl rfl) hb hbk).mono q1 fun i hi => by omega
    · have hlt := left_shrinks ens seen e he
      have hrd := round text r hr hk he (fun hk' => ih _ (by omega) (seen.push e.born) rfl hk')
      have hpt : PtC cx A 185 0 kM (stE text bm c (seen.push e.born)) (won r) :=
        zdf (PT := fun k st => k = kE ∧ st = stL text bm c (seen.push e.born)) (fun k st q => by obtain ⟨rfl,rfl⟩ := q; exact hrd) (.cut [] [0,3,8] [0,1]) 5 []
          (And.intro (Eq.refl kE) (Eq.refl (stL text bm c (seen.push e.born)))) (by kernel_rfl)
      exact (hpt hm _ hfn I1 s1 a' w' hG q3 q4 (by rw [hnt]; exact q5) q6 b cs kM (.inl rfl) hb hbk).mono q1 fun i hi => by omega
def stF (text : Str) : St := ⟨(7,.map 200000) :: (stA text).tm,(200000,.tmap (.int .i64) (.user 4) z1B) :: (stA text).hp⟩
theorem head (text : Str) (r : Int × z04 × Bool) (hr : z2r text = some r) {cx : Cx} : PtC cx A 185 0 kA (stA text) (won r) := by
  intro hm fn hfn I s a w hG hw hs hsz hdf b cs k' hlk hb hbk
  obtain rfl : k' = kA := hlk.resolve_right (by rintro ⟨q,_⟩; have := congrArg List.length q; simp at this)
  have hfn' : fn = Tryz.f185 := Option.some.inj (hfn.symm.trans ztN)
  subst hfn'
  have hnt : Tryz.f185.ntmps = 21 := by kernel_rfl
  have hreg : sub B185 [1,0,0] = .region 1 ops1 false := by kernel_rfl
  have hblk : sub B185 [1,0,1] = .block 0 (sub B185 [1,0,1,0]) := by kernel_rfl
  have hloop : sub B185 [1,0,1,0] = .loop (sub B185 [1,0,1,0,0]) := by kernel_rfl
  have h0 : ops1[0]? = some (opN ops1 0) := by kernel_rfl
  have h1 : ops1[1]? = some (opN ops1 1) := by kernel_rfl
  have hop : (opN ops1 1).op = .range 121 (.tmp 7) := by kernel_rfl
  have hdst : (opN ops1 1).dst = some 8 := by kernel_rfl
  have hgd : (opN ops1 1).guard = none := by kernel_rfl
  have hrange : List.range ops1.size = [0,1] := by kernel_rfl
  have hund : A.underlying 121 = some (.map 3 120) := by kernel_rfl
  show PE.Ends cx A 185 0 (won r) I s (lone (b.at a (.code (sub B185 [1,0,0]) :: [.code (sub B185 [1,0,1]),.code (sub B185 [1,1])])) cs w) cs
  rw [hreg]
  refine zk2 (S := fun a' w' => ∃ (bm c : Nat) (ens : Array MapEntry) (I' : Facts) (s' : Hand),I.le I' ∧ WInv cx I' s' (PE.get (stL text bm c #[]).hp) w' ∧ (∀ t,z1M I' s' (stL text bm c #[]).tm a'.tmps t) ∧ 21 ≤ a'.tmps.size ∧ a'.defers = [] ∧
      w'.heap[bm]? = some (.map ens c) ∧ ¬ zn0 s' (PE.get (stL text bm c #[]).hp) bm ∧ (ens.toList.map (·.born)).Nodup ∧ (∀ e ∈ ens.toList,e.born < c) ∧ ziY I' (fun _ => none) (.int .i64) (.user 4) z1B ens.toList) hbk ?_ ?_
  · rw [hrange,wpOps_cons]
    refine zzn (Iin := I) (sin := s) (nt := 21) (rid := 1) (d := ⟨[],[(0,.call [] [] (.map 0) [] [.tmap (.int .i64) (.user 4) z1B])],[],[],[]⟩) (st := stA text) (st' := stF text)
      (ps := [PE.Spec A 95 [] [] (.map 0) [] [.tmap (.int .i64) (.user 4) z1B]]) hG (by kernel_rfl) (fun q hq => by
        simp only [List.mem_singleton] at hq
        subst hq
        exact z5F 1 () rfl) h0 ?_ ⟨⟨I,s,Facts.le_refl _,Hand.le_refl _,hw,hs⟩,by rw [← hnt]; exact hsz,hdf⟩
    rintro a1 w1 ⟨⟨I1,s1,e1,e2,e3,e4⟩,e5,e6⟩
    rw [wpOps_cons]
    have hc := e3.cont 200000 (.tmap (.int .i64) (.user 4) z1B) rfl
    simp only [repC] at hc
    obtain ⟨bm,ens,c,k1,k2,k3,k4,k5⟩ := hc
    have h7 : a1.eval (.tmp 7) = .map (some bm) := by
      have := e4 7
      unfold z1M at this
      have ee : getV (stF text).tm 7 = .map 200000 := rfl
      rw [ee] at this
      simp only [repV] at this
      obtain ⟨b',q1,q2⟩ := this
      rw [k1] at q1
      cases q1
      exact q2
    have hrun : (Instr.range 121 (.map (some bm))).run A w1 = .ok (.pointer (some ⟨w1.heap.size,0,none⟩)) (w1.alloc (.mapIter (some bm) c #[] c)) := by
      simp only [Instr.range,Sem.run_bind,run_underlying hund,Result.andThen_ok,MapKept.run_getObj_map k2,Sem.run_pure]
      rfl
    have hex : execOp a1.eval (opN ops1 1) = (Instr.range 121 (a1.eval (.tmp 7)) >>= fun v => pure (Next.value v)) := by unfold execOp; rw [hop]
    refine ziR h1 hgd (by rw [hex,h7]; exact z8C hrun) ?_
    rw [hdst]
    have hnone : PE.get (stF text).hp 200100 = none := rfl
    have hlt := z1s? k2
    have hcr := e3.create hnone (.pointer (some ⟨w1.heap.size,0,none⟩)) (.miter bm c #[] c) (z7D w1 (.mapIter (some bm) c #[] c)) (Facts.le_refl _) (fun _ _ _ => rfl) (fun o u hu => by rw [e3.z5j] at hu; cases hu) (fun b' hb' => by simp [blk] at hb'; exact hb'.symm) (by
      simp only [repC]
      exact ⟨_,by simp,alloc_at _ _⟩)
    let s2 := setF s1 200100 (.pointer (some ⟨w1.heap.size,0,none⟩))
    have hs2 : s1.le s2 := z8T (e3.unknown hnone)
    have hren : WInv cx I1 (zbk s2 [0,200100]) (PE.get (stL text bm c #[]).hp) (w1.alloc (.mapIter (some bm) c #[] c)) := by
      refine hcr.rename (m := numbered 0 [0,200100]) zur (fun i j hij => zcM hij) (fun j c' hj => ?_) (fun j v hv => ?_)
      · simp only [stL,PE.get] at hj
        by_cases j0 : 0 = j
        · subst j0
          cases hj
          exact ⟨0,_,rfl,rfl,rfl⟩
        · by_cases j1 : 1 = j
          · subst j1
            cases hj
            exact ⟨200100,.miter bm c #[] c,rfl,setF_same _ _ _,rfl⟩
          · rw [z2X j0,cond_false,z2X j1] at hj
            cases hj
      · match j with
        | 0 => rfl
        | 1 => rfl
        | j + 2 => simp [zbk] at hv
    have hbox := e3.cont 0 (.box [.str [],.int .i64 0]) rfl
    simp only [repC] at hbox
    obtain ⟨b0,arr,et,fr,g1,g2,_⟩ := hbox
    show ∃ _ _ _ _ _,_
    refine ⟨bm,c,ens,I1,zbk s2 [0,200100],e1,hren,fun t => ?_,by rw [zlt]; exact e5,by rw [put_defers]; exact e6,?_,?_,k4,k5,zmW _ _ k3⟩
    · unfold z1M
      rw [zq7 a1 (d := some 8) (nt := 21) (by rfl) e5]
      by_cases t0 : 0 = t
      · subst t0
        have := e4 0
        unfold z1M at this
        rw [if_neg (by simp)]
        have ee : getV (stF text).tm 0 = .str text := rfl
        rw [ee] at this
        exact this
      · by_cases t3 : 3 = t
        · subst t3
          have := e4 3
          unfold z1M at this
          rw [if_neg (by simp)]
          have ee : getV (stF text).tm 3 = .ptr 0 0 := rfl
          rw [ee] at this
          have ee2 : getV (stL text bm c #[]).tm 3 = .ptr 0 0 := rfl
          rw [ee2]
          simp only [repV] at this ⊢
          obtain ⟨b',q1,q2⟩ := this
          exact ⟨b',by show s2 0 = _; exact hs2 _ _ q1,q2⟩
        · by_cases t8 : 8 = t
          · subst t8
            have ee2 : getV (stL text bm c #[]).tm 8 = .ptr 1 0 := rfl
            rw [ee2,if_pos rfl]
            simp only [repV]
            exact ⟨w1.heap.size,by show s2 200100 = _; simp [s2],rfl⟩
          · have ee : getV (stL text bm c #[]).tm t = .undef := by
              simp only [stL,getV,PE.get]
              rw [z2X t0,cond_false,z2X t3,cond_false,z2X t8]
              rfl
            rw [ee]
            simp only [repV]
    · rw [(z7D w1 (.mapIter (some bm) c #[] c)).heap bm (fun q => by have := Option.some.inj q; omega) hlt]
      exact k2
    · rintro ⟨j,d,q1,q2⟩
      simp only [stL,PE.get] at q1
      by_cases j0 : 0 = j
      · subst j0
        cases q1
        have e0 : zbk s2 [0,200100] 0 = s2 0 := rfl
        simp only [blk,e0,hs2 _ _ g1,Option.some.injEq] at q2
        subst q2
        rw [g2] at k2
        cases k2
      · by_cases j1 : 1 = j
        · subst j1
          cases q1
          have e1' : zbk s2 [0,200100] 1 = s2 200100 := rfl
          simp only [blk,e1',s2,setF_same,Option.some.injEq] at q2
          omega
        · rw [z2X j0,cond_false,z2X j1] at q1
          cases q1
  · rintro a' w' ⟨bm,c,ens,I',s',g1,g2,g3,g4,g5,g6,g7,g8,g9,g10⟩
    refine PE.Ends.steps (m' := lone (b.at a' kL) cs w') ?_ (Steps.trans (.one (by rw [hblk]; exact step_block)) (.one (by rw [hloop]; exact step_loop)))
    have hk : zza ⟨w',I',zn0 s' (PE.get (stL text bm c #[]).hp)⟩ text bm c ens #[] :=
      ⟨z1s? g6,g6,g7,g8,g9,g10,fun e _ hsn => by simp at hsn⟩
    have := zzS text r hr (leftOf ens #[]).size #[] rfl hk hm _ hfn I' s' a' w' (Facts.le_trans hG (Facts.le_trans hw.le g1)) g2.enter g3 (by rw [hnt]; exact g4) g5 b cs kL (.inl rfl) hb hbk
    exact (PE.Ends.zyX g2 this).mono g1 fun i hi => by omega
theorem z6K (a0 : Str) (r : Int × z04 × Bool) (h : z2r a0 = some r) : PE.Spec A 185 [(.str a0)] [] (.tuple [(.int .i64 r.1),(.agg [(.str r.2.1.z3L),(.int .i64 r.2.1.zdI)]),(.bool r.2.2)]) [] [] :=
  z0m z05 ztN (by kernel_rfl) (fun cx => zdf (PT := fun k st => k = kA ∧ st = stA a0) (fun k st q => by obtain ⟨rfl,rfl⟩ := q; exact head a0 r h) (.cut [] [0,3] [100100]) 4 [⟨[],[],[],[],[]⟩]
    (And.intro (Eq.refl kA) (Eq.refl (stA a0))) (by kernel_rfl))
end Go.Proofs.YtchpeafokjmmeaaGreatDoorQ
set_option maxRecDepth 100000
set_option maxHeartbeats 1000000
namespace Go.Proofs.YtchpeafokjmmeaaGreatDoorQ
open Go Go.PE
variable [PE.Ground] [Tables]
def z7B (goal : GoT) (r : (Sum z00 Unit)) : Prop := (Sum.elim (fun x => PtS A 9 0 [.code .ret] ⟨[(4,(.ptr 0 0)),(5,(.bool true))],[(0,(.box [(.ii x.z0i),(.bool x.z0K),(.ii x.z0n),(.str x.z0D),(.lst .str x.z0d 0),(.lst (.user 2) x.z09 0)]))]⟩ goal) (fun x => PtS A 9 0 [.code (sub B9 [1,1])] ⟨[(4,(.ptr 0 0))],[(0,(.box [(.ii 0),(.bool false),(.ii 0),(.str []),.nil,.nil]))]⟩ goal)) r
def zc2 (n : Nat) : Prop := ∀ (p0 : Str) (p1 : (List z02)) (p2 : Int) (p3 : Int) (r : (Sum z00 Unit)),z1w n p0 p1 p2 p3 = some r → ∀ (goal : GoT),z7B goal r → PtS A 9 0 [.code (sub B9 [1,0,1,0,0]),.inLoop (sub B9 [1,0,1,0,0]),.inBlock 0,.code (sub B9 [1,1])] ⟨[(1,(.str p0)),(4,(.ptr 0 0)),(9,(.lst (.user 1) p1 0)),(10,(.ii p2)),(11,(.ii p3))],[(0,(.box [(.ii 0),(.bool false),(.ii 0),(.str []),.nil,.nil]))]⟩ goal
theorem zi9 (n : Nat) : zc2 n := by
  induction n with
  | zero => exact (fun p0 p1 p2 p3 r h => z14 (Eq.trans (Eq.symm (z1w.eq_1 p0 p1 p2 p3)) h))
  | succ n ih => exact (fun p0 p1 p2 p3 r h goal hq => have h := Eq.trans (Eq.symm (z1w.eq_2 _ _ _ _ _)) h
    (z0h h (fun b1 h => (z0a h (fun b2 h => (z0h h (fun b3 h => (z01 (.cutRet [] [4,5] [0]) 14 [⟨[],[],[(0,true)],[],[]⟩,r0,⟨[],[],[(3,true)],[],[]⟩,r0] (ai b1 (ai b2 (ai b3 (z0b (Φ := z7B goal) h hq)))) (by kernel_rfl))) (fun b3 h => (z01 (.cut [] [1,4,9,10,11] [0]) 16 [⟨[],[],[(0,true)],[],[]⟩,r0,⟨[],[],[(3,false)],[],[]⟩,r0] (ai b1 (ai b2 (ai b3 (ih p0 p1 p2 (z07 (p3 + 1)) r h goal hq)))) (by kernel_rfl))))))) (fun b1 h => (z01 (.cut [] [4] [0]) 5 [⟨[],[],[(0,false)],[],[]⟩] (ai b1 (z0b (Φ := z7B goal) h hq)) (by kernel_rfl)))))
theorem zj9 (n : Nat) : zc2 n := (zi9 n)
def z7z (goal : GoT) (r : (z00 × Bool)) : Prop := goal (.tuple [(vu2 r.1),(.bool r.2)]) [] []
def zh4 (a0 : z03) (a1 : Str) (r : (z00 × Bool)) : Prop := PE.Spec A 9 [(vu0 a0),(.str a1)] [] (.tuple [(vu2 r.1),(.bool r.2)]) [] []
theorem zmA (a0 : z03) (a1 : Str) (r : (z00 × Bool)) (H : ∀ goal : GoT,z7z goal r → PtS A 9 0 [.code (sub B9 [])] ⟨[(0,(vu0 a0)),(1,(.str a1))],[]⟩ goal) : zh4 a0 a1 r :=
  z0m z05 zDY (by kernel_rfl) (H _ ⟨rfl,rfl,rfl⟩)
theorem zmN (n : Nat) : ∀ (a0 : z03) (a1 : Str) (r : (z00 × Bool)),z3d n a0 a1 = some r → ∀ (goal : GoT),z7z goal r → PtS A 9 0 [.code (sub B9 [])] ⟨[(0,(vu0 a0)),(1,(.str a1))],[]⟩ goal :=
  fun a0 a1 r h goal hq => have h := Eq.trans (Eq.symm (z3d.eq_1 n a0 a1)) h
    (z0c h (fun b4 eb4 h => (z01 (.cut [] [1,4,9,10,11] [100100]) 7 [r0,r0] (zj9 n a1 a0.z0e (a0.z0e.length : Int) 0 b4 eb4 goal (match b4,h with | .inl b5,h => (z01 (.ret [.bNorm 0 2] []) 0 [] (z0b (Φ := z7z goal) h hq) (by cases b5; kernel_rfl)) | .inr b6,h => (z01 (.ret [.bNorm 0 2] []) 2 [r0] (z0b (Φ := z7z goal) h hq) (by kernel_rfl)))) (by kernel_rfl))))
theorem z1S (n : Nat) (a0 : z03) (a1 : Str) (r : (z00 × Bool)) (h : z3d n a0 a1 = some r) : zh4 a0 a1 r := zmA a0 a1 r (zmN n a0 a1 r h)
def z9c (goal : GoT) (r : z03) : Prop := goal (vu0 r) [] []
def zfr (a0 : z03) (r : z03) : Prop := PE.Spec A 27 [(vu0 a0)] [] (vu0 r) [] []
theorem zlx (a0 : z03) (r : z03) (H : ∀ goal : GoT,z9c goal r → PtS A 27 0 [.code (sub B27 [])] ⟨[(0,(vu0 a0))],[]⟩ goal) : zfr a0 r :=
  z0m z05 zDG (by kernel_rfl) (H _ ⟨rfl,rfl,rfl⟩)
theorem zkN (n : Nat) : ∀ (a0 : z03) (r : z03),z6d n a0 = some r → ∀ (goal : GoT),z9c goal r → PtS A 27 0 [.code (sub B27 [])] ⟨[(0,(vu0 a0))],[]⟩ goal :=
  fun a0 r h goal hq => have h := Eq.trans (Eq.symm (z6d.eq_1 n a0)) h
    (z0c h (fun b2 b1 h => (z0c h (fun b4 b3 h => (z0c h (fun b6 b5 h => (z0c h (fun b8 b7 h => (z01 (.ret [.fz 200200,.fz 200500,.fz 200800,.fz 201100,.bNorm 100100 0] []) 6 [r0,⟨[],[(2,.call [] [some (.list .str)] (.row 0) [] [(.row .str b2 0)]),(5,.call [] [some (.list (.int .i64))] (.row 0) [] [(.row (.int .i64) b4 0)]),(8,.call [] [some (.list (.user 1))] (.row 0) [] [(.row (.user 1) b6 0)]),(11,.call [] [some (.list (.user 3))] (.row 0) [] [(.row (.user 3) b8 0)])],[],[],[]⟩,r0] (ai (z3Y a0.z0k b2 b1) (ai (zf3 a0.z0H b4 b3) (ai (z6q a0.z0e b6 b5) (ai (z9C a0.z0z b8 b7) (z0b (Φ := z9c goal) h hq))))) (by kernel_rfl))))))))))
theorem zdT (n : Nat) (a0 : z03) (r : z03) (h : z6d n a0 = some r) : zfr a0 r := zlx a0 r (zkN n a0 r h)
def z7u (goal : GoT) (r : z03) : Prop := goal (vu0 r) [] []
def zc9 (a0 : z03) (r : z03) : Prop := PE.Spec A 10 [(vu0 a0)] [] (vu0 r) [] []
theorem zhV (a0 : z03) (r : z03) (H : ∀ goal : GoT,z7u goal r → PtS A 10 0 [.code (sub B10 [])] ⟨[(0,(vu0 a0))],[]⟩ goal) : zc9 a0 r :=
  z0m z05 zDi (by kernel_rfl) (H _ ⟨rfl,rfl,rfl⟩)
theorem zhm (n : Nat) : ∀ (a0 : z03) (r : z03),z3j n a0 = some r → ∀ (goal : GoT),z7u goal r → PtS A 10 0 [.code (sub B10 [])] ⟨[(0,(vu0 a0))],[]⟩ goal :=
  fun a0 r h goal hq => have h := Eq.trans (Eq.symm (z3j.eq_1 n a0)) h
    (z0c h (fun b2 b1 h => (z01 (.ret [.bNorm 100100 0] []) 6 [r0,r0,⟨[],[(1,.call [] [some (.user 0)] (vu0 b2) [] [])],[],[],[]⟩] (ai (zdT n (⟨a0.z3u,a0.z0I,a0.z0u,a0.z0N,a0.z0s,a0.z0k,[],[],a0.z1z,a0.z0z⟩ : z03) b2 b1) (z0b (Φ := z7u goal) h hq)) (by kernel_rfl))))
theorem z3V (n : Nat) (a0 : z03) (r : z03) (h : z3j n a0 = some r) : zc9 a0 r := zhV a0 r (zhm n a0 r h)
def z4a (goal : GoT) (r : (Sum Unit Unit)) : Prop := (Sum.elim (fun x => PtS A 61 0 [.code .ret] ⟨[(2,(.bool false))],[]⟩ goal) (fun x => PtS A 61 0 [.code (sub B61 [1,1,1])] ⟨[],[]⟩ goal)) r
def zfN (n : Nat) : Prop := ∀ (p0 : Str) (p1 : Int) (p2 : Int) (r : (Sum Unit Unit)),z5Q n p0 p1 p2 = some r → ∀ (goal : GoT),z4a goal r → PtS A 61 0 [.code (sub B61 [1,1,0,1,0,0]),.inLoop (sub B61 [1,1,0,1,0,0]),.inBlock 0,.code (sub B61 [1,1,1])] ⟨[(0,(.str p0)),(14,(.ii p1)),(15,(.ii p2))],[]⟩ goal
def zeW (n : Nat) : Prop := ∀ (p0 : Str) (p1 : Int) (p2 : Bool) (p3 : Int) (p4 : Int) (r : (Sum Unit Unit)),z8K n p0 p1 p2 p3 p4 = some r → ∀ (goal : GoT),z4a goal r → PtS A 61 0 [.code (sub B61 [1,1,0,1,0,0,1,1,0,0,1,1]),.inBlock 1,.code (sub B61 [1,1,0,1,0,0,1,1,1]),.inLoop (sub B61 [1,1,0,1,0,0]),.inBlock 0,.code (sub B61 [1,1,1])] ⟨[(0,(.str p0)),(3,(.ii p1)),(4,(.bool p2)),(14,(.ii p3)),(15,(.ii p4))],[]⟩ goal
theorem zdP (n : Nat) : zfN n ∧ zeW n := by
  induction n with
  | zero => exact ⟨(fun p0 p1 p2 r h => z14 (Eq.trans (Eq.symm (z5Q.eq_1 p0 p1 p2)) h)),(fun p0 p1 p2 p3 p4 r h => z14 (Eq.trans (Eq.symm (z8K.eq_1 p0 p1 p2 p3 p4)) h))⟩
  | succ n ih => exact ⟨(fun p0 p1 p2 r h goal hq => have h := Eq.trans (Eq.symm (z5Q.eq_2 _ _ _ _)) h
    (z0h h (fun b2 h => (z0a h (fun b3 h => (z0h h (fun b4 h => (z0a h (fun b5 h => (z01 (.cut [] [0,3,4,14,15] []) 11 [⟨[],[],[(0,true)],[],[]⟩,r0,⟨[],[],[(4,true)],[],[]⟩] (ai b2 (ai b3 (ai b4 (ai b5 (ih.2 p0 p2 (decide ((bt p0 p2) ≤ 122)) p1 p2 r h goal hq))))) (by kernel_rfl))))) (fun b4 h => (z01 (.cut [] [0,3,4,14,15] []) 11 [⟨[],[],[(0,true)],[],[]⟩,r0,⟨[],[],[(4,false)],[],[]⟩] (ai b2 (ai b3 (ai b4 (ih.2 p0 p2 false p1 p2 r h goal hq)))) (by kernel_rfl))))))) (fun b2 h => (z01 (.cut [] [] []) 5 [⟨[],[],[(0,false)],[],[]⟩] (ai b2 (z0b (Φ := z4a goal) h hq)) (by kernel_rfl))))),(fun p0 p1 p2 p3 p4 r h goal hq => have h := Eq.trans (Eq.symm (z8K.eq_2 _ _ _ _ _ _)) h
    (z0h h (fun b6 h => (z0h h (fun b7 h => (z01 (.cutRet [] [2] []) 5 [⟨[],[],[(2,true),(5,true)],[],[]⟩,r0] (ai b6 (ai b7 (z0b (Φ := z4a goal) h hq))) (by kernel_rfl))) (fun b7 h => (z0a h (fun b8 h => (z0h h (fun b9 h => (z0a h (fun b10 h => (z0h h (fun b11 h => (z01 (.cutRet [] [2] []) 5 [⟨[],[],[(2,true),(5,false),(10,true),(15,true)],[],[]⟩,r0] (ai b6 (ai b7 (ai b8 (ai b9 (ai b10 (ai b11 (z0b (Φ := z4a goal) h hq))))))) (by kernel_rfl))) (fun b11 h => (z0a h (fun b12 h => (z0h h (fun b13 h => (z01 (.cutRet [] [2] []) 5 [⟨[],[],[(2,true),(5,false),(10,true),(15,false),(23,true)],[],[]⟩,r0] (ai b6 (ai b7 (ai b8 (ai b9 (ai b10 (ai b11 (ai b12 (ai b13 (z0b (Φ := z4a goal) h hq))))))))) (by kernel_rfl))) (fun b13 h => (z01 (.cut [] [0,14,15] []) 7 [⟨[],[],[(2,true),(5,false),(10,true),(15,false),(23,false)],[],[]⟩,r0] (ai b6 (ai b7 (ai b8 (ai b9 (ai b10 (ai b11 (ai b12 (ai b13 (ih.1 p0 p3 (z07 (p4 + 1)) r h goal hq))))))))) (by kernel_rfl))))))))))) (fun b9 h => (z01 (.cut [] [0,14,15] []) 7 [⟨[],[],[(2,true),(5,false),(10,false)],[],[]⟩,r0] (ai b6 (ai b7 (ai b8 (ai b9 (ih.1 p0 p3 (z07 (p4 + 1)) r h goal hq))))) (by kernel_rfl))))))))) (fun b6 h => (z01 (.cut [] [0,14,15] []) 7 [⟨[],[],[(2,false)],[],[]⟩,r0] (ai b6 (ih.1 p0 p3 (z07 (p4 + 1)) r h goal hq)) (by kernel_rfl)))))⟩
theorem zmp (n : Nat) : zfN n := (zdP n).1
theorem zxE (n : Nat) : zeW n := (zdP n).2
def z7R (goal : GoT) (r : Bool) : Prop := goal (.bool r) [] []
def zlr (a0 : Str) (r : Bool) : Prop := PE.Spec A 61 [(.str a0)] [] (.bool r) [] []
theorem zrM (a0 : Str) (r : Bool) (H : ∀ goal : GoT,z7R goal r → PtS A 61 0 [.code (sub B61 [])] ⟨[(0,(.str a0))],[]⟩ goal) : zlr a0 r :=
  z0m z05 zDH (by kernel_rfl) (H _ ⟨rfl,rfl,rfl⟩)
theorem zs9 (n : Nat) : ∀ (a0 : Str) (r : Bool),zcP n a0 = some r → ∀ (goal : GoT),z7R goal r → PtS A 61 0 [.code (sub B61 [])] ⟨[(0,(.str a0))],[]⟩ goal :=
  fun a0 r h goal hq => have h := Eq.trans (Eq.symm (zcP.eq_1 n a0)) h
    (z0h h (fun b1 h => (z01 (.ret [] []) 8 [r0,⟨[],[],[(7,true)],[(4,true),(5,true),(6,true),(7,false)],[3]⟩,r0] (ai b1 (z0b (Φ := z7R goal) h hq)) (by kernel_rfl))) (fun b1 h => (z0c h (fun b14 eb14 h => (z01 (.cut [] [0,14,15] []) 12 [r0,⟨[],[],[(7,false)],[(4,true),(5,true),(6,true),(7,false)],[3]⟩,r0] (ai b1 (zmp n a0 (a0.length : Int) 0 b14 eb14 goal (match b14,h with | .inl b15,h => (z01 (.ret [] []) 0 [] (z0b (Φ := z7R goal) h hq) (by kernel_rfl)) | .inr b16,h => (z01 (.ret [] []) 2 [r0] (z0b (Φ := z7R goal) h hq) (by kernel_rfl))))) (by kernel_rfl))))))
theorem zeE (n : Nat) (a0 : Str) (r : Bool) (h : zcP n a0 = some r) : zlr a0 r := zrM a0 r (zs9 n a0 r h)
def zdx (goal : GoT) (r : Bool) : Prop := goal (.bool r) [] []
def zlq (a0 : z00) (r : Bool) : Prop := PE.Spec A 128 [(vu2 a0)] [] (.bool r) [] []
theorem zrQ (a0 : z00) (r : Bool) (H : ∀ goal : GoT,zdx goal r → PtS A 128 0 [.code (sub B128 [])] ⟨[(0,(vu2 a0))],[]⟩ goal) : zlq a0 r :=
  z0m z05 zCa (by kernel_rfl) (H _ ⟨rfl,rfl,rfl⟩)
theorem zrB (n : Nat) : ∀ (a0 : z00) (r : Bool),zaT n a0 = some r → ∀ (goal : GoT),zdx goal r → PtS A 128 0 [.code (sub B128 [])] ⟨[(0,(vu2 a0))],[]⟩ goal :=
  fun a0 r h goal hq => have h := Eq.trans (Eq.symm (zaT.eq_1 n a0)) h
    (z01 (.ret [] []) 4 [r0,⟨[],[],[],[(4,true),(5,true),(6,true),(7,false),(9,true),(10,true),(11,true),(12,true),(13,true),(14,true),(15,true),(16,true),(17,false),(19,true),(20,true),(21,true),(22,true),(23,true),(24,true),(25,true),(26,true),(27,false),(29,true),(30,true),(31,true),(32,true),(33,true),(34,true),(35,true),(36,true),(37,true),(38,true),(39,true),(40,true),(41,true),(42,true),(43,false),(45,true),(46,true),(47,true),(48,true),(49,true),(50,true),(51,true),(52,true),(53,true),(54,false)],[3,8,12,18,22,28,32,37,44,48]⟩] (z0b (Φ := zdx goal) h hq) (by kernel_rfl))
theorem z8I (n : Nat) (a0 : z00) (r : Bool) (h : zaT n a0 = some r) : zlq a0 r := zrQ a0 r (zrB n a0 r h)
def z4h (goal : GoT) (r : Int) : Prop := goal (.int .u64 r) [] []
def z7N (a0 : Str) (r : Int) : Prop := PE.Spec A 206 [(.str a0)] [] (.int .u64 r) [] []
theorem zcB (a0 : Str) (r : Int) (H : ∀ goal : GoT,z4h goal r → PtS A 206 0 [.code (sub B206 [])] ⟨[(0,(.str a0))],[]⟩ goal) : z7N a0 r :=
  z0m z05 zC7 (by kernel_rfl) (H _ ⟨rfl,rfl,rfl⟩)
theorem zcy (n : Nat) : ∀ (a0 : Str) (r : Int),z0J n a0 = some r → ∀ (goal : GoT),z4h goal r → PtS A 206 0 [.code (sub B206 [])] ⟨[(0,(.str a0))],[]⟩ goal :=
  fun a0 r h goal hq => have h := Eq.trans (Eq.symm (z0J.eq_1 n a0)) h
    (z0a h (fun b1 h => (z0a h (fun b2 h => (z0a h (fun b3 h => (z0a h (fun b4 h => (z0a h (fun b5 h => (z0a h (fun b6 h => (z0a h (fun b7 h => (z0a h (fun b8 h => (z01 (.ret [] []) 7 [r0,r0] (ai b1 (ai b2 (ai (by decide : nn 8) (ai b3 (ai (by decide : nn 16) (ai b4 (ai (by decide : nn 24) (ai b5 (ai (by decide : nn 32) (ai b6 (ai (by decide : nn 40) (ai b7 (ai (by decide : nn 48) (ai b8 (ai (by decide : nn 56) (z0b (Φ := z4h goal) h hq)))))))))))))))) (by kernel_rfl))))))))))))))))))
theorem z0r (n : Nat) (a0 : Str) (r : Int) (h : z0J n a0 = some r) : z7N a0 r := zcB a0 r (zcy n a0 r h)
def z3I (goal : GoT) (r : (Str × Str × Int × Int × Bool × Str × Int × Str × Str × Int × Int × Int × Bool)) : Prop := PtS A 171 0 [.code (sub B171 [1,0,0,0,1,0,1,0,1,0,1,1]),.code (sub B171 [1,0,0,0,1,0,1,1]),.inBlock 1,.inLoop (sub B171 [1,0,0,0]),.inBlock 0,.code (sub B171 [1,1])] ⟨[(0,(.str r.1)),(20,(.str r.2.1)),(21,(.int .u64 r.2.2.1)),(22,(.int .u64 r.2.2.2.1)),(23,(.bool r.2.2.2.2.1)),(31,(.str r.2.2.2.2.2.1)),(32,(.int .u64 r.2.2.2.2.2.2.1)),(33,(.str r.2.2.2.2.2.2.2.1)),(34,(.str r.2.2.2.2.2.2.2.2.1)),(35,(.int .u64 r.2.2.2.2.2.2.2.2.2.1)),(36,(.int .u64 r.2.2.2.2.2.2.2.2.2.2.1)),(37,(.int .u64 r.2.2.2.2.2.2.2.2.2.2.2.1)),(38,(.bool r.2.2.2.2.2.2.2.2.2.2.2.2))],[]⟩ goal
def z6y (n : Nat) : Prop := ∀ (p0 : Str) (p1 : Str) (p2 : Int) (p3 : Int) (p4 : Bool) (p5 : Str) (p6 : Int) (p7 : Str) (p8 : Str) (p9 : Int) (p10 : Int) (p11 : Int) (p12 : Bool) (r : (Str × Str × Int × Int × Bool × Str × Int × Str × Str × Int × Int × Int × Bool)),z0X n p0 p1 p2 p3 p4 p5 p6 p7 p8 p9 p10 p11 p12 = some r → ∀ (goal : GoT),z3I goal r → PtS A 171 0 [.code (sub B171 [1,0,0,0,1,0,1,0,1,0,1,0,1,0,1,1,0,1,0,0]),.inLoop (sub B171 [1,0,0,0,1,0,1,0,1,0,1,0,1,0,1,1,0,1,0,0]),.inBlock 2,.code (sub B171 [1,0,0,0,1,0,1,0,1,0,1,1]),.code (sub B171 [1,0,0,0,1,0,1,1]),.inBlock 1,.inLoop (sub B171 [1,0,0,0]),.inBlock 0,.code (sub B171 [1,1])] ⟨[(0,(.str p0)),(20,(.str p1)),(21,(.int .u64 p2)),(22,(.int .u64 p3)),(23,(.bool p4)),(31,(.str p5)),(32,(.int .u64 p6)),(33,(.str p7)),(34,(.str p8)),(35,(.int .u64 p9)),(36,(.int .u64 p10)),(37,(.int .u64 p11)),(38,(.bool p12))],[]⟩ goal
theorem zaX (n : Nat) : z6y n := by
  induction n with
  | zero => exact (fun p0 p1 p2 p3 p4 p5 p6 p7 p8 p9 p10 p11 p12 r h => z14 (Eq.trans (Eq.symm (z0X.eq_1 p0 p1 p2 p3 p4 p5 p6 p7 p8 p9 p10 p11 p12)) h))
  | succ n ih => exact (fun p0 p1 p2 p3 p4 p5 p6 p7 p8 p9 p10 p11 p12 r h goal hq => have h := Eq.trans (Eq.symm (z0X.eq_2 _ _ _ _ _ _ _ _ _ _ _ _ _ _)) h
    (z0h h (fun b18 h => (z0c h (fun b20 b19 h => (z0a h (fun b21 h => (z0c h (fun b23 b22 h => (z0a h (fun b24 h => (z0c h (fun b26 b25 h => (z0a h (fun b27 h => (z0c h (fun b29 b28 h => (z0h h (fun b30 h => (z0a h (fun b31 h => (z01 (.cut [] [0,20,21,22,23,31,32,33,34,35,36,37,38] []) 9 [⟨[],[(5,.call [] [some .str] (.int .u64 b20) [] []),(8,.call [] [some .str] (.int .u64 b23) [] []),(12,.call [] [some .str] (.int .u64 b26) [] []),(15,.call [] [some .str] (.int .u64 b29) [] [])],[(3,true),(20,true)],[],[]⟩,r0] (ai b18 (ai (z0r n p0 b20 b19) (ai b21 (ai (z0r n (p0.drop 8) b23 b22) (ai b24 (ai (z0r n (p0.drop 16) b26 b25) (ai b27 (ai (z0r n (p0.drop 24) b29 b28) (ai b30 (ai b31 (ih (p0.drop 32) p1 p2 p3 p4 p5 p6 p7 p8 p9 p10 p11 p12 r h goal hq))))))))))) (by kernel_rfl))))) (fun b30 h => (z01 (.cut [] [0,20,21,22,23,31,32,33,34,35,36,37,38] []) 5 [⟨[],[(5,.call [] [some .str] (.int .u64 b20) [] []),(8,.call [] [some .str] (.int .u64 b23) [] []),(12,.call [] [some .str] (.int .u64 b26) [] []),(15,.call [] [some .str] (.int .u64 b29) [] [])],[(3,true),(20,false)],[],[]⟩] (ai b18 (ai (z0r n p0 b20 b19) (ai b21 (ai (z0r n (p0.drop 8) b23 b22) (ai b24 (ai (z0r n (p0.drop 16) b26 b25) (ai b27 (ai (z0r n (p0.drop 24) b29 b28) (ai b30 (z0b (Φ := z3I goal) h hq)))))))))) (by kernel_rfl))))))))))))))))))) (fun b18 h => (z01 (.cut [] [0,20,21,22,23,31,32,33,34,35,36,37,38] []) 5 [⟨[],[],[(3,false)],[],[]⟩] (ai b18 (z0b (Φ := z3I goal) h hq)) (by kernel_rfl)))))
theorem zbz (n : Nat) : z6y n := (zaX n)
def z6o (goal : GoT) (r : Unit) : Prop := PtS A 171 0 [.code (sub B171 [1,1])] ⟨[],[]⟩ goal
def z6w (n : Nat) : Prop := ∀ (p0 : Str) (r : Unit),z0E n p0 = some r → ∀ (goal : GoT),z6o goal r → PtS A 171 0 [.code (sub B171 [1,0,0,0]),.inLoop (sub B171 [1,0,0,0]),.inBlock 0,.code (sub B171 [1,1])] ⟨[(0,(.str p0))],[]⟩ goal
theorem zaQ (n : Nat) : z6w n := by
  induction n with
  | zero => exact (fun p0 r h => z14 (Eq.trans (Eq.symm (z0E.eq_1 p0)) h))
  | succ n ih => exact (fun p0 r h goal hq => have h := Eq.trans (Eq.symm (z0E.eq_2 _ _)) h
    (z0h h (fun b1 h => (z0a h (fun b2 h => (z0h h (fun b3 h => (z0a h (fun b4 h => (z0h h (fun b5 h => (z0c h (fun b7 b6 h => (z0h h (fun b8 h => (z0a h (fun b9 h => (z0h h (fun b10 h => (z0c h (fun b12 b11 h => (z0a h (fun b13 h => (z0c h (fun b15 b14 h => (z0h h (fun b16 h => (z0a h (fun b17 h => (z0c h (fun b33 eb33 h => (z01 (.cut [] [0,20,21,22,23,31,32,33,34,35,36,37,38] []) 27 [⟨[],[],[(2,true)],[],[]⟩,r0,⟨[],[],[(1,true)],[],[]⟩,r0,⟨[],[(5,.call [] [some .str] (.int .u64 b7) [] [])],[(3,true),(8,true)],[],[]⟩,r0,⟨[],[(5,.call [] [some .str] (.int .u64 b12) [] []),(8,.call [] [some .str] (.int .u64 b15) [] [])],[(3,true),(12,true)],[],[]⟩,r0] (ai b1 (ai b2 (ai b3 (ai b4 (ai b5 (ai (z0r n (p0.drop 1) b7 b6) (ai b8 (ai b9 (ai b10 (ai (z0r n ((p0.drop 1).drop 8) b12 b11) (ai b13 (ai (z0r n (((p0.drop 1).drop 8).drop 8) b15 b14) (ai b16 (ai b17 (zbz n (((p0.drop 1).drop 8).drop 16) (p0.drop 1) b7 (iand .u64 b7 9259542123273814144) ((iand .u64 b7 9259542123273814144) == 0) ((p0.drop 1).drop 8) b12 ((p0.drop 1).drop 8) (((p0.drop 1).drop 8).drop 8) b15 (ior .u64 b12 b15) (iand .u64 (ior .u64 b12 b15) 9259542123273814144) ((iand .u64 (ior .u64 b12 b15) 9259542123273814144) == 0) b33 eb33 goal (z01 (.cut [] [0] []) 2 [] (ih b33.1 r h goal hq) (by kernel_rfl))))))))))))))))) (by kernel_rfl))))))) (fun b16 h => (z01 (.cut [] [0] []) 26 [⟨[],[],[(2,true)],[],[]⟩,r0,⟨[],[],[(1,true)],[],[]⟩,r0,⟨[],[(5,.call [] [some .str] (.int .u64 b7) [] [])],[(3,true),(8,true)],[],[]⟩,r0,⟨[],[(5,.call [] [some .str] (.int .u64 b12) [] []),(8,.call [] [some .str] (.int .u64 b15) [] [])],[(3,true),(12,false)],[],[]⟩] (ai b1 (ai b2 (ai b3 (ai b4 (ai b5 (ai (z0r n (p0.drop 1) b7 b6) (ai b8 (ai b9 (ai b10 (ai (z0r n ((p0.drop 1).drop 8) b12 b11) (ai b13 (ai (z0r n (((p0.drop 1).drop 8).drop 8) b15 b14) (ai b16 (ih ((p0.drop 1).drop 8) r h goal hq)))))))))))))) (by kernel_rfl))))))))))) (fun b10 h => (z01 (.cut [] [0] []) 26 [⟨[],[],[(2,true)],[],[]⟩,r0,⟨[],[],[(1,true)],[],[]⟩,r0,⟨[],[(5,.call [] [some .str] (.int .u64 b7) [] [])],[(3,true),(8,true)],[],[]⟩,r0,⟨[],[],[(3,false)],[],[]⟩] (ai b1 (ai b2 (ai b3 (ai b4 (ai b5 (ai (z0r n (p0.drop 1) b7 b6) (ai b8 (ai b9 (ai b10 (ih ((p0.drop 1).drop 8) r h goal hq)))))))))) (by kernel_rfl))))))) (fun b8 h => (z01 (.cut [] [0] []) 21 [⟨[],[],[(2,true)],[],[]⟩,r0,⟨[],[],[(1,true)],[],[]⟩,r0,⟨[],[(5,.call [] [some .str] (.int .u64 b7) [] [])],[(3,true),(8,false)],[],[]⟩] (ai b1 (ai b2 (ai b3 (ai b4 (ai b5 (ai (z0r n (p0.drop 1) b7 b6) (ai b8 (ih (p0.drop 1) r h goal hq)))))))) (by kernel_rfl))))))) (fun b5 h => (z01 (.cut [] [0] []) 21 [⟨[],[],[(2,true)],[],[]⟩,r0,⟨[],[],[(1,true)],[],[]⟩,r0,⟨[],[],[(3,false)],[],[]⟩] (ai b1 (ai b2 (ai b3 (ai b4 (ai b5 (ih (p0.drop 1) r h goal hq)))))) (by kernel_rfl))))))) (fun b3 h => (z14 h)))))) (fun b1 h => (z01 (.cut [] [] []) 5 [⟨[],[],[(2,false)],[],[]⟩] (ai b1 (z0b (Φ := z6o goal) h hq)) (by kernel_rfl)))))
theorem zbD (n : Nat) : z6w n := (zaQ n)
def z4s (goal : GoT) (r : Bool) : Prop := goal (.bool r) [] []
def z8m (a0 : Str) (r : Bool) : Prop := PE.Spec A 171 [(.str a0)] [] (.bool r) [] []
theorem zdu (a0 : Str) (r : Bool) (H : ∀ goal : GoT,z4s goal r → PtS A 171 0 [.code (sub B171 [])] ⟨[(0,(.str a0))],[]⟩ goal) : z8m a0 r :=
  z0m z05 zB9 (by kernel_rfl) (H _ ⟨rfl,rfl,rfl⟩)
theorem zdj (n : Nat) : ∀ (a0 : Str) (r : Bool),z1y n a0 = some r → ∀ (goal : GoT),z4s goal r → PtS A 171 0 [.code (sub B171 [])] ⟨[(0,(.str a0))],[]⟩ goal :=
  fun a0 r h goal hq => have h := Eq.trans (Eq.symm (z1y.eq_1 n a0)) h
    (z0c h (fun b35 eb35 h => (z01 (.cut [] [0] []) 5 [r0] (zbD n a0 b35 eb35 goal (z01 (.ret [] []) 2 [r0] (z0b (Φ := z4s goal) h hq) (by kernel_rfl))) (by kernel_rfl))))
theorem z7H (n : Nat) (a0 : Str) (r : Bool) (h : z1y n a0 = some r) : z8m a0 r := zdu a0 r (zdj n a0 r h)
def zcm (goal : GoT) (r : Bool) : Prop := goal (.bool r) [] []
def zr5 (a0 : Str) (r : Bool) : Prop := PE.Spec A 129 [(.str a0)] [] (.bool r) [] []
theorem zw5 (a0 : Str) (r : Bool) (H : ∀ goal : GoT,zcm goal r → PtS A 129 0 [.code (sub B129 [])] ⟨[(0,(.str a0))],[]⟩ goal) : zr5 a0 r :=
  z0m z05 zAV (by kernel_rfl) (H _ ⟨rfl,rfl,rfl⟩)
theorem zw0 (n : Nat) : ∀ (a0 : Str) (r : Bool),zdg n a0 = some r → ∀ (goal : GoT),zcm goal r → PtS A 129 0 [.code (sub B129 [])] ⟨[(0,(.str a0))],[]⟩ goal :=
  fun a0 r h goal hq => have h := Eq.trans (Eq.symm (zdg.eq_1 n a0)) h
    (z0h h (fun b1 h => (z0c h (fun b3 b2 h => (z01 (.ret [] []) 4 [r0,⟨[],[(5,.call [] [some .str] (.bool b3) [] [])],[(3,true)],[],[]⟩] (ai b1 (ai (z7H n a0 b3 b2) (z0b (Φ := zcm goal) h hq))) (by kernel_rfl))))) (fun b1 h => (z01 (.ret [] []) 4 [r0,⟨[],[],[(3,false)],[],[]⟩] (ai b1 (z0b (Φ := zcm goal) h hq)) (by kernel_rfl))))
theorem z9n (n : Nat) (a0 : Str) (r : Bool) (h : zdg n a0 = some r) : zr5 a0 r := zw5 a0 r (zw0 n a0 r h)
def z8d (goal : GoT) (r : (Sum Unit z00)) : Prop := (Sum.elim (fun x => PtS A 130 0 [.code .ret] ⟨[(2,(.bool false))],[]⟩ goal) (fun x => PtS A 130 0 [.code (sub B130 [1,1,1])] ⟨[(1,(.ptr 0 0))],[(0,(.box [(.ii x.z0i),(.bool x.z0K),(.ii x.z0n),(.str x.z0D),(.lst .str x.z0d 0),(.lst (.user 2) x.z09 0)]))]⟩ goal)) r
def zh6 (n : Nat) : Prop := ∀ (p0 : (List Str)) (p1 : Int) (p2 : Int) (p3 : z00) (p4 : (List (Str × Bool))) (r : (Sum Unit z00)),z5q n p0 p1 p2 p3 p4 = some r → ∀ (goal : GoT),z8d goal r → PtS A 130 0 [.code (sub B130 [1,1,0,1,0,0]),.inLoop (sub B130 [1,1,0,1,0,0]),.inBlock 0,.code (sub B130 [1,1,1])] ⟨[(1,(.ptr 0 0)),(3,(.map 1)),(8,(.lst .str p0 0)),(9,(.ii p1)),(10,(.ii p2))],[(0,(.box [(.ii p3.z0i),(.bool p3.z0K),(.ii p3.z0n),(.str p3.z0D),(.lst .str p3.z0d 0),(.lst (.user 2) p3.z09 0)])),(1,(.tmap .str .bool p4))]⟩ goal
theorem zn2 (n : Nat) : zh6 n := by
  induction n with
  | zero => exact (fun p0 p1 p2 p3 p4 r h => z14 (Eq.trans (Eq.symm (z5q.eq_1 p0 p1 p2 p3 p4)) h))
  | succ n ih => exact (fun p0 p1 p2 p3 p4 r h goal hq => have h := Eq.trans (Eq.symm (z5q.eq_2 _ _ _ _ _ _)) h
    (z0h h (fun b1 h => (z0a h (fun b2 h => (z0h h (fun b3 h => (z01 (.cutRet [] [2] []) 15 [⟨[],[],[(0,true)],[],[]⟩,r0,⟨[],[],[(3,true)],[],[]⟩,r0] (ai b1 (ai b2 (ai b3 (z0b (Φ := z8d goal) h hq)))) (by kernel_rfl))) (fun b3 h => (z0c h (fun b5 b4 h => (z0h h (fun b6 h => (z01 (.cutRet [] [2] []) 15 [⟨[],[],[(0,true)],[],[]⟩,r0,⟨[],[(5,.call [] [some .str] (.bool b5) [] [])],[(3,false),(7,true)],[],[]⟩,r0] (ai b1 (ai b2 (ai b3 (ai (z9n n (rd [] p0 p2) b5 b4) (ai b6 (z0b (Φ := z8d goal) h hq)))))) (by kernel_rfl))) (fun b6 h => (z01 (.cut [] [1,3,8,9,10] [0,1]) 18 [⟨[],[],[(0,true)],[],[]⟩,r0,⟨[],[(5,.call [] [some .str] (.bool b5) [] [])],[(3,false),(7,false)],[],[]⟩,r0,r0] (ai b1 (ai b2 (ai b3 (ai (z9n n (rd [] p0 p2) b5 b4) (ai b6 (ih p0 p1 (z07 (p2 + 1)) p3 (ast (fun y => (rd [] p0 p2) == y) (rd [] p0 p2) true p4) r h goal hq)))))) (by cases p3; kernel_rfl))))))))))) (fun b1 h => (z01 (.cut [] [1] [0]) 5 [⟨[],[],[(0,false)],[],[]⟩] (ai b1 (z0b (Φ := z8d goal) h hq)) (by cases p3; kernel_rfl)))))
theorem zoP (n : Nat) : zh6 n := (zn2 n)
def zba (goal : GoT) (r : Bool) : Prop := goal (.bool r) [] []
def zob (a0 : z00) (r : Bool) : Prop := PE.Spec A 130 [(vu2 a0)] [] (.bool r) [] []
theorem ztg (a0 : z00) (r : Bool) (H : ∀ goal : GoT,zba goal r → PtS A 130 0 [.code (sub B130 [])] ⟨[(0,(vu2 a0))],[]⟩ goal) : zob a0 r :=
  z0m z05 zC8 (by kernel_rfl) (H _ ⟨rfl,rfl,rfl⟩)
theorem zte (n : Nat) : ∀ (a0 : z00) (r : Bool),zcH n a0 = some r → ∀ (goal : GoT),zba goal r → PtS A 130 0 [.code (sub B130 [])] ⟨[(0,(vu2 a0))],[]⟩ goal :=
  fun a0 r h goal hq => have h := Eq.trans (Eq.symm (zcH.eq_1 n a0)) h
    (z0c h (fun b7 eb7 h => (z01 (.cut [] [1,3,8,9,10] [100000,200000]) 9 [r0,r0,r0] (zoP n a0.z0d (a0.z0d.length : Int) 0 a0 ([] : List (Str × Bool)) b7 eb7 goal (match b7,h with | .inl b8,h => (z01 (.ret [] []) 0 [] (z0b (Φ := zba goal) h hq) (by kernel_rfl)) | .inr b9,h => (z01 (.ret [] []) 2 [r0] (z0b (Φ := zba goal) h hq) (by kernel_rfl)))) (by cases a0; kernel_rfl))))
theorem zlW (n : Nat) (a0 : z00) (r : Bool) (h : zcH n a0 = some r) : zob a0 r := ztg a0 r (zte n a0 r h)
def z4C (goal : GoT) (r : Bool) : Prop := goal (.bool r) [] []
def znG (a0 : z00) (a1 : Int) (r : Bool) : Prop := PE.Spec A 94 [(vu2 a0),(.ii a1)] [] (.bool r) [] []
theorem zkW (a0 : z00) (a1 : Int) (r : Bool) (H : ∀ goal : GoT,z4C goal r → PtS A 94 0 [.code (sub B94 [])] ⟨[(0,(vu2 a0)),(1,(.ii a1))],[]⟩ goal) : znG a0 a1 r :=
  z0m z05 zDB (by kernel_rfl) (H _ ⟨rfl,rfl,rfl⟩)
def z1I (goal : GoT) (r : (Bool × Int)) : Prop := goal (.bool r.1) [(.box [(.ii r.2)])] []
def z3K (a0 : (List z00)) (a1 : Int) (r : (Bool × Int)) : Prop := PE.Spec A 131 [(.lst (.user 2) a0 0),(.fn 132 [] [(.ptr 0 0)])] [(.box [(.ii a1)])] (.bool r.1) [(.box [(.ii r.2)])] []
theorem z1Z (a0 : (List z00)) (a1 : Int) (r : (Bool × Int)) (H : ∀ goal : GoT,z1I goal r → PtS A 131 1 [.code (sub B131 [])] ⟨[(0,(.lst (.user 2) a0 0)),(1,(.fn 132 [] [(.ptr 0 0)]))],[(0,(.box [(.ii a1)]))]⟩ goal) : z3K a0 a1 r :=
  z0m z05 zAD (by kernel_rfl) (H _ ⟨rfl,rfl,rfl⟩)
def z1J (goal : GoT) (r : (Sum (Int × Int) Int)) : Prop := (Sum.elim (fun x => PtS A 172 1 [.code .ret] ⟨[(4,(.ii x.1))],[(0,(.box [(.ii x.2)]))]⟩ goal) (fun x => PtS A 172 1 [.code (sub B172 [1,1])] ⟨[],[(0,(.box [(.ii x)]))]⟩ goal)) r
def z1m (goal : GoT) (r : (Int × Int)) : Prop := goal (.ii r.1) [(.box [(.ii r.2)])] []
def z4n (a0 : (List z00)) (a1 : Int) (r : (Int × Int)) : Prop := PE.Spec A 172 [(.lst (.user 2) a0 0),(.fn 132 [] [(.ptr 0 0)])] [(.box [(.ii a1)])] (.ii r.1) [(.box [(.ii r.2)])] []
theorem z4f (a0 : (List z00)) (a1 : Int) (r : (Int × Int)) (H : ∀ goal : GoT,z1m goal r → PtS A 172 1 [.code (sub B172 [])] ⟨[(0,(.lst (.user 2) a0 0)),(1,(.fn 132 [] [(.ptr 0 0)]))],[(0,(.box [(.ii a1)]))]⟩ goal) : z4n a0 a1 r :=
  z0m z05 zAH (by kernel_rfl) (H _ ⟨rfl,rfl,rfl⟩)
def zbP (a1 : Int) (goal : GoT) (r : Bool) : Prop := goal (.bool r) [(.box [(.ii a1)])] []
def zjG (a0 : z00) (a1 : Int) (r : Bool) : Prop := PE.Spec A 132 [(vu2 a0),(.ptr 0 0)] [(.box [(.ii a1)])] (.bool r) [(.box [(.ii a1)])] []
theorem zcT (a0 : z00) (a1 : Int) (r : Bool) (H : ∀ goal : GoT,zbP a1 goal r → PtS A 132 1 [.code (sub B132 [])] ⟨[(0,(vu2 a0)),(1,(.ptr 0 0))],[(0,(.box [(.ii a1)]))]⟩ goal) : zjG a0 a1 r :=
  z0m z05 zCe (by kernel_rfl) (H _ ⟨rfl,rfl,rfl⟩)
def zm9 (n : Nat) : Prop := ∀ (a0 : z00) (a1 : Int) (r : Bool),z8c n a0 a1 = some r → ∀ (goal : GoT),z4C goal r → PtS A 94 0 [.code (sub B94 [])] ⟨[(0,(vu2 a0)),(1,(.ii a1))],[]⟩ goal
def z3A (n : Nat) : Prop := ∀ (a0 : (List z00)) (a1 : Int) (r : (Bool × Int)),z0C n a0 a1 = some r → ∀ (goal : GoT),z1I goal r → PtS A 131 1 [.code (sub B131 [])] ⟨[(0,(.lst (.user 2) a0 0)),(1,(.fn 132 [] [(.ptr 0 0)]))],[(0,(.box [(.ii a1)]))]⟩ goal
def z3z (n : Nat) : Prop := ∀ (p0 : (List z00)) (p1 : Int) (p2 : Int) (p3 : Int) (r : (Sum (Int × Int) Int)),z0B n p0 p1 p2 p3 = some r → ∀ (goal : GoT),z1J goal r → PtS A 172 1 [.code (sub B172 [1,0,1,0,0]),.inLoop (sub B172 [1,0,1,0,0]),.inBlock 0,.code (sub B172 [1,1])] ⟨[(0,(.lst (.user 2) p0 0)),(1,(.fn 132 [] [(.ptr 0 0)])),(7,(.ii p1)),(8,(.ii p2))],[(0,(.box [(.ii p3)]))]⟩ goal
def z4g (n : Nat) : Prop := ∀ (a0 : (List z00)) (a1 : Int) (r : (Int × Int)),z0U n a0 a1 = some r → ∀ (goal : GoT),z1m goal r → PtS A 172 1 [.code (sub B172 [])] ⟨[(0,(.lst (.user 2) a0 0)),(1,(.fn 132 [] [(.ptr 0 0)]))],[(0,(.box [(.ii a1)]))]⟩ goal
def zhn (n : Nat) : Prop := ∀ (a0 : z00) (a1 : Int) (r : Bool),z9q n a0 a1 = some r → ∀ (goal : GoT),zbP a1 goal r → PtS A 132 1 [.code (sub B132 [])] ⟨[(0,(vu2 a0)),(1,(.ptr 0 0))],[(0,(.box [(.ii a1)]))]⟩ goal
theorem z8G (n : Nat) : zm9 n ∧ z3A n ∧ z3z n ∧ z4g n ∧ zhn n := by
  induction n with
  | zero => exact ⟨(fun a0 a1 r h => z14 (Eq.trans (Eq.symm (z8c.eq_1 a0 a1)) h)),(fun a0 a1 r h => z14 (Eq.trans (Eq.symm (z0C.eq_1 a0 a1)) h)),(fun p0 p1 p2 p3 r h => z14 (Eq.trans (Eq.symm (z0B.eq_1 p0 p1 p2 p3)) h)),(fun a0 a1 r h => z14 (Eq.trans (Eq.symm (z0U.eq_1 a0 a1)) h)),(fun a0 a1 r h => z14 (Eq.trans (Eq.symm (z9q.eq_1 a0 a1)) h))⟩
  | succ n ih => exact ⟨(fun a0 a1 r h goal hq => have h := Eq.trans (Eq.symm (z8c.eq_2 _ _ _)) h
    (z0h h (fun b1 h => (z01 (.ret [] []) 8 [r0,⟨[],[],[(12,true)],[(3,true),(4,true),(5,true),(6,false),(8,true),(9,true),(10,true),(11,false)],[2,7]⟩,r0] (ai b1 (z0b (Φ := z4C goal) h hq)) (by kernel_rfl))) (fun b1 h => (z0c h (fun b3 b2 h => (z0h h (fun b4 h => (z01 (.ret [] []) 8 [r0,⟨[],[(14,.call [] [some (.user 2)] (.bool b3) [] [])],[(12,false),(17,true)],[(3,true),(4,true),(5,true),(6,false),(8,true),(9,true),(10,true),(11,false)],[2,7]⟩,r0] (ai b1 (ai (z8I n a0 b3 b2) (ai b4 (z0b (Φ := z4C goal) h hq)))) (by cases a0; kernel_rfl))) (fun b4 h => (z0c h (fun b6 b5 h => (z0h h (fun b7 h => (z01 (.ret [] []) 8 [r0,⟨[],[(14,.call [] [some (.user 2)] (.bool b3) [] []),(20,.call [] [some .str] (.bool b6) [] [])],[(12,false),(17,false),(28,true)],[(3,true),(4,true),(5,true),(6,false),(8,true),(9,true),(10,true),(11,false),(24,true),(25,true),(26,true),(27,true),(28,false)],[2,7,23]⟩,r0] (ai b1 (ai (z8I n a0 b3 b2) (ai b4 (ai (z9n n a0.z0D b6 b5) (ai b7 (z0b (Φ := z4C goal) h hq)))))) (by cases a0; kernel_rfl))) (fun b7 h => (z0h h (fun b8 h => (z0c h (fun b10 b9 h => (z0h h (fun b11 h => (z01 (.ret [] []) 13 [r0,⟨[],[(14,.call [] [some (.user 2)] (.bool b3) [] []),(20,.call [] [some .str] (.bool b6) [] [])],[(12,false),(17,false),(28,false)],[(3,true),(4,true),(5,true),(6,false),(8,true),(9,true),(10,true),(11,false),(24,true),(25,true),(26,true),(27,true),(28,false)],[2,7,23]⟩,⟨[],[(5,.call [] [some (.user 2)] (.bool b10) [] [])],[(3,true),(7,true)],[],[]⟩,r0] (ai b1 (ai (z8I n a0 b3 b2) (ai b4 (ai (z9n n a0.z0D b6 b5) (ai b7 (ai b8 (ai (zlW n a0 b10 b9) (ai b11 (z0b (Φ := z4C goal) h hq))))))))) (by cases a0; kernel_rfl))) (fun b11 h => (z0c h (fun b13 b12 h => (z01 (.ret [] []) 14 [r0,⟨[],[(14,.call [] [some (.user 2)] (.bool b3) [] []),(20,.call [] [some .str] (.bool b6) [] [])],[(12,false),(17,false),(28,false)],[(3,true),(4,true),(5,true),(6,false),(8,true),(9,true),(10,true),(11,false),(24,true),(25,true),(26,true),(27,true),(28,false)],[2,7,23]⟩,⟨[],[(5,.call [] [some (.user 2)] (.bool b10) [] [])],[(3,true),(7,false)],[],[]⟩,⟨[],[(3,.call [100100] [some (.list (.user 2)),none] (.bool b13.1) [(.box [(.ii b13.2)])] [])],[],[],[]⟩] (ai b1 (ai (z8I n a0 b3 b2) (ai b4 (ai (z9n n a0.z0D b6 b5) (ai b7 (ai b8 (ai (zlW n a0 b10 b9) (ai b11 (ai (z1Z a0.z09 a1 b13 (ih.2.1 a0.z09 a1 b13 b12)) (z0b (Φ := z4C goal) h hq)))))))))) (by cases a0; kernel_rfl))))))))) (fun b8 h => (z0c h (fun b15 b14 h => (z01 (.ret [] []) 14 [r0,⟨[],[(14,.call [] [some (.user 2)] (.bool b3) [] []),(20,.call [] [some .str] (.bool b6) [] [])],[(12,false),(17,false),(28,false)],[(3,true),(4,true),(5,true),(6,false),(8,true),(9,true),(10,true),(11,false),(24,true),(25,true),(26,true),(27,true),(28,false)],[2,7,23]⟩,⟨[],[],[(3,false)],[],[]⟩,⟨[],[(3,.call [100100] [some (.list (.user 2)),none] (.bool b15.1) [(.box [(.ii b15.2)])] [])],[],[],[]⟩] (ai b1 (ai (z8I n a0 b3 b2) (ai b4 (ai (z9n n a0.z0D b6 b5) (ai b7 (ai b8 (ai (z1Z a0.z09 a1 b15 (ih.2.1 a0.z09 a1 b15 b14)) (z0b (Φ := z4C goal) h hq)))))))) (by cases a0; kernel_rfl))))))))))))))))),(fun a0 a1 r h goal hq => have h := Eq.trans (Eq.symm (z0C.eq_2 _ _ _)) h
    (z0c h (fun b2 b1 h => (z01 (.ret [] []) 4 [r0,⟨[],[(2,.call [0] [some (.list (.user 2)),none] (.ii b2.1) [(.box [(.ii b2.2)])] [])],[],[],[]⟩] (ai (z4f a0 a1 b2 (ih.2.2.2.1 a0 a1 b2 b1)) (z0b (Φ := z1I goal) h hq)) (by kernel_rfl))))),(fun p0 p1 p2 p3 r h goal hq => have h := Eq.trans (Eq.symm (z0B.eq_2 _ _ _ _ _)) h
    (z0h h (fun b1 h => (z0a h (fun b2 h => (z0c h (fun b4 b3 h => (z0h h (fun b5 h => (z01 (.cutRet [] [4] [0]) 14 [⟨[],[],[(0,true)],[],[]⟩,r0,⟨[],[(5,.call [0] [some (.user 2),none] (.bool b4) [(.box [(.ii p3)])] [])],[(5,true)],[],[]⟩,r0] (ai b1 (ai b2 (ai (zcT (rd z00.dft p0 p2) p3 b4 (ih.2.2.2.2 (rd z00.dft p0 p2) p3 b4 b3)) (ai b5 (z0b (Φ := z1J goal) h hq))))) (by rw [← z00.eta (rd z00.dft p0 p2)]; kernel_rfl))) (fun b5 h => (z01 (.cut [] [0,1,7,8] [0]) 16 [⟨[],[],[(0,true)],[],[]⟩,r0,⟨[],[(5,.call [0] [some (.user 2),none] (.bool b4) [(.box [(.ii p3)])] [])],[(5,false)],[],[]⟩,r0] (ai b1 (ai b2 (ai (zcT (rd z00.dft p0 p2) p3 b4 (ih.2.2.2.2 (rd z00.dft p0 p2) p3 b4 b3)) (ai b5 (ih.2.2.1 p0 p1 (z07 (p2 + 1)) p3 r h goal hq))))) (by rw [← z00.eta (rd z00.dft p0 p2)]; kernel_rfl))))))))) (fun b1 h => (z01 (.cut [] [] [0]) 5 [⟨[],[],[(0,false)],[],[]⟩] (ai b1 (z0b (Φ := z1J goal) h hq)) (by kernel_rfl))))),(fun a0 a1 r h goal hq => have h := Eq.trans (Eq.symm (z0U.eq_2 _ _ _)) h
    (z0c h (fun b6 eb6 h => (z01 (.cut [] [0,1,7,8] [0]) 7 [r0,r0] (ih.2.2.1 a0 (a0.length : Int) 0 a1 b6 eb6 goal (match b6,h with | .inl b7,h => (z01 (.ret [] []) 0 [] (z0b (Φ := z1m goal) h hq) (by kernel_rfl)) | .inr b8,h => (z01 (.ret [] []) 2 [r0] (z0b (Φ := z1m goal) h hq) (by kernel_rfl)))) (by kernel_rfl))))),(fun a0 a1 r h goal hq => have h := Eq.trans (Eq.symm (z9q.eq_2 _ _ _)) h
    (z0c h (fun b2 b1 h => (z01 (.ret [] []) 4 [r0,⟨[],[(3,.call [] [some (.user 2),some (.int .i64)] (.bool b2) [] [])],[],[],[]⟩] (ai (zkW a0 (z07 (a1 - 1)) b2 (ih.1 a0 (z07 (a1 - 1)) b2 b1)) (z0b (Φ := zbP a1 goal) h hq)) (by cases a0; kernel_rfl)))))⟩
theorem ztE (n : Nat) : zm9 n := (z8G n).1
theorem z7t (n : Nat) : z3A n := (z8G n).2.1
theorem zhh (n : Nat) : z3z n := (z8G n).2.2.1
theorem z7W (n : Nat) : z4g n := (z8G n).2.2.2.1
theorem zrd (n : Nat) : zhn n := (z8G n).2.2.2.2
theorem zup (n : Nat) (a0 : z00) (a1 : Int) (r : Bool) (h : z8c n a0 a1 = some r) : znG a0 a1 r := zkW a0 a1 r (ztE n a0 a1 r h)
theorem zhg (n : Nat) (a0 : (List z00)) (a1 : Int) (r : (Bool × Int)) (h : z0C n a0 a1 = some r) : z3K a0 a1 r := z1Z a0 a1 r (z7t n a0 a1 r h)
theorem ziT (n : Nat) (a0 : (List z00)) (a1 : Int) (r : (Int × Int)) (h : z0U n a0 a1 = some r) : z4n a0 a1 r := z4f a0 a1 r (z7W n a0 a1 r h)
theorem zzg (n : Nat) (a0 : z00) (a1 : Int) (r : Bool) (h : z9q n a0 a1 = some r) : zjG a0 a1 r := zcT a0 a1 r (zrd n a0 a1 r h)
def zeD (goal : GoT) (r : Bool) : Prop := goal (.bool r) [] []
def znU (a0 : z00) (r : Bool) : Prop := PE.Spec A 62 [(vu2 a0)] [] (.bool r) [] []
theorem ztx (a0 : z00) (r : Bool) (H : ∀ goal : GoT,zeD goal r → PtS A 62 0 [.code (sub B62 [])] ⟨[(0,(vu2 a0))],[]⟩ goal) : znU a0 r :=
  z0m z05 zDk (by kernel_rfl) (H _ ⟨rfl,rfl,rfl⟩)
theorem zu3 (n : Nat) : ∀ (a0 : z00) (r : Bool),zaY n a0 = some r → ∀ (goal : GoT),zeD goal r → PtS A 62 0 [.code (sub B62 [])] ⟨[(0,(vu2 a0))],[]⟩ goal :=
  fun a0 r h goal hq => have h := Eq.trans (Eq.symm (zaY.eq_1 n a0)) h
    (z0c h (fun b2 b1 h => (z01 (.ret [] []) 4 [r0,⟨[],[(1,.call [] [some (.user 2),some (.int .i64)] (.bool b2) [] [])],[],[],[]⟩] (ai (zup n a0 8 b2 b1) (z0b (Φ := zeD goal) h hq)) (by cases a0; kernel_rfl))))
theorem za5 (n : Nat) (a0 : z00) (r : Bool) (h : zaY n a0 = some r) : znU a0 r := ztx a0 r (zu3 n a0 r h)
def zaE (goal : GoT) (r : Int) : Prop := goal (.ii r) [] []
def ziw (a0 : Int) (r : Int) : Prop := PE.Spec A 63 [(.ii a0)] [] (.ii r) [] []
theorem zom (a0 : Int) (r : Int) (H : ∀ goal : GoT,zaE goal r → PtS A 63 0 [.code (sub B63 [])] ⟨[(0,(.ii a0))],[]⟩ goal) : ziw a0 r :=
  z0m z05 zDy (by kernel_rfl) (H _ ⟨rfl,rfl,rfl⟩)
theorem zoo (n : Nat) : ∀ (a0 : Int) (r : Int),z9G n a0 = some r → ∀ (goal : GoT),zaE goal r → PtS A 63 0 [.code (sub B63 [])] ⟨[(0,(.ii a0))],[]⟩ goal :=
  fun a0 r h goal hq => have h := Eq.trans (Eq.symm (z9G.eq_1 n a0)) h
    (z0c h (fun b2 b1 h => (z01 (.ret [] []) 4 [r0,⟨[],[(0,.call [] [] (.map 0) [] [(.tmap (.int .i64) (.user 4) ((ast (fun y => 8 == y) 8 (⟨([49,65,65,76] : Str),6⟩ : z04) (ast (fun y => 7 == y) 7 (⟨([83] : Str),626⟩ : z04) (ast (fun y => 6 == y) 6 (⟨([77] : Str),2⟩ : z04) (ast (fun y => 5 == y) 5 (⟨([48,65] : Str),16⟩ : z04) (ast (fun y => 4 == y) 4 (⟨([65] : Str),32⟩ : z04) (ast (fun y => 3 == y) 3 (⟨([66] : Str),32⟩ : z04) (ast (fun y => 2 == y) 2 (⟨([68] : Str),32⟩ : z04) (ast (fun y => 1 == y) 1 (⟨([69] : Str),32⟩ : z04) ([] : List (Int × z04)))))))))) : (List (Int × z04))))])],[],[],[]⟩] (ai (z5F n  b2 b1) (z0b (Φ := zaE goal) h hq)) (by kernel_rfl))))
theorem zoz (n : Nat) (a0 : Int) (r : Int) (h : z9G n a0 = some r) : ziw a0 r := zom a0 r (zoo n a0 r h)
def z4l (goal : GoT) (r : Bool) : Prop := goal (.bool r) [] []
def zeb (a0 : z02) (r : Bool) : Prop := PE.Spec A 28 [(vu1 a0)] [] (.bool r) [] []
theorem zkA (a0 : z02) (r : Bool) (H : ∀ goal : GoT,z4l goal r → PtS A 28 0 [.code (sub B28 [])] ⟨[(0,(vu1 a0))],[]⟩ goal) : zeb a0 r :=
  z0m z05 zDs (by kernel_rfl) (H _ ⟨rfl,rfl,rfl⟩)
theorem zkt (n : Nat) : ∀ (a0 : z02) (r : Bool),z5h n a0 = some r → ∀ (goal : GoT),z4l goal r → PtS A 28 0 [.code (sub B28 [])] ⟨[(0,(vu1 a0))],[]⟩ goal :=
  fun a0 r h goal hq => have h := Eq.trans (Eq.symm (z5h.eq_1 n a0)) h
    (z0c h (fun b2 b1 h => (z0h h (fun b3 h => (z0c h (fun b5 b4 h => (z0h h (fun b6 h => (z0c h (fun b8 b7 h => (z01 (.ret [] []) 6 [r0,r0,⟨[],[(2,.call [] [some .str] (.bool b2) [] []),(6,.call [] [some (.user 2)] (.bool b5) [] []),(24,.call [] [some (.int .i64)] (.ii b8) [] [])],[(3,true),(20,true)],[(9,true),(10,true),(11,true),(12,true),(13,true),(14,true),(15,true),(16,true),(17,true),(18,true),(19,false)],[8,11,15]⟩] (ai (zeE n a0.z0L b2 b1) (ai b3 (ai (za5 n a0.z0j b5 b4) (ai b6 (ai (zoz n 5 b8 b7) (z0b (Φ := z4l goal) h hq)))))) (by rw [← z00.eta a0.z0j]; kernel_rfl))))) (fun b6 h => (z01 (.ret [] []) 6 [r0,r0,⟨[],[(2,.call [] [some .str] (.bool b2) [] []),(6,.call [] [some (.user 2)] (.bool b5) [] [])],[(3,true),(20,false)],[(9,true),(10,true),(11,true),(12,true),(13,true),(14,true),(15,true),(16,true),(17,true),(18,true),(19,false)],[8,11,15]⟩] (ai (zeE n a0.z0L b2 b1) (ai b3 (ai (za5 n a0.z0j b5 b4) (ai b6 (z0b (Φ := z4l goal) h hq))))) (by rw [← z00.eta a0.z0j]; kernel_rfl))))))) (fun b3 h => (z01 (.ret [] []) 6 [r0,r0,⟨[],[(2,.call [] [some .str] (.bool b2) [] [])],[(3,false)],[],[]⟩] (ai (zeE n a0.z0L b2 b1) (ai b3 (z0b (Φ := z4l goal) h hq))) (by kernel_rfl))))))
theorem z98 (n : Nat) (a0 : z02) (r : Bool) (h : z5h n a0 = some r) : zeb a0 r := zkA a0 r (zkt n a0 r h)
def zhH (goal : GoT) (r : (Int × Bool × Int × Str × (List Str) × (List z00))) : Prop := PtS A 66 0 [.code (sub B66 [1,1,1])] ⟨[(1,(.ptr 0 0)),(2,(.ptr 1 0))],[(0,(.box [(.ii r.1),(.bool r.2.1),(.ii r.2.2.1),(.str r.2.2.2.1),(.row 2),(.row 3)])),(1,(.box [(.ii 0),(.bool false),(.ii 0),(.str []),.nil,.nil])),(2,(.row .str r.2.2.2.2.1 0)),(3,(.row (.user 2) r.2.2.2.2.2 0))]⟩ goal
def zi0 (goal : GoT) (r : z00) : Prop := goal (.agg [(.ii r.z0i),(.bool r.z0K),(.ii r.z0n),(.str r.z0D),(.row 0),(.row 1)]) [] [(.row .str r.z0d 0),(.row (.user 2) r.z09 0)]
def zn7 (a0 : z00) (r : z00) : Prop := PE.Spec A 66 [(vu2 a0)] [] (.agg [(.ii r.z0i),(.bool r.z0K),(.ii r.z0n),(.str r.z0D),(.row 0),(.row 1)]) [] [(.row .str r.z0d 0),(.row (.user 2) r.z09 0)]
theorem zpl (a0 : z00) (r : z00) (H : ∀ goal : GoT,zi0 goal r → PtS A 66 0 [.code (sub B66 [])] ⟨[(0,(vu2 a0))],[]⟩ goal) : zn7 a0 r :=
  z0m z05 zCY (by kernel_rfl) (H _ ⟨rfl,rfl,rfl⟩)
theorem zlb (a0 : z00) (r : z00) (H : zn7 a0 r) : PE.Spec A 66 [(vu2 a0)] [] (vu2 r) [] [] :=
  z6S (.user 2) r (by cases r; kernel_rfl) H
def zjQ (n : Nat) : Prop := ∀ (p0 : Int) (p1 : Int) (p2 : Int) (p3 : Bool) (p4 : Int) (p5 : Str) (p6 : (List z00)) (p7 : (List Str)) (r : (Int × Bool × Int × Str × (List Str) × (List z00))),z7S n p0 p1 p2 p3 p4 p5 p6 p7 = some r → ∀ (goal : GoT),zhH goal r → PtS A 66 0 [.code (sub B66 [1,1,0,1,0,0]),.inLoop (sub B66 [1,1,0,1,0,0]),.inBlock 0,.code (sub B66 [1,1,1])] ⟨[(1,(.ptr 0 0)),(2,(.ptr 1 0)),(14,(.row 2)),(15,(.ii p0)),(16,(.ii p1))],[(0,(.box [(.ii p2),(.bool p3),(.ii p4),(.str p5),(.row 3),(.row 2)])),(1,(.box [(.ii 0),(.bool false),(.ii 0),(.str []),.nil,.nil])),(2,(.row (.user 2) p6 0)),(3,(.row .str p7 0))]⟩ goal
def zpg (n : Nat) : Prop := ∀ (a0 : z00) (r : z00),z9O n a0 = some r → ∀ (goal : GoT),zi0 goal r → PtS A 66 0 [.code (sub B66 [])] ⟨[(0,(vu2 a0))],[]⟩ goal
theorem ziG (n : Nat) : zjQ n ∧ zpg n := by
  induction n with
  | zero => exact ⟨(fun p0 p1 p2 p3 p4 p5 p6 p7 r h => z14 (Eq.trans (Eq.symm (z7S.eq_1 p0 p1 p2 p3 p4 p5 p6 p7)) h)),(fun a0 r h => z14 (Eq.trans (Eq.symm (z9O.eq_1 a0)) h))⟩
  | succ n ih => exact ⟨(fun p0 p1 p2 p3 p4 p5 p6 p7 r h goal hq => have h := Eq.trans (Eq.symm (z7S.eq_2 _ _ _ _ _ _ _ _ _)) h
    (z0h h (fun b5 h => (z0a h (fun b6 h => (z0a h (fun b7 h => (z0c h (fun b9 b8 h => (z0a h (fun b10 h => (z0a h (fun b11 h => (z01 (.cut [] [1,2,14,15,16] [0,1,2,3]) 13 [⟨[],[],[(0,true)],[],[]⟩,r0,⟨[],[(4,.call [] [some (.user 2)] (vu2 b9) [] [])],[],[],[]⟩,r0] (ai b5 (ai b6 (ai b7 (ai (zlb (rd z00.dft p6 p1) b9 (zpl (rd z00.dft p6 p1) b9 (ih.2 (rd z00.dft p6 p1) b9 b8))) (ai b10 (ai b11 (ih.1 p0 (z07 (p1 + 1)) p2 p3 p4 p5 (p6.set (p1).toNat b9) p7 r h goal hq))))))) (by rw [← z00.eta (rd z00.dft p6 p1)]; cases b9; kernel_rfl))))))))))))) (fun b5 h => (z01 (.cut [] [1,2] [0,1,3,2]) 5 [⟨[],[],[(0,false)],[],[]⟩] (ai b5 (z0b (Φ := zhH goal) h hq)) (by kernel_rfl))))),(fun a0 r h goal hq => have h := Eq.trans (Eq.symm (z9O.eq_2 _ _)) h
    (z0c h (fun b2 b1 h => (z0c h (fun b4 b3 h => (z0c h (fun b13 eb13 h => (z01 (.cut [] [1,2,14,15,16] [100000,100100,200500,200200]) 9 [r0,⟨[],[(2,.call [] [some (.list .str)] (.row 0) [] [(.row .str b2 0)]),(5,.call [] [some (.list (.user 2))] (.row 0) [] [(.row (.user 2) b4 0)])],[],[],[]⟩,r0] (ai (z3Y a0.z0d b2 b1) (ai (z5e a0.z09 b4 b3) (ih.1 (b4.length : Int) 0 a0.z0i a0.z0K a0.z0n a0.z0D b4 b2 b13 eb13 goal (z01 (.ret [] [2,3]) 2 [r0] (z0b (Φ := zi0 goal) h hq) (by kernel_rfl))))) (by kernel_rfl)))))))))⟩
theorem zzq (n : Nat) : zjQ n := (ziG n).1
theorem zwN (n : Nat) : zpg n := (ziG n).2
theorem zwz (n : Nat) (a0 : z00) (r : z00) (h : z9O n a0 = some r) : zn7 a0 r := zpl a0 r (zwN n a0 r h)
theorem znO (n : Nat) (a0 : z00) (r : z00) (h : z9O n a0 = some r) : PE.Spec A 66 [(vu2 a0)] [] (vu2 r) [] [] := zlb a0 r (zwz n a0 r h)
def ziB (goal : GoT) (r : z00) : Prop := goal (vu2 r) [] []
def zsQ (a0 : (List Str)) (a1 : (List z00)) (r : z00) : Prop := PE.Spec A 30 [(.lst .str a0 0),(.lst (.user 2) a1 0)] [] (vu2 r) [] []
theorem zw8 (a0 : (List Str)) (a1 : (List z00)) (r : z00) (H : ∀ goal : GoT,ziB goal r → PtS A 30 0 [.code (sub B30 [])] ⟨[(0,(.lst .str a0 0)),(1,(.lst (.user 2) a1 0))],[]⟩ goal) : zsQ a0 a1 r :=
  z0m z05 zDN (by kernel_rfl) (H _ ⟨rfl,rfl,rfl⟩)
theorem zwW (n : Nat) : ∀ (a0 : (List Str)) (a1 : (List z00)) (r : z00),zgc n a0 a1 = some r → ∀ (goal : GoT),ziB goal r → PtS A 30 0 [.code (sub B30 [])] ⟨[(0,(.lst .str a0 0)),(1,(.lst (.user 2) a1 0))],[]⟩ goal :=
  fun a0 a1 r h goal hq => have h := Eq.trans (Eq.symm (zgc.eq_1 n a0 a1)) h
    (z0c h (fun b2 b1 h => (z01 (.ret [.bNorm 100000 2] []) 4 [r0,⟨[],[(3,.call [] [some (.user 2)] (vu2 b2) [] [])],[],[],[]⟩] (ai (znO n (⟨5,false,0,[],a0,a1⟩ : z00) b2 b1) (z0b (Φ := ziB goal) h hq)) (by cases b2; kernel_rfl))))
theorem zk7 (n : Nat) (a0 : (List Str)) (a1 : (List z00)) (r : z00) (h : zgc n a0 a1 = some r) : zsQ a0 a1 r := zw8 a0 a1 r (zwW n a0 a1 r h)
def zg3 (goal : GoT) (r : z00) : Prop := goal (vu2 r) [] []
def zpP (a0 : Str) (r : z00) : Prop := PE.Spec A 100 [(.str a0)] [] (vu2 r) [] []
theorem zvj (a0 : Str) (r : z00) (H : ∀ goal : GoT,zg3 goal r → PtS A 100 0 [.code (sub B100 [])] ⟨[(0,(.str a0))],[]⟩ goal) : zpP a0 r :=
  z0m z05 zAT (by kernel_rfl) (H _ ⟨rfl,rfl,rfl⟩)
theorem zw2 (n : Nat) : ∀ (a0 : Str) (r : z00),zfd n a0 = some r → ∀ (goal : GoT),zg3 goal r → PtS A 100 0 [.code (sub B100 [])] ⟨[(0,(.str a0))],[]⟩ goal :=
  fun a0 r h goal hq => have h := Eq.trans (Eq.symm (zfd.eq_1 n a0)) h
    (z01 (.ret [.bNorm 100000 2] []) 4 [r0,r0] (z0b (Φ := zg3 goal) h hq) (by kernel_rfl))
theorem zv5 (n : Nat) (a0 : Str) (r : z00) (h : zfd n a0 = some r) : zpP a0 r := zvj a0 r (zw2 n a0 r h)
def z5g (goal : GoT) (r : z08) : Prop := goal (vu2 r.g_n) [] []
def z9k (a0 : z08) (a1 : Str) (a2 : z00) (r : z08) : Prop := PE.Spec A 68 [(vu2 a0.g_n),(.str a1),(vu2 a2)] [] (vu2 r.g_n) [] []
theorem zez (a0 : z08) (a1 : Str) (a2 : z00) (r : z08) (H : ∀ goal : GoT,z5g goal r → PtS A 68 0 [.code (sub B68 [])] ⟨[(0,(vu2 a0.g_n)),(1,(.str a1)),(2,(vu2 a2))],[]⟩ goal) : z9k a0 a1 a2 r :=
  z0m z05 zCV (by kernel_rfl) (H _ ⟨rfl,rfl,rfl⟩)
theorem zeK (n : Nat) : ∀ (a0 : z08) (a1 : Str) (a2 : z00) (r : z08),z1W n a0 a1 a2 = some r → ∀ (goal : GoT),z5g goal r → PtS A 68 0 [.code (sub B68 [])] ⟨[(0,(vu2 a0.g_n)),(1,(.str a1)),(2,(vu2 a2))],[]⟩ goal :=
  fun a0 a1 a2 r h goal hq => have h := Eq.trans (Eq.symm (z1W.eq_1 n a0 a1 a2)) h
    (z0c h (fun b2 b1 h => (z0a h (fun b3 h => (z0c h (fun b5 b4 h => (z0a h (fun b6 h => (z0c h (fun b8 b7 h => (z01 (.ret [.bNorm 100200 6] []) 6 [r0,⟨[],[(3,.call [] [some (.list .str)] (.row 0) [] [(.row .str b2 0)]),(10,.call [] [some (.list (.user 2))] (.row 0) [] [(.row (.user 2) b5 0)])],[],[],[]⟩,⟨[200600,201300],[(2,.call [] [some (.list .str),some (.list (.user 2))] (vu2 b8) [] [])],[],[],[]⟩] (ai (z3Y a0.g_n.z0d b2 b1) (ai b3 (ai (z5e a0.g_n.z09 b5 b4) (ai b6 (ai (zk7 n (b2 ++ [a1]) (b5 ++ [a2]) b8 b7) (z0b (Φ := z5g goal) h hq)))))) (by cases a2; kernel_rfl))))))))))))
theorem z8E (n : Nat) (a0 : z08) (a1 : Str) (a2 : z00) (r : z08) (h : z1W n a0 a1 a2 = some r) : z9k a0 a1 a2 r := zez a0 a1 a2 r (zeK n a0 a1 a2 r h)
def z4W (goal : GoT) (r : z08) : Prop := goal (vu2 r.g_n) [] []
def z8F (a0 : z08) (a1 : Str) (a2 : Str) (r : z08) : Prop := PE.Spec A 67 [(vu2 a0.g_n),(.str a1),(.str a2)] [] (vu2 r.g_n) [] []
theorem zdK (a0 : z08) (a1 : Str) (a2 : Str) (r : z08) (H : ∀ goal : GoT,z4W goal r → PtS A 67 0 [.code (sub B67 [])] ⟨[(0,(vu2 a0.g_n)),(1,(.str a1)),(2,(.str a2))],[]⟩ goal) : z8F a0 a1 a2 r :=
  z0m z05 zD7 (by kernel_rfl) (H _ ⟨rfl,rfl,rfl⟩)
theorem zdL (n : Nat) : ∀ (a0 : z08) (a1 : Str) (a2 : Str) (r : z08),z1F n a0 a1 a2 = some r → ∀ (goal : GoT),z4W goal r → PtS A 67 0 [.code (sub B67 [])] ⟨[(0,(vu2 a0.g_n)),(1,(.str a1)),(2,(.str a2))],[]⟩ goal :=
  fun a0 a1 a2 r h goal hq => have h := Eq.trans (Eq.symm (z1F.eq_1 n a0 a1 a2)) h
    (z0c h (fun b2 b1 h => (z0c h (fun b4 b3 h => (z01 (.ret [.bNorm 100100 6] []) 4 [r0,⟨[],[(3,.call [] [some .str] (vu2 b2) [] []),(4,.call [] [some (.user 6),some .str,some (.user 2)] (vu2 b4.g_n) [] [])],[],[],[]⟩] (ai (zv5 n a2 b2 b1) (ai (z8E n a0 a1 b2 b4 b3) (z0b (Φ := z4W goal) h hq))) (by rw [← z08.eta b4]; cases b2; rw [← z08.eta a0]; kernel_rfl))))))
theorem z8o (n : Nat) (a0 : z08) (a1 : Str) (a2 : Str) (r : z08) (h : z1F n a0 a1 a2 = some r) : z8F a0 a1 a2 r := zdK a0 a1 a2 r (zdL n a0 a1 a2 r h)
def z6G (goal : GoT) (r : Int) : Prop := goal (.ii r) [] []
def zbh (a0 : z04) (r : Int) : Prop := PE.Spec A 138 [(.agg [(.str a0.z3L),(.ii a0.zdI)])] [] (.ii r) [] []
theorem zhl (a0 : z04) (r : Int) (H : ∀ goal : GoT,z6G goal r → PtS A 138 0 [.code (sub B138 [])] ⟨[(0,(.agg [(.str a0.z3L),(.ii a0.zdI)]))],[]⟩ goal) : zbh a0 r :=
  z0m z05 zB7 (by kernel_rfl) (H _ ⟨rfl,rfl,rfl⟩)
theorem zhf (n : Nat) : ∀ (a0 : z04) (r : Int),z0T n a0 = some r → ∀ (goal : GoT),z6G goal r → PtS A 138 0 [.code (sub B138 [])] ⟨[(0,(.agg [(.str a0.z3L),(.ii a0.zdI)]))],[]⟩ goal :=
  fun a0 r h goal hq => have h := Eq.trans (Eq.symm (z0T.eq_1 n a0)) h
    (z01 (.ret [] []) 4 [r0,r0] (ai (by decide : nz 3) (ai (by decide : nz 3) (z0b (Φ := z6G goal) h hq))) (by kernel_rfl))
theorem z1r (n : Nat) (a0 : z04) (r : Int) (h : z0T n a0 = some r) : zbh a0 r := zhl a0 r (zhf n a0 r h)
def zbZ (goal : GoT) (r : (List Int)) : Prop := PtS A 136 0 [.code (sub B136 [1,1,1,1])] ⟨[(4,(.row 0))],[(0,(.row (.int .u8) r 0))]⟩ goal
def zds (n : Nat) : Prop := ∀ (p0 : Str) (p1 : (List Int)) (r : (List Int)),z3w n p0 p1 = some r → ∀ (goal : GoT),zbZ goal r → PtS A 136 0 [.code (sub B136 [1,1,1,0,0,0]),.inLoop (sub B136 [1,1,1,0,0,0]),.inBlock 1,.code (sub B136 [1,1,1,1])] ⟨[(0,(.str p0)),(4,(.row 0))],[(0,(.row (.int .u8) p1 0))]⟩ goal
theorem zjg (n : Nat) : zds n := by
  induction n with
  | zero => exact (fun p0 p1 r h => z14 (Eq.trans (Eq.symm (z3w.eq_1 p0 p1)) h))
  | succ n ih => exact (fun p0 p1 r h goal hq => have h := Eq.trans (Eq.symm (z3w.eq_2 _ _ _)) h
    (z0h h (fun b4 h => (z0a h (fun b5 h => (z0a h (fun b6 h => (z0a h (fun b7 h => (z0a h (fun b8 h => (z0a h (fun b9 h => (z0a h (fun b10 h => (z0a h (fun b11 h => (z0a h (fun b12 h => (z0a h (fun b13 h => (z01 (.cut [] [0,4] [1001600]) 13 [⟨[],[],[(1,true)],[],[]⟩,r0,r0,r0] (ai b4 (ai b5 (ai (by decide : nn 16) (ai b6 (ai (by decide : nn 8) (ai b7 (ai (by decide : nn 18) (ai b8 (ai (by decide : nn 12) (ai b9 (ai (by decide : nn 6) (ai b10 (ai b11 (ai b12 (ai b13 (ih (p0.drop 3) (p1 ++ [(bt ([65,66,67,68,69,70,71,72,73,74,75,76,77,78,79,80,81,82,83,84,85,86,87,88,89,90,97,98,99,100,101,102,103,104,105,106,107,108,109,110,111,112,113,114,115,116,117,118,119,120,121,122,48,49,50,51,52,53,54,55,56,57,45,95] : Str) (shr .i64 (ior .i64 (ior .i64 (shl .i64 (z07 (bt p0 0)) 16) (shl .i64 (z07 (bt p0 1)) 8)) (z07 (bt p0 2))) 18)),(bt ([65,66,67,68,69,70,71,72,73,74,75,76,77,78,79,80,81,82,83,84,85,86,87,88,89,90,97,98,99,100,101,102,103,104,105,106,107,108,109,110,111,112,113,114,115,116,117,118,119,120,121,122,48,49,50,51,52,53,54,55,56,57,45,95] : Str) (iand .i64 (shr .i64 (ior .i64 (ior .i64 (shl .i64 (z07 (bt p0 0)) 16) (shl .i64 (z07 (bt p0 1)) 8)) (z07 (bt p0 2))) 12) 63)),(bt ([65,66,67,68,69,70,71,72,73,74,75,76,77,78,79,80,81,82,83,84,85,86,87,88,89,90,97,98,99,100,101,102,103,104,105,106,107,108,109,110,111,112,113,114,115,116,117,118,119,120,121,122,48,49,50,51,52,53,54,55,56,57,45,95] : Str) (iand .i64 (shr .i64 (ior .i64 (ior .i64 (shl .i64 (z07 (bt p0 0)) 16) (shl .i64 (z07 (bt p0 1)) 8)) (z07 (bt p0 2))) 6) 63)),(bt ([65,66,67,68,69,70,71,72,73,74,75,76,77,78,79,80,81,82,83,84,85,86,87,88,89,90,97,98,99,100,101,102,103,104,105,106,107,108,109,110,111,112,113,114,115,116,117,118,119,120,121,122,48,49,50,51,52,53,54,55,56,57,45,95] : Str) (iand .i64 (ior .i64 (ior .i64 (shl .i64 (z07 (bt p0 0)) 16) (shl .i64 (z07 (bt p0 1)) 8)) (z07 (bt p0 2))) 63))]) r h goal hq)))))))))))))))) (by kernel_rfl))))))))))))))))))))) (fun b4 h => (z01 (.cut [] [4] [0]) 5 [⟨[],[],[(1,false)],[],[]⟩] (ai b4 (z0b (Φ := zbZ goal) h hq)) (by kernel_rfl)))))
theorem zkF (n : Nat) : zds n := (zjg n)
def z6m (goal : GoT) (r : (Str × Int)) : Prop := goal (.tuple [(.str r.1),(.ii r.2)]) [] []
def zhu (a0 : Str) (r : (Str × Int)) : Prop := PE.Spec A 136 [(.str a0)] [] (.tuple [(.str r.1),(.ii r.2)]) [] []
theorem zor (a0 : Str) (r : (Str × Int)) (H : ∀ goal : GoT,z6m goal r → PtS A 136 0 [.code (sub B136 [])] ⟨[(0,(.str a0))],[]⟩ goal) : zhu a0 r :=
  z0m z05 zCj (by kernel_rfl) (H _ ⟨rfl,rfl,rfl⟩)
theorem zoK (n : Nat) : ∀ (a0 : Str) (r : (Str × Int)),z6T n a0 = some r → ∀ (goal : GoT),z6m goal r → PtS A 136 0 [.code (sub B136 [])] ⟨[(0,(.str a0))],[]⟩ goal :=
  fun a0 r h goal hq => have h := Eq.trans (Eq.symm (z6T.eq_1 n a0)) h
    (z0h h (fun b1 h => (z01 (.ret [] []) 9 [r0,⟨[],[],[(3,true)],[],[]⟩,r0] (ai b1 (z0b (Φ := z6m goal) h hq)) (by kernel_rfl))) (fun b1 h => (z0h h (fun b2 h => (z01 (.ret [] []) 12 [r0,⟨[],[],[(3,false)],[],[]⟩,⟨[],[],[(4,true)],[],[]⟩,r0] (ai b1 (ai (by decide : nz 3) (ai b2 (z0b (Φ := z6m goal) h hq)))) (by kernel_rfl))) (fun b2 h => (z0a h (fun b3 h => (z0c h (fun b15 eb15 h => (z01 (.cut [] [0,4] [600400]) 17 [r0,⟨[],[],[(3,false)],[],[]⟩,⟨[],[],[(4,false)],[],[]⟩,r0] (ai b1 (ai (by decide : nz 3) (ai b2 (ai (by decide : nz 3) (ai b3 (zkF n a0 (List.replicate 0 (0 : Int)) b15 eb15 goal (z01 (.ret [] []) 2 [r0] (z0b (Φ := z6m goal) h hq) (by kernel_rfl)))))))) (by kernel_rfl))))))))))
theorem zoT (n : Nat) (a0 : Str) (r : (Str × Int)) (h : z6T n a0 = some r) : zhu a0 r := zor a0 r (zoK n a0 r h)
def z4q (goal : GoT) (r : (Str × Int)) : Prop := goal (.tuple [(.str r.1),(.ii r.2)]) [] []
def zea (a0 : z0f) (r : (Str × Int)) : Prop := PE.Spec A 101 [(.agg [(.ii a0.z2M),(.str a0.z8u)])] [] (.tuple [(.str r.1),(.ii r.2)]) [] []
theorem zkx (a0 : z0f) (r : (Str × Int)) (H : ∀ goal : GoT,z4q goal r → PtS A 101 0 [.code (sub B101 [])] ⟨[(0,(.agg [(.ii a0.z2M),(.str a0.z8u)]))],[]⟩ goal) : zea a0 r :=
  z0m z05 zBu (by kernel_rfl) (H _ ⟨rfl,rfl,rfl⟩)
theorem zko (n : Nat) : ∀ (a0 : z0f) (r : (Str × Int)),z7a n a0 = some r → ∀ (goal : GoT),z4q goal r → PtS A 101 0 [.code (sub B101 [])] ⟨[(0,(.agg [(.ii a0.z2M),(.str a0.z8u)]))],[]⟩ goal :=
  fun a0 r h goal hq => have h := Eq.trans (Eq.symm (z7a.eq_1 n a0)) h
    (z0c h (fun b2 b1 h => (z0h h (fun b3 h => (z01 (.ret [] []) 11 [r0,⟨[],[(0,.call [] [] (.map 0) [] [(.tmap (.int .i64) (.user 4) ((ast (fun y => 8 == y) 8 (⟨([49,65,65,76] : Str),6⟩ : z04) (ast (fun y => 7 == y) 7 (⟨([83] : Str),626⟩ : z04) (ast (fun y => 6 == y) 6 (⟨([77] : Str),2⟩ : z04) (ast (fun y => 5 == y) 5 (⟨([48,65] : Str),16⟩ : z04) (ast (fun y => 4 == y) 4 (⟨([65] : Str),32⟩ : z04) (ast (fun y => 3 == y) 3 (⟨([66] : Str),32⟩ : z04) (ast (fun y => 2 == y) 2 (⟨([68] : Str),32⟩ : z04) (ast (fun y => 1 == y) 1 (⟨([69] : Str),32⟩ : z04) ([] : List (Int × z04)))))))))) : (List (Int × z04))))])],[],[],[]⟩,⟨[],[],[(2,true)],[],[]⟩,r0] (ai (z5F n  b2 b1) (ai b3 (z0b (Φ := z4q goal) h hq))) (by kernel_rfl))) (fun b3 h => (z0h h (fun b4 h => (z01 (.ret [] []) 14 [r0,⟨[],[(0,.call [] [] (.map 0) [] [(.tmap (.int .i64) (.user 4) ((ast (fun y => 8 == y) 8 (⟨([49,65,65,76] : Str),6⟩ : z04) (ast (fun y => 7 == y) 7 (⟨([83] : Str),626⟩ : z04) (ast (fun y => 6 == y) 6 (⟨([77] : Str),2⟩ : z04) (ast (fun y => 5 == y) 5 (⟨([48,65] : Str),16⟩ : z04) (ast (fun y => 4 == y) 4 (⟨([65] : Str),32⟩ : z04) (ast (fun y => 3 == y) 3 (⟨([66] : Str),32⟩ : z04) (ast (fun y => 2 == y) 2 (⟨([68] : Str),32⟩ : z04) (ast (fun y => 1 == y) 1 (⟨([69] : Str),32⟩ : z04) ([] : List (Int × z04)))))))))) : (List (Int × z04))))])],[],[],[]⟩,⟨[],[],[(2,false)],[],[]⟩,⟨[],[],[(6,true)],[],[]⟩,r0] (ai (z5F n  b2 b1) (ai b3 (ai b4 (z0b (Φ := z4q goal) h hq)))) (by kernel_rfl))) (fun b4 h => (z0c h (fun b6 b5 h => (z0c h (fun b8 b7 h => (z0a h (fun b9 h => (z0c h (fun b11 b10 h => (z0c h (fun b13 b12 h => (z0a h (fun b14 h => (z0a h (fun b15 h => (z01 (.ret [] []) 18 [r0,⟨[],[(0,.call [] [] (.map 0) [] [(.tmap (.int .i64) (.user 4) ((ast (fun y => 8 == y) 8 (⟨([49,65,65,76] : Str),6⟩ : z04) (ast (fun y => 7 == y) 7 (⟨([83] : Str),626⟩ : z04) (ast (fun y => 6 == y) 6 (⟨([77] : Str),2⟩ : z04) (ast (fun y => 5 == y) 5 (⟨([48,65] : Str),16⟩ : z04) (ast (fun y => 4 == y) 4 (⟨([65] : Str),32⟩ : z04) (ast (fun y => 3 == y) 3 (⟨([66] : Str),32⟩ : z04) (ast (fun y => 2 == y) 2 (⟨([68] : Str),32⟩ : z04) (ast (fun y => 1 == y) 1 (⟨([69] : Str),32⟩ : z04) ([] : List (Int × z04)))))))))) : (List (Int × z04))))])],[],[],[]⟩,⟨[],[],[(2,false)],[],[]⟩,⟨[],[],[(6,false)],[],[]⟩,⟨[],[(1,.call [] [some (.user 4)] (.ii b6) [] []),(2,.call [] [some .str,some (.int .i64)] (.str b8) [] []),(6,.call [] [some .str] (.tuple [(.str b11.1),(.ii b11.2)]) [] [])],[],[],[]⟩,⟨[],[(4,.call [] [some (.user 4)] (.ii b13) [] [])],[],[],[]⟩] (ai (z5F n  b2 b1) (ai b3 (ai b4 (ai (z1r n ((alk (fun y => a0.z2M == y) (ast (fun y => 8 == y) 8 (⟨([49,65,65,76] : Str),6⟩ : z04) (ast (fun y => 7 == y) 7 (⟨([83] : Str),626⟩ : z04) (ast (fun y => 6 == y) 6 (⟨([77] : Str),2⟩ : z04) (ast (fun y => 5 == y) 5 (⟨([48,65] : Str),16⟩ : z04) (ast (fun y => 4 == y) 4 (⟨([65] : Str),32⟩ : z04) (ast (fun y => 3 == y) 3 (⟨([66] : Str),32⟩ : z04) (ast (fun y => 2 == y) 2 (⟨([68] : Str),32⟩ : z04) (ast (fun y => 1 == y) 1 (⟨([69] : Str),32⟩ : z04) ([] : List (Int × z04))))))))))).getD z04.dft) b6 b5) (ai (z4Q ([0] : Str) b6 b8 b7) (ai b9 (ai (zoT n (b8 ++ a0.z8u) b11 b10) (ai (z1r n ((alk (fun y => a0.z2M == y) (ast (fun y => 8 == y) 8 (⟨([49,65,65,76] : Str),6⟩ : z04) (ast (fun y => 7 == y) 7 (⟨([83] : Str),626⟩ : z04) (ast (fun y => 6 == y) 6 (⟨([77] : Str),2⟩ : z04) (ast (fun y => 5 == y) 5 (⟨([48,65] : Str),16⟩ : z04) (ast (fun y => 4 == y) 4 (⟨([65] : Str),32⟩ : z04) (ast (fun y => 3 == y) 3 (⟨([66] : Str),32⟩ : z04) (ast (fun y => 2 == y) 2 (⟨([68] : Str),32⟩ : z04) (ast (fun y => 1 == y) 1 (⟨([69] : Str),32⟩ : z04) ([] : List (Int × z04))))))))))).getD z04.dft) b13 b12) (ai b14 (ai b15 (z0b (Φ := z4q goal) h hq))))))))))) (by kernel_rfl))))))))))))))))))))))
theorem zkk (n : Nat) (a0 : z0f) (r : (Str × Int)) (h : z7a n a0 = some r) : zea a0 r := zkx a0 r (zko n a0 r h)
def z9U (goal : GoT) (r : Str) : Prop := goal (.str r) [] []
def zh3 (a0 : Int) (a1 : Str) (r : Str) : Prop := PE.Spec A 69 [(.ii a0),(.str a1)] [] (.str r) [] []
theorem zmy (a0 : Int) (a1 : Str) (r : Str) (H : ∀ goal : GoT,z9U goal r → PtS A 69 0 [.code (sub B69 [])] ⟨[(0,(.ii a0)),(1,(.str a1))],[]⟩ goal) : zh3 a0 a1 r :=
  z0m z05 zDL (by kernel_rfl) (H _ ⟨rfl,rfl,rfl⟩)
theorem zmt (n : Nat) : ∀ (a0 : Int) (a1 : Str) (r : Str),z4y n a0 a1 = some r → ∀ (goal : GoT),z9U goal r → PtS A 69 0 [.code (sub B69 [])] ⟨[(0,(.ii a0)),(1,(.str a1))],[]⟩ goal :=
  fun a0 a1 r h goal hq => have h := Eq.trans (Eq.symm (z4y.eq_1 n a0 a1)) h
    (z0c h (fun b2 b1 h => (z01 (.ret [] []) 6 [r0,⟨[],[(3,.call [] [some (.user 5)] (.tuple [(.str b2.1),(.ii b2.2)]) [] [])],[],[],[]⟩,r0] (ai (zkk n (⟨a0,a1⟩ : z0f) b2 b1) (z0b (Φ := z9U goal) h hq)) (by kernel_rfl))))
theorem zfw (n : Nat) (a0 : Int) (a1 : Str) (r : Str) (h : z4y n a0 a1 = some r) : zh3 a0 a1 r := zmy a0 a1 r (zmt n a0 a1 r h)
def z3x (goal : GoT) (r : z08) : Prop := goal (vu2 r.g_n) [] []
def z6s (a0 : z08) (a1 : z02) (r : z08) : Prop := PE.Spec A 31 [(vu2 a0.g_n),(vu1 a1)] [] (vu2 r.g_n) [] []
theorem zaC (a0 : z08) (a1 : z02) (r : z08) (H : ∀ goal : GoT,z3x goal r → PtS A 31 0 [.code (sub B31 [])] ⟨[(0,(vu2 a0.g_n)),(1,(vu1 a1))],[]⟩ goal) : z6s a0 a1 r :=
  z0m z05 zDf (by kernel_rfl) (H _ ⟨rfl,rfl,rfl⟩)
theorem zaJ (n : Nat) : ∀ (a0 : z08) (a1 : z02) (r : z08),z1q n a0 a1 = some r → ∀ (goal : GoT),z3x goal r → PtS A 31 0 [.code (sub B31 [])] ⟨[(0,(vu2 a0.g_n)),(1,(vu1 a1))],[]⟩ goal :=
  fun a0 a1 r h goal hq => have h := Eq.trans (Eq.symm (z1q.eq_1 n a0 a1)) h
    (z0c h (fun b2 b1 h => (z0c h (fun b4 b3 h => (z0c h (fun b6 b5 h => (z0c h (fun b8 b7 h => (z01 (.ret [.bNorm 100200 6] []) 4 [r0,⟨[],[(3,.call [] [some (.user 6),some .str,some .str] (vu2 b2.g_n) [] []),(6,.call [] [some (.user 6),some .str,some (.user 2)] (vu2 b4.g_n) [] []),(9,.call [] [some (.int .i64),some .str] (.str b6) [] []),(10,.call [] [some (.user 6),some .str,some .str] (vu2 b8.g_n) [] [])],[],[],[]⟩] (ai (z8o n a0 ([110] : Str) a1.z0L b2 b1) (ai (z8E n b2 ([118] : Str) a1.z0j b4 b3) (ai (zfw n 5 a1.z5W b6 b5) (ai (z8o n b4 ([117] : Str) b6 b8 b7) (z0b (Φ := z3x goal) h hq))))) (by rw [← z00.eta a1.z0j]; rw [← z08.eta b8]; rw [← z08.eta b4]; rw [← z08.eta b2]; rw [← z08.eta a0]; kernel_rfl))))))))))
theorem z6c (n : Nat) (a0 : z08) (a1 : z02) (r : z08) (h : z1q n a0 a1 = some r) : z6s a0 a1 r := zaC a0 a1 r (zaJ n a0 a1 r h)
def z2y (goal : GoT) (r : (List Int)) : Prop := goal (.row 0) [] [(.row (.int .u8) r 0)]
def z4i (a0 : Bool) (r : (List Int)) : Prop := PE.Spec A 133 [.nil,(.bool a0)] [] (.row 0) [] [(.row (.int .u8) r 0)]
theorem zbF (a0 : Bool) (r : (List Int)) (H : ∀ goal : GoT,z2y goal r → PtS A 133 0 [.code (sub B133 [])] ⟨[(0,.nil),(1,(.bool a0))],[]⟩ goal) : z4i a0 r :=
  z0m z05 zyG (by kernel_rfl) (H _ ⟨rfl,rfl,rfl⟩)
theorem zam (a0 : Bool) (r : (List Int)) (H : z4i a0 r) : PE.Spec A 133 [.nil,(.bool a0)] [] (.lst (.int .u8) r 0) [] [] :=
  z6S (.list (.int .u8)) r (by kernel_rfl) H
theorem zbj (n : Nat) : ∀ (a0 : Bool) (r : (List Int)),z2l n a0 = some r → ∀ (goal : GoT),z2y goal r → PtS A 133 0 [.code (sub B133 [])] ⟨[(0,.nil),(1,(.bool a0))],[]⟩ goal :=
  fun a0 r h goal hq => have h := Eq.trans (Eq.symm (z2l.eq_1 n a0)) h
    (z0h h (fun b1 h => (z01 (.ret [] [300100]) 8 [r0,⟨[],[],[(0,true)],[],[]⟩,r0] (ai b1 (ai (by decide : fits ((bytesOf ([116,114,117,101] : Str)).length * 1)) (z0b (Φ := z2y goal) h hq))) (by kernel_rfl))) (fun b1 h => (z01 (.ret [] [400100]) 9 [r0,⟨[],[],[(0,false)],[],[]⟩,r0] (ai b1 (ai (by decide : fits ((bytesOf ([102,97,108,115,101] : Str)).length * 1)) (z0b (Φ := z2y goal) h hq))) (by kernel_rfl))))
theorem z6z (n : Nat) (a0 : Bool) (r : (List Int)) (h : z2l n a0 = some r) : z4i a0 r := zbF a0 r (zbj n a0 r h)
theorem zmX (n : Nat) (a0 : Bool) (r : (List Int)) (h : z2l n a0 = some r) : PE.Spec A 133 [.nil,(.bool a0)] [] (.lst (.int .u8) r 0) [] [] := zam a0 r (z6z n a0 r h)
def z7r (goal : GoT) (r : (List Int)) : Prop := goal (.row 0) [] [(.row (.int .u8) r 0)]
def z8t (a0 : Bool) (r : (List Int)) : Prop := PE.Spec A 96 [.nil,(.bool a0)] [] (.row 0) [] [(.row (.int .u8) r 0)]
theorem zi6 (a0 : Bool) (r : (List Int)) (H : ∀ goal : GoT,z7r goal r → PtS A 96 0 [.code (sub B96 [])] ⟨[(0,.nil),(1,(.bool a0))],[]⟩ goal) : z8t a0 r :=
  z0m z05 zAz (by kernel_rfl) (H _ ⟨rfl,rfl,rfl⟩)
theorem zgi (a0 : Bool) (r : (List Int)) (H : z8t a0 r) : PE.Spec A 96 [.nil,(.bool a0)] [] (.lst (.int .u8) r 0) [] [] :=
  z6S (.list (.int .u8)) r (by kernel_rfl) H
theorem zir (n : Nat) : ∀ (a0 : Bool) (r : (List Int)),z5v n a0 = some r → ∀ (goal : GoT),z7r goal r → PtS A 96 0 [.code (sub B96 [])] ⟨[(0,.nil),(1,(.bool a0))],[]⟩ goal :=
  fun a0 r h goal hq => have h := Eq.trans (Eq.symm (z5v.eq_1 n a0)) h
    (z0c h (fun b2 b1 h => (z01 (.ret [] [200200]) 4 [r0,⟨[],[(2,.call [] [none,some .bool] (.row 0) [] [(.row (.int .u8) b2 0)])],[],[],[]⟩] (ai (z6z n a0 b2 b1) (z0b (Φ := z7r goal) h hq)) (by kernel_rfl))))
theorem zbw (n : Nat) (a0 : Bool) (r : (List Int)) (h : z5v n a0 = some r) : z8t a0 r := zi6 a0 r (zir n a0 r h)
theorem zuv (n : Nat) (a0 : Bool) (r : (List Int)) (h : z5v n a0 = some r) : PE.Spec A 96 [.nil,(.bool a0)] [] (.lst (.int .u8) r 0) [] [] := zgi a0 r (zbw n a0 r h)
def z2F (goal : GoT) (r : (List Int)) : Prop := goal (.row 0) [] [(.row (.int .u8) r 0)]
def z4t (a0 : Int) (a1 : Int) (r : (List Int)) : Prop := PE.Spec A 134 [.nil,(.ii a0),(.ii a1)] [] (.row 0) [] [(.row (.int .u8) r 0)]
theorem zbT (a0 : Int) (a1 : Int) (r : (List Int)) (H : ∀ goal : GoT,z2F goal r → PtS A 134 0 [.code (sub B134 [])] ⟨[(0,.nil),(1,(.ii a0)),(2,(.ii a1))],[]⟩ goal) : z4t a0 a1 r :=
  z0m z05 zyK (by kernel_rfl) (H _ ⟨rfl,rfl,rfl⟩)
theorem zaz (a0 : Int) (a1 : Int) (r : (List Int)) (H : z4t a0 a1 r) : PE.Spec A 134 [.nil,(.ii a0),(.ii a1)] [] (.lst (.int .u8) r 0) [] [] :=
  z6S (.list (.int .u8)) r (by kernel_rfl) H
theorem zbQ (n : Nat) : ∀ (a0 : Int) (a1 : Int) (r : (List Int)),z2A n a0 a1 = some r → ∀ (goal : GoT),z2F goal r → PtS A 134 0 [.code (sub B134 [])] ⟨[(0,.nil),(1,(.ii a0)),(2,(.ii a1))],[]⟩ goal :=
  fun a0 a1 r h goal hq => have h := Eq.trans (Eq.symm (z2A.eq_1 n a0 a1)) h
    (z0h h (fun b1 h => (z0c h (fun b3 b2 h => (z01 (.ret [] [600300]) 13 [r0,r0,⟨[],[],[(1,true)],[],[]⟩,r0,r0,⟨[],[(3,.call [400200] [none,some (.int .u64),some (.int .i64)] (.row 1) [.dead] [(.row (.int .u8) b3 0)])],[],[],[]⟩] (ai b1 (ai (by decide : fits (1 * 1)) (ai (z2H (z3S (0 - (z3S a0))) a1 [45] b3 b2) (z0b (Φ := z2F goal) h hq)))) (by kernel_rfl))))) (fun b1 h => (z0c h (fun b5 b4 h => (z01 (.ret [] [600300]) 11 [r0,r0,⟨[],[],[(1,false)],[],[]⟩,⟨[],[(3,.call [] [none,some (.int .u64),some (.int .i64)] (.row 0) [] [(.row (.int .u8) b5 0)])],[],[],[]⟩] (ai b1 (ai (za7 (z3S a0) a1 b5 b4) (z0b (Φ := z2F goal) h hq))) (by kernel_rfl))))))
theorem z7g (n : Nat) (a0 : Int) (a1 : Int) (r : (List Int)) (h : z2A n a0 a1 = some r) : z4t a0 a1 r := zbT a0 a1 r (zbQ n a0 a1 r h)
theorem zod (n : Nat) (a0 : Int) (a1 : Int) (r : (List Int)) (h : z2A n a0 a1 = some r) : PE.Spec A 134 [.nil,(.ii a0),(.ii a1)] [] (.lst (.int .u8) r 0) [] [] := zaz a0 a1 r (z7g n a0 a1 r h)
def z7G (goal : GoT) (r : (List Int)) : Prop := goal (.row 0) [] [(.row (.int .u8) r 0)]
def z90 (a0 : Int) (a1 : Int) (r : (List Int)) : Prop := PE.Spec A 97 [.nil,(.ii a0),(.ii a1)] [] (.row 0) [] [(.row (.int .u8) r 0)]
theorem zjk (a0 : Int) (a1 : Int) (r : (List Int)) (H : ∀ goal : GoT,z7G goal r → PtS A 97 0 [.code (sub B97 [])] ⟨[(0,.nil),(1,(.ii a0)),(2,(.ii a1))],[]⟩ goal) : z90 a0 a1 r :=
  z0m z05 zAj (by kernel_rfl) (H _ ⟨rfl,rfl,rfl⟩)
theorem zhc (a0 : Int) (a1 : Int) (r : (List Int)) (H : z90 a0 a1 r) : PE.Spec A 97 [.nil,(.ii a0),(.ii a1)] [] (.lst (.int .u8) r 0) [] [] :=
  z6S (.list (.int .u8)) r (by kernel_rfl) H
theorem zji (n : Nat) : ∀ (a0 : Int) (a1 : Int) (r : (List Int)),z6f n a0 a1 = some r → ∀ (goal : GoT),z7G goal r → PtS A 97 0 [.code (sub B97 [])] ⟨[(0,.nil),(1,(.ii a0)),(2,(.ii a1))],[]⟩ goal :=
  fun a0 a1 r h goal hq => have h := Eq.trans (Eq.symm (z6f.eq_1 n a0 a1)) h
    (z0c h (fun b2 b1 h => (z01 (.ret [] [200300]) 4 [r0,⟨[],[(3,.call [] [none,some (.int .i64),some (.int .i64)] (.row 0) [] [(.row (.int .u8) b2 0)])],[],[],[]⟩] (ai (z7g n a0 a1 b2 b1) (z0b (Φ := z7G goal) h hq)) (by kernel_rfl))))
theorem zc4 (n : Nat) (a0 : Int) (a1 : Int) (r : (List Int)) (h : z6f n a0 a1 = some r) : z90 a0 a1 r := zjk a0 a1 r (zji n a0 a1 r h)
theorem zv3 (n : Nat) (a0 : Int) (a1 : Int) (r : (List Int)) (h : z6f n a0 a1 = some r) : PE.Spec A 97 [.nil,(.ii a0),(.ii a1)] [] (.lst (.int .u8) r 0) [] [] := zhc a0 a1 r (zc4 n a0 a1 r h)
def zbV (goal : GoT) (r : Unit) : Prop := goal (.map 0) [] [(.tmap (.int .u8) (.int .u8) ((ast (fun y => 13 == y) 13 114 (ast (fun y => 12 == y) 12 102 (ast (fun y => 10 == y) 10 110 (ast (fun y => 9 == y) 9 116 (ast (fun y => 8 == y) 8 98 (ast (fun y => 92 == y) 92 92 (ast (fun y => 34 == y) 34 34 ([] : List (Int × Int))))))))) : (List (Int × Int))))]
def zjt (r : Unit) : Prop := PE.Spec A 135 [] [] (.map 0) [] [(.tmap (.int .u8) (.int .u8) ((ast (fun y => 13 == y) 13 114 (ast (fun y => 12 == y) 12 102 (ast (fun y => 10 == y) 10 110 (ast (fun y => 9 == y) 9 116 (ast (fun y => 8 == y) 8 98 (ast (fun y => 92 == y) 92 92 (ast (fun y => 34 == y) 34 34 ([] : List (Int × Int))))))))) : (List (Int × Int))))]
theorem zqY (r : Unit) (H : ∀ goal : GoT,zbV goal r → PtS A 135 0 [.code (sub B135 [])] ⟨[],[]⟩ goal) : zjt r :=
  z0m z05 zBp (by kernel_rfl) (H _ ⟨rfl,rfl,rfl⟩)
theorem zqq (n : Nat) : ∀ (r : Unit),z9f n = some r → ∀ (goal : GoT),zbV goal r → PtS A 135 0 [.code (sub B135 [])] ⟨[],[]⟩ goal :=
  fun r h goal hq => have h := Eq.trans (Eq.symm (z9f.eq_1 n)) h
    (z01 (.ret [] [200000]) 4 [r0,r0] (z0b (Φ := zbV goal) h hq) (by kernel_rfl))
theorem zhB (n : Nat) (r : Unit) (h : z9f n = some r) : zjt r := zqY  r (zqq n  r h)
def zdS (goal : GoT) (r : (List Int)) : Prop := PtS A 98 0 [.code (sub B98 [1,1,1,1])] ⟨[(0,(.row 0))],[(0,(.row (.int .u8) r 0))]⟩ goal
def zf7 (n : Nat) : Prop := ∀ (p0 : Str) (p1 : Int) (p2 : Int) (p3 : (List Int)) (r : (List Int)),z5U n p0 p1 p2 p3 = some r → ∀ (goal : GoT),zdS goal r → PtS A 98 0 [.code (sub B98 [1,1,1,0,1,0,0]),.inLoop (sub B98 [1,1,1,0,1,0,0]),.inBlock 0,.code (sub B98 [1,1,1,1])] ⟨[(0,(.row 0)),(1,(.str p0)),(5,(.map 1)),(15,(.ii p1)),(16,(.ii p2))],[(0,(.row (.int .u8) p3 0)),(1,(.tmap (.int .u8) (.int .u8) ((ast (fun y => 13 == y) 13 114 (ast (fun y => 12 == y) 12 102 (ast (fun y => 10 == y) 10 110 (ast (fun y => 9 == y) 9 116 (ast (fun y => 8 == y) 8 98 (ast (fun y => 92 == y) 92 92 (ast (fun y => 34 == y) 34 34 ([] : List (Int × Int))))))))) : (List (Int × Int)))))]⟩ goal
theorem zkR (n : Nat) : zf7 n := by
  induction n with
  | zero => exact (fun p0 p1 p2 p3 r h => z14 (Eq.trans (Eq.symm (z5U.eq_1 p0 p1 p2 p3)) h))
  | succ n ih => exact (fun p0 p1 p2 p3 r h goal hq => have h := Eq.trans (Eq.symm (z5U.eq_2 _ _ _ _ _)) h
    (z0h h (fun b3 h => (z0a h (fun b4 h => (z0h h (fun b5 h => (z0a h (fun b6 h => (z01 (.cut [] [0,1,5,15,16] [1100300,1]) 22 [⟨[],[],[(0,true)],[],[]⟩,r0,r0,r0,⟨[],[],[(1,true)],[],[]⟩,r0,r0] (ai b3 (ai b4 (ai b5 (ai b6 (ih p0 p1 (z07 (p2 + 1)) (p3 ++ [92,((alk (fun y => (bt p0 p2) == y) (ast (fun y => 13 == y) 13 114 (ast (fun y => 12 == y) 12 102 (ast (fun y => 10 == y) 10 110 (ast (fun y => 9 == y) 9 116 (ast (fun y => 8 == y) 8 98 (ast (fun y => 92 == y) 92 92 (ast (fun y => 34 == y) 34 34 ([] : List (Int × Int)))))))))).getD 0)]) r h goal hq))))) (by kernel_rfl))))) (fun b5 h => (z0h h (fun b7 h => (z0a h (fun b8 h => (z0a h (fun b9 h => (z0a h (fun b10 h => (z01 (.cut [] [0,1,5,15,16] [1300800,1]) 25 [⟨[],[],[(0,true)],[],[]⟩,r0,r0,r0,⟨[],[],[(1,false)],[],[]⟩,⟨[],[],[(2,true)],[],[]⟩,r0,r0] (ai b3 (ai b4 (ai b5 (ai b7 (ai (by decide : nn 4) (ai b8 (ai b9 (ai b10 (ih p0 p1 (z07 (p2 + 1)) (p3 ++ [92,117,48,48,(bt ([48,49,50,51,52,53,54,55,56,57,97,98,99,100,101,102] : Str) (shr .u8 (bt p0 p2) 4)),(bt ([48,49,50,51,52,53,54,55,56,57,97,98,99,100,101,102] : Str) (iand .u8 (bt p0 p2) 15))]) r h goal hq))))))))) (by kernel_rfl))))))))) (fun b7 h => (z0a h (fun b11 h => (z01 (.cut [] [0,1,5,15,16] [900300,1]) 25 [⟨[],[],[(0,true)],[],[]⟩,r0,r0,r0,⟨[],[],[(1,false)],[],[]⟩,⟨[],[],[(2,false)],[],[]⟩,r0,r0] (ai b3 (ai b4 (ai b5 (ai b7 (ai b11 (ih p0 p1 (z07 (p2 + 1)) (p3 ++ [(bt p0 p2)]) r h goal hq)))))) (by kernel_rfl))))))))))) (fun b3 h => (z01 (.cut [] [0] [0]) 5 [⟨[],[],[(0,false)],[],[]⟩] (ai b3 (z0b (Φ := zdS goal) h hq)) (by kernel_rfl)))))
theorem znj (n : Nat) : zf7 n := (zkR n)
def zdl (goal : GoT) (r : (List Int)) : Prop := goal (.row 0) [] [(.row (.int .u8) r 0)]
def zg6 (a0 : Str) (r : (List Int)) : Prop := PE.Spec A 98 [.nil,(.str a0)] [] (.row 0) [] [(.row (.int .u8) r 0)]
theorem zs7 (a0 : Str) (r : (List Int)) (H : ∀ goal : GoT,zdl goal r → PtS A 98 0 [.code (sub B98 [])] ⟨[(0,.nil),(1,(.str a0))],[]⟩ goal) : zg6 a0 r :=
  z0m z05 zAs (by kernel_rfl) (H _ ⟨rfl,rfl,rfl⟩)
theorem zoL (a0 : Str) (r : (List Int)) (H : zg6 a0 r) : PE.Spec A 98 [.nil,(.str a0)] [] (.lst (.int .u8) r 0) [] [] :=
  z6S (.list (.int .u8)) r (by kernel_rfl) H
theorem zsf (n : Nat) : ∀ (a0 : Str) (r : (List Int)),zde n a0 = some r → ∀ (goal : GoT),zdl goal r → PtS A 98 0 [.code (sub B98 [])] ⟨[(0,.nil),(1,(.str a0))],[]⟩ goal :=
  fun a0 r h goal hq => have h := Eq.trans (Eq.symm (zde.eq_1 n a0)) h
    (z0c h (fun b2 b1 h => (z0c h (fun b13 eb13 h => (z01 (.cut [] [0,1,5,15,16] [300200,200000]) 11 [r0,⟨[],[(0,.call [] [] (.map 0) [] [(.tmap (.int .u8) (.int .u8) ((ast (fun y => 13 == y) 13 114 (ast (fun y => 12 == y) 12 102 (ast (fun y => 10 == y) 10 110 (ast (fun y => 9 == y) 9 116 (ast (fun y => 8 == y) 8 98 (ast (fun y => 92 == y) 92 92 (ast (fun y => 34 == y) 34 34 ([] : List (Int × Int))))))))) : (List (Int × Int))))])],[],[],[]⟩,r0,r0] (ai (zhB n  b2 b1) (ai (by decide : fits (1 * 1)) (znj n a0 (a0.length : Int) 0 [34] b13 eb13 goal (z0a h (fun b14 h => (z01 (.ret [] [1500200]) 2 [r0] (ai b14 (z0b (Φ := zdl goal) h hq)) (by kernel_rfl))))))) (by kernel_rfl))))))
theorem zk0 (n : Nat) (a0 : Str) (r : (List Int)) (h : zde n a0 = some r) : zg6 a0 r := zs7 a0 r (zsf n a0 r h)
theorem zzl (n : Nat) (a0 : Str) (r : (List Int)) (h : zde n a0 = some r) : PE.Spec A 98 [.nil,(.str a0)] [] (.lst (.int .u8) r 0) [] [] := zoL a0 r (zk0 n a0 r h)
def zbC (goal : GoT) (r : (List Int)) : Prop := PtS A 98 1 [.code (sub B98 [1,1,1,1])] ⟨[(0,(.row 1))],[(0,.dead),(1,(.row (.int .u8) r 0))]⟩ goal
def zc3 (n : Nat) : Prop := ∀ (p0 : Str) (p1 : Int) (p2 : Int) (p3 : (List Int)) (r : (List Int)),z1T n p0 p1 p2 p3 = some r → ∀ (goal : GoT),zbC goal r → PtS A 98 1 [.code (sub B98 [1,1,1,0,1,0,0]),.inLoop (sub B98 [1,1,1,0,1,0,0]),.inBlock 0,.code (sub B98 [1,1,1,1])] ⟨[(0,(.row 1)),(1,(.str p0)),(5,(.map 2)),(15,(.ii p1)),(16,(.ii p2))],[(0,.dead),(1,(.row (.int .u8) p3 0)),(2,(.tmap (.int .u8) (.int .u8) ((ast (fun y => 13 == y) 13 114 (ast (fun y => 12 == y) 12 102 (ast (fun y => 10 == y) 10 110 (ast (fun y => 9 == y) 9 116 (ast (fun y => 8 == y) 8 98 (ast (fun y => 92 == y) 92 92 (ast (fun y => 34 == y) 34 34 ([] : List (Int × Int))))))))) : (List (Int × Int)))))]⟩ goal
theorem zhO (n : Nat) : zc3 n := by
  induction n with
  | zero => exact (fun p0 p1 p2 p3 r h => z14 (Eq.trans (Eq.symm (z1T.eq_1 p0 p1 p2 p3)) h))
  | succ n ih => exact (fun p0 p1 p2 p3 r h goal hq => have h := Eq.trans (Eq.symm (z1T.eq_2 _ _ _ _ _)) h
    (z0h h (fun b4 h => (z0a h (fun b5 h => (z0h h (fun b6 h => (z0a h (fun b7 h => (z01 (.cut [] [0,1,5,15,16] [0,1100300,2]) 22 [⟨[],[],[(0,true)],[],[]⟩,r0,r0,r0,⟨[],[],[(1,true)],[],[]⟩,r0,r0] (ai b4 (ai b5 (ai b6 (ai b7 (ih p0 p1 (z07 (p2 + 1)) (p3 ++ [92,((alk (fun y => (bt p0 p2) == y) (ast (fun y => 13 == y) 13 114 (ast (fun y => 12 == y) 12 102 (ast (fun y => 10 == y) 10 110 (ast (fun y => 9 == y) 9 116 (ast (fun y => 8 == y) 8 98 (ast (fun y => 92 == y) 92 92 (ast (fun y => 34 == y) 34 34 ([] : List (Int × Int)))))))))).getD 0)]) r h goal hq))))) (by kernel_rfl))))) (fun b6 h => (z0h h (fun b8 h => (z0a h (fun b9 h => (z0a h (fun b10 h => (z0a h (fun b11 h => (z01 (.cut [] [0,1,5,15,16] [0,1300800,2]) 25 [⟨[],[],[(0,true)],[],[]⟩,r0,r0,r0,⟨[],[],[(1,false)],[],[]⟩,⟨[],[],[(2,true)],[],[]⟩,r0,r0] (ai b4 (ai b5 (ai b6 (ai b8 (ai (by decide : nn 4) (ai b9 (ai b10 (ai b11 (ih p0 p1 (z07 (p2 + 1)) (p3 ++ [92,117,48,48,(bt ([48,49,50,51,52,53,54,55,56,57,97,98,99,100,101,102] : Str) (shr .u8 (bt p0 p2) 4)),(bt ([48,49,50,51,52,53,54,55,56,57,97,98,99,100,101,102] : Str) (iand .u8 (bt p0 p2) 15))]) r h goal hq))))))))) (by kernel_rfl))))))))) (fun b8 h => (z0a h (fun b12 h => (z01 (.cut [] [0,1,5,15,16] [0,900300,2]) 25 [⟨[],[],[(0,true)],[],[]⟩,r0,r0,r0,⟨[],[],[(1,false)],[],[]⟩,⟨[],[],[(2,false)],[],[]⟩,r0,r0] (ai b4 (ai b5 (ai b6 (ai b8 (ai b12 (ih p0 p1 (z07 (p2 + 1)) (p3 ++ [(bt p0 p2)]) r h goal hq)))))) (by kernel_rfl))))))))))) (fun b4 h => (z01 (.cut [] [0] [0,1]) 5 [⟨[],[],[(0,false)],[],[]⟩] (ai b4 (z0b (Φ := zbC goal) h hq)) (by kernel_rfl)))))
theorem zja (n : Nat) : zc3 n := (zhO n)
def za9 (goal : GoT) (r : (List Int)) : Prop := goal (.row 1) [.dead] [(.row (.int .u8) r 0)]
def zbR (a0 : Str) (a1 : (List Int)) (r : (List Int)) : Prop := PE.Spec A 98 [(.row 0),(.str a0)] [(.row (.int .u8) a1 0)] (.row 1) [.dead] [(.row (.int .u8) r 0)]
theorem zni (a0 : Str) (a1 : (List Int)) (r : (List Int)) (H : ∀ goal : GoT,za9 goal r → PtS A 98 1 [.code (sub B98 [])] ⟨[(0,(.row 0)),(1,(.str a0))],[(0,(.row (.int .u8) a1 0))]⟩ goal) : zbR a0 a1 r :=
  z0m z05 zAs (by kernel_rfl) (H _ ⟨rfl,rfl,rfl⟩)
theorem zkf (a0 : Str) (a1 : (List Int)) (r : (List Int)) (H : zbR a0 a1 r) : PE.Spec A 98 [(.row 0),(.str a0)] [(.row (.int .u8) a1 0)] (.lst (.int .u8) r 0) [.dead] [] :=
  z6S (.list (.int .u8)) r (by kernel_rfl) H
theorem zmG (n : Nat) : ∀ (a0 : Str) (a1 : (List Int)) (r : (List Int)),z3R n a0 a1 = some r → ∀ (goal : GoT),za9 goal r → PtS A 98 1 [.code (sub B98 [])] ⟨[(0,(.row 0)),(1,(.str a0))],[(0,(.row (.int .u8) a1 0))]⟩ goal :=
  fun a0 a1 r h goal hq => have h := Eq.trans (Eq.symm (z3R.eq_1 n a0 a1)) h
    (z0c h (fun b2 b1 h => (z0a h (fun b3 h => (z0c h (fun b14 eb14 h => (z01 (.cut [] [0,1,5,15,16] [0,300200,200000]) 11 [r0,⟨[],[(0,.call [] [] (.map 0) [] [(.tmap (.int .u8) (.int .u8) ((ast (fun y => 13 == y) 13 114 (ast (fun y => 12 == y) 12 102 (ast (fun y => 10 == y) 10 110 (ast (fun y => 9 == y) 9 116 (ast (fun y => 8 == y) 8 98 (ast (fun y => 92 == y) 92 92 (ast (fun y => 34 == y) 34 34 ([] : List (Int × Int))))))))) : (List (Int × Int))))])],[],[],[]⟩,r0,r0] (ai (zhB n  b2 b1) (ai b3 (zja n a0 (a0.length : Int) 0 (a1 ++ [34]) b14 eb14 goal (z0a h (fun b15 h => (z01 (.ret [] [1500200]) 2 [r0] (ai b15 (z0b (Φ := za9 goal) h hq)) (by kernel_rfl))))))) (by kernel_rfl))))))))
theorem z8f (n : Nat) (a0 : Str) (a1 : (List Int)) (r : (List Int)) (h : z3R n a0 a1 = some r) : zbR a0 a1 r := zni a0 a1 r (zmG n a0 a1 r h)
theorem zxB (n : Nat) (a0 : Str) (a1 : (List Int)) (r : (List Int)) (h : z3R n a0 a1 = some r) : PE.Spec A 98 [(.row 0),(.str a0)] [(.row (.int .u8) a1 0)] (.lst (.int .u8) r 0) [.dead] [] := zkf a0 a1 r (z8f n a0 a1 r h)
def z1N (goal : GoT) (r : (List Int)) : Prop := goal (.row 1) [.dead] [(.row (.int .u8) r 0)]
def z3y (a0 : Bool) (a1 : (List Int)) (r : (List Int)) : Prop := PE.Spec A 133 [(.row 0),(.bool a0)] [(.row (.int .u8) a1 0)] (.row 1) [.dead] [(.row (.int .u8) r 0)]
theorem zae (a0 : Bool) (a1 : (List Int)) (r : (List Int)) (H : ∀ goal : GoT,z1N goal r → PtS A 133 1 [.code (sub B133 [])] ⟨[(0,(.row 0)),(1,(.bool a0))],[(0,(.row (.int .u8) a1 0))]⟩ goal) : z3y a0 a1 r :=
  z0m z05 zyG (by kernel_rfl) (H _ ⟨rfl,rfl,rfl⟩)
theorem z8X (a0 : Bool) (a1 : (List Int)) (r : (List Int)) (H : z3y a0 a1 r) : PE.Spec A 133 [(.row 0),(.bool a0)] [(.row (.int .u8) a1 0)] (.lst (.int .u8) r 0) [.dead] [] :=
  z6S (.list (.int .u8)) r (by kernel_rfl) H
theorem zaa (n : Nat) : ∀ (a0 : Bool) (a1 : (List Int)) (r : (List Int)),z1a n a0 a1 = some r → ∀ (goal : GoT),z1N goal r → PtS A 133 1 [.code (sub B133 [])] ⟨[(0,(.row 0)),(1,(.bool a0))],[(0,(.row (.int .u8) a1 0))]⟩ goal :=
  fun a0 a1 r h goal hq => have h := Eq.trans (Eq.symm (z1a.eq_1 n a0 a1)) h
    (z0h h (fun b1 h => (z0a h (fun b2 h => (z01 (.ret [] [300100]) 8 [r0,⟨[],[],[(0,true)],[],[]⟩,r0] (ai b1 (ai b2 (z0b (Φ := z1N goal) h hq))) (by kernel_rfl))))) (fun b1 h => (z0a h (fun b3 h => (z01 (.ret [] [400100]) 9 [r0,⟨[],[],[(0,false)],[],[]⟩,r0] (ai b1 (ai b3 (z0b (Φ := z1N goal) h hq))) (by kernel_rfl))))))
theorem z5E (n : Nat) (a0 : Bool) (a1 : (List Int)) (r : (List Int)) (h : z1a n a0 a1 = some r) : z3y a0 a1 r := zae a0 a1 r (zaa n a0 a1 r h)
theorem zkL (n : Nat) (a0 : Bool) (a1 : (List Int)) (r : (List Int)) (h : z1a n a0 a1 = some r) : PE.Spec A 133 [(.row 0),(.bool a0)] [(.row (.int .u8) a1 0)] (.lst (.int .u8) r 0) [.dead] [] := z8X a0 a1 r (z5E n a0 a1 r h)
def z5O (goal : GoT) (r : (List Int)) : Prop := goal (.row 1) [.dead] [(.row (.int .u8) r 0)]
def z6R (a0 : Bool) (a1 : (List Int)) (r : (List Int)) : Prop := PE.Spec A 96 [(.row 0),(.bool a0)] [(.row (.int .u8) a1 0)] (.row 1) [.dead] [(.row (.int .u8) r 0)]
theorem zfi (a0 : Bool) (a1 : (List Int)) (r : (List Int)) (H : ∀ goal : GoT,z5O goal r → PtS A 96 1 [.code (sub B96 [])] ⟨[(0,(.row 0)),(1,(.bool a0))],[(0,(.row (.int .u8) a1 0))]⟩ goal) : z6R a0 a1 r :=
  z0m z05 zAz (by kernel_rfl) (H _ ⟨rfl,rfl,rfl⟩)
theorem zdM (a0 : Bool) (a1 : (List Int)) (r : (List Int)) (H : z6R a0 a1 r) : PE.Spec A 96 [(.row 0),(.bool a0)] [(.row (.int .u8) a1 0)] (.lst (.int .u8) r 0) [.dead] [] :=
  z6S (.list (.int .u8)) r (by kernel_rfl) H
theorem zfq (n : Nat) : ∀ (a0 : Bool) (a1 : (List Int)) (r : (List Int)),z2Z n a0 a1 = some r → ∀ (goal : GoT),z5O goal r → PtS A 96 1 [.code (sub B96 [])] ⟨[(0,(.row 0)),(1,(.bool a0))],[(0,(.row (.int .u8) a1 0))]⟩ goal :=
  fun a0 a1 r h goal hq => have h := Eq.trans (Eq.symm (z2Z.eq_1 n a0 a1)) h
    (z0c h (fun b2 b1 h => (z01 (.ret [] [200200]) 4 [r0,⟨[],[(2,.call [0] [none,some .bool] (.row 1) [.dead] [(.row (.int .u8) b2 0)])],[],[],[]⟩] (ai (z5E n a0 a1 b2 b1) (z0b (Φ := z5O goal) h hq)) (by kernel_rfl))))
theorem z9h (n : Nat) (a0 : Bool) (a1 : (List Int)) (r : (List Int)) (h : z2Z n a0 a1 = some r) : z6R a0 a1 r := zfi a0 a1 r (zfq n a0 a1 r h)
theorem zrH (n : Nat) (a0 : Bool) (a1 : (List Int)) (r : (List Int)) (h : z2Z n a0 a1 = some r) : PE.Spec A 96 [(.row 0),(.bool a0)] [(.row (.int .u8) a1 0)] (.lst (.int .u8) r 0) [.dead] [] := zdM a0 a1 r (z9h n a0 a1 r h)
def z2d (goal : GoT) (r : (List Int)) : Prop := goal (.row 1) [.dead] [(.row (.int .u8) r 0)]
def z3B (a0 : Int) (a1 : Int) (a2 : (List Int)) (r : (List Int)) : Prop := PE.Spec A 134 [(.row 0),(.ii a0),(.ii a1)] [(.row (.int .u8) a2 0)] (.row 1) [.dead] [(.row (.int .u8) r 0)]
theorem zao (a0 : Int) (a1 : Int) (a2 : (List Int)) (r : (List Int)) (H : ∀ goal : GoT,z2d goal r → PtS A 134 1 [.code (sub B134 [])] ⟨[(0,(.row 0)),(1,(.ii a0)),(2,(.ii a1))],[(0,(.row (.int .u8) a2 0))]⟩ goal) : z3B a0 a1 a2 r :=
  z0m z05 zyK (by kernel_rfl) (H _ ⟨rfl,rfl,rfl⟩)
theorem z9B (a0 : Int) (a1 : Int) (a2 : (List Int)) (r : (List Int)) (H : z3B a0 a1 a2 r) : PE.Spec A 134 [(.row 0),(.ii a0),(.ii a1)] [(.row (.int .u8) a2 0)] (.lst (.int .u8) r 0) [.dead] [] :=
  z6S (.list (.int .u8)) r (by kernel_rfl) H
theorem zaq (n : Nat) : ∀ (a0 : Int) (a1 : Int) (a2 : (List Int)) (r : (List Int)),z1i n a0 a1 a2 = some r → ∀ (goal : GoT),z2d goal r → PtS A 134 1 [.code (sub B134 [])] ⟨[(0,(.row 0)),(1,(.ii a0)),(2,(.ii a1))],[(0,(.row (.int .u8) a2 0))]⟩ goal :=
  fun a0 a1 a2 r h goal hq => have h := Eq.trans (Eq.symm (z1i.eq_1 n a0 a1 a2)) h
    (z0h h (fun b1 h => (z0a h (fun b2 h => (z0c h (fun b4 b3 h => (z01 (.ret [] [600300]) 13 [r0,r0,⟨[],[],[(1,true)],[],[]⟩,r0,r0,⟨[],[(3,.call [400200] [none,some (.int .u64),some (.int .i64)] (.row 1) [.dead] [(.row (.int .u8) b4 0)])],[],[],[]⟩] (ai b1 (ai b2 (ai (z2H (z3S (0 - (z3S a0))) a1 (a2 ++ [45]) b4 b3) (z0b (Φ := z2d goal) h hq)))) (by kernel_rfl))))))) (fun b1 h => (z0c h (fun b6 b5 h => (z01 (.ret [] [600300]) 11 [r0,r0,⟨[],[],[(1,false)],[],[]⟩,⟨[],[(3,.call [0] [none,some (.int .u64),some (.int .i64)] (.row 1) [.dead] [(.row (.int .u8) b6 0)])],[],[],[]⟩] (ai b1 (ai (z2H (z3S a0) a1 a2 b6 b5) (z0b (Φ := z2d goal) h hq))) (by kernel_rfl))))))
theorem z5Y (n : Nat) (a0 : Int) (a1 : Int) (a2 : (List Int)) (r : (List Int)) (h : z1i n a0 a1 a2 = some r) : z3B a0 a1 a2 r := zao a0 a1 a2 r (zaq n a0 a1 a2 r h)
theorem zm3 (n : Nat) (a0 : Int) (a1 : Int) (a2 : (List Int)) (r : (List Int)) (h : z1i n a0 a1 a2 = some r) : PE.Spec A 134 [(.row 0),(.ii a0),(.ii a1)] [(.row (.int .u8) a2 0)] (.lst (.int .u8) r 0) [.dead] [] := z9B a0 a1 a2 r (z5Y n a0 a1 a2 r h)
def z6i (goal : GoT) (r : (List Int)) : Prop := goal (.row 1) [.dead] [(.row (.int .u8) r 0)]
def z7q (a0 : Int) (a1 : Int) (a2 : (List Int)) (r : (List Int)) : Prop := PE.Spec A 97 [(.row 0),(.ii a0),(.ii a1)] [(.row (.int .u8) a2 0)] (.row 1) [.dead] [(.row (.int .u8) r 0)]
theorem zgd (a0 : Int) (a1 : Int) (a2 : (List Int)) (r : (List Int)) (H : ∀ goal : GoT,z6i goal r → PtS A 97 1 [.code (sub B97 [])] ⟨[(0,(.row 0)),(1,(.ii a0)),(2,(.ii a1))],[(0,(.row (.int .u8) a2 0))]⟩ goal) : z7q a0 a1 a2 r :=
  z0m z05 zAj (by kernel_rfl) (H _ ⟨rfl,rfl,rfl⟩)
theorem zer (a0 : Int) (a1 : Int) (a2 : (List Int)) (r : (List Int)) (H : z7q a0 a1 a2 r) : PE.Spec A 97 [(.row 0),(.ii a0),(.ii a1)] [(.row (.int .u8) a2 0)] (.lst (.int .u8) r 0) [.dead] [] :=
  z6S (.list (.int .u8)) r (by kernel_rfl) H
theorem zgu (n : Nat) : ∀ (a0 : Int) (a1 : Int) (a2 : (List Int)) (r : (List Int)),z2C n a0 a1 a2 = some r → ∀ (goal : GoT),z6i goal r → PtS A 97 1 [.code (sub B97 [])] ⟨[(0,(.row 0)),(1,(.ii a0)),(2,(.ii a1))],[(0,(.row (.int .u8) a2 0))]⟩ goal :=
  fun a0 a1 a2 r h goal hq => have h := Eq.trans (Eq.symm (z2C.eq_1 n a0 a1 a2)) h
    (z0c h (fun b2 b1 h => (z01 (.ret [] [200300]) 4 [r0,⟨[],[(3,.call [0] [none,some (.int .i64),some (.int .i64)] (.row 1) [.dead] [(.row (.int .u8) b2 0)])],[],[],[]⟩] (ai (z5Y n a0 a1 a2 b2 b1) (z0b (Φ := z6i goal) h hq)) (by kernel_rfl))))
theorem zal (n : Nat) (a0 : Int) (a1 : Int) (a2 : (List Int)) (r : (List Int)) (h : z2C n a0 a1 a2 = some r) : z7q a0 a1 a2 r := zgd a0 a1 a2 r (zgu n a0 a1 a2 r h)
theorem zsH (n : Nat) (a0 : Int) (a1 : Int) (a2 : (List Int)) (r : (List Int)) (h : z2C n a0 a1 a2 = some r) : PE.Spec A 97 [(.row 0),(.ii a0),(.ii a1)] [(.row (.int .u8) a2 0)] (.lst (.int .u8) r 0) [.dead] [] := zer a0 a1 a2 r (zal n a0 a1 a2 r h)
def z3T (goal : GoT) (r : (List Int)) : Prop := goal (.row 1) [.dead] [(.row (.int .u8) r 0)]
def z9W (goal : GoT) (r : (Str × (List Int))) : Prop := PtS A 65 1 [.code (sub B65 [1,1,1,1,1,1])] ⟨[(0,(.row 1)),(5,(.str r.1))],[(0,.dead),(1,(.row (.int .u8) r.2 0))]⟩ goal
def zgo (a0 : z00) (a1 : (List Int)) (r : (List Int)) : Prop := PE.Spec A 65 [(.row 0),(vu2 a0)] [(.row (.int .u8) a1 0)] (.row 1) [.dead] [(.row (.int .u8) r 0)]
theorem zek (a0 : z00) (a1 : (List Int)) (r : (List Int)) (H : ∀ goal : GoT,z3T goal r → PtS A 65 1 [.code (sub B65 [])] ⟨[(0,(.row 0)),(1,(vu2 a0))],[(0,(.row (.int .u8) a1 0))]⟩ goal) : zgo a0 a1 r :=
  z0m z05 zAA (by kernel_rfl) (H _ ⟨rfl,rfl,rfl⟩)
theorem zoq (a0 : z00) (a1 : (List Int)) (r : (List Int)) (H : zgo a0 a1 r) : PE.Spec A 65 [(.row 0),(vu2 a0)] [(.row (.int .u8) a1 0)] (.lst (.int .u8) r 0) [.dead] [] :=
  z6S (.list (.int .u8)) r (by kernel_rfl) H
def zfO (n : Nat) : Prop := ∀ (p0 : Str) (p1 : (List Int)) (p2 : z00) (r : (List Int)),z5T n p0 p1 p2 = some r → ∀ (goal : GoT),z3T goal r → PtS A 65 1 [.code (sub B65 [1,1,1,1])] ⟨[(0,(.row 1)),(3,(.ptr 2 0)),(5,(.str p0))],[(0,.dead),(1,(.row (.int .u8) p1 0)),(2,(.box [(.ii p2.z0i),(.bool p2.z0K),(.ii p2.z0n),(.str p2.z0D),(.lst .str p2.z0d 0),(.lst (.user 2) p2.z09 0)]))]⟩ goal
def zeQ (n : Nat) : Prop := ∀ (p0 : Str) (p1 : (List z00)) (p2 : Int) (p3 : Int) (p4 : (List Int)) (p5 : z00) (r : (Str × (List Int))),z3N n p0 p1 p2 p3 p4 p5 = some r → ∀ (goal : GoT),z9W goal r → PtS A 65 1 [.code (sub B65 [1,1,1,1,1,0,1,0,0]),.inLoop (sub B65 [1,1,1,1,1,0,1,0,0]),.inBlock 1,.code (sub B65 [1,1,1,1,1,1])] ⟨[(0,(.row 1)),(3,(.ptr 2 0)),(5,(.str p0)),(41,(.lst (.user 2) p1 0)),(42,(.ii p2)),(43,(.ii p3))],[(0,.dead),(1,(.row (.int .u8) p4 0)),(2,(.box [(.ii p5.z0i),(.bool p5.z0K),(.ii p5.z0n),(.str p5.z0D),(.lst .str p5.z0d 0),(.lst (.user 2) p5.z09 0)]))]⟩ goal
def zf1 (n : Nat) : Prop := ∀ (p0 : Str) (p1 : Int) (p2 : (List z00)) (p3 : Int) (p4 : Int) (p5 : (List Int)) (p6 : z00) (p7 : z00) (r : (Str × (List Int))),z5N n p0 p1 p2 p3 p4 p5 p6 p7 = some r → ∀ (goal : GoT),z9W goal r → PtS A 65 1 [.code (sub B65 [1,1,1,1,1,0,1,0,0,1,1,0,0,1,1]),.inBlock 2,.code (sub B65 [1,1,1,1,1,0,1,0,0,1,1,1]),.inLoop (sub B65 [1,1,1,1,1,0,1,0,0]),.inBlock 1,.code (sub B65 [1,1,1,1,1,1])] ⟨[(0,(.row 1)),(3,(.ptr 2 0)),(5,(.str p0)),(6,(.ii p1)),(7,(.ptr 3 0)),(41,(.lst (.user 2) p2 0)),(42,(.ii p3)),(43,(.ii p4))],[(0,.dead),(1,(.row (.int .u8) p5 0)),(2,(.box [(.ii p6.z0i),(.bool p6.z0K),(.ii p6.z0n),(.str p6.z0D),(.lst .str p6.z0d 0),(.lst (.user 2) p6.z09 0)])),(3,(.box [(.ii p7.z0i),(.bool p7.z0K),(.ii p7.z0n),(.str p7.z0D),(.lst .str p7.z0d 0),(.lst (.user 2) p7.z09 0)]))]⟩ goal
def zjP (n : Nat) : Prop := ∀ (a0 : z00) (a1 : (List Int)) (r : (List Int)),z3G n a0 a1 = some r → ∀ (goal : GoT),z3T goal r → PtS A 65 1 [.code (sub B65 [])] ⟨[(0,(.row 0)),(1,(vu2 a0))],[(0,(.row (.int .u8) a1 0))]⟩ goal
theorem z7v (n : Nat) : zfO n ∧ zeQ n ∧ zf1 n ∧ zjP n := by
  induction n with
  | zero => exact ⟨(fun p0 p1 p2 r h => z14 (Eq.trans (Eq.symm (z5T.eq_1 p0 p1 p2)) h)),(fun p0 p1 p2 p3 p4 p5 r h => z14 (Eq.trans (Eq.symm (z3N.eq_1 p0 p1 p2 p3 p4 p5)) h)),(fun p0 p1 p2 p3 p4 p5 p6 p7 r h => z14 (Eq.trans (Eq.symm (z5N.eq_1 p0 p1 p2 p3 p4 p5 p6 p7)) h)),(fun a0 a1 r h => z14 (Eq.trans (Eq.symm (z3G.eq_1 a0 a1)) h))⟩
  | succ n ih => exact ⟨(fun p0 p1 p2 r h goal hq => have h := Eq.trans (Eq.symm (z5T.eq_2 _ _ _ _)) h
    (z0a h (fun b13 h => (z0a h (fun b14 h => (z0c h (fun b29 eb29 h => (z01 (.cut [] [0,3,5,41,42,43] [0,1400400,2]) 7 [r0,r0] (ai b13 (ai b14 (ih.2.1 p0 p2.z09 (p2.z09.length : Int) 0 (p1 ++ [(bt p0 0)]) p2 b29 eb29 goal (z0a h (fun b30 h => (z0a h (fun b31 h => (z01 (.ret [] [2400400]) 2 [r0] (ai b30 (ai b31 (z0b (Φ := z3T goal) h hq))) (by kernel_rfl))))))))) (by cases p2; kernel_rfl))))))))),(fun p0 p1 p2 p3 p4 p5 r h goal hq => have h := Eq.trans (Eq.symm (z3N.eq_2 _ _ _ _ _ _ _)) h
    (z0h h (fun b15 h => (z0a h (fun b16 h => (z0h h (fun b17 h => (z0a h (fun b18 h => (z01 (.cut [] [0,3,5,6,7,41,42,43] [0,1900200,2,1700300]) 14 [⟨[],[],[(0,true)],[],[]⟩,r0,⟨[],[],[(1,true)],[],[]⟩,r0] (ai b15 (ai b16 (ai b17 (ai b18 (ih.2.2.1 p0 p3 p1 p2 p3 (p4 ++ [44]) p5 (rd z00.dft p1 p3) r h goal hq))))) (by rw [← z00.eta (rd z00.dft p1 p3)]; cases p5; kernel_rfl))))) (fun b17 h => (z01 (.cut [] [0,3,5,6,7,41,42,43] [0,1,2,1700300]) 14 [⟨[],[],[(0,true)],[],[]⟩,r0,⟨[],[],[(1,false)],[],[]⟩] (ai b15 (ai b16 (ai b17 (ih.2.2.1 p0 p3 p1 p2 p3 p4 p5 (rd z00.dft p1 p3) r h goal hq)))) (by rw [← z00.eta (rd z00.dft p1 p3)]; cases p5; kernel_rfl))))))) (fun b15 h => (z01 (.cut [] [0,5] [0,1]) 5 [⟨[],[],[(0,false)],[],[]⟩] (ai b15 (z0b (Φ := z9W goal) h hq)) (by kernel_rfl))))),(fun p0 p1 p2 p3 p4 p5 p6 p7 r h goal hq => have h := Eq.trans (Eq.symm (z5N.eq_2 _ _ _ _ _ _ _ _ _)) h
    (z0h h (fun b19 h => (z0a h (fun b20 h => (z0c h (fun b22 b21 h => (z0a h (fun b23 h => (z0c h (fun b25 b24 h => (z01 (.cut [] [0,3,5,41,42,43] [0,2200200,2]) 9 [⟨[],[],[(2,true)],[],[]⟩,⟨[],[(6,.call [1] [none,some .str] (.row 1) [.dead] [(.row (.int .u8) b22 0)])],[],[],[]⟩,⟨[],[(2,.call [2100800] [none,some (.user 2)] (.row 1) [.dead] [(.row (.int .u8) b25 0)])],[],[],[]⟩,r0] (ai b19 (ai b20 (ai (z8f n (rd [] p6.z0d p1) p5 b22 b21) (ai b23 (ai (zek p7 (b22 ++ [58]) b25 (ih.2.2.2 p7 (b22 ++ [58]) b25 b24)) (ih.2.1 p0 p2 p3 (z07 (p4 + 1)) b25 p6 r h goal hq)))))) (by cases p6; cases p7; kernel_rfl))))))))))) (fun b19 h => (z0c h (fun b27 b26 h => (z01 (.cut [] [0,3,5,41,42,43] [0,2200200,2]) 9 [⟨[],[],[(2,false)],[],[]⟩,⟨[],[(2,.call [1] [none,some (.user 2)] (.row 1) [.dead] [(.row (.int .u8) b27 0)])],[],[],[]⟩,r0] (ai b19 (ai (zek p7 p5 b27 (ih.2.2.2 p7 p5 b27 b26)) (ih.2.1 p0 p2 p3 (z07 (p4 + 1)) b27 p6 r h goal hq))) (by cases p6; cases p7; kernel_rfl))))))),(fun a0 a1 r h goal hq => have h := Eq.trans (Eq.symm (z3G.eq_2 _ _ _)) h
    (z0h h (fun b1 h => (z0a h (fun b2 h => (z01 (.ret [] [400100]) 11 [r0,r0,⟨[],[],[(1,true)],[],[]⟩,r0] (ai b1 (ai b2 (z0b (Φ := z3T goal) h hq))) (by kernel_rfl))))) (fun b1 h => (z0h h (fun b3 h => (z0c h (fun b5 b4 h => (z01 (.ret [] [600300]) 14 [r0,r0,⟨[],[],[(1,false)],[],[]⟩,⟨[],[],[(1,true)],[],[]⟩,⟨[],[(3,.call [0] [none,some .bool] (.row 1) [.dead] [(.row (.int .u8) b5 0)])],[],[],[]⟩] (ai b1 (ai b3 (ai (z9h n a0.z0K a1 b5 b4) (z0b (Φ := z3T goal) h hq)))) (by kernel_rfl))))) (fun b3 h => (z0h h (fun b6 h => (z0c h (fun b8 b7 h => (z01 (.ret [] [800300]) 17 [r0,r0,⟨[],[],[(1,false)],[],[]⟩,⟨[],[],[(1,false)],[],[]⟩,⟨[],[],[(1,true)],[],[]⟩,⟨[],[(3,.call [0] [none,some (.int .i64),some (.int .i64)] (.row 1) [.dead] [(.row (.int .u8) b8 0)])],[],[],[]⟩] (ai b1 (ai b3 (ai b6 (ai (zal n a0.z0n 10 a1 b8 b7) (z0b (Φ := z3T goal) h hq))))) (by kernel_rfl))))) (fun b6 h => (z0h h (fun b9 h => (z0c h (fun b11 b10 h => (z01 (.ret [] [1000300]) 20 [r0,r0,⟨[],[],[(1,false)],[],[]⟩,⟨[],[],[(1,false)],[],[]⟩,⟨[],[],[(1,false)],[],[]⟩,⟨[],[],[(1,true)],[],[]⟩,⟨[],[(3,.call [0] [none,some .str] (.row 1) [.dead] [(.row (.int .u8) b11 0)])],[],[],[]⟩] (ai b1 (ai b3 (ai b6 (ai b9 (ai (z8f n a0.z0D a1 b11 b10) (z0b (Φ := z3T goal) h hq)))))) (by kernel_rfl))))) (fun b9 h => (z0h h (fun b12 h => (z01 (.cut [.mvRow 0 8700] [0,3,5] [0,8700,100000]) 27 [r0,r0,⟨[],[],[(1,false)],[],[]⟩,⟨[],[],[(1,false)],[],[]⟩,⟨[],[],[(1,false)],[],[]⟩,⟨[],[],[(1,false)],[],[]⟩,r0,⟨[],[],[(2,true)],[],[]⟩,r0] (ai b1 (ai b3 (ai b6 (ai b9 (ai b12 (ih.1 ([123,125] : Str) a1 a0 r h goal hq)))))) (by cases a0; kernel_rfl))) (fun b12 h => (z01 (.cut [.mvRow 0 8700] [0,3,5] [0,8700,100000]) 27 [r0,r0,⟨[],[],[(1,false)],[],[]⟩,⟨[],[],[(1,false)],[],[]⟩,⟨[],[],[(1,false)],[],[]⟩,⟨[],[],[(1,false)],[],[]⟩,r0,⟨[],[],[(2,false)],[],[]⟩] (ai b1 (ai b3 (ai b6 (ai b9 (ai b12 (ih.1 ([91,93] : Str) a1 a0 r h goal hq)))))) (by cases a0; kernel_rfl)))))))))))))⟩
theorem zxK (n : Nat) : zfO n := (z7v n).1
theorem zy4 (n : Nat) : zeQ n := (z7v n).2.1
theorem zy3 (n : Nat) : zf1 n := (z7v n).2.2.1
theorem zrW (n : Nat) : zjP n := (z7v n).2.2.2
theorem zeC (n : Nat) (a0 : z00) (a1 : (List Int)) (r : (List Int)) (h : z3G n a0 a1 = some r) : zgo a0 a1 r := zek a0 a1 r (zrW n a0 a1 r h)
theorem zyy (n : Nat) (a0 : z00) (a1 : (List Int)) (r : (List Int)) (h : z3G n a0 a1 = some r) : PE.Spec A 65 [(.row 0),(vu2 a0)] [(.row (.int .u8) a1 0)] (.lst (.int .u8) r 0) [.dead] [] := zoq a0 a1 r (zeC n a0 a1 r h)
def zd5 (goal : GoT) (r : (Str × (List Int))) : Prop := PtS A 65 0 [.code (sub B65 [1,1,1,1,1,1])] ⟨[(0,(.row 0)),(5,(.str r.1))],[(0,(.row (.int .u8) r.2 0))]⟩ goal
def zjx (n : Nat) : Prop := ∀ (p0 : Str) (p1 : (List z00)) (p2 : Int) (p3 : Int) (p4 : (List Int)) (p5 : z00) (r : (Str × (List Int))),z6Q n p0 p1 p2 p3 p4 p5 = some r → ∀ (goal : GoT),zd5 goal r → PtS A 65 0 [.code (sub B65 [1,1,1,1,1,0,1,0,0]),.inLoop (sub B65 [1,1,1,1,1,0,1,0,0]),.inBlock 1,.code (sub B65 [1,1,1,1,1,1])] ⟨[(0,(.row 0)),(3,(.ptr 1 0)),(5,(.str p0)),(41,(.lst (.user 2) p1 0)),(42,(.ii p2)),(43,(.ii p3))],[(0,(.row (.int .u8) p4 0)),(1,(.box [(.ii p5.z0i),(.bool p5.z0K),(.ii p5.z0n),(.str p5.z0D),(.lst .str p5.z0d 0),(.lst (.user 2) p5.z09 0)]))]⟩ goal
def zjV (n : Nat) : Prop := ∀ (p0 : Str) (p1 : Int) (p2 : (List z00)) (p3 : Int) (p4 : Int) (p5 : (List Int)) (p6 : z00) (p7 : z00) (r : (Str × (List Int))),z9b n p0 p1 p2 p3 p4 p5 p6 p7 = some r → ∀ (goal : GoT),zd5 goal r → PtS A 65 0 [.code (sub B65 [1,1,1,1,1,0,1,0,0,1,1,0,0,1,1]),.inBlock 2,.code (sub B65 [1,1,1,1,1,0,1,0,0,1,1,1]),.inLoop (sub B65 [1,1,1,1,1,0,1,0,0]),.inBlock 1,.code (sub B65 [1,1,1,1,1,1])] ⟨[(0,(.row 0)),(3,(.ptr 1 0)),(5,(.str p0)),(6,(.ii p1)),(7,(.ptr 2 0)),(41,(.lst (.user 2) p2 0)),(42,(.ii p3)),(43,(.ii p4))],[(0,(.row (.int .u8) p5 0)),(1,(.box [(.ii p6.z0i),(.bool p6.z0K),(.ii p6.z0n),(.str p6.z0D),(.lst .str p6.z0d 0),(.lst (.user 2) p6.z09 0)])),(2,(.box [(.ii p7.z0i),(.bool p7.z0K),(.ii p7.z0n),(.str p7.z0D),(.lst .str p7.z0d 0),(.lst (.user 2) p7.z09 0)]))]⟩ goal
theorem zhv (n : Nat) : zjx n ∧ zjV n := by
  induction n with
  | zero => exact ⟨(fun p0 p1 p2 p3 p4 p5 r h => z14 (Eq.trans (Eq.symm (z6Q.eq_1 p0 p1 p2 p3 p4 p5)) h)),(fun p0 p1 p2 p3 p4 p5 p6 p7 r h => z14 (Eq.trans (Eq.symm (z9b.eq_1 p0 p1 p2 p3 p4 p5 p6 p7)) h))⟩
  | succ n ih => exact ⟨(fun p0 p1 p2 p3 p4 p5 r h goal hq => have h := Eq.trans (Eq.symm (z6Q.eq_2 _ _ _ _ _ _ _)) h
    (z0h h (fun b13 h => (z0a h (fun b14 h => (z0h h (fun b15 h => (z0a h (fun b16 h => (z01 (.cut [] [0,3,5,6,7,41,42,43] [1900200,1,1700300]) 14 [⟨[],[],[(0,true)],[],[]⟩,r0,⟨[],[],[(1,true)],[],[]⟩,r0] (ai b13 (ai b14 (ai b15 (ai b16 (ih.2 p0 p3 p1 p2 p3 (p4 ++ [44]) p5 (rd z00.dft p1 p3) r h goal hq))))) (by rw [← z00.eta (rd z00.dft p1 p3)]; cases p5; kernel_rfl))))) (fun b15 h => (z01 (.cut [] [0,3,5,6,7,41,42,43] [0,1,1700300]) 14 [⟨[],[],[(0,true)],[],[]⟩,r0,⟨[],[],[(1,false)],[],[]⟩] (ai b13 (ai b14 (ai b15 (ih.2 p0 p3 p1 p2 p3 p4 p5 (rd z00.dft p1 p3) r h goal hq)))) (by rw [← z00.eta (rd z00.dft p1 p3)]; cases p5; kernel_rfl))))))) (fun b13 h => (z01 (.cut [] [0,5] [0]) 5 [⟨[],[],[(0,false)],[],[]⟩] (ai b13 (z0b (Φ := zd5 goal) h hq)) (by kernel_rfl))))),(fun p0 p1 p2 p3 p4 p5 p6 p7 r h goal hq => have h := Eq.trans (Eq.symm (z9b.eq_2 _ _ _ _ _ _ _ _ _)) h
    (z0h h (fun b17 h => (z0a h (fun b18 h => (z0c h (fun b20 b19 h => (z0a h (fun b21 h => (z0c h (fun b23 b22 h => (z01 (.cut [] [0,3,5,41,42,43] [2200200,1]) 9 [⟨[],[],[(2,true)],[],[]⟩,⟨[],[(6,.call [0] [none,some .str] (.row 1) [.dead] [(.row (.int .u8) b20 0)])],[],[],[]⟩,⟨[],[(2,.call [2100800] [none,some (.user 2)] (.row 1) [.dead] [(.row (.int .u8) b23 0)])],[],[],[]⟩,r0] (ai b17 (ai b18 (ai (z8f n (rd [] p6.z0d p1) p5 b20 b19) (ai b21 (ai (zeC n p7 (b20 ++ [58]) b23 b22) (ih.1 p0 p2 p3 (z07 (p4 + 1)) b23 p6 r h goal hq)))))) (by cases p6; cases p7; kernel_rfl))))))))))) (fun b17 h => (z0c h (fun b25 b24 h => (z01 (.cut [] [0,3,5,41,42,43] [2200200,1]) 9 [⟨[],[],[(2,false)],[],[]⟩,⟨[],[(2,.call [0] [none,some (.user 2)] (.row 1) [.dead] [(.row (.int .u8) b25 0)])],[],[],[]⟩,r0] (ai b17 (ai (zeC n p7 p5 b25 b24) (ih.1 p0 p2 p3 (z07 (p4 + 1)) b25 p6 r h goal hq))) (by cases p6; cases p7; kernel_rfl)))))))⟩
theorem zrX (n : Nat) : zjx n := (zhv n).1
theorem zzr (n : Nat) : zjV n := (zhv n).2
def z6B (goal : GoT) (r : (List Int)) : Prop := goal (.row 0) [] [(.row (.int .u8) r 0)]
theorem zjs (n : Nat) : ∀ (p0 : Str) (p1 : z00) (r : (List Int)),zb2 n p0 p1 = some r → ∀ (goal : GoT),z6B goal r → PtS A 65 0 [.code (sub B65 [1,1,1,1])] ⟨[(0,.nil),(3,(.ptr 0 0)),(5,(.str p0))],[(0,(.box [(.ii p1.z0i),(.bool p1.z0K),(.ii p1.z0n),(.str p1.z0D),(.lst .str p1.z0d 0),(.lst (.user 2) p1.z09 0)]))]⟩ goal :=
  fun p0 p1 r h goal hq => have h := Eq.trans (Eq.symm (zb2.eq_1 n p0 p1)) h
    (z0a h (fun b12 h => (z0c h (fun b27 eb27 h => (z01 (.cut [] [0,3,5,41,42,43] [1400400,0]) 7 [r0,r0] (ai b12 (ai (by decide : fits (1 * 1)) (zrX n p0 p1.z09 (p1.z09.length : Int) 0 [(bt p0 0)] p1 b27 eb27 goal (z0a h (fun b28 h => (z0a h (fun b29 h => (z01 (.ret [] [2400400]) 2 [r0] (ai b28 (ai b29 (z0b (Φ := z6B goal) h hq))) (by kernel_rfl))))))))) (by cases p1; kernel_rfl))))))
def zmK (a0 : z00) (r : (List Int)) : Prop := PE.Spec A 65 [.nil,(vu2 a0)] [] (.row 0) [] [(.row (.int .u8) r 0)]
theorem zwF (a0 : z00) (r : (List Int)) (H : ∀ goal : GoT,z6B goal r → PtS A 65 0 [.code (sub B65 [])] ⟨[(0,.nil),(1,(vu2 a0))],[]⟩ goal) : zmK a0 r :=
  z0m z05 zAA (by kernel_rfl) (H _ ⟨rfl,rfl,rfl⟩)
theorem ztF (a0 : z00) (r : (List Int)) (H : zmK a0 r) : PE.Spec A 65 [.nil,(vu2 a0)] [] (.lst (.int .u8) r 0) [] [] :=
  z6S (.list (.int .u8)) r (by kernel_rfl) H
theorem zwa (n : Nat) : ∀ (a0 : z00) (r : (List Int)),zdY n a0 = some r → ∀ (goal : GoT),z6B goal r → PtS A 65 0 [.code (sub B65 [])] ⟨[(0,.nil),(1,(vu2 a0))],[]⟩ goal :=
  fun a0 r h goal hq => have h := Eq.trans (Eq.symm (zdY.eq_1 n a0)) h
    (z0h h (fun b1 h => (z01 (.ret [] [400100]) 11 [r0,r0,⟨[],[],[(1,true)],[],[]⟩,r0] (ai b1 (ai (by decide : fits ((bytesOf ([110,117,108,108] : Str)).length * 1)) (z0b (Φ := z6B goal) h hq))) (by kernel_rfl))) (fun b1 h => (z0h h (fun b2 h => (z0c h (fun b4 b3 h => (z01 (.ret [] [600300]) 14 [r0,r0,⟨[],[],[(1,false)],[],[]⟩,⟨[],[],[(1,true)],[],[]⟩,⟨[],[(3,.call [] [none,some .bool] (.row 0) [] [(.row (.int .u8) b4 0)])],[],[],[]⟩] (ai b1 (ai b2 (ai (zbw n a0.z0K b4 b3) (z0b (Φ := z6B goal) h hq)))) (by kernel_rfl))))) (fun b2 h => (z0h h (fun b5 h => (z0c h (fun b7 b6 h => (z01 (.ret [] [800300]) 17 [r0,r0,⟨[],[],[(1,false)],[],[]⟩,⟨[],[],[(1,false)],[],[]⟩,⟨[],[],[(1,true)],[],[]⟩,⟨[],[(3,.call [] [none,some (.int .i64),some (.int .i64)] (.row 0) [] [(.row (.int .u8) b7 0)])],[],[],[]⟩] (ai b1 (ai b2 (ai b5 (ai (zc4 n a0.z0n 10 b7 b6) (z0b (Φ := z6B goal) h hq))))) (by kernel_rfl))))) (fun b5 h => (z0h h (fun b8 h => (z0c h (fun b10 b9 h => (z01 (.ret [] [1000300]) 20 [r0,r0,⟨[],[],[(1,false)],[],[]⟩,⟨[],[],[(1,false)],[],[]⟩,⟨[],[],[(1,false)],[],[]⟩,⟨[],[],[(1,true)],[],[]⟩,⟨[],[(3,.call [] [none,some .str] (.row 0) [] [(.row (.int .u8) b10 0)])],[],[],[]⟩] (ai b1 (ai b2 (ai b5 (ai b8 (ai (zk0 n a0.z0D b10 b9) (z0b (Φ := z6B goal) h hq)))))) (by kernel_rfl))))) (fun b8 h => (z0h h (fun b11 h => (z01 (.cut [] [0,3,5] [100000]) 27 [r0,r0,⟨[],[],[(1,false)],[],[]⟩,⟨[],[],[(1,false)],[],[]⟩,⟨[],[],[(1,false)],[],[]⟩,⟨[],[],[(1,false)],[],[]⟩,r0,⟨[],[],[(2,true)],[],[]⟩,r0] (ai b1 (ai b2 (ai b5 (ai b8 (ai b11 (zjs n ([123,125] : Str) a0 r h goal hq)))))) (by cases a0; kernel_rfl))) (fun b11 h => (z01 (.cut [] [0,3,5] [100000]) 27 [r0,r0,⟨[],[],[(1,false)],[],[]⟩,⟨[],[],[(1,false)],[],[]⟩,⟨[],[],[(1,false)],[],[]⟩,⟨[],[],[(1,false)],[],[]⟩,r0,⟨[],[],[(2,false)],[],[]⟩] (ai b1 (ai b2 (ai b5 (ai b8 (ai b11 (zjs n ([91,93] : Str) a0 r h goal hq)))))) (by cases a0; kernel_rfl))))))))))))
theorem zww (n : Nat) (a0 : z00) (r : (List Int)) (h : zdY n a0 = some r) : zmK a0 r := zwF a0 r (zwa n a0 r h)
theorem zo8 (n : Nat) (a0 : z00) (r : (List Int)) (h : zdY n a0 = some r) : PE.Spec A 65 [.nil,(vu2 a0)] [] (.lst (.int .u8) r 0) [] [] := ztF a0 r (zww n a0 r h)
def z6h (goal : GoT) (r : (Str × Int)) : Prop := goal (.tuple [(.str r.1),(.ii r.2)]) [] []
def zhp (a0 : z00) (r : (Str × Int)) : Prop := PE.Spec A 64 [(vu2 a0),(.fn 65 [] [])] [] (.tuple [(.str r.1),(.ii r.2)]) [] []
theorem zoM (a0 : z00) (r : (Str × Int)) (H : ∀ goal : GoT,z6h goal r → PtS A 64 0 [.code (sub B64 [])] ⟨[(0,(vu2 a0)),(1,(.fn 65 [] []))],[]⟩ goal) : zhp a0 r :=
  z0m z05 zDE (by kernel_rfl) (H _ ⟨rfl,rfl,rfl⟩)
theorem zoS (n : Nat) : ∀ (a0 : z00) (r : (Str × Int)),z9V n a0 = some r → ∀ (goal : GoT),z6h goal r → PtS A 64 0 [.code (sub B64 [])] ⟨[(0,(vu2 a0)),(1,(.fn 65 [] []))],[]⟩ goal :=
  fun a0 r h goal hq => have h := Eq.trans (Eq.symm (z9V.eq_1 n a0)) h
    (z0c h (fun b2 b1 h => (z0h h (fun b3 h => (z01 (.ret [] []) 8 [r0,⟨[],[(1,.call [] [some (.user 2)] (.bool b2) [] [])],[(2,true)],[],[]⟩,r0] (ai (za5 n a0 b2 b1) (ai b3 (z0b (Φ := z6h goal) h hq))) (by cases a0; kernel_rfl))) (fun b3 h => (z0c h (fun b5 b4 h => (z0h h (fun b6 h => (z01 (.ret [] []) 15 [r0,⟨[],[(1,.call [] [some (.user 2)] (.bool b2) [] [])],[(2,false)],[],[]⟩,⟨[],[(2,.call [] [none,some (.user 2)] (.lst (.int .u8) b5 0) [] [])],[],[],[]⟩,⟨[],[],[(2,true)],[],[]⟩,r0] (ai (za5 n a0 b2 b1) (ai b3 (ai (zo8 n a0 b5 b4) (ai b6 (z0b (Φ := z6h goal) h hq))))) (by cases a0; kernel_rfl))) (fun b6 h => (z01 (.ret [] []) 16 [r0,⟨[],[(1,.call [] [some (.user 2)] (.bool b2) [] [])],[(2,false)],[],[]⟩,⟨[],[(2,.call [] [none,some (.user 2)] (.lst (.int .u8) b5 0) [] [])],[],[],[]⟩,⟨[],[],[(2,false)],[],[]⟩,r0] (ai (za5 n a0 b2 b1) (ai b3 (ai (zo8 n a0 b5 b4) (ai b6 (z0b (Φ := z6h goal) h hq))))) (by cases a0; kernel_rfl))))))))))
theorem zoy (n : Nat) (a0 : z00) (r : (Str × Int)) (h : z9V n a0 = some r) : zhp a0 r := zoM a0 r (zoS n a0 r h)
def zdz (goal : GoT) (r : (Str × Int)) : Prop := goal (.tuple [(.str r.1),(.ii r.2)]) [] []
def zlD (a0 : z00) (r : (Str × Int)) : Prop := PE.Spec A 29 [(vu2 a0)] [] (.tuple [(.str r.1),(.ii r.2)]) [] []
theorem zsg (a0 : z00) (r : (Str × Int)) (H : ∀ goal : GoT,zdz goal r → PtS A 29 0 [.code (sub B29 [])] ⟨[(0,(vu2 a0))],[]⟩ goal) : zlD a0 r :=
  z0m z05 zDC (by kernel_rfl) (H _ ⟨rfl,rfl,rfl⟩)
theorem zrA (n : Nat) : ∀ (a0 : z00) (r : (Str × Int)),zaV n a0 = some r → ∀ (goal : GoT),zdz goal r → PtS A 29 0 [.code (sub B29 [])] ⟨[(0,(vu2 a0))],[]⟩ goal :=
  fun a0 r h goal hq => have h := Eq.trans (Eq.symm (zaV.eq_1 n a0)) h
    (z0c h (fun b2 b1 h => (z01 (.ret [] []) 4 [r0,⟨[],[(1,.call [] [some (.user 2),none] (.tuple [(.str b2.1),(.ii b2.2)]) [] [])],[],[],[]⟩] (ai (zoy n a0 b2 b1) (z0b (Φ := zdz goal) h hq)) (by cases a0; kernel_rfl))))
theorem zjq (n : Nat) (a0 : z00) (r : (Str × Int)) (h : zaV n a0 = some r) : zlD a0 r := zsg a0 r (zrA n a0 r h)
def zey (goal : GoT) (r : Unit) : Prop := goal (.arr (.int .u32) ([1779033703,3144134277,1013904242,2773480762,1359893119,2600822924,528734635,1541459225] : List Int)) [] []
def znB (r : Unit) : Prop := PE.Spec A 102 [] [] (.arr (.int .u32) ([1779033703,3144134277,1013904242,2773480762,1359893119,2600822924,528734635,1541459225] : List Int)) [] []
theorem ztb (r : Unit) (H : ∀ goal : GoT,zey goal r → PtS A 102 0 [.code (sub B102 [])] ⟨[],[]⟩ goal) : znB r :=
  z0m z05 zC0 (by kernel_rfl) (H _ ⟨rfl,rfl,rfl⟩)
theorem ztQ (n : Nat) : ∀ (r : Unit),zeY n = some r → ∀ (goal : GoT),zey goal r → PtS A 102 0 [.code (sub B102 [])] ⟨[],[]⟩ goal :=
  fun r h goal hq => have h := Eq.trans (Eq.symm (zeY.eq_1 n)) h
    (z01 (.ret [] []) 4 [r0,r0] (ai (by kernel_rfl : 8 = 8) (ai (by kernel_rfl : (List.replicate 8 (0 : Int)).length = 8) (ai (by kernel_rfl : 8 = 8) (z0b (Φ := zey goal) h hq)))) (by kernel_rfl))
theorem zt8 (n : Nat) (r : Unit) (h : zeY n = some r) : znB r := ztb  r (ztQ n  r h)
def za6 (goal : GoT) (r : Unit) : Prop := goal (.ptr 0 0) [] [(.arr (.int .u32) ([1116352408,1899447441,3049323471,3921009573,961987163,1508970993,2453635748,2870763221,3624381080,310598401,607225278,1426881987,1925078388,2162078206,2614888103,3248222580,3835390401,4022224774,264347078,604807628,770255983,1249150122,1555081692,1996064986,2554220882,2821834349,2952996808,3210313671,3336571891,3584528711,113926993,338241895,666307205,773529912,1294757372,1396182291,1695183700,1986661051,2177026350,2456956037,2730485921,2820302411,3259730800,3345764771,3516065817,3600352804,4094571909,275423344,430227734,506948616,659060556,883997877,958139571,1322822218,1537002063,1747873779,1955562222,2024104815,2227730452,2361852424,2428436474,2756734187,3204031479,3329325298] : List Int))]
def zgD (r : Unit) : Prop := PE.Spec A 103 [] [] (.ptr 0 0) [] [(.arr (.int .u32) ([1116352408,1899447441,3049323471,3921009573,961987163,1508970993,2453635748,2870763221,3624381080,310598401,607225278,1426881987,1925078388,2162078206,2614888103,3248222580,3835390401,4022224774,264347078,604807628,770255983,1249150122,1555081692,1996064986,2554220882,2821834349,2952996808,3210313671,3336571891,3584528711,113926993,338241895,666307205,773529912,1294757372,1396182291,1695183700,1986661051,2177026350,2456956037,2730485921,2820302411,3259730800,3345764771,3516065817,3600352804,4094571909,275423344,430227734,506948616,659060556,883997877,958139571,1322822218,1537002063,1747873779,1955562222,2024104815,2227730452,2361852424,2428436474,2756734187,3204031479,3329325298] : List Int))]
theorem zmv (r : Unit) (H : ∀ goal : GoT,za6 goal r → PtS A 103 0 [.code (sub B103 [])] ⟨[],[]⟩ goal) : zgD r :=
  z0m z05 zAK (by kernel_rfl) (H _ ⟨rfl,rfl,rfl⟩)
theorem zmq (n : Nat) : ∀ (r : Unit),z8J n = some r → ∀ (goal : GoT),za6 goal r → PtS A 103 0 [.code (sub B103 [])] ⟨[],[]⟩ goal :=
  fun r h goal hq => have h := Eq.trans (Eq.symm (z8J.eq_1 n)) h
    (z01 (.ret [] [200100]) 4 [r0,r0] (z0b (Φ := za6 goal) h hq) (by kernel_rfl))
theorem zmR (n : Nat) (r : Unit) (h : z8J n = some r) : zgD r := zmv  r (zmq n  r h)
def zbf (goal : GoT) (r : ((List Int) × (List Int) × (List Int))) : Prop := PtS A 105 2 [.code (sub B105 [1,1])] ⟨[(0,(.ptr 0 0)),(2,(.ptr 1 0)),(6,(.ptr 2 0))],[(0,(.arr (.int .u32) r.1)),(1,(.arr (.int .u32) r.2.1)),(2,(.arr (.int .u32) r.2.2))]⟩ goal
def zcj (n : Nat) : Prop := ∀ (p0 : Str) (p1 : Int) (p2 : (List Int)) (p3 : (List Int)) (p4 : (List Int)) (r : ((List Int) × (List Int) × (List Int))),z2W n p0 p1 p2 p3 p4 = some r → ∀ (goal : GoT),zbf goal r → PtS A 105 2 [.code (sub B105 [1,0,1,0,0]),.inLoop (sub B105 [1,0,1,0,0]),.inBlock 0,.code (sub B105 [1,1])] ⟨[(0,(.ptr 0 0)),(1,(.str p0)),(2,(.ptr 1 0)),(6,(.ptr 2 0)),(21,(.ii p1))],[(0,(.arr (.int .u32) p2)),(1,(.arr (.int .u32) p3)),(2,(.arr (.int .u32) p4))]⟩ goal
theorem zhS (n : Nat) : zcj n := by
  induction n with
  | zero => exact (fun p0 p1 p2 p3 p4 r h => z14 (Eq.trans (Eq.symm (z2W.eq_1 p0 p1 p2 p3 p4)) h))
  | succ n ih => exact (fun p0 p1 p2 p3 p4 r h goal hq => have h := Eq.trans (Eq.symm (z2W.eq_2 _ _ _ _ _ _)) h
    (z0h h (fun b1 h => (z0a h (fun b2 h => (z0a h (fun b3 h => (z0a h (fun b4 h => (z0a h (fun b5 h => (z0a h (fun b6 h => (z0a h (fun b7 h => (z0a h (fun b8 h => (z01 (.cut [] [0,1,2,6,21] [0,1,2]) 13 [⟨[],[],[(0,true)],[],[]⟩,r0,r0,r0] (ai b1 (ai b2 (ai (by decide : nn 24) (ai b3 (ai (by decide : nn 16) (ai b4 (ai (by decide : nn 8) (ai b5 (ai b6 (ai b7 (ai b8 (ih p0 (z07 (p1 + 1)) p2 p3 (p4.set (p1).toNat (ior .u32 (ior .u32 (ior .u32 (shl .u32 (z0Z (bt p0 (z07 (4 * p1)))) 24) (shl .u32 (z0Z (bt p0 (z07 ((z07 (4 * p1)) + 1)))) 16)) (shl .u32 (z0Z (bt p0 (z07 ((z07 (4 * p1)) + 2)))) 8)) (z0Z (bt p0 (z07 ((z07 (4 * p1)) + 3)))))) r h goal hq)))))))))))) (by kernel_rfl))))))))))))))))) (fun b1 h => (z01 (.cut [] [0,2,6] [0,1,2]) 5 [⟨[],[],[(0,false)],[],[]⟩] (ai b1 (z0b (Φ := zbf goal) h hq)) (by kernel_rfl)))))
theorem zjc (n : Nat) : zcj n := (zhS n)
def z5f (goal : GoT) (r : Int) : Prop := goal (.int .u32 r) [] []
def z9u (a0 : Int) (a1 : Int) (r : Int) : Prop := PE.Spec A 179 [(.int .u32 a0),(.ii a1)] [] (.int .u32 r) [] []
theorem zep (a0 : Int) (a1 : Int) (r : Int) (H : ∀ goal : GoT,z5f goal r → PtS A 179 0 [.code (sub B179 [])] ⟨[(0,(.int .u32 a0)),(1,(.ii a1))],[]⟩ goal) : z9u a0 a1 r :=
  z0m z05 zBX (by kernel_rfl) (H _ ⟨rfl,rfl,rfl⟩)
theorem zen (n : Nat) : ∀ (a0 : Int) (a1 : Int) (r : Int),z5c n a0 a1 = some r → ∀ (goal : GoT),z5f goal r → PtS A 179 0 [.code (sub B179 [])] ⟨[(0,(.int .u32 a0)),(1,(.ii a1))],[]⟩ goal :=
  fun a0 a1 r h goal hq => have h := Eq.trans (Eq.symm (z5c.eq_1 n a0 a1)) h
    (z0a h (fun b1 h => (z0a h (fun b2 h => (z01 (.ret [] []) 6 [r0,r0,r0] (ai b1 (ai b2 (z0b (Φ := z5f goal) h hq))) (by kernel_rfl))))))
theorem zel (n : Nat) (a0 : Int) (a1 : Int) (r : Int) (h : z5c n a0 a1 = some r) : z9u a0 a1 r := zep a0 a1 r (zen n a0 a1 r h)
def zes (goal : GoT) (r : Int) : Prop := goal (.int .u32 r) [] []
def zo9 (a0 : Int) (a1 : Int) (r : Int) : Prop := PE.Spec A 142 [(.int .u32 a0),(.ii a1)] [] (.int .u32 r) [] []
theorem zto (a0 : Int) (a1 : Int) (r : Int) (H : ∀ goal : GoT,zes goal r → PtS A 142 0 [.code (sub B142 [])] ⟨[(0,(.int .u32 a0)),(1,(.ii a1))],[]⟩ goal) : zo9 a0 a1 r :=
  z0m z05 zBO (by kernel_rfl) (H _ ⟨rfl,rfl,rfl⟩)
theorem zu0 (n : Nat) : ∀ (a0 : Int) (a1 : Int) (r : Int),z4c n a0 a1 = some r → ∀ (goal : GoT),zes goal r → PtS A 142 0 [.code (sub B142 [])] ⟨[(0,(.int .u32 a0)),(1,(.ii a1))],[]⟩ goal :=
  fun a0 a1 r h goal hq => have h := Eq.trans (Eq.symm (z4c.eq_1 n a0 a1)) h
    (z0c h (fun b2 b1 h => (z01 (.ret [] []) 4 [r0,⟨[],[(3,.call [] [some (.int .u32),some (.int .i64)] (.int .u32 b2) [] [])],[],[],[]⟩] (ai (zel n a0 (z07 (0 - a1)) b2 b1) (z0b (Φ := zes goal) h hq)) (by kernel_rfl))))
theorem z3M (n : Nat) (a0 : Int) (a1 : Int) (r : Int) (h : z4c n a0 a1 = some r) : zo9 a0 a1 r := zto a0 a1 r (zu0 n a0 a1 r h)
def zbr (goal : GoT) (r : ((List Int) × (List Int) × (List Int))) : Prop := PtS A 105 2 [.code (sub B105 [1,1,1])] ⟨[(0,(.ptr 0 0)),(2,(.ptr 1 0)),(6,(.ptr 2 0))],[(0,(.arr (.int .u32) r.1)),(1,(.arr (.int .u32) r.2.1)),(2,(.arr (.int .u32) r.2.2))]⟩ goal
def zc6 (n : Nat) : Prop := ∀ (p0 : Int) (p1 : (List Int)) (p2 : (List Int)) (p3 : (List Int)) (r : ((List Int) × (List Int) × (List Int))),z2T n p0 p1 p2 p3 = some r → ∀ (goal : GoT),zbr goal r → PtS A 105 2 [.code (sub B105 [1,1,0,1,0,0]),.inLoop (sub B105 [1,1,0,1,0,0]),.inBlock 2,.code (sub B105 [1,1,1])] ⟨[(0,(.ptr 0 0)),(2,(.ptr 1 0)),(6,(.ptr 2 0)),(8,(.ii p0))],[(0,(.arr (.int .u32) p1)),(1,(.arr (.int .u32) p2)),(2,(.arr (.int .u32) p3))]⟩ goal
theorem zis (n : Nat) : zc6 n := by
  induction n with
  | zero => exact (fun p0 p1 p2 p3 r h => z14 (Eq.trans (Eq.symm (z2T.eq_1 p0 p1 p2 p3)) h))
  | succ n ih => exact (fun p0 p1 p2 p3 r h goal hq => have h := Eq.trans (Eq.symm (z2T.eq_2 _ _ _ _ _)) h
    (z0h h (fun b11 h => (z0a h (fun b12 h => (z0a h (fun b13 h => (z0a h (fun b14 h => (z0a h (fun b15 h => (z0a h (fun b16 h => (z0a h (fun b17 h => (z0c h (fun b19 b18 h => (z0c h (fun b21 b20 h => (z0c h (fun b23 b22 h => (z0c h (fun b25 b24 h => (z0a h (fun b26 h => (z0a h (fun b27 h => (z0a h (fun b28 h => (z0a h (fun b29 h => (z0a h (fun b30 h => (z0a h (fun b31 h => (z0a h (fun b32 h => (z0a h (fun b33 h => (z0a h (fun b34 h => (z01 (.cut [] [0,2,6,8] [0,1,2]) 17 [⟨[],[],[(1,true)],[],[]⟩,r0,⟨[],[(1,.call [] [some (.int .u32),some (.int .i64)] (.int .u32 b19) [] []),(3,.call [] [some (.int .u32),some (.int .i64)] (.int .u32 b21) [] [])],[],[],[]⟩,⟨[],[(1,.call [] [some (.int .u32),some (.int .i64)] (.int .u32 b23) [] []),(3,.call [] [some (.int .u32),some (.int .i64)] (.int .u32 b25) [] [])],[],[],[]⟩,r0,r0] (ai b11 (ai b12 (ai b13 (ai b14 (ai b15 (ai b16 (ai b17 (ai (z3M n (rd 0 p3 (z07 (p0 - 15))) 7 b19 b18) (ai (z3M n (rd 0 p3 (z07 (p0 - 15))) 18 b21 b20) (ai (by decide : nn 3) (ai (z3M n (rd 0 p3 (z07 (p0 - 2))) 17 b23 b22) (ai (z3M n (rd 0 p3 (z07 (p0 - 2))) 19 b25 b24) (ai (by decide : nn 10) (ai b26 (ai b27 (ai b28 (ai b29 (ai b30 (ai b31 (ai b32 (ai b33 (ai b34 (ih (z07 (p0 + 1)) p1 p2 (p3.set (p0).toNat (z0Z ((z0Z ((z0Z ((ixor .u32 (ixor .u32 b23 b25) (shr .u32 (rd 0 p3 (z07 (p0 - 2))) 10)) + (rd 0 p3 (z07 (p0 - 7))))) + (ixor .u32 (ixor .u32 b19 b21) (shr .u32 (rd 0 p3 (z07 (p0 - 15))) 3)))) + (rd 0 p3 (z07 (p0 - 16)))))) r h goal hq))))))))))))))))))))))) (by kernel_rfl))))))))))))))))))))))))))))))))))))))))) (fun b11 h => (z01 (.cut [] [0,2,6] [0,1,2]) 5 [⟨[],[],[(1,false)],[],[]⟩] (ai b11 (z0b (Φ := zbr goal) h hq)) (by kernel_rfl)))))
theorem zjo (n : Nat) : zc6 n := (zis n)
def zbq (goal : GoT) (r : ((List Int) × (List Int) × (List Int))) : Prop := PtS A 105 2 [.code (sub B105 [1,1,1,1,1])] ⟨[(0,(.ptr 0 0)),(13,(.ptr 2 0))],[(0,(.arr (.int .u32) r.1)),(1,(.arr (.int .u32) r.2.1)),(2,(.arr (.int .u32) r.2.2))]⟩ goal
def zc1 (n : Nat) : Prop := ∀ (p0 : Int) (p1 : (List Int)) (p2 : (List Int)) (p3 : (List Int)) (p4 : (List Int)) (r : ((List Int) × (List Int) × (List Int))),z3a n p0 p1 p2 p3 p4 = some r → ∀ (goal : GoT),zbq goal r → PtS A 105 2 [.code (sub B105 [1,1,1,1,0,1,0,0]),.inLoop (sub B105 [1,1,1,1,0,1,0,0]),.inBlock 4,.code (sub B105 [1,1,1,1,1])] ⟨[(0,(.ptr 0 0)),(2,(.ptr 1 0)),(6,(.ptr 2 0)),(13,(.ptr 3 0)),(102,(.ii p0))],[(0,(.arr (.int .u32) p1)),(1,(.arr (.int .u32) p2)),(2,(.arr (.int .u32) p3)),(3,(.arr (.int .u32) p4))]⟩ goal
theorem zij (n : Nat) : zc1 n := by
  induction n with
  | zero => exact (fun p0 p1 p2 p3 p4 r h => z14 (Eq.trans (Eq.symm (z3a.eq_1 p0 p1 p2 p3 p4)) h))
  | succ n ih => exact (fun p0 p1 p2 p3 p4 r h goal hq => have h := Eq.trans (Eq.symm (z3a.eq_2 _ _ _ _ _ _)) h
    (z0h h (fun b39 h => (z0a h (fun b40 h => (z0a h (fun b41 h => (z0a h (fun b42 h => (z0a h (fun b43 h => (z0a h (fun b44 h => (z0a h (fun b45 h => (z0a h (fun b46 h => (z0a h (fun b47 h => (z0a h (fun b48 h => (z0c h (fun b50 b49 h => (z0c h (fun b52 b51 h => (z0c h (fun b54 b53 h => (z0a h (fun b55 h => (z0a h (fun b56 h => (z0a h (fun b57 h => (z0a h (fun b58 h => (z0a h (fun b59 h => (z0a h (fun b60 h => (z0a h (fun b61 h => (z0a h (fun b62 h => (z0a h (fun b63 h => (z0a h (fun b64 h => (z0a h (fun b65 h => (z0a h (fun b66 h => (z0c h (fun b68 b67 h => (z0c h (fun b70 b69 h => (z0c h (fun b72 b71 h => (z0a h (fun b73 h => (z0a h (fun b74 h => (z0a h (fun b75 h => (z0a h (fun b76 h => (z0a h (fun b77 h => (z0a h (fun b78 h => (z0a h (fun b79 h => (z0a h (fun b80 h => (z0a h (fun b81 h => (z0a h (fun b82 h => (z0a h (fun b83 h => (z0a h (fun b84 h => (z0a h (fun b85 h => (z0a h (fun b86 h => (z0a h (fun b87 h => (z0a h (fun b88 h => (z0a h (fun b89 h => (z0a h (fun b90 h => (z0a h (fun b91 h => (z0a h (fun b92 h => (z0a h (fun b93 h => (z0a h (fun b94 h => (z0a h (fun b95 h => (z0a h (fun b96 h => (z0a h (fun b97 h => (z0a h (fun b98 h => (z0a h (fun b99 h => (z0a h (fun b100 h => (z0a h (fun b101 h => (z0a h (fun b102 h => (z0a h (fun b103 h => (z0a h (fun b104 h => (z0a h (fun b105 h => (z0a h (fun b106 h => (z01 (.cut [] [0,2,6,13,102] [0,1,2,3]) 19 [⟨[],[],[(0,true)],[],[]⟩,r0,r0,⟨[],[(3,.call [] [some (.int .u32),some (.int .i64)] (.int .u32 b50) [] []),(5,.call [] [some (.int .u32),some (.int .i64)] (.int .u32 b52) [] []),(8,.call [] [some (.int .u32),some (.int .i64)] (.int .u32 b54) [] [])],[],[],[]⟩,⟨[],[(1,.call [] [some (.int .u32),some (.int .i64)] (.int .u32 b68) [] []),(3,.call [] [some (.int .u32),some (.int .i64)] (.int .u32 b70) [] []),(6,.call [] [some (.int .u32),some (.int .i64)] (.int .u32 b72) [] [])],[],[],[]⟩,r0,r0] (ai b39 (ai b40 (ai b41 (ai b42 (ai b43 (ai b44 (ai b45 (ai b46 (ai b47 (ai b48 (ai (z3M n (rd 0 p4 4) 6 b50 b49) (ai (z3M n (rd 0 p4 4) 11 b52 b51) (ai (z3M n (rd 0 p4 4) 25 b54 b53) (ai b55 (ai b56 (ai b57 (ai b58 (ai b59 (ai b60 (ai b61 (ai b62 (ai b63 (ai b64 (ai b65 (ai b66 (ai (z3M n (rd 0 p4 0) 2 b68 b67) (ai (z3M n (rd 0 p4 0) 13 b70 b69) (ai (z3M n (rd 0 p4 0) 22 b72 b71) (ai b73 (ai b74 (ai b75 (ai b76 (ai b77 (ai b78 (ai b79 (ai b80 (ai b81 (ai b82 (ai b83 (ai b84 (ai b85 (ai b86 (ai b87 (ai b88 (ai b89 (ai b90 (ai b91 (ai b92 (ai b93 (ai b94 (ai b95 (ai b96 (ai b97 (ai b98 (ai b99 (ai b100 (ai b101 (ai b102 (ai b103 (ai b104 (ai b105 (ai (by kernel_rfl : 8 = 8) (ai b106 (ih (z07 (p0 + 1)) p1 p2 p3 [(z0Z ((z0Z ((z0Z ((z0Z ((z0Z ((rd 0 p4 7) + (ixor .u32 (ixor .u32 b50 b52) b54))) + (ixor .u32 (iand .u32 (rd 0 p4 4) (rd 0 p4 5)) (iand .u32 (ixor .u32 4294967295 (rd 0 p4 4)) (rd 0 p4 6))))) + (rd 0 p2 p0))) + (rd 0 p3 p0))) + (z0Z ((ixor .u32 (ixor .u32 b68 b70) b72) + (ixor .u32 (ixor .u32 (iand .u32 (rd 0 p4 0) (rd 0 p4 1)) (iand .u32 (rd 0 p4 0) (rd 0 p4 2))) (iand .u32 (rd 0 p4 1) (rd 0 p4 2))))))),(rd 0 p4 0),(rd 0 p4 1),(rd 0 p4 2),(z0Z ((rd 0 p4 3) + (z0Z ((z0Z ((z0Z ((z0Z ((rd 0 p4 7) + (ixor .u32 (ixor .u32 b50 b52) b54))) + (ixor .u32 (iand .u32 (rd 0 p4 4) (rd 0 p4 5)) (iand .u32 (ixor .u32 4294967295 (rd 0 p4 4)) (rd 0 p4 6))))) + (rd 0 p2 p0))) + (rd 0 p3 p0))))),(rd 0 p4 4),(rd 0 p4 5),(rd 0 p4 6)] r h goal hq)))))))))))))))))))))))))))))))))))))))))))))))))))))))))))))))) (by kernel_rfl))))))))))))))))))))))))))))))))))))))))))))))))))))))))))))))))))))))))))))))))))))))))))))))))))))))))))))))))))))))))))))) (fun b39 h => (z01 (.cut [] [0,13] [0,1,3]) 5 [⟨[],[],[(0,false)],[],[]⟩] (ai b39 (z0b (Φ := zbq goal) h hq)) (by kernel_rfl)))))
theorem zjb (n : Nat) : zc1 n := (zij n)
def zbs (goal : GoT) (r : ((List Int) × (List Int))) : Prop := PtS A 105 2 [] ⟨[],[(0,(.arr (.int .u32) r.1)),(1,(.arr (.int .u32) r.2))]⟩ goal
def zc8 (n : Nat) : Prop := ∀ (p0 : (List Int)) (p1 : Int) (p2 : (List Int)) (p3 : (List Int)) (r : ((List Int) × (List Int))),z2O n p0 p1 p2 p3 = some r → ∀ (goal : GoT),zbs goal r → PtS A 105 2 [.code (sub B105 [1,1,1,1,1,1,0,0]),.inLoop (sub B105 [1,1,1,1,1,1,0,0]),.inBlock 6] ⟨[(0,(.ptr 0 0)),(186,(.arr (.int .u32) p0)),(187,(.ii p1))],[(0,(.arr (.int .u32) p2)),(1,(.arr (.int .u32) p3))]⟩ goal
theorem zhA (n : Nat) : zc8 n := by
  induction n with
  | zero => exact (fun p0 p1 p2 p3 r h => z14 (Eq.trans (Eq.symm (z2O.eq_1 p0 p1 p2 p3)) h))
  | succ n ih => exact (fun p0 p1 p2 p3 r h goal hq => have h := Eq.trans (Eq.symm (z2O.eq_2 _ _ _ _ _)) h
    (z0h h (fun b110 h => (z0a h (fun b111 h => (z0a h (fun b112 h => (z0a h (fun b113 h => (z0a h (fun b114 h => (z0a h (fun b115 h => (z0a h (fun b116 h => (z0a h (fun b117 h => (z0a h (fun b118 h => (z01 (.cut [] [0,186,187] [0,1]) 13 [⟨[],[],[(0,true)],[],[]⟩,r0,r0,r0] (ai b110 (ai b111 (ai b112 (ai b113 (ai b114 (ai b115 (ai b116 (ai b117 (ai b118 (ih p0 (z07 (p1 + 1)) (p2.set (p1).toNat (z0Z ((rd 0 p2 p1) + (rd 0 p0 p1)))) p3 r h goal hq)))))))))) (by kernel_rfl))))))))))))))))))) (fun b110 h => (z01 (.cut [] [] [0,1]) 5 [⟨[],[],[(0,false)],[],[]⟩] (ai b110 (z0b (Φ := zbs goal) h hq)) (by kernel_rfl)))))
theorem zj3 (n : Nat) : zc8 n := (zhA n)
def zab (goal : GoT) (r : ((List Int) × (List Int))) : Prop := goal (.tuple []) [(.arr (.int .u32) r.1),(.arr (.int .u32) r.2)] []
def zgK (a0 : Str) (a1 : (List Int)) (a2 : (List Int)) (r : ((List Int) × (List Int))) : Prop := PE.Spec A 105 [(.ptr 0 0),(.str a0),(.ptr 1 0)] [(.arr (.int .u32) a1),(.arr (.int .u32) a2)] (.tuple []) [(.arr (.int .u32) r.1),(.arr (.int .u32) r.2)] []
theorem znl (a0 : Str) (a1 : (List Int)) (a2 : (List Int)) (r : ((List Int) × (List Int))) (H : ∀ goal : GoT,zab goal r → PtS A 105 2 [.code (sub B105 [])] ⟨[(0,(.ptr 0 0)),(1,(.str a0)),(2,(.ptr 1 0))],[(0,(.arr (.int .u32) a1)),(1,(.arr (.int .u32) a2))]⟩ goal) : zgK a0 a1 a2 r :=
  z0m z05 zAF (by kernel_rfl) (H _ ⟨rfl,rfl,rfl⟩)
theorem znd (n : Nat) : ∀ (a0 : Str) (a1 : (List Int)) (a2 : (List Int)) (r : ((List Int) × (List Int))),z7m n a0 a1 a2 = some r → ∀ (goal : GoT),zab goal r → PtS A 105 2 [.code (sub B105 [])] ⟨[(0,(.ptr 0 0)),(1,(.str a0)),(2,(.ptr 1 0))],[(0,(.arr (.int .u32) a1)),(1,(.arr (.int .u32) a2))]⟩ goal :=
  fun a0 a1 a2 r h goal hq => have h := Eq.trans (Eq.symm (z7m.eq_1 n a0 a1 a2)) h
    (z0c h (fun b10 eb10 h => (z01 (.cut [] [0,1,2,6,21] [0,1,100000]) 7 [r0,r0] (zjc n a0 0 a1 a2 (List.replicate 64 (0 : Int)) b10 eb10 goal (z0c h (fun b36 eb36 h => (z01 (.cut [] [0,2,6,8] [0,1,2]) 5 [r0] (zjo n 16 b10.1 b10.2.1 b10.2.2 b36 eb36 goal (z0a h (fun b37 h => (z0a h (fun b38 h => (z0c h (fun b108 eb108 h => (z01 (.cut [] [0,2,6,13,102] [0,1,2,1400300]) 7 [r0,r0] (ai b37 (ai b38 (ai (by kernel_rfl : (List.replicate 8 (0 : Int)).length = 8) (zjb n 0 b36.1 b36.2.1 b36.2.2 b36.1 b108 eb108 goal (z0a h (fun b109 h => (z0c h (fun b120 eb120 h => (z01 (.cut [] [0,186,187] [0,1]) 4 [r0] (ai b109 (zj3 n b108.2.2 0 b108.1 b108.2.1 b120 eb120 goal (z01 (.ret [] []) 0 [] (z0b (Φ := zab goal) h hq) (by kernel_rfl)))) (by kernel_rfl)))))))))) (by kernel_rfl))))))))) (by kernel_rfl))))) (by kernel_rfl))))
theorem zmO (n : Nat) (a0 : Str) (a1 : (List Int)) (a2 : (List Int)) (r : ((List Int) × (List Int))) (h : z7m n a0 a1 a2 = some r) : zgK a0 a1 a2 r := znl a0 a1 a2 r (znd n a0 a1 a2 r h)
def zih (goal : GoT) (r : ((List Str) × Int × (List Int) × (List Int))) : Prop := PtS A 70 0 [.inBlock 1,.code (sub B70 [1,1,1,0,1,0,0,1,1,1]),.inLoop (sub B70 [1,1,1,0,1,0,0]),.inBlock 0,.code (sub B70 [1,1,1,1])] ⟨[(3,(.ptr 0 0)),(4,(.ptr 1 0)),(26,(.lst .str r.1 0)),(27,(.ii 2)),(28,(.ii r.2.1))],[(0,(.arr (.int .u32) r.2.2.1)),(1,(.arr (.int .u32) r.2.2.2))]⟩ goal
def zjO (n : Nat) : Prop := ∀ (p0 : Str) (p1 : (List Str)) (p2 : Int) (p3 : (List Int)) (p4 : (List Int)) (r : ((List Str) × Int × (List Int) × (List Int))),z7F n p0 p1 p2 p3 p4 = some r → ∀ (goal : GoT),zih goal r → PtS A 70 0 [.code (sub B70 [1,1,1,0,1,0,0,1,1,0,0,1,0,0]),.inLoop (sub B70 [1,1,1,0,1,0,0,1,1,0,0,1,0,0]),.inBlock 2,.inBlock 1,.code (sub B70 [1,1,1,0,1,0,0,1,1,1]),.inLoop (sub B70 [1,1,1,0,1,0,0]),.inBlock 0,.code (sub B70 [1,1,1,1])] ⟨[(3,(.ptr 0 0)),(4,(.ptr 1 0)),(7,(.str p0)),(26,(.lst .str p1 0)),(27,(.ii 2)),(28,(.ii p2))],[(0,(.arr (.int .u32) p3)),(1,(.arr (.int .u32) p4))]⟩ goal
theorem zps (n : Nat) : zjO n := by
  induction n with
  | zero => exact (fun p0 p1 p2 p3 p4 r h => z14 (Eq.trans (Eq.symm (z7F.eq_1 p0 p1 p2 p3 p4)) h))
  | succ n ih => exact (fun p0 p1 p2 p3 p4 r h goal hq => have h := Eq.trans (Eq.symm (z7F.eq_2 _ _ _ _ _ _)) h
    (z0h h (fun b11 h => (z0c h (fun b13 b12 h => (z0a h (fun b14 h => (z01 (.cut [] [3,4,7,26,27,28] [0,1]) 11 [⟨[],[],[(1,true)],[],[]⟩,⟨[],[(2,.call [0,1] [none,some .str,none] (.tuple []) [(.arr (.int .u32) b13.1),(.arr (.int .u32) b13.2)] [])],[],[],[]⟩,r0] (ai b11 (ai (zmO n p0 p3 p4 b13 b12) (ai b14 (ih (p0.drop 64) p1 p2 b13.1 b13.2 r h goal hq)))) (by kernel_rfl))))))) (fun b11 h => (z01 (.cut [] [3,4,26,27,28] [0,1]) 5 [⟨[],[],[(1,false)],[],[]⟩] (ai b11 (z0b (Φ := zih goal) h hq)) (by kernel_rfl)))))
theorem zrE (n : Nat) : zjO n := (zps n)
def ziI (goal : GoT) (r : (List Int)) : Prop := PtS A 70 0 [.code (sub B70 [1,1,1,1])] ⟨[(3,(.ptr 0 0))],[(0,(.arr (.int .u32) r))]⟩ goal
def zjE (n : Nat) : Prop := ∀ (p0 : (List Str)) (p1 : Int) (p2 : (List Int)) (p3 : (List Int)) (r : (List Int)),z6P n p0 p1 p2 p3 = some r → ∀ (goal : GoT),ziI goal r → PtS A 70 0 [.code (sub B70 [1,1,1,0,1,0,0]),.inLoop (sub B70 [1,1,1,0,1,0,0]),.inBlock 0,.code (sub B70 [1,1,1,1])] ⟨[(3,(.ptr 0 0)),(4,(.ptr 1 0)),(26,(.lst .str p0 0)),(27,(.ii 2)),(28,(.ii p1))],[(0,(.arr (.int .u32) p2)),(1,(.arr (.int .u32) p3))]⟩ goal
theorem zqO (n : Nat) : zjE n := by
  induction n with
  | zero => exact (fun p0 p1 p2 p3 r h => z14 (Eq.trans (Eq.symm (z6P.eq_1 p0 p1 p2 p3)) h))
  | succ n ih => exact (fun p0 p1 p2 p3 r h goal hq => have h := Eq.trans (Eq.symm (z6P.eq_2 _ _ _ _ _)) h
    (z0h h (fun b9 h => (z0a h (fun b10 h => (z0c h (fun b16 eb16 h => (z01 (.cut [] [3,4,7,26,27,28] [0,1]) 11 [⟨[],[],[(0,true)],[],[]⟩,r0] (ai b9 (ai b10 (zrE n (rd [] p0 p1) p0 p1 p2 p3 b16 eb16 goal (z01 (.cut [] [3,4,26,27,28] [0,1]) 3 [r0] (ih b16.1 (z07 (b16.2.1 + 1)) b16.2.2.1 b16.2.2.2 r h goal hq) (by kernel_rfl))))) (by kernel_rfl))))))) (fun b9 h => (z01 (.cut [] [3] [0]) 5 [⟨[],[],[(0,false)],[],[]⟩] (ai b9 (z0b (Φ := ziI goal) h hq)) (by kernel_rfl)))))
theorem zrT (n : Nat) : zjE n := (zqO n)
def zhZ (goal : GoT) (r : (List Int)) : Prop := PtS A 70 0 [.code (sub B70 [1,1,1,1,1,1])] ⟨[(8,(.ptr 0 0))],[(0,(.arr (.int .u8) r))]⟩ goal
def zjv (n : Nat) : Prop := ∀ (p0 : (List Int)) (p1 : Int) (p2 : (List Int)) (r : (List Int)),z95 n p0 p1 p2 = some r → ∀ (goal : GoT),zhZ goal r → PtS A 70 0 [.code (sub B70 [1,1,1,1,1,0,1,0,0]),.inLoop (sub B70 [1,1,1,1,1,0,1,0,0]),.inBlock 4,.code (sub B70 [1,1,1,1,1,1])] ⟨[(8,(.ptr 0 0)),(40,(.arr (.int .u32) p0)),(41,(.ii p1))],[(0,(.arr (.int .u8) p2))]⟩ goal
theorem zq5 (n : Nat) : zjv n := by
  induction n with
  | zero => exact (fun p0 p1 p2 r h => z14 (Eq.trans (Eq.symm (z95.eq_1 p0 p1 p2)) h))
  | succ n ih => exact (fun p0 p1 p2 r h goal hq => have h := Eq.trans (Eq.symm (z95.eq_2 _ _ _ _)) h
    (z0h h (fun b20 h => (z0a h (fun b21 h => (z0a h (fun b22 h => (z0a h (fun b23 h => (z0a h (fun b24 h => (z0a h (fun b25 h => (z0a h (fun b26 h => (z0a h (fun b27 h => (z0a h (fun b28 h => (z0a h (fun b29 h => (z0a h (fun b30 h => (z0a h (fun b31 h => (z0a h (fun b32 h => (z0a h (fun b33 h => (z0a h (fun b34 h => (z01 (.cut [] [8,40,41] [0]) 13 [⟨[],[],[(0,true)],[],[]⟩,r0,r0,r0] (ai b20 (ai b21 (ai b22 (ai (by decide : nn 24) (ai (by decide : nn 16) (ai (by decide : nn 8) (ai b23 (ai b24 (ai b25 (ai b26 (ai b27 (ai b28 (ai b29 (ai b30 (ai b31 (ai b32 (ai b33 (ai b34 (ih p0 (z07 (p1 + 1)) ((((p2.set (z07 (4 * p1)).toNat (w_u8 (shr .u32 (rd 0 p0 p1) 24))).set (z07 ((z07 (4 * p1)) + 1)).toNat (w_u8 (shr .u32 (rd 0 p0 p1) 16))).set (z07 ((z07 (4 * p1)) + 2)).toNat (w_u8 (shr .u32 (rd 0 p0 p1) 8))).set (z07 ((z07 (4 * p1)) + 3)).toNat (w_u8 (rd 0 p0 p1))) r h goal hq))))))))))))))))))) (by kernel_rfl))))))))))))))))))))))))))))))) (fun b20 h => (z01 (.cut [] [8] [0]) 5 [⟨[],[],[(0,false)],[],[]⟩] (ai b20 (z0b (Φ := zhZ goal) h hq)) (by kernel_rfl)))))
theorem zs4 (n : Nat) : zjv n := (zq5 n)
def zhT (goal : GoT) (r : Str) : Prop := goal (.str r) [] []
def zsl (a0 : Str) (r : Str) : Prop := PE.Spec A 70 [(.str a0)] [] (.str r) [] []
theorem zwj (a0 : Str) (r : Str) (H : ∀ goal : GoT,zhT goal r → PtS A 70 0 [.code (sub B70 [])] ⟨[(0,(.str a0))],[]⟩ goal) : zsl a0 r :=
  z0m z05 zDj (by kernel_rfl) (H _ ⟨rfl,rfl,rfl⟩)
theorem zwe (n : Nat) : ∀ (a0 : Str) (r : Str),ziV n a0 = some r → ∀ (goal : GoT),zhT goal r → PtS A 70 0 [.code (sub B70 [])] ⟨[(0,(.str a0))],[]⟩ goal :=
  fun a0 r h goal hq => have h := Eq.trans (Eq.symm (ziV.eq_1 n a0)) h
    (z0c h (fun b2 b1 h => (z0c h (fun b4 b3 h => (z0a h (fun b5 h => (z0a h (fun b6 h => (z0c h (fun b8 b7 h => (z0c h (fun b18 eb18 h => (z01 (.cut [.norm 26 (.list .str)] [3,4,26,27,28] [200200,200100]) 11 [r0,⟨[],[(0,.call [] [] (.arr (.int .u32) ([1779033703,3144134277,1013904242,2773480762,1359893119,2600822924,528734635,1541459225] : List Int)) [] []),(1,.call [] [] (.ptr 0 0) [] [(.arr (.int .u32) ([1116352408,1899447441,3049323471,3921009573,961987163,1508970993,2453635748,2870763221,3624381080,310598401,607225278,1426881987,1925078388,2162078206,2614888103,3248222580,3835390401,4022224774,264347078,604807628,770255983,1249150122,1555081692,1996064986,2554220882,2821834349,2952996808,3210313671,3336571891,3584528711,113926993,338241895,666307205,773529912,1294757372,1396182291,1695183700,1986661051,2177026350,2456956037,2730485921,2820302411,3259730800,3345764771,3516065817,3600352804,4094571909,275423344,430227734,506948616,659060556,883997877,958139571,1322822218,1537002063,1747873779,1955562222,2024104815,2227730452,2361852424,2428436474,2756734187,3204031479,3329325298] : List Int))])],[],[],[]⟩,r0,⟨[],[(8,.call [] [some .str,some (.int .i64)] (.str b8) [] [])],[],[],[]⟩] (ai (zt8 n  b2 b1) (ai (zmR n  b4 b3) (ai (by kernel_rfl : 8 = 8) (ai (by kernel_rfl : (List.replicate 8 (0 : Int)).length = 8) (ai (by decide : nz 64) (ai b5 (ai b6 (ai (zw1 (a0.drop (z07 ((z07 (Int.tdiv (a0.length : Int) 64)) * 64)).toNat) (a0.length : Int) b8 b7) (zrT n [(a0.take (z07 ((z07 (Int.tdiv (a0.length : Int) 64)) * 64)).toNat),b8] 0 [1779033703,3144134277,1013904242,2773480762,1359893119,2600822924,528734635,1541459225] [1116352408,1899447441,3049323471,3921009573,961987163,1508970993,2453635748,2870763221,3624381080,310598401,607225278,1426881987,1925078388,2162078206,2614888103,3248222580,3835390401,4022224774,264347078,604807628,770255983,1249150122,1555081692,1996064986,2554220882,2821834349,2952996808,3210313671,3336571891,3584528711,113926993,338241895,666307205,773529912,1294757372,1396182291,1695183700,1986661051,2177026350,2456956037,2730485921,2820302411,3259730800,3345764771,3516065817,3600352804,4094571909,275423344,430227734,506948616,659060556,883997877,958139571,1322822218,1537002063,1747873779,1955562222,2024104815,2227730452,2361852424,2428436474,2756734187,3204031479,3329325298] b18 eb18 goal (z0a h (fun b19 h => (z0c h (fun b36 eb36 h => (z01 (.cut [] [8,40,41] [1100000]) 7 [r0,r0] (ai b19 (zs4 n b18 0 (List.replicate 32 (0 : Int)) b36 eb36 goal (z0a h (fun b37 h => (z01 (.ret [] []) 2 [r0] (ai b37 (z0b (Φ := zhT goal) h hq)) (by kernel_rfl)))))) (by kernel_rfl))))))))))))))) (by kernel_rfl))))))))))))))
theorem zwf (n : Nat) (a0 : Str) (r : Str) (h : ziV n a0 = some r) : zsl a0 r := zwj a0 r (zwe n a0 r h)
def zdi (goal : GoT) (r : Str) : Prop := goal (.str r) [] []
def zkX (a0 : Str) (r : Str) : Prop := PE.Spec A 32 [(.str a0)] [] (.str r) [] []
theorem zrk (a0 : Str) (r : Str) (H : ∀ goal : GoT,zdi goal r → PtS A 32 0 [.code (sub B32 [])] ⟨[(0,(.str a0))],[]⟩ goal) : zkX a0 r :=
  z0m z05 zD4 (by kernel_rfl) (H _ ⟨rfl,rfl,rfl⟩)
theorem zrn (n : Nat) : ∀ (a0 : Str) (r : Str),zay n a0 = some r → ∀ (goal : GoT),zdi goal r → PtS A 32 0 [.code (sub B32 [])] ⟨[(0,(.str a0))],[]⟩ goal :=
  fun a0 r h goal hq => have h := Eq.trans (Eq.symm (zay.eq_1 n a0)) h
    (z0c h (fun b2 b1 h => (z0c h (fun b4 b3 h => (z01 (.ret [] []) 4 [r0,⟨[],[(1,.call [] [some .str] (.str b2) [] []),(2,.call [] [some (.int .i64),some .str] (.str b4) [] [])],[],[],[]⟩] (ai (zwf n a0 b2 b1) (ai (zfw n 1 b2 b4 b3) (z0b (Φ := zdi goal) h hq))) (by kernel_rfl))))))
theorem zrO (n : Nat) (a0 : Str) (r : Str) (h : zay n a0 = some r) : zkX a0 r := zrk a0 r (zrn n a0 r h)
end Go.Proofs.YtchpeafokjmmeaaGreatDoorQ
