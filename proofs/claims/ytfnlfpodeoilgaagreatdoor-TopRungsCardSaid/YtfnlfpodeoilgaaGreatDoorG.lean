/- Each call is as it is told: printed by GenEnt.lean. No condition. -/
import Derived.Test.YtfnlfpodeoilgaaGreatDoorK0
import Derived.Test.YtfnlfpodeoilgaaGreatDoorK1
import Derived.Test.YtfnlfpodeoilgaaGreatDoorK2
import Derived.Test.YtfnlfpodeoilgaaGreatDoorK3
import Derived.Test.YtfnlfpodeoilgaaGreatDoorK4
import Derived.Test.YtfnlfpodeoilgaaGreatDoorK5
import Derived.Test.YtfnlfpodeoilgaaGreatDoorK6
import Derived.Test.YtfnlfpodeoilgaaGreatDoorK7
set_option linter.all false
set_option maxRecDepth 1000000
namespace Go.Proofs.YtfnlfpodeoilgaaGreatDoor
open Go Go.AM AV AO Tr

theorem g0 : e0.Good Tryz.prog gg ft := Ent.good ttOk ftOk rfl (l := us0) (.nil) k0
theorem g1 : e1.Good Tryz.prog gg ft := Ent.good ttOk ftOk rfl (l := us1) (.nil) k1
theorem g2 : e2.Good Tryz.prog gg ft := Ent.good ttOk ftOk rfl (l := us2) (.nil) k2
theorem g3 : e3.Good Tryz.prog gg ft := Ent.good ttOk ftOk rfl (l := us3) (.nil) k3
theorem g4 : e4.Good Tryz.prog gg ft := Ent.good ttOk ftOk rfl (l := us4) (.nil) k4
theorem g5 : e5.Good Tryz.prog gg ft := Ent.good ttOk ftOk rfl (l := us5) (.nil) k5
theorem g6 : e6.Good Tryz.prog gg ft := Ent.good ttOk ftOk rfl (l := us6) (.nil) k6
theorem g7 : e7.Good Tryz.prog gg ft := Ent.good ttOk ftOk rfl (l := us7) (.nil) k7
theorem g8 : e8.Good Tryz.prog gg ft := Ent.good ttOk ftOk rfl (l := us8) (.cons g7 (.nil)) k8
theorem g9 : e9.Good Tryz.prog gg ft := Ent.good ttOk ftOk rfl (l := us9) (.nil) k9
theorem g10 : e10.Good Tryz.prog gg ft := Ent.good ttOk ftOk rfl (l := us10) (.cons g9 (.nil)) k10
theorem g11 : e11.Good Tryz.prog gg ft := Ent.good ttOk ftOk rfl (l := us11) (.nil) k11
theorem g12 : e12.Good Tryz.prog gg ft := Ent.good ttOk ftOk rfl (l := us12) (.nil) k12
theorem g13 : e13.Good Tryz.prog gg ft := Ent.good ttOk ftOk rfl (l := us13) (.nil) k13
theorem g14 : e14.Good Tryz.prog gg ft := Ent.good ttOk ftOk rfl (l := us14) (.cons g0 (.cons g1 (.cons g2 (.cons g3 (.cons g4 (.cons g5 (.cons g6 (.cons g8 (.cons g10 (.cons g11 (.cons g12 (.cons g13 (.nil))))))))))))) k14
theorem g15 : e15.Good Tryz.prog gg ft := Ent.good ttOk ftOk rfl (l := us15) (.nil) k15
theorem g16 : e16.Good Tryz.prog gg ft := Ent.good ttOk ftOk rfl (l := us16) (.nil) k16
theorem g17 : e17.Good Tryz.prog gg ft := Ent.good ttOk ftOk rfl (l := us17) (.nil) k17
theorem g18 : e18.Good Tryz.prog gg ft := Ent.good ttOk ftOk rfl (l := us18) (.nil) k18
theorem g19 : e19.Good Tryz.prog gg ft := Ent.good ttOk ftOk rfl (l := us19) (.nil) k19
theorem g20 : e20.Good Tryz.prog gg ft := Ent.good ttOk ftOk rfl (l := us20) (.nil) k20
theorem g21 : e21.Good Tryz.prog gg ft := Ent.good ttOk ftOk rfl (l := us21) (.nil) k21
theorem g22 : e22.Good Tryz.prog gg ft := Ent.good ttOk ftOk rfl (l := us22) (.cons g21 (.nil)) k22
theorem g23 : e23.Good Tryz.prog gg ft := Ent.good ttOk ftOk rfl (l := us23) (.nil) k23
theorem g24 : e24.Good Tryz.prog gg ft := Ent.good ttOk ftOk rfl (l := us24) (.cons g15 (.cons g16 (.cons g17 (.cons g18 (.cons g19 (.cons g20 (.cons g22 (.cons g23 (.nil))))))))) k24
theorem g25 : e25.Good Tryz.prog gg ft := Ent.good ttOk ftOk rfl (l := us25) (.nil) k25
theorem g26 : e26.Good Tryz.prog gg ft := Ent.good ttOk ftOk rfl (l := us26) (.nil) k26
theorem g27 : e27.Good Tryz.prog gg ft := Ent.good ttOk ftOk rfl (l := us27) (.nil) k27
theorem g28 : e28.Good Tryz.prog gg ft := Ent.good ttOk ftOk rfl (l := us28) (.nil) k28
theorem g29 : e29.Good Tryz.prog gg ft := Ent.good ttOk ftOk rfl (l := us29) (.nil) k29
theorem g30 : e30.Good Tryz.prog gg ft := Ent.good ttOk ftOk rfl (l := us30) (.nil) k30
theorem g31 : e31.Good Tryz.prog gg ft := Ent.good ttOk ftOk rfl (l := us31) (.nil) k31
theorem g32 : e32.Good Tryz.prog gg ft := Ent.good ttOk ftOk rfl (l := us32) (.nil) k32
theorem g33 : e33.Good Tryz.prog gg ft := Ent.good ttOk ftOk rfl (l := us33) (.nil) k33
theorem g34 : e34.Good Tryz.prog gg ft := Ent.good ttOk ftOk rfl (l := us34) (.nil) k34
theorem g35 : e35.Good Tryz.prog gg ft := Ent.good ttOk ftOk rfl (l := us35) (.nil) k35
theorem g36 : e36.Good Tryz.prog gg ft := Ent.good ttOk ftOk rfl (l := us36) (.nil) k36
theorem g37 : e37.Good Tryz.prog gg ft := Ent.good ttOk ftOk rfl (l := us37) (.cons g25 (.cons g26 (.cons g27 (.cons g28 (.cons g29 (.cons g30 (.cons g31 (.cons g32 (.cons g33 (.cons g34 (.cons g35 (.cons g36 (.nil))))))))))))) k37
theorem g38 : e38.Good Tryz.prog gg ft := Ent.good ttOk ftOk rfl (l := us38) (.nil) k38
theorem g39 : e39.Good Tryz.prog gg ft := Ent.good ttOk ftOk rfl (l := us39) (.nil) k39
theorem g40 : e40.Good Tryz.prog gg ft := Ent.good ttOk ftOk rfl (l := us40) (.nil) k40
theorem g41 : e41.Good Tryz.prog gg ft := Ent.good ttOk ftOk rfl (l := us41) (.nil) k41
theorem g42 : e42.Good Tryz.prog gg ft := Ent.good ttOk ftOk rfl (l := us42) (.nil) k42
theorem g43 : e43.Good Tryz.prog gg ft := Ent.good ttOk ftOk rfl (l := us43) (.nil) k43
theorem g44 : e44.Good Tryz.prog gg ft := Ent.good ttOk ftOk rfl (l := us44) (.nil) k44
theorem g45 : e45.Good Tryz.prog gg ft := Ent.good ttOk ftOk rfl (l := us45) (.nil) k45
theorem g46 : e46.Good Tryz.prog gg ft := Ent.good ttOk ftOk rfl (l := us46) (.nil) k46
theorem g47 : e47.Good Tryz.prog gg ft := Ent.good ttOk ftOk rfl (l := us47) (.nil) k47
theorem g48 : e48.Good Tryz.prog gg ft := Ent.good ttOk ftOk rfl (l := us48) (.nil) k48
theorem g49 : e49.Good Tryz.prog gg ft := Ent.good ttOk ftOk rfl (l := us49) (.cons g38 (.cons g39 (.cons g40 (.cons g41 (.cons g42 (.cons g43 (.cons g44 (.cons g45 (.cons g46 (.cons g47 (.cons g48 (.nil)))))))))))) k49
theorem g50 : e50.Good Tryz.prog gg ft := Ent.good ttOk ftOk rfl (l := us50) (.nil) k50
theorem g51 : e51.Good Tryz.prog gg ft := Ent.good ttOk ftOk rfl (l := us51) (.nil) k51
theorem g52 : e52.Good Tryz.prog gg ft := Ent.good ttOk ftOk rfl (l := us52) (.nil) k52
theorem g53 : e53.Good Tryz.prog gg ft := Ent.good ttOk ftOk rfl (l := us53) (.nil) k53
theorem g54 : e54.Good Tryz.prog gg ft := Ent.good ttOk ftOk rfl (l := us54) (.nil) k54
theorem g55 : e55.Good Tryz.prog gg ft := Ent.good ttOk ftOk rfl (l := us55) (.nil) k55
theorem g56 : e56.Good Tryz.prog gg ft := Ent.good ttOk ftOk rfl (l := us56) (.nil) k56
theorem g57 : e57.Good Tryz.prog gg ft := Ent.good ttOk ftOk rfl (l := us57) (.nil) k57
theorem g58 : e58.Good Tryz.prog gg ft := Ent.good ttOk ftOk rfl (l := us58) (.nil) k58
theorem g59 : e59.Good Tryz.prog gg ft := Ent.good ttOk ftOk rfl (l := us59) (.nil) k59
theorem g60 : e60.Good Tryz.prog gg ft := Ent.good ttOk ftOk rfl (l := us60) (.nil) k60
theorem g61 : e61.Good Tryz.prog gg ft := Ent.good ttOk ftOk rfl (l := us61) (.nil) k61
theorem g62 : e62.Good Tryz.prog gg ft := Ent.good ttOk ftOk rfl (l := us62) (.cons g50 (.cons g51 (.cons g52 (.cons g53 (.cons g54 (.cons g55 (.cons g56 (.cons g57 (.cons g58 (.cons g59 (.cons g60 (.cons g61 (.nil))))))))))))) k62
theorem g63 : e63.Good Tryz.prog gg ft := Ent.good ttOk ftOk rfl (l := us63) (.nil) k63
theorem g64 : e64.Good Tryz.prog gg ft := Ent.good ttOk ftOk rfl (l := us64) (.nil) k64
theorem g65 : e65.Good Tryz.prog gg ft := Ent.good ttOk ftOk rfl (l := us65) (.nil) k65
theorem g66 : e66.Good Tryz.prog gg ft := Ent.good ttOk ftOk rfl (l := us66) (.nil) k66
theorem g67 : e67.Good Tryz.prog gg ft := Ent.good ttOk ftOk rfl (l := us67) (.nil) k67
theorem g68 : e68.Good Tryz.prog gg ft := Ent.good ttOk ftOk rfl (l := us68) (.nil) k68
theorem g69 : e69.Good Tryz.prog gg ft := Ent.good ttOk ftOk rfl (l := us69) (.nil) k69
theorem g70 : e70.Good Tryz.prog gg ft := Ent.good ttOk ftOk rfl (l := us70) (.nil) k70
theorem g71 : e71.Good Tryz.prog gg ft := Ent.good ttOk ftOk rfl (l := us71) (.nil) k71
theorem g72 : e72.Good Tryz.prog gg ft := Ent.good ttOk ftOk rfl (l := us72) (.cons g71 (.nil)) k72
theorem g73 : e73.Good Tryz.prog gg ft := Ent.good ttOk ftOk rfl (l := us73) (.nil) k73
theorem g74 : e74.Good Tryz.prog gg ft := Ent.good ttOk ftOk rfl (l := us74) (.nil) k74
theorem g75 : e75.Good Tryz.prog gg ft := Ent.good ttOk ftOk rfl (l := us75) (.nil) k75
theorem g76 : e76.Good Tryz.prog gg ft := Ent.good ttOk ftOk rfl (l := us76) (.cons g63 (.cons g64 (.cons g65 (.cons g66 (.cons g67 (.cons g68 (.cons g69 (.cons g70 (.cons g72 (.cons g73 (.cons g74 (.cons g75 (.nil))))))))))))) k76
theorem g77 : e77.Good Tryz.prog gg ft := Ent.good ttOk ftOk rfl (l := us77) (.nil) k77
theorem g78 : e78.Good Tryz.prog gg ft := Ent.good ttOk ftOk rfl (l := us78) (.nil) k78
theorem g79 : e79.Good Tryz.prog gg ft := Ent.good ttOk ftOk rfl (l := us79) (.nil) k79
theorem g80 : e80.Good Tryz.prog gg ft := Ent.good ttOk ftOk rfl (l := us80) (.nil) k80
theorem g81 : e81.Good Tryz.prog gg ft := Ent.good ttOk ftOk rfl (l := us81) (.nil) k81
theorem g82 : e82.Good Tryz.prog gg ft := Ent.good ttOk ftOk rfl (l := us82) (.nil) k82
theorem g83 : e83.Good Tryz.prog gg ft := Ent.good ttOk ftOk rfl (l := us83) (.cons g77 (.cons g78 (.cons g79 (.cons g80 (.cons g81 (.cons g82 (.nil))))))) k83
theorem g84 : e84.Good Tryz.prog gg ft := Ent.good ttOk ftOk rfl (l := us84) (.nil) k84
theorem g85 : e85.Good Tryz.prog gg ft := Ent.good ttOk ftOk rfl (l := us85) (.nil) k85
theorem g86 : e86.Good Tryz.prog gg ft := Ent.good ttOk ftOk rfl (l := us86) (.nil) k86
theorem g87 : e87.Good Tryz.prog gg ft := Ent.good ttOk ftOk rfl (l := us87) (.nil) k87
theorem g88 : e88.Good Tryz.prog gg ft := Ent.good ttOk ftOk rfl (l := us88) (.cons g87 (.nil)) k88
theorem g89 : e89.Good Tryz.prog gg ft := Ent.good ttOk ftOk rfl (l := us89) (.cons g83 (.cons g85 (.cons g86 (.cons g88 (.cons g87 (.nil)))))) k89
theorem g90 : e90.Good Tryz.prog gg ft := Ent.good ttOk ftOk rfl (l := us90) (.cons g83 (.nil)) k90
theorem g91 : e91.Good Tryz.prog gg ft := Ent.good ttOk ftOk rfl (l := us91) (.cons g83 (.nil)) k91
theorem g92 : e92.Good Tryz.prog gg ft := Ent.good ttOk ftOk rfl (l := us92) (.cons g83 (.cons g89 (.cons g90 (.cons g91 (.nil))))) k92
theorem g93 : e93.Good Tryz.prog gg ft := Ent.good ttOk ftOk rfl (l := us93) (.nil) k93
theorem g94 : e94.Good Tryz.prog gg ft := Ent.good ttOk ftOk rfl (l := us94) (.nil) k94
theorem g95 : e95.Good Tryz.prog gg ft := Ent.good ttOk ftOk rfl (l := us95) (.nil) k95
theorem g96 : e96.Good Tryz.prog gg ft := Ent.good ttOk ftOk rfl (l := us96) (.nil) k96
theorem g97 : e97.Good Tryz.prog gg ft := Ent.good ttOk ftOk rfl (l := us97) (.nil) k97
theorem g98 : e98.Good Tryz.prog gg ft := Ent.good ttOk ftOk rfl (l := us98) (.nil) k98
theorem g99 : e99.Good Tryz.prog gg ft := Ent.good ttOk ftOk rfl (l := us99) (.nil) k99
theorem g100 : e100.Good Tryz.prog gg ft := Ent.good ttOk ftOk rfl (l := us100) (.nil) k100
theorem g101 : e101.Good Tryz.prog gg ft := Ent.good ttOk ftOk rfl (l := us101) (.cons g93 (.cons g94 (.cons g95 (.cons g96 (.cons g97 (.cons g98 (.cons g99 (.cons g100 (.nil))))))))) k101
theorem g102 : e102.Good Tryz.prog gg ft := Ent.good ttOk ftOk rfl (l := us102) (.nil) k102
theorem g103 : e103.Good Tryz.prog gg ft := Ent.good ttOk ftOk rfl (l := us103) (.nil) k103
theorem g104 : e104.Good Tryz.prog gg ft := Ent.good ttOk ftOk rfl (l := us104) (.cons g103 (.nil)) k104
theorem g105 : e105.Good Tryz.prog gg ft := Ent.good ttOk ftOk rfl (l := us105) (.nil) k105
theorem g106 : e106.Good Tryz.prog gg ft := Ent.good ttOk ftOk rfl (l := us106) (.nil) k106
theorem g107 : e107.Good Tryz.prog gg ft := Ent.good ttOk ftOk rfl (l := us107) (.nil) k107
theorem g108 : e108.Good Tryz.prog gg ft := Ent.good ttOk ftOk rfl (l := us108) (.nil) k108
theorem g109 : e109.Good Tryz.prog gg ft := Ent.good ttOk ftOk rfl (l := us109) (.cons g105 (.cons g106 (.cons g107 (.cons g108 (.nil))))) k109
theorem g110 : e110.Good Tryz.prog gg ft := Ent.good ttOk ftOk rfl (l := us110) (.cons g105 (.nil)) k110
theorem g111 : e111.Good Tryz.prog gg ft := Ent.good ttOk ftOk rfl (l := us111) (.cons g105 (.nil)) k111
theorem g112 : e112.Good Tryz.prog gg ft := Ent.good ttOk ftOk rfl (l := us112) (.nil) k112
theorem g113 : e113.Good Tryz.prog gg ft := Ent.good ttOk ftOk rfl (l := us113) (.cons g112 (.nil)) k113
theorem g114 : e114.Good Tryz.prog gg ft := Ent.good ttOk ftOk rfl (l := us114) (.cons g101 (.cons g104 (.cons g109 (.cons g110 (.cons g111 (.cons g113 (.nil))))))) k114
theorem g115 : e115.Good Tryz.prog gg ft := Ent.good ttOk ftOk rfl (l := us115) (.nil) k115
theorem g116 : e116.Good Tryz.prog gg ft := Ent.good ttOk ftOk rfl (l := us116) (.nil) k116
theorem g117 : e117.Good Tryz.prog gg ft := Ent.good ttOk ftOk rfl (l := us117) (.cons g101 (.cons g115 (.cons g116 (.nil)))) k117
theorem g118 : e118.Good Tryz.prog gg ft := Ent.good ttOk ftOk rfl (l := us118) (.nil) k118
theorem g119 : e119.Good Tryz.prog gg ft := Ent.good ttOk ftOk rfl (l := us119) (.nil) k119
theorem g120 : e120.Good Tryz.prog gg ft := Ent.good ttOk ftOk rfl (l := us120) (.nil) k120
theorem g121 : e121.Good Tryz.prog gg ft := Ent.good ttOk ftOk rfl (l := us121) (.nil) k121
theorem g122 : e122.Good Tryz.prog gg ft := Ent.good ttOk ftOk rfl (l := us122) (.cons g101 (.cons g118 (.cons g119 (.cons g120 (.cons g121 (.nil)))))) k122
theorem g123 : e123.Good Tryz.prog gg ft := Ent.good ttOk ftOk rfl (l := us123) (.cons g101 (.cons g114 (.cons g117 (.cons g122 (.nil))))) k123
theorem g124 : e124.Good Tryz.prog gg ft := Ent.good ttOk ftOk rfl (l := us124) (.nil) k124
theorem g125 : e125.Good Tryz.prog gg ft := Ent.good ttOk ftOk rfl (l := us125) (.nil) k125
theorem g126 : e126.Good Tryz.prog gg ft := Ent.good ttOk ftOk rfl (l := us126) (.nil) k126
theorem g127 : e127.Good Tryz.prog gg ft := Ent.good ttOk ftOk rfl (l := us127) (.nil) k127
theorem g128 : e128.Good Tryz.prog gg ft := Ent.good ttOk ftOk rfl (l := us128) (.nil) k128
theorem g129 : e129.Good Tryz.prog gg ft := Ent.good ttOk ftOk rfl (l := us129) (.nil) k129
theorem g130 : e130.Good Tryz.prog gg ft := Ent.good ttOk ftOk rfl (l := us130) (.cons g124 (.cons g125 (.cons g126 (.cons g127 (.cons g128 (.cons g129 (.nil))))))) k130
theorem g131 : e131.Good Tryz.prog gg ft := Ent.good ttOk ftOk rfl (l := us131) (.nil) k131
theorem g132 : e132.Good Tryz.prog gg ft := Ent.good ttOk ftOk rfl (l := us132) (.nil) k132
theorem g133 : e133.Good Tryz.prog gg ft := Ent.good ttOk ftOk rfl (l := us133) (.nil) k133
theorem g134 : e134.Good Tryz.prog gg ft := Ent.good ttOk ftOk rfl (l := us134) (.cons g133 (.nil)) k134
theorem g135 : e135.Good Tryz.prog gg ft := Ent.good ttOk ftOk rfl (l := us135) (.cons g133 (.nil)) k135
theorem g136 : e136.Good Tryz.prog gg ft := Ent.good ttOk ftOk rfl (l := us136) (.nil) k136
theorem g137 : e137.Good Tryz.prog gg ft := Ent.good ttOk ftOk rfl (l := us137) (.cons g136 (.nil)) k137
theorem g138 : e138.Good Tryz.prog gg ft := Ent.good ttOk ftOk rfl (l := us138) (.cons g130 (.cons g132 (.cons g134 (.cons g135 (.cons g137 (.nil)))))) k138
theorem g139 : e139.Good Tryz.prog gg ft := Ent.good ttOk ftOk rfl (l := us139) (.cons g130 (.nil)) k139
theorem g140 : e140.Good Tryz.prog gg ft := Ent.good ttOk ftOk rfl (l := us140) (.nil) k140
theorem g141 : e141.Good Tryz.prog gg ft := Ent.good ttOk ftOk rfl (l := us141) (.cons g130 (.cons g140 (.nil))) k141
theorem g142 : e142.Good Tryz.prog gg ft := Ent.good ttOk ftOk rfl (l := us142) (.cons g130 (.cons g138 (.cons g139 (.cons g141 (.nil))))) k142
theorem g143 : e143.Good Tryz.prog gg ft := Ent.good ttOk ftOk rfl (l := us143) (.nil) k143
theorem g144 : e144.Good Tryz.prog gg ft := Ent.good ttOk ftOk rfl (l := us144) (.nil) k144
theorem g145 : e145.Good Tryz.prog gg ft := Ent.good ttOk ftOk rfl (l := us145) (.nil) k145
theorem g146 : e146.Good Tryz.prog gg ft := Ent.good ttOk ftOk rfl (l := us146) (.nil) k146
theorem g147 : e147.Good Tryz.prog gg ft := Ent.good ttOk ftOk rfl (l := us147) (.nil) k147
theorem g148 : e148.Good Tryz.prog gg ft := Ent.good ttOk ftOk rfl (l := us148) (.nil) k148
theorem g149 : e149.Good Tryz.prog gg ft := Ent.good ttOk ftOk rfl (l := us149) (.nil) k149
theorem g150 : e150.Good Tryz.prog gg ft := Ent.good ttOk ftOk rfl (l := us150) (.nil) k150
theorem g151 : e151.Good Tryz.prog gg ft := Ent.good ttOk ftOk rfl (l := us151) (.nil) k151
theorem g152 : e152.Good Tryz.prog gg ft := Ent.good ttOk ftOk rfl (l := us152) (.nil) k152
theorem g153 : e153.Good Tryz.prog gg ft := Ent.good ttOk ftOk rfl (l := us153) (.cons g143 (.cons g144 (.cons g145 (.cons g146 (.cons g147 (.cons g148 (.cons g149 (.cons g150 (.cons g151 (.cons g152 (.nil))))))))))) k153
theorem g154 : e154.Good Tryz.prog gg ft := Ent.good ttOk ftOk rfl (l := us154) (.nil) k154
theorem g155 : e155.Good Tryz.prog gg ft := Ent.good ttOk ftOk rfl (l := us155) (.nil) k155
theorem g156 : e156.Good Tryz.prog gg ft := Ent.good ttOk ftOk rfl (l := us156) (.nil) k156
theorem g157 : e157.Good Tryz.prog gg ft := Ent.good ttOk ftOk rfl (l := us157) (.nil) k157
theorem g158 : e158.Good Tryz.prog gg ft := Ent.good ttOk ftOk rfl (l := us158) (.cons g156 (.cons g157 (.nil))) k158
theorem g159 : e159.Good Tryz.prog gg ft := Ent.good ttOk ftOk rfl (l := us159) (.cons g156 (.cons g157 (.nil))) k159
theorem g160 : e160.Good Tryz.prog gg ft := Ent.good ttOk ftOk rfl (l := us160) (.nil) k160
theorem g161 : e161.Good Tryz.prog gg ft := Ent.good ttOk ftOk rfl (l := us161) (.nil) k161
theorem g162 : e162.Good Tryz.prog gg ft := Ent.good ttOk ftOk rfl (l := us162) (.cons g153 (.cons g155 (.cons g158 (.cons g159 (.cons g160 (.cons g161 (.nil))))))) k162
theorem g163 : e163.Good Tryz.prog gg ft := Ent.good ttOk ftOk rfl (l := us163) (.nil) k163
theorem g164 : e164.Good Tryz.prog gg ft := Ent.good ttOk ftOk rfl (l := us164) (.cons g153 (.cons g163 (.nil))) k164
theorem g165 : e165.Good Tryz.prog gg ft := Ent.good ttOk ftOk rfl (l := us165) (.nil) k165
theorem g166 : e166.Good Tryz.prog gg ft := Ent.good ttOk ftOk rfl (l := us166) (.nil) k166
theorem g167 : e167.Good Tryz.prog gg ft := Ent.good ttOk ftOk rfl (l := us167) (.cons g153 (.cons g165 (.cons g166 (.nil)))) k167
theorem g168 : e168.Good Tryz.prog gg ft := Ent.good ttOk ftOk rfl (l := us168) (.cons g153 (.cons g162 (.cons g164 (.cons g167 (.nil))))) k168
theorem g169 : e169.Good Tryz.prog gg ft := Ent.good ttOk ftOk rfl (l := us169) (.nil) k169
theorem g170 : e170.Good Tryz.prog gg ft := Ent.good ttOk ftOk rfl (l := us170) (.nil) k170
theorem g171 : e171.Good Tryz.prog gg ft := Ent.good ttOk ftOk rfl (l := us171) (.nil) k171
theorem g172 : e172.Good Tryz.prog gg ft := Ent.good ttOk ftOk rfl (l := us172) (.nil) k172
theorem g173 : e173.Good Tryz.prog gg ft := Ent.good ttOk ftOk rfl (l := us173) (.nil) k173
theorem g174 : e174.Good Tryz.prog gg ft := Ent.good ttOk ftOk rfl (l := us174) (.nil) k174
theorem g175 : e175.Good Tryz.prog gg ft := Ent.good ttOk ftOk rfl (l := us175) (.nil) k175
theorem g176 : e176.Good Tryz.prog gg ft := Ent.good ttOk ftOk rfl (l := us176) (.nil) k176
theorem g177 : e177.Good Tryz.prog gg ft := Ent.good ttOk ftOk rfl (l := us177) (.nil) k177
theorem g178 : e178.Good Tryz.prog gg ft := Ent.good ttOk ftOk rfl (l := us178) (.cons g169 (.cons g170 (.cons g171 (.cons g172 (.cons g173 (.cons g174 (.cons g175 (.cons g176 (.cons g177 (.nil)))))))))) k178
theorem g179 : e179.Good Tryz.prog gg ft := Ent.good ttOk ftOk rfl (l := us179) (.nil) k179
theorem g180 : e180.Good Tryz.prog gg ft := Ent.good ttOk ftOk rfl (l := us180) (.nil) k180
theorem g181 : e181.Good Tryz.prog gg ft := Ent.good ttOk ftOk rfl (l := us181) (.nil) k181
theorem g182 : e182.Good Tryz.prog gg ft := Ent.good ttOk ftOk rfl (l := us182) (.nil) k182
theorem g183 : e183.Good Tryz.prog gg ft := Ent.good ttOk ftOk rfl (l := us183) (.nil) k183
theorem g184 : e184.Good Tryz.prog gg ft := Ent.good ttOk ftOk rfl (l := us184) (.nil) k184
theorem g185 : e185.Good Tryz.prog gg ft := Ent.good ttOk ftOk rfl (l := us185) (.cons g181 (.cons g182 (.cons g183 (.cons g184 (.nil))))) k185
theorem g186 : e186.Good Tryz.prog gg ft := Ent.good ttOk ftOk rfl (l := us186) (.cons g181 (.nil)) k186
theorem g187 : e187.Good Tryz.prog gg ft := Ent.good ttOk ftOk rfl (l := us187) (.nil) k187
theorem g188 : e188.Good Tryz.prog gg ft := Ent.good ttOk ftOk rfl (l := us188) (.cons g181 (.nil)) k188
theorem g189 : e189.Good Tryz.prog gg ft := Ent.good ttOk ftOk rfl (l := us189) (.cons g178 (.cons g180 (.cons g185 (.cons g186 (.cons g187 (.cons g188 (.nil))))))) k189
theorem g190 : e190.Good Tryz.prog gg ft := Ent.good ttOk ftOk rfl (l := us190) (.nil) k190
theorem g191 : e191.Good Tryz.prog gg ft := Ent.good ttOk ftOk rfl (l := us191) (.cons g178 (.cons g190 (.nil))) k191
theorem g192 : e192.Good Tryz.prog gg ft := Ent.good ttOk ftOk rfl (l := us192) (.nil) k192
theorem g193 : e193.Good Tryz.prog gg ft := Ent.good ttOk ftOk rfl (l := us193) (.nil) k193
theorem g194 : e194.Good Tryz.prog gg ft := Ent.good ttOk ftOk rfl (l := us194) (.nil) k194
theorem g195 : e195.Good Tryz.prog gg ft := Ent.good ttOk ftOk rfl (l := us195) (.cons g178 (.cons g192 (.cons g193 (.cons g194 (.nil))))) k195
theorem g196 : e196.Good Tryz.prog gg ft := Ent.good ttOk ftOk rfl (l := us196) (.cons g178 (.cons g189 (.cons g191 (.cons g195 (.nil))))) k196
theorem g197 : e197.Good Tryz.prog gg ft := Ent.good ttOk ftOk rfl (l := us197) (.cons g133 (.nil)) k197
theorem g198 : e198.Good Tryz.prog gg ft := Ent.good ttOk ftOk rfl (l := us198) (.cons g133 (.nil)) k198
theorem g199 : e199.Good Tryz.prog gg ft := Ent.good ttOk ftOk rfl (l := us199) (.cons g136 (.nil)) k199
theorem g200 : e200.Good Tryz.prog gg ft := Ent.good ttOk ftOk rfl (l := us200) (.cons g130 (.cons g132 (.cons g197 (.cons g198 (.cons g199 (.nil)))))) k200
theorem g201 : e201.Good Tryz.prog gg ft := Ent.good ttOk ftOk rfl (l := us201) (.cons g156 (.cons g157 (.nil))) k201
theorem g202 : e202.Good Tryz.prog gg ft := Ent.good ttOk ftOk rfl (l := us202) (.cons g156 (.cons g157 (.nil))) k202
theorem g203 : e203.Good Tryz.prog gg ft := Ent.good ttOk ftOk rfl (l := us203) (.nil) k203
theorem g204 : e204.Good Tryz.prog gg ft := Ent.good ttOk ftOk rfl (l := us204) (.nil) k204
theorem g205 : e205.Good Tryz.prog gg ft := Ent.good ttOk ftOk rfl (l := us205) (.cons g153 (.cons g155 (.cons g201 (.cons g202 (.cons g203 (.cons g204 (.nil))))))) k205
theorem g206 : e206.Good Tryz.prog gg ft := Ent.good ttOk ftOk rfl (l := us206) (.cons g83 (.nil)) k206
theorem g207 : e207.Good Tryz.prog gg ft := Ent.good ttOk ftOk rfl (l := us207) (.cons g103 (.nil)) k207
theorem g208 : e208.Good Tryz.prog gg ft := Ent.good ttOk ftOk rfl (l := us208) (.cons g105 (.cons g106 (.cons g107 (.cons g108 (.nil))))) k208
theorem g209 : e209.Good Tryz.prog gg ft := Ent.good ttOk ftOk rfl (l := us209) (.cons g105 (.nil)) k209
theorem g210 : e210.Good Tryz.prog gg ft := Ent.good ttOk ftOk rfl (l := us210) (.cons g105 (.nil)) k210
theorem g211 : e211.Good Tryz.prog gg ft := Ent.good ttOk ftOk rfl (l := us211) (.cons g112 (.nil)) k211
theorem g212 : e212.Good Tryz.prog gg ft := Ent.good ttOk ftOk rfl (l := us212) (.cons g101 (.cons g207 (.cons g208 (.cons g209 (.cons g210 (.cons g211 (.nil))))))) k212
theorem g213 : e213.Good Tryz.prog gg ft := Ent.good ttOk ftOk rfl (l := us213) (.nil) k213
theorem g214 : e214.Good Tryz.prog gg ft := Ent.good ttOk ftOk rfl (l := us214) (.nil) k214
theorem g215 : e215.Good Tryz.prog gg ft := Ent.good ttOk ftOk rfl (l := us215) (.nil) k215
theorem g216 : e216.Good Tryz.prog gg ft := Ent.good ttOk ftOk rfl (l := us216) (.nil) k216
theorem g217 : e217.Good Tryz.prog gg ft := Ent.good ttOk ftOk rfl (l := us217) (.cons g101 (.cons g213 (.cons g214 (.cons g215 (.cons g216 (.nil)))))) k217
theorem g218 : e218.Good Tryz.prog gg ft := Ent.good ttOk ftOk rfl (l := us218) (.cons g133 (.nil)) k218
theorem g219 : e219.Good Tryz.prog gg ft := Ent.good ttOk ftOk rfl (l := us219) (.cons g133 (.nil)) k219
theorem g220 : e220.Good Tryz.prog gg ft := Ent.good ttOk ftOk rfl (l := us220) (.cons g136 (.nil)) k220
theorem g221 : e221.Good Tryz.prog gg ft := Ent.good ttOk ftOk rfl (l := us221) (.cons g130 (.cons g132 (.cons g218 (.cons g219 (.cons g220 (.nil)))))) k221
theorem g222 : e222.Good Tryz.prog gg ft := Ent.good ttOk ftOk rfl (l := us222) (.cons g156 (.cons g157 (.nil))) k222
theorem g223 : e223.Good Tryz.prog gg ft := Ent.good ttOk ftOk rfl (l := us223) (.cons g156 (.cons g157 (.nil))) k223
theorem g224 : e224.Good Tryz.prog gg ft := Ent.good ttOk ftOk rfl (l := us224) (.nil) k224
theorem g225 : e225.Good Tryz.prog gg ft := Ent.good ttOk ftOk rfl (l := us225) (.nil) k225
theorem g226 : e226.Good Tryz.prog gg ft := Ent.good ttOk ftOk rfl (l := us226) (.cons g153 (.cons g155 (.cons g222 (.cons g223 (.cons g224 (.cons g225 (.nil))))))) k226
theorem g227 : e227.Good Tryz.prog gg ft := Ent.good ttOk ftOk rfl (l := us227) (.cons g181 (.cons g182 (.cons g183 (.cons g184 (.nil))))) k227
theorem g228 : e228.Good Tryz.prog gg ft := Ent.good ttOk ftOk rfl (l := us228) (.cons g181 (.nil)) k228
theorem g229 : e229.Good Tryz.prog gg ft := Ent.good ttOk ftOk rfl (l := us229) (.nil) k229
theorem g230 : e230.Good Tryz.prog gg ft := Ent.good ttOk ftOk rfl (l := us230) (.cons g181 (.nil)) k230
theorem g231 : e231.Good Tryz.prog gg ft := Ent.good ttOk ftOk rfl (l := us231) (.cons g178 (.cons g180 (.cons g227 (.cons g228 (.cons g229 (.cons g230 (.nil))))))) k231
theorem g232 : e232.Good Tryz.prog gg ft := Ent.good ttOk ftOk rfl (l := us232) (.cons g14 (.cons g24 (.cons g37 (.cons g49 (.cons g62 (.cons g76 (.cons g83 (.cons g84 (.cons g92 (.cons g101 (.cons g102 (.cons g123 (.cons g130 (.cons g131 (.cons g142 (.cons g153 (.cons g154 (.cons g168 (.cons g178 (.cons g179 (.cons g196 (.cons g200 (.cons g205 (.cons g206 (.cons g212 (.cons g217 (.cons g221 (.cons g226 (.cons g231 (.nil)))))))))))))))))))))))))))))) k232
end Go.Proofs.YtfnlfpodeoilgaaGreatDoor
