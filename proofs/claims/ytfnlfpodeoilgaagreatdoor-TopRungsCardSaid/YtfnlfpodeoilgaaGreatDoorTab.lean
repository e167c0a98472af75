/- The tables of types and functions that ratline/ratlinetop.TopRungs reach, printed by GenTab.lean, and that they fit the program. No condition. -/
import Derived.Test.YtfnlfpodeoilgaaGreatDoorProg
import Derived.Test.YtfnlfpodeoilgaaGreatDoorAmT
set_option linter.all false
namespace Go.Proofs.YtfnlfpodeoilgaaGreatDoor
open Go.AM

noncomputable def tyList : List (Nat × TI) :=
  [ (2, TI.of Go.Proofs.Tryz.t2 Go.Proofs.Tryz.t2 false)
  , (3, TI.of Go.Proofs.Tryz.t3 Go.Proofs.Tryz.t3 false)
  , (4, TI.of Go.Proofs.Tryz.t4 Go.Proofs.Tryz.t4 false)
  , (5, TI.of Go.Proofs.Tryz.t5 Go.Proofs.Tryz.t5 false)
  , (9, TI.of Go.Proofs.Tryz.t9 Go.Proofs.Tryz.t9 false)
  , (24, TI.of Go.Proofs.Tryz.t24 Go.Proofs.Tryz.t23 true)
  , (26, TI.of Go.Proofs.Tryz.t26 Go.Proofs.Tryz.t26 false)
  , (28, TI.of Go.Proofs.Tryz.t28 Go.Proofs.Tryz.t28 false)
  , (29, TI.of Go.Proofs.Tryz.t29 Go.Proofs.Tryz.t28 false)
  , (30, TI.of Go.Proofs.Tryz.t30 Go.Proofs.Tryz.t30 false)
  , (32, TI.of Go.Proofs.Tryz.t32 Go.Proofs.Tryz.t31 true)
  , (34, TI.of Go.Proofs.Tryz.t34 Go.Proofs.Tryz.t33 true)
  , (35, TI.of Go.Proofs.Tryz.t35 Go.Proofs.Tryz.t35 false)
  , (36, TI.of Go.Proofs.Tryz.t36 Go.Proofs.Tryz.t36 false)
  , (37, TI.of Go.Proofs.Tryz.t37 Go.Proofs.Tryz.t37 false)
  , (39, TI.of Go.Proofs.Tryz.t39 Go.Proofs.Tryz.t38 true)
  , (41, TI.of Go.Proofs.Tryz.t41 Go.Proofs.Tryz.t41 false)
  , (43, TI.of Go.Proofs.Tryz.t43 Go.Proofs.Tryz.t43 false)
  , (44, TI.of Go.Proofs.Tryz.t44 Go.Proofs.Tryz.t44 false)
  , (47, TI.of Go.Proofs.Tryz.t47 Go.Proofs.Tryz.t47 false)
  , (55, TI.of Go.Proofs.Tryz.t55 Go.Proofs.Tryz.t55 false)
  , (57, TI.of Go.Proofs.Tryz.t57 Go.Proofs.Tryz.t57 false)
  , (58, TI.of Go.Proofs.Tryz.t58 Go.Proofs.Tryz.t58 false)
  , (60, TI.of Go.Proofs.Tryz.t60 Go.Proofs.Tryz.t3 false)
  , (62, TI.of Go.Proofs.Tryz.t62 Go.Proofs.Tryz.t61 true)
  , (68, TI.of Go.Proofs.Tryz.t68 Go.Proofs.Tryz.t68 false)
  , (71, TI.of Go.Proofs.Tryz.t71 Go.Proofs.Tryz.t71 false)
  , (72, TI.of Go.Proofs.Tryz.t72 Go.Proofs.Tryz.t72 false)
  , (74, TI.of Go.Proofs.Tryz.t74 Go.Proofs.Tryz.t73 true)
  , (77, TI.of Go.Proofs.Tryz.t77 Go.Proofs.Tryz.t77 false)
  , (78, TI.of Go.Proofs.Tryz.t78 Go.Proofs.Tryz.t78 false)
  , (80, TI.of Go.Proofs.Tryz.t80 Go.Proofs.Tryz.t79 true)
  , (84, TI.of Go.Proofs.Tryz.t84 Go.Proofs.Tryz.t83 true)
  , (85, TI.of Go.Proofs.Tryz.t85 Go.Proofs.Tryz.t85 false)
  , (87, TI.of Go.Proofs.Tryz.t87 Go.Proofs.Tryz.t86 true)
  , (94, TI.of Go.Proofs.Tryz.t94 Go.Proofs.Tryz.t93 true)
  , (97, TI.of Go.Proofs.Tryz.t97 Go.Proofs.Tryz.t96 true)
  , (98, TI.of Go.Proofs.Tryz.t98 Go.Proofs.Tryz.t98 false)
  , (99, TI.of Go.Proofs.Tryz.t99 Go.Proofs.Tryz.t99 false)
  , (101, TI.of Go.Proofs.Tryz.t101 Go.Proofs.Tryz.t100 true)
  , (104, TI.of Go.Proofs.Tryz.t104 Go.Proofs.Tryz.t103 true)
  , (108, TI.of Go.Proofs.Tryz.t108 Go.Proofs.Tryz.t108 false)
  , (109, TI.of Go.Proofs.Tryz.t109 Go.Proofs.Tryz.t109 false)
  , (111, TI.of Go.Proofs.Tryz.t111 Go.Proofs.Tryz.t111 false)
  , (113, TI.of Go.Proofs.Tryz.t113 Go.Proofs.Tryz.t113 false)
  , (115, TI.of Go.Proofs.Tryz.t115 Go.Proofs.Tryz.t114 true)
  , (117, TI.of Go.Proofs.Tryz.t117 Go.Proofs.Tryz.t116 true)
  , (119, TI.of Go.Proofs.Tryz.t119 Go.Proofs.Tryz.t118 true)
  , (122, TI.of Go.Proofs.Tryz.t122 Go.Proofs.Tryz.t121 false)
  , (127, TI.of Go.Proofs.Tryz.t127 Go.Proofs.Tryz.t127 false)
  , (129, TI.of Go.Proofs.Tryz.t129 Go.Proofs.Tryz.t128 true)
  , (132, TI.of Go.Proofs.Tryz.t132 Go.Proofs.Tryz.t131 true)
  , (133, TI.of Go.Proofs.Tryz.t133 Go.Proofs.Tryz.t133 false)
  , (135, TI.of Go.Proofs.Tryz.t135 Go.Proofs.Tryz.t134 true)
  , (137, TI.of Go.Proofs.Tryz.t137 Go.Proofs.Tryz.t136 true)
  , (142, TI.of Go.Proofs.Tryz.t142 Go.Proofs.Tryz.t141 true)
  , (151, TI.of Go.Proofs.Tryz.t151 Go.Proofs.Tryz.t151 false)
  , (153, TI.of Go.Proofs.Tryz.t153 Go.Proofs.Tryz.t153 false)
  , (155, TI.of Go.Proofs.Tryz.t155 Go.Proofs.Tryz.t155 false)
  , (156, TI.of Go.Proofs.Tryz.t156 Go.Proofs.Tryz.t156 false)
  , (157, TI.of Go.Proofs.Tryz.t157 Go.Proofs.Tryz.t157 false)
  , (158, TI.of Go.Proofs.Tryz.t158 Go.Proofs.Tryz.t158 false)
  , (160, TI.of Go.Proofs.Tryz.t160 Go.Proofs.Tryz.t159 true)
  , (162, TI.of Go.Proofs.Tryz.t162 Go.Proofs.Tryz.t162 false)
  , (164, TI.of Go.Proofs.Tryz.t164 Go.Proofs.Tryz.t163 true)
  , (173, TI.of Go.Proofs.Tryz.t173 Go.Proofs.Tryz.t172 true)
  , (181, TI.of Go.Proofs.Tryz.t181 Go.Proofs.Tryz.t181 false)
  , (185, TI.of Go.Proofs.Tryz.t185 Go.Proofs.Tryz.t185 false)
  , (189, TI.of Go.Proofs.Tryz.t189 Go.Proofs.Tryz.t189 false)
  , (191, TI.of Go.Proofs.Tryz.t191 Go.Proofs.Tryz.t191 false)
  , (193, TI.of Go.Proofs.Tryz.t193 Go.Proofs.Tryz.t192 true)
  , (194, TI.of Go.Proofs.Tryz.t194 Go.Proofs.Tryz.t194 false)
  , (197, TI.of Go.Proofs.Tryz.t197 Go.Proofs.Tryz.t196 true)
  , (199, TI.of Go.Proofs.Tryz.t199 Go.Proofs.Tryz.t198 true)
  , (200, TI.of Go.Proofs.Tryz.t200 Go.Proofs.Tryz.t200 false)
  , (201, TI.of Go.Proofs.Tryz.t201 Go.Proofs.Tryz.t201 false)
  , (203, TI.of Go.Proofs.Tryz.t203 Go.Proofs.Tryz.t202 true)
  , (210, TI.of Go.Proofs.Tryz.t210 Go.Proofs.Tryz.t3 false)
  , (212, TI.of Go.Proofs.Tryz.t212 Go.Proofs.Tryz.t211 true)
  , (215, TI.of Go.Proofs.Tryz.t215 Go.Proofs.Tryz.t215 false)
  , (221, TI.of Go.Proofs.Tryz.t221 Go.Proofs.Tryz.t221 false)
  , (224, TI.of Go.Proofs.Tryz.t224 Go.Proofs.Tryz.t224 false)
  , (226, TI.of Go.Proofs.Tryz.t226 Go.Proofs.Tryz.t225 true)
  , (227, TI.of Go.Proofs.Tryz.t227 Go.Proofs.Tryz.t227 false)
  , (229, TI.of Go.Proofs.Tryz.t229 Go.Proofs.Tryz.t228 true)
  , (240, TI.of Go.Proofs.Tryz.t240 Go.Proofs.Tryz.t240 false)
  , (242, TI.of Go.Proofs.Tryz.t242 Go.Proofs.Tryz.t241 true)
  , (243, TI.of Go.Proofs.Tryz.t243 Go.Proofs.Tryz.t243 false)
  , (244, TI.of Go.Proofs.Tryz.t244 Go.Proofs.Tryz.t244 false)
  , (246, TI.of Go.Proofs.Tryz.t246 Go.Proofs.Tryz.t245 true)
  , (247, TI.of Go.Proofs.Tryz.t247 Go.Proofs.Tryz.t247 false)
  , (249, TI.of Go.Proofs.Tryz.t249 Go.Proofs.Tryz.t248 true)
  , (255, TI.of Go.Proofs.Tryz.t255 Go.Proofs.Tryz.t254 true)
  , (257, TI.of Go.Proofs.Tryz.t257 Go.Proofs.Tryz.t256 true)
  , (262, TI.of Go.Proofs.Tryz.t262 Go.Proofs.Tryz.t261 true)
  , (266, TI.of Go.Proofs.Tryz.t266 Go.Proofs.Tryz.t266 false)
  , (267, TI.of Go.Proofs.Tryz.t267 Go.Proofs.Tryz.t267 false)
  , (269, TI.of Go.Proofs.Tryz.t269 Go.Proofs.Tryz.t268 true)
  , (276, TI.of Go.Proofs.Tryz.t276 Go.Proofs.Tryz.t276 false)
  , (280, TI.of Go.Proofs.Tryz.t280 Go.Proofs.Tryz.t280 false)
  , (284, TI.of Go.Proofs.Tryz.t284 Go.Proofs.Tryz.t283 true)
  , (285, TI.of Go.Proofs.Tryz.t285 Go.Proofs.Tryz.t285 false)
  , (291, TI.of Go.Proofs.Tryz.t291 Go.Proofs.Tryz.t290 true)
  , (293, TI.of Go.Proofs.Tryz.t293 Go.Proofs.Tryz.t293 false)
  , (301, TI.of Go.Proofs.Tryz.t301 Go.Proofs.Tryz.t301 false)
  , (303, TI.of Go.Proofs.Tryz.t303 Go.Proofs.Tryz.t302 true)
  , (304, TI.of Go.Proofs.Tryz.t304 Go.Proofs.Tryz.t304 false)
  , (306, TI.of Go.Proofs.Tryz.t306 Go.Proofs.Tryz.t306 false)
  , (319, TI.of Go.Proofs.Tryz.t319 Go.Proofs.Tryz.t319 false)
  , (320, TI.of Go.Proofs.Tryz.t320 Go.Proofs.Tryz.t320 false)
  , (328, TI.of Go.Proofs.Tryz.t328 Go.Proofs.Tryz.t328 false)
  , (333, TI.of Go.Proofs.Tryz.t333 Go.Proofs.Tryz.t333 false)
  , (336, TI.of Go.Proofs.Tryz.t336 Go.Proofs.Tryz.t336 false)
  , (352, TI.of Go.Proofs.Tryz.t352 Go.Proofs.Tryz.t352 false)
  , (359, TI.of Go.Proofs.Tryz.t359 Go.Proofs.Tryz.t358 true)
  , (361, TI.of Go.Proofs.Tryz.t361 Go.Proofs.Tryz.t361 false)
  , (367, TI.of Go.Proofs.Tryz.t367 Go.Proofs.Tryz.t3 false)
  , (374, TI.of Go.Proofs.Tryz.t374 Go.Proofs.Tryz.t374 false)
  , (376, TI.of Go.Proofs.Tryz.t376 Go.Proofs.Tryz.t376 false)
  , (377, TI.of Go.Proofs.Tryz.t377 Go.Proofs.Tryz.t377 false)
  , (379, TI.of Go.Proofs.Tryz.t379 Go.Proofs.Tryz.t378 true)
  , (397, TI.of Go.Proofs.Tryz.t397 Go.Proofs.Tryz.t397 false)
  , (400, TI.of Go.Proofs.Tryz.t400 Go.Proofs.Tryz.t400 false)
  , (407, TI.of Go.Proofs.Tryz.t407 Go.Proofs.Tryz.t376 false)
  , (411, TI.of Go.Proofs.Tryz.t411 Go.Proofs.Tryz.t411 false)
  , (416, TI.of Go.Proofs.Tryz.t416 Go.Proofs.Tryz.t416 false)
  , (430, TI.of Go.Proofs.Tryz.t430 Go.Proofs.Tryz.t430 false)
  ]

set_option maxRecDepth 20000 in
theorem tyOk : AllOk (TI.Ok Go.Proofs.Tryz.prog) tyList :=
  .cons (TI.of_ok Go.Proofs.Tryz.type2 Go.Proofs.Tryz.underlying2 (by kernel_rfl) (fun h => nomatch h)) <|
  .cons (TI.of_ok Go.Proofs.Tryz.type3 Go.Proofs.Tryz.underlying3 (by kernel_rfl) (fun h => nomatch h)) <|
  .cons (TI.of_ok Go.Proofs.Tryz.type4 Go.Proofs.Tryz.underlying4 (by kernel_rfl) (fun h => nomatch h)) <|
  .cons (TI.of_ok Go.Proofs.Tryz.type5 Go.Proofs.Tryz.underlying5 (by kernel_rfl) (fun h => nomatch h)) <|
  .cons (TI.of_ok Go.Proofs.Tryz.type9 Go.Proofs.Tryz.underlying9 (by kernel_rfl) (fun h => nomatch h)) <|
  .cons (TI.of_ok Go.Proofs.Tryz.type24 Go.Proofs.Tryz.underlying24 (by kernel_rfl) (fun _ => ⟨Go.Proofs.Tryz.stoodInHeld24, Go.Proofs.Tryz.eqGuardType24⟩)) <|
  .cons (TI.of_ok Go.Proofs.Tryz.type26 Go.Proofs.Tryz.underlying26 (by kernel_rfl) (fun h => nomatch h)) <|
  .cons (TI.of_ok Go.Proofs.Tryz.type28 Go.Proofs.Tryz.underlying28 (by kernel_rfl) (fun h => nomatch h)) <|
  .cons (TI.of_ok Go.Proofs.Tryz.type29 Go.Proofs.Tryz.underlying29 (by kernel_rfl) (fun h => nomatch h)) <|
  .cons (TI.of_ok Go.Proofs.Tryz.type30 Go.Proofs.Tryz.underlying30 (by kernel_rfl) (fun h => nomatch h)) <|
  .cons (TI.of_ok Go.Proofs.Tryz.type32 Go.Proofs.Tryz.underlying32 (by kernel_rfl) (fun _ => ⟨Go.Proofs.Tryz.stoodInHeld32, Go.Proofs.Tryz.eqGuardType32⟩)) <|
  .cons (TI.of_ok Go.Proofs.Tryz.type34 Go.Proofs.Tryz.underlying34 (by kernel_rfl) (fun _ => ⟨Go.Proofs.Tryz.stoodInHeld34, Go.Proofs.Tryz.eqGuardType34⟩)) <|
  .cons (TI.of_ok Go.Proofs.Tryz.type35 Go.Proofs.Tryz.underlying35 (by kernel_rfl) (fun h => nomatch h)) <|
  .cons (TI.of_ok Go.Proofs.Tryz.type36 Go.Proofs.Tryz.underlying36 (by kernel_rfl) (fun h => nomatch h)) <|
  .cons (TI.of_ok Go.Proofs.Tryz.type37 Go.Proofs.Tryz.underlying37 (by kernel_rfl) (fun h => nomatch h)) <|
  .cons (TI.of_ok Go.Proofs.Tryz.type39 Go.Proofs.Tryz.underlying39 (by kernel_rfl) (fun _ => ⟨Go.Proofs.Tryz.stoodInHeld39, Go.Proofs.Tryz.eqGuardType39⟩)) <|
  .cons (TI.of_ok Go.Proofs.Tryz.type41 Go.Proofs.Tryz.underlying41 (by kernel_rfl) (fun h => nomatch h)) <|
  .cons (TI.of_ok Go.Proofs.Tryz.type43 Go.Proofs.Tryz.underlying43 (by kernel_rfl) (fun h => nomatch h)) <|
  .cons (TI.of_ok Go.Proofs.Tryz.type44 Go.Proofs.Tryz.underlying44 (by kernel_rfl) (fun h => nomatch h)) <|
  .cons (TI.of_ok Go.Proofs.Tryz.type47 Go.Proofs.Tryz.underlying47 (by kernel_rfl) (fun h => nomatch h)) <|
  .cons (TI.of_ok Go.Proofs.Tryz.type55 Go.Proofs.Tryz.underlying55 (by kernel_rfl) (fun h => nomatch h)) <|
  .cons (TI.of_ok Go.Proofs.Tryz.type57 Go.Proofs.Tryz.underlying57 (by kernel_rfl) (fun h => nomatch h)) <|
  .cons (TI.of_ok Go.Proofs.Tryz.type58 Go.Proofs.Tryz.underlying58 (by kernel_rfl) (fun h => nomatch h)) <|
  .cons (TI.of_ok Go.Proofs.Tryz.type60 Go.Proofs.Tryz.underlying60 (by kernel_rfl) (fun h => nomatch h)) <|
  .cons (TI.of_ok Go.Proofs.Tryz.type62 Go.Proofs.Tryz.underlying62 (by kernel_rfl) (fun _ => ⟨Go.Proofs.Tryz.stoodInHeld62, Go.Proofs.Tryz.eqGuardType62⟩)) <|
  .cons (TI.of_ok Go.Proofs.Tryz.type68 Go.Proofs.Tryz.underlying68 (by kernel_rfl) (fun h => nomatch h)) <|
  .cons (TI.of_ok Go.Proofs.Tryz.type71 Go.Proofs.Tryz.underlying71 (by kernel_rfl) (fun h => nomatch h)) <|
  .cons (TI.of_ok Go.Proofs.Tryz.type72 Go.Proofs.Tryz.underlying72 (by kernel_rfl) (fun h => nomatch h)) <|
  .cons (TI.of_ok Go.Proofs.Tryz.type74 Go.Proofs.Tryz.underlying74 (by kernel_rfl) (fun _ => ⟨Go.Proofs.Tryz.stoodInHeld74, Go.Proofs.Tryz.eqGuardType74⟩)) <|
  .cons (TI.of_ok Go.Proofs.Tryz.type77 Go.Proofs.Tryz.underlying77 (by kernel_rfl) (fun h => nomatch h)) <|
  .cons (TI.of_ok Go.Proofs.Tryz.type78 Go.Proofs.Tryz.underlying78 (by kernel_rfl) (fun h => nomatch h)) <|
  .cons (TI.of_ok Go.Proofs.Tryz.type80 Go.Proofs.Tryz.underlying80 (by kernel_rfl) (fun _ => ⟨Go.Proofs.Tryz.stoodInHeld80, Go.Proofs.Tryz.eqGuardType80⟩)) <|
  .cons (TI.of_ok Go.Proofs.Tryz.type84 Go.Proofs.Tryz.underlying84 (by kernel_rfl) (fun _ => ⟨Go.Proofs.Tryz.stoodInHeld84, Go.Proofs.Tryz.eqGuardType84⟩)) <|
  .cons (TI.of_ok Go.Proofs.Tryz.type85 Go.Proofs.Tryz.underlying85 (by kernel_rfl) (fun h => nomatch h)) <|
  .cons (TI.of_ok Go.Proofs.Tryz.type87 Go.Proofs.Tryz.underlying87 (by kernel_rfl) (fun _ => ⟨Go.Proofs.Tryz.stoodInHeld87, Go.Proofs.Tryz.eqGuardType87⟩)) <|
  .cons (TI.of_ok Go.Proofs.Tryz.type94 Go.Proofs.Tryz.underlying94 (by kernel_rfl) (fun _ => ⟨Go.Proofs.Tryz.stoodInHeld94, Go.Proofs.Tryz.eqGuardType94⟩)) <|
  .cons (TI.of_ok Go.Proofs.Tryz.type97 Go.Proofs.Tryz.underlying97 (by kernel_rfl) (fun _ => ⟨Go.Proofs.Tryz.stoodInHeld97, Go.Proofs.Tryz.eqGuardType97⟩)) <|
  .cons (TI.of_ok Go.Proofs.Tryz.type98 Go.Proofs.Tryz.underlying98 (by kernel_rfl) (fun h => nomatch h)) <|
  .cons (TI.of_ok Go.Proofs.Tryz.type99 Go.Proofs.Tryz.underlying99 (by kernel_rfl) (fun h => nomatch h)) <|
  .cons (TI.of_ok Go.Proofs.Tryz.type101 Go.Proofs.Tryz.underlying101 (by kernel_rfl) (fun _ => ⟨Go.Proofs.Tryz.stoodInHeld101, Go.Proofs.Tryz.eqGuardType101⟩)) <|
  .cons (TI.of_ok Go.Proofs.Tryz.type104 Go.Proofs.Tryz.underlying104 (by kernel_rfl) (fun _ => ⟨Go.Proofs.Tryz.stoodInHeld104, Go.Proofs.Tryz.eqGuardType104⟩)) <|
  .cons (TI.of_ok Go.Proofs.Tryz.type108 Go.Proofs.Tryz.underlying108 (by kernel_rfl) (fun h => nomatch h)) <|
  .cons (TI.of_ok Go.Proofs.Tryz.type109 Go.Proofs.Tryz.underlying109 (by kernel_rfl) (fun h => nomatch h)) <|
  .cons (TI.of_ok Go.Proofs.Tryz.type111 Go.Proofs.Tryz.underlying111 (by kernel_rfl) (fun h => nomatch h)) <|
  .cons (TI.of_ok Go.Proofs.Tryz.type113 Go.Proofs.Tryz.underlying113 (by kernel_rfl) (fun h => nomatch h)) <|
  .cons (TI.of_ok Go.Proofs.Tryz.type115 Go.Proofs.Tryz.underlying115 (by kernel_rfl) (fun _ => ⟨Go.Proofs.Tryz.stoodInHeld115, Go.Proofs.Tryz.eqGuardType115⟩)) <|
  .cons (TI.of_ok Go.Proofs.Tryz.type117 Go.Proofs.Tryz.underlying117 (by kernel_rfl) (fun _ => ⟨Go.Proofs.Tryz.stoodInHeld117, Go.Proofs.Tryz.eqGuardType117⟩)) <|
  .cons (TI.of_ok Go.Proofs.Tryz.type119 Go.Proofs.Tryz.underlying119 (by kernel_rfl) (fun _ => ⟨Go.Proofs.Tryz.stoodInHeld119, Go.Proofs.Tryz.eqGuardType119⟩)) <|
  .cons (TI.of_ok Go.Proofs.Tryz.type122 Go.Proofs.Tryz.underlying122 (by kernel_rfl) (fun h => nomatch h)) <|
  .cons (TI.of_ok Go.Proofs.Tryz.type127 Go.Proofs.Tryz.underlying127 (by kernel_rfl) (fun h => nomatch h)) <|
  .cons (TI.of_ok Go.Proofs.Tryz.type129 Go.Proofs.Tryz.underlying129 (by kernel_rfl) (fun _ => ⟨Go.Proofs.Tryz.stoodInHeld129, Go.Proofs.Tryz.eqGuardType129⟩)) <|
  .cons (TI.of_ok Go.Proofs.Tryz.type132 Go.Proofs.Tryz.underlying132 (by kernel_rfl) (fun _ => ⟨Go.Proofs.Tryz.stoodInHeld132, Go.Proofs.Tryz.eqGuardType132⟩)) <|
  .cons (TI.of_ok Go.Proofs.Tryz.type133 Go.Proofs.Tryz.underlying133 (by kernel_rfl) (fun h => nomatch h)) <|
  .cons (TI.of_ok Go.Proofs.Tryz.type135 Go.Proofs.Tryz.underlying135 (by kernel_rfl) (fun _ => ⟨Go.Proofs.Tryz.stoodInHeld135, Go.Proofs.Tryz.eqGuardType135⟩)) <|
  .cons (TI.of_ok Go.Proofs.Tryz.type137 Go.Proofs.Tryz.underlying137 (by kernel_rfl) (fun _ => ⟨Go.Proofs.Tryz.stoodInHeld137, Go.Proofs.Tryz.eqGuardType137⟩)) <|
  .cons (TI.of_ok Go.Proofs.Tryz.type142 Go.Proofs.Tryz.underlying142 (by kernel_rfl) (fun _ => ⟨Go.Proofs.Tryz.stoodInHeld142, Go.Proofs.Tryz.eqGuardType142⟩)) <|
  .cons (TI.of_ok Go.Proofs.Tryz.type151 Go.Proofs.Tryz.underlying151 (by kernel_rfl) (fun h => nomatch h)) <|
  .cons (TI.of_ok Go.Proofs.Tryz.type153 Go.Proofs.Tryz.underlying153 (by kernel_rfl) (fun h => nomatch h)) <|
  .cons (TI.of_ok Go.Proofs.Tryz.type155 Go.Proofs.Tryz.underlying155 (by kernel_rfl) (fun h => nomatch h)) <|
  .cons (TI.of_ok Go.Proofs.Tryz.type156 Go.Proofs.Tryz.underlying156 (by kernel_rfl) (fun h => nomatch h)) <|
  .cons (TI.of_ok Go.Proofs.Tryz.type157 Go.Proofs.Tryz.underlying157 (by kernel_rfl) (fun h => nomatch h)) <|
  .cons (TI.of_ok Go.Proofs.Tryz.type158 Go.Proofs.Tryz.underlying158 (by kernel_rfl) (fun h => nomatch h)) <|
  .cons (TI.of_ok Go.Proofs.Tryz.type160 Go.Proofs.Tryz.underlying160 (by kernel_rfl) (fun _ => ⟨Go.Proofs.Tryz.stoodInHeld160, Go.Proofs.Tryz.eqGuardType160⟩)) <|
  .cons (TI.of_ok Go.Proofs.Tryz.type162 Go.Proofs.Tryz.underlying162 (by kernel_rfl) (fun h => nomatch h)) <|
  .cons (TI.of_ok Go.Proofs.Tryz.type164 Go.Proofs.Tryz.underlying164 (by kernel_rfl) (fun _ => ⟨Go.Proofs.Tryz.stoodInHeld164, Go.Proofs.Tryz.eqGuardType164⟩)) <|
  .cons (TI.of_ok Go.Proofs.Tryz.type173 Go.Proofs.Tryz.underlying173 (by kernel_rfl) (fun _ => ⟨Go.Proofs.Tryz.stoodInHeld173, Go.Proofs.Tryz.eqGuardType173⟩)) <|
  .cons (TI.of_ok Go.Proofs.Tryz.type181 Go.Proofs.Tryz.underlying181 (by kernel_rfl) (fun h => nomatch h)) <|
  .cons (TI.of_ok Go.Proofs.Tryz.type185 Go.Proofs.Tryz.underlying185 (by kernel_rfl) (fun h => nomatch h)) <|
  .cons (TI.of_ok Go.Proofs.Tryz.type189 Go.Proofs.Tryz.underlying189 (by kernel_rfl) (fun h => nomatch h)) <|
  .cons (TI.of_ok Go.Proofs.Tryz.type191 Go.Proofs.Tryz.underlying191 (by kernel_rfl) (fun h => nomatch h)) <|
  .cons (TI.of_ok Go.Proofs.Tryz.type193 Go.Proofs.Tryz.underlying193 (by kernel_rfl) (fun _ => ⟨Go.Proofs.Tryz.stoodInHeld193, Go.Proofs.Tryz.eqGuardType193⟩)) <|
  .cons (TI.of_ok Go.Proofs.Tryz.type194 Go.Proofs.Tryz.underlying194 (by kernel_rfl) (fun h => nomatch h)) <|
  .cons (TI.of_ok Go.Proofs.Tryz.type197 Go.Proofs.Tryz.underlying197 (by kernel_rfl) (fun _ => ⟨Go.Proofs.Tryz.stoodInHeld197, Go.Proofs.Tryz.eqGuardType197⟩)) <|
  .cons (TI.of_ok Go.Proofs.Tryz.type199 Go.Proofs.Tryz.underlying199 (by kernel_rfl) (fun _ => ⟨Go.Proofs.Tryz.stoodInHeld199, Go.Proofs.Tryz.eqGuardType199⟩)) <|
  .cons (TI.of_ok Go.Proofs.Tryz.type200 Go.Proofs.Tryz.underlying200 (by kernel_rfl) (fun h => nomatch h)) <|
  .cons (TI.of_ok Go.Proofs.Tryz.type201 Go.Proofs.Tryz.underlying201 (by kernel_rfl) (fun h => nomatch h)) <|
  .cons (TI.of_ok Go.Proofs.Tryz.type203 Go.Proofs.Tryz.underlying203 (by kernel_rfl) (fun _ => ⟨Go.Proofs.Tryz.stoodInHeld203, Go.Proofs.Tryz.eqGuardType203⟩)) <|
  .cons (TI.of_ok Go.Proofs.Tryz.type210 Go.Proofs.Tryz.underlying210 (by kernel_rfl) (fun h => nomatch h)) <|
  .cons (TI.of_ok Go.Proofs.Tryz.type212 Go.Proofs.Tryz.underlying212 (by kernel_rfl) (fun _ => ⟨Go.Proofs.Tryz.stoodInHeld212, Go.Proofs.Tryz.eqGuardType212⟩)) <|
  .cons (TI.of_ok Go.Proofs.Tryz.type215 Go.Proofs.Tryz.underlying215 (by kernel_rfl) (fun h => nomatch h)) <|
  .cons (TI.of_ok Go.Proofs.Tryz.type221 Go.Proofs.Tryz.underlying221 (by kernel_rfl) (fun h => nomatch h)) <|
  .cons (TI.of_ok Go.Proofs.Tryz.type224 Go.Proofs.Tryz.underlying224 (by kernel_rfl) (fun h => nomatch h)) <|
  .cons (TI.of_ok Go.Proofs.Tryz.type226 Go.Proofs.Tryz.underlying226 (by kernel_rfl) (fun _ => ⟨Go.Proofs.Tryz.stoodInHeld226, Go.Proofs.Tryz.eqGuardType226⟩)) <|
  .cons (TI.of_ok Go.Proofs.Tryz.type227 Go.Proofs.Tryz.underlying227 (by kernel_rfl) (fun h => nomatch h)) <|
  .cons (TI.of_ok Go.Proofs.Tryz.type229 Go.Proofs.Tryz.underlying229 (by kernel_rfl) (fun _ => ⟨Go.Proofs.Tryz.stoodInHeld229, Go.Proofs.Tryz.eqGuardType229⟩)) <|
  .cons (TI.of_ok Go.Proofs.Tryz.type240 Go.Proofs.Tryz.underlying240 (by kernel_rfl) (fun h => nomatch h)) <|
  .cons (TI.of_ok Go.Proofs.Tryz.type242 Go.Proofs.Tryz.underlying242 (by kernel_rfl) (fun _ => ⟨Go.Proofs.Tryz.stoodInHeld242, Go.Proofs.Tryz.eqGuardType242⟩)) <|
  .cons (TI.of_ok Go.Proofs.Tryz.type243 Go.Proofs.Tryz.underlying243 (by kernel_rfl) (fun h => nomatch h)) <|
  .cons (TI.of_ok Go.Proofs.Tryz.type244 Go.Proofs.Tryz.underlying244 (by kernel_rfl) (fun h => nomatch h)) <|
  .cons (TI.of_ok Go.Proofs.Tryz.type246 Go.Proofs.Tryz.underlying246 (by kernel_rfl) (fun _ => ⟨Go.Proofs.Tryz.stoodInHeld246, Go.Proofs.Tryz.eqGuardType246⟩)) <|
  .cons (TI.of_ok Go.Proofs.Tryz.type247 Go.Proofs.Tryz.underlying247 (by kernel_rfl) (fun h => nomatch h)) <|
  .cons (TI.of_ok Go.Proofs.Tryz.type249 Go.Proofs.Tryz.underlying249 (by kernel_rfl) (fun _ => ⟨Go.Proofs.Tryz.stoodInHeld249, Go.Proofs.Tryz.eqGuardType249⟩)) <|
  .cons (TI.of_ok Go.Proofs.Tryz.type255 Go.Proofs.Tryz.underlying255 (by kernel_rfl) (fun _ => ⟨Go.Proofs.Tryz.stoodInHeld255, Go.Proofs.Tryz.eqGuardType255⟩)) <|
  .cons (TI.of_ok Go.Proofs.Tryz.type257 Go.Proofs.Tryz.underlying257 (by kernel_rfl) (fun _ => ⟨Go.Proofs.Tryz.stoodInHeld257, Go.Proofs.Tryz.eqGuardType257⟩)) <|
  .cons (TI.of_ok Go.Proofs.Tryz.type262 Go.Proofs.Tryz.underlying262 (by kernel_rfl) (fun _ => ⟨Go.Proofs.Tryz.stoodInHeld262, Go.Proofs.Tryz.eqGuardType262⟩)) <|
  .cons (TI.of_ok Go.Proofs.Tryz.type266 Go.Proofs.Tryz.underlying266 (by kernel_rfl) (fun h => nomatch h)) <|
  .cons (TI.of_ok Go.Proofs.Tryz.type267 Go.Proofs.Tryz.underlying267 (by kernel_rfl) (fun h => nomatch h)) <|
  .cons (TI.of_ok Go.Proofs.Tryz.type269 Go.Proofs.Tryz.underlying269 (by kernel_rfl) (fun _ => ⟨Go.Proofs.Tryz.stoodInHeld269, Go.Proofs.Tryz.eqGuardType269⟩)) <|
  .cons (TI.of_ok Go.Proofs.Tryz.type276 Go.Proofs.Tryz.underlying276 (by kernel_rfl) (fun h => nomatch h)) <|
  .cons (TI.of_ok Go.Proofs.Tryz.type280 Go.Proofs.Tryz.underlying280 (by kernel_rfl) (fun h => nomatch h)) <|
  .cons (TI.of_ok Go.Proofs.Tryz.type284 Go.Proofs.Tryz.underlying284 (by kernel_rfl) (fun _ => ⟨Go.Proofs.Tryz.stoodInHeld284, Go.Proofs.Tryz.eqGuardType284⟩)) <|
  .cons (TI.of_ok Go.Proofs.Tryz.type285 Go.Proofs.Tryz.underlying285 (by kernel_rfl) (fun h => nomatch h)) <|
  .cons (TI.of_ok Go.Proofs.Tryz.type291 Go.Proofs.Tryz.underlying291 (by kernel_rfl) (fun _ => ⟨Go.Proofs.Tryz.stoodInHeld291, Go.Proofs.Tryz.eqGuardType291⟩)) <|
  .cons (TI.of_ok Go.Proofs.Tryz.type293 Go.Proofs.Tryz.underlying293 (by kernel_rfl) (fun h => nomatch h)) <|
  .cons (TI.of_ok Go.Proofs.Tryz.type301 Go.Proofs.Tryz.underlying301 (by kernel_rfl) (fun h => nomatch h)) <|
  .cons (TI.of_ok Go.Proofs.Tryz.type303 Go.Proofs.Tryz.underlying303 (by kernel_rfl) (fun _ => ⟨Go.Proofs.Tryz.stoodInHeld303, Go.Proofs.Tryz.eqGuardType303⟩)) <|
  .cons (TI.of_ok Go.Proofs.Tryz.type304 Go.Proofs.Tryz.underlying304 (by kernel_rfl) (fun h => nomatch h)) <|
  .cons (TI.of_ok Go.Proofs.Tryz.type306 Go.Proofs.Tryz.underlying306 (by kernel_rfl) (fun h => nomatch h)) <|
  .cons (TI.of_ok Go.Proofs.Tryz.type319 Go.Proofs.Tryz.underlying319 (by kernel_rfl) (fun h => nomatch h)) <|
  .cons (TI.of_ok Go.Proofs.Tryz.type320 Go.Proofs.Tryz.underlying320 (by kernel_rfl) (fun h => nomatch h)) <|
  .cons (TI.of_ok Go.Proofs.Tryz.type328 Go.Proofs.Tryz.underlying328 (by kernel_rfl) (fun h => nomatch h)) <|
  .cons (TI.of_ok Go.Proofs.Tryz.type333 Go.Proofs.Tryz.underlying333 (by kernel_rfl) (fun h => nomatch h)) <|
  .cons (TI.of_ok Go.Proofs.Tryz.type336 Go.Proofs.Tryz.underlying336 (by kernel_rfl) (fun h => nomatch h)) <|
  .cons (TI.of_ok Go.Proofs.Tryz.type352 Go.Proofs.Tryz.underlying352 (by kernel_rfl) (fun h => nomatch h)) <|
  .cons (TI.of_ok Go.Proofs.Tryz.type359 Go.Proofs.Tryz.underlying359 (by kernel_rfl) (fun _ => ⟨Go.Proofs.Tryz.stoodInHeld359, Go.Proofs.Tryz.eqGuardType359⟩)) <|
  .cons (TI.of_ok Go.Proofs.Tryz.type361 Go.Proofs.Tryz.underlying361 (by kernel_rfl) (fun h => nomatch h)) <|
  .cons (TI.of_ok Go.Proofs.Tryz.type367 Go.Proofs.Tryz.underlying367 (by kernel_rfl) (fun h => nomatch h)) <|
  .cons (TI.of_ok Go.Proofs.Tryz.type374 Go.Proofs.Tryz.underlying374 (by kernel_rfl) (fun h => nomatch h)) <|
  .cons (TI.of_ok Go.Proofs.Tryz.type376 Go.Proofs.Tryz.underlying376 (by kernel_rfl) (fun h => nomatch h)) <|
  .cons (TI.of_ok Go.Proofs.Tryz.type377 Go.Proofs.Tryz.underlying377 (by kernel_rfl) (fun h => nomatch h)) <|
  .cons (TI.of_ok Go.Proofs.Tryz.type379 Go.Proofs.Tryz.underlying379 (by kernel_rfl) (fun _ => ⟨Go.Proofs.Tryz.stoodInHeld379, Go.Proofs.Tryz.eqGuardType379⟩)) <|
  .cons (TI.of_ok Go.Proofs.Tryz.type397 Go.Proofs.Tryz.underlying397 (by kernel_rfl) (fun h => nomatch h)) <|
  .cons (TI.of_ok Go.Proofs.Tryz.type400 Go.Proofs.Tryz.underlying400 (by kernel_rfl) (fun h => nomatch h)) <|
  .cons (TI.of_ok Go.Proofs.Tryz.type407 Go.Proofs.Tryz.underlying407 (by kernel_rfl) (fun h => nomatch h)) <|
  .cons (TI.of_ok Go.Proofs.Tryz.type411 Go.Proofs.Tryz.underlying411 (by kernel_rfl) (fun h => nomatch h)) <|
  .cons (TI.of_ok Go.Proofs.Tryz.type416 Go.Proofs.Tryz.underlying416 (by kernel_rfl) (fun h => nomatch h)) <|
  .cons (TI.of_ok Go.Proofs.Tryz.type430 Go.Proofs.Tryz.underlying430 (by kernel_rfl) (fun h => nomatch h)) <|
  .nil

noncomputable def fnList : List (Nat × Func) :=
  [ (3, Go.Proofs.Tryz.f3)
  , (5, Go.Proofs.Tryz.f5)
  , (6, Go.Proofs.Tryz.f6)
  , (7, Go.Proofs.Tryz.f7)
  , (8, Go.Proofs.Tryz.f8)
  , (9, Go.Proofs.Tryz.f9)
  , (10, Go.Proofs.Tryz.f10)
  , (11, Go.Proofs.Tryz.f11)
  , (12, Go.Proofs.Tryz.f12)
  , (13, Go.Proofs.Tryz.f13)
  , (14, Go.Proofs.Tryz.f14)
  , (15, Go.Proofs.Tryz.f15)
  , (16, Go.Proofs.Tryz.f16)
  , (17, Go.Proofs.Tryz.f17)
  , (18, Go.Proofs.Tryz.f18)
  , (20, Go.Proofs.Tryz.f20)
  , (21, Go.Proofs.Tryz.f21)
  , (22, Go.Proofs.Tryz.f22)
  , (23, Go.Proofs.Tryz.f23)
  , (24, Go.Proofs.Tryz.f24)
  , (25, Go.Proofs.Tryz.f25)
  , (27, Go.Proofs.Tryz.f27)
  , (28, Go.Proofs.Tryz.f28)
  , (29, Go.Proofs.Tryz.f29)
  , (30, Go.Proofs.Tryz.f30)
  , (31, Go.Proofs.Tryz.f31)
  , (32, Go.Proofs.Tryz.f32)
  , (33, Go.Proofs.Tryz.f33)
  , (34, Go.Proofs.Tryz.f34)
  , (35, Go.Proofs.Tryz.f35)
  , (36, Go.Proofs.Tryz.f36)
  , (37, Go.Proofs.Tryz.f37)
  , (38, Go.Proofs.Tryz.f38)
  , (39, Go.Proofs.Tryz.f39)
  , (40, Go.Proofs.Tryz.f40)
  , (41, Go.Proofs.Tryz.f41)
  , (42, Go.Proofs.Tryz.f42)
  , (43, Go.Proofs.Tryz.f43)
  , (44, Go.Proofs.Tryz.f44)
  , (45, Go.Proofs.Tryz.f45)
  , (46, Go.Proofs.Tryz.f46)
  , (47, Go.Proofs.Tryz.f47)
  , (48, Go.Proofs.Tryz.f48)
  , (49, Go.Proofs.Tryz.f49)
  , (50, Go.Proofs.Tryz.f50)
  , (51, Go.Proofs.Tryz.f51)
  , (52, Go.Proofs.Tryz.f52)
  , (53, Go.Proofs.Tryz.f53)
  , (54, Go.Proofs.Tryz.f54)
  , (55, Go.Proofs.Tryz.f55)
  , (56, Go.Proofs.Tryz.f56)
  , (57, Go.Proofs.Tryz.f57)
  , (58, Go.Proofs.Tryz.f58)
  , (59, Go.Proofs.Tryz.f59)
  , (60, Go.Proofs.Tryz.f60)
  , (61, Go.Proofs.Tryz.f61)
  , (62, Go.Proofs.Tryz.f62)
  , (63, Go.Proofs.Tryz.f63)
  , (64, Go.Proofs.Tryz.f64)
  , (65, Go.Proofs.Tryz.f65)
  , (66, Go.Proofs.Tryz.f66)
  , (67, Go.Proofs.Tryz.f67)
  , (68, Go.Proofs.Tryz.f68)
  , (69, Go.Proofs.Tryz.f69)
  , (70, Go.Proofs.Tryz.f70)
  , (71, Go.Proofs.Tryz.f71)
  , (72, Go.Proofs.Tryz.f72)
  , (73, Go.Proofs.Tryz.f73)
  , (74, Go.Proofs.Tryz.f74)
  , (75, Go.Proofs.Tryz.f75)
  , (76, Go.Proofs.Tryz.f76)
  , (77, Go.Proofs.Tryz.f77)
  , (78, Go.Proofs.Tryz.f78)
  , (79, Go.Proofs.Tryz.f79)
  , (80, Go.Proofs.Tryz.f80)
  , (81, Go.Proofs.Tryz.f81)
  , (82, Go.Proofs.Tryz.f82)
  , (83, Go.Proofs.Tryz.f83)
  , (84, Go.Proofs.Tryz.f84)
  , (85, Go.Proofs.Tryz.f85)
  , (86, Go.Proofs.Tryz.f86)
  , (87, Go.Proofs.Tryz.f87)
  , (88, Go.Proofs.Tryz.f88)
  , (89, Go.Proofs.Tryz.f89)
  , (90, Go.Proofs.Tryz.f90)
  , (91, Go.Proofs.Tryz.f91)
  , (92, Go.Proofs.Tryz.f92)
  , (93, Go.Proofs.Tryz.f93)
  , (94, Go.Proofs.Tryz.f94)
  , (95, Go.Proofs.Tryz.f95)
  , (96, Go.Proofs.Tryz.f96)
  , (97, Go.Proofs.Tryz.f97)
  , (98, Go.Proofs.Tryz.f98)
  , (99, Go.Proofs.Tryz.f99)
  , (100, Go.Proofs.Tryz.f100)
  , (101, Go.Proofs.Tryz.f101)
  , (102, Go.Proofs.Tryz.f102)
  , (103, Go.Proofs.Tryz.f103)
  , (104, Go.Proofs.Tryz.f104)
  , (105, Go.Proofs.Tryz.f105)
  , (106, Go.Proofs.Tryz.f106)
  , (107, Go.Proofs.Tryz.f107)
  , (108, Go.Proofs.Tryz.f108)
  , (109, Go.Proofs.Tryz.f109)
  , (110, Go.Proofs.Tryz.f110)
  , (111, Go.Proofs.Tryz.f111)
  , (112, Go.Proofs.Tryz.f112)
  , (113, Go.Proofs.Tryz.f113)
  , (114, Go.Proofs.Tryz.f114)
  , (115, Go.Proofs.Tryz.f115)
  , (116, Go.Proofs.Tryz.f116)
  , (117, Go.Proofs.Tryz.f117)
  , (118, Go.Proofs.Tryz.f118)
  , (119, Go.Proofs.Tryz.f119)
  , (120, Go.Proofs.Tryz.f120)
  , (121, Go.Proofs.Tryz.f121)
  , (122, Go.Proofs.Tryz.f122)
  , (123, Go.Proofs.Tryz.f123)
  , (124, Go.Proofs.Tryz.f124)
  , (125, Go.Proofs.Tryz.f125)
  , (126, Go.Proofs.Tryz.f126)
  , (127, Go.Proofs.Tryz.f127)
  , (128, Go.Proofs.Tryz.f128)
  , (129, Go.Proofs.Tryz.f129)
  , (130, Go.Proofs.Tryz.f130)
  , (131, Go.Proofs.Tryz.f131)
  , (132, Go.Proofs.Tryz.f132)
  , (133, Go.Proofs.Tryz.f133)
  , (134, Go.Proofs.Tryz.f134)
  , (135, Go.Proofs.Tryz.f135)
  , (136, Go.Proofs.Tryz.f136)
  , (137, Go.Proofs.Tryz.f137)
  , (138, Go.Proofs.Tryz.f138)
  , (139, Go.Proofs.Tryz.f139)
  , (140, Go.Proofs.Tryz.f140)
  , (141, Go.Proofs.Tryz.f141)
  , (142, Go.Proofs.Tryz.f142)
  , (143, Go.Proofs.Tryz.f143)
  , (144, Go.Proofs.Tryz.f144)
  , (145, Go.Proofs.Tryz.f145)
  , (146, Go.Proofs.Tryz.f146)
  , (147, Go.Proofs.Tryz.f147)
  , (148, Go.Proofs.Tryz.f148)
  , (149, Go.Proofs.Tryz.f149)
  , (150, Go.Proofs.Tryz.f150)
  , (151, Go.Proofs.Tryz.f151)
  , (152, Go.Proofs.Tryz.f152)
  , (153, Go.Proofs.Tryz.f153)
  , (154, Go.Proofs.Tryz.f154)
  , (155, Go.Proofs.Tryz.f155)
  , (156, Go.Proofs.Tryz.f156)
  , (157, Go.Proofs.Tryz.f157)
  , (158, Go.Proofs.Tryz.f158)
  , (159, Go.Proofs.Tryz.f159)
  , (160, Go.Proofs.Tryz.f160)
  , (161, Go.Proofs.Tryz.f161)
  , (162, Go.Proofs.Tryz.f162)
  , (163, Go.Proofs.Tryz.f163)
  , (164, Go.Proofs.Tryz.f164)
  , (165, Go.Proofs.Tryz.f165)
  , (166, Go.Proofs.Tryz.f166)
  , (167, Go.Proofs.Tryz.f167)
  , (168, Go.Proofs.Tryz.f168)
  , (169, Go.Proofs.Tryz.f169)
  , (170, Go.Proofs.Tryz.f170)
  , (171, Go.Proofs.Tryz.f171)
  , (172, Go.Proofs.Tryz.f172)
  , (173, Go.Proofs.Tryz.f173)
  , (174, Go.Proofs.Tryz.f174)
  , (175, Go.Proofs.Tryz.f175)
  , (176, Go.Proofs.Tryz.f176)
  , (177, Go.Proofs.Tryz.f177)
  , (178, Go.Proofs.Tryz.f178)
  , (179, Go.Proofs.Tryz.f179)
  , (180, Go.Proofs.Tryz.f180)
  , (181, Go.Proofs.Tryz.f181)
  , (182, Go.Proofs.Tryz.f182)
  , (183, Go.Proofs.Tryz.f183)
  , (184, Go.Proofs.Tryz.f184)
  , (185, Go.Proofs.Tryz.f185)
  , (186, Go.Proofs.Tryz.f186)
  , (187, Go.Proofs.Tryz.f187)
  , (188, Go.Proofs.Tryz.f188)
  , (189, Go.Proofs.Tryz.f189)
  , (190, Go.Proofs.Tryz.f190)
  , (191, Go.Proofs.Tryz.f191)
  , (192, Go.Proofs.Tryz.f192)
  , (193, Go.Proofs.Tryz.f193)
  , (194, Go.Proofs.Tryz.f194)
  , (195, Go.Proofs.Tryz.f195)
  , (196, Go.Proofs.Tryz.f196)
  , (197, Go.Proofs.Tryz.f197)
  , (198, Go.Proofs.Tryz.f198)
  , (199, Go.Proofs.Tryz.f199)
  , (200, Go.Proofs.Tryz.f200)
  , (201, Go.Proofs.Tryz.f201)
  , (202, Go.Proofs.Tryz.f202)
  , (203, Go.Proofs.Tryz.f203)
  , (204, Go.Proofs.Tryz.f204)
  , (205, Go.Proofs.Tryz.f205)
  , (206, Go.Proofs.Tryz.f206)
  , (207, Go.Proofs.Tryz.f207)
  , (208, Go.Proofs.Tryz.f208)
  , (209, Go.Proofs.Tryz.f209)
  , (210, Go.Proofs.Tryz.f210)
  , (211, Go.Proofs.Tryz.f211)
  , (212, Go.Proofs.Tryz.f212)
  , (213, Go.Proofs.Tryz.f213)
  , (214, Go.Proofs.Tryz.f214)
  , (215, Go.Proofs.Tryz.f215)
  , (216, Go.Proofs.Tryz.f216)
  , (217, Go.Proofs.Tryz.f217)
  , (218, Go.Proofs.Tryz.f218)
  , (219, Go.Proofs.Tryz.f219)
  , (220, Go.Proofs.Tryz.f220)
  , (221, Go.Proofs.Tryz.f221)
  , (222, Go.Proofs.Tryz.f222)
  , (223, Go.Proofs.Tryz.f223)
  , (224, Go.Proofs.Tryz.f224)
  , (225, Go.Proofs.Tryz.f225)
  , (226, Go.Proofs.Tryz.f226)
  , (227, Go.Proofs.Tryz.f227)
  , (228, Go.Proofs.Tryz.f228)
  , (229, Go.Proofs.Tryz.f229)
  , (230, Go.Proofs.Tryz.f230)
  , (231, Go.Proofs.Tryz.f231)
  , (232, Go.Proofs.Tryz.f232)
  , (233, Go.Proofs.Tryz.f233)
  , (234, Go.Proofs.Tryz.f234)
  , (235, Go.Proofs.Tryz.f235)
  , (236, Go.Proofs.Tryz.f236)
  , (237, Go.Proofs.Tryz.f237)
  , (238, Go.Proofs.Tryz.f238)
  , (239, Go.Proofs.Tryz.f239)
  , (240, Go.Proofs.Tryz.f240)
  , (241, Go.Proofs.Tryz.f241)
  , (242, Go.Proofs.Tryz.f242)
  , (243, Go.Proofs.Tryz.f243)
  , (244, Go.Proofs.Tryz.f244)
  , (245, Go.Proofs.Tryz.f245)
  , (246, Go.Proofs.Tryz.f246)
  , (247, Go.Proofs.Tryz.f247)
  , (248, Go.Proofs.Tryz.f248)
  , (249, Go.Proofs.Tryz.f249)
  , (250, Go.Proofs.Tryz.f250)
  , (251, Go.Proofs.Tryz.f251)
  , (252, Go.Proofs.Tryz.f252)
  , (253, Go.Proofs.Tryz.f253)
  , (254, Go.Proofs.Tryz.f254)
  , (255, Go.Proofs.Tryz.f255)
  , (256, Go.Proofs.Tryz.f256)
  , (257, Go.Proofs.Tryz.f257)
  , (258, Go.Proofs.Tryz.f258)
  , (259, Go.Proofs.Tryz.f259)
  , (260, Go.Proofs.Tryz.f260)
  , (261, Go.Proofs.Tryz.f261)
  , (262, Go.Proofs.Tryz.f262)
  , (263, Go.Proofs.Tryz.f263)
  , (264, Go.Proofs.Tryz.f264)
  , (265, Go.Proofs.Tryz.f265)
  , (266, Go.Proofs.Tryz.f266)
  , (267, Go.Proofs.Tryz.f267)
  , (268, Go.Proofs.Tryz.f268)
  , (269, Go.Proofs.Tryz.f269)
  , (270, Go.Proofs.Tryz.f270)
  , (271, Go.Proofs.Tryz.f271)
  , (272, Go.Proofs.Tryz.f272)
  , (273, Go.Proofs.Tryz.f273)
  , (274, Go.Proofs.Tryz.f274)
  , (275, Go.Proofs.Tryz.f275)
  , (276, Go.Proofs.Tryz.f276)
  , (277, Go.Proofs.Tryz.f277)
  , (278, Go.Proofs.Tryz.f278)
  , (279, Go.Proofs.Tryz.f279)
  , (280, Go.Proofs.Tryz.f280)
  , (281, Go.Proofs.Tryz.f281)
  , (282, Go.Proofs.Tryz.f282)
  , (283, Go.Proofs.Tryz.f283)
  , (284, Go.Proofs.Tryz.f284)
  , (285, Go.Proofs.Tryz.f285)
  , (286, Go.Proofs.Tryz.f286)
  , (287, Go.Proofs.Tryz.f287)
  , (288, Go.Proofs.Tryz.f288)
  , (289, Go.Proofs.Tryz.f289)
  , (290, Go.Proofs.Tryz.f290)
  , (291, Go.Proofs.Tryz.f291)
  , (292, Go.Proofs.Tryz.f292)
  , (293, Go.Proofs.Tryz.f293)
  , (294, Go.Proofs.Tryz.f294)
  , (295, Go.Proofs.Tryz.f295)
  , (296, Go.Proofs.Tryz.f296)
  , (297, Go.Proofs.Tryz.f297)
  , (298, Go.Proofs.Tryz.f298)
  , (299, Go.Proofs.Tryz.f299)
  , (300, Go.Proofs.Tryz.f300)
  , (301, Go.Proofs.Tryz.f301)
  , (302, Go.Proofs.Tryz.f302)
  , (303, Go.Proofs.Tryz.f303)
  , (304, Go.Proofs.Tryz.f304)
  , (305, Go.Proofs.Tryz.f305)
  , (306, Go.Proofs.Tryz.f306)
  , (307, Go.Proofs.Tryz.f307)
  , (308, Go.Proofs.Tryz.f308)
  , (309, Go.Proofs.Tryz.f309)
  , (310, Go.Proofs.Tryz.f310)
  , (311, Go.Proofs.Tryz.f311)
  , (312, Go.Proofs.Tryz.f312)
  , (313, Go.Proofs.Tryz.f313)
  , (314, Go.Proofs.Tryz.f314)
  , (315, Go.Proofs.Tryz.f315)
  , (316, Go.Proofs.Tryz.f316)
  , (317, Go.Proofs.Tryz.f317)
  , (318, Go.Proofs.Tryz.f318)
  , (319, Go.Proofs.Tryz.f319)
  , (320, Go.Proofs.Tryz.f320)
  , (321, Go.Proofs.Tryz.f321)
  , (322, Go.Proofs.Tryz.f322)
  , (323, Go.Proofs.Tryz.f323)
  , (324, Go.Proofs.Tryz.f324)
  , (325, Go.Proofs.Tryz.f325)
  , (326, Go.Proofs.Tryz.f326)
  , (327, Go.Proofs.Tryz.f327)
  , (328, Go.Proofs.Tryz.f328)
  , (329, Go.Proofs.Tryz.f329)
  , (330, Go.Proofs.Tryz.f330)
  , (331, Go.Proofs.Tryz.f331)
  , (332, Go.Proofs.Tryz.f332)
  , (333, Go.Proofs.Tryz.f333)
  , (334, Go.Proofs.Tryz.f334)
  , (335, Go.Proofs.Tryz.f335)
  , (336, Go.Proofs.Tryz.f336)
  , (337, Go.Proofs.Tryz.f337)
  , (338, Go.Proofs.Tryz.f338)
  , (339, Go.Proofs.Tryz.f339)
  , (340, Go.Proofs.Tryz.f340)
  , (341, Go.Proofs.Tryz.f341)
  , (342, Go.Proofs.Tryz.f342)
  , (343, Go.Proofs.Tryz.f343)
  , (344, Go.Proofs.Tryz.f344)
  , (345, Go.Proofs.Tryz.f345)
  , (346, Go.Proofs.Tryz.f346)
  , (347, Go.Proofs.Tryz.f347)
  , (348, Go.Proofs.Tryz.f348)
  , (349, Go.Proofs.Tryz.f349)
  , (350, Go.Proofs.Tryz.f350)
  , (351, Go.Proofs.Tryz.f351)
  , (352, Go.Proofs.Tryz.f352)
  , (353, Go.Proofs.Tryz.f353)
  , (354, Go.Proofs.Tryz.f354)
  , (355, Go.Proofs.Tryz.f355)
  , (356, Go.Proofs.Tryz.f356)
  , (357, Go.Proofs.Tryz.f357)
  , (358, Go.Proofs.Tryz.f358)
  , (360, Go.Proofs.Tryz.f360)
  , (361, Go.Proofs.Tryz.f361)
  , (362, Go.Proofs.Tryz.f362)
  , (363, Go.Proofs.Tryz.f363)
  , (364, Go.Proofs.Tryz.f364)
  , (366, Go.Proofs.Tryz.f366)
  , (368, Go.Proofs.Tryz.f368)
  , (370, Go.Proofs.Tryz.f370)
  , (371, Go.Proofs.Tryz.f371)
  , (372, Go.Proofs.Tryz.f372)
  , (373, Go.Proofs.Tryz.f373)
  , (374, Go.Proofs.Tryz.f374)
  , (375, Go.Proofs.Tryz.f375)
  , (376, Go.Proofs.Tryz.f376)
  , (377, Go.Proofs.Tryz.f377)
  , (378, Go.Proofs.Tryz.f378)
  , (379, Go.Proofs.Tryz.f379)
  , (380, Go.Proofs.Tryz.f380)
  , (381, Go.Proofs.Tryz.f381)
  , (382, Go.Proofs.Tryz.f382)
  , (383, Go.Proofs.Tryz.f383)
  , (384, Go.Proofs.Tryz.f384)
  , (385, Go.Proofs.Tryz.f385)
  , (386, Go.Proofs.Tryz.f386)
  , (387, Go.Proofs.Tryz.f387)
  , (388, Go.Proofs.Tryz.f388)
  , (389, Go.Proofs.Tryz.f389)
  , (390, Go.Proofs.Tryz.f390)
  , (391, Go.Proofs.Tryz.f391)
  , (392, Go.Proofs.Tryz.f392)
  , (393, Go.Proofs.Tryz.f393)
  ]

set_option maxRecDepth 20000 in
theorem fnOk : AllOk (FnOk Go.Proofs.Tryz.prog) fnList :=
  .cons ⟨Go.Proofs.Tryz.func3, by kernel_rfl, by kernel_rfl⟩ <|
  .cons ⟨Go.Proofs.Tryz.func5, by kernel_rfl, by kernel_rfl⟩ <|
  .cons ⟨Go.Proofs.Tryz.func6, by kernel_rfl, by kernel_rfl⟩ <|
  .cons ⟨Go.Proofs.Tryz.func7, by kernel_rfl, by kernel_rfl⟩ <|
  .cons ⟨Go.Proofs.Tryz.func8, by kernel_rfl, by kernel_rfl⟩ <|
  .cons ⟨Go.Proofs.Tryz.func9, by kernel_rfl, by kernel_rfl⟩ <|
  .cons ⟨Go.Proofs.Tryz.func10, by kernel_rfl, by kernel_rfl⟩ <|
  .cons ⟨Go.Proofs.Tryz.func11, by kernel_rfl, by kernel_rfl⟩ <|
  .cons ⟨Go.Proofs.Tryz.func12, by kernel_rfl, by kernel_rfl⟩ <|
  .cons ⟨Go.Proofs.Tryz.func13, by kernel_rfl, by kernel_rfl⟩ <|
  .cons ⟨Go.Proofs.Tryz.func14, by kernel_rfl, by kernel_rfl⟩ <|
  .cons ⟨Go.Proofs.Tryz.func15, by kernel_rfl, by kernel_rfl⟩ <|
  .cons ⟨Go.Proofs.Tryz.func16, by kernel_rfl, by kernel_rfl⟩ <|
  .cons ⟨Go.Proofs.Tryz.func17, by kernel_rfl, by kernel_rfl⟩ <|
  .cons ⟨Go.Proofs.Tryz.func18, by kernel_rfl, by kernel_rfl⟩ <|
  .cons ⟨Go.Proofs.Tryz.func20, by kernel_rfl, by kernel_rfl⟩ <|
  .cons ⟨Go.Proofs.Tryz.func21, by kernel_rfl, by kernel_rfl⟩ <|
  .cons ⟨Go.Proofs.Tryz.func22, by kernel_rfl, by kernel_rfl⟩ <|
  .cons ⟨Go.Proofs.Tryz.func23, by kernel_rfl, by kernel_rfl⟩ <|
  .cons ⟨Go.Proofs.Tryz.func24, by kernel_rfl, by kernel_rfl⟩ <|
  .cons ⟨Go.Proofs.Tryz.func25, by kernel_rfl, by kernel_rfl⟩ <|
  .cons ⟨Go.Proofs.Tryz.func27, by kernel_rfl, by kernel_rfl⟩ <|
  .cons ⟨Go.Proofs.Tryz.func28, by kernel_rfl, by kernel_rfl⟩ <|
  .cons ⟨Go.Proofs.Tryz.func29, by kernel_rfl, by kernel_rfl⟩ <|
  .cons ⟨Go.Proofs.Tryz.func30, by kernel_rfl, by kernel_rfl⟩ <|
  .cons ⟨Go.Proofs.Tryz.func31, by kernel_rfl, by kernel_rfl⟩ <|
  .cons ⟨Go.Proofs.Tryz.func32, by kernel_rfl, by kernel_rfl⟩ <|
  .cons ⟨Go.Proofs.Tryz.func33, by kernel_rfl, by kernel_rfl⟩ <|
  .cons ⟨Go.Proofs.Tryz.func34, by kernel_rfl, by kernel_rfl⟩ <|
  .cons ⟨Go.Proofs.Tryz.func35, by kernel_rfl, by kernel_rfl⟩ <|
  .cons ⟨Go.Proofs.Tryz.func36, by kernel_rfl, by kernel_rfl⟩ <|
  .cons ⟨Go.Proofs.Tryz.func37, by kernel_rfl, by kernel_rfl⟩ <|
  .cons ⟨Go.Proofs.Tryz.func38, by kernel_rfl, by kernel_rfl⟩ <|
  .cons ⟨Go.Proofs.Tryz.func39, by kernel_rfl, by kernel_rfl⟩ <|
  .cons ⟨Go.Proofs.Tryz.func40, by kernel_rfl, by kernel_rfl⟩ <|
  .cons ⟨Go.Proofs.Tryz.func41, by kernel_rfl, by kernel_rfl⟩ <|
  .cons ⟨Go.Proofs.Tryz.func42, by kernel_rfl, by kernel_rfl⟩ <|
  .cons ⟨Go.Proofs.Tryz.func43, by kernel_rfl, by kernel_rfl⟩ <|
  .cons ⟨Go.Proofs.Tryz.func44, by kernel_rfl, by kernel_rfl⟩ <|
  .cons ⟨Go.Proofs.Tryz.func45, by kernel_rfl, by kernel_rfl⟩ <|
  .cons ⟨Go.Proofs.Tryz.func46, by kernel_rfl, by kernel_rfl⟩ <|
  .cons ⟨Go.Proofs.Tryz.func47, by kernel_rfl, by kernel_rfl⟩ <|
  .cons ⟨Go.Proofs.Tryz.func48, by kernel_rfl, by kernel_rfl⟩ <|
  .cons ⟨Go.Proofs.Tryz.func49, by kernel_rfl, by kernel_rfl⟩ <|
  .cons ⟨Go.Proofs.Tryz.func50, by kernel_rfl, by kernel_rfl⟩ <|
  .cons ⟨Go.Proofs.Tryz.func51, by kernel_rfl, by kernel_rfl⟩ <|
  .cons ⟨Go.Proofs.Tryz.func52, by kernel_rfl, by kernel_rfl⟩ <|
  .cons ⟨Go.Proofs.Tryz.func53, by kernel_rfl, by kernel_rfl⟩ <|
  .cons ⟨Go.Proofs.Tryz.func54, by kernel_rfl, by kernel_rfl⟩ <|
  .cons ⟨Go.Proofs.Tryz.func55, by kernel_rfl, by kernel_rfl⟩ <|
  .cons ⟨Go.Proofs.Tryz.func56, by kernel_rfl, by kernel_rfl⟩ <|
  .cons ⟨Go.Proofs.Tryz.func57, by kernel_rfl, by kernel_rfl⟩ <|
  .cons ⟨Go.Proofs.Tryz.func58, by kernel_rfl, by kernel_rfl⟩ <|
  .cons ⟨Go.Proofs.Tryz.func59, by kernel_rfl, by kernel_rfl⟩ <|
  .cons ⟨Go.Proofs.Tryz.func60, by kernel_rfl, by kernel_rfl⟩ <|
  .cons ⟨Go.Proofs.Tryz.func61, by kernel_rfl, by kernel_rfl⟩ <|
  .cons ⟨Go.Proofs.Tryz.func62, by kernel_rfl, by kernel_rfl⟩ <|
  .cons ⟨Go.Proofs.Tryz.func63, by kernel_rfl, by kernel_rfl⟩ <|
  .cons ⟨Go.Proofs.Tryz.func64, by kernel_rfl, by kernel_rfl⟩ <|
  .cons ⟨Go.Proofs.Tryz.func65, by kernel_rfl, by kernel_rfl⟩ <|
  .cons ⟨Go.Proofs.Tryz.func66, by kernel_rfl, by kernel_rfl⟩ <|
  .cons ⟨Go.Proofs.Tryz.func67, by kernel_rfl, by kernel_rfl⟩ <|
  .cons ⟨Go.Proofs.Tryz.func68, by kernel_rfl, by kernel_rfl⟩ <|
  .cons ⟨Go.Proofs.Tryz.func69, by kernel_rfl, by kernel_rfl⟩ <|
  .cons ⟨Go.Proofs.Tryz.func70, by kernel_rfl, by kernel_rfl⟩ <|
  .cons ⟨Go.Proofs.Tryz.func71, by kernel_rfl, by kernel_rfl⟩ <|
  .cons ⟨Go.Proofs.Tryz.func72, by kernel_rfl, by kernel_rfl⟩ <|
  .cons ⟨Go.Proofs.Tryz.func73, by kernel_rfl, by kernel_rfl⟩ <|
  .cons ⟨Go.Proofs.Tryz.func74, by kernel_rfl, by kernel_rfl⟩ <|
  .cons ⟨Go.Proofs.Tryz.func75, by kernel_rfl, by kernel_rfl⟩ <|
  .cons ⟨Go.Proofs.Tryz.func76, by kernel_rfl, by kernel_rfl⟩ <|
  .cons ⟨Go.Proofs.Tryz.func77, by kernel_rfl, by kernel_rfl⟩ <|
  .cons ⟨Go.Proofs.Tryz.func78, by kernel_rfl, by kernel_rfl⟩ <|
  .cons ⟨Go.Proofs.Tryz.func79, by kernel_rfl, by kernel_rfl⟩ <|
  .cons ⟨Go.Proofs.Tryz.func80, by kernel_rfl, by kernel_rfl⟩ <|
  .cons ⟨Go.Proofs.Tryz.func81, by kernel_rfl, by kernel_rfl⟩ <|
  .cons ⟨Go.Proofs.Tryz.func82, by kernel_rfl, by kernel_rfl⟩ <|
  .cons ⟨Go.Proofs.Tryz.func83, by kernel_rfl, by kernel_rfl⟩ <|
  .cons ⟨Go.Proofs.Tryz.func84, by kernel_rfl, by kernel_rfl⟩ <|
  .cons ⟨Go.Proofs.Tryz.func85, by kernel_rfl, by kernel_rfl⟩ <|
  .cons ⟨Go.Proofs.Tryz.func86, by kernel_rfl, by kernel_rfl⟩ <|
  .cons ⟨Go.Proofs.Tryz.func87, by kernel_rfl, by kernel_rfl⟩ <|
  .cons ⟨Go.Proofs.Tryz.func88, by kernel_rfl, by kernel_rfl⟩ <|
  .cons ⟨Go.Proofs.Tryz.func89, by kernel_rfl, by kernel_rfl⟩ <|
  .cons ⟨Go.Proofs.Tryz.func90, by kernel_rfl, by kernel_rfl⟩ <|
  .cons ⟨Go.Proofs.Tryz.func91, by kernel_rfl, by kernel_rfl⟩ <|
  .cons ⟨Go.Proofs.Tryz.func92, by kernel_rfl, by kernel_rfl⟩ <|
  .cons ⟨Go.Proofs.Tryz.func93, by kernel_rfl, by kernel_rfl⟩ <|
  .cons ⟨Go.Proofs.Tryz.func94, by kernel_rfl, by kernel_rfl⟩ <|
  .cons ⟨Go.Proofs.Tryz.func95, by kernel_rfl, by kernel_rfl⟩ <|
  .cons ⟨Go.Proofs.Tryz.func96, by kernel_rfl, by kernel_rfl⟩ <|
  .cons ⟨Go.Proofs.Tryz.func97, by kernel_rfl, by kernel_rfl⟩ <|
  .cons ⟨Go.Proofs.Tryz.func98, by kernel_rfl, by kernel_rfl⟩ <|
  .cons ⟨Go.Proofs.Tryz.func99, by kernel_rfl, by kernel_rfl⟩ <|
  .cons ⟨Go.Proofs.Tryz.func100, by kernel_rfl, by kernel_rfl⟩ <|
  .cons ⟨Go.Proofs.Tryz.func101, by kernel_rfl, by kernel_rfl⟩ <|
  .cons ⟨Go.Proofs.Tryz.func102, by kernel_rfl, by kernel_rfl⟩ <|
  .cons ⟨Go.Proofs.Tryz.func103, by kernel_rfl, by kernel_rfl⟩ <|
  .cons ⟨Go.Proofs.Tryz.func104, by kernel_rfl, by kernel_rfl⟩ <|
  .cons ⟨Go.Proofs.Tryz.func105, by kernel_rfl, by kernel_rfl⟩ <|
  .cons ⟨Go.Proofs.Tryz.func106, by kernel_rfl, by kernel_rfl⟩ <|
  .cons ⟨Go.Proofs.Tryz.func107, by kernel_rfl, by kernel_rfl⟩ <|
  .cons ⟨Go.Proofs.Tryz.func108, by kernel_rfl, by kernel_rfl⟩ <|
  .cons ⟨Go.Proofs.Tryz.func109, by kernel_rfl, by kernel_rfl⟩ <|
  .cons ⟨Go.Proofs.Tryz.func110, by kernel_rfl, by kernel_rfl⟩ <|
  .cons ⟨Go.Proofs.Tryz.func111, by kernel_rfl, by kernel_rfl⟩ <|
  .cons ⟨Go.Proofs.Tryz.func112, by kernel_rfl, by kernel_rfl⟩ <|
  .cons ⟨Go.Proofs.Tryz.func113, by kernel_rfl, by kernel_rfl⟩ <|
  .cons ⟨Go.Proofs.Tryz.func114, by kernel_rfl, by kernel_rfl⟩ <|
  .cons ⟨Go.Proofs.Tryz.func115, by kernel_rfl, by kernel_rfl⟩ <|
  .cons ⟨Go.Proofs.Tryz.func116, by kernel_rfl, by kernel_rfl⟩ <|
  .cons ⟨Go.Proofs.Tryz.func117, by kernel_rfl, by kernel_rfl⟩ <|
  .cons ⟨Go.Proofs.Tryz.func118, by kernel_rfl, by kernel_rfl⟩ <|
  .cons ⟨Go.Proofs.Tryz.func119, by kernel_rfl, by kernel_rfl⟩ <|
  .cons ⟨Go.Proofs.Tryz.func120, by kernel_rfl, by kernel_rfl⟩ <|
  .cons ⟨Go.Proofs.Tryz.func121, by kernel_rfl, by kernel_rfl⟩ <|
  .cons ⟨Go.Proofs.Tryz.func122, by kernel_rfl, by kernel_rfl⟩ <|
  .cons ⟨Go.Proofs.Tryz.func123, by kernel_rfl, by kernel_rfl⟩ <|
  .cons ⟨Go.Proofs.Tryz.func124, by kernel_rfl, by kernel_rfl⟩ <|
  .cons ⟨Go.Proofs.Tryz.func125, by kernel_rfl, by kernel_rfl⟩ <|
  .cons ⟨Go.Proofs.Tryz.func126, by kernel_rfl, by kernel_rfl⟩ <|
  .cons ⟨Go.Proofs.Tryz.func127, by kernel_rfl, by kernel_rfl⟩ <|
  .cons ⟨Go.Proofs.Tryz.func128, by kernel_rfl, by kernel_rfl⟩ <|
  .cons ⟨Go.Proofs.Tryz.func129, by kernel_rfl, by kernel_rfl⟩ <|
  .cons ⟨Go.Proofs.Tryz.func130, by kernel_rfl, by kernel_rfl⟩ <|
  .cons ⟨Go.Proofs.Tryz.func131, by kernel_rfl, by kernel_rfl⟩ <|
  .cons ⟨Go.Proofs.Tryz.func132, by kernel_rfl, by kernel_rfl⟩ <|
  .cons ⟨Go.Proofs.Tryz.func133, by kernel_rfl, by kernel_rfl⟩ <|
  .cons ⟨Go.Proofs.Tryz.func134, by kernel_rfl, by kernel_rfl⟩ <|
  .cons ⟨Go.Proofs.Tryz.func135, by kernel_rfl, by kernel_rfl⟩ <|
  .cons ⟨Go.Proofs.Tryz.func136, by kernel_rfl, by kernel_rfl⟩ <|
  .cons ⟨Go.Proofs.Tryz.func137, by kernel_rfl, by kernel_rfl⟩ <|
  .cons ⟨Go.Proofs.Tryz.func138, by kernel_rfl, by kernel_rfl⟩ <|
  .cons ⟨Go.Proofs.Tryz.func139, by kernel_rfl, by kernel_rfl⟩ <|
  .cons ⟨Go.Proofs.Tryz.func140, by kernel_rfl, by kernel_rfl⟩ <|
  .cons ⟨Go.Proofs.Tryz.func141, by kernel_rfl, by kernel_rfl⟩ <|
  .cons ⟨Go.Proofs.Tryz.func142, by kernel_rfl, by kernel_rfl⟩ <|
  .cons ⟨Go.Proofs.Tryz.func143, by kernel_rfl, by kernel_rfl⟩ <|
  .cons ⟨Go.Proofs.Tryz.func144, by kernel_rfl, by kernel_rfl⟩ <|
  .cons ⟨Go.Proofs.Tryz.func145, by kernel_rfl, by kernel_rfl⟩ <|
  .cons ⟨Go.Proofs.Tryz.func146, by kernel_rfl, by kernel_rfl⟩ <|
  .cons ⟨Go.Proofs.Tryz.func147, by kernel_rfl, by kernel_rfl⟩ <|
  .cons ⟨Go.Proofs.Tryz.func148, by kernel_rfl, by kernel_rfl⟩ <|
  .cons ⟨Go.Proofs.Tryz.func149, by kernel_rfl, by kernel_rfl⟩ <|
  .cons ⟨Go.Proofs.Tryz.func150, by kernel_rfl, by kernel_rfl⟩ <|
  .cons ⟨Go.Proofs.Tryz.func151, by kernel_rfl, by kernel_rfl⟩ <|
  .cons ⟨Go.Proofs.Tryz.func152, by kernel_rfl, by kernel_rfl⟩ <|
  .cons ⟨Go.Proofs.Tryz.func153, by kernel_rfl, by kernel_rfl⟩ <|
  .cons ⟨Go.Proofs.Tryz.func154, by kernel_rfl, by kernel_rfl⟩ <|
  .cons ⟨Go.Proofs.Tryz.func155, by kernel_rfl, by kernel_rfl⟩ <|
  .cons ⟨Go.Proofs.Tryz.func156, by kernel_rfl, by kernel_rfl⟩ <|
  .cons ⟨Go.Proofs.Tryz.func157, by kernel_rfl, by kernel_rfl⟩ <|
  .cons ⟨Go.Proofs.Tryz.func158, by kernel_rfl, by kernel_rfl⟩ <|
  .cons ⟨Go.Proofs.Tryz.func159, by kernel_rfl, by kernel_rfl⟩ <|
  .cons ⟨Go.Proofs.Tryz.func160, by kernel_rfl, by kernel_rfl⟩ <|
  .cons ⟨Go.Proofs.Tryz.func161, by kernel_rfl, by kernel_rfl⟩ <|
  .cons ⟨Go.Proofs.Tryz.func162, by kernel_rfl, by kernel_rfl⟩ <|
  .cons ⟨Go.Proofs.Tryz.func163, by kernel_rfl, by kernel_rfl⟩ <|
  .cons ⟨Go.Proofs.Tryz.func164, by kernel_rfl, by kernel_rfl⟩ <|
  .cons ⟨Go.Proofs.Tryz.func165, by kernel_rfl, by kernel_rfl⟩ <|
  .cons ⟨Go.Proofs.Tryz.func166, by kernel_rfl, by kernel_rfl⟩ <|
  .cons ⟨Go.Proofs.Tryz.func167, by kernel_rfl, by kernel_rfl⟩ <|
  .cons ⟨Go.Proofs.Tryz.func168, by kernel_rfl, by kernel_rfl⟩ <|
  .cons ⟨Go.Proofs.Tryz.func169, by kernel_rfl, by kernel_rfl⟩ <|
  .cons ⟨Go.Proofs.Tryz.func170, by kernel_rfl, by kernel_rfl⟩ <|
  .cons ⟨Go.Proofs.Tryz.func171, by kernel_rfl, by kernel_rfl⟩ <|
  .cons ⟨Go.Proofs.Tryz.func172, by kernel_rfl, by kernel_rfl⟩ <|
  .cons ⟨Go.Proofs.Tryz.func173, by kernel_rfl, by kernel_rfl⟩ <|
  .cons ⟨Go.Proofs.Tryz.func174, by kernel_rfl, by kernel_rfl⟩ <|
  .cons ⟨Go.Proofs.Tryz.func175, by kernel_rfl, by kernel_rfl⟩ <|
  .cons ⟨Go.Proofs.Tryz.func176, by kernel_rfl, by kernel_rfl⟩ <|
  .cons ⟨Go.Proofs.Tryz.func177, by kernel_rfl, by kernel_rfl⟩ <|
  .cons ⟨Go.Proofs.Tryz.func178, by kernel_rfl, by kernel_rfl⟩ <|
  .cons ⟨Go.Proofs.Tryz.func179, by kernel_rfl, by kernel_rfl⟩ <|
  .cons ⟨Go.Proofs.Tryz.func180, by kernel_rfl, by kernel_rfl⟩ <|
  .cons ⟨Go.Proofs.Tryz.func181, by kernel_rfl, by kernel_rfl⟩ <|
  .cons ⟨Go.Proofs.Tryz.func182, by kernel_rfl, by kernel_rfl⟩ <|
  .cons ⟨Go.Proofs.Tryz.func183, by kernel_rfl, by kernel_rfl⟩ <|
  .cons ⟨Go.Proofs.Tryz.func184, by kernel_rfl, by kernel_rfl⟩ <|
  .cons ⟨Go.Proofs.Tryz.func185, by kernel_rfl, by kernel_rfl⟩ <|
  .cons ⟨Go.Proofs.Tryz.func186, by kernel_rfl, by kernel_rfl⟩ <|
  .cons ⟨Go.Proofs.Tryz.func187, by kernel_rfl, by kernel_rfl⟩ <|
  .cons ⟨Go.Proofs.Tryz.func188, by kernel_rfl, by kernel_rfl⟩ <|
  .cons ⟨Go.Proofs.Tryz.func189, by kernel_rfl, by kernel_rfl⟩ <|
  .cons ⟨Go.Proofs.Tryz.func190, by kernel_rfl, by kernel_rfl⟩ <|
  .cons ⟨Go.Proofs.Tryz.func191, by kernel_rfl, by kernel_rfl⟩ <|
  .cons ⟨Go.Proofs.Tryz.func192, by kernel_rfl, by kernel_rfl⟩ <|
  .cons ⟨Go.Proofs.Tryz.func193, by kernel_rfl, by kernel_rfl⟩ <|
  .cons ⟨Go.Proofs.Tryz.func194, by kernel_rfl, by kernel_rfl⟩ <|
  .cons ⟨Go.Proofs.Tryz.func195, by kernel_rfl, by kernel_rfl⟩ <|
  .cons ⟨Go.Proofs.Tryz.func196, by kernel_rfl, by kernel_rfl⟩ <|
  .cons ⟨Go.Proofs.Tryz.func197, by kernel_rfl, by kernel_rfl⟩ <|
  .cons ⟨Go.Proofs.Tryz.func198, by kernel_rfl, by kernel_rfl⟩ <|
  .cons ⟨Go.Proofs.Tryz.func199, by kernel_rfl, by kernel_rfl⟩ <|
  .cons ⟨Go.Proofs.Tryz.func200, by kernel_rfl, by kernel_rfl⟩ <|
  .cons ⟨Go.Proofs.Tryz.func201, by kernel_rfl, by kernel_rfl⟩ <|
  .cons ⟨Go.Proofs.Tryz.func202, by kernel_rfl, by kernel_rfl⟩ <|
  .cons ⟨Go.Proofs.Tryz.func203, by kernel_rfl, by kernel_rfl⟩ <|
  .cons ⟨Go.Proofs.Tryz.func204, by kernel_rfl, by kernel_rfl⟩ <|
  .cons ⟨Go.Proofs.Tryz.func205, by kernel_rfl, by kernel_rfl⟩ <|
  .cons ⟨Go.Proofs.Tryz.func206, by kernel_rfl, by kernel_rfl⟩ <|
  .cons ⟨Go.Proofs.Tryz.func207, by kernel_rfl, by kernel_rfl⟩ <|
  .cons ⟨Go.Proofs.Tryz.func208, by kernel_rfl, by kernel_rfl⟩ <|
  .cons ⟨Go.Proofs.Tryz.func209, by kernel_rfl, by kernel_rfl⟩ <|
  .cons ⟨Go.Proofs.Tryz.func210, by kernel_rfl, by kernel_rfl⟩ <|
  .cons ⟨Go.Proofs.Tryz.func211, by kernel_rfl, by kernel_rfl⟩ <|
  .cons ⟨Go.Proofs.Tryz.func212, by kernel_rfl, by kernel_rfl⟩ <|
  .cons ⟨Go.Proofs.Tryz.func213, by kernel_rfl, by kernel_rfl⟩ <|
  .cons ⟨Go.Proofs.Tryz.func214, by kernel_rfl, by kernel_rfl⟩ <|
  .cons ⟨Go.Proofs.Tryz.func215, by kernel_rfl, by kernel_rfl⟩ <|
  .cons ⟨Go.Proofs.Tryz.func216, by kernel_rfl, by kernel_rfl⟩ <|
  .cons ⟨Go.Proofs.Tryz.func217, by kernel_rfl, by kernel_rfl⟩ <|
  .cons ⟨Go.Proofs.Tryz.func218, by kernel_rfl, by kernel_rfl⟩ <|
  .cons ⟨Go.Proofs.Tryz.func219, by kernel_rfl, by kernel_rfl⟩ <|
  .cons ⟨Go.Proofs.Tryz.func220, by kernel_rfl, by kernel_rfl⟩ <|
  .cons ⟨Go.Proofs.Tryz.func221, by kernel_rfl, by kernel_rfl⟩ <|
  .cons ⟨Go.Proofs.Tryz.func222, by kernel_rfl, by kernel_rfl⟩ <|
  .cons ⟨Go.Proofs.Tryz.func223, by kernel_rfl, by kernel_rfl⟩ <|
  .cons ⟨Go.Proofs.Tryz.func224, by kernel_rfl, by kernel_rfl⟩ <|
  .cons ⟨Go.Proofs.Tryz.func225, by kernel_rfl, by kernel_rfl⟩ <|
  .cons ⟨Go.Proofs.Tryz.func226, by kernel_rfl, by kernel_rfl⟩ <|
  .cons ⟨Go.Proofs.Tryz.func227, by kernel_rfl, by kernel_rfl⟩ <|
  .cons ⟨Go.Proofs.Tryz.func228, by kernel_rfl, by kernel_rfl⟩ <|
  .cons ⟨Go.Proofs.Tryz.func229, by kernel_rfl, by kernel_rfl⟩ <|
  .cons ⟨Go.Proofs.Tryz.func230, by kernel_rfl, by kernel_rfl⟩ <|
  .cons ⟨Go.Proofs.Tryz.func231, by kernel_rfl, by kernel_rfl⟩ <|
  .cons ⟨Go.Proofs.Tryz.func232, by kernel_rfl, by kernel_rfl⟩ <|
  .cons ⟨Go.Proofs.Tryz.func233, by kernel_rfl, by kernel_rfl⟩ <|
  .cons ⟨Go.Proofs.Tryz.func234, by kernel_rfl, by kernel_rfl⟩ <|
  .cons ⟨Go.Proofs.Tryz.func235, by kernel_rfl, by kernel_rfl⟩ <|
  .cons ⟨Go.Proofs.Tryz.func236, by kernel_rfl, by kernel_rfl⟩ <|
  .cons ⟨Go.Proofs.Tryz.func237, by kernel_rfl, by kernel_rfl⟩ <|
  .cons ⟨Go.Proofs.Tryz.func238, by kernel_rfl, by kernel_rfl⟩ <|
  .cons ⟨Go.Proofs.Tryz.func239, by kernel_rfl, by kernel_rfl⟩ <|
  .cons ⟨Go.Proofs.Tryz.func240, by kernel_rfl, by kernel_rfl⟩ <|
  .cons ⟨Go.Proofs.Tryz.func241, by kernel_rfl, by kernel_rfl⟩ <|
  .cons ⟨Go.Proofs.Tryz.func242, by kernel_rfl, by kernel_rfl⟩ <|
  .cons ⟨Go.Proofs.Tryz.func243, by kernel_rfl, by kernel_rfl⟩ <|
  .cons ⟨Go.Proofs.Tryz.func244, by kernel_rfl, by kernel_rfl⟩ <|
  .cons ⟨Go.Proofs.Tryz.func245, by kernel_rfl, by kernel_rfl⟩ <|
  .cons ⟨Go.Proofs.Tryz.func246, by kernel_rfl, by kernel_rfl⟩ <|
  .cons ⟨Go.Proofs.Tryz.func247, by kernel_rfl, by kernel_rfl⟩ <|
  .cons ⟨Go.Proofs.Tryz.func248, by kernel_rfl, by kernel_rfl⟩ <|
  .cons ⟨Go.Proofs.Tryz.func249, by kernel_rfl, by kernel_rfl⟩ <|
  .cons ⟨Go.Proofs.Tryz.func250, by kernel_rfl, by kernel_rfl⟩ <|
  .cons ⟨Go.Proofs.Tryz.func251, by kernel_rfl, by kernel_rfl⟩ <|
  .cons ⟨Go.Proofs.Tryz.func252, by kernel_rfl, by kernel_rfl⟩ <|
  .cons ⟨Go.Proofs.Tryz.func253, by kernel_rfl, by kernel_rfl⟩ <|
  .cons ⟨Go.Proofs.Tryz.func254, by kernel_rfl, by kernel_rfl⟩ <|
  .cons ⟨Go.Proofs.Tryz.func255, by kernel_rfl, by kernel_rfl⟩ <|
  .cons ⟨Go.Proofs.Tryz.func256, by kernel_rfl, by kernel_rfl⟩ <|
  .cons ⟨Go.Proofs.Tryz.func257, by kernel_rfl, by kernel_rfl⟩ <|
  .cons ⟨Go.Proofs.Tryz.func258, by kernel_rfl, by kernel_rfl⟩ <|
  .cons ⟨Go.Proofs.Tryz.func259, by kernel_rfl, by kernel_rfl⟩ <|
  .cons ⟨Go.Proofs.Tryz.func260, by kernel_rfl, by kernel_rfl⟩ <|
  .cons ⟨Go.Proofs.Tryz.func261, by kernel_rfl, by kernel_rfl⟩ <|
  .cons ⟨Go.Proofs.Tryz.func262, by kernel_rfl, by kernel_rfl⟩ <|
  .cons ⟨Go.Proofs.Tryz.func263, by kernel_rfl, by kernel_rfl⟩ <|
  .cons ⟨Go.Proofs.Tryz.func264, by kernel_rfl, by kernel_rfl⟩ <|
  .cons ⟨Go.Proofs.Tryz.func265, by kernel_rfl, by kernel_rfl⟩ <|
  .cons ⟨Go.Proofs.Tryz.func266, by kernel_rfl, by kernel_rfl⟩ <|
  .cons ⟨Go.Proofs.Tryz.func267, by kernel_rfl, by kernel_rfl⟩ <|
  .cons ⟨Go.Proofs.Tryz.func268, by kernel_rfl, by kernel_rfl⟩ <|
  .cons ⟨Go.Proofs.Tryz.func269, by kernel_rfl, by kernel_rfl⟩ <|
  .cons ⟨Go.Proofs.Tryz.func270, by kernel_rfl, by kernel_rfl⟩ <|
  .cons ⟨Go.Proofs.Tryz.func271, by kernel_rfl, by kernel_rfl⟩ <|
  .cons ⟨Go.Proofs.Tryz.func272, by kernel_rfl, by kernel_rfl⟩ <|
  .cons ⟨Go.Proofs.Tryz.func273, by kernel_rfl, by kernel_rfl⟩ <|
  .cons ⟨Go.Proofs.Tryz.func274, by kernel_rfl, by kernel_rfl⟩ <|
  .cons ⟨Go.Proofs.Tryz.func275, by kernel_rfl, by kernel_rfl⟩ <|
  .cons ⟨Go.Proofs.Tryz.func276, by kernel_rfl, by kernel_rfl⟩ <|
  .cons ⟨Go.Proofs.Tryz.func277, by kernel_rfl, by kernel_rfl⟩ <|
  .cons ⟨Go.Proofs.Tryz.func278, by kernel_rfl, by kernel_rfl⟩ <|
  .cons ⟨Go.Proofs.Tryz.func279, by kernel_rfl, by kernel_rfl⟩ <|
  .cons ⟨Go.Proofs.Tryz.func280, by kernel_rfl, by kernel_rfl⟩ <|
  .cons ⟨Go.Proofs.Tryz.func281, by kernel_rfl, by kernel_rfl⟩ <|
  .cons ⟨Go.Proofs.Tryz.func282, by kernel_rfl, by kernel_rfl⟩ <|
  .cons ⟨Go.Proofs.Tryz.func283, by kernel_rfl, by kernel_rfl⟩ <|
  .cons ⟨Go.Proofs.Tryz.func284, by kernel_rfl, by kernel_rfl⟩ <|
  .cons ⟨Go.Proofs.Tryz.func285, by kernel_rfl, by kernel_rfl⟩ <|
  .cons ⟨Go.Proofs.Tryz.func286, by kernel_rfl, by kernel_rfl⟩ <|
  .cons ⟨Go.Proofs.Tryz.func287, by kernel_rfl, by kernel_rfl⟩ <|
  .cons ⟨Go.Proofs.Tryz.func288, by kernel_rfl, by kernel_rfl⟩ <|
  .cons ⟨Go.Proofs.Tryz.func289, by kernel_rfl, by kernel_rfl⟩ <|
  .cons ⟨Go.Proofs.Tryz.func290, by kernel_rfl, by kernel_rfl⟩ <|
  .cons ⟨Go.Proofs.Tryz.func291, by kernel_rfl, by kernel_rfl⟩ <|
  .cons ⟨Go.Proofs.Tryz.func292, by kernel_rfl, by kernel_rfl⟩ <|
  .cons ⟨Go.Proofs.Tryz.func293, by kernel_rfl, by kernel_rfl⟩ <|
  .cons ⟨Go.Proofs.Tryz.func294, by kernel_rfl, by kernel_rfl⟩ <|
  .cons ⟨Go.Proofs.Tryz.func295, by kernel_rfl, by kernel_rfl⟩ <|
  .cons ⟨Go.Proofs.Tryz.func296, by kernel_rfl, by kernel_rfl⟩ <|
  .cons ⟨Go.Proofs.Tryz.func297, by kernel_rfl, by kernel_rfl⟩ <|
  .cons ⟨Go.Proofs.Tryz.func298, by kernel_rfl, by kernel_rfl⟩ <|
  .cons ⟨Go.Proofs.Tryz.func299, by kernel_rfl, by kernel_rfl⟩ <|
  .cons ⟨Go.Proofs.Tryz.func300, by kernel_rfl, by kernel_rfl⟩ <|
  .cons ⟨Go.Proofs.Tryz.func301, by kernel_rfl, by kernel_rfl⟩ <|
  .cons ⟨Go.Proofs.Tryz.func302, by kernel_rfl, by kernel_rfl⟩ <|
  .cons ⟨Go.Proofs.Tryz.func303, by kernel_rfl, by kernel_rfl⟩ <|
  .cons ⟨Go.Proofs.Tryz.func304, by kernel_rfl, by kernel_rfl⟩ <|
  .cons ⟨Go.Proofs.Tryz.func305, by kernel_rfl, by kernel_rfl⟩ <|
  .cons ⟨Go.Proofs.Tryz.func306, by kernel_rfl, by kernel_rfl⟩ <|
  .cons ⟨Go.Proofs.Tryz.func307, by kernel_rfl, by kernel_rfl⟩ <|
  .cons ⟨Go.Proofs.Tryz.func308, by kernel_rfl, by kernel_rfl⟩ <|
  .cons ⟨Go.Proofs.Tryz.func309, by kernel_rfl, by kernel_rfl⟩ <|
  .cons ⟨Go.Proofs.Tryz.func310, by kernel_rfl, by kernel_rfl⟩ <|
  .cons ⟨Go.Proofs.Tryz.func311, by kernel_rfl, by kernel_rfl⟩ <|
  .cons ⟨Go.Proofs.Tryz.func312, by kernel_rfl, by kernel_rfl⟩ <|
  .cons ⟨Go.Proofs.Tryz.func313, by kernel_rfl, by kernel_rfl⟩ <|
  .cons ⟨Go.Proofs.Tryz.func314, by kernel_rfl, by kernel_rfl⟩ <|
  .cons ⟨Go.Proofs.Tryz.func315, by kernel_rfl, by kernel_rfl⟩ <|
  .cons ⟨Go.Proofs.Tryz.func316, by kernel_rfl, by kernel_rfl⟩ <|
  .cons ⟨Go.Proofs.Tryz.func317, by kernel_rfl, by kernel_rfl⟩ <|
  .cons ⟨Go.Proofs.Tryz.func318, by kernel_rfl, by kernel_rfl⟩ <|
  .cons ⟨Go.Proofs.Tryz.func319, by kernel_rfl, by kernel_rfl⟩ <|
  .cons ⟨Go.Proofs.Tryz.func320, by kernel_rfl, by kernel_rfl⟩ <|
  .cons ⟨Go.Proofs.Tryz.func321, by kernel_rfl, by kernel_rfl⟩ <|
  .cons ⟨Go.Proofs.Tryz.func322, by kernel_rfl, by kernel_rfl⟩ <|
  .cons ⟨Go.Proofs.Tryz.func323, by kernel_rfl, by kernel_rfl⟩ <|
  .cons ⟨Go.Proofs.Tryz.func324, by kernel_rfl, by kernel_rfl⟩ <|
  .cons ⟨Go.Proofs.Tryz.func325, by kernel_rfl, by kernel_rfl⟩ <|
  .cons ⟨Go.Proofs.Tryz.func326, by kernel_rfl, by kernel_rfl⟩ <|
  .cons ⟨Go.Proofs.Tryz.func327, by kernel_rfl, by kernel_rfl⟩ <|
  .cons ⟨Go.Proofs.Tryz.func328, by kernel_rfl, by kernel_rfl⟩ <|
  .cons ⟨Go.Proofs.Tryz.func329, by kernel_rfl, by kernel_rfl⟩ <|
  .cons ⟨Go.Proofs.Tryz.func330, by kernel_rfl, by kernel_rfl⟩ <|
  .cons ⟨Go.Proofs.Tryz.func331, by kernel_rfl, by kernel_rfl⟩ <|
  .cons ⟨Go.Proofs.Tryz.func332, by kernel_rfl, by kernel_rfl⟩ <|
  .cons ⟨Go.Proofs.Tryz.func333, by kernel_rfl, by kernel_rfl⟩ <|
  .cons ⟨Go.Proofs.Tryz.func334, by kernel_rfl, by kernel_rfl⟩ <|
  .cons ⟨Go.Proofs.Tryz.func335, by kernel_rfl, by kernel_rfl⟩ <|
  .cons ⟨Go.Proofs.Tryz.func336, by kernel_rfl, by kernel_rfl⟩ <|
  .cons ⟨Go.Proofs.Tryz.func337, by kernel_rfl, by kernel_rfl⟩ <|
  .cons ⟨Go.Proofs.Tryz.func338, by kernel_rfl, by kernel_rfl⟩ <|
  .cons ⟨Go.Proofs.Tryz.func339, by kernel_rfl, by kernel_rfl⟩ <|
  .cons ⟨Go.Proofs.Tryz.func340, by kernel_rfl, by kernel_rfl⟩ <|
  .cons ⟨Go.Proofs.Tryz.func341, by kernel_rfl, by kernel_rfl⟩ <|
  .cons ⟨Go.Proofs.Tryz.func342, by kernel_rfl, by kernel_rfl⟩ <|
  .cons ⟨Go.Proofs.Tryz.func343, by kernel_rfl, by kernel_rfl⟩ <|
  .cons ⟨Go.Proofs.Tryz.func344, by kernel_rfl, by kernel_rfl⟩ <|
  .cons ⟨Go.Proofs.Tryz.func345, by kernel_rfl, by kernel_rfl⟩ <|
  .cons ⟨Go.Proofs.Tryz.func346, by kernel_rfl, by kernel_rfl⟩ <|
  .cons ⟨Go.Proofs.Tryz.func347, by kernel_rfl, by kernel_rfl⟩ <|
  .cons ⟨Go.Proofs.Tryz.func348, by kernel_rfl, by kernel_rfl⟩ <|
  .cons ⟨Go.Proofs.Tryz.func349, by kernel_rfl, by kernel_rfl⟩ <|
  .cons ⟨Go.Proofs.Tryz.func350, by kernel_rfl, by kernel_rfl⟩ <|
  .cons ⟨Go.Proofs.Tryz.func351, by kernel_rfl, by kernel_rfl⟩ <|
  .cons ⟨Go.Proofs.Tryz.func352, by kernel_rfl, by kernel_rfl⟩ <|
  .cons ⟨Go.Proofs.Tryz.func353, by kernel_rfl, by kernel_rfl⟩ <|
  .cons ⟨Go.Proofs.Tryz.func354, by kernel_rfl, by kernel_rfl⟩ <|
  .cons ⟨Go.Proofs.Tryz.func355, by kernel_rfl, by kernel_rfl⟩ <|
  .cons ⟨Go.Proofs.Tryz.func356, by kernel_rfl, by kernel_rfl⟩ <|
  .cons ⟨Go.Proofs.Tryz.func357, by kernel_rfl, by kernel_rfl⟩ <|
  .cons ⟨Go.Proofs.Tryz.func358, by kernel_rfl, by kernel_rfl⟩ <|
  .cons ⟨Go.Proofs.Tryz.func360, by kernel_rfl, by kernel_rfl⟩ <|
  .cons ⟨Go.Proofs.Tryz.func361, by kernel_rfl, by kernel_rfl⟩ <|
  .cons ⟨Go.Proofs.Tryz.func362, by kernel_rfl, by kernel_rfl⟩ <|
  .cons ⟨Go.Proofs.Tryz.func363, by kernel_rfl, by kernel_rfl⟩ <|
  .cons ⟨Go.Proofs.Tryz.func364, by kernel_rfl, by kernel_rfl⟩ <|
  .cons ⟨Go.Proofs.Tryz.func366, by kernel_rfl, by kernel_rfl⟩ <|
  .cons ⟨Go.Proofs.Tryz.func368, by kernel_rfl, by kernel_rfl⟩ <|
  .cons ⟨Go.Proofs.Tryz.func370, by kernel_rfl, by kernel_rfl⟩ <|
  .cons ⟨Go.Proofs.Tryz.func371, by kernel_rfl, by kernel_rfl⟩ <|
  .cons ⟨Go.Proofs.Tryz.func372, by kernel_rfl, by kernel_rfl⟩ <|
  .cons ⟨Go.Proofs.Tryz.func373, by kernel_rfl, by kernel_rfl⟩ <|
  .cons ⟨Go.Proofs.Tryz.func374, by kernel_rfl, by kernel_rfl⟩ <|
  .cons ⟨Go.Proofs.Tryz.func375, by kernel_rfl, by kernel_rfl⟩ <|
  .cons ⟨Go.Proofs.Tryz.func376, by kernel_rfl, by kernel_rfl⟩ <|
  .cons ⟨Go.Proofs.Tryz.func377, by kernel_rfl, by kernel_rfl⟩ <|
  .cons ⟨Go.Proofs.Tryz.func378, by kernel_rfl, by kernel_rfl⟩ <|
  .cons ⟨Go.Proofs.Tryz.func379, by kernel_rfl, by kernel_rfl⟩ <|
  .cons ⟨Go.Proofs.Tryz.func380, by kernel_rfl, by kernel_rfl⟩ <|
  .cons ⟨Go.Proofs.Tryz.func381, by kernel_rfl, by kernel_rfl⟩ <|
  .cons ⟨Go.Proofs.Tryz.func382, by kernel_rfl, by kernel_rfl⟩ <|
  .cons ⟨Go.Proofs.Tryz.func383, by kernel_rfl, by kernel_rfl⟩ <|
  .cons ⟨Go.Proofs.Tryz.func384, by kernel_rfl, by kernel_rfl⟩ <|
  .cons ⟨Go.Proofs.Tryz.func385, by kernel_rfl, by kernel_rfl⟩ <|
  .cons ⟨Go.Proofs.Tryz.func386, by kernel_rfl, by kernel_rfl⟩ <|
  .cons ⟨Go.Proofs.Tryz.func387, by kernel_rfl, by kernel_rfl⟩ <|
  .cons ⟨Go.Proofs.Tryz.func388, by kernel_rfl, by kernel_rfl⟩ <|
  .cons ⟨Go.Proofs.Tryz.func389, by kernel_rfl, by kernel_rfl⟩ <|
  .cons ⟨Go.Proofs.Tryz.func390, by kernel_rfl, by kernel_rfl⟩ <|
  .cons ⟨Go.Proofs.Tryz.func391, by kernel_rfl, by kernel_rfl⟩ <|
  .cons ⟨Go.Proofs.Tryz.func392, by kernel_rfl, by kernel_rfl⟩ <|
  .cons ⟨Go.Proofs.Tryz.func393, by kernel_rfl, by kernel_rfl⟩ <|
  .nil

noncomputable def tyTr : Tr TI := mkTr tyList
noncomputable def fnTr : Tr Func := mkTr fnList
noncomputable def tt : TT := fun t => tyTr.get t
noncomputable def ft : FT := fun f => fnTr.get f
theorem ttOk : TOk Go.Proofs.Tryz.prog tt := TOk.of tyOk
theorem ftOk : FOk Go.Proofs.Tryz.prog ft := FOk.of fnOk

end Go.Proofs.YtfnlfpodeoilgaaGreatDoor
