/-
  Closed facts on the types and functions of this seat's program, each computed by the kernel. Written by gen_facts.py.
-/
import Derived.Test.YtndkadphpbnpeaaRows
import Derived.Test.YtndkadphpbnpeaaZW
set_option linter.defProp false
set_option maxRecDepth 100000
namespace Go.Proofs.Ytndkadphpbnpeaa
open Go.W
theorem T.sz3 : W.szv Try.prog 3 = some 1 := by kernel_rfl
theorem T.ag3 : W.agb Try.prog 3 = some false := by kernel_rfl
theorem T.zr3 : W.zrv Try.prog 3 = some (.int .i64 0) := by kernel_rfl
theorem T.by3 : W.byv Try.prog 3 = some 8 := by kernel_rfl
theorem T.kd3 : W.kd Try.prog 3 = some .i64 := by kernel_rfl
theorem T.sz4 : W.szv Try.prog 4 = some 1 := by kernel_rfl
theorem T.ag4 : W.agb Try.prog 4 = some false := by kernel_rfl
theorem T.zr4 : W.zrv Try.prog 4 = some (.bool false) := by kernel_rfl
theorem T.by4 : W.byv Try.prog 4 = some 1 := by kernel_rfl
theorem T.tg4 : W.tag Try.prog 4 = 1 := by kernel_rfl
theorem T.sz5 : W.szv Try.prog 5 = some 1 := by kernel_rfl
theorem T.ag5 : W.agb Try.prog 5 = some false := by kernel_rfl
theorem T.zr5 : W.zrv Try.prog 5 = some (.int .u8 0) := by kernel_rfl
theorem T.by5 : W.byv Try.prog 5 = some 1 := by kernel_rfl
theorem T.kd5 : W.kd Try.prog 5 = some .u8 := by kernel_rfl
theorem T.sz22 : W.szv Try.prog 22 = some 3 := by kernel_rfl
theorem T.ag22 : W.agb Try.prog 22 = some true := by kernel_rfl
theorem T.zr22 : W.zrv Try.prog 22 = some (.agg #[.int .i64 0, .int .i64 0, .int .i64 0]) := by kernel_rfl
theorem T.by22 : W.byv Try.prog 22 = some 24 := by kernel_rfl
theorem T.fl22_0 : W.fld Try.prog 22 0 = some (0, 1, false) := by kernel_rfl
theorem T.fl22_1 : W.fld Try.prog 22 1 = some (1, 1, false) := by kernel_rfl
theorem T.fl22_2 : W.fld Try.prog 22 2 = some (2, 1, false) := by kernel_rfl
theorem T.bl22 : W.bldp Try.prog 22 = some (#[.int .i64 0, .int .i64 0, .int .i64 0], [(0, 1), (1, 1), (2, 1)]) := by kernel_rfl
theorem T.is22 : W.intStruct Try.prog 22 = true := by kernel_rfl
theorem T.fc22 : W.fieldCount Try.prog 22 = 3 := by kernel_rfl
theorem T.sz23 : W.szv Try.prog 23 = some 3 := by kernel_rfl
theorem T.ag23 : W.agb Try.prog 23 = some true := by kernel_rfl
theorem T.zr23 : W.zrv Try.prog 23 = some (.agg #[.int .i64 0, .int .i64 0, .int .i64 0]) := by kernel_rfl
theorem T.by23 : W.byv Try.prog 23 = some 24 := by kernel_rfl
theorem T.fl23_0 : W.fld Try.prog 23 0 = some (0, 1, false) := by kernel_rfl
theorem T.fl23_1 : W.fld Try.prog 23 1 = some (1, 1, false) := by kernel_rfl
theorem T.fl23_2 : W.fld Try.prog 23 2 = some (2, 1, false) := by kernel_rfl
theorem T.bl23 : W.bldp Try.prog 23 = some (#[.int .i64 0, .int .i64 0, .int .i64 0], [(0, 1), (1, 1), (2, 1)]) := by kernel_rfl
theorem T.is23 : W.intStruct Try.prog 23 = true := by kernel_rfl
theorem T.fc23 : W.fieldCount Try.prog 23 = 3 := by kernel_rfl
theorem T.sz24 : W.szv Try.prog 24 = some 1 := by kernel_rfl
theorem T.ag24 : W.agb Try.prog 24 = some false := by kernel_rfl
theorem T.zr24 : W.zrv Try.prog 24 = some (.slice none 0 0) := by kernel_rfl
theorem T.by24 : W.byv Try.prog 24 = some 24 := by kernel_rfl
theorem T.el24 : W.elt Try.prog 24 = some 45 := by kernel_rfl
theorem T.es24 : W.esz Try.prog 24 = some 3 := by kernel_rfl
theorem T.tg24 : W.tag Try.prog 24 = 3 := by kernel_rfl
theorem T.bo24 : W.sBuildSliceOk Try.prog 24 = true := by kernel_rfl
theorem T.sz25 : W.szv Try.prog 25 = some 1 := by kernel_rfl
theorem T.ag25 : W.agb Try.prog 25 = some false := by kernel_rfl
theorem T.zr25 : W.zrv Try.prog 25 = some (.slice none 0 0) := by kernel_rfl
theorem T.by25 : W.byv Try.prog 25 = some 24 := by kernel_rfl
theorem T.el25 : W.elt Try.prog 25 = some 28 := by kernel_rfl
theorem T.es25 : W.esz Try.prog 25 = some 1 := by kernel_rfl
theorem T.tg25 : W.tag Try.prog 25 = 3 := by kernel_rfl
theorem T.bo25 : W.sBuildSliceOk Try.prog 25 = true := by kernel_rfl
theorem T.sz28 : W.szv Try.prog 28 = some 1 := by kernel_rfl
theorem T.ag28 : W.agb Try.prog 28 = some false := by kernel_rfl
theorem T.zr28 : W.zrv Try.prog 28 = some (.slice none 0 0) := by kernel_rfl
theorem T.by28 : W.byv Try.prog 28 = some 24 := by kernel_rfl
theorem T.el28 : W.elt Try.prog 28 = some 3 := by kernel_rfl
theorem T.es28 : W.esz Try.prog 28 = some 1 := by kernel_rfl
theorem T.tg28 : W.tag Try.prog 28 = 3 := by kernel_rfl
theorem T.bo28 : W.sBuildSliceOk Try.prog 28 = true := by kernel_rfl
theorem T.sz29 : W.szv Try.prog 29 = some 1 := by kernel_rfl
theorem T.ag29 : W.agb Try.prog 29 = some false := by kernel_rfl
theorem T.zr29 : W.zrv Try.prog 29 = some (.slice none 0 0) := by kernel_rfl
theorem T.by29 : W.byv Try.prog 29 = some 24 := by kernel_rfl
theorem T.el29 : W.elt Try.prog 29 = some 74 := by kernel_rfl
theorem T.es29 : W.esz Try.prog 29 = some 1 := by kernel_rfl
theorem T.tg29 : W.tag Try.prog 29 = 3 := by kernel_rfl
theorem T.bo29 : W.sBuildSliceOk Try.prog 29 = true := by kernel_rfl
theorem T.sz30 : W.szv Try.prog 30 = some 5 := by kernel_rfl
theorem T.ag30 : W.agb Try.prog 30 = some true := by kernel_rfl
theorem T.zr30 : W.zrv Try.prog 30 = some (.agg #[.int .i64 0, .int .i64 0, .int .i64 0, .bool false, .slice none 0 0]) := by kernel_rfl
theorem T.by30 : W.byv Try.prog 30 = some 56 := by kernel_rfl
theorem T.fl30_0 : W.fld Try.prog 30 0 = some (0, 3, true) := by kernel_rfl
theorem T.fl30_1 : W.fld Try.prog 30 1 = some (3, 1, false) := by kernel_rfl
theorem T.fl30_2 : W.fld Try.prog 30 2 = some (4, 1, false) := by kernel_rfl
theorem T.bl30 : W.bldp Try.prog 30 = some (#[.int .i64 0, .int .i64 0, .int .i64 0, .bool false, .slice none 0 0], [(0, 3), (3, 1), (4, 1)]) := by kernel_rfl
theorem T.sz31 : W.szv Try.prog 31 = some 5 := by kernel_rfl
theorem T.ag31 : W.agb Try.prog 31 = some true := by kernel_rfl
theorem T.zr31 : W.zrv Try.prog 31 = some (.agg #[.int .i64 0, .int .i64 0, .int .i64 0, .bool false, .slice none 0 0]) := by kernel_rfl
theorem T.by31 : W.byv Try.prog 31 = some 56 := by kernel_rfl
theorem T.fl31_0 : W.fld Try.prog 31 0 = some (0, 3, true) := by kernel_rfl
theorem T.fl31_1 : W.fld Try.prog 31 1 = some (3, 1, false) := by kernel_rfl
theorem T.fl31_2 : W.fld Try.prog 31 2 = some (4, 1, false) := by kernel_rfl
theorem T.bl31 : W.bldp Try.prog 31 = some (#[.int .i64 0, .int .i64 0, .int .i64 0, .bool false, .slice none 0 0], [(0, 3), (3, 1), (4, 1)]) := by kernel_rfl
theorem T.sz32 : W.szv Try.prog 32 = some 1 := by kernel_rfl
theorem T.ag32 : W.agb Try.prog 32 = some false := by kernel_rfl
theorem T.zr32 : W.zrv Try.prog 32 = some (.slice none 0 0) := by kernel_rfl
theorem T.by32 : W.byv Try.prog 32 = some 24 := by kernel_rfl
theorem T.el32 : W.elt Try.prog 32 = some 84 := by kernel_rfl
theorem T.es32 : W.esz Try.prog 32 = some 2 := by kernel_rfl
theorem T.tg32 : W.tag Try.prog 32 = 3 := by kernel_rfl
theorem T.bo32 : W.sBuildSliceOk Try.prog 32 = true := by kernel_rfl
theorem T.sz33 : W.szv Try.prog 33 = some 5 := by kernel_rfl
theorem T.ag33 : W.agb Try.prog 33 = some true := by kernel_rfl
theorem T.zr33 : W.zrv Try.prog 33 = some (.agg #[.int .i64 0, .int .i64 0, .int .i64 0, .bool false, .slice none 0 0]) := by kernel_rfl
theorem T.by33 : W.byv Try.prog 33 = some 56 := by kernel_rfl
theorem T.fl33_0 : W.fld Try.prog 33 0 = some (0, 3, true) := by kernel_rfl
theorem T.fl33_1 : W.fld Try.prog 33 1 = some (3, 1, false) := by kernel_rfl
theorem T.fl33_2 : W.fld Try.prog 33 2 = some (4, 1, false) := by kernel_rfl
theorem T.bl33 : W.bldp Try.prog 33 = some (#[.int .i64 0, .int .i64 0, .int .i64 0, .bool false, .slice none 0 0], [(0, 3), (3, 1), (4, 1)]) := by kernel_rfl
theorem T.sz34 : W.szv Try.prog 34 = some 5 := by kernel_rfl
theorem T.ag34 : W.agb Try.prog 34 = some true := by kernel_rfl
theorem T.zr34 : W.zrv Try.prog 34 = some (.agg #[.int .i64 0, .int .i64 0, .int .i64 0, .bool false, .slice none 0 0]) := by kernel_rfl
theorem T.by34 : W.byv Try.prog 34 = some 56 := by kernel_rfl
theorem T.fl34_0 : W.fld Try.prog 34 0 = some (0, 3, true) := by kernel_rfl
theorem T.fl34_1 : W.fld Try.prog 34 1 = some (3, 1, false) := by kernel_rfl
theorem T.fl34_2 : W.fld Try.prog 34 2 = some (4, 1, false) := by kernel_rfl
theorem T.bl34 : W.bldp Try.prog 34 = some (#[.int .i64 0, .int .i64 0, .int .i64 0, .bool false, .slice none 0 0], [(0, 3), (3, 1), (4, 1)]) := by kernel_rfl
theorem T.sz37 : W.szv Try.prog 37 = some 1 := by kernel_rfl
theorem T.ag37 : W.agb Try.prog 37 = some false := by kernel_rfl
theorem T.zr37 : W.zrv Try.prog 37 = some (.int .i64 0) := by kernel_rfl
theorem T.by37 : W.byv Try.prog 37 = some 8 := by kernel_rfl
theorem T.kd37 : W.kd Try.prog 37 = some .i64 := by kernel_rfl
theorem T.sz44 : W.szv Try.prog 44 = some 3 := by kernel_rfl
theorem T.ag44 : W.agb Try.prog 44 = some true := by kernel_rfl
theorem T.zr44 : W.zrv Try.prog 44 = some (.agg #[.int .i64 0, .int .i64 0, .int .u8 0]) := by kernel_rfl
theorem T.by44 : W.byv Try.prog 44 = some 24 := by kernel_rfl
theorem T.fl44_0 : W.fld Try.prog 44 0 = some (0, 1, false) := by kernel_rfl
theorem T.fl44_1 : W.fld Try.prog 44 1 = some (1, 1, false) := by kernel_rfl
theorem T.fl44_2 : W.fld Try.prog 44 2 = some (2, 1, false) := by kernel_rfl
theorem T.bl44 : W.bldp Try.prog 44 = some (#[.int .i64 0, .int .i64 0, .int .u8 0], [(0, 1), (1, 1), (2, 1)]) := by kernel_rfl
theorem T.is44 : W.intStruct Try.prog 44 = true := by kernel_rfl
theorem T.fc44 : W.fieldCount Try.prog 44 = 3 := by kernel_rfl
theorem T.sz45 : W.szv Try.prog 45 = some 3 := by kernel_rfl
theorem T.ag45 : W.agb Try.prog 45 = some true := by kernel_rfl
theorem T.zr45 : W.zrv Try.prog 45 = some (.agg #[.int .i64 0, .int .i64 0, .int .u8 0]) := by kernel_rfl
theorem T.by45 : W.byv Try.prog 45 = some 24 := by kernel_rfl
theorem T.fl45_0 : W.fld Try.prog 45 0 = some (0, 1, false) := by kernel_rfl
theorem T.fl45_1 : W.fld Try.prog 45 1 = some (1, 1, false) := by kernel_rfl
theorem T.fl45_2 : W.fld Try.prog 45 2 = some (2, 1, false) := by kernel_rfl
theorem T.bl45 : W.bldp Try.prog 45 = some (#[.int .i64 0, .int .i64 0, .int .u8 0], [(0, 1), (1, 1), (2, 1)]) := by kernel_rfl
theorem T.is45 : W.intStruct Try.prog 45 = true := by kernel_rfl
theorem T.fc45 : W.fieldCount Try.prog 45 = 3 := by kernel_rfl
theorem T.sz49 : W.szv Try.prog 49 = some 1 := by kernel_rfl
theorem T.ag49 : W.agb Try.prog 49 = some false := by kernel_rfl
theorem T.zr49 : W.zrv Try.prog 49 = some (.pointer none) := by kernel_rfl
theorem T.by49 : W.byv Try.prog 49 = some 8 := by kernel_rfl
theorem T.tg49 : W.tag Try.prog 49 = 2 := by kernel_rfl
theorem T.sz63 : W.szv Try.prog 63 = some 1 := by kernel_rfl
theorem T.ag63 : W.agb Try.prog 63 = some false := by kernel_rfl
theorem T.zr63 : W.zrv Try.prog 63 = some (.int .u16 0) := by kernel_rfl
theorem T.by63 : W.byv Try.prog 63 = some 2 := by kernel_rfl
theorem T.kd63 : W.kd Try.prog 63 = some .u16 := by kernel_rfl
theorem T.sz66 : W.szv Try.prog 66 = some 1 := by kernel_rfl
theorem T.ag66 : W.agb Try.prog 66 = some false := by kernel_rfl
theorem T.zr66 : W.zrv Try.prog 66 = some (.slice none 0 0) := by kernel_rfl
theorem T.by66 : W.byv Try.prog 66 = some 24 := by kernel_rfl
theorem T.el66 : W.elt Try.prog 66 = some 63 := by kernel_rfl
theorem T.es66 : W.esz Try.prog 66 = some 1 := by kernel_rfl
theorem T.tg66 : W.tag Try.prog 66 = 3 := by kernel_rfl
theorem T.bo66 : W.sBuildSliceOk Try.prog 66 = true := by kernel_rfl
theorem T.sz74 : W.szv Try.prog 74 = some 1 := by kernel_rfl
theorem T.ag74 : W.agb Try.prog 74 = some false := by kernel_rfl
theorem T.zr74 : W.zrv Try.prog 74 = some (.map none) := by kernel_rfl
theorem T.by74 : W.byv Try.prog 74 = some 8 := by kernel_rfl
theorem T.me74 : W.mpe Try.prog 74 = some 3 := by kernel_rfl
theorem T.mp74 : W.isMapT Try.prog 74 = true := by kernel_rfl
theorem T.sz76 : W.szv Try.prog 76 = some 4 := by kernel_rfl
theorem T.ag76 : W.agb Try.prog 76 = some true := by kernel_rfl
theorem T.zr76 : W.zrv Try.prog 76 = some (.agg #[.int .i64 0, .int .i64 0, .int .i64 0, .slice none 0 0]) := by kernel_rfl
theorem T.by76 : W.byv Try.prog 76 = some 48 := by kernel_rfl
theorem T.fl76_0 : W.fld Try.prog 76 0 = some (0, 3, true) := by kernel_rfl
theorem T.fl76_1 : W.fld Try.prog 76 1 = some (3, 1, false) := by kernel_rfl
theorem T.bl76 : W.bldp Try.prog 76 = some (#[.int .i64 0, .int .i64 0, .int .i64 0, .slice none 0 0], [(0, 3), (3, 1)]) := by kernel_rfl
theorem T.sz77 : W.szv Try.prog 77 = some 4 := by kernel_rfl
theorem T.ag77 : W.agb Try.prog 77 = some true := by kernel_rfl
theorem T.zr77 : W.zrv Try.prog 77 = some (.agg #[.int .i64 0, .int .i64 0, .int .i64 0, .slice none 0 0]) := by kernel_rfl
theorem T.by77 : W.byv Try.prog 77 = some 48 := by kernel_rfl
theorem T.fl77_0 : W.fld Try.prog 77 0 = some (0, 3, true) := by kernel_rfl
theorem T.fl77_1 : W.fld Try.prog 77 1 = some (3, 1, false) := by kernel_rfl
theorem T.bl77 : W.bldp Try.prog 77 = some (#[.int .i64 0, .int .i64 0, .int .i64 0, .slice none 0 0], [(0, 3), (3, 1)]) := by kernel_rfl
theorem T.sz83 : W.szv Try.prog 83 = some 2 := by kernel_rfl
theorem T.ag83 : W.agb Try.prog 83 = some true := by kernel_rfl
theorem T.zr83 : W.zrv Try.prog 83 = some (.agg #[.int .i64 0, .int .i64 0]) := by kernel_rfl
theorem T.by83 : W.byv Try.prog 83 = some 16 := by kernel_rfl
theorem T.fl83_0 : W.fld Try.prog 83 0 = some (0, 1, false) := by kernel_rfl
theorem T.fl83_1 : W.fld Try.prog 83 1 = some (1, 1, false) := by kernel_rfl
theorem T.bl83 : W.bldp Try.prog 83 = some (#[.int .i64 0, .int .i64 0], [(0, 1), (1, 1)]) := by kernel_rfl
theorem T.is83 : W.intStruct Try.prog 83 = true := by kernel_rfl
theorem T.fc83 : W.fieldCount Try.prog 83 = 2 := by kernel_rfl
theorem T.sz84 : W.szv Try.prog 84 = some 2 := by kernel_rfl
theorem T.ag84 : W.agb Try.prog 84 = some true := by kernel_rfl
theorem T.zr84 : W.zrv Try.prog 84 = some (.agg #[.int .i64 0, .int .i64 0]) := by kernel_rfl
theorem T.by84 : W.byv Try.prog 84 = some 16 := by kernel_rfl
theorem T.fl84_0 : W.fld Try.prog 84 0 = some (0, 1, false) := by kernel_rfl
theorem T.fl84_1 : W.fld Try.prog 84 1 = some (1, 1, false) := by kernel_rfl
theorem T.bl84 : W.bldp Try.prog 84 = some (#[.int .i64 0, .int .i64 0], [(0, 1), (1, 1)]) := by kernel_rfl
theorem T.is84 : W.intStruct Try.prog 84 = true := by kernel_rfl
theorem T.fc84 : W.fieldCount Try.prog 84 = 2 := by kernel_rfl
theorem T.mo : Try.prog.follows .mixedOrders = true := by kernel_rfl
theorem T.en2 : W.enters Try.prog 2 = true := by kernel_rfl
theorem T.en3 : W.enters Try.prog 3 = true := by kernel_rfl
theorem T.en4 : W.enters Try.prog 4 = true := by kernel_rfl
theorem T.en5 : W.enters Try.prog 5 = true := by kernel_rfl
theorem T.en6 : W.enters Try.prog 6 = true := by kernel_rfl
theorem T.en7 : W.enters Try.prog 7 = true := by kernel_rfl
theorem T.en8 : W.enters Try.prog 8 = true := by kernel_rfl
theorem T.en9 : W.enters Try.prog 9 = true := by kernel_rfl
theorem T.en10 : W.enters Try.prog 10 = true := by kernel_rfl
theorem T.en11 : W.enters Try.prog 11 = true := by kernel_rfl
theorem T.en12 : W.enters Try.prog 12 = true := by kernel_rfl
theorem T.en13 : W.enters Try.prog 13 = true := by kernel_rfl
theorem T.en14 : W.enters Try.prog 14 = true := by kernel_rfl
theorem T.en15 : W.enters Try.prog 15 = true := by kernel_rfl
theorem T.en16 : W.enters Try.prog 16 = true := by kernel_rfl
theorem T.en17 : W.enters Try.prog 17 = true := by kernel_rfl
theorem T.en18 : W.enters Try.prog 18 = true := by kernel_rfl
theorem T.en19 : W.enters Try.prog 19 = true := by kernel_rfl
theorem T.en20 : W.enters Try.prog 20 = true := by kernel_rfl
theorem T.en21 : W.enters Try.prog 21 = true := by kernel_rfl
theorem T.en22 : W.enters Try.prog 22 = true := by kernel_rfl
theorem T.en23 : W.enters Try.prog 23 = true := by kernel_rfl
theorem T.en24 : W.enters Try.prog 24 = true := by kernel_rfl
theorem T.en25 : W.enters Try.prog 25 = true := by kernel_rfl
theorem T.en26 : W.enters Try.prog 26 = true := by kernel_rfl
theorem T.en27 : W.enters Try.prog 27 = true := by kernel_rfl
theorem T.en28 : W.enters Try.prog 28 = true := by kernel_rfl
theorem T.en29 : W.enters Try.prog 29 = true := by kernel_rfl
theorem T.en30 : W.enters Try.prog 30 = true := by kernel_rfl
theorem T.en31 : W.enters Try.prog 31 = true := by kernel_rfl
theorem T.en32 : W.enters Try.prog 32 = true := by kernel_rfl
theorem T.en33 : W.enters Try.prog 33 = true := by kernel_rfl
theorem T.en34 : W.enters Try.prog 34 = true := by kernel_rfl
theorem T.en35 : W.enters Try.prog 35 = true := by kernel_rfl
theorem T.en36 : W.enters Try.prog 36 = true := by kernel_rfl
theorem T.en37 : W.enters Try.prog 37 = true := by kernel_rfl
theorem T.en38 : W.enters Try.prog 38 = true := by kernel_rfl
theorem T.en39 : W.enters Try.prog 39 = true := by kernel_rfl
theorem T.en40 : W.enters Try.prog 40 = true := by kernel_rfl
theorem T.en41 : W.enters Try.prog 41 = true := by kernel_rfl
theorem T.en42 : W.enters Try.prog 42 = true := by kernel_rfl
theorem T.en43 : W.enters Try.prog 43 = true := by kernel_rfl
theorem T.en44 : W.enters Try.prog 44 = true := by kernel_rfl
theorem T.en45 : W.enters Try.prog 45 = true := by kernel_rfl
theorem T.en46 : W.enters Try.prog 46 = true := by kernel_rfl
theorem T.en47 : W.enters Try.prog 47 = true := by kernel_rfl
theorem T.en48 : W.enters Try.prog 48 = true := by kernel_rfl
theorem T.en49 : W.enters Try.prog 49 = true := by kernel_rfl
theorem T.en50 : W.enters Try.prog 50 = true := by kernel_rfl
theorem T.en51 : W.enters Try.prog 51 = true := by kernel_rfl
theorem T.en53 : W.enters Try.prog 53 = true := by kernel_rfl
theorem T.en54 : W.enters Try.prog 54 = true := by kernel_rfl
theorem T.en55 : W.enters Try.prog 55 = true := by kernel_rfl
theorem T.en56 : W.enters Try.prog 56 = true := by kernel_rfl
theorem T.en57 : W.enters Try.prog 57 = true := by kernel_rfl
theorem T.en58 : W.enters Try.prog 58 = true := by kernel_rfl
theorem T.en59 : W.enters Try.prog 59 = true := by kernel_rfl
theorem T.en60 : W.enters Try.prog 60 = true := by kernel_rfl
theorem T.en61 : W.enters Try.prog 61 = true := by kernel_rfl
theorem T.en62 : W.enters Try.prog 62 = true := by kernel_rfl
theorem T.en63 : W.enters Try.prog 63 = true := by kernel_rfl
theorem T.en64 : W.enters Try.prog 64 = true := by kernel_rfl
theorem T.en65 : W.enters Try.prog 65 = true := by kernel_rfl
theorem T.en66 : W.enters Try.prog 66 = true := by kernel_rfl
theorem T.en67 : W.enters Try.prog 67 = true := by kernel_rfl
theorem T.en68 : W.enters Try.prog 68 = true := by kernel_rfl
theorem T.en69 : W.enters Try.prog 69 = true := by kernel_rfl
theorem T.en70 : W.enters Try.prog 70 = true := by kernel_rfl
theorem T.en71 : W.enters Try.prog 71 = true := by kernel_rfl
theorem T.en72 : W.enters Try.prog 72 = true := by kernel_rfl
theorem T.en73 : W.enters Try.prog 73 = true := by kernel_rfl
/-- all of them -/
def T := And.intro T.sz3 (And.intro T.ag3 (And.intro T.zr3 (And.intro T.by3 (And.intro T.kd3 (And.intro T.sz4 (And.intro T.ag4 (And.intro T.zr4 (And.intro T.by4 (And.intro T.tg4 (And.intro T.sz5 (And.intro T.ag5 (And.intro T.zr5 (And.intro T.by5 (And.intro T.kd5 (And.intro T.sz22 (And.intro T.ag22 (And.intro T.zr22 (And.intro T.by22 (And.intro T.fl22_0 (And.intro T.fl22_1 (And.intro T.fl22_2 (And.intro T.bl22 (And.intro T.is22 (And.intro T.fc22 (And.intro T.sz23 (And.intro T.ag23 (And.intro T.zr23 (And.intro T.by23 (And.intro T.fl23_0 (And.intro T.fl23_1 (And.intro T.fl23_2 (And.intro T.bl23 (And.intro T.is23 (And.intro T.fc23 (And.intro T.sz24 (And.intro T.ag24 (And.intro T.zr24 (And.intro T.by24 (And.intro T.el24 (And.intro T.es24 (And.intro T.tg24 (And.intro T.bo24 (And.intro T.sz25 (And.intro T.ag25 (And.intro T.zr25 (And.intro T.by25 (And.intro T.el25 (And.intro T.es25 (And.intro T.tg25 (And.intro T.bo25 (And.intro T.sz28 (And.intro T.ag28 (And.intro T.zr28 (And.intro T.by28 (And.intro T.el28 (And.intro T.es28 (And.intro T.tg28 (And.intro T.bo28 (And.intro T.sz29 (And.intro T.ag29 (And.intro T.zr29 (And.intro T.by29 (And.intro T.el29 (And.intro T.es29 (And.intro T.tg29 (And.intro T.bo29 (And.intro T.sz30 (And.intro T.ag30 (And.intro T.zr30 (And.intro T.by30 (And.intro T.fl30_0 (And.intro T.fl30_1 (And.intro T.fl30_2 (And.intro T.bl30 (And.intro T.sz31 (And.intro T.ag31 (And.intro T.zr31 (And.intro T.by31 (And.intro T.fl31_0 (And.intro T.fl31_1 (And.intro T.fl31_2 (And.intro T.bl31 (And.intro T.sz32 (And.intro T.ag32 (And.intro T.zr32 (And.intro T.by32 (And.intro T.el32 (And.intro T.es32 (And.intro T.tg32 (And.intro T.bo32 (And.intro T.sz33 (And.intro T.ag33 (And.intro T.zr33 (And.intro T.by33 (And.intro T.fl33_0 (And.intro T.fl33_1 (And.intro T.fl33_2 (And.intro T.bl33 (And.intro T.sz34 (And.intro T.ag34 (And.intro T.zr34 (And.intro T.by34 (And.intro T.fl34_0 (And.intro T.fl34_1 (And.intro T.fl34_2 (And.intro T.bl34 (And.intro T.sz37 (And.intro T.ag37 (And.intro T.zr37 (And.intro T.by37 (And.intro T.kd37 (And.intro T.sz44 (And.intro T.ag44 (And.intro T.zr44 (And.intro T.by44 (And.intro T.fl44_0 (And.intro T.fl44_1 (And.intro T.fl44_2 (And.intro T.bl44 (And.intro T.is44 (And.intro T.fc44 (And.intro T.sz45 (And.intro T.ag45 (And.intro T.zr45 (And.intro T.by45 (And.intro T.fl45_0 (And.intro T.fl45_1 (And.intro T.fl45_2 (And.intro T.bl45 (And.intro T.is45 (And.intro T.fc45 (And.intro T.sz49 (And.intro T.ag49 (And.intro T.zr49 (And.intro T.by49 (And.intro T.tg49 (And.intro T.sz63 (And.intro T.ag63 (And.intro T.zr63 (And.intro T.by63 (And.intro T.kd63 (And.intro T.sz66 (And.intro T.ag66 (And.intro T.zr66 (And.intro T.by66 (And.intro T.el66 (And.intro T.es66 (And.intro T.tg66 (And.intro T.bo66 (And.intro T.sz74 (And.intro T.ag74 (And.intro T.zr74 (And.intro T.by74 (And.intro T.mp74 (And.intro T.sz76 (And.intro T.ag76 (And.intro T.zr76 (And.intro T.by76 (And.intro T.fl76_0 (And.intro T.fl76_1 (And.intro T.bl76 (And.intro T.sz77 (And.intro T.ag77 (And.intro T.zr77 (And.intro T.by77 (And.intro T.fl77_0 (And.intro T.fl77_1 (And.intro T.bl77 (And.intro T.sz83 (And.intro T.ag83 (And.intro T.zr83 (And.intro T.by83 (And.intro T.fl83_0 (And.intro T.fl83_1 (And.intro T.bl83 (And.intro T.is83 (And.intro T.fc83 (And.intro T.sz84 (And.intro T.ag84 (And.intro T.zr84 (And.intro T.by84 (And.intro T.fl84_0 (And.intro T.fl84_1 (And.intro T.bl84 (And.intro T.is84 (And.intro T.fc84 (T.mo)))))))))))))))))))))))))))))))))))))))))))))))))))))))))))))))))))))))))))))))))))))))))))))))))))))))))))))))))))))))))))))))))))))))))))))))))))))))))))))))))))))))))))))))))))))))))))
end Go.Proofs.Ytndkadphpbnpeaa
