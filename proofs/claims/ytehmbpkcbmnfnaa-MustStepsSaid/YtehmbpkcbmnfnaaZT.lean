/-
  Closed facts on the types and functions of this seat's program, each computed by the kernel. Written by gen_facts.py.
-/
import Derived.Test.YtehmbpkcbmnfnaaRows
import Derived.Test.YtehmbpkcbmnfnaaZW
set_option linter.defProp false
set_option maxRecDepth 100000
namespace Go.Proofs.Ytehmbpkcbmnfnaa
open Go.W
theorem T.sz3 : W.szv Try.prog 3 = some 1 := by kernel_rfl
theorem T.ag3 : W.agb Try.prog 3 = some false := by kernel_rfl
theorem T.zr3 : W.zrv Try.prog 3 = some (.int .i64 0) := by kernel_rfl
theorem T.by3 : W.byv Try.prog 3 = some 8 := by kernel_rfl
theorem T.kd3 : W.kd Try.prog 3 = some .i64 := by kernel_rfl
theorem T.sz4 : W.szv Try.prog 4 = some 1 := by kernel_rfl
theorem T.ag4 : W.agb Try.prog 4 = some false := by kernel_rfl
theorem T.zr4 : W.zrv Try.prog 4 = some (.bool false) := by kernel_rfl
theorem T.by4 : W.byv Try.prog 4 = some 1 := by kernel_rfl
theorem T.tg4 : W.tag Try.prog 4 = 1 := by kernel_rfl
theorem T.sz5 : W.szv Try.prog 5 = some 1 := by kernel_rfl
theorem T.ag5 : W.agb Try.prog 5 = some false := by kernel_rfl
theorem T.zr5 : W.zrv Try.prog 5 = some (.int .u8 0) := by kernel_rfl
theorem T.by5 : W.byv Try.prog 5 = some 1 := by kernel_rfl
theorem T.kd5 : W.kd Try.prog 5 = some .u8 := by kernel_rfl
theorem T.sz22 : W.szv Try.prog 22 = some 3 := by kernel_rfl
theorem T.ag22 : W.agb Try.prog 22 = some true := by kernel_rfl
theorem T.zr22 : W.zrv Try.prog 22 = some (.agg #[.int .i64 0, .int .i64 0, .int .i64 0]) := by kernel_rfl
theorem T.by22 : W.byv Try.prog 22 = some 24 := by kernel_rfl
theorem T.fl22_0 : W.fld Try.prog 22 0 = some (0, 1, false) := by kernel_rfl
theorem T.fl22_1 : W.fld Try.prog 22 1 = some (1, 1, false) := by kernel_rfl
theorem T.fl22_2 : W.fld Try.prog 22 2 = some (2, 1, false) := by kernel_rfl
theorem T.bl22 : W.bldp Try.prog 22 = some (#[.int .i64 0, .int .i64 0, .int .i64 0], [(0, 1), (1, 1), (2, 1)]) := by kernel_rfl
theorem T.is22 : W.intStruct Try.prog 22 = true := by kernel_rfl
theorem T.fc22 : W.fieldCount Try.prog 22 = 3 := by kernel_rfl
theorem T.sz23 : W.szv Try.prog 23 = some 3 := by kernel_rfl
theorem T.ag23 : W.agb Try.prog 23 = some true := by kernel_rfl
theorem T.zr23 : W.zrv Try.prog 23 = some (.agg #[.int .i64 0, .int .i64 0, .int .i64 0]) := by kernel_rfl
theorem T.by23 : W.byv Try.prog 23 = some 24 := by kernel_rfl
theorem T.fl23_0 : W.fld Try.prog 23 0 = some (0, 1, false) := by kernel_rfl
theorem T.fl23_1 : W.fld Try.prog 23 1 = some (1, 1, false) := by kernel_rfl
theorem T.fl23_2 : W.fld Try.prog 23 2 = some (2, 1, false) := by kernel_rfl
theorem T.bl23 : W.bldp Try.prog 23 = some (#[.int .i64 0, .int .i64 0, .int .i64 0], [(0, 1), (1, 1), (2, 1)]) := by kernel_rfl
theorem T.is23 : W.intStruct Try.prog 23 = true := by kernel_rfl
theorem T.fc23 : W.fieldCount Try.prog 23 = 3 := by kernel_rfl
theorem T.sz24 : W.szv Try.prog 24 = some 1 := by kernel_rfl
theorem T.ag24 : W.agb Try.prog 24 = some false := by kernel_rfl
theorem T.zr24 : W.zrv Try.prog 24 = some (.slice none 0 0) := by kernel_rfl
theorem T.by24 : W.byv Try.prog 24 = some 24 := by kernel_rfl
theorem T.el24 : W.elt Try.prog 24 = some 36 := by kernel_rfl
theorem T.es24 : W.esz Try.prog 24 = some 3 := by kernel_rfl
theorem T.tg24 : W.tag Try.prog 24 = 3 := by kernel_rfl
theorem T.bo24 : W.sBuildSliceOk Try.prog 24 = true := by kernel_rfl
theorem T.sz26 : W.szv Try.prog 26 = some 1 := by kernel_rfl
theorem T.ag26 : W.agb Try.prog 26 = some false := by kernel_rfl
theorem T.zr26 : W.zrv Try.prog 26 = some (.slice none 0 0) := by kernel_rfl
theorem T.by26 : W.byv Try.prog 26 = some 24 := by kernel_rfl
theorem T.el26 : W.elt Try.prog 26 = some 76 := by kernel_rfl
theorem T.es26 : W.esz Try.prog 26 = some 1 := by kernel_rfl
theorem T.tg26 : W.tag Try.prog 26 = 3 := by kernel_rfl
theorem T.bo26 : W.sBuildSliceOk Try.prog 26 = true := by kernel_rfl
theorem T.sz27 : W.szv Try.prog 27 = some 4 := by kernel_rfl
theorem T.ag27 : W.agb Try.prog 27 = some true := by kernel_rfl
theorem T.zr27 : W.zrv Try.prog 27 = some (.agg #[.int .i64 0, .int .i64 0, .int .i64 0, .slice none 0 0]) := by kernel_rfl
theorem T.by27 : W.byv Try.prog 27 = some 48 := by kernel_rfl
theorem T.fl27_0 : W.fld Try.prog 27 0 = some (0, 3, true) := by kernel_rfl
theorem T.fl27_1 : W.fld Try.prog 27 1 = some (3, 1, false) := by kernel_rfl
theorem T.bl27 : W.bldp Try.prog 27 = some (#[.int .i64 0, .int .i64 0, .int .i64 0, .slice none 0 0], [(0, 3), (3, 1)]) := by kernel_rfl
theorem T.sz28 : W.szv Try.prog 28 = some 4 := by kernel_rfl
theorem T.ag28 : W.agb Try.prog 28 = some true := by kernel_rfl
theorem T.zr28 : W.zrv Try.prog 28 = some (.agg #[.int .i64 0, .int .i64 0, .int .i64 0, .slice none 0 0]) := by kernel_rfl
theorem T.by28 : W.byv Try.prog 28 = some 48 := by kernel_rfl
theorem T.fl28_0 : W.fld Try.prog 28 0 = some (0, 3, true) := by kernel_rfl
theorem T.fl28_1 : W.fld Try.prog 28 1 = some (3, 1, false) := by kernel_rfl
theorem T.bl28 : W.bldp Try.prog 28 = some (#[.int .i64 0, .int .i64 0, .int .i64 0, .slice none 0 0], [(0, 3), (3, 1)]) := by kernel_rfl
theorem T.sz29 : W.szv Try.prog 29 = some 1 := by kernel_rfl
theorem T.ag29 : W.agb Try.prog 29 = some false := by kernel_rfl
theorem T.zr29 : W.zrv Try.prog 29 = some (.int .i64 0) := by kernel_rfl
theorem T.by29 : W.byv Try.prog 29 = some 8 := by kernel_rfl
theorem T.kd29 : W.kd Try.prog 29 = some .i64 := by kernel_rfl
theorem T.sz34 : W.szv Try.prog 34 = some 1 := by kernel_rfl
theorem T.ag34 : W.agb Try.prog 34 = some false := by kernel_rfl
theorem T.zr34 : W.zrv Try.prog 34 = some (.slice none 0 0) := by kernel_rfl
theorem T.by34 : W.byv Try.prog 34 = some 24 := by kernel_rfl
theorem T.el34 : W.elt Try.prog 34 = some 55 := by kernel_rfl
theorem T.es34 : W.esz Try.prog 34 = some 2 := by kernel_rfl
theorem T.tg34 : W.tag Try.prog 34 = 3 := by kernel_rfl
theorem T.bo34 : W.sBuildSliceOk Try.prog 34 = true := by kernel_rfl
theorem T.sz35 : W.szv Try.prog 35 = some 3 := by kernel_rfl
theorem T.ag35 : W.agb Try.prog 35 = some true := by kernel_rfl
theorem T.zr35 : W.zrv Try.prog 35 = some (.agg #[.int .i64 0, .int .i64 0, .int .u8 0]) := by kernel_rfl
theorem T.by35 : W.byv Try.prog 35 = some 24 := by kernel_rfl
theorem T.fl35_0 : W.fld Try.prog 35 0 = some (0, 1, false) := by kernel_rfl
theorem T.fl35_1 : W.fld Try.prog 35 1 = some (1, 1, false) := by kernel_rfl
theorem T.fl35_2 : W.fld Try.prog 35 2 = some (2, 1, false) := by kernel_rfl
theorem T.bl35 : W.bldp Try.prog 35 = some (#[.int .i64 0, .int .i64 0, .int .u8 0], [(0, 1), (1, 1), (2, 1)]) := by kernel_rfl
theorem T.is35 : W.intStruct Try.prog 35 = true := by kernel_rfl
theorem T.fc35 : W.fieldCount Try.prog 35 = 3 := by kernel_rfl
theorem T.sz36 : W.szv Try.prog 36 = some 3 := by kernel_rfl
theorem T.ag36 : W.agb Try.prog 36 = some true := by kernel_rfl
theorem T.zr36 : W.zrv Try.prog 36 = some (.agg #[.int .i64 0, .int .i64 0, .int .u8 0]) := by kernel_rfl
theorem T.by36 : W.byv Try.prog 36 = some 24 := by kernel_rfl
theorem T.fl36_0 : W.fld Try.prog 36 0 = some (0, 1, false) := by kernel_rfl
theorem T.fl36_1 : W.fld Try.prog 36 1 = some (1, 1, false) := by kernel_rfl
theorem T.fl36_2 : W.fld Try.prog 36 2 = some (2, 1, false) := by kernel_rfl
theorem T.bl36 : W.bldp Try.prog 36 = some (#[.int .i64 0, .int .i64 0, .int .u8 0], [(0, 1), (1, 1), (2, 1)]) := by kernel_rfl
theorem T.is36 : W.intStruct Try.prog 36 = true := by kernel_rfl
theorem T.fc36 : W.fieldCount Try.prog 36 = 3 := by kernel_rfl
theorem T.sz47 : W.szv Try.prog 47 = some 1 := by kernel_rfl
theorem T.ag47 : W.agb Try.prog 47 = some false := by kernel_rfl
theorem T.zr47 : W.zrv Try.prog 47 = some (.slice none 0 0) := by kernel_rfl
theorem T.by47 : W.byv Try.prog 47 = some 24 := by kernel_rfl
theorem T.el47 : W.elt Try.prog 47 = some 3 := by kernel_rfl
theorem T.es47 : W.esz Try.prog 47 = some 1 := by kernel_rfl
theorem T.tg47 : W.tag Try.prog 47 = 3 := by kernel_rfl
theorem T.bo47 : W.sBuildSliceOk Try.prog 47 = true := by kernel_rfl
theorem T.sz53 : W.szv Try.prog 53 = some 1 := by kernel_rfl
theorem T.ag53 : W.agb Try.prog 53 = some false := by kernel_rfl
theorem T.zr53 : W.zrv Try.prog 53 = some (.slice none 0 0) := by kernel_rfl
theorem T.by53 : W.byv Try.prog 53 = some 24 := by kernel_rfl
theorem T.el53 : W.elt Try.prog 53 = some 47 := by kernel_rfl
theorem T.es53 : W.esz Try.prog 53 = some 1 := by kernel_rfl
theorem T.tg53 : W.tag Try.prog 53 = 3 := by kernel_rfl
theorem T.bo53 : W.sBuildSliceOk Try.prog 53 = true := by kernel_rfl
theorem T.sz54 : W.szv Try.prog 54 = some 2 := by kernel_rfl
theorem T.ag54 : W.agb Try.prog 54 = some true := by kernel_rfl
theorem T.zr54 : W.zrv Try.prog 54 = some (.agg #[.int .i64 0, .int .i64 0]) := by kernel_rfl
theorem T.by54 : W.byv Try.prog 54 = some 16 := by kernel_rfl
theorem T.fl54_0 : W.fld Try.prog 54 0 = some (0, 1, false) := by kernel_rfl
theorem T.fl54_1 : W.fld Try.prog 54 1 = some (1, 1, false) := by kernel_rfl
theorem T.bl54 : W.bldp Try.prog 54 = some (#[.int .i64 0, .int .i64 0], [(0, 1), (1, 1)]) := by kernel_rfl
theorem T.is54 : W.intStruct Try.prog 54 = true := by kernel_rfl
theorem T.fc54 : W.fieldCount Try.prog 54 = 2 := by kernel_rfl
theorem T.sz55 : W.szv Try.prog 55 = some 2 := by kernel_rfl
theorem T.ag55 : W.agb Try.prog 55 = some true := by kernel_rfl
theorem T.zr55 : W.zrv Try.prog 55 = some (.agg #[.int .i64 0, .int .i64 0]) := by kernel_rfl
theorem T.by55 : W.byv Try.prog 55 = some 16 := by kernel_rfl
theorem T.fl55_0 : W.fld Try.prog 55 0 = some (0, 1, false) := by kernel_rfl
theorem T.fl55_1 : W.fld Try.prog 55 1 = some (1, 1, false) := by kernel_rfl
theorem T.bl55 : W.bldp Try.prog 55 = some (#[.int .i64 0, .int .i64 0], [(0, 1), (1, 1)]) := by kernel_rfl
theorem T.is55 : W.intStruct Try.prog 55 = true := by kernel_rfl
theorem T.fc55 : W.fieldCount Try.prog 55 = 2 := by kernel_rfl
theorem T.sz63 : W.szv Try.prog 63 = some 1 := by kernel_rfl
theorem T.ag63 : W.agb Try.prog 63 = some false := by kernel_rfl
theorem T.zr63 : W.zrv Try.prog 63 = some (.slice none 0 0) := by kernel_rfl
theorem T.by63 : W.byv Try.prog 63 = some 24 := by kernel_rfl
theorem T.el63 : W.elt Try.prog 63 = some 5 := by kernel_rfl
theorem T.es63 : W.esz Try.prog 63 = some 1 := by kernel_rfl
theorem T.tg63 : W.tag Try.prog 63 = 3 := by kernel_rfl
theorem T.bo63 : W.sBuildSliceOk Try.prog 63 = true := by kernel_rfl
theorem T.sz64 : W.szv Try.prog 64 = some 1 := by kernel_rfl
theorem T.ag64 : W.agb Try.prog 64 = some false := by kernel_rfl
theorem T.zr64 : W.zrv Try.prog 64 = some (.pointer none) := by kernel_rfl
theorem T.by64 : W.byv Try.prog 64 = some 8 := by kernel_rfl
theorem T.tg64 : W.tag Try.prog 64 = 2 := by kernel_rfl
theorem T.sz76 : W.szv Try.prog 76 = some 1 := by kernel_rfl
theorem T.ag76 : W.agb Try.prog 76 = some false := by kernel_rfl
theorem T.zr76 : W.zrv Try.prog 76 = some (.map none) := by kernel_rfl
theorem T.by76 : W.byv Try.prog 76 = some 8 := by kernel_rfl
theorem T.me76 : W.mpe Try.prog 76 = some 3 := by kernel_rfl
theorem T.mp76 : W.isMapT Try.prog 76 = true := by kernel_rfl
theorem T.sz82 : W.szv Try.prog 82 = some 4 := by kernel_rfl
theorem T.ag82 : W.agb Try.prog 82 = some true := by kernel_rfl
theorem T.zr82 : W.zrv Try.prog 82 = some (.agg #[.int .i64 0, .int .i64 0, .int .i64 0, .slice none 0 0]) := by kernel_rfl
theorem T.by82 : W.byv Try.prog 82 = some 48 := by kernel_rfl
theorem T.fl82_0 : W.fld Try.prog 82 0 = some (0, 3, true) := by kernel_rfl
theorem T.fl82_1 : W.fld Try.prog 82 1 = some (3, 1, false) := by kernel_rfl
theorem T.bl82 : W.bldp Try.prog 82 = some (#[.int .i64 0, .int .i64 0, .int .i64 0, .slice none 0 0], [(0, 3), (3, 1)]) := by kernel_rfl
theorem T.sz83 : W.szv Try.prog 83 = some 4 := by kernel_rfl
theorem T.ag83 : W.agb Try.prog 83 = some true := by kernel_rfl
theorem T.zr83 : W.zrv Try.prog 83 = some (.agg #[.int .i64 0, .int .i64 0, .int .i64 0, .slice none 0 0]) := by kernel_rfl
theorem T.by83 : W.byv Try.prog 83 = some 48 := by kernel_rfl
theorem T.fl83_0 : W.fld Try.prog 83 0 = some (0, 3, true) := by kernel_rfl
theorem T.fl83_1 : W.fld Try.prog 83 1 = some (3, 1, false) := by kernel_rfl
theorem T.bl83 : W.bldp Try.prog 83 = some (#[.int .i64 0, .int .i64 0, .int .i64 0, .slice none 0 0], [(0, 3), (3, 1)]) := by kernel_rfl
theorem T.mo : Try.prog.follows .mixedOrders = true := by kernel_rfl
theorem T.en2 : W.enters Try.prog 2 = true := by kernel_rfl
theorem T.en3 : W.enters Try.prog 3 = true := by kernel_rfl
theorem T.en4 : W.enters Try.prog 4 = true := by kernel_rfl
theorem T.en5 : W.enters Try.prog 5 = true := by kernel_rfl
theorem T.en6 : W.enters Try.prog 6 = true := by kernel_rfl
theorem T.en7 : W.enters Try.prog 7 = true := by kernel_rfl
theorem T.en8 : W.enters Try.prog 8 = true := by kernel_rfl
theorem T.en9 : W.enters Try.prog 9 = true := by kernel_rfl
theorem T.en10 : W.enters Try.prog 10 = true := by kernel_rfl
theorem T.en11 : W.enters Try.prog 11 = true := by kernel_rfl
theorem T.en12 : W.enters Try.prog 12 = true := by kernel_rfl
theorem T.en13 : W.enters Try.prog 13 = true := by kernel_rfl
theorem T.en14 : W.enters Try.prog 14 = true := by kernel_rfl
theorem T.en15 : W.enters Try.prog 15 = true := by kernel_rfl
theorem T.en16 : W.enters Try.prog 16 = true := by kernel_rfl
theorem T.en17 : W.enters Try.prog 17 = true := by kernel_rfl
theorem T.en18 : W.enters Try.prog 18 = true := by kernel_rfl
theorem T.en19 : W.enters Try.prog 19 = true := by kernel_rfl
theorem T.en20 : W.enters Try.prog 20 = true := by kernel_rfl
theorem T.en21 : W.enters Try.prog 21 = true := by kernel_rfl
theorem T.en22 : W.enters Try.prog 22 = true := by kernel_rfl
theorem T.en23 : W.enters Try.prog 23 = true := by kernel_rfl
theorem T.en24 : W.enters Try.prog 24 = true := by kernel_rfl
theorem T.en25 : W.enters Try.prog 25 = true := by kernel_rfl
theorem T.en26 : W.enters Try.prog 26 = true := by kernel_rfl
theorem T.en27 : W.enters Try.prog 27 = true := by kernel_rfl
theorem T.en28 : W.enters Try.prog 28 = true := by kernel_rfl
theorem T.en29 : W.enters Try.prog 29 = true := by kernel_rfl
theorem T.en30 : W.enters Try.prog 30 = true := by kernel_rfl
theorem T.en31 : W.enters Try.prog 31 = true := by kernel_rfl
theorem T.en32 : W.enters Try.prog 32 = true := by kernel_rfl
theorem T.en33 : W.enters Try.prog 33 = true := by kernel_rfl
theorem T.en34 : W.enters Try.prog 34 = true := by kernel_rfl
theorem T.en35 : W.enters Try.prog 35 = true := by kernel_rfl
theorem T.en36 : W.enters Try.prog 36 = true := by kernel_rfl
theorem T.en37 : W.enters Try.prog 37 = true := by kernel_rfl
theorem T.en38 : W.enters Try.prog 38 = true := by kernel_rfl
theorem T.en39 : W.enters Try.prog 39 = true := by kernel_rfl
theorem T.en40 : W.enters Try.prog 40 = true := by kernel_rfl
theorem T.en41 : W.enters Try.prog 41 = true := by kernel_rfl
theorem T.en42 : W.enters Try.prog 42 = true := by kernel_rfl
theorem T.en43 : W.enters Try.prog 43 = true := by kernel_rfl
theorem T.en44 : W.enters Try.prog 44 = true := by kernel_rfl
theorem T.en45 : W.enters Try.prog 45 = true := by kernel_rfl
theorem T.en46 : W.enters Try.prog 46 = true := by kernel_rfl
theorem T.en47 : W.enters Try.prog 47 = true := by kernel_rfl
theorem T.en48 : W.enters Try.prog 48 = true := by kernel_rfl
theorem T.en49 : W.enters Try.prog 49 = true := by kernel_rfl
theorem T.en50 : W.enters Try.prog 50 = true := by kernel_rfl
theorem T.en51 : W.enters Try.prog 51 = true := by kernel_rfl
theorem T.en52 : W.enters Try.prog 52 = true := by kernel_rfl
theorem T.en54 : W.enters Try.prog 54 = true := by kernel_rfl
theorem T.en55 : W.enters Try.prog 55 = true := by kernel_rfl
theorem T.en56 : W.enters Try.prog 56 = true := by kernel_rfl
theorem T.en57 : W.enters Try.prog 57 = true := by kernel_rfl
theorem T.en58 : W.enters Try.prog 58 = true := by kernel_rfl
theorem T.en59 : W.enters Try.prog 59 = true := by kernel_rfl
theorem T.en60 : W.enters Try.prog 60 = true := by kernel_rfl
theorem T.en61 : W.enters Try.prog 61 = true := by kernel_rfl
theorem T.en62 : W.enters Try.prog 62 = true := by kernel_rfl
theorem T.en63 : W.enters Try.prog 63 = true := by kernel_rfl
theorem T.en64 : W.enters Try.prog 64 = true := by kernel_rfl
theorem T.en65 : W.enters Try.prog 65 = true := by kernel_rfl
theorem T.en66 : W.enters Try.prog 66 = true := by kernel_rfl
theorem T.en67 : W.enters Try.prog 67 = true := by kernel_rfl
theorem T.en68 : W.enters Try.prog 68 = true := by kernel_rfl
theorem T.en69 : W.enters Try.prog 69 = true := by kernel_rfl
theorem T.en70 : W.enters Try.prog 70 = true := by kernel_rfl
theorem T.en71 : W.enters Try.prog 71 = true := by kernel_rfl
theorem T.en72 : W.enters Try.prog 72 = true := by kernel_rfl
theorem T.en73 : W.enters Try.prog 73 = true := by kernel_rfl
theorem T.en74 : W.enters Try.prog 74 = true := by kernel_rfl
/-- all of them -/
def T := And.intro T.sz3 (And.intro T.ag3 (And.intro T.zr3 (And.intro T.by3 (And.intro T.kd3 (And.intro T.sz4 (And.intro T.ag4 (And.intro T.zr4 (And.intro T.by4 (And.intro T.tg4 (And.intro T.sz5 (And.intro T.ag5 (And.intro T.zr5 (And.intro T.by5 (And.intro T.kd5 (And.intro T.sz22 (And.intro T.ag22 (And.intro T.zr22 (And.intro T.by22 (And.intro T.fl22_0 (And.intro T.fl22_1 (And.intro T.fl22_2 (And.intro T.bl22 (And.intro T.is22 (And.intro T.fc22 (And.intro T.sz23 (And.intro T.ag23 (And.intro T.zr23 (And.intro T.by23 (And.intro T.fl23_0 (And.intro T.fl23_1 (And.intro T.fl23_2 (And.intro T.bl23 (And.intro T.is23 (And.intro T.fc23 (And.intro T.sz24 (And.intro T.ag24 (And.intro T.zr24 (And.intro T.by24 (And.intro T.el24 (And.intro T.es24 (And.intro T.tg24 (And.intro T.bo24 (And.intro T.sz26 (And.intro T.ag26 (And.intro T.zr26 (And.intro T.by26 (And.intro T.el26 (And.intro T.es26 (And.intro T.tg26 (And.intro T.bo26 (And.intro T.sz27 (And.intro T.ag27 (And.intro T.zr27 (And.intro T.by27 (And.intro T.fl27_0 (And.intro T.fl27_1 (And.intro T.bl27 (And.intro T.sz28 (And.intro T.ag28 (And.intro T.zr28 (And.intro T.by28 (And.intro T.fl28_0 (And.intro T.fl28_1 (And.intro T.bl28 (And.intro T.sz29 (And.intro T.ag29 (And.intro T.zr29 (And.intro T.by29 (And.intro T.kd29 (And.intro T.sz34 (And.intro T.ag34 (And.intro T.zr34 (And.intro T.by34 (And.intro T.el34 (And.intro T.es34 (And.intro T.tg34 (And.intro T.bo34 (And.intro T.sz35 (And.intro T.ag35 (And.intro T.zr35 (And.intro T.by35 (And.intro T.fl35_0 (And.intro T.fl35_1 (And.intro T.fl35_2 (And.intro T.bl35 (And.intro T.is35 (And.intro T.fc35 (And.intro T.sz36 (And.intro T.ag36 (And.intro T.zr36 (And.intro T.by36 (And.intro T.fl36_0 (And.intro T.fl36_1 (And.intro T.fl36_2 (And.intro T.bl36 (And.intro T.is36 (And.intro T.fc36 (And.intro T.sz47 (And.intro T.ag47 (And.intro T.zr47 (And.intro T.by47 (And.intro T.el47 (And.intro T.es47 (And.intro T.tg47 (And.intro T.bo47 (And.intro T.sz53 (And.intro T.ag53 (And.intro T.zr53 (And.intro T.by53 (And.intro T.el53 (And.intro T.es53 (And.intro T.tg53 (And.intro T.bo53 (And.intro T.sz54 (And.intro T.ag54 (And.intro T.zr54 (And.intro T.by54 (And.intro T.fl54_0 (And.intro T.fl54_1 (And.intro T.bl54 (And.intro T.is54 (And.intro T.fc54 (And.intro T.sz55 (And.intro T.ag55 (And.intro T.zr55 (And.intro T.by55 (And.intro T.fl55_0 (And.intro T.fl55_1 (And.intro T.bl55 (And.intro T.is55 (And.intro T.fc55 (And.intro T.sz63 (And.intro T.ag63 (And.intro T.zr63 (And.intro T.by63 (And.intro T.el63 (And.intro T.es63 (And.intro T.tg63 (And.intro T.bo63 (And.intro T.sz64 (And.intro T.ag64 (And.intro T.zr64 (And.intro T.by64 (And.intro T.tg64 (And.intro T.sz76 (And.intro T.ag76 (And.intro T.zr76 (And.intro T.by76 (And.intro T.mp76 (And.intro T.sz82 (And.intro T.ag82 (And.intro T.zr82 (And.intro T.by82 (And.intro T.fl82_0 (And.intro T.fl82_1 (And.intro T.bl82 (And.intro T.sz83 (And.intro T.ag83 (And.intro T.zr83 (And.intro T.by83 (And.intro T.fl83_0 (And.intro T.fl83_1 (And.intro T.bl83 (T.mo))))))))))))))))))))))))))))))))))))))))))))))))))))))))))))))))))))))))))))))))))))))))))))))))))))))))))))))))))))))))))))))))))))))))))))))))))))))))))))))))))))
end Go.Proofs.Ytehmbpkcbmnfnaa
