/-
  Closed facts on the types and functions of this seat's program, each computed by the kernel. Written by gen_facts.py.
-/
import Derived.Test.YtneipineehichaaRows
import Derived.Test.YtneipineehichaaZW
set_option linter.defProp false
set_option maxRecDepth 100000
namespace Go.Proofs.Ytneipineehichaa
open Go.W
theorem T.sz3 : W.szv Try.prog 3 = some 1 := by kernel_rfl
theorem T.ag3 : W.agb Try.prog 3 = some false := by kernel_rfl
theorem T.zr3 : W.zrv Try.prog 3 = some (.int .i64 0) := by kernel_rfl
theorem T.by3 : W.byv Try.prog 3 = some 8 := by kernel_rfl
theorem T.kd3 : W.kd Try.prog 3 = some .i64 := by kernel_rfl
theorem T.sz4 : W.szv Try.prog 4 = some 1 := by kernel_rfl
theorem T.ag4 : W.agb Try.prog 4 = some false := by kernel_rfl
theorem T.zr4 : W.zrv Try.prog 4 = some (.bool false) := by kernel_rfl
theorem T.by4 : W.byv Try.prog 4 = some 1 := by kernel_rfl
theorem T.tg4 : W.tag Try.prog 4 = 1 := by kernel_rfl
theorem T.sz5 : W.szv Try.prog 5 = some 1 := by kernel_rfl
theorem T.ag5 : W.agb Try.prog 5 = some false := by kernel_rfl
theorem T.zr5 : W.zrv Try.prog 5 = some (.int .u8 0) := by kernel_rfl
theorem T.by5 : W.byv Try.prog 5 = some 1 := by kernel_rfl
theorem T.kd5 : W.kd Try.prog 5 = some .u8 := by kernel_rfl
theorem T.sz22 : W.szv Try.prog 22 = some 3 := by kernel_rfl
theorem T.ag22 : W.agb Try.prog 22 = some true := by kernel_rfl
theorem T.zr22 : W.zrv Try.prog 22 = some (.agg #[.int .i64 0, .int .i64 0, .int .i64 0]) := by kernel_rfl
theorem T.by22 : W.byv Try.prog 22 = some 24 := by kernel_rfl
theorem T.fl22_0 : W.fld Try.prog 22 0 = some (0, 1, false) := by kernel_rfl
theorem T.fl22_1 : W.fld Try.prog 22 1 = some (1, 1, false) := by kernel_rfl
theorem T.fl22_2 : W.fld Try.prog 22 2 = some (2, 1, false) := by kernel_rfl
theorem T.bl22 : W.bldp Try.prog 22 = some (#[.int .i64 0, .int .i64 0, .int .i64 0], [(0, 1), (1, 1), (2, 1)]) := by kernel_rfl
theorem T.is22 : W.intStruct Try.prog 22 = true := by kernel_rfl
theorem T.fc22 : W.fieldCount Try.prog 22 = 3 := by kernel_rfl
theorem T.sz23 : W.szv Try.prog 23 = some 3 := by kernel_rfl
theorem T.ag23 : W.agb Try.prog 23 = some true := by kernel_rfl
theorem T.zr23 : W.zrv Try.prog 23 = some (.agg #[.int .i64 0, .int .i64 0, .int .i64 0]) := by kernel_rfl
theorem T.by23 : W.byv Try.prog 23 = some 24 := by kernel_rfl
theorem T.fl23_0 : W.fld Try.prog 23 0 = some (0, 1, false) := by kernel_rfl
theorem T.fl23_1 : W.fld Try.prog 23 1 = some (1, 1, false) := by kernel_rfl
theorem T.fl23_2 : W.fld Try.prog 23 2 = some (2, 1, false) := by kernel_rfl
theorem T.bl23 : W.bldp Try.prog 23 = some (#[.int .i64 0, .int .i64 0, .int .i64 0], [(0, 1), (1, 1), (2, 1)]) := by kernel_rfl
theorem T.is23 : W.intStruct Try.prog 23 = true := by kernel_rfl
theorem T.fc23 : W.fieldCount Try.prog 23 = 3 := by kernel_rfl
theorem T.sz24 : W.szv Try.prog 24 = some 1 := by kernel_rfl
theorem T.ag24 : W.agb Try.prog 24 = some false := by kernel_rfl
theorem T.zr24 : W.zrv Try.prog 24 = some (.slice none 0 0) := by kernel_rfl
theorem T.by24 : W.byv Try.prog 24 = some 24 := by kernel_rfl
theorem T.el24 : W.elt Try.prog 24 = some 44 := by kernel_rfl
theorem T.es24 : W.esz Try.prog 24 = some 2 := by kernel_rfl
theorem T.tg24 : W.tag Try.prog 24 = 3 := by kernel_rfl
theorem T.bo24 : W.sBuildSliceOk Try.prog 24 = true := by kernel_rfl
theorem T.sz27 : W.szv Try.prog 27 = some 1 := by kernel_rfl
theorem T.ag27 : W.agb Try.prog 27 = some false := by kernel_rfl
theorem T.zr27 : W.zrv Try.prog 27 = some (.slice none 0 0) := by kernel_rfl
theorem T.by27 : W.byv Try.prog 27 = some 24 := by kernel_rfl
theorem T.el27 : W.elt Try.prog 27 = some 56 := by kernel_rfl
theorem T.es27 : W.esz Try.prog 27 = some 2 := by kernel_rfl
theorem T.tg27 : W.tag Try.prog 27 = 3 := by kernel_rfl
theorem T.bo27 : W.sBuildSliceOk Try.prog 27 = true := by kernel_rfl
theorem T.sz29 : W.szv Try.prog 29 = some 1 := by kernel_rfl
theorem T.ag29 : W.agb Try.prog 29 = some false := by kernel_rfl
theorem T.zr29 : W.zrv Try.prog 29 = some (.slice none 0 0) := by kernel_rfl
theorem T.by29 : W.byv Try.prog 29 = some 24 := by kernel_rfl
theorem T.el29 : W.elt Try.prog 29 = some 3 := by kernel_rfl
theorem T.es29 : W.esz Try.prog 29 = some 1 := by kernel_rfl
theorem T.tg29 : W.tag Try.prog 29 = 3 := by kernel_rfl
theorem T.bo29 : W.sBuildSliceOk Try.prog 29 = true := by kernel_rfl
theorem T.sz38 : W.szv Try.prog 38 = some 1 := by kernel_rfl
theorem T.ag38 : W.agb Try.prog 38 = some false := by kernel_rfl
theorem T.zr38 : W.zrv Try.prog 38 = some (.nilFunc) := by kernel_rfl
theorem T.by38 : W.byv Try.prog 38 = some 8 := by kernel_rfl
theorem T.sz42 : W.szv Try.prog 42 = some 1 := by kernel_rfl
theorem T.ag42 : W.agb Try.prog 42 = some false := by kernel_rfl
theorem T.zr42 : W.zrv Try.prog 42 = some (.int .u16 0) := by kernel_rfl
theorem T.by42 : W.byv Try.prog 42 = some 2 := by kernel_rfl
theorem T.kd42 : W.kd Try.prog 42 = some .u16 := by kernel_rfl
theorem T.sz43 : W.szv Try.prog 43 = some 2 := by kernel_rfl
theorem T.ag43 : W.agb Try.prog 43 = some true := by kernel_rfl
theorem T.zr43 : W.zrv Try.prog 43 = some (.agg #[.int .i64 0, .int .i64 0]) := by kernel_rfl
theorem T.by43 : W.byv Try.prog 43 = some 16 := by kernel_rfl
theorem T.fl43_0 : W.fld Try.prog 43 0 = some (0, 1, false) := by kernel_rfl
theorem T.fl43_1 : W.fld Try.prog 43 1 = some (1, 1, false) := by kernel_rfl
theorem T.bl43 : W.bldp Try.prog 43 = some (#[.int .i64 0, .int .i64 0], [(0, 1), (1, 1)]) := by kernel_rfl
theorem T.is43 : W.intStruct Try.prog 43 = true := by kernel_rfl
theorem T.fc43 : W.fieldCount Try.prog 43 = 2 := by kernel_rfl
theorem T.sz44 : W.szv Try.prog 44 = some 2 := by kernel_rfl
theorem T.ag44 : W.agb Try.prog 44 = some true := by kernel_rfl
theorem T.zr44 : W.zrv Try.prog 44 = some (.agg #[.int .i64 0, .int .i64 0]) := by kernel_rfl
theorem T.by44 : W.byv Try.prog 44 = some 16 := by kernel_rfl
theorem T.fl44_0 : W.fld Try.prog 44 0 = some (0, 1, false) := by kernel_rfl
theorem T.fl44_1 : W.fld Try.prog 44 1 = some (1, 1, false) := by kernel_rfl
theorem T.bl44 : W.bldp Try.prog 44 = some (#[.int .i64 0, .int .i64 0], [(0, 1), (1, 1)]) := by kernel_rfl
theorem T.is44 : W.intStruct Try.prog 44 = true := by kernel_rfl
theorem T.fc44 : W.fieldCount Try.prog 44 = 2 := by kernel_rfl
theorem T.sz46 : W.szv Try.prog 46 = some 1 := by kernel_rfl
theorem T.ag46 : W.agb Try.prog 46 = some false := by kernel_rfl
theorem T.zr46 : W.zrv Try.prog 46 = some (.slice none 0 0) := by kernel_rfl
theorem T.by46 : W.byv Try.prog 46 = some 24 := by kernel_rfl
theorem T.el46 : W.elt Try.prog 46 = some 42 := by kernel_rfl
theorem T.es46 : W.esz Try.prog 46 = some 1 := by kernel_rfl
theorem T.tg46 : W.tag Try.prog 46 = 3 := by kernel_rfl
theorem T.bo46 : W.sBuildSliceOk Try.prog 46 = true := by kernel_rfl
theorem T.sz47 : W.szv Try.prog 47 = some 1 := by kernel_rfl
theorem T.ag47 : W.agb Try.prog 47 = some false := by kernel_rfl
theorem T.zr47 : W.zrv Try.prog 47 = some (.pointer none) := by kernel_rfl
theorem T.by47 : W.byv Try.prog 47 = some 8 := by kernel_rfl
theorem T.tg47 : W.tag Try.prog 47 = 2 := by kernel_rfl
theorem T.sz48 : W.szv Try.prog 48 = some 1 := by kernel_rfl
theorem T.ag48 : W.agb Try.prog 48 = some false := by kernel_rfl
theorem T.zr48 : W.zrv Try.prog 48 = some (.int .i64 0) := by kernel_rfl
theorem T.by48 : W.byv Try.prog 48 = some 8 := by kernel_rfl
theorem T.kd48 : W.kd Try.prog 48 = some .i64 := by kernel_rfl
theorem T.sz51 : W.szv Try.prog 51 = some 1 := by kernel_rfl
theorem T.ag51 : W.agb Try.prog 51 = some false := by kernel_rfl
theorem T.zr51 : W.zrv Try.prog 51 = some (.map none) := by kernel_rfl
theorem T.by51 : W.byv Try.prog 51 = some 8 := by kernel_rfl
theorem T.me51 : W.mpe Try.prog 51 = some 3 := by kernel_rfl
theorem T.mp51 : W.isMapT Try.prog 51 = true := by kernel_rfl
theorem T.sz56 : W.szv Try.prog 56 = some 2 := by kernel_rfl
theorem T.ag56 : W.agb Try.prog 56 = some true := by kernel_rfl
theorem T.zr56 : W.zrv Try.prog 56 = some (.agg #[.int .i64 0, .int .i64 0]) := by kernel_rfl
theorem T.by56 : W.byv Try.prog 56 = some 16 := by kernel_rfl
theorem T.fl56_0 : W.fld Try.prog 56 0 = some (0, 1, false) := by kernel_rfl
theorem T.fl56_1 : W.fld Try.prog 56 1 = some (1, 1, false) := by kernel_rfl
theorem T.bl56 : W.bldp Try.prog 56 = some (#[.int .i64 0, .int .i64 0], [(0, 1), (1, 1)]) := by kernel_rfl
theorem T.is56 : W.intStruct Try.prog 56 = true := by kernel_rfl
theorem T.fc56 : W.fieldCount Try.prog 56 = 2 := by kernel_rfl
theorem T.sz57 : W.szv Try.prog 57 = some 1 := by kernel_rfl
theorem T.ag57 : W.agb Try.prog 57 = some false := by kernel_rfl
theorem T.zr57 : W.zrv Try.prog 57 = some (.slice none 0 0) := by kernel_rfl
theorem T.by57 : W.byv Try.prog 57 = some 24 := by kernel_rfl
theorem T.el57 : W.elt Try.prog 57 = some 59 := by kernel_rfl
theorem T.es57 : W.esz Try.prog 57 = some 1 := by kernel_rfl
theorem T.tg57 : W.tag Try.prog 57 = 3 := by kernel_rfl
theorem T.bo57 : W.sBuildSliceOk Try.prog 57 = true := by kernel_rfl
theorem T.sz59 : W.szv Try.prog 59 = some 1 := by kernel_rfl
theorem T.ag59 : W.agb Try.prog 59 = some false := by kernel_rfl
theorem T.zr59 : W.zrv Try.prog 59 = some (.map none) := by kernel_rfl
theorem T.by59 : W.byv Try.prog 59 = some 8 := by kernel_rfl
theorem T.me59 : W.mpe Try.prog 59 = some 4 := by kernel_rfl
theorem T.mp59 : W.isMapT Try.prog 59 = true := by kernel_rfl
theorem T.sz63 : W.szv Try.prog 63 = some 1 := by kernel_rfl
theorem T.ag63 : W.agb Try.prog 63 = some false := by kernel_rfl
theorem T.zr63 : W.zrv Try.prog 63 = some (.slice none 0 0) := by kernel_rfl
theorem T.by63 : W.byv Try.prog 63 = some 24 := by kernel_rfl
theorem T.el63 : W.elt Try.prog 63 = some 29 := by kernel_rfl
theorem T.es63 : W.esz Try.prog 63 = some 1 := by kernel_rfl
theorem T.tg63 : W.tag Try.prog 63 = 3 := by kernel_rfl
theorem T.bo63 : W.sBuildSliceOk Try.prog 63 = true := by kernel_rfl
theorem T.sz64 : W.szv Try.prog 64 = some 4 := by kernel_rfl
theorem T.ag64 : W.agb Try.prog 64 = some true := by kernel_rfl
theorem T.zr64 : W.zrv Try.prog 64 = some (.agg #[.int .i64 0, .int .i64 0, .int .i64 0, .slice none 0 0]) := by kernel_rfl
theorem T.by64 : W.byv Try.prog 64 = some 48 := by kernel_rfl
theorem T.fl64_0 : W.fld Try.prog 64 0 = some (0, 3, true) := by kernel_rfl
theorem T.fl64_1 : W.fld Try.prog 64 1 = some (3, 1, false) := by kernel_rfl
theorem T.bl64 : W.bldp Try.prog 64 = some (#[.int .i64 0, .int .i64 0, .int .i64 0, .slice none 0 0], [(0, 3), (3, 1)]) := by kernel_rfl
theorem T.sz65 : W.szv Try.prog 65 = some 4 := by kernel_rfl
theorem T.ag65 : W.agb Try.prog 65 = some true := by kernel_rfl
theorem T.zr65 : W.zrv Try.prog 65 = some (.agg #[.int .i64 0, .int .i64 0, .int .i64 0, .slice none 0 0]) := by kernel_rfl
theorem T.by65 : W.byv Try.prog 65 = some 48 := by kernel_rfl
theorem T.fl65_0 : W.fld Try.prog 65 0 = some (0, 3, true) := by kernel_rfl
theorem T.fl65_1 : W.fld Try.prog 65 1 = some (3, 1, false) := by kernel_rfl
theorem T.bl65 : W.bldp Try.prog 65 = some (#[.int .i64 0, .int .i64 0, .int .i64 0, .slice none 0 0], [(0, 3), (3, 1)]) := by kernel_rfl
theorem T.mo : Try.prog.follows .mixedOrders = true := by kernel_rfl
theorem T.en2 : W.enters Try.prog 2 = true := by kernel_rfl
theorem T.en3 : W.enters Try.prog 3 = true := by kernel_rfl
theorem T.en4 : W.enters Try.prog 4 = true := by kernel_rfl
theorem T.en5 : W.enters Try.prog 5 = true := by kernel_rfl
theorem T.en6 : W.enters Try.prog 6 = true := by kernel_rfl
theorem T.en7 : W.enters Try.prog 7 = true := by kernel_rfl
theorem T.en8 : W.enters Try.prog 8 = true := by kernel_rfl
theorem T.en9 : W.enters Try.prog 9 = true := by kernel_rfl
theorem T.en10 : W.enters Try.prog 10 = true := by kernel_rfl
theorem T.en11 : W.enters Try.prog 11 = true := by kernel_rfl
theorem T.en12 : W.enters Try.prog 12 = true := by kernel_rfl
theorem T.en13 : W.enters Try.prog 13 = true := by kernel_rfl
theorem T.en14 : W.enters Try.prog 14 = true := by kernel_rfl
theorem T.en15 : W.enters Try.prog 15 = true := by kernel_rfl
theorem T.en16 : W.enters Try.prog 16 = true := by kernel_rfl
theorem T.en17 : W.enters Try.prog 17 = true := by kernel_rfl
theorem T.en18 : W.enters Try.prog 18 = true := by kernel_rfl
theorem T.en19 : W.enters Try.prog 19 = true := by kernel_rfl
theorem T.en20 : W.enters Try.prog 20 = true := by kernel_rfl
theorem T.en21 : W.enters Try.prog 21 = true := by kernel_rfl
theorem T.en22 : W.enters Try.prog 22 = true := by kernel_rfl
theorem T.en23 : W.enters Try.prog 23 = true := by kernel_rfl
theorem T.en24 : W.enters Try.prog 24 = true := by kernel_rfl
theorem T.en25 : W.enters Try.prog 25 = true := by kernel_rfl
theorem T.en26 : W.enters Try.prog 26 = true := by kernel_rfl
theorem T.en27 : W.enters Try.prog 27 = true := by kernel_rfl
theorem T.en28 : W.enters Try.prog 28 = true := by kernel_rfl
theorem T.en29 : W.enters Try.prog 29 = true := by kernel_rfl
theorem T.en30 : W.enters Try.prog 30 = true := by kernel_rfl
theorem T.en31 : W.enters Try.prog 31 = true := by kernel_rfl
theorem T.en32 : W.enters Try.prog 32 = true := by kernel_rfl
theorem T.en33 : W.enters Try.prog 33 = true := by kernel_rfl
theorem T.en34 : W.enters Try.prog 34 = true := by kernel_rfl
theorem T.en35 : W.enters Try.prog 35 = true := by kernel_rfl
theorem T.en36 : W.enters Try.prog 36 = true := by kernel_rfl
theorem T.en37 : W.enters Try.prog 37 = true := by kernel_rfl
theorem T.en38 : W.enters Try.prog 38 = true := by kernel_rfl
theorem T.en39 : W.enters Try.prog 39 = true := by kernel_rfl
theorem T.en40 : W.enters Try.prog 40 = true := by kernel_rfl
theorem T.en41 : W.enters Try.prog 41 = true := by kernel_rfl
theorem T.en42 : W.enters Try.prog 42 = true := by kernel_rfl
theorem T.en43 : W.enters Try.prog 43 = true := by kernel_rfl
theorem T.en44 : W.enters Try.prog 44 = true := by kernel_rfl
theorem T.en46 : W.enters Try.prog 46 = true := by kernel_rfl
theorem T.en47 : W.enters Try.prog 47 = true := by kernel_rfl
theorem T.en48 : W.enters Try.prog 48 = true := by kernel_rfl
theorem T.en49 : W.enters Try.prog 49 = true := by kernel_rfl
theorem T.en50 : W.enters Try.prog 50 = true := by kernel_rfl
theorem T.en51 : W.enters Try.prog 51 = true := by kernel_rfl
theorem T.en52 : W.enters Try.prog 52 = true := by kernel_rfl
theorem T.en53 : W.enters Try.prog 53 = true := by kernel_rfl
theorem T.en54 : W.enters Try.prog 54 = true := by kernel_rfl
theorem T.en55 : W.enters Try.prog 55 = true := by kernel_rfl
theorem T.en56 : W.enters Try.prog 56 = true := by kernel_rfl
theorem T.en57 : W.enters Try.prog 57 = true := by kernel_rfl
theorem T.en58 : W.enters Try.prog 58 = true := by kernel_rfl
theorem T.en59 : W.enters Try.prog 59 = true := by kernel_rfl
theorem T.en60 : W.enters Try.prog 60 = true := by kernel_rfl
theorem T.en61 : W.enters Try.prog 61 = true := by kernel_rfl
theorem T.en62 : W.enters Try.prog 62 = true := by kernel_rfl
theorem T.en63 : W.enters Try.prog 63 = true := by kernel_rfl
theorem T.en64 : W.enters Try.prog 64 = true := by kernel_rfl
theorem T.en65 : W.enters Try.prog 65 = true := by kernel_rfl
theorem T.en66 : W.enters Try.prog 66 = true := by kernel_rfl
theorem T.en67 : W.enters Try.prog 67 = true := by kernel_rfl
/-- all of them -/
def T := And.intro T.sz3 (And.intro T.ag3 (And.intro T.zr3 (And.intro T.by3 (And.intro T.kd3 (And.intro T.sz4 (And.intro T.ag4 (And.intro T.zr4 (And.intro T.by4 (And.intro T.tg4 (And.intro T.sz5 (And.intro T.ag5 (And.intro T.zr5 (And.intro T.by5 (And.intro T.kd5 (And.intro T.sz22 (And.intro T.ag22 (And.intro T.zr22 (And.intro T.by22 (And.intro T.fl22_0 (And.intro T.fl22_1 (And.intro T.fl22_2 (And.intro T.bl22 (And.intro T.is22 (And.intro T.fc22 (And.intro T.sz23 (And.intro T.ag23 (And.intro T.zr23 (And.intro T.by23 (And.intro T.fl23_0 (And.intro T.fl23_1 (And.intro T.fl23_2 (And.intro T.bl23 (And.intro T.is23 (And.intro T.fc23 (And.intro T.sz24 (And.intro T.ag24 (And.intro T.zr24 (And.intro T.by24 (And.intro T.el24 (And.intro T.es24 (And.intro T.tg24 (And.intro T.bo24 (And.intro T.sz27 (And.intro T.ag27 (And.intro T.zr27 (And.intro T.by27 (And.intro T.el27 (And.intro T.es27 (And.intro T.tg27 (And.intro T.bo27 (And.intro T.sz29 (And.intro T.ag29 (And.intro T.zr29 (And.intro T.by29 (And.intro T.el29 (And.intro T.es29 (And.intro T.tg29 (And.intro T.bo29 (And.intro T.sz38 (And.intro T.ag38 (And.intro T.zr38 (And.intro T.by38 (And.intro T.sz42 (And.intro T.ag42 (And.intro T.zr42 (And.intro T.by42 (And.intro T.kd42 (And.intro T.sz43 (And.intro T.ag43 (And.intro T.zr43 (And.intro T.by43 (And.intro T.fl43_0 (And.intro T.fl43_1 (And.intro T.bl43 (And.intro T.is43 (And.intro T.fc43 (And.intro T.sz44 (And.intro T.ag44 (And.intro T.zr44 (And.intro T.by44 (And.intro T.fl44_0 (And.intro T.fl44_1 (And.intro T.bl44 (And.intro T.is44 (And.intro T.fc44 (And.intro T.sz46 (And.intro T.ag46 (And.intro T.zr46 (And.intro T.by46 (And.intro T.el46 (And.intro T.es46 (And.intro T.tg46 (And.intro T.bo46 (And.intro T.sz47 (And.intro T.ag47 (And.intro T.zr47 (And.intro T.by47 (And.intro T.tg47 (And.intro T.sz48 (And.intro T.ag48 (And.intro T.zr48 (And.intro T.by48 (And.intro T.kd48 (And.intro T.sz51 (And.intro T.ag51 (And.intro T.zr51 (And.intro T.by51 (And.intro T.mp51 (And.intro T.sz56 (And.intro T.ag56 (And.intro T.zr56 (And.intro T.by56 (And.intro T.fl56_0 (And.intro T.fl56_1 (And.intro T.bl56 (And.intro T.is56 (And.intro T.fc56 (And.intro T.sz57 (And.intro T.ag57 (And.intro T.zr57 (And.intro T.by57 (And.intro T.el57 (And.intro T.es57 (And.intro T.tg57 (And.intro T.bo57 (And.intro T.sz59 (And.intro T.ag59 (And.intro T.zr59 (And.intro T.by59 (And.intro T.mp59 (And.intro T.sz63 (And.intro T.ag63 (And.intro T.zr63 (And.intro T.by63 (And.intro T.el63 (And.intro T.es63 (And.intro T.tg63 (And.intro T.bo63 (And.intro T.sz64 (And.intro T.ag64 (And.intro T.zr64 (And.intro T.by64 (And.intro T.fl64_0 (And.intro T.fl64_1 (And.intro T.bl64 (And.intro T.sz65 (And.intro T.ag65 (And.intro T.zr65 (And.intro T.by65 (And.intro T.fl65_0 (And.intro T.fl65_1 (And.intro T.bl65 (T.mo)))))))))))))))))))))))))))))))))))))))))))))))))))))))))))))))))))))))))))))))))))))))))))))))))))))))))))))))))))))))))))))))))))))))))))))))))))))))))
end Go.Proofs.Ytneipineehichaa
