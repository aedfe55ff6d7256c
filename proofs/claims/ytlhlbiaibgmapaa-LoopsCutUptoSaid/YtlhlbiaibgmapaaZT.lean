/-
  Closed facts on the types and functions of this seat's program, each computed by the kernel. Written by gen_facts.py.
-/
import Derived.Test.YtlhlbiaibgmapaaRows
import Derived.Test.YtlhlbiaibgmapaaZW
set_option linter.defProp false
set_option maxRecDepth 100000
namespace Go.Proofs.Ytlhlbiaibgmapaa
open Go.W
theorem T.sz2 : W.szv Try.prog 2 = some 1 := by kernel_rfl
theorem T.ag2 : W.agb Try.prog 2 = some false := by kernel_rfl
theorem T.zr2 : W.zrv Try.prog 2 = some (.int .i64 0) := by kernel_rfl
theorem T.by2 : W.byv Try.prog 2 = some 8 := by kernel_rfl
theorem T.kd2 : W.kd Try.prog 2 = some .i64 := by kernel_rfl
theorem T.sz3 : W.szv Try.prog 3 = some 1 := by kernel_rfl
theorem T.ag3 : W.agb Try.prog 3 = some false := by kernel_rfl
theorem T.zr3 : W.zrv Try.prog 3 = some (.int .i64 0) := by kernel_rfl
theorem T.by3 : W.byv Try.prog 3 = some 8 := by kernel_rfl
theorem T.kd3 : W.kd Try.prog 3 = some .i64 := by kernel_rfl
theorem T.sz4 : W.szv Try.prog 4 = some 1 := by kernel_rfl
theorem T.ag4 : W.agb Try.prog 4 = some false := by kernel_rfl
theorem T.zr4 : W.zrv Try.prog 4 = some (.bool false) := by kernel_rfl
theorem T.by4 : W.byv Try.prog 4 = some 1 := by kernel_rfl
theorem T.tg4 : W.tag Try.prog 4 = 1 := by kernel_rfl
theorem T.sz5 : W.szv Try.prog 5 = some 1 := by kernel_rfl
theorem T.ag5 : W.agb Try.prog 5 = some false := by kernel_rfl
theorem T.zr5 : W.zrv Try.prog 5 = some (.int .u8 0) := by kernel_rfl
theorem T.by5 : W.byv Try.prog 5 = some 1 := by kernel_rfl
theorem T.kd5 : W.kd Try.prog 5 = some .u8 := by kernel_rfl
theorem T.sz22 : W.szv Try.prog 22 = some 1 := by kernel_rfl
theorem T.ag22 : W.agb Try.prog 22 = some false := by kernel_rfl
theorem T.zr22 : W.zrv Try.prog 22 = some (.slice none 0 0) := by kernel_rfl
theorem T.by22 : W.byv Try.prog 22 = some 24 := by kernel_rfl
theorem T.el22 : W.elt Try.prog 22 = some 69 := by kernel_rfl
theorem T.es22 : W.esz Try.prog 22 = some 3 := by kernel_rfl
theorem T.tg22 : W.tag Try.prog 22 = 3 := by kernel_rfl
theorem T.bo22 : W.sBuildSliceOk Try.prog 22 = true := by kernel_rfl
theorem T.sz23 : W.szv Try.prog 23 = some 1 := by kernel_rfl
theorem T.ag23 : W.agb Try.prog 23 = some false := by kernel_rfl
theorem T.zr23 : W.zrv Try.prog 23 = some (.slice none 0 0) := by kernel_rfl
theorem T.by23 : W.byv Try.prog 23 = some 24 := by kernel_rfl
theorem T.el23 : W.elt Try.prog 23 = some 36 := by kernel_rfl
theorem T.es23 : W.esz Try.prog 23 = some 1 := by kernel_rfl
theorem T.tg23 : W.tag Try.prog 23 = 3 := by kernel_rfl
theorem T.bo23 : W.sBuildSliceOk Try.prog 23 = true := by kernel_rfl
theorem T.sz24 : W.szv Try.prog 24 = some 2 := by kernel_rfl
theorem T.ag24 : W.agb Try.prog 24 = some true := by kernel_rfl
theorem T.zr24 : W.zrv Try.prog 24 = some (.agg #[.slice none 0 0, .slice none 0 0]) := by kernel_rfl
theorem T.by24 : W.byv Try.prog 24 = some 48 := by kernel_rfl
theorem T.fl24_0 : W.fld Try.prog 24 0 = some (0, 1, false) := by kernel_rfl
theorem T.fl24_1 : W.fld Try.prog 24 1 = some (1, 1, false) := by kernel_rfl
theorem T.bl24 : W.bldp Try.prog 24 = some (#[.slice none 0 0, .slice none 0 0], [(0, 1), (1, 1)]) := by kernel_rfl
theorem T.sz25 : W.szv Try.prog 25 = some 2 := by kernel_rfl
theorem T.ag25 : W.agb Try.prog 25 = some true := by kernel_rfl
theorem T.zr25 : W.zrv Try.prog 25 = some (.agg #[.slice none 0 0, .slice none 0 0]) := by kernel_rfl
theorem T.by25 : W.byv Try.prog 25 = some 48 := by kernel_rfl
theorem T.fl25_0 : W.fld Try.prog 25 0 = some (0, 1, false) := by kernel_rfl
theorem T.fl25_1 : W.fld Try.prog 25 1 = some (1, 1, false) := by kernel_rfl
theorem T.bl25 : W.bldp Try.prog 25 = some (#[.slice none 0 0, .slice none 0 0], [(0, 1), (1, 1)]) := by kernel_rfl
theorem T.sz27 : W.szv Try.prog 27 = some 1 := by kernel_rfl
theorem T.ag27 : W.agb Try.prog 27 = some false := by kernel_rfl
theorem T.zr27 : W.zrv Try.prog 27 = some (.slice none 0 0) := by kernel_rfl
theorem T.by27 : W.byv Try.prog 27 = some 24 := by kernel_rfl
theorem T.el27 : W.elt Try.prog 27 = some 38 := by kernel_rfl
theorem T.es27 : W.esz Try.prog 27 = some 4 := by kernel_rfl
theorem T.tg27 : W.tag Try.prog 27 = 3 := by kernel_rfl
theorem T.bo27 : W.sBuildSliceOk Try.prog 27 = true := by kernel_rfl
theorem T.sz28 : W.szv Try.prog 28 = some 1 := by kernel_rfl
theorem T.ag28 : W.agb Try.prog 28 = some false := by kernel_rfl
theorem T.zr28 : W.zrv Try.prog 28 = some (.int .i64 0) := by kernel_rfl
theorem T.by28 : W.byv Try.prog 28 = some 8 := by kernel_rfl
theorem T.kd28 : W.kd Try.prog 28 = some .i64 := by kernel_rfl
theorem T.sz34 : W.szv Try.prog 34 = some 1 := by kernel_rfl
theorem T.ag34 : W.agb Try.prog 34 = some false := by kernel_rfl
theorem T.zr34 : W.zrv Try.prog 34 = some (.slice none 0 0) := by kernel_rfl
theorem T.by34 : W.byv Try.prog 34 = some 24 := by kernel_rfl
theorem T.el34 : W.elt Try.prog 34 = some 39 := by kernel_rfl
theorem T.es34 : W.esz Try.prog 34 = some 4 := by kernel_rfl
theorem T.tg34 : W.tag Try.prog 34 = 3 := by kernel_rfl
theorem T.bo34 : W.sBuildSliceOk Try.prog 34 = true := by kernel_rfl
theorem T.sz36 : W.szv Try.prog 36 = some 1 := by kernel_rfl
theorem T.ag36 : W.agb Try.prog 36 = some false := by kernel_rfl
theorem T.zr36 : W.zrv Try.prog 36 = some (.slice none 0 0) := by kernel_rfl
theorem T.by36 : W.byv Try.prog 36 = some 24 := by kernel_rfl
theorem T.el36 : W.elt Try.prog 36 = some 3 := by kernel_rfl
theorem T.es36 : W.esz Try.prog 36 = some 1 := by kernel_rfl
theorem T.tg36 : W.tag Try.prog 36 = 3 := by kernel_rfl
theorem T.bo36 : W.sBuildSliceOk Try.prog 36 = true := by kernel_rfl
theorem T.sz37 : W.szv Try.prog 37 = some 4 := by kernel_rfl
theorem T.ag37 : W.agb Try.prog 37 = some true := by kernel_rfl
theorem T.zr37 : W.zrv Try.prog 37 = some (.agg #[.int .i64 0, .slice none 0 0, .slice none 0 0, .int .i64 0]) := by kernel_rfl
theorem T.by37 : W.byv Try.prog 37 = some 64 := by kernel_rfl
theorem T.fl37_0 : W.fld Try.prog 37 0 = some (0, 1, false) := by kernel_rfl
theorem T.fl37_1 : W.fld Try.prog 37 1 = some (1, 1, false) := by kernel_rfl
theorem T.fl37_2 : W.fld Try.prog 37 2 = some (2, 1, false) := by kernel_rfl
theorem T.fl37_3 : W.fld Try.prog 37 3 = some (3, 1, false) := by kernel_rfl
theorem T.bl37 : W.bldp Try.prog 37 = some (#[.int .i64 0, .slice none 0 0, .slice none 0 0, .int .i64 0], [(0, 1), (1, 1), (2, 1), (3, 1)]) := by kernel_rfl
theorem T.sz38 : W.szv Try.prog 38 = some 4 := by kernel_rfl
theorem T.ag38 : W.agb Try.prog 38 = some true := by kernel_rfl
theorem T.zr38 : W.zrv Try.prog 38 = some (.agg #[.int .i64 0, .slice none 0 0, .slice none 0 0, .int .i64 0]) := by kernel_rfl
theorem T.by38 : W.byv Try.prog 38 = some 64 := by kernel_rfl
theorem T.fl38_0 : W.fld Try.prog 38 0 = some (0, 1, false) := by kernel_rfl
theorem T.fl38_1 : W.fld Try.prog 38 1 = some (1, 1, false) := by kernel_rfl
theorem T.fl38_2 : W.fld Try.prog 38 2 = some (2, 1, false) := by kernel_rfl
theorem T.fl38_3 : W.fld Try.prog 38 3 = some (3, 1, false) := by kernel_rfl
theorem T.bl38 : W.bldp Try.prog 38 = some (#[.int .i64 0, .slice none 0 0, .slice none 0 0, .int .i64 0], [(0, 1), (1, 1), (2, 1), (3, 1)]) := by kernel_rfl
theorem T.sz39 : W.szv Try.prog 39 = some 4 := by kernel_rfl
theorem T.ag39 : W.agb Try.prog 39 = some true := by kernel_rfl
theorem T.zr39 : W.zrv Try.prog 39 = some (.agg #[.int .i64 0, .slice none 0 0, .slice none 0 0, .int .i64 0]) := by kernel_rfl
theorem T.by39 : W.byv Try.prog 39 = some 64 := by kernel_rfl
theorem T.fl39_0 : W.fld Try.prog 39 0 = some (0, 1, false) := by kernel_rfl
theorem T.fl39_1 : W.fld Try.prog 39 1 = some (1, 1, false) := by kernel_rfl
theorem T.fl39_2 : W.fld Try.prog 39 2 = some (2, 1, false) := by kernel_rfl
theorem T.fl39_3 : W.fld Try.prog 39 3 = some (3, 1, false) := by kernel_rfl
theorem T.bl39 : W.bldp Try.prog 39 = some (#[.int .i64 0, .slice none 0 0, .slice none 0 0, .int .i64 0], [(0, 1), (1, 1), (2, 1), (3, 1)]) := by kernel_rfl
theorem T.sz47 : W.szv Try.prog 47 = some 1 := by kernel_rfl
theorem T.ag47 : W.agb Try.prog 47 = some false := by kernel_rfl
theorem T.zr47 : W.zrv Try.prog 47 = some (.map none) := by kernel_rfl
theorem T.by47 : W.byv Try.prog 47 = some 8 := by kernel_rfl
theorem T.mp47 : W.isMapT Try.prog 47 = true := by kernel_rfl
theorem T.sz48 : W.szv Try.prog 48 = some 2 := by kernel_rfl
theorem T.ag48 : W.agb Try.prog 48 = some true := by kernel_rfl
theorem T.zr48 : W.zrv Try.prog 48 = some (.agg #[.int .i64 0, .int .i64 0]) := by kernel_rfl
theorem T.by48 : W.byv Try.prog 48 = some 16 := by kernel_rfl
theorem T.ar48 : W.arr Try.prog 48 = some (2, 1) := by kernel_rfl
theorem T.bl48 : W.bldp Try.prog 48 = some (#[.int .i64 0, .int .i64 0], [(0, 1), (1, 1)]) := by kernel_rfl
theorem T.is48 : W.intStruct Try.prog 48 = true := by kernel_rfl
theorem T.fc48 : W.fieldCount Try.prog 48 = 2 := by kernel_rfl
theorem T.sz49 : W.szv Try.prog 49 = some 1 := by kernel_rfl
theorem T.ag49 : W.agb Try.prog 49 = some false := by kernel_rfl
theorem T.zr49 : W.zrv Try.prog 49 = some (.slice none 0 0) := by kernel_rfl
theorem T.by49 : W.byv Try.prog 49 = some 24 := by kernel_rfl
theorem T.el49 : W.elt Try.prog 49 = some 4 := by kernel_rfl
theorem T.es49 : W.esz Try.prog 49 = some 1 := by kernel_rfl
theorem T.tg49 : W.tag Try.prog 49 = 3 := by kernel_rfl
theorem T.bo49 : W.sBuildSliceOk Try.prog 49 = true := by kernel_rfl
theorem T.sz51 : W.szv Try.prog 51 = some 1 := by kernel_rfl
theorem T.ag51 : W.agb Try.prog 51 = some false := by kernel_rfl
theorem T.zr51 : W.zrv Try.prog 51 = some (.slice none 0 0) := by kernel_rfl
theorem T.by51 : W.byv Try.prog 51 = some 24 := by kernel_rfl
theorem T.el51 : W.elt Try.prog 51 = some 5 := by kernel_rfl
theorem T.es51 : W.esz Try.prog 51 = some 1 := by kernel_rfl
theorem T.tg51 : W.tag Try.prog 51 = 3 := by kernel_rfl
theorem T.bo51 : W.sBuildSliceOk Try.prog 51 = true := by kernel_rfl
theorem T.sz52 : W.szv Try.prog 52 = some 1 := by kernel_rfl
theorem T.ag52 : W.agb Try.prog 52 = some false := by kernel_rfl
theorem T.zr52 : W.zrv Try.prog 52 = some (.map none) := by kernel_rfl
theorem T.by52 : W.byv Try.prog 52 = some 8 := by kernel_rfl
theorem T.me52 : W.mpe Try.prog 52 = some 4 := by kernel_rfl
theorem T.mp52 : W.isMapT Try.prog 52 = true := by kernel_rfl
theorem T.sz53 : W.szv Try.prog 53 = some 1 := by kernel_rfl
theorem T.ag53 : W.agb Try.prog 53 = some false := by kernel_rfl
theorem T.zr53 : W.zrv Try.prog 53 = some (.slice none 0 0) := by kernel_rfl
theorem T.by53 : W.byv Try.prog 53 = some 24 := by kernel_rfl
theorem T.el53 : W.elt Try.prog 53 = some 48 := by kernel_rfl
theorem T.es53 : W.esz Try.prog 53 = some 2 := by kernel_rfl
theorem T.tg53 : W.tag Try.prog 53 = 3 := by kernel_rfl
theorem T.bo53 : W.sBuildSliceOk Try.prog 53 = true := by kernel_rfl
theorem T.sz62 : W.szv Try.prog 62 = some 1 := by kernel_rfl
theorem T.ag62 : W.agb Try.prog 62 = some false := by kernel_rfl
theorem T.zr62 : W.zrv Try.prog 62 = some (.map none) := by kernel_rfl
theorem T.by62 : W.byv Try.prog 62 = some 8 := by kernel_rfl
theorem T.me62 : W.mpe Try.prog 62 = some 36 := by kernel_rfl
theorem T.mp62 : W.isMapT Try.prog 62 = true := by kernel_rfl
theorem T.sz68 : W.szv Try.prog 68 = some 3 := by kernel_rfl
theorem T.ag68 : W.agb Try.prog 68 = some true := by kernel_rfl
theorem T.zr68 : W.zrv Try.prog 68 = some (.agg #[.int .i64 0, .int .i64 0, .slice none 0 0]) := by kernel_rfl
theorem T.by68 : W.byv Try.prog 68 = some 40 := by kernel_rfl
theorem T.fl68_0 : W.fld Try.prog 68 0 = some (0, 1, false) := by kernel_rfl
theorem T.fl68_1 : W.fld Try.prog 68 1 = some (1, 1, false) := by kernel_rfl
theorem T.fl68_2 : W.fld Try.prog 68 2 = some (2, 1, false) := by kernel_rfl
theorem T.bl68 : W.bldp Try.prog 68 = some (#[.int .i64 0, .int .i64 0, .slice none 0 0], [(0, 1), (1, 1), (2, 1)]) := by kernel_rfl
theorem T.sz69 : W.szv Try.prog 69 = some 3 := by kernel_rfl
theorem T.ag69 : W.agb Try.prog 69 = some true := by kernel_rfl
theorem T.zr69 : W.zrv Try.prog 69 = some (.agg #[.int .i64 0, .int .i64 0, .slice none 0 0]) := by kernel_rfl
theorem T.by69 : W.byv Try.prog 69 = some 40 := by kernel_rfl
theorem T.fl69_0 : W.fld Try.prog 69 0 = some (0, 1, false) := by kernel_rfl
theorem T.fl69_1 : W.fld Try.prog 69 1 = some (1, 1, false) := by kernel_rfl
theorem T.fl69_2 : W.fld Try.prog 69 2 = some (2, 1, false) := by kernel_rfl
theorem T.bl69 : W.bldp Try.prog 69 = some (#[.int .i64 0, .int .i64 0, .slice none 0 0], [(0, 1), (1, 1), (2, 1)]) := by kernel_rfl
theorem T.sz75 : W.szv Try.prog 75 = some 1 := by kernel_rfl
theorem T.ag75 : W.agb Try.prog 75 = some false := by kernel_rfl
theorem T.zr75 : W.zrv Try.prog 75 = some (.nilFunc) := by kernel_rfl
theorem T.by75 : W.byv Try.prog 75 = some 8 := by kernel_rfl
theorem T.sz76 : W.szv Try.prog 76 = some 1 := by kernel_rfl
theorem T.ag76 : W.agb Try.prog 76 = some false := by kernel_rfl
theorem T.zr76 : W.zrv Try.prog 76 = some (.nilFunc) := by kernel_rfl
theorem T.by76 : W.byv Try.prog 76 = some 8 := by kernel_rfl
theorem T.mo : Try.prog.follows .mixedOrders = true := by kernel_rfl
theorem T.en2 : W.enters Try.prog 2 = true := by kernel_rfl
theorem T.en3 : W.enters Try.prog 3 = true := by kernel_rfl
theorem T.en4 : W.enters Try.prog 4 = true := by kernel_rfl
theorem T.en5 : W.enters Try.prog 5 = true := by kernel_rfl
theorem T.en6 : W.enters Try.prog 6 = true := by kernel_rfl
theorem T.en7 : W.enters Try.prog 7 = true := by kernel_rfl
theorem T.en8 : W.enters Try.prog 8 = true := by kernel_rfl
theorem T.en9 : W.enters Try.prog 9 = true := by kernel_rfl
theorem T.en10 : W.enters Try.prog 10 = true := by kernel_rfl
theorem T.en11 : W.enters Try.prog 11 = true := by kernel_rfl
theorem T.en12 : W.enters Try.prog 12 = true := by kernel_rfl
theorem T.en13 : W.enters Try.prog 13 = true := by kernel_rfl
theorem T.en14 : W.enters Try.prog 14 = true := by kernel_rfl
theorem T.en15 : W.enters Try.prog 15 = true := by kernel_rfl
theorem T.en16 : W.enters Try.prog 16 = true := by kernel_rfl
theorem T.en17 : W.enters Try.prog 17 = true := by kernel_rfl
theorem T.en18 : W.enters Try.prog 18 = true := by kernel_rfl
theorem T.en19 : W.enters Try.prog 19 = true := by kernel_rfl
theorem T.en20 : W.enters Try.prog 20 = true := by kernel_rfl
theorem T.en21 : W.enters Try.prog 21 = true := by kernel_rfl
theorem T.en22 : W.enters Try.prog 22 = true := by kernel_rfl
theorem T.en23 : W.enters Try.prog 23 = true := by kernel_rfl
theorem T.en24 : W.enters Try.prog 24 = true := by kernel_rfl
theorem T.en25 : W.enters Try.prog 25 = true := by kernel_rfl
theorem T.en26 : W.enters Try.prog 26 = true := by kernel_rfl
theorem T.en27 : W.enters Try.prog 27 = true := by kernel_rfl
theorem T.en28 : W.enters Try.prog 28 = true := by kernel_rfl
theorem T.en29 : W.enters Try.prog 29 = true := by kernel_rfl
theorem T.en30 : W.enters Try.prog 30 = true := by kernel_rfl
theorem T.en31 : W.enters Try.prog 31 = true := by kernel_rfl
theorem T.en32 : W.enters Try.prog 32 = true := by kernel_rfl
theorem T.en33 : W.enters Try.prog 33 = true := by kernel_rfl
theorem T.en34 : W.enters Try.prog 34 = true := by kernel_rfl
theorem T.en35 : W.enters Try.prog 35 = true := by kernel_rfl
theorem T.en36 : W.enters Try.prog 36 = true := by kernel_rfl
theorem T.en37 : W.enters Try.prog 37 = true := by kernel_rfl
theorem T.en38 : W.enters Try.prog 38 = true := by kernel_rfl
theorem T.en39 : W.enters Try.prog 39 = true := by kernel_rfl
theorem T.en40 : W.enters Try.prog 40 = true := by kernel_rfl
theorem T.en41 : W.enters Try.prog 41 = true := by kernel_rfl
theorem T.en42 : W.enters Try.prog 42 = true := by kernel_rfl
theorem T.en43 : W.enters Try.prog 43 = true := by kernel_rfl
theorem T.en44 : W.enters Try.prog 44 = true := by kernel_rfl
theorem T.en45 : W.enters Try.prog 45 = true := by kernel_rfl
theorem T.en46 : W.enters Try.prog 46 = true := by kernel_rfl
theorem T.en47 : W.enters Try.prog 47 = true := by kernel_rfl
theorem T.en48 : W.enters Try.prog 48 = true := by kernel_rfl
theorem T.en49 : W.enters Try.prog 49 = true := by kernel_rfl
theorem T.en50 : W.enters Try.prog 50 = true := by kernel_rfl
theorem T.en51 : W.enters Try.prog 51 = true := by kernel_rfl
theorem T.en52 : W.enters Try.prog 52 = true := by kernel_rfl
theorem T.en53 : W.enters Try.prog 53 = true := by kernel_rfl
theorem T.en54 : W.enters Try.prog 54 = true := by kernel_rfl
theorem T.en55 : W.enters Try.prog 55 = true := by kernel_rfl
theorem T.en56 : W.enters Try.prog 56 = true := by kernel_rfl
theorem T.en57 : W.enters Try.prog 57 = true := by kernel_rfl
theorem T.en58 : W.enters Try.prog 58 = true := by kernel_rfl
theorem T.en59 : W.enters Try.prog 59 = true := by kernel_rfl
theorem T.en60 : W.enters Try.prog 60 = true := by kernel_rfl
theorem T.en61 : W.enters Try.prog 61 = true := by kernel_rfl
theorem T.en62 : W.enters Try.prog 62 = true := by kernel_rfl
theorem T.en63 : W.enters Try.prog 63 = true := by kernel_rfl
theorem T.en64 : W.enters Try.prog 64 = true := by kernel_rfl
theorem T.en65 : W.enters Try.prog 65 = true := by kernel_rfl
theorem T.en66 : W.enters Try.prog 66 = true := by kernel_rfl
theorem T.en67 : W.enters Try.prog 67 = true := by kernel_rfl
theorem T.en68 : W.enters Try.prog 68 = true := by kernel_rfl
theorem T.en69 : W.enters Try.prog 69 = true := by kernel_rfl
theorem T.en70 : W.enters Try.prog 70 = true := by kernel_rfl
theorem T.en71 : W.enters Try.prog 71 = true := by kernel_rfl
theorem T.en72 : W.enters Try.prog 72 = true := by kernel_rfl
theorem T.en73 : W.enters Try.prog 73 = true := by kernel_rfl
theorem T.en74 : W.enters Try.prog 74 = true := by kernel_rfl
theorem T.en75 : W.enters Try.prog 75 = true := by kernel_rfl
theorem T.en76 : W.enters Try.prog 76 = true := by kernel_rfl
/-- all of them -/
def T := And.intro T.sz2 (And.intro T.ag2 (And.intro T.zr2 (And.intro T.by2 (And.intro T.kd2 (And.intro T.sz3 (And.intro T.ag3 (And.intro T.zr3 (And.intro T.by3 (And.intro T.kd3 (And.intro T.sz4 (And.intro T.ag4 (And.intro T.zr4 (And.intro T.by4 (And.intro T.tg4 (And.intro T.sz5 (And.intro T.ag5 (And.intro T.zr5 (And.intro T.by5 (And.intro T.kd5 (And.intro T.sz22 (And.intro T.ag22 (And.intro T.zr22 (And.intro T.by22 (And.intro T.el22 (And.intro T.es22 (And.intro T.tg22 (And.intro T.bo22 (And.intro T.sz23 (And.intro T.ag23 (And.intro T.zr23 (And.intro T.by23 (And.intro T.el23 (And.intro T.es23 (And.intro T.tg23 (And.intro T.bo23 (And.intro T.sz24 (And.intro T.ag24 (And.intro T.zr24 (And.intro T.by24 (And.intro T.fl24_0 (And.intro T.fl24_1 (And.intro T.bl24 (And.intro T.sz25 (And.intro T.ag25 (And.intro T.zr25 (And.intro T.by25 (And.intro T.fl25_0 (And.intro T.fl25_1 (And.intro T.bl25 (And.intro T.sz27 (And.intro T.ag27 (And.intro T.zr27 (And.intro T.by27 (And.intro T.el27 (And.intro T.es27 (And.intro T.tg27 (And.intro T.bo27 (And.intro T.sz28 (And.intro T.ag28 (And.intro T.zr28 (And.intro T.by28 (And.intro T.kd28 (And.intro T.sz34 (And.intro T.ag34 (And.intro T.zr34 (And.intro T.by34 (And.intro T.el34 (And.intro T.es34 (And.intro T.tg34 (And.intro T.bo34 (And.intro T.sz36 (And.intro T.ag36 (And.intro T.zr36 (And.intro T.by36 (And.intro T.el36 (And.intro T.es36 (And.intro T.tg36 (And.intro T.bo36 (And.intro T.sz37 (And.intro T.ag37 (And.intro T.zr37 (And.intro T.by37 (And.intro T.fl37_0 (And.intro T.fl37_1 (And.intro T.fl37_2 (And.intro T.fl37_3 (And.intro T.bl37 (And.intro T.sz38 (And.intro T.ag38 (And.intro T.zr38 (And.intro T.by38 (And.intro T.fl38_0 (And.intro T.fl38_1 (And.intro T.fl38_2 (And.intro T.fl38_3 (And.intro T.bl38 (And.intro T.sz39 (And.intro T.ag39 (And.intro T.zr39 (And.intro T.by39 (And.intro T.fl39_0 (And.intro T.fl39_1 (And.intro T.fl39_2 (And.intro T.fl39_3 (And.intro T.bl39 (And.intro T.sz47 (And.intro T.ag47 (And.intro T.zr47 (And.intro T.by47 (And.intro T.mp47 (And.intro T.sz48 (And.intro T.ag48 (And.intro T.zr48 (And.intro T.by48 (And.intro T.ar48 (And.intro T.bl48 (And.intro T.is48 (And.intro T.fc48 (And.intro T.sz49 (And.intro T.ag49 (And.intro T.zr49 (And.intro T.by49 (And.intro T.el49 (And.intro T.es49 (And.intro T.tg49 (And.intro T.bo49 (And.intro T.sz51 (And.intro T.ag51 (And.intro T.zr51 (And.intro T.by51 (And.intro T.el51 (And.intro T.es51 (And.intro T.tg51 (And.intro T.bo51 (And.intro T.sz52 (And.intro T.ag52 (And.intro T.zr52 (And.intro T.by52 (And.intro T.mp52 (And.intro T.sz53 (And.intro T.ag53 (And.intro T.zr53 (And.intro T.by53 (And.intro T.el53 (And.intro T.es53 (And.intro T.tg53 (And.intro T.bo53 (And.intro T.sz62 (And.intro T.ag62 (And.intro T.zr62 (And.intro T.by62 (And.intro T.mp62 (And.intro T.sz68 (And.intro T.ag68 (And.intro T.zr68 (And.intro T.by68 (And.intro T.fl68_0 (And.intro T.fl68_1 (And.intro T.fl68_2 (And.intro T.bl68 (And.intro T.sz69 (And.intro T.ag69 (And.intro T.zr69 (And.intro T.by69 (And.intro T.fl69_0 (And.intro T.fl69_1 (And.intro T.fl69_2 (And.intro T.bl69 (And.intro T.sz75 (And.intro T.ag75 (And.intro T.zr75 (And.intro T.by75 (And.intro T.sz76 (And.intro T.ag76 (And.intro T.zr76 (And.intro T.by76 (T.mo)))))))))))))))))))))))))))))))))))))))))))))))))))))))))))))))))))))))))))))))))))))))))))))))))))))))))))))))))))))))))))))))))))))))))))))))))))))))))))))))))))))))))))))))))
end Go.Proofs.Ytlhlbiaibgmapaa
