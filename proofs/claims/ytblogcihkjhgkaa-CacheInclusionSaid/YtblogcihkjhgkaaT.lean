/-
  Closed facts on the types and functions of this seat's program, each computed by the kernel. Written by gen_facts.py.
-/
import Derived.Test.YtblogcihkjhgkaaRows
import Derived.Test.YtblogcihkjhgkaaW14
set_option linter.defProp false
set_option maxRecDepth 100000
namespace Go.Proofs.Ytblogcihkjhgkaa
open Go.W
theorem T.sz3 : W.szv Try.prog 3 = some 1 := by kernel_rfl
theorem T.ag3 : W.agb Try.prog 3 = some false := by kernel_rfl
theorem T.zr3 : W.zrv Try.prog 3 = some (.int .i64 0) := by kernel_rfl
theorem T.by3 : W.byv Try.prog 3 = some 8 := by kernel_rfl
theorem T.kd3 : W.kd Try.prog 3 = some .i64 := by kernel_rfl
theorem T.sz4 : W.szv Try.prog 4 = some 1 := by kernel_rfl
theorem T.ag4 : W.agb Try.prog 4 = some false := by kernel_rfl
theorem T.zr4 : W.zrv Try.prog 4 = some (.bool false) := by kernel_rfl
theorem T.by4 : W.byv Try.prog 4 = some 1 := by kernel_rfl
theorem T.tg4 : W.tag Try.prog 4 = 1 := by kernel_rfl
theorem T.sz5 : W.szv Try.prog 5 = some 1 := by kernel_rfl
theorem T.ag5 : W.agb Try.prog 5 = some false := by kernel_rfl
theorem T.zr5 : W.zrv Try.prog 5 = some (.int .u8 0) := by kernel_rfl
theorem T.by5 : W.byv Try.prog 5 = some 1 := by kernel_rfl
theorem T.kd5 : W.kd Try.prog 5 = some .u8 := by kernel_rfl
theorem T.sz22 : W.szv Try.prog 22 = some 3 := by kernel_rfl
theorem T.ag22 : W.agb Try.prog 22 = some true := by kernel_rfl
theorem T.zr22 : W.zrv Try.prog 22 = some (.agg #[.int .i64 0, .int .i64 0, .int .i64 0]) := by kernel_rfl
theorem T.by22 : W.byv Try.prog 22 = some 24 := by kernel_rfl
theorem T.fl22_0 : W.fld Try.prog 22 0 = some (0, 1, false) := by kernel_rfl
theorem T.fl22_1 : W.fld Try.prog 22 1 = some (1, 1, false) := by kernel_rfl
theorem T.fl22_2 : W.fld Try.prog 22 2 = some (2, 1, false) := by kernel_rfl
theorem T.bl22 : W.bldp Try.prog 22 = some (#[.int .i64 0, .int .i64 0, .int .i64 0], [(0, 1), (1, 1), (2, 1)]) := by kernel_rfl
theorem T.is22 : W.intStruct Try.prog 22 = true := by kernel_rfl
theorem T.fc22 : W.fieldCount Try.prog 22 = 3 := by kernel_rfl
theorem T.sz23 : W.szv Try.prog 23 = some 3 := by kernel_rfl
theorem T.ag23 : W.agb Try.prog 23 = some true := by kernel_rfl
theorem T.zr23 : W.zrv Try.prog 23 = some (.agg #[.int .i64 0, .int .i64 0, .int .i64 0]) := by kernel_rfl
theorem T.by23 : W.byv Try.prog 23 = some 24 := by kernel_rfl
theorem T.fl23_0 : W.fld Try.prog 23 0 = some (0, 1, false) := by kernel_rfl
theorem T.fl23_1 : W.fld Try.prog 23 1 = some (1, 1, false) := by kernel_rfl
theorem T.fl23_2 : W.fld Try.prog 23 2 = some (2, 1, false) := by kernel_rfl
theorem T.bl23 : W.bldp Try.prog 23 = some (#[.int .i64 0, .int .i64 0, .int .i64 0], [(0, 1), (1, 1), (2, 1)]) := by kernel_rfl
theorem T.is23 : W.intStruct Try.prog 23 = true := by kernel_rfl
theorem T.fc23 : W.fieldCount Try.prog 23 = 3 := by kernel_rfl
theorem T.sz25 : W.szv Try.prog 25 = some 1 := by kernel_rfl
theorem T.ag25 : W.agb Try.prog 25 = some false := by kernel_rfl
theorem T.zr25 : W.zrv Try.prog 25 = some (.pointer none) := by kernel_rfl
theorem T.by25 : W.byv Try.prog 25 = some 8 := by kernel_rfl
theorem T.tg25 : W.tag Try.prog 25 = 2 := by kernel_rfl
theorem T.sz26 : W.szv Try.prog 26 = some 1 := by kernel_rfl
theorem T.ag26 : W.agb Try.prog 26 = some false := by kernel_rfl
theorem T.zr26 : W.zrv Try.prog 26 = some (.int .i64 0) := by kernel_rfl
theorem T.by26 : W.byv Try.prog 26 = some 8 := by kernel_rfl
theorem T.kd26 : W.kd Try.prog 26 = some .i64 := by kernel_rfl
theorem T.sz32 : W.szv Try.prog 32 = some 1 := by kernel_rfl
theorem T.ag32 : W.agb Try.prog 32 = some false := by kernel_rfl
theorem T.zr32 : W.zrv Try.prog 32 = some (.slice none 0 0) := by kernel_rfl
theorem T.by32 : W.byv Try.prog 32 = some 24 := by kernel_rfl
theorem T.el32 : W.elt Try.prog 32 = some 3 := by kernel_rfl
theorem T.es32 : W.esz Try.prog 32 = some 1 := by kernel_rfl
theorem T.tg32 : W.tag Try.prog 32 = 3 := by kernel_rfl
theorem T.bo32 : W.sBuildSliceOk Try.prog 32 = true := by kernel_rfl
theorem T.sz33 : W.szv Try.prog 33 = some 1 := by kernel_rfl
theorem T.ag33 : W.agb Try.prog 33 = some false := by kernel_rfl
theorem T.zr33 : W.zrv Try.prog 33 = some (.slice none 0 0) := by kernel_rfl
theorem T.by33 : W.byv Try.prog 33 = some 24 := by kernel_rfl
theorem T.el33 : W.elt Try.prog 33 = some 5 := by kernel_rfl
theorem T.es33 : W.esz Try.prog 33 = some 1 := by kernel_rfl
theorem T.tg33 : W.tag Try.prog 33 = 3 := by kernel_rfl
theorem T.bo33 : W.sBuildSliceOk Try.prog 33 = true := by kernel_rfl
theorem T.sz39 : W.szv Try.prog 39 = some 1 := by kernel_rfl
theorem T.ag39 : W.agb Try.prog 39 = some false := by kernel_rfl
theorem T.zr39 : W.zrv Try.prog 39 = some (.slice none 0 0) := by kernel_rfl
theorem T.by39 : W.byv Try.prog 39 = some 24 := by kernel_rfl
theorem T.el39 : W.elt Try.prog 39 = some 32 := by kernel_rfl
theorem T.es39 : W.esz Try.prog 39 = some 1 := by kernel_rfl
theorem T.tg39 : W.tag Try.prog 39 = 3 := by kernel_rfl
theorem T.bo39 : W.sBuildSliceOk Try.prog 39 = true := by kernel_rfl
theorem T.sz43 : W.szv Try.prog 43 = some 1 := by kernel_rfl
theorem T.ag43 : W.agb Try.prog 43 = some false := by kernel_rfl
theorem T.zr43 : W.zrv Try.prog 43 = some (.map none) := by kernel_rfl
theorem T.by43 : W.byv Try.prog 43 = some 8 := by kernel_rfl
theorem T.me43 : W.mpe Try.prog 43 = some 4 := by kernel_rfl
theorem T.mp43 : W.isMapT Try.prog 43 = true := by kernel_rfl
theorem T.sz51 : W.szv Try.prog 51 = some 4 := by kernel_rfl
theorem T.ag51 : W.agb Try.prog 51 = some true := by kernel_rfl
theorem T.zr51 : W.zrv Try.prog 51 = some (.agg #[.int .i64 0, .int .i64 0, .int .i64 0, .slice none 0 0]) := by kernel_rfl
theorem T.by51 : W.byv Try.prog 51 = some 48 := by kernel_rfl
theorem T.fl51_0 : W.fld Try.prog 51 0 = some (0, 3, true) := by kernel_rfl
theorem T.fl51_1 : W.fld Try.prog 51 1 = some (3, 1, false) := by kernel_rfl
theorem T.bl51 : W.bldp Try.prog 51 = some (#[.int .i64 0, .int .i64 0, .int .i64 0, .slice none 0 0], [(0, 3), (3, 1)]) := by kernel_rfl
theorem T.sz52 : W.szv Try.prog 52 = some 4 := by kernel_rfl
theorem T.ag52 : W.agb Try.prog 52 = some true := by kernel_rfl
theorem T.zr52 : W.zrv Try.prog 52 = some (.agg #[.int .i64 0, .int .i64 0, .int .i64 0, .slice none 0 0]) := by kernel_rfl
theorem T.by52 : W.byv Try.prog 52 = some 48 := by kernel_rfl
theorem T.fl52_0 : W.fld Try.prog 52 0 = some (0, 3, true) := by kernel_rfl
theorem T.fl52_1 : W.fld Try.prog 52 1 = some (3, 1, false) := by kernel_rfl
theorem T.bl52 : W.bldp Try.prog 52 = some (#[.int .i64 0, .int .i64 0, .int .i64 0, .slice none 0 0], [(0, 3), (3, 1)]) := by kernel_rfl
theorem T.mo : Try.prog.follows .mixedOrders = true := by kernel_rfl
theorem T.en2 : W.enters Try.prog 2 = true := by kernel_rfl
theorem T.en3 : W.enters Try.prog 3 = true := by kernel_rfl
theorem T.en4 : W.enters Try.prog 4 = true := by kernel_rfl
theorem T.en5 : W.enters Try.prog 5 = true := by kernel_rfl
theorem T.en6 : W.enters Try.prog 6 = true := by kernel_rfl
theorem T.en7 : W.enters Try.prog 7 = true := by kernel_rfl
theorem T.en8 : W.enters Try.prog 8 = true := by kernel_rfl
theorem T.en9 : W.enters Try.prog 9 = true := by kernel_rfl
theorem T.en10 : W.enters Try.prog 10 = true := by kernel_rfl
theorem T.en11 : W.enters Try.prog 11 = true := by kernel_rfl
theorem T.en12 : W.enters Try.prog 12 = true := by kernel_rfl
theorem T.en13 : W.enters Try.prog 13 = true := by kernel_rfl
theorem T.en14 : W.enters Try.prog 14 = true := by kernel_rfl
theorem T.en15 : W.enters Try.prog 15 = true := by kernel_rfl
theorem T.en16 : W.enters Try.prog 16 = true := by kernel_rfl
theorem T.en17 : W.enters Try.prog 17 = true := by kernel_rfl
theorem T.en18 : W.enters Try.prog 18 = true := by kernel_rfl
theorem T.en19 : W.enters Try.prog 19 = true := by kernel_rfl
theorem T.en20 : W.enters Try.prog 20 = true := by kernel_rfl
theorem T.en21 : W.enters Try.prog 21 = true := by kernel_rfl
theorem T.en22 : W.enters Try.prog 22 = true := by kernel_rfl
theorem T.en23 : W.enters Try.prog 23 = true := by kernel_rfl
theorem T.en24 : W.enters Try.prog 24 = true := by kernel_rfl
theorem T.en25 : W.enters Try.prog 25 = true := by kernel_rfl
theorem T.en26 : W.enters Try.prog 26 = true := by kernel_rfl
theorem T.en27 : W.enters Try.prog 27 = true := by kernel_rfl
theorem T.en28 : W.enters Try.prog 28 = true := by kernel_rfl
theorem T.en29 : W.enters Try.prog 29 = true := by kernel_rfl
theorem T.en30 : W.enters Try.prog 30 = true := by kernel_rfl
theorem T.en31 : W.enters Try.prog 31 = true := by kernel_rfl
theorem T.en32 : W.enters Try.prog 32 = true := by kernel_rfl
theorem T.en33 : W.enters Try.prog 33 = true := by kernel_rfl
theorem T.en34 : W.enters Try.prog 34 = true := by kernel_rfl
theorem T.en35 : W.enters Try.prog 35 = true := by kernel_rfl
theorem T.en36 : W.enters Try.prog 36 = true := by kernel_rfl
theorem T.en37 : W.enters Try.prog 37 = true := by kernel_rfl
theorem T.en39 : W.enters Try.prog 39 = true := by kernel_rfl
theorem T.en40 : W.enters Try.prog 40 = true := by kernel_rfl
theorem T.en41 : W.enters Try.prog 41 = true := by kernel_rfl
/-- all of them -/
def T := And.intro T.sz3 (And.intro T.ag3 (And.intro T.zr3 (And.intro T.by3 (And.intro T.kd3 (And.intro T.sz4 (And.intro T.ag4 (And.intro T.zr4 (And.intro T.by4 (And.intro T.tg4 (And.intro T.sz5 (And.intro T.ag5 (And.intro T.zr5 (And.intro T.by5 (And.intro T.kd5 (And.intro T.sz22 (And.intro T.ag22 (And.intro T.zr22 (And.intro T.by22 (And.intro T.fl22_0 (And.intro T.fl22_1 (And.intro T.fl22_2 (And.intro T.bl22 (And.intro T.is22 (And.intro T.fc22 (And.intro T.sz23 (And.intro T.ag23 (And.intro T.zr23 (And.intro T.by23 (And.intro T.fl23_0 (And.intro T.fl23_1 (And.intro T.fl23_2 (And.intro T.bl23 (And.intro T.is23 (And.intro T.fc23 (And.intro T.sz25 (And.intro T.ag25 (And.intro T.zr25 (And.intro T.by25 (And.intro T.tg25 (And.intro T.sz26 (And.intro T.ag26 (And.intro T.zr26 (And.intro T.by26 (And.intro T.kd26 (And.intro T.sz32 (And.intro T.ag32 (And.intro T.zr32 (And.intro T.by32 (And.intro T.el32 (And.intro T.es32 (And.intro T.tg32 (And.intro T.bo32 (And.intro T.sz33 (And.intro T.ag33 (And.intro T.zr33 (And.intro T.by33 (And.intro T.el33 (And.intro T.es33 (And.intro T.tg33 (And.intro T.bo33 (And.intro T.sz39 (And.intro T.ag39 (And.intro T.zr39 (And.intro T.by39 (And.intro T.el39 (And.intro T.es39 (And.intro T.tg39 (And.intro T.bo39 (And.intro T.sz43 (And.intro T.ag43 (And.intro T.zr43 (And.intro T.by43 (And.intro T.mp43 (And.intro T.sz51 (And.intro T.ag51 (And.intro T.zr51 (And.intro T.by51 (And.intro T.fl51_0 (And.intro T.fl51_1 (And.intro T.bl51 (And.intro T.sz52 (And.intro T.ag52 (And.intro T.zr52 (And.intro T.by52 (And.intro T.fl52_0 (And.intro T.fl52_1 (And.intro T.bl52 (T.mo))))))))))))))))))))))))))))))))))))))))))))))))))))))))))))))))))))))))))))))))))))))))
end Go.Proofs.Ytblogcihkjhgkaa
