/-
  Closed facts on the types and functions of this seat's program, each computed by the kernel. Written by gen_facts.py.
-/
import Derived.Test.YtjilblndcbphgaaRows
import Derived.Test.YtjilblndcbphgaaZW
set_option linter.defProp false
set_option maxRecDepth 100000
namespace Go.Proofs.Ytjilblndcbphgaa
open Go.W
theorem T.sz3 : W.szv Try.prog 3 = some 1 := by kernel_rfl
theorem T.ag3 : W.agb Try.prog 3 = some false := by kernel_rfl
theorem T.zr3 : W.zrv Try.prog 3 = some (.int .i64 0) := by kernel_rfl
theorem T.by3 : W.byv Try.prog 3 = some 8 := by kernel_rfl
theorem T.kd3 : W.kd Try.prog 3 = some .i64 := by kernel_rfl
theorem T.sz4 : W.szv Try.prog 4 = some 1 := by kernel_rfl
theorem T.ag4 : W.agb Try.prog 4 = some false := by kernel_rfl
theorem T.zr4 : W.zrv Try.prog 4 = some (.bool false) := by kernel_rfl
theorem T.by4 : W.byv Try.prog 4 = some 1 := by kernel_rfl
theorem T.tg4 : W.tag Try.prog 4 = 1 := by kernel_rfl
theorem T.sz5 : W.szv Try.prog 5 = some 1 := by kernel_rfl
theorem T.ag5 : W.agb Try.prog 5 = some false := by kernel_rfl
theorem T.zr5 : W.zrv Try.prog 5 = some (.int .u8 0) := by kernel_rfl
theorem T.by5 : W.byv Try.prog 5 = some 1 := by kernel_rfl
theorem T.kd5 : W.kd Try.prog 5 = some .u8 := by kernel_rfl
theorem T.sz22 : W.szv Try.prog 22 = some 1 := by kernel_rfl
theorem T.ag22 : W.agb Try.prog 22 = some false := by kernel_rfl
theorem T.zr22 : W.zrv Try.prog 22 = some (.slice none 0 0) := by kernel_rfl
theorem T.by22 : W.byv Try.prog 22 = some 24 := by kernel_rfl
theorem T.el22 : W.elt Try.prog 22 = some 46 := by kernel_rfl
theorem T.es22 : W.esz Try.prog 22 = some 3 := by kernel_rfl
theorem T.tg22 : W.tag Try.prog 22 = 3 := by kernel_rfl
theorem T.bo22 : W.sBuildSliceOk Try.prog 22 = true := by kernel_rfl
theorem T.sz23 : W.szv Try.prog 23 = some 1 := by kernel_rfl
theorem T.ag23 : W.agb Try.prog 23 = some false := by kernel_rfl
theorem T.zr23 : W.zrv Try.prog 23 = some (.slice none 0 0) := by kernel_rfl
theorem T.by23 : W.byv Try.prog 23 = some 24 := by kernel_rfl
theorem T.el23 : W.elt Try.prog 23 = some 29 := by kernel_rfl
theorem T.es23 : W.esz Try.prog 23 = some 1 := by kernel_rfl
theorem T.tg23 : W.tag Try.prog 23 = 3 := by kernel_rfl
theorem T.bo23 : W.sBuildSliceOk Try.prog 23 = true := by kernel_rfl
theorem T.sz24 : W.szv Try.prog 24 = some 2 := by kernel_rfl
theorem T.ag24 : W.agb Try.prog 24 = some true := by kernel_rfl
theorem T.zr24 : W.zrv Try.prog 24 = some (.agg #[.slice none 0 0, .slice none 0 0]) := by kernel_rfl
theorem T.by24 : W.byv Try.prog 24 = some 48 := by kernel_rfl
theorem T.fl24_0 : W.fld Try.prog 24 0 = some (0, 1, false) := by kernel_rfl
theorem T.fl24_1 : W.fld Try.prog 24 1 = some (1, 1, false) := by kernel_rfl
theorem T.bl24 : W.bldp Try.prog 24 = some (#[.slice none 0 0, .slice none 0 0], [(0, 1), (1, 1)]) := by kernel_rfl
theorem T.sz25 : W.szv Try.prog 25 = some 2 := by kernel_rfl
theorem T.ag25 : W.agb Try.prog 25 = some true := by kernel_rfl
theorem T.zr25 : W.zrv Try.prog 25 = some (.agg #[.slice none 0 0, .slice none 0 0]) := by kernel_rfl
theorem T.by25 : W.byv Try.prog 25 = some 48 := by kernel_rfl
theorem T.fl25_0 : W.fld Try.prog 25 0 = some (0, 1, false) := by kernel_rfl
theorem T.fl25_1 : W.fld Try.prog 25 1 = some (1, 1, false) := by kernel_rfl
theorem T.bl25 : W.bldp Try.prog 25 = some (#[.slice none 0 0, .slice none 0 0], [(0, 1), (1, 1)]) := by kernel_rfl
theorem T.sz29 : W.szv Try.prog 29 = some 1 := by kernel_rfl
theorem T.ag29 : W.agb Try.prog 29 = some false := by kernel_rfl
theorem T.zr29 : W.zrv Try.prog 29 = some (.slice none 0 0) := by kernel_rfl
theorem T.by29 : W.byv Try.prog 29 = some 24 := by kernel_rfl
theorem T.el29 : W.elt Try.prog 29 = some 3 := by kernel_rfl
theorem T.es29 : W.esz Try.prog 29 = some 1 := by kernel_rfl
theorem T.tg29 : W.tag Try.prog 29 = 3 := by kernel_rfl
theorem T.bo29 : W.sBuildSliceOk Try.prog 29 = true := by kernel_rfl
theorem T.sz35 : W.szv Try.prog 35 = some 1 := by kernel_rfl
theorem T.ag35 : W.agb Try.prog 35 = some false := by kernel_rfl
theorem T.zr35 : W.zrv Try.prog 35 = some (.slice none 0 0) := by kernel_rfl
theorem T.by35 : W.byv Try.prog 35 = some 24 := by kernel_rfl
theorem T.el35 : W.elt Try.prog 35 = some 4 := by kernel_rfl
theorem T.es35 : W.esz Try.prog 35 = some 1 := by kernel_rfl
theorem T.tg35 : W.tag Try.prog 35 = 3 := by kernel_rfl
theorem T.bo35 : W.sBuildSliceOk Try.prog 35 = true := by kernel_rfl
theorem T.sz42 : W.szv Try.prog 42 = some 1 := by kernel_rfl
theorem T.ag42 : W.agb Try.prog 42 = some false := by kernel_rfl
theorem T.zr42 : W.zrv Try.prog 42 = some (.nilFunc) := by kernel_rfl
theorem T.by42 : W.byv Try.prog 42 = some 8 := by kernel_rfl
theorem T.sz45 : W.szv Try.prog 45 = some 3 := by kernel_rfl
theorem T.ag45 : W.agb Try.prog 45 = some true := by kernel_rfl
theorem T.zr45 : W.zrv Try.prog 45 = some (.agg #[.int .i64 0, .int .i64 0, .slice none 0 0]) := by kernel_rfl
theorem T.by45 : W.byv Try.prog 45 = some 40 := by kernel_rfl
theorem T.fl45_0 : W.fld Try.prog 45 0 = some (0, 1, false) := by kernel_rfl
theorem T.fl45_1 : W.fld Try.prog 45 1 = some (1, 1, false) := by kernel_rfl
theorem T.fl45_2 : W.fld Try.prog 45 2 = some (2, 1, false) := by kernel_rfl
theorem T.bl45 : W.bldp Try.prog 45 = some (#[.int .i64 0, .int .i64 0, .slice none 0 0], [(0, 1), (1, 1), (2, 1)]) := by kernel_rfl
theorem T.sz46 : W.szv Try.prog 46 = some 3 := by kernel_rfl
theorem T.ag46 : W.agb Try.prog 46 = some true := by kernel_rfl
theorem T.zr46 : W.zrv Try.prog 46 = some (.agg #[.int .i64 0, .int .i64 0, .slice none 0 0]) := by kernel_rfl
theorem T.by46 : W.byv Try.prog 46 = some 40 := by kernel_rfl
theorem T.fl46_0 : W.fld Try.prog 46 0 = some (0, 1, false) := by kernel_rfl
theorem T.fl46_1 : W.fld Try.prog 46 1 = some (1, 1, false) := by kernel_rfl
theorem T.fl46_2 : W.fld Try.prog 46 2 = some (2, 1, false) := by kernel_rfl
theorem T.bl46 : W.bldp Try.prog 46 = some (#[.int .i64 0, .int .i64 0, .slice none 0 0], [(0, 1), (1, 1), (2, 1)]) := by kernel_rfl
theorem T.sz47 : W.szv Try.prog 47 = some 1 := by kernel_rfl
theorem T.ag47 : W.agb Try.prog 47 = some false := by kernel_rfl
theorem T.zr47 : W.zrv Try.prog 47 = some (.nilFunc) := by kernel_rfl
theorem T.by47 : W.byv Try.prog 47 = some 8 := by kernel_rfl
theorem T.sz48 : W.szv Try.prog 48 = some 1 := by kernel_rfl
theorem T.ag48 : W.agb Try.prog 48 = some false := by kernel_rfl
theorem T.zr48 : W.zrv Try.prog 48 = some (.nilFunc) := by kernel_rfl
theorem T.by48 : W.byv Try.prog 48 = some 8 := by kernel_rfl
theorem T.mo : Try.prog.follows .mixedOrders = true := by kernel_rfl
theorem T.en2 : W.enters Try.prog 2 = true := by kernel_rfl
theorem T.en3 : W.enters Try.prog 3 = true := by kernel_rfl
theorem T.en4 : W.enters Try.prog 4 = true := by kernel_rfl
theorem T.en5 : W.enters Try.prog 5 = true := by kernel_rfl
theorem T.en6 : W.enters Try.prog 6 = true := by kernel_rfl
theorem T.en7 : W.enters Try.prog 7 = true := by kernel_rfl
theorem T.en8 : W.enters Try.prog 8 = true := by kernel_rfl
theorem T.en9 : W.enters Try.prog 9 = true := by kernel_rfl
theorem T.en10 : W.enters Try.prog 10 = true := by kernel_rfl
theorem T.en11 : W.enters Try.prog 11 = true := by kernel_rfl
theorem T.en12 : W.enters Try.prog 12 = true := by kernel_rfl
theorem T.en13 : W.enters Try.prog 13 = true := by kernel_rfl
theorem T.en14 : W.enters Try.prog 14 = true := by kernel_rfl
theorem T.en15 : W.enters Try.prog 15 = true := by kernel_rfl
theorem T.en16 : W.enters Try.prog 16 = true := by kernel_rfl
theorem T.en17 : W.enters Try.prog 17 = true := by kernel_rfl
theorem T.en18 : W.enters Try.prog 18 = true := by kernel_rfl
theorem T.en19 : W.enters Try.prog 19 = true := by kernel_rfl
theorem T.en20 : W.enters Try.prog 20 = true := by kernel_rfl
theorem T.en21 : W.enters Try.prog 21 = true := by kernel_rfl
theorem T.en22 : W.enters Try.prog 22 = true := by kernel_rfl
theorem T.en23 : W.enters Try.prog 23 = true := by kernel_rfl
theorem T.en24 : W.enters Try.prog 24 = true := by kernel_rfl
theorem T.en25 : W.enters Try.prog 25 = true := by kernel_rfl
theorem T.en26 : W.enters Try.prog 26 = true := by kernel_rfl
theorem T.en27 : W.enters Try.prog 27 = true := by kernel_rfl
theorem T.en28 : W.enters Try.prog 28 = true := by kernel_rfl
theorem T.en29 : W.enters Try.prog 29 = true := by kernel_rfl
theorem T.en30 : W.enters Try.prog 30 = true := by kernel_rfl
theorem T.en31 : W.enters Try.prog 31 = true := by kernel_rfl
theorem T.en32 : W.enters Try.prog 32 = true := by kernel_rfl
theorem T.en33 : W.enters Try.prog 33 = true := by kernel_rfl
theorem T.en34 : W.enters Try.prog 34 = true := by kernel_rfl
/-- all of them -/
def T := And.intro T.sz3 (And.intro T.ag3 (And.intro T.zr3 (And.intro T.by3 (And.intro T.kd3 (And.intro T.sz4 (And.intro T.ag4 (And.intro T.zr4 (And.intro T.by4 (And.intro T.tg4 (And.intro T.sz5 (And.intro T.ag5 (And.intro T.zr5 (And.intro T.by5 (And.intro T.kd5 (And.intro T.sz22 (And.intro T.ag22 (And.intro T.zr22 (And.intro T.by22 (And.intro T.el22 (And.intro T.es22 (And.intro T.tg22 (And.intro T.bo22 (And.intro T.sz23 (And.intro T.ag23 (And.intro T.zr23 (And.intro T.by23 (And.intro T.el23 (And.intro T.es23 (And.intro T.tg23 (And.intro T.bo23 (And.intro T.sz24 (And.intro T.ag24 (And.intro T.zr24 (And.intro T.by24 (And.intro T.fl24_0 (And.intro T.fl24_1 (And.intro T.bl24 (And.intro T.sz25 (And.intro T.ag25 (And.intro T.zr25 (And.intro T.by25 (And.intro T.fl25_0 (And.intro T.fl25_1 (And.intro T.bl25 (And.intro T.sz29 (And.intro T.ag29 (And.intro T.zr29 (And.intro T.by29 (And.intro T.el29 (And.intro T.es29 (And.intro T.tg29 (And.intro T.bo29 (And.intro T.sz35 (And.intro T.ag35 (And.intro T.zr35 (And.intro T.by35 (And.intro T.el35 (And.intro T.es35 (And.intro T.tg35 (And.intro T.bo35 (And.intro T.sz42 (And.intro T.ag42 (And.intro T.zr42 (And.intro T.by42 (And.intro T.sz45 (And.intro T.ag45 (And.intro T.zr45 (And.intro T.by45 (And.intro T.fl45_0 (And.intro T.fl45_1 (And.intro T.fl45_2 (And.intro T.bl45 (And.intro T.sz46 (And.intro T.ag46 (And.intro T.zr46 (And.intro T.by46 (And.intro T.fl46_0 (And.intro T.fl46_1 (And.intro T.fl46_2 (And.intro T.bl46 (And.intro T.sz47 (And.intro T.ag47 (And.intro T.zr47 (And.intro T.by47 (And.intro T.sz48 (And.intro T.ag48 (And.intro T.zr48 (And.intro T.by48 (T.mo)))))))))))))))))))))))))))))))))))))))))))))))))))))))))))))))))))))))))))))))))))))))))
end Go.Proofs.Ytjilblndcbphgaa
