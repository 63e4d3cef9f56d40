/- The pure machine, part 17: the rules by which a walk is reckoned. -/
import Derived.Test.YtmljpbhmdjpbaaaPm16
namespace Go.PM
set_option linter.unusedVariables false
set_option linter.unusedSimpArgs false
theorem upd_apply (t : Nat → PV) (k : Nat) (p : PV) (j : Nat) : upd t k p j = if j = k then p else t j := rfl
theorem hup_apply (h : Hp) (k : Nat) (x : Option PB) (j : Nat) : hup h k x j = if j = k then x else h j := rfl
theorem rowsH_nil : rowsH [] = fun _ => none := rfl
theorem isNilP_nil : isNilP (.d (.val (.slice none 0 0))) = some true := rfl
theorem isNilP_cons (x : List DV) (l : List (List DV)) : isNilP (.d (.imm (x :: l))) = some false := rfl
theorem isNilP_own (i s o n : Nat) : isNilP (.own i s o (n + 1)) = some false := rfl
attribute [simp] stepO stepCall evP constP cellC dstOk Core.app Core.put happ opndOk optOk opndsOk Value.oneCell' upd_apply gval
  stPick stLoad stStore stFieldAddr stField stIndexAddr stIndex stExtract stNilCheck stIntBin stNilBin stBoolBin stStrBin stBin stUn stConvert stLen stMin stMax stAlloc stBox stBuild stBuildSlice stMakeSlice stAppend stCopy stSlice2 stMakeFunc stMakeMap stLookup stMapUpdate pvR lookR
  isNilP_nil isNilP_cons isNilP_own isNilC isSliceD isBoolD cellsOf ldP putAt fillP zP elemsOf footOf lenP cutOf PV.cell resP resAll resOne PV.idsIn PV.idsInL rowsH_nil stBinA_d stBinA_own stBinA_agg stAggEq valsOf eqvL LK.eqv
end Go.PM
