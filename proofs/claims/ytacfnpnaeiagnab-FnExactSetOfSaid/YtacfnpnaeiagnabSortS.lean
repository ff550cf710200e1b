-- Written for this claim by a program of this session (mksort.py): the library's sort, laid by the kit.
import Derived.Test.YtacfnpnaeiagnabES
import Derived.Shelf.SlSortCmp.NoneTotal
import Derived.Shelf.SlGeneric
import Derived.Ground.SlsfProg
namespace Go.Proofs
open Go.Shelf Go.RowKit Go.Lib Go.Sort
set_option maxHeartbeats 4000000
set_option maxRecDepth 100000
shelf_lay_g SlLaysF0.n6 Slsf 6 at Try 71 as Try.sort71
end Go.Proofs
namespace Go.Proofs.Ytacfnpnaeiagnab.PS
open Go Go.Den Go.RowKit
set_option maxHeartbeats 4000000
set_option maxRecDepth 100000
theorem sortOk71 : SortOk Try.prog 71 S54 where
  lt := by decide
  tup := by kernel_rfl
  flat := rfl
  isP := rfl
  pos := by decide
  ent := enters_of Try.func71 (by kernel_rfl) rfl
  nil0 := fun p cap fv w => AnyF.slices_SortFunc_none Try.sort71 p cap fv w
  run := fun α _ enc hk h1 cf hO g blk cap d w eg hcmp hH hblk hsz => AnyQ.slices_SortFunc_eq Try.sort71 S54.size Try.isAgg54 Try.sizeOf54 enc hk h1 cf hO g #[] blk 0 cap d w eg hcmp hH hblk hsz
theorem sorts : SortsOk E.prog E.frs E.sorts := ⟨⟨by decide, by kernel_rfl, sortOk71⟩, trivial⟩
end Go.Proofs.Ytacfnpnaeiagnab.PS
