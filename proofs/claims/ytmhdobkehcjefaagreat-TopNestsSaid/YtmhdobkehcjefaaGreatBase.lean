/- The program, and what is known of its equalities. -/
import Derived.Test.YtmhdobkehcjefaaGreatVHC4
import Derived.Test.YtmhdobkehcjefaaGreatVHC3
import Derived.HandedShaped
import Derived.Shelf.Strings.Search3
import Derived.Shelf.Vars
import Derived.Test.YtmhdobkehcjefaaGreatProg
set_option linter.unusedVariables false
set_option linter.unusedSimpArgs false
set_option linter.unusedSectionVars false
namespace Go.Proofs
open Go.Shelf
def Tryz.Qd:Go.Shelf.Ren:=⟨fun | 144=>52 | 143=>74 | 219=>83 | 217=>113 | 225=>114 | 224=>115 | 267=>116 | 266=>129 | 314=>130 | n=>n,fun | 9=>9 | 4=>4 | 3=>3 | 5=>5 | 46=>137 | 146=>180 | 51=>152 | n=>n,fun | 1=>0 | n=>n⟩
theorem Tryz.Xh:Go.Proofs.Lays.n144 Tryz.prog Tryz.Qd:={
 mixed:=by kernel_rfl
 f143:=Tryz.func74.trans (congrArg some (by kernel_rfl))
 f144:=Tryz.func52.trans (congrArg some (by kernel_rfl))
 f217:=Tryz.func113.trans (congrArg some (by kernel_rfl))
 f219:=Tryz.func83.trans (congrArg some (by kernel_rfl))
 f224:=Tryz.func115.trans (congrArg some (by kernel_rfl))
 f225:=Tryz.func114.trans (congrArg some (by kernel_rfl))
 f266:=Tryz.func129.trans (congrArg some (by kernel_rfl))
 f267:=Tryz.func116.trans (congrArg some (by kernel_rfl))
 f314:=Tryz.func130.trans (congrArg some (by kernel_rfl))
 t3:=Tryz.underlying3
 a3:=Tryz.isAgg3
 z3:=Tryz.sizeOf3
 v3:=Tryz.zeroValue3
 t4:=Tryz.underlying4
 a4:=Tryz.isAgg4
 z4:=Tryz.sizeOf4
 v4:=Tryz.zeroValue4
 t5:=Tryz.underlying5
 a5:=Tryz.isAgg5
 z5:=Tryz.sizeOf5
 v5:=Tryz.zeroValue5
 t9:=Tryz.underlying9
 a9:=Tryz.isAgg9
 z9:=Tryz.sizeOf9
 v9:=Tryz.zeroValue9
 t46:=Tryz.underlying137
 a46:=Tryz.isAgg137
 z46:=Tryz.sizeOf137
 v46:=Tryz.zeroValue137
 t51:=Tryz.underlying152
 a51:=Tryz.isAgg152
 z51:=Tryz.sizeOf152
 v51:=Tryz.zeroValue152
 t146:=Tryz.underlying180
 a146:=Tryz.isAgg180
 z146:=Tryz.sizeOf180
 v146:=Tryz.zeroValue180
 g1:=by kernel_rfl }
end Go.Proofs
namespace Go.Proofs.YtmhdobkehcjefaaGreat
open Go Go.VI Go.Proofs
def eqn:TypeId→Nat:=fun t=>0
theorem hE:∀ t,0<eqn t→EqC Tryz.prog t (eqn t):=fun t h=>absurd h (Nat.lt_irrefl 0)
noncomputable def G:Prg:=⟨Tryz.prog,eqn,hE,by kernel_rfl⟩
theorem gl_ {W:World} (h:W.ShapedOpen Tryz.prog):∀ b,MC Tryz.prog=some b→b<W.heap.size∧∃ m,W.cell? ⟨b,0,none⟩=some (.int .i64 m):=fun b hb=>by
 obtain rfl:0=b:=Option.some.inj ((show MC Tryz.prog=some 0 by kernel_rfl).symm.trans hb)
 obtain ⟨m,hm⟩:=cell_of_shapedOpen_int (g:=0) (zero:=#[.int .i64 0]) h (by decide +kernel) (by kernel_rfl) rfl (by kernel_rfl) (by kernel_rfl) Tryz.underlying3
 exact ⟨World.block_lt_of_cell? W _ hm,m,hm⟩
end Go.Proofs.YtmhdobkehcjefaaGreat
