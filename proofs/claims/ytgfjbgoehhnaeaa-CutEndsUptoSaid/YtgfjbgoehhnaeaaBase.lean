/- The program, and what is known of its equalities. -/
import Derived.Test.YtgfjbgoehhnaeaaVHC4
import Derived.Test.YtgfjbgoehhnaeaaVHC3
import Derived.HandedShaped
import Derived.Shelf.Strings.Search3
import Derived.Shelf.Vars
import Derived.Test.YtgfjbgoehhnaeaaProg
set_option linter.unusedVariables false
set_option linter.unusedSimpArgs false
set_option linter.unusedSectionVars false
namespace Go.Proofs
open Go.Shelf
def Try.Qv:Go.Shelf.Ren:=⟨fun | 144=>75 | 143=>82 | 219=>96 | 217=>102 | 225=>103 | 224=>104 | 267=>105 | 266=>107 | 314=>108 | n=>n,fun | 9=>9 | 4=>4 | 3=>3 | 5=>5 | 46=>122 | 146=>148 | 51=>134 | n=>n,fun | 1=>0 | n=>n⟩
theorem Try.AR:Go.Proofs.Lays.n144 Try.prog Try.Qv:={
  mixed:=by kernel_rfl
  f143:=Try.func82.trans (congrArg some (by kernel_rfl))
  f144:=Try.func75.trans (congrArg some (by kernel_rfl))
  f217:=Try.func102.trans (congrArg some (by kernel_rfl))
  f219:=Try.func96.trans (congrArg some (by kernel_rfl))
  f224:=Try.func104.trans (congrArg some (by kernel_rfl))
  f225:=Try.func103.trans (congrArg some (by kernel_rfl))
  f266:=Try.func107.trans (congrArg some (by kernel_rfl))
  f267:=Try.func105.trans (congrArg some (by kernel_rfl))
  f314:=Try.func108.trans (congrArg some (by kernel_rfl))
  t3:=Try.underlying3
  a3:=Try.isAgg3
  z3:=Try.sizeOf3
  v3:=Try.zeroValue3
  t4:=Try.underlying4
  a4:=Try.isAgg4
  z4:=Try.sizeOf4
  v4:=Try.zeroValue4
  t5:=Try.underlying5
  a5:=Try.isAgg5
  z5:=Try.sizeOf5
  v5:=Try.zeroValue5
  t9:=Try.underlying9
  a9:=Try.isAgg9
  z9:=Try.sizeOf9
  v9:=Try.zeroValue9
  t46:=Try.underlying122
  a46:=Try.isAgg122
  z46:=Try.sizeOf122
  v46:=Try.zeroValue122
  t51:=Try.underlying134
  a51:=Try.isAgg134
  z51:=Try.sizeOf134
  v51:=Try.zeroValue134
  t146:=Try.underlying148
  a146:=Try.isAgg148
  z146:=Try.sizeOf148
  v146:=Try.zeroValue148
  g1:=by kernel_rfl }
end Go.Proofs
namespace Go.Proofs.Ytgfjbgoehhnaeaa
open Go Go.VI Go.Proofs
def eqn:TypeId→Nat:=fun t=>0
theorem hE:∀ t,0<eqn t→EqC Try.prog t (eqn t):=fun t h=>absurd h (Nat.lt_irrefl 0)
noncomputable def G:Prg:=⟨Try.prog,eqn,hE,by kernel_rfl⟩
noncomputable def L6:String:=match (Try.prog.types[116]?).bind (fun i=>i.methods[0]?) with | some m=>m.name | none=>default
theorem Gv:IfC Try.prog 96 116 112 125 124 L6:=⟨(by kernel_rfl),(by kernel_rfl),(fun _ _ _=>by kernel_rfl),(fun _=>by kernel_rfl),(fun _ _=>by kernel_rfl),(fun _ _=>by kernel_rfl),(fun _ _=>by kernel_rfl),(fun _=>by kernel_rfl),(fun _ _=>by kernel_rfl),(fun _=>by kernel_rfl)⟩
theorem gl_ {W:World} (h:W.ShapedOpen Try.prog):∀ b,TJ Try.prog=some b→b<W.heap.size∧∃ m,W.cell? ⟨b,0,none⟩=some (.int .i64 m):=fun b hb=>by
  obtain rfl:0=b:=Option.some.inj ((show TJ Try.prog=some 0 by kernel_rfl).symm.trans hb)
  obtain ⟨m,hm⟩:=cell_of_shapedOpen_int (g:=0) (zero:=#[.int .i64 0]) h (by decide +kernel) (by kernel_rfl) rfl (by kernel_rfl) (by kernel_rfl) Try.underlying3
  exact ⟨World.block_lt_of_cell? W _ hm,m,hm⟩
end Go.Proofs.Ytgfjbgoehhnaeaa
