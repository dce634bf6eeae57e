/- The program, and what is known of its equalities. -/
import Derived.Test.YtgbiimcgilaklaaGreatVHC4
import Derived.Test.YtgbiimcgilaklaaGreatVHC3
import Derived.HandedShaped
import Derived.Shelf.Strings.Search3
import Derived.Shelf.Vars
import Derived.Test.YtgbiimcgilaklaaGreatProg
set_option linter.unusedVariables false
set_option linter.unusedSimpArgs false
set_option linter.unusedSectionVars false
namespace Go.Proofs
open Go.Shelf
def Tryz.Qe:Go.Shelf.Ren:=⟨fun | 144=>90 | 143=>114 | 219=>132 | 217=>157 | 225=>158 | 224=>159 | 267=>160 | 266=>169 | 314=>170 | n=>n,fun | 9=>9 | 4=>4 | 3=>3 | 5=>5 | 46=>186 | 146=>232 | 51=>201 | n=>n,fun | 1=>0 | n=>n⟩
theorem Tryz.Yv:Go.Proofs.Lays.n144 Tryz.prog Tryz.Qe:={
 mixed:=by kernel_rfl
 f143:=Tryz.func114.trans (congrArg some (by kernel_rfl))
 f144:=Tryz.func90.trans (congrArg some (by kernel_rfl))
 f217:=Tryz.func157.trans (congrArg some (by kernel_rfl))
 f219:=Tryz.func132.trans (congrArg some (by kernel_rfl))
 f224:=Tryz.func159.trans (congrArg some (by kernel_rfl))
 f225:=Tryz.func158.trans (congrArg some (by kernel_rfl))
 f266:=Tryz.func169.trans (congrArg some (by kernel_rfl))
 f267:=Tryz.func160.trans (congrArg some (by kernel_rfl))
 f314:=Tryz.func170.trans (congrArg some (by kernel_rfl))
 t3:=Tryz.underlying3
 a3:=Tryz.isAgg3
 z3:=Tryz.sizeOf3
 v3:=Tryz.zeroValue3
 t4:=Tryz.underlying4
 a4:=Tryz.isAgg4
 z4:=Tryz.sizeOf4
 v4:=Tryz.zeroValue4
 t5:=Tryz.underlying5
 a5:=Tryz.isAgg5
 z5:=Tryz.sizeOf5
 v5:=Tryz.zeroValue5
 t9:=Tryz.underlying9
 a9:=Tryz.isAgg9
 z9:=Tryz.sizeOf9
 v9:=Tryz.zeroValue9
 t46:=Tryz.underlying186
 a46:=Tryz.isAgg186
 z46:=Tryz.sizeOf186
 v46:=Tryz.zeroValue186
 t51:=Tryz.underlying201
 a51:=Tryz.isAgg201
 z51:=Tryz.sizeOf201
 v51:=Tryz.zeroValue201
 t146:=Tryz.underlying232
 a146:=Tryz.isAgg232
 z146:=Tryz.sizeOf232
 v146:=Tryz.zeroValue232
 g1:=by kernel_rfl }
end Go.Proofs
namespace Go.Proofs.YtgbiimcgilaklaaGreat
open Go Go.VI Go.Proofs
def eqn:TypeId→Nat:=fun t=>0
theorem hE:∀ t,0<eqn t→EqC Tryz.prog t (eqn t):=fun t h=>absurd h (Nat.lt_irrefl 0)
noncomputable def G:Prg:=⟨Tryz.prog,eqn,hE,by kernel_rfl⟩
noncomputable def D2:String:=match (Tryz.prog.types[164]?).bind (fun i=>i.methods[0]?) with | some m=>m.name | none=>default
theorem Ix:IfC Tryz.prog 129 164 160 189 188 D2:=⟨(by kernel_rfl),(by kernel_rfl),(fun _ _ _=>by kernel_rfl),(fun _=>by kernel_rfl),(fun _ _=>by kernel_rfl),(fun _ _=>by kernel_rfl),(fun _ _=>by kernel_rfl),(fun _=>by kernel_rfl),(fun _ _=>by kernel_rfl),(fun _=>by kernel_rfl)⟩
theorem gl_ {W:World} (h:W.ShapedOpen Tryz.prog):∀ b,QI Tryz.prog=some b→b<W.heap.size∧∃ m,W.cell? ⟨b,0,none⟩=some (.int .i64 m):=fun b hb=>by
 obtain rfl:0=b:=Option.some.inj ((show QI Tryz.prog=some 0 by kernel_rfl).symm.trans hb)
 obtain ⟨m,hm⟩:=cell_of_shapedOpen_int (g:=0) (zero:=#[.int .i64 0]) h (by decide +kernel) (by kernel_rfl) rfl (by kernel_rfl) (by kernel_rfl) Tryz.underlying3
 exact ⟨World.block_lt_of_cell? W _ hm,m,hm⟩
end Go.Proofs.YtgbiimcgilaklaaGreat
