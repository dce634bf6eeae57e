/- The program, and what is known of its equalities. -/
import Derived.Test.YtonmponhpfpokaaGreatRVHC4
import Derived.Test.YtonmponhpfpokaaGreatRVHC3
import Derived.HandedShaped
import Derived.Shelf.Strings.Search3
import Derived.Shelf.Vars
import Derived.Test.YtonmponhpfpokaaGreatRProg
set_option linter.unusedVariables false
set_option linter.unusedSimpArgs false
set_option linter.unusedSectionVars false
namespace Go.Proofs
open Go.Shelf
def Tryz.Mv:Go.Shelf.Ren:=⟨fun | 144=>91 | 143=>120 | 219=>143 | 217=>159 | 225=>160 | 224=>161 | 267=>162 | 266=>193 | 314=>194 | n=>n,fun | 9=>9 | 4=>4 | 3=>3 | 5=>5 | 46=>187 | 146=>221 | 51=>206 | n=>n,fun | 1=>0 | n=>n⟩
theorem Tryz.Tg:Go.Proofs.Lays.n144 Tryz.prog Tryz.Mv:={
 mixed:=by kernel_rfl
 f143:=Tryz.func120.trans (congrArg some (by kernel_rfl))
 f144:=Tryz.func91.trans (congrArg some (by kernel_rfl))
 f217:=Tryz.func159.trans (congrArg some (by kernel_rfl))
 f219:=Tryz.func143.trans (congrArg some (by kernel_rfl))
 f224:=Tryz.func161.trans (congrArg some (by kernel_rfl))
 f225:=Tryz.func160.trans (congrArg some (by kernel_rfl))
 f266:=Tryz.func193.trans (congrArg some (by kernel_rfl))
 f267:=Tryz.func162.trans (congrArg some (by kernel_rfl))
 f314:=Tryz.func194.trans (congrArg some (by kernel_rfl))
 t3:=Tryz.underlying3
 a3:=Tryz.isAgg3
 z3:=Tryz.sizeOf3
 v3:=Tryz.zeroValue3
 t4:=Tryz.underlying4
 a4:=Tryz.isAgg4
 z4:=Tryz.sizeOf4
 v4:=Tryz.zeroValue4
 t5:=Tryz.underlying5
 a5:=Tryz.isAgg5
 z5:=Tryz.sizeOf5
 v5:=Tryz.zeroValue5
 t9:=Tryz.underlying9
 a9:=Tryz.isAgg9
 z9:=Tryz.sizeOf9
 v9:=Tryz.zeroValue9
 t46:=Tryz.underlying187
 a46:=Tryz.isAgg187
 z46:=Tryz.sizeOf187
 v46:=Tryz.zeroValue187
 t51:=Tryz.underlying206
 a51:=Tryz.isAgg206
 z51:=Tryz.sizeOf206
 v51:=Tryz.zeroValue206
 t146:=Tryz.underlying221
 a146:=Tryz.isAgg221
 z146:=Tryz.sizeOf221
 v146:=Tryz.zeroValue221
 g1:=by kernel_rfl }
end Go.Proofs
namespace Go.Proofs.YtonmponhpfpokaaGreatR
open Go Go.VI Go.Proofs
def eqn:TypeId→Nat:=fun t=>if Nat.beq t 40=true then 5 else if Nat.beq t 86=true then 4 else if Nat.beq t 115=true then 4 else 0
theorem hE:∀ t,0<eqn t→EqC Tryz.prog t (eqn t):=by
 intro t h
 unfold eqn at h ⊢
 split
 ·rename_i e;obtain rfl:=Nat.eq_of_beq_eq_true e;exact Mb _ 40 5 (by kernel_rfl) (by kernel_rfl) (by kernel_rfl)
 split
 ·rename_i e;obtain rfl:=Nat.eq_of_beq_eq_true e;exact Mb _ 86 4 (by kernel_rfl) (by kernel_rfl) (by kernel_rfl)
 split
 ·rename_i e;obtain rfl:=Nat.eq_of_beq_eq_true e;exact Mb _ 115 4 (by kernel_rfl) (by kernel_rfl) (by kernel_rfl)
 all_goals simp_all
noncomputable def G:Prg:=⟨Tryz.prog,eqn,hE,by kernel_rfl⟩
theorem gl_ {W:World} (h:W.ShapedOpen Tryz.prog):∀ b,FZ Tryz.prog=some b→b<W.heap.size∧∃ m,W.cell? ⟨b,0,none⟩=some (.int .i64 m):=fun b hb=>by
 obtain rfl:0=b:=Option.some.inj ((show FZ Tryz.prog=some 0 by kernel_rfl).symm.trans hb)
 obtain ⟨m,hm⟩:=cell_of_shapedOpen_int (g:=0) (zero:=#[.int .i64 0]) h (by decide +kernel) (by kernel_rfl) rfl (by kernel_rfl) (by kernel_rfl) Tryz.underlying3
 exact ⟨World.block_lt_of_cell? W _ hm,m,hm⟩
end Go.Proofs.YtonmponhpfpokaaGreatR
