/- The program, and what is known of its equalities. -/
import Derived.Test.YtgfjbgoehhnaeaaGreatVHC4
import Derived.Test.YtgfjbgoehhnaeaaGreatVHC3
import Derived.HandedShaped
import Derived.Shelf.Strings.Search3
import Derived.Shelf.Vars
import Derived.Test.YtgfjbgoehhnaeaaGreatProg
set_option linter.unusedVariables false
set_option linter.unusedSimpArgs false
set_option linter.unusedSectionVars false
namespace Go.Proofs
open Go.Shelf
def Tryz.Kl:Go.Shelf.Ren:=⟨fun | 144=>142 | 143=>174 | 219=>189 | 217=>208 | 225=>209 | 224=>210 | 267=>211 | 266=>218 | 314=>219 | n=>n,fun | 9=>9 | 4=>4 | 3=>3 | 5=>5 | 46=>218 | 146=>252 | 51=>237 | n=>n,fun | 1=>0 | n=>n⟩
theorem Tryz.Ss:Go.Proofs.Lays.n144 Tryz.prog Tryz.Kl:={
 mixed:=by kernel_rfl
 f143:=Tryz.func174.trans (congrArg some (by kernel_rfl))
 f144:=Tryz.func142.trans (congrArg some (by kernel_rfl))
 f217:=Tryz.func208.trans (congrArg some (by kernel_rfl))
 f219:=Tryz.func189.trans (congrArg some (by kernel_rfl))
 f224:=Tryz.func210.trans (congrArg some (by kernel_rfl))
 f225:=Tryz.func209.trans (congrArg some (by kernel_rfl))
 f266:=Tryz.func218.trans (congrArg some (by kernel_rfl))
 f267:=Tryz.func211.trans (congrArg some (by kernel_rfl))
 f314:=Tryz.func219.trans (congrArg some (by kernel_rfl))
 t3:=Tryz.underlying3
 a3:=Tryz.isAgg3
 z3:=Tryz.sizeOf3
 v3:=Tryz.zeroValue3
 t4:=Tryz.underlying4
 a4:=Tryz.isAgg4
 z4:=Tryz.sizeOf4
 v4:=Tryz.zeroValue4
 t5:=Tryz.underlying5
 a5:=Tryz.isAgg5
 z5:=Tryz.sizeOf5
 v5:=Tryz.zeroValue5
 t9:=Tryz.underlying9
 a9:=Tryz.isAgg9
 z9:=Tryz.sizeOf9
 v9:=Tryz.zeroValue9
 t46:=Tryz.underlying218
 a46:=Tryz.isAgg218
 z46:=Tryz.sizeOf218
 v46:=Tryz.zeroValue218
 t51:=Tryz.underlying237
 a51:=Tryz.isAgg237
 z51:=Tryz.sizeOf237
 v51:=Tryz.zeroValue237
 t146:=Tryz.underlying252
 a146:=Tryz.isAgg252
 z146:=Tryz.sizeOf252
 v146:=Tryz.zeroValue252
 g1:=by kernel_rfl }
end Go.Proofs
namespace Go.Proofs.YtgfjbgoehhnaeaaGreat
open Go Go.VI Go.Proofs
def eqn:TypeId→Nat:=fun t=>if Nat.beq t 72=true then 4 else if Nat.beq t 74=true then 6 else if Nat.beq t 98=true then 4 else 0
theorem hE:∀ t,0<eqn t→EqC Tryz.prog t (eqn t):=by
 intro t h
 unfold eqn at h ⊢
 split
 ·rename_i e;obtain rfl:=Nat.eq_of_beq_eq_true e;exact Jl _ 72 4 (by kernel_rfl) (by kernel_rfl) (by kernel_rfl)
 split
 ·rename_i e;obtain rfl:=Nat.eq_of_beq_eq_true e;exact Jl _ 74 6 (by kernel_rfl) (by kernel_rfl) (by kernel_rfl)
 split
 ·rename_i e;obtain rfl:=Nat.eq_of_beq_eq_true e;exact Jl _ 98 4 (by kernel_rfl) (by kernel_rfl) (by kernel_rfl)
 all_goals simp_all
noncomputable def G:Prg:=⟨Tryz.prog,eqn,hE,by kernel_rfl⟩
noncomputable def RW:String:=match (Tryz.prog.types[198]?).bind (fun i=>i.methods[0]?) with | some m=>m.name | none=>default
theorem Cp:IfC Tryz.prog 158 198 194 237 236 RW:=⟨(by kernel_rfl),(by kernel_rfl),(fun _ _ _=>by kernel_rfl),(fun _=>by kernel_rfl),(fun _ _=>by kernel_rfl),(fun _ _=>by kernel_rfl),(fun _ _=>by kernel_rfl),(fun _=>by kernel_rfl),(fun _ _=>by kernel_rfl),(fun _=>by kernel_rfl)⟩
theorem gl_ {W:World} (h:W.ShapedOpen Tryz.prog):∀ b,IC Tryz.prog=some b→b<W.heap.size∧∃ m,W.cell? ⟨b,0,none⟩=some (.int .i64 m):=fun b hb=>by
 obtain rfl:0=b:=Option.some.inj ((show IC Tryz.prog=some 0 by kernel_rfl).symm.trans hb)
 obtain ⟨m,hm⟩:=cell_of_shapedOpen_int (g:=0) (zero:=#[.int .i64 0]) h (by decide +kernel) (by kernel_rfl) rfl (by kernel_rfl) (by kernel_rfl) Tryz.underlying3
 exact ⟨World.block_lt_of_cell? W _ hm,m,hm⟩
end Go.Proofs.YtgfjbgoehhnaeaaGreat
