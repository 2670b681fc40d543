/- Lemmas. -/
import Derived.Test.YthfhgolkafpmnaaGreatDoorRows
import Derived.Test.YthfhgolkafpmnaaGreatDoorGA
namespace Go.Proofs.YthfhgolkafpmnaaGreatDoor
open Go.Value renaming int->J,slice->I,pointer->aO,string->aQ,bool->ag,agg->aC
open Go.IntKind renaming i64->Z
open Option renaming some->O,none->U
open Go renaming Value->K,World->ae
open List renaming replicate->aI,range->bj
open Go.Instr renaming sureAddr->dB,fieldAt->ez
open Go.Proofs.Tryz
open Go.Proofs.Tryz renaming prog->Y
open Go Go.RowKit
variable {wo:Int} {bl:List aq} {b i n x:Nat} {f:Nat->Int} {α:Type}
instance:OneCell Y 3:=⟨isAgg3,sizeOf3⟩
instance:jM Y 3 (J Z 0):=⟨zeroValue3⟩
instance:OneCell Y 4:=⟨isAgg4,sizeOf4⟩
instance:jM Y 4 (ag false):=⟨zeroValue4⟩
instance:OneCell Y 9:=⟨isAgg9,sizeOf9⟩
instance:S6 Y 9:=⟨underlying9⟩
instance:OneCell Y 22:=⟨isAgg22,sizeOf22⟩
instance:gv Y 22 3:=⟨bC,λw=>by have h:Tryz.prog.elem 22=65:=bC;rw[h];exact sizeOf65 w⟩
instance:dt Y 22 65 3 48 [aQ sR,J Z 0,I U 0 0]:=⟨bC,bC⟩
instance:OneCell Y 23:=⟨isAgg23,sizeOf23⟩
instance:gv Y 23 4:=⟨bC,λw=>by have h:Tryz.prog.elem 23=35:=bC;rw[h];exact sizeOf35 w⟩
instance:dt Y 23 35 4 56 [aQ sR,J Z 0,J Z 0,I U 0 0]:=⟨bC,bC⟩
instance:gO Y 25 2:=⟨isAgg25,sizeOf25⟩
instance:dF Y 25 0 0:=⟨λb o w=>by simp[ez,dB,runUnderlying25,fieldPlace,sizeOf22,Addr.add_lit]⟩
instance:dF Y 25 1 1:=⟨λb o w=>by simp[ez,dB,runUnderlying25,fieldPlace,sizeOf23,Addr.add_lit]⟩
instance:kI Y 25 [I U 0 0,I U 0 0] [(0,1),(1,1)]:=⟨λparts cells h=>by
 have e:Tryz.prog.built 25 parts=Instr.fill (([(0,1),(1,1)]:List (Nat×Nat)).toArray[·]?) (#[I U 0 0,I U 0 0]:Array K) parts:=bC
 rw[e];simpa using h⟩
instance:jM Y 25 (aC #[I U 0 0,I U 0 0]):=⟨zeroValue25⟩
instance:gO Y 28 2:=⟨isAgg28,sizeOf28⟩
instance:dF Y 28 0 0:=⟨λb o w=>by simp[ez,dB,runUnderlying28,fieldPlace,sizeOf3,Addr.add_lit]⟩
instance:kI Y 28 [J Z 0,J Z 0] [(0,1),(1,1)]:=⟨λparts cells h=>by
 have e:Tryz.prog.built 28 parts=Instr.fill (([(0,1),(1,1)]:List (Nat×Nat)).toArray[·]?) (#[J Z 0,J Z 0]:Array K) parts:=bC
 rw[e];simpa using h⟩
instance:jM Y 28 (aC #[J Z 0,J Z 0]):=⟨zeroValue28⟩
instance:OneCell Y 33:=⟨isAgg33,sizeOf33⟩
instance:gv Y 33 6:=⟨bC,λw=>by have h:Tryz.prog.elem 33=46:=bC;rw[h];exact sizeOf46 w⟩
instance:dt Y 33 46 6 96 [I U 0 0,I U 0 0,J Z 0,ag false,J Z 0,I U 0 0]:=⟨bC,bC⟩
instance:gO Y 35 4:=⟨isAgg35,sizeOf35⟩
instance:dF Y 35 0 0:=⟨λb o w=>by simp[ez,dB,runUnderlying35,fieldPlace,sizeOf9,Addr.add_lit]⟩
instance:dF Y 35 1 1:=⟨λb o w=>by simp[ez,dB,runUnderlying35,fieldPlace,sizeOf3,Addr.add_lit]⟩
instance:dF Y 35 2 2:=⟨λb o w=>by simp[ez,dB,runUnderlying35,fieldPlace,sizeOf3,Addr.add_lit]⟩
instance:dF Y 35 3 3:=⟨λb o w=>by simp[ez,dB,runUnderlying35,fieldPlace,sizeOf33,Addr.add_lit]⟩
instance:kI Y 35 [aQ sR,J Z 0,J Z 0,I U 0 0] [(0,1),(1,1),(2,1),(3,1)]:=⟨λparts cells h=>by
 have e:Tryz.prog.built 35 parts=Instr.fill (([(0,1),(1,1),(2,1),(3,1)]:List (Nat×Nat)).toArray[·]?) (#[aQ sR,J Z 0,J Z 0,I U 0 0]:Array K) parts:=bC
 rw[e];simpa using h⟩
instance:jM Y 35 (aC #[aQ sR,J Z 0,J Z 0,I U 0 0]):=⟨zeroValue35⟩
instance:OneCell Y 38:=⟨isAgg38,sizeOf38⟩
instance:gv Y 38 2:=⟨bC,λw=>by have h:Tryz.prog.elem 38=49:=bC;rw[h];exact sizeOf49 w⟩
instance:dt Y 38 49 2 32 [J Z 0,I U 0 0]:=⟨bC,bC⟩
instance:OneCell Y 39:=⟨isAgg39,sizeOf39⟩
instance:gv Y 39 8:=⟨bC,λw=>by have h:Tryz.prog.elem 39=56:=bC;rw[h];exact sizeOf56 w⟩
instance:dt Y 39 56 8 80 [J Z 0,J Z 0,ag false,J Z 0,ag false,J Z 0,J Z 0,I U 0 0]:=⟨bC,bC⟩
instance:gO Y 41 2:=⟨isAgg41,sizeOf41⟩
instance:dF Y 41 0 0:=⟨λb o w=>by simp[ez,dB,runUnderlying41,fieldPlace,sizeOf4,Addr.add_lit]⟩
instance:dF Y 41 1 1:=⟨λb o w=>by simp[ez,dB,runUnderlying41,fieldPlace,sizeOf3,Addr.add_lit]⟩
instance:kI Y 41 [ag false,J Z 0] [(0,1),(1,1)]:=⟨λparts cells h=>by
 have e:Tryz.prog.built 41 parts=Instr.fill (([(0,1),(1,1)]:List (Nat×Nat)).toArray[·]?) (#[ag false,J Z 0]:Array K) parts:=bC
 rw[e];simpa using h⟩
instance:jM Y 41 (aC #[ag false,J Z 0]):=⟨zeroValue41⟩
instance:OneCell Y 42:=⟨isAgg42,sizeOf42⟩
instance:gv Y 42 1:=⟨bC,λw=>by have h:Tryz.prog.elem 42=3:=bC;rw[h];exact sizeOf3 w⟩
instance:dt Y 42 3 1 8 [J Z 0]:=⟨bC,bC⟩
instance:jM Y 42 (I U 0 0):=⟨zeroValue42⟩
instance:gO Y 44 4:=⟨isAgg44,sizeOf44⟩
instance:dF Y 44 0 0:=⟨λb o w=>by simp[ez,dB,runUnderlying44,fieldPlace,sizeOf3,Addr.add_lit]⟩
instance:dF Y 44 1 1:=⟨λb o w=>by simp[ez,dB,runUnderlying44,fieldPlace,sizeOf41,Addr.add_lit]⟩
instance:dF Y 44 2 3:=⟨λb o w=>by simp[ez,dB,runUnderlying44,fieldPlace,sizeOf42,Addr.add_lit]⟩
instance:kI Y 44 [J Z 0,ag false,J Z 0,I U 0 0] [(0,1),(1,2),(3,1)]:=⟨λparts cells h=>by
 have e:Tryz.prog.built 44 parts=Instr.fill (([(0,1),(1,2),(3,1)]:List (Nat×Nat)).toArray[·]?) (#[J Z 0,ag false,J Z 0,I U 0 0]:Array K) parts:=bC
 rw[e];simpa using h⟩
instance:jM Y 44 (aC #[J Z 0,ag false,J Z 0,I U 0 0]):=⟨zeroValue44⟩
instance:gO Y 46 6:=⟨isAgg46,sizeOf46⟩
instance:dF Y 46 0 0:=⟨λb o w=>by simp[ez,dB,runUnderlying46,fieldPlace,sizeOf38,Addr.add_lit]⟩
instance:dF Y 46 1 1:=⟨λb o w=>by simp[ez,dB,runUnderlying46,fieldPlace,sizeOf39,Addr.add_lit]⟩
instance:dF Y 46 2 2:=⟨λb o w=>by simp[ez,dB,runUnderlying46,fieldPlace,sizeOf44,Addr.add_lit]⟩
instance:kI Y 46 [I U 0 0,I U 0 0,J Z 0,ag false,J Z 0,I U 0 0] [(0,1),(1,1),(2,4)]:=⟨λparts cells h=>by
 have e:Tryz.prog.built 46 parts=Instr.fill (([(0,1),(1,1),(2,4)]:List (Nat×Nat)).toArray[·]?) (#[I U 0 0,I U 0 0,J Z 0,ag false,J Z 0,I U 0 0]:Array K) parts:=bC
 rw[e];simpa using h⟩
instance:jM Y 46 (aC #[I U 0 0,I U 0 0,J Z 0,ag false,J Z 0,I U 0 0]):=⟨zeroValue46⟩
instance:OneCell Y 47:=⟨isAgg47,sizeOf47⟩
instance:gv Y 47 2:=⟨bC,λw=>by have h:Tryz.prog.elem 47=41:=bC;rw[h];exact sizeOf41 w⟩
instance:dt Y 47 41 2 16 [ag false,J Z 0]:=⟨bC,bC⟩
instance:gO Y 49 2:=⟨isAgg49,sizeOf49⟩
instance:dF Y 49 0 0:=⟨λb o w=>by simp[ez,dB,runUnderlying49,fieldPlace,sizeOf3,Addr.add_lit]⟩
instance:dF Y 49 1 1:=⟨λb o w=>by simp[ez,dB,runUnderlying49,fieldPlace,sizeOf47,Addr.add_lit]⟩
instance:kI Y 49 [J Z 0,I U 0 0] [(0,1),(1,1)]:=⟨λparts cells h=>by
 have e:Tryz.prog.built 49 parts=Instr.fill (([(0,1),(1,1)]:List (Nat×Nat)).toArray[·]?) (#[J Z 0,I U 0 0]:Array K) parts:=bC
 rw[e];simpa using h⟩
instance:jM Y 49 (aC #[J Z 0,I U 0 0]):=⟨zeroValue49⟩
instance:gO Y 52 2:=⟨isAgg52,sizeOf52⟩
instance:dF Y 52 0 0:=⟨λb o w=>by simp[ez,dB,runUnderlying52,fieldPlace,sizeOf3,Addr.add_lit]⟩
instance:dF Y 52 1 1:=⟨λb o w=>by simp[ez,dB,runUnderlying52,fieldPlace,sizeOf3,Addr.add_lit]⟩
instance:kI Y 52 [J Z 0,J Z 0] [(0,1),(1,1)]:=⟨λparts cells h=>by
 have e:Tryz.prog.built 52 parts=Instr.fill (([(0,1),(1,1)]:List (Nat×Nat)).toArray[·]?) (#[J Z 0,J Z 0]:Array K) parts:=bC
 rw[e];simpa using h⟩
instance:jM Y 52 (aC #[J Z 0,J Z 0]):=⟨zeroValue52⟩
instance:gO Y 56 8:=⟨isAgg56,sizeOf56⟩
instance:dF Y 56 0 0:=⟨λb o w=>by simp[ez,dB,runUnderlying56,fieldPlace,sizeOf3,Addr.add_lit]⟩
instance:dF Y 56 1 1:=⟨λb o w=>by simp[ez,dB,runUnderlying56,fieldPlace,sizeOf3,Addr.add_lit]⟩
instance:dF Y 56 2 2:=⟨λb o w=>by simp[ez,dB,runUnderlying56,fieldPlace,sizeOf41,Addr.add_lit]⟩
instance:dF Y 56 3 4:=⟨λb o w=>by simp[ez,dB,runUnderlying56,fieldPlace,sizeOf41,Addr.add_lit]⟩
instance:dF Y 56 4 6:=⟨λb o w=>by simp[ez,dB,runUnderlying56,fieldPlace,sizeOf3,Addr.add_lit]⟩
instance:dF Y 56 5 7:=⟨λb o w=>by simp[ez,dB,runUnderlying56,fieldPlace,sizeOf47,Addr.add_lit]⟩
instance:jM Y 56 (aC #[J Z 0,J Z 0,ag false,J Z 0,ag false,J Z 0,J Z 0,I U 0 0]):=⟨zeroValue56⟩
instance:gv Y 63 1:=⟨bC,λw=>by have h:Tryz.prog.elem 63=9:=bC;rw[h];exact sizeOf9 w⟩
instance:dt Y 63 9 1 16 [aQ sR]:=⟨bC,bC⟩
instance:gO Y 65 3:=⟨isAgg65,sizeOf65⟩
instance:dF Y 65 0 0:=⟨λb o w=>by simp[ez,dB,runUnderlying65,fieldPlace,sizeOf9,Addr.add_lit]⟩
instance:dF Y 65 1 1:=⟨λb o w=>by simp[ez,dB,runUnderlying65,fieldPlace,sizeOf3,Addr.add_lit]⟩
instance:dF Y 65 2 2:=⟨λb o w=>by simp[ez,dB,runUnderlying65,fieldPlace,sizeOf42,Addr.add_lit]⟩
instance:jM Y 65 (aC #[aQ sR,J Z 0,I U 0 0]):=⟨zeroValue65⟩
instance:OneCell Y 69:=⟨isAgg69,sizeOf69⟩
instance:gv Y 69 1:=⟨bC,λw=>by have h:Tryz.prog.elem 69=42:=bC;rw[h];exact sizeOf42 w⟩
instance:dt Y 69 42 1 24 [I U 0 0]:=⟨bC,bC⟩
instance:gO Y 71 7:=⟨isAgg71,sizeOf71⟩
instance:dF Y 71 0 0:=⟨λb o w=>by simp[ez,dB,runUnderlying71,fieldPlace,sizeOf25,Addr.add_lit]⟩
instance:dF Y 71 1 2:=⟨λb o w=>by simp[ez,dB,runUnderlying71,fieldPlace,sizeOf35,Addr.add_lit]⟩
instance:dF Y 71 2 6:=⟨λb o w=>by simp[ez,dB,runUnderlying71,fieldPlace,sizeOf69,Addr.add_lit]⟩
instance:kI Y 71 [I U 0 0,I U 0 0,aQ sR,J Z 0,J Z 0,I U 0 0,I U 0 0] [(0,2),(2,4),(6,1)]:=⟨λparts cells h=>by
 have e:Tryz.prog.built 71 parts=Instr.fill (([(0,2),(2,4),(6,1)]:List (Nat×Nat)).toArray[·]?) (#[I U 0 0,I U 0 0,aQ sR,J Z 0,J Z 0,I U 0 0,I U 0 0]:Array K) parts:=bC
 rw[e];simpa using h⟩
instance:jM Y 71 (aC #[I U 0 0,I U 0 0,aQ sR,J Z 0,J Z 0,I U 0 0,I U 0 0]):=⟨zeroValue71⟩
instance:OneCell Y 73:=⟨isAgg73,sizeOf73⟩
instance:gv Y 81 2:=⟨bC,λw=>by have h:Tryz.prog.elem 81=52:=bC;rw[h];exact sizeOf52 w⟩
instance:dt Y 81 52 2 16 [J Z 0,J Z 0]:=⟨bC,bC⟩
instance:OneCell Y 99:=⟨isAgg99,sizeOf99⟩
instance:dF Y 102 0 0:=⟨λb o w=>by simp[ez,dB,runUnderlying102,fieldPlace,sizeOf99,Addr.add_lit]⟩
instance:dF Y 102 1 1:=⟨λb o w=>by simp[ez,dB,runUnderlying102,fieldPlace,sizeOf69,Addr.add_lit]⟩
instance:dF Y 102 2 2:=⟨λb o w=>by simp[ez,dB,runUnderlying102,fieldPlace,sizeOf69,Addr.add_lit]⟩
instance:dF Y 102 3 3:=⟨λb o w=>by simp[ez,dB,runUnderlying102,fieldPlace,sizeOf3,Addr.add_lit]⟩
instance:kI Y 102 [aO U,I U 0 0,I U 0 0,J Z 0] [(0,1),(1,1),(2,1),(3,1)]:=⟨λparts cells h=>by
 have e:Tryz.prog.built 102 parts=Instr.fill (([(0,1),(1,1),(2,1),(3,1)]:List (Nat×Nat)).toArray[·]?) (#[aO U,I U 0 0,I U 0 0,J Z 0]:Array K) parts:=bC
 rw[e];simpa using h⟩
instance:gv Y 109 3:=⟨bC,λw=>by have h:Tryz.prog.elem 109=113:=bC;rw[h];exact sizeOf113 w⟩
instance:dt Y 109 113 3 24 [J Z 0,ag false,J Z 0]:=⟨bC,bC⟩
instance:dF Y 113 0 0:=⟨λb o w=>by simp[ez,dB,runUnderlying113,fieldPlace,sizeOf3,Addr.add_lit]⟩
instance:dF Y 113 1 1:=⟨λb o w=>by simp[ez,dB,runUnderlying113,fieldPlace,sizeOf41,Addr.add_lit]⟩
instance:kI Y 113 [J Z 0,ag false,J Z 0] [(0,1),(1,2)]:=⟨λparts cells h=>by
 have e:Tryz.prog.built 113 parts=Instr.fill (([(0,1),(1,2)]:List (Nat×Nat)).toArray[·]?) (#[J Z 0,ag false,J Z 0]:Array K) parts:=bC
 rw[e];simpa using h⟩
instance:gv Y 138 1:=⟨bC,λw=>by have h:Tryz.prog.elem 138=145:=bC;rw[h];exact sizeOf145 w⟩
instance:dt Y 138 145 1 24 [I U 0 0]:=⟨bC,bC⟩
instance:OneCell Y 144:=⟨isAgg144,sizeOf144⟩
instance:gv Y 144 1:=⟨bC,λw=>by have h:Tryz.prog.elem 144=4:=bC;rw[h];exact sizeOf4 w⟩
instance:dt Y 144 4 1 1 [ag false]:=⟨bC,bC⟩
instance:jM Y 144 (I U 0 0):=⟨zeroValue144⟩
instance:OneCell Y 145:=⟨isAgg145,sizeOf145⟩
instance:gv Y 145 1:=⟨bC,λw=>by have h:Tryz.prog.elem 145=4:=bC;rw[h];exact sizeOf4 w⟩
instance:dt Y 145 4 1 1 [ag false]:=⟨bC,bC⟩
instance:jM Y 145 (I U 0 0):=⟨zeroValue145⟩
instance:dF Y 153 0 0:=⟨λb o w=>by simp[ez,dB,runUnderlying153,fieldPlace,sizeOf42,Addr.add_lit]⟩
instance:dF Y 153 1 1:=⟨λb o w=>by simp[ez,dB,runUnderlying153,fieldPlace,sizeOf3,Addr.add_lit]⟩
instance:kI Y 153 [I U 0 0,J Z 0] [(0,1),(1,1)]:=⟨λparts cells h=>by
 have e:Tryz.prog.built 153 parts=Instr.fill (([(0,1),(1,1)]:List (Nat×Nat)).toArray[·]?) (#[I U 0 0,J Z 0]:Array K) parts:=bC
 rw[e];simpa using h⟩
instance:aah Y 155 4 1:=⟨bC,bC,λw=>by have h:Tryz.prog.elem 155=3:=bC;rw[h];exact sizeOf3 w⟩
instance:gO Y 160 3:=⟨isAgg160,sizeOf160⟩
instance:dF Y 160 0 0:=⟨λb o w=>by simp[ez,dB,runUnderlying160,fieldPlace,sizeOf4,Addr.add_lit]⟩
instance:dF Y 160 1 1:=⟨λb o w=>by simp[ez,dB,runUnderlying160,fieldPlace,sizeOf4,Addr.add_lit]⟩
instance:dF Y 160 2 2:=⟨λb o w=>by simp[ez,dB,runUnderlying160,fieldPlace,sizeOf4,Addr.add_lit]⟩
instance:kI Y 160 [ag false,ag false,ag false] [(0,1),(1,1),(2,1)]:=⟨λparts cells h=>by
 have e:Tryz.prog.built 160 parts=Instr.fill (([(0,1),(1,1),(2,1)]:List (Nat×Nat)).toArray[·]?) (#[ag false,ag false,ag false]:Array K) parts:=bC
 rw[e];simpa using h⟩
instance:jM Y 160 (aC #[ag false,ag false,ag false]):=⟨zeroValue160⟩
instance:OneCell Y 175:=⟨isAgg175,sizeOf175⟩
instance:jM Y 175 (.nilFunc):=⟨zeroValue175⟩
instance:gv Y 198 3:=⟨bC,λw=>by have h:Tryz.prog.elem 198=200:=bC;rw[h];exact sizeOf200 w⟩
instance:dt Y 198 200 3 24 [J Z 0,ag false,J Z 0]:=⟨bC,bC⟩
instance:gO Y 200 3:=⟨isAgg200,sizeOf200⟩
instance:dF Y 200 1 1:=⟨λb o w=>by simp[ez,dB,runUnderlying200,fieldPlace,sizeOf41,Addr.add_lit]⟩
instance:kI Y 200 [J Z 0,ag false,J Z 0] [(0,1),(1,2)]:=⟨λparts cells h=>by
 have e:Tryz.prog.built 200 parts=Instr.fill (([(0,1),(1,2)]:List (Nat×Nat)).toArray[·]?) (#[J Z 0,ag false,J Z 0]:Array K) parts:=bC
 rw[e];simpa using h⟩
instance:jM Y 200 (aC #[J Z 0,ag false,J Z 0]):=⟨zeroValue200⟩
instance:gv Y 204 1:=⟨bC,λw=>by have h:Tryz.prog.elem 204=73:=bC;rw[h];exact sizeOf73 w⟩
instance:dt Y 204 73 1 8 [.nilFunc]:=⟨bC,bC⟩
instance:bf Y 9:=⟨call9⟩
instance:bf Y 10:=⟨call10⟩
instance:bf Y 11:=⟨call11⟩
instance:bf Y 12:=⟨call12⟩
instance:bf Y 13:=⟨call13⟩
instance:bf Y 14:=⟨call14⟩
instance:bf Y 15:=⟨call15⟩
instance:bf Y 16:=⟨call16⟩
instance:bf Y 17:=⟨call17⟩
instance:bf Y 18:=⟨call18⟩
instance:bf Y 19:=⟨call19⟩
instance:bf Y 22:=⟨call22⟩
instance:bf Y 24:=⟨call24⟩
instance:bf Y 25:=⟨call25⟩
instance:bf Y 26:=⟨call26⟩
instance:bf Y 27:=⟨call27⟩
instance:bf Y 28:=⟨call28⟩
instance:bf Y 29:=⟨call29⟩
instance:bf Y 30:=⟨call30⟩
instance:bf Y 31:=⟨call31⟩
instance:bf Y 32:=⟨call32⟩
instance:bf Y 33:=⟨call33⟩
instance:bf Y 34:=⟨call34⟩
instance:bf Y 35:=⟨call35⟩
instance:bf Y 36:=⟨call36⟩
instance:bf Y 37:=⟨call37⟩
instance:bf Y 38:=⟨call38⟩
instance:bf Y 39:=⟨call39⟩
instance:bf Y 40:=⟨call40⟩
instance:bf Y 41:=⟨call41⟩
instance:bf Y 42:=⟨call42⟩
instance:bf Y 43:=⟨call43⟩
instance:bf Y 44:=⟨call44⟩
instance:bf Y 45:=⟨call45⟩
instance:bf Y 46:=⟨call46⟩
instance:bf Y 47:=⟨call47⟩
instance:bf Y 48:=⟨call48⟩
instance:bf Y 49:=⟨call49⟩
instance:bf Y 50:=⟨call50⟩
instance:bf Y 51:=⟨call51⟩
instance:bf Y 52:=⟨call52⟩
instance:bf Y 56:=⟨call56⟩
instance:bf Y 57:=⟨call57⟩
instance:bf Y 58:=⟨call58⟩
instance:bf Y 59:=⟨call59⟩
instance:bf Y 60:=⟨call60⟩
instance:bf Y 61:=⟨call61⟩
instance:bf Y 62:=⟨call62⟩
instance:bf Y 63:=⟨call63⟩
instance:bf Y 64:=⟨call64⟩
instance:bf Y 65:=⟨call65⟩
instance:bf Y 66:=⟨call66⟩
instance:bf Y 67:=⟨call67⟩
instance:bf Y 68:=⟨call68⟩
instance:bf Y 69:=⟨call69⟩
instance:bf Y 70:=⟨call70⟩
instance:bf Y 71:=⟨call71⟩
instance:bf Y 72:=⟨call72⟩
instance:bf Y 73:=⟨call73⟩
instance:bf Y 74:=⟨call74⟩
instance:bf Y 75:=⟨call75⟩
instance:bf Y 76:=⟨call76⟩
instance:bf Y 77:=⟨call77⟩
instance:bf Y 78:=⟨call78⟩
instance:bf Y 79:=⟨call79⟩
instance:bf Y 80:=⟨call80⟩
instance:bf Y 81:=⟨call81⟩
instance:bf Y 82:=⟨call82⟩
instance:bf Y 83:=⟨call83⟩
instance:bf Y 84:=⟨call84⟩
instance:bf Y 85:=⟨call85⟩
instance:bf Y 86:=⟨call86⟩
instance:bf Y 88:=⟨call88⟩
instance:bf Y 90:=⟨call90⟩
instance:bf Y 93:=⟨call93⟩
instance:bf Y 94:=⟨call94⟩
instance:bf Y 95:=⟨call95⟩
instance:bf Y 96:=⟨call96⟩
instance:bf Y 97:=⟨call97⟩
instance:bf Y 98:=⟨call98⟩
instance:bf Y 99:=⟨call99⟩
instance:bf Y 100:=⟨call100⟩
instance:bf Y 101:=⟨call101⟩
instance:bf Y 102:=⟨call102⟩
instance:bf Y 103:=⟨call103⟩
instance:bf Y 104:=⟨call104⟩
instance:bf Y 105:=⟨call105⟩
instance:bf Y 106:=⟨call106⟩
instance:bf Y 107:=⟨call107⟩
instance:bf Y 108:=⟨call108⟩
instance:bf Y 109:=⟨call109⟩
instance:bf Y 110:=⟨call110⟩
instance:bf Y 111:=⟨call111⟩
instance:bf Y 112:=⟨call112⟩
instance:bf Y 113:=⟨call113⟩
instance:bf Y 114:=⟨call114⟩
instance:bf Y 115:=⟨call115⟩
instance:bf Y 116:=⟨call116⟩
instance:bf Y 117:=⟨call117⟩
instance:bf Y 118:=⟨call118⟩
instance:bf Y 119:=⟨call119⟩
instance:bf Y 120:=⟨call120⟩
instance:bf Y 121:=⟨call121⟩
instance:bf Y 122:=⟨call122⟩
instance:bf Y 123:=⟨call123⟩
instance:bf Y 124:=⟨call124⟩
instance:bf Y 125:=⟨call125⟩
instance:bf Y 126:=⟨call126⟩
instance:bf Y 127:=⟨call127⟩
instance:bf Y 134:=⟨call134⟩
instance:bf Y 135:=⟨call135⟩
instance:bf Y 138:=⟨call138⟩
instance:bf Y 139:=⟨call139⟩
instance:bf Y 140:=⟨call140⟩
instance:bf Y 141:=⟨call141⟩
instance:bf Y 142:=⟨call142⟩
instance:bf Y 143:=⟨call143⟩
instance:bf Y 144:=⟨call144⟩
instance:bf Y 145:=⟨call145⟩
instance:bf Y 146:=⟨call146⟩
instance:bf Y 147:=⟨call147⟩
instance:bf Y 148:=⟨call148⟩
instance:bf Y 149:=⟨call149⟩
instance:bf Y 150:=⟨call150⟩
instance:bf Y 151:=⟨call151⟩
instance:bf Y 152:=⟨call152⟩
instance:bf Y 153:=⟨call153⟩
instance:bf Y 155:=⟨call155⟩
instance:bf Y 156:=⟨call156⟩
instance:bf Y 162:=⟨call162⟩
instance:bf Y 164:=⟨call164⟩
instance:bf Y 165:=⟨call165⟩
instance:bf Y 166:=⟨call166⟩
instance:bf Y 169:=⟨call169⟩
instance:bf Y 170:=⟨call170⟩
instance(a b:Bool):CU Y 4 (.bool a) (.bool b) (a==b):=⟨λ_ _ _ _=>by rw[eqGuard_at_bool];rfl,λw=>run_eql_bool w 4 a b underlying4,λw=>by simp[binOp,run_equal_bool w 4 a b underlying4]⟩
instance(a b:ByteArray):CU Y 9 (aQ a) (aQ b) (a.toList==b.toList):=⟨λ_ _ _ _=>by rw[eqGuard_at_string];rfl,λw=>by simp[go_sem],λw=>by simp[go_sem]⟩
theorem Ig(x0 y0:Int)(x1 y1:Int)(w:ae):(binOp .eql 28 (aC #[J Z x0,J Z x1]) (aC #[J Z y0,J Z y1])).run Y w=.ok (ag (decide (x0=y0)&&decide (x1=y1))) w:=by
 simp[go_sem]
 (repeat' split)<;>simp_all
theorem I1(x0 y0:Int)(x1 y1:Int)(w:ae):(binOp .neq 28 (aC #[J Z x0,J Z x1]) (aC #[J Z y0,J Z y1])).run Y w=.ok (ag (!(decide (x0=y0)&&decide (x1=y1)))) w:=by
 simp[go_sem]
 (repeat' split)<;>simp_all
instance(x0 y0:Int)(x1 y1:Int):CU Y 28 (aC #[J Z x0,J Z x1]) (aC #[J Z y0,J Z y1]) (decide (x0=y0)&&decide (x1=y1)):=⟨λop x y w=>by unfold eqGuard;cases op<;>simp[go_sem],Ig _ _ _ _,I1 _ _ _ _⟩
theorem Ih(x0 y0:Bool)(x1 y1:Int)(w:ae):(binOp .eql 41 (aC #[ag x0,J Z x1]) (aC #[ag y0,J Z y1])).run Y w=.ok (ag ((x0==y0)&&decide (x1=y1))) w:=by
 simp[go_sem]
 (repeat' split)<;>simp_all
theorem I2(x0 y0:Bool)(x1 y1:Int)(w:ae):(binOp .neq 41 (aC #[ag x0,J Z x1]) (aC #[ag y0,J Z y1])).run Y w=.ok (ag (!((x0==y0)&&decide (x1=y1)))) w:=by
 simp[go_sem]
 (repeat' split)<;>simp_all
instance(x0 y0:Bool)(x1 y1:Int):CU Y 41 (aC #[ag x0,J Z x1]) (aC #[ag y0,J Z y1]) ((x0==y0)&&decide (x1=y1)):=⟨λop x y w=>by unfold eqGuard;cases op<;>simp[go_sem],Ih _ _ _ _,I2 _ _ _ _⟩
theorem Ii(x0 y0:Int)(x1 y1:Int)(w:ae):(binOp .eql 52 (aC #[J Z x0,J Z x1]) (aC #[J Z y0,J Z y1])).run Y w=.ok (ag (decide (x0=y0)&&decide (x1=y1))) w:=by
 simp[go_sem]
 (repeat' split)<;>simp_all
theorem I3(x0 y0:Int)(x1 y1:Int)(w:ae):(binOp .neq 52 (aC #[J Z x0,J Z x1]) (aC #[J Z y0,J Z y1])).run Y w=.ok (ag (!(decide (x0=y0)&&decide (x1=y1)))) w:=by
 simp[go_sem]
 (repeat' split)<;>simp_all
instance(x0 y0:Int)(x1 y1:Int):CU Y 52 (aC #[J Z x0,J Z x1]) (aC #[J Z y0,J Z y1]) (decide (x0=y0)&&decide (x1=y1)):=⟨λop x y w=>by unfold eqGuard;cases op<;>simp[go_sem],Ii _ _ _ _,I3 _ _ _ _⟩
def fH(f:Nat->Int)(n:Nat):Int×Nat:=match (bj n).find? (λi=>!decide (f i=0))with|some i=>(f i,i)|none=>(0,0)
theorem jG(h:∀j,j<i->f j=0)(hi:i<n)(hf:f i≠0):fH f n=(f i,i):=by
 have e:(bj n).find? (λi=>!decide (f i=0))=O i:=by
  rw[List.find?_eq_some_iff_append];refine⟨by simp[hf],bj i,(List.range' (i+1) (n-(i+1))),?_,λa ha=>by simp[h a (aD ha)]⟩;apply List.ext_getElem
  ·simp;omega
  ·intro k h1 h2
   simp only[List.getElem_range,List.getElem_append,d_]
   split
   ·simp
   ·rename_i hk
    by_cases Ct:k=i
    ·subst Ct;simp
    ·rw[List.getElem_cons]
     rw[dif_neg A];simp only[List.getElem_range'];omega
 unfold fH;rw[e]
theorem iY(h:∀j,j<n->f j=0):fH f n=(0,0):=by
 unfold fH;rw[List.find?_eq_none.2 (λi hi=>by simp[h i (aD hi)])]
theorem kD(h:(fH f n).1=0):∀j,j<n->f j=0:=by
 intro j hj;unfold fH at h
 split at h
 ·rename_i i hi
  have:=List.find?_some hi;simp at this;exact absurd h this
 ·rename_i hi
  have:=List.find?_eq_none.1 hi j (aD hj);simpa using this
def within(n lo hi:Int):Bool:=decide (lo<=n)&&decide (n<=hi)
def Ec(s:ByteArray)(i:Nat):Int:=if h:i<s.size then((s[i]'h).toNat:Int)else 0
def Wi(i:Nat)(c:Int):Bool:=(((decide (97<=c)&&decide (c<=122))||(decide (65<=c)&&decide (c<=90)))||decide (c=95))||((decide (0<(i:Int))&&decide (48<=c))&&decide (c<=57))
def we(s:ByteArray):Bool:=if (s.size:Int)<1\/12<(s.size:Int)then false else decide (∀i,i<s.size->Wi i (Ec s i)=true)
def hasName(l:List ByteArray)(s:ByteArray):Bool:=l.any λt=>s.toList==t.toList
def fw(bm:Int)(v:cI):Int:=if v.dq&& !within v.n 0 (bm-1)then 3 else 0
def lM(bm n:Int):Int:=if !within n 0 (bm-1)then 3 else 0
def lC{α:Type}(l:List α)(f:α->Int)(i:Nat):Int:=match l[i]? with|some x=>f x|none=>0
def rS(i:Nat)(rows:List (List Int))(to:Int):List (List Int):=rows.modify to.toNat (·++[(i:Int)])
def lE(bs:List aq):Nat->List (List Int)
 |0=>aI bs.length []
 |i+1=>(match bs[i]? with|some b=>b.to|none=>[]).foldl (rS i) (lE bs i)
def ci(bs:List aq):List (List Int):=lE bs bs.length
def BC(bm:Int)(block np:Nat)(p:gD):Int:=
 if (block:Int)=0 then 5 else if lM bm p.dst≠0 then lM bm p.dst
 else if (p.src.length:Int)≠np then 9 else(fH (lC p.src (fw bm)) p.src.length).1
def oO(bm:Int)(bs:List aq)(block:Nat)(p:gD):Int:=BC bm block ((ci bs)[block]?.getD []).length p
def shape(op:Int):Bool×Bool×Bool:=
 if ((op=1\/op=16)\/op=17)\/op=18 then(true,true,false)else if 2<=op/\op<=15 then(true,true,true)else if op=19 then(false,true,true)
 else if op=20\/op=21 then(true,false,false)else if op=22 then(false,true,false)else(false,false,false)
def kN(v:cI):Bool:=(v.dq==false)&&decide (v.n=0)
def jA(fs:List bZ)(bm:Int)(x:iA):Int:=
 if x.op≠20 then 0 else if !within x.fn 0 (fs.length-1)then 3 else if (x.args.length:Int)≠lC fs (·.params) x.fn.toNat then 9 else(fH (lC x.args (fw bm)) x.args.length).1
def tG(x:iA):Bool:=
 (((!(shape x.op).1&& !decide (x.dst=-1))||(!(shape x.op).2.1&& !kN x.a))||(!(shape x.op).2.2&& !kN x.b))||(!decide (x.op=20)&&(!decide (x.fn=0)||decide (0<(x.args.length:Int))))
def fA(fs:List bZ)(bm:Int)(x:iA):Int:=
 if !within x.op 1 22 then 4 else if tG x then 5
 else if ((shape x.op).1&& !(decide (x.op=20)&&decide (x.dst=-1)))&& !decide (lM bm x.dst=0)then lM bm x.dst
 else if fw bm x.a≠0 then fw bm x.a else if fw bm x.b≠0 then fw bm x.b else jA fs bm x
def yN(n:Nat)(bm kind:Int)(on:cI)(to:List Int):Int:=
 if !within kind 1 3 then 4 else if (to.length:Int)≠kind-1 then 9 else if to.any (λt=>!within t 1 (n-1))then 3
 else if (decide (kind=3)&&decide (to[0]?.getD 0=to[1]?.getD 0))||(decide (kind=2)&& !kN on)then 5 else fw bm on
def mr(n:Nat)(bm:Int)(b:aq):Int:=yN n bm b.kind b.on b.to
def lq(fs:List bZ)(f:bZ)(i:Nat):Int:=match f.blocks[i]? with
 |some b=>if (fH (lC b.bg (oO f.bm f.blocks i)) b.bg.length).1≠0 then(fH (lC b.bg (oO f.bm f.blocks i)) b.bg.length).1 else(fH (lC b.list (fA fs f.bm)) b.list.length).1
 |none=>0
def jz(fs:List bZ)(f:bZ):Int:=
 if (fH (lC f.blocks (mr f.blocks.length f.bm)) f.blocks.length).1≠0 then(fH (lC f.blocks (mr f.blocks.length f.bm)) f.blocks.length).1 else(fH (lq fs f) f.blocks.length).1
def pT(bs:List aq)(i:Nat):Int:=((bs.take i).map λb=>((b.bg.length+b.list.length:Nat):Int)).sum
def ja(bs:List aq):Int:=(bs.map λb=>((b.bg.length+b.list.length:Nat):Int)).sum
def nD(names:List ByteArray)(f:bZ):Int:=
 if !we f.name then 12 else if hasName names f.name then 7 else if !within f.params 0 6|| !within f.bm f.params 100 then 3
 else if !within f.blocks.length 1 40||decide (300<ja f.blocks)then 2 else 0
def qu(l:List lD)(i:Nat):Int:=((l.take i).map (·.size)).sum
def ls(names:List ByteArray)(tot:Int)(g:lD):Int:=
 if !we g.name then 12 else if hasName names g.name then 7 else if !within g.size 1 200 then 3 else if g.size<(g.init.length:Int)then 9 else if 200<tot+g.size then 10 else 0
def qF(l:List lD)(i:Nat):Int:=lC l (ls ((l.take i).map (·.name)) (qu l i)) i
def mR(u:dk)(i:Nat):Int:=lC u.funcs (nD (u.globals.map (·.name)++(u.funcs.take i).map (·.name))) i
def CC(f:bZ):Bool:=f.name.toList==(ByteArray.mk #[109,97,105,110]).toList
def fE(fs:List bZ):Int:=match fs.findIdx? CC with|some i=>(i:Int)|none=>-1
def gL(u:dk):Int×Int:=
 if 10<(u.globals.length:Int)\/10<(u.funcs.length:Int)then(2,0)
 else if (fH (qF u.globals) u.globals.length).1≠0 then((fH (qF u.globals) u.globals.length).1,(fH (qF u.globals) u.globals.length).2)
 else if (fH (mR u) u.funcs.length).1≠0 then((fH (mR u) u.funcs.length).1,(fH (mR u) u.funcs.length).2)
 else if (fH (lC u.funcs (jz u.funcs)) u.funcs.length).1≠0 then((fH (lC u.funcs (jz u.funcs)) u.funcs.length).1,(fH (lC u.funcs (jz u.funcs)) u.funcs.length).2)
 else if fE u.funcs<0 then(6,0)else if 0<lC u.funcs (·.params) (fE u.funcs).toNat then(5,fE u.funcs)else(0,0)
section
set_option maxHeartbeats 8000000
attribute [local irreducible] wpListIn Code.wpIn Exit.then Exit.inBlock bodyPost wpQuiet wpAnyIn
theorem mixed:Tryz.prog.follows .mixedOrders=true:=by kernel_rfl
theorem eI{l:List α}(hn:n=l.length)(h:i<n):∃x,l[i]?=O x:=⟨l[i],by simp[hn▸h]⟩
theorem aZ{l:List α}{x:α}(h:l[i]?=O x):l≠[]:=by rintro rfl;simp at h
theorem oB(n lo hi:Int)(w0:ae):gF Y 29 [J Z n,J Z lo,J Z hi] w0 (ag (within n lo hi)):=by
 refine aR func29 rfl ntmps29 rfl (Wd.nil db w0) ?_;refine bA ?_;generalize hb:decide (lo<=n)=b;cases b
 ·refine cT ?_
  exact cv rfl (by simp[within,hb])
 ·refine aV ?_
  exact cv rfl (by simp[within,hb])
theorem vT(code at':Int)(w0:ae):gF Y 26 [J Z code,J Z at'] w0 (aC #[J Z code,J Z at']):=by
 refine aR func26 rfl ntmps26 rfl (Wd.nil db w0) ?_
 repeat(first|refine aV ?_|refine dd λ_ _=>?_)
 exact fD rfl λ_ hw=>⟨rfl,hw.c_⟩
theorem V1(s:ByteArray)(w0:ae):gF Y 27 [aQ s] w0 (ag (we s)):=by
 refine aR func27 rfl ntmps27 rfl (Wd.nil db w0) ?_;refine bA ?_;generalize hb:decide ((s.size:Int)<1)=b;refine ut 4 12 (ag (b||decide (12<(s.size:Int)))) ?_ ?_
 ·cases b
  ·refine aV ?_
   exact aP V bT
  ·refine cT ?_
   exact aP V bT
 refine bA ?_;apply aL<;>intro h1
 ·refine aV ?_
  refine cv rfl ?_;subst hb;simp[we,al (show(s.size:Int)<1\/12<(s.size:Int) by simpa using h1)]
 have QK:¬((s.size:Int)<1\/12<(s.size:Int)):=by subst hb;simpa using h1
 refine aU ?_;refine bH (λ(i:Nat)=>i<=s.size/\∀j,j<i->Wi j (Ec s j)=true) (λi=>[(0,aQ s),(15,J Z i),(14,J Z s.size)]) (λ_=>[]) (λi=>s.size-i) 0 ⟨aN _,by simp⟩ (aP V bT) λi ⟨hi,cX⟩=>?_;refine bA ?_;apply aL<;>intro h2
 ·have ce:i<s.size:=aD h2
  have hby:SR s i (Ec s i):=⟨ce,by simp[Ec,ce]⟩;generalize hc:Ec s i=c at hby
  refine aU ?_;generalize e1:decide (97<=c)=b1;refine ut 3 26 (ag (b1&&decide (c<=122))) ?_ ?_
  ·cases b1
   ·refine cT ?_
    exact aP V bT
   ·refine aV ?_
    exact aP V bT
  generalize e2:(b1&&decide (c<=122))=b2;refine bA ?_;refine ut 7 34 (ag (b2||(decide (65<=c)&&decide (c<=90)))) ?_ ?_
  ·cases b2
   ·refine aV ?_
    generalize e3:decide (65<=c)=b3;cases b3
    ·refine cT ?_
     exact aP V bT
    ·refine aV ?_
     exact aP V bT
   ·refine cT ?_
    exact aP V bT
  generalize e3:(b2||(decide (65<=c)&&decide (c<=90)))=b3;refine bA ?_;refine ut 3 38 (ag (b3||decide (c=95))) ?_ ?_
  ·cases b3
   ·refine aV ?_
    exact aP V bT
   ·refine cT ?_
    exact aP V bT
  generalize e4:(b3||decide (c=95))=b4;refine bA ?_;refine ut 11 50 (ag (b4||((decide (0<(i:Int))&&decide (48<=c))&&decide (c<=57)))) ?_ ?_
  ·cases b4
   ·refine aV ?_
    generalize e5:decide (0<(i:Int))=b5;cases b5
    ·refine cT ?_
     exact aP V bT
    ·refine aV ?_
     generalize e6:decide (48<=c)=b6;cases b6
     ·refine cT ?_
      exact aP V bT
     ·refine aV ?_
      exact aP V bT
   ·refine cT ?_
    exact aP V bT
  have dV:Wi i c=(b4||((decide (0<(i:Int))&&decide (48<=c))&&decide (c<=57))):=by subst e4 e3 e2 e1;rfl
  rw[<-dV];refine bA ?_;apply aL<;>intro h3
  ·have tM:Wi i c=false:=aD h3
   refine aV ?_;refine cv rfl ?_;simp only[we,ai QK,Value.bool.injEq]
   symm
   rw[fg];intro hh;have:=hh i ce;rw[hc,tM]at this;cases this
  ·have tM:Wi i c=true:=aD h3
   refine aU ?_;refine a_ (i+1) ⟨ce,λj hj=>?_⟩ A V bT
   by_cases A7:j=i
   ·subst A7;rw[hc];exact tM
   ·exact cX j A
 ·have fX:i=s.size:=by have:=h2;simp at this;omega
  refine aV ?_;refine cv rfl ?_;subst fX;simp only[we,ai QK,Value.bool.injEq]
  symm
  rw[dv];exact cX
theorem Vr(v:K)(l:List ByteArray)(s:ByteArray)(w0:ae)(hv:aY w0 v 1 l S9):iL Y 69 [v,aQ s] w0 λu w'=>nX db w0 w'/\∃r:Int,u=J Z r/\decide (0<=r)=hasName l s:=by
 obtain⟨a,n,c,b,o,rfl,hn,qg,A_,hc,ha,iw⟩:=hv;refine aR func69 rfl ntmps69 rfl (Wd.nil db w0) ?_;refine aU ?_;refine bH (λ(i:Nat)=>i<=n/\∀j t,j<i->l[j]?=O t->(s.toList==t.toList)=false) (λi=>[(8,J Z i),(0,I a n c),(1,aQ s),(7,J Z n)]) (λ_=>[]) (λi=>n-i) 0 ⟨aN _,by simp⟩ (aP V bT) λi ⟨hi,cX⟩=>?_;refine bA ?_;apply aL<;>intro h1
 ·have ce:i<n:=aD h1
  obtain⟨x,hx⟩:=eI hn ce;have mJ:cl a b o:=⟨ha (aZ hx)⟩;have kK:cg i n:=⟨ce⟩;obtain⟨cs,gW,rfl⟩:=iw i x hx;have nO:bu w0 b (o+i*1) _:=⟨gW⟩;refine aU ?_;apply aL<;>intro h2
  ·refine aV ?_
   refine dh rfl λw hw=>⟨hw.c_,_,rfl,?_⟩;rw[fQ (by omega:(0:Int)<=(i:Int))]
   symm
   simp only[hasName,rG];exact⟨x,aA hx,h2⟩
  ·refine aU ?_
   refine a_ (i+1) ⟨ce,λj t hj ht=>?_⟩ A V bT
   by_cases A7:j=i
   ·subst A7
    rw[hx]at ht;simp only[cF]at ht;subst ht;exact h2
   ·exact cX j t A ht
 ·have fX:i=n:=by have:=h1;simp at this;omega
  refine aV ?_;refine dh rfl λw hw=>⟨hw.c_,_,rfl,?_⟩
  symm
  rw[show decide ((0:Int)<=-1)=false from rfl];simp only[hasName,List.any_eq_false];intro t ht;obtain⟨j,hj⟩:=bR ht;have:=cX j t (by have:=(aJ.1 hj).1;omega) hj;simp[this]
theorem C2(v:K)(l:List ByteArray)(s:ByteArray)(w0:ae)(hv:aY w0 v 1 l S9):gF Y 28 [v,aQ s] w0 (ag (hasName l s)):=by
 refine aR func28 rfl ntmps28 rfl (Wd.nil db w0) ?_;refine bA ?_;refine cN (val:=λr:Int=>.int Z r) (φ:=λr:Int=>decide (0<=r)=hasName l s) (cZ:=λ_=>[]) rfl (λw hw=>(Vr v l s w (hv.cB Hl hw.c_)).mono λu w' ⟨h1,r,h2,h3⟩=>⟨r,h2,(Wd.nil db w).call h1,h3⟩) λr hr=>?_;refine aU ?_;exact cv rfl (by rw[hr])
theorem FP(g fs nm pa bs ah:K)(bm:Int)(hr:0<=bm/\bm<=100)(v:cI)(w0:ae):
  gF Y 117 [aC #[g,fs,nm,pa,J Z bm,bs,ah],aC #[ag v.dq,J Z v.n]] w0 (J Z (fw bm v)):=by
 refine aR func117 rfl ntmps117 rfl (Wd.nil db w0) ?_
 repeat(first|refine bA ?_|refine dd λ_ _=>?_)
 generalize hb:v.dq=b;cases b
 ·refine cT ?_
  exact cv rfl (by simp[fw,hb])
 ·refine aV ?_
  refine bY rfl (λw _=>oB _ _ _ w) ?_;refine aV ?_;apply aL<;>intro h1
  ·refine aV ?_
   exact cv rfl (by simp at h1;simp[fw,hb,h1])
  ·refine aU ?_
   exact cv rfl (by simp at h1;simp[fw,hb,h1])
theorem aap(g fs nm pa bs ah:K)(bm:Int)(hr:0<=bm/\bm<=100)(n:Int)(w0:ae):
  gF Y 118 [aC #[g,fs,nm,pa,J Z bm,bs,ah],J Z n] w0 (J Z (lM bm n)):=by
 refine aR func118 rfl ntmps118 rfl (Wd.nil db w0) ?_
 repeat(first|refine aV ?_|refine dd λ_ _=>?_)
 refine bY rfl (λw _=>oB _ _ _ w) ?_;refine bA ?_;apply aL<;>intro h1
 ·refine aV ?_
  exact cv rfl (by simp at h1;simp[lM,h1])
 ·refine aU ?_
  exact cv rfl (by simp at h1;simp[lM,h1])
theorem TN(g fs nm pa re ah:K)(n c b:Nat)(a:ax)(hn:n<=100)(x:Int)(w0:ae)(hc:ct w0 b 0 [g,fs,nm,pa,re,I a n c,ah]):
  gF Y 116 [J Z x,aO (O ⟨b,0,U⟩)] w0 (ag (!within x 1 (n-1))):=by
 have nO:bu w0 b 0 _:=⟨hc⟩;have abR:B6 w0 b 5 (I a n c):=⟨by simpa using hc 5 _ rfl⟩;refine aR func116 rfl ntmps116 rfl (Wd.nil db w0) ?_;refine aV ?_;refine bY rfl (λw _=>oB _ _ _ w) ?_;refine aU ?_;exact cv rfl rfl
theorem LU(op:Int)(w0:ae):gF Y 119 [J Z op] w0 (aC #[ag (shape op).1,ag (shape op).2.1,ag (shape op).2.2]):=by
 refine aR func119 rfl ntmps119 rfl (Wd.nil db w0) ?_
 repeat(first|refine aU ?_|refine dd λ_ _=>?_)
 generalize e1:decide (op=1)=b1;refine ut 3 9 (ag (b1||decide (op=16))) ?_ ?_
 ·cases b1
  ·refine aV ?_
   exact aP V bT
  ·refine cT ?_
   exact aP V bT
 generalize e2:(b1||decide (op=16))=b2;refine bA ?_;refine ut 3 13 (ag (b2||decide (op=17))) ?_ ?_
 ·cases b2
  ·refine aV ?_
   exact aP V bT
  ·refine cT ?_
   exact aP V bT
 generalize e3:(b2||decide (op=17))=b3;refine bA ?_;refine ut 3 17 (ag (b3||decide (op=18))) ?_ ?_
 ·cases b3
  ·refine aV ?_
   exact aP V bT
  ·refine cT ?_
   exact aP V bT
 refine bA ?_;apply aL<;>intro h1
 ·refine aV ?_
  refine fD rfl λ_ hw=>⟨?_,hw.c_⟩;have:((op=1\/op=16)\/op=17)\/op=18:=by subst e3 e2 e1;simpa using h1
  simp[shape,this]
 have n1:¬(((op=1\/op=16)\/op=17)\/op=18):=by subst e3 e2 e1;simpa using h1
 refine bA ?_;generalize e4:decide (2<=op)=b4;refine ut 3 25 (ag (b4&&decide (op<=15))) ?_ ?_
 ·cases b4
  ·refine cT ?_
   exact aP V bT
  ·refine aV ?_
   exact aP V bT
 refine bA ?_;apply aL<;>intro h2
 ·refine aV ?_
  refine fD rfl λ_ hw=>⟨?_,hw.c_⟩;have:2<=op/\op<=15:=by subst e4;simpa using h2
  simp[shape,n1,this]
 have n2:¬(2<=op/\op<=15):=by subst e4;simpa using h2
 refine bA ?_;apply aL<;>intro h3
 ·refine aV ?_
  refine fD rfl λ_ hw=>⟨?_,hw.c_⟩;have:op=19:=aD h3;simp[shape,this]
 have n3:¬op=19:=aD h3;refine bA ?_;generalize e5:decide (op=20)=b5;refine ut 3 37 (ag (b5||decide (op=21))) ?_ ?_
 ·cases b5
  ·refine aV ?_
   exact aP V bT
  ·refine cT ?_
   exact aP V bT
 refine bA ?_;apply aL<;>intro h4
 ·refine aV ?_
  refine fD rfl λ_ hw=>⟨?_,hw.c_⟩;have:op=20\/op=21:=by subst e5;simpa using h4
  rcases this with rfl|rfl<;>rfl
 have n4:¬(op=20\/op=21):=by subst e5;simpa using h4
 refine bA ?_;apply aL<;>intro h5
 ·refine aV ?_
  refine fD rfl λ_ hw=>⟨?_,hw.c_⟩;have:op=22:=aD h5;subst this;rfl
 ·have n5:¬op=22:=aD h5
  refine aV ?_;refine fD rfl λ_ hw=>⟨?_,hw.c_⟩;simp[shape,n1,n2,n3,n4,n5]
theorem Q9{f:Nat}[bf Y f](cap:List K)(g:Int->Bool)(v:K)(l:List Int)(w0:ae)(hv:aY w0 v 1 l gI)(kV:∀w,nX db w0 w->∀x∈l,gF Y f (J Z x::cap) w (ag (g x))):
  iL Y 156 [v,.func (.func f) #[] cap.toArray] w0 λu w'=>∃r:Int,u=J Z r/\Wd db w0 [] w'/\decide (0<=r)=l.any g:=by
 obtain⟨a,n,c,b,o,rfl,hn,qg,A_,hc,ha,iw⟩:=hv;refine aR func156 rfl ntmps156 rfl (Wd.nil db w0) ?_;refine aU ?_;refine bH (λ(i:Nat)=>i<=n/\∀j t,j<i->l[j]?=O t->g t=false) (λi=>[(8,J Z i),(0,I a n c),(1,.func (.func f) #[] cap.toArray),(7,J Z n)]) (λ_=>[]) (λi=>n-i) 0 ⟨aN _,by simp⟩ (aP V bT) λi ⟨hi,cX⟩=>?_;refine bA ?_;apply aL<;>intro h1
 ·have ce:i<n:=aD h1
  obtain⟨x,hx⟩:=eI hn ce;have mJ:cl a b o:=⟨ha (aZ hx)⟩;have kK:cg i n:=⟨ce⟩;obtain⟨cs,gW,rfl,hxi⟩:=iw i x hx;have nO:bu w0 b (o+i*1) _:=⟨gW⟩;refine aU ?_;refine uV rfl (us:=[]) (vs:=[J Z x]) (xs:=cap) (λw hw=>kV w hw.c_ x (aA hx)) ?_;refine bA ?_;apply aL<;>intro h2
  ·refine aV ?_
   refine dh rfl λw hw=>⟨_,rfl,⟨hw.c_,by simp,by simp,by simp⟩,?_⟩;rw[fQ (by omega:(0:Int)<=(i:Int))]
   symm
   simp only[rG];exact⟨x,aA hx,h2⟩
  ·refine aU ?_
   refine a_ (i+1) ⟨ce,λj t hj ht=>?_⟩ A V bT
   by_cases A7:j=i
   ·subst A7
    rw[hx]at ht;simp only[cF]at ht;subst ht;exact h2
   ·exact cX j t A ht
 ·have fX:i=n:=by have:=h1;simp at this;omega
  refine aV ?_;refine dh rfl λw hw=>⟨_,rfl,⟨hw.c_,by simp,by simp,by simp⟩,?_⟩
  symm
  rw[show decide ((0:Int)<=-1)=false from rfl];simp only[List.any_eq_false];intro t ht;obtain⟨j,hj⟩:=bR ht;have:=cX j t (by have:=(aJ.1 hj).1;omega) hj;simp[this]
theorem Ic{f:Nat}[bf Y f](cap:List K)(g:Int->Bool)(v:K)(l:List Int)(w0:ae)(hv:aY w0 v 1 l gI)(kV:∀w,nX db w0 w->∀x∈l,gF Y f (J Z x::cap) w (ag (g x))):
  gF Y 115 [v,.func (.func f) #[] cap.toArray] w0 (ag (l.any g)):=by
 refine aR func115 rfl ntmps115 rfl (Wd.nil db w0) ?_;refine bA ?_;refine cN (val:=λr:Int=>.int Z r) (φ:=λr:Int=>decide (0<=r)=l.any g) (cZ:=λ_=>[]) rfl (λw hw=>Q9 cap g v l w (hv.cB du hw.c_) λw1 h1 x=>kV w1 (hw.c_.trans h1) x) λr hr=>?_;refine aU ?_;exact cv rfl (by rw[hr])
structure Qn where
 f:Nat
 cap:List K
 err:Int
def aai(_:ae)(x:Qn)(cs:List K):Prop:=cs=[.func (.func x.f) #[] x.cap.toArray]
theorem Yg(v:K)(l:List Qn)(w0:ae)(hv:aY w0 v 1 l aai)(hE:∀x∈l,bf Y x.f)(kV:∀x∈l,∀w,nX db w0 w->gF Y x.f x.cap w (J Z x.err)):
  gF Y 120 [v] w0 (J Z (fH (lC l (·.err)) l.length).1):=by
 obtain⟨a,n,c,b,o,rfl,hn,qg,A_,hc,ha,iw⟩:=hv;refine aR func120 rfl ntmps120 rfl (Wd.nil db w0) ?_;refine aU ?_;refine bH (λ(i:Nat)=>i<=n/\∀j,j<i->lC l (·.err) j=0) (λi=>[(8,J Z i),(6,I a n c),(7,J Z n)]) (λ_=>[]) (λi=>n-i) 0 ⟨aN _,by simp⟩ (aP V bT) λi ⟨hi,cX⟩=>?_;refine bA ?_;apply aL<;>intro h1
 ·have ce:i<n:=aD h1
  obtain⟨x,hx⟩:=eI hn ce;have mJ:cl a b o:=⟨ha (aZ hx)⟩;have kK:cg i n:=⟨ce⟩;obtain⟨cs,gW,rfl⟩:=iw i x hx;have nO:bu w0 b (o+i*1) _:=⟨gW⟩;have pw:=aA hx;have hen:=hE x pw;have pZ:lC l (·.err) i=x.err:=by simp[lC,hx]
  refine aU ?_;refine uV rfl (us:=[]) (vs:=[]) (xs:=x.cap) (λw hw=>kV x pw w hw.c_) ?_;refine bA ?_;apply aL<;>intro h2
  ·refine aV ?_
   have DR:x.err≠0:=aD h2;refine cv rfl ?_;rw[jG cX (hn▸ce) (by rw[pZ];exact DR),pZ]
  ·have DR:x.err=0:=aD h2
   refine aU ?_;refine a_ (i+1) ⟨ce,λj hj=>?_⟩ A V bT
   by_cases A7:j=i
   ·subst A7;rw[pZ];exact DR
   ·exact cX j A
 ·have fX:i=n:=by have:=h1;simp at this;omega
  refine aV ?_;exact cv rfl (by rw[<-hn,<-fX,iY cX])
theorem Vt(g fs nm pa bs ah:K)(bm:Int)(hr:0<=bm/\bm<=100)(x:iA)(xv:K)(b b2:Nat)(w0:ae)(hc:ct w0 b 0 [g,fs,nm,pa,J Z bm,bs,ah])
  (hx:ct w0 b2 0 [J Z x.op,J Z x.dst,ag x.a.dq,J Z x.a.n,ag x.b.dq,J Z x.b.n,J Z x.fn,xv]):
  gF Y 121 [aO (O ⟨b,0,U⟩),aO (O ⟨b2,0,U⟩)] w0 (J Z (fw bm x.a)):=by
 have nO:bu w0 b 0 _:=⟨hc⟩;have hxi:bu w0 b2 0 _:=⟨hx⟩;refine aR func121 rfl ntmps121 rfl (Wd.nil db w0) ?_;refine bA ?_;refine bY rfl (λw _=>FP _ _ _ _ _ _ bm hr x.a w) ?_;refine aU ?_;exact cv rfl rfl
theorem Vu(g fs nm pa bs ah:K)(bm:Int)(hr:0<=bm/\bm<=100)(x:iA)(xv:K)(b b2:Nat)(w0:ae)(hc:ct w0 b 0 [g,fs,nm,pa,J Z bm,bs,ah])
  (hx:ct w0 b2 0 [J Z x.op,J Z x.dst,ag x.a.dq,J Z x.a.n,ag x.b.dq,J Z x.b.n,J Z x.fn,xv]):
  gF Y 122 [aO (O ⟨b,0,U⟩),aO (O ⟨b2,0,U⟩)] w0 (J Z (fw bm x.b)):=by
 have nO:bu w0 b 0 _:=⟨hc⟩;have hxi:bu w0 b2 0 _:=⟨hx⟩;refine aR func122 rfl ntmps122 rfl (Wd.nil db w0) ?_;refine bA ?_;refine bY rfl (λw _=>FP _ _ _ _ _ _ bm hr x.b w) ?_;refine aU ?_;exact cv rfl rfl
theorem NR(g fs nm pa bs ah:K)(fl:List bZ)(Xx:fl.length<=100)(bm:Int)(hr:0<=bm/\bm<=100)(x:iA)(_hfn:dE x.fn)(xv:K)(b b2 b3:Nat)(w0:ae)(hc:ct w0 b 0 [g,fs,nm,pa,J Z bm,bs,ah])
  (hx:ct w0 b2 0 [J Z x.op,J Z x.dst,ag x.a.dq,J Z x.a.n,ag x.b.dq,J Z x.b.n,J Z x.fn,xv]) (h3:ct w0 b3 0 [ag (decide (x.op=20))]) (hf:aY w0 fs 4 fl kG) (hv:aY w0 xv 2 x.args mp):
  gF Y 123 [aO (O ⟨b3,0,U⟩),aO (O ⟨b2,0,U⟩),aO (O ⟨b,0,U⟩)] w0 (J Z (jA fl bm x)):=by
 obtain⟨fa,fn,fc,fb,fo,rfl,YO,ab2,ab1,hfc,QV,Cr⟩:=hf;obtain⟨va,vn,vc,vb,vo,rfl,ET,acQ,afH,hvc,qt,DB⟩:=hv;have nO:bu w0 b 0 _:=⟨hc⟩;have hxi:bu w0 b2 0 _:=⟨hx⟩;have h3i:bu w0 b3 0 _:=⟨h3⟩;refine aR func123 rfl ntmps123 rfl (Wd.nil db w0) ?_;refine aU ?_;generalize hb:decide (x.op=20)=bb
 cases bb
 ·refine aV ?_
  exact cv rfl (by simp at hb;simp[jA,hb])
 have oX:¬(x.op≠20):=aD hb;refine aV ?_;refine bY rfl (λw _=>oB _ _ _ w) ?_;refine bA ?_;apply aL<;>intro h1
 ·refine aV ?_
  exact cv rfl (by simp only[jA,ai oX,<-YO];rw[al (aD h1)])
 have hw:within x.fn 0 ((fn:Int)-1)=true:=aD h1;have aie:0<=x.fn/\x.fn<fn:=by simp[within]at hw;omega
 obtain⟨k,hk⟩:∃k:Nat,x.fn=k:=⟨x.fn.toNat,A⟩;have B0:k<fn:=A;obtain⟨F,hF⟩:=eI YO B0;have mJ:cl fa fb fo:=⟨QV (aZ hF)⟩;have kK:cg k fn:=⟨B0⟩;have hni:oT x.fn k:=⟨hk⟩;obtain⟨cs,gW,bv,rfl,SF,_,_⟩:=Cr k F hF;have ajO:bu w0 fb (fo+k*4) _:=⟨gW⟩;have pZ:lC fl (·.params) x.fn.toNat=F.params:=by simp[lC,hk,hF]
 refine bA ?_;refine kX mixed bC ?_;refine kJ ?_;refine bA ?_;apply aL<;>intro h2
 ·refine aV ?_
  refine cv rfl ?_;have DR:(x.args.length:Int)≠F.params:=by rw[<-ET];simpa using h2
  simp only[jA,ai oX,<-YO,hw,pZ,Bool.not_true,al DR]
  rfl
 have DR:¬(x.args.length:Int)≠F.params:=by rw[<-ET];simpa using h2
 have UJ:jA fl bm x=(fH (lC x.args (fw bm)) x.args.length).1:=by
  simp only[jA,ai oX,<-YO,hw,pZ,Bool.not_true,ai DR]
  rfl
 rw[UJ];refine aU ?_;refine bH (λ(i:Nat)=>i<=vn/\∀j,j<i->lC x.args (fw bm) j=0) (λi=>[(36,J Z i),(34,I va vn vc),(35,J Z vn),M 2 b]) (λ_=>[]) (λi=>vn-i) 0 ⟨aN _,by simp⟩ (aP V bT) λi ⟨hi,cX⟩=>?_;refine bA ?_;apply aL<;>intro h1
 ·have ce:i<vn:=aD h1
  obtain⟨y,hy⟩:=eI ET ce;have mJ:cl va vb vo:=⟨qt (aZ hy)⟩;have kK:cg i vn:=⟨ce⟩;obtain⟨cs,gW,rfl,hyi⟩:=DB i y hy;have nO:bu w0 vb (vo+i*2) _:=⟨gW⟩;have pZ:lC x.args (fw bm) i=fw bm y:=by simp[lC,hy]
  repeat(first|refine aV ?_|refine dd λ_ _=>?_)
  refine bY rfl (λw _=>FP _ _ _ _ _ _ bm hr y w) ?_;refine bA ?_;apply aL<;>intro h2
  ·refine aV ?_
   refine cv rfl ?_;rw[jG cX (ET▸ce) (by rw[pZ];simpa using h2),pZ]
  ·refine aU ?_
   refine a_ (i+1) ⟨ce,λj hj=>?_⟩ A V bT
   by_cases A7:j=i
   ·subst A7;rw[pZ];simpa using h2
   ·exact cX j A
 ·have fX:i=vn:=by have:=h1;simp at this;omega
  refine aV ?_;exact cv rfl (by rw[<-ET,<-fX,iY cX])
def dY(bl:List aq)(i:Nat):List Int:=match bl[i]? with|some b=>b.to|none=>[]
def Edge(bl:List aq)(x y:Nat):Prop:=(y:Int)∈dY bl x
inductive jg(bl:List aq)(wo:Int)(b:Nat):Nat->Prop
 |refl:jg bl wo b b
 |step {x y:Nat}:jg bl wo b x->Edge bl x y->(y:Int)≠wo->jg bl wo b y
theorem jg.trans{a c:Nat}(h:jg bl wo a b)(k:jg bl wo b c):jg bl wo a c:=by
 induction k with
 |refl=>exact h
 |step _ he hw ih=>exact ih.step he hw
theorem fI{b:aq}(h:bl[i]?=O b):dY bl i=b.to:=by simp[dY,h]
def dK(bl:List aq):Prop:=∀b∈bl,b.to.length<=2/\∀t∈b.to,0<=t/\t<bl.length
theorem dK.Ka(h:dK bl){y:Nat}(he:Edge bl x y):y<bl.length:=by
 unfold Edge dY at he
 split at he
 ·rename_i b hb
  have:=(h b (aA hb)).2 _ he;omega
 ·cases he
theorem dK.BG(h:dK bl)(hb:b<bl.length)(hr:jg bl wo b x):x<bl.length:=by
 induction hr with
 |refl=>exact hb
 |step _ he _ _=>exact h.Ka he
theorem Fm{p:Nat->Prop}(h0:p b)(hc:∀x y,p x->Edge bl x y->(y:Int)≠wo->p y)(h:jg bl wo b x):p x:=by
 induction h with
 |refl=>exact h0
 |step _ he hw ih=>exact hc _ _ ih he hw
theorem o_:∀(n:Nat) (l:List Nat),l.Nodup->(∀x∈l,x<n)->l.length<=n
 |0,l,_,h=>by
  cases l with
  |nil=>simp
  |cons x l=>have:=h x bT;omega
 |n+1,l,hn,h=>by
  by_cases hm:n∈l
  ·have h1:=o_ n (l.erase n) (hn.erase n) λx hx=>by
    have:=(hn.mem_erase_iff).1 hx;have:=h x this.2;omega
   rw[List.length_erase_of_mem hm]at h1;omega
  ·have:=o_ n l hn λx hx=>by
    have h1:=h x hx;have:x≠n:=λe=>hm (e▸hx);omega
   omega
def ir(l:List Bool):Nat:=l.count false
theorem oR{l:List Bool}(h:l[i]?=O false):ir (l.set i true)+1=ir l:=by
 induction l generalizing i with
 |nil=>simp at h
 |cons x l ih=>
  cases i with
  |zero=>
   simp only[jN,cF]at h;subst h;simp[ir]
  |succ i=>
   simp only[oD]at h;have:=ih h;simp only[ir,bS,bM]at this|-
   omega
end
end Go.Proofs.YthfhgolkafpmnaaGreatDoor
