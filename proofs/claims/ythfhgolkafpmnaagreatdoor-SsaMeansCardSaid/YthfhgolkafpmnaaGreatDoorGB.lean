/- Texts joined: Inst Spec Name CheckA CheckB Reach. -/
import Derived.Test.YthfhgolkafpmnaaGreatDoorRows
import Derived.Test.YthfhgolkafpmnaaGreatDoorGA
namespace Go.Proofs.YthfhgolkafpmnaaGreatDoor
open Go.Value renaming int->U,slice->J,pointer->ar,string->G,bool->D,agg->au
open Go.IntKind renaming i64->O
open Option renaming some->Z,none->A
open Go renaming Value->V,World->C
open Go.Proofs.Tryz
open Go.Proofs.Tryz renaming prog->ae
open Go Go.RowKit
instance:OneCell ae 3:=⟨isAgg3,sizeOf3⟩
instance:gY ae 3 (U O 0):=⟨zeroValue3⟩
instance:OneCell ae 4:=⟨isAgg4,sizeOf4⟩
instance:gY ae 4 (D false):=⟨zeroValue4⟩
instance:OneCell ae 9:=⟨isAgg9,sizeOf9⟩
instance:Rl ae 9:=⟨underlying9⟩
instance:OneCell ae 22:=⟨isAgg22,sizeOf22⟩
instance:eH ae 22 3:=⟨aR,λw=>by have h:Tryz.prog.elem 22=65:=aR;rw[h];exact sizeOf65 w⟩
instance:cI ae 22 65 3 48 [G aA,U O 0,J A 0 0]:=⟨aR,aR⟩
instance:OneCell ae 23:=⟨isAgg23,sizeOf23⟩
instance:eH ae 23 4:=⟨aR,λw=>by have h:Tryz.prog.elem 23=35:=aR;rw[h];exact sizeOf35 w⟩
instance:cI ae 23 35 4 56 [G aA,U O 0,U O 0,J A 0 0]:=⟨aR,aR⟩
instance:eD ae 25 2:=⟨isAgg25,sizeOf25⟩
instance:bV ae 25 0 0:=⟨λb o w=>by simp[Instr.fieldAt,Instr.sureAddr,runUnderlying25,fieldPlace,sizeOf22,Addr.add_lit]⟩
instance:bV ae 25 1 1:=⟨λb o w=>by simp[Instr.fieldAt,Instr.sureAddr,runUnderlying25,fieldPlace,sizeOf23,Addr.add_lit]⟩
instance:im ae 25 [J A 0 0,J A 0 0] [(0,1),(1,1)]:=⟨λparts cells h=>by
 have e:Tryz.prog.built 25 parts=Instr.fill (([(0,1),(1,1)]:List (Nat×Nat)).toArray[·]?) (#[J A 0 0,J A 0 0]:Array V) parts:=aR
 rw[e];simpa using h⟩
instance:gY ae 25 (au #[J A 0 0,J A 0 0]):=⟨zeroValue25⟩
instance:eD ae 28 2:=⟨isAgg28,sizeOf28⟩
instance:bV ae 28 0 0:=⟨λb o w=>by simp[Instr.fieldAt,Instr.sureAddr,runUnderlying28,fieldPlace,sizeOf3,Addr.add_lit]⟩
instance:im ae 28 [U O 0,U O 0] [(0,1),(1,1)]:=⟨λparts cells h=>by
 have e:Tryz.prog.built 28 parts=Instr.fill (([(0,1),(1,1)]:List (Nat×Nat)).toArray[·]?) (#[U O 0,U O 0]:Array V) parts:=aR
 rw[e];simpa using h⟩
instance:gY ae 28 (au #[U O 0,U O 0]):=⟨zeroValue28⟩
instance:OneCell ae 33:=⟨isAgg33,sizeOf33⟩
instance:eH ae 33 6:=⟨aR,λw=>by have h:Tryz.prog.elem 33=46:=aR;rw[h];exact sizeOf46 w⟩
instance:cI ae 33 46 6 96 [J A 0 0,J A 0 0,U O 0,D false,U O 0,J A 0 0]:=⟨aR,aR⟩
instance:eD ae 35 4:=⟨isAgg35,sizeOf35⟩
instance:bV ae 35 0 0:=⟨λb o w=>by simp[Instr.fieldAt,Instr.sureAddr,runUnderlying35,fieldPlace,sizeOf9,Addr.add_lit]⟩
instance:bV ae 35 1 1:=⟨λb o w=>by simp[Instr.fieldAt,Instr.sureAddr,runUnderlying35,fieldPlace,sizeOf3,Addr.add_lit]⟩
instance:bV ae 35 2 2:=⟨λb o w=>by simp[Instr.fieldAt,Instr.sureAddr,runUnderlying35,fieldPlace,sizeOf3,Addr.add_lit]⟩
instance:bV ae 35 3 3:=⟨λb o w=>by simp[Instr.fieldAt,Instr.sureAddr,runUnderlying35,fieldPlace,sizeOf33,Addr.add_lit]⟩
instance:gY ae 35 (au #[G aA,U O 0,U O 0,J A 0 0]):=⟨zeroValue35⟩
instance:OneCell ae 38:=⟨isAgg38,sizeOf38⟩
instance:eH ae 38 2:=⟨aR,λw=>by have h:Tryz.prog.elem 38=49:=aR;rw[h];exact sizeOf49 w⟩
instance:cI ae 38 49 2 32 [U O 0,J A 0 0]:=⟨aR,aR⟩
instance:OneCell ae 39:=⟨isAgg39,sizeOf39⟩
instance:eH ae 39 8:=⟨aR,λw=>by have h:Tryz.prog.elem 39=56:=aR;rw[h];exact sizeOf56 w⟩
instance:cI ae 39 56 8 80 [U O 0,U O 0,D false,U O 0,D false,U O 0,U O 0,J A 0 0]:=⟨aR,aR⟩
instance:eD ae 41 2:=⟨isAgg41,sizeOf41⟩
instance:bV ae 41 0 0:=⟨λb o w=>by simp[Instr.fieldAt,Instr.sureAddr,runUnderlying41,fieldPlace,sizeOf4,Addr.add_lit]⟩
instance:bV ae 41 1 1:=⟨λb o w=>by simp[Instr.fieldAt,Instr.sureAddr,runUnderlying41,fieldPlace,sizeOf3,Addr.add_lit]⟩
instance:im ae 41 [D false,U O 0] [(0,1),(1,1)]:=⟨λparts cells h=>by
 have e:Tryz.prog.built 41 parts=Instr.fill (([(0,1),(1,1)]:List (Nat×Nat)).toArray[·]?) (#[D false,U O 0]:Array V) parts:=aR
 rw[e];simpa using h⟩
instance:gY ae 41 (au #[D false,U O 0]):=⟨zeroValue41⟩
instance:OneCell ae 42:=⟨isAgg42,sizeOf42⟩
instance:eH ae 42 1:=⟨aR,λw=>by have h:Tryz.prog.elem 42=3:=aR;rw[h];exact sizeOf3 w⟩
instance:cI ae 42 3 1 8 [U O 0]:=⟨aR,aR⟩
instance:gY ae 42 (J A 0 0):=⟨zeroValue42⟩
instance:eD ae 44 4:=⟨isAgg44,sizeOf44⟩
instance:bV ae 44 0 0:=⟨λb o w=>by simp[Instr.fieldAt,Instr.sureAddr,runUnderlying44,fieldPlace,sizeOf3,Addr.add_lit]⟩
instance:bV ae 44 1 1:=⟨λb o w=>by simp[Instr.fieldAt,Instr.sureAddr,runUnderlying44,fieldPlace,sizeOf41,Addr.add_lit]⟩
instance:bV ae 44 2 3:=⟨λb o w=>by simp[Instr.fieldAt,Instr.sureAddr,runUnderlying44,fieldPlace,sizeOf42,Addr.add_lit]⟩
instance:im ae 44 [U O 0,D false,U O 0,J A 0 0] [(0,1),(1,2),(3,1)]:=⟨λparts cells h=>by
 have e:Tryz.prog.built 44 parts=Instr.fill (([(0,1),(1,2),(3,1)]:List (Nat×Nat)).toArray[·]?) (#[U O 0,D false,U O 0,J A 0 0]:Array V) parts:=aR
 rw[e];simpa using h⟩
instance:eD ae 46 6:=⟨isAgg46,sizeOf46⟩
instance:bV ae 46 0 0:=⟨λb o w=>by simp[Instr.fieldAt,Instr.sureAddr,runUnderlying46,fieldPlace,sizeOf38,Addr.add_lit]⟩
instance:bV ae 46 1 1:=⟨λb o w=>by simp[Instr.fieldAt,Instr.sureAddr,runUnderlying46,fieldPlace,sizeOf39,Addr.add_lit]⟩
instance:bV ae 46 2 2:=⟨λb o w=>by simp[Instr.fieldAt,Instr.sureAddr,runUnderlying46,fieldPlace,sizeOf44,Addr.add_lit]⟩
instance:im ae 46 [J A 0 0,J A 0 0,U O 0,D false,U O 0,J A 0 0] [(0,1),(1,1),(2,4)]:=⟨λparts cells h=>by
 have e:Tryz.prog.built 46 parts=Instr.fill (([(0,1),(1,1),(2,4)]:List (Nat×Nat)).toArray[·]?) (#[J A 0 0,J A 0 0,U O 0,D false,U O 0,J A 0 0]:Array V) parts:=aR
 rw[e];simpa using h⟩
instance:gY ae 46 (au #[J A 0 0,J A 0 0,U O 0,D false,U O 0,J A 0 0]):=⟨zeroValue46⟩
instance:OneCell ae 47:=⟨isAgg47,sizeOf47⟩
instance:eH ae 47 2:=⟨aR,λw=>by have h:Tryz.prog.elem 47=41:=aR;rw[h];exact sizeOf41 w⟩
instance:cI ae 47 41 2 16 [D false,U O 0]:=⟨aR,aR⟩
instance:eD ae 49 2:=⟨isAgg49,sizeOf49⟩
instance:bV ae 49 0 0:=⟨λb o w=>by simp[Instr.fieldAt,Instr.sureAddr,runUnderlying49,fieldPlace,sizeOf3,Addr.add_lit]⟩
instance:bV ae 49 1 1:=⟨λb o w=>by simp[Instr.fieldAt,Instr.sureAddr,runUnderlying49,fieldPlace,sizeOf47,Addr.add_lit]⟩
instance:im ae 49 [U O 0,J A 0 0] [(0,1),(1,1)]:=⟨λparts cells h=>by
 have e:Tryz.prog.built 49 parts=Instr.fill (([(0,1),(1,1)]:List (Nat×Nat)).toArray[·]?) (#[U O 0,J A 0 0]:Array V) parts:=aR
 rw[e];simpa using h⟩
instance:gY ae 49 (au #[U O 0,J A 0 0]):=⟨zeroValue49⟩
instance:eD ae 56 8:=⟨isAgg56,sizeOf56⟩
instance:bV ae 56 0 0:=⟨λb o w=>by simp[Instr.fieldAt,Instr.sureAddr,runUnderlying56,fieldPlace,sizeOf3,Addr.add_lit]⟩
instance:bV ae 56 1 1:=⟨λb o w=>by simp[Instr.fieldAt,Instr.sureAddr,runUnderlying56,fieldPlace,sizeOf3,Addr.add_lit]⟩
instance:bV ae 56 2 2:=⟨λb o w=>by simp[Instr.fieldAt,Instr.sureAddr,runUnderlying56,fieldPlace,sizeOf41,Addr.add_lit]⟩
instance:bV ae 56 3 4:=⟨λb o w=>by simp[Instr.fieldAt,Instr.sureAddr,runUnderlying56,fieldPlace,sizeOf41,Addr.add_lit]⟩
instance:bV ae 56 4 6:=⟨λb o w=>by simp[Instr.fieldAt,Instr.sureAddr,runUnderlying56,fieldPlace,sizeOf3,Addr.add_lit]⟩
instance:bV ae 56 5 7:=⟨λb o w=>by simp[Instr.fieldAt,Instr.sureAddr,runUnderlying56,fieldPlace,sizeOf47,Addr.add_lit]⟩
instance:gY ae 56 (au #[U O 0,U O 0,D false,U O 0,D false,U O 0,U O 0,J A 0 0]):=⟨zeroValue56⟩
instance:eH ae 63 1:=⟨aR,λw=>by have h:Tryz.prog.elem 63=9:=aR;rw[h];exact sizeOf9 w⟩
instance:cI ae 63 9 1 16 [G aA]:=⟨aR,aR⟩
instance:eD ae 65 3:=⟨isAgg65,sizeOf65⟩
instance:bV ae 65 0 0:=⟨λb o w=>by simp[Instr.fieldAt,Instr.sureAddr,runUnderlying65,fieldPlace,sizeOf9,Addr.add_lit]⟩
instance:bV ae 65 1 1:=⟨λb o w=>by simp[Instr.fieldAt,Instr.sureAddr,runUnderlying65,fieldPlace,sizeOf3,Addr.add_lit]⟩
instance:bV ae 65 2 2:=⟨λb o w=>by simp[Instr.fieldAt,Instr.sureAddr,runUnderlying65,fieldPlace,sizeOf42,Addr.add_lit]⟩
instance:gY ae 65 (au #[G aA,U O 0,J A 0 0]):=⟨zeroValue65⟩
instance:OneCell ae 69:=⟨isAgg69,sizeOf69⟩
instance:eH ae 69 1:=⟨aR,λw=>by have h:Tryz.prog.elem 69=42:=aR;rw[h];exact sizeOf42 w⟩
instance:cI ae 69 42 1 24 [J A 0 0]:=⟨aR,aR⟩
instance:eD ae 71 7:=⟨isAgg71,sizeOf71⟩
instance:bV ae 71 0 0:=⟨λb o w=>by simp[Instr.fieldAt,Instr.sureAddr,runUnderlying71,fieldPlace,sizeOf25,Addr.add_lit]⟩
instance:bV ae 71 1 2:=⟨λb o w=>by simp[Instr.fieldAt,Instr.sureAddr,runUnderlying71,fieldPlace,sizeOf35,Addr.add_lit]⟩
instance:bV ae 71 2 6:=⟨λb o w=>by simp[Instr.fieldAt,Instr.sureAddr,runUnderlying71,fieldPlace,sizeOf69,Addr.add_lit]⟩
instance:im ae 71 [J A 0 0,J A 0 0,G aA,U O 0,U O 0,J A 0 0,J A 0 0] [(0,2),(2,4),(6,1)]:=⟨λparts cells h=>by
 have e:Tryz.prog.built 71 parts=Instr.fill (([(0,2),(2,4),(6,1)]:List (Nat×Nat)).toArray[·]?) (#[J A 0 0,J A 0 0,G aA,U O 0,U O 0,J A 0 0,J A 0 0]:Array V) parts:=aR
 rw[e];simpa using h⟩
instance:gY ae 71 (au #[J A 0 0,J A 0 0,G aA,U O 0,U O 0,J A 0 0,J A 0 0]):=⟨zeroValue71⟩
instance:OneCell ae 73:=⟨isAgg73,sizeOf73⟩
instance:eD ae 89 4:=⟨isAgg89,sizeOf89⟩
instance:bV ae 89 0 0:=⟨λb o w=>by simp[Instr.fieldAt,Instr.sureAddr,runUnderlying89,fieldPlace,sizeOf3,Addr.add_lit]⟩
instance:bV ae 89 1 1:=⟨λb o w=>by simp[Instr.fieldAt,Instr.sureAddr,runUnderlying89,fieldPlace,sizeOf3,Addr.add_lit]⟩
instance:bV ae 89 2 2:=⟨λb o w=>by simp[Instr.fieldAt,Instr.sureAddr,runUnderlying89,fieldPlace,sizeOf42,Addr.add_lit]⟩
instance:bV ae 89 3 3:=⟨λb o w=>by simp[Instr.fieldAt,Instr.sureAddr,runUnderlying89,fieldPlace,sizeOf3,Addr.add_lit]⟩
instance:im ae 89 [U O 0,U O 0,J A 0 0,U O 0] [(0,1),(1,1),(2,1),(3,1)]:=⟨λparts cells h=>by
 have e:Tryz.prog.built 89 parts=Instr.fill (([(0,1),(1,1),(2,1),(3,1)]:List (Nat×Nat)).toArray[·]?) (#[U O 0,U O 0,J A 0 0,U O 0]:Array V) parts:=aR
 rw[e];simpa using h⟩
instance:gY ae 89 (au #[U O 0,U O 0,J A 0 0,U O 0]):=⟨zeroValue89⟩
instance:OneCell ae 99:=⟨isAgg99,sizeOf99⟩
instance:bV ae 102 0 0:=⟨λb o w=>by simp[Instr.fieldAt,Instr.sureAddr,runUnderlying102,fieldPlace,sizeOf99,Addr.add_lit]⟩
instance:bV ae 102 1 1:=⟨λb o w=>by simp[Instr.fieldAt,Instr.sureAddr,runUnderlying102,fieldPlace,sizeOf69,Addr.add_lit]⟩
instance:bV ae 102 2 2:=⟨λb o w=>by simp[Instr.fieldAt,Instr.sureAddr,runUnderlying102,fieldPlace,sizeOf69,Addr.add_lit]⟩
instance:bV ae 102 3 3:=⟨λb o w=>by simp[Instr.fieldAt,Instr.sureAddr,runUnderlying102,fieldPlace,sizeOf3,Addr.add_lit]⟩
instance:im ae 102 [ar A,J A 0 0,J A 0 0,U O 0] [(0,1),(1,1),(2,1),(3,1)]:=⟨λparts cells h=>by
 have e:Tryz.prog.built 102 parts=Instr.fill (([(0,1),(1,1),(2,1),(3,1)]:List (Nat×Nat)).toArray[·]?) (#[ar A,J A 0 0,J A 0 0,U O 0]:Array V) parts:=aR
 rw[e];simpa using h⟩
instance:OneCell ae 125:=⟨isAgg125,sizeOf125⟩
instance:OneCell ae 126:=⟨isAgg126,sizeOf126⟩
instance:eH ae 126 2:=⟨aR,λw=>by have h:Tryz.prog.elem 126=129:=aR;rw[h];exact sizeOf129 w⟩
instance:cI ae 126 129 2 16 [U O 0,U O 0]:=⟨aR,aR⟩
instance:eD ae 129 2:=⟨isAgg129,sizeOf129⟩
instance:bV ae 129 0 0:=⟨λb o w=>by simp[Instr.fieldAt,Instr.sureAddr,runUnderlying129,fieldPlace,sizeOf3,Addr.add_lit]⟩
instance:bV ae 129 1 1:=⟨λb o w=>by simp[Instr.fieldAt,Instr.sureAddr,runUnderlying129,fieldPlace,sizeOf3,Addr.add_lit]⟩
instance:im ae 129 [U O 0,U O 0] [(0,1),(1,1)]:=⟨λparts cells h=>by
 have e:Tryz.prog.built 129 parts=Instr.fill (([(0,1),(1,1)]:List (Nat×Nat)).toArray[·]?) (#[U O 0,U O 0]:Array V) parts:=aR
 rw[e];simpa using h⟩
instance:gY ae 129 (au #[U O 0,U O 0]):=⟨zeroValue129⟩
instance:bV ae 131 0 0:=⟨λb o w=>by simp[Instr.fieldAt,Instr.sureAddr,runUnderlying131,fieldPlace,sizeOf35,Addr.add_lit]⟩
instance:bV ae 131 1 4:=⟨λb o w=>by simp[Instr.fieldAt,Instr.sureAddr,runUnderlying131,fieldPlace,sizeOf42,Addr.add_lit]⟩
instance:bV ae 131 2 5:=⟨λb o w=>by simp[Instr.fieldAt,Instr.sureAddr,runUnderlying131,fieldPlace,sizeOf126,Addr.add_lit]⟩
instance:im ae 131 [G aA,U O 0,U O 0,J A 0 0,J A 0 0,J A 0 0] [(0,4),(4,1),(5,1)]:=⟨λparts cells h=>by
 have e:Tryz.prog.built 131 parts=Instr.fill (([(0,4),(4,1),(5,1)]:List (Nat×Nat)).toArray[·]?) (#[G aA,U O 0,U O 0,J A 0 0,J A 0 0,J A 0 0]:Array V) parts:=aR
 rw[e];simpa using h⟩
instance:eH ae 138 1:=⟨aR,λw=>by have h:Tryz.prog.elem 138=145:=aR;rw[h];exact sizeOf145 w⟩
instance:cI ae 138 145 1 24 [J A 0 0]:=⟨aR,aR⟩
instance:OneCell ae 144:=⟨isAgg144,sizeOf144⟩
instance:eH ae 144 1:=⟨aR,λw=>by have h:Tryz.prog.elem 144=4:=aR;rw[h];exact sizeOf4 w⟩
instance:cI ae 144 4 1 1 [D false]:=⟨aR,aR⟩
instance:gY ae 144 (J A 0 0):=⟨zeroValue144⟩
instance:OneCell ae 145:=⟨isAgg145,sizeOf145⟩
instance:eH ae 145 1:=⟨aR,λw=>by have h:Tryz.prog.elem 145=4:=aR;rw[h];exact sizeOf4 w⟩
instance:cI ae 145 4 1 1 [D false]:=⟨aR,aR⟩
instance:gY ae 145 (J A 0 0):=⟨zeroValue145⟩
instance:bV ae 153 0 0:=⟨λb o w=>by simp[Instr.fieldAt,Instr.sureAddr,runUnderlying153,fieldPlace,sizeOf42,Addr.add_lit]⟩
instance:bV ae 153 1 1:=⟨λb o w=>by simp[Instr.fieldAt,Instr.sureAddr,runUnderlying153,fieldPlace,sizeOf3,Addr.add_lit]⟩
instance:im ae 153 [J A 0 0,U O 0] [(0,1),(1,1)]:=⟨λparts cells h=>by
 have e:Tryz.prog.built 153 parts=Instr.fill (([(0,1),(1,1)]:List (Nat×Nat)).toArray[·]?) (#[J A 0 0,U O 0]:Array V) parts:=aR
 rw[e];simpa using h⟩
instance:YS ae 155 4 1:=⟨aR,aR,λw=>by have h:Tryz.prog.elem 155=3:=aR;rw[h];exact sizeOf3 w⟩
instance:eD ae 160 3:=⟨isAgg160,sizeOf160⟩
instance:bV ae 160 0 0:=⟨λb o w=>by simp[Instr.fieldAt,Instr.sureAddr,runUnderlying160,fieldPlace,sizeOf4,Addr.add_lit]⟩
instance:bV ae 160 1 1:=⟨λb o w=>by simp[Instr.fieldAt,Instr.sureAddr,runUnderlying160,fieldPlace,sizeOf4,Addr.add_lit]⟩
instance:bV ae 160 2 2:=⟨λb o w=>by simp[Instr.fieldAt,Instr.sureAddr,runUnderlying160,fieldPlace,sizeOf4,Addr.add_lit]⟩
instance:im ae 160 [D false,D false,D false] [(0,1),(1,1),(2,1)]:=⟨λparts cells h=>by
 have e:Tryz.prog.built 160 parts=Instr.fill (([(0,1),(1,1),(2,1)]:List (Nat×Nat)).toArray[·]?) (#[D false,D false,D false]:Array V) parts:=aR
 rw[e];simpa using h⟩
instance:gY ae 160 (au #[D false,D false,D false]):=⟨zeroValue160⟩
instance:OneCell ae 165:=⟨isAgg165,sizeOf165⟩
instance:eH ae 165 1:=⟨aR,λw=>by have h:Tryz.prog.elem 165=69:=aR;rw[h];exact sizeOf69 w⟩
instance:cI ae 165 69 1 24 [J A 0 0]:=⟨aR,aR⟩
instance:OneCell ae 166:=⟨isAgg166,sizeOf166⟩
instance:eH ae 166 5:=⟨aR,λw=>by have h:Tryz.prog.elem 166=206:=aR;rw[h];exact sizeOf206 w⟩
instance:cI ae 166 206 5 56 [U O 0,U O 0,U O 0,J A 0 0,U O 0]:=⟨aR,aR⟩
instance:bV ae 168 0 0:=⟨λb o w=>by simp[Instr.fieldAt,Instr.sureAddr,runUnderlying168,fieldPlace,sizeOf25,Addr.add_lit]⟩
instance:bV ae 168 1 2:=⟨λb o w=>by simp[Instr.fieldAt,Instr.sureAddr,runUnderlying168,fieldPlace,sizeOf165,Addr.add_lit]⟩
instance:bV ae 168 2 3:=⟨λb o w=>by simp[Instr.fieldAt,Instr.sureAddr,runUnderlying168,fieldPlace,sizeOf42,Addr.add_lit]⟩
instance:bV ae 168 3 4:=⟨λb o w=>by simp[Instr.fieldAt,Instr.sureAddr,runUnderlying168,fieldPlace,sizeOf42,Addr.add_lit]⟩
instance:bV ae 168 4 5:=⟨λb o w=>by simp[Instr.fieldAt,Instr.sureAddr,runUnderlying168,fieldPlace,sizeOf89,Addr.add_lit]⟩
instance:bV ae 168 5 9:=⟨λb o w=>by simp[Instr.fieldAt,Instr.sureAddr,runUnderlying168,fieldPlace,sizeOf166,Addr.add_lit]⟩
instance:bV ae 168 6 10:=⟨λb o w=>by simp[Instr.fieldAt,Instr.sureAddr,runUnderlying168,fieldPlace,sizeOf69,Addr.add_lit]⟩
instance:im ae 168 [J A 0 0,J A 0 0,J A 0 0,J A 0 0,J A 0 0,U O 0,U O 0,J A 0 0,U O 0,J A 0 0,J A 0 0] [(0,2),(2,1),(3,1),(4,1),(5,4),(9,1),(10,1)]:=⟨λparts cells h=>by
 have e:Tryz.prog.built 168 parts=Instr.fill (([(0,2),(2,1),(3,1),(4,1),(5,4),(9,1),(10,1)]:List (Nat×Nat)).toArray[·]?) (#[J A 0 0,J A 0 0,J A 0 0,J A 0 0,J A 0 0,U O 0,U O 0,J A 0 0,U O 0,J A 0 0,J A 0 0]:Array V) parts:=aR
 rw[e];simpa using h⟩
instance:OneCell ae 175:=⟨isAgg175,sizeOf175⟩
instance:gY ae 175 (.nilFunc):=⟨zeroValue175⟩
instance:eH ae 198 3:=⟨aR,λw=>by have h:Tryz.prog.elem 198=200:=aR;rw[h];exact sizeOf200 w⟩
instance:cI ae 198 200 3 24 [U O 0,D false,U O 0]:=⟨aR,aR⟩
instance:eD ae 200 3:=⟨isAgg200,sizeOf200⟩
instance:bV ae 200 1 1:=⟨λb o w=>by simp[Instr.fieldAt,Instr.sureAddr,runUnderlying200,fieldPlace,sizeOf41,Addr.add_lit]⟩
instance:im ae 200 [U O 0,D false,U O 0] [(0,1),(1,2)]:=⟨λparts cells h=>by
 have e:Tryz.prog.built 200 parts=Instr.fill (([(0,1),(1,2)]:List (Nat×Nat)).toArray[·]?) (#[U O 0,D false,U O 0]:Array V) parts:=aR
 rw[e];simpa using h⟩
instance:gY ae 200 (au #[U O 0,D false,U O 0]):=⟨zeroValue200⟩
instance:eH ae 204 1:=⟨aR,λw=>by have h:Tryz.prog.elem 204=73:=aR;rw[h];exact sizeOf73 w⟩
instance:cI ae 204 73 1 8 [.nilFunc]:=⟨aR,aR⟩
instance:bV ae 206 0 0:=⟨λb o w=>by simp[Instr.fieldAt,Instr.sureAddr,runUnderlying206,fieldPlace,sizeOf3,Addr.add_lit]⟩
instance:bV ae 206 1 1:=⟨λb o w=>by simp[Instr.fieldAt,Instr.sureAddr,runUnderlying206,fieldPlace,sizeOf3,Addr.add_lit]⟩
instance:bV ae 206 2 2:=⟨λb o w=>by simp[Instr.fieldAt,Instr.sureAddr,runUnderlying206,fieldPlace,sizeOf3,Addr.add_lit]⟩
instance:bV ae 206 3 3:=⟨λb o w=>by simp[Instr.fieldAt,Instr.sureAddr,runUnderlying206,fieldPlace,sizeOf42,Addr.add_lit]⟩
instance:bV ae 206 4 4:=⟨λb o w=>by simp[Instr.fieldAt,Instr.sureAddr,runUnderlying206,fieldPlace,sizeOf3,Addr.add_lit]⟩
instance:im ae 206 [U O 0,U O 0,U O 0,J A 0 0,U O 0] [(0,1),(1,1),(2,1),(3,1),(4,1)]:=⟨λparts cells h=>by
 have e:Tryz.prog.built 206 parts=Instr.fill (([(0,1),(1,1),(2,1),(3,1),(4,1)]:List (Nat×Nat)).toArray[·]?) (#[U O 0,U O 0,U O 0,J A 0 0,U O 0]:Array V) parts:=aR
 rw[e];simpa using h⟩
instance:aQ ae 9:=⟨call9⟩
instance:aQ ae 10:=⟨call10⟩
instance:aQ ae 11:=⟨call11⟩
instance:aQ ae 12:=⟨call12⟩
instance:aQ ae 21:=⟨call21⟩
instance:aQ ae 22:=⟨call22⟩
instance:aQ ae 23:=⟨call23⟩
instance:aQ ae 24:=⟨call24⟩
instance:aQ ae 25:=⟨call25⟩
instance:aQ ae 26:=⟨call26⟩
instance:aQ ae 27:=⟨call27⟩
instance:aQ ae 28:=⟨call28⟩
instance:aQ ae 29:=⟨call29⟩
instance:aQ ae 30:=⟨call30⟩
instance:aQ ae 31:=⟨call31⟩
instance:aQ ae 32:=⟨call32⟩
instance:aQ ae 33:=⟨call33⟩
instance:aQ ae 53:=⟨call53⟩
instance:aQ ae 54:=⟨call54⟩
instance:aQ ae 55:=⟨call55⟩
instance:aQ ae 56:=⟨call56⟩
instance:aQ ae 57:=⟨call57⟩
instance:aQ ae 58:=⟨call58⟩
instance:aQ ae 59:=⟨call59⟩
instance:aQ ae 60:=⟨call60⟩
instance:aQ ae 61:=⟨call61⟩
instance:aQ ae 62:=⟨call62⟩
instance:aQ ae 63:=⟨call63⟩
instance:aQ ae 64:=⟨call64⟩
instance:aQ ae 65:=⟨call65⟩
instance:aQ ae 66:=⟨call66⟩
instance:aQ ae 67:=⟨call67⟩
instance:aQ ae 68:=⟨call68⟩
instance:aQ ae 69:=⟨call69⟩
instance:aQ ae 70:=⟨call70⟩
instance:aQ ae 71:=⟨call71⟩
instance:aQ ae 72:=⟨call72⟩
instance:aQ ae 73:=⟨call73⟩
instance:aQ ae 87:=⟨call87⟩
instance:aQ ae 88:=⟨call88⟩
instance:aQ ae 89:=⟨call89⟩
instance:aQ ae 90:=⟨call90⟩
instance:aQ ae 91:=⟨call91⟩
instance:aQ ae 92:=⟨call92⟩
instance:aQ ae 93:=⟨call93⟩
instance:aQ ae 94:=⟨call94⟩
instance:aQ ae 95:=⟨call95⟩
instance:aQ ae 96:=⟨call96⟩
instance:aQ ae 97:=⟨call97⟩
instance:aQ ae 98:=⟨call98⟩
instance:aQ ae 99:=⟨call99⟩
instance:aQ ae 100:=⟨call100⟩
instance:aQ ae 101:=⟨call101⟩
instance:aQ ae 102:=⟨call102⟩
instance:aQ ae 103:=⟨call103⟩
instance:aQ ae 104:=⟨call104⟩
instance:aQ ae 105:=⟨call105⟩
instance:aQ ae 106:=⟨call106⟩
instance:aQ ae 107:=⟨call107⟩
instance:aQ ae 108:=⟨call108⟩
instance:aQ ae 109:=⟨call109⟩
instance:aQ ae 110:=⟨call110⟩
instance:aQ ae 111:=⟨call111⟩
instance:aQ ae 112:=⟨call112⟩
instance:aQ ae 113:=⟨call113⟩
instance:aQ ae 114:=⟨call114⟩
instance:aQ ae 115:=⟨call115⟩
instance:aQ ae 116:=⟨call116⟩
instance:aQ ae 117:=⟨call117⟩
instance:aQ ae 118:=⟨call118⟩
instance:aQ ae 119:=⟨call119⟩
instance:aQ ae 120:=⟨call120⟩
instance:aQ ae 121:=⟨call121⟩
instance:aQ ae 122:=⟨call122⟩
instance:aQ ae 123:=⟨call123⟩
instance:aQ ae 128:=⟨call128⟩
instance:aQ ae 129:=⟨call129⟩
instance:aQ ae 130:=⟨call130⟩
instance:aQ ae 131:=⟨call131⟩
instance:aQ ae 132:=⟨call132⟩
instance:aQ ae 134:=⟨call134⟩
instance:aQ ae 135:=⟨call135⟩
instance:aQ ae 136:=⟨call136⟩
instance:aQ ae 137:=⟨call137⟩
instance:aQ ae 138:=⟨call138⟩
instance:aQ ae 139:=⟨call139⟩
instance:aQ ae 140:=⟨call140⟩
instance:aQ ae 141:=⟨call141⟩
instance:aQ ae 142:=⟨call142⟩
instance:aQ ae 143:=⟨call143⟩
instance:aQ ae 144:=⟨call144⟩
instance:aQ ae 145:=⟨call145⟩
instance:aQ ae 146:=⟨call146⟩
instance:aQ ae 147:=⟨call147⟩
instance:aQ ae 148:=⟨call148⟩
instance:aQ ae 149:=⟨call149⟩
instance:aQ ae 150:=⟨call150⟩
instance:aQ ae 151:=⟨call151⟩
instance:aQ ae 152:=⟨call152⟩
instance:aQ ae 153:=⟨call153⟩
instance:aQ ae 155:=⟨call155⟩
instance:aQ ae 156:=⟨call156⟩
instance:aQ ae 157:=⟨call157⟩
instance:aQ ae 158:=⟨call158⟩
instance:aQ ae 159:=⟨call159⟩
instance:aQ ae 162:=⟨call162⟩
instance:aQ ae 163:=⟨call163⟩
instance:aQ ae 164:=⟨call164⟩
instance:aQ ae 165:=⟨call165⟩
instance:aQ ae 166:=⟨call166⟩
instance:aQ ae 169:=⟨call169⟩
instance:aQ ae 170:=⟨call170⟩
instance:aQ ae 172:=⟨call172⟩
instance:aQ ae 173:=⟨call173⟩
instance:aQ ae 174:=⟨call174⟩
instance:aQ ae 175:=⟨call175⟩
instance:aQ ae 197:=⟨call197⟩
instance(a b:Bool):Ci ae 4 (.bool a) (.bool b) (a==b):=⟨λ_ _ _ _=>by rw[eqGuard_at_bool];rfl,λw=>run_eql_bool w 4 a b underlying4,λw=>by simp[binOp,run_equal_bool w 4 a b underlying4]⟩
instance(a b:ByteArray):Ci ae 9 (G a) (G b) (a.toList==b.toList):=⟨λ_ _ _ _=>by rw[eqGuard_at_string];rfl,λw=>by simp[go_sem],λw=>by simp[go_sem]⟩
theorem Gu(x0 y0:Int)(x1 y1:Int)(w:C):(binOp .eql 28 (au #[U O x0,U O x1]) (au #[U O y0,U O y1])).run ae w=.ok (D (decide (x0=y0)&&decide (x1=y1))) w:=by
 simp[go_sem]
 (repeat' split)<;>simp_all
theorem G8(x0 y0:Int)(x1 y1:Int)(w:C):(binOp .neq 28 (au #[U O x0,U O x1]) (au #[U O y0,U O y1])).run ae w=.ok (D (!(decide (x0=y0)&&decide (x1=y1)))) w:=by
 simp[go_sem]
 (repeat' split)<;>simp_all
instance(x0 y0:Int)(x1 y1:Int):Ci ae 28 (au #[U O x0,U O x1]) (au #[U O y0,U O y1]) (decide (x0=y0)&&decide (x1=y1)):=⟨λop x y w=>by unfold eqGuard;cases op<;>simp[go_sem],Gu _ _ _ _,G8 _ _ _ _⟩
theorem Gv(x0 y0:Bool)(x1 y1:Int)(w:C):(binOp .eql 41 (au #[D x0,U O x1]) (au #[D y0,U O y1])).run ae w=.ok (D ((x0==y0)&&decide (x1=y1))) w:=by
 simp[go_sem]
 (repeat' split)<;>simp_all
theorem G9(x0 y0:Bool)(x1 y1:Int)(w:C):(binOp .neq 41 (au #[D x0,U O x1]) (au #[D y0,U O y1])).run ae w=.ok (D (!((x0==y0)&&decide (x1=y1)))) w:=by
 simp[go_sem]
 (repeat' split)<;>simp_all
instance(x0 y0:Bool)(x1 y1:Int):Ci ae 41 (au #[D x0,U O x1]) (au #[D y0,U O y1]) ((x0==y0)&&decide (x1=y1)):=⟨λop x y w=>by unfold eqGuard;cases op<;>simp[go_sem],Gv _ _ _ _,G9 _ _ _ _⟩
def eh(f:Nat->Int)(n:Nat):Int×Nat:=match (List.range n).find? (λi=>!decide (f i=0))with|some i=>(f i,i)|none=>(0,0)
theorem gT{f:Nat->Int}{n i:Nat}(h:∀j,j<i->f j=0)(hi:i<n)(hf:f i≠0):eh f n=(f i,i):=by
 have e:(List.range n).find? (λi=>!decide (f i=0))=Z i:=by
  rw[List.find?_eq_some_iff_append];refine⟨by simp[hf],List.range i,(List.range' (i+1) (n-(i+1))),?_,λa ha=>by simp[h a (ax ha)]⟩;apply List.ext_getElem
  ·simp;omega
  ·intro k h1 h2
   simp only[List.getElem_range,List.getElem_append,fA]
   split
   ·simp
   ·rename_i hk
    by_cases C6:k=i
    ·subst C6;simp
    ·rw[List.getElem_cons]
     rw[dif_neg I];simp only[List.getElem_range'];omega
 unfold eh;rw[e]
theorem gh{f:Nat->Int}{n:Nat}(h:∀j,j<n->f j=0):eh f n=(0,0):=by
 unfold eh;rw[List.find?_eq_none.2 (λi hi=>by simp[h i (ax hi)])]
theorem jc{f:Nat->Int}{n:Nat}(h:(eh f n).1=0):∀j,j<n->f j=0:=by
 intro j hj;unfold eh at h
 split at h
 ·rename_i i hi
  have:=List.find?_some hi;simp at this;exact absurd h this
 ·rename_i hi
  have:=List.find?_eq_none.1 hi j (ax hj);simpa using this
def within(n lo hi:Int):Bool:=decide (lo<=n)&&decide (n<=hi)
def Cx(s:ByteArray)(i:Nat):Int:=if h:i<s.size then((s[i]'h).toNat:Int)else 0
def Ul(i:Nat)(c:Int):Bool:=(((decide (97<=c)&&decide (c<=122))||(decide (65<=c)&&decide (c<=90)))||decide (c=95))||((decide (0<(i:Int))&&decide (48<=c))&&decide (c<=57))
def uk(s:ByteArray):Bool:=if (s.size:Int)<1∨12<(s.size:Int)then false else decide (∀i,i<s.size->Ul i (Cx s i)=true)
def hasName(l:List ByteArray)(s:ByteArray):Bool:=l.any λt=>s.toList==t.toList
def dV(aB:Int)(v:cg):Int:=if v.z&& !within v.n 0 (aB-1)then 3 else 0
def km(aB n:Int):Int:=if !within n 0 (aB-1)then 3 else 0
def j4{α:Type}(l:List α)(f:α->Int)(i:Nat):Int:=match l[i]? with|some x=>f x|none=>0
def qz(i:Nat)(rows:List (List Int))(to:Int):List (List Int):=rows.modify to.toNat (·++[(i:Int)])
def j8(bs:List E):Nat->List (List Int)
 |0=>List.replicate bs.length []
 |i+1=>(match bs[i]? with|some b=>b.to|none=>[]).foldl (qz i) (j8 bs i)
def be(bs:List E):List (List Int):=j8 bs bs.length
def zk(aB:Int)(block np:Nat)(p:ep):Int:=
 if (block:Int)=0 then 5 else if km aB p.dst≠0 then km aB p.dst
 else if (p.src.length:Int)≠np then 9 else(eh (j4 p.src (dV aB)) p.src.length).1
def ng(aB:Int)(bs:List E)(block:Nat)(p:ep):Int:=zk aB block ((be bs)[block]?.getD []).length p
def shape(op:Int):Bool×Bool×Bool:=
 if ((op=1∨op=16)∨op=17)∨op=18 then(true,true,false)else if 2<=op/\op<=15 then(true,true,true)else if op=19 then(false,true,true)
 else if op=20∨op=21 then(true,false,false)else if op=22 then(false,true,false)else(false,false,false)
def jo(v:cg):Bool:=(v.z==false)&&decide (v.n=0)
def gK(fs:List aY)(aB:Int)(x:dJ):Int:=
 if x.op≠20 then 0 else if !within x.fn 0 (fs.length-1)then 3 else if (x.args.length:Int)≠j4 fs (·.params) x.fn.toNat then 9 else(eh (j4 x.args (dV aB)) x.args.length).1
def rJ(x:dJ):Bool:=
 (((!(shape x.op).1&& !decide (x.dst=-1))||(!(shape x.op).2.1&& !jo x.a))||(!(shape x.op).2.2&& !jo x.b))||(!decide (x.op=20)&&(!decide (x.fn=0)||decide (0<(x.args.length:Int))))
def eu(fs:List aY)(aB:Int)(x:dJ):Int:=
 if !within x.op 1 22 then 4 else if rJ x then 5
 else if ((shape x.op).1&& !(decide (x.op=20)&&decide (x.dst=-1)))&& !decide (km aB x.dst=0)then km aB x.dst
 else if dV aB x.a≠0 then dV aB x.a else if dV aB x.b≠0 then dV aB x.b else gK fs aB x
def wI(n:Nat)(aB kind:Int)(on:cg)(to:List Int):Int:=
 if !within kind 1 3 then 4 else if (to.length:Int)≠kind-1 then 9 else if to.any (λt=>!within t 1 (n-1))then 3
 else if (decide (kind=3)&&decide (to[0]?.getD 0=to[1]?.getD 0))||(decide (kind=2)&& !jo on)then 5 else dV aB on
def k9(n:Nat)(aB:Int)(b:E):Int:=wI n aB b.kind b.on b.to
def jN(fs:List aY)(f:aY)(i:Nat):Int:=match f.blocks[i]? with
 |some b=>if (eh (j4 b.aD (ng f.aB f.blocks i)) b.aD.length).1≠0 then(eh (j4 b.aD (ng f.aB f.blocks i)) b.aD.length).1 else(eh (j4 b.list (eu fs f.aB)) b.list.length).1
 |none=>0
def gJ(fs:List aY)(f:aY):Int:=
 if (eh (j4 f.blocks (k9 f.blocks.length f.aB)) f.blocks.length).1≠0 then(eh (j4 f.blocks (k9 f.blocks.length f.aB)) f.blocks.length).1 else(eh (jN fs f) f.blocks.length).1
def om(bs:List E)(i:Nat):Int:=((bs.take i).map λb=>((b.aD.length+b.list.length:Nat):Int)).sum
def gy(bs:List E):Int:=(bs.map λb=>((b.aD.length+b.list.length:Nat):Int)).sum
def lX(names:List ByteArray)(f:aY):Int:=
 if !uk f.name then 12 else if hasName names f.name then 7 else if !within f.params 0 6|| !within f.aB f.params 100 then 3
 else if !within f.blocks.length 1 40||decide (300<gy f.blocks)then 2 else 0
def oM(l:List jt)(i:Nat):Int:=((l.take i).map (·.size)).sum
def jR(names:List ByteArray)(tot:Int)(g:jt):Int:=
 if !uk g.name then 12 else if hasName names g.name then 7 else if !within g.size 1 200 then 3 else if g.size<(g.init.length:Int)then 9 else if 200<tot+g.size then 10 else 0
def oV(l:List jt)(i:Nat):Int:=j4 l (jR ((l.take i).map (·.name)) (oM l i)) i
def mm(u:a8)(i:Nat):Int:=j4 u.funcs (lX (u.globals.map (·.name)++(u.funcs.take i).map (·.name))) i
def sF(f:aY):Bool:=f.name.toList==(ByteArray.mk #[109,97,105,110]).toList
def dh(fs:List aY):Int:=match fs.findIdx? sF with|some i=>(i:Int)|none=>-1
def dA(u:a8):Int×Int:=
 if 10<(u.globals.length:Int)∨10<(u.funcs.length:Int)then(2,0)
 else if (eh (oV u.globals) u.globals.length).1≠0 then((eh (oV u.globals) u.globals.length).1,(eh (oV u.globals) u.globals.length).2)
 else if (eh (mm u) u.funcs.length).1≠0 then((eh (mm u) u.funcs.length).1,(eh (mm u) u.funcs.length).2)
 else if (eh (j4 u.funcs (gJ u.funcs)) u.funcs.length).1≠0 then((eh (j4 u.funcs (gJ u.funcs)) u.funcs.length).1,(eh (j4 u.funcs (gJ u.funcs)) u.funcs.length).2)
 else if dh u.funcs<0 then(6,0)else if 0<j4 u.funcs (·.params) (dh u.funcs).toNat then(5,dh u.funcs)else(0,0)
section
set_option maxHeartbeats 8000000
attribute [local irreducible] wpListIn Code.wpIn Exit.then Exit.inBlock bodyPost wpQuiet wpAnyIn
theorem mixed:Tryz.prog.follows .mixedOrders=true:=by kernel_rfl
theorem et{α:Type}{l:List α}{i n:Nat}(hn:n=l.length)(h:i<n):∃x,l[i]?=Z x:=⟨l[i],by simp[hn▸h]⟩
theorem aL{α:Type}{l:List α}{i:Nat}{x:α}(h:l[i]?=Z x):l≠[]:=by rintro rfl;simp at h
theorem jX(n lo hi:Int)(w0:C):eP ae 29 [U O n,U O lo,U O hi] w0 (D (within n lo hi)):=by
 refine aM func29 rfl ntmps29 rfl (Wd.nil cX w0) ?_;refine aU ?_;generalize hb:decide (lo<=n)=b;cases b
 ·refine iL ?_
  exact bP rfl (by simp[within,hb])
 ·refine aE ?_
  exact bP rfl (by simp[within,hb])
theorem pJ(code at':Int)(w0:C):eP ae 26 [U O code,U O at'] w0 (au #[U O code,U O at']):=by
 refine aM func26 rfl ntmps26 rfl (Wd.nil cX w0) ?_
 repeat(first|refine aE ?_|refine dZ λ_ _=>?_)
 exact gw rfl λ_ hw=>⟨rfl,hw.ch⟩
theorem T1(s:ByteArray)(w0:C):eP ae 27 [G s] w0 (D (uk s)):=by
 refine aM func27 rfl ntmps27 rfl (Wd.nil cX w0) ?_;refine aU ?_;generalize hb:decide ((s.size:Int)<1)=b;refine sD 4 12 (D (b||decide (12<(s.size:Int)))) ?_ ?_
 ·cases b
  ·refine aE ?_
   exact aS ap aC
  ·refine iL ?_
   exact aS ap aC
 refine aU ?_;refine aI (λh1=>?_) (λh1=>?_)
 ·refine aE ?_
  refine bP rfl ?_;subst hb;simp[uk,if_pos (show(s.size:Int)<1∨12<(s.size:Int) by simpa using h1)]
 have GG:¬((s.size:Int)<1∨12<(s.size:Int)):=by subst hb;simpa using h1
 refine aH ?_;refine bL (λ(i:Nat)=>i<=s.size/\∀j,j<i->Ul j (Cx s j)=true) (λi=>[(0,G s),(15,U O i),(14,U O s.size)]) (λ_=>[]) (λi=>s.size-i) 0 ⟨aT _,by simp⟩ (aS ap aC) λi ⟨hi,cU⟩=>?_;refine aU ?_;refine aI (λh2=>?_) (λh2=>?_)
 ·have bS:i<s.size:=ax h2
  have WW:Re s i (Cx s i):=⟨bS,by simp[Cx,bS]⟩;generalize hc:Cx s i=c at WW;refine aH ?_;generalize e1:decide (97<=c)=b1;refine sD 3 26 (D (b1&&decide (c<=122))) ?_ ?_
  ·cases b1
   ·refine iL ?_
    exact aS ap aC
   ·refine aE ?_
    exact aS ap aC
  generalize e2:(b1&&decide (c<=122))=b2;refine aU ?_;refine sD 7 34 (D (b2||(decide (65<=c)&&decide (c<=90)))) ?_ ?_
  ·cases b2
   ·refine aE ?_
    generalize e3:decide (65<=c)=b3;cases b3
    ·refine iL ?_
     exact aS ap aC
    ·refine aE ?_
     exact aS ap aC
   ·refine iL ?_
    exact aS ap aC
  generalize e3:(b2||(decide (65<=c)&&decide (c<=90)))=b3;refine aU ?_;refine sD 3 38 (D (b3||decide (c=95))) ?_ ?_
  ·cases b3
   ·refine aE ?_
    exact aS ap aC
   ·refine iL ?_
    exact aS ap aC
  generalize e4:(b3||decide (c=95))=b4;refine aU ?_;refine sD 11 50 (D (b4||((decide (0<(i:Int))&&decide (48<=c))&&decide (c<=57)))) ?_ ?_
  ·cases b4
   ·refine aE ?_
    generalize e5:decide (0<(i:Int))=b5;cases b5
    ·refine iL ?_
     exact aS ap aC
    ·refine aE ?_
     generalize e6:decide (48<=c)=b6;cases b6
     ·refine iL ?_
      exact aS ap aC
     ·refine aE ?_
      exact aS ap aC
   ·refine iL ?_
    exact aS ap aC
  have cY:Ul i c=(b4||((decide (0<(i:Int))&&decide (48<=c))&&decide (c<=57))):=by subst e4 e3 e2 e1;rfl
  rw[<-cY];refine aU ?_;refine aI (λh3=>?_) (λh3=>?_)
  ·have sY:Ul i c=false:=ax h3
   refine aE ?_;refine bP rfl ?_;simp only[uk,if_neg GG,Value.bool.injEq]
   symm
   rw[decide_eq_false_iff_not];intro hh;have:=hh i bS;rw[hc,sY]at this;cases this
  ·have sY:Ul i c=true:=ax h3
   refine aH ?_;refine bj (i+1) ⟨bS,λj hj=>?_⟩ I ap aC
   by_cases yZ:j=i
   ·subst yZ;rw[hc];exact sY
   ·exact cU j I
 ·have gP:i=s.size:=by have:=h2;simp at this;omega
  refine aE ?_;refine bP rfl ?_;subst gP;simp only[uk,if_neg GG,Value.bool.injEq]
  symm
  rw[decide_eq_true_eq];exact cU
theorem Tq(v:V)(l:List ByteArray)(s:ByteArray)(w0:C)(hv:aG w0 v 1 l Rr):iC ae 69 [v,G s] w0 λu w'=>l_ cX w0 w'/\∃r:Int,u=U O r/\decide (0<=r)=hasName l s:=by
 obtain⟨a,n,c,b,o,rfl,hn,qP,GM,hc,ha,ji⟩:=hv;refine aM func69 rfl ntmps69 rfl (Wd.nil cX w0) ?_;refine aH ?_;refine bL (λ(i:Nat)=>i<=n/\∀j t,j<i->l[j]?=Z t->(s.toList==t.toList)=false) (λi=>[(8,U O i),(0,J a n c),(1,G s),(7,U O n)]) (λ_=>[]) (λi=>n-i) 0 ⟨aT _,by simp⟩ (aS ap aC) λi ⟨hi,cU⟩=>?_;refine aU ?_;refine aI (λh1=>?_) (λh1=>?_)
 ·have bS:i<n:=ax h1
  obtain⟨x,hx⟩:=et hn bS;have oW:bU a b o:=⟨ha (aL hx)⟩;have lY:bY i n:=⟨bS⟩;obtain⟨cs,fT,rfl⟩:=ji i x hx;have n_:a6 w0 b (o+i*1) _:=⟨fT⟩;refine aH ?_;refine aI (λh2=>?_) (λh2=>?_)
  ·refine aE ?_
   refine cE rfl λw hw=>⟨hw.ch,_,rfl,?_⟩;rw[decide_eq_true (by omega:(0:Int)<=(i:Int))]
   symm
   simp only[hasName,mW];exact⟨x,aq hx,h2⟩
  ·refine aH ?_
   refine bj (i+1) ⟨bS,λj t hj ht=>?_⟩ I ap aC
   by_cases yZ:j=i
   ·subst yZ
    rw[hx]at ht;simp only[b_]at ht;subst ht;exact h2
   ·exact cU j t I ht
 ·have gP:i=n:=by have:=h1;simp at this;omega
  refine aE ?_;refine cE rfl λw hw=>⟨hw.ch,_,rfl,?_⟩
  symm
  rw[show decide ((0:Int)<=-1)=false from rfl];simp only[hasName,xw];intro t ht;obtain⟨j,hj⟩:=bg ht;have:=cU j t (by have:=(az.1 hj).1;omega) hj;simp[this]
theorem Bb(v:V)(l:List ByteArray)(s:ByteArray)(w0:C)(hv:aG w0 v 1 l Rr):eP ae 28 [v,G s] w0 (D (hasName l s)):=by
 refine aM func28 rfl ntmps28 rfl (Wd.nil cX w0) ?_;refine aU ?_;refine cZ (val:=λr:Int=>.int O r) (φ:=λr:Int=>decide (0<=r)=hasName l s) (akg:=λ_=>[]) rfl (λw hw=>(Tq v l s w (hv.bZ FB hw.ch)).mono λu w' ⟨h1,r,h2,h3⟩=>⟨r,h2,(Wd.nil cX w).call h1,h3⟩) λr hr=>?_;refine aH ?_;exact bP rfl (by rw[hr])
theorem Ea(g fs nm pa bs ah:V)(aB:Int)(hr:0<=aB/\aB<=100)(v:cg)(w0:C):
  eP ae 117 [au #[g,fs,nm,pa,U O aB,bs,ah],au #[D v.z,U O v.n]] w0 (U O (dV aB v)):=by
 refine aM func117 rfl ntmps117 rfl (Wd.nil cX w0) ?_
 repeat(first|refine aU ?_|refine dZ λ_ _=>?_)
 generalize hb:v.z=b;cases b
 ·refine iL ?_
  exact bP rfl (by simp[dV,hb])
 ·refine aE ?_
  refine bB rfl (λw _=>jX _ _ _ w) ?_;refine aE ?_;refine aI (λh1=>?_) (λh1=>?_)
  ·refine aE ?_
   exact bP rfl (by simp at h1;simp[dV,hb,h1])
  ·refine aH ?_
   exact bP rfl (by simp at h1;simp[dV,hb,h1])
theorem Y2(g fs nm pa bs ah:V)(aB:Int)(hr:0<=aB/\aB<=100)(n:Int)(w0:C):
  eP ae 118 [au #[g,fs,nm,pa,U O aB,bs,ah],U O n] w0 (U O (km aB n)):=by
 refine aM func118 rfl ntmps118 rfl (Wd.nil cX w0) ?_
 repeat(first|refine aE ?_|refine dZ λ_ _=>?_)
 refine bB rfl (λw _=>jX _ _ _ w) ?_;refine aU ?_;refine aI (λh1=>?_) (λh1=>?_)
 ·refine aE ?_
  exact bP rfl (by simp at h1;simp[km,h1])
 ·refine aH ?_
  exact bP rfl (by simp at h1;simp[km,h1])
theorem RG(g fs nm pa re ah:V)(n c b:Nat)(a:Option Addr)(hn:n<=100)(x:Int)(w0:C)(hc:bF w0 b 0 [g,fs,nm,pa,re,J a n c,ah]):
  eP ae 116 [U O x,ar (Z ⟨b,0,A⟩)] w0 (D (!within x 1 (n-1))):=by
 have n_:a6 w0 b 0 _:=⟨hc⟩;have aaT:zR w0 b 5 (J a n c):=⟨by simpa using hc 5 _ rfl⟩;refine aM func116 rfl ntmps116 rfl (Wd.nil cX w0) ?_;refine aE ?_;refine bB rfl (λw _=>jX _ _ _ w) ?_;refine aH ?_;exact bP rfl rfl
theorem J6(op:Int)(w0:C):eP ae 119 [U O op] w0 (au #[D (shape op).1,D (shape op).2.1,D (shape op).2.2]):=by
 refine aM func119 rfl ntmps119 rfl (Wd.nil cX w0) ?_
 repeat(first|refine aH ?_|refine dZ λ_ _=>?_)
 generalize e1:decide (op=1)=b1;refine sD 3 9 (D (b1||decide (op=16))) ?_ ?_
 ·cases b1
  ·refine aE ?_
   exact aS ap aC
  ·refine iL ?_
   exact aS ap aC
 generalize e2:(b1||decide (op=16))=b2;refine aU ?_;refine sD 3 13 (D (b2||decide (op=17))) ?_ ?_
 ·cases b2
  ·refine aE ?_
   exact aS ap aC
  ·refine iL ?_
   exact aS ap aC
 generalize e3:(b2||decide (op=17))=b3;refine aU ?_;refine sD 3 17 (D (b3||decide (op=18))) ?_ ?_
 ·cases b3
  ·refine aE ?_
   exact aS ap aC
  ·refine iL ?_
   exact aS ap aC
 refine aU ?_;refine aI (λh1=>?_) (λh1=>?_)
 ·refine aE ?_
  refine gw rfl λ_ hw=>⟨?_,hw.ch⟩;have:((op=1∨op=16)∨op=17)∨op=18:=by subst e3 e2 e1;simpa using h1
  simp[shape,this]
 have n1:¬(((op=1∨op=16)∨op=17)∨op=18):=by subst e3 e2 e1;simpa using h1
 refine aU ?_;generalize e4:decide (2<=op)=b4;refine sD 3 25 (D (b4&&decide (op<=15))) ?_ ?_
 ·cases b4
  ·refine iL ?_
   exact aS ap aC
  ·refine aE ?_
   exact aS ap aC
 refine aU ?_;refine aI (λh2=>?_) (λh2=>?_)
 ·refine aE ?_
  refine gw rfl λ_ hw=>⟨?_,hw.ch⟩;have:2<=op/\op<=15:=by subst e4;simpa using h2
  simp[shape,n1,this]
 have n2:¬(2<=op/\op<=15):=by subst e4;simpa using h2
 refine aU ?_;refine aI (λh3=>?_) (λh3=>?_)
 ·refine aE ?_
  refine gw rfl λ_ hw=>⟨?_,hw.ch⟩;have:op=19:=ax h3;simp[shape,this]
 have n3:¬op=19:=ax h3;refine aU ?_;generalize e5:decide (op=20)=b5;refine sD 3 37 (D (b5||decide (op=21))) ?_ ?_
 ·cases b5
  ·refine aE ?_
   exact aS ap aC
  ·refine iL ?_
   exact aS ap aC
 refine aU ?_;refine aI (λh4=>?_) (λh4=>?_)
 ·refine aE ?_
  refine gw rfl λ_ hw=>⟨?_,hw.ch⟩;have:op=20∨op=21:=by subst e5;simpa using h4
  rcases this with rfl|rfl<;>rfl
 have n4:¬(op=20∨op=21):=by subst e5;simpa using h4
 refine aU ?_;refine aI (λh5=>?_) (λh5=>?_)
 ·refine aE ?_
  refine gw rfl λ_ hw=>⟨?_,hw.ch⟩;have:op=22:=ax h5;subst this;rfl
 ·have n5:¬op=22:=ax h5
  refine aE ?_;refine gw rfl λ_ hw=>⟨?_,hw.ch⟩;simp[shape,n1,n2,n3,n4,n5]
theorem PG{f:Nat}[aQ ae f](cap:List V)(g:Int->Bool)(v:V)(l:List Int)(w0:C)(hv:aG w0 v 1 l fI)(e_:∀w,l_ cX w0 w->∀x∈l,eP ae f (U O x::cap) w (D (g x))):
  iC ae 156 [v,.func (.func f) #[] cap.toArray] w0 λu w'=>∃r:Int,u=U O r/\Wd cX w0 [] w'/\decide (0<=r)=l.any g:=by
 obtain⟨a,n,c,b,o,rfl,hn,qP,GM,hc,ha,ji⟩:=hv;refine aM func156 rfl ntmps156 rfl (Wd.nil cX w0) ?_;refine aH ?_;refine bL (λ(i:Nat)=>i<=n/\∀j t,j<i->l[j]?=Z t->g t=false) (λi=>[(8,U O i),(0,J a n c),(1,.func (.func f) #[] cap.toArray),(7,U O n)]) (λ_=>[]) (λi=>n-i) 0 ⟨aT _,by simp⟩ (aS ap aC) λi ⟨hi,cU⟩=>?_;refine aU ?_;refine aI (λh1=>?_) (λh1=>?_)
 ·have bS:i<n:=ax h1
  obtain⟨x,hx⟩:=et hn bS;have oW:bU a b o:=⟨ha (aL hx)⟩;have lY:bY i n:=⟨bS⟩;obtain⟨cs,fT,rfl,hxi⟩:=ji i x hx;have n_:a6 w0 b (o+i*1) _:=⟨fT⟩;refine aH ?_;refine lH rfl (us:=[]) (vs:=[U O x]) (xs:=cap) (λw hw=>e_ w hw.ch x (aq hx)) ?_;refine aU ?_;refine aI (λh2=>?_) (λh2=>?_)
  ·refine aE ?_
   refine cE rfl λw hw=>⟨_,rfl,⟨hw.ch,by simp,by simp,by simp⟩,?_⟩;rw[decide_eq_true (by omega:(0:Int)<=(i:Int))]
   symm
   simp only[mW];exact⟨x,aq hx,h2⟩
  ·refine aH ?_
   refine bj (i+1) ⟨bS,λj t hj ht=>?_⟩ I ap aC
   by_cases yZ:j=i
   ·subst yZ
    rw[hx]at ht;simp only[b_]at ht;subst ht;exact h2
   ·exact cU j t I ht
 ·have gP:i=n:=by have:=h1;simp at this;omega
  refine aE ?_;refine cE rfl λw hw=>⟨_,rfl,⟨hw.ch,by simp,by simp,by simp⟩,?_⟩
  symm
  rw[show decide ((0:Int)<=-1)=false from rfl];simp only[xw];intro t ht;obtain⟨j,hj⟩:=bg ht;have:=cU j t (by have:=(az.1 hj).1;omega) hj;simp[this]
theorem Gq{f:Nat}[aQ ae f](cap:List V)(g:Int->Bool)(v:V)(l:List Int)(w0:C)(hv:aG w0 v 1 l fI)(e_:∀w,l_ cX w0 w->∀x∈l,eP ae f (U O x::cap) w (D (g x))):
  eP ae 115 [v,.func (.func f) #[] cap.toArray] w0 (D (l.any g)):=by
 refine aM func115 rfl ntmps115 rfl (Wd.nil cX w0) ?_;refine aU ?_;refine cZ (val:=λr:Int=>.int O r) (φ:=λr:Int=>decide (0<=r)=l.any g) (akg:=λ_=>[]) rfl (λw hw=>PG cap g v l w (hv.bZ dP hw.ch) λw1 h1 x=>e_ w1 (hw.ch.trans h1) x) λr hr=>?_;refine aH ?_;exact bP rfl (by rw[hr])
structure OL where
 f:Nat
 cap:List V
 err:Int
def YT(_:C)(x:OL)(cs:List V):Prop:=cs=[.func (.func x.f) #[] x.cap.toArray]
theorem Wu(v:V)(l:List OL)(w0:C)(hv:aG w0 v 1 l YT)(hE:∀x∈l,aQ ae x.f)(e_:∀x∈l,∀w,l_ cX w0 w->eP ae x.f x.cap w (U O x.err)):
  eP ae 120 [v] w0 (U O (eh (j4 l (·.err)) l.length).1):=by
 obtain⟨a,n,c,b,o,rfl,hn,qP,GM,hc,ha,ji⟩:=hv;refine aM func120 rfl ntmps120 rfl (Wd.nil cX w0) ?_;refine aH ?_;refine bL (λ(i:Nat)=>i<=n/\∀j,j<i->j4 l (·.err) j=0) (λi=>[(8,U O i),(6,J a n c),(7,U O n)]) (λ_=>[]) (λi=>n-i) 0 ⟨aT _,by simp⟩ (aS ap aC) λi ⟨hi,cU⟩=>?_;refine aU ?_;refine aI (λh1=>?_) (λh1=>?_)
 ·have bS:i<n:=ax h1
  obtain⟨x,hx⟩:=et hn bS;have oW:bU a b o:=⟨ha (aL hx)⟩;have lY:bY i n:=⟨bS⟩;obtain⟨cs,fT,rfl⟩:=ji i x hx;have n_:a6 w0 b (o+i*1) _:=⟨fT⟩;have ue:=aq hx;have hen:=hE x ue;have oX:j4 l (·.err) i=x.err:=by simp[j4,hx]
  refine aH ?_;refine lH rfl (us:=[]) (vs:=[]) (xs:=x.cap) (λw hw=>e_ x ue w hw.ch) ?_;refine aU ?_;refine aI (λh2=>?_) (λh2=>?_)
  ·refine aE ?_
   have xE:x.err≠0:=ax h2;refine bP rfl ?_;rw[gT cU (hn▸bS) (by rw[oX];exact xE),oX]
  ·have xE:x.err=0:=ax h2
   refine aH ?_;refine bj (i+1) ⟨bS,λj hj=>?_⟩ I ap aC
   by_cases yZ:j=i
   ·subst yZ;rw[oX];exact xE
   ·exact cU j I
 ·have gP:i=n:=by have:=h1;simp at this;omega
  refine aE ?_;exact bP rfl (by rw[<-hn,<-gP,gh cU])
theorem Ts(g fs nm pa bs ah:V)(aB:Int)(hr:0<=aB/\aB<=100)(x:dJ)(xv:V)(b b2:Nat)(w0:C)(hc:bF w0 b 0 [g,fs,nm,pa,U O aB,bs,ah])
  (hx:bF w0 b2 0 [U O x.op,U O x.dst,D x.a.z,U O x.a.n,D x.b.z,U O x.b.n,U O x.fn,xv]):
  eP ae 121 [ar (Z ⟨b,0,A⟩),ar (Z ⟨b2,0,A⟩)] w0 (U O (dV aB x.a)):=by
 have n_:a6 w0 b 0 _:=⟨hc⟩;have hxi:a6 w0 b2 0 _:=⟨hx⟩;refine aM func121 rfl ntmps121 rfl (Wd.nil cX w0) ?_;refine aU ?_;refine bB rfl (λw _=>Ea _ _ _ _ _ _ aB hr x.a w) ?_;refine aH ?_;exact bP rfl rfl
theorem Tt(g fs nm pa bs ah:V)(aB:Int)(hr:0<=aB/\aB<=100)(x:dJ)(xv:V)(b b2:Nat)(w0:C)(hc:bF w0 b 0 [g,fs,nm,pa,U O aB,bs,ah])
  (hx:bF w0 b2 0 [U O x.op,U O x.dst,D x.a.z,U O x.a.n,D x.b.z,U O x.b.n,U O x.fn,xv]):
  eP ae 122 [ar (Z ⟨b,0,A⟩),ar (Z ⟨b2,0,A⟩)] w0 (U O (dV aB x.b)):=by
 have n_:a6 w0 b 0 _:=⟨hc⟩;have hxi:a6 w0 b2 0 _:=⟨hx⟩;refine aM func122 rfl ntmps122 rfl (Wd.nil cX w0) ?_;refine aU ?_;refine bB rfl (λw _=>Ea _ _ _ _ _ _ aB hr x.b w) ?_;refine aH ?_;exact bP rfl rfl
theorem LL(g fs nm pa bs ah:V)(fl:List aY)(Aj:fl.length<=100)(aB:Int)(hr:0<=aB/\aB<=100)(x:dJ)(_hfn:dk x.fn)(xv:V)(b b2 b3:Nat)(w0:C)(hc:bF w0 b 0 [g,fs,nm,pa,U O aB,bs,ah])
  (hx:bF w0 b2 0 [U O x.op,U O x.dst,D x.a.z,U O x.a.n,D x.b.z,U O x.b.n,U O x.fn,xv]) (h3:bF w0 b3 0 [D (decide (x.op=20))]) (hf:aG w0 fs 4 fl gq) (hv:aG w0 xv 2 x.args mi):
  eP ae 123 [ar (Z ⟨b3,0,A⟩),ar (Z ⟨b2,0,A⟩),ar (Z ⟨b,0,A⟩)] w0 (U O (gK fl aB x)):=by
 obtain⟨fa,fn,fc,fb,fo,rfl,W2,Pp,Po,Zp,vx,uU⟩:=hf;obtain⟨va,vn,vc,vb,vo,rfl,HM,abF,aeE,ZX,oC,Jl⟩:=hv;have n_:a6 w0 b 0 _:=⟨hc⟩;have hxi:a6 w0 b2 0 _:=⟨hx⟩;have h3i:a6 w0 b3 0 _:=⟨h3⟩;refine aM func123 rfl ntmps123 rfl (Wd.nil cX w0) ?_;refine aH ?_;generalize hb:decide (x.op=20)=bb
 skip
 cases bb
 ·refine aE ?_
  exact bP rfl (by simp at hb;simp[gK,hb])
 have nO:¬(x.op≠20):=ax hb;refine aE ?_;refine bB rfl (λw _=>jX _ _ _ w) ?_;refine aU ?_;refine aI (λh1=>?_) (λh1=>?_)
 ·refine aE ?_
  exact bP rfl (by simp only[gK,if_neg nO,<-W2];rw[if_pos (ax h1)])
 have hw:within x.fn 0 ((fn:Int)-1)=true:=ax h1;have aha:0<=x.fn/\x.fn<fn:=by simp[within]at hw;omega
 obtain⟨k,hk⟩:∃k:Nat,x.fn=k:=⟨x.fn.toNat,I⟩;have u2:k<fn:=I;obtain⟨F,hF⟩:=et W2 u2;have oW:bU fa fb fo:=⟨vx (aL hF)⟩;have lY:bY k fn:=⟨u2⟩;have hni:lB x.fn k:=⟨hk⟩;obtain⟨cs,fT,bv,rfl,hpi,_,_⟩:=uU k F hF;have afT:a6 w0 fb (fo+k*4) _:=⟨fT⟩;have oX:j4 fl (·.params) x.fn.toNat=F.params:=by simp[j4,hk,hF]
 refine aU ?_;refine jj mixed aR ?_;refine iH ?_;refine aU ?_;refine aI (λh2=>?_) (λh2=>?_)
 ·refine aE ?_
  refine bP rfl ?_;have xE:(x.args.length:Int)≠F.params:=by rw[<-HM];simpa using h2
  simp only[gK,if_neg nO,<-W2,hw,oX,Bool.not_true,if_pos xE]
  rfl
 have xE:¬(x.args.length:Int)≠F.params:=by rw[<-HM];simpa using h2
 have SB:gK fl aB x=(eh (j4 x.args (dV aB)) x.args.length).1:=by
  simp only[gK,if_neg nO,<-W2,hw,oX,Bool.not_true,if_neg xE]
  rfl
 rw[SB];refine aH ?_;refine bL (λ(i:Nat)=>i<=vn/\∀j,j<i->j4 x.args (dV aB) j=0) (λi=>[(36,U O i),(34,J va vn vc),(35,U O vn),aj 2 b]) (λ_=>[]) (λi=>vn-i) 0 ⟨aT _,by simp⟩ (aS ap aC) λi ⟨hi,cU⟩=>?_;refine aU ?_;refine aI (λh1=>?_) (λh1=>?_)
 ·have bS:i<vn:=ax h1
  obtain⟨y,hy⟩:=et HM bS;have oW:bU va vb vo:=⟨oC (aL hy)⟩;have lY:bY i vn:=⟨bS⟩;obtain⟨cs,fT,rfl,hyi⟩:=Jl i y hy;have n_:a6 w0 vb (vo+i*2) _:=⟨fT⟩;have oX:j4 x.args (dV aB) i=dV aB y:=by simp[j4,hy]
  repeat(first|refine aE ?_|refine dZ λ_ _=>?_)
  refine bB rfl (λw _=>Ea _ _ _ _ _ _ aB hr y w) ?_;refine aU ?_;refine aI (λh2=>?_) (λh2=>?_)
  ·refine aE ?_
   refine bP rfl ?_;rw[gT cU (HM▸bS) (by rw[oX];simpa using h2),oX]
  ·refine aH ?_
   refine bj (i+1) ⟨bS,λj hj=>?_⟩ I ap aC
   by_cases yZ:j=i
   ·subst yZ;rw[oX];simpa using h2
   ·exact cU j I
 ·have gP:i=vn:=by have:=h1;simp at this;omega
  refine aE ?_;exact bP rfl (by rw[<-HM,<-gP,gh cU])
def db(bl:List E)(i:Nat):List Int:=match bl[i]? with|some b=>b.to|none=>[]
def Edge(bl:List E)(x y:Nat):Prop:=(y:Int)∈db bl x
inductive gH(bl:List E)(wo:Int)(b:Nat):Nat->Prop
 |refl:gH bl wo b b
 |step {x y:Nat}:gH bl wo b x->Edge bl x y->(y:Int)≠wo->gH bl wo b y
theorem gH.trans{bl:List E}{wo:Int}{a b c:Nat}(h:gH bl wo a b)(k:gH bl wo b c):gH bl wo a c:=by
 induction k with
 |refl=>exact h
 |step _ he hw ih=>exact ih.step he hw
theorem fY{bl:List E}{i:Nat}{b:E}(h:bl[i]?=Z b):db bl i=b.to:=by simp[db,h]
def cT(bl:List E):Prop:=∀b∈bl,b.to.length<=2/\∀t∈b.to,0<=t/\t<bl.length
theorem cT.ED{bl:List E}(h:cT bl){x y:Nat}(he:Edge bl x y):y<bl.length:=by
 unfold Edge db at he
 split at he
 ·rename_i b hb
  have:=(h b (aq hb)).2 _ he;omega
 ·cases he
theorem cT.zQ{bl:List E}(h:cT bl){wo:Int}{b x:Nat}(hb:b<bl.length)(hr:gH bl wo b x):x<bl.length:=by
 induction hr with
 |refl=>exact hb
 |step _ he _ _=>exact h.ED he
theorem Mw{bl:List E}{wo:Int}{b:Nat}{p:Nat->Prop}(h0:p b)(hc:∀x y,p x->Edge bl x y->(y:Int)≠wo->p y){x:Nat}(h:gH bl wo b x):p x:=by
 induction h with
 |refl=>exact h0
 |step _ he hw ih=>exact hc _ _ ih he hw
theorem wx:∀(n:Nat) (l:List Nat),l.Nodup->(∀x∈l,x<n)->l.length<=n
 |0,l,_,h=>by
  cases l with
  |nil=>simp
  |cons x l=>have:=h x aC;omega
 |n+1,l,hn,h=>by
  by_cases hm:n∈l
  ·have h1:=wx n (l.erase n) (hn.erase n) λx hx=>by
    have:=(hn.mem_erase_iff).1 hx;have:=h x this.2;omega
   rw[List.length_erase_of_mem hm]at h1;omega
  ·have:=wx n l hn λx hx=>by
    have h1:=h x hx;have:x≠n:=λe=>hm (e▸hx);omega
   omega
def gW(l:List Bool):Nat:=l.count false
theorem pC{l:List Bool}{i:Nat}(h:l[i]?=Z false):gW (l.set i true)+1=gW l:=by
 induction l generalizing i with
 |nil=>simp at h
 |cons x l ih=>
  cases i with
  |zero=>
   simp only[kC,b_]at h;subst h;simp[gW]
  |succ i=>
   simp only[pG]at h;have:=ih h;simp only[gW,cG,br]at this⊢;omega
end
end Go.Proofs.YthfhgolkafpmnaaGreatDoor
