/- Texts joined: Inst Spec Name CheckA CheckB Reach. -/
import Derived.Test.YthfhgolkafpmnaaGreatDoorRows
import Derived.Test.YthfhgolkafpmnaaGreatDoorGA
namespace Go.Proofs.YthfhgolkafpmnaaGreatDoor
section
open Go Go.RowKit
instance:OneCell Tryz.prog 3:=⟨Tryz.isAgg3,Tryz.sizeOf3⟩
instance:gN Tryz.prog 3 (.int .i64 0):=⟨Tryz.zeroValue3⟩
instance:OneCell Tryz.prog 4:=⟨Tryz.isAgg4,Tryz.sizeOf4⟩
instance:gN Tryz.prog 4 (.bool false):=⟨Tryz.zeroValue4⟩
instance:OneCell Tryz.prog 5:=⟨Tryz.isAgg5,Tryz.sizeOf5⟩
instance:OneCell Tryz.prog 9:=⟨Tryz.isAgg9,Tryz.sizeOf9⟩
instance:NR Tryz.prog 9:=⟨Tryz.underlying9⟩
instance:OneCell Tryz.prog 22:=⟨Tryz.isAgg22,Tryz.sizeOf22⟩
instance:ep Tryz.prog 22 3:=⟨aP,λw=>by have h:Tryz.prog.elem 22=65:=aP;rw[h];exact Tryz.sizeOf65 w⟩
instance:cB Tryz.prog 22 65 3 48 [.string aE,.int .i64 0,.slice none 0 0]:=⟨aP,aP⟩
instance:OneCell Tryz.prog 23:=⟨Tryz.isAgg23,Tryz.sizeOf23⟩
instance:ep Tryz.prog 23 4:=⟨aP,λw=>by have h:Tryz.prog.elem 23=35:=aP;rw[h];exact Tryz.sizeOf35 w⟩
instance:cB Tryz.prog 23 35 4 56 [.string aE,.int .i64 0,.int .i64 0,.slice none 0 0]:=⟨aP,aP⟩
instance:d_ Tryz.prog 25 2:=⟨Tryz.isAgg25,Tryz.sizeOf25⟩
instance:bV Tryz.prog 25 0 0:=⟨λb o w=>by simp[Instr.fieldAt,Instr.sureAddr,Tryz.runUnderlying25,fieldPlace,Tryz.sizeOf22,Addr.add_lit]⟩
instance:bV Tryz.prog 25 1 1:=⟨λb o w=>by simp[Instr.fieldAt,Instr.sureAddr,Tryz.runUnderlying25,fieldPlace,Tryz.sizeOf23,Addr.add_lit]⟩
instance:iz Tryz.prog 25 [.slice none 0 0,.slice none 0 0] [(0,1),(1,1)]:=⟨λparts cells h=>by
 have e:Tryz.prog.built 25 parts=Instr.fill (([(0,1),(1,1)]:List (Nat×Nat)).toArray[·]?) (#[.slice none 0 0,.slice none 0 0]:Array Value) parts:=aP
 rw[e];simpa using h⟩
instance:gN Tryz.prog 25 (.agg #[.slice none 0 0,.slice none 0 0]):=⟨Tryz.zeroValue25⟩
instance:d_ Tryz.prog 28 2:=⟨Tryz.isAgg28,Tryz.sizeOf28⟩
instance:bV Tryz.prog 28 0 0:=⟨λb o w=>by simp[Instr.fieldAt,Instr.sureAddr,Tryz.runUnderlying28,fieldPlace,Tryz.sizeOf3,Addr.add_lit]⟩
instance:iz Tryz.prog 28 [.int .i64 0,.int .i64 0] [(0,1),(1,1)]:=⟨λparts cells h=>by
 have e:Tryz.prog.built 28 parts=Instr.fill (([(0,1),(1,1)]:List (Nat×Nat)).toArray[·]?) (#[.int .i64 0,.int .i64 0]:Array Value) parts:=aP
 rw[e];simpa using h⟩
instance:gN Tryz.prog 28 (.agg #[.int .i64 0,.int .i64 0]):=⟨Tryz.zeroValue28⟩
instance:OneCell Tryz.prog 33:=⟨Tryz.isAgg33,Tryz.sizeOf33⟩
instance:ep Tryz.prog 33 6:=⟨aP,λw=>by have h:Tryz.prog.elem 33=46:=aP;rw[h];exact Tryz.sizeOf46 w⟩
instance:cB Tryz.prog 33 46 6 96 [.slice none 0 0,.slice none 0 0,.int .i64 0,.bool false,.int .i64 0,.slice none 0 0]:=⟨aP,aP⟩
instance:d_ Tryz.prog 35 4:=⟨Tryz.isAgg35,Tryz.sizeOf35⟩
instance:bV Tryz.prog 35 0 0:=⟨λb o w=>by simp[Instr.fieldAt,Instr.sureAddr,Tryz.runUnderlying35,fieldPlace,Tryz.sizeOf9,Addr.add_lit]⟩
instance:bV Tryz.prog 35 1 1:=⟨λb o w=>by simp[Instr.fieldAt,Instr.sureAddr,Tryz.runUnderlying35,fieldPlace,Tryz.sizeOf3,Addr.add_lit]⟩
instance:bV Tryz.prog 35 2 2:=⟨λb o w=>by simp[Instr.fieldAt,Instr.sureAddr,Tryz.runUnderlying35,fieldPlace,Tryz.sizeOf3,Addr.add_lit]⟩
instance:bV Tryz.prog 35 3 3:=⟨λb o w=>by simp[Instr.fieldAt,Instr.sureAddr,Tryz.runUnderlying35,fieldPlace,Tryz.sizeOf33,Addr.add_lit]⟩
instance:iz Tryz.prog 35 [.string aE,.int .i64 0,.int .i64 0,.slice none 0 0] [(0,1),(1,1),(2,1),(3,1)]:=⟨λparts cells h=>by
 have e:Tryz.prog.built 35 parts=Instr.fill (([(0,1),(1,1),(2,1),(3,1)]:List (Nat×Nat)).toArray[·]?) (#[.string aE,.int .i64 0,.int .i64 0,.slice none 0 0]:Array Value) parts:=aP
 rw[e];simpa using h⟩
instance:gN Tryz.prog 35 (.agg #[.string aE,.int .i64 0,.int .i64 0,.slice none 0 0]):=⟨Tryz.zeroValue35⟩
instance:OneCell Tryz.prog 38:=⟨Tryz.isAgg38,Tryz.sizeOf38⟩
instance:ep Tryz.prog 38 2:=⟨aP,λw=>by have h:Tryz.prog.elem 38=49:=aP;rw[h];exact Tryz.sizeOf49 w⟩
instance:cB Tryz.prog 38 49 2 32 [.int .i64 0,.slice none 0 0]:=⟨aP,aP⟩
instance:OneCell Tryz.prog 39:=⟨Tryz.isAgg39,Tryz.sizeOf39⟩
instance:ep Tryz.prog 39 8:=⟨aP,λw=>by have h:Tryz.prog.elem 39=56:=aP;rw[h];exact Tryz.sizeOf56 w⟩
instance:cB Tryz.prog 39 56 8 80 [.int .i64 0,.int .i64 0,.bool false,.int .i64 0,.bool false,.int .i64 0,.int .i64 0,.slice none 0 0]:=⟨aP,aP⟩
instance:d_ Tryz.prog 41 2:=⟨Tryz.isAgg41,Tryz.sizeOf41⟩
instance:bV Tryz.prog 41 0 0:=⟨λb o w=>by simp[Instr.fieldAt,Instr.sureAddr,Tryz.runUnderlying41,fieldPlace,Tryz.sizeOf4,Addr.add_lit]⟩
instance:bV Tryz.prog 41 1 1:=⟨λb o w=>by simp[Instr.fieldAt,Instr.sureAddr,Tryz.runUnderlying41,fieldPlace,Tryz.sizeOf3,Addr.add_lit]⟩
instance:iz Tryz.prog 41 [.bool false,.int .i64 0] [(0,1),(1,1)]:=⟨λparts cells h=>by
 have e:Tryz.prog.built 41 parts=Instr.fill (([(0,1),(1,1)]:List (Nat×Nat)).toArray[·]?) (#[.bool false,.int .i64 0]:Array Value) parts:=aP
 rw[e];simpa using h⟩
instance:gN Tryz.prog 41 (.agg #[.bool false,.int .i64 0]):=⟨Tryz.zeroValue41⟩
instance:OneCell Tryz.prog 42:=⟨Tryz.isAgg42,Tryz.sizeOf42⟩
instance:ep Tryz.prog 42 1:=⟨aP,λw=>by have h:Tryz.prog.elem 42=3:=aP;rw[h];exact Tryz.sizeOf3 w⟩
instance:cB Tryz.prog 42 3 1 8 [.int .i64 0]:=⟨aP,aP⟩
instance:gN Tryz.prog 42 (.slice none 0 0):=⟨Tryz.zeroValue42⟩
instance:d_ Tryz.prog 44 4:=⟨Tryz.isAgg44,Tryz.sizeOf44⟩
instance:bV Tryz.prog 44 0 0:=⟨λb o w=>by simp[Instr.fieldAt,Instr.sureAddr,Tryz.runUnderlying44,fieldPlace,Tryz.sizeOf3,Addr.add_lit]⟩
instance:bV Tryz.prog 44 1 1:=⟨λb o w=>by simp[Instr.fieldAt,Instr.sureAddr,Tryz.runUnderlying44,fieldPlace,Tryz.sizeOf41,Addr.add_lit]⟩
instance:bV Tryz.prog 44 2 3:=⟨λb o w=>by simp[Instr.fieldAt,Instr.sureAddr,Tryz.runUnderlying44,fieldPlace,Tryz.sizeOf42,Addr.add_lit]⟩
instance:iz Tryz.prog 44 [.int .i64 0,.bool false,.int .i64 0,.slice none 0 0] [(0,1),(1,2),(3,1)]:=⟨λparts cells h=>by
 have e:Tryz.prog.built 44 parts=Instr.fill (([(0,1),(1,2),(3,1)]:List (Nat×Nat)).toArray[·]?) (#[.int .i64 0,.bool false,.int .i64 0,.slice none 0 0]:Array Value) parts:=aP
 rw[e];simpa using h⟩
instance:d_ Tryz.prog 46 6:=⟨Tryz.isAgg46,Tryz.sizeOf46⟩
instance:bV Tryz.prog 46 0 0:=⟨λb o w=>by simp[Instr.fieldAt,Instr.sureAddr,Tryz.runUnderlying46,fieldPlace,Tryz.sizeOf38,Addr.add_lit]⟩
instance:bV Tryz.prog 46 1 1:=⟨λb o w=>by simp[Instr.fieldAt,Instr.sureAddr,Tryz.runUnderlying46,fieldPlace,Tryz.sizeOf39,Addr.add_lit]⟩
instance:bV Tryz.prog 46 2 2:=⟨λb o w=>by simp[Instr.fieldAt,Instr.sureAddr,Tryz.runUnderlying46,fieldPlace,Tryz.sizeOf44,Addr.add_lit]⟩
instance:iz Tryz.prog 46 [.slice none 0 0,.slice none 0 0,.int .i64 0,.bool false,.int .i64 0,.slice none 0 0] [(0,1),(1,1),(2,4)]:=⟨λparts cells h=>by
 have e:Tryz.prog.built 46 parts=Instr.fill (([(0,1),(1,1),(2,4)]:List (Nat×Nat)).toArray[·]?) (#[.slice none 0 0,.slice none 0 0,.int .i64 0,.bool false,.int .i64 0,.slice none 0 0]:Array Value) parts:=aP
 rw[e];simpa using h⟩
instance:gN Tryz.prog 46 (.agg #[.slice none 0 0,.slice none 0 0,.int .i64 0,.bool false,.int .i64 0,.slice none 0 0]):=⟨Tryz.zeroValue46⟩
instance:OneCell Tryz.prog 47:=⟨Tryz.isAgg47,Tryz.sizeOf47⟩
instance:ep Tryz.prog 47 2:=⟨aP,λw=>by have h:Tryz.prog.elem 47=41:=aP;rw[h];exact Tryz.sizeOf41 w⟩
instance:cB Tryz.prog 47 41 2 16 [.bool false,.int .i64 0]:=⟨aP,aP⟩
instance:d_ Tryz.prog 49 2:=⟨Tryz.isAgg49,Tryz.sizeOf49⟩
instance:bV Tryz.prog 49 0 0:=⟨λb o w=>by simp[Instr.fieldAt,Instr.sureAddr,Tryz.runUnderlying49,fieldPlace,Tryz.sizeOf3,Addr.add_lit]⟩
instance:bV Tryz.prog 49 1 1:=⟨λb o w=>by simp[Instr.fieldAt,Instr.sureAddr,Tryz.runUnderlying49,fieldPlace,Tryz.sizeOf47,Addr.add_lit]⟩
instance:iz Tryz.prog 49 [.int .i64 0,.slice none 0 0] [(0,1),(1,1)]:=⟨λparts cells h=>by
 have e:Tryz.prog.built 49 parts=Instr.fill (([(0,1),(1,1)]:List (Nat×Nat)).toArray[·]?) (#[.int .i64 0,.slice none 0 0]:Array Value) parts:=aP
 rw[e];simpa using h⟩
instance:gN Tryz.prog 49 (.agg #[.int .i64 0,.slice none 0 0]):=⟨Tryz.zeroValue49⟩
instance:ep Tryz.prog 54 1:=⟨aP,λw=>by have h:Tryz.prog.elem 54=5:=aP;rw[h];exact Tryz.sizeOf5 w⟩
instance:d_ Tryz.prog 56 8:=⟨Tryz.isAgg56,Tryz.sizeOf56⟩
instance:bV Tryz.prog 56 0 0:=⟨λb o w=>by simp[Instr.fieldAt,Instr.sureAddr,Tryz.runUnderlying56,fieldPlace,Tryz.sizeOf3,Addr.add_lit]⟩
instance:bV Tryz.prog 56 1 1:=⟨λb o w=>by simp[Instr.fieldAt,Instr.sureAddr,Tryz.runUnderlying56,fieldPlace,Tryz.sizeOf3,Addr.add_lit]⟩
instance:bV Tryz.prog 56 2 2:=⟨λb o w=>by simp[Instr.fieldAt,Instr.sureAddr,Tryz.runUnderlying56,fieldPlace,Tryz.sizeOf41,Addr.add_lit]⟩
instance:bV Tryz.prog 56 3 4:=⟨λb o w=>by simp[Instr.fieldAt,Instr.sureAddr,Tryz.runUnderlying56,fieldPlace,Tryz.sizeOf41,Addr.add_lit]⟩
instance:bV Tryz.prog 56 4 6:=⟨λb o w=>by simp[Instr.fieldAt,Instr.sureAddr,Tryz.runUnderlying56,fieldPlace,Tryz.sizeOf3,Addr.add_lit]⟩
instance:bV Tryz.prog 56 5 7:=⟨λb o w=>by simp[Instr.fieldAt,Instr.sureAddr,Tryz.runUnderlying56,fieldPlace,Tryz.sizeOf47,Addr.add_lit]⟩
instance:iz Tryz.prog 56 [.int .i64 0,.int .i64 0,.bool false,.int .i64 0,.bool false,.int .i64 0,.int .i64 0,.slice none 0 0] [(0,1),(1,1),(2,2),(4,2),(6,1),(7,1)]:=⟨λparts cells h=>by
 have e:Tryz.prog.built 56 parts=Instr.fill (([(0,1),(1,1),(2,2),(4,2),(6,1),(7,1)]:List (Nat×Nat)).toArray[·]?) (#[.int .i64 0,.int .i64 0,.bool false,.int .i64 0,.bool false,.int .i64 0,.int .i64 0,.slice none 0 0]:Array Value) parts:=aP
 rw[e];simpa using h⟩
instance:gN Tryz.prog 56 (.agg #[.int .i64 0,.int .i64 0,.bool false,.int .i64 0,.bool false,.int .i64 0,.int .i64 0,.slice none 0 0]):=⟨Tryz.zeroValue56⟩
instance:ep Tryz.prog 63 1:=⟨aP,λw=>by have h:Tryz.prog.elem 63=9:=aP;rw[h];exact Tryz.sizeOf9 w⟩
instance:cB Tryz.prog 63 9 1 16 [.string aE]:=⟨aP,aP⟩
instance:d_ Tryz.prog 65 3:=⟨Tryz.isAgg65,Tryz.sizeOf65⟩
instance:bV Tryz.prog 65 0 0:=⟨λb o w=>by simp[Instr.fieldAt,Instr.sureAddr,Tryz.runUnderlying65,fieldPlace,Tryz.sizeOf9,Addr.add_lit]⟩
instance:bV Tryz.prog 65 1 1:=⟨λb o w=>by simp[Instr.fieldAt,Instr.sureAddr,Tryz.runUnderlying65,fieldPlace,Tryz.sizeOf3,Addr.add_lit]⟩
instance:bV Tryz.prog 65 2 2:=⟨λb o w=>by simp[Instr.fieldAt,Instr.sureAddr,Tryz.runUnderlying65,fieldPlace,Tryz.sizeOf42,Addr.add_lit]⟩
instance:gN Tryz.prog 65 (.agg #[.string aE,.int .i64 0,.slice none 0 0]):=⟨Tryz.zeroValue65⟩
instance:OneCell Tryz.prog 69:=⟨Tryz.isAgg69,Tryz.sizeOf69⟩
instance:ep Tryz.prog 69 1:=⟨aP,λw=>by have h:Tryz.prog.elem 69=42:=aP;rw[h];exact Tryz.sizeOf42 w⟩
instance:cB Tryz.prog 69 42 1 24 [.slice none 0 0]:=⟨aP,aP⟩
instance:d_ Tryz.prog 71 7:=⟨Tryz.isAgg71,Tryz.sizeOf71⟩
instance:bV Tryz.prog 71 0 0:=⟨λb o w=>by simp[Instr.fieldAt,Instr.sureAddr,Tryz.runUnderlying71,fieldPlace,Tryz.sizeOf25,Addr.add_lit]⟩
instance:bV Tryz.prog 71 1 2:=⟨λb o w=>by simp[Instr.fieldAt,Instr.sureAddr,Tryz.runUnderlying71,fieldPlace,Tryz.sizeOf35,Addr.add_lit]⟩
instance:bV Tryz.prog 71 2 6:=⟨λb o w=>by simp[Instr.fieldAt,Instr.sureAddr,Tryz.runUnderlying71,fieldPlace,Tryz.sizeOf69,Addr.add_lit]⟩
instance:iz Tryz.prog 71 [.slice none 0 0,.slice none 0 0,.string aE,.int .i64 0,.int .i64 0,.slice none 0 0,.slice none 0 0] [(0,2),(2,4),(6,1)]:=⟨λparts cells h=>by
 have e:Tryz.prog.built 71 parts=Instr.fill (([(0,2),(2,4),(6,1)]:List (Nat×Nat)).toArray[·]?) (#[.slice none 0 0,.slice none 0 0,.string aE,.int .i64 0,.int .i64 0,.slice none 0 0,.slice none 0 0]:Array Value) parts:=aP
 rw[e];simpa using h⟩
instance:gN Tryz.prog 71 (.agg #[.slice none 0 0,.slice none 0 0,.string aE,.int .i64 0,.int .i64 0,.slice none 0 0,.slice none 0 0]):=⟨Tryz.zeroValue71⟩
instance:OneCell Tryz.prog 73:=⟨Tryz.isAgg73,Tryz.sizeOf73⟩
instance:OneCell Tryz.prog 99:=⟨Tryz.isAgg99,Tryz.sizeOf99⟩
instance:bV Tryz.prog 102 0 0:=⟨λb o w=>by simp[Instr.fieldAt,Instr.sureAddr,Tryz.runUnderlying102,fieldPlace,Tryz.sizeOf99,Addr.add_lit]⟩
instance:bV Tryz.prog 102 1 1:=⟨λb o w=>by simp[Instr.fieldAt,Instr.sureAddr,Tryz.runUnderlying102,fieldPlace,Tryz.sizeOf69,Addr.add_lit]⟩
instance:bV Tryz.prog 102 2 2:=⟨λb o w=>by simp[Instr.fieldAt,Instr.sureAddr,Tryz.runUnderlying102,fieldPlace,Tryz.sizeOf69,Addr.add_lit]⟩
instance:bV Tryz.prog 102 3 3:=⟨λb o w=>by simp[Instr.fieldAt,Instr.sureAddr,Tryz.runUnderlying102,fieldPlace,Tryz.sizeOf3,Addr.add_lit]⟩
instance:iz Tryz.prog 102 [.pointer none,.slice none 0 0,.slice none 0 0,.int .i64 0] [(0,1),(1,1),(2,1),(3,1)]:=⟨λparts cells h=>by
 have e:Tryz.prog.built 102 parts=Instr.fill (([(0,1),(1,1),(2,1),(3,1)]:List (Nat×Nat)).toArray[·]?) (#[.pointer none,.slice none 0 0,.slice none 0 0,.int .i64 0]:Array Value) parts:=aP
 rw[e];simpa using h⟩
instance:ep Tryz.prog 138 1:=⟨aP,λw=>by have h:Tryz.prog.elem 138=145:=aP;rw[h];exact Tryz.sizeOf145 w⟩
instance:cB Tryz.prog 138 145 1 24 [.slice none 0 0]:=⟨aP,aP⟩
instance:OneCell Tryz.prog 144:=⟨Tryz.isAgg144,Tryz.sizeOf144⟩
instance:ep Tryz.prog 144 1:=⟨aP,λw=>by have h:Tryz.prog.elem 144=4:=aP;rw[h];exact Tryz.sizeOf4 w⟩
instance:cB Tryz.prog 144 4 1 1 [.bool false]:=⟨aP,aP⟩
instance:gN Tryz.prog 144 (.slice none 0 0):=⟨Tryz.zeroValue144⟩
instance:OneCell Tryz.prog 145:=⟨Tryz.isAgg145,Tryz.sizeOf145⟩
instance:ep Tryz.prog 145 1:=⟨aP,λw=>by have h:Tryz.prog.elem 145=4:=aP;rw[h];exact Tryz.sizeOf4 w⟩
instance:cB Tryz.prog 145 4 1 1 [.bool false]:=⟨aP,aP⟩
instance:gN Tryz.prog 145 (.slice none 0 0):=⟨Tryz.zeroValue145⟩
instance:bV Tryz.prog 153 0 0:=⟨λb o w=>by simp[Instr.fieldAt,Instr.sureAddr,Tryz.runUnderlying153,fieldPlace,Tryz.sizeOf42,Addr.add_lit]⟩
instance:bV Tryz.prog 153 1 1:=⟨λb o w=>by simp[Instr.fieldAt,Instr.sureAddr,Tryz.runUnderlying153,fieldPlace,Tryz.sizeOf3,Addr.add_lit]⟩
instance:iz Tryz.prog 153 [.slice none 0 0,.int .i64 0] [(0,1),(1,1)]:=⟨λparts cells h=>by
 have e:Tryz.prog.built 153 parts=Instr.fill (([(0,1),(1,1)]:List (Nat×Nat)).toArray[·]?) (#[.slice none 0 0,.int .i64 0]:Array Value) parts:=aP
 rw[e];simpa using h⟩
instance:UQ Tryz.prog 155 4 1:=⟨aP,aP,λw=>by have h:Tryz.prog.elem 155=3:=aP;rw[h];exact Tryz.sizeOf3 w⟩
instance:d_ Tryz.prog 160 3:=⟨Tryz.isAgg160,Tryz.sizeOf160⟩
instance:bV Tryz.prog 160 0 0:=⟨λb o w=>by simp[Instr.fieldAt,Instr.sureAddr,Tryz.runUnderlying160,fieldPlace,Tryz.sizeOf4,Addr.add_lit]⟩
instance:bV Tryz.prog 160 1 1:=⟨λb o w=>by simp[Instr.fieldAt,Instr.sureAddr,Tryz.runUnderlying160,fieldPlace,Tryz.sizeOf4,Addr.add_lit]⟩
instance:bV Tryz.prog 160 2 2:=⟨λb o w=>by simp[Instr.fieldAt,Instr.sureAddr,Tryz.runUnderlying160,fieldPlace,Tryz.sizeOf4,Addr.add_lit]⟩
instance:iz Tryz.prog 160 [.bool false,.bool false,.bool false] [(0,1),(1,1),(2,1)]:=⟨λparts cells h=>by
 have e:Tryz.prog.built 160 parts=Instr.fill (([(0,1),(1,1),(2,1)]:List (Nat×Nat)).toArray[·]?) (#[.bool false,.bool false,.bool false]:Array Value) parts:=aP
 rw[e];simpa using h⟩
instance:gN Tryz.prog 160 (.agg #[.bool false,.bool false,.bool false]):=⟨Tryz.zeroValue160⟩
instance:OneCell Tryz.prog 175:=⟨Tryz.isAgg175,Tryz.sizeOf175⟩
instance:gN Tryz.prog 175 (.nilFunc):=⟨Tryz.zeroValue175⟩
instance:ep Tryz.prog 198 3:=⟨aP,λw=>by have h:Tryz.prog.elem 198=200:=aP;rw[h];exact Tryz.sizeOf200 w⟩
instance:cB Tryz.prog 198 200 3 24 [.int .i64 0,.bool false,.int .i64 0]:=⟨aP,aP⟩
instance:d_ Tryz.prog 200 3:=⟨Tryz.isAgg200,Tryz.sizeOf200⟩
instance:bV Tryz.prog 200 1 1:=⟨λb o w=>by simp[Instr.fieldAt,Instr.sureAddr,Tryz.runUnderlying200,fieldPlace,Tryz.sizeOf41,Addr.add_lit]⟩
instance:iz Tryz.prog 200 [.int .i64 0,.bool false,.int .i64 0] [(0,1),(1,2)]:=⟨λparts cells h=>by
 have e:Tryz.prog.built 200 parts=Instr.fill (([(0,1),(1,2)]:List (Nat×Nat)).toArray[·]?) (#[.int .i64 0,.bool false,.int .i64 0]:Array Value) parts:=aP
 rw[e];simpa using h⟩
instance:gN Tryz.prog 200 (.agg #[.int .i64 0,.bool false,.int .i64 0]):=⟨Tryz.zeroValue200⟩
instance:ep Tryz.prog 204 1:=⟨aP,λw=>by have h:Tryz.prog.elem 204=73:=aP;rw[h];exact Tryz.sizeOf73 w⟩
instance:cB Tryz.prog 204 73 1 8 [.nilFunc]:=⟨aP,aP⟩
instance:aS Tryz.prog 10:=⟨Tryz.call10⟩
instance:aS Tryz.prog 11:=⟨Tryz.call11⟩
instance:aS Tryz.prog 24:=⟨Tryz.call24⟩
instance:aS Tryz.prog 25:=⟨Tryz.call25⟩
instance:aS Tryz.prog 26:=⟨Tryz.call26⟩
instance:aS Tryz.prog 27:=⟨Tryz.call27⟩
instance:aS Tryz.prog 28:=⟨Tryz.call28⟩
instance:aS Tryz.prog 29:=⟨Tryz.call29⟩
instance:aS Tryz.prog 30:=⟨Tryz.call30⟩
instance:aS Tryz.prog 31:=⟨Tryz.call31⟩
instance:aS Tryz.prog 32:=⟨Tryz.call32⟩
instance:aS Tryz.prog 33:=⟨Tryz.call33⟩
instance:aS Tryz.prog 58:=⟨Tryz.call58⟩
instance:aS Tryz.prog 59:=⟨Tryz.call59⟩
instance:aS Tryz.prog 60:=⟨Tryz.call60⟩
instance:aS Tryz.prog 61:=⟨Tryz.call61⟩
instance:aS Tryz.prog 62:=⟨Tryz.call62⟩
instance:aS Tryz.prog 63:=⟨Tryz.call63⟩
instance:aS Tryz.prog 64:=⟨Tryz.call64⟩
instance:aS Tryz.prog 65:=⟨Tryz.call65⟩
instance:aS Tryz.prog 66:=⟨Tryz.call66⟩
instance:aS Tryz.prog 67:=⟨Tryz.call67⟩
instance:aS Tryz.prog 68:=⟨Tryz.call68⟩
instance:aS Tryz.prog 69:=⟨Tryz.call69⟩
instance:aS Tryz.prog 70:=⟨Tryz.call70⟩
instance:aS Tryz.prog 71:=⟨Tryz.call71⟩
instance:aS Tryz.prog 72:=⟨Tryz.call72⟩
instance:aS Tryz.prog 73:=⟨Tryz.call73⟩
instance:aS Tryz.prog 90:=⟨Tryz.call90⟩
instance:aS Tryz.prog 94:=⟨Tryz.call94⟩
instance:aS Tryz.prog 95:=⟨Tryz.call95⟩
instance:aS Tryz.prog 96:=⟨Tryz.call96⟩
instance:aS Tryz.prog 97:=⟨Tryz.call97⟩
instance:aS Tryz.prog 98:=⟨Tryz.call98⟩
instance:aS Tryz.prog 99:=⟨Tryz.call99⟩
instance:aS Tryz.prog 100:=⟨Tryz.call100⟩
instance:aS Tryz.prog 101:=⟨Tryz.call101⟩
instance:aS Tryz.prog 102:=⟨Tryz.call102⟩
instance:aS Tryz.prog 103:=⟨Tryz.call103⟩
instance:aS Tryz.prog 104:=⟨Tryz.call104⟩
instance:aS Tryz.prog 105:=⟨Tryz.call105⟩
instance:aS Tryz.prog 106:=⟨Tryz.call106⟩
instance:aS Tryz.prog 107:=⟨Tryz.call107⟩
instance:aS Tryz.prog 108:=⟨Tryz.call108⟩
instance:aS Tryz.prog 109:=⟨Tryz.call109⟩
instance:aS Tryz.prog 110:=⟨Tryz.call110⟩
instance:aS Tryz.prog 111:=⟨Tryz.call111⟩
instance:aS Tryz.prog 112:=⟨Tryz.call112⟩
instance:aS Tryz.prog 113:=⟨Tryz.call113⟩
instance:aS Tryz.prog 114:=⟨Tryz.call114⟩
instance:aS Tryz.prog 115:=⟨Tryz.call115⟩
instance:aS Tryz.prog 116:=⟨Tryz.call116⟩
instance:aS Tryz.prog 117:=⟨Tryz.call117⟩
instance:aS Tryz.prog 118:=⟨Tryz.call118⟩
instance:aS Tryz.prog 119:=⟨Tryz.call119⟩
instance:aS Tryz.prog 120:=⟨Tryz.call120⟩
instance:aS Tryz.prog 121:=⟨Tryz.call121⟩
instance:aS Tryz.prog 122:=⟨Tryz.call122⟩
instance:aS Tryz.prog 123:=⟨Tryz.call123⟩
instance:aS Tryz.prog 134:=⟨Tryz.call134⟩
instance:aS Tryz.prog 135:=⟨Tryz.call135⟩
instance:aS Tryz.prog 138:=⟨Tryz.call138⟩
instance:aS Tryz.prog 141:=⟨Tryz.call141⟩
instance:aS Tryz.prog 142:=⟨Tryz.call142⟩
instance:aS Tryz.prog 143:=⟨Tryz.call143⟩
instance:aS Tryz.prog 144:=⟨Tryz.call144⟩
instance:aS Tryz.prog 145:=⟨Tryz.call145⟩
instance:aS Tryz.prog 146:=⟨Tryz.call146⟩
instance:aS Tryz.prog 147:=⟨Tryz.call147⟩
instance:aS Tryz.prog 148:=⟨Tryz.call148⟩
instance:aS Tryz.prog 149:=⟨Tryz.call149⟩
instance:aS Tryz.prog 150:=⟨Tryz.call150⟩
instance:aS Tryz.prog 151:=⟨Tryz.call151⟩
instance:aS Tryz.prog 152:=⟨Tryz.call152⟩
instance:aS Tryz.prog 153:=⟨Tryz.call153⟩
instance:aS Tryz.prog 155:=⟨Tryz.call155⟩
instance:aS Tryz.prog 156:=⟨Tryz.call156⟩
instance:aS Tryz.prog 162:=⟨Tryz.call162⟩
instance:aS Tryz.prog 164:=⟨Tryz.call164⟩
instance:aS Tryz.prog 165:=⟨Tryz.call165⟩
instance:aS Tryz.prog 166:=⟨Tryz.call166⟩
instance:aS Tryz.prog 169:=⟨Tryz.call169⟩
instance:aS Tryz.prog 170:=⟨Tryz.call170⟩
instance(a b:Bool):z_ Tryz.prog 4 (.bool a) (.bool b) (a==b):=⟨λ_ _ _ _=>by rw[eqGuard_at_bool];rfl,λw=>run_eql_bool w 4 a b Tryz.underlying4,λw=>by simp[binOp,run_equal_bool w 4 a b Tryz.underlying4]⟩
instance(a b:ByteArray):z_ Tryz.prog 9 (.string a) (.string b) (a.toList==b.toList):=⟨λ_ _ _ _=>by rw[eqGuard_at_string];rfl,λw=>by simp[go_sem],λw=>by simp[go_sem]⟩
theorem D4(x0 y0:Int)(x1 y1:Int)(w:World):(binOp .eql 28 (.agg #[.int .i64 x0,.int .i64 x1]) (.agg #[.int .i64 y0,.int .i64 y1])).run Tryz.prog w=.ok (.bool (decide (x0=y0)&&decide (x1=y1))) w:=by
 simp[go_sem]
 (repeat' split)<;>simp_all
theorem EA(x0 y0:Int)(x1 y1:Int)(w:World):(binOp .neq 28 (.agg #[.int .i64 x0,.int .i64 x1]) (.agg #[.int .i64 y0,.int .i64 y1])).run Tryz.prog w=.ok (.bool (!(decide (x0=y0)&&decide (x1=y1)))) w:=by
 simp[go_sem]
 (repeat' split)<;>simp_all
instance(x0 y0:Int)(x1 y1:Int):z_ Tryz.prog 28 (.agg #[.int .i64 x0,.int .i64 x1]) (.agg #[.int .i64 y0,.int .i64 y1]) (decide (x0=y0)&&decide (x1=y1)):=⟨λop x y w=>by unfold eqGuard;cases op<;>simp[go_sem],D4 _ _ _ _,EA _ _ _ _⟩
theorem D5(x0 y0:Bool)(x1 y1:Int)(w:World):(binOp .eql 41 (.agg #[.bool x0,.int .i64 x1]) (.agg #[.bool y0,.int .i64 y1])).run Tryz.prog w=.ok (.bool ((x0==y0)&&decide (x1=y1))) w:=by
 simp[go_sem]
 (repeat' split)<;>simp_all
theorem EB(x0 y0:Bool)(x1 y1:Int)(w:World):(binOp .neq 41 (.agg #[.bool x0,.int .i64 x1]) (.agg #[.bool y0,.int .i64 y1])).run Tryz.prog w=.ok (.bool (!((x0==y0)&&decide (x1=y1)))) w:=by
 simp[go_sem]
 (repeat' split)<;>simp_all
instance(x0 y0:Bool)(x1 y1:Int):z_ Tryz.prog 41 (.agg #[.bool x0,.int .i64 x1]) (.agg #[.bool y0,.int .i64 y1]) ((x0==y0)&&decide (x1=y1)):=⟨λop x y w=>by unfold eqGuard;cases op<;>simp[go_sem],D5 _ _ _ _,EB _ _ _ _⟩
def dI(f:Nat->Int)(n:Nat):Int×Nat:=match (List.range n).find? (λi=>!decide (f i=0))with|some i=>(f i,i)|none=>(0,0)
theorem gp{f:Nat->Int}{n i:Nat}(h:∀j,j<i->f j=0)(hi:i<n)(hf:f i≠0):dI f n=(f i,i):=by
 have e:(List.range n).find? (λi=>!decide (f i=0))=some i:=by
  rw[List.find?_eq_some_iff_append];refine⟨by simp[hf],List.range i,(List.range' (i+1) (n-(i+1))),?_,λa ha=>by simp[h a (by simpa using ha)]⟩;apply List.ext_getElem
  ·simp;omega
  ·intro k h1 h2
   simp only[List.getElem_range,List.getElem_append,fG]
   split
   ·simp
   ·rename_i hk
    by_cases AO:k=i
    ·subst AO;simp
    ·rw[List.getElem_cons]
     rw[dif_neg ag];simp only[List.getElem_range'];omega
 unfold dI;rw[e]
theorem fD{f:Nat->Int}{n:Nat}(h:∀j,j<n->f j=0):dI f n=(0,0):=by
 unfold dI;rw[List.find?_eq_none.2 (λi hi=>by simp[h i (by simpa using hi)])]
theorem im{f:Nat->Int}{n:Nat}(h:(dI f n).1=0):∀j,j<n->f j=0:=by
 intro j hj;unfold dI at h
 split at h
 ·rename_i i hi
  have:=List.find?_some hi;simp at this;exact absurd h this
 ·rename_i hi
  have:=List.find?_eq_none.1 hi j (by simpa using hj);simpa using this
def within(n lo hi:Int):Bool:=decide (lo<=n)&&decide (n<=hi)
def Ak(s:ByteArray)(i:Nat):Int:=if h:i<s.size then((s[i]'h).toNat:Int)else 0
def QO(i:Nat)(c:Int):Bool:=(((decide (97<=c)&&decide (c<=122))||(decide (65<=c)&&decide (c<=90)))||decide (c=95))||((decide (0<(i:Int))&&decide (48<=c))&&decide (c<=57))
def sj(s:ByteArray):Bool:=if (s.size:Int)<1∨12<(s.size:Int)then false else decide (∀i,i<s.size->QO i (Ak s i)=true)
def hasName(l:List ByteArray)(s:ByteArray):Bool:=l.any λt=>s.toList==t.toList
def dw(aF:Int)(v:cm):Int:=if v.bD&& !within v.n 0 (aF-1)then 3 else 0
def jx(aF n:Int):Int:=if !within n 0 (aF-1)then 3 else 0
def jr{α:Type}(l:List α)(f:α->Int)(i:Nat):Int:=match l[i]? with|some x=>f x|none=>0
def oK(i:Nat)(rows:List (List Int))(to:Int):List (List Int):=rows.modify to.toNat (·++[(i:Int)])
def jt(bs:List ar):Nat->List (List Int)
 |0=>List.replicate bs.length []
 |i+1=>(match bs[i]? with|some b=>b.to|none=>[]).foldl (oK i) (jt bs i)
def bm(bs:List ar):List (List Int):=jt bs bs.length
def w9(aF:Int)(block np:Nat)(p:eC):Int:=
 if (block:Int)=0 then 5 else if jx aF p.dst≠0 then jx aF p.dst
 else if (p.src.length:Int)≠np then 9 else(dI (jr p.src (dw aF)) p.src.length).1
def lQ(aF:Int)(bs:List ar)(block:Nat)(p:eC):Int:=w9 aF block ((bm bs)[block]?.getD []).length p
def shape(op:Int):Bool×Bool×Bool:=
 if ((op=1∨op=16)∨op=17)∨op=18 then(true,true,false)else if 2<=op/\op<=15 then(true,true,true)else if op=19 then(false,true,true)
 else if op=20∨op=21 then(true,false,false)else if op=22 then(false,true,false)else(false,false,false)
def iC(v:cm):Bool:=(v.bD==false)&&decide (v.n=0)
def fY(fs:List aZ)(aF:Int)(x:en):Int:=
 if x.op≠20 then 0 else if !within x.fn 0 (fs.length-1)then 3 else if (x.args.length:Int)≠jr fs (·.params) x.fn.toNat then 9 else(dI (jr x.args (dw aF)) x.args.length).1
def pU(x:en):Bool:=
 (((!(shape x.op).1&& !decide (x.dst=-1))||(!(shape x.op).2.1&& !iC x.a))||(!(shape x.op).2.2&& !iC x.b))||(!decide (x.op=20)&&(!decide (x.fn=0)||decide (0<(x.args.length:Int))))
def dK(fs:List aZ)(aF:Int)(x:en):Int:=
 if !within x.op 1 22 then 4 else if pU x then 5
 else if ((shape x.op).1&& !(decide (x.op=20)&&decide (x.dst=-1)))&& !decide (jx aF x.dst=0)then jx aF x.dst
 else if dw aF x.a≠0 then dw aF x.a else if dw aF x.b≠0 then dw aF x.b else fY fs aF x
def uK(n:Nat)(aF kind:Int)(on:cm)(to:List Int):Int:=
 if !within kind 1 3 then 4 else if (to.length:Int)≠kind-1 then 9 else if to.any (λt=>!within t 1 (n-1))then 3
 else if (decide (kind=3)&&decide (to[0]?.getD 0=to[1]?.getD 0))||(decide (kind=2)&& !iC on)then 5 else dw aF on
def j8(n:Nat)(aF:Int)(b:ar):Int:=uK n aF b.kind b.on b.to
def jc(fs:List aZ)(f:aZ)(i:Nat):Int:=match f.blocks[i]? with
 |some b=>if (dI (jr b.aL (lQ f.aF f.blocks i)) b.aL.length).1≠0 then(dI (jr b.aL (lQ f.aF f.blocks i)) b.aL.length).1 else(dI (jr b.list (dK fs f.aF)) b.list.length).1
 |none=>0
def fX(fs:List aZ)(f:aZ):Int:=
 if (dI (jr f.blocks (j8 f.blocks.length f.aF)) f.blocks.length).1≠0 then(dI (jr f.blocks (j8 f.blocks.length f.aF)) f.blocks.length).1 else(dI (jc fs f) f.blocks.length).1
def mE(bs:List ar)(i:Nat):Int:=((bs.take i).map λb=>((b.aL.length+b.list.length:Nat):Int)).sum
def fQ(bs:List ar):Int:=(bs.map λb=>((b.aL.length+b.list.length:Nat):Int)).sum
def kU(names:List ByteArray)(f:aZ):Int:=
 if !sj f.name then 12 else if hasName names f.name then 7 else if !within f.params 0 6|| !within f.aF f.params 100 then 3
 else if !within f.blocks.length 1 40||decide (300<fQ f.blocks)then 2 else 0
def mZ(l:List iY)(i:Nat):Int:=((l.take i).map (·.size)).sum
def jd(names:List ByteArray)(tot:Int)(g:iY):Int:=
 if !sj g.name then 12 else if hasName names g.name then 7 else if !within g.size 1 200 then 3 else if g.size<(g.init.length:Int)then 9 else if 200<tot+g.size then 10 else 0
def nw(l:List iY)(i:Nat):Int:=jr l (jd ((l.take i).map (·.name)) (mZ l i)) i
def k_(u:a7)(i:Nat):Int:=jr u.funcs (kU (u.globals.map (·.name)++(u.funcs.take i).map (·.name))) i
def qK(f:aZ):Bool:=f.name.toList==(ByteArray.mk #[109,97,105,110]).toList
def cZ(fs:List aZ):Int:=match fs.findIdx? qK with|some i=>(i:Int)|none=>-1
def dr(u:a7):Int×Int:=
 if 10<(u.globals.length:Int)∨10<(u.funcs.length:Int)then(2,0)
 else if (dI (nw u.globals) u.globals.length).1≠0 then((dI (nw u.globals) u.globals.length).1,(dI (nw u.globals) u.globals.length).2)
 else if (dI (k_ u) u.funcs.length).1≠0 then((dI (k_ u) u.funcs.length).1,(dI (k_ u) u.funcs.length).2)
 else if (dI (jr u.funcs (fX u.funcs)) u.funcs.length).1≠0 then((dI (jr u.funcs (fX u.funcs)) u.funcs.length).1,(dI (jr u.funcs (fX u.funcs)) u.funcs.length).2)
 else if cZ u.funcs<0 then(6,0)else if 0<jr u.funcs (·.params) (cZ u.funcs).toNat then(5,cZ u.funcs)else(0,0)
end
section
open Go Go.RowKit
attribute [local irreducible] wpListIn Code.wpIn Exit.then Exit.inBlock bodyPost wpQuiet wpAnyIn
set_option maxHeartbeats 1000000
theorem mixed:Tryz.prog.follows .mixedOrders=true:=by kernel_rfl
theorem dJ{α:Type}{l:List α}{i n:Nat}(hn:n=l.length)(h:i<n):∃x,l[i]?=some x:=⟨l[i],by simp[hn▸h]⟩
theorem aW{α:Type}{l:List α}{i:Nat}{x:α}(h:l[i]?=some x):l≠[]:=by rintro rfl;simp at h
theorem jk(n lo hi:Int)(w0:World):fi Tryz.prog 29 [.int .i64 n,.int .i64 lo,.int .i64 hi] w0 (.bool (within n lo hi)):=by
 refine aQ Tryz.func29 rfl Tryz.ntmps29 rfl (Wd.nil dh w0) ?_;refine aU ?_;generalize hb:decide (lo<=n)=b;cases b
 ·refine iL ?_
  exact bQ rfl (by simp[within,hb])
 ·refine aI ?_
  exact bQ rfl (by simp[within,hb])
theorem oN(code at':Int)(w0:World):fi Tryz.prog 26 [.int .i64 code,.int .i64 at'] w0 (.agg #[.int .i64 code,.int .i64 at']):=by
 refine aQ Tryz.func26 rfl Tryz.ntmps26 rfl (Wd.nil dh w0) ?_
 repeat(first|refine aI ?_|refine dX λ_ _=>?_)
 exact gH rfl λ_ hw=>⟨rfl,hw.cE⟩
theorem Qw(s:ByteArray)(w0:World):fi Tryz.prog 27 [.string s] w0 (.bool (sj s)):=by
 refine aQ Tryz.func27 rfl Tryz.ntmps27 rfl (Wd.nil dh w0) ?_;refine aU ?_;generalize hb:decide ((s.size:Int)<1)=b;refine qI 4 12 (.bool (b||decide (12<(s.size:Int)))) ?_ ?_
 ·cases b
  ·refine aI ?_
   exact aV aw aH
  ·refine iL ?_
   exact aV aw aH
 refine aU ?_;refine aN (λh1=>?_) (λh1=>?_)
 ·refine aI ?_
  refine bQ rfl ?_;subst hb;simp[sj,if_pos (show(s.size:Int)<1∨12<(s.size:Int) by simpa using h1)]
 have Ef:¬((s.size:Int)<1∨12<(s.size:Int)):=by subst hb;simpa using h1
 refine aO ?_;refine bP (λ(i:Nat)=>i<=s.size/\∀j,j<i->QO j (Ak s j)=true) (λi=>[(0,.string s),(15,.int .i64 i),(14,.int .i64 s.size)]) (λ_=>[]) (λi=>s.size-i) 0 ⟨aY _,by simp⟩ (aV aw aH) λi ⟨hi,cP⟩=>?_;refine aU ?_;refine aN (λh2=>?_) (λh2=>?_)
 ·have bT:i<s.size:=by simpa using h2
  have Zc:NL s i (Ak s i):=⟨bT,by simp[Ak,bT]⟩;generalize hc:Ak s i=c at Zc;refine aO ?_;generalize e1:decide (97<=c)=b1;refine qI 3 26 (.bool (b1&&decide (c<=122))) ?_ ?_
  ·cases b1
   ·refine iL ?_
    exact aV aw aH
   ·refine aI ?_
    exact aV aw aH
  generalize e2:(b1&&decide (c<=122))=b2;refine aU ?_;refine qI 7 34 (.bool (b2||(decide (65<=c)&&decide (c<=90)))) ?_ ?_
  ·cases b2
   ·refine aI ?_
    generalize e3:decide (65<=c)=b3;cases b3
    ·refine iL ?_
     exact aV aw aH
    ·refine aI ?_
     exact aV aw aH
   ·refine iL ?_
    exact aV aw aH
  generalize e3:(b2||(decide (65<=c)&&decide (c<=90)))=b3;refine aU ?_;refine qI 3 38 (.bool (b3||decide (c=95))) ?_ ?_
  ·cases b3
   ·refine aI ?_
    exact aV aw aH
   ·refine iL ?_
    exact aV aw aH
  generalize e4:(b3||decide (c=95))=b4;refine aU ?_;refine qI 11 50 (.bool (b4||((decide (0<(i:Int))&&decide (48<=c))&&decide (c<=57)))) ?_ ?_
  ·cases b4
   ·refine aI ?_
    generalize e5:decide (0<(i:Int))=b5;cases b5
    ·refine iL ?_
     exact aV aw aH
    ·refine aI ?_
     generalize e6:decide (48<=c)=b6;cases b6
     ·refine iL ?_
      exact aV aw aH
     ·refine aI ?_
      exact aV aw aH
   ·refine iL ?_
    exact aV aw aH
  have cW:QO i c=(b4||((decide (0<(i:Int))&&decide (48<=c))&&decide (c<=57))):=by subst e4 e3 e2 e1;rfl
  rw[<-cW];refine aU ?_;refine aN (λh3=>?_) (λh3=>?_)
  ·have q9:QO i c=false:=by simpa using h3
   refine aI ?_;refine bQ rfl ?_;simp only[sj,if_neg Ef,Value.bool.injEq]
   symm
   rw[decide_eq_false_iff_not];intro hh;have:=hh i bT;rw[hc,q9]at this;cases this
  ·have q9:QO i c=true:=by simpa using h3
   refine aO ?_;refine bC (i+1) ⟨bT,λj hj=>?_⟩ ag aw aH
   by_cases wT:j=i
   ·subst wT;rw[hc];exact q9
   ·exact cP j ag
 ·have gT:i=s.size:=by have:=h2;simp at this;omega
  refine aI ?_;refine bQ rfl ?_;subst gT;simp only[sj,if_neg Ef,Value.bool.injEq]
  symm
  rw[decide_eq_true_eq];exact cP
theorem PX(v:Value)(l:List ByteArray)(s:ByteArray)(w0:World)(hv:aM w0 v 1 l NW):gV Tryz.prog 69 [v,.string s] w0 λu w'=>lL dh w0 w'/\∃r:Int,u=.int .i64 r/\decide (0<=r)=hasName l s:=by
 obtain⟨a,n,c,b,o,rfl,hn,pE,E3,hc,ha,iK⟩:=hv;refine aQ Tryz.func69 rfl Tryz.ntmps69 rfl (Wd.nil dh w0) ?_;refine aO ?_;refine bP (λ(i:Nat)=>i<=n/\∀j t,j<i->l[j]?=some t->(s.toList==t.toList)=false) (λi=>[(8,.int .i64 i),(0,.slice a n c),(1,.string s),(7,.int .i64 n)]) (λ_=>[]) (λi=>n-i) 0 ⟨aY _,by simp⟩ (aV aw aH) λi ⟨hi,cP⟩=>?_;refine aU ?_;refine aN (λh1=>?_) (λh1=>?_)
 ·have bT:i<n:=by simpa using h1
  obtain⟨x,hx⟩:=dJ hn bT;have pY:bY a b o:=⟨ha (aW hx)⟩;have mW:bZ i n:=⟨bT⟩;obtain⟨cs,fZ,rfl⟩:=iK i x hx;have oQ:a_ w0 b (o+i*1) _:=⟨fZ⟩;refine aO ?_;refine aN (λh2=>?_) (λh2=>?_)
  ·refine aI ?_
   refine cA rfl λw hw=>⟨hw.cE,_,rfl,?_⟩;rw[decide_eq_true (by omega:(0:Int)<=(i:Int))]
   symm
   simp only[hasName,oq];exact⟨x,aA hx,h2⟩
  ·refine aO ?_
   refine bC (i+1) ⟨bT,λj t hj ht=>?_⟩ ag aw aH
   by_cases wT:j=i
   ·subst wT
    rw[hx]at ht;simp only[bW]at ht;subst ht;exact h2
   ·exact cP j t ag ht
 ·have gT:i=n:=by have:=h1;simp at this;omega
  refine aI ?_;refine cA rfl λw hw=>⟨hw.cE,_,rfl,?_⟩
  symm
  rw[show decide ((0:Int)<=-1)=false from rfl];simp only[hasName,vq];intro t ht;obtain⟨j,hj⟩:=br ht;have:=cP j t (by have:=(aC.1 hj).1;omega) hj;simp[this]
theorem yS(v:Value)(l:List ByteArray)(s:ByteArray)(w0:World)(hv:aM w0 v 1 l NW):fi Tryz.prog 28 [v,.string s] w0 (.bool (hasName l s)):=by
 refine aQ Tryz.func28 rfl Tryz.ntmps28 rfl (Wd.nil dh w0) ?_;refine aU ?_;refine cV (val:=λr:Int=>.int .i64 r) (φ:=λr:Int=>decide (0<=r)=hasName l s) (E:=λ_=>[]) rfl (λw hw=>(PX v l s w (hv.cu Dg hw.cE)).mono λu w' ⟨h1,r,h2,h3⟩=>⟨r,h2,(Wd.nil dh w).call h1,h3⟩) λr hr=>?_;refine aO ?_;exact bQ rfl (by rw[hr])
theorem BW(g fs nm pa bs ah:Value)(aF:Int)(hr:0<=aF/\aF<=100)(v:cm)(w0:World):
  fi Tryz.prog 117 [.agg #[g,fs,nm,pa,.int .i64 aF,bs,ah],.agg #[.bool v.bD,.int .i64 v.n]] w0 (.int .i64 (dw aF v)):=by
 refine aQ Tryz.func117 rfl Tryz.ntmps117 rfl (Wd.nil dh w0) ?_
 repeat(first|refine aU ?_|refine dX λ_ _=>?_)
 generalize hb:v.bD=b;cases b
 ·refine iL ?_
  exact bQ rfl (by simp[dw,hb])
 ·refine aI ?_
  refine bI rfl (λw _=>jk _ _ _ w) ?_;refine aI ?_;refine aN (λh1=>?_) (λh1=>?_)
  ·refine aI ?_
   exact bQ rfl (by simp at h1;simp[dw,hb,h1])
  ·refine aO ?_
   exact bQ rfl (by simp at h1;simp[dw,hb,h1])
theorem U1(g fs nm pa bs ah:Value)(aF:Int)(hr:0<=aF/\aF<=100)(n:Int)(w0:World):
  fi Tryz.prog 118 [.agg #[g,fs,nm,pa,.int .i64 aF,bs,ah],.int .i64 n] w0 (.int .i64 (jx aF n)):=by
 refine aQ Tryz.func118 rfl Tryz.ntmps118 rfl (Wd.nil dh w0) ?_
 repeat(first|refine aI ?_|refine dX λ_ _=>?_)
 refine bI rfl (λw _=>jk _ _ _ w) ?_;refine aU ?_;refine aN (λh1=>?_) (λh1=>?_)
 ·refine aI ?_
  exact bQ rfl (by simp at h1;simp[jx,h1])
 ·refine aO ?_
  exact bQ rfl (by simp at h1;simp[jx,h1])
theorem Ob(g fs nm pa re ah:Value)(n c b:Nat)(a:Option Addr)(hn:n<=100)(x:Int)(w0:World)(hc:bG w0 b 0 [g,fs,nm,pa,re,.slice a n c,ah]):
  fi Tryz.prog 116 [.int .i64 x,.pointer (some ⟨b,0,none⟩)] w0 (.bool (!within x 1 (n-1))):=by
 have oQ:a_ w0 b 0 _:=⟨hc⟩;have W6:xD w0 b 5 (.slice a n c):=⟨by simpa using hc 5 _ rfl⟩;refine aQ Tryz.func116 rfl Tryz.ntmps116 rfl (Wd.nil dh w0) ?_;refine aI ?_;refine bI rfl (λw _=>jk _ _ _ w) ?_;refine aO ?_;exact bQ rfl rfl
theorem Hg(op:Int)(w0:World):fi Tryz.prog 119 [.int .i64 op] w0 (.agg #[.bool (shape op).1,.bool (shape op).2.1,.bool (shape op).2.2]):=by
 refine aQ Tryz.func119 rfl Tryz.ntmps119 rfl (Wd.nil dh w0) ?_
 repeat(first|refine aO ?_|refine dX λ_ _=>?_)
 generalize e1:decide (op=1)=b1;refine qI 3 9 (.bool (b1||decide (op=16))) ?_ ?_
 ·cases b1
  ·refine aI ?_
   exact aV aw aH
  ·refine iL ?_
   exact aV aw aH
 generalize e2:(b1||decide (op=16))=b2;refine aU ?_;refine qI 3 13 (.bool (b2||decide (op=17))) ?_ ?_
 ·cases b2
  ·refine aI ?_
   exact aV aw aH
  ·refine iL ?_
   exact aV aw aH
 generalize e3:(b2||decide (op=17))=b3;refine aU ?_;refine qI 3 17 (.bool (b3||decide (op=18))) ?_ ?_
 ·cases b3
  ·refine aI ?_
   exact aV aw aH
  ·refine iL ?_
   exact aV aw aH
 refine aU ?_;refine aN (λh1=>?_) (λh1=>?_)
 ·refine aI ?_
  refine gH rfl λ_ hw=>⟨?_,hw.cE⟩;have:((op=1∨op=16)∨op=17)∨op=18:=by subst e3 e2 e1;simpa using h1
  simp[shape,this]
 have n1:¬(((op=1∨op=16)∨op=17)∨op=18):=by subst e3 e2 e1;simpa using h1
 refine aU ?_;generalize e4:decide (2<=op)=b4;refine qI 3 25 (.bool (b4&&decide (op<=15))) ?_ ?_
 ·cases b4
  ·refine iL ?_
   exact aV aw aH
  ·refine aI ?_
   exact aV aw aH
 refine aU ?_;refine aN (λh2=>?_) (λh2=>?_)
 ·refine aI ?_
  refine gH rfl λ_ hw=>⟨?_,hw.cE⟩;have:2<=op/\op<=15:=by subst e4;simpa using h2
  simp[shape,n1,this]
 have n2:¬(2<=op/\op<=15):=by subst e4;simpa using h2
 refine aU ?_;refine aN (λh3=>?_) (λh3=>?_)
 ·refine aI ?_
  refine gH rfl λ_ hw=>⟨?_,hw.cE⟩;have:op=19:=by simpa using h3
  simp[shape,this]
 have n3:¬op=19:=by simpa using h3
 refine aU ?_;generalize e5:decide (op=20)=b5;refine qI 3 37 (.bool (b5||decide (op=21))) ?_ ?_
 ·cases b5
  ·refine aI ?_
   exact aV aw aH
  ·refine iL ?_
   exact aV aw aH
 refine aU ?_;refine aN (λh4=>?_) (λh4=>?_)
 ·refine aI ?_
  refine gH rfl λ_ hw=>⟨?_,hw.cE⟩;have:op=20∨op=21:=by subst e5;simpa using h4
  rcases this with rfl|rfl<;>rfl
 have n4:¬(op=20∨op=21):=by subst e5;simpa using h4
 refine aU ?_;refine aN (λh5=>?_) (λh5=>?_)
 ·refine aI ?_
  refine gH rfl λ_ hw=>⟨?_,hw.cE⟩;have:op=22:=by simpa using h5
  subst this;rfl
 ·have n5:¬op=22:=by simpa using h5
  refine aI ?_;refine gH rfl λ_ hw=>⟨?_,hw.cE⟩;simp[shape,n1,n2,n3,n4,n5]
theorem Mo{f:Nat}[aS Tryz.prog f](cap:List Value)(g:Int->Bool)(v:Value)(l:List Int)(w0:World)(hv:aM w0 v 1 l fj)(fv:∀w,lL dh w0 w->∀x∈l,fi Tryz.prog f (.int .i64 x::cap) w (.bool (g x))):
  gV Tryz.prog 156 [v,.func (.func f) #[] cap.toArray] w0 λu w'=>∃r:Int,u=.int .i64 r/\Wd dh w0 [] w'/\decide (0<=r)=l.any g:=by
 obtain⟨a,n,c,b,o,rfl,hn,pE,E3,hc,ha,iK⟩:=hv;refine aQ Tryz.func156 rfl Tryz.ntmps156 rfl (Wd.nil dh w0) ?_;refine aO ?_;refine bP (λ(i:Nat)=>i<=n/\∀j t,j<i->l[j]?=some t->g t=false) (λi=>[(8,.int .i64 i),(0,.slice a n c),(1,.func (.func f) #[] cap.toArray),(7,.int .i64 n)]) (λ_=>[]) (λi=>n-i) 0 ⟨aY _,by simp⟩ (aV aw aH) λi ⟨hi,cP⟩=>?_;refine aU ?_;refine aN (λh1=>?_) (λh1=>?_)
 ·have bT:i<n:=by simpa using h1
  obtain⟨x,hx⟩:=dJ hn bT;have pY:bY a b o:=⟨ha (aW hx)⟩;have mW:bZ i n:=⟨bT⟩;obtain⟨cs,fZ,rfl,Yl⟩:=iK i x hx;have oQ:a_ w0 b (o+i*1) _:=⟨fZ⟩;refine aO ?_;refine kD rfl (us:=[]) (vs:=[.int .i64 x]) (xs:=cap) (λw hw=>fv w hw.cE x (aA hx)) ?_;refine aU ?_;refine aN (λh2=>?_) (λh2=>?_)
  ·refine aI ?_
   refine cA rfl λw hw=>⟨_,rfl,⟨hw.cE,by simp,by simp,by simp⟩,?_⟩;rw[decide_eq_true (by omega:(0:Int)<=(i:Int))]
   symm
   simp only[oq];exact⟨x,aA hx,h2⟩
  ·refine aO ?_
   refine bC (i+1) ⟨bT,λj t hj ht=>?_⟩ ag aw aH
   by_cases wT:j=i
   ·subst wT
    rw[hx]at ht;simp only[bW]at ht;subst ht;exact h2
   ·exact cP j t ag ht
 ·have gT:i=n:=by have:=h1;simp at this;omega
  refine aI ?_;refine cA rfl λw hw=>⟨_,rfl,⟨hw.cE,by simp,by simp,by simp⟩,?_⟩
  symm
  rw[show decide ((0:Int)<=-1)=false from rfl];simp only[vq];intro t ht;obtain⟨j,hj⟩:=br ht;have:=cP j t (by have:=(aC.1 hj).1;omega) hj;simp[this]
theorem D0{f:Nat}[aS Tryz.prog f](cap:List Value)(g:Int->Bool)(v:Value)(l:List Int)(w0:World)(hv:aM w0 v 1 l fj)(fv:∀w,lL dh w0 w->∀x∈l,fi Tryz.prog f (.int .i64 x::cap) w (.bool (g x))):
  fi Tryz.prog 115 [v,.func (.func f) #[] cap.toArray] w0 (.bool (l.any g)):=by
 refine aQ Tryz.func115 rfl Tryz.ntmps115 rfl (Wd.nil dh w0) ?_;refine aU ?_;refine cV (val:=λr:Int=>.int .i64 r) (φ:=λr:Int=>decide (0<=r)=l.any g) (E:=λ_=>[]) rfl (λw hw=>Mo cap g v l w (hv.cu eK hw.cE) λw1 h1 x=>fv w1 (hw.cE.trans h1) x) λr hr=>?_;refine aO ?_;exact bQ rfl (by rw[hr])
structure Lq where
 f:Nat
 cap:List Value
 err:Int
def UR(_:World)(x:Lq)(cs:List Value):Prop:=cs=[.func (.func x.f) #[] x.cap.toArray]
theorem SG(v:Value)(l:List Lq)(w0:World)(hv:aM w0 v 1 l UR)(hE:∀x∈l,aS Tryz.prog x.f)(fv:∀x∈l,∀w,lL dh w0 w->fi Tryz.prog x.f x.cap w (.int .i64 x.err)):
  fi Tryz.prog 120 [v] w0 (.int .i64 (dI (jr l (·.err)) l.length).1):=by
 obtain⟨a,n,c,b,o,rfl,hn,pE,E3,hc,ha,iK⟩:=hv;refine aQ Tryz.func120 rfl Tryz.ntmps120 rfl (Wd.nil dh w0) ?_;refine aO ?_;refine bP (λ(i:Nat)=>i<=n/\∀j,j<i->jr l (·.err) j=0) (λi=>[(8,.int .i64 i),(6,.slice a n c),(7,.int .i64 n)]) (λ_=>[]) (λi=>n-i) 0 ⟨aY _,by simp⟩ (aV aw aH) λi ⟨hi,cP⟩=>?_;refine aU ?_;refine aN (λh1=>?_) (λh1=>?_)
 ·have bT:i<n:=by simpa using h1
  obtain⟨x,hx⟩:=dJ hn bT;have pY:bY a b o:=⟨ha (aW hx)⟩;have mW:bZ i n:=⟨bT⟩;obtain⟨cs,fZ,rfl⟩:=iK i x hx;have oQ:a_ w0 b (o+i*1) _:=⟨fZ⟩;have r8:=aA hx;have hen:=hE x r8;have ny:jr l (·.err) i=x.err:=by simp[jr,hx]
  refine aO ?_;refine kD rfl (us:=[]) (vs:=[]) (xs:=x.cap) (λw hw=>fv x r8 w hw.cE) ?_;refine aU ?_;refine aN (λh2=>?_) (λh2=>?_)
  ·refine aI ?_
   have vB:x.err≠0:=by simpa using h2
   refine bQ rfl ?_;rw[gp cP (hn▸bT) (by rw[ny];exact vB),ny]
  ·have vB:x.err=0:=by simpa using h2
   refine aO ?_;refine bC (i+1) ⟨bT,λj hj=>?_⟩ ag aw aH
   by_cases wT:j=i
   ·subst wT;rw[ny];exact vB
   ·exact cP j ag
 ·have gT:i=n:=by have:=h1;simp at this;omega
  refine aI ?_;exact bQ rfl (by rw[<-hn,<-gT,fD cP])
theorem PZ(g fs nm pa bs ah:Value)(aF:Int)(hr:0<=aF/\aF<=100)(x:en)(xv:Value)(b b2:Nat)(w0:World)(hc:bG w0 b 0 [g,fs,nm,pa,.int .i64 aF,bs,ah])
  (hx:bG w0 b2 0 [.int .i64 x.op,.int .i64 x.dst,.bool x.a.bD,.int .i64 x.a.n,.bool x.b.bD,.int .i64 x.b.n,.int .i64 x.fn,xv]):
  fi Tryz.prog 121 [.pointer (some ⟨b,0,none⟩),.pointer (some ⟨b2,0,none⟩)] w0 (.int .i64 (dw aF x.a)):=by
 have oQ:a_ w0 b 0 _:=⟨hc⟩;have Yl:a_ w0 b2 0 _:=⟨hx⟩;refine aQ Tryz.func121 rfl Tryz.ntmps121 rfl (Wd.nil dh w0) ?_;refine aU ?_;refine bI rfl (λw _=>BW _ _ _ _ _ _ aF hr x.a w) ?_;refine aO ?_;exact bQ rfl rfl
theorem P0(g fs nm pa bs ah:Value)(aF:Int)(hr:0<=aF/\aF<=100)(x:en)(xv:Value)(b b2:Nat)(w0:World)(hc:bG w0 b 0 [g,fs,nm,pa,.int .i64 aF,bs,ah])
  (hx:bG w0 b2 0 [.int .i64 x.op,.int .i64 x.dst,.bool x.a.bD,.int .i64 x.a.n,.bool x.b.bD,.int .i64 x.b.n,.int .i64 x.fn,xv]):
  fi Tryz.prog 122 [.pointer (some ⟨b,0,none⟩),.pointer (some ⟨b2,0,none⟩)] w0 (.int .i64 (dw aF x.b)):=by
 have oQ:a_ w0 b 0 _:=⟨hc⟩;have Yl:a_ w0 b2 0 _:=⟨hx⟩;refine aQ Tryz.func122 rfl Tryz.ntmps122 rfl (Wd.nil dh w0) ?_;refine aU ?_;refine bI rfl (λw _=>BW _ _ _ _ _ _ aF hr x.b w) ?_;refine aO ?_;exact bQ rfl rfl
theorem IU(g fs nm pa bs ah:Value)(fl:List aZ)(xV:fl.length<=100)(aF:Int)(hr:0<=aF/\aF<=100)(x:en)(_hfn:c9 x.fn)(xv:Value)(b b2 b3:Nat)(w0:World)(hc:bG w0 b 0 [g,fs,nm,pa,.int .i64 aF,bs,ah])
  (hx:bG w0 b2 0 [.int .i64 x.op,.int .i64 x.dst,.bool x.a.bD,.int .i64 x.a.n,.bool x.b.bD,.int .i64 x.b.n,.int .i64 x.fn,xv]) (h3:bG w0 b3 0 [.bool (decide (x.op=20))]) (hf:aM w0 fs 4 fl gg) (hv:aM w0 xv 2 x.args l9):
  fi Tryz.prog 123 [.pointer (some ⟨b3,0,none⟩),.pointer (some ⟨b2,0,none⟩),.pointer (some ⟨b,0,none⟩)] w0 (.int .i64 (fY fl aF x)):=by
 obtain⟨fa,fn,fc,fb,fo,rfl,Tg,O2,O1,Xg,uN,uO⟩:=hf;obtain⟨va,vn,vc,vb,vo,rfl,E7,Yi,abQ,VR,nz,GA⟩:=hv;have oQ:a_ w0 b 0 _:=⟨hc⟩;have Yl:a_ w0 b2 0 _:=⟨hx⟩;have h3i:a_ w0 b3 0 _:=⟨h3⟩;refine aQ Tryz.func123 rfl Tryz.ntmps123 rfl (Wd.nil dh w0) ?_;refine aO ?_;generalize hb:decide (x.op=20)=bb
 skip
 cases bb
 ·refine aI ?_
  exact bQ rfl (by simp at hb;simp[fY,hb])
 have mL:¬(x.op≠20):=by simpa using hb
 refine aI ?_;refine bI rfl (λw _=>jk _ _ _ w) ?_;refine aU ?_;refine aN (λh1=>?_) (λh1=>?_)
 ·refine aI ?_
  exact bQ rfl (by simp only[fY,if_neg mL,<-Tg];rw[if_pos (by simpa using h1)])
 have hw:within x.fn 0 ((fn:Int)-1)=true:=by simpa using h1
 have aed:0<=x.fn/\x.fn<fn:=by simp[within]at hw;omega
 obtain⟨k,hk⟩:∃k:Nat,x.fn=k:=⟨x.fn.toNat,ag⟩;have xz:k<fn:=ag;obtain⟨F,hF⟩:=dJ Tg xz;have pY:bY fa fb fo:=⟨uN (aW hF)⟩;have mW:bZ k fn:=⟨xz⟩;have XD:ky x.fn k:=⟨hk⟩;obtain⟨cs,fZ,bv,rfl,Zo,_,_⟩:=uO k F hF;have ac4:a_ w0 fb (fo+k*4) _:=⟨fZ⟩;have ny:jr fl (·.params) x.fn.toNat=F.params:=by simp[jr,hk,hF]
 refine aU ?_;refine kE mixed aP ?_;refine j9 ?_;refine aU ?_;refine aN (λh2=>?_) (λh2=>?_)
 ·refine aI ?_
  refine bQ rfl ?_;have vB:(x.args.length:Int)≠F.params:=by rw[<-E7];simpa using h2
  simp only[fY,if_neg mL,<-Tg,hw,ny,Bool.not_true,if_pos vB]
  rfl
 have vB:¬(x.args.length:Int)≠F.params:=by rw[<-E7];simpa using h2
 have O7:fY fl aF x=(dI (jr x.args (dw aF)) x.args.length).1:=by
  simp only[fY,if_neg mL,<-Tg,hw,ny,Bool.not_true,if_neg vB]
  rfl
 rw[O7];refine aO ?_;refine bP (λ(i:Nat)=>i<=vn/\∀j,j<i->jr x.args (dw aF) j=0) (λi=>[(36,.int .i64 i),(34,.slice va vn vc),(35,.int .i64 vn),(2,.pointer (some ⟨b,0,none⟩))]) (λ_=>[]) (λi=>vn-i) 0 ⟨aY _,by simp⟩ (aV aw aH) λi ⟨hi,cP⟩=>?_;refine aU ?_;refine aN (λh1=>?_) (λh1=>?_)
 ·have bT:i<vn:=by simpa using h1
  obtain⟨y,hy⟩:=dJ E7 bT;have pY:bY va vb vo:=⟨nz (aW hy)⟩;have mW:bZ i vn:=⟨bT⟩;obtain⟨cs,fZ,rfl,hyi⟩:=GA i y hy;have oQ:a_ w0 vb (vo+i*2) _:=⟨fZ⟩;have ny:jr x.args (dw aF) i=dw aF y:=by simp[jr,hy]
  repeat(first|refine aI ?_|refine dX λ_ _=>?_)
  refine bI rfl (λw _=>BW _ _ _ _ _ _ aF hr y w) ?_;refine aU ?_;refine aN (λh2=>?_) (λh2=>?_)
  ·refine aI ?_
   refine bQ rfl ?_;rw[gp cP (E7▸bT) (by rw[ny];simpa using h2),ny]
  ·refine aO ?_
   refine bC (i+1) ⟨bT,λj hj=>?_⟩ ag aw aH
   by_cases wT:j=i
   ·subst wT;rw[ny];simpa using h2
   ·exact cP j ag
 ·have gT:i=vn:=by have:=h1;simp at this;omega
  refine aI ?_;exact bQ rfl (by rw[<-E7,<-gT,fD cP])
end
section
open Go Go.RowKit
def dd(bl:List ar)(i:Nat):List Int:=match bl[i]? with|some b=>b.to|none=>[]
def Edge(bl:List ar)(x y:Nat):Prop:=(y:Int)∈dd bl x
inductive gD(bl:List ar)(wo:Int)(b:Nat):Nat->Prop
 |refl:gD bl wo b b
 |step {x y:Nat}:gD bl wo b x->Edge bl x y->(y:Int)≠wo->gD bl wo b y
theorem gD.trans{bl:List ar}{wo:Int}{a b c:Nat}(h:gD bl wo a b)(k:gD bl wo b c):gD bl wo a c:=by
 induction k with
 |refl=>exact h
 |step _ he hw ih=>exact ih.step he hw
theorem fR{bl:List ar}{i:Nat}{b:ar}(h:bl[i]?=some b):dd bl i=b.to:=by simp[dd,h]
def cL(bl:List ar):Prop:=∀b∈bl,b.to.length<=2/\∀t∈b.to,0<=t/\t<bl.length
theorem cL.FG{bl:List ar}(h:cL bl){x y:Nat}(he:Edge bl x y):y<bl.length:=by
 unfold Edge dd at he
 split at he
 ·rename_i b hb
  have:=(h b (aA hb)).2 _ he;omega
 ·cases he
theorem cL.BC{bl:List ar}(h:cL bl){wo:Int}{b x:Nat}(hb:b<bl.length)(hr:gD bl wo b x):x<bl.length:=by
 induction hr with
 |refl=>exact hb
 |step _ he _ _=>exact h.FG he
theorem Jt{bl:List ar}{wo:Int}{b:Nat}{p:Nat->Prop}(h0:p b)(hc:∀x y,p x->Edge bl x y->(y:Int)≠wo->p y){x:Nat}(h:gD bl wo b x):p x:=by
 induction h with
 |refl=>exact h0
 |step _ he hw ih=>exact hc _ _ ih he hw
theorem yj:∀(n:Nat) (l:List Nat),l.Nodup->(∀x∈l,x<n)->l.length<=n
 |0,l,_,h=>by
  cases l with
  |nil=>simp
  |cons x l=>have:=h x aH;omega
 |n+1,l,hn,h=>by
  by_cases hm:n∈l
  ·have h1:=yj n (l.erase n) (hn.erase n) λx hx=>by
    have:=(hn.mem_erase_iff).1 hx;have:=h x this.2;omega
   rw[List.length_erase_of_mem hm]at h1;omega
  ·have:=yj n l hn λx hx=>by
    have h1:=h x hx;have:x≠n:=λe=>hm (e▸hx);omega
   omega
def gu(l:List Bool):Nat:=l.count false
theorem nG{l:List Bool}{i:Nat}(h:l[i]?=some false):gu (l.set i true)+1=gu l:=by
 induction l generalizing i with
 |nil=>simp at h
 |cons x l ih=>
  cases i with
  |zero=>
   simp only[jJ,bW]at h;subst h;simp[gu]
  |succ i=>
   simp only[nK]at h;have:=ih h;simp only[gu,cn,bi]at this⊢;omega
end
end Go.Proofs.YthfhgolkafpmnaaGreatDoor
