/- Texts joined: Inst Spec Name CheckA CheckB Reach. -/
import Derived.Test.YtdbljcahlpkgdaaDoorRows
import Derived.Test.YtdbljcahlpkgdaaDoorGA
namespace Go.Proofs.YtdbljcahlpkgdaaDoor
open Go Go.RowKit
instance : OneCell Tryd.prog 3:=⟨Tryd.isAgg3,Tryd.sizeOf3⟩
instance : ZeroVal Tryd.prog 3 (.int .i64 0):=⟨Tryd.zeroValue3⟩
instance : OneCell Tryd.prog 4:=⟨Tryd.isAgg4,Tryd.sizeOf4⟩
instance : ZeroVal Tryd.prog 4 (.bool false):=⟨Tryd.zeroValue4⟩
instance : OneCell Tryd.prog 9:=⟨Tryd.isAgg9,Tryd.sizeOf9⟩
instance : IsStr Tryd.prog 9:=⟨Tryd.underlying9⟩
instance : OneCell Tryd.prog 22:=⟨Tryd.isAgg22,Tryd.sizeOf22⟩
instance : ElemSize Tryd.prog 22 3:=⟨by kernel_rfl,fun w=>by have h : Tryd.prog.elem 22 = 50:=(by kernel_rfl); rw [h]; exact Tryd.sizeOf50 w⟩
instance : OneCell Tryd.prog 23:=⟨Tryd.isAgg23,Tryd.sizeOf23⟩
instance : ElemSize Tryd.prog 23 4:=⟨by kernel_rfl,fun w=>by have h : Tryd.prog.elem 23 = 33:=(by kernel_rfl); rw [h]; exact Tryd.sizeOf33 w⟩
instance : ElemInfo Tryd.prog 23 33 4 56 [.string ByteArray.empty,.int .i64 0,.int .i64 0,.slice none 0 0]:=⟨by kernel_rfl,by kernel_rfl⟩
instance : AggSize Tryd.prog 25 2:=⟨Tryd.isAgg25,Tryd.sizeOf25⟩
instance : FieldOff Tryd.prog 25 0 0:=⟨fun b o w=>by simp [Instr.fieldAt,Instr.sureAddr,Tryd.runUnderlying25,fieldPlace,Tryd.sizeOf22,Addr.add_lit]⟩
instance : FieldOff Tryd.prog 25 1 1:=⟨fun b o w=>by simp [Instr.fieldAt,Instr.sureAddr,Tryd.runUnderlying25,fieldPlace,Tryd.sizeOf23,Addr.add_lit]⟩
instance : StructAt Tryd.prog 25 [.slice none 0 0,.slice none 0 0] [(0,1),(1,1)]:=⟨fun parts cells h=>by
 have e : Tryd.prog.built 25 parts = Instr.fill (([(0,1),(1,1)] : List (Nat × Nat)).toArray[·]?) (#[.slice none 0 0,.slice none 0 0] : Array Value) parts:=by kernel_rfl
 rw [e]; simpa using h⟩
instance : ZeroVal Tryd.prog 25 (.agg #[.slice none 0 0,.slice none 0 0]):=⟨Tryd.zeroValue25⟩
instance : AggSize Tryd.prog 28 2:=⟨Tryd.isAgg28,Tryd.sizeOf28⟩
instance : FieldOff Tryd.prog 28 0 0:=⟨fun b o w=>by simp [Instr.fieldAt,Instr.sureAddr,Tryd.runUnderlying28,fieldPlace,Tryd.sizeOf3,Addr.add_lit]⟩
instance : StructAt Tryd.prog 28 [.int .i64 0,.int .i64 0] [(0,1),(1,1)]:=⟨fun parts cells h=>by
 have e : Tryd.prog.built 28 parts = Instr.fill (([(0,1),(1,1)] : List (Nat × Nat)).toArray[·]?) (#[.int .i64 0,.int .i64 0] : Array Value) parts:=by kernel_rfl
 rw [e]; simpa using h⟩
instance : ZeroVal Tryd.prog 28 (.agg #[.int .i64 0,.int .i64 0]):=⟨Tryd.zeroValue28⟩
instance : OneCell Tryd.prog 31:=⟨Tryd.isAgg31,Tryd.sizeOf31⟩
instance : ElemSize Tryd.prog 31 6:=⟨by kernel_rfl,fun w=>by have h : Tryd.prog.elem 31 = 47:=(by kernel_rfl); rw [h]; exact Tryd.sizeOf47 w⟩
instance : ElemInfo Tryd.prog 31 47 6 96 [.slice none 0 0,.slice none 0 0,.int .i64 0,.bool false,.int .i64 0,.slice none 0 0]:=⟨by kernel_rfl,by kernel_rfl⟩
instance : AggSize Tryd.prog 33 4:=⟨Tryd.isAgg33,Tryd.sizeOf33⟩
instance : FieldOff Tryd.prog 33 0 0:=⟨fun b o w=>by simp [Instr.fieldAt,Instr.sureAddr,Tryd.runUnderlying33,fieldPlace,Tryd.sizeOf9,Addr.add_lit]⟩
instance : FieldOff Tryd.prog 33 1 1:=⟨fun b o w=>by simp [Instr.fieldAt,Instr.sureAddr,Tryd.runUnderlying33,fieldPlace,Tryd.sizeOf3,Addr.add_lit]⟩
instance : FieldOff Tryd.prog 33 2 2:=⟨fun b o w=>by simp [Instr.fieldAt,Instr.sureAddr,Tryd.runUnderlying33,fieldPlace,Tryd.sizeOf3,Addr.add_lit]⟩
instance : FieldOff Tryd.prog 33 3 3:=⟨fun b o w=>by simp [Instr.fieldAt,Instr.sureAddr,Tryd.runUnderlying33,fieldPlace,Tryd.sizeOf31,Addr.add_lit]⟩
instance : StructAt Tryd.prog 33 [.string ByteArray.empty,.int .i64 0,.int .i64 0,.slice none 0 0] [(0,1),(1,1),(2,1),(3,1)]:=⟨fun parts cells h=>by
 have e : Tryd.prog.built 33 parts = Instr.fill (([(0,1),(1,1),(2,1),(3,1)] : List (Nat × Nat)).toArray[·]?) (#[.string ByteArray.empty,.int .i64 0,.int .i64 0,.slice none 0 0] : Array Value) parts:=by kernel_rfl
 rw [e]; simpa using h⟩
instance : ZeroVal Tryd.prog 33 (.agg #[.string ByteArray.empty,.int .i64 0,.int .i64 0,.slice none 0 0]):=⟨Tryd.zeroValue33⟩
instance : AggSize Tryd.prog 37 2:=⟨Tryd.isAgg37,Tryd.sizeOf37⟩
instance : FieldOff Tryd.prog 37 0 0:=⟨fun b o w=>by simp [Instr.fieldAt,Instr.sureAddr,Tryd.runUnderlying37,fieldPlace,Tryd.sizeOf4,Addr.add_lit]⟩
instance : FieldOff Tryd.prog 37 1 1:=⟨fun b o w=>by simp [Instr.fieldAt,Instr.sureAddr,Tryd.runUnderlying37,fieldPlace,Tryd.sizeOf3,Addr.add_lit]⟩
instance : StructAt Tryd.prog 37 [.bool false,.int .i64 0] [(0,1),(1,1)]:=⟨fun parts cells h=>by
 have e : Tryd.prog.built 37 parts = Instr.fill (([(0,1),(1,1)] : List (Nat × Nat)).toArray[·]?) (#[.bool false,.int .i64 0] : Array Value) parts:=by kernel_rfl
 rw [e]; simpa using h⟩
instance : ZeroVal Tryd.prog 37 (.agg #[.bool false,.int .i64 0]):=⟨Tryd.zeroValue37⟩
instance : OneCell Tryd.prog 38:=⟨Tryd.isAgg38,Tryd.sizeOf38⟩
instance : ElemSize Tryd.prog 38 2:=⟨by kernel_rfl,fun w=>by have h : Tryd.prog.elem 38 = 37:=(by kernel_rfl); rw [h]; exact Tryd.sizeOf37 w⟩
instance : ElemInfo Tryd.prog 38 37 2 16 [.bool false,.int .i64 0]:=⟨by kernel_rfl,by kernel_rfl⟩
instance : AggSize Tryd.prog 40 8:=⟨Tryd.isAgg40,Tryd.sizeOf40⟩
instance : FieldOff Tryd.prog 40 0 0:=⟨fun b o w=>by simp [Instr.fieldAt,Instr.sureAddr,Tryd.runUnderlying40,fieldPlace,Tryd.sizeOf3,Addr.add_lit]⟩
instance : FieldOff Tryd.prog 40 1 1:=⟨fun b o w=>by simp [Instr.fieldAt,Instr.sureAddr,Tryd.runUnderlying40,fieldPlace,Tryd.sizeOf3,Addr.add_lit]⟩
instance : FieldOff Tryd.prog 40 2 2:=⟨fun b o w=>by simp [Instr.fieldAt,Instr.sureAddr,Tryd.runUnderlying40,fieldPlace,Tryd.sizeOf37,Addr.add_lit]⟩
instance : FieldOff Tryd.prog 40 3 4:=⟨fun b o w=>by simp [Instr.fieldAt,Instr.sureAddr,Tryd.runUnderlying40,fieldPlace,Tryd.sizeOf37,Addr.add_lit]⟩
instance : FieldOff Tryd.prog 40 4 6:=⟨fun b o w=>by simp [Instr.fieldAt,Instr.sureAddr,Tryd.runUnderlying40,fieldPlace,Tryd.sizeOf3,Addr.add_lit]⟩
instance : FieldOff Tryd.prog 40 5 7:=⟨fun b o w=>by simp [Instr.fieldAt,Instr.sureAddr,Tryd.runUnderlying40,fieldPlace,Tryd.sizeOf38,Addr.add_lit]⟩
instance : StructAt Tryd.prog 40 [.int .i64 0,.int .i64 0,.bool false,.int .i64 0,.bool false,.int .i64 0,.int .i64 0,.slice none 0 0] [(0,1),(1,1),(2,2),(4,2),(6,1),(7,1)]:=⟨fun parts cells h=>by
 have e : Tryd.prog.built 40 parts = Instr.fill (([(0,1),(1,1),(2,2),(4,2),(6,1),(7,1)] : List (Nat × Nat)).toArray[·]?) (#[.int .i64 0,.int .i64 0,.bool false,.int .i64 0,.bool false,.int .i64 0,.int .i64 0,.slice none 0 0] : Array Value) parts:=by kernel_rfl
 rw [e]; simpa using h⟩
instance : ZeroVal Tryd.prog 40 (.agg #[.int .i64 0,.int .i64 0,.bool false,.int .i64 0,.bool false,.int .i64 0,.int .i64 0,.slice none 0 0]):=⟨Tryd.zeroValue40⟩
instance : OneCell Tryd.prog 41:=⟨Tryd.isAgg41,Tryd.sizeOf41⟩
instance : ElemSize Tryd.prog 41 8:=⟨by kernel_rfl,fun w=>by have h : Tryd.prog.elem 41 = 40:=(by kernel_rfl); rw [h]; exact Tryd.sizeOf40 w⟩
instance : ElemInfo Tryd.prog 41 40 8 80 [.int .i64 0,.int .i64 0,.bool false,.int .i64 0,.bool false,.int .i64 0,.int .i64 0,.slice none 0 0]:=⟨by kernel_rfl,by kernel_rfl⟩
instance : OneCell Tryd.prog 42:=⟨Tryd.isAgg42,Tryd.sizeOf42⟩
instance : ElemSize Tryd.prog 42 2:=⟨by kernel_rfl,fun w=>by have h : Tryd.prog.elem 42 = 68:=(by kernel_rfl); rw [h]; exact Tryd.sizeOf68 w⟩
instance : OneCell Tryd.prog 43:=⟨Tryd.isAgg43,Tryd.sizeOf43⟩
instance : ElemSize Tryd.prog 43 1:=⟨by kernel_rfl,fun w=>by have h : Tryd.prog.elem 43 = 3:=(by kernel_rfl); rw [h]; exact Tryd.sizeOf3 w⟩
instance : ElemInfo Tryd.prog 43 3 1 8 [.int .i64 0]:=⟨by kernel_rfl,by kernel_rfl⟩
instance : ZeroVal Tryd.prog 43 (.slice none 0 0):=⟨Tryd.zeroValue43⟩
instance : AggSize Tryd.prog 45 4:=⟨Tryd.isAgg45,Tryd.sizeOf45⟩
instance : FieldOff Tryd.prog 45 0 0:=⟨fun b o w=>by simp [Instr.fieldAt,Instr.sureAddr,Tryd.runUnderlying45,fieldPlace,Tryd.sizeOf3,Addr.add_lit]⟩
instance : FieldOff Tryd.prog 45 1 1:=⟨fun b o w=>by simp [Instr.fieldAt,Instr.sureAddr,Tryd.runUnderlying45,fieldPlace,Tryd.sizeOf37,Addr.add_lit]⟩
instance : FieldOff Tryd.prog 45 2 3:=⟨fun b o w=>by simp [Instr.fieldAt,Instr.sureAddr,Tryd.runUnderlying45,fieldPlace,Tryd.sizeOf43,Addr.add_lit]⟩
instance : StructAt Tryd.prog 45 [.int .i64 0,.bool false,.int .i64 0,.slice none 0 0] [(0,1),(1,2),(3,1)]:=⟨fun parts cells h=>by
 have e : Tryd.prog.built 45 parts = Instr.fill (([(0,1),(1,2),(3,1)] : List (Nat × Nat)).toArray[·]?) (#[.int .i64 0,.bool false,.int .i64 0,.slice none 0 0] : Array Value) parts:=by kernel_rfl
 rw [e]; simpa using h⟩
instance : AggSize Tryd.prog 47 6:=⟨Tryd.isAgg47,Tryd.sizeOf47⟩
instance : FieldOff Tryd.prog 47 0 0:=⟨fun b o w=>by simp [Instr.fieldAt,Instr.sureAddr,Tryd.runUnderlying47,fieldPlace,Tryd.sizeOf42,Addr.add_lit]⟩
instance : FieldOff Tryd.prog 47 1 1:=⟨fun b o w=>by simp [Instr.fieldAt,Instr.sureAddr,Tryd.runUnderlying47,fieldPlace,Tryd.sizeOf41,Addr.add_lit]⟩
instance : FieldOff Tryd.prog 47 2 2:=⟨fun b o w=>by simp [Instr.fieldAt,Instr.sureAddr,Tryd.runUnderlying47,fieldPlace,Tryd.sizeOf45,Addr.add_lit]⟩
instance : StructAt Tryd.prog 47 [.slice none 0 0,.slice none 0 0,.int .i64 0,.bool false,.int .i64 0,.slice none 0 0] [(0,1),(1,1),(2,4)]:=⟨fun parts cells h=>by
 have e : Tryd.prog.built 47 parts = Instr.fill (([(0,1),(1,1),(2,4)] : List (Nat × Nat)).toArray[·]?) (#[.slice none 0 0,.slice none 0 0,.int .i64 0,.bool false,.int .i64 0,.slice none 0 0] : Array Value) parts:=by kernel_rfl
 rw [e]; simpa using h⟩
instance : ZeroVal Tryd.prog 47 (.agg #[.slice none 0 0,.slice none 0 0,.int .i64 0,.bool false,.int .i64 0,.slice none 0 0]):=⟨Tryd.zeroValue47⟩
instance : ElemSize Tryd.prog 48 1:=⟨by kernel_rfl,fun w=>by have h : Tryd.prog.elem 48 = 9:=(by kernel_rfl); rw [h]; exact Tryd.sizeOf9 w⟩
instance : ElemInfo Tryd.prog 48 9 1 16 [.string ByteArray.empty]:=⟨by kernel_rfl,by kernel_rfl⟩
instance : AggSize Tryd.prog 50 3:=⟨Tryd.isAgg50,Tryd.sizeOf50⟩
instance : FieldOff Tryd.prog 50 0 0:=⟨fun b o w=>by simp [Instr.fieldAt,Instr.sureAddr,Tryd.runUnderlying50,fieldPlace,Tryd.sizeOf9,Addr.add_lit]⟩
instance : FieldOff Tryd.prog 50 1 1:=⟨fun b o w=>by simp [Instr.fieldAt,Instr.sureAddr,Tryd.runUnderlying50,fieldPlace,Tryd.sizeOf3,Addr.add_lit]⟩
instance : FieldOff Tryd.prog 50 2 2:=⟨fun b o w=>by simp [Instr.fieldAt,Instr.sureAddr,Tryd.runUnderlying50,fieldPlace,Tryd.sizeOf43,Addr.add_lit]⟩
instance : ZeroVal Tryd.prog 50 (.agg #[.string ByteArray.empty,.int .i64 0,.slice none 0 0]):=⟨Tryd.zeroValue50⟩
instance : OneCell Tryd.prog 54:=⟨Tryd.isAgg54,Tryd.sizeOf54⟩
instance : ElemSize Tryd.prog 54 1:=⟨by kernel_rfl,fun w=>by have h : Tryd.prog.elem 54 = 43:=(by kernel_rfl); rw [h]; exact Tryd.sizeOf43 w⟩
instance : ElemInfo Tryd.prog 54 43 1 24 [.slice none 0 0]:=⟨by kernel_rfl,by kernel_rfl⟩
instance : AggSize Tryd.prog 56 7:=⟨Tryd.isAgg56,Tryd.sizeOf56⟩
instance : FieldOff Tryd.prog 56 0 0:=⟨fun b o w=>by simp [Instr.fieldAt,Instr.sureAddr,Tryd.runUnderlying56,fieldPlace,Tryd.sizeOf25,Addr.add_lit]⟩
instance : FieldOff Tryd.prog 56 1 2:=⟨fun b o w=>by simp [Instr.fieldAt,Instr.sureAddr,Tryd.runUnderlying56,fieldPlace,Tryd.sizeOf33,Addr.add_lit]⟩
instance : FieldOff Tryd.prog 56 2 6:=⟨fun b o w=>by simp [Instr.fieldAt,Instr.sureAddr,Tryd.runUnderlying56,fieldPlace,Tryd.sizeOf54,Addr.add_lit]⟩
instance : StructAt Tryd.prog 56 [.slice none 0 0,.slice none 0 0,.string ByteArray.empty,.int .i64 0,.int .i64 0,.slice none 0 0,.slice none 0 0] [(0,2),(2,4),(6,1)]:=⟨fun parts cells h=>by
 have e : Tryd.prog.built 56 parts = Instr.fill (([(0,2),(2,4),(6,1)] : List (Nat × Nat)).toArray[·]?) (#[.slice none 0 0,.slice none 0 0,.string ByteArray.empty,.int .i64 0,.int .i64 0,.slice none 0 0,.slice none 0 0] : Array Value) parts:=by kernel_rfl
 rw [e]; simpa using h⟩
instance : ZeroVal Tryd.prog 56 (.agg #[.slice none 0 0,.slice none 0 0,.string ByteArray.empty,.int .i64 0,.int .i64 0,.slice none 0 0,.slice none 0 0]):=⟨Tryd.zeroValue56⟩
instance : OneCell Tryd.prog 58:=⟨Tryd.isAgg58,Tryd.sizeOf58⟩
instance : ElemSize Tryd.prog 62 2:=⟨by kernel_rfl,fun w=>by have h : Tryd.prog.elem 62 = 70:=(by kernel_rfl); rw [h]; exact Tryd.sizeOf70 w⟩
instance : ElemInfo Tryd.prog 62 70 2 16 [.int .i64 0,.int .i64 0]:=⟨by kernel_rfl,by kernel_rfl⟩
instance : AggSize Tryd.prog 68 2:=⟨Tryd.isAgg68,Tryd.sizeOf68⟩
instance : FieldOff Tryd.prog 68 0 0:=⟨fun b o w=>by simp [Instr.fieldAt,Instr.sureAddr,Tryd.runUnderlying68,fieldPlace,Tryd.sizeOf3,Addr.add_lit]⟩
instance : FieldOff Tryd.prog 68 1 1:=⟨fun b o w=>by simp [Instr.fieldAt,Instr.sureAddr,Tryd.runUnderlying68,fieldPlace,Tryd.sizeOf38,Addr.add_lit]⟩
instance : ZeroVal Tryd.prog 68 (.agg #[.int .i64 0,.slice none 0 0]):=⟨Tryd.zeroValue68⟩
instance : FieldOff Tryd.prog 70 0 0:=⟨fun b o w=>by simp [Instr.fieldAt,Instr.sureAddr,Tryd.runUnderlying70,fieldPlace,Tryd.sizeOf3,Addr.add_lit]⟩
instance : FieldOff Tryd.prog 70 1 1:=⟨fun b o w=>by simp [Instr.fieldAt,Instr.sureAddr,Tryd.runUnderlying70,fieldPlace,Tryd.sizeOf3,Addr.add_lit]⟩
instance : StructAt Tryd.prog 70 [.int .i64 0,.int .i64 0] [(0,1),(1,1)]:=⟨fun parts cells h=>by
 have e : Tryd.prog.built 70 parts = Instr.fill (([(0,1),(1,1)] : List (Nat × Nat)).toArray[·]?) (#[.int .i64 0,.int .i64 0] : Array Value) parts:=by kernel_rfl
 rw [e]; simpa using h⟩
instance : OneCell Tryd.prog 72:=⟨Tryd.isAgg72,Tryd.sizeOf72⟩
instance : OneCell Tryd.prog 73:=⟨Tryd.isAgg73,Tryd.sizeOf73⟩
instance : ElemSize Tryd.prog 73 2:=⟨by kernel_rfl,fun w=>by have h : Tryd.prog.elem 73 = 76:=(by kernel_rfl); rw [h]; exact Tryd.sizeOf76 w⟩
instance : ElemInfo Tryd.prog 73 76 2 16 [.int .i64 0,.int .i64 0]:=⟨by kernel_rfl,by kernel_rfl⟩
instance : AggSize Tryd.prog 76 2:=⟨Tryd.isAgg76,Tryd.sizeOf76⟩
instance : FieldOff Tryd.prog 76 0 0:=⟨fun b o w=>by simp [Instr.fieldAt,Instr.sureAddr,Tryd.runUnderlying76,fieldPlace,Tryd.sizeOf3,Addr.add_lit]⟩
instance : FieldOff Tryd.prog 76 1 1:=⟨fun b o w=>by simp [Instr.fieldAt,Instr.sureAddr,Tryd.runUnderlying76,fieldPlace,Tryd.sizeOf3,Addr.add_lit]⟩
instance : StructAt Tryd.prog 76 [.int .i64 0,.int .i64 0] [(0,1),(1,1)]:=⟨fun parts cells h=>by
 have e : Tryd.prog.built 76 parts = Instr.fill (([(0,1),(1,1)] : List (Nat × Nat)).toArray[·]?) (#[.int .i64 0,.int .i64 0] : Array Value) parts:=by kernel_rfl
 rw [e]; simpa using h⟩
instance : ZeroVal Tryd.prog 76 (.agg #[.int .i64 0,.int .i64 0]):=⟨Tryd.zeroValue76⟩
instance : FieldOff Tryd.prog 78 0 0:=⟨fun b o w=>by simp [Instr.fieldAt,Instr.sureAddr,Tryd.runUnderlying78,fieldPlace,Tryd.sizeOf33,Addr.add_lit]⟩
instance : FieldOff Tryd.prog 78 1 4:=⟨fun b o w=>by simp [Instr.fieldAt,Instr.sureAddr,Tryd.runUnderlying78,fieldPlace,Tryd.sizeOf43,Addr.add_lit]⟩
instance : FieldOff Tryd.prog 78 2 5:=⟨fun b o w=>by simp [Instr.fieldAt,Instr.sureAddr,Tryd.runUnderlying78,fieldPlace,Tryd.sizeOf73,Addr.add_lit]⟩
instance : StructAt Tryd.prog 78 [.string ByteArray.empty,.int .i64 0,.int .i64 0,.slice none 0 0,.slice none 0 0,.slice none 0 0] [(0,4),(4,1),(5,1)]:=⟨fun parts cells h=>by
 have e : Tryd.prog.built 78 parts = Instr.fill (([(0,4),(4,1),(5,1)] : List (Nat × Nat)).toArray[·]?) (#[.string ByteArray.empty,.int .i64 0,.int .i64 0,.slice none 0 0,.slice none 0 0,.slice none 0 0] : Array Value) parts:=by kernel_rfl
 rw [e]; simpa using h⟩
instance : OneCell Tryd.prog 91:=⟨Tryd.isAgg91,Tryd.sizeOf91⟩
instance : ElemSize Tryd.prog 91 1:=⟨by kernel_rfl,fun w=>by have h : Tryd.prog.elem 91 = 4:=(by kernel_rfl); rw [h]; exact Tryd.sizeOf4 w⟩
instance : ElemInfo Tryd.prog 91 4 1 1 [.bool false]:=⟨by kernel_rfl,by kernel_rfl⟩
instance : ZeroVal Tryd.prog 91 (.slice none 0 0):=⟨Tryd.zeroValue91⟩
instance : OneCell Tryd.prog 92:=⟨Tryd.isAgg92,Tryd.sizeOf92⟩
instance : ZeroVal Tryd.prog 92 (.nilFunc):=⟨Tryd.zeroValue92⟩
instance : ArrOf Tryd.prog 100 4 1:=⟨by kernel_rfl,by kernel_rfl,fun w=>by have h : Tryd.prog.elem 100 = 3:=(by kernel_rfl); rw [h]; exact Tryd.sizeOf3 w⟩
instance : AggSize Tryd.prog 106 3:=⟨Tryd.isAgg106,Tryd.sizeOf106⟩
instance : FieldOff Tryd.prog 106 0 0:=⟨fun b o w=>by simp [Instr.fieldAt,Instr.sureAddr,Tryd.runUnderlying106,fieldPlace,Tryd.sizeOf4,Addr.add_lit]⟩
instance : FieldOff Tryd.prog 106 1 1:=⟨fun b o w=>by simp [Instr.fieldAt,Instr.sureAddr,Tryd.runUnderlying106,fieldPlace,Tryd.sizeOf4,Addr.add_lit]⟩
instance : FieldOff Tryd.prog 106 2 2:=⟨fun b o w=>by simp [Instr.fieldAt,Instr.sureAddr,Tryd.runUnderlying106,fieldPlace,Tryd.sizeOf4,Addr.add_lit]⟩
instance : StructAt Tryd.prog 106 [.bool false,.bool false,.bool false] [(0,1),(1,1),(2,1)]:=⟨fun parts cells h=>by
 have e : Tryd.prog.built 106 parts = Instr.fill (([(0,1),(1,1),(2,1)] : List (Nat × Nat)).toArray[·]?) (#[.bool false,.bool false,.bool false] : Array Value) parts:=by kernel_rfl
 rw [e]; simpa using h⟩
instance : ZeroVal Tryd.prog 106 (.agg #[.bool false,.bool false,.bool false]):=⟨Tryd.zeroValue106⟩
instance : ElemSize Tryd.prog 120 1:=⟨by kernel_rfl,fun w=>by have h : Tryd.prog.elem 120 = 58:=(by kernel_rfl); rw [h]; exact Tryd.sizeOf58 w⟩
instance : ElemInfo Tryd.prog 120 58 1 8 [.nilFunc]:=⟨by kernel_rfl,by kernel_rfl⟩
instance : EnterOk Tryd.prog 4:=⟨Tryd.call4⟩
instance : EnterOk Tryd.prog 5:=⟨Tryd.call5⟩
instance : EnterOk Tryd.prog 6:=⟨Tryd.call6⟩
instance : EnterOk Tryd.prog 7:=⟨Tryd.call7⟩
instance : EnterOk Tryd.prog 8:=⟨Tryd.call8⟩
instance : EnterOk Tryd.prog 9:=⟨Tryd.call9⟩
instance : EnterOk Tryd.prog 10:=⟨Tryd.call10⟩
instance : EnterOk Tryd.prog 11:=⟨Tryd.call11⟩
instance : EnterOk Tryd.prog 12:=⟨Tryd.call12⟩
instance : EnterOk Tryd.prog 13:=⟨Tryd.call13⟩
instance : EnterOk Tryd.prog 14:=⟨Tryd.call14⟩
instance : EnterOk Tryd.prog 15:=⟨Tryd.call15⟩
instance : EnterOk Tryd.prog 16:=⟨Tryd.call16⟩
instance : EnterOk Tryd.prog 17:=⟨Tryd.call17⟩
instance : EnterOk Tryd.prog 18:=⟨Tryd.call18⟩
instance : EnterOk Tryd.prog 19:=⟨Tryd.call19⟩
instance : EnterOk Tryd.prog 20:=⟨Tryd.call20⟩
instance : EnterOk Tryd.prog 21:=⟨Tryd.call21⟩
instance : EnterOk Tryd.prog 22:=⟨Tryd.call22⟩
instance : EnterOk Tryd.prog 23:=⟨Tryd.call23⟩
instance : EnterOk Tryd.prog 24:=⟨Tryd.call24⟩
instance : EnterOk Tryd.prog 25:=⟨Tryd.call25⟩
instance : EnterOk Tryd.prog 26:=⟨Tryd.call26⟩
instance : EnterOk Tryd.prog 27:=⟨Tryd.call27⟩
instance : EnterOk Tryd.prog 28:=⟨Tryd.call28⟩
instance : EnterOk Tryd.prog 29:=⟨Tryd.call29⟩
instance : EnterOk Tryd.prog 30:=⟨Tryd.call30⟩
instance : EnterOk Tryd.prog 31:=⟨Tryd.call31⟩
instance : EnterOk Tryd.prog 32:=⟨Tryd.call32⟩
instance : EnterOk Tryd.prog 33:=⟨Tryd.call33⟩
instance : EnterOk Tryd.prog 34:=⟨Tryd.call34⟩
instance : EnterOk Tryd.prog 35:=⟨Tryd.call35⟩
instance : EnterOk Tryd.prog 36:=⟨Tryd.call36⟩
instance : EnterOk Tryd.prog 37:=⟨Tryd.call37⟩
instance : EnterOk Tryd.prog 38:=⟨Tryd.call38⟩
instance : EnterOk Tryd.prog 39:=⟨Tryd.call39⟩
instance : EnterOk Tryd.prog 40:=⟨Tryd.call40⟩
instance : EnterOk Tryd.prog 42:=⟨Tryd.call42⟩
instance : EnterOk Tryd.prog 43:=⟨Tryd.call43⟩
instance : EnterOk Tryd.prog 44:=⟨Tryd.call44⟩
instance : EnterOk Tryd.prog 45:=⟨Tryd.call45⟩
instance : EnterOk Tryd.prog 46:=⟨Tryd.call46⟩
instance : EnterOk Tryd.prog 47:=⟨Tryd.call47⟩
instance : EnterOk Tryd.prog 48:=⟨Tryd.call48⟩
instance : EnterOk Tryd.prog 49:=⟨Tryd.call49⟩
instance : EnterOk Tryd.prog 50:=⟨Tryd.call50⟩
instance : EnterOk Tryd.prog 51:=⟨Tryd.call51⟩
instance : EnterOk Tryd.prog 52:=⟨Tryd.call52⟩
instance : EnterOk Tryd.prog 53:=⟨Tryd.call53⟩
instance : EnterOk Tryd.prog 54:=⟨Tryd.call54⟩
instance : EnterOk Tryd.prog 55:=⟨Tryd.call55⟩
instance : EnterOk Tryd.prog 56:=⟨Tryd.call56⟩
instance : EnterOk Tryd.prog 59:=⟨Tryd.call59⟩
instance : EnterOk Tryd.prog 60:=⟨Tryd.call60⟩
instance : EnterOk Tryd.prog 61:=⟨Tryd.call61⟩
instance : EnterOk Tryd.prog 62:=⟨Tryd.call62⟩
instance (a b : ByteArray) : EqVal Tryd.prog 9 (.string a) (.string b) (a.toList == b.toList):=⟨fun _ _ _ _=>by rw [eqGuard_at_string]; rfl,fun w=>by simp [go_sem],fun w=>by simp [go_sem]⟩
theorem eq_struct_28 (x0 y0 : Int) (x1 y1 : Int) (w : World) : (binOp .eql 28 (.agg #[.int .i64 x0,.int .i64 x1]) (.agg #[.int .i64 y0,.int .i64 y1])).run Tryd.prog w = .ok (.bool (decide (x0 = y0) && decide (x1 = y1))) w:=by
 simp [go_sem]
 (repeat' split) <;> simp_all
theorem ne_struct_28 (x0 y0 : Int) (x1 y1 : Int) (w : World) : (binOp .neq 28 (.agg #[.int .i64 x0,.int .i64 x1]) (.agg #[.int .i64 y0,.int .i64 y1])).run Tryd.prog w = .ok (.bool (!(decide (x0 = y0) && decide (x1 = y1)))) w:=by
 simp [go_sem]
 (repeat' split) <;> simp_all
instance (x0 y0 : Int) (x1 y1 : Int) : EqVal Tryd.prog 28 (.agg #[.int .i64 x0,.int .i64 x1]) (.agg #[.int .i64 y0,.int .i64 y1]) (decide (x0 = y0) && decide (x1 = y1)):=⟨fun op x y w=>by unfold eqGuard; cases op <;> simp [go_sem],eq_struct_28 _ _ _ _,ne_struct_28 _ _ _ _⟩
theorem eq_struct_37 (x0 y0 : Bool) (x1 y1 : Int) (w : World) : (binOp .eql 37 (.agg #[.bool x0,.int .i64 x1]) (.agg #[.bool y0,.int .i64 y1])).run Tryd.prog w = .ok (.bool ((x0 == y0) && decide (x1 = y1))) w:=by
 simp [go_sem]
 (repeat' split) <;> simp_all
theorem ne_struct_37 (x0 y0 : Bool) (x1 y1 : Int) (w : World) : (binOp .neq 37 (.agg #[.bool x0,.int .i64 x1]) (.agg #[.bool y0,.int .i64 y1])).run Tryd.prog w = .ok (.bool (!((x0 == y0) && decide (x1 = y1)))) w:=by
 simp [go_sem]
 (repeat' split) <;> simp_all
instance (x0 y0 : Bool) (x1 y1 : Int) : EqVal Tryd.prog 37 (.agg #[.bool x0,.int .i64 x1]) (.agg #[.bool y0,.int .i64 y1]) ((x0 == y0) && decide (x1 = y1)):=⟨fun op x y w=>by unfold eqGuard; cases op <;> simp [go_sem],eq_struct_37 _ _ _ _,ne_struct_37 _ _ _ _⟩
end Go.Proofs.YtdbljcahlpkgdaaDoor
namespace Go.Proofs.YtdbljcahlpkgdaaDoor
open Go Go.RowKit
def firstI (f : Nat→Int) (n : Nat) : Int × Nat:=match (List.range n).find? (fun i=>!decide (f i = 0)) with|some i=>(f i,i)|none=>(0,0)
theorem firstI_hit {f : Nat→Int} {n i : Nat} (h : ∀ j,j < i→f j = 0) (hi : i < n) (hf : f i ≠ 0) : firstI f n = (f i,i):=by
 have e : (List.range n).find? (fun i=>!decide (f i = 0)) = some i:=by
  rw [List.find?_eq_some_iff_append]
  refine ⟨by simp [hf],List.range i,(List.range' (i + 1) (n - (i + 1))),?_,fun a ha=>by simp [h a (by simpa using ha)]⟩
  apply List.ext_getElem
  ·simp; omega
  ·intro k h1 h2
   simp only [List.getElem_range,List.getElem_append,List.length_range]
   split
   ·simp
   ·rename_i hk
    by_cases hk2 : k = i
    ·subst hk2; simp
    ·rw [List.getElem_cons]
     rw [dif_neg (by omega)]
     simp only [List.getElem_range']
     omega
 unfold firstI
 rw [e]
theorem firstI_none {f : Nat→Int} {n : Nat} (h : ∀ j,j < n→f j = 0) : firstI f n = (0,0):=by
 unfold firstI
 rw [List.find?_eq_none.2 (fun i hi=>by simp [h i (by simpa using hi)])]
theorem firstI_zero {f : Nat→Int} {n : Nat} (h : (firstI f n).1 = 0) : ∀ j,j < n→f j = 0:=by
 intro j hj
 unfold firstI at h
 split at h
 ·rename_i i hi
  have:=List.find?_some hi
  simp at this
  exact absurd h this
 ·rename_i hi
  have:=List.find?_eq_none.1 hi j (by simpa using hj)
  simpa using this
def within (n lo hi : Int) : Bool:=decide (lo ≤ n) && decide (n ≤ hi)
def byteAt (s : ByteArray) (i : Nat) : Int:=if h : i < s.size then ((s[i]'h).toNat : Int) else 0
def okCh (i : Nat) (c : Int) : Bool:=(((decide (97 ≤ c) && decide (c ≤ 122)) || (decide (65 ≤ c) && decide (c ≤ 90))) || decide (c = 95)) || ((decide (0 < (i : Int)) && decide (48 ≤ c)) && decide (c ≤ 57))
def nameOk (s : ByteArray) : Bool:=if (s.size : Int) < 1 ∨ 12 < (s.size : Int) then false else decide (∀ i,i < s.size→okCh i (byteAt s i) = true)
def hasName (l : List ByteArray) (s : ByteArray) : Bool:=l.any fun t=>s.toList == t.toList
def valErr (regs : Int) (v : LVal) : Int:=if v.reg && !within v.n 0 (regs - 1) then 3 else 0
def dstErr (regs n : Int) : Int:=if !within n 0 (regs - 1) then 3 else 0
def at0 {α : Type} (l : List α) (f : α→Int) (i : Nat) : Int:=match l[i]? with|some x=>f x|none=>0
def aheadIn (i : Nat) (rows : List (List Int)) (to : Int) : List (List Int):=rows.modify to.toNat (·++[(i : Int)])
def aheadTo (bs : List LBlock) : Nat→List (List Int)
 | 0=>List.replicate bs.length []
 | i + 1=>(match bs[i]? with|some b=>b.to|none=>[]).foldl (aheadIn i) (aheadTo bs i)
def aheadL (bs : List LBlock) : List (List Int):=aheadTo bs bs.length
def phiE (regs : Int) (block np : Nat) (p : LPhi) : Int :=
 if (block : Int) = 0 then 5 else if dstErr regs p.dst ≠ 0 then dstErr regs p.dst
 else if (p.src.length : Int) ≠ np then 9 else (firstI (at0 p.src (valErr regs)) p.src.length).1
def phiErr (regs : Int) (bs : List LBlock) (block : Nat) (p : LPhi) : Int:=phiE regs block ((aheadL bs)[block]?.getD []).length p
def shape (op : Int) : Bool × Bool × Bool :=
 if ((op = 1 ∨ op = 16) ∨ op = 17) ∨ op = 18 then (true,true,false) else if 2 ≤ op∧op ≤ 15 then (true,true,true) else if op = 19 then (false,true,true)
 else if op = 20 ∨ op = 21 then (true,false,false) else if op = 22 then (false,true,false) else (false,false,false)
def noVal (v : LVal) : Bool:=(v.reg == false) && decide (v.n = 0)
def callErr (fs : List LFunc) (regs : Int) (x : LIns) : Int :=
 if x.op ≠ 20 then 0 else if !within x.fn 0 (fs.length - 1) then 3 else if (x.args.length : Int) ≠ at0 fs (·.params) x.fn.toNat then 9 else (firstI (at0 x.args (valErr regs)) x.args.length).1
def strayB (x : LIns) : Bool :=
 (((!(shape x.op).1 && !decide (x.dst = -1)) || (!(shape x.op).2.1 && !noVal x.a)) || (!(shape x.op).2.2 && !noVal x.b)) || (!decide (x.op = 20) && (!decide (x.fn = 0) || decide (0 < (x.args.length : Int))))
def insErr (fs : List LFunc) (regs : Int) (x : LIns) : Int :=
 if !within x.op 1 22 then 4 else if strayB x then 5
 else if ((shape x.op).1 && !(decide (x.op = 20) && decide (x.dst = -1))) && !decide (dstErr regs x.dst = 0) then dstErr regs x.dst
 else if valErr regs x.a ≠ 0 then valErr regs x.a else if valErr regs x.b ≠ 0 then valErr regs x.b else callErr fs regs x
def endE (n : Nat) (regs kind : Int) (on : LVal) (to : List Int) : Int :=
 if !within kind 1 3 then 4 else if (to.length : Int) ≠ kind - 1 then 9 else if to.any (fun t=>!within t 1 (n - 1)) then 3
 else if (decide (kind = 3) && decide (to[0]?.getD 0 = to[1]?.getD 0)) || (decide (kind = 2) && !noVal on) then 5 else valErr regs on
def endErr (n : Nat) (regs : Int) (b : LBlock) : Int:=endE n regs b.kind b.on b.to
def blockErr (fs : List LFunc) (f : LFunc) (i : Nat) : Int:=match f.blocks[i]? with
 | some b=>if (firstI (at0 b.phis (phiErr f.regs f.blocks i)) b.phis.length).1 ≠ 0 then (firstI (at0 b.phis (phiErr f.regs f.blocks i)) b.phis.length).1 else (firstI (at0 b.list (insErr fs f.regs)) b.list.length).1
 | none=>0
def bodyErr (fs : List LFunc) (f : LFunc) : Int :=
 if (firstI (at0 f.blocks (endErr f.blocks.length f.regs)) f.blocks.length).1 ≠ 0 then (firstI (at0 f.blocks (endErr f.blocks.length f.regs)) f.blocks.length).1 else (firstI (blockErr fs f) f.blocks.length).1
def sizeTo (bs : List LBlock) (i : Nat) : Int:=((bs.take i).map fun b=>((b.phis.length + b.list.length : Nat) : Int)).sum
def sizeOfBs (bs : List LBlock) : Int:=(bs.map fun b=>((b.phis.length + b.list.length : Nat) : Int)).sum
def headErr (names : List ByteArray) (f : LFunc) : Int :=
 if !nameOk f.name then 12 else if hasName names f.name then 7 else if !within f.params 0 6 || !within f.regs f.params 100 then 3
 else if !within f.blocks.length 1 40 || decide (300 < sizeOfBs f.blocks) then 2 else 0
def totTo (l : List LGlobal) (i : Nat) : Int:=((l.take i).map (·.size)).sum
def globErr (names : List ByteArray) (tot : Int) (g : LGlobal) : Int :=
 if !nameOk g.name then 12 else if hasName names g.name then 7 else if !within g.size 1 200 then 3 else if g.size < (g.init.length : Int) then 9 else if 200 < tot + g.size then 10 else 0
def globAt (l : List LGlobal) (i : Nat) : Int:=at0 l (globErr ((l.take i).map (·.name)) (totTo l i)) i
def headAt (u : LUnit) (i : Nat) : Int:=at0 u.funcs (headErr (u.globals.map (·.name)++(u.funcs.take i).map (·.name))) i
def isMain (f : LFunc) : Bool:=f.name.toList == (ByteArray.mk #[109,97,105,110]).toList
def mainAt (fs : List LFunc) : Int:=match fs.findIdx? isMain with|some i=>(i : Int)|none=>-1
def checkL (u : LUnit) : Int × Int :=
 if 10 < (u.globals.length : Int) ∨ 10 < (u.funcs.length : Int) then (2,0)
 else if (firstI (globAt u.globals) u.globals.length).1 ≠ 0 then ((firstI (globAt u.globals) u.globals.length).1,(firstI (globAt u.globals) u.globals.length).2)
 else if (firstI (headAt u) u.funcs.length).1 ≠ 0 then ((firstI (headAt u) u.funcs.length).1,(firstI (headAt u) u.funcs.length).2)
 else if (firstI (at0 u.funcs (bodyErr u.funcs)) u.funcs.length).1 ≠ 0 then ((firstI (at0 u.funcs (bodyErr u.funcs)) u.funcs.length).1,(firstI (at0 u.funcs (bodyErr u.funcs)) u.funcs.length).2)
 else if mainAt u.funcs < 0 then (6,0) else if 0 < at0 u.funcs (·.params) (mainAt u.funcs).toNat then (5,mainAt u.funcs) else (0,0)
end Go.Proofs.YtdbljcahlpkgdaaDoor
namespace Go.Proofs.YtdbljcahlpkgdaaDoor
open Go Go.RowKit
attribute [local irreducible] wpListIn Code.wpIn Exit.then Exit.inBlock bodyPost wpQuiet wpAnyIn
set_option maxHeartbeats 1000000
theorem mixed : Tryd.prog.follows .mixedOrders = true:=by kernel_rfl
theorem get_lt {α : Type} {l : List α} {i n : Nat} (hn : n = l.length) (h : i < n) : ∃ x,l[i]? = some x:=⟨l[i],by simp [hn ▸ h]⟩
theorem ne_of_get {α : Type} {l : List α} {i : Nat} {x : α} (h : l[i]? = some x) : l ≠ []:=by rintro rfl; simp at h
theorem within_c (n lo hi : Int) (w0 : World) : RetV Tryd.prog 14 [.int .i64 n,.int .i64 lo,.int .i64 hi] w0 (.bool (within n lo hi)):=by
 refine ret_enter Tryd.func14 rfl Tryd.ntmps14 rfl (Wd.nil NoS w0) ?_
 repeat (first|refine g_op rfl ?_|refine g_then ?_|refine g_nil ?_|refine g_region ?_|refine g_seq ?_)
 generalize hb : decide (lo ≤ n) = b
 cases b
 ·repeat (first|refine g_op rfl ?_|refine g_then ?_|refine g_nil ?_|refine g_opS rfl ?_|refine g_pass rfl ?_|refine g_ret ?_)
  exact g_retV rfl (by simp [within,hb])
 ·repeat (first|refine g_op rfl ?_|refine g_then ?_|refine g_nil ?_|refine g_opS rfl ?_|refine g_open ?_|refine g_ret ?_)
  exact g_retV rfl (by simp [within,hb])
theorem fault_c (code at' : Int) (w0 : World) : RetV Tryd.prog 11 [.int .i64 code,.int .i64 at'] w0 (.agg #[.int .i64 code,.int .i64 at']):=by
 refine ret_enter Tryd.func11 rfl Tryd.ntmps11 rfl (Wd.nil NoS w0) ?_
 repeat (first|refine g_op rfl ?_|refine g_then ?_|refine g_nil ?_|refine g_region ?_|refine g_seq ?_|refine g_alloc rfl fun _ _=>?_|refine g_storeAgg ?_|refine g_ret ?_)
 exact g_retC rfl fun _ hw=>⟨rfl,hw.chg⟩
theorem name_c (s : ByteArray) (w0 : World) : RetV Tryd.prog 12 [.string s] w0 (.bool (nameOk s)):=by
 refine ret_enter Tryd.func12 rfl Tryd.ntmps12 rfl (Wd.nil NoS w0) ?_
 repeat (first|refine g_op rfl ?_|refine g_then ?_|refine g_nil ?_|refine g_region ?_|refine g_seq ?_)
 generalize hb : decide ((s.size : Int) < 1) = b
 refine g_join 4 12 (.bool (b || decide (12 < (s.size : Int)))) ?_ ?_
 ·cases b
  ·repeat (first|refine g_op rfl ?_|refine g_then ?_|refine g_nil ?_|refine g_open ?_)
   exact g_done (by repeat (first|exact trivial|refine ⟨rfl,?_⟩)) (by simp)
  ·repeat (first|refine g_op rfl ?_|refine g_then ?_|refine g_nil ?_|refine g_pass rfl ?_)
   exact g_done (by repeat (first|exact trivial|refine ⟨rfl,?_⟩)) (by simp)
 repeat (first|refine g_then ?_|refine g_nil ?_)
 refine g_cond (fun h1=>?_) (fun h1=>?_)
 ·repeat (first|refine g_then ?_|refine g_nil ?_|refine g_region ?_|refine g_seq ?_|refine g_opS rfl ?_|refine g_ret ?_|refine g_thenRet ?_)
  refine g_retV rfl ?_
  subst hb
  simp [nameOk,if_pos (show (s.size : Int) < 1 ∨ 12 < (s.size : Int) by simpa using h1)]
 have h1' : ¬ ((s.size : Int) < 1 ∨ 12 < (s.size : Int)):=by subst hb; simpa using h1
 repeat (first|refine g_op rfl ?_|refine g_then ?_|refine g_nil ?_|refine g_region ?_|refine g_seq ?_|refine g_block ?_|refine g_skip ?_)
 refine g_loop (fun (i : Nat)=>i ≤ s.size∧∀ j,j < i→okCh j (byteAt s j) = true) (fun i=>[(0,.string s),(15,.int .i64 i),(14,.int .i64 s.size)]) (fun _=>[]) (fun i=>s.size - i) 0 ⟨Nat.zero_le _,by simp⟩ (g_done (by repeat (first|exact trivial|refine ⟨rfl,?_⟩)) (by simp)) fun i ⟨hi,hall⟩=>?_
 repeat (first|refine g_op rfl ?_|refine g_then ?_|refine g_nil ?_|refine g_region ?_|refine g_seq ?_)
 refine g_cond (fun h2=>?_) (fun h2=>?_)
 ·have hlt : i < s.size:=by simpa using h2
  have hby : ByteIs s i (byteAt s i):=⟨hlt,by simp [byteAt,hlt]⟩
  generalize hc : byteAt s i = c at hby
  repeat (first|refine g_op rfl ?_|refine g_then ?_|refine g_nil ?_|refine g_region ?_|refine g_seq ?_|refine g_block ?_|refine g_skip ?_)
  generalize e1 : decide (97 ≤ c) = b1
  refine g_join 3 26 (.bool (b1 && decide (c ≤ 122))) ?_ ?_
  ·cases b1
   ·repeat (first|refine g_op rfl ?_|refine g_then ?_|refine g_nil ?_|refine g_pass rfl ?_)
    exact g_done (by repeat (first|exact trivial|refine ⟨rfl,?_⟩)) (by simp)
   ·repeat (first|refine g_op rfl ?_|refine g_then ?_|refine g_nil ?_|refine g_open ?_)
    exact g_done (by repeat (first|exact trivial|refine ⟨rfl,?_⟩)) (by simp)
  generalize e2 : (b1 && decide (c ≤ 122)) = b2
  repeat (refine g_op rfl ?_)
  refine g_join 7 34 (.bool (b2 || (decide (65 ≤ c) && decide (c ≤ 90)))) ?_ ?_
  ·cases b2
   ·repeat (first|refine g_op rfl ?_|refine g_open ?_)
    generalize e3 : decide (65 ≤ c) = b3
    cases b3
    ·repeat (first|refine g_op rfl ?_|refine g_then ?_|refine g_nil ?_|refine g_open ?_|refine g_pass rfl ?_)
     exact g_done (by repeat (first|exact trivial|refine ⟨rfl,?_⟩)) (by simp)
    ·repeat (first|refine g_op rfl ?_|refine g_then ?_|refine g_nil ?_|refine g_open ?_)
     exact g_done (by repeat (first|exact trivial|refine ⟨rfl,?_⟩)) (by simp)
   ·repeat (first|refine g_op rfl ?_|refine g_then ?_|refine g_nil ?_|refine g_pass rfl ?_|refine g_passU rfl ?_)
    exact g_done (by repeat (first|exact trivial|refine ⟨rfl,?_⟩)) (by simp)
  generalize e3 : (b2 || (decide (65 ≤ c) && decide (c ≤ 90))) = b3
  repeat (refine g_op rfl ?_)
  refine g_join 3 38 (.bool (b3 || decide (c = 95))) ?_ ?_
  ·cases b3
   ·repeat (first|refine g_op rfl ?_|refine g_then ?_|refine g_nil ?_|refine g_open ?_)
    exact g_done (by repeat (first|exact trivial|refine ⟨rfl,?_⟩)) (by simp)
   ·repeat (first|refine g_op rfl ?_|refine g_then ?_|refine g_nil ?_|refine g_pass rfl ?_)
    exact g_done (by repeat (first|exact trivial|refine ⟨rfl,?_⟩)) (by simp)
  generalize e4 : (b3 || decide (c = 95)) = b4
  repeat (refine g_op rfl ?_)
  refine g_join 11 50 (.bool (b4 || ((decide (0 < (i : Int)) && decide (48 ≤ c)) && decide (c ≤ 57)))) ?_ ?_
  ·cases b4
   ·repeat (first|refine g_op rfl ?_|refine g_open ?_)
    generalize e5 : decide (0 < (i : Int)) = b5
    cases b5
    ·repeat (first|refine g_op rfl ?_|refine g_then ?_|refine g_nil ?_|refine g_open ?_|refine g_pass rfl ?_)
     exact g_done (by repeat (first|exact trivial|refine ⟨rfl,?_⟩)) (by simp)
    ·repeat (first|refine g_op rfl ?_|refine g_open ?_)
     generalize e6 : decide (48 ≤ c) = b6
     cases b6
     ·repeat (first|refine g_op rfl ?_|refine g_then ?_|refine g_nil ?_|refine g_open ?_|refine g_pass rfl ?_)
      exact g_done (by repeat (first|exact trivial|refine ⟨rfl,?_⟩)) (by simp)
     ·repeat (first|refine g_op rfl ?_|refine g_then ?_|refine g_nil ?_|refine g_open ?_)
      exact g_done (by repeat (first|exact trivial|refine ⟨rfl,?_⟩)) (by simp)
   ·repeat (first|refine g_op rfl ?_|refine g_then ?_|refine g_nil ?_|refine g_pass rfl ?_|refine g_passU rfl ?_)
    exact g_done (by repeat (first|exact trivial|refine ⟨rfl,?_⟩)) (by simp)
  have hok : okCh i c = (b4 || ((decide (0 < (i : Int)) && decide (48 ≤ c)) && decide (c ≤ 57))):=by subst e4 e3 e2 e1; rfl
  rw [← hok]
  repeat (first|refine g_op rfl ?_|refine g_then ?_|refine g_nil ?_)
  refine g_cond (fun h3=>?_) (fun h3=>?_)
  ·have h3' : okCh i c = false:=by simpa using h3
   repeat (first|refine g_op rfl ?_|refine g_then ?_|refine g_nil ?_|refine g_region ?_|refine g_seq ?_|refine g_ret ?_|refine g_thenRet ?_|refine g_blockRet ?_)
   refine g_retV rfl ?_
   simp only [nameOk,if_neg h1',Value.bool.injEq]
   symm
   rw [decide_eq_false_iff_not]
   intro hh
   have:=hh i hlt
   rw [hc,h3'] at this
   cases this
  ·have h3' : okCh i c = true:=by simpa using h3
   repeat (first|refine g_then ?_|refine g_nil ?_|refine g_region ?_|refine g_opS rfl ?_|refine g_inBlock ?_|refine g_skip ?_|refine g_add rfl (by omega) (by omega) ?_)
   refine g_next (i + 1) ⟨hlt,fun j hj=>?_⟩ (by omega) (by repeat (first|exact trivial|refine ⟨rfl,?_⟩)) (by simp)
   by_cases hji : j = i
   ·subst hji; rw [hc]; exact h3'
   ·exact hall j (by omega)
 ·have hge : i = s.size:=by have:=h2; simp at this; omega
  repeat (first|refine g_op rfl ?_|refine g_then ?_|refine g_nil ?_|refine g_region ?_|refine g_seq ?_|refine g_exit ?_|refine g_thenExit ?_|refine g_exitHere ?_|refine g_ret ?_)
  refine g_retV rfl ?_
  subst hge
  simp only [nameOk,if_neg h1',Value.bool.injEq]
  symm
  rw [decide_eq_true_eq]
  exact hall
theorem indexS_c (v : Value) (l : List ByteArray) (s : ByteArray) (w0 : World) (hv : SlAt w0 v 1 l StrV) : Ret Tryd.prog 30 [v,.string s] w0 fun u w'=>Chg NoS w0 w'∧∃ r : Int,u = .int .i64 r∧decide (0 ≤ r) = hasName l s:=by
 obtain ⟨a,n,c,b,o,rfl,hn,hnc,hnb,hc,ha,hel⟩:=hv
 refine ret_enter Tryd.func30 rfl Tryd.ntmps30 rfl (Wd.nil NoS w0) ?_
 repeat (first|refine g_op rfl ?_|refine g_then ?_|refine g_nil ?_|refine g_region ?_|refine g_seq ?_|refine g_block ?_)
 refine g_loop (fun (i : Nat)=>i ≤ n∧∀ j t,j < i→l[j]? = some t→(s.toList == t.toList) = false) (fun i=>[(8,.int .i64 i),(0,.slice a n c),(1,.string s),(7,.int .i64 n)]) (fun _=>[]) (fun i=>n - i) 0 ⟨Nat.zero_le _,by simp⟩ (g_done (by repeat (first|exact trivial|refine ⟨rfl,?_⟩)) (by simp)) fun i ⟨hi,hall⟩=>?_
 repeat (first|refine g_op rfl ?_|refine g_then ?_|refine g_nil ?_|refine g_region ?_|refine g_seq ?_)
 refine g_cond (fun h1=>?_) (fun h1=>?_)
 ·have hlt : i < n:=by simpa using h1
  obtain ⟨x,hx⟩:=get_lt hn hlt
  have had : AddrIs a b o:=⟨ha (ne_of_get hx)⟩
  have hli : LtIs i n:=⟨hlt⟩
  obtain ⟨cs,hcs,rfl⟩:=hel i x hx
  have hci : CellsIs w0 b (o + i * 1) _:=⟨hcs⟩
  repeat (first|refine g_op rfl ?_|refine g_then ?_|refine g_nil ?_|refine g_region ?_|refine g_seq ?_|refine g_block ?_|refine g_skip ?_)
  refine g_cond (fun h2=>?_) (fun h2=>?_)
  ·repeat (first|refine g_op rfl ?_|refine g_then ?_|refine g_nil ?_|refine g_region ?_|refine g_seq ?_|refine g_ret ?_|refine g_thenRet ?_|refine g_blockRet ?_)
   refine g_ret1 rfl fun w hw=>⟨hw.chg,_,rfl,?_⟩
   rw [decide_eq_true (by omega : (0 : Int) ≤ (i : Int))]
   symm
   simp only [hasName,List.any_eq_true]
   exact ⟨x,List.mem_of_getElem? hx,h2⟩
  ·repeat (first|refine g_then ?_|refine g_nil ?_|refine g_region ?_|refine g_opS rfl ?_|refine g_inBlock ?_|refine g_skip ?_|refine g_add rfl (by omega) (by omega) ?_)
   refine g_next (i + 1) ⟨hlt,fun j t hj ht=>?_⟩ (by omega) (by repeat (first|exact trivial|refine ⟨rfl,?_⟩)) (by simp)
   by_cases hji : j = i
   ·subst hji
    rw [hx] at ht
    simp only [Option.some.injEq] at ht
    subst ht; exact h2
   ·exact hall j t (by omega) ht
 ·have hge : i = n:=by have:=h1; simp at this; omega
  repeat (first|refine g_op rfl ?_|refine g_then ?_|refine g_nil ?_|refine g_region ?_|refine g_seq ?_|refine g_exit ?_|refine g_thenExit ?_|refine g_exitHere ?_|refine g_ret ?_)
  refine g_ret1 rfl fun w hw=>⟨hw.chg,_,rfl,?_⟩
  symm
  rw [show decide ((0 : Int) ≤ -1) = false from rfl]
  simp only [hasName,List.any_eq_false]
  intro t ht
  obtain ⟨j,hj⟩:=List.getElem?_of_mem ht
  have:=hall j t (by have:=(List.getElem?_eq_some_iff.1 hj).1; omega) hj
  simp [this]
theorem containsS_c (v : Value) (l : List ByteArray) (s : ByteArray) (w0 : World) (hv : SlAt w0 v 1 l StrV) : RetV Tryd.prog 13 [v,.string s] w0 (.bool (hasName l s)):=by
 refine ret_enter Tryd.func13 rfl Tryd.ntmps13 rfl (Wd.nil NoS w0) ?_
 repeat (first|refine g_op rfl ?_|refine g_then ?_|refine g_nil ?_|refine g_region ?_|refine g_seq ?_)
 refine g_callE (val:=fun r : Int=>.int .i64 r) (φ:=fun r : Int=>decide (0 ≤ r) = hasName l s) (E:=fun _=>[]) rfl (fun w hw=>(indexS_c v l s w (hv.keep keeps_str hw.chg)).mono fun u w' ⟨h1,r,h2,h3⟩=>⟨r,h2,(Wd.nil NoS w).call h1,h3⟩) fun r hr=>?_
 repeat (first|refine g_op rfl ?_|refine g_then ?_|refine g_nil ?_|refine g_opS rfl ?_|refine g_ret ?_)
 exact g_retV rfl (by rw [hr])
theorem val_c (g fs nm pa bs ah : Value) (regs : Int) (hr : 0 ≤ regs∧regs ≤ 100) (v : LVal) (w0 : World) :
  RetV Tryd.prog 49 [.agg #[g,fs,nm,pa,.int .i64 regs,bs,ah],.agg #[.bool v.reg,.int .i64 v.n]] w0 (.int .i64 (valErr regs v)):=by
 refine ret_enter Tryd.func49 rfl Tryd.ntmps49 rfl (Wd.nil NoS w0) ?_
 repeat (first|refine g_op rfl ?_|refine g_then ?_|refine g_nil ?_|refine g_region ?_|refine g_seq ?_|refine g_box rfl fun _ _=>?_)
 generalize hb : v.reg = b
 cases b
 ·repeat (first|refine g_op rfl ?_|refine g_then ?_|refine g_nil ?_|refine g_region ?_|refine g_seq ?_|refine g_opS rfl ?_|refine g_pass rfl ?_|refine g_skip ?_|refine g_condF ?_|refine g_ret ?_)
  exact g_retV rfl (by simp [valErr,hb])
 ·repeat (first|refine g_op rfl ?_|refine g_open ?_|refine g_sub rfl (by omega) (by omega) ?_)
  refine g_callV rfl (fun w _=>within_c _ _ _ w) ?_
  repeat (first|refine g_op rfl ?_|refine g_then ?_|refine g_nil ?_|refine g_open ?_)
  refine g_cond (fun h1=>?_) (fun h1=>?_)
  ·repeat (first|refine g_then ?_|refine g_nil ?_|refine g_region ?_|refine g_seq ?_|refine g_opS rfl ?_|refine g_ret ?_|refine g_thenRet ?_)
   exact g_retV rfl (by simp at h1; simp [valErr,hb,h1])
  ·repeat (first|refine g_then ?_|refine g_nil ?_|refine g_region ?_|refine g_seq ?_|refine g_opS rfl ?_|refine g_skip ?_|refine g_ret ?_)
   exact g_retV rfl (by simp at h1; simp [valErr,hb,h1])
theorem dst_c (g fs nm pa bs ah : Value) (regs : Int) (hr : 0 ≤ regs∧regs ≤ 100) (n : Int) (w0 : World) :
  RetV Tryd.prog 50 [.agg #[g,fs,nm,pa,.int .i64 regs,bs,ah],.int .i64 n] w0 (.int .i64 (dstErr regs n)):=by
 refine ret_enter Tryd.func50 rfl Tryd.ntmps50 rfl (Wd.nil NoS w0) ?_
 repeat (first|refine g_op rfl ?_|refine g_then ?_|refine g_nil ?_|refine g_region ?_|refine g_seq ?_|refine g_box rfl fun _ _=>?_|refine g_sub rfl (by omega) (by omega) ?_)
 refine g_callV rfl (fun w _=>within_c _ _ _ w) ?_
 repeat (first|refine g_op rfl ?_|refine g_then ?_|refine g_nil ?_)
 refine g_cond (fun h1=>?_) (fun h1=>?_)
 ·repeat (first|refine g_then ?_|refine g_nil ?_|refine g_region ?_|refine g_seq ?_|refine g_opS rfl ?_|refine g_ret ?_|refine g_thenRet ?_)
  exact g_retV rfl (by simp at h1; simp [dstErr,h1])
 ·repeat (first|refine g_then ?_|refine g_nil ?_|refine g_region ?_|refine g_seq ?_|refine g_opS rfl ?_|refine g_skip ?_|refine g_ret ?_)
  exact g_retV rfl (by simp at h1; simp [dstErr,h1])
theorem endOne_c (g fs nm pa re ah : Value) (n c b : Nat) (a : Option Addr) (hn : n ≤ 100) (x : Int) (w0 : World) (hc : CellsAt w0 b 0 [g,fs,nm,pa,re,.slice a n c,ah]) :
  RetV Tryd.prog 48 [.int .i64 x,.pointer (some ⟨b,0,none⟩)] w0 (.bool (!within x 1 (n - 1))):=by
 have hci : CellsIs w0 b 0 _:=⟨hc⟩
 have hci5 : CellIs w0 b 5 (.slice a n c):=⟨by simpa using hc 5 _ rfl⟩
 refine ret_enter Tryd.func48 rfl Tryd.ntmps48 rfl (Wd.nil NoS w0) ?_
 repeat (first|refine g_op rfl ?_|refine g_then ?_|refine g_nil ?_|refine g_region ?_|refine g_seq ?_|refine g_sub rfl (by omega) (by omega) ?_)
 refine g_callV rfl (fun w _=>within_c _ _ _ w) ?_
 repeat (first|refine g_op rfl ?_|refine g_then ?_|refine g_nil ?_|refine g_opS rfl ?_|refine g_ret ?_)
 exact g_retV rfl rfl
theorem shapes_c (op : Int) (w0 : World) : RetV Tryd.prog 51 [.int .i64 op] w0 (.agg #[.bool (shape op).1,.bool (shape op).2.1,.bool (shape op).2.2]):=by
 refine ret_enter Tryd.func51 rfl Tryd.ntmps51 rfl (Wd.nil NoS w0) ?_
 repeat (first|refine g_op rfl ?_|refine g_then ?_|refine g_nil ?_|refine g_region ?_|refine g_seq ?_|refine g_alloc rfl fun _ _=>?_|refine g_block ?_)
 generalize e1 : decide (op = 1) = b1
 refine g_join 3 9 (.bool (b1 || decide (op = 16))) ?_ ?_
 ·cases b1
  ·repeat (first|refine g_op rfl ?_|refine g_then ?_|refine g_nil ?_|refine g_open ?_)
   exact g_done (by repeat (first|exact trivial|refine ⟨rfl,?_⟩)) (by simp)
  ·repeat (first|refine g_op rfl ?_|refine g_then ?_|refine g_nil ?_|refine g_pass rfl ?_)
   exact g_done (by repeat (first|exact trivial|refine ⟨rfl,?_⟩)) (by simp)
 generalize e2 : (b1 || decide (op = 16)) = b2
 repeat (refine g_op rfl ?_)
 refine g_join 3 13 (.bool (b2 || decide (op = 17))) ?_ ?_
 ·cases b2
  ·repeat (first|refine g_op rfl ?_|refine g_then ?_|refine g_nil ?_|refine g_open ?_)
   exact g_done (by repeat (first|exact trivial|refine ⟨rfl,?_⟩)) (by simp)
  ·repeat (first|refine g_op rfl ?_|refine g_then ?_|refine g_nil ?_|refine g_pass rfl ?_)
   exact g_done (by repeat (first|exact trivial|refine ⟨rfl,?_⟩)) (by simp)
 generalize e3 : (b2 || decide (op = 17)) = b3
 repeat (refine g_op rfl ?_)
 refine g_join 3 17 (.bool (b3 || decide (op = 18))) ?_ ?_
 ·cases b3
  ·repeat (first|refine g_op rfl ?_|refine g_then ?_|refine g_nil ?_|refine g_open ?_)
   exact g_done (by repeat (first|exact trivial|refine ⟨rfl,?_⟩)) (by simp)
  ·repeat (first|refine g_op rfl ?_|refine g_then ?_|refine g_nil ?_|refine g_pass rfl ?_)
   exact g_done (by repeat (first|exact trivial|refine ⟨rfl,?_⟩)) (by simp)
 repeat (first|refine g_op rfl ?_|refine g_then ?_|refine g_nil ?_)
 refine g_cond (fun h1=>?_) (fun h1=>?_)
 ·repeat (first|refine g_op rfl ?_|refine g_then ?_|refine g_nil ?_|refine g_region ?_|refine g_seq ?_|refine g_storeAgg ?_|refine g_ret ?_|refine g_thenRet ?_|refine g_blockRet ?_)
  refine g_retC rfl fun _ hw=>⟨?_,hw.chg⟩
  have : ((op = 1 ∨ op = 16) ∨ op = 17) ∨ op = 18:=by subst e3 e2 e1; simpa using h1
  simp [shape,this]
 have n1 : ¬ (((op = 1 ∨ op = 16) ∨ op = 17) ∨ op = 18):=by subst e3 e2 e1; simpa using h1
 repeat (first|refine g_op rfl ?_|refine g_region ?_|refine g_seq ?_)
 generalize e4 : decide (2 ≤ op) = b4
 refine g_join 3 25 (.bool (b4 && decide (op ≤ 15))) ?_ ?_
 ·cases b4
  ·repeat (first|refine g_op rfl ?_|refine g_then ?_|refine g_nil ?_|refine g_pass rfl ?_)
   exact g_done (by repeat (first|exact trivial|refine ⟨rfl,?_⟩)) (by simp)
  ·repeat (first|refine g_op rfl ?_|refine g_then ?_|refine g_nil ?_|refine g_open ?_)
   exact g_done (by repeat (first|exact trivial|refine ⟨rfl,?_⟩)) (by simp)
 repeat (first|refine g_op rfl ?_|refine g_then ?_|refine g_nil ?_)
 refine g_cond (fun h2=>?_) (fun h2=>?_)
 ·repeat (first|refine g_op rfl ?_|refine g_then ?_|refine g_nil ?_|refine g_region ?_|refine g_seq ?_|refine g_storeAgg ?_|refine g_ret ?_|refine g_thenRet ?_|refine g_blockRet ?_)
  refine g_retC rfl fun _ hw=>⟨?_,hw.chg⟩
  have : 2 ≤ op∧op ≤ 15:=by subst e4; simpa using h2
  simp [shape,n1,this]
 have n2 : ¬ (2 ≤ op∧op ≤ 15):=by subst e4; simpa using h2
 repeat (first|refine g_op rfl ?_|refine g_then ?_|refine g_nil ?_|refine g_region ?_|refine g_seq ?_)
 refine g_cond (fun h3=>?_) (fun h3=>?_)
 ·repeat (first|refine g_op rfl ?_|refine g_then ?_|refine g_nil ?_|refine g_region ?_|refine g_seq ?_|refine g_storeAgg ?_|refine g_ret ?_|refine g_thenRet ?_|refine g_blockRet ?_)
  refine g_retC rfl fun _ hw=>⟨?_,hw.chg⟩
  have : op = 19:=by simpa using h3
  simp [shape,this]
 have n3 : ¬ op = 19:=by simpa using h3
 repeat (first|refine g_op rfl ?_|refine g_region ?_|refine g_seq ?_)
 generalize e5 : decide (op = 20) = b5
 refine g_join 3 37 (.bool (b5 || decide (op = 21))) ?_ ?_
 ·cases b5
  ·repeat (first|refine g_op rfl ?_|refine g_then ?_|refine g_nil ?_|refine g_open ?_)
   exact g_done (by repeat (first|exact trivial|refine ⟨rfl,?_⟩)) (by simp)
  ·repeat (first|refine g_op rfl ?_|refine g_then ?_|refine g_nil ?_|refine g_pass rfl ?_)
   exact g_done (by repeat (first|exact trivial|refine ⟨rfl,?_⟩)) (by simp)
 repeat (first|refine g_op rfl ?_|refine g_then ?_|refine g_nil ?_)
 refine g_cond (fun h4=>?_) (fun h4=>?_)
 ·repeat (first|refine g_op rfl ?_|refine g_then ?_|refine g_nil ?_|refine g_region ?_|refine g_seq ?_|refine g_storeAgg ?_|refine g_ret ?_|refine g_thenRet ?_|refine g_blockRet ?_)
  refine g_retC rfl fun _ hw=>⟨?_,hw.chg⟩
  have : op = 20 ∨ op = 21:=by subst e5; simpa using h4
  rcases this with rfl|rfl <;> rfl
 have n4 : ¬ (op = 20 ∨ op = 21):=by subst e5; simpa using h4
 repeat (first|refine g_op rfl ?_|refine g_then ?_|refine g_nil ?_|refine g_region ?_|refine g_seq ?_)
 refine g_cond (fun h5=>?_) (fun h5=>?_)
 ·repeat (first|refine g_op rfl ?_|refine g_then ?_|refine g_nil ?_|refine g_region ?_|refine g_seq ?_|refine g_storeAgg ?_|refine g_ret ?_|refine g_thenRet ?_|refine g_blockRet ?_)
  refine g_retC rfl fun _ hw=>⟨?_,hw.chg⟩
  have : op = 22:=by simpa using h5
  subst this; rfl
 ·have n5 : ¬ op = 22:=by simpa using h5
  repeat (first|refine g_op rfl ?_|refine g_then ?_|refine g_nil ?_|refine g_region ?_|refine g_seq ?_|refine g_storeAgg ?_|refine g_inBlock ?_|refine g_skip ?_|refine g_ret ?_)
  refine g_retC rfl fun _ hw=>⟨?_,hw.chg⟩
  simp [shape,n1,n2,n3,n4,n5]
theorem indexFI_c {f : Nat} [EnterOk Tryd.prog f] (cap : List Value) (g : Int→Bool) (v : Value) (l : List Int) (w0 : World) (hv : SlAt w0 v 1 l IntV) (hcl : ∀ w,Chg NoS w0 w→∀ x ∈ l,RetV Tryd.prog f (.int .i64 x::cap) w (.bool (g x))) :
  Ret Tryd.prog 62 [v,.func (.func f) #[] cap.toArray] w0 fun u w'=>∃ r : Int,u = .int .i64 r∧Wd NoS w0 [] w'∧decide (0 ≤ r) = l.any g:=by
 obtain ⟨a,n,c,b,o,rfl,hn,hnc,hnb,hc,ha,hel⟩:=hv
 refine ret_enter Tryd.func62 rfl Tryd.ntmps62 rfl (Wd.nil NoS w0) ?_
 repeat (first|refine g_op rfl ?_|refine g_then ?_|refine g_nil ?_|refine g_region ?_|refine g_seq ?_|refine g_block ?_)
 refine g_loop (fun (i : Nat)=>i ≤ n∧∀ j t,j < i→l[j]? = some t→g t = false) (fun i=>[(8,.int .i64 i),(0,.slice a n c),(1,.func (.func f) #[] cap.toArray),(7,.int .i64 n)]) (fun _=>[]) (fun i=>n - i) 0 ⟨Nat.zero_le _,by simp⟩ (g_done (by repeat (first|exact trivial|refine ⟨rfl,?_⟩)) (by simp)) fun i ⟨hi,hall⟩=>?_
 repeat (first|refine g_op rfl ?_|refine g_then ?_|refine g_nil ?_|refine g_region ?_|refine g_seq ?_)
 refine g_cond (fun h1=>?_) (fun h1=>?_)
 ·have hlt : i < n:=by simpa using h1
  obtain ⟨x,hx⟩:=get_lt hn hlt
  have had : AddrIs a b o:=⟨ha (ne_of_get hx)⟩
  have hli : LtIs i n:=⟨hlt⟩
  obtain ⟨cs,hcs,rfl,hxi⟩:=hel i x hx
  have hci : CellsIs w0 b (o + i * 1) _:=⟨hcs⟩
  repeat (first|refine g_op rfl ?_|refine g_then ?_|refine g_nil ?_|refine g_region ?_|refine g_seq ?_|refine g_block ?_|refine g_skip ?_)
  refine g_callFV rfl (us:=[]) (vs:=[.int .i64 x]) (xs:=cap) (fun w hw=>hcl w hw.chg x (List.mem_of_getElem? hx)) ?_
  repeat (first|refine g_then ?_|refine g_nil ?_)
  refine g_cond (fun h2=>?_) (fun h2=>?_)
  ·repeat (first|refine g_op rfl ?_|refine g_then ?_|refine g_nil ?_|refine g_region ?_|refine g_seq ?_|refine g_ret ?_|refine g_thenRet ?_|refine g_blockRet ?_)
   refine g_ret1 rfl fun w hw=>⟨_,rfl,⟨hw.chg,by simp,by simp,by simp⟩,?_⟩
   rw [decide_eq_true (by omega : (0 : Int) ≤ (i : Int))]
   symm
   simp only [List.any_eq_true]
   exact ⟨x,List.mem_of_getElem? hx,h2⟩
  ·repeat (first|refine g_then ?_|refine g_nil ?_|refine g_region ?_|refine g_opS rfl ?_|refine g_inBlock ?_|refine g_skip ?_|refine g_add rfl (by omega) (by omega) ?_)
   refine g_next (i + 1) ⟨hlt,fun j t hj ht=>?_⟩ (by omega) (by repeat (first|exact trivial|refine ⟨rfl,?_⟩)) (by simp)
   by_cases hji : j = i
   ·subst hji
    rw [hx] at ht
    simp only [Option.some.injEq] at ht
    subst ht; exact h2
   ·exact hall j t (by omega) ht
 ·have hge : i = n:=by have:=h1; simp at this; omega
  repeat (first|refine g_op rfl ?_|refine g_then ?_|refine g_nil ?_|refine g_region ?_|refine g_seq ?_|refine g_exit ?_|refine g_thenExit ?_|refine g_exitHere ?_|refine g_ret ?_)
  refine g_ret1 rfl fun w hw=>⟨_,rfl,⟨hw.chg,by simp,by simp,by simp⟩,?_⟩
  symm
  rw [show decide ((0 : Int) ≤ -1) = false from rfl]
  simp only [List.any_eq_false]
  intro t ht
  obtain ⟨j,hj⟩:=List.getElem?_of_mem ht
  have:=hall j t (by have:=(List.getElem?_eq_some_iff.1 hj).1; omega) hj
  simp [this]
theorem containsFI_c {f : Nat} [EnterOk Tryd.prog f] (cap : List Value) (g : Int→Bool) (v : Value) (l : List Int) (w0 : World) (hv : SlAt w0 v 1 l IntV) (hcl : ∀ w,Chg NoS w0 w→∀ x ∈ l,RetV Tryd.prog f (.int .i64 x::cap) w (.bool (g x))) :
  RetV Tryd.prog 47 [v,.func (.func f) #[] cap.toArray] w0 (.bool (l.any g)):=by
 refine ret_enter Tryd.func47 rfl Tryd.ntmps47 rfl (Wd.nil NoS w0) ?_
 repeat (first|refine g_op rfl ?_|refine g_then ?_|refine g_nil ?_|refine g_region ?_|refine g_seq ?_)
 refine g_callE (val:=fun r : Int=>.int .i64 r) (φ:=fun r : Int=>decide (0 ≤ r) = l.any g) (E:=fun _=>[]) rfl (fun w hw=>indexFI_c cap g v l w (hv.keep keeps_int hw.chg) fun w1 h1 x=>hcl w1 (hw.chg.trans h1) x) fun r hr=>?_
 repeat (first|refine g_op rfl ?_|refine g_then ?_|refine g_nil ?_|refine g_opS rfl ?_|refine g_ret ?_)
 exact g_retV rfl (by rw [hr])
structure Clos where
 f : Nat
 cap : List Value
 err : Int
def ClosV (_ : World) (x : Clos) (cs : List Value) : Prop:=cs = [.func (.func x.f) #[] x.cap.toArray]
theorem first_c (v : Value) (l : List Clos) (w0 : World) (hv : SlAt w0 v 1 l ClosV) (hE : ∀ x ∈ l,EnterOk Tryd.prog x.f) (hcl : ∀ x ∈ l,∀ w,Chg NoS w0 w→RetV Tryd.prog x.f x.cap w (.int .i64 x.err)) :
  RetV Tryd.prog 52 [v] w0 (.int .i64 (firstI (at0 l (·.err)) l.length).1):=by
 obtain ⟨a,n,c,b,o,rfl,hn,hnc,hnb,hc,ha,hel⟩:=hv
 refine ret_enter Tryd.func52 rfl Tryd.ntmps52 rfl (Wd.nil NoS w0) ?_
 repeat (first|refine g_op rfl ?_|refine g_then ?_|refine g_nil ?_|refine g_region ?_|refine g_seq ?_|refine g_block ?_)
 refine g_loop (fun (i : Nat)=>i ≤ n∧∀ j,j < i→at0 l (·.err) j = 0) (fun i=>[(8,.int .i64 i),(6,.slice a n c),(7,.int .i64 n)]) (fun _=>[]) (fun i=>n - i) 0 ⟨Nat.zero_le _,by simp⟩ (g_done (by repeat (first|exact trivial|refine ⟨rfl,?_⟩)) (by simp)) fun i ⟨hi,hall⟩=>?_
 repeat (first|refine g_op rfl ?_|refine g_then ?_|refine g_nil ?_|refine g_region ?_|refine g_seq ?_)
 refine g_cond (fun h1=>?_) (fun h1=>?_)
 ·have hlt : i < n:=by simpa using h1
  obtain ⟨x,hx⟩:=get_lt hn hlt
  have had : AddrIs a b o:=⟨ha (ne_of_get hx)⟩
  have hli : LtIs i n:=⟨hlt⟩
  obtain ⟨cs,hcs,rfl⟩:=hel i x hx
  have hci : CellsIs w0 b (o + i * 1) _:=⟨hcs⟩
  have hxl:=List.mem_of_getElem? hx
  have hen:=hE x hxl
  have hat : at0 l (·.err) i = x.err:=by simp [at0,hx]
  repeat (first|refine g_op rfl ?_|refine g_then ?_|refine g_nil ?_|refine g_region ?_|refine g_seq ?_|refine g_block ?_|refine g_skip ?_)
  refine g_callFV rfl (us:=[]) (vs:=[]) (xs:=x.cap) (fun w hw=>hcl x hxl w hw.chg) ?_
  repeat (first|refine g_op rfl ?_|refine g_then ?_|refine g_nil ?_|refine g_region ?_|refine g_seq ?_)
  refine g_cond (fun h2=>?_) (fun h2=>?_)
  ·repeat (first|refine g_op rfl ?_|refine g_then ?_|refine g_nil ?_|refine g_region ?_|refine g_seq ?_|refine g_ret ?_|refine g_thenRet ?_|refine g_blockRet ?_)
   have h2' : x.err ≠ 0:=by simpa using h2
   refine g_retV rfl ?_
   rw [firstI_hit hall (hn ▸ hlt) (by rw [hat]; exact h2'),hat]
  ·have h2' : x.err = 0:=by simpa using h2
   repeat (first|refine g_then ?_|refine g_nil ?_|refine g_region ?_|refine g_opS rfl ?_|refine g_inBlock ?_|refine g_skip ?_|refine g_add rfl (by omega) (by omega) ?_)
   refine g_next (i + 1) ⟨hlt,fun j hj=>?_⟩ (by omega) (by repeat (first|exact trivial|refine ⟨rfl,?_⟩)) (by simp)
   by_cases hji : j = i
   ·subst hji; rw [hat]; exact h2'
   ·exact hall j (by omega)
 ·have hge : i = n:=by have:=h1; simp at this; omega
  repeat (first|refine g_op rfl ?_|refine g_then ?_|refine g_nil ?_|refine g_region ?_|refine g_seq ?_|refine g_exit ?_|refine g_thenExit ?_|refine g_exitHere ?_|refine g_ret ?_)
  exact g_retV rfl (by rw [← hn,← hge,firstI_none hall])
theorem insOne_c (g fs nm pa bs ah : Value) (regs : Int) (hr : 0 ≤ regs∧regs ≤ 100) (x : LIns) (xv : Value) (b b2 : Nat) (w0 : World) (hc : CellsAt w0 b 0 [g,fs,nm,pa,.int .i64 regs,bs,ah])
  (hx : CellsAt w0 b2 0 [.int .i64 x.op,.int .i64 x.dst,.bool x.a.reg,.int .i64 x.a.n,.bool x.b.reg,.int .i64 x.b.n,.int .i64 x.fn,xv]) :
  RetV Tryd.prog 53 [.pointer (some ⟨b,0,none⟩),.pointer (some ⟨b2,0,none⟩)] w0 (.int .i64 (valErr regs x.a)):=by
 have hci : CellsIs w0 b 0 _:=⟨hc⟩
 have hxi : CellsIs w0 b2 0 _:=⟨hx⟩
 refine ret_enter Tryd.func53 rfl Tryd.ntmps53 rfl (Wd.nil NoS w0) ?_
 repeat (first|refine g_op rfl ?_|refine g_then ?_|refine g_nil ?_|refine g_region ?_|refine g_seq ?_)
 refine g_callV rfl (fun w _=>val_c _ _ _ _ _ _ regs hr x.a w) ?_
 repeat (first|refine g_then ?_|refine g_nil ?_|refine g_opS rfl ?_|refine g_ret ?_)
 exact g_retV rfl rfl
theorem insTwo_c (g fs nm pa bs ah : Value) (regs : Int) (hr : 0 ≤ regs∧regs ≤ 100) (x : LIns) (xv : Value) (b b2 : Nat) (w0 : World) (hc : CellsAt w0 b 0 [g,fs,nm,pa,.int .i64 regs,bs,ah])
  (hx : CellsAt w0 b2 0 [.int .i64 x.op,.int .i64 x.dst,.bool x.a.reg,.int .i64 x.a.n,.bool x.b.reg,.int .i64 x.b.n,.int .i64 x.fn,xv]) :
  RetV Tryd.prog 54 [.pointer (some ⟨b,0,none⟩),.pointer (some ⟨b2,0,none⟩)] w0 (.int .i64 (valErr regs x.b)):=by
 have hci : CellsIs w0 b 0 _:=⟨hc⟩
 have hxi : CellsIs w0 b2 0 _:=⟨hx⟩
 refine ret_enter Tryd.func54 rfl Tryd.ntmps54 rfl (Wd.nil NoS w0) ?_
 repeat (first|refine g_op rfl ?_|refine g_then ?_|refine g_nil ?_|refine g_region ?_|refine g_seq ?_)
 refine g_callV rfl (fun w _=>val_c _ _ _ _ _ _ regs hr x.b w) ?_
 repeat (first|refine g_then ?_|refine g_nil ?_|refine g_opS rfl ?_|refine g_ret ?_)
 exact g_retV rfl rfl
theorem insThree_c (g fs nm pa bs ah : Value) (fl : List LFunc) (hfs : fl.length ≤ 100) (regs : Int) (hr : 0 ≤ regs∧regs ≤ 100) (x : LIns) (_hfn : inI x.fn) (xv : Value) (b b2 b3 : Nat) (w0 : World) (hc : CellsAt w0 b 0 [g,fs,nm,pa,.int .i64 regs,bs,ah])
  (hx : CellsAt w0 b2 0 [.int .i64 x.op,.int .i64 x.dst,.bool x.a.reg,.int .i64 x.a.n,.bool x.b.reg,.int .i64 x.b.n,.int .i64 x.fn,xv]) (h3 : CellsAt w0 b3 0 [.bool (decide (x.op = 20))]) (hf : SlAt w0 fs 4 fl FuncV) (hv : SlAt w0 xv 2 x.args ValV) :
  RetV Tryd.prog 55 [.pointer (some ⟨b3,0,none⟩),.pointer (some ⟨b2,0,none⟩),.pointer (some ⟨b,0,none⟩)] w0 (.int .i64 (callErr fl regs x)):=by
 obtain ⟨fa,fn,fc,fb,fo,rfl,hfn',hfnc,hfnb,hfc,hfa,hfel⟩:=hf
 obtain ⟨va,vn,vc,vb,vo,rfl,hvn,hvnc,hvnb,hvc,hva,hvel⟩:=hv
 have hci : CellsIs w0 b 0 _:=⟨hc⟩
 have hxi : CellsIs w0 b2 0 _:=⟨hx⟩
 have h3i : CellsIs w0 b3 0 _:=⟨h3⟩
 refine ret_enter Tryd.func55 rfl Tryd.ntmps55 rfl (Wd.nil NoS w0) ?_
 repeat (first|refine g_op rfl ?_|refine g_then ?_|refine g_nil ?_|refine g_region ?_|refine g_seq ?_|refine g_block ?_)
 generalize hb : decide (x.op = 20) = bb
 skip
 cases bb
 ·repeat (first|refine g_then ?_|refine g_nil ?_|refine g_region ?_|refine g_seq ?_|refine g_opS rfl ?_|refine g_condT ?_|refine g_ret ?_|refine g_thenRet ?_|refine g_blockRet ?_)
  exact g_retV rfl (by simp at hb; simp [callErr,hb])
 have hb' : ¬ (x.op ≠ 20):=by simpa using hb
 repeat (first|refine g_op rfl ?_|refine g_region ?_|refine g_seq ?_|refine g_condF ?_|refine g_sub rfl (by omega) (by omega) ?_)
 refine g_callV rfl (fun w _=>within_c _ _ _ w) ?_
 repeat (first|refine g_op rfl ?_|refine g_then ?_|refine g_nil ?_)
 refine g_cond (fun h1=>?_) (fun h1=>?_)
 ·repeat (first|refine g_then ?_|refine g_nil ?_|refine g_region ?_|refine g_seq ?_|refine g_opS rfl ?_|refine g_ret ?_|refine g_thenRet ?_|refine g_blockRet ?_)
  exact g_retV rfl (by simp only [callErr,if_neg hb',← hfn']; rw [if_pos (by simpa using h1)])
 have hw : within x.fn 0 ((fn : Int) - 1) = true:=by simpa using h1
 have hrange : 0 ≤ x.fn∧x.fn < fn:=by simp [within] at hw; omega
 obtain ⟨k,hk⟩ : ∃ k : Nat,x.fn = k:=⟨x.fn.toNat,by omega⟩
 have hkl : k < fn:=by omega
 obtain ⟨F,hF⟩:=get_lt hfn' hkl
 have had : AddrIs fa fb fo:=⟨hfa (ne_of_get hF)⟩
 have hli : LtIs k fn:=⟨hkl⟩
 have hni : NatIs x.fn k:=⟨hk⟩
 obtain ⟨cs,hcs,bv,rfl,hpi,_,_⟩:=hfel k F hF
 have hcii : CellsIs w0 fb (fo + k * 4) _:=⟨hcs⟩
 have hat : at0 fl (·.params) x.fn.toNat = F.params:=by simp [at0,hk,hF]
 repeat (refine g_seq ?_)
 refine g_draw mixed (by kernel_rfl) ?_
 repeat (first|refine q_op rfl ?_|refine q_nil ?_)
 repeat (refine g_then ?_)
 refine g_cond (fun h2=>?_) (fun h2=>?_)
 ·repeat (first|refine g_then ?_|refine g_nil ?_|refine g_region ?_|refine g_seq ?_|refine g_opS rfl ?_|refine g_ret ?_|refine g_thenRet ?_|refine g_blockRet ?_)
  refine g_retV rfl ?_
  have h2' : (x.args.length : Int) ≠ F.params:=by rw [← hvn]; simpa using h2
  simp only [callErr,if_neg hb',← hfn',hw,hat,Bool.not_true,if_pos h2']
  rfl
 have h2' : ¬ (x.args.length : Int) ≠ F.params:=by rw [← hvn]; simpa using h2
 have hgoal : callErr fl regs x = (firstI (at0 x.args (valErr regs)) x.args.length).1:=by
  simp only [callErr,if_neg hb',← hfn',hw,hat,Bool.not_true,if_neg h2']
  rfl
 rw [hgoal]
 repeat (first|refine g_op rfl ?_|refine g_then ?_|refine g_nil ?_|refine g_region ?_|refine g_seq ?_|refine g_inBlock ?_|refine g_block ?_|refine g_skip ?_)
 refine g_loop (fun (i : Nat)=>i ≤ vn∧∀ j,j < i→at0 x.args (valErr regs) j = 0) (fun i=>[(36,.int .i64 i),(34,.slice va vn vc),(35,.int .i64 vn),(2,.pointer (some ⟨b,0,none⟩))]) (fun _=>[]) (fun i=>vn - i) 0 ⟨Nat.zero_le _,by simp⟩ (g_done (by repeat (first|exact trivial|refine ⟨rfl,?_⟩)) (by simp)) fun i ⟨hi,hall⟩=>?_
 repeat (first|refine g_op rfl ?_|refine g_then ?_|refine g_nil ?_|refine g_region ?_|refine g_seq ?_)
 refine g_cond (fun h1=>?_) (fun h1=>?_)
 ·have hlt : i < vn:=by simpa using h1
  obtain ⟨y,hy⟩:=get_lt hvn hlt
  have had : AddrIs va vb vo:=⟨hva (ne_of_get hy)⟩
  have hli : LtIs i vn:=⟨hlt⟩
  obtain ⟨cs,hcs,rfl,hyi⟩:=hvel i y hy
  have hci : CellsIs w0 vb (vo + i * 2) _:=⟨hcs⟩
  have hat : at0 x.args (valErr regs) i = valErr regs y:=by simp [at0,hy]
  repeat (first|refine g_op rfl ?_|refine g_then ?_|refine g_nil ?_|refine g_region ?_|refine g_seq ?_|refine g_alloc rfl fun _ _=>?_|refine g_storeAgg ?_|refine g_block ?_|refine g_skip ?_)
  refine g_callV rfl (fun w _=>val_c _ _ _ _ _ _ regs hr y w) ?_
  repeat (first|refine g_op rfl ?_|refine g_then ?_|refine g_nil ?_|refine g_region ?_|refine g_seq ?_)
  refine g_cond (fun h2=>?_) (fun h2=>?_)
  ·repeat (first|refine g_op rfl ?_|refine g_then ?_|refine g_nil ?_|refine g_region ?_|refine g_seq ?_|refine g_ret ?_|refine g_thenRet ?_|refine g_blockRet ?_)
   refine g_retV rfl ?_
   rw [firstI_hit hall (hvn ▸ hlt) (by rw [hat]; simpa using h2),hat]
  ·repeat (first|refine g_then ?_|refine g_nil ?_|refine g_region ?_|refine g_opS rfl ?_|refine g_inBlock ?_|refine g_skip ?_|refine g_add rfl (by omega) (by omega) ?_)
   refine g_next (i + 1) ⟨hlt,fun j hj=>?_⟩ (by omega) (by repeat (first|exact trivial|refine ⟨rfl,?_⟩)) (by simp)
   by_cases hji : j = i
   ·subst hji; rw [hat]; simpa using h2
   ·exact hall j (by omega)
 ·have hge : i = vn:=by have:=h1; simp at this; omega
  repeat (first|refine g_op rfl ?_|refine g_then ?_|refine g_nil ?_|refine g_region ?_|refine g_seq ?_|refine g_exit ?_|refine g_thenExit ?_|refine g_exitHere ?_|refine g_ret ?_)
  exact g_retV rfl (by rw [← hvn,← hge,firstI_none hall])
end Go.Proofs.YtdbljcahlpkgdaaDoor
namespace Go.Proofs.YtdbljcahlpkgdaaDoor
open Go Go.RowKit
def toOf (bl : List LBlock) (i : Nat) : List Int:=match bl[i]? with|some b=>b.to|none=>[]
def Edge (bl : List LBlock) (x y : Nat) : Prop:=(y : Int) ∈ toOf bl x
inductive Rch (bl : List LBlock) (wo : Int) (b : Nat) : Nat→Prop
 | refl : Rch bl wo b b
 | step {x y : Nat} : Rch bl wo b x→Edge bl x y→(y : Int) ≠ wo→Rch bl wo b y
theorem Rch.trans {bl : List LBlock} {wo : Int} {a b c : Nat} (h : Rch bl wo a b) (k : Rch bl wo b c) : Rch bl wo a c:=by
 induction k with
 | refl=>exact h
 | step _ he hw ih=>exact ih.step he hw
theorem toOf_get {bl : List LBlock} {i : Nat} {b : LBlock} (h : bl[i]? = some b) : toOf bl i = b.to:=by simp [toOf,h]
def GoodB (bl : List LBlock) : Prop:=∀ b ∈ bl,b.to.length ≤ 2∧∀ t ∈ b.to,0 ≤ t∧t < bl.length
theorem GoodB.edge {bl : List LBlock} (h : GoodB bl) {x y : Nat} (he : Edge bl x y) : y < bl.length:=by
 unfold Edge toOf at he
 split at he
 ·rename_i b hb
  have:=(h b (List.mem_of_getElem? hb)).2 _ he
  omega
 ·cases he
theorem GoodB.rch {bl : List LBlock} (h : GoodB bl) {wo : Int} {b x : Nat} (hb : b < bl.length) (hr : Rch bl wo b x) : x < bl.length:=by
 induction hr with
 | refl=>exact hb
 | step _ he _ _=>exact h.edge he
theorem rch_closed {bl : List LBlock} {wo : Int} {b : Nat} {p : Nat→Prop} (h0 : p b) (hc : ∀ x y,p x→Edge bl x y→(y : Int) ≠ wo→p y) {x : Nat} (h : Rch bl wo b x) : p x:=by
 induction h with
 | refl=>exact h0
 | step _ he hw ih=>exact hc _ _ ih he hw
theorem nodup_len : ∀ (n : Nat) (l : List Nat),l.Nodup→(∀ x ∈ l,x < n)→l.length ≤ n
 | 0,l,_,h=>by
  cases l with
  | nil=>simp
  | cons x l=>have:=h x (by simp); omega
 | n + 1,l,hn,h=>by
  by_cases hm : n ∈ l
  ·have h1:=nodup_len n (l.erase n) (hn.erase n) fun x hx=>by
    have:=(hn.mem_erase_iff).1 hx
    have:=h x this.2
    omega
   rw [List.length_erase_of_mem hm] at h1
   omega
  ·have:=nodup_len n l hn fun x hx=>by
    have h1:=h x hx
    have : x ≠ n:=fun e=>hm (e ▸ hx)
    omega
   omega
def unseen (l : List Bool) : Nat:=l.count false
theorem unseen_set {l : List Bool} {i : Nat} (h : l[i]? = some false) : unseen (l.set i true) + 1 = unseen l:=by
 induction l generalizing i with
 | nil=>simp at h
 | cons x l ih =>
  cases i with
  | zero =>
   simp only [List.getElem?_cons_zero,Option.some.injEq] at h
   subst h
   simp [unseen]
  | succ i =>
   simp only [List.getElem?_cons_succ] at h
   have:=ih h
   simp only [unseen,List.set_cons_succ,List.count_cons] at this ⊢
   omega
end Go.Proofs.YtdbljcahlpkgdaaDoor
