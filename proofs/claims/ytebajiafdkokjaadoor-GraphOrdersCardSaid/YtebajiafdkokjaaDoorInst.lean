/- What the step rules ask of the types and functions of this seat: instances, printed by inst.py. -/
import Derived.Test.YtebajiafdkokjaaDoorMore
import Derived.Test.YtebajiafdkokjaaDoorRows
namespace Go.Proofs.YtebajiafdkokjaaDoor
open Go Go.RowKit

instance : OneCell Tryd.prog 1 := ⟨Tryd.isAgg1, Tryd.sizeOf1⟩
instance : ZeroVal Tryd.prog 1 (.nilFunc) := ⟨Tryd.zeroValue1⟩
instance : OneCell Tryd.prog 2 := ⟨Tryd.isAgg2, Tryd.sizeOf2⟩
instance : ZeroVal Tryd.prog 2 (.int .i64 0) := ⟨Tryd.zeroValue2⟩
instance : OneCell Tryd.prog 3 := ⟨Tryd.isAgg3, Tryd.sizeOf3⟩
instance : ZeroVal Tryd.prog 3 (.int .i64 0) := ⟨Tryd.zeroValue3⟩
instance : OneCell Tryd.prog 4 := ⟨Tryd.isAgg4, Tryd.sizeOf4⟩
instance : ZeroVal Tryd.prog 4 (.bool false) := ⟨Tryd.zeroValue4⟩
instance : OneCell Tryd.prog 5 := ⟨Tryd.isAgg5, Tryd.sizeOf5⟩
instance : ZeroVal Tryd.prog 5 (.int .u8 0) := ⟨Tryd.zeroValue5⟩
instance : OneCell Tryd.prog 9 := ⟨Tryd.isAgg9, Tryd.sizeOf9⟩
instance : IsStr Tryd.prog 9 := ⟨Tryd.underlying9⟩
instance : ZeroVal Tryd.prog 9 (.string ByteArray.empty) := ⟨Tryd.zeroValue9⟩
instance : OneCell Tryd.prog 12 := ⟨Tryd.isAgg12, Tryd.sizeOf12⟩
instance : ZeroVal Tryd.prog 12 (.int .u64 0) := ⟨Tryd.zeroValue12⟩
instance : OneCell Tryd.prog 20 := ⟨Tryd.isAgg20, Tryd.sizeOf20⟩
instance : ZeroVal Tryd.prog 20 (.nilIface) := ⟨Tryd.zeroValue20⟩
instance : OneCell Tryd.prog 21 := ⟨Tryd.isAgg21, Tryd.sizeOf21⟩
instance : ZeroVal Tryd.prog 21 (.int .i32 0) := ⟨Tryd.zeroValue21⟩
instance : OneCell Tryd.prog 22 := ⟨Tryd.isAgg22, Tryd.sizeOf22⟩
instance : ElemSize Tryd.prog 22 3 := ⟨by kernel_rfl, fun w => by have h : Tryd.prog.elem 22 = 82 := (by kernel_rfl); rw [h]; exact Tryd.sizeOf82 w⟩
instance : ElemInfo Tryd.prog 22 82 3 48 [.string ByteArray.empty, .int .i64 0, .slice none 0 0] := ⟨by kernel_rfl, by kernel_rfl⟩
instance : ZeroVal Tryd.prog 22 (.slice none 0 0) := ⟨Tryd.zeroValue22⟩
instance : OneCell Tryd.prog 23 := ⟨Tryd.isAgg23, Tryd.sizeOf23⟩
instance : ElemSize Tryd.prog 23 4 := ⟨by kernel_rfl, fun w => by have h : Tryd.prog.elem 23 = 35 := (by kernel_rfl); rw [h]; exact Tryd.sizeOf35 w⟩
instance : ElemInfo Tryd.prog 23 35 4 56 [.string ByteArray.empty, .int .i64 0, .int .i64 0, .slice none 0 0] := ⟨by kernel_rfl, by kernel_rfl⟩
instance : ZeroVal Tryd.prog 23 (.slice none 0 0) := ⟨Tryd.zeroValue23⟩
instance : AggSize Tryd.prog 24 2 := ⟨Tryd.isAgg24, Tryd.sizeOf24⟩
instance : FieldOff Tryd.prog 24 0 0 := ⟨fun b o w => by simp [Instr.fieldAt, Instr.sureAddr, Tryd.runUnderlying24, fieldPlace, Tryd.sizeOf22, Addr.add_lit]⟩
instance : FieldOff Tryd.prog 24 1 1 := ⟨fun b o w => by simp [Instr.fieldAt, Instr.sureAddr, Tryd.runUnderlying24, fieldPlace, Tryd.sizeOf23, Addr.add_lit]⟩
instance : StructAt Tryd.prog 24 [.slice none 0 0, .slice none 0 0] [(0, 1), (1, 1)] := ⟨fun parts cells h => by
  have e : Tryd.prog.built 24 parts = Instr.fill (([(0, 1), (1, 1)] : List (Nat × Nat)).toArray[·]?) (#[.slice none 0 0, .slice none 0 0] : Array Value) parts := by kernel_rfl
  rw [e]; simpa using h⟩
instance : ZeroVal Tryd.prog 24 (.agg #[.slice none 0 0, .slice none 0 0]) := ⟨Tryd.zeroValue24⟩
instance : AggSize Tryd.prog 25 2 := ⟨Tryd.isAgg25, Tryd.sizeOf25⟩
instance : FieldOff Tryd.prog 25 0 0 := ⟨fun b o w => by simp [Instr.fieldAt, Instr.sureAddr, Tryd.runUnderlying25, fieldPlace, Tryd.sizeOf22, Addr.add_lit]⟩
instance : FieldOff Tryd.prog 25 1 1 := ⟨fun b o w => by simp [Instr.fieldAt, Instr.sureAddr, Tryd.runUnderlying25, fieldPlace, Tryd.sizeOf23, Addr.add_lit]⟩
instance : StructAt Tryd.prog 25 [.slice none 0 0, .slice none 0 0] [(0, 1), (1, 1)] := ⟨fun parts cells h => by
  have e : Tryd.prog.built 25 parts = Instr.fill (([(0, 1), (1, 1)] : List (Nat × Nat)).toArray[·]?) (#[.slice none 0 0, .slice none 0 0] : Array Value) parts := by kernel_rfl
  rw [e]; simpa using h⟩
instance : ZeroVal Tryd.prog 25 (.agg #[.slice none 0 0, .slice none 0 0]) := ⟨Tryd.zeroValue25⟩
instance : OneCell Tryd.prog 26 := ⟨Tryd.isAgg26, Tryd.sizeOf26⟩
instance : ZeroVal Tryd.prog 26 (.nilFunc) := ⟨Tryd.zeroValue26⟩
instance : OneCell Tryd.prog 27 := ⟨Tryd.isAgg27, Tryd.sizeOf27⟩
instance : ElemSize Tryd.prog 27 1 := ⟨by kernel_rfl, fun w => by have h : Tryd.prog.elem 27 = 3 := (by kernel_rfl); rw [h]; exact Tryd.sizeOf3 w⟩
instance : ElemInfo Tryd.prog 27 3 1 8 [.int .i64 0] := ⟨by kernel_rfl, by kernel_rfl⟩
instance : ZeroVal Tryd.prog 27 (.slice none 0 0) := ⟨Tryd.zeroValue27⟩
instance : AggSize Tryd.prog 28 2 := ⟨Tryd.isAgg28, Tryd.sizeOf28⟩
instance : FieldOff Tryd.prog 28 0 0 := ⟨fun b o w => by simp [Instr.fieldAt, Instr.sureAddr, Tryd.runUnderlying28, fieldPlace, Tryd.sizeOf3, Addr.add_lit]⟩
instance : FieldOff Tryd.prog 28 1 1 := ⟨fun b o w => by simp [Instr.fieldAt, Instr.sureAddr, Tryd.runUnderlying28, fieldPlace, Tryd.sizeOf3, Addr.add_lit]⟩
instance : StructAt Tryd.prog 28 [.int .i64 0, .int .i64 0] [(0, 1), (1, 1)] := ⟨fun parts cells h => by
  have e : Tryd.prog.built 28 parts = Instr.fill (([(0, 1), (1, 1)] : List (Nat × Nat)).toArray[·]?) (#[.int .i64 0, .int .i64 0] : Array Value) parts := by kernel_rfl
  rw [e]; simpa using h⟩
instance : ZeroVal Tryd.prog 28 (.agg #[.int .i64 0, .int .i64 0]) := ⟨Tryd.zeroValue28⟩
instance : AggSize Tryd.prog 29 2 := ⟨Tryd.isAgg29, Tryd.sizeOf29⟩
instance : FieldOff Tryd.prog 29 0 0 := ⟨fun b o w => by simp [Instr.fieldAt, Instr.sureAddr, Tryd.runUnderlying29, fieldPlace, Tryd.sizeOf3, Addr.add_lit]⟩
instance : FieldOff Tryd.prog 29 1 1 := ⟨fun b o w => by simp [Instr.fieldAt, Instr.sureAddr, Tryd.runUnderlying29, fieldPlace, Tryd.sizeOf3, Addr.add_lit]⟩
instance : StructAt Tryd.prog 29 [.int .i64 0, .int .i64 0] [(0, 1), (1, 1)] := ⟨fun parts cells h => by
  have e : Tryd.prog.built 29 parts = Instr.fill (([(0, 1), (1, 1)] : List (Nat × Nat)).toArray[·]?) (#[.int .i64 0, .int .i64 0] : Array Value) parts := by kernel_rfl
  rw [e]; simpa using h⟩
instance : ZeroVal Tryd.prog 29 (.agg #[.int .i64 0, .int .i64 0]) := ⟨Tryd.zeroValue29⟩
instance : OneCell Tryd.prog 31 := ⟨Tryd.isAgg31, Tryd.sizeOf31⟩
instance : ZeroVal Tryd.prog 31 (.nilFunc) := ⟨Tryd.zeroValue31⟩
instance : OneCell Tryd.prog 32 := ⟨Tryd.isAgg32, Tryd.sizeOf32⟩
instance : ZeroVal Tryd.prog 32 (.nilFunc) := ⟨Tryd.zeroValue32⟩
instance : OneCell Tryd.prog 33 := ⟨Tryd.isAgg33, Tryd.sizeOf33⟩
instance : ElemSize Tryd.prog 33 6 := ⟨by kernel_rfl, fun w => by have h : Tryd.prog.elem 33 = 65 := (by kernel_rfl); rw [h]; exact Tryd.sizeOf65 w⟩
instance : ElemInfo Tryd.prog 33 65 6 96 [.slice none 0 0, .slice none 0 0, .int .i64 0, .bool false, .int .i64 0, .slice none 0 0] := ⟨by kernel_rfl, by kernel_rfl⟩
instance : ZeroVal Tryd.prog 33 (.slice none 0 0) := ⟨Tryd.zeroValue33⟩
instance : AggSize Tryd.prog 34 4 := ⟨Tryd.isAgg34, Tryd.sizeOf34⟩
instance : FieldOff Tryd.prog 34 0 0 := ⟨fun b o w => by simp [Instr.fieldAt, Instr.sureAddr, Tryd.runUnderlying34, fieldPlace, Tryd.sizeOf9, Addr.add_lit]⟩
instance : FieldOff Tryd.prog 34 1 1 := ⟨fun b o w => by simp [Instr.fieldAt, Instr.sureAddr, Tryd.runUnderlying34, fieldPlace, Tryd.sizeOf3, Addr.add_lit]⟩
instance : FieldOff Tryd.prog 34 2 2 := ⟨fun b o w => by simp [Instr.fieldAt, Instr.sureAddr, Tryd.runUnderlying34, fieldPlace, Tryd.sizeOf3, Addr.add_lit]⟩
instance : FieldOff Tryd.prog 34 3 3 := ⟨fun b o w => by simp [Instr.fieldAt, Instr.sureAddr, Tryd.runUnderlying34, fieldPlace, Tryd.sizeOf33, Addr.add_lit]⟩
instance : StructAt Tryd.prog 34 [.string ByteArray.empty, .int .i64 0, .int .i64 0, .slice none 0 0] [(0, 1), (1, 1), (2, 1), (3, 1)] := ⟨fun parts cells h => by
  have e : Tryd.prog.built 34 parts = Instr.fill (([(0, 1), (1, 1), (2, 1), (3, 1)] : List (Nat × Nat)).toArray[·]?) (#[.string ByteArray.empty, .int .i64 0, .int .i64 0, .slice none 0 0] : Array Value) parts := by kernel_rfl
  rw [e]; simpa using h⟩
instance : ZeroVal Tryd.prog 34 (.agg #[.string ByteArray.empty, .int .i64 0, .int .i64 0, .slice none 0 0]) := ⟨Tryd.zeroValue34⟩
instance : AggSize Tryd.prog 35 4 := ⟨Tryd.isAgg35, Tryd.sizeOf35⟩
instance : FieldOff Tryd.prog 35 0 0 := ⟨fun b o w => by simp [Instr.fieldAt, Instr.sureAddr, Tryd.runUnderlying35, fieldPlace, Tryd.sizeOf9, Addr.add_lit]⟩
instance : FieldOff Tryd.prog 35 1 1 := ⟨fun b o w => by simp [Instr.fieldAt, Instr.sureAddr, Tryd.runUnderlying35, fieldPlace, Tryd.sizeOf3, Addr.add_lit]⟩
instance : FieldOff Tryd.prog 35 2 2 := ⟨fun b o w => by simp [Instr.fieldAt, Instr.sureAddr, Tryd.runUnderlying35, fieldPlace, Tryd.sizeOf3, Addr.add_lit]⟩
instance : FieldOff Tryd.prog 35 3 3 := ⟨fun b o w => by simp [Instr.fieldAt, Instr.sureAddr, Tryd.runUnderlying35, fieldPlace, Tryd.sizeOf33, Addr.add_lit]⟩
instance : StructAt Tryd.prog 35 [.string ByteArray.empty, .int .i64 0, .int .i64 0, .slice none 0 0] [(0, 1), (1, 1), (2, 1), (3, 1)] := ⟨fun parts cells h => by
  have e : Tryd.prog.built 35 parts = Instr.fill (([(0, 1), (1, 1), (2, 1), (3, 1)] : List (Nat × Nat)).toArray[·]?) (#[.string ByteArray.empty, .int .i64 0, .int .i64 0, .slice none 0 0] : Array Value) parts := by kernel_rfl
  rw [e]; simpa using h⟩
instance : ZeroVal Tryd.prog 35 (.agg #[.string ByteArray.empty, .int .i64 0, .int .i64 0, .slice none 0 0]) := ⟨Tryd.zeroValue35⟩
instance : OneCell Tryd.prog 36 := ⟨Tryd.isAgg36, Tryd.sizeOf36⟩
instance : ZeroVal Tryd.prog 36 (.nilFunc) := ⟨Tryd.zeroValue36⟩
instance : OneCell Tryd.prog 37 := ⟨Tryd.isAgg37, Tryd.sizeOf37⟩
instance : ZeroVal Tryd.prog 37 (.nilFunc) := ⟨Tryd.zeroValue37⟩
instance : OneCell Tryd.prog 38 := ⟨Tryd.isAgg38, Tryd.sizeOf38⟩
instance : ElemSize Tryd.prog 38 1 := ⟨by kernel_rfl, fun w => by have h : Tryd.prog.elem 38 = 4 := (by kernel_rfl); rw [h]; exact Tryd.sizeOf4 w⟩
instance : ElemInfo Tryd.prog 38 4 1 1 [.bool false] := ⟨by kernel_rfl, by kernel_rfl⟩
instance : ZeroVal Tryd.prog 38 (.slice none 0 0) := ⟨Tryd.zeroValue38⟩
instance : OneCell Tryd.prog 40 := ⟨Tryd.isAgg40, Tryd.sizeOf40⟩
instance : ZeroVal Tryd.prog 40 (.nilFunc) := ⟨Tryd.zeroValue40⟩
instance : OneCell Tryd.prog 41 := ⟨Tryd.isAgg41, Tryd.sizeOf41⟩
instance : ZeroVal Tryd.prog 41 (.nilFunc) := ⟨Tryd.zeroValue41⟩
instance : OneCell Tryd.prog 42 := ⟨Tryd.isAgg42, Tryd.sizeOf42⟩
instance : ZeroVal Tryd.prog 42 (.nilFunc) := ⟨Tryd.zeroValue42⟩
instance : OneCell Tryd.prog 43 := ⟨Tryd.isAgg43, Tryd.sizeOf43⟩
instance : ZeroVal Tryd.prog 43 (.nilFunc) := ⟨Tryd.zeroValue43⟩
instance : OneCell Tryd.prog 44 := ⟨Tryd.isAgg44, Tryd.sizeOf44⟩
instance : ElemSize Tryd.prog 44 1 := ⟨by kernel_rfl, fun w => by have h : Tryd.prog.elem 44 = 27 := (by kernel_rfl); rw [h]; exact Tryd.sizeOf27 w⟩
instance : ElemInfo Tryd.prog 44 27 1 24 [.slice none 0 0] := ⟨by kernel_rfl, by kernel_rfl⟩
instance : ZeroVal Tryd.prog 44 (.slice none 0 0) := ⟨Tryd.zeroValue44⟩
instance : OneCell Tryd.prog 46 := ⟨Tryd.isAgg46, Tryd.sizeOf46⟩
instance : ZeroVal Tryd.prog 46 (.nilFunc) := ⟨Tryd.zeroValue46⟩
instance : OneCell Tryd.prog 47 := ⟨Tryd.isAgg47, Tryd.sizeOf47⟩
instance : ZeroVal Tryd.prog 47 (.nilFunc) := ⟨Tryd.zeroValue47⟩
instance : OneCell Tryd.prog 48 := ⟨Tryd.isAgg48, Tryd.sizeOf48⟩
instance : ZeroVal Tryd.prog 48 (.nilFunc) := ⟨Tryd.zeroValue48⟩
instance : OneCell Tryd.prog 50 := ⟨Tryd.isAgg50, Tryd.sizeOf50⟩
instance : ZeroVal Tryd.prog 50 (.nilFunc) := ⟨Tryd.zeroValue50⟩
instance : OneCell Tryd.prog 51 := ⟨Tryd.isAgg51, Tryd.sizeOf51⟩
instance : ZeroVal Tryd.prog 51 (.nilFunc) := ⟨Tryd.zeroValue51⟩
instance : OneCell Tryd.prog 52 := ⟨Tryd.isAgg52, Tryd.sizeOf52⟩
instance : ZeroVal Tryd.prog 52 (.nilFunc) := ⟨Tryd.zeroValue52⟩
instance : OneCell Tryd.prog 53 := ⟨Tryd.isAgg53, Tryd.sizeOf53⟩
instance : ZeroVal Tryd.prog 53 (.nilFunc) := ⟨Tryd.zeroValue53⟩
instance : OneCell Tryd.prog 54 := ⟨Tryd.isAgg54, Tryd.sizeOf54⟩
instance : ZeroVal Tryd.prog 54 (.nilFunc) := ⟨Tryd.zeroValue54⟩
instance : OneCell Tryd.prog 55 := ⟨Tryd.isAgg55, Tryd.sizeOf55⟩
instance : ZeroVal Tryd.prog 55 (.nilFunc) := ⟨Tryd.zeroValue55⟩
instance : AggSize Tryd.prog 56 2 := ⟨Tryd.isAgg56, Tryd.sizeOf56⟩
instance : FieldOff Tryd.prog 56 0 0 := ⟨fun b o w => by simp [Instr.fieldAt, Instr.sureAddr, Tryd.runUnderlying56, fieldPlace, Tryd.sizeOf3, Addr.add_lit]⟩
instance : FieldOff Tryd.prog 56 1 1 := ⟨fun b o w => by simp [Instr.fieldAt, Instr.sureAddr, Tryd.runUnderlying56, fieldPlace, Tryd.sizeOf3, Addr.add_lit]⟩
instance : StructAt Tryd.prog 56 [.int .i64 0, .int .i64 0] [(0, 1), (1, 1)] := ⟨fun parts cells h => by
  have e : Tryd.prog.built 56 parts = Instr.fill (([(0, 1), (1, 1)] : List (Nat × Nat)).toArray[·]?) (#[.int .i64 0, .int .i64 0] : Array Value) parts := by kernel_rfl
  rw [e]; simpa using h⟩
instance : ZeroVal Tryd.prog 56 (.agg #[.int .i64 0, .int .i64 0]) := ⟨Tryd.zeroValue56⟩
instance : AggSize Tryd.prog 57 2 := ⟨Tryd.isAgg57, Tryd.sizeOf57⟩
instance : FieldOff Tryd.prog 57 0 0 := ⟨fun b o w => by simp [Instr.fieldAt, Instr.sureAddr, Tryd.runUnderlying57, fieldPlace, Tryd.sizeOf3, Addr.add_lit]⟩
instance : FieldOff Tryd.prog 57 1 1 := ⟨fun b o w => by simp [Instr.fieldAt, Instr.sureAddr, Tryd.runUnderlying57, fieldPlace, Tryd.sizeOf3, Addr.add_lit]⟩
instance : StructAt Tryd.prog 57 [.int .i64 0, .int .i64 0] [(0, 1), (1, 1)] := ⟨fun parts cells h => by
  have e : Tryd.prog.built 57 parts = Instr.fill (([(0, 1), (1, 1)] : List (Nat × Nat)).toArray[·]?) (#[.int .i64 0, .int .i64 0] : Array Value) parts := by kernel_rfl
  rw [e]; simpa using h⟩
instance : ZeroVal Tryd.prog 57 (.agg #[.int .i64 0, .int .i64 0]) := ⟨Tryd.zeroValue57⟩
instance : OneCell Tryd.prog 58 := ⟨Tryd.isAgg58, Tryd.sizeOf58⟩
instance : ElemSize Tryd.prog 58 2 := ⟨by kernel_rfl, fun w => by have h : Tryd.prog.elem 58 = 97 := (by kernel_rfl); rw [h]; exact Tryd.sizeOf97 w⟩
instance : ElemInfo Tryd.prog 58 97 2 32 [.int .i64 0, .slice none 0 0] := ⟨by kernel_rfl, by kernel_rfl⟩
instance : ZeroVal Tryd.prog 58 (.slice none 0 0) := ⟨Tryd.zeroValue58⟩
instance : OneCell Tryd.prog 59 := ⟨Tryd.isAgg59, Tryd.sizeOf59⟩
instance : ElemSize Tryd.prog 59 8 := ⟨by kernel_rfl, fun w => by have h : Tryd.prog.elem 59 = 114 := (by kernel_rfl); rw [h]; exact Tryd.sizeOf114 w⟩
instance : ElemInfo Tryd.prog 59 114 8 80 [.int .i64 0, .int .i64 0, .bool false, .int .i64 0, .bool false, .int .i64 0, .int .i64 0, .slice none 0 0] := ⟨by kernel_rfl, by kernel_rfl⟩
instance : ZeroVal Tryd.prog 59 (.slice none 0 0) := ⟨Tryd.zeroValue59⟩
instance : AggSize Tryd.prog 60 2 := ⟨Tryd.isAgg60, Tryd.sizeOf60⟩
instance : FieldOff Tryd.prog 60 0 0 := ⟨fun b o w => by simp [Instr.fieldAt, Instr.sureAddr, Tryd.runUnderlying60, fieldPlace, Tryd.sizeOf4, Addr.add_lit]⟩
instance : FieldOff Tryd.prog 60 1 1 := ⟨fun b o w => by simp [Instr.fieldAt, Instr.sureAddr, Tryd.runUnderlying60, fieldPlace, Tryd.sizeOf3, Addr.add_lit]⟩
instance : StructAt Tryd.prog 60 [.bool false, .int .i64 0] [(0, 1), (1, 1)] := ⟨fun parts cells h => by
  have e : Tryd.prog.built 60 parts = Instr.fill (([(0, 1), (1, 1)] : List (Nat × Nat)).toArray[·]?) (#[.bool false, .int .i64 0] : Array Value) parts := by kernel_rfl
  rw [e]; simpa using h⟩
instance : ZeroVal Tryd.prog 60 (.agg #[.bool false, .int .i64 0]) := ⟨Tryd.zeroValue60⟩
instance : AggSize Tryd.prog 61 2 := ⟨Tryd.isAgg61, Tryd.sizeOf61⟩
instance : FieldOff Tryd.prog 61 0 0 := ⟨fun b o w => by simp [Instr.fieldAt, Instr.sureAddr, Tryd.runUnderlying61, fieldPlace, Tryd.sizeOf4, Addr.add_lit]⟩
instance : FieldOff Tryd.prog 61 1 1 := ⟨fun b o w => by simp [Instr.fieldAt, Instr.sureAddr, Tryd.runUnderlying61, fieldPlace, Tryd.sizeOf3, Addr.add_lit]⟩
instance : StructAt Tryd.prog 61 [.bool false, .int .i64 0] [(0, 1), (1, 1)] := ⟨fun parts cells h => by
  have e : Tryd.prog.built 61 parts = Instr.fill (([(0, 1), (1, 1)] : List (Nat × Nat)).toArray[·]?) (#[.bool false, .int .i64 0] : Array Value) parts := by kernel_rfl
  rw [e]; simpa using h⟩
instance : ZeroVal Tryd.prog 61 (.agg #[.bool false, .int .i64 0]) := ⟨Tryd.zeroValue61⟩
instance : AggSize Tryd.prog 62 4 := ⟨Tryd.isAgg62, Tryd.sizeOf62⟩
instance : FieldOff Tryd.prog 62 0 0 := ⟨fun b o w => by simp [Instr.fieldAt, Instr.sureAddr, Tryd.runUnderlying62, fieldPlace, Tryd.sizeOf3, Addr.add_lit]⟩
instance : FieldOff Tryd.prog 62 1 1 := ⟨fun b o w => by simp [Instr.fieldAt, Instr.sureAddr, Tryd.runUnderlying62, fieldPlace, Tryd.sizeOf61, Addr.add_lit]⟩
instance : FieldOff Tryd.prog 62 2 3 := ⟨fun b o w => by simp [Instr.fieldAt, Instr.sureAddr, Tryd.runUnderlying62, fieldPlace, Tryd.sizeOf27, Addr.add_lit]⟩
instance : StructAt Tryd.prog 62 [.int .i64 0, .bool false, .int .i64 0, .slice none 0 0] [(0, 1), (1, 2), (3, 1)] := ⟨fun parts cells h => by
  have e : Tryd.prog.built 62 parts = Instr.fill (([(0, 1), (1, 2), (3, 1)] : List (Nat × Nat)).toArray[·]?) (#[.int .i64 0, .bool false, .int .i64 0, .slice none 0 0] : Array Value) parts := by kernel_rfl
  rw [e]; simpa using h⟩
instance : ZeroVal Tryd.prog 62 (.agg #[.int .i64 0, .bool false, .int .i64 0, .slice none 0 0]) := ⟨Tryd.zeroValue62⟩
instance : AggSize Tryd.prog 63 4 := ⟨Tryd.isAgg63, Tryd.sizeOf63⟩
instance : FieldOff Tryd.prog 63 0 0 := ⟨fun b o w => by simp [Instr.fieldAt, Instr.sureAddr, Tryd.runUnderlying63, fieldPlace, Tryd.sizeOf3, Addr.add_lit]⟩
instance : FieldOff Tryd.prog 63 1 1 := ⟨fun b o w => by simp [Instr.fieldAt, Instr.sureAddr, Tryd.runUnderlying63, fieldPlace, Tryd.sizeOf61, Addr.add_lit]⟩
instance : FieldOff Tryd.prog 63 2 3 := ⟨fun b o w => by simp [Instr.fieldAt, Instr.sureAddr, Tryd.runUnderlying63, fieldPlace, Tryd.sizeOf27, Addr.add_lit]⟩
instance : StructAt Tryd.prog 63 [.int .i64 0, .bool false, .int .i64 0, .slice none 0 0] [(0, 1), (1, 2), (3, 1)] := ⟨fun parts cells h => by
  have e : Tryd.prog.built 63 parts = Instr.fill (([(0, 1), (1, 2), (3, 1)] : List (Nat × Nat)).toArray[·]?) (#[.int .i64 0, .bool false, .int .i64 0, .slice none 0 0] : Array Value) parts := by kernel_rfl
  rw [e]; simpa using h⟩
instance : ZeroVal Tryd.prog 63 (.agg #[.int .i64 0, .bool false, .int .i64 0, .slice none 0 0]) := ⟨Tryd.zeroValue63⟩
instance : AggSize Tryd.prog 64 6 := ⟨Tryd.isAgg64, Tryd.sizeOf64⟩
instance : FieldOff Tryd.prog 64 0 0 := ⟨fun b o w => by simp [Instr.fieldAt, Instr.sureAddr, Tryd.runUnderlying64, fieldPlace, Tryd.sizeOf58, Addr.add_lit]⟩
instance : FieldOff Tryd.prog 64 1 1 := ⟨fun b o w => by simp [Instr.fieldAt, Instr.sureAddr, Tryd.runUnderlying64, fieldPlace, Tryd.sizeOf59, Addr.add_lit]⟩
instance : FieldOff Tryd.prog 64 2 2 := ⟨fun b o w => by simp [Instr.fieldAt, Instr.sureAddr, Tryd.runUnderlying64, fieldPlace, Tryd.sizeOf63, Addr.add_lit]⟩
instance : StructAt Tryd.prog 64 [.slice none 0 0, .slice none 0 0, .int .i64 0, .bool false, .int .i64 0, .slice none 0 0] [(0, 1), (1, 1), (2, 4)] := ⟨fun parts cells h => by
  have e : Tryd.prog.built 64 parts = Instr.fill (([(0, 1), (1, 1), (2, 4)] : List (Nat × Nat)).toArray[·]?) (#[.slice none 0 0, .slice none 0 0, .int .i64 0, .bool false, .int .i64 0, .slice none 0 0] : Array Value) parts := by kernel_rfl
  rw [e]; simpa using h⟩
instance : ZeroVal Tryd.prog 64 (.agg #[.slice none 0 0, .slice none 0 0, .int .i64 0, .bool false, .int .i64 0, .slice none 0 0]) := ⟨Tryd.zeroValue64⟩
instance : AggSize Tryd.prog 65 6 := ⟨Tryd.isAgg65, Tryd.sizeOf65⟩
instance : FieldOff Tryd.prog 65 0 0 := ⟨fun b o w => by simp [Instr.fieldAt, Instr.sureAddr, Tryd.runUnderlying65, fieldPlace, Tryd.sizeOf58, Addr.add_lit]⟩
instance : FieldOff Tryd.prog 65 1 1 := ⟨fun b o w => by simp [Instr.fieldAt, Instr.sureAddr, Tryd.runUnderlying65, fieldPlace, Tryd.sizeOf59, Addr.add_lit]⟩
instance : FieldOff Tryd.prog 65 2 2 := ⟨fun b o w => by simp [Instr.fieldAt, Instr.sureAddr, Tryd.runUnderlying65, fieldPlace, Tryd.sizeOf63, Addr.add_lit]⟩
instance : StructAt Tryd.prog 65 [.slice none 0 0, .slice none 0 0, .int .i64 0, .bool false, .int .i64 0, .slice none 0 0] [(0, 1), (1, 1), (2, 4)] := ⟨fun parts cells h => by
  have e : Tryd.prog.built 65 parts = Instr.fill (([(0, 1), (1, 1), (2, 4)] : List (Nat × Nat)).toArray[·]?) (#[.slice none 0 0, .slice none 0 0, .int .i64 0, .bool false, .int .i64 0, .slice none 0 0] : Array Value) parts := by kernel_rfl
  rw [e]; simpa using h⟩
instance : ZeroVal Tryd.prog 65 (.agg #[.slice none 0 0, .slice none 0 0, .int .i64 0, .bool false, .int .i64 0, .slice none 0 0]) := ⟨Tryd.zeroValue65⟩
instance : OneCell Tryd.prog 66 := ⟨Tryd.isAgg66, Tryd.sizeOf66⟩
instance : ZeroVal Tryd.prog 66 (.nilFunc) := ⟨Tryd.zeroValue66⟩
instance : OneCell Tryd.prog 67 := ⟨Tryd.isAgg67, Tryd.sizeOf67⟩
instance : ZeroVal Tryd.prog 67 (.nilFunc) := ⟨Tryd.zeroValue67⟩
instance : OneCell Tryd.prog 68 := ⟨Tryd.isAgg68, Tryd.sizeOf68⟩
instance : ZeroVal Tryd.prog 68 (.nilFunc) := ⟨Tryd.zeroValue68⟩
instance : OneCell Tryd.prog 70 := ⟨Tryd.isAgg70, Tryd.sizeOf70⟩
instance : ZeroVal Tryd.prog 70 (.nilFunc) := ⟨Tryd.zeroValue70⟩
instance : OneCell Tryd.prog 71 := ⟨Tryd.isAgg71, Tryd.sizeOf71⟩
instance : ElemSize Tryd.prog 71 1 := ⟨by kernel_rfl, fun w => by have h : Tryd.prog.elem 71 = 38 := (by kernel_rfl); rw [h]; exact Tryd.sizeOf38 w⟩
instance : ElemInfo Tryd.prog 71 38 1 24 [.slice none 0 0] := ⟨by kernel_rfl, by kernel_rfl⟩
instance : ZeroVal Tryd.prog 71 (.slice none 0 0) := ⟨Tryd.zeroValue71⟩
instance : OneCell Tryd.prog 72 := ⟨Tryd.isAgg72, Tryd.sizeOf72⟩
instance : ZeroVal Tryd.prog 72 (.nilFunc) := ⟨Tryd.zeroValue72⟩
instance : OneCell Tryd.prog 73 := ⟨Tryd.isAgg73, Tryd.sizeOf73⟩
instance : ZeroVal Tryd.prog 73 (.nilFunc) := ⟨Tryd.zeroValue73⟩
instance : OneCell Tryd.prog 75 := ⟨Tryd.isAgg75, Tryd.sizeOf75⟩
instance : ZeroVal Tryd.prog 75 (.nilFunc) := ⟨Tryd.zeroValue75⟩
instance : OneCell Tryd.prog 76 := ⟨Tryd.isAgg76, Tryd.sizeOf76⟩
instance : ZeroVal Tryd.prog 76 (.nilFunc) := ⟨Tryd.zeroValue76⟩
instance : OneCell Tryd.prog 77 := ⟨Tryd.isAgg77, Tryd.sizeOf77⟩
instance : ZeroVal Tryd.prog 77 (.nilFunc) := ⟨Tryd.zeroValue77⟩
instance : OneCell Tryd.prog 78 := ⟨Tryd.isAgg78, Tryd.sizeOf78⟩
instance : ZeroVal Tryd.prog 78 (.nilFunc) := ⟨Tryd.zeroValue78⟩
instance : OneCell Tryd.prog 79 := ⟨Tryd.isAgg79, Tryd.sizeOf79⟩
instance : ZeroVal Tryd.prog 79 (.nilFunc) := ⟨Tryd.zeroValue79⟩
instance : OneCell Tryd.prog 80 := ⟨Tryd.isAgg80, Tryd.sizeOf80⟩
instance : ElemSize Tryd.prog 80 1 := ⟨by kernel_rfl, fun w => by have h : Tryd.prog.elem 80 = 9 := (by kernel_rfl); rw [h]; exact Tryd.sizeOf9 w⟩
instance : ElemInfo Tryd.prog 80 9 1 16 [.string ByteArray.empty] := ⟨by kernel_rfl, by kernel_rfl⟩
instance : ZeroVal Tryd.prog 80 (.slice none 0 0) := ⟨Tryd.zeroValue80⟩
instance : AggSize Tryd.prog 81 3 := ⟨Tryd.isAgg81, Tryd.sizeOf81⟩
instance : FieldOff Tryd.prog 81 0 0 := ⟨fun b o w => by simp [Instr.fieldAt, Instr.sureAddr, Tryd.runUnderlying81, fieldPlace, Tryd.sizeOf9, Addr.add_lit]⟩
instance : FieldOff Tryd.prog 81 1 1 := ⟨fun b o w => by simp [Instr.fieldAt, Instr.sureAddr, Tryd.runUnderlying81, fieldPlace, Tryd.sizeOf3, Addr.add_lit]⟩
instance : FieldOff Tryd.prog 81 2 2 := ⟨fun b o w => by simp [Instr.fieldAt, Instr.sureAddr, Tryd.runUnderlying81, fieldPlace, Tryd.sizeOf27, Addr.add_lit]⟩
instance : StructAt Tryd.prog 81 [.string ByteArray.empty, .int .i64 0, .slice none 0 0] [(0, 1), (1, 1), (2, 1)] := ⟨fun parts cells h => by
  have e : Tryd.prog.built 81 parts = Instr.fill (([(0, 1), (1, 1), (2, 1)] : List (Nat × Nat)).toArray[·]?) (#[.string ByteArray.empty, .int .i64 0, .slice none 0 0] : Array Value) parts := by kernel_rfl
  rw [e]; simpa using h⟩
instance : ZeroVal Tryd.prog 81 (.agg #[.string ByteArray.empty, .int .i64 0, .slice none 0 0]) := ⟨Tryd.zeroValue81⟩
instance : AggSize Tryd.prog 82 3 := ⟨Tryd.isAgg82, Tryd.sizeOf82⟩
instance : FieldOff Tryd.prog 82 0 0 := ⟨fun b o w => by simp [Instr.fieldAt, Instr.sureAddr, Tryd.runUnderlying82, fieldPlace, Tryd.sizeOf9, Addr.add_lit]⟩
instance : FieldOff Tryd.prog 82 1 1 := ⟨fun b o w => by simp [Instr.fieldAt, Instr.sureAddr, Tryd.runUnderlying82, fieldPlace, Tryd.sizeOf3, Addr.add_lit]⟩
instance : FieldOff Tryd.prog 82 2 2 := ⟨fun b o w => by simp [Instr.fieldAt, Instr.sureAddr, Tryd.runUnderlying82, fieldPlace, Tryd.sizeOf27, Addr.add_lit]⟩
instance : StructAt Tryd.prog 82 [.string ByteArray.empty, .int .i64 0, .slice none 0 0] [(0, 1), (1, 1), (2, 1)] := ⟨fun parts cells h => by
  have e : Tryd.prog.built 82 parts = Instr.fill (([(0, 1), (1, 1), (2, 1)] : List (Nat × Nat)).toArray[·]?) (#[.string ByteArray.empty, .int .i64 0, .slice none 0 0] : Array Value) parts := by kernel_rfl
  rw [e]; simpa using h⟩
instance : ZeroVal Tryd.prog 82 (.agg #[.string ByteArray.empty, .int .i64 0, .slice none 0 0]) := ⟨Tryd.zeroValue82⟩
instance : OneCell Tryd.prog 83 := ⟨Tryd.isAgg83, Tryd.sizeOf83⟩
instance : ZeroVal Tryd.prog 83 (.nilFunc) := ⟨Tryd.zeroValue83⟩
instance : OneCell Tryd.prog 84 := ⟨Tryd.isAgg84, Tryd.sizeOf84⟩
instance : ZeroVal Tryd.prog 84 (.nilFunc) := ⟨Tryd.zeroValue84⟩
instance : OneCell Tryd.prog 85 := ⟨Tryd.isAgg85, Tryd.sizeOf85⟩
instance : ZeroVal Tryd.prog 85 (.nilFunc) := ⟨Tryd.zeroValue85⟩
instance : AggSize Tryd.prog 86 7 := ⟨Tryd.isAgg86, Tryd.sizeOf86⟩
instance : FieldOff Tryd.prog 86 0 0 := ⟨fun b o w => by simp [Instr.fieldAt, Instr.sureAddr, Tryd.runUnderlying86, fieldPlace, Tryd.sizeOf25, Addr.add_lit]⟩
instance : FieldOff Tryd.prog 86 1 2 := ⟨fun b o w => by simp [Instr.fieldAt, Instr.sureAddr, Tryd.runUnderlying86, fieldPlace, Tryd.sizeOf35, Addr.add_lit]⟩
instance : FieldOff Tryd.prog 86 2 6 := ⟨fun b o w => by simp [Instr.fieldAt, Instr.sureAddr, Tryd.runUnderlying86, fieldPlace, Tryd.sizeOf44, Addr.add_lit]⟩
instance : StructAt Tryd.prog 86 [.slice none 0 0, .slice none 0 0, .string ByteArray.empty, .int .i64 0, .int .i64 0, .slice none 0 0, .slice none 0 0] [(0, 2), (2, 4), (6, 1)] := ⟨fun parts cells h => by
  have e : Tryd.prog.built 86 parts = Instr.fill (([(0, 2), (2, 4), (6, 1)] : List (Nat × Nat)).toArray[·]?) (#[.slice none 0 0, .slice none 0 0, .string ByteArray.empty, .int .i64 0, .int .i64 0, .slice none 0 0, .slice none 0 0] : Array Value) parts := by kernel_rfl
  rw [e]; simpa using h⟩
instance : ZeroVal Tryd.prog 86 (.agg #[.slice none 0 0, .slice none 0 0, .string ByteArray.empty, .int .i64 0, .int .i64 0, .slice none 0 0, .slice none 0 0]) := ⟨Tryd.zeroValue86⟩
instance : AggSize Tryd.prog 87 7 := ⟨Tryd.isAgg87, Tryd.sizeOf87⟩
instance : FieldOff Tryd.prog 87 0 0 := ⟨fun b o w => by simp [Instr.fieldAt, Instr.sureAddr, Tryd.runUnderlying87, fieldPlace, Tryd.sizeOf25, Addr.add_lit]⟩
instance : FieldOff Tryd.prog 87 1 2 := ⟨fun b o w => by simp [Instr.fieldAt, Instr.sureAddr, Tryd.runUnderlying87, fieldPlace, Tryd.sizeOf35, Addr.add_lit]⟩
instance : FieldOff Tryd.prog 87 2 6 := ⟨fun b o w => by simp [Instr.fieldAt, Instr.sureAddr, Tryd.runUnderlying87, fieldPlace, Tryd.sizeOf44, Addr.add_lit]⟩
instance : StructAt Tryd.prog 87 [.slice none 0 0, .slice none 0 0, .string ByteArray.empty, .int .i64 0, .int .i64 0, .slice none 0 0, .slice none 0 0] [(0, 2), (2, 4), (6, 1)] := ⟨fun parts cells h => by
  have e : Tryd.prog.built 87 parts = Instr.fill (([(0, 2), (2, 4), (6, 1)] : List (Nat × Nat)).toArray[·]?) (#[.slice none 0 0, .slice none 0 0, .string ByteArray.empty, .int .i64 0, .int .i64 0, .slice none 0 0, .slice none 0 0] : Array Value) parts := by kernel_rfl
  rw [e]; simpa using h⟩
instance : ZeroVal Tryd.prog 87 (.agg #[.slice none 0 0, .slice none 0 0, .string ByteArray.empty, .int .i64 0, .int .i64 0, .slice none 0 0, .slice none 0 0]) := ⟨Tryd.zeroValue87⟩
instance : OneCell Tryd.prog 88 := ⟨Tryd.isAgg88, Tryd.sizeOf88⟩
instance : ZeroVal Tryd.prog 88 (.nilFunc) := ⟨Tryd.zeroValue88⟩
instance : OneCell Tryd.prog 89 := ⟨Tryd.isAgg89, Tryd.sizeOf89⟩
instance : ZeroVal Tryd.prog 89 (.nilFunc) := ⟨Tryd.zeroValue89⟩
instance : OneCell Tryd.prog 90 := ⟨Tryd.isAgg90, Tryd.sizeOf90⟩
instance : ZeroVal Tryd.prog 90 (.nilFunc) := ⟨Tryd.zeroValue90⟩
instance : OneCell Tryd.prog 91 := ⟨Tryd.isAgg91, Tryd.sizeOf91⟩
instance : ZeroVal Tryd.prog 91 (.nilFunc) := ⟨Tryd.zeroValue91⟩
instance : OneCell Tryd.prog 92 := ⟨Tryd.isAgg92, Tryd.sizeOf92⟩
instance : ZeroVal Tryd.prog 92 (.nilFunc) := ⟨Tryd.zeroValue92⟩
instance : OneCell Tryd.prog 93 := ⟨Tryd.isAgg93, Tryd.sizeOf93⟩
instance : ElemSize Tryd.prog 93 3 := ⟨by kernel_rfl, fun w => by have h : Tryd.prog.elem 93 = 99 := (by kernel_rfl); rw [h]; exact Tryd.sizeOf99 w⟩
instance : ElemInfo Tryd.prog 93 99 3 24 [.int .i64 0, .bool false, .int .i64 0] := ⟨by kernel_rfl, by kernel_rfl⟩
instance : ZeroVal Tryd.prog 93 (.slice none 0 0) := ⟨Tryd.zeroValue93⟩
instance : OneCell Tryd.prog 94 := ⟨Tryd.isAgg94, Tryd.sizeOf94⟩
instance : ZeroVal Tryd.prog 94 (.nilFunc) := ⟨Tryd.zeroValue94⟩
instance : OneCell Tryd.prog 95 := ⟨Tryd.isAgg95, Tryd.sizeOf95⟩
instance : ElemSize Tryd.prog 95 2 := ⟨by kernel_rfl, fun w => by have h : Tryd.prog.elem 95 = 61 := (by kernel_rfl); rw [h]; exact Tryd.sizeOf61 w⟩
instance : ElemInfo Tryd.prog 95 61 2 16 [.bool false, .int .i64 0] := ⟨by kernel_rfl, by kernel_rfl⟩
instance : ZeroVal Tryd.prog 95 (.slice none 0 0) := ⟨Tryd.zeroValue95⟩
instance : AggSize Tryd.prog 96 2 := ⟨Tryd.isAgg96, Tryd.sizeOf96⟩
instance : FieldOff Tryd.prog 96 0 0 := ⟨fun b o w => by simp [Instr.fieldAt, Instr.sureAddr, Tryd.runUnderlying96, fieldPlace, Tryd.sizeOf3, Addr.add_lit]⟩
instance : FieldOff Tryd.prog 96 1 1 := ⟨fun b o w => by simp [Instr.fieldAt, Instr.sureAddr, Tryd.runUnderlying96, fieldPlace, Tryd.sizeOf95, Addr.add_lit]⟩
instance : StructAt Tryd.prog 96 [.int .i64 0, .slice none 0 0] [(0, 1), (1, 1)] := ⟨fun parts cells h => by
  have e : Tryd.prog.built 96 parts = Instr.fill (([(0, 1), (1, 1)] : List (Nat × Nat)).toArray[·]?) (#[.int .i64 0, .slice none 0 0] : Array Value) parts := by kernel_rfl
  rw [e]; simpa using h⟩
instance : ZeroVal Tryd.prog 96 (.agg #[.int .i64 0, .slice none 0 0]) := ⟨Tryd.zeroValue96⟩
instance : AggSize Tryd.prog 97 2 := ⟨Tryd.isAgg97, Tryd.sizeOf97⟩
instance : FieldOff Tryd.prog 97 0 0 := ⟨fun b o w => by simp [Instr.fieldAt, Instr.sureAddr, Tryd.runUnderlying97, fieldPlace, Tryd.sizeOf3, Addr.add_lit]⟩
instance : FieldOff Tryd.prog 97 1 1 := ⟨fun b o w => by simp [Instr.fieldAt, Instr.sureAddr, Tryd.runUnderlying97, fieldPlace, Tryd.sizeOf95, Addr.add_lit]⟩
instance : StructAt Tryd.prog 97 [.int .i64 0, .slice none 0 0] [(0, 1), (1, 1)] := ⟨fun parts cells h => by
  have e : Tryd.prog.built 97 parts = Instr.fill (([(0, 1), (1, 1)] : List (Nat × Nat)).toArray[·]?) (#[.int .i64 0, .slice none 0 0] : Array Value) parts := by kernel_rfl
  rw [e]; simpa using h⟩
instance : ZeroVal Tryd.prog 97 (.agg #[.int .i64 0, .slice none 0 0]) := ⟨Tryd.zeroValue97⟩
instance : AggSize Tryd.prog 98 3 := ⟨Tryd.isAgg98, Tryd.sizeOf98⟩
instance : FieldOff Tryd.prog 98 0 0 := ⟨fun b o w => by simp [Instr.fieldAt, Instr.sureAddr, Tryd.runUnderlying98, fieldPlace, Tryd.sizeOf3, Addr.add_lit]⟩
instance : FieldOff Tryd.prog 98 1 1 := ⟨fun b o w => by simp [Instr.fieldAt, Instr.sureAddr, Tryd.runUnderlying98, fieldPlace, Tryd.sizeOf61, Addr.add_lit]⟩
instance : StructAt Tryd.prog 98 [.int .i64 0, .bool false, .int .i64 0] [(0, 1), (1, 2)] := ⟨fun parts cells h => by
  have e : Tryd.prog.built 98 parts = Instr.fill (([(0, 1), (1, 2)] : List (Nat × Nat)).toArray[·]?) (#[.int .i64 0, .bool false, .int .i64 0] : Array Value) parts := by kernel_rfl
  rw [e]; simpa using h⟩
instance : ZeroVal Tryd.prog 98 (.agg #[.int .i64 0, .bool false, .int .i64 0]) := ⟨Tryd.zeroValue98⟩
instance : AggSize Tryd.prog 99 3 := ⟨Tryd.isAgg99, Tryd.sizeOf99⟩
instance : FieldOff Tryd.prog 99 0 0 := ⟨fun b o w => by simp [Instr.fieldAt, Instr.sureAddr, Tryd.runUnderlying99, fieldPlace, Tryd.sizeOf3, Addr.add_lit]⟩
instance : FieldOff Tryd.prog 99 1 1 := ⟨fun b o w => by simp [Instr.fieldAt, Instr.sureAddr, Tryd.runUnderlying99, fieldPlace, Tryd.sizeOf61, Addr.add_lit]⟩
instance : StructAt Tryd.prog 99 [.int .i64 0, .bool false, .int .i64 0] [(0, 1), (1, 2)] := ⟨fun parts cells h => by
  have e : Tryd.prog.built 99 parts = Instr.fill (([(0, 1), (1, 2)] : List (Nat × Nat)).toArray[·]?) (#[.int .i64 0, .bool false, .int .i64 0] : Array Value) parts := by kernel_rfl
  rw [e]; simpa using h⟩
instance : ZeroVal Tryd.prog 99 (.agg #[.int .i64 0, .bool false, .int .i64 0]) := ⟨Tryd.zeroValue99⟩
instance : OneCell Tryd.prog 100 := ⟨Tryd.isAgg100, Tryd.sizeOf100⟩
instance : ZeroVal Tryd.prog 100 (.nilFunc) := ⟨Tryd.zeroValue100⟩
instance : OneCell Tryd.prog 101 := ⟨Tryd.isAgg101, Tryd.sizeOf101⟩
instance : ZeroVal Tryd.prog 101 (.nilFunc) := ⟨Tryd.zeroValue101⟩
instance : OneCell Tryd.prog 102 := ⟨Tryd.isAgg102, Tryd.sizeOf102⟩
instance : ElemSize Tryd.prog 102 1 := ⟨by kernel_rfl, fun w => by have h : Tryd.prog.elem 102 = 107 := (by kernel_rfl); rw [h]; exact Tryd.sizeOf107 w⟩
instance : ElemInfo Tryd.prog 102 107 1 24 [.slice none 0 0] := ⟨by kernel_rfl, by kernel_rfl⟩
instance : ZeroVal Tryd.prog 102 (.slice none 0 0) := ⟨Tryd.zeroValue102⟩
instance : OneCell Tryd.prog 104 := ⟨Tryd.isAgg104, Tryd.sizeOf104⟩
instance : ZeroVal Tryd.prog 104 (.nilFunc) := ⟨Tryd.zeroValue104⟩
instance : OneCell Tryd.prog 105 := ⟨Tryd.isAgg105, Tryd.sizeOf105⟩
instance : ZeroVal Tryd.prog 105 (.nilFunc) := ⟨Tryd.zeroValue105⟩
instance : OneCell Tryd.prog 106 := ⟨Tryd.isAgg106, Tryd.sizeOf106⟩
instance : ZeroVal Tryd.prog 106 (.nilFunc) := ⟨Tryd.zeroValue106⟩
instance : OneCell Tryd.prog 107 := ⟨Tryd.isAgg107, Tryd.sizeOf107⟩
instance : ElemSize Tryd.prog 107 1 := ⟨by kernel_rfl, fun w => by have h : Tryd.prog.elem 107 = 4 := (by kernel_rfl); rw [h]; exact Tryd.sizeOf4 w⟩
instance : ElemInfo Tryd.prog 107 4 1 1 [.bool false] := ⟨by kernel_rfl, by kernel_rfl⟩
instance : ZeroVal Tryd.prog 107 (.slice none 0 0) := ⟨Tryd.zeroValue107⟩
instance : OneCell Tryd.prog 108 := ⟨Tryd.isAgg108, Tryd.sizeOf108⟩
instance : ZeroVal Tryd.prog 108 (.nilFunc) := ⟨Tryd.zeroValue108⟩
instance : OneCell Tryd.prog 109 := ⟨Tryd.isAgg109, Tryd.sizeOf109⟩
instance : ZeroVal Tryd.prog 109 (.nilFunc) := ⟨Tryd.zeroValue109⟩
instance : OneCell Tryd.prog 110 := ⟨Tryd.isAgg110, Tryd.sizeOf110⟩
instance : ZeroVal Tryd.prog 110 (.nilFunc) := ⟨Tryd.zeroValue110⟩
instance : OneCell Tryd.prog 111 := ⟨Tryd.isAgg111, Tryd.sizeOf111⟩
instance : ZeroVal Tryd.prog 111 (.nilFunc) := ⟨Tryd.zeroValue111⟩
instance : OneCell Tryd.prog 112 := ⟨Tryd.isAgg112, Tryd.sizeOf112⟩
instance : ZeroVal Tryd.prog 112 (.nilFunc) := ⟨Tryd.zeroValue112⟩
instance : AggSize Tryd.prog 113 8 := ⟨Tryd.isAgg113, Tryd.sizeOf113⟩
instance : FieldOff Tryd.prog 113 0 0 := ⟨fun b o w => by simp [Instr.fieldAt, Instr.sureAddr, Tryd.runUnderlying113, fieldPlace, Tryd.sizeOf3, Addr.add_lit]⟩
instance : FieldOff Tryd.prog 113 1 1 := ⟨fun b o w => by simp [Instr.fieldAt, Instr.sureAddr, Tryd.runUnderlying113, fieldPlace, Tryd.sizeOf3, Addr.add_lit]⟩
instance : FieldOff Tryd.prog 113 2 2 := ⟨fun b o w => by simp [Instr.fieldAt, Instr.sureAddr, Tryd.runUnderlying113, fieldPlace, Tryd.sizeOf61, Addr.add_lit]⟩
instance : FieldOff Tryd.prog 113 3 4 := ⟨fun b o w => by simp [Instr.fieldAt, Instr.sureAddr, Tryd.runUnderlying113, fieldPlace, Tryd.sizeOf61, Addr.add_lit]⟩
instance : FieldOff Tryd.prog 113 4 6 := ⟨fun b o w => by simp [Instr.fieldAt, Instr.sureAddr, Tryd.runUnderlying113, fieldPlace, Tryd.sizeOf3, Addr.add_lit]⟩
instance : FieldOff Tryd.prog 113 5 7 := ⟨fun b o w => by simp [Instr.fieldAt, Instr.sureAddr, Tryd.runUnderlying113, fieldPlace, Tryd.sizeOf95, Addr.add_lit]⟩
instance : StructAt Tryd.prog 113 [.int .i64 0, .int .i64 0, .bool false, .int .i64 0, .bool false, .int .i64 0, .int .i64 0, .slice none 0 0] [(0, 1), (1, 1), (2, 2), (4, 2), (6, 1), (7, 1)] := ⟨fun parts cells h => by
  have e : Tryd.prog.built 113 parts = Instr.fill (([(0, 1), (1, 1), (2, 2), (4, 2), (6, 1), (7, 1)] : List (Nat × Nat)).toArray[·]?) (#[.int .i64 0, .int .i64 0, .bool false, .int .i64 0, .bool false, .int .i64 0, .int .i64 0, .slice none 0 0] : Array Value) parts := by kernel_rfl
  rw [e]; simpa using h⟩
instance : ZeroVal Tryd.prog 113 (.agg #[.int .i64 0, .int .i64 0, .bool false, .int .i64 0, .bool false, .int .i64 0, .int .i64 0, .slice none 0 0]) := ⟨Tryd.zeroValue113⟩
instance : AggSize Tryd.prog 114 8 := ⟨Tryd.isAgg114, Tryd.sizeOf114⟩
instance : FieldOff Tryd.prog 114 0 0 := ⟨fun b o w => by simp [Instr.fieldAt, Instr.sureAddr, Tryd.runUnderlying114, fieldPlace, Tryd.sizeOf3, Addr.add_lit]⟩
instance : FieldOff Tryd.prog 114 1 1 := ⟨fun b o w => by simp [Instr.fieldAt, Instr.sureAddr, Tryd.runUnderlying114, fieldPlace, Tryd.sizeOf3, Addr.add_lit]⟩
instance : FieldOff Tryd.prog 114 2 2 := ⟨fun b o w => by simp [Instr.fieldAt, Instr.sureAddr, Tryd.runUnderlying114, fieldPlace, Tryd.sizeOf61, Addr.add_lit]⟩
instance : FieldOff Tryd.prog 114 3 4 := ⟨fun b o w => by simp [Instr.fieldAt, Instr.sureAddr, Tryd.runUnderlying114, fieldPlace, Tryd.sizeOf61, Addr.add_lit]⟩
instance : FieldOff Tryd.prog 114 4 6 := ⟨fun b o w => by simp [Instr.fieldAt, Instr.sureAddr, Tryd.runUnderlying114, fieldPlace, Tryd.sizeOf3, Addr.add_lit]⟩
instance : FieldOff Tryd.prog 114 5 7 := ⟨fun b o w => by simp [Instr.fieldAt, Instr.sureAddr, Tryd.runUnderlying114, fieldPlace, Tryd.sizeOf95, Addr.add_lit]⟩
instance : StructAt Tryd.prog 114 [.int .i64 0, .int .i64 0, .bool false, .int .i64 0, .bool false, .int .i64 0, .int .i64 0, .slice none 0 0] [(0, 1), (1, 1), (2, 2), (4, 2), (6, 1), (7, 1)] := ⟨fun parts cells h => by
  have e : Tryd.prog.built 114 parts = Instr.fill (([(0, 1), (1, 1), (2, 2), (4, 2), (6, 1), (7, 1)] : List (Nat × Nat)).toArray[·]?) (#[.int .i64 0, .int .i64 0, .bool false, .int .i64 0, .bool false, .int .i64 0, .int .i64 0, .slice none 0 0] : Array Value) parts := by kernel_rfl
  rw [e]; simpa using h⟩
instance : ZeroVal Tryd.prog 114 (.agg #[.int .i64 0, .int .i64 0, .bool false, .int .i64 0, .bool false, .int .i64 0, .int .i64 0, .slice none 0 0]) := ⟨Tryd.zeroValue114⟩
instance : OneCell Tryd.prog 115 := ⟨Tryd.isAgg115, Tryd.sizeOf115⟩
instance : ZeroVal Tryd.prog 115 (.nilFunc) := ⟨Tryd.zeroValue115⟩
instance : OneCell Tryd.prog 116 := ⟨Tryd.isAgg116, Tryd.sizeOf116⟩
instance : ZeroVal Tryd.prog 116 (.nilFunc) := ⟨Tryd.zeroValue116⟩
instance : OneCell Tryd.prog 117 := ⟨Tryd.isAgg117, Tryd.sizeOf117⟩
instance : ZeroVal Tryd.prog 117 (.nilFunc) := ⟨Tryd.zeroValue117⟩
instance : OneCell Tryd.prog 118 := ⟨Tryd.isAgg118, Tryd.sizeOf118⟩
instance : ZeroVal Tryd.prog 118 (.nilFunc) := ⟨Tryd.zeroValue118⟩
instance : OneCell Tryd.prog 119 := ⟨Tryd.isAgg119, Tryd.sizeOf119⟩
instance : ZeroVal Tryd.prog 119 (.nilFunc) := ⟨Tryd.zeroValue119⟩
instance : OneCell Tryd.prog 120 := ⟨Tryd.isAgg120, Tryd.sizeOf120⟩
instance : ZeroVal Tryd.prog 120 (.nilFunc) := ⟨Tryd.zeroValue120⟩
instance : OneCell Tryd.prog 121 := ⟨Tryd.isAgg121, Tryd.sizeOf121⟩
instance : ZeroVal Tryd.prog 121 (.nilFunc) := ⟨Tryd.zeroValue121⟩
instance : OneCell Tryd.prog 122 := ⟨Tryd.isAgg122, Tryd.sizeOf122⟩
instance : ZeroVal Tryd.prog 122 (.nilFunc) := ⟨Tryd.zeroValue122⟩
instance : OneCell Tryd.prog 123 := ⟨Tryd.isAgg123, Tryd.sizeOf123⟩
instance : ZeroVal Tryd.prog 123 (.nilFunc) := ⟨Tryd.zeroValue123⟩
instance : OneCell Tryd.prog 124 := ⟨Tryd.isAgg124, Tryd.sizeOf124⟩
instance : ZeroVal Tryd.prog 124 (.nilFunc) := ⟨Tryd.zeroValue124⟩
instance : OneCell Tryd.prog 125 := ⟨Tryd.isAgg125, Tryd.sizeOf125⟩
instance : ZeroVal Tryd.prog 125 (.nilFunc) := ⟨Tryd.zeroValue125⟩
instance : OneCell Tryd.prog 126 := ⟨Tryd.isAgg126, Tryd.sizeOf126⟩
instance : ZeroVal Tryd.prog 126 (.nilFunc) := ⟨Tryd.zeroValue126⟩
instance : OneCell Tryd.prog 127 := ⟨Tryd.isAgg127, Tryd.sizeOf127⟩
instance : ZeroVal Tryd.prog 127 (.nilFunc) := ⟨Tryd.zeroValue127⟩
instance : OneCell Tryd.prog 128 := ⟨Tryd.isAgg128, Tryd.sizeOf128⟩
instance : ZeroVal Tryd.prog 128 (.nilFunc) := ⟨Tryd.zeroValue128⟩
instance : OneCell Tryd.prog 129 := ⟨Tryd.isAgg129, Tryd.sizeOf129⟩
instance : ZeroVal Tryd.prog 129 (.pointer none) := ⟨Tryd.zeroValue129⟩
instance : OneCell Tryd.prog 130 := ⟨Tryd.isAgg130, Tryd.sizeOf130⟩
instance : ZeroVal Tryd.prog 130 (.nilFunc) := ⟨Tryd.zeroValue130⟩
instance : OneCell Tryd.prog 131 := ⟨Tryd.isAgg131, Tryd.sizeOf131⟩
instance : ZeroVal Tryd.prog 131 (.nilFunc) := ⟨Tryd.zeroValue131⟩
instance : OneCell Tryd.prog 132 := ⟨Tryd.isAgg132, Tryd.sizeOf132⟩
instance : ZeroVal Tryd.prog 132 (.nilFunc) := ⟨Tryd.zeroValue132⟩
instance : OneCell Tryd.prog 133 := ⟨Tryd.isAgg133, Tryd.sizeOf133⟩
instance : ZeroVal Tryd.prog 133 (.nilFunc) := ⟨Tryd.zeroValue133⟩
instance : OneCell Tryd.prog 134 := ⟨Tryd.isAgg134, Tryd.sizeOf134⟩
instance : ZeroVal Tryd.prog 134 (.nilFunc) := ⟨Tryd.zeroValue134⟩
instance : OneCell Tryd.prog 135 := ⟨Tryd.isAgg135, Tryd.sizeOf135⟩
instance : ZeroVal Tryd.prog 135 (.nilFunc) := ⟨Tryd.zeroValue135⟩
instance : OneCell Tryd.prog 136 := ⟨Tryd.isAgg136, Tryd.sizeOf136⟩
instance : ZeroVal Tryd.prog 136 (.nilFunc) := ⟨Tryd.zeroValue136⟩
instance : OneCell Tryd.prog 137 := ⟨Tryd.isAgg137, Tryd.sizeOf137⟩
instance : ZeroVal Tryd.prog 137 (.nilFunc) := ⟨Tryd.zeroValue137⟩
instance : OneCell Tryd.prog 138 := ⟨Tryd.isAgg138, Tryd.sizeOf138⟩
instance : ZeroVal Tryd.prog 138 (.nilFunc) := ⟨Tryd.zeroValue138⟩
instance : OneCell Tryd.prog 139 := ⟨Tryd.isAgg139, Tryd.sizeOf139⟩
instance : ZeroVal Tryd.prog 139 (.nilFunc) := ⟨Tryd.zeroValue139⟩
instance : OneCell Tryd.prog 140 := ⟨Tryd.isAgg140, Tryd.sizeOf140⟩
instance : ZeroVal Tryd.prog 140 (.nilFunc) := ⟨Tryd.zeroValue140⟩
instance : OneCell Tryd.prog 141 := ⟨Tryd.isAgg141, Tryd.sizeOf141⟩
instance : ElemSize Tryd.prog 141 2 := ⟨by kernel_rfl, fun w => by have h : Tryd.prog.elem 141 = 57 := (by kernel_rfl); rw [h]; exact Tryd.sizeOf57 w⟩
instance : ElemInfo Tryd.prog 141 57 2 16 [.int .i64 0, .int .i64 0] := ⟨by kernel_rfl, by kernel_rfl⟩
instance : ZeroVal Tryd.prog 141 (.slice none 0 0) := ⟨Tryd.zeroValue141⟩
instance : OneCell Tryd.prog 142 := ⟨Tryd.isAgg142, Tryd.sizeOf142⟩
instance : ZeroVal Tryd.prog 142 (.nilFunc) := ⟨Tryd.zeroValue142⟩
instance : OneCell Tryd.prog 143 := ⟨Tryd.isAgg143, Tryd.sizeOf143⟩
instance : ZeroVal Tryd.prog 143 (.nilFunc) := ⟨Tryd.zeroValue143⟩
instance : OneCell Tryd.prog 144 := ⟨Tryd.isAgg144, Tryd.sizeOf144⟩
instance : ZeroVal Tryd.prog 144 (.nilFunc) := ⟨Tryd.zeroValue144⟩
instance : OneCell Tryd.prog 145 := ⟨Tryd.isAgg145, Tryd.sizeOf145⟩
instance : ZeroVal Tryd.prog 145 (.nilFunc) := ⟨Tryd.zeroValue145⟩
instance : OneCell Tryd.prog 146 := ⟨Tryd.isAgg146, Tryd.sizeOf146⟩
instance : ZeroVal Tryd.prog 146 (.nilFunc) := ⟨Tryd.zeroValue146⟩
instance : OneCell Tryd.prog 147 := ⟨Tryd.isAgg147, Tryd.sizeOf147⟩
instance : ZeroVal Tryd.prog 147 (.nilFunc) := ⟨Tryd.zeroValue147⟩
instance : OneCell Tryd.prog 148 := ⟨Tryd.isAgg148, Tryd.sizeOf148⟩
instance : ZeroVal Tryd.prog 148 (.nilFunc) := ⟨Tryd.zeroValue148⟩
instance : OneCell Tryd.prog 149 := ⟨Tryd.isAgg149, Tryd.sizeOf149⟩
instance : ZeroVal Tryd.prog 149 (.nilFunc) := ⟨Tryd.zeroValue149⟩
instance : OneCell Tryd.prog 150 := ⟨Tryd.isAgg150, Tryd.sizeOf150⟩
instance : ZeroVal Tryd.prog 150 (.nilFunc) := ⟨Tryd.zeroValue150⟩
instance : OneCell Tryd.prog 151 := ⟨Tryd.isAgg151, Tryd.sizeOf151⟩
instance : ZeroVal Tryd.prog 151 (.nilFunc) := ⟨Tryd.zeroValue151⟩
instance : OneCell Tryd.prog 152 := ⟨Tryd.isAgg152, Tryd.sizeOf152⟩
instance : ZeroVal Tryd.prog 152 (.nilFunc) := ⟨Tryd.zeroValue152⟩
instance : OneCell Tryd.prog 153 := ⟨Tryd.isAgg153, Tryd.sizeOf153⟩
instance : ZeroVal Tryd.prog 153 (.nilFunc) := ⟨Tryd.zeroValue153⟩
instance : OneCell Tryd.prog 154 := ⟨Tryd.isAgg154, Tryd.sizeOf154⟩
instance : ZeroVal Tryd.prog 154 (.nilFunc) := ⟨Tryd.zeroValue154⟩
instance : OneCell Tryd.prog 155 := ⟨Tryd.isAgg155, Tryd.sizeOf155⟩
instance : ZeroVal Tryd.prog 155 (.nilFunc) := ⟨Tryd.zeroValue155⟩
instance : OneCell Tryd.prog 156 := ⟨Tryd.isAgg156, Tryd.sizeOf156⟩
instance : ZeroVal Tryd.prog 156 (.nilFunc) := ⟨Tryd.zeroValue156⟩
instance : OneCell Tryd.prog 157 := ⟨Tryd.isAgg157, Tryd.sizeOf157⟩
instance : ZeroVal Tryd.prog 157 (.nilFunc) := ⟨Tryd.zeroValue157⟩
instance : OneCell Tryd.prog 158 := ⟨Tryd.isAgg158, Tryd.sizeOf158⟩
instance : ZeroVal Tryd.prog 158 (.pointer none) := ⟨Tryd.zeroValue158⟩
instance : OneCell Tryd.prog 159 := ⟨Tryd.isAgg159, Tryd.sizeOf159⟩
instance : ZeroVal Tryd.prog 159 (.nilFunc) := ⟨Tryd.zeroValue159⟩
instance : AggSize Tryd.prog 160 4 := ⟨Tryd.isAgg160, Tryd.sizeOf160⟩
instance : ArrOf Tryd.prog 160 4 1 := ⟨by kernel_rfl, by kernel_rfl, fun w => by have h : Tryd.prog.elem 160 = 3 := (by kernel_rfl); rw [h]; exact Tryd.sizeOf3 w⟩
instance : ZeroVal Tryd.prog 160 (.agg #[.int .i64 0, .int .i64 0, .int .i64 0, .int .i64 0]) := ⟨Tryd.zeroValue160⟩
instance : OneCell Tryd.prog 161 := ⟨Tryd.isAgg161, Tryd.sizeOf161⟩
instance : ZeroVal Tryd.prog 161 (.nilFunc) := ⟨Tryd.zeroValue161⟩
instance : OneCell Tryd.prog 162 := ⟨Tryd.isAgg162, Tryd.sizeOf162⟩
instance : ZeroVal Tryd.prog 162 (.nilFunc) := ⟨Tryd.zeroValue162⟩
instance : AggSize Tryd.prog 163 3 := ⟨Tryd.isAgg163, Tryd.sizeOf163⟩
instance : FieldOff Tryd.prog 163 0 0 := ⟨fun b o w => by simp [Instr.fieldAt, Instr.sureAddr, Tryd.runUnderlying163, fieldPlace, Tryd.sizeOf4, Addr.add_lit]⟩
instance : FieldOff Tryd.prog 163 1 1 := ⟨fun b o w => by simp [Instr.fieldAt, Instr.sureAddr, Tryd.runUnderlying163, fieldPlace, Tryd.sizeOf4, Addr.add_lit]⟩
instance : FieldOff Tryd.prog 163 2 2 := ⟨fun b o w => by simp [Instr.fieldAt, Instr.sureAddr, Tryd.runUnderlying163, fieldPlace, Tryd.sizeOf4, Addr.add_lit]⟩
instance : StructAt Tryd.prog 163 [.bool false, .bool false, .bool false] [(0, 1), (1, 1), (2, 1)] := ⟨fun parts cells h => by
  have e : Tryd.prog.built 163 parts = Instr.fill (([(0, 1), (1, 1), (2, 1)] : List (Nat × Nat)).toArray[·]?) (#[.bool false, .bool false, .bool false] : Array Value) parts := by kernel_rfl
  rw [e]; simpa using h⟩
instance : ZeroVal Tryd.prog 163 (.agg #[.bool false, .bool false, .bool false]) := ⟨Tryd.zeroValue163⟩
instance : AggSize Tryd.prog 164 3 := ⟨Tryd.isAgg164, Tryd.sizeOf164⟩
instance : FieldOff Tryd.prog 164 0 0 := ⟨fun b o w => by simp [Instr.fieldAt, Instr.sureAddr, Tryd.runUnderlying164, fieldPlace, Tryd.sizeOf4, Addr.add_lit]⟩
instance : FieldOff Tryd.prog 164 1 1 := ⟨fun b o w => by simp [Instr.fieldAt, Instr.sureAddr, Tryd.runUnderlying164, fieldPlace, Tryd.sizeOf4, Addr.add_lit]⟩
instance : FieldOff Tryd.prog 164 2 2 := ⟨fun b o w => by simp [Instr.fieldAt, Instr.sureAddr, Tryd.runUnderlying164, fieldPlace, Tryd.sizeOf4, Addr.add_lit]⟩
instance : StructAt Tryd.prog 164 [.bool false, .bool false, .bool false] [(0, 1), (1, 1), (2, 1)] := ⟨fun parts cells h => by
  have e : Tryd.prog.built 164 parts = Instr.fill (([(0, 1), (1, 1), (2, 1)] : List (Nat × Nat)).toArray[·]?) (#[.bool false, .bool false, .bool false] : Array Value) parts := by kernel_rfl
  rw [e]; simpa using h⟩
instance : ZeroVal Tryd.prog 164 (.agg #[.bool false, .bool false, .bool false]) := ⟨Tryd.zeroValue164⟩
instance : OneCell Tryd.prog 165 := ⟨Tryd.isAgg165, Tryd.sizeOf165⟩
instance : ZeroVal Tryd.prog 165 (.nilFunc) := ⟨Tryd.zeroValue165⟩
instance : OneCell Tryd.prog 166 := ⟨Tryd.isAgg166, Tryd.sizeOf166⟩
instance : ZeroVal Tryd.prog 166 (.nilFunc) := ⟨Tryd.zeroValue166⟩
instance : OneCell Tryd.prog 167 := ⟨Tryd.isAgg167, Tryd.sizeOf167⟩
instance : ZeroVal Tryd.prog 167 (.nilFunc) := ⟨Tryd.zeroValue167⟩
instance : OneCell Tryd.prog 168 := ⟨Tryd.isAgg168, Tryd.sizeOf168⟩
instance : ZeroVal Tryd.prog 168 (.int .u64 0) := ⟨Tryd.zeroValue168⟩
instance : OneCell Tryd.prog 170 := ⟨Tryd.isAgg170, Tryd.sizeOf170⟩
instance : ZeroVal Tryd.prog 170 (.nilFunc) := ⟨Tryd.zeroValue170⟩
instance : OneCell Tryd.prog 171 := ⟨Tryd.isAgg171, Tryd.sizeOf171⟩
instance : ZeroVal Tryd.prog 171 (.nilFunc) := ⟨Tryd.zeroValue171⟩
instance : OneCell Tryd.prog 172 := ⟨Tryd.isAgg172, Tryd.sizeOf172⟩
instance : ElemSize Tryd.prog 172 1 := ⟨by kernel_rfl, fun w => by have h : Tryd.prog.elem 172 = 89 := (by kernel_rfl); rw [h]; exact Tryd.sizeOf89 w⟩
instance : ElemInfo Tryd.prog 172 89 1 8 [.nilFunc] := ⟨by kernel_rfl, by kernel_rfl⟩
instance : ZeroVal Tryd.prog 172 (.slice none 0 0) := ⟨Tryd.zeroValue172⟩
instance : OneCell Tryd.prog 173 := ⟨Tryd.isAgg173, Tryd.sizeOf173⟩
instance : ZeroVal Tryd.prog 173 (.nilFunc) := ⟨Tryd.zeroValue173⟩
instance : OneCell Tryd.prog 174 := ⟨Tryd.isAgg174, Tryd.sizeOf174⟩
instance : ZeroVal Tryd.prog 174 (.nilFunc) := ⟨Tryd.zeroValue174⟩
instance : OneCell Tryd.prog 175 := ⟨Tryd.isAgg175, Tryd.sizeOf175⟩
instance : ZeroVal Tryd.prog 175 (.int .u32 0) := ⟨Tryd.zeroValue175⟩
instance : OneCell Tryd.prog 177 := ⟨Tryd.isAgg177, Tryd.sizeOf177⟩
instance : ZeroVal Tryd.prog 177 (.nilFunc) := ⟨Tryd.zeroValue177⟩
instance : OneCell Tryd.prog 178 := ⟨Tryd.isAgg178, Tryd.sizeOf178⟩
instance : ZeroVal Tryd.prog 178 (.int .u64 0) := ⟨Tryd.zeroValue178⟩
instance : OneCell Tryd.prog 180 := ⟨Tryd.isAgg180, Tryd.sizeOf180⟩
instance : ZeroVal Tryd.prog 180 (.nilFunc) := ⟨Tryd.zeroValue180⟩
instance : OneCell Tryd.prog 181 := ⟨Tryd.isAgg181, Tryd.sizeOf181⟩
instance : ZeroVal Tryd.prog 181 (.nilFunc) := ⟨Tryd.zeroValue181⟩
instance : OneCell Tryd.prog 189 := ⟨Tryd.isAgg189, Tryd.sizeOf189⟩
instance : ZeroVal Tryd.prog 189 (.nilFunc) := ⟨Tryd.zeroValue189⟩
instance : OneCell Tryd.prog 190 := ⟨Tryd.isAgg190, Tryd.sizeOf190⟩
instance : ZeroVal Tryd.prog 190 (.pointer none) := ⟨Tryd.zeroValue190⟩
instance : ZeroVal Tryd.prog 195 (.pointer none) := ⟨Tryd.zeroValue195⟩
instance : EnterOk Tryd.prog 3 := ⟨Tryd.call3⟩
instance : EnterOk Tryd.prog 4 := ⟨Tryd.call4⟩
instance : EnterOk Tryd.prog 5 := ⟨Tryd.call5⟩
instance : EnterOk Tryd.prog 6 := ⟨Tryd.call6⟩
instance : EnterOk Tryd.prog 7 := ⟨Tryd.call7⟩
instance : EnterOk Tryd.prog 8 := ⟨Tryd.call8⟩
instance : EnterOk Tryd.prog 9 := ⟨Tryd.call9⟩
instance : EnterOk Tryd.prog 10 := ⟨Tryd.call10⟩
instance : EnterOk Tryd.prog 11 := ⟨Tryd.call11⟩
instance : EnterOk Tryd.prog 12 := ⟨Tryd.call12⟩
instance : EnterOk Tryd.prog 13 := ⟨Tryd.call13⟩
instance : EnterOk Tryd.prog 14 := ⟨Tryd.call14⟩
instance : EnterOk Tryd.prog 15 := ⟨Tryd.call15⟩
instance : EnterOk Tryd.prog 16 := ⟨Tryd.call16⟩
instance : EnterOk Tryd.prog 17 := ⟨Tryd.call17⟩
instance : EnterOk Tryd.prog 18 := ⟨Tryd.call18⟩
instance : EnterOk Tryd.prog 19 := ⟨Tryd.call19⟩
instance : EnterOk Tryd.prog 20 := ⟨Tryd.call20⟩
instance : EnterOk Tryd.prog 21 := ⟨Tryd.call21⟩
instance : EnterOk Tryd.prog 22 := ⟨Tryd.call22⟩
instance : EnterOk Tryd.prog 23 := ⟨Tryd.call23⟩
instance : EnterOk Tryd.prog 24 := ⟨Tryd.call24⟩
instance : EnterOk Tryd.prog 25 := ⟨Tryd.call25⟩
instance : EnterOk Tryd.prog 26 := ⟨Tryd.call26⟩
instance : EnterOk Tryd.prog 27 := ⟨Tryd.call27⟩
instance : EnterOk Tryd.prog 28 := ⟨Tryd.call28⟩
instance : EnterOk Tryd.prog 29 := ⟨Tryd.call29⟩
instance : EnterOk Tryd.prog 30 := ⟨Tryd.call30⟩
instance : EnterOk Tryd.prog 31 := ⟨Tryd.call31⟩
instance : EnterOk Tryd.prog 32 := ⟨Tryd.call32⟩
instance : EnterOk Tryd.prog 33 := ⟨Tryd.call33⟩
instance : EnterOk Tryd.prog 34 := ⟨Tryd.call34⟩
instance : EnterOk Tryd.prog 35 := ⟨Tryd.call35⟩
instance : EnterOk Tryd.prog 36 := ⟨Tryd.call36⟩
instance : EnterOk Tryd.prog 37 := ⟨Tryd.call37⟩
instance : EnterOk Tryd.prog 38 := ⟨Tryd.call38⟩
instance : EnterOk Tryd.prog 39 := ⟨Tryd.call39⟩
instance : EnterOk Tryd.prog 40 := ⟨Tryd.call40⟩
instance : EnterOk Tryd.prog 41 := ⟨Tryd.call41⟩
instance : EnterOk Tryd.prog 42 := ⟨Tryd.call42⟩
instance : EnterOk Tryd.prog 43 := ⟨Tryd.call43⟩
instance : EnterOk Tryd.prog 44 := ⟨Tryd.call44⟩
instance : EnterOk Tryd.prog 45 := ⟨Tryd.call45⟩
instance : EnterOk Tryd.prog 46 := ⟨Tryd.call46⟩
instance : EnterOk Tryd.prog 47 := ⟨Tryd.call47⟩
instance : EnterOk Tryd.prog 48 := ⟨Tryd.call48⟩
instance : EnterOk Tryd.prog 49 := ⟨Tryd.call49⟩
instance : EnterOk Tryd.prog 50 := ⟨Tryd.call50⟩
instance : EnterOk Tryd.prog 51 := ⟨Tryd.call51⟩
instance : EnterOk Tryd.prog 52 := ⟨Tryd.call52⟩
instance : EnterOk Tryd.prog 53 := ⟨Tryd.call53⟩
instance : EnterOk Tryd.prog 54 := ⟨Tryd.call54⟩
instance : EnterOk Tryd.prog 55 := ⟨Tryd.call55⟩
instance : EnterOk Tryd.prog 56 := ⟨Tryd.call56⟩
instance : EnterOk Tryd.prog 57 := ⟨Tryd.call57⟩
instance : EnterOk Tryd.prog 58 := ⟨Tryd.call58⟩
instance : EnterOk Tryd.prog 59 := ⟨Tryd.call59⟩
instance : EnterOk Tryd.prog 60 := ⟨Tryd.call60⟩
instance : EnterOk Tryd.prog 61 := ⟨Tryd.call61⟩
instance : EnterOk Tryd.prog 62 := ⟨Tryd.call62⟩
instance : EnterOk Tryd.prog 63 := ⟨Tryd.call63⟩
instance : EnterOk Tryd.prog 64 := ⟨Tryd.call64⟩
instance : EnterOk Tryd.prog 65 := ⟨Tryd.call65⟩
instance : EnterOk Tryd.prog 66 := ⟨Tryd.call66⟩
instance : EnterOk Tryd.prog 67 := ⟨Tryd.call67⟩
instance : EnterOk Tryd.prog 68 := ⟨Tryd.call68⟩
instance : EnterOk Tryd.prog 69 := ⟨Tryd.call69⟩
instance : EnterOk Tryd.prog 70 := ⟨Tryd.call70⟩
instance : EnterOk Tryd.prog 71 := ⟨Tryd.call71⟩
instance : EnterOk Tryd.prog 72 := ⟨Tryd.call72⟩
instance : EnterOk Tryd.prog 73 := ⟨Tryd.call73⟩
instance : EnterOk Tryd.prog 74 := ⟨Tryd.call74⟩
instance : EnterOk Tryd.prog 75 := ⟨Tryd.call75⟩
instance : EnterOk Tryd.prog 76 := ⟨Tryd.call76⟩
instance : EnterOk Tryd.prog 77 := ⟨Tryd.call77⟩
instance : EnterOk Tryd.prog 78 := ⟨Tryd.call78⟩
instance : EnterOk Tryd.prog 79 := ⟨Tryd.call79⟩
instance : EnterOk Tryd.prog 80 := ⟨Tryd.call80⟩
instance : EnterOk Tryd.prog 81 := ⟨Tryd.call81⟩
instance : EnterOk Tryd.prog 82 := ⟨Tryd.call82⟩
instance : EnterOk Tryd.prog 83 := ⟨Tryd.call83⟩
instance : EnterOk Tryd.prog 84 := ⟨Tryd.call84⟩
instance : EnterOk Tryd.prog 85 := ⟨Tryd.call85⟩
instance : EnterOk Tryd.prog 86 := ⟨Tryd.call86⟩
instance : EnterOk Tryd.prog 87 := ⟨Tryd.call87⟩
instance : EnterOk Tryd.prog 88 := ⟨Tryd.call88⟩
instance : EnterOk Tryd.prog 89 := ⟨Tryd.call89⟩
instance : EnterOk Tryd.prog 90 := ⟨Tryd.call90⟩
instance : EnterOk Tryd.prog 91 := ⟨Tryd.call91⟩
instance : EnterOk Tryd.prog 92 := ⟨Tryd.call92⟩
instance : EnterOk Tryd.prog 93 := ⟨Tryd.call93⟩
instance : EnterOk Tryd.prog 94 := ⟨Tryd.call94⟩
instance : EnterOk Tryd.prog 95 := ⟨Tryd.call95⟩
instance : EnterOk Tryd.prog 96 := ⟨Tryd.call96⟩
instance : EnterOk Tryd.prog 97 := ⟨Tryd.call97⟩
instance : EnterOk Tryd.prog 98 := ⟨Tryd.call98⟩
instance : EnterOk Tryd.prog 99 := ⟨Tryd.call99⟩
instance : EnterOk Tryd.prog 100 := ⟨Tryd.call100⟩
instance : EnterOk Tryd.prog 101 := ⟨Tryd.call101⟩
instance : EnterOk Tryd.prog 102 := ⟨Tryd.call102⟩
instance : EnterOk Tryd.prog 103 := ⟨Tryd.call103⟩
instance : EnterOk Tryd.prog 104 := ⟨Tryd.call104⟩
instance : EnterOk Tryd.prog 105 := ⟨Tryd.call105⟩
instance : EnterOk Tryd.prog 106 := ⟨Tryd.call106⟩
instance : EnterOk Tryd.prog 107 := ⟨Tryd.call107⟩
instance : EnterOk Tryd.prog 108 := ⟨Tryd.call108⟩
instance : EnterOk Tryd.prog 109 := ⟨Tryd.call109⟩
instance : EnterOk Tryd.prog 110 := ⟨Tryd.call110⟩
instance : EnterOk Tryd.prog 111 := ⟨Tryd.call111⟩
instance : EnterOk Tryd.prog 112 := ⟨Tryd.call112⟩
instance : EnterOk Tryd.prog 113 := ⟨Tryd.call113⟩
instance : EnterOk Tryd.prog 114 := ⟨Tryd.call114⟩
instance : EnterOk Tryd.prog 115 := ⟨Tryd.call115⟩
instance : EnterOk Tryd.prog 116 := ⟨Tryd.call116⟩
instance : EnterOk Tryd.prog 117 := ⟨Tryd.call117⟩
instance : EnterOk Tryd.prog 118 := ⟨Tryd.call118⟩
instance : EnterOk Tryd.prog 119 := ⟨Tryd.call119⟩
instance : EnterOk Tryd.prog 120 := ⟨Tryd.call120⟩
instance : EnterOk Tryd.prog 121 := ⟨Tryd.call121⟩
instance : EnterOk Tryd.prog 122 := ⟨Tryd.call122⟩
instance : EnterOk Tryd.prog 123 := ⟨Tryd.call123⟩
instance : EnterOk Tryd.prog 124 := ⟨Tryd.call124⟩
instance : EnterOk Tryd.prog 125 := ⟨Tryd.call125⟩
instance : EnterOk Tryd.prog 126 := ⟨Tryd.call126⟩
instance : EnterOk Tryd.prog 127 := ⟨Tryd.call127⟩
instance : EnterOk Tryd.prog 128 := ⟨Tryd.call128⟩
instance : EnterOk Tryd.prog 129 := ⟨Tryd.call129⟩
instance : EnterOk Tryd.prog 130 := ⟨Tryd.call130⟩
instance : EnterOk Tryd.prog 131 := ⟨Tryd.call131⟩
instance : EnterOk Tryd.prog 132 := ⟨Tryd.call132⟩
instance : EnterOk Tryd.prog 133 := ⟨Tryd.call133⟩
instance : EnterOk Tryd.prog 134 := ⟨Tryd.call134⟩
instance : EnterOk Tryd.prog 136 := ⟨Tryd.call136⟩
instance : EnterOk Tryd.prog 137 := ⟨Tryd.call137⟩
instance : EnterOk Tryd.prog 138 := ⟨Tryd.call138⟩
instance (a b : Bool) : EqVal Tryd.prog 4 (.bool a) (.bool b) (a == b) := ⟨fun _ _ _ _ => by rw [eqGuard_at_bool]; rfl, fun w => run_eql_bool w 4 a b Tryd.underlying4, fun w => by simp [binOp, run_equal_bool w 4 a b Tryd.underlying4]⟩
instance (a b : ByteArray) : EqVal Tryd.prog 9 (.string a) (.string b) (a.toList == b.toList) := ⟨fun _ _ _ _ => by rw [eqGuard_at_string]; rfl, fun w => by simp [go_sem], fun w => by simp [go_sem]⟩
theorem eq_struct_29 (x0 y0 : Int) (x1 y1 : Int) (w : World) : (binOp .eql 29 (.agg #[.int .i64 x0, .int .i64 x1]) (.agg #[.int .i64 y0, .int .i64 y1])).run Tryd.prog w = .ok (.bool (decide (x0 = y0) && decide (x1 = y1))) w := by
  simp [go_sem]
  (repeat' split) <;> simp_all
theorem ne_struct_29 (x0 y0 : Int) (x1 y1 : Int) (w : World) : (binOp .neq 29 (.agg #[.int .i64 x0, .int .i64 x1]) (.agg #[.int .i64 y0, .int .i64 y1])).run Tryd.prog w = .ok (.bool (!(decide (x0 = y0) && decide (x1 = y1)))) w := by
  simp [go_sem]
  (repeat' split) <;> simp_all
instance (x0 y0 : Int) (x1 y1 : Int) : EqVal Tryd.prog 29 (.agg #[.int .i64 x0, .int .i64 x1]) (.agg #[.int .i64 y0, .int .i64 y1]) (decide (x0 = y0) && decide (x1 = y1)) := ⟨fun op x y w => by unfold eqGuard; cases op <;> simp [go_sem], eq_struct_29 _ _ _ _, ne_struct_29 _ _ _ _⟩
theorem eq_struct_57 (x0 y0 : Int) (x1 y1 : Int) (w : World) : (binOp .eql 57 (.agg #[.int .i64 x0, .int .i64 x1]) (.agg #[.int .i64 y0, .int .i64 y1])).run Tryd.prog w = .ok (.bool (decide (x0 = y0) && decide (x1 = y1))) w := by
  simp [go_sem]
  (repeat' split) <;> simp_all
theorem ne_struct_57 (x0 y0 : Int) (x1 y1 : Int) (w : World) : (binOp .neq 57 (.agg #[.int .i64 x0, .int .i64 x1]) (.agg #[.int .i64 y0, .int .i64 y1])).run Tryd.prog w = .ok (.bool (!(decide (x0 = y0) && decide (x1 = y1)))) w := by
  simp [go_sem]
  (repeat' split) <;> simp_all
instance (x0 y0 : Int) (x1 y1 : Int) : EqVal Tryd.prog 57 (.agg #[.int .i64 x0, .int .i64 x1]) (.agg #[.int .i64 y0, .int .i64 y1]) (decide (x0 = y0) && decide (x1 = y1)) := ⟨fun op x y w => by unfold eqGuard; cases op <;> simp [go_sem], eq_struct_57 _ _ _ _, ne_struct_57 _ _ _ _⟩
theorem eq_struct_61 (x0 y0 : Bool) (x1 y1 : Int) (w : World) : (binOp .eql 61 (.agg #[.bool x0, .int .i64 x1]) (.agg #[.bool y0, .int .i64 y1])).run Tryd.prog w = .ok (.bool ((x0 == y0) && decide (x1 = y1))) w := by
  simp [go_sem]
  (repeat' split) <;> simp_all
theorem ne_struct_61 (x0 y0 : Bool) (x1 y1 : Int) (w : World) : (binOp .neq 61 (.agg #[.bool x0, .int .i64 x1]) (.agg #[.bool y0, .int .i64 y1])).run Tryd.prog w = .ok (.bool (!((x0 == y0) && decide (x1 = y1)))) w := by
  simp [go_sem]
  (repeat' split) <;> simp_all
instance (x0 y0 : Bool) (x1 y1 : Int) : EqVal Tryd.prog 61 (.agg #[.bool x0, .int .i64 x1]) (.agg #[.bool y0, .int .i64 y1]) ((x0 == y0) && decide (x1 = y1)) := ⟨fun op x y w => by unfold eqGuard; cases op <;> simp [go_sem], eq_struct_61 _ _ _ _, ne_struct_61 _ _ _ _⟩
theorem eq_struct_164 (x0 y0 : Bool) (x1 y1 : Bool) (x2 y2 : Bool) (w : World) : (binOp .eql 164 (.agg #[.bool x0, .bool x1, .bool x2]) (.agg #[.bool y0, .bool y1, .bool y2])).run Tryd.prog w = .ok (.bool ((x0 == y0) && (x1 == y1) && (x2 == y2))) w := by
  simp [go_sem]
  (repeat' split) <;> simp_all
theorem ne_struct_164 (x0 y0 : Bool) (x1 y1 : Bool) (x2 y2 : Bool) (w : World) : (binOp .neq 164 (.agg #[.bool x0, .bool x1, .bool x2]) (.agg #[.bool y0, .bool y1, .bool y2])).run Tryd.prog w = .ok (.bool (!((x0 == y0) && (x1 == y1) && (x2 == y2)))) w := by
  simp [go_sem]
  (repeat' split) <;> simp_all
instance (x0 y0 : Bool) (x1 y1 : Bool) (x2 y2 : Bool) : EqVal Tryd.prog 164 (.agg #[.bool x0, .bool x1, .bool x2]) (.agg #[.bool y0, .bool y1, .bool y2]) ((x0 == y0) && (x1 == y1) && (x2 == y2)) := ⟨fun op x y w => by unfold eqGuard; cases op <;> simp [go_sem], eq_struct_164 _ _ _ _ _ _, ne_struct_164 _ _ _ _ _ _⟩
end Go.Proofs.YtebajiafdkokjaaDoor
