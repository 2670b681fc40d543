/- What the step rules ask of the types and functions of this seat: instances, printed by inst.py. -/
import Derived.Test.YtebajiafdkokjaaStep
import Derived.Test.YtebajiafdkokjaaRows
namespace Go.Proofs.Ytebajiafdkokjaa
open Go Go.RowKit

instance : OneCell Try.prog 1 := ⟨Try.isAgg1, Try.sizeOf1⟩
instance : ZeroVal Try.prog 1 (.nilFunc) := ⟨Try.zeroValue1⟩
instance : OneCell Try.prog 2 := ⟨Try.isAgg2, Try.sizeOf2⟩
instance : ZeroVal Try.prog 2 (.int .i64 0) := ⟨Try.zeroValue2⟩
instance : OneCell Try.prog 3 := ⟨Try.isAgg3, Try.sizeOf3⟩
instance : ZeroVal Try.prog 3 (.int .i64 0) := ⟨Try.zeroValue3⟩
instance : OneCell Try.prog 4 := ⟨Try.isAgg4, Try.sizeOf4⟩
instance : ZeroVal Try.prog 4 (.bool false) := ⟨Try.zeroValue4⟩
instance : OneCell Try.prog 5 := ⟨Try.isAgg5, Try.sizeOf5⟩
instance : ZeroVal Try.prog 5 (.int .u8 0) := ⟨Try.zeroValue5⟩
instance : OneCell Try.prog 9 := ⟨Try.isAgg9, Try.sizeOf9⟩
instance : ZeroVal Try.prog 9 (.string ByteArray.empty) := ⟨Try.zeroValue9⟩
instance : OneCell Try.prog 12 := ⟨Try.isAgg12, Try.sizeOf12⟩
instance : ZeroVal Try.prog 12 (.int .u64 0) := ⟨Try.zeroValue12⟩
instance : OneCell Try.prog 20 := ⟨Try.isAgg20, Try.sizeOf20⟩
instance : ZeroVal Try.prog 20 (.nilIface) := ⟨Try.zeroValue20⟩
instance : OneCell Try.prog 21 := ⟨Try.isAgg21, Try.sizeOf21⟩
instance : ZeroVal Try.prog 21 (.int .i32 0) := ⟨Try.zeroValue21⟩
instance : OneCell Try.prog 22 := ⟨Try.isAgg22, Try.sizeOf22⟩
instance : ElemSize Try.prog 22 3 := ⟨by kernel_rfl, fun w => by have h : Try.prog.elem 22 = 33 := (by kernel_rfl); rw [h]; exact Try.sizeOf33 w⟩
instance : ZeroVal Try.prog 22 (.slice none 0 0) := ⟨Try.zeroValue22⟩
instance : OneCell Try.prog 23 := ⟨Try.isAgg23, Try.sizeOf23⟩
instance : ElemSize Try.prog 23 4 := ⟨by kernel_rfl, fun w => by have h : Try.prog.elem 23 = 56 := (by kernel_rfl); rw [h]; exact Try.sizeOf56 w⟩
instance : ZeroVal Try.prog 23 (.slice none 0 0) := ⟨Try.zeroValue23⟩
instance : AggSize Try.prog 24 2 := ⟨Try.isAgg24, Try.sizeOf24⟩
instance : FieldOff Try.prog 24 0 0 := ⟨fun b o w => by simp [Instr.fieldAt, Instr.sureAddr, Try.runUnderlying24, fieldPlace, Try.sizeOf22, Addr.add_lit]⟩
instance : FieldOff Try.prog 24 1 1 := ⟨fun b o w => by simp [Instr.fieldAt, Instr.sureAddr, Try.runUnderlying24, fieldPlace, Try.sizeOf23, Addr.add_lit]⟩
instance : StructAt Try.prog 24 [.slice none 0 0, .slice none 0 0] [(0, 1), (1, 1)] := ⟨fun parts cells h => by
  have e : Try.prog.built 24 parts = Instr.fill (([(0, 1), (1, 1)] : List (Nat × Nat)).toArray[·]?) (#[.slice none 0 0, .slice none 0 0] : Array Value) parts := by kernel_rfl
  rw [e]; simpa using h⟩
instance : ZeroVal Try.prog 24 (.agg #[.slice none 0 0, .slice none 0 0]) := ⟨Try.zeroValue24⟩
instance : AggSize Try.prog 25 2 := ⟨Try.isAgg25, Try.sizeOf25⟩
instance : FieldOff Try.prog 25 0 0 := ⟨fun b o w => by simp [Instr.fieldAt, Instr.sureAddr, Try.runUnderlying25, fieldPlace, Try.sizeOf22, Addr.add_lit]⟩
instance : FieldOff Try.prog 25 1 1 := ⟨fun b o w => by simp [Instr.fieldAt, Instr.sureAddr, Try.runUnderlying25, fieldPlace, Try.sizeOf23, Addr.add_lit]⟩
instance : StructAt Try.prog 25 [.slice none 0 0, .slice none 0 0] [(0, 1), (1, 1)] := ⟨fun parts cells h => by
  have e : Try.prog.built 25 parts = Instr.fill (([(0, 1), (1, 1)] : List (Nat × Nat)).toArray[·]?) (#[.slice none 0 0, .slice none 0 0] : Array Value) parts := by kernel_rfl
  rw [e]; simpa using h⟩
instance : ZeroVal Try.prog 25 (.agg #[.slice none 0 0, .slice none 0 0]) := ⟨Try.zeroValue25⟩
instance : AggSize Try.prog 26 2 := ⟨Try.isAgg26, Try.sizeOf26⟩
instance : FieldOff Try.prog 26 0 0 := ⟨fun b o w => by simp [Instr.fieldAt, Instr.sureAddr, Try.runUnderlying26, fieldPlace, Try.sizeOf4, Addr.add_lit]⟩
instance : FieldOff Try.prog 26 1 1 := ⟨fun b o w => by simp [Instr.fieldAt, Instr.sureAddr, Try.runUnderlying26, fieldPlace, Try.sizeOf3, Addr.add_lit]⟩
instance : StructAt Try.prog 26 [.bool false, .int .i64 0] [(0, 1), (1, 1)] := ⟨fun parts cells h => by
  have e : Try.prog.built 26 parts = Instr.fill (([(0, 1), (1, 1)] : List (Nat × Nat)).toArray[·]?) (#[.bool false, .int .i64 0] : Array Value) parts := by kernel_rfl
  rw [e]; simpa using h⟩
instance : ZeroVal Try.prog 26 (.agg #[.bool false, .int .i64 0]) := ⟨Try.zeroValue26⟩
instance : AggSize Try.prog 27 2 := ⟨Try.isAgg27, Try.sizeOf27⟩
instance : FieldOff Try.prog 27 0 0 := ⟨fun b o w => by simp [Instr.fieldAt, Instr.sureAddr, Try.runUnderlying27, fieldPlace, Try.sizeOf4, Addr.add_lit]⟩
instance : FieldOff Try.prog 27 1 1 := ⟨fun b o w => by simp [Instr.fieldAt, Instr.sureAddr, Try.runUnderlying27, fieldPlace, Try.sizeOf3, Addr.add_lit]⟩
instance : StructAt Try.prog 27 [.bool false, .int .i64 0] [(0, 1), (1, 1)] := ⟨fun parts cells h => by
  have e : Try.prog.built 27 parts = Instr.fill (([(0, 1), (1, 1)] : List (Nat × Nat)).toArray[·]?) (#[.bool false, .int .i64 0] : Array Value) parts := by kernel_rfl
  rw [e]; simpa using h⟩
instance : ZeroVal Try.prog 27 (.agg #[.bool false, .int .i64 0]) := ⟨Try.zeroValue27⟩
instance : OneCell Try.prog 28 := ⟨Try.isAgg28, Try.sizeOf28⟩
instance : ElemSize Try.prog 28 2 := ⟨by kernel_rfl, fun w => by have h : Try.prog.elem 28 = 27 := (by kernel_rfl); rw [h]; exact Try.sizeOf27 w⟩
instance : ZeroVal Try.prog 28 (.slice none 0 0) := ⟨Try.zeroValue28⟩
instance : AggSize Try.prog 29 8 := ⟨Try.isAgg29, Try.sizeOf29⟩
instance : FieldOff Try.prog 29 0 0 := ⟨fun b o w => by simp [Instr.fieldAt, Instr.sureAddr, Try.runUnderlying29, fieldPlace, Try.sizeOf3, Addr.add_lit]⟩
instance : FieldOff Try.prog 29 1 1 := ⟨fun b o w => by simp [Instr.fieldAt, Instr.sureAddr, Try.runUnderlying29, fieldPlace, Try.sizeOf3, Addr.add_lit]⟩
instance : FieldOff Try.prog 29 2 2 := ⟨fun b o w => by simp [Instr.fieldAt, Instr.sureAddr, Try.runUnderlying29, fieldPlace, Try.sizeOf27, Addr.add_lit]⟩
instance : FieldOff Try.prog 29 3 4 := ⟨fun b o w => by simp [Instr.fieldAt, Instr.sureAddr, Try.runUnderlying29, fieldPlace, Try.sizeOf27, Addr.add_lit]⟩
instance : FieldOff Try.prog 29 4 6 := ⟨fun b o w => by simp [Instr.fieldAt, Instr.sureAddr, Try.runUnderlying29, fieldPlace, Try.sizeOf3, Addr.add_lit]⟩
instance : FieldOff Try.prog 29 5 7 := ⟨fun b o w => by simp [Instr.fieldAt, Instr.sureAddr, Try.runUnderlying29, fieldPlace, Try.sizeOf28, Addr.add_lit]⟩
instance : StructAt Try.prog 29 [.int .i64 0, .int .i64 0, .bool false, .int .i64 0, .bool false, .int .i64 0, .int .i64 0, .slice none 0 0] [(0, 1), (1, 1), (2, 2), (4, 2), (6, 1), (7, 1)] := ⟨fun parts cells h => by
  have e : Try.prog.built 29 parts = Instr.fill (([(0, 1), (1, 1), (2, 2), (4, 2), (6, 1), (7, 1)] : List (Nat × Nat)).toArray[·]?) (#[.int .i64 0, .int .i64 0, .bool false, .int .i64 0, .bool false, .int .i64 0, .int .i64 0, .slice none 0 0] : Array Value) parts := by kernel_rfl
  rw [e]; simpa using h⟩
instance : ZeroVal Try.prog 29 (.agg #[.int .i64 0, .int .i64 0, .bool false, .int .i64 0, .bool false, .int .i64 0, .int .i64 0, .slice none 0 0]) := ⟨Try.zeroValue29⟩
instance : AggSize Try.prog 30 8 := ⟨Try.isAgg30, Try.sizeOf30⟩
instance : FieldOff Try.prog 30 0 0 := ⟨fun b o w => by simp [Instr.fieldAt, Instr.sureAddr, Try.runUnderlying30, fieldPlace, Try.sizeOf3, Addr.add_lit]⟩
instance : FieldOff Try.prog 30 1 1 := ⟨fun b o w => by simp [Instr.fieldAt, Instr.sureAddr, Try.runUnderlying30, fieldPlace, Try.sizeOf3, Addr.add_lit]⟩
instance : FieldOff Try.prog 30 2 2 := ⟨fun b o w => by simp [Instr.fieldAt, Instr.sureAddr, Try.runUnderlying30, fieldPlace, Try.sizeOf27, Addr.add_lit]⟩
instance : FieldOff Try.prog 30 3 4 := ⟨fun b o w => by simp [Instr.fieldAt, Instr.sureAddr, Try.runUnderlying30, fieldPlace, Try.sizeOf27, Addr.add_lit]⟩
instance : FieldOff Try.prog 30 4 6 := ⟨fun b o w => by simp [Instr.fieldAt, Instr.sureAddr, Try.runUnderlying30, fieldPlace, Try.sizeOf3, Addr.add_lit]⟩
instance : FieldOff Try.prog 30 5 7 := ⟨fun b o w => by simp [Instr.fieldAt, Instr.sureAddr, Try.runUnderlying30, fieldPlace, Try.sizeOf28, Addr.add_lit]⟩
instance : StructAt Try.prog 30 [.int .i64 0, .int .i64 0, .bool false, .int .i64 0, .bool false, .int .i64 0, .int .i64 0, .slice none 0 0] [(0, 1), (1, 1), (2, 2), (4, 2), (6, 1), (7, 1)] := ⟨fun parts cells h => by
  have e : Try.prog.built 30 parts = Instr.fill (([(0, 1), (1, 1), (2, 2), (4, 2), (6, 1), (7, 1)] : List (Nat × Nat)).toArray[·]?) (#[.int .i64 0, .int .i64 0, .bool false, .int .i64 0, .bool false, .int .i64 0, .int .i64 0, .slice none 0 0] : Array Value) parts := by kernel_rfl
  rw [e]; simpa using h⟩
instance : ZeroVal Try.prog 30 (.agg #[.int .i64 0, .int .i64 0, .bool false, .int .i64 0, .bool false, .int .i64 0, .int .i64 0, .slice none 0 0]) := ⟨Try.zeroValue30⟩
instance : OneCell Try.prog 31 := ⟨Try.isAgg31, Try.sizeOf31⟩
instance : ElemSize Try.prog 31 1 := ⟨by kernel_rfl, fun w => by have h : Try.prog.elem 31 = 3 := (by kernel_rfl); rw [h]; exact Try.sizeOf3 w⟩
instance : ZeroVal Try.prog 31 (.slice none 0 0) := ⟨Try.zeroValue31⟩
instance : AggSize Try.prog 32 3 := ⟨Try.isAgg32, Try.sizeOf32⟩
instance : FieldOff Try.prog 32 0 0 := ⟨fun b o w => by simp [Instr.fieldAt, Instr.sureAddr, Try.runUnderlying32, fieldPlace, Try.sizeOf9, Addr.add_lit]⟩
instance : FieldOff Try.prog 32 1 1 := ⟨fun b o w => by simp [Instr.fieldAt, Instr.sureAddr, Try.runUnderlying32, fieldPlace, Try.sizeOf3, Addr.add_lit]⟩
instance : FieldOff Try.prog 32 2 2 := ⟨fun b o w => by simp [Instr.fieldAt, Instr.sureAddr, Try.runUnderlying32, fieldPlace, Try.sizeOf31, Addr.add_lit]⟩
instance : StructAt Try.prog 32 [.string ByteArray.empty, .int .i64 0, .slice none 0 0] [(0, 1), (1, 1), (2, 1)] := ⟨fun parts cells h => by
  have e : Try.prog.built 32 parts = Instr.fill (([(0, 1), (1, 1), (2, 1)] : List (Nat × Nat)).toArray[·]?) (#[.string ByteArray.empty, .int .i64 0, .slice none 0 0] : Array Value) parts := by kernel_rfl
  rw [e]; simpa using h⟩
instance : ZeroVal Try.prog 32 (.agg #[.string ByteArray.empty, .int .i64 0, .slice none 0 0]) := ⟨Try.zeroValue32⟩
instance : AggSize Try.prog 33 3 := ⟨Try.isAgg33, Try.sizeOf33⟩
instance : FieldOff Try.prog 33 0 0 := ⟨fun b o w => by simp [Instr.fieldAt, Instr.sureAddr, Try.runUnderlying33, fieldPlace, Try.sizeOf9, Addr.add_lit]⟩
instance : FieldOff Try.prog 33 1 1 := ⟨fun b o w => by simp [Instr.fieldAt, Instr.sureAddr, Try.runUnderlying33, fieldPlace, Try.sizeOf3, Addr.add_lit]⟩
instance : FieldOff Try.prog 33 2 2 := ⟨fun b o w => by simp [Instr.fieldAt, Instr.sureAddr, Try.runUnderlying33, fieldPlace, Try.sizeOf31, Addr.add_lit]⟩
instance : StructAt Try.prog 33 [.string ByteArray.empty, .int .i64 0, .slice none 0 0] [(0, 1), (1, 1), (2, 1)] := ⟨fun parts cells h => by
  have e : Try.prog.built 33 parts = Instr.fill (([(0, 1), (1, 1), (2, 1)] : List (Nat × Nat)).toArray[·]?) (#[.string ByteArray.empty, .int .i64 0, .slice none 0 0] : Array Value) parts := by kernel_rfl
  rw [e]; simpa using h⟩
instance : ZeroVal Try.prog 33 (.agg #[.string ByteArray.empty, .int .i64 0, .slice none 0 0]) := ⟨Try.zeroValue33⟩
instance : OneCell Try.prog 34 := ⟨Try.isAgg34, Try.sizeOf34⟩
instance : ZeroVal Try.prog 34 (.nilFunc) := ⟨Try.zeroValue34⟩
instance : OneCell Try.prog 35 := ⟨Try.isAgg35, Try.sizeOf35⟩
instance : ZeroVal Try.prog 35 (.nilFunc) := ⟨Try.zeroValue35⟩
instance : OneCell Try.prog 36 := ⟨Try.isAgg36, Try.sizeOf36⟩
instance : ZeroVal Try.prog 36 (.nilFunc) := ⟨Try.zeroValue36⟩
instance : OneCell Try.prog 37 := ⟨Try.isAgg37, Try.sizeOf37⟩
instance : ZeroVal Try.prog 37 (.nilFunc) := ⟨Try.zeroValue37⟩
instance : OneCell Try.prog 38 := ⟨Try.isAgg38, Try.sizeOf38⟩
instance : ZeroVal Try.prog 38 (.nilFunc) := ⟨Try.zeroValue38⟩
instance : OneCell Try.prog 44 := ⟨Try.isAgg44, Try.sizeOf44⟩
instance : ZeroVal Try.prog 44 (.nilFunc) := ⟨Try.zeroValue44⟩
instance : OneCell Try.prog 45 := ⟨Try.isAgg45, Try.sizeOf45⟩
instance : ZeroVal Try.prog 45 (.int .u32 0) := ⟨Try.zeroValue45⟩
instance : OneCell Try.prog 48 := ⟨Try.isAgg48, Try.sizeOf48⟩
instance : ZeroVal Try.prog 48 (.nilFunc) := ⟨Try.zeroValue48⟩
instance : OneCell Try.prog 49 := ⟨Try.isAgg49, Try.sizeOf49⟩
instance : ZeroVal Try.prog 49 (.pointer none) := ⟨Try.zeroValue49⟩
instance : OneCell Try.prog 54 := ⟨Try.isAgg54, Try.sizeOf54⟩
instance : ElemSize Try.prog 54 6 := ⟨by kernel_rfl, fun w => by have h : Try.prog.elem 54 = 63 := (by kernel_rfl); rw [h]; exact Try.sizeOf63 w⟩
instance : ZeroVal Try.prog 54 (.slice none 0 0) := ⟨Try.zeroValue54⟩
instance : AggSize Try.prog 55 4 := ⟨Try.isAgg55, Try.sizeOf55⟩
instance : FieldOff Try.prog 55 0 0 := ⟨fun b o w => by simp [Instr.fieldAt, Instr.sureAddr, Try.runUnderlying55, fieldPlace, Try.sizeOf9, Addr.add_lit]⟩
instance : FieldOff Try.prog 55 1 1 := ⟨fun b o w => by simp [Instr.fieldAt, Instr.sureAddr, Try.runUnderlying55, fieldPlace, Try.sizeOf3, Addr.add_lit]⟩
instance : FieldOff Try.prog 55 2 2 := ⟨fun b o w => by simp [Instr.fieldAt, Instr.sureAddr, Try.runUnderlying55, fieldPlace, Try.sizeOf3, Addr.add_lit]⟩
instance : FieldOff Try.prog 55 3 3 := ⟨fun b o w => by simp [Instr.fieldAt, Instr.sureAddr, Try.runUnderlying55, fieldPlace, Try.sizeOf54, Addr.add_lit]⟩
instance : StructAt Try.prog 55 [.string ByteArray.empty, .int .i64 0, .int .i64 0, .slice none 0 0] [(0, 1), (1, 1), (2, 1), (3, 1)] := ⟨fun parts cells h => by
  have e : Try.prog.built 55 parts = Instr.fill (([(0, 1), (1, 1), (2, 1), (3, 1)] : List (Nat × Nat)).toArray[·]?) (#[.string ByteArray.empty, .int .i64 0, .int .i64 0, .slice none 0 0] : Array Value) parts := by kernel_rfl
  rw [e]; simpa using h⟩
instance : ZeroVal Try.prog 55 (.agg #[.string ByteArray.empty, .int .i64 0, .int .i64 0, .slice none 0 0]) := ⟨Try.zeroValue55⟩
instance : AggSize Try.prog 56 4 := ⟨Try.isAgg56, Try.sizeOf56⟩
instance : FieldOff Try.prog 56 0 0 := ⟨fun b o w => by simp [Instr.fieldAt, Instr.sureAddr, Try.runUnderlying56, fieldPlace, Try.sizeOf9, Addr.add_lit]⟩
instance : FieldOff Try.prog 56 1 1 := ⟨fun b o w => by simp [Instr.fieldAt, Instr.sureAddr, Try.runUnderlying56, fieldPlace, Try.sizeOf3, Addr.add_lit]⟩
instance : FieldOff Try.prog 56 2 2 := ⟨fun b o w => by simp [Instr.fieldAt, Instr.sureAddr, Try.runUnderlying56, fieldPlace, Try.sizeOf3, Addr.add_lit]⟩
instance : FieldOff Try.prog 56 3 3 := ⟨fun b o w => by simp [Instr.fieldAt, Instr.sureAddr, Try.runUnderlying56, fieldPlace, Try.sizeOf54, Addr.add_lit]⟩
instance : StructAt Try.prog 56 [.string ByteArray.empty, .int .i64 0, .int .i64 0, .slice none 0 0] [(0, 1), (1, 1), (2, 1), (3, 1)] := ⟨fun parts cells h => by
  have e : Try.prog.built 56 parts = Instr.fill (([(0, 1), (1, 1), (2, 1), (3, 1)] : List (Nat × Nat)).toArray[·]?) (#[.string ByteArray.empty, .int .i64 0, .int .i64 0, .slice none 0 0] : Array Value) parts := by kernel_rfl
  rw [e]; simpa using h⟩
instance : ZeroVal Try.prog 56 (.agg #[.string ByteArray.empty, .int .i64 0, .int .i64 0, .slice none 0 0]) := ⟨Try.zeroValue56⟩
instance : ZeroVal Try.prog 57 (.pointer none) := ⟨Try.zeroValue57⟩
instance : OneCell Try.prog 58 := ⟨Try.isAgg58, Try.sizeOf58⟩
instance : ElemSize Try.prog 58 2 := ⟨by kernel_rfl, fun w => by have h : Try.prog.elem 58 = 65 := (by kernel_rfl); rw [h]; exact Try.sizeOf65 w⟩
instance : ZeroVal Try.prog 58 (.slice none 0 0) := ⟨Try.zeroValue58⟩
instance : OneCell Try.prog 59 := ⟨Try.isAgg59, Try.sizeOf59⟩
instance : ElemSize Try.prog 59 8 := ⟨by kernel_rfl, fun w => by have h : Try.prog.elem 59 = 30 := (by kernel_rfl); rw [h]; exact Try.sizeOf30 w⟩
instance : ZeroVal Try.prog 59 (.slice none 0 0) := ⟨Try.zeroValue59⟩
instance : AggSize Try.prog 60 4 := ⟨Try.isAgg60, Try.sizeOf60⟩
instance : FieldOff Try.prog 60 0 0 := ⟨fun b o w => by simp [Instr.fieldAt, Instr.sureAddr, Try.runUnderlying60, fieldPlace, Try.sizeOf3, Addr.add_lit]⟩
instance : FieldOff Try.prog 60 1 1 := ⟨fun b o w => by simp [Instr.fieldAt, Instr.sureAddr, Try.runUnderlying60, fieldPlace, Try.sizeOf27, Addr.add_lit]⟩
instance : FieldOff Try.prog 60 2 3 := ⟨fun b o w => by simp [Instr.fieldAt, Instr.sureAddr, Try.runUnderlying60, fieldPlace, Try.sizeOf31, Addr.add_lit]⟩
instance : StructAt Try.prog 60 [.int .i64 0, .bool false, .int .i64 0, .slice none 0 0] [(0, 1), (1, 2), (3, 1)] := ⟨fun parts cells h => by
  have e : Try.prog.built 60 parts = Instr.fill (([(0, 1), (1, 2), (3, 1)] : List (Nat × Nat)).toArray[·]?) (#[.int .i64 0, .bool false, .int .i64 0, .slice none 0 0] : Array Value) parts := by kernel_rfl
  rw [e]; simpa using h⟩
instance : ZeroVal Try.prog 60 (.agg #[.int .i64 0, .bool false, .int .i64 0, .slice none 0 0]) := ⟨Try.zeroValue60⟩
instance : AggSize Try.prog 61 4 := ⟨Try.isAgg61, Try.sizeOf61⟩
instance : FieldOff Try.prog 61 0 0 := ⟨fun b o w => by simp [Instr.fieldAt, Instr.sureAddr, Try.runUnderlying61, fieldPlace, Try.sizeOf3, Addr.add_lit]⟩
instance : FieldOff Try.prog 61 1 1 := ⟨fun b o w => by simp [Instr.fieldAt, Instr.sureAddr, Try.runUnderlying61, fieldPlace, Try.sizeOf27, Addr.add_lit]⟩
instance : FieldOff Try.prog 61 2 3 := ⟨fun b o w => by simp [Instr.fieldAt, Instr.sureAddr, Try.runUnderlying61, fieldPlace, Try.sizeOf31, Addr.add_lit]⟩
instance : StructAt Try.prog 61 [.int .i64 0, .bool false, .int .i64 0, .slice none 0 0] [(0, 1), (1, 2), (3, 1)] := ⟨fun parts cells h => by
  have e : Try.prog.built 61 parts = Instr.fill (([(0, 1), (1, 2), (3, 1)] : List (Nat × Nat)).toArray[·]?) (#[.int .i64 0, .bool false, .int .i64 0, .slice none 0 0] : Array Value) parts := by kernel_rfl
  rw [e]; simpa using h⟩
instance : ZeroVal Try.prog 61 (.agg #[.int .i64 0, .bool false, .int .i64 0, .slice none 0 0]) := ⟨Try.zeroValue61⟩
instance : AggSize Try.prog 62 6 := ⟨Try.isAgg62, Try.sizeOf62⟩
instance : FieldOff Try.prog 62 0 0 := ⟨fun b o w => by simp [Instr.fieldAt, Instr.sureAddr, Try.runUnderlying62, fieldPlace, Try.sizeOf58, Addr.add_lit]⟩
instance : FieldOff Try.prog 62 1 1 := ⟨fun b o w => by simp [Instr.fieldAt, Instr.sureAddr, Try.runUnderlying62, fieldPlace, Try.sizeOf59, Addr.add_lit]⟩
instance : FieldOff Try.prog 62 2 2 := ⟨fun b o w => by simp [Instr.fieldAt, Instr.sureAddr, Try.runUnderlying62, fieldPlace, Try.sizeOf61, Addr.add_lit]⟩
instance : StructAt Try.prog 62 [.slice none 0 0, .slice none 0 0, .int .i64 0, .bool false, .int .i64 0, .slice none 0 0] [(0, 1), (1, 1), (2, 4)] := ⟨fun parts cells h => by
  have e : Try.prog.built 62 parts = Instr.fill (([(0, 1), (1, 1), (2, 4)] : List (Nat × Nat)).toArray[·]?) (#[.slice none 0 0, .slice none 0 0, .int .i64 0, .bool false, .int .i64 0, .slice none 0 0] : Array Value) parts := by kernel_rfl
  rw [e]; simpa using h⟩
instance : ZeroVal Try.prog 62 (.agg #[.slice none 0 0, .slice none 0 0, .int .i64 0, .bool false, .int .i64 0, .slice none 0 0]) := ⟨Try.zeroValue62⟩
instance : AggSize Try.prog 63 6 := ⟨Try.isAgg63, Try.sizeOf63⟩
instance : FieldOff Try.prog 63 0 0 := ⟨fun b o w => by simp [Instr.fieldAt, Instr.sureAddr, Try.runUnderlying63, fieldPlace, Try.sizeOf58, Addr.add_lit]⟩
instance : FieldOff Try.prog 63 1 1 := ⟨fun b o w => by simp [Instr.fieldAt, Instr.sureAddr, Try.runUnderlying63, fieldPlace, Try.sizeOf59, Addr.add_lit]⟩
instance : FieldOff Try.prog 63 2 2 := ⟨fun b o w => by simp [Instr.fieldAt, Instr.sureAddr, Try.runUnderlying63, fieldPlace, Try.sizeOf61, Addr.add_lit]⟩
instance : StructAt Try.prog 63 [.slice none 0 0, .slice none 0 0, .int .i64 0, .bool false, .int .i64 0, .slice none 0 0] [(0, 1), (1, 1), (2, 4)] := ⟨fun parts cells h => by
  have e : Try.prog.built 63 parts = Instr.fill (([(0, 1), (1, 1), (2, 4)] : List (Nat × Nat)).toArray[·]?) (#[.slice none 0 0, .slice none 0 0, .int .i64 0, .bool false, .int .i64 0, .slice none 0 0] : Array Value) parts := by kernel_rfl
  rw [e]; simpa using h⟩
instance : ZeroVal Try.prog 63 (.agg #[.slice none 0 0, .slice none 0 0, .int .i64 0, .bool false, .int .i64 0, .slice none 0 0]) := ⟨Try.zeroValue63⟩
instance : AggSize Try.prog 64 2 := ⟨Try.isAgg64, Try.sizeOf64⟩
instance : FieldOff Try.prog 64 0 0 := ⟨fun b o w => by simp [Instr.fieldAt, Instr.sureAddr, Try.runUnderlying64, fieldPlace, Try.sizeOf3, Addr.add_lit]⟩
instance : FieldOff Try.prog 64 1 1 := ⟨fun b o w => by simp [Instr.fieldAt, Instr.sureAddr, Try.runUnderlying64, fieldPlace, Try.sizeOf28, Addr.add_lit]⟩
instance : StructAt Try.prog 64 [.int .i64 0, .slice none 0 0] [(0, 1), (1, 1)] := ⟨fun parts cells h => by
  have e : Try.prog.built 64 parts = Instr.fill (([(0, 1), (1, 1)] : List (Nat × Nat)).toArray[·]?) (#[.int .i64 0, .slice none 0 0] : Array Value) parts := by kernel_rfl
  rw [e]; simpa using h⟩
instance : ZeroVal Try.prog 64 (.agg #[.int .i64 0, .slice none 0 0]) := ⟨Try.zeroValue64⟩
instance : AggSize Try.prog 65 2 := ⟨Try.isAgg65, Try.sizeOf65⟩
instance : FieldOff Try.prog 65 0 0 := ⟨fun b o w => by simp [Instr.fieldAt, Instr.sureAddr, Try.runUnderlying65, fieldPlace, Try.sizeOf3, Addr.add_lit]⟩
instance : FieldOff Try.prog 65 1 1 := ⟨fun b o w => by simp [Instr.fieldAt, Instr.sureAddr, Try.runUnderlying65, fieldPlace, Try.sizeOf28, Addr.add_lit]⟩
instance : StructAt Try.prog 65 [.int .i64 0, .slice none 0 0] [(0, 1), (1, 1)] := ⟨fun parts cells h => by
  have e : Try.prog.built 65 parts = Instr.fill (([(0, 1), (1, 1)] : List (Nat × Nat)).toArray[·]?) (#[.int .i64 0, .slice none 0 0] : Array Value) parts := by kernel_rfl
  rw [e]; simpa using h⟩
instance : ZeroVal Try.prog 65 (.agg #[.int .i64 0, .slice none 0 0]) := ⟨Try.zeroValue65⟩
instance : EnterOk Try.prog 3 := ⟨Try.call3⟩
instance : EnterOk Try.prog 4 := ⟨Try.call4⟩
instance : EnterOk Try.prog 5 := ⟨Try.call5⟩
instance : EnterOk Try.prog 6 := ⟨Try.call6⟩
instance : EnterOk Try.prog 7 := ⟨Try.call7⟩
instance : EnterOk Try.prog 8 := ⟨Try.call8⟩
instance (a b : Bool) : EqVal Try.prog 4 (.bool a) (.bool b) (a == b) := ⟨fun _ _ _ _ => by rw [eqGuard_at_bool]; rfl, fun w => run_eql_bool w 4 a b Try.underlying4, fun w => by simp [binOp, run_equal_bool w 4 a b Try.underlying4]⟩
instance (a b : ByteArray) : EqVal Try.prog 9 (.string a) (.string b) (a.toList == b.toList) := ⟨fun _ _ _ _ => by rw [eqGuard_at_string]; rfl, fun w => by simp [go_sem], fun w => by simp [go_sem]⟩
theorem eq_struct_27 (x0 y0 : Bool) (x1 y1 : Int) (w : World) : (binOp .eql 27 (.agg #[.bool x0, .int .i64 x1]) (.agg #[.bool y0, .int .i64 y1])).run Try.prog w = .ok (.bool ((x0 == y0) && decide (x1 = y1))) w := by
  simp [go_sem]
  (repeat' split) <;> simp_all
theorem ne_struct_27 (x0 y0 : Bool) (x1 y1 : Int) (w : World) : (binOp .neq 27 (.agg #[.bool x0, .int .i64 x1]) (.agg #[.bool y0, .int .i64 y1])).run Try.prog w = .ok (.bool (!((x0 == y0) && decide (x1 = y1)))) w := by
  simp [go_sem]
  (repeat' split) <;> simp_all
instance (x0 y0 : Bool) (x1 y1 : Int) : EqVal Try.prog 27 (.agg #[.bool x0, .int .i64 x1]) (.agg #[.bool y0, .int .i64 y1]) ((x0 == y0) && decide (x1 = y1)) := ⟨fun op x y w => by unfold eqGuard; cases op <;> simp [go_sem], eq_struct_27 _ _ _ _, ne_struct_27 _ _ _ _⟩
end Go.Proofs.Ytebajiafdkokjaa
