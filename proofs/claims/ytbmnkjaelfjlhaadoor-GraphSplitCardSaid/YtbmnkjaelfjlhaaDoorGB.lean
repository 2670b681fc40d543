/- Texts joined: Inst Spec Name Reach CheckA CheckB. -/
import Derived.Test.YtbmnkjaelfjlhaaDoorRows
import Derived.Test.YtbmnkjaelfjlhaaDoorGA
/- What the step rules ask of the types and functions of this seat: instances, printed by inst.py. -/
namespace Go.Proofs.YtbmnkjaelfjlhaaDoor
open Go Go.RowKit

instance : OneCell Tryd.prog 1 := ⟨Tryd.isAgg1, Tryd.sizeOf1⟩
instance : ZeroVal Tryd.prog 1 (.nilFunc) := ⟨Tryd.zeroValue1⟩
instance : OneCell Tryd.prog 2 := ⟨Tryd.isAgg2, Tryd.sizeOf2⟩
instance : ZeroVal Tryd.prog 2 (.int .i64 0) := ⟨Tryd.zeroValue2⟩
instance : OneCell Tryd.prog 3 := ⟨Tryd.isAgg3, Tryd.sizeOf3⟩
instance : ZeroVal Tryd.prog 3 (.int .i64 0) := ⟨Tryd.zeroValue3⟩
instance : OneCell Tryd.prog 4 := ⟨Tryd.isAgg4, Tryd.sizeOf4⟩
instance : ZeroVal Tryd.prog 4 (.bool false) := ⟨Tryd.zeroValue4⟩
instance : OneCell Tryd.prog 5 := ⟨Tryd.isAgg5, Tryd.sizeOf5⟩
instance : ZeroVal Tryd.prog 5 (.int .u8 0) := ⟨Tryd.zeroValue5⟩
instance : OneCell Tryd.prog 9 := ⟨Tryd.isAgg9, Tryd.sizeOf9⟩
instance : IsStr Tryd.prog 9 := ⟨Tryd.underlying9⟩
instance : ZeroVal Tryd.prog 9 (.string ByteArray.empty) := ⟨Tryd.zeroValue9⟩
instance : OneCell Tryd.prog 12 := ⟨Tryd.isAgg12, Tryd.sizeOf12⟩
instance : ZeroVal Tryd.prog 12 (.int .u64 0) := ⟨Tryd.zeroValue12⟩
instance : OneCell Tryd.prog 20 := ⟨Tryd.isAgg20, Tryd.sizeOf20⟩
instance : ZeroVal Tryd.prog 20 (.nilIface) := ⟨Tryd.zeroValue20⟩
instance : OneCell Tryd.prog 21 := ⟨Tryd.isAgg21, Tryd.sizeOf21⟩
instance : ZeroVal Tryd.prog 21 (.int .i32 0) := ⟨Tryd.zeroValue21⟩
instance : OneCell Tryd.prog 22 := ⟨Tryd.isAgg22, Tryd.sizeOf22⟩
instance : ElemSize Tryd.prog 22 3 := ⟨by kernel_rfl, fun w => by have h : Tryd.prog.elem 22 = 78 := (by kernel_rfl); rw [h]; exact Tryd.sizeOf78 w⟩
instance : ElemInfo Tryd.prog 22 78 3 48 [.string ByteArray.empty, .int .i64 0, .slice none 0 0] := ⟨by kernel_rfl, by kernel_rfl⟩
instance : ZeroVal Tryd.prog 22 (.slice none 0 0) := ⟨Tryd.zeroValue22⟩
instance : OneCell Tryd.prog 23 := ⟨Tryd.isAgg23, Tryd.sizeOf23⟩
instance : ElemSize Tryd.prog 23 4 := ⟨by kernel_rfl, fun w => by have h : Tryd.prog.elem 23 = 35 := (by kernel_rfl); rw [h]; exact Tryd.sizeOf35 w⟩
instance : ElemInfo Tryd.prog 23 35 4 56 [.string ByteArray.empty, .int .i64 0, .int .i64 0, .slice none 0 0] := ⟨by kernel_rfl, by kernel_rfl⟩
instance : ZeroVal Tryd.prog 23 (.slice none 0 0) := ⟨Tryd.zeroValue23⟩
instance : AggSize Tryd.prog 24 2 := ⟨Tryd.isAgg24, Tryd.sizeOf24⟩
instance : FieldOff Tryd.prog 24 0 0 := ⟨fun b o w => by simp [Instr.fieldAt, Instr.sureAddr, Tryd.runUnderlying24, fieldPlace, Tryd.sizeOf22, Addr.add_lit]⟩
instance : FieldOff Tryd.prog 24 1 1 := ⟨fun b o w => by simp [Instr.fieldAt, Instr.sureAddr, Tryd.runUnderlying24, fieldPlace, Tryd.sizeOf23, Addr.add_lit]⟩
instance : StructAt Tryd.prog 24 [.slice none 0 0, .slice none 0 0] [(0, 1), (1, 1)] := ⟨fun parts cells h => by
  have e : Tryd.prog.built 24 parts = Instr.fill (([(0, 1), (1, 1)] : List (Nat × Nat)).toArray[·]?) (#[.slice none 0 0, .slice none 0 0] : Array Value) parts := by kernel_rfl
  rw [e]; simpa using h⟩
instance : ZeroVal Tryd.prog 24 (.agg #[.slice none 0 0, .slice none 0 0]) := ⟨Tryd.zeroValue24⟩
instance : AggSize Tryd.prog 25 2 := ⟨Tryd.isAgg25, Tryd.sizeOf25⟩
instance : FieldOff Tryd.prog 25 0 0 := ⟨fun b o w => by simp [Instr.fieldAt, Instr.sureAddr, Tryd.runUnderlying25, fieldPlace, Tryd.sizeOf22, Addr.add_lit]⟩
instance : FieldOff Tryd.prog 25 1 1 := ⟨fun b o w => by simp [Instr.fieldAt, Instr.sureAddr, Tryd.runUnderlying25, fieldPlace, Tryd.sizeOf23, Addr.add_lit]⟩
instance : StructAt Tryd.prog 25 [.slice none 0 0, .slice none 0 0] [(0, 1), (1, 1)] := ⟨fun parts cells h => by
  have e : Tryd.prog.built 25 parts = Instr.fill (([(0, 1), (1, 1)] : List (Nat × Nat)).toArray[·]?) (#[.slice none 0 0, .slice none 0 0] : Array Value) parts := by kernel_rfl
  rw [e]; simpa using h⟩
instance : ZeroVal Tryd.prog 25 (.agg #[.slice none 0 0, .slice none 0 0]) := ⟨Tryd.zeroValue25⟩
instance : OneCell Tryd.prog 26 := ⟨Tryd.isAgg26, Tryd.sizeOf26⟩
instance : ZeroVal Tryd.prog 26 (.nilFunc) := ⟨Tryd.zeroValue26⟩
instance : AggSize Tryd.prog 27 2 := ⟨Tryd.isAgg27, Tryd.sizeOf27⟩
instance : FieldOff Tryd.prog 27 0 0 := ⟨fun b o w => by simp [Instr.fieldAt, Instr.sureAddr, Tryd.runUnderlying27, fieldPlace, Tryd.sizeOf3, Addr.add_lit]⟩
instance : FieldOff Tryd.prog 27 1 1 := ⟨fun b o w => by simp [Instr.fieldAt, Instr.sureAddr, Tryd.runUnderlying27, fieldPlace, Tryd.sizeOf3, Addr.add_lit]⟩
instance : StructAt Tryd.prog 27 [.int .i64 0, .int .i64 0] [(0, 1), (1, 1)] := ⟨fun parts cells h => by
  have e : Tryd.prog.built 27 parts = Instr.fill (([(0, 1), (1, 1)] : List (Nat × Nat)).toArray[·]?) (#[.int .i64 0, .int .i64 0] : Array Value) parts := by kernel_rfl
  rw [e]; simpa using h⟩
instance : ZeroVal Tryd.prog 27 (.agg #[.int .i64 0, .int .i64 0]) := ⟨Tryd.zeroValue27⟩
instance : AggSize Tryd.prog 28 2 := ⟨Tryd.isAgg28, Tryd.sizeOf28⟩
instance : FieldOff Tryd.prog 28 0 0 := ⟨fun b o w => by simp [Instr.fieldAt, Instr.sureAddr, Tryd.runUnderlying28, fieldPlace, Tryd.sizeOf3, Addr.add_lit]⟩
instance : FieldOff Tryd.prog 28 1 1 := ⟨fun b o w => by simp [Instr.fieldAt, Instr.sureAddr, Tryd.runUnderlying28, fieldPlace, Tryd.sizeOf3, Addr.add_lit]⟩
instance : StructAt Tryd.prog 28 [.int .i64 0, .int .i64 0] [(0, 1), (1, 1)] := ⟨fun parts cells h => by
  have e : Tryd.prog.built 28 parts = Instr.fill (([(0, 1), (1, 1)] : List (Nat × Nat)).toArray[·]?) (#[.int .i64 0, .int .i64 0] : Array Value) parts := by kernel_rfl
  rw [e]; simpa using h⟩
instance : ZeroVal Tryd.prog 28 (.agg #[.int .i64 0, .int .i64 0]) := ⟨Tryd.zeroValue28⟩
instance : OneCell Tryd.prog 30 := ⟨Tryd.isAgg30, Tryd.sizeOf30⟩
instance : ZeroVal Tryd.prog 30 (.nilFunc) := ⟨Tryd.zeroValue30⟩
instance : OneCell Tryd.prog 31 := ⟨Tryd.isAgg31, Tryd.sizeOf31⟩
instance : ZeroVal Tryd.prog 31 (.nilFunc) := ⟨Tryd.zeroValue31⟩
instance : OneCell Tryd.prog 32 := ⟨Tryd.isAgg32, Tryd.sizeOf32⟩
instance : ZeroVal Tryd.prog 32 (.nilFunc) := ⟨Tryd.zeroValue32⟩
instance : OneCell Tryd.prog 33 := ⟨Tryd.isAgg33, Tryd.sizeOf33⟩
instance : ElemSize Tryd.prog 33 6 := ⟨by kernel_rfl, fun w => by have h : Tryd.prog.elem 33 = 47 := (by kernel_rfl); rw [h]; exact Tryd.sizeOf47 w⟩
instance : ElemInfo Tryd.prog 33 47 6 96 [.slice none 0 0, .slice none 0 0, .int .i64 0, .bool false, .int .i64 0, .slice none 0 0] := ⟨by kernel_rfl, by kernel_rfl⟩
instance : ZeroVal Tryd.prog 33 (.slice none 0 0) := ⟨Tryd.zeroValue33⟩
instance : AggSize Tryd.prog 34 4 := ⟨Tryd.isAgg34, Tryd.sizeOf34⟩
instance : FieldOff Tryd.prog 34 0 0 := ⟨fun b o w => by simp [Instr.fieldAt, Instr.sureAddr, Tryd.runUnderlying34, fieldPlace, Tryd.sizeOf9, Addr.add_lit]⟩
instance : FieldOff Tryd.prog 34 1 1 := ⟨fun b o w => by simp [Instr.fieldAt, Instr.sureAddr, Tryd.runUnderlying34, fieldPlace, Tryd.sizeOf3, Addr.add_lit]⟩
instance : FieldOff Tryd.prog 34 2 2 := ⟨fun b o w => by simp [Instr.fieldAt, Instr.sureAddr, Tryd.runUnderlying34, fieldPlace, Tryd.sizeOf3, Addr.add_lit]⟩
instance : FieldOff Tryd.prog 34 3 3 := ⟨fun b o w => by simp [Instr.fieldAt, Instr.sureAddr, Tryd.runUnderlying34, fieldPlace, Tryd.sizeOf33, Addr.add_lit]⟩
instance : StructAt Tryd.prog 34 [.string ByteArray.empty, .int .i64 0, .int .i64 0, .slice none 0 0] [(0, 1), (1, 1), (2, 1), (3, 1)] := ⟨fun parts cells h => by
  have e : Tryd.prog.built 34 parts = Instr.fill (([(0, 1), (1, 1), (2, 1), (3, 1)] : List (Nat × Nat)).toArray[·]?) (#[.string ByteArray.empty, .int .i64 0, .int .i64 0, .slice none 0 0] : Array Value) parts := by kernel_rfl
  rw [e]; simpa using h⟩
instance : ZeroVal Tryd.prog 34 (.agg #[.string ByteArray.empty, .int .i64 0, .int .i64 0, .slice none 0 0]) := ⟨Tryd.zeroValue34⟩
instance : AggSize Tryd.prog 35 4 := ⟨Tryd.isAgg35, Tryd.sizeOf35⟩
instance : FieldOff Tryd.prog 35 0 0 := ⟨fun b o w => by simp [Instr.fieldAt, Instr.sureAddr, Tryd.runUnderlying35, fieldPlace, Tryd.sizeOf9, Addr.add_lit]⟩
instance : FieldOff Tryd.prog 35 1 1 := ⟨fun b o w => by simp [Instr.fieldAt, Instr.sureAddr, Tryd.runUnderlying35, fieldPlace, Tryd.sizeOf3, Addr.add_lit]⟩
instance : FieldOff Tryd.prog 35 2 2 := ⟨fun b o w => by simp [Instr.fieldAt, Instr.sureAddr, Tryd.runUnderlying35, fieldPlace, Tryd.sizeOf3, Addr.add_lit]⟩
instance : FieldOff Tryd.prog 35 3 3 := ⟨fun b o w => by simp [Instr.fieldAt, Instr.sureAddr, Tryd.runUnderlying35, fieldPlace, Tryd.sizeOf33, Addr.add_lit]⟩
instance : StructAt Tryd.prog 35 [.string ByteArray.empty, .int .i64 0, .int .i64 0, .slice none 0 0] [(0, 1), (1, 1), (2, 1), (3, 1)] := ⟨fun parts cells h => by
  have e : Tryd.prog.built 35 parts = Instr.fill (([(0, 1), (1, 1), (2, 1), (3, 1)] : List (Nat × Nat)).toArray[·]?) (#[.string ByteArray.empty, .int .i64 0, .int .i64 0, .slice none 0 0] : Array Value) parts := by kernel_rfl
  rw [e]; simpa using h⟩
instance : ZeroVal Tryd.prog 35 (.agg #[.string ByteArray.empty, .int .i64 0, .int .i64 0, .slice none 0 0]) := ⟨Tryd.zeroValue35⟩
instance : OneCell Tryd.prog 36 := ⟨Tryd.isAgg36, Tryd.sizeOf36⟩
instance : ZeroVal Tryd.prog 36 (.nilFunc) := ⟨Tryd.zeroValue36⟩
instance : OneCell Tryd.prog 37 := ⟨Tryd.isAgg37, Tryd.sizeOf37⟩
instance : ZeroVal Tryd.prog 37 (.nilFunc) := ⟨Tryd.zeroValue37⟩
instance : OneCell Tryd.prog 38 := ⟨Tryd.isAgg38, Tryd.sizeOf38⟩
instance : ElemSize Tryd.prog 38 1 := ⟨by kernel_rfl, fun w => by have h : Tryd.prog.elem 38 = 3 := (by kernel_rfl); rw [h]; exact Tryd.sizeOf3 w⟩
instance : ElemInfo Tryd.prog 38 3 1 8 [.int .i64 0] := ⟨by kernel_rfl, by kernel_rfl⟩
instance : ZeroVal Tryd.prog 38 (.slice none 0 0) := ⟨Tryd.zeroValue38⟩
instance : OneCell Tryd.prog 39 := ⟨Tryd.isAgg39, Tryd.sizeOf39⟩
instance : ZeroVal Tryd.prog 39 (.nilFunc) := ⟨Tryd.zeroValue39⟩
instance : AggSize Tryd.prog 40 2 := ⟨Tryd.isAgg40, Tryd.sizeOf40⟩
instance : FieldOff Tryd.prog 40 0 0 := ⟨fun b o w => by simp [Instr.fieldAt, Instr.sureAddr, Tryd.runUnderlying40, fieldPlace, Tryd.sizeOf4, Addr.add_lit]⟩
instance : FieldOff Tryd.prog 40 1 1 := ⟨fun b o w => by simp [Instr.fieldAt, Instr.sureAddr, Tryd.runUnderlying40, fieldPlace, Tryd.sizeOf3, Addr.add_lit]⟩
instance : StructAt Tryd.prog 40 [.bool false, .int .i64 0] [(0, 1), (1, 1)] := ⟨fun parts cells h => by
  have e : Tryd.prog.built 40 parts = Instr.fill (([(0, 1), (1, 1)] : List (Nat × Nat)).toArray[·]?) (#[.bool false, .int .i64 0] : Array Value) parts := by kernel_rfl
  rw [e]; simpa using h⟩
instance : ZeroVal Tryd.prog 40 (.agg #[.bool false, .int .i64 0]) := ⟨Tryd.zeroValue40⟩
instance : AggSize Tryd.prog 41 2 := ⟨Tryd.isAgg41, Tryd.sizeOf41⟩
instance : FieldOff Tryd.prog 41 0 0 := ⟨fun b o w => by simp [Instr.fieldAt, Instr.sureAddr, Tryd.runUnderlying41, fieldPlace, Tryd.sizeOf4, Addr.add_lit]⟩
instance : FieldOff Tryd.prog 41 1 1 := ⟨fun b o w => by simp [Instr.fieldAt, Instr.sureAddr, Tryd.runUnderlying41, fieldPlace, Tryd.sizeOf3, Addr.add_lit]⟩
instance : StructAt Tryd.prog 41 [.bool false, .int .i64 0] [(0, 1), (1, 1)] := ⟨fun parts cells h => by
  have e : Tryd.prog.built 41 parts = Instr.fill (([(0, 1), (1, 1)] : List (Nat × Nat)).toArray[·]?) (#[.bool false, .int .i64 0] : Array Value) parts := by kernel_rfl
  rw [e]; simpa using h⟩
instance : ZeroVal Tryd.prog 41 (.agg #[.bool false, .int .i64 0]) := ⟨Tryd.zeroValue41⟩
instance : AggSize Tryd.prog 42 4 := ⟨Tryd.isAgg42, Tryd.sizeOf42⟩
instance : FieldOff Tryd.prog 42 0 0 := ⟨fun b o w => by simp [Instr.fieldAt, Instr.sureAddr, Tryd.runUnderlying42, fieldPlace, Tryd.sizeOf3, Addr.add_lit]⟩
instance : FieldOff Tryd.prog 42 1 1 := ⟨fun b o w => by simp [Instr.fieldAt, Instr.sureAddr, Tryd.runUnderlying42, fieldPlace, Tryd.sizeOf41, Addr.add_lit]⟩
instance : FieldOff Tryd.prog 42 2 3 := ⟨fun b o w => by simp [Instr.fieldAt, Instr.sureAddr, Tryd.runUnderlying42, fieldPlace, Tryd.sizeOf38, Addr.add_lit]⟩
instance : StructAt Tryd.prog 42 [.int .i64 0, .bool false, .int .i64 0, .slice none 0 0] [(0, 1), (1, 2), (3, 1)] := ⟨fun parts cells h => by
  have e : Tryd.prog.built 42 parts = Instr.fill (([(0, 1), (1, 2), (3, 1)] : List (Nat × Nat)).toArray[·]?) (#[.int .i64 0, .bool false, .int .i64 0, .slice none 0 0] : Array Value) parts := by kernel_rfl
  rw [e]; simpa using h⟩
instance : ZeroVal Tryd.prog 42 (.agg #[.int .i64 0, .bool false, .int .i64 0, .slice none 0 0]) := ⟨Tryd.zeroValue42⟩
instance : AggSize Tryd.prog 43 4 := ⟨Tryd.isAgg43, Tryd.sizeOf43⟩
instance : FieldOff Tryd.prog 43 0 0 := ⟨fun b o w => by simp [Instr.fieldAt, Instr.sureAddr, Tryd.runUnderlying43, fieldPlace, Tryd.sizeOf3, Addr.add_lit]⟩
instance : FieldOff Tryd.prog 43 1 1 := ⟨fun b o w => by simp [Instr.fieldAt, Instr.sureAddr, Tryd.runUnderlying43, fieldPlace, Tryd.sizeOf41, Addr.add_lit]⟩
instance : FieldOff Tryd.prog 43 2 3 := ⟨fun b o w => by simp [Instr.fieldAt, Instr.sureAddr, Tryd.runUnderlying43, fieldPlace, Tryd.sizeOf38, Addr.add_lit]⟩
instance : StructAt Tryd.prog 43 [.int .i64 0, .bool false, .int .i64 0, .slice none 0 0] [(0, 1), (1, 2), (3, 1)] := ⟨fun parts cells h => by
  have e : Tryd.prog.built 43 parts = Instr.fill (([(0, 1), (1, 2), (3, 1)] : List (Nat × Nat)).toArray[·]?) (#[.int .i64 0, .bool false, .int .i64 0, .slice none 0 0] : Array Value) parts := by kernel_rfl
  rw [e]; simpa using h⟩
instance : ZeroVal Tryd.prog 43 (.agg #[.int .i64 0, .bool false, .int .i64 0, .slice none 0 0]) := ⟨Tryd.zeroValue43⟩
instance : OneCell Tryd.prog 44 := ⟨Tryd.isAgg44, Tryd.sizeOf44⟩
instance : ElemSize Tryd.prog 44 2 := ⟨by kernel_rfl, fun w => by have h : Tryd.prog.elem 44 = 69 := (by kernel_rfl); rw [h]; exact Tryd.sizeOf69 w⟩
instance : ElemInfo Tryd.prog 44 69 2 32 [.int .i64 0, .slice none 0 0] := ⟨by kernel_rfl, by kernel_rfl⟩
instance : ZeroVal Tryd.prog 44 (.slice none 0 0) := ⟨Tryd.zeroValue44⟩
instance : OneCell Tryd.prog 45 := ⟨Tryd.isAgg45, Tryd.sizeOf45⟩
instance : ElemSize Tryd.prog 45 8 := ⟨by kernel_rfl, fun w => by have h : Tryd.prog.elem 45 = 71 := (by kernel_rfl); rw [h]; exact Tryd.sizeOf71 w⟩
instance : ElemInfo Tryd.prog 45 71 8 80 [.int .i64 0, .int .i64 0, .bool false, .int .i64 0, .bool false, .int .i64 0, .int .i64 0, .slice none 0 0] := ⟨by kernel_rfl, by kernel_rfl⟩
instance : ZeroVal Tryd.prog 45 (.slice none 0 0) := ⟨Tryd.zeroValue45⟩
instance : AggSize Tryd.prog 46 6 := ⟨Tryd.isAgg46, Tryd.sizeOf46⟩
instance : FieldOff Tryd.prog 46 0 0 := ⟨fun b o w => by simp [Instr.fieldAt, Instr.sureAddr, Tryd.runUnderlying46, fieldPlace, Tryd.sizeOf44, Addr.add_lit]⟩
instance : FieldOff Tryd.prog 46 1 1 := ⟨fun b o w => by simp [Instr.fieldAt, Instr.sureAddr, Tryd.runUnderlying46, fieldPlace, Tryd.sizeOf45, Addr.add_lit]⟩
instance : FieldOff Tryd.prog 46 2 2 := ⟨fun b o w => by simp [Instr.fieldAt, Instr.sureAddr, Tryd.runUnderlying46, fieldPlace, Tryd.sizeOf43, Addr.add_lit]⟩
instance : StructAt Tryd.prog 46 [.slice none 0 0, .slice none 0 0, .int .i64 0, .bool false, .int .i64 0, .slice none 0 0] [(0, 1), (1, 1), (2, 4)] := ⟨fun parts cells h => by
  have e : Tryd.prog.built 46 parts = Instr.fill (([(0, 1), (1, 1), (2, 4)] : List (Nat × Nat)).toArray[·]?) (#[.slice none 0 0, .slice none 0 0, .int .i64 0, .bool false, .int .i64 0, .slice none 0 0] : Array Value) parts := by kernel_rfl
  rw [e]; simpa using h⟩
instance : ZeroVal Tryd.prog 46 (.agg #[.slice none 0 0, .slice none 0 0, .int .i64 0, .bool false, .int .i64 0, .slice none 0 0]) := ⟨Tryd.zeroValue46⟩
instance : AggSize Tryd.prog 47 6 := ⟨Tryd.isAgg47, Tryd.sizeOf47⟩
instance : FieldOff Tryd.prog 47 0 0 := ⟨fun b o w => by simp [Instr.fieldAt, Instr.sureAddr, Tryd.runUnderlying47, fieldPlace, Tryd.sizeOf44, Addr.add_lit]⟩
instance : FieldOff Tryd.prog 47 1 1 := ⟨fun b o w => by simp [Instr.fieldAt, Instr.sureAddr, Tryd.runUnderlying47, fieldPlace, Tryd.sizeOf45, Addr.add_lit]⟩
instance : FieldOff Tryd.prog 47 2 2 := ⟨fun b o w => by simp [Instr.fieldAt, Instr.sureAddr, Tryd.runUnderlying47, fieldPlace, Tryd.sizeOf43, Addr.add_lit]⟩
instance : StructAt Tryd.prog 47 [.slice none 0 0, .slice none 0 0, .int .i64 0, .bool false, .int .i64 0, .slice none 0 0] [(0, 1), (1, 1), (2, 4)] := ⟨fun parts cells h => by
  have e : Tryd.prog.built 47 parts = Instr.fill (([(0, 1), (1, 1), (2, 4)] : List (Nat × Nat)).toArray[·]?) (#[.slice none 0 0, .slice none 0 0, .int .i64 0, .bool false, .int .i64 0, .slice none 0 0] : Array Value) parts := by kernel_rfl
  rw [e]; simpa using h⟩
instance : ZeroVal Tryd.prog 47 (.agg #[.slice none 0 0, .slice none 0 0, .int .i64 0, .bool false, .int .i64 0, .slice none 0 0]) := ⟨Tryd.zeroValue47⟩
instance : OneCell Tryd.prog 48 := ⟨Tryd.isAgg48, Tryd.sizeOf48⟩
instance : ZeroVal Tryd.prog 48 (.nilFunc) := ⟨Tryd.zeroValue48⟩
instance : OneCell Tryd.prog 49 := ⟨Tryd.isAgg49, Tryd.sizeOf49⟩
instance : ZeroVal Tryd.prog 49 (.nilFunc) := ⟨Tryd.zeroValue49⟩
instance : OneCell Tryd.prog 50 := ⟨Tryd.isAgg50, Tryd.sizeOf50⟩
instance : ZeroVal Tryd.prog 50 (.nilFunc) := ⟨Tryd.zeroValue50⟩
instance : AggSize Tryd.prog 51 4 := ⟨Tryd.isAgg51, Tryd.sizeOf51⟩
instance : FieldOff Tryd.prog 51 0 0 := ⟨fun b o w => by simp [Instr.fieldAt, Instr.sureAddr, Tryd.runUnderlying51, fieldPlace, Tryd.sizeOf3, Addr.add_lit]⟩
instance : FieldOff Tryd.prog 51 1 1 := ⟨fun b o w => by simp [Instr.fieldAt, Instr.sureAddr, Tryd.runUnderlying51, fieldPlace, Tryd.sizeOf3, Addr.add_lit]⟩
instance : FieldOff Tryd.prog 51 2 2 := ⟨fun b o w => by simp [Instr.fieldAt, Instr.sureAddr, Tryd.runUnderlying51, fieldPlace, Tryd.sizeOf38, Addr.add_lit]⟩
instance : FieldOff Tryd.prog 51 3 3 := ⟨fun b o w => by simp [Instr.fieldAt, Instr.sureAddr, Tryd.runUnderlying51, fieldPlace, Tryd.sizeOf3, Addr.add_lit]⟩
instance : StructAt Tryd.prog 51 [.int .i64 0, .int .i64 0, .slice none 0 0, .int .i64 0] [(0, 1), (1, 1), (2, 1), (3, 1)] := ⟨fun parts cells h => by
  have e : Tryd.prog.built 51 parts = Instr.fill (([(0, 1), (1, 1), (2, 1), (3, 1)] : List (Nat × Nat)).toArray[·]?) (#[.int .i64 0, .int .i64 0, .slice none 0 0, .int .i64 0] : Array Value) parts := by kernel_rfl
  rw [e]; simpa using h⟩
instance : ZeroVal Tryd.prog 51 (.agg #[.int .i64 0, .int .i64 0, .slice none 0 0, .int .i64 0]) := ⟨Tryd.zeroValue51⟩
instance : AggSize Tryd.prog 52 4 := ⟨Tryd.isAgg52, Tryd.sizeOf52⟩
instance : FieldOff Tryd.prog 52 0 0 := ⟨fun b o w => by simp [Instr.fieldAt, Instr.sureAddr, Tryd.runUnderlying52, fieldPlace, Tryd.sizeOf3, Addr.add_lit]⟩
instance : FieldOff Tryd.prog 52 1 1 := ⟨fun b o w => by simp [Instr.fieldAt, Instr.sureAddr, Tryd.runUnderlying52, fieldPlace, Tryd.sizeOf3, Addr.add_lit]⟩
instance : FieldOff Tryd.prog 52 2 2 := ⟨fun b o w => by simp [Instr.fieldAt, Instr.sureAddr, Tryd.runUnderlying52, fieldPlace, Tryd.sizeOf38, Addr.add_lit]⟩
instance : FieldOff Tryd.prog 52 3 3 := ⟨fun b o w => by simp [Instr.fieldAt, Instr.sureAddr, Tryd.runUnderlying52, fieldPlace, Tryd.sizeOf3, Addr.add_lit]⟩
instance : StructAt Tryd.prog 52 [.int .i64 0, .int .i64 0, .slice none 0 0, .int .i64 0] [(0, 1), (1, 1), (2, 1), (3, 1)] := ⟨fun parts cells h => by
  have e : Tryd.prog.built 52 parts = Instr.fill (([(0, 1), (1, 1), (2, 1), (3, 1)] : List (Nat × Nat)).toArray[·]?) (#[.int .i64 0, .int .i64 0, .slice none 0 0, .int .i64 0] : Array Value) parts := by kernel_rfl
  rw [e]; simpa using h⟩
instance : ZeroVal Tryd.prog 52 (.agg #[.int .i64 0, .int .i64 0, .slice none 0 0, .int .i64 0]) := ⟨Tryd.zeroValue52⟩
instance : OneCell Tryd.prog 54 := ⟨Tryd.isAgg54, Tryd.sizeOf54⟩
instance : ZeroVal Tryd.prog 54 (.nilFunc) := ⟨Tryd.zeroValue54⟩
instance : OneCell Tryd.prog 55 := ⟨Tryd.isAgg55, Tryd.sizeOf55⟩
instance : ZeroVal Tryd.prog 55 (.nilFunc) := ⟨Tryd.zeroValue55⟩
instance : OneCell Tryd.prog 56 := ⟨Tryd.isAgg56, Tryd.sizeOf56⟩
instance : ElemSize Tryd.prog 56 1 := ⟨by kernel_rfl, fun w => by have h : Tryd.prog.elem 56 = 38 := (by kernel_rfl); rw [h]; exact Tryd.sizeOf38 w⟩
instance : ElemInfo Tryd.prog 56 38 1 24 [.slice none 0 0] := ⟨by kernel_rfl, by kernel_rfl⟩
instance : ZeroVal Tryd.prog 56 (.slice none 0 0) := ⟨Tryd.zeroValue56⟩
instance : OneCell Tryd.prog 58 := ⟨Tryd.isAgg58, Tryd.sizeOf58⟩
instance : ZeroVal Tryd.prog 58 (.nilFunc) := ⟨Tryd.zeroValue58⟩
instance : OneCell Tryd.prog 60 := ⟨Tryd.isAgg60, Tryd.sizeOf60⟩
instance : ZeroVal Tryd.prog 60 (.nilFunc) := ⟨Tryd.zeroValue60⟩
instance : OneCell Tryd.prog 62 := ⟨Tryd.isAgg62, Tryd.sizeOf62⟩
instance : ZeroVal Tryd.prog 62 (.nilFunc) := ⟨Tryd.zeroValue62⟩
instance : OneCell Tryd.prog 63 := ⟨Tryd.isAgg63, Tryd.sizeOf63⟩
instance : ZeroVal Tryd.prog 63 (.nilFunc) := ⟨Tryd.zeroValue63⟩
instance : OneCell Tryd.prog 64 := ⟨Tryd.isAgg64, Tryd.sizeOf64⟩
instance : ZeroVal Tryd.prog 64 (.nilFunc) := ⟨Tryd.zeroValue64⟩
instance : OneCell Tryd.prog 65 := ⟨Tryd.isAgg65, Tryd.sizeOf65⟩
instance : ZeroVal Tryd.prog 65 (.nilFunc) := ⟨Tryd.zeroValue65⟩
instance : OneCell Tryd.prog 66 := ⟨Tryd.isAgg66, Tryd.sizeOf66⟩
instance : ZeroVal Tryd.prog 66 (.nilFunc) := ⟨Tryd.zeroValue66⟩
instance : OneCell Tryd.prog 67 := ⟨Tryd.isAgg67, Tryd.sizeOf67⟩
instance : ElemSize Tryd.prog 67 2 := ⟨by kernel_rfl, fun w => by have h : Tryd.prog.elem 67 = 41 := (by kernel_rfl); rw [h]; exact Tryd.sizeOf41 w⟩
instance : ElemInfo Tryd.prog 67 41 2 16 [.bool false, .int .i64 0] := ⟨by kernel_rfl, by kernel_rfl⟩
instance : ZeroVal Tryd.prog 67 (.slice none 0 0) := ⟨Tryd.zeroValue67⟩
instance : AggSize Tryd.prog 68 2 := ⟨Tryd.isAgg68, Tryd.sizeOf68⟩
instance : FieldOff Tryd.prog 68 0 0 := ⟨fun b o w => by simp [Instr.fieldAt, Instr.sureAddr, Tryd.runUnderlying68, fieldPlace, Tryd.sizeOf3, Addr.add_lit]⟩
instance : FieldOff Tryd.prog 68 1 1 := ⟨fun b o w => by simp [Instr.fieldAt, Instr.sureAddr, Tryd.runUnderlying68, fieldPlace, Tryd.sizeOf67, Addr.add_lit]⟩
instance : StructAt Tryd.prog 68 [.int .i64 0, .slice none 0 0] [(0, 1), (1, 1)] := ⟨fun parts cells h => by
  have e : Tryd.prog.built 68 parts = Instr.fill (([(0, 1), (1, 1)] : List (Nat × Nat)).toArray[·]?) (#[.int .i64 0, .slice none 0 0] : Array Value) parts := by kernel_rfl
  rw [e]; simpa using h⟩
instance : ZeroVal Tryd.prog 68 (.agg #[.int .i64 0, .slice none 0 0]) := ⟨Tryd.zeroValue68⟩
instance : AggSize Tryd.prog 69 2 := ⟨Tryd.isAgg69, Tryd.sizeOf69⟩
instance : FieldOff Tryd.prog 69 0 0 := ⟨fun b o w => by simp [Instr.fieldAt, Instr.sureAddr, Tryd.runUnderlying69, fieldPlace, Tryd.sizeOf3, Addr.add_lit]⟩
instance : FieldOff Tryd.prog 69 1 1 := ⟨fun b o w => by simp [Instr.fieldAt, Instr.sureAddr, Tryd.runUnderlying69, fieldPlace, Tryd.sizeOf67, Addr.add_lit]⟩
instance : StructAt Tryd.prog 69 [.int .i64 0, .slice none 0 0] [(0, 1), (1, 1)] := ⟨fun parts cells h => by
  have e : Tryd.prog.built 69 parts = Instr.fill (([(0, 1), (1, 1)] : List (Nat × Nat)).toArray[·]?) (#[.int .i64 0, .slice none 0 0] : Array Value) parts := by kernel_rfl
  rw [e]; simpa using h⟩
instance : ZeroVal Tryd.prog 69 (.agg #[.int .i64 0, .slice none 0 0]) := ⟨Tryd.zeroValue69⟩
instance : AggSize Tryd.prog 70 8 := ⟨Tryd.isAgg70, Tryd.sizeOf70⟩
instance : FieldOff Tryd.prog 70 0 0 := ⟨fun b o w => by simp [Instr.fieldAt, Instr.sureAddr, Tryd.runUnderlying70, fieldPlace, Tryd.sizeOf3, Addr.add_lit]⟩
instance : FieldOff Tryd.prog 70 1 1 := ⟨fun b o w => by simp [Instr.fieldAt, Instr.sureAddr, Tryd.runUnderlying70, fieldPlace, Tryd.sizeOf3, Addr.add_lit]⟩
instance : FieldOff Tryd.prog 70 2 2 := ⟨fun b o w => by simp [Instr.fieldAt, Instr.sureAddr, Tryd.runUnderlying70, fieldPlace, Tryd.sizeOf41, Addr.add_lit]⟩
instance : FieldOff Tryd.prog 70 3 4 := ⟨fun b o w => by simp [Instr.fieldAt, Instr.sureAddr, Tryd.runUnderlying70, fieldPlace, Tryd.sizeOf41, Addr.add_lit]⟩
instance : FieldOff Tryd.prog 70 4 6 := ⟨fun b o w => by simp [Instr.fieldAt, Instr.sureAddr, Tryd.runUnderlying70, fieldPlace, Tryd.sizeOf3, Addr.add_lit]⟩
instance : FieldOff Tryd.prog 70 5 7 := ⟨fun b o w => by simp [Instr.fieldAt, Instr.sureAddr, Tryd.runUnderlying70, fieldPlace, Tryd.sizeOf67, Addr.add_lit]⟩
instance : StructAt Tryd.prog 70 [.int .i64 0, .int .i64 0, .bool false, .int .i64 0, .bool false, .int .i64 0, .int .i64 0, .slice none 0 0] [(0, 1), (1, 1), (2, 2), (4, 2), (6, 1), (7, 1)] := ⟨fun parts cells h => by
  have e : Tryd.prog.built 70 parts = Instr.fill (([(0, 1), (1, 1), (2, 2), (4, 2), (6, 1), (7, 1)] : List (Nat × Nat)).toArray[·]?) (#[.int .i64 0, .int .i64 0, .bool false, .int .i64 0, .bool false, .int .i64 0, .int .i64 0, .slice none 0 0] : Array Value) parts := by kernel_rfl
  rw [e]; simpa using h⟩
instance : ZeroVal Tryd.prog 70 (.agg #[.int .i64 0, .int .i64 0, .bool false, .int .i64 0, .bool false, .int .i64 0, .int .i64 0, .slice none 0 0]) := ⟨Tryd.zeroValue70⟩
instance : AggSize Tryd.prog 71 8 := ⟨Tryd.isAgg71, Tryd.sizeOf71⟩
instance : FieldOff Tryd.prog 71 0 0 := ⟨fun b o w => by simp [Instr.fieldAt, Instr.sureAddr, Tryd.runUnderlying71, fieldPlace, Tryd.sizeOf3, Addr.add_lit]⟩
instance : FieldOff Tryd.prog 71 1 1 := ⟨fun b o w => by simp [Instr.fieldAt, Instr.sureAddr, Tryd.runUnderlying71, fieldPlace, Tryd.sizeOf3, Addr.add_lit]⟩
instance : FieldOff Tryd.prog 71 2 2 := ⟨fun b o w => by simp [Instr.fieldAt, Instr.sureAddr, Tryd.runUnderlying71, fieldPlace, Tryd.sizeOf41, Addr.add_lit]⟩
instance : FieldOff Tryd.prog 71 3 4 := ⟨fun b o w => by simp [Instr.fieldAt, Instr.sureAddr, Tryd.runUnderlying71, fieldPlace, Tryd.sizeOf41, Addr.add_lit]⟩
instance : FieldOff Tryd.prog 71 4 6 := ⟨fun b o w => by simp [Instr.fieldAt, Instr.sureAddr, Tryd.runUnderlying71, fieldPlace, Tryd.sizeOf3, Addr.add_lit]⟩
instance : FieldOff Tryd.prog 71 5 7 := ⟨fun b o w => by simp [Instr.fieldAt, Instr.sureAddr, Tryd.runUnderlying71, fieldPlace, Tryd.sizeOf67, Addr.add_lit]⟩
instance : StructAt Tryd.prog 71 [.int .i64 0, .int .i64 0, .bool false, .int .i64 0, .bool false, .int .i64 0, .int .i64 0, .slice none 0 0] [(0, 1), (1, 1), (2, 2), (4, 2), (6, 1), (7, 1)] := ⟨fun parts cells h => by
  have e : Tryd.prog.built 71 parts = Instr.fill (([(0, 1), (1, 1), (2, 2), (4, 2), (6, 1), (7, 1)] : List (Nat × Nat)).toArray[·]?) (#[.int .i64 0, .int .i64 0, .bool false, .int .i64 0, .bool false, .int .i64 0, .int .i64 0, .slice none 0 0] : Array Value) parts := by kernel_rfl
  rw [e]; simpa using h⟩
instance : ZeroVal Tryd.prog 71 (.agg #[.int .i64 0, .int .i64 0, .bool false, .int .i64 0, .bool false, .int .i64 0, .int .i64 0, .slice none 0 0]) := ⟨Tryd.zeroValue71⟩
instance : OneCell Tryd.prog 72 := ⟨Tryd.isAgg72, Tryd.sizeOf72⟩
instance : ZeroVal Tryd.prog 72 (.nilFunc) := ⟨Tryd.zeroValue72⟩
instance : OneCell Tryd.prog 73 := ⟨Tryd.isAgg73, Tryd.sizeOf73⟩
instance : ZeroVal Tryd.prog 73 (.nilFunc) := ⟨Tryd.zeroValue73⟩
instance : OneCell Tryd.prog 74 := ⟨Tryd.isAgg74, Tryd.sizeOf74⟩
instance : ZeroVal Tryd.prog 74 (.nilFunc) := ⟨Tryd.zeroValue74⟩
instance : OneCell Tryd.prog 75 := ⟨Tryd.isAgg75, Tryd.sizeOf75⟩
instance : ZeroVal Tryd.prog 75 (.nilFunc) := ⟨Tryd.zeroValue75⟩
instance : OneCell Tryd.prog 76 := ⟨Tryd.isAgg76, Tryd.sizeOf76⟩
instance : ElemSize Tryd.prog 76 1 := ⟨by kernel_rfl, fun w => by have h : Tryd.prog.elem 76 = 9 := (by kernel_rfl); rw [h]; exact Tryd.sizeOf9 w⟩
instance : ElemInfo Tryd.prog 76 9 1 16 [.string ByteArray.empty] := ⟨by kernel_rfl, by kernel_rfl⟩
instance : ZeroVal Tryd.prog 76 (.slice none 0 0) := ⟨Tryd.zeroValue76⟩
instance : AggSize Tryd.prog 77 3 := ⟨Tryd.isAgg77, Tryd.sizeOf77⟩
instance : FieldOff Tryd.prog 77 0 0 := ⟨fun b o w => by simp [Instr.fieldAt, Instr.sureAddr, Tryd.runUnderlying77, fieldPlace, Tryd.sizeOf9, Addr.add_lit]⟩
instance : FieldOff Tryd.prog 77 1 1 := ⟨fun b o w => by simp [Instr.fieldAt, Instr.sureAddr, Tryd.runUnderlying77, fieldPlace, Tryd.sizeOf3, Addr.add_lit]⟩
instance : FieldOff Tryd.prog 77 2 2 := ⟨fun b o w => by simp [Instr.fieldAt, Instr.sureAddr, Tryd.runUnderlying77, fieldPlace, Tryd.sizeOf38, Addr.add_lit]⟩
instance : StructAt Tryd.prog 77 [.string ByteArray.empty, .int .i64 0, .slice none 0 0] [(0, 1), (1, 1), (2, 1)] := ⟨fun parts cells h => by
  have e : Tryd.prog.built 77 parts = Instr.fill (([(0, 1), (1, 1), (2, 1)] : List (Nat × Nat)).toArray[·]?) (#[.string ByteArray.empty, .int .i64 0, .slice none 0 0] : Array Value) parts := by kernel_rfl
  rw [e]; simpa using h⟩
instance : ZeroVal Tryd.prog 77 (.agg #[.string ByteArray.empty, .int .i64 0, .slice none 0 0]) := ⟨Tryd.zeroValue77⟩
instance : AggSize Tryd.prog 78 3 := ⟨Tryd.isAgg78, Tryd.sizeOf78⟩
instance : FieldOff Tryd.prog 78 0 0 := ⟨fun b o w => by simp [Instr.fieldAt, Instr.sureAddr, Tryd.runUnderlying78, fieldPlace, Tryd.sizeOf9, Addr.add_lit]⟩
instance : FieldOff Tryd.prog 78 1 1 := ⟨fun b o w => by simp [Instr.fieldAt, Instr.sureAddr, Tryd.runUnderlying78, fieldPlace, Tryd.sizeOf3, Addr.add_lit]⟩
instance : FieldOff Tryd.prog 78 2 2 := ⟨fun b o w => by simp [Instr.fieldAt, Instr.sureAddr, Tryd.runUnderlying78, fieldPlace, Tryd.sizeOf38, Addr.add_lit]⟩
instance : StructAt Tryd.prog 78 [.string ByteArray.empty, .int .i64 0, .slice none 0 0] [(0, 1), (1, 1), (2, 1)] := ⟨fun parts cells h => by
  have e : Tryd.prog.built 78 parts = Instr.fill (([(0, 1), (1, 1), (2, 1)] : List (Nat × Nat)).toArray[·]?) (#[.string ByteArray.empty, .int .i64 0, .slice none 0 0] : Array Value) parts := by kernel_rfl
  rw [e]; simpa using h⟩
instance : ZeroVal Tryd.prog 78 (.agg #[.string ByteArray.empty, .int .i64 0, .slice none 0 0]) := ⟨Tryd.zeroValue78⟩
instance : OneCell Tryd.prog 79 := ⟨Tryd.isAgg79, Tryd.sizeOf79⟩
instance : ZeroVal Tryd.prog 79 (.nilFunc) := ⟨Tryd.zeroValue79⟩
instance : OneCell Tryd.prog 80 := ⟨Tryd.isAgg80, Tryd.sizeOf80⟩
instance : ZeroVal Tryd.prog 80 (.nilFunc) := ⟨Tryd.zeroValue80⟩
instance : OneCell Tryd.prog 81 := ⟨Tryd.isAgg81, Tryd.sizeOf81⟩
instance : ZeroVal Tryd.prog 81 (.nilFunc) := ⟨Tryd.zeroValue81⟩
instance : AggSize Tryd.prog 82 7 := ⟨Tryd.isAgg82, Tryd.sizeOf82⟩
instance : FieldOff Tryd.prog 82 0 0 := ⟨fun b o w => by simp [Instr.fieldAt, Instr.sureAddr, Tryd.runUnderlying82, fieldPlace, Tryd.sizeOf25, Addr.add_lit]⟩
instance : FieldOff Tryd.prog 82 1 2 := ⟨fun b o w => by simp [Instr.fieldAt, Instr.sureAddr, Tryd.runUnderlying82, fieldPlace, Tryd.sizeOf35, Addr.add_lit]⟩
instance : FieldOff Tryd.prog 82 2 6 := ⟨fun b o w => by simp [Instr.fieldAt, Instr.sureAddr, Tryd.runUnderlying82, fieldPlace, Tryd.sizeOf56, Addr.add_lit]⟩
instance : StructAt Tryd.prog 82 [.slice none 0 0, .slice none 0 0, .string ByteArray.empty, .int .i64 0, .int .i64 0, .slice none 0 0, .slice none 0 0] [(0, 2), (2, 4), (6, 1)] := ⟨fun parts cells h => by
  have e : Tryd.prog.built 82 parts = Instr.fill (([(0, 2), (2, 4), (6, 1)] : List (Nat × Nat)).toArray[·]?) (#[.slice none 0 0, .slice none 0 0, .string ByteArray.empty, .int .i64 0, .int .i64 0, .slice none 0 0, .slice none 0 0] : Array Value) parts := by kernel_rfl
  rw [e]; simpa using h⟩
instance : ZeroVal Tryd.prog 82 (.agg #[.slice none 0 0, .slice none 0 0, .string ByteArray.empty, .int .i64 0, .int .i64 0, .slice none 0 0, .slice none 0 0]) := ⟨Tryd.zeroValue82⟩
instance : AggSize Tryd.prog 83 7 := ⟨Tryd.isAgg83, Tryd.sizeOf83⟩
instance : FieldOff Tryd.prog 83 0 0 := ⟨fun b o w => by simp [Instr.fieldAt, Instr.sureAddr, Tryd.runUnderlying83, fieldPlace, Tryd.sizeOf25, Addr.add_lit]⟩
instance : FieldOff Tryd.prog 83 1 2 := ⟨fun b o w => by simp [Instr.fieldAt, Instr.sureAddr, Tryd.runUnderlying83, fieldPlace, Tryd.sizeOf35, Addr.add_lit]⟩
instance : FieldOff Tryd.prog 83 2 6 := ⟨fun b o w => by simp [Instr.fieldAt, Instr.sureAddr, Tryd.runUnderlying83, fieldPlace, Tryd.sizeOf56, Addr.add_lit]⟩
instance : StructAt Tryd.prog 83 [.slice none 0 0, .slice none 0 0, .string ByteArray.empty, .int .i64 0, .int .i64 0, .slice none 0 0, .slice none 0 0] [(0, 2), (2, 4), (6, 1)] := ⟨fun parts cells h => by
  have e : Tryd.prog.built 83 parts = Instr.fill (([(0, 2), (2, 4), (6, 1)] : List (Nat × Nat)).toArray[·]?) (#[.slice none 0 0, .slice none 0 0, .string ByteArray.empty, .int .i64 0, .int .i64 0, .slice none 0 0, .slice none 0 0] : Array Value) parts := by kernel_rfl
  rw [e]; simpa using h⟩
instance : ZeroVal Tryd.prog 83 (.agg #[.slice none 0 0, .slice none 0 0, .string ByteArray.empty, .int .i64 0, .int .i64 0, .slice none 0 0, .slice none 0 0]) := ⟨Tryd.zeroValue83⟩
instance : OneCell Tryd.prog 84 := ⟨Tryd.isAgg84, Tryd.sizeOf84⟩
instance : ZeroVal Tryd.prog 84 (.nilFunc) := ⟨Tryd.zeroValue84⟩
instance : OneCell Tryd.prog 85 := ⟨Tryd.isAgg85, Tryd.sizeOf85⟩
instance : ZeroVal Tryd.prog 85 (.nilFunc) := ⟨Tryd.zeroValue85⟩
instance : OneCell Tryd.prog 86 := ⟨Tryd.isAgg86, Tryd.sizeOf86⟩
instance : ZeroVal Tryd.prog 86 (.nilFunc) := ⟨Tryd.zeroValue86⟩
instance : OneCell Tryd.prog 87 := ⟨Tryd.isAgg87, Tryd.sizeOf87⟩
instance : ZeroVal Tryd.prog 87 (.nilFunc) := ⟨Tryd.zeroValue87⟩
instance : OneCell Tryd.prog 88 := ⟨Tryd.isAgg88, Tryd.sizeOf88⟩
instance : ElemSize Tryd.prog 88 3 := ⟨by kernel_rfl, fun w => by have h : Tryd.prog.elem 88 = 91 := (by kernel_rfl); rw [h]; exact Tryd.sizeOf91 w⟩
instance : ElemInfo Tryd.prog 88 91 3 24 [.int .i64 0, .bool false, .int .i64 0] := ⟨by kernel_rfl, by kernel_rfl⟩
instance : ZeroVal Tryd.prog 88 (.slice none 0 0) := ⟨Tryd.zeroValue88⟩
instance : OneCell Tryd.prog 89 := ⟨Tryd.isAgg89, Tryd.sizeOf89⟩
instance : ZeroVal Tryd.prog 89 (.nilFunc) := ⟨Tryd.zeroValue89⟩
instance : AggSize Tryd.prog 90 3 := ⟨Tryd.isAgg90, Tryd.sizeOf90⟩
instance : FieldOff Tryd.prog 90 0 0 := ⟨fun b o w => by simp [Instr.fieldAt, Instr.sureAddr, Tryd.runUnderlying90, fieldPlace, Tryd.sizeOf3, Addr.add_lit]⟩
instance : FieldOff Tryd.prog 90 1 1 := ⟨fun b o w => by simp [Instr.fieldAt, Instr.sureAddr, Tryd.runUnderlying90, fieldPlace, Tryd.sizeOf41, Addr.add_lit]⟩
instance : StructAt Tryd.prog 90 [.int .i64 0, .bool false, .int .i64 0] [(0, 1), (1, 2)] := ⟨fun parts cells h => by
  have e : Tryd.prog.built 90 parts = Instr.fill (([(0, 1), (1, 2)] : List (Nat × Nat)).toArray[·]?) (#[.int .i64 0, .bool false, .int .i64 0] : Array Value) parts := by kernel_rfl
  rw [e]; simpa using h⟩
instance : ZeroVal Tryd.prog 90 (.agg #[.int .i64 0, .bool false, .int .i64 0]) := ⟨Tryd.zeroValue90⟩
instance : AggSize Tryd.prog 91 3 := ⟨Tryd.isAgg91, Tryd.sizeOf91⟩
instance : FieldOff Tryd.prog 91 0 0 := ⟨fun b o w => by simp [Instr.fieldAt, Instr.sureAddr, Tryd.runUnderlying91, fieldPlace, Tryd.sizeOf3, Addr.add_lit]⟩
instance : FieldOff Tryd.prog 91 1 1 := ⟨fun b o w => by simp [Instr.fieldAt, Instr.sureAddr, Tryd.runUnderlying91, fieldPlace, Tryd.sizeOf41, Addr.add_lit]⟩
instance : StructAt Tryd.prog 91 [.int .i64 0, .bool false, .int .i64 0] [(0, 1), (1, 2)] := ⟨fun parts cells h => by
  have e : Tryd.prog.built 91 parts = Instr.fill (([(0, 1), (1, 2)] : List (Nat × Nat)).toArray[·]?) (#[.int .i64 0, .bool false, .int .i64 0] : Array Value) parts := by kernel_rfl
  rw [e]; simpa using h⟩
instance : ZeroVal Tryd.prog 91 (.agg #[.int .i64 0, .bool false, .int .i64 0]) := ⟨Tryd.zeroValue91⟩
instance : OneCell Tryd.prog 92 := ⟨Tryd.isAgg92, Tryd.sizeOf92⟩
instance : ZeroVal Tryd.prog 92 (.nilFunc) := ⟨Tryd.zeroValue92⟩
instance : OneCell Tryd.prog 93 := ⟨Tryd.isAgg93, Tryd.sizeOf93⟩
instance : ZeroVal Tryd.prog 93 (.nilFunc) := ⟨Tryd.zeroValue93⟩
instance : OneCell Tryd.prog 94 := ⟨Tryd.isAgg94, Tryd.sizeOf94⟩
instance : ZeroVal Tryd.prog 94 (.nilFunc) := ⟨Tryd.zeroValue94⟩
instance : OneCell Tryd.prog 95 := ⟨Tryd.isAgg95, Tryd.sizeOf95⟩
instance : ZeroVal Tryd.prog 95 (.nilFunc) := ⟨Tryd.zeroValue95⟩
instance : OneCell Tryd.prog 96 := ⟨Tryd.isAgg96, Tryd.sizeOf96⟩
instance : ZeroVal Tryd.prog 96 (.pointer none) := ⟨Tryd.zeroValue96⟩
instance : OneCell Tryd.prog 97 := ⟨Tryd.isAgg97, Tryd.sizeOf97⟩
instance : ElemSize Tryd.prog 97 1 := ⟨by kernel_rfl, fun w => by have h : Tryd.prog.elem 97 = 56 := (by kernel_rfl); rw [h]; exact Tryd.sizeOf56 w⟩
instance : ElemInfo Tryd.prog 97 56 1 24 [.slice none 0 0] := ⟨by kernel_rfl, by kernel_rfl⟩
instance : ZeroVal Tryd.prog 97 (.slice none 0 0) := ⟨Tryd.zeroValue97⟩
instance : OneCell Tryd.prog 98 := ⟨Tryd.isAgg98, Tryd.sizeOf98⟩
instance : ElemSize Tryd.prog 98 5 := ⟨by kernel_rfl, fun w => by have h : Tryd.prog.elem 98 = 131 := (by kernel_rfl); rw [h]; exact Tryd.sizeOf131 w⟩
instance : ElemInfo Tryd.prog 98 131 5 56 [.int .i64 0, .int .i64 0, .int .i64 0, .slice none 0 0, .int .i64 0] := ⟨by kernel_rfl, by kernel_rfl⟩
instance : ZeroVal Tryd.prog 98 (.slice none 0 0) := ⟨Tryd.zeroValue98⟩
instance : AggSize Tryd.prog 99 11 := ⟨Tryd.isAgg99, Tryd.sizeOf99⟩
instance : FieldOff Tryd.prog 99 0 0 := ⟨fun b o w => by simp [Instr.fieldAt, Instr.sureAddr, Tryd.runUnderlying99, fieldPlace, Tryd.sizeOf25, Addr.add_lit]⟩
instance : FieldOff Tryd.prog 99 1 2 := ⟨fun b o w => by simp [Instr.fieldAt, Instr.sureAddr, Tryd.runUnderlying99, fieldPlace, Tryd.sizeOf97, Addr.add_lit]⟩
instance : FieldOff Tryd.prog 99 2 3 := ⟨fun b o w => by simp [Instr.fieldAt, Instr.sureAddr, Tryd.runUnderlying99, fieldPlace, Tryd.sizeOf38, Addr.add_lit]⟩
instance : FieldOff Tryd.prog 99 3 4 := ⟨fun b o w => by simp [Instr.fieldAt, Instr.sureAddr, Tryd.runUnderlying99, fieldPlace, Tryd.sizeOf38, Addr.add_lit]⟩
instance : FieldOff Tryd.prog 99 4 5 := ⟨fun b o w => by simp [Instr.fieldAt, Instr.sureAddr, Tryd.runUnderlying99, fieldPlace, Tryd.sizeOf52, Addr.add_lit]⟩
instance : FieldOff Tryd.prog 99 5 9 := ⟨fun b o w => by simp [Instr.fieldAt, Instr.sureAddr, Tryd.runUnderlying99, fieldPlace, Tryd.sizeOf98, Addr.add_lit]⟩
instance : FieldOff Tryd.prog 99 6 10 := ⟨fun b o w => by simp [Instr.fieldAt, Instr.sureAddr, Tryd.runUnderlying99, fieldPlace, Tryd.sizeOf56, Addr.add_lit]⟩
instance : StructAt Tryd.prog 99 [.slice none 0 0, .slice none 0 0, .slice none 0 0, .slice none 0 0, .slice none 0 0, .int .i64 0, .int .i64 0, .slice none 0 0, .int .i64 0, .slice none 0 0, .slice none 0 0] [(0, 2), (2, 1), (3, 1), (4, 1), (5, 4), (9, 1), (10, 1)] := ⟨fun parts cells h => by
  have e : Tryd.prog.built 99 parts = Instr.fill (([(0, 2), (2, 1), (3, 1), (4, 1), (5, 4), (9, 1), (10, 1)] : List (Nat × Nat)).toArray[·]?) (#[.slice none 0 0, .slice none 0 0, .slice none 0 0, .slice none 0 0, .slice none 0 0, .int .i64 0, .int .i64 0, .slice none 0 0, .int .i64 0, .slice none 0 0, .slice none 0 0] : Array Value) parts := by kernel_rfl
  rw [e]; simpa using h⟩
instance : ZeroVal Tryd.prog 99 (.agg #[.slice none 0 0, .slice none 0 0, .slice none 0 0, .slice none 0 0, .slice none 0 0, .int .i64 0, .int .i64 0, .slice none 0 0, .int .i64 0, .slice none 0 0, .slice none 0 0]) := ⟨Tryd.zeroValue99⟩
instance : AggSize Tryd.prog 100 11 := ⟨Tryd.isAgg100, Tryd.sizeOf100⟩
instance : FieldOff Tryd.prog 100 0 0 := ⟨fun b o w => by simp [Instr.fieldAt, Instr.sureAddr, Tryd.runUnderlying100, fieldPlace, Tryd.sizeOf25, Addr.add_lit]⟩
instance : FieldOff Tryd.prog 100 1 2 := ⟨fun b o w => by simp [Instr.fieldAt, Instr.sureAddr, Tryd.runUnderlying100, fieldPlace, Tryd.sizeOf97, Addr.add_lit]⟩
instance : FieldOff Tryd.prog 100 2 3 := ⟨fun b o w => by simp [Instr.fieldAt, Instr.sureAddr, Tryd.runUnderlying100, fieldPlace, Tryd.sizeOf38, Addr.add_lit]⟩
instance : FieldOff Tryd.prog 100 3 4 := ⟨fun b o w => by simp [Instr.fieldAt, Instr.sureAddr, Tryd.runUnderlying100, fieldPlace, Tryd.sizeOf38, Addr.add_lit]⟩
instance : FieldOff Tryd.prog 100 4 5 := ⟨fun b o w => by simp [Instr.fieldAt, Instr.sureAddr, Tryd.runUnderlying100, fieldPlace, Tryd.sizeOf52, Addr.add_lit]⟩
instance : FieldOff Tryd.prog 100 5 9 := ⟨fun b o w => by simp [Instr.fieldAt, Instr.sureAddr, Tryd.runUnderlying100, fieldPlace, Tryd.sizeOf98, Addr.add_lit]⟩
instance : FieldOff Tryd.prog 100 6 10 := ⟨fun b o w => by simp [Instr.fieldAt, Instr.sureAddr, Tryd.runUnderlying100, fieldPlace, Tryd.sizeOf56, Addr.add_lit]⟩
instance : StructAt Tryd.prog 100 [.slice none 0 0, .slice none 0 0, .slice none 0 0, .slice none 0 0, .slice none 0 0, .int .i64 0, .int .i64 0, .slice none 0 0, .int .i64 0, .slice none 0 0, .slice none 0 0] [(0, 2), (2, 1), (3, 1), (4, 1), (5, 4), (9, 1), (10, 1)] := ⟨fun parts cells h => by
  have e : Tryd.prog.built 100 parts = Instr.fill (([(0, 2), (2, 1), (3, 1), (4, 1), (5, 4), (9, 1), (10, 1)] : List (Nat × Nat)).toArray[·]?) (#[.slice none 0 0, .slice none 0 0, .slice none 0 0, .slice none 0 0, .slice none 0 0, .int .i64 0, .int .i64 0, .slice none 0 0, .int .i64 0, .slice none 0 0, .slice none 0 0] : Array Value) parts := by kernel_rfl
  rw [e]; simpa using h⟩
instance : ZeroVal Tryd.prog 100 (.agg #[.slice none 0 0, .slice none 0 0, .slice none 0 0, .slice none 0 0, .slice none 0 0, .int .i64 0, .int .i64 0, .slice none 0 0, .int .i64 0, .slice none 0 0, .slice none 0 0]) := ⟨Tryd.zeroValue100⟩
instance : OneCell Tryd.prog 101 := ⟨Tryd.isAgg101, Tryd.sizeOf101⟩
instance : ZeroVal Tryd.prog 101 (.nilFunc) := ⟨Tryd.zeroValue101⟩
instance : OneCell Tryd.prog 102 := ⟨Tryd.isAgg102, Tryd.sizeOf102⟩
instance : ZeroVal Tryd.prog 102 (.nilFunc) := ⟨Tryd.zeroValue102⟩
instance : OneCell Tryd.prog 103 := ⟨Tryd.isAgg103, Tryd.sizeOf103⟩
instance : ZeroVal Tryd.prog 103 (.nilFunc) := ⟨Tryd.zeroValue103⟩
instance : OneCell Tryd.prog 105 := ⟨Tryd.isAgg105, Tryd.sizeOf105⟩
instance : ZeroVal Tryd.prog 105 (.nilFunc) := ⟨Tryd.zeroValue105⟩
instance : OneCell Tryd.prog 106 := ⟨Tryd.isAgg106, Tryd.sizeOf106⟩
instance : ElemSize Tryd.prog 106 1 := ⟨by kernel_rfl, fun w => by have h : Tryd.prog.elem 106 = 108 := (by kernel_rfl); rw [h]; exact Tryd.sizeOf108 w⟩
instance : ElemInfo Tryd.prog 106 108 1 24 [.slice none 0 0] := ⟨by kernel_rfl, by kernel_rfl⟩
instance : ZeroVal Tryd.prog 106 (.slice none 0 0) := ⟨Tryd.zeroValue106⟩
instance : OneCell Tryd.prog 107 := ⟨Tryd.isAgg107, Tryd.sizeOf107⟩
instance : ZeroVal Tryd.prog 107 (.nilFunc) := ⟨Tryd.zeroValue107⟩
instance : OneCell Tryd.prog 108 := ⟨Tryd.isAgg108, Tryd.sizeOf108⟩
instance : ElemSize Tryd.prog 108 1 := ⟨by kernel_rfl, fun w => by have h : Tryd.prog.elem 108 = 4 := (by kernel_rfl); rw [h]; exact Tryd.sizeOf4 w⟩
instance : ElemInfo Tryd.prog 108 4 1 1 [.bool false] := ⟨by kernel_rfl, by kernel_rfl⟩
instance : ZeroVal Tryd.prog 108 (.slice none 0 0) := ⟨Tryd.zeroValue108⟩
instance : OneCell Tryd.prog 109 := ⟨Tryd.isAgg109, Tryd.sizeOf109⟩
instance : ZeroVal Tryd.prog 109 (.nilFunc) := ⟨Tryd.zeroValue109⟩
instance : OneCell Tryd.prog 110 := ⟨Tryd.isAgg110, Tryd.sizeOf110⟩
instance : ZeroVal Tryd.prog 110 (.nilFunc) := ⟨Tryd.zeroValue110⟩
instance : OneCell Tryd.prog 111 := ⟨Tryd.isAgg111, Tryd.sizeOf111⟩
instance : ZeroVal Tryd.prog 111 (.nilFunc) := ⟨Tryd.zeroValue111⟩
instance : OneCell Tryd.prog 112 := ⟨Tryd.isAgg112, Tryd.sizeOf112⟩
instance : ZeroVal Tryd.prog 112 (.pointer none) := ⟨Tryd.zeroValue112⟩
instance : OneCell Tryd.prog 114 := ⟨Tryd.isAgg114, Tryd.sizeOf114⟩
instance : ZeroVal Tryd.prog 114 (.nilFunc) := ⟨Tryd.zeroValue114⟩
instance : OneCell Tryd.prog 115 := ⟨Tryd.isAgg115, Tryd.sizeOf115⟩
instance : ElemSize Tryd.prog 115 1 := ⟨by kernel_rfl, fun w => by have h : Tryd.prog.elem 115 = 146 := (by kernel_rfl); rw [h]; exact Tryd.sizeOf146 w⟩
instance : ElemInfo Tryd.prog 115 146 1 24 [.slice none 0 0] := ⟨by kernel_rfl, by kernel_rfl⟩
instance : ZeroVal Tryd.prog 115 (.slice none 0 0) := ⟨Tryd.zeroValue115⟩
instance : OneCell Tryd.prog 117 := ⟨Tryd.isAgg117, Tryd.sizeOf117⟩
instance : ZeroVal Tryd.prog 117 (.nilFunc) := ⟨Tryd.zeroValue117⟩
instance : OneCell Tryd.prog 118 := ⟨Tryd.isAgg118, Tryd.sizeOf118⟩
instance : ZeroVal Tryd.prog 118 (.nilFunc) := ⟨Tryd.zeroValue118⟩
instance : OneCell Tryd.prog 119 := ⟨Tryd.isAgg119, Tryd.sizeOf119⟩
instance : ZeroVal Tryd.prog 119 (.nilFunc) := ⟨Tryd.zeroValue119⟩
instance : OneCell Tryd.prog 120 := ⟨Tryd.isAgg120, Tryd.sizeOf120⟩
instance : ZeroVal Tryd.prog 120 (.nilFunc) := ⟨Tryd.zeroValue120⟩
instance : OneCell Tryd.prog 121 := ⟨Tryd.isAgg121, Tryd.sizeOf121⟩
instance : ZeroVal Tryd.prog 121 (.nilFunc) := ⟨Tryd.zeroValue121⟩
instance : OneCell Tryd.prog 122 := ⟨Tryd.isAgg122, Tryd.sizeOf122⟩
instance : ZeroVal Tryd.prog 122 (.nilFunc) := ⟨Tryd.zeroValue122⟩
instance : OneCell Tryd.prog 123 := ⟨Tryd.isAgg123, Tryd.sizeOf123⟩
instance : ZeroVal Tryd.prog 123 (.nilFunc) := ⟨Tryd.zeroValue123⟩
instance : OneCell Tryd.prog 124 := ⟨Tryd.isAgg124, Tryd.sizeOf124⟩
instance : ZeroVal Tryd.prog 124 (.nilFunc) := ⟨Tryd.zeroValue124⟩
instance : OneCell Tryd.prog 125 := ⟨Tryd.isAgg125, Tryd.sizeOf125⟩
instance : ZeroVal Tryd.prog 125 (.nilFunc) := ⟨Tryd.zeroValue125⟩
instance : OneCell Tryd.prog 126 := ⟨Tryd.isAgg126, Tryd.sizeOf126⟩
instance : ZeroVal Tryd.prog 126 (.nilFunc) := ⟨Tryd.zeroValue126⟩
instance : OneCell Tryd.prog 127 := ⟨Tryd.isAgg127, Tryd.sizeOf127⟩
instance : ZeroVal Tryd.prog 127 (.nilFunc) := ⟨Tryd.zeroValue127⟩
instance : OneCell Tryd.prog 128 := ⟨Tryd.isAgg128, Tryd.sizeOf128⟩
instance : ZeroVal Tryd.prog 128 (.nilFunc) := ⟨Tryd.zeroValue128⟩
instance : OneCell Tryd.prog 129 := ⟨Tryd.isAgg129, Tryd.sizeOf129⟩
instance : ZeroVal Tryd.prog 129 (.nilFunc) := ⟨Tryd.zeroValue129⟩
instance : AggSize Tryd.prog 130 5 := ⟨Tryd.isAgg130, Tryd.sizeOf130⟩
instance : FieldOff Tryd.prog 130 0 0 := ⟨fun b o w => by simp [Instr.fieldAt, Instr.sureAddr, Tryd.runUnderlying130, fieldPlace, Tryd.sizeOf3, Addr.add_lit]⟩
instance : FieldOff Tryd.prog 130 1 1 := ⟨fun b o w => by simp [Instr.fieldAt, Instr.sureAddr, Tryd.runUnderlying130, fieldPlace, Tryd.sizeOf3, Addr.add_lit]⟩
instance : FieldOff Tryd.prog 130 2 2 := ⟨fun b o w => by simp [Instr.fieldAt, Instr.sureAddr, Tryd.runUnderlying130, fieldPlace, Tryd.sizeOf3, Addr.add_lit]⟩
instance : FieldOff Tryd.prog 130 3 3 := ⟨fun b o w => by simp [Instr.fieldAt, Instr.sureAddr, Tryd.runUnderlying130, fieldPlace, Tryd.sizeOf38, Addr.add_lit]⟩
instance : FieldOff Tryd.prog 130 4 4 := ⟨fun b o w => by simp [Instr.fieldAt, Instr.sureAddr, Tryd.runUnderlying130, fieldPlace, Tryd.sizeOf3, Addr.add_lit]⟩
instance : StructAt Tryd.prog 130 [.int .i64 0, .int .i64 0, .int .i64 0, .slice none 0 0, .int .i64 0] [(0, 1), (1, 1), (2, 1), (3, 1), (4, 1)] := ⟨fun parts cells h => by
  have e : Tryd.prog.built 130 parts = Instr.fill (([(0, 1), (1, 1), (2, 1), (3, 1), (4, 1)] : List (Nat × Nat)).toArray[·]?) (#[.int .i64 0, .int .i64 0, .int .i64 0, .slice none 0 0, .int .i64 0] : Array Value) parts := by kernel_rfl
  rw [e]; simpa using h⟩
instance : ZeroVal Tryd.prog 130 (.agg #[.int .i64 0, .int .i64 0, .int .i64 0, .slice none 0 0, .int .i64 0]) := ⟨Tryd.zeroValue130⟩
instance : AggSize Tryd.prog 131 5 := ⟨Tryd.isAgg131, Tryd.sizeOf131⟩
instance : FieldOff Tryd.prog 131 0 0 := ⟨fun b o w => by simp [Instr.fieldAt, Instr.sureAddr, Tryd.runUnderlying131, fieldPlace, Tryd.sizeOf3, Addr.add_lit]⟩
instance : FieldOff Tryd.prog 131 1 1 := ⟨fun b o w => by simp [Instr.fieldAt, Instr.sureAddr, Tryd.runUnderlying131, fieldPlace, Tryd.sizeOf3, Addr.add_lit]⟩
instance : FieldOff Tryd.prog 131 2 2 := ⟨fun b o w => by simp [Instr.fieldAt, Instr.sureAddr, Tryd.runUnderlying131, fieldPlace, Tryd.sizeOf3, Addr.add_lit]⟩
instance : FieldOff Tryd.prog 131 3 3 := ⟨fun b o w => by simp [Instr.fieldAt, Instr.sureAddr, Tryd.runUnderlying131, fieldPlace, Tryd.sizeOf38, Addr.add_lit]⟩
instance : FieldOff Tryd.prog 131 4 4 := ⟨fun b o w => by simp [Instr.fieldAt, Instr.sureAddr, Tryd.runUnderlying131, fieldPlace, Tryd.sizeOf3, Addr.add_lit]⟩
instance : StructAt Tryd.prog 131 [.int .i64 0, .int .i64 0, .int .i64 0, .slice none 0 0, .int .i64 0] [(0, 1), (1, 1), (2, 1), (3, 1), (4, 1)] := ⟨fun parts cells h => by
  have e : Tryd.prog.built 131 parts = Instr.fill (([(0, 1), (1, 1), (2, 1), (3, 1), (4, 1)] : List (Nat × Nat)).toArray[·]?) (#[.int .i64 0, .int .i64 0, .int .i64 0, .slice none 0 0, .int .i64 0] : Array Value) parts := by kernel_rfl
  rw [e]; simpa using h⟩
instance : ZeroVal Tryd.prog 131 (.agg #[.int .i64 0, .int .i64 0, .int .i64 0, .slice none 0 0, .int .i64 0]) := ⟨Tryd.zeroValue131⟩
instance : OneCell Tryd.prog 132 := ⟨Tryd.isAgg132, Tryd.sizeOf132⟩
instance : ZeroVal Tryd.prog 132 (.pointer none) := ⟨Tryd.zeroValue132⟩
instance : OneCell Tryd.prog 133 := ⟨Tryd.isAgg133, Tryd.sizeOf133⟩
instance : ZeroVal Tryd.prog 133 (.nilFunc) := ⟨Tryd.zeroValue133⟩
instance : OneCell Tryd.prog 134 := ⟨Tryd.isAgg134, Tryd.sizeOf134⟩
instance : ZeroVal Tryd.prog 134 (.nilFunc) := ⟨Tryd.zeroValue134⟩
instance : OneCell Tryd.prog 135 := ⟨Tryd.isAgg135, Tryd.sizeOf135⟩
instance : ZeroVal Tryd.prog 135 (.nilFunc) := ⟨Tryd.zeroValue135⟩
instance : OneCell Tryd.prog 136 := ⟨Tryd.isAgg136, Tryd.sizeOf136⟩
instance : ZeroVal Tryd.prog 136 (.nilFunc) := ⟨Tryd.zeroValue136⟩
instance : OneCell Tryd.prog 137 := ⟨Tryd.isAgg137, Tryd.sizeOf137⟩
instance : ZeroVal Tryd.prog 137 (.nilFunc) := ⟨Tryd.zeroValue137⟩
instance : OneCell Tryd.prog 138 := ⟨Tryd.isAgg138, Tryd.sizeOf138⟩
instance : ZeroVal Tryd.prog 138 (.nilFunc) := ⟨Tryd.zeroValue138⟩
instance : OneCell Tryd.prog 139 := ⟨Tryd.isAgg139, Tryd.sizeOf139⟩
instance : ZeroVal Tryd.prog 139 (.nilFunc) := ⟨Tryd.zeroValue139⟩
instance : OneCell Tryd.prog 140 := ⟨Tryd.isAgg140, Tryd.sizeOf140⟩
instance : ZeroVal Tryd.prog 140 (.nilFunc) := ⟨Tryd.zeroValue140⟩
instance : OneCell Tryd.prog 141 := ⟨Tryd.isAgg141, Tryd.sizeOf141⟩
instance : ZeroVal Tryd.prog 141 (.nilFunc) := ⟨Tryd.zeroValue141⟩
instance : OneCell Tryd.prog 142 := ⟨Tryd.isAgg142, Tryd.sizeOf142⟩
instance : ZeroVal Tryd.prog 142 (.nilFunc) := ⟨Tryd.zeroValue142⟩
instance : OneCell Tryd.prog 143 := ⟨Tryd.isAgg143, Tryd.sizeOf143⟩
instance : ZeroVal Tryd.prog 143 (.nilFunc) := ⟨Tryd.zeroValue143⟩
instance : OneCell Tryd.prog 144 := ⟨Tryd.isAgg144, Tryd.sizeOf144⟩
instance : ZeroVal Tryd.prog 144 (.nilFunc) := ⟨Tryd.zeroValue144⟩
instance : OneCell Tryd.prog 145 := ⟨Tryd.isAgg145, Tryd.sizeOf145⟩
instance : ZeroVal Tryd.prog 145 (.int .u64 0) := ⟨Tryd.zeroValue145⟩
instance : OneCell Tryd.prog 146 := ⟨Tryd.isAgg146, Tryd.sizeOf146⟩
instance : ElemSize Tryd.prog 146 1 := ⟨by kernel_rfl, fun w => by have h : Tryd.prog.elem 146 = 4 := (by kernel_rfl); rw [h]; exact Tryd.sizeOf4 w⟩
instance : ElemInfo Tryd.prog 146 4 1 1 [.bool false] := ⟨by kernel_rfl, by kernel_rfl⟩
instance : ZeroVal Tryd.prog 146 (.slice none 0 0) := ⟨Tryd.zeroValue146⟩
instance : OneCell Tryd.prog 147 := ⟨Tryd.isAgg147, Tryd.sizeOf147⟩
instance : ZeroVal Tryd.prog 147 (.nilFunc) := ⟨Tryd.zeroValue147⟩
instance : OneCell Tryd.prog 148 := ⟨Tryd.isAgg148, Tryd.sizeOf148⟩
instance : ZeroVal Tryd.prog 148 (.nilFunc) := ⟨Tryd.zeroValue148⟩
instance : OneCell Tryd.prog 149 := ⟨Tryd.isAgg149, Tryd.sizeOf149⟩
instance : ZeroVal Tryd.prog 149 (.nilFunc) := ⟨Tryd.zeroValue149⟩
instance : OneCell Tryd.prog 150 := ⟨Tryd.isAgg150, Tryd.sizeOf150⟩
instance : ZeroVal Tryd.prog 150 (.nilFunc) := ⟨Tryd.zeroValue150⟩
instance : OneCell Tryd.prog 151 := ⟨Tryd.isAgg151, Tryd.sizeOf151⟩
instance : ZeroVal Tryd.prog 151 (.nilFunc) := ⟨Tryd.zeroValue151⟩
instance : OneCell Tryd.prog 152 := ⟨Tryd.isAgg152, Tryd.sizeOf152⟩
instance : ZeroVal Tryd.prog 152 (.nilFunc) := ⟨Tryd.zeroValue152⟩
instance : OneCell Tryd.prog 153 := ⟨Tryd.isAgg153, Tryd.sizeOf153⟩
instance : ZeroVal Tryd.prog 153 (.nilFunc) := ⟨Tryd.zeroValue153⟩
instance : OneCell Tryd.prog 154 := ⟨Tryd.isAgg154, Tryd.sizeOf154⟩
instance : ZeroVal Tryd.prog 154 (.nilFunc) := ⟨Tryd.zeroValue154⟩
instance : OneCell Tryd.prog 155 := ⟨Tryd.isAgg155, Tryd.sizeOf155⟩
instance : ZeroVal Tryd.prog 155 (.nilFunc) := ⟨Tryd.zeroValue155⟩
instance : OneCell Tryd.prog 156 := ⟨Tryd.isAgg156, Tryd.sizeOf156⟩
instance : ZeroVal Tryd.prog 156 (.nilFunc) := ⟨Tryd.zeroValue156⟩
instance : AggSize Tryd.prog 157 2 := ⟨Tryd.isAgg157, Tryd.sizeOf157⟩
instance : FieldOff Tryd.prog 157 0 0 := ⟨fun b o w => by simp [Instr.fieldAt, Instr.sureAddr, Tryd.runUnderlying157, fieldPlace, Tryd.sizeOf3, Addr.add_lit]⟩
instance : FieldOff Tryd.prog 157 1 1 := ⟨fun b o w => by simp [Instr.fieldAt, Instr.sureAddr, Tryd.runUnderlying157, fieldPlace, Tryd.sizeOf3, Addr.add_lit]⟩
instance : StructAt Tryd.prog 157 [.int .i64 0, .int .i64 0] [(0, 1), (1, 1)] := ⟨fun parts cells h => by
  have e : Tryd.prog.built 157 parts = Instr.fill (([(0, 1), (1, 1)] : List (Nat × Nat)).toArray[·]?) (#[.int .i64 0, .int .i64 0] : Array Value) parts := by kernel_rfl
  rw [e]; simpa using h⟩
instance : ZeroVal Tryd.prog 157 (.agg #[.int .i64 0, .int .i64 0]) := ⟨Tryd.zeroValue157⟩
instance : AggSize Tryd.prog 158 2 := ⟨Tryd.isAgg158, Tryd.sizeOf158⟩
instance : FieldOff Tryd.prog 158 0 0 := ⟨fun b o w => by simp [Instr.fieldAt, Instr.sureAddr, Tryd.runUnderlying158, fieldPlace, Tryd.sizeOf3, Addr.add_lit]⟩
instance : FieldOff Tryd.prog 158 1 1 := ⟨fun b o w => by simp [Instr.fieldAt, Instr.sureAddr, Tryd.runUnderlying158, fieldPlace, Tryd.sizeOf3, Addr.add_lit]⟩
instance : StructAt Tryd.prog 158 [.int .i64 0, .int .i64 0] [(0, 1), (1, 1)] := ⟨fun parts cells h => by
  have e : Tryd.prog.built 158 parts = Instr.fill (([(0, 1), (1, 1)] : List (Nat × Nat)).toArray[·]?) (#[.int .i64 0, .int .i64 0] : Array Value) parts := by kernel_rfl
  rw [e]; simpa using h⟩
instance : ZeroVal Tryd.prog 158 (.agg #[.int .i64 0, .int .i64 0]) := ⟨Tryd.zeroValue158⟩
instance : OneCell Tryd.prog 159 := ⟨Tryd.isAgg159, Tryd.sizeOf159⟩
instance : ZeroVal Tryd.prog 159 (.nilFunc) := ⟨Tryd.zeroValue159⟩
instance : OneCell Tryd.prog 160 := ⟨Tryd.isAgg160, Tryd.sizeOf160⟩
instance : ZeroVal Tryd.prog 160 (.nilFunc) := ⟨Tryd.zeroValue160⟩
instance : OneCell Tryd.prog 161 := ⟨Tryd.isAgg161, Tryd.sizeOf161⟩
instance : ZeroVal Tryd.prog 161 (.nilFunc) := ⟨Tryd.zeroValue161⟩
instance : OneCell Tryd.prog 162 := ⟨Tryd.isAgg162, Tryd.sizeOf162⟩
instance : ZeroVal Tryd.prog 162 (.nilFunc) := ⟨Tryd.zeroValue162⟩
instance : OneCell Tryd.prog 163 := ⟨Tryd.isAgg163, Tryd.sizeOf163⟩
instance : ZeroVal Tryd.prog 163 (.nilFunc) := ⟨Tryd.zeroValue163⟩
instance : OneCell Tryd.prog 164 := ⟨Tryd.isAgg164, Tryd.sizeOf164⟩
instance : ZeroVal Tryd.prog 164 (.nilFunc) := ⟨Tryd.zeroValue164⟩
instance : OneCell Tryd.prog 165 := ⟨Tryd.isAgg165, Tryd.sizeOf165⟩
instance : ZeroVal Tryd.prog 165 (.nilFunc) := ⟨Tryd.zeroValue165⟩
instance : OneCell Tryd.prog 166 := ⟨Tryd.isAgg166, Tryd.sizeOf166⟩
instance : ZeroVal Tryd.prog 166 (.nilFunc) := ⟨Tryd.zeroValue166⟩
instance : OneCell Tryd.prog 167 := ⟨Tryd.isAgg167, Tryd.sizeOf167⟩
instance : ZeroVal Tryd.prog 167 (.nilFunc) := ⟨Tryd.zeroValue167⟩
instance : OneCell Tryd.prog 168 := ⟨Tryd.isAgg168, Tryd.sizeOf168⟩
instance : ZeroVal Tryd.prog 168 (.pointer none) := ⟨Tryd.zeroValue168⟩
instance : OneCell Tryd.prog 169 := ⟨Tryd.isAgg169, Tryd.sizeOf169⟩
instance : ZeroVal Tryd.prog 169 (.nilFunc) := ⟨Tryd.zeroValue169⟩
instance : AggSize Tryd.prog 170 4 := ⟨Tryd.isAgg170, Tryd.sizeOf170⟩
instance : ArrOf Tryd.prog 170 4 1 := ⟨by kernel_rfl, by kernel_rfl, fun w => by have h : Tryd.prog.elem 170 = 3 := (by kernel_rfl); rw [h]; exact Tryd.sizeOf3 w⟩
instance : ZeroVal Tryd.prog 170 (.agg #[.int .i64 0, .int .i64 0, .int .i64 0, .int .i64 0]) := ⟨Tryd.zeroValue170⟩
instance : OneCell Tryd.prog 171 := ⟨Tryd.isAgg171, Tryd.sizeOf171⟩
instance : ZeroVal Tryd.prog 171 (.nilFunc) := ⟨Tryd.zeroValue171⟩
instance : OneCell Tryd.prog 172 := ⟨Tryd.isAgg172, Tryd.sizeOf172⟩
instance : ZeroVal Tryd.prog 172 (.nilFunc) := ⟨Tryd.zeroValue172⟩
instance : OneCell Tryd.prog 173 := ⟨Tryd.isAgg173, Tryd.sizeOf173⟩
instance : ZeroVal Tryd.prog 173 (.nilFunc) := ⟨Tryd.zeroValue173⟩
instance : AggSize Tryd.prog 174 3 := ⟨Tryd.isAgg174, Tryd.sizeOf174⟩
instance : FieldOff Tryd.prog 174 0 0 := ⟨fun b o w => by simp [Instr.fieldAt, Instr.sureAddr, Tryd.runUnderlying174, fieldPlace, Tryd.sizeOf4, Addr.add_lit]⟩
instance : FieldOff Tryd.prog 174 1 1 := ⟨fun b o w => by simp [Instr.fieldAt, Instr.sureAddr, Tryd.runUnderlying174, fieldPlace, Tryd.sizeOf4, Addr.add_lit]⟩
instance : FieldOff Tryd.prog 174 2 2 := ⟨fun b o w => by simp [Instr.fieldAt, Instr.sureAddr, Tryd.runUnderlying174, fieldPlace, Tryd.sizeOf4, Addr.add_lit]⟩
instance : StructAt Tryd.prog 174 [.bool false, .bool false, .bool false] [(0, 1), (1, 1), (2, 1)] := ⟨fun parts cells h => by
  have e : Tryd.prog.built 174 parts = Instr.fill (([(0, 1), (1, 1), (2, 1)] : List (Nat × Nat)).toArray[·]?) (#[.bool false, .bool false, .bool false] : Array Value) parts := by kernel_rfl
  rw [e]; simpa using h⟩
instance : ZeroVal Tryd.prog 174 (.agg #[.bool false, .bool false, .bool false]) := ⟨Tryd.zeroValue174⟩
instance : AggSize Tryd.prog 175 3 := ⟨Tryd.isAgg175, Tryd.sizeOf175⟩
instance : FieldOff Tryd.prog 175 0 0 := ⟨fun b o w => by simp [Instr.fieldAt, Instr.sureAddr, Tryd.runUnderlying175, fieldPlace, Tryd.sizeOf4, Addr.add_lit]⟩
instance : FieldOff Tryd.prog 175 1 1 := ⟨fun b o w => by simp [Instr.fieldAt, Instr.sureAddr, Tryd.runUnderlying175, fieldPlace, Tryd.sizeOf4, Addr.add_lit]⟩
instance : FieldOff Tryd.prog 175 2 2 := ⟨fun b o w => by simp [Instr.fieldAt, Instr.sureAddr, Tryd.runUnderlying175, fieldPlace, Tryd.sizeOf4, Addr.add_lit]⟩
instance : StructAt Tryd.prog 175 [.bool false, .bool false, .bool false] [(0, 1), (1, 1), (2, 1)] := ⟨fun parts cells h => by
  have e : Tryd.prog.built 175 parts = Instr.fill (([(0, 1), (1, 1), (2, 1)] : List (Nat × Nat)).toArray[·]?) (#[.bool false, .bool false, .bool false] : Array Value) parts := by kernel_rfl
  rw [e]; simpa using h⟩
instance : ZeroVal Tryd.prog 175 (.agg #[.bool false, .bool false, .bool false]) := ⟨Tryd.zeroValue175⟩
instance : OneCell Tryd.prog 176 := ⟨Tryd.isAgg176, Tryd.sizeOf176⟩
instance : ZeroVal Tryd.prog 176 (.nilFunc) := ⟨Tryd.zeroValue176⟩
instance : OneCell Tryd.prog 177 := ⟨Tryd.isAgg177, Tryd.sizeOf177⟩
instance : ZeroVal Tryd.prog 177 (.nilFunc) := ⟨Tryd.zeroValue177⟩
instance : OneCell Tryd.prog 178 := ⟨Tryd.isAgg178, Tryd.sizeOf178⟩
instance : ZeroVal Tryd.prog 178 (.nilFunc) := ⟨Tryd.zeroValue178⟩
instance : OneCell Tryd.prog 179 := ⟨Tryd.isAgg179, Tryd.sizeOf179⟩
instance : ZeroVal Tryd.prog 179 (.nilFunc) := ⟨Tryd.zeroValue179⟩
instance : OneCell Tryd.prog 180 := ⟨Tryd.isAgg180, Tryd.sizeOf180⟩
instance : ZeroVal Tryd.prog 180 (.nilFunc) := ⟨Tryd.zeroValue180⟩
instance : OneCell Tryd.prog 182 := ⟨Tryd.isAgg182, Tryd.sizeOf182⟩
instance : ZeroVal Tryd.prog 182 (.nilFunc) := ⟨Tryd.zeroValue182⟩
instance : OneCell Tryd.prog 184 := ⟨Tryd.isAgg184, Tryd.sizeOf184⟩
instance : ZeroVal Tryd.prog 184 (.nilFunc) := ⟨Tryd.zeroValue184⟩
instance : OneCell Tryd.prog 185 := ⟨Tryd.isAgg185, Tryd.sizeOf185⟩
instance : ZeroVal Tryd.prog 185 (.nilFunc) := ⟨Tryd.zeroValue185⟩
instance : OneCell Tryd.prog 186 := ⟨Tryd.isAgg186, Tryd.sizeOf186⟩
instance : ZeroVal Tryd.prog 186 (.nilFunc) := ⟨Tryd.zeroValue186⟩
instance : OneCell Tryd.prog 187 := ⟨Tryd.isAgg187, Tryd.sizeOf187⟩
instance : ZeroVal Tryd.prog 187 (.int .i64 0) := ⟨Tryd.zeroValue187⟩
instance : OneCell Tryd.prog 189 := ⟨Tryd.isAgg189, Tryd.sizeOf189⟩
instance : ZeroVal Tryd.prog 189 (.nilFunc) := ⟨Tryd.zeroValue189⟩
instance : OneCell Tryd.prog 190 := ⟨Tryd.isAgg190, Tryd.sizeOf190⟩
instance : ZeroVal Tryd.prog 190 (.nilFunc) := ⟨Tryd.zeroValue190⟩
instance : OneCell Tryd.prog 191 := ⟨Tryd.isAgg191, Tryd.sizeOf191⟩
instance : ZeroVal Tryd.prog 191 (.nilFunc) := ⟨Tryd.zeroValue191⟩
instance : OneCell Tryd.prog 192 := ⟨Tryd.isAgg192, Tryd.sizeOf192⟩
instance : ZeroVal Tryd.prog 192 (.nilFunc) := ⟨Tryd.zeroValue192⟩
instance : OneCell Tryd.prog 193 := ⟨Tryd.isAgg193, Tryd.sizeOf193⟩
instance : ZeroVal Tryd.prog 193 (.nilFunc) := ⟨Tryd.zeroValue193⟩
instance : OneCell Tryd.prog 194 := ⟨Tryd.isAgg194, Tryd.sizeOf194⟩
instance : ZeroVal Tryd.prog 194 (.int .u32 0) := ⟨Tryd.zeroValue194⟩
instance : OneCell Tryd.prog 195 := ⟨Tryd.isAgg195, Tryd.sizeOf195⟩
instance : ZeroVal Tryd.prog 195 (.nilFunc) := ⟨Tryd.zeroValue195⟩
instance : OneCell Tryd.prog 196 := ⟨Tryd.isAgg196, Tryd.sizeOf196⟩
instance : ZeroVal Tryd.prog 196 (.int .u64 0) := ⟨Tryd.zeroValue196⟩
instance : OneCell Tryd.prog 197 := ⟨Tryd.isAgg197, Tryd.sizeOf197⟩
instance : ZeroVal Tryd.prog 197 (.nilFunc) := ⟨Tryd.zeroValue197⟩
instance : OneCell Tryd.prog 198 := ⟨Tryd.isAgg198, Tryd.sizeOf198⟩
instance : ZeroVal Tryd.prog 198 (.nilFunc) := ⟨Tryd.zeroValue198⟩
instance : OneCell Tryd.prog 199 := ⟨Tryd.isAgg199, Tryd.sizeOf199⟩
instance : ZeroVal Tryd.prog 199 (.nilFunc) := ⟨Tryd.zeroValue199⟩
instance : OneCell Tryd.prog 200 := ⟨Tryd.isAgg200, Tryd.sizeOf200⟩
instance : ZeroVal Tryd.prog 200 (.nilFunc) := ⟨Tryd.zeroValue200⟩
instance : OneCell Tryd.prog 201 := ⟨Tryd.isAgg201, Tryd.sizeOf201⟩
instance : ElemSize Tryd.prog 201 2 := ⟨by kernel_rfl, fun w => by have h : Tryd.prog.elem 201 = 158 := (by kernel_rfl); rw [h]; exact Tryd.sizeOf158 w⟩
instance : ElemInfo Tryd.prog 201 158 2 16 [.int .i64 0, .int .i64 0] := ⟨by kernel_rfl, by kernel_rfl⟩
instance : ZeroVal Tryd.prog 201 (.slice none 0 0) := ⟨Tryd.zeroValue201⟩
instance : OneCell Tryd.prog 202 := ⟨Tryd.isAgg202, Tryd.sizeOf202⟩
instance : ZeroVal Tryd.prog 202 (.nilFunc) := ⟨Tryd.zeroValue202⟩
instance : OneCell Tryd.prog 203 := ⟨Tryd.isAgg203, Tryd.sizeOf203⟩
instance : ZeroVal Tryd.prog 203 (.nilFunc) := ⟨Tryd.zeroValue203⟩
instance : OneCell Tryd.prog 204 := ⟨Tryd.isAgg204, Tryd.sizeOf204⟩
instance : ZeroVal Tryd.prog 204 (.nilFunc) := ⟨Tryd.zeroValue204⟩
instance : OneCell Tryd.prog 205 := ⟨Tryd.isAgg205, Tryd.sizeOf205⟩
instance : ZeroVal Tryd.prog 205 (.nilFunc) := ⟨Tryd.zeroValue205⟩
instance : OneCell Tryd.prog 206 := ⟨Tryd.isAgg206, Tryd.sizeOf206⟩
instance : ZeroVal Tryd.prog 206 (.nilFunc) := ⟨Tryd.zeroValue206⟩
instance : OneCell Tryd.prog 207 := ⟨Tryd.isAgg207, Tryd.sizeOf207⟩
instance : ZeroVal Tryd.prog 207 (.nilFunc) := ⟨Tryd.zeroValue207⟩
instance : OneCell Tryd.prog 208 := ⟨Tryd.isAgg208, Tryd.sizeOf208⟩
instance : ElemSize Tryd.prog 208 1 := ⟨by kernel_rfl, fun w => by have h : Tryd.prog.elem 208 = 85 := (by kernel_rfl); rw [h]; exact Tryd.sizeOf85 w⟩
instance : ElemInfo Tryd.prog 208 85 1 8 [.nilFunc] := ⟨by kernel_rfl, by kernel_rfl⟩
instance : ZeroVal Tryd.prog 208 (.slice none 0 0) := ⟨Tryd.zeroValue208⟩
instance : OneCell Tryd.prog 209 := ⟨Tryd.isAgg209, Tryd.sizeOf209⟩
instance : ZeroVal Tryd.prog 209 (.nilFunc) := ⟨Tryd.zeroValue209⟩
instance : OneCell Tryd.prog 211 := ⟨Tryd.isAgg211, Tryd.sizeOf211⟩
instance : ZeroVal Tryd.prog 211 (.nilFunc) := ⟨Tryd.zeroValue211⟩
instance : OneCell Tryd.prog 213 := ⟨Tryd.isAgg213, Tryd.sizeOf213⟩
instance : ZeroVal Tryd.prog 213 (.nilFunc) := ⟨Tryd.zeroValue213⟩
instance : OneCell Tryd.prog 214 := ⟨Tryd.isAgg214, Tryd.sizeOf214⟩
instance : ZeroVal Tryd.prog 214 (.int .u64 0) := ⟨Tryd.zeroValue214⟩
instance : OneCell Tryd.prog 215 := ⟨Tryd.isAgg215, Tryd.sizeOf215⟩
instance : ZeroVal Tryd.prog 215 (.nilFunc) := ⟨Tryd.zeroValue215⟩
instance : OneCell Tryd.prog 216 := ⟨Tryd.isAgg216, Tryd.sizeOf216⟩
instance : ZeroVal Tryd.prog 216 (.nilFunc) := ⟨Tryd.zeroValue216⟩
instance : OneCell Tryd.prog 217 := ⟨Tryd.isAgg217, Tryd.sizeOf217⟩
instance : ZeroVal Tryd.prog 217 (.nilFunc) := ⟨Tryd.zeroValue217⟩
instance : OneCell Tryd.prog 218 := ⟨Tryd.isAgg218, Tryd.sizeOf218⟩
instance : ZeroVal Tryd.prog 218 (.pointer none) := ⟨Tryd.zeroValue218⟩
instance : OneCell Tryd.prog 219 := ⟨Tryd.isAgg219, Tryd.sizeOf219⟩
instance : ZeroVal Tryd.prog 219 (.nilFunc) := ⟨Tryd.zeroValue219⟩
instance : OneCell Tryd.prog 220 := ⟨Tryd.isAgg220, Tryd.sizeOf220⟩
instance : ZeroVal Tryd.prog 220 (.nilFunc) := ⟨Tryd.zeroValue220⟩
instance : OneCell Tryd.prog 221 := ⟨Tryd.isAgg221, Tryd.sizeOf221⟩
instance : ZeroVal Tryd.prog 221 (.pointer none) := ⟨Tryd.zeroValue221⟩
instance : OneCell Tryd.prog 223 := ⟨Tryd.isAgg223, Tryd.sizeOf223⟩
instance : ZeroVal Tryd.prog 223 (.nilFunc) := ⟨Tryd.zeroValue223⟩
instance : OneCell Tryd.prog 224 := ⟨Tryd.isAgg224, Tryd.sizeOf224⟩
instance : ZeroVal Tryd.prog 224 (.nilFunc) := ⟨Tryd.zeroValue224⟩
instance : OneCell Tryd.prog 232 := ⟨Tryd.isAgg232, Tryd.sizeOf232⟩
instance : ZeroVal Tryd.prog 232 (.nilFunc) := ⟨Tryd.zeroValue232⟩
instance : OneCell Tryd.prog 233 := ⟨Tryd.isAgg233, Tryd.sizeOf233⟩
instance : ZeroVal Tryd.prog 233 (.pointer none) := ⟨Tryd.zeroValue233⟩
instance : ZeroVal Tryd.prog 238 (.pointer none) := ⟨Tryd.zeroValue238⟩
instance : EnterOk Tryd.prog 3 := ⟨Tryd.call3⟩
instance : EnterOk Tryd.prog 4 := ⟨Tryd.call4⟩
instance : EnterOk Tryd.prog 5 := ⟨Tryd.call5⟩
instance : EnterOk Tryd.prog 6 := ⟨Tryd.call6⟩
instance : EnterOk Tryd.prog 7 := ⟨Tryd.call7⟩
instance : EnterOk Tryd.prog 8 := ⟨Tryd.call8⟩
instance : EnterOk Tryd.prog 9 := ⟨Tryd.call9⟩
instance : EnterOk Tryd.prog 10 := ⟨Tryd.call10⟩
instance : EnterOk Tryd.prog 11 := ⟨Tryd.call11⟩
instance : EnterOk Tryd.prog 12 := ⟨Tryd.call12⟩
instance : EnterOk Tryd.prog 13 := ⟨Tryd.call13⟩
instance : EnterOk Tryd.prog 14 := ⟨Tryd.call14⟩
instance : EnterOk Tryd.prog 15 := ⟨Tryd.call15⟩
instance : EnterOk Tryd.prog 16 := ⟨Tryd.call16⟩
instance : EnterOk Tryd.prog 17 := ⟨Tryd.call17⟩
instance : EnterOk Tryd.prog 18 := ⟨Tryd.call18⟩
instance : EnterOk Tryd.prog 19 := ⟨Tryd.call19⟩
instance : EnterOk Tryd.prog 20 := ⟨Tryd.call20⟩
instance : EnterOk Tryd.prog 21 := ⟨Tryd.call21⟩
instance : EnterOk Tryd.prog 22 := ⟨Tryd.call22⟩
instance : EnterOk Tryd.prog 23 := ⟨Tryd.call23⟩
instance : EnterOk Tryd.prog 24 := ⟨Tryd.call24⟩
instance : EnterOk Tryd.prog 25 := ⟨Tryd.call25⟩
instance : EnterOk Tryd.prog 26 := ⟨Tryd.call26⟩
instance : EnterOk Tryd.prog 27 := ⟨Tryd.call27⟩
instance : EnterOk Tryd.prog 28 := ⟨Tryd.call28⟩
instance : EnterOk Tryd.prog 29 := ⟨Tryd.call29⟩
instance : EnterOk Tryd.prog 30 := ⟨Tryd.call30⟩
instance : EnterOk Tryd.prog 31 := ⟨Tryd.call31⟩
instance : EnterOk Tryd.prog 32 := ⟨Tryd.call32⟩
instance : EnterOk Tryd.prog 33 := ⟨Tryd.call33⟩
instance : EnterOk Tryd.prog 34 := ⟨Tryd.call34⟩
instance : EnterOk Tryd.prog 35 := ⟨Tryd.call35⟩
instance : EnterOk Tryd.prog 36 := ⟨Tryd.call36⟩
instance : EnterOk Tryd.prog 37 := ⟨Tryd.call37⟩
instance : EnterOk Tryd.prog 38 := ⟨Tryd.call38⟩
instance : EnterOk Tryd.prog 39 := ⟨Tryd.call39⟩
instance : EnterOk Tryd.prog 40 := ⟨Tryd.call40⟩
instance : EnterOk Tryd.prog 41 := ⟨Tryd.call41⟩
instance : EnterOk Tryd.prog 42 := ⟨Tryd.call42⟩
instance : EnterOk Tryd.prog 43 := ⟨Tryd.call43⟩
instance : EnterOk Tryd.prog 44 := ⟨Tryd.call44⟩
instance : EnterOk Tryd.prog 45 := ⟨Tryd.call45⟩
instance : EnterOk Tryd.prog 46 := ⟨Tryd.call46⟩
instance : EnterOk Tryd.prog 47 := ⟨Tryd.call47⟩
instance : EnterOk Tryd.prog 48 := ⟨Tryd.call48⟩
instance : EnterOk Tryd.prog 49 := ⟨Tryd.call49⟩
instance : EnterOk Tryd.prog 50 := ⟨Tryd.call50⟩
instance : EnterOk Tryd.prog 51 := ⟨Tryd.call51⟩
instance : EnterOk Tryd.prog 52 := ⟨Tryd.call52⟩
instance : EnterOk Tryd.prog 53 := ⟨Tryd.call53⟩
instance : EnterOk Tryd.prog 54 := ⟨Tryd.call54⟩
instance : EnterOk Tryd.prog 55 := ⟨Tryd.call55⟩
instance : EnterOk Tryd.prog 56 := ⟨Tryd.call56⟩
instance : EnterOk Tryd.prog 57 := ⟨Tryd.call57⟩
instance : EnterOk Tryd.prog 58 := ⟨Tryd.call58⟩
instance : EnterOk Tryd.prog 59 := ⟨Tryd.call59⟩
instance : EnterOk Tryd.prog 60 := ⟨Tryd.call60⟩
instance : EnterOk Tryd.prog 61 := ⟨Tryd.call61⟩
instance : EnterOk Tryd.prog 62 := ⟨Tryd.call62⟩
instance : EnterOk Tryd.prog 63 := ⟨Tryd.call63⟩
instance : EnterOk Tryd.prog 64 := ⟨Tryd.call64⟩
instance : EnterOk Tryd.prog 65 := ⟨Tryd.call65⟩
instance : EnterOk Tryd.prog 66 := ⟨Tryd.call66⟩
instance : EnterOk Tryd.prog 67 := ⟨Tryd.call67⟩
instance : EnterOk Tryd.prog 68 := ⟨Tryd.call68⟩
instance : EnterOk Tryd.prog 69 := ⟨Tryd.call69⟩
instance : EnterOk Tryd.prog 70 := ⟨Tryd.call70⟩
instance : EnterOk Tryd.prog 71 := ⟨Tryd.call71⟩
instance : EnterOk Tryd.prog 72 := ⟨Tryd.call72⟩
instance : EnterOk Tryd.prog 73 := ⟨Tryd.call73⟩
instance : EnterOk Tryd.prog 74 := ⟨Tryd.call74⟩
instance : EnterOk Tryd.prog 75 := ⟨Tryd.call75⟩
instance : EnterOk Tryd.prog 76 := ⟨Tryd.call76⟩
instance : EnterOk Tryd.prog 77 := ⟨Tryd.call77⟩
instance : EnterOk Tryd.prog 78 := ⟨Tryd.call78⟩
instance : EnterOk Tryd.prog 79 := ⟨Tryd.call79⟩
instance : EnterOk Tryd.prog 80 := ⟨Tryd.call80⟩
instance : EnterOk Tryd.prog 81 := ⟨Tryd.call81⟩
instance : EnterOk Tryd.prog 82 := ⟨Tryd.call82⟩
instance : EnterOk Tryd.prog 83 := ⟨Tryd.call83⟩
instance : EnterOk Tryd.prog 84 := ⟨Tryd.call84⟩
instance : EnterOk Tryd.prog 85 := ⟨Tryd.call85⟩
instance : EnterOk Tryd.prog 86 := ⟨Tryd.call86⟩
instance : EnterOk Tryd.prog 87 := ⟨Tryd.call87⟩
instance : EnterOk Tryd.prog 88 := ⟨Tryd.call88⟩
instance : EnterOk Tryd.prog 89 := ⟨Tryd.call89⟩
instance : EnterOk Tryd.prog 90 := ⟨Tryd.call90⟩
instance : EnterOk Tryd.prog 91 := ⟨Tryd.call91⟩
instance : EnterOk Tryd.prog 92 := ⟨Tryd.call92⟩
instance : EnterOk Tryd.prog 94 := ⟨Tryd.call94⟩
instance : EnterOk Tryd.prog 95 := ⟨Tryd.call95⟩
instance : EnterOk Tryd.prog 96 := ⟨Tryd.call96⟩
instance : EnterOk Tryd.prog 97 := ⟨Tryd.call97⟩
instance : EnterOk Tryd.prog 98 := ⟨Tryd.call98⟩
instance : EnterOk Tryd.prog 99 := ⟨Tryd.call99⟩
instance : EnterOk Tryd.prog 100 := ⟨Tryd.call100⟩
instance : EnterOk Tryd.prog 101 := ⟨Tryd.call101⟩
instance : EnterOk Tryd.prog 102 := ⟨Tryd.call102⟩
instance : EnterOk Tryd.prog 103 := ⟨Tryd.call103⟩
instance : EnterOk Tryd.prog 104 := ⟨Tryd.call104⟩
instance : EnterOk Tryd.prog 105 := ⟨Tryd.call105⟩
instance : EnterOk Tryd.prog 106 := ⟨Tryd.call106⟩
instance : EnterOk Tryd.prog 107 := ⟨Tryd.call107⟩
instance : EnterOk Tryd.prog 108 := ⟨Tryd.call108⟩
instance : EnterOk Tryd.prog 109 := ⟨Tryd.call109⟩
instance : EnterOk Tryd.prog 110 := ⟨Tryd.call110⟩
instance : EnterOk Tryd.prog 111 := ⟨Tryd.call111⟩
instance : EnterOk Tryd.prog 112 := ⟨Tryd.call112⟩
instance : EnterOk Tryd.prog 113 := ⟨Tryd.call113⟩
instance : EnterOk Tryd.prog 114 := ⟨Tryd.call114⟩
instance : EnterOk Tryd.prog 115 := ⟨Tryd.call115⟩
instance : EnterOk Tryd.prog 116 := ⟨Tryd.call116⟩
instance : EnterOk Tryd.prog 117 := ⟨Tryd.call117⟩
instance : EnterOk Tryd.prog 118 := ⟨Tryd.call118⟩
instance : EnterOk Tryd.prog 119 := ⟨Tryd.call119⟩
instance : EnterOk Tryd.prog 120 := ⟨Tryd.call120⟩
instance : EnterOk Tryd.prog 121 := ⟨Tryd.call121⟩
instance : EnterOk Tryd.prog 122 := ⟨Tryd.call122⟩
instance : EnterOk Tryd.prog 123 := ⟨Tryd.call123⟩
instance : EnterOk Tryd.prog 124 := ⟨Tryd.call124⟩
instance : EnterOk Tryd.prog 125 := ⟨Tryd.call125⟩
instance : EnterOk Tryd.prog 126 := ⟨Tryd.call126⟩
instance : EnterOk Tryd.prog 127 := ⟨Tryd.call127⟩
instance : EnterOk Tryd.prog 128 := ⟨Tryd.call128⟩
instance : EnterOk Tryd.prog 129 := ⟨Tryd.call129⟩
instance : EnterOk Tryd.prog 131 := ⟨Tryd.call131⟩
instance : EnterOk Tryd.prog 132 := ⟨Tryd.call132⟩
instance : EnterOk Tryd.prog 133 := ⟨Tryd.call133⟩
instance : EnterOk Tryd.prog 134 := ⟨Tryd.call134⟩
instance : EnterOk Tryd.prog 135 := ⟨Tryd.call135⟩
instance : EnterOk Tryd.prog 136 := ⟨Tryd.call136⟩
instance : EnterOk Tryd.prog 137 := ⟨Tryd.call137⟩
instance : EnterOk Tryd.prog 138 := ⟨Tryd.call138⟩
instance : EnterOk Tryd.prog 139 := ⟨Tryd.call139⟩
instance : EnterOk Tryd.prog 140 := ⟨Tryd.call140⟩
instance : EnterOk Tryd.prog 143 := ⟨Tryd.call143⟩
instance : EnterOk Tryd.prog 144 := ⟨Tryd.call144⟩
instance : EnterOk Tryd.prog 145 := ⟨Tryd.call145⟩
instance : EnterOk Tryd.prog 146 := ⟨Tryd.call146⟩
instance : EnterOk Tryd.prog 147 := ⟨Tryd.call147⟩
instance : EnterOk Tryd.prog 148 := ⟨Tryd.call148⟩
instance : EnterOk Tryd.prog 149 := ⟨Tryd.call149⟩
instance : EnterOk Tryd.prog 150 := ⟨Tryd.call150⟩
instance : EnterOk Tryd.prog 151 := ⟨Tryd.call151⟩
instance : EnterOk Tryd.prog 152 := ⟨Tryd.call152⟩
instance : EnterOk Tryd.prog 155 := ⟨Tryd.call155⟩
instance : EnterOk Tryd.prog 156 := ⟨Tryd.call156⟩
instance : EnterOk Tryd.prog 157 := ⟨Tryd.call157⟩
instance : EnterOk Tryd.prog 158 := ⟨Tryd.call158⟩
instance : EnterOk Tryd.prog 159 := ⟨Tryd.call159⟩
instance : EnterOk Tryd.prog 160 := ⟨Tryd.call160⟩
instance : EnterOk Tryd.prog 161 := ⟨Tryd.call161⟩
instance : EnterOk Tryd.prog 162 := ⟨Tryd.call162⟩
instance : EnterOk Tryd.prog 163 := ⟨Tryd.call163⟩
instance (a b : Bool) : EqVal Tryd.prog 4 (.bool a) (.bool b) (a == b) := ⟨fun _ _ _ _ => by rw [eqGuard_at_bool]; rfl, fun w => run_eql_bool w 4 a b Tryd.underlying4, fun w => by simp [binOp, run_equal_bool w 4 a b Tryd.underlying4]⟩
instance (a b : ByteArray) : EqVal Tryd.prog 9 (.string a) (.string b) (a.toList == b.toList) := ⟨fun _ _ _ _ => by rw [eqGuard_at_string]; rfl, fun w => by simp [go_sem], fun w => by simp [go_sem]⟩
theorem eq_struct_28 (x0 y0 : Int) (x1 y1 : Int) (w : World) : (binOp .eql 28 (.agg #[.int .i64 x0, .int .i64 x1]) (.agg #[.int .i64 y0, .int .i64 y1])).run Tryd.prog w = .ok (.bool (decide (x0 = y0) && decide (x1 = y1))) w := by
  simp [go_sem]
  (repeat' split) <;> simp_all
theorem ne_struct_28 (x0 y0 : Int) (x1 y1 : Int) (w : World) : (binOp .neq 28 (.agg #[.int .i64 x0, .int .i64 x1]) (.agg #[.int .i64 y0, .int .i64 y1])).run Tryd.prog w = .ok (.bool (!(decide (x0 = y0) && decide (x1 = y1)))) w := by
  simp [go_sem]
  (repeat' split) <;> simp_all
instance (x0 y0 : Int) (x1 y1 : Int) : EqVal Tryd.prog 28 (.agg #[.int .i64 x0, .int .i64 x1]) (.agg #[.int .i64 y0, .int .i64 y1]) (decide (x0 = y0) && decide (x1 = y1)) := ⟨fun op x y w => by unfold eqGuard; cases op <;> simp [go_sem], eq_struct_28 _ _ _ _, ne_struct_28 _ _ _ _⟩
theorem eq_struct_41 (x0 y0 : Bool) (x1 y1 : Int) (w : World) : (binOp .eql 41 (.agg #[.bool x0, .int .i64 x1]) (.agg #[.bool y0, .int .i64 y1])).run Tryd.prog w = .ok (.bool ((x0 == y0) && decide (x1 = y1))) w := by
  simp [go_sem]
  (repeat' split) <;> simp_all
theorem ne_struct_41 (x0 y0 : Bool) (x1 y1 : Int) (w : World) : (binOp .neq 41 (.agg #[.bool x0, .int .i64 x1]) (.agg #[.bool y0, .int .i64 y1])).run Tryd.prog w = .ok (.bool (!((x0 == y0) && decide (x1 = y1)))) w := by
  simp [go_sem]
  (repeat' split) <;> simp_all
instance (x0 y0 : Bool) (x1 y1 : Int) : EqVal Tryd.prog 41 (.agg #[.bool x0, .int .i64 x1]) (.agg #[.bool y0, .int .i64 y1]) ((x0 == y0) && decide (x1 = y1)) := ⟨fun op x y w => by unfold eqGuard; cases op <;> simp [go_sem], eq_struct_41 _ _ _ _, ne_struct_41 _ _ _ _⟩
theorem eq_struct_158 (x0 y0 : Int) (x1 y1 : Int) (w : World) : (binOp .eql 158 (.agg #[.int .i64 x0, .int .i64 x1]) (.agg #[.int .i64 y0, .int .i64 y1])).run Tryd.prog w = .ok (.bool (decide (x0 = y0) && decide (x1 = y1))) w := by
  simp [go_sem]
  (repeat' split) <;> simp_all
theorem ne_struct_158 (x0 y0 : Int) (x1 y1 : Int) (w : World) : (binOp .neq 158 (.agg #[.int .i64 x0, .int .i64 x1]) (.agg #[.int .i64 y0, .int .i64 y1])).run Tryd.prog w = .ok (.bool (!(decide (x0 = y0) && decide (x1 = y1)))) w := by
  simp [go_sem]
  (repeat' split) <;> simp_all
instance (x0 y0 : Int) (x1 y1 : Int) : EqVal Tryd.prog 158 (.agg #[.int .i64 x0, .int .i64 x1]) (.agg #[.int .i64 y0, .int .i64 y1]) (decide (x0 = y0) && decide (x1 = y1)) := ⟨fun op x y w => by unfold eqGuard; cases op <;> simp [go_sem], eq_struct_158 _ _ _ _, ne_struct_158 _ _ _ _⟩
theorem eq_struct_175 (x0 y0 : Bool) (x1 y1 : Bool) (x2 y2 : Bool) (w : World) : (binOp .eql 175 (.agg #[.bool x0, .bool x1, .bool x2]) (.agg #[.bool y0, .bool y1, .bool y2])).run Tryd.prog w = .ok (.bool ((x0 == y0) && (x1 == y1) && (x2 == y2))) w := by
  simp [go_sem]
  (repeat' split) <;> simp_all
theorem ne_struct_175 (x0 y0 : Bool) (x1 y1 : Bool) (x2 y2 : Bool) (w : World) : (binOp .neq 175 (.agg #[.bool x0, .bool x1, .bool x2]) (.agg #[.bool y0, .bool y1, .bool y2])).run Tryd.prog w = .ok (.bool (!((x0 == y0) && (x1 == y1) && (x2 == y2)))) w := by
  simp [go_sem]
  (repeat' split) <;> simp_all
instance (x0 y0 : Bool) (x1 y1 : Bool) (x2 y2 : Bool) : EqVal Tryd.prog 175 (.agg #[.bool x0, .bool x1, .bool x2]) (.agg #[.bool y0, .bool y1, .bool y2]) ((x0 == y0) && (x1 == y1) && (x2 == y2)) := ⟨fun op x y w => by unfold eqGuard; cases op <;> simp [go_sem], eq_struct_175 _ _ _ _ _ _, ne_struct_175 _ _ _ _ _ _⟩
end Go.Proofs.YtbmnkjaelfjlhaaDoor


/- What code.Check computes, as a plain function of the unit. No program in sight. -/
namespace Go.Proofs.YtbmnkjaelfjlhaaDoor
open Go Go.RowKit

/-- the first number below n at which f is not 0, and what it is there; (0, 0) if there is none -/
def firstI (f : Nat → Int) (n : Nat) : Int × Nat := match (List.range n).find? (fun i => !decide (f i = 0)) with | some i => (f i, i) | none => (0, 0)
theorem firstI_hit {f : Nat → Int} {n i : Nat} (h : ∀ j, j < i → f j = 0) (hi : i < n) (hf : f i ≠ 0) : firstI f n = (f i, i) := by
  have e : (List.range n).find? (fun i => !decide (f i = 0)) = some i := by
    rw [List.find?_eq_some_iff_append]
    refine ⟨by simp [hf], List.range i, (List.range' (i + 1) (n - (i + 1))), ?_, fun a ha => by simp [h a (by simpa using ha)]⟩
    apply List.ext_getElem
    · simp; omega
    · intro k h1 h2
      simp only [List.getElem_range, List.getElem_append, List.length_range]
      split
      · simp
      · rename_i hk
        by_cases hk2 : k = i
        · subst hk2; simp
        · rw [List.getElem_cons]
          rw [dif_neg (by omega)]
          simp only [List.getElem_range']
          omega
  unfold firstI
  rw [e]
theorem firstI_none {f : Nat → Int} {n : Nat} (h : ∀ j, j < n → f j = 0) : firstI f n = (0, 0) := by
  unfold firstI
  rw [List.find?_eq_none.2 (fun i hi => by simp [h i (by simpa using hi)])]
theorem firstI_zero {f : Nat → Int} {n : Nat} (h : (firstI f n).1 = 0) : ∀ j, j < n → f j = 0 := by
  intro j hj
  unfold firstI at h
  split at h
  · rename_i i hi
    have := List.find?_some hi
    simp at this
    exact absurd h this
  · rename_i hi
    have := List.find?_eq_none.1 hi j (by simpa using hj)
    simpa using this

def within (n lo hi : Int) : Bool := decide (lo ≤ n) && decide (n ≤ hi)
def byteAt (s : ByteArray) (i : Nat) : Int := if h : i < s.size then ((s[i]'h).toNat : Int) else 0
def okCh (i : Nat) (c : Int) : Bool := (((decide (97 ≤ c) && decide (c ≤ 122)) || (decide (65 ≤ c) && decide (c ≤ 90))) || decide (c = 95)) || ((decide (0 < (i : Int)) && decide (48 ≤ c)) && decide (c ≤ 57))
def nameOk (s : ByteArray) : Bool := if (s.size : Int) < 1 ∨ 12 < (s.size : Int) then false else decide (∀ i, i < s.size → okCh i (byteAt s i) = true)
def hasName (l : List ByteArray) (s : ByteArray) : Bool := l.any fun t => s.toList == t.toList
def valErr (regs : Int) (v : LVal) : Int := if v.reg && !within v.n 0 (regs - 1) then 3 else 0
def dstErr (regs n : Int) : Int := if !within n 0 (regs - 1) then 3 else 0
def at0 {α : Type} (l : List α) (f : α → Int) (i : Nat) : Int := match l[i]? with | some x => f x | none => 0
def aheadIn (i : Nat) (rows : List (List Int)) (to : Int) : List (List Int) := rows.modify to.toNat (· ++ [(i : Int)])
def aheadTo (bs : List LBlock) : Nat → List (List Int)
  | 0 => List.replicate bs.length []
  | i + 1 => (match bs[i]? with | some b => b.to | none => []).foldl (aheadIn i) (aheadTo bs i)
def aheadL (bs : List LBlock) : List (List Int) := aheadTo bs bs.length
def phiE (regs : Int) (block np : Nat) (p : LPhi) : Int :=
  if (block : Int) = 0 then 5 else if dstErr regs p.dst ≠ 0 then dstErr regs p.dst
  else if (p.src.length : Int) ≠ np then 9 else (firstI (at0 p.src (valErr regs)) p.src.length).1
def phiErr (regs : Int) (bs : List LBlock) (block : Nat) (p : LPhi) : Int := phiE regs block ((aheadL bs)[block]?.getD []).length p
def shape (op : Int) : Bool × Bool × Bool :=
  if ((op = 1 ∨ op = 16) ∨ op = 17) ∨ op = 18 then (true, true, false) else if 2 ≤ op ∧ op ≤ 15 then (true, true, true) else if op = 19 then (false, true, true)
  else if op = 20 ∨ op = 21 then (true, false, false) else if op = 22 then (false, true, false) else (false, false, false)
def noVal (v : LVal) : Bool := (v.reg == false) && decide (v.n = 0)
def callErr (fs : List LFunc) (regs : Int) (x : LIns) : Int :=
  if x.op ≠ 20 then 0 else if !within x.fn 0 (fs.length - 1) then 3 else if (x.args.length : Int) ≠ at0 fs (·.params) x.fn.toNat then 9 else (firstI (at0 x.args (valErr regs)) x.args.length).1
def strayB (x : LIns) : Bool :=
  (((!(shape x.op).1 && !decide (x.dst = -1)) || (!(shape x.op).2.1 && !noVal x.a)) || (!(shape x.op).2.2 && !noVal x.b)) || (!decide (x.op = 20) && (!decide (x.fn = 0) || decide (0 < (x.args.length : Int))))
def insErr (fs : List LFunc) (regs : Int) (x : LIns) : Int :=
  if !within x.op 1 22 then 4 else if strayB x then 5
  else if ((shape x.op).1 && !(decide (x.op = 20) && decide (x.dst = -1))) && !decide (dstErr regs x.dst = 0) then dstErr regs x.dst
  else if valErr regs x.a ≠ 0 then valErr regs x.a else if valErr regs x.b ≠ 0 then valErr regs x.b else callErr fs regs x
def endE (n : Nat) (regs kind : Int) (on : LVal) (to : List Int) : Int :=
  if !within kind 1 3 then 4 else if (to.length : Int) ≠ kind - 1 then 9 else if to.any (fun t => !within t 1 (n - 1)) then 3
  else if (decide (kind = 3) && decide (to[0]?.getD 0 = to[1]?.getD 0)) || (decide (kind = 2) && !noVal on) then 5 else valErr regs on
def endErr (n : Nat) (regs : Int) (b : LBlock) : Int := endE n regs b.kind b.on b.to
def blockErr (fs : List LFunc) (f : LFunc) (i : Nat) : Int := match f.blocks[i]? with
  | some b => if (firstI (at0 b.phis (phiErr f.regs f.blocks i)) b.phis.length).1 ≠ 0 then (firstI (at0 b.phis (phiErr f.regs f.blocks i)) b.phis.length).1 else (firstI (at0 b.list (insErr fs f.regs)) b.list.length).1
  | none => 0
def bodyErr (fs : List LFunc) (f : LFunc) : Int :=
  if (firstI (at0 f.blocks (endErr f.blocks.length f.regs)) f.blocks.length).1 ≠ 0 then (firstI (at0 f.blocks (endErr f.blocks.length f.regs)) f.blocks.length).1 else (firstI (blockErr fs f) f.blocks.length).1
def sizeTo (bs : List LBlock) (i : Nat) : Int := ((bs.take i).map fun b => ((b.phis.length + b.list.length : Nat) : Int)).sum
def sizeOfBs (bs : List LBlock) : Int := (bs.map fun b => ((b.phis.length + b.list.length : Nat) : Int)).sum
def headErr (names : List ByteArray) (f : LFunc) : Int :=
  if !nameOk f.name then 12 else if hasName names f.name then 7 else if !within f.params 0 6 || !within f.regs f.params 100 then 3
  else if !within f.blocks.length 1 40 || decide (300 < sizeOfBs f.blocks) then 2 else 0
def totTo (l : List LGlobal) (i : Nat) : Int := ((l.take i).map (·.size)).sum
def globErr (names : List ByteArray) (tot : Int) (g : LGlobal) : Int :=
  if !nameOk g.name then 12 else if hasName names g.name then 7 else if !within g.size 1 200 then 3 else if g.size < (g.init.length : Int) then 9 else if 200 < tot + g.size then 10 else 0
def globAt (l : List LGlobal) (i : Nat) : Int := at0 l (globErr ((l.take i).map (·.name)) (totTo l i)) i
def headAt (u : LUnit) (i : Nat) : Int := at0 u.funcs (headErr (u.globals.map (·.name) ++ (u.funcs.take i).map (·.name))) i
def isMain (f : LFunc) : Bool := f.name.toList == (ByteArray.mk #[109, 97, 105, 110]).toList
def mainAt (fs : List LFunc) : Int := match fs.findIdx? isMain with | some i => (i : Int) | none => -1
def checkL (u : LUnit) : Int × Int :=
  if 10 < (u.globals.length : Int) ∨ 10 < (u.funcs.length : Int) then (2, 0)
  else if (firstI (globAt u.globals) u.globals.length).1 ≠ 0 then ((firstI (globAt u.globals) u.globals.length).1, (firstI (globAt u.globals) u.globals.length).2)
  else if (firstI (headAt u) u.funcs.length).1 ≠ 0 then ((firstI (headAt u) u.funcs.length).1, (firstI (headAt u) u.funcs.length).2)
  else if (firstI (at0 u.funcs (bodyErr u.funcs)) u.funcs.length).1 ≠ 0 then ((firstI (at0 u.funcs (bodyErr u.funcs)) u.funcs.length).1, (firstI (at0 u.funcs (bodyErr u.funcs)) u.funcs.length).2)
  else if mainAt u.funcs < 0 then (6, 0) else if 0 < at0 u.funcs (·.params) (mainAt u.funcs).toNat then (5, mainAt u.funcs) else (0, 0)
end Go.Proofs.YtbmnkjaelfjlhaaDoor


/- core.Within, core.Fault, core.Name, slices.Index and Contains at strings: what each returns. -/
namespace Go.Proofs.YtbmnkjaelfjlhaaDoor
open Go Go.RowKit
attribute [local irreducible] wpListIn Code.wpIn Exit.then Exit.inBlock bodyPost wpQuiet wpAnyIn
set_option maxHeartbeats 1000000

theorem mixed : Tryd.prog.follows .mixedOrders = true := by kernel_rfl
theorem get_lt {α : Type} {l : List α} {i n : Nat} (hn : n = l.length) (h : i < n) : ∃ x, l[i]? = some x := ⟨l[i], by simp [hn ▸ h]⟩
theorem ne_of_get {α : Type} {l : List α} {i : Nat} {x : α} (h : l[i]? = some x) : l ≠ [] := by rintro rfl; simp at h
theorem within_c (n lo hi : Int) (w0 : World) : RetV Tryd.prog 40 [.int .i64 n, .int .i64 lo, .int .i64 hi] w0 (.bool (within n lo hi)) := by
  refine ret_enter Tryd.func40 rfl Tryd.ntmps40 rfl (Wd.nil NoS w0) ?_
  repeat (first | refine g_op rfl ?_ | refine g_then ?_ | refine g_nil ?_ | refine g_region ?_ | refine g_seq ?_)
  generalize hb : decide (lo ≤ n) = b
  cases b
  · repeat (first | refine g_op rfl ?_ | refine g_then ?_ | refine g_nil ?_ | refine g_opS rfl ?_ | refine g_pass rfl ?_ | refine g_ret ?_)
    exact g_retV rfl (by simp [within, hb])
  · repeat (first | refine g_op rfl ?_ | refine g_then ?_ | refine g_nil ?_ | refine g_opS rfl ?_ | refine g_open ?_ | refine g_ret ?_)
    exact g_retV rfl (by simp [within, hb])
theorem fault_c (code at' : Int) (w0 : World) : RetV Tryd.prog 37 [.int .i64 code, .int .i64 at'] w0 (.agg #[.int .i64 code, .int .i64 at']) := by
  refine ret_enter Tryd.func37 rfl Tryd.ntmps37 rfl (Wd.nil NoS w0) ?_
  repeat (first | refine g_op rfl ?_ | refine g_then ?_ | refine g_nil ?_ | refine g_region ?_ | refine g_seq ?_ | refine g_alloc rfl fun _ _ => ?_ | refine g_storeAgg ?_ | refine g_ret ?_)
  exact g_retC rfl fun _ hw => ⟨rfl, hw.chg⟩

theorem name_c (s : ByteArray) (w0 : World) : RetV Tryd.prog 38 [.string s] w0 (.bool (nameOk s)) := by
  refine ret_enter Tryd.func38 rfl Tryd.ntmps38 rfl (Wd.nil NoS w0) ?_
  repeat (first | refine g_op rfl ?_ | refine g_then ?_ | refine g_nil ?_ | refine g_region ?_ | refine g_seq ?_)
  generalize hb : decide ((s.size : Int) < 1) = b
  refine g_join 4 12 (.bool (b || decide (12 < (s.size : Int)))) ?_ ?_
  · cases b
    · repeat (first | refine g_op rfl ?_ | refine g_then ?_ | refine g_nil ?_ | refine g_open ?_)
      exact g_done (by repeat (first | exact trivial | refine ⟨rfl, ?_⟩)) (by simp)
    · repeat (first | refine g_op rfl ?_ | refine g_then ?_ | refine g_nil ?_ | refine g_pass rfl ?_)
      exact g_done (by repeat (first | exact trivial | refine ⟨rfl, ?_⟩)) (by simp)
  repeat (first | refine g_then ?_ | refine g_nil ?_)
  refine g_cond (fun h1 => ?_) (fun h1 => ?_)
  · repeat (first | refine g_then ?_ | refine g_nil ?_ | refine g_region ?_ | refine g_seq ?_ | refine g_opS rfl ?_ | refine g_ret ?_ | refine g_thenRet ?_)
    refine g_retV rfl ?_
    subst hb
    simp [nameOk, if_pos (show (s.size : Int) < 1 ∨ 12 < (s.size : Int) by simpa using h1)]
  have h1' : ¬ ((s.size : Int) < 1 ∨ 12 < (s.size : Int)) := by subst hb; simpa using h1
  repeat (first | refine g_op rfl ?_ | refine g_then ?_ | refine g_nil ?_ | refine g_region ?_ | refine g_seq ?_ | refine g_block ?_ | refine g_skip ?_)
  refine g_loop (fun (i : Nat) => i ≤ s.size ∧ ∀ j, j < i → okCh j (byteAt s j) = true) (fun i => [(0, .string s), (15, .int .i64 i), (14, .int .i64 s.size)]) (fun _ => []) (fun i => s.size - i) 0 ⟨Nat.zero_le _, by simp⟩ (g_done (by repeat (first | exact trivial | refine ⟨rfl, ?_⟩)) (by simp)) fun i ⟨hi, hall⟩ => ?_
  repeat (first | refine g_op rfl ?_ | refine g_then ?_ | refine g_nil ?_ | refine g_region ?_ | refine g_seq ?_)
  refine g_cond (fun h2 => ?_) (fun h2 => ?_)
  · have hlt : i < s.size := by simpa using h2
    have hby : ByteIs s i (byteAt s i) := ⟨hlt, by simp [byteAt, hlt]⟩
    generalize hc : byteAt s i = c at hby
    repeat (first | refine g_op rfl ?_ | refine g_then ?_ | refine g_nil ?_ | refine g_region ?_ | refine g_seq ?_ | refine g_block ?_ | refine g_skip ?_)
    generalize e1 : decide (97 ≤ c) = b1
    refine g_join 3 26 (.bool (b1 && decide (c ≤ 122))) ?_ ?_
    · cases b1
      · repeat (first | refine g_op rfl ?_ | refine g_then ?_ | refine g_nil ?_ | refine g_pass rfl ?_)
        exact g_done (by repeat (first | exact trivial | refine ⟨rfl, ?_⟩)) (by simp)
      · repeat (first | refine g_op rfl ?_ | refine g_then ?_ | refine g_nil ?_ | refine g_open ?_)
        exact g_done (by repeat (first | exact trivial | refine ⟨rfl, ?_⟩)) (by simp)
    generalize e2 : (b1 && decide (c ≤ 122)) = b2
    repeat (refine g_op rfl ?_)
    refine g_join 7 34 (.bool (b2 || (decide (65 ≤ c) && decide (c ≤ 90)))) ?_ ?_
    · cases b2
      · repeat (first | refine g_op rfl ?_ | refine g_open ?_)
        generalize e3 : decide (65 ≤ c) = b3
        cases b3
        · repeat (first | refine g_op rfl ?_ | refine g_then ?_ | refine g_nil ?_ | refine g_open ?_ | refine g_pass rfl ?_)
          exact g_done (by repeat (first | exact trivial | refine ⟨rfl, ?_⟩)) (by simp)
        · repeat (first | refine g_op rfl ?_ | refine g_then ?_ | refine g_nil ?_ | refine g_open ?_)
          exact g_done (by repeat (first | exact trivial | refine ⟨rfl, ?_⟩)) (by simp)
      · repeat (first | refine g_op rfl ?_ | refine g_then ?_ | refine g_nil ?_ | refine g_pass rfl ?_ | refine g_passU rfl ?_)
        exact g_done (by repeat (first | exact trivial | refine ⟨rfl, ?_⟩)) (by simp)
    generalize e3 : (b2 || (decide (65 ≤ c) && decide (c ≤ 90))) = b3
    repeat (refine g_op rfl ?_)
    refine g_join 3 38 (.bool (b3 || decide (c = 95))) ?_ ?_
    · cases b3
      · repeat (first | refine g_op rfl ?_ | refine g_then ?_ | refine g_nil ?_ | refine g_open ?_)
        exact g_done (by repeat (first | exact trivial | refine ⟨rfl, ?_⟩)) (by simp)
      · repeat (first | refine g_op rfl ?_ | refine g_then ?_ | refine g_nil ?_ | refine g_pass rfl ?_)
        exact g_done (by repeat (first | exact trivial | refine ⟨rfl, ?_⟩)) (by simp)
    generalize e4 : (b3 || decide (c = 95)) = b4
    repeat (refine g_op rfl ?_)
    refine g_join 11 50 (.bool (b4 || ((decide (0 < (i : Int)) && decide (48 ≤ c)) && decide (c ≤ 57)))) ?_ ?_
    · cases b4
      · repeat (first | refine g_op rfl ?_ | refine g_open ?_)
        generalize e5 : decide (0 < (i : Int)) = b5
        cases b5
        · repeat (first | refine g_op rfl ?_ | refine g_then ?_ | refine g_nil ?_ | refine g_open ?_ | refine g_pass rfl ?_)
          exact g_done (by repeat (first | exact trivial | refine ⟨rfl, ?_⟩)) (by simp)
        · repeat (first | refine g_op rfl ?_ | refine g_open ?_)
          generalize e6 : decide (48 ≤ c) = b6
          cases b6
          · repeat (first | refine g_op rfl ?_ | refine g_then ?_ | refine g_nil ?_ | refine g_open ?_ | refine g_pass rfl ?_)
            exact g_done (by repeat (first | exact trivial | refine ⟨rfl, ?_⟩)) (by simp)
          · repeat (first | refine g_op rfl ?_ | refine g_then ?_ | refine g_nil ?_ | refine g_open ?_)
            exact g_done (by repeat (first | exact trivial | refine ⟨rfl, ?_⟩)) (by simp)
      · repeat (first | refine g_op rfl ?_ | refine g_then ?_ | refine g_nil ?_ | refine g_pass rfl ?_ | refine g_passU rfl ?_)
        exact g_done (by repeat (first | exact trivial | refine ⟨rfl, ?_⟩)) (by simp)
    have hok : okCh i c = (b4 || ((decide (0 < (i : Int)) && decide (48 ≤ c)) && decide (c ≤ 57))) := by subst e4 e3 e2 e1; rfl
    rw [← hok]
    repeat (first | refine g_op rfl ?_ | refine g_then ?_ | refine g_nil ?_)
    refine g_cond (fun h3 => ?_) (fun h3 => ?_)
    · have h3' : okCh i c = false := by simpa using h3
      repeat (first | refine g_op rfl ?_ | refine g_then ?_ | refine g_nil ?_ | refine g_region ?_ | refine g_seq ?_ | refine g_ret ?_ | refine g_thenRet ?_ | refine g_blockRet ?_)
      refine g_retV rfl ?_
      simp only [nameOk, if_neg h1', Value.bool.injEq]
      symm
      rw [decide_eq_false_iff_not]
      intro hh
      have := hh i hlt
      rw [hc, h3'] at this
      cases this
    · have h3' : okCh i c = true := by simpa using h3
      repeat (first | refine g_then ?_ | refine g_nil ?_ | refine g_region ?_ | refine g_opS rfl ?_ | refine g_inBlock ?_ | refine g_skip ?_ | refine g_add rfl (by omega) (by omega) ?_)
      refine g_next (i + 1) ⟨hlt, fun j hj => ?_⟩ (by omega) (by repeat (first | exact trivial | refine ⟨rfl, ?_⟩)) (by simp)
      by_cases hji : j = i
      · subst hji; rw [hc]; exact h3'
      · exact hall j (by omega)
  · have hge : i = s.size := by have := h2; simp at this; omega
    repeat (first | refine g_op rfl ?_ | refine g_then ?_ | refine g_nil ?_ | refine g_region ?_ | refine g_seq ?_ | refine g_exit ?_ | refine g_thenExit ?_ | refine g_exitHere ?_ | refine g_ret ?_)
    refine g_retV rfl ?_
    subst hge
    simp only [nameOk, if_neg h1', Value.bool.injEq]
    symm
    rw [decide_eq_true_eq]
    exact hall

theorem indexS_c (v : Value) (l : List ByteArray) (s : ByteArray) (w0 : World) (hv : SlAt w0 v 1 l StrV) : Ret Tryd.prog 76 [v, .string s] w0 fun u w' => Chg NoS w0 w' ∧ ∃ r : Int, u = .int .i64 r ∧ decide (0 ≤ r) = hasName l s := by
  obtain ⟨a, n, c, b, o, rfl, hn, hnc, hnb, hc, ha, hel⟩ := hv
  refine ret_enter Tryd.func76 rfl Tryd.ntmps76 rfl (Wd.nil NoS w0) ?_
  repeat (first | refine g_op rfl ?_ | refine g_then ?_ | refine g_nil ?_ | refine g_region ?_ | refine g_seq ?_ | refine g_block ?_)
  refine g_loop (fun (i : Nat) => i ≤ n ∧ ∀ j t, j < i → l[j]? = some t → (s.toList == t.toList) = false) (fun i => [(8, .int .i64 i), (0, .slice a n c), (1, .string s), (7, .int .i64 n)]) (fun _ => []) (fun i => n - i) 0 ⟨Nat.zero_le _, by simp⟩ (g_done (by repeat (first | exact trivial | refine ⟨rfl, ?_⟩)) (by simp)) fun i ⟨hi, hall⟩ => ?_
  repeat (first | refine g_op rfl ?_ | refine g_then ?_ | refine g_nil ?_ | refine g_region ?_ | refine g_seq ?_)
  refine g_cond (fun h1 => ?_) (fun h1 => ?_)
  · have hlt : i < n := by simpa using h1
    obtain ⟨x, hx⟩ := get_lt hn hlt
    have had : AddrIs a b o := ⟨ha (ne_of_get hx)⟩
    have hli : LtIs i n := ⟨hlt⟩
    obtain ⟨cs, hcs, rfl⟩ := hel i x hx
    have hci : CellsIs w0 b (o + i * 1) _ := ⟨hcs⟩
    repeat (first | refine g_op rfl ?_ | refine g_then ?_ | refine g_nil ?_ | refine g_region ?_ | refine g_seq ?_ | refine g_block ?_ | refine g_skip ?_)
    refine g_cond (fun h2 => ?_) (fun h2 => ?_)
    · repeat (first | refine g_op rfl ?_ | refine g_then ?_ | refine g_nil ?_ | refine g_region ?_ | refine g_seq ?_ | refine g_ret ?_ | refine g_thenRet ?_ | refine g_blockRet ?_)
      refine g_ret1 rfl fun w hw => ⟨hw.chg, _, rfl, ?_⟩
      rw [decide_eq_true (by omega : (0 : Int) ≤ (i : Int))]
      symm
      simp only [hasName, List.any_eq_true]
      exact ⟨x, List.mem_of_getElem? hx, h2⟩
    · repeat (first | refine g_then ?_ | refine g_nil ?_ | refine g_region ?_ | refine g_opS rfl ?_ | refine g_inBlock ?_ | refine g_skip ?_ | refine g_add rfl (by omega) (by omega) ?_)
      refine g_next (i + 1) ⟨hlt, fun j t hj ht => ?_⟩ (by omega) (by repeat (first | exact trivial | refine ⟨rfl, ?_⟩)) (by simp)
      by_cases hji : j = i
      · subst hji
        rw [hx] at ht
        simp only [Option.some.injEq] at ht
        subst ht; exact h2
      · exact hall j t (by omega) ht
  · have hge : i = n := by have := h1; simp at this; omega
    repeat (first | refine g_op rfl ?_ | refine g_then ?_ | refine g_nil ?_ | refine g_region ?_ | refine g_seq ?_ | refine g_exit ?_ | refine g_thenExit ?_ | refine g_exitHere ?_ | refine g_ret ?_)
    refine g_ret1 rfl fun w hw => ⟨hw.chg, _, rfl, ?_⟩
    symm
    rw [show decide ((0 : Int) ≤ -1) = false from rfl]
    simp only [hasName, List.any_eq_false]
    intro t ht
    obtain ⟨j, hj⟩ := List.getElem?_of_mem ht
    have := hall j t (by have := (List.getElem?_eq_some_iff.1 hj).1; omega) hj
    simp [this]

theorem containsS_c (v : Value) (l : List ByteArray) (s : ByteArray) (w0 : World) (hv : SlAt w0 v 1 l StrV) : RetV Tryd.prog 39 [v, .string s] w0 (.bool (hasName l s)) := by
  refine ret_enter Tryd.func39 rfl Tryd.ntmps39 rfl (Wd.nil NoS w0) ?_
  repeat (first | refine g_op rfl ?_ | refine g_then ?_ | refine g_nil ?_ | refine g_region ?_ | refine g_seq ?_)
  refine g_callE (val := fun r : Int => .int .i64 r) (φ := fun r : Int => decide (0 ≤ r) = hasName l s) (E := fun _ => []) rfl (fun w hw => (indexS_c v l s w (hv.keep keeps_str hw.chg)).mono fun u w' ⟨h1, r, h2, h3⟩ => ⟨r, h2, (Wd.nil NoS w).call h1, h3⟩) fun r hr => ?_
  repeat (first | refine g_op rfl ?_ | refine g_then ?_ | refine g_nil ?_ | refine g_opS rfl ?_ | refine g_ret ?_)
  exact g_retV rfl (by rw [hr])
end Go.Proofs.YtbmnkjaelfjlhaaDoor


/- Reaching in a function's graph, as plain facts about lists. No program in sight. -/
namespace Go.Proofs.YtbmnkjaelfjlhaaDoor
open Go Go.RowKit

def toOf (bl : List LBlock) (i : Nat) : List Int := match bl[i]? with | some b => b.to | none => []
def Edge (bl : List LBlock) (x y : Nat) : Prop := (y : Int) ∈ toOf bl x
/-- from b to a block, never through 'wo' -/
inductive Rch (bl : List LBlock) (wo : Int) (b : Nat) : Nat → Prop
  | refl : Rch bl wo b b
  | step {x y : Nat} : Rch bl wo b x → Edge bl x y → (y : Int) ≠ wo → Rch bl wo b y
theorem Rch.trans {bl : List LBlock} {wo : Int} {a b c : Nat} (h : Rch bl wo a b) (k : Rch bl wo b c) : Rch bl wo a c := by
  induction k with
  | refl => exact h
  | step _ he hw ih => exact ih.step he hw
theorem toOf_get {bl : List LBlock} {i : Nat} {b : LBlock} (h : bl[i]? = some b) : toOf bl i = b.to := by simp [toOf, h]
def GoodB (bl : List LBlock) : Prop := ∀ b ∈ bl, b.to.length ≤ 2 ∧ ∀ t ∈ b.to, 0 ≤ t ∧ t < bl.length
theorem GoodB.edge {bl : List LBlock} (h : GoodB bl) {x y : Nat} (he : Edge bl x y) : y < bl.length := by
  unfold Edge toOf at he
  split at he
  · rename_i b hb
    have := (h b (List.mem_of_getElem? hb)).2 _ he
    omega
  · cases he
theorem GoodB.rch {bl : List LBlock} (h : GoodB bl) {wo : Int} {b x : Nat} (hb : b < bl.length) (hr : Rch bl wo b x) : x < bl.length := by
  induction hr with
  | refl => exact hb
  | step _ he _ _ => exact h.edge he
def Mut (bl : List LBlock) (b c : Nat) : Prop := Rch bl (-1) b c ∧ Rch bl (-1) c b
def unseen (l : List Bool) : Nat := l.count false
end Go.Proofs.YtbmnkjaelfjlhaaDoor


/- The checker's small methods: val, dst, end$1, Shapes, phi. What each returns. -/
namespace Go.Proofs.YtbmnkjaelfjlhaaDoor
open Go Go.RowKit
attribute [local irreducible] wpListIn Code.wpIn Exit.then Exit.inBlock bodyPost wpQuiet wpAnyIn
set_option maxHeartbeats 1000000

theorem val_c (g fs nm pa bs ah : Value) (regs : Int) (hr : 0 ≤ regs ∧ regs ≤ 100) (v : LVal) (w0 : World) :
    RetV Tryd.prog 115 [.agg #[g, fs, nm, pa, .int .i64 regs, bs, ah], .agg #[.bool v.reg, .int .i64 v.n]] w0 (.int .i64 (valErr regs v)) := by
  refine ret_enter Tryd.func115 rfl Tryd.ntmps115 rfl (Wd.nil NoS w0) ?_
  repeat (first | refine g_op rfl ?_ | refine g_then ?_ | refine g_nil ?_ | refine g_region ?_ | refine g_seq ?_ | refine g_box rfl fun _ _ => ?_)
  generalize hb : v.reg = b
  cases b
  · repeat (first | refine g_op rfl ?_ | refine g_then ?_ | refine g_nil ?_ | refine g_region ?_ | refine g_seq ?_ | refine g_opS rfl ?_ | refine g_pass rfl ?_ | refine g_skip ?_ | refine g_condF ?_ | refine g_ret ?_)
    exact g_retV rfl (by simp [valErr, hb])
  · repeat (first | refine g_op rfl ?_ | refine g_open ?_ | refine g_sub rfl (by omega) (by omega) ?_)
    refine g_callV rfl (fun w _ => within_c _ _ _ w) ?_
    repeat (first | refine g_op rfl ?_ | refine g_then ?_ | refine g_nil ?_ | refine g_open ?_)
    refine g_cond (fun h1 => ?_) (fun h1 => ?_)
    · repeat (first | refine g_then ?_ | refine g_nil ?_ | refine g_region ?_ | refine g_seq ?_ | refine g_opS rfl ?_ | refine g_ret ?_ | refine g_thenRet ?_)
      exact g_retV rfl (by simp at h1; simp [valErr, hb, h1])
    · repeat (first | refine g_then ?_ | refine g_nil ?_ | refine g_region ?_ | refine g_seq ?_ | refine g_opS rfl ?_ | refine g_skip ?_ | refine g_ret ?_)
      exact g_retV rfl (by simp at h1; simp [valErr, hb, h1])
theorem dst_c (g fs nm pa bs ah : Value) (regs : Int) (hr : 0 ≤ regs ∧ regs ≤ 100) (n : Int) (w0 : World) :
    RetV Tryd.prog 116 [.agg #[g, fs, nm, pa, .int .i64 regs, bs, ah], .int .i64 n] w0 (.int .i64 (dstErr regs n)) := by
  refine ret_enter Tryd.func116 rfl Tryd.ntmps116 rfl (Wd.nil NoS w0) ?_
  repeat (first | refine g_op rfl ?_ | refine g_then ?_ | refine g_nil ?_ | refine g_region ?_ | refine g_seq ?_ | refine g_box rfl fun _ _ => ?_ | refine g_sub rfl (by omega) (by omega) ?_)
  refine g_callV rfl (fun w _ => within_c _ _ _ w) ?_
  repeat (first | refine g_op rfl ?_ | refine g_then ?_ | refine g_nil ?_)
  refine g_cond (fun h1 => ?_) (fun h1 => ?_)
  · repeat (first | refine g_then ?_ | refine g_nil ?_ | refine g_region ?_ | refine g_seq ?_ | refine g_opS rfl ?_ | refine g_ret ?_ | refine g_thenRet ?_)
    exact g_retV rfl (by simp at h1; simp [dstErr, h1])
  · repeat (first | refine g_then ?_ | refine g_nil ?_ | refine g_region ?_ | refine g_seq ?_ | refine g_opS rfl ?_ | refine g_skip ?_ | refine g_ret ?_)
    exact g_retV rfl (by simp at h1; simp [dstErr, h1])
theorem endOne_c (g fs nm pa re ah : Value) (n c b : Nat) (a : Option Addr) (hn : n ≤ 100) (x : Int) (w0 : World) (hc : CellsAt w0 b 0 [g, fs, nm, pa, re, .slice a n c, ah]) :
    RetV Tryd.prog 114 [.int .i64 x, .pointer (some ⟨b, 0, none⟩)] w0 (.bool (!within x 1 (n - 1))) := by
  have hci : CellsIs w0 b 0 _ := ⟨hc⟩
  have hci5 : CellIs w0 b 5 (.slice a n c) := ⟨by simpa using hc 5 _ rfl⟩
  refine ret_enter Tryd.func114 rfl Tryd.ntmps114 rfl (Wd.nil NoS w0) ?_
  repeat (first | refine g_op rfl ?_ | refine g_then ?_ | refine g_nil ?_ | refine g_region ?_ | refine g_seq ?_ | refine g_sub rfl (by omega) (by omega) ?_)
  refine g_callV rfl (fun w _ => within_c _ _ _ w) ?_
  repeat (first | refine g_op rfl ?_ | refine g_then ?_ | refine g_nil ?_ | refine g_opS rfl ?_ | refine g_ret ?_)
  exact g_retV rfl rfl
theorem shapes_c (op : Int) (w0 : World) : RetV Tryd.prog 117 [.int .i64 op] w0 (.agg #[.bool (shape op).1, .bool (shape op).2.1, .bool (shape op).2.2]) := by
  refine ret_enter Tryd.func117 rfl Tryd.ntmps117 rfl (Wd.nil NoS w0) ?_
  repeat (first | refine g_op rfl ?_ | refine g_then ?_ | refine g_nil ?_ | refine g_region ?_ | refine g_seq ?_ | refine g_alloc rfl fun _ _ => ?_ | refine g_block ?_)
  generalize e1 : decide (op = 1) = b1
  refine g_join 3 9 (.bool (b1 || decide (op = 16))) ?_ ?_
  · cases b1
    · repeat (first | refine g_op rfl ?_ | refine g_then ?_ | refine g_nil ?_ | refine g_open ?_)
      exact g_done (by repeat (first | exact trivial | refine ⟨rfl, ?_⟩)) (by simp)
    · repeat (first | refine g_op rfl ?_ | refine g_then ?_ | refine g_nil ?_ | refine g_pass rfl ?_)
      exact g_done (by repeat (first | exact trivial | refine ⟨rfl, ?_⟩)) (by simp)
  generalize e2 : (b1 || decide (op = 16)) = b2
  repeat (refine g_op rfl ?_)
  refine g_join 3 13 (.bool (b2 || decide (op = 17))) ?_ ?_
  · cases b2
    · repeat (first | refine g_op rfl ?_ | refine g_then ?_ | refine g_nil ?_ | refine g_open ?_)
      exact g_done (by repeat (first | exact trivial | refine ⟨rfl, ?_⟩)) (by simp)
    · repeat (first | refine g_op rfl ?_ | refine g_then ?_ | refine g_nil ?_ | refine g_pass rfl ?_)
      exact g_done (by repeat (first | exact trivial | refine ⟨rfl, ?_⟩)) (by simp)
  generalize e3 : (b2 || decide (op = 17)) = b3
  repeat (refine g_op rfl ?_)
  refine g_join 3 17 (.bool (b3 || decide (op = 18))) ?_ ?_
  · cases b3
    · repeat (first | refine g_op rfl ?_ | refine g_then ?_ | refine g_nil ?_ | refine g_open ?_)
      exact g_done (by repeat (first | exact trivial | refine ⟨rfl, ?_⟩)) (by simp)
    · repeat (first | refine g_op rfl ?_ | refine g_then ?_ | refine g_nil ?_ | refine g_pass rfl ?_)
      exact g_done (by repeat (first | exact trivial | refine ⟨rfl, ?_⟩)) (by simp)
  repeat (first | refine g_op rfl ?_ | refine g_then ?_ | refine g_nil ?_)
  refine g_cond (fun h1 => ?_) (fun h1 => ?_)
  · repeat (first | refine g_op rfl ?_ | refine g_then ?_ | refine g_nil ?_ | refine g_region ?_ | refine g_seq ?_ | refine g_storeAgg ?_ | refine g_ret ?_ | refine g_thenRet ?_ | refine g_blockRet ?_)
    refine g_retC rfl fun _ hw => ⟨?_, hw.chg⟩
    have : ((op = 1 ∨ op = 16) ∨ op = 17) ∨ op = 18 := by subst e3 e2 e1; simpa using h1
    simp [shape, this]
  have n1 : ¬ (((op = 1 ∨ op = 16) ∨ op = 17) ∨ op = 18) := by subst e3 e2 e1; simpa using h1
  repeat (first | refine g_op rfl ?_ | refine g_region ?_ | refine g_seq ?_)
  generalize e4 : decide (2 ≤ op) = b4
  refine g_join 3 25 (.bool (b4 && decide (op ≤ 15))) ?_ ?_
  · cases b4
    · repeat (first | refine g_op rfl ?_ | refine g_then ?_ | refine g_nil ?_ | refine g_pass rfl ?_)
      exact g_done (by repeat (first | exact trivial | refine ⟨rfl, ?_⟩)) (by simp)
    · repeat (first | refine g_op rfl ?_ | refine g_then ?_ | refine g_nil ?_ | refine g_open ?_)
      exact g_done (by repeat (first | exact trivial | refine ⟨rfl, ?_⟩)) (by simp)
  repeat (first | refine g_op rfl ?_ | refine g_then ?_ | refine g_nil ?_)
  refine g_cond (fun h2 => ?_) (fun h2 => ?_)
  · repeat (first | refine g_op rfl ?_ | refine g_then ?_ | refine g_nil ?_ | refine g_region ?_ | refine g_seq ?_ | refine g_storeAgg ?_ | refine g_ret ?_ | refine g_thenRet ?_ | refine g_blockRet ?_)
    refine g_retC rfl fun _ hw => ⟨?_, hw.chg⟩
    have : 2 ≤ op ∧ op ≤ 15 := by subst e4; simpa using h2
    simp [shape, n1, this]
  have n2 : ¬ (2 ≤ op ∧ op ≤ 15) := by subst e4; simpa using h2
  repeat (first | refine g_op rfl ?_ | refine g_then ?_ | refine g_nil ?_ | refine g_region ?_ | refine g_seq ?_)
  refine g_cond (fun h3 => ?_) (fun h3 => ?_)
  · repeat (first | refine g_op rfl ?_ | refine g_then ?_ | refine g_nil ?_ | refine g_region ?_ | refine g_seq ?_ | refine g_storeAgg ?_ | refine g_ret ?_ | refine g_thenRet ?_ | refine g_blockRet ?_)
    refine g_retC rfl fun _ hw => ⟨?_, hw.chg⟩
    have : op = 19 := by simpa using h3
    simp [shape, this]
  have n3 : ¬ op = 19 := by simpa using h3
  repeat (first | refine g_op rfl ?_ | refine g_region ?_ | refine g_seq ?_)
  generalize e5 : decide (op = 20) = b5
  refine g_join 3 37 (.bool (b5 || decide (op = 21))) ?_ ?_
  · cases b5
    · repeat (first | refine g_op rfl ?_ | refine g_then ?_ | refine g_nil ?_ | refine g_open ?_)
      exact g_done (by repeat (first | exact trivial | refine ⟨rfl, ?_⟩)) (by simp)
    · repeat (first | refine g_op rfl ?_ | refine g_then ?_ | refine g_nil ?_ | refine g_pass rfl ?_)
      exact g_done (by repeat (first | exact trivial | refine ⟨rfl, ?_⟩)) (by simp)
  repeat (first | refine g_op rfl ?_ | refine g_then ?_ | refine g_nil ?_)
  refine g_cond (fun h4 => ?_) (fun h4 => ?_)
  · repeat (first | refine g_op rfl ?_ | refine g_then ?_ | refine g_nil ?_ | refine g_region ?_ | refine g_seq ?_ | refine g_storeAgg ?_ | refine g_ret ?_ | refine g_thenRet ?_ | refine g_blockRet ?_)
    refine g_retC rfl fun _ hw => ⟨?_, hw.chg⟩
    have : op = 20 ∨ op = 21 := by subst e5; simpa using h4
    rcases this with rfl | rfl <;> rfl
  have n4 : ¬ (op = 20 ∨ op = 21) := by subst e5; simpa using h4
  repeat (first | refine g_op rfl ?_ | refine g_then ?_ | refine g_nil ?_ | refine g_region ?_ | refine g_seq ?_)
  refine g_cond (fun h5 => ?_) (fun h5 => ?_)
  · repeat (first | refine g_op rfl ?_ | refine g_then ?_ | refine g_nil ?_ | refine g_region ?_ | refine g_seq ?_ | refine g_storeAgg ?_ | refine g_ret ?_ | refine g_thenRet ?_ | refine g_blockRet ?_)
    refine g_retC rfl fun _ hw => ⟨?_, hw.chg⟩
    have : op = 22 := by simpa using h5
    subst this; rfl
  · have n5 : ¬ op = 22 := by simpa using h5
    repeat (first | refine g_op rfl ?_ | refine g_then ?_ | refine g_nil ?_ | refine g_region ?_ | refine g_seq ?_ | refine g_storeAgg ?_ | refine g_inBlock ?_ | refine g_skip ?_ | refine g_ret ?_)
    refine g_retC rfl fun _ hw => ⟨?_, hw.chg⟩
    simp [shape, n1, n2, n3, n4, n5]
end Go.Proofs.YtbmnkjaelfjlhaaDoor


/- slices.ContainsFunc at ints, code.first, the checker's end, phi and ins. What each returns. -/
namespace Go.Proofs.YtbmnkjaelfjlhaaDoor
open Go Go.RowKit
attribute [local irreducible] wpListIn Code.wpIn Exit.then Exit.inBlock bodyPost wpQuiet wpAnyIn
set_option maxHeartbeats 1000000

theorem indexFI_c {f : Nat} [EnterOk Tryd.prog f] (cap : List Value) (g : Int → Bool) (v : Value) (l : List Int) (w0 : World) (hv : SlAt w0 v 1 l IntV) (hcl : ∀ w, Chg NoS w0 w → ∀ x ∈ l, RetV Tryd.prog f (.int .i64 x :: cap) w (.bool (g x))) :
    Ret Tryd.prog 151 [v, .func (.func f) #[] cap.toArray] w0 fun u w' => ∃ r : Int, u = .int .i64 r ∧ Wd NoS w0 [] w' ∧ decide (0 ≤ r) = l.any g := by
  obtain ⟨a, n, c, b, o, rfl, hn, hnc, hnb, hc, ha, hel⟩ := hv
  refine ret_enter Tryd.func151 rfl Tryd.ntmps151 rfl (Wd.nil NoS w0) ?_
  repeat (first | refine g_op rfl ?_ | refine g_then ?_ | refine g_nil ?_ | refine g_region ?_ | refine g_seq ?_ | refine g_block ?_)
  refine g_loop (fun (i : Nat) => i ≤ n ∧ ∀ j t, j < i → l[j]? = some t → g t = false) (fun i => [(8, .int .i64 i), (0, .slice a n c), (1, .func (.func f) #[] cap.toArray), (7, .int .i64 n)]) (fun _ => []) (fun i => n - i) 0 ⟨Nat.zero_le _, by simp⟩ (g_done (by repeat (first | exact trivial | refine ⟨rfl, ?_⟩)) (by simp)) fun i ⟨hi, hall⟩ => ?_
  repeat (first | refine g_op rfl ?_ | refine g_then ?_ | refine g_nil ?_ | refine g_region ?_ | refine g_seq ?_)
  refine g_cond (fun h1 => ?_) (fun h1 => ?_)
  · have hlt : i < n := by simpa using h1
    obtain ⟨x, hx⟩ := get_lt hn hlt
    have had : AddrIs a b o := ⟨ha (ne_of_get hx)⟩
    have hli : LtIs i n := ⟨hlt⟩
    obtain ⟨cs, hcs, rfl, hxi⟩ := hel i x hx
    have hci : CellsIs w0 b (o + i * 1) _ := ⟨hcs⟩
    repeat (first | refine g_op rfl ?_ | refine g_then ?_ | refine g_nil ?_ | refine g_region ?_ | refine g_seq ?_ | refine g_block ?_ | refine g_skip ?_)
    refine g_callFV rfl (us := []) (vs := [.int .i64 x]) (xs := cap) (fun w hw => hcl w hw.chg x (List.mem_of_getElem? hx)) ?_
    repeat (first | refine g_then ?_ | refine g_nil ?_)
    refine g_cond (fun h2 => ?_) (fun h2 => ?_)
    · repeat (first | refine g_op rfl ?_ | refine g_then ?_ | refine g_nil ?_ | refine g_region ?_ | refine g_seq ?_ | refine g_ret ?_ | refine g_thenRet ?_ | refine g_blockRet ?_)
      refine g_ret1 rfl fun w hw => ⟨_, rfl, ⟨hw.chg, by simp, by simp, by simp⟩, ?_⟩
      rw [decide_eq_true (by omega : (0 : Int) ≤ (i : Int))]
      symm
      simp only [List.any_eq_true]
      exact ⟨x, List.mem_of_getElem? hx, h2⟩
    · repeat (first | refine g_then ?_ | refine g_nil ?_ | refine g_region ?_ | refine g_opS rfl ?_ | refine g_inBlock ?_ | refine g_skip ?_ | refine g_add rfl (by omega) (by omega) ?_)
      refine g_next (i + 1) ⟨hlt, fun j t hj ht => ?_⟩ (by omega) (by repeat (first | exact trivial | refine ⟨rfl, ?_⟩)) (by simp)
      by_cases hji : j = i
      · subst hji
        rw [hx] at ht
        simp only [Option.some.injEq] at ht
        subst ht; exact h2
      · exact hall j t (by omega) ht
  · have hge : i = n := by have := h1; simp at this; omega
    repeat (first | refine g_op rfl ?_ | refine g_then ?_ | refine g_nil ?_ | refine g_region ?_ | refine g_seq ?_ | refine g_exit ?_ | refine g_thenExit ?_ | refine g_exitHere ?_ | refine g_ret ?_)
    refine g_ret1 rfl fun w hw => ⟨_, rfl, ⟨hw.chg, by simp, by simp, by simp⟩, ?_⟩
    symm
    rw [show decide ((0 : Int) ≤ -1) = false from rfl]
    simp only [List.any_eq_false]
    intro t ht
    obtain ⟨j, hj⟩ := List.getElem?_of_mem ht
    have := hall j t (by have := (List.getElem?_eq_some_iff.1 hj).1; omega) hj
    simp [this]
theorem containsFI_c {f : Nat} [EnterOk Tryd.prog f] (cap : List Value) (g : Int → Bool) (v : Value) (l : List Int) (w0 : World) (hv : SlAt w0 v 1 l IntV) (hcl : ∀ w, Chg NoS w0 w → ∀ x ∈ l, RetV Tryd.prog f (.int .i64 x :: cap) w (.bool (g x))) :
    RetV Tryd.prog 113 [v, .func (.func f) #[] cap.toArray] w0 (.bool (l.any g)) := by
  refine ret_enter Tryd.func113 rfl Tryd.ntmps113 rfl (Wd.nil NoS w0) ?_
  repeat (first | refine g_op rfl ?_ | refine g_then ?_ | refine g_nil ?_ | refine g_region ?_ | refine g_seq ?_)
  refine g_callE (val := fun r : Int => .int .i64 r) (φ := fun r : Int => decide (0 ≤ r) = l.any g) (E := fun _ => []) rfl (fun w hw => indexFI_c cap g v l w (hv.keep keeps_int hw.chg) fun w1 h1 x => hcl w1 (hw.chg.trans h1) x) fun r hr => ?_
  repeat (first | refine g_op rfl ?_ | refine g_then ?_ | refine g_nil ?_ | refine g_opS rfl ?_ | refine g_ret ?_)
  exact g_retV rfl (by rw [hr])

structure Clos where
  f : Nat
  cap : List Value
  err : Int
def ClosV (_ : World) (x : Clos) (cs : List Value) : Prop := cs = [.func (.func x.f) #[] x.cap.toArray]
theorem first_c (v : Value) (l : List Clos) (w0 : World) (hv : SlAt w0 v 1 l ClosV) (hE : ∀ x ∈ l, EnterOk Tryd.prog x.f) (hcl : ∀ x ∈ l, ∀ w, Chg NoS w0 w → RetV Tryd.prog x.f x.cap w (.int .i64 x.err)) :
    RetV Tryd.prog 118 [v] w0 (.int .i64 (firstI (at0 l (·.err)) l.length).1) := by
  obtain ⟨a, n, c, b, o, rfl, hn, hnc, hnb, hc, ha, hel⟩ := hv
  refine ret_enter Tryd.func118 rfl Tryd.ntmps118 rfl (Wd.nil NoS w0) ?_
  repeat (first | refine g_op rfl ?_ | refine g_then ?_ | refine g_nil ?_ | refine g_region ?_ | refine g_seq ?_ | refine g_block ?_)
  refine g_loop (fun (i : Nat) => i ≤ n ∧ ∀ j, j < i → at0 l (·.err) j = 0) (fun i => [(8, .int .i64 i), (6, .slice a n c), (7, .int .i64 n)]) (fun _ => []) (fun i => n - i) 0 ⟨Nat.zero_le _, by simp⟩ (g_done (by repeat (first | exact trivial | refine ⟨rfl, ?_⟩)) (by simp)) fun i ⟨hi, hall⟩ => ?_
  repeat (first | refine g_op rfl ?_ | refine g_then ?_ | refine g_nil ?_ | refine g_region ?_ | refine g_seq ?_)
  refine g_cond (fun h1 => ?_) (fun h1 => ?_)
  · have hlt : i < n := by simpa using h1
    obtain ⟨x, hx⟩ := get_lt hn hlt
    have had : AddrIs a b o := ⟨ha (ne_of_get hx)⟩
    have hli : LtIs i n := ⟨hlt⟩
    obtain ⟨cs, hcs, rfl⟩ := hel i x hx
    have hci : CellsIs w0 b (o + i * 1) _ := ⟨hcs⟩
    have hxl := List.mem_of_getElem? hx
    have hen := hE x hxl
    have hat : at0 l (·.err) i = x.err := by simp [at0, hx]
    repeat (first | refine g_op rfl ?_ | refine g_then ?_ | refine g_nil ?_ | refine g_region ?_ | refine g_seq ?_ | refine g_block ?_ | refine g_skip ?_)
    refine g_callFV rfl (us := []) (vs := []) (xs := x.cap) (fun w hw => hcl x hxl w hw.chg) ?_
    repeat (first | refine g_op rfl ?_ | refine g_then ?_ | refine g_nil ?_ | refine g_region ?_ | refine g_seq ?_)
    refine g_cond (fun h2 => ?_) (fun h2 => ?_)
    · repeat (first | refine g_op rfl ?_ | refine g_then ?_ | refine g_nil ?_ | refine g_region ?_ | refine g_seq ?_ | refine g_ret ?_ | refine g_thenRet ?_ | refine g_blockRet ?_)
      have h2' : x.err ≠ 0 := by simpa using h2
      refine g_retV rfl ?_
      rw [firstI_hit hall (hn ▸ hlt) (by rw [hat]; exact h2'), hat]
    · have h2' : x.err = 0 := by simpa using h2
      repeat (first | refine g_then ?_ | refine g_nil ?_ | refine g_region ?_ | refine g_opS rfl ?_ | refine g_inBlock ?_ | refine g_skip ?_ | refine g_add rfl (by omega) (by omega) ?_)
      refine g_next (i + 1) ⟨hlt, fun j hj => ?_⟩ (by omega) (by repeat (first | exact trivial | refine ⟨rfl, ?_⟩)) (by simp)
      by_cases hji : j = i
      · subst hji; rw [hat]; exact h2'
      · exact hall j (by omega)
  · have hge : i = n := by have := h1; simp at this; omega
    repeat (first | refine g_op rfl ?_ | refine g_then ?_ | refine g_nil ?_ | refine g_region ?_ | refine g_seq ?_ | refine g_exit ?_ | refine g_thenExit ?_ | refine g_exitHere ?_ | refine g_ret ?_)
    exact g_retV rfl (by rw [← hn, ← hge, firstI_none hall])

theorem insOne_c (g fs nm pa bs ah : Value) (regs : Int) (hr : 0 ≤ regs ∧ regs ≤ 100) (x : LIns) (xv : Value) (b b2 : Nat) (w0 : World) (hc : CellsAt w0 b 0 [g, fs, nm, pa, .int .i64 regs, bs, ah])
    (hx : CellsAt w0 b2 0 [.int .i64 x.op, .int .i64 x.dst, .bool x.a.reg, .int .i64 x.a.n, .bool x.b.reg, .int .i64 x.b.n, .int .i64 x.fn, xv]) :
    RetV Tryd.prog 119 [.pointer (some ⟨b, 0, none⟩), .pointer (some ⟨b2, 0, none⟩)] w0 (.int .i64 (valErr regs x.a)) := by
  have hci : CellsIs w0 b 0 _ := ⟨hc⟩
  have hxi : CellsIs w0 b2 0 _ := ⟨hx⟩
  refine ret_enter Tryd.func119 rfl Tryd.ntmps119 rfl (Wd.nil NoS w0) ?_
  repeat (first | refine g_op rfl ?_ | refine g_then ?_ | refine g_nil ?_ | refine g_region ?_ | refine g_seq ?_)
  refine g_callV rfl (fun w _ => val_c _ _ _ _ _ _ regs hr x.a w) ?_
  repeat (first | refine g_then ?_ | refine g_nil ?_ | refine g_opS rfl ?_ | refine g_ret ?_)
  exact g_retV rfl rfl
theorem insTwo_c (g fs nm pa bs ah : Value) (regs : Int) (hr : 0 ≤ regs ∧ regs ≤ 100) (x : LIns) (xv : Value) (b b2 : Nat) (w0 : World) (hc : CellsAt w0 b 0 [g, fs, nm, pa, .int .i64 regs, bs, ah])
    (hx : CellsAt w0 b2 0 [.int .i64 x.op, .int .i64 x.dst, .bool x.a.reg, .int .i64 x.a.n, .bool x.b.reg, .int .i64 x.b.n, .int .i64 x.fn, xv]) :
    RetV Tryd.prog 120 [.pointer (some ⟨b, 0, none⟩), .pointer (some ⟨b2, 0, none⟩)] w0 (.int .i64 (valErr regs x.b)) := by
  have hci : CellsIs w0 b 0 _ := ⟨hc⟩
  have hxi : CellsIs w0 b2 0 _ := ⟨hx⟩
  refine ret_enter Tryd.func120 rfl Tryd.ntmps120 rfl (Wd.nil NoS w0) ?_
  repeat (first | refine g_op rfl ?_ | refine g_then ?_ | refine g_nil ?_ | refine g_region ?_ | refine g_seq ?_)
  refine g_callV rfl (fun w _ => val_c _ _ _ _ _ _ regs hr x.b w) ?_
  repeat (first | refine g_then ?_ | refine g_nil ?_ | refine g_opS rfl ?_ | refine g_ret ?_)
  exact g_retV rfl rfl
theorem insThree_c (g fs nm pa bs ah : Value) (fl : List LFunc) (hfs : fl.length ≤ 100) (regs : Int) (hr : 0 ≤ regs ∧ regs ≤ 100) (x : LIns) (_hfn : inI x.fn) (xv : Value) (b b2 b3 : Nat) (w0 : World) (hc : CellsAt w0 b 0 [g, fs, nm, pa, .int .i64 regs, bs, ah])
    (hx : CellsAt w0 b2 0 [.int .i64 x.op, .int .i64 x.dst, .bool x.a.reg, .int .i64 x.a.n, .bool x.b.reg, .int .i64 x.b.n, .int .i64 x.fn, xv]) (h3 : CellsAt w0 b3 0 [.bool (decide (x.op = 20))]) (hf : SlAt w0 fs 4 fl FuncV) (hv : SlAt w0 xv 2 x.args ValV) :
    RetV Tryd.prog 121 [.pointer (some ⟨b3, 0, none⟩), .pointer (some ⟨b2, 0, none⟩), .pointer (some ⟨b, 0, none⟩)] w0 (.int .i64 (callErr fl regs x)) := by
  obtain ⟨fa, fn, fc, fb, fo, rfl, hfn', hfnc, hfnb, hfc, hfa, hfel⟩ := hf
  obtain ⟨va, vn, vc, vb, vo, rfl, hvn, hvnc, hvnb, hvc, hva, hvel⟩ := hv
  have hci : CellsIs w0 b 0 _ := ⟨hc⟩
  have hxi : CellsIs w0 b2 0 _ := ⟨hx⟩
  have h3i : CellsIs w0 b3 0 _ := ⟨h3⟩
  refine ret_enter Tryd.func121 rfl Tryd.ntmps121 rfl (Wd.nil NoS w0) ?_
  repeat (first | refine g_op rfl ?_ | refine g_then ?_ | refine g_nil ?_ | refine g_region ?_ | refine g_seq ?_ | refine g_block ?_)
  generalize hb : decide (x.op = 20) = bb
  skip
  cases bb
  · repeat (first | refine g_then ?_ | refine g_nil ?_ | refine g_region ?_ | refine g_seq ?_ | refine g_opS rfl ?_ | refine g_condT ?_ | refine g_ret ?_ | refine g_thenRet ?_ | refine g_blockRet ?_)
    exact g_retV rfl (by simp at hb; simp [callErr, hb])
  have hb' : ¬ (x.op ≠ 20) := by simpa using hb
  repeat (first | refine g_op rfl ?_ | refine g_region ?_ | refine g_seq ?_ | refine g_condF ?_ | refine g_sub rfl (by omega) (by omega) ?_)
  refine g_callV rfl (fun w _ => within_c _ _ _ w) ?_
  repeat (first | refine g_op rfl ?_ | refine g_then ?_ | refine g_nil ?_)
  refine g_cond (fun h1 => ?_) (fun h1 => ?_)
  · repeat (first | refine g_then ?_ | refine g_nil ?_ | refine g_region ?_ | refine g_seq ?_ | refine g_opS rfl ?_ | refine g_ret ?_ | refine g_thenRet ?_ | refine g_blockRet ?_)
    exact g_retV rfl (by simp only [callErr, if_neg hb', ← hfn']; rw [if_pos (by simpa using h1)])
  have hw : within x.fn 0 ((fn : Int) - 1) = true := by simpa using h1
  have hrange : 0 ≤ x.fn ∧ x.fn < fn := by simp [within] at hw; omega
  obtain ⟨k, hk⟩ : ∃ k : Nat, x.fn = k := ⟨x.fn.toNat, by omega⟩
  have hkl : k < fn := by omega
  obtain ⟨F, hF⟩ := get_lt hfn' hkl
  have had : AddrIs fa fb fo := ⟨hfa (ne_of_get hF)⟩
  have hli : LtIs k fn := ⟨hkl⟩
  have hni : NatIs x.fn k := ⟨hk⟩
  obtain ⟨cs, hcs, bv, rfl, hpi, _, _⟩ := hfel k F hF
  have hcii : CellsIs w0 fb (fo + k * 4) _ := ⟨hcs⟩
  have hat : at0 fl (·.params) x.fn.toNat = F.params := by simp [at0, hk, hF]
  repeat (refine g_seq ?_)
  refine g_draw mixed (by kernel_rfl) ?_
  repeat (first | refine q_op rfl ?_ | refine q_nil ?_)
  repeat (refine g_then ?_)
  refine g_cond (fun h2 => ?_) (fun h2 => ?_)
  · repeat (first | refine g_then ?_ | refine g_nil ?_ | refine g_region ?_ | refine g_seq ?_ | refine g_opS rfl ?_ | refine g_ret ?_ | refine g_thenRet ?_ | refine g_blockRet ?_)
    refine g_retV rfl ?_
    have h2' : (x.args.length : Int) ≠ F.params := by rw [← hvn]; simpa using h2
    simp only [callErr, if_neg hb', ← hfn', hw, hat, Bool.not_true, if_pos h2']
    rfl
  have h2' : ¬ (x.args.length : Int) ≠ F.params := by rw [← hvn]; simpa using h2
  have hgoal : callErr fl regs x = (firstI (at0 x.args (valErr regs)) x.args.length).1 := by
    simp only [callErr, if_neg hb', ← hfn', hw, hat, Bool.not_true, if_neg h2']
    rfl
  rw [hgoal]
  repeat (first | refine g_op rfl ?_ | refine g_then ?_ | refine g_nil ?_ | refine g_region ?_ | refine g_seq ?_ | refine g_inBlock ?_ | refine g_block ?_ | refine g_skip ?_)
  refine g_loop (fun (i : Nat) => i ≤ vn ∧ ∀ j, j < i → at0 x.args (valErr regs) j = 0) (fun i => [(36, .int .i64 i), (34, .slice va vn vc), (35, .int .i64 vn), (2, .pointer (some ⟨b, 0, none⟩))]) (fun _ => []) (fun i => vn - i) 0 ⟨Nat.zero_le _, by simp⟩ (g_done (by repeat (first | exact trivial | refine ⟨rfl, ?_⟩)) (by simp)) fun i ⟨hi, hall⟩ => ?_
  repeat (first | refine g_op rfl ?_ | refine g_then ?_ | refine g_nil ?_ | refine g_region ?_ | refine g_seq ?_)
  refine g_cond (fun h1 => ?_) (fun h1 => ?_)
  · have hlt : i < vn := by simpa using h1
    obtain ⟨y, hy⟩ := get_lt hvn hlt
    have had : AddrIs va vb vo := ⟨hva (ne_of_get hy)⟩
    have hli : LtIs i vn := ⟨hlt⟩
    obtain ⟨cs, hcs, rfl, hyi⟩ := hvel i y hy
    have hci : CellsIs w0 vb (vo + i * 2) _ := ⟨hcs⟩
    have hat : at0 x.args (valErr regs) i = valErr regs y := by simp [at0, hy]
    repeat (first | refine g_op rfl ?_ | refine g_then ?_ | refine g_nil ?_ | refine g_region ?_ | refine g_seq ?_ | refine g_alloc rfl fun _ _ => ?_ | refine g_storeAgg ?_ | refine g_block ?_ | refine g_skip ?_)
    refine g_callV rfl (fun w _ => val_c _ _ _ _ _ _ regs hr y w) ?_
    repeat (first | refine g_op rfl ?_ | refine g_then ?_ | refine g_nil ?_ | refine g_region ?_ | refine g_seq ?_)
    refine g_cond (fun h2 => ?_) (fun h2 => ?_)
    · repeat (first | refine g_op rfl ?_ | refine g_then ?_ | refine g_nil ?_ | refine g_region ?_ | refine g_seq ?_ | refine g_ret ?_ | refine g_thenRet ?_ | refine g_blockRet ?_)
      refine g_retV rfl ?_
      rw [firstI_hit hall (hvn ▸ hlt) (by rw [hat]; simpa using h2), hat]
    · repeat (first | refine g_then ?_ | refine g_nil ?_ | refine g_region ?_ | refine g_opS rfl ?_ | refine g_inBlock ?_ | refine g_skip ?_ | refine g_add rfl (by omega) (by omega) ?_)
      refine g_next (i + 1) ⟨hlt, fun j hj => ?_⟩ (by omega) (by repeat (first | exact trivial | refine ⟨rfl, ?_⟩)) (by simp)
      by_cases hji : j = i
      · subst hji; rw [hat]; simpa using h2
      · exact hall j (by omega)
  · have hge : i = vn := by have := h1; simp at this; omega
    repeat (first | refine g_op rfl ?_ | refine g_then ?_ | refine g_nil ?_ | refine g_region ?_ | refine g_seq ?_ | refine g_exit ?_ | refine g_thenExit ?_ | refine g_exitHere ?_ | refine g_ret ?_)
    exact g_retV rfl (by rw [← hvn, ← hge, firstI_none hall])
end Go.Proofs.YtbmnkjaelfjlhaaDoor

