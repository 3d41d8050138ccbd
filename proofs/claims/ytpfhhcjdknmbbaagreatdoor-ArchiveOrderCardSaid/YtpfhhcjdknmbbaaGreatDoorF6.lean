/-
  awake: by runs of the evaluator.
-/
import Derived.Test.YtpfhhcjdknmbbaaGreatDoorC1
set_option linter.all false
set_option linter.unusedSimpArgs false
set_option linter.unusedVariables false
namespace Go.DM
open Go.Proofs
set_option maxRecDepth 1000000
def oneV : V := .agg [.str [65, 66], .str [83, 49], .str [48, 48], .str [66, 72, 90], .int .i64 5000000, .int .i64 0, .int .i64 1, .int .i64 1, .int .i64 0, .int .i64 0, .int .i64 0, .fl true true [.int .i64 7]]
def oneW : V := .agg [.str [65, 66], .str [83, 49], .str [48, 48], .str [66, 72, 90], .int .i64 5000000, .int .i64 0, .int .i64 1, .int .i64 1, .int .i64 0, .int .i64 0, .int .i64 0, .fl true false [.int .i64 7]]
def oneA : V := .agg [.fl true false [.agg [.str [65, 66], .str [83, 49], .str [48, 48], .str [66, 72, 90], .fl true false [oneW]]]]
def reqA : V := .fl true false [.agg [.str [65, 66], .str [83, 49], .str [48, 48], .str [66, 72, 90], .fl true false [.agg [.int .i64 5000000, .int .i64 0, .int .i64 1, .int .i64 1, .int .i64 0, .fl true false [.int .i64 7]]], .fl true false [.agg [.int .i64 4000000, .int .i64 5000000]], .nils]]
theorem aw_one : callN TE 60 (0, 0) 31 [.int .i64 0] ⟨[], []⟩ = some (oneV, ⟨[], []⟩) := by kernel_rfl
theorem aw_add1 : callN TE 60 (0, 0) 14 [.agg [.nils], oneV] ⟨[], []⟩ = some (.tuple [oneA, .bool true, .int .i64 0], ⟨[], []⟩) := by kernel_rfl
theorem aw_add2 : callN TE 60 (0, 0) 14 [oneA, oneV] ⟨[], []⟩ = some (.tuple [oneA, .bool false, .int .i64 0], ⟨[], []⟩) := by kernel_rfl
theorem aw_req : callN TE 60 (0, 0) 34 [oneA, .str [42, 46, 42, 46, 42, 46, 42], .int .i64 4000000, .int .i64 6000000, .int .i64 0] ⟨[], []⟩ = some (.tuple [reqA, .int .i64 0], ⟨[], []⟩) := by kernel_rfl
end Go.DM
