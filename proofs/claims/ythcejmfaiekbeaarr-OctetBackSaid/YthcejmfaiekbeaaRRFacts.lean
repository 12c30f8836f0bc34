/- Closed facts on the types and functions of the program: sizes, zero values, that a function may be called. Printed by tools/facts.py. -/
import Derived.Test.YthcejmfaiekbeaaRRProg
import Derived.Test.YthcejmfaiekbeaaRROps
import Derived.KernelRfl
set_option linter.unusedVariables false
namespace Go.Proofs.Toll
open Go Go.Toll
abbrev z2 : List Value := [.int .i64 0]
theorem info2 : (Try.prog.info? 2).map (fun i => (i.zero, i.size, i.bytes)) = some (some (.int .i64 0), 1, 8) := by kernel_rfl
theorem size2 : (Try.prog.info? 2).map (·.size) = some 1 := by kernel_rfl
theorem zero2 : (Try.prog.info? 2).map (·.zero) = some (some (.int .i64 0)) := by kernel_rfl
theorem zs2 : (Try.prog.info? 2).map (fun i => (i.zero, i.size)) = some (some (.int .i64 0), 1) := by kernel_rfl
theorem plain2 : Program.plainCell Try.prog 2 = true := by kernel_rfl
abbrev z3 : List Value := [.int .i64 0]
theorem info3 : (Try.prog.info? 3).map (fun i => (i.zero, i.size, i.bytes)) = some (some (.int .i64 0), 1, 8) := by kernel_rfl
theorem size3 : (Try.prog.info? 3).map (·.size) = some 1 := by kernel_rfl
theorem zero3 : (Try.prog.info? 3).map (·.zero) = some (some (.int .i64 0)) := by kernel_rfl
theorem zs3 : (Try.prog.info? 3).map (fun i => (i.zero, i.size)) = some (some (.int .i64 0), 1) := by kernel_rfl
theorem plain3 : Program.plainCell Try.prog 3 = true := by kernel_rfl
abbrev z4 : List Value := [.bool false]
theorem info4 : (Try.prog.info? 4).map (fun i => (i.zero, i.size, i.bytes)) = some (some (.bool false), 1, 1) := by kernel_rfl
theorem size4 : (Try.prog.info? 4).map (·.size) = some 1 := by kernel_rfl
theorem zero4 : (Try.prog.info? 4).map (·.zero) = some (some (.bool false)) := by kernel_rfl
theorem zs4 : (Try.prog.info? 4).map (fun i => (i.zero, i.size)) = some (some (.bool false), 1) := by kernel_rfl
theorem plain4 : Program.plainCell Try.prog 4 = true := by kernel_rfl
abbrev z5 : List Value := [.int .u8 0]
theorem info5 : (Try.prog.info? 5).map (fun i => (i.zero, i.size, i.bytes)) = some (some (.int .u8 0), 1, 1) := by kernel_rfl
theorem size5 : (Try.prog.info? 5).map (·.size) = some 1 := by kernel_rfl
theorem zero5 : (Try.prog.info? 5).map (·.zero) = some (some (.int .u8 0)) := by kernel_rfl
theorem zs5 : (Try.prog.info? 5).map (fun i => (i.zero, i.size)) = some (some (.int .u8 0), 1) := by kernel_rfl
theorem plain5 : Program.plainCell Try.prog 5 = true := by kernel_rfl
abbrev z7 : List Value := [.int .i64 0, .int .i64 0] ++ ([.bool false] ++ ([.int .u8 0]))
theorem info7 : (Try.prog.info? 7).map (fun i => (i.zero, i.size, i.bytes)) = some (some (.agg z7.toArray), 4, 24) := by kernel_rfl
theorem size7 : (Try.prog.info? 7).map (·.size) = some 4 := by kernel_rfl
theorem zero7 : (Try.prog.info? 7).map (·.zero) = some (some (.agg z7.toArray)) := by kernel_rfl
theorem zs7 : (Try.prog.info? 7).map (fun i => (i.zero, i.size)) = some (some (.agg z7.toArray), 4) := by kernel_rfl
abbrev z9 : List Value := [.string ByteArray.empty]
theorem info9 : (Try.prog.info? 9).map (fun i => (i.zero, i.size, i.bytes)) = some (some (.string ByteArray.empty), 1, 16) := by kernel_rfl
theorem size9 : (Try.prog.info? 9).map (·.size) = some 1 := by kernel_rfl
theorem zero9 : (Try.prog.info? 9).map (·.zero) = some (some (.string ByteArray.empty)) := by kernel_rfl
theorem zs9 : (Try.prog.info? 9).map (fun i => (i.zero, i.size)) = some (some (.string ByteArray.empty), 1) := by kernel_rfl
theorem plain9 : Program.plainCell Try.prog 9 = true := by kernel_rfl
abbrev z12 : List Value := [.int .u64 0]
theorem info12 : (Try.prog.info? 12).map (fun i => (i.zero, i.size, i.bytes)) = some (some (.int .u64 0), 1, 8) := by kernel_rfl
theorem size12 : (Try.prog.info? 12).map (·.size) = some 1 := by kernel_rfl
theorem zero12 : (Try.prog.info? 12).map (·.zero) = some (some (.int .u64 0)) := by kernel_rfl
theorem zs12 : (Try.prog.info? 12).map (fun i => (i.zero, i.size)) = some (some (.int .u64 0), 1) := by kernel_rfl
theorem plain12 : Program.plainCell Try.prog 12 = true := by kernel_rfl
abbrev z13 : List Value := [.string ByteArray.empty] ++ ([.int .u64 0])
theorem info13 : (Try.prog.info? 13).map (fun i => (i.zero, i.size, i.bytes)) = some (some (.agg z13.toArray), 2, 24) := by kernel_rfl
theorem size13 : (Try.prog.info? 13).map (·.size) = some 2 := by kernel_rfl
theorem zero13 : (Try.prog.info? 13).map (·.zero) = some (some (.agg z13.toArray)) := by kernel_rfl
theorem zs13 : (Try.prog.info? 13).map (fun i => (i.zero, i.size)) = some (some (.agg z13.toArray), 2) := by kernel_rfl
abbrev z15 : List Value := [.pointer none]
theorem info15 : (Try.prog.info? 15).map (fun i => (i.zero, i.size, i.bytes)) = some (some (.pointer none), 1, 8) := by kernel_rfl
theorem size15 : (Try.prog.info? 15).map (·.size) = some 1 := by kernel_rfl
theorem zero15 : (Try.prog.info? 15).map (·.zero) = some (some (.pointer none)) := by kernel_rfl
theorem zs15 : (Try.prog.info? 15).map (fun i => (i.zero, i.size)) = some (some (.pointer none), 1) := by kernel_rfl
theorem plain15 : Program.plainCell Try.prog 15 = true := by kernel_rfl
abbrev z16 : List Value := [.pointer none]
theorem info16 : (Try.prog.info? 16).map (fun i => (i.zero, i.size, i.bytes)) = some (some (.pointer none), 1, 8) := by kernel_rfl
theorem size16 : (Try.prog.info? 16).map (·.size) = some 1 := by kernel_rfl
theorem zero16 : (Try.prog.info? 16).map (·.zero) = some (some (.pointer none)) := by kernel_rfl
theorem zs16 : (Try.prog.info? 16).map (fun i => (i.zero, i.size)) = some (some (.pointer none), 1) := by kernel_rfl
theorem plain16 : Program.plainCell Try.prog 16 = true := by kernel_rfl
abbrev z17 : List Value := [.pointer none]
theorem info17 : (Try.prog.info? 17).map (fun i => (i.zero, i.size, i.bytes)) = some (some (.pointer none), 1, 8) := by kernel_rfl
theorem size17 : (Try.prog.info? 17).map (·.size) = some 1 := by kernel_rfl
theorem zero17 : (Try.prog.info? 17).map (·.zero) = some (some (.pointer none)) := by kernel_rfl
theorem zs17 : (Try.prog.info? 17).map (fun i => (i.zero, i.size)) = some (some (.pointer none), 1) := by kernel_rfl
theorem plain17 : Program.plainCell Try.prog 17 = true := by kernel_rfl
abbrev z18 : List Value := [.pointer none]
theorem info18 : (Try.prog.info? 18).map (fun i => (i.zero, i.size, i.bytes)) = some (some (.agg z18.toArray), 1, 8) := by kernel_rfl
theorem size18 : (Try.prog.info? 18).map (·.size) = some 1 := by kernel_rfl
theorem zero18 : (Try.prog.info? 18).map (·.zero) = some (some (.agg z18.toArray)) := by kernel_rfl
theorem zs18 : (Try.prog.info? 18).map (fun i => (i.zero, i.size)) = some (some (.agg z18.toArray), 1) := by kernel_rfl
abbrev z21 : List Value := [.int .i32 0]
theorem info21 : (Try.prog.info? 21).map (fun i => (i.zero, i.size, i.bytes)) = some (some (.int .i32 0), 1, 4) := by kernel_rfl
theorem size21 : (Try.prog.info? 21).map (·.size) = some 1 := by kernel_rfl
theorem zero21 : (Try.prog.info? 21).map (·.zero) = some (some (.int .i32 0)) := by kernel_rfl
theorem zs21 : (Try.prog.info? 21).map (fun i => (i.zero, i.size)) = some (some (.int .i32 0), 1) := by kernel_rfl
theorem plain21 : Program.plainCell Try.prog 21 = true := by kernel_rfl
abbrev z22 : List Value := [.slice none 0 0]
theorem info22 : (Try.prog.info? 22).map (fun i => (i.zero, i.size, i.bytes)) = some (some (.slice none 0 0), 1, 24) := by kernel_rfl
theorem size22 : (Try.prog.info? 22).map (·.size) = some 1 := by kernel_rfl
theorem zero22 : (Try.prog.info? 22).map (·.zero) = some (some (.slice none 0 0)) := by kernel_rfl
theorem zs22 : (Try.prog.info? 22).map (fun i => (i.zero, i.size)) = some (some (.slice none 0 0), 1) := by kernel_rfl
theorem plain22 : Program.plainCell Try.prog 22 = true := by kernel_rfl
abbrev z23 : List Value := [.slice none 0 0]
theorem info23 : (Try.prog.info? 23).map (fun i => (i.zero, i.size, i.bytes)) = some (some (.slice none 0 0), 1, 24) := by kernel_rfl
theorem size23 : (Try.prog.info? 23).map (·.size) = some 1 := by kernel_rfl
theorem zero23 : (Try.prog.info? 23).map (·.zero) = some (some (.slice none 0 0)) := by kernel_rfl
theorem zs23 : (Try.prog.info? 23).map (fun i => (i.zero, i.size)) = some (some (.slice none 0 0), 1) := by kernel_rfl
theorem plain23 : Program.plainCell Try.prog 23 = true := by kernel_rfl
abbrev z26 : List Value := [.slice none 0 0]
theorem info26 : (Try.prog.info? 26).map (fun i => (i.zero, i.size, i.bytes)) = some (some (.slice none 0 0), 1, 24) := by kernel_rfl
theorem size26 : (Try.prog.info? 26).map (·.size) = some 1 := by kernel_rfl
theorem zero26 : (Try.prog.info? 26).map (·.zero) = some (some (.slice none 0 0)) := by kernel_rfl
theorem zs26 : (Try.prog.info? 26).map (fun i => (i.zero, i.size)) = some (some (.slice none 0 0), 1) := by kernel_rfl
theorem plain26 : Program.plainCell Try.prog 26 = true := by kernel_rfl
abbrev z27 : List Value := [.slice none 0 0]
theorem info27 : (Try.prog.info? 27).map (fun i => (i.zero, i.size, i.bytes)) = some (some (.slice none 0 0), 1, 24) := by kernel_rfl
theorem size27 : (Try.prog.info? 27).map (·.size) = some 1 := by kernel_rfl
theorem zero27 : (Try.prog.info? 27).map (·.zero) = some (some (.slice none 0 0)) := by kernel_rfl
theorem zs27 : (Try.prog.info? 27).map (fun i => (i.zero, i.size)) = some (some (.slice none 0 0), 1) := by kernel_rfl
theorem plain27 : Program.plainCell Try.prog 27 = true := by kernel_rfl
abbrev z28 : List Value := [.int .u64 0]
theorem info28 : (Try.prog.info? 28).map (fun i => (i.zero, i.size, i.bytes)) = some (some (.int .u64 0), 1, 8) := by kernel_rfl
theorem size28 : (Try.prog.info? 28).map (·.size) = some 1 := by kernel_rfl
theorem zero28 : (Try.prog.info? 28).map (·.zero) = some (some (.int .u64 0)) := by kernel_rfl
theorem zs28 : (Try.prog.info? 28).map (fun i => (i.zero, i.size)) = some (some (.int .u64 0), 1) := by kernel_rfl
theorem plain28 : Program.plainCell Try.prog 28 = true := by kernel_rfl
abbrev z29 : List Value := List.replicate 32 (.int .u8 0)
theorem info29 : (Try.prog.info? 29).map (fun i => (i.zero, i.size, i.bytes)) = some (some (.agg z29.toArray), 32, 32) := by kernel_rfl
theorem size29 : (Try.prog.info? 29).map (·.size) = some 32 := by kernel_rfl
theorem zero29 : (Try.prog.info? 29).map (·.zero) = some (some (.agg z29.toArray)) := by kernel_rfl
theorem zs29 : (Try.prog.info? 29).map (fun i => (i.zero, i.size)) = some (some (.agg z29.toArray), 32) := by kernel_rfl
abbrev z30 : List Value := [.int .i64 0] ++ ([.int .u64 0] ++ (List.replicate 32 (.int .u8 0) ++ ([.slice none 0 0] ++ ([.int .i64 0]))))
theorem info30 : (Try.prog.info? 30).map (fun i => (i.zero, i.size, i.bytes)) = some (some (.agg z30.toArray), 36, 80) := by kernel_rfl
theorem size30 : (Try.prog.info? 30).map (·.size) = some 36 := by kernel_rfl
theorem zero30 : (Try.prog.info? 30).map (·.zero) = some (some (.agg z30.toArray)) := by kernel_rfl
theorem zs30 : (Try.prog.info? 30).map (fun i => (i.zero, i.size)) = some (some (.agg z30.toArray), 36) := by kernel_rfl
abbrev z31 : List Value := [.int .i64 0] ++ ([.int .u64 0] ++ (List.replicate 32 (.int .u8 0) ++ ([.slice none 0 0] ++ ([.int .i64 0]))))
theorem info31 : (Try.prog.info? 31).map (fun i => (i.zero, i.size, i.bytes)) = some (some (.agg z31.toArray), 36, 80) := by kernel_rfl
theorem size31 : (Try.prog.info? 31).map (·.size) = some 36 := by kernel_rfl
theorem zero31 : (Try.prog.info? 31).map (·.zero) = some (some (.agg z31.toArray)) := by kernel_rfl
theorem zs31 : (Try.prog.info? 31).map (fun i => (i.zero, i.size)) = some (some (.agg z31.toArray), 36) := by kernel_rfl
abbrev z36 : List Value := [.slice none 0 0]
theorem info36 : (Try.prog.info? 36).map (fun i => (i.zero, i.size, i.bytes)) = some (some (.slice none 0 0), 1, 24) := by kernel_rfl
theorem size36 : (Try.prog.info? 36).map (·.size) = some 1 := by kernel_rfl
theorem zero36 : (Try.prog.info? 36).map (·.zero) = some (some (.slice none 0 0)) := by kernel_rfl
theorem zs36 : (Try.prog.info? 36).map (fun i => (i.zero, i.size)) = some (some (.slice none 0 0), 1) := by kernel_rfl
theorem plain36 : Program.plainCell Try.prog 36 = true := by kernel_rfl
abbrev z37 : List Value := [.slice none 0 0]
theorem info37 : (Try.prog.info? 37).map (fun i => (i.zero, i.size, i.bytes)) = some (some (.slice none 0 0), 1, 24) := by kernel_rfl
theorem size37 : (Try.prog.info? 37).map (·.size) = some 1 := by kernel_rfl
theorem zero37 : (Try.prog.info? 37).map (·.zero) = some (some (.slice none 0 0)) := by kernel_rfl
theorem zs37 : (Try.prog.info? 37).map (fun i => (i.zero, i.size)) = some (some (.slice none 0 0), 1) := by kernel_rfl
theorem plain37 : Program.plainCell Try.prog 37 = true := by kernel_rfl
abbrev z38 : List Value := [.slice none 0 0]
theorem info38 : (Try.prog.info? 38).map (fun i => (i.zero, i.size, i.bytes)) = some (some (.slice none 0 0), 1, 24) := by kernel_rfl
theorem size38 : (Try.prog.info? 38).map (·.size) = some 1 := by kernel_rfl
theorem zero38 : (Try.prog.info? 38).map (·.zero) = some (some (.slice none 0 0)) := by kernel_rfl
theorem zs38 : (Try.prog.info? 38).map (fun i => (i.zero, i.size)) = some (some (.slice none 0 0), 1) := by kernel_rfl
theorem plain38 : Program.plainCell Try.prog 38 = true := by kernel_rfl
abbrev z40 : List Value := [.int .u32 0]
theorem info40 : (Try.prog.info? 40).map (fun i => (i.zero, i.size, i.bytes)) = some (some (.int .u32 0), 1, 4) := by kernel_rfl
theorem size40 : (Try.prog.info? 40).map (·.size) = some 1 := by kernel_rfl
theorem zero40 : (Try.prog.info? 40).map (·.zero) = some (some (.int .u32 0)) := by kernel_rfl
theorem zs40 : (Try.prog.info? 40).map (fun i => (i.zero, i.size)) = some (some (.int .u32 0), 1) := by kernel_rfl
theorem plain40 : Program.plainCell Try.prog 40 = true := by kernel_rfl
abbrev z44 : List Value := [.int .u64 0] ++ ([.int .i64 0] ++ ([.int .u64 0] ++ (List.replicate 32 (.int .u8 0) ++ ([.int .u64 0]))))
theorem info44 : (Try.prog.info? 44).map (fun i => (i.zero, i.size, i.bytes)) = some (some (.agg z44.toArray), 36, 64) := by kernel_rfl
theorem size44 : (Try.prog.info? 44).map (·.size) = some 36 := by kernel_rfl
theorem zero44 : (Try.prog.info? 44).map (·.zero) = some (some (.agg z44.toArray)) := by kernel_rfl
theorem zs44 : (Try.prog.info? 44).map (fun i => (i.zero, i.size)) = some (some (.agg z44.toArray), 36) := by kernel_rfl
abbrev z45 : List Value := [.int .u64 0] ++ ([.int .i64 0] ++ ([.int .u64 0] ++ (List.replicate 32 (.int .u8 0) ++ ([.int .u64 0]))))
theorem info45 : (Try.prog.info? 45).map (fun i => (i.zero, i.size, i.bytes)) = some (some (.agg z45.toArray), 36, 64) := by kernel_rfl
theorem size45 : (Try.prog.info? 45).map (·.size) = some 36 := by kernel_rfl
theorem zero45 : (Try.prog.info? 45).map (·.zero) = some (some (.agg z45.toArray)) := by kernel_rfl
theorem zs45 : (Try.prog.info? 45).map (fun i => (i.zero, i.size)) = some (some (.agg z45.toArray), 36) := by kernel_rfl
abbrev z46 : List Value := [.int .i64 0] ++ ([.int .u64 0, .int .u64 0] ++ ([.int .i64 0] ++ ([.int .u64 0] ++ (List.replicate 32 (.int .u8 0) ++ ([.int .u64 0, .int .u64 0])))))
theorem info46 : (Try.prog.info? 46).map (fun i => (i.zero, i.size, i.bytes)) = some (some (.agg z46.toArray), 39, 88) := by kernel_rfl
theorem size46 : (Try.prog.info? 46).map (·.size) = some 39 := by kernel_rfl
theorem zero46 : (Try.prog.info? 46).map (·.zero) = some (some (.agg z46.toArray)) := by kernel_rfl
theorem zs46 : (Try.prog.info? 46).map (fun i => (i.zero, i.size)) = some (some (.agg z46.toArray), 39) := by kernel_rfl
abbrev z47 : List Value := [.int .i64 0] ++ ([.int .u64 0, .int .u64 0] ++ ([.int .i64 0] ++ ([.int .u64 0] ++ (List.replicate 32 (.int .u8 0) ++ ([.int .u64 0, .int .u64 0])))))
theorem info47 : (Try.prog.info? 47).map (fun i => (i.zero, i.size, i.bytes)) = some (some (.agg z47.toArray), 39, 88) := by kernel_rfl
theorem size47 : (Try.prog.info? 47).map (·.size) = some 39 := by kernel_rfl
theorem zero47 : (Try.prog.info? 47).map (·.zero) = some (some (.agg z47.toArray)) := by kernel_rfl
theorem zs47 : (Try.prog.info? 47).map (fun i => (i.zero, i.size)) = some (some (.agg z47.toArray), 39) := by kernel_rfl
abbrev z48 : List Value := [.slice none 0 0]
theorem info48 : (Try.prog.info? 48).map (fun i => (i.zero, i.size, i.bytes)) = some (some (.slice none 0 0), 1, 24) := by kernel_rfl
theorem size48 : (Try.prog.info? 48).map (·.size) = some 1 := by kernel_rfl
theorem zero48 : (Try.prog.info? 48).map (·.zero) = some (some (.slice none 0 0)) := by kernel_rfl
theorem zs48 : (Try.prog.info? 48).map (fun i => (i.zero, i.size)) = some (some (.slice none 0 0), 1) := by kernel_rfl
theorem plain48 : Program.plainCell Try.prog 48 = true := by kernel_rfl
abbrev z49 : List Value := List.replicate 16 (.int .u8 0)
theorem info49 : (Try.prog.info? 49).map (fun i => (i.zero, i.size, i.bytes)) = some (some (.agg z49.toArray), 16, 16) := by kernel_rfl
theorem size49 : (Try.prog.info? 49).map (·.size) = some 16 := by kernel_rfl
theorem zero49 : (Try.prog.info? 49).map (·.zero) = some (some (.agg z49.toArray)) := by kernel_rfl
theorem zs49 : (Try.prog.info? 49).map (fun i => (i.zero, i.size)) = some (some (.agg z49.toArray), 16) := by kernel_rfl
abbrev z50 : List Value := List.replicate 16 (.int .u8 0)
theorem info50 : (Try.prog.info? 50).map (fun i => (i.zero, i.size, i.bytes)) = some (some (.agg z50.toArray), 16, 16) := by kernel_rfl
theorem size50 : (Try.prog.info? 50).map (·.size) = some 16 := by kernel_rfl
theorem zero50 : (Try.prog.info? 50).map (·.zero) = some (some (.agg z50.toArray)) := by kernel_rfl
theorem zs50 : (Try.prog.info? 50).map (fun i => (i.zero, i.size)) = some (some (.agg z50.toArray), 16) := by kernel_rfl
abbrev z51 : List Value := List.replicate 512 (.int .u8 0)
theorem info51 : (Try.prog.info? 51).map (fun i => (i.zero, i.size, i.bytes)) = some (some (.agg z51.toArray), 512, 512) := by kernel_rfl
theorem size51 : (Try.prog.info? 51).map (·.size) = some 512 := by kernel_rfl
theorem zero51 : (Try.prog.info? 51).map (·.zero) = some (some (.agg z51.toArray)) := by kernel_rfl
theorem zs51 : (Try.prog.info? 51).map (fun i => (i.zero, i.size)) = some (some (.agg z51.toArray), 512) := by kernel_rfl
abbrev z52 : List Value := List.replicate 1024 (.int .u8 0)
theorem info52 : (Try.prog.info? 52).map (fun i => (i.zero, i.size, i.bytes)) = some (some (.agg z52.toArray), 1024, 1024) := by kernel_rfl
theorem size52 : (Try.prog.info? 52).map (·.size) = some 1024 := by kernel_rfl
theorem zero52 : (Try.prog.info? 52).map (·.zero) = some (some (.agg z52.toArray)) := by kernel_rfl
theorem zs52 : (Try.prog.info? 52).map (fun i => (i.zero, i.size)) = some (some (.agg z52.toArray), 1024) := by kernel_rfl
abbrev z53 : List Value := List.replicate 1024 (.int .u8 0)
theorem info53 : (Try.prog.info? 53).map (fun i => (i.zero, i.size, i.bytes)) = some (some (.agg z53.toArray), 1024, 1024) := by kernel_rfl
theorem size53 : (Try.prog.info? 53).map (·.size) = some 1024 := by kernel_rfl
theorem zero53 : (Try.prog.info? 53).map (·.zero) = some (some (.agg z53.toArray)) := by kernel_rfl
theorem zs53 : (Try.prog.info? 53).map (fun i => (i.zero, i.size)) = some (some (.agg z53.toArray), 1024) := by kernel_rfl
abbrev z54 : List Value := List.replicate 1024 (.int .u8 0) ++ ([.int .u32 0] ++ ([.slice none 0 0]))
theorem info54 : (Try.prog.info? 54).map (fun i => (i.zero, i.size, i.bytes)) = some (some (.agg z54.toArray), 1026, 1056) := by kernel_rfl
theorem size54 : (Try.prog.info? 54).map (·.size) = some 1026 := by kernel_rfl
theorem zero54 : (Try.prog.info? 54).map (·.zero) = some (some (.agg z54.toArray)) := by kernel_rfl
theorem zs54 : (Try.prog.info? 54).map (fun i => (i.zero, i.size)) = some (some (.agg z54.toArray), 1026) := by kernel_rfl
abbrev z55 : List Value := List.replicate 1024 (.int .u8 0) ++ ([.int .u32 0] ++ ([.slice none 0 0]))
theorem info55 : (Try.prog.info? 55).map (fun i => (i.zero, i.size, i.bytes)) = some (some (.agg z55.toArray), 1026, 1056) := by kernel_rfl
theorem size55 : (Try.prog.info? 55).map (·.size) = some 1026 := by kernel_rfl
theorem zero55 : (Try.prog.info? 55).map (·.zero) = some (some (.agg z55.toArray)) := by kernel_rfl
theorem zs55 : (Try.prog.info? 55).map (fun i => (i.zero, i.size)) = some (some (.agg z55.toArray), 1026) := by kernel_rfl
abbrev z56 : List Value := [.int .i64 0] ++ ([.int .u32 0] ++ ([.int .u64 0] ++ ([.int .i64 0] ++ ([.int .u64 0, .int .u64 0] ++ ([.int .i64 0] ++ ([.int .u64 0] ++ (List.replicate 32 (.int .u8 0) ++ ([.int .u64 0, .int .u64 0] ++ ([.slice none 0 0] ++ (List.replicate 1024 (.int .u8 0) ++ ([.int .u32 0] ++ ([.slice none 0 0]))))))))))))
theorem info56 : (Try.prog.info? 56).map (fun i => (i.zero, i.size, i.bytes)) = some (some (.agg z56.toArray), 1069, 1192) := by kernel_rfl
theorem size56 : (Try.prog.info? 56).map (·.size) = some 1069 := by kernel_rfl
theorem zero56 : (Try.prog.info? 56).map (·.zero) = some (some (.agg z56.toArray)) := by kernel_rfl
theorem zs56 : (Try.prog.info? 56).map (fun i => (i.zero, i.size)) = some (some (.agg z56.toArray), 1069) := by kernel_rfl
abbrev z57 : List Value := [.int .i64 0] ++ ([.int .u32 0] ++ ([.int .u64 0] ++ ([.int .i64 0] ++ ([.int .u64 0, .int .u64 0] ++ ([.int .i64 0] ++ ([.int .u64 0] ++ (List.replicate 32 (.int .u8 0) ++ ([.int .u64 0, .int .u64 0] ++ ([.slice none 0 0] ++ (List.replicate 1024 (.int .u8 0) ++ ([.int .u32 0] ++ ([.slice none 0 0]))))))))))))
theorem info57 : (Try.prog.info? 57).map (fun i => (i.zero, i.size, i.bytes)) = some (some (.agg z57.toArray), 1069, 1192) := by kernel_rfl
theorem size57 : (Try.prog.info? 57).map (·.size) = some 1069 := by kernel_rfl
theorem zero57 : (Try.prog.info? 57).map (·.zero) = some (some (.agg z57.toArray)) := by kernel_rfl
theorem zs57 : (Try.prog.info? 57).map (fun i => (i.zero, i.size)) = some (some (.agg z57.toArray), 1069) := by kernel_rfl
abbrev z59 : List Value := [.int .i64 0]
theorem info59 : (Try.prog.info? 59).map (fun i => (i.zero, i.size, i.bytes)) = some (some (.int .i64 0), 1, 8) := by kernel_rfl
theorem size59 : (Try.prog.info? 59).map (·.size) = some 1 := by kernel_rfl
theorem zero59 : (Try.prog.info? 59).map (·.zero) = some (some (.int .i64 0)) := by kernel_rfl
theorem zs59 : (Try.prog.info? 59).map (fun i => (i.zero, i.size)) = some (some (.int .i64 0), 1) := by kernel_rfl
theorem plain59 : Program.plainCell Try.prog 59 = true := by kernel_rfl
abbrev z61 : List Value := [.int .i64 0]
theorem info61 : (Try.prog.info? 61).map (fun i => (i.zero, i.size, i.bytes)) = some (some (.int .i64 0), 1, 8) := by kernel_rfl
theorem size61 : (Try.prog.info? 61).map (·.size) = some 1 := by kernel_rfl
theorem zero61 : (Try.prog.info? 61).map (·.zero) = some (some (.int .i64 0)) := by kernel_rfl
theorem zs61 : (Try.prog.info? 61).map (fun i => (i.zero, i.size)) = some (some (.int .i64 0), 1) := by kernel_rfl
theorem plain61 : Program.plainCell Try.prog 61 = true := by kernel_rfl
abbrev z62 : List Value := List.replicate 32 (.int .u8 0)
theorem info62 : (Try.prog.info? 62).map (fun i => (i.zero, i.size, i.bytes)) = some (some (.agg z62.toArray), 32, 32) := by kernel_rfl
theorem size62 : (Try.prog.info? 62).map (·.size) = some 32 := by kernel_rfl
theorem zero62 : (Try.prog.info? 62).map (·.zero) = some (some (.agg z62.toArray)) := by kernel_rfl
theorem zs62 : (Try.prog.info? 62).map (fun i => (i.zero, i.size)) = some (some (.agg z62.toArray), 32) := by kernel_rfl
abbrev z63 : List Value := [.int .u64 0] ++ ([.int .i64 0] ++ ([.int .u64 0] ++ (List.replicate 32 (.int .u8 0) ++ ([.int .u64 0]))))
theorem info63 : (Try.prog.info? 63).map (fun i => (i.zero, i.size, i.bytes)) = some (some (.agg z63.toArray), 36, 64) := by kernel_rfl
theorem size63 : (Try.prog.info? 63).map (·.size) = some 36 := by kernel_rfl
theorem zero63 : (Try.prog.info? 63).map (·.zero) = some (some (.agg z63.toArray)) := by kernel_rfl
theorem zs63 : (Try.prog.info? 63).map (fun i => (i.zero, i.size)) = some (some (.agg z63.toArray), 36) := by kernel_rfl
abbrev z64 : List Value := [.int .u64 0] ++ ([.int .i64 0] ++ ([.int .u64 0] ++ (List.replicate 32 (.int .u8 0) ++ ([.int .u64 0]))))
theorem info64 : (Try.prog.info? 64).map (fun i => (i.zero, i.size, i.bytes)) = some (some (.agg z64.toArray), 36, 64) := by kernel_rfl
theorem size64 : (Try.prog.info? 64).map (·.size) = some 36 := by kernel_rfl
theorem zero64 : (Try.prog.info? 64).map (·.zero) = some (some (.agg z64.toArray)) := by kernel_rfl
theorem zs64 : (Try.prog.info? 64).map (fun i => (i.zero, i.size)) = some (some (.agg z64.toArray), 36) := by kernel_rfl
abbrev z65 : List Value := [.int .i64 0] ++ ([.int .u64 0, .int .u64 0] ++ ([.int .i64 0] ++ ([.int .u64 0] ++ (List.replicate 32 (.int .u8 0) ++ ([.int .u64 0, .int .u64 0])))))
theorem info65 : (Try.prog.info? 65).map (fun i => (i.zero, i.size, i.bytes)) = some (some (.agg z65.toArray), 39, 88) := by kernel_rfl
theorem size65 : (Try.prog.info? 65).map (·.size) = some 39 := by kernel_rfl
theorem zero65 : (Try.prog.info? 65).map (·.zero) = some (some (.agg z65.toArray)) := by kernel_rfl
theorem zs65 : (Try.prog.info? 65).map (fun i => (i.zero, i.size)) = some (some (.agg z65.toArray), 39) := by kernel_rfl
abbrev z66 : List Value := [.int .i64 0] ++ ([.int .u64 0, .int .u64 0] ++ ([.int .i64 0] ++ ([.int .u64 0] ++ (List.replicate 32 (.int .u8 0) ++ ([.int .u64 0, .int .u64 0])))))
theorem info66 : (Try.prog.info? 66).map (fun i => (i.zero, i.size, i.bytes)) = some (some (.agg z66.toArray), 39, 88) := by kernel_rfl
theorem size66 : (Try.prog.info? 66).map (·.size) = some 39 := by kernel_rfl
theorem zero66 : (Try.prog.info? 66).map (·.zero) = some (some (.agg z66.toArray)) := by kernel_rfl
theorem zs66 : (Try.prog.info? 66).map (fun i => (i.zero, i.size)) = some (some (.agg z66.toArray), 39) := by kernel_rfl
abbrev z67 : List Value := [.slice none 0 0]
theorem info67 : (Try.prog.info? 67).map (fun i => (i.zero, i.size, i.bytes)) = some (some (.slice none 0 0), 1, 24) := by kernel_rfl
theorem size67 : (Try.prog.info? 67).map (·.size) = some 1 := by kernel_rfl
theorem zero67 : (Try.prog.info? 67).map (·.zero) = some (some (.slice none 0 0)) := by kernel_rfl
theorem zs67 : (Try.prog.info? 67).map (fun i => (i.zero, i.size)) = some (some (.slice none 0 0), 1) := by kernel_rfl
theorem plain67 : Program.plainCell Try.prog 67 = true := by kernel_rfl
abbrev z68 : List Value := List.replicate 16 (.int .u8 0)
theorem info68 : (Try.prog.info? 68).map (fun i => (i.zero, i.size, i.bytes)) = some (some (.agg z68.toArray), 16, 16) := by kernel_rfl
theorem size68 : (Try.prog.info? 68).map (·.size) = some 16 := by kernel_rfl
theorem zero68 : (Try.prog.info? 68).map (·.zero) = some (some (.agg z68.toArray)) := by kernel_rfl
theorem zs68 : (Try.prog.info? 68).map (fun i => (i.zero, i.size)) = some (some (.agg z68.toArray), 16) := by kernel_rfl
abbrev z69 : List Value := List.replicate 512 (.int .u8 0)
theorem info69 : (Try.prog.info? 69).map (fun i => (i.zero, i.size, i.bytes)) = some (some (.agg z69.toArray), 512, 512) := by kernel_rfl
theorem size69 : (Try.prog.info? 69).map (·.size) = some 512 := by kernel_rfl
theorem zero69 : (Try.prog.info? 69).map (·.zero) = some (some (.agg z69.toArray)) := by kernel_rfl
theorem zs69 : (Try.prog.info? 69).map (fun i => (i.zero, i.size)) = some (some (.agg z69.toArray), 512) := by kernel_rfl
abbrev z70 : List Value := List.replicate 1024 (.int .u8 0)
theorem info70 : (Try.prog.info? 70).map (fun i => (i.zero, i.size, i.bytes)) = some (some (.agg z70.toArray), 1024, 1024) := by kernel_rfl
theorem size70 : (Try.prog.info? 70).map (·.size) = some 1024 := by kernel_rfl
theorem zero70 : (Try.prog.info? 70).map (·.zero) = some (some (.agg z70.toArray)) := by kernel_rfl
theorem zs70 : (Try.prog.info? 70).map (fun i => (i.zero, i.size)) = some (some (.agg z70.toArray), 1024) := by kernel_rfl
abbrev z71 : List Value := List.replicate 1024 (.int .u8 0)
theorem info71 : (Try.prog.info? 71).map (fun i => (i.zero, i.size, i.bytes)) = some (some (.agg z71.toArray), 1024, 1024) := by kernel_rfl
theorem size71 : (Try.prog.info? 71).map (·.size) = some 1024 := by kernel_rfl
theorem zero71 : (Try.prog.info? 71).map (·.zero) = some (some (.agg z71.toArray)) := by kernel_rfl
theorem zs71 : (Try.prog.info? 71).map (fun i => (i.zero, i.size)) = some (some (.agg z71.toArray), 1024) := by kernel_rfl
abbrev z72 : List Value := List.replicate 1024 (.int .u8 0) ++ ([.int .u32 0] ++ ([.slice none 0 0]))
theorem info72 : (Try.prog.info? 72).map (fun i => (i.zero, i.size, i.bytes)) = some (some (.agg z72.toArray), 1026, 1056) := by kernel_rfl
theorem size72 : (Try.prog.info? 72).map (·.size) = some 1026 := by kernel_rfl
theorem zero72 : (Try.prog.info? 72).map (·.zero) = some (some (.agg z72.toArray)) := by kernel_rfl
theorem zs72 : (Try.prog.info? 72).map (fun i => (i.zero, i.size)) = some (some (.agg z72.toArray), 1026) := by kernel_rfl
abbrev z73 : List Value := List.replicate 1024 (.int .u8 0) ++ ([.int .u32 0] ++ ([.slice none 0 0]))
theorem info73 : (Try.prog.info? 73).map (fun i => (i.zero, i.size, i.bytes)) = some (some (.agg z73.toArray), 1026, 1056) := by kernel_rfl
theorem size73 : (Try.prog.info? 73).map (·.size) = some 1026 := by kernel_rfl
theorem zero73 : (Try.prog.info? 73).map (·.zero) = some (some (.agg z73.toArray)) := by kernel_rfl
theorem zs73 : (Try.prog.info? 73).map (fun i => (i.zero, i.size)) = some (some (.agg z73.toArray), 1026) := by kernel_rfl
abbrev z74 : List Value := [.int .i64 0] ++ ([.int .u32 0] ++ ([.int .u64 0] ++ ([.int .i64 0] ++ ([.int .u64 0, .int .u64 0] ++ ([.int .i64 0] ++ ([.int .u64 0] ++ (List.replicate 32 (.int .u8 0) ++ ([.int .u64 0, .int .u64 0] ++ ([.slice none 0 0] ++ (List.replicate 1024 (.int .u8 0) ++ ([.int .u32 0] ++ ([.slice none 0 0]))))))))))))
theorem info74 : (Try.prog.info? 74).map (fun i => (i.zero, i.size, i.bytes)) = some (some (.agg z74.toArray), 1069, 1192) := by kernel_rfl
theorem size74 : (Try.prog.info? 74).map (·.size) = some 1069 := by kernel_rfl
theorem zero74 : (Try.prog.info? 74).map (·.zero) = some (some (.agg z74.toArray)) := by kernel_rfl
theorem zs74 : (Try.prog.info? 74).map (fun i => (i.zero, i.size)) = some (some (.agg z74.toArray), 1069) := by kernel_rfl
abbrev z75 : List Value := [.int .i64 0] ++ ([.int .u32 0] ++ ([.int .u64 0] ++ ([.int .i64 0] ++ ([.int .u64 0, .int .u64 0] ++ ([.int .i64 0] ++ ([.int .u64 0] ++ (List.replicate 32 (.int .u8 0) ++ ([.int .u64 0, .int .u64 0] ++ ([.slice none 0 0] ++ (List.replicate 1024 (.int .u8 0) ++ ([.int .u32 0] ++ ([.slice none 0 0]))))))))))))
theorem info75 : (Try.prog.info? 75).map (fun i => (i.zero, i.size, i.bytes)) = some (some (.agg z75.toArray), 1069, 1192) := by kernel_rfl
theorem size75 : (Try.prog.info? 75).map (·.size) = some 1069 := by kernel_rfl
theorem zero75 : (Try.prog.info? 75).map (·.zero) = some (some (.agg z75.toArray)) := by kernel_rfl
theorem zs75 : (Try.prog.info? 75).map (fun i => (i.zero, i.size)) = some (some (.agg z75.toArray), 1069) := by kernel_rfl
abbrev z78 : List Value := [.int .u32 0] ++ ([.int .u64 0, .int .u64 0])
theorem info78 : (Try.prog.info? 78).map (fun i => (i.zero, i.size, i.bytes)) = some (some (.agg z78.toArray), 3, 24) := by kernel_rfl
theorem size78 : (Try.prog.info? 78).map (·.size) = some 3 := by kernel_rfl
theorem zero78 : (Try.prog.info? 78).map (·.zero) = some (some (.agg z78.toArray)) := by kernel_rfl
theorem zs78 : (Try.prog.info? 78).map (fun i => (i.zero, i.size)) = some (some (.agg z78.toArray), 3) := by kernel_rfl
abbrev z79 : List Value := [.int .u32 0] ++ ([.int .u64 0, .int .u64 0])
theorem info79 : (Try.prog.info? 79).map (fun i => (i.zero, i.size, i.bytes)) = some (some (.agg z79.toArray), 3, 24) := by kernel_rfl
theorem size79 : (Try.prog.info? 79).map (·.size) = some 3 := by kernel_rfl
theorem zero79 : (Try.prog.info? 79).map (·.zero) = some (some (.agg z79.toArray)) := by kernel_rfl
theorem zs79 : (Try.prog.info? 79).map (fun i => (i.zero, i.size)) = some (some (.agg z79.toArray), 3) := by kernel_rfl
abbrev z81 : List Value := [.pointer none]
theorem info81 : (Try.prog.info? 81).map (fun i => (i.zero, i.size, i.bytes)) = some (some (.pointer none), 1, 8) := by kernel_rfl
theorem size81 : (Try.prog.info? 81).map (·.size) = some 1 := by kernel_rfl
theorem zero81 : (Try.prog.info? 81).map (·.zero) = some (some (.pointer none)) := by kernel_rfl
theorem zs81 : (Try.prog.info? 81).map (fun i => (i.zero, i.size)) = some (some (.pointer none), 1) := by kernel_rfl
theorem plain81 : Program.plainCell Try.prog 81 = true := by kernel_rfl
abbrev z85 : List Value := List.replicate 32 (.int .u8 0)
theorem info85 : (Try.prog.info? 85).map (fun i => (i.zero, i.size, i.bytes)) = some (some (.agg z85.toArray), 32, 32) := by kernel_rfl
theorem size85 : (Try.prog.info? 85).map (·.size) = some 32 := by kernel_rfl
theorem zero85 : (Try.prog.info? 85).map (·.zero) = some (some (.agg z85.toArray)) := by kernel_rfl
theorem zs85 : (Try.prog.info? 85).map (fun i => (i.zero, i.size)) = some (some (.agg z85.toArray), 32) := by kernel_rfl
abbrev z100 : List Value := [.string ByteArray.empty, .string ByteArray.empty]
theorem info100 : (Try.prog.info? 100).map (fun i => (i.zero, i.size, i.bytes)) = some (some (.agg z100.toArray), 2, 32) := by kernel_rfl
theorem size100 : (Try.prog.info? 100).map (·.size) = some 2 := by kernel_rfl
theorem zero100 : (Try.prog.info? 100).map (·.zero) = some (some (.agg z100.toArray)) := by kernel_rfl
theorem zs100 : (Try.prog.info? 100).map (fun i => (i.zero, i.size)) = some (some (.agg z100.toArray), 2) := by kernel_rfl
abbrev z101 : List Value := [.string ByteArray.empty, .string ByteArray.empty]
theorem info101 : (Try.prog.info? 101).map (fun i => (i.zero, i.size, i.bytes)) = some (some (.agg z101.toArray), 2, 32) := by kernel_rfl
theorem size101 : (Try.prog.info? 101).map (·.size) = some 2 := by kernel_rfl
theorem zero101 : (Try.prog.info? 101).map (·.zero) = some (some (.agg z101.toArray)) := by kernel_rfl
theorem zs101 : (Try.prog.info? 101).map (fun i => (i.zero, i.size)) = some (some (.agg z101.toArray), 2) := by kernel_rfl
abbrev z105 : List Value := [.slice none 0 0]
theorem info105 : (Try.prog.info? 105).map (fun i => (i.zero, i.size, i.bytes)) = some (some (.slice none 0 0), 1, 24) := by kernel_rfl
theorem size105 : (Try.prog.info? 105).map (·.size) = some 1 := by kernel_rfl
theorem zero105 : (Try.prog.info? 105).map (·.zero) = some (some (.slice none 0 0)) := by kernel_rfl
theorem zs105 : (Try.prog.info? 105).map (fun i => (i.zero, i.size)) = some (some (.slice none 0 0), 1) := by kernel_rfl
theorem plain105 : Program.plainCell Try.prog 105 = true := by kernel_rfl
abbrev z106 : List Value := [.pointer none]
theorem info106 : (Try.prog.info? 106).map (fun i => (i.zero, i.size, i.bytes)) = some (some (.pointer none), 1, 8) := by kernel_rfl
theorem size106 : (Try.prog.info? 106).map (·.size) = some 1 := by kernel_rfl
theorem zero106 : (Try.prog.info? 106).map (·.zero) = some (some (.pointer none)) := by kernel_rfl
theorem zs106 : (Try.prog.info? 106).map (fun i => (i.zero, i.size)) = some (some (.pointer none), 1) := by kernel_rfl
theorem plain106 : Program.plainCell Try.prog 106 = true := by kernel_rfl
abbrev z117 : List Value := [.map none]
theorem info117 : (Try.prog.info? 117).map (fun i => (i.zero, i.size, i.bytes)) = some (some (.map none), 1, 8) := by kernel_rfl
theorem size117 : (Try.prog.info? 117).map (·.size) = some 1 := by kernel_rfl
theorem zero117 : (Try.prog.info? 117).map (·.zero) = some (some (.map none)) := by kernel_rfl
theorem zs117 : (Try.prog.info? 117).map (fun i => (i.zero, i.size)) = some (some (.map none), 1) := by kernel_rfl
theorem plain117 : Program.plainCell Try.prog 117 = true := by kernel_rfl
abbrev z118 : List Value := [.map none] ++ ([.bool false])
theorem info118 : (Try.prog.info? 118).map (fun i => (i.zero, i.size, i.bytes)) = some (some (.agg z118.toArray), 2, 16) := by kernel_rfl
theorem size118 : (Try.prog.info? 118).map (·.size) = some 2 := by kernel_rfl
theorem zero118 : (Try.prog.info? 118).map (·.zero) = some (some (.agg z118.toArray)) := by kernel_rfl
theorem zs118 : (Try.prog.info? 118).map (fun i => (i.zero, i.size)) = some (some (.agg z118.toArray), 2) := by kernel_rfl
abbrev z119 : List Value := [.map none] ++ ([.bool false])
theorem info119 : (Try.prog.info? 119).map (fun i => (i.zero, i.size, i.bytes)) = some (some (.agg z119.toArray), 2, 16) := by kernel_rfl
theorem size119 : (Try.prog.info? 119).map (·.size) = some 2 := by kernel_rfl
theorem zero119 : (Try.prog.info? 119).map (·.zero) = some (some (.agg z119.toArray)) := by kernel_rfl
theorem zs119 : (Try.prog.info? 119).map (fun i => (i.zero, i.size)) = some (some (.agg z119.toArray), 2) := by kernel_rfl
abbrev z120 : List Value := [.slice none 0 0]
theorem info120 : (Try.prog.info? 120).map (fun i => (i.zero, i.size, i.bytes)) = some (some (.slice none 0 0), 1, 24) := by kernel_rfl
theorem size120 : (Try.prog.info? 120).map (·.size) = some 1 := by kernel_rfl
theorem zero120 : (Try.prog.info? 120).map (·.zero) = some (some (.slice none 0 0)) := by kernel_rfl
theorem zs120 : (Try.prog.info? 120).map (fun i => (i.zero, i.size)) = some (some (.slice none 0 0), 1) := by kernel_rfl
theorem plain120 : Program.plainCell Try.prog 120 = true := by kernel_rfl
abbrev z121 : List Value := [.slice none 0 0]
theorem info121 : (Try.prog.info? 121).map (fun i => (i.zero, i.size, i.bytes)) = some (some (.slice none 0 0), 1, 24) := by kernel_rfl
theorem size121 : (Try.prog.info? 121).map (·.size) = some 1 := by kernel_rfl
theorem zero121 : (Try.prog.info? 121).map (·.zero) = some (some (.slice none 0 0)) := by kernel_rfl
theorem zs121 : (Try.prog.info? 121).map (fun i => (i.zero, i.size)) = some (some (.slice none 0 0), 1) := by kernel_rfl
theorem plain121 : Program.plainCell Try.prog 121 = true := by kernel_rfl
abbrev z122 : List Value := List.replicate 4 (.int .u8 0)
theorem info122 : (Try.prog.info? 122).map (fun i => (i.zero, i.size, i.bytes)) = some (some (.agg z122.toArray), 4, 4) := by kernel_rfl
theorem size122 : (Try.prog.info? 122).map (·.size) = some 4 := by kernel_rfl
theorem zero122 : (Try.prog.info? 122).map (·.zero) = some (some (.agg z122.toArray)) := by kernel_rfl
theorem zs122 : (Try.prog.info? 122).map (fun i => (i.zero, i.size)) = some (some (.agg z122.toArray), 4) := by kernel_rfl
abbrev z124 : List Value := [.pointer none]
theorem info124 : (Try.prog.info? 124).map (fun i => (i.zero, i.size, i.bytes)) = some (some (.pointer none), 1, 8) := by kernel_rfl
theorem size124 : (Try.prog.info? 124).map (·.size) = some 1 := by kernel_rfl
theorem zero124 : (Try.prog.info? 124).map (·.zero) = some (some (.pointer none)) := by kernel_rfl
theorem zs124 : (Try.prog.info? 124).map (fun i => (i.zero, i.size)) = some (some (.pointer none), 1) := by kernel_rfl
theorem plain124 : Program.plainCell Try.prog 124 = true := by kernel_rfl
abbrev z126 : List Value := List.replicate 32 (.int .u8 0) ++ ([.int .u32 0])
theorem info126 : (Try.prog.info? 126).map (fun i => (i.zero, i.size, i.bytes)) = some (some (.agg z126.toArray), 33, 36) := by kernel_rfl
theorem size126 : (Try.prog.info? 126).map (·.size) = some 33 := by kernel_rfl
theorem zero126 : (Try.prog.info? 126).map (·.zero) = some (some (.agg z126.toArray)) := by kernel_rfl
theorem zs126 : (Try.prog.info? 126).map (fun i => (i.zero, i.size)) = some (some (.agg z126.toArray), 33) := by kernel_rfl
abbrev z127 : List Value := List.replicate 32 (.int .u8 0) ++ ([.int .u32 0])
theorem info127 : (Try.prog.info? 127).map (fun i => (i.zero, i.size, i.bytes)) = some (some (.agg z127.toArray), 33, 36) := by kernel_rfl
theorem size127 : (Try.prog.info? 127).map (·.size) = some 33 := by kernel_rfl
theorem zero127 : (Try.prog.info? 127).map (·.zero) = some (some (.agg z127.toArray)) := by kernel_rfl
theorem zs127 : (Try.prog.info? 127).map (fun i => (i.zero, i.size)) = some (some (.agg z127.toArray), 33) := by kernel_rfl
abbrev z138 : List Value := [.int .u16 0]
theorem info138 : (Try.prog.info? 138).map (fun i => (i.zero, i.size, i.bytes)) = some (some (.int .u16 0), 1, 2) := by kernel_rfl
theorem size138 : (Try.prog.info? 138).map (·.size) = some 1 := by kernel_rfl
theorem zero138 : (Try.prog.info? 138).map (·.zero) = some (some (.int .u16 0)) := by kernel_rfl
theorem zs138 : (Try.prog.info? 138).map (fun i => (i.zero, i.size)) = some (some (.int .u16 0), 1) := by kernel_rfl
theorem plain138 : Program.plainCell Try.prog 138 = true := by kernel_rfl
abbrev z145 : List Value := [.pointer none]
theorem info145 : (Try.prog.info? 145).map (fun i => (i.zero, i.size, i.bytes)) = some (some (.pointer none), 1, 8) := by kernel_rfl
theorem size145 : (Try.prog.info? 145).map (·.size) = some 1 := by kernel_rfl
theorem zero145 : (Try.prog.info? 145).map (·.zero) = some (some (.pointer none)) := by kernel_rfl
theorem zs145 : (Try.prog.info? 145).map (fun i => (i.zero, i.size)) = some (some (.pointer none), 1) := by kernel_rfl
theorem plain145 : Program.plainCell Try.prog 145 = true := by kernel_rfl
abbrev z146 : List Value := [.slice none 0 0] ++ ([.int .i64 0, .int .i64 0])
theorem info146 : (Try.prog.info? 146).map (fun i => (i.zero, i.size, i.bytes)) = some (some (.agg z146.toArray), 3, 40) := by kernel_rfl
theorem size146 : (Try.prog.info? 146).map (·.size) = some 3 := by kernel_rfl
theorem zero146 : (Try.prog.info? 146).map (·.zero) = some (some (.agg z146.toArray)) := by kernel_rfl
theorem zs146 : (Try.prog.info? 146).map (fun i => (i.zero, i.size)) = some (some (.agg z146.toArray), 3) := by kernel_rfl
abbrev z147 : List Value := [.slice none 0 0] ++ ([.int .i64 0, .int .i64 0])
theorem info147 : (Try.prog.info? 147).map (fun i => (i.zero, i.size, i.bytes)) = some (some (.agg z147.toArray), 3, 40) := by kernel_rfl
theorem size147 : (Try.prog.info? 147).map (·.size) = some 3 := by kernel_rfl
theorem zero147 : (Try.prog.info? 147).map (·.zero) = some (some (.agg z147.toArray)) := by kernel_rfl
theorem zs147 : (Try.prog.info? 147).map (fun i => (i.zero, i.size)) = some (some (.agg z147.toArray), 3) := by kernel_rfl
abbrev z159 : List Value := [.int .u32 0] ++ ([.int .u64 0, .int .u64 0])
theorem info159 : (Try.prog.info? 159).map (fun i => (i.zero, i.size, i.bytes)) = some (some (.agg z159.toArray), 3, 24) := by kernel_rfl
theorem size159 : (Try.prog.info? 159).map (·.size) = some 3 := by kernel_rfl
theorem zero159 : (Try.prog.info? 159).map (·.zero) = some (some (.agg z159.toArray)) := by kernel_rfl
theorem zs159 : (Try.prog.info? 159).map (fun i => (i.zero, i.size)) = some (some (.agg z159.toArray), 3) := by kernel_rfl
abbrev z160 : List Value := [.slice none 0 0] ++ ([.int .i64 0])
theorem info160 : (Try.prog.info? 160).map (fun i => (i.zero, i.size, i.bytes)) = some (some (.agg z160.toArray), 2, 32) := by kernel_rfl
theorem size160 : (Try.prog.info? 160).map (·.size) = some 2 := by kernel_rfl
theorem zero160 : (Try.prog.info? 160).map (·.zero) = some (some (.agg z160.toArray)) := by kernel_rfl
theorem zs160 : (Try.prog.info? 160).map (fun i => (i.zero, i.size)) = some (some (.agg z160.toArray), 2) := by kernel_rfl
abbrev z161 : List Value := [.slice none 0 0] ++ ([.int .i64 0])
theorem info161 : (Try.prog.info? 161).map (fun i => (i.zero, i.size, i.bytes)) = some (some (.agg z161.toArray), 2, 32) := by kernel_rfl
theorem size161 : (Try.prog.info? 161).map (·.size) = some 2 := by kernel_rfl
theorem zero161 : (Try.prog.info? 161).map (·.zero) = some (some (.agg z161.toArray)) := by kernel_rfl
theorem zs161 : (Try.prog.info? 161).map (fun i => (i.zero, i.size)) = some (some (.agg z161.toArray), 2) := by kernel_rfl
abbrev z173 : List Value := List.replicate 8 (.int .u32 0)
theorem info173 : (Try.prog.info? 173).map (fun i => (i.zero, i.size, i.bytes)) = some (some (.agg z173.toArray), 8, 32) := by kernel_rfl
theorem size173 : (Try.prog.info? 173).map (·.size) = some 8 := by kernel_rfl
theorem zero173 : (Try.prog.info? 173).map (·.zero) = some (some (.agg z173.toArray)) := by kernel_rfl
theorem zs173 : (Try.prog.info? 173).map (fun i => (i.zero, i.size)) = some (some (.agg z173.toArray), 8) := by kernel_rfl
abbrev z174 : List Value := List.replicate 64 (.int .u8 0)
theorem info174 : (Try.prog.info? 174).map (fun i => (i.zero, i.size, i.bytes)) = some (some (.agg z174.toArray), 64, 64) := by kernel_rfl
theorem size174 : (Try.prog.info? 174).map (·.size) = some 64 := by kernel_rfl
theorem zero174 : (Try.prog.info? 174).map (·.zero) = some (some (.agg z174.toArray)) := by kernel_rfl
theorem zs174 : (Try.prog.info? 174).map (fun i => (i.zero, i.size)) = some (some (.agg z174.toArray), 64) := by kernel_rfl
abbrev z175 : List Value := List.replicate 8 (.int .u32 0) ++ (List.replicate 64 (.int .u8 0) ++ ([.int .u64 0]))
theorem info175 : (Try.prog.info? 175).map (fun i => (i.zero, i.size, i.bytes)) = some (some (.agg z175.toArray), 73, 104) := by kernel_rfl
theorem size175 : (Try.prog.info? 175).map (·.size) = some 73 := by kernel_rfl
theorem zero175 : (Try.prog.info? 175).map (·.zero) = some (some (.agg z175.toArray)) := by kernel_rfl
theorem zs175 : (Try.prog.info? 175).map (fun i => (i.zero, i.size)) = some (some (.agg z175.toArray), 73) := by kernel_rfl
abbrev z176 : List Value := List.replicate 8 (.int .u32 0) ++ (List.replicate 64 (.int .u8 0) ++ ([.int .u64 0]))
theorem info176 : (Try.prog.info? 176).map (fun i => (i.zero, i.size, i.bytes)) = some (some (.agg z176.toArray), 73, 104) := by kernel_rfl
theorem size176 : (Try.prog.info? 176).map (·.size) = some 73 := by kernel_rfl
theorem zero176 : (Try.prog.info? 176).map (·.zero) = some (some (.agg z176.toArray)) := by kernel_rfl
theorem zs176 : (Try.prog.info? 176).map (fun i => (i.zero, i.size)) = some (some (.agg z176.toArray), 73) := by kernel_rfl
abbrev z179 : List Value := [.int .u64 0]
theorem info179 : (Try.prog.info? 179).map (fun i => (i.zero, i.size, i.bytes)) = some (some (.int .u64 0), 1, 8) := by kernel_rfl
theorem size179 : (Try.prog.info? 179).map (·.size) = some 1 := by kernel_rfl
theorem zero179 : (Try.prog.info? 179).map (·.zero) = some (some (.int .u64 0)) := by kernel_rfl
theorem zs179 : (Try.prog.info? 179).map (fun i => (i.zero, i.size)) = some (some (.int .u64 0), 1) := by kernel_rfl
theorem plain179 : Program.plainCell Try.prog 179 = true := by kernel_rfl
abbrev z180 : List Value := List.replicate 32 (.int .u8 0)
theorem info180 : (Try.prog.info? 180).map (fun i => (i.zero, i.size, i.bytes)) = some (some (.agg z180.toArray), 32, 32) := by kernel_rfl
theorem size180 : (Try.prog.info? 180).map (·.size) = some 32 := by kernel_rfl
theorem zero180 : (Try.prog.info? 180).map (·.zero) = some (some (.agg z180.toArray)) := by kernel_rfl
theorem zs180 : (Try.prog.info? 180).map (fun i => (i.zero, i.size)) = some (some (.agg z180.toArray), 32) := by kernel_rfl
abbrev z183 : List Value := List.replicate 32 (.int .u8 0)
theorem info183 : (Try.prog.info? 183).map (fun i => (i.zero, i.size, i.bytes)) = some (some (.agg z183.toArray), 32, 32) := by kernel_rfl
theorem size183 : (Try.prog.info? 183).map (·.size) = some 32 := by kernel_rfl
theorem zero183 : (Try.prog.info? 183).map (·.zero) = some (some (.agg z183.toArray)) := by kernel_rfl
theorem zs183 : (Try.prog.info? 183).map (fun i => (i.zero, i.size)) = some (some (.agg z183.toArray), 32) := by kernel_rfl
abbrev z184 : List Value := List.replicate 1024 (.int .u8 0)
theorem info184 : (Try.prog.info? 184).map (fun i => (i.zero, i.size, i.bytes)) = some (some (.agg z184.toArray), 1024, 1024) := by kernel_rfl
theorem size184 : (Try.prog.info? 184).map (·.size) = some 1024 := by kernel_rfl
theorem zero184 : (Try.prog.info? 184).map (·.zero) = some (some (.agg z184.toArray)) := by kernel_rfl
theorem zs184 : (Try.prog.info? 184).map (fun i => (i.zero, i.size)) = some (some (.agg z184.toArray), 1024) := by kernel_rfl
abbrev z191 : List Value := [.map none]
theorem info191 : (Try.prog.info? 191).map (fun i => (i.zero, i.size, i.bytes)) = some (some (.map none), 1, 8) := by kernel_rfl
theorem size191 : (Try.prog.info? 191).map (·.size) = some 1 := by kernel_rfl
theorem zero191 : (Try.prog.info? 191).map (·.zero) = some (some (.map none)) := by kernel_rfl
theorem zs191 : (Try.prog.info? 191).map (fun i => (i.zero, i.size)) = some (some (.map none), 1) := by kernel_rfl
theorem plain191 : Program.plainCell Try.prog 191 = true := by kernel_rfl
abbrev z199 : List Value := List.replicate 16 (.int .u32 0)
theorem info199 : (Try.prog.info? 199).map (fun i => (i.zero, i.size, i.bytes)) = some (some (.agg z199.toArray), 16, 64) := by kernel_rfl
theorem size199 : (Try.prog.info? 199).map (·.size) = some 16 := by kernel_rfl
theorem zero199 : (Try.prog.info? 199).map (·.zero) = some (some (.agg z199.toArray)) := by kernel_rfl
theorem zs199 : (Try.prog.info? 199).map (fun i => (i.zero, i.size)) = some (some (.agg z199.toArray), 16) := by kernel_rfl
abbrev z200 : List Value := List.replicate 64 (.int .u32 0)
theorem info200 : (Try.prog.info? 200).map (fun i => (i.zero, i.size, i.bytes)) = some (some (.agg z200.toArray), 64, 256) := by kernel_rfl
theorem size200 : (Try.prog.info? 200).map (·.size) = some 64 := by kernel_rfl
theorem zero200 : (Try.prog.info? 200).map (·.zero) = some (some (.agg z200.toArray)) := by kernel_rfl
theorem zs200 : (Try.prog.info? 200).map (fun i => (i.zero, i.size)) = some (some (.agg z200.toArray), 64) := by kernel_rfl
theorem call3 : CallOk Try.prog 3 Try.f3 := ⟨Try.func3, rfl, by kernel_rfl⟩
theorem call4 : CallOk Try.prog 4 Try.f4 := ⟨Try.func4, rfl, by kernel_rfl⟩
theorem call5 : CallOk Try.prog 5 Try.f5 := ⟨Try.func5, rfl, by kernel_rfl⟩
theorem call6 : CallOk Try.prog 6 Try.f6 := ⟨Try.func6, rfl, by kernel_rfl⟩
theorem call7 : CallOk Try.prog 7 Try.f7 := ⟨Try.func7, rfl, by kernel_rfl⟩
theorem call8 : CallOk Try.prog 8 Try.f8 := ⟨Try.func8, rfl, by kernel_rfl⟩
theorem call9 : CallOk Try.prog 9 Try.f9 := ⟨Try.func9, rfl, by kernel_rfl⟩
theorem call10 : CallOk Try.prog 10 Try.f10 := ⟨Try.func10, rfl, by kernel_rfl⟩
theorem call11 : CallOk Try.prog 11 Try.f11 := ⟨Try.func11, rfl, by kernel_rfl⟩
theorem call12 : CallOk Try.prog 12 Try.f12 := ⟨Try.func12, rfl, by kernel_rfl⟩
theorem call13 : CallOk Try.prog 13 Try.f13 := ⟨Try.func13, rfl, by kernel_rfl⟩
theorem call14 : CallOk Try.prog 14 Try.f14 := ⟨Try.func14, rfl, by kernel_rfl⟩
theorem call15 : CallOk Try.prog 15 Try.f15 := ⟨Try.func15, rfl, by kernel_rfl⟩
theorem call16 : CallOk Try.prog 16 Try.f16 := ⟨Try.func16, rfl, by kernel_rfl⟩
theorem call17 : CallOk Try.prog 17 Try.f17 := ⟨Try.func17, rfl, by kernel_rfl⟩
theorem call18 : CallOk Try.prog 18 Try.f18 := ⟨Try.func18, rfl, by kernel_rfl⟩
theorem call19 : CallOk Try.prog 19 Try.f19 := ⟨Try.func19, rfl, by kernel_rfl⟩
theorem call20 : CallOk Try.prog 20 Try.f20 := ⟨Try.func20, rfl, by kernel_rfl⟩
theorem call21 : CallOk Try.prog 21 Try.f21 := ⟨Try.func21, rfl, by kernel_rfl⟩
theorem call22 : CallOk Try.prog 22 Try.f22 := ⟨Try.func22, rfl, by kernel_rfl⟩
theorem call23 : CallOk Try.prog 23 Try.f23 := ⟨Try.func23, rfl, by kernel_rfl⟩
theorem call24 : CallOk Try.prog 24 Try.f24 := ⟨Try.func24, rfl, by kernel_rfl⟩
theorem call25 : CallOk Try.prog 25 Try.f25 := ⟨Try.func25, rfl, by kernel_rfl⟩
theorem call26 : CallOk Try.prog 26 Try.f26 := ⟨Try.func26, rfl, by kernel_rfl⟩
theorem call27 : CallOk Try.prog 27 Try.f27 := ⟨Try.func27, rfl, by kernel_rfl⟩
theorem call28 : CallOk Try.prog 28 Try.f28 := ⟨Try.func28, rfl, by kernel_rfl⟩
theorem call29 : CallOk Try.prog 29 Try.f29 := ⟨Try.func29, rfl, by kernel_rfl⟩
theorem call30 : CallOk Try.prog 30 Try.f30 := ⟨Try.func30, rfl, by kernel_rfl⟩
theorem call31 : CallOk Try.prog 31 Try.f31 := ⟨Try.func31, rfl, by kernel_rfl⟩
theorem call32 : CallOk Try.prog 32 Try.f32 := ⟨Try.func32, rfl, by kernel_rfl⟩
theorem call33 : CallOk Try.prog 33 Try.f33 := ⟨Try.func33, rfl, by kernel_rfl⟩
theorem call34 : CallOk Try.prog 34 Try.f34 := ⟨Try.func34, rfl, by kernel_rfl⟩
theorem call35 : CallOk Try.prog 35 Try.f35 := ⟨Try.func35, rfl, by kernel_rfl⟩
theorem call36 : CallOk Try.prog 36 Try.f36 := ⟨Try.func36, rfl, by kernel_rfl⟩
theorem call37 : CallOk Try.prog 37 Try.f37 := ⟨Try.func37, rfl, by kernel_rfl⟩
theorem call38 : CallOk Try.prog 38 Try.f38 := ⟨Try.func38, rfl, by kernel_rfl⟩
theorem call39 : CallOk Try.prog 39 Try.f39 := ⟨Try.func39, rfl, by kernel_rfl⟩
theorem call40 : CallOk Try.prog 40 Try.f40 := ⟨Try.func40, rfl, by kernel_rfl⟩
theorem call41 : CallOk Try.prog 41 Try.f41 := ⟨Try.func41, rfl, by kernel_rfl⟩
theorem call42 : CallOk Try.prog 42 Try.f42 := ⟨Try.func42, rfl, by kernel_rfl⟩
theorem call43 : CallOk Try.prog 43 Try.f43 := ⟨Try.func43, rfl, by kernel_rfl⟩
theorem call44 : CallOk Try.prog 44 Try.f44 := ⟨Try.func44, rfl, by kernel_rfl⟩
theorem call45 : CallOk Try.prog 45 Try.f45 := ⟨Try.func45, rfl, by kernel_rfl⟩
theorem call46 : CallOk Try.prog 46 Try.f46 := ⟨Try.func46, rfl, by kernel_rfl⟩
theorem call47 : CallOk Try.prog 47 Try.f47 := ⟨Try.func47, rfl, by kernel_rfl⟩
theorem call48 : CallOk Try.prog 48 Try.f48 := ⟨Try.func48, rfl, by kernel_rfl⟩
theorem call49 : CallOk Try.prog 49 Try.f49 := ⟨Try.func49, rfl, by kernel_rfl⟩
theorem call50 : CallOk Try.prog 50 Try.f50 := ⟨Try.func50, rfl, by kernel_rfl⟩
theorem call51 : CallOk Try.prog 51 Try.f51 := ⟨Try.func51, rfl, by kernel_rfl⟩
theorem call52 : CallOk Try.prog 52 Try.f52 := ⟨Try.func52, rfl, by kernel_rfl⟩
theorem call53 : CallOk Try.prog 53 Try.f53 := ⟨Try.func53, rfl, by kernel_rfl⟩
theorem call54 : CallOk Try.prog 54 Try.f54 := ⟨Try.func54, rfl, by kernel_rfl⟩
theorem call55 : CallOk Try.prog 55 Try.f55 := ⟨Try.func55, rfl, by kernel_rfl⟩
theorem call56 : CallOk Try.prog 56 Try.f56 := ⟨Try.func56, rfl, by kernel_rfl⟩
theorem call57 : CallOk Try.prog 57 Try.f57 := ⟨Try.func57, rfl, by kernel_rfl⟩
theorem call58 : CallOk Try.prog 58 Try.f58 := ⟨Try.func58, rfl, by kernel_rfl⟩
theorem call59 : CallOk Try.prog 59 Try.f59 := ⟨Try.func59, rfl, by kernel_rfl⟩
theorem call60 : CallOk Try.prog 60 Try.f60 := ⟨Try.func60, rfl, by kernel_rfl⟩
theorem call61 : CallOk Try.prog 61 Try.f61 := ⟨Try.func61, rfl, by kernel_rfl⟩
theorem call62 : CallOk Try.prog 62 Try.f62 := ⟨Try.func62, rfl, by kernel_rfl⟩
theorem call63 : CallOk Try.prog 63 Try.f63 := ⟨Try.func63, rfl, by kernel_rfl⟩
theorem call64 : CallOk Try.prog 64 Try.f64 := ⟨Try.func64, rfl, by kernel_rfl⟩
theorem call65 : CallOk Try.prog 65 Try.f65 := ⟨Try.func65, rfl, by kernel_rfl⟩
theorem call66 : CallOk Try.prog 66 Try.f66 := ⟨Try.func66, rfl, by kernel_rfl⟩
theorem call67 : CallOk Try.prog 67 Try.f67 := ⟨Try.func67, rfl, by kernel_rfl⟩
theorem call68 : CallOk Try.prog 68 Try.f68 := ⟨Try.func68, rfl, by kernel_rfl⟩
theorem call69 : CallOk Try.prog 69 Try.f69 := ⟨Try.func69, rfl, by kernel_rfl⟩
theorem call70 : CallOk Try.prog 70 Try.f70 := ⟨Try.func70, rfl, by kernel_rfl⟩
theorem call71 : CallOk Try.prog 71 Try.f71 := ⟨Try.func71, rfl, by kernel_rfl⟩
theorem call72 : CallOk Try.prog 72 Try.f72 := ⟨Try.func72, rfl, by kernel_rfl⟩
theorem call73 : CallOk Try.prog 73 Try.f73 := ⟨Try.func73, rfl, by kernel_rfl⟩
theorem call74 : CallOk Try.prog 74 Try.f74 := ⟨Try.func74, rfl, by kernel_rfl⟩
theorem call75 : CallOk Try.prog 75 Try.f75 := ⟨Try.func75, rfl, by kernel_rfl⟩
theorem call76 : CallOk Try.prog 76 Try.f76 := ⟨Try.func76, rfl, by kernel_rfl⟩
theorem call77 : CallOk Try.prog 77 Try.f77 := ⟨Try.func77, rfl, by kernel_rfl⟩
theorem call78 : CallOk Try.prog 78 Try.f78 := ⟨Try.func78, rfl, by kernel_rfl⟩
theorem call79 : CallOk Try.prog 79 Try.f79 := ⟨Try.func79, rfl, by kernel_rfl⟩
theorem call80 : CallOk Try.prog 80 Try.f80 := ⟨Try.func80, rfl, by kernel_rfl⟩
theorem call81 : CallOk Try.prog 81 Try.f81 := ⟨Try.func81, rfl, by kernel_rfl⟩
theorem call82 : CallOk Try.prog 82 Try.f82 := ⟨Try.func82, rfl, by kernel_rfl⟩
theorem call83 : CallOk Try.prog 83 Try.f83 := ⟨Try.func83, rfl, by kernel_rfl⟩
theorem call84 : CallOk Try.prog 84 Try.f84 := ⟨Try.func84, rfl, by kernel_rfl⟩
theorem call85 : CallOk Try.prog 85 Try.f85 := ⟨Try.func85, rfl, by kernel_rfl⟩
theorem call86 : CallOk Try.prog 86 Try.f86 := ⟨Try.func86, rfl, by kernel_rfl⟩
theorem call87 : CallOk Try.prog 87 Try.f87 := ⟨Try.func87, rfl, by kernel_rfl⟩
theorem call88 : CallOk Try.prog 88 Try.f88 := ⟨Try.func88, rfl, by kernel_rfl⟩
theorem call89 : CallOk Try.prog 89 Try.f89 := ⟨Try.func89, rfl, by kernel_rfl⟩
theorem call90 : CallOk Try.prog 90 Try.f90 := ⟨Try.func90, rfl, by kernel_rfl⟩
theorem call91 : CallOk Try.prog 91 Try.f91 := ⟨Try.func91, rfl, by kernel_rfl⟩
theorem call92 : CallOk Try.prog 92 Try.f92 := ⟨Try.func92, rfl, by kernel_rfl⟩
theorem call93 : CallOk Try.prog 93 Try.f93 := ⟨Try.func93, rfl, by kernel_rfl⟩
theorem call94 : CallOk Try.prog 94 Try.f94 := ⟨Try.func94, rfl, by kernel_rfl⟩
theorem call95 : CallOk Try.prog 95 Try.f95 := ⟨Try.func95, rfl, by kernel_rfl⟩
theorem call96 : CallOk Try.prog 96 Try.f96 := ⟨Try.func96, rfl, by kernel_rfl⟩
theorem call97 : CallOk Try.prog 97 Try.f97 := ⟨Try.func97, rfl, by kernel_rfl⟩
theorem call98 : CallOk Try.prog 98 Try.f98 := ⟨Try.func98, rfl, by kernel_rfl⟩
theorem call99 : CallOk Try.prog 99 Try.f99 := ⟨Try.func99, rfl, by kernel_rfl⟩
theorem call100 : CallOk Try.prog 100 Try.f100 := ⟨Try.func100, rfl, by kernel_rfl⟩
theorem call101 : CallOk Try.prog 101 Try.f101 := ⟨Try.func101, rfl, by kernel_rfl⟩
theorem call102 : CallOk Try.prog 102 Try.f102 := ⟨Try.func102, rfl, by kernel_rfl⟩
theorem call103 : CallOk Try.prog 103 Try.f103 := ⟨Try.func103, rfl, by kernel_rfl⟩
theorem call104 : CallOk Try.prog 104 Try.f104 := ⟨Try.func104, rfl, by kernel_rfl⟩
theorem call105 : CallOk Try.prog 105 Try.f105 := ⟨Try.func105, rfl, by kernel_rfl⟩
theorem call106 : CallOk Try.prog 106 Try.f106 := ⟨Try.func106, rfl, by kernel_rfl⟩
theorem call107 : CallOk Try.prog 107 Try.f107 := ⟨Try.func107, rfl, by kernel_rfl⟩
theorem call108 : CallOk Try.prog 108 Try.f108 := ⟨Try.func108, rfl, by kernel_rfl⟩
theorem call109 : CallOk Try.prog 109 Try.f109 := ⟨Try.func109, rfl, by kernel_rfl⟩
theorem call110 : CallOk Try.prog 110 Try.f110 := ⟨Try.func110, rfl, by kernel_rfl⟩
theorem call111 : CallOk Try.prog 111 Try.f111 := ⟨Try.func111, rfl, by kernel_rfl⟩
theorem call112 : CallOk Try.prog 112 Try.f112 := ⟨Try.func112, rfl, by kernel_rfl⟩
theorem call113 : CallOk Try.prog 113 Try.f113 := ⟨Try.func113, rfl, by kernel_rfl⟩
theorem call114 : CallOk Try.prog 114 Try.f114 := ⟨Try.func114, rfl, by kernel_rfl⟩
theorem call115 : CallOk Try.prog 115 Try.f115 := ⟨Try.func115, rfl, by kernel_rfl⟩
theorem call116 : CallOk Try.prog 116 Try.f116 := ⟨Try.func116, rfl, by kernel_rfl⟩
theorem call117 : CallOk Try.prog 117 Try.f117 := ⟨Try.func117, rfl, by kernel_rfl⟩
theorem call118 : CallOk Try.prog 118 Try.f118 := ⟨Try.func118, rfl, by kernel_rfl⟩
theorem call119 : CallOk Try.prog 119 Try.f119 := ⟨Try.func119, rfl, by kernel_rfl⟩
theorem call120 : CallOk Try.prog 120 Try.f120 := ⟨Try.func120, rfl, by kernel_rfl⟩
theorem call121 : CallOk Try.prog 121 Try.f121 := ⟨Try.func121, rfl, by kernel_rfl⟩
theorem call122 : CallOk Try.prog 122 Try.f122 := ⟨Try.func122, rfl, by kernel_rfl⟩
end Go.Proofs.Toll
