/-
  Closed facts on this translation's types, printed by a program (wip/gen_types.py).
-/
import Derived.Test.YtpndpdbabblphaaSEq
import Derived.Test.YtpndpdbabblphaaRows
namespace Go.Proofs.Ytpndpdbabblphaa
open Go.RowKit
set_option maxRecDepth 100000
theorem Ty.c1 : Try.prog.cellsOf 1 = 1 := by kernel_rfl
theorem Ty.b1 : Try.prog.bytesOf 1 = 8 := by kernel_rfl
theorem Ty.k1 : kindT Try.prog 1 = some false := by kernel_rfl
theorem Ty.z1 : zeroOf Try.prog 1 = some [.nilf] := by kernel_rfl
theorem Ty.c2 : Try.prog.cellsOf 2 = 1 := by kernel_rfl
theorem Ty.b2 : Try.prog.bytesOf 2 = 8 := by kernel_rfl
theorem Ty.k2 : kindT Try.prog 2 = some false := by kernel_rfl
theorem Ty.z2 : zeroOf Try.prog 2 = some [.int .i64 0] := by kernel_rfl
theorem Ty.c3 : Try.prog.cellsOf 3 = 1 := by kernel_rfl
theorem Ty.b3 : Try.prog.bytesOf 3 = 8 := by kernel_rfl
theorem Ty.k3 : kindT Try.prog 3 = some false := by kernel_rfl
theorem Ty.z3 : zeroOf Try.prog 3 = some [.int .i64 0] := by kernel_rfl
theorem Ty.c4 : Try.prog.cellsOf 4 = 1 := by kernel_rfl
theorem Ty.b4 : Try.prog.bytesOf 4 = 1 := by kernel_rfl
theorem Ty.k4 : kindT Try.prog 4 = some false := by kernel_rfl
theorem Ty.z4 : zeroOf Try.prog 4 = some [.bool false] := by kernel_rfl
theorem Ty.c5 : Try.prog.cellsOf 5 = 1 := by kernel_rfl
theorem Ty.b5 : Try.prog.bytesOf 5 = 1 := by kernel_rfl
theorem Ty.k5 : kindT Try.prog 5 = some false := by kernel_rfl
theorem Ty.z5 : zeroOf Try.prog 5 = some [.int .u8 0] := by kernel_rfl
theorem Ty.c6 : Try.prog.cellsOf 6 = 1 := by kernel_rfl
theorem Ty.b6 : Try.prog.bytesOf 6 = 1 := by kernel_rfl
theorem Ty.k6 : kindT Try.prog 6 = some false := by kernel_rfl
theorem Ty.z6 : zeroOf Try.prog 6 = some [.int .u8 0] := by kernel_rfl
theorem Ty.c7 : Try.prog.cellsOf 7 = 4 := by kernel_rfl
theorem Ty.b7 : Try.prog.bytesOf 7 = 24 := by kernel_rfl
theorem Ty.k7 : kindT Try.prog 7 = some true := by kernel_rfl
theorem Ty.z7 : zeroOf Try.prog 7 = some [.int .i64 0, .int .i64 0, .bool false, .int .u8 0] := by kernel_rfl
theorem Ty.p7 : placesOf Try.prog 7 = some [(0, 1), (1, 1), (2, 1), (3, 1)] := by kernel_rfl
theorem Ty.c8 : Try.prog.cellsOf 8 = 4 := by kernel_rfl
theorem Ty.b8 : Try.prog.bytesOf 8 = 24 := by kernel_rfl
theorem Ty.k8 : kindT Try.prog 8 = some true := by kernel_rfl
theorem Ty.z8 : zeroOf Try.prog 8 = some [.int .i64 0, .int .i64 0, .bool false, .int .u8 0] := by kernel_rfl
theorem Ty.p8 : placesOf Try.prog 8 = some [(0, 1), (1, 1), (2, 1), (3, 1)] := by kernel_rfl
theorem Ty.c9 : Try.prog.cellsOf 9 = 1 := by kernel_rfl
theorem Ty.b9 : Try.prog.bytesOf 9 = 16 := by kernel_rfl
theorem Ty.k9 : kindT Try.prog 9 = some false := by kernel_rfl
theorem Ty.z9 : zeroOf Try.prog 9 = some [.str []] := by kernel_rfl
theorem Ty.c10 : Try.prog.cellsOf 10 = 1 := by kernel_rfl
theorem Ty.b10 : Try.prog.bytesOf 10 = 16 := by kernel_rfl
theorem Ty.k10 : kindT Try.prog 10 = some false := by kernel_rfl
theorem Ty.z10 : zeroOf Try.prog 10 = some [.str []] := by kernel_rfl
theorem Ty.c11 : Try.prog.cellsOf 11 = 1 := by kernel_rfl
theorem Ty.b11 : Try.prog.bytesOf 11 = 16 := by kernel_rfl
theorem Ty.k11 : kindT Try.prog 11 = some false := by kernel_rfl
theorem Ty.z11 : zeroOf Try.prog 11 = some [.str []] := by kernel_rfl
theorem Ty.c12 : Try.prog.cellsOf 12 = 1 := by kernel_rfl
theorem Ty.b12 : Try.prog.bytesOf 12 = 8 := by kernel_rfl
theorem Ty.k12 : kindT Try.prog 12 = some false := by kernel_rfl
theorem Ty.z12 : zeroOf Try.prog 12 = some [.int .u64 0] := by kernel_rfl
theorem Ty.c13 : Try.prog.cellsOf 13 = 2 := by kernel_rfl
theorem Ty.b13 : Try.prog.bytesOf 13 = 24 := by kernel_rfl
theorem Ty.k13 : kindT Try.prog 13 = some true := by kernel_rfl
theorem Ty.z13 : zeroOf Try.prog 13 = some [.str [], .int .u64 0] := by kernel_rfl
theorem Ty.p13 : placesOf Try.prog 13 = some [(0, 1), (1, 1)] := by kernel_rfl
theorem Ty.c14 : Try.prog.cellsOf 14 = 2 := by kernel_rfl
theorem Ty.b14 : Try.prog.bytesOf 14 = 24 := by kernel_rfl
theorem Ty.k14 : kindT Try.prog 14 = some true := by kernel_rfl
theorem Ty.z14 : zeroOf Try.prog 14 = some [.str [], .int .u64 0] := by kernel_rfl
theorem Ty.p14 : placesOf Try.prog 14 = some [(0, 1), (1, 1)] := by kernel_rfl
theorem Ty.c15 : Try.prog.cellsOf 15 = 1 := by kernel_rfl
theorem Ty.b15 : Try.prog.bytesOf 15 = 8 := by kernel_rfl
theorem Ty.k15 : kindT Try.prog 15 = some false := by kernel_rfl
theorem Ty.z15 : zeroOf Try.prog 15 = some [.nilp] := by kernel_rfl
theorem Ty.c16 : Try.prog.cellsOf 16 = 1 := by kernel_rfl
theorem Ty.b16 : Try.prog.bytesOf 16 = 8 := by kernel_rfl
theorem Ty.k16 : kindT Try.prog 16 = some false := by kernel_rfl
theorem Ty.z16 : zeroOf Try.prog 16 = some [.nilp] := by kernel_rfl
theorem Ty.c17 : Try.prog.cellsOf 17 = 1 := by kernel_rfl
theorem Ty.b17 : Try.prog.bytesOf 17 = 8 := by kernel_rfl
theorem Ty.k17 : kindT Try.prog 17 = some false := by kernel_rfl
theorem Ty.z17 : zeroOf Try.prog 17 = some [.nilp] := by kernel_rfl
theorem Ty.c18 : Try.prog.cellsOf 18 = 1 := by kernel_rfl
theorem Ty.b18 : Try.prog.bytesOf 18 = 8 := by kernel_rfl
theorem Ty.k18 : kindT Try.prog 18 = some true := by kernel_rfl
theorem Ty.z18 : zeroOf Try.prog 18 = some [.nilp] := by kernel_rfl
theorem Ty.p18 : placesOf Try.prog 18 = some [(0, 1)] := by kernel_rfl
theorem Ty.c19 : Try.prog.cellsOf 19 = 1 := by kernel_rfl
theorem Ty.b19 : Try.prog.bytesOf 19 = 8 := by kernel_rfl
theorem Ty.k19 : kindT Try.prog 19 = some true := by kernel_rfl
theorem Ty.z19 : zeroOf Try.prog 19 = some [.nilp] := by kernel_rfl
theorem Ty.p19 : placesOf Try.prog 19 = some [(0, 1)] := by kernel_rfl
theorem Ty.c20 : Try.prog.cellsOf 20 = 1 := by kernel_rfl
theorem Ty.b20 : Try.prog.bytesOf 20 = 16 := by kernel_rfl
theorem Ty.k20 : kindT Try.prog 20 = some false := by kernel_rfl
theorem Ty.z20 : zeroOf Try.prog 20 = some [.nili] := by kernel_rfl
theorem Ty.c21 : Try.prog.cellsOf 21 = 1 := by kernel_rfl
theorem Ty.b21 : Try.prog.bytesOf 21 = 4 := by kernel_rfl
theorem Ty.k21 : kindT Try.prog 21 = some false := by kernel_rfl
theorem Ty.z21 : zeroOf Try.prog 21 = some [.int .i32 0] := by kernel_rfl
theorem Ty.c22 : Try.prog.cellsOf 22 = 1 := by kernel_rfl
theorem Ty.b22 : Try.prog.bytesOf 22 = 8 := by kernel_rfl
theorem Ty.k22 : kindT Try.prog 22 = some false := by kernel_rfl
theorem Ty.z22 : zeroOf Try.prog 22 = some [.int .i64 0] := by kernel_rfl
theorem Ty.c23 : Try.prog.cellsOf 23 = 1 := by kernel_rfl
theorem Ty.b23 : Try.prog.bytesOf 23 = 24 := by kernel_rfl
theorem Ty.k23 : kindT Try.prog 23 = some false := by kernel_rfl
theorem Ty.z23 : zeroOf Try.prog 23 = some [.nils] := by kernel_rfl
theorem Ty.c24 : Try.prog.cellsOf 24 = 1 := by kernel_rfl
theorem Ty.b24 : Try.prog.bytesOf 24 = 24 := by kernel_rfl
theorem Ty.k24 : kindT Try.prog 24 = some false := by kernel_rfl
theorem Ty.z24 : zeroOf Try.prog 24 = some [.nils] := by kernel_rfl
theorem Ty.c25 : Try.prog.cellsOf 25 = 1 := by kernel_rfl
theorem Ty.b25 : Try.prog.bytesOf 25 = 8 := by kernel_rfl
theorem Ty.k25 : kindT Try.prog 25 = some false := by kernel_rfl
theorem Ty.z25 : zeroOf Try.prog 25 = some [.nilf] := by kernel_rfl
theorem Ty.c26 : Try.prog.cellsOf 26 = 1 := by kernel_rfl
theorem Ty.b26 : Try.prog.bytesOf 26 = 8 := by kernel_rfl
theorem Ty.k26 : kindT Try.prog 26 = some false := by kernel_rfl
theorem Ty.z26 : zeroOf Try.prog 26 = some [.nilf] := by kernel_rfl
theorem Ty.c28 : Try.prog.cellsOf 28 = 1 := by kernel_rfl
theorem Ty.b28 : Try.prog.bytesOf 28 = 8 := by kernel_rfl
theorem Ty.k28 : kindT Try.prog 28 = some false := by kernel_rfl
theorem Ty.z28 : zeroOf Try.prog 28 = some [.nilf] := by kernel_rfl
theorem Ty.c29 : Try.prog.cellsOf 29 = 1 := by kernel_rfl
theorem Ty.b29 : Try.prog.bytesOf 29 = 24 := by kernel_rfl
theorem Ty.k29 : kindT Try.prog 29 = some false := by kernel_rfl
theorem Ty.z29 : zeroOf Try.prog 29 = some [.nils] := by kernel_rfl
theorem Ty.c31 : Try.prog.cellsOf 31 = 1 := by kernel_rfl
theorem Ty.b31 : Try.prog.bytesOf 31 = 8 := by kernel_rfl
theorem Ty.k31 : kindT Try.prog 31 = some false := by kernel_rfl
theorem Ty.z31 : zeroOf Try.prog 31 = some [.nilf] := by kernel_rfl
theorem Ty.c32 : Try.prog.cellsOf 32 = 1 := by kernel_rfl
theorem Ty.b32 : Try.prog.bytesOf 32 = 8 := by kernel_rfl
theorem Ty.k32 : kindT Try.prog 32 = some false := by kernel_rfl
theorem Ty.z32 : zeroOf Try.prog 32 = some [.nilf] := by kernel_rfl
theorem Ty.c34 : Try.prog.cellsOf 34 = 1 := by kernel_rfl
theorem Ty.b34 : Try.prog.bytesOf 34 = 8 := by kernel_rfl
theorem Ty.k34 : kindT Try.prog 34 = some false := by kernel_rfl
theorem Ty.z34 : zeroOf Try.prog 34 = some [.nilf] := by kernel_rfl
theorem Ty.c35 : Try.prog.cellsOf 35 = 1 := by kernel_rfl
theorem Ty.b35 : Try.prog.bytesOf 35 = 8 := by kernel_rfl
theorem Ty.k35 : kindT Try.prog 35 = some false := by kernel_rfl
theorem Ty.z35 : zeroOf Try.prog 35 = some [.nilf] := by kernel_rfl
theorem Ty.c36 : Try.prog.cellsOf 36 = 1 := by kernel_rfl
theorem Ty.b36 : Try.prog.bytesOf 36 = 8 := by kernel_rfl
theorem Ty.k36 : kindT Try.prog 36 = some false := by kernel_rfl
theorem Ty.z36 : zeroOf Try.prog 36 = some [.nilf] := by kernel_rfl
theorem Ty.c37 : Try.prog.cellsOf 37 = 1 := by kernel_rfl
theorem Ty.b37 : Try.prog.bytesOf 37 = 8 := by kernel_rfl
theorem Ty.k37 : kindT Try.prog 37 = some false := by kernel_rfl
theorem Ty.z37 : zeroOf Try.prog 37 = some [.nilf] := by kernel_rfl
theorem Ty.c38 : Try.prog.cellsOf 38 = 1 := by kernel_rfl
theorem Ty.b38 : Try.prog.bytesOf 38 = 8 := by kernel_rfl
theorem Ty.k38 : kindT Try.prog 38 = some false := by kernel_rfl
theorem Ty.z38 : zeroOf Try.prog 38 = some [.nilf] := by kernel_rfl
theorem Ty.c39 : Try.prog.cellsOf 39 = 1 := by kernel_rfl
theorem Ty.b39 : Try.prog.bytesOf 39 = 24 := by kernel_rfl
theorem Ty.k39 : kindT Try.prog 39 = some false := by kernel_rfl
theorem Ty.z39 : zeroOf Try.prog 39 = some [.nils] := by kernel_rfl
theorem Ty.c40 : Try.prog.cellsOf 40 = 3 := by kernel_rfl
theorem Ty.b40 : Try.prog.bytesOf 40 = 24 := by kernel_rfl
theorem Ty.k40 : kindT Try.prog 40 = some true := by kernel_rfl
theorem Ty.z40 : zeroOf Try.prog 40 = some [.int .i64 0, .int .i64 0, .int .i64 0] := by kernel_rfl
theorem Ty.p40 : placesOf Try.prog 40 = some [(0, 1), (1, 1), (2, 1)] := by kernel_rfl
theorem Ty.c41 : Try.prog.cellsOf 41 = 3 := by kernel_rfl
theorem Ty.b41 : Try.prog.bytesOf 41 = 24 := by kernel_rfl
theorem Ty.k41 : kindT Try.prog 41 = some true := by kernel_rfl
theorem Ty.z41 : zeroOf Try.prog 41 = some [.int .i64 0, .int .i64 0, .int .i64 0] := by kernel_rfl
theorem Ty.p41 : placesOf Try.prog 41 = some [(0, 1), (1, 1), (2, 1)] := by kernel_rfl
theorem Ty.c42 : Try.prog.cellsOf 42 = 1 := by kernel_rfl
theorem Ty.b42 : Try.prog.bytesOf 42 = 8 := by kernel_rfl
theorem Ty.k42 : kindT Try.prog 42 = some false := by kernel_rfl
theorem Ty.z42 : zeroOf Try.prog 42 = some [.nilf] := by kernel_rfl
theorem Ty.c44 : Try.prog.cellsOf 44 = 1 := by kernel_rfl
theorem Ty.b44 : Try.prog.bytesOf 44 = 8 := by kernel_rfl
theorem Ty.k44 : kindT Try.prog 44 = some false := by kernel_rfl
theorem Ty.z44 : zeroOf Try.prog 44 = some [.nilf] := by kernel_rfl
theorem Ty.c46 : Try.prog.cellsOf 46 = 1 := by kernel_rfl
theorem Ty.b46 : Try.prog.bytesOf 46 = 8 := by kernel_rfl
theorem Ty.k46 : kindT Try.prog 46 = some false := by kernel_rfl
theorem Ty.z46 : zeroOf Try.prog 46 = some [.nilf] := by kernel_rfl
theorem Ty.c47 : Try.prog.cellsOf 47 = 1 := by kernel_rfl
theorem Ty.b47 : Try.prog.bytesOf 47 = 8 := by kernel_rfl
theorem Ty.k47 : kindT Try.prog 47 = some false := by kernel_rfl
theorem Ty.z47 : zeroOf Try.prog 47 = some [.nilf] := by kernel_rfl
theorem Ty.c48 : Try.prog.cellsOf 48 = 1 := by kernel_rfl
theorem Ty.b48 : Try.prog.bytesOf 48 = 8 := by kernel_rfl
theorem Ty.k48 : kindT Try.prog 48 = some false := by kernel_rfl
theorem Ty.z48 : zeroOf Try.prog 48 = some [.nilf] := by kernel_rfl
theorem Ty.c50 : Try.prog.cellsOf 50 = 1 := by kernel_rfl
theorem Ty.b50 : Try.prog.bytesOf 50 = 8 := by kernel_rfl
theorem Ty.k50 : kindT Try.prog 50 = some false := by kernel_rfl
theorem Ty.z50 : zeroOf Try.prog 50 = some [.nilf] := by kernel_rfl
theorem Ty.c51 : Try.prog.cellsOf 51 = 1 := by kernel_rfl
theorem Ty.b51 : Try.prog.bytesOf 51 = 8 := by kernel_rfl
theorem Ty.k51 : kindT Try.prog 51 = some false := by kernel_rfl
theorem Ty.z51 : zeroOf Try.prog 51 = some [.nilf] := by kernel_rfl
theorem Ty.c53 : Try.prog.cellsOf 53 = 1 := by kernel_rfl
theorem Ty.b53 : Try.prog.bytesOf 53 = 8 := by kernel_rfl
theorem Ty.k53 : kindT Try.prog 53 = some false := by kernel_rfl
theorem Ty.z53 : zeroOf Try.prog 53 = some [.nilf] := by kernel_rfl
theorem Ty.c54 : Try.prog.cellsOf 54 = 1 := by kernel_rfl
theorem Ty.b54 : Try.prog.bytesOf 54 = 8 := by kernel_rfl
theorem Ty.k54 : kindT Try.prog 54 = some false := by kernel_rfl
theorem Ty.z54 : zeroOf Try.prog 54 = some [.nilf] := by kernel_rfl
theorem Ty.c55 : Try.prog.cellsOf 55 = 1 := by kernel_rfl
theorem Ty.b55 : Try.prog.bytesOf 55 = 8 := by kernel_rfl
theorem Ty.k55 : kindT Try.prog 55 = some false := by kernel_rfl
theorem Ty.z55 : zeroOf Try.prog 55 = some [.nilf] := by kernel_rfl
theorem Ty.c56 : Try.prog.cellsOf 56 = 1 := by kernel_rfl
theorem Ty.b56 : Try.prog.bytesOf 56 = 8 := by kernel_rfl
theorem Ty.k56 : kindT Try.prog 56 = some false := by kernel_rfl
theorem Ty.z56 : zeroOf Try.prog 56 = some [.nilf] := by kernel_rfl
theorem Ty.c57 : Try.prog.cellsOf 57 = 1 := by kernel_rfl
theorem Ty.b57 : Try.prog.bytesOf 57 = 8 := by kernel_rfl
theorem Ty.k57 : kindT Try.prog 57 = some false := by kernel_rfl
theorem Ty.z57 : zeroOf Try.prog 57 = some [.nilf] := by kernel_rfl
theorem Ty.c58 : Try.prog.cellsOf 58 = 1 := by kernel_rfl
theorem Ty.b58 : Try.prog.bytesOf 58 = 24 := by kernel_rfl
theorem Ty.k58 : kindT Try.prog 58 = some false := by kernel_rfl
theorem Ty.z58 : zeroOf Try.prog 58 = some [.nils] := by kernel_rfl
theorem Ty.c59 : Try.prog.cellsOf 59 = 1 := by kernel_rfl
theorem Ty.b59 : Try.prog.bytesOf 59 = 8 := by kernel_rfl
theorem Ty.k59 : kindT Try.prog 59 = some false := by kernel_rfl
theorem Ty.z59 : zeroOf Try.prog 59 = some [.nilf] := by kernel_rfl
theorem Ty.c61 : Try.prog.cellsOf 61 = 1 := by kernel_rfl
theorem Ty.b61 : Try.prog.bytesOf 61 = 8 := by kernel_rfl
theorem Ty.k61 : kindT Try.prog 61 = some false := by kernel_rfl
theorem Ty.z61 : zeroOf Try.prog 61 = some [.nilf] := by kernel_rfl
theorem Ty.c63 : Try.prog.cellsOf 63 = 1 := by kernel_rfl
theorem Ty.b63 : Try.prog.bytesOf 63 = 8 := by kernel_rfl
theorem Ty.k63 : kindT Try.prog 63 = some false := by kernel_rfl
theorem Ty.z63 : zeroOf Try.prog 63 = some [.nilf] := by kernel_rfl
theorem Ty.c64 : Try.prog.cellsOf 64 = 1 := by kernel_rfl
theorem Ty.b64 : Try.prog.bytesOf 64 = 8 := by kernel_rfl
theorem Ty.k64 : kindT Try.prog 64 = some false := by kernel_rfl
theorem Ty.z64 : zeroOf Try.prog 64 = some [.nilf] := by kernel_rfl
theorem Ty.c65 : Try.prog.cellsOf 65 = 2 := by kernel_rfl
theorem Ty.b65 : Try.prog.bytesOf 65 = 16 := by kernel_rfl
theorem Ty.k65 : kindT Try.prog 65 = some true := by kernel_rfl
theorem Ty.z65 : zeroOf Try.prog 65 = some [.int .i64 0, .int .i64 0] := by kernel_rfl
theorem Ty.p65 : placesOf Try.prog 65 = some [(0, 1), (1, 1)] := by kernel_rfl
theorem Ty.c66 : Try.prog.cellsOf 66 = 2 := by kernel_rfl
theorem Ty.b66 : Try.prog.bytesOf 66 = 16 := by kernel_rfl
theorem Ty.k66 : kindT Try.prog 66 = some true := by kernel_rfl
theorem Ty.z66 : zeroOf Try.prog 66 = some [.int .i64 0, .int .i64 0] := by kernel_rfl
theorem Ty.p66 : placesOf Try.prog 66 = some [(0, 1), (1, 1)] := by kernel_rfl
theorem Ty.c67 : Try.prog.cellsOf 67 = 1 := by kernel_rfl
theorem Ty.b67 : Try.prog.bytesOf 67 = 24 := by kernel_rfl
theorem Ty.k67 : kindT Try.prog 67 = some false := by kernel_rfl
theorem Ty.z67 : zeroOf Try.prog 67 = some [.nils] := by kernel_rfl
theorem Ty.c68 : Try.prog.cellsOf 68 = 1 := by kernel_rfl
theorem Ty.b68 : Try.prog.bytesOf 68 = 8 := by kernel_rfl
theorem Ty.k68 : kindT Try.prog 68 = some false := by kernel_rfl
theorem Ty.z68 : zeroOf Try.prog 68 = some [.nilf] := by kernel_rfl
theorem Ty.c69 : Try.prog.cellsOf 69 = 1 := by kernel_rfl
theorem Ty.b69 : Try.prog.bytesOf 69 = 8 := by kernel_rfl
theorem Ty.k69 : kindT Try.prog 69 = some false := by kernel_rfl
theorem Ty.z69 : zeroOf Try.prog 69 = some [.nilf] := by kernel_rfl
theorem Ty.c70 : Try.prog.cellsOf 70 = 1 := by kernel_rfl
theorem Ty.b70 : Try.prog.bytesOf 70 = 24 := by kernel_rfl
theorem Ty.k70 : kindT Try.prog 70 = some false := by kernel_rfl
theorem Ty.z70 : zeroOf Try.prog 70 = some [.nils] := by kernel_rfl
theorem Ty.c71 : Try.prog.cellsOf 71 = 2 := by kernel_rfl
theorem Ty.b71 : Try.prog.bytesOf 71 = 48 := by kernel_rfl
theorem Ty.k71 : kindT Try.prog 71 = some true := by kernel_rfl
theorem Ty.z71 : zeroOf Try.prog 71 = some [.nils, .nils] := by kernel_rfl
theorem Ty.p71 : placesOf Try.prog 71 = some [(0, 1), (1, 1)] := by kernel_rfl
theorem Ty.c72 : Try.prog.cellsOf 72 = 2 := by kernel_rfl
theorem Ty.b72 : Try.prog.bytesOf 72 = 48 := by kernel_rfl
theorem Ty.k72 : kindT Try.prog 72 = some true := by kernel_rfl
theorem Ty.z72 : zeroOf Try.prog 72 = some [.nils, .nils] := by kernel_rfl
theorem Ty.p72 : placesOf Try.prog 72 = some [(0, 1), (1, 1)] := by kernel_rfl
theorem Ty.c73 : Try.prog.cellsOf 73 = 1 := by kernel_rfl
theorem Ty.b73 : Try.prog.bytesOf 73 = 8 := by kernel_rfl
theorem Ty.k73 : kindT Try.prog 73 = some false := by kernel_rfl
theorem Ty.z73 : zeroOf Try.prog 73 = some [.nilf] := by kernel_rfl
theorem Ty.c74 : Try.prog.cellsOf 74 = 1 := by kernel_rfl
theorem Ty.b74 : Try.prog.bytesOf 74 = 8 := by kernel_rfl
theorem Ty.k74 : kindT Try.prog 74 = some false := by kernel_rfl
theorem Ty.z74 : zeroOf Try.prog 74 = some [.nilf] := by kernel_rfl
theorem Ty.c75 : Try.prog.cellsOf 75 = 2 := by kernel_rfl
theorem Ty.b75 : Try.prog.bytesOf 75 = 24 := by kernel_rfl
theorem Ty.k75 : kindT Try.prog 75 = some true := by kernel_rfl
theorem Ty.z75 : zeroOf Try.prog 75 = some [.int .i64 0, .str []] := by kernel_rfl
theorem Ty.p75 : placesOf Try.prog 75 = some [(0, 1), (1, 1)] := by kernel_rfl
theorem Ty.c76 : Try.prog.cellsOf 76 = 2 := by kernel_rfl
theorem Ty.b76 : Try.prog.bytesOf 76 = 24 := by kernel_rfl
theorem Ty.k76 : kindT Try.prog 76 = some true := by kernel_rfl
theorem Ty.z76 : zeroOf Try.prog 76 = some [.int .i64 0, .str []] := by kernel_rfl
theorem Ty.p76 : placesOf Try.prog 76 = some [(0, 1), (1, 1)] := by kernel_rfl
theorem Ty.c78 : Try.prog.cellsOf 78 = 1 := by kernel_rfl
theorem Ty.b78 : Try.prog.bytesOf 78 = 8 := by kernel_rfl
theorem Ty.k78 : kindT Try.prog 78 = some false := by kernel_rfl
theorem Ty.z78 : zeroOf Try.prog 78 = some [.nilf] := by kernel_rfl
theorem Ty.c79 : Try.prog.cellsOf 79 = 1 := by kernel_rfl
theorem Ty.b79 : Try.prog.bytesOf 79 = 8 := by kernel_rfl
theorem Ty.k79 : kindT Try.prog 79 = some false := by kernel_rfl
theorem Ty.z79 : zeroOf Try.prog 79 = some [.nilf] := by kernel_rfl
theorem Ty.c80 : Try.prog.cellsOf 80 = 1 := by kernel_rfl
theorem Ty.b80 : Try.prog.bytesOf 80 = 8 := by kernel_rfl
theorem Ty.k80 : kindT Try.prog 80 = some false := by kernel_rfl
theorem Ty.z80 : zeroOf Try.prog 80 = some [.nilf] := by kernel_rfl
theorem Ty.c81 : Try.prog.cellsOf 81 = 1 := by kernel_rfl
theorem Ty.b81 : Try.prog.bytesOf 81 = 8 := by kernel_rfl
theorem Ty.k81 : kindT Try.prog 81 = some false := by kernel_rfl
theorem Ty.z81 : zeroOf Try.prog 81 = some [.nilf] := by kernel_rfl
theorem Ty.c82 : Try.prog.cellsOf 82 = 1 := by kernel_rfl
theorem Ty.b82 : Try.prog.bytesOf 82 = 8 := by kernel_rfl
theorem Ty.k82 : kindT Try.prog 82 = some false := by kernel_rfl
theorem Ty.z82 : zeroOf Try.prog 82 = some [.nilf] := by kernel_rfl
theorem Ty.c83 : Try.prog.cellsOf 83 = 1 := by kernel_rfl
theorem Ty.b83 : Try.prog.bytesOf 83 = 8 := by kernel_rfl
theorem Ty.k83 : kindT Try.prog 83 = some false := by kernel_rfl
theorem Ty.z83 : zeroOf Try.prog 83 = some [.nilf] := by kernel_rfl
theorem Ty.c84 : Try.prog.cellsOf 84 = 1 := by kernel_rfl
theorem Ty.b84 : Try.prog.bytesOf 84 = 8 := by kernel_rfl
theorem Ty.k84 : kindT Try.prog 84 = some false := by kernel_rfl
theorem Ty.z84 : zeroOf Try.prog 84 = some [.nilf] := by kernel_rfl
theorem Ty.c85 : Try.prog.cellsOf 85 = 1 := by kernel_rfl
theorem Ty.b85 : Try.prog.bytesOf 85 = 8 := by kernel_rfl
theorem Ty.k85 : kindT Try.prog 85 = some false := by kernel_rfl
theorem Ty.z85 : zeroOf Try.prog 85 = some [.nilf] := by kernel_rfl
theorem Ty.c86 : Try.prog.cellsOf 86 = 1 := by kernel_rfl
theorem Ty.b86 : Try.prog.bytesOf 86 = 8 := by kernel_rfl
theorem Ty.k86 : kindT Try.prog 86 = some false := by kernel_rfl
theorem Ty.z86 : zeroOf Try.prog 86 = some [.nilf] := by kernel_rfl
theorem Ty.c87 : Try.prog.cellsOf 87 = 1 := by kernel_rfl
theorem Ty.b87 : Try.prog.bytesOf 87 = 8 := by kernel_rfl
theorem Ty.k87 : kindT Try.prog 87 = some false := by kernel_rfl
theorem Ty.z87 : zeroOf Try.prog 87 = some [.nilf] := by kernel_rfl
theorem Ty.c88 : Try.prog.cellsOf 88 = 1 := by kernel_rfl
theorem Ty.b88 : Try.prog.bytesOf 88 = 8 := by kernel_rfl
theorem Ty.k88 : kindT Try.prog 88 = some false := by kernel_rfl
theorem Ty.z88 : zeroOf Try.prog 88 = some [.nilf] := by kernel_rfl
theorem Ty.c89 : Try.prog.cellsOf 89 = 1 := by kernel_rfl
theorem Ty.b89 : Try.prog.bytesOf 89 = 8 := by kernel_rfl
theorem Ty.k89 : kindT Try.prog 89 = some false := by kernel_rfl
theorem Ty.z89 : zeroOf Try.prog 89 = some [.nilf] := by kernel_rfl
theorem Ty.c90 : Try.prog.cellsOf 90 = 1 := by kernel_rfl
theorem Ty.b90 : Try.prog.bytesOf 90 = 8 := by kernel_rfl
theorem Ty.k90 : kindT Try.prog 90 = some false := by kernel_rfl
theorem Ty.z90 : zeroOf Try.prog 90 = some [.nilf] := by kernel_rfl
theorem Ty.c91 : Try.prog.cellsOf 91 = 1 := by kernel_rfl
theorem Ty.b91 : Try.prog.bytesOf 91 = 8 := by kernel_rfl
theorem Ty.k91 : kindT Try.prog 91 = some false := by kernel_rfl
theorem Ty.z91 : zeroOf Try.prog 91 = some [.nilf] := by kernel_rfl
theorem Ty.c92 : Try.prog.cellsOf 92 = 1 := by kernel_rfl
theorem Ty.b92 : Try.prog.bytesOf 92 = 8 := by kernel_rfl
theorem Ty.k92 : kindT Try.prog 92 = some false := by kernel_rfl
theorem Ty.z92 : zeroOf Try.prog 92 = some [.nilf] := by kernel_rfl
theorem Ty.c93 : Try.prog.cellsOf 93 = 1 := by kernel_rfl
theorem Ty.b93 : Try.prog.bytesOf 93 = 8 := by kernel_rfl
theorem Ty.k93 : kindT Try.prog 93 = some false := by kernel_rfl
theorem Ty.z93 : zeroOf Try.prog 93 = some [.nilf] := by kernel_rfl
theorem Ty.c94 : Try.prog.cellsOf 94 = 1 := by kernel_rfl
theorem Ty.b94 : Try.prog.bytesOf 94 = 8 := by kernel_rfl
theorem Ty.k94 : kindT Try.prog 94 = some false := by kernel_rfl
theorem Ty.z94 : zeroOf Try.prog 94 = some [.int .u64 0] := by kernel_rfl
theorem Ty.c95 : Try.prog.cellsOf 95 = 1 := by kernel_rfl
theorem Ty.b95 : Try.prog.bytesOf 95 = 8 := by kernel_rfl
theorem Ty.k95 : kindT Try.prog 95 = some false := by kernel_rfl
theorem Ty.z95 : zeroOf Try.prog 95 = some [.nilf] := by kernel_rfl
theorem Ty.c96 : Try.prog.cellsOf 96 = 1 := by kernel_rfl
theorem Ty.b96 : Try.prog.bytesOf 96 = 8 := by kernel_rfl
theorem Ty.k96 : kindT Try.prog 96 = some false := by kernel_rfl
theorem Ty.z96 : zeroOf Try.prog 96 = some [.nilf] := by kernel_rfl
theorem Ty.c97 : Try.prog.cellsOf 97 = 2 := by kernel_rfl
theorem Ty.b97 : Try.prog.bytesOf 97 = 16 := by kernel_rfl
theorem Ty.k97 : kindT Try.prog 97 = some true := by kernel_rfl
theorem Ty.z97 : zeroOf Try.prog 97 = some [.nilf, .nilf] := by kernel_rfl
theorem Ty.p97 : placesOf Try.prog 97 = some [(0, 1), (1, 1)] := by kernel_rfl
theorem Ty.c98 : Try.prog.cellsOf 98 = 1 := by kernel_rfl
theorem Ty.b98 : Try.prog.bytesOf 98 = 8 := by kernel_rfl
theorem Ty.k98 : kindT Try.prog 98 = some false := by kernel_rfl
theorem Ty.z98 : zeroOf Try.prog 98 = some [.nilf] := by kernel_rfl
theorem Ty.c99 : Try.prog.cellsOf 99 = 1 := by kernel_rfl
theorem Ty.b99 : Try.prog.bytesOf 99 = 8 := by kernel_rfl
theorem Ty.k99 : kindT Try.prog 99 = some false := by kernel_rfl
theorem Ty.z99 : zeroOf Try.prog 99 = some [.nilf] := by kernel_rfl
theorem Ty.c100 : Try.prog.cellsOf 100 = 1 := by kernel_rfl
theorem Ty.b100 : Try.prog.bytesOf 100 = 8 := by kernel_rfl
theorem Ty.k100 : kindT Try.prog 100 = some false := by kernel_rfl
theorem Ty.z100 : zeroOf Try.prog 100 = some [.nilf] := by kernel_rfl
theorem Ty.c101 : Try.prog.cellsOf 101 = 1 := by kernel_rfl
theorem Ty.b101 : Try.prog.bytesOf 101 = 8 := by kernel_rfl
theorem Ty.k101 : kindT Try.prog 101 = some false := by kernel_rfl
theorem Ty.z101 : zeroOf Try.prog 101 = some [.nilf] := by kernel_rfl
theorem Ty.c102 : Try.prog.cellsOf 102 = 1 := by kernel_rfl
theorem Ty.b102 : Try.prog.bytesOf 102 = 8 := by kernel_rfl
theorem Ty.k102 : kindT Try.prog 102 = some false := by kernel_rfl
theorem Ty.z102 : zeroOf Try.prog 102 = some [.any] := by kernel_rfl
theorem Ty.c103 : Try.prog.cellsOf 103 = 1 := by kernel_rfl
theorem Ty.b103 : Try.prog.bytesOf 103 = 8 := by kernel_rfl
theorem Ty.k103 : kindT Try.prog 103 = some false := by kernel_rfl
theorem Ty.z103 : zeroOf Try.prog 103 = some [.nilf] := by kernel_rfl
theorem Ty.c104 : Try.prog.cellsOf 104 = 1 := by kernel_rfl
theorem Ty.b104 : Try.prog.bytesOf 104 = 8 := by kernel_rfl
theorem Ty.k104 : kindT Try.prog 104 = some false := by kernel_rfl
theorem Ty.z104 : zeroOf Try.prog 104 = some [.nilf] := by kernel_rfl
theorem Ty.c105 : Try.prog.cellsOf 105 = 1 := by kernel_rfl
theorem Ty.b105 : Try.prog.bytesOf 105 = 8 := by kernel_rfl
theorem Ty.k105 : kindT Try.prog 105 = some false := by kernel_rfl
theorem Ty.z105 : zeroOf Try.prog 105 = some [.nilp] := by kernel_rfl
theorem Ty.c106 : Try.prog.cellsOf 106 = 2 := by kernel_rfl
theorem Ty.b106 : Try.prog.bytesOf 106 = 32 := by kernel_rfl
theorem Ty.k106 : kindT Try.prog 106 = some true := by kernel_rfl
theorem Ty.z106 : zeroOf Try.prog 106 = some [.nilp, .nils] := by kernel_rfl
theorem Ty.p106 : placesOf Try.prog 106 = some [(0, 1), (1, 1)] := by kernel_rfl
theorem Ty.c107 : Try.prog.cellsOf 107 = 2 := by kernel_rfl
theorem Ty.b107 : Try.prog.bytesOf 107 = 32 := by kernel_rfl
theorem Ty.k107 : kindT Try.prog 107 = some true := by kernel_rfl
theorem Ty.z107 : zeroOf Try.prog 107 = some [.nilp, .nils] := by kernel_rfl
theorem Ty.p107 : placesOf Try.prog 107 = some [(0, 1), (1, 1)] := by kernel_rfl
theorem Ty.c108 : Try.prog.cellsOf 108 = 1 := by kernel_rfl
theorem Ty.b108 : Try.prog.bytesOf 108 = 8 := by kernel_rfl
theorem Ty.k108 : kindT Try.prog 108 = some false := by kernel_rfl
theorem Ty.z108 : zeroOf Try.prog 108 = some [.nilf] := by kernel_rfl
theorem Ty.c109 : Try.prog.cellsOf 109 = 1 := by kernel_rfl
theorem Ty.b109 : Try.prog.bytesOf 109 = 16 := by kernel_rfl
theorem Ty.k109 : kindT Try.prog 109 = some false := by kernel_rfl
theorem Ty.z109 : zeroOf Try.prog 109 = some [.nili] := by kernel_rfl
theorem Ty.c110 : Try.prog.cellsOf 110 = 1 := by kernel_rfl
theorem Ty.b110 : Try.prog.bytesOf 110 = 16 := by kernel_rfl
theorem Ty.k110 : kindT Try.prog 110 = some false := by kernel_rfl
theorem Ty.z110 : zeroOf Try.prog 110 = some [.nili] := by kernel_rfl
theorem Ty.c112 : Try.prog.cellsOf 112 = 1 := by kernel_rfl
theorem Ty.b112 : Try.prog.bytesOf 112 = 8 := by kernel_rfl
theorem Ty.k112 : kindT Try.prog 112 = some false := by kernel_rfl
theorem Ty.z112 : zeroOf Try.prog 112 = some [.nilf] := by kernel_rfl
theorem Ty.c113 : Try.prog.cellsOf 113 = 1 := by kernel_rfl
theorem Ty.b113 : Try.prog.bytesOf 113 = 8 := by kernel_rfl
theorem Ty.k113 : kindT Try.prog 113 = some false := by kernel_rfl
theorem Ty.z113 : zeroOf Try.prog 113 = some [.nilf] := by kernel_rfl
theorem Ty.c114 : Try.prog.cellsOf 114 = 1 := by kernel_rfl
theorem Ty.b114 : Try.prog.bytesOf 114 = 8 := by kernel_rfl
theorem Ty.k114 : kindT Try.prog 114 = some false := by kernel_rfl
theorem Ty.z114 : zeroOf Try.prog 114 = some [.nilp] := by kernel_rfl
theorem Ty.c115 : Try.prog.cellsOf 115 = 1 := by kernel_rfl
theorem Ty.b115 : Try.prog.bytesOf 115 = 8 := by kernel_rfl
theorem Ty.k115 : kindT Try.prog 115 = some false := by kernel_rfl
theorem Ty.z115 : zeroOf Try.prog 115 = some [.nilp] := by kernel_rfl
theorem Ty.c116 : Try.prog.cellsOf 116 = 1 := by kernel_rfl
theorem Ty.b116 : Try.prog.bytesOf 116 = 8 := by kernel_rfl
theorem Ty.k116 : kindT Try.prog 116 = some false := by kernel_rfl
theorem Ty.z116 : zeroOf Try.prog 116 = some [.nilf] := by kernel_rfl
theorem Ty.c117 : Try.prog.cellsOf 117 = 1 := by kernel_rfl
theorem Ty.b117 : Try.prog.bytesOf 117 = 8 := by kernel_rfl
theorem Ty.k117 : kindT Try.prog 117 = some false := by kernel_rfl
theorem Ty.z117 : zeroOf Try.prog 117 = some [.nilf] := by kernel_rfl
theorem Ty.c118 : Try.prog.cellsOf 118 = 4 := by kernel_rfl
theorem Ty.b118 : Try.prog.bytesOf 118 = 40 := by kernel_rfl
theorem Ty.k118 : kindT Try.prog 118 = some true := by kernel_rfl
theorem Ty.z118 : zeroOf Try.prog 118 = some [.nilp, .nilp, .nilp, .str []] := by kernel_rfl
theorem Ty.p118 : placesOf Try.prog 118 = some [(0, 1), (1, 1), (2, 1), (3, 1)] := by kernel_rfl
theorem Ty.c119 : Try.prog.cellsOf 119 = 4 := by kernel_rfl
theorem Ty.b119 : Try.prog.bytesOf 119 = 40 := by kernel_rfl
theorem Ty.k119 : kindT Try.prog 119 = some true := by kernel_rfl
theorem Ty.z119 : zeroOf Try.prog 119 = some [.nilp, .nilp, .nilp, .str []] := by kernel_rfl
theorem Ty.p119 : placesOf Try.prog 119 = some [(0, 1), (1, 1), (2, 1), (3, 1)] := by kernel_rfl
theorem Ty.c120 : Try.prog.cellsOf 120 = 0 := by kernel_rfl
theorem Ty.b120 : Try.prog.bytesOf 120 = 0 := by kernel_rfl
theorem Ty.k120 : kindT Try.prog 120 = some true := by kernel_rfl
theorem Ty.z120 : zeroOf Try.prog 120 = some [] := by kernel_rfl
theorem Ty.p120 : placesOf Try.prog 120 = some [] := by kernel_rfl
theorem Ty.c121 : Try.prog.cellsOf 121 = 0 := by kernel_rfl
theorem Ty.b121 : Try.prog.bytesOf 121 = 0 := by kernel_rfl
theorem Ty.k121 : kindT Try.prog 121 = some true := by kernel_rfl
theorem Ty.z121 : zeroOf Try.prog 121 = some [] := by kernel_rfl
theorem Ty.p121 : placesOf Try.prog 121 = some [(0, 0)] := by kernel_rfl
theorem Ty.c122 : Try.prog.cellsOf 122 = 0 := by kernel_rfl
theorem Ty.b122 : Try.prog.bytesOf 122 = 0 := by kernel_rfl
theorem Ty.k122 : kindT Try.prog 122 = some true := by kernel_rfl
theorem Ty.z122 : zeroOf Try.prog 122 = some [] := by kernel_rfl
theorem Ty.p122 : placesOf Try.prog 122 = some [(0, 0)] := by kernel_rfl
theorem Ty.c123 : Try.prog.cellsOf 123 = 1 := by kernel_rfl
theorem Ty.b123 : Try.prog.bytesOf 123 = 8 := by kernel_rfl
theorem Ty.k123 : kindT Try.prog 123 = some false := by kernel_rfl
theorem Ty.z123 : zeroOf Try.prog 123 = some [.nilf] := by kernel_rfl
theorem Ty.c124 : Try.prog.cellsOf 124 = 1 := by kernel_rfl
theorem Ty.b124 : Try.prog.bytesOf 124 = 4 := by kernel_rfl
theorem Ty.k124 : kindT Try.prog 124 = some false := by kernel_rfl
theorem Ty.z124 : zeroOf Try.prog 124 = some [.int .u32 0] := by kernel_rfl
theorem Ty.c125 : Try.prog.cellsOf 125 = 1 := by kernel_rfl
theorem Ty.b125 : Try.prog.bytesOf 125 = 1 := by kernel_rfl
theorem Ty.k125 : kindT Try.prog 125 = some false := by kernel_rfl
theorem Ty.z125 : zeroOf Try.prog 125 = some [.int .u8 0] := by kernel_rfl
theorem Ty.c126 : Try.prog.cellsOf 126 = 1 := by kernel_rfl
theorem Ty.b126 : Try.prog.bytesOf 126 = 1 := by kernel_rfl
theorem Ty.k126 : kindT Try.prog 126 = some false := by kernel_rfl
theorem Ty.z126 : zeroOf Try.prog 126 = some [.int .u8 0] := by kernel_rfl
theorem Ty.c127 : Try.prog.cellsOf 127 = 1 := by kernel_rfl
theorem Ty.b127 : Try.prog.bytesOf 127 = 8 := by kernel_rfl
theorem Ty.k127 : kindT Try.prog 127 = some false := by kernel_rfl
theorem Ty.z127 : zeroOf Try.prog 127 = some [.nilf] := by kernel_rfl
theorem Ty.c128 : Try.prog.cellsOf 128 = 1 := by kernel_rfl
theorem Ty.b128 : Try.prog.bytesOf 128 = 4 := by kernel_rfl
theorem Ty.k128 : kindT Try.prog 128 = some false := by kernel_rfl
theorem Ty.z128 : zeroOf Try.prog 128 = some [.int .i32 0] := by kernel_rfl
theorem Ty.c129 : Try.prog.cellsOf 129 = 1 := by kernel_rfl
theorem Ty.b129 : Try.prog.bytesOf 129 = 4 := by kernel_rfl
theorem Ty.k129 : kindT Try.prog 129 = some false := by kernel_rfl
theorem Ty.z129 : zeroOf Try.prog 129 = some [.int .i32 0] := by kernel_rfl
theorem Ty.c130 : Try.prog.cellsOf 130 = 11 := by kernel_rfl
theorem Ty.b130 : Try.prog.bytesOf 130 = 48 := by kernel_rfl
theorem Ty.k130 : kindT Try.prog 130 = some true := by kernel_rfl
theorem Ty.z130 : zeroOf Try.prog 130 = some [.int .u64 0, .int .u64 0, .int .u32 0, .int .u8 0, .int .u8 0, .int .u8 0, .int .u8 0, .nilf, .nilp, .int .i32 0, .int .i32 0] := by kernel_rfl
theorem Ty.p130 : placesOf Try.prog 130 = some [(0, 1), (1, 1), (2, 1), (3, 1), (4, 1), (5, 1), (6, 1), (7, 1), (8, 1), (9, 1), (10, 1)] := by kernel_rfl
theorem Ty.c131 : Try.prog.cellsOf 131 = 11 := by kernel_rfl
theorem Ty.b131 : Try.prog.bytesOf 131 = 48 := by kernel_rfl
theorem Ty.k131 : kindT Try.prog 131 = some true := by kernel_rfl
theorem Ty.z131 : zeroOf Try.prog 131 = some [.int .u64 0, .int .u64 0, .int .u32 0, .int .u8 0, .int .u8 0, .int .u8 0, .int .u8 0, .nilf, .nilp, .int .i32 0, .int .i32 0] := by kernel_rfl
theorem Ty.p131 : placesOf Try.prog 131 = some [(0, 1), (1, 1), (2, 1), (3, 1), (4, 1), (5, 1), (6, 1), (7, 1), (8, 1), (9, 1), (10, 1)] := by kernel_rfl
theorem Ty.w9 : (Try.prog.info? 9).bind (·.zero) = some (.string ⟨#[]⟩) := by kernel_rfl
theorem Ty.i1 : (Try.prog.underlying 1).isSome = true := by rw [Try.underlying1]; rfl
theorem Ty.i2 : (Try.prog.underlying 2).isSome = true := by rw [Try.underlying2]; rfl
theorem Ty.i3 : (Try.prog.underlying 3).isSome = true := by rw [Try.underlying3]; rfl
theorem Ty.i4 : (Try.prog.underlying 4).isSome = true := by rw [Try.underlying4]; rfl
theorem Ty.i5 : (Try.prog.underlying 5).isSome = true := by rw [Try.underlying5]; rfl
theorem Ty.i6 : (Try.prog.underlying 6).isSome = true := by rw [Try.underlying6]; rfl
theorem Ty.i7 : (Try.prog.underlying 7).isSome = true := by rw [Try.underlying7]; rfl
theorem Ty.i8 : (Try.prog.underlying 8).isSome = true := by rw [Try.underlying8]; rfl
theorem Ty.i9 : (Try.prog.underlying 9).isSome = true := by rw [Try.underlying9]; rfl
theorem Ty.i10 : (Try.prog.underlying 10).isSome = true := by rw [Try.underlying10]; rfl
theorem Ty.i11 : (Try.prog.underlying 11).isSome = true := by rw [Try.underlying11]; rfl
theorem Ty.i12 : (Try.prog.underlying 12).isSome = true := by rw [Try.underlying12]; rfl
theorem Ty.i13 : (Try.prog.underlying 13).isSome = true := by rw [Try.underlying13]; rfl
theorem Ty.i14 : (Try.prog.underlying 14).isSome = true := by rw [Try.underlying14]; rfl
theorem Ty.i15 : (Try.prog.underlying 15).isSome = true := by rw [Try.underlying15]; rfl
theorem Ty.i16 : (Try.prog.underlying 16).isSome = true := by rw [Try.underlying16]; rfl
theorem Ty.i17 : (Try.prog.underlying 17).isSome = true := by rw [Try.underlying17]; rfl
theorem Ty.i18 : (Try.prog.underlying 18).isSome = true := by rw [Try.underlying18]; rfl
theorem Ty.i19 : (Try.prog.underlying 19).isSome = true := by rw [Try.underlying19]; rfl
theorem Ty.i20 : (Try.prog.underlying 20).isSome = true := by rw [Try.underlying20]; rfl
theorem Ty.i21 : (Try.prog.underlying 21).isSome = true := by rw [Try.underlying21]; rfl
theorem Ty.i22 : (Try.prog.underlying 22).isSome = true := by rw [Try.underlying22]; rfl
theorem Ty.i23 : (Try.prog.underlying 23).isSome = true := by rw [Try.underlying23]; rfl
theorem Ty.i24 : (Try.prog.underlying 24).isSome = true := by rw [Try.underlying24]; rfl
theorem Ty.i25 : (Try.prog.underlying 25).isSome = true := by rw [Try.underlying25]; rfl
theorem Ty.i26 : (Try.prog.underlying 26).isSome = true := by rw [Try.underlying26]; rfl
theorem Ty.i28 : (Try.prog.underlying 28).isSome = true := by rw [Try.underlying28]; rfl
theorem Ty.i29 : (Try.prog.underlying 29).isSome = true := by rw [Try.underlying29]; rfl
theorem Ty.i31 : (Try.prog.underlying 31).isSome = true := by rw [Try.underlying31]; rfl
theorem Ty.i32 : (Try.prog.underlying 32).isSome = true := by rw [Try.underlying32]; rfl
theorem Ty.i34 : (Try.prog.underlying 34).isSome = true := by rw [Try.underlying34]; rfl
theorem Ty.i35 : (Try.prog.underlying 35).isSome = true := by rw [Try.underlying35]; rfl
theorem Ty.i36 : (Try.prog.underlying 36).isSome = true := by rw [Try.underlying36]; rfl
theorem Ty.i37 : (Try.prog.underlying 37).isSome = true := by rw [Try.underlying37]; rfl
theorem Ty.i38 : (Try.prog.underlying 38).isSome = true := by rw [Try.underlying38]; rfl
theorem Ty.i39 : (Try.prog.underlying 39).isSome = true := by rw [Try.underlying39]; rfl
theorem Ty.i40 : (Try.prog.underlying 40).isSome = true := by rw [Try.underlying40]; rfl
theorem Ty.i41 : (Try.prog.underlying 41).isSome = true := by rw [Try.underlying41]; rfl
theorem Ty.i42 : (Try.prog.underlying 42).isSome = true := by rw [Try.underlying42]; rfl
theorem Ty.i44 : (Try.prog.underlying 44).isSome = true := by rw [Try.underlying44]; rfl
theorem Ty.i46 : (Try.prog.underlying 46).isSome = true := by rw [Try.underlying46]; rfl
theorem Ty.i47 : (Try.prog.underlying 47).isSome = true := by rw [Try.underlying47]; rfl
theorem Ty.i48 : (Try.prog.underlying 48).isSome = true := by rw [Try.underlying48]; rfl
theorem Ty.i50 : (Try.prog.underlying 50).isSome = true := by rw [Try.underlying50]; rfl
theorem Ty.i51 : (Try.prog.underlying 51).isSome = true := by rw [Try.underlying51]; rfl
theorem Ty.i53 : (Try.prog.underlying 53).isSome = true := by rw [Try.underlying53]; rfl
theorem Ty.i54 : (Try.prog.underlying 54).isSome = true := by rw [Try.underlying54]; rfl
theorem Ty.i55 : (Try.prog.underlying 55).isSome = true := by rw [Try.underlying55]; rfl
theorem Ty.i56 : (Try.prog.underlying 56).isSome = true := by rw [Try.underlying56]; rfl
theorem Ty.i57 : (Try.prog.underlying 57).isSome = true := by rw [Try.underlying57]; rfl
theorem Ty.i58 : (Try.prog.underlying 58).isSome = true := by rw [Try.underlying58]; rfl
theorem Ty.i59 : (Try.prog.underlying 59).isSome = true := by rw [Try.underlying59]; rfl
theorem Ty.i61 : (Try.prog.underlying 61).isSome = true := by rw [Try.underlying61]; rfl
theorem Ty.i63 : (Try.prog.underlying 63).isSome = true := by rw [Try.underlying63]; rfl
theorem Ty.i64 : (Try.prog.underlying 64).isSome = true := by rw [Try.underlying64]; rfl
theorem Ty.i65 : (Try.prog.underlying 65).isSome = true := by rw [Try.underlying65]; rfl
theorem Ty.i66 : (Try.prog.underlying 66).isSome = true := by rw [Try.underlying66]; rfl
theorem Ty.i67 : (Try.prog.underlying 67).isSome = true := by rw [Try.underlying67]; rfl
theorem Ty.i68 : (Try.prog.underlying 68).isSome = true := by rw [Try.underlying68]; rfl
theorem Ty.i69 : (Try.prog.underlying 69).isSome = true := by rw [Try.underlying69]; rfl
theorem Ty.i70 : (Try.prog.underlying 70).isSome = true := by rw [Try.underlying70]; rfl
theorem Ty.i71 : (Try.prog.underlying 71).isSome = true := by rw [Try.underlying71]; rfl
theorem Ty.i72 : (Try.prog.underlying 72).isSome = true := by rw [Try.underlying72]; rfl
theorem Ty.i73 : (Try.prog.underlying 73).isSome = true := by rw [Try.underlying73]; rfl
theorem Ty.i74 : (Try.prog.underlying 74).isSome = true := by rw [Try.underlying74]; rfl
theorem Ty.i75 : (Try.prog.underlying 75).isSome = true := by rw [Try.underlying75]; rfl
theorem Ty.i76 : (Try.prog.underlying 76).isSome = true := by rw [Try.underlying76]; rfl
theorem Ty.i78 : (Try.prog.underlying 78).isSome = true := by rw [Try.underlying78]; rfl
theorem Ty.i79 : (Try.prog.underlying 79).isSome = true := by rw [Try.underlying79]; rfl
theorem Ty.i80 : (Try.prog.underlying 80).isSome = true := by rw [Try.underlying80]; rfl
theorem Ty.i81 : (Try.prog.underlying 81).isSome = true := by rw [Try.underlying81]; rfl
theorem Ty.i82 : (Try.prog.underlying 82).isSome = true := by rw [Try.underlying82]; rfl
theorem Ty.i83 : (Try.prog.underlying 83).isSome = true := by rw [Try.underlying83]; rfl
theorem Ty.i84 : (Try.prog.underlying 84).isSome = true := by rw [Try.underlying84]; rfl
theorem Ty.i85 : (Try.prog.underlying 85).isSome = true := by rw [Try.underlying85]; rfl
theorem Ty.i86 : (Try.prog.underlying 86).isSome = true := by rw [Try.underlying86]; rfl
theorem Ty.i87 : (Try.prog.underlying 87).isSome = true := by rw [Try.underlying87]; rfl
theorem Ty.i88 : (Try.prog.underlying 88).isSome = true := by rw [Try.underlying88]; rfl
theorem Ty.i89 : (Try.prog.underlying 89).isSome = true := by rw [Try.underlying89]; rfl
theorem Ty.i90 : (Try.prog.underlying 90).isSome = true := by rw [Try.underlying90]; rfl
theorem Ty.i91 : (Try.prog.underlying 91).isSome = true := by rw [Try.underlying91]; rfl
theorem Ty.i92 : (Try.prog.underlying 92).isSome = true := by rw [Try.underlying92]; rfl
theorem Ty.i93 : (Try.prog.underlying 93).isSome = true := by rw [Try.underlying93]; rfl
theorem Ty.i94 : (Try.prog.underlying 94).isSome = true := by rw [Try.underlying94]; rfl
theorem Ty.i95 : (Try.prog.underlying 95).isSome = true := by rw [Try.underlying95]; rfl
theorem Ty.i96 : (Try.prog.underlying 96).isSome = true := by rw [Try.underlying96]; rfl
theorem Ty.i97 : (Try.prog.underlying 97).isSome = true := by rw [Try.underlying97]; rfl
theorem Ty.i98 : (Try.prog.underlying 98).isSome = true := by rw [Try.underlying98]; rfl
theorem Ty.i99 : (Try.prog.underlying 99).isSome = true := by rw [Try.underlying99]; rfl
theorem Ty.i100 : (Try.prog.underlying 100).isSome = true := by rw [Try.underlying100]; rfl
theorem Ty.i101 : (Try.prog.underlying 101).isSome = true := by rw [Try.underlying101]; rfl
theorem Ty.i102 : (Try.prog.underlying 102).isSome = true := by rw [Try.underlying102]; rfl
theorem Ty.i103 : (Try.prog.underlying 103).isSome = true := by rw [Try.underlying103]; rfl
theorem Ty.i104 : (Try.prog.underlying 104).isSome = true := by rw [Try.underlying104]; rfl
theorem Ty.i105 : (Try.prog.underlying 105).isSome = true := by rw [Try.underlying105]; rfl
theorem Ty.i106 : (Try.prog.underlying 106).isSome = true := by rw [Try.underlying106]; rfl
theorem Ty.i107 : (Try.prog.underlying 107).isSome = true := by rw [Try.underlying107]; rfl
theorem Ty.i108 : (Try.prog.underlying 108).isSome = true := by rw [Try.underlying108]; rfl
theorem Ty.i109 : (Try.prog.underlying 109).isSome = true := by rw [Try.underlying109]; rfl
theorem Ty.i110 : (Try.prog.underlying 110).isSome = true := by rw [Try.underlying110]; rfl
theorem Ty.i112 : (Try.prog.underlying 112).isSome = true := by rw [Try.underlying112]; rfl
theorem Ty.i113 : (Try.prog.underlying 113).isSome = true := by rw [Try.underlying113]; rfl
theorem Ty.i114 : (Try.prog.underlying 114).isSome = true := by rw [Try.underlying114]; rfl
theorem Ty.i115 : (Try.prog.underlying 115).isSome = true := by rw [Try.underlying115]; rfl
theorem Ty.i116 : (Try.prog.underlying 116).isSome = true := by rw [Try.underlying116]; rfl
theorem Ty.i117 : (Try.prog.underlying 117).isSome = true := by rw [Try.underlying117]; rfl
theorem Ty.i118 : (Try.prog.underlying 118).isSome = true := by rw [Try.underlying118]; rfl
theorem Ty.i119 : (Try.prog.underlying 119).isSome = true := by rw [Try.underlying119]; rfl
theorem Ty.i120 : (Try.prog.underlying 120).isSome = true := by rw [Try.underlying120]; rfl
theorem Ty.i121 : (Try.prog.underlying 121).isSome = true := by rw [Try.underlying121]; rfl
theorem Ty.i122 : (Try.prog.underlying 122).isSome = true := by rw [Try.underlying122]; rfl
theorem Ty.i123 : (Try.prog.underlying 123).isSome = true := by rw [Try.underlying123]; rfl
theorem Ty.i124 : (Try.prog.underlying 124).isSome = true := by rw [Try.underlying124]; rfl
theorem Ty.i125 : (Try.prog.underlying 125).isSome = true := by rw [Try.underlying125]; rfl
theorem Ty.i126 : (Try.prog.underlying 126).isSome = true := by rw [Try.underlying126]; rfl
theorem Ty.i127 : (Try.prog.underlying 127).isSome = true := by rw [Try.underlying127]; rfl
theorem Ty.i128 : (Try.prog.underlying 128).isSome = true := by rw [Try.underlying128]; rfl
theorem Ty.i129 : (Try.prog.underlying 129).isSome = true := by rw [Try.underlying129]; rfl
theorem Ty.i130 : (Try.prog.underlying 130).isSome = true := by rw [Try.underlying130]; rfl
theorem Ty.i131 : (Try.prog.underlying 131).isSome = true := by rw [Try.underlying131]; rfl
theorem Ty.f7_0 : FieldAt Try.prog 7 0 2 0 := ⟨⟨_, _, Try.underlying7, rfl, rfl, rfl, by rw [Ty.c2]; decide, Ty.i2⟩⟩
theorem Ty.f7_1 : FieldAt Try.prog 7 1 3 1 := ⟨⟨_, _, Try.underlying7, rfl, rfl, rfl, by rw [Ty.c3]; decide, Ty.i3⟩⟩
theorem Ty.f7_2 : FieldAt Try.prog 7 2 4 2 := ⟨⟨_, _, Try.underlying7, rfl, rfl, rfl, by rw [Ty.c4]; decide, Ty.i4⟩⟩
theorem Ty.f7_3 : FieldAt Try.prog 7 3 6 3 := ⟨⟨_, _, Try.underlying7, rfl, rfl, rfl, by rw [Ty.c6]; decide, Ty.i6⟩⟩
theorem Ty.f8_0 : FieldAt Try.prog 8 0 2 0 := ⟨⟨_, _, Try.underlying8, rfl, rfl, rfl, by rw [Ty.c2]; decide, Ty.i2⟩⟩
theorem Ty.f8_1 : FieldAt Try.prog 8 1 3 1 := ⟨⟨_, _, Try.underlying8, rfl, rfl, rfl, by rw [Ty.c3]; decide, Ty.i3⟩⟩
theorem Ty.f8_2 : FieldAt Try.prog 8 2 4 2 := ⟨⟨_, _, Try.underlying8, rfl, rfl, rfl, by rw [Ty.c4]; decide, Ty.i4⟩⟩
theorem Ty.f8_3 : FieldAt Try.prog 8 3 6 3 := ⟨⟨_, _, Try.underlying8, rfl, rfl, rfl, by rw [Ty.c6]; decide, Ty.i6⟩⟩
theorem Ty.f13_0 : FieldAt Try.prog 13 0 9 0 := ⟨⟨_, _, Try.underlying13, rfl, rfl, rfl, by rw [Ty.c9]; decide, Ty.i9⟩⟩
theorem Ty.f13_1 : FieldAt Try.prog 13 1 12 1 := ⟨⟨_, _, Try.underlying13, rfl, rfl, rfl, by rw [Ty.c12]; decide, Ty.i12⟩⟩
theorem Ty.f14_0 : FieldAt Try.prog 14 0 9 0 := ⟨⟨_, _, Try.underlying14, rfl, rfl, rfl, by rw [Ty.c9]; decide, Ty.i9⟩⟩
theorem Ty.f14_1 : FieldAt Try.prog 14 1 12 1 := ⟨⟨_, _, Try.underlying14, rfl, rfl, rfl, by rw [Ty.c12]; decide, Ty.i12⟩⟩
theorem Ty.f18_0 : FieldAt Try.prog 18 0 17 0 := ⟨⟨_, _, Try.underlying18, rfl, rfl, rfl, by rw [Ty.c17]; decide, Ty.i17⟩⟩
theorem Ty.f19_0 : FieldAt Try.prog 19 0 17 0 := ⟨⟨_, _, Try.underlying19, rfl, rfl, rfl, by rw [Ty.c17]; decide, Ty.i17⟩⟩
theorem Ty.s23 : SliceOf Try.prog 23 22 1 := ⟨Try.underlying23, Ty.c22, Ty.i22, by decide, by rw [Ty.b22]; decide, _, Ty.z22, rfl⟩
theorem Ty.s24 : SliceOf Try.prog 24 3 1 := ⟨Try.underlying24, Ty.c3, Ty.i3, by decide, by rw [Ty.b3]; decide, _, Ty.z3, rfl⟩
theorem Ty.s29 : SliceOf Try.prog 29 9 1 := ⟨Try.underlying29, Ty.c9, Ty.i9, by decide, by rw [Ty.b9]; decide, _, Ty.z9, rfl⟩
theorem Ty.s39 : SliceOf Try.prog 39 41 3 := ⟨Try.underlying39, Ty.c41, Ty.i41, by decide, by rw [Ty.b41]; decide, _, Ty.z41, rfl⟩
theorem Ty.f40_0 : FieldAt Try.prog 40 0 3 0 := ⟨⟨_, _, Try.underlying40, rfl, rfl, rfl, by rw [Ty.c3]; decide, Ty.i3⟩⟩
theorem Ty.f40_1 : FieldAt Try.prog 40 1 3 1 := ⟨⟨_, _, Try.underlying40, rfl, rfl, rfl, by rw [Ty.c3]; decide, Ty.i3⟩⟩
theorem Ty.f40_2 : FieldAt Try.prog 40 2 3 2 := ⟨⟨_, _, Try.underlying40, rfl, rfl, rfl, by rw [Ty.c3]; decide, Ty.i3⟩⟩
theorem Ty.f41_0 : FieldAt Try.prog 41 0 3 0 := ⟨⟨_, _, Try.underlying41, rfl, rfl, rfl, by rw [Ty.c3]; decide, Ty.i3⟩⟩
theorem Ty.f41_1 : FieldAt Try.prog 41 1 3 1 := ⟨⟨_, _, Try.underlying41, rfl, rfl, rfl, by rw [Ty.c3]; decide, Ty.i3⟩⟩
theorem Ty.f41_2 : FieldAt Try.prog 41 2 3 2 := ⟨⟨_, _, Try.underlying41, rfl, rfl, rfl, by rw [Ty.c3]; decide, Ty.i3⟩⟩
theorem Ty.q41 : StructEq Try.prog 41 [1, 1, 1] := structEq_of (by kernel_rfl) Try.underlying41 (by kernel_rfl) ⟨by decide, rfl, Try.underlying3, by decide, rfl, Try.underlying3, by decide, rfl, Try.underlying3, trivial⟩
theorem Ty.s58 : SliceOf Try.prog 58 66 2 := ⟨Try.underlying58, Ty.c66, Ty.i66, by decide, by rw [Ty.b66]; decide, _, Ty.z66, rfl⟩
theorem Ty.f65_0 : FieldAt Try.prog 65 0 3 0 := ⟨⟨_, _, Try.underlying65, rfl, rfl, rfl, by rw [Ty.c3]; decide, Ty.i3⟩⟩
theorem Ty.f65_1 : FieldAt Try.prog 65 1 3 1 := ⟨⟨_, _, Try.underlying65, rfl, rfl, rfl, by rw [Ty.c3]; decide, Ty.i3⟩⟩
theorem Ty.f66_0 : FieldAt Try.prog 66 0 3 0 := ⟨⟨_, _, Try.underlying66, rfl, rfl, rfl, by rw [Ty.c3]; decide, Ty.i3⟩⟩
theorem Ty.f66_1 : FieldAt Try.prog 66 1 3 1 := ⟨⟨_, _, Try.underlying66, rfl, rfl, rfl, by rw [Ty.c3]; decide, Ty.i3⟩⟩
theorem Ty.q66 : StructEq Try.prog 66 [1, 1] := structEq_of (by kernel_rfl) Try.underlying66 (by kernel_rfl) ⟨by decide, rfl, Try.underlying3, by decide, rfl, Try.underlying3, trivial⟩
theorem Ty.s67 : SliceOf Try.prog 67 5 1 := ⟨Try.underlying67, Ty.c5, Ty.i5, by decide, by rw [Ty.b5]; decide, _, Ty.z5, rfl⟩
theorem Ty.s70 : SliceOf Try.prog 70 76 2 := ⟨Try.underlying70, Ty.c76, Ty.i76, by decide, by rw [Ty.b76]; decide, _, Ty.z76, rfl⟩
theorem Ty.f71_0 : FieldAt Try.prog 71 0 29 0 := ⟨⟨_, _, Try.underlying71, rfl, rfl, rfl, by rw [Ty.c29]; decide, Ty.i29⟩⟩
theorem Ty.f71_1 : FieldAt Try.prog 71 1 70 1 := ⟨⟨_, _, Try.underlying71, rfl, rfl, rfl, by rw [Ty.c70]; decide, Ty.i70⟩⟩
theorem Ty.f72_0 : FieldAt Try.prog 72 0 29 0 := ⟨⟨_, _, Try.underlying72, rfl, rfl, rfl, by rw [Ty.c29]; decide, Ty.i29⟩⟩
theorem Ty.f72_1 : FieldAt Try.prog 72 1 70 1 := ⟨⟨_, _, Try.underlying72, rfl, rfl, rfl, by rw [Ty.c70]; decide, Ty.i70⟩⟩
theorem Ty.f75_0 : FieldAt Try.prog 75 0 3 0 := ⟨⟨_, _, Try.underlying75, rfl, rfl, rfl, by rw [Ty.c3]; decide, Ty.i3⟩⟩
theorem Ty.f75_1 : FieldAt Try.prog 75 1 9 1 := ⟨⟨_, _, Try.underlying75, rfl, rfl, rfl, by rw [Ty.c9]; decide, Ty.i9⟩⟩
theorem Ty.f76_0 : FieldAt Try.prog 76 0 3 0 := ⟨⟨_, _, Try.underlying76, rfl, rfl, rfl, by rw [Ty.c3]; decide, Ty.i3⟩⟩
theorem Ty.f76_1 : FieldAt Try.prog 76 1 9 1 := ⟨⟨_, _, Try.underlying76, rfl, rfl, rfl, by rw [Ty.c9]; decide, Ty.i9⟩⟩
theorem Ty.q76 : StructEq Try.prog 76 [1, 2] := structEq_of (by kernel_rfl) Try.underlying76 (by kernel_rfl) ⟨by decide, rfl, Try.underlying3, by decide, rfl, Try.underlying9, trivial⟩
theorem Ty.f106_0 : FieldAt Try.prog 106 0 105 0 := ⟨⟨_, _, Try.underlying106, rfl, rfl, rfl, by rw [Ty.c105]; decide, Ty.i105⟩⟩
theorem Ty.f106_1 : FieldAt Try.prog 106 1 67 1 := ⟨⟨_, _, Try.underlying106, rfl, rfl, rfl, by rw [Ty.c67]; decide, Ty.i67⟩⟩
theorem Ty.f107_0 : FieldAt Try.prog 107 0 105 0 := ⟨⟨_, _, Try.underlying107, rfl, rfl, rfl, by rw [Ty.c105]; decide, Ty.i105⟩⟩
theorem Ty.f107_1 : FieldAt Try.prog 107 1 67 1 := ⟨⟨_, _, Try.underlying107, rfl, rfl, rfl, by rw [Ty.c67]; decide, Ty.i67⟩⟩
theorem Ty.f118_0 : FieldAt Try.prog 118 0 17 0 := ⟨⟨_, _, Try.underlying118, rfl, rfl, rfl, by rw [Ty.c17]; decide, Ty.i17⟩⟩
theorem Ty.f118_1 : FieldAt Try.prog 118 1 17 1 := ⟨⟨_, _, Try.underlying118, rfl, rfl, rfl, by rw [Ty.c17]; decide, Ty.i17⟩⟩
theorem Ty.f118_2 : FieldAt Try.prog 118 2 17 2 := ⟨⟨_, _, Try.underlying118, rfl, rfl, rfl, by rw [Ty.c17]; decide, Ty.i17⟩⟩
theorem Ty.f118_3 : FieldAt Try.prog 118 3 9 3 := ⟨⟨_, _, Try.underlying118, rfl, rfl, rfl, by rw [Ty.c9]; decide, Ty.i9⟩⟩
theorem Ty.f119_0 : FieldAt Try.prog 119 0 17 0 := ⟨⟨_, _, Try.underlying119, rfl, rfl, rfl, by rw [Ty.c17]; decide, Ty.i17⟩⟩
theorem Ty.f119_1 : FieldAt Try.prog 119 1 17 1 := ⟨⟨_, _, Try.underlying119, rfl, rfl, rfl, by rw [Ty.c17]; decide, Ty.i17⟩⟩
theorem Ty.f119_2 : FieldAt Try.prog 119 2 17 2 := ⟨⟨_, _, Try.underlying119, rfl, rfl, rfl, by rw [Ty.c17]; decide, Ty.i17⟩⟩
theorem Ty.f119_3 : FieldAt Try.prog 119 3 9 3 := ⟨⟨_, _, Try.underlying119, rfl, rfl, rfl, by rw [Ty.c9]; decide, Ty.i9⟩⟩
theorem Ty.f130_0 : FieldAt Try.prog 130 0 12 0 := ⟨⟨_, _, Try.underlying130, rfl, rfl, rfl, by rw [Ty.c12]; decide, Ty.i12⟩⟩
theorem Ty.f130_1 : FieldAt Try.prog 130 1 12 1 := ⟨⟨_, _, Try.underlying130, rfl, rfl, rfl, by rw [Ty.c12]; decide, Ty.i12⟩⟩
theorem Ty.f130_2 : FieldAt Try.prog 130 2 124 2 := ⟨⟨_, _, Try.underlying130, rfl, rfl, rfl, by rw [Ty.c124]; decide, Ty.i124⟩⟩
theorem Ty.f130_3 : FieldAt Try.prog 130 3 125 3 := ⟨⟨_, _, Try.underlying130, rfl, rfl, rfl, by rw [Ty.c125]; decide, Ty.i125⟩⟩
theorem Ty.f130_4 : FieldAt Try.prog 130 4 5 4 := ⟨⟨_, _, Try.underlying130, rfl, rfl, rfl, by rw [Ty.c5]; decide, Ty.i5⟩⟩
theorem Ty.f130_5 : FieldAt Try.prog 130 5 5 5 := ⟨⟨_, _, Try.underlying130, rfl, rfl, rfl, by rw [Ty.c5]; decide, Ty.i5⟩⟩
theorem Ty.f130_6 : FieldAt Try.prog 130 6 126 6 := ⟨⟨_, _, Try.underlying130, rfl, rfl, rfl, by rw [Ty.c126]; decide, Ty.i126⟩⟩
theorem Ty.f130_7 : FieldAt Try.prog 130 7 127 7 := ⟨⟨_, _, Try.underlying130, rfl, rfl, rfl, by rw [Ty.c127]; decide, Ty.i127⟩⟩
theorem Ty.f130_8 : FieldAt Try.prog 130 8 114 8 := ⟨⟨_, _, Try.underlying130, rfl, rfl, rfl, by rw [Ty.c114]; decide, Ty.i114⟩⟩
theorem Ty.f130_9 : FieldAt Try.prog 130 9 128 9 := ⟨⟨_, _, Try.underlying130, rfl, rfl, rfl, by rw [Ty.c128]; decide, Ty.i128⟩⟩
theorem Ty.f130_10 : FieldAt Try.prog 130 10 129 10 := ⟨⟨_, _, Try.underlying130, rfl, rfl, rfl, by rw [Ty.c129]; decide, Ty.i129⟩⟩
theorem Ty.f131_0 : FieldAt Try.prog 131 0 12 0 := ⟨⟨_, _, Try.underlying131, rfl, rfl, rfl, by rw [Ty.c12]; decide, Ty.i12⟩⟩
theorem Ty.f131_1 : FieldAt Try.prog 131 1 12 1 := ⟨⟨_, _, Try.underlying131, rfl, rfl, rfl, by rw [Ty.c12]; decide, Ty.i12⟩⟩
theorem Ty.f131_2 : FieldAt Try.prog 131 2 124 2 := ⟨⟨_, _, Try.underlying131, rfl, rfl, rfl, by rw [Ty.c124]; decide, Ty.i124⟩⟩
theorem Ty.f131_3 : FieldAt Try.prog 131 3 125 3 := ⟨⟨_, _, Try.underlying131, rfl, rfl, rfl, by rw [Ty.c125]; decide, Ty.i125⟩⟩
theorem Ty.f131_4 : FieldAt Try.prog 131 4 5 4 := ⟨⟨_, _, Try.underlying131, rfl, rfl, rfl, by rw [Ty.c5]; decide, Ty.i5⟩⟩
theorem Ty.f131_5 : FieldAt Try.prog 131 5 5 5 := ⟨⟨_, _, Try.underlying131, rfl, rfl, rfl, by rw [Ty.c5]; decide, Ty.i5⟩⟩
theorem Ty.f131_6 : FieldAt Try.prog 131 6 126 6 := ⟨⟨_, _, Try.underlying131, rfl, rfl, rfl, by rw [Ty.c126]; decide, Ty.i126⟩⟩
theorem Ty.f131_7 : FieldAt Try.prog 131 7 127 7 := ⟨⟨_, _, Try.underlying131, rfl, rfl, rfl, by rw [Ty.c127]; decide, Ty.i127⟩⟩
theorem Ty.f131_8 : FieldAt Try.prog 131 8 114 8 := ⟨⟨_, _, Try.underlying131, rfl, rfl, rfl, by rw [Ty.c114]; decide, Ty.i114⟩⟩
theorem Ty.f131_9 : FieldAt Try.prog 131 9 128 9 := ⟨⟨_, _, Try.underlying131, rfl, rfl, rfl, by rw [Ty.c128]; decide, Ty.i128⟩⟩
theorem Ty.f131_10 : FieldAt Try.prog 131 10 129 10 := ⟨⟨_, _, Try.underlying131, rfl, rfl, rfl, by rw [Ty.c129]; decide, Ty.i129⟩⟩
attribute [go_sem] Ty.c1 Ty.b1 Ty.k1 Ty.z1 Ty.c2 Ty.b2 Ty.k2 Ty.z2 Ty.c3 Ty.b3 Ty.k3 Ty.z3 Ty.c4 Ty.b4 Ty.k4 Ty.z4 Ty.c5 Ty.b5 Ty.k5 Ty.z5 Ty.c6 Ty.b6 Ty.k6 Ty.z6 Ty.c7 Ty.b7 Ty.k7 Ty.z7 Ty.p7 Ty.c8 Ty.b8 Ty.k8 Ty.z8 Ty.p8 Ty.c9 Ty.b9 Ty.k9 Ty.z9 Ty.c10 Ty.b10 Ty.k10 Ty.z10 Ty.c11 Ty.b11 Ty.k11 Ty.z11 Ty.c12 Ty.b12 Ty.k12 Ty.z12 Ty.c13 Ty.b13 Ty.k13 Ty.z13 Ty.p13 Ty.c14 Ty.b14 Ty.k14 Ty.z14 Ty.p14 Ty.c15 Ty.b15 Ty.k15 Ty.z15 Ty.c16 Ty.b16 Ty.k16 Ty.z16 Ty.c17 Ty.b17 Ty.k17 Ty.z17 Ty.c18 Ty.b18 Ty.k18 Ty.z18 Ty.p18 Ty.c19 Ty.b19 Ty.k19 Ty.z19 Ty.p19 Ty.c20 Ty.b20 Ty.k20 Ty.z20 Ty.c21 Ty.b21 Ty.k21 Ty.z21 Ty.c22 Ty.b22 Ty.k22 Ty.z22 Ty.c23 Ty.b23 Ty.k23 Ty.z23 Ty.c24 Ty.b24 Ty.k24 Ty.z24 Ty.c25 Ty.b25 Ty.k25 Ty.z25 Ty.c26 Ty.b26 Ty.k26 Ty.z26 Ty.c28 Ty.b28 Ty.k28 Ty.z28 Ty.c29 Ty.b29 Ty.k29 Ty.z29 Ty.c31 Ty.b31 Ty.k31 Ty.z31 Ty.c32 Ty.b32 Ty.k32 Ty.z32 Ty.c34 Ty.b34 Ty.k34 Ty.z34 Ty.c35 Ty.b35 Ty.k35 Ty.z35 Ty.c36 Ty.b36 Ty.k36 Ty.z36 Ty.c37 Ty.b37 Ty.k37 Ty.z37 Ty.c38 Ty.b38 Ty.k38 Ty.z38 Ty.c39 Ty.b39 Ty.k39 Ty.z39 Ty.c40 Ty.b40 Ty.k40 Ty.z40 Ty.p40 Ty.c41 Ty.b41 Ty.k41 Ty.z41 Ty.p41 Ty.c42 Ty.b42 Ty.k42 Ty.z42 Ty.c44 Ty.b44 Ty.k44 Ty.z44 Ty.c46 Ty.b46 Ty.k46 Ty.z46 Ty.c47 Ty.b47 Ty.k47 Ty.z47 Ty.c48 Ty.b48 Ty.k48 Ty.z48 Ty.c50 Ty.b50 Ty.k50 Ty.z50 Ty.c51 Ty.b51 Ty.k51 Ty.z51 Ty.c53 Ty.b53 Ty.k53 Ty.z53 Ty.c54 Ty.b54 Ty.k54 Ty.z54 Ty.c55 Ty.b55 Ty.k55 Ty.z55 Ty.c56 Ty.b56 Ty.k56 Ty.z56 Ty.c57 Ty.b57 Ty.k57 Ty.z57 Ty.c58 Ty.b58 Ty.k58 Ty.z58 Ty.c59 Ty.b59 Ty.k59 Ty.z59 Ty.c61 Ty.b61 Ty.k61 Ty.z61 Ty.c63 Ty.b63 Ty.k63 Ty.z63 Ty.c64 Ty.b64 Ty.k64 Ty.z64 Ty.c65 Ty.b65 Ty.k65 Ty.z65 Ty.p65 Ty.c66 Ty.b66 Ty.k66 Ty.z66 Ty.p66 Ty.c67 Ty.b67 Ty.k67 Ty.z67 Ty.c68 Ty.b68 Ty.k68 Ty.z68 Ty.c69 Ty.b69 Ty.k69 Ty.z69 Ty.c70 Ty.b70 Ty.k70 Ty.z70 Ty.c71 Ty.b71 Ty.k71 Ty.z71 Ty.p71 Ty.c72 Ty.b72 Ty.k72 Ty.z72 Ty.p72 Ty.c73 Ty.b73 Ty.k73 Ty.z73 Ty.c74 Ty.b74 Ty.k74 Ty.z74 Ty.c75 Ty.b75 Ty.k75 Ty.z75 Ty.p75 Ty.c76 Ty.b76 Ty.k76 Ty.z76 Ty.p76 Ty.c78 Ty.b78 Ty.k78 Ty.z78 Ty.c79 Ty.b79 Ty.k79 Ty.z79 Ty.c80 Ty.b80 Ty.k80 Ty.z80 Ty.c81 Ty.b81 Ty.k81 Ty.z81 Ty.c82 Ty.b82 Ty.k82 Ty.z82 Ty.c83 Ty.b83 Ty.k83 Ty.z83 Ty.c84 Ty.b84 Ty.k84 Ty.z84 Ty.c85 Ty.b85 Ty.k85 Ty.z85 Ty.c86 Ty.b86 Ty.k86 Ty.z86 Ty.c87 Ty.b87 Ty.k87 Ty.z87 Ty.c88 Ty.b88 Ty.k88 Ty.z88 Ty.c89 Ty.b89 Ty.k89 Ty.z89 Ty.c90 Ty.b90 Ty.k90 Ty.z90 Ty.c91 Ty.b91 Ty.k91 Ty.z91 Ty.c92 Ty.b92 Ty.k92 Ty.z92 Ty.c93 Ty.b93 Ty.k93 Ty.z93 Ty.c94 Ty.b94 Ty.k94 Ty.z94 Ty.c95 Ty.b95 Ty.k95 Ty.z95 Ty.c96 Ty.b96 Ty.k96 Ty.z96 Ty.c97 Ty.b97 Ty.k97 Ty.z97 Ty.p97 Ty.c98 Ty.b98 Ty.k98 Ty.z98 Ty.c99 Ty.b99 Ty.k99 Ty.z99 Ty.c100 Ty.b100 Ty.k100 Ty.z100 Ty.c101 Ty.b101 Ty.k101 Ty.z101 Ty.c102 Ty.b102 Ty.k102 Ty.z102 Ty.c103 Ty.b103 Ty.k103 Ty.z103 Ty.c104 Ty.b104 Ty.k104 Ty.z104 Ty.c105 Ty.b105 Ty.k105 Ty.z105 Ty.c106 Ty.b106 Ty.k106 Ty.z106 Ty.p106 Ty.c107 Ty.b107 Ty.k107 Ty.z107 Ty.p107 Ty.c108 Ty.b108 Ty.k108 Ty.z108 Ty.c109 Ty.b109 Ty.k109 Ty.z109 Ty.c110 Ty.b110 Ty.k110 Ty.z110 Ty.c112 Ty.b112 Ty.k112 Ty.z112 Ty.c113 Ty.b113 Ty.k113 Ty.z113 Ty.c114 Ty.b114 Ty.k114 Ty.z114 Ty.c115 Ty.b115 Ty.k115 Ty.z115 Ty.c116 Ty.b116 Ty.k116 Ty.z116 Ty.c117 Ty.b117 Ty.k117 Ty.z117 Ty.c118 Ty.b118 Ty.k118 Ty.z118 Ty.p118 Ty.c119 Ty.b119 Ty.k119 Ty.z119 Ty.p119 Ty.c120 Ty.b120 Ty.k120 Ty.z120 Ty.p120 Ty.c121 Ty.b121 Ty.k121 Ty.z121 Ty.p121 Ty.c122 Ty.b122 Ty.k122 Ty.z122 Ty.p122 Ty.c123 Ty.b123 Ty.k123 Ty.z123 Ty.c124 Ty.b124 Ty.k124 Ty.z124 Ty.c125 Ty.b125 Ty.k125 Ty.z125 Ty.c126 Ty.b126 Ty.k126 Ty.z126 Ty.c127 Ty.b127 Ty.k127 Ty.z127 Ty.c128 Ty.b128 Ty.k128 Ty.z128 Ty.c129 Ty.b129 Ty.k129 Ty.z129 Ty.c130 Ty.b130 Ty.k130 Ty.z130 Ty.p130 Ty.c131 Ty.b131 Ty.k131 Ty.z131 Ty.p131
attribute [go_sem] Try.underlying1 Try.underlying2 Try.underlying3 Try.underlying4 Try.underlying5 Try.underlying6 Try.underlying7 Try.underlying8 Try.underlying9 Try.underlying10 Try.underlying11 Try.underlying12 Try.underlying13 Try.underlying14 Try.underlying15 Try.underlying16 Try.underlying17 Try.underlying18 Try.underlying19 Try.underlying20 Try.underlying21 Try.underlying22 Try.underlying23 Try.underlying24 Try.underlying25 Try.underlying26 Try.underlying28 Try.underlying29 Try.underlying31 Try.underlying32 Try.underlying34 Try.underlying35 Try.underlying36 Try.underlying37 Try.underlying38 Try.underlying39 Try.underlying40 Try.underlying41 Try.underlying42 Try.underlying44 Try.underlying46 Try.underlying47 Try.underlying48 Try.underlying50 Try.underlying51 Try.underlying53 Try.underlying54 Try.underlying55 Try.underlying56 Try.underlying57 Try.underlying58 Try.underlying59 Try.underlying61 Try.underlying63 Try.underlying64 Try.underlying65 Try.underlying66 Try.underlying67 Try.underlying68 Try.underlying69 Try.underlying70 Try.underlying71 Try.underlying72 Try.underlying73 Try.underlying74 Try.underlying75 Try.underlying76 Try.underlying78 Try.underlying79 Try.underlying80 Try.underlying81 Try.underlying82 Try.underlying83 Try.underlying84 Try.underlying85 Try.underlying86 Try.underlying87 Try.underlying88 Try.underlying89 Try.underlying90 Try.underlying91 Try.underlying92 Try.underlying93 Try.underlying94 Try.underlying95 Try.underlying96 Try.underlying97 Try.underlying98 Try.underlying99 Try.underlying100 Try.underlying101 Try.underlying102 Try.underlying103 Try.underlying104 Try.underlying105 Try.underlying106 Try.underlying107 Try.underlying108 Try.underlying109 Try.underlying110 Try.underlying112 Try.underlying113 Try.underlying114 Try.underlying115 Try.underlying116 Try.underlying117 Try.underlying118 Try.underlying119 Try.underlying120 Try.underlying121 Try.underlying122 Try.underlying123 Try.underlying124 Try.underlying125 Try.underlying126 Try.underlying127 Try.underlying128 Try.underlying129 Try.underlying130 Try.underlying131

end Go.Proofs.Ytpndpdbabblphaa
