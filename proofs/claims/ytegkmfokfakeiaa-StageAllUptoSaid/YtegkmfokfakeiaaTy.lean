/-
  Closed facts on this translation's types, printed by a program (wip/gen_types.py).
-/
import Derived.Test.YtegkmfokfakeiaaSEq
import Derived.Test.YtegkmfokfakeiaaRows
namespace Go.Proofs.Ytegkmfokfakeiaa
open Go.RowKit
set_option maxRecDepth 100000
theorem Ty.c1 : Try.prog.cellsOf 1 = 1 := by kernel_rfl
theorem Ty.b1 : Try.prog.bytesOf 1 = 8 := by kernel_rfl
theorem Ty.k1 : kindT Try.prog 1 = some false := by kernel_rfl
theorem Ty.z1 : zeroOf Try.prog 1 = some [.nilf] := by kernel_rfl
theorem Ty.c2 : Try.prog.cellsOf 2 = 1 := by kernel_rfl
theorem Ty.b2 : Try.prog.bytesOf 2 = 8 := by kernel_rfl
theorem Ty.k2 : kindT Try.prog 2 = some false := by kernel_rfl
theorem Ty.z2 : zeroOf Try.prog 2 = some [.int .i64 0] := by kernel_rfl
theorem Ty.c3 : Try.prog.cellsOf 3 = 1 := by kernel_rfl
theorem Ty.b3 : Try.prog.bytesOf 3 = 8 := by kernel_rfl
theorem Ty.k3 : kindT Try.prog 3 = some false := by kernel_rfl
theorem Ty.z3 : zeroOf Try.prog 3 = some [.int .i64 0] := by kernel_rfl
theorem Ty.c4 : Try.prog.cellsOf 4 = 1 := by kernel_rfl
theorem Ty.b4 : Try.prog.bytesOf 4 = 1 := by kernel_rfl
theorem Ty.k4 : kindT Try.prog 4 = some false := by kernel_rfl
theorem Ty.z4 : zeroOf Try.prog 4 = some [.bool false] := by kernel_rfl
theorem Ty.c5 : Try.prog.cellsOf 5 = 1 := by kernel_rfl
theorem Ty.b5 : Try.prog.bytesOf 5 = 1 := by kernel_rfl
theorem Ty.k5 : kindT Try.prog 5 = some false := by kernel_rfl
theorem Ty.z5 : zeroOf Try.prog 5 = some [.int .u8 0] := by kernel_rfl
theorem Ty.c6 : Try.prog.cellsOf 6 = 1 := by kernel_rfl
theorem Ty.b6 : Try.prog.bytesOf 6 = 1 := by kernel_rfl
theorem Ty.k6 : kindT Try.prog 6 = some false := by kernel_rfl
theorem Ty.z6 : zeroOf Try.prog 6 = some [.int .u8 0] := by kernel_rfl
theorem Ty.c7 : Try.prog.cellsOf 7 = 4 := by kernel_rfl
theorem Ty.b7 : Try.prog.bytesOf 7 = 24 := by kernel_rfl
theorem Ty.k7 : kindT Try.prog 7 = some true := by kernel_rfl
theorem Ty.z7 : zeroOf Try.prog 7 = some [.int .i64 0, .int .i64 0, .bool false, .int .u8 0] := by kernel_rfl
theorem Ty.p7 : placesOf Try.prog 7 = some [(0, 1), (1, 1), (2, 1), (3, 1)] := by kernel_rfl
theorem Ty.c8 : Try.prog.cellsOf 8 = 4 := by kernel_rfl
theorem Ty.b8 : Try.prog.bytesOf 8 = 24 := by kernel_rfl
theorem Ty.k8 : kindT Try.prog 8 = some true := by kernel_rfl
theorem Ty.z8 : zeroOf Try.prog 8 = some [.int .i64 0, .int .i64 0, .bool false, .int .u8 0] := by kernel_rfl
theorem Ty.p8 : placesOf Try.prog 8 = some [(0, 1), (1, 1), (2, 1), (3, 1)] := by kernel_rfl
theorem Ty.c9 : Try.prog.cellsOf 9 = 1 := by kernel_rfl
theorem Ty.b9 : Try.prog.bytesOf 9 = 16 := by kernel_rfl
theorem Ty.k9 : kindT Try.prog 9 = some false := by kernel_rfl
theorem Ty.z9 : zeroOf Try.prog 9 = some [.str []] := by kernel_rfl
theorem Ty.c10 : Try.prog.cellsOf 10 = 1 := by kernel_rfl
theorem Ty.b10 : Try.prog.bytesOf 10 = 16 := by kernel_rfl
theorem Ty.k10 : kindT Try.prog 10 = some false := by kernel_rfl
theorem Ty.z10 : zeroOf Try.prog 10 = some [.str []] := by kernel_rfl
theorem Ty.c11 : Try.prog.cellsOf 11 = 1 := by kernel_rfl
theorem Ty.b11 : Try.prog.bytesOf 11 = 16 := by kernel_rfl
theorem Ty.k11 : kindT Try.prog 11 = some false := by kernel_rfl
theorem Ty.z11 : zeroOf Try.prog 11 = some [.str []] := by kernel_rfl
theorem Ty.c12 : Try.prog.cellsOf 12 = 1 := by kernel_rfl
theorem Ty.b12 : Try.prog.bytesOf 12 = 8 := by kernel_rfl
theorem Ty.k12 : kindT Try.prog 12 = some false := by kernel_rfl
theorem Ty.z12 : zeroOf Try.prog 12 = some [.int .u64 0] := by kernel_rfl
theorem Ty.c13 : Try.prog.cellsOf 13 = 2 := by kernel_rfl
theorem Ty.b13 : Try.prog.bytesOf 13 = 24 := by kernel_rfl
theorem Ty.k13 : kindT Try.prog 13 = some true := by kernel_rfl
theorem Ty.z13 : zeroOf Try.prog 13 = some [.str [], .int .u64 0] := by kernel_rfl
theorem Ty.p13 : placesOf Try.prog 13 = some [(0, 1), (1, 1)] := by kernel_rfl
theorem Ty.c14 : Try.prog.cellsOf 14 = 2 := by kernel_rfl
theorem Ty.b14 : Try.prog.bytesOf 14 = 24 := by kernel_rfl
theorem Ty.k14 : kindT Try.prog 14 = some true := by kernel_rfl
theorem Ty.z14 : zeroOf Try.prog 14 = some [.str [], .int .u64 0] := by kernel_rfl
theorem Ty.p14 : placesOf Try.prog 14 = some [(0, 1), (1, 1)] := by kernel_rfl
theorem Ty.c15 : Try.prog.cellsOf 15 = 1 := by kernel_rfl
theorem Ty.b15 : Try.prog.bytesOf 15 = 8 := by kernel_rfl
theorem Ty.k15 : kindT Try.prog 15 = some false := by kernel_rfl
theorem Ty.z15 : zeroOf Try.prog 15 = some [.nilp] := by kernel_rfl
theorem Ty.c16 : Try.prog.cellsOf 16 = 1 := by kernel_rfl
theorem Ty.b16 : Try.prog.bytesOf 16 = 8 := by kernel_rfl
theorem Ty.k16 : kindT Try.prog 16 = some false := by kernel_rfl
theorem Ty.z16 : zeroOf Try.prog 16 = some [.nilp] := by kernel_rfl
theorem Ty.c17 : Try.prog.cellsOf 17 = 1 := by kernel_rfl
theorem Ty.b17 : Try.prog.bytesOf 17 = 8 := by kernel_rfl
theorem Ty.k17 : kindT Try.prog 17 = some false := by kernel_rfl
theorem Ty.z17 : zeroOf Try.prog 17 = some [.nilp] := by kernel_rfl
theorem Ty.c18 : Try.prog.cellsOf 18 = 1 := by kernel_rfl
theorem Ty.b18 : Try.prog.bytesOf 18 = 8 := by kernel_rfl
theorem Ty.k18 : kindT Try.prog 18 = some true := by kernel_rfl
theorem Ty.z18 : zeroOf Try.prog 18 = some [.nilp] := by kernel_rfl
theorem Ty.p18 : placesOf Try.prog 18 = some [(0, 1)] := by kernel_rfl
theorem Ty.c19 : Try.prog.cellsOf 19 = 1 := by kernel_rfl
theorem Ty.b19 : Try.prog.bytesOf 19 = 8 := by kernel_rfl
theorem Ty.k19 : kindT Try.prog 19 = some true := by kernel_rfl
theorem Ty.z19 : zeroOf Try.prog 19 = some [.nilp] := by kernel_rfl
theorem Ty.p19 : placesOf Try.prog 19 = some [(0, 1)] := by kernel_rfl
theorem Ty.c20 : Try.prog.cellsOf 20 = 1 := by kernel_rfl
theorem Ty.b20 : Try.prog.bytesOf 20 = 16 := by kernel_rfl
theorem Ty.k20 : kindT Try.prog 20 = some false := by kernel_rfl
theorem Ty.z20 : zeroOf Try.prog 20 = some [.nili] := by kernel_rfl
theorem Ty.c21 : Try.prog.cellsOf 21 = 1 := by kernel_rfl
theorem Ty.b21 : Try.prog.bytesOf 21 = 4 := by kernel_rfl
theorem Ty.k21 : kindT Try.prog 21 = some false := by kernel_rfl
theorem Ty.z21 : zeroOf Try.prog 21 = some [.int .i32 0] := by kernel_rfl
theorem Ty.c22 : Try.prog.cellsOf 22 = 1 := by kernel_rfl
theorem Ty.b22 : Try.prog.bytesOf 22 = 24 := by kernel_rfl
theorem Ty.k22 : kindT Try.prog 22 = some false := by kernel_rfl
theorem Ty.z22 : zeroOf Try.prog 22 = some [.nils] := by kernel_rfl
theorem Ty.c23 : Try.prog.cellsOf 23 = 1 := by kernel_rfl
theorem Ty.b23 : Try.prog.bytesOf 23 = 24 := by kernel_rfl
theorem Ty.k23 : kindT Try.prog 23 = some false := by kernel_rfl
theorem Ty.z23 : zeroOf Try.prog 23 = some [.nils] := by kernel_rfl
theorem Ty.c24 : Try.prog.cellsOf 24 = 2 := by kernel_rfl
theorem Ty.b24 : Try.prog.bytesOf 24 = 48 := by kernel_rfl
theorem Ty.k24 : kindT Try.prog 24 = some true := by kernel_rfl
theorem Ty.z24 : zeroOf Try.prog 24 = some [.nils, .nils] := by kernel_rfl
theorem Ty.p24 : placesOf Try.prog 24 = some [(0, 1), (1, 1)] := by kernel_rfl
theorem Ty.c25 : Try.prog.cellsOf 25 = 2 := by kernel_rfl
theorem Ty.b25 : Try.prog.bytesOf 25 = 48 := by kernel_rfl
theorem Ty.k25 : kindT Try.prog 25 = some true := by kernel_rfl
theorem Ty.z25 : zeroOf Try.prog 25 = some [.nils, .nils] := by kernel_rfl
theorem Ty.p25 : placesOf Try.prog 25 = some [(0, 1), (1, 1)] := by kernel_rfl
theorem Ty.c26 : Try.prog.cellsOf 26 = 1 := by kernel_rfl
theorem Ty.b26 : Try.prog.bytesOf 26 = 24 := by kernel_rfl
theorem Ty.k26 : kindT Try.prog 26 = some false := by kernel_rfl
theorem Ty.z26 : zeroOf Try.prog 26 = some [.nils] := by kernel_rfl
theorem Ty.c27 : Try.prog.cellsOf 27 = 1 := by kernel_rfl
theorem Ty.b27 : Try.prog.bytesOf 27 = 8 := by kernel_rfl
theorem Ty.k27 : kindT Try.prog 27 = some false := by kernel_rfl
theorem Ty.z27 : zeroOf Try.prog 27 = some [.int .i64 0] := by kernel_rfl
theorem Ty.c29 : Try.prog.cellsOf 29 = 1 := by kernel_rfl
theorem Ty.b29 : Try.prog.bytesOf 29 = 8 := by kernel_rfl
theorem Ty.k29 : kindT Try.prog 29 = some false := by kernel_rfl
theorem Ty.z29 : zeroOf Try.prog 29 = some [.nilf] := by kernel_rfl
theorem Ty.c30 : Try.prog.cellsOf 30 = 1 := by kernel_rfl
theorem Ty.b30 : Try.prog.bytesOf 30 = 8 := by kernel_rfl
theorem Ty.k30 : kindT Try.prog 30 = some false := by kernel_rfl
theorem Ty.z30 : zeroOf Try.prog 30 = some [.nilf] := by kernel_rfl
theorem Ty.c31 : Try.prog.cellsOf 31 = 1 := by kernel_rfl
theorem Ty.b31 : Try.prog.bytesOf 31 = 8 := by kernel_rfl
theorem Ty.k31 : kindT Try.prog 31 = some false := by kernel_rfl
theorem Ty.z31 : zeroOf Try.prog 31 = some [.nilf] := by kernel_rfl
theorem Ty.c33 : Try.prog.cellsOf 33 = 1 := by kernel_rfl
theorem Ty.b33 : Try.prog.bytesOf 33 = 8 := by kernel_rfl
theorem Ty.k33 : kindT Try.prog 33 = some false := by kernel_rfl
theorem Ty.z33 : zeroOf Try.prog 33 = some [.nilf] := by kernel_rfl
theorem Ty.c34 : Try.prog.cellsOf 34 = 1 := by kernel_rfl
theorem Ty.b34 : Try.prog.bytesOf 34 = 8 := by kernel_rfl
theorem Ty.k34 : kindT Try.prog 34 = some false := by kernel_rfl
theorem Ty.z34 : zeroOf Try.prog 34 = some [.nilf] := by kernel_rfl
theorem Ty.c35 : Try.prog.cellsOf 35 = 2 := by kernel_rfl
theorem Ty.b35 : Try.prog.bytesOf 35 = 16 := by kernel_rfl
theorem Ty.k35 : kindT Try.prog 35 = some true := by kernel_rfl
theorem Ty.z35 : zeroOf Try.prog 35 = some [.int .i64 0, .int .i64 0] := by kernel_rfl
theorem Ty.p35 : placesOf Try.prog 35 = some [(0, 1), (1, 1)] := by kernel_rfl
theorem Ty.c36 : Try.prog.cellsOf 36 = 2 := by kernel_rfl
theorem Ty.b36 : Try.prog.bytesOf 36 = 16 := by kernel_rfl
theorem Ty.k36 : kindT Try.prog 36 = some true := by kernel_rfl
theorem Ty.z36 : zeroOf Try.prog 36 = some [.int .i64 0, .int .i64 0] := by kernel_rfl
theorem Ty.p36 : placesOf Try.prog 36 = some [(0, 1), (1, 1)] := by kernel_rfl
theorem Ty.c37 : Try.prog.cellsOf 37 = 1 := by kernel_rfl
theorem Ty.b37 : Try.prog.bytesOf 37 = 8 := by kernel_rfl
theorem Ty.k37 : kindT Try.prog 37 = some false := by kernel_rfl
theorem Ty.z37 : zeroOf Try.prog 37 = some [.nilf] := by kernel_rfl
theorem Ty.c39 : Try.prog.cellsOf 39 = 1 := by kernel_rfl
theorem Ty.b39 : Try.prog.bytesOf 39 = 8 := by kernel_rfl
theorem Ty.k39 : kindT Try.prog 39 = some false := by kernel_rfl
theorem Ty.z39 : zeroOf Try.prog 39 = some [.nilf] := by kernel_rfl
theorem Ty.c40 : Try.prog.cellsOf 40 = 1 := by kernel_rfl
theorem Ty.b40 : Try.prog.bytesOf 40 = 8 := by kernel_rfl
theorem Ty.k40 : kindT Try.prog 40 = some false := by kernel_rfl
theorem Ty.z40 : zeroOf Try.prog 40 = some [.nilf] := by kernel_rfl
theorem Ty.c41 : Try.prog.cellsOf 41 = 2 := by kernel_rfl
theorem Ty.b41 : Try.prog.bytesOf 41 = 24 := by kernel_rfl
theorem Ty.k41 : kindT Try.prog 41 = some true := by kernel_rfl
theorem Ty.z41 : zeroOf Try.prog 41 = some [.int .i64 0, .str []] := by kernel_rfl
theorem Ty.p41 : placesOf Try.prog 41 = some [(0, 1), (1, 1)] := by kernel_rfl
theorem Ty.c42 : Try.prog.cellsOf 42 = 2 := by kernel_rfl
theorem Ty.b42 : Try.prog.bytesOf 42 = 24 := by kernel_rfl
theorem Ty.k42 : kindT Try.prog 42 = some true := by kernel_rfl
theorem Ty.z42 : zeroOf Try.prog 42 = some [.int .i64 0, .str []] := by kernel_rfl
theorem Ty.p42 : placesOf Try.prog 42 = some [(0, 1), (1, 1)] := by kernel_rfl
theorem Ty.c43 : Try.prog.cellsOf 43 = 1 := by kernel_rfl
theorem Ty.b43 : Try.prog.bytesOf 43 = 24 := by kernel_rfl
theorem Ty.k43 : kindT Try.prog 43 = some false := by kernel_rfl
theorem Ty.z43 : zeroOf Try.prog 43 = some [.nils] := by kernel_rfl
theorem Ty.c44 : Try.prog.cellsOf 44 = 1 := by kernel_rfl
theorem Ty.b44 : Try.prog.bytesOf 44 = 8 := by kernel_rfl
theorem Ty.k44 : kindT Try.prog 44 = some false := by kernel_rfl
theorem Ty.z44 : zeroOf Try.prog 44 = some [.nilf] := by kernel_rfl
theorem Ty.c45 : Try.prog.cellsOf 45 = 1 := by kernel_rfl
theorem Ty.b45 : Try.prog.bytesOf 45 = 8 := by kernel_rfl
theorem Ty.k45 : kindT Try.prog 45 = some false := by kernel_rfl
theorem Ty.z45 : zeroOf Try.prog 45 = some [.nilf] := by kernel_rfl
theorem Ty.c46 : Try.prog.cellsOf 46 = 1 := by kernel_rfl
theorem Ty.b46 : Try.prog.bytesOf 46 = 8 := by kernel_rfl
theorem Ty.k46 : kindT Try.prog 46 = some false := by kernel_rfl
theorem Ty.z46 : zeroOf Try.prog 46 = some [.nilf] := by kernel_rfl
theorem Ty.c47 : Try.prog.cellsOf 47 = 1 := by kernel_rfl
theorem Ty.b47 : Try.prog.bytesOf 47 = 8 := by kernel_rfl
theorem Ty.k47 : kindT Try.prog 47 = some false := by kernel_rfl
theorem Ty.z47 : zeroOf Try.prog 47 = some [.nilf] := by kernel_rfl
theorem Ty.c48 : Try.prog.cellsOf 48 = 1 := by kernel_rfl
theorem Ty.b48 : Try.prog.bytesOf 48 = 8 := by kernel_rfl
theorem Ty.k48 : kindT Try.prog 48 = some false := by kernel_rfl
theorem Ty.z48 : zeroOf Try.prog 48 = some [.nilf] := by kernel_rfl
theorem Ty.c49 : Try.prog.cellsOf 49 = 1 := by kernel_rfl
theorem Ty.b49 : Try.prog.bytesOf 49 = 24 := by kernel_rfl
theorem Ty.k49 : kindT Try.prog 49 = some false := by kernel_rfl
theorem Ty.z49 : zeroOf Try.prog 49 = some [.nils] := by kernel_rfl
theorem Ty.c50 : Try.prog.cellsOf 50 = 1 := by kernel_rfl
theorem Ty.b50 : Try.prog.bytesOf 50 = 8 := by kernel_rfl
theorem Ty.k50 : kindT Try.prog 50 = some false := by kernel_rfl
theorem Ty.z50 : zeroOf Try.prog 50 = some [.nilf] := by kernel_rfl
theorem Ty.c52 : Try.prog.cellsOf 52 = 1 := by kernel_rfl
theorem Ty.b52 : Try.prog.bytesOf 52 = 8 := by kernel_rfl
theorem Ty.k52 : kindT Try.prog 52 = some false := by kernel_rfl
theorem Ty.z52 : zeroOf Try.prog 52 = some [.nilf] := by kernel_rfl
theorem Ty.c53 : Try.prog.cellsOf 53 = 1 := by kernel_rfl
theorem Ty.b53 : Try.prog.bytesOf 53 = 8 := by kernel_rfl
theorem Ty.k53 : kindT Try.prog 53 = some false := by kernel_rfl
theorem Ty.z53 : zeroOf Try.prog 53 = some [.nilf] := by kernel_rfl
theorem Ty.c54 : Try.prog.cellsOf 54 = 1 := by kernel_rfl
theorem Ty.b54 : Try.prog.bytesOf 54 = 24 := by kernel_rfl
theorem Ty.k54 : kindT Try.prog 54 = some false := by kernel_rfl
theorem Ty.z54 : zeroOf Try.prog 54 = some [.nils] := by kernel_rfl
theorem Ty.c55 : Try.prog.cellsOf 55 = 3 := by kernel_rfl
theorem Ty.b55 : Try.prog.bytesOf 55 = 40 := by kernel_rfl
theorem Ty.k55 : kindT Try.prog 55 = some true := by kernel_rfl
theorem Ty.z55 : zeroOf Try.prog 55 = some [.nils, .int .i64 0, .int .i64 0] := by kernel_rfl
theorem Ty.p55 : placesOf Try.prog 55 = some [(0, 1), (1, 1), (2, 1)] := by kernel_rfl
theorem Ty.c56 : Try.prog.cellsOf 56 = 3 := by kernel_rfl
theorem Ty.b56 : Try.prog.bytesOf 56 = 40 := by kernel_rfl
theorem Ty.k56 : kindT Try.prog 56 = some true := by kernel_rfl
theorem Ty.z56 : zeroOf Try.prog 56 = some [.nils, .int .i64 0, .int .i64 0] := by kernel_rfl
theorem Ty.p56 : placesOf Try.prog 56 = some [(0, 1), (1, 1), (2, 1)] := by kernel_rfl
theorem Ty.c57 : Try.prog.cellsOf 57 = 1 := by kernel_rfl
theorem Ty.b57 : Try.prog.bytesOf 57 = 24 := by kernel_rfl
theorem Ty.k57 : kindT Try.prog 57 = some false := by kernel_rfl
theorem Ty.z57 : zeroOf Try.prog 57 = some [.nils] := by kernel_rfl
theorem Ty.c59 : Try.prog.cellsOf 59 = 1 := by kernel_rfl
theorem Ty.b59 : Try.prog.bytesOf 59 = 8 := by kernel_rfl
theorem Ty.k59 : kindT Try.prog 59 = some false := by kernel_rfl
theorem Ty.z59 : zeroOf Try.prog 59 = some [.nilf] := by kernel_rfl
theorem Ty.c60 : Try.prog.cellsOf 60 = 1 := by kernel_rfl
theorem Ty.b60 : Try.prog.bytesOf 60 = 8 := by kernel_rfl
theorem Ty.k60 : kindT Try.prog 60 = some false := by kernel_rfl
theorem Ty.z60 : zeroOf Try.prog 60 = some [.any] := by kernel_rfl
theorem Ty.c62 : Try.prog.cellsOf 62 = 1 := by kernel_rfl
theorem Ty.b62 : Try.prog.bytesOf 62 = 8 := by kernel_rfl
theorem Ty.k62 : kindT Try.prog 62 = some false := by kernel_rfl
theorem Ty.z62 : zeroOf Try.prog 62 = some [.nilf] := by kernel_rfl
theorem Ty.c63 : Try.prog.cellsOf 63 = 1 := by kernel_rfl
theorem Ty.b63 : Try.prog.bytesOf 63 = 8 := by kernel_rfl
theorem Ty.k63 : kindT Try.prog 63 = some false := by kernel_rfl
theorem Ty.z63 : zeroOf Try.prog 63 = some [.nilf] := by kernel_rfl
theorem Ty.c64 : Try.prog.cellsOf 64 = 1 := by kernel_rfl
theorem Ty.b64 : Try.prog.bytesOf 64 = 8 := by kernel_rfl
theorem Ty.k64 : kindT Try.prog 64 = some false := by kernel_rfl
theorem Ty.z64 : zeroOf Try.prog 64 = some [.nilf] := by kernel_rfl
theorem Ty.c65 : Try.prog.cellsOf 65 = 1 := by kernel_rfl
theorem Ty.b65 : Try.prog.bytesOf 65 = 8 := by kernel_rfl
theorem Ty.k65 : kindT Try.prog 65 = some false := by kernel_rfl
theorem Ty.z65 : zeroOf Try.prog 65 = some [.nilf] := by kernel_rfl
theorem Ty.c66 : Try.prog.cellsOf 66 = 4 := by kernel_rfl
theorem Ty.b66 : Try.prog.bytesOf 66 = 64 := by kernel_rfl
theorem Ty.k66 : kindT Try.prog 66 = some true := by kernel_rfl
theorem Ty.z66 : zeroOf Try.prog 66 = some [.int .i64 0, .int .i64 0, .nils, .nils] := by kernel_rfl
theorem Ty.p66 : placesOf Try.prog 66 = some [(0, 1), (1, 1), (2, 1), (3, 1)] := by kernel_rfl
theorem Ty.c67 : Try.prog.cellsOf 67 = 4 := by kernel_rfl
theorem Ty.b67 : Try.prog.bytesOf 67 = 64 := by kernel_rfl
theorem Ty.k67 : kindT Try.prog 67 = some true := by kernel_rfl
theorem Ty.z67 : zeroOf Try.prog 67 = some [.int .i64 0, .int .i64 0, .nils, .nils] := by kernel_rfl
theorem Ty.p67 : placesOf Try.prog 67 = some [(0, 1), (1, 1), (2, 1), (3, 1)] := by kernel_rfl
theorem Ty.c68 : Try.prog.cellsOf 68 = 1 := by kernel_rfl
theorem Ty.b68 : Try.prog.bytesOf 68 = 24 := by kernel_rfl
theorem Ty.k68 : kindT Try.prog 68 = some false := by kernel_rfl
theorem Ty.z68 : zeroOf Try.prog 68 = some [.nils] := by kernel_rfl
theorem Ty.c69 : Try.prog.cellsOf 69 = 1 := by kernel_rfl
theorem Ty.b69 : Try.prog.bytesOf 69 = 8 := by kernel_rfl
theorem Ty.k69 : kindT Try.prog 69 = some false := by kernel_rfl
theorem Ty.z69 : zeroOf Try.prog 69 = some [.nilf] := by kernel_rfl
theorem Ty.c70 : Try.prog.cellsOf 70 = 1 := by kernel_rfl
theorem Ty.b70 : Try.prog.bytesOf 70 = 8 := by kernel_rfl
theorem Ty.k70 : kindT Try.prog 70 = some false := by kernel_rfl
theorem Ty.z70 : zeroOf Try.prog 70 = some [.nilf] := by kernel_rfl
theorem Ty.c71 : Try.prog.cellsOf 71 = 1 := by kernel_rfl
theorem Ty.b71 : Try.prog.bytesOf 71 = 8 := by kernel_rfl
theorem Ty.k71 : kindT Try.prog 71 = some false := by kernel_rfl
theorem Ty.z71 : zeroOf Try.prog 71 = some [.nilf] := by kernel_rfl
theorem Ty.c72 : Try.prog.cellsOf 72 = 1 := by kernel_rfl
theorem Ty.b72 : Try.prog.bytesOf 72 = 8 := by kernel_rfl
theorem Ty.k72 : kindT Try.prog 72 = some false := by kernel_rfl
theorem Ty.z72 : zeroOf Try.prog 72 = some [.nilf] := by kernel_rfl
theorem Ty.c73 : Try.prog.cellsOf 73 = 1 := by kernel_rfl
theorem Ty.b73 : Try.prog.bytesOf 73 = 8 := by kernel_rfl
theorem Ty.k73 : kindT Try.prog 73 = some false := by kernel_rfl
theorem Ty.z73 : zeroOf Try.prog 73 = some [.nilf] := by kernel_rfl
theorem Ty.c74 : Try.prog.cellsOf 74 = 1 := by kernel_rfl
theorem Ty.b74 : Try.prog.bytesOf 74 = 24 := by kernel_rfl
theorem Ty.k74 : kindT Try.prog 74 = some false := by kernel_rfl
theorem Ty.z74 : zeroOf Try.prog 74 = some [.nils] := by kernel_rfl
theorem Ty.c76 : Try.prog.cellsOf 76 = 1 := by kernel_rfl
theorem Ty.b76 : Try.prog.bytesOf 76 = 8 := by kernel_rfl
theorem Ty.k76 : kindT Try.prog 76 = some false := by kernel_rfl
theorem Ty.z76 : zeroOf Try.prog 76 = some [.nilf] := by kernel_rfl
theorem Ty.c77 : Try.prog.cellsOf 77 = 1 := by kernel_rfl
theorem Ty.b77 : Try.prog.bytesOf 77 = 8 := by kernel_rfl
theorem Ty.k77 : kindT Try.prog 77 = some false := by kernel_rfl
theorem Ty.z77 : zeroOf Try.prog 77 = some [.nilf] := by kernel_rfl
theorem Ty.c78 : Try.prog.cellsOf 78 = 3 := by kernel_rfl
theorem Ty.b78 : Try.prog.bytesOf 78 = 24 := by kernel_rfl
theorem Ty.k78 : kindT Try.prog 78 = some true := by kernel_rfl
theorem Ty.z78 : zeroOf Try.prog 78 = some [.int .i64 0, .int .i64 0, .int .i64 0] := by kernel_rfl
theorem Ty.p78 : placesOf Try.prog 78 = some [(0, 1), (1, 1), (2, 1)] := by kernel_rfl
theorem Ty.c79 : Try.prog.cellsOf 79 = 3 := by kernel_rfl
theorem Ty.b79 : Try.prog.bytesOf 79 = 24 := by kernel_rfl
theorem Ty.k79 : kindT Try.prog 79 = some true := by kernel_rfl
theorem Ty.z79 : zeroOf Try.prog 79 = some [.int .i64 0, .int .i64 0, .int .i64 0] := by kernel_rfl
theorem Ty.p79 : placesOf Try.prog 79 = some [(0, 1), (1, 1), (2, 1)] := by kernel_rfl
theorem Ty.c80 : Try.prog.cellsOf 80 = 1 := by kernel_rfl
theorem Ty.b80 : Try.prog.bytesOf 80 = 8 := by kernel_rfl
theorem Ty.k80 : kindT Try.prog 80 = some false := by kernel_rfl
theorem Ty.z80 : zeroOf Try.prog 80 = some [.nilf] := by kernel_rfl
theorem Ty.c81 : Try.prog.cellsOf 81 = 1 := by kernel_rfl
theorem Ty.b81 : Try.prog.bytesOf 81 = 8 := by kernel_rfl
theorem Ty.k81 : kindT Try.prog 81 = some false := by kernel_rfl
theorem Ty.z81 : zeroOf Try.prog 81 = some [.nilf] := by kernel_rfl
theorem Ty.c82 : Try.prog.cellsOf 82 = 1 := by kernel_rfl
theorem Ty.b82 : Try.prog.bytesOf 82 = 8 := by kernel_rfl
theorem Ty.k82 : kindT Try.prog 82 = some false := by kernel_rfl
theorem Ty.z82 : zeroOf Try.prog 82 = some [.nilf] := by kernel_rfl
theorem Ty.c83 : Try.prog.cellsOf 83 = 1 := by kernel_rfl
theorem Ty.b83 : Try.prog.bytesOf 83 = 8 := by kernel_rfl
theorem Ty.k83 : kindT Try.prog 83 = some false := by kernel_rfl
theorem Ty.z83 : zeroOf Try.prog 83 = some [.nilf] := by kernel_rfl
theorem Ty.c84 : Try.prog.cellsOf 84 = 1 := by kernel_rfl
theorem Ty.b84 : Try.prog.bytesOf 84 = 8 := by kernel_rfl
theorem Ty.k84 : kindT Try.prog 84 = some false := by kernel_rfl
theorem Ty.z84 : zeroOf Try.prog 84 = some [.nilf] := by kernel_rfl
theorem Ty.c86 : Try.prog.cellsOf 86 = 1 := by kernel_rfl
theorem Ty.b86 : Try.prog.bytesOf 86 = 8 := by kernel_rfl
theorem Ty.k86 : kindT Try.prog 86 = some false := by kernel_rfl
theorem Ty.z86 : zeroOf Try.prog 86 = some [.nilf] := by kernel_rfl
theorem Ty.c87 : Try.prog.cellsOf 87 = 1 := by kernel_rfl
theorem Ty.b87 : Try.prog.bytesOf 87 = 8 := by kernel_rfl
theorem Ty.k87 : kindT Try.prog 87 = some false := by kernel_rfl
theorem Ty.z87 : zeroOf Try.prog 87 = some [.nilf] := by kernel_rfl
theorem Ty.c88 : Try.prog.cellsOf 88 = 1 := by kernel_rfl
theorem Ty.b88 : Try.prog.bytesOf 88 = 24 := by kernel_rfl
theorem Ty.k88 : kindT Try.prog 88 = some false := by kernel_rfl
theorem Ty.z88 : zeroOf Try.prog 88 = some [.nils] := by kernel_rfl
theorem Ty.c89 : Try.prog.cellsOf 89 = 3 := by kernel_rfl
theorem Ty.b89 : Try.prog.bytesOf 89 = 40 := by kernel_rfl
theorem Ty.k89 : kindT Try.prog 89 = some true := by kernel_rfl
theorem Ty.z89 : zeroOf Try.prog 89 = some [.int .i64 0, .nils, .int .i64 0] := by kernel_rfl
theorem Ty.p89 : placesOf Try.prog 89 = some [(0, 1), (1, 1), (2, 1)] := by kernel_rfl
theorem Ty.c90 : Try.prog.cellsOf 90 = 3 := by kernel_rfl
theorem Ty.b90 : Try.prog.bytesOf 90 = 40 := by kernel_rfl
theorem Ty.k90 : kindT Try.prog 90 = some true := by kernel_rfl
theorem Ty.z90 : zeroOf Try.prog 90 = some [.int .i64 0, .nils, .int .i64 0] := by kernel_rfl
theorem Ty.p90 : placesOf Try.prog 90 = some [(0, 1), (1, 1), (2, 1)] := by kernel_rfl
theorem Ty.c91 : Try.prog.cellsOf 91 = 1 := by kernel_rfl
theorem Ty.b91 : Try.prog.bytesOf 91 = 8 := by kernel_rfl
theorem Ty.k91 : kindT Try.prog 91 = some false := by kernel_rfl
theorem Ty.z91 : zeroOf Try.prog 91 = some [.nilf] := by kernel_rfl
theorem Ty.c93 : Try.prog.cellsOf 93 = 1 := by kernel_rfl
theorem Ty.b93 : Try.prog.bytesOf 93 = 8 := by kernel_rfl
theorem Ty.k93 : kindT Try.prog 93 = some false := by kernel_rfl
theorem Ty.z93 : zeroOf Try.prog 93 = some [.nilf] := by kernel_rfl
theorem Ty.c94 : Try.prog.cellsOf 94 = 1 := by kernel_rfl
theorem Ty.b94 : Try.prog.bytesOf 94 = 8 := by kernel_rfl
theorem Ty.k94 : kindT Try.prog 94 = some false := by kernel_rfl
theorem Ty.z94 : zeroOf Try.prog 94 = some [.nilf] := by kernel_rfl
theorem Ty.c95 : Try.prog.cellsOf 95 = 1 := by kernel_rfl
theorem Ty.b95 : Try.prog.bytesOf 95 = 8 := by kernel_rfl
theorem Ty.k95 : kindT Try.prog 95 = some false := by kernel_rfl
theorem Ty.z95 : zeroOf Try.prog 95 = some [.nilf] := by kernel_rfl
theorem Ty.c96 : Try.prog.cellsOf 96 = 1 := by kernel_rfl
theorem Ty.b96 : Try.prog.bytesOf 96 = 8 := by kernel_rfl
theorem Ty.k96 : kindT Try.prog 96 = some false := by kernel_rfl
theorem Ty.z96 : zeroOf Try.prog 96 = some [.nilf] := by kernel_rfl
theorem Ty.c97 : Try.prog.cellsOf 97 = 1 := by kernel_rfl
theorem Ty.b97 : Try.prog.bytesOf 97 = 8 := by kernel_rfl
theorem Ty.k97 : kindT Try.prog 97 = some false := by kernel_rfl
theorem Ty.z97 : zeroOf Try.prog 97 = some [.nilf] := by kernel_rfl
theorem Ty.c99 : Try.prog.cellsOf 99 = 1 := by kernel_rfl
theorem Ty.b99 : Try.prog.bytesOf 99 = 8 := by kernel_rfl
theorem Ty.k99 : kindT Try.prog 99 = some false := by kernel_rfl
theorem Ty.z99 : zeroOf Try.prog 99 = some [.nilf] := by kernel_rfl
theorem Ty.c101 : Try.prog.cellsOf 101 = 1 := by kernel_rfl
theorem Ty.b101 : Try.prog.bytesOf 101 = 8 := by kernel_rfl
theorem Ty.k101 : kindT Try.prog 101 = some false := by kernel_rfl
theorem Ty.z101 : zeroOf Try.prog 101 = some [.nilf] := by kernel_rfl
theorem Ty.c102 : Try.prog.cellsOf 102 = 1 := by kernel_rfl
theorem Ty.b102 : Try.prog.bytesOf 102 = 8 := by kernel_rfl
theorem Ty.k102 : kindT Try.prog 102 = some false := by kernel_rfl
theorem Ty.z102 : zeroOf Try.prog 102 = some [.nilf] := by kernel_rfl
theorem Ty.c104 : Try.prog.cellsOf 104 = 1 := by kernel_rfl
theorem Ty.b104 : Try.prog.bytesOf 104 = 8 := by kernel_rfl
theorem Ty.k104 : kindT Try.prog 104 = some false := by kernel_rfl
theorem Ty.z104 : zeroOf Try.prog 104 = some [.nilf] := by kernel_rfl
theorem Ty.c106 : Try.prog.cellsOf 106 = 1 := by kernel_rfl
theorem Ty.b106 : Try.prog.bytesOf 106 = 8 := by kernel_rfl
theorem Ty.k106 : kindT Try.prog 106 = some false := by kernel_rfl
theorem Ty.z106 : zeroOf Try.prog 106 = some [.nilf] := by kernel_rfl
theorem Ty.c108 : Try.prog.cellsOf 108 = 1 := by kernel_rfl
theorem Ty.b108 : Try.prog.bytesOf 108 = 8 := by kernel_rfl
theorem Ty.k108 : kindT Try.prog 108 = some false := by kernel_rfl
theorem Ty.z108 : zeroOf Try.prog 108 = some [.nilf] := by kernel_rfl
theorem Ty.c109 : Try.prog.cellsOf 109 = 1 := by kernel_rfl
theorem Ty.b109 : Try.prog.bytesOf 109 = 8 := by kernel_rfl
theorem Ty.k109 : kindT Try.prog 109 = some false := by kernel_rfl
theorem Ty.z109 : zeroOf Try.prog 109 = some [.nilf] := by kernel_rfl
theorem Ty.c110 : Try.prog.cellsOf 110 = 1 := by kernel_rfl
theorem Ty.b110 : Try.prog.bytesOf 110 = 8 := by kernel_rfl
theorem Ty.k110 : kindT Try.prog 110 = some false := by kernel_rfl
theorem Ty.z110 : zeroOf Try.prog 110 = some [.nilf] := by kernel_rfl
theorem Ty.c111 : Try.prog.cellsOf 111 = 1 := by kernel_rfl
theorem Ty.b111 : Try.prog.bytesOf 111 = 8 := by kernel_rfl
theorem Ty.k111 : kindT Try.prog 111 = some false := by kernel_rfl
theorem Ty.z111 : zeroOf Try.prog 111 = some [.nilf] := by kernel_rfl
theorem Ty.c112 : Try.prog.cellsOf 112 = 1 := by kernel_rfl
theorem Ty.b112 : Try.prog.bytesOf 112 = 8 := by kernel_rfl
theorem Ty.k112 : kindT Try.prog 112 = some false := by kernel_rfl
theorem Ty.z112 : zeroOf Try.prog 112 = some [.nilf] := by kernel_rfl
theorem Ty.c113 : Try.prog.cellsOf 113 = 1 := by kernel_rfl
theorem Ty.b113 : Try.prog.bytesOf 113 = 8 := by kernel_rfl
theorem Ty.k113 : kindT Try.prog 113 = some false := by kernel_rfl
theorem Ty.z113 : zeroOf Try.prog 113 = some [.nilf] := by kernel_rfl
theorem Ty.c114 : Try.prog.cellsOf 114 = 1 := by kernel_rfl
theorem Ty.b114 : Try.prog.bytesOf 114 = 8 := by kernel_rfl
theorem Ty.k114 : kindT Try.prog 114 = some false := by kernel_rfl
theorem Ty.z114 : zeroOf Try.prog 114 = some [.nilf] := by kernel_rfl
theorem Ty.c115 : Try.prog.cellsOf 115 = 1 := by kernel_rfl
theorem Ty.b115 : Try.prog.bytesOf 115 = 24 := by kernel_rfl
theorem Ty.k115 : kindT Try.prog 115 = some false := by kernel_rfl
theorem Ty.z115 : zeroOf Try.prog 115 = some [.nils] := by kernel_rfl
theorem Ty.c117 : Try.prog.cellsOf 117 = 1 := by kernel_rfl
theorem Ty.b117 : Try.prog.bytesOf 117 = 8 := by kernel_rfl
theorem Ty.k117 : kindT Try.prog 117 = some false := by kernel_rfl
theorem Ty.z117 : zeroOf Try.prog 117 = some [.nilf] := by kernel_rfl
theorem Ty.c118 : Try.prog.cellsOf 118 = 1 := by kernel_rfl
theorem Ty.b118 : Try.prog.bytesOf 118 = 24 := by kernel_rfl
theorem Ty.k118 : kindT Try.prog 118 = some false := by kernel_rfl
theorem Ty.z118 : zeroOf Try.prog 118 = some [.nils] := by kernel_rfl
theorem Ty.c119 : Try.prog.cellsOf 119 = 1 := by kernel_rfl
theorem Ty.b119 : Try.prog.bytesOf 119 = 8 := by kernel_rfl
theorem Ty.k119 : kindT Try.prog 119 = some false := by kernel_rfl
theorem Ty.z119 : zeroOf Try.prog 119 = some [.nilf] := by kernel_rfl
theorem Ty.c120 : Try.prog.cellsOf 120 = 2 := by kernel_rfl
theorem Ty.b120 : Try.prog.bytesOf 120 = 16 := by kernel_rfl
theorem Ty.k120 : kindT Try.prog 120 = some true := by kernel_rfl
theorem Ty.z120 : zeroOf Try.prog 120 = some [.int .i64 0, .int .i64 0] := by kernel_rfl
theorem Ty.p120 : placesOf Try.prog 120 = some [(0, 1), (1, 1)] := by kernel_rfl
theorem Ty.c121 : Try.prog.cellsOf 121 = 2 := by kernel_rfl
theorem Ty.b121 : Try.prog.bytesOf 121 = 16 := by kernel_rfl
theorem Ty.k121 : kindT Try.prog 121 = some true := by kernel_rfl
theorem Ty.z121 : zeroOf Try.prog 121 = some [.int .i64 0, .int .i64 0] := by kernel_rfl
theorem Ty.p121 : placesOf Try.prog 121 = some [(0, 1), (1, 1)] := by kernel_rfl
theorem Ty.c122 : Try.prog.cellsOf 122 = 1 := by kernel_rfl
theorem Ty.b122 : Try.prog.bytesOf 122 = 8 := by kernel_rfl
theorem Ty.k122 : kindT Try.prog 122 = some false := by kernel_rfl
theorem Ty.z122 : zeroOf Try.prog 122 = some [.nilf] := by kernel_rfl
theorem Ty.c123 : Try.prog.cellsOf 123 = 1 := by kernel_rfl
theorem Ty.b123 : Try.prog.bytesOf 123 = 8 := by kernel_rfl
theorem Ty.k123 : kindT Try.prog 123 = some false := by kernel_rfl
theorem Ty.z123 : zeroOf Try.prog 123 = some [.nilf] := by kernel_rfl
theorem Ty.c124 : Try.prog.cellsOf 124 = 1 := by kernel_rfl
theorem Ty.b124 : Try.prog.bytesOf 124 = 8 := by kernel_rfl
theorem Ty.k124 : kindT Try.prog 124 = some false := by kernel_rfl
theorem Ty.z124 : zeroOf Try.prog 124 = some [.nilf] := by kernel_rfl
theorem Ty.c125 : Try.prog.cellsOf 125 = 2 := by kernel_rfl
theorem Ty.b125 : Try.prog.bytesOf 125 = 16 := by kernel_rfl
theorem Ty.k125 : kindT Try.prog 125 = some true := by kernel_rfl
theorem Ty.z125 : zeroOf Try.prog 125 = some [.nilf, .nilf] := by kernel_rfl
theorem Ty.p125 : placesOf Try.prog 125 = some [(0, 1), (1, 1)] := by kernel_rfl
theorem Ty.c126 : Try.prog.cellsOf 126 = 2 := by kernel_rfl
theorem Ty.b126 : Try.prog.bytesOf 126 = 16 := by kernel_rfl
theorem Ty.k126 : kindT Try.prog 126 = some true := by kernel_rfl
theorem Ty.z126 : zeroOf Try.prog 126 = some [.nilf, .nilf] := by kernel_rfl
theorem Ty.p126 : placesOf Try.prog 126 = some [(0, 1), (1, 1)] := by kernel_rfl
theorem Ty.c128 : Try.prog.cellsOf 128 = 1 := by kernel_rfl
theorem Ty.b128 : Try.prog.bytesOf 128 = 8 := by kernel_rfl
theorem Ty.k128 : kindT Try.prog 128 = some false := by kernel_rfl
theorem Ty.z128 : zeroOf Try.prog 128 = some [.any] := by kernel_rfl
theorem Ty.c130 : Try.prog.cellsOf 130 = 1 := by kernel_rfl
theorem Ty.b130 : Try.prog.bytesOf 130 = 8 := by kernel_rfl
theorem Ty.k130 : kindT Try.prog 130 = some false := by kernel_rfl
theorem Ty.z130 : zeroOf Try.prog 130 = some [.nilf] := by kernel_rfl
theorem Ty.c131 : Try.prog.cellsOf 131 = 1 := by kernel_rfl
theorem Ty.b131 : Try.prog.bytesOf 131 = 8 := by kernel_rfl
theorem Ty.k131 : kindT Try.prog 131 = some false := by kernel_rfl
theorem Ty.z131 : zeroOf Try.prog 131 = some [.nilf] := by kernel_rfl
theorem Ty.c132 : Try.prog.cellsOf 132 = 1 := by kernel_rfl
theorem Ty.b132 : Try.prog.bytesOf 132 = 8 := by kernel_rfl
theorem Ty.k132 : kindT Try.prog 132 = some false := by kernel_rfl
theorem Ty.z132 : zeroOf Try.prog 132 = some [.nilf] := by kernel_rfl
theorem Ty.c133 : Try.prog.cellsOf 133 = 1 := by kernel_rfl
theorem Ty.b133 : Try.prog.bytesOf 133 = 8 := by kernel_rfl
theorem Ty.k133 : kindT Try.prog 133 = some false := by kernel_rfl
theorem Ty.z133 : zeroOf Try.prog 133 = some [.nilf] := by kernel_rfl
theorem Ty.c134 : Try.prog.cellsOf 134 = 2 := by kernel_rfl
theorem Ty.b134 : Try.prog.bytesOf 134 = 16 := by kernel_rfl
theorem Ty.k134 : kindT Try.prog 134 = some true := by kernel_rfl
theorem Ty.z134 : zeroOf Try.prog 134 = some [.int .i64 0, .int .i64 0] := by kernel_rfl
theorem Ty.p134 : placesOf Try.prog 134 = some [(0, 1), (1, 1)] := by kernel_rfl
theorem Ty.c135 : Try.prog.cellsOf 135 = 2 := by kernel_rfl
theorem Ty.b135 : Try.prog.bytesOf 135 = 16 := by kernel_rfl
theorem Ty.k135 : kindT Try.prog 135 = some true := by kernel_rfl
theorem Ty.z135 : zeroOf Try.prog 135 = some [.int .i64 0, .int .i64 0] := by kernel_rfl
theorem Ty.p135 : placesOf Try.prog 135 = some [(0, 1), (1, 1)] := by kernel_rfl
theorem Ty.c136 : Try.prog.cellsOf 136 = 1 := by kernel_rfl
theorem Ty.b136 : Try.prog.bytesOf 136 = 8 := by kernel_rfl
theorem Ty.k136 : kindT Try.prog 136 = some false := by kernel_rfl
theorem Ty.z136 : zeroOf Try.prog 136 = some [.nilf] := by kernel_rfl
theorem Ty.c137 : Try.prog.cellsOf 137 = 1 := by kernel_rfl
theorem Ty.b137 : Try.prog.bytesOf 137 = 8 := by kernel_rfl
theorem Ty.k137 : kindT Try.prog 137 = some false := by kernel_rfl
theorem Ty.z137 : zeroOf Try.prog 137 = some [.nilf] := by kernel_rfl
theorem Ty.c138 : Try.prog.cellsOf 138 = 1 := by kernel_rfl
theorem Ty.b138 : Try.prog.bytesOf 138 = 8 := by kernel_rfl
theorem Ty.k138 : kindT Try.prog 138 = some false := by kernel_rfl
theorem Ty.z138 : zeroOf Try.prog 138 = some [.nilf] := by kernel_rfl
theorem Ty.c139 : Try.prog.cellsOf 139 = 1 := by kernel_rfl
theorem Ty.b139 : Try.prog.bytesOf 139 = 8 := by kernel_rfl
theorem Ty.k139 : kindT Try.prog 139 = some false := by kernel_rfl
theorem Ty.z139 : zeroOf Try.prog 139 = some [.nilf] := by kernel_rfl
theorem Ty.c140 : Try.prog.cellsOf 140 = 1 := by kernel_rfl
theorem Ty.b140 : Try.prog.bytesOf 140 = 8 := by kernel_rfl
theorem Ty.k140 : kindT Try.prog 140 = some false := by kernel_rfl
theorem Ty.z140 : zeroOf Try.prog 140 = some [.nilf] := by kernel_rfl
theorem Ty.c141 : Try.prog.cellsOf 141 = 1 := by kernel_rfl
theorem Ty.b141 : Try.prog.bytesOf 141 = 8 := by kernel_rfl
theorem Ty.k141 : kindT Try.prog 141 = some false := by kernel_rfl
theorem Ty.z141 : zeroOf Try.prog 141 = some [.nilf] := by kernel_rfl
theorem Ty.c142 : Try.prog.cellsOf 142 = 1 := by kernel_rfl
theorem Ty.b142 : Try.prog.bytesOf 142 = 8 := by kernel_rfl
theorem Ty.k142 : kindT Try.prog 142 = some false := by kernel_rfl
theorem Ty.z142 : zeroOf Try.prog 142 = some [.nilf] := by kernel_rfl
theorem Ty.c143 : Try.prog.cellsOf 143 = 1 := by kernel_rfl
theorem Ty.b143 : Try.prog.bytesOf 143 = 8 := by kernel_rfl
theorem Ty.k143 : kindT Try.prog 143 = some false := by kernel_rfl
theorem Ty.z143 : zeroOf Try.prog 143 = some [.int .u64 0] := by kernel_rfl
theorem Ty.c144 : Try.prog.cellsOf 144 = 1 := by kernel_rfl
theorem Ty.b144 : Try.prog.bytesOf 144 = 8 := by kernel_rfl
theorem Ty.k144 : kindT Try.prog 144 = some false := by kernel_rfl
theorem Ty.z144 : zeroOf Try.prog 144 = some [.nilf] := by kernel_rfl
theorem Ty.c146 : Try.prog.cellsOf 146 = 1 := by kernel_rfl
theorem Ty.b146 : Try.prog.bytesOf 146 = 8 := by kernel_rfl
theorem Ty.k146 : kindT Try.prog 146 = some false := by kernel_rfl
theorem Ty.z146 : zeroOf Try.prog 146 = some [.nilf] := by kernel_rfl
theorem Ty.c147 : Try.prog.cellsOf 147 = 1 := by kernel_rfl
theorem Ty.b147 : Try.prog.bytesOf 147 = 8 := by kernel_rfl
theorem Ty.k147 : kindT Try.prog 147 = some false := by kernel_rfl
theorem Ty.z147 : zeroOf Try.prog 147 = some [.nilf] := by kernel_rfl
theorem Ty.c148 : Try.prog.cellsOf 148 = 1 := by kernel_rfl
theorem Ty.b148 : Try.prog.bytesOf 148 = 8 := by kernel_rfl
theorem Ty.k148 : kindT Try.prog 148 = some false := by kernel_rfl
theorem Ty.z148 : zeroOf Try.prog 148 = some [.nilf] := by kernel_rfl
theorem Ty.c149 : Try.prog.cellsOf 149 = 4 := by kernel_rfl
theorem Ty.b149 : Try.prog.bytesOf 149 = 32 := by kernel_rfl
theorem Ty.k149 : kindT Try.prog 149 = some true := by kernel_rfl
theorem Ty.z149 : zeroOf Try.prog 149 = some [.nilf, .nilf, .nilf, .nilf] := by kernel_rfl
theorem Ty.p149 : placesOf Try.prog 149 = some [(0, 1), (1, 1), (2, 1), (3, 1)] := by kernel_rfl
theorem Ty.c150 : Try.prog.cellsOf 150 = 1 := by kernel_rfl
theorem Ty.b150 : Try.prog.bytesOf 150 = 8 := by kernel_rfl
theorem Ty.k150 : kindT Try.prog 150 = some false := by kernel_rfl
theorem Ty.z150 : zeroOf Try.prog 150 = some [.nilf] := by kernel_rfl
theorem Ty.c151 : Try.prog.cellsOf 151 = 1 := by kernel_rfl
theorem Ty.b151 : Try.prog.bytesOf 151 = 8 := by kernel_rfl
theorem Ty.k151 : kindT Try.prog 151 = some false := by kernel_rfl
theorem Ty.z151 : zeroOf Try.prog 151 = some [.nilp] := by kernel_rfl
theorem Ty.c152 : Try.prog.cellsOf 152 = 1 := by kernel_rfl
theorem Ty.b152 : Try.prog.bytesOf 152 = 8 := by kernel_rfl
theorem Ty.k152 : kindT Try.prog 152 = some false := by kernel_rfl
theorem Ty.z152 : zeroOf Try.prog 152 = some [.int .u64 0] := by kernel_rfl
theorem Ty.c153 : Try.prog.cellsOf 153 = 3 := by kernel_rfl
theorem Ty.b153 : Try.prog.bytesOf 153 = 24 := by kernel_rfl
theorem Ty.k153 : kindT Try.prog 153 = some true := by kernel_rfl
theorem Ty.z153 : zeroOf Try.prog 153 = some [.nilp, .nilp, .int .u64 0] := by kernel_rfl
theorem Ty.p153 : placesOf Try.prog 153 = some [(0, 1), (1, 1), (2, 1)] := by kernel_rfl
theorem Ty.c154 : Try.prog.cellsOf 154 = 3 := by kernel_rfl
theorem Ty.b154 : Try.prog.bytesOf 154 = 24 := by kernel_rfl
theorem Ty.k154 : kindT Try.prog 154 = some true := by kernel_rfl
theorem Ty.z154 : zeroOf Try.prog 154 = some [.nilp, .nilp, .int .u64 0] := by kernel_rfl
theorem Ty.p154 : placesOf Try.prog 154 = some [(0, 1), (1, 1), (2, 1)] := by kernel_rfl
theorem Ty.c155 : Try.prog.cellsOf 155 = 1 := by kernel_rfl
theorem Ty.b155 : Try.prog.bytesOf 155 = 8 := by kernel_rfl
theorem Ty.k155 : kindT Try.prog 155 = some false := by kernel_rfl
theorem Ty.z155 : zeroOf Try.prog 155 = some [.nilf] := by kernel_rfl
theorem Ty.c156 : Try.prog.cellsOf 156 = 1 := by kernel_rfl
theorem Ty.b156 : Try.prog.bytesOf 156 = 8 := by kernel_rfl
theorem Ty.k156 : kindT Try.prog 156 = some false := by kernel_rfl
theorem Ty.z156 : zeroOf Try.prog 156 = some [.nilf] := by kernel_rfl
theorem Ty.c157 : Try.prog.cellsOf 157 = 1 := by kernel_rfl
theorem Ty.b157 : Try.prog.bytesOf 157 = 8 := by kernel_rfl
theorem Ty.k157 : kindT Try.prog 157 = some false := by kernel_rfl
theorem Ty.z157 : zeroOf Try.prog 157 = some [.nilf] := by kernel_rfl
theorem Ty.c158 : Try.prog.cellsOf 158 = 1 := by kernel_rfl
theorem Ty.b158 : Try.prog.bytesOf 158 = 8 := by kernel_rfl
theorem Ty.k158 : kindT Try.prog 158 = some false := by kernel_rfl
theorem Ty.z158 : zeroOf Try.prog 158 = some [.nilf] := by kernel_rfl
theorem Ty.c159 : Try.prog.cellsOf 159 = 1 := by kernel_rfl
theorem Ty.b159 : Try.prog.bytesOf 159 = 8 := by kernel_rfl
theorem Ty.k159 : kindT Try.prog 159 = some false := by kernel_rfl
theorem Ty.z159 : zeroOf Try.prog 159 = some [.nilf] := by kernel_rfl
theorem Ty.c160 : Try.prog.cellsOf 160 = 1 := by kernel_rfl
theorem Ty.b160 : Try.prog.bytesOf 160 = 8 := by kernel_rfl
theorem Ty.k160 : kindT Try.prog 160 = some false := by kernel_rfl
theorem Ty.z160 : zeroOf Try.prog 160 = some [.nilf] := by kernel_rfl
theorem Ty.c161 : Try.prog.cellsOf 161 = 2 := by kernel_rfl
theorem Ty.b161 : Try.prog.bytesOf 161 = 16 := by kernel_rfl
theorem Ty.k161 : kindT Try.prog 161 = some true := by kernel_rfl
theorem Ty.z161 : zeroOf Try.prog 161 = some [.nilf, .nilf] := by kernel_rfl
theorem Ty.p161 : placesOf Try.prog 161 = some [(0, 1), (1, 1)] := by kernel_rfl
theorem Ty.c162 : Try.prog.cellsOf 162 = 2 := by kernel_rfl
theorem Ty.b162 : Try.prog.bytesOf 162 = 16 := by kernel_rfl
theorem Ty.k162 : kindT Try.prog 162 = some true := by kernel_rfl
theorem Ty.z162 : zeroOf Try.prog 162 = some [.nilf, .nilf] := by kernel_rfl
theorem Ty.p162 : placesOf Try.prog 162 = some [(0, 1), (1, 1)] := by kernel_rfl
theorem Ty.c164 : Try.prog.cellsOf 164 = 1 := by kernel_rfl
theorem Ty.b164 : Try.prog.bytesOf 164 = 8 := by kernel_rfl
theorem Ty.k164 : kindT Try.prog 164 = some false := by kernel_rfl
theorem Ty.z164 : zeroOf Try.prog 164 = some [.nilf] := by kernel_rfl
theorem Ty.c165 : Try.prog.cellsOf 165 = 1 := by kernel_rfl
theorem Ty.b165 : Try.prog.bytesOf 165 = 8 := by kernel_rfl
theorem Ty.k165 : kindT Try.prog 165 = some true := by kernel_rfl
theorem Ty.z165 : zeroOf Try.prog 165 = some [.nilp] := by kernel_rfl
theorem Ty.p165 : placesOf Try.prog 165 = some [(0, 1)] := by kernel_rfl
theorem Ty.c166 : Try.prog.cellsOf 166 = 1 := by kernel_rfl
theorem Ty.b166 : Try.prog.bytesOf 166 = 8 := by kernel_rfl
theorem Ty.k166 : kindT Try.prog 166 = some true := by kernel_rfl
theorem Ty.z166 : zeroOf Try.prog 166 = some [.nilp] := by kernel_rfl
theorem Ty.p166 : placesOf Try.prog 166 = some [(0, 1)] := by kernel_rfl
theorem Ty.c167 : Try.prog.cellsOf 167 = 1 := by kernel_rfl
theorem Ty.b167 : Try.prog.bytesOf 167 = 8 := by kernel_rfl
theorem Ty.k167 : kindT Try.prog 167 = some false := by kernel_rfl
theorem Ty.z167 : zeroOf Try.prog 167 = some [.nilp] := by kernel_rfl
theorem Ty.c168 : Try.prog.cellsOf 168 = 1 := by kernel_rfl
theorem Ty.b168 : Try.prog.bytesOf 168 = 8 := by kernel_rfl
theorem Ty.k168 : kindT Try.prog 168 = some false := by kernel_rfl
theorem Ty.z168 : zeroOf Try.prog 168 = some [.nilf] := by kernel_rfl
theorem Ty.c169 : Try.prog.cellsOf 169 = 1 := by kernel_rfl
theorem Ty.b169 : Try.prog.bytesOf 169 = 4 := by kernel_rfl
theorem Ty.k169 : kindT Try.prog 169 = some false := by kernel_rfl
theorem Ty.z169 : zeroOf Try.prog 169 = some [.int .u32 0] := by kernel_rfl
theorem Ty.c170 : Try.prog.cellsOf 170 = 1 := by kernel_rfl
theorem Ty.b170 : Try.prog.bytesOf 170 = 8 := by kernel_rfl
theorem Ty.k170 : kindT Try.prog 170 = some false := by kernel_rfl
theorem Ty.z170 : zeroOf Try.prog 170 = some [.nilf] := by kernel_rfl
theorem Ty.c171 : Try.prog.cellsOf 171 = 1 := by kernel_rfl
theorem Ty.b171 : Try.prog.bytesOf 171 = 8 := by kernel_rfl
theorem Ty.k171 : kindT Try.prog 171 = some false := by kernel_rfl
theorem Ty.z171 : zeroOf Try.prog 171 = some [.int .u64 0] := by kernel_rfl
theorem Ty.c172 : Try.prog.cellsOf 172 = 1 := by kernel_rfl
theorem Ty.b172 : Try.prog.bytesOf 172 = 8 := by kernel_rfl
theorem Ty.k172 : kindT Try.prog 172 = some false := by kernel_rfl
theorem Ty.z172 : zeroOf Try.prog 172 = some [.nilf] := by kernel_rfl
theorem Ty.c173 : Try.prog.cellsOf 173 = 1 := by kernel_rfl
theorem Ty.b173 : Try.prog.bytesOf 173 = 8 := by kernel_rfl
theorem Ty.k173 : kindT Try.prog 173 = some false := by kernel_rfl
theorem Ty.z173 : zeroOf Try.prog 173 = some [.int .i64 0] := by kernel_rfl
theorem Ty.c175 : Try.prog.cellsOf 175 = 1 := by kernel_rfl
theorem Ty.b175 : Try.prog.bytesOf 175 = 8 := by kernel_rfl
theorem Ty.k175 : kindT Try.prog 175 = some false := by kernel_rfl
theorem Ty.z175 : zeroOf Try.prog 175 = some [.nilf] := by kernel_rfl
theorem Ty.c176 : Try.prog.cellsOf 176 = 1 := by kernel_rfl
theorem Ty.b176 : Try.prog.bytesOf 176 = 8 := by kernel_rfl
theorem Ty.k176 : kindT Try.prog 176 = some false := by kernel_rfl
theorem Ty.z176 : zeroOf Try.prog 176 = some [.nilf] := by kernel_rfl
theorem Ty.c177 : Try.prog.cellsOf 177 = 1 := by kernel_rfl
theorem Ty.b177 : Try.prog.bytesOf 177 = 8 := by kernel_rfl
theorem Ty.k177 : kindT Try.prog 177 = some false := by kernel_rfl
theorem Ty.z177 : zeroOf Try.prog 177 = some [.nilf] := by kernel_rfl
theorem Ty.c178 : Try.prog.cellsOf 178 = 1 := by kernel_rfl
theorem Ty.b178 : Try.prog.bytesOf 178 = 8 := by kernel_rfl
theorem Ty.k178 : kindT Try.prog 178 = some false := by kernel_rfl
theorem Ty.z178 : zeroOf Try.prog 178 = some [.nilf] := by kernel_rfl
theorem Ty.c180 : Try.prog.cellsOf 180 = 1 := by kernel_rfl
theorem Ty.b180 : Try.prog.bytesOf 180 = 8 := by kernel_rfl
theorem Ty.k180 : kindT Try.prog 180 = some false := by kernel_rfl
theorem Ty.z180 : zeroOf Try.prog 180 = some [.nilf] := by kernel_rfl
theorem Ty.c182 : Try.prog.cellsOf 182 = 1 := by kernel_rfl
theorem Ty.b182 : Try.prog.bytesOf 182 = 8 := by kernel_rfl
theorem Ty.k182 : kindT Try.prog 182 = some false := by kernel_rfl
theorem Ty.z182 : zeroOf Try.prog 182 = some [.nilf] := by kernel_rfl
theorem Ty.c183 : Try.prog.cellsOf 183 = 1 := by kernel_rfl
theorem Ty.b183 : Try.prog.bytesOf 183 = 8 := by kernel_rfl
theorem Ty.k183 : kindT Try.prog 183 = some false := by kernel_rfl
theorem Ty.z183 : zeroOf Try.prog 183 = some [.nilf] := by kernel_rfl
theorem Ty.c184 : Try.prog.cellsOf 184 = 1 := by kernel_rfl
theorem Ty.b184 : Try.prog.bytesOf 184 = 8 := by kernel_rfl
theorem Ty.k184 : kindT Try.prog 184 = some false := by kernel_rfl
theorem Ty.z184 : zeroOf Try.prog 184 = some [.int .u64 0] := by kernel_rfl
theorem Ty.c185 : Try.prog.cellsOf 185 = 1 := by kernel_rfl
theorem Ty.b185 : Try.prog.bytesOf 185 = 8 := by kernel_rfl
theorem Ty.k185 : kindT Try.prog 185 = some false := by kernel_rfl
theorem Ty.z185 : zeroOf Try.prog 185 = some [.nilf] := by kernel_rfl
theorem Ty.c186 : Try.prog.cellsOf 186 = 1 := by kernel_rfl
theorem Ty.b186 : Try.prog.bytesOf 186 = 8 := by kernel_rfl
theorem Ty.k186 : kindT Try.prog 186 = some false := by kernel_rfl
theorem Ty.z186 : zeroOf Try.prog 186 = some [.nilf] := by kernel_rfl
theorem Ty.c187 : Try.prog.cellsOf 187 = 1 := by kernel_rfl
theorem Ty.b187 : Try.prog.bytesOf 187 = 8 := by kernel_rfl
theorem Ty.k187 : kindT Try.prog 187 = some false := by kernel_rfl
theorem Ty.z187 : zeroOf Try.prog 187 = some [.nilf] := by kernel_rfl
theorem Ty.c188 : Try.prog.cellsOf 188 = 1 := by kernel_rfl
theorem Ty.b188 : Try.prog.bytesOf 188 = 8 := by kernel_rfl
theorem Ty.k188 : kindT Try.prog 188 = some false := by kernel_rfl
theorem Ty.z188 : zeroOf Try.prog 188 = some [.nilp] := by kernel_rfl
theorem Ty.c189 : Try.prog.cellsOf 189 = 1 := by kernel_rfl
theorem Ty.b189 : Try.prog.bytesOf 189 = 8 := by kernel_rfl
theorem Ty.k189 : kindT Try.prog 189 = some false := by kernel_rfl
theorem Ty.z189 : zeroOf Try.prog 189 = some [.nilf] := by kernel_rfl
theorem Ty.c190 : Try.prog.cellsOf 190 = 1 := by kernel_rfl
theorem Ty.b190 : Try.prog.bytesOf 190 = 8 := by kernel_rfl
theorem Ty.k190 : kindT Try.prog 190 = some false := by kernel_rfl
theorem Ty.z190 : zeroOf Try.prog 190 = some [.nilp] := by kernel_rfl
theorem Ty.c192 : Try.prog.cellsOf 192 = 1 := by kernel_rfl
theorem Ty.b192 : Try.prog.bytesOf 192 = 8 := by kernel_rfl
theorem Ty.k192 : kindT Try.prog 192 = some false := by kernel_rfl
theorem Ty.z192 : zeroOf Try.prog 192 = some [.nilf] := by kernel_rfl
theorem Ty.c193 : Try.prog.cellsOf 193 = 1 := by kernel_rfl
theorem Ty.b193 : Try.prog.bytesOf 193 = 8 := by kernel_rfl
theorem Ty.k193 : kindT Try.prog 193 = some false := by kernel_rfl
theorem Ty.z193 : zeroOf Try.prog 193 = some [.nilf] := by kernel_rfl
theorem Ty.c194 : Try.prog.cellsOf 194 = 4 := by kernel_rfl
theorem Ty.b194 : Try.prog.bytesOf 194 = 40 := by kernel_rfl
theorem Ty.k194 : kindT Try.prog 194 = some true := by kernel_rfl
theorem Ty.z194 : zeroOf Try.prog 194 = some [.nilp, .nilp, .nilp, .str []] := by kernel_rfl
theorem Ty.p194 : placesOf Try.prog 194 = some [(0, 1), (1, 1), (2, 1), (3, 1)] := by kernel_rfl
theorem Ty.c195 : Try.prog.cellsOf 195 = 4 := by kernel_rfl
theorem Ty.b195 : Try.prog.bytesOf 195 = 40 := by kernel_rfl
theorem Ty.k195 : kindT Try.prog 195 = some true := by kernel_rfl
theorem Ty.z195 : zeroOf Try.prog 195 = some [.nilp, .nilp, .nilp, .str []] := by kernel_rfl
theorem Ty.p195 : placesOf Try.prog 195 = some [(0, 1), (1, 1), (2, 1), (3, 1)] := by kernel_rfl
theorem Ty.c196 : Try.prog.cellsOf 196 = 0 := by kernel_rfl
theorem Ty.b196 : Try.prog.bytesOf 196 = 0 := by kernel_rfl
theorem Ty.k196 : kindT Try.prog 196 = some true := by kernel_rfl
theorem Ty.z196 : zeroOf Try.prog 196 = some [] := by kernel_rfl
theorem Ty.p196 : placesOf Try.prog 196 = some [] := by kernel_rfl
theorem Ty.c197 : Try.prog.cellsOf 197 = 0 := by kernel_rfl
theorem Ty.b197 : Try.prog.bytesOf 197 = 0 := by kernel_rfl
theorem Ty.k197 : kindT Try.prog 197 = some true := by kernel_rfl
theorem Ty.z197 : zeroOf Try.prog 197 = some [] := by kernel_rfl
theorem Ty.p197 : placesOf Try.prog 197 = some [(0, 0)] := by kernel_rfl
theorem Ty.c198 : Try.prog.cellsOf 198 = 0 := by kernel_rfl
theorem Ty.b198 : Try.prog.bytesOf 198 = 0 := by kernel_rfl
theorem Ty.k198 : kindT Try.prog 198 = some true := by kernel_rfl
theorem Ty.z198 : zeroOf Try.prog 198 = some [] := by kernel_rfl
theorem Ty.p198 : placesOf Try.prog 198 = some [(0, 0)] := by kernel_rfl
theorem Ty.c199 : Try.prog.cellsOf 199 = 1 := by kernel_rfl
theorem Ty.b199 : Try.prog.bytesOf 199 = 1 := by kernel_rfl
theorem Ty.k199 : kindT Try.prog 199 = some false := by kernel_rfl
theorem Ty.z199 : zeroOf Try.prog 199 = some [.int .u8 0] := by kernel_rfl
theorem Ty.c200 : Try.prog.cellsOf 200 = 1 := by kernel_rfl
theorem Ty.b200 : Try.prog.bytesOf 200 = 1 := by kernel_rfl
theorem Ty.k200 : kindT Try.prog 200 = some false := by kernel_rfl
theorem Ty.z200 : zeroOf Try.prog 200 = some [.int .u8 0] := by kernel_rfl
theorem Ty.c201 : Try.prog.cellsOf 201 = 1 := by kernel_rfl
theorem Ty.b201 : Try.prog.bytesOf 201 = 8 := by kernel_rfl
theorem Ty.k201 : kindT Try.prog 201 = some false := by kernel_rfl
theorem Ty.z201 : zeroOf Try.prog 201 = some [.nilf] := by kernel_rfl
theorem Ty.c202 : Try.prog.cellsOf 202 = 1 := by kernel_rfl
theorem Ty.b202 : Try.prog.bytesOf 202 = 8 := by kernel_rfl
theorem Ty.k202 : kindT Try.prog 202 = some false := by kernel_rfl
theorem Ty.z202 : zeroOf Try.prog 202 = some [.nilp] := by kernel_rfl
theorem Ty.c203 : Try.prog.cellsOf 203 = 1 := by kernel_rfl
theorem Ty.b203 : Try.prog.bytesOf 203 = 4 := by kernel_rfl
theorem Ty.k203 : kindT Try.prog 203 = some false := by kernel_rfl
theorem Ty.z203 : zeroOf Try.prog 203 = some [.int .i32 0] := by kernel_rfl
theorem Ty.c204 : Try.prog.cellsOf 204 = 1 := by kernel_rfl
theorem Ty.b204 : Try.prog.bytesOf 204 = 4 := by kernel_rfl
theorem Ty.k204 : kindT Try.prog 204 = some false := by kernel_rfl
theorem Ty.z204 : zeroOf Try.prog 204 = some [.int .i32 0] := by kernel_rfl
theorem Ty.c205 : Try.prog.cellsOf 205 = 11 := by kernel_rfl
theorem Ty.b205 : Try.prog.bytesOf 205 = 48 := by kernel_rfl
theorem Ty.k205 : kindT Try.prog 205 = some true := by kernel_rfl
theorem Ty.z205 : zeroOf Try.prog 205 = some [.int .u64 0, .int .u64 0, .int .u32 0, .int .u8 0, .int .u8 0, .int .u8 0, .int .u8 0, .nilf, .nilp, .int .i32 0, .int .i32 0] := by kernel_rfl
theorem Ty.p205 : placesOf Try.prog 205 = some [(0, 1), (1, 1), (2, 1), (3, 1), (4, 1), (5, 1), (6, 1), (7, 1), (8, 1), (9, 1), (10, 1)] := by kernel_rfl
theorem Ty.c206 : Try.prog.cellsOf 206 = 11 := by kernel_rfl
theorem Ty.b206 : Try.prog.bytesOf 206 = 48 := by kernel_rfl
theorem Ty.k206 : kindT Try.prog 206 = some true := by kernel_rfl
theorem Ty.z206 : zeroOf Try.prog 206 = some [.int .u64 0, .int .u64 0, .int .u32 0, .int .u8 0, .int .u8 0, .int .u8 0, .int .u8 0, .nilf, .nilp, .int .i32 0, .int .i32 0] := by kernel_rfl
theorem Ty.p206 : placesOf Try.prog 206 = some [(0, 1), (1, 1), (2, 1), (3, 1), (4, 1), (5, 1), (6, 1), (7, 1), (8, 1), (9, 1), (10, 1)] := by kernel_rfl
theorem Ty.c207 : Try.prog.cellsOf 207 = 2 := by kernel_rfl
theorem Ty.b207 : Try.prog.bytesOf 207 = 24 := by kernel_rfl
theorem Ty.k207 : kindT Try.prog 207 = some true := by kernel_rfl
theorem Ty.z207 : zeroOf Try.prog 207 = some [.str [], .int .u8 0] := by kernel_rfl
theorem Ty.p207 : placesOf Try.prog 207 = some [(0, 1), (1, 1)] := by kernel_rfl
theorem Ty.c208 : Try.prog.cellsOf 208 = 2 := by kernel_rfl
theorem Ty.b208 : Try.prog.bytesOf 208 = 24 := by kernel_rfl
theorem Ty.k208 : kindT Try.prog 208 = some true := by kernel_rfl
theorem Ty.z208 : zeroOf Try.prog 208 = some [.str [], .int .u8 0] := by kernel_rfl
theorem Ty.p208 : placesOf Try.prog 208 = some [(0, 1), (1, 1)] := by kernel_rfl
theorem Ty.w3 : (Try.prog.info? 3).bind (·.zero) = some (.int .i64 0) := by kernel_rfl
theorem Ty.w126 : (Try.prog.info? 126).bind (·.zero) = some (.agg #[.nilFunc, .nilFunc]) := by kernel_rfl
theorem Ty.i1 : (Try.prog.underlying 1).isSome = true := by rw [Try.underlying1]; rfl
theorem Ty.i2 : (Try.prog.underlying 2).isSome = true := by rw [Try.underlying2]; rfl
theorem Ty.i3 : (Try.prog.underlying 3).isSome = true := by rw [Try.underlying3]; rfl
theorem Ty.i4 : (Try.prog.underlying 4).isSome = true := by rw [Try.underlying4]; rfl
theorem Ty.i5 : (Try.prog.underlying 5).isSome = true := by rw [Try.underlying5]; rfl
theorem Ty.i6 : (Try.prog.underlying 6).isSome = true := by rw [Try.underlying6]; rfl
theorem Ty.i7 : (Try.prog.underlying 7).isSome = true := by rw [Try.underlying7]; rfl
theorem Ty.i8 : (Try.prog.underlying 8).isSome = true := by rw [Try.underlying8]; rfl
theorem Ty.i9 : (Try.prog.underlying 9).isSome = true := by rw [Try.underlying9]; rfl
theorem Ty.i10 : (Try.prog.underlying 10).isSome = true := by rw [Try.underlying10]; rfl
theorem Ty.i11 : (Try.prog.underlying 11).isSome = true := by rw [Try.underlying11]; rfl
theorem Ty.i12 : (Try.prog.underlying 12).isSome = true := by rw [Try.underlying12]; rfl
theorem Ty.i13 : (Try.prog.underlying 13).isSome = true := by rw [Try.underlying13]; rfl
theorem Ty.i14 : (Try.prog.underlying 14).isSome = true := by rw [Try.underlying14]; rfl
theorem Ty.i15 : (Try.prog.underlying 15).isSome = true := by rw [Try.underlying15]; rfl
theorem Ty.i16 : (Try.prog.underlying 16).isSome = true := by rw [Try.underlying16]; rfl
theorem Ty.i17 : (Try.prog.underlying 17).isSome = true := by rw [Try.underlying17]; rfl
theorem Ty.i18 : (Try.prog.underlying 18).isSome = true := by rw [Try.underlying18]; rfl
theorem Ty.i19 : (Try.prog.underlying 19).isSome = true := by rw [Try.underlying19]; rfl
theorem Ty.i20 : (Try.prog.underlying 20).isSome = true := by rw [Try.underlying20]; rfl
theorem Ty.i21 : (Try.prog.underlying 21).isSome = true := by rw [Try.underlying21]; rfl
theorem Ty.i22 : (Try.prog.underlying 22).isSome = true := by rw [Try.underlying22]; rfl
theorem Ty.i23 : (Try.prog.underlying 23).isSome = true := by rw [Try.underlying23]; rfl
theorem Ty.i24 : (Try.prog.underlying 24).isSome = true := by rw [Try.underlying24]; rfl
theorem Ty.i25 : (Try.prog.underlying 25).isSome = true := by rw [Try.underlying25]; rfl
theorem Ty.i26 : (Try.prog.underlying 26).isSome = true := by rw [Try.underlying26]; rfl
theorem Ty.i27 : (Try.prog.underlying 27).isSome = true := by rw [Try.underlying27]; rfl
theorem Ty.i29 : (Try.prog.underlying 29).isSome = true := by rw [Try.underlying29]; rfl
theorem Ty.i30 : (Try.prog.underlying 30).isSome = true := by rw [Try.underlying30]; rfl
theorem Ty.i31 : (Try.prog.underlying 31).isSome = true := by rw [Try.underlying31]; rfl
theorem Ty.i33 : (Try.prog.underlying 33).isSome = true := by rw [Try.underlying33]; rfl
theorem Ty.i34 : (Try.prog.underlying 34).isSome = true := by rw [Try.underlying34]; rfl
theorem Ty.i35 : (Try.prog.underlying 35).isSome = true := by rw [Try.underlying35]; rfl
theorem Ty.i36 : (Try.prog.underlying 36).isSome = true := by rw [Try.underlying36]; rfl
theorem Ty.i37 : (Try.prog.underlying 37).isSome = true := by rw [Try.underlying37]; rfl
theorem Ty.i39 : (Try.prog.underlying 39).isSome = true := by rw [Try.underlying39]; rfl
theorem Ty.i40 : (Try.prog.underlying 40).isSome = true := by rw [Try.underlying40]; rfl
theorem Ty.i41 : (Try.prog.underlying 41).isSome = true := by rw [Try.underlying41]; rfl
theorem Ty.i42 : (Try.prog.underlying 42).isSome = true := by rw [Try.underlying42]; rfl
theorem Ty.i43 : (Try.prog.underlying 43).isSome = true := by rw [Try.underlying43]; rfl
theorem Ty.i44 : (Try.prog.underlying 44).isSome = true := by rw [Try.underlying44]; rfl
theorem Ty.i45 : (Try.prog.underlying 45).isSome = true := by rw [Try.underlying45]; rfl
theorem Ty.i46 : (Try.prog.underlying 46).isSome = true := by rw [Try.underlying46]; rfl
theorem Ty.i47 : (Try.prog.underlying 47).isSome = true := by rw [Try.underlying47]; rfl
theorem Ty.i48 : (Try.prog.underlying 48).isSome = true := by rw [Try.underlying48]; rfl
theorem Ty.i49 : (Try.prog.underlying 49).isSome = true := by rw [Try.underlying49]; rfl
theorem Ty.i50 : (Try.prog.underlying 50).isSome = true := by rw [Try.underlying50]; rfl
theorem Ty.i52 : (Try.prog.underlying 52).isSome = true := by rw [Try.underlying52]; rfl
theorem Ty.i53 : (Try.prog.underlying 53).isSome = true := by rw [Try.underlying53]; rfl
theorem Ty.i54 : (Try.prog.underlying 54).isSome = true := by rw [Try.underlying54]; rfl
theorem Ty.i55 : (Try.prog.underlying 55).isSome = true := by rw [Try.underlying55]; rfl
theorem Ty.i56 : (Try.prog.underlying 56).isSome = true := by rw [Try.underlying56]; rfl
theorem Ty.i57 : (Try.prog.underlying 57).isSome = true := by rw [Try.underlying57]; rfl
theorem Ty.i59 : (Try.prog.underlying 59).isSome = true := by rw [Try.underlying59]; rfl
theorem Ty.i60 : (Try.prog.underlying 60).isSome = true := by rw [Try.underlying60]; rfl
theorem Ty.i62 : (Try.prog.underlying 62).isSome = true := by rw [Try.underlying62]; rfl
theorem Ty.i63 : (Try.prog.underlying 63).isSome = true := by rw [Try.underlying63]; rfl
theorem Ty.i64 : (Try.prog.underlying 64).isSome = true := by rw [Try.underlying64]; rfl
theorem Ty.i65 : (Try.prog.underlying 65).isSome = true := by rw [Try.underlying65]; rfl
theorem Ty.i66 : (Try.prog.underlying 66).isSome = true := by rw [Try.underlying66]; rfl
theorem Ty.i67 : (Try.prog.underlying 67).isSome = true := by rw [Try.underlying67]; rfl
theorem Ty.i68 : (Try.prog.underlying 68).isSome = true := by rw [Try.underlying68]; rfl
theorem Ty.i69 : (Try.prog.underlying 69).isSome = true := by rw [Try.underlying69]; rfl
theorem Ty.i70 : (Try.prog.underlying 70).isSome = true := by rw [Try.underlying70]; rfl
theorem Ty.i71 : (Try.prog.underlying 71).isSome = true := by rw [Try.underlying71]; rfl
theorem Ty.i72 : (Try.prog.underlying 72).isSome = true := by rw [Try.underlying72]; rfl
theorem Ty.i73 : (Try.prog.underlying 73).isSome = true := by rw [Try.underlying73]; rfl
theorem Ty.i74 : (Try.prog.underlying 74).isSome = true := by rw [Try.underlying74]; rfl
theorem Ty.i76 : (Try.prog.underlying 76).isSome = true := by rw [Try.underlying76]; rfl
theorem Ty.i77 : (Try.prog.underlying 77).isSome = true := by rw [Try.underlying77]; rfl
theorem Ty.i78 : (Try.prog.underlying 78).isSome = true := by rw [Try.underlying78]; rfl
theorem Ty.i79 : (Try.prog.underlying 79).isSome = true := by rw [Try.underlying79]; rfl
theorem Ty.i80 : (Try.prog.underlying 80).isSome = true := by rw [Try.underlying80]; rfl
theorem Ty.i81 : (Try.prog.underlying 81).isSome = true := by rw [Try.underlying81]; rfl
theorem Ty.i82 : (Try.prog.underlying 82).isSome = true := by rw [Try.underlying82]; rfl
theorem Ty.i83 : (Try.prog.underlying 83).isSome = true := by rw [Try.underlying83]; rfl
theorem Ty.i84 : (Try.prog.underlying 84).isSome = true := by rw [Try.underlying84]; rfl
theorem Ty.i86 : (Try.prog.underlying 86).isSome = true := by rw [Try.underlying86]; rfl
theorem Ty.i87 : (Try.prog.underlying 87).isSome = true := by rw [Try.underlying87]; rfl
theorem Ty.i88 : (Try.prog.underlying 88).isSome = true := by rw [Try.underlying88]; rfl
theorem Ty.i89 : (Try.prog.underlying 89).isSome = true := by rw [Try.underlying89]; rfl
theorem Ty.i90 : (Try.prog.underlying 90).isSome = true := by rw [Try.underlying90]; rfl
theorem Ty.i91 : (Try.prog.underlying 91).isSome = true := by rw [Try.underlying91]; rfl
theorem Ty.i93 : (Try.prog.underlying 93).isSome = true := by rw [Try.underlying93]; rfl
theorem Ty.i94 : (Try.prog.underlying 94).isSome = true := by rw [Try.underlying94]; rfl
theorem Ty.i95 : (Try.prog.underlying 95).isSome = true := by rw [Try.underlying95]; rfl
theorem Ty.i96 : (Try.prog.underlying 96).isSome = true := by rw [Try.underlying96]; rfl
theorem Ty.i97 : (Try.prog.underlying 97).isSome = true := by rw [Try.underlying97]; rfl
theorem Ty.i99 : (Try.prog.underlying 99).isSome = true := by rw [Try.underlying99]; rfl
theorem Ty.i101 : (Try.prog.underlying 101).isSome = true := by rw [Try.underlying101]; rfl
theorem Ty.i102 : (Try.prog.underlying 102).isSome = true := by rw [Try.underlying102]; rfl
theorem Ty.i104 : (Try.prog.underlying 104).isSome = true := by rw [Try.underlying104]; rfl
theorem Ty.i106 : (Try.prog.underlying 106).isSome = true := by rw [Try.underlying106]; rfl
theorem Ty.i108 : (Try.prog.underlying 108).isSome = true := by rw [Try.underlying108]; rfl
theorem Ty.i109 : (Try.prog.underlying 109).isSome = true := by rw [Try.underlying109]; rfl
theorem Ty.i110 : (Try.prog.underlying 110).isSome = true := by rw [Try.underlying110]; rfl
theorem Ty.i111 : (Try.prog.underlying 111).isSome = true := by rw [Try.underlying111]; rfl
theorem Ty.i112 : (Try.prog.underlying 112).isSome = true := by rw [Try.underlying112]; rfl
theorem Ty.i113 : (Try.prog.underlying 113).isSome = true := by rw [Try.underlying113]; rfl
theorem Ty.i114 : (Try.prog.underlying 114).isSome = true := by rw [Try.underlying114]; rfl
theorem Ty.i115 : (Try.prog.underlying 115).isSome = true := by rw [Try.underlying115]; rfl
theorem Ty.i117 : (Try.prog.underlying 117).isSome = true := by rw [Try.underlying117]; rfl
theorem Ty.i118 : (Try.prog.underlying 118).isSome = true := by rw [Try.underlying118]; rfl
theorem Ty.i119 : (Try.prog.underlying 119).isSome = true := by rw [Try.underlying119]; rfl
theorem Ty.i120 : (Try.prog.underlying 120).isSome = true := by rw [Try.underlying120]; rfl
theorem Ty.i121 : (Try.prog.underlying 121).isSome = true := by rw [Try.underlying121]; rfl
theorem Ty.i122 : (Try.prog.underlying 122).isSome = true := by rw [Try.underlying122]; rfl
theorem Ty.i123 : (Try.prog.underlying 123).isSome = true := by rw [Try.underlying123]; rfl
theorem Ty.i124 : (Try.prog.underlying 124).isSome = true := by rw [Try.underlying124]; rfl
theorem Ty.i125 : (Try.prog.underlying 125).isSome = true := by rw [Try.underlying125]; rfl
theorem Ty.i126 : (Try.prog.underlying 126).isSome = true := by rw [Try.underlying126]; rfl
theorem Ty.i128 : (Try.prog.underlying 128).isSome = true := by rw [Try.underlying128]; rfl
theorem Ty.i130 : (Try.prog.underlying 130).isSome = true := by rw [Try.underlying130]; rfl
theorem Ty.i131 : (Try.prog.underlying 131).isSome = true := by rw [Try.underlying131]; rfl
theorem Ty.i132 : (Try.prog.underlying 132).isSome = true := by rw [Try.underlying132]; rfl
theorem Ty.i133 : (Try.prog.underlying 133).isSome = true := by rw [Try.underlying133]; rfl
theorem Ty.i134 : (Try.prog.underlying 134).isSome = true := by rw [Try.underlying134]; rfl
theorem Ty.i135 : (Try.prog.underlying 135).isSome = true := by rw [Try.underlying135]; rfl
theorem Ty.i136 : (Try.prog.underlying 136).isSome = true := by rw [Try.underlying136]; rfl
theorem Ty.i137 : (Try.prog.underlying 137).isSome = true := by rw [Try.underlying137]; rfl
theorem Ty.i138 : (Try.prog.underlying 138).isSome = true := by rw [Try.underlying138]; rfl
theorem Ty.i139 : (Try.prog.underlying 139).isSome = true := by rw [Try.underlying139]; rfl
theorem Ty.i140 : (Try.prog.underlying 140).isSome = true := by rw [Try.underlying140]; rfl
theorem Ty.i141 : (Try.prog.underlying 141).isSome = true := by rw [Try.underlying141]; rfl
theorem Ty.i142 : (Try.prog.underlying 142).isSome = true := by rw [Try.underlying142]; rfl
theorem Ty.i143 : (Try.prog.underlying 143).isSome = true := by rw [Try.underlying143]; rfl
theorem Ty.i144 : (Try.prog.underlying 144).isSome = true := by rw [Try.underlying144]; rfl
theorem Ty.i146 : (Try.prog.underlying 146).isSome = true := by rw [Try.underlying146]; rfl
theorem Ty.i147 : (Try.prog.underlying 147).isSome = true := by rw [Try.underlying147]; rfl
theorem Ty.i148 : (Try.prog.underlying 148).isSome = true := by rw [Try.underlying148]; rfl
theorem Ty.i149 : (Try.prog.underlying 149).isSome = true := by rw [Try.underlying149]; rfl
theorem Ty.i150 : (Try.prog.underlying 150).isSome = true := by rw [Try.underlying150]; rfl
theorem Ty.i151 : (Try.prog.underlying 151).isSome = true := by rw [Try.underlying151]; rfl
theorem Ty.i152 : (Try.prog.underlying 152).isSome = true := by rw [Try.underlying152]; rfl
theorem Ty.i153 : (Try.prog.underlying 153).isSome = true := by rw [Try.underlying153]; rfl
theorem Ty.i154 : (Try.prog.underlying 154).isSome = true := by rw [Try.underlying154]; rfl
theorem Ty.i155 : (Try.prog.underlying 155).isSome = true := by rw [Try.underlying155]; rfl
theorem Ty.i156 : (Try.prog.underlying 156).isSome = true := by rw [Try.underlying156]; rfl
theorem Ty.i157 : (Try.prog.underlying 157).isSome = true := by rw [Try.underlying157]; rfl
theorem Ty.i158 : (Try.prog.underlying 158).isSome = true := by rw [Try.underlying158]; rfl
theorem Ty.i159 : (Try.prog.underlying 159).isSome = true := by rw [Try.underlying159]; rfl
theorem Ty.i160 : (Try.prog.underlying 160).isSome = true := by rw [Try.underlying160]; rfl
theorem Ty.i161 : (Try.prog.underlying 161).isSome = true := by rw [Try.underlying161]; rfl
theorem Ty.i162 : (Try.prog.underlying 162).isSome = true := by rw [Try.underlying162]; rfl
theorem Ty.i164 : (Try.prog.underlying 164).isSome = true := by rw [Try.underlying164]; rfl
theorem Ty.i165 : (Try.prog.underlying 165).isSome = true := by rw [Try.underlying165]; rfl
theorem Ty.i166 : (Try.prog.underlying 166).isSome = true := by rw [Try.underlying166]; rfl
theorem Ty.i167 : (Try.prog.underlying 167).isSome = true := by rw [Try.underlying167]; rfl
theorem Ty.i168 : (Try.prog.underlying 168).isSome = true := by rw [Try.underlying168]; rfl
theorem Ty.i169 : (Try.prog.underlying 169).isSome = true := by rw [Try.underlying169]; rfl
theorem Ty.i170 : (Try.prog.underlying 170).isSome = true := by rw [Try.underlying170]; rfl
theorem Ty.i171 : (Try.prog.underlying 171).isSome = true := by rw [Try.underlying171]; rfl
theorem Ty.i172 : (Try.prog.underlying 172).isSome = true := by rw [Try.underlying172]; rfl
theorem Ty.i173 : (Try.prog.underlying 173).isSome = true := by rw [Try.underlying173]; rfl
theorem Ty.i175 : (Try.prog.underlying 175).isSome = true := by rw [Try.underlying175]; rfl
theorem Ty.i176 : (Try.prog.underlying 176).isSome = true := by rw [Try.underlying176]; rfl
theorem Ty.i177 : (Try.prog.underlying 177).isSome = true := by rw [Try.underlying177]; rfl
theorem Ty.i178 : (Try.prog.underlying 178).isSome = true := by rw [Try.underlying178]; rfl
theorem Ty.i180 : (Try.prog.underlying 180).isSome = true := by rw [Try.underlying180]; rfl
theorem Ty.i182 : (Try.prog.underlying 182).isSome = true := by rw [Try.underlying182]; rfl
theorem Ty.i183 : (Try.prog.underlying 183).isSome = true := by rw [Try.underlying183]; rfl
theorem Ty.i184 : (Try.prog.underlying 184).isSome = true := by rw [Try.underlying184]; rfl
theorem Ty.i185 : (Try.prog.underlying 185).isSome = true := by rw [Try.underlying185]; rfl
theorem Ty.i186 : (Try.prog.underlying 186).isSome = true := by rw [Try.underlying186]; rfl
theorem Ty.i187 : (Try.prog.underlying 187).isSome = true := by rw [Try.underlying187]; rfl
theorem Ty.i188 : (Try.prog.underlying 188).isSome = true := by rw [Try.underlying188]; rfl
theorem Ty.i189 : (Try.prog.underlying 189).isSome = true := by rw [Try.underlying189]; rfl
theorem Ty.i190 : (Try.prog.underlying 190).isSome = true := by rw [Try.underlying190]; rfl
theorem Ty.i192 : (Try.prog.underlying 192).isSome = true := by rw [Try.underlying192]; rfl
theorem Ty.i193 : (Try.prog.underlying 193).isSome = true := by rw [Try.underlying193]; rfl
theorem Ty.i194 : (Try.prog.underlying 194).isSome = true := by rw [Try.underlying194]; rfl
theorem Ty.i195 : (Try.prog.underlying 195).isSome = true := by rw [Try.underlying195]; rfl
theorem Ty.i196 : (Try.prog.underlying 196).isSome = true := by rw [Try.underlying196]; rfl
theorem Ty.i197 : (Try.prog.underlying 197).isSome = true := by rw [Try.underlying197]; rfl
theorem Ty.i198 : (Try.prog.underlying 198).isSome = true := by rw [Try.underlying198]; rfl
theorem Ty.i199 : (Try.prog.underlying 199).isSome = true := by rw [Try.underlying199]; rfl
theorem Ty.i200 : (Try.prog.underlying 200).isSome = true := by rw [Try.underlying200]; rfl
theorem Ty.i201 : (Try.prog.underlying 201).isSome = true := by rw [Try.underlying201]; rfl
theorem Ty.i202 : (Try.prog.underlying 202).isSome = true := by rw [Try.underlying202]; rfl
theorem Ty.i203 : (Try.prog.underlying 203).isSome = true := by rw [Try.underlying203]; rfl
theorem Ty.i204 : (Try.prog.underlying 204).isSome = true := by rw [Try.underlying204]; rfl
theorem Ty.i205 : (Try.prog.underlying 205).isSome = true := by rw [Try.underlying205]; rfl
theorem Ty.i206 : (Try.prog.underlying 206).isSome = true := by rw [Try.underlying206]; rfl
theorem Ty.i207 : (Try.prog.underlying 207).isSome = true := by rw [Try.underlying207]; rfl
theorem Ty.i208 : (Try.prog.underlying 208).isSome = true := by rw [Try.underlying208]; rfl
theorem Ty.f7_0 : FieldAt Try.prog 7 0 2 0 := ⟨⟨_, _, Try.underlying7, rfl, rfl, rfl, by rw [Ty.c2]; decide, Ty.i2⟩⟩
theorem Ty.f7_1 : FieldAt Try.prog 7 1 3 1 := ⟨⟨_, _, Try.underlying7, rfl, rfl, rfl, by rw [Ty.c3]; decide, Ty.i3⟩⟩
theorem Ty.f7_2 : FieldAt Try.prog 7 2 4 2 := ⟨⟨_, _, Try.underlying7, rfl, rfl, rfl, by rw [Ty.c4]; decide, Ty.i4⟩⟩
theorem Ty.f7_3 : FieldAt Try.prog 7 3 6 3 := ⟨⟨_, _, Try.underlying7, rfl, rfl, rfl, by rw [Ty.c6]; decide, Ty.i6⟩⟩
theorem Ty.f8_0 : FieldAt Try.prog 8 0 2 0 := ⟨⟨_, _, Try.underlying8, rfl, rfl, rfl, by rw [Ty.c2]; decide, Ty.i2⟩⟩
theorem Ty.f8_1 : FieldAt Try.prog 8 1 3 1 := ⟨⟨_, _, Try.underlying8, rfl, rfl, rfl, by rw [Ty.c3]; decide, Ty.i3⟩⟩
theorem Ty.f8_2 : FieldAt Try.prog 8 2 4 2 := ⟨⟨_, _, Try.underlying8, rfl, rfl, rfl, by rw [Ty.c4]; decide, Ty.i4⟩⟩
theorem Ty.f8_3 : FieldAt Try.prog 8 3 6 3 := ⟨⟨_, _, Try.underlying8, rfl, rfl, rfl, by rw [Ty.c6]; decide, Ty.i6⟩⟩
theorem Ty.f13_0 : FieldAt Try.prog 13 0 9 0 := ⟨⟨_, _, Try.underlying13, rfl, rfl, rfl, by rw [Ty.c9]; decide, Ty.i9⟩⟩
theorem Ty.f13_1 : FieldAt Try.prog 13 1 12 1 := ⟨⟨_, _, Try.underlying13, rfl, rfl, rfl, by rw [Ty.c12]; decide, Ty.i12⟩⟩
theorem Ty.f14_0 : FieldAt Try.prog 14 0 9 0 := ⟨⟨_, _, Try.underlying14, rfl, rfl, rfl, by rw [Ty.c9]; decide, Ty.i9⟩⟩
theorem Ty.f14_1 : FieldAt Try.prog 14 1 12 1 := ⟨⟨_, _, Try.underlying14, rfl, rfl, rfl, by rw [Ty.c12]; decide, Ty.i12⟩⟩
theorem Ty.f18_0 : FieldAt Try.prog 18 0 17 0 := ⟨⟨_, _, Try.underlying18, rfl, rfl, rfl, by rw [Ty.c17]; decide, Ty.i17⟩⟩
theorem Ty.f19_0 : FieldAt Try.prog 19 0 17 0 := ⟨⟨_, _, Try.underlying19, rfl, rfl, rfl, by rw [Ty.c17]; decide, Ty.i17⟩⟩
theorem Ty.s22 : SliceOf Try.prog 22 9 1 := ⟨Try.underlying22, Ty.c9, Ty.i9, by decide, by rw [Ty.b9]; decide, _, Ty.z9, rfl⟩
theorem Ty.s23 : SliceOf Try.prog 23 42 2 := ⟨Try.underlying23, Ty.c42, Ty.i42, by decide, by rw [Ty.b42]; decide, _, Ty.z42, rfl⟩
theorem Ty.f24_0 : FieldAt Try.prog 24 0 22 0 := ⟨⟨_, _, Try.underlying24, rfl, rfl, rfl, by rw [Ty.c22]; decide, Ty.i22⟩⟩
theorem Ty.f24_1 : FieldAt Try.prog 24 1 23 1 := ⟨⟨_, _, Try.underlying24, rfl, rfl, rfl, by rw [Ty.c23]; decide, Ty.i23⟩⟩
theorem Ty.f25_0 : FieldAt Try.prog 25 0 22 0 := ⟨⟨_, _, Try.underlying25, rfl, rfl, rfl, by rw [Ty.c22]; decide, Ty.i22⟩⟩
theorem Ty.f25_1 : FieldAt Try.prog 25 1 23 1 := ⟨⟨_, _, Try.underlying25, rfl, rfl, rfl, by rw [Ty.c23]; decide, Ty.i23⟩⟩
theorem Ty.s26 : SliceOf Try.prog 26 36 2 := ⟨Try.underlying26, Ty.c36, Ty.i36, by decide, by rw [Ty.b36]; decide, _, Ty.z36, rfl⟩
theorem Ty.f35_0 : FieldAt Try.prog 35 0 3 0 := ⟨⟨_, _, Try.underlying35, rfl, rfl, rfl, by rw [Ty.c3]; decide, Ty.i3⟩⟩
theorem Ty.f35_1 : FieldAt Try.prog 35 1 3 1 := ⟨⟨_, _, Try.underlying35, rfl, rfl, rfl, by rw [Ty.c3]; decide, Ty.i3⟩⟩
theorem Ty.f36_0 : FieldAt Try.prog 36 0 3 0 := ⟨⟨_, _, Try.underlying36, rfl, rfl, rfl, by rw [Ty.c3]; decide, Ty.i3⟩⟩
theorem Ty.f36_1 : FieldAt Try.prog 36 1 3 1 := ⟨⟨_, _, Try.underlying36, rfl, rfl, rfl, by rw [Ty.c3]; decide, Ty.i3⟩⟩
theorem Ty.q36 : StructEq Try.prog 36 [1, 1] := structEq_of (by kernel_rfl) Try.underlying36 (by kernel_rfl) ⟨by decide, rfl, Try.underlying3, by decide, rfl, Try.underlying3, trivial⟩
theorem Ty.f41_0 : FieldAt Try.prog 41 0 3 0 := ⟨⟨_, _, Try.underlying41, rfl, rfl, rfl, by rw [Ty.c3]; decide, Ty.i3⟩⟩
theorem Ty.f41_1 : FieldAt Try.prog 41 1 9 1 := ⟨⟨_, _, Try.underlying41, rfl, rfl, rfl, by rw [Ty.c9]; decide, Ty.i9⟩⟩
theorem Ty.f42_0 : FieldAt Try.prog 42 0 3 0 := ⟨⟨_, _, Try.underlying42, rfl, rfl, rfl, by rw [Ty.c3]; decide, Ty.i3⟩⟩
theorem Ty.f42_1 : FieldAt Try.prog 42 1 9 1 := ⟨⟨_, _, Try.underlying42, rfl, rfl, rfl, by rw [Ty.c9]; decide, Ty.i9⟩⟩
theorem Ty.q42 : StructEq Try.prog 42 [1, 2] := structEq_of (by kernel_rfl) Try.underlying42 (by kernel_rfl) ⟨by decide, rfl, Try.underlying3, by decide, rfl, Try.underlying9, trivial⟩
theorem Ty.s43 : SliceOf Try.prog 43 5 1 := ⟨Try.underlying43, Ty.c5, Ty.i5, by decide, by rw [Ty.b5]; decide, _, Ty.z5, rfl⟩
theorem Ty.s49 : SliceOf Try.prog 49 26 1 := ⟨Try.underlying49, Ty.c26, Ty.i26, by decide, by rw [Ty.b26]; decide, _, Ty.z26, rfl⟩
theorem Ty.s54 : SliceOf Try.prog 54 67 4 := ⟨Try.underlying54, Ty.c67, Ty.i67, by decide, by rw [Ty.b67]; decide, _, Ty.z67, rfl⟩
theorem Ty.f55_0 : FieldAt Try.prog 55 0 54 0 := ⟨⟨_, _, Try.underlying55, rfl, rfl, rfl, by rw [Ty.c54]; decide, Ty.i54⟩⟩
theorem Ty.f55_1 : FieldAt Try.prog 55 1 3 1 := ⟨⟨_, _, Try.underlying55, rfl, rfl, rfl, by rw [Ty.c3]; decide, Ty.i3⟩⟩
theorem Ty.f55_2 : FieldAt Try.prog 55 2 3 2 := ⟨⟨_, _, Try.underlying55, rfl, rfl, rfl, by rw [Ty.c3]; decide, Ty.i3⟩⟩
theorem Ty.f56_0 : FieldAt Try.prog 56 0 54 0 := ⟨⟨_, _, Try.underlying56, rfl, rfl, rfl, by rw [Ty.c54]; decide, Ty.i54⟩⟩
theorem Ty.f56_1 : FieldAt Try.prog 56 1 3 1 := ⟨⟨_, _, Try.underlying56, rfl, rfl, rfl, by rw [Ty.c3]; decide, Ty.i3⟩⟩
theorem Ty.f56_2 : FieldAt Try.prog 56 2 3 2 := ⟨⟨_, _, Try.underlying56, rfl, rfl, rfl, by rw [Ty.c3]; decide, Ty.i3⟩⟩
theorem Ty.s57 : SliceOf Try.prog 57 3 1 := ⟨Try.underlying57, Ty.c3, Ty.i3, by decide, by rw [Ty.b3]; decide, _, Ty.z3, rfl⟩
theorem Ty.f66_0 : FieldAt Try.prog 66 0 3 0 := ⟨⟨_, _, Try.underlying66, rfl, rfl, rfl, by rw [Ty.c3]; decide, Ty.i3⟩⟩
theorem Ty.f66_1 : FieldAt Try.prog 66 1 3 1 := ⟨⟨_, _, Try.underlying66, rfl, rfl, rfl, by rw [Ty.c3]; decide, Ty.i3⟩⟩
theorem Ty.f66_2 : FieldAt Try.prog 66 2 57 2 := ⟨⟨_, _, Try.underlying66, rfl, rfl, rfl, by rw [Ty.c57]; decide, Ty.i57⟩⟩
theorem Ty.f66_3 : FieldAt Try.prog 66 3 57 3 := ⟨⟨_, _, Try.underlying66, rfl, rfl, rfl, by rw [Ty.c57]; decide, Ty.i57⟩⟩
theorem Ty.f67_0 : FieldAt Try.prog 67 0 3 0 := ⟨⟨_, _, Try.underlying67, rfl, rfl, rfl, by rw [Ty.c3]; decide, Ty.i3⟩⟩
theorem Ty.f67_1 : FieldAt Try.prog 67 1 3 1 := ⟨⟨_, _, Try.underlying67, rfl, rfl, rfl, by rw [Ty.c3]; decide, Ty.i3⟩⟩
theorem Ty.f67_2 : FieldAt Try.prog 67 2 57 2 := ⟨⟨_, _, Try.underlying67, rfl, rfl, rfl, by rw [Ty.c57]; decide, Ty.i57⟩⟩
theorem Ty.f67_3 : FieldAt Try.prog 67 3 57 3 := ⟨⟨_, _, Try.underlying67, rfl, rfl, rfl, by rw [Ty.c57]; decide, Ty.i57⟩⟩
theorem Ty.s68 : SliceOf Try.prog 68 74 1 := ⟨Try.underlying68, Ty.c74, Ty.i74, by decide, by rw [Ty.b74]; decide, _, Ty.z74, rfl⟩
theorem Ty.s74 : SliceOf Try.prog 74 79 3 := ⟨Try.underlying74, Ty.c79, Ty.i79, by decide, by rw [Ty.b79]; decide, _, Ty.z79, rfl⟩
theorem Ty.f78_0 : FieldAt Try.prog 78 0 3 0 := ⟨⟨_, _, Try.underlying78, rfl, rfl, rfl, by rw [Ty.c3]; decide, Ty.i3⟩⟩
theorem Ty.f78_1 : FieldAt Try.prog 78 1 3 1 := ⟨⟨_, _, Try.underlying78, rfl, rfl, rfl, by rw [Ty.c3]; decide, Ty.i3⟩⟩
theorem Ty.f78_2 : FieldAt Try.prog 78 2 3 2 := ⟨⟨_, _, Try.underlying78, rfl, rfl, rfl, by rw [Ty.c3]; decide, Ty.i3⟩⟩
theorem Ty.f79_0 : FieldAt Try.prog 79 0 3 0 := ⟨⟨_, _, Try.underlying79, rfl, rfl, rfl, by rw [Ty.c3]; decide, Ty.i3⟩⟩
theorem Ty.f79_1 : FieldAt Try.prog 79 1 3 1 := ⟨⟨_, _, Try.underlying79, rfl, rfl, rfl, by rw [Ty.c3]; decide, Ty.i3⟩⟩
theorem Ty.f79_2 : FieldAt Try.prog 79 2 3 2 := ⟨⟨_, _, Try.underlying79, rfl, rfl, rfl, by rw [Ty.c3]; decide, Ty.i3⟩⟩
theorem Ty.q79 : StructEq Try.prog 79 [1, 1, 1] := structEq_of (by kernel_rfl) Try.underlying79 (by kernel_rfl) ⟨by decide, rfl, Try.underlying3, by decide, rfl, Try.underlying3, by decide, rfl, Try.underlying3, trivial⟩
theorem Ty.s88 : SliceOf Try.prog 88 135 2 := ⟨Try.underlying88, Ty.c135, Ty.i135, by decide, by rw [Ty.b135]; decide, _, Ty.z135, rfl⟩
theorem Ty.f89_0 : FieldAt Try.prog 89 0 3 0 := ⟨⟨_, _, Try.underlying89, rfl, rfl, rfl, by rw [Ty.c3]; decide, Ty.i3⟩⟩
theorem Ty.f89_1 : FieldAt Try.prog 89 1 88 1 := ⟨⟨_, _, Try.underlying89, rfl, rfl, rfl, by rw [Ty.c88]; decide, Ty.i88⟩⟩
theorem Ty.f89_2 : FieldAt Try.prog 89 2 3 2 := ⟨⟨_, _, Try.underlying89, rfl, rfl, rfl, by rw [Ty.c3]; decide, Ty.i3⟩⟩
theorem Ty.f90_0 : FieldAt Try.prog 90 0 3 0 := ⟨⟨_, _, Try.underlying90, rfl, rfl, rfl, by rw [Ty.c3]; decide, Ty.i3⟩⟩
theorem Ty.f90_1 : FieldAt Try.prog 90 1 88 1 := ⟨⟨_, _, Try.underlying90, rfl, rfl, rfl, by rw [Ty.c88]; decide, Ty.i88⟩⟩
theorem Ty.f90_2 : FieldAt Try.prog 90 2 3 2 := ⟨⟨_, _, Try.underlying90, rfl, rfl, rfl, by rw [Ty.c3]; decide, Ty.i3⟩⟩
theorem Ty.s115 : SliceOf Try.prog 115 121 2 := ⟨Try.underlying115, Ty.c121, Ty.i121, by decide, by rw [Ty.b121]; decide, _, Ty.z121, rfl⟩
theorem Ty.s118 : SliceOf Try.prog 118 4 1 := ⟨Try.underlying118, Ty.c4, Ty.i4, by decide, by rw [Ty.b4]; decide, _, Ty.z4, rfl⟩
theorem Ty.f120_0 : FieldAt Try.prog 120 0 3 0 := ⟨⟨_, _, Try.underlying120, rfl, rfl, rfl, by rw [Ty.c3]; decide, Ty.i3⟩⟩
theorem Ty.f120_1 : FieldAt Try.prog 120 1 3 1 := ⟨⟨_, _, Try.underlying120, rfl, rfl, rfl, by rw [Ty.c3]; decide, Ty.i3⟩⟩
theorem Ty.f121_0 : FieldAt Try.prog 121 0 3 0 := ⟨⟨_, _, Try.underlying121, rfl, rfl, rfl, by rw [Ty.c3]; decide, Ty.i3⟩⟩
theorem Ty.f121_1 : FieldAt Try.prog 121 1 3 1 := ⟨⟨_, _, Try.underlying121, rfl, rfl, rfl, by rw [Ty.c3]; decide, Ty.i3⟩⟩
theorem Ty.q121 : StructEq Try.prog 121 [1, 1] := structEq_of (by kernel_rfl) Try.underlying121 (by kernel_rfl) ⟨by decide, rfl, Try.underlying3, by decide, rfl, Try.underlying3, trivial⟩
theorem Ty.f125_0 : FieldAt Try.prog 125 0 122 0 := ⟨⟨_, _, Try.underlying125, rfl, rfl, rfl, by rw [Ty.c122]; decide, Ty.i122⟩⟩
theorem Ty.f125_1 : FieldAt Try.prog 125 1 122 1 := ⟨⟨_, _, Try.underlying125, rfl, rfl, rfl, by rw [Ty.c122]; decide, Ty.i122⟩⟩
theorem Ty.f126_0 : FieldAt Try.prog 126 0 122 0 := ⟨⟨_, _, Try.underlying126, rfl, rfl, rfl, by rw [Ty.c122]; decide, Ty.i122⟩⟩
theorem Ty.f126_1 : FieldAt Try.prog 126 1 122 1 := ⟨⟨_, _, Try.underlying126, rfl, rfl, rfl, by rw [Ty.c122]; decide, Ty.i122⟩⟩
theorem Ty.f134_0 : FieldAt Try.prog 134 0 3 0 := ⟨⟨_, _, Try.underlying134, rfl, rfl, rfl, by rw [Ty.c3]; decide, Ty.i3⟩⟩
theorem Ty.f134_1 : FieldAt Try.prog 134 1 3 1 := ⟨⟨_, _, Try.underlying134, rfl, rfl, rfl, by rw [Ty.c3]; decide, Ty.i3⟩⟩
theorem Ty.f135_0 : FieldAt Try.prog 135 0 3 0 := ⟨⟨_, _, Try.underlying135, rfl, rfl, rfl, by rw [Ty.c3]; decide, Ty.i3⟩⟩
theorem Ty.f135_1 : FieldAt Try.prog 135 1 3 1 := ⟨⟨_, _, Try.underlying135, rfl, rfl, rfl, by rw [Ty.c3]; decide, Ty.i3⟩⟩
theorem Ty.q135 : StructEq Try.prog 135 [1, 1] := structEq_of (by kernel_rfl) Try.underlying135 (by kernel_rfl) ⟨by decide, rfl, Try.underlying3, by decide, rfl, Try.underlying3, trivial⟩
theorem Ty.f153_0 : FieldAt Try.prog 153 0 17 0 := ⟨⟨_, _, Try.underlying153, rfl, rfl, rfl, by rw [Ty.c17]; decide, Ty.i17⟩⟩
theorem Ty.f153_1 : FieldAt Try.prog 153 1 151 1 := ⟨⟨_, _, Try.underlying153, rfl, rfl, rfl, by rw [Ty.c151]; decide, Ty.i151⟩⟩
theorem Ty.f153_2 : FieldAt Try.prog 153 2 152 2 := ⟨⟨_, _, Try.underlying153, rfl, rfl, rfl, by rw [Ty.c152]; decide, Ty.i152⟩⟩
theorem Ty.f154_0 : FieldAt Try.prog 154 0 17 0 := ⟨⟨_, _, Try.underlying154, rfl, rfl, rfl, by rw [Ty.c17]; decide, Ty.i17⟩⟩
theorem Ty.f154_1 : FieldAt Try.prog 154 1 151 1 := ⟨⟨_, _, Try.underlying154, rfl, rfl, rfl, by rw [Ty.c151]; decide, Ty.i151⟩⟩
theorem Ty.f154_2 : FieldAt Try.prog 154 2 152 2 := ⟨⟨_, _, Try.underlying154, rfl, rfl, rfl, by rw [Ty.c152]; decide, Ty.i152⟩⟩
theorem Ty.f161_0 : FieldAt Try.prog 161 0 142 0 := ⟨⟨_, _, Try.underlying161, rfl, rfl, rfl, by rw [Ty.c142]; decide, Ty.i142⟩⟩
theorem Ty.f161_1 : FieldAt Try.prog 161 1 156 1 := ⟨⟨_, _, Try.underlying161, rfl, rfl, rfl, by rw [Ty.c156]; decide, Ty.i156⟩⟩
theorem Ty.f162_0 : FieldAt Try.prog 162 0 142 0 := ⟨⟨_, _, Try.underlying162, rfl, rfl, rfl, by rw [Ty.c142]; decide, Ty.i142⟩⟩
theorem Ty.f162_1 : FieldAt Try.prog 162 1 156 1 := ⟨⟨_, _, Try.underlying162, rfl, rfl, rfl, by rw [Ty.c156]; decide, Ty.i156⟩⟩
theorem Ty.f165_0 : FieldAt Try.prog 165 0 17 0 := ⟨⟨_, _, Try.underlying165, rfl, rfl, rfl, by rw [Ty.c17]; decide, Ty.i17⟩⟩
theorem Ty.f166_0 : FieldAt Try.prog 166 0 17 0 := ⟨⟨_, _, Try.underlying166, rfl, rfl, rfl, by rw [Ty.c17]; decide, Ty.i17⟩⟩
theorem Ty.f194_0 : FieldAt Try.prog 194 0 17 0 := ⟨⟨_, _, Try.underlying194, rfl, rfl, rfl, by rw [Ty.c17]; decide, Ty.i17⟩⟩
theorem Ty.f194_1 : FieldAt Try.prog 194 1 17 1 := ⟨⟨_, _, Try.underlying194, rfl, rfl, rfl, by rw [Ty.c17]; decide, Ty.i17⟩⟩
theorem Ty.f194_2 : FieldAt Try.prog 194 2 17 2 := ⟨⟨_, _, Try.underlying194, rfl, rfl, rfl, by rw [Ty.c17]; decide, Ty.i17⟩⟩
theorem Ty.f194_3 : FieldAt Try.prog 194 3 9 3 := ⟨⟨_, _, Try.underlying194, rfl, rfl, rfl, by rw [Ty.c9]; decide, Ty.i9⟩⟩
theorem Ty.f195_0 : FieldAt Try.prog 195 0 17 0 := ⟨⟨_, _, Try.underlying195, rfl, rfl, rfl, by rw [Ty.c17]; decide, Ty.i17⟩⟩
theorem Ty.f195_1 : FieldAt Try.prog 195 1 17 1 := ⟨⟨_, _, Try.underlying195, rfl, rfl, rfl, by rw [Ty.c17]; decide, Ty.i17⟩⟩
theorem Ty.f195_2 : FieldAt Try.prog 195 2 17 2 := ⟨⟨_, _, Try.underlying195, rfl, rfl, rfl, by rw [Ty.c17]; decide, Ty.i17⟩⟩
theorem Ty.f195_3 : FieldAt Try.prog 195 3 9 3 := ⟨⟨_, _, Try.underlying195, rfl, rfl, rfl, by rw [Ty.c9]; decide, Ty.i9⟩⟩
theorem Ty.f205_0 : FieldAt Try.prog 205 0 12 0 := ⟨⟨_, _, Try.underlying205, rfl, rfl, rfl, by rw [Ty.c12]; decide, Ty.i12⟩⟩
theorem Ty.f205_1 : FieldAt Try.prog 205 1 12 1 := ⟨⟨_, _, Try.underlying205, rfl, rfl, rfl, by rw [Ty.c12]; decide, Ty.i12⟩⟩
theorem Ty.f205_2 : FieldAt Try.prog 205 2 169 2 := ⟨⟨_, _, Try.underlying205, rfl, rfl, rfl, by rw [Ty.c169]; decide, Ty.i169⟩⟩
theorem Ty.f205_3 : FieldAt Try.prog 205 3 199 3 := ⟨⟨_, _, Try.underlying205, rfl, rfl, rfl, by rw [Ty.c199]; decide, Ty.i199⟩⟩
theorem Ty.f205_4 : FieldAt Try.prog 205 4 5 4 := ⟨⟨_, _, Try.underlying205, rfl, rfl, rfl, by rw [Ty.c5]; decide, Ty.i5⟩⟩
theorem Ty.f205_5 : FieldAt Try.prog 205 5 5 5 := ⟨⟨_, _, Try.underlying205, rfl, rfl, rfl, by rw [Ty.c5]; decide, Ty.i5⟩⟩
theorem Ty.f205_6 : FieldAt Try.prog 205 6 200 6 := ⟨⟨_, _, Try.underlying205, rfl, rfl, rfl, by rw [Ty.c200]; decide, Ty.i200⟩⟩
theorem Ty.f205_7 : FieldAt Try.prog 205 7 201 7 := ⟨⟨_, _, Try.underlying205, rfl, rfl, rfl, by rw [Ty.c201]; decide, Ty.i201⟩⟩
theorem Ty.f205_8 : FieldAt Try.prog 205 8 202 8 := ⟨⟨_, _, Try.underlying205, rfl, rfl, rfl, by rw [Ty.c202]; decide, Ty.i202⟩⟩
theorem Ty.f205_9 : FieldAt Try.prog 205 9 203 9 := ⟨⟨_, _, Try.underlying205, rfl, rfl, rfl, by rw [Ty.c203]; decide, Ty.i203⟩⟩
theorem Ty.f205_10 : FieldAt Try.prog 205 10 204 10 := ⟨⟨_, _, Try.underlying205, rfl, rfl, rfl, by rw [Ty.c204]; decide, Ty.i204⟩⟩
theorem Ty.f206_0 : FieldAt Try.prog 206 0 12 0 := ⟨⟨_, _, Try.underlying206, rfl, rfl, rfl, by rw [Ty.c12]; decide, Ty.i12⟩⟩
theorem Ty.f206_1 : FieldAt Try.prog 206 1 12 1 := ⟨⟨_, _, Try.underlying206, rfl, rfl, rfl, by rw [Ty.c12]; decide, Ty.i12⟩⟩
theorem Ty.f206_2 : FieldAt Try.prog 206 2 169 2 := ⟨⟨_, _, Try.underlying206, rfl, rfl, rfl, by rw [Ty.c169]; decide, Ty.i169⟩⟩
theorem Ty.f206_3 : FieldAt Try.prog 206 3 199 3 := ⟨⟨_, _, Try.underlying206, rfl, rfl, rfl, by rw [Ty.c199]; decide, Ty.i199⟩⟩
theorem Ty.f206_4 : FieldAt Try.prog 206 4 5 4 := ⟨⟨_, _, Try.underlying206, rfl, rfl, rfl, by rw [Ty.c5]; decide, Ty.i5⟩⟩
theorem Ty.f206_5 : FieldAt Try.prog 206 5 5 5 := ⟨⟨_, _, Try.underlying206, rfl, rfl, rfl, by rw [Ty.c5]; decide, Ty.i5⟩⟩
theorem Ty.f206_6 : FieldAt Try.prog 206 6 200 6 := ⟨⟨_, _, Try.underlying206, rfl, rfl, rfl, by rw [Ty.c200]; decide, Ty.i200⟩⟩
theorem Ty.f206_7 : FieldAt Try.prog 206 7 201 7 := ⟨⟨_, _, Try.underlying206, rfl, rfl, rfl, by rw [Ty.c201]; decide, Ty.i201⟩⟩
theorem Ty.f206_8 : FieldAt Try.prog 206 8 202 8 := ⟨⟨_, _, Try.underlying206, rfl, rfl, rfl, by rw [Ty.c202]; decide, Ty.i202⟩⟩
theorem Ty.f206_9 : FieldAt Try.prog 206 9 203 9 := ⟨⟨_, _, Try.underlying206, rfl, rfl, rfl, by rw [Ty.c203]; decide, Ty.i203⟩⟩
theorem Ty.f206_10 : FieldAt Try.prog 206 10 204 10 := ⟨⟨_, _, Try.underlying206, rfl, rfl, rfl, by rw [Ty.c204]; decide, Ty.i204⟩⟩
theorem Ty.f207_0 : FieldAt Try.prog 207 0 9 0 := ⟨⟨_, _, Try.underlying207, rfl, rfl, rfl, by rw [Ty.c9]; decide, Ty.i9⟩⟩
theorem Ty.f207_1 : FieldAt Try.prog 207 1 200 1 := ⟨⟨_, _, Try.underlying207, rfl, rfl, rfl, by rw [Ty.c200]; decide, Ty.i200⟩⟩
theorem Ty.f208_0 : FieldAt Try.prog 208 0 9 0 := ⟨⟨_, _, Try.underlying208, rfl, rfl, rfl, by rw [Ty.c9]; decide, Ty.i9⟩⟩
theorem Ty.f208_1 : FieldAt Try.prog 208 1 200 1 := ⟨⟨_, _, Try.underlying208, rfl, rfl, rfl, by rw [Ty.c200]; decide, Ty.i200⟩⟩
attribute [go_sem] Ty.c1 Ty.b1 Ty.k1 Ty.z1 Ty.c2 Ty.b2 Ty.k2 Ty.z2 Ty.c3 Ty.b3 Ty.k3 Ty.z3 Ty.c4 Ty.b4 Ty.k4 Ty.z4 Ty.c5 Ty.b5 Ty.k5 Ty.z5 Ty.c6 Ty.b6 Ty.k6 Ty.z6 Ty.c7 Ty.b7 Ty.k7 Ty.z7 Ty.p7 Ty.c8 Ty.b8 Ty.k8 Ty.z8 Ty.p8 Ty.c9 Ty.b9 Ty.k9 Ty.z9 Ty.c10 Ty.b10 Ty.k10 Ty.z10 Ty.c11 Ty.b11 Ty.k11 Ty.z11 Ty.c12 Ty.b12 Ty.k12 Ty.z12 Ty.c13 Ty.b13 Ty.k13 Ty.z13 Ty.p13 Ty.c14 Ty.b14 Ty.k14 Ty.z14 Ty.p14 Ty.c15 Ty.b15 Ty.k15 Ty.z15 Ty.c16 Ty.b16 Ty.k16 Ty.z16 Ty.c17 Ty.b17 Ty.k17 Ty.z17 Ty.c18 Ty.b18 Ty.k18 Ty.z18 Ty.p18 Ty.c19 Ty.b19 Ty.k19 Ty.z19 Ty.p19 Ty.c20 Ty.b20 Ty.k20 Ty.z20 Ty.c21 Ty.b21 Ty.k21 Ty.z21 Ty.c22 Ty.b22 Ty.k22 Ty.z22 Ty.c23 Ty.b23 Ty.k23 Ty.z23 Ty.c24 Ty.b24 Ty.k24 Ty.z24 Ty.p24 Ty.c25 Ty.b25 Ty.k25 Ty.z25 Ty.p25 Ty.c26 Ty.b26 Ty.k26 Ty.z26 Ty.c27 Ty.b27 Ty.k27 Ty.z27 Ty.c29 Ty.b29 Ty.k29 Ty.z29 Ty.c30 Ty.b30 Ty.k30 Ty.z30 Ty.c31 Ty.b31 Ty.k31 Ty.z31 Ty.c33 Ty.b33 Ty.k33 Ty.z33 Ty.c34 Ty.b34 Ty.k34 Ty.z34 Ty.c35 Ty.b35 Ty.k35 Ty.z35 Ty.p35 Ty.c36 Ty.b36 Ty.k36 Ty.z36 Ty.p36 Ty.c37 Ty.b37 Ty.k37 Ty.z37 Ty.c39 Ty.b39 Ty.k39 Ty.z39 Ty.c40 Ty.b40 Ty.k40 Ty.z40 Ty.c41 Ty.b41 Ty.k41 Ty.z41 Ty.p41 Ty.c42 Ty.b42 Ty.k42 Ty.z42 Ty.p42 Ty.c43 Ty.b43 Ty.k43 Ty.z43 Ty.c44 Ty.b44 Ty.k44 Ty.z44 Ty.c45 Ty.b45 Ty.k45 Ty.z45 Ty.c46 Ty.b46 Ty.k46 Ty.z46 Ty.c47 Ty.b47 Ty.k47 Ty.z47 Ty.c48 Ty.b48 Ty.k48 Ty.z48 Ty.c49 Ty.b49 Ty.k49 Ty.z49 Ty.c50 Ty.b50 Ty.k50 Ty.z50 Ty.c52 Ty.b52 Ty.k52 Ty.z52 Ty.c53 Ty.b53 Ty.k53 Ty.z53 Ty.c54 Ty.b54 Ty.k54 Ty.z54 Ty.c55 Ty.b55 Ty.k55 Ty.z55 Ty.p55 Ty.c56 Ty.b56 Ty.k56 Ty.z56 Ty.p56 Ty.c57 Ty.b57 Ty.k57 Ty.z57 Ty.c59 Ty.b59 Ty.k59 Ty.z59 Ty.c60 Ty.b60 Ty.k60 Ty.z60 Ty.c62 Ty.b62 Ty.k62 Ty.z62 Ty.c63 Ty.b63 Ty.k63 Ty.z63 Ty.c64 Ty.b64 Ty.k64 Ty.z64 Ty.c65 Ty.b65 Ty.k65 Ty.z65 Ty.c66 Ty.b66 Ty.k66 Ty.z66 Ty.p66 Ty.c67 Ty.b67 Ty.k67 Ty.z67 Ty.p67 Ty.c68 Ty.b68 Ty.k68 Ty.z68 Ty.c69 Ty.b69 Ty.k69 Ty.z69 Ty.c70 Ty.b70 Ty.k70 Ty.z70 Ty.c71 Ty.b71 Ty.k71 Ty.z71 Ty.c72 Ty.b72 Ty.k72 Ty.z72 Ty.c73 Ty.b73 Ty.k73 Ty.z73 Ty.c74 Ty.b74 Ty.k74 Ty.z74 Ty.c76 Ty.b76 Ty.k76 Ty.z76 Ty.c77 Ty.b77 Ty.k77 Ty.z77 Ty.c78 Ty.b78 Ty.k78 Ty.z78 Ty.p78 Ty.c79 Ty.b79 Ty.k79 Ty.z79 Ty.p79 Ty.c80 Ty.b80 Ty.k80 Ty.z80 Ty.c81 Ty.b81 Ty.k81 Ty.z81 Ty.c82 Ty.b82 Ty.k82 Ty.z82 Ty.c83 Ty.b83 Ty.k83 Ty.z83 Ty.c84 Ty.b84 Ty.k84 Ty.z84 Ty.c86 Ty.b86 Ty.k86 Ty.z86 Ty.c87 Ty.b87 Ty.k87 Ty.z87 Ty.c88 Ty.b88 Ty.k88 Ty.z88 Ty.c89 Ty.b89 Ty.k89 Ty.z89 Ty.p89 Ty.c90 Ty.b90 Ty.k90 Ty.z90 Ty.p90 Ty.c91 Ty.b91 Ty.k91 Ty.z91 Ty.c93 Ty.b93 Ty.k93 Ty.z93 Ty.c94 Ty.b94 Ty.k94 Ty.z94 Ty.c95 Ty.b95 Ty.k95 Ty.z95 Ty.c96 Ty.b96 Ty.k96 Ty.z96 Ty.c97 Ty.b97 Ty.k97 Ty.z97 Ty.c99 Ty.b99 Ty.k99 Ty.z99 Ty.c101 Ty.b101 Ty.k101 Ty.z101 Ty.c102 Ty.b102 Ty.k102 Ty.z102 Ty.c104 Ty.b104 Ty.k104 Ty.z104 Ty.c106 Ty.b106 Ty.k106 Ty.z106 Ty.c108 Ty.b108 Ty.k108 Ty.z108 Ty.c109 Ty.b109 Ty.k109 Ty.z109 Ty.c110 Ty.b110 Ty.k110 Ty.z110 Ty.c111 Ty.b111 Ty.k111 Ty.z111 Ty.c112 Ty.b112 Ty.k112 Ty.z112 Ty.c113 Ty.b113 Ty.k113 Ty.z113 Ty.c114 Ty.b114 Ty.k114 Ty.z114 Ty.c115 Ty.b115 Ty.k115 Ty.z115 Ty.c117 Ty.b117 Ty.k117 Ty.z117 Ty.c118 Ty.b118 Ty.k118 Ty.z118 Ty.c119 Ty.b119 Ty.k119 Ty.z119 Ty.c120 Ty.b120 Ty.k120 Ty.z120 Ty.p120 Ty.c121 Ty.b121 Ty.k121 Ty.z121 Ty.p121 Ty.c122 Ty.b122 Ty.k122 Ty.z122 Ty.c123 Ty.b123 Ty.k123 Ty.z123 Ty.c124 Ty.b124 Ty.k124 Ty.z124 Ty.c125 Ty.b125 Ty.k125 Ty.z125 Ty.p125 Ty.c126 Ty.b126 Ty.k126 Ty.z126 Ty.p126 Ty.c128 Ty.b128 Ty.k128 Ty.z128 Ty.c130 Ty.b130 Ty.k130 Ty.z130 Ty.c131 Ty.b131 Ty.k131 Ty.z131 Ty.c132 Ty.b132 Ty.k132 Ty.z132 Ty.c133 Ty.b133 Ty.k133 Ty.z133 Ty.c134 Ty.b134 Ty.k134 Ty.z134 Ty.p134 Ty.c135 Ty.b135 Ty.k135 Ty.z135 Ty.p135 Ty.c136 Ty.b136 Ty.k136 Ty.z136 Ty.c137 Ty.b137 Ty.k137 Ty.z137 Ty.c138 Ty.b138 Ty.k138 Ty.z138 Ty.c139 Ty.b139 Ty.k139 Ty.z139 Ty.c140 Ty.b140 Ty.k140 Ty.z140 Ty.c141 Ty.b141 Ty.k141 Ty.z141 Ty.c142 Ty.b142 Ty.k142 Ty.z142 Ty.c143 Ty.b143 Ty.k143 Ty.z143 Ty.c144 Ty.b144 Ty.k144 Ty.z144 Ty.c146 Ty.b146 Ty.k146 Ty.z146 Ty.c147 Ty.b147 Ty.k147 Ty.z147 Ty.c148 Ty.b148 Ty.k148 Ty.z148 Ty.c149 Ty.b149 Ty.k149 Ty.z149 Ty.p149 Ty.c150 Ty.b150 Ty.k150 Ty.z150 Ty.c151 Ty.b151 Ty.k151 Ty.z151 Ty.c152 Ty.b152 Ty.k152 Ty.z152 Ty.c153 Ty.b153 Ty.k153 Ty.z153 Ty.p153 Ty.c154 Ty.b154 Ty.k154 Ty.z154 Ty.p154 Ty.c155 Ty.b155 Ty.k155 Ty.z155 Ty.c156 Ty.b156 Ty.k156 Ty.z156 Ty.c157 Ty.b157 Ty.k157 Ty.z157 Ty.c158 Ty.b158 Ty.k158 Ty.z158 Ty.c159 Ty.b159 Ty.k159 Ty.z159 Ty.c160 Ty.b160 Ty.k160 Ty.z160 Ty.c161 Ty.b161 Ty.k161 Ty.z161 Ty.p161 Ty.c162 Ty.b162 Ty.k162 Ty.z162 Ty.p162 Ty.c164 Ty.b164 Ty.k164 Ty.z164 Ty.c165 Ty.b165 Ty.k165 Ty.z165 Ty.p165 Ty.c166 Ty.b166 Ty.k166 Ty.z166 Ty.p166 Ty.c167 Ty.b167 Ty.k167 Ty.z167 Ty.c168 Ty.b168 Ty.k168 Ty.z168 Ty.c169 Ty.b169 Ty.k169 Ty.z169 Ty.c170 Ty.b170 Ty.k170 Ty.z170 Ty.c171 Ty.b171 Ty.k171 Ty.z171 Ty.c172 Ty.b172 Ty.k172 Ty.z172 Ty.c173 Ty.b173 Ty.k173 Ty.z173 Ty.c175 Ty.b175 Ty.k175 Ty.z175 Ty.c176 Ty.b176 Ty.k176 Ty.z176 Ty.c177 Ty.b177 Ty.k177 Ty.z177 Ty.c178 Ty.b178 Ty.k178 Ty.z178 Ty.c180 Ty.b180 Ty.k180 Ty.z180 Ty.c182 Ty.b182 Ty.k182 Ty.z182 Ty.c183 Ty.b183 Ty.k183 Ty.z183 Ty.c184 Ty.b184 Ty.k184 Ty.z184 Ty.c185 Ty.b185 Ty.k185 Ty.z185 Ty.c186 Ty.b186 Ty.k186 Ty.z186 Ty.c187 Ty.b187 Ty.k187 Ty.z187 Ty.c188 Ty.b188 Ty.k188 Ty.z188 Ty.c189 Ty.b189 Ty.k189 Ty.z189 Ty.c190 Ty.b190 Ty.k190 Ty.z190 Ty.c192 Ty.b192 Ty.k192 Ty.z192 Ty.c193 Ty.b193 Ty.k193 Ty.z193 Ty.c194 Ty.b194 Ty.k194 Ty.z194 Ty.p194 Ty.c195 Ty.b195 Ty.k195 Ty.z195 Ty.p195 Ty.c196 Ty.b196 Ty.k196 Ty.z196 Ty.p196 Ty.c197 Ty.b197 Ty.k197 Ty.z197 Ty.p197 Ty.c198 Ty.b198 Ty.k198 Ty.z198 Ty.p198 Ty.c199 Ty.b199 Ty.k199 Ty.z199 Ty.c200 Ty.b200 Ty.k200 Ty.z200 Ty.c201 Ty.b201 Ty.k201 Ty.z201 Ty.c202 Ty.b202 Ty.k202 Ty.z202 Ty.c203 Ty.b203 Ty.k203 Ty.z203 Ty.c204 Ty.b204 Ty.k204 Ty.z204 Ty.c205 Ty.b205 Ty.k205 Ty.z205 Ty.p205 Ty.c206 Ty.b206 Ty.k206 Ty.z206 Ty.p206 Ty.c207 Ty.b207 Ty.k207 Ty.z207 Ty.p207 Ty.c208 Ty.b208 Ty.k208 Ty.z208 Ty.p208
attribute [go_sem] Try.underlying1 Try.underlying2 Try.underlying3 Try.underlying4 Try.underlying5 Try.underlying6 Try.underlying7 Try.underlying8 Try.underlying9 Try.underlying10 Try.underlying11 Try.underlying12 Try.underlying13 Try.underlying14 Try.underlying15 Try.underlying16 Try.underlying17 Try.underlying18 Try.underlying19 Try.underlying20 Try.underlying21 Try.underlying22 Try.underlying23 Try.underlying24 Try.underlying25 Try.underlying26 Try.underlying27 Try.underlying29 Try.underlying30 Try.underlying31 Try.underlying33 Try.underlying34 Try.underlying35 Try.underlying36 Try.underlying37 Try.underlying39 Try.underlying40 Try.underlying41 Try.underlying42 Try.underlying43 Try.underlying44 Try.underlying45 Try.underlying46 Try.underlying47 Try.underlying48 Try.underlying49 Try.underlying50 Try.underlying52 Try.underlying53 Try.underlying54 Try.underlying55 Try.underlying56 Try.underlying57 Try.underlying59 Try.underlying60 Try.underlying62 Try.underlying63 Try.underlying64 Try.underlying65 Try.underlying66 Try.underlying67 Try.underlying68 Try.underlying69 Try.underlying70 Try.underlying71 Try.underlying72 Try.underlying73 Try.underlying74 Try.underlying76 Try.underlying77 Try.underlying78 Try.underlying79 Try.underlying80 Try.underlying81 Try.underlying82 Try.underlying83 Try.underlying84 Try.underlying86 Try.underlying87 Try.underlying88 Try.underlying89 Try.underlying90 Try.underlying91 Try.underlying93 Try.underlying94 Try.underlying95 Try.underlying96 Try.underlying97 Try.underlying99 Try.underlying101 Try.underlying102 Try.underlying104 Try.underlying106 Try.underlying108 Try.underlying109 Try.underlying110 Try.underlying111 Try.underlying112 Try.underlying113 Try.underlying114 Try.underlying115 Try.underlying117 Try.underlying118 Try.underlying119 Try.underlying120 Try.underlying121 Try.underlying122 Try.underlying123 Try.underlying124 Try.underlying125 Try.underlying126 Try.underlying128 Try.underlying130 Try.underlying131 Try.underlying132 Try.underlying133 Try.underlying134 Try.underlying135 Try.underlying136 Try.underlying137 Try.underlying138 Try.underlying139 Try.underlying140 Try.underlying141 Try.underlying142 Try.underlying143 Try.underlying144 Try.underlying146 Try.underlying147 Try.underlying148 Try.underlying149 Try.underlying150 Try.underlying151 Try.underlying152 Try.underlying153 Try.underlying154 Try.underlying155 Try.underlying156 Try.underlying157 Try.underlying158 Try.underlying159 Try.underlying160 Try.underlying161 Try.underlying162 Try.underlying164 Try.underlying165 Try.underlying166 Try.underlying167 Try.underlying168 Try.underlying169 Try.underlying170 Try.underlying171 Try.underlying172 Try.underlying173 Try.underlying175 Try.underlying176 Try.underlying177 Try.underlying178 Try.underlying180 Try.underlying182 Try.underlying183 Try.underlying184 Try.underlying185 Try.underlying186 Try.underlying187 Try.underlying188 Try.underlying189 Try.underlying190 Try.underlying192 Try.underlying193 Try.underlying194 Try.underlying195 Try.underlying196 Try.underlying197 Try.underlying198 Try.underlying199 Try.underlying200 Try.underlying201 Try.underlying202 Try.underlying203 Try.underlying204 Try.underlying205 Try.underlying206 Try.underlying207 Try.underlying208

end Go.Proofs.Ytegkmfokfakeiaa
