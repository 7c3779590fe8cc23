/-
  MADE BY A PROGRAM (qt.py): facts about the types of the program 'Try'.
-/
import Derived.Test.YtgcmbhfbdblfcaaQo
set_option linter.unusedVariables false
set_option linter.unusedSimpArgs false
namespace Go.Q
open Go.Proofs
namespace Ty

theorem u0 : True := trivial
theorem c0 : Try.prog.cellsOf 0 = 1 := by kernel_rfl
theorem n0 : (Try.prog.info? 0).isSome = true := by kernel_rfl
theorem b0 : Try.prog.bytesOf 0 = 0 := by kernel_rfl
theorem k0 : knownT Try.prog 0 = true := by kernel_rfl
theorem a0 : isAggT Try.prog 0 = false := by kernel_rfl
theorem z0 : zOf 0 = [] := rfl
theorem u1 : True := trivial
theorem c1 : Try.prog.cellsOf 1 = 1 := by kernel_rfl
theorem n1 : (Try.prog.info? 1).isSome = true := by kernel_rfl
theorem b1 : Try.prog.bytesOf 1 = 8 := by kernel_rfl
theorem k1 : knownT Try.prog 1 = true := by kernel_rfl
theorem a1 : isAggT Try.prog 1 = false := by kernel_rfl
theorem z1 : zOf 1 = [.sc .nilFunc] := rfl
theorem u3 : Try.prog.underlying 3 = some (.int .i64) := by kernel_rfl
theorem c3 : Try.prog.cellsOf 3 = 1 := by kernel_rfl
theorem n3 : (Try.prog.info? 3).isSome = true := by kernel_rfl
theorem b3 : Try.prog.bytesOf 3 = 8 := by kernel_rfl
theorem k3 : knownT Try.prog 3 = true := by kernel_rfl
theorem a3 : isAggT Try.prog 3 = false := by kernel_rfl
theorem z3 : zOf 3 = [.sc (.int .i64 0)] := rfl
theorem u4 : Try.prog.underlying 4 = some (.bool) := by kernel_rfl
theorem c4 : Try.prog.cellsOf 4 = 1 := by kernel_rfl
theorem n4 : (Try.prog.info? 4).isSome = true := by kernel_rfl
theorem b4 : Try.prog.bytesOf 4 = 1 := by kernel_rfl
theorem k4 : knownT Try.prog 4 = true := by kernel_rfl
theorem a4 : isAggT Try.prog 4 = false := by kernel_rfl
theorem z4 : zOf 4 = [.sc (.bool false)] := rfl
theorem u5 : Try.prog.underlying 5 = some (.int .u8) := by kernel_rfl
theorem c5 : Try.prog.cellsOf 5 = 1 := by kernel_rfl
theorem n5 : (Try.prog.info? 5).isSome = true := by kernel_rfl
theorem b5 : Try.prog.bytesOf 5 = 1 := by kernel_rfl
theorem k5 : knownT Try.prog 5 = true := by kernel_rfl
theorem a5 : isAggT Try.prog 5 = false := by kernel_rfl
theorem z5 : zOf 5 = [.sc (.int .u8 0)] := rfl
theorem u9 : Try.prog.underlying 9 = some (.string) := by kernel_rfl
theorem c9 : Try.prog.cellsOf 9 = 1 := by kernel_rfl
theorem n9 : (Try.prog.info? 9).isSome = true := by kernel_rfl
theorem b9 : Try.prog.bytesOf 9 = 16 := by kernel_rfl
theorem k9 : knownT Try.prog 9 = true := by kernel_rfl
theorem a9 : isAggT Try.prog 9 = false := by kernel_rfl
theorem z9 : zOf 9 = [] := rfl
theorem u21 : Try.prog.underlying 21 = some (.int .i32) := by kernel_rfl
theorem c21 : Try.prog.cellsOf 21 = 1 := by kernel_rfl
theorem n21 : (Try.prog.info? 21).isSome = true := by kernel_rfl
theorem b21 : Try.prog.bytesOf 21 = 4 := by kernel_rfl
theorem k21 : knownT Try.prog 21 = true := by kernel_rfl
theorem a21 : isAggT Try.prog 21 = false := by kernel_rfl
theorem z21 : zOf 21 = [.sc (.int .i32 0)] := rfl
theorem u22 : Try.prog.underlying 22 = some (.slice 34) := by kernel_rfl
theorem el22 : elT Try.prog 22 = some 34 := elT_of u22
theorem c22 : Try.prog.cellsOf 22 = 1 := by kernel_rfl
theorem n22 : (Try.prog.info? 22).isSome = true := by kernel_rfl
theorem b22 : Try.prog.bytesOf 22 = 24 := by kernel_rfl
theorem k22 : knownT Try.prog 22 = true := by kernel_rfl
theorem a22 : isAggT Try.prog 22 = false := by kernel_rfl
theorem z22 : zOf 22 = [.list 4 .full []] := rfl
theorem u24 : Try.prog.underlying 24 = some (.pointer 116) := by kernel_rfl
theorem c24 : Try.prog.cellsOf 24 = 1 := by kernel_rfl
theorem n24 : (Try.prog.info? 24).isSome = true := by kernel_rfl
theorem b24 : Try.prog.bytesOf 24 = 8 := by kernel_rfl
theorem k24 : knownT Try.prog 24 = true := by kernel_rfl
theorem a24 : isAggT Try.prog 24 = false := by kernel_rfl
theorem z24 : zOf 24 = [.sc (.pointer none)] := rfl
theorem u26 : Try.prog.underlying 26 = some (.pointer 31) := by kernel_rfl
theorem c26 : Try.prog.cellsOf 26 = 1 := by kernel_rfl
theorem n26 : (Try.prog.info? 26).isSome = true := by kernel_rfl
theorem b26 : Try.prog.bytesOf 26 = 8 := by kernel_rfl
theorem k26 : knownT Try.prog 26 = true := by kernel_rfl
theorem a26 : isAggT Try.prog 26 = false := by kernel_rfl
theorem z26 : zOf 26 = [.sc (.pointer none)] := rfl
theorem u29 : Try.prog.underlying 29 = some (.slice 122) := by kernel_rfl
theorem el29 : elT Try.prog 29 = some 122 := elT_of u29
theorem c29 : Try.prog.cellsOf 29 = 1 := by kernel_rfl
theorem n29 : (Try.prog.info? 29).isSome = true := by kernel_rfl
theorem b29 : Try.prog.bytesOf 29 = 24 := by kernel_rfl
theorem k29 : knownT Try.prog 29 = true := by kernel_rfl
theorem a29 : isAggT Try.prog 29 = false := by kernel_rfl
theorem z29 : zOf 29 = [.list 2 .full []] := rfl
theorem s31 : isStruct Try.prog 31 = true := by kernel_rfl
theorem c31 : Try.prog.cellsOf 31 = 2 := by kernel_rfl
theorem n31 : (Try.prog.info? 31).isSome = true := by kernel_rfl
theorem b31 : Try.prog.bytesOf 31 = 32 := by kernel_rfl
theorem k31 : knownT Try.prog 31 = true := by kernel_rfl
theorem a31 : isAggT Try.prog 31 = true := by kernel_rfl
theorem z31 : zOf 31 = [.sc (.int .i64 0), .list 2 .full []] := rfl
theorem u32 : Try.prog.underlying 32 = some (.slice 38) := by kernel_rfl
theorem el32 : elT Try.prog 32 = some 38 := elT_of u32
theorem c32 : Try.prog.cellsOf 32 = 1 := by kernel_rfl
theorem n32 : (Try.prog.info? 32).isSome = true := by kernel_rfl
theorem b32 : Try.prog.bytesOf 32 = 24 := by kernel_rfl
theorem k32 : knownT Try.prog 32 = true := by kernel_rfl
theorem a32 : isAggT Try.prog 32 = false := by kernel_rfl
theorem z32 : zOf 32 = [.list 1 .full []] := rfl
theorem s34 : isStruct Try.prog 34 = true := by kernel_rfl
theorem c34 : Try.prog.cellsOf 34 = 4 := by kernel_rfl
theorem n34 : (Try.prog.info? 34).isSome = true := by kernel_rfl
theorem b34 : Try.prog.bytesOf 34 = 48 := by kernel_rfl
theorem k34 : knownT Try.prog 34 = true := by kernel_rfl
theorem a34 : isAggT Try.prog 34 = true := by kernel_rfl
theorem z34 : zOf 34 = [.sc (.int .i64 0), .sc (.int .i64 0), .sc (.int .i64 0), .list 1 .full []] := rfl
theorem u36 : Try.prog.underlying 36 = some (.int .i64) := by kernel_rfl
theorem c36 : Try.prog.cellsOf 36 = 1 := by kernel_rfl
theorem n36 : (Try.prog.info? 36).isSome = true := by kernel_rfl
theorem b36 : Try.prog.bytesOf 36 = 8 := by kernel_rfl
theorem k36 : knownT Try.prog 36 = true := by kernel_rfl
theorem a36 : isAggT Try.prog 36 = false := by kernel_rfl
theorem z36 : zOf 36 = [.sc (.int .i64 0)] := rfl
theorem u38 : Try.prog.underlying 38 = some (.int .i8) := by kernel_rfl
theorem c38 : Try.prog.cellsOf 38 = 1 := by kernel_rfl
theorem n38 : (Try.prog.info? 38).isSome = true := by kernel_rfl
theorem b38 : Try.prog.bytesOf 38 = 1 := by kernel_rfl
theorem k38 : knownT Try.prog 38 = true := by kernel_rfl
theorem a38 : isAggT Try.prog 38 = false := by kernel_rfl
theorem z38 : zOf 38 = [.sc (.int .i8 0)] := rfl
theorem u39 : True := trivial
theorem c39 : Try.prog.cellsOf 39 = 1 := by kernel_rfl
theorem n39 : (Try.prog.info? 39).isSome = true := by kernel_rfl
theorem b39 : Try.prog.bytesOf 39 = 0 := by kernel_rfl
theorem k39 : knownT Try.prog 39 = true := by kernel_rfl
theorem a39 : isAggT Try.prog 39 = false := by kernel_rfl
theorem z39 : zOf 39 = [] := rfl
theorem u43 : Try.prog.underlying 43 = some (.slice 85) := by kernel_rfl
theorem el43 : elT Try.prog 43 = some 85 := elT_of u43
theorem c43 : Try.prog.cellsOf 43 = 1 := by kernel_rfl
theorem n43 : (Try.prog.info? 43).isSome = true := by kernel_rfl
theorem b43 : Try.prog.bytesOf 43 = 24 := by kernel_rfl
theorem k43 : knownT Try.prog 43 = true := by kernel_rfl
theorem a43 : isAggT Try.prog 43 = false := by kernel_rfl
theorem z43 : zOf 43 = [.list 4 .full []] := rfl
theorem u44 : Try.prog.underlying 44 = some (.slice 58) := by kernel_rfl
theorem el44 : elT Try.prog 44 = some 58 := elT_of u44
theorem c44 : Try.prog.cellsOf 44 = 1 := by kernel_rfl
theorem n44 : (Try.prog.info? 44).isSome = true := by kernel_rfl
theorem b44 : Try.prog.bytesOf 44 = 24 := by kernel_rfl
theorem k44 : knownT Try.prog 44 = true := by kernel_rfl
theorem a44 : isAggT Try.prog 44 = false := by kernel_rfl
theorem z44 : zOf 44 = [.list 14 .full []] := rfl
theorem u45 : Try.prog.underlying 45 = some (.slice 3) := by kernel_rfl
theorem el45 : elT Try.prog 45 = some 3 := elT_of u45
theorem c45 : Try.prog.cellsOf 45 = 1 := by kernel_rfl
theorem n45 : (Try.prog.info? 45).isSome = true := by kernel_rfl
theorem b45 : Try.prog.bytesOf 45 = 24 := by kernel_rfl
theorem k45 : knownT Try.prog 45 = true := by kernel_rfl
theorem a45 : isAggT Try.prog 45 = false := by kernel_rfl
theorem z45 : zOf 45 = [.list 1 .full []] := rfl
theorem s47 : isStruct Try.prog 47 = true := by kernel_rfl
theorem c47 : Try.prog.cellsOf 47 = 3 := by kernel_rfl
theorem n47 : (Try.prog.info? 47).isSome = true := by kernel_rfl
theorem b47 : Try.prog.bytesOf 47 = 72 := by kernel_rfl
theorem k47 : knownT Try.prog 47 = true := by kernel_rfl
theorem a47 : isAggT Try.prog 47 = true := by kernel_rfl
theorem z47 : zOf 47 = [.list 4 .full [], .list 14 .full [], .list 1 .full []] := rfl
theorem u49 : Try.prog.underlying 49 = some (.slice 5) := by kernel_rfl
theorem el49 : elT Try.prog 49 = some 5 := elT_of u49
theorem c49 : Try.prog.cellsOf 49 = 1 := by kernel_rfl
theorem n49 : (Try.prog.info? 49).isSome = true := by kernel_rfl
theorem b49 : Try.prog.bytesOf 49 = 24 := by kernel_rfl
theorem k49 : knownT Try.prog 49 = true := by kernel_rfl
theorem a49 : isAggT Try.prog 49 = false := by kernel_rfl
theorem z49 : zOf 49 = [.list 1 .full []] := rfl
theorem u50 : True := trivial
theorem c50 : Try.prog.cellsOf 50 = 1 := by kernel_rfl
theorem n50 : (Try.prog.info? 50).isSome = true := by kernel_rfl
theorem b50 : Try.prog.bytesOf 50 = 0 := by kernel_rfl
theorem k50 : knownT Try.prog 50 = true := by kernel_rfl
theorem a50 : isAggT Try.prog 50 = false := by kernel_rfl
theorem z50 : zOf 50 = [] := rfl
theorem u52 : True := trivial
theorem c52 : Try.prog.cellsOf 52 = 1 := by kernel_rfl
theorem n52 : (Try.prog.info? 52).isSome = true := by kernel_rfl
theorem b52 : Try.prog.bytesOf 52 = 0 := by kernel_rfl
theorem k52 : knownT Try.prog 52 = true := by kernel_rfl
theorem a52 : isAggT Try.prog 52 = false := by kernel_rfl
theorem z52 : zOf 52 = [] := rfl
theorem s55 : isStruct Try.prog 55 = true := by kernel_rfl
theorem c55 : Try.prog.cellsOf 55 = 3 := by kernel_rfl
theorem n55 : (Try.prog.info? 55).isSome = true := by kernel_rfl
theorem b55 : Try.prog.bytesOf 55 = 24 := by kernel_rfl
theorem k55 : knownT Try.prog 55 = true := by kernel_rfl
theorem a55 : isAggT Try.prog 55 = true := by kernel_rfl
theorem z55 : zOf 55 = [.sc (.int .i64 0), .sc (.int .i64 0), .sc (.int .i64 0)] := rfl
theorem u56 : Try.prog.underlying 56 = some (.slice 21) := by kernel_rfl
theorem el56 : elT Try.prog 56 = some 21 := elT_of u56
theorem c56 : Try.prog.cellsOf 56 = 1 := by kernel_rfl
theorem n56 : (Try.prog.info? 56).isSome = true := by kernel_rfl
theorem b56 : Try.prog.bytesOf 56 = 24 := by kernel_rfl
theorem k56 : knownT Try.prog 56 = true := by kernel_rfl
theorem a56 : isAggT Try.prog 56 = false := by kernel_rfl
theorem z56 : zOf 56 = [.list 1 .full []] := rfl
theorem s58 : isStruct Try.prog 58 = true := by kernel_rfl
theorem c58 : Try.prog.cellsOf 58 = 14 := by kernel_rfl
theorem n58 : (Try.prog.info? 58).isSome = true := by kernel_rfl
theorem b58 : Try.prog.bytesOf 58 = 160 := by kernel_rfl
theorem k58 : knownT Try.prog 58 = true := by kernel_rfl
theorem a58 : isAggT Try.prog 58 = true := by kernel_rfl
theorem z58 : zOf 58 = [.sc (.int .i64 0), .list 1 .full [], .sc (.int .i64 0), .sc (.int .i64 0), .sc (.int .i64 0), .sc (.int .i64 0), .sc (.int .i64 0), .sc (.int .i64 0), .sc (.int .i64 0), .sc (.int .i64 0), .sc (.int .i64 0), .sc (.int .i64 0), .list 1 .full [], .list 1 .full []] := rfl
theorem u61 : True := trivial
theorem c61 : Try.prog.cellsOf 61 = 1 := by kernel_rfl
theorem n61 : (Try.prog.info? 61).isSome = true := by kernel_rfl
theorem b61 : Try.prog.bytesOf 61 = 0 := by kernel_rfl
theorem k61 : knownT Try.prog 61 = true := by kernel_rfl
theorem a61 : isAggT Try.prog 61 = false := by kernel_rfl
theorem z61 : zOf 61 = [] := rfl
theorem u65 : True := trivial
theorem c65 : Try.prog.cellsOf 65 = 1 := by kernel_rfl
theorem n65 : (Try.prog.info? 65).isSome = true := by kernel_rfl
theorem b65 : Try.prog.bytesOf 65 = 0 := by kernel_rfl
theorem k65 : knownT Try.prog 65 = true := by kernel_rfl
theorem a65 : isAggT Try.prog 65 = false := by kernel_rfl
theorem z65 : zOf 65 = [] := rfl
theorem u69 : Try.prog.underlying 69 = some (.slice 75) := by kernel_rfl
theorem el69 : elT Try.prog 69 = some 75 := elT_of u69
theorem c69 : Try.prog.cellsOf 69 = 1 := by kernel_rfl
theorem n69 : (Try.prog.info? 69).isSome = true := by kernel_rfl
theorem b69 : Try.prog.bytesOf 69 = 24 := by kernel_rfl
theorem k69 : knownT Try.prog 69 = true := by kernel_rfl
theorem a69 : isAggT Try.prog 69 = false := by kernel_rfl
theorem z69 : zOf 69 = [.list 14 .full []] := rfl
theorem u70 : Try.prog.underlying 70 = some (.array 3 69) := by kernel_rfl
theorem c70 : Try.prog.cellsOf 70 = 3 := by kernel_rfl
theorem n70 : (Try.prog.info? 70).isSome = true := by kernel_rfl
theorem b70 : Try.prog.bytesOf 70 = 72 := by kernel_rfl
theorem k70 : knownT Try.prog 70 = true := by kernel_rfl
theorem a70 : isAggT Try.prog 70 = true := by kernel_rfl
theorem z70 : zOf 70 = [.list 14 .full [], .list 14 .full [], .list 14 .full []] := rfl
theorem s72 : isStruct Try.prog 72 = true := by kernel_rfl
theorem c72 : Try.prog.cellsOf 72 = 7 := by kernel_rfl
theorem n72 : (Try.prog.info? 72).isSome = true := by kernel_rfl
theorem b72 : Try.prog.bytesOf 72 = 168 := by kernel_rfl
theorem k72 : knownT Try.prog 72 = true := by kernel_rfl
theorem a72 : isAggT Try.prog 72 = true := by kernel_rfl
theorem z72 : zOf 72 = [.list 4 .full [], .list 14 .full [], .list 1 .full [], .list 1 .full [], .list 14 .full [], .list 14 .full [], .list 14 .full []] := rfl
theorem u73 : Try.prog.underlying 73 = some (.array 2 3) := by kernel_rfl
theorem c73 : Try.prog.cellsOf 73 = 2 := by kernel_rfl
theorem n73 : (Try.prog.info? 73).isSome = true := by kernel_rfl
theorem b73 : Try.prog.bytesOf 73 = 16 := by kernel_rfl
theorem k73 : knownT Try.prog 73 = true := by kernel_rfl
theorem a73 : isAggT Try.prog 73 = true := by kernel_rfl
theorem z73 : zOf 73 = [.sc (.int .i64 0), .sc (.int .i64 0)] := rfl
theorem s75 : isStruct Try.prog 75 = true := by kernel_rfl
theorem c75 : Try.prog.cellsOf 75 = 14 := by kernel_rfl
theorem n75 : (Try.prog.info? 75).isSome = true := by kernel_rfl
theorem b75 : Try.prog.bytesOf 75 = 112 := by kernel_rfl
theorem k75 : knownT Try.prog 75 = true := by kernel_rfl
theorem a75 : isAggT Try.prog 75 = true := by kernel_rfl
theorem z75 : zOf 75 = [.sc (.int .i64 0), .sc (.int .i64 0), .sc (.int .i64 0), .sc (.int .i64 0), .sc (.int .i64 0), .sc (.int .i64 0), .sc (.int .i64 0), .sc (.int .i64 0), .sc (.int .i64 0), .sc (.int .i64 0), .sc (.int .i64 0), .sc (.int .i64 0), .sc (.int .i64 0), .sc (.int .i64 0)] := rfl
theorem u77 : Try.prog.underlying 77 = some (.slice 88) := by kernel_rfl
theorem el77 : elT Try.prog 77 = some 88 := elT_of u77
theorem c77 : Try.prog.cellsOf 77 = 1 := by kernel_rfl
theorem n77 : (Try.prog.info? 77).isSome = true := by kernel_rfl
theorem b77 : Try.prog.bytesOf 77 = 24 := by kernel_rfl
theorem k77 : knownT Try.prog 77 = true := by kernel_rfl
theorem a77 : isAggT Try.prog 77 = false := by kernel_rfl
theorem z77 : zOf 77 = [.list 4 .full []] := rfl
theorem u78 : True := trivial
theorem c78 : Try.prog.cellsOf 78 = 1 := by kernel_rfl
theorem n78 : (Try.prog.info? 78).isSome = true := by kernel_rfl
theorem b78 : Try.prog.bytesOf 78 = 0 := by kernel_rfl
theorem k78 : knownT Try.prog 78 = true := by kernel_rfl
theorem a78 : isAggT Try.prog 78 = false := by kernel_rfl
theorem z78 : zOf 78 = [] := rfl
theorem u83 : Try.prog.underlying 83 = some (.array 3 5) := by kernel_rfl
theorem c83 : Try.prog.cellsOf 83 = 3 := by kernel_rfl
theorem n83 : (Try.prog.info? 83).isSome = true := by kernel_rfl
theorem b83 : Try.prog.bytesOf 83 = 3 := by kernel_rfl
theorem k83 : knownT Try.prog 83 = true := by kernel_rfl
theorem a83 : isAggT Try.prog 83 = true := by kernel_rfl
theorem z83 : zOf 83 = [.sc (.int .u8 0), .sc (.int .u8 0), .sc (.int .u8 0)] := rfl
theorem s85 : isStruct Try.prog 85 = true := by kernel_rfl
theorem c85 : Try.prog.cellsOf 85 = 4 := by kernel_rfl
theorem n85 : (Try.prog.info? 85).isSome = true := by kernel_rfl
theorem b85 : Try.prog.bytesOf 85 = 32 := by kernel_rfl
theorem k85 : knownT Try.prog 85 = true := by kernel_rfl
theorem a85 : isAggT Try.prog 85 = true := by kernel_rfl
theorem z85 : zOf 85 = [.sc (.int .i64 0), .sc (.int .i64 0), .sc (.int .i64 0), .sc (.int .i64 0)] := rfl
theorem s88 : isStruct Try.prog 88 = true := by kernel_rfl
theorem c88 : Try.prog.cellsOf 88 = 4 := by kernel_rfl
theorem n88 : (Try.prog.info? 88).isSome = true := by kernel_rfl
theorem b88 : Try.prog.bytesOf 88 = 32 := by kernel_rfl
theorem k88 : knownT Try.prog 88 = true := by kernel_rfl
theorem a88 : isAggT Try.prog 88 = true := by kernel_rfl
theorem z88 : zOf 88 = [.sc (.int .i64 0), .sc (.int .i64 0), .sc (.int .i64 0), .sc (.bool false)] := rfl
theorem s97 : isStruct Try.prog 97 = true := by kernel_rfl
theorem c97 : Try.prog.cellsOf 97 = 4 := by kernel_rfl
theorem n97 : (Try.prog.info? 97).isSome = true := by kernel_rfl
theorem b97 : Try.prog.bytesOf 97 = 48 := by kernel_rfl
theorem k97 : knownT Try.prog 97 = true := by kernel_rfl
theorem a97 : isAggT Try.prog 97 = true := by kernel_rfl
theorem z97 : zOf 97 = [.list 1 .full [], .sc (.int .i64 0), .sc (.int .i64 0), .sc (.bool false)] := rfl
theorem u98 : True := trivial
theorem c98 : Try.prog.cellsOf 98 = 1 := by kernel_rfl
theorem n98 : (Try.prog.info? 98).isSome = true := by kernel_rfl
theorem b98 : Try.prog.bytesOf 98 = 0 := by kernel_rfl
theorem k98 : knownT Try.prog 98 = true := by kernel_rfl
theorem a98 : isAggT Try.prog 98 = false := by kernel_rfl
theorem z98 : zOf 98 = [] := rfl
theorem u104 : True := trivial
theorem c104 : Try.prog.cellsOf 104 = 1 := by kernel_rfl
theorem n104 : (Try.prog.info? 104).isSome = true := by kernel_rfl
theorem b104 : Try.prog.bytesOf 104 = 8 := by kernel_rfl
theorem k104 : knownT Try.prog 104 = true := by kernel_rfl
theorem a104 : isAggT Try.prog 104 = false := by kernel_rfl
theorem z104 : zOf 104 = [.sc .nilFunc] := rfl
theorem u107 : True := trivial
theorem c107 : Try.prog.cellsOf 107 = 1 := by kernel_rfl
theorem n107 : (Try.prog.info? 107).isSome = true := by kernel_rfl
theorem b107 : Try.prog.bytesOf 107 = 0 := by kernel_rfl
theorem k107 : knownT Try.prog 107 = true := by kernel_rfl
theorem a107 : isAggT Try.prog 107 = false := by kernel_rfl
theorem z107 : zOf 107 = [] := rfl
theorem u112 : True := trivial
theorem c112 : Try.prog.cellsOf 112 = 1 := by kernel_rfl
theorem n112 : (Try.prog.info? 112).isSome = true := by kernel_rfl
theorem b112 : Try.prog.bytesOf 112 = 0 := by kernel_rfl
theorem k112 : knownT Try.prog 112 = true := by kernel_rfl
theorem a112 : isAggT Try.prog 112 = false := by kernel_rfl
theorem z112 : zOf 112 = [] := rfl
theorem s116 : isStruct Try.prog 116 = true := by kernel_rfl
theorem c116 : Try.prog.cellsOf 116 = 1 := by kernel_rfl
theorem n116 : (Try.prog.info? 116).isSome = true := by kernel_rfl
theorem b116 : Try.prog.bytesOf 116 = 24 := by kernel_rfl
theorem k116 : knownT Try.prog 116 = true := by kernel_rfl
theorem a116 : isAggT Try.prog 116 = true := by kernel_rfl
theorem z116 : zOf 116 = [.list 1 .full []] := rfl
theorem u118 : True := trivial
theorem c118 : Try.prog.cellsOf 118 = 1 := by kernel_rfl
theorem n118 : (Try.prog.info? 118).isSome = true := by kernel_rfl
theorem b118 : Try.prog.bytesOf 118 = 0 := by kernel_rfl
theorem k118 : knownT Try.prog 118 = true := by kernel_rfl
theorem a118 : isAggT Try.prog 118 = false := by kernel_rfl
theorem z118 : zOf 118 = [] := rfl
theorem s122 : isStruct Try.prog 122 = true := by kernel_rfl
theorem c122 : Try.prog.cellsOf 122 = 2 := by kernel_rfl
theorem n122 : (Try.prog.info? 122).isSome = true := by kernel_rfl
theorem b122 : Try.prog.bytesOf 122 = 32 := by kernel_rfl
theorem k122 : knownT Try.prog 122 = true := by kernel_rfl
theorem a122 : isAggT Try.prog 122 = true := by kernel_rfl
theorem z122 : zOf 122 = [.sc (.int .i64 0), .list 1 .full []] := rfl
theorem u124 : Try.prog.underlying 124 = some (.pointer 126) := by kernel_rfl
theorem c124 : Try.prog.cellsOf 124 = 1 := by kernel_rfl
theorem n124 : (Try.prog.info? 124).isSome = true := by kernel_rfl
theorem b124 : Try.prog.bytesOf 124 = 8 := by kernel_rfl
theorem k124 : knownT Try.prog 124 = true := by kernel_rfl
theorem a124 : isAggT Try.prog 124 = false := by kernel_rfl
theorem z124 : zOf 124 = [.sc (.pointer none)] := rfl
theorem s126 : isStruct Try.prog 126 = true := by kernel_rfl
theorem c126 : Try.prog.cellsOf 126 = 1 := by kernel_rfl
theorem n126 : (Try.prog.info? 126).isSome = true := by kernel_rfl
theorem b126 : Try.prog.bytesOf 126 = 24 := by kernel_rfl
theorem k126 : knownT Try.prog 126 = true := by kernel_rfl
theorem a126 : isAggT Try.prog 126 = true := by kernel_rfl
theorem z126 : zOf 126 = [.list 1 .full []] := rfl
theorem u131 : True := trivial
theorem c131 : Try.prog.cellsOf 131 = 1 := by kernel_rfl
theorem n131 : (Try.prog.info? 131).isSome = true := by kernel_rfl
theorem b131 : Try.prog.bytesOf 131 = 0 := by kernel_rfl
theorem k131 : knownT Try.prog 131 = true := by kernel_rfl
theorem a131 : isAggT Try.prog 131 = false := by kernel_rfl
theorem z131 : zOf 131 = [] := rfl
theorem u133 : Try.prog.underlying 133 = some (.pointer 135) := by kernel_rfl
theorem c133 : Try.prog.cellsOf 133 = 1 := by kernel_rfl
theorem n133 : (Try.prog.info? 133).isSome = true := by kernel_rfl
theorem b133 : Try.prog.bytesOf 133 = 8 := by kernel_rfl
theorem k133 : knownT Try.prog 133 = true := by kernel_rfl
theorem a133 : isAggT Try.prog 133 = false := by kernel_rfl
theorem z133 : zOf 133 = [.sc (.pointer none)] := rfl
theorem s135 : isStruct Try.prog 135 = true := by kernel_rfl
theorem c135 : Try.prog.cellsOf 135 = 2 := by kernel_rfl
theorem n135 : (Try.prog.info? 135).isSome = true := by kernel_rfl
theorem b135 : Try.prog.bytesOf 135 = 32 := by kernel_rfl
theorem k135 : knownT Try.prog 135 = true := by kernel_rfl
theorem a135 : isAggT Try.prog 135 = true := by kernel_rfl
theorem z135 : zOf 135 = [.list 1 .full [], .sc (.bool false)] := rfl
theorem u141 : True := trivial
theorem c141 : Try.prog.cellsOf 141 = 1 := by kernel_rfl
theorem n141 : (Try.prog.info? 141).isSome = true := by kernel_rfl
theorem b141 : Try.prog.bytesOf 141 = 8 := by kernel_rfl
theorem k141 : knownT Try.prog 141 = true := by kernel_rfl
theorem a141 : isAggT Try.prog 141 = false := by kernel_rfl
theorem z141 : zOf 141 = [.sc .nilFunc] := rfl
theorem u142 : Try.prog.underlying 142 = some (.pointer 144) := by kernel_rfl
theorem c142 : Try.prog.cellsOf 142 = 1 := by kernel_rfl
theorem n142 : (Try.prog.info? 142).isSome = true := by kernel_rfl
theorem b142 : Try.prog.bytesOf 142 = 8 := by kernel_rfl
theorem k142 : knownT Try.prog 142 = true := by kernel_rfl
theorem a142 : isAggT Try.prog 142 = false := by kernel_rfl
theorem z142 : zOf 142 = [.sc (.pointer none)] := rfl
theorem s144 : isStruct Try.prog 144 = true := by kernel_rfl
theorem c144 : Try.prog.cellsOf 144 = 3 := by kernel_rfl
theorem n144 : (Try.prog.info? 144).isSome = true := by kernel_rfl
theorem b144 : Try.prog.bytesOf 144 = 40 := by kernel_rfl
theorem k144 : knownT Try.prog 144 = true := by kernel_rfl
theorem a144 : isAggT Try.prog 144 = true := by kernel_rfl
theorem z144 : zOf 144 = [.list 1 .full [], .sc (.int .i64 0), .sc (.bool false)] := rfl
theorem s148 : isStruct Try.prog 148 = true := by kernel_rfl
theorem c148 : Try.prog.cellsOf 148 = 1 := by kernel_rfl
theorem n148 : (Try.prog.info? 148).isSome = true := by kernel_rfl
theorem b148 : Try.prog.bytesOf 148 = 24 := by kernel_rfl
theorem k148 : knownT Try.prog 148 = true := by kernel_rfl
theorem a148 : isAggT Try.prog 148 = true := by kernel_rfl
theorem z148 : zOf 148 = [.list 4 .full []] := rfl
theorem u155 : True := trivial
theorem c155 : Try.prog.cellsOf 155 = 1 := by kernel_rfl
theorem n155 : (Try.prog.info? 155).isSome = true := by kernel_rfl
theorem b155 : Try.prog.bytesOf 155 = 8 := by kernel_rfl
theorem k155 : knownT Try.prog 155 = true := by kernel_rfl
theorem a155 : isAggT Try.prog 155 = false := by kernel_rfl
theorem z155 : zOf 155 = [.sc .nilFunc] := rfl
theorem s162 : isStruct Try.prog 162 = true := by kernel_rfl
theorem c162 : Try.prog.cellsOf 162 = 21 := by kernel_rfl
theorem n162 : (Try.prog.info? 162).isSome = true := by kernel_rfl
theorem b162 : Try.prog.bytesOf 162 = 312 := by kernel_rfl
theorem k162 : knownT Try.prog 162 = true := by kernel_rfl
theorem a162 : isAggT Try.prog 162 = true := by kernel_rfl
theorem z162 : zOf 162 = [.list 4 .full [], .list 14 .full [], .list 1 .full [], .list 4 .full [], .list 1 .full [], .sc (.int .i64 0), .sc (.int .i64 0), .list 1 .full [], .sc (.int .i64 0), .sc (.int .i64 0), .sc (.int .i64 0), .sc (.int .i64 0), .sc (.int .i64 0), .sc (.int .i64 0), .sc (.int .i64 0), .sc (.int .i64 0), .sc (.int .i64 0), .sc (.int .i64 0), .list 1 .full [], .list 1 .full [], .list 4 .full []] := rfl
theorem u163 : True := trivial
theorem c163 : Try.prog.cellsOf 163 = 1 := by kernel_rfl
theorem n163 : (Try.prog.info? 163).isSome = true := by kernel_rfl
theorem b163 : Try.prog.bytesOf 163 = 0 := by kernel_rfl
theorem k163 : knownT Try.prog 163 = true := by kernel_rfl
theorem a163 : isAggT Try.prog 163 = false := by kernel_rfl
theorem z163 : zOf 163 = [] := rfl
theorem u169 : Try.prog.underlying 169 = some (.slice 73) := by kernel_rfl
theorem el169 : elT Try.prog 169 = some 73 := elT_of u169
theorem c169 : Try.prog.cellsOf 169 = 1 := by kernel_rfl
theorem n169 : (Try.prog.info? 169).isSome = true := by kernel_rfl
theorem b169 : Try.prog.bytesOf 169 = 24 := by kernel_rfl
theorem k169 : knownT Try.prog 169 = true := by kernel_rfl
theorem a169 : isAggT Try.prog 169 = false := by kernel_rfl
theorem z169 : zOf 169 = [.list 2 .full []] := rfl
theorem u170 : Try.prog.underlying 170 = some (.array 2 73) := by kernel_rfl
theorem c170 : Try.prog.cellsOf 170 = 4 := by kernel_rfl
theorem n170 : (Try.prog.info? 170).isSome = true := by kernel_rfl
theorem b170 : Try.prog.bytesOf 170 = 32 := by kernel_rfl
theorem k170 : knownT Try.prog 170 = true := by kernel_rfl
theorem a170 : isAggT Try.prog 170 = true := by kernel_rfl
theorem z170 : zOf 170 = [.sc (.int .i64 0), .sc (.int .i64 0), .sc (.int .i64 0), .sc (.int .i64 0)] := rfl
theorem s172 : isStruct Try.prog 172 = true := by kernel_rfl
theorem c172 : Try.prog.cellsOf 172 = 7 := by kernel_rfl
theorem n172 : (Try.prog.info? 172).isSome = true := by kernel_rfl
theorem b172 : Try.prog.bytesOf 172 = 56 := by kernel_rfl
theorem k172 : knownT Try.prog 172 = true := by kernel_rfl
theorem a172 : isAggT Try.prog 172 = true := by kernel_rfl
theorem z172 : zOf 172 = [.sc (.int .i64 0), .sc (.int .i64 0), .sc (.int .i64 0), .sc (.int .i64 0), .sc (.int .i64 0), .sc (.int .i64 0), .sc (.int .i64 0)] := rfl
theorem s174 : isStruct Try.prog 174 = true := by kernel_rfl
theorem c174 : Try.prog.cellsOf 174 = 29 := by kernel_rfl
theorem n174 : (Try.prog.info? 174).isSome = true := by kernel_rfl
theorem b174 : Try.prog.bytesOf 174 = 328 := by kernel_rfl
theorem k174 : knownT Try.prog 174 = true := by kernel_rfl
theorem a174 : isAggT Try.prog 174 = true := by kernel_rfl
theorem z174 : zOf 174 = [.sc (.int .i64 0), .list 1 .full [], .sc (.int .i64 0), .sc (.int .i64 0), .sc (.int .i64 0), .sc (.int .i64 0), .sc (.int .i64 0), .sc (.int .i64 0), .sc (.int .i64 0), .sc (.int .i64 0), .sc (.int .i64 0), .sc (.int .i64 0), .list 1 .full [], .list 1 .full [], .sc (.int .i64 0), .list 4 .full [], .list 1 .full [], .sc (.int .i64 0), .sc (.int .i64 0), .sc (.int .i64 0), .sc (.int .i64 0), .list 2 .full [], .sc (.int .i64 0), .sc (.int .i64 0), .sc (.int .i64 0), .sc (.int .i64 0), .sc (.int .i64 0), .sc (.int .i64 0), .sc (.int .i64 0)] := rfl
theorem u175 : True := trivial
theorem c175 : Try.prog.cellsOf 175 = 1 := by kernel_rfl
theorem n175 : (Try.prog.info? 175).isSome = true := by kernel_rfl
theorem b175 : Try.prog.bytesOf 175 = 0 := by kernel_rfl
theorem k175 : knownT Try.prog 175 = true := by kernel_rfl
theorem a175 : isAggT Try.prog 175 = false := by kernel_rfl
theorem z175 : zOf 175 = [] := rfl
theorem u179 : Try.prog.underlying 179 = some (.pointer 182) := by kernel_rfl
theorem c179 : Try.prog.cellsOf 179 = 1 := by kernel_rfl
theorem n179 : (Try.prog.info? 179).isSome = true := by kernel_rfl
theorem b179 : Try.prog.bytesOf 179 = 8 := by kernel_rfl
theorem k179 : knownT Try.prog 179 = true := by kernel_rfl
theorem a179 : isAggT Try.prog 179 = false := by kernel_rfl
theorem z179 : zOf 179 = [.sc (.pointer none)] := rfl
theorem u180 : Try.prog.underlying 180 = some (.array 8 3) := by kernel_rfl
theorem c180 : Try.prog.cellsOf 180 = 8 := by kernel_rfl
theorem n180 : (Try.prog.info? 180).isSome = true := by kernel_rfl
theorem b180 : Try.prog.bytesOf 180 = 64 := by kernel_rfl
theorem k180 : knownT Try.prog 180 = true := by kernel_rfl
theorem a180 : isAggT Try.prog 180 = true := by kernel_rfl
theorem z180 : zOf 180 = [.sc (.int .i64 0), .sc (.int .i64 0), .sc (.int .i64 0), .sc (.int .i64 0), .sc (.int .i64 0), .sc (.int .i64 0), .sc (.int .i64 0), .sc (.int .i64 0)] := rfl
theorem s182 : isStruct Try.prog 182 = true := by kernel_rfl
theorem c182 : Try.prog.cellsOf 182 = 11 := by kernel_rfl
theorem n182 : (Try.prog.info? 182).isSome = true := by kernel_rfl
theorem b182 : Try.prog.bytesOf 182 = 136 := by kernel_rfl
theorem k182 : knownT Try.prog 182 = true := by kernel_rfl
theorem a182 : isAggT Try.prog 182 = true := by kernel_rfl
theorem z182 : zOf 182 = [.list 14 .full [], .list 14 .full [], .list 14 .full [], .sc (.int .i64 0), .sc (.int .i64 0), .sc (.int .i64 0), .sc (.int .i64 0), .sc (.int .i64 0), .sc (.int .i64 0), .sc (.int .i64 0), .sc (.int .i64 0)] := rfl
theorem u183 : True := trivial
theorem c183 : Try.prog.cellsOf 183 = 1 := by kernel_rfl
theorem n183 : (Try.prog.info? 183).isSome = true := by kernel_rfl
theorem b183 : Try.prog.bytesOf 183 = 0 := by kernel_rfl
theorem k183 : knownT Try.prog 183 = true := by kernel_rfl
theorem a183 : isAggT Try.prog 183 = false := by kernel_rfl
theorem z183 : zOf 183 = [] := rfl
theorem u185 : Try.prog.underlying 185 = some (.array 3 3) := by kernel_rfl
theorem c185 : Try.prog.cellsOf 185 = 3 := by kernel_rfl
theorem n185 : (Try.prog.info? 185).isSome = true := by kernel_rfl
theorem b185 : Try.prog.bytesOf 185 = 24 := by kernel_rfl
theorem k185 : knownT Try.prog 185 = true := by kernel_rfl
theorem a185 : isAggT Try.prog 185 = true := by kernel_rfl
theorem z185 : zOf 185 = [.sc (.int .i64 0), .sc (.int .i64 0), .sc (.int .i64 0)] := rfl
theorem u187 : Try.prog.underlying 187 = some (.slice 69) := by kernel_rfl
theorem el187 : elT Try.prog 187 = some 69 := elT_of u187
theorem c187 : Try.prog.cellsOf 187 = 1 := by kernel_rfl
theorem n187 : (Try.prog.info? 187).isSome = true := by kernel_rfl
theorem b187 : Try.prog.bytesOf 187 = 24 := by kernel_rfl
theorem k187 : knownT Try.prog 187 = true := by kernel_rfl
theorem a187 : isAggT Try.prog 187 = false := by kernel_rfl
theorem z187 : zOf 187 = [.list 1 .full []] := rfl
theorem u188 : True := trivial
theorem c188 : Try.prog.cellsOf 188 = 1 := by kernel_rfl
theorem n188 : (Try.prog.info? 188).isSome = true := by kernel_rfl
theorem b188 : Try.prog.bytesOf 188 = 8 := by kernel_rfl
theorem k188 : knownT Try.prog 188 = true := by kernel_rfl
theorem a188 : isAggT Try.prog 188 = false := by kernel_rfl
theorem z188 : zOf 188 = [.sc .nilFunc] := rfl
theorem u190 : True := trivial
theorem c190 : Try.prog.cellsOf 190 = 1 := by kernel_rfl
theorem n190 : (Try.prog.info? 190).isSome = true := by kernel_rfl
theorem b190 : Try.prog.bytesOf 190 = 0 := by kernel_rfl
theorem k190 : knownT Try.prog 190 = true := by kernel_rfl
theorem a190 : isAggT Try.prog 190 = false := by kernel_rfl
theorem z190 : zOf 190 = [] := rfl
theorem u194 : True := trivial
theorem c194 : Try.prog.cellsOf 194 = 1 := by kernel_rfl
theorem n194 : (Try.prog.info? 194).isSome = true := by kernel_rfl
theorem b194 : Try.prog.bytesOf 194 = 0 := by kernel_rfl
theorem k194 : knownT Try.prog 194 = true := by kernel_rfl
theorem a194 : isAggT Try.prog 194 = false := by kernel_rfl
theorem z194 : zOf 194 = [] := rfl
theorem u195 : True := trivial
theorem c195 : Try.prog.cellsOf 195 = 1 := by kernel_rfl
theorem n195 : (Try.prog.info? 195).isSome = true := by kernel_rfl
theorem b195 : Try.prog.bytesOf 195 = 8 := by kernel_rfl
theorem k195 : knownT Try.prog 195 = true := by kernel_rfl
theorem a195 : isAggT Try.prog 195 = false := by kernel_rfl
theorem z195 : zOf 195 = [.sc .nilFunc] := rfl
theorem u202 : True := trivial
theorem c202 : Try.prog.cellsOf 202 = 1 := by kernel_rfl
theorem n202 : (Try.prog.info? 202).isSome = true := by kernel_rfl
theorem b202 : Try.prog.bytesOf 202 = 8 := by kernel_rfl
theorem k202 : knownT Try.prog 202 = true := by kernel_rfl
theorem a202 : isAggT Try.prog 202 = false := by kernel_rfl
theorem z202 : zOf 202 = [.sc .nilFunc] := rfl
theorem u203 : True := trivial
theorem c203 : Try.prog.cellsOf 203 = 1 := by kernel_rfl
theorem n203 : (Try.prog.info? 203).isSome = true := by kernel_rfl
theorem b203 : Try.prog.bytesOf 203 = 0 := by kernel_rfl
theorem k203 : knownT Try.prog 203 = true := by kernel_rfl
theorem a203 : isAggT Try.prog 203 = false := by kernel_rfl
theorem z203 : zOf 203 = [] := rfl
theorem u205 : Try.prog.underlying 205 = some (.slice 211) := by kernel_rfl
theorem el205 : elT Try.prog 205 = some 211 := elT_of u205
theorem c205 : Try.prog.cellsOf 205 = 1 := by kernel_rfl
theorem n205 : (Try.prog.info? 205).isSome = true := by kernel_rfl
theorem b205 : Try.prog.bytesOf 205 = 24 := by kernel_rfl
theorem k205 : knownT Try.prog 205 = true := by kernel_rfl
theorem a205 : isAggT Try.prog 205 = false := by kernel_rfl
theorem z205 : zOf 205 = [.list 4 .full []] := rfl
theorem u206 : True := trivial
theorem c206 : Try.prog.cellsOf 206 = 1 := by kernel_rfl
theorem n206 : (Try.prog.info? 206).isSome = true := by kernel_rfl
theorem b206 : Try.prog.bytesOf 206 = 0 := by kernel_rfl
theorem k206 : knownT Try.prog 206 = true := by kernel_rfl
theorem a206 : isAggT Try.prog 206 = false := by kernel_rfl
theorem z206 : zOf 206 = [] := rfl
theorem u208 : Try.prog.underlying 208 = some (.pointer 75) := by kernel_rfl
theorem c208 : Try.prog.cellsOf 208 = 1 := by kernel_rfl
theorem n208 : (Try.prog.info? 208).isSome = true := by kernel_rfl
theorem b208 : Try.prog.bytesOf 208 = 8 := by kernel_rfl
theorem k208 : knownT Try.prog 208 = true := by kernel_rfl
theorem a208 : isAggT Try.prog 208 = false := by kernel_rfl
theorem z208 : zOf 208 = [.sc (.pointer none)] := rfl
theorem u209 : Try.prog.underlying 209 = some (.pointer 3) := by kernel_rfl
theorem c209 : Try.prog.cellsOf 209 = 1 := by kernel_rfl
theorem n209 : (Try.prog.info? 209).isSome = true := by kernel_rfl
theorem b209 : Try.prog.bytesOf 209 = 8 := by kernel_rfl
theorem k209 : knownT Try.prog 209 = true := by kernel_rfl
theorem a209 : isAggT Try.prog 209 = false := by kernel_rfl
theorem z209 : zOf 209 = [.sc (.pointer none)] := rfl
theorem s211 : isStruct Try.prog 211 = true := by kernel_rfl
theorem c211 : Try.prog.cellsOf 211 = 4 := by kernel_rfl
theorem n211 : (Try.prog.info? 211).isSome = true := by kernel_rfl
theorem b211 : Try.prog.bytesOf 211 = 32 := by kernel_rfl
theorem k211 : knownT Try.prog 211 = true := by kernel_rfl
theorem a211 : isAggT Try.prog 211 = true := by kernel_rfl
theorem z211 : zOf 211 = [.sc (.pointer none), .sc (.int .i64 0), .sc (.int .i64 0), .sc (.int .i64 0)] := rfl
theorem u212 : Try.prog.underlying 212 = some (.pointer 148) := by kernel_rfl
theorem c212 : Try.prog.cellsOf 212 = 1 := by kernel_rfl
theorem n212 : (Try.prog.info? 212).isSome = true := by kernel_rfl
theorem b212 : Try.prog.bytesOf 212 = 8 := by kernel_rfl
theorem k212 : knownT Try.prog 212 = true := by kernel_rfl
theorem a212 : isAggT Try.prog 212 = false := by kernel_rfl
theorem z212 : zOf 212 = [.sc (.pointer none)] := rfl
theorem u214 : Try.prog.underlying 214 = some (.int .u32) := by kernel_rfl
theorem c214 : Try.prog.cellsOf 214 = 1 := by kernel_rfl
theorem n214 : (Try.prog.info? 214).isSome = true := by kernel_rfl
theorem b214 : Try.prog.bytesOf 214 = 4 := by kernel_rfl
theorem k214 : knownT Try.prog 214 = true := by kernel_rfl
theorem a214 : isAggT Try.prog 214 = false := by kernel_rfl
theorem z214 : zOf 214 = [.sc (.int .u32 0)] := rfl
theorem s219 : isStruct Try.prog 219 = true := by kernel_rfl
theorem c219 : Try.prog.cellsOf 219 = 29 := by kernel_rfl
theorem n219 : (Try.prog.info? 219).isSome = true := by kernel_rfl
theorem b219 : Try.prog.bytesOf 219 = 392 := by kernel_rfl
theorem k219 : knownT Try.prog 219 = true := by kernel_rfl
theorem a219 : isAggT Try.prog 219 = true := by kernel_rfl
theorem z219 : zOf 219 = [.list 4 .full [], .list 14 .full [], .list 1 .full [], .list 4 .full [], .list 1 .full [], .sc (.int .i64 0), .sc (.int .i64 0), .list 1 .full [], .sc (.int .i64 0), .sc (.int .i64 0), .sc (.int .i64 0), .sc (.int .i64 0), .sc (.int .i64 0), .sc (.int .i64 0), .sc (.int .i64 0), .sc (.int .i64 0), .sc (.int .i64 0), .sc (.int .i64 0), .list 1 .full [], .list 1 .full [], .list 4 .full [], .list 2 .full [], .sc (.int .i64 0), .sc (.int .i64 0), .sc (.int .i64 0), .sc (.int .i64 0), .sc (.int .i64 0), .sc (.int .i64 0), .sc (.int .i64 0)] := rfl
theorem u222 : True := trivial
theorem c222 : Try.prog.cellsOf 222 = 1 := by kernel_rfl
theorem n222 : (Try.prog.info? 222).isSome = true := by kernel_rfl
theorem b222 : Try.prog.bytesOf 222 = 0 := by kernel_rfl
theorem k222 : knownT Try.prog 222 = true := by kernel_rfl
theorem a222 : isAggT Try.prog 222 = false := by kernel_rfl
theorem z222 : zOf 222 = [] := rfl
theorem u224 : True := trivial
theorem c224 : Try.prog.cellsOf 224 = 1 := by kernel_rfl
theorem n224 : (Try.prog.info? 224).isSome = true := by kernel_rfl
theorem b224 : Try.prog.bytesOf 224 = 0 := by kernel_rfl
theorem k224 : knownT Try.prog 224 = true := by kernel_rfl
theorem a224 : isAggT Try.prog 224 = false := by kernel_rfl
theorem z224 : zOf 224 = [] := rfl
theorem u228 : True := trivial
theorem c228 : Try.prog.cellsOf 228 = 1 := by kernel_rfl
theorem n228 : (Try.prog.info? 228).isSome = true := by kernel_rfl
theorem b228 : Try.prog.bytesOf 228 = 8 := by kernel_rfl
theorem k228 : knownT Try.prog 228 = true := by kernel_rfl
theorem a228 : isAggT Try.prog 228 = false := by kernel_rfl
theorem z228 : zOf 228 = [.sc .nilFunc] := rfl
theorem u230 : True := trivial
theorem c230 : Try.prog.cellsOf 230 = 1 := by kernel_rfl
theorem n230 : (Try.prog.info? 230).isSome = true := by kernel_rfl
theorem b230 : Try.prog.bytesOf 230 = 0 := by kernel_rfl
theorem k230 : knownT Try.prog 230 = true := by kernel_rfl
theorem a230 : isAggT Try.prog 230 = false := by kernel_rfl
theorem z230 : zOf 230 = [] := rfl
theorem u236 : True := trivial
theorem c236 : Try.prog.cellsOf 236 = 1 := by kernel_rfl
theorem n236 : (Try.prog.info? 236).isSome = true := by kernel_rfl
theorem b236 : Try.prog.bytesOf 236 = 8 := by kernel_rfl
theorem k236 : knownT Try.prog 236 = true := by kernel_rfl
theorem a236 : isAggT Try.prog 236 = false := by kernel_rfl
theorem z236 : zOf 236 = [.sc .nilFunc] := rfl
theorem s238 : isStruct Try.prog 238 = true := by kernel_rfl
theorem c238 : Try.prog.cellsOf 238 = 8 := by kernel_rfl
theorem n238 : (Try.prog.info? 238).isSome = true := by kernel_rfl
theorem b238 : Try.prog.bytesOf 238 = 32 := by kernel_rfl
theorem k238 : knownT Try.prog 238 = true := by kernel_rfl
theorem a238 : isAggT Try.prog 238 = true := by kernel_rfl
theorem z238 : zOf 238 = [.sc (.int .i64 0), .sc (.bool false), .sc (.bool false), .sc (.bool false), .sc (.bool false), .sc (.bool false), .sc .nilFunc, .sc .nilFunc] := rfl
theorem u239 : True := trivial
theorem c239 : Try.prog.cellsOf 239 = 1 := by kernel_rfl
theorem n239 : (Try.prog.info? 239).isSome = true := by kernel_rfl
theorem b239 : Try.prog.bytesOf 239 = 0 := by kernel_rfl
theorem k239 : knownT Try.prog 239 = true := by kernel_rfl
theorem a239 : isAggT Try.prog 239 = false := by kernel_rfl
theorem z239 : zOf 239 = [] := rfl
theorem u243 : True := trivial
theorem c243 : Try.prog.cellsOf 243 = 1 := by kernel_rfl
theorem n243 : (Try.prog.info? 243).isSome = true := by kernel_rfl
theorem b243 : Try.prog.bytesOf 243 = 8 := by kernel_rfl
theorem k243 : knownT Try.prog 243 = true := by kernel_rfl
theorem a243 : isAggT Try.prog 243 = false := by kernel_rfl
theorem z243 : zOf 243 = [.sc .nilFunc] := rfl
theorem u245 : True := trivial
theorem c245 : Try.prog.cellsOf 245 = 1 := by kernel_rfl
theorem n245 : (Try.prog.info? 245).isSome = true := by kernel_rfl
theorem b245 : Try.prog.bytesOf 245 = 8 := by kernel_rfl
theorem k245 : knownT Try.prog 245 = true := by kernel_rfl
theorem a245 : isAggT Try.prog 245 = false := by kernel_rfl
theorem z245 : zOf 245 = [.sc .nilFunc] := rfl
theorem u247 : Try.prog.underlying 247 = some (.array 4 3) := by kernel_rfl
theorem c247 : Try.prog.cellsOf 247 = 4 := by kernel_rfl
theorem n247 : (Try.prog.info? 247).isSome = true := by kernel_rfl
theorem b247 : Try.prog.bytesOf 247 = 32 := by kernel_rfl
theorem k247 : knownT Try.prog 247 = true := by kernel_rfl
theorem a247 : isAggT Try.prog 247 = true := by kernel_rfl
theorem z247 : zOf 247 = [.sc (.int .i64 0), .sc (.int .i64 0), .sc (.int .i64 0), .sc (.int .i64 0)] := rfl
theorem u249 : True := trivial
theorem c249 : Try.prog.cellsOf 249 = 1 := by kernel_rfl
theorem n249 : (Try.prog.info? 249).isSome = true := by kernel_rfl
theorem b249 : Try.prog.bytesOf 249 = 8 := by kernel_rfl
theorem k249 : knownT Try.prog 249 = true := by kernel_rfl
theorem a249 : isAggT Try.prog 249 = false := by kernel_rfl
theorem z249 : zOf 249 = [.sc .nilFunc] := rfl
theorem u250 : Try.prog.underlying 250 = some (.pointer 69) := by kernel_rfl
theorem c250 : Try.prog.cellsOf 250 = 1 := by kernel_rfl
theorem n250 : (Try.prog.info? 250).isSome = true := by kernel_rfl
theorem b250 : Try.prog.bytesOf 250 = 8 := by kernel_rfl
theorem k250 : knownT Try.prog 250 = true := by kernel_rfl
theorem a250 : isAggT Try.prog 250 = false := by kernel_rfl
theorem z250 : zOf 250 = [.sc (.pointer none)] := rfl
theorem u257 : True := trivial
theorem c257 : Try.prog.cellsOf 257 = 1 := by kernel_rfl
theorem n257 : (Try.prog.info? 257).isSome = true := by kernel_rfl
theorem b257 : Try.prog.bytesOf 257 = 8 := by kernel_rfl
theorem k257 : knownT Try.prog 257 = true := by kernel_rfl
theorem a257 : isAggT Try.prog 257 = false := by kernel_rfl
theorem z257 : zOf 257 = [.sc .nilFunc] := rfl
theorem ff31_0 : fieldOf Try.prog 31 0 = some (0, 3) := by kernel_rfl
theorem ff31_1 : fieldOf Try.prog 31 1 = some (1, 29) := by kernel_rfl
theorem ff34_0 : fieldOf Try.prog 34 0 = some (0, 3) := by kernel_rfl
theorem ff34_1 : fieldOf Try.prog 34 1 = some (1, 3) := by kernel_rfl
theorem ff34_2 : fieldOf Try.prog 34 2 = some (2, 3) := by kernel_rfl
theorem ff34_3 : fieldOf Try.prog 34 3 = some (3, 32) := by kernel_rfl
theorem ff47_0 : fieldOf Try.prog 47 0 = some (0, 43) := by kernel_rfl
theorem ff47_1 : fieldOf Try.prog 47 1 = some (1, 44) := by kernel_rfl
theorem ff47_2 : fieldOf Try.prog 47 2 = some (2, 45) := by kernel_rfl
theorem ff55_0 : fieldOf Try.prog 55 0 = some (0, 3) := by kernel_rfl
theorem ff55_1 : fieldOf Try.prog 55 1 = some (1, 3) := by kernel_rfl
theorem ff55_2 : fieldOf Try.prog 55 2 = some (2, 3) := by kernel_rfl
theorem ff58_0 : fieldOf Try.prog 58 0 = some (0, 3) := by kernel_rfl
theorem ff58_1 : fieldOf Try.prog 58 1 = some (1, 45) := by kernel_rfl
theorem ff58_2 : fieldOf Try.prog 58 2 = some (2, 3) := by kernel_rfl
theorem ff58_3 : fieldOf Try.prog 58 3 = some (3, 3) := by kernel_rfl
theorem ff58_4 : fieldOf Try.prog 58 4 = some (4, 3) := by kernel_rfl
theorem ff58_5 : fieldOf Try.prog 58 5 = some (5, 3) := by kernel_rfl
theorem ff58_6 : fieldOf Try.prog 58 6 = some (6, 3) := by kernel_rfl
theorem ff58_7 : fieldOf Try.prog 58 7 = some (7, 3) := by kernel_rfl
theorem ff58_8 : fieldOf Try.prog 58 8 = some (8, 3) := by kernel_rfl
theorem ff58_9 : fieldOf Try.prog 58 9 = some (9, 55) := by kernel_rfl
theorem ff58_10 : fieldOf Try.prog 58 10 = some (12, 32) := by kernel_rfl
theorem ff58_11 : fieldOf Try.prog 58 11 = some (13, 56) := by kernel_rfl
theorem ff72_0 : fieldOf Try.prog 72 0 = some (0, 47) := by kernel_rfl
theorem ff72_1 : fieldOf Try.prog 72 1 = some (3, 45) := by kernel_rfl
theorem ff72_2 : fieldOf Try.prog 72 2 = some (4, 70) := by kernel_rfl
theorem ff75_0 : fieldOf Try.prog 75 0 = some (0, 3) := by kernel_rfl
theorem ff75_1 : fieldOf Try.prog 75 1 = some (1, 3) := by kernel_rfl
theorem ff75_2 : fieldOf Try.prog 75 2 = some (2, 3) := by kernel_rfl
theorem ff75_3 : fieldOf Try.prog 75 3 = some (3, 3) := by kernel_rfl
theorem ff75_4 : fieldOf Try.prog 75 4 = some (4, 3) := by kernel_rfl
theorem ff75_5 : fieldOf Try.prog 75 5 = some (5, 3) := by kernel_rfl
theorem ff75_6 : fieldOf Try.prog 75 6 = some (6, 3) := by kernel_rfl
theorem ff75_7 : fieldOf Try.prog 75 7 = some (7, 3) := by kernel_rfl
theorem ff75_8 : fieldOf Try.prog 75 8 = some (8, 73) := by kernel_rfl
theorem ff75_9 : fieldOf Try.prog 75 9 = some (10, 73) := by kernel_rfl
theorem ff75_10 : fieldOf Try.prog 75 10 = some (12, 73) := by kernel_rfl
theorem ff85_0 : fieldOf Try.prog 85 0 = some (0, 55) := by kernel_rfl
theorem ff85_1 : fieldOf Try.prog 85 1 = some (3, 3) := by kernel_rfl
theorem ff88_0 : fieldOf Try.prog 88 0 = some (0, 3) := by kernel_rfl
theorem ff88_1 : fieldOf Try.prog 88 1 = some (1, 3) := by kernel_rfl
theorem ff88_2 : fieldOf Try.prog 88 2 = some (2, 3) := by kernel_rfl
theorem ff88_3 : fieldOf Try.prog 88 3 = some (3, 4) := by kernel_rfl
theorem ff97_0 : fieldOf Try.prog 97 0 = some (0, 45) := by kernel_rfl
theorem ff97_1 : fieldOf Try.prog 97 1 = some (1, 3) := by kernel_rfl
theorem ff97_2 : fieldOf Try.prog 97 2 = some (2, 3) := by kernel_rfl
theorem ff97_3 : fieldOf Try.prog 97 3 = some (3, 4) := by kernel_rfl
theorem ff116_0 : fieldOf Try.prog 116 0 = some (0, 32) := by kernel_rfl
theorem ff122_0 : fieldOf Try.prog 122 0 = some (0, 3) := by kernel_rfl
theorem ff122_1 : fieldOf Try.prog 122 1 = some (1, 32) := by kernel_rfl
theorem ff126_0 : fieldOf Try.prog 126 0 = some (0, 49) := by kernel_rfl
theorem ff135_0 : fieldOf Try.prog 135 0 = some (0, 49) := by kernel_rfl
theorem ff135_1 : fieldOf Try.prog 135 1 = some (1, 4) := by kernel_rfl
theorem ff144_0 : fieldOf Try.prog 144 0 = some (0, 49) := by kernel_rfl
theorem ff144_1 : fieldOf Try.prog 144 1 = some (1, 3) := by kernel_rfl
theorem ff144_2 : fieldOf Try.prog 144 2 = some (2, 4) := by kernel_rfl
theorem ff148_0 : fieldOf Try.prog 148 0 = some (0, 77) := by kernel_rfl
theorem ff162_0 : fieldOf Try.prog 162 0 = some (0, 47) := by kernel_rfl
theorem ff162_1 : fieldOf Try.prog 162 1 = some (3, 43) := by kernel_rfl
theorem ff162_2 : fieldOf Try.prog 162 2 = some (4, 45) := by kernel_rfl
theorem ff162_3 : fieldOf Try.prog 162 3 = some (5, 3) := by kernel_rfl
theorem ff162_4 : fieldOf Try.prog 162 4 = some (6, 58) := by kernel_rfl
theorem ff162_5 : fieldOf Try.prog 162 5 = some (20, 43) := by kernel_rfl
theorem ff172_0 : fieldOf Try.prog 172 0 = some (0, 170) := by kernel_rfl
theorem ff172_1 : fieldOf Try.prog 172 1 = some (4, 73) := by kernel_rfl
theorem ff172_2 : fieldOf Try.prog 172 2 = some (6, 3) := by kernel_rfl
theorem ff174_0 : fieldOf Try.prog 174 0 = some (0, 58) := by kernel_rfl
theorem ff174_1 : fieldOf Try.prog 174 1 = some (14, 3) := by kernel_rfl
theorem ff174_2 : fieldOf Try.prog 174 2 = some (15, 43) := by kernel_rfl
theorem ff174_3 : fieldOf Try.prog 174 3 = some (16, 45) := by kernel_rfl
theorem ff174_4 : fieldOf Try.prog 174 4 = some (17, 55) := by kernel_rfl
theorem ff174_5 : fieldOf Try.prog 174 5 = some (20, 3) := by kernel_rfl
theorem ff174_6 : fieldOf Try.prog 174 6 = some (21, 169) := by kernel_rfl
theorem ff174_7 : fieldOf Try.prog 174 7 = some (22, 172) := by kernel_rfl
theorem ff182_0 : fieldOf Try.prog 182 0 = some (0, 70) := by kernel_rfl
theorem ff182_1 : fieldOf Try.prog 182 1 = some (3, 180) := by kernel_rfl
theorem ff211_0 : fieldOf Try.prog 211 0 = some (0, 209) := by kernel_rfl
theorem ff211_1 : fieldOf Try.prog 211 1 = some (1, 3) := by kernel_rfl
theorem ff211_2 : fieldOf Try.prog 211 2 = some (2, 3) := by kernel_rfl
theorem ff211_3 : fieldOf Try.prog 211 3 = some (3, 3) := by kernel_rfl
theorem ff219_0 : fieldOf Try.prog 219 0 = some (0, 162) := by kernel_rfl
theorem ff219_1 : fieldOf Try.prog 219 1 = some (21, 169) := by kernel_rfl
theorem ff219_2 : fieldOf Try.prog 219 2 = some (22, 172) := by kernel_rfl
theorem ff238_0 : fieldOf Try.prog 238 0 = some (0, 3) := by kernel_rfl
theorem ff238_1 : fieldOf Try.prog 238 1 = some (1, 4) := by kernel_rfl
theorem ff238_2 : fieldOf Try.prog 238 2 = some (2, 4) := by kernel_rfl
theorem ff238_3 : fieldOf Try.prog 238 3 = some (3, 4) := by kernel_rfl
theorem ff238_4 : fieldOf Try.prog 238 4 = some (4, 4) := by kernel_rfl
theorem ff238_5 : fieldOf Try.prog 238 5 = some (5, 4) := by kernel_rfl
theorem ff238_6 : fieldOf Try.prog 238 6 = some (6, 236) := by kernel_rfl
theorem ff238_7 : fieldOf Try.prog 238 7 = some (7, 195) := by kernel_rfl
theorem fo31_0 : foff Try.prog 31 0 = some (0, 1) := by kernel_rfl
theorem fo47_0 : foff Try.prog 47 0 = some (0, 1) := by kernel_rfl
theorem fo47_1 : foff Try.prog 47 1 = some (1, 1) := by kernel_rfl
theorem fo47_2 : foff Try.prog 47 2 = some (2, 1) := by kernel_rfl
theorem fo55_0 : foff Try.prog 55 0 = some (0, 1) := by kernel_rfl
theorem fo55_1 : foff Try.prog 55 1 = some (1, 1) := by kernel_rfl
theorem fo55_2 : foff Try.prog 55 2 = some (2, 1) := by kernel_rfl
theorem fo58_0 : foff Try.prog 58 0 = some (0, 1) := by kernel_rfl
theorem fo58_1 : foff Try.prog 58 1 = some (1, 1) := by kernel_rfl
theorem fo58_6 : foff Try.prog 58 6 = some (6, 1) := by kernel_rfl
theorem fo72_0 : foff Try.prog 72 0 = some (0, 3) := by kernel_rfl
theorem fo72_1 : foff Try.prog 72 1 = some (3, 1) := by kernel_rfl
theorem fo73_0 : True := trivial
theorem fo73_1 : True := trivial
theorem fo75_0 : foff Try.prog 75 0 = some (0, 1) := by kernel_rfl
theorem fo75_1 : foff Try.prog 75 1 = some (1, 1) := by kernel_rfl
theorem fo75_2 : foff Try.prog 75 2 = some (2, 1) := by kernel_rfl
theorem fo75_3 : foff Try.prog 75 3 = some (3, 1) := by kernel_rfl
theorem fo75_4 : foff Try.prog 75 4 = some (4, 1) := by kernel_rfl
theorem fo75_5 : foff Try.prog 75 5 = some (5, 1) := by kernel_rfl
theorem fo75_6 : foff Try.prog 75 6 = some (6, 1) := by kernel_rfl
theorem fo75_7 : foff Try.prog 75 7 = some (7, 1) := by kernel_rfl
theorem fo85_0 : foff Try.prog 85 0 = some (0, 3) := by kernel_rfl
theorem fo85_1 : foff Try.prog 85 1 = some (3, 1) := by kernel_rfl
theorem fo88_0 : foff Try.prog 88 0 = some (0, 1) := by kernel_rfl
theorem fo88_1 : foff Try.prog 88 1 = some (1, 1) := by kernel_rfl
theorem fo88_2 : foff Try.prog 88 2 = some (2, 1) := by kernel_rfl
theorem fo88_3 : foff Try.prog 88 3 = some (3, 1) := by kernel_rfl
theorem fo116_0 : foff Try.prog 116 0 = some (0, 1) := by kernel_rfl
theorem fo122_0 : foff Try.prog 122 0 = some (0, 1) := by kernel_rfl
theorem fo122_1 : foff Try.prog 122 1 = some (1, 1) := by kernel_rfl
theorem fo135_0 : foff Try.prog 135 0 = some (0, 1) := by kernel_rfl
theorem fo144_0 : foff Try.prog 144 0 = some (0, 1) := by kernel_rfl
theorem fo162_0 : foff Try.prog 162 0 = some (0, 3) := by kernel_rfl
theorem fo162_1 : foff Try.prog 162 1 = some (3, 1) := by kernel_rfl
theorem fo162_2 : foff Try.prog 162 2 = some (4, 1) := by kernel_rfl
theorem fo162_3 : foff Try.prog 162 3 = some (5, 1) := by kernel_rfl
theorem fo162_4 : foff Try.prog 162 4 = some (6, 14) := by kernel_rfl
theorem fo170_0 : True := trivial
theorem fo170_1 : True := trivial
theorem fo172_0 : foff Try.prog 172 0 = some (0, 4) := by kernel_rfl
theorem fo172_1 : foff Try.prog 172 1 = some (4, 2) := by kernel_rfl
theorem fo172_2 : foff Try.prog 172 2 = some (6, 1) := by kernel_rfl
theorem fo174_0 : foff Try.prog 174 0 = some (0, 14) := by kernel_rfl
theorem fo174_1 : foff Try.prog 174 1 = some (14, 1) := by kernel_rfl
theorem fo174_4 : foff Try.prog 174 4 = some (17, 3) := by kernel_rfl
theorem fo174_5 : foff Try.prog 174 5 = some (20, 1) := by kernel_rfl
theorem fo182_0 : foff Try.prog 182 0 = some (0, 3) := by kernel_rfl
theorem fo185_0 : True := trivial
theorem fo185_1 : True := trivial
theorem fo185_2 : True := trivial
theorem fo211_0 : foff Try.prog 211 0 = some (0, 1) := by kernel_rfl
theorem fo211_1 : foff Try.prog 211 1 = some (1, 1) := by kernel_rfl
theorem fo211_2 : foff Try.prog 211 2 = some (2, 1) := by kernel_rfl
theorem fo211_3 : foff Try.prog 211 3 = some (3, 1) := by kernel_rfl
theorem fo219_0 : foff Try.prog 219 0 = some (0, 21) := by kernel_rfl
theorem fo219_1 : foff Try.prog 219 1 = some (21, 1) := by kernel_rfl
theorem fo219_2 : foff Try.prog 219 2 = some (22, 7) := by kernel_rfl
theorem fo238_0 : foff Try.prog 238 0 = some (0, 1) := by kernel_rfl
theorem fo238_6 : foff Try.prog 238 6 = some (6, 1) := by kernel_rfl
theorem fo238_7 : foff Try.prog 238 7 = some (7, 1) := by kernel_rfl
theorem fo247_0 : True := trivial
theorem fo247_1 : True := trivial
theorem fo247_2 : True := trivial
theorem fo247_3 : True := trivial
end Ty
end Go.Q
