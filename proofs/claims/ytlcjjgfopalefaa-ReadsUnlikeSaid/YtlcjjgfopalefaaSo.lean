/- How package sort's functions lie in the seat Ytlcjjgfopalefaa. -/
import Derived.Shelf.GgSortFunc.Tiny
import Derived.Test.YtlcjjgfopalefaaRows
import Derived.Test.YtlcjjgfopalefaaChecked
namespace Go.Proofs.Ytlcjjgfopalefaa
open Go.Shelf
set_option maxRecDepth 100000
def Try.sa6_ren : Ren :=
{
  f := fun x =>
    match x with
    | 6 => 45
    | 10 => 55
    | 11 => 56
    | 12 => 57
    | 13 => 58
    | 14 => 59
    | 24 => 75
    | 25 => 76
    | 26 => 77
    | 27 => 78
    | 28 => 79
    | 29 => 80
    | 30 => 81
    | 31 => 82
    | 32 => 83
    | 33 => 84
    | 34 => 90
    | 35 => 91
    | 36 => 92
    | 37 => 93
    | 38 => 94
    | 39 => 97
    | n => n,
  t := fun x =>
    match x with
    | 20 => 20
    | 26 => 75
    | 35 => 83
    | 0 => 0
    | 37 => 85
    | 3 => 3
    | 41 => 89
    | 44 => 92
    | 49 => 100
    | 51 => 22
    | 4 => 4
    | 54 => 104
    | 53 => 103
    | 58 => 108
    | 5 => 5
    | 9 => 9
    | 60 => 112
    | 64 => 116
    | 66 => 119
    | 67 => 120
    | 17 => 17
    | 32 => 80
    | 33 => 81
    | 82 => 135
    | 12 => 12
    | 75 => 128
    | 76 => 129
    | 77 => 130
    | 78 => 131
    | 79 => 132
    | 80 => 133
    | n => n,
  g := fun x =>
    have n := x;
    n }
theorem Try.sa6 : LaysGg.n6 Try.prog Try.sa6_ren :=
{ mixed := Eq.refl true, f6 := Eq.trans Try.func45 (congrArg some (Eq.refl (BodyGg.n6 Try.sa6_ren))),
  f10 := Eq.trans Try.func55 (congrArg some (Eq.refl (BodyGg.n10 Try.sa6_ren))),
  f11 := Eq.trans Try.func56 (congrArg some (Eq.refl (BodyGg.n11 Try.sa6_ren))),
  f12 := Eq.trans Try.func57 (congrArg some (Eq.refl (BodyGg.n12 Try.sa6_ren))),
  f13 := Eq.trans Try.func58 (congrArg some (Eq.refl (BodyGg.n13 Try.sa6_ren))),
  f14 := Eq.trans Try.func59 (congrArg some (Eq.refl (BodyGg.n14 Try.sa6_ren))),
  f24 := Eq.trans Try.func75 (congrArg some (Eq.refl (BodyGg.n24 Try.sa6_ren))),
  f25 := Eq.trans Try.func76 (congrArg some (Eq.refl (BodyGg.n25 Try.sa6_ren))),
  f26 := Eq.trans Try.func77 (congrArg some (Eq.refl (BodyGg.n26 Try.sa6_ren))),
  f27 := Eq.trans Try.func78 (congrArg some (Eq.refl (BodyGg.n27 Try.sa6_ren))),
  f28 := Eq.trans Try.func79 (congrArg some (Eq.refl (BodyGg.n28 Try.sa6_ren))),
  f29 := Eq.trans Try.func80 (congrArg some (Eq.refl (BodyGg.n29 Try.sa6_ren))),
  f30 := Eq.trans Try.func81 (congrArg some (Eq.refl (BodyGg.n30 Try.sa6_ren))),
  f31 := Eq.trans Try.func82 (congrArg some (Eq.refl (BodyGg.n31 Try.sa6_ren))),
  f32 := Eq.trans Try.func83 (congrArg some (Eq.refl (BodyGg.n32 Try.sa6_ren))),
  f33 := Eq.trans Try.func84 (congrArg some (Eq.refl (BodyGg.n33 Try.sa6_ren))),
  f34 := Eq.trans Try.func90 (congrArg some (Eq.refl (BodyGg.n34 Try.sa6_ren))),
  f35 := Eq.trans Try.func91 (congrArg some (Eq.refl (BodyGg.n35 Try.sa6_ren))),
  f36 := Eq.trans Try.func92 (congrArg some (Eq.refl (BodyGg.n36 Try.sa6_ren))),
  f37 := Eq.trans Try.func93 (congrArg some (Eq.refl (BodyGg.n37 Try.sa6_ren))),
  f38 := Eq.trans Try.func94 (congrArg some (Eq.refl (BodyGg.n38 Try.sa6_ren))),
  f39 := Eq.trans Try.func97 (congrArg some (Eq.refl (BodyGg.n39 Try.sa6_ren))), t0 := Try.underlying0,
  a0 := Try.isAgg0, z0 := Try.sizeOf0, v0 := Try.zeroValue0, i0 := Eq.refl (some (some (Value.tuple #[]), 1, 0)),
  t3 := Try.underlying3, a3 := Try.isAgg3, z3 := Try.sizeOf3, v3 := Try.zeroValue3,
  i3 := Eq.refl (some (some (Value.int IntKind.i64 0), 1, 8)), t4 := Try.underlying4, a4 := Try.isAgg4,
  z4 := Try.sizeOf4, v4 := Try.zeroValue4, i4 := Eq.refl (some (some (Value.bool false), 1, 1)), t5 := Try.underlying5,
  a5 := Try.isAgg5, z5 := Try.sizeOf5, v5 := Try.zeroValue5, i5 := Eq.refl (some (some (Value.int IntKind.u8 0), 1, 1)),
  t9 := Try.underlying9, a9 := Try.isAgg9, z9 := Try.sizeOf9, v9 := Try.zeroValue9,
  i9 := Eq.refl (some (some (Value.string { data := #[] }), 1, 16)), t12 := Try.underlying12, a12 := Try.isAgg12,
  z12 := Try.sizeOf12, v12 := Try.zeroValue12, i12 := Eq.refl (some (some (Value.int IntKind.u64 0), 1, 8)),
  t17 := Try.underlying17, a17 := Try.isAgg17, z17 := Try.sizeOf17, v17 := Try.zeroValue17,
  i17 := Eq.refl (some (some (Value.pointer none), 1, 8)), t20 := Try.underlying20, a20 := Try.isAgg20,
  z20 := Try.sizeOf20, v20 := Try.zeroValue20, i20 := Eq.refl (some (some Value.nilIface, 1, 16)),
  t26 := Try.underlying75, a26 := Try.isAgg75, z26 := Try.sizeOf75, v26 := Try.zeroValue75,
  i26 := Eq.refl (some (some Value.nilFunc, 1, 8)), t32 := Try.underlying80, a32 := Try.isAgg80, z32 := Try.sizeOf80,
  v32 := Try.zeroValue80, i32 := Eq.refl (some (some (Value.pointer none), 1, 8)), t33 := Try.underlying81,
  a33 := Try.isAgg81, z33 := Try.sizeOf81, v33 := Try.zeroValue81,
  i33 := Eq.refl (some (some (Value.int IntKind.u64 0), 1, 8)), t35 := Try.underlying83, a35 := Try.isAgg83,
  z35 := Try.sizeOf83, v35 := Try.zeroValue83,
  i35 := Eq.refl (some (some (Value.agg #[Value.pointer none, Value.pointer none, Value.int IntKind.u64 0]), 3, 24)),
  t37 := Try.underlying85, a37 := Try.isAgg85, z37 := Try.sizeOf85, v37 := Try.zeroValue85,
  i37 := Eq.refl (some (some Value.nilFunc, 1, 8)), t41 := Try.underlying89, a41 := Try.isAgg89, z41 := Try.sizeOf89,
  v41 := Try.zeroValue89, i41 := Eq.refl (some (some (Value.int IntKind.u64 0), 1, 8)), t44 := Try.underlying92,
  a44 := Try.isAgg92, z44 := Try.sizeOf92, v44 := Try.zeroValue92,
  i44 := Eq.refl (some (some (Value.agg #[Value.nilFunc, Value.nilFunc]), 2, 16)), t49 := Try.underlying100,
  a49 := Try.isAgg100, z49 := Try.sizeOf100, v49 := Try.zeroValue100,
  i49 := Eq.refl (some (some (Value.int IntKind.u32 0), 1, 4)), t51 := Try.underlying22, a51 := Try.isAgg22,
  z51 := Try.sizeOf22, v51 := Try.zeroValue22, i51 := Eq.refl (some (some (Value.int IntKind.u64 0), 1, 8)),
  t53 := Try.underlying103, a53 := Try.isAgg103, z53 := Try.sizeOf103, v53 := Try.zeroValue103,
  i53 := Eq.refl (some (some (Value.int IntKind.i64 0), 1, 8)), t54 := Try.underlying104, a54 := Try.isAgg104,
  z54 := Try.sizeOf104, v54 := Try.zeroValue104,
  i54 := Eq.refl (some (some (Value.tuple #[Value.int IntKind.i64 0, Value.int IntKind.i64 0]), 1, 0)),
  t58 := Try.underlying108, a58 := Try.isAgg108, z58 := Try.sizeOf108, v58 := Try.zeroValue108,
  i58 := Eq.refl (some (some (Value.tuple #[Value.int IntKind.i64 0, Value.bool false]), 1, 0)),
  t60 := Try.underlying112, a60 := Try.isAgg112, z60 := Try.sizeOf112, v60 := Try.zeroValue112,
  i60 := Eq.refl (some (some (Value.int IntKind.u64 0), 1, 8)), t64 := Try.underlying116, a64 := Try.isAgg116,
  z64 := Try.sizeOf116, v64 := Try.zeroValue116, i64 := Eq.refl (some (some (Value.pointer none), 1, 8)),
  t66 := Try.underlying119, a66 := Try.isAgg119, z66 := Try.sizeOf119, v66 := Try.zeroValue119,
  i66 := Eq.refl (some (some (Value.pointer none), 1, 8)), t67 := Try.underlying120, a67 := Try.isAgg120,
  z67 := Try.sizeOf120, v67 := Try.zeroValue120,
  i67 := Eq.refl (some (some (Value.tuple #[Value.int IntKind.i64 0, Value.int IntKind.i64 0]), 1, 0)),
  t75 := Try.underlying128, a75 := Try.isAgg128, z75 := Try.sizeOf128, v75 := Try.zeroValue128,
  i75 := Eq.refl (some (some (Value.int IntKind.u8 0), 1, 1)), t76 := Try.underlying129, a76 := Try.isAgg129,
  z76 := Try.sizeOf129, v76 := Try.zeroValue129, i76 := Eq.refl (some (some (Value.int IntKind.u8 0), 1, 1)),
  t77 := Try.underlying130, a77 := Try.isAgg130, z77 := Try.sizeOf130, v77 := Try.zeroValue130,
  i77 := Eq.refl (some (some Value.nilFunc, 1, 8)), t78 := Try.underlying131, a78 := Try.isAgg131, z78 := Try.sizeOf131,
  v78 := Try.zeroValue131, i78 := Eq.refl (some (some (Value.pointer none), 1, 8)), t79 := Try.underlying132,
  a79 := Try.isAgg132, z79 := Try.sizeOf132, v79 := Try.zeroValue132,
  i79 := Eq.refl (some (some (Value.int IntKind.i32 0), 1, 4)), t80 := Try.underlying133, a80 := Try.isAgg133,
  z80 := Try.sizeOf133, v80 := Try.zeroValue133, i80 := Eq.refl (some (some (Value.int IntKind.i32 0), 1, 4)),
  t82 := Try.underlying135, a82 := Try.isAgg135, z82 := Try.sizeOf135, v82 := Try.zeroValue135,
  i82 :=
    Eq.refl
      (some
        (some
            (Value.agg
              #[Value.int IntKind.u64 0, Value.int IntKind.u64 0, Value.int IntKind.u32 0, Value.int IntKind.u8 0,
                Value.int IntKind.u8 0, Value.int IntKind.u8 0, Value.int IntKind.u8 0, Value.nilFunc,
                Value.pointer none, Value.int IntKind.i32 0, Value.int IntKind.i32 0]),
          11, 48)) }

end Go.Proofs.Ytlcjjgfopalefaa
