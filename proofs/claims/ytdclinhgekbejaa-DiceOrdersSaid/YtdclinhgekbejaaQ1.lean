import Derived.Test.YtdclinhgekbejaaQ0
import Derived.KernelRfl
namespace Go.Proofs.Ytdclinhgekbejaa.G
open Go
abbrev F_law03_DiceRolls : FuncId := 3
abbrev F_law03_DiceBounds : FuncId := 4
abbrev F_law03_DiceSplits : FuncId := 5
abbrev F_law03_DiceSkips : FuncId := 6
abbrev F_law03_DiceOrders : FuncId := 7
abbrev F_law03_DiceShuffles : FuncId := 8
abbrev F_law03_awake : FuncId := 9
abbrev F_dice_Dice_Next : FuncId := 10
abbrev F_ref03_Next : FuncId := 11
abbrev F_dice_Dice_Below : FuncId := 12
abbrev F_ref03_Below : FuncId := 13
abbrev F_dice_Dice_Split : FuncId := 14
abbrev F_dice_Dice_Skip : FuncId := 15
abbrev F_dice_Dice_Shuffle : FuncId := 16
abbrev F_slices_Clone_Lint32_int32 : FuncId := 17
abbrev F_ref03_Shuffle : FuncId := 18
abbrev F_slices_Equal_Lint32_int32 : FuncId := 19
abbrev F_slices_Sort_Lint32_int32 : FuncId := 20
abbrev F_dice_mixed : FuncId := 21
abbrev F_slices_pdqsortOrdered_int32 : FuncId := 22
abbrev F_math_bits_Len : FuncId := 23
abbrev F_slices_insertionSortOrdered_int32 : FuncId := 24
abbrev F_slices_heapSortOrdered_int32 : FuncId := 25
abbrev F_slices_breakPatternsOrdered_int32 : FuncId := 26
abbrev F_slices_choosePivotOrdered_int32 : FuncId := 27
abbrev F_slices_reverseRangeOrdered_int32 : FuncId := 28
abbrev F_slices_partialInsertionSortOrdered_int32 : FuncId := 29
abbrev F_cmp_Less_int32 : FuncId := 30
abbrev F_slices_partitionEqualOrdered_int32 : FuncId := 31
abbrev F_slices_partitionOrdered_int32 : FuncId := 32
abbrev F_math_bits_Len64 : FuncId := 34
abbrev F_slices_siftDownOrdered_int32 : FuncId := 35
abbrev F_slices_nextPowerOfTwo : FuncId := 36
abbrev F_slices_xorshift_Next : FuncId := 37
abbrev F_slices_medianAdjacentOrdered_int32 : FuncId := 38
abbrev F_slices_medianOrdered_int32 : FuncId := 39
abbrev F_cmp_isNaN_int32 : FuncId := 40
abbrev F_slices_order2Ordered_int32 : FuncId := 41
/-! hoodwink/hoodwinklaw03.DiceRolls -/
def l_law03_DiceRolls_k0 : L :=
  o (.load true 1 (.tmp 1)) <|
  om .pure (.call F_dice_Dice_Below [(.tmp 5), (.tmp 0)]) <|
  o (.ext (.tmp 6) 0) <|
  o (.ext (.tmp 6) 1) <|
  o (.store 1 (.tmp 1) (.tmp 8)) <|
  om .pure (.call F_ref03_Below [(.tmp 2), (.tmp 0)]) <|
  o (.ext (.tmp 10) 0) <|
  o (.ext (.tmp 10) 1) <|
  o (.bin .neq (.tmp 7) (.tmp 11)) <|
  .ite (.tmp 13)
    (.ret [(.const (.bool false))])
    (o (.faddr 0 (.tmp 1)) <|
    o (.load false 1 (.tmp 14)) <|
    o (.bin .neq (.tmp 15) (.tmp 12)) <|
    .ite (.tmp 16)
      (.ret [(.const (.bool false))])
      (o (.bin .gtr (.tmp 0) (.const (.int .u32 0))) <|
      .ite (.tmp 17)
        (o (.bin .geq (.tmp 7) (.tmp 0)) <|
        .ite (.tmp 18)
          (.ret [(.const (.bool false))])
          (o (.bin .eql (.tmp 0) (.const (.int .u32 0))) <|
          .ite (.tmp 19)
            (o (.bin .neq (.tmp 7) (.const (.int .u32 0))) <|
            .ite (.tmp 20)
              (.ret [(.const (.bool false))])
              (o (.bin .add (.tmp 4) (.const (.int .u8 1))) <|
              .goto 1 [(.tmp 0), (.tmp 1), (.tmp 12), (.tmp 3), (.tmp 21)]))
            (o (.bin .add (.tmp 4) (.const (.int .u8 1))) <|
            .goto 1 [(.tmp 0), (.tmp 1), (.tmp 12), (.tmp 3), (.tmp 20)])))
        (o (.bin .eql (.tmp 0) (.const (.int .u32 0))) <|
        .ite (.tmp 18)
          (o (.bin .neq (.tmp 7) (.const (.int .u32 0))) <|
          .ite (.tmp 19)
            (.ret [(.const (.bool false))])
            (o (.bin .add (.tmp 4) (.const (.int .u8 1))) <|
            .goto 1 [(.tmp 0), (.tmp 1), (.tmp 12), (.tmp 3), (.tmp 20)]))
          (o (.bin .add (.tmp 4) (.const (.int .u8 1))) <|
          .goto 1 [(.tmp 0), (.tmp 1), (.tmp 12), (.tmp 3), (.tmp 19)]))))
def l_law03_DiceRolls_k1 : L :=
  o (.bin .lss (.tmp 4) (.tmp 3)) <|
  .ite (.tmp 5)
    (o (.load true 1 (.tmp 1)) <|
    om .pure (.call F_dice_Dice_Next [(.tmp 6)]) <|
    o (.ext (.tmp 7) 0) <|
    o (.ext (.tmp 7) 1) <|
    o (.store 1 (.tmp 1) (.tmp 9)) <|
    om .pure (.call F_ref03_Next [(.tmp 2)]) <|
    o (.ext (.tmp 11) 0) <|
    o (.ext (.tmp 11) 1) <|
    .join 2
      (o (.bin .neq (.tmp 8) (.tmp 12)) <|
      .ite (.tmp 14)
        (.ret [(.const (.bool false))])
        (o (.faddr 0 (.tmp 1)) <|
        o (.load false 1 (.tmp 15)) <|
        o (.bin .neq (.tmp 16) (.tmp 13)) <|
        .ite (.tmp 17)
          (.ret [(.const (.bool false))])
          (.goto 2 [(.tmp 0), (.tmp 1), (.tmp 13), (.tmp 3), (.tmp 4)])))
      l_law03_DiceRolls_k0)
    (.goto 0 [])
def l_law03_DiceRolls_k2 : L :=
  .ret [(.const (.bool true))]
def l_law03_DiceRolls : LFn := ⟨3,
    om .pure (.call F_law03_awake []) <|
    o (.un .not (.tmp 3)) <|
    .ite (.tmp 4)
      (.ret [(.const (.bool false))])
      (o (.build 26 [(0, 1, (.tmp 0))]) <|
      o (.new 26) <|
      o (.store 1 (.tmp 6) (.tmp 5)) <|
      .join 0
        (o (.bin .rem (.tmp 2) (.const (.int .u8 40))) <|
        .loop 1 [(.tmp 1), (.tmp 6), (.tmp 0), (.tmp 8), (.const (.int .u8 0))] l_law03_DiceRolls_k1)
        l_law03_DiceRolls_k2)⟩
/-! hoodwink/hoodwinklaw03.DiceBounds -/
def l_law03_DiceBounds : LFn := ⟨3,
    om .pure (.call F_law03_awake []) <|
    o (.un .not (.tmp 3)) <|
    .ite (.tmp 4)
      (.ret [(.const (.bool false))])
      (o (.build 26 [(0, 1, (.tmp 0))]) <|
      o (.new 26) <|
      o (.store 1 (.tmp 6) (.tmp 5)) <|
      o (.minmax false [(.tmp 1), (.tmp 2)]) <|
      o (.minmax true [(.tmp 1), (.tmp 2)]) <|
      o (.load true 1 (.tmp 6)) <|
      om .pure (.call F_dice_Dice_Below [(.tmp 10), (.tmp 8)]) <|
      o (.ext (.tmp 11) 0) <|
      o (.ext (.tmp 11) 1) <|
      o (.new 26) <|
      o (.store 1 (.tmp 14) (.tmp 13)) <|
      o (.load true 1 (.tmp 6)) <|
      om .pure (.call F_dice_Dice_Below [(.tmp 16), (.tmp 9)]) <|
      o (.ext (.tmp 17) 0) <|
      o (.ext (.tmp 17) 1) <|
      o (.new 26) <|
      o (.store 1 (.tmp 20) (.tmp 19)) <|
      o (.load true 1 (.tmp 6)) <|
      om .pure (.call F_dice_Dice_Below [(.tmp 22), (.const (.int .u32 1))]) <|
      o (.ext (.tmp 23) 0) <|
      o (.ext (.tmp 23) 1) <|
      o (.new 26) <|
      o (.store 1 (.tmp 26) (.tmp 25)) <|
      o (.load true 1 (.tmp 6)) <|
      om .pure (.call F_dice_Dice_Below [(.tmp 28), (.tmp 8)]) <|
      o (.ext (.tmp 29) 0) <|
      o (.ext (.tmp 29) 1) <|
      o (.new 26) <|
      o (.store 1 (.tmp 32) (.tmp 31)) <|
      o (.bin .leq (.tmp 12) (.tmp 18)) <|
      .ite (.tmp 34)
        (o (.bin .eql (.tmp 24) (.const (.int .u32 0))) <|
        .ite (.tmp 35)
          (o (.load true 1 (.tmp 14)) <|
          o (.load true 1 (.tmp 20)) <|
          o (.eqAgg false 26 (.tmp 36) (.tmp 37)) <|
          .ite (.tmp 38)
            (o (.load true 1 (.tmp 20)) <|
            o (.load true 1 (.tmp 26)) <|
            o (.eqAgg false 26 (.tmp 39) (.tmp 40)) <|
            .ite (.tmp 41)
              (o (.bin .eql (.tmp 12) (.tmp 30)) <|
              .ite (.tmp 42)
                (o (.load true 1 (.tmp 14)) <|
                o (.load true 1 (.tmp 32)) <|
                o (.eqAgg false 26 (.tmp 43) (.tmp 44)) <|
                .ite (.tmp 45)
                  (o (.faddr 0 (.tmp 6)) <|
                  o (.load false 1 (.tmp 46)) <|
                  o (.bin .eql (.tmp 47) (.tmp 0)) <|
                  .ret [(.tmp 48)])
                  (.ret [(.const (.bool false))]))
                (.ret [(.const (.bool false))]))
              (.ret [(.const (.bool false))]))
            (.ret [(.const (.bool false))]))
          (.ret [(.const (.bool false))]))
        (.ret [(.const (.bool false))]))⟩
/-! hoodwink/hoodwinklaw03.DiceSplits -/
def l_law03_DiceSplits : LFn := ⟨1,
    om .pure (.call F_law03_awake []) <|
    o (.un .not (.tmp 1)) <|
    .ite (.tmp 2)
      (.ret [(.const (.bool false))])
      (o (.build 26 [(0, 1, (.tmp 0))]) <|
      o (.new 26) <|
      o (.store 1 (.tmp 4) (.tmp 3)) <|
      o (.load true 1 (.tmp 4)) <|
      om .pure (.call F_dice_Dice_Split [(.tmp 6)]) <|
      o (.ext (.tmp 7) 0) <|
      o (.ext (.tmp 7) 1) <|
      o (.new 26) <|
      o (.new 26) <|
      o (.store 1 (.tmp 10) (.tmp 8)) <|
      o (.store 1 (.tmp 11) (.tmp 9)) <|
      om .pure (.call F_ref03_Next [(.tmp 0)]) <|
      o (.ext (.tmp 14) 0) <|
      o (.ext (.tmp 14) 1) <|
      om .pure (.call F_ref03_Next [(.tmp 16)]) <|
      o (.ext (.tmp 17) 0) <|
      o (.ext (.tmp 17) 1) <|
      o (.faddr 0 (.tmp 10)) <|
      o (.load false 1 (.tmp 20)) <|
      o (.conv .u64 (.tmp 15)) <|
      o (.bin .mul (.tmp 22) (.const (.int .u64 4294967296))) <|
      o (.conv .u64 (.tmp 18)) <|
      o (.bin .add (.tmp 23) (.tmp 24)) <|
      o (.bin .eql (.tmp 21) (.tmp 25)) <|
      .ite (.tmp 26)
        (o (.faddr 0 (.tmp 11)) <|
        o (.load false 1 (.tmp 27)) <|
        o (.bin .eql (.tmp 28) (.tmp 19)) <|
        .ite (.tmp 29)
          (o (.faddr 0 (.tmp 4)) <|
          o (.load false 1 (.tmp 30)) <|
          o (.bin .eql (.tmp 31) (.tmp 0)) <|
          .ret [(.tmp 32)])
          (.ret [(.const (.bool false))]))
        (.ret [(.const (.bool false))]))⟩
/-! hoodwink/hoodwinklaw03.DiceSkips -/
def l_law03_DiceSkips_k0 : L :=
  o (.bin .lss (.tmp 5) (.tmp 4)) <|
  .ite (.tmp 6)
    (o (.load true 1 (.tmp 3)) <|
    om .pure (.call F_dice_Dice_Next [(.tmp 7)]) <|
    o (.ext (.tmp 8) 0) <|
    o (.ext (.tmp 8) 1) <|
    o (.store 1 (.tmp 3) (.tmp 10)) <|
    o (.bin .add (.tmp 5) (.const (.int .u8 1))) <|
    .goto 1 [(.tmp 0), (.tmp 1), (.tmp 2), (.tmp 3), (.tmp 4), (.tmp 12)])
    (.goto 0 [(.tmp 0), (.tmp 1), (.tmp 2), (.tmp 3)])
def l_law03_DiceSkips_k1 : L :=
  o (.load true 1 (.tmp 2)) <|
  o (.conv .i64 (.tmp 0)) <|
  o (.load true 1 (.tmp 3)) <|
  oc none (.call F_dice_Dice_Skip [(.tmp 4), (.tmp 5)]) .pure [(none, .load true 1 (.tmp 3))] <|
  o (.eqAgg false 26 (.tmp 7) (.tmp 6)) <|
  .ite (.tmp 8)
    (o (.load true 1 (.tmp 2)) <|
    o (.minmax false [(.tmp 1), (.const (.int .i64 0))]) <|
    o (.load true 1 (.tmp 2)) <|
    oc none (.call F_dice_Dice_Skip [(.tmp 9), (.tmp 10)]) .pure [(none, .load true 1 (.tmp 2))] <|
    o (.eqAgg false 26 (.tmp 12) (.tmp 11)) <|
    .ite (.tmp 13)
      (o (.load true 1 (.tmp 2)) <|
      o (.conv .i64 (.tmp 0)) <|
      o (.load true 1 (.tmp 2)) <|
      o (.conv .i64 (.tmp 0)) <|
      o (.bin .add (.tmp 17) (.const (.int .i64 3))) <|
      oc none (.call F_dice_Dice_Skip [(.tmp 14), (.tmp 15)]) .pure [(none, .load true 1 (.tmp 2))] <|
      oc none (.call F_dice_Dice_Skip [(.tmp 19), (.const (.int .i64 3))]) .pure [(none, .load true 1 (.tmp 2))] <|
      om .pure (.call F_dice_Dice_Skip [(.tmp 16), (.tmp 18)]) <|
      o (.eqAgg false 26 (.tmp 20) (.tmp 21)) <|
      .ret [(.tmp 22)])
      (.ret [(.const (.bool false))]))
    (.ret [(.const (.bool false))])
def l_law03_DiceSkips : LFn := ⟨3,
    om .pure (.call F_law03_awake []) <|
    o (.un .not (.tmp 3)) <|
    .ite (.tmp 4)
      (.ret [(.const (.bool false))])
      (o (.build 26 [(0, 1, (.tmp 0))]) <|
      o (.new 26) <|
      o (.store 1 (.tmp 6) (.tmp 5)) <|
      o (.load true 1 (.tmp 6)) <|
      o (.new 26) <|
      o (.store 1 (.tmp 9) (.tmp 8)) <|
      .join 0
        (.loop 1 [(.tmp 1), (.tmp 2), (.tmp 6), (.tmp 9), (.tmp 1), (.const (.int .u8 0))] l_law03_DiceSkips_k0)
        l_law03_DiceSkips_k1)⟩
/-! hoodwink/hoodwinklaw03.DiceOrders -/
def l_law03_DiceOrders_k0 : L :=
  o (.bin .lss (.tmp 4) (.tmp 3)) <|
  .ite (.tmp 5)
    (o (.conv .i32 (.tmp 4)) <|
    o (.iaddr 1 (.tmp 2) (.tmp 4)) <|
    o (.store 1 (.tmp 7) (.tmp 6)) <|
    o (.bin .add (.tmp 4) (.const (.int .i64 1))) <|
    .goto 1 [(.tmp 0), (.tmp 1), (.tmp 2), (.tmp 3), (.tmp 9)])
    (.goto 0 [(.tmp 0), (.tmp 1), (.tmp 2)])
def l_law03_DiceOrders_k1 : L :=
  o (.bin .lss (.tmp 8) (.tmp 7)) <|
  .ite (.tmp 9)
    (o (.iaddr 1 (.tmp 6) (.tmp 8)) <|
    o (.load false 1 (.tmp 10)) <|
    o (.iaddr 1 (.tmp 4) (.tmp 8)) <|
    o (.load false 1 (.tmp 12)) <|
    o (.iaddr 1 (.tmp 0) (.tmp 11)) <|
    o (.load false 1 (.tmp 14)) <|
    o (.bin .neq (.tmp 13) (.tmp 15)) <|
    .ite (.tmp 16)
      (.ret [(.const (.bool false))])
      (o (.bin .add (.tmp 8) (.const (.int .i64 1))) <|
      .goto 2 [(.tmp 0), (.tmp 1), (.tmp 2), (.tmp 3), (.tmp 4), (.tmp 5), (.tmp 6), (.tmp 7), (.tmp 17)]))
    (.goto 1 [(.tmp 0), (.tmp 1), (.tmp 2), (.tmp 3), (.tmp 5)])
def l_law03_DiceOrders_k2 : L :=
  o (.load true 1 (.tmp 3)) <|
  o (.load true 1 (.tmp 4)) <|
  o (.eqAgg false 26 (.tmp 5) (.tmp 6)) <|
  .ite (.tmp 7)
    (o (.len false (.tmp 2)) <|
    o (.len false (.tmp 0)) <|
    o (.bin .eql (.tmp 8) (.tmp 9)) <|
    .ite (.tmp 10)
      (o (.load true 1 (.tmp 3)) <|
      o (.load true 1 (.tmp 1)) <|
      o (.len false (.tmp 0)) <|
      o (.bin .sub (.tmp 13) (.const (.int .i64 1))) <|
      o (.minmax true [(.tmp 14), (.const (.int .i64 0))]) <|
      oc none (.call F_dice_Dice_Skip [(.tmp 12), (.tmp 15)]) .pure [(none, .load true 1 (.tmp 3))] <|
      o (.eqAgg false 26 (.tmp 11) (.tmp 16)) <|
      .ret [(.tmp 17)])
      (.ret [(.const (.bool false))]))
    (.ret [(.const (.bool false))])
def l_law03_DiceOrders_k3 : L :=
  o (.build 26 [(0, 1, (.tmp 0))]) <|
  o (.new 26) <|
  o (.store 1 (.tmp 4) (.tmp 3)) <|
  o (.load true 1 (.tmp 4)) <|
  om .pure (.call F_dice_Dice_Shuffle [(.tmp 6), (.tmp 2)]) <|
  o (.ext (.tmp 7) 0) <|
  o (.ext (.tmp 7) 1) <|
  o (.new 26) <|
  o (.store 1 (.tmp 10) (.tmp 9)) <|
  o (.load true 1 (.tmp 4)) <|
  om .pure (.call F_dice_Dice_Shuffle [(.tmp 12), (.tmp 1)]) <|
  o (.ext (.tmp 13) 0) <|
  o (.ext (.tmp 13) 1) <|
  o (.new 26) <|
  o (.store 1 (.tmp 16) (.tmp 15)) <|
  .join 1
    (o (.len false (.tmp 8)) <|
    .loop 2 [(.tmp 1), (.tmp 4), (.tmp 8), (.tmp 10), (.tmp 14), (.tmp 16), (.tmp 8), (.tmp 18), (.const (.int .i64 0))] l_law03_DiceOrders_k1)
    l_law03_DiceOrders_k2
def l_law03_DiceOrders : LFn := ⟨2,
    om .pure (.call F_law03_awake []) <|
    o (.un .not (.tmp 2)) <|
    .ite (.tmp 3)
      (.ret [(.const (.bool false))])
      (o (.bslice 21 0 []) <|
      o (.len false (.tmp 1)) <|
      o (.minmax false [(.tmp 5), (.const (.int .i64 60))]) <|
      o (.slice 1 (.tmp 1) none (some (.tmp 6)) none) <|
      o (.append 1 4 (.tmp 4) (.tmp 7)) <|
      o (.len false (.tmp 8)) <|
      o (.mkslice 21 4 (.tmp 9) (.tmp 9)) <|
      .join 0
        (o (.len false (.tmp 10)) <|
        .loop 1 [(.tmp 0), (.tmp 8), (.tmp 10), (.tmp 11), (.const (.int .i64 0))] l_law03_DiceOrders_k0)
        l_law03_DiceOrders_k3)⟩
/-! hoodwink/hoodwinklaw03.DiceShuffles -/
def l_law03_DiceShuffles_k0 : L :=
  o (.bin .lss (.tmp 6) (.tmp 5)) <|
  .ite (.tmp 7)
    (o (.iaddr 1 (.tmp 2) (.tmp 6)) <|
    o (.load false 1 (.tmp 8)) <|
    o (.bin .add (.tmp 9) (.const (.int .i32 1))) <|
    o (.iaddr 1 (.tmp 2) (.tmp 6)) <|
    o (.store 1 (.tmp 11) (.tmp 10)) <|
    o (.bin .add (.tmp 6) (.const (.int .i64 1))) <|
    .goto 2 [(.tmp 0), (.tmp 1), (.tmp 2), (.tmp 3), (.tmp 4), (.tmp 5), (.tmp 13)])
    (.goto 1 [(.tmp 0), (.tmp 1), (.tmp 3), (.tmp 4)])
def l_law03_DiceShuffles_k1 : L :=
  o (.call F_slices_Sort_Lint32_int32 [(.tmp 2)]) <|
  o (.call F_slices_Sort_Lint32_int32 [(.tmp 3)]) <|
  om .pure (.call F_slices_Equal_Lint32_int32 [(.tmp 2), (.tmp 3)]) <|
  .ite (.tmp 6)
    (om .pure (.call F_slices_Equal_Lint32_int32 [(.tmp 0), (.tmp 1)]) <|
    .ret [(.tmp 7)])
    (.ret [(.const (.bool false))])
def l_law03_DiceShuffles_k2 : L :=
  o (.call F_slices_Clone_Lint32_int32 [(.tmp 2)]) <|
  o (.call F_slices_Clone_Lint32_int32 [(.tmp 1)]) <|
  .join 1
    (o (.len false (.tmp 2)) <|
    .loop 2 [(.tmp 0), (.tmp 1), (.tmp 2), (.tmp 3), (.tmp 4), (.tmp 5), (.const (.int .i64 0))] l_law03_DiceShuffles_k0)
    l_law03_DiceShuffles_k1
def l_law03_DiceShuffles : LFn := ⟨2,
    om .pure (.call F_law03_awake []) <|
    o (.un .not (.tmp 2)) <|
    .ite (.tmp 3)
      (.ret [(.const (.bool false))])
      (o (.bslice 21 0 []) <|
      o (.len false (.tmp 1)) <|
      o (.minmax false [(.tmp 5), (.const (.int .i64 100))]) <|
      o (.slice 1 (.tmp 1) none (some (.tmp 6)) none) <|
      o (.append 1 4 (.tmp 4) (.tmp 7)) <|
      o (.call F_slices_Clone_Lint32_int32 [(.tmp 8)]) <|
      o (.build 26 [(0, 1, (.tmp 0))]) <|
      om .pure (.call F_dice_Dice_Shuffle [(.tmp 10), (.tmp 8)]) <|
      o (.ext (.tmp 11) 0) <|
      o (.ext (.tmp 11) 1) <|
      o (.new 26) <|
      o (.store 1 (.tmp 14) (.tmp 13)) <|
      om .pure (.call F_ref03_Shuffle [(.tmp 0), (.tmp 9)]) <|
      o (.ext (.tmp 16) 0) <|
      o (.ext (.tmp 16) 1) <|
      .join 0
        (om .pure (.call F_slices_Equal_Lint32_int32 [(.tmp 12), (.tmp 17)]) <|
        o (.un .not (.tmp 19)) <|
        .ite (.tmp 20)
          (.ret [(.const (.bool false))])
          (o (.faddr 0 (.tmp 14)) <|
          o (.load false 1 (.tmp 21)) <|
          o (.bin .neq (.tmp 22) (.tmp 18)) <|
          .ite (.tmp 23)
            (.ret [(.const (.bool false))])
            (om .pure (.call F_slices_Equal_Lint32_int32 [(.tmp 8), (.tmp 9)]) <|
            o (.un .not (.tmp 24)) <|
            .ite (.tmp 25)
              (.ret [(.const (.bool false))])
              (.goto 0 [(.tmp 8), (.tmp 9), (.tmp 12)]))))
        l_law03_DiceShuffles_k2)⟩
/-! hoodwink/hoodwinklaw03.awake -/
def l_law03_awake : LFn := ⟨0,
    o (.build 26 []) <|
    om .pure (.call F_dice_Dice_Next [(.tmp 0)]) <|
    o (.ext (.tmp 1) 0) <|
    o (.ext (.tmp 1) 1) <|
    o (.new 26) <|
    o (.store 1 (.tmp 4) (.tmp 3)) <|
    o (.bin .eql (.tmp 2) (.const (.int .u32 3793791033))) <|
    .ite (.tmp 6)
      (o (.faddr 0 (.tmp 4)) <|
      o (.load false 1 (.tmp 7)) <|
      o (.bin .neq (.tmp 8) (.const (.int .u64 0))) <|
      .ret [(.tmp 9)])
      (.ret [(.const (.bool false))])⟩
/-! (hoodwink/dice.Dice).Next -/
def l_dice_Dice_Next : LFn := ⟨1,
    o (.box 26 (.tmp 0)) <|
    o (.new 26) <|
    o (.faddr 0 (.tmp 1)) <|
    o (.load false 1 (.tmp 3)) <|
    o (.bin .add (.tmp 4) (.const (.int .u64 11400714819323198485))) <|
    o (.faddr 0 (.tmp 1)) <|
    o (.store 1 (.tmp 6) (.tmp 5)) <|
    o (.faddr 0 (.tmp 1)) <|
    o (.load false 1 (.tmp 8)) <|
    o (.load true 1 (.tmp 1)) <|
    oc none (.call F_dice_mixed [(.tmp 9)]) .pure [(none, .load true 1 (.tmp 1))] <|
    o (.bin .shr (.tmp 11) (.const (.int .u64 32))) <|
    o (.conv .u32 (.tmp 12)) <|
    o (.store 1 (.tmp 2) (.tmp 10)) <|
    o (.load true 1 (.tmp 2)) <|
    .ret [(.tmp 13), (.tmp 15)]⟩
/-! hoodwink/hoodwinkref03.Next -/
def l_ref03_Next : LFn := ⟨1,
    o (.bin .add (.tmp 0) (.const (.int .u64 11400714819323198485))) <|
    o (.bin .quo (.tmp 1) (.const (.int .u64 1073741824))) <|
    o (.bin .xor (.tmp 1) (.tmp 2)) <|
    o (.bin .mul (.tmp 3) (.const (.int .u64 13787848793156543929))) <|
    o (.bin .quo (.tmp 4) (.const (.int .u64 134217728))) <|
    o (.bin .xor (.tmp 4) (.tmp 5)) <|
    o (.bin .mul (.tmp 6) (.const (.int .u64 10723151780598845931))) <|
    o (.bin .quo (.tmp 7) (.const (.int .u64 2147483648))) <|
    o (.bin .xor (.tmp 7) (.tmp 8)) <|
    o (.bin .quo (.tmp 9) (.const (.int .u64 4294967296))) <|
    o (.conv .u32 (.tmp 10)) <|
    .ret [(.tmp 11), (.tmp 1)]⟩
/-! (hoodwink/dice.Dice).Below -/
def l_dice_Dice_Below : LFn := ⟨2,
    o (.box 26 (.tmp 0)) <|
    o (.new 26) <|
    o (.load true 1 (.tmp 2)) <|
    om .pure (.call F_dice_Dice_Next [(.tmp 4)]) <|
    o (.ext (.tmp 5) 0) <|
    o (.ext (.tmp 5) 1) <|
    o (.store 1 (.tmp 2) (.tmp 7)) <|
    o (.conv .u64 (.tmp 6)) <|
    o (.conv .u64 (.tmp 1)) <|
    o (.bin .mul (.tmp 9) (.tmp 10)) <|
    o (.bin .shr (.tmp 11) (.const (.int .u64 32))) <|
    o (.conv .u32 (.tmp 12)) <|
    o (.load true 1 (.tmp 2)) <|
    o (.store 1 (.tmp 3) (.tmp 14)) <|
    o (.load true 1 (.tmp 3)) <|
    .ret [(.tmp 13), (.tmp 16)]⟩
/-! hoodwink/hoodwinkref03.Below -/
def l_ref03_Below : LFn := ⟨2,
    om .pure (.call F_ref03_Next [(.tmp 0)]) <|
    o (.ext (.tmp 2) 0) <|
    o (.ext (.tmp 2) 1) <|
    o (.conv .u64 (.tmp 3)) <|
    o (.conv .u64 (.tmp 1)) <|
    o (.bin .mul (.tmp 5) (.tmp 6)) <|
    o (.bin .quo (.tmp 7) (.const (.int .u64 4294967296))) <|
    o (.conv .u32 (.tmp 8)) <|
    .ret [(.tmp 9), (.tmp 4)]⟩
/-! (hoodwink/dice.Dice).Split -/
def l_dice_Dice_Split : LFn := ⟨1,
    o (.box 26 (.tmp 0)) <|
    o (.new 26) <|
    o (.new 26) <|
    o (.load true 1 (.tmp 1)) <|
    om .pure (.call F_dice_Dice_Next [(.tmp 4)]) <|
    o (.ext (.tmp 5) 0) <|
    o (.ext (.tmp 5) 1) <|
    o (.store 1 (.tmp 1) (.tmp 7)) <|
    o (.load true 1 (.tmp 1)) <|
    om .pure (.call F_dice_Dice_Next [(.tmp 9)]) <|
    o (.ext (.tmp 10) 0) <|
    o (.ext (.tmp 10) 1) <|
    o (.store 1 (.tmp 1) (.tmp 12)) <|
    o (.conv .u64 (.tmp 6)) <|
    o (.bin .shl (.tmp 14) (.const (.int .u64 32))) <|
    o (.conv .u64 (.tmp 11)) <|
    o (.bin .or (.tmp 15) (.tmp 16)) <|
    o (.build 26 [(0, 1, (.tmp 17))]) <|
    o (.load true 1 (.tmp 1)) <|
    oc none (.store 1 (.tmp 2) (.tmp 18)) .raw [(none, .load true 1 (.tmp 1))] <|
    o (.store 1 (.tmp 3) (.tmp 19)) <|
    o (.load true 1 (.tmp 2)) <|
    o (.load true 1 (.tmp 3)) <|
    .ret [(.tmp 22), (.tmp 23)]⟩
/-! (hoodwink/dice.Dice).Skip -/
def l_dice_Dice_Skip : LFn := ⟨2,
    o (.box 26 (.tmp 0)) <|
    o (.new 26) <|
    o (.bin .gtr (.tmp 1) (.const (.int .i64 0))) <|
    .ite (.tmp 4)
      (o (.faddr 0 (.tmp 2)) <|
      o (.load false 1 (.tmp 5)) <|
      o (.conv .u64 (.tmp 1)) <|
      o (.bin .mul (.const (.int .u64 11400714819323198485)) (.tmp 7)) <|
      o (.bin .add (.tmp 6) (.tmp 8)) <|
      o (.faddr 0 (.tmp 2)) <|
      o (.store 1 (.tmp 10) (.tmp 9)) <|
      o (.load true 1 (.tmp 2)) <|
      o (.store 1 (.tmp 3) (.tmp 12)) <|
      o (.load true 1 (.tmp 3)) <|
      .ret [(.tmp 14)])
      (o (.load true 1 (.tmp 2)) <|
      o (.store 1 (.tmp 3) (.tmp 5)) <|
      o (.load true 1 (.tmp 3)) <|
      .ret [(.tmp 7)])⟩
/-! (hoodwink/dice.Dice).Shuffle -/
def l_dice_Dice_Shuffle_k0 : L :=
  o (.bin .gtr (.tmp 3) (.const (.int .i64 0))) <|
  .ite (.tmp 4)
    (o (.load true 1 (.tmp 0)) <|
    o (.bin .add (.tmp 3) (.const (.int .i64 1))) <|
    o (.conv .u32 (.tmp 6)) <|
    om .pure (.call F_dice_Dice_Below [(.tmp 5), (.tmp 7)]) <|
    o (.ext (.tmp 8) 0) <|
    o (.ext (.tmp 8) 1) <|
    o (.store 1 (.tmp 0) (.tmp 10)) <|
    o (.iaddr 1 (.tmp 2) (.tmp 9)) <|
    o (.load false 1 (.tmp 12)) <|
    o (.iaddr 1 (.tmp 2) (.tmp 3)) <|
    o (.load false 1 (.tmp 14)) <|
    o (.iaddr 1 (.tmp 2) (.tmp 3)) <|
    o (.store 1 (.tmp 16) (.tmp 13)) <|
    o (.iaddr 1 (.tmp 2) (.tmp 9)) <|
    o (.store 1 (.tmp 18) (.tmp 15)) <|
    o (.bin .sub (.tmp 3) (.const (.int .i64 1))) <|
    .goto 1 [(.tmp 0), (.tmp 1), (.tmp 2), (.tmp 20)])
    (.goto 0 [(.tmp 0), (.tmp 1), (.tmp 2)])
def l_dice_Dice_Shuffle_k1 : L :=
  o (.load true 1 (.tmp 0)) <|
  o (.store 1 (.tmp 1) (.tmp 3)) <|
  o (.load true 1 (.tmp 1)) <|
  .ret [(.tmp 2), (.tmp 5)]
def l_dice_Dice_Shuffle : LFn := ⟨2,
    o (.box 26 (.tmp 0)) <|
    o (.new 26) <|
    o (.call F_slices_Clone_Lint32_int32 [(.tmp 1)]) <|
    .join 0
      (o (.len false (.tmp 4)) <|
      o (.bin .sub (.tmp 5) (.const (.int .i64 1))) <|
      .loop 1 [(.tmp 2), (.tmp 3), (.tmp 4), (.tmp 6)] l_dice_Dice_Shuffle_k0)
      l_dice_Dice_Shuffle_k1⟩
/-! slices.Clone[[]int32,int32] -/
def l_slices_Clone_Lint32_int32 : LFn := ⟨1,
    o (.eqNil false .slc (.tmp 0)) <|
    .ite (.tmp 1)
      (.ret [(.const (.slice none 0 0))])
      (o (.bslice 21 0 []) <|
      o (.append 1 4 (.tmp 2) (.tmp 0)) <|
      .ret [(.tmp 3)])⟩
/-! hoodwink/hoodwinkref03.Shuffle -/
def l_ref03_Shuffle_k0 : L :=
  o (.bin .gtr (.tmp 2) (.const (.int .i64 1))) <|
  .ite (.tmp 3)
    (o (.conv .u32 (.tmp 2)) <|
    om .pure (.call F_ref03_Below [(.tmp 0), (.tmp 4)]) <|
    o (.ext (.tmp 5) 0) <|
    o (.ext (.tmp 5) 1) <|
    o (.bin .sub (.tmp 2) (.const (.int .i64 1))) <|
    o (.iaddr 1 (.tmp 1) (.tmp 6)) <|
    o (.load false 1 (.tmp 9)) <|
    o (.bin .sub (.tmp 2) (.const (.int .i64 1))) <|
    o (.iaddr 1 (.tmp 1) (.tmp 11)) <|
    o (.load false 1 (.tmp 12)) <|
    o (.iaddr 1 (.tmp 1) (.tmp 8)) <|
    o (.store 1 (.tmp 14) (.tmp 10)) <|
    o (.iaddr 1 (.tmp 1) (.tmp 6)) <|
    o (.store 1 (.tmp 16) (.tmp 13)) <|
    o (.bin .sub (.tmp 2) (.const (.int .i64 1))) <|
    .goto 1 [(.tmp 7), (.tmp 1), (.tmp 18)])
    (.goto 0 [(.tmp 0), (.tmp 1)])
def l_ref03_Shuffle_k1 : L :=
  .ret [(.tmp 1), (.tmp 0)]
def l_ref03_Shuffle : LFn := ⟨2,
    o (.bslice 21 0 []) <|
    o (.append 1 4 (.tmp 2) (.tmp 1)) <|
    .join 0
      (o (.len false (.tmp 3)) <|
      .loop 1 [(.tmp 0), (.tmp 3), (.tmp 4)] l_ref03_Shuffle_k0)
      l_ref03_Shuffle_k1⟩
/-! slices.Equal[[]int32,int32] -/
def l_slices_Equal_Lint32_int32_k0 : L :=
  o (.bin .lss (.tmp 3) (.tmp 2)) <|
  .ite (.tmp 4)
    (o (.iaddr 1 (.tmp 0) (.tmp 3)) <|
    o (.load false 1 (.tmp 5)) <|
    o (.iaddr 1 (.tmp 1) (.tmp 3)) <|
    o (.load false 1 (.tmp 7)) <|
    o (.bin .neq (.tmp 6) (.tmp 8)) <|
    .ite (.tmp 9)
      (.ret [(.const (.bool false))])
      (o (.bin .add (.tmp 3) (.const (.int .i64 1))) <|
      .goto 1 [(.tmp 0), (.tmp 1), (.tmp 2), (.tmp 10)]))
    (.goto 0 [])
def l_slices_Equal_Lint32_int32_k1 : L :=
  .ret [(.const (.bool true))]
def l_slices_Equal_Lint32_int32 : LFn := ⟨2,
    o (.len false (.tmp 0)) <|
    o (.len false (.tmp 1)) <|
    o (.bin .neq (.tmp 2) (.tmp 3)) <|
    .ite (.tmp 4)
      (.ret [(.const (.bool false))])
      (.join 0
        (o (.len false (.tmp 0)) <|
        .loop 1 [(.tmp 0), (.tmp 1), (.tmp 5), (.const (.int .i64 0))] l_slices_Equal_Lint32_int32_k0)
        l_slices_Equal_Lint32_int32_k1)⟩
/-! slices.Sort[[]int32,int32] -/
def l_slices_Sort_Lint32_int32 : LFn := ⟨1,
    o (.len false (.tmp 0)) <|
    o (.conv .u64 (.tmp 1)) <|
    om .pure (.call F_math_bits_Len [(.tmp 2)]) <|
    o (.call F_slices_pdqsortOrdered_int32 [(.tmp 0), (.const (.int .i64 0)), (.tmp 1), (.tmp 3)]) <|
    .ret []⟩
/-! hoodwink/dice.mixed -/
def l_dice_mixed : LFn := ⟨1,
    o (.bin .shr (.tmp 0) (.const (.int .u64 30))) <|
    o (.bin .xor (.tmp 0) (.tmp 1)) <|
    o (.bin .mul (.tmp 2) (.const (.int .u64 13787848793156543929))) <|
    o (.bin .shr (.tmp 3) (.const (.int .u64 27))) <|
    o (.bin .xor (.tmp 3) (.tmp 4)) <|
    o (.bin .mul (.tmp 5) (.const (.int .u64 10723151780598845931))) <|
    o (.bin .shr (.tmp 6) (.const (.int .u64 31))) <|
    o (.bin .xor (.tmp 6) (.tmp 7)) <|
    .ret [(.tmp 8)]⟩
/-! slices.pdqsortOrdered[int32] -/
def l_slices_pdqsortOrdered_int32_k0 : L :=
  o (.call F_slices_partitionOrdered_int32 [(.tmp 0), (.tmp 1), (.tmp 2), (.tmp 5)]) <|
  o (.ext (.tmp 6) 0) <|
  o (.ext (.tmp 6) 1) <|
  o (.bin .sub (.tmp 7) (.tmp 1)) <|
  o (.bin .sub (.tmp 2) (.tmp 7)) <|
  o (.bin .quo (.tmp 4) (.const (.int .i64 8))) <|
  o (.bin .lss (.tmp 9) (.tmp 10)) <|
  .ite (.tmp 12)
    (o (.bin .geq (.tmp 9) (.tmp 11)) <|
    o (.call F_slices_pdqsortOrdered_int32 [(.tmp 0), (.tmp 1), (.tmp 7), (.tmp 3)]) <|
    o (.bin .add (.tmp 7) (.const (.int .i64 1))) <|
    .goto 0 [(.tmp 0), (.tmp 15), (.tmp 2), (.tmp 3), (.tmp 13), (.tmp 8)])
    (o (.bin .geq (.tmp 10) (.tmp 11)) <|
    o (.bin .add (.tmp 7) (.const (.int .i64 1))) <|
    o (.call F_slices_pdqsortOrdered_int32 [(.tmp 0), (.tmp 14), (.tmp 2), (.tmp 3)]) <|
    .goto 0 [(.tmp 0), (.tmp 1), (.tmp 7), (.tmp 3), (.tmp 13), (.tmp 8)])
def l_slices_pdqsortOrdered_int32_k1 : L :=
  .join 4
    (o (.bin .gtr (.tmp 1) (.const (.int .i64 0))) <|
    .ite (.tmp 8)
      (o (.bin .sub (.tmp 1) (.const (.int .i64 1))) <|
      o (.iaddr 1 (.tmp 0) (.tmp 9)) <|
      o (.load false 1 (.tmp 10)) <|
      o (.iaddr 1 (.tmp 0) (.tmp 7)) <|
      o (.load false 1 (.tmp 12)) <|
      om .pure (.call F_cmp_Less_int32 [(.tmp 11), (.tmp 13)]) <|
      o (.un .not (.tmp 14)) <|
      .ite (.tmp 15)
        (o (.call F_slices_partitionEqualOrdered_int32 [(.tmp 0), (.tmp 1), (.tmp 2), (.tmp 7)]) <|
        .goto 0 [(.tmp 0), (.tmp 16), (.tmp 2), (.tmp 3), (.tmp 4), (.tmp 5)])
        (.goto 4 [(.tmp 0), (.tmp 1), (.tmp 2), (.tmp 3), (.tmp 6), (.tmp 7)]))
      (.goto 4 [(.tmp 0), (.tmp 1), (.tmp 2), (.tmp 3), (.tmp 6), (.tmp 7)]))
    l_slices_pdqsortOrdered_int32_k0
def l_slices_pdqsortOrdered_int32_k2 : L :=
  .join 3
    (.ite (.tmp 4)
      (.ite (.tmp 5)
        (o (.bin .eql (.tmp 8) (.const (.int .i64 1))) <|
        .ite (.tmp 9)
          (o (.call F_slices_partialInsertionSortOrdered_int32 [(.tmp 0), (.tmp 1), (.tmp 2)]) <|
          .ite (.tmp 10)
            (.ret [])
            (.goto 3 [(.tmp 0), (.tmp 1), (.tmp 2), (.tmp 3), (.tmp 4), (.tmp 5), (.tmp 6), (.tmp 7)]))
          (.goto 3 [(.tmp 0), (.tmp 1), (.tmp 2), (.tmp 3), (.tmp 4), (.tmp 5), (.tmp 6), (.tmp 7)]))
        (.goto 3 [(.tmp 0), (.tmp 1), (.tmp 2), (.tmp 3), (.tmp 4), (.tmp 5), (.tmp 6), (.tmp 7)]))
      (.goto 3 [(.tmp 0), (.tmp 1), (.tmp 2), (.tmp 3), (.tmp 4), (.tmp 5), (.tmp 6), (.tmp 7)]))
    l_slices_pdqsortOrdered_int32_k1
def l_slices_pdqsortOrdered_int32_k3 : L :=
  o (.call F_slices_choosePivotOrdered_int32 [(.tmp 0), (.tmp 1), (.tmp 2)]) <|
  o (.ext (.tmp 7) 0) <|
  o (.ext (.tmp 7) 1) <|
  .join 2
    (o (.bin .eql (.tmp 9) (.const (.int .i64 2))) <|
    .ite (.tmp 10)
      (o (.call F_slices_reverseRangeOrdered_int32 [(.tmp 0), (.tmp 1), (.tmp 2)]) <|
      o (.bin .sub (.tmp 2) (.const (.int .i64 1))) <|
      o (.bin .sub (.tmp 8) (.tmp 1)) <|
      o (.bin .sub (.tmp 12) (.tmp 13)) <|
      .goto 2 [(.tmp 0), (.tmp 1), (.tmp 2), (.tmp 3), (.tmp 4), (.tmp 5), (.tmp 6), (.tmp 14), (.const (.int .i64 1))])
      (.goto 2 [(.tmp 0), (.tmp 1), (.tmp 2), (.tmp 3), (.tmp 4), (.tmp 5), (.tmp 6), (.tmp 8), (.tmp 9)]))
    l_slices_pdqsortOrdered_int32_k2
def l_slices_pdqsortOrdered_int32_k4 : L :=
  o (.bin .sub (.tmp 2) (.tmp 1)) <|
  o (.bin .leq (.tmp 6) (.const (.int .i64 12))) <|
  .ite (.tmp 7)
    (o (.call F_slices_insertionSortOrdered_int32 [(.tmp 0), (.tmp 1), (.tmp 2)]) <|
    .ret [])
    (o (.bin .eql (.tmp 3) (.const (.int .i64 0))) <|
    .ite (.tmp 8)
      (o (.call F_slices_heapSortOrdered_int32 [(.tmp 0), (.tmp 1), (.tmp 2)]) <|
      .ret [])
      (.join 1
        (o (.un .not (.tmp 4)) <|
        .ite (.tmp 9)
          (o (.call F_slices_breakPatternsOrdered_int32 [(.tmp 0), (.tmp 1), (.tmp 2)]) <|
          o (.bin .sub (.tmp 3) (.const (.int .i64 1))) <|
          .goto 1 [(.tmp 0), (.tmp 1), (.tmp 2), (.tmp 11), (.tmp 4), (.tmp 5), (.tmp 6)])
          (.goto 1 [(.tmp 0), (.tmp 1), (.tmp 2), (.tmp 3), (.tmp 4), (.tmp 5), (.tmp 6)]))
        l_slices_pdqsortOrdered_int32_k3))
def l_slices_pdqsortOrdered_int32 : LFn := ⟨4,
    .loop 0 [(.tmp 0), (.tmp 1), (.tmp 2), (.tmp 3), (.const (.bool true)), (.const (.bool true))] l_slices_pdqsortOrdered_int32_k4⟩
/-! math/bits.Len -/
def l_math_bits_Len : LFn := ⟨1,
    om .pure (.call F_math_bits_Len64 [(.tmp 0)]) <|
    .ret [(.tmp 1)]⟩
/-! slices.insertionSortOrdered[int32] -/
def l_slices_insertionSortOrdered_int32_k0 : L :=
  o (.bin .sub (.tmp 4) (.const (.int .i64 1))) <|
  o (.bin .sub (.tmp 4) (.const (.int .i64 1))) <|
  o (.iaddr 1 (.tmp 0) (.tmp 6)) <|
  o (.load false 1 (.tmp 7)) <|
  o (.iaddr 1 (.tmp 0) (.tmp 4)) <|
  o (.load false 1 (.tmp 9)) <|
  o (.iaddr 1 (.tmp 0) (.tmp 4)) <|
  o (.store 1 (.tmp 11) (.tmp 8)) <|
  o (.iaddr 1 (.tmp 0) (.tmp 5)) <|
  o (.store 1 (.tmp 13) (.tmp 10)) <|
  o (.bin .sub (.tmp 4) (.const (.int .i64 1))) <|
  .goto 2 [(.tmp 0), (.tmp 1), (.tmp 2), (.tmp 3), (.tmp 15)]
def l_slices_insertionSortOrdered_int32_k1 : L :=
  .join 3
    (o (.bin .gtr (.tmp 4) (.tmp 1)) <|
    .ite (.tmp 5)
      (o (.iaddr 1 (.tmp 0) (.tmp 4)) <|
      o (.load false 1 (.tmp 6)) <|
      o (.bin .sub (.tmp 4) (.const (.int .i64 1))) <|
      o (.iaddr 1 (.tmp 0) (.tmp 8)) <|
      o (.load false 1 (.tmp 9)) <|
      om .pure (.call F_cmp_Less_int32 [(.tmp 7), (.tmp 10)]) <|
      .ite (.tmp 11)
        (.goto 3 [(.tmp 0), (.tmp 1), (.tmp 2), (.tmp 3), (.tmp 4)])
        (.goto 1 [(.tmp 0), (.tmp 1), (.tmp 2), (.tmp 3)]))
      (.goto 1 [(.tmp 0), (.tmp 1), (.tmp 2), (.tmp 3)]))
    l_slices_insertionSortOrdered_int32_k0
def l_slices_insertionSortOrdered_int32_k2 : L :=
  o (.bin .add (.tmp 3) (.const (.int .i64 1))) <|
  .goto 0 [(.tmp 0), (.tmp 1), (.tmp 2), (.tmp 4)]
def l_slices_insertionSortOrdered_int32_k3 : L :=
  o (.bin .lss (.tmp 3) (.tmp 2)) <|
  .ite (.tmp 4)
    (.join 1
      (.loop 2 [(.tmp 0), (.tmp 1), (.tmp 2), (.tmp 3), (.tmp 3)] l_slices_insertionSortOrdered_int32_k1)
      l_slices_insertionSortOrdered_int32_k2)
    (.ret [])
def l_slices_insertionSortOrdered_int32 : LFn := ⟨3,
    o (.bin .add (.tmp 1) (.const (.int .i64 1))) <|
    .loop 0 [(.tmp 0), (.tmp 1), (.tmp 2), (.tmp 3)] l_slices_insertionSortOrdered_int32_k3⟩
/-! slices.heapSortOrdered[int32] -/
def l_slices_heapSortOrdered_int32_k0 : L :=
  o (.bin .geq (.tmp 4) (.const (.int .i64 0))) <|
  .ite (.tmp 5)
    (o (.call F_slices_siftDownOrdered_int32 [(.tmp 0), (.tmp 4), (.tmp 3), (.tmp 1)]) <|
    o (.bin .sub (.tmp 4) (.const (.int .i64 1))) <|
    .goto 1 [(.tmp 0), (.tmp 1), (.tmp 2), (.tmp 3), (.tmp 7)])
    (.goto 0 [(.tmp 0), (.tmp 1), (.tmp 2), (.tmp 3)])
def l_slices_heapSortOrdered_int32_k1 : L :=
  o (.bin .geq (.tmp 3) (.const (.int .i64 0))) <|
  .ite (.tmp 4)
    (o (.bin .add (.tmp 1) (.tmp 3)) <|
    o (.bin .add (.tmp 1) (.tmp 3)) <|
    o (.iaddr 1 (.tmp 0) (.tmp 6)) <|
    o (.load false 1 (.tmp 7)) <|
    o (.iaddr 1 (.tmp 0) (.tmp 1)) <|
    o (.load false 1 (.tmp 9)) <|
    o (.iaddr 1 (.tmp 0) (.tmp 1)) <|
    o (.store 1 (.tmp 11) (.tmp 8)) <|
    o (.iaddr 1 (.tmp 0) (.tmp 5)) <|
    o (.store 1 (.tmp 13) (.tmp 10)) <|
    o (.call F_slices_siftDownOrdered_int32 [(.tmp 0), (.tmp 2), (.tmp 3), (.tmp 1)]) <|
    o (.bin .sub (.tmp 3) (.const (.int .i64 1))) <|
    .goto 1 [(.tmp 0), (.tmp 1), (.tmp 2), (.tmp 16)])
    (.ret [])
def l_slices_heapSortOrdered_int32_k2 : L :=
  o (.bin .sub (.tmp 3) (.const (.int .i64 1))) <|
  .loop 1 [(.tmp 0), (.tmp 1), (.tmp 2), (.tmp 4)] l_slices_heapSortOrdered_int32_k1
def l_slices_heapSortOrdered_int32 : LFn := ⟨3,
    o (.bin .sub (.tmp 2) (.tmp 1)) <|
    .join 0
      (o (.bin .sub (.tmp 3) (.const (.int .i64 1))) <|
      o (.bin .quo (.tmp 4) (.const (.int .i64 2))) <|
      .loop 1 [(.tmp 0), (.tmp 1), (.const (.int .i64 0)), (.tmp 3), (.tmp 5)] l_slices_heapSortOrdered_int32_k0)
      l_slices_heapSortOrdered_int32_k2⟩
/-! slices.breakPatternsOrdered[int32] -/
def l_slices_breakPatternsOrdered_int32_k0 : L :=
  o (.bin .add (.tmp 1) (.tmp 6)) <|
  o (.bin .add (.tmp 1) (.tmp 6)) <|
  o (.iaddr 1 (.tmp 0) (.tmp 8)) <|
  o (.load false 1 (.tmp 9)) <|
  o (.iaddr 1 (.tmp 0) (.tmp 5)) <|
  o (.load false 1 (.tmp 11)) <|
  o (.iaddr 1 (.tmp 0) (.tmp 5)) <|
  o (.store 1 (.tmp 13) (.tmp 10)) <|
  o (.iaddr 1 (.tmp 0) (.tmp 7)) <|
  o (.store 1 (.tmp 15) (.tmp 12)) <|
  o (.bin .add (.tmp 5) (.const (.int .i64 1))) <|
  .goto 0 [(.tmp 0), (.tmp 1), (.tmp 2), (.tmp 3), (.tmp 4), (.tmp 17)]
def l_slices_breakPatternsOrdered_int32_k1 : L :=
  o (.bin .quo (.tmp 2) (.const (.int .i64 4))) <|
  o (.bin .mul (.tmp 6) (.const (.int .i64 2))) <|
  o (.bin .add (.tmp 1) (.tmp 7)) <|
  o (.bin .add (.tmp 8) (.const (.int .i64 1))) <|
  o (.bin .leq (.tmp 5) (.tmp 9)) <|
  .ite (.tmp 10)
    (o (.call F_slices_xorshift_Next [(.tmp 3)]) <|
    o (.bin .sub (.tmp 4) (.const (.int .u64 1))) <|
    o (.bin .and (.tmp 11) (.tmp 12)) <|
    o (.conv .i64 (.tmp 13)) <|
    .join 1
      (o (.bin .geq (.tmp 14) (.tmp 2)) <|
      .ite (.tmp 15)
        (o (.bin .sub (.tmp 14) (.tmp 2)) <|
        .goto 1 [(.tmp 0), (.tmp 1), (.tmp 2), (.tmp 3), (.tmp 4), (.tmp 5), (.tmp 16)])
        (.goto 1 [(.tmp 0), (.tmp 1), (.tmp 2), (.tmp 3), (.tmp 4), (.tmp 5), (.tmp 14)]))
      l_slices_breakPatternsOrdered_int32_k0)
    (.ret [])
def l_slices_breakPatternsOrdered_int32 : LFn := ⟨3,
    o (.bin .sub (.tmp 2) (.tmp 1)) <|
    o (.bin .geq (.tmp 3) (.const (.int .i64 8))) <|
    .ite (.tmp 4)
      (o (.conv .u64 (.tmp 3)) <|
      o (.new 64) <|
      o (.store 1 (.tmp 6) (.tmp 5)) <|
      om .pure (.call F_slices_nextPowerOfTwo [(.tmp 3)]) <|
      o (.bin .quo (.tmp 3) (.const (.int .i64 4))) <|
      o (.bin .mul (.tmp 9) (.const (.int .i64 2))) <|
      o (.bin .add (.tmp 1) (.tmp 10)) <|
      o (.bin .sub (.tmp 11) (.const (.int .i64 1))) <|
      .loop 0 [(.tmp 0), (.tmp 1), (.tmp 3), (.tmp 6), (.tmp 8), (.tmp 12)] l_slices_breakPatternsOrdered_int32_k1)
      (.ret [])⟩
/-! slices.choosePivotOrdered[int32] -/
def l_slices_choosePivotOrdered_int32_k0 : L :=
  o (.call F_slices_medianOrdered_int32 [(.tmp 0), (.tmp 2), (.tmp 3), (.tmp 4), (.tmp 1)]) <|
  .goto 0 [(.tmp 1), (.tmp 5)]
def l_slices_choosePivotOrdered_int32_k1 : L :=
  o (.load false 1 (.tmp 0)) <|
  o (.bin .eql (.tmp 2) (.const (.int .i64 0))) <|
  .ite (.tmp 3)
    (.ret [(.tmp 1), (.const (.int .i64 1))])
    (o (.bin .eql (.tmp 2) (.const (.int .i64 12))) <|
    .ite (.tmp 4)
      (.ret [(.tmp 1), (.const (.int .i64 2))])
      (.ret [(.tmp 1), (.const (.int .i64 0))]))
def l_slices_choosePivotOrdered_int32 : LFn := ⟨3,
    o (.bin .sub (.tmp 2) (.tmp 1)) <|
    o (.new 3) <|
    o (.bin .quo (.tmp 3) (.const (.int .i64 4))) <|
    o (.bin .mul (.tmp 5) (.const (.int .i64 1))) <|
    o (.bin .add (.tmp 1) (.tmp 6)) <|
    o (.bin .quo (.tmp 3) (.const (.int .i64 4))) <|
    o (.bin .mul (.tmp 8) (.const (.int .i64 2))) <|
    o (.bin .add (.tmp 1) (.tmp 9)) <|
    o (.bin .quo (.tmp 3) (.const (.int .i64 4))) <|
    o (.bin .mul (.tmp 11) (.const (.int .i64 3))) <|
    o (.bin .add (.tmp 1) (.tmp 12)) <|
    .join 0
      (o (.bin .geq (.tmp 3) (.const (.int .i64 8))) <|
      .ite (.tmp 14)
        (.join 1
          (o (.bin .geq (.tmp 3) (.const (.int .i64 50))) <|
          .ite (.tmp 15)
            (o (.call F_slices_medianAdjacentOrdered_int32 [(.tmp 0), (.tmp 7), (.tmp 4)]) <|
            o (.call F_slices_medianAdjacentOrdered_int32 [(.tmp 0), (.tmp 10), (.tmp 4)]) <|
            o (.call F_slices_medianAdjacentOrdered_int32 [(.tmp 0), (.tmp 13), (.tmp 4)]) <|
            .goto 1 [(.tmp 0), (.tmp 4), (.tmp 16), (.tmp 17), (.tmp 18)])
            (.goto 1 [(.tmp 0), (.tmp 4), (.tmp 7), (.tmp 10), (.tmp 13)]))
          l_slices_choosePivotOrdered_int32_k0)
        (.goto 0 [(.tmp 4), (.tmp 10)]))
      l_slices_choosePivotOrdered_int32_k1⟩
/-! slices.reverseRangeOrdered[int32] -/
def l_slices_reverseRangeOrdered_int32_k0 : L :=
  o (.bin .lss (.tmp 1) (.tmp 2)) <|
  .ite (.tmp 3)
    (o (.iaddr 1 (.tmp 0) (.tmp 2)) <|
    o (.load false 1 (.tmp 4)) <|
    o (.iaddr 1 (.tmp 0) (.tmp 1)) <|
    o (.load false 1 (.tmp 6)) <|
    o (.iaddr 1 (.tmp 0) (.tmp 1)) <|
    o (.store 1 (.tmp 8) (.tmp 5)) <|
    o (.iaddr 1 (.tmp 0) (.tmp 2)) <|
    o (.store 1 (.tmp 10) (.tmp 7)) <|
    o (.bin .add (.tmp 1) (.const (.int .i64 1))) <|
    o (.bin .sub (.tmp 2) (.const (.int .i64 1))) <|
    .goto 0 [(.tmp 0), (.tmp 12), (.tmp 13)])
    (.ret [])
def l_slices_reverseRangeOrdered_int32 : LFn := ⟨3,
    o (.bin .sub (.tmp 2) (.const (.int .i64 1))) <|
    .loop 0 [(.tmp 0), (.tmp 1), (.tmp 3)] l_slices_reverseRangeOrdered_int32_k0⟩
/-! slices.partialInsertionSortOrdered[int32] -/
def l_slices_partialInsertionSortOrdered_int32_k0 : L :=
  o (.bin .add (.tmp 3) (.const (.int .i64 1))) <|
  .goto 4 [(.tmp 0), (.tmp 1), (.tmp 2), (.tmp 5), (.tmp 4)]
def l_slices_partialInsertionSortOrdered_int32_k1 : L :=
  .join 5
    (o (.bin .lss (.tmp 3) (.tmp 2)) <|
    .ite (.tmp 5)
      (o (.iaddr 1 (.tmp 0) (.tmp 3)) <|
      o (.load false 1 (.tmp 6)) <|
      o (.bin .sub (.tmp 3) (.const (.int .i64 1))) <|
      o (.iaddr 1 (.tmp 0) (.tmp 8)) <|
      o (.load false 1 (.tmp 9)) <|
      om .pure (.call F_cmp_Less_int32 [(.tmp 7), (.tmp 10)]) <|
      o (.un .not (.tmp 11)) <|
      .ite (.tmp 12)
        (.goto 5 [(.tmp 0), (.tmp 1), (.tmp 2), (.tmp 3), (.tmp 4)])
        (.goto 3 [(.tmp 0), (.tmp 1), (.tmp 2), (.tmp 3), (.tmp 4)]))
      (.goto 3 [(.tmp 0), (.tmp 1), (.tmp 2), (.tmp 3), (.tmp 4)]))
    l_slices_partialInsertionSortOrdered_int32_k0
def l_slices_partialInsertionSortOrdered_int32_k2 : L :=
  o (.bin .geq (.tmp 5) (.const (.int .i64 1))) <|
  .ite (.tmp 6)
    (o (.iaddr 1 (.tmp 0) (.tmp 5)) <|
    o (.load false 1 (.tmp 7)) <|
    o (.bin .sub (.tmp 5) (.const (.int .i64 1))) <|
    o (.iaddr 1 (.tmp 0) (.tmp 9)) <|
    o (.load false 1 (.tmp 10)) <|
    om .pure (.call F_cmp_Less_int32 [(.tmp 8), (.tmp 11)]) <|
    o (.un .not (.tmp 12)) <|
    .ite (.tmp 13)
      (.goto 4 [(.tmp 0), (.tmp 1), (.tmp 2), (.tmp 3), (.tmp 4)])
      (o (.bin .sub (.tmp 5) (.const (.int .i64 1))) <|
      o (.bin .sub (.tmp 5) (.const (.int .i64 1))) <|
      o (.iaddr 1 (.tmp 0) (.tmp 15)) <|
      o (.load false 1 (.tmp 16)) <|
      o (.iaddr 1 (.tmp 0) (.tmp 5)) <|
      o (.load false 1 (.tmp 18)) <|
      o (.iaddr 1 (.tmp 0) (.tmp 5)) <|
      o (.store 1 (.tmp 20) (.tmp 17)) <|
      o (.iaddr 1 (.tmp 0) (.tmp 14)) <|
      o (.store 1 (.tmp 22) (.tmp 19)) <|
      o (.bin .sub (.tmp 5) (.const (.int .i64 1))) <|
      .goto 5 [(.tmp 0), (.tmp 1), (.tmp 2), (.tmp 3), (.tmp 4), (.tmp 24)]))
    (.goto 4 [(.tmp 0), (.tmp 1), (.tmp 2), (.tmp 3), (.tmp 4)])
def l_slices_partialInsertionSortOrdered_int32_k3 : L :=
  o (.bin .lss (.tmp 5) (.tmp 2)) <|
  .ite (.tmp 6)
    (o (.iaddr 1 (.tmp 0) (.tmp 5)) <|
    o (.load false 1 (.tmp 7)) <|
    o (.bin .sub (.tmp 5) (.const (.int .i64 1))) <|
    o (.iaddr 1 (.tmp 0) (.tmp 9)) <|
    o (.load false 1 (.tmp 10)) <|
    om .pure (.call F_cmp_Less_int32 [(.tmp 8), (.tmp 11)]) <|
    o (.un .not (.tmp 12)) <|
    .ite (.tmp 13)
      (.goto 2 [(.tmp 0), (.tmp 1), (.tmp 2), (.tmp 3), (.tmp 4)])
      (o (.bin .sub (.tmp 5) (.const (.int .i64 1))) <|
      o (.bin .sub (.tmp 5) (.const (.int .i64 1))) <|
      o (.iaddr 1 (.tmp 0) (.tmp 15)) <|
      o (.load false 1 (.tmp 16)) <|
      o (.iaddr 1 (.tmp 0) (.tmp 5)) <|
      o (.load false 1 (.tmp 18)) <|
      o (.iaddr 1 (.tmp 0) (.tmp 5)) <|
      o (.store 1 (.tmp 20) (.tmp 17)) <|
      o (.iaddr 1 (.tmp 0) (.tmp 14)) <|
      o (.store 1 (.tmp 22) (.tmp 19)) <|
      o (.bin .add (.tmp 5) (.const (.int .i64 1))) <|
      .goto 5 [(.tmp 0), (.tmp 1), (.tmp 2), (.tmp 3), (.tmp 4), (.tmp 24)]))
    (.goto 2 [(.tmp 0), (.tmp 1), (.tmp 2), (.tmp 3), (.tmp 4)])
def l_slices_partialInsertionSortOrdered_int32_k4 : L :=
  o (.bin .sub (.tmp 2) (.tmp 3)) <|
  o (.bin .geq (.tmp 5) (.const (.int .i64 2))) <|
  .ite (.tmp 6)
    (o (.bin .add (.tmp 3) (.const (.int .i64 1))) <|
    .loop 5 [(.tmp 0), (.tmp 1), (.tmp 2), (.tmp 3), (.tmp 4), (.tmp 7)] l_slices_partialInsertionSortOrdered_int32_k3)
    (.goto 2 [(.tmp 0), (.tmp 1), (.tmp 2), (.tmp 3), (.tmp 4)])
def l_slices_partialInsertionSortOrdered_int32_k5 : L :=
  o (.bin .eql (.tmp 3) (.tmp 2)) <|
  .ite (.tmp 5)
    (.ret [(.const (.bool true))])
    (o (.bin .sub (.tmp 2) (.tmp 1)) <|
    o (.bin .lss (.tmp 6) (.const (.int .i64 50))) <|
    .ite (.tmp 7)
      (.ret [(.const (.bool false))])
      (o (.bin .sub (.tmp 3) (.const (.int .i64 1))) <|
      o (.bin .sub (.tmp 3) (.const (.int .i64 1))) <|
      o (.iaddr 1 (.tmp 0) (.tmp 9)) <|
      o (.load false 1 (.tmp 10)) <|
      o (.iaddr 1 (.tmp 0) (.tmp 3)) <|
      o (.load false 1 (.tmp 12)) <|
      o (.iaddr 1 (.tmp 0) (.tmp 3)) <|
      o (.store 1 (.tmp 14) (.tmp 11)) <|
      o (.iaddr 1 (.tmp 0) (.tmp 8)) <|
      o (.store 1 (.tmp 16) (.tmp 13)) <|
      .join 4
        (o (.bin .sub (.tmp 3) (.tmp 1)) <|
        o (.bin .geq (.tmp 18) (.const (.int .i64 2))) <|
        .ite (.tmp 19)
          (o (.bin .sub (.tmp 3) (.const (.int .i64 1))) <|
          .loop 5 [(.tmp 0), (.tmp 1), (.tmp 2), (.tmp 3), (.tmp 4), (.tmp 20)] l_slices_partialInsertionSortOrdered_int32_k2)
          (.goto 4 [(.tmp 0), (.tmp 1), (.tmp 2), (.tmp 3), (.tmp 4)]))
        l_slices_partialInsertionSortOrdered_int32_k4))
def l_slices_partialInsertionSortOrdered_int32_k6 : L :=
  o (.bin .add (.tmp 4) (.const (.int .i64 1))) <|
  .goto 1 [(.tmp 0), (.tmp 1), (.tmp 2), (.tmp 3), (.tmp 5)]
def l_slices_partialInsertionSortOrdered_int32_k7 : L :=
  o (.bin .lss (.tmp 4) (.const (.int .i64 5))) <|
  .ite (.tmp 5)
    (.join 2
      (.join 3
        (.loop 4 [(.tmp 0), (.tmp 1), (.tmp 2), (.tmp 3), (.tmp 4)] l_slices_partialInsertionSortOrdered_int32_k1)
        l_slices_partialInsertionSortOrdered_int32_k5)
      l_slices_partialInsertionSortOrdered_int32_k6)
    (.goto 0 [])
def l_slices_partialInsertionSortOrdered_int32_k8 : L :=
  .ret [(.const (.bool false))]
def l_slices_partialInsertionSortOrdered_int32 : LFn := ⟨3,
    o (.bin .add (.tmp 1) (.const (.int .i64 1))) <|
    .join 0
      (.loop 1 [(.tmp 0), (.tmp 1), (.tmp 2), (.tmp 3), (.const (.int .i64 0))] l_slices_partialInsertionSortOrdered_int32_k7)
      l_slices_partialInsertionSortOrdered_int32_k8⟩
/-! cmp.Less[int32] -/
def l_cmp_Less_int32 : LFn := ⟨2,
    om .pure (.call F_cmp_isNaN_int32 [(.tmp 0)]) <|
    .ite (.tmp 2)
      (om .pure (.call F_cmp_isNaN_int32 [(.tmp 1)]) <|
      o (.un .not (.tmp 3)) <|
      .ite (.tmp 4)
        (.ret [(.const (.bool true))])
        (o (.bin .lss (.tmp 0) (.tmp 1)) <|
        .ret [(.tmp 5)]))
      (o (.bin .lss (.tmp 0) (.tmp 1)) <|
      .ret [(.tmp 3)])⟩
/-! slices.partitionEqualOrdered[int32] -/
def l_slices_partitionEqualOrdered_int32_k0 : L :=
  o (.bin .add (.tmp 2) (.const (.int .i64 1))) <|
  .goto 3 [(.tmp 0), (.tmp 1), (.tmp 4), (.tmp 3)]
def l_slices_partitionEqualOrdered_int32_k1 : L :=
  .join 4
    (o (.bin .leq (.tmp 2) (.tmp 3)) <|
    .ite (.tmp 4)
      (o (.iaddr 1 (.tmp 0) (.tmp 1)) <|
      o (.load false 1 (.tmp 5)) <|
      o (.iaddr 1 (.tmp 0) (.tmp 2)) <|
      o (.load false 1 (.tmp 7)) <|
      om .pure (.call F_cmp_Less_int32 [(.tmp 6), (.tmp 8)]) <|
      o (.un .not (.tmp 9)) <|
      .ite (.tmp 10)
        (.goto 4 [(.tmp 0), (.tmp 1), (.tmp 2), (.tmp 3)])
        (.goto 2 [(.tmp 0), (.tmp 1), (.tmp 2), (.tmp 3)]))
      (.goto 2 [(.tmp 0), (.tmp 1), (.tmp 2), (.tmp 3)]))
    l_slices_partitionEqualOrdered_int32_k0
def l_slices_partitionEqualOrdered_int32_k2 : L :=
  o (.bin .sub (.tmp 3) (.const (.int .i64 1))) <|
  .goto 4 [(.tmp 0), (.tmp 1), (.tmp 2), (.tmp 4)]
def l_slices_partitionEqualOrdered_int32_k3 : L :=
  .join 5
    (o (.bin .leq (.tmp 2) (.tmp 3)) <|
    .ite (.tmp 4)
      (o (.iaddr 1 (.tmp 0) (.tmp 1)) <|
      o (.load false 1 (.tmp 5)) <|
      o (.iaddr 1 (.tmp 0) (.tmp 3)) <|
      o (.load false 1 (.tmp 7)) <|
      om .pure (.call F_cmp_Less_int32 [(.tmp 6), (.tmp 8)]) <|
      .ite (.tmp 9)
        (.goto 5 [(.tmp 0), (.tmp 1), (.tmp 2), (.tmp 3)])
        (.goto 3 [(.tmp 0), (.tmp 1), (.tmp 2), (.tmp 3)]))
      (.goto 3 [(.tmp 0), (.tmp 1), (.tmp 2), (.tmp 3)]))
    l_slices_partitionEqualOrdered_int32_k2
def l_slices_partitionEqualOrdered_int32_k4 : L :=
  o (.bin .gtr (.tmp 2) (.tmp 3)) <|
  .ite (.tmp 4)
    (.goto 0 [(.tmp 2)])
    (o (.iaddr 1 (.tmp 0) (.tmp 3)) <|
    o (.load false 1 (.tmp 5)) <|
    o (.iaddr 1 (.tmp 0) (.tmp 2)) <|
    o (.load false 1 (.tmp 7)) <|
    o (.iaddr 1 (.tmp 0) (.tmp 2)) <|
    o (.store 1 (.tmp 9) (.tmp 6)) <|
    o (.iaddr 1 (.tmp 0) (.tmp 3)) <|
    o (.store 1 (.tmp 11) (.tmp 8)) <|
    o (.bin .add (.tmp 2) (.const (.int .i64 1))) <|
    o (.bin .sub (.tmp 3) (.const (.int .i64 1))) <|
    .goto 1 [(.tmp 0), (.tmp 1), (.tmp 13), (.tmp 14)])
def l_slices_partitionEqualOrdered_int32_k5 : L :=
  .join 3
    (.loop 4 [(.tmp 0), (.tmp 1), (.tmp 2), (.tmp 3)] l_slices_partitionEqualOrdered_int32_k3)
    l_slices_partitionEqualOrdered_int32_k4
def l_slices_partitionEqualOrdered_int32_k6 : L :=
  .join 2
    (.loop 3 [(.tmp 0), (.tmp 1), (.tmp 2), (.tmp 3)] l_slices_partitionEqualOrdered_int32_k1)
    l_slices_partitionEqualOrdered_int32_k5
def l_slices_partitionEqualOrdered_int32_k7 : L :=
  .ret [(.tmp 0)]
def l_slices_partitionEqualOrdered_int32 : LFn := ⟨4,
    o (.iaddr 1 (.tmp 0) (.tmp 3)) <|
    o (.load false 1 (.tmp 4)) <|
    o (.iaddr 1 (.tmp 0) (.tmp 1)) <|
    o (.load false 1 (.tmp 6)) <|
    o (.iaddr 1 (.tmp 0) (.tmp 1)) <|
    o (.store 1 (.tmp 8) (.tmp 5)) <|
    o (.iaddr 1 (.tmp 0) (.tmp 3)) <|
    o (.store 1 (.tmp 10) (.tmp 7)) <|
    o (.bin .add (.tmp 1) (.const (.int .i64 1))) <|
    o (.bin .sub (.tmp 2) (.const (.int .i64 1))) <|
    .join 0
      (.loop 1 [(.tmp 0), (.tmp 1), (.tmp 12), (.tmp 13)] l_slices_partitionEqualOrdered_int32_k6)
      l_slices_partitionEqualOrdered_int32_k7⟩
/-! slices.partitionOrdered[int32] -/
def l_slices_partitionOrdered_int32_k0 : L :=
  o (.bin .add (.tmp 2) (.const (.int .i64 1))) <|
  .goto 1 [(.tmp 0), (.tmp 1), (.tmp 4), (.tmp 3)]
def l_slices_partitionOrdered_int32_k1 : L :=
  .join 2
    (o (.bin .leq (.tmp 2) (.tmp 3)) <|
    .ite (.tmp 4)
      (o (.iaddr 1 (.tmp 0) (.tmp 2)) <|
      o (.load false 1 (.tmp 5)) <|
      o (.iaddr 1 (.tmp 0) (.tmp 1)) <|
      o (.load false 1 (.tmp 7)) <|
      om .pure (.call F_cmp_Less_int32 [(.tmp 6), (.tmp 8)]) <|
      .ite (.tmp 9)
        (.goto 2 [(.tmp 0), (.tmp 1), (.tmp 2), (.tmp 3)])
        (.goto 0 [(.tmp 0), (.tmp 1), (.tmp 2), (.tmp 3)]))
      (.goto 0 [(.tmp 0), (.tmp 1), (.tmp 2), (.tmp 3)]))
    l_slices_partitionOrdered_int32_k0
def l_slices_partitionOrdered_int32_k2 : L :=
  o (.bin .sub (.tmp 3) (.const (.int .i64 1))) <|
  .goto 2 [(.tmp 0), (.tmp 1), (.tmp 2), (.tmp 4)]
def l_slices_partitionOrdered_int32_k3 : L :=
  .join 3
    (o (.bin .leq (.tmp 2) (.tmp 3)) <|
    .ite (.tmp 4)
      (o (.iaddr 1 (.tmp 0) (.tmp 3)) <|
      o (.load false 1 (.tmp 5)) <|
      o (.iaddr 1 (.tmp 0) (.tmp 1)) <|
      o (.load false 1 (.tmp 7)) <|
      om .pure (.call F_cmp_Less_int32 [(.tmp 6), (.tmp 8)]) <|
      o (.un .not (.tmp 9)) <|
      .ite (.tmp 10)
        (.goto 3 [(.tmp 0), (.tmp 1), (.tmp 2), (.tmp 3)])
        (.goto 1 [(.tmp 0), (.tmp 1), (.tmp 2), (.tmp 3)]))
      (.goto 1 [(.tmp 0), (.tmp 1), (.tmp 2), (.tmp 3)]))
    l_slices_partitionOrdered_int32_k2
def l_slices_partitionOrdered_int32_k4 : L :=
  o (.bin .add (.tmp 2) (.const (.int .i64 1))) <|
  .goto 5 [(.tmp 0), (.tmp 1), (.tmp 4), (.tmp 3)]
def l_slices_partitionOrdered_int32_k5 : L :=
  .join 6
    (o (.bin .leq (.tmp 2) (.tmp 3)) <|
    .ite (.tmp 4)
      (o (.iaddr 1 (.tmp 0) (.tmp 2)) <|
      o (.load false 1 (.tmp 5)) <|
      o (.iaddr 1 (.tmp 0) (.tmp 1)) <|
      o (.load false 1 (.tmp 7)) <|
      om .pure (.call F_cmp_Less_int32 [(.tmp 6), (.tmp 8)]) <|
      .ite (.tmp 9)
        (.goto 6 [(.tmp 0), (.tmp 1), (.tmp 2), (.tmp 3)])
        (.goto 4 [(.tmp 0), (.tmp 1), (.tmp 2), (.tmp 3)]))
      (.goto 4 [(.tmp 0), (.tmp 1), (.tmp 2), (.tmp 3)]))
    l_slices_partitionOrdered_int32_k4
def l_slices_partitionOrdered_int32_k6 : L :=
  o (.bin .sub (.tmp 3) (.const (.int .i64 1))) <|
  .goto 6 [(.tmp 0), (.tmp 1), (.tmp 2), (.tmp 4)]
def l_slices_partitionOrdered_int32_k7 : L :=
  .join 7
    (o (.bin .leq (.tmp 2) (.tmp 3)) <|
    .ite (.tmp 4)
      (o (.iaddr 1 (.tmp 0) (.tmp 3)) <|
      o (.load false 1 (.tmp 5)) <|
      o (.iaddr 1 (.tmp 0) (.tmp 1)) <|
      o (.load false 1 (.tmp 7)) <|
      om .pure (.call F_cmp_Less_int32 [(.tmp 6), (.tmp 8)]) <|
      o (.un .not (.tmp 9)) <|
      .ite (.tmp 10)
        (.goto 7 [(.tmp 0), (.tmp 1), (.tmp 2), (.tmp 3)])
        (.goto 5 [(.tmp 0), (.tmp 1), (.tmp 2), (.tmp 3)]))
      (.goto 5 [(.tmp 0), (.tmp 1), (.tmp 2), (.tmp 3)]))
    l_slices_partitionOrdered_int32_k6
def l_slices_partitionOrdered_int32_k8 : L :=
  o (.bin .gtr (.tmp 2) (.tmp 3)) <|
  .ite (.tmp 4)
    (.goto 2 [(.tmp 0), (.tmp 1), (.tmp 3)])
    (o (.iaddr 1 (.tmp 0) (.tmp 3)) <|
    o (.load false 1 (.tmp 5)) <|
    o (.iaddr 1 (.tmp 0) (.tmp 2)) <|
    o (.load false 1 (.tmp 7)) <|
    o (.iaddr 1 (.tmp 0) (.tmp 2)) <|
    o (.store 1 (.tmp 9) (.tmp 6)) <|
    o (.iaddr 1 (.tmp 0) (.tmp 3)) <|
    o (.store 1 (.tmp 11) (.tmp 8)) <|
    o (.bin .add (.tmp 2) (.const (.int .i64 1))) <|
    o (.bin .sub (.tmp 3) (.const (.int .i64 1))) <|
    .goto 3 [(.tmp 0), (.tmp 1), (.tmp 13), (.tmp 14)])
def l_slices_partitionOrdered_int32_k9 : L :=
  .join 5
    (.loop 6 [(.tmp 0), (.tmp 1), (.tmp 2), (.tmp 3)] l_slices_partitionOrdered_int32_k7)
    l_slices_partitionOrdered_int32_k8
def l_slices_partitionOrdered_int32_k10 : L :=
  .join 4
    (.loop 5 [(.tmp 0), (.tmp 1), (.tmp 2), (.tmp 3)] l_slices_partitionOrdered_int32_k5)
    l_slices_partitionOrdered_int32_k9
def l_slices_partitionOrdered_int32_k11 : L :=
  o (.iaddr 1 (.tmp 0) (.tmp 1)) <|
  o (.load false 1 (.tmp 3)) <|
  o (.iaddr 1 (.tmp 0) (.tmp 2)) <|
  o (.load false 1 (.tmp 5)) <|
  o (.iaddr 1 (.tmp 0) (.tmp 2)) <|
  o (.store 1 (.tmp 7) (.tmp 4)) <|
  o (.iaddr 1 (.tmp 0) (.tmp 1)) <|
  o (.store 1 (.tmp 9) (.tmp 6)) <|
  .ret [(.tmp 2), (.const (.bool false))]
def l_slices_partitionOrdered_int32_k12 : L :=
  o (.bin .gtr (.tmp 2) (.tmp 3)) <|
  .ite (.tmp 4)
    (o (.iaddr 1 (.tmp 0) (.tmp 1)) <|
    o (.load false 1 (.tmp 5)) <|
    o (.iaddr 1 (.tmp 0) (.tmp 3)) <|
    o (.load false 1 (.tmp 7)) <|
    o (.iaddr 1 (.tmp 0) (.tmp 3)) <|
    o (.store 1 (.tmp 9) (.tmp 6)) <|
    o (.iaddr 1 (.tmp 0) (.tmp 1)) <|
    o (.store 1 (.tmp 11) (.tmp 8)) <|
    .ret [(.tmp 3), (.const (.bool true))])
    (o (.iaddr 1 (.tmp 0) (.tmp 3)) <|
    o (.load false 1 (.tmp 5)) <|
    o (.iaddr 1 (.tmp 0) (.tmp 2)) <|
    o (.load false 1 (.tmp 7)) <|
    o (.iaddr 1 (.tmp 0) (.tmp 2)) <|
    o (.store 1 (.tmp 9) (.tmp 6)) <|
    o (.iaddr 1 (.tmp 0) (.tmp 3)) <|
    o (.store 1 (.tmp 11) (.tmp 8)) <|
    o (.bin .add (.tmp 2) (.const (.int .i64 1))) <|
    o (.bin .sub (.tmp 3) (.const (.int .i64 1))) <|
    .join 2
      (.loop 3 [(.tmp 0), (.tmp 1), (.tmp 13), (.tmp 14)] l_slices_partitionOrdered_int32_k10)
      l_slices_partitionOrdered_int32_k11)
def l_slices_partitionOrdered_int32_k13 : L :=
  .join 1
    (.loop 2 [(.tmp 0), (.tmp 1), (.tmp 2), (.tmp 3)] l_slices_partitionOrdered_int32_k3)
    l_slices_partitionOrdered_int32_k12
def l_slices_partitionOrdered_int32 : LFn := ⟨4,
    o (.iaddr 1 (.tmp 0) (.tmp 3)) <|
    o (.load false 1 (.tmp 4)) <|
    o (.iaddr 1 (.tmp 0) (.tmp 1)) <|
    o (.load false 1 (.tmp 6)) <|
    o (.iaddr 1 (.tmp 0) (.tmp 1)) <|
    o (.store 1 (.tmp 8) (.tmp 5)) <|
    o (.iaddr 1 (.tmp 0) (.tmp 3)) <|
    o (.store 1 (.tmp 10) (.tmp 7)) <|
    o (.bin .add (.tmp 1) (.const (.int .i64 1))) <|
    o (.bin .sub (.tmp 2) (.const (.int .i64 1))) <|
    .join 0
      (.loop 1 [(.tmp 0), (.tmp 1), (.tmp 12), (.tmp 13)] l_slices_partitionOrdered_int32_k1)
      l_slices_partitionOrdered_int32_k13⟩
/-! slices.siftDownOrdered[int32] -/
def l_slices_siftDownOrdered_int32_k0 : L :=
  o (.bin .add (.tmp 2) (.tmp 3)) <|
  o (.iaddr 1 (.tmp 0) (.tmp 5)) <|
  o (.load false 1 (.tmp 6)) <|
  o (.bin .add (.tmp 2) (.tmp 4)) <|
  o (.iaddr 1 (.tmp 0) (.tmp 8)) <|
  o (.load false 1 (.tmp 9)) <|
  om .pure (.call F_cmp_Less_int32 [(.tmp 7), (.tmp 10)]) <|
  o (.un .not (.tmp 11)) <|
  .ite (.tmp 12)
    (.ret [])
    (o (.bin .add (.tmp 2) (.tmp 3)) <|
    o (.bin .add (.tmp 2) (.tmp 4)) <|
    o (.bin .add (.tmp 2) (.tmp 4)) <|
    o (.iaddr 1 (.tmp 0) (.tmp 15)) <|
    o (.load false 1 (.tmp 16)) <|
    o (.bin .add (.tmp 2) (.tmp 3)) <|
    o (.iaddr 1 (.tmp 0) (.tmp 18)) <|
    o (.load false 1 (.tmp 19)) <|
    o (.iaddr 1 (.tmp 0) (.tmp 13)) <|
    o (.store 1 (.tmp 21) (.tmp 17)) <|
    o (.iaddr 1 (.tmp 0) (.tmp 14)) <|
    o (.store 1 (.tmp 23) (.tmp 20)) <|
    .goto 0 [(.tmp 0), (.tmp 1), (.tmp 2), (.tmp 4)])
def l_slices_siftDownOrdered_int32_k1 : L :=
  o (.bin .mul (.const (.int .i64 2)) (.tmp 3)) <|
  o (.bin .add (.tmp 4) (.const (.int .i64 1))) <|
  o (.bin .geq (.tmp 5) (.tmp 1)) <|
  .ite (.tmp 6)
    (.ret [])
    (.join 1
      (o (.bin .add (.tmp 5) (.const (.int .i64 1))) <|
      o (.bin .lss (.tmp 7) (.tmp 1)) <|
      .ite (.tmp 8)
        (o (.bin .add (.tmp 2) (.tmp 5)) <|
        o (.iaddr 1 (.tmp 0) (.tmp 9)) <|
        o (.load false 1 (.tmp 10)) <|
        o (.bin .add (.tmp 2) (.tmp 5)) <|
        o (.bin .add (.tmp 12) (.const (.int .i64 1))) <|
        o (.iaddr 1 (.tmp 0) (.tmp 13)) <|
        o (.load false 1 (.tmp 14)) <|
        om .pure (.call F_cmp_Less_int32 [(.tmp 11), (.tmp 15)]) <|
        .ite (.tmp 16)
          (o (.bin .add (.tmp 5) (.const (.int .i64 1))) <|
          .goto 1 [(.tmp 0), (.tmp 1), (.tmp 2), (.tmp 3), (.tmp 17)])
          (.goto 1 [(.tmp 0), (.tmp 1), (.tmp 2), (.tmp 3), (.tmp 5)]))
        (.goto 1 [(.tmp 0), (.tmp 1), (.tmp 2), (.tmp 3), (.tmp 5)]))
      l_slices_siftDownOrdered_int32_k0)
def l_slices_siftDownOrdered_int32 : LFn := ⟨4,
    .loop 0 [(.tmp 0), (.tmp 2), (.tmp 3), (.tmp 1)] l_slices_siftDownOrdered_int32_k1⟩
/-! slices.nextPowerOfTwo -/
def l_slices_nextPowerOfTwo : LFn := ⟨1,
    o (.conv .u64 (.tmp 0)) <|
    om .pure (.call F_math_bits_Len [(.tmp 1)]) <|
    o (.bin .shl (.const (.int .u64 1)) (.tmp 2)) <|
    .ret [(.tmp 3)]⟩
/-! (*slices.xorshift).Next -/
def l_slices_xorshift_Next : LFn := ⟨1,
    o (.nilck (.tmp 0)) <|
    o (.load false 1 (.tmp 1)) <|
    o (.nilck (.tmp 0)) <|
    o (.load false 1 (.tmp 3)) <|
    o (.bin .shl (.tmp 4) (.const (.int .u64 13))) <|
    o (.bin .xor (.tmp 2) (.tmp 5)) <|
    o (.nilck (.tmp 0)) <|
    o (.store 1 (.tmp 7) (.tmp 6)) <|
    o (.nilck (.tmp 0)) <|
    o (.load false 1 (.tmp 9)) <|
    o (.nilck (.tmp 0)) <|
    o (.load false 1 (.tmp 11)) <|
    o (.bin .shr (.tmp 12) (.const (.int .u64 7))) <|
    o (.bin .xor (.tmp 10) (.tmp 13)) <|
    o (.nilck (.tmp 0)) <|
    o (.store 1 (.tmp 15) (.tmp 14)) <|
    o (.nilck (.tmp 0)) <|
    o (.load false 1 (.tmp 17)) <|
    o (.nilck (.tmp 0)) <|
    o (.load false 1 (.tmp 19)) <|
    o (.bin .shl (.tmp 20) (.const (.int .u64 17))) <|
    o (.bin .xor (.tmp 18) (.tmp 21)) <|
    o (.nilck (.tmp 0)) <|
    o (.store 1 (.tmp 23) (.tmp 22)) <|
    o (.nilck (.tmp 0)) <|
    o (.load false 1 (.tmp 25)) <|
    .ret [(.tmp 26)]⟩
/-! slices.medianAdjacentOrdered[int32] -/
def l_slices_medianAdjacentOrdered_int32 : LFn := ⟨3,
    o (.bin .sub (.tmp 1) (.const (.int .i64 1))) <|
    o (.bin .add (.tmp 1) (.const (.int .i64 1))) <|
    o (.call F_slices_medianOrdered_int32 [(.tmp 0), (.tmp 3), (.tmp 1), (.tmp 4), (.tmp 2)]) <|
    .ret [(.tmp 5)]⟩
/-! slices.medianOrdered[int32] -/
def l_slices_medianOrdered_int32 : LFn := ⟨5,
    o (.call F_slices_order2Ordered_int32 [(.tmp 0), (.tmp 1), (.tmp 2), (.tmp 4)]) <|
    o (.ext (.tmp 5) 0) <|
    o (.ext (.tmp 5) 1) <|
    o (.call F_slices_order2Ordered_int32 [(.tmp 0), (.tmp 7), (.tmp 3), (.tmp 4)]) <|
    o (.ext (.tmp 8) 0) <|
    o (.ext (.tmp 8) 1) <|
    o (.call F_slices_order2Ordered_int32 [(.tmp 0), (.tmp 6), (.tmp 9), (.tmp 4)]) <|
    o (.ext (.tmp 11) 0) <|
    o (.ext (.tmp 11) 1) <|
    .ret [(.tmp 13)]⟩
/-! cmp.isNaN[int32] -/
def l_cmp_isNaN_int32 : LFn := ⟨1,
    o (.bin .neq (.tmp 0) (.tmp 0)) <|
    .ret [(.tmp 1)]⟩
/-! slices.order2Ordered[int32] -/
def l_slices_order2Ordered_int32 : LFn := ⟨4,
    o (.iaddr 1 (.tmp 0) (.tmp 2)) <|
    o (.load false 1 (.tmp 4)) <|
    o (.iaddr 1 (.tmp 0) (.tmp 1)) <|
    o (.load false 1 (.tmp 6)) <|
    om .pure (.call F_cmp_Less_int32 [(.tmp 5), (.tmp 7)]) <|
    .ite (.tmp 8)
      (o (.nilck (.tmp 3)) <|
      o (.load false 1 (.tmp 9)) <|
      o (.bin .add (.tmp 10) (.const (.int .i64 1))) <|
      o (.nilck (.tmp 3)) <|
      o (.store 1 (.tmp 12) (.tmp 11)) <|
      .ret [(.tmp 2), (.tmp 1)])
      (.ret [(.tmp 1), (.tmp 2)])⟩
def mdT : FuncId → FuncId → Md := mdOf 1228360646648 [(8, 17), (8, 20), (16, 17), (20, 22), (22, 24), (22, 25), (22, 26), (22, 27), (22, 28), (22, 29), (22, 31), (22, 32), (22, 22), (25, 35)]
def zcT : TypeId → Option (List Value)
  | 3 => some [(.int .i64 0)]
  | 21 => some [(.int .i32 0)]
  | 26 => some [(.int .u64 0)]
  | 64 => some [(.int .u64 0)]
  | _ => none
def zvT : TypeId → Option Value
  | _ => none
def coT : TypeId → Option Nat
  | 26 => some 1
  | _ => none

def fnL : List (FuncId × LFn) := [(3, l_law03_DiceRolls), (4, l_law03_DiceBounds), (5, l_law03_DiceSplits), (6, l_law03_DiceSkips), (7, l_law03_DiceOrders), (8, l_law03_DiceShuffles), (9, l_law03_awake), (10, l_dice_Dice_Next), (11, l_ref03_Next), (12, l_dice_Dice_Below), (13, l_ref03_Below), (14, l_dice_Dice_Split), (15, l_dice_Dice_Skip), (16, l_dice_Dice_Shuffle), (17, l_slices_Clone_Lint32_int32), (18, l_ref03_Shuffle), (19, l_slices_Equal_Lint32_int32), (20, l_slices_Sort_Lint32_int32), (21, l_dice_mixed), (22, l_slices_pdqsortOrdered_int32), (23, l_math_bits_Len), (24, l_slices_insertionSortOrdered_int32), (25, l_slices_heapSortOrdered_int32), (26, l_slices_breakPatternsOrdered_int32), (27, l_slices_choosePivotOrdered_int32), (28, l_slices_reverseRangeOrdered_int32), (29, l_slices_partialInsertionSortOrdered_int32), (30, l_cmp_Less_int32), (31, l_slices_partitionEqualOrdered_int32), (32, l_slices_partitionOrdered_int32), (35, l_slices_siftDownOrdered_int32), (36, l_slices_nextPowerOfTwo), (37, l_slices_xorshift_Next), (38, l_slices_medianAdjacentOrdered_int32), (39, l_slices_medianOrdered_int32), (40, l_cmp_isNaN_int32), (41, l_slices_order2Ordered_int32)]
def fnT (f : FuncId) : Option LFn := lkF fnL f
noncomputable def BI : IBook := { zc := zcT, zv := zvT, co := coT, fn := fnT, md := mdT 0, given := fun _ => none }
theorem fn_law03_DiceRolls : BI.fn F_law03_DiceRolls = some l_law03_DiceRolls := by kernel_rfl
theorem fn_law03_DiceBounds : BI.fn F_law03_DiceBounds = some l_law03_DiceBounds := by kernel_rfl
theorem fn_law03_DiceSplits : BI.fn F_law03_DiceSplits = some l_law03_DiceSplits := by kernel_rfl
theorem fn_law03_DiceSkips : BI.fn F_law03_DiceSkips = some l_law03_DiceSkips := by kernel_rfl
theorem fn_law03_DiceOrders : BI.fn F_law03_DiceOrders = some l_law03_DiceOrders := by kernel_rfl
theorem fn_law03_DiceShuffles : BI.fn F_law03_DiceShuffles = some l_law03_DiceShuffles := by kernel_rfl
theorem fn_law03_awake : BI.fn F_law03_awake = some l_law03_awake := by kernel_rfl
theorem fn_dice_Dice_Next : BI.fn F_dice_Dice_Next = some l_dice_Dice_Next := by kernel_rfl
theorem fn_ref03_Next : BI.fn F_ref03_Next = some l_ref03_Next := by kernel_rfl
theorem fn_dice_Dice_Below : BI.fn F_dice_Dice_Below = some l_dice_Dice_Below := by kernel_rfl
theorem fn_ref03_Below : BI.fn F_ref03_Below = some l_ref03_Below := by kernel_rfl
theorem fn_dice_Dice_Split : BI.fn F_dice_Dice_Split = some l_dice_Dice_Split := by kernel_rfl
theorem fn_dice_Dice_Skip : BI.fn F_dice_Dice_Skip = some l_dice_Dice_Skip := by kernel_rfl
theorem fn_dice_Dice_Shuffle : BI.fn F_dice_Dice_Shuffle = some l_dice_Dice_Shuffle := by kernel_rfl
theorem fn_slices_Clone_Lint32_int32 : BI.fn F_slices_Clone_Lint32_int32 = some l_slices_Clone_Lint32_int32 := by kernel_rfl
theorem fn_ref03_Shuffle : BI.fn F_ref03_Shuffle = some l_ref03_Shuffle := by kernel_rfl
theorem fn_slices_Equal_Lint32_int32 : BI.fn F_slices_Equal_Lint32_int32 = some l_slices_Equal_Lint32_int32 := by kernel_rfl
theorem fn_slices_Sort_Lint32_int32 : BI.fn F_slices_Sort_Lint32_int32 = some l_slices_Sort_Lint32_int32 := by kernel_rfl
theorem fn_dice_mixed : BI.fn F_dice_mixed = some l_dice_mixed := by kernel_rfl
theorem fn_slices_pdqsortOrdered_int32 : BI.fn F_slices_pdqsortOrdered_int32 = some l_slices_pdqsortOrdered_int32 := by kernel_rfl
theorem fn_math_bits_Len : BI.fn F_math_bits_Len = some l_math_bits_Len := by kernel_rfl
theorem fn_slices_insertionSortOrdered_int32 : BI.fn F_slices_insertionSortOrdered_int32 = some l_slices_insertionSortOrdered_int32 := by kernel_rfl
theorem fn_slices_heapSortOrdered_int32 : BI.fn F_slices_heapSortOrdered_int32 = some l_slices_heapSortOrdered_int32 := by kernel_rfl
theorem fn_slices_breakPatternsOrdered_int32 : BI.fn F_slices_breakPatternsOrdered_int32 = some l_slices_breakPatternsOrdered_int32 := by kernel_rfl
theorem fn_slices_choosePivotOrdered_int32 : BI.fn F_slices_choosePivotOrdered_int32 = some l_slices_choosePivotOrdered_int32 := by kernel_rfl
theorem fn_slices_reverseRangeOrdered_int32 : BI.fn F_slices_reverseRangeOrdered_int32 = some l_slices_reverseRangeOrdered_int32 := by kernel_rfl
theorem fn_slices_partialInsertionSortOrdered_int32 : BI.fn F_slices_partialInsertionSortOrdered_int32 = some l_slices_partialInsertionSortOrdered_int32 := by kernel_rfl
theorem fn_cmp_Less_int32 : BI.fn F_cmp_Less_int32 = some l_cmp_Less_int32 := by kernel_rfl
theorem fn_slices_partitionEqualOrdered_int32 : BI.fn F_slices_partitionEqualOrdered_int32 = some l_slices_partitionEqualOrdered_int32 := by kernel_rfl
theorem fn_slices_partitionOrdered_int32 : BI.fn F_slices_partitionOrdered_int32 = some l_slices_partitionOrdered_int32 := by kernel_rfl
theorem fn_slices_siftDownOrdered_int32 : BI.fn F_slices_siftDownOrdered_int32 = some l_slices_siftDownOrdered_int32 := by kernel_rfl
theorem fn_slices_nextPowerOfTwo : BI.fn F_slices_nextPowerOfTwo = some l_slices_nextPowerOfTwo := by kernel_rfl
theorem fn_slices_xorshift_Next : BI.fn F_slices_xorshift_Next = some l_slices_xorshift_Next := by kernel_rfl
theorem fn_slices_medianAdjacentOrdered_int32 : BI.fn F_slices_medianAdjacentOrdered_int32 = some l_slices_medianAdjacentOrdered_int32 := by kernel_rfl
theorem fn_slices_medianOrdered_int32 : BI.fn F_slices_medianOrdered_int32 = some l_slices_medianOrdered_int32 := by kernel_rfl
theorem fn_cmp_isNaN_int32 : BI.fn F_cmp_isNaN_int32 = some l_cmp_isNaN_int32 := by kernel_rfl
theorem fn_slices_order2Ordered_int32 : BI.fn F_slices_order2Ordered_int32 = some l_slices_order2Ordered_int32 := by kernel_rfl
end Go.Proofs.Ytdclinhgekbejaa.G
