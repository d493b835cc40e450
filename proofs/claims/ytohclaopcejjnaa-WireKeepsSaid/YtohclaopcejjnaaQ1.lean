import Derived.Test.YtohclaopcejjnaaQ0
import Derived.KernelRfl
namespace Go.Proofs.Ytohclaopcejjnaa.G
open Go
abbrev F_law18_WirePlays : FuncId := 3
abbrev F_law18_WireOwns : FuncId := 4
abbrev F_law18_WireCounts : FuncId := 5
abbrev F_law18_WireKeeps : FuncId := 6
abbrev F_law18_WireLate : FuncId := 7
abbrev F_law18_WireSpoils : FuncId := 8
abbrev F_law18_awake : FuncId := 9
abbrev F_law18_few : FuncId := 10
abbrev F_wire_Wire_Put : FuncId := 11
abbrev F_ref18_Put : FuncId := 12
abbrev F_wire_Wire_Waiting : FuncId := 13
abbrev F_ref18_Waiting : FuncId := 14
abbrev F_ref13_Same : FuncId := 15
abbrev F_wire_Wire_Take : FuncId := 16
abbrev F_ref18_Take : FuncId := 17
abbrev F_ref01_Cut : FuncId := 18
abbrev F_ref01_Join : FuncId := 19
abbrev F_ref01_Same : FuncId := 20
abbrev F_wire_Spoil : FuncId := 21
abbrev F_ref18_Spoil : FuncId := 22
abbrev F_wire_Fault_Right : FuncId := 23
abbrev F_ref02_Seal : FuncId := 24
abbrev F_ref02_Open : FuncId := 25
abbrev F_wire_Fault_times : FuncId := 26
abbrev F_bytes_Clone : FuncId := 27
abbrev F_slices_DeleteFunc_Lwire_waiting_wire_waiting : FuncId := 28
abbrev F_wire_Wire_Take_1 : FuncId := 29
abbrev F_ref02_Turned : FuncId := 30
abbrev F_ref01_Low : FuncId := 31
abbrev F_ref02_Sum : FuncId := 32
abbrev F_ref01_Value : FuncId := 33
abbrev F_slices_IndexFunc_Lwire_waiting_wire_waiting : FuncId := 34
/-! hoodwink/hoodwinklaw18.WirePlays -/
def l_law18_WirePlays_k0 : L :=
  o (.bin .lss (.tmp 4) (.tmp 3)) <|
  .ite (.tmp 5)
    (o (.iaddr 2 (.tmp 2) (.tmp 4)) <|
    o (.load true 2 (.tmp 6)) <|
    o (.new 34) <|
    o (.store 2 (.tmp 8) (.tmp 7)) <|
    o (.bin .geq (.tmp 4) (.const (.int .i64 20))) <|
    .ite (.tmp 10)
      (.goto 0 [])
      (o (.load true 2 (.tmp 8)) <|
      om .pure (.call F_law18_few [(.tmp 11)]) <|
      o (.ext (.tmp 12) 0) <|
      o (.ext (.tmp 12) 1) <|
      o (.new 34) <|
      o (.store 2 (.tmp 15) (.tmp 13)) <|
      o (.faddr 0 (.tmp 15)) <|
      o (.load false 1 (.tmp 17)) <|
      o (.faddr 1 (.tmp 15)) <|
      o (.load false 1 (.tmp 19)) <|
      o (.call F_wire_Wire_Put [(.tmp 0), (.tmp 18), (.tmp 20)]) <|
      o (.faddr 0 (.tmp 15)) <|
      o (.load false 1 (.tmp 22)) <|
      o (.call F_ref18_Put [(.tmp 1), (.tmp 23), (.tmp 14)]) <|
      o (.call F_wire_Wire_Waiting [(.tmp 0)]) <|
      o (.call F_ref18_Waiting [(.tmp 1)]) <|
      o (.bin .neq (.tmp 25) (.tmp 26)) <|
      .ite (.tmp 27)
        (.ret [(.const (.bool false))])
        (o (.call F_wire_Wire_Take [(.tmp 0)]) <|
        o (.call F_ref18_Take [(.tmp 1)]) <|
        om .pure (.call F_ref13_Same [(.tmp 28), (.tmp 29)]) <|
        o (.un .not (.tmp 30)) <|
        .ite (.tmp 31)
          (.ret [(.const (.bool false))])
          (o (.call F_wire_Wire_Waiting [(.tmp 0)]) <|
          o (.call F_ref18_Waiting [(.tmp 1)]) <|
          o (.bin .neq (.tmp 32) (.tmp 33)) <|
          .ite (.tmp 34)
            (.ret [(.const (.bool false))])
            (o (.bin .add (.tmp 4) (.const (.int .i64 1))) <|
            .goto 1 [(.tmp 0), (.tmp 1), (.tmp 2), (.tmp 3), (.tmp 35)])))))
    (.goto 0 [])
def l_law18_WirePlays_k1 : L :=
  .ret [(.const (.bool true))]
def l_law18_WirePlays : LFn := ⟨1,
    om .pure (.call F_law18_awake []) <|
    o (.un .not (.tmp 1)) <|
    .ite (.tmp 2)
      (.ret [(.const (.bool false))])
      (o (.new 26) <|
      o (.build 30 []) <|
      o (.box 30 (.tmp 4)) <|
      .join 0
        (o (.len false (.tmp 0)) <|
        .loop 1 [(.tmp 3), (.tmp 5), (.tmp 0), (.tmp 6), (.const (.int .i64 0))] l_law18_WirePlays_k0)
        l_law18_WirePlays_k1)⟩
/-! hoodwink/hoodwinklaw18.WireOwns -/
def l_law18_WireOwns_k0 : L :=
  o (.bin .lss (.tmp 4) (.tmp 3)) <|
  .ite (.tmp 5)
    (o (.iaddr 1 (.tmp 1) (.tmp 4)) <|
    o (.load false 1 (.tmp 6)) <|
    o (.bin .add (.tmp 7) (.const (.int .u8 1))) <|
    o (.iaddr 1 (.tmp 1) (.tmp 4)) <|
    o (.store 1 (.tmp 9) (.tmp 8)) <|
    o (.bin .add (.tmp 4) (.const (.int .i64 1))) <|
    .goto 1 [(.tmp 0), (.tmp 1), (.tmp 2), (.tmp 3), (.tmp 11)])
    (.goto 0 [(.tmp 0), (.tmp 2)])
def l_law18_WireOwns_k1 : L :=
  o (.bin .lss (.tmp 3) (.tmp 2)) <|
  .ite (.tmp 4)
    (o (.iaddr 1 (.tmp 1) (.const (.int .i64 0))) <|
    o (.load false 1 (.tmp 5)) <|
    o (.iaddr 1 (.tmp 6) (.tmp 3)) <|
    o (.load false 1 (.tmp 7)) <|
    o (.bin .add (.tmp 8) (.const (.int .u8 1))) <|
    o (.iaddr 1 (.tmp 6) (.tmp 3)) <|
    o (.store 1 (.tmp 10) (.tmp 9)) <|
    o (.bin .add (.tmp 3) (.const (.int .i64 1))) <|
    .goto 3 [(.tmp 0), (.tmp 1), (.tmp 2), (.tmp 12)])
    (.goto 2 [(.tmp 0), (.tmp 1)])
def l_law18_WireOwns_k2 : L :=
  o (.bslice 46 1 [(0, 1, (.tmp 0))]) <|
  o (.call F_wire_Wire_Put [(.const (.pointer none)), (.tmp 2), (.const (.slice none 0 0))]) <|
  o (.iaddr 1 (.tmp 1) (.const (.int .i64 1))) <|
  o (.load false 1 (.tmp 4)) <|
  om .pure (.call F_ref01_Same [(.tmp 5), (.tmp 0)]) <|
  .ite (.tmp 6)
    (o (.call F_wire_Wire_Take [(.const (.pointer none))]) <|
    o (.len false (.tmp 7)) <|
    o (.call F_wire_Wire_Waiting [(.const (.pointer none))]) <|
    o (.bin .add (.tmp 8) (.tmp 9)) <|
    o (.bin .eql (.tmp 10) (.const (.int .i64 0))) <|
    .ret [(.tmp 11)])
    (.ret [(.const (.bool false))])
def l_law18_WireOwns_k3 : L :=
  .join 2
    (o (.iaddr 1 (.tmp 1) (.const (.int .i64 0))) <|
    o (.load false 1 (.tmp 2)) <|
    o (.len false (.tmp 3)) <|
    .loop 3 [(.tmp 0), (.tmp 1), (.tmp 4), (.const (.int .i64 0))] l_law18_WireOwns_k1)
    l_law18_WireOwns_k2
def l_law18_WireOwns_k4 : L :=
  o (.call F_wire_Wire_Take [(.tmp 1)]) <|
  .join 1
    (o (.len false (.tmp 2)) <|
    o (.bin .neq (.tmp 3) (.const (.int .i64 3))) <|
    .ite (.tmp 4)
      (.ret [(.const (.bool false))])
      (o (.iaddr 1 (.tmp 2) (.const (.int .i64 0))) <|
      o (.load false 1 (.tmp 5)) <|
      om .pure (.call F_ref01_Same [(.tmp 6), (.tmp 0)]) <|
      o (.un .not (.tmp 7)) <|
      .ite (.tmp 8)
        (.ret [(.const (.bool false))])
        (o (.iaddr 1 (.tmp 2) (.const (.int .i64 2))) <|
        o (.load false 1 (.tmp 9)) <|
        om .pure (.call F_ref01_Same [(.tmp 10), (.tmp 0)]) <|
        o (.un .not (.tmp 11)) <|
        .ite (.tmp 12)
          (.ret [(.const (.bool false))])
          (.goto 1 [(.tmp 0), (.tmp 2)]))))
    l_law18_WireOwns_k3
def l_law18_WireOwns : LFn := ⟨1,
    om .pure (.call F_law18_awake []) <|
    o (.un .not (.tmp 1)) <|
    .ite (.tmp 2)
      (.ret [(.const (.bool false))])
      (om .pure (.call F_ref01_Cut [(.tmp 0), (.const (.int .i64 20))]) <|
      o (.bslice 46 1 [(0, 1, (.tmp 3))]) <|
      om .pure (.call F_ref01_Join [(.tmp 4)]) <|
      o (.new 26) <|
      o (.bslice 46 2 [(0, 1, (.tmp 5)), (1, 1, (.tmp 5))]) <|
      o (.build 52 [(0, 1, (.const (.int .u8 2)))]) <|
      o (.bslice 52 1 [(0, 3, (.tmp 8))]) <|
      o (.call F_wire_Wire_Put [(.tmp 6), (.tmp 7), (.tmp 9)]) <|
      .join 0
        (o (.len false (.tmp 5)) <|
        .loop 1 [(.tmp 3), (.tmp 5), (.tmp 6), (.tmp 11), (.const (.int .i64 0))] l_law18_WireOwns_k0)
        l_law18_WireOwns_k4)⟩
/-! hoodwink/hoodwinklaw18.WireCounts -/
def l_law18_WireCounts_k0 : L :=
  o (.bin .lss (.tmp 5) (.tmp 4)) <|
  .ite (.tmp 6)
    (o (.iaddr 3 (.tmp 3) (.tmp 5)) <|
    o (.load true 3 (.tmp 7)) <|
    o (.new 52) <|
    o (.store 3 (.tmp 9) (.tmp 8)) <|
    o (.faddr 0 (.tmp 0)) <|
    o (.load false 1 (.tmp 11)) <|
    o (.len false (.tmp 12)) <|
    o (.bin .lss (.tmp 5) (.tmp 13)) <|
    .ite (.tmp 14)
      (o (.faddr 0 (.tmp 9)) <|
      o (.load false 1 (.tmp 15)) <|
      o (.bin .eql (.tmp 16) (.const (.int .u8 1))) <|
      .ite (.tmp 17)
        (o (.bin .sub (.tmp 2) (.const (.int .i64 1))) <|
        o (.bin .add (.tmp 5) (.const (.int .i64 1))) <|
        .goto 1 [(.tmp 0), (.tmp 1), (.tmp 18), (.tmp 3), (.tmp 4), (.tmp 19)])
        (o (.bin .eql (.tmp 16) (.const (.int .u8 2))) <|
        .ite (.tmp 18)
          (o (.bin .add (.tmp 2) (.const (.int .i64 1))) <|
          o (.bin .add (.tmp 5) (.const (.int .i64 1))) <|
          .goto 1 [(.tmp 0), (.tmp 1), (.tmp 19), (.tmp 3), (.tmp 4), (.tmp 20)])
          (o (.bin .add (.tmp 5) (.const (.int .i64 1))) <|
          .goto 1 [(.tmp 0), (.tmp 1), (.tmp 2), (.tmp 3), (.tmp 4), (.tmp 19)])))
      (o (.bin .add (.tmp 5) (.const (.int .i64 1))) <|
      .goto 1 [(.tmp 0), (.tmp 1), (.tmp 2), (.tmp 3), (.tmp 4), (.tmp 15)]))
    (.goto 0 [(.tmp 1), (.tmp 2)])
def l_law18_WireCounts_k1 : L :=
  o (.call F_wire_Wire_Waiting [(.tmp 0)]) <|
  o (.call F_wire_Wire_Take [(.tmp 0)]) <|
  o (.len false (.tmp 3)) <|
  o (.call F_wire_Wire_Take [(.tmp 0)]) <|
  o (.len false (.tmp 5)) <|
  o (.bin .add (.tmp 4) (.tmp 6)) <|
  o (.call F_wire_Wire_Take [(.tmp 0)]) <|
  o (.len false (.tmp 8)) <|
  o (.bin .add (.tmp 7) (.tmp 9)) <|
  o (.bin .eql (.tmp 2) (.tmp 1)) <|
  .ite (.tmp 11)
    (o (.bin .eql (.tmp 10) (.tmp 1)) <|
    .ite (.tmp 12)
      (o (.call F_wire_Wire_Waiting [(.tmp 0)]) <|
      o (.bin .eql (.tmp 13) (.const (.int .i64 0))) <|
      .ite (.tmp 14)
        (o (.call F_wire_Wire_Take [(.tmp 0)]) <|
        o (.len false (.tmp 15)) <|
        o (.bin .eql (.tmp 16) (.const (.int .i64 0))) <|
        .ret [(.tmp 17)])
        (.ret [(.const (.bool false))]))
      (.ret [(.const (.bool false))]))
    (.ret [(.const (.bool false))])
def l_law18_WireCounts : LFn := ⟨1,
    o (.box 34 (.tmp 0)) <|
    om .pure (.call F_law18_awake []) <|
    o (.un .not (.tmp 2)) <|
    .ite (.tmp 3)
      (.ret [(.const (.bool false))])
      (o (.load true 2 (.tmp 1)) <|
      om .pure (.call F_law18_few [(.tmp 4)]) <|
      o (.ext (.tmp 5) 0) <|
      o (.ext (.tmp 5) 1) <|
      o (.store 2 (.tmp 1) (.tmp 6)) <|
      o (.new 26) <|
      o (.faddr 0 (.tmp 1)) <|
      o (.load false 1 (.tmp 10)) <|
      o (.faddr 1 (.tmp 1)) <|
      o (.load false 1 (.tmp 12)) <|
      o (.call F_wire_Wire_Put [(.tmp 9), (.tmp 11), (.tmp 13)]) <|
      o (.faddr 0 (.tmp 1)) <|
      o (.load false 1 (.tmp 15)) <|
      o (.len false (.tmp 16)) <|
      .join 0
        (o (.faddr 1 (.tmp 1)) <|
        o (.load false 1 (.tmp 18)) <|
        o (.len false (.tmp 19)) <|
        .loop 1 [(.tmp 1), (.tmp 9), (.tmp 17), (.tmp 19), (.tmp 20), (.const (.int .i64 0))] l_law18_WireCounts_k0)
        l_law18_WireCounts_k1)⟩
/-! hoodwink/hoodwinklaw18.WireKeeps -/
def l_law18_WireKeeps : LFn := ⟨2,
    om .pure (.call F_law18_awake []) <|
    o (.un .not (.tmp 2)) <|
    .ite (.tmp 3)
      (.ret [(.const (.bool false))])
      (o (.build 34 [(0, 1, (.tmp 0))]) <|
      om .pure (.call F_law18_few [(.tmp 4)]) <|
      o (.ext (.tmp 5) 0) <|
      o (.ext (.tmp 5) 1) <|
      o (.new 34) <|
      o (.store 2 (.tmp 8) (.tmp 6)) <|
      o (.build 34 [(0, 1, (.tmp 1))]) <|
      om .pure (.call F_law18_few [(.tmp 10)]) <|
      o (.ext (.tmp 11) 0) <|
      o (.ext (.tmp 11) 1) <|
      o (.new 34) <|
      o (.store 2 (.tmp 14) (.tmp 12)) <|
      o (.new 26) <|
      o (.faddr 0 (.tmp 8)) <|
      o (.load false 1 (.tmp 17)) <|
      o (.call F_wire_Wire_Put [(.tmp 16), (.tmp 18), (.const (.slice none 0 0))]) <|
      o (.faddr 0 (.tmp 14)) <|
      o (.load false 1 (.tmp 20)) <|
      o (.call F_wire_Wire_Put [(.tmp 16), (.tmp 21), (.const (.slice none 0 0))]) <|
      o (.bslice 46 0 []) <|
      o (.faddr 0 (.tmp 8)) <|
      o (.load false 1 (.tmp 24)) <|
      o (.faddr 0 (.tmp 14)) <|
      o (.load false 1 (.tmp 26)) <|
      oc none (.call F_wire_Wire_Take [(.tmp 16)]) .raw [(none, .load false 1 (.tmp 24)), (none, .load false 1 (.tmp 26))] <|
      oc none (.append 1 24 (.tmp 23) (.tmp 25)) .raw [(none, .load false 1 (.tmp 26))] <|
      o (.append 1 24 (.tmp 29) (.tmp 27)) <|
      om .pure (.call F_ref13_Same [(.tmp 28), (.tmp 30)]) <|
      .ite (.tmp 31)
        (o (.call F_wire_Wire_Waiting [(.tmp 16)]) <|
        o (.bin .eql (.tmp 32) (.const (.int .i64 0))) <|
        .ret [(.tmp 33)])
        (.ret [(.const (.bool false))]))⟩
/-! hoodwink/hoodwinklaw18.WireLate -/
def l_law18_WireLate_k0 : L :=
  o (.bslice 46 1 [(0, 1, (.tmp 1))]) <|
  om .pure (.call F_ref13_Same [(.tmp 2), (.tmp 5)]) <|
  .ite (.tmp 6)
    (o (.bslice 46 1 [(0, 1, (.tmp 1))]) <|
    om .pure (.call F_ref13_Same [(.tmp 3), (.tmp 7)]) <|
    .ite (.tmp 8)
      (o (.bslice 46 1 [(0, 1, (.tmp 0))]) <|
      om .pure (.call F_ref13_Same [(.tmp 4), (.tmp 9)]) <|
      .ret [(.tmp 10)])
      (.ret [(.const (.bool false))]))
    (.ret [(.const (.bool false))])
def l_law18_WireLate : LFn := ⟨3,
    om .pure (.call F_law18_awake []) <|
    o (.un .not (.tmp 3)) <|
    .ite (.tmp 4)
      (.ret [(.const (.bool false))])
      (om .pure (.call F_ref01_Cut [(.tmp 0), (.const (.int .i64 20))]) <|
      om .pure (.call F_ref01_Cut [(.tmp 1), (.const (.int .i64 20))]) <|
      o (.new 26) <|
      o (.bslice 5 2 [(0, 1, (.const (.int .u8 3))), (1, 1, (.const (.int .u8 5)))]) <|
      o (.bin .rem (.tmp 2) (.const (.int .u8 2))) <|
      o (.iaddr 1 (.tmp 8) (.tmp 9)) <|
      o (.load false 1 (.tmp 10)) <|
      o (.bslice 46 2 [(0, 1, (.tmp 5)), (1, 1, (.tmp 6))]) <|
      o (.build 52 [(0, 1, (.tmp 11))]) <|
      o (.bslice 52 1 [(0, 3, (.tmp 13))]) <|
      o (.call F_wire_Wire_Put [(.tmp 7), (.tmp 12), (.tmp 14)]) <|
      o (.call F_wire_Wire_Take [(.tmp 7)]) <|
      o (.bslice 46 1 [(0, 1, (.tmp 6))]) <|
      o (.call F_wire_Wire_Put [(.tmp 7), (.tmp 17), (.const (.slice none 0 0))]) <|
      o (.call F_wire_Wire_Take [(.tmp 7)]) <|
      o (.call F_wire_Wire_Take [(.tmp 7)]) <|
      .join 0
        (o (.bin .eql (.tmp 11) (.const (.int .u8 3))) <|
        .ite (.tmp 21)
          (o (.bslice 46 1 [(0, 1, (.tmp 6))]) <|
          om .pure (.call F_ref13_Same [(.tmp 16), (.tmp 22)]) <|
          .ite (.tmp 23)
            (o (.bslice 46 2 [(0, 1, (.tmp 5)), (1, 1, (.tmp 6))]) <|
            om .pure (.call F_ref13_Same [(.tmp 19), (.tmp 24)]) <|
            .ite (.tmp 25)
              (o (.len false (.tmp 20)) <|
              o (.bin .eql (.tmp 26) (.const (.int .i64 0))) <|
              .ret [(.tmp 27)])
              (.ret [(.const (.bool false))]))
            (.ret [(.const (.bool false))]))
          (.goto 0 [(.tmp 5), (.tmp 6), (.tmp 16), (.tmp 19), (.tmp 20)]))
        l_law18_WireLate_k0)⟩
/-! hoodwink/hoodwinklaw18.WireSpoils -/
def l_law18_WireSpoils_k0 : L :=
  o (.len false (.tmp 0)) <|
  o (.bin .eql (.tmp 3) (.const (.int .i64 0))) <|
  .ite (.tmp 4)
    (o (.len false (.tmp 2)) <|
    o (.bin .eql (.tmp 5) (.const (.int .i64 0))) <|
    .ret [(.tmp 6)])
    (om .pure (.call F_ref02_Seal [(.tmp 0)]) <|
    o (.load true 3 (.tmp 1)) <|
    om .pure (.call F_wire_Spoil [(.tmp 5), (.tmp 6)]) <|
    om .pure (.call F_ref01_Same [(.tmp 5), (.tmp 7)]) <|
    .ite (.tmp 8)
      (.ret [(.const (.bool true))])
      (om .pure (.call F_ref02_Open [(.tmp 7)]) <|
      o (.un .not (.tmp 9)) <|
      .ret [(.tmp 10)]))
def l_law18_WireSpoils : LFn := ⟨2,
    o (.box 52 (.tmp 1)) <|
    om .pure (.call F_law18_awake []) <|
    o (.un .not (.tmp 3)) <|
    .ite (.tmp 4)
      (.ret [(.const (.bool false))])
      (om .pure (.call F_ref01_Cut [(.tmp 0), (.const (.int .i64 60))]) <|
      o (.load true 3 (.tmp 2)) <|
      om .pure (.call F_wire_Spoil [(.tmp 5), (.tmp 6)]) <|
      .join 0
        (o (.load true 3 (.tmp 2)) <|
        om .pure (.call F_ref18_Spoil [(.tmp 5), (.tmp 8)]) <|
        om .pure (.call F_ref01_Same [(.tmp 7), (.tmp 9)]) <|
        o (.un .not (.tmp 10)) <|
        .ite (.tmp 11)
          (.ret [(.const (.bool false))])
          (o (.load true 3 (.tmp 2)) <|
          om .pure (.call F_wire_Spoil [(.tmp 7), (.tmp 12)]) <|
          om .pure (.call F_ref01_Same [(.tmp 13), (.tmp 5)]) <|
          o (.un .not (.tmp 14)) <|
          .ite (.tmp 15)
            (.ret [(.const (.bool false))])
            (o (.load true 3 (.tmp 2)) <|
            o (.faddr 0 (.tmp 2)) <|
            o (.load false 1 (.tmp 17)) <|
            o (.bin .lss (.tmp 18) (.const (.int .u8 6))) <|
            oc none (.call F_wire_Fault_Right [(.tmp 16)]) .pure [(none, .load false 1 (.tmp 17))] <|
            o (.eqB true (.tmp 20) (.tmp 19)) <|
            .ite (.tmp 21)
              (.ret [(.const (.bool false))])
              (.goto 0 [(.tmp 5), (.tmp 2), (.tmp 7)]))))
        l_law18_WireSpoils_k0)⟩
/-! hoodwink/hoodwinklaw18.awake -/
def l_law18_awake : LFn := ⟨0,
    o (.new 26) <|
    o (.bslice 5 1 [(0, 1, (.const (.int .u8 1)))]) <|
    o (.bslice 5 1 [(0, 1, (.const (.int .u8 2)))]) <|
    o (.bslice 46 2 [(0, 1, (.tmp 1)), (1, 1, (.tmp 2))]) <|
    o (.build 52 [(0, 1, (.const (.int .u8 3)))]) <|
    o (.bslice 52 1 [(0, 3, (.tmp 4))]) <|
    o (.call F_wire_Wire_Put [(.tmp 0), (.tmp 3), (.tmp 5)]) <|
    o (.call F_wire_Wire_Take [(.tmp 0)]) <|
    o (.call F_wire_Wire_Take [(.tmp 0)]) <|
    o (.len false (.tmp 7)) <|
    o (.bin .eql (.tmp 9) (.const (.int .i64 1))) <|
    .ite (.tmp 10)
      (o (.iaddr 1 (.tmp 7) (.const (.int .i64 0))) <|
      o (.load false 1 (.tmp 11)) <|
      o (.iaddr 1 (.tmp 12) (.const (.int .i64 0))) <|
      o (.load false 1 (.tmp 13)) <|
      o (.bin .eql (.tmp 14) (.const (.int .u8 2))) <|
      .ite (.tmp 15)
        (o (.len false (.tmp 8)) <|
        o (.bin .eql (.tmp 16) (.const (.int .i64 1))) <|
        .ite (.tmp 17)
          (o (.iaddr 1 (.tmp 8) (.const (.int .i64 0))) <|
          o (.load false 1 (.tmp 18)) <|
          o (.iaddr 1 (.tmp 19) (.const (.int .i64 0))) <|
          o (.load false 1 (.tmp 20)) <|
          o (.bin .eql (.tmp 21) (.const (.int .u8 1))) <|
          .ite (.tmp 22)
            (o (.call F_wire_Wire_Waiting [(.tmp 0)]) <|
            o (.bin .eql (.tmp 23) (.const (.int .i64 0))) <|
            .ret [(.tmp 24)])
            (.ret [(.const (.bool false))]))
          (.ret [(.const (.bool false))]))
        (.ret [(.const (.bool false))]))
      (.ret [(.const (.bool false))])⟩
/-! hoodwink/hoodwinklaw18.few -/
def l_law18_few_k0 : L :=
  o (.bin .lss (.tmp 5) (.tmp 4)) <|
  .ite (.tmp 6)
    (o (.iaddr 1 (.tmp 3) (.tmp 5)) <|
    o (.load false 1 (.tmp 7)) <|
    o (.bin .lss (.tmp 5) (.const (.int .i64 8))) <|
    .ite (.tmp 9)
      (o (.faddr 0 (.tmp 2)) <|
      o (.load false 1 (.tmp 10)) <|
      oc none (.call F_ref01_Cut [(.tmp 8), (.const (.int .i64 40))]) .pure [(none, .load false 1 (.tmp 10))] <|
      o (.bslice 46 1 [(0, 1, (.tmp 12))]) <|
      o (.append 1 24 (.tmp 11) (.tmp 13)) <|
      o (.faddr 0 (.tmp 2)) <|
      o (.store 1 (.tmp 15) (.tmp 14)) <|
      o (.bin .add (.tmp 5) (.const (.int .i64 1))) <|
      .goto 1 [(.tmp 0), (.tmp 1), (.tmp 2), (.tmp 3), (.tmp 4), (.tmp 17)])
      (o (.bin .add (.tmp 5) (.const (.int .i64 1))) <|
      .goto 1 [(.tmp 0), (.tmp 1), (.tmp 2), (.tmp 3), (.tmp 4), (.tmp 10)]))
    (.goto 0 [(.tmp 0), (.tmp 1), (.tmp 2)])
def l_law18_few_k1 : L :=
  o (.bin .lss (.tmp 5) (.tmp 4)) <|
  .ite (.tmp 6)
    (o (.iaddr 3 (.tmp 3) (.tmp 5)) <|
    o (.load true 3 (.tmp 7)) <|
    o (.new 52) <|
    o (.store 3 (.tmp 9) (.tmp 8)) <|
    o (.bin .lss (.tmp 5) (.const (.int .i64 8))) <|
    .ite (.tmp 11)
      (o (.faddr 1 (.tmp 1)) <|
      o (.load false 1 (.tmp 12)) <|
      o (.load true 3 (.tmp 9)) <|
      o (.bslice 52 1 [(0, 3, (.tmp 14))]) <|
      o (.load true 3 (.tmp 9)) <|
      o (.bslice 60 1 [(0, 3, (.tmp 16))]) <|
      oc none (.append 3 8 (.tmp 13) (.tmp 15)) .raw [(none, .load true 3 (.tmp 9))] <|
      o (.faddr 1 (.tmp 1)) <|
      o (.append 3 8 (.tmp 2) (.tmp 17)) <|
      o (.store 1 (.tmp 19) (.tmp 18)) <|
      o (.bin .add (.tmp 5) (.const (.int .i64 1))) <|
      .goto 2 [(.tmp 0), (.tmp 1), (.tmp 20), (.tmp 3), (.tmp 4), (.tmp 22)])
      (o (.bin .add (.tmp 5) (.const (.int .i64 1))) <|
      .goto 2 [(.tmp 0), (.tmp 1), (.tmp 2), (.tmp 3), (.tmp 4), (.tmp 12)]))
    (.goto 1 [(.tmp 0), (.tmp 1), (.tmp 2)])
def l_law18_few_k2 : L :=
  o (.load true 2 (.tmp 1)) <|
  o (.store 2 (.tmp 0) (.tmp 3)) <|
  o (.load true 2 (.tmp 0)) <|
  .ret [(.tmp 5), (.tmp 2)]
def l_law18_few_k3 : L :=
  .join 1
    (o (.faddr 1 (.tmp 0)) <|
    o (.load false 1 (.tmp 3)) <|
    o (.len false (.tmp 4)) <|
    .loop 2 [(.tmp 1), (.tmp 2), (.const (.slice none 0 0)), (.tmp 4), (.tmp 5), (.const (.int .i64 0))] l_law18_few_k1)
    l_law18_few_k2
def l_law18_few : LFn := ⟨1,
    o (.box 34 (.tmp 0)) <|
    o (.new 34) <|
    o (.new 34) <|
    .join 0
      (o (.faddr 0 (.tmp 1)) <|
      o (.load false 1 (.tmp 4)) <|
      o (.len false (.tmp 5)) <|
      .loop 1 [(.tmp 1), (.tmp 2), (.tmp 3), (.tmp 5), (.tmp 6), (.const (.int .i64 0))] l_law18_few_k0)
      l_law18_few_k3⟩
/-! (*hoodwink/wire.Wire).Put -/
def l_wire_Wire_Put_k0 : L :=
  o (.bin .lss (.tmp 8) (.tmp 7)) <|
  .ite (.tmp 9)
    (o (.iaddr 1 (.tmp 6) (.tmp 8)) <|
    o (.load false 1 (.tmp 10)) <|
    o (.nilck (.tmp 0)) <|
    o (.faddr 0 (.tmp 12)) <|
    o (.load false 1 (.tmp 13)) <|
    oc none (.call F_bytes_Clone [(.tmp 2)]) .pure [(none, .load false 1 (.tmp 13))] <|
    o (.build 66 [(0, 1, (.tmp 15)), (1, 1, (.tmp 11))]) <|
    o (.bslice 66 1 [(0, 2, (.tmp 16))]) <|
    o (.append 2 32 (.tmp 14) (.tmp 17)) <|
    o (.nilck (.tmp 0)) <|
    o (.faddr 0 (.tmp 19)) <|
    o (.store 1 (.tmp 20) (.tmp 18)) <|
    o (.bin .add (.tmp 8) (.const (.int .i64 1))) <|
    .goto 4 [(.tmp 0), (.tmp 1), (.tmp 2), (.tmp 3), (.tmp 4), (.tmp 5), (.tmp 6), (.tmp 7), (.tmp 22)])
    (.goto 1 [(.tmp 0), (.tmp 1), (.tmp 3), (.tmp 4), (.tmp 5)])
def l_wire_Wire_Put_k1 : L :=
  o (.load true 3 (.tmp 3)) <|
  om .pure (.call F_wire_Fault_times [(.tmp 7)]) <|
  o (.len false (.tmp 8)) <|
  .loop 4 [(.tmp 0), (.tmp 1), (.tmp 2), (.tmp 4), (.tmp 5), (.tmp 6), (.tmp 8), (.tmp 9), (.const (.int .i64 0))] l_wire_Wire_Put_k0
def l_wire_Wire_Put_k2 : L :=
  .join 3
    (o (.faddr 0 (.tmp 3)) <|
    o (.load false 1 (.tmp 7)) <|
    o (.bin .eql (.tmp 8) (.const (.int .u8 4))) <|
    .ite (.tmp 9)
      (o (.load true 3 (.tmp 3)) <|
      om .pure (.call F_wire_Spoil [(.tmp 2), (.tmp 10)]) <|
      .goto 3 [(.tmp 0), (.tmp 1), (.tmp 11), (.tmp 3), (.tmp 4), (.tmp 5), (.tmp 6)])
      (.goto 3 [(.tmp 0), (.tmp 1), (.tmp 2), (.tmp 3), (.tmp 4), (.tmp 5), (.tmp 6)]))
    l_wire_Wire_Put_k1
def l_wire_Wire_Put_k3 : L :=
  o (.bin .add (.tmp 4) (.const (.int .i64 1))) <|
  .goto 0 [(.tmp 0), (.tmp 1), (.tmp 2), (.tmp 3), (.tmp 5)]
def l_wire_Wire_Put_k4 : L :=
  o (.bin .lss (.tmp 4) (.tmp 3)) <|
  .ite (.tmp 5)
    (.join 1
      (o (.iaddr 1 (.tmp 2) (.tmp 4)) <|
      o (.load false 1 (.tmp 6)) <|
      o (.new 52) <|
      .join 2
        (o (.len false (.tmp 1)) <|
        o (.bin .lss (.tmp 4) (.tmp 9)) <|
        .ite (.tmp 10)
          (o (.iaddr 3 (.tmp 1) (.tmp 4)) <|
          o (.load true 3 (.tmp 11)) <|
          o (.store 3 (.tmp 8) (.tmp 12)) <|
          .goto 2 [(.tmp 0), (.tmp 1), (.tmp 7), (.tmp 8), (.tmp 2), (.tmp 3), (.tmp 4)])
          (.goto 2 [(.tmp 0), (.tmp 1), (.tmp 7), (.tmp 8), (.tmp 2), (.tmp 3), (.tmp 4)]))
        l_wire_Wire_Put_k2)
      l_wire_Wire_Put_k3)
    (.ret [])
def l_wire_Wire_Put : LFn := ⟨3,
    o (.eqNil false .ptr (.tmp 0)) <|
    .ite (.tmp 3)
      (.ret [])
      (o (.len false (.tmp 1)) <|
      .loop 0 [(.tmp 0), (.tmp 2), (.tmp 1), (.tmp 4), (.const (.int .i64 0))] l_wire_Wire_Put_k4)⟩
/-! hoodwink/hoodwinkref18.Put -/
def l_ref18_Put_k0 : L :=
  o (.faddr 0 (.tmp 3)) <|
  o (.load false 1 (.tmp 7)) <|
  o (.bin .eql (.tmp 8) (.const (.int .u8 1))) <|
  .ite (.tmp 9)
    (o (.bin .add (.tmp 6) (.const (.int .i64 1))) <|
    .goto 0 [(.tmp 0), (.tmp 1), (.tmp 4), (.tmp 5), (.tmp 10)])
    (o (.bin .eql (.tmp 8) (.const (.int .u8 2))) <|
    .ite (.tmp 10)
      (o (.nilck (.tmp 0)) <|
      o (.faddr 0 (.tmp 11)) <|
      o (.load false 1 (.tmp 12)) <|
      o (.nilck (.tmp 0)) <|
      o (.faddr 1 (.tmp 14)) <|
      o (.load false 1 (.tmp 15)) <|
      o (.build 68 [(0, 1, (.tmp 2)), (1, 1, (.tmp 16))]) <|
      o (.nilck (.tmp 0)) <|
      o (.faddr 1 (.tmp 18)) <|
      o (.load false 1 (.tmp 19)) <|
      o (.build 68 [(0, 1, (.tmp 2)), (1, 1, (.tmp 20))]) <|
      o (.bslice 68 2 [(0, 2, (.tmp 17)), (2, 2, (.tmp 21))]) <|
      o (.append 2 32 (.tmp 13) (.tmp 22)) <|
      o (.nilck (.tmp 0)) <|
      o (.faddr 0 (.tmp 24)) <|
      o (.store 1 (.tmp 25) (.tmp 23)) <|
      o (.bin .add (.tmp 6) (.const (.int .i64 1))) <|
      .goto 0 [(.tmp 0), (.tmp 1), (.tmp 4), (.tmp 5), (.tmp 27)])
      (o (.bin .eql (.tmp 8) (.const (.int .u8 3))) <|
      .ite (.tmp 11)
        (o (.nilck (.tmp 0)) <|
        o (.faddr 0 (.tmp 12)) <|
        o (.load false 1 (.tmp 13)) <|
        o (.nilck (.tmp 0)) <|
        o (.faddr 1 (.tmp 15)) <|
        o (.load false 1 (.tmp 16)) <|
        o (.bin .add (.tmp 17) (.const (.int .i64 1))) <|
        o (.build 68 [(0, 1, (.tmp 2)), (1, 1, (.tmp 18))]) <|
        o (.bslice 68 1 [(0, 2, (.tmp 19))]) <|
        o (.append 2 32 (.tmp 14) (.tmp 20)) <|
        o (.nilck (.tmp 0)) <|
        o (.faddr 0 (.tmp 22)) <|
        o (.store 1 (.tmp 23) (.tmp 21)) <|
        o (.bin .add (.tmp 6) (.const (.int .i64 1))) <|
        .goto 0 [(.tmp 0), (.tmp 1), (.tmp 4), (.tmp 5), (.tmp 25)])
        (o (.bin .eql (.tmp 8) (.const (.int .u8 4))) <|
        .ite (.tmp 12)
          (o (.nilck (.tmp 0)) <|
          o (.faddr 0 (.tmp 13)) <|
          o (.load false 1 (.tmp 14)) <|
          o (.load true 3 (.tmp 3)) <|
          o (.nilck (.tmp 0)) <|
          o (.faddr 1 (.tmp 17)) <|
          o (.load false 1 (.tmp 18)) <|
          oc none (.call F_ref18_Spoil [(.tmp 2), (.tmp 16)]) .pure [(none, .load false 1 (.tmp 14)), (none, .load false 1 (.tmp 18))] <|
          o (.build 68 [(0, 1, (.tmp 20)), (1, 1, (.tmp 19))]) <|
          o (.bslice 68 1 [(0, 2, (.tmp 21))]) <|
          o (.append 2 32 (.tmp 15) (.tmp 22)) <|
          o (.nilck (.tmp 0)) <|
          o (.faddr 0 (.tmp 24)) <|
          o (.store 1 (.tmp 25) (.tmp 23)) <|
          o (.bin .add (.tmp 6) (.const (.int .i64 1))) <|
          .goto 0 [(.tmp 0), (.tmp 1), (.tmp 4), (.tmp 5), (.tmp 27)])
          (o (.bin .eql (.tmp 8) (.const (.int .u8 5))) <|
          .ite (.tmp 13)
            (o (.nilck (.tmp 0)) <|
            o (.faddr 0 (.tmp 14)) <|
            o (.load false 1 (.tmp 15)) <|
            o (.nilck (.tmp 0)) <|
            o (.faddr 1 (.tmp 17)) <|
            o (.load false 1 (.tmp 18)) <|
            o (.bin .add (.tmp 19) (.const (.int .i64 2))) <|
            o (.build 68 [(0, 1, (.tmp 2)), (1, 1, (.tmp 20))]) <|
            o (.bslice 68 1 [(0, 2, (.tmp 21))]) <|
            o (.append 2 32 (.tmp 16) (.tmp 22)) <|
            o (.nilck (.tmp 0)) <|
            o (.faddr 0 (.tmp 24)) <|
            o (.store 1 (.tmp 25) (.tmp 23)) <|
            o (.bin .add (.tmp 6) (.const (.int .i64 1))) <|
            .goto 0 [(.tmp 0), (.tmp 1), (.tmp 4), (.tmp 5), (.tmp 27)])
            (o (.nilck (.tmp 0)) <|
            o (.faddr 0 (.tmp 14)) <|
            o (.load false 1 (.tmp 15)) <|
            o (.nilck (.tmp 0)) <|
            o (.faddr 1 (.tmp 17)) <|
            o (.load false 1 (.tmp 18)) <|
            o (.build 68 [(0, 1, (.tmp 2)), (1, 1, (.tmp 19))]) <|
            o (.bslice 68 1 [(0, 2, (.tmp 20))]) <|
            o (.append 2 32 (.tmp 16) (.tmp 21)) <|
            o (.nilck (.tmp 0)) <|
            o (.faddr 0 (.tmp 23)) <|
            o (.store 1 (.tmp 24) (.tmp 22)) <|
            o (.bin .add (.tmp 6) (.const (.int .i64 1))) <|
            .goto 0 [(.tmp 0), (.tmp 1), (.tmp 4), (.tmp 5), (.tmp 26)])))))
def l_ref18_Put_k1 : L :=
  o (.bin .lss (.tmp 4) (.tmp 3)) <|
  .ite (.tmp 5)
    (o (.iaddr 1 (.tmp 2) (.tmp 4)) <|
    o (.load false 1 (.tmp 6)) <|
    o (.build 60 []) <|
    o (.new 60) <|
    o (.store 3 (.tmp 9) (.tmp 8)) <|
    .join 1
      (o (.len false (.tmp 1)) <|
      o (.bin .lss (.tmp 4) (.tmp 11)) <|
      .ite (.tmp 12)
        (o (.iaddr 3 (.tmp 1) (.tmp 4)) <|
        o (.load true 3 (.tmp 13)) <|
        o (.store 3 (.tmp 9) (.tmp 14)) <|
        .goto 1 [(.tmp 0), (.tmp 1), (.tmp 7), (.tmp 9), (.tmp 2), (.tmp 3), (.tmp 4)])
        (.goto 1 [(.tmp 0), (.tmp 1), (.tmp 7), (.tmp 9), (.tmp 2), (.tmp 3), (.tmp 4)]))
      l_ref18_Put_k0)
    (.ret [])
def l_ref18_Put : LFn := ⟨3,
    o (.len false (.tmp 1)) <|
    .loop 0 [(.tmp 0), (.tmp 2), (.tmp 1), (.tmp 3), (.const (.int .i64 0))] l_ref18_Put_k1⟩
/-! (*hoodwink/wire.Wire).Waiting -/
def l_wire_Wire_Waiting : LFn := ⟨1,
    o (.eqNil false .ptr (.tmp 0)) <|
    .ite (.tmp 1)
      (.ret [(.const (.int .i64 0))])
      (o (.nilck (.tmp 0)) <|
      o (.faddr 0 (.tmp 2)) <|
      o (.load false 1 (.tmp 3)) <|
      o (.len false (.tmp 4)) <|
      .ret [(.tmp 5)])⟩
/-! hoodwink/hoodwinkref18.Waiting -/
def l_ref18_Waiting_k0 : L :=
  o (.bin .lss (.tmp 4) (.tmp 3)) <|
  .ite (.tmp 5)
    (o (.iaddr 2 (.tmp 2) (.tmp 4)) <|
    o (.load true 2 (.tmp 6)) <|
    o (.new 68) <|
    o (.store 2 (.tmp 8) (.tmp 7)) <|
    o (.faddr 1 (.tmp 8)) <|
    o (.load false 1 (.tmp 10)) <|
    o (.nilck (.tmp 0)) <|
    o (.faddr 1 (.tmp 12)) <|
    o (.load false 1 (.tmp 13)) <|
    o (.bin .geq (.tmp 11) (.tmp 14)) <|
    .ite (.tmp 15)
      (o (.bin .add (.tmp 1) (.const (.int .i64 1))) <|
      o (.bin .add (.tmp 4) (.const (.int .i64 1))) <|
      .goto 1 [(.tmp 0), (.tmp 16), (.tmp 2), (.tmp 3), (.tmp 17)])
      (o (.bin .add (.tmp 4) (.const (.int .i64 1))) <|
      .goto 1 [(.tmp 0), (.tmp 1), (.tmp 2), (.tmp 3), (.tmp 16)]))
    (.goto 0 [(.tmp 1)])
def l_ref18_Waiting_k1 : L :=
  .ret [(.tmp 0)]
def l_ref18_Waiting : LFn := ⟨1,
    .join 0
      (o (.nilck (.tmp 0)) <|
      o (.faddr 0 (.tmp 1)) <|
      o (.load false 1 (.tmp 2)) <|
      o (.len false (.tmp 3)) <|
      .loop 1 [(.tmp 0), (.const (.int .i64 0)), (.tmp 3), (.tmp 4), (.const (.int .i64 0))] l_ref18_Waiting_k0)
      l_ref18_Waiting_k1⟩
/-! hoodwink/hoodwinkref13.Same -/
def l_ref13_Same_k0 : L :=
  o (.bin .lss (.tmp 3) (.tmp 2)) <|
  .ite (.tmp 4)
    (o (.iaddr 1 (.tmp 0) (.tmp 3)) <|
    o (.load false 1 (.tmp 5)) <|
    o (.iaddr 1 (.tmp 1) (.tmp 3)) <|
    o (.load false 1 (.tmp 7)) <|
    om .pure (.call F_ref01_Same [(.tmp 6), (.tmp 8)]) <|
    o (.un .not (.tmp 9)) <|
    .ite (.tmp 10)
      (.ret [(.const (.bool false))])
      (o (.bin .add (.tmp 3) (.const (.int .i64 1))) <|
      .goto 1 [(.tmp 0), (.tmp 1), (.tmp 2), (.tmp 11)]))
    (.goto 0 [])
def l_ref13_Same_k1 : L :=
  .ret [(.const (.bool true))]
def l_ref13_Same : LFn := ⟨2,
    o (.len false (.tmp 0)) <|
    o (.len false (.tmp 1)) <|
    o (.bin .neq (.tmp 2) (.tmp 3)) <|
    .ite (.tmp 4)
      (.ret [(.const (.bool false))])
      (.join 0
        (o (.len false (.tmp 0)) <|
        .loop 1 [(.tmp 0), (.tmp 1), (.tmp 5), (.const (.int .i64 0))] l_ref13_Same_k0)
        l_ref13_Same_k1)⟩
/-! (*hoodwink/wire.Wire).Take -/
def l_wire_Wire_Take_k0 : L :=
  o (.nilck (.tmp 0)) <|
  o (.faddr 0 (.tmp 5)) <|
  o (.load false 1 (.tmp 6)) <|
  o (.iaddr 2 (.tmp 7) (.tmp 2)) <|
  o (.faddr 1 (.tmp 8)) <|
  o (.load false 1 (.tmp 9)) <|
  o (.bin .sub (.tmp 10) (.const (.int .i64 1))) <|
  o (.iaddr 2 (.tmp 7) (.tmp 2)) <|
  o (.faddr 1 (.tmp 12)) <|
  o (.store 1 (.tmp 13) (.tmp 11)) <|
  o (.bin .add (.tmp 4) (.const (.int .i64 1))) <|
  .goto 1 [(.tmp 0), (.tmp 1), (.tmp 3), (.tmp 15)]
def l_wire_Wire_Take_k1 : L :=
  o (.bin .lss (.tmp 3) (.tmp 2)) <|
  .ite (.tmp 4)
    (.join 2
      (o (.nilck (.tmp 0)) <|
      o (.faddr 0 (.tmp 5)) <|
      o (.load false 1 (.tmp 6)) <|
      o (.iaddr 2 (.tmp 7) (.tmp 3)) <|
      o (.faddr 1 (.tmp 8)) <|
      o (.load false 1 (.tmp 9)) <|
      o (.bin .eql (.tmp 10) (.const (.int .i64 0))) <|
      .ite (.tmp 11)
        (o (.nilck (.tmp 0)) <|
        o (.faddr 0 (.tmp 12)) <|
        o (.load false 1 (.tmp 13)) <|
        o (.iaddr 2 (.tmp 14) (.tmp 3)) <|
        o (.faddr 0 (.tmp 15)) <|
        o (.load false 1 (.tmp 16)) <|
        o (.bslice 46 1 [(0, 1, (.tmp 17))]) <|
        o (.append 1 24 (.tmp 1) (.tmp 18)) <|
        .goto 2 [(.tmp 0), (.tmp 19), (.tmp 3), (.tmp 2), (.tmp 3)])
        (.goto 2 [(.tmp 0), (.tmp 1), (.tmp 3), (.tmp 2), (.tmp 3)]))
      l_wire_Wire_Take_k0)
    (.goto 0 [(.tmp 0), (.tmp 1)])
def l_wire_Wire_Take_k2 : L :=
  o (.nilck (.tmp 0)) <|
  o (.faddr 0 (.tmp 2)) <|
  o (.load false 1 (.tmp 3)) <|
  o (.call F_slices_DeleteFunc_Lwire_waiting_wire_waiting [(.tmp 4), (.func 29)]) <|
  o (.nilck (.tmp 0)) <|
  o (.faddr 0 (.tmp 6)) <|
  o (.store 1 (.tmp 7) (.tmp 5)) <|
  .ret [(.tmp 1)]
def l_wire_Wire_Take : LFn := ⟨1,
    o (.eqNil false .ptr (.tmp 0)) <|
    .ite (.tmp 1)
      (.ret [(.const (.slice none 0 0))])
      (.join 0
        (o (.nilck (.tmp 0)) <|
        o (.faddr 0 (.tmp 2)) <|
        o (.load false 1 (.tmp 3)) <|
        o (.len false (.tmp 4)) <|
        .loop 1 [(.tmp 0), (.const (.slice none 0 0)), (.tmp 5), (.const (.int .i64 0))] l_wire_Wire_Take_k1)
        l_wire_Wire_Take_k2)⟩
/-! hoodwink/hoodwinkref18.Take -/
def l_ref18_Take_k0 : L :=
  o (.bin .lss (.tmp 4) (.tmp 3)) <|
  .ite (.tmp 5)
    (o (.iaddr 2 (.tmp 2) (.tmp 4)) <|
    o (.load true 2 (.tmp 6)) <|
    o (.new 68) <|
    o (.store 2 (.tmp 8) (.tmp 7)) <|
    o (.faddr 1 (.tmp 8)) <|
    o (.load false 1 (.tmp 10)) <|
    o (.nilck (.tmp 0)) <|
    o (.faddr 1 (.tmp 12)) <|
    o (.load false 1 (.tmp 13)) <|
    o (.bin .eql (.tmp 11) (.tmp 14)) <|
    .ite (.tmp 15)
      (o (.faddr 0 (.tmp 8)) <|
      o (.load false 1 (.tmp 16)) <|
      o (.bslice 46 1 [(0, 1, (.tmp 17))]) <|
      o (.append 1 24 (.tmp 1) (.tmp 18)) <|
      o (.bin .add (.tmp 4) (.const (.int .i64 1))) <|
      .goto 1 [(.tmp 0), (.tmp 19), (.tmp 2), (.tmp 3), (.tmp 20)])
      (o (.bin .add (.tmp 4) (.const (.int .i64 1))) <|
      .goto 1 [(.tmp 0), (.tmp 1), (.tmp 2), (.tmp 3), (.tmp 16)]))
    (.goto 0 [(.tmp 0), (.tmp 1)])
def l_ref18_Take_k1 : L :=
  o (.nilck (.tmp 0)) <|
  o (.faddr 1 (.tmp 2)) <|
  o (.load false 1 (.tmp 3)) <|
  o (.bin .add (.tmp 4) (.const (.int .i64 1))) <|
  o (.nilck (.tmp 0)) <|
  o (.faddr 1 (.tmp 6)) <|
  o (.store 1 (.tmp 7) (.tmp 5)) <|
  .ret [(.tmp 1)]
def l_ref18_Take : LFn := ⟨1,
    .join 0
      (o (.nilck (.tmp 0)) <|
      o (.faddr 0 (.tmp 1)) <|
      o (.load false 1 (.tmp 2)) <|
      o (.len false (.tmp 3)) <|
      .loop 1 [(.tmp 0), (.const (.slice none 0 0)), (.tmp 3), (.tmp 4), (.const (.int .i64 0))] l_ref18_Take_k0)
      l_ref18_Take_k1⟩
/-! hoodwink/hoodwinkref01.Cut -/
def l_ref01_Cut_k0 : L :=
  o (.bin .lss (.tmp 4) (.tmp 3)) <|
  .ite (.tmp 5)
    (o (.iaddr 1 (.tmp 2) (.tmp 4)) <|
    o (.load false 1 (.tmp 6)) <|
    o (.bin .lss (.tmp 4) (.tmp 0)) <|
    .ite (.tmp 8)
      (o (.bslice 5 1 [(0, 1, (.tmp 7))]) <|
      o (.append 1 1 (.tmp 1) (.tmp 9)) <|
      o (.bin .add (.tmp 4) (.const (.int .i64 1))) <|
      .goto 1 [(.tmp 0), (.tmp 10), (.tmp 2), (.tmp 3), (.tmp 11)])
      (o (.bin .add (.tmp 4) (.const (.int .i64 1))) <|
      .goto 1 [(.tmp 0), (.tmp 1), (.tmp 2), (.tmp 3), (.tmp 9)]))
    (.goto 0 [(.tmp 1)])
def l_ref01_Cut_k1 : L :=
  .ret [(.tmp 0)]
def l_ref01_Cut : LFn := ⟨2,
    .join 0
      (o (.len false (.tmp 0)) <|
      .loop 1 [(.tmp 1), (.const (.slice none 0 0)), (.tmp 0), (.tmp 2), (.const (.int .i64 0))] l_ref01_Cut_k0)
      l_ref01_Cut_k1⟩
/-! hoodwink/hoodwinkref01.Join -/
def l_ref01_Join_k0 : L :=
  o (.bin .lss (.tmp 3) (.tmp 2)) <|
  .ite (.tmp 4)
    (o (.iaddr 1 (.tmp 1) (.tmp 3)) <|
    o (.load false 1 (.tmp 5)) <|
    o (.append 1 1 (.tmp 0) (.tmp 6)) <|
    o (.bin .add (.tmp 3) (.const (.int .i64 1))) <|
    .goto 1 [(.tmp 7), (.tmp 1), (.tmp 2), (.tmp 8)])
    (.goto 0 [(.tmp 0)])
def l_ref01_Join_k1 : L :=
  .ret [(.tmp 0)]
def l_ref01_Join : LFn := ⟨1,
    .join 0
      (o (.len false (.tmp 0)) <|
      .loop 1 [(.const (.slice none 0 0)), (.tmp 0), (.tmp 1), (.const (.int .i64 0))] l_ref01_Join_k0)
      l_ref01_Join_k1⟩
/-! hoodwink/hoodwinkref01.Same -/
def l_ref01_Same_k0 : L :=
  o (.bin .lss (.tmp 3) (.tmp 2)) <|
  .ite (.tmp 4)
    (o (.iaddr 1 (.tmp 0) (.tmp 3)) <|
    o (.load false 1 (.tmp 5)) <|
    o (.iaddr 1 (.tmp 1) (.tmp 3)) <|
    o (.load false 1 (.tmp 7)) <|
    o (.bin .neq (.tmp 6) (.tmp 8)) <|
    .ite (.tmp 9)
      (.ret [(.const (.bool false))])
      (o (.bin .add (.tmp 3) (.const (.int .i64 1))) <|
      .goto 1 [(.tmp 0), (.tmp 1), (.tmp 2), (.tmp 10)]))
    (.goto 0 [])
def l_ref01_Same_k1 : L :=
  .ret [(.const (.bool true))]
def l_ref01_Same : LFn := ⟨2,
    o (.len false (.tmp 0)) <|
    o (.len false (.tmp 1)) <|
    o (.bin .neq (.tmp 2) (.tmp 3)) <|
    .ite (.tmp 4)
      (.ret [(.const (.bool false))])
      (.join 0
        (o (.len false (.tmp 0)) <|
        .loop 1 [(.tmp 0), (.tmp 1), (.tmp 5), (.const (.int .i64 0))] l_ref01_Same_k0)
        l_ref01_Same_k1)⟩
/-! hoodwink/wire.Spoil -/
def l_wire_Spoil_k0 : L :=
  o (.bin .lss (.tmp 3) (.const (.int .i64 32))) <|
  .ite (.tmp 4)
    (o (.bin .eql (.tmp 2) (.const (.int .i64 0))) <|
    .ite (.tmp 5)
      (.goto 0 [(.tmp 1)])
      (o (.faddr 1 (.tmp 0)) <|
      o (.load false 1 (.tmp 6)) <|
      o (.conv .i64 (.tmp 7)) <|
      o (.bin .rem (.tmp 8) (.tmp 2)) <|
      o (.bin .add (.tmp 9) (.tmp 3)) <|
      o (.bin .geq (.tmp 10) (.tmp 2)) <|
      .ite (.tmp 11)
        (.goto 0 [(.tmp 1)])
        (o (.bin .quo (.tmp 10) (.const (.int .i64 8))) <|
        o (.iaddr 1 (.tmp 1) (.tmp 12)) <|
        o (.load false 1 (.tmp 13)) <|
        o (.faddr 2 (.tmp 0)) <|
        o (.load false 1 (.tmp 15)) <|
        o (.bin .shr (.tmp 16) (.tmp 3)) <|
        o (.bin .and (.tmp 17) (.const (.int .u32 1))) <|
        o (.conv .u8 (.tmp 18)) <|
        o (.bin .rem (.tmp 10) (.const (.int .i64 8))) <|
        o (.bin .shl (.tmp 19) (.tmp 20)) <|
        o (.bin .xor (.tmp 14) (.tmp 21)) <|
        o (.iaddr 1 (.tmp 1) (.tmp 12)) <|
        o (.store 1 (.tmp 23) (.tmp 22)) <|
        o (.bin .add (.tmp 3) (.const (.int .i64 1))) <|
        .goto 1 [(.tmp 0), (.tmp 1), (.tmp 2), (.tmp 25)])))
    (.goto 0 [(.tmp 1)])
def l_wire_Spoil_k1 : L :=
  .ret [(.tmp 0)]
def l_wire_Spoil : LFn := ⟨2,
    o (.box 52 (.tmp 1)) <|
    o (.call F_bytes_Clone [(.tmp 0)]) <|
    o (.len false (.tmp 0)) <|
    o (.bin .mul (.const (.int .i64 8)) (.tmp 4)) <|
    .join 0
      (.loop 1 [(.tmp 2), (.tmp 3), (.tmp 5), (.const (.int .i64 0))] l_wire_Spoil_k0)
      l_wire_Spoil_k1⟩
/-! hoodwink/hoodwinkref18.Spoil -/
def l_ref18_Spoil : LFn := ⟨2,
    o (.box 60 (.tmp 1)) <|
    o (.len false (.tmp 0)) <|
    o (.bin .eql (.tmp 3) (.const (.int .i64 0))) <|
    .ite (.tmp 4)
      (.ret [(.const (.slice none 0 0))])
      (o (.faddr 1 (.tmp 2)) <|
      o (.load false 1 (.tmp 5)) <|
      o (.conv .i64 (.tmp 6)) <|
      o (.len false (.tmp 0)) <|
      o (.bin .mul (.const (.int .i64 8)) (.tmp 8)) <|
      o (.bin .rem (.tmp 7) (.tmp 9)) <|
      o (.faddr 2 (.tmp 2)) <|
      o (.load false 1 (.tmp 11)) <|
      om .pure (.call F_ref02_Turned [(.tmp 0), (.tmp 10), (.tmp 12)]) <|
      .ret [(.tmp 13)])⟩
/-! (hoodwink/wire.Fault).Right -/
def l_wire_Fault_Right : LFn := ⟨1,
    o (.box 52 (.tmp 0)) <|
    o (.faddr 0 (.tmp 1)) <|
    o (.load false 1 (.tmp 2)) <|
    o (.bin .leq (.tmp 3) (.const (.int .u8 5))) <|
    .ret [(.tmp 4)]⟩
/-! hoodwink/hoodwinkref02.Seal -/
def l_ref02_Seal : LFn := ⟨1,
    om .pure (.call F_ref02_Sum [(.tmp 0)]) <|
    o (.conv .u64 (.tmp 1)) <|
    om .pure (.call F_ref01_Low [(.tmp 2), (.const (.int .i64 4))]) <|
    o (.bslice 46 2 [(0, 1, (.tmp 0)), (1, 1, (.tmp 3))]) <|
    om .pure (.call F_ref01_Join [(.tmp 4)]) <|
    .ret [(.tmp 5)]⟩
/-! hoodwink/hoodwinkref02.Open -/
def l_ref02_Open : LFn := ⟨1,
    o (.len false (.tmp 0)) <|
    o (.bin .sub (.tmp 1) (.const (.int .i64 4))) <|
    o (.bin .geq (.tmp 2) (.const (.int .i64 0))) <|
    .ite (.tmp 3)
      (o (.slice 1 (.tmp 0) (some (.tmp 2)) none none) <|
      o (.slice 1 (.tmp 0) none (some (.tmp 2)) none) <|
      om .pure (.call F_ref01_Value [(.tmp 4)]) <|
      om .pure (.call F_ref02_Sum [(.tmp 5)]) <|
      o (.conv .u64 (.tmp 7)) <|
      o (.bin .eql (.tmp 6) (.tmp 8)) <|
      .ret [(.tmp 9)])
      (.ret [(.const (.bool false))])⟩
/-! (hoodwink/wire.Fault).times -/
def l_wire_Fault_times : LFn := ⟨1,
    o (.box 52 (.tmp 0)) <|
    o (.faddr 0 (.tmp 1)) <|
    o (.load false 1 (.tmp 2)) <|
    o (.bin .eql (.tmp 3) (.const (.int .u8 1))) <|
    .ite (.tmp 4)
      (.ret [(.const (.slice none 0 0))])
      (o (.bin .eql (.tmp 3) (.const (.int .u8 2))) <|
      .ite (.tmp 5)
        (o (.bslice 3 2 [(0, 1, (.const (.int .i64 0))), (1, 1, (.const (.int .i64 0)))]) <|
        .ret [(.tmp 6)])
        (o (.bin .eql (.tmp 3) (.const (.int .u8 3))) <|
        .ite (.tmp 6)
          (o (.bslice 3 1 [(0, 1, (.const (.int .i64 1)))]) <|
          .ret [(.tmp 7)])
          (o (.bin .eql (.tmp 3) (.const (.int .u8 5))) <|
          .ite (.tmp 7)
            (o (.bslice 3 1 [(0, 1, (.const (.int .i64 2)))]) <|
            .ret [(.tmp 8)])
            (o (.bslice 3 1 [(0, 1, (.const (.int .i64 0)))]) <|
            .ret [(.tmp 8)]))))⟩
/-! bytes.Clone -/
def l_bytes_Clone : LFn := ⟨1,
    o (.eqNil false .slc (.tmp 0)) <|
    .ite (.tmp 1)
      (.ret [(.const (.slice none 0 0))])
      (o (.bslice 5 0 []) <|
      o (.append 1 1 (.tmp 2) (.tmp 0)) <|
      .ret [(.tmp 3)])⟩
/-! slices.DeleteFunc[[]hoodwink/wire.waiting,hoodwink/wire.waiting] -/
def l_slices_DeleteFunc_Lwire_waiting_wire_waiting_k0 : L :=
  o (.len false (.tmp 0)) <|
  o (.bin .lss (.tmp 3) (.tmp 4)) <|
  .ite (.tmp 5)
    (o (.iaddr 2 (.tmp 0) (.tmp 3)) <|
    o (.load true 2 (.tmp 6)) <|
    o (.new 66) <|
    o (.store 2 (.tmp 8) (.tmp 7)) <|
    o (.load true 2 (.tmp 8)) <|
    o (.callv (.tmp 1) [(.tmp 10)]) <|
    o (.un .not (.tmp 11)) <|
    .ite (.tmp 12)
      (o (.load true 2 (.tmp 8)) <|
      o (.iaddr 2 (.tmp 0) (.tmp 2)) <|
      o (.store 2 (.tmp 14) (.tmp 13)) <|
      o (.bin .add (.tmp 2) (.const (.int .i64 1))) <|
      o (.bin .add (.tmp 3) (.const (.int .i64 1))) <|
      .goto 1 [(.tmp 0), (.tmp 1), (.tmp 16), (.tmp 17)])
      (o (.bin .add (.tmp 3) (.const (.int .i64 1))) <|
      .goto 1 [(.tmp 0), (.tmp 1), (.tmp 2), (.tmp 13)]))
    (.goto 0 [(.tmp 0), (.tmp 2)])
def l_slices_DeleteFunc_Lwire_waiting_wire_waiting_k1 : L :=
  o (.slice 2 (.tmp 0) (some (.tmp 1)) none none) <|
  o (.clearS 66 (.tmp 2)) <|
  o (.slice 2 (.tmp 0) none (some (.tmp 1)) none) <|
  .ret [(.tmp 4)]
def l_slices_DeleteFunc_Lwire_waiting_wire_waiting : LFn := ⟨2,
    o (.call F_slices_IndexFunc_Lwire_waiting_wire_waiting [(.tmp 0), (.tmp 1)]) <|
    o (.bin .eql (.tmp 2) (.const (.int .i64 (-1)))) <|
    .ite (.tmp 3)
      (.ret [(.tmp 0)])
      (.join 0
        (o (.bin .add (.tmp 2) (.const (.int .i64 1))) <|
        .loop 1 [(.tmp 0), (.tmp 1), (.tmp 2), (.tmp 4)] l_slices_DeleteFunc_Lwire_waiting_wire_waiting_k0)
        l_slices_DeleteFunc_Lwire_waiting_wire_waiting_k1)⟩
/-! (*hoodwink/wire.Wire).Take$1 -/
def l_wire_Wire_Take_1 : LFn := ⟨1,
    o (.box 66 (.tmp 0)) <|
    o (.faddr 1 (.tmp 1)) <|
    o (.load false 1 (.tmp 2)) <|
    o (.bin .lss (.tmp 3) (.const (.int .i64 0))) <|
    .ret [(.tmp 4)]⟩
/-! hoodwink/hoodwinkref02.Turned -/
def l_ref02_Turned_k0 : L :=
  o (.bin .lss (.tmp 3) (.const (.int .i64 32))) <|
  .ite (.tmp 4)
    (o (.bin .add (.tmp 0) (.tmp 3)) <|
    o (.bin .quo (.tmp 5) (.const (.int .i64 8))) <|
    o (.len false (.tmp 2)) <|
    o (.bin .lss (.tmp 6) (.tmp 7)) <|
    .ite (.tmp 8)
      (o (.bin .shr (.tmp 1) (.tmp 3)) <|
      o (.bin .rem (.tmp 9) (.const (.int .u32 2))) <|
      o (.bin .eql (.tmp 10) (.const (.int .u32 1))) <|
      .ite (.tmp 11)
        (o (.bin .quo (.tmp 5) (.const (.int .i64 8))) <|
        o (.iaddr 1 (.tmp 2) (.tmp 12)) <|
        o (.load false 1 (.tmp 13)) <|
        o (.bslice 5 8 [(0, 1, (.const (.int .u8 1))), (1, 1, (.const (.int .u8 2))), (2, 1, (.const (.int .u8 4))), (3, 1, (.const (.int .u8 8))), (4, 1, (.const (.int .u8 16))), (5, 1, (.const (.int .u8 32))), (6, 1, (.const (.int .u8 64))), (7, 1, (.const (.int .u8 128)))]) <|
        o (.bin .rem (.tmp 5) (.const (.int .i64 8))) <|
        o (.iaddr 1 (.tmp 15) (.tmp 16)) <|
        o (.load false 1 (.tmp 17)) <|
        o (.bin .xor (.tmp 14) (.tmp 18)) <|
        o (.iaddr 1 (.tmp 2) (.tmp 12)) <|
        o (.store 1 (.tmp 20) (.tmp 19)) <|
        o (.bin .add (.tmp 3) (.const (.int .i64 1))) <|
        .goto 1 [(.tmp 0), (.tmp 1), (.tmp 2), (.tmp 22)])
        (o (.bin .add (.tmp 3) (.const (.int .i64 1))) <|
        .goto 1 [(.tmp 0), (.tmp 1), (.tmp 2), (.tmp 12)]))
      (o (.bin .add (.tmp 3) (.const (.int .i64 1))) <|
      .goto 1 [(.tmp 0), (.tmp 1), (.tmp 2), (.tmp 9)]))
    (.goto 0 [(.tmp 2)])
def l_ref02_Turned_k1 : L :=
  .ret [(.tmp 0)]
def l_ref02_Turned : LFn := ⟨3,
    o (.bslice 46 1 [(0, 1, (.tmp 0))]) <|
    om .pure (.call F_ref01_Join [(.tmp 3)]) <|
    .join 0
      (.loop 1 [(.tmp 1), (.tmp 2), (.tmp 4), (.const (.int .i64 0))] l_ref02_Turned_k0)
      l_ref02_Turned_k1⟩
/-! hoodwink/hoodwinkref01.Low -/
def l_ref01_Low_k0 : L :=
  o (.bin .lss (.tmp 3) (.tmp 1)) <|
  .ite (.tmp 4)
    (o (.bin .rem (.tmp 0) (.const (.int .u64 256))) <|
    o (.conv .u8 (.tmp 5)) <|
    o (.bslice 5 1 [(0, 1, (.tmp 6))]) <|
    o (.append 1 1 (.tmp 2) (.tmp 7)) <|
    o (.bin .quo (.tmp 0) (.const (.int .u64 256))) <|
    o (.bin .add (.tmp 3) (.const (.int .i64 1))) <|
    .goto 1 [(.tmp 9), (.tmp 1), (.tmp 8), (.tmp 10)])
    (.goto 0 [(.tmp 2)])
def l_ref01_Low_k1 : L :=
  .ret [(.tmp 0)]
def l_ref01_Low : LFn := ⟨2,
    .join 0
      (.loop 1 [(.tmp 0), (.tmp 1), (.const (.slice none 0 0)), (.const (.int .i64 0))] l_ref01_Low_k0)
      l_ref01_Low_k1⟩
/-! hoodwink/hoodwinkref02.Sum -/
def l_ref02_Sum_k0 : L :=
  o (.bin .lss (.tmp 2) (.const (.int .i64 8))) <|
  .ite (.tmp 6)
    (o (.bin .rem (.tmp 0) (.const (.int .u64 2))) <|
    o (.conv .u64 (.tmp 1)) <|
    o (.bin .shr (.tmp 8) (.tmp 2)) <|
    o (.bin .add (.tmp 7) (.tmp 9)) <|
    o (.bin .rem (.tmp 10) (.const (.int .u64 2))) <|
    o (.bin .quo (.tmp 0) (.const (.int .u64 2))) <|
    o (.bin .eql (.tmp 11) (.const (.int .u64 1))) <|
    .ite (.tmp 13)
      (o (.bin .xor (.tmp 12) (.const (.int .u64 2197175160))) <|
      o (.bin .add (.tmp 2) (.const (.int .i64 1))) <|
      .goto 3 [(.tmp 14), (.tmp 1), (.tmp 15), (.tmp 3), (.tmp 4), (.tmp 5)])
      (o (.bin .add (.tmp 2) (.const (.int .i64 1))) <|
      .goto 3 [(.tmp 12), (.tmp 1), (.tmp 14), (.tmp 3), (.tmp 4), (.tmp 5)]))
    (.goto 2 [(.tmp 0), (.tmp 3), (.tmp 4), (.tmp 5)])
def l_ref02_Sum_k1 : L :=
  o (.bin .add (.tmp 3) (.const (.int .i64 1))) <|
  .goto 1 [(.tmp 0), (.tmp 1), (.tmp 2), (.tmp 4)]
def l_ref02_Sum_k2 : L :=
  o (.bin .lss (.tmp 3) (.tmp 2)) <|
  .ite (.tmp 4)
    (.join 2
      (o (.iaddr 1 (.tmp 1) (.tmp 3)) <|
      o (.load false 1 (.tmp 5)) <|
      .loop 3 [(.tmp 0), (.tmp 6), (.const (.int .i64 0)), (.tmp 1), (.tmp 2), (.tmp 3)] l_ref02_Sum_k0)
      l_ref02_Sum_k1)
    (.goto 0 [(.tmp 0)])
def l_ref02_Sum_k3 : L :=
  o (.bin .sub (.const (.int .u64 4294967295)) (.tmp 0)) <|
  o (.conv .u32 (.tmp 1)) <|
  .ret [(.tmp 2)]
def l_ref02_Sum : LFn := ⟨1,
    .join 0
      (o (.len false (.tmp 0)) <|
      .loop 1 [(.const (.int .u64 4294967295)), (.tmp 0), (.tmp 1), (.const (.int .i64 0))] l_ref02_Sum_k2)
      l_ref02_Sum_k3⟩
/-! hoodwink/hoodwinkref01.Value -/
def l_ref01_Value_k0 : L :=
  o (.bin .geq (.tmp 2) (.const (.int .i64 0))) <|
  .ite (.tmp 3)
    (o (.bin .mul (.const (.int .u64 256)) (.tmp 1)) <|
    o (.iaddr 1 (.tmp 0) (.tmp 2)) <|
    o (.load false 1 (.tmp 5)) <|
    o (.conv .u64 (.tmp 6)) <|
    o (.bin .add (.tmp 4) (.tmp 7)) <|
    o (.bin .sub (.tmp 2) (.const (.int .i64 1))) <|
    .goto 1 [(.tmp 0), (.tmp 8), (.tmp 9)])
    (.goto 0 [(.tmp 1)])
def l_ref01_Value_k1 : L :=
  .ret [(.tmp 0)]
def l_ref01_Value : LFn := ⟨1,
    .join 0
      (o (.len false (.tmp 0)) <|
      o (.bin .sub (.tmp 1) (.const (.int .i64 1))) <|
      .loop 1 [(.tmp 0), (.const (.int .u64 0)), (.tmp 2)] l_ref01_Value_k0)
      l_ref01_Value_k1⟩
/-! slices.IndexFunc[[]hoodwink/wire.waiting,hoodwink/wire.waiting] -/
def l_slices_IndexFunc_Lwire_waiting_wire_waiting_k0 : L :=
  o (.bin .lss (.tmp 3) (.tmp 2)) <|
  .ite (.tmp 4)
    (o (.iaddr 2 (.tmp 0) (.tmp 3)) <|
    o (.load true 2 (.tmp 5)) <|
    o (.callv (.tmp 1) [(.tmp 6)]) <|
    .ite (.tmp 7)
      (.ret [(.tmp 3)])
      (o (.bin .add (.tmp 3) (.const (.int .i64 1))) <|
      .goto 1 [(.tmp 0), (.tmp 1), (.tmp 2), (.tmp 8)]))
    (.goto 0 [])
def l_slices_IndexFunc_Lwire_waiting_wire_waiting_k1 : L :=
  .ret [(.const (.int .i64 (-1)))]
def l_slices_IndexFunc_Lwire_waiting_wire_waiting : LFn := ⟨2,
    .join 0
      (o (.len false (.tmp 0)) <|
      .loop 1 [(.tmp 0), (.tmp 1), (.tmp 2), (.const (.int .i64 0))] l_slices_IndexFunc_Lwire_waiting_wire_waiting_k0)
      l_slices_IndexFunc_Lwire_waiting_wire_waiting_k1⟩
def mdT : FuncId → FuncId → Md := mdOf 16911206392 [(21, 27)]
def zcT : TypeId → Option (List Value)
  | 3 => some [(.int .i64 0)]
  | 5 => some [(.int .u8 0)]
  | 26 => some [(.slice none 0 0)]
  | 30 => some [(.slice none 0 0), (.int .i64 0)]
  | 34 => some [(.slice none 0 0), (.slice none 0 0)]
  | 46 => some [(.slice none 0 0)]
  | 52 => some [(.int .u8 0), (.int .u16 0), (.int .u32 0)]
  | 60 => some [(.int .u8 0), (.int .u16 0), (.int .u32 0)]
  | 66 => some [(.slice none 0 0), (.int .i64 0)]
  | 68 => some [(.slice none 0 0), (.int .i64 0)]
  | _ => none
def zvT : TypeId → Option Value
  | _ => none
def coT : TypeId → Option Nat
  | _ => none

def fnL : List (FuncId × LFn) := [(3, l_law18_WirePlays), (4, l_law18_WireOwns), (5, l_law18_WireCounts), (6, l_law18_WireKeeps), (7, l_law18_WireLate), (8, l_law18_WireSpoils), (9, l_law18_awake), (10, l_law18_few), (11, l_wire_Wire_Put), (12, l_ref18_Put), (13, l_wire_Wire_Waiting), (14, l_ref18_Waiting), (15, l_ref13_Same), (16, l_wire_Wire_Take), (17, l_ref18_Take), (18, l_ref01_Cut), (19, l_ref01_Join), (20, l_ref01_Same), (21, l_wire_Spoil), (22, l_ref18_Spoil), (23, l_wire_Fault_Right), (24, l_ref02_Seal), (25, l_ref02_Open), (26, l_wire_Fault_times), (27, l_bytes_Clone), (28, l_slices_DeleteFunc_Lwire_waiting_wire_waiting), (29, l_wire_Wire_Take_1), (30, l_ref02_Turned), (31, l_ref01_Low), (32, l_ref02_Sum), (33, l_ref01_Value), (34, l_slices_IndexFunc_Lwire_waiting_wire_waiting)]
def fnT (f : FuncId) : Option LFn := lkF fnL f
noncomputable def BI : IBook := { zc := zcT, zv := zvT, co := coT, fn := fnT, md := mdT 0, given := fun _ => none }
theorem fn_law18_WirePlays : BI.fn F_law18_WirePlays = some l_law18_WirePlays := by kernel_rfl
theorem fn_law18_WireOwns : BI.fn F_law18_WireOwns = some l_law18_WireOwns := by kernel_rfl
theorem fn_law18_WireCounts : BI.fn F_law18_WireCounts = some l_law18_WireCounts := by kernel_rfl
theorem fn_law18_WireKeeps : BI.fn F_law18_WireKeeps = some l_law18_WireKeeps := by kernel_rfl
theorem fn_law18_WireLate : BI.fn F_law18_WireLate = some l_law18_WireLate := by kernel_rfl
theorem fn_law18_WireSpoils : BI.fn F_law18_WireSpoils = some l_law18_WireSpoils := by kernel_rfl
theorem fn_law18_awake : BI.fn F_law18_awake = some l_law18_awake := by kernel_rfl
theorem fn_law18_few : BI.fn F_law18_few = some l_law18_few := by kernel_rfl
theorem fn_wire_Wire_Put : BI.fn F_wire_Wire_Put = some l_wire_Wire_Put := by kernel_rfl
theorem fn_ref18_Put : BI.fn F_ref18_Put = some l_ref18_Put := by kernel_rfl
theorem fn_wire_Wire_Waiting : BI.fn F_wire_Wire_Waiting = some l_wire_Wire_Waiting := by kernel_rfl
theorem fn_ref18_Waiting : BI.fn F_ref18_Waiting = some l_ref18_Waiting := by kernel_rfl
theorem fn_ref13_Same : BI.fn F_ref13_Same = some l_ref13_Same := by kernel_rfl
theorem fn_wire_Wire_Take : BI.fn F_wire_Wire_Take = some l_wire_Wire_Take := by kernel_rfl
theorem fn_ref18_Take : BI.fn F_ref18_Take = some l_ref18_Take := by kernel_rfl
theorem fn_ref01_Cut : BI.fn F_ref01_Cut = some l_ref01_Cut := by kernel_rfl
theorem fn_ref01_Join : BI.fn F_ref01_Join = some l_ref01_Join := by kernel_rfl
theorem fn_ref01_Same : BI.fn F_ref01_Same = some l_ref01_Same := by kernel_rfl
theorem fn_wire_Spoil : BI.fn F_wire_Spoil = some l_wire_Spoil := by kernel_rfl
theorem fn_ref18_Spoil : BI.fn F_ref18_Spoil = some l_ref18_Spoil := by kernel_rfl
theorem fn_wire_Fault_Right : BI.fn F_wire_Fault_Right = some l_wire_Fault_Right := by kernel_rfl
theorem fn_ref02_Seal : BI.fn F_ref02_Seal = some l_ref02_Seal := by kernel_rfl
theorem fn_ref02_Open : BI.fn F_ref02_Open = some l_ref02_Open := by kernel_rfl
theorem fn_wire_Fault_times : BI.fn F_wire_Fault_times = some l_wire_Fault_times := by kernel_rfl
theorem fn_bytes_Clone : BI.fn F_bytes_Clone = some l_bytes_Clone := by kernel_rfl
theorem fn_slices_DeleteFunc_Lwire_waiting_wire_waiting : BI.fn F_slices_DeleteFunc_Lwire_waiting_wire_waiting = some l_slices_DeleteFunc_Lwire_waiting_wire_waiting := by kernel_rfl
theorem fn_wire_Wire_Take_1 : BI.fn F_wire_Wire_Take_1 = some l_wire_Wire_Take_1 := by kernel_rfl
theorem fn_ref02_Turned : BI.fn F_ref02_Turned = some l_ref02_Turned := by kernel_rfl
theorem fn_ref01_Low : BI.fn F_ref01_Low = some l_ref01_Low := by kernel_rfl
theorem fn_ref02_Sum : BI.fn F_ref02_Sum = some l_ref02_Sum := by kernel_rfl
theorem fn_ref01_Value : BI.fn F_ref01_Value = some l_ref01_Value := by kernel_rfl
theorem fn_slices_IndexFunc_Lwire_waiting_wire_waiting : BI.fn F_slices_IndexFunc_Lwire_waiting_wire_waiting = some l_slices_IndexFunc_Lwire_waiting_wire_waiting := by kernel_rfl
end Go.Proofs.Ytohclaopcejjnaa.G
