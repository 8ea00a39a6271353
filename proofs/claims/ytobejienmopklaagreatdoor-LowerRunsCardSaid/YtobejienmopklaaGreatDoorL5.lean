/- LowerRuns: more calls told once. Conditions: none beyond the card's own. -/
import Derived.Test.YtobejienmopklaaGreatDoorL2
/- More calls that were worked out once (printed by a program). -/
namespace Go.Proofs.YtobejienmopklaaGreatDoor.Ev
noncomputable section
def tArgs136_1 : List AV := [(.agg [(.int .i64 (.ofNat 4)), (.str [73]), (.sl true 0 []), (.sl true 0 []), (.sl true 0 [])])]
def tRes136_1 : AV := (.tup [(.str [73]), (.int .i64 (.ofNat 0))])
def tArgs136_2 : List AV := [(.agg [(.int .i64 (.ofNat 8)), (.str []), (.sl false 1 [[(.str [109])]]), (.sl true 0 []), (.sl false 5 [[(.int .i64 (.ofNat 7)), (.str []), (.sl true 0 []), (.sl true 0 []), (.sl false 5 [[(.int .i64 (.ofNat 1)), (.str []), (.sl true 0 []), (.sl true 0 []), (.sl true 0 [])]])]])])]
def tRes136_2 : AV := (.tup [(.str [105, 110, 116, 101, 114, 102, 97, 99, 101, 32, 123, 32, 109, 32, 40, 32, 41, 32, 105, 110, 116, 32, 59, 32, 125]), (.int .i64 (.ofNat 0))])
def tArgs136_3 : List AV := [(.agg [(.int .i64 (.ofNat 4)), (.str [65]), (.sl true 0 []), (.sl true 0 []), (.sl true 0 [])])]
def tRes136_3 : AV := (.tup [(.str [65]), (.int .i64 (.ofNat 0))])
def tArgs136_4 : List AV := [(.agg [(.int .i64 (.ofNat 6)), (.str []), (.sl false 1 [[(.str [120])]]), (.sl false 1 [[(.bool false)]]), (.sl false 5 [[(.int .i64 (.ofNat 1)), (.str []), (.sl true 0 []), (.sl true 0 []), (.sl true 0 [])]])])]
def tRes136_4 : AV := (.tup [(.str [123, 32, 120, 32, 105, 110, 116, 32, 59, 32, 125]), (.int .i64 (.ofNat 0))])
def tArgs138_1 : List AV := [(.agg [(.int .i64 (.ofNat 50)), (.str [65]), (.str [109]), (.sl true 0 []), (.int .i64 (.ofNat 1)), (.str []), (.sl true 0 []), (.sl true 0 []), (.sl true 0 []), (.sl false 7 [[(.int .i64 (.ofNat 69)), (.int .i64 (.ofNat 6)), (.str []), (.sl true 0 []), (.sl true 7 [[(.int .i64 (.ofNat 80)), (.int .i64 (.ofNat 9)), (.int .i64 (.ofNat 0)), (.str [120]), (.sl true 0 []), (.sl true 0 []), (.sl true 7 [[(.int .i64 (.ofNat 76)), (.int .i64 (.ofNat 5)), (.int .i64 (.ofNat 0)), (.str []), (.sl true 0 []), (.sl true 0 []), (.sl true 0 [])]])]]), (.sl true 0 []), (.sl true 0 [])]])])]
def tRes138_1 : AV := (.tup [(.str [109, 101, 116, 104, 111, 100, 32, 65, 32, 46, 32, 109, 32, 40, 32, 41, 32, 105, 110, 116, 32, 123, 32, 114, 101, 116, 117, 114, 110, 32, 115, 101, 108, 102, 32, 46, 32, 120, 32, 59, 32, 125]), (.int .i64 (.ofNat 0))])
def tArgs136_5 : List AV := [(.agg [(.int .i64 (.ofNat 1)), (.str []), (.sl true 0 []), (.sl true 0 []), (.sl true 0 [])])]
def tRes136_5 : AV := (.tup [(.str [105, 110, 116]), (.int .i64 (.ofNat 0))])
def tArgs136_6 : List AV := [(.agg [(.int .i64 (.ofNat 2)), (.str []), (.sl true 0 []), (.sl true 0 []), (.sl true 0 [])])]
def tRes136_6 : AV := (.tup [(.str [98, 111, 111, 108]), (.int .i64 (.ofNat 0))])
def tArgs136_7 : List AV := [(.agg [(.int .i64 (.ofNat 3)), (.str []), (.sl true 0 []), (.sl true 0 []), (.sl true 0 [])])]
def tRes136_7 : AV := (.tup [(.str [116, 101, 120, 116]), (.int .i64 (.ofNat 0))])
def tArgs136_8 : List AV := [(.agg [(.int .i64 (.ofNat 7)), (.str []), (.sl true 0 []), (.sl true 0 []), (.sl false 5 [[(.int .i64 (.ofNat 1)), (.str []), (.sl true 0 []), (.sl true 0 []), (.sl true 0 [])], [(.int .i64 (.ofNat 1)), (.str []), (.sl true 0 []), (.sl true 0 []), (.sl true 0 [])], [(.int .i64 (.ofNat 1)), (.str []), (.sl true 0 []), (.sl true 0 []), (.sl true 0 [])]])])]
def tRes136_8 : AV := (.tup [(.str [102, 110, 32, 40, 32, 105, 110, 116, 32, 44, 32, 105, 110, 116, 32, 41, 32, 105, 110, 116]), (.int .i64 (.ofNat 0))])
def tab136 : List AV → Heap → Nat → Option R := orR (tabAt tArgs136_1 tRes136_1) (orR (tabAt tArgs136_2 tRes136_2) (orR (tabAt tArgs136_3 tRes136_3) (orR (tabAt tArgs136_4 tRes136_4) (orR (tabAt tArgs136_5 tRes136_5) (orR (tabAt tArgs136_6 tRes136_6) (orR (tabAt tArgs136_7 tRes136_7) (tabAt tArgs136_8 tRes136_8)))))))
/-- with types and codes as they are spelt, too -/
def lrC : Cfg := { lr with ext := fun f => cnd (Nat.beq f 136) (some fun _ => tab136) (cnd (Nat.beq f 138) (some fun _ => tabAt tArgs138_1 tRes138_1) (lrB.ext f)) }
end
end Go.Proofs.YtobejienmopklaaGreatDoor.Ev
