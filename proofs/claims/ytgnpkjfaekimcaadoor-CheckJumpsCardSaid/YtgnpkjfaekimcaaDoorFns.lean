/- The functions, as the second machine has them. Printed by program. -/
import Derived.Test.YtgnpkjfaekimcaaDoorAvD
import Derived.Test.YtgnpkjfaekimcaaDoorAvD
import Derived.Test.YtgnpkjfaekimcaaDoorAvC
set_option linter.unusedVariables false
set_option linter.unusedSimpArgs false
set_option linter.unusedSectionVars false
namespace Go.Av
/-- gosem.cut.init -/
def pf2 : PFunc := ⟨[], [],
  (.reg [q (.call (.c (.f 1 [] [])) [])])⟩
/-- solenoid/solenoidlaw12.CheckHeights -/
def lp3_1 : PCode :=
  (.seq (.seq (.reg [q (.mv (.v 4)), q (.mv (.v 0)), qv 12 (.bin .lss (.r 1) (.r 0))])
  (.cond (.v 12)
   .skip
   (.exit 0)))
  (.seq (.blk 1 (.reg [q (.mv (.v 3)), q (.mv (.v 1)), q (.mv (.v 4)), ⟨.call (.c (.f 11 [] [])) [(.r 2), (.r 1), (.r 0)], none, none, .full, .sh⟩, qv 3 (.mv (.r 0))]))
  (.reg [q (.mv (.v 4)), q (.bin .add (.r 0) (.c (.i .i64 1))), qv 4 (.mv (.r 0))])))
def pf3 : PFunc := ⟨[(some 0), (some 1), none, none, none, none, none, none, none, none, none, none, none, none, none, none], [.v 2],
  (.seq (.reg [qv 2 (.mv (.c (.b false)))])
  (.seq (.seq (.reg [q (.call (.c (.f 9 [] [])) []), qv 11 (.un .not (.r 0))])
  (.cond (.v 11)
   (.seq (.reg [qv 2 (.mv (.c (.b false)))])
   .ret)
   .skip))
  (.seq (.reg [q (.mv (.v 0)), q (.call (.c (.f 10 [] [])) [(.r 0), (.c (.i .i64 11))]), q (.mv (.v 1)), q (.call (.c (.f 10 [] [])) [(.r 0), (.c (.i .i64 6))]), q (.bin .add (.c (.i .i64 1)) (.r 0)), qv 0 (.mv (.r 3)), qv 1 (.mv (.r 1))])
  (.seq (.reg [⟨.mv (.c .nils), none, (some 3), .full, (.own 1)⟩])
  (.seq (.seq (.reg [qv 4 (.mv (.c (.i .i64 0)))])
  (.blk 0 (.loop lp3_1)))
  (.seq (.reg [q (.buildSl 0 1 [(.i .u8 0)] []), q (.mv (.v 3)), ⟨.append 1 1 (.r 1) (.r 0), none, none, .full, (.own 1)⟩, q (.buildSl 1 1 [(.i .u8 0)] [(0, 1, (.c (.i .u8 0)))]), q (.append 1 1 (.r 1) (.r 0)), q (.buildSl 1 1 [.nils] [(0, 1, (.r 0))]), q (.build [.nils, .nils, .nils] [(2, 1, (.r 0))]), q (.call (.c (.f 12 [] [])) [(.r 0), (.c (.i .i64 0))]), q (.mv (.r 0)), q (.ext 0 (.r 0)), q (.ext 1 (.r 1)), qv 5 (.mv (.r 1)), qv 6 (.mv (.r 1))])
  (.seq (.seq (.reg [q (.mv (.v 0)), qv 13 (.bin .gtr (.r 0) (.c (.i .i64 8)))])
  (.cond (.v 13)
   (.seq (.reg [q (.mv (.v 6)), q (.bin .eql (.r 0) (.c (.i .i64 18))), q (.mv (.r 0)), qg 0 true (.mv (.v 5)), qg 1 true (.bin .eql (.r 0) (.c (.i .i64 0))), q (.pick (.r 2) (.r 0) (.c (.b false))), qv 2 (.mv (.r 0))])
   .ret)
   .skip))
  (.seq (.seq (.reg [q (.mv (.v 6)), q (.bin .neq (.r 0) (.c (.i .i64 0))), q (.mv (.r 0)), qg 0 false (.mv (.v 5)), qg 1 false (.mv (.v 0)), qg 2 false (.bin .neq (.r 1) (.r 0)), qv 14 (.pick (.r 3) (.c (.b true)) (.r 0))])
  (.cond (.v 14)
   (.seq (.reg [qv 2 (.mv (.c (.b false)))])
   .ret)
   .skip))
  (.seq (.reg [q (.buildSl 0 1 [(.i .u8 0)] []), q (.mv (.v 3)), ⟨.append 1 1 (.r 1) (.r 0), none, none, .full, (.own 1)⟩, q (.mv (.v 3)), q (.len 1 (.r 0)), q (.conv .u8 (.r 0)), q (.buildSl 4 1 [(.i .u8 0)] [(0, 1, (.c (.i .u8 24))), (1, 1, (.c (.i .u8 0))), (2, 1, (.c (.i .u8 18))), (3, 1, (.r 0))]), q (.append 1 1 (.r 4) (.r 0)), qv 7 (.mv (.r 0))])
  (.seq (.reg [q (.mv (.v 7)), q (.buildSl 1 1 [.nils] [(0, 1, (.r 0))]), q (.build [.nils, .nils, .nils] [(2, 1, (.r 0))]), q (.call (.c (.f 12 [] [])) [(.r 0), (.c (.i .i64 0))]), q (.mv (.r 0)), q (.ext 0 (.r 0)), q (.ext 1 (.r 1)), q (.mv (.r 1)), qv 8 (.mv (.r 1))])
  (.seq (.reg [q (.buildSl 0 1 [(.i .u8 0)] []), q (.mv (.v 3)), ⟨.append 1 1 (.r 1) (.r 0), none, none, .full, (.own 1)⟩, q (.mv (.v 3)), q (.len 1 (.r 0)), q (.conv .u8 (.r 0)), q (.buildSl 5 1 [(.i .u8 0)] [(0, 1, (.c (.i .u8 24))), (1, 1, (.c (.i .u8 0))), (2, 1, (.c (.i .u8 22))), (3, 1, (.c (.i .u8 18))), (4, 1, (.r 0))]), q (.append 1 1 (.r 4) (.r 0)), qv 7 (.mv (.r 0))])
  (.seq (.reg [q (.mv (.v 7)), q (.buildSl 1 1 [.nils] [(0, 1, (.r 0))]), q (.build [.nils, .nils, .nils] [(2, 1, (.r 0))]), q (.call (.c (.f 12 [] [])) [(.r 0), (.c (.i .i64 0))]), q (.mv (.r 0)), q (.ext 0 (.r 0)), q (.ext 1 (.r 1)), qv 9 (.mv (.r 1)), qv 10 (.mv (.r 1))])
  (.seq (.seq (.reg [q (.mv (.v 0)), qv 15 (.bin .eql (.r 0) (.c (.i .i64 8)))])
  (.cond (.v 15)
   (.seq (.reg [q (.mv (.v 8)), q (.bin .eql (.r 0) (.c (.i .i64 18))), q (.mv (.r 0)), qg 0 true (.mv (.v 10)), qg 1 true (.bin .eql (.r 0) (.c (.i .i64 18))), q (.pick (.r 2) (.r 0) (.c (.b false))), qv 2 (.mv (.r 0))])
   .ret)
   .skip))
  (.seq (.reg [q (.mv (.v 8)), q (.bin .eql (.r 0) (.c (.i .i64 18))), q (.mv (.r 0)), qg 0 true (.mv (.v 10)), qg 1 true (.bin .eql (.r 0) (.c (.i .i64 0))), q (.pick (.r 2) (.r 0) (.c (.b false))), q (.mv (.r 0)), qg 0 true (.mv (.v 9)), qg 1 true (.mv (.v 0)), qg 2 true (.bin .add (.r 0) (.c (.i .i64 1))), qg 3 true (.bin .eql (.r 2) (.r 0)), q (.pick (.r 4) (.r 0) (.c (.b false))), qv 2 (.mv (.r 0))])
  .ret))))))))))))))⟩
/-- solenoid/solenoidlaw12.CheckJoins -/
def pf4 : PFunc := ⟨[(some 0), (some 1), (some 2), none, none, none, none, none, none, none, none, none], [.v 3],
  (.seq (.reg [qv 3 (.mv (.c (.b false)))])
  (.seq (.seq (.reg [q (.call (.c (.f 9 [] [])) []), qv 10 (.un .not (.r 0))])
  (.cond (.v 10)
   (.seq (.reg [qv 3 (.mv (.c (.b false)))])
   .ret)
   .skip))
  (.seq (.reg [q (.mv (.v 0)), q (.call (.c (.f 10 [] [])) [(.r 0), (.c (.i .i64 6))]), q (.bin .add (.c (.i .i64 1)) (.r 0)), q (.mv (.v 1)), q (.call (.c (.f 10 [] [])) [(.r 0), (.c (.i .i64 6))]), q (.bin .add (.c (.i .i64 1)) (.r 0)), qv 0 (.mv (.r 3)), qv 1 (.mv (.r 1))])
  (.seq (.reg [⟨.call (.c (.f 11 [] [])) [(.c .nils), (.c (.i .i64 1)), (.c (.i .i64 1))], none, none, .full, .sh⟩, qv 4 (.mv (.r 0))])
  (.seq (.reg [q (.mv (.v 4)), q (.buildSl 2 1 [(.i .u8 0)] [(0, 1, (.c (.i .u8 19))), (1, 1, (.c (.i .u8 24)))]), ⟨.append 1 1 (.r 1) (.r 0), none, none, .full, (.own 1)⟩, qv 4 (.mv (.r 0))])
  (.seq (.reg [q (.mv (.v 4)), q (.mv (.v 0)), ⟨.call (.c (.f 11 [] [])) [(.r 1), (.r 0), (.c (.i .i64 1))], none, none, .full, .sh⟩, qv 4 (.mv (.r 0))])
  (.seq (.reg [q (.mv (.v 4)), q (.buildSl 2 1 [(.i .u8 0)] [(0, 1, (.c (.i .u8 18))), (1, 1, (.c (.i .u8 34)))]), ⟨.append 1 1 (.r 1) (.r 0), none, none, .full, (.own 1)⟩, qv 4 (.mv (.r 0))])
  (.seq (.reg [q (.mv (.v 4)), q (.mv (.v 1)), ⟨.call (.c (.f 11 [] [])) [(.r 1), (.r 0), (.c (.i .i64 1))], none, none, .full, .sh⟩, qv 4 (.mv (.r 0))])
  (.seq (.reg [q (.mv (.v 4)), q (.buildSl 2 1 [(.i .u8 0)] [(0, 1, (.c (.i .u8 22))), (1, 1, (.c (.i .u8 0)))]), ⟨.append 1 1 (.r 1) (.r 0), none, none, .full, (.own 1)⟩, qv 4 (.mv (.r 0))])
  (.seq (.reg [q (.mv (.v 4)), q (.buildSl 1 1 [.nils] [(0, 1, (.r 0))]), q (.build [.nils, .nils, .nils] [(2, 1, (.r 0))]), q (.call (.c (.f 12 [] [])) [(.r 0), (.c (.i .i64 0))]), q (.mv (.r 0)), q (.ext 0 (.r 0)), q (.ext 1 (.r 1)), qv 5 (.mv (.r 1)), qv 6 (.mv (.r 1))])
  (.seq (.reg [q (.buildSl 1 1 [(.i .u8 0)] [(0, 1, (.c (.i .u8 0)))]), q (.mv (.v 2)), q (.call (.c (.f 10 [] [])) [(.r 0), (.c (.i .i64 30))]), q (.conv .u8 (.r 0)), q (.buildSl 1 1 [(.i .u8 0)] [(0, 1, (.r 0))]), q (.append 1 1 (.r 4) (.r 0)), qv 7 (.mv (.r 0))])
  (.seq (.reg [q (.mv (.v 7)), q (.buildSl 1 1 [.nils] [(0, 1, (.r 0))]), q (.build [.nils, .nils, .nils] [(2, 1, (.r 0))]), q (.call (.c (.f 12 [] [])) [(.r 0), (.c (.i .i64 0))]), q (.mv (.r 0)), q (.ext 0 (.r 0)), q (.ext 1 (.r 1)), q (.mv (.r 1)), qv 8 (.mv (.r 1))])
  (.seq (.reg [q (.mv (.v 7)), q (.call (.c (.f 13 [] [])) [(.r 0)]), q (.mv (.r 0)), q (.ext 0 (.r 0)), q (.ext 1 (.r 1)), q (.mv (.r 1)), qv 9 (.mv (.r 1))])
  (.seq (.seq (.reg [q (.mv (.v 2)), q (.call (.c (.f 10 [] [])) [(.r 0), (.c (.i .i64 30))]), q (.bin .eql (.r 0) (.c (.i .i64 18))), q (.mv (.r 0)), qg 0 false (.mv (.v 2)), qg 1 false (.call (.c (.f 10 [] [])) [(.r 0), (.c (.i .i64 30))]), qg 2 false (.bin .eql (.r 0) (.c (.i .i64 19))), qv 11 (.pick (.r 3) (.c (.b true)) (.r 0))])
  (.cond (.v 11)
   (.seq (.reg [qv 3 (.mv (.c (.b true)))])
   .ret)
   .skip))
  (.seq (.reg [q (.mv (.v 6)), q (.bin .eql (.r 0) (.c (.i .i64 0))), q (.mv (.v 0)), q (.mv (.v 1)), q (.bin .eql (.r 1) (.r 0)), q (.eq false 0 (.r 3) (.r 0)), q (.mv (.r 0)), qg 0 true (.mv (.v 6)), qg 1 true (.bin .eql (.r 0) (.c (.i .i64 0))), qg 2 true (.mv (.r 0)), qg 0 true (.mv (.v 5)), qg 1 true (.bin .eql (.r 0) (.c (.i .i64 1))), qg 5 true (.pick (.r 2) (.r 0) (.c (.b false))), qg 6 true (.mv (.r 0)), qg 0 false (.mv (.v 6)), qg 1 false (.bin .eql (.r 0) (.c (.i .i64 19))), qg 9 true (.pick (.r 2) (.c (.b true)) (.r 0)), q (.pick (.r 10) (.r 0) (.c (.b false))), q (.mv (.r 0)), qg 0 true (.mv (.v 8)), qg 1 true (.bin .eql (.r 0) (.c (.i .i64 0))), qg 2 true (.mv (.v 9)), qg 3 true (.bin .eql (.r 0) (.c (.i .i64 0))), qg 4 true (.eq false 0 (.r 2) (.r 0)), q (.pick (.r 5) (.r 0) (.c (.b false))), qv 3 (.mv (.r 0))])
  .ret)))))))))))))))⟩
/-- solenoid/solenoidlaw12.CheckJumps -/
def lp5_1 : PCode :=
  (.seq (.seq (.reg [q (.mv (.v 6)), q (.mv (.v 0)), qv 15 (.bin .lss (.r 1) (.r 0))])
  (.cond (.v 15)
   .skip
   (.exit 0)))
  (.seq (.blk 1 (.seq (.reg [q (.mv (.v 5)), q (.mv (.v 4)), q (.len 1 (.r 0)), q (.buildSl 1 1 [(.i .i64 0)] [(0, 1, (.r 0))]), ⟨.append 1 8 (.r 3) (.r 0), none, none, .full, (.own 1)⟩, qv 5 (.mv (.r 0))])
  (.reg [q (.mv (.v 4)), q (.mv (.v 6)), q (.bin .rem (.r 0) (.c (.i .i64 2))), ⟨.call (.c (.f 11 [] [])) [(.r 2), (.c (.i .i64 1)), (.r 0)], none, none, .full, .sh⟩, qv 4 (.mv (.r 0))])))
  (.reg [q (.mv (.v 6)), q (.bin .add (.r 0) (.c (.i .i64 1))), qv 6 (.mv (.r 0))])))
def lp5_2 : PCode :=
  (.seq (.seq (.reg [q (.mv (.v 8)), q (.mv (.v 5)), q (.len 1 (.r 0)), qv 17 (.bin .lss (.r 2) (.r 0))])
  (.cond (.v 17)
   .skip
   (.exit 2)))
  (.seq (.blk 3 (.reg [q (.mv (.v 7)), q (.mv (.r 0)), qg 0 false (.mv (.v 5)), qg 1 false (.mv (.v 8)), qg 2 false (.iaS 1 (.r 1) (.r 0)), qg 3 false (.load none (.r 0)), qg 4 false (.mv (.v 1)), qg 5 false (.bin .eql (.r 1) (.r 0)), q (.pick (.r 6) (.c (.b true)) (.r 0)), qv 7 (.mv (.r 0))]))
  (.reg [q (.mv (.v 8)), q (.bin .add (.r 0) (.c (.i .i64 1))), qv 8 (.mv (.r 0))])))
def pf5 : PFunc := ⟨[(some 0), (some 1), (some 2), none, none, none, none, none, none, none, none, none, none, none, none, none, none, none], [.v 3],
  (.seq (.reg [qv 3 (.mv (.c (.b false)))])
  (.seq (.seq (.reg [q (.call (.c (.f 9 [] [])) []), qv 14 (.un .not (.r 0))])
  (.cond (.v 14)
   (.seq (.reg [qv 3 (.mv (.c (.b false)))])
   .ret)
   .skip))
  (.seq (.reg [q (.mv (.v 0)), q (.call (.c (.f 10 [] [])) [(.r 0), (.c (.i .i64 6))]), q (.mv (.v 1)), q (.call (.c (.f 10 [] [])) [(.r 0), (.c (.i .i64 90))]), qv 0 (.mv (.r 2)), qv 1 (.mv (.r 1))])
  (.seq (.reg [⟨.mv (.c .nils), none, (some 4), .full, (.own 1)⟩])
  (.seq (.reg [⟨.mv (.c .nils), none, (some 5), .full, (.own 1)⟩])
  (.seq (.seq (.reg [qv 6 (.mv (.c (.i .i64 0)))])
  (.blk 0 (.loop lp5_1)))
  (.seq (.reg [q (.mv (.v 5)), q (.mv (.v 4)), q (.len 1 (.r 0)), q (.mv (.v 4)), q (.len 1 (.r 0)), q (.bin .add (.r 0) (.c (.i .i64 2))), q (.buildSl 2 1 [(.i .i64 0)] [(0, 1, (.r 3)), (1, 1, (.r 0))]), ⟨.append 1 8 (.r 6) (.r 0), none, none, .full, (.own 1)⟩, qv 5 (.mv (.r 0))])
  (.seq (.seq (.reg [q (.mv (.v 2)), q (.mv (.r 0)), qg 0 true (.mv (.v 0)), qg 1 true (.bin .gtr (.r 0) (.c (.i .i64 0))), qv 16 (.pick (.r 2) (.r 0) (.c (.b false)))])
  (.cond (.v 16)
   (.reg [q (.mv (.v 4)), q (.mv (.v 1)), q (.conv .u8 (.r 0)), q (.buildSl 3 1 [(.i .u8 0)] [(0, 1, (.c (.i .u8 19))), (1, 1, (.r 0)), (2, 1, (.c (.i .u8 0)))]), ⟨.append 1 1 (.r 3) (.r 0), none, none, .full, (.own 1)⟩, qv 4 (.mv (.r 0))])
   (.reg [q (.mv (.v 4)), q (.mv (.v 1)), q (.conv .u8 (.r 0)), q (.buildSl 3 1 [(.i .u8 0)] [(0, 1, (.c (.i .u8 18))), (1, 1, (.r 0)), (2, 1, (.c (.i .u8 0)))]), ⟨.append 1 1 (.r 3) (.r 0), none, none, .full, (.own 1)⟩, qv 4 (.mv (.r 0))])))
  (.seq (.reg [qv 7 (.mv (.c (.b false)))])
  (.seq (.seq (.reg [qv 8 (.mv (.c (.i .i64 0)))])
  (.blk 2 (.loop lp5_2)))
  (.seq (.reg [q (.mv (.v 4)), q (.buildSl 1 1 [.nils] [(0, 1, (.r 0))]), q (.build [.nils, .nils, .nils] [(2, 1, (.r 0))]), qv 9 (.box (.c (.agg [.nils, .nils, .nils]))), q (.store 3 (.r 0) (.r 1))])
  (.seq (.reg [q (.load (some 3) (.v 9)), q (.call (.c (.f 12 [] [])) [(.r 0), (.c (.i .i64 0))]), q (.mv (.r 0)), q (.ext 0 (.r 0)), q (.ext 1 (.r 1)), q (.mv (.r 1)), qv 10 (.mv (.r 1))])
  (.seq (.reg [q (.load (some 3) (.v 9)), q (.call (.c (.f 14 [] [])) [(.r 0), (.c (.i .i64 0))]), q (.mv (.r 0)), q (.ext 0 (.r 0)), q (.ext 1 (.r 1)), q (.mv (.r 1)), qv 11 (.mv (.r 1))])
  (.seq (.reg [q (.buildSl 0 1 [(.i .u8 0)] []), q (.mv (.v 4)), q (.mv (.v 4)), q (.len 1 (.r 0)), q (.bin .sub (.r 0) (.c (.i .i64 3))), q (.slSl 1 (.r 3) none (some (.r 0)) none), q (.append 1 1 (.r 5) (.r 0)), qv 12 (.mv (.r 0))])
  (.seq (.reg [q (.mv (.v 12)), q (.buildSl 1 1 [.nils] [(0, 1, (.r 0))]), q (.build [.nils, .nils, .nils] [(2, 1, (.r 0))]), q (.call (.c (.f 12 [] [])) [(.r 0), (.c (.i .i64 0))]), q (.mv (.r 0)), q (.ext 0 (.r 0)), q (.ext 1 (.r 1)), q (.mv (.r 1)), qv 13 (.mv (.r 1))])
  (.seq (.reg [q (.mv (.v 10)), q (.mv (.v 11)), q (.bin .eql (.r 1) (.r 0)), q (.mv (.r 0)), qg 0 true (.mv (.v 7)), qg 1 true (.mv (.r 0)), qg 0 false (.mv (.v 10)), qg 1 false (.bin .eql (.r 0) (.c (.i .i64 17))), qg 4 true (.pick (.r 2) (.c (.b true)) (.r 0)), q (.pick (.r 5) (.r 0) (.c (.b false))), q (.mv (.r 0)), qg 0 true (.mv (.v 7)), qg 1 true (.un .not (.r 0)), qg 2 true (.mv (.r 0)), qg 0 false (.mv (.v 10)), qg 1 false (.bin .neq (.r 0) (.c (.i .i64 17))), qg 5 true (.pick (.r 2) (.c (.b true)) (.r 0)), q (.pick (.r 6) (.r 0) (.c (.b false))), q (.mv (.r 0)), qg 0 true (.mv (.v 13)), qg 1 true (.bin .eql (.r 0) (.c (.i .i64 17))), q (.pick (.r 2) (.r 0) (.c (.b false))), qv 3 (.mv (.r 0))])
  .ret))))))))))))))))⟩
/-- solenoid/solenoidlaw12.CheckBears -/
def pf6 : PFunc := ⟨[(some 0), (some 1), none, none, none, none, none, none, none, none, none, none, none, none, none, none, none, none, none], [.v 2],
  (.seq (.reg [qv 2 (.mv (.c (.b false)))])
  (.seq (.seq (.reg [q (.call (.c (.f 9 [] [])) []), qv 8 (.un .not (.r 0))])
  (.cond (.v 8)
   (.seq (.reg [qv 2 (.mv (.c (.b false)))])
   .ret)
   .skip))
  (.seq (.reg [q (.mv (.v 1)), q (.call (.c (.f 10 [] [])) [(.r 0), (.c (.i .i64 256))]), qv 1 (.mv (.r 0))])
  (.seq (.reg [q (.call (.c (.f 15 [] [])) [(.c (.b false))]), q (.buildSl 3 1 [(.i .i64 0)] [(0, 1, (.c (.i .i64 1))), (1, 1, (.c (.i .i64 2))), (2, 1, (.c (.i .i64 3)))]), q (.build [.nils, .nils, .nils] [(0, 1, (.r 1)), (1, 1, (.r 0))]), qv 3 (.box (.c (.agg [.nils, .nils, .nils]))), q (.store 3 (.r 0) (.r 1))])
  (.seq (.reg [qv 4 (.mv (.c (.b false))), qv 5 (.mv (.c (.i .i64 12)))])
  (.seq (.reg [⟨.mv (.c .nils), none, (some 6), .full, (.own 1)⟩])
  (.seq (.seq (.reg [q (.mv (.v 0)), qv 9 (.call (.c (.f 10 [] [])) [(.r 0), (.c (.i .i64 9))])])
  (.blk 0 (.seq (.reg [q (.bin .eql (.v 9) (.c (.i .i64 0))), qv 10 (.mv (.r 0))])
  (.cond (.v 10)
   (.reg [q (.mv (.v 1)), q (.conv .u8 (.r 0)), ⟨.buildSl 2 1 [(.i .u8 0)] [(0, 1, (.c (.i .u8 2))), (1, 1, (.r 0))], none, none, .full, (.own 1)⟩, q (.mv (.v 1)), q (.bin .lss (.r 0) (.c (.i .i64 3))), qv 6 (.mv (.r 2)), qv 4 (.mv (.r 1)), qv 5 (.mv (.c (.i .i64 2)))])
   (.seq (.reg [q (.bin .eql (.v 9) (.c (.i .i64 1))), qv 11 (.mv (.r 0))])
   (.cond (.v 11)
    (.reg [q (.mv (.v 1)), q (.conv .u8 (.r 0)), ⟨.buildSl 2 1 [(.i .u8 0)] [(0, 1, (.c (.i .u8 3))), (1, 1, (.r 0))], none, none, .full, (.own 1)⟩, q (.mv (.v 1)), q (.bin .lss (.r 0) (.c (.i .i64 19))), qv 6 (.mv (.r 2)), qv 4 (.mv (.r 1))])
    (.seq (.reg [q (.bin .eql (.v 9) (.c (.i .i64 2))), qv 12 (.mv (.r 0))])
    (.cond (.v 12)
     (.reg [q (.mv (.v 1)), q (.conv .u8 (.r 0)), ⟨.buildSl 4 1 [(.i .u8 0)] [(0, 1, (.c (.i .u8 24))), (1, 1, (.c (.i .u8 0))), (2, 1, (.c (.i .u8 5))), (3, 1, (.r 0))], none, none, .full, (.own 1)⟩, q (.mv (.v 1)), q (.bin .eql (.r 0) (.c (.i .i64 4))), qv 6 (.mv (.r 2)), qv 4 (.mv (.r 1))])
     (.seq (.reg [q (.bin .eql (.v 9) (.c (.i .i64 3))), qv 13 (.mv (.r 0))])
     (.cond (.v 13)
      (.reg [q (.mv (.v 1)), q (.conv .u8 (.r 0)), ⟨.buildSl 6 1 [(.i .u8 0)] [(0, 1, (.c (.i .u8 24))), (1, 1, (.c (.i .u8 0))), (2, 1, (.c (.i .u8 24))), (3, 1, (.c (.i .u8 1))), (4, 1, (.c (.i .u8 6))), (5, 1, (.r 0))], none, none, .full, (.own 1)⟩, q (.mv (.v 1)), q (.bin .eql (.r 0) (.c (.i .i64 4))), qv 6 (.mv (.r 2)), qv 4 (.mv (.r 1))])
      (.seq (.reg [q (.bin .eql (.v 9) (.c (.i .i64 4))), qv 14 (.mv (.r 0))])
      (.cond (.v 14)
       (.reg [q (.mv (.v 1)), q (.conv .u8 (.r 0)), ⟨.buildSl 2 1 [(.i .u8 0)] [(0, 1, (.c (.i .u8 27))), (1, 1, (.r 0))], none, none, .full, (.own 1)⟩, q (.mv (.v 1)), q (.bin .eql (.r 0) (.c (.i .i64 7))), q (.mv (.r 0)), qg 0 false (.mv (.v 1)), qg 1 false (.bin .eql (.r 0) (.c (.i .i64 13))), q (.pick (.r 2) (.c (.b true)) (.r 0)), qv 6 (.mv (.r 6)), qv 4 (.mv (.r 1))])
       (.seq (.reg [q (.bin .eql (.v 9) (.c (.i .i64 5))), qv 15 (.mv (.r 0))])
       (.cond (.v 15)
        (.reg [q (.mv (.v 1)), q (.conv .u8 (.r 0)), ⟨.buildSl 2 1 [(.i .u8 0)] [(0, 1, (.c (.i .u8 24))), (1, 1, (.r 0))], none, none, .full, (.own 1)⟩, q (.mv (.v 1)), q (.bin .lss (.r 0) (.c (.i .i64 4))), qv 6 (.mv (.r 2)), qv 4 (.mv (.r 1)), qv 5 (.mv (.c (.i .i64 1)))])
        (.seq (.reg [q (.bin .eql (.v 9) (.c (.i .i64 6))), qv 16 (.mv (.r 0))])
        (.cond (.v 16)
         (.reg [q (.mv (.v 1)), q (.conv .u8 (.r 0)), ⟨.buildSl 4 1 [(.i .u8 0)] [(0, 1, (.c (.i .u8 24))), (1, 1, (.c (.i .u8 0))), (2, 1, (.c (.i .u8 25))), (3, 1, (.r 0))], none, none, .full, (.own 1)⟩, q (.mv (.v 1)), q (.bin .lss (.r 0) (.c (.i .i64 4))), qv 6 (.mv (.r 2)), qv 4 (.mv (.r 1)), qv 5 (.mv (.c (.i .i64 1)))])
         (.seq (.reg [q (.bin .eql (.v 9) (.c (.i .i64 7))), qv 17 (.mv (.r 0))])
         (.cond (.v 17)
          (.reg [q (.mv (.v 1)), q (.conv .u8 (.r 0)), ⟨.buildSl 2 1 [(.i .u8 0)] [(0, 1, (.c (.i .u8 20))), (1, 1, (.r 0))], none, none, .full, (.own 1)⟩, q (.mv (.v 1)), q (.bin .lss (.r 0) (.c (.i .i64 2))), qv 6 (.mv (.r 2)), qv 4 (.mv (.r 1)), qv 5 (.mv (.c (.i .i64 20)))])
          (.seq (.reg [q (.bin .eql (.v 9) (.c (.i .i64 8))), qv 18 (.mv (.r 0))])
          (.cond (.v 18)
           (.reg [q (.mv (.v 1)), q (.conv .u8 (.r 0)), ⟨.buildSl 4 1 [(.i .u8 0)] [(0, 1, (.c (.i .u8 24))), (1, 1, (.c (.i .u8 0))), (2, 1, (.c (.i .u8 23))), (3, 1, (.r 0))], none, none, .full, (.own 1)⟩, q (.mv (.v 1)), q (.bin .geq (.r 0) (.c (.i .i64 1))), q (.mv (.r 0)), qg 0 true (.mv (.v 1)), qg 1 true (.bin .leq (.r 0) (.c (.i .i64 6))), q (.pick (.r 2) (.r 0) (.c (.b false))), qv 6 (.mv (.r 6)), qv 4 (.mv (.r 1)), qv 5 (.mv (.c (.i .i64 3)))])
           .skip))))))))))))))))))))
  (.seq (.reg [q (.mv (.v 6)), q (.buildSl 1 1 [(.i .u8 0)] [(0, 1, (.c (.i .u8 0)))]), q (.append 1 1 (.r 1) (.r 0)), q (.buildSl 1 1 [(.i .u8 0)] [(0, 1, (.c (.i .u8 0)))]), q (.buildSl 2 1 [.nils] [(0, 1, (.r 1)), (1, 1, (.r 0))]), q (.faddr 2 (.v 3)), q (.store 1 (.r 0) (.r 1))])
  (.seq (.reg [q (.load (some 3) (.v 3)), q (.call (.c (.f 12 [] [])) [(.r 0), (.c (.i .i64 0))]), q (.mv (.r 0)), q (.ext 0 (.r 0)), q (.ext 1 (.r 1)), q (.mv (.r 1)), qv 7 (.mv (.r 1))])
  (.seq (.reg [q (.mv (.v 4)), q (.mv (.r 0)), qg 0 true (.mv (.v 7)), qg 1 true (.bin .eql (.r 0) (.c (.i .i64 0))), q (.pick (.r 2) (.r 0) (.c (.b false))), q (.mv (.r 0)), qg 0 false (.mv (.v 4)), qg 1 false (.un .not (.r 0)), qg 2 false (.mv (.r 0)), qg 0 true (.mv (.v 7)), qg 1 true (.mv (.v 5)), qg 2 true (.bin .eql (.r 1) (.r 0)), qg 6 false (.pick (.r 3) (.r 0) (.c (.b false))), q (.pick (.r 7) (.c (.b true)) (.r 0)), qv 2 (.mv (.r 0))])
  .ret))))))))))⟩
/-- solenoid/solenoidlaw12.CheckPushes -/
def pf7 : PFunc := ⟨[(some 0), (some 1), none, none, none, none, none, none, none, none, none], [.v 2],
  (.seq (.reg [qv 2 (.mv (.c (.b false)))])
  (.seq (.seq (.reg [q (.call (.c (.f 9 [] [])) []), qv 8 (.un .not (.r 0))])
  (.cond (.v 8)
   (.seq (.reg [qv 2 (.mv (.c (.b false)))])
   .ret)
   .skip))
  (.seq (.reg [q (.mv (.v 0)), q (.call (.c (.f 10 [] [])) [(.r 0), (.c (.i .i64 9))]), qv 0 (.mv (.r 0))])
  (.seq (.reg [q (.mv (.v 0)), q (.mv (.v 1)), q (.build [(.i .i64 0), (.i .i64 0), (.i .i64 0), (.i .i64 0), (.i .i64 0)] [(2, 1, (.c (.i .i64 1))), (3, 1, (.r 1)), (4, 1, (.r 0))]), ⟨.call (.c (.f 16 [] [])) [(.c .nils), (.r 0)], none, none, .full, .sh⟩, q (.buildSl 1 1 [(.i .u8 0)] [(0, 1, (.c (.i .u8 0)))]), q (.append 1 1 (.r 1) (.r 0)), qv 3 (.mv (.r 0))])
  (.seq (.reg [q (.mv (.v 3)), q (.buildSl 1 1 [.nils] [(0, 1, (.r 0))]), q (.build [.nils, .nils, .nils] [(2, 1, (.r 0))]), q (.call (.c (.f 12 [] [])) [(.r 0), (.c (.i .i64 0))]), q (.mv (.r 0)), q (.ext 0 (.r 0)), q (.ext 1 (.r 1)), qv 4 (.mv (.r 1)), qv 5 (.mv (.r 1))])
  (.seq (.reg [q (.buildSl 6 1 [(.i .i64 0)] [(0, 1, (.c (.i .i64 0))), (1, 1, (.c (.i .i64 0))), (2, 1, (.c (.i .i64 0))), (3, 1, (.c (.i .i64 0))), (4, 1, (.c (.i .i64 (-32768)))), (5, 1, (.c (.i .i64 (-2147483648))))]), qv 6 (.mv (.r 0))])
  (.seq (.reg [q (.buildSl 6 1 [(.i .i64 0)] [(0, 1, (.c (.i .i64 0))), (1, 1, (.c (.i .i64 1))), (2, 1, (.c (.i .i64 255))), (3, 1, (.c (.i .i64 65535))), (4, 1, (.c (.i .i64 32767))), (5, 1, (.c (.i .i64 2147483647)))]), qv 7 (.mv (.r 0))])
  (.seq (.blk 0 (.seq (.reg [q (.mv (.v 0)), q (.bin .lss (.r 0) (.c (.i .i64 1))), q (.mv (.r 0)), qg 0 false (.mv (.v 0)), qg 1 false (.bin .gtr (.r 0) (.c (.i .i64 6))), q (.pick (.r 2) (.c (.b true)) (.r 0)), qv 9 (.mv (.r 0))])
  (.cond (.v 9)
   (.seq (.reg [q (.mv (.v 5)), q (.bin .eql (.r 0) (.c (.i .i64 3))), q (.mv (.r 0)), qg 0 true (.mv (.v 4)), qg 1 true (.bin .eql (.r 0) (.c (.i .i64 0))), q (.pick (.r 2) (.r 0) (.c (.b false))), qv 2 (.mv (.r 0))])
   .ret)
   (.seq (.reg [q (.mv (.v 0)), q (.bin .eql (.r 0) (.c (.i .i64 6))), q (.mv (.r 0)), qg 0 false (.mv (.v 1)), qg 1 false (.mv (.v 6)), qg 2 false (.mv (.v 0)), qg 3 false (.iaS 1 (.r 1) (.r 0)), qg 4 false (.load none (.r 0)), qg 5 false (.bin .geq (.r 4) (.r 0)), qg 6 false (.mv (.r 0)), qg 0 true (.mv (.v 1)), qg 1 true (.mv (.v 7)), qg 2 true (.mv (.v 0)), qg 3 true (.iaS 1 (.r 1) (.r 0)), qg 4 true (.load none (.r 0)), qg 5 true (.bin .leq (.r 4) (.r 0)), qg 13 false (.pick (.r 6) (.r 0) (.c (.b false))), q (.pick (.r 14) (.c (.b true)) (.r 0)), qv 10 (.mv (.r 0))])
   (.cond (.v 10)
    (.seq (.reg [q (.mv (.v 5)), q (.bin .eql (.r 0) (.c (.i .i64 0))), q (.mv (.r 0)), qg 0 true (.mv (.v 4)), qg 1 true (.bin .eql (.r 0) (.c (.i .i64 1))), q (.pick (.r 2) (.r 0) (.c (.b false))), qv 2 (.mv (.r 0))])
    .ret)
    .skip)))))
  (.seq (.reg [q (.mv (.v 5)), q (.bin .eql (.r 0) (.c (.i .i64 11))), q (.mv (.r 0)), qg 0 true (.mv (.v 4)), qg 1 true (.bin .eql (.r 0) (.c (.i .i64 0))), q (.pick (.r 2) (.r 0) (.c (.b false))), qv 2 (.mv (.r 0))])
  .ret)))))))))⟩
/-- solenoid/solenoidlaw12.CheckNone -/
def pf8 : PFunc := ⟨[(some 0), (some 1), none, none, none, none, none, none, none, none], [.v 2],
  (.seq (.reg [qv 2 (.mv (.c (.b false)))])
  (.seq (.seq (.reg [q (.call (.c (.f 9 [] [])) []), qv 8 (.un .not (.r 0))])
  (.cond (.v 8)
   (.seq (.reg [qv 2 (.mv (.c (.b false)))])
   .ret)
   .skip))
  (.seq (.seq (.reg [q (.mv (.v 1)), q (.len 1 (.r 0)), qv 9 (.bin .gtr (.r 0) (.c (.i .i64 100)))])
  (.cond (.v 9)
   (.seq (.reg [qv 2 (.mv (.c (.b true)))])
   .ret)
   .skip))
  (.seq (.reg [q (.mv (.v 1)), q (.buildSl 1 1 [(.i .u8 0)] [(0, 1, (.c (.i .u8 0)))]), q (.buildSl 2 1 [.nils] [(0, 1, (.r 1)), (1, 1, (.r 0))]), q (.build [.nils, .nils, .nils] [(2, 1, (.r 0))]), qv 3 (.box (.c (.agg [.nils, .nils, .nils]))), q (.store 3 (.r 0) (.r 1))])
  (.seq (.reg [q (.load (some 3) (.v 3)), q (.mv (.v 0)), q (.call (.c (.f 12 [] [])) [(.r 1), (.r 0)]), q (.mv (.r 0)), q (.ext 0 (.r 0)), q (.ext 1 (.r 1)), q (.mv (.r 1)), qv 4 (.mv (.r 1))])
  (.seq (.reg [q (.mv (.v 1)), q (.call (.c (.f 13 [] [])) [(.r 0)]), q (.mv (.r 0)), q (.ext 0 (.r 0)), q (.ext 1 (.r 1)), q (.mv (.r 1)), qv 5 (.mv (.r 1))])
  (.seq (.reg [q (.load (some 3) (.v 3)), q (.call (.c (.f 12 [] [])) [(.r 0), (.c (.i .i64 0))]), q (.mv (.r 0)), q (.ext 0 (.r 0)), q (.ext 1 (.r 1)), q (.mv (.r 1)), qv 6 (.mv (.r 1))])
  (.seq (.reg [q (.buildSl 1 1 [.nils] [(0, 1, (.c .nils))]), q (.build [.nils, .nils, .nils] [(2, 1, (.r 0))]), q (.call (.c (.f 12 [] [])) [(.r 0), (.c (.i .i64 0))]), q (.mv (.r 0)), q (.ext 0 (.r 0)), q (.ext 1 (.r 1)), q (.mv (.r 1)), qv 7 (.mv (.r 1))])
  (.seq (.reg [q (.mv (.v 0)), q (.bin .geq (.r 0) (.c (.i .i64 0))), q (.mv (.r 0)), qg 0 true (.mv (.v 0)), qg 1 true (.bin .lss (.r 0) (.c (.i .i64 2))), q (.pick (.r 2) (.r 0) (.c (.b false))), q (.mv (.r 0)), qg 0 false (.mv (.v 4)), qg 1 false (.bin .eql (.r 0) (.c (.i .i64 2))), q (.pick (.r 2) (.c (.b true)) (.r 0)), q (.mv (.r 0)), qg 0 true (.mv (.v 5)), qg 1 true (.bin .eql (.r 0) (.c (.i .i64 0))), qg 2 true (.mv (.r 0)), qg 0 false (.mv (.v 6)), qg 1 false (.mv (.v 5)), qg 2 false (.bin .eql (.r 1) (.r 0)), qg 6 true (.pick (.r 3) (.c (.b true)) (.r 0)), q (.pick (.r 7) (.r 0) (.c (.b false))), q (.mv (.r 0)), qg 0 true (.mv (.v 7)), qg 1 true (.bin .eql (.r 0) (.c (.i .i64 17))), q (.pick (.r 2) (.r 0) (.c (.b false))), qv 2 (.mv (.r 0))])
  .ret)))))))))⟩
/-- solenoid/solenoidlaw12.known -/
def pf9 : PFunc := ⟨[none, none, none, none], [.v 0],
  (.seq (.reg [qv 0 (.mv (.c (.b false)))])
  (.seq (.reg [q (.buildSl 1 1 [(.i .u8 0)] [(0, 1, (.c (.i .u8 0)))]), q (.buildSl 1 1 [.nils] [(0, 1, (.r 0))]), q (.build [.nils, .nils, .nils] [(2, 1, (.r 0))]), q (.call (.c (.f 12 [] [])) [(.r 0), (.c (.i .i64 0))]), q (.mv (.r 0)), q (.ext 0 (.r 0)), q (.ext 1 (.r 1)), qv 1 (.mv (.r 1)), qv 2 (.mv (.r 1))])
  (.seq (.reg [q (.buildSl 1 1 [(.i .u8 0)] [(0, 1, (.c (.i .u8 22)))]), q (.buildSl 1 1 [.nils] [(0, 1, (.r 0))]), q (.build [.nils, .nils, .nils] [(2, 1, (.r 0))]), q (.call (.c (.f 12 [] [])) [(.r 0), (.c (.i .i64 0))]), q (.mv (.r 0)), q (.ext 0 (.r 0)), q (.ext 1 (.r 1)), q (.mv (.r 1)), qv 3 (.mv (.r 1))])
  (.seq (.reg [q (.mv (.v 1)), q (.bin .eql (.r 0) (.c (.i .i64 0))), q (.mv (.r 0)), qg 0 true (.mv (.v 2)), qg 1 true (.bin .eql (.r 0) (.c (.i .i64 0))), q (.pick (.r 2) (.r 0) (.c (.b false))), q (.mv (.r 0)), qg 0 true (.mv (.v 3)), qg 1 true (.bin .eql (.r 0) (.c (.i .i64 18))), q (.pick (.r 2) (.r 0) (.c (.b false))), qv 0 (.mv (.r 0))])
  .ret))))⟩
/-- solenoid/solenoidlaw12.within -/
def pf10 : PFunc := ⟨[(some 0), (some 1), none, none, none], [.v 2],
  (.seq (.reg [qv 2 (.mv (.c (.i .i64 0)))])
  (.seq (.reg [q (.mv (.v 0)), q (.mv (.v 1)), q (.bin .rem (.r 1) (.r 0)), qv 3 (.mv (.r 0))])
  (.seq (.seq (.reg [q (.mv (.v 3)), qv 4 (.bin .lss (.r 0) (.c (.i .i64 0)))])
  (.cond (.v 4)
   (.reg [q (.mv (.v 3)), q (.mv (.v 1)), q (.bin .add (.r 1) (.r 0)), qv 3 (.mv (.r 0))])
   .skip))
  (.seq (.reg [q (.mv (.v 3)), qv 2 (.mv (.r 0))])
  .ret))))⟩
/-- solenoid/solenoidlaw12.pushed -/
def pf11 : PFunc := ⟨[(some 0), (some 1), (some 2), none], [.v 3],
  (.seq (.reg [qv 3 (.mv (.c .nils))])
  (.seq (.reg [q (.mv (.v 0)), q (.mv (.v 1)), q (.mv (.v 1)), q (.mv (.v 2)), q (.call (.c (.f 17 [] [])) [(.r 1), (.r 0)]), q (.build [(.i .i64 0), (.i .i64 0), (.i .i64 0), (.i .i64 0), (.i .i64 0)] [(2, 1, (.c (.i .i64 1))), (3, 1, (.r 3)), (4, 1, (.r 0))]), ⟨.call (.c (.f 16 [] [])) [(.r 5), (.r 0)], none, none, .full, .sh⟩, qv 3 (.mv (.r 0))])
  .ret))⟩
/-- solenoid/check.Func -/
def lp12_1 : PCode :=
  (.seq (.reg [qv 18 (.bin .lss (.v 17) (.v 16))])
  (.seq (.cond (.v 18)
   .skip
   (.exit 0))
  (.seq (.blk 1 (.seq (.reg [q (.iaS 5 (.v 15) (.v 17)), q (.load (some 5) (.r 0)), qv 7 (.box (.c (.agg [(.i .i64 0), (.i .i64 0), (.i .i64 0), (.i .i64 0), (.i .i64 0)]))), q (.store 5 (.r 0) (.r 1))])
  (.reg [qn (.mv (.v 6)), qn (.nilck (.r 0)), qn (.faddr 2 (.r 0)), qn (.load none (.r 0)), qn (.faddr 0 (.v 7)), qn (.load none (.r 0)), qn (.load (some 5) (.v 7)), q (.mupd (.sc 0) (.r 3) (.r 1) (.r 0))])))
  (.reg [q (.bin .add (.v 17) (.c (.i .i64 1))), qv 17 (.mv (.r 0))]))))
def lp12_2 : PCode :=
  (.seq (.reg [qv 22 (.bin .lss (.v 21) (.v 20))])
  (.seq (.cond (.v 22)
   .skip
   (.exit 2))
  (.seq (.blk 3 (.seq (.reg [q (.iaS 5 (.v 19) (.v 21)), q (.load (some 5) (.r 0)), qv 8 (.box (.c (.agg [(.i .i64 0), (.i .i64 0), (.i .i64 0), (.i .i64 0), (.i .i64 0)]))), q (.store 5 (.r 0) (.r 1))])
  (.seq (.reg [qn (.mv (.v 6)), qn (.nilck (.r 0)), qn (.faddr 2 (.r 0)), qn (.load none (.r 0)), qn (.faddr 3 (.v 8)), qn (.load none (.r 0)), qn (.look (.sc 0) (.agg [(.i .i64 0), (.i .i64 0), (.i .i64 0), (.i .i64 0), (.i .i64 0)]) true (.r 2) (.r 0)), qn (.mv (.r 0)), qn (.ext 0 (.r 0)), qn (.ext 1 (.r 1)), qn (.box (.c (.agg [(.i .i64 0), (.i .i64 0), (.i .i64 0), (.i .i64 0), (.i .i64 0)]))), q (.store 5 (.r 0) (.r 2)), qv 9 (.mv (.r 2))])
  (.seq (.reg [q (.mv (.v 9)), q (.un .not (.r 0)), q (.mv (.r 0)), qg 0 true (.faddr 2 (.v 8)), qg 1 true (.load none (.r 0)), qg 2 true (.bin .eql (.r 0) (.c (.i .i64 18))), qg 3 true (.mv (.r 0)), qg 0 false (.faddr 2 (.v 8)), qg 1 false (.load none (.r 0)), qg 2 false (.bin .eql (.r 0) (.c (.i .i64 19))), qg 7 true (.pick (.r 3) (.c (.b true)) (.r 0)), qv 23 (.pick (.r 8) (.r 0) (.c (.b false)))])
  (.cond (.v 23)
   (.seq (.reg [qv 3 (.mv (.c (.i .i64 0))), qv 4 (.mv (.c (.i .i64 17)))])
   .ret)
   .skip)))))
  (.reg [q (.bin .add (.v 21) (.c (.i .i64 1))), qv 21 (.mv (.r 0))]))))
def lp12_3 : PCode :=
  (.blk 5 (.seq (.reg [q (.mv (.v 6)), ⟨.call (.c (.f 20 [] [])) [(.r 0)], none, none, .full, .sh⟩, q (.mv (.r 0)), q (.ext 0 (.r 0)), q (.ext 1 (.r 1)), qv 10 (.mv (.r 1)), qv 11 (.mv (.r 1))])
  (.seq (.seq (.reg [q (.mv (.v 11)), qv 25 (.un .not (.r 0))])
  (.cond (.v 25)
   (.seq (.reg [q (.mv (.v 6)), q (.nilck (.r 0)), q (.faddr 5 (.r 0)), q (.load none (.r 0)), qv 3 (.mv (.r 0)), qv 4 (.mv (.c (.i .i64 0)))])
   .ret)
   .skip))
  (.seq (.reg [q (.mv (.v 6)), q (.mv (.v 10)), ⟨.call (.c (.f 21 [] [])) [(.r 1), (.r 0)], none, none, .full, .sh⟩, qv 12 (.mv (.r 0))])
  (.seq (.reg [q (.mv (.v 12)), qv 26 (.bin .neq (.r 0) (.c (.i .i64 0)))])
  (.cond (.v 26)
   (.seq (.reg [q (.mv (.v 12)), qv 3 (.mv (.c (.i .i64 0))), qv 4 (.mv (.r 1))])
   .ret)
   .skip))))))
def pf12 : PFunc := ⟨[(some 0), (some 1), none, none, none, none, none, none, none, none, none, none, none, none, none, none, none, none, none, none, none, none, none, none, none, none, none], [.v 3, .v 4],
  (.seq (.reg [qv 2 (.box (.v 0)), qv 3 (.mv (.c (.i .i64 0))), qv 4 (.mv (.c (.i .i64 0)))])
  (.seq (.seq (.reg [q (.mv (.v 1)), q (.bin .lss (.r 0) (.c (.i .i64 0))), q (.mv (.r 0)), qg 0 false (.mv (.v 1)), qg 1 false (.faddr 2 (.v 2)), qg 2 false (.load none (.r 0)), qg 3 false (.len 1 (.r 0)), qg 4 false (.bin .geq (.r 3) (.r 0)), qv 13 (.pick (.r 5) (.c (.b true)) (.r 0))])
  (.cond (.v 13)
   (.seq (.reg [qv 3 (.mv (.c (.i .i64 0))), qv 4 (.mv (.c (.i .i64 2)))])
   .ret)
   .skip))
  (.seq (.reg [q (.faddr 2 (.v 2)), q (.load none (.r 0)), q (.mv (.v 1)), q (.iaS 1 (.r 1) (.r 0)), q (.load none (.r 0)), q (.call (.c (.f 18 [] [])) [(.r 0)]), q (.mv (.r 0)), q (.ext 0 (.r 0)), q (.ext 1 (.r 1)), qv 5 (.mv (.r 1)), qv 4 (.mv (.r 1))])
  (.seq (.seq (.reg [q (.mv (.v 4)), qv 14 (.bin .neq (.r 0) (.c (.i .i64 0)))])
  (.cond (.v 14)
   (.seq (.reg [q (.mv (.v 4)), qv 3 (.mv (.c (.i .i64 0))), qv 4 (.mv (.r 1))])
   .ret)
   .skip))
  (.seq (.reg [qn (.load (some 3) (.v 2)), qn (.faddr 0 (.v 2)), qn (.load none (.r 0)), qn (.call (.c (.f 19 [] [])) [(.r 0)]), qn (.build [.nils, .nils, .nils, .nils] [(0, 3, (.r 3)), (3, 1, (.r 0))]), qn (.box (.r 0)), qn (.faddr 2 (.v 2)), qn (.load none (.r 0)), qn (.mv (.v 1)), qn (.iaS 1 (.r 1) (.r 0)), qn (.load none (.r 0)), qn (.len 1 (.r 0)), qn (.mkmap), qn (.mkmap), qn (.mkmap), q (.build [.nilp, (.i .i64 0), .nilm, .nilm, .nilm, (.i .i64 0)] [(0, 1, (.r 9)), (1, 1, (.r 3)), (2, 1, (.r 2)), (3, 1, (.r 1)), (4, 1, (.r 0)), (5, 1, (.c (.i .i64 0)))]), q (.box (.r 0)), qv 6 (.mv (.r 0))])
  (.seq (.seq (.reg [qv 15 (.mv (.v 5)), qv 16 (.len 1 (.r 0)), qv 17 (.mv (.c (.i .i64 0)))])
  (.blk 0 (.loop lp12_1)))
  (.seq (.seq (.reg [qv 19 (.mv (.v 5)), qv 20 (.len 1 (.r 0)), qv 21 (.mv (.c (.i .i64 0)))])
  (.blk 2 (.loop lp12_2)))
  (.seq (.seq (.reg [q (.mv (.v 5)), q (.len 1 (.r 0)), qv 24 (.bin .eql (.r 0) (.c (.i .i64 0)))])
  (.cond (.v 24)
   (.seq (.reg [qv 3 (.mv (.c (.i .i64 0))), qv 4 (.mv (.c (.i .i64 17)))])
   .ret)
   .skip))
  (.seq (.reg [q (.mv (.v 6)), q (.nilck (.r 0)), q (.faddr 3 (.r 0)), q (.load none (.r 0)), q (.mupd (.sc 0) (.r 0) (.c (.i .i64 0)) (.c .nils))])
  (.blk 4 (.loop lp12_3)))))))))))⟩
/-- solenoid/solenoidref10.All -/
def lp13_1 : PCode :=
  (.seq (.seq (.reg [q (.mv (.v 4)), q (.mv (.v 0)), q (.len 1 (.r 0)), qv 7 (.bin .lss (.r 2) (.r 0))])
  (.cond (.v 7)
   .skip
   (.exit 0)))
  (.blk 1 (.seq (.reg [q (.mv (.v 0)), q (.mv (.v 4)), q (.call (.c (.f 22 [] [])) [(.r 1), (.r 0)]), q (.mv (.r 0)), q (.ext 0 (.r 0)), q (.ext 1 (.r 1)), qv 5 (.box (.c (.agg [(.i .i64 0), (.i .i64 0), (.i .i64 0), (.i .i64 0), (.i .i64 0)]))), q (.store 5 (.r 0) (.r 2)), qv 6 (.mv (.r 2))])
  (.seq (.seq (.reg [q (.mv (.v 6)), qv 8 (.bin .neq (.r 0) (.c (.i .i64 0)))])
  (.cond (.v 8)
   (.seq (.reg [q (.mv (.v 6)), qv 1 (.mv (.c .nils)), qv 2 (.mv (.r 1))])
   .ret)
   .skip))
  (.seq (.reg [q (.mv (.v 3)), q (.load (some 5) (.v 5)), q (.buildSl 1 5 [(.i .i64 0), (.i .i64 0), (.i .i64 0), (.i .i64 0), (.i .i64 0)] [(0, 5, (.r 0))]), ⟨.append 5 40 (.r 2) (.r 0), none, none, .full, (.own 5)⟩, qv 3 (.mv (.r 0))])
  (.reg [q (.faddr 1 (.v 5)), q (.load none (.r 0)), qv 4 (.mv (.r 0))]))))))
def pf13 : PFunc := ⟨[(some 0), none, none, none, none, none, none, none, none], [.v 1, .v 2],
  (.seq (.reg [qv 1 (.mv (.c .nils)), qv 2 (.mv (.c (.i .i64 0)))])
  (.seq (.reg [⟨.mv (.c .nils), none, (some 3), .full, (.own 5)⟩])
  (.seq (.reg [qv 4 (.mv (.c (.i .i64 0)))])
  (.seq (.blk 0 (.loop lp13_1))
  (.seq (.reg [q (.mv (.v 3)), qv 1 (.mv (.r 0)), qv 2 (.mv (.c (.i .i64 0)))])
  .ret)))))⟩
/-- solenoid/solenoidref12.Func -/
def lp14_1 : PCode :=
  (.seq (.seq (.reg [q (.mv (.v 7)), q (.mv (.v 5)), q (.len 1 (.r 0)), qv 23 (.bin .lss (.r 2) (.r 0))])
  (.cond (.v 23)
   .skip
   (.exit 0)))
  (.seq (.blk 1 (.seq (.reg [q (.mv (.v 5)), q (.mv (.v 7)), q (.iaS 5 (.r 1) (.r 0)), q (.faddr 2 (.r 0)), q (.load none (.r 0)), q (.bin .eql (.r 0) (.c (.i .i64 18))), q (.mv (.r 0)), qg 0 false (.mv (.v 5)), qg 1 false (.mv (.v 7)), qg 2 false (.iaS 5 (.r 1) (.r 0)), qg 3 false (.faddr 2 (.r 0)), qg 4 false (.load none (.r 0)), qg 5 false (.bin .eql (.r 0) (.c (.i .i64 19))), q (.pick (.r 6) (.c (.b true)) (.r 0)), q (.mv (.r 0)), qg 0 true (.mv (.v 5)), qg 1 true (.mv (.v 5)), qg 2 true (.mv (.v 7)), qg 3 true (.iaS 5 (.r 1) (.r 0)), qg 4 true (.faddr 3 (.r 0)), qg 5 true (.load none (.r 0)), qg 6 true (.call (.c (.f 23 [] [])) [(.r 5), (.r 0)]), qg 7 true (.bin .lss (.r 0) (.c (.i .i64 0))), qv 24 (.pick (.r 8) (.r 0) (.c (.b false)))])
  (.cond (.v 24)
   (.seq (.reg [qv 3 (.mv (.c (.i .i64 0))), qv 4 (.mv (.c (.i .i64 17)))])
   .ret)
   .skip)))
  (.reg [q (.mv (.v 7)), q (.bin .add (.r 0) (.c (.i .i64 1))), qv 7 (.mv (.r 0))])))
def lp14_2 : PCode :=
  (.seq (.seq (.reg [q (.mv (.v 17)), q (.mv (.v 16)), q (.len 1 (.r 0)), qv 29 (.bin .lss (.r 2) (.r 0))])
  (.cond (.v 29)
   .skip
   (.exit 4)))
  (.seq (.blk 5 (.seq (.reg [q (.mv (.v 5)), q (.mv (.v 16)), q (.mv (.v 17)), q (.iaS 1 (.r 1) (.r 0)), q (.load none (.r 0)), q (.call (.c (.f 23 [] [])) [(.r 4), (.r 0)]), qv 18 (.mv (.r 0))])
  (.seq (.seq (.reg [q (.mv (.v 18)), qv 30 (.bin .lss (.r 0) (.c (.i .i64 0)))])
  (.cond (.v 30)
   (.seq (.reg [qv 3 (.mv (.c (.i .i64 0))), qv 4 (.mv (.c (.i .i64 17)))])
   .ret)
   .skip))
  (.seq (.seq (.reg [q (.mv (.v 9)), q (.mv (.v 18)), q (.iaS 1 (.r 1) (.r 0)), q (.load none (.r 0)), qv 31 (.un .not (.r 0))])
  (.cond (.v 31)
   (.seq (.reg [q (.mv (.v 9)), q (.mv (.v 18)), q (.mv (.v 11)), q (.mv (.v 18)), q (.mv (.v 15)), q (.iaS 1 (.r 4) (.r 3)), q (.store 1 (.r 0) (.c (.b true))), q (.iaS 1 (.r 4) (.r 3)), q (.store 1 (.r 0) (.r 3))])
   (.exit 5))
   .skip))
  (.seq (.reg [q (.mv (.v 11)), q (.mv (.v 18)), q (.iaS 1 (.r 1) (.r 0)), q (.load none (.r 0)), q (.mv (.v 15)), q (.call (.c (.f 28 [] [])) [(.r 1), (.r 0)]), qv 19 (.mv (.r 0))])
  (.seq (.reg [q (.mv (.v 19)), qv 32 (.bin .neq (.r 0) (.c (.i .i64 0)))])
  (.cond (.v 32)
   (.seq (.reg [q (.mv (.v 19)), qv 3 (.mv (.c (.i .i64 0))), qv 4 (.mv (.r 1))])
   .ret)
   .skip)))))))
  (.reg [q (.mv (.v 17)), q (.bin .add (.r 0) (.c (.i .i64 1))), qv 17 (.mv (.r 0))])))
def lp14_3 : PCode :=
  (.seq (.seq (.reg [q (.mv (.v 13)), q (.mv (.v 5)), q (.len 1 (.r 0)), qv 25 (.bin .lss (.r 2) (.r 0))])
  (.cond (.v 25)
   .skip
   (.exit 2)))
  (.blk 3 (.seq (.seq (.reg [q (.mv (.v 9)), q (.mv (.v 13)), q (.iaS 1 (.r 1) (.r 0)), q (.load none (.r 0)), q (.un .not (.r 0)), q (.mv (.r 0)), qg 0 false (.mv (.v 10)), qg 1 false (.mv (.v 13)), qg 2 false (.iaS 1 (.r 1) (.r 0)), qg 3 false (.load none (.r 0)), qv 26 (.pick (.r 4) (.c (.b true)) (.r 0))])
  (.cond (.v 26)
   (.seq (.reg [q (.mv (.v 13)), q (.bin .add (.r 0) (.c (.i .i64 1))), qv 13 (.mv (.r 0))])
   (.exit 3))
   .skip))
  (.seq (.reg [q (.mv (.v 10)), q (.mv (.v 13)), q (.iaS 1 (.r 1) (.r 0)), q (.store 1 (.r 0) (.c (.b true)))])
  (.seq (.reg [qn (.load (some 3) (.v 2)), qn (.mv (.v 8)), qn (.mv (.v 5)), qn (.mv (.v 13)), qn (.iaS 5 (.r 1) (.r 0)), qn (.load (some 5) (.r 0)), q (.call (.c (.f 25 [] [])) [(.r 5), (.r 4), (.r 0)]), qv 14 (.mv (.r 0))])
  (.seq (.seq (.reg [q (.mv (.v 14)), qv 27 (.bin .neq (.r 0) (.c (.i .i64 0)))])
  (.cond (.v 27)
   (.seq (.reg [q (.mv (.v 14)), qv 3 (.mv (.c (.i .i64 0))), qv 4 (.mv (.r 1))])
   .ret)
   .skip))
  (.seq (.reg [qn (.mv (.v 8)), qn (.mv (.v 5)), qn (.mv (.v 13)), qn (.iaS 5 (.r 1) (.r 0)), qn (.load (some 5) (.r 0)), qn (.mv (.v 11)), qn (.mv (.v 13)), qn (.iaS 1 (.r 1) (.r 0)), qn (.load none (.r 0)), q (.call (.c (.f 26 [] [])) [(.r 8), (.r 4), (.r 0)]), q (.mv (.r 0)), q (.ext 0 (.r 0)), q (.ext 1 (.r 1)), qv 15 (.mv (.r 1)), qv 14 (.mv (.r 1))])
  (.seq (.seq (.reg [q (.mv (.v 14)), qv 28 (.bin .neq (.r 0) (.c (.i .i64 0)))])
  (.cond (.v 28)
   (.seq (.reg [q (.mv (.v 14)), qv 3 (.mv (.c (.i .i64 0))), qv 4 (.mv (.r 1))])
   .ret)
   .skip))
  (.seq (.reg [q (.mv (.v 12)), q (.mv (.v 11)), q (.mv (.v 13)), q (.iaS 1 (.r 1) (.r 0)), q (.load none (.r 0)), q (.len 1 (.r 0)), q (.mv (.v 15)), q (.len 1 (.r 0)), q (.max [(.r 7), (.r 2), (.r 0)]), qv 12 (.mv (.r 0))])
  (.seq (.reg [q (.mv (.v 5)), q (.mv (.v 13)), q (.iaS 5 (.r 1) (.r 0)), q (.load (some 5) (.r 0)), q (.call (.c (.f 27 [] [])) [(.r 0)]), qv 16 (.mv (.r 0))])
  (.seq (.seq (.reg [qv 17 (.mv (.c (.i .i64 0)))])
  (.blk 4 (.loop lp14_2)))
  (.reg [qv 13 (.mv (.c (.i .i64 0)))]))))))))))))
def pf14 : PFunc := ⟨[(some 0), (some 1), none, none, none, none, none, none, none, none, none, none, none, none, none, none, none, none, none, none, none, none, none, none, none, none, none, none, none, none, none, none, none], [.v 3, .v 4],
  (.seq (.reg [qv 2 (.box (.v 0)), qv 3 (.mv (.c (.i .i64 0))), qv 4 (.mv (.c (.i .i64 0)))])
  (.seq (.seq (.reg [q (.mv (.v 1)), q (.bin .lss (.r 0) (.c (.i .i64 0))), q (.mv (.r 0)), qg 0 false (.mv (.v 1)), qg 1 false (.faddr 2 (.v 2)), qg 2 false (.load none (.r 0)), qg 3 false (.len 1 (.r 0)), qg 4 false (.bin .geq (.r 3) (.r 0)), qv 20 (.pick (.r 5) (.c (.b true)) (.r 0))])
  (.cond (.v 20)
   (.seq (.reg [qv 3 (.mv (.c (.i .i64 0))), qv 4 (.mv (.c (.i .i64 2)))])
   .ret)
   .skip))
  (.seq (.reg [q (.faddr 2 (.v 2)), q (.load none (.r 0)), q (.mv (.v 1)), q (.iaS 1 (.r 1) (.r 0)), q (.load none (.r 0)), q (.call (.c (.f 13 [] [])) [(.r 0)]), q (.mv (.r 0)), q (.ext 0 (.r 0)), q (.ext 1 (.r 1)), qv 5 (.mv (.r 1)), qv 6 (.mv (.r 1))])
  (.seq (.seq (.reg [q (.mv (.v 6)), qv 21 (.bin .neq (.r 0) (.c (.i .i64 0)))])
  (.cond (.v 21)
   (.seq (.reg [q (.mv (.v 6)), qv 3 (.mv (.c (.i .i64 0))), qv 4 (.mv (.r 1))])
   .ret)
   .skip))
  (.seq (.seq (.reg [q (.mv (.v 5)), q (.len 1 (.r 0)), qv 22 (.bin .eql (.r 0) (.c (.i .i64 0)))])
  (.cond (.v 22)
   (.seq (.reg [qv 3 (.mv (.c (.i .i64 0))), qv 4 (.mv (.c (.i .i64 17)))])
   .ret)
   .skip))
  (.seq (.seq (.reg [qv 7 (.mv (.c (.i .i64 0)))])
  (.blk 0 (.loop lp14_1)))
  (.seq (.reg [q (.faddr 0 (.v 2)), q (.load none (.r 0)), q (.call (.c (.f 24 [] [])) [(.r 0)]), qv 8 (.mv (.r 0))])
  (.seq (.reg [q (.mv (.v 5)), q (.len 1 (.r 0)), ⟨.mksl 1 1 [(.b false)] (.r 0) (.r 0), none, none, .full, .obj⟩, qv 9 (.mv (.r 0))])
  (.seq (.reg [q (.mv (.v 5)), q (.len 1 (.r 0)), ⟨.mksl 1 1 [(.b false)] (.r 0) (.r 0), none, none, .full, .obj⟩, qv 10 (.mv (.r 0))])
  (.seq (.reg [q (.mv (.v 5)), q (.len 1 (.r 0)), ⟨.mksl 1 24 [.nils] (.r 0) (.r 0), none, none, .full, .obj⟩, qv 11 (.mv (.r 0))])
  (.seq (.reg [q (.mv (.v 9)), q (.iaS 1 (.r 0) (.c (.i .i64 0))), q (.store 1 (.r 0) (.c (.b true)))])
  (.seq (.reg [qv 12 (.mv (.c (.i .i64 0)))])
  (.seq (.seq (.reg [qv 13 (.mv (.c (.i .i64 0)))])
  (.blk 2 (.loop lp14_3)))
  (.seq (.reg [q (.mv (.v 12)), qv 3 (.mv (.r 0)), qv 4 (.mv (.c (.i .i64 0)))])
  .ret))))))))))))))⟩
/-- solenoid/solenoidlaw12.Syms -/
def pf15 : PFunc := ⟨[(some 0), none, none, none], [.v 1],
  (.seq (.reg [qv 1 (.mv (.c .nils))])
  (.seq (.reg [qv 2 (.mv (.c (.i .i64 3)))])
  (.seq (.seq (.reg [qv 3 (.mv (.v 0))])
  (.cond (.v 3)
   (.reg [qv 2 (.mv (.c (.i .i64 5)))])
   .skip))
  (.seq (.reg [q (.build [(.i .i64 0), (.i .i64 0), (.i .i64 0), .nils] [(0, 1, (.c (.i .i64 5)))]), q (.buildSl 1 1 [(.i .i64 0)] [(0, 1, (.c (.i .i64 0)))]), q (.build [(.s []), (.i .i64 0), (.i .i64 0), (.i .i64 0), .nils, (.b false), .nils] [(0, 1, (.c (.s [110]))), (1, 4, (.r 1)), (5, 1, (.c (.b true))), (6, 1, (.r 0))]), q (.build [(.i .i64 0), (.i .i64 0), (.i .i64 0), .nils] [(0, 1, (.c (.i .i64 1)))]), q (.buildSl 1 1 [(.i .i64 0)] [(0, 1, (.c (.i .i64 1)))]), q (.build [(.s []), (.i .i64 0), (.i .i64 0), (.i .i64 0), .nils, (.b false), .nils] [(0, 1, (.c (.s [98]))), (1, 4, (.r 1)), (6, 1, (.r 0))]), q (.build [(.i .i64 0), (.i .i64 0), (.i .i64 0), .nils] [(0, 1, (.c (.i .i64 3)))]), q (.buildSl 1 1 [(.i .i64 0)] [(0, 1, (.c (.i .i64 5)))]), q (.build [(.s []), (.i .i64 0), (.i .i64 0), (.i .i64 0), .nils, (.b false), .nils] [(0, 1, (.c (.s [119]))), (1, 4, (.r 1)), (6, 1, (.r 0))]), q (.build [(.i .i64 0), (.i .i64 0), (.i .i64 0), .nils] [(0, 1, (.c (.i .i64 4)))]), q (.buildSl 1 1 [(.i .i64 0)] [(0, 1, (.c (.i .i64 (-3))))]), q (.build [(.s []), (.i .i64 0), (.i .i64 0), (.i .i64 0), .nils, (.b false), .nils] [(0, 1, (.c (.s [105]))), (1, 4, (.r 1)), (5, 1, (.c (.b true))), (6, 1, (.r 0))]), q (.mv (.v 2)), q (.build [(.i .i64 0), (.i .i64 0), (.i .i64 0), .nils] [(0, 1, (.c (.i .i64 7))), (1, 1, (.c (.i .i64 5))), (2, 1, (.r 0))]), q (.mv (.v 2)), q (.mksl 1 8 [(.i .i64 0)] (.r 0) (.r 0)), q (.build [(.s []), (.i .i64 0), (.i .i64 0), (.i .i64 0), .nils, (.b false), .nils] [(0, 1, (.c (.s [97]))), (1, 4, (.r 2)), (6, 1, (.r 0))]), q (.build [(.i .i64 0), (.i .i64 0), (.i .i64 0), .nils] [(0, 1, (.c (.i .i64 9)))]), q (.buildSl 6 1 [(.i .i64 0)] [(0, 1, (.c (.i .i64 0))), (1, 1, (.c (.i .i64 50))), (2, 1, (.c (.i .i64 0))), (3, 1, (.c (.i .i64 0))), (4, 1, (.c (.i .i64 0))), (5, 1, (.c (.i .i64 0)))]), q (.build [(.s []), (.i .i64 0), (.i .i64 0), (.i .i64 0), .nils, (.b false), .nils] [(0, 1, (.c (.s [116]))), (1, 4, (.r 1)), (6, 1, (.r 0))]), q (.build [(.i .i64 0), (.i .i64 0), (.i .i64 0), .nils] [(0, 1, (.c (.i .i64 10)))]), q (.buildSl 6 1 [(.i .i64 0)] [(0, 1, (.c (.i .i64 0))), (1, 1, (.c (.i .i64 0))), (2, 1, (.c (.i .i64 3))), (3, 1, (.c (.i .i64 0))), (4, 1, (.c (.i .i64 0))), (5, 1, (.c (.i .i64 0)))]), q (.build [(.s []), (.i .i64 0), (.i .i64 0), (.i .i64 0), .nils, (.b false), .nils] [(0, 1, (.c (.s [99]))), (1, 4, (.r 1)), (6, 1, (.r 0))]), q (.buildSl 7 7 [(.s []), (.i .i64 0), (.i .i64 0), (.i .i64 0), .nils, (.b false), .nils] [(0, 7, (.r 20)), (7, 7, (.r 17)), (14, 7, (.r 14)), (21, 7, (.r 11)), (28, 7, (.r 6)), (35, 7, (.r 3)), (42, 7, (.r 0))]), qv 1 (.mv (.r 0))])
  .ret))))⟩
/-- solenoid/solenoidref10.Bytes -/
def lp16_1 : PCode :=
  (.seq (.seq (.reg [q (.mv (.v 4)), q (.bin .eql (.r 0) (.c (.i .i64 9))), q (.mv (.r 0)), qg 0 true (.mv (.v 5)), qg 1 true (.bin .lss (.r 0) (.c (.i .i64 8))), qv 7 (.pick (.r 2) (.r 0) (.c (.b false)))])
  (.cond (.v 7)
   .skip
   (.exit 0)))
  (.seq (.blk 1 (.reg [q (.mv (.v 0)), q (.faddr 4 (.v 2)), q (.load none (.r 0)), q (.conv .u64 (.r 0)), q (.mv (.v 5)), q (.conv .u64 (.r 0)), q (.bin .mul (.c (.i .u64 8)) (.r 0)), q (.bin .shr (.r 3) (.r 0)), q (.conv .u8 (.r 0)), q (.buildSl 1 1 [(.i .u8 0)] [(0, 1, (.r 0))]), ⟨.append 1 1 (.r 9) (.r 0), none, none, .full, (.own 1)⟩, qv 0 (.mv (.r 0))]))
  (.reg [q (.mv (.v 5)), q (.bin .add (.r 0) (.c (.i .i64 1))), qv 5 (.mv (.r 0))])))
def pf16 : PFunc := ⟨[(some 0), (some 1), none, none, none, none, none, none], [.v 3],
  (.seq (.reg [qv 2 (.box (.v 1)), qv 3 (.mv (.c .nils))])
  (.seq (.reg [q (.mv (.v 0)), q (.faddr 2 (.v 2)), q (.load none (.r 0)), q (.conv .u8 (.r 0)), q (.buildSl 1 1 [(.i .u8 0)] [(0, 1, (.r 0))]), ⟨.append 1 1 (.r 4) (.r 0), none, none, .full, (.own 1)⟩, qv 0 (.mv (.r 0))])
  (.seq (.reg [q (.faddr 2 (.v 2)), q (.load none (.r 0)), q (.call (.c (.f 29 [] [])) [(.r 0)]), qv 4 (.mv (.r 0))])
  (.seq (.seq (.reg [q (.mv (.v 4)), qv 6 (.bin .gtr (.r 0) (.c (.i .i64 0)))])
  (.cond (.v 6)
   (.reg [q (.mv (.v 0)), q (.faddr 3 (.v 2)), q (.load none (.r 0)), q (.conv .u8 (.r 0)), q (.buildSl 1 1 [(.i .u8 0)] [(0, 1, (.r 0))]), ⟨.append 1 1 (.r 4) (.r 0), none, none, .full, (.own 1)⟩, qv 0 (.mv (.r 0))])
   .skip))
  (.seq (.seq (.reg [qv 5 (.mv (.c (.i .i64 0)))])
  (.blk 0 (.loop lp16_1)))
  (.seq (.reg [q (.mv (.v 0)), qv 3 (.mv (.r 0))])
  .ret))))))⟩
/-- solenoid/solenoidref7.Wrap -/
def pf17 : PFunc := ⟨[(some 0), (some 1), none, none, none, none, none, none, none, none, none], [.v 2],
  (.seq (.reg [qv 2 (.mv (.c (.i .i64 0)))])
  (.seq (.seq (.reg [qv 3 (.mv (.v 0))])
  (.blk 0 (.seq (.reg [q (.bin .eql (.v 3) (.c (.i .i64 1))), qv 4 (.mv (.r 0))])
  (.cond (.v 4)
   (.seq (.seq (.reg [q (.mv (.v 1)), qv 5 (.bin .neq (.r 0) (.c (.i .i64 0)))])
   (.cond (.v 5)
    (.seq (.reg [qv 2 (.mv (.c (.i .i64 1)))])
    .ret)
    .skip))
   (.seq (.reg [qv 2 (.mv (.c (.i .i64 0)))])
   .ret))
   (.seq (.reg [q (.bin .eql (.v 3) (.c (.i .i64 2))), qv 6 (.mv (.r 0))])
   (.cond (.v 6)
    (.seq (.reg [q (.mv (.v 1)), q (.conv .u8 (.r 0)), q (.conv .i64 (.r 0)), qv 2 (.mv (.r 0))])
    .ret)
    (.seq (.reg [q (.bin .eql (.v 3) (.c (.i .i64 3))), qv 7 (.mv (.r 0))])
    (.cond (.v 7)
     (.seq (.reg [q (.mv (.v 1)), q (.conv .u16 (.r 0)), q (.conv .i64 (.r 0)), qv 2 (.mv (.r 0))])
     .ret)
     (.seq (.reg [q (.bin .eql (.v 3) (.c (.i .i64 4))), qv 8 (.mv (.r 0))])
     (.cond (.v 8)
      (.seq (.reg [q (.mv (.v 1)), q (.conv .i16 (.r 0)), q (.conv .i64 (.r 0)), qv 2 (.mv (.r 0))])
      .ret)
      (.seq (.reg [q (.bin .eql (.v 3) (.c (.i .i64 5))), qv 9 (.mv (.r 0))])
      (.cond (.v 9)
       (.seq (.reg [q (.mv (.v 1)), q (.conv .i32 (.r 0)), q (.conv .i64 (.r 0)), qv 2 (.mv (.r 0))])
       .ret)
       (.seq (.reg [q (.bin .eql (.v 3) (.c (.i .i64 6))), qv 10 (.mv (.r 0))])
       (.cond (.v 10)
        (.seq (.reg [q (.mv (.v 1)), qv 2 (.mv (.r 0))])
        .ret)
        .skip))))))))))))))
  (.seq (.reg [qv 2 (.mv (.c (.i .i64 0)))])
  .ret)))⟩
/-- solenoid/instr.All -/
def lp18_1 : PCode :=
  (.seq (.seq (.reg [q (.mv (.v 4)), q (.mv (.v 0)), q (.len 1 (.r 0)), qv 7 (.bin .lss (.r 2) (.r 0))])
  (.cond (.v 7)
   .skip
   (.exit 0)))
  (.blk 1 (.seq (.reg [q (.mv (.v 0)), q (.mv (.v 4)), q (.call (.c (.f 30 [] [])) [(.r 1), (.r 0)]), q (.mv (.r 0)), q (.ext 0 (.r 0)), q (.ext 1 (.r 1)), qv 5 (.box (.c (.agg [(.i .i64 0), (.i .i64 0), (.i .i64 0), (.i .i64 0), (.i .i64 0)]))), q (.store 5 (.r 0) (.r 2)), qv 6 (.mv (.r 2))])
  (.seq (.seq (.reg [q (.mv (.v 6)), qv 8 (.bin .neq (.r 0) (.c (.i .i64 0)))])
  (.cond (.v 8)
   (.seq (.reg [q (.mv (.v 6)), qv 1 (.mv (.c .nils)), qv 2 (.mv (.r 1))])
   .ret)
   .skip))
  (.seq (.reg [q (.mv (.v 3)), q (.load (some 5) (.v 5)), q (.buildSl 1 5 [(.i .i64 0), (.i .i64 0), (.i .i64 0), (.i .i64 0), (.i .i64 0)] [(0, 5, (.r 0))]), ⟨.append 5 40 (.r 2) (.r 0), none, none, .full, (.own 5)⟩, qv 3 (.mv (.r 0))])
  (.reg [q (.faddr 1 (.v 5)), q (.load none (.r 0)), qv 4 (.mv (.r 0))]))))))
def pf18 : PFunc := ⟨[(some 0), none, none, none, none, none, none, none, none], [.v 1, .v 2],
  (.seq (.reg [qv 1 (.mv (.c .nils)), qv 2 (.mv (.c (.i .i64 0)))])
  (.seq (.reg [⟨.mv (.c .nils), none, (some 3), .full, (.own 5)⟩])
  (.seq (.seq (.reg [qv 4 (.mv (.c (.i .i64 0)))])
  (.blk 0 (.loop lp18_1)))
  (.seq (.reg [q (.mv (.v 3)), q (.call (.c (.f 31 [] [])) [(.r 0)]), qv 1 (.mv (.r 0)), qv 2 (.mv (.c (.i .i64 0)))])
  .ret))))⟩
/-- solenoid/layout.Cells -/
def lp19_1 : PCode :=
  (.seq (.reg [qv 13 (.bin .lss (.v 12) (.v 11))])
  (.seq (.cond (.v 13)
   .skip
   (.exit 2))
  (.seq (.blk 3 (.seq (.reg [q (.mv (.v 12)), qv 5 (.mv (.r 0))])
  (.seq (.reg [qn (.load (some 7) (.v 3)), qn (.mv (.v 5)), qn (.call (.c (.f 33 [] [])) [(.r 1), (.r 0)]), qn (.faddr 1 (.v 3)), qn (.load (some 4) (.r 0)), qn (.mv (.v 5)), qn (.call (.c (.f 34 [] [])) [(.r 1), (.r 0)]), qn (.faddr 5 (.v 3)), qn (.load none (.r 0)), qn (.build [(.s []), (.i .i64 0), (.b false), (.i .i64 0), (.i .i64 0), (.i .i64 0)] [(0, 1, (.r 6)), (1, 1, (.r 2)), (2, 1, (.r 0))]), ⟨.box (.c (.agg [(.s []), (.i .i64 0), (.b false), (.i .i64 0), (.i .i64 0), (.i .i64 0)])), none, (some 6), .new, .d⟩, q (.store 6 (.r 0) (.r 1))])
  (.seq (.seq (.reg [q (.mv (.v 5)), q (.faddr 6 (.v 3)), q (.load none (.r 0)), q (.len 1 (.r 0)), qv 14 (.bin .lss (.r 3) (.r 0))])
  (.cond (.v 14)
   (.reg [q (.faddr 6 (.v 3)), q (.load none (.r 0)), q (.mv (.v 5)), q (.iaS 1 (.r 1) (.r 0)), q (.load none (.r 0)), q (.faddr 3 (.v 6)), q (.store 1 (.r 0) (.r 1))])
   .skip))
  (.seq (.blk 4 (.seq (.reg [q (.mv (.v 5)), q (.bin .gtr (.r 0) (.c (.i .i64 0))), qv 15 (.mv (.r 0))])
  (.cond (.v 15)
   .skip
   (.seq (.reg [q (.faddr 1 (.v 3)), q (.faddr 0 (.r 0)), q (.load none (.r 0)), q (.bin .eql (.r 0) (.c (.i .i64 7))), qv 16 (.mv (.r 0))])
   (.cond (.v 16)
    (.reg [q (.faddr 1 (.v 3)), q (.faddr 2 (.r 0)), q (.load none (.r 0)), q (.faddr 4 (.v 6)), q (.store 1 (.r 0) (.r 1))])
    (.seq (.reg [q (.faddr 1 (.v 3)), q (.faddr 0 (.r 0)), q (.load none (.r 0)), q (.bin .eql (.r 0) (.c (.i .i64 9))), q (.mv (.r 0)), qg 0 false (.faddr 1 (.v 3)), qg 1 false (.faddr 0 (.r 0)), qg 2 false (.load none (.r 0)), qg 3 false (.bin .eql (.r 0) (.c (.i .i64 10))), q (.pick (.r 4) (.c (.b true)) (.r 0)), qv 17 (.mv (.r 0))])
    (.cond (.v 17)
     (.reg [q (.faddr 1 (.v 3)), q (.faddr 0 (.r 0)), q (.load none (.r 0)), q (.faddr 5 (.v 6)), q (.store 1 (.r 0) (.r 1))])
     .skip)))))))
  (.reg [q (.mv (.v 4)), q (.load (some 6) (.v 6)), q (.buildSl 1 6 [(.s []), (.i .i64 0), (.b false), (.i .i64 0), (.i .i64 0), (.i .i64 0)] [(0, 6, (.r 0))]), ⟨.append 6 56 (.r 2) (.r 0), none, none, .full, (.own 6)⟩, qv 4 (.mv (.r 0))]))))))
  (.reg [q (.bin .add (.v 12) (.c (.i .i64 1))), qv 12 (.mv (.r 0))]))))
def lp19_2 : PCode :=
  (.seq (.reg [qv 10 (.bin .lss (.v 9) (.v 8))])
  (.seq (.cond (.v 10)
   .skip
   (.exit 0))
  (.seq (.blk 1 (.seq (.reg [q (.iaS 7 (.v 7) (.v 9)), q (.load (some 7) (.r 0)), qv 3 (.box (.c (.agg [(.s []), (.i .i64 0), (.i .i64 0), (.i .i64 0), .nils, (.b false), .nils]))), q (.store 7 (.r 0) (.r 1))])
  (.seq (.reg [⟨.mv (.c .nils), none, (some 4), .full, (.own 6)⟩])
  (.seq (.seq (.reg [q (.faddr 1 (.v 3)), q (.load (some 4) (.r 0)), q (.call (.c (.f 32 [] [])) [(.r 0)]), q (.max [(.r 0), (.c (.i .i64 0))]), qv 11 (.min [(.r 0), (.c (.i .i64 64))]), qv 12 (.mv (.c (.i .i64 0)))])
  (.blk 2 (.loop lp19_1)))
  (.reg [q (.mv (.v 2)), q (.mv (.v 4)), q (.call (.c (.f 35 [] [])) [(.r 1), (.r 0)]), qv 2 (.mv (.r 0))])))))
  (.reg [q (.bin .add (.v 9) (.c (.i .i64 1))), qv 9 (.mv (.r 0))]))))
def pf19 : PFunc := ⟨[(some 0), none, none, none, none, none, none, none, none, none, none, none, none, none, none, none, none, none], [.v 1],
  (.seq (.reg [qv 1 (.mv (.c .nils))])
  (.seq (.reg [qv 2 (.mv (.c .nils))])
  (.seq (.seq (.reg [qv 7 (.mv (.v 0)), qv 8 (.len 1 (.r 0)), qv 9 (.mv (.c (.i .i64 0)))])
  (.blk 0 (.loop lp19_2)))
  (.seq (.reg [q (.mv (.v 2)), q (.call (.c (.f 35 [] [])) [(.c .nils), (.r 0)]), qv 1 (.mv (.r 0))])
  .ret))))⟩
/-- (*solenoid/check.walk).next -/
def lp20_1 : PCode :=
  (.seq (.reg [qv 7 (.bin .lss (.v 6) (.v 5))])
  (.seq (.cond (.v 7)
   .skip
   (.exit 0))
  (.seq (.blk 1 (.seq (.reg [q (.mv (.v 6)), qv 3 (.mv (.r 0))])
  (.seq (.reg [q (.mv (.v 0)), q (.nilck (.r 0)), q (.faddr 3 (.r 0)), q (.load none (.r 0)), q (.mv (.v 3)), q (.look (.sc 0) .nils true (.r 1) (.r 0)), q (.mv (.r 0)), q (.ext 0 (.r 0)), q (.ext 1 (.r 1)), q (.mv (.r 1)), qv 4 (.mv (.r 1))])
  (.seq (.reg [q (.mv (.v 4)), q (.mv (.r 0)), qg 0 true (.mv (.v 0)), qg 1 true (.nilck (.r 0)), qg 2 true (.faddr 4 (.r 0)), qg 3 true (.load none (.r 0)), qg 4 true (.mv (.v 3)), qg 5 true (.look (.sc 0) (.b false) false (.r 1) (.r 0)), qg 6 true (.un .not (.r 0)), qv 8 (.pick (.r 7) (.r 0) (.c (.b false)))])
  (.cond (.v 8)
   (.seq (.reg [q (.mv (.v 3)), qv 1 (.mv (.r 0)), qv 2 (.mv (.c (.b true)))])
   .ret)
   .skip)))))
  (.reg [q (.bin .add (.v 6) (.c (.i .i64 1))), qv 6 (.mv (.r 0))]))))
def pf20 : PFunc := ⟨[(some 0), none, none, none, none, none, none, none, none], [.v 1, .v 2],
  (.seq (.reg [qv 1 (.mv (.c (.i .i64 0))), qv 2 (.mv (.c (.b false)))])
  (.seq (.seq (.reg [q (.mv (.v 0)), q (.nilck (.r 0)), q (.faddr 1 (.r 0)), qv 5 (.load none (.r 0)), qv 6 (.mv (.c (.i .i64 0)))])
  (.blk 0 (.loop lp20_1)))
  (.seq (.reg [qv 1 (.mv (.c (.i .i64 0))), qv 2 (.mv (.c (.b false)))])
  .ret)))⟩
/-- (*solenoid/check.walk).through -/
def lp21_1 : PCode :=
  (.seq (.reg [qv 15 (.bin .lss (.v 14) (.v 13))])
  (.seq (.cond (.v 15)
   .skip
   (.exit 0))
  (.seq (.blk 1 (.seq (.reg [q (.iaS 1 (.v 12) (.v 14)), q (.load none (.r 0)), qv 8 (.mv (.r 0))])
  (.seq (.reg [q (.mv (.v 0)), q (.mv (.v 8)), q (.mv (.v 5)), ⟨.call (.c (.f 39 [] [])) [(.r 2), (.r 1), (.r 0)], none, none, .full, .sh⟩, qv 9 (.mv (.r 0))])
  (.seq (.reg [q (.mv (.v 9)), qv 16 (.bin .neq (.r 0) (.c (.i .i64 0)))])
  (.cond (.v 16)
   (.seq (.reg [q (.mv (.v 9)), qv 2 (.mv (.r 0))])
   .ret)
   .skip)))))
  (.reg [q (.bin .add (.v 14) (.c (.i .i64 1))), qv 14 (.mv (.r 0))]))))
def pf21 : PFunc := ⟨[(some 0), (some 1), none, none, none, none, none, none, none, none, none, none, none, none, none, none, none], [.v 2],
  (.seq (.reg [qv 2 (.mv (.c (.i .i64 0)))])
  (.seq (.reg [q (.mv (.v 0)), q (.nilck (.r 0)), q (.faddr 4 (.r 0)), q (.load none (.r 0)), q (.mv (.v 1)), q (.mupd (.sc 0) (.r 1) (.r 0) (.c (.b true)))])
  (.seq (.reg [qn (.mv (.v 0)), qn (.nilck (.r 0)), qn (.faddr 2 (.r 0)), qn (.load none (.r 0)), qn (.mv (.v 1)), qn (.look (.sc 0) (.agg [(.i .i64 0), (.i .i64 0), (.i .i64 0), (.i .i64 0), (.i .i64 0)]) false (.r 1) (.r 0)), qn (.mv (.v 0)), qn (.nilck (.r 0)), qn (.faddr 3 (.r 0)), qn (.load none (.r 0)), qn (.mv (.v 1)), qn (.look (.sc 0) .nils false (.r 1) (.r 0)), ⟨.box (.c (.agg [(.i .i64 0), (.i .i64 0), (.i .i64 0), (.i .i64 0), (.i .i64 0)])), none, (some 3), .new, .d⟩, ⟨.store 5 (.r 0) (.r 7), none, none, .last, .d⟩, qv 4 (.mv (.r 2))])
  (.seq (.reg [qn (.mv (.v 0)), qn (.nilck (.r 0)), qn (.faddr 0 (.r 0)), qn (.load none (.r 0)), qn (.load (some 5) (.v 3)), qn (.mv (.v 4)), q (.call (.c (.f 36 [] [])) [(.r 2), (.r 1), (.r 0)]), q (.mv (.r 0)), q (.ext 0 (.r 0)), q (.ext 1 (.r 1)), qv 5 (.mv (.r 1)), qv 6 (.mv (.r 1))])
  (.seq (.seq (.reg [q (.mv (.v 6)), qv 10 (.bin .neq (.r 0) (.c (.i .i64 0)))])
  (.cond (.v 10)
   (.seq (.reg [q (.mv (.v 6)), qv 2 (.mv (.r 0))])
   .ret)
   .skip))
  (.seq (.reg [q (.mv (.v 0)), q (.mv (.v 0)), q (.nilck (.r 0)), q (.faddr 5 (.r 0)), q (.load none (.r 0)), q (.mv (.v 4)), q (.len 1 (.r 0)), q (.mv (.v 5)), q (.len 1 (.r 0)), q (.max [(.r 4), (.r 2), (.r 0)]), q (.nilck (.r 9)), q (.faddr 5 (.r 0)), q (.store 1 (.r 0) (.r 2))])
  (.seq (.reg [q (.load (some 5) (.v 3)), q (.call (.c (.f 37 [] [])) [(.r 0)]), qv 7 (.mv (.r 0))])
  (.seq (.seq (.reg [q (.mv (.v 7)), q (.mv (.v 0)), q (.nilck (.r 0)), q (.faddr 1 (.r 0)), q (.load none (.r 0)), qv 11 (.call (.c (.f 38 [] [])) [(.r 4), (.r 0)])])
  (.cond (.v 11)
   (.seq (.reg [qv 2 (.mv (.c (.i .i64 17)))])
   .ret)
   .skip))
  (.seq (.seq (.reg [qv 12 (.mv (.v 7)), qv 13 (.len 1 (.r 0)), qv 14 (.mv (.c (.i .i64 0)))])
  (.blk 0 (.loop lp21_1)))
  (.seq (.reg [qv 2 (.mv (.c (.i .i64 0)))])
  .ret))))))))))⟩
/-- solenoid/solenoidref10.Read -/
def lp22_1 : PCode :=
  (.seq (.seq (.reg [q (.mv (.v 7)), qv 13 (.bin .geq (.r 0) (.c (.i .i64 0)))])
  (.cond (.v 13)
   .skip
   (.exit 0)))
  (.seq (.blk 1 (.reg [q (.mv (.v 6)), q (.bin .shl (.r 0) (.c (.i .u64 8))), q (.mv (.v 0)), q (.mv (.v 1)), q (.bin .add (.r 0) (.c (.i .i64 2))), q (.mv (.v 7)), q (.bin .add (.r 1) (.r 0)), q (.iaS 1 (.r 4) (.r 0)), q (.load none (.r 0)), q (.conv .u64 (.r 0)), q (.bin .or (.r 8) (.r 0)), qv 6 (.mv (.r 0))]))
  (.reg [q (.mv (.v 7)), q (.bin .sub (.r 0) (.c (.i .i64 1))), qv 7 (.mv (.r 0))])))
def pf22 : PFunc := ⟨[(some 0), (some 1), none, none, none, none, none, none, none, none, none, none, none, none], [.cell 2 (some 5), .v 3],
  (.seq (.reg [qv 2 (.box (.c (.agg [(.i .i64 0), (.i .i64 0), (.i .i64 0), (.i .i64 0), (.i .i64 0)]))), qv 3 (.mv (.c (.i .i64 0)))])
  (.seq (.seq (.reg [q (.mv (.v 1)), q (.bin .lss (.r 0) (.c (.i .i64 0))), q (.mv (.r 0)), qg 0 false (.mv (.v 1)), qg 1 false (.mv (.v 0)), qg 2 false (.len 1 (.r 0)), qg 3 false (.bin .geq (.r 2) (.r 0)), qv 8 (.pick (.r 4) (.c (.b true)) (.r 0))])
  (.cond (.v 8)
   (.seq (.reg [q (.build [(.i .i64 0), (.i .i64 0), (.i .i64 0), (.i .i64 0), (.i .i64 0)] []), q (.store 5 (.v 2) (.r 0)), qv 3 (.mv (.c (.i .i64 12)))])
   .ret)
   .skip))
  (.seq (.reg [q (.mv (.v 1)), q (.mv (.v 0)), q (.mv (.v 1)), q (.iaS 1 (.r 1) (.r 0)), q (.load none (.r 0)), q (.conv .i64 (.r 0)), q (.build [(.i .i64 0), (.i .i64 0), (.i .i64 0), (.i .i64 0), (.i .i64 0)] [(0, 1, (.r 5)), (2, 1, (.r 0))]), qv 4 (.box (.c (.agg [(.i .i64 0), (.i .i64 0), (.i .i64 0), (.i .i64 0), (.i .i64 0)]))), q (.store 5 (.r 0) (.r 1))])
  (.seq (.seq (.reg [q (.faddr 2 (.v 4)), q (.load none (.r 0)), qv 9 (.bin .gtr (.r 0) (.c (.i .i64 29)))])
  (.cond (.v 9)
   (.seq (.reg [q (.build [(.i .i64 0), (.i .i64 0), (.i .i64 0), (.i .i64 0), (.i .i64 0)] []), q (.store 5 (.v 2) (.r 0)), qv 3 (.mv (.c (.i .i64 10)))])
   .ret)
   .skip))
  (.seq (.reg [q (.faddr 2 (.v 4)), q (.load none (.r 0)), q (.call (.c (.f 29 [] [])) [(.r 0)]), qv 5 (.mv (.r 0))])
  (.seq (.seq (.reg [q (.mv (.v 0)), q (.len 1 (.r 0)), q (.mv (.v 1)), q (.bin .sub (.r 1) (.r 0)), q (.bin .sub (.r 0) (.c (.i .i64 1))), q (.mv (.v 5)), qv 10 (.bin .lss (.r 1) (.r 0))])
  (.cond (.v 10)
   (.seq (.reg [q (.build [(.i .i64 0), (.i .i64 0), (.i .i64 0), (.i .i64 0), (.i .i64 0)] []), q (.store 5 (.v 2) (.r 0)), qv 3 (.mv (.c (.i .i64 8)))])
   .ret)
   .skip))
  (.seq (.reg [q (.mv (.v 1)), q (.bin .add (.r 0) (.c (.i .i64 1))), q (.mv (.v 5)), q (.bin .add (.r 1) (.r 0)), q (.faddr 1 (.v 4)), q (.store 1 (.r 0) (.r 1))])
  (.seq (.seq (.reg [q (.mv (.v 5)), qv 11 (.bin .gtr (.r 0) (.c (.i .i64 0)))])
  (.cond (.v 11)
   (.reg [q (.mv (.v 0)), q (.mv (.v 1)), q (.bin .add (.r 0) (.c (.i .i64 1))), q (.iaS 1 (.r 2) (.r 0)), q (.load none (.r 0)), q (.conv .i64 (.r 0)), q (.faddr 3 (.v 4)), q (.store 1 (.r 0) (.r 1))])
   .skip))
  (.seq (.seq (.reg [q (.mv (.v 5)), qv 12 (.bin .eql (.r 0) (.c (.i .i64 9)))])
  (.cond (.v 12)
   (.seq (.reg [qv 6 (.mv (.c (.i .u64 0)))])
   (.seq (.seq (.reg [qv 7 (.mv (.c (.i .i64 7)))])
   (.blk 0 (.loop lp22_1)))
   (.reg [q (.mv (.v 6)), q (.conv .i64 (.r 0)), q (.faddr 4 (.v 4)), q (.store 1 (.r 0) (.r 1))])))
   .skip))
  (.seq (.reg [q (.load (some 5) (.v 4)), q (.store 5 (.v 2) (.r 0)), qv 3 (.mv (.c (.i .i64 0)))])
  .ret))))))))))⟩
/-- solenoid/solenoidref12.place -/
def lp23_1 : PCode :=
  (.seq (.seq (.reg [q (.mv (.v 3)), q (.mv (.v 0)), q (.len 1 (.r 0)), qv 4 (.bin .lss (.r 2) (.r 0))])
  (.cond (.v 4)
   .skip
   (.exit 0)))
  (.seq (.blk 1 (.seq (.reg [q (.mv (.v 0)), q (.mv (.v 3)), q (.iaS 5 (.r 1) (.r 0)), q (.faddr 0 (.r 0)), q (.load none (.r 0)), q (.mv (.v 1)), qv 5 (.bin .eql (.r 1) (.r 0))])
  (.cond (.v 5)
   (.seq (.reg [q (.mv (.v 3)), qv 2 (.mv (.r 0))])
   .ret)
   .skip)))
  (.reg [q (.mv (.v 3)), q (.bin .add (.r 0) (.c (.i .i64 1))), qv 3 (.mv (.r 0))])))
def pf23 : PFunc := ⟨[(some 0), (some 1), none, none, none, none], [.v 2],
  (.seq (.reg [qv 2 (.mv (.c (.i .i64 0)))])
  (.seq (.seq (.reg [qv 3 (.mv (.c (.i .i64 0)))])
  (.blk 0 (.loop lp23_1)))
  (.seq (.reg [qv 2 (.mv (.c (.i .i64 (-1))))])
  .ret)))⟩
/-- solenoid/solenoidref8.Cells -/
def lp24_1 : PCode :=
  (.seq (.seq (.reg [q (.mv (.v 3)), q (.mv (.v 0)), q (.len 1 (.r 0)), qv 4 (.bin .lss (.r 2) (.r 0))])
  (.cond (.v 4)
   .skip
   (.exit 0)))
  (.seq (.blk 1 (.reg [q (.mv (.v 2)), q (.mv (.v 0)), q (.mv (.v 3)), q (.iaS 7 (.r 1) (.r 0)), q (.load (some 7) (.r 0)), q (.call (.c (.f 40 [] [])) [(.r 0)]), ⟨.append 6 56 (.r 5) (.r 0), none, none, .full, (.own 6)⟩, qv 2 (.mv (.r 0))]))
  (.reg [q (.mv (.v 3)), q (.bin .add (.r 0) (.c (.i .i64 1))), qv 3 (.mv (.r 0))])))
def pf24 : PFunc := ⟨[(some 0), none, none, none, none], [.v 1],
  (.seq (.reg [qv 1 (.mv (.c .nils))])
  (.seq (.reg [⟨.mv (.c .nils), none, (some 2), .full, (.own 6)⟩])
  (.seq (.seq (.reg [qv 3 (.mv (.c (.i .i64 0)))])
  (.blk 0 (.loop lp24_1)))
  (.seq (.reg [q (.mv (.v 2)), qv 1 (.mv (.r 0))])
  .ret))))⟩
/-- solenoid/solenoidref12.bears -/
def pf25 : PFunc := ⟨[(some 0), (some 1), (some 2), none, none, none, none, none, none, none, none, none, none, none, none, none, none, none, none, none, none, none, none, none], [.v 5],
  (.seq (.reg [qv 3 (.box (.v 0)), qv 4 (.box (.v 2)), qv 5 (.mv (.c (.i .i64 0)))])
  (.seq (.seq (.reg [q (.faddr 2 (.v 4)), qv 6 (.load none (.r 0))])
  (.blk 0 (.seq (.reg [q (.bin .eql (.v 6) (.c (.i .i64 1))), qv 7 (.mv (.r 0))])
  (.cond (.v 7)
   (.seq (.seq (.reg [q (.faddr 3 (.v 4)), q (.load none (.r 0)), q (.call (.c (.f 41 [] [])) [(.r 0)]), qv 8 (.un .not (.r 0))])
   (.cond (.v 8)
    (.seq (.reg [qv 5 (.mv (.c (.i .i64 3)))])
    .ret)
    .skip))
   (.seq (.reg [qn (.faddr 3 (.v 4)), qn (.load none (.r 0)), qn (.faddr 4 (.v 4)), qn (.load none (.r 0)), qn (.call (.c (.f 17 [] [])) [(.r 2), (.r 0)]), qn (.faddr 4 (.v 4)), qn (.load none (.r 0)), qv 9 (.bin .neq (.r 2) (.r 0))])
   (.cond (.v 9)
    (.seq (.reg [qv 5 (.mv (.c (.i .i64 11)))])
    .ret)
    .skip)))
   (.seq (.reg [q (.bin .eql (.v 6) (.c (.i .i64 2))), qv 10 (.mv (.r 0))])
   (.cond (.v 10)
    (.seq (.reg [q (.faddr 3 (.v 4)), q (.load none (.r 0)), q (.faddr 1 (.v 3)), q (.load none (.r 0)), q (.len 1 (.r 0)), qv 11 (.bin .geq (.r 3) (.r 0))])
    (.cond (.v 11)
     (.seq (.reg [qv 5 (.mv (.c (.i .i64 2)))])
     .ret)
     .skip))
    (.seq (.seq (.reg [q (.bin .eql (.v 6) (.c (.i .i64 3))), qv 12 (.mv (.r 0))])
    (.cond (.v 12)
     .skip
     (.reg [q (.bin .eql (.v 6) (.c (.i .i64 4))), qv 12 (.mv (.r 0))])))
    (.cond (.v 12)
     (.seq (.reg [q (.faddr 3 (.v 4)), q (.load none (.r 0)), q (.mv (.v 1)), q (.len 1 (.r 0)), qv 13 (.bin .geq (.r 2) (.r 0))])
     (.cond (.v 13)
      (.seq (.reg [qv 5 (.mv (.c (.i .i64 12)))])
      .ret)
      .skip))
     (.seq (.seq (.reg [q (.bin .eql (.v 6) (.c (.i .i64 5))), qv 14 (.mv (.r 0))])
     (.cond (.v 14)
      .skip
      (.reg [q (.bin .eql (.v 6) (.c (.i .i64 6))), qv 14 (.mv (.r 0))])))
     (.cond (.v 14)
      (.seq (.reg [q (.faddr 3 (.v 4)), q (.load none (.r 0)), q (.mv (.v 1)), q (.len 1 (.r 0)), q (.bin .geq (.r 2) (.r 0)), q (.mv (.r 0)), qg 0 false (.mv (.v 1)), qg 1 false (.faddr 3 (.v 4)), qg 2 false (.load none (.r 0)), qg 3 false (.iaS 6 (.r 2) (.r 0)), qg 4 false (.faddr 4 (.r 0)), qg 5 false (.load none (.r 0)), qg 6 false (.bin .eql (.r 0) (.c (.i .i64 0))), qv 15 (.pick (.r 7) (.c (.b true)) (.r 0))])
      (.cond (.v 15)
       (.seq (.reg [qv 5 (.mv (.c (.i .i64 12)))])
       .ret)
       .skip))
      (.seq (.reg [q (.bin .eql (.v 6) (.c (.i .i64 20))), qv 16 (.mv (.r 0))])
      (.cond (.v 16)
       (.seq (.reg [q (.faddr 3 (.v 4)), q (.load none (.r 0)), q (.faddr 2 (.v 3)), q (.load none (.r 0)), q (.len 1 (.r 0)), qv 17 (.bin .geq (.r 3) (.r 0))])
       (.cond (.v 17)
        (.seq (.reg [qv 5 (.mv (.c (.i .i64 20)))])
        .ret)
        .skip))
       (.seq (.reg [q (.bin .eql (.v 6) (.c (.i .i64 23))), qv 18 (.mv (.r 0))])
       (.cond (.v 18)
        (.seq (.reg [q (.faddr 3 (.v 4)), q (.load none (.r 0)), q (.call (.c (.f 41 [] [])) [(.r 0)]), qv 19 (.un .not (.r 0))])
        (.cond (.v 19)
         (.seq (.reg [qv 5 (.mv (.c (.i .i64 3)))])
         .ret)
         .skip))
        (.seq (.seq (.reg [q (.bin .eql (.v 6) (.c (.i .i64 24))), qv 20 (.mv (.r 0))])
        (.cond (.v 20)
         .skip
         (.reg [q (.bin .eql (.v 6) (.c (.i .i64 25))), qv 20 (.mv (.r 0))])))
        (.cond (.v 20)
         (.seq (.reg [q (.faddr 3 (.v 4)), q (.load none (.r 0)), qv 21 (.bin .geq (.r 0) (.c (.i .i64 4)))])
         (.cond (.v 21)
          (.seq (.reg [qv 5 (.mv (.c (.i .i64 1)))])
          .ret)
          .skip))
         (.seq (.reg [q (.bin .eql (.v 6) (.c (.i .i64 27))), qv 22 (.mv (.r 0))])
         (.cond (.v 22)
          (.seq (.reg [q (.faddr 3 (.v 4)), q (.load none (.r 0)), q (.mv (.v 1)), q (.len 1 (.r 0)), q (.bin .geq (.r 2) (.r 0)), q (.mv (.r 0)), qg 0 false (.mv (.v 1)), qg 1 false (.faddr 3 (.v 4)), qg 2 false (.load none (.r 0)), qg 3 false (.iaS 6 (.r 2) (.r 0)), qg 4 false (.faddr 5 (.r 0)), qg 5 false (.load none (.r 0)), qg 6 false (.bin .eql (.r 0) (.c (.i .i64 0))), qv 23 (.pick (.r 7) (.c (.b true)) (.r 0))])
          (.cond (.v 23)
           (.seq (.reg [qv 5 (.mv (.c (.i .i64 12)))])
           .ret)
           .skip))
          .skip))))))))))))))))))
  (.seq (.reg [qv 5 (.mv (.c (.i .i64 0)))])
  .ret)))⟩
/-- solenoid/solenoidref12.does -/
def pf26 : PFunc := ⟨[(some 0), (some 1), (some 2), none, none, none, none, none, none, none, none, none, none, none, none, none, none, none, none, none, none, none, none, none, none, none, none, none, none, none], [.v 4, .v 5],
  (.seq (.reg [qv 3 (.box (.v 1)), qv 4 (.mv (.c .nils)), qv 5 (.mv (.c (.i .i64 0)))])
  (.seq (.reg [q (.faddr 2 (.v 3)), q (.load none (.r 0)), q (.call (.c (.f 42 [] [])) [(.r 0)]), qv 6 (.mv (.r 0))])
  (.seq (.seq (.reg [q (.mv (.v 2)), q (.len 1 (.r 0)), q (.mv (.v 6)), qv 13 (.bin .lss (.r 1) (.r 0))])
  (.cond (.v 13)
   (.seq (.reg [qv 4 (.mv (.c .nils)), qv 5 (.mv (.c (.i .i64 18)))])
   .ret)
   .skip))
  (.seq (.reg [qv 7 (.mv (.c (.i .i64 0))), qv 8 (.mv (.c (.i .i64 0)))])
  (.seq (.seq (.reg [q (.mv (.v 6)), qv 14 (.bin .gtr (.r 0) (.c (.i .i64 0)))])
  (.cond (.v 14)
   (.reg [q (.mv (.v 2)), q (.mv (.v 2)), q (.len 1 (.r 0)), q (.bin .sub (.r 0) (.c (.i .i64 1))), q (.iaS 1 (.r 3) (.r 0)), q (.load none (.r 0)), qv 8 (.mv (.r 0))])
   .skip))
  (.seq (.seq (.reg [q (.mv (.v 6)), qv 15 (.bin .eql (.r 0) (.c (.i .i64 2)))])
  (.cond (.v 15)
   (.reg [q (.mv (.v 2)), q (.mv (.v 2)), q (.len 1 (.r 0)), q (.bin .sub (.r 0) (.c (.i .i64 2))), q (.iaS 1 (.r 3) (.r 0)), q (.load none (.r 0)), qv 7 (.mv (.r 0))])
   .skip))
  (.seq (.reg [q (.buildSl 0 1 [(.i .i64 0)] []), q (.mv (.v 2)), q (.mv (.v 2)), q (.len 1 (.r 0)), q (.mv (.v 6)), q (.bin .sub (.r 1) (.r 0)), q (.slSl 1 (.r 4) none (some (.r 0)) none), ⟨.append 1 8 (.r 6) (.r 0), none, none, .full, (.own 1)⟩, qv 9 (.mv (.r 0))])
  (.seq (.reg [qv 10 (.mv (.c (.b true)))])
  (.seq (.seq (.reg [q (.faddr 2 (.v 3)), qv 16 (.load none (.r 0))])
  (.blk 0 (.seq (.seq (.reg [q (.bin .eql (.v 16) (.c (.i .i64 1))), qv 17 (.mv (.r 0))])
  (.cond (.v 17)
   .skip
   (.seq (.reg [q (.bin .eql (.v 16) (.c (.i .i64 26))), qv 17 (.mv (.r 0))])
   (.cond (.v 17)
    .skip
    (.seq (.reg [q (.bin .eql (.v 16) (.c (.i .i64 2))), qv 17 (.mv (.r 0))])
    (.cond (.v 17)
     .skip
     (.seq (.reg [q (.bin .eql (.v 16) (.c (.i .i64 24))), qv 17 (.mv (.r 0))])
     (.cond (.v 17)
      .skip
      (.reg [q (.bin .eql (.v 16) (.c (.i .i64 3))), qv 17 (.mv (.r 0))])))))))))
  (.cond (.v 17)
   (.reg [q (.mv (.v 9)), q (.mv (.v 0)), q (.load (some 5) (.v 3)), q (.call (.c (.f 43 [] [])) [(.r 1), (.r 0)]), q (.buildSl 1 1 [(.i .i64 0)] [(0, 1, (.r 0))]), ⟨.append 1 8 (.r 4) (.r 0), none, none, .full, (.own 1)⟩, qv 9 (.mv (.r 0))])
   (.seq (.reg [q (.bin .eql (.v 16) (.c (.i .i64 4))), qv 18 (.mv (.r 0))])
   (.cond (.v 18)
    (.reg [q (.mv (.v 8)), q (.mv (.v 0)), q (.faddr 3 (.v 3)), q (.load none (.r 0)), q (.iaS 6 (.r 2) (.r 0)), q (.faddr 1 (.r 0)), q (.load none (.r 0)), q (.bin .eql (.r 6) (.r 0)), qv 10 (.mv (.r 0))])
    (.seq (.reg [q (.bin .eql (.v 16) (.c (.i .i64 5))), qv 19 (.mv (.r 0))])
    (.cond (.v 19)
     (.seq (.reg [q (.mv (.v 8)), q (.bin .eql (.r 0) (.c (.i .i64 5))), qv 10 (.mv (.r 0))])
     (.reg [q (.mv (.v 9)), q (.mv (.v 0)), q (.faddr 3 (.v 3)), q (.load none (.r 0)), q (.iaS 6 (.r 2) (.r 0)), q (.faddr 1 (.r 0)), q (.load none (.r 0)), q (.buildSl 1 1 [(.i .i64 0)] [(0, 1, (.r 0))]), ⟨.append 1 8 (.r 7) (.r 0), none, none, .full, (.own 1)⟩, qv 9 (.mv (.r 0))]))
     (.seq (.reg [q (.bin .eql (.v 16) (.c (.i .i64 6))), qv 20 (.mv (.r 0))])
     (.cond (.v 20)
      (.reg [q (.mv (.v 8)), q (.mv (.v 0)), q (.faddr 3 (.v 3)), q (.load none (.r 0)), q (.iaS 6 (.r 2) (.r 0)), q (.faddr 1 (.r 0)), q (.load none (.r 0)), q (.bin .eql (.r 6) (.r 0)), q (.mv (.r 0)), qg 0 true (.mv (.v 7)), qg 1 true (.bin .eql (.r 0) (.c (.i .i64 5))), q (.pick (.r 2) (.r 0) (.c (.b false))), qv 10 (.mv (.r 0))])
      (.seq (.reg [q (.bin .eql (.v 16) (.c (.i .i64 15))), qv 21 (.mv (.r 0))])
      (.cond (.v 21)
       (.seq (.reg [q (.mv (.v 8)), q (.bin .eql (.r 0) (.c (.i .i64 1))), q (.mv (.r 0)), qg 0 false (.mv (.v 8)), qg 1 false (.bin .eql (.r 0) (.c (.i .i64 2))), q (.pick (.r 2) (.c (.b true)) (.r 0)), q (.mv (.r 0)), qg 0 false (.mv (.v 8)), qg 1 false (.bin .eql (.r 0) (.c (.i .i64 3))), q (.pick (.r 2) (.c (.b true)) (.r 0)), qv 10 (.mv (.r 0))])
       (.reg [q (.mv (.v 9)), q (.mv (.v 8)), q (.buildSl 1 1 [(.i .i64 0)] [(0, 1, (.r 0))]), ⟨.append 1 8 (.r 2) (.r 0), none, none, .full, (.own 1)⟩, qv 9 (.mv (.r 0))]))
       (.seq (.reg [q (.bin .eql (.v 16) (.c (.i .i64 19))), qv 22 (.mv (.r 0))])
       (.cond (.v 22)
        (.reg [q (.mv (.v 8)), q (.bin .eql (.r 0) (.c (.i .i64 1))), qv 10 (.mv (.r 0))])
        (.seq (.reg [q (.bin .eql (.v 16) (.c (.i .i64 21))), qv 23 (.mv (.r 0))])
        (.cond (.v 23)
         (.reg [q (.mv (.v 9)), q (.mv (.v 8)), q (.mv (.v 8)), q (.buildSl 2 1 [(.i .i64 0)] [(0, 1, (.r 1)), (1, 1, (.r 0))]), ⟨.append 1 8 (.r 3) (.r 0), none, none, .full, (.own 1)⟩, qv 9 (.mv (.r 0))])
         (.seq (.reg [q (.bin .eql (.v 16) (.c (.i .i64 23))), qv 24 (.mv (.r 0))])
         (.cond (.v 24)
          (.reg [q (.mv (.v 9)), q (.faddr 3 (.v 3)), q (.load none (.r 0)), q (.buildSl 1 1 [(.i .i64 0)] [(0, 1, (.r 0))]), ⟨.append 1 8 (.r 3) (.r 0), none, none, .full, (.own 1)⟩, qv 9 (.mv (.r 0))])
          (.seq (.reg [q (.bin .eql (.v 16) (.c (.i .i64 25))), qv 25 (.mv (.r 0))])
          (.cond (.v 25)
           (.reg [q (.mv (.v 8)), q (.bin .eql (.r 0) (.c (.i .i64 5))), qv 10 (.mv (.r 0))])
           .skip))))))))))))))))))))
  (.seq (.seq (.reg [q (.mv (.v 6)), q (.bin .eql (.r 0) (.c (.i .i64 2))), q (.mv (.r 0)), qg 0 true (.faddr 2 (.v 3)), qg 1 true (.load none (.r 0)), qg 2 true (.bin .neq (.r 0) (.c (.i .i64 6))), qv 26 (.pick (.r 3) (.r 0) (.c (.b false)))])
  (.cond (.v 26)
   (.seq (.reg [q (.faddr 2 (.v 3)), q (.load none (.r 0)), q (.mv (.v 7)), q (.mv (.v 8)), q (.call (.c (.f 44 [] [])) [(.r 2), (.r 1), (.r 0)]), q (.mv (.r 0)), q (.ext 0 (.r 0)), q (.ext 1 (.r 1)), qv 11 (.mv (.r 1)), qv 12 (.mv (.r 1))])
   (.seq (.seq (.reg [q (.mv (.v 12)), qv 27 (.bin .neq (.r 0) (.c (.i .i64 0)))])
   (.cond (.v 27)
    (.seq (.reg [q (.mv (.v 12)), qv 4 (.mv (.c .nils)), qv 5 (.mv (.r 1))])
    .ret)
    .skip))
   (.reg [q (.mv (.v 9)), q (.mv (.v 11)), q (.buildSl 1 1 [(.i .i64 0)] [(0, 1, (.r 0))]), ⟨.append 1 8 (.r 2) (.r 0), none, none, .full, (.own 1)⟩, qv 9 (.mv (.r 0))])))
   .skip))
  (.seq (.seq (.reg [q (.mv (.v 10)), qv 28 (.un .not (.r 0))])
  (.cond (.v 28)
   (.seq (.reg [qv 4 (.mv (.c .nils)), qv 5 (.mv (.c (.i .i64 19)))])
   .ret)
   .skip))
  (.seq (.seq (.reg [q (.mv (.v 9)), q (.len 1 (.r 0)), qv 29 (.bin .gtr (.r 0) (.c (.i .i64 8)))])
  (.cond (.v 29)
   (.seq (.reg [qv 4 (.mv (.c .nils)), qv 5 (.mv (.c (.i .i64 18)))])
   .ret)
   .skip))
  (.seq (.reg [q (.mv (.v 9)), qv 4 (.mv (.r 0)), qv 5 (.mv (.c (.i .i64 0)))])
  .ret)))))))))))))⟩
/-- solenoid/solenoidref12.next -/
def pf27 : PFunc := ⟨[(some 0), none, none, none, none, none, none], [.v 2],
  (.seq (.reg [qv 1 (.box (.v 0)), qv 2 (.mv (.c .nils))])
  (.seq (.seq (.reg [q (.faddr 2 (.v 1)), qv 3 (.load none (.r 0))])
  (.blk 0 (.seq (.reg [q (.bin .eql (.v 3) (.c (.i .i64 0))), qv 4 (.mv (.r 0))])
  (.cond (.v 4)
   (.seq (.reg [qv 2 (.mv (.c .nils))])
   .ret)
   (.seq (.reg [q (.bin .eql (.v 3) (.c (.i .i64 18))), qv 5 (.mv (.r 0))])
   (.cond (.v 5)
    (.seq (.reg [q (.faddr 3 (.v 1)), q (.load none (.r 0)), q (.buildSl 1 1 [(.i .i64 0)] [(0, 1, (.r 0))]), qv 2 (.mv (.r 0))])
    .ret)
    (.seq (.reg [q (.bin .eql (.v 3) (.c (.i .i64 19))), qv 6 (.mv (.r 0))])
    (.cond (.v 6)
     (.seq (.reg [q (.faddr 1 (.v 1)), q (.load none (.r 0)), q (.faddr 3 (.v 1)), q (.load none (.r 0)), q (.buildSl 2 1 [(.i .i64 0)] [(0, 1, (.r 2)), (1, 1, (.r 0))]), qv 2 (.mv (.r 0))])
     .ret)
     .skip))))))))
  (.seq (.reg [q (.faddr 1 (.v 1)), q (.load none (.r 0)), q (.buildSl 1 1 [(.i .i64 0)] [(0, 1, (.r 0))]), qv 2 (.mv (.r 0))])
  .ret)))⟩
/-- solenoid/solenoidref12.meet -/
def lp28_1 : PCode :=
  (.seq (.seq (.reg [q (.mv (.v 3)), q (.mv (.v 0)), q (.len 1 (.r 0)), qv 5 (.bin .lss (.r 2) (.r 0))])
  (.cond (.v 5)
   .skip
   (.exit 0)))
  (.seq (.blk 1 (.seq (.reg [qn (.mv (.v 0)), qn (.mv (.v 3)), qn (.iaS 1 (.r 1) (.r 0)), qn (.load none (.r 0)), qn (.mv (.v 1)), qn (.mv (.v 3)), qn (.iaS 1 (.r 1) (.r 0)), qn (.load none (.r 0)), qv 6 (.bin .neq (.r 4) (.r 0))])
  (.cond (.v 6)
   (.seq (.reg [qv 2 (.mv (.c (.i .i64 19)))])
   .ret)
   .skip)))
  (.reg [q (.mv (.v 3)), q (.bin .add (.r 0) (.c (.i .i64 1))), qv 3 (.mv (.r 0))])))
def pf28 : PFunc := ⟨[(some 0), (some 1), none, none, none, none, none], [.v 2],
  (.seq (.reg [qv 2 (.mv (.c (.i .i64 0)))])
  (.seq (.seq (.reg [q (.mv (.v 0)), q (.len 1 (.r 0)), q (.mv (.v 1)), q (.len 1 (.r 0)), qv 4 (.bin .neq (.r 2) (.r 0))])
  (.cond (.v 4)
   (.seq (.reg [qv 2 (.mv (.c (.i .i64 18)))])
   .ret)
   .skip))
  (.seq (.seq (.reg [qv 3 (.mv (.c (.i .i64 0)))])
  (.blk 0 (.loop lp28_1)))
  (.seq (.reg [qv 2 (.mv (.c (.i .i64 0)))])
  .ret))))⟩
/-- solenoid/solenoidref10.Bears -/
def pf29 : PFunc := ⟨[(some 0), none, none, none, none], [.v 1],
  (.seq (.reg [qv 1 (.mv (.c (.i .i64 0)))])
  (.seq (.seq (.reg [qv 2 (.mv (.v 0))])
  (.blk 0 (.seq (.reg [q (.bin .eql (.v 2) (.c (.i .i64 1))), qv 3 (.mv (.r 0))])
  (.cond (.v 3)
   (.seq (.reg [qv 1 (.mv (.c (.i .i64 9)))])
   .ret)
   (.seq (.seq (.reg [q (.bin .eql (.v 2) (.c (.i .i64 2))), qv 4 (.mv (.r 0))])
   (.cond (.v 4)
    .skip
    (.seq (.reg [q (.bin .eql (.v 2) (.c (.i .i64 3))), qv 4 (.mv (.r 0))])
    (.cond (.v 4)
     .skip
     (.seq (.reg [q (.bin .eql (.v 2) (.c (.i .i64 4))), qv 4 (.mv (.r 0))])
     (.cond (.v 4)
      .skip
      (.seq (.reg [q (.bin .eql (.v 2) (.c (.i .i64 5))), qv 4 (.mv (.r 0))])
      (.cond (.v 4)
       .skip
       (.seq (.reg [q (.bin .eql (.v 2) (.c (.i .i64 6))), qv 4 (.mv (.r 0))])
       (.cond (.v 4)
        .skip
        (.seq (.reg [q (.bin .eql (.v 2) (.c (.i .i64 18))), qv 4 (.mv (.r 0))])
        (.cond (.v 4)
         .skip
         (.seq (.reg [q (.bin .eql (.v 2) (.c (.i .i64 19))), qv 4 (.mv (.r 0))])
         (.cond (.v 4)
          .skip
          (.seq (.reg [q (.bin .eql (.v 2) (.c (.i .i64 20))), qv 4 (.mv (.r 0))])
          (.cond (.v 4)
           .skip
           (.seq (.reg [q (.bin .eql (.v 2) (.c (.i .i64 23))), qv 4 (.mv (.r 0))])
           (.cond (.v 4)
            .skip
            (.seq (.reg [q (.bin .eql (.v 2) (.c (.i .i64 24))), qv 4 (.mv (.r 0))])
            (.cond (.v 4)
             .skip
             (.seq (.reg [q (.bin .eql (.v 2) (.c (.i .i64 25))), qv 4 (.mv (.r 0))])
             (.cond (.v 4)
              .skip
              (.reg [q (.bin .eql (.v 2) (.c (.i .i64 27))), qv 4 (.mv (.r 0))])))))))))))))))))))))))
   (.cond (.v 4)
    (.seq (.reg [qv 1 (.mv (.c (.i .i64 1)))])
    .ret)
    .skip))))))
  (.seq (.reg [qv 1 (.mv (.c (.i .i64 0)))])
  .ret)))⟩
/-- solenoid/instr.Read -/
def pf30 : PFunc := ⟨[(some 0), (some 1), none, none, none, none, none, none, none, none, none], [.cell 2 (some 5), .v 3],
  (.seq (.reg [qv 2 (.box (.c (.agg [(.i .i64 0), (.i .i64 0), (.i .i64 0), (.i .i64 0), (.i .i64 0)]))), qv 3 (.mv (.c (.i .i64 0)))])
  (.seq (.seq (.reg [q (.mv (.v 1)), q (.bin .lss (.r 0) (.c (.i .i64 0))), q (.mv (.r 0)), qg 0 false (.mv (.v 1)), qg 1 false (.mv (.v 0)), qg 2 false (.len 1 (.r 0)), qg 3 false (.bin .geq (.r 2) (.r 0)), qv 6 (.pick (.r 4) (.c (.b true)) (.r 0))])
  (.cond (.v 6)
   (.seq (.reg [q (.build [(.i .i64 0), (.i .i64 0), (.i .i64 0), (.i .i64 0), (.i .i64 0)] []), q (.store 5 (.v 2) (.r 0)), qv 3 (.mv (.c (.i .i64 12)))])
   .ret)
   .skip))
  (.seq (.reg [q (.mv (.v 0)), q (.mv (.v 1)), q (.build [.nils, (.i .i64 0)] [(0, 1, (.r 1)), (1, 1, (.r 0))]), q (.build [.nils, (.i .i64 0)] [(0, 2, (.r 0))]), qv 4 (.box (.c (.agg [.nils, (.i .i64 0)]))), q (.store 2 (.r 0) (.r 1))])
  (.seq (.reg [q (.mv (.v 1)), q (.faddr 0 (.v 4)), ⟨.call (.c (.f 45 [] [])) [(.r 0)], none, none, .full, .sh⟩, q (.build [(.i .i64 0), (.i .i64 0), (.i .i64 0), (.i .i64 0), (.i .i64 0)] [(0, 1, (.r 2)), (2, 1, (.r 0))]), qv 5 (.box (.c (.agg [(.i .i64 0), (.i .i64 0), (.i .i64 0), (.i .i64 0), (.i .i64 0)]))), q (.store 5 (.r 0) (.r 1))])
  (.seq (.blk 0 (.seq (.reg [q (.faddr 2 (.v 5)), q (.load none (.r 0)), q (.bin .gtr (.r 0) (.c (.i .i64 29))), qv 7 (.mv (.r 0))])
  (.cond (.v 7)
   (.seq (.reg [q (.build [(.i .i64 0), (.i .i64 0), (.i .i64 0), (.i .i64 0), (.i .i64 0)] []), q (.store 5 (.v 2) (.r 0)), qv 3 (.mv (.c (.i .i64 10)))])
   .ret)
   (.seq (.reg [qn (.faddr 2 (.v 5)), qn (.load none (.r 0)), qn (.call (.c (.f 46 [] [])) [(.r 0)]), qn (.mv (.v 0)), qn (.len 1 (.r 0)), qn (.faddr 0 (.v 4)), qn (.faddr 1 (.r 0)), qn (.load none (.r 0)), qn (.bin .sub (.r 3) (.r 0)), q (.bin .gtr (.r 6) (.r 0)), qv 8 (.mv (.r 0))])
   (.cond (.v 8)
    (.seq (.reg [q (.build [(.i .i64 0), (.i .i64 0), (.i .i64 0), (.i .i64 0), (.i .i64 0)] []), q (.store 5 (.v 2) (.r 0)), qv 3 (.mv (.c (.i .i64 8)))])
    .ret)
    .skip)))))
  (.seq (.seq (.reg [q (.faddr 2 (.v 5)), q (.load none (.r 0)), q (.call (.c (.f 46 [] [])) [(.r 0)]), qv 9 (.bin .gtr (.r 0) (.c (.i .i64 0)))])
  (.cond (.v 9)
   (.reg [q (.faddr 0 (.v 4)), ⟨.call (.c (.f 45 [] [])) [(.r 0)], none, none, .full, .sh⟩, q (.faddr 3 (.v 5)), q (.store 1 (.r 0) (.r 1))])
   .skip))
  (.seq (.seq (.reg [q (.faddr 2 (.v 5)), q (.load none (.r 0)), qv 10 (.bin .eql (.r 0) (.c (.i .i64 1)))])
  (.cond (.v 10)
   (.reg [q (.faddr 0 (.v 4)), ⟨.call (.c (.f 47 [] [])) [(.r 0)], none, none, .full, .sh⟩, q (.faddr 4 (.v 5)), q (.store 1 (.r 0) (.r 1))])
   .skip))
  (.seq (.reg [q (.faddr 0 (.v 4)), q (.faddr 1 (.r 0)), q (.load none (.r 0)), q (.faddr 1 (.v 5)), q (.store 1 (.r 0) (.r 1))])
  (.seq (.reg [q (.load (some 5) (.v 5)), q (.store 5 (.v 2) (.r 0)), qv 3 (.mv (.c (.i .i64 0)))])
  .ret)))))))))⟩
/-- slices.Clone[[]solenoid/instr.Op,solenoid/instr.Op] -/
def pf31 : PFunc := cloneP 5 40 [(.i .i64 0), (.i .i64 0), (.i .i64 0), (.i .i64 0), (.i .i64 0)]
/-- solenoid/kinds.Size -/
def pf32 : PFunc := ⟨[(some 0), none, none, none, none], [.v 2],
  (.seq (.reg [qv 1 (.box (.v 0)), qv 2 (.mv (.c (.i .i64 0)))])
  (.seq (.blk 0 (.seq (.reg [q (.faddr 0 (.v 1)), q (.load none (.r 0)), q (.call (.c (.f 48 [] [])) [(.r 0)]), qv 3 (.mv (.r 0))])
  (.cond (.v 3)
   (.seq (.reg [qv 2 (.mv (.c (.i .i64 1)))])
   .ret)
   (.seq (.reg [q (.faddr 0 (.v 1)), q (.load none (.r 0)), q (.bin .eql (.r 0) (.c (.i .i64 7))), qv 4 (.mv (.r 0))])
   (.cond (.v 4)
    (.seq (.reg [q (.faddr 2 (.v 1)), q (.load none (.r 0)), qv 2 (.mv (.r 0))])
    .ret)
    .skip)))))
  (.seq (.reg [q (.load (some 4) (.v 1)), q (.call (.c (.f 49 [] [])) [(.r 0)]), q (.len 1 (.r 0)), qv 2 (.mv (.r 0))])
  .ret)))⟩
/-- solenoid/layout.path -/
def pf33 : PFunc := ⟨[(some 0), (some 1), none, none, none, none, none], [.v 3],
  (.seq (.reg [qv 2 (.box (.v 0)), qv 3 (.mv (.c (.s [])))])
  (.seq (.reg [q (.faddr 1 (.v 2)), q (.load (some 4) (.r 0)), q (.call (.c (.f 49 [] [])) [(.r 0)]), qv 4 (.mv (.r 0))])
  (.seq (.blk 0 (.seq (.reg [q (.faddr 1 (.v 2)), q (.faddr 0 (.r 0)), q (.load none (.r 0)), q (.bin .eql (.r 0) (.c (.i .i64 7))), qv 5 (.mv (.r 0))])
  (.cond (.v 5)
   (.seq (.reg [qn (.faddr 0 (.v 2)), qn (.load none (.r 0)), qn (.bin .add (.r 0) (.c (.s [91]))), qn (.mv (.v 1)), qn (.call (.c (.f 50 [] [])) [(.r 0)]), q (.bin .add (.r 2) (.r 0)), q (.bin .add (.r 0) (.c (.s [93]))), qv 3 (.mv (.r 0))])
   .ret)
   (.seq (.reg [q (.mv (.v 1)), q (.mv (.v 4)), q (.len 1 (.r 0)), q (.bin .lss (.r 2) (.r 0)), qv 6 (.mv (.r 0))])
   (.cond (.v 6)
    (.seq (.reg [qn (.faddr 0 (.v 2)), qn (.load none (.r 0)), qn (.bin .add (.r 0) (.c (.s [46]))), qn (.mv (.v 4)), qn (.mv (.v 1)), qn (.iaS 2 (.r 1) (.r 0)), qn (.faddr 0 (.r 0)), qn (.load none (.r 0)), q (.bin .add (.r 5) (.r 0)), qv 3 (.mv (.r 0))])
    .ret)
    .skip)))))
  (.seq (.reg [q (.faddr 0 (.v 2)), q (.load none (.r 0)), qv 3 (.mv (.r 0))])
  .ret))))⟩
/-- solenoid/layout.kind -/
def pf34 : PFunc := ⟨[(some 0), (some 1), none, none, none, none, none], [.v 3],
  (.seq (.reg [qv 2 (.box (.v 0)), qv 3 (.mv (.c (.i .i64 0)))])
  (.seq (.reg [q (.load (some 4) (.v 2)), q (.call (.c (.f 49 [] [])) [(.r 0)]), qv 4 (.mv (.r 0))])
  (.seq (.blk 0 (.seq (.reg [q (.faddr 0 (.v 2)), q (.load none (.r 0)), q (.bin .eql (.r 0) (.c (.i .i64 7))), qv 5 (.mv (.r 0))])
  (.cond (.v 5)
   (.seq (.reg [q (.faddr 1 (.v 2)), q (.load none (.r 0)), qv 3 (.mv (.r 0))])
   .ret)
   (.seq (.reg [q (.mv (.v 1)), q (.mv (.v 4)), q (.len 1 (.r 0)), q (.bin .lss (.r 2) (.r 0)), qv 6 (.mv (.r 0))])
   (.cond (.v 6)
    (.seq (.reg [q (.mv (.v 4)), q (.mv (.v 1)), q (.iaS 2 (.r 1) (.r 0)), q (.faddr 1 (.r 0)), q (.load none (.r 0)), qv 3 (.mv (.r 0))])
    .ret)
    .skip)))))
  (.seq (.reg [q (.faddr 0 (.v 2)), q (.load none (.r 0)), qv 3 (.mv (.r 0))])
  .ret))))⟩
/-- solenoid/layout.put -/
def pf35 : PFunc := ⟨[(some 0), (some 1), none, none], [.v 2],
  (.seq (.reg [qv 2 (.mv (.c .nils))])
  (.seq (.reg [q (.mv (.v 0)), q (.len 1 (.r 0)), qv 3 (.mv (.r 0))])
  (.seq (.reg [q (.mv (.v 0)), q (.mv (.v 3)), q (.mv (.v 3)), q (.slSl 6 (.r 2) none (some (.r 1)) (some (.r 0))), q (.mv (.v 1)), q (.append 6 56 (.r 1) (.r 0)), qv 2 (.mv (.r 0))])
  .ret)))⟩
/-- (*solenoid/check.program).step -/
def lp36_1 : PCode :=
  (.seq (.reg [qv 19 (.bin .lss (.v 18) (.v 17))])
  (.seq (.cond (.v 19)
   .skip
   (.exit 0))
  (.seq (.blk 1 (.seq (.reg [q (.mv (.v 18)), q (.iaS 1 (.v 16) (.v 18)), q (.load none (.r 0)), qv 10 (.mv (.r 2)), qv 11 (.mv (.r 1))])
  (.seq (.reg [q (.mv (.v 11)), q (.bin .neq (.r 0) (.c (.i .i64 0))), q (.mv (.r 0)), qg 0 true (.mv (.v 11)), qg 1 true (.mv (.v 9)), qg 2 true (.mv (.v 10)), qg 3 true (.iaS 1 (.r 1) (.r 0)), qg 4 true (.load none (.r 0)), qg 5 true (.bin .neq (.r 4) (.r 0)), qv 20 (.pick (.r 6) (.r 0) (.c (.b false)))])
  (.cond (.v 20)
   (.seq (.reg [qv 4 (.mv (.c .nils)), qv 5 (.mv (.c (.i .i64 19)))])
   .ret)
   .skip))))
  (.reg [q (.bin .add (.v 18) (.c (.i .i64 1))), qv 18 (.mv (.r 0))]))))
def pf36 : PFunc := ⟨[(some 0), (some 1), (some 2), none, none, none, none, none, none, none, none, none, none, none, none, none, none, none, none, none, none, none, none], [.v 4, .v 5],
  (.seq (.reg [qv 3 (.box (.v 1)), qv 4 (.mv (.c .nils)), qv 5 (.mv (.c (.i .i64 0)))])
  (.seq (.seq (.reg [q (.mv (.v 0)), q (.load (some 5) (.v 3)), q (.call (.c (.f 51 [] [])) [(.r 1), (.r 0)]), qv 6 (.mv (.r 0))])
  (.seq (.reg [q (.mv (.v 6)), qv 14 (.bin .neq (.r 0) (.c (.i .i64 0)))])
  (.cond (.v 14)
   (.seq (.reg [q (.mv (.v 6)), qv 4 (.mv (.c .nils)), qv 5 (.mv (.r 1))])
   .ret)
   .skip)))
  (.seq (.reg [q (.mv (.v 0)), q (.load (some 5) (.v 3)), q (.call (.c (.f 52 [] [])) [(.r 1), (.r 0)]), qv 7 (.mv (.r 0))])
  (.seq (.seq (.reg [q (.mv (.v 7)), q (.len 1 (.r 0)), q (.mv (.v 2)), q (.len 1 (.r 0)), qv 15 (.bin .gtr (.r 2) (.r 0))])
  (.cond (.v 15)
   (.seq (.reg [qv 4 (.mv (.c .nils)), qv 5 (.mv (.c (.i .i64 18)))])
   .ret)
   .skip))
  (.seq (.reg [q (.mv (.v 2)), q (.len 1 (.r 0)), q (.mv (.v 7)), q (.len 1 (.r 0)), q (.bin .sub (.r 2) (.r 0)), qv 8 (.mv (.r 0))])
  (.seq (.reg [q (.mv (.v 2)), q (.mv (.v 8)), q (.slSl 1 (.r 1) (some (.r 0)) none none), q (.call (.c (.f 53 [] [])) [(.r 0)]), qv 9 (.mv (.r 0))])
  (.seq (.seq (.reg [qv 16 (.mv (.v 7)), qv 17 (.len 1 (.r 0)), qv 18 (.mv (.c (.i .i64 0)))])
  (.blk 0 (.loop lp36_1)))
  (.seq (.reg [q (.mv (.v 0)), q (.load (some 5) (.v 3)), q (.mv (.v 9)), q (.call (.c (.f 54 [] [])) [(.r 2), (.r 1), (.r 0)]), q (.mv (.r 0)), q (.ext 0 (.r 0)), q (.ext 1 (.r 1)), qv 12 (.mv (.r 1)), qv 13 (.mv (.r 1))])
  (.seq (.blk 2 (.seq (.reg [q (.mv (.v 13)), q (.bin .neq (.r 0) (.c (.i .i64 0))), qv 21 (.mv (.r 0))])
  (.cond (.v 21)
   (.seq (.reg [q (.mv (.v 13)), qv 4 (.mv (.c .nils)), qv 5 (.mv (.r 1))])
   .ret)
   (.seq (.reg [q (.mv (.v 8)), q (.mv (.v 12)), q (.len 1 (.r 0)), q (.bin .add (.r 2) (.r 0)), q (.bin .gtr (.r 0) (.c (.i .i64 8))), qv 22 (.mv (.r 0))])
   (.cond (.v 22)
    (.seq (.reg [qv 4 (.mv (.c .nils)), qv 5 (.mv (.c (.i .i64 18)))])
    .ret)
    .skip)))))
  (.seq (.reg [q (.mv (.v 2)), q (.mv (.v 8)), q (.slSl 1 (.r 1) none (some (.r 0)) none), q (.mv (.v 12)), q (.buildSl 2 1 [.nils] [(0, 1, (.r 1)), (1, 1, (.r 0))]), q (.call (.c (.f 55 [] [])) [(.r 0)]), qv 4 (.mv (.r 0)), qv 5 (.mv (.c (.i .i64 0)))])
  .ret))))))))))⟩
/-- solenoid/check.on -/
def pf37 : PFunc := ⟨[(some 0), none, none, none, none, none, none], [.v 2],
  (.seq (.reg [qv 1 (.box (.v 0)), qv 2 (.mv (.c .nils))])
  (.seq (.seq (.reg [q (.faddr 2 (.v 1)), qv 3 (.load none (.r 0))])
  (.blk 0 (.seq (.reg [q (.bin .eql (.v 3) (.c (.i .i64 0))), qv 4 (.mv (.r 0))])
  (.cond (.v 4)
   (.seq (.reg [qv 2 (.mv (.c .nils))])
   .ret)
   (.seq (.reg [q (.bin .eql (.v 3) (.c (.i .i64 18))), qv 5 (.mv (.r 0))])
   (.cond (.v 5)
    (.seq (.reg [q (.faddr 3 (.v 1)), q (.load none (.r 0)), q (.buildSl 1 1 [(.i .i64 0)] [(0, 1, (.r 0))]), qv 2 (.mv (.r 0))])
    .ret)
    (.seq (.reg [q (.bin .eql (.v 3) (.c (.i .i64 19))), qv 6 (.mv (.r 0))])
    (.cond (.v 6)
     (.seq (.reg [q (.faddr 1 (.v 1)), q (.load none (.r 0)), q (.faddr 3 (.v 1)), q (.load none (.r 0)), q (.buildSl 2 1 [(.i .i64 0)] [(0, 1, (.r 2)), (1, 1, (.r 0))]), qv 2 (.mv (.r 0))])
     .ret)
     .skip))))))))
  (.seq (.reg [q (.faddr 1 (.v 1)), q (.load none (.r 0)), q (.buildSl 1 1 [(.i .i64 0)] [(0, 1, (.r 0))]), qv 2 (.mv (.r 0))])
  .ret)))⟩
/-- slices.Contains[[]int,int] -/
def pf38 : PFunc := ⟨[(some 0), (some 1), none], [.v 2],
  (.seq (.reg [qv 2 (.mv (.c (.b false)))])
  (.seq (.reg [q (.mv (.v 0)), q (.mv (.v 1)), q (.call (.c (.f 56 [] [])) [(.r 1), (.r 0)]), q (.bin .geq (.r 0) (.c (.i .i64 0))), qv 2 (.mv (.r 0))])
  .ret))⟩
/-- (*solenoid/check.walk).join -/
def pf39 : PFunc := ⟨[(some 0), (some 1), (some 2), none, none, none, none, none, none], [.v 3],
  (.seq (.reg [qv 3 (.mv (.c (.i .i64 0)))])
  (.seq (.reg [q (.mv (.v 0)), q (.nilck (.r 0)), q (.faddr 3 (.r 0)), q (.load none (.r 0)), q (.mv (.v 1)), q (.look (.sc 0) .nils true (.r 1) (.r 0)), q (.mv (.r 0)), q (.ext 0 (.r 0)), q (.ext 1 (.r 1)), qv 4 (.mv (.r 1)), qv 5 (.mv (.r 1))])
  (.seq (.blk 0 (.seq (.reg [q (.mv (.v 5)), q (.un .not (.r 0)), qv 6 (.mv (.r 0))])
  (.cond (.v 6)
   (.reg [q (.mv (.v 0)), q (.nilck (.r 0)), q (.faddr 3 (.r 0)), q (.load none (.r 0)), q (.mv (.v 1)), q (.mv (.v 2)), q (.mupd (.sc 0) (.r 2) (.r 1) (.r 0))])
   (.seq (.reg [q (.mv (.v 4)), q (.len 1 (.r 0)), q (.mv (.v 2)), q (.len 1 (.r 0)), q (.bin .neq (.r 2) (.r 0)), qv 7 (.mv (.r 0))])
   (.cond (.v 7)
    (.seq (.reg [qv 3 (.mv (.c (.i .i64 18)))])
    .ret)
    (.seq (.reg [q (.mv (.v 4)), q (.mv (.v 2)), q (.call (.c (.f 57 [] [])) [(.r 1), (.r 0)]), q (.un .not (.r 0)), qv 8 (.mv (.r 0))])
    (.cond (.v 8)
     (.seq (.reg [qv 3 (.mv (.c (.i .i64 19)))])
     .ret)
     .skip)))))))
  (.seq (.reg [qv 3 (.mv (.c (.i .i64 0)))])
  .ret))))⟩
/-- solenoid/solenoidref8.of THAW [(3, 6)] -/
def lp40_1 : PCode :=
  (.seq (.seq (.reg [q (.mv (.v 4)), q (.faddr 1 (.v 1)), q (.faddr 2 (.r 0)), q (.load none (.r 0)), qv 14 (.bin .lss (.r 3) (.r 0))])
  (.cond (.v 14)
   .skip
   (.exit 3)))
  (.seq (.blk 4 (.seq (.reg [qn (.faddr 0 (.v 1)), qn (.load none (.r 0)), qn (.bin .add (.r 0) (.c (.s [91]))), qn (.mv (.v 4)), qn (.call (.c (.f 58 [] [])) [(.r 0)]), qn (.bin .add (.r 2) (.r 0)), qn (.bin .add (.r 0) (.c (.s [93]))), qn (.faddr 1 (.v 1)), qn (.faddr 1 (.r 0)), qn (.load none (.r 0)), qn (.build [(.s []), (.i .i64 0), (.b false), (.i .i64 0), (.i .i64 0), (.i .i64 0)] [(0, 1, (.r 3)), (1, 1, (.r 0))]), ⟨.box (.c (.agg [(.s []), (.i .i64 0), (.b false), (.i .i64 0), (.i .i64 0), (.i .i64 0)])), none, (some 5), .new, .d⟩, q (.store 6 (.r 0) (.r 1))])
  (.seq (.seq (.reg [q (.mv (.v 4)), qv 15 (.bin .eql (.r 0) (.c (.i .i64 0)))])
  (.cond (.v 15)
   (.reg [q (.faddr 1 (.v 1)), q (.faddr 2 (.r 0)), q (.load none (.r 0)), q (.faddr 4 (.v 5)), q (.store 1 (.r 0) (.r 1))])
   .skip))
  (.reg [q (.mv (.v 3)), q (.load (some 6) (.v 5)), q (.buildSl 1 6 [(.s []), (.i .i64 0), (.b false), (.i .i64 0), (.i .i64 0), (.i .i64 0)] [(0, 6, (.r 0))]), ⟨.append 6 56 (.r 2) (.r 0), none, none, .full, (.own 6)⟩, qv 3 (.mv (.r 0))]))))
  (.reg [q (.mv (.v 4)), q (.bin .add (.r 0) (.c (.i .i64 1))), qv 4 (.mv (.r 0))])))
def lp40_2 : PCode :=
  (.seq (.seq (.reg [q (.mv (.v 7)), q (.mv (.v 6)), q (.len 1 (.r 0)), qv 10 (.bin .lss (.r 2) (.r 0))])
  (.cond (.v 10)
   .skip
   (.exit 1)))
  (.seq (.blk 2 (.seq (.reg [qn (.faddr 0 (.v 1)), qn (.load none (.r 0)), qn (.bin .add (.r 0) (.c (.s [46]))), qn (.mv (.v 6)), qn (.mv (.v 7)), qn (.iaS 2 (.r 1) (.r 0)), qn (.faddr 0 (.r 0)), qn (.load none (.r 0)), qn (.bin .add (.r 5) (.r 0)), qn (.mv (.v 6)), qn (.mv (.v 7)), qn (.iaS 2 (.r 1) (.r 0)), qn (.faddr 1 (.r 0)), qn (.load none (.r 0)), qn (.build [(.s []), (.i .i64 0), (.b false), (.i .i64 0), (.i .i64 0), (.i .i64 0)] [(0, 1, (.r 5)), (1, 1, (.r 0))]), ⟨.box (.c (.agg [(.s []), (.i .i64 0), (.b false), (.i .i64 0), (.i .i64 0), (.i .i64 0)])), none, (some 8), .new, .d⟩, q (.store 6 (.r 0) (.r 1))])
  (.seq (.seq (.reg [q (.mv (.v 7)), q (.bin .eql (.r 0) (.c (.i .i64 0))), q (.mv (.r 0)), qg 0 true (.faddr 1 (.v 1)), qg 1 true (.faddr 0 (.r 0)), qg 2 true (.load none (.r 0)), qg 3 true (.bin .neq (.r 0) (.c (.i .i64 8))), qv 11 (.pick (.r 4) (.r 0) (.c (.b false)))])
  (.cond (.v 11)
   (.reg [q (.faddr 1 (.v 1)), q (.faddr 0 (.r 0)), q (.load none (.r 0)), q (.faddr 5 (.v 8)), q (.store 1 (.r 0) (.r 1))])
   .skip))
  (.reg [q (.mv (.v 3)), q (.load (some 6) (.v 8)), q (.buildSl 1 6 [(.s []), (.i .i64 0), (.b false), (.i .i64 0), (.i .i64 0), (.i .i64 0)] [(0, 6, (.r 0))]), ⟨.append 6 56 (.r 2) (.r 0), none, none, .full, (.own 6)⟩, qv 3 (.mv (.r 0))]))))
  (.reg [q (.mv (.v 7)), q (.bin .add (.r 0) (.c (.i .i64 1))), qv 7 (.mv (.r 0))])))
def lp40_3 : PCode :=
  (.seq (.seq (.reg [q (.mv (.v 9)), q (.mv (.v 3)), q (.len 1 (.r 0)), qv 16 (.bin .lss (.r 2) (.r 0))])
  (.cond (.v 16)
   .skip
   (.exit 5)))
  (.seq (.blk 6 (.seq (.reg [q (.mv (.v 3)), q (.mv (.v 9)), q (.faddr 5 (.v 1)), q (.load none (.r 0)), q (.iaS 6 (.r 3) (.r 2)), q (.faddr 2 (.r 0)), q (.store 1 (.r 0) (.r 2))])
  (.seq (.reg [q (.mv (.v 9)), q (.faddr 6 (.v 1)), q (.load none (.r 0)), q (.len 1 (.r 0)), qv 17 (.bin .lss (.r 3) (.r 0))])
  (.cond (.v 17)
   (.reg [q (.mv (.v 3)), q (.mv (.v 9)), q (.faddr 6 (.v 1)), q (.load none (.r 0)), q (.mv (.v 9)), q (.iaS 1 (.r 1) (.r 0)), q (.load none (.r 0)), q (.iaS 6 (.r 6) (.r 5)), q (.faddr 3 (.r 0)), q (.store 1 (.r 0) (.r 2))])
   .skip))))
  (.reg [q (.mv (.v 9)), q (.bin .add (.r 0) (.c (.i .i64 1))), qv 9 (.mv (.r 0))])))
def pf40 : PFunc := ⟨[(some 0), none, none, none, none, none, none, none, none, none, none, none, none, none, none, none, none, none], [.v 2],
  (.seq (.reg [qv 1 (.box (.v 0)), qv 2 (.mv (.c .nils))])
  (.seq (.reg [⟨.mv (.c .nils), none, (some 3), .full, (.own 6)⟩])
  (.seq (.blk 0 (.seq (.reg [q (.faddr 1 (.v 1)), q (.faddr 0 (.r 0)), q (.load none (.r 0)), q (.call (.c (.f 41 [] [])) [(.r 0)]), qv 12 (.mv (.r 0))])
  (.cond (.v 12)
   (.reg [q (.mv (.v 3)), q (.faddr 0 (.v 1)), q (.load none (.r 0)), q (.faddr 1 (.v 1)), q (.faddr 0 (.r 0)), q (.load none (.r 0)), q (.build [(.s []), (.i .i64 0), (.b false), (.i .i64 0), (.i .i64 0), (.i .i64 0)] [(0, 1, (.r 3)), (1, 1, (.r 0))]), q (.buildSl 1 6 [(.s []), (.i .i64 0), (.b false), (.i .i64 0), (.i .i64 0), (.i .i64 0)] [(0, 6, (.r 0))]), ⟨.append 6 56 (.r 7) (.r 0), none, none, .full, (.own 6)⟩, qv 3 (.mv (.r 0))])
   (.seq (.reg [q (.faddr 1 (.v 1)), q (.faddr 0 (.r 0)), q (.load none (.r 0)), q (.bin .eql (.r 0) (.c (.i .i64 7))), qv 13 (.mv (.r 0))])
   (.cond (.v 13)
    (.seq (.reg [qv 4 (.mv (.c (.i .i64 0)))])
    (.blk 3 (.loop lp40_1)))
    (.seq (.reg [q (.faddr 1 (.v 1)), q (.load (some 4) (.r 0)), q (.call (.c (.f 59 [] [])) [(.r 0)]), qv 6 (.mv (.r 0))])
    (.seq (.reg [qv 7 (.mv (.c (.i .i64 0)))])
    (.blk 1 (.loop lp40_2)))))))))
  (.seq (.seq (.reg [qv 9 (.mv (.c (.i .i64 0)))])
  (.blk 5 (.loop lp40_3)))
  (.seq (.reg [q (.mv (.v 3)), qv 2 (.mv (.r 0))])
  .ret)))))⟩
/-- solenoid/solenoidref7.Value -/
def pf41 : PFunc := ⟨[(some 0), none], [.v 1],
  (.seq (.reg [qv 1 (.mv (.c (.b false)))])
  (.seq (.reg [q (.mv (.v 0)), q (.bin .geq (.r 0) (.c (.i .i64 1))), q (.mv (.r 0)), qg 0 true (.mv (.v 0)), qg 1 true (.bin .leq (.r 0) (.c (.i .i64 6))), q (.pick (.r 2) (.r 0) (.c (.b false))), qv 1 (.mv (.r 0))])
  .ret))⟩
/-- solenoid/solenoidref12.Takes -/
def pf42 : PFunc := ⟨[(some 0), none, none, none, none], [.v 1],
  (.seq (.reg [qv 1 (.mv (.c (.i .i64 0)))])
  (.seq (.seq (.reg [qv 2 (.mv (.v 0))])
  (.blk 0 (.seq (.seq (.reg [q (.bin .eql (.v 2) (.c (.i .i64 6))), qv 3 (.mv (.r 0))])
  (.cond (.v 3)
   .skip
   (.seq (.reg [q (.bin .eql (.v 2) (.c (.i .i64 7))), qv 3 (.mv (.r 0))])
   (.cond (.v 3)
    .skip
    (.seq (.reg [q (.bin .eql (.v 2) (.c (.i .i64 8))), qv 3 (.mv (.r 0))])
    (.cond (.v 3)
     .skip
     (.seq (.reg [q (.bin .eql (.v 2) (.c (.i .i64 9))), qv 3 (.mv (.r 0))])
     (.cond (.v 3)
      .skip
      (.seq (.reg [q (.bin .eql (.v 2) (.c (.i .i64 10))), qv 3 (.mv (.r 0))])
      (.cond (.v 3)
       .skip
       (.seq (.reg [q (.bin .eql (.v 2) (.c (.i .i64 11))), qv 3 (.mv (.r 0))])
       (.cond (.v 3)
        .skip
        (.seq (.reg [q (.bin .eql (.v 2) (.c (.i .i64 12))), qv 3 (.mv (.r 0))])
        (.cond (.v 3)
         .skip
         (.seq (.reg [q (.bin .eql (.v 2) (.c (.i .i64 13))), qv 3 (.mv (.r 0))])
         (.cond (.v 3)
          .skip
          (.seq (.reg [q (.bin .eql (.v 2) (.c (.i .i64 14))), qv 3 (.mv (.r 0))])
          (.cond (.v 3)
           .skip
           (.seq (.reg [q (.bin .eql (.v 2) (.c (.i .i64 16))), qv 3 (.mv (.r 0))])
           (.cond (.v 3)
            .skip
            (.seq (.reg [q (.bin .eql (.v 2) (.c (.i .i64 17))), qv 3 (.mv (.r 0))])
            (.cond (.v 3)
             .skip
             (.seq (.reg [q (.bin .eql (.v 2) (.c (.i .i64 28))), qv 3 (.mv (.r 0))])
             (.cond (.v 3)
              .skip
              (.reg [q (.bin .eql (.v 2) (.c (.i .i64 29))), qv 3 (.mv (.r 0))])))))))))))))))))))))))))
  (.cond (.v 3)
   (.seq (.reg [qv 1 (.mv (.c (.i .i64 2)))])
   .ret)
   (.seq (.seq (.reg [q (.bin .eql (.v 2) (.c (.i .i64 4))), qv 4 (.mv (.r 0))])
   (.cond (.v 4)
    .skip
    (.seq (.reg [q (.bin .eql (.v 2) (.c (.i .i64 5))), qv 4 (.mv (.r 0))])
    (.cond (.v 4)
     .skip
     (.seq (.reg [q (.bin .eql (.v 2) (.c (.i .i64 15))), qv 4 (.mv (.r 0))])
     (.cond (.v 4)
      .skip
      (.seq (.reg [q (.bin .eql (.v 2) (.c (.i .i64 19))), qv 4 (.mv (.r 0))])
      (.cond (.v 4)
       .skip
       (.seq (.reg [q (.bin .eql (.v 2) (.c (.i .i64 21))), qv 4 (.mv (.r 0))])
       (.cond (.v 4)
        .skip
        (.seq (.reg [q (.bin .eql (.v 2) (.c (.i .i64 22))), qv 4 (.mv (.r 0))])
        (.cond (.v 4)
         .skip
         (.seq (.reg [q (.bin .eql (.v 2) (.c (.i .i64 23))), qv 4 (.mv (.r 0))])
         (.cond (.v 4)
          .skip
          (.reg [q (.bin .eql (.v 2) (.c (.i .i64 25))), qv 4 (.mv (.r 0))])))))))))))))))
   (.cond (.v 4)
    (.seq (.reg [qv 1 (.mv (.c (.i .i64 1)))])
    .ret)
    .skip))))))
  (.seq (.reg [qv 1 (.mv (.c (.i .i64 0)))])
  .ret)))⟩
/-- solenoid/solenoidref12.puts -/
def pf43 : PFunc := ⟨[(some 0), (some 1), none, none, none, none, none, none], [.v 3],
  (.seq (.reg [qv 2 (.box (.v 1)), qv 3 (.mv (.c (.i .i64 0)))])
  (.seq (.seq (.reg [q (.faddr 2 (.v 2)), qv 4 (.load none (.r 0))])
  (.blk 0 (.seq (.reg [q (.bin .eql (.v 4) (.c (.i .i64 1))), qv 5 (.mv (.r 0))])
  (.cond (.v 5)
   (.seq (.reg [q (.faddr 3 (.v 2)), q (.load none (.r 0)), qv 3 (.mv (.r 0))])
   .ret)
   (.seq (.reg [q (.bin .eql (.v 4) (.c (.i .i64 26))), qv 6 (.mv (.r 0))])
   (.cond (.v 6)
    (.seq (.reg [qv 3 (.mv (.c (.i .i64 6)))])
    .ret)
    (.seq (.reg [q (.bin .eql (.v 4) (.c (.i .i64 3))), qv 7 (.mv (.r 0))])
    (.cond (.v 7)
     (.seq (.reg [q (.mv (.v 0)), q (.faddr 3 (.v 2)), q (.load none (.r 0)), q (.iaS 6 (.r 2) (.r 0)), q (.faddr 1 (.r 0)), q (.load none (.r 0)), qv 3 (.mv (.r 0))])
     .ret)
     .skip))))))))
  (.seq (.reg [qv 3 (.mv (.c (.i .i64 5)))])
  .ret)))⟩
/-- solenoid/solenoidref11.Kind -/
def pf44 : PFunc := ⟨[(some 0), (some 1), (some 2), none, none, none, none, none, none, none, none, none, none, none, none, none], [.v 3, .v 4],
  (.seq (.reg [qv 3 (.mv (.c (.i .i64 0))), qv 4 (.mv (.c (.i .i64 0)))])
  (.seq (.reg [q (.mv (.v 1)), q (.mv (.v 2)), q (.bin .eql (.r 1) (.r 0)), qv 5 (.mv (.r 0))])
  (.seq (.reg [qv 6 (.mv (.c (.b false)))])
  (.seq (.reg [q (.mv (.v 1)), qv 7 (.mv (.r 0))])
  (.seq (.seq (.reg [qv 8 (.mv (.v 0))])
  (.blk 0 (.seq (.seq (.reg [q (.bin .eql (.v 8) (.c (.i .i64 7))), qv 9 (.mv (.r 0))])
  (.cond (.v 9)
   .skip
   (.reg [q (.bin .eql (.v 8) (.c (.i .i64 8))), qv 9 (.mv (.r 0))])))
  (.cond (.v 9)
   (.reg [q (.mv (.v 5)), q (.mv (.r 0)), qg 0 true (.mv (.v 1)), qg 1 true (.bin .eql (.r 0) (.c (.i .i64 4))), qg 2 true (.mv (.r 0)), qg 0 false (.mv (.v 1)), qg 1 false (.bin .eql (.r 0) (.c (.i .i64 5))), qg 5 true (.pick (.r 2) (.c (.b true)) (.r 0)), qg 6 true (.mv (.r 0)), qg 0 false (.mv (.v 1)), qg 1 false (.bin .eql (.r 0) (.c (.i .i64 6))), qg 9 true (.pick (.r 2) (.c (.b true)) (.r 0)), q (.pick (.r 10) (.r 0) (.c (.b false))), qv 6 (.mv (.r 0))])
   (.seq (.seq (.reg [q (.bin .eql (.v 8) (.c (.i .i64 9))), qv 10 (.mv (.r 0))])
   (.cond (.v 10)
    .skip
    (.seq (.reg [q (.bin .eql (.v 8) (.c (.i .i64 10))), qv 10 (.mv (.r 0))])
    (.cond (.v 10)
     .skip
     (.reg [q (.bin .eql (.v 8) (.c (.i .i64 11))), qv 10 (.mv (.r 0))])))))
   (.cond (.v 10)
    (.reg [q (.mv (.v 5)), q (.mv (.r 0)), qg 0 true (.mv (.v 1)), qg 1 true (.bin .eql (.r 0) (.c (.i .i64 4))), qg 2 true (.mv (.r 0)), qg 0 false (.mv (.v 1)), qg 1 false (.bin .eql (.r 0) (.c (.i .i64 5))), qg 5 true (.pick (.r 2) (.c (.b true)) (.r 0)), q (.pick (.r 6) (.r 0) (.c (.b false))), qv 6 (.mv (.r 0))])
    (.seq (.seq (.reg [q (.bin .eql (.v 8) (.c (.i .i64 12))), qv 11 (.mv (.r 0))])
    (.cond (.v 11)
     .skip
     (.seq (.reg [q (.bin .eql (.v 8) (.c (.i .i64 13))), qv 11 (.mv (.r 0))])
     (.cond (.v 11)
      .skip
      (.reg [q (.bin .eql (.v 8) (.c (.i .i64 14))), qv 11 (.mv (.r 0))])))))
    (.cond (.v 11)
     (.reg [q (.mv (.v 5)), q (.mv (.r 0)), qg 0 true (.mv (.v 1)), qg 1 true (.bin .eql (.r 0) (.c (.i .i64 1))), qg 2 true (.mv (.r 0)), qg 0 false (.mv (.v 1)), qg 1 false (.bin .eql (.r 0) (.c (.i .i64 2))), qg 5 true (.pick (.r 2) (.c (.b true)) (.r 0)), qg 6 true (.mv (.r 0)), qg 0 false (.mv (.v 1)), qg 1 false (.bin .eql (.r 0) (.c (.i .i64 3))), qg 9 true (.pick (.r 2) (.c (.b true)) (.r 0)), q (.pick (.r 10) (.r 0) (.c (.b false))), qv 6 (.mv (.r 0))])
     (.seq (.reg [q (.bin .eql (.v 8) (.c (.i .i64 16))), qv 12 (.mv (.r 0))])
     (.cond (.v 12)
      (.reg [q (.mv (.v 5)), q (.mv (.r 0)), qg 0 true (.mv (.v 1)), qg 1 true (.call (.c (.f 41 [] [])) [(.r 0)]), q (.pick (.r 2) (.r 0) (.c (.b false))), qv 6 (.mv (.r 0)), qv 7 (.mv (.c (.i .i64 1)))])
      (.seq (.reg [q (.bin .eql (.v 8) (.c (.i .i64 17))), qv 13 (.mv (.r 0))])
      (.cond (.v 13)
       (.reg [q (.mv (.v 5)), q (.mv (.r 0)), qg 0 true (.mv (.v 1)), qg 1 true (.call (.c (.f 41 [] [])) [(.r 0)]), q (.pick (.r 2) (.r 0) (.c (.b false))), q (.mv (.r 0)), qg 0 true (.mv (.v 1)), qg 1 true (.bin .neq (.r 0) (.c (.i .i64 1))), q (.pick (.r 2) (.r 0) (.c (.b false))), qv 6 (.mv (.r 0)), qv 7 (.mv (.c (.i .i64 1)))])
       (.seq (.seq (.reg [q (.bin .eql (.v 8) (.c (.i .i64 28))), qv 14 (.mv (.r 0))])
       (.cond (.v 14)
        .skip
        (.reg [q (.bin .eql (.v 8) (.c (.i .i64 29))), qv 14 (.mv (.r 0))])))
       (.cond (.v 14)
        (.reg [q (.mv (.v 1)), q (.bin .eql (.r 0) (.c (.i .i64 2))), q (.mv (.r 0)), qg 0 false (.mv (.v 1)), qg 1 false (.bin .eql (.r 0) (.c (.i .i64 3))), q (.pick (.r 2) (.c (.b true)) (.r 0)), q (.mv (.r 0)), qg 0 true (.mv (.v 2)), qg 1 true (.bin .eql (.r 0) (.c (.i .i64 5))), q (.pick (.r 2) (.r 0) (.c (.b false))), qv 6 (.mv (.r 0))])
        (.seq (.reg [qv 3 (.mv (.c (.i .i64 0))), qv 4 (.mv (.c (.i .i64 3)))])
        .ret)))))))))))))))
  (.seq (.seq (.reg [q (.mv (.v 6)), qv 15 (.un .not (.r 0))])
  (.cond (.v 15)
   (.seq (.reg [qv 3 (.mv (.c (.i .i64 0))), qv 4 (.mv (.c (.i .i64 19)))])
   .ret)
   .skip))
  (.seq (.reg [q (.mv (.v 7)), qv 3 (.mv (.r 0)), qv 4 (.mv (.c (.i .i64 0)))])
  .ret)))))))⟩
/-- (*solenoid/instr.source).byte -/
def pf45 : PFunc := ⟨[(some 0), none], [.v 1],
  (.seq (.reg [qv 1 (.mv (.c (.i .i64 0)))])
  (.seq (.reg [q (.mv (.v 0)), q (.nilck (.r 0)), q (.faddr 1 (.r 0)), q (.load none (.r 0)), q (.bin .add (.r 0) (.c (.i .i64 1))), q (.nilck (.r 4)), q (.faddr 1 (.r 0)), q (.store 1 (.r 0) (.r 2))])
  (.seq (.reg [qn (.mv (.v 0)), qn (.nilck (.r 0)), qn (.faddr 0 (.r 0)), qn (.load none (.r 0)), qn (.mv (.v 0)), qn (.nilck (.r 0)), qn (.faddr 1 (.r 0)), qn (.load none (.r 0)), qn (.bin .sub (.r 0) (.c (.i .i64 1))), q (.iaS 1 (.r 5) (.r 0)), q (.load none (.r 0)), q (.conv .i64 (.r 0)), qv 1 (.mv (.r 0))])
  .ret)))⟩
/-- solenoid/instr.bears -/
def pf46 : PFunc := ⟨[(some 0), none, none, none, none, none], [.v 1],
  (.seq (.reg [qv 1 (.mv (.c (.i .i64 0)))])
  (.seq (.reg [qv 2 (.mv (.c (.i .i64 0)))])
  (.seq (.seq (.reg [qv 3 (.mv (.v 0))])
  (.blk 0 (.seq (.blk 2 (.seq (.blk 1 (.seq (.seq (.seq (.reg [q (.bin .eql (.v 3) (.c (.i .i64 1))), qv 4 (.mv (.r 0))])
  (.cond (.v 4)
   (.exit 1)
   .skip))
  (.seq (.seq (.reg [q (.bin .eql (.v 3) (.c (.i .i64 2))), qv 5 (.mv (.r 0))])
  (.cond (.v 5)
   .skip
   (.seq (.reg [q (.bin .eql (.v 3) (.c (.i .i64 3))), qv 5 (.mv (.r 0))])
   (.cond (.v 5)
    .skip
    (.seq (.reg [q (.bin .eql (.v 3) (.c (.i .i64 4))), qv 5 (.mv (.r 0))])
    (.cond (.v 5)
     .skip
     (.seq (.reg [q (.bin .eql (.v 3) (.c (.i .i64 5))), qv 5 (.mv (.r 0))])
     (.cond (.v 5)
      .skip
      (.seq (.reg [q (.bin .eql (.v 3) (.c (.i .i64 6))), qv 5 (.mv (.r 0))])
      (.cond (.v 5)
       .skip
       (.seq (.reg [q (.bin .eql (.v 3) (.c (.i .i64 18))), qv 5 (.mv (.r 0))])
       (.cond (.v 5)
        .skip
        (.seq (.reg [q (.bin .eql (.v 3) (.c (.i .i64 19))), qv 5 (.mv (.r 0))])
        (.cond (.v 5)
         .skip
         (.seq (.reg [q (.bin .eql (.v 3) (.c (.i .i64 20))), qv 5 (.mv (.r 0))])
         (.cond (.v 5)
          .skip
          (.seq (.reg [q (.bin .eql (.v 3) (.c (.i .i64 23))), qv 5 (.mv (.r 0))])
          (.cond (.v 5)
           .skip
           (.seq (.reg [q (.bin .eql (.v 3) (.c (.i .i64 24))), qv 5 (.mv (.r 0))])
           (.cond (.v 5)
            .skip
            (.seq (.reg [q (.bin .eql (.v 3) (.c (.i .i64 25))), qv 5 (.mv (.r 0))])
            (.cond (.v 5)
             .skip
             (.reg [q (.bin .eql (.v 3) (.c (.i .i64 27))), qv 5 (.mv (.r 0))])))))))))))))))))))))))
  (.cond (.v 5)
   (.exit 2)
   .skip)))
  (.exit 0)))
  (.reg [qv 2 (.mv (.c (.i .i64 8)))])))
  (.seq (.reg [q (.mv (.v 2)), q (.bin .add (.r 0) (.c (.i .i64 1))), qv 2 (.mv (.r 0))])
  (.exit 0)))))
  (.seq (.reg [q (.mv (.v 2)), qv 1 (.mv (.r 0))])
  .ret))))⟩
/-- (*solenoid/instr.source).number -/
def lp47_1 : PCode :=
  (.seq (.reg [qv 5 (.bin .lss (.v 4) (.c (.i .i64 8)))])
  (.seq (.cond (.v 5)
   .skip
   (.exit 0))
  (.seq (.blk 1 (.seq (.reg [q (.mv (.v 4)), qv 3 (.mv (.r 0))])
  (.reg [q (.mv (.v 2)), q (.mv (.v 0)), ⟨.call (.c (.f 45 [] [])) [(.r 0)], none, none, .full, .sh⟩, q (.conv .u64 (.r 0)), q (.mv (.v 3)), q (.bin .mul (.c (.i .i64 8)) (.r 0)), q (.bin .shl (.r 2) (.r 0)), q (.bin .or (.r 6) (.r 0)), qv 2 (.mv (.r 0))])))
  (.reg [q (.bin .add (.v 4) (.c (.i .i64 1))), qv 4 (.mv (.r 0))]))))
def pf47 : PFunc := ⟨[(some 0), none, none, none, none, none], [.v 1],
  (.seq (.reg [qv 1 (.mv (.c (.i .i64 0)))])
  (.seq (.reg [qv 2 (.mv (.c (.i .u64 0)))])
  (.seq (.seq (.reg [qv 4 (.mv (.c (.i .i64 0)))])
  (.blk 0 (.loop lp47_1)))
  (.seq (.reg [q (.mv (.v 2)), q (.conv .i64 (.r 0)), qv 1 (.mv (.r 0))])
  .ret))))⟩
/-- solenoid/kinds.value -/
def pf48 : PFunc := ⟨[(some 0), none], [.v 1],
  (.seq (.reg [qv 1 (.mv (.c (.b false)))])
  (.seq (.reg [q (.mv (.v 0)), q (.bin .geq (.r 0) (.c (.i .i64 1))), q (.mv (.r 0)), qg 0 true (.mv (.v 0)), qg 1 true (.bin .leq (.r 0) (.c (.i .i64 6))), q (.pick (.r 2) (.r 0) (.c (.b false))), qv 1 (.mv (.r 0))])
  .ret))⟩
/-- solenoid/kinds.Fields -/
def pf49 : PFunc := ⟨[(some 0), none, none, none, none, none, none], [.v 2],
  (.seq (.reg [qv 1 (.box (.v 0)), qv 2 (.mv (.c .nils))])
  (.seq (.seq (.reg [q (.faddr 0 (.v 1)), qv 3 (.load none (.r 0))])
  (.blk 0 (.seq (.reg [q (.bin .eql (.v 3) (.c (.i .i64 8))), qv 4 (.mv (.r 0))])
  (.cond (.v 4)
   (.seq (.reg [q (.faddr 3 (.v 1)), q (.load none (.r 0)), q (.call (.c (.f 60 [] [])) [(.r 0)]), qv 2 (.mv (.r 0))])
   .ret)
   (.seq (.reg [q (.bin .eql (.v 3) (.c (.i .i64 9))), qv 5 (.mv (.r 0))])
   (.cond (.v 5)
    (.seq (.reg [q (.build [(.s []), (.i .i64 0)] [(0, 1, (.c (.s [73, 78]))), (1, 1, (.c (.i .i64 1)))]), q (.build [(.s []), (.i .i64 0)] [(0, 1, (.c (.s [80, 84]))), (1, 1, (.c (.i .i64 6)))]), q (.build [(.s []), (.i .i64 0)] [(0, 1, (.c (.s [81]))), (1, 1, (.c (.i .i64 1)))]), q (.build [(.s []), (.i .i64 0)] [(0, 1, (.c (.s [69, 84]))), (1, 1, (.c (.i .i64 6)))]), q (.build [(.s []), (.i .i64 0)] [(0, 1, (.c (.s [84, 48]))), (1, 1, (.c (.i .i64 6)))]), q (.build [(.s []), (.i .i64 0)] [(0, 1, (.c (.s [82, 85, 78]))), (1, 1, (.c (.i .i64 1)))]), q (.buildSl 6 2 [(.s []), (.i .i64 0)] [(0, 2, (.r 5)), (2, 2, (.r 4)), (4, 2, (.r 3)), (6, 2, (.r 2)), (8, 2, (.r 1)), (10, 2, (.r 0))]), q (.call (.c (.f 60 [] [])) [(.r 0)]), qv 2 (.mv (.r 0))])
    .ret)
    (.seq (.reg [q (.bin .eql (.v 3) (.c (.i .i64 10))), qv 6 (.mv (.r 0))])
    (.cond (.v 6)
     (.seq (.reg [q (.build [(.s []), (.i .i64 0)] [(0, 1, (.c (.s [67, 85]))), (1, 1, (.c (.i .i64 1)))]), q (.build [(.s []), (.i .i64 0)] [(0, 1, (.c (.s [82]))), (1, 1, (.c (.i .i64 1)))]), q (.build [(.s []), (.i .i64 0)] [(0, 1, (.c (.s [80, 86]))), (1, 1, (.c (.i .i64 5)))]), q (.build [(.s []), (.i .i64 0)] [(0, 1, (.c (.s [81]))), (1, 1, (.c (.i .i64 1)))]), q (.build [(.s []), (.i .i64 0)] [(0, 1, (.c (.s [67, 86]))), (1, 1, (.c (.i .i64 5)))]), q (.build [(.s []), (.i .i64 0)] [(0, 1, (.c (.s [79, 76, 68]))), (1, 1, (.c (.i .i64 1)))]), q (.buildSl 6 2 [(.s []), (.i .i64 0)] [(0, 2, (.r 5)), (2, 2, (.r 4)), (4, 2, (.r 3)), (6, 2, (.r 2)), (8, 2, (.r 1)), (10, 2, (.r 0))]), q (.call (.c (.f 60 [] [])) [(.r 0)]), qv 2 (.mv (.r 0))])
     .ret)
     .skip))))))))
  (.seq (.reg [qv 2 (.mv (.c .nils))])
  .ret)))⟩
/-- strconv.Itoa -/
def pf50 : PFunc := ⟨[(some 0), none], [.v 1],
  (.seq (.reg [qv 1 (.mv (.c (.s [])))])
  (.seq (.reg [q (.mv (.v 0)), q (.call (.c (.f 61 [] [])) [(.r 0)]), qv 1 (.mv (.r 0))])
  .ret))⟩
/-- (*solenoid/check.program).bears -/
def pf51 : PFunc := ⟨[(some 0), (some 1), none, none, none, none, none, none, none, none, none, none, none, none, none, none], [.v 3],
  (.seq (.reg [qv 2 (.box (.v 1)), qv 3 (.mv (.c (.i .i64 0)))])
  (.seq (.reg [q (.mv (.v 0)), q (.faddr 3 (.v 2)), q (.load none (.r 0)), q (.call (.c (.f 62 [] [])) [(.r 2), (.r 0)]), qv 4 (.box (.c (.agg [(.s []), (.i .i64 0), (.b false), (.i .i64 0), (.i .i64 0), (.i .i64 0)]))), q (.store 6 (.r 0) (.r 1))])
  (.seq (.seq (.reg [q (.faddr 2 (.v 2)), qv 5 (.load none (.r 0))])
  (.blk 0 (.seq (.blk 6 (.seq (.blk 5 (.seq (.blk 4 (.seq (.blk 3 (.seq (.blk 2 (.seq (.blk 1 (.seq (.seq (.seq (.reg [q (.bin .eql (.v 5) (.c (.i .i64 1))), qv 6 (.mv (.r 0))])
  (.cond (.v 6)
   (.exit 1)
   .skip))
  (.seq (.seq (.reg [q (.bin .eql (.v 5) (.c (.i .i64 23))), qv 7 (.mv (.r 0))])
  (.cond (.v 7)
   (.exit 2)
   .skip))
  (.seq (.seq (.reg [q (.bin .eql (.v 5) (.c (.i .i64 2))), qv 8 (.mv (.r 0))])
  (.cond (.v 8)
   (.exit 3)
   .skip))
  (.seq (.seq (.reg [q (.bin .eql (.v 5) (.c (.i .i64 20))), qv 9 (.mv (.r 0))])
  (.cond (.v 9)
   (.exit 4)
   .skip))
  (.seq (.seq (.reg [q (.bin .eql (.v 5) (.c (.i .i64 24))), qv 10 (.mv (.r 0))])
  (.cond (.v 10)
   .skip
   (.reg [q (.bin .eql (.v 5) (.c (.i .i64 25))), qv 10 (.mv (.r 0))])))
  (.cond (.v 10)
   (.exit 5)
   .skip))))))
  (.exit 6)))
  (.seq (.reg [q (.faddr 3 (.v 2)), q (.load none (.r 0)), q (.call (.c (.f 63 [] [])) [(.r 0)]), q (.mv (.r 0)), qh 0 true (.faddr 3 (.v 2)), qh 1 true (.load none (.r 0)), qh 2 true (.faddr 4 (.v 2)), qh 3 true (.load none (.r 0)), qh 4 true (.call (.c (.f 64 [] [])) [(.r 2), (.r 0)]), qh 5 true (.faddr 4 (.v 2)), qh 6 true (.load none (.r 0)), qg 7 true (.bin .neq (.r 2) (.r 0)), qv 11 (.pick (.r 8) (.r 0) (.c (.b false)))])
  (.cond (.v 11)
   (.seq (.reg [qv 3 (.mv (.c (.i .i64 11)))])
   .ret)
   .skip))))
  (.seq (.seq (.reg [q (.faddr 3 (.v 2)), q (.load none (.r 0)), q (.call (.c (.f 63 [] [])) [(.r 0)]), qv 12 (.un .not (.r 0))])
  (.cond (.v 12)
   (.seq (.reg [qv 3 (.mv (.c (.i .i64 3)))])
   .ret)
   .skip))
  (.exit 0))))
  (.seq (.seq (.reg [qn (.faddr 3 (.v 2)), qn (.load none (.r 0)), qn (.mv (.v 0)), qn (.nilck (.r 0)), qn (.faddr 0 (.r 0)), qn (.faddr 1 (.r 0)), qn (.load none (.r 0)), qn (.len 1 (.r 0)), qv 13 (.bin .geq (.r 6) (.r 0))])
  (.cond (.v 13)
   (.seq (.reg [qv 3 (.mv (.c (.i .i64 2)))])
   .ret)
   .skip))
  (.exit 0))))
  (.seq (.seq (.reg [qn (.faddr 3 (.v 2)), qn (.load none (.r 0)), qn (.mv (.v 0)), qn (.nilck (.r 0)), qn (.faddr 0 (.r 0)), qn (.faddr 2 (.r 0)), qn (.load none (.r 0)), qn (.len 1 (.r 0)), qv 14 (.bin .geq (.r 6) (.r 0))])
  (.cond (.v 14)
   (.seq (.reg [qv 3 (.mv (.c (.i .i64 20)))])
   .ret)
   .skip))
  (.exit 0))))
  (.seq (.seq (.reg [q (.faddr 3 (.v 2)), q (.load none (.r 0)), qv 15 (.bin .geq (.r 0) (.c (.i .i64 4)))])
  (.cond (.v 15)
   (.seq (.reg [qv 3 (.mv (.c (.i .i64 1)))])
   .ret)
   .skip))
  (.exit 0))))
  (.seq (.seq (.reg [qn (.faddr 2 (.v 2)), qn (.load none (.r 0)), qn (.faddr 3 (.v 2)), qn (.load none (.r 0)), qn (.mv (.v 0)), qn (.nilck (.r 0)), qn (.faddr 3 (.r 0)), qn (.load none (.r 0)), qn (.len 1 (.r 0)), qn (.bin .geq (.r 5) (.r 0)), qn (.load (some 6) (.v 4)), q (.call (.c (.f 65 [] [])) [(.r 9), (.r 1), (.r 0)]), qv 3 (.mv (.r 0))])
  .ret)
  (.exit 0)))))
  (.seq (.reg [qv 3 (.mv (.c (.i .i64 0)))])
  .ret))))⟩
/-- (*solenoid/check.program).takes -/
def pf52 : PFunc := ⟨[(some 0), (some 1), none, none, none, none, none, none, none, none, none], [.v 3],
  (.seq (.reg [qv 2 (.box (.v 1)), qv 3 (.mv (.c .nils))])
  (.seq (.seq (.reg [q (.faddr 2 (.v 2)), qv 4 (.load none (.r 0))])
  (.blk 0 (.seq (.reg [q (.bin .eql (.v 4) (.c (.i .i64 4))), qv 5 (.mv (.r 0))])
  (.cond (.v 5)
   (.seq (.reg [q (.mv (.v 0)), q (.faddr 3 (.v 2)), q (.load none (.r 0)), q (.call (.c (.f 62 [] [])) [(.r 2), (.r 0)]), q (.fld 1 none (.r 0)), q (.buildSl 1 1 [(.i .i64 0)] [(0, 1, (.r 0))]), qv 3 (.mv (.r 0))])
   .ret)
   (.seq (.seq (.reg [q (.bin .eql (.v 4) (.c (.i .i64 5))), qv 6 (.mv (.r 0))])
   (.cond (.v 6)
    .skip
    (.reg [q (.bin .eql (.v 4) (.c (.i .i64 25))), qv 6 (.mv (.r 0))])))
   (.cond (.v 6)
    (.seq (.reg [q (.buildSl 1 1 [(.i .i64 0)] [(0, 1, (.c (.i .i64 5)))]), qv 3 (.mv (.r 0))])
    .ret)
    (.seq (.reg [q (.bin .eql (.v 4) (.c (.i .i64 6))), qv 7 (.mv (.r 0))])
    (.cond (.v 7)
     (.seq (.reg [q (.mv (.v 0)), q (.faddr 3 (.v 2)), q (.load none (.r 0)), q (.call (.c (.f 62 [] [])) [(.r 2), (.r 0)]), q (.fld 1 none (.r 0)), q (.buildSl 2 1 [(.i .i64 0)] [(0, 1, (.c (.i .i64 5))), (1, 1, (.r 0))]), qv 3 (.mv (.r 0))])
     .ret)
     (.seq (.reg [q (.bin .eql (.v 4) (.c (.i .i64 19))), qv 8 (.mv (.r 0))])
     (.cond (.v 8)
      (.seq (.reg [q (.buildSl 1 1 [(.i .i64 0)] [(0, 1, (.c (.i .i64 1)))]), qv 3 (.mv (.r 0))])
      .ret)
      (.seq (.seq (.reg [q (.bin .eql (.v 4) (.c (.i .i64 21))), qv 9 (.mv (.r 0))])
      (.cond (.v 9)
       .skip
       (.seq (.reg [q (.bin .eql (.v 4) (.c (.i .i64 22))), qv 9 (.mv (.r 0))])
       (.cond (.v 9)
        .skip
        (.seq (.reg [q (.bin .eql (.v 4) (.c (.i .i64 23))), qv 9 (.mv (.r 0))])
        (.cond (.v 9)
         .skip
         (.reg [q (.bin .eql (.v 4) (.c (.i .i64 15))), qv 9 (.mv (.r 0))])))))))
      (.cond (.v 9)
       (.seq (.reg [q (.buildSl 1 1 [(.i .i64 0)] [(0, 1, (.c (.i .i64 0)))]), qv 3 (.mv (.r 0))])
       .ret)
       (.seq (.seq (.reg [q (.bin .eql (.v 4) (.c (.i .i64 7))), qv 10 (.mv (.r 0))])
       (.cond (.v 10)
        .skip
        (.seq (.reg [q (.bin .eql (.v 4) (.c (.i .i64 8))), qv 10 (.mv (.r 0))])
        (.cond (.v 10)
         .skip
         (.seq (.reg [q (.bin .eql (.v 4) (.c (.i .i64 9))), qv 10 (.mv (.r 0))])
         (.cond (.v 10)
          .skip
          (.seq (.reg [q (.bin .eql (.v 4) (.c (.i .i64 10))), qv 10 (.mv (.r 0))])
          (.cond (.v 10)
           .skip
           (.seq (.reg [q (.bin .eql (.v 4) (.c (.i .i64 11))), qv 10 (.mv (.r 0))])
           (.cond (.v 10)
            .skip
            (.seq (.reg [q (.bin .eql (.v 4) (.c (.i .i64 12))), qv 10 (.mv (.r 0))])
            (.cond (.v 10)
             .skip
             (.seq (.reg [q (.bin .eql (.v 4) (.c (.i .i64 13))), qv 10 (.mv (.r 0))])
             (.cond (.v 10)
              .skip
              (.seq (.reg [q (.bin .eql (.v 4) (.c (.i .i64 14))), qv 10 (.mv (.r 0))])
              (.cond (.v 10)
               .skip
               (.seq (.reg [q (.bin .eql (.v 4) (.c (.i .i64 16))), qv 10 (.mv (.r 0))])
               (.cond (.v 10)
                .skip
                (.seq (.reg [q (.bin .eql (.v 4) (.c (.i .i64 17))), qv 10 (.mv (.r 0))])
                (.cond (.v 10)
                 .skip
                 (.seq (.reg [q (.bin .eql (.v 4) (.c (.i .i64 28))), qv 10 (.mv (.r 0))])
                 (.cond (.v 10)
                  .skip
                  (.reg [q (.bin .eql (.v 4) (.c (.i .i64 29))), qv 10 (.mv (.r 0))])))))))))))))))))))))))
       (.cond (.v 10)
        (.seq (.reg [q (.buildSl 2 1 [(.i .i64 0)] [(0, 1, (.c (.i .i64 0))), (1, 1, (.c (.i .i64 0)))]), qv 3 (.mv (.r 0))])
        .ret)
        .skip))))))))))))))
  (.seq (.reg [qv 3 (.mv (.c .nils))])
  .ret)))⟩
/-- slices.Clone[solenoid/check.stack,int] -/
def pf53 : PFunc := cloneP 1 8 [(.i .i64 0)]
/-- (*solenoid/check.program).puts -/
def pf54 : PFunc := ⟨[(some 0), (some 1), (some 2), none, none, none, none, none, none, none, none, none, none, none, none, none, none], [.v 4, .v 5],
  (.seq (.reg [qv 3 (.box (.v 1)), qv 4 (.mv (.c .nils)), qv 5 (.mv (.c (.i .i64 0)))])
  (.seq (.seq (.reg [q (.faddr 2 (.v 3)), qv 8 (.load none (.r 0))])
  (.blk 0 (.seq (.seq (.reg [q (.bin .eql (.v 8) (.c (.i .i64 1))), qv 9 (.mv (.r 0))])
  (.cond (.v 9)
   .skip
   (.reg [q (.bin .eql (.v 8) (.c (.i .i64 23))), qv 9 (.mv (.r 0))])))
  (.cond (.v 9)
   (.seq (.reg [q (.faddr 3 (.v 3)), q (.load none (.r 0)), q (.buildSl 1 1 [(.i .i64 0)] [(0, 1, (.r 0))]), qv 4 (.mv (.r 0)), qv 5 (.mv (.c (.i .i64 0)))])
   .ret)
   (.seq (.seq (.reg [q (.bin .eql (.v 8) (.c (.i .i64 2))), qv 10 (.mv (.r 0))])
   (.cond (.v 10)
    .skip
    (.reg [q (.bin .eql (.v 8) (.c (.i .i64 24))), qv 10 (.mv (.r 0))])))
   (.cond (.v 10)
    (.seq (.reg [q (.buildSl 1 1 [(.i .i64 0)] [(0, 1, (.c (.i .i64 5)))]), qv 4 (.mv (.r 0)), qv 5 (.mv (.c (.i .i64 0)))])
    .ret)
    (.seq (.seq (.reg [q (.bin .eql (.v 8) (.c (.i .i64 3))), qv 11 (.mv (.r 0))])
    (.cond (.v 11)
     .skip
     (.reg [q (.bin .eql (.v 8) (.c (.i .i64 5))), qv 11 (.mv (.r 0))])))
    (.cond (.v 11)
     (.seq (.reg [q (.mv (.v 0)), q (.faddr 3 (.v 3)), q (.load none (.r 0)), q (.call (.c (.f 62 [] [])) [(.r 2), (.r 0)]), q (.fld 1 none (.r 0)), q (.buildSl 1 1 [(.i .i64 0)] [(0, 1, (.r 0))]), qv 4 (.mv (.r 0)), qv 5 (.mv (.c (.i .i64 0)))])
     .ret)
     (.seq (.reg [q (.bin .eql (.v 8) (.c (.i .i64 26))), qv 12 (.mv (.r 0))])
     (.cond (.v 12)
      (.seq (.reg [q (.buildSl 1 1 [(.i .i64 0)] [(0, 1, (.c (.i .i64 6)))]), qv 4 (.mv (.r 0)), qv 5 (.mv (.c (.i .i64 0)))])
      .ret)
      (.seq (.reg [q (.bin .eql (.v 8) (.c (.i .i64 21))), qv 13 (.mv (.r 0))])
      (.cond (.v 13)
       (.seq (.reg [qn (.mv (.v 2)), qn (.iaS 1 (.r 0) (.c (.i .i64 0))), qn (.load none (.r 0)), qn (.mv (.v 2)), qn (.iaS 1 (.r 0) (.c (.i .i64 0))), qn (.load none (.r 0)), q (.buildSl 2 1 [(.i .i64 0)] [(0, 1, (.r 3)), (1, 1, (.r 0))]), qv 4 (.mv (.r 0)), qv 5 (.mv (.c (.i .i64 0)))])
       .ret)
       (.seq (.reg [q (.bin .eql (.v 8) (.c (.i .i64 15))), qv 14 (.mv (.r 0))])
       (.cond (.v 14)
        (.seq (.seq (.reg [q (.mv (.v 2)), q (.iaS 1 (.r 0) (.c (.i .i64 0))), q (.load none (.r 0)), qv 15 (.bin .gtr (.r 0) (.c (.i .i64 3)))])
        (.cond (.v 15)
         (.seq (.reg [qv 4 (.mv (.c .nils)), qv 5 (.mv (.c (.i .i64 19)))])
         .ret)
         .skip))
        (.seq (.reg [q (.mv (.v 2)), qv 4 (.mv (.r 0)), qv 5 (.mv (.c (.i .i64 0)))])
        .ret))
        .skip))))))))))))))
  (.seq (.seq (.reg [q (.mv (.v 2)), q (.len 1 (.r 0)), q (.bin .eql (.r 0) (.c (.i .i64 2))), q (.mv (.r 0)), qg 0 true (.faddr 2 (.v 3)), qg 1 true (.load none (.r 0)), qg 2 true (.bin .neq (.r 0) (.c (.i .i64 6))), qv 16 (.pick (.r 3) (.r 0) (.c (.b false)))])
  (.cond (.v 16)
   (.seq (.reg [qn (.faddr 2 (.v 3)), qn (.load none (.r 0)), qn (.mv (.v 2)), qn (.iaS 1 (.r 0) (.c (.i .i64 0))), qn (.load none (.r 0)), qn (.mv (.v 2)), qn (.iaS 1 (.r 0) (.c (.i .i64 1))), qn (.load none (.r 0)), q (.call (.c (.f 66 [] [])) [(.r 6), (.r 3), (.r 0)]), q (.mv (.r 0)), q (.ext 0 (.r 0)), q (.ext 1 (.r 1)), qv 6 (.mv (.r 1)), qv 7 (.mv (.r 1))])
   (.seq (.reg [q (.mv (.v 6)), q (.buildSl 1 1 [(.i .i64 0)] [(0, 1, (.r 0))]), q (.mv (.v 7)), qv 4 (.mv (.r 1)), qv 5 (.mv (.r 1))])
   .ret))
   .skip))
  (.seq (.reg [qv 4 (.mv (.c .nils)), qv 5 (.mv (.c (.i .i64 0)))])
  .ret))))⟩
/-- slices.Concat[solenoid/check.stack,int] -/
def lp55_1 : PCode :=
  (.seq (.reg [qv 9 (.bin .lss (.v 8) (.v 7))])
  (.seq (.cond (.v 9)
   .skip
   (.exit 0))
  (.seq (.blk 1 (.seq (.reg [q (.iaS 1 (.v 6) (.v 8)), q (.load none (.r 0)), qv 3 (.mv (.r 0))])
  (.seq (.reg [q (.mv (.v 2)), q (.mv (.v 3)), q (.len 1 (.r 0)), q (.bin .add (.r 2) (.r 0)), qv 2 (.mv (.r 0))])
  (.seq (.reg [q (.mv (.v 2)), qv 10 (.bin .lss (.r 0) (.c (.i .i64 0)))])
  (.cond (.v 10)
   (.reg [q (.mkifc 9 (.c (.s [108, 101, 110, 32, 111, 117, 116, 32, 111, 102, 32, 114, 97, 110, 103, 101]))), q (.bad)])
   .skip)))))
  (.reg [q (.bin .add (.v 8) (.c (.i .i64 1))), qv 8 (.mv (.r 0))]))))
def lp55_2 : PCode :=
  (.seq (.reg [qv 14 (.bin .lss (.v 13) (.v 12))])
  (.seq (.cond (.v 14)
   .skip
   (.exit 2))
  (.seq (.blk 3 (.seq (.reg [q (.iaS 1 (.v 11) (.v 13)), q (.load none (.r 0)), qv 5 (.mv (.r 0))])
  (.reg [q (.mv (.v 4)), q (.mv (.v 5)), ⟨.append 1 8 (.r 1) (.r 0), none, none, .full, (.own 1)⟩, qv 4 (.mv (.r 0))])))
  (.reg [q (.bin .add (.v 13) (.c (.i .i64 1))), qv 13 (.mv (.r 0))]))))
def pf55 : PFunc := ⟨[(some 0), none, none, none, none, none, none, none, none, none, none, none, none, none, none], [.v 1],
  (.seq (.reg [qv 1 (.mv (.c .nils))])
  (.seq (.reg [qv 2 (.mv (.c (.i .i64 0)))])
  (.seq (.seq (.reg [qv 6 (.mv (.v 0)), qv 7 (.len 1 (.r 0)), qv 8 (.mv (.c (.i .i64 0)))])
  (.blk 0 (.loop lp55_1)))
  (.seq (.reg [q (.mv (.v 2)), ⟨.call (.c (.f 67 [] [])) [(.c .nils), (.r 0)], none, none, .full, .sh⟩, ⟨.mv (.r 0), none, (some 4), .full, (.own 1)⟩])
  (.seq (.seq (.reg [qv 11 (.mv (.v 0)), qv 12 (.len 1 (.r 0)), qv 13 (.mv (.c (.i .i64 0)))])
  (.blk 2 (.loop lp55_2)))
  (.seq (.reg [q (.mv (.v 4)), qv 1 (.mv (.r 0))])
  .ret))))))⟩
/-- slices.Index[[]int,int] -/
def lp56_1 : PCode :=
  (.seq (.reg [qv 6 (.bin .lss (.v 5) (.v 4))])
  (.seq (.cond (.v 6)
   .skip
   (.exit 0))
  (.seq (.blk 1 (.seq (.reg [q (.mv (.v 5)), qv 3 (.mv (.r 0))])
  (.seq (.reg [q (.mv (.v 1)), q (.mv (.v 0)), q (.mv (.v 3)), q (.iaS 1 (.r 1) (.r 0)), q (.load none (.r 0)), qv 7 (.bin .eql (.r 4) (.r 0))])
  (.cond (.v 7)
   (.seq (.reg [q (.mv (.v 3)), qv 2 (.mv (.r 0))])
   .ret)
   .skip))))
  (.reg [q (.bin .add (.v 5) (.c (.i .i64 1))), qv 5 (.mv (.r 0))]))))
def pf56 : PFunc := ⟨[(some 0), (some 1), none, none, none, none, none, none], [.v 2],
  (.seq (.reg [qv 2 (.mv (.c (.i .i64 0)))])
  (.seq (.seq (.reg [q (.mv (.v 0)), qv 4 (.len 1 (.r 0)), qv 5 (.mv (.c (.i .i64 0)))])
  (.blk 0 (.loop lp56_1)))
  (.seq (.reg [qv 2 (.mv (.c (.i .i64 (-1))))])
  .ret)))⟩
/-- slices.Equal[solenoid/check.stack,int] -/
def lp57_1 : PCode :=
  (.seq (.reg [qv 7 (.bin .lss (.v 6) (.v 5))])
  (.seq (.cond (.v 7)
   .skip
   (.exit 0))
  (.seq (.blk 1 (.seq (.reg [q (.mv (.v 6)), qv 3 (.mv (.r 0))])
  (.seq (.reg [qn (.mv (.v 0)), qn (.mv (.v 3)), qn (.iaS 1 (.r 1) (.r 0)), qn (.load none (.r 0)), qn (.mv (.v 1)), qn (.mv (.v 3)), qn (.iaS 1 (.r 1) (.r 0)), qn (.load none (.r 0)), qv 8 (.bin .neq (.r 4) (.r 0))])
  (.cond (.v 8)
   (.seq (.reg [qv 2 (.mv (.c (.b false)))])
   .ret)
   .skip))))
  (.reg [q (.bin .add (.v 6) (.c (.i .i64 1))), qv 6 (.mv (.r 0))]))))
def pf57 : PFunc := ⟨[(some 0), (some 1), none, none, none, none, none, none, none], [.v 2],
  (.seq (.reg [qv 2 (.mv (.c (.b false)))])
  (.seq (.seq (.reg [q (.mv (.v 0)), q (.len 1 (.r 0)), q (.mv (.v 1)), q (.len 1 (.r 0)), qv 4 (.bin .neq (.r 2) (.r 0))])
  (.cond (.v 4)
   (.seq (.reg [qv 2 (.mv (.c (.b false)))])
   .ret)
   .skip))
  (.seq (.seq (.reg [q (.mv (.v 0)), qv 5 (.len 1 (.r 0)), qv 6 (.mv (.c (.i .i64 0)))])
  (.blk 0 (.loop lp57_1)))
  (.seq (.reg [qv 2 (.mv (.c (.b true)))])
  .ret))))⟩
/-- solenoid/solenoidref8.digits -/
def pf58 : PFunc := ⟨[(some 0), none, none], [.v 1],
  (.seq (.reg [qv 1 (.mv (.c (.s [])))])
  (.seq (.seq (.reg [q (.mv (.v 0)), qv 2 (.bin .geq (.r 0) (.c (.i .i64 10)))])
  (.cond (.v 2)
   (.seq (.reg [q (.mv (.v 0)), q (.bin .quo (.r 0) (.c (.i .i64 10))), q (.call (.c (.f 58 [] [])) [(.r 0)]), q (.mv (.v 0)), q (.bin .rem (.r 0) (.c (.i .i64 10))), q (.call (.c (.f 58 [] [])) [(.r 0)]), q (.bin .add (.r 3) (.r 0)), qv 1 (.mv (.r 0))])
   .ret)
   .skip))
  (.seq (.reg [q (.mv (.v 0)), q (.bin .add (.c (.i .i64 48)) (.r 0)), q (.conv .u8 (.r 0)), q (.buildSl 1 1 [(.i .u8 0)] [(0, 1, (.r 0))]), q (.b2s (.r 0)), qv 1 (.mv (.r 0))])
  .ret)))⟩
/-- solenoid/solenoidref7.Fields -/
def pf59 : PFunc := ⟨[(some 0), none, none, none, none, none, none], [.v 2],
  (.seq (.reg [qv 1 (.box (.v 0)), qv 2 (.mv (.c .nils))])
  (.seq (.seq (.reg [q (.faddr 0 (.v 1)), qv 3 (.load none (.r 0))])
  (.blk 0 (.seq (.reg [q (.bin .eql (.v 3) (.c (.i .i64 8))), qv 4 (.mv (.r 0))])
  (.cond (.v 4)
   (.seq (.reg [q (.buildSl 0 2 [(.s []), (.i .i64 0)] []), q (.faddr 3 (.v 1)), q (.load none (.r 0)), q (.append 2 24 (.r 2) (.r 0)), qv 2 (.mv (.r 0))])
   .ret)
   (.seq (.reg [q (.bin .eql (.v 3) (.c (.i .i64 9))), qv 5 (.mv (.r 0))])
   (.cond (.v 5)
    (.seq (.reg [q (.build [(.s []), (.i .i64 0)] [(0, 1, (.c (.s [73, 78]))), (1, 1, (.c (.i .i64 1)))]), q (.build [(.s []), (.i .i64 0)] [(0, 1, (.c (.s [80, 84]))), (1, 1, (.c (.i .i64 6)))]), q (.build [(.s []), (.i .i64 0)] [(0, 1, (.c (.s [81]))), (1, 1, (.c (.i .i64 1)))]), q (.build [(.s []), (.i .i64 0)] [(0, 1, (.c (.s [69, 84]))), (1, 1, (.c (.i .i64 6)))]), q (.build [(.s []), (.i .i64 0)] [(0, 1, (.c (.s [84, 48]))), (1, 1, (.c (.i .i64 6)))]), q (.build [(.s []), (.i .i64 0)] [(0, 1, (.c (.s [82, 85, 78]))), (1, 1, (.c (.i .i64 1)))]), q (.buildSl 6 2 [(.s []), (.i .i64 0)] [(0, 2, (.r 5)), (2, 2, (.r 4)), (4, 2, (.r 3)), (6, 2, (.r 2)), (8, 2, (.r 1)), (10, 2, (.r 0))]), qv 2 (.mv (.r 0))])
    .ret)
    (.seq (.reg [q (.bin .eql (.v 3) (.c (.i .i64 10))), qv 6 (.mv (.r 0))])
    (.cond (.v 6)
     (.seq (.reg [q (.build [(.s []), (.i .i64 0)] [(0, 1, (.c (.s [67, 85]))), (1, 1, (.c (.i .i64 1)))]), q (.build [(.s []), (.i .i64 0)] [(0, 1, (.c (.s [82]))), (1, 1, (.c (.i .i64 1)))]), q (.build [(.s []), (.i .i64 0)] [(0, 1, (.c (.s [80, 86]))), (1, 1, (.c (.i .i64 5)))]), q (.build [(.s []), (.i .i64 0)] [(0, 1, (.c (.s [81]))), (1, 1, (.c (.i .i64 1)))]), q (.build [(.s []), (.i .i64 0)] [(0, 1, (.c (.s [67, 86]))), (1, 1, (.c (.i .i64 5)))]), q (.build [(.s []), (.i .i64 0)] [(0, 1, (.c (.s [79, 76, 68]))), (1, 1, (.c (.i .i64 1)))]), q (.buildSl 6 2 [(.s []), (.i .i64 0)] [(0, 2, (.r 5)), (2, 2, (.r 4)), (4, 2, (.r 3)), (6, 2, (.r 2)), (8, 2, (.r 1)), (10, 2, (.r 0))]), qv 2 (.mv (.r 0))])
     .ret)
     .skip))))))))
  (.seq (.reg [qv 2 (.mv (.c .nils))])
  .ret)))⟩
/-- solenoid/kinds.row -/
def pf60 : PFunc := ⟨[(some 0), none], [.v 1],
  (.seq (.reg [qv 1 (.mv (.c .nils))])
  (.seq (.reg [q (.mv (.v 0)), q (.call (.c (.f 68 [] [])) [(.r 0)]), qv 1 (.mv (.r 0))])
  .ret))⟩
/-- internal/strconv.Itoa -/
def pf61 : PFunc := ⟨[(some 0), none], [.v 1],
  (.seq (.reg [qv 1 (.mv (.c (.s [])))])
  (.seq (.reg [q (.mv (.v 0)), q (.call (.c (.f 69 [] [])) [(.r 0), (.c (.i .i64 10))]), qv 1 (.mv (.r 0))])
  .ret))⟩
/-- (*solenoid/check.program).cell -/
def pf62 : PFunc := ⟨[(some 0), (some 1), none, none], [.cell 2 (some 6)],
  (.seq (.reg [qv 2 (.box (.c (.agg [(.s []), (.i .i64 0), (.b false), (.i .i64 0), (.i .i64 0), (.i .i64 0)])))])
  (.seq (.seq (.reg [q (.mv (.v 1)), q (.mv (.v 0)), q (.nilck (.r 0)), q (.faddr 3 (.r 0)), q (.load none (.r 0)), q (.len 1 (.r 0)), qv 3 (.bin .geq (.r 5) (.r 0))])
  (.cond (.v 3)
   (.seq (.reg [q (.build [(.s []), (.i .i64 0), (.b false), (.i .i64 0), (.i .i64 0), (.i .i64 0)] []), q (.store 6 (.v 2) (.r 0))])
   .ret)
   .skip))
  (.seq (.reg [q (.mv (.v 0)), q (.nilck (.r 0)), q (.faddr 3 (.r 0)), q (.load none (.r 0)), q (.mv (.v 1)), q (.iaS 6 (.r 1) (.r 0)), q (.load (some 6) (.r 0)), q (.store 6 (.v 2) (.r 0))])
  .ret)))⟩
/-- solenoid/check.value -/
def pf63 : PFunc := ⟨[(some 0), none], [.v 1],
  (.seq (.reg [qv 1 (.mv (.c (.b false)))])
  (.seq (.reg [q (.mv (.v 0)), q (.bin .geq (.r 0) (.c (.i .i64 1))), q (.mv (.r 0)), qg 0 true (.mv (.v 0)), qg 1 true (.bin .leq (.r 0) (.c (.i .i64 6))), q (.pick (.r 2) (.r 0) (.c (.b false))), qv 1 (.mv (.r 0))])
  .ret))⟩
/-- solenoid/kinds.Wrap -/
def pf64 : PFunc := ⟨[(some 0), (some 1), none, none, none, none, none, none, none, none, none], [.v 2],
  (.seq (.reg [qv 2 (.mv (.c (.i .i64 0)))])
  (.seq (.seq (.reg [qv 3 (.mv (.v 0))])
  (.blk 0 (.seq (.reg [q (.bin .eql (.v 3) (.c (.i .i64 1))), qv 4 (.mv (.r 0))])
  (.cond (.v 4)
   (.seq (.reg [q (.mv (.v 1)), qv 5 (.bin .neq (.r 0) (.c (.i .i64 0)))])
   (.cond (.v 5)
    (.seq (.reg [qv 2 (.mv (.c (.i .i64 1)))])
    .ret)
    .skip))
   (.seq (.reg [q (.bin .eql (.v 3) (.c (.i .i64 2))), qv 6 (.mv (.r 0))])
   (.cond (.v 6)
    (.seq (.reg [q (.mv (.v 1)), q (.conv .u8 (.r 0)), q (.conv .i64 (.r 0)), qv 2 (.mv (.r 0))])
    .ret)
    (.seq (.reg [q (.bin .eql (.v 3) (.c (.i .i64 3))), qv 7 (.mv (.r 0))])
    (.cond (.v 7)
     (.seq (.reg [q (.mv (.v 1)), q (.conv .u16 (.r 0)), q (.conv .i64 (.r 0)), qv 2 (.mv (.r 0))])
     .ret)
     (.seq (.reg [q (.bin .eql (.v 3) (.c (.i .i64 4))), qv 8 (.mv (.r 0))])
     (.cond (.v 8)
      (.seq (.reg [q (.mv (.v 1)), q (.conv .i16 (.r 0)), q (.conv .i64 (.r 0)), qv 2 (.mv (.r 0))])
      .ret)
      (.seq (.reg [q (.bin .eql (.v 3) (.c (.i .i64 5))), qv 9 (.mv (.r 0))])
      (.cond (.v 9)
       (.seq (.reg [q (.mv (.v 1)), q (.conv .i32 (.r 0)), q (.conv .i64 (.r 0)), qv 2 (.mv (.r 0))])
       .ret)
       (.seq (.reg [q (.bin .eql (.v 3) (.c (.i .i64 6))), qv 10 (.mv (.r 0))])
       (.cond (.v 10)
        (.seq (.reg [q (.mv (.v 1)), qv 2 (.mv (.r 0))])
        .ret)
        .skip))))))))))))))
  (.seq (.reg [qv 2 (.mv (.c (.i .i64 0)))])
  .ret)))⟩
/-- solenoid/check.place -/
def pf65 : PFunc := ⟨[(some 0), (some 1), (some 2), none, none, none, none, none, none, none, none], [.v 4],
  (.seq (.reg [qv 3 (.box (.v 2)), qv 4 (.mv (.c (.i .i64 0)))])
  (.seq (.reg [qv 5 (.mv (.c (.b false)))])
  (.seq (.seq (.reg [qv 6 (.mv (.v 0))])
  (.blk 0 (.seq (.seq (.reg [q (.bin .eql (.v 6) (.c (.i .i64 3))), qv 7 (.mv (.r 0))])
  (.cond (.v 7)
   .skip
   (.reg [q (.bin .eql (.v 6) (.c (.i .i64 4))), qv 7 (.mv (.r 0))])))
  (.cond (.v 7)
   (.reg [q (.mv (.v 1)), qv 5 (.mv (.r 0))])
   (.seq (.seq (.reg [q (.bin .eql (.v 6) (.c (.i .i64 5))), qv 8 (.mv (.r 0))])
   (.cond (.v 8)
    .skip
    (.reg [q (.bin .eql (.v 6) (.c (.i .i64 6))), qv 8 (.mv (.r 0))])))
   (.cond (.v 8)
    (.reg [q (.faddr 4 (.v 3)), q (.load none (.r 0)), q (.bin .eql (.r 0) (.c (.i .i64 0))), qv 5 (.mv (.r 0))])
    (.seq (.reg [q (.bin .eql (.v 6) (.c (.i .i64 27))), qv 9 (.mv (.r 0))])
    (.cond (.v 9)
     (.reg [q (.faddr 5 (.v 3)), q (.load none (.r 0)), q (.bin .eql (.r 0) (.c (.i .i64 0))), qv 5 (.mv (.r 0))])
     .skip))))))))
  (.seq (.seq (.reg [qv 10 (.mv (.v 5))])
  (.cond (.v 10)
   (.seq (.reg [qv 4 (.mv (.c (.i .i64 12)))])
   .ret)
   .skip))
  (.seq (.reg [qv 4 (.mv (.c (.i .i64 0)))])
  .ret)))))⟩
/-- solenoid/arith.Kind -/
def pf66 : PFunc := ⟨[(some 0), (some 1), (some 2), none, none, none, none, none, none, none, none, none, none, none, none], [.v 3, .v 4],
  (.seq (.reg [qv 3 (.mv (.c (.i .i64 0))), qv 4 (.mv (.c (.i .i64 0)))])
  (.seq (.reg [q (.mv (.v 1)), qv 5 (.mv (.r 0)), qv 6 (.mv (.c (.b false)))])
  (.seq (.seq (.reg [qv 7 (.mv (.v 0))])
  (.blk 0 (.seq (.blk 7 (.seq (.blk 6 (.seq (.blk 5 (.seq (.blk 4 (.seq (.blk 3 (.seq (.blk 2 (.seq (.blk 1 (.seq (.seq (.seq (.seq (.reg [q (.bin .eql (.v 7) (.c (.i .i64 7))), qv 8 (.mv (.r 0))])
  (.cond (.v 8)
   .skip
   (.reg [q (.bin .eql (.v 7) (.c (.i .i64 8))), qv 8 (.mv (.r 0))])))
  (.cond (.v 8)
   (.exit 1)
   .skip))
  (.seq (.seq (.seq (.reg [q (.bin .eql (.v 7) (.c (.i .i64 9))), qv 9 (.mv (.r 0))])
  (.cond (.v 9)
   .skip
   (.seq (.reg [q (.bin .eql (.v 7) (.c (.i .i64 10))), qv 9 (.mv (.r 0))])
   (.cond (.v 9)
    .skip
    (.reg [q (.bin .eql (.v 7) (.c (.i .i64 11))), qv 9 (.mv (.r 0))])))))
  (.cond (.v 9)
   (.exit 2)
   .skip))
  (.seq (.seq (.seq (.reg [q (.bin .eql (.v 7) (.c (.i .i64 12))), qv 10 (.mv (.r 0))])
  (.cond (.v 10)
   .skip
   (.seq (.reg [q (.bin .eql (.v 7) (.c (.i .i64 13))), qv 10 (.mv (.r 0))])
   (.cond (.v 10)
    .skip
    (.reg [q (.bin .eql (.v 7) (.c (.i .i64 14))), qv 10 (.mv (.r 0))])))))
  (.cond (.v 10)
   (.exit 3)
   .skip))
  (.seq (.seq (.reg [q (.bin .eql (.v 7) (.c (.i .i64 16))), qv 11 (.mv (.r 0))])
  (.cond (.v 11)
   (.exit 4)
   .skip))
  (.seq (.seq (.reg [q (.bin .eql (.v 7) (.c (.i .i64 17))), qv 12 (.mv (.r 0))])
  (.cond (.v 12)
   (.exit 5)
   .skip))
  (.seq (.seq (.reg [q (.bin .eql (.v 7) (.c (.i .i64 28))), qv 13 (.mv (.r 0))])
  (.cond (.v 13)
   .skip
   (.reg [q (.bin .eql (.v 7) (.c (.i .i64 29))), qv 13 (.mv (.r 0))])))
  (.cond (.v 13)
   (.exit 6)
   .skip)))))))
  (.exit 7)))
  (.reg [q (.mv (.v 1)), q (.mv (.v 2)), q (.buildSl 1 1 [(.i .i64 0)] [(0, 1, (.c (.i .i64 6)))]), q (.call (.c (.f 70 [] [])) [(.r 2), (.r 1), (.r 0)]), qv 6 (.mv (.r 0))])))
  (.seq (.reg [q (.mv (.v 6)), q (.mv (.r 0)), qg 0 false (.mv (.v 1)), qg 1 false (.mv (.v 2)), qg 2 false (.buildSl 2 1 [(.i .i64 0)] [(0, 1, (.c (.i .i64 4))), (1, 1, (.c (.i .i64 5)))]), qg 3 false (.call (.c (.f 70 [] [])) [(.r 2), (.r 1), (.r 0)]), q (.pick (.r 4) (.c (.b true)) (.r 0)), qv 6 (.mv (.r 0))])
  (.exit 0))))
  (.seq (.reg [q (.mv (.v 1)), q (.mv (.v 2)), q (.buildSl 3 1 [(.i .i64 0)] [(0, 1, (.c (.i .i64 1))), (1, 1, (.c (.i .i64 2))), (2, 1, (.c (.i .i64 3)))]), q (.call (.c (.f 70 [] [])) [(.r 2), (.r 1), (.r 0)]), qv 6 (.mv (.r 0))])
  (.exit 0))))
  (.seq (.reg [q (.mv (.v 1)), q (.mv (.v 2)), q (.buildSl 6 1 [(.i .i64 0)] [(0, 1, (.c (.i .i64 1))), (1, 1, (.c (.i .i64 2))), (2, 1, (.c (.i .i64 3))), (3, 1, (.c (.i .i64 4))), (4, 1, (.c (.i .i64 5))), (5, 1, (.c (.i .i64 6)))]), q (.call (.c (.f 70 [] [])) [(.r 2), (.r 1), (.r 0)]), qv 5 (.mv (.c (.i .i64 1))), qv 6 (.mv (.r 1))])
  (.exit 0))))
  (.seq (.reg [q (.mv (.v 1)), q (.mv (.v 2)), q (.buildSl 5 1 [(.i .i64 0)] [(0, 1, (.c (.i .i64 2))), (1, 1, (.c (.i .i64 3))), (2, 1, (.c (.i .i64 4))), (3, 1, (.c (.i .i64 5))), (4, 1, (.c (.i .i64 6)))]), q (.call (.c (.f 70 [] [])) [(.r 2), (.r 1), (.r 0)]), qv 5 (.mv (.c (.i .i64 1))), qv 6 (.mv (.r 1))])
  (.exit 0))))
  (.seq (.reg [q (.mv (.v 2)), q (.bin .eql (.r 0) (.c (.i .i64 5))), q (.mv (.r 0)), qg 0 true (.mv (.v 1)), qg 1 true (.bin .eql (.r 0) (.c (.i .i64 2))), qg 2 true (.mv (.r 0)), qg 0 false (.mv (.v 1)), qg 1 false (.bin .eql (.r 0) (.c (.i .i64 3))), qg 5 true (.pick (.r 2) (.c (.b true)) (.r 0)), q (.pick (.r 6) (.r 0) (.c (.b false))), qv 6 (.mv (.r 0))])
  (.exit 0))))
  (.seq (.seq (.reg [qv 3 (.mv (.c (.i .i64 0))), qv 4 (.mv (.c (.i .i64 3)))])
  .ret)
  (.exit 0)))))
  (.seq (.seq (.reg [q (.mv (.v 6)), qv 14 (.un .not (.r 0))])
  (.cond (.v 14)
   (.seq (.reg [qv 3 (.mv (.c (.i .i64 0))), qv 4 (.mv (.c (.i .i64 19)))])
   .ret)
   .skip))
  (.seq (.reg [q (.mv (.v 5)), qv 3 (.mv (.r 0)), qv 4 (.mv (.c (.i .i64 0)))])
  .ret)))))⟩
/-- slices.Grow[solenoid/check.stack,int] -/
def pf67 : PFunc := ⟨[(some 0), (some 1), none, none, none], [.v 2],
  (.seq (.reg [qv 2 (.mv (.c .nils))])
  (.seq (.seq (.reg [q (.mv (.v 1)), qv 3 (.bin .lss (.r 0) (.c (.i .i64 0)))])
  (.cond (.v 3)
   (.reg [q (.mkifc 9 (.c (.s [99, 97, 110, 110, 111, 116, 32, 98, 101, 32, 110, 101, 103, 97, 116, 105, 118, 101]))), q (.bad)])
   .skip))
  (.seq (.seq (.reg [q (.mv (.v 1)), q (.mv (.v 0)), q (.cap (.r 0)), q (.mv (.v 0)), q (.len 1 (.r 0)), q (.bin .sub (.r 2) (.r 0)), q (.bin .sub (.r 5) (.r 0)), qv 1 (.mv (.r 0))])
  (.seq (.reg [q (.mv (.v 1)), qv 4 (.bin .gtr (.r 0) (.c (.i .i64 0)))])
  (.cond (.v 4)
   (.reg [q (.mv (.v 0)), q (.mv (.v 0)), q (.cap (.r 0)), q (.slSl 1 (.r 2) none (some (.r 0)) none), q (.mv (.v 1)), ⟨.appendZ 1 8 [(.i .i64 0)] (.r 1) (.r 0), none, none, .full, (.own 1)⟩, q (.mv (.v 0)), q (.len 1 (.r 0)), ⟨.slSl 1 (.r 2) none (some (.r 0)) none, none, none, .full, (.own 1)⟩, qv 0 (.mv (.r 0))])
   .skip)))
  (.seq (.reg [q (.mv (.v 0)), qv 2 (.mv (.r 0))])
  .ret))))⟩
/-- slices.Clone[[]solenoid/api.Field,solenoid/api.Field] -/
def pf68 : PFunc := cloneP 2 24 [(.s []), (.i .i64 0)]
/-- internal/strconv.FormatInt -/
def pf69 : PFunc := ⟨[(some 0), (some 1), none, none, none, none, none, none, none, none, none], [.v 2],
  (.seq (.reg [qv 2 (.mv (.c (.s [])))])
  (.seq (.seq (.reg [q (.mv (.v 1)), qv 7 (.bin .eql (.r 0) (.c (.i .i64 10)))])
  (.cond (.v 7)
   (.seq (.seq (.reg [q (.mv (.v 0)), q (.bin .leq (.c (.i .i64 0)) (.r 0)), q (.mv (.r 0)), qg 0 true (.mv (.v 0)), qg 1 true (.bin .lss (.r 0) (.c (.i .i64 100))), qv 8 (.pick (.r 2) (.r 0) (.c (.b false)))])
   (.cond (.v 8)
    (.seq (.reg [q (.mv (.v 0)), q (.call (.c (.f 71 [] [])) [(.r 0)]), qv 2 (.mv (.r 0))])
    .ret)
    .skip))
   (.seq (.reg [qv 3 (.box (.c (.agg [(.i .u8 0), (.i .u8 0), (.i .u8 0), (.i .u8 0), (.i .u8 0), (.i .u8 0), (.i .u8 0), (.i .u8 0), (.i .u8 0), (.i .u8 0), (.i .u8 0), (.i .u8 0), (.i .u8 0), (.i .u8 0), (.i .u8 0), (.i .u8 0), (.i .u8 0), (.i .u8 0), (.i .u8 0), (.i .u8 0), (.i .u8 0), (.i .u8 0), (.i .u8 0), (.i .u8 0)])))])
   (.seq (.reg [q (.mv (.v 0)), q (.conv .u64 (.r 0)), qv 4 (.mv (.r 0))])
   (.seq (.seq (.reg [q (.mv (.v 0)), qv 9 (.bin .lss (.r 0) (.c (.i .i64 0)))])
   (.cond (.v 9)
    (.reg [q (.mv (.v 4)), q (.un .neg (.r 0)), qv 4 (.mv (.r 0))])
    .skip))
   (.seq (.reg [q (.mv (.v 4)), q (.call (.c (.f 72 [] [])) [(.r 0)]), qv 5 (.mv (.r 0))])
   (.seq (.reg [q (.mv (.v 5)), q (.bin .add (.c (.i .i64 1)) (.r 0)), q (.slA 24 1 (.v 3) (some (.c (.i .i64 1))) (some (.r 0)) none), q (.mv (.v 4)), q (.call (.c (.f 73 [] [])) [(.r 1), (.r 0)])])
   (.seq (.seq (.reg [q (.mv (.v 0)), qv 10 (.bin .lss (.r 0) (.c (.i .i64 0)))])
   (.cond (.v 10)
    (.seq (.reg [q (.iaA 24 1 (.v 3) (.c (.i .i64 0))), q (.store 1 (.r 0) (.c (.i .u8 45)))])
    (.seq (.reg [q (.mv (.v 5)), q (.bin .add (.c (.i .i64 1)) (.r 0)), q (.slA 24 1 (.v 3) none (some (.r 0)) none), q (.b2s (.r 0)), qv 2 (.mv (.r 0))])
    .ret))
    .skip))
   (.seq (.reg [q (.mv (.v 5)), q (.bin .add (.c (.i .i64 1)) (.r 0)), q (.slA 24 1 (.v 3) (some (.c (.i .i64 1))) (some (.r 0)) none), q (.b2s (.r 0)), qv 2 (.mv (.r 0))])
   .ret))))))))
   .skip))
  (.seq (.reg [q (.mv (.v 0)), q (.conv .u64 (.r 0)), q (.mv (.v 1)), q (.mv (.v 0)), q (.bin .lss (.r 0) (.c (.i .i64 0))), q (.call (.c (.f 74 [] [])) [(.c .nils), (.r 3), (.r 2), (.r 0), (.c (.b false))]), q (.mv (.r 0)), q (.ext 0 (.r 0)), q (.ext 1 (.r 1)), q (.mv (.r 1)), qv 6 (.mv (.r 1))])
  (.seq (.reg [q (.mv (.v 6)), qv 2 (.mv (.r 0))])
  .ret))))⟩
/-- solenoid/arith.both -/
def pf70 : PFunc := ⟨[(some 0), (some 1), (some 2), none], [.v 3],
  (.seq (.reg [qv 3 (.mv (.c (.b false)))])
  (.seq (.reg [q (.mv (.v 0)), q (.mv (.v 1)), q (.bin .eql (.r 1) (.r 0)), q (.mv (.r 0)), qg 0 true (.mv (.v 2)), qg 1 true (.mv (.v 0)), qg 2 true (.call (.c (.f 38 [] [])) [(.r 1), (.r 0)]), q (.pick (.r 3) (.r 0) (.c (.b false))), qv 3 (.mv (.r 0))])
  .ret))⟩
/-- internal/strconv.small -/
def pf71 : PFunc := ⟨[(some 0), none, none], [.v 1],
  (.seq (.reg [qv 1 (.mv (.c (.s [])))])
  (.seq (.seq (.reg [q (.mv (.v 0)), qv 2 (.bin .lss (.r 0) (.c (.i .i64 10)))])
  (.cond (.v 2)
   (.seq (.reg [q (.mv (.v 0)), q (.mv (.v 0)), q (.bin .add (.r 0) (.c (.i .i64 1))), q (.slS (.c (.s [48, 49, 50, 51, 52, 53, 54, 55, 56, 57, 97, 98, 99, 100, 101, 102, 103, 104, 105, 106, 107, 108, 109, 110, 111, 112, 113, 114, 115, 116, 117, 118, 119, 120, 121, 122])) (some (.r 2)) (some (.r 0))), qv 1 (.mv (.r 0))])
   .ret)
   .skip))
  (.seq (.reg [q (.mv (.v 0)), q (.bin .mul (.r 0) (.c (.i .i64 2))), q (.mv (.v 0)), q (.bin .mul (.r 0) (.c (.i .i64 2))), q (.bin .add (.r 0) (.c (.i .i64 2))), q (.slS (.c (.s [48, 48, 48, 49, 48, 50, 48, 51, 48, 52, 48, 53, 48, 54, 48, 55, 48, 56, 48, 57, 49, 48, 49, 49, 49, 50, 49, 51, 49, 52, 49, 53, 49, 54, 49, 55, 49, 56, 49, 57, 50, 48, 50, 49, 50, 50, 50, 51, 50, 52, 50, 53, 50, 54, 50, 55, 50, 56, 50, 57, 51, 48, 51, 49, 51, 50, 51, 51, 51, 52, 51, 53, 51, 54, 51, 55, 51, 56, 51, 57, 52, 48, 52, 49, 52, 50, 52, 51, 52, 52, 52, 53, 52, 54, 52, 55, 52, 56, 52, 57, 53, 48, 53, 49, 53, 50, 53, 51, 53, 52, 53, 53, 53, 54, 53, 55, 53, 56, 53, 57, 54, 48, 54, 49, 54, 50, 54, 51, 54, 52, 54, 53, 54, 54, 54, 55, 54, 56, 54, 57, 55, 48, 55, 49, 55, 50, 55, 51, 55, 52, 55, 53, 55, 54, 55, 55, 55, 56, 55, 57, 56, 48, 56, 49, 56, 50, 56, 51, 56, 52, 56, 53, 56, 54, 56, 55, 56, 56, 56, 57, 57, 48, 57, 49, 57, 50, 57, 51, 57, 52, 57, 53, 57, 54, 57, 55, 57, 56, 57, 57])) (some (.r 3)) (some (.r 0))), qv 1 (.mv (.r 0))])
  .ret)))⟩
/-- internal/strconv.numDigits -/
def pf72 : PFunc := ⟨[(some 0), none, none], [.v 1],
  (.seq (.reg [qv 1 (.mv (.c (.i .i64 0)))])
  (.seq (.reg [q (.mv (.v 0)), q (.call (.c (.f 76 [] [])) [(.r 0)]), q (.call (.c (.f 75 [] [])) [(.r 0)]), qv 2 (.mv (.r 0))])
  (.seq (.reg [q (.mv (.v 2)), q (.mv (.v 0)), q (.mv (.v 2)), q (.iaA 20 1 (.c (.p 0 0)) (.r 0)), q (.load none (.r 0)), q (.bin .geq (.r 3) (.r 0)), q (.call (.c (.f 77 [] [])) [(.r 0)]), q (.bin .add (.r 6) (.r 0)), qv 1 (.mv (.r 0))])
  .ret)))⟩
/-- internal/strconv.formatBase10 -/
def lp73_1 : PCode :=
  (.seq (.seq (.reg [q (.mv (.v 2)), qv 15 (.bin .geq (.r 0) (.c (.i .i64 8)))])
  (.cond (.v 15)
   .skip
   (.exit 0)))
  (.blk 1 (.seq (.reg [q (.mv (.v 1)), q (.bin .rem (.r 0) (.c (.i .u64 100000000))), q (.conv .u32 (.r 0)), qv 3 (.mv (.r 0))])
  (.seq (.reg [q (.mv (.v 1)), q (.bin .quo (.r 0) (.c (.i .u64 100000000))), qv 1 (.mv (.r 0))])
  (.seq (.reg [q (.mv (.v 3)), q (.bin .quo (.r 0) (.c (.i .u32 10000))), q (.mv (.v 3)), q (.bin .rem (.r 0) (.c (.i .u32 10000))), qv 4 (.mv (.r 2)), qv 5 (.mv (.r 1))])
  (.seq (.reg [q (.mv (.v 5)), q (.bin .quo (.r 0) (.c (.i .u32 100))), q (.bin .mul (.r 0) (.c (.i .u32 2))), q (.mv (.v 5)), q (.bin .rem (.r 0) (.c (.i .u32 100))), q (.bin .mul (.r 0) (.c (.i .u32 2))), qv 6 (.mv (.r 3)), qv 7 (.mv (.r 1))])
  (.seq (.reg [q (.mv (.v 4)), q (.bin .quo (.r 0) (.c (.i .u32 100))), q (.bin .mul (.r 0) (.c (.i .u32 2))), q (.mv (.v 4)), q (.bin .rem (.r 0) (.c (.i .u32 100))), q (.bin .mul (.r 0) (.c (.i .u32 2))), qv 8 (.mv (.r 3)), qv 9 (.mv (.r 1))])
  (.seq (.reg [q (.mv (.v 0)), q (.mv (.v 2)), q (.bin .sub (.r 0) (.c (.i .i64 1))), qn (.mv (.v 0)), qn (.mv (.v 2)), qn (.bin .sub (.r 0) (.c (.i .i64 2))), q (.mv (.v 7)), q (.bin .add (.r 0) (.c (.i .u32 1))), q (.idxS (.c (.s [48, 48, 48, 49, 48, 50, 48, 51, 48, 52, 48, 53, 48, 54, 48, 55, 48, 56, 48, 57, 49, 48, 49, 49, 49, 50, 49, 51, 49, 52, 49, 53, 49, 54, 49, 55, 49, 56, 49, 57, 50, 48, 50, 49, 50, 50, 50, 51, 50, 52, 50, 53, 50, 54, 50, 55, 50, 56, 50, 57, 51, 48, 51, 49, 51, 50, 51, 51, 51, 52, 51, 53, 51, 54, 51, 55, 51, 56, 51, 57, 52, 48, 52, 49, 52, 50, 52, 51, 52, 52, 52, 53, 52, 54, 52, 55, 52, 56, 52, 57, 53, 48, 53, 49, 53, 50, 53, 51, 53, 52, 53, 53, 53, 54, 53, 55, 53, 56, 53, 57, 54, 48, 54, 49, 54, 50, 54, 51, 54, 52, 54, 53, 54, 54, 54, 55, 54, 56, 54, 57, 55, 48, 55, 49, 55, 50, 55, 51, 55, 52, 55, 53, 55, 54, 55, 55, 55, 56, 55, 57, 56, 48, 56, 49, 56, 50, 56, 51, 56, 52, 56, 53, 56, 54, 56, 55, 56, 56, 56, 57, 57, 48, 57, 49, 57, 50, 57, 51, 57, 52, 57, 53, 57, 54, 57, 55, 57, 56, 57, 57])) (.r 0)), qn (.mv (.v 7)), qn (.idxS (.c (.s [48, 48, 48, 49, 48, 50, 48, 51, 48, 52, 48, 53, 48, 54, 48, 55, 48, 56, 48, 57, 49, 48, 49, 49, 49, 50, 49, 51, 49, 52, 49, 53, 49, 54, 49, 55, 49, 56, 49, 57, 50, 48, 50, 49, 50, 50, 50, 51, 50, 52, 50, 53, 50, 54, 50, 55, 50, 56, 50, 57, 51, 48, 51, 49, 51, 50, 51, 51, 51, 52, 51, 53, 51, 54, 51, 55, 51, 56, 51, 57, 52, 48, 52, 49, 52, 50, 52, 51, 52, 52, 52, 53, 52, 54, 52, 55, 52, 56, 52, 57, 53, 48, 53, 49, 53, 50, 53, 51, 53, 52, 53, 53, 53, 54, 53, 55, 53, 56, 53, 57, 54, 48, 54, 49, 54, 50, 54, 51, 54, 52, 54, 53, 54, 54, 54, 55, 54, 56, 54, 57, 55, 48, 55, 49, 55, 50, 55, 51, 55, 52, 55, 53, 55, 54, 55, 55, 55, 56, 55, 57, 56, 48, 56, 49, 56, 50, 56, 51, 56, 52, 56, 53, 56, 54, 56, 55, 56, 56, 56, 57, 57, 48, 57, 49, 57, 50, 57, 51, 57, 52, 57, 53, 57, 54, 57, 55, 57, 56, 57, 57])) (.r 0)), q (.iaS 1 (.r 10) (.r 8)), q (.store 1 (.r 0) (.r 3)), q (.iaS 1 (.r 9) (.r 7)), q (.store 1 (.r 0) (.r 3))])
  (.seq (.reg [q (.mv (.v 0)), q (.mv (.v 2)), q (.bin .sub (.r 0) (.c (.i .i64 3))), qn (.mv (.v 0)), qn (.mv (.v 2)), qn (.bin .sub (.r 0) (.c (.i .i64 4))), q (.mv (.v 6)), q (.bin .add (.r 0) (.c (.i .u32 1))), q (.idxS (.c (.s [48, 48, 48, 49, 48, 50, 48, 51, 48, 52, 48, 53, 48, 54, 48, 55, 48, 56, 48, 57, 49, 48, 49, 49, 49, 50, 49, 51, 49, 52, 49, 53, 49, 54, 49, 55, 49, 56, 49, 57, 50, 48, 50, 49, 50, 50, 50, 51, 50, 52, 50, 53, 50, 54, 50, 55, 50, 56, 50, 57, 51, 48, 51, 49, 51, 50, 51, 51, 51, 52, 51, 53, 51, 54, 51, 55, 51, 56, 51, 57, 52, 48, 52, 49, 52, 50, 52, 51, 52, 52, 52, 53, 52, 54, 52, 55, 52, 56, 52, 57, 53, 48, 53, 49, 53, 50, 53, 51, 53, 52, 53, 53, 53, 54, 53, 55, 53, 56, 53, 57, 54, 48, 54, 49, 54, 50, 54, 51, 54, 52, 54, 53, 54, 54, 54, 55, 54, 56, 54, 57, 55, 48, 55, 49, 55, 50, 55, 51, 55, 52, 55, 53, 55, 54, 55, 55, 55, 56, 55, 57, 56, 48, 56, 49, 56, 50, 56, 51, 56, 52, 56, 53, 56, 54, 56, 55, 56, 56, 56, 57, 57, 48, 57, 49, 57, 50, 57, 51, 57, 52, 57, 53, 57, 54, 57, 55, 57, 56, 57, 57])) (.r 0)), qn (.mv (.v 6)), qn (.idxS (.c (.s [48, 48, 48, 49, 48, 50, 48, 51, 48, 52, 48, 53, 48, 54, 48, 55, 48, 56, 48, 57, 49, 48, 49, 49, 49, 50, 49, 51, 49, 52, 49, 53, 49, 54, 49, 55, 49, 56, 49, 57, 50, 48, 50, 49, 50, 50, 50, 51, 50, 52, 50, 53, 50, 54, 50, 55, 50, 56, 50, 57, 51, 48, 51, 49, 51, 50, 51, 51, 51, 52, 51, 53, 51, 54, 51, 55, 51, 56, 51, 57, 52, 48, 52, 49, 52, 50, 52, 51, 52, 52, 52, 53, 52, 54, 52, 55, 52, 56, 52, 57, 53, 48, 53, 49, 53, 50, 53, 51, 53, 52, 53, 53, 53, 54, 53, 55, 53, 56, 53, 57, 54, 48, 54, 49, 54, 50, 54, 51, 54, 52, 54, 53, 54, 54, 54, 55, 54, 56, 54, 57, 55, 48, 55, 49, 55, 50, 55, 51, 55, 52, 55, 53, 55, 54, 55, 55, 55, 56, 55, 57, 56, 48, 56, 49, 56, 50, 56, 51, 56, 52, 56, 53, 56, 54, 56, 55, 56, 56, 56, 57, 57, 48, 57, 49, 57, 50, 57, 51, 57, 52, 57, 53, 57, 54, 57, 55, 57, 56, 57, 57])) (.r 0)), q (.iaS 1 (.r 10) (.r 8)), q (.store 1 (.r 0) (.r 3)), q (.iaS 1 (.r 9) (.r 7)), q (.store 1 (.r 0) (.r 3))])
  (.seq (.reg [q (.mv (.v 0)), q (.mv (.v 2)), q (.bin .sub (.r 0) (.c (.i .i64 5))), qn (.mv (.v 0)), qn (.mv (.v 2)), qn (.bin .sub (.r 0) (.c (.i .i64 6))), q (.mv (.v 9)), q (.bin .add (.r 0) (.c (.i .u32 1))), q (.idxS (.c (.s [48, 48, 48, 49, 48, 50, 48, 51, 48, 52, 48, 53, 48, 54, 48, 55, 48, 56, 48, 57, 49, 48, 49, 49, 49, 50, 49, 51, 49, 52, 49, 53, 49, 54, 49, 55, 49, 56, 49, 57, 50, 48, 50, 49, 50, 50, 50, 51, 50, 52, 50, 53, 50, 54, 50, 55, 50, 56, 50, 57, 51, 48, 51, 49, 51, 50, 51, 51, 51, 52, 51, 53, 51, 54, 51, 55, 51, 56, 51, 57, 52, 48, 52, 49, 52, 50, 52, 51, 52, 52, 52, 53, 52, 54, 52, 55, 52, 56, 52, 57, 53, 48, 53, 49, 53, 50, 53, 51, 53, 52, 53, 53, 53, 54, 53, 55, 53, 56, 53, 57, 54, 48, 54, 49, 54, 50, 54, 51, 54, 52, 54, 53, 54, 54, 54, 55, 54, 56, 54, 57, 55, 48, 55, 49, 55, 50, 55, 51, 55, 52, 55, 53, 55, 54, 55, 55, 55, 56, 55, 57, 56, 48, 56, 49, 56, 50, 56, 51, 56, 52, 56, 53, 56, 54, 56, 55, 56, 56, 56, 57, 57, 48, 57, 49, 57, 50, 57, 51, 57, 52, 57, 53, 57, 54, 57, 55, 57, 56, 57, 57])) (.r 0)), qn (.mv (.v 9)), qn (.idxS (.c (.s [48, 48, 48, 49, 48, 50, 48, 51, 48, 52, 48, 53, 48, 54, 48, 55, 48, 56, 48, 57, 49, 48, 49, 49, 49, 50, 49, 51, 49, 52, 49, 53, 49, 54, 49, 55, 49, 56, 49, 57, 50, 48, 50, 49, 50, 50, 50, 51, 50, 52, 50, 53, 50, 54, 50, 55, 50, 56, 50, 57, 51, 48, 51, 49, 51, 50, 51, 51, 51, 52, 51, 53, 51, 54, 51, 55, 51, 56, 51, 57, 52, 48, 52, 49, 52, 50, 52, 51, 52, 52, 52, 53, 52, 54, 52, 55, 52, 56, 52, 57, 53, 48, 53, 49, 53, 50, 53, 51, 53, 52, 53, 53, 53, 54, 53, 55, 53, 56, 53, 57, 54, 48, 54, 49, 54, 50, 54, 51, 54, 52, 54, 53, 54, 54, 54, 55, 54, 56, 54, 57, 55, 48, 55, 49, 55, 50, 55, 51, 55, 52, 55, 53, 55, 54, 55, 55, 55, 56, 55, 57, 56, 48, 56, 49, 56, 50, 56, 51, 56, 52, 56, 53, 56, 54, 56, 55, 56, 56, 56, 57, 57, 48, 57, 49, 57, 50, 57, 51, 57, 52, 57, 53, 57, 54, 57, 55, 57, 56, 57, 57])) (.r 0)), q (.iaS 1 (.r 10) (.r 8)), q (.store 1 (.r 0) (.r 3)), q (.iaS 1 (.r 9) (.r 7)), q (.store 1 (.r 0) (.r 3))])
  (.seq (.reg [q (.mv (.v 0)), q (.mv (.v 2)), q (.bin .sub (.r 0) (.c (.i .i64 7))), qn (.mv (.v 0)), qn (.mv (.v 2)), qn (.bin .sub (.r 0) (.c (.i .i64 8))), q (.mv (.v 8)), q (.bin .add (.r 0) (.c (.i .u32 1))), q (.idxS (.c (.s [48, 48, 48, 49, 48, 50, 48, 51, 48, 52, 48, 53, 48, 54, 48, 55, 48, 56, 48, 57, 49, 48, 49, 49, 49, 50, 49, 51, 49, 52, 49, 53, 49, 54, 49, 55, 49, 56, 49, 57, 50, 48, 50, 49, 50, 50, 50, 51, 50, 52, 50, 53, 50, 54, 50, 55, 50, 56, 50, 57, 51, 48, 51, 49, 51, 50, 51, 51, 51, 52, 51, 53, 51, 54, 51, 55, 51, 56, 51, 57, 52, 48, 52, 49, 52, 50, 52, 51, 52, 52, 52, 53, 52, 54, 52, 55, 52, 56, 52, 57, 53, 48, 53, 49, 53, 50, 53, 51, 53, 52, 53, 53, 53, 54, 53, 55, 53, 56, 53, 57, 54, 48, 54, 49, 54, 50, 54, 51, 54, 52, 54, 53, 54, 54, 54, 55, 54, 56, 54, 57, 55, 48, 55, 49, 55, 50, 55, 51, 55, 52, 55, 53, 55, 54, 55, 55, 55, 56, 55, 57, 56, 48, 56, 49, 56, 50, 56, 51, 56, 52, 56, 53, 56, 54, 56, 55, 56, 56, 56, 57, 57, 48, 57, 49, 57, 50, 57, 51, 57, 52, 57, 53, 57, 54, 57, 55, 57, 56, 57, 57])) (.r 0)), qn (.mv (.v 8)), qn (.idxS (.c (.s [48, 48, 48, 49, 48, 50, 48, 51, 48, 52, 48, 53, 48, 54, 48, 55, 48, 56, 48, 57, 49, 48, 49, 49, 49, 50, 49, 51, 49, 52, 49, 53, 49, 54, 49, 55, 49, 56, 49, 57, 50, 48, 50, 49, 50, 50, 50, 51, 50, 52, 50, 53, 50, 54, 50, 55, 50, 56, 50, 57, 51, 48, 51, 49, 51, 50, 51, 51, 51, 52, 51, 53, 51, 54, 51, 55, 51, 56, 51, 57, 52, 48, 52, 49, 52, 50, 52, 51, 52, 52, 52, 53, 52, 54, 52, 55, 52, 56, 52, 57, 53, 48, 53, 49, 53, 50, 53, 51, 53, 52, 53, 53, 53, 54, 53, 55, 53, 56, 53, 57, 54, 48, 54, 49, 54, 50, 54, 51, 54, 52, 54, 53, 54, 54, 54, 55, 54, 56, 54, 57, 55, 48, 55, 49, 55, 50, 55, 51, 55, 52, 55, 53, 55, 54, 55, 55, 55, 56, 55, 57, 56, 48, 56, 49, 56, 50, 56, 51, 56, 52, 56, 53, 56, 54, 56, 55, 56, 56, 56, 57, 57, 48, 57, 49, 57, 50, 57, 51, 57, 52, 57, 53, 57, 54, 57, 55, 57, 56, 57, 57])) (.r 0)), q (.iaS 1 (.r 10) (.r 8)), q (.store 1 (.r 0) (.r 3)), q (.iaS 1 (.r 9) (.r 7)), q (.store 1 (.r 0) (.r 3))])
  (.reg [q (.mv (.v 2)), q (.bin .sub (.r 0) (.c (.i .i64 8))), qv 2 (.mv (.r 0))]))))))))))))
def pf73 : PFunc := ⟨[(some 0), (some 1), none, none, none, none, none, none, none, none, none, none, none, none, none, none, none, none, none], [],
  (.seq (.reg [q (.mv (.v 0)), q (.len 1 (.r 0)), qv 2 (.mv (.r 0))])
  (.seq (.blk 0 (.loop lp73_1))
  (.seq (.reg [q (.mv (.v 1)), q (.conv .u32 (.r 0)), qv 10 (.mv (.r 0))])
  (.seq (.seq (.reg [q (.mv (.v 2)), qv 16 (.bin .geq (.r 0) (.c (.i .i64 4)))])
  (.cond (.v 16)
   (.seq (.reg [q (.mv (.v 10)), q (.bin .rem (.r 0) (.c (.i .u32 10000))), qv 11 (.mv (.r 0))])
   (.seq (.reg [q (.mv (.v 10)), q (.bin .quo (.r 0) (.c (.i .u32 10000))), qv 10 (.mv (.r 0))])
   (.seq (.reg [q (.mv (.v 11)), q (.bin .quo (.r 0) (.c (.i .u32 100))), q (.bin .mul (.r 0) (.c (.i .u32 2))), q (.mv (.v 11)), q (.bin .rem (.r 0) (.c (.i .u32 100))), q (.bin .mul (.r 0) (.c (.i .u32 2))), qv 12 (.mv (.r 3)), qv 13 (.mv (.r 1))])
   (.seq (.reg [q (.mv (.v 0)), q (.mv (.v 2)), q (.bin .sub (.r 0) (.c (.i .i64 1))), qn (.mv (.v 0)), qn (.mv (.v 2)), qn (.bin .sub (.r 0) (.c (.i .i64 2))), q (.mv (.v 13)), q (.bin .add (.r 0) (.c (.i .u32 1))), q (.idxS (.c (.s [48, 48, 48, 49, 48, 50, 48, 51, 48, 52, 48, 53, 48, 54, 48, 55, 48, 56, 48, 57, 49, 48, 49, 49, 49, 50, 49, 51, 49, 52, 49, 53, 49, 54, 49, 55, 49, 56, 49, 57, 50, 48, 50, 49, 50, 50, 50, 51, 50, 52, 50, 53, 50, 54, 50, 55, 50, 56, 50, 57, 51, 48, 51, 49, 51, 50, 51, 51, 51, 52, 51, 53, 51, 54, 51, 55, 51, 56, 51, 57, 52, 48, 52, 49, 52, 50, 52, 51, 52, 52, 52, 53, 52, 54, 52, 55, 52, 56, 52, 57, 53, 48, 53, 49, 53, 50, 53, 51, 53, 52, 53, 53, 53, 54, 53, 55, 53, 56, 53, 57, 54, 48, 54, 49, 54, 50, 54, 51, 54, 52, 54, 53, 54, 54, 54, 55, 54, 56, 54, 57, 55, 48, 55, 49, 55, 50, 55, 51, 55, 52, 55, 53, 55, 54, 55, 55, 55, 56, 55, 57, 56, 48, 56, 49, 56, 50, 56, 51, 56, 52, 56, 53, 56, 54, 56, 55, 56, 56, 56, 57, 57, 48, 57, 49, 57, 50, 57, 51, 57, 52, 57, 53, 57, 54, 57, 55, 57, 56, 57, 57])) (.r 0)), qn (.mv (.v 13)), qn (.idxS (.c (.s [48, 48, 48, 49, 48, 50, 48, 51, 48, 52, 48, 53, 48, 54, 48, 55, 48, 56, 48, 57, 49, 48, 49, 49, 49, 50, 49, 51, 49, 52, 49, 53, 49, 54, 49, 55, 49, 56, 49, 57, 50, 48, 50, 49, 50, 50, 50, 51, 50, 52, 50, 53, 50, 54, 50, 55, 50, 56, 50, 57, 51, 48, 51, 49, 51, 50, 51, 51, 51, 52, 51, 53, 51, 54, 51, 55, 51, 56, 51, 57, 52, 48, 52, 49, 52, 50, 52, 51, 52, 52, 52, 53, 52, 54, 52, 55, 52, 56, 52, 57, 53, 48, 53, 49, 53, 50, 53, 51, 53, 52, 53, 53, 53, 54, 53, 55, 53, 56, 53, 57, 54, 48, 54, 49, 54, 50, 54, 51, 54, 52, 54, 53, 54, 54, 54, 55, 54, 56, 54, 57, 55, 48, 55, 49, 55, 50, 55, 51, 55, 52, 55, 53, 55, 54, 55, 55, 55, 56, 55, 57, 56, 48, 56, 49, 56, 50, 56, 51, 56, 52, 56, 53, 56, 54, 56, 55, 56, 56, 56, 57, 57, 48, 57, 49, 57, 50, 57, 51, 57, 52, 57, 53, 57, 54, 57, 55, 57, 56, 57, 57])) (.r 0)), q (.iaS 1 (.r 10) (.r 8)), q (.store 1 (.r 0) (.r 3)), q (.iaS 1 (.r 9) (.r 7)), q (.store 1 (.r 0) (.r 3))])
   (.seq (.reg [q (.mv (.v 0)), q (.mv (.v 2)), q (.bin .sub (.r 0) (.c (.i .i64 3))), qn (.mv (.v 0)), qn (.mv (.v 2)), qn (.bin .sub (.r 0) (.c (.i .i64 4))), q (.mv (.v 12)), q (.bin .add (.r 0) (.c (.i .u32 1))), q (.idxS (.c (.s [48, 48, 48, 49, 48, 50, 48, 51, 48, 52, 48, 53, 48, 54, 48, 55, 48, 56, 48, 57, 49, 48, 49, 49, 49, 50, 49, 51, 49, 52, 49, 53, 49, 54, 49, 55, 49, 56, 49, 57, 50, 48, 50, 49, 50, 50, 50, 51, 50, 52, 50, 53, 50, 54, 50, 55, 50, 56, 50, 57, 51, 48, 51, 49, 51, 50, 51, 51, 51, 52, 51, 53, 51, 54, 51, 55, 51, 56, 51, 57, 52, 48, 52, 49, 52, 50, 52, 51, 52, 52, 52, 53, 52, 54, 52, 55, 52, 56, 52, 57, 53, 48, 53, 49, 53, 50, 53, 51, 53, 52, 53, 53, 53, 54, 53, 55, 53, 56, 53, 57, 54, 48, 54, 49, 54, 50, 54, 51, 54, 52, 54, 53, 54, 54, 54, 55, 54, 56, 54, 57, 55, 48, 55, 49, 55, 50, 55, 51, 55, 52, 55, 53, 55, 54, 55, 55, 55, 56, 55, 57, 56, 48, 56, 49, 56, 50, 56, 51, 56, 52, 56, 53, 56, 54, 56, 55, 56, 56, 56, 57, 57, 48, 57, 49, 57, 50, 57, 51, 57, 52, 57, 53, 57, 54, 57, 55, 57, 56, 57, 57])) (.r 0)), qn (.mv (.v 12)), qn (.idxS (.c (.s [48, 48, 48, 49, 48, 50, 48, 51, 48, 52, 48, 53, 48, 54, 48, 55, 48, 56, 48, 57, 49, 48, 49, 49, 49, 50, 49, 51, 49, 52, 49, 53, 49, 54, 49, 55, 49, 56, 49, 57, 50, 48, 50, 49, 50, 50, 50, 51, 50, 52, 50, 53, 50, 54, 50, 55, 50, 56, 50, 57, 51, 48, 51, 49, 51, 50, 51, 51, 51, 52, 51, 53, 51, 54, 51, 55, 51, 56, 51, 57, 52, 48, 52, 49, 52, 50, 52, 51, 52, 52, 52, 53, 52, 54, 52, 55, 52, 56, 52, 57, 53, 48, 53, 49, 53, 50, 53, 51, 53, 52, 53, 53, 53, 54, 53, 55, 53, 56, 53, 57, 54, 48, 54, 49, 54, 50, 54, 51, 54, 52, 54, 53, 54, 54, 54, 55, 54, 56, 54, 57, 55, 48, 55, 49, 55, 50, 55, 51, 55, 52, 55, 53, 55, 54, 55, 55, 55, 56, 55, 57, 56, 48, 56, 49, 56, 50, 56, 51, 56, 52, 56, 53, 56, 54, 56, 55, 56, 56, 56, 57, 57, 48, 57, 49, 57, 50, 57, 51, 57, 52, 57, 53, 57, 54, 57, 55, 57, 56, 57, 57])) (.r 0)), q (.iaS 1 (.r 10) (.r 8)), q (.store 1 (.r 0) (.r 3)), q (.iaS 1 (.r 9) (.r 7)), q (.store 1 (.r 0) (.r 3))])
   (.reg [q (.mv (.v 2)), q (.bin .sub (.r 0) (.c (.i .i64 4))), qv 2 (.mv (.r 0))]))))))
   .skip))
  (.seq (.seq (.reg [q (.mv (.v 2)), qv 17 (.bin .geq (.r 0) (.c (.i .i64 2)))])
  (.cond (.v 17)
   (.seq (.reg [q (.mv (.v 10)), q (.bin .rem (.r 0) (.c (.i .u32 100))), q (.bin .mul (.r 0) (.c (.i .u32 2))), qv 14 (.mv (.r 0))])
   (.seq (.reg [q (.mv (.v 10)), q (.bin .quo (.r 0) (.c (.i .u32 100))), qv 10 (.mv (.r 0))])
   (.seq (.reg [q (.mv (.v 0)), q (.mv (.v 2)), q (.bin .sub (.r 0) (.c (.i .i64 1))), qn (.mv (.v 0)), qn (.mv (.v 2)), qn (.bin .sub (.r 0) (.c (.i .i64 2))), q (.mv (.v 14)), q (.bin .add (.r 0) (.c (.i .u32 1))), q (.idxS (.c (.s [48, 48, 48, 49, 48, 50, 48, 51, 48, 52, 48, 53, 48, 54, 48, 55, 48, 56, 48, 57, 49, 48, 49, 49, 49, 50, 49, 51, 49, 52, 49, 53, 49, 54, 49, 55, 49, 56, 49, 57, 50, 48, 50, 49, 50, 50, 50, 51, 50, 52, 50, 53, 50, 54, 50, 55, 50, 56, 50, 57, 51, 48, 51, 49, 51, 50, 51, 51, 51, 52, 51, 53, 51, 54, 51, 55, 51, 56, 51, 57, 52, 48, 52, 49, 52, 50, 52, 51, 52, 52, 52, 53, 52, 54, 52, 55, 52, 56, 52, 57, 53, 48, 53, 49, 53, 50, 53, 51, 53, 52, 53, 53, 53, 54, 53, 55, 53, 56, 53, 57, 54, 48, 54, 49, 54, 50, 54, 51, 54, 52, 54, 53, 54, 54, 54, 55, 54, 56, 54, 57, 55, 48, 55, 49, 55, 50, 55, 51, 55, 52, 55, 53, 55, 54, 55, 55, 55, 56, 55, 57, 56, 48, 56, 49, 56, 50, 56, 51, 56, 52, 56, 53, 56, 54, 56, 55, 56, 56, 56, 57, 57, 48, 57, 49, 57, 50, 57, 51, 57, 52, 57, 53, 57, 54, 57, 55, 57, 56, 57, 57])) (.r 0)), qn (.mv (.v 14)), qn (.idxS (.c (.s [48, 48, 48, 49, 48, 50, 48, 51, 48, 52, 48, 53, 48, 54, 48, 55, 48, 56, 48, 57, 49, 48, 49, 49, 49, 50, 49, 51, 49, 52, 49, 53, 49, 54, 49, 55, 49, 56, 49, 57, 50, 48, 50, 49, 50, 50, 50, 51, 50, 52, 50, 53, 50, 54, 50, 55, 50, 56, 50, 57, 51, 48, 51, 49, 51, 50, 51, 51, 51, 52, 51, 53, 51, 54, 51, 55, 51, 56, 51, 57, 52, 48, 52, 49, 52, 50, 52, 51, 52, 52, 52, 53, 52, 54, 52, 55, 52, 56, 52, 57, 53, 48, 53, 49, 53, 50, 53, 51, 53, 52, 53, 53, 53, 54, 53, 55, 53, 56, 53, 57, 54, 48, 54, 49, 54, 50, 54, 51, 54, 52, 54, 53, 54, 54, 54, 55, 54, 56, 54, 57, 55, 48, 55, 49, 55, 50, 55, 51, 55, 52, 55, 53, 55, 54, 55, 55, 55, 56, 55, 57, 56, 48, 56, 49, 56, 50, 56, 51, 56, 52, 56, 53, 56, 54, 56, 55, 56, 56, 56, 57, 57, 48, 57, 49, 57, 50, 57, 51, 57, 52, 57, 53, 57, 54, 57, 55, 57, 56, 57, 57])) (.r 0)), q (.iaS 1 (.r 10) (.r 8)), q (.store 1 (.r 0) (.r 3)), q (.iaS 1 (.r 9) (.r 7)), q (.store 1 (.r 0) (.r 3))])
   (.reg [q (.mv (.v 2)), q (.bin .sub (.r 0) (.c (.i .i64 2))), qv 2 (.mv (.r 0))]))))
   .skip))
  (.seq (.reg [q (.mv (.v 2)), qv 18 (.bin .gtr (.r 0) (.c (.i .i64 0)))])
  (.cond (.v 18)
   (.reg [q (.mv (.v 0)), q (.mv (.v 10)), q (.bin .add (.c (.i .u32 48)) (.r 0)), q (.conv .u8 (.r 0)), q (.iaS 1 (.r 3) (.c (.i .i64 0))), q (.store 1 (.r 0) (.r 1))])
   .skip)))))))⟩
/-- internal/strconv.formatBits -/
def lp74_1 : PCode :=
  (.seq (.seq (.reg [q (.mv (.v 1)), q (.mv (.v 10)), qv 17 (.bin .geq (.r 1) (.r 0))])
  (.cond (.v 17)
   .skip
   (.exit 0)))
  (.blk 1 (.seq (.reg [q (.mv (.v 8)), q (.bin .sub (.r 0) (.c (.i .i64 1))), qv 8 (.mv (.r 0))])
  (.seq (.reg [q (.mv (.v 8)), q (.mv (.v 1)), q (.mv (.v 11)), q (.bin .and (.r 1) (.r 0)), q (.idxS (.c (.s [48, 49, 50, 51, 52, 53, 54, 55, 56, 57, 97, 98, 99, 100, 101, 102, 103, 104, 105, 106, 107, 108, 109, 110, 111, 112, 113, 114, 115, 116, 117, 118, 119, 120, 121, 122])) (.r 0)), q (.iaA 65 1 (.v 7) (.r 4)), q (.store 1 (.r 0) (.r 1))])
  (.reg [q (.mv (.v 1)), q (.mv (.v 9)), q (.bin .shr (.r 1) (.r 0)), qv 1 (.mv (.r 0))])))))
def lp74_2 : PCode :=
  (.seq (.seq (.reg [q (.mv (.v 1)), q (.mv (.v 12)), qv 18 (.bin .geq (.r 1) (.r 0))])
  (.cond (.v 18)
   .skip
   (.exit 2)))
  (.blk 3 (.seq (.reg [q (.mv (.v 8)), q (.bin .sub (.r 0) (.c (.i .i64 1))), qv 8 (.mv (.r 0))])
  (.seq (.reg [q (.mv (.v 1)), q (.mv (.v 12)), q (.bin .quo (.r 1) (.r 0)), qv 13 (.mv (.r 0))])
  (.seq (.reg [q (.mv (.v 8)), q (.mv (.v 1)), q (.mv (.v 13)), q (.mv (.v 12)), q (.bin .mul (.r 1) (.r 0)), q (.bin .sub (.r 3) (.r 0)), q (.idxS (.c (.s [48, 49, 50, 51, 52, 53, 54, 55, 56, 57, 97, 98, 99, 100, 101, 102, 103, 104, 105, 106, 107, 108, 109, 110, 111, 112, 113, 114, 115, 116, 117, 118, 119, 120, 121, 122])) (.r 0)), q (.iaA 65 1 (.v 7) (.r 6)), q (.store 1 (.r 0) (.r 1))])
  (.reg [q (.mv (.v 13)), qv 1 (.mv (.r 0))]))))))
def pf74 : PFunc := ⟨[(some 0), (some 1), (some 2), (some 3), (some 4), none, none, none, none, none, none, none, none, none, none, none, none, none, none, none, none], [.v 5, .v 6],
  (.seq (.reg [qv 5 (.mv (.c .nils)), qv 6 (.mv (.c (.s [])))])
  (.seq (.seq (.reg [q (.mv (.v 2)), q (.bin .lss (.r 0) (.c (.i .i64 2))), q (.mv (.r 0)), qg 0 false (.mv (.v 2)), qg 1 false (.bin .eql (.r 0) (.c (.i .i64 10))), q (.pick (.r 2) (.c (.b true)) (.r 0)), q (.mv (.r 0)), qg 0 false (.mv (.v 2)), qg 1 false (.bin .gtr (.r 0) (.c (.i .i64 36))), qv 14 (.pick (.r 2) (.c (.b true)) (.r 0))])
  (.cond (.v 14)
   (.reg [q (.mkifc 9 (.c (.s [115, 116, 114, 99, 111, 110, 118, 58, 32, 105, 108, 108, 101, 103, 97, 108, 32, 65, 112, 112, 101, 110, 100, 73, 110, 116, 47, 70, 111, 114, 109, 97, 116, 73, 110, 116, 32, 98, 97, 115, 101]))), q (.bad)])
   .skip))
  (.seq (.reg [qv 7 (.box (.c (.agg [(.i .u8 0), (.i .u8 0), (.i .u8 0), (.i .u8 0), (.i .u8 0), (.i .u8 0), (.i .u8 0), (.i .u8 0), (.i .u8 0), (.i .u8 0), (.i .u8 0), (.i .u8 0), (.i .u8 0), (.i .u8 0), (.i .u8 0), (.i .u8 0), (.i .u8 0), (.i .u8 0), (.i .u8 0), (.i .u8 0), (.i .u8 0), (.i .u8 0), (.i .u8 0), (.i .u8 0), (.i .u8 0), (.i .u8 0), (.i .u8 0), (.i .u8 0), (.i .u8 0), (.i .u8 0), (.i .u8 0), (.i .u8 0), (.i .u8 0), (.i .u8 0), (.i .u8 0), (.i .u8 0), (.i .u8 0), (.i .u8 0), (.i .u8 0), (.i .u8 0), (.i .u8 0), (.i .u8 0), (.i .u8 0), (.i .u8 0), (.i .u8 0), (.i .u8 0), (.i .u8 0), (.i .u8 0), (.i .u8 0), (.i .u8 0), (.i .u8 0), (.i .u8 0), (.i .u8 0), (.i .u8 0), (.i .u8 0), (.i .u8 0), (.i .u8 0), (.i .u8 0), (.i .u8 0), (.i .u8 0), (.i .u8 0), (.i .u8 0), (.i .u8 0), (.i .u8 0), (.i .u8 0)])))])
  (.seq (.reg [qv 8 (.mv (.c (.i .i64 65)))])
  (.seq (.seq (.reg [qv 15 (.mv (.v 3))])
  (.cond (.v 15)
   (.reg [q (.mv (.v 1)), q (.un .neg (.r 0)), qv 1 (.mv (.r 0))])
   .skip))
  (.seq (.seq (.reg [q (.mv (.v 2)), qv 16 (.call (.c (.f 78 [] [])) [(.r 0)])])
  (.cond (.v 16)
   (.seq (.reg [q (.mv (.v 2)), q (.conv .u64 (.r 0)), q (.call (.c (.f 79 [] [])) [(.r 0)]), q (.conv .u64 (.r 0)), qv 9 (.mv (.r 0))])
   (.seq (.reg [q (.mv (.v 2)), q (.conv .u64 (.r 0)), qv 10 (.mv (.r 0))])
   (.seq (.reg [q (.mv (.v 2)), q (.conv .u64 (.r 0)), q (.bin .sub (.r 0) (.c (.i .u64 1))), qv 11 (.mv (.r 0))])
   (.seq (.blk 0 (.loop lp74_1))
   (.seq (.reg [q (.mv (.v 8)), q (.bin .sub (.r 0) (.c (.i .i64 1))), qv 8 (.mv (.r 0))])
   (.reg [q (.mv (.v 8)), q (.mv (.v 1)), q (.idxS (.c (.s [48, 49, 50, 51, 52, 53, 54, 55, 56, 57, 97, 98, 99, 100, 101, 102, 103, 104, 105, 106, 107, 108, 109, 110, 111, 112, 113, 114, 115, 116, 117, 118, 119, 120, 121, 122])) (.r 0)), q (.iaA 65 1 (.v 7) (.r 2)), q (.store 1 (.r 0) (.r 1))]))))))
   (.seq (.reg [q (.mv (.v 2)), q (.conv .u64 (.r 0)), qv 12 (.mv (.r 0))])
   (.seq (.blk 2 (.loop lp74_2))
   (.seq (.reg [q (.mv (.v 8)), q (.bin .sub (.r 0) (.c (.i .i64 1))), qv 8 (.mv (.r 0))])
   (.reg [q (.mv (.v 8)), q (.mv (.v 1)), q (.idxS (.c (.s [48, 49, 50, 51, 52, 53, 54, 55, 56, 57, 97, 98, 99, 100, 101, 102, 103, 104, 105, 106, 107, 108, 109, 110, 111, 112, 113, 114, 115, 116, 117, 118, 119, 120, 121, 122])) (.r 0)), q (.iaA 65 1 (.v 7) (.r 2)), q (.store 1 (.r 0) (.r 1))]))))))
  (.seq (.seq (.reg [qv 19 (.mv (.v 3))])
  (.cond (.v 19)
   (.seq (.reg [q (.mv (.v 8)), q (.bin .sub (.r 0) (.c (.i .i64 1))), qv 8 (.mv (.r 0))])
   (.reg [q (.mv (.v 8)), q (.iaA 65 1 (.v 7) (.r 0)), q (.store 1 (.r 0) (.c (.i .u8 45)))]))
   .skip))
  (.seq (.seq (.reg [qv 20 (.mv (.v 4))])
  (.cond (.v 20)
   (.seq (.reg [q (.mv (.v 0)), q (.mv (.v 8)), q (.slA 65 1 (.v 7) (some (.r 0)) none none), q (.append 1 1 (.r 2) (.r 0)), qv 5 (.mv (.r 0))])
   .ret)
   .skip))
  (.seq (.reg [q (.mv (.v 8)), q (.slA 65 1 (.v 7) (some (.r 0)) none none), q (.b2s (.r 0)), qv 6 (.mv (.r 0))])
  .ret)))))))))⟩
/-- internal/strconv.log10Pow2 -/
def pf75 : PFunc := ⟨[(some 0), none], [.v 1],
  (.seq (.reg [qv 1 (.mv (.c (.i .i64 0)))])
  (.seq (.reg [q (.mv (.v 0)), q (.bin .mul (.r 0) (.c (.i .i64 78913))), q (.bin .shr (.r 0) (.c (.i .u64 18))), qv 1 (.mv (.r 0))])
  .ret))⟩
/-- math/bits.Len64 -/
def pf76 : PFunc := ⟨[(some 0), none, none, none, none], [.v 1],
  (.seq (.reg [qv 1 (.mv (.c (.i .i64 0)))])
  (.seq (.seq (.reg [q (.mv (.v 0)), qv 2 (.bin .geq (.r 0) (.c (.i .u64 4294967296)))])
  (.cond (.v 2)
   (.seq (.reg [q (.mv (.v 0)), q (.bin .shr (.r 0) (.c (.i .u64 32))), qv 0 (.mv (.r 0))])
   (.reg [qv 1 (.mv (.c (.i .i64 32)))]))
   .skip))
  (.seq (.seq (.reg [q (.mv (.v 0)), qv 3 (.bin .geq (.r 0) (.c (.i .u64 65536)))])
  (.cond (.v 3)
   (.seq (.reg [q (.mv (.v 0)), q (.bin .shr (.r 0) (.c (.i .u64 16))), qv 0 (.mv (.r 0))])
   (.reg [q (.mv (.v 1)), q (.bin .add (.r 0) (.c (.i .i64 16))), qv 1 (.mv (.r 0))]))
   .skip))
  (.seq (.seq (.reg [q (.mv (.v 0)), qv 4 (.bin .geq (.r 0) (.c (.i .u64 256)))])
  (.cond (.v 4)
   (.seq (.reg [q (.mv (.v 0)), q (.bin .shr (.r 0) (.c (.i .u64 8))), qv 0 (.mv (.r 0))])
   (.reg [q (.mv (.v 1)), q (.bin .add (.r 0) (.c (.i .i64 8))), qv 1 (.mv (.r 0))]))
   .skip))
  (.seq (.reg [q (.mv (.v 1)), q (.mv (.v 0)), q (.conv .u8 (.r 0)), q (.idxS (.c (.s [0, 1, 2, 2, 3, 3, 3, 3, 4, 4, 4, 4, 4, 4, 4, 4, 5, 5, 5, 5, 5, 5, 5, 5, 5, 5, 5, 5, 5, 5, 5, 5, 6, 6, 6, 6, 6, 6, 6, 6, 6, 6, 6, 6, 6, 6, 6, 6, 6, 6, 6, 6, 6, 6, 6, 6, 6, 6, 6, 6, 6, 6, 6, 6, 7, 7, 7, 7, 7, 7, 7, 7, 7, 7, 7, 7, 7, 7, 7, 7, 7, 7, 7, 7, 7, 7, 7, 7, 7, 7, 7, 7, 7, 7, 7, 7, 7, 7, 7, 7, 7, 7, 7, 7, 7, 7, 7, 7, 7, 7, 7, 7, 7, 7, 7, 7, 7, 7, 7, 7, 7, 7, 7, 7, 7, 7, 7, 7, 8, 8, 8, 8, 8, 8, 8, 8, 8, 8, 8, 8, 8, 8, 8, 8, 8, 8, 8, 8, 8, 8, 8, 8, 8, 8, 8, 8, 8, 8, 8, 8, 8, 8, 8, 8, 8, 8, 8, 8, 8, 8, 8, 8, 8, 8, 8, 8, 8, 8, 8, 8, 8, 8, 8, 8, 8, 8, 8, 8, 8, 8, 8, 8, 8, 8, 8, 8, 8, 8, 8, 8, 8, 8, 8, 8, 8, 8, 8, 8, 8, 8, 8, 8, 8, 8, 8, 8, 8, 8, 8, 8, 8, 8, 8, 8, 8, 8, 8, 8, 8, 8, 8, 8, 8, 8, 8, 8, 8, 8, 8, 8, 8, 8, 8, 8, 8, 8, 8, 8, 8, 8, 8, 8, 8, 8, 8, 8])) (.r 0)), q (.conv .i64 (.r 0)), q (.bin .add (.r 4) (.r 0)), qv 1 (.mv (.r 0))])
  .ret)))))⟩
/-- internal/strconv.bool2[int] -/
def pf77 : PFunc := ⟨[(some 0), none, none], [.v 1],
  (.seq (.reg [qv 1 (.mv (.c (.i .i64 0)))])
  (.seq (.seq (.reg [qv 2 (.mv (.v 0))])
  (.cond (.v 2)
   (.seq (.reg [qv 1 (.mv (.c (.i .i64 1)))])
   .ret)
   .skip))
  (.seq (.reg [qv 1 (.mv (.c (.i .i64 0)))])
  .ret)))⟩
/-- internal/strconv.isPowerOfTwo -/
def pf78 : PFunc := ⟨[(some 0), none], [.v 1],
  (.seq (.reg [qv 1 (.mv (.c (.b false)))])
  (.seq (.reg [q (.mv (.v 0)), q (.mv (.v 0)), q (.bin .sub (.r 0) (.c (.i .i64 1))), q (.bin .and (.r 2) (.r 0)), q (.bin .eql (.r 0) (.c (.i .i64 0))), qv 1 (.mv (.r 0))])
  .ret))⟩
/-- math/bits.TrailingZeros -/
def pf79 : PFunc := ⟨[(some 0), none], [.v 1],
  (.seq (.reg [qv 1 (.mv (.c (.i .i64 0)))])
  (.seq (.cond (.c (.b false))
   (.seq (.reg [q (.mv (.v 0)), q (.conv .u32 (.r 0)), q (.call (.c (.f 80 [] [])) [(.r 0)]), qv 1 (.mv (.r 0))])
   .ret)
   .skip)
  (.seq (.reg [q (.mv (.v 0)), q (.call (.c (.f 81 [] [])) [(.r 0)]), qv 1 (.mv (.r 0))])
  .ret)))⟩
/-- math/bits.TrailingZeros32 -/
def pf80 : PFunc := ⟨[(some 0), none, none], [.v 1],
  (.seq (.reg [qv 1 (.mv (.c (.i .i64 0)))])
  (.seq (.seq (.reg [q (.mv (.v 0)), qv 2 (.bin .eql (.r 0) (.c (.i .u32 0)))])
  (.cond (.v 2)
   (.seq (.reg [qv 1 (.mv (.c (.i .i64 32)))])
   .ret)
   .skip))
  (.seq (.reg [q (.mv (.v 0)), q (.mv (.v 0)), q (.un .neg (.r 0)), q (.bin .and (.r 2) (.r 0)), q (.bin .mul (.r 0) (.c (.i .u32 125613361))), q (.bin .shr (.r 0) (.c (.i .u64 27))), q (.iaA 32 1 (.c (.p 1 0)) (.r 0)), q (.load none (.r 0)), q (.conv .i64 (.r 0)), qv 1 (.mv (.r 0))])
  .ret)))⟩
/-- math/bits.TrailingZeros64 -/
def pf81 : PFunc := ⟨[(some 0), none, none], [.v 1],
  (.seq (.reg [qv 1 (.mv (.c (.i .i64 0)))])
  (.seq (.seq (.reg [q (.mv (.v 0)), qv 2 (.bin .eql (.r 0) (.c (.i .u64 0)))])
  (.cond (.v 2)
   (.seq (.reg [qv 1 (.mv (.c (.i .i64 64)))])
   .ret)
   .skip))
  (.seq (.reg [q (.mv (.v 0)), q (.mv (.v 0)), q (.un .neg (.r 0)), q (.bin .and (.r 2) (.r 0)), q (.bin .mul (.r 0) (.c (.i .u64 285870213051353865))), q (.bin .shr (.r 0) (.c (.i .u64 58))), q (.iaA 64 1 (.c (.p 2 0)) (.r 0)), q (.load none (.r 0)), q (.conv .i64 (.r 0)), qv 1 (.mv (.r 0))])
  .ret)))⟩
/-- gosem.cut.vars -/
def pf104 : PFunc := ⟨[], [],
  (.seq (.reg [q (.build [(.i .u8 0), (.i .u8 0), (.i .u8 0), (.i .u8 0), (.i .u8 0), (.i .u8 0), (.i .u8 0), (.i .u8 0), (.i .u8 0), (.i .u8 0), (.i .u8 0), (.i .u8 0), (.i .u8 0), (.i .u8 0), (.i .u8 0), (.i .u8 0), (.i .u8 0), (.i .u8 0), (.i .u8 0), (.i .u8 0), (.i .u8 0), (.i .u8 0), (.i .u8 0), (.i .u8 0), (.i .u8 0), (.i .u8 0), (.i .u8 0), (.i .u8 0), (.i .u8 0), (.i .u8 0), (.i .u8 0), (.i .u8 0)] [(0, 1, (.c (.i .u8 0))), (1, 1, (.c (.i .u8 1))), (2, 1, (.c (.i .u8 28))), (3, 1, (.c (.i .u8 2))), (4, 1, (.c (.i .u8 29))), (5, 1, (.c (.i .u8 14))), (6, 1, (.c (.i .u8 24))), (7, 1, (.c (.i .u8 3))), (8, 1, (.c (.i .u8 30))), (9, 1, (.c (.i .u8 22))), (10, 1, (.c (.i .u8 20))), (11, 1, (.c (.i .u8 15))), (12, 1, (.c (.i .u8 25))), (13, 1, (.c (.i .u8 17))), (14, 1, (.c (.i .u8 4))), (15, 1, (.c (.i .u8 8))), (16, 1, (.c (.i .u8 31))), (17, 1, (.c (.i .u8 27))), (18, 1, (.c (.i .u8 13))), (19, 1, (.c (.i .u8 23))), (20, 1, (.c (.i .u8 21))), (21, 1, (.c (.i .u8 19))), (22, 1, (.c (.i .u8 16))), (23, 1, (.c (.i .u8 7))), (24, 1, (.c (.i .u8 26))), (25, 1, (.c (.i .u8 12))), (26, 1, (.c (.i .u8 18))), (27, 1, (.c (.i .u8 6))), (28, 1, (.c (.i .u8 11))), (29, 1, (.c (.i .u8 5))), (30, 1, (.c (.i .u8 10))), (31, 1, (.c (.i .u8 9)))]), q (.store 32 (.c (.p 1 0)) (.r 0))])
  (.seq (.reg [q (.build [(.i .u8 0), (.i .u8 0), (.i .u8 0), (.i .u8 0), (.i .u8 0), (.i .u8 0), (.i .u8 0), (.i .u8 0), (.i .u8 0), (.i .u8 0), (.i .u8 0), (.i .u8 0), (.i .u8 0), (.i .u8 0), (.i .u8 0), (.i .u8 0), (.i .u8 0), (.i .u8 0), (.i .u8 0), (.i .u8 0), (.i .u8 0), (.i .u8 0), (.i .u8 0), (.i .u8 0), (.i .u8 0), (.i .u8 0), (.i .u8 0), (.i .u8 0), (.i .u8 0), (.i .u8 0), (.i .u8 0), (.i .u8 0), (.i .u8 0), (.i .u8 0), (.i .u8 0), (.i .u8 0), (.i .u8 0), (.i .u8 0), (.i .u8 0), (.i .u8 0), (.i .u8 0), (.i .u8 0), (.i .u8 0), (.i .u8 0), (.i .u8 0), (.i .u8 0), (.i .u8 0), (.i .u8 0), (.i .u8 0), (.i .u8 0), (.i .u8 0), (.i .u8 0), (.i .u8 0), (.i .u8 0), (.i .u8 0), (.i .u8 0), (.i .u8 0), (.i .u8 0), (.i .u8 0), (.i .u8 0), (.i .u8 0), (.i .u8 0), (.i .u8 0), (.i .u8 0)] [(0, 1, (.c (.i .u8 0))), (1, 1, (.c (.i .u8 1))), (2, 1, (.c (.i .u8 56))), (3, 1, (.c (.i .u8 2))), (4, 1, (.c (.i .u8 57))), (5, 1, (.c (.i .u8 49))), (6, 1, (.c (.i .u8 28))), (7, 1, (.c (.i .u8 3))), (8, 1, (.c (.i .u8 61))), (9, 1, (.c (.i .u8 58))), (10, 1, (.c (.i .u8 42))), (11, 1, (.c (.i .u8 50))), (12, 1, (.c (.i .u8 38))), (13, 1, (.c (.i .u8 29))), (14, 1, (.c (.i .u8 17))), (15, 1, (.c (.i .u8 4))), (16, 1, (.c (.i .u8 62))), (17, 1, (.c (.i .u8 47))), (18, 1, (.c (.i .u8 59))), (19, 1, (.c (.i .u8 36))), (20, 1, (.c (.i .u8 45))), (21, 1, (.c (.i .u8 43))), (22, 1, (.c (.i .u8 51))), (23, 1, (.c (.i .u8 22))), (24, 1, (.c (.i .u8 53))), (25, 1, (.c (.i .u8 39))), (26, 1, (.c (.i .u8 33))), (27, 1, (.c (.i .u8 30))), (28, 1, (.c (.i .u8 24))), (29, 1, (.c (.i .u8 18))), (30, 1, (.c (.i .u8 12))), (31, 1, (.c (.i .u8 5))), (32, 1, (.c (.i .u8 63))), (33, 1, (.c (.i .u8 55))), (34, 1, (.c (.i .u8 48))), (35, 1, (.c (.i .u8 27))), (36, 1, (.c (.i .u8 60))), (37, 1, (.c (.i .u8 41))), (38, 1, (.c (.i .u8 37))), (39, 1, (.c (.i .u8 16))), (40, 1, (.c (.i .u8 46))), (41, 1, (.c (.i .u8 35))), (42, 1, (.c (.i .u8 44))), (43, 1, (.c (.i .u8 21))), (44, 1, (.c (.i .u8 52))), (45, 1, (.c (.i .u8 32))), (46, 1, (.c (.i .u8 23))), (47, 1, (.c (.i .u8 11))), (48, 1, (.c (.i .u8 54))), (49, 1, (.c (.i .u8 26))), (50, 1, (.c (.i .u8 40))), (51, 1, (.c (.i .u8 15))), (52, 1, (.c (.i .u8 34))), (53, 1, (.c (.i .u8 20))), (54, 1, (.c (.i .u8 31))), (55, 1, (.c (.i .u8 10))), (56, 1, (.c (.i .u8 25))), (57, 1, (.c (.i .u8 14))), (58, 1, (.c (.i .u8 19))), (59, 1, (.c (.i .u8 9))), (60, 1, (.c (.i .u8 13))), (61, 1, (.c (.i .u8 8))), (62, 1, (.c (.i .u8 7))), (63, 1, (.c (.i .u8 6)))]), q (.store 64 (.c (.p 2 0)) (.r 0))])
  (.reg [q (.build [(.i .u64 0), (.i .u64 0), (.i .u64 0), (.i .u64 0), (.i .u64 0), (.i .u64 0), (.i .u64 0), (.i .u64 0), (.i .u64 0), (.i .u64 0), (.i .u64 0), (.i .u64 0), (.i .u64 0), (.i .u64 0), (.i .u64 0), (.i .u64 0), (.i .u64 0), (.i .u64 0), (.i .u64 0), (.i .u64 0)] [(0, 1, (.c (.i .u64 1))), (1, 1, (.c (.i .u64 10))), (2, 1, (.c (.i .u64 100))), (3, 1, (.c (.i .u64 1000))), (4, 1, (.c (.i .u64 10000))), (5, 1, (.c (.i .u64 100000))), (6, 1, (.c (.i .u64 1000000))), (7, 1, (.c (.i .u64 10000000))), (8, 1, (.c (.i .u64 100000000))), (9, 1, (.c (.i .u64 1000000000))), (10, 1, (.c (.i .u64 10000000000))), (11, 1, (.c (.i .u64 100000000000))), (12, 1, (.c (.i .u64 1000000000000))), (13, 1, (.c (.i .u64 10000000000000))), (14, 1, (.c (.i .u64 100000000000000))), (15, 1, (.c (.i .u64 1000000000000000))), (16, 1, (.c (.i .u64 10000000000000000))), (17, 1, (.c (.i .u64 100000000000000000))), (18, 1, (.c (.i .u64 1000000000000000000))), (19, 1, (.c (.i .u64 10000000000000000000)))]), q (.store 20 (.c (.p 0 0)) (.r 0))])))⟩
def pfs : Nat → Option PFunc
  | 2 => some pf2
  | 3 => some pf3
  | 4 => some pf4
  | 5 => some pf5
  | 6 => some pf6
  | 7 => some pf7
  | 8 => some pf8
  | 9 => some pf9
  | 10 => some pf10
  | 11 => some pf11
  | 12 => some pf12
  | 13 => some pf13
  | 14 => some pf14
  | 15 => some pf15
  | 16 => some pf16
  | 17 => some pf17
  | 18 => some pf18
  | 19 => some pf19
  | 20 => some pf20
  | 21 => some pf21
  | 22 => some pf22
  | 23 => some pf23
  | 24 => some pf24
  | 25 => some pf25
  | 26 => some pf26
  | 27 => some pf27
  | 28 => some pf28
  | 29 => some pf29
  | 30 => some pf30
  | 31 => some pf31
  | 32 => some pf32
  | 33 => some pf33
  | 34 => some pf34
  | 35 => some pf35
  | 36 => some pf36
  | 37 => some pf37
  | 38 => some pf38
  | 39 => some pf39
  | 40 => some pf40
  | 41 => some pf41
  | 42 => some pf42
  | 43 => some pf43
  | 44 => some pf44
  | 45 => some pf45
  | 46 => some pf46
  | 47 => some pf47
  | 48 => some pf48
  | 49 => some pf49
  | 50 => some pf50
  | 51 => some pf51
  | 52 => some pf52
  | 53 => some pf53
  | 54 => some pf54
  | 55 => some pf55
  | 56 => some pf56
  | 57 => some pf57
  | 58 => some pf58
  | 59 => some pf59
  | 60 => some pf60
  | 61 => some pf61
  | 62 => some pf62
  | 63 => some pf63
  | 64 => some pf64
  | 65 => some pf65
  | 66 => some pf66
  | 67 => some pf67
  | 68 => some pf68
  | 69 => some pf69
  | 70 => some pf70
  | 71 => some pf71
  | 72 => some pf72
  | 73 => some pf73
  | 74 => some pf74
  | 75 => some pf75
  | 76 => some pf76
  | 77 => some pf77
  | 78 => some pf78
  | 79 => some pf79
  | 80 => some pf80
  | 81 => some pf81
  | 104 => some pf104
  | _ => none
end Go.Av
