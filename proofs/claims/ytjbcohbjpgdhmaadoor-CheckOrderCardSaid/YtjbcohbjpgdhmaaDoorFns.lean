/- The functions, as the first machine has them. Printed by program. -/
import Derived.Test.YtjbcohbjpgdhmaaDoorAvComp
set_option linter.unusedVariables false
set_option linter.unusedSimpArgs false
set_option linter.unusedSectionVars false
namespace Go.Av
/-- gosem.cut.init -/
def af2 : AFunc := ⟨[], [],
  (.reg [⟨.call (.c (.f 1 [] [])) [], none, none, .full⟩])⟩
/-- solenoid/solenoidlaw12.CheckOrder -/
def af3 : AFunc := ⟨[(some 0), (some 1), none, none, none, none, none, none, none, none, none, none, none], [.v 2],
  (.seq (.reg [⟨.mv (.c (.b false)), none, (some 2), .full⟩])
  (.seq (.seq (.reg [⟨.call (.c (.f 4 [] [])) [], none, none, .full⟩,
   ⟨.un .not (.r 0), none, (some 9), .full⟩])
  (.cond (.v 9)
    (.seq (.reg [⟨.mv (.c (.b false)), none, (some 2), .full⟩])
    .ret)
    .skip))
  (.seq (.reg [⟨.mv (.v 1), none, none, .full⟩,
   ⟨.call (.c (.f 5 [] [])) [(.r 0), (.c (.i .i64 5))], none, none, .full⟩,
   ⟨.mv (.r 0), none, (some 1), .full⟩])
  (.seq (.reg [⟨.call (.c (.f 6 [] [])) [(.c .nils), (.c (.i .i64 1)), (.c (.i .i64 1))], none, none, .full⟩,
   ⟨.mv (.r 0), none, (some 3), .full⟩])
  (.seq (.reg [⟨.mv (.v 3), none, none, .full⟩,
   ⟨.buildSl 2 1 [(.i .u8 0)] [(0, 1, (.c (.i .u8 19))), (1, 1, (.c (.i .u8 0)))], none, none, .full⟩,
   ⟨.append 1 1 (.r 1) (.r 0), none, none, .full⟩,
   ⟨.mv (.r 0), none, (some 3), .full⟩])
  (.seq (.seq (.reg [⟨.mv (.v 0), none, (some 10), .full⟩])
  (.cond (.v 10)
    (.reg [⟨.mv (.v 3), none, none, .full⟩,
     ⟨.buildSl 1 1 [(.i .u8 0)] [(0, 1, (.c (.i .u8 22)))], none, none, .full⟩,
     ⟨.append 1 1 (.r 1) (.r 0), none, none, .full⟩,
     ⟨.mv (.r 0), none, (some 3), .full⟩])
    .skip))
  (.seq (.seq (.reg [⟨.mv (.c (.i .i64 0)), none, (some 4), .full⟩])
  (.blk 0 (.loop
    (.seq (.seq (.reg [⟨.mv (.v 4), none, none, .full⟩,
     ⟨.mv (.v 1), none, none, .full⟩,
     ⟨.bin .lss (.r 1) (.r 0), none, (some 11), .full⟩])
    (.cond (.v 11)
      .skip
      (.exit 0)))
    (.seq (.blk 1 (.reg [⟨.mv (.v 3), none, none, .full⟩,
     ⟨.buildSl 3 1 [(.i .u8 0)] [(0, 1, (.c (.i .u8 24))), (1, 1, (.c (.i .u8 0))), (2, 1, (.c (.i .u8 22)))], none, none, .full⟩,
     ⟨.append 1 1 (.r 1) (.r 0), none, none, .full⟩,
     ⟨.mv (.r 0), none, (some 3), .full⟩]))
    (.reg [⟨.mv (.v 4), none, none, .full⟩,
     ⟨.bin .add (.r 0) (.c (.i .i64 1)), none, none, .full⟩,
     ⟨.mv (.r 0), none, (some 4), .full⟩]))))))
  (.seq (.reg [⟨.mv (.v 3), none, none, .full⟩,
   ⟨.buildSl 1 1 [(.i .u8 0)] [(0, 1, (.c (.i .u8 0)))], none, none, .full⟩,
   ⟨.append 1 1 (.r 1) (.r 0), none, none, .full⟩,
   ⟨.mv (.r 0), none, (some 3), .full⟩])
  (.seq (.reg [⟨.mv (.v 3), none, none, .full⟩,
   ⟨.mv (.v 3), none, none, .full⟩,
   ⟨.len 1 (.r 0), none, none, .full⟩,
   ⟨.conv .u8 (.r 0), none, none, .full⟩,
   ⟨.iaS 1 (.r 3) (.c (.i .i64 11)), none, none, .full⟩,
   ⟨.store 1 (.r 0) (.r 1), none, none, .full⟩])
  (.seq (.reg [⟨.mv (.v 3), none, none, .full⟩,
   ⟨.buildSl 3 1 [(.i .u8 0)] [(0, 1, (.c (.i .u8 2))), (1, 1, (.c (.i .u8 9))), (2, 1, (.c (.i .u8 0)))], none, none, .full⟩,
   ⟨.append 1 1 (.r 1) (.r 0), none, none, .full⟩,
   ⟨.mv (.r 0), none, (some 3), .full⟩])
  (.seq (.reg [⟨.buildSl 1 1 [(.i .i64 0)] [(0, 1, (.c (.i .i64 1)))], none, none, .full⟩,
   ⟨.mv (.v 3), none, none, .full⟩,
   ⟨.buildSl 1 1 [.nils] [(0, 1, (.r 0))], none, none, .full⟩,
   ⟨.build [.nils, .nils, .nils] [(1, 1, (.r 2)), (2, 1, (.r 0))], none, none, .full⟩,
   ⟨.box (.c (.agg [.nils, .nils, .nils])), none, (some 5), .full⟩,
   ⟨.store 3 (.r 0) (.r 1), none, none, .full⟩])
  (.seq (.reg [⟨.load (some 3) (.v 5), none, none, .full⟩,
   ⟨.call (.c (.f 7 [] [])) [(.r 0), (.c (.i .i64 0))], none, none, .full⟩,
   ⟨.mv (.r 0), none, none, .full⟩,
   ⟨.ext 0 (.r 0), none, none, .full⟩,
   ⟨.ext 1 (.r 1), none, none, .full⟩,
   ⟨.mv (.r 1), none, none, .full⟩,
   ⟨.mv (.r 1), none, (some 6), .full⟩])
  (.seq (.reg [⟨.load (some 3) (.v 5), none, none, .full⟩,
   ⟨.call (.c (.f 8 [] [])) [(.r 0), (.c (.i .i64 0))], none, none, .full⟩,
   ⟨.mv (.r 0), none, none, .full⟩,
   ⟨.ext 0 (.r 0), none, none, .full⟩,
   ⟨.ext 1 (.r 1), none, none, .full⟩,
   ⟨.mv (.r 1), none, none, .full⟩,
   ⟨.mv (.r 1), none, (some 7), .full⟩])
  (.seq (.reg [⟨.mv (.c (.i .i64 2)), none, (some 8), .full⟩])
  (.seq (.seq (.reg [⟨.mv (.v 0), none, (some 12), .full⟩])
  (.cond (.v 12)
    (.reg [⟨.mv (.c (.i .i64 18)), none, (some 8), .full⟩])
    .skip))
  (.seq (.reg [⟨.mv (.v 6), none, none, .full⟩,
   ⟨.mv (.v 8), none, none, .full⟩,
   ⟨.bin .eql (.r 1) (.r 0), none, none, .full⟩,
   ⟨.mv (.r 0), none, none, .full⟩,
   ⟨.mv (.v 6), some (0, true), none, .full⟩,
   ⟨.mv (.v 7), some (1, true), none, .full⟩,
   ⟨.bin .eql (.r 1) (.r 0), some (2, true), none, .full⟩,
   ⟨.pick (.r 3) (.r 0) (.c (.b false)), none, none, .full⟩,
   ⟨.mv (.r 0), none, (some 2), .full⟩])
  .ret))))))))))))))))⟩
/-- solenoid/solenoidlaw12.known -/
def af4 : AFunc := ⟨[none, none, none, none], [.v 0],
  (.seq (.reg [⟨.mv (.c (.b false)), none, (some 0), .full⟩])
  (.seq (.reg [⟨.buildSl 1 1 [(.i .u8 0)] [(0, 1, (.c (.i .u8 0)))], none, none, .full⟩,
   ⟨.buildSl 1 1 [.nils] [(0, 1, (.r 0))], none, none, .full⟩,
   ⟨.build [.nils, .nils, .nils] [(2, 1, (.r 0))], none, none, .full⟩,
   ⟨.call (.c (.f 7 [] [])) [(.r 0), (.c (.i .i64 0))], none, none, .full⟩,
   ⟨.mv (.r 0), none, none, .full⟩,
   ⟨.ext 0 (.r 0), none, none, .full⟩,
   ⟨.ext 1 (.r 1), none, none, .full⟩,
   ⟨.mv (.r 1), none, (some 1), .full⟩,
   ⟨.mv (.r 1), none, (some 2), .full⟩])
  (.seq (.reg [⟨.buildSl 1 1 [(.i .u8 0)] [(0, 1, (.c (.i .u8 22)))], none, none, .full⟩,
   ⟨.buildSl 1 1 [.nils] [(0, 1, (.r 0))], none, none, .full⟩,
   ⟨.build [.nils, .nils, .nils] [(2, 1, (.r 0))], none, none, .full⟩,
   ⟨.call (.c (.f 7 [] [])) [(.r 0), (.c (.i .i64 0))], none, none, .full⟩,
   ⟨.mv (.r 0), none, none, .full⟩,
   ⟨.ext 0 (.r 0), none, none, .full⟩,
   ⟨.ext 1 (.r 1), none, none, .full⟩,
   ⟨.mv (.r 1), none, none, .full⟩,
   ⟨.mv (.r 1), none, (some 3), .full⟩])
  (.seq (.reg [⟨.mv (.v 1), none, none, .full⟩,
   ⟨.bin .eql (.r 0) (.c (.i .i64 0)), none, none, .full⟩,
   ⟨.mv (.r 0), none, none, .full⟩,
   ⟨.mv (.v 2), some (0, true), none, .full⟩,
   ⟨.bin .eql (.r 0) (.c (.i .i64 0)), some (1, true), none, .full⟩,
   ⟨.pick (.r 2) (.r 0) (.c (.b false)), none, none, .full⟩,
   ⟨.mv (.r 0), none, none, .full⟩,
   ⟨.mv (.v 3), some (0, true), none, .full⟩,
   ⟨.bin .eql (.r 0) (.c (.i .i64 18)), some (1, true), none, .full⟩,
   ⟨.pick (.r 2) (.r 0) (.c (.b false)), none, none, .full⟩,
   ⟨.mv (.r 0), none, (some 0), .full⟩])
  .ret))))⟩
/-- solenoid/solenoidlaw12.within -/
def af5 : AFunc := ⟨[(some 0), (some 1), none, none, none], [.v 2],
  (.seq (.reg [⟨.mv (.c (.i .i64 0)), none, (some 2), .full⟩])
  (.seq (.reg [⟨.mv (.v 0), none, none, .full⟩,
   ⟨.mv (.v 1), none, none, .full⟩,
   ⟨.bin .rem (.r 1) (.r 0), none, none, .full⟩,
   ⟨.mv (.r 0), none, (some 3), .full⟩])
  (.seq (.seq (.reg [⟨.mv (.v 3), none, none, .full⟩,
   ⟨.bin .lss (.r 0) (.c (.i .i64 0)), none, (some 4), .full⟩])
  (.cond (.v 4)
    (.reg [⟨.mv (.v 3), none, none, .full⟩,
     ⟨.mv (.v 1), none, none, .full⟩,
     ⟨.bin .add (.r 1) (.r 0), none, none, .full⟩,
     ⟨.mv (.r 0), none, (some 3), .full⟩])
    .skip))
  (.seq (.reg [⟨.mv (.v 3), none, none, .full⟩,
   ⟨.mv (.r 0), none, (some 2), .full⟩])
  .ret))))⟩
/-- solenoid/solenoidlaw12.pushed -/
def af6 : AFunc := ⟨[(some 0), (some 1), (some 2), none], [.v 3],
  (.seq (.reg [⟨.mv (.c .nils), none, (some 3), .full⟩])
  (.seq (.reg [⟨.mv (.v 0), none, none, .full⟩,
   ⟨.mv (.v 1), none, none, .full⟩,
   ⟨.mv (.v 1), none, none, .full⟩,
   ⟨.mv (.v 2), none, none, .full⟩,
   ⟨.call (.c (.f 10 [] [])) [(.r 1), (.r 0)], none, none, .full⟩,
   ⟨.build [(.i .i64 0), (.i .i64 0), (.i .i64 0), (.i .i64 0), (.i .i64 0)] [(2, 1, (.c (.i .i64 1))), (3, 1, (.r 3)), (4, 1, (.r 0))], none, none, .full⟩,
   ⟨.call (.c (.f 9 [] [])) [(.r 5), (.r 0)], none, none, .full⟩,
   ⟨.mv (.r 0), none, (some 3), .full⟩])
  .ret))⟩
/-- solenoid/check.Func -/
def af7 : AFunc := ⟨[(some 0), (some 1), none, none, none, none, none, none, none, none, none, none, none, none, none, none, none, none, none, none, none, none, none, none, none, none, none], [.v 3, .v 4],
  (.seq (.reg [⟨.box (.v 0), none, (some 2), .full⟩,
   ⟨.mv (.c (.i .i64 0)), none, (some 3), .full⟩,
   ⟨.mv (.c (.i .i64 0)), none, (some 4), .full⟩])
  (.seq (.seq (.reg [⟨.mv (.v 1), none, none, .full⟩,
   ⟨.bin .lss (.r 0) (.c (.i .i64 0)), none, none, .full⟩,
   ⟨.mv (.r 0), none, none, .full⟩,
   ⟨.mv (.v 1), some (0, false), none, .full⟩,
   ⟨.faddr 2 (.v 2), some (1, false), none, .full⟩,
   ⟨.load none (.r 0), some (2, false), none, .full⟩,
   ⟨.len 1 (.r 0), some (3, false), none, .full⟩,
   ⟨.bin .geq (.r 3) (.r 0), some (4, false), none, .full⟩,
   ⟨.pick (.r 5) (.c (.b true)) (.r 0), none, (some 13), .full⟩])
  (.cond (.v 13)
    (.seq (.reg [⟨.mv (.c (.i .i64 0)), none, (some 3), .full⟩,
     ⟨.mv (.c (.i .i64 2)), none, (some 4), .full⟩])
    .ret)
    .skip))
  (.seq (.reg [⟨.faddr 2 (.v 2), none, none, .full⟩,
   ⟨.load none (.r 0), none, none, .full⟩,
   ⟨.mv (.v 1), none, none, .full⟩,
   ⟨.iaS 1 (.r 1) (.r 0), none, none, .full⟩,
   ⟨.load none (.r 0), none, none, .full⟩,
   ⟨.call (.c (.f 11 [] [])) [(.r 0)], none, none, .full⟩,
   ⟨.mv (.r 0), none, none, .full⟩,
   ⟨.ext 0 (.r 0), none, none, .full⟩,
   ⟨.ext 1 (.r 1), none, none, .full⟩,
   ⟨.mv (.r 1), none, (some 5), .full⟩,
   ⟨.mv (.r 1), none, (some 4), .full⟩])
  (.seq (.seq (.reg [⟨.mv (.v 4), none, none, .full⟩,
   ⟨.bin .neq (.r 0) (.c (.i .i64 0)), none, (some 14), .full⟩])
  (.cond (.v 14)
    (.seq (.reg [⟨.mv (.v 4), none, none, .full⟩,
     ⟨.mv (.c (.i .i64 0)), none, (some 3), .full⟩,
     ⟨.mv (.r 1), none, (some 4), .full⟩])
    .ret)
    .skip))
  (.seq (.reg [⟨.load (some 3) (.v 2), none, none, .new⟩,
   ⟨.faddr 0 (.v 2), none, none, .new⟩,
   ⟨.load none (.r 0), none, none, .new⟩,
   ⟨.call (.c (.f 12 [] [])) [(.r 0)], none, none, .new⟩,
   ⟨.build [.nils, .nils, .nils, .nils] [(0, 3, (.r 3)), (3, 1, (.r 0))], none, none, .new⟩,
   ⟨.box (.r 0), none, none, .new⟩,
   ⟨.faddr 2 (.v 2), none, none, .new⟩,
   ⟨.load none (.r 0), none, none, .new⟩,
   ⟨.mv (.v 1), none, none, .new⟩,
   ⟨.iaS 1 (.r 1) (.r 0), none, none, .new⟩,
   ⟨.load none (.r 0), none, none, .new⟩,
   ⟨.len 1 (.r 0), none, none, .new⟩,
   ⟨.mkmap, none, none, .new⟩,
   ⟨.mkmap, none, none, .new⟩,
   ⟨.mkmap, none, none, .new⟩,
   ⟨.build [.nilp, (.i .i64 0), .nilm, .nilm, .nilm, (.i .i64 0)] [(0, 1, (.r 9)), (1, 1, (.r 3)), (2, 1, (.r 2)), (3, 1, (.r 1)), (4, 1, (.r 0)), (5, 1, (.c (.i .i64 0)))], none, none, .full⟩,
   ⟨.box (.r 0), none, none, .full⟩,
   ⟨.mv (.r 0), none, (some 6), .full⟩])
  (.seq (.seq (.reg [⟨.mv (.v 5), none, (some 15), .full⟩,
   ⟨.len 1 (.r 0), none, (some 16), .full⟩,
   ⟨.mv (.c (.i .i64 0)), none, (some 17), .full⟩])
  (.blk 0 (.loop
    (.seq (.reg [⟨.bin .lss (.v 17) (.v 16), none, (some 18), .full⟩])
    (.seq (.cond (.v 18)
      .skip
      (.exit 0))
    (.seq (.blk 1 (.seq (.reg [⟨.iaS 5 (.v 15) (.v 17), none, none, .full⟩,
     ⟨.load (some 5) (.r 0), none, none, .full⟩,
     ⟨.box (.c (.agg [(.i .i64 0), (.i .i64 0), (.i .i64 0), (.i .i64 0), (.i .i64 0)])), none, (some 7), .full⟩,
     ⟨.store 5 (.r 0) (.r 1), none, none, .full⟩])
    (.reg [⟨.mv (.v 6), none, none, .new⟩,
     ⟨.nilck (.r 0), none, none, .new⟩,
     ⟨.faddr 2 (.r 0), none, none, .new⟩,
     ⟨.load none (.r 0), none, none, .new⟩,
     ⟨.faddr 0 (.v 7), none, none, .new⟩,
     ⟨.load none (.r 0), none, none, .new⟩,
     ⟨.load (some 5) (.v 7), none, none, .new⟩,
     ⟨.mupd (.sc 0) (.r 3) (.r 1) (.r 0), none, none, .full⟩])))
    (.reg [⟨.bin .add (.v 17) (.c (.i .i64 1)), none, none, .full⟩,
     ⟨.mv (.r 0), none, (some 17), .full⟩])))))))
  (.seq (.seq (.reg [⟨.mv (.v 5), none, (some 19), .full⟩,
   ⟨.len 1 (.r 0), none, (some 20), .full⟩,
   ⟨.mv (.c (.i .i64 0)), none, (some 21), .full⟩])
  (.blk 2 (.loop
    (.seq (.reg [⟨.bin .lss (.v 21) (.v 20), none, (some 22), .full⟩])
    (.seq (.cond (.v 22)
      .skip
      (.exit 2))
    (.seq (.blk 3 (.seq (.reg [⟨.iaS 5 (.v 19) (.v 21), none, none, .full⟩,
     ⟨.load (some 5) (.r 0), none, none, .full⟩,
     ⟨.box (.c (.agg [(.i .i64 0), (.i .i64 0), (.i .i64 0), (.i .i64 0), (.i .i64 0)])), none, (some 8), .full⟩,
     ⟨.store 5 (.r 0) (.r 1), none, none, .full⟩])
    (.seq (.reg [⟨.mv (.v 6), none, none, .new⟩,
     ⟨.nilck (.r 0), none, none, .new⟩,
     ⟨.faddr 2 (.r 0), none, none, .new⟩,
     ⟨.load none (.r 0), none, none, .new⟩,
     ⟨.faddr 3 (.v 8), none, none, .new⟩,
     ⟨.load none (.r 0), none, none, .new⟩,
     ⟨.look (.sc 0) (.agg [(.i .i64 0), (.i .i64 0), (.i .i64 0), (.i .i64 0), (.i .i64 0)]) true (.r 2) (.r 0), none, none, .new⟩,
     ⟨.mv (.r 0), none, none, .new⟩,
     ⟨.ext 0 (.r 0), none, none, .new⟩,
     ⟨.ext 1 (.r 1), none, none, .new⟩,
     ⟨.box (.c (.agg [(.i .i64 0), (.i .i64 0), (.i .i64 0), (.i .i64 0), (.i .i64 0)])), none, none, .new⟩,
     ⟨.store 5 (.r 0) (.r 2), none, none, .full⟩,
     ⟨.mv (.r 2), none, (some 9), .full⟩])
    (.seq (.reg [⟨.mv (.v 9), none, none, .full⟩,
     ⟨.un .not (.r 0), none, none, .full⟩,
     ⟨.mv (.r 0), none, none, .full⟩,
     ⟨.faddr 2 (.v 8), some (0, true), none, .full⟩,
     ⟨.load none (.r 0), some (1, true), none, .full⟩,
     ⟨.bin .eql (.r 0) (.c (.i .i64 18)), some (2, true), none, .full⟩,
     ⟨.mv (.r 0), some (3, true), none, .full⟩,
     ⟨.faddr 2 (.v 8), some (0, false), none, .full⟩,
     ⟨.load none (.r 0), some (1, false), none, .full⟩,
     ⟨.bin .eql (.r 0) (.c (.i .i64 19)), some (2, false), none, .full⟩,
     ⟨.pick (.r 3) (.c (.b true)) (.r 0), some (7, true), none, .full⟩,
     ⟨.pick (.r 8) (.r 0) (.c (.b false)), none, (some 23), .full⟩])
    (.cond (.v 23)
      (.seq (.reg [⟨.mv (.c (.i .i64 0)), none, (some 3), .full⟩,
       ⟨.mv (.c (.i .i64 17)), none, (some 4), .full⟩])
      .ret)
      .skip)))))
    (.reg [⟨.bin .add (.v 21) (.c (.i .i64 1)), none, none, .full⟩,
     ⟨.mv (.r 0), none, (some 21), .full⟩])))))))
  (.seq (.seq (.reg [⟨.mv (.v 5), none, none, .full⟩,
   ⟨.len 1 (.r 0), none, none, .full⟩,
   ⟨.bin .eql (.r 0) (.c (.i .i64 0)), none, (some 24), .full⟩])
  (.cond (.v 24)
    (.seq (.reg [⟨.mv (.c (.i .i64 0)), none, (some 3), .full⟩,
     ⟨.mv (.c (.i .i64 17)), none, (some 4), .full⟩])
    .ret)
    .skip))
  (.seq (.reg [⟨.mv (.v 6), none, none, .full⟩,
   ⟨.nilck (.r 0), none, none, .full⟩,
   ⟨.faddr 3 (.r 0), none, none, .full⟩,
   ⟨.load none (.r 0), none, none, .full⟩,
   ⟨.mupd (.sc 0) (.r 0) (.c (.i .i64 0)) (.c .nils), none, none, .full⟩])
  (.blk 4 (.loop
    (.blk 5 (.seq (.reg [⟨.mv (.v 6), none, none, .full⟩,
     ⟨.call (.c (.f 13 [] [])) [(.r 0)], none, none, .full⟩,
     ⟨.mv (.r 0), none, none, .full⟩,
     ⟨.ext 0 (.r 0), none, none, .full⟩,
     ⟨.ext 1 (.r 1), none, none, .full⟩,
     ⟨.mv (.r 1), none, (some 10), .full⟩,
     ⟨.mv (.r 1), none, (some 11), .full⟩])
    (.seq (.seq (.reg [⟨.mv (.v 11), none, none, .full⟩,
     ⟨.un .not (.r 0), none, (some 25), .full⟩])
    (.cond (.v 25)
      (.seq (.reg [⟨.mv (.v 6), none, none, .full⟩,
       ⟨.nilck (.r 0), none, none, .full⟩,
       ⟨.faddr 5 (.r 0), none, none, .full⟩,
       ⟨.load none (.r 0), none, none, .full⟩,
       ⟨.mv (.r 0), none, (some 3), .full⟩,
       ⟨.mv (.c (.i .i64 0)), none, (some 4), .full⟩])
      .ret)
      .skip))
    (.seq (.reg [⟨.mv (.v 6), none, none, .full⟩,
     ⟨.mv (.v 10), none, none, .full⟩,
     ⟨.call (.c (.f 14 [] [])) [(.r 1), (.r 0)], none, none, .full⟩,
     ⟨.mv (.r 0), none, (some 12), .full⟩])
    (.seq (.reg [⟨.mv (.v 12), none, none, .full⟩,
     ⟨.bin .neq (.r 0) (.c (.i .i64 0)), none, (some 26), .full⟩])
    (.cond (.v 26)
      (.seq (.reg [⟨.mv (.v 12), none, none, .full⟩,
       ⟨.mv (.c (.i .i64 0)), none, (some 3), .full⟩,
       ⟨.mv (.r 1), none, (some 4), .full⟩])
      .ret)
      .skip)))))))))))))))))⟩
/-- solenoid/solenoidref12.Func -/
def af8 : AFunc := ⟨[(some 0), (some 1), none, none, none, none, none, none, none, none, none, none, none, none, none, none, none, none, none, none, none, none, none, none, none, none, none, none, none, none, none, none, none], [.v 3, .v 4],
  (.seq (.reg [⟨.box (.v 0), none, (some 2), .full⟩,
   ⟨.mv (.c (.i .i64 0)), none, (some 3), .full⟩,
   ⟨.mv (.c (.i .i64 0)), none, (some 4), .full⟩])
  (.seq (.seq (.reg [⟨.mv (.v 1), none, none, .full⟩,
   ⟨.bin .lss (.r 0) (.c (.i .i64 0)), none, none, .full⟩,
   ⟨.mv (.r 0), none, none, .full⟩,
   ⟨.mv (.v 1), some (0, false), none, .full⟩,
   ⟨.faddr 2 (.v 2), some (1, false), none, .full⟩,
   ⟨.load none (.r 0), some (2, false), none, .full⟩,
   ⟨.len 1 (.r 0), some (3, false), none, .full⟩,
   ⟨.bin .geq (.r 3) (.r 0), some (4, false), none, .full⟩,
   ⟨.pick (.r 5) (.c (.b true)) (.r 0), none, (some 20), .full⟩])
  (.cond (.v 20)
    (.seq (.reg [⟨.mv (.c (.i .i64 0)), none, (some 3), .full⟩,
     ⟨.mv (.c (.i .i64 2)), none, (some 4), .full⟩])
    .ret)
    .skip))
  (.seq (.reg [⟨.faddr 2 (.v 2), none, none, .full⟩,
   ⟨.load none (.r 0), none, none, .full⟩,
   ⟨.mv (.v 1), none, none, .full⟩,
   ⟨.iaS 1 (.r 1) (.r 0), none, none, .full⟩,
   ⟨.load none (.r 0), none, none, .full⟩,
   ⟨.call (.c (.f 15 [] [])) [(.r 0)], none, none, .full⟩,
   ⟨.mv (.r 0), none, none, .full⟩,
   ⟨.ext 0 (.r 0), none, none, .full⟩,
   ⟨.ext 1 (.r 1), none, none, .full⟩,
   ⟨.mv (.r 1), none, (some 5), .full⟩,
   ⟨.mv (.r 1), none, (some 6), .full⟩])
  (.seq (.seq (.reg [⟨.mv (.v 6), none, none, .full⟩,
   ⟨.bin .neq (.r 0) (.c (.i .i64 0)), none, (some 21), .full⟩])
  (.cond (.v 21)
    (.seq (.reg [⟨.mv (.v 6), none, none, .full⟩,
     ⟨.mv (.c (.i .i64 0)), none, (some 3), .full⟩,
     ⟨.mv (.r 1), none, (some 4), .full⟩])
    .ret)
    .skip))
  (.seq (.seq (.reg [⟨.mv (.v 5), none, none, .full⟩,
   ⟨.len 1 (.r 0), none, none, .full⟩,
   ⟨.bin .eql (.r 0) (.c (.i .i64 0)), none, (some 22), .full⟩])
  (.cond (.v 22)
    (.seq (.reg [⟨.mv (.c (.i .i64 0)), none, (some 3), .full⟩,
     ⟨.mv (.c (.i .i64 17)), none, (some 4), .full⟩])
    .ret)
    .skip))
  (.seq (.seq (.reg [⟨.mv (.c (.i .i64 0)), none, (some 7), .full⟩])
  (.blk 0 (.loop
    (.seq (.seq (.reg [⟨.mv (.v 7), none, none, .full⟩,
     ⟨.mv (.v 5), none, none, .full⟩,
     ⟨.len 1 (.r 0), none, none, .full⟩,
     ⟨.bin .lss (.r 2) (.r 0), none, (some 23), .full⟩])
    (.cond (.v 23)
      .skip
      (.exit 0)))
    (.seq (.blk 1 (.seq (.reg [⟨.mv (.v 5), none, none, .full⟩,
     ⟨.mv (.v 7), none, none, .full⟩,
     ⟨.iaS 5 (.r 1) (.r 0), none, none, .full⟩,
     ⟨.faddr 2 (.r 0), none, none, .full⟩,
     ⟨.load none (.r 0), none, none, .full⟩,
     ⟨.bin .eql (.r 0) (.c (.i .i64 18)), none, none, .full⟩,
     ⟨.mv (.r 0), none, none, .full⟩,
     ⟨.mv (.v 5), some (0, false), none, .full⟩,
     ⟨.mv (.v 7), some (1, false), none, .full⟩,
     ⟨.iaS 5 (.r 1) (.r 0), some (2, false), none, .full⟩,
     ⟨.faddr 2 (.r 0), some (3, false), none, .full⟩,
     ⟨.load none (.r 0), some (4, false), none, .full⟩,
     ⟨.bin .eql (.r 0) (.c (.i .i64 19)), some (5, false), none, .full⟩,
     ⟨.pick (.r 6) (.c (.b true)) (.r 0), none, none, .full⟩,
     ⟨.mv (.r 0), none, none, .full⟩,
     ⟨.mv (.v 5), some (0, true), none, .full⟩,
     ⟨.mv (.v 5), some (1, true), none, .full⟩,
     ⟨.mv (.v 7), some (2, true), none, .full⟩,
     ⟨.iaS 5 (.r 1) (.r 0), some (3, true), none, .full⟩,
     ⟨.faddr 3 (.r 0), some (4, true), none, .full⟩,
     ⟨.load none (.r 0), some (5, true), none, .full⟩,
     ⟨.call (.c (.f 16 [] [])) [(.r 5), (.r 0)], some (6, true), none, .full⟩,
     ⟨.bin .lss (.r 0) (.c (.i .i64 0)), some (7, true), none, .full⟩,
     ⟨.pick (.r 8) (.r 0) (.c (.b false)), none, (some 24), .full⟩])
    (.cond (.v 24)
      (.seq (.reg [⟨.mv (.c (.i .i64 0)), none, (some 3), .full⟩,
       ⟨.mv (.c (.i .i64 17)), none, (some 4), .full⟩])
      .ret)
      .skip)))
    (.reg [⟨.mv (.v 7), none, none, .full⟩,
     ⟨.bin .add (.r 0) (.c (.i .i64 1)), none, none, .full⟩,
     ⟨.mv (.r 0), none, (some 7), .full⟩]))))))
  (.seq (.reg [⟨.faddr 0 (.v 2), none, none, .full⟩,
   ⟨.load none (.r 0), none, none, .full⟩,
   ⟨.call (.c (.f 17 [] [])) [(.r 0)], none, none, .full⟩,
   ⟨.mv (.r 0), none, (some 8), .full⟩])
  (.seq (.reg [⟨.mv (.v 5), none, none, .full⟩,
   ⟨.len 1 (.r 0), none, none, .full⟩,
   ⟨.mksl 1 1 [(.b false)] (.r 0) (.r 0), none, none, .full⟩,
   ⟨.mv (.r 0), none, (some 9), .full⟩])
  (.seq (.reg [⟨.mv (.v 5), none, none, .full⟩,
   ⟨.len 1 (.r 0), none, none, .full⟩,
   ⟨.mksl 1 1 [(.b false)] (.r 0) (.r 0), none, none, .full⟩,
   ⟨.mv (.r 0), none, (some 10), .full⟩])
  (.seq (.reg [⟨.mv (.v 5), none, none, .full⟩,
   ⟨.len 1 (.r 0), none, none, .full⟩,
   ⟨.mksl 1 24 [.nils] (.r 0) (.r 0), none, none, .full⟩,
   ⟨.mv (.r 0), none, (some 11), .full⟩])
  (.seq (.reg [⟨.mv (.v 9), none, none, .full⟩,
   ⟨.iaS 1 (.r 0) (.c (.i .i64 0)), none, none, .full⟩,
   ⟨.store 1 (.r 0) (.c (.b true)), none, none, .full⟩])
  (.seq (.reg [⟨.mv (.c (.i .i64 0)), none, (some 12), .full⟩])
  (.seq (.seq (.reg [⟨.mv (.c (.i .i64 0)), none, (some 13), .full⟩])
  (.blk 2 (.loop
    (.seq (.seq (.reg [⟨.mv (.v 13), none, none, .full⟩,
     ⟨.mv (.v 5), none, none, .full⟩,
     ⟨.len 1 (.r 0), none, none, .full⟩,
     ⟨.bin .lss (.r 2) (.r 0), none, (some 25), .full⟩])
    (.cond (.v 25)
      .skip
      (.exit 2)))
    (.blk 3 (.seq (.seq (.reg [⟨.mv (.v 9), none, none, .full⟩,
     ⟨.mv (.v 13), none, none, .full⟩,
     ⟨.iaS 1 (.r 1) (.r 0), none, none, .full⟩,
     ⟨.load none (.r 0), none, none, .full⟩,
     ⟨.un .not (.r 0), none, none, .full⟩,
     ⟨.mv (.r 0), none, none, .full⟩,
     ⟨.mv (.v 10), some (0, false), none, .full⟩,
     ⟨.mv (.v 13), some (1, false), none, .full⟩,
     ⟨.iaS 1 (.r 1) (.r 0), some (2, false), none, .full⟩,
     ⟨.load none (.r 0), some (3, false), none, .full⟩,
     ⟨.pick (.r 4) (.c (.b true)) (.r 0), none, (some 26), .full⟩])
    (.cond (.v 26)
      (.seq (.reg [⟨.mv (.v 13), none, none, .full⟩,
       ⟨.bin .add (.r 0) (.c (.i .i64 1)), none, none, .full⟩,
       ⟨.mv (.r 0), none, (some 13), .full⟩])
      (.exit 3))
      .skip))
    (.seq (.reg [⟨.mv (.v 10), none, none, .full⟩,
     ⟨.mv (.v 13), none, none, .full⟩,
     ⟨.iaS 1 (.r 1) (.r 0), none, none, .full⟩,
     ⟨.store 1 (.r 0) (.c (.b true)), none, none, .full⟩])
    (.seq (.reg [⟨.load (some 3) (.v 2), none, none, .new⟩,
     ⟨.mv (.v 8), none, none, .new⟩,
     ⟨.mv (.v 5), none, none, .new⟩,
     ⟨.mv (.v 13), none, none, .new⟩,
     ⟨.iaS 5 (.r 1) (.r 0), none, none, .new⟩,
     ⟨.load (some 5) (.r 0), none, none, .new⟩,
     ⟨.call (.c (.f 18 [] [])) [(.r 5), (.r 4), (.r 0)], none, none, .full⟩,
     ⟨.mv (.r 0), none, (some 14), .full⟩])
    (.seq (.seq (.reg [⟨.mv (.v 14), none, none, .full⟩,
     ⟨.bin .neq (.r 0) (.c (.i .i64 0)), none, (some 27), .full⟩])
    (.cond (.v 27)
      (.seq (.reg [⟨.mv (.v 14), none, none, .full⟩,
       ⟨.mv (.c (.i .i64 0)), none, (some 3), .full⟩,
       ⟨.mv (.r 1), none, (some 4), .full⟩])
      .ret)
      .skip))
    (.seq (.reg [⟨.mv (.v 8), none, none, .new⟩,
     ⟨.mv (.v 5), none, none, .new⟩,
     ⟨.mv (.v 13), none, none, .new⟩,
     ⟨.iaS 5 (.r 1) (.r 0), none, none, .new⟩,
     ⟨.load (some 5) (.r 0), none, none, .new⟩,
     ⟨.mv (.v 11), none, none, .new⟩,
     ⟨.mv (.v 13), none, none, .new⟩,
     ⟨.iaS 1 (.r 1) (.r 0), none, none, .new⟩,
     ⟨.load none (.r 0), none, none, .new⟩,
     ⟨.call (.c (.f 19 [] [])) [(.r 8), (.r 4), (.r 0)], none, none, .full⟩,
     ⟨.mv (.r 0), none, none, .full⟩,
     ⟨.ext 0 (.r 0), none, none, .full⟩,
     ⟨.ext 1 (.r 1), none, none, .full⟩,
     ⟨.mv (.r 1), none, (some 15), .full⟩,
     ⟨.mv (.r 1), none, (some 14), .full⟩])
    (.seq (.seq (.reg [⟨.mv (.v 14), none, none, .full⟩,
     ⟨.bin .neq (.r 0) (.c (.i .i64 0)), none, (some 28), .full⟩])
    (.cond (.v 28)
      (.seq (.reg [⟨.mv (.v 14), none, none, .full⟩,
       ⟨.mv (.c (.i .i64 0)), none, (some 3), .full⟩,
       ⟨.mv (.r 1), none, (some 4), .full⟩])
      .ret)
      .skip))
    (.seq (.reg [⟨.mv (.v 12), none, none, .full⟩,
     ⟨.mv (.v 11), none, none, .full⟩,
     ⟨.mv (.v 13), none, none, .full⟩,
     ⟨.iaS 1 (.r 1) (.r 0), none, none, .full⟩,
     ⟨.load none (.r 0), none, none, .full⟩,
     ⟨.len 1 (.r 0), none, none, .full⟩,
     ⟨.mv (.v 15), none, none, .full⟩,
     ⟨.len 1 (.r 0), none, none, .full⟩,
     ⟨.max [(.r 7), (.r 2), (.r 0)], none, none, .full⟩,
     ⟨.mv (.r 0), none, (some 12), .full⟩])
    (.seq (.reg [⟨.mv (.v 5), none, none, .full⟩,
     ⟨.mv (.v 13), none, none, .full⟩,
     ⟨.iaS 5 (.r 1) (.r 0), none, none, .full⟩,
     ⟨.load (some 5) (.r 0), none, none, .full⟩,
     ⟨.call (.c (.f 20 [] [])) [(.r 0)], none, none, .full⟩,
     ⟨.mv (.r 0), none, (some 16), .full⟩])
    (.seq (.seq (.reg [⟨.mv (.c (.i .i64 0)), none, (some 17), .full⟩])
    (.blk 4 (.loop
      (.seq (.seq (.reg [⟨.mv (.v 17), none, none, .full⟩,
       ⟨.mv (.v 16), none, none, .full⟩,
       ⟨.len 1 (.r 0), none, none, .full⟩,
       ⟨.bin .lss (.r 2) (.r 0), none, (some 29), .full⟩])
      (.cond (.v 29)
        .skip
        (.exit 4)))
      (.seq (.blk 5 (.seq (.reg [⟨.mv (.v 5), none, none, .full⟩,
       ⟨.mv (.v 16), none, none, .full⟩,
       ⟨.mv (.v 17), none, none, .full⟩,
       ⟨.iaS 1 (.r 1) (.r 0), none, none, .full⟩,
       ⟨.load none (.r 0), none, none, .full⟩,
       ⟨.call (.c (.f 16 [] [])) [(.r 4), (.r 0)], none, none, .full⟩,
       ⟨.mv (.r 0), none, (some 18), .full⟩])
      (.seq (.seq (.reg [⟨.mv (.v 18), none, none, .full⟩,
       ⟨.bin .lss (.r 0) (.c (.i .i64 0)), none, (some 30), .full⟩])
      (.cond (.v 30)
        (.seq (.reg [⟨.mv (.c (.i .i64 0)), none, (some 3), .full⟩,
         ⟨.mv (.c (.i .i64 17)), none, (some 4), .full⟩])
        .ret)
        .skip))
      (.seq (.seq (.reg [⟨.mv (.v 9), none, none, .full⟩,
       ⟨.mv (.v 18), none, none, .full⟩,
       ⟨.iaS 1 (.r 1) (.r 0), none, none, .full⟩,
       ⟨.load none (.r 0), none, none, .full⟩,
       ⟨.un .not (.r 0), none, (some 31), .full⟩])
      (.cond (.v 31)
        (.seq (.reg [⟨.mv (.v 9), none, none, .full⟩,
         ⟨.mv (.v 18), none, none, .full⟩,
         ⟨.mv (.v 11), none, none, .full⟩,
         ⟨.mv (.v 18), none, none, .full⟩,
         ⟨.mv (.v 15), none, none, .full⟩,
         ⟨.iaS 1 (.r 4) (.r 3), none, none, .full⟩,
         ⟨.store 1 (.r 0) (.c (.b true)), none, none, .full⟩,
         ⟨.iaS 1 (.r 4) (.r 3), none, none, .full⟩,
         ⟨.store 1 (.r 0) (.r 3), none, none, .full⟩])
        (.exit 5))
        .skip))
      (.seq (.reg [⟨.mv (.v 11), none, none, .full⟩,
       ⟨.mv (.v 18), none, none, .full⟩,
       ⟨.iaS 1 (.r 1) (.r 0), none, none, .full⟩,
       ⟨.load none (.r 0), none, none, .full⟩,
       ⟨.mv (.v 15), none, none, .full⟩,
       ⟨.call (.c (.f 21 [] [])) [(.r 1), (.r 0)], none, none, .full⟩,
       ⟨.mv (.r 0), none, (some 19), .full⟩])
      (.seq (.reg [⟨.mv (.v 19), none, none, .full⟩,
       ⟨.bin .neq (.r 0) (.c (.i .i64 0)), none, (some 32), .full⟩])
      (.cond (.v 32)
        (.seq (.reg [⟨.mv (.v 19), none, none, .full⟩,
         ⟨.mv (.c (.i .i64 0)), none, (some 3), .full⟩,
         ⟨.mv (.r 1), none, (some 4), .full⟩])
        .ret)
        .skip)))))))
      (.reg [⟨.mv (.v 17), none, none, .full⟩,
       ⟨.bin .add (.r 0) (.c (.i .i64 1)), none, none, .full⟩,
       ⟨.mv (.r 0), none, (some 17), .full⟩]))))))
    (.reg [⟨.mv (.c (.i .i64 0)), none, (some 13), .full⟩])))))))))))))))
  (.seq (.reg [⟨.mv (.v 12), none, none, .full⟩,
   ⟨.mv (.r 0), none, (some 3), .full⟩,
   ⟨.mv (.c (.i .i64 0)), none, (some 4), .full⟩])
  .ret))))))))))))))⟩
/-- solenoid/solenoidref10.Bytes -/
def af9 : AFunc := ⟨[(some 0), (some 1), none, none, none, none, none, none], [.v 3],
  (.seq (.reg [⟨.box (.v 1), none, (some 2), .full⟩,
   ⟨.mv (.c .nils), none, (some 3), .full⟩])
  (.seq (.reg [⟨.mv (.v 0), none, none, .full⟩,
   ⟨.faddr 2 (.v 2), none, none, .full⟩,
   ⟨.load none (.r 0), none, none, .full⟩,
   ⟨.conv .u8 (.r 0), none, none, .full⟩,
   ⟨.buildSl 1 1 [(.i .u8 0)] [(0, 1, (.r 0))], none, none, .full⟩,
   ⟨.append 1 1 (.r 4) (.r 0), none, none, .full⟩,
   ⟨.mv (.r 0), none, (some 0), .full⟩])
  (.seq (.reg [⟨.faddr 2 (.v 2), none, none, .full⟩,
   ⟨.load none (.r 0), none, none, .full⟩,
   ⟨.call (.c (.f 22 [] [])) [(.r 0)], none, none, .full⟩,
   ⟨.mv (.r 0), none, (some 4), .full⟩])
  (.seq (.seq (.reg [⟨.mv (.v 4), none, none, .full⟩,
   ⟨.bin .gtr (.r 0) (.c (.i .i64 0)), none, (some 6), .full⟩])
  (.cond (.v 6)
    (.reg [⟨.mv (.v 0), none, none, .full⟩,
     ⟨.faddr 3 (.v 2), none, none, .full⟩,
     ⟨.load none (.r 0), none, none, .full⟩,
     ⟨.conv .u8 (.r 0), none, none, .full⟩,
     ⟨.buildSl 1 1 [(.i .u8 0)] [(0, 1, (.r 0))], none, none, .full⟩,
     ⟨.append 1 1 (.r 4) (.r 0), none, none, .full⟩,
     ⟨.mv (.r 0), none, (some 0), .full⟩])
    .skip))
  (.seq (.seq (.reg [⟨.mv (.c (.i .i64 0)), none, (some 5), .full⟩])
  (.blk 0 (.loop
    (.seq (.seq (.reg [⟨.mv (.v 4), none, none, .full⟩,
     ⟨.bin .eql (.r 0) (.c (.i .i64 9)), none, none, .full⟩,
     ⟨.mv (.r 0), none, none, .full⟩,
     ⟨.mv (.v 5), some (0, true), none, .full⟩,
     ⟨.bin .lss (.r 0) (.c (.i .i64 8)), some (1, true), none, .full⟩,
     ⟨.pick (.r 2) (.r 0) (.c (.b false)), none, (some 7), .full⟩])
    (.cond (.v 7)
      .skip
      (.exit 0)))
    (.seq (.blk 1 (.reg [⟨.mv (.v 0), none, none, .full⟩,
     ⟨.faddr 4 (.v 2), none, none, .full⟩,
     ⟨.load none (.r 0), none, none, .full⟩,
     ⟨.conv .u64 (.r 0), none, none, .full⟩,
     ⟨.mv (.v 5), none, none, .full⟩,
     ⟨.conv .u64 (.r 0), none, none, .full⟩,
     ⟨.bin .mul (.c (.i .u64 8)) (.r 0), none, none, .full⟩,
     ⟨.bin .shr (.r 3) (.r 0), none, none, .full⟩,
     ⟨.conv .u8 (.r 0), none, none, .full⟩,
     ⟨.buildSl 1 1 [(.i .u8 0)] [(0, 1, (.r 0))], none, none, .full⟩,
     ⟨.append 1 1 (.r 9) (.r 0), none, none, .full⟩,
     ⟨.mv (.r 0), none, (some 0), .full⟩]))
    (.reg [⟨.mv (.v 5), none, none, .full⟩,
     ⟨.bin .add (.r 0) (.c (.i .i64 1)), none, none, .full⟩,
     ⟨.mv (.r 0), none, (some 5), .full⟩]))))))
  (.seq (.reg [⟨.mv (.v 0), none, none, .full⟩,
   ⟨.mv (.r 0), none, (some 3), .full⟩])
  .ret))))))⟩
/-- solenoid/solenoidref7.Wrap -/
def af10 : AFunc := ⟨[(some 0), (some 1), none, none, none, none, none, none, none, none, none], [.v 2],
  (.seq (.reg [⟨.mv (.c (.i .i64 0)), none, (some 2), .full⟩])
  (.seq (.seq (.reg [⟨.mv (.v 0), none, (some 3), .full⟩])
  (.blk 0 (.seq (.reg [⟨.bin .eql (.v 3) (.c (.i .i64 1)), none, none, .full⟩,
   ⟨.mv (.r 0), none, (some 4), .full⟩])
  (.cond (.v 4)
    (.seq (.seq (.reg [⟨.mv (.v 1), none, none, .full⟩,
     ⟨.bin .neq (.r 0) (.c (.i .i64 0)), none, (some 5), .full⟩])
    (.cond (.v 5)
      (.seq (.reg [⟨.mv (.c (.i .i64 1)), none, (some 2), .full⟩])
      .ret)
      .skip))
    (.seq (.reg [⟨.mv (.c (.i .i64 0)), none, (some 2), .full⟩])
    .ret))
    (.seq (.reg [⟨.bin .eql (.v 3) (.c (.i .i64 2)), none, none, .full⟩,
     ⟨.mv (.r 0), none, (some 6), .full⟩])
    (.cond (.v 6)
      (.seq (.reg [⟨.mv (.v 1), none, none, .full⟩,
       ⟨.conv .u8 (.r 0), none, none, .full⟩,
       ⟨.conv .i64 (.r 0), none, none, .full⟩,
       ⟨.mv (.r 0), none, (some 2), .full⟩])
      .ret)
      (.seq (.reg [⟨.bin .eql (.v 3) (.c (.i .i64 3)), none, none, .full⟩,
       ⟨.mv (.r 0), none, (some 7), .full⟩])
      (.cond (.v 7)
        (.seq (.reg [⟨.mv (.v 1), none, none, .full⟩,
         ⟨.conv .u16 (.r 0), none, none, .full⟩,
         ⟨.conv .i64 (.r 0), none, none, .full⟩,
         ⟨.mv (.r 0), none, (some 2), .full⟩])
        .ret)
        (.seq (.reg [⟨.bin .eql (.v 3) (.c (.i .i64 4)), none, none, .full⟩,
         ⟨.mv (.r 0), none, (some 8), .full⟩])
        (.cond (.v 8)
          (.seq (.reg [⟨.mv (.v 1), none, none, .full⟩,
           ⟨.conv .i16 (.r 0), none, none, .full⟩,
           ⟨.conv .i64 (.r 0), none, none, .full⟩,
           ⟨.mv (.r 0), none, (some 2), .full⟩])
          .ret)
          (.seq (.reg [⟨.bin .eql (.v 3) (.c (.i .i64 5)), none, none, .full⟩,
           ⟨.mv (.r 0), none, (some 9), .full⟩])
          (.cond (.v 9)
            (.seq (.reg [⟨.mv (.v 1), none, none, .full⟩,
             ⟨.conv .i32 (.r 0), none, none, .full⟩,
             ⟨.conv .i64 (.r 0), none, none, .full⟩,
             ⟨.mv (.r 0), none, (some 2), .full⟩])
            .ret)
            (.seq (.reg [⟨.bin .eql (.v 3) (.c (.i .i64 6)), none, none, .full⟩,
             ⟨.mv (.r 0), none, (some 10), .full⟩])
            (.cond (.v 10)
              (.seq (.reg [⟨.mv (.v 1), none, none, .full⟩,
               ⟨.mv (.r 0), none, (some 2), .full⟩])
              .ret)
              .skip))))))))))))))
  (.seq (.reg [⟨.mv (.c (.i .i64 0)), none, (some 2), .full⟩])
  .ret)))⟩
/-- solenoid/instr.All -/
def af11 : AFunc := ⟨[(some 0), none, none, none, none, none, none, none, none], [.v 1, .v 2],
  (.seq (.reg [⟨.mv (.c .nils), none, (some 1), .full⟩,
   ⟨.mv (.c (.i .i64 0)), none, (some 2), .full⟩])
  (.seq (.reg [⟨.mv (.c .nils), none, (some 3), .full⟩])
  (.seq (.seq (.reg [⟨.mv (.c (.i .i64 0)), none, (some 4), .full⟩])
  (.blk 0 (.loop
    (.seq (.seq (.reg [⟨.mv (.v 4), none, none, .full⟩,
     ⟨.mv (.v 0), none, none, .full⟩,
     ⟨.len 1 (.r 0), none, none, .full⟩,
     ⟨.bin .lss (.r 2) (.r 0), none, (some 7), .full⟩])
    (.cond (.v 7)
      .skip
      (.exit 0)))
    (.blk 1 (.seq (.reg [⟨.mv (.v 0), none, none, .full⟩,
     ⟨.mv (.v 4), none, none, .full⟩,
     ⟨.call (.c (.f 23 [] [])) [(.r 1), (.r 0)], none, none, .full⟩,
     ⟨.mv (.r 0), none, none, .full⟩,
     ⟨.ext 0 (.r 0), none, none, .full⟩,
     ⟨.ext 1 (.r 1), none, none, .full⟩,
     ⟨.box (.c (.agg [(.i .i64 0), (.i .i64 0), (.i .i64 0), (.i .i64 0), (.i .i64 0)])), none, (some 5), .full⟩,
     ⟨.store 5 (.r 0) (.r 2), none, none, .full⟩,
     ⟨.mv (.r 2), none, (some 6), .full⟩])
    (.seq (.seq (.reg [⟨.mv (.v 6), none, none, .full⟩,
     ⟨.bin .neq (.r 0) (.c (.i .i64 0)), none, (some 8), .full⟩])
    (.cond (.v 8)
      (.seq (.reg [⟨.mv (.v 6), none, none, .full⟩,
       ⟨.mv (.c .nils), none, (some 1), .full⟩,
       ⟨.mv (.r 1), none, (some 2), .full⟩])
      .ret)
      .skip))
    (.seq (.reg [⟨.mv (.v 3), none, none, .full⟩,
     ⟨.load (some 5) (.v 5), none, none, .full⟩,
     ⟨.buildSl 1 5 [(.i .i64 0), (.i .i64 0), (.i .i64 0), (.i .i64 0), (.i .i64 0)] [(0, 5, (.r 0))], none, none, .full⟩,
     ⟨.append 5 40 (.r 2) (.r 0), none, none, .full⟩,
     ⟨.mv (.r 0), none, (some 3), .full⟩])
    (.reg [⟨.faddr 1 (.v 5), none, none, .full⟩,
     ⟨.load none (.r 0), none, none, .full⟩,
     ⟨.mv (.r 0), none, (some 4), .full⟩])))))))))
  (.seq (.reg [⟨.mv (.v 3), none, none, .full⟩,
   ⟨.call (.c (.f 24 [] [])) [(.r 0)], none, none, .full⟩,
   ⟨.mv (.r 0), none, (some 1), .full⟩,
   ⟨.mv (.c (.i .i64 0)), none, (some 2), .full⟩])
  .ret))))⟩
/-- solenoid/layout.Cells -/
def af12 : AFunc := ⟨[(some 0), none, none, none, none, none, none, none, none, none, none, none, none, none, none, none, none, none], [.v 1],
  (.seq (.reg [⟨.mv (.c .nils), none, (some 1), .full⟩])
  (.seq (.reg [⟨.mv (.c .nils), none, (some 2), .full⟩])
  (.seq (.seq (.reg [⟨.mv (.v 0), none, (some 7), .full⟩,
   ⟨.len 1 (.r 0), none, (some 8), .full⟩,
   ⟨.mv (.c (.i .i64 0)), none, (some 9), .full⟩])
  (.blk 0 (.loop
    (.seq (.reg [⟨.bin .lss (.v 9) (.v 8), none, (some 10), .full⟩])
    (.seq (.cond (.v 10)
      .skip
      (.exit 0))
    (.seq (.blk 1 (.seq (.reg [⟨.iaS 7 (.v 7) (.v 9), none, none, .full⟩,
     ⟨.load (some 7) (.r 0), none, none, .full⟩,
     ⟨.box (.c (.agg [(.s []), (.i .i64 0), (.i .i64 0), (.i .i64 0), .nils, (.b false), .nils])), none, (some 3), .full⟩,
     ⟨.store 7 (.r 0) (.r 1), none, none, .full⟩])
    (.seq (.reg [⟨.mv (.c .nils), none, (some 4), .full⟩])
    (.seq (.seq (.reg [⟨.faddr 1 (.v 3), none, none, .full⟩,
     ⟨.load (some 4) (.r 0), none, none, .full⟩,
     ⟨.call (.c (.f 25 [] [])) [(.r 0)], none, none, .full⟩,
     ⟨.max [(.r 0), (.c (.i .i64 0))], none, none, .full⟩,
     ⟨.min [(.r 0), (.c (.i .i64 64))], none, (some 11), .full⟩,
     ⟨.mv (.c (.i .i64 0)), none, (some 12), .full⟩])
    (.blk 2 (.loop
      (.seq (.reg [⟨.bin .lss (.v 12) (.v 11), none, (some 13), .full⟩])
      (.seq (.cond (.v 13)
        .skip
        (.exit 2))
      (.seq (.blk 3 (.seq (.reg [⟨.mv (.v 12), none, none, .full⟩,
       ⟨.mv (.r 0), none, (some 5), .full⟩])
      (.seq (.reg [⟨.load (some 7) (.v 3), none, none, .new⟩,
       ⟨.mv (.v 5), none, none, .new⟩,
       ⟨.call (.c (.f 26 [] [])) [(.r 1), (.r 0)], none, none, .new⟩,
       ⟨.faddr 1 (.v 3), none, none, .new⟩,
       ⟨.load (some 4) (.r 0), none, none, .new⟩,
       ⟨.mv (.v 5), none, none, .new⟩,
       ⟨.call (.c (.f 27 [] [])) [(.r 1), (.r 0)], none, none, .new⟩,
       ⟨.faddr 5 (.v 3), none, none, .new⟩,
       ⟨.load none (.r 0), none, none, .new⟩,
       ⟨.build [(.s []), (.i .i64 0), (.b false), (.i .i64 0), (.i .i64 0), (.i .i64 0)] [(0, 1, (.r 6)), (1, 1, (.r 2)), (2, 1, (.r 0))], none, none, .new⟩,
       ⟨.box (.c (.agg [(.s []), (.i .i64 0), (.b false), (.i .i64 0), (.i .i64 0), (.i .i64 0)])), none, (some 6), .new⟩,
       ⟨.store 6 (.r 0) (.r 1), none, none, .full⟩])
      (.seq (.seq (.reg [⟨.mv (.v 5), none, none, .full⟩,
       ⟨.faddr 6 (.v 3), none, none, .full⟩,
       ⟨.load none (.r 0), none, none, .full⟩,
       ⟨.len 1 (.r 0), none, none, .full⟩,
       ⟨.bin .lss (.r 3) (.r 0), none, (some 14), .full⟩])
      (.cond (.v 14)
        (.reg [⟨.faddr 6 (.v 3), none, none, .full⟩,
         ⟨.load none (.r 0), none, none, .full⟩,
         ⟨.mv (.v 5), none, none, .full⟩,
         ⟨.iaS 1 (.r 1) (.r 0), none, none, .full⟩,
         ⟨.load none (.r 0), none, none, .full⟩,
         ⟨.faddr 3 (.v 6), none, none, .full⟩,
         ⟨.store 1 (.r 0) (.r 1), none, none, .full⟩])
        .skip))
      (.seq (.blk 4 (.seq (.reg [⟨.mv (.v 5), none, none, .full⟩,
       ⟨.bin .gtr (.r 0) (.c (.i .i64 0)), none, none, .full⟩,
       ⟨.mv (.r 0), none, (some 15), .full⟩])
      (.cond (.v 15)
        .skip
        (.seq (.reg [⟨.faddr 1 (.v 3), none, none, .full⟩,
         ⟨.faddr 0 (.r 0), none, none, .full⟩,
         ⟨.load none (.r 0), none, none, .full⟩,
         ⟨.bin .eql (.r 0) (.c (.i .i64 7)), none, none, .full⟩,
         ⟨.mv (.r 0), none, (some 16), .full⟩])
        (.cond (.v 16)
          (.reg [⟨.faddr 1 (.v 3), none, none, .full⟩,
           ⟨.faddr 2 (.r 0), none, none, .full⟩,
           ⟨.load none (.r 0), none, none, .full⟩,
           ⟨.faddr 4 (.v 6), none, none, .full⟩,
           ⟨.store 1 (.r 0) (.r 1), none, none, .full⟩])
          (.seq (.reg [⟨.faddr 1 (.v 3), none, none, .full⟩,
           ⟨.faddr 0 (.r 0), none, none, .full⟩,
           ⟨.load none (.r 0), none, none, .full⟩,
           ⟨.bin .eql (.r 0) (.c (.i .i64 9)), none, none, .full⟩,
           ⟨.mv (.r 0), none, none, .full⟩,
           ⟨.faddr 1 (.v 3), some (0, false), none, .full⟩,
           ⟨.faddr 0 (.r 0), some (1, false), none, .full⟩,
           ⟨.load none (.r 0), some (2, false), none, .full⟩,
           ⟨.bin .eql (.r 0) (.c (.i .i64 10)), some (3, false), none, .full⟩,
           ⟨.pick (.r 4) (.c (.b true)) (.r 0), none, none, .full⟩,
           ⟨.mv (.r 0), none, (some 17), .full⟩])
          (.cond (.v 17)
            (.reg [⟨.faddr 1 (.v 3), none, none, .full⟩,
             ⟨.faddr 0 (.r 0), none, none, .full⟩,
             ⟨.load none (.r 0), none, none, .full⟩,
             ⟨.faddr 5 (.v 6), none, none, .full⟩,
             ⟨.store 1 (.r 0) (.r 1), none, none, .full⟩])
            .skip)))))))
      (.reg [⟨.mv (.v 4), none, none, .full⟩,
       ⟨.load (some 6) (.v 6), none, none, .full⟩,
       ⟨.buildSl 1 6 [(.s []), (.i .i64 0), (.b false), (.i .i64 0), (.i .i64 0), (.i .i64 0)] [(0, 6, (.r 0))], none, none, .full⟩,
       ⟨.append 6 56 (.r 2) (.r 0), none, none, .full⟩,
       ⟨.mv (.r 0), none, (some 4), .full⟩]))))))
      (.reg [⟨.bin .add (.v 12) (.c (.i .i64 1)), none, none, .full⟩,
       ⟨.mv (.r 0), none, (some 12), .full⟩])))))))
    (.reg [⟨.mv (.v 2), none, none, .full⟩,
     ⟨.mv (.v 4), none, none, .full⟩,
     ⟨.call (.c (.f 28 [] [])) [(.r 1), (.r 0)], none, none, .full⟩,
     ⟨.mv (.r 0), none, (some 2), .full⟩])))))
    (.reg [⟨.bin .add (.v 9) (.c (.i .i64 1)), none, none, .full⟩,
     ⟨.mv (.r 0), none, (some 9), .full⟩])))))))
  (.seq (.reg [⟨.mv (.v 2), none, none, .full⟩,
   ⟨.call (.c (.f 28 [] [])) [(.c .nils), (.r 0)], none, none, .full⟩,
   ⟨.mv (.r 0), none, (some 1), .full⟩])
  .ret))))⟩
/-- (*solenoid/check.walk).next -/
def af13 : AFunc := ⟨[(some 0), none, none, none, none, none, none, none, none], [.v 1, .v 2],
  (.seq (.reg [⟨.mv (.c (.i .i64 0)), none, (some 1), .full⟩,
   ⟨.mv (.c (.b false)), none, (some 2), .full⟩])
  (.seq (.seq (.reg [⟨.mv (.v 0), none, none, .full⟩,
   ⟨.nilck (.r 0), none, none, .full⟩,
   ⟨.faddr 1 (.r 0), none, none, .full⟩,
   ⟨.load none (.r 0), none, (some 5), .full⟩,
   ⟨.mv (.c (.i .i64 0)), none, (some 6), .full⟩])
  (.blk 0 (.loop
    (.seq (.reg [⟨.bin .lss (.v 6) (.v 5), none, (some 7), .full⟩])
    (.seq (.cond (.v 7)
      .skip
      (.exit 0))
    (.seq (.blk 1 (.seq (.reg [⟨.mv (.v 6), none, none, .full⟩,
     ⟨.mv (.r 0), none, (some 3), .full⟩])
    (.seq (.reg [⟨.mv (.v 0), none, none, .full⟩,
     ⟨.nilck (.r 0), none, none, .full⟩,
     ⟨.faddr 3 (.r 0), none, none, .full⟩,
     ⟨.load none (.r 0), none, none, .full⟩,
     ⟨.mv (.v 3), none, none, .full⟩,
     ⟨.look (.sc 0) .nils true (.r 1) (.r 0), none, none, .full⟩,
     ⟨.mv (.r 0), none, none, .full⟩,
     ⟨.ext 0 (.r 0), none, none, .full⟩,
     ⟨.ext 1 (.r 1), none, none, .full⟩,
     ⟨.mv (.r 1), none, none, .full⟩,
     ⟨.mv (.r 1), none, (some 4), .full⟩])
    (.seq (.reg [⟨.mv (.v 4), none, none, .full⟩,
     ⟨.mv (.r 0), none, none, .full⟩,
     ⟨.mv (.v 0), some (0, true), none, .full⟩,
     ⟨.nilck (.r 0), some (1, true), none, .full⟩,
     ⟨.faddr 4 (.r 0), some (2, true), none, .full⟩,
     ⟨.load none (.r 0), some (3, true), none, .full⟩,
     ⟨.mv (.v 3), some (4, true), none, .full⟩,
     ⟨.look (.sc 0) (.b false) false (.r 1) (.r 0), some (5, true), none, .full⟩,
     ⟨.un .not (.r 0), some (6, true), none, .full⟩,
     ⟨.pick (.r 7) (.r 0) (.c (.b false)), none, (some 8), .full⟩])
    (.cond (.v 8)
      (.seq (.reg [⟨.mv (.v 3), none, none, .full⟩,
       ⟨.mv (.r 0), none, (some 1), .full⟩,
       ⟨.mv (.c (.b true)), none, (some 2), .full⟩])
      .ret)
      .skip)))))
    (.reg [⟨.bin .add (.v 6) (.c (.i .i64 1)), none, none, .full⟩,
     ⟨.mv (.r 0), none, (some 6), .full⟩])))))))
  (.seq (.reg [⟨.mv (.c (.i .i64 0)), none, (some 1), .full⟩,
   ⟨.mv (.c (.b false)), none, (some 2), .full⟩])
  .ret)))⟩
/-- (*solenoid/check.walk).through -/
def af14 : AFunc := ⟨[(some 0), (some 1), none, none, none, none, none, none, none, none, none, none, none, none, none, none, none], [.v 2],
  (.seq (.reg [⟨.mv (.c (.i .i64 0)), none, (some 2), .full⟩])
  (.seq (.reg [⟨.mv (.v 0), none, none, .full⟩,
   ⟨.nilck (.r 0), none, none, .full⟩,
   ⟨.faddr 4 (.r 0), none, none, .full⟩,
   ⟨.load none (.r 0), none, none, .full⟩,
   ⟨.mv (.v 1), none, none, .full⟩,
   ⟨.mupd (.sc 0) (.r 1) (.r 0) (.c (.b true)), none, none, .full⟩])
  (.seq (.reg [⟨.mv (.v 0), none, none, .new⟩,
   ⟨.nilck (.r 0), none, none, .new⟩,
   ⟨.faddr 2 (.r 0), none, none, .new⟩,
   ⟨.load none (.r 0), none, none, .new⟩,
   ⟨.mv (.v 1), none, none, .new⟩,
   ⟨.look (.sc 0) (.agg [(.i .i64 0), (.i .i64 0), (.i .i64 0), (.i .i64 0), (.i .i64 0)]) false (.r 1) (.r 0), none, none, .new⟩,
   ⟨.mv (.v 0), none, none, .new⟩,
   ⟨.nilck (.r 0), none, none, .new⟩,
   ⟨.faddr 3 (.r 0), none, none, .new⟩,
   ⟨.load none (.r 0), none, none, .new⟩,
   ⟨.mv (.v 1), none, none, .new⟩,
   ⟨.look (.sc 0) .nils false (.r 1) (.r 0), none, none, .new⟩,
   ⟨.box (.c (.agg [(.i .i64 0), (.i .i64 0), (.i .i64 0), (.i .i64 0), (.i .i64 0)])), none, (some 3), .new⟩,
   ⟨.store 5 (.r 0) (.r 7), none, none, .last⟩,
   ⟨.mv (.r 2), none, (some 4), .full⟩])
  (.seq (.reg [⟨.mv (.v 0), none, none, .new⟩,
   ⟨.nilck (.r 0), none, none, .new⟩,
   ⟨.faddr 0 (.r 0), none, none, .new⟩,
   ⟨.load none (.r 0), none, none, .new⟩,
   ⟨.load (some 5) (.v 3), none, none, .new⟩,
   ⟨.mv (.v 4), none, none, .new⟩,
   ⟨.call (.c (.f 29 [] [])) [(.r 2), (.r 1), (.r 0)], none, none, .full⟩,
   ⟨.mv (.r 0), none, none, .full⟩,
   ⟨.ext 0 (.r 0), none, none, .full⟩,
   ⟨.ext 1 (.r 1), none, none, .full⟩,
   ⟨.mv (.r 1), none, (some 5), .full⟩,
   ⟨.mv (.r 1), none, (some 6), .full⟩])
  (.seq (.seq (.reg [⟨.mv (.v 6), none, none, .full⟩,
   ⟨.bin .neq (.r 0) (.c (.i .i64 0)), none, (some 10), .full⟩])
  (.cond (.v 10)
    (.seq (.reg [⟨.mv (.v 6), none, none, .full⟩,
     ⟨.mv (.r 0), none, (some 2), .full⟩])
    .ret)
    .skip))
  (.seq (.reg [⟨.mv (.v 0), none, none, .full⟩,
   ⟨.mv (.v 0), none, none, .full⟩,
   ⟨.nilck (.r 0), none, none, .full⟩,
   ⟨.faddr 5 (.r 0), none, none, .full⟩,
   ⟨.load none (.r 0), none, none, .full⟩,
   ⟨.mv (.v 4), none, none, .full⟩,
   ⟨.len 1 (.r 0), none, none, .full⟩,
   ⟨.mv (.v 5), none, none, .full⟩,
   ⟨.len 1 (.r 0), none, none, .full⟩,
   ⟨.max [(.r 4), (.r 2), (.r 0)], none, none, .full⟩,
   ⟨.nilck (.r 9), none, none, .full⟩,
   ⟨.faddr 5 (.r 0), none, none, .full⟩,
   ⟨.store 1 (.r 0) (.r 2), none, none, .full⟩])
  (.seq (.reg [⟨.load (some 5) (.v 3), none, none, .full⟩,
   ⟨.call (.c (.f 30 [] [])) [(.r 0)], none, none, .full⟩,
   ⟨.mv (.r 0), none, (some 7), .full⟩])
  (.seq (.seq (.reg [⟨.mv (.v 7), none, none, .full⟩,
   ⟨.mv (.v 0), none, none, .full⟩,
   ⟨.nilck (.r 0), none, none, .full⟩,
   ⟨.faddr 1 (.r 0), none, none, .full⟩,
   ⟨.load none (.r 0), none, none, .full⟩,
   ⟨.call (.c (.f 31 [] [])) [(.r 4), (.r 0)], none, (some 11), .full⟩])
  (.cond (.v 11)
    (.seq (.reg [⟨.mv (.c (.i .i64 17)), none, (some 2), .full⟩])
    .ret)
    .skip))
  (.seq (.seq (.reg [⟨.mv (.v 7), none, (some 12), .full⟩,
   ⟨.len 1 (.r 0), none, (some 13), .full⟩,
   ⟨.mv (.c (.i .i64 0)), none, (some 14), .full⟩])
  (.blk 0 (.loop
    (.seq (.reg [⟨.bin .lss (.v 14) (.v 13), none, (some 15), .full⟩])
    (.seq (.cond (.v 15)
      .skip
      (.exit 0))
    (.seq (.blk 1 (.seq (.reg [⟨.iaS 1 (.v 12) (.v 14), none, none, .full⟩,
     ⟨.load none (.r 0), none, none, .full⟩,
     ⟨.mv (.r 0), none, (some 8), .full⟩])
    (.seq (.reg [⟨.mv (.v 0), none, none, .full⟩,
     ⟨.mv (.v 8), none, none, .full⟩,
     ⟨.mv (.v 5), none, none, .full⟩,
     ⟨.call (.c (.f 32 [] [])) [(.r 2), (.r 1), (.r 0)], none, none, .full⟩,
     ⟨.mv (.r 0), none, (some 9), .full⟩])
    (.seq (.reg [⟨.mv (.v 9), none, none, .full⟩,
     ⟨.bin .neq (.r 0) (.c (.i .i64 0)), none, (some 16), .full⟩])
    (.cond (.v 16)
      (.seq (.reg [⟨.mv (.v 9), none, none, .full⟩,
       ⟨.mv (.r 0), none, (some 2), .full⟩])
      .ret)
      .skip)))))
    (.reg [⟨.bin .add (.v 14) (.c (.i .i64 1)), none, none, .full⟩,
     ⟨.mv (.r 0), none, (some 14), .full⟩])))))))
  (.seq (.reg [⟨.mv (.c (.i .i64 0)), none, (some 2), .full⟩])
  .ret))))))))))⟩
/-- solenoid/solenoidref10.All -/
def af15 : AFunc := ⟨[(some 0), none, none, none, none, none, none, none, none], [.v 1, .v 2],
  (.seq (.reg [⟨.mv (.c .nils), none, (some 1), .full⟩,
   ⟨.mv (.c (.i .i64 0)), none, (some 2), .full⟩])
  (.seq (.reg [⟨.mv (.c .nils), none, (some 3), .full⟩])
  (.seq (.reg [⟨.mv (.c (.i .i64 0)), none, (some 4), .full⟩])
  (.seq (.blk 0 (.loop
    (.seq (.seq (.reg [⟨.mv (.v 4), none, none, .full⟩,
     ⟨.mv (.v 0), none, none, .full⟩,
     ⟨.len 1 (.r 0), none, none, .full⟩,
     ⟨.bin .lss (.r 2) (.r 0), none, (some 7), .full⟩])
    (.cond (.v 7)
      .skip
      (.exit 0)))
    (.blk 1 (.seq (.reg [⟨.mv (.v 0), none, none, .full⟩,
     ⟨.mv (.v 4), none, none, .full⟩,
     ⟨.call (.c (.f 33 [] [])) [(.r 1), (.r 0)], none, none, .full⟩,
     ⟨.mv (.r 0), none, none, .full⟩,
     ⟨.ext 0 (.r 0), none, none, .full⟩,
     ⟨.ext 1 (.r 1), none, none, .full⟩,
     ⟨.box (.c (.agg [(.i .i64 0), (.i .i64 0), (.i .i64 0), (.i .i64 0), (.i .i64 0)])), none, (some 5), .full⟩,
     ⟨.store 5 (.r 0) (.r 2), none, none, .full⟩,
     ⟨.mv (.r 2), none, (some 6), .full⟩])
    (.seq (.seq (.reg [⟨.mv (.v 6), none, none, .full⟩,
     ⟨.bin .neq (.r 0) (.c (.i .i64 0)), none, (some 8), .full⟩])
    (.cond (.v 8)
      (.seq (.reg [⟨.mv (.v 6), none, none, .full⟩,
       ⟨.mv (.c .nils), none, (some 1), .full⟩,
       ⟨.mv (.r 1), none, (some 2), .full⟩])
      .ret)
      .skip))
    (.seq (.reg [⟨.mv (.v 3), none, none, .full⟩,
     ⟨.load (some 5) (.v 5), none, none, .full⟩,
     ⟨.buildSl 1 5 [(.i .i64 0), (.i .i64 0), (.i .i64 0), (.i .i64 0), (.i .i64 0)] [(0, 5, (.r 0))], none, none, .full⟩,
     ⟨.append 5 40 (.r 2) (.r 0), none, none, .full⟩,
     ⟨.mv (.r 0), none, (some 3), .full⟩])
    (.reg [⟨.faddr 1 (.v 5), none, none, .full⟩,
     ⟨.load none (.r 0), none, none, .full⟩,
     ⟨.mv (.r 0), none, (some 4), .full⟩]))))))))
  (.seq (.reg [⟨.mv (.v 3), none, none, .full⟩,
   ⟨.mv (.r 0), none, (some 1), .full⟩,
   ⟨.mv (.c (.i .i64 0)), none, (some 2), .full⟩])
  .ret)))))⟩
/-- solenoid/solenoidref12.place -/
def af16 : AFunc := ⟨[(some 0), (some 1), none, none, none, none], [.v 2],
  (.seq (.reg [⟨.mv (.c (.i .i64 0)), none, (some 2), .full⟩])
  (.seq (.seq (.reg [⟨.mv (.c (.i .i64 0)), none, (some 3), .full⟩])
  (.blk 0 (.loop
    (.seq (.seq (.reg [⟨.mv (.v 3), none, none, .full⟩,
     ⟨.mv (.v 0), none, none, .full⟩,
     ⟨.len 1 (.r 0), none, none, .full⟩,
     ⟨.bin .lss (.r 2) (.r 0), none, (some 4), .full⟩])
    (.cond (.v 4)
      .skip
      (.exit 0)))
    (.seq (.blk 1 (.seq (.reg [⟨.mv (.v 0), none, none, .full⟩,
     ⟨.mv (.v 3), none, none, .full⟩,
     ⟨.iaS 5 (.r 1) (.r 0), none, none, .full⟩,
     ⟨.faddr 0 (.r 0), none, none, .full⟩,
     ⟨.load none (.r 0), none, none, .full⟩,
     ⟨.mv (.v 1), none, none, .full⟩,
     ⟨.bin .eql (.r 1) (.r 0), none, (some 5), .full⟩])
    (.cond (.v 5)
      (.seq (.reg [⟨.mv (.v 3), none, none, .full⟩,
       ⟨.mv (.r 0), none, (some 2), .full⟩])
      .ret)
      .skip)))
    (.reg [⟨.mv (.v 3), none, none, .full⟩,
     ⟨.bin .add (.r 0) (.c (.i .i64 1)), none, none, .full⟩,
     ⟨.mv (.r 0), none, (some 3), .full⟩]))))))
  (.seq (.reg [⟨.mv (.c (.i .i64 (-1))), none, (some 2), .full⟩])
  .ret)))⟩
/-- solenoid/solenoidref8.Cells -/
def af17 : AFunc := ⟨[(some 0), none, none, none, none], [.v 1],
  (.seq (.reg [⟨.mv (.c .nils), none, (some 1), .full⟩])
  (.seq (.reg [⟨.mv (.c .nils), none, (some 2), .full⟩])
  (.seq (.seq (.reg [⟨.mv (.c (.i .i64 0)), none, (some 3), .full⟩])
  (.blk 0 (.loop
    (.seq (.seq (.reg [⟨.mv (.v 3), none, none, .full⟩,
     ⟨.mv (.v 0), none, none, .full⟩,
     ⟨.len 1 (.r 0), none, none, .full⟩,
     ⟨.bin .lss (.r 2) (.r 0), none, (some 4), .full⟩])
    (.cond (.v 4)
      .skip
      (.exit 0)))
    (.seq (.blk 1 (.reg [⟨.mv (.v 2), none, none, .full⟩,
     ⟨.mv (.v 0), none, none, .full⟩,
     ⟨.mv (.v 3), none, none, .full⟩,
     ⟨.iaS 7 (.r 1) (.r 0), none, none, .full⟩,
     ⟨.load (some 7) (.r 0), none, none, .full⟩,
     ⟨.call (.c (.f 34 [] [])) [(.r 0)], none, none, .full⟩,
     ⟨.append 6 56 (.r 5) (.r 0), none, none, .full⟩,
     ⟨.mv (.r 0), none, (some 2), .full⟩]))
    (.reg [⟨.mv (.v 3), none, none, .full⟩,
     ⟨.bin .add (.r 0) (.c (.i .i64 1)), none, none, .full⟩,
     ⟨.mv (.r 0), none, (some 3), .full⟩]))))))
  (.seq (.reg [⟨.mv (.v 2), none, none, .full⟩,
   ⟨.mv (.r 0), none, (some 1), .full⟩])
  .ret))))⟩
/-- solenoid/solenoidref12.bears -/
def af18 : AFunc := ⟨[(some 0), (some 1), (some 2), none, none, none, none, none, none, none, none, none, none, none, none, none, none, none, none, none, none, none, none, none], [.v 5],
  (.seq (.reg [⟨.box (.v 0), none, (some 3), .full⟩,
   ⟨.box (.v 2), none, (some 4), .full⟩,
   ⟨.mv (.c (.i .i64 0)), none, (some 5), .full⟩])
  (.seq (.seq (.reg [⟨.faddr 2 (.v 4), none, none, .full⟩,
   ⟨.load none (.r 0), none, (some 6), .full⟩])
  (.blk 0 (.seq (.reg [⟨.bin .eql (.v 6) (.c (.i .i64 1)), none, none, .full⟩,
   ⟨.mv (.r 0), none, (some 7), .full⟩])
  (.cond (.v 7)
    (.seq (.seq (.reg [⟨.faddr 3 (.v 4), none, none, .full⟩,
     ⟨.load none (.r 0), none, none, .full⟩,
     ⟨.call (.c (.f 35 [] [])) [(.r 0)], none, none, .full⟩,
     ⟨.un .not (.r 0), none, (some 8), .full⟩])
    (.cond (.v 8)
      (.seq (.reg [⟨.mv (.c (.i .i64 3)), none, (some 5), .full⟩])
      .ret)
      .skip))
    (.seq (.reg [⟨.faddr 3 (.v 4), none, none, .new⟩,
     ⟨.load none (.r 0), none, none, .new⟩,
     ⟨.faddr 4 (.v 4), none, none, .new⟩,
     ⟨.load none (.r 0), none, none, .new⟩,
     ⟨.call (.c (.f 10 [] [])) [(.r 2), (.r 0)], none, none, .new⟩,
     ⟨.faddr 4 (.v 4), none, none, .new⟩,
     ⟨.load none (.r 0), none, none, .new⟩,
     ⟨.bin .neq (.r 2) (.r 0), none, (some 9), .full⟩])
    (.cond (.v 9)
      (.seq (.reg [⟨.mv (.c (.i .i64 11)), none, (some 5), .full⟩])
      .ret)
      .skip)))
    (.seq (.reg [⟨.bin .eql (.v 6) (.c (.i .i64 2)), none, none, .full⟩,
     ⟨.mv (.r 0), none, (some 10), .full⟩])
    (.cond (.v 10)
      (.seq (.reg [⟨.faddr 3 (.v 4), none, none, .full⟩,
       ⟨.load none (.r 0), none, none, .full⟩,
       ⟨.faddr 1 (.v 3), none, none, .full⟩,
       ⟨.load none (.r 0), none, none, .full⟩,
       ⟨.len 1 (.r 0), none, none, .full⟩,
       ⟨.bin .geq (.r 3) (.r 0), none, (some 11), .full⟩])
      (.cond (.v 11)
        (.seq (.reg [⟨.mv (.c (.i .i64 2)), none, (some 5), .full⟩])
        .ret)
        .skip))
      (.seq (.seq (.reg [⟨.bin .eql (.v 6) (.c (.i .i64 3)), none, none, .full⟩,
       ⟨.mv (.r 0), none, (some 12), .full⟩])
      (.cond (.v 12)
        .skip
        (.reg [⟨.bin .eql (.v 6) (.c (.i .i64 4)), none, none, .full⟩,
         ⟨.mv (.r 0), none, (some 12), .full⟩])))
      (.cond (.v 12)
        (.seq (.reg [⟨.faddr 3 (.v 4), none, none, .full⟩,
         ⟨.load none (.r 0), none, none, .full⟩,
         ⟨.mv (.v 1), none, none, .full⟩,
         ⟨.len 1 (.r 0), none, none, .full⟩,
         ⟨.bin .geq (.r 2) (.r 0), none, (some 13), .full⟩])
        (.cond (.v 13)
          (.seq (.reg [⟨.mv (.c (.i .i64 12)), none, (some 5), .full⟩])
          .ret)
          .skip))
        (.seq (.seq (.reg [⟨.bin .eql (.v 6) (.c (.i .i64 5)), none, none, .full⟩,
         ⟨.mv (.r 0), none, (some 14), .full⟩])
        (.cond (.v 14)
          .skip
          (.reg [⟨.bin .eql (.v 6) (.c (.i .i64 6)), none, none, .full⟩,
           ⟨.mv (.r 0), none, (some 14), .full⟩])))
        (.cond (.v 14)
          (.seq (.reg [⟨.faddr 3 (.v 4), none, none, .full⟩,
           ⟨.load none (.r 0), none, none, .full⟩,
           ⟨.mv (.v 1), none, none, .full⟩,
           ⟨.len 1 (.r 0), none, none, .full⟩,
           ⟨.bin .geq (.r 2) (.r 0), none, none, .full⟩,
           ⟨.mv (.r 0), none, none, .full⟩,
           ⟨.mv (.v 1), some (0, false), none, .full⟩,
           ⟨.faddr 3 (.v 4), some (1, false), none, .full⟩,
           ⟨.load none (.r 0), some (2, false), none, .full⟩,
           ⟨.iaS 6 (.r 2) (.r 0), some (3, false), none, .full⟩,
           ⟨.faddr 4 (.r 0), some (4, false), none, .full⟩,
           ⟨.load none (.r 0), some (5, false), none, .full⟩,
           ⟨.bin .eql (.r 0) (.c (.i .i64 0)), some (6, false), none, .full⟩,
           ⟨.pick (.r 7) (.c (.b true)) (.r 0), none, (some 15), .full⟩])
          (.cond (.v 15)
            (.seq (.reg [⟨.mv (.c (.i .i64 12)), none, (some 5), .full⟩])
            .ret)
            .skip))
          (.seq (.reg [⟨.bin .eql (.v 6) (.c (.i .i64 20)), none, none, .full⟩,
           ⟨.mv (.r 0), none, (some 16), .full⟩])
          (.cond (.v 16)
            (.seq (.reg [⟨.faddr 3 (.v 4), none, none, .full⟩,
             ⟨.load none (.r 0), none, none, .full⟩,
             ⟨.faddr 2 (.v 3), none, none, .full⟩,
             ⟨.load none (.r 0), none, none, .full⟩,
             ⟨.len 1 (.r 0), none, none, .full⟩,
             ⟨.bin .geq (.r 3) (.r 0), none, (some 17), .full⟩])
            (.cond (.v 17)
              (.seq (.reg [⟨.mv (.c (.i .i64 20)), none, (some 5), .full⟩])
              .ret)
              .skip))
            (.seq (.reg [⟨.bin .eql (.v 6) (.c (.i .i64 23)), none, none, .full⟩,
             ⟨.mv (.r 0), none, (some 18), .full⟩])
            (.cond (.v 18)
              (.seq (.reg [⟨.faddr 3 (.v 4), none, none, .full⟩,
               ⟨.load none (.r 0), none, none, .full⟩,
               ⟨.call (.c (.f 35 [] [])) [(.r 0)], none, none, .full⟩,
               ⟨.un .not (.r 0), none, (some 19), .full⟩])
              (.cond (.v 19)
                (.seq (.reg [⟨.mv (.c (.i .i64 3)), none, (some 5), .full⟩])
                .ret)
                .skip))
              (.seq (.seq (.reg [⟨.bin .eql (.v 6) (.c (.i .i64 24)), none, none, .full⟩,
               ⟨.mv (.r 0), none, (some 20), .full⟩])
              (.cond (.v 20)
                .skip
                (.reg [⟨.bin .eql (.v 6) (.c (.i .i64 25)), none, none, .full⟩,
                 ⟨.mv (.r 0), none, (some 20), .full⟩])))
              (.cond (.v 20)
                (.seq (.reg [⟨.faddr 3 (.v 4), none, none, .full⟩,
                 ⟨.load none (.r 0), none, none, .full⟩,
                 ⟨.bin .geq (.r 0) (.c (.i .i64 4)), none, (some 21), .full⟩])
                (.cond (.v 21)
                  (.seq (.reg [⟨.mv (.c (.i .i64 1)), none, (some 5), .full⟩])
                  .ret)
                  .skip))
                (.seq (.reg [⟨.bin .eql (.v 6) (.c (.i .i64 27)), none, none, .full⟩,
                 ⟨.mv (.r 0), none, (some 22), .full⟩])
                (.cond (.v 22)
                  (.seq (.reg [⟨.faddr 3 (.v 4), none, none, .full⟩,
                   ⟨.load none (.r 0), none, none, .full⟩,
                   ⟨.mv (.v 1), none, none, .full⟩,
                   ⟨.len 1 (.r 0), none, none, .full⟩,
                   ⟨.bin .geq (.r 2) (.r 0), none, none, .full⟩,
                   ⟨.mv (.r 0), none, none, .full⟩,
                   ⟨.mv (.v 1), some (0, false), none, .full⟩,
                   ⟨.faddr 3 (.v 4), some (1, false), none, .full⟩,
                   ⟨.load none (.r 0), some (2, false), none, .full⟩,
                   ⟨.iaS 6 (.r 2) (.r 0), some (3, false), none, .full⟩,
                   ⟨.faddr 5 (.r 0), some (4, false), none, .full⟩,
                   ⟨.load none (.r 0), some (5, false), none, .full⟩,
                   ⟨.bin .eql (.r 0) (.c (.i .i64 0)), some (6, false), none, .full⟩,
                   ⟨.pick (.r 7) (.c (.b true)) (.r 0), none, (some 23), .full⟩])
                  (.cond (.v 23)
                    (.seq (.reg [⟨.mv (.c (.i .i64 12)), none, (some 5), .full⟩])
                    .ret)
                    .skip))
                  .skip))))))))))))))))))
  (.seq (.reg [⟨.mv (.c (.i .i64 0)), none, (some 5), .full⟩])
  .ret)))⟩
/-- solenoid/solenoidref12.does -/
def af19 : AFunc := ⟨[(some 0), (some 1), (some 2), none, none, none, none, none, none, none, none, none, none, none, none, none, none, none, none, none, none, none, none, none, none, none, none, none, none, none], [.v 4, .v 5],
  (.seq (.reg [⟨.box (.v 1), none, (some 3), .full⟩,
   ⟨.mv (.c .nils), none, (some 4), .full⟩,
   ⟨.mv (.c (.i .i64 0)), none, (some 5), .full⟩])
  (.seq (.reg [⟨.faddr 2 (.v 3), none, none, .full⟩,
   ⟨.load none (.r 0), none, none, .full⟩,
   ⟨.call (.c (.f 36 [] [])) [(.r 0)], none, none, .full⟩,
   ⟨.mv (.r 0), none, (some 6), .full⟩])
  (.seq (.seq (.reg [⟨.mv (.v 2), none, none, .full⟩,
   ⟨.len 1 (.r 0), none, none, .full⟩,
   ⟨.mv (.v 6), none, none, .full⟩,
   ⟨.bin .lss (.r 1) (.r 0), none, (some 13), .full⟩])
  (.cond (.v 13)
    (.seq (.reg [⟨.mv (.c .nils), none, (some 4), .full⟩,
     ⟨.mv (.c (.i .i64 18)), none, (some 5), .full⟩])
    .ret)
    .skip))
  (.seq (.reg [⟨.mv (.c (.i .i64 0)), none, (some 7), .full⟩,
   ⟨.mv (.c (.i .i64 0)), none, (some 8), .full⟩])
  (.seq (.seq (.reg [⟨.mv (.v 6), none, none, .full⟩,
   ⟨.bin .gtr (.r 0) (.c (.i .i64 0)), none, (some 14), .full⟩])
  (.cond (.v 14)
    (.reg [⟨.mv (.v 2), none, none, .full⟩,
     ⟨.mv (.v 2), none, none, .full⟩,
     ⟨.len 1 (.r 0), none, none, .full⟩,
     ⟨.bin .sub (.r 0) (.c (.i .i64 1)), none, none, .full⟩,
     ⟨.iaS 1 (.r 3) (.r 0), none, none, .full⟩,
     ⟨.load none (.r 0), none, none, .full⟩,
     ⟨.mv (.r 0), none, (some 8), .full⟩])
    .skip))
  (.seq (.seq (.reg [⟨.mv (.v 6), none, none, .full⟩,
   ⟨.bin .eql (.r 0) (.c (.i .i64 2)), none, (some 15), .full⟩])
  (.cond (.v 15)
    (.reg [⟨.mv (.v 2), none, none, .full⟩,
     ⟨.mv (.v 2), none, none, .full⟩,
     ⟨.len 1 (.r 0), none, none, .full⟩,
     ⟨.bin .sub (.r 0) (.c (.i .i64 2)), none, none, .full⟩,
     ⟨.iaS 1 (.r 3) (.r 0), none, none, .full⟩,
     ⟨.load none (.r 0), none, none, .full⟩,
     ⟨.mv (.r 0), none, (some 7), .full⟩])
    .skip))
  (.seq (.reg [⟨.buildSl 0 1 [(.i .i64 0)] [], none, none, .full⟩,
   ⟨.mv (.v 2), none, none, .full⟩,
   ⟨.mv (.v 2), none, none, .full⟩,
   ⟨.len 1 (.r 0), none, none, .full⟩,
   ⟨.mv (.v 6), none, none, .full⟩,
   ⟨.bin .sub (.r 1) (.r 0), none, none, .full⟩,
   ⟨.slSl 1 (.r 4) none (some (.r 0)) none, none, none, .full⟩,
   ⟨.append 1 8 (.r 6) (.r 0), none, none, .full⟩,
   ⟨.mv (.r 0), none, (some 9), .full⟩])
  (.seq (.reg [⟨.mv (.c (.b true)), none, (some 10), .full⟩])
  (.seq (.seq (.reg [⟨.faddr 2 (.v 3), none, none, .full⟩,
   ⟨.load none (.r 0), none, (some 16), .full⟩])
  (.blk 0 (.seq (.seq (.reg [⟨.bin .eql (.v 16) (.c (.i .i64 1)), none, none, .full⟩,
   ⟨.mv (.r 0), none, (some 17), .full⟩])
  (.cond (.v 17)
    .skip
    (.seq (.reg [⟨.bin .eql (.v 16) (.c (.i .i64 26)), none, none, .full⟩,
     ⟨.mv (.r 0), none, (some 17), .full⟩])
    (.cond (.v 17)
      .skip
      (.seq (.reg [⟨.bin .eql (.v 16) (.c (.i .i64 2)), none, none, .full⟩,
       ⟨.mv (.r 0), none, (some 17), .full⟩])
      (.cond (.v 17)
        .skip
        (.seq (.reg [⟨.bin .eql (.v 16) (.c (.i .i64 24)), none, none, .full⟩,
         ⟨.mv (.r 0), none, (some 17), .full⟩])
        (.cond (.v 17)
          .skip
          (.reg [⟨.bin .eql (.v 16) (.c (.i .i64 3)), none, none, .full⟩,
           ⟨.mv (.r 0), none, (some 17), .full⟩])))))))))
  (.cond (.v 17)
    (.reg [⟨.mv (.v 9), none, none, .full⟩,
     ⟨.mv (.v 0), none, none, .full⟩,
     ⟨.load (some 5) (.v 3), none, none, .full⟩,
     ⟨.call (.c (.f 37 [] [])) [(.r 1), (.r 0)], none, none, .full⟩,
     ⟨.buildSl 1 1 [(.i .i64 0)] [(0, 1, (.r 0))], none, none, .full⟩,
     ⟨.append 1 8 (.r 4) (.r 0), none, none, .full⟩,
     ⟨.mv (.r 0), none, (some 9), .full⟩])
    (.seq (.reg [⟨.bin .eql (.v 16) (.c (.i .i64 4)), none, none, .full⟩,
     ⟨.mv (.r 0), none, (some 18), .full⟩])
    (.cond (.v 18)
      (.reg [⟨.mv (.v 8), none, none, .full⟩,
       ⟨.mv (.v 0), none, none, .full⟩,
       ⟨.faddr 3 (.v 3), none, none, .full⟩,
       ⟨.load none (.r 0), none, none, .full⟩,
       ⟨.iaS 6 (.r 2) (.r 0), none, none, .full⟩,
       ⟨.faddr 1 (.r 0), none, none, .full⟩,
       ⟨.load none (.r 0), none, none, .full⟩,
       ⟨.bin .eql (.r 6) (.r 0), none, none, .full⟩,
       ⟨.mv (.r 0), none, (some 10), .full⟩])
      (.seq (.reg [⟨.bin .eql (.v 16) (.c (.i .i64 5)), none, none, .full⟩,
       ⟨.mv (.r 0), none, (some 19), .full⟩])
      (.cond (.v 19)
        (.seq (.reg [⟨.mv (.v 8), none, none, .full⟩,
         ⟨.bin .eql (.r 0) (.c (.i .i64 5)), none, none, .full⟩,
         ⟨.mv (.r 0), none, (some 10), .full⟩])
        (.reg [⟨.mv (.v 9), none, none, .full⟩,
         ⟨.mv (.v 0), none, none, .full⟩,
         ⟨.faddr 3 (.v 3), none, none, .full⟩,
         ⟨.load none (.r 0), none, none, .full⟩,
         ⟨.iaS 6 (.r 2) (.r 0), none, none, .full⟩,
         ⟨.faddr 1 (.r 0), none, none, .full⟩,
         ⟨.load none (.r 0), none, none, .full⟩,
         ⟨.buildSl 1 1 [(.i .i64 0)] [(0, 1, (.r 0))], none, none, .full⟩,
         ⟨.append 1 8 (.r 7) (.r 0), none, none, .full⟩,
         ⟨.mv (.r 0), none, (some 9), .full⟩]))
        (.seq (.reg [⟨.bin .eql (.v 16) (.c (.i .i64 6)), none, none, .full⟩,
         ⟨.mv (.r 0), none, (some 20), .full⟩])
        (.cond (.v 20)
          (.reg [⟨.mv (.v 8), none, none, .full⟩,
           ⟨.mv (.v 0), none, none, .full⟩,
           ⟨.faddr 3 (.v 3), none, none, .full⟩,
           ⟨.load none (.r 0), none, none, .full⟩,
           ⟨.iaS 6 (.r 2) (.r 0), none, none, .full⟩,
           ⟨.faddr 1 (.r 0), none, none, .full⟩,
           ⟨.load none (.r 0), none, none, .full⟩,
           ⟨.bin .eql (.r 6) (.r 0), none, none, .full⟩,
           ⟨.mv (.r 0), none, none, .full⟩,
           ⟨.mv (.v 7), some (0, true), none, .full⟩,
           ⟨.bin .eql (.r 0) (.c (.i .i64 5)), some (1, true), none, .full⟩,
           ⟨.pick (.r 2) (.r 0) (.c (.b false)), none, none, .full⟩,
           ⟨.mv (.r 0), none, (some 10), .full⟩])
          (.seq (.reg [⟨.bin .eql (.v 16) (.c (.i .i64 15)), none, none, .full⟩,
           ⟨.mv (.r 0), none, (some 21), .full⟩])
          (.cond (.v 21)
            (.seq (.reg [⟨.mv (.v 8), none, none, .full⟩,
             ⟨.bin .eql (.r 0) (.c (.i .i64 1)), none, none, .full⟩,
             ⟨.mv (.r 0), none, none, .full⟩,
             ⟨.mv (.v 8), some (0, false), none, .full⟩,
             ⟨.bin .eql (.r 0) (.c (.i .i64 2)), some (1, false), none, .full⟩,
             ⟨.pick (.r 2) (.c (.b true)) (.r 0), none, none, .full⟩,
             ⟨.mv (.r 0), none, none, .full⟩,
             ⟨.mv (.v 8), some (0, false), none, .full⟩,
             ⟨.bin .eql (.r 0) (.c (.i .i64 3)), some (1, false), none, .full⟩,
             ⟨.pick (.r 2) (.c (.b true)) (.r 0), none, none, .full⟩,
             ⟨.mv (.r 0), none, (some 10), .full⟩])
            (.reg [⟨.mv (.v 9), none, none, .full⟩,
             ⟨.mv (.v 8), none, none, .full⟩,
             ⟨.buildSl 1 1 [(.i .i64 0)] [(0, 1, (.r 0))], none, none, .full⟩,
             ⟨.append 1 8 (.r 2) (.r 0), none, none, .full⟩,
             ⟨.mv (.r 0), none, (some 9), .full⟩]))
            (.seq (.reg [⟨.bin .eql (.v 16) (.c (.i .i64 19)), none, none, .full⟩,
             ⟨.mv (.r 0), none, (some 22), .full⟩])
            (.cond (.v 22)
              (.reg [⟨.mv (.v 8), none, none, .full⟩,
               ⟨.bin .eql (.r 0) (.c (.i .i64 1)), none, none, .full⟩,
               ⟨.mv (.r 0), none, (some 10), .full⟩])
              (.seq (.reg [⟨.bin .eql (.v 16) (.c (.i .i64 21)), none, none, .full⟩,
               ⟨.mv (.r 0), none, (some 23), .full⟩])
              (.cond (.v 23)
                (.reg [⟨.mv (.v 9), none, none, .full⟩,
                 ⟨.mv (.v 8), none, none, .full⟩,
                 ⟨.mv (.v 8), none, none, .full⟩,
                 ⟨.buildSl 2 1 [(.i .i64 0)] [(0, 1, (.r 1)), (1, 1, (.r 0))], none, none, .full⟩,
                 ⟨.append 1 8 (.r 3) (.r 0), none, none, .full⟩,
                 ⟨.mv (.r 0), none, (some 9), .full⟩])
                (.seq (.reg [⟨.bin .eql (.v 16) (.c (.i .i64 23)), none, none, .full⟩,
                 ⟨.mv (.r 0), none, (some 24), .full⟩])
                (.cond (.v 24)
                  (.reg [⟨.mv (.v 9), none, none, .full⟩,
                   ⟨.faddr 3 (.v 3), none, none, .full⟩,
                   ⟨.load none (.r 0), none, none, .full⟩,
                   ⟨.buildSl 1 1 [(.i .i64 0)] [(0, 1, (.r 0))], none, none, .full⟩,
                   ⟨.append 1 8 (.r 3) (.r 0), none, none, .full⟩,
                   ⟨.mv (.r 0), none, (some 9), .full⟩])
                  (.seq (.reg [⟨.bin .eql (.v 16) (.c (.i .i64 25)), none, none, .full⟩,
                   ⟨.mv (.r 0), none, (some 25), .full⟩])
                  (.cond (.v 25)
                    (.reg [⟨.mv (.v 8), none, none, .full⟩,
                     ⟨.bin .eql (.r 0) (.c (.i .i64 5)), none, none, .full⟩,
                     ⟨.mv (.r 0), none, (some 10), .full⟩])
                    .skip))))))))))))))))))))
  (.seq (.seq (.reg [⟨.mv (.v 6), none, none, .full⟩,
   ⟨.bin .eql (.r 0) (.c (.i .i64 2)), none, none, .full⟩,
   ⟨.mv (.r 0), none, none, .full⟩,
   ⟨.faddr 2 (.v 3), some (0, true), none, .full⟩,
   ⟨.load none (.r 0), some (1, true), none, .full⟩,
   ⟨.bin .neq (.r 0) (.c (.i .i64 6)), some (2, true), none, .full⟩,
   ⟨.pick (.r 3) (.r 0) (.c (.b false)), none, (some 26), .full⟩])
  (.cond (.v 26)
    (.seq (.reg [⟨.faddr 2 (.v 3), none, none, .full⟩,
     ⟨.load none (.r 0), none, none, .full⟩,
     ⟨.mv (.v 7), none, none, .full⟩,
     ⟨.mv (.v 8), none, none, .full⟩,
     ⟨.call (.c (.f 38 [] [])) [(.r 2), (.r 1), (.r 0)], none, none, .full⟩,
     ⟨.mv (.r 0), none, none, .full⟩,
     ⟨.ext 0 (.r 0), none, none, .full⟩,
     ⟨.ext 1 (.r 1), none, none, .full⟩,
     ⟨.mv (.r 1), none, (some 11), .full⟩,
     ⟨.mv (.r 1), none, (some 12), .full⟩])
    (.seq (.seq (.reg [⟨.mv (.v 12), none, none, .full⟩,
     ⟨.bin .neq (.r 0) (.c (.i .i64 0)), none, (some 27), .full⟩])
    (.cond (.v 27)
      (.seq (.reg [⟨.mv (.v 12), none, none, .full⟩,
       ⟨.mv (.c .nils), none, (some 4), .full⟩,
       ⟨.mv (.r 1), none, (some 5), .full⟩])
      .ret)
      .skip))
    (.reg [⟨.mv (.v 9), none, none, .full⟩,
     ⟨.mv (.v 11), none, none, .full⟩,
     ⟨.buildSl 1 1 [(.i .i64 0)] [(0, 1, (.r 0))], none, none, .full⟩,
     ⟨.append 1 8 (.r 2) (.r 0), none, none, .full⟩,
     ⟨.mv (.r 0), none, (some 9), .full⟩])))
    .skip))
  (.seq (.seq (.reg [⟨.mv (.v 10), none, none, .full⟩,
   ⟨.un .not (.r 0), none, (some 28), .full⟩])
  (.cond (.v 28)
    (.seq (.reg [⟨.mv (.c .nils), none, (some 4), .full⟩,
     ⟨.mv (.c (.i .i64 19)), none, (some 5), .full⟩])
    .ret)
    .skip))
  (.seq (.seq (.reg [⟨.mv (.v 9), none, none, .full⟩,
   ⟨.len 1 (.r 0), none, none, .full⟩,
   ⟨.bin .gtr (.r 0) (.c (.i .i64 8)), none, (some 29), .full⟩])
  (.cond (.v 29)
    (.seq (.reg [⟨.mv (.c .nils), none, (some 4), .full⟩,
     ⟨.mv (.c (.i .i64 18)), none, (some 5), .full⟩])
    .ret)
    .skip))
  (.seq (.reg [⟨.mv (.v 9), none, none, .full⟩,
   ⟨.mv (.r 0), none, (some 4), .full⟩,
   ⟨.mv (.c (.i .i64 0)), none, (some 5), .full⟩])
  .ret)))))))))))))⟩
/-- solenoid/solenoidref12.next -/
def af20 : AFunc := ⟨[(some 0), none, none, none, none, none, none], [.v 2],
  (.seq (.reg [⟨.box (.v 0), none, (some 1), .full⟩,
   ⟨.mv (.c .nils), none, (some 2), .full⟩])
  (.seq (.seq (.reg [⟨.faddr 2 (.v 1), none, none, .full⟩,
   ⟨.load none (.r 0), none, (some 3), .full⟩])
  (.blk 0 (.seq (.reg [⟨.bin .eql (.v 3) (.c (.i .i64 0)), none, none, .full⟩,
   ⟨.mv (.r 0), none, (some 4), .full⟩])
  (.cond (.v 4)
    (.seq (.reg [⟨.mv (.c .nils), none, (some 2), .full⟩])
    .ret)
    (.seq (.reg [⟨.bin .eql (.v 3) (.c (.i .i64 18)), none, none, .full⟩,
     ⟨.mv (.r 0), none, (some 5), .full⟩])
    (.cond (.v 5)
      (.seq (.reg [⟨.faddr 3 (.v 1), none, none, .full⟩,
       ⟨.load none (.r 0), none, none, .full⟩,
       ⟨.buildSl 1 1 [(.i .i64 0)] [(0, 1, (.r 0))], none, none, .full⟩,
       ⟨.mv (.r 0), none, (some 2), .full⟩])
      .ret)
      (.seq (.reg [⟨.bin .eql (.v 3) (.c (.i .i64 19)), none, none, .full⟩,
       ⟨.mv (.r 0), none, (some 6), .full⟩])
      (.cond (.v 6)
        (.seq (.reg [⟨.faddr 1 (.v 1), none, none, .full⟩,
         ⟨.load none (.r 0), none, none, .full⟩,
         ⟨.faddr 3 (.v 1), none, none, .full⟩,
         ⟨.load none (.r 0), none, none, .full⟩,
         ⟨.buildSl 2 1 [(.i .i64 0)] [(0, 1, (.r 2)), (1, 1, (.r 0))], none, none, .full⟩,
         ⟨.mv (.r 0), none, (some 2), .full⟩])
        .ret)
        .skip))))))))
  (.seq (.reg [⟨.faddr 1 (.v 1), none, none, .full⟩,
   ⟨.load none (.r 0), none, none, .full⟩,
   ⟨.buildSl 1 1 [(.i .i64 0)] [(0, 1, (.r 0))], none, none, .full⟩,
   ⟨.mv (.r 0), none, (some 2), .full⟩])
  .ret)))⟩
/-- solenoid/solenoidref12.meet -/
def af21 : AFunc := ⟨[(some 0), (some 1), none, none, none, none, none], [.v 2],
  (.seq (.reg [⟨.mv (.c (.i .i64 0)), none, (some 2), .full⟩])
  (.seq (.seq (.reg [⟨.mv (.v 0), none, none, .full⟩,
   ⟨.len 1 (.r 0), none, none, .full⟩,
   ⟨.mv (.v 1), none, none, .full⟩,
   ⟨.len 1 (.r 0), none, none, .full⟩,
   ⟨.bin .neq (.r 2) (.r 0), none, (some 4), .full⟩])
  (.cond (.v 4)
    (.seq (.reg [⟨.mv (.c (.i .i64 18)), none, (some 2), .full⟩])
    .ret)
    .skip))
  (.seq (.seq (.reg [⟨.mv (.c (.i .i64 0)), none, (some 3), .full⟩])
  (.blk 0 (.loop
    (.seq (.seq (.reg [⟨.mv (.v 3), none, none, .full⟩,
     ⟨.mv (.v 0), none, none, .full⟩,
     ⟨.len 1 (.r 0), none, none, .full⟩,
     ⟨.bin .lss (.r 2) (.r 0), none, (some 5), .full⟩])
    (.cond (.v 5)
      .skip
      (.exit 0)))
    (.seq (.blk 1 (.seq (.reg [⟨.mv (.v 0), none, none, .new⟩,
     ⟨.mv (.v 3), none, none, .new⟩,
     ⟨.iaS 1 (.r 1) (.r 0), none, none, .new⟩,
     ⟨.load none (.r 0), none, none, .new⟩,
     ⟨.mv (.v 1), none, none, .new⟩,
     ⟨.mv (.v 3), none, none, .new⟩,
     ⟨.iaS 1 (.r 1) (.r 0), none, none, .new⟩,
     ⟨.load none (.r 0), none, none, .new⟩,
     ⟨.bin .neq (.r 4) (.r 0), none, (some 6), .full⟩])
    (.cond (.v 6)
      (.seq (.reg [⟨.mv (.c (.i .i64 19)), none, (some 2), .full⟩])
      .ret)
      .skip)))
    (.reg [⟨.mv (.v 3), none, none, .full⟩,
     ⟨.bin .add (.r 0) (.c (.i .i64 1)), none, none, .full⟩,
     ⟨.mv (.r 0), none, (some 3), .full⟩]))))))
  (.seq (.reg [⟨.mv (.c (.i .i64 0)), none, (some 2), .full⟩])
  .ret))))⟩
/-- solenoid/solenoidref10.Bears -/
def af22 : AFunc := ⟨[(some 0), none, none, none, none], [.v 1],
  (.seq (.reg [⟨.mv (.c (.i .i64 0)), none, (some 1), .full⟩])
  (.seq (.seq (.reg [⟨.mv (.v 0), none, (some 2), .full⟩])
  (.blk 0 (.seq (.reg [⟨.bin .eql (.v 2) (.c (.i .i64 1)), none, none, .full⟩,
   ⟨.mv (.r 0), none, (some 3), .full⟩])
  (.cond (.v 3)
    (.seq (.reg [⟨.mv (.c (.i .i64 9)), none, (some 1), .full⟩])
    .ret)
    (.seq (.seq (.reg [⟨.bin .eql (.v 2) (.c (.i .i64 2)), none, none, .full⟩,
     ⟨.mv (.r 0), none, (some 4), .full⟩])
    (.cond (.v 4)
      .skip
      (.seq (.reg [⟨.bin .eql (.v 2) (.c (.i .i64 3)), none, none, .full⟩,
       ⟨.mv (.r 0), none, (some 4), .full⟩])
      (.cond (.v 4)
        .skip
        (.seq (.reg [⟨.bin .eql (.v 2) (.c (.i .i64 4)), none, none, .full⟩,
         ⟨.mv (.r 0), none, (some 4), .full⟩])
        (.cond (.v 4)
          .skip
          (.seq (.reg [⟨.bin .eql (.v 2) (.c (.i .i64 5)), none, none, .full⟩,
           ⟨.mv (.r 0), none, (some 4), .full⟩])
          (.cond (.v 4)
            .skip
            (.seq (.reg [⟨.bin .eql (.v 2) (.c (.i .i64 6)), none, none, .full⟩,
             ⟨.mv (.r 0), none, (some 4), .full⟩])
            (.cond (.v 4)
              .skip
              (.seq (.reg [⟨.bin .eql (.v 2) (.c (.i .i64 18)), none, none, .full⟩,
               ⟨.mv (.r 0), none, (some 4), .full⟩])
              (.cond (.v 4)
                .skip
                (.seq (.reg [⟨.bin .eql (.v 2) (.c (.i .i64 19)), none, none, .full⟩,
                 ⟨.mv (.r 0), none, (some 4), .full⟩])
                (.cond (.v 4)
                  .skip
                  (.seq (.reg [⟨.bin .eql (.v 2) (.c (.i .i64 20)), none, none, .full⟩,
                   ⟨.mv (.r 0), none, (some 4), .full⟩])
                  (.cond (.v 4)
                    .skip
                    (.seq (.reg [⟨.bin .eql (.v 2) (.c (.i .i64 23)), none, none, .full⟩,
                     ⟨.mv (.r 0), none, (some 4), .full⟩])
                    (.cond (.v 4)
                      .skip
                      (.seq (.reg [⟨.bin .eql (.v 2) (.c (.i .i64 24)), none, none, .full⟩,
                       ⟨.mv (.r 0), none, (some 4), .full⟩])
                      (.cond (.v 4)
                        .skip
                        (.seq (.reg [⟨.bin .eql (.v 2) (.c (.i .i64 25)), none, none, .full⟩,
                         ⟨.mv (.r 0), none, (some 4), .full⟩])
                        (.cond (.v 4)
                          .skip
                          (.reg [⟨.bin .eql (.v 2) (.c (.i .i64 27)), none, none, .full⟩,
                           ⟨.mv (.r 0), none, (some 4), .full⟩])))))))))))))))))))))))
    (.cond (.v 4)
      (.seq (.reg [⟨.mv (.c (.i .i64 1)), none, (some 1), .full⟩])
      .ret)
      .skip))))))
  (.seq (.reg [⟨.mv (.c (.i .i64 0)), none, (some 1), .full⟩])
  .ret)))⟩
/-- solenoid/instr.Read -/
def af23 : AFunc := ⟨[(some 0), (some 1), none, none, none, none, none, none, none, none, none], [.cell 2 (some 5), .v 3],
  (.seq (.reg [⟨.box (.c (.agg [(.i .i64 0), (.i .i64 0), (.i .i64 0), (.i .i64 0), (.i .i64 0)])), none, (some 2), .full⟩,
   ⟨.mv (.c (.i .i64 0)), none, (some 3), .full⟩])
  (.seq (.seq (.reg [⟨.mv (.v 1), none, none, .full⟩,
   ⟨.bin .lss (.r 0) (.c (.i .i64 0)), none, none, .full⟩,
   ⟨.mv (.r 0), none, none, .full⟩,
   ⟨.mv (.v 1), some (0, false), none, .full⟩,
   ⟨.mv (.v 0), some (1, false), none, .full⟩,
   ⟨.len 1 (.r 0), some (2, false), none, .full⟩,
   ⟨.bin .geq (.r 2) (.r 0), some (3, false), none, .full⟩,
   ⟨.pick (.r 4) (.c (.b true)) (.r 0), none, (some 6), .full⟩])
  (.cond (.v 6)
    (.seq (.reg [⟨.build [(.i .i64 0), (.i .i64 0), (.i .i64 0), (.i .i64 0), (.i .i64 0)] [], none, none, .full⟩,
     ⟨.store 5 (.v 2) (.r 0), none, none, .full⟩,
     ⟨.mv (.c (.i .i64 12)), none, (some 3), .full⟩])
    .ret)
    .skip))
  (.seq (.reg [⟨.mv (.v 0), none, none, .full⟩,
   ⟨.mv (.v 1), none, none, .full⟩,
   ⟨.build [.nils, (.i .i64 0)] [(0, 1, (.r 1)), (1, 1, (.r 0))], none, none, .full⟩,
   ⟨.build [.nils, (.i .i64 0)] [(0, 2, (.r 0))], none, none, .full⟩,
   ⟨.box (.c (.agg [.nils, (.i .i64 0)])), none, (some 4), .full⟩,
   ⟨.store 2 (.r 0) (.r 1), none, none, .full⟩])
  (.seq (.reg [⟨.mv (.v 1), none, none, .full⟩,
   ⟨.faddr 0 (.v 4), none, none, .full⟩,
   ⟨.call (.c (.f 39 [] [])) [(.r 0)], none, none, .full⟩,
   ⟨.build [(.i .i64 0), (.i .i64 0), (.i .i64 0), (.i .i64 0), (.i .i64 0)] [(0, 1, (.r 2)), (2, 1, (.r 0))], none, none, .full⟩,
   ⟨.box (.c (.agg [(.i .i64 0), (.i .i64 0), (.i .i64 0), (.i .i64 0), (.i .i64 0)])), none, (some 5), .full⟩,
   ⟨.store 5 (.r 0) (.r 1), none, none, .full⟩])
  (.seq (.blk 0 (.seq (.reg [⟨.faddr 2 (.v 5), none, none, .full⟩,
   ⟨.load none (.r 0), none, none, .full⟩,
   ⟨.bin .gtr (.r 0) (.c (.i .i64 29)), none, none, .full⟩,
   ⟨.mv (.r 0), none, (some 7), .full⟩])
  (.cond (.v 7)
    (.seq (.reg [⟨.build [(.i .i64 0), (.i .i64 0), (.i .i64 0), (.i .i64 0), (.i .i64 0)] [], none, none, .full⟩,
     ⟨.store 5 (.v 2) (.r 0), none, none, .full⟩,
     ⟨.mv (.c (.i .i64 10)), none, (some 3), .full⟩])
    .ret)
    (.seq (.reg [⟨.faddr 2 (.v 5), none, none, .new⟩,
     ⟨.load none (.r 0), none, none, .new⟩,
     ⟨.call (.c (.f 40 [] [])) [(.r 0)], none, none, .new⟩,
     ⟨.mv (.v 0), none, none, .new⟩,
     ⟨.len 1 (.r 0), none, none, .new⟩,
     ⟨.faddr 0 (.v 4), none, none, .new⟩,
     ⟨.faddr 1 (.r 0), none, none, .new⟩,
     ⟨.load none (.r 0), none, none, .new⟩,
     ⟨.bin .sub (.r 3) (.r 0), none, none, .new⟩,
     ⟨.bin .gtr (.r 6) (.r 0), none, none, .full⟩,
     ⟨.mv (.r 0), none, (some 8), .full⟩])
    (.cond (.v 8)
      (.seq (.reg [⟨.build [(.i .i64 0), (.i .i64 0), (.i .i64 0), (.i .i64 0), (.i .i64 0)] [], none, none, .full⟩,
       ⟨.store 5 (.v 2) (.r 0), none, none, .full⟩,
       ⟨.mv (.c (.i .i64 8)), none, (some 3), .full⟩])
      .ret)
      .skip)))))
  (.seq (.seq (.reg [⟨.faddr 2 (.v 5), none, none, .full⟩,
   ⟨.load none (.r 0), none, none, .full⟩,
   ⟨.call (.c (.f 40 [] [])) [(.r 0)], none, none, .full⟩,
   ⟨.bin .gtr (.r 0) (.c (.i .i64 0)), none, (some 9), .full⟩])
  (.cond (.v 9)
    (.reg [⟨.faddr 0 (.v 4), none, none, .full⟩,
     ⟨.call (.c (.f 39 [] [])) [(.r 0)], none, none, .full⟩,
     ⟨.faddr 3 (.v 5), none, none, .full⟩,
     ⟨.store 1 (.r 0) (.r 1), none, none, .full⟩])
    .skip))
  (.seq (.seq (.reg [⟨.faddr 2 (.v 5), none, none, .full⟩,
   ⟨.load none (.r 0), none, none, .full⟩,
   ⟨.bin .eql (.r 0) (.c (.i .i64 1)), none, (some 10), .full⟩])
  (.cond (.v 10)
    (.reg [⟨.faddr 0 (.v 4), none, none, .full⟩,
     ⟨.call (.c (.f 41 [] [])) [(.r 0)], none, none, .full⟩,
     ⟨.faddr 4 (.v 5), none, none, .full⟩,
     ⟨.store 1 (.r 0) (.r 1), none, none, .full⟩])
    .skip))
  (.seq (.reg [⟨.faddr 0 (.v 4), none, none, .full⟩,
   ⟨.faddr 1 (.r 0), none, none, .full⟩,
   ⟨.load none (.r 0), none, none, .full⟩,
   ⟨.faddr 1 (.v 5), none, none, .full⟩,
   ⟨.store 1 (.r 0) (.r 1), none, none, .full⟩])
  (.seq (.reg [⟨.load (some 5) (.v 5), none, none, .full⟩,
   ⟨.store 5 (.v 2) (.r 0), none, none, .full⟩,
   ⟨.mv (.c (.i .i64 0)), none, (some 3), .full⟩])
  .ret)))))))))⟩
/-- slices.Clone[[]solenoid/instr.Op,solenoid/instr.Op] -/
def af24 : AFunc := ⟨[(some 0), none, none], [.v 1],
  (.seq (.reg [⟨.mv (.c .nils), none, (some 1), .full⟩])
  (.seq (.seq (.reg [⟨.mv (.v 0), none, none, .full⟩,
   ⟨.eq false 2 (.r 0) (.c .nils), none, (some 2), .full⟩])
  (.cond (.v 2)
    (.seq (.reg [⟨.mv (.c .nils), none, (some 1), .full⟩])
    .ret)
    .skip))
  (.seq (.reg [⟨.buildSl 0 5 [(.i .i64 0), (.i .i64 0), (.i .i64 0), (.i .i64 0), (.i .i64 0)] [], none, none, .full⟩,
   ⟨.mv (.v 0), none, none, .full⟩,
   ⟨.append 5 40 (.r 1) (.r 0), none, none, .full⟩,
   ⟨.mv (.r 0), none, (some 1), .full⟩])
  .ret)))⟩
/-- solenoid/kinds.Size -/
def af25 : AFunc := ⟨[(some 0), none, none, none, none], [.v 2],
  (.seq (.reg [⟨.box (.v 0), none, (some 1), .full⟩,
   ⟨.mv (.c (.i .i64 0)), none, (some 2), .full⟩])
  (.seq (.blk 0 (.seq (.reg [⟨.faddr 0 (.v 1), none, none, .full⟩,
   ⟨.load none (.r 0), none, none, .full⟩,
   ⟨.call (.c (.f 42 [] [])) [(.r 0)], none, none, .full⟩,
   ⟨.mv (.r 0), none, (some 3), .full⟩])
  (.cond (.v 3)
    (.seq (.reg [⟨.mv (.c (.i .i64 1)), none, (some 2), .full⟩])
    .ret)
    (.seq (.reg [⟨.faddr 0 (.v 1), none, none, .full⟩,
     ⟨.load none (.r 0), none, none, .full⟩,
     ⟨.bin .eql (.r 0) (.c (.i .i64 7)), none, none, .full⟩,
     ⟨.mv (.r 0), none, (some 4), .full⟩])
    (.cond (.v 4)
      (.seq (.reg [⟨.faddr 2 (.v 1), none, none, .full⟩,
       ⟨.load none (.r 0), none, none, .full⟩,
       ⟨.mv (.r 0), none, (some 2), .full⟩])
      .ret)
      .skip)))))
  (.seq (.reg [⟨.load (some 4) (.v 1), none, none, .full⟩,
   ⟨.call (.c (.f 43 [] [])) [(.r 0)], none, none, .full⟩,
   ⟨.len 1 (.r 0), none, none, .full⟩,
   ⟨.mv (.r 0), none, (some 2), .full⟩])
  .ret)))⟩
/-- solenoid/layout.path -/
def af26 : AFunc := ⟨[(some 0), (some 1), none, none, none, none, none], [.v 3],
  (.seq (.reg [⟨.box (.v 0), none, (some 2), .full⟩,
   ⟨.mv (.c (.s [])), none, (some 3), .full⟩])
  (.seq (.reg [⟨.faddr 1 (.v 2), none, none, .full⟩,
   ⟨.load (some 4) (.r 0), none, none, .full⟩,
   ⟨.call (.c (.f 43 [] [])) [(.r 0)], none, none, .full⟩,
   ⟨.mv (.r 0), none, (some 4), .full⟩])
  (.seq (.blk 0 (.seq (.reg [⟨.faddr 1 (.v 2), none, none, .full⟩,
   ⟨.faddr 0 (.r 0), none, none, .full⟩,
   ⟨.load none (.r 0), none, none, .full⟩,
   ⟨.bin .eql (.r 0) (.c (.i .i64 7)), none, none, .full⟩,
   ⟨.mv (.r 0), none, (some 5), .full⟩])
  (.cond (.v 5)
    (.seq (.reg [⟨.faddr 0 (.v 2), none, none, .new⟩,
     ⟨.load none (.r 0), none, none, .new⟩,
     ⟨.bin .add (.r 0) (.c (.s [91])), none, none, .new⟩,
     ⟨.mv (.v 1), none, none, .new⟩,
     ⟨.call (.c (.f 44 [] [])) [(.r 0)], none, none, .new⟩,
     ⟨.bin .add (.r 2) (.r 0), none, none, .full⟩,
     ⟨.bin .add (.r 0) (.c (.s [93])), none, none, .full⟩,
     ⟨.mv (.r 0), none, (some 3), .full⟩])
    .ret)
    (.seq (.reg [⟨.mv (.v 1), none, none, .full⟩,
     ⟨.mv (.v 4), none, none, .full⟩,
     ⟨.len 1 (.r 0), none, none, .full⟩,
     ⟨.bin .lss (.r 2) (.r 0), none, none, .full⟩,
     ⟨.mv (.r 0), none, (some 6), .full⟩])
    (.cond (.v 6)
      (.seq (.reg [⟨.faddr 0 (.v 2), none, none, .new⟩,
       ⟨.load none (.r 0), none, none, .new⟩,
       ⟨.bin .add (.r 0) (.c (.s [46])), none, none, .new⟩,
       ⟨.mv (.v 4), none, none, .new⟩,
       ⟨.mv (.v 1), none, none, .new⟩,
       ⟨.iaS 2 (.r 1) (.r 0), none, none, .new⟩,
       ⟨.faddr 0 (.r 0), none, none, .new⟩,
       ⟨.load none (.r 0), none, none, .new⟩,
       ⟨.bin .add (.r 5) (.r 0), none, none, .full⟩,
       ⟨.mv (.r 0), none, (some 3), .full⟩])
      .ret)
      .skip)))))
  (.seq (.reg [⟨.faddr 0 (.v 2), none, none, .full⟩,
   ⟨.load none (.r 0), none, none, .full⟩,
   ⟨.mv (.r 0), none, (some 3), .full⟩])
  .ret))))⟩
/-- solenoid/layout.kind -/
def af27 : AFunc := ⟨[(some 0), (some 1), none, none, none, none, none], [.v 3],
  (.seq (.reg [⟨.box (.v 0), none, (some 2), .full⟩,
   ⟨.mv (.c (.i .i64 0)), none, (some 3), .full⟩])
  (.seq (.reg [⟨.load (some 4) (.v 2), none, none, .full⟩,
   ⟨.call (.c (.f 43 [] [])) [(.r 0)], none, none, .full⟩,
   ⟨.mv (.r 0), none, (some 4), .full⟩])
  (.seq (.blk 0 (.seq (.reg [⟨.faddr 0 (.v 2), none, none, .full⟩,
   ⟨.load none (.r 0), none, none, .full⟩,
   ⟨.bin .eql (.r 0) (.c (.i .i64 7)), none, none, .full⟩,
   ⟨.mv (.r 0), none, (some 5), .full⟩])
  (.cond (.v 5)
    (.seq (.reg [⟨.faddr 1 (.v 2), none, none, .full⟩,
     ⟨.load none (.r 0), none, none, .full⟩,
     ⟨.mv (.r 0), none, (some 3), .full⟩])
    .ret)
    (.seq (.reg [⟨.mv (.v 1), none, none, .full⟩,
     ⟨.mv (.v 4), none, none, .full⟩,
     ⟨.len 1 (.r 0), none, none, .full⟩,
     ⟨.bin .lss (.r 2) (.r 0), none, none, .full⟩,
     ⟨.mv (.r 0), none, (some 6), .full⟩])
    (.cond (.v 6)
      (.seq (.reg [⟨.mv (.v 4), none, none, .full⟩,
       ⟨.mv (.v 1), none, none, .full⟩,
       ⟨.iaS 2 (.r 1) (.r 0), none, none, .full⟩,
       ⟨.faddr 1 (.r 0), none, none, .full⟩,
       ⟨.load none (.r 0), none, none, .full⟩,
       ⟨.mv (.r 0), none, (some 3), .full⟩])
      .ret)
      .skip)))))
  (.seq (.reg [⟨.faddr 0 (.v 2), none, none, .full⟩,
   ⟨.load none (.r 0), none, none, .full⟩,
   ⟨.mv (.r 0), none, (some 3), .full⟩])
  .ret))))⟩
/-- solenoid/layout.put -/
def af28 : AFunc := ⟨[(some 0), (some 1), none, none], [.v 2],
  (.seq (.reg [⟨.mv (.c .nils), none, (some 2), .full⟩])
  (.seq (.reg [⟨.mv (.v 0), none, none, .full⟩,
   ⟨.len 1 (.r 0), none, none, .full⟩,
   ⟨.mv (.r 0), none, (some 3), .full⟩])
  (.seq (.reg [⟨.mv (.v 0), none, none, .full⟩,
   ⟨.mv (.v 3), none, none, .full⟩,
   ⟨.mv (.v 3), none, none, .full⟩,
   ⟨.slSl 6 (.r 2) none (some (.r 1)) (some (.r 0)), none, none, .full⟩,
   ⟨.mv (.v 1), none, none, .full⟩,
   ⟨.append 6 56 (.r 1) (.r 0), none, none, .full⟩,
   ⟨.mv (.r 0), none, (some 2), .full⟩])
  .ret)))⟩
/-- (*solenoid/check.program).step -/
def af29 : AFunc := ⟨[(some 0), (some 1), (some 2), none, none, none, none, none, none, none, none, none, none, none, none, none, none, none, none, none, none, none, none], [.v 4, .v 5],
  (.seq (.reg [⟨.box (.v 1), none, (some 3), .full⟩,
   ⟨.mv (.c .nils), none, (some 4), .full⟩,
   ⟨.mv (.c (.i .i64 0)), none, (some 5), .full⟩])
  (.seq (.seq (.reg [⟨.mv (.v 0), none, none, .full⟩,
   ⟨.load (some 5) (.v 3), none, none, .full⟩,
   ⟨.call (.c (.f 45 [] [])) [(.r 1), (.r 0)], none, none, .full⟩,
   ⟨.mv (.r 0), none, (some 6), .full⟩])
  (.seq (.reg [⟨.mv (.v 6), none, none, .full⟩,
   ⟨.bin .neq (.r 0) (.c (.i .i64 0)), none, (some 14), .full⟩])
  (.cond (.v 14)
    (.seq (.reg [⟨.mv (.v 6), none, none, .full⟩,
     ⟨.mv (.c .nils), none, (some 4), .full⟩,
     ⟨.mv (.r 1), none, (some 5), .full⟩])
    .ret)
    .skip)))
  (.seq (.reg [⟨.mv (.v 0), none, none, .full⟩,
   ⟨.load (some 5) (.v 3), none, none, .full⟩,
   ⟨.call (.c (.f 46 [] [])) [(.r 1), (.r 0)], none, none, .full⟩,
   ⟨.mv (.r 0), none, (some 7), .full⟩])
  (.seq (.seq (.reg [⟨.mv (.v 7), none, none, .full⟩,
   ⟨.len 1 (.r 0), none, none, .full⟩,
   ⟨.mv (.v 2), none, none, .full⟩,
   ⟨.len 1 (.r 0), none, none, .full⟩,
   ⟨.bin .gtr (.r 2) (.r 0), none, (some 15), .full⟩])
  (.cond (.v 15)
    (.seq (.reg [⟨.mv (.c .nils), none, (some 4), .full⟩,
     ⟨.mv (.c (.i .i64 18)), none, (some 5), .full⟩])
    .ret)
    .skip))
  (.seq (.reg [⟨.mv (.v 2), none, none, .full⟩,
   ⟨.len 1 (.r 0), none, none, .full⟩,
   ⟨.mv (.v 7), none, none, .full⟩,
   ⟨.len 1 (.r 0), none, none, .full⟩,
   ⟨.bin .sub (.r 2) (.r 0), none, none, .full⟩,
   ⟨.mv (.r 0), none, (some 8), .full⟩])
  (.seq (.reg [⟨.mv (.v 2), none, none, .full⟩,
   ⟨.mv (.v 8), none, none, .full⟩,
   ⟨.slSl 1 (.r 1) (some (.r 0)) none none, none, none, .full⟩,
   ⟨.call (.c (.f 47 [] [])) [(.r 0)], none, none, .full⟩,
   ⟨.mv (.r 0), none, (some 9), .full⟩])
  (.seq (.seq (.reg [⟨.mv (.v 7), none, (some 16), .full⟩,
   ⟨.len 1 (.r 0), none, (some 17), .full⟩,
   ⟨.mv (.c (.i .i64 0)), none, (some 18), .full⟩])
  (.blk 0 (.loop
    (.seq (.reg [⟨.bin .lss (.v 18) (.v 17), none, (some 19), .full⟩])
    (.seq (.cond (.v 19)
      .skip
      (.exit 0))
    (.seq (.blk 1 (.seq (.reg [⟨.mv (.v 18), none, none, .full⟩,
     ⟨.iaS 1 (.v 16) (.v 18), none, none, .full⟩,
     ⟨.load none (.r 0), none, none, .full⟩,
     ⟨.mv (.r 2), none, (some 10), .full⟩,
     ⟨.mv (.r 1), none, (some 11), .full⟩])
    (.seq (.reg [⟨.mv (.v 11), none, none, .full⟩,
     ⟨.bin .neq (.r 0) (.c (.i .i64 0)), none, none, .full⟩,
     ⟨.mv (.r 0), none, none, .full⟩,
     ⟨.mv (.v 11), some (0, true), none, .full⟩,
     ⟨.mv (.v 9), some (1, true), none, .full⟩,
     ⟨.mv (.v 10), some (2, true), none, .full⟩,
     ⟨.iaS 1 (.r 1) (.r 0), some (3, true), none, .full⟩,
     ⟨.load none (.r 0), some (4, true), none, .full⟩,
     ⟨.bin .neq (.r 4) (.r 0), some (5, true), none, .full⟩,
     ⟨.pick (.r 6) (.r 0) (.c (.b false)), none, (some 20), .full⟩])
    (.cond (.v 20)
      (.seq (.reg [⟨.mv (.c .nils), none, (some 4), .full⟩,
       ⟨.mv (.c (.i .i64 19)), none, (some 5), .full⟩])
      .ret)
      .skip))))
    (.reg [⟨.bin .add (.v 18) (.c (.i .i64 1)), none, none, .full⟩,
     ⟨.mv (.r 0), none, (some 18), .full⟩])))))))
  (.seq (.reg [⟨.mv (.v 0), none, none, .full⟩,
   ⟨.load (some 5) (.v 3), none, none, .full⟩,
   ⟨.mv (.v 9), none, none, .full⟩,
   ⟨.call (.c (.f 48 [] [])) [(.r 2), (.r 1), (.r 0)], none, none, .full⟩,
   ⟨.mv (.r 0), none, none, .full⟩,
   ⟨.ext 0 (.r 0), none, none, .full⟩,
   ⟨.ext 1 (.r 1), none, none, .full⟩,
   ⟨.mv (.r 1), none, (some 12), .full⟩,
   ⟨.mv (.r 1), none, (some 13), .full⟩])
  (.seq (.blk 2 (.seq (.reg [⟨.mv (.v 13), none, none, .full⟩,
   ⟨.bin .neq (.r 0) (.c (.i .i64 0)), none, none, .full⟩,
   ⟨.mv (.r 0), none, (some 21), .full⟩])
  (.cond (.v 21)
    (.seq (.reg [⟨.mv (.v 13), none, none, .full⟩,
     ⟨.mv (.c .nils), none, (some 4), .full⟩,
     ⟨.mv (.r 1), none, (some 5), .full⟩])
    .ret)
    (.seq (.reg [⟨.mv (.v 8), none, none, .full⟩,
     ⟨.mv (.v 12), none, none, .full⟩,
     ⟨.len 1 (.r 0), none, none, .full⟩,
     ⟨.bin .add (.r 2) (.r 0), none, none, .full⟩,
     ⟨.bin .gtr (.r 0) (.c (.i .i64 8)), none, none, .full⟩,
     ⟨.mv (.r 0), none, (some 22), .full⟩])
    (.cond (.v 22)
      (.seq (.reg [⟨.mv (.c .nils), none, (some 4), .full⟩,
       ⟨.mv (.c (.i .i64 18)), none, (some 5), .full⟩])
      .ret)
      .skip)))))
  (.seq (.reg [⟨.mv (.v 2), none, none, .full⟩,
   ⟨.mv (.v 8), none, none, .full⟩,
   ⟨.slSl 1 (.r 1) none (some (.r 0)) none, none, none, .full⟩,
   ⟨.mv (.v 12), none, none, .full⟩,
   ⟨.buildSl 2 1 [.nils] [(0, 1, (.r 1)), (1, 1, (.r 0))], none, none, .full⟩,
   ⟨.call (.c (.f 49 [] [])) [(.r 0)], none, none, .full⟩,
   ⟨.mv (.r 0), none, (some 4), .full⟩,
   ⟨.mv (.c (.i .i64 0)), none, (some 5), .full⟩])
  .ret))))))))))⟩
/-- solenoid/check.on -/
def af30 : AFunc := ⟨[(some 0), none, none, none, none, none, none], [.v 2],
  (.seq (.reg [⟨.box (.v 0), none, (some 1), .full⟩,
   ⟨.mv (.c .nils), none, (some 2), .full⟩])
  (.seq (.seq (.reg [⟨.faddr 2 (.v 1), none, none, .full⟩,
   ⟨.load none (.r 0), none, (some 3), .full⟩])
  (.blk 0 (.seq (.reg [⟨.bin .eql (.v 3) (.c (.i .i64 0)), none, none, .full⟩,
   ⟨.mv (.r 0), none, (some 4), .full⟩])
  (.cond (.v 4)
    (.seq (.reg [⟨.mv (.c .nils), none, (some 2), .full⟩])
    .ret)
    (.seq (.reg [⟨.bin .eql (.v 3) (.c (.i .i64 18)), none, none, .full⟩,
     ⟨.mv (.r 0), none, (some 5), .full⟩])
    (.cond (.v 5)
      (.seq (.reg [⟨.faddr 3 (.v 1), none, none, .full⟩,
       ⟨.load none (.r 0), none, none, .full⟩,
       ⟨.buildSl 1 1 [(.i .i64 0)] [(0, 1, (.r 0))], none, none, .full⟩,
       ⟨.mv (.r 0), none, (some 2), .full⟩])
      .ret)
      (.seq (.reg [⟨.bin .eql (.v 3) (.c (.i .i64 19)), none, none, .full⟩,
       ⟨.mv (.r 0), none, (some 6), .full⟩])
      (.cond (.v 6)
        (.seq (.reg [⟨.faddr 1 (.v 1), none, none, .full⟩,
         ⟨.load none (.r 0), none, none, .full⟩,
         ⟨.faddr 3 (.v 1), none, none, .full⟩,
         ⟨.load none (.r 0), none, none, .full⟩,
         ⟨.buildSl 2 1 [(.i .i64 0)] [(0, 1, (.r 2)), (1, 1, (.r 0))], none, none, .full⟩,
         ⟨.mv (.r 0), none, (some 2), .full⟩])
        .ret)
        .skip))))))))
  (.seq (.reg [⟨.faddr 1 (.v 1), none, none, .full⟩,
   ⟨.load none (.r 0), none, none, .full⟩,
   ⟨.buildSl 1 1 [(.i .i64 0)] [(0, 1, (.r 0))], none, none, .full⟩,
   ⟨.mv (.r 0), none, (some 2), .full⟩])
  .ret)))⟩
/-- slices.Contains[[]int,int] -/
def af31 : AFunc := ⟨[(some 0), (some 1), none], [.v 2],
  (.seq (.reg [⟨.mv (.c (.b false)), none, (some 2), .full⟩])
  (.seq (.reg [⟨.mv (.v 0), none, none, .full⟩,
   ⟨.mv (.v 1), none, none, .full⟩,
   ⟨.call (.c (.f 50 [] [])) [(.r 1), (.r 0)], none, none, .full⟩,
   ⟨.bin .geq (.r 0) (.c (.i .i64 0)), none, none, .full⟩,
   ⟨.mv (.r 0), none, (some 2), .full⟩])
  .ret))⟩
/-- (*solenoid/check.walk).join -/
def af32 : AFunc := ⟨[(some 0), (some 1), (some 2), none, none, none, none, none, none], [.v 3],
  (.seq (.reg [⟨.mv (.c (.i .i64 0)), none, (some 3), .full⟩])
  (.seq (.reg [⟨.mv (.v 0), none, none, .full⟩,
   ⟨.nilck (.r 0), none, none, .full⟩,
   ⟨.faddr 3 (.r 0), none, none, .full⟩,
   ⟨.load none (.r 0), none, none, .full⟩,
   ⟨.mv (.v 1), none, none, .full⟩,
   ⟨.look (.sc 0) .nils true (.r 1) (.r 0), none, none, .full⟩,
   ⟨.mv (.r 0), none, none, .full⟩,
   ⟨.ext 0 (.r 0), none, none, .full⟩,
   ⟨.ext 1 (.r 1), none, none, .full⟩,
   ⟨.mv (.r 1), none, (some 4), .full⟩,
   ⟨.mv (.r 1), none, (some 5), .full⟩])
  (.seq (.blk 0 (.seq (.reg [⟨.mv (.v 5), none, none, .full⟩,
   ⟨.un .not (.r 0), none, none, .full⟩,
   ⟨.mv (.r 0), none, (some 6), .full⟩])
  (.cond (.v 6)
    (.reg [⟨.mv (.v 0), none, none, .full⟩,
     ⟨.nilck (.r 0), none, none, .full⟩,
     ⟨.faddr 3 (.r 0), none, none, .full⟩,
     ⟨.load none (.r 0), none, none, .full⟩,
     ⟨.mv (.v 1), none, none, .full⟩,
     ⟨.mv (.v 2), none, none, .full⟩,
     ⟨.mupd (.sc 0) (.r 2) (.r 1) (.r 0), none, none, .full⟩])
    (.seq (.reg [⟨.mv (.v 4), none, none, .full⟩,
     ⟨.len 1 (.r 0), none, none, .full⟩,
     ⟨.mv (.v 2), none, none, .full⟩,
     ⟨.len 1 (.r 0), none, none, .full⟩,
     ⟨.bin .neq (.r 2) (.r 0), none, none, .full⟩,
     ⟨.mv (.r 0), none, (some 7), .full⟩])
    (.cond (.v 7)
      (.seq (.reg [⟨.mv (.c (.i .i64 18)), none, (some 3), .full⟩])
      .ret)
      (.seq (.reg [⟨.mv (.v 4), none, none, .full⟩,
       ⟨.mv (.v 2), none, none, .full⟩,
       ⟨.call (.c (.f 51 [] [])) [(.r 1), (.r 0)], none, none, .full⟩,
       ⟨.un .not (.r 0), none, none, .full⟩,
       ⟨.mv (.r 0), none, (some 8), .full⟩])
      (.cond (.v 8)
        (.seq (.reg [⟨.mv (.c (.i .i64 19)), none, (some 3), .full⟩])
        .ret)
        .skip)))))))
  (.seq (.reg [⟨.mv (.c (.i .i64 0)), none, (some 3), .full⟩])
  .ret))))⟩
/-- solenoid/solenoidref10.Read -/
def af33 : AFunc := ⟨[(some 0), (some 1), none, none, none, none, none, none, none, none, none, none, none, none], [.cell 2 (some 5), .v 3],
  (.seq (.reg [⟨.box (.c (.agg [(.i .i64 0), (.i .i64 0), (.i .i64 0), (.i .i64 0), (.i .i64 0)])), none, (some 2), .full⟩,
   ⟨.mv (.c (.i .i64 0)), none, (some 3), .full⟩])
  (.seq (.seq (.reg [⟨.mv (.v 1), none, none, .full⟩,
   ⟨.bin .lss (.r 0) (.c (.i .i64 0)), none, none, .full⟩,
   ⟨.mv (.r 0), none, none, .full⟩,
   ⟨.mv (.v 1), some (0, false), none, .full⟩,
   ⟨.mv (.v 0), some (1, false), none, .full⟩,
   ⟨.len 1 (.r 0), some (2, false), none, .full⟩,
   ⟨.bin .geq (.r 2) (.r 0), some (3, false), none, .full⟩,
   ⟨.pick (.r 4) (.c (.b true)) (.r 0), none, (some 8), .full⟩])
  (.cond (.v 8)
    (.seq (.reg [⟨.build [(.i .i64 0), (.i .i64 0), (.i .i64 0), (.i .i64 0), (.i .i64 0)] [], none, none, .full⟩,
     ⟨.store 5 (.v 2) (.r 0), none, none, .full⟩,
     ⟨.mv (.c (.i .i64 12)), none, (some 3), .full⟩])
    .ret)
    .skip))
  (.seq (.reg [⟨.mv (.v 1), none, none, .full⟩,
   ⟨.mv (.v 0), none, none, .full⟩,
   ⟨.mv (.v 1), none, none, .full⟩,
   ⟨.iaS 1 (.r 1) (.r 0), none, none, .full⟩,
   ⟨.load none (.r 0), none, none, .full⟩,
   ⟨.conv .i64 (.r 0), none, none, .full⟩,
   ⟨.build [(.i .i64 0), (.i .i64 0), (.i .i64 0), (.i .i64 0), (.i .i64 0)] [(0, 1, (.r 5)), (2, 1, (.r 0))], none, none, .full⟩,
   ⟨.box (.c (.agg [(.i .i64 0), (.i .i64 0), (.i .i64 0), (.i .i64 0), (.i .i64 0)])), none, (some 4), .full⟩,
   ⟨.store 5 (.r 0) (.r 1), none, none, .full⟩])
  (.seq (.seq (.reg [⟨.faddr 2 (.v 4), none, none, .full⟩,
   ⟨.load none (.r 0), none, none, .full⟩,
   ⟨.bin .gtr (.r 0) (.c (.i .i64 29)), none, (some 9), .full⟩])
  (.cond (.v 9)
    (.seq (.reg [⟨.build [(.i .i64 0), (.i .i64 0), (.i .i64 0), (.i .i64 0), (.i .i64 0)] [], none, none, .full⟩,
     ⟨.store 5 (.v 2) (.r 0), none, none, .full⟩,
     ⟨.mv (.c (.i .i64 10)), none, (some 3), .full⟩])
    .ret)
    .skip))
  (.seq (.reg [⟨.faddr 2 (.v 4), none, none, .full⟩,
   ⟨.load none (.r 0), none, none, .full⟩,
   ⟨.call (.c (.f 22 [] [])) [(.r 0)], none, none, .full⟩,
   ⟨.mv (.r 0), none, (some 5), .full⟩])
  (.seq (.seq (.reg [⟨.mv (.v 0), none, none, .full⟩,
   ⟨.len 1 (.r 0), none, none, .full⟩,
   ⟨.mv (.v 1), none, none, .full⟩,
   ⟨.bin .sub (.r 1) (.r 0), none, none, .full⟩,
   ⟨.bin .sub (.r 0) (.c (.i .i64 1)), none, none, .full⟩,
   ⟨.mv (.v 5), none, none, .full⟩,
   ⟨.bin .lss (.r 1) (.r 0), none, (some 10), .full⟩])
  (.cond (.v 10)
    (.seq (.reg [⟨.build [(.i .i64 0), (.i .i64 0), (.i .i64 0), (.i .i64 0), (.i .i64 0)] [], none, none, .full⟩,
     ⟨.store 5 (.v 2) (.r 0), none, none, .full⟩,
     ⟨.mv (.c (.i .i64 8)), none, (some 3), .full⟩])
    .ret)
    .skip))
  (.seq (.reg [⟨.mv (.v 1), none, none, .full⟩,
   ⟨.bin .add (.r 0) (.c (.i .i64 1)), none, none, .full⟩,
   ⟨.mv (.v 5), none, none, .full⟩,
   ⟨.bin .add (.r 1) (.r 0), none, none, .full⟩,
   ⟨.faddr 1 (.v 4), none, none, .full⟩,
   ⟨.store 1 (.r 0) (.r 1), none, none, .full⟩])
  (.seq (.seq (.reg [⟨.mv (.v 5), none, none, .full⟩,
   ⟨.bin .gtr (.r 0) (.c (.i .i64 0)), none, (some 11), .full⟩])
  (.cond (.v 11)
    (.reg [⟨.mv (.v 0), none, none, .full⟩,
     ⟨.mv (.v 1), none, none, .full⟩,
     ⟨.bin .add (.r 0) (.c (.i .i64 1)), none, none, .full⟩,
     ⟨.iaS 1 (.r 2) (.r 0), none, none, .full⟩,
     ⟨.load none (.r 0), none, none, .full⟩,
     ⟨.conv .i64 (.r 0), none, none, .full⟩,
     ⟨.faddr 3 (.v 4), none, none, .full⟩,
     ⟨.store 1 (.r 0) (.r 1), none, none, .full⟩])
    .skip))
  (.seq (.seq (.reg [⟨.mv (.v 5), none, none, .full⟩,
   ⟨.bin .eql (.r 0) (.c (.i .i64 9)), none, (some 12), .full⟩])
  (.cond (.v 12)
    (.seq (.reg [⟨.mv (.c (.i .u64 0)), none, (some 6), .full⟩])
    (.seq (.seq (.reg [⟨.mv (.c (.i .i64 7)), none, (some 7), .full⟩])
    (.blk 0 (.loop
      (.seq (.seq (.reg [⟨.mv (.v 7), none, none, .full⟩,
       ⟨.bin .geq (.r 0) (.c (.i .i64 0)), none, (some 13), .full⟩])
      (.cond (.v 13)
        .skip
        (.exit 0)))
      (.seq (.blk 1 (.reg [⟨.mv (.v 6), none, none, .full⟩,
       ⟨.bin .shl (.r 0) (.c (.i .u64 8)), none, none, .full⟩,
       ⟨.mv (.v 0), none, none, .full⟩,
       ⟨.mv (.v 1), none, none, .full⟩,
       ⟨.bin .add (.r 0) (.c (.i .i64 2)), none, none, .full⟩,
       ⟨.mv (.v 7), none, none, .full⟩,
       ⟨.bin .add (.r 1) (.r 0), none, none, .full⟩,
       ⟨.iaS 1 (.r 4) (.r 0), none, none, .full⟩,
       ⟨.load none (.r 0), none, none, .full⟩,
       ⟨.conv .u64 (.r 0), none, none, .full⟩,
       ⟨.bin .or (.r 8) (.r 0), none, none, .full⟩,
       ⟨.mv (.r 0), none, (some 6), .full⟩]))
      (.reg [⟨.mv (.v 7), none, none, .full⟩,
       ⟨.bin .sub (.r 0) (.c (.i .i64 1)), none, none, .full⟩,
       ⟨.mv (.r 0), none, (some 7), .full⟩]))))))
    (.reg [⟨.mv (.v 6), none, none, .full⟩,
     ⟨.conv .i64 (.r 0), none, none, .full⟩,
     ⟨.faddr 4 (.v 4), none, none, .full⟩,
     ⟨.store 1 (.r 0) (.r 1), none, none, .full⟩])))
    .skip))
  (.seq (.reg [⟨.load (some 5) (.v 4), none, none, .full⟩,
   ⟨.store 5 (.v 2) (.r 0), none, none, .full⟩,
   ⟨.mv (.c (.i .i64 0)), none, (some 3), .full⟩])
  .ret))))))))))⟩
/-- solenoid/solenoidref8.of -/
def af34 : AFunc := ⟨[(some 0), none, none, none, none, none, none, none, none, none, none, none, none, none, none, none, none, none], [.v 2],
  (.seq (.reg [⟨.box (.v 0), none, (some 1), .full⟩,
   ⟨.mv (.c .nils), none, (some 2), .full⟩])
  (.seq (.reg [⟨.mv (.c .nils), none, (some 3), .full⟩])
  (.seq (.blk 0 (.seq (.reg [⟨.faddr 1 (.v 1), none, none, .full⟩,
   ⟨.faddr 0 (.r 0), none, none, .full⟩,
   ⟨.load none (.r 0), none, none, .full⟩,
   ⟨.call (.c (.f 35 [] [])) [(.r 0)], none, none, .full⟩,
   ⟨.mv (.r 0), none, (some 12), .full⟩])
  (.cond (.v 12)
    (.reg [⟨.mv (.v 3), none, none, .full⟩,
     ⟨.faddr 0 (.v 1), none, none, .full⟩,
     ⟨.load none (.r 0), none, none, .full⟩,
     ⟨.faddr 1 (.v 1), none, none, .full⟩,
     ⟨.faddr 0 (.r 0), none, none, .full⟩,
     ⟨.load none (.r 0), none, none, .full⟩,
     ⟨.build [(.s []), (.i .i64 0), (.b false), (.i .i64 0), (.i .i64 0), (.i .i64 0)] [(0, 1, (.r 3)), (1, 1, (.r 0))], none, none, .full⟩,
     ⟨.buildSl 1 6 [(.s []), (.i .i64 0), (.b false), (.i .i64 0), (.i .i64 0), (.i .i64 0)] [(0, 6, (.r 0))], none, none, .full⟩,
     ⟨.append 6 56 (.r 7) (.r 0), none, none, .full⟩,
     ⟨.mv (.r 0), none, (some 3), .full⟩])
    (.seq (.reg [⟨.faddr 1 (.v 1), none, none, .full⟩,
     ⟨.faddr 0 (.r 0), none, none, .full⟩,
     ⟨.load none (.r 0), none, none, .full⟩,
     ⟨.bin .eql (.r 0) (.c (.i .i64 7)), none, none, .full⟩,
     ⟨.mv (.r 0), none, (some 13), .full⟩])
    (.cond (.v 13)
      (.seq (.reg [⟨.mv (.c (.i .i64 0)), none, (some 4), .full⟩])
      (.blk 3 (.loop
        (.seq (.seq (.reg [⟨.mv (.v 4), none, none, .full⟩,
         ⟨.faddr 1 (.v 1), none, none, .full⟩,
         ⟨.faddr 2 (.r 0), none, none, .full⟩,
         ⟨.load none (.r 0), none, none, .full⟩,
         ⟨.bin .lss (.r 3) (.r 0), none, (some 14), .full⟩])
        (.cond (.v 14)
          .skip
          (.exit 3)))
        (.seq (.blk 4 (.seq (.reg [⟨.faddr 0 (.v 1), none, none, .new⟩,
         ⟨.load none (.r 0), none, none, .new⟩,
         ⟨.bin .add (.r 0) (.c (.s [91])), none, none, .new⟩,
         ⟨.mv (.v 4), none, none, .new⟩,
         ⟨.call (.c (.f 52 [] [])) [(.r 0)], none, none, .new⟩,
         ⟨.bin .add (.r 2) (.r 0), none, none, .new⟩,
         ⟨.bin .add (.r 0) (.c (.s [93])), none, none, .new⟩,
         ⟨.faddr 1 (.v 1), none, none, .new⟩,
         ⟨.faddr 1 (.r 0), none, none, .new⟩,
         ⟨.load none (.r 0), none, none, .new⟩,
         ⟨.build [(.s []), (.i .i64 0), (.b false), (.i .i64 0), (.i .i64 0), (.i .i64 0)] [(0, 1, (.r 3)), (1, 1, (.r 0))], none, none, .new⟩,
         ⟨.box (.c (.agg [(.s []), (.i .i64 0), (.b false), (.i .i64 0), (.i .i64 0), (.i .i64 0)])), none, (some 5), .new⟩,
         ⟨.store 6 (.r 0) (.r 1), none, none, .full⟩])
        (.seq (.seq (.reg [⟨.mv (.v 4), none, none, .full⟩,
         ⟨.bin .eql (.r 0) (.c (.i .i64 0)), none, (some 15), .full⟩])
        (.cond (.v 15)
          (.reg [⟨.faddr 1 (.v 1), none, none, .full⟩,
           ⟨.faddr 2 (.r 0), none, none, .full⟩,
           ⟨.load none (.r 0), none, none, .full⟩,
           ⟨.faddr 4 (.v 5), none, none, .full⟩,
           ⟨.store 1 (.r 0) (.r 1), none, none, .full⟩])
          .skip))
        (.reg [⟨.mv (.v 3), none, none, .full⟩,
         ⟨.load (some 6) (.v 5), none, none, .full⟩,
         ⟨.buildSl 1 6 [(.s []), (.i .i64 0), (.b false), (.i .i64 0), (.i .i64 0), (.i .i64 0)] [(0, 6, (.r 0))], none, none, .full⟩,
         ⟨.append 6 56 (.r 2) (.r 0), none, none, .full⟩,
         ⟨.mv (.r 0), none, (some 3), .full⟩]))))
        (.reg [⟨.mv (.v 4), none, none, .full⟩,
         ⟨.bin .add (.r 0) (.c (.i .i64 1)), none, none, .full⟩,
         ⟨.mv (.r 0), none, (some 4), .full⟩]))))))
      (.seq (.reg [⟨.faddr 1 (.v 1), none, none, .full⟩,
       ⟨.load (some 4) (.r 0), none, none, .full⟩,
       ⟨.call (.c (.f 53 [] [])) [(.r 0)], none, none, .full⟩,
       ⟨.mv (.r 0), none, (some 6), .full⟩])
      (.seq (.reg [⟨.mv (.c (.i .i64 0)), none, (some 7), .full⟩])
      (.blk 1 (.loop
        (.seq (.seq (.reg [⟨.mv (.v 7), none, none, .full⟩,
         ⟨.mv (.v 6), none, none, .full⟩,
         ⟨.len 1 (.r 0), none, none, .full⟩,
         ⟨.bin .lss (.r 2) (.r 0), none, (some 10), .full⟩])
        (.cond (.v 10)
          .skip
          (.exit 1)))
        (.seq (.blk 2 (.seq (.reg [⟨.faddr 0 (.v 1), none, none, .new⟩,
         ⟨.load none (.r 0), none, none, .new⟩,
         ⟨.bin .add (.r 0) (.c (.s [46])), none, none, .new⟩,
         ⟨.mv (.v 6), none, none, .new⟩,
         ⟨.mv (.v 7), none, none, .new⟩,
         ⟨.iaS 2 (.r 1) (.r 0), none, none, .new⟩,
         ⟨.faddr 0 (.r 0), none, none, .new⟩,
         ⟨.load none (.r 0), none, none, .new⟩,
         ⟨.bin .add (.r 5) (.r 0), none, none, .new⟩,
         ⟨.mv (.v 6), none, none, .new⟩,
         ⟨.mv (.v 7), none, none, .new⟩,
         ⟨.iaS 2 (.r 1) (.r 0), none, none, .new⟩,
         ⟨.faddr 1 (.r 0), none, none, .new⟩,
         ⟨.load none (.r 0), none, none, .new⟩,
         ⟨.build [(.s []), (.i .i64 0), (.b false), (.i .i64 0), (.i .i64 0), (.i .i64 0)] [(0, 1, (.r 5)), (1, 1, (.r 0))], none, none, .new⟩,
         ⟨.box (.c (.agg [(.s []), (.i .i64 0), (.b false), (.i .i64 0), (.i .i64 0), (.i .i64 0)])), none, (some 8), .new⟩,
         ⟨.store 6 (.r 0) (.r 1), none, none, .full⟩])
        (.seq (.seq (.reg [⟨.mv (.v 7), none, none, .full⟩,
         ⟨.bin .eql (.r 0) (.c (.i .i64 0)), none, none, .full⟩,
         ⟨.mv (.r 0), none, none, .full⟩,
         ⟨.faddr 1 (.v 1), some (0, true), none, .full⟩,
         ⟨.faddr 0 (.r 0), some (1, true), none, .full⟩,
         ⟨.load none (.r 0), some (2, true), none, .full⟩,
         ⟨.bin .neq (.r 0) (.c (.i .i64 8)), some (3, true), none, .full⟩,
         ⟨.pick (.r 4) (.r 0) (.c (.b false)), none, (some 11), .full⟩])
        (.cond (.v 11)
          (.reg [⟨.faddr 1 (.v 1), none, none, .full⟩,
           ⟨.faddr 0 (.r 0), none, none, .full⟩,
           ⟨.load none (.r 0), none, none, .full⟩,
           ⟨.faddr 5 (.v 8), none, none, .full⟩,
           ⟨.store 1 (.r 0) (.r 1), none, none, .full⟩])
          .skip))
        (.reg [⟨.mv (.v 3), none, none, .full⟩,
         ⟨.load (some 6) (.v 8), none, none, .full⟩,
         ⟨.buildSl 1 6 [(.s []), (.i .i64 0), (.b false), (.i .i64 0), (.i .i64 0), (.i .i64 0)] [(0, 6, (.r 0))], none, none, .full⟩,
         ⟨.append 6 56 (.r 2) (.r 0), none, none, .full⟩,
         ⟨.mv (.r 0), none, (some 3), .full⟩]))))
        (.reg [⟨.mv (.v 7), none, none, .full⟩,
         ⟨.bin .add (.r 0) (.c (.i .i64 1)), none, none, .full⟩,
         ⟨.mv (.r 0), none, (some 7), .full⟩]))))))))))))
  (.seq (.seq (.reg [⟨.mv (.c (.i .i64 0)), none, (some 9), .full⟩])
  (.blk 5 (.loop
    (.seq (.seq (.reg [⟨.mv (.v 9), none, none, .full⟩,
     ⟨.mv (.v 3), none, none, .full⟩,
     ⟨.len 1 (.r 0), none, none, .full⟩,
     ⟨.bin .lss (.r 2) (.r 0), none, (some 16), .full⟩])
    (.cond (.v 16)
      .skip
      (.exit 5)))
    (.seq (.blk 6 (.seq (.reg [⟨.mv (.v 3), none, none, .full⟩,
     ⟨.mv (.v 9), none, none, .full⟩,
     ⟨.faddr 5 (.v 1), none, none, .full⟩,
     ⟨.load none (.r 0), none, none, .full⟩,
     ⟨.iaS 6 (.r 3) (.r 2), none, none, .full⟩,
     ⟨.faddr 2 (.r 0), none, none, .full⟩,
     ⟨.store 1 (.r 0) (.r 2), none, none, .full⟩])
    (.seq (.reg [⟨.mv (.v 9), none, none, .full⟩,
     ⟨.faddr 6 (.v 1), none, none, .full⟩,
     ⟨.load none (.r 0), none, none, .full⟩,
     ⟨.len 1 (.r 0), none, none, .full⟩,
     ⟨.bin .lss (.r 3) (.r 0), none, (some 17), .full⟩])
    (.cond (.v 17)
      (.reg [⟨.mv (.v 3), none, none, .full⟩,
       ⟨.mv (.v 9), none, none, .full⟩,
       ⟨.faddr 6 (.v 1), none, none, .full⟩,
       ⟨.load none (.r 0), none, none, .full⟩,
       ⟨.mv (.v 9), none, none, .full⟩,
       ⟨.iaS 1 (.r 1) (.r 0), none, none, .full⟩,
       ⟨.load none (.r 0), none, none, .full⟩,
       ⟨.iaS 6 (.r 6) (.r 5), none, none, .full⟩,
       ⟨.faddr 3 (.r 0), none, none, .full⟩,
       ⟨.store 1 (.r 0) (.r 2), none, none, .full⟩])
      .skip))))
    (.reg [⟨.mv (.v 9), none, none, .full⟩,
     ⟨.bin .add (.r 0) (.c (.i .i64 1)), none, none, .full⟩,
     ⟨.mv (.r 0), none, (some 9), .full⟩]))))))
  (.seq (.reg [⟨.mv (.v 3), none, none, .full⟩,
   ⟨.mv (.r 0), none, (some 2), .full⟩])
  .ret)))))⟩
/-- solenoid/solenoidref7.Value -/
def af35 : AFunc := ⟨[(some 0), none], [.v 1],
  (.seq (.reg [⟨.mv (.c (.b false)), none, (some 1), .full⟩])
  (.seq (.reg [⟨.mv (.v 0), none, none, .full⟩,
   ⟨.bin .geq (.r 0) (.c (.i .i64 1)), none, none, .full⟩,
   ⟨.mv (.r 0), none, none, .full⟩,
   ⟨.mv (.v 0), some (0, true), none, .full⟩,
   ⟨.bin .leq (.r 0) (.c (.i .i64 6)), some (1, true), none, .full⟩,
   ⟨.pick (.r 2) (.r 0) (.c (.b false)), none, none, .full⟩,
   ⟨.mv (.r 0), none, (some 1), .full⟩])
  .ret))⟩
/-- solenoid/solenoidref12.Takes -/
def af36 : AFunc := ⟨[(some 0), none, none, none, none], [.v 1],
  (.seq (.reg [⟨.mv (.c (.i .i64 0)), none, (some 1), .full⟩])
  (.seq (.seq (.reg [⟨.mv (.v 0), none, (some 2), .full⟩])
  (.blk 0 (.seq (.seq (.reg [⟨.bin .eql (.v 2) (.c (.i .i64 6)), none, none, .full⟩,
   ⟨.mv (.r 0), none, (some 3), .full⟩])
  (.cond (.v 3)
    .skip
    (.seq (.reg [⟨.bin .eql (.v 2) (.c (.i .i64 7)), none, none, .full⟩,
     ⟨.mv (.r 0), none, (some 3), .full⟩])
    (.cond (.v 3)
      .skip
      (.seq (.reg [⟨.bin .eql (.v 2) (.c (.i .i64 8)), none, none, .full⟩,
       ⟨.mv (.r 0), none, (some 3), .full⟩])
      (.cond (.v 3)
        .skip
        (.seq (.reg [⟨.bin .eql (.v 2) (.c (.i .i64 9)), none, none, .full⟩,
         ⟨.mv (.r 0), none, (some 3), .full⟩])
        (.cond (.v 3)
          .skip
          (.seq (.reg [⟨.bin .eql (.v 2) (.c (.i .i64 10)), none, none, .full⟩,
           ⟨.mv (.r 0), none, (some 3), .full⟩])
          (.cond (.v 3)
            .skip
            (.seq (.reg [⟨.bin .eql (.v 2) (.c (.i .i64 11)), none, none, .full⟩,
             ⟨.mv (.r 0), none, (some 3), .full⟩])
            (.cond (.v 3)
              .skip
              (.seq (.reg [⟨.bin .eql (.v 2) (.c (.i .i64 12)), none, none, .full⟩,
               ⟨.mv (.r 0), none, (some 3), .full⟩])
              (.cond (.v 3)
                .skip
                (.seq (.reg [⟨.bin .eql (.v 2) (.c (.i .i64 13)), none, none, .full⟩,
                 ⟨.mv (.r 0), none, (some 3), .full⟩])
                (.cond (.v 3)
                  .skip
                  (.seq (.reg [⟨.bin .eql (.v 2) (.c (.i .i64 14)), none, none, .full⟩,
                   ⟨.mv (.r 0), none, (some 3), .full⟩])
                  (.cond (.v 3)
                    .skip
                    (.seq (.reg [⟨.bin .eql (.v 2) (.c (.i .i64 16)), none, none, .full⟩,
                     ⟨.mv (.r 0), none, (some 3), .full⟩])
                    (.cond (.v 3)
                      .skip
                      (.seq (.reg [⟨.bin .eql (.v 2) (.c (.i .i64 17)), none, none, .full⟩,
                       ⟨.mv (.r 0), none, (some 3), .full⟩])
                      (.cond (.v 3)
                        .skip
                        (.seq (.reg [⟨.bin .eql (.v 2) (.c (.i .i64 28)), none, none, .full⟩,
                         ⟨.mv (.r 0), none, (some 3), .full⟩])
                        (.cond (.v 3)
                          .skip
                          (.reg [⟨.bin .eql (.v 2) (.c (.i .i64 29)), none, none, .full⟩,
                           ⟨.mv (.r 0), none, (some 3), .full⟩])))))))))))))))))))))))))
  (.cond (.v 3)
    (.seq (.reg [⟨.mv (.c (.i .i64 2)), none, (some 1), .full⟩])
    .ret)
    (.seq (.seq (.reg [⟨.bin .eql (.v 2) (.c (.i .i64 4)), none, none, .full⟩,
     ⟨.mv (.r 0), none, (some 4), .full⟩])
    (.cond (.v 4)
      .skip
      (.seq (.reg [⟨.bin .eql (.v 2) (.c (.i .i64 5)), none, none, .full⟩,
       ⟨.mv (.r 0), none, (some 4), .full⟩])
      (.cond (.v 4)
        .skip
        (.seq (.reg [⟨.bin .eql (.v 2) (.c (.i .i64 15)), none, none, .full⟩,
         ⟨.mv (.r 0), none, (some 4), .full⟩])
        (.cond (.v 4)
          .skip
          (.seq (.reg [⟨.bin .eql (.v 2) (.c (.i .i64 19)), none, none, .full⟩,
           ⟨.mv (.r 0), none, (some 4), .full⟩])
          (.cond (.v 4)
            .skip
            (.seq (.reg [⟨.bin .eql (.v 2) (.c (.i .i64 21)), none, none, .full⟩,
             ⟨.mv (.r 0), none, (some 4), .full⟩])
            (.cond (.v 4)
              .skip
              (.seq (.reg [⟨.bin .eql (.v 2) (.c (.i .i64 22)), none, none, .full⟩,
               ⟨.mv (.r 0), none, (some 4), .full⟩])
              (.cond (.v 4)
                .skip
                (.seq (.reg [⟨.bin .eql (.v 2) (.c (.i .i64 23)), none, none, .full⟩,
                 ⟨.mv (.r 0), none, (some 4), .full⟩])
                (.cond (.v 4)
                  .skip
                  (.reg [⟨.bin .eql (.v 2) (.c (.i .i64 25)), none, none, .full⟩,
                   ⟨.mv (.r 0), none, (some 4), .full⟩])))))))))))))))
    (.cond (.v 4)
      (.seq (.reg [⟨.mv (.c (.i .i64 1)), none, (some 1), .full⟩])
      .ret)
      .skip))))))
  (.seq (.reg [⟨.mv (.c (.i .i64 0)), none, (some 1), .full⟩])
  .ret)))⟩
/-- solenoid/solenoidref12.puts -/
def af37 : AFunc := ⟨[(some 0), (some 1), none, none, none, none, none, none], [.v 3],
  (.seq (.reg [⟨.box (.v 1), none, (some 2), .full⟩,
   ⟨.mv (.c (.i .i64 0)), none, (some 3), .full⟩])
  (.seq (.seq (.reg [⟨.faddr 2 (.v 2), none, none, .full⟩,
   ⟨.load none (.r 0), none, (some 4), .full⟩])
  (.blk 0 (.seq (.reg [⟨.bin .eql (.v 4) (.c (.i .i64 1)), none, none, .full⟩,
   ⟨.mv (.r 0), none, (some 5), .full⟩])
  (.cond (.v 5)
    (.seq (.reg [⟨.faddr 3 (.v 2), none, none, .full⟩,
     ⟨.load none (.r 0), none, none, .full⟩,
     ⟨.mv (.r 0), none, (some 3), .full⟩])
    .ret)
    (.seq (.reg [⟨.bin .eql (.v 4) (.c (.i .i64 26)), none, none, .full⟩,
     ⟨.mv (.r 0), none, (some 6), .full⟩])
    (.cond (.v 6)
      (.seq (.reg [⟨.mv (.c (.i .i64 6)), none, (some 3), .full⟩])
      .ret)
      (.seq (.reg [⟨.bin .eql (.v 4) (.c (.i .i64 3)), none, none, .full⟩,
       ⟨.mv (.r 0), none, (some 7), .full⟩])
      (.cond (.v 7)
        (.seq (.reg [⟨.mv (.v 0), none, none, .full⟩,
         ⟨.faddr 3 (.v 2), none, none, .full⟩,
         ⟨.load none (.r 0), none, none, .full⟩,
         ⟨.iaS 6 (.r 2) (.r 0), none, none, .full⟩,
         ⟨.faddr 1 (.r 0), none, none, .full⟩,
         ⟨.load none (.r 0), none, none, .full⟩,
         ⟨.mv (.r 0), none, (some 3), .full⟩])
        .ret)
        .skip))))))))
  (.seq (.reg [⟨.mv (.c (.i .i64 5)), none, (some 3), .full⟩])
  .ret)))⟩
/-- solenoid/solenoidref11.Kind -/
def af38 : AFunc := ⟨[(some 0), (some 1), (some 2), none, none, none, none, none, none, none, none, none, none, none, none, none], [.v 3, .v 4],
  (.seq (.reg [⟨.mv (.c (.i .i64 0)), none, (some 3), .full⟩,
   ⟨.mv (.c (.i .i64 0)), none, (some 4), .full⟩])
  (.seq (.reg [⟨.mv (.v 1), none, none, .full⟩,
   ⟨.mv (.v 2), none, none, .full⟩,
   ⟨.bin .eql (.r 1) (.r 0), none, none, .full⟩,
   ⟨.mv (.r 0), none, (some 5), .full⟩])
  (.seq (.reg [⟨.mv (.c (.b false)), none, (some 6), .full⟩])
  (.seq (.reg [⟨.mv (.v 1), none, none, .full⟩,
   ⟨.mv (.r 0), none, (some 7), .full⟩])
  (.seq (.seq (.reg [⟨.mv (.v 0), none, (some 8), .full⟩])
  (.blk 0 (.seq (.seq (.reg [⟨.bin .eql (.v 8) (.c (.i .i64 7)), none, none, .full⟩,
   ⟨.mv (.r 0), none, (some 9), .full⟩])
  (.cond (.v 9)
    .skip
    (.reg [⟨.bin .eql (.v 8) (.c (.i .i64 8)), none, none, .full⟩,
     ⟨.mv (.r 0), none, (some 9), .full⟩])))
  (.cond (.v 9)
    (.reg [⟨.mv (.v 5), none, none, .full⟩,
     ⟨.mv (.r 0), none, none, .full⟩,
     ⟨.mv (.v 1), some (0, true), none, .full⟩,
     ⟨.bin .eql (.r 0) (.c (.i .i64 4)), some (1, true), none, .full⟩,
     ⟨.mv (.r 0), some (2, true), none, .full⟩,
     ⟨.mv (.v 1), some (0, false), none, .full⟩,
     ⟨.bin .eql (.r 0) (.c (.i .i64 5)), some (1, false), none, .full⟩,
     ⟨.pick (.r 2) (.c (.b true)) (.r 0), some (5, true), none, .full⟩,
     ⟨.mv (.r 0), some (6, true), none, .full⟩,
     ⟨.mv (.v 1), some (0, false), none, .full⟩,
     ⟨.bin .eql (.r 0) (.c (.i .i64 6)), some (1, false), none, .full⟩,
     ⟨.pick (.r 2) (.c (.b true)) (.r 0), some (9, true), none, .full⟩,
     ⟨.pick (.r 10) (.r 0) (.c (.b false)), none, none, .full⟩,
     ⟨.mv (.r 0), none, (some 6), .full⟩])
    (.seq (.seq (.reg [⟨.bin .eql (.v 8) (.c (.i .i64 9)), none, none, .full⟩,
     ⟨.mv (.r 0), none, (some 10), .full⟩])
    (.cond (.v 10)
      .skip
      (.seq (.reg [⟨.bin .eql (.v 8) (.c (.i .i64 10)), none, none, .full⟩,
       ⟨.mv (.r 0), none, (some 10), .full⟩])
      (.cond (.v 10)
        .skip
        (.reg [⟨.bin .eql (.v 8) (.c (.i .i64 11)), none, none, .full⟩,
         ⟨.mv (.r 0), none, (some 10), .full⟩])))))
    (.cond (.v 10)
      (.reg [⟨.mv (.v 5), none, none, .full⟩,
       ⟨.mv (.r 0), none, none, .full⟩,
       ⟨.mv (.v 1), some (0, true), none, .full⟩,
       ⟨.bin .eql (.r 0) (.c (.i .i64 4)), some (1, true), none, .full⟩,
       ⟨.mv (.r 0), some (2, true), none, .full⟩,
       ⟨.mv (.v 1), some (0, false), none, .full⟩,
       ⟨.bin .eql (.r 0) (.c (.i .i64 5)), some (1, false), none, .full⟩,
       ⟨.pick (.r 2) (.c (.b true)) (.r 0), some (5, true), none, .full⟩,
       ⟨.pick (.r 6) (.r 0) (.c (.b false)), none, none, .full⟩,
       ⟨.mv (.r 0), none, (some 6), .full⟩])
      (.seq (.seq (.reg [⟨.bin .eql (.v 8) (.c (.i .i64 12)), none, none, .full⟩,
       ⟨.mv (.r 0), none, (some 11), .full⟩])
      (.cond (.v 11)
        .skip
        (.seq (.reg [⟨.bin .eql (.v 8) (.c (.i .i64 13)), none, none, .full⟩,
         ⟨.mv (.r 0), none, (some 11), .full⟩])
        (.cond (.v 11)
          .skip
          (.reg [⟨.bin .eql (.v 8) (.c (.i .i64 14)), none, none, .full⟩,
           ⟨.mv (.r 0), none, (some 11), .full⟩])))))
      (.cond (.v 11)
        (.reg [⟨.mv (.v 5), none, none, .full⟩,
         ⟨.mv (.r 0), none, none, .full⟩,
         ⟨.mv (.v 1), some (0, true), none, .full⟩,
         ⟨.bin .eql (.r 0) (.c (.i .i64 1)), some (1, true), none, .full⟩,
         ⟨.mv (.r 0), some (2, true), none, .full⟩,
         ⟨.mv (.v 1), some (0, false), none, .full⟩,
         ⟨.bin .eql (.r 0) (.c (.i .i64 2)), some (1, false), none, .full⟩,
         ⟨.pick (.r 2) (.c (.b true)) (.r 0), some (5, true), none, .full⟩,
         ⟨.mv (.r 0), some (6, true), none, .full⟩,
         ⟨.mv (.v 1), some (0, false), none, .full⟩,
         ⟨.bin .eql (.r 0) (.c (.i .i64 3)), some (1, false), none, .full⟩,
         ⟨.pick (.r 2) (.c (.b true)) (.r 0), some (9, true), none, .full⟩,
         ⟨.pick (.r 10) (.r 0) (.c (.b false)), none, none, .full⟩,
         ⟨.mv (.r 0), none, (some 6), .full⟩])
        (.seq (.reg [⟨.bin .eql (.v 8) (.c (.i .i64 16)), none, none, .full⟩,
         ⟨.mv (.r 0), none, (some 12), .full⟩])
        (.cond (.v 12)
          (.reg [⟨.mv (.v 5), none, none, .full⟩,
           ⟨.mv (.r 0), none, none, .full⟩,
           ⟨.mv (.v 1), some (0, true), none, .full⟩,
           ⟨.call (.c (.f 35 [] [])) [(.r 0)], some (1, true), none, .full⟩,
           ⟨.pick (.r 2) (.r 0) (.c (.b false)), none, none, .full⟩,
           ⟨.mv (.r 0), none, (some 6), .full⟩,
           ⟨.mv (.c (.i .i64 1)), none, (some 7), .full⟩])
          (.seq (.reg [⟨.bin .eql (.v 8) (.c (.i .i64 17)), none, none, .full⟩,
           ⟨.mv (.r 0), none, (some 13), .full⟩])
          (.cond (.v 13)
            (.reg [⟨.mv (.v 5), none, none, .full⟩,
             ⟨.mv (.r 0), none, none, .full⟩,
             ⟨.mv (.v 1), some (0, true), none, .full⟩,
             ⟨.call (.c (.f 35 [] [])) [(.r 0)], some (1, true), none, .full⟩,
             ⟨.pick (.r 2) (.r 0) (.c (.b false)), none, none, .full⟩,
             ⟨.mv (.r 0), none, none, .full⟩,
             ⟨.mv (.v 1), some (0, true), none, .full⟩,
             ⟨.bin .neq (.r 0) (.c (.i .i64 1)), some (1, true), none, .full⟩,
             ⟨.pick (.r 2) (.r 0) (.c (.b false)), none, none, .full⟩,
             ⟨.mv (.r 0), none, (some 6), .full⟩,
             ⟨.mv (.c (.i .i64 1)), none, (some 7), .full⟩])
            (.seq (.seq (.reg [⟨.bin .eql (.v 8) (.c (.i .i64 28)), none, none, .full⟩,
             ⟨.mv (.r 0), none, (some 14), .full⟩])
            (.cond (.v 14)
              .skip
              (.reg [⟨.bin .eql (.v 8) (.c (.i .i64 29)), none, none, .full⟩,
               ⟨.mv (.r 0), none, (some 14), .full⟩])))
            (.cond (.v 14)
              (.reg [⟨.mv (.v 1), none, none, .full⟩,
               ⟨.bin .eql (.r 0) (.c (.i .i64 2)), none, none, .full⟩,
               ⟨.mv (.r 0), none, none, .full⟩,
               ⟨.mv (.v 1), some (0, false), none, .full⟩,
               ⟨.bin .eql (.r 0) (.c (.i .i64 3)), some (1, false), none, .full⟩,
               ⟨.pick (.r 2) (.c (.b true)) (.r 0), none, none, .full⟩,
               ⟨.mv (.r 0), none, none, .full⟩,
               ⟨.mv (.v 2), some (0, true), none, .full⟩,
               ⟨.bin .eql (.r 0) (.c (.i .i64 5)), some (1, true), none, .full⟩,
               ⟨.pick (.r 2) (.r 0) (.c (.b false)), none, none, .full⟩,
               ⟨.mv (.r 0), none, (some 6), .full⟩])
              (.seq (.reg [⟨.mv (.c (.i .i64 0)), none, (some 3), .full⟩,
               ⟨.mv (.c (.i .i64 3)), none, (some 4), .full⟩])
              .ret)))))))))))))))
  (.seq (.seq (.reg [⟨.mv (.v 6), none, none, .full⟩,
   ⟨.un .not (.r 0), none, (some 15), .full⟩])
  (.cond (.v 15)
    (.seq (.reg [⟨.mv (.c (.i .i64 0)), none, (some 3), .full⟩,
     ⟨.mv (.c (.i .i64 19)), none, (some 4), .full⟩])
    .ret)
    .skip))
  (.seq (.reg [⟨.mv (.v 7), none, none, .full⟩,
   ⟨.mv (.r 0), none, (some 3), .full⟩,
   ⟨.mv (.c (.i .i64 0)), none, (some 4), .full⟩])
  .ret)))))))⟩
/-- (*solenoid/instr.source).byte -/
def af39 : AFunc := ⟨[(some 0), none], [.v 1],
  (.seq (.reg [⟨.mv (.c (.i .i64 0)), none, (some 1), .full⟩])
  (.seq (.reg [⟨.mv (.v 0), none, none, .full⟩,
   ⟨.nilck (.r 0), none, none, .full⟩,
   ⟨.faddr 1 (.r 0), none, none, .full⟩,
   ⟨.load none (.r 0), none, none, .full⟩,
   ⟨.bin .add (.r 0) (.c (.i .i64 1)), none, none, .full⟩,
   ⟨.nilck (.r 4), none, none, .full⟩,
   ⟨.faddr 1 (.r 0), none, none, .full⟩,
   ⟨.store 1 (.r 0) (.r 2), none, none, .full⟩])
  (.seq (.reg [⟨.mv (.v 0), none, none, .new⟩,
   ⟨.nilck (.r 0), none, none, .new⟩,
   ⟨.faddr 0 (.r 0), none, none, .new⟩,
   ⟨.load none (.r 0), none, none, .new⟩,
   ⟨.mv (.v 0), none, none, .new⟩,
   ⟨.nilck (.r 0), none, none, .new⟩,
   ⟨.faddr 1 (.r 0), none, none, .new⟩,
   ⟨.load none (.r 0), none, none, .new⟩,
   ⟨.bin .sub (.r 0) (.c (.i .i64 1)), none, none, .new⟩,
   ⟨.iaS 1 (.r 5) (.r 0), none, none, .full⟩,
   ⟨.load none (.r 0), none, none, .full⟩,
   ⟨.conv .i64 (.r 0), none, none, .full⟩,
   ⟨.mv (.r 0), none, (some 1), .full⟩])
  .ret)))⟩
/-- solenoid/instr.bears -/
def af40 : AFunc := ⟨[(some 0), none, none, none, none, none], [.v 1],
  (.seq (.reg [⟨.mv (.c (.i .i64 0)), none, (some 1), .full⟩])
  (.seq (.reg [⟨.mv (.c (.i .i64 0)), none, (some 2), .full⟩])
  (.seq (.seq (.reg [⟨.mv (.v 0), none, (some 3), .full⟩])
  (.blk 0 (.seq (.blk 2 (.seq (.blk 1 (.seq (.seq (.seq (.reg [⟨.bin .eql (.v 3) (.c (.i .i64 1)), none, none, .full⟩,
   ⟨.mv (.r 0), none, (some 4), .full⟩])
  (.cond (.v 4)
    (.exit 1)
    .skip))
  (.seq (.seq (.reg [⟨.bin .eql (.v 3) (.c (.i .i64 2)), none, none, .full⟩,
   ⟨.mv (.r 0), none, (some 5), .full⟩])
  (.cond (.v 5)
    .skip
    (.seq (.reg [⟨.bin .eql (.v 3) (.c (.i .i64 3)), none, none, .full⟩,
     ⟨.mv (.r 0), none, (some 5), .full⟩])
    (.cond (.v 5)
      .skip
      (.seq (.reg [⟨.bin .eql (.v 3) (.c (.i .i64 4)), none, none, .full⟩,
       ⟨.mv (.r 0), none, (some 5), .full⟩])
      (.cond (.v 5)
        .skip
        (.seq (.reg [⟨.bin .eql (.v 3) (.c (.i .i64 5)), none, none, .full⟩,
         ⟨.mv (.r 0), none, (some 5), .full⟩])
        (.cond (.v 5)
          .skip
          (.seq (.reg [⟨.bin .eql (.v 3) (.c (.i .i64 6)), none, none, .full⟩,
           ⟨.mv (.r 0), none, (some 5), .full⟩])
          (.cond (.v 5)
            .skip
            (.seq (.reg [⟨.bin .eql (.v 3) (.c (.i .i64 18)), none, none, .full⟩,
             ⟨.mv (.r 0), none, (some 5), .full⟩])
            (.cond (.v 5)
              .skip
              (.seq (.reg [⟨.bin .eql (.v 3) (.c (.i .i64 19)), none, none, .full⟩,
               ⟨.mv (.r 0), none, (some 5), .full⟩])
              (.cond (.v 5)
                .skip
                (.seq (.reg [⟨.bin .eql (.v 3) (.c (.i .i64 20)), none, none, .full⟩,
                 ⟨.mv (.r 0), none, (some 5), .full⟩])
                (.cond (.v 5)
                  .skip
                  (.seq (.reg [⟨.bin .eql (.v 3) (.c (.i .i64 23)), none, none, .full⟩,
                   ⟨.mv (.r 0), none, (some 5), .full⟩])
                  (.cond (.v 5)
                    .skip
                    (.seq (.reg [⟨.bin .eql (.v 3) (.c (.i .i64 24)), none, none, .full⟩,
                     ⟨.mv (.r 0), none, (some 5), .full⟩])
                    (.cond (.v 5)
                      .skip
                      (.seq (.reg [⟨.bin .eql (.v 3) (.c (.i .i64 25)), none, none, .full⟩,
                       ⟨.mv (.r 0), none, (some 5), .full⟩])
                      (.cond (.v 5)
                        .skip
                        (.reg [⟨.bin .eql (.v 3) (.c (.i .i64 27)), none, none, .full⟩,
                         ⟨.mv (.r 0), none, (some 5), .full⟩])))))))))))))))))))))))
  (.cond (.v 5)
    (.exit 2)
    .skip)))
  (.exit 0)))
  (.reg [⟨.mv (.c (.i .i64 8)), none, (some 2), .full⟩])))
  (.seq (.reg [⟨.mv (.v 2), none, none, .full⟩,
   ⟨.bin .add (.r 0) (.c (.i .i64 1)), none, none, .full⟩,
   ⟨.mv (.r 0), none, (some 2), .full⟩])
  (.exit 0)))))
  (.seq (.reg [⟨.mv (.v 2), none, none, .full⟩,
   ⟨.mv (.r 0), none, (some 1), .full⟩])
  .ret))))⟩
/-- (*solenoid/instr.source).number -/
def af41 : AFunc := ⟨[(some 0), none, none, none, none, none], [.v 1],
  (.seq (.reg [⟨.mv (.c (.i .i64 0)), none, (some 1), .full⟩])
  (.seq (.reg [⟨.mv (.c (.i .u64 0)), none, (some 2), .full⟩])
  (.seq (.seq (.reg [⟨.mv (.c (.i .i64 0)), none, (some 4), .full⟩])
  (.blk 0 (.loop
    (.seq (.reg [⟨.bin .lss (.v 4) (.c (.i .i64 8)), none, (some 5), .full⟩])
    (.seq (.cond (.v 5)
      .skip
      (.exit 0))
    (.seq (.blk 1 (.seq (.reg [⟨.mv (.v 4), none, none, .full⟩,
     ⟨.mv (.r 0), none, (some 3), .full⟩])
    (.reg [⟨.mv (.v 2), none, none, .full⟩,
     ⟨.mv (.v 0), none, none, .full⟩,
     ⟨.call (.c (.f 39 [] [])) [(.r 0)], none, none, .full⟩,
     ⟨.conv .u64 (.r 0), none, none, .full⟩,
     ⟨.mv (.v 3), none, none, .full⟩,
     ⟨.bin .mul (.c (.i .i64 8)) (.r 0), none, none, .full⟩,
     ⟨.bin .shl (.r 2) (.r 0), none, none, .full⟩,
     ⟨.bin .or (.r 6) (.r 0), none, none, .full⟩,
     ⟨.mv (.r 0), none, (some 2), .full⟩])))
    (.reg [⟨.bin .add (.v 4) (.c (.i .i64 1)), none, none, .full⟩,
     ⟨.mv (.r 0), none, (some 4), .full⟩])))))))
  (.seq (.reg [⟨.mv (.v 2), none, none, .full⟩,
   ⟨.conv .i64 (.r 0), none, none, .full⟩,
   ⟨.mv (.r 0), none, (some 1), .full⟩])
  .ret))))⟩
/-- solenoid/kinds.value -/
def af42 : AFunc := ⟨[(some 0), none], [.v 1],
  (.seq (.reg [⟨.mv (.c (.b false)), none, (some 1), .full⟩])
  (.seq (.reg [⟨.mv (.v 0), none, none, .full⟩,
   ⟨.bin .geq (.r 0) (.c (.i .i64 1)), none, none, .full⟩,
   ⟨.mv (.r 0), none, none, .full⟩,
   ⟨.mv (.v 0), some (0, true), none, .full⟩,
   ⟨.bin .leq (.r 0) (.c (.i .i64 6)), some (1, true), none, .full⟩,
   ⟨.pick (.r 2) (.r 0) (.c (.b false)), none, none, .full⟩,
   ⟨.mv (.r 0), none, (some 1), .full⟩])
  .ret))⟩
/-- solenoid/kinds.Fields -/
def af43 : AFunc := ⟨[(some 0), none, none, none, none, none, none], [.v 2],
  (.seq (.reg [⟨.box (.v 0), none, (some 1), .full⟩,
   ⟨.mv (.c .nils), none, (some 2), .full⟩])
  (.seq (.seq (.reg [⟨.faddr 0 (.v 1), none, none, .full⟩,
   ⟨.load none (.r 0), none, (some 3), .full⟩])
  (.blk 0 (.seq (.reg [⟨.bin .eql (.v 3) (.c (.i .i64 8)), none, none, .full⟩,
   ⟨.mv (.r 0), none, (some 4), .full⟩])
  (.cond (.v 4)
    (.seq (.reg [⟨.faddr 3 (.v 1), none, none, .full⟩,
     ⟨.load none (.r 0), none, none, .full⟩,
     ⟨.call (.c (.f 54 [] [])) [(.r 0)], none, none, .full⟩,
     ⟨.mv (.r 0), none, (some 2), .full⟩])
    .ret)
    (.seq (.reg [⟨.bin .eql (.v 3) (.c (.i .i64 9)), none, none, .full⟩,
     ⟨.mv (.r 0), none, (some 5), .full⟩])
    (.cond (.v 5)
      (.seq (.reg [⟨.build [(.s []), (.i .i64 0)] [(0, 1, (.c (.s [73, 78]))), (1, 1, (.c (.i .i64 1)))], none, none, .full⟩,
       ⟨.build [(.s []), (.i .i64 0)] [(0, 1, (.c (.s [80, 84]))), (1, 1, (.c (.i .i64 6)))], none, none, .full⟩,
       ⟨.build [(.s []), (.i .i64 0)] [(0, 1, (.c (.s [81]))), (1, 1, (.c (.i .i64 1)))], none, none, .full⟩,
       ⟨.build [(.s []), (.i .i64 0)] [(0, 1, (.c (.s [69, 84]))), (1, 1, (.c (.i .i64 6)))], none, none, .full⟩,
       ⟨.build [(.s []), (.i .i64 0)] [(0, 1, (.c (.s [84, 48]))), (1, 1, (.c (.i .i64 6)))], none, none, .full⟩,
       ⟨.build [(.s []), (.i .i64 0)] [(0, 1, (.c (.s [82, 85, 78]))), (1, 1, (.c (.i .i64 1)))], none, none, .full⟩,
       ⟨.buildSl 6 2 [(.s []), (.i .i64 0)] [(0, 2, (.r 5)), (2, 2, (.r 4)), (4, 2, (.r 3)), (6, 2, (.r 2)), (8, 2, (.r 1)), (10, 2, (.r 0))], none, none, .full⟩,
       ⟨.call (.c (.f 54 [] [])) [(.r 0)], none, none, .full⟩,
       ⟨.mv (.r 0), none, (some 2), .full⟩])
      .ret)
      (.seq (.reg [⟨.bin .eql (.v 3) (.c (.i .i64 10)), none, none, .full⟩,
       ⟨.mv (.r 0), none, (some 6), .full⟩])
      (.cond (.v 6)
        (.seq (.reg [⟨.build [(.s []), (.i .i64 0)] [(0, 1, (.c (.s [67, 85]))), (1, 1, (.c (.i .i64 1)))], none, none, .full⟩,
         ⟨.build [(.s []), (.i .i64 0)] [(0, 1, (.c (.s [82]))), (1, 1, (.c (.i .i64 1)))], none, none, .full⟩,
         ⟨.build [(.s []), (.i .i64 0)] [(0, 1, (.c (.s [80, 86]))), (1, 1, (.c (.i .i64 5)))], none, none, .full⟩,
         ⟨.build [(.s []), (.i .i64 0)] [(0, 1, (.c (.s [81]))), (1, 1, (.c (.i .i64 1)))], none, none, .full⟩,
         ⟨.build [(.s []), (.i .i64 0)] [(0, 1, (.c (.s [67, 86]))), (1, 1, (.c (.i .i64 5)))], none, none, .full⟩,
         ⟨.build [(.s []), (.i .i64 0)] [(0, 1, (.c (.s [79, 76, 68]))), (1, 1, (.c (.i .i64 1)))], none, none, .full⟩,
         ⟨.buildSl 6 2 [(.s []), (.i .i64 0)] [(0, 2, (.r 5)), (2, 2, (.r 4)), (4, 2, (.r 3)), (6, 2, (.r 2)), (8, 2, (.r 1)), (10, 2, (.r 0))], none, none, .full⟩,
         ⟨.call (.c (.f 54 [] [])) [(.r 0)], none, none, .full⟩,
         ⟨.mv (.r 0), none, (some 2), .full⟩])
        .ret)
        .skip))))))))
  (.seq (.reg [⟨.mv (.c .nils), none, (some 2), .full⟩])
  .ret)))⟩
/-- strconv.Itoa -/
def af44 : AFunc := ⟨[(some 0), none], [.v 1],
  (.seq (.reg [⟨.mv (.c (.s [])), none, (some 1), .full⟩])
  (.seq (.reg [⟨.mv (.v 0), none, none, .full⟩,
   ⟨.call (.c (.f 55 [] [])) [(.r 0)], none, none, .full⟩,
   ⟨.mv (.r 0), none, (some 1), .full⟩])
  .ret))⟩
/-- (*solenoid/check.program).bears -/
def af45 : AFunc := ⟨[(some 0), (some 1), none, none, none, none, none, none, none, none, none, none, none, none, none, none], [.v 3],
  (.seq (.reg [⟨.box (.v 1), none, (some 2), .full⟩,
   ⟨.mv (.c (.i .i64 0)), none, (some 3), .full⟩])
  (.seq (.reg [⟨.mv (.v 0), none, none, .full⟩,
   ⟨.faddr 3 (.v 2), none, none, .full⟩,
   ⟨.load none (.r 0), none, none, .full⟩,
   ⟨.call (.c (.f 56 [] [])) [(.r 2), (.r 0)], none, none, .full⟩,
   ⟨.box (.c (.agg [(.s []), (.i .i64 0), (.b false), (.i .i64 0), (.i .i64 0), (.i .i64 0)])), none, (some 4), .full⟩,
   ⟨.store 6 (.r 0) (.r 1), none, none, .full⟩])
  (.seq (.seq (.reg [⟨.faddr 2 (.v 2), none, none, .full⟩,
   ⟨.load none (.r 0), none, (some 5), .full⟩])
  (.blk 0 (.seq (.blk 6 (.seq (.blk 5 (.seq (.blk 4 (.seq (.blk 3 (.seq (.blk 2 (.seq (.blk 1 (.seq (.seq (.seq (.reg [⟨.bin .eql (.v 5) (.c (.i .i64 1)), none, none, .full⟩,
   ⟨.mv (.r 0), none, (some 6), .full⟩])
  (.cond (.v 6)
    (.exit 1)
    .skip))
  (.seq (.seq (.reg [⟨.bin .eql (.v 5) (.c (.i .i64 23)), none, none, .full⟩,
   ⟨.mv (.r 0), none, (some 7), .full⟩])
  (.cond (.v 7)
    (.exit 2)
    .skip))
  (.seq (.seq (.reg [⟨.bin .eql (.v 5) (.c (.i .i64 2)), none, none, .full⟩,
   ⟨.mv (.r 0), none, (some 8), .full⟩])
  (.cond (.v 8)
    (.exit 3)
    .skip))
  (.seq (.seq (.reg [⟨.bin .eql (.v 5) (.c (.i .i64 20)), none, none, .full⟩,
   ⟨.mv (.r 0), none, (some 9), .full⟩])
  (.cond (.v 9)
    (.exit 4)
    .skip))
  (.seq (.seq (.reg [⟨.bin .eql (.v 5) (.c (.i .i64 24)), none, none, .full⟩,
   ⟨.mv (.r 0), none, (some 10), .full⟩])
  (.cond (.v 10)
    .skip
    (.reg [⟨.bin .eql (.v 5) (.c (.i .i64 25)), none, none, .full⟩,
     ⟨.mv (.r 0), none, (some 10), .full⟩])))
  (.cond (.v 10)
    (.exit 5)
    .skip))))))
  (.exit 6)))
  (.seq (.reg [⟨.faddr 3 (.v 2), none, none, .full⟩,
   ⟨.load none (.r 0), none, none, .full⟩,
   ⟨.call (.c (.f 57 [] [])) [(.r 0)], none, none, .full⟩,
   ⟨.mv (.r 0), none, none, .full⟩,
   ⟨.faddr 3 (.v 2), some (0, true), none, .new⟩,
   ⟨.load none (.r 0), some (1, true), none, .new⟩,
   ⟨.faddr 4 (.v 2), some (2, true), none, .new⟩,
   ⟨.load none (.r 0), some (3, true), none, .new⟩,
   ⟨.call (.c (.f 58 [] [])) [(.r 2), (.r 0)], some (4, true), none, .new⟩,
   ⟨.faddr 4 (.v 2), some (5, true), none, .new⟩,
   ⟨.load none (.r 0), some (6, true), none, .new⟩,
   ⟨.bin .neq (.r 2) (.r 0), some (7, true), none, .full⟩,
   ⟨.pick (.r 8) (.r 0) (.c (.b false)), none, (some 11), .full⟩])
  (.cond (.v 11)
    (.seq (.reg [⟨.mv (.c (.i .i64 11)), none, (some 3), .full⟩])
    .ret)
    .skip))))
  (.seq (.seq (.reg [⟨.faddr 3 (.v 2), none, none, .full⟩,
   ⟨.load none (.r 0), none, none, .full⟩,
   ⟨.call (.c (.f 57 [] [])) [(.r 0)], none, none, .full⟩,
   ⟨.un .not (.r 0), none, (some 12), .full⟩])
  (.cond (.v 12)
    (.seq (.reg [⟨.mv (.c (.i .i64 3)), none, (some 3), .full⟩])
    .ret)
    .skip))
  (.exit 0))))
  (.seq (.seq (.reg [⟨.faddr 3 (.v 2), none, none, .new⟩,
   ⟨.load none (.r 0), none, none, .new⟩,
   ⟨.mv (.v 0), none, none, .new⟩,
   ⟨.nilck (.r 0), none, none, .new⟩,
   ⟨.faddr 0 (.r 0), none, none, .new⟩,
   ⟨.faddr 1 (.r 0), none, none, .new⟩,
   ⟨.load none (.r 0), none, none, .new⟩,
   ⟨.len 1 (.r 0), none, none, .new⟩,
   ⟨.bin .geq (.r 6) (.r 0), none, (some 13), .full⟩])
  (.cond (.v 13)
    (.seq (.reg [⟨.mv (.c (.i .i64 2)), none, (some 3), .full⟩])
    .ret)
    .skip))
  (.exit 0))))
  (.seq (.seq (.reg [⟨.faddr 3 (.v 2), none, none, .new⟩,
   ⟨.load none (.r 0), none, none, .new⟩,
   ⟨.mv (.v 0), none, none, .new⟩,
   ⟨.nilck (.r 0), none, none, .new⟩,
   ⟨.faddr 0 (.r 0), none, none, .new⟩,
   ⟨.faddr 2 (.r 0), none, none, .new⟩,
   ⟨.load none (.r 0), none, none, .new⟩,
   ⟨.len 1 (.r 0), none, none, .new⟩,
   ⟨.bin .geq (.r 6) (.r 0), none, (some 14), .full⟩])
  (.cond (.v 14)
    (.seq (.reg [⟨.mv (.c (.i .i64 20)), none, (some 3), .full⟩])
    .ret)
    .skip))
  (.exit 0))))
  (.seq (.seq (.reg [⟨.faddr 3 (.v 2), none, none, .full⟩,
   ⟨.load none (.r 0), none, none, .full⟩,
   ⟨.bin .geq (.r 0) (.c (.i .i64 4)), none, (some 15), .full⟩])
  (.cond (.v 15)
    (.seq (.reg [⟨.mv (.c (.i .i64 1)), none, (some 3), .full⟩])
    .ret)
    .skip))
  (.exit 0))))
  (.seq (.seq (.reg [⟨.faddr 2 (.v 2), none, none, .new⟩,
   ⟨.load none (.r 0), none, none, .new⟩,
   ⟨.faddr 3 (.v 2), none, none, .new⟩,
   ⟨.load none (.r 0), none, none, .new⟩,
   ⟨.mv (.v 0), none, none, .new⟩,
   ⟨.nilck (.r 0), none, none, .new⟩,
   ⟨.faddr 3 (.r 0), none, none, .new⟩,
   ⟨.load none (.r 0), none, none, .new⟩,
   ⟨.len 1 (.r 0), none, none, .new⟩,
   ⟨.bin .geq (.r 5) (.r 0), none, none, .new⟩,
   ⟨.load (some 6) (.v 4), none, none, .new⟩,
   ⟨.call (.c (.f 59 [] [])) [(.r 9), (.r 1), (.r 0)], none, none, .full⟩,
   ⟨.mv (.r 0), none, (some 3), .full⟩])
  .ret)
  (.exit 0)))))
  (.seq (.reg [⟨.mv (.c (.i .i64 0)), none, (some 3), .full⟩])
  .ret))))⟩
/-- (*solenoid/check.program).takes -/
def af46 : AFunc := ⟨[(some 0), (some 1), none, none, none, none, none, none, none, none, none], [.v 3],
  (.seq (.reg [⟨.box (.v 1), none, (some 2), .full⟩,
   ⟨.mv (.c .nils), none, (some 3), .full⟩])
  (.seq (.seq (.reg [⟨.faddr 2 (.v 2), none, none, .full⟩,
   ⟨.load none (.r 0), none, (some 4), .full⟩])
  (.blk 0 (.seq (.reg [⟨.bin .eql (.v 4) (.c (.i .i64 4)), none, none, .full⟩,
   ⟨.mv (.r 0), none, (some 5), .full⟩])
  (.cond (.v 5)
    (.seq (.reg [⟨.mv (.v 0), none, none, .full⟩,
     ⟨.faddr 3 (.v 2), none, none, .full⟩,
     ⟨.load none (.r 0), none, none, .full⟩,
     ⟨.call (.c (.f 56 [] [])) [(.r 2), (.r 0)], none, none, .full⟩,
     ⟨.fld 1 none (.r 0), none, none, .full⟩,
     ⟨.buildSl 1 1 [(.i .i64 0)] [(0, 1, (.r 0))], none, none, .full⟩,
     ⟨.mv (.r 0), none, (some 3), .full⟩])
    .ret)
    (.seq (.seq (.reg [⟨.bin .eql (.v 4) (.c (.i .i64 5)), none, none, .full⟩,
     ⟨.mv (.r 0), none, (some 6), .full⟩])
    (.cond (.v 6)
      .skip
      (.reg [⟨.bin .eql (.v 4) (.c (.i .i64 25)), none, none, .full⟩,
       ⟨.mv (.r 0), none, (some 6), .full⟩])))
    (.cond (.v 6)
      (.seq (.reg [⟨.buildSl 1 1 [(.i .i64 0)] [(0, 1, (.c (.i .i64 5)))], none, none, .full⟩,
       ⟨.mv (.r 0), none, (some 3), .full⟩])
      .ret)
      (.seq (.reg [⟨.bin .eql (.v 4) (.c (.i .i64 6)), none, none, .full⟩,
       ⟨.mv (.r 0), none, (some 7), .full⟩])
      (.cond (.v 7)
        (.seq (.reg [⟨.mv (.v 0), none, none, .full⟩,
         ⟨.faddr 3 (.v 2), none, none, .full⟩,
         ⟨.load none (.r 0), none, none, .full⟩,
         ⟨.call (.c (.f 56 [] [])) [(.r 2), (.r 0)], none, none, .full⟩,
         ⟨.fld 1 none (.r 0), none, none, .full⟩,
         ⟨.buildSl 2 1 [(.i .i64 0)] [(0, 1, (.c (.i .i64 5))), (1, 1, (.r 0))], none, none, .full⟩,
         ⟨.mv (.r 0), none, (some 3), .full⟩])
        .ret)
        (.seq (.reg [⟨.bin .eql (.v 4) (.c (.i .i64 19)), none, none, .full⟩,
         ⟨.mv (.r 0), none, (some 8), .full⟩])
        (.cond (.v 8)
          (.seq (.reg [⟨.buildSl 1 1 [(.i .i64 0)] [(0, 1, (.c (.i .i64 1)))], none, none, .full⟩,
           ⟨.mv (.r 0), none, (some 3), .full⟩])
          .ret)
          (.seq (.seq (.reg [⟨.bin .eql (.v 4) (.c (.i .i64 21)), none, none, .full⟩,
           ⟨.mv (.r 0), none, (some 9), .full⟩])
          (.cond (.v 9)
            .skip
            (.seq (.reg [⟨.bin .eql (.v 4) (.c (.i .i64 22)), none, none, .full⟩,
             ⟨.mv (.r 0), none, (some 9), .full⟩])
            (.cond (.v 9)
              .skip
              (.seq (.reg [⟨.bin .eql (.v 4) (.c (.i .i64 23)), none, none, .full⟩,
               ⟨.mv (.r 0), none, (some 9), .full⟩])
              (.cond (.v 9)
                .skip
                (.reg [⟨.bin .eql (.v 4) (.c (.i .i64 15)), none, none, .full⟩,
                 ⟨.mv (.r 0), none, (some 9), .full⟩])))))))
          (.cond (.v 9)
            (.seq (.reg [⟨.buildSl 1 1 [(.i .i64 0)] [(0, 1, (.c (.i .i64 0)))], none, none, .full⟩,
             ⟨.mv (.r 0), none, (some 3), .full⟩])
            .ret)
            (.seq (.seq (.reg [⟨.bin .eql (.v 4) (.c (.i .i64 7)), none, none, .full⟩,
             ⟨.mv (.r 0), none, (some 10), .full⟩])
            (.cond (.v 10)
              .skip
              (.seq (.reg [⟨.bin .eql (.v 4) (.c (.i .i64 8)), none, none, .full⟩,
               ⟨.mv (.r 0), none, (some 10), .full⟩])
              (.cond (.v 10)
                .skip
                (.seq (.reg [⟨.bin .eql (.v 4) (.c (.i .i64 9)), none, none, .full⟩,
                 ⟨.mv (.r 0), none, (some 10), .full⟩])
                (.cond (.v 10)
                  .skip
                  (.seq (.reg [⟨.bin .eql (.v 4) (.c (.i .i64 10)), none, none, .full⟩,
                   ⟨.mv (.r 0), none, (some 10), .full⟩])
                  (.cond (.v 10)
                    .skip
                    (.seq (.reg [⟨.bin .eql (.v 4) (.c (.i .i64 11)), none, none, .full⟩,
                     ⟨.mv (.r 0), none, (some 10), .full⟩])
                    (.cond (.v 10)
                      .skip
                      (.seq (.reg [⟨.bin .eql (.v 4) (.c (.i .i64 12)), none, none, .full⟩,
                       ⟨.mv (.r 0), none, (some 10), .full⟩])
                      (.cond (.v 10)
                        .skip
                        (.seq (.reg [⟨.bin .eql (.v 4) (.c (.i .i64 13)), none, none, .full⟩,
                         ⟨.mv (.r 0), none, (some 10), .full⟩])
                        (.cond (.v 10)
                          .skip
                          (.seq (.reg [⟨.bin .eql (.v 4) (.c (.i .i64 14)), none, none, .full⟩,
                           ⟨.mv (.r 0), none, (some 10), .full⟩])
                          (.cond (.v 10)
                            .skip
                            (.seq (.reg [⟨.bin .eql (.v 4) (.c (.i .i64 16)), none, none, .full⟩,
                             ⟨.mv (.r 0), none, (some 10), .full⟩])
                            (.cond (.v 10)
                              .skip
                              (.seq (.reg [⟨.bin .eql (.v 4) (.c (.i .i64 17)), none, none, .full⟩,
                               ⟨.mv (.r 0), none, (some 10), .full⟩])
                              (.cond (.v 10)
                                .skip
                                (.seq (.reg [⟨.bin .eql (.v 4) (.c (.i .i64 28)), none, none, .full⟩,
                                 ⟨.mv (.r 0), none, (some 10), .full⟩])
                                (.cond (.v 10)
                                  .skip
                                  (.reg [⟨.bin .eql (.v 4) (.c (.i .i64 29)), none, none, .full⟩,
                                   ⟨.mv (.r 0), none, (some 10), .full⟩])))))))))))))))))))))))
            (.cond (.v 10)
              (.seq (.reg [⟨.buildSl 2 1 [(.i .i64 0)] [(0, 1, (.c (.i .i64 0))), (1, 1, (.c (.i .i64 0)))], none, none, .full⟩,
               ⟨.mv (.r 0), none, (some 3), .full⟩])
              .ret)
              .skip))))))))))))))
  (.seq (.reg [⟨.mv (.c .nils), none, (some 3), .full⟩])
  .ret)))⟩
/-- slices.Clone[solenoid/check.stack,int] -/
def af47 : AFunc := ⟨[(some 0), none, none], [.v 1],
  (.seq (.reg [⟨.mv (.c .nils), none, (some 1), .full⟩])
  (.seq (.seq (.reg [⟨.mv (.v 0), none, none, .full⟩,
   ⟨.eq false 2 (.r 0) (.c .nils), none, (some 2), .full⟩])
  (.cond (.v 2)
    (.seq (.reg [⟨.mv (.c .nils), none, (some 1), .full⟩])
    .ret)
    .skip))
  (.seq (.reg [⟨.buildSl 0 1 [(.i .i64 0)] [], none, none, .full⟩,
   ⟨.mv (.v 0), none, none, .full⟩,
   ⟨.append 1 8 (.r 1) (.r 0), none, none, .full⟩,
   ⟨.mv (.r 0), none, (some 1), .full⟩])
  .ret)))⟩
/-- (*solenoid/check.program).puts -/
def af48 : AFunc := ⟨[(some 0), (some 1), (some 2), none, none, none, none, none, none, none, none, none, none, none, none, none, none], [.v 4, .v 5],
  (.seq (.reg [⟨.box (.v 1), none, (some 3), .full⟩,
   ⟨.mv (.c .nils), none, (some 4), .full⟩,
   ⟨.mv (.c (.i .i64 0)), none, (some 5), .full⟩])
  (.seq (.seq (.reg [⟨.faddr 2 (.v 3), none, none, .full⟩,
   ⟨.load none (.r 0), none, (some 8), .full⟩])
  (.blk 0 (.seq (.seq (.reg [⟨.bin .eql (.v 8) (.c (.i .i64 1)), none, none, .full⟩,
   ⟨.mv (.r 0), none, (some 9), .full⟩])
  (.cond (.v 9)
    .skip
    (.reg [⟨.bin .eql (.v 8) (.c (.i .i64 23)), none, none, .full⟩,
     ⟨.mv (.r 0), none, (some 9), .full⟩])))
  (.cond (.v 9)
    (.seq (.reg [⟨.faddr 3 (.v 3), none, none, .full⟩,
     ⟨.load none (.r 0), none, none, .full⟩,
     ⟨.buildSl 1 1 [(.i .i64 0)] [(0, 1, (.r 0))], none, none, .full⟩,
     ⟨.mv (.r 0), none, (some 4), .full⟩,
     ⟨.mv (.c (.i .i64 0)), none, (some 5), .full⟩])
    .ret)
    (.seq (.seq (.reg [⟨.bin .eql (.v 8) (.c (.i .i64 2)), none, none, .full⟩,
     ⟨.mv (.r 0), none, (some 10), .full⟩])
    (.cond (.v 10)
      .skip
      (.reg [⟨.bin .eql (.v 8) (.c (.i .i64 24)), none, none, .full⟩,
       ⟨.mv (.r 0), none, (some 10), .full⟩])))
    (.cond (.v 10)
      (.seq (.reg [⟨.buildSl 1 1 [(.i .i64 0)] [(0, 1, (.c (.i .i64 5)))], none, none, .full⟩,
       ⟨.mv (.r 0), none, (some 4), .full⟩,
       ⟨.mv (.c (.i .i64 0)), none, (some 5), .full⟩])
      .ret)
      (.seq (.seq (.reg [⟨.bin .eql (.v 8) (.c (.i .i64 3)), none, none, .full⟩,
       ⟨.mv (.r 0), none, (some 11), .full⟩])
      (.cond (.v 11)
        .skip
        (.reg [⟨.bin .eql (.v 8) (.c (.i .i64 5)), none, none, .full⟩,
         ⟨.mv (.r 0), none, (some 11), .full⟩])))
      (.cond (.v 11)
        (.seq (.reg [⟨.mv (.v 0), none, none, .full⟩,
         ⟨.faddr 3 (.v 3), none, none, .full⟩,
         ⟨.load none (.r 0), none, none, .full⟩,
         ⟨.call (.c (.f 56 [] [])) [(.r 2), (.r 0)], none, none, .full⟩,
         ⟨.fld 1 none (.r 0), none, none, .full⟩,
         ⟨.buildSl 1 1 [(.i .i64 0)] [(0, 1, (.r 0))], none, none, .full⟩,
         ⟨.mv (.r 0), none, (some 4), .full⟩,
         ⟨.mv (.c (.i .i64 0)), none, (some 5), .full⟩])
        .ret)
        (.seq (.reg [⟨.bin .eql (.v 8) (.c (.i .i64 26)), none, none, .full⟩,
         ⟨.mv (.r 0), none, (some 12), .full⟩])
        (.cond (.v 12)
          (.seq (.reg [⟨.buildSl 1 1 [(.i .i64 0)] [(0, 1, (.c (.i .i64 6)))], none, none, .full⟩,
           ⟨.mv (.r 0), none, (some 4), .full⟩,
           ⟨.mv (.c (.i .i64 0)), none, (some 5), .full⟩])
          .ret)
          (.seq (.reg [⟨.bin .eql (.v 8) (.c (.i .i64 21)), none, none, .full⟩,
           ⟨.mv (.r 0), none, (some 13), .full⟩])
          (.cond (.v 13)
            (.seq (.reg [⟨.mv (.v 2), none, none, .new⟩,
             ⟨.iaS 1 (.r 0) (.c (.i .i64 0)), none, none, .new⟩,
             ⟨.load none (.r 0), none, none, .new⟩,
             ⟨.mv (.v 2), none, none, .new⟩,
             ⟨.iaS 1 (.r 0) (.c (.i .i64 0)), none, none, .new⟩,
             ⟨.load none (.r 0), none, none, .new⟩,
             ⟨.buildSl 2 1 [(.i .i64 0)] [(0, 1, (.r 3)), (1, 1, (.r 0))], none, none, .full⟩,
             ⟨.mv (.r 0), none, (some 4), .full⟩,
             ⟨.mv (.c (.i .i64 0)), none, (some 5), .full⟩])
            .ret)
            (.seq (.reg [⟨.bin .eql (.v 8) (.c (.i .i64 15)), none, none, .full⟩,
             ⟨.mv (.r 0), none, (some 14), .full⟩])
            (.cond (.v 14)
              (.seq (.seq (.reg [⟨.mv (.v 2), none, none, .full⟩,
               ⟨.iaS 1 (.r 0) (.c (.i .i64 0)), none, none, .full⟩,
               ⟨.load none (.r 0), none, none, .full⟩,
               ⟨.bin .gtr (.r 0) (.c (.i .i64 3)), none, (some 15), .full⟩])
              (.cond (.v 15)
                (.seq (.reg [⟨.mv (.c .nils), none, (some 4), .full⟩,
                 ⟨.mv (.c (.i .i64 19)), none, (some 5), .full⟩])
                .ret)
                .skip))
              (.seq (.reg [⟨.mv (.v 2), none, none, .full⟩,
               ⟨.mv (.r 0), none, (some 4), .full⟩,
               ⟨.mv (.c (.i .i64 0)), none, (some 5), .full⟩])
              .ret))
              .skip))))))))))))))
  (.seq (.seq (.reg [⟨.mv (.v 2), none, none, .full⟩,
   ⟨.len 1 (.r 0), none, none, .full⟩,
   ⟨.bin .eql (.r 0) (.c (.i .i64 2)), none, none, .full⟩,
   ⟨.mv (.r 0), none, none, .full⟩,
   ⟨.faddr 2 (.v 3), some (0, true), none, .full⟩,
   ⟨.load none (.r 0), some (1, true), none, .full⟩,
   ⟨.bin .neq (.r 0) (.c (.i .i64 6)), some (2, true), none, .full⟩,
   ⟨.pick (.r 3) (.r 0) (.c (.b false)), none, (some 16), .full⟩])
  (.cond (.v 16)
    (.seq (.reg [⟨.faddr 2 (.v 3), none, none, .new⟩,
     ⟨.load none (.r 0), none, none, .new⟩,
     ⟨.mv (.v 2), none, none, .new⟩,
     ⟨.iaS 1 (.r 0) (.c (.i .i64 0)), none, none, .new⟩,
     ⟨.load none (.r 0), none, none, .new⟩,
     ⟨.mv (.v 2), none, none, .new⟩,
     ⟨.iaS 1 (.r 0) (.c (.i .i64 1)), none, none, .new⟩,
     ⟨.load none (.r 0), none, none, .new⟩,
     ⟨.call (.c (.f 60 [] [])) [(.r 6), (.r 3), (.r 0)], none, none, .full⟩,
     ⟨.mv (.r 0), none, none, .full⟩,
     ⟨.ext 0 (.r 0), none, none, .full⟩,
     ⟨.ext 1 (.r 1), none, none, .full⟩,
     ⟨.mv (.r 1), none, (some 6), .full⟩,
     ⟨.mv (.r 1), none, (some 7), .full⟩])
    (.seq (.reg [⟨.mv (.v 6), none, none, .full⟩,
     ⟨.buildSl 1 1 [(.i .i64 0)] [(0, 1, (.r 0))], none, none, .full⟩,
     ⟨.mv (.v 7), none, none, .full⟩,
     ⟨.mv (.r 1), none, (some 4), .full⟩,
     ⟨.mv (.r 1), none, (some 5), .full⟩])
    .ret))
    .skip))
  (.seq (.reg [⟨.mv (.c .nils), none, (some 4), .full⟩,
   ⟨.mv (.c (.i .i64 0)), none, (some 5), .full⟩])
  .ret))))⟩
/-- slices.Concat[solenoid/check.stack,int] -/
def af49 : AFunc := ⟨[(some 0), none, none, none, none, none, none, none, none, none, none, none, none, none, none], [.v 1],
  (.seq (.reg [⟨.mv (.c .nils), none, (some 1), .full⟩])
  (.seq (.reg [⟨.mv (.c (.i .i64 0)), none, (some 2), .full⟩])
  (.seq (.seq (.reg [⟨.mv (.v 0), none, (some 6), .full⟩,
   ⟨.len 1 (.r 0), none, (some 7), .full⟩,
   ⟨.mv (.c (.i .i64 0)), none, (some 8), .full⟩])
  (.blk 0 (.loop
    (.seq (.reg [⟨.bin .lss (.v 8) (.v 7), none, (some 9), .full⟩])
    (.seq (.cond (.v 9)
      .skip
      (.exit 0))
    (.seq (.blk 1 (.seq (.reg [⟨.iaS 1 (.v 6) (.v 8), none, none, .full⟩,
     ⟨.load none (.r 0), none, none, .full⟩,
     ⟨.mv (.r 0), none, (some 3), .full⟩])
    (.seq (.reg [⟨.mv (.v 2), none, none, .full⟩,
     ⟨.mv (.v 3), none, none, .full⟩,
     ⟨.len 1 (.r 0), none, none, .full⟩,
     ⟨.bin .add (.r 2) (.r 0), none, none, .full⟩,
     ⟨.mv (.r 0), none, (some 2), .full⟩])
    (.seq (.reg [⟨.mv (.v 2), none, none, .full⟩,
     ⟨.bin .lss (.r 0) (.c (.i .i64 0)), none, (some 10), .full⟩])
    (.cond (.v 10)
      (.reg [⟨.mkifc 9 (.c (.s [108, 101, 110, 32, 111, 117, 116, 32, 111, 102, 32, 114, 97, 110, 103, 101])), none, none, .full⟩,
       ⟨.bad, none, none, .full⟩])
      .skip)))))
    (.reg [⟨.bin .add (.v 8) (.c (.i .i64 1)), none, none, .full⟩,
     ⟨.mv (.r 0), none, (some 8), .full⟩])))))))
  (.seq (.reg [⟨.mv (.v 2), none, none, .full⟩,
   ⟨.call (.c (.f 61 [] [])) [(.c .nils), (.r 0)], none, none, .full⟩,
   ⟨.mv (.r 0), none, (some 4), .full⟩])
  (.seq (.seq (.reg [⟨.mv (.v 0), none, (some 11), .full⟩,
   ⟨.len 1 (.r 0), none, (some 12), .full⟩,
   ⟨.mv (.c (.i .i64 0)), none, (some 13), .full⟩])
  (.blk 2 (.loop
    (.seq (.reg [⟨.bin .lss (.v 13) (.v 12), none, (some 14), .full⟩])
    (.seq (.cond (.v 14)
      .skip
      (.exit 2))
    (.seq (.blk 3 (.seq (.reg [⟨.iaS 1 (.v 11) (.v 13), none, none, .full⟩,
     ⟨.load none (.r 0), none, none, .full⟩,
     ⟨.mv (.r 0), none, (some 5), .full⟩])
    (.reg [⟨.mv (.v 4), none, none, .full⟩,
     ⟨.mv (.v 5), none, none, .full⟩,
     ⟨.append 1 8 (.r 1) (.r 0), none, none, .full⟩,
     ⟨.mv (.r 0), none, (some 4), .full⟩])))
    (.reg [⟨.bin .add (.v 13) (.c (.i .i64 1)), none, none, .full⟩,
     ⟨.mv (.r 0), none, (some 13), .full⟩])))))))
  (.seq (.reg [⟨.mv (.v 4), none, none, .full⟩,
   ⟨.mv (.r 0), none, (some 1), .full⟩])
  .ret))))))⟩
/-- slices.Index[[]int,int] -/
def af50 : AFunc := ⟨[(some 0), (some 1), none, none, none, none, none, none], [.v 2],
  (.seq (.reg [⟨.mv (.c (.i .i64 0)), none, (some 2), .full⟩])
  (.seq (.seq (.reg [⟨.mv (.v 0), none, none, .full⟩,
   ⟨.len 1 (.r 0), none, (some 4), .full⟩,
   ⟨.mv (.c (.i .i64 0)), none, (some 5), .full⟩])
  (.blk 0 (.loop
    (.seq (.reg [⟨.bin .lss (.v 5) (.v 4), none, (some 6), .full⟩])
    (.seq (.cond (.v 6)
      .skip
      (.exit 0))
    (.seq (.blk 1 (.seq (.reg [⟨.mv (.v 5), none, none, .full⟩,
     ⟨.mv (.r 0), none, (some 3), .full⟩])
    (.seq (.reg [⟨.mv (.v 1), none, none, .full⟩,
     ⟨.mv (.v 0), none, none, .full⟩,
     ⟨.mv (.v 3), none, none, .full⟩,
     ⟨.iaS 1 (.r 1) (.r 0), none, none, .full⟩,
     ⟨.load none (.r 0), none, none, .full⟩,
     ⟨.bin .eql (.r 4) (.r 0), none, (some 7), .full⟩])
    (.cond (.v 7)
      (.seq (.reg [⟨.mv (.v 3), none, none, .full⟩,
       ⟨.mv (.r 0), none, (some 2), .full⟩])
      .ret)
      .skip))))
    (.reg [⟨.bin .add (.v 5) (.c (.i .i64 1)), none, none, .full⟩,
     ⟨.mv (.r 0), none, (some 5), .full⟩])))))))
  (.seq (.reg [⟨.mv (.c (.i .i64 (-1))), none, (some 2), .full⟩])
  .ret)))⟩
/-- slices.Equal[solenoid/check.stack,int] -/
def af51 : AFunc := ⟨[(some 0), (some 1), none, none, none, none, none, none, none], [.v 2],
  (.seq (.reg [⟨.mv (.c (.b false)), none, (some 2), .full⟩])
  (.seq (.seq (.reg [⟨.mv (.v 0), none, none, .full⟩,
   ⟨.len 1 (.r 0), none, none, .full⟩,
   ⟨.mv (.v 1), none, none, .full⟩,
   ⟨.len 1 (.r 0), none, none, .full⟩,
   ⟨.bin .neq (.r 2) (.r 0), none, (some 4), .full⟩])
  (.cond (.v 4)
    (.seq (.reg [⟨.mv (.c (.b false)), none, (some 2), .full⟩])
    .ret)
    .skip))
  (.seq (.seq (.reg [⟨.mv (.v 0), none, none, .full⟩,
   ⟨.len 1 (.r 0), none, (some 5), .full⟩,
   ⟨.mv (.c (.i .i64 0)), none, (some 6), .full⟩])
  (.blk 0 (.loop
    (.seq (.reg [⟨.bin .lss (.v 6) (.v 5), none, (some 7), .full⟩])
    (.seq (.cond (.v 7)
      .skip
      (.exit 0))
    (.seq (.blk 1 (.seq (.reg [⟨.mv (.v 6), none, none, .full⟩,
     ⟨.mv (.r 0), none, (some 3), .full⟩])
    (.seq (.reg [⟨.mv (.v 0), none, none, .new⟩,
     ⟨.mv (.v 3), none, none, .new⟩,
     ⟨.iaS 1 (.r 1) (.r 0), none, none, .new⟩,
     ⟨.load none (.r 0), none, none, .new⟩,
     ⟨.mv (.v 1), none, none, .new⟩,
     ⟨.mv (.v 3), none, none, .new⟩,
     ⟨.iaS 1 (.r 1) (.r 0), none, none, .new⟩,
     ⟨.load none (.r 0), none, none, .new⟩,
     ⟨.bin .neq (.r 4) (.r 0), none, (some 8), .full⟩])
    (.cond (.v 8)
      (.seq (.reg [⟨.mv (.c (.b false)), none, (some 2), .full⟩])
      .ret)
      .skip))))
    (.reg [⟨.bin .add (.v 6) (.c (.i .i64 1)), none, none, .full⟩,
     ⟨.mv (.r 0), none, (some 6), .full⟩])))))))
  (.seq (.reg [⟨.mv (.c (.b true)), none, (some 2), .full⟩])
  .ret))))⟩
/-- solenoid/solenoidref8.digits -/
def af52 : AFunc := ⟨[(some 0), none, none], [.v 1],
  (.seq (.reg [⟨.mv (.c (.s [])), none, (some 1), .full⟩])
  (.seq (.seq (.reg [⟨.mv (.v 0), none, none, .full⟩,
   ⟨.bin .geq (.r 0) (.c (.i .i64 10)), none, (some 2), .full⟩])
  (.cond (.v 2)
    (.seq (.reg [⟨.mv (.v 0), none, none, .full⟩,
     ⟨.bin .quo (.r 0) (.c (.i .i64 10)), none, none, .full⟩,
     ⟨.call (.c (.f 52 [] [])) [(.r 0)], none, none, .full⟩,
     ⟨.mv (.v 0), none, none, .full⟩,
     ⟨.bin .rem (.r 0) (.c (.i .i64 10)), none, none, .full⟩,
     ⟨.call (.c (.f 52 [] [])) [(.r 0)], none, none, .full⟩,
     ⟨.bin .add (.r 3) (.r 0), none, none, .full⟩,
     ⟨.mv (.r 0), none, (some 1), .full⟩])
    .ret)
    .skip))
  (.seq (.reg [⟨.mv (.v 0), none, none, .full⟩,
   ⟨.bin .add (.c (.i .i64 48)) (.r 0), none, none, .full⟩,
   ⟨.conv .u8 (.r 0), none, none, .full⟩,
   ⟨.buildSl 1 1 [(.i .u8 0)] [(0, 1, (.r 0))], none, none, .full⟩,
   ⟨.b2s (.r 0), none, none, .full⟩,
   ⟨.mv (.r 0), none, (some 1), .full⟩])
  .ret)))⟩
/-- solenoid/solenoidref7.Fields -/
def af53 : AFunc := ⟨[(some 0), none, none, none, none, none, none], [.v 2],
  (.seq (.reg [⟨.box (.v 0), none, (some 1), .full⟩,
   ⟨.mv (.c .nils), none, (some 2), .full⟩])
  (.seq (.seq (.reg [⟨.faddr 0 (.v 1), none, none, .full⟩,
   ⟨.load none (.r 0), none, (some 3), .full⟩])
  (.blk 0 (.seq (.reg [⟨.bin .eql (.v 3) (.c (.i .i64 8)), none, none, .full⟩,
   ⟨.mv (.r 0), none, (some 4), .full⟩])
  (.cond (.v 4)
    (.seq (.reg [⟨.buildSl 0 2 [(.s []), (.i .i64 0)] [], none, none, .full⟩,
     ⟨.faddr 3 (.v 1), none, none, .full⟩,
     ⟨.load none (.r 0), none, none, .full⟩,
     ⟨.append 2 24 (.r 2) (.r 0), none, none, .full⟩,
     ⟨.mv (.r 0), none, (some 2), .full⟩])
    .ret)
    (.seq (.reg [⟨.bin .eql (.v 3) (.c (.i .i64 9)), none, none, .full⟩,
     ⟨.mv (.r 0), none, (some 5), .full⟩])
    (.cond (.v 5)
      (.seq (.reg [⟨.build [(.s []), (.i .i64 0)] [(0, 1, (.c (.s [73, 78]))), (1, 1, (.c (.i .i64 1)))], none, none, .full⟩,
       ⟨.build [(.s []), (.i .i64 0)] [(0, 1, (.c (.s [80, 84]))), (1, 1, (.c (.i .i64 6)))], none, none, .full⟩,
       ⟨.build [(.s []), (.i .i64 0)] [(0, 1, (.c (.s [81]))), (1, 1, (.c (.i .i64 1)))], none, none, .full⟩,
       ⟨.build [(.s []), (.i .i64 0)] [(0, 1, (.c (.s [69, 84]))), (1, 1, (.c (.i .i64 6)))], none, none, .full⟩,
       ⟨.build [(.s []), (.i .i64 0)] [(0, 1, (.c (.s [84, 48]))), (1, 1, (.c (.i .i64 6)))], none, none, .full⟩,
       ⟨.build [(.s []), (.i .i64 0)] [(0, 1, (.c (.s [82, 85, 78]))), (1, 1, (.c (.i .i64 1)))], none, none, .full⟩,
       ⟨.buildSl 6 2 [(.s []), (.i .i64 0)] [(0, 2, (.r 5)), (2, 2, (.r 4)), (4, 2, (.r 3)), (6, 2, (.r 2)), (8, 2, (.r 1)), (10, 2, (.r 0))], none, none, .full⟩,
       ⟨.mv (.r 0), none, (some 2), .full⟩])
      .ret)
      (.seq (.reg [⟨.bin .eql (.v 3) (.c (.i .i64 10)), none, none, .full⟩,
       ⟨.mv (.r 0), none, (some 6), .full⟩])
      (.cond (.v 6)
        (.seq (.reg [⟨.build [(.s []), (.i .i64 0)] [(0, 1, (.c (.s [67, 85]))), (1, 1, (.c (.i .i64 1)))], none, none, .full⟩,
         ⟨.build [(.s []), (.i .i64 0)] [(0, 1, (.c (.s [82]))), (1, 1, (.c (.i .i64 1)))], none, none, .full⟩,
         ⟨.build [(.s []), (.i .i64 0)] [(0, 1, (.c (.s [80, 86]))), (1, 1, (.c (.i .i64 5)))], none, none, .full⟩,
         ⟨.build [(.s []), (.i .i64 0)] [(0, 1, (.c (.s [81]))), (1, 1, (.c (.i .i64 1)))], none, none, .full⟩,
         ⟨.build [(.s []), (.i .i64 0)] [(0, 1, (.c (.s [67, 86]))), (1, 1, (.c (.i .i64 5)))], none, none, .full⟩,
         ⟨.build [(.s []), (.i .i64 0)] [(0, 1, (.c (.s [79, 76, 68]))), (1, 1, (.c (.i .i64 1)))], none, none, .full⟩,
         ⟨.buildSl 6 2 [(.s []), (.i .i64 0)] [(0, 2, (.r 5)), (2, 2, (.r 4)), (4, 2, (.r 3)), (6, 2, (.r 2)), (8, 2, (.r 1)), (10, 2, (.r 0))], none, none, .full⟩,
         ⟨.mv (.r 0), none, (some 2), .full⟩])
        .ret)
        .skip))))))))
  (.seq (.reg [⟨.mv (.c .nils), none, (some 2), .full⟩])
  .ret)))⟩
/-- solenoid/kinds.row -/
def af54 : AFunc := ⟨[(some 0), none], [.v 1],
  (.seq (.reg [⟨.mv (.c .nils), none, (some 1), .full⟩])
  (.seq (.reg [⟨.mv (.v 0), none, none, .full⟩,
   ⟨.call (.c (.f 62 [] [])) [(.r 0)], none, none, .full⟩,
   ⟨.mv (.r 0), none, (some 1), .full⟩])
  .ret))⟩
/-- internal/strconv.Itoa -/
def af55 : AFunc := ⟨[(some 0), none], [.v 1],
  (.seq (.reg [⟨.mv (.c (.s [])), none, (some 1), .full⟩])
  (.seq (.reg [⟨.mv (.v 0), none, none, .full⟩,
   ⟨.call (.c (.f 63 [] [])) [(.r 0), (.c (.i .i64 10))], none, none, .full⟩,
   ⟨.mv (.r 0), none, (some 1), .full⟩])
  .ret))⟩
/-- (*solenoid/check.program).cell -/
def af56 : AFunc := ⟨[(some 0), (some 1), none, none], [.cell 2 (some 6)],
  (.seq (.reg [⟨.box (.c (.agg [(.s []), (.i .i64 0), (.b false), (.i .i64 0), (.i .i64 0), (.i .i64 0)])), none, (some 2), .full⟩])
  (.seq (.seq (.reg [⟨.mv (.v 1), none, none, .full⟩,
   ⟨.mv (.v 0), none, none, .full⟩,
   ⟨.nilck (.r 0), none, none, .full⟩,
   ⟨.faddr 3 (.r 0), none, none, .full⟩,
   ⟨.load none (.r 0), none, none, .full⟩,
   ⟨.len 1 (.r 0), none, none, .full⟩,
   ⟨.bin .geq (.r 5) (.r 0), none, (some 3), .full⟩])
  (.cond (.v 3)
    (.seq (.reg [⟨.build [(.s []), (.i .i64 0), (.b false), (.i .i64 0), (.i .i64 0), (.i .i64 0)] [], none, none, .full⟩,
     ⟨.store 6 (.v 2) (.r 0), none, none, .full⟩])
    .ret)
    .skip))
  (.seq (.reg [⟨.mv (.v 0), none, none, .full⟩,
   ⟨.nilck (.r 0), none, none, .full⟩,
   ⟨.faddr 3 (.r 0), none, none, .full⟩,
   ⟨.load none (.r 0), none, none, .full⟩,
   ⟨.mv (.v 1), none, none, .full⟩,
   ⟨.iaS 6 (.r 1) (.r 0), none, none, .full⟩,
   ⟨.load (some 6) (.r 0), none, none, .full⟩,
   ⟨.store 6 (.v 2) (.r 0), none, none, .full⟩])
  .ret)))⟩
/-- solenoid/check.value -/
def af57 : AFunc := ⟨[(some 0), none], [.v 1],
  (.seq (.reg [⟨.mv (.c (.b false)), none, (some 1), .full⟩])
  (.seq (.reg [⟨.mv (.v 0), none, none, .full⟩,
   ⟨.bin .geq (.r 0) (.c (.i .i64 1)), none, none, .full⟩,
   ⟨.mv (.r 0), none, none, .full⟩,
   ⟨.mv (.v 0), some (0, true), none, .full⟩,
   ⟨.bin .leq (.r 0) (.c (.i .i64 6)), some (1, true), none, .full⟩,
   ⟨.pick (.r 2) (.r 0) (.c (.b false)), none, none, .full⟩,
   ⟨.mv (.r 0), none, (some 1), .full⟩])
  .ret))⟩
/-- solenoid/kinds.Wrap -/
def af58 : AFunc := ⟨[(some 0), (some 1), none, none, none, none, none, none, none, none, none], [.v 2],
  (.seq (.reg [⟨.mv (.c (.i .i64 0)), none, (some 2), .full⟩])
  (.seq (.seq (.reg [⟨.mv (.v 0), none, (some 3), .full⟩])
  (.blk 0 (.seq (.reg [⟨.bin .eql (.v 3) (.c (.i .i64 1)), none, none, .full⟩,
   ⟨.mv (.r 0), none, (some 4), .full⟩])
  (.cond (.v 4)
    (.seq (.reg [⟨.mv (.v 1), none, none, .full⟩,
     ⟨.bin .neq (.r 0) (.c (.i .i64 0)), none, (some 5), .full⟩])
    (.cond (.v 5)
      (.seq (.reg [⟨.mv (.c (.i .i64 1)), none, (some 2), .full⟩])
      .ret)
      .skip))
    (.seq (.reg [⟨.bin .eql (.v 3) (.c (.i .i64 2)), none, none, .full⟩,
     ⟨.mv (.r 0), none, (some 6), .full⟩])
    (.cond (.v 6)
      (.seq (.reg [⟨.mv (.v 1), none, none, .full⟩,
       ⟨.conv .u8 (.r 0), none, none, .full⟩,
       ⟨.conv .i64 (.r 0), none, none, .full⟩,
       ⟨.mv (.r 0), none, (some 2), .full⟩])
      .ret)
      (.seq (.reg [⟨.bin .eql (.v 3) (.c (.i .i64 3)), none, none, .full⟩,
       ⟨.mv (.r 0), none, (some 7), .full⟩])
      (.cond (.v 7)
        (.seq (.reg [⟨.mv (.v 1), none, none, .full⟩,
         ⟨.conv .u16 (.r 0), none, none, .full⟩,
         ⟨.conv .i64 (.r 0), none, none, .full⟩,
         ⟨.mv (.r 0), none, (some 2), .full⟩])
        .ret)
        (.seq (.reg [⟨.bin .eql (.v 3) (.c (.i .i64 4)), none, none, .full⟩,
         ⟨.mv (.r 0), none, (some 8), .full⟩])
        (.cond (.v 8)
          (.seq (.reg [⟨.mv (.v 1), none, none, .full⟩,
           ⟨.conv .i16 (.r 0), none, none, .full⟩,
           ⟨.conv .i64 (.r 0), none, none, .full⟩,
           ⟨.mv (.r 0), none, (some 2), .full⟩])
          .ret)
          (.seq (.reg [⟨.bin .eql (.v 3) (.c (.i .i64 5)), none, none, .full⟩,
           ⟨.mv (.r 0), none, (some 9), .full⟩])
          (.cond (.v 9)
            (.seq (.reg [⟨.mv (.v 1), none, none, .full⟩,
             ⟨.conv .i32 (.r 0), none, none, .full⟩,
             ⟨.conv .i64 (.r 0), none, none, .full⟩,
             ⟨.mv (.r 0), none, (some 2), .full⟩])
            .ret)
            (.seq (.reg [⟨.bin .eql (.v 3) (.c (.i .i64 6)), none, none, .full⟩,
             ⟨.mv (.r 0), none, (some 10), .full⟩])
            (.cond (.v 10)
              (.seq (.reg [⟨.mv (.v 1), none, none, .full⟩,
               ⟨.mv (.r 0), none, (some 2), .full⟩])
              .ret)
              .skip))))))))))))))
  (.seq (.reg [⟨.mv (.c (.i .i64 0)), none, (some 2), .full⟩])
  .ret)))⟩
/-- solenoid/check.place -/
def af59 : AFunc := ⟨[(some 0), (some 1), (some 2), none, none, none, none, none, none, none, none], [.v 4],
  (.seq (.reg [⟨.box (.v 2), none, (some 3), .full⟩,
   ⟨.mv (.c (.i .i64 0)), none, (some 4), .full⟩])
  (.seq (.reg [⟨.mv (.c (.b false)), none, (some 5), .full⟩])
  (.seq (.seq (.reg [⟨.mv (.v 0), none, (some 6), .full⟩])
  (.blk 0 (.seq (.seq (.reg [⟨.bin .eql (.v 6) (.c (.i .i64 3)), none, none, .full⟩,
   ⟨.mv (.r 0), none, (some 7), .full⟩])
  (.cond (.v 7)
    .skip
    (.reg [⟨.bin .eql (.v 6) (.c (.i .i64 4)), none, none, .full⟩,
     ⟨.mv (.r 0), none, (some 7), .full⟩])))
  (.cond (.v 7)
    (.reg [⟨.mv (.v 1), none, none, .full⟩,
     ⟨.mv (.r 0), none, (some 5), .full⟩])
    (.seq (.seq (.reg [⟨.bin .eql (.v 6) (.c (.i .i64 5)), none, none, .full⟩,
     ⟨.mv (.r 0), none, (some 8), .full⟩])
    (.cond (.v 8)
      .skip
      (.reg [⟨.bin .eql (.v 6) (.c (.i .i64 6)), none, none, .full⟩,
       ⟨.mv (.r 0), none, (some 8), .full⟩])))
    (.cond (.v 8)
      (.reg [⟨.faddr 4 (.v 3), none, none, .full⟩,
       ⟨.load none (.r 0), none, none, .full⟩,
       ⟨.bin .eql (.r 0) (.c (.i .i64 0)), none, none, .full⟩,
       ⟨.mv (.r 0), none, (some 5), .full⟩])
      (.seq (.reg [⟨.bin .eql (.v 6) (.c (.i .i64 27)), none, none, .full⟩,
       ⟨.mv (.r 0), none, (some 9), .full⟩])
      (.cond (.v 9)
        (.reg [⟨.faddr 5 (.v 3), none, none, .full⟩,
         ⟨.load none (.r 0), none, none, .full⟩,
         ⟨.bin .eql (.r 0) (.c (.i .i64 0)), none, none, .full⟩,
         ⟨.mv (.r 0), none, (some 5), .full⟩])
        .skip))))))))
  (.seq (.seq (.reg [⟨.mv (.v 5), none, (some 10), .full⟩])
  (.cond (.v 10)
    (.seq (.reg [⟨.mv (.c (.i .i64 12)), none, (some 4), .full⟩])
    .ret)
    .skip))
  (.seq (.reg [⟨.mv (.c (.i .i64 0)), none, (some 4), .full⟩])
  .ret)))))⟩
/-- solenoid/arith.Kind -/
def af60 : AFunc := ⟨[(some 0), (some 1), (some 2), none, none, none, none, none, none, none, none, none, none, none, none], [.v 3, .v 4],
  (.seq (.reg [⟨.mv (.c (.i .i64 0)), none, (some 3), .full⟩,
   ⟨.mv (.c (.i .i64 0)), none, (some 4), .full⟩])
  (.seq (.reg [⟨.mv (.v 1), none, none, .full⟩,
   ⟨.mv (.r 0), none, (some 5), .full⟩,
   ⟨.mv (.c (.b false)), none, (some 6), .full⟩])
  (.seq (.seq (.reg [⟨.mv (.v 0), none, (some 7), .full⟩])
  (.blk 0 (.seq (.blk 7 (.seq (.blk 6 (.seq (.blk 5 (.seq (.blk 4 (.seq (.blk 3 (.seq (.blk 2 (.seq (.blk 1 (.seq (.seq (.seq (.seq (.reg [⟨.bin .eql (.v 7) (.c (.i .i64 7)), none, none, .full⟩,
   ⟨.mv (.r 0), none, (some 8), .full⟩])
  (.cond (.v 8)
    .skip
    (.reg [⟨.bin .eql (.v 7) (.c (.i .i64 8)), none, none, .full⟩,
     ⟨.mv (.r 0), none, (some 8), .full⟩])))
  (.cond (.v 8)
    (.exit 1)
    .skip))
  (.seq (.seq (.seq (.reg [⟨.bin .eql (.v 7) (.c (.i .i64 9)), none, none, .full⟩,
   ⟨.mv (.r 0), none, (some 9), .full⟩])
  (.cond (.v 9)
    .skip
    (.seq (.reg [⟨.bin .eql (.v 7) (.c (.i .i64 10)), none, none, .full⟩,
     ⟨.mv (.r 0), none, (some 9), .full⟩])
    (.cond (.v 9)
      .skip
      (.reg [⟨.bin .eql (.v 7) (.c (.i .i64 11)), none, none, .full⟩,
       ⟨.mv (.r 0), none, (some 9), .full⟩])))))
  (.cond (.v 9)
    (.exit 2)
    .skip))
  (.seq (.seq (.seq (.reg [⟨.bin .eql (.v 7) (.c (.i .i64 12)), none, none, .full⟩,
   ⟨.mv (.r 0), none, (some 10), .full⟩])
  (.cond (.v 10)
    .skip
    (.seq (.reg [⟨.bin .eql (.v 7) (.c (.i .i64 13)), none, none, .full⟩,
     ⟨.mv (.r 0), none, (some 10), .full⟩])
    (.cond (.v 10)
      .skip
      (.reg [⟨.bin .eql (.v 7) (.c (.i .i64 14)), none, none, .full⟩,
       ⟨.mv (.r 0), none, (some 10), .full⟩])))))
  (.cond (.v 10)
    (.exit 3)
    .skip))
  (.seq (.seq (.reg [⟨.bin .eql (.v 7) (.c (.i .i64 16)), none, none, .full⟩,
   ⟨.mv (.r 0), none, (some 11), .full⟩])
  (.cond (.v 11)
    (.exit 4)
    .skip))
  (.seq (.seq (.reg [⟨.bin .eql (.v 7) (.c (.i .i64 17)), none, none, .full⟩,
   ⟨.mv (.r 0), none, (some 12), .full⟩])
  (.cond (.v 12)
    (.exit 5)
    .skip))
  (.seq (.seq (.reg [⟨.bin .eql (.v 7) (.c (.i .i64 28)), none, none, .full⟩,
   ⟨.mv (.r 0), none, (some 13), .full⟩])
  (.cond (.v 13)
    .skip
    (.reg [⟨.bin .eql (.v 7) (.c (.i .i64 29)), none, none, .full⟩,
     ⟨.mv (.r 0), none, (some 13), .full⟩])))
  (.cond (.v 13)
    (.exit 6)
    .skip)))))))
  (.exit 7)))
  (.reg [⟨.mv (.v 1), none, none, .full⟩,
   ⟨.mv (.v 2), none, none, .full⟩,
   ⟨.buildSl 1 1 [(.i .i64 0)] [(0, 1, (.c (.i .i64 6)))], none, none, .full⟩,
   ⟨.call (.c (.f 64 [] [])) [(.r 2), (.r 1), (.r 0)], none, none, .full⟩,
   ⟨.mv (.r 0), none, (some 6), .full⟩])))
  (.seq (.reg [⟨.mv (.v 6), none, none, .full⟩,
   ⟨.mv (.r 0), none, none, .full⟩,
   ⟨.mv (.v 1), some (0, false), none, .full⟩,
   ⟨.mv (.v 2), some (1, false), none, .full⟩,
   ⟨.buildSl 2 1 [(.i .i64 0)] [(0, 1, (.c (.i .i64 4))), (1, 1, (.c (.i .i64 5)))], some (2, false), none, .full⟩,
   ⟨.call (.c (.f 64 [] [])) [(.r 2), (.r 1), (.r 0)], some (3, false), none, .full⟩,
   ⟨.pick (.r 4) (.c (.b true)) (.r 0), none, none, .full⟩,
   ⟨.mv (.r 0), none, (some 6), .full⟩])
  (.exit 0))))
  (.seq (.reg [⟨.mv (.v 1), none, none, .full⟩,
   ⟨.mv (.v 2), none, none, .full⟩,
   ⟨.buildSl 3 1 [(.i .i64 0)] [(0, 1, (.c (.i .i64 1))), (1, 1, (.c (.i .i64 2))), (2, 1, (.c (.i .i64 3)))], none, none, .full⟩,
   ⟨.call (.c (.f 64 [] [])) [(.r 2), (.r 1), (.r 0)], none, none, .full⟩,
   ⟨.mv (.r 0), none, (some 6), .full⟩])
  (.exit 0))))
  (.seq (.reg [⟨.mv (.v 1), none, none, .full⟩,
   ⟨.mv (.v 2), none, none, .full⟩,
   ⟨.buildSl 6 1 [(.i .i64 0)] [(0, 1, (.c (.i .i64 1))), (1, 1, (.c (.i .i64 2))), (2, 1, (.c (.i .i64 3))), (3, 1, (.c (.i .i64 4))), (4, 1, (.c (.i .i64 5))), (5, 1, (.c (.i .i64 6)))], none, none, .full⟩,
   ⟨.call (.c (.f 64 [] [])) [(.r 2), (.r 1), (.r 0)], none, none, .full⟩,
   ⟨.mv (.c (.i .i64 1)), none, (some 5), .full⟩,
   ⟨.mv (.r 1), none, (some 6), .full⟩])
  (.exit 0))))
  (.seq (.reg [⟨.mv (.v 1), none, none, .full⟩,
   ⟨.mv (.v 2), none, none, .full⟩,
   ⟨.buildSl 5 1 [(.i .i64 0)] [(0, 1, (.c (.i .i64 2))), (1, 1, (.c (.i .i64 3))), (2, 1, (.c (.i .i64 4))), (3, 1, (.c (.i .i64 5))), (4, 1, (.c (.i .i64 6)))], none, none, .full⟩,
   ⟨.call (.c (.f 64 [] [])) [(.r 2), (.r 1), (.r 0)], none, none, .full⟩,
   ⟨.mv (.c (.i .i64 1)), none, (some 5), .full⟩,
   ⟨.mv (.r 1), none, (some 6), .full⟩])
  (.exit 0))))
  (.seq (.reg [⟨.mv (.v 2), none, none, .full⟩,
   ⟨.bin .eql (.r 0) (.c (.i .i64 5)), none, none, .full⟩,
   ⟨.mv (.r 0), none, none, .full⟩,
   ⟨.mv (.v 1), some (0, true), none, .full⟩,
   ⟨.bin .eql (.r 0) (.c (.i .i64 2)), some (1, true), none, .full⟩,
   ⟨.mv (.r 0), some (2, true), none, .full⟩,
   ⟨.mv (.v 1), some (0, false), none, .full⟩,
   ⟨.bin .eql (.r 0) (.c (.i .i64 3)), some (1, false), none, .full⟩,
   ⟨.pick (.r 2) (.c (.b true)) (.r 0), some (5, true), none, .full⟩,
   ⟨.pick (.r 6) (.r 0) (.c (.b false)), none, none, .full⟩,
   ⟨.mv (.r 0), none, (some 6), .full⟩])
  (.exit 0))))
  (.seq (.seq (.reg [⟨.mv (.c (.i .i64 0)), none, (some 3), .full⟩,
   ⟨.mv (.c (.i .i64 3)), none, (some 4), .full⟩])
  .ret)
  (.exit 0)))))
  (.seq (.seq (.reg [⟨.mv (.v 6), none, none, .full⟩,
   ⟨.un .not (.r 0), none, (some 14), .full⟩])
  (.cond (.v 14)
    (.seq (.reg [⟨.mv (.c (.i .i64 0)), none, (some 3), .full⟩,
     ⟨.mv (.c (.i .i64 19)), none, (some 4), .full⟩])
    .ret)
    .skip))
  (.seq (.reg [⟨.mv (.v 5), none, none, .full⟩,
   ⟨.mv (.r 0), none, (some 3), .full⟩,
   ⟨.mv (.c (.i .i64 0)), none, (some 4), .full⟩])
  .ret)))))⟩
/-- slices.Grow[solenoid/check.stack,int] -/
def af61 : AFunc := ⟨[(some 0), (some 1), none, none, none], [.v 2],
  (.seq (.reg [⟨.mv (.c .nils), none, (some 2), .full⟩])
  (.seq (.seq (.reg [⟨.mv (.v 1), none, none, .full⟩,
   ⟨.bin .lss (.r 0) (.c (.i .i64 0)), none, (some 3), .full⟩])
  (.cond (.v 3)
    (.reg [⟨.mkifc 9 (.c (.s [99, 97, 110, 110, 111, 116, 32, 98, 101, 32, 110, 101, 103, 97, 116, 105, 118, 101])), none, none, .full⟩,
     ⟨.bad, none, none, .full⟩])
    .skip))
  (.seq (.seq (.reg [⟨.mv (.v 1), none, none, .full⟩,
   ⟨.mv (.v 0), none, none, .full⟩,
   ⟨.cap (.r 0), none, none, .full⟩,
   ⟨.mv (.v 0), none, none, .full⟩,
   ⟨.len 1 (.r 0), none, none, .full⟩,
   ⟨.bin .sub (.r 2) (.r 0), none, none, .full⟩,
   ⟨.bin .sub (.r 5) (.r 0), none, none, .full⟩,
   ⟨.mv (.r 0), none, (some 1), .full⟩])
  (.seq (.reg [⟨.mv (.v 1), none, none, .full⟩,
   ⟨.bin .gtr (.r 0) (.c (.i .i64 0)), none, (some 4), .full⟩])
  (.cond (.v 4)
    (.reg [⟨.mv (.v 0), none, none, .full⟩,
     ⟨.mv (.v 0), none, none, .full⟩,
     ⟨.cap (.r 0), none, none, .full⟩,
     ⟨.slSl 1 (.r 2) none (some (.r 0)) none, none, none, .full⟩,
     ⟨.mv (.v 1), none, none, .full⟩,
     ⟨.appendZ 1 8 [(.i .i64 0)] (.r 1) (.r 0), none, none, .full⟩,
     ⟨.mv (.v 0), none, none, .full⟩,
     ⟨.len 1 (.r 0), none, none, .full⟩,
     ⟨.slSl 1 (.r 2) none (some (.r 0)) none, none, none, .full⟩,
     ⟨.mv (.r 0), none, (some 0), .full⟩])
    .skip)))
  (.seq (.reg [⟨.mv (.v 0), none, none, .full⟩,
   ⟨.mv (.r 0), none, (some 2), .full⟩])
  .ret))))⟩
/-- slices.Clone[[]solenoid/api.Field,solenoid/api.Field] -/
def af62 : AFunc := ⟨[(some 0), none, none], [.v 1],
  (.seq (.reg [⟨.mv (.c .nils), none, (some 1), .full⟩])
  (.seq (.seq (.reg [⟨.mv (.v 0), none, none, .full⟩,
   ⟨.eq false 2 (.r 0) (.c .nils), none, (some 2), .full⟩])
  (.cond (.v 2)
    (.seq (.reg [⟨.mv (.c .nils), none, (some 1), .full⟩])
    .ret)
    .skip))
  (.seq (.reg [⟨.buildSl 0 2 [(.s []), (.i .i64 0)] [], none, none, .full⟩,
   ⟨.mv (.v 0), none, none, .full⟩,
   ⟨.append 2 24 (.r 1) (.r 0), none, none, .full⟩,
   ⟨.mv (.r 0), none, (some 1), .full⟩])
  .ret)))⟩
/-- internal/strconv.FormatInt -/
def af63 : AFunc := ⟨[(some 0), (some 1), none, none, none, none, none, none, none, none, none], [.v 2],
  (.seq (.reg [⟨.mv (.c (.s [])), none, (some 2), .full⟩])
  (.seq (.seq (.reg [⟨.mv (.v 1), none, none, .full⟩,
   ⟨.bin .eql (.r 0) (.c (.i .i64 10)), none, (some 7), .full⟩])
  (.cond (.v 7)
    (.seq (.seq (.reg [⟨.mv (.v 0), none, none, .full⟩,
     ⟨.bin .leq (.c (.i .i64 0)) (.r 0), none, none, .full⟩,
     ⟨.mv (.r 0), none, none, .full⟩,
     ⟨.mv (.v 0), some (0, true), none, .full⟩,
     ⟨.bin .lss (.r 0) (.c (.i .i64 100)), some (1, true), none, .full⟩,
     ⟨.pick (.r 2) (.r 0) (.c (.b false)), none, (some 8), .full⟩])
    (.cond (.v 8)
      (.seq (.reg [⟨.mv (.v 0), none, none, .full⟩,
       ⟨.call (.c (.f 65 [] [])) [(.r 0)], none, none, .full⟩,
       ⟨.mv (.r 0), none, (some 2), .full⟩])
      .ret)
      .skip))
    (.seq (.reg [⟨.box (.c (.agg [(.i .u8 0), (.i .u8 0), (.i .u8 0), (.i .u8 0), (.i .u8 0), (.i .u8 0), (.i .u8 0), (.i .u8 0), (.i .u8 0), (.i .u8 0), (.i .u8 0), (.i .u8 0), (.i .u8 0), (.i .u8 0), (.i .u8 0), (.i .u8 0), (.i .u8 0), (.i .u8 0), (.i .u8 0), (.i .u8 0), (.i .u8 0), (.i .u8 0), (.i .u8 0), (.i .u8 0)])), none, (some 3), .full⟩])
    (.seq (.reg [⟨.mv (.v 0), none, none, .full⟩,
     ⟨.conv .u64 (.r 0), none, none, .full⟩,
     ⟨.mv (.r 0), none, (some 4), .full⟩])
    (.seq (.seq (.reg [⟨.mv (.v 0), none, none, .full⟩,
     ⟨.bin .lss (.r 0) (.c (.i .i64 0)), none, (some 9), .full⟩])
    (.cond (.v 9)
      (.reg [⟨.mv (.v 4), none, none, .full⟩,
       ⟨.un .neg (.r 0), none, none, .full⟩,
       ⟨.mv (.r 0), none, (some 4), .full⟩])
      .skip))
    (.seq (.reg [⟨.mv (.v 4), none, none, .full⟩,
     ⟨.call (.c (.f 66 [] [])) [(.r 0)], none, none, .full⟩,
     ⟨.mv (.r 0), none, (some 5), .full⟩])
    (.seq (.reg [⟨.mv (.v 5), none, none, .full⟩,
     ⟨.bin .add (.c (.i .i64 1)) (.r 0), none, none, .full⟩,
     ⟨.slA 24 1 (.v 3) (some (.c (.i .i64 1))) (some (.r 0)) none, none, none, .full⟩,
     ⟨.mv (.v 4), none, none, .full⟩,
     ⟨.call (.c (.f 67 [] [])) [(.r 1), (.r 0)], none, none, .full⟩])
    (.seq (.seq (.reg [⟨.mv (.v 0), none, none, .full⟩,
     ⟨.bin .lss (.r 0) (.c (.i .i64 0)), none, (some 10), .full⟩])
    (.cond (.v 10)
      (.seq (.reg [⟨.iaA 24 1 (.v 3) (.c (.i .i64 0)), none, none, .full⟩,
       ⟨.store 1 (.r 0) (.c (.i .u8 45)), none, none, .full⟩])
      (.seq (.reg [⟨.mv (.v 5), none, none, .full⟩,
       ⟨.bin .add (.c (.i .i64 1)) (.r 0), none, none, .full⟩,
       ⟨.slA 24 1 (.v 3) none (some (.r 0)) none, none, none, .full⟩,
       ⟨.b2s (.r 0), none, none, .full⟩,
       ⟨.mv (.r 0), none, (some 2), .full⟩])
      .ret))
      .skip))
    (.seq (.reg [⟨.mv (.v 5), none, none, .full⟩,
     ⟨.bin .add (.c (.i .i64 1)) (.r 0), none, none, .full⟩,
     ⟨.slA 24 1 (.v 3) (some (.c (.i .i64 1))) (some (.r 0)) none, none, none, .full⟩,
     ⟨.b2s (.r 0), none, none, .full⟩,
     ⟨.mv (.r 0), none, (some 2), .full⟩])
    .ret))))))))
    .skip))
  (.seq (.reg [⟨.mv (.v 0), none, none, .full⟩,
   ⟨.conv .u64 (.r 0), none, none, .full⟩,
   ⟨.mv (.v 1), none, none, .full⟩,
   ⟨.mv (.v 0), none, none, .full⟩,
   ⟨.bin .lss (.r 0) (.c (.i .i64 0)), none, none, .full⟩,
   ⟨.call (.c (.f 68 [] [])) [(.c .nils), (.r 3), (.r 2), (.r 0), (.c (.b false))], none, none, .full⟩,
   ⟨.mv (.r 0), none, none, .full⟩,
   ⟨.ext 0 (.r 0), none, none, .full⟩,
   ⟨.ext 1 (.r 1), none, none, .full⟩,
   ⟨.mv (.r 1), none, none, .full⟩,
   ⟨.mv (.r 1), none, (some 6), .full⟩])
  (.seq (.reg [⟨.mv (.v 6), none, none, .full⟩,
   ⟨.mv (.r 0), none, (some 2), .full⟩])
  .ret))))⟩
/-- solenoid/arith.both -/
def af64 : AFunc := ⟨[(some 0), (some 1), (some 2), none], [.v 3],
  (.seq (.reg [⟨.mv (.c (.b false)), none, (some 3), .full⟩])
  (.seq (.reg [⟨.mv (.v 0), none, none, .full⟩,
   ⟨.mv (.v 1), none, none, .full⟩,
   ⟨.bin .eql (.r 1) (.r 0), none, none, .full⟩,
   ⟨.mv (.r 0), none, none, .full⟩,
   ⟨.mv (.v 2), some (0, true), none, .full⟩,
   ⟨.mv (.v 0), some (1, true), none, .full⟩,
   ⟨.call (.c (.f 31 [] [])) [(.r 1), (.r 0)], some (2, true), none, .full⟩,
   ⟨.pick (.r 3) (.r 0) (.c (.b false)), none, none, .full⟩,
   ⟨.mv (.r 0), none, (some 3), .full⟩])
  .ret))⟩
/-- internal/strconv.small -/
def af65 : AFunc := ⟨[(some 0), none, none], [.v 1],
  (.seq (.reg [⟨.mv (.c (.s [])), none, (some 1), .full⟩])
  (.seq (.seq (.reg [⟨.mv (.v 0), none, none, .full⟩,
   ⟨.bin .lss (.r 0) (.c (.i .i64 10)), none, (some 2), .full⟩])
  (.cond (.v 2)
    (.seq (.reg [⟨.mv (.v 0), none, none, .full⟩,
     ⟨.mv (.v 0), none, none, .full⟩,
     ⟨.bin .add (.r 0) (.c (.i .i64 1)), none, none, .full⟩,
     ⟨.slS (.c (.s [48, 49, 50, 51, 52, 53, 54, 55, 56, 57, 97, 98, 99, 100, 101, 102, 103, 104, 105, 106, 107, 108, 109, 110, 111, 112, 113, 114, 115, 116, 117, 118, 119, 120, 121, 122])) (some (.r 2)) (some (.r 0)), none, none, .full⟩,
     ⟨.mv (.r 0), none, (some 1), .full⟩])
    .ret)
    .skip))
  (.seq (.reg [⟨.mv (.v 0), none, none, .full⟩,
   ⟨.bin .mul (.r 0) (.c (.i .i64 2)), none, none, .full⟩,
   ⟨.mv (.v 0), none, none, .full⟩,
   ⟨.bin .mul (.r 0) (.c (.i .i64 2)), none, none, .full⟩,
   ⟨.bin .add (.r 0) (.c (.i .i64 2)), none, none, .full⟩,
   ⟨.slS (.c (.s [48, 48, 48, 49, 48, 50, 48, 51, 48, 52, 48, 53, 48, 54, 48, 55, 48, 56, 48, 57, 49, 48, 49, 49, 49, 50, 49, 51, 49, 52, 49, 53, 49, 54, 49, 55, 49, 56, 49, 57, 50, 48, 50, 49, 50, 50, 50, 51, 50, 52, 50, 53, 50, 54, 50, 55, 50, 56, 50, 57, 51, 48, 51, 49, 51, 50, 51, 51, 51, 52, 51, 53, 51, 54, 51, 55, 51, 56, 51, 57, 52, 48, 52, 49, 52, 50, 52, 51, 52, 52, 52, 53, 52, 54, 52, 55, 52, 56, 52, 57, 53, 48, 53, 49, 53, 50, 53, 51, 53, 52, 53, 53, 53, 54, 53, 55, 53, 56, 53, 57, 54, 48, 54, 49, 54, 50, 54, 51, 54, 52, 54, 53, 54, 54, 54, 55, 54, 56, 54, 57, 55, 48, 55, 49, 55, 50, 55, 51, 55, 52, 55, 53, 55, 54, 55, 55, 55, 56, 55, 57, 56, 48, 56, 49, 56, 50, 56, 51, 56, 52, 56, 53, 56, 54, 56, 55, 56, 56, 56, 57, 57, 48, 57, 49, 57, 50, 57, 51, 57, 52, 57, 53, 57, 54, 57, 55, 57, 56, 57, 57])) (some (.r 3)) (some (.r 0)), none, none, .full⟩,
   ⟨.mv (.r 0), none, (some 1), .full⟩])
  .ret)))⟩
/-- internal/strconv.numDigits -/
def af66 : AFunc := ⟨[(some 0), none, none], [.v 1],
  (.seq (.reg [⟨.mv (.c (.i .i64 0)), none, (some 1), .full⟩])
  (.seq (.reg [⟨.mv (.v 0), none, none, .full⟩,
   ⟨.call (.c (.f 70 [] [])) [(.r 0)], none, none, .full⟩,
   ⟨.call (.c (.f 69 [] [])) [(.r 0)], none, none, .full⟩,
   ⟨.mv (.r 0), none, (some 2), .full⟩])
  (.seq (.reg [⟨.mv (.v 2), none, none, .full⟩,
   ⟨.mv (.v 0), none, none, .full⟩,
   ⟨.mv (.v 2), none, none, .full⟩,
   ⟨.iaA 20 1 (.c (.p 0 0)) (.r 0), none, none, .full⟩,
   ⟨.load none (.r 0), none, none, .full⟩,
   ⟨.bin .geq (.r 3) (.r 0), none, none, .full⟩,
   ⟨.call (.c (.f 71 [] [])) [(.r 0)], none, none, .full⟩,
   ⟨.bin .add (.r 6) (.r 0), none, none, .full⟩,
   ⟨.mv (.r 0), none, (some 1), .full⟩])
  .ret)))⟩
/-- internal/strconv.formatBase10 -/
def af67 : AFunc := ⟨[(some 0), (some 1), none, none, none, none, none, none, none, none, none, none, none, none, none, none, none, none, none], [],
  (.seq (.reg [⟨.mv (.v 0), none, none, .full⟩,
   ⟨.len 1 (.r 0), none, none, .full⟩,
   ⟨.mv (.r 0), none, (some 2), .full⟩])
  (.seq (.blk 0 (.loop
    (.seq (.seq (.reg [⟨.mv (.v 2), none, none, .full⟩,
     ⟨.bin .geq (.r 0) (.c (.i .i64 8)), none, (some 15), .full⟩])
    (.cond (.v 15)
      .skip
      (.exit 0)))
    (.blk 1 (.seq (.reg [⟨.mv (.v 1), none, none, .full⟩,
     ⟨.bin .rem (.r 0) (.c (.i .u64 100000000)), none, none, .full⟩,
     ⟨.conv .u32 (.r 0), none, none, .full⟩,
     ⟨.mv (.r 0), none, (some 3), .full⟩])
    (.seq (.reg [⟨.mv (.v 1), none, none, .full⟩,
     ⟨.bin .quo (.r 0) (.c (.i .u64 100000000)), none, none, .full⟩,
     ⟨.mv (.r 0), none, (some 1), .full⟩])
    (.seq (.reg [⟨.mv (.v 3), none, none, .full⟩,
     ⟨.bin .quo (.r 0) (.c (.i .u32 10000)), none, none, .full⟩,
     ⟨.mv (.v 3), none, none, .full⟩,
     ⟨.bin .rem (.r 0) (.c (.i .u32 10000)), none, none, .full⟩,
     ⟨.mv (.r 2), none, (some 4), .full⟩,
     ⟨.mv (.r 1), none, (some 5), .full⟩])
    (.seq (.reg [⟨.mv (.v 5), none, none, .full⟩,
     ⟨.bin .quo (.r 0) (.c (.i .u32 100)), none, none, .full⟩,
     ⟨.bin .mul (.r 0) (.c (.i .u32 2)), none, none, .full⟩,
     ⟨.mv (.v 5), none, none, .full⟩,
     ⟨.bin .rem (.r 0) (.c (.i .u32 100)), none, none, .full⟩,
     ⟨.bin .mul (.r 0) (.c (.i .u32 2)), none, none, .full⟩,
     ⟨.mv (.r 3), none, (some 6), .full⟩,
     ⟨.mv (.r 1), none, (some 7), .full⟩])
    (.seq (.reg [⟨.mv (.v 4), none, none, .full⟩,
     ⟨.bin .quo (.r 0) (.c (.i .u32 100)), none, none, .full⟩,
     ⟨.bin .mul (.r 0) (.c (.i .u32 2)), none, none, .full⟩,
     ⟨.mv (.v 4), none, none, .full⟩,
     ⟨.bin .rem (.r 0) (.c (.i .u32 100)), none, none, .full⟩,
     ⟨.bin .mul (.r 0) (.c (.i .u32 2)), none, none, .full⟩,
     ⟨.mv (.r 3), none, (some 8), .full⟩,
     ⟨.mv (.r 1), none, (some 9), .full⟩])
    (.seq (.reg [⟨.mv (.v 0), none, none, .full⟩,
     ⟨.mv (.v 2), none, none, .full⟩,
     ⟨.bin .sub (.r 0) (.c (.i .i64 1)), none, none, .full⟩,
     ⟨.mv (.v 0), none, none, .new⟩,
     ⟨.mv (.v 2), none, none, .new⟩,
     ⟨.bin .sub (.r 0) (.c (.i .i64 2)), none, none, .new⟩,
     ⟨.mv (.v 7), none, none, .full⟩,
     ⟨.bin .add (.r 0) (.c (.i .u32 1)), none, none, .full⟩,
     ⟨.idxS (.c (.s [48, 48, 48, 49, 48, 50, 48, 51, 48, 52, 48, 53, 48, 54, 48, 55, 48, 56, 48, 57, 49, 48, 49, 49, 49, 50, 49, 51, 49, 52, 49, 53, 49, 54, 49, 55, 49, 56, 49, 57, 50, 48, 50, 49, 50, 50, 50, 51, 50, 52, 50, 53, 50, 54, 50, 55, 50, 56, 50, 57, 51, 48, 51, 49, 51, 50, 51, 51, 51, 52, 51, 53, 51, 54, 51, 55, 51, 56, 51, 57, 52, 48, 52, 49, 52, 50, 52, 51, 52, 52, 52, 53, 52, 54, 52, 55, 52, 56, 52, 57, 53, 48, 53, 49, 53, 50, 53, 51, 53, 52, 53, 53, 53, 54, 53, 55, 53, 56, 53, 57, 54, 48, 54, 49, 54, 50, 54, 51, 54, 52, 54, 53, 54, 54, 54, 55, 54, 56, 54, 57, 55, 48, 55, 49, 55, 50, 55, 51, 55, 52, 55, 53, 55, 54, 55, 55, 55, 56, 55, 57, 56, 48, 56, 49, 56, 50, 56, 51, 56, 52, 56, 53, 56, 54, 56, 55, 56, 56, 56, 57, 57, 48, 57, 49, 57, 50, 57, 51, 57, 52, 57, 53, 57, 54, 57, 55, 57, 56, 57, 57])) (.r 0), none, none, .full⟩,
     ⟨.mv (.v 7), none, none, .new⟩,
     ⟨.idxS (.c (.s [48, 48, 48, 49, 48, 50, 48, 51, 48, 52, 48, 53, 48, 54, 48, 55, 48, 56, 48, 57, 49, 48, 49, 49, 49, 50, 49, 51, 49, 52, 49, 53, 49, 54, 49, 55, 49, 56, 49, 57, 50, 48, 50, 49, 50, 50, 50, 51, 50, 52, 50, 53, 50, 54, 50, 55, 50, 56, 50, 57, 51, 48, 51, 49, 51, 50, 51, 51, 51, 52, 51, 53, 51, 54, 51, 55, 51, 56, 51, 57, 52, 48, 52, 49, 52, 50, 52, 51, 52, 52, 52, 53, 52, 54, 52, 55, 52, 56, 52, 57, 53, 48, 53, 49, 53, 50, 53, 51, 53, 52, 53, 53, 53, 54, 53, 55, 53, 56, 53, 57, 54, 48, 54, 49, 54, 50, 54, 51, 54, 52, 54, 53, 54, 54, 54, 55, 54, 56, 54, 57, 55, 48, 55, 49, 55, 50, 55, 51, 55, 52, 55, 53, 55, 54, 55, 55, 55, 56, 55, 57, 56, 48, 56, 49, 56, 50, 56, 51, 56, 52, 56, 53, 56, 54, 56, 55, 56, 56, 56, 57, 57, 48, 57, 49, 57, 50, 57, 51, 57, 52, 57, 53, 57, 54, 57, 55, 57, 56, 57, 57])) (.r 0), none, none, .new⟩,
     ⟨.iaS 1 (.r 10) (.r 8), none, none, .full⟩,
     ⟨.store 1 (.r 0) (.r 3), none, none, .full⟩,
     ⟨.iaS 1 (.r 9) (.r 7), none, none, .full⟩,
     ⟨.store 1 (.r 0) (.r 3), none, none, .full⟩])
    (.seq (.reg [⟨.mv (.v 0), none, none, .full⟩,
     ⟨.mv (.v 2), none, none, .full⟩,
     ⟨.bin .sub (.r 0) (.c (.i .i64 3)), none, none, .full⟩,
     ⟨.mv (.v 0), none, none, .new⟩,
     ⟨.mv (.v 2), none, none, .new⟩,
     ⟨.bin .sub (.r 0) (.c (.i .i64 4)), none, none, .new⟩,
     ⟨.mv (.v 6), none, none, .full⟩,
     ⟨.bin .add (.r 0) (.c (.i .u32 1)), none, none, .full⟩,
     ⟨.idxS (.c (.s [48, 48, 48, 49, 48, 50, 48, 51, 48, 52, 48, 53, 48, 54, 48, 55, 48, 56, 48, 57, 49, 48, 49, 49, 49, 50, 49, 51, 49, 52, 49, 53, 49, 54, 49, 55, 49, 56, 49, 57, 50, 48, 50, 49, 50, 50, 50, 51, 50, 52, 50, 53, 50, 54, 50, 55, 50, 56, 50, 57, 51, 48, 51, 49, 51, 50, 51, 51, 51, 52, 51, 53, 51, 54, 51, 55, 51, 56, 51, 57, 52, 48, 52, 49, 52, 50, 52, 51, 52, 52, 52, 53, 52, 54, 52, 55, 52, 56, 52, 57, 53, 48, 53, 49, 53, 50, 53, 51, 53, 52, 53, 53, 53, 54, 53, 55, 53, 56, 53, 57, 54, 48, 54, 49, 54, 50, 54, 51, 54, 52, 54, 53, 54, 54, 54, 55, 54, 56, 54, 57, 55, 48, 55, 49, 55, 50, 55, 51, 55, 52, 55, 53, 55, 54, 55, 55, 55, 56, 55, 57, 56, 48, 56, 49, 56, 50, 56, 51, 56, 52, 56, 53, 56, 54, 56, 55, 56, 56, 56, 57, 57, 48, 57, 49, 57, 50, 57, 51, 57, 52, 57, 53, 57, 54, 57, 55, 57, 56, 57, 57])) (.r 0), none, none, .full⟩,
     ⟨.mv (.v 6), none, none, .new⟩,
     ⟨.idxS (.c (.s [48, 48, 48, 49, 48, 50, 48, 51, 48, 52, 48, 53, 48, 54, 48, 55, 48, 56, 48, 57, 49, 48, 49, 49, 49, 50, 49, 51, 49, 52, 49, 53, 49, 54, 49, 55, 49, 56, 49, 57, 50, 48, 50, 49, 50, 50, 50, 51, 50, 52, 50, 53, 50, 54, 50, 55, 50, 56, 50, 57, 51, 48, 51, 49, 51, 50, 51, 51, 51, 52, 51, 53, 51, 54, 51, 55, 51, 56, 51, 57, 52, 48, 52, 49, 52, 50, 52, 51, 52, 52, 52, 53, 52, 54, 52, 55, 52, 56, 52, 57, 53, 48, 53, 49, 53, 50, 53, 51, 53, 52, 53, 53, 53, 54, 53, 55, 53, 56, 53, 57, 54, 48, 54, 49, 54, 50, 54, 51, 54, 52, 54, 53, 54, 54, 54, 55, 54, 56, 54, 57, 55, 48, 55, 49, 55, 50, 55, 51, 55, 52, 55, 53, 55, 54, 55, 55, 55, 56, 55, 57, 56, 48, 56, 49, 56, 50, 56, 51, 56, 52, 56, 53, 56, 54, 56, 55, 56, 56, 56, 57, 57, 48, 57, 49, 57, 50, 57, 51, 57, 52, 57, 53, 57, 54, 57, 55, 57, 56, 57, 57])) (.r 0), none, none, .new⟩,
     ⟨.iaS 1 (.r 10) (.r 8), none, none, .full⟩,
     ⟨.store 1 (.r 0) (.r 3), none, none, .full⟩,
     ⟨.iaS 1 (.r 9) (.r 7), none, none, .full⟩,
     ⟨.store 1 (.r 0) (.r 3), none, none, .full⟩])
    (.seq (.reg [⟨.mv (.v 0), none, none, .full⟩,
     ⟨.mv (.v 2), none, none, .full⟩,
     ⟨.bin .sub (.r 0) (.c (.i .i64 5)), none, none, .full⟩,
     ⟨.mv (.v 0), none, none, .new⟩,
     ⟨.mv (.v 2), none, none, .new⟩,
     ⟨.bin .sub (.r 0) (.c (.i .i64 6)), none, none, .new⟩,
     ⟨.mv (.v 9), none, none, .full⟩,
     ⟨.bin .add (.r 0) (.c (.i .u32 1)), none, none, .full⟩,
     ⟨.idxS (.c (.s [48, 48, 48, 49, 48, 50, 48, 51, 48, 52, 48, 53, 48, 54, 48, 55, 48, 56, 48, 57, 49, 48, 49, 49, 49, 50, 49, 51, 49, 52, 49, 53, 49, 54, 49, 55, 49, 56, 49, 57, 50, 48, 50, 49, 50, 50, 50, 51, 50, 52, 50, 53, 50, 54, 50, 55, 50, 56, 50, 57, 51, 48, 51, 49, 51, 50, 51, 51, 51, 52, 51, 53, 51, 54, 51, 55, 51, 56, 51, 57, 52, 48, 52, 49, 52, 50, 52, 51, 52, 52, 52, 53, 52, 54, 52, 55, 52, 56, 52, 57, 53, 48, 53, 49, 53, 50, 53, 51, 53, 52, 53, 53, 53, 54, 53, 55, 53, 56, 53, 57, 54, 48, 54, 49, 54, 50, 54, 51, 54, 52, 54, 53, 54, 54, 54, 55, 54, 56, 54, 57, 55, 48, 55, 49, 55, 50, 55, 51, 55, 52, 55, 53, 55, 54, 55, 55, 55, 56, 55, 57, 56, 48, 56, 49, 56, 50, 56, 51, 56, 52, 56, 53, 56, 54, 56, 55, 56, 56, 56, 57, 57, 48, 57, 49, 57, 50, 57, 51, 57, 52, 57, 53, 57, 54, 57, 55, 57, 56, 57, 57])) (.r 0), none, none, .full⟩,
     ⟨.mv (.v 9), none, none, .new⟩,
     ⟨.idxS (.c (.s [48, 48, 48, 49, 48, 50, 48, 51, 48, 52, 48, 53, 48, 54, 48, 55, 48, 56, 48, 57, 49, 48, 49, 49, 49, 50, 49, 51, 49, 52, 49, 53, 49, 54, 49, 55, 49, 56, 49, 57, 50, 48, 50, 49, 50, 50, 50, 51, 50, 52, 50, 53, 50, 54, 50, 55, 50, 56, 50, 57, 51, 48, 51, 49, 51, 50, 51, 51, 51, 52, 51, 53, 51, 54, 51, 55, 51, 56, 51, 57, 52, 48, 52, 49, 52, 50, 52, 51, 52, 52, 52, 53, 52, 54, 52, 55, 52, 56, 52, 57, 53, 48, 53, 49, 53, 50, 53, 51, 53, 52, 53, 53, 53, 54, 53, 55, 53, 56, 53, 57, 54, 48, 54, 49, 54, 50, 54, 51, 54, 52, 54, 53, 54, 54, 54, 55, 54, 56, 54, 57, 55, 48, 55, 49, 55, 50, 55, 51, 55, 52, 55, 53, 55, 54, 55, 55, 55, 56, 55, 57, 56, 48, 56, 49, 56, 50, 56, 51, 56, 52, 56, 53, 56, 54, 56, 55, 56, 56, 56, 57, 57, 48, 57, 49, 57, 50, 57, 51, 57, 52, 57, 53, 57, 54, 57, 55, 57, 56, 57, 57])) (.r 0), none, none, .new⟩,
     ⟨.iaS 1 (.r 10) (.r 8), none, none, .full⟩,
     ⟨.store 1 (.r 0) (.r 3), none, none, .full⟩,
     ⟨.iaS 1 (.r 9) (.r 7), none, none, .full⟩,
     ⟨.store 1 (.r 0) (.r 3), none, none, .full⟩])
    (.seq (.reg [⟨.mv (.v 0), none, none, .full⟩,
     ⟨.mv (.v 2), none, none, .full⟩,
     ⟨.bin .sub (.r 0) (.c (.i .i64 7)), none, none, .full⟩,
     ⟨.mv (.v 0), none, none, .new⟩,
     ⟨.mv (.v 2), none, none, .new⟩,
     ⟨.bin .sub (.r 0) (.c (.i .i64 8)), none, none, .new⟩,
     ⟨.mv (.v 8), none, none, .full⟩,
     ⟨.bin .add (.r 0) (.c (.i .u32 1)), none, none, .full⟩,
     ⟨.idxS (.c (.s [48, 48, 48, 49, 48, 50, 48, 51, 48, 52, 48, 53, 48, 54, 48, 55, 48, 56, 48, 57, 49, 48, 49, 49, 49, 50, 49, 51, 49, 52, 49, 53, 49, 54, 49, 55, 49, 56, 49, 57, 50, 48, 50, 49, 50, 50, 50, 51, 50, 52, 50, 53, 50, 54, 50, 55, 50, 56, 50, 57, 51, 48, 51, 49, 51, 50, 51, 51, 51, 52, 51, 53, 51, 54, 51, 55, 51, 56, 51, 57, 52, 48, 52, 49, 52, 50, 52, 51, 52, 52, 52, 53, 52, 54, 52, 55, 52, 56, 52, 57, 53, 48, 53, 49, 53, 50, 53, 51, 53, 52, 53, 53, 53, 54, 53, 55, 53, 56, 53, 57, 54, 48, 54, 49, 54, 50, 54, 51, 54, 52, 54, 53, 54, 54, 54, 55, 54, 56, 54, 57, 55, 48, 55, 49, 55, 50, 55, 51, 55, 52, 55, 53, 55, 54, 55, 55, 55, 56, 55, 57, 56, 48, 56, 49, 56, 50, 56, 51, 56, 52, 56, 53, 56, 54, 56, 55, 56, 56, 56, 57, 57, 48, 57, 49, 57, 50, 57, 51, 57, 52, 57, 53, 57, 54, 57, 55, 57, 56, 57, 57])) (.r 0), none, none, .full⟩,
     ⟨.mv (.v 8), none, none, .new⟩,
     ⟨.idxS (.c (.s [48, 48, 48, 49, 48, 50, 48, 51, 48, 52, 48, 53, 48, 54, 48, 55, 48, 56, 48, 57, 49, 48, 49, 49, 49, 50, 49, 51, 49, 52, 49, 53, 49, 54, 49, 55, 49, 56, 49, 57, 50, 48, 50, 49, 50, 50, 50, 51, 50, 52, 50, 53, 50, 54, 50, 55, 50, 56, 50, 57, 51, 48, 51, 49, 51, 50, 51, 51, 51, 52, 51, 53, 51, 54, 51, 55, 51, 56, 51, 57, 52, 48, 52, 49, 52, 50, 52, 51, 52, 52, 52, 53, 52, 54, 52, 55, 52, 56, 52, 57, 53, 48, 53, 49, 53, 50, 53, 51, 53, 52, 53, 53, 53, 54, 53, 55, 53, 56, 53, 57, 54, 48, 54, 49, 54, 50, 54, 51, 54, 52, 54, 53, 54, 54, 54, 55, 54, 56, 54, 57, 55, 48, 55, 49, 55, 50, 55, 51, 55, 52, 55, 53, 55, 54, 55, 55, 55, 56, 55, 57, 56, 48, 56, 49, 56, 50, 56, 51, 56, 52, 56, 53, 56, 54, 56, 55, 56, 56, 56, 57, 57, 48, 57, 49, 57, 50, 57, 51, 57, 52, 57, 53, 57, 54, 57, 55, 57, 56, 57, 57])) (.r 0), none, none, .new⟩,
     ⟨.iaS 1 (.r 10) (.r 8), none, none, .full⟩,
     ⟨.store 1 (.r 0) (.r 3), none, none, .full⟩,
     ⟨.iaS 1 (.r 9) (.r 7), none, none, .full⟩,
     ⟨.store 1 (.r 0) (.r 3), none, none, .full⟩])
    (.reg [⟨.mv (.v 2), none, none, .full⟩,
     ⟨.bin .sub (.r 0) (.c (.i .i64 8)), none, none, .full⟩,
     ⟨.mv (.r 0), none, (some 2), .full⟩]))))))))))))))
  (.seq (.reg [⟨.mv (.v 1), none, none, .full⟩,
   ⟨.conv .u32 (.r 0), none, none, .full⟩,
   ⟨.mv (.r 0), none, (some 10), .full⟩])
  (.seq (.seq (.reg [⟨.mv (.v 2), none, none, .full⟩,
   ⟨.bin .geq (.r 0) (.c (.i .i64 4)), none, (some 16), .full⟩])
  (.cond (.v 16)
    (.seq (.reg [⟨.mv (.v 10), none, none, .full⟩,
     ⟨.bin .rem (.r 0) (.c (.i .u32 10000)), none, none, .full⟩,
     ⟨.mv (.r 0), none, (some 11), .full⟩])
    (.seq (.reg [⟨.mv (.v 10), none, none, .full⟩,
     ⟨.bin .quo (.r 0) (.c (.i .u32 10000)), none, none, .full⟩,
     ⟨.mv (.r 0), none, (some 10), .full⟩])
    (.seq (.reg [⟨.mv (.v 11), none, none, .full⟩,
     ⟨.bin .quo (.r 0) (.c (.i .u32 100)), none, none, .full⟩,
     ⟨.bin .mul (.r 0) (.c (.i .u32 2)), none, none, .full⟩,
     ⟨.mv (.v 11), none, none, .full⟩,
     ⟨.bin .rem (.r 0) (.c (.i .u32 100)), none, none, .full⟩,
     ⟨.bin .mul (.r 0) (.c (.i .u32 2)), none, none, .full⟩,
     ⟨.mv (.r 3), none, (some 12), .full⟩,
     ⟨.mv (.r 1), none, (some 13), .full⟩])
    (.seq (.reg [⟨.mv (.v 0), none, none, .full⟩,
     ⟨.mv (.v 2), none, none, .full⟩,
     ⟨.bin .sub (.r 0) (.c (.i .i64 1)), none, none, .full⟩,
     ⟨.mv (.v 0), none, none, .new⟩,
     ⟨.mv (.v 2), none, none, .new⟩,
     ⟨.bin .sub (.r 0) (.c (.i .i64 2)), none, none, .new⟩,
     ⟨.mv (.v 13), none, none, .full⟩,
     ⟨.bin .add (.r 0) (.c (.i .u32 1)), none, none, .full⟩,
     ⟨.idxS (.c (.s [48, 48, 48, 49, 48, 50, 48, 51, 48, 52, 48, 53, 48, 54, 48, 55, 48, 56, 48, 57, 49, 48, 49, 49, 49, 50, 49, 51, 49, 52, 49, 53, 49, 54, 49, 55, 49, 56, 49, 57, 50, 48, 50, 49, 50, 50, 50, 51, 50, 52, 50, 53, 50, 54, 50, 55, 50, 56, 50, 57, 51, 48, 51, 49, 51, 50, 51, 51, 51, 52, 51, 53, 51, 54, 51, 55, 51, 56, 51, 57, 52, 48, 52, 49, 52, 50, 52, 51, 52, 52, 52, 53, 52, 54, 52, 55, 52, 56, 52, 57, 53, 48, 53, 49, 53, 50, 53, 51, 53, 52, 53, 53, 53, 54, 53, 55, 53, 56, 53, 57, 54, 48, 54, 49, 54, 50, 54, 51, 54, 52, 54, 53, 54, 54, 54, 55, 54, 56, 54, 57, 55, 48, 55, 49, 55, 50, 55, 51, 55, 52, 55, 53, 55, 54, 55, 55, 55, 56, 55, 57, 56, 48, 56, 49, 56, 50, 56, 51, 56, 52, 56, 53, 56, 54, 56, 55, 56, 56, 56, 57, 57, 48, 57, 49, 57, 50, 57, 51, 57, 52, 57, 53, 57, 54, 57, 55, 57, 56, 57, 57])) (.r 0), none, none, .full⟩,
     ⟨.mv (.v 13), none, none, .new⟩,
     ⟨.idxS (.c (.s [48, 48, 48, 49, 48, 50, 48, 51, 48, 52, 48, 53, 48, 54, 48, 55, 48, 56, 48, 57, 49, 48, 49, 49, 49, 50, 49, 51, 49, 52, 49, 53, 49, 54, 49, 55, 49, 56, 49, 57, 50, 48, 50, 49, 50, 50, 50, 51, 50, 52, 50, 53, 50, 54, 50, 55, 50, 56, 50, 57, 51, 48, 51, 49, 51, 50, 51, 51, 51, 52, 51, 53, 51, 54, 51, 55, 51, 56, 51, 57, 52, 48, 52, 49, 52, 50, 52, 51, 52, 52, 52, 53, 52, 54, 52, 55, 52, 56, 52, 57, 53, 48, 53, 49, 53, 50, 53, 51, 53, 52, 53, 53, 53, 54, 53, 55, 53, 56, 53, 57, 54, 48, 54, 49, 54, 50, 54, 51, 54, 52, 54, 53, 54, 54, 54, 55, 54, 56, 54, 57, 55, 48, 55, 49, 55, 50, 55, 51, 55, 52, 55, 53, 55, 54, 55, 55, 55, 56, 55, 57, 56, 48, 56, 49, 56, 50, 56, 51, 56, 52, 56, 53, 56, 54, 56, 55, 56, 56, 56, 57, 57, 48, 57, 49, 57, 50, 57, 51, 57, 52, 57, 53, 57, 54, 57, 55, 57, 56, 57, 57])) (.r 0), none, none, .new⟩,
     ⟨.iaS 1 (.r 10) (.r 8), none, none, .full⟩,
     ⟨.store 1 (.r 0) (.r 3), none, none, .full⟩,
     ⟨.iaS 1 (.r 9) (.r 7), none, none, .full⟩,
     ⟨.store 1 (.r 0) (.r 3), none, none, .full⟩])
    (.seq (.reg [⟨.mv (.v 0), none, none, .full⟩,
     ⟨.mv (.v 2), none, none, .full⟩,
     ⟨.bin .sub (.r 0) (.c (.i .i64 3)), none, none, .full⟩,
     ⟨.mv (.v 0), none, none, .new⟩,
     ⟨.mv (.v 2), none, none, .new⟩,
     ⟨.bin .sub (.r 0) (.c (.i .i64 4)), none, none, .new⟩,
     ⟨.mv (.v 12), none, none, .full⟩,
     ⟨.bin .add (.r 0) (.c (.i .u32 1)), none, none, .full⟩,
     ⟨.idxS (.c (.s [48, 48, 48, 49, 48, 50, 48, 51, 48, 52, 48, 53, 48, 54, 48, 55, 48, 56, 48, 57, 49, 48, 49, 49, 49, 50, 49, 51, 49, 52, 49, 53, 49, 54, 49, 55, 49, 56, 49, 57, 50, 48, 50, 49, 50, 50, 50, 51, 50, 52, 50, 53, 50, 54, 50, 55, 50, 56, 50, 57, 51, 48, 51, 49, 51, 50, 51, 51, 51, 52, 51, 53, 51, 54, 51, 55, 51, 56, 51, 57, 52, 48, 52, 49, 52, 50, 52, 51, 52, 52, 52, 53, 52, 54, 52, 55, 52, 56, 52, 57, 53, 48, 53, 49, 53, 50, 53, 51, 53, 52, 53, 53, 53, 54, 53, 55, 53, 56, 53, 57, 54, 48, 54, 49, 54, 50, 54, 51, 54, 52, 54, 53, 54, 54, 54, 55, 54, 56, 54, 57, 55, 48, 55, 49, 55, 50, 55, 51, 55, 52, 55, 53, 55, 54, 55, 55, 55, 56, 55, 57, 56, 48, 56, 49, 56, 50, 56, 51, 56, 52, 56, 53, 56, 54, 56, 55, 56, 56, 56, 57, 57, 48, 57, 49, 57, 50, 57, 51, 57, 52, 57, 53, 57, 54, 57, 55, 57, 56, 57, 57])) (.r 0), none, none, .full⟩,
     ⟨.mv (.v 12), none, none, .new⟩,
     ⟨.idxS (.c (.s [48, 48, 48, 49, 48, 50, 48, 51, 48, 52, 48, 53, 48, 54, 48, 55, 48, 56, 48, 57, 49, 48, 49, 49, 49, 50, 49, 51, 49, 52, 49, 53, 49, 54, 49, 55, 49, 56, 49, 57, 50, 48, 50, 49, 50, 50, 50, 51, 50, 52, 50, 53, 50, 54, 50, 55, 50, 56, 50, 57, 51, 48, 51, 49, 51, 50, 51, 51, 51, 52, 51, 53, 51, 54, 51, 55, 51, 56, 51, 57, 52, 48, 52, 49, 52, 50, 52, 51, 52, 52, 52, 53, 52, 54, 52, 55, 52, 56, 52, 57, 53, 48, 53, 49, 53, 50, 53, 51, 53, 52, 53, 53, 53, 54, 53, 55, 53, 56, 53, 57, 54, 48, 54, 49, 54, 50, 54, 51, 54, 52, 54, 53, 54, 54, 54, 55, 54, 56, 54, 57, 55, 48, 55, 49, 55, 50, 55, 51, 55, 52, 55, 53, 55, 54, 55, 55, 55, 56, 55, 57, 56, 48, 56, 49, 56, 50, 56, 51, 56, 52, 56, 53, 56, 54, 56, 55, 56, 56, 56, 57, 57, 48, 57, 49, 57, 50, 57, 51, 57, 52, 57, 53, 57, 54, 57, 55, 57, 56, 57, 57])) (.r 0), none, none, .new⟩,
     ⟨.iaS 1 (.r 10) (.r 8), none, none, .full⟩,
     ⟨.store 1 (.r 0) (.r 3), none, none, .full⟩,
     ⟨.iaS 1 (.r 9) (.r 7), none, none, .full⟩,
     ⟨.store 1 (.r 0) (.r 3), none, none, .full⟩])
    (.reg [⟨.mv (.v 2), none, none, .full⟩,
     ⟨.bin .sub (.r 0) (.c (.i .i64 4)), none, none, .full⟩,
     ⟨.mv (.r 0), none, (some 2), .full⟩]))))))
    .skip))
  (.seq (.seq (.reg [⟨.mv (.v 2), none, none, .full⟩,
   ⟨.bin .geq (.r 0) (.c (.i .i64 2)), none, (some 17), .full⟩])
  (.cond (.v 17)
    (.seq (.reg [⟨.mv (.v 10), none, none, .full⟩,
     ⟨.bin .rem (.r 0) (.c (.i .u32 100)), none, none, .full⟩,
     ⟨.bin .mul (.r 0) (.c (.i .u32 2)), none, none, .full⟩,
     ⟨.mv (.r 0), none, (some 14), .full⟩])
    (.seq (.reg [⟨.mv (.v 10), none, none, .full⟩,
     ⟨.bin .quo (.r 0) (.c (.i .u32 100)), none, none, .full⟩,
     ⟨.mv (.r 0), none, (some 10), .full⟩])
    (.seq (.reg [⟨.mv (.v 0), none, none, .full⟩,
     ⟨.mv (.v 2), none, none, .full⟩,
     ⟨.bin .sub (.r 0) (.c (.i .i64 1)), none, none, .full⟩,
     ⟨.mv (.v 0), none, none, .new⟩,
     ⟨.mv (.v 2), none, none, .new⟩,
     ⟨.bin .sub (.r 0) (.c (.i .i64 2)), none, none, .new⟩,
     ⟨.mv (.v 14), none, none, .full⟩,
     ⟨.bin .add (.r 0) (.c (.i .u32 1)), none, none, .full⟩,
     ⟨.idxS (.c (.s [48, 48, 48, 49, 48, 50, 48, 51, 48, 52, 48, 53, 48, 54, 48, 55, 48, 56, 48, 57, 49, 48, 49, 49, 49, 50, 49, 51, 49, 52, 49, 53, 49, 54, 49, 55, 49, 56, 49, 57, 50, 48, 50, 49, 50, 50, 50, 51, 50, 52, 50, 53, 50, 54, 50, 55, 50, 56, 50, 57, 51, 48, 51, 49, 51, 50, 51, 51, 51, 52, 51, 53, 51, 54, 51, 55, 51, 56, 51, 57, 52, 48, 52, 49, 52, 50, 52, 51, 52, 52, 52, 53, 52, 54, 52, 55, 52, 56, 52, 57, 53, 48, 53, 49, 53, 50, 53, 51, 53, 52, 53, 53, 53, 54, 53, 55, 53, 56, 53, 57, 54, 48, 54, 49, 54, 50, 54, 51, 54, 52, 54, 53, 54, 54, 54, 55, 54, 56, 54, 57, 55, 48, 55, 49, 55, 50, 55, 51, 55, 52, 55, 53, 55, 54, 55, 55, 55, 56, 55, 57, 56, 48, 56, 49, 56, 50, 56, 51, 56, 52, 56, 53, 56, 54, 56, 55, 56, 56, 56, 57, 57, 48, 57, 49, 57, 50, 57, 51, 57, 52, 57, 53, 57, 54, 57, 55, 57, 56, 57, 57])) (.r 0), none, none, .full⟩,
     ⟨.mv (.v 14), none, none, .new⟩,
     ⟨.idxS (.c (.s [48, 48, 48, 49, 48, 50, 48, 51, 48, 52, 48, 53, 48, 54, 48, 55, 48, 56, 48, 57, 49, 48, 49, 49, 49, 50, 49, 51, 49, 52, 49, 53, 49, 54, 49, 55, 49, 56, 49, 57, 50, 48, 50, 49, 50, 50, 50, 51, 50, 52, 50, 53, 50, 54, 50, 55, 50, 56, 50, 57, 51, 48, 51, 49, 51, 50, 51, 51, 51, 52, 51, 53, 51, 54, 51, 55, 51, 56, 51, 57, 52, 48, 52, 49, 52, 50, 52, 51, 52, 52, 52, 53, 52, 54, 52, 55, 52, 56, 52, 57, 53, 48, 53, 49, 53, 50, 53, 51, 53, 52, 53, 53, 53, 54, 53, 55, 53, 56, 53, 57, 54, 48, 54, 49, 54, 50, 54, 51, 54, 52, 54, 53, 54, 54, 54, 55, 54, 56, 54, 57, 55, 48, 55, 49, 55, 50, 55, 51, 55, 52, 55, 53, 55, 54, 55, 55, 55, 56, 55, 57, 56, 48, 56, 49, 56, 50, 56, 51, 56, 52, 56, 53, 56, 54, 56, 55, 56, 56, 56, 57, 57, 48, 57, 49, 57, 50, 57, 51, 57, 52, 57, 53, 57, 54, 57, 55, 57, 56, 57, 57])) (.r 0), none, none, .new⟩,
     ⟨.iaS 1 (.r 10) (.r 8), none, none, .full⟩,
     ⟨.store 1 (.r 0) (.r 3), none, none, .full⟩,
     ⟨.iaS 1 (.r 9) (.r 7), none, none, .full⟩,
     ⟨.store 1 (.r 0) (.r 3), none, none, .full⟩])
    (.reg [⟨.mv (.v 2), none, none, .full⟩,
     ⟨.bin .sub (.r 0) (.c (.i .i64 2)), none, none, .full⟩,
     ⟨.mv (.r 0), none, (some 2), .full⟩]))))
    .skip))
  (.seq (.reg [⟨.mv (.v 2), none, none, .full⟩,
   ⟨.bin .gtr (.r 0) (.c (.i .i64 0)), none, (some 18), .full⟩])
  (.cond (.v 18)
    (.reg [⟨.mv (.v 0), none, none, .full⟩,
     ⟨.mv (.v 10), none, none, .full⟩,
     ⟨.bin .add (.c (.i .u32 48)) (.r 0), none, none, .full⟩,
     ⟨.conv .u8 (.r 0), none, none, .full⟩,
     ⟨.iaS 1 (.r 3) (.c (.i .i64 0)), none, none, .full⟩,
     ⟨.store 1 (.r 0) (.r 1), none, none, .full⟩])
    .skip)))))))⟩
/-- internal/strconv.formatBits -/
def af68 : AFunc := ⟨[(some 0), (some 1), (some 2), (some 3), (some 4), none, none, none, none, none, none, none, none, none, none, none, none, none, none, none, none], [.v 5, .v 6],
  (.seq (.reg [⟨.mv (.c .nils), none, (some 5), .full⟩,
   ⟨.mv (.c (.s [])), none, (some 6), .full⟩])
  (.seq (.seq (.reg [⟨.mv (.v 2), none, none, .full⟩,
   ⟨.bin .lss (.r 0) (.c (.i .i64 2)), none, none, .full⟩,
   ⟨.mv (.r 0), none, none, .full⟩,
   ⟨.mv (.v 2), some (0, false), none, .full⟩,
   ⟨.bin .eql (.r 0) (.c (.i .i64 10)), some (1, false), none, .full⟩,
   ⟨.pick (.r 2) (.c (.b true)) (.r 0), none, none, .full⟩,
   ⟨.mv (.r 0), none, none, .full⟩,
   ⟨.mv (.v 2), some (0, false), none, .full⟩,
   ⟨.bin .gtr (.r 0) (.c (.i .i64 36)), some (1, false), none, .full⟩,
   ⟨.pick (.r 2) (.c (.b true)) (.r 0), none, (some 14), .full⟩])
  (.cond (.v 14)
    (.reg [⟨.mkifc 9 (.c (.s [115, 116, 114, 99, 111, 110, 118, 58, 32, 105, 108, 108, 101, 103, 97, 108, 32, 65, 112, 112, 101, 110, 100, 73, 110, 116, 47, 70, 111, 114, 109, 97, 116, 73, 110, 116, 32, 98, 97, 115, 101])), none, none, .full⟩,
     ⟨.bad, none, none, .full⟩])
    .skip))
  (.seq (.reg [⟨.box (.c (.agg [(.i .u8 0), (.i .u8 0), (.i .u8 0), (.i .u8 0), (.i .u8 0), (.i .u8 0), (.i .u8 0), (.i .u8 0), (.i .u8 0), (.i .u8 0), (.i .u8 0), (.i .u8 0), (.i .u8 0), (.i .u8 0), (.i .u8 0), (.i .u8 0), (.i .u8 0), (.i .u8 0), (.i .u8 0), (.i .u8 0), (.i .u8 0), (.i .u8 0), (.i .u8 0), (.i .u8 0), (.i .u8 0), (.i .u8 0), (.i .u8 0), (.i .u8 0), (.i .u8 0), (.i .u8 0), (.i .u8 0), (.i .u8 0), (.i .u8 0), (.i .u8 0), (.i .u8 0), (.i .u8 0), (.i .u8 0), (.i .u8 0), (.i .u8 0), (.i .u8 0), (.i .u8 0), (.i .u8 0), (.i .u8 0), (.i .u8 0), (.i .u8 0), (.i .u8 0), (.i .u8 0), (.i .u8 0), (.i .u8 0), (.i .u8 0), (.i .u8 0), (.i .u8 0), (.i .u8 0), (.i .u8 0), (.i .u8 0), (.i .u8 0), (.i .u8 0), (.i .u8 0), (.i .u8 0), (.i .u8 0), (.i .u8 0), (.i .u8 0), (.i .u8 0), (.i .u8 0), (.i .u8 0)])), none, (some 7), .full⟩])
  (.seq (.reg [⟨.mv (.c (.i .i64 65)), none, (some 8), .full⟩])
  (.seq (.seq (.reg [⟨.mv (.v 3), none, (some 15), .full⟩])
  (.cond (.v 15)
    (.reg [⟨.mv (.v 1), none, none, .full⟩,
     ⟨.un .neg (.r 0), none, none, .full⟩,
     ⟨.mv (.r 0), none, (some 1), .full⟩])
    .skip))
  (.seq (.seq (.reg [⟨.mv (.v 2), none, none, .full⟩,
   ⟨.call (.c (.f 72 [] [])) [(.r 0)], none, (some 16), .full⟩])
  (.cond (.v 16)
    (.seq (.reg [⟨.mv (.v 2), none, none, .full⟩,
     ⟨.conv .u64 (.r 0), none, none, .full⟩,
     ⟨.call (.c (.f 73 [] [])) [(.r 0)], none, none, .full⟩,
     ⟨.conv .u64 (.r 0), none, none, .full⟩,
     ⟨.mv (.r 0), none, (some 9), .full⟩])
    (.seq (.reg [⟨.mv (.v 2), none, none, .full⟩,
     ⟨.conv .u64 (.r 0), none, none, .full⟩,
     ⟨.mv (.r 0), none, (some 10), .full⟩])
    (.seq (.reg [⟨.mv (.v 2), none, none, .full⟩,
     ⟨.conv .u64 (.r 0), none, none, .full⟩,
     ⟨.bin .sub (.r 0) (.c (.i .u64 1)), none, none, .full⟩,
     ⟨.mv (.r 0), none, (some 11), .full⟩])
    (.seq (.blk 0 (.loop
      (.seq (.seq (.reg [⟨.mv (.v 1), none, none, .full⟩,
       ⟨.mv (.v 10), none, none, .full⟩,
       ⟨.bin .geq (.r 1) (.r 0), none, (some 17), .full⟩])
      (.cond (.v 17)
        .skip
        (.exit 0)))
      (.blk 1 (.seq (.reg [⟨.mv (.v 8), none, none, .full⟩,
       ⟨.bin .sub (.r 0) (.c (.i .i64 1)), none, none, .full⟩,
       ⟨.mv (.r 0), none, (some 8), .full⟩])
      (.seq (.reg [⟨.mv (.v 8), none, none, .full⟩,
       ⟨.mv (.v 1), none, none, .full⟩,
       ⟨.mv (.v 11), none, none, .full⟩,
       ⟨.bin .and (.r 1) (.r 0), none, none, .full⟩,
       ⟨.idxS (.c (.s [48, 49, 50, 51, 52, 53, 54, 55, 56, 57, 97, 98, 99, 100, 101, 102, 103, 104, 105, 106, 107, 108, 109, 110, 111, 112, 113, 114, 115, 116, 117, 118, 119, 120, 121, 122])) (.r 0), none, none, .full⟩,
       ⟨.iaA 65 1 (.v 7) (.r 4), none, none, .full⟩,
       ⟨.store 1 (.r 0) (.r 1), none, none, .full⟩])
      (.reg [⟨.mv (.v 1), none, none, .full⟩,
       ⟨.mv (.v 9), none, none, .full⟩,
       ⟨.bin .shr (.r 1) (.r 0), none, none, .full⟩,
       ⟨.mv (.r 0), none, (some 1), .full⟩])))))))
    (.seq (.reg [⟨.mv (.v 8), none, none, .full⟩,
     ⟨.bin .sub (.r 0) (.c (.i .i64 1)), none, none, .full⟩,
     ⟨.mv (.r 0), none, (some 8), .full⟩])
    (.reg [⟨.mv (.v 8), none, none, .full⟩,
     ⟨.mv (.v 1), none, none, .full⟩,
     ⟨.idxS (.c (.s [48, 49, 50, 51, 52, 53, 54, 55, 56, 57, 97, 98, 99, 100, 101, 102, 103, 104, 105, 106, 107, 108, 109, 110, 111, 112, 113, 114, 115, 116, 117, 118, 119, 120, 121, 122])) (.r 0), none, none, .full⟩,
     ⟨.iaA 65 1 (.v 7) (.r 2), none, none, .full⟩,
     ⟨.store 1 (.r 0) (.r 1), none, none, .full⟩]))))))
    (.seq (.reg [⟨.mv (.v 2), none, none, .full⟩,
     ⟨.conv .u64 (.r 0), none, none, .full⟩,
     ⟨.mv (.r 0), none, (some 12), .full⟩])
    (.seq (.blk 2 (.loop
      (.seq (.seq (.reg [⟨.mv (.v 1), none, none, .full⟩,
       ⟨.mv (.v 12), none, none, .full⟩,
       ⟨.bin .geq (.r 1) (.r 0), none, (some 18), .full⟩])
      (.cond (.v 18)
        .skip
        (.exit 2)))
      (.blk 3 (.seq (.reg [⟨.mv (.v 8), none, none, .full⟩,
       ⟨.bin .sub (.r 0) (.c (.i .i64 1)), none, none, .full⟩,
       ⟨.mv (.r 0), none, (some 8), .full⟩])
      (.seq (.reg [⟨.mv (.v 1), none, none, .full⟩,
       ⟨.mv (.v 12), none, none, .full⟩,
       ⟨.bin .quo (.r 1) (.r 0), none, none, .full⟩,
       ⟨.mv (.r 0), none, (some 13), .full⟩])
      (.seq (.reg [⟨.mv (.v 8), none, none, .full⟩,
       ⟨.mv (.v 1), none, none, .full⟩,
       ⟨.mv (.v 13), none, none, .full⟩,
       ⟨.mv (.v 12), none, none, .full⟩,
       ⟨.bin .mul (.r 1) (.r 0), none, none, .full⟩,
       ⟨.bin .sub (.r 3) (.r 0), none, none, .full⟩,
       ⟨.idxS (.c (.s [48, 49, 50, 51, 52, 53, 54, 55, 56, 57, 97, 98, 99, 100, 101, 102, 103, 104, 105, 106, 107, 108, 109, 110, 111, 112, 113, 114, 115, 116, 117, 118, 119, 120, 121, 122])) (.r 0), none, none, .full⟩,
       ⟨.iaA 65 1 (.v 7) (.r 6), none, none, .full⟩,
       ⟨.store 1 (.r 0) (.r 1), none, none, .full⟩])
      (.reg [⟨.mv (.v 13), none, none, .full⟩,
       ⟨.mv (.r 0), none, (some 1), .full⟩]))))))))
    (.seq (.reg [⟨.mv (.v 8), none, none, .full⟩,
     ⟨.bin .sub (.r 0) (.c (.i .i64 1)), none, none, .full⟩,
     ⟨.mv (.r 0), none, (some 8), .full⟩])
    (.reg [⟨.mv (.v 8), none, none, .full⟩,
     ⟨.mv (.v 1), none, none, .full⟩,
     ⟨.idxS (.c (.s [48, 49, 50, 51, 52, 53, 54, 55, 56, 57, 97, 98, 99, 100, 101, 102, 103, 104, 105, 106, 107, 108, 109, 110, 111, 112, 113, 114, 115, 116, 117, 118, 119, 120, 121, 122])) (.r 0), none, none, .full⟩,
     ⟨.iaA 65 1 (.v 7) (.r 2), none, none, .full⟩,
     ⟨.store 1 (.r 0) (.r 1), none, none, .full⟩]))))))
  (.seq (.seq (.reg [⟨.mv (.v 3), none, (some 19), .full⟩])
  (.cond (.v 19)
    (.seq (.reg [⟨.mv (.v 8), none, none, .full⟩,
     ⟨.bin .sub (.r 0) (.c (.i .i64 1)), none, none, .full⟩,
     ⟨.mv (.r 0), none, (some 8), .full⟩])
    (.reg [⟨.mv (.v 8), none, none, .full⟩,
     ⟨.iaA 65 1 (.v 7) (.r 0), none, none, .full⟩,
     ⟨.store 1 (.r 0) (.c (.i .u8 45)), none, none, .full⟩]))
    .skip))
  (.seq (.seq (.reg [⟨.mv (.v 4), none, (some 20), .full⟩])
  (.cond (.v 20)
    (.seq (.reg [⟨.mv (.v 0), none, none, .full⟩,
     ⟨.mv (.v 8), none, none, .full⟩,
     ⟨.slA 65 1 (.v 7) (some (.r 0)) none none, none, none, .full⟩,
     ⟨.append 1 1 (.r 2) (.r 0), none, none, .full⟩,
     ⟨.mv (.r 0), none, (some 5), .full⟩])
    .ret)
    .skip))
  (.seq (.reg [⟨.mv (.v 8), none, none, .full⟩,
   ⟨.slA 65 1 (.v 7) (some (.r 0)) none none, none, none, .full⟩,
   ⟨.b2s (.r 0), none, none, .full⟩,
   ⟨.mv (.r 0), none, (some 6), .full⟩])
  .ret)))))))))⟩
/-- internal/strconv.log10Pow2 -/
def af69 : AFunc := ⟨[(some 0), none], [.v 1],
  (.seq (.reg [⟨.mv (.c (.i .i64 0)), none, (some 1), .full⟩])
  (.seq (.reg [⟨.mv (.v 0), none, none, .full⟩,
   ⟨.bin .mul (.r 0) (.c (.i .i64 78913)), none, none, .full⟩,
   ⟨.bin .shr (.r 0) (.c (.i .u64 18)), none, none, .full⟩,
   ⟨.mv (.r 0), none, (some 1), .full⟩])
  .ret))⟩
/-- math/bits.Len64 -/
def af70 : AFunc := ⟨[(some 0), none, none, none, none], [.v 1],
  (.seq (.reg [⟨.mv (.c (.i .i64 0)), none, (some 1), .full⟩])
  (.seq (.seq (.reg [⟨.mv (.v 0), none, none, .full⟩,
   ⟨.bin .geq (.r 0) (.c (.i .u64 4294967296)), none, (some 2), .full⟩])
  (.cond (.v 2)
    (.seq (.reg [⟨.mv (.v 0), none, none, .full⟩,
     ⟨.bin .shr (.r 0) (.c (.i .u64 32)), none, none, .full⟩,
     ⟨.mv (.r 0), none, (some 0), .full⟩])
    (.reg [⟨.mv (.c (.i .i64 32)), none, (some 1), .full⟩]))
    .skip))
  (.seq (.seq (.reg [⟨.mv (.v 0), none, none, .full⟩,
   ⟨.bin .geq (.r 0) (.c (.i .u64 65536)), none, (some 3), .full⟩])
  (.cond (.v 3)
    (.seq (.reg [⟨.mv (.v 0), none, none, .full⟩,
     ⟨.bin .shr (.r 0) (.c (.i .u64 16)), none, none, .full⟩,
     ⟨.mv (.r 0), none, (some 0), .full⟩])
    (.reg [⟨.mv (.v 1), none, none, .full⟩,
     ⟨.bin .add (.r 0) (.c (.i .i64 16)), none, none, .full⟩,
     ⟨.mv (.r 0), none, (some 1), .full⟩]))
    .skip))
  (.seq (.seq (.reg [⟨.mv (.v 0), none, none, .full⟩,
   ⟨.bin .geq (.r 0) (.c (.i .u64 256)), none, (some 4), .full⟩])
  (.cond (.v 4)
    (.seq (.reg [⟨.mv (.v 0), none, none, .full⟩,
     ⟨.bin .shr (.r 0) (.c (.i .u64 8)), none, none, .full⟩,
     ⟨.mv (.r 0), none, (some 0), .full⟩])
    (.reg [⟨.mv (.v 1), none, none, .full⟩,
     ⟨.bin .add (.r 0) (.c (.i .i64 8)), none, none, .full⟩,
     ⟨.mv (.r 0), none, (some 1), .full⟩]))
    .skip))
  (.seq (.reg [⟨.mv (.v 1), none, none, .full⟩,
   ⟨.mv (.v 0), none, none, .full⟩,
   ⟨.conv .u8 (.r 0), none, none, .full⟩,
   ⟨.idxS (.c (.s [0, 1, 2, 2, 3, 3, 3, 3, 4, 4, 4, 4, 4, 4, 4, 4, 5, 5, 5, 5, 5, 5, 5, 5, 5, 5, 5, 5, 5, 5, 5, 5, 6, 6, 6, 6, 6, 6, 6, 6, 6, 6, 6, 6, 6, 6, 6, 6, 6, 6, 6, 6, 6, 6, 6, 6, 6, 6, 6, 6, 6, 6, 6, 6, 7, 7, 7, 7, 7, 7, 7, 7, 7, 7, 7, 7, 7, 7, 7, 7, 7, 7, 7, 7, 7, 7, 7, 7, 7, 7, 7, 7, 7, 7, 7, 7, 7, 7, 7, 7, 7, 7, 7, 7, 7, 7, 7, 7, 7, 7, 7, 7, 7, 7, 7, 7, 7, 7, 7, 7, 7, 7, 7, 7, 7, 7, 7, 7, 8, 8, 8, 8, 8, 8, 8, 8, 8, 8, 8, 8, 8, 8, 8, 8, 8, 8, 8, 8, 8, 8, 8, 8, 8, 8, 8, 8, 8, 8, 8, 8, 8, 8, 8, 8, 8, 8, 8, 8, 8, 8, 8, 8, 8, 8, 8, 8, 8, 8, 8, 8, 8, 8, 8, 8, 8, 8, 8, 8, 8, 8, 8, 8, 8, 8, 8, 8, 8, 8, 8, 8, 8, 8, 8, 8, 8, 8, 8, 8, 8, 8, 8, 8, 8, 8, 8, 8, 8, 8, 8, 8, 8, 8, 8, 8, 8, 8, 8, 8, 8, 8, 8, 8, 8, 8, 8, 8, 8, 8, 8, 8, 8, 8, 8, 8, 8, 8, 8, 8, 8, 8, 8, 8, 8, 8, 8, 8])) (.r 0), none, none, .full⟩,
   ⟨.conv .i64 (.r 0), none, none, .full⟩,
   ⟨.bin .add (.r 4) (.r 0), none, none, .full⟩,
   ⟨.mv (.r 0), none, (some 1), .full⟩])
  .ret)))))⟩
/-- internal/strconv.bool2[int] -/
def af71 : AFunc := ⟨[(some 0), none, none], [.v 1],
  (.seq (.reg [⟨.mv (.c (.i .i64 0)), none, (some 1), .full⟩])
  (.seq (.seq (.reg [⟨.mv (.v 0), none, (some 2), .full⟩])
  (.cond (.v 2)
    (.seq (.reg [⟨.mv (.c (.i .i64 1)), none, (some 1), .full⟩])
    .ret)
    .skip))
  (.seq (.reg [⟨.mv (.c (.i .i64 0)), none, (some 1), .full⟩])
  .ret)))⟩
/-- internal/strconv.isPowerOfTwo -/
def af72 : AFunc := ⟨[(some 0), none], [.v 1],
  (.seq (.reg [⟨.mv (.c (.b false)), none, (some 1), .full⟩])
  (.seq (.reg [⟨.mv (.v 0), none, none, .full⟩,
   ⟨.mv (.v 0), none, none, .full⟩,
   ⟨.bin .sub (.r 0) (.c (.i .i64 1)), none, none, .full⟩,
   ⟨.bin .and (.r 2) (.r 0), none, none, .full⟩,
   ⟨.bin .eql (.r 0) (.c (.i .i64 0)), none, none, .full⟩,
   ⟨.mv (.r 0), none, (some 1), .full⟩])
  .ret))⟩
/-- math/bits.TrailingZeros -/
def af73 : AFunc := ⟨[(some 0), none], [.v 1],
  (.seq (.reg [⟨.mv (.c (.i .i64 0)), none, (some 1), .full⟩])
  (.seq (.cond (.c (.b false))
    (.seq (.reg [⟨.mv (.v 0), none, none, .full⟩,
     ⟨.conv .u32 (.r 0), none, none, .full⟩,
     ⟨.call (.c (.f 74 [] [])) [(.r 0)], none, none, .full⟩,
     ⟨.mv (.r 0), none, (some 1), .full⟩])
    .ret)
    .skip)
  (.seq (.reg [⟨.mv (.v 0), none, none, .full⟩,
   ⟨.call (.c (.f 75 [] [])) [(.r 0)], none, none, .full⟩,
   ⟨.mv (.r 0), none, (some 1), .full⟩])
  .ret)))⟩
/-- math/bits.TrailingZeros32 -/
def af74 : AFunc := ⟨[(some 0), none, none], [.v 1],
  (.seq (.reg [⟨.mv (.c (.i .i64 0)), none, (some 1), .full⟩])
  (.seq (.seq (.reg [⟨.mv (.v 0), none, none, .full⟩,
   ⟨.bin .eql (.r 0) (.c (.i .u32 0)), none, (some 2), .full⟩])
  (.cond (.v 2)
    (.seq (.reg [⟨.mv (.c (.i .i64 32)), none, (some 1), .full⟩])
    .ret)
    .skip))
  (.seq (.reg [⟨.mv (.v 0), none, none, .full⟩,
   ⟨.mv (.v 0), none, none, .full⟩,
   ⟨.un .neg (.r 0), none, none, .full⟩,
   ⟨.bin .and (.r 2) (.r 0), none, none, .full⟩,
   ⟨.bin .mul (.r 0) (.c (.i .u32 125613361)), none, none, .full⟩,
   ⟨.bin .shr (.r 0) (.c (.i .u64 27)), none, none, .full⟩,
   ⟨.iaA 32 1 (.c (.p 1 0)) (.r 0), none, none, .full⟩,
   ⟨.load none (.r 0), none, none, .full⟩,
   ⟨.conv .i64 (.r 0), none, none, .full⟩,
   ⟨.mv (.r 0), none, (some 1), .full⟩])
  .ret)))⟩
/-- math/bits.TrailingZeros64 -/
def af75 : AFunc := ⟨[(some 0), none, none], [.v 1],
  (.seq (.reg [⟨.mv (.c (.i .i64 0)), none, (some 1), .full⟩])
  (.seq (.seq (.reg [⟨.mv (.v 0), none, none, .full⟩,
   ⟨.bin .eql (.r 0) (.c (.i .u64 0)), none, (some 2), .full⟩])
  (.cond (.v 2)
    (.seq (.reg [⟨.mv (.c (.i .i64 64)), none, (some 1), .full⟩])
    .ret)
    .skip))
  (.seq (.reg [⟨.mv (.v 0), none, none, .full⟩,
   ⟨.mv (.v 0), none, none, .full⟩,
   ⟨.un .neg (.r 0), none, none, .full⟩,
   ⟨.bin .and (.r 2) (.r 0), none, none, .full⟩,
   ⟨.bin .mul (.r 0) (.c (.i .u64 285870213051353865)), none, none, .full⟩,
   ⟨.bin .shr (.r 0) (.c (.i .u64 58)), none, none, .full⟩,
   ⟨.iaA 64 1 (.c (.p 2 0)) (.r 0), none, none, .full⟩,
   ⟨.load none (.r 0), none, none, .full⟩,
   ⟨.conv .i64 (.r 0), none, none, .full⟩,
   ⟨.mv (.r 0), none, (some 1), .full⟩])
  .ret)))⟩
def ofns : Nat → Option AFunc
  | 2 => some af2
  | 3 => some af3
  | 4 => some af4
  | 5 => some af5
  | 6 => some af6
  | 7 => some af7
  | 8 => some af8
  | 9 => some af9
  | 10 => some af10
  | 11 => some af11
  | 12 => some af12
  | 13 => some af13
  | 14 => some af14
  | 15 => some af15
  | 16 => some af16
  | 17 => some af17
  | 18 => some af18
  | 19 => some af19
  | 20 => some af20
  | 21 => some af21
  | 22 => some af22
  | 23 => some af23
  | 24 => some af24
  | 25 => some af25
  | 26 => some af26
  | 27 => some af27
  | 28 => some af28
  | 29 => some af29
  | 30 => some af30
  | 31 => some af31
  | 32 => some af32
  | 33 => some af33
  | 34 => some af34
  | 35 => some af35
  | 36 => some af36
  | 37 => some af37
  | 38 => some af38
  | 39 => some af39
  | 40 => some af40
  | 41 => some af41
  | 42 => some af42
  | 43 => some af43
  | 44 => some af44
  | 45 => some af45
  | 46 => some af46
  | 47 => some af47
  | 48 => some af48
  | 49 => some af49
  | 50 => some af50
  | 51 => some af51
  | 52 => some af52
  | 53 => some af53
  | 54 => some af54
  | 55 => some af55
  | 56 => some af56
  | 57 => some af57
  | 58 => some af58
  | 59 => some af59
  | 60 => some af60
  | 61 => some af61
  | 62 => some af62
  | 63 => some af63
  | 64 => some af64
  | 65 => some af65
  | 66 => some af66
  | 67 => some af67
  | 68 => some af68
  | 69 => some af69
  | 70 => some af70
  | 71 => some af71
  | 72 => some af72
  | 73 => some af73
  | 74 => some af74
  | 75 => some af75
  | _ => none
end Go.Av
