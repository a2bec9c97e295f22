/- The functions, as the second machine has them. Printed by program. -/
import Derived.Test.YtliflkakagkofaaAvD
set_option linter.unusedVariables false
set_option linter.unusedSimpArgs false
set_option linter.unusedSectionVars false
namespace Go.Av
/-- gosem.cut.init -/
def pf2 : PFunc := ⟨[], [],
  (.reg [q (.call (.c (.f 1 [] [])) [])])⟩
/-- solenoid/solenoidlaw15.MigrateCells -/
def lp3_1 : PCode :=
  (.seq (.seq (.reg [q (.mv (.v 7)), q (.mv (.v 6)), q (.len 1 (.r 0)), q (.bin .lss (.r 2) (.r 0)), q (.mv (.r 0)), qg 0 true (.mv (.v 7)), qg 1 true (.mv (.v 3)), qg 2 true (.len 1 (.r 0)), qg 3 true (.bin .lss (.r 2) (.r 0)), qv 19 (.pick (.r 4) (.r 0) (.c (.b false)))])
  (.cond (.v 19)
   .skip
   (.exit 0)))
  (.seq (.blk 1 (.seq (.reg [q (.mv (.v 3)), q (.mv (.v 7)), q (.iaS 1 (.r 1) (.r 0)), q (.load none (.r 0)), q (.mv (.v 6)), q (.len 1 (.r 0)), q (.call (.c (.f 12 [] [])) [(.r 2), (.r 0)]), qv 8 (.mv (.r 0))])
  (.reg [qn (.mv (.v 6)), qn (.mv (.v 7)), qn (.mv (.v 6)), qn (.mv (.v 8)), qn (.mv (.v 6)), qn (.mv (.v 8)), qn (.iaS 7 (.r 1) (.r 0)), qn (.faddr 0 (.r 0)), qn (.load none (.r 0)), qn (.mv (.v 6)), qn (.mv (.v 7)), qn (.iaS 7 (.r 1) (.r 0)), qn (.faddr 0 (.r 0)), qn (.load none (.r 0)), q (.iaS 7 (.r 13) (.r 12)), q (.faddr 0 (.r 0)), q (.store 1 (.r 0) (.r 7)), q (.iaS 7 (.r 14) (.r 13)), q (.faddr 0 (.r 0)), q (.store 1 (.r 0) (.r 5))])))
  (.reg [q (.mv (.v 7)), q (.bin .add (.r 0) (.c (.i .i64 1))), qv 7 (.mv (.r 0))])))
def lp3_2 : PCode :=
  (.seq (.seq (.reg [q (.mv (.v 13)), q (.mv (.v 10)), q (.len 1 (.r 0)), qv 22 (.bin .lss (.r 2) (.r 0))])
  (.cond (.v 22)
   .skip
   (.exit 2)))
  (.seq (.blk 3 (.seq (.reg [q (.mv (.v 9)), q (.mv (.v 10)), q (.mv (.v 13)), q (.iaS 6 (.r 1) (.r 0)), q (.faddr 0 (.r 0)), q (.load none (.r 0)), q (.call (.c (.f 20 [] [])) [(.r 5), (.r 0)]), q (.mv (.r 0)), q (.ext 0 (.r 0)), q (.ext 1 (.r 1)), qv 14 (.mv (.r 1)), qv 15 (.mv (.r 1))])
  (.seq (.reg [q (.mv (.v 10)), q (.mv (.v 13)), q (.iaS 6 (.r 1) (.r 0)), q (.faddr 3 (.r 0)), q (.load none (.r 0)), qv 16 (.mv (.r 0))])
  (.seq (.seq (.reg [q (.mv (.v 15)), q (.mv (.r 0)), qh 0 true (.mv (.v 9)), qh 1 true (.mv (.v 14)), qh 2 true (.iaS 6 (.r 1) (.r 0)), qh 3 true (.faddr 1 (.r 0)), qh 4 true (.load none (.r 0)), qh 5 true (.mv (.v 10)), qh 6 true (.mv (.v 13)), qh 7 true (.iaS 6 (.r 1) (.r 0)), qh 8 true (.faddr 1 (.r 0)), qh 9 true (.load none (.r 0)), qg 10 true (.bin .eql (.r 5) (.r 0)), qv 23 (.pick (.r 11) (.r 0) (.c (.b false)))])
  (.cond (.v 23)
   (.reg [q (.mv (.v 11)), q (.mv (.v 14)), q (.iaS 1 (.r 1) (.r 0)), q (.load none (.r 0)), qv 16 (.mv (.r 0))])
   .skip))
  (.seq (.reg [q (.mv (.v 12)), q (.mv (.v 13)), q (.iaS 1 (.r 1) (.r 0)), q (.load none (.r 0)), qn (.mv (.v 16)), q (.bin .neq (.r 1) (.r 0)), q (.mv (.r 0)), qh 0 false (.mv (.v 10)), qh 1 false (.mv (.v 13)), qh 2 false (.iaS 6 (.r 1) (.r 0)), qh 3 false (.faddr 1 (.r 0)), qh 4 false (.load none (.r 0)), qh 5 false (.mv (.v 12)), qh 6 false (.mv (.v 13)), qh 7 false (.iaS 1 (.r 1) (.r 0)), qh 8 false (.load none (.r 0)), qh 9 false (.call (.c (.f 21 [] [])) [(.r 4), (.r 0)]), qh 10 false (.mv (.v 12)), qh 11 false (.mv (.v 13)), qh 12 false (.iaS 1 (.r 1) (.r 0)), qh 13 false (.load none (.r 0)), qg 14 false (.bin .neq (.r 4) (.r 0)), qv 24 (.pick (.r 15) (.c (.b true)) (.r 0))])
  (.cond (.v 24)
   (.seq (.reg [qv 4 (.mv (.c (.b false)))])
   .ret)
   .skip))))))
  (.reg [q (.mv (.v 13)), q (.bin .add (.r 0) (.c (.i .i64 1))), qv 13 (.mv (.r 0))])))
def pf3 : PFunc := ⟨[(some 0), (some 1), (some 2), (some 3), none, none, none, none, none, none, none, none, none, none, none, none, none, none, none, none, none, none, none, none, none], [.v 4],
  (.seq (.reg [qv 4 (.mv (.c (.b false)))])
  (.seq (.seq (.reg [q (.call (.c (.f 9 [] [])) []), qv 17 (.un .not (.r 0))])
  (.cond (.v 17)
   (.seq (.reg [qv 4 (.mv (.c (.b false)))])
   .ret)
   .skip))
  (.seq (.seq (.reg [q (.mv (.v 0)), q (.call (.c (.f 10 [] [])) [(.r 0)]), q (.un .not (.r 0)), q (.mv (.r 0)), qg 0 false (.mv (.v 1)), qg 1 false (.call (.c (.f 10 [] [])) [(.r 0)]), qg 2 false (.un .not (.r 0)), qv 18 (.pick (.r 3) (.c (.b true)) (.r 0))])
  (.cond (.v 18)
   (.seq (.reg [qv 4 (.mv (.c (.b true)))])
   .ret)
   .skip))
  (.seq (.reg [q (.mv (.v 0)), q (.call (.c (.f 11 [] [])) [(.r 0)]), q (.mv (.v 1)), ⟨.call (.c (.f 11 [] [])) [(.r 0)], none, none, .full, .obj⟩, qv 5 (.mv (.r 2)), qv 6 (.mv (.r 1))])
  (.seq (.seq (.reg [qv 7 (.mv (.c (.i .i64 0)))])
  (.blk 0 (.loop lp3_1)))
  (.seq (.reg [q (.mv (.v 5)), q (.call (.c (.f 13 [] [])) [(.r 0)]), q (.mv (.v 6)), q (.call (.c (.f 13 [] [])) [(.r 0)]), qv 9 (.mv (.r 2)), qv 10 (.mv (.r 1))])
  (.seq (.reg [q (.mv (.v 9)), q (.mv (.v 2)), q (.call (.c (.f 14 [] [])) [(.r 1), (.r 0)]), qv 11 (.mv (.r 0))])
  (.seq (.seq (.reg [q (.mv (.v 9)), q (.mv (.v 10)), q (.call (.c (.f 16 [] [])) [(.r 1), (.r 0)]), q (.mv (.v 9)), q (.mv (.v 10)), q (.call (.c (.f 17 [] [])) [(.r 1), (.r 0)]), q (.call (.c (.f 15 [] [])) [(.r 3), (.r 0)]), q (.un .not (.r 0)), q (.mv (.r 0)), qg 0 false (.mv (.v 10)), qg 1 false (.call (.c (.f 16 [] [])) [(.c .nils), (.r 0)]), qg 2 false (.mv (.v 10)), qg 3 false (.call (.c (.f 17 [] [])) [(.c .nils), (.r 0)]), qg 4 false (.call (.c (.f 15 [] [])) [(.r 2), (.r 0)]), qg 5 false (.un .not (.r 0)), qv 20 (.pick (.r 6) (.c (.b true)) (.r 0))])
  (.cond (.v 20)
   (.seq (.reg [qv 4 (.mv (.c (.b false)))])
   .ret)
   .skip))
  (.seq (.reg [q (.mv (.v 9)), q (.mv (.v 10)), q (.mv (.v 11)), q (.call (.c (.f 18 [] [])) [(.r 2), (.r 1), (.r 0)]), qv 12 (.mv (.r 0))])
  (.seq (.seq (.reg [q (.mv (.v 12)), q (.mv (.v 9)), q (.mv (.v 10)), q (.mv (.v 11)), q (.call (.c (.f 19 [] [])) [(.r 2), (.r 1), (.r 0)]), q (.call (.c (.f 15 [] [])) [(.r 4), (.r 0)]), q (.un .not (.r 0)), q (.mv (.r 0)), qg 0 false (.mv (.v 12)), qg 1 false (.len 1 (.r 0)), qg 2 false (.mv (.v 10)), qg 3 false (.len 1 (.r 0)), qg 4 false (.bin .neq (.r 2) (.r 0)), qv 21 (.pick (.r 5) (.c (.b true)) (.r 0))])
  (.cond (.v 21)
   (.seq (.reg [qv 4 (.mv (.c (.b false)))])
   .ret)
   .skip))
  (.seq (.seq (.reg [qv 13 (.mv (.c (.i .i64 0)))])
  (.blk 2 (.loop lp3_2)))
  (.seq (.reg [qv 4 (.mv (.c (.b true)))])
  .ret))))))))))))⟩
/-- solenoid/solenoidlaw15.MigrateSame -/
def lp4_1 : PCode :=
  (.seq (.seq (.reg [q (.mv (.v 9)), q (.mv (.v 8)), q (.len 1 (.r 0)), q (.bin .lss (.r 2) (.r 0)), q (.mv (.r 0)), qg 0 true (.mv (.v 9)), qg 1 true (.bin .lss (.r 0) (.c (.i .i64 2))), qv 15 (.pick (.r 2) (.r 0) (.c (.b false)))])
  (.cond (.v 15)
   .skip
   (.exit 0)))
  (.seq (.blk 1 (.seq (.reg [q (.mv (.v 8)), q (.mv (.v 9)), q (.mv (.v 8)), q (.mv (.v 9)), q (.iaS 7 (.r 1) (.r 0)), q (.faddr 0 (.r 0)), q (.load none (.r 0)), q (.bin .add (.c (.s [122])) (.r 0)), q (.iaS 7 (.r 7) (.r 6)), q (.faddr 0 (.r 0)), q (.store 1 (.r 0) (.r 2))])
  (.reg [q (.mv (.v 7)), q (.mv (.v 8)), q (.mv (.v 9)), q (.iaS 7 (.r 1) (.r 0)), q (.load (some 7) (.r 0)), q (.buildSl 1 7 [(.s []), (.i .i64 0), (.i .i64 0), (.i .i64 0), .nils, (.b false), .nils] [(0, 7, (.r 0))]), ⟨.append 7 96 (.r 5) (.r 0), none, none, .full, (.own 7)⟩, qv 7 (.mv (.r 0))])))
  (.reg [q (.mv (.v 9)), q (.bin .add (.r 0) (.c (.i .i64 1))), qv 9 (.mv (.r 0))])))
def lp4_2 : PCode :=
  (.seq (.seq (.reg [q (.mv (.v 10)), qv 16 (.bin .geq (.r 0) (.c (.i .i64 0)))])
  (.cond (.v 16)
   .skip
   (.exit 2)))
  (.seq (.blk 3 (.reg [q (.mv (.v 7)), q (.mv (.v 4)), q (.mv (.v 10)), q (.iaS 7 (.r 1) (.r 0)), q (.load (some 7) (.r 0)), q (.buildSl 1 7 [(.s []), (.i .i64 0), (.i .i64 0), (.i .i64 0), .nils, (.b false), .nils] [(0, 7, (.r 0))]), ⟨.append 7 96 (.r 5) (.r 0), none, none, .full, (.own 7)⟩, qv 7 (.mv (.r 0))]))
  (.reg [q (.mv (.v 10)), q (.bin .sub (.r 0) (.c (.i .i64 1))), qv 10 (.mv (.r 0))])))
def pf4 : PFunc := ⟨[(some 0), (some 1), (some 2), none, none, none, none, none, none, none, none, none, none, none, none, none, none, none], [.v 3],
  (.seq (.reg [qv 3 (.mv (.c (.b false)))])
  (.seq (.seq (.reg [q (.call (.c (.f 9 [] [])) []), qv 12 (.un .not (.r 0))])
  (.cond (.v 12)
   (.seq (.reg [qv 3 (.mv (.c (.b false)))])
   .ret)
   .skip))
  (.seq (.seq (.reg [q (.mv (.v 0)), q (.call (.c (.f 10 [] [])) [(.r 0)]), q (.un .not (.r 0)), q (.mv (.r 0)), qg 0 false (.mv (.v 2)), qg 1 false (.call (.c (.f 10 [] [])) [(.r 0)]), qg 2 false (.un .not (.r 0)), qv 13 (.pick (.r 3) (.c (.b true)) (.r 0))])
  (.cond (.v 13)
   (.seq (.reg [qv 3 (.mv (.c (.b true)))])
   .ret)
   .skip))
  (.seq (.reg [q (.mv (.v 0)), q (.call (.c (.f 11 [] [])) [(.r 0)]), qv 4 (.mv (.r 0))])
  (.seq (.reg [q (.mv (.v 4)), q (.call (.c (.f 13 [] [])) [(.r 0)]), qv 5 (.mv (.r 0))])
  (.seq (.reg [q (.mv (.v 5)), q (.mv (.v 1)), q (.call (.c (.f 14 [] [])) [(.r 1), (.r 0)]), qv 6 (.mv (.r 0))])
  (.seq (.seq (.reg [q (.mv (.v 5)), q (.mv (.v 5)), q (.mv (.v 6)), q (.call (.c (.f 18 [] [])) [(.r 2), (.r 1), (.r 0)]), q (.mv (.v 6)), q (.call (.c (.f 15 [] [])) [(.r 1), (.r 0)]), qv 14 (.un .not (.r 0))])
  (.cond (.v 14)
   (.seq (.reg [qv 3 (.mv (.c (.b false)))])
   .ret)
   .skip))
  (.seq (.reg [⟨.mv (.c .nils), none, (some 7), .full, (.own 7)⟩])
  (.seq (.reg [q (.mv (.v 2)), ⟨.call (.c (.f 11 [] [])) [(.r 0)], none, none, .full, .obj⟩, qv 8 (.mv (.r 0))])
  (.seq (.seq (.reg [qv 9 (.mv (.c (.i .i64 0)))])
  (.blk 0 (.loop lp4_1)))
  (.seq (.seq (.reg [q (.mv (.v 4)), q (.len 1 (.r 0)), q (.bin .sub (.r 0) (.c (.i .i64 1))), qv 10 (.mv (.r 0))])
  (.blk 2 (.loop lp4_2)))
  (.seq (.seq (.reg [q (.mv (.v 7)), q (.call (.c (.f 22 [] [])) [(.r 0)]), qv 17 (.bin .neq (.r 0) (.c (.i .i64 0)))])
  (.cond (.v 17)
   (.seq (.reg [qv 3 (.mv (.c (.b true)))])
   .ret)
   .skip))
  (.seq (.reg [q (.mv (.v 7)), q (.call (.c (.f 13 [] [])) [(.r 0)]), qv 11 (.mv (.r 0))])
  (.seq (.reg [q (.mv (.v 11)), q (.mv (.v 5)), q (.mv (.v 5)), q (.mv (.v 11)), q (.mv (.v 6)), q (.call (.c (.f 18 [] [])) [(.r 2), (.r 1), (.r 0)]), q (.call (.c (.f 18 [] [])) [(.r 5), (.r 4), (.r 0)]), q (.mv (.v 6)), q (.call (.c (.f 15 [] [])) [(.r 1), (.r 0)]), qv 3 (.mv (.r 0))])
  .ret))))))))))))))⟩
/-- solenoid/solenoidlaw15.MigrateDrops -/
def pf5 : PFunc := ⟨[(some 0), (some 1), (some 2), none, none, none, none, none, none, none, none, none], [.v 3],
  (.seq (.reg [qv 3 (.mv (.c (.b false)))])
  (.seq (.seq (.reg [q (.call (.c (.f 9 [] [])) []), qv 10 (.un .not (.r 0))])
  (.cond (.v 10)
   (.seq (.reg [qv 3 (.mv (.c (.b false)))])
   .ret)
   .skip))
  (.seq (.reg [q (.mv (.v 0)), q (.call (.c (.f 12 [] [])) [(.r 0), (.c (.i .i64 6))]), q (.bin .add (.c (.i .i64 1)) (.r 0)), q (.mv (.v 1)), q (.call (.c (.f 12 [] [])) [(.r 0), (.c (.i .i64 6))]), q (.bin .add (.c (.i .i64 1)) (.r 0)), qv 0 (.mv (.r 3)), qv 1 (.mv (.r 1))])
  (.seq (.reg [q (.mv (.v 0)), q (.build [(.i .i64 0), (.i .i64 0), (.i .i64 0), .nils] [(0, 1, (.r 0))]), q (.buildSl 1 1 [(.i .i64 0)] [(0, 1, (.c (.i .i64 1)))]), q (.build [(.s []), (.i .i64 0), (.i .i64 0), (.i .i64 0), .nils, (.b false), .nils] [(0, 1, (.c (.s [120]))), (1, 4, (.r 1)), (6, 1, (.r 0))]), q (.buildSl 1 7 [(.s []), (.i .i64 0), (.i .i64 0), (.i .i64 0), .nils, (.b false), .nils] [(0, 7, (.r 0))]), q (.call (.c (.f 13 [] [])) [(.r 0)]), qv 4 (.mv (.r 0))])
  (.seq (.reg [q (.mv (.v 1)), q (.build [(.i .i64 0), (.i .i64 0), (.i .i64 0), .nils] [(0, 1, (.r 0))]), q (.buildSl 1 1 [(.i .i64 0)] [(0, 1, (.c (.i .i64 0)))]), q (.build [(.s []), (.i .i64 0), (.i .i64 0), (.i .i64 0), .nils, (.b false), .nils] [(0, 1, (.c (.s [120]))), (1, 4, (.r 1)), (6, 1, (.r 0))]), q (.buildSl 1 7 [(.s []), (.i .i64 0), (.i .i64 0), (.i .i64 0), .nils, (.b false), .nils] [(0, 7, (.r 0))]), q (.call (.c (.f 13 [] [])) [(.r 0)]), qv 5 (.mv (.r 0))])
  (.seq (.reg [q (.mv (.v 0)), q (.mv (.v 2)), q (.call (.c (.f 21 [] [])) [(.r 1), (.r 0)]), qv 6 (.mv (.r 0))])
  (.seq (.reg [q (.mv (.v 5)), q (.mv (.v 4)), q (.mv (.v 4)), q (.mv (.v 5)), q (.mv (.v 6)), q (.buildSl 1 1 [(.i .i64 0)] [(0, 1, (.r 0))]), q (.call (.c (.f 18 [] [])) [(.r 3), (.r 2), (.r 0)]), q (.call (.c (.f 18 [] [])) [(.r 6), (.r 5), (.r 0)]), qv 7 (.mv (.r 0))])
  (.seq (.reg [q (.mv (.v 4)), q (.mv (.v 4)), q (.mv (.v 6)), q (.buildSl 1 1 [(.i .i64 0)] [(0, 1, (.r 0))]), q (.call (.c (.f 18 [] [])) [(.r 2), (.c .nils), (.r 0)]), q (.call (.c (.f 18 [] [])) [(.c .nils), (.r 4), (.r 0)]), qv 8 (.mv (.r 0))])
  (.seq (.reg [qv 9 (.mv (.c (.i .i64 1)))])
  (.seq (.seq (.reg [q (.mv (.v 0)), q (.mv (.v 1)), qv 11 (.bin .eql (.r 1) (.r 0))])
  (.cond (.v 11)
   (.reg [q (.mv (.v 6)), qv 9 (.mv (.r 0))])
   .skip))
  (.seq (.reg [q (.mv (.v 7)), q (.len 1 (.r 0)), q (.bin .eql (.r 0) (.c (.i .i64 1))), q (.mv (.r 0)), qg 0 true (.mv (.v 7)), qg 1 true (.iaS 1 (.r 0) (.c (.i .i64 0))), qg 2 true (.load none (.r 0)), qg 3 true (.mv (.v 9)), qg 4 true (.bin .eql (.r 1) (.r 0)), q (.pick (.r 5) (.r 0) (.c (.b false))), q (.mv (.r 0)), qg 0 true (.mv (.v 8)), qg 1 true (.len 1 (.r 0)), qg 2 true (.bin .eql (.r 0) (.c (.i .i64 1))), q (.pick (.r 3) (.r 0) (.c (.b false))), q (.mv (.r 0)), qg 0 true (.mv (.v 8)), qg 1 true (.iaS 1 (.r 0) (.c (.i .i64 0))), qg 2 true (.load none (.r 0)), qg 3 true (.bin .eql (.r 0) (.c (.i .i64 1))), q (.pick (.r 4) (.r 0) (.c (.b false))), qv 3 (.mv (.r 0))])
  .ret)))))))))))⟩
/-- solenoid/solenoidlaw15.MigrateRenames -/
def lp6_1 : PCode :=
  (.seq (.seq (.reg [q (.mv (.v 11)), q (.mv (.v 9)), q (.len 1 (.r 0)), qv 18 (.bin .lss (.r 2) (.r 0))])
  (.cond (.v 18)
   .skip
   (.exit 0)))
  (.seq (.blk 1 (.seq (.reg [q (.mv (.v 6)), q (.mv (.v 9)), q (.mv (.v 11)), q (.iaS 6 (.r 1) (.r 0)), q (.faddr 0 (.r 0)), q (.load none (.r 0)), q (.call (.c (.f 20 [] [])) [(.r 5), (.r 0)]), q (.mv (.r 0)), q (.ext 0 (.r 0)), q (.ext 1 (.r 1)), qv 12 (.mv (.r 1)), qv 13 (.mv (.r 1))])
  (.seq (.reg [qn (.mv (.v 13)), q (.mv (.v 3)), q (.mv (.r 0)), qg 0 false (.mv (.v 9)), qg 1 false (.mv (.v 11)), qg 2 false (.iaS 6 (.r 1) (.r 0)), qg 3 false (.faddr 0 (.r 0)), qg 4 false (.load none (.r 0)), qg 5 false (.len 0 (.r 0)), qg 6 false (.bin .lss (.r 0) (.c (.i .i64 5))), q (.pick (.r 7) (.c (.b true)) (.r 0)), q (.mv (.r 0)), qg 0 false (.mv (.v 9)), qg 1 false (.mv (.v 11)), qg 2 false (.iaS 6 (.r 1) (.r 0)), qg 3 false (.faddr 0 (.r 0)), qg 4 false (.load none (.r 0)), qg 5 false (.slS (.r 0) none (some (.c (.i .i64 5)))), qg 6 false (.bin .neq (.r 0) (.c (.s [111, 116, 104, 101, 114]))), q (.pick (.r 7) (.c (.b true)) (.r 0)), q (.eq true 0 (.r 19) (.r 0)), q (.mv (.r 0)), qg 0 false (.mv (.v 13)), qg 1 false (.mv (.r 0)), qh 0 true (.mv (.v 10)), qh 1 true (.mv (.v 11)), qh 2 true (.iaS 1 (.r 1) (.r 0)), qh 3 true (.load none (.r 0)), qh 4 true (.mv (.v 7)), qh 5 true (.mv (.v 12)), qh 6 true (.iaS 1 (.r 1) (.r 0)), qh 7 true (.load none (.r 0)), qg 8 true (.bin .neq (.r 4) (.r 0)), qg 11 false (.pick (.r 9) (.r 0) (.c (.b false))), q (.pick (.r 12) (.c (.b true)) (.r 0)), q (.mv (.r 0)), qg 0 false (.mv (.v 13)), qg 1 false (.un .not (.r 0)), qg 2 false (.mv (.r 0)), qh 0 true (.mv (.v 10)), qh 1 true (.mv (.v 11)), qh 2 true (.iaS 1 (.r 1) (.r 0)), qh 3 true (.load none (.r 0)), qh 4 true (.mv (.v 9)), qh 5 true (.mv (.v 11)), qh 6 true (.iaS 6 (.r 1) (.r 0)), qh 7 true (.faddr 3 (.r 0)), qh 8 true (.load none (.r 0)), qg 9 true (.bin .neq (.r 5) (.r 0)), qg 13 false (.pick (.r 10) (.r 0) (.c (.b false))), qv 19 (.pick (.r 14) (.c (.b true)) (.r 0))])
  (.cond (.v 19)
   (.seq (.reg [qv 4 (.mv (.c (.b false)))])
   .ret)
   .skip))))
  (.reg [q (.mv (.v 11)), q (.bin .add (.r 0) (.c (.i .i64 1))), qv 11 (.mv (.r 0))])))
def pf6 : PFunc := ⟨[(some 0), (some 1), (some 2), (some 3), none, none, none, none, none, none, none, none, none, none, none, none, none, none, none, none], [.v 4],
  (.seq (.reg [qv 4 (.mv (.c (.b false)))])
  (.seq (.seq (.reg [q (.call (.c (.f 9 [] [])) []), qv 14 (.un .not (.r 0))])
  (.cond (.v 14)
   (.seq (.reg [qv 4 (.mv (.c (.b false)))])
   .ret)
   .skip))
  (.seq (.seq (.reg [q (.mv (.v 0)), q (.call (.c (.f 10 [] [])) [(.r 0)]), qv 15 (.un .not (.r 0))])
  (.cond (.v 15)
   (.seq (.reg [qv 4 (.mv (.c (.b true)))])
   .ret)
   .skip))
  (.seq (.reg [q (.mv (.v 0)), q (.call (.c (.f 11 [] [])) [(.r 0)]), qv 5 (.mv (.r 0))])
  (.seq (.seq (.reg [q (.mv (.v 5)), q (.len 1 (.r 0)), qv 16 (.bin .eql (.r 0) (.c (.i .i64 0)))])
  (.cond (.v 16)
   (.seq (.reg [qv 4 (.mv (.c (.b true)))])
   .ret)
   .skip))
  (.seq (.reg [q (.mv (.v 5)), q (.call (.c (.f 13 [] [])) [(.r 0)]), qv 6 (.mv (.r 0))])
  (.seq (.reg [q (.mv (.v 6)), q (.mv (.v 1)), q (.call (.c (.f 14 [] [])) [(.r 1), (.r 0)]), qv 7 (.mv (.r 0))])
  (.seq (.reg [q (.buildSl 0 7 [(.s []), (.i .i64 0), (.i .i64 0), (.i .i64 0), .nils, (.b false), .nils] []), q (.mv (.v 5)), ⟨.append 7 96 (.r 1) (.r 0), none, none, .full, .obj⟩, qv 8 (.mv (.r 0))])
  (.seq (.reg [q (.mv (.v 2)), q (.mv (.v 8)), q (.len 1 (.r 0)), q (.call (.c (.f 12 [] [])) [(.r 2), (.r 0)]), qv 2 (.mv (.r 0))])
  (.seq (.seq (.reg [qv 17 (.mv (.v 3))])
  (.cond (.v 17)
   (.reg [qn (.mv (.v 8)), qn (.mv (.v 8)), qn (.mv (.v 2)), qn (.mv (.v 8)), qn (.mv (.v 2)), qn (.iaS 7 (.r 1) (.r 0)), qn (.load (some 7) (.r 0)), qn (.mv (.v 8)), qn (.iaS 7 (.r 0) (.c (.i .i64 0))), qn (.load (some 7) (.r 0)), q (.iaS 7 (.r 9) (.c (.i .i64 0))), q (.store 7 (.r 0) (.r 4)), q (.iaS 7 (.r 10) (.r 9)), q (.store 7 (.r 0) (.r 3))])
   (.reg [q (.mv (.v 8)), q (.mv (.v 2)), q (.iaS 7 (.r 1) (.r 0)), q (.faddr 0 (.r 0)), q (.store 1 (.r 0) (.c (.s [111, 116, 104, 101, 114])))])))
  (.seq (.reg [q (.mv (.v 8)), q (.call (.c (.f 13 [] [])) [(.r 0)]), qv 9 (.mv (.r 0))])
  (.seq (.reg [q (.mv (.v 6)), q (.mv (.v 9)), q (.mv (.v 7)), q (.call (.c (.f 18 [] [])) [(.r 2), (.r 1), (.r 0)]), qv 10 (.mv (.r 0))])
  (.seq (.seq (.reg [qv 11 (.mv (.c (.i .i64 0)))])
  (.blk 0 (.loop lp6_1)))
  (.seq (.reg [q (.mv (.v 10)), q (.len 1 (.r 0)), q (.mv (.v 9)), q (.len 1 (.r 0)), q (.bin .eql (.r 2) (.r 0)), qv 4 (.mv (.r 0))])
  .ret))))))))))))))⟩
/-- solenoid/solenoidlaw15.MigrateLonger -/
def lp7_1 : PCode :=
  (.seq (.seq (.reg [q (.mv (.v 9)), q (.mv (.v 1)), qv 11 (.bin .lss (.r 1) (.r 0))])
  (.cond (.v 11)
   .skip
   (.exit 0)))
  (.seq (.blk 1 (.seq (.reg [q (.mv (.v 9)), q (.mv (.v 0)), q (.bin .lss (.r 1) (.r 0)), q (.mv (.r 0)), qh 0 true (.mv (.v 7)), qh 1 true (.mv (.v 9)), qh 2 true (.iaS 1 (.r 1) (.r 0)), qh 3 true (.load none (.r 0)), qh 4 true (.mv (.v 6)), qh 5 true (.mv (.v 9)), qh 6 true (.iaS 1 (.r 1) (.r 0)), qh 7 true (.load none (.r 0)), qg 8 true (.bin .neq (.r 4) (.r 0)), qg 9 true (.mv (.r 0)), qg 0 false (.mv (.v 8)), qg 1 false (.mv (.v 9)), qg 2 false (.iaS 1 (.r 1) (.r 0)), qg 3 false (.load none (.r 0)), qh 4 false (.mv (.v 9)), qg 5 false (.bin .neq (.r 1) (.r 0)), qg 16 true (.pick (.r 6) (.c (.b true)) (.r 0)), q (.pick (.r 17) (.r 0) (.c (.b false))), q (.mv (.r 0)), qg 0 false (.mv (.v 9)), qg 1 false (.mv (.v 0)), qg 2 false (.bin .geq (.r 1) (.r 0)), qg 3 false (.mv (.r 0)), qg 0 true (.mv (.v 7)), qg 1 true (.mv (.v 9)), qg 2 true (.iaS 1 (.r 1) (.r 0)), qg 3 true (.load none (.r 0)), qg 4 true (.bin .neq (.r 0) (.c (.i .i64 0))), qg 5 true (.mv (.r 0)), qg 0 false (.mv (.v 8)), qg 1 false (.mv (.v 9)), qg 2 false (.iaS 1 (.r 1) (.r 0)), qg 3 false (.load none (.r 0)), qg 4 false (.bin .neq (.r 0) (.c (.i .i64 (-1)))), qg 11 true (.pick (.r 5) (.c (.b true)) (.r 0)), qg 16 false (.pick (.r 12) (.r 0) (.c (.b false))), qv 12 (.pick (.r 17) (.c (.b true)) (.r 0))])
  (.cond (.v 12)
   (.seq (.reg [qv 3 (.mv (.c (.b false)))])
   .ret)
   .skip)))
  (.reg [q (.mv (.v 9)), q (.bin .add (.r 0) (.c (.i .i64 1))), qv 9 (.mv (.r 0))])))
def pf7 : PFunc := ⟨[(some 0), (some 1), (some 2), none, none, none, none, none, none, none, none, none, none], [.v 3],
  (.seq (.reg [qv 3 (.mv (.c (.b false)))])
  (.seq (.seq (.reg [q (.call (.c (.f 9 [] [])) []), qv 10 (.un .not (.r 0))])
  (.cond (.v 10)
   (.seq (.reg [qv 3 (.mv (.c (.b false)))])
   .ret)
   .skip))
  (.seq (.reg [q (.mv (.v 0)), q (.call (.c (.f 12 [] [])) [(.r 0), (.c (.i .i64 32))]), q (.bin .add (.c (.i .i64 1)) (.r 0)), q (.mv (.v 1)), q (.call (.c (.f 12 [] [])) [(.r 0), (.c (.i .i64 32))]), q (.bin .add (.c (.i .i64 1)) (.r 0)), qv 0 (.mv (.r 3)), qv 1 (.mv (.r 1))])
  (.seq (.reg [q (.mv (.v 0)), q (.build [(.i .i64 0), (.i .i64 0), (.i .i64 0), .nils] [(0, 1, (.c (.i .i64 7))), (1, 1, (.c (.i .i64 6))), (2, 1, (.r 0))]), q (.mv (.v 0)), q (.mksl 1 8 [(.i .i64 0)] (.r 0) (.r 0)), q (.build [(.s []), (.i .i64 0), (.i .i64 0), (.i .i64 0), .nils, (.b false), .nils] [(0, 1, (.c (.s [97]))), (1, 4, (.r 2)), (6, 1, (.r 0))]), q (.buildSl 1 7 [(.s []), (.i .i64 0), (.i .i64 0), (.i .i64 0), .nils, (.b false), .nils] [(0, 7, (.r 0))]), q (.call (.c (.f 13 [] [])) [(.r 0)]), qv 4 (.mv (.r 0))])
  (.seq (.reg [q (.mv (.v 1)), q (.build [(.i .i64 0), (.i .i64 0), (.i .i64 0), .nils] [(0, 1, (.c (.i .i64 7))), (1, 1, (.c (.i .i64 6))), (2, 1, (.r 0))]), q (.mv (.v 1)), q (.mksl 1 8 [(.i .i64 0)] (.r 0) (.r 0)), q (.build [(.s []), (.i .i64 0), (.i .i64 0), (.i .i64 0), .nils, (.b false), .nils] [(0, 1, (.c (.s [97]))), (1, 4, (.r 2)), (6, 1, (.r 0))]), q (.buildSl 1 7 [(.s []), (.i .i64 0), (.i .i64 0), (.i .i64 0), .nils, (.b false), .nils] [(0, 7, (.r 0))]), q (.call (.c (.f 13 [] [])) [(.r 0)]), qv 5 (.mv (.r 0))])
  (.seq (.reg [q (.mv (.v 4)), q (.mv (.v 2)), q (.call (.c (.f 14 [] [])) [(.r 1), (.r 0)]), qv 6 (.mv (.r 0))])
  (.seq (.reg [q (.mv (.v 4)), q (.mv (.v 5)), q (.mv (.v 6)), q (.call (.c (.f 18 [] [])) [(.r 2), (.r 1), (.r 0)]), qv 7 (.mv (.r 0))])
  (.seq (.reg [q (.mv (.v 4)), q (.mv (.v 5)), q (.call (.c (.f 16 [] [])) [(.r 1), (.r 0)]), qv 8 (.mv (.r 0))])
  (.seq (.seq (.reg [qv 9 (.mv (.c (.i .i64 0)))])
  (.blk 0 (.loop lp7_1)))
  (.seq (.reg [q (.mv (.v 7)), q (.len 1 (.r 0)), q (.mv (.v 1)), q (.bin .eql (.r 1) (.r 0)), q (.mv (.r 0)), qg 0 true (.mv (.v 8)), qg 1 true (.len 1 (.r 0)), qg 2 true (.mv (.v 1)), qg 3 true (.bin .eql (.r 1) (.r 0)), q (.pick (.r 4) (.r 0) (.c (.b false))), qv 3 (.mv (.r 0))])
  .ret))))))))))⟩
/-- solenoid/solenoidlaw15.MigrateFields -/
def lp8_1 : PCode :=
  (.seq (.seq (.reg [q (.mv (.v 12)), qv 17 (.bin .lss (.r 0) (.c (.i .i64 9)))])
  (.cond (.v 17)
   .skip
   (.exit 0)))
  (.seq (.blk 1 (.seq (.reg [q (.mv (.v 8)), q (.mv (.v 9)), q (.mv (.v 12)), q (.iaS 6 (.r 1) (.r 0)), q (.faddr 0 (.r 0)), q (.load none (.r 0)), q (.call (.c (.f 20 [] [])) [(.r 5), (.r 0)]), q (.mv (.r 0)), q (.ext 0 (.r 0)), q (.ext 1 (.r 1)), qv 13 (.mv (.r 1)), qv 14 (.mv (.r 1))])
  (.seq (.reg [q (.mv (.v 14)), q (.un .not (.r 0)), q (.mv (.r 0)), qh 0 false (.mv (.v 11)), qh 1 false (.mv (.v 12)), qh 2 false (.iaS 1 (.r 1) (.r 0)), qh 3 false (.load none (.r 0)), qh 4 false (.mv (.v 10)), qh 5 false (.mv (.v 13)), qh 6 false (.iaS 1 (.r 1) (.r 0)), qh 7 false (.load none (.r 0)), qg 8 false (.bin .neq (.r 4) (.r 0)), q (.pick (.r 9) (.c (.b true)) (.r 0)), q (.mv (.r 0)), qg 0 false (.mv (.v 12)), qg 1 false (.bin .lss (.r 0) (.c (.i .i64 6))), qg 2 false (.mv (.r 0)), qg 0 true (.mv (.v 13)), qg 1 true (.mv (.v 12)), qg 2 true (.bin .add (.r 0) (.c (.i .i64 3))), qg 3 true (.bin .neq (.r 2) (.r 0)), qg 7 false (.pick (.r 4) (.r 0) (.c (.b false))), qv 18 (.pick (.r 8) (.c (.b true)) (.r 0))])
  (.cond (.v 18)
   (.seq (.reg [qv 3 (.mv (.c (.b false)))])
   .ret)
   .skip))))
  (.reg [q (.mv (.v 12)), q (.bin .add (.r 0) (.c (.i .i64 1))), qv 12 (.mv (.r 0))])))
def pf8 : PFunc := ⟨[(some 0), (some 1), (some 2), none, none, none, none, none, none, none, none, none, none, none, none, none, none, none, none], [.v 3],
  (.seq (.reg [qv 3 (.mv (.c (.b false)))])
  (.seq (.seq (.reg [q (.call (.c (.f 9 [] [])) []), qv 15 (.un .not (.r 0))])
  (.cond (.v 15)
   (.seq (.reg [qv 3 (.mv (.c (.b false)))])
   .ret)
   .skip))
  (.seq (.reg [q (.mv (.v 1)), q (.call (.c (.f 12 [] [])) [(.r 0), (.c (.i .i64 6))]), q (.bin .add (.c (.i .i64 1)) (.r 0)), qv 1 (.mv (.r 0))])
  (.seq (.reg [q (.build [(.s []), (.i .i64 0)] [(0, 1, (.c (.s [112]))), (1, 1, (.c (.i .i64 6)))]), q (.mv (.v 1)), q (.build [(.s []), (.i .i64 0)] [(0, 1, (.c (.s [113]))), (1, 1, (.r 0))]), q (.build [(.s []), (.i .i64 0)] [(0, 1, (.c (.s [114]))), (1, 1, (.c (.i .i64 6)))]), q (.buildSl 3 2 [(.s []), (.i .i64 0)] [(0, 2, (.r 3)), (2, 2, (.r 1)), (4, 2, (.r 0))]), qv 4 (.mv (.r 0))])
  (.seq (.reg [qn (.mv (.v 4)), q (.mv (.v 0)), q (.call (.c (.f 12 [] [])) [(.r 0), (.c (.i .i64 3))]), qn (.iaS 2 (.r 2) (.r 0)), qn (.load (some 2) (.r 0)), qn (.mv (.v 4)), qn (.mv (.v 0)), qn (.call (.c (.f 12 [] [])) [(.r 0), (.c (.i .i64 3))]), qn (.bin .add (.r 0) (.c (.i .i64 1))), qn (.bin .rem (.r 0) (.c (.i .i64 3))), qn (.iaS 2 (.r 4) (.r 0)), qn (.load (some 2) (.r 0)), qn (.mv (.v 4)), qn (.mv (.v 0)), qn (.call (.c (.f 12 [] [])) [(.r 0), (.c (.i .i64 3))]), qn (.bin .add (.r 0) (.c (.i .i64 2))), qn (.bin .rem (.r 0) (.c (.i .i64 3))), qn (.iaS 2 (.r 4) (.r 0)), qn (.load (some 2) (.r 0)), q (.buildSl 3 2 [(.s []), (.i .i64 0)] [(0, 2, (.r 14)), (2, 2, (.r 7)), (4, 2, (.r 0))]), qv 5 (.mv (.r 0))])
  (.seq (.reg [qn (.mv (.v 4)), qn (.build [(.i .i64 0), (.i .i64 0), (.i .i64 0), .nils] [(0, 1, (.c (.i .i64 8))), (3, 1, (.r 0))]), qn (.mksl 1 8 [(.i .i64 0)] (.c (.i .i64 3)) (.c (.i .i64 3))), qn (.build [(.s []), (.i .i64 0), (.i .i64 0), (.i .i64 0), .nils, (.b false), .nils] [(0, 1, (.c (.s [115]))), (1, 4, (.r 1)), (6, 1, (.r 0))]), qn (.build [(.i .i64 0), (.i .i64 0), (.i .i64 0), .nils] [(0, 1, (.c (.i .i64 9)))]), qn (.mksl 1 8 [(.i .i64 0)] (.c (.i .i64 6)) (.c (.i .i64 6))), qn (.build [(.s []), (.i .i64 0), (.i .i64 0), (.i .i64 0), .nils, (.b false), .nils] [(0, 1, (.c (.s [116]))), (1, 4, (.r 1)), (6, 1, (.r 0))]), q (.buildSl 2 7 [(.s []), (.i .i64 0), (.i .i64 0), (.i .i64 0), .nils, (.b false), .nils] [(0, 7, (.r 3)), (7, 7, (.r 0))]), qv 6 (.mv (.r 0))])
  (.seq (.reg [qn (.build [(.i .i64 0), (.i .i64 0), (.i .i64 0), .nils] [(0, 1, (.c (.i .i64 9)))]), qn (.mksl 1 8 [(.i .i64 0)] (.c (.i .i64 6)) (.c (.i .i64 6))), qn (.build [(.s []), (.i .i64 0), (.i .i64 0), (.i .i64 0), .nils, (.b false), .nils] [(0, 1, (.c (.s [116]))), (1, 4, (.r 1)), (6, 1, (.r 0))]), qn (.mv (.v 5)), qn (.build [(.i .i64 0), (.i .i64 0), (.i .i64 0), .nils] [(0, 1, (.c (.i .i64 8))), (3, 1, (.r 0))]), qn (.mksl 1 8 [(.i .i64 0)] (.c (.i .i64 3)) (.c (.i .i64 3))), qn (.build [(.s []), (.i .i64 0), (.i .i64 0), (.i .i64 0), .nils, (.b false), .nils] [(0, 1, (.c (.s [115]))), (1, 4, (.r 1)), (6, 1, (.r 0))]), q (.buildSl 2 7 [(.s []), (.i .i64 0), (.i .i64 0), (.i .i64 0), .nils, (.b false), .nils] [(0, 7, (.r 4)), (7, 7, (.r 0))]), qv 7 (.mv (.r 0))])
  (.seq (.reg [q (.mv (.v 6)), q (.call (.c (.f 13 [] [])) [(.r 0)]), q (.mv (.v 7)), q (.call (.c (.f 13 [] [])) [(.r 0)]), qv 8 (.mv (.r 2)), qv 9 (.mv (.r 1))])
  (.seq (.reg [q (.mv (.v 8)), q (.mv (.v 2)), q (.call (.c (.f 14 [] [])) [(.r 1), (.r 0)]), qv 10 (.mv (.r 0))])
  (.seq (.reg [q (.mv (.v 8)), q (.mv (.v 9)), q (.mv (.v 10)), q (.call (.c (.f 18 [] [])) [(.r 2), (.r 1), (.r 0)]), qv 11 (.mv (.r 0))])
  (.seq (.seq (.reg [q (.mv (.v 11)), q (.len 1 (.r 0)), qv 16 (.bin .neq (.r 0) (.c (.i .i64 9)))])
  (.cond (.v 16)
   (.seq (.reg [qv 3 (.mv (.c (.b false)))])
   .ret)
   .skip))
  (.seq (.seq (.reg [qv 12 (.mv (.c (.i .i64 0)))])
  (.blk 0 (.loop lp8_1)))
  (.seq (.reg [qv 3 (.mv (.c (.b true)))])
  .ret)))))))))))))⟩
/-- solenoid/solenoidlaw15.known -/
def pf9 : PFunc := ⟨[none, none, none, none], [.v 0],
  (.seq (.reg [qv 0 (.mv (.c (.b false)))])
  (.seq (.reg [q (.build [(.i .i64 0), (.i .i64 0), (.i .i64 0), .nils] [(0, 1, (.c (.i .i64 7))), (1, 1, (.c (.i .i64 4))), (2, 1, (.c (.i .i64 2)))]), q (.buildSl 2 1 [(.i .i64 0)] [(0, 1, (.c (.i .i64 1))), (1, 1, (.c (.i .i64 2)))]), q (.build [(.s []), (.i .i64 0), (.i .i64 0), (.i .i64 0), .nils, (.b false), .nils] [(0, 1, (.c (.s [97]))), (1, 4, (.r 1)), (6, 1, (.r 0))]), q (.buildSl 1 7 [(.s []), (.i .i64 0), (.i .i64 0), (.i .i64 0), .nils, (.b false), .nils] [(0, 7, (.r 0))]), q (.call (.c (.f 13 [] [])) [(.r 0)]), qv 1 (.mv (.r 0))])
  (.seq (.reg [q (.build [(.i .i64 0), (.i .i64 0), (.i .i64 0), .nils] [(0, 1, (.c (.i .i64 7))), (1, 1, (.c (.i .i64 4))), (2, 1, (.c (.i .i64 3)))]), q (.buildSl 3 1 [(.i .i64 0)] [(0, 1, (.c (.i .i64 7))), (1, 1, (.c (.i .i64 8))), (2, 1, (.c (.i .i64 9)))]), q (.build [(.s []), (.i .i64 0), (.i .i64 0), (.i .i64 0), .nils, (.b false), .nils] [(0, 1, (.c (.s [97]))), (1, 4, (.r 1)), (6, 1, (.r 0))]), q (.buildSl 1 7 [(.s []), (.i .i64 0), (.i .i64 0), (.i .i64 0), .nils, (.b false), .nils] [(0, 7, (.r 0))]), q (.call (.c (.f 13 [] [])) [(.r 0)]), qv 2 (.mv (.r 0))])
  (.seq (.reg [q (.mv (.v 1)), q (.mv (.v 2)), q (.buildSl 2 1 [(.i .i64 0)] [(0, 1, (.c (.i .i64 4))), (1, 1, (.c (.i .i64 5)))]), q (.call (.c (.f 18 [] [])) [(.r 2), (.r 1), (.r 0)]), qv 3 (.mv (.r 0))])
  (.seq (.reg [q (.mv (.v 3)), q (.len 1 (.r 0)), q (.bin .eql (.r 0) (.c (.i .i64 3))), q (.mv (.r 0)), qg 0 true (.mv (.v 3)), qg 1 true (.iaS 1 (.r 0) (.c (.i .i64 0))), qg 2 true (.load none (.r 0)), qg 3 true (.bin .eql (.r 0) (.c (.i .i64 4))), q (.pick (.r 4) (.r 0) (.c (.b false))), q (.mv (.r 0)), qg 0 true (.mv (.v 3)), qg 1 true (.iaS 1 (.r 0) (.c (.i .i64 1))), qg 2 true (.load none (.r 0)), qg 3 true (.bin .eql (.r 0) (.c (.i .i64 5))), q (.pick (.r 4) (.r 0) (.c (.b false))), q (.mv (.r 0)), qg 0 true (.mv (.v 3)), qg 1 true (.iaS 1 (.r 0) (.c (.i .i64 2))), qg 2 true (.load none (.r 0)), qg 3 true (.bin .eql (.r 0) (.c (.i .i64 9))), q (.pick (.r 4) (.r 0) (.c (.b false))), qv 0 (.mv (.r 0))])
  .ret)))))⟩
/-- solenoid/solenoidlaw8.Few -/
def lp10_1 : PCode :=
  (.seq (.seq (.reg [q (.mv (.v 2)), q (.mv (.v 0)), q (.len 1 (.r 0)), qv 3 (.bin .lss (.r 2) (.r 0))])
  (.cond (.v 3)
   .skip
   (.exit 0)))
  (.seq (.blk 1 (.seq (.reg [q (.mv (.v 0)), q (.mv (.v 2)), q (.iaS 7 (.r 1) (.r 0)), q (.faddr 0 (.r 0)), q (.load none (.r 0)), q (.len 0 (.r 0)), q (.bin .gtr (.r 0) (.c (.i .i64 20))), q (.mv (.r 0)), qg 0 false (.mv (.v 0)), qg 1 false (.mv (.v 2)), qg 2 false (.iaS 7 (.r 1) (.r 0)), qg 3 false (.faddr 1 (.r 0)), qg 4 false (.load (some 4) (.r 0)), qg 5 false (.call (.c (.f 23 [] [])) [(.r 0)]), qg 6 false (.un .not (.r 0)), q (.pick (.r 7) (.c (.b true)) (.r 0)), q (.mv (.r 0)), qg 0 false (.mv (.v 0)), qg 1 false (.mv (.v 2)), qg 2 false (.iaS 7 (.r 1) (.r 0)), qg 3 false (.faddr 6 (.r 0)), qg 4 false (.load none (.r 0)), qg 5 false (.len 1 (.r 0)), qg 6 false (.bin .gtr (.r 0) (.c (.i .i64 40))), qv 4 (.pick (.r 7) (.c (.b true)) (.r 0))])
  (.cond (.v 4)
   (.seq (.reg [qv 1 (.mv (.c (.b false)))])
   .ret)
   .skip)))
  (.reg [q (.mv (.v 2)), q (.bin .add (.r 0) (.c (.i .i64 1))), qv 2 (.mv (.r 0))])))
def pf10 : PFunc := ⟨[(some 0), none, none, none, none], [.v 1],
  (.seq (.reg [qv 1 (.mv (.c (.b false)))])
  (.seq (.seq (.reg [qv 2 (.mv (.c (.i .i64 0)))])
  (.blk 0 (.loop lp10_1)))
  (.seq (.reg [q (.mv (.v 0)), q (.len 1 (.r 0)), q (.bin .leq (.r 0) (.c (.i .i64 16))), qv 1 (.mv (.r 0))])
  .ret)))⟩
/-- solenoid/solenoidlaw8.Good -/
def lp11_1 : PCode :=
  (.seq (.seq (.reg [q (.mv (.v 9)), q (.mv (.v 7)), qv 15 (.bin .lss (.r 1) (.r 0))])
  (.cond (.v 15)
   .skip
   (.exit 2)))
  (.seq (.blk 3 (.seq (.reg [q (.mv (.v 9)), qv 10 (.mv (.r 0))])
  (.seq (.seq (.reg [q (.mv (.v 9)), q (.mv (.v 0)), q (.mv (.v 5)), q (.iaS 7 (.r 1) (.r 0)), q (.faddr 6 (.r 0)), q (.load none (.r 0)), q (.len 1 (.r 0)), qv 16 (.bin .lss (.r 6) (.r 0))])
  (.cond (.v 16)
   (.reg [q (.mv (.v 0)), q (.mv (.v 5)), q (.iaS 7 (.r 1) (.r 0)), q (.faddr 6 (.r 0)), q (.load none (.r 0)), q (.mv (.v 9)), q (.iaS 1 (.r 1) (.r 0)), q (.load none (.r 0)), qv 10 (.mv (.r 0))])
   .skip))
  (.reg [qn (.faddr 6 (.v 6)), qn (.load none (.r 0)), qn (.mv (.v 9)), qn (.mv (.v 8)), qn (.mv (.v 9)), qn (.iaS 6 (.r 1) (.r 0)), qn (.faddr 1 (.r 0)), qn (.load none (.r 0)), qn (.mv (.v 10)), qn (.call (.c (.f 21 [] [])) [(.r 1), (.r 0)]), q (.iaS 1 (.r 8) (.r 7)), q (.store 1 (.r 0) (.r 1))]))))
  (.reg [q (.mv (.v 9)), q (.bin .add (.r 0) (.c (.i .i64 1))), qv 9 (.mv (.r 0))])))
def lp11_2 : PCode :=
  (.seq (.seq (.reg [q (.mv (.v 5)), q (.mv (.v 0)), q (.len 1 (.r 0)), q (.bin .lss (.r 2) (.r 0)), q (.mv (.r 0)), qg 0 true (.mv (.v 5)), qg 1 true (.bin .lss (.r 0) (.c (.i .i64 10))), qv 11 (.pick (.r 2) (.r 0) (.c (.b false)))])
  (.cond (.v 11)
   .skip
   (.exit 0)))
  (.seq (.blk 1 (.seq (.reg [qn (.mv (.v 5)), qn (.bin .add (.c (.i .i64 97)) (.r 0)), qn (.conv .u8 (.r 0)), qn (.buildSl 1 1 [(.i .u8 0)] [(0, 1, (.r 0))]), qn (.b2s (.r 0)), qn (.bin .add (.c (.s [118])) (.r 0)), qn (.mv (.v 0)), qn (.mv (.v 5)), qn (.iaS 7 (.r 1) (.r 0)), qn (.faddr 1 (.r 0)), qn (.load (some 4) (.r 0)), qn (.call (.c (.f 24 [] [])) [(.r 0)]), qn (.mv (.v 0)), qn (.mv (.v 5)), qn (.iaS 7 (.r 1) (.r 0)), qn (.faddr 5 (.r 0)), qn (.load none (.r 0)), qn (.build [(.s []), (.i .i64 0), (.i .i64 0), (.i .i64 0), .nils, (.b false), .nils] [(0, 1, (.r 11)), (1, 4, (.r 5)), (5, 1, (.r 0))]), ⟨.box (.c (.agg [(.s []), (.i .i64 0), (.i .i64 0), (.i .i64 0), .nils, (.b false), .nils])), none, (some 6), .new, .d⟩, q (.store 7 (.r 0) (.r 1))])
  (.seq (.reg [q (.faddr 1 (.v 6)), q (.load (some 4) (.r 0)), q (.call (.c (.f 25 [] [])) [(.r 0)]), qv 7 (.mv (.r 0))])
  (.seq (.seq (.reg [q (.faddr 5 (.v 6)), q (.load none (.r 0)), q (.mv (.r 0)), qg 0 true (.mv (.v 4)), qg 1 true (.mv (.v 7)), qg 2 true (.bin .add (.r 1) (.r 0)), qg 3 true (.bin .gtr (.r 0) (.c (.i .i64 24))), qv 12 (.pick (.r 4) (.r 0) (.c (.b false)))])
  (.cond (.v 12)
   (.reg [q (.faddr 5 (.v 6)), q (.store 1 (.r 0) (.c (.b false)))])
   .skip))
  (.seq (.seq (.reg [q (.mv (.v 3)), q (.mv (.v 7)), q (.bin .add (.r 1) (.r 0)), qv 13 (.bin .gtr (.r 0) (.c (.i .i64 64)))])
  (.cond (.v 13)
   (.exit 0)
   .skip))
  (.seq (.reg [q (.mv (.v 3)), q (.mv (.v 7)), q (.bin .add (.r 1) (.r 0)), qv 3 (.mv (.r 0))])
  (.seq (.seq (.reg [q (.faddr 5 (.v 6)), qv 14 (.load none (.r 0))])
  (.cond (.v 14)
   (.reg [q (.mv (.v 4)), q (.mv (.v 7)), q (.bin .add (.r 1) (.r 0)), qv 4 (.mv (.r 0))])
   .skip))
  (.seq (.reg [q (.mv (.v 7)), q (.mksl 1 8 [(.i .i64 0)] (.r 0) (.r 0)), q (.faddr 6 (.v 6)), q (.store 1 (.r 0) (.r 1))])
  (.seq (.reg [q (.load (some 7) (.v 6)), ⟨.buildSl 1 7 [(.s []), (.i .i64 0), (.i .i64 0), (.i .i64 0), .nils, (.b false), .nils] [(0, 7, (.r 0))], none, none, .full, .obj⟩, q (.call (.c (.f 13 [] [])) [(.r 0)]), qv 8 (.mv (.r 0))])
  (.seq (.seq (.reg [qv 9 (.mv (.c (.i .i64 0)))])
  (.blk 2 (.loop lp11_1)))
  (.reg [q (.mv (.v 2)), q (.load (some 7) (.v 6)), q (.buildSl 1 7 [(.s []), (.i .i64 0), (.i .i64 0), (.i .i64 0), .nils, (.b false), .nils] [(0, 7, (.r 0))]), ⟨.append 7 96 (.r 2) (.r 0), none, none, .full, (.own 7)⟩, qv 2 (.mv (.r 0))])))))))))))
  (.reg [q (.mv (.v 5)), q (.bin .add (.r 0) (.c (.i .i64 1))), qv 5 (.mv (.r 0))])))
def pf11 : PFunc := ⟨[(some 0), none, none, none, none, none, none, none, none, none, none, none, none, none, none, none, none], [.v 1],
  (.seq (.reg [qv 1 (.mv (.c .nils))])
  (.seq (.reg [⟨.mv (.c .nils), none, (some 2), .full, (.own 7)⟩])
  (.seq (.reg [qv 3 (.mv (.c (.i .i64 0))), qv 4 (.mv (.c (.i .i64 0)))])
  (.seq (.seq (.reg [qv 5 (.mv (.c (.i .i64 0)))])
  (.blk 0 (.loop lp11_2)))
  (.seq (.reg [q (.mv (.v 2)), qv 1 (.mv (.r 0))])
  .ret)))))⟩
/-- solenoid/solenoidlaw15.within -/
def pf12 : PFunc := ⟨[(some 0), (some 1), none, none, none], [.v 2],
  (.seq (.reg [qv 2 (.mv (.c (.i .i64 0)))])
  (.seq (.reg [q (.mv (.v 0)), q (.mv (.v 1)), q (.bin .rem (.r 1) (.r 0)), qv 3 (.mv (.r 0))])
  (.seq (.seq (.reg [q (.mv (.v 3)), qv 4 (.bin .lss (.r 0) (.c (.i .i64 0)))])
  (.cond (.v 4)
   (.reg [q (.mv (.v 3)), q (.mv (.v 1)), q (.bin .add (.r 1) (.r 0)), qv 3 (.mv (.r 0))])
   .skip))
  (.seq (.reg [q (.mv (.v 3)), qv 2 (.mv (.r 0))])
  .ret))))⟩
/-- solenoid/solenoidref8.Cells -/
def lp13_1 : PCode :=
  (.seq (.seq (.reg [q (.mv (.v 3)), q (.mv (.v 0)), q (.len 1 (.r 0)), qv 4 (.bin .lss (.r 2) (.r 0))])
  (.cond (.v 4)
   .skip
   (.exit 0)))
  (.seq (.blk 1 (.reg [q (.mv (.v 2)), q (.mv (.v 0)), q (.mv (.v 3)), q (.iaS 7 (.r 1) (.r 0)), q (.load (some 7) (.r 0)), q (.call (.c (.f 26 [] [])) [(.r 0)]), ⟨.append 6 56 (.r 5) (.r 0), none, none, .full, (.own 6)⟩, qv 2 (.mv (.r 0))]))
  (.reg [q (.mv (.v 3)), q (.bin .add (.r 0) (.c (.i .i64 1))), qv 3 (.mv (.r 0))])))
def pf13 : PFunc := ⟨[(some 0), none, none, none, none], [.v 1],
  (.seq (.reg [qv 1 (.mv (.c .nils))])
  (.seq (.reg [⟨.mv (.c .nils), none, (some 2), .full, (.own 6)⟩])
  (.seq (.seq (.reg [qv 3 (.mv (.c (.i .i64 0)))])
  (.blk 0 (.loop lp13_1)))
  (.seq (.reg [q (.mv (.v 2)), qv 1 (.mv (.r 0))])
  .ret))))⟩
/-- solenoid/solenoidlaw15.values -/
def lp14_1 : PCode :=
  (.seq (.seq (.reg [q (.mv (.v 4)), q (.mv (.v 3)), q (.len 1 (.r 0)), q (.bin .lss (.r 2) (.r 0)), q (.mv (.r 0)), qg 0 true (.mv (.v 4)), qg 1 true (.mv (.v 1)), qg 2 true (.len 1 (.r 0)), qg 3 true (.bin .lss (.r 2) (.r 0)), qv 5 (.pick (.r 4) (.r 0) (.c (.b false)))])
  (.cond (.v 5)
   .skip
   (.exit 0)))
  (.seq (.blk 1 (.reg [qn (.mv (.v 3)), qn (.mv (.v 4)), qn (.mv (.v 0)), qn (.mv (.v 4)), qn (.iaS 6 (.r 1) (.r 0)), qn (.faddr 1 (.r 0)), qn (.load none (.r 0)), qn (.mv (.v 1)), qn (.mv (.v 4)), qn (.iaS 1 (.r 1) (.r 0)), qn (.load none (.r 0)), q (.call (.c (.f 21 [] [])) [(.r 4), (.r 0)]), q (.iaS 1 (.r 11) (.r 10)), q (.store 1 (.r 0) (.r 1))]))
  (.reg [q (.mv (.v 4)), q (.bin .add (.r 0) (.c (.i .i64 1))), qv 4 (.mv (.r 0))])))
def pf14 : PFunc := ⟨[(some 0), (some 1), none, none, none, none], [.v 2],
  (.seq (.reg [qv 2 (.mv (.c .nils))])
  (.seq (.reg [q (.mv (.v 0)), ⟨.call (.c (.f 27 [] [])) [(.r 0)], none, none, .full, .obj⟩, qv 3 (.mv (.r 0))])
  (.seq (.seq (.reg [qv 4 (.mv (.c (.i .i64 0)))])
  (.blk 0 (.loop lp14_1)))
  (.seq (.reg [q (.mv (.v 3)), qv 2 (.mv (.r 0))])
  .ret))))⟩
/-- solenoid/solenoidlaw15.ints -/
def lp15_1 : PCode :=
  (.seq (.seq (.reg [q (.mv (.v 3)), q (.mv (.v 0)), q (.len 1 (.r 0)), qv 5 (.bin .lss (.r 2) (.r 0))])
  (.cond (.v 5)
   .skip
   (.exit 0)))
  (.seq (.blk 1 (.seq (.reg [qn (.mv (.v 0)), qn (.mv (.v 3)), qn (.iaS 1 (.r 1) (.r 0)), qn (.load none (.r 0)), qn (.mv (.v 1)), qn (.mv (.v 3)), qn (.iaS 1 (.r 1) (.r 0)), qn (.load none (.r 0)), qv 6 (.bin .neq (.r 4) (.r 0))])
  (.cond (.v 6)
   (.seq (.reg [qv 2 (.mv (.c (.b false)))])
   .ret)
   .skip)))
  (.reg [q (.mv (.v 3)), q (.bin .add (.r 0) (.c (.i .i64 1))), qv 3 (.mv (.r 0))])))
def pf15 : PFunc := ⟨[(some 0), (some 1), none, none, none, none, none], [.v 2],
  (.seq (.reg [qv 2 (.mv (.c (.b false)))])
  (.seq (.seq (.reg [q (.mv (.v 0)), q (.len 1 (.r 0)), q (.mv (.v 1)), q (.len 1 (.r 0)), qv 4 (.bin .neq (.r 2) (.r 0))])
  (.cond (.v 4)
   (.seq (.reg [qv 2 (.mv (.c (.b false)))])
   .ret)
   .skip))
  (.seq (.seq (.reg [qv 3 (.mv (.c (.i .i64 0)))])
  (.blk 0 (.loop lp15_1)))
  (.seq (.reg [qv 2 (.mv (.c (.b true)))])
  .ret))))⟩
/-- solenoid/migrate.Diff -/
def lp16_1 : PCode :=
  (.seq (.reg [qv 12 (.bin .lss (.v 11) (.v 10))])
  (.seq (.cond (.v 12)
   .skip
   (.exit 0))
  (.seq (.blk 1 (.seq (.reg [q (.mv (.v 11)), q (.iaS 6 (.v 9) (.v 11)), q (.load (some 6) (.r 0)), qv 6 (.box (.c (.agg [(.s []), (.i .i64 0), (.b false), (.i .i64 0), (.i .i64 0), (.i .i64 0)]))), qv 5 (.mv (.r 3)), q (.store 6 (.r 1) (.r 2))])
  (.seq (.reg [q (.mv (.v 3)), q (.faddr 0 (.v 6)), q (.load none (.r 0)), q (.faddr 1 (.v 6)), q (.load none (.r 0)), q (.build [(.s []), (.i .i64 0)] [(0, 1, (.r 2)), (1, 1, (.r 0))]), q (.look (.st [1, 0]) (.i .i64 0) true (.r 5) (.r 0)), q (.mv (.r 0)), q (.ext 0 (.r 0)), q (.ext 1 (.r 1)), qv 7 (.mv (.r 1)), qv 8 (.mv (.r 1))])
  (.seq (.seq (.reg [q (.mv (.v 8)), qv 13 (.un .not (.r 0))])
  (.cond (.v 13)
   (.reg [qv 7 (.mv (.c (.i .i64 (-1))))])
   .skip))
  (.reg [q (.mv (.v 4)), q (.mv (.v 5)), q (.mv (.v 7)), q (.iaS 1 (.r 2) (.r 1)), q (.store 1 (.r 0) (.r 1))])))))
  (.reg [q (.bin .add (.v 11) (.c (.i .i64 1))), qv 11 (.mv (.r 0))]))))
def pf16 : PFunc := ⟨[(some 0), (some 1), none, none, none, none, none, none, none, none, none, none, none, none], [.v 2],
  (.seq (.reg [qv 2 (.mv (.c .nils))])
  (.seq (.reg [q (.mv (.v 0)), ⟨.call (.c (.f 28 [] [])) [(.r 0)], none, none, .full, .sh⟩, qv 3 (.mv (.r 0))])
  (.seq (.reg [q (.mv (.v 1)), q (.len 1 (.r 0)), ⟨.mksl 1 8 [(.i .i64 0)] (.r 0) (.r 0), none, none, .full, .obj⟩, qv 4 (.mv (.r 0))])
  (.seq (.seq (.reg [qv 9 (.mv (.v 1)), qv 10 (.len 1 (.r 0)), qv 11 (.mv (.c (.i .i64 0)))])
  (.blk 0 (.loop lp16_1)))
  (.seq (.reg [q (.mv (.v 4)), qv 2 (.mv (.r 0))])
  .ret)))))⟩
/-- solenoid/solenoidref15.Diff -/
def lp17_1 : PCode :=
  (.seq (.seq (.reg [q (.mv (.v 6)), q (.mv (.v 0)), q (.len 1 (.r 0)), q (.bin .lss (.r 2) (.r 0)), q (.mv (.r 0)), qg 0 true (.mv (.v 5)), qg 1 true (.bin .lss (.r 0) (.c (.i .i64 0))), qv 8 (.pick (.r 2) (.r 0) (.c (.b false)))])
  (.cond (.v 8)
   .skip
   (.exit 2)))
  (.seq (.blk 3 (.seq (.reg [qn (.mv (.v 0)), qn (.mv (.v 6)), qn (.iaS 6 (.r 1) (.r 0)), qn (.faddr 0 (.r 0)), qn (.load none (.r 0)), qn (.mv (.v 1)), qn (.mv (.v 4)), qn (.iaS 6 (.r 1) (.r 0)), qn (.faddr 0 (.r 0)), qn (.load none (.r 0)), q (.bin .eql (.r 5) (.r 0)), q (.mv (.r 0)), qh 0 true (.mv (.v 0)), qh 1 true (.mv (.v 6)), qh 2 true (.iaS 6 (.r 1) (.r 0)), qh 3 true (.faddr 1 (.r 0)), qh 4 true (.load none (.r 0)), qh 5 true (.mv (.v 1)), qh 6 true (.mv (.v 4)), qh 7 true (.iaS 6 (.r 1) (.r 0)), qh 8 true (.faddr 1 (.r 0)), qh 9 true (.load none (.r 0)), qg 10 true (.bin .eql (.r 5) (.r 0)), qv 9 (.pick (.r 11) (.r 0) (.c (.b false)))])
  (.cond (.v 9)
   (.reg [q (.mv (.v 6)), qv 5 (.mv (.r 0))])
   .skip)))
  (.reg [q (.mv (.v 6)), q (.bin .add (.r 0) (.c (.i .i64 1))), qv 6 (.mv (.r 0))])))
def lp17_2 : PCode :=
  (.seq (.seq (.reg [q (.mv (.v 4)), q (.mv (.v 1)), q (.len 1 (.r 0)), qv 7 (.bin .lss (.r 2) (.r 0))])
  (.cond (.v 7)
   .skip
   (.exit 0)))
  (.seq (.blk 1 (.seq (.reg [qv 5 (.mv (.c (.i .i64 (-1))))])
  (.seq (.seq (.reg [qv 6 (.mv (.c (.i .i64 0)))])
  (.blk 2 (.loop lp17_1)))
  (.reg [q (.mv (.v 3)), q (.mv (.v 5)), q (.buildSl 1 1 [(.i .i64 0)] [(0, 1, (.r 0))]), ⟨.append 1 8 (.r 2) (.r 0), none, none, .full, (.own 1)⟩, qv 3 (.mv (.r 0))]))))
  (.reg [q (.mv (.v 4)), q (.bin .add (.r 0) (.c (.i .i64 1))), qv 4 (.mv (.r 0))])))
def pf17 : PFunc := ⟨[(some 0), (some 1), none, none, none, none, none, none, none, none], [.v 2],
  (.seq (.reg [qv 2 (.mv (.c .nils))])
  (.seq (.reg [⟨.mv (.c .nils), none, (some 3), .full, (.own 1)⟩])
  (.seq (.seq (.reg [qv 4 (.mv (.c (.i .i64 0)))])
  (.blk 0 (.loop lp17_2)))
  (.seq (.reg [q (.mv (.v 3)), qv 2 (.mv (.r 0))])
  .ret))))⟩
/-- solenoid/migrate.Cells -/
def lp18_1 : PCode :=
  (.seq (.reg [qv 10 (.bin .lss (.v 9) (.v 8))])
  (.seq (.cond (.v 10)
   .skip
   (.exit 0))
  (.seq (.blk 1 (.seq (.reg [q (.mv (.v 9)), q (.iaS 1 (.v 7) (.v 9)), q (.load none (.r 0)), qv 5 (.mv (.r 2)), qv 6 (.mv (.r 1))])
  (.seq (.reg [q (.mv (.v 4)), q (.mv (.v 5)), q (.mv (.v 1)), q (.mv (.v 5)), q (.iaS 6 (.r 1) (.r 0)), q (.faddr 3 (.r 0)), q (.load none (.r 0)), q (.iaS 1 (.r 6) (.r 5)), q (.store 1 (.r 0) (.r 1))])
  (.seq (.reg [q (.mv (.v 6)), q (.bin .geq (.r 0) (.c (.i .i64 0))), q (.mv (.r 0)), qg 0 true (.mv (.v 6)), qg 1 true (.mv (.v 2)), qg 2 true (.len 1 (.r 0)), qg 3 true (.bin .lss (.r 2) (.r 0)), qv 11 (.pick (.r 4) (.r 0) (.c (.b false)))])
  (.cond (.v 11)
   (.reg [q (.mv (.v 4)), q (.mv (.v 5)), q (.mv (.v 2)), q (.mv (.v 6)), q (.iaS 1 (.r 1) (.r 0)), q (.load none (.r 0)), q (.iaS 1 (.r 5) (.r 4)), q (.store 1 (.r 0) (.r 1))])
   .skip)))))
  (.reg [q (.bin .add (.v 9) (.c (.i .i64 1))), qv 9 (.mv (.r 0))]))))
def pf18 : PFunc := ⟨[(some 0), (some 1), (some 2), none, none, none, none, none, none, none, none, none], [.v 3],
  (.seq (.reg [qv 3 (.mv (.c .nils))])
  (.seq (.reg [q (.mv (.v 1)), q (.len 1 (.r 0)), ⟨.mksl 1 8 [(.i .i64 0)] (.r 0) (.r 0), none, none, .full, .obj⟩, qv 4 (.mv (.r 0))])
  (.seq (.seq (.reg [q (.mv (.v 0)), q (.mv (.v 1)), qv 7 (.call (.c (.f 16 [] [])) [(.r 1), (.r 0)]), qv 8 (.len 1 (.r 0)), qv 9 (.mv (.c (.i .i64 0)))])
  (.blk 0 (.loop lp18_1)))
  (.seq (.reg [q (.mv (.v 4)), qv 3 (.mv (.r 0))])
  .ret))))⟩
/-- solenoid/solenoidref15.Cells -/
def lp19_1 : PCode :=
  (.seq (.seq (.reg [q (.mv (.v 6)), q (.mv (.v 1)), q (.len 1 (.r 0)), qv 8 (.bin .lss (.r 2) (.r 0))])
  (.cond (.v 8)
   .skip
   (.exit 0)))
  (.seq (.blk 1 (.seq (.reg [q (.mv (.v 1)), q (.mv (.v 6)), q (.iaS 6 (.r 1) (.r 0)), q (.faddr 3 (.r 0)), q (.load none (.r 0)), qv 7 (.mv (.r 0))])
  (.seq (.seq (.reg [q (.mv (.v 4)), q (.mv (.v 6)), q (.iaS 1 (.r 1) (.r 0)), q (.load none (.r 0)), q (.bin .geq (.r 0) (.c (.i .i64 0))), q (.mv (.r 0)), qg 0 true (.mv (.v 4)), qg 1 true (.mv (.v 6)), qg 2 true (.iaS 1 (.r 1) (.r 0)), qg 3 true (.load none (.r 0)), qg 4 true (.mv (.v 2)), qg 5 true (.len 1 (.r 0)), qg 6 true (.bin .lss (.r 2) (.r 0)), qv 9 (.pick (.r 7) (.r 0) (.c (.b false)))])
  (.cond (.v 9)
   (.reg [q (.mv (.v 2)), q (.mv (.v 4)), q (.mv (.v 6)), q (.iaS 1 (.r 1) (.r 0)), q (.load none (.r 0)), q (.iaS 1 (.r 4) (.r 0)), q (.load none (.r 0)), qv 7 (.mv (.r 0))])
   .skip))
  (.reg [q (.mv (.v 5)), q (.mv (.v 7)), q (.buildSl 1 1 [(.i .i64 0)] [(0, 1, (.r 0))]), ⟨.append 1 8 (.r 2) (.r 0), none, none, .full, (.own 1)⟩, qv 5 (.mv (.r 0))]))))
  (.reg [q (.mv (.v 6)), q (.bin .add (.r 0) (.c (.i .i64 1))), qv 6 (.mv (.r 0))])))
def pf19 : PFunc := ⟨[(some 0), (some 1), (some 2), none, none, none, none, none, none, none], [.v 3],
  (.seq (.reg [qv 3 (.mv (.c .nils))])
  (.seq (.reg [q (.mv (.v 0)), q (.mv (.v 1)), q (.call (.c (.f 17 [] [])) [(.r 1), (.r 0)]), qv 4 (.mv (.r 0))])
  (.seq (.reg [⟨.mv (.c .nils), none, (some 5), .full, (.own 1)⟩])
  (.seq (.seq (.reg [qv 6 (.mv (.c (.i .i64 0)))])
  (.blk 0 (.loop lp19_1)))
  (.seq (.reg [q (.mv (.v 5)), qv 3 (.mv (.r 0))])
  .ret)))))⟩
/-- solenoid/solenoidref8.Find -/
def lp20_1 : PCode :=
  (.seq (.seq (.reg [q (.mv (.v 4)), q (.mv (.v 0)), q (.len 1 (.r 0)), qv 5 (.bin .lss (.r 2) (.r 0))])
  (.cond (.v 5)
   .skip
   (.exit 0)))
  (.seq (.blk 1 (.seq (.reg [q (.mv (.v 0)), q (.mv (.v 4)), q (.iaS 6 (.r 1) (.r 0)), q (.faddr 0 (.r 0)), q (.load none (.r 0)), q (.mv (.v 1)), qv 6 (.bin .eql (.r 1) (.r 0))])
  (.cond (.v 6)
   (.seq (.reg [q (.mv (.v 4)), qv 2 (.mv (.r 0)), qv 3 (.mv (.c (.b true)))])
   .ret)
   .skip)))
  (.reg [q (.mv (.v 4)), q (.bin .add (.r 0) (.c (.i .i64 1))), qv 4 (.mv (.r 0))])))
def pf20 : PFunc := ⟨[(some 0), (some 1), none, none, none, none, none], [.v 2, .v 3],
  (.seq (.reg [qv 2 (.mv (.c (.i .i64 0))), qv 3 (.mv (.c (.b false)))])
  (.seq (.seq (.reg [qv 4 (.mv (.c (.i .i64 0)))])
  (.blk 0 (.loop lp20_1)))
  (.seq (.reg [qv 2 (.mv (.c (.i .i64 0))), qv 3 (.mv (.c (.b false)))])
  .ret)))⟩
/-- solenoid/solenoidref7.Wrap -/
def pf21 : PFunc := ⟨[(some 0), (some 1), none, none, none, none, none, none, none, none, none], [.v 2],
  (.seq (.reg [qv 2 (.mv (.c (.i .i64 0)))])
  (.seq (.seq (.reg [qv 3 (.mv (.v 0))])
  (.blk 0 (.seq (.reg [q (.bin .eql (.v 3) (.c (.i .i64 1))), qv 4 (.mv (.r 0))])
  (.cond (.v 4)
   (.seq (.seq (.reg [q (.mv (.v 1)), qv 5 (.bin .neq (.r 0) (.c (.i .i64 0)))])
   (.cond (.v 5)
    (.seq (.reg [qv 2 (.mv (.c (.i .i64 1)))])
    .ret)
    .skip))
   (.seq (.reg [qv 2 (.mv (.c (.i .i64 0)))])
   .ret))
   (.seq (.reg [q (.bin .eql (.v 3) (.c (.i .i64 2))), qv 6 (.mv (.r 0))])
   (.cond (.v 6)
    (.seq (.reg [q (.mv (.v 1)), q (.conv .u8 (.r 0)), q (.conv .i64 (.r 0)), qv 2 (.mv (.r 0))])
    .ret)
    (.seq (.reg [q (.bin .eql (.v 3) (.c (.i .i64 3))), qv 7 (.mv (.r 0))])
    (.cond (.v 7)
     (.seq (.reg [q (.mv (.v 1)), q (.conv .u16 (.r 0)), q (.conv .i64 (.r 0)), qv 2 (.mv (.r 0))])
     .ret)
     (.seq (.reg [q (.bin .eql (.v 3) (.c (.i .i64 4))), qv 8 (.mv (.r 0))])
     (.cond (.v 8)
      (.seq (.reg [q (.mv (.v 1)), q (.conv .i16 (.r 0)), q (.conv .i64 (.r 0)), qv 2 (.mv (.r 0))])
      .ret)
      (.seq (.reg [q (.bin .eql (.v 3) (.c (.i .i64 5))), qv 9 (.mv (.r 0))])
      (.cond (.v 9)
       (.seq (.reg [q (.mv (.v 1)), q (.conv .i32 (.r 0)), q (.conv .i64 (.r 0)), qv 2 (.mv (.r 0))])
       .ret)
       (.seq (.reg [q (.bin .eql (.v 3) (.c (.i .i64 6))), qv 10 (.mv (.r 0))])
       (.cond (.v 10)
        (.seq (.reg [q (.mv (.v 1)), qv 2 (.mv (.r 0))])
        .ret)
        .skip))))))))))))))
  (.seq (.reg [qv 2 (.mv (.c (.i .i64 0)))])
  .ret)))⟩
/-- solenoid/solenoidref8.Check -/
def lp22_1 : PCode :=
  (.seq (.seq (.reg [q (.mv (.v 5)), q (.mv (.v 4)), qv 13 (.bin .lss (.r 1) (.r 0))])
  (.cond (.v 13)
   .skip
   (.exit 2)))
  (.seq (.blk 3 (.seq (.reg [qn (.mv (.v 0)), qn (.mv (.v 5)), qn (.iaS 7 (.r 1) (.r 0)), qn (.faddr 0 (.r 0)), qn (.load none (.r 0)), qn (.mv (.v 0)), qn (.mv (.v 4)), qn (.iaS 7 (.r 1) (.r 0)), qn (.faddr 0 (.r 0)), qn (.load none (.r 0)), qv 14 (.bin .eql (.r 5) (.r 0))])
  (.cond (.v 14)
   (.seq (.reg [qv 1 (.mv (.c (.i .i64 16)))])
   .ret)
   .skip)))
  (.reg [q (.mv (.v 5)), q (.bin .add (.r 0) (.c (.i .i64 1))), qv 5 (.mv (.r 0))])))
def lp22_2 : PCode :=
  (.seq (.seq (.reg [q (.mv (.v 9)), q (.mv (.v 7)), qv 18 (.bin .lss (.r 1) (.r 0))])
  (.cond (.v 18)
   .skip
   (.exit 4)))
  (.seq (.blk 5 (.seq (.reg [qn (.mv (.v 8)), qn (.mv (.v 9)), qn (.iaS 6 (.r 1) (.r 0)), qn (.faddr 1 (.r 0)), qn (.load none (.r 0)), qn (.mv (.v 8)), qn (.mv (.v 9)), qn (.iaS 6 (.r 1) (.r 0)), qn (.faddr 3 (.r 0)), qn (.load none (.r 0)), qn (.call (.c (.f 21 [] [])) [(.r 5), (.r 0)]), qn (.mv (.v 8)), qn (.mv (.v 9)), qn (.iaS 6 (.r 1) (.r 0)), qn (.faddr 3 (.r 0)), qn (.load none (.r 0)), qv 19 (.bin .neq (.r 5) (.r 0))])
  (.cond (.v 19)
   (.seq (.reg [qv 1 (.mv (.c (.i .i64 11)))])
   .ret)
   .skip)))
  (.reg [q (.mv (.v 9)), q (.bin .add (.r 0) (.c (.i .i64 1))), qv 9 (.mv (.r 0))])))
def lp22_3 : PCode :=
  (.seq (.seq (.reg [q (.mv (.v 4)), q (.mv (.v 0)), q (.len 1 (.r 0)), qv 11 (.bin .lss (.r 2) (.r 0))])
  (.cond (.v 11)
   .skip
   (.exit 0)))
  (.seq (.blk 1 (.seq (.seq (.reg [q (.mv (.v 0)), q (.mv (.v 4)), q (.iaS 7 (.r 1) (.r 0)), q (.faddr 0 (.r 0)), q (.load none (.r 0)), q (.call (.c (.f 29 [] [])) [(.r 0), (.c (.i .i64 12))]), qv 12 (.un .not (.r 0))])
  (.cond (.v 12)
   (.seq (.reg [qv 1 (.mv (.c (.i .i64 16)))])
   .ret)
   .skip))
  (.seq (.seq (.reg [qv 5 (.mv (.c (.i .i64 0)))])
  (.blk 2 (.loop lp22_1)))
  (.seq (.reg [q (.mv (.v 0)), q (.mv (.v 4)), q (.iaS 7 (.r 1) (.r 0)), q (.faddr 1 (.r 0)), q (.load (some 4) (.r 0)), q (.call (.c (.f 30 [] [])) [(.r 0)]), qv 6 (.mv (.r 0))])
  (.seq (.seq (.reg [q (.mv (.v 6)), qv 15 (.bin .neq (.r 0) (.c (.i .i64 0)))])
  (.cond (.v 15)
   (.seq (.reg [q (.mv (.v 6)), qv 1 (.mv (.r 0))])
   .ret)
   .skip))
  (.seq (.reg [q (.mv (.v 0)), q (.mv (.v 4)), q (.iaS 7 (.r 1) (.r 0)), q (.faddr 1 (.r 0)), q (.load (some 4) (.r 0)), q (.call (.c (.f 25 [] [])) [(.r 0)]), qv 7 (.mv (.r 0))])
  (.seq (.reg [q (.mv (.v 2)), q (.mv (.v 7)), q (.bin .add (.r 1) (.r 0)), qv 2 (.mv (.r 0))])
  (.seq (.seq (.reg [q (.mv (.v 2)), qv 16 (.bin .gtr (.r 0) (.c (.i .i64 64)))])
  (.cond (.v 16)
   (.seq (.reg [qv 1 (.mv (.c (.i .i64 4)))])
   .ret)
   .skip))
  (.seq (.seq (.reg [q (.mv (.v 0)), q (.mv (.v 4)), q (.iaS 7 (.r 1) (.r 0)), q (.faddr 6 (.r 0)), q (.load none (.r 0)), q (.len 1 (.r 0)), q (.mv (.v 7)), qv 17 (.bin .neq (.r 1) (.r 0))])
  (.cond (.v 17)
   (.seq (.reg [qv 1 (.mv (.c (.i .i64 1)))])
   .ret)
   .skip))
  (.seq (.reg [q (.mv (.v 0)), q (.mv (.v 4)), q (.iaS 7 (.r 1) (.r 0)), q (.load (some 7) (.r 0)), q (.call (.c (.f 26 [] [])) [(.r 0)]), qv 8 (.mv (.r 0))])
  (.seq (.seq (.reg [qv 9 (.mv (.c (.i .i64 0)))])
  (.blk 4 (.loop lp22_2)))
  (.seq (.reg [q (.mv (.v 0)), q (.mv (.v 4)), q (.iaS 7 (.r 1) (.r 0)), q (.faddr 5 (.r 0)), qv 20 (.load none (.r 0))])
  (.cond (.v 20)
   (.reg [q (.mv (.v 3)), q (.mv (.v 7)), q (.bin .add (.r 1) (.r 0)), qv 3 (.mv (.r 0))])
   .skip)))))))))))))
  (.reg [q (.mv (.v 4)), q (.bin .add (.r 0) (.c (.i .i64 1))), qv 4 (.mv (.r 0))])))
def pf22 : PFunc := ⟨[(some 0), none, none, none, none, none, none, none, none, none, none, none, none, none, none, none, none, none, none, none, none, none], [.v 1],
  (.seq (.reg [qv 1 (.mv (.c (.i .i64 0)))])
  (.seq (.seq (.reg [q (.mv (.v 0)), q (.len 1 (.r 0)), qv 10 (.bin .gtr (.r 0) (.c (.i .i64 12)))])
  (.cond (.v 10)
   (.seq (.reg [qv 1 (.mv (.c (.i .i64 4)))])
   .ret)
   .skip))
  (.seq (.reg [qv 2 (.mv (.c (.i .i64 0))), qv 3 (.mv (.c (.i .i64 0)))])
  (.seq (.seq (.reg [qv 4 (.mv (.c (.i .i64 0)))])
  (.blk 0 (.loop lp22_3)))
  (.seq (.seq (.reg [q (.mv (.v 3)), qv 21 (.bin .gtr (.r 0) (.c (.i .i64 24)))])
  (.cond (.v 21)
   (.seq (.reg [qv 1 (.mv (.c (.i .i64 4)))])
   .ret)
   .skip))
  (.seq (.reg [qv 1 (.mv (.c (.i .i64 0)))])
  .ret))))))⟩
/-- solenoid/solenoidlaw7.Few -/
def lp23_1 : PCode :=
  (.seq (.seq (.reg [q (.mv (.v 3)), q (.faddr 3 (.v 1)), q (.load none (.r 0)), q (.len 1 (.r 0)), qv 4 (.bin .lss (.r 3) (.r 0))])
  (.cond (.v 4)
   .skip
   (.exit 0)))
  (.seq (.blk 1 (.seq (.reg [q (.faddr 3 (.v 1)), q (.load none (.r 0)), q (.mv (.v 3)), q (.iaS 2 (.r 1) (.r 0)), q (.faddr 0 (.r 0)), q (.load none (.r 0)), q (.len 0 (.r 0)), qv 5 (.bin .gtr (.r 0) (.c (.i .i64 20)))])
  (.cond (.v 5)
   (.seq (.reg [qv 2 (.mv (.c (.b false)))])
   .ret)
   .skip)))
  (.reg [q (.mv (.v 3)), q (.bin .add (.r 0) (.c (.i .i64 1))), qv 3 (.mv (.r 0))])))
def pf23 : PFunc := ⟨[(some 0), none, none, none, none, none], [.v 2],
  (.seq (.reg [qv 1 (.box (.v 0)), qv 2 (.mv (.c (.b false)))])
  (.seq (.seq (.reg [qv 3 (.mv (.c (.i .i64 0)))])
  (.blk 0 (.loop lp23_1)))
  (.seq (.reg [q (.faddr 3 (.v 1)), q (.load none (.r 0)), q (.len 1 (.r 0)), q (.bin .leq (.r 0) (.c (.i .i64 9))), qv 2 (.mv (.r 0))])
  .ret)))⟩
/-- solenoid/solenoidlaw7.Good -/
def lp24_1 : PCode :=
  (.seq (.seq (.reg [q (.mv (.v 4)), q (.faddr 2 (.v 1)), q (.load none (.r 0)), q (.call (.c (.f 31 [] [])) [(.r 0), (.c (.i .i64 4))]), q (.bin .add (.c (.i .i64 1)) (.r 0)), qv 9 (.bin .lss (.r 4) (.r 0))])
  (.cond (.v 9)
   .skip
   (.exit 1)))
  (.seq (.blk 2 (.seq (.reg [q (.faddr 1 (.v 1)), q (.load none (.r 0)), q (.mv (.v 4)), q (.bin .add (.r 1) (.r 0)), qv 5 (.mv (.r 0))])
  (.seq (.seq (.reg [q (.mv (.v 4)), q (.faddr 3 (.v 1)), q (.load none (.r 0)), q (.len 1 (.r 0)), qv 10 (.bin .lss (.r 3) (.r 0))])
  (.cond (.v 10)
   (.reg [q (.faddr 3 (.v 1)), q (.load none (.r 0)), q (.mv (.v 4)), q (.iaS 2 (.r 1) (.r 0)), q (.faddr 1 (.r 0)), q (.load none (.r 0)), qv 5 (.mv (.r 0))])
   .skip))
  (.reg [qn (.faddr 3 (.v 3)), qn (.load none (.r 0)), qn (.mv (.v 4)), qn (.bin .add (.c (.i .i64 48)) (.r 0)), qn (.conv .u8 (.r 0)), qn (.buildSl 1 1 [(.i .u8 0)] [(0, 1, (.r 0))]), qn (.b2s (.r 0)), qn (.bin .add (.c (.s [102])) (.r 0)), qn (.mv (.v 5)), qn (.call (.c (.f 31 [] [])) [(.r 0), (.c (.i .i64 6))]), qn (.bin .add (.c (.i .i64 1)) (.r 0)), qn (.build [(.s []), (.i .i64 0)] [(0, 1, (.r 3)), (1, 1, (.r 0))]), qn (.buildSl 1 2 [(.s []), (.i .i64 0)] [(0, 2, (.r 0))]), ⟨.append 2 24 (.r 11) (.r 0), none, none, .full, (.own 2)⟩, q (.faddr 3 (.v 3)), q (.store 1 (.r 0) (.r 1))]))))
  (.reg [q (.mv (.v 4)), q (.bin .add (.r 0) (.c (.i .i64 1))), qv 4 (.mv (.r 0))])))
def pf24 : PFunc := ⟨[(some 0), none, none, none, none, none, none, none, none, none, none], [.cell 2 (some 4)],
  (.seq (.reg [qv 1 (.box (.v 0)), qv 2 (.box (.c (.agg [(.i .i64 0), (.i .i64 0), (.i .i64 0), .nils])))])
  (.seq (.reg [q (.faddr 0 (.v 1)), q (.load none (.r 0)), q (.call (.c (.f 31 [] [])) [(.r 0), (.c (.i .i64 10))]), q (.bin .add (.c (.i .i64 1)) (.r 0)), q (.build [(.i .i64 0), (.i .i64 0), (.i .i64 0), .nils] [(0, 1, (.r 0))]), qv 3 (.box (.c (.agg [(.i .i64 0), (.i .i64 0), (.i .i64 0), .nils]))), q (.store 4 (.r 0) (.r 1))])
  (.seq (.seq (.reg [q (.faddr 0 (.v 3)), qv 6 (.load none (.r 0))])
  (.blk 0 (.seq (.reg [q (.bin .eql (.v 6) (.c (.i .i64 7))), qv 7 (.mv (.r 0))])
  (.cond (.v 7)
   (.reg [qn (.faddr 1 (.v 1)), qn (.load none (.r 0)), qn (.call (.c (.f 31 [] [])) [(.r 0), (.c (.i .i64 6))]), qn (.bin .add (.c (.i .i64 1)) (.r 0)), qn (.faddr 2 (.v 1)), qn (.load none (.r 0)), q (.call (.c (.f 31 [] [])) [(.r 0), (.c (.i .i64 8))]), qn (.bin .add (.c (.i .i64 1)) (.r 0)), qn (.faddr 1 (.v 3)), q (.store 1 (.r 0) (.r 5)), q (.faddr 2 (.v 3)), q (.store 1 (.r 0) (.r 3))])
   (.seq (.reg [q (.bin .eql (.v 6) (.c (.i .i64 8))), qv 8 (.mv (.r 0))])
   (.cond (.v 8)
    (.seq (.reg [qv 4 (.mv (.c (.i .i64 0)))])
    (.blk 1 (.loop lp24_1)))
    .skip))))))
  (.seq (.reg [q (.load (some 4) (.v 3)), q (.store 4 (.v 2) (.r 0))])
  .ret))))⟩
/-- solenoid/solenoidref7.Size -/
def pf25 : PFunc := ⟨[(some 0), none, none, none, none], [.v 2],
  (.seq (.reg [qv 1 (.box (.v 0)), qv 2 (.mv (.c (.i .i64 0)))])
  (.seq (.blk 0 (.seq (.reg [q (.faddr 0 (.v 1)), q (.load none (.r 0)), q (.call (.c (.f 32 [] [])) [(.r 0)]), qv 3 (.mv (.r 0))])
  (.cond (.v 3)
   (.seq (.reg [qv 2 (.mv (.c (.i .i64 1)))])
   .ret)
   (.seq (.reg [q (.faddr 0 (.v 1)), q (.load none (.r 0)), q (.bin .eql (.r 0) (.c (.i .i64 7))), qv 4 (.mv (.r 0))])
   (.cond (.v 4)
    (.seq (.reg [q (.faddr 2 (.v 1)), q (.load none (.r 0)), qv 2 (.mv (.r 0))])
    .ret)
    .skip)))))
  (.seq (.reg [q (.load (some 4) (.v 1)), q (.call (.c (.f 33 [] [])) [(.r 0)]), q (.len 1 (.r 0)), qv 2 (.mv (.r 0))])
  .ret)))⟩
/-- solenoid/solenoidref8.of THAW [(3, 6)] -/
def lp26_1 : PCode :=
  (.seq (.seq (.reg [q (.mv (.v 4)), q (.faddr 1 (.v 1)), q (.faddr 2 (.r 0)), q (.load none (.r 0)), qv 14 (.bin .lss (.r 3) (.r 0))])
  (.cond (.v 14)
   .skip
   (.exit 3)))
  (.seq (.blk 4 (.seq (.reg [qn (.faddr 0 (.v 1)), qn (.load none (.r 0)), qn (.bin .add (.r 0) (.c (.s [91]))), qn (.mv (.v 4)), qn (.call (.c (.f 34 [] [])) [(.r 0)]), qn (.bin .add (.r 2) (.r 0)), qn (.bin .add (.r 0) (.c (.s [93]))), qn (.faddr 1 (.v 1)), qn (.faddr 1 (.r 0)), qn (.load none (.r 0)), qn (.build [(.s []), (.i .i64 0), (.b false), (.i .i64 0), (.i .i64 0), (.i .i64 0)] [(0, 1, (.r 3)), (1, 1, (.r 0))]), ⟨.box (.c (.agg [(.s []), (.i .i64 0), (.b false), (.i .i64 0), (.i .i64 0), (.i .i64 0)])), none, (some 5), .new, .d⟩, q (.store 6 (.r 0) (.r 1))])
  (.seq (.seq (.reg [q (.mv (.v 4)), qv 15 (.bin .eql (.r 0) (.c (.i .i64 0)))])
  (.cond (.v 15)
   (.reg [q (.faddr 1 (.v 1)), q (.faddr 2 (.r 0)), q (.load none (.r 0)), q (.faddr 4 (.v 5)), q (.store 1 (.r 0) (.r 1))])
   .skip))
  (.reg [q (.mv (.v 3)), q (.load (some 6) (.v 5)), q (.buildSl 1 6 [(.s []), (.i .i64 0), (.b false), (.i .i64 0), (.i .i64 0), (.i .i64 0)] [(0, 6, (.r 0))]), ⟨.append 6 56 (.r 2) (.r 0), none, none, .full, (.own 6)⟩, qv 3 (.mv (.r 0))]))))
  (.reg [q (.mv (.v 4)), q (.bin .add (.r 0) (.c (.i .i64 1))), qv 4 (.mv (.r 0))])))
def lp26_2 : PCode :=
  (.seq (.seq (.reg [q (.mv (.v 7)), q (.mv (.v 6)), q (.len 1 (.r 0)), qv 10 (.bin .lss (.r 2) (.r 0))])
  (.cond (.v 10)
   .skip
   (.exit 1)))
  (.seq (.blk 2 (.seq (.reg [qn (.faddr 0 (.v 1)), qn (.load none (.r 0)), qn (.bin .add (.r 0) (.c (.s [46]))), qn (.mv (.v 6)), qn (.mv (.v 7)), qn (.iaS 2 (.r 1) (.r 0)), qn (.faddr 0 (.r 0)), qn (.load none (.r 0)), qn (.bin .add (.r 5) (.r 0)), qn (.mv (.v 6)), qn (.mv (.v 7)), qn (.iaS 2 (.r 1) (.r 0)), qn (.faddr 1 (.r 0)), qn (.load none (.r 0)), qn (.build [(.s []), (.i .i64 0), (.b false), (.i .i64 0), (.i .i64 0), (.i .i64 0)] [(0, 1, (.r 5)), (1, 1, (.r 0))]), ⟨.box (.c (.agg [(.s []), (.i .i64 0), (.b false), (.i .i64 0), (.i .i64 0), (.i .i64 0)])), none, (some 8), .new, .d⟩, q (.store 6 (.r 0) (.r 1))])
  (.seq (.seq (.reg [q (.mv (.v 7)), q (.bin .eql (.r 0) (.c (.i .i64 0))), q (.mv (.r 0)), qg 0 true (.faddr 1 (.v 1)), qg 1 true (.faddr 0 (.r 0)), qg 2 true (.load none (.r 0)), qg 3 true (.bin .neq (.r 0) (.c (.i .i64 8))), qv 11 (.pick (.r 4) (.r 0) (.c (.b false)))])
  (.cond (.v 11)
   (.reg [q (.faddr 1 (.v 1)), q (.faddr 0 (.r 0)), q (.load none (.r 0)), q (.faddr 5 (.v 8)), q (.store 1 (.r 0) (.r 1))])
   .skip))
  (.reg [q (.mv (.v 3)), q (.load (some 6) (.v 8)), q (.buildSl 1 6 [(.s []), (.i .i64 0), (.b false), (.i .i64 0), (.i .i64 0), (.i .i64 0)] [(0, 6, (.r 0))]), ⟨.append 6 56 (.r 2) (.r 0), none, none, .full, (.own 6)⟩, qv 3 (.mv (.r 0))]))))
  (.reg [q (.mv (.v 7)), q (.bin .add (.r 0) (.c (.i .i64 1))), qv 7 (.mv (.r 0))])))
def lp26_3 : PCode :=
  (.seq (.seq (.reg [q (.mv (.v 9)), q (.mv (.v 3)), q (.len 1 (.r 0)), qv 16 (.bin .lss (.r 2) (.r 0))])
  (.cond (.v 16)
   .skip
   (.exit 5)))
  (.seq (.blk 6 (.seq (.reg [q (.mv (.v 3)), q (.mv (.v 9)), q (.faddr 5 (.v 1)), q (.load none (.r 0)), q (.iaS 6 (.r 3) (.r 2)), q (.faddr 2 (.r 0)), q (.store 1 (.r 0) (.r 2))])
  (.seq (.reg [q (.mv (.v 9)), q (.faddr 6 (.v 1)), q (.load none (.r 0)), q (.len 1 (.r 0)), qv 17 (.bin .lss (.r 3) (.r 0))])
  (.cond (.v 17)
   (.reg [q (.mv (.v 3)), q (.mv (.v 9)), q (.faddr 6 (.v 1)), q (.load none (.r 0)), q (.mv (.v 9)), q (.iaS 1 (.r 1) (.r 0)), q (.load none (.r 0)), q (.iaS 6 (.r 6) (.r 5)), q (.faddr 3 (.r 0)), q (.store 1 (.r 0) (.r 2))])
   .skip))))
  (.reg [q (.mv (.v 9)), q (.bin .add (.r 0) (.c (.i .i64 1))), qv 9 (.mv (.r 0))])))
def pf26 : PFunc := ⟨[(some 0), none, none, none, none, none, none, none, none, none, none, none, none, none, none, none, none, none], [.v 2],
  (.seq (.reg [qv 1 (.box (.v 0)), qv 2 (.mv (.c .nils))])
  (.seq (.reg [⟨.mv (.c .nils), none, (some 3), .full, (.own 6)⟩])
  (.seq (.blk 0 (.seq (.reg [q (.faddr 1 (.v 1)), q (.faddr 0 (.r 0)), q (.load none (.r 0)), q (.call (.c (.f 32 [] [])) [(.r 0)]), qv 12 (.mv (.r 0))])
  (.cond (.v 12)
   (.reg [q (.mv (.v 3)), q (.faddr 0 (.v 1)), q (.load none (.r 0)), q (.faddr 1 (.v 1)), q (.faddr 0 (.r 0)), q (.load none (.r 0)), q (.build [(.s []), (.i .i64 0), (.b false), (.i .i64 0), (.i .i64 0), (.i .i64 0)] [(0, 1, (.r 3)), (1, 1, (.r 0))]), q (.buildSl 1 6 [(.s []), (.i .i64 0), (.b false), (.i .i64 0), (.i .i64 0), (.i .i64 0)] [(0, 6, (.r 0))]), ⟨.append 6 56 (.r 7) (.r 0), none, none, .full, (.own 6)⟩, qv 3 (.mv (.r 0))])
   (.seq (.reg [q (.faddr 1 (.v 1)), q (.faddr 0 (.r 0)), q (.load none (.r 0)), q (.bin .eql (.r 0) (.c (.i .i64 7))), qv 13 (.mv (.r 0))])
   (.cond (.v 13)
    (.seq (.reg [qv 4 (.mv (.c (.i .i64 0)))])
    (.blk 3 (.loop lp26_1)))
    (.seq (.reg [q (.faddr 1 (.v 1)), q (.load (some 4) (.r 0)), q (.call (.c (.f 33 [] [])) [(.r 0)]), qv 6 (.mv (.r 0))])
    (.seq (.reg [qv 7 (.mv (.c (.i .i64 0)))])
    (.blk 1 (.loop lp26_2)))))))))
  (.thaw 3 (.seq (.seq (.reg [qv 9 (.mv (.c (.i .i64 0)))])
  (.blk 5 (.loop lp26_3)))
  (.seq (.reg [q (.mv (.v 3)), qv 2 (.mv (.r 0))])
  .ret))))))⟩
/-- solenoid/solenoidref8.Begin -/
def lp27_1 : PCode :=
  (.seq (.seq (.reg [q (.mv (.v 3)), q (.mv (.v 0)), q (.len 1 (.r 0)), qv 4 (.bin .lss (.r 2) (.r 0))])
  (.cond (.v 4)
   .skip
   (.exit 0)))
  (.seq (.blk 1 (.reg [q (.mv (.v 2)), q (.mv (.v 0)), q (.mv (.v 3)), q (.iaS 6 (.r 1) (.r 0)), q (.faddr 3 (.r 0)), q (.load none (.r 0)), q (.buildSl 1 1 [(.i .i64 0)] [(0, 1, (.r 0))]), ⟨.append 1 8 (.r 6) (.r 0), none, none, .full, (.own 1)⟩, qv 2 (.mv (.r 0))]))
  (.reg [q (.mv (.v 3)), q (.bin .add (.r 0) (.c (.i .i64 1))), qv 3 (.mv (.r 0))])))
def pf27 : PFunc := ⟨[(some 0), none, none, none, none], [.v 1],
  (.seq (.reg [qv 1 (.mv (.c .nils))])
  (.seq (.reg [⟨.mv (.c .nils), none, (some 2), .full, (.own 1)⟩])
  (.seq (.seq (.reg [qv 3 (.mv (.c (.i .i64 0)))])
  (.blk 0 (.loop lp27_1)))
  (.seq (.reg [q (.mv (.v 2)), qv 1 (.mv (.r 0))])
  .ret))))⟩
/-- solenoid/migrate.places -/
def lp28_1 : PCode :=
  (.seq (.reg [qv 10 (.bin .lss (.v 9) (.v 8))])
  (.seq (.cond (.v 10)
   .skip
   (.exit 0))
  (.seq (.blk 1 (.seq (.reg [q (.mv (.v 9)), q (.iaS 6 (.v 7) (.v 9)), q (.load (some 6) (.r 0)), qv 4 (.box (.c (.agg [(.s []), (.i .i64 0), (.b false), (.i .i64 0), (.i .i64 0), (.i .i64 0)]))), qv 3 (.mv (.r 3)), q (.store 6 (.r 1) (.r 2))])
  (.seq (.reg [q (.faddr 0 (.v 4)), q (.load none (.r 0)), q (.faddr 1 (.v 4)), q (.load none (.r 0)), q (.build [(.s []), (.i .i64 0)] [(0, 1, (.r 2)), (1, 1, (.r 0))]), qv 5 (.box (.c (.agg [(.s []), (.i .i64 0)]))), q (.store 2 (.r 0) (.r 1))])
  (.seq (.reg [q (.mv (.v 2)), q (.load (some 2) (.v 5)), q (.look (.st [1, 0]) (.i .i64 0) true (.r 1) (.r 0)), q (.mv (.r 0)), q (.ext 0 (.r 0)), q (.ext 1 (.r 1)), q (.mv (.r 1)), qv 6 (.mv (.r 1))])
  (.seq (.reg [q (.mv (.v 6)), qv 11 (.un .not (.r 0))])
  (.cond (.v 11)
   (.reg [q (.mv (.v 2)), q (.load (some 2) (.v 5)), q (.mv (.v 3)), q (.mupd (.st [1, 0]) (.r 2) (.r 1) (.r 0))])
   .skip))))))
  (.reg [q (.bin .add (.v 9) (.c (.i .i64 1))), qv 9 (.mv (.r 0))]))))
def pf28 : PFunc := ⟨[(some 0), none, none, none, none, none, none, none, none, none, none, none], [.v 1],
  (.seq (.reg [qv 1 (.mv (.c .nilm))])
  (.seq (.reg [q (.mkmap), qv 2 (.mv (.r 0))])
  (.seq (.seq (.reg [qv 7 (.mv (.v 0)), qv 8 (.len 1 (.r 0)), qv 9 (.mv (.c (.i .i64 0)))])
  (.blk 0 (.loop lp28_1)))
  (.seq (.reg [q (.mv (.v 2)), qv 1 (.mv (.r 0))])
  .ret))))⟩
/-- solenoid/solenoidref7.Name -/
def lp29_1 : PCode :=
  (.seq (.seq (.reg [q (.mv (.v 3)), q (.mv (.v 0)), q (.len 0 (.r 0)), qv 5 (.bin .lss (.r 2) (.r 0))])
  (.cond (.v 5)
   .skip
   (.exit 0)))
  (.seq (.blk 1 (.seq (.reg [q (.mv (.v 0)), q (.mv (.v 3)), q (.idxS (.r 1) (.r 0)), q (.bin .lss (.r 0) (.c (.i .u8 97))), q (.mv (.r 0)), qg 0 false (.mv (.v 0)), qg 1 false (.mv (.v 3)), qg 2 false (.idxS (.r 1) (.r 0)), qg 3 false (.bin .gtr (.r 0) (.c (.i .u8 122))), q (.pick (.r 4) (.c (.b true)) (.r 0)), q (.mv (.r 0)), qg 0 true (.mv (.v 0)), qg 1 true (.mv (.v 3)), qg 2 true (.idxS (.r 1) (.r 0)), qg 3 true (.bin .lss (.r 0) (.c (.i .u8 48))), qg 4 true (.mv (.r 0)), qg 0 false (.mv (.v 0)), qg 1 false (.mv (.v 3)), qg 2 false (.idxS (.r 1) (.r 0)), qg 3 false (.bin .gtr (.r 0) (.c (.i .u8 57))), qg 9 true (.pick (.r 4) (.c (.b true)) (.r 0)), qv 6 (.pick (.r 10) (.r 0) (.c (.b false)))])
  (.cond (.v 6)
   (.seq (.reg [qv 2 (.mv (.c (.b false)))])
   .ret)
   .skip)))
  (.reg [q (.mv (.v 3)), q (.bin .add (.r 0) (.c (.i .i64 1))), qv 3 (.mv (.r 0))])))
def pf29 : PFunc := ⟨[(some 0), (some 1), none, none, none, none, none], [.v 2],
  (.seq (.reg [qv 2 (.mv (.c (.b false)))])
  (.seq (.seq (.reg [q (.mv (.v 0)), q (.len 0 (.r 0)), q (.bin .lss (.r 0) (.c (.i .i64 1))), q (.mv (.r 0)), qg 0 false (.mv (.v 0)), qg 1 false (.len 0 (.r 0)), qg 2 false (.mv (.v 1)), qg 3 false (.bin .gtr (.r 1) (.r 0)), q (.pick (.r 4) (.c (.b true)) (.r 0)), q (.mv (.r 0)), qg 0 false (.mv (.v 0)), qg 1 false (.idxS (.r 0) (.c (.i .i64 0))), qg 2 false (.bin .lss (.r 0) (.c (.i .u8 97))), q (.pick (.r 3) (.c (.b true)) (.r 0)), q (.mv (.r 0)), qg 0 false (.mv (.v 0)), qg 1 false (.idxS (.r 0) (.c (.i .i64 0))), qg 2 false (.bin .gtr (.r 0) (.c (.i .u8 122))), qv 4 (.pick (.r 3) (.c (.b true)) (.r 0))])
  (.cond (.v 4)
   (.seq (.reg [qv 2 (.mv (.c (.b false)))])
   .ret)
   .skip))
  (.seq (.seq (.reg [qv 3 (.mv (.c (.i .i64 0)))])
  (.blk 0 (.loop lp29_1)))
  (.seq (.reg [qv 2 (.mv (.c (.b true)))])
  .ret))))⟩
/-- solenoid/solenoidref7.Check -/
def lp30_1 : PCode :=
  (.seq (.seq (.reg [q (.mv (.v 4)), q (.mv (.v 3)), qv 14 (.bin .lss (.r 1) (.r 0))])
  (.cond (.v 14)
   .skip
   (.exit 3)))
  (.seq (.blk 4 (.seq (.reg [qn (.faddr 3 (.v 1)), qn (.load none (.r 0)), qn (.mv (.v 4)), qn (.iaS 2 (.r 1) (.r 0)), qn (.faddr 0 (.r 0)), qn (.load none (.r 0)), qn (.faddr 3 (.v 1)), qn (.load none (.r 0)), qn (.mv (.v 3)), qn (.iaS 2 (.r 1) (.r 0)), qn (.faddr 0 (.r 0)), qn (.load none (.r 0)), qv 15 (.bin .eql (.r 6) (.r 0))])
  (.cond (.v 15)
   (.seq (.reg [qv 2 (.mv (.c (.i .i64 16)))])
   .ret)
   .skip)))
  (.reg [q (.mv (.v 4)), q (.bin .add (.r 0) (.c (.i .i64 1))), qv 4 (.mv (.r 0))])))
def lp30_2 : PCode :=
  (.seq (.seq (.reg [q (.mv (.v 3)), q (.faddr 3 (.v 1)), q (.load none (.r 0)), q (.len 1 (.r 0)), qv 12 (.bin .lss (.r 3) (.r 0))])
  (.cond (.v 12)
   .skip
   (.exit 1)))
  (.seq (.blk 2 (.seq (.seq (.reg [q (.faddr 3 (.v 1)), q (.load none (.r 0)), q (.mv (.v 3)), q (.iaS 2 (.r 1) (.r 0)), q (.faddr 0 (.r 0)), q (.load none (.r 0)), q (.call (.c (.f 29 [] [])) [(.r 0), (.c (.i .i64 8))]), qv 13 (.un .not (.r 0))])
  (.cond (.v 13)
   (.seq (.reg [qv 2 (.mv (.c (.i .i64 16)))])
   .ret)
   .skip))
  (.seq (.seq (.reg [qv 4 (.mv (.c (.i .i64 0)))])
  (.blk 3 (.loop lp30_1)))
  (.seq (.reg [q (.faddr 3 (.v 1)), q (.load none (.r 0)), q (.mv (.v 3)), q (.iaS 2 (.r 1) (.r 0)), q (.faddr 1 (.r 0)), q (.load none (.r 0)), q (.call (.c (.f 32 [] [])) [(.r 0)]), qv 16 (.un .not (.r 0))])
  (.cond (.v 16)
   (.seq (.reg [qv 2 (.mv (.c (.i .i64 3)))])
   .ret)
   .skip)))))
  (.reg [q (.mv (.v 3)), q (.bin .add (.r 0) (.c (.i .i64 1))), qv 3 (.mv (.r 0))])))
def pf30 : PFunc := ⟨[(some 0), none, none, none, none, none, none, none, none, none, none, none, none, none, none, none, none], [.v 2],
  (.seq (.reg [qv 1 (.box (.v 0)), qv 2 (.mv (.c (.i .i64 0)))])
  (.seq (.blk 0 (.seq (.reg [q (.faddr 0 (.v 1)), q (.load none (.r 0)), q (.bin .lss (.r 0) (.c (.i .i64 1))), q (.mv (.r 0)), qg 0 false (.faddr 0 (.v 1)), qg 1 false (.load none (.r 0)), qg 2 false (.bin .gtr (.r 0) (.c (.i .i64 10))), q (.pick (.r 3) (.c (.b true)) (.r 0)), qv 5 (.mv (.r 0))])
  (.cond (.v 5)
   (.seq (.reg [qv 2 (.mv (.c (.i .i64 3)))])
   .ret)
   (.seq (.reg [q (.faddr 0 (.v 1)), q (.load none (.r 0)), q (.bin .neq (.r 0) (.c (.i .i64 7))), q (.mv (.r 0)), qg 0 true (.faddr 1 (.v 1)), qg 1 true (.load none (.r 0)), qg 2 true (.bin .neq (.r 0) (.c (.i .i64 0))), qg 3 true (.mv (.r 0)), qg 0 false (.faddr 2 (.v 1)), qg 1 false (.load none (.r 0)), qg 2 false (.bin .neq (.r 0) (.c (.i .i64 0))), qg 7 true (.pick (.r 3) (.c (.b true)) (.r 0)), q (.pick (.r 8) (.r 0) (.c (.b false))), qv 6 (.mv (.r 0))])
   (.cond (.v 6)
    (.seq (.reg [qv 2 (.mv (.c (.i .i64 1)))])
    .ret)
    (.seq (.reg [q (.faddr 0 (.v 1)), q (.load none (.r 0)), q (.bin .neq (.r 0) (.c (.i .i64 8))), q (.mv (.r 0)), qg 0 true (.faddr 3 (.v 1)), qg 1 true (.load none (.r 0)), qg 2 true (.len 1 (.r 0)), qg 3 true (.bin .gtr (.r 0) (.c (.i .i64 0))), q (.pick (.r 4) (.r 0) (.c (.b false))), qv 7 (.mv (.r 0))])
    (.cond (.v 7)
     (.seq (.reg [qv 2 (.mv (.c (.i .i64 1)))])
     .ret)
     (.seq (.reg [q (.faddr 0 (.v 1)), q (.load none (.r 0)), q (.bin .eql (.r 0) (.c (.i .i64 7))), q (.mv (.r 0)), qg 0 true (.faddr 1 (.v 1)), qg 1 true (.load none (.r 0)), qg 2 true (.call (.c (.f 32 [] [])) [(.r 0)]), qg 3 true (.un .not (.r 0)), q (.pick (.r 4) (.r 0) (.c (.b false))), qv 8 (.mv (.r 0))])
     (.cond (.v 8)
      (.seq (.reg [qv 2 (.mv (.c (.i .i64 3)))])
      .ret)
      (.seq (.reg [q (.faddr 0 (.v 1)), q (.load none (.r 0)), q (.bin .eql (.r 0) (.c (.i .i64 7))), q (.mv (.r 0)), qg 0 true (.faddr 2 (.v 1)), qg 1 true (.load none (.r 0)), qg 2 true (.bin .lss (.r 0) (.c (.i .i64 1))), qg 3 true (.mv (.r 0)), qg 0 false (.faddr 2 (.v 1)), qg 1 false (.load none (.r 0)), qg 2 false (.bin .gtr (.r 0) (.c (.i .i64 32))), qg 7 true (.pick (.r 3) (.c (.b true)) (.r 0)), q (.pick (.r 8) (.r 0) (.c (.b false))), qv 9 (.mv (.r 0))])
      (.cond (.v 9)
       (.seq (.reg [qv 2 (.mv (.c (.i .i64 1)))])
       .ret)
       (.seq (.reg [q (.faddr 0 (.v 1)), q (.load none (.r 0)), q (.bin .neq (.r 0) (.c (.i .i64 8))), qv 10 (.mv (.r 0))])
       (.cond (.v 10)
        (.seq (.reg [qv 2 (.mv (.c (.i .i64 0)))])
        .ret)
        (.seq (.reg [q (.faddr 3 (.v 1)), q (.load none (.r 0)), q (.len 1 (.r 0)), q (.bin .lss (.r 0) (.c (.i .i64 1))), q (.mv (.r 0)), qg 0 false (.faddr 3 (.v 1)), qg 1 false (.load none (.r 0)), qg 2 false (.len 1 (.r 0)), qg 3 false (.bin .gtr (.r 0) (.c (.i .i64 6))), q (.pick (.r 4) (.c (.b true)) (.r 0)), qv 11 (.mv (.r 0))])
        (.cond (.v 11)
         (.seq (.reg [qv 2 (.mv (.c (.i .i64 1)))])
         .ret)
         .skip)))))))))))))))
  (.seq (.seq (.reg [qv 3 (.mv (.c (.i .i64 0)))])
  (.blk 1 (.loop lp30_2)))
  (.seq (.reg [qv 2 (.mv (.c (.i .i64 0)))])
  .ret))))⟩
/-- solenoid/solenoidlaw7.within -/
def pf31 : PFunc := ⟨[(some 0), (some 1), none, none, none], [.v 2],
  (.seq (.reg [qv 2 (.mv (.c (.i .i64 0)))])
  (.seq (.reg [q (.mv (.v 0)), q (.mv (.v 1)), q (.bin .rem (.r 1) (.r 0)), qv 3 (.mv (.r 0))])
  (.seq (.seq (.reg [q (.mv (.v 3)), qv 4 (.bin .lss (.r 0) (.c (.i .i64 0)))])
  (.cond (.v 4)
   (.reg [q (.mv (.v 3)), q (.mv (.v 1)), q (.bin .add (.r 1) (.r 0)), qv 3 (.mv (.r 0))])
   .skip))
  (.seq (.reg [q (.mv (.v 3)), qv 2 (.mv (.r 0))])
  .ret))))⟩
/-- solenoid/solenoidref7.Value -/
def pf32 : PFunc := ⟨[(some 0), none], [.v 1],
  (.seq (.reg [qv 1 (.mv (.c (.b false)))])
  (.seq (.reg [q (.mv (.v 0)), q (.bin .geq (.r 0) (.c (.i .i64 1))), q (.mv (.r 0)), qg 0 true (.mv (.v 0)), qg 1 true (.bin .leq (.r 0) (.c (.i .i64 6))), q (.pick (.r 2) (.r 0) (.c (.b false))), qv 1 (.mv (.r 0))])
  .ret))⟩
/-- solenoid/solenoidref7.Fields -/
def pf33 : PFunc := ⟨[(some 0), none, none, none, none, none, none], [.v 2],
  (.seq (.reg [qv 1 (.box (.v 0)), qv 2 (.mv (.c .nils))])
  (.seq (.seq (.reg [q (.faddr 0 (.v 1)), qv 3 (.load none (.r 0))])
  (.blk 0 (.seq (.reg [q (.bin .eql (.v 3) (.c (.i .i64 8))), qv 4 (.mv (.r 0))])
  (.cond (.v 4)
   (.seq (.reg [q (.buildSl 0 2 [(.s []), (.i .i64 0)] []), q (.faddr 3 (.v 1)), q (.load none (.r 0)), q (.append 2 24 (.r 2) (.r 0)), qv 2 (.mv (.r 0))])
   .ret)
   (.seq (.reg [q (.bin .eql (.v 3) (.c (.i .i64 9))), qv 5 (.mv (.r 0))])
   (.cond (.v 5)
    (.seq (.reg [q (.build [(.s []), (.i .i64 0)] [(0, 1, (.c (.s [73, 78]))), (1, 1, (.c (.i .i64 1)))]), q (.build [(.s []), (.i .i64 0)] [(0, 1, (.c (.s [80, 84]))), (1, 1, (.c (.i .i64 6)))]), q (.build [(.s []), (.i .i64 0)] [(0, 1, (.c (.s [81]))), (1, 1, (.c (.i .i64 1)))]), q (.build [(.s []), (.i .i64 0)] [(0, 1, (.c (.s [69, 84]))), (1, 1, (.c (.i .i64 6)))]), q (.build [(.s []), (.i .i64 0)] [(0, 1, (.c (.s [84, 48]))), (1, 1, (.c (.i .i64 6)))]), q (.build [(.s []), (.i .i64 0)] [(0, 1, (.c (.s [82, 85, 78]))), (1, 1, (.c (.i .i64 1)))]), q (.buildSl 6 2 [(.s []), (.i .i64 0)] [(0, 2, (.r 5)), (2, 2, (.r 4)), (4, 2, (.r 3)), (6, 2, (.r 2)), (8, 2, (.r 1)), (10, 2, (.r 0))]), qv 2 (.mv (.r 0))])
    .ret)
    (.seq (.reg [q (.bin .eql (.v 3) (.c (.i .i64 10))), qv 6 (.mv (.r 0))])
    (.cond (.v 6)
     (.seq (.reg [q (.build [(.s []), (.i .i64 0)] [(0, 1, (.c (.s [67, 85]))), (1, 1, (.c (.i .i64 1)))]), q (.build [(.s []), (.i .i64 0)] [(0, 1, (.c (.s [82]))), (1, 1, (.c (.i .i64 1)))]), q (.build [(.s []), (.i .i64 0)] [(0, 1, (.c (.s [80, 86]))), (1, 1, (.c (.i .i64 5)))]), q (.build [(.s []), (.i .i64 0)] [(0, 1, (.c (.s [81]))), (1, 1, (.c (.i .i64 1)))]), q (.build [(.s []), (.i .i64 0)] [(0, 1, (.c (.s [67, 86]))), (1, 1, (.c (.i .i64 5)))]), q (.build [(.s []), (.i .i64 0)] [(0, 1, (.c (.s [79, 76, 68]))), (1, 1, (.c (.i .i64 1)))]), q (.buildSl 6 2 [(.s []), (.i .i64 0)] [(0, 2, (.r 5)), (2, 2, (.r 4)), (4, 2, (.r 3)), (6, 2, (.r 2)), (8, 2, (.r 1)), (10, 2, (.r 0))]), qv 2 (.mv (.r 0))])
     .ret)
     .skip))))))))
  (.seq (.reg [qv 2 (.mv (.c .nils))])
  .ret)))⟩
/-- solenoid/solenoidref8.digits -/
def pf34 : PFunc := ⟨[(some 0), none, none], [.v 1],
  (.seq (.reg [qv 1 (.mv (.c (.s [])))])
  (.seq (.seq (.reg [q (.mv (.v 0)), qv 2 (.bin .geq (.r 0) (.c (.i .i64 10)))])
  (.cond (.v 2)
   (.seq (.reg [q (.mv (.v 0)), q (.bin .quo (.r 0) (.c (.i .i64 10))), q (.call (.c (.f 34 [] [])) [(.r 0)]), q (.mv (.v 0)), q (.bin .rem (.r 0) (.c (.i .i64 10))), q (.call (.c (.f 34 [] [])) [(.r 0)]), q (.bin .add (.r 3) (.r 0)), qv 1 (.mv (.r 0))])
   .ret)
   .skip))
  (.seq (.reg [q (.mv (.v 0)), q (.bin .add (.c (.i .i64 48)) (.r 0)), q (.conv .u8 (.r 0)), q (.buildSl 1 1 [(.i .u8 0)] [(0, 1, (.r 0))]), q (.b2s (.r 0)), qv 1 (.mv (.r 0))])
  .ret)))⟩
def pfs : Nat → Option PFunc
  | 2 => some pf2
  | 3 => some pf3
  | 4 => some pf4
  | 5 => some pf5
  | 6 => some pf6
  | 7 => some pf7
  | 8 => some pf8
  | 9 => some pf9
  | 10 => some pf10
  | 11 => some pf11
  | 12 => some pf12
  | 13 => some pf13
  | 14 => some pf14
  | 15 => some pf15
  | 16 => some pf16
  | 17 => some pf17
  | 18 => some pf18
  | 19 => some pf19
  | 20 => some pf20
  | 21 => some pf21
  | 22 => some pf22
  | 23 => some pf23
  | 24 => some pf24
  | 25 => some pf25
  | 26 => some pf26
  | 27 => some pf27
  | 28 => some pf28
  | 29 => some pf29
  | 30 => some pf30
  | 31 => some pf31
  | 32 => some pf32
  | 33 => some pf33
  | 34 => some pf34
  | _ => none
end Go.Av
