/- CheckOrder at n is CheckOrder at n modulo 5. -/
import Derived.Test.YtjbcohbjpgdhmaaDoorFns
import Derived.Test.YtjbcohbjpgdhmaaDoorAvEq
set_option linter.unusedVariables false
set_option linter.unusedSimpArgs false
set_option linter.unusedSectionVars false
namespace Go.Av
theorem within5 (lf d : Nat) (n : Int) (h : AHeap) : acall ofns lf (d + 1) 5 [.i .i64 n, .i .i64 5] h = some (.i .i64 (n % 5), h) := by
  have h1 : n.tmod 5 < 5 := Int.tmod_lt_of_pos n (by omega)
  have h2 : -5 < n.tmod 5 := by
    have := Int.tmod_lt_of_pos (-n) (by omega : (0 : Int) < 5)
    rw [Int.neg_tmod] at this
    omega
  have h3 : n % 5 = if n.tmod 5 < 0 then n.tmod 5 + 5 else n.tmod 5 := by
    have e := Int.mul_tdiv_add_tmod n 5
    split <;> omega
  have hw : awrap .i64 (n.tmod 5 + 5) = n.tmod 5 + 5 := by
    rw [awrap_eq]; simp [IntKind.wrap, IntKind.signed, IntKind.bits]; omega
  show callWith (acall ofns lf d) lf af5 _ h = _
  by_cases hn : n.tmod 5 < 0
  · rw [h3, if_pos hn]
    simp [callWith, af5, den, runOps, wanted, stepBar, stepOp, aop, inits, resAll, result, AO.ev, nth, setVar, setn, aBin, ret1, kEq, kCode, aInt, resOf, hn, hw]
  · rw [h3, if_neg hn]
    simp [callWith, af5, den, runOps, wanted, stepBar, stepOp, aop, inits, resAll, result, AO.ev, nth, setVar, setn, aBin, ret1, kEq, kCode, aInt, resOf, hn, hw]
theorem mod5 (n : Int) : n % 5 % 5 = n % 5 := by omega
theorem order_mod (lf d : Nat) (f : Bool) (n : Int) (h : AHeap) : acall ofns lf (d + 2) 3 [.b f, .i .i64 n] h = acall ofns lf (d + 2) 3 [.b f, .i .i64 (n % 5)] h := by
  show callWith (acall ofns lf (d + 1)) lf af3 _ h = callWith (acall ofns lf (d + 1)) lf af3 _ h
  have hw : ∀ n h, acall ofns lf (d + 1) 5 [.i .i64 n, .i .i64 5] h = some (.i .i64 (n % 5), h) := fun n h => within5 lf d n h
  generalize acall ofns lf (d + 1) = call at *
  obtain ⟨R, hR⟩ : ∃ R, af3.body = (.seq (.reg [⟨.mv (.c (.b false)), none, (some 2), .full⟩]) (.seq (.seq (.reg [⟨.call (.c (.f 4 [] [])) [], none, none, .full⟩, ⟨.un .not (.r 0), none, (some 9), .full⟩])
        (.cond (.v 9) (.seq (.reg [⟨.mv (.c (.b false)), none, (some 2), .full⟩]) .ret) .skip))
        (.seq (.reg [⟨.mv (.v 1), none, none, .full⟩, ⟨.call (.c (.f 5 [] [])) [(.r 0), (.c (.i .i64 5))], none, none, .full⟩, ⟨.mv (.r 0), none, (some 1), .full⟩]) R))) := ⟨_, rfl⟩
  have hi : af3.ini = [(some 0), (some 1), none, none, none, none, none, none, none, none, none, none, none] := rfl
  have hr : af3.res = [.v 2] := rfl
  unfold callWith
  rw [hR, hi, hr]
  clear hR hi hr
  cases hk : call 4 [] h with
  | none => simp [den, runOps, wanted, stepBar, stepOp, aop, inits, AO.ev, nth, setVar, setn, ret1, evs, hk]
  | some p =>
    obtain ⟨v, h1⟩ := p
    cases hu : aUn .not v with
    | none => simp [den, runOps, wanted, stepBar, stepOp, aop, inits, AO.ev, nth, setVar, setn, ret1, evs, hk, hu]
    | some u =>
      cases u with
      | b x =>
        cases x with
        | true => simp [den, runOps, wanted, stepBar, stepOp, aop, inits, resAll, resOf, AO.ev, nth, setVar, setn, ret1, evs, hk, hu]
        | false => simp [den, runOps, wanted, stepBar, stepOp, aop, inits, AO.ev, nth, setVar, setn, ret1, evs, hk, hu, hw]
      | _ => simp [den, runOps, wanted, stepBar, stepOp, aop, inits, AO.ev, nth, setVar, setn, ret1, evs, hk, hu]
end Go.Av
