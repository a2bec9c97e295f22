/- The call of CheckOrder, in the model. -/
import Derived.Test.YtjbcohbjpgdhmaaDoorTab
import Derived.Test.YtjbcohbjpgdhmaaDoorMod
import Derived.Test.YtjbcohbjpgdhmaaDoorEval
import Derived.Test.YtjbcohbjpgdhmaaDoorAvEnd
set_option linter.unusedVariables false
set_option linter.unusedSimpArgs false
set_option linter.unusedSectionVars false
namespace Go.Av
open Go.Proofs Go.RowKit
def m3 : Mp := fun b => if b < 3 then some ⟨b, 0, 0, false⟩ else none
theorem h3_get (b : Nat) (hb : b < 3) : h3.get b = some .dead := by
  unfold h3
  simp only [AHeap.get_push]
  have n1 : ((AHeap.empty.push .dead).push .dead).n = 2 := rfl
  have n2 : (AHeap.empty.push .dead).n = 1 := rfl
  have n3 : AHeap.empty.n = 0 := rfl
  rw [n1, n2, n3]
  by_cases h2 : b = 2
  · rw [if_pos h2]
  · rw [if_neg h2]
    by_cases h1 : b = 1
    · rw [if_pos h1]
    · rw [if_neg h1, if_pos (by omega)]
theorem m3_some {b : Nat} {q : BI} (h : m3 b = some q) : b < 3 ∧ q = ⟨b, 0, 0, false⟩ := by
  unfold m3 at h
  split at h
  · rename_i hb; injection h with h; exact ⟨hb, h.symm⟩
  · cases h
theorem hr_h3 {P : Program} (hg : P.globals.size = 3) {w : World} (hw : 3 ≤ w.heap.size) : HR P m3 h3 w := by
  refine ⟨fun b q hb => ?_, fun b c qb qc ob oc hb hc hne hgb hgc hown => ?_, fun g hgg => ?_, fun b q o hb hgo p hp => ?_⟩
  · obtain ⟨h1, rfl⟩ := m3_some hb
    exact ⟨h1, by show b < w.heap.size; omega, .dead, h3_get b h1, .dead⟩
  · obtain ⟨h1, rfl⟩ := m3_some hb
    rw [h3_get b h1] at hgb
    injection hgb with hgb; subst hgb
    exact hown.elim
  · unfold m3; rw [if_pos (by omega)]
  · obtain ⟨h1, rfl⟩ := m3_some hb
    rw [h3_get b h1] at hgo
    injection hgo with hgo; subst hgo
    simp [AObj.prevs] at hp
theorem order_true (f : Bool) (n : Int) : ∃ h', acall ofns 10000 60 3 [.b f, .i .i64 n] h3 = some (.b true, h') := by
  have key : isTrue (acall ofns 10000 60 3 [.b f, .i .i64 (n % 5)] h3) = true := by
    obtain ⟨k, hk⟩ : ∃ k, k = n % 5 := ⟨_, rfl⟩
    rw [← hk]
    have hc : k = 0 ∨ k = 1 ∨ k = 2 ∨ k = 3 ∨ k = 4 := by omega
    cases f <;> rcases hc with rfl | rfl | rfl | rfl | rfl
    · exact e_false_0
    · exact e_false_1
    · exact e_false_2
    · exact e_false_3
    · exact e_false_4
    · exact e_true_0
    · exact e_true_1
    · exact e_true_2
    · exact e_true_3
    · exact e_true_4
  rw [order_mod 10000 58 f n h3]
  generalize acall ofns 10000 60 3 [.b f, .i .i64 (n % 5)] h3 = x at key ⊢
  unfold isTrue at key
  split at key
  · rename_i h'; exact ⟨h', rfl⟩
  · cases key
theorem order_call (f : Bool) (n : Int) (w : World) (hw : 3 ≤ w.heap.size) : Calls Tryd.prog 3 #[.bool f, .int .i64 n] w fun e w' => e = .returned (.bool true) ∧ Below w.heap.size w w' := by
  obtain ⟨h', he⟩ := order_true f n
  obtain ⟨_, hc⟩ := acall_sound ofns_ok (by kernel_rfl) 60 3 [.b f, .i .i64 n] h3 _ _ he
  refine (hc m3 w #[.bool f, .int .i64 n] (hr_h3 (by kernel_rfl) hw) (.cons _ _ _ _ (.b _) (.cons _ _ _ _ (.i _ _) .nil))).mono fun e w' ⟨cv, m', he', ha⟩ => ?_
  have hvr := ha.vr
  cases hvr
  refine ⟨he', ha.chg.os, ha.chg.tape, ha.chg.output, ha.chg.size, fun k hk => ha.chg.same k hk fun b q h hown => ?_⟩
  obtain ⟨_, rfl⟩ := m3_some h
  cases hown
end Go.Av
