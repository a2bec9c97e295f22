/- Short words for the second machine's texts, and what evaluates them. -/
import Derived.Test.YtgnpkjfaekimcaaDoorAvPF
set_option linter.unusedVariables false
set_option linter.unusedSimpArgs false
set_option linter.unusedSectionVars false
namespace Go.Av
abbrev q (o : AOp) : PRO := ⟨o, none, none, .full, .d⟩
abbrev qn (o : AOp) : PRO := ⟨o, none, none, .new, .d⟩
abbrev qv (i : Nat) (o : AOp) : PRO := ⟨o, none, some i, .full, .d⟩
abbrev qg (j : Nat) (w : Bool) (o : AOp) : PRO := ⟨o, some (j, w), none, .full, .d⟩
abbrev qh (j : Nat) (w : Bool) (o : AOp) : PRO := ⟨o, some (j, w), none, .new, .d⟩
attribute [simp] pcallWithL pinits pnth pdenL prunOps pwanted pstepBar pstepOp pop AO.pev ofAV ofAV.ofAVs ofAVs adj adj1 psetVar psetn pBin pUn aBin aUn aInt aShift aStr kEq kCode toA1 ofA1 pret pskip presAll presOf presult giv giv1 mapC mapO lend isBoxP pnewOk plastOk actsA
attribute [simp] pNilEq pevs pevOpt ploadAt pcellsAt pread PH.reads PH.root PH.get PH.put PH.push PH.setRoot PH.newRoot PH.empty getO setO getR setR pLen plenOf pisSl pIndex pFld pAppend  pfirst pbounds pbound pSlSl pSlS pSlA pfill pmapB pEq pcall prep nil PV.cellsOf PV.cells? pokCells PV.okCell pstoreAt pwriteAt pthaw isClo cloL isNilL pCapOf
theorem big_ok {n bytes : Nat} (h : n ≤ 1073741824) (hb : bytes ≤ 1024) : big n bytes = false := by
  have key : ∀ L x : Nat, x ≤ L → Nat.blt L x = false := fun L x h => blt_false.2 h
  unfold big
  have h1 : (2 * n + 2000) ≤ 2147485648 := by omega
  have h2 : (2 * n + 2000) * (bytes + 1) ≤ 2147485648 * 1025 := Nat.mul_le_mul h1 (by omega)
  exact key 140737488355328 _ (Nat.le_trans h2 (Nat.le_of_ble_eq_true rfl))
theorem pan_own {σ : PH} {ez bytes r v x e n sn : Nat} {cs new : List PV} (hr : σ.root r = .live v x e) (he : x = 0 ∨ ez = e) (hez : 0 < ez) (hl : cs.length = sn * ez) (hs : sn = x) (hn : 0 < n) (hb : sn + n ≤ 1073741824) (hby : bytes ≤ 1024) :
    pappendNew σ ez bytes (.ls (.own r v) sn cs) n new = some (.ls (.own r (v + 1)) (sn + n) (cs ++ new), σ.setRoot r (.live (v + 1) (sn + n) ez)) := by
  subst hs
  unfold pappendNew
  simp only
  rw [hr]
  simp only
  have h1 : ((Nat.beq sn 0 || Nat.beq ez e) && Nat.blt 0 ez) = true := by
    rw [blt_iff.2 hez]
    rcases he with rfl | rfl
    · rfl
    · rw [beq_iff.2 rfl]; simp
  rw [beq_iff.2 rfl, h1, beq_iff.2 hl]
  simp only
  have h2 : (Nat.ble (sn + n) sn && !Nat.blt r σ.rlim) = false := by
    have : Nat.ble (sn + n) sn = false := by
      cases e : Nat.ble (sn + n) sn with
      | false => rfl
      | true => have := ble_iff.1 e; omega
    rw [this]; rfl
  rw [h2]
  simp only
  rw [blt_iff.2 hn, big_ok hb hby, beq_iff.2 (rfl : sn = sn)]
theorem pan_view {σ : PH} {ez bytes n sn : Nat} {b : Bool} {cs new : List PV} (hl : cs.length = sn * ez) (hb : sn + n ≤ 1073741824) (hby : bytes ≤ 1024) (hc : b = false ∨ cs = []) :
    pappendNew σ ez bytes (.ls (.v b true) sn cs) n new = some (.ls (.fresh (sn + n) ez) (sn + n) (cs ++ new), σ) := by
  unfold pappendNew
  simp only
  have : (!b || isNilL cs) = true := by rcases hc with rfl | rfl <;> simp [isNilL]
  rw [big_ok hb hby, beq_iff.2 hl, this]
end Go.Av
