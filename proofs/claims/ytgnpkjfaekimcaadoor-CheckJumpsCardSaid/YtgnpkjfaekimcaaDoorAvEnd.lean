/- What an end of the abstract machine says of a call of the model; and what a claim asks of the world in the end. -/
import Derived.Test.YtgnpkjfaekimcaaDoorAvDraw
import Derived.Below
import Derived.WalkKit
import Derived.ProofKit
import Derived.OpenShut
set_option linter.unusedVariables false
set_option linter.unusedSimpArgs false
set_option linter.unusedSectionVars false
namespace Go.Av
open Go.RowKit

def noMap : Mp := fun _ => none
theorem hr_empty {P : Program} (hg : P.globals.size = 0) (w : World) : HR P noMap .empty w := by
  refine ⟨fun b q h => ?_, fun b c qb qc ob oc h => ?_, fun g h => ?_, fun b q o h => ?_⟩
  · cases h
  · cases h
  · omega
  · cases h

/-- A call whose arguments name no block, of a program that has no variables of its packages. -/
theorem end_plain {P : Program} {fns : Nat → Option AFunc} {lf d f : Nat} (hf : FnsOk P fns) (hmix : P.follows .mixedOrders = true) (hg : P.globals.size = 0) {as : List AV} {cargs : Array Value}
    (hv : VRL noMap as cargs.toList) {b : Bool} {h' : AHeap} (he : acall fns lf d f as .empty = some (.b b, h')) (w : World) :
    Calls P f cargs w fun e w' => e = .returned (.bool b) ∧ Below w.heap.size w w' := by
  obtain ⟨_, hc⟩ := acall_sound hf hmix d f as .empty _ _ he
  refine (hc noMap w cargs (hr_empty hg w) hv).mono fun e w' ⟨cv, m', he', ha⟩ => ?_
  have hvr := ha.vr
  cases hvr
  exact ⟨he', ha.chg.os, ha.chg.tape, ha.chg.output, ha.chg.size, fun k hk => ha.chg.same k hk fun _ _ h => (by cases h)⟩

section
open Go.ChangeShapes Go.WideShapes Go.ChangeAt
variable {H : Type} {enc : TypeId × Value → H} {P : Program}
/-- As post_of_same, of a world of which only the old blocks are known. -/
theorem post_of_below {f : Func} {s : ChangeSpec} {apart fresh handsOn again : Bool} {W W' : World} {args : Array Value} {v : Value} {ds gs : List (DataW H)} {before pa pv : List MemPlace}
    (hW : DataW.Whole enc P f.params.toList s.vars apart W args.toList ds gs before)
    (hres : ∀ (b : Nat) (sp : Nat → Bool) (hd : Bool), DataW.TrodAll enc P W' b sp hd f.resultTypes.toList (v.resultList f.resultTypes.size) (s.fn H (ds ++ gs)).results [])
    (hargs : ∀ sp : Nat → Bool, (∀ p ∈ before, sp p.block = true) → DataW.TrodAll enc P W' 0 sp true f.params.toList args.toList (s.fn H (ds ++ gs)).args pa)
    (hvars : ∀ sp : Nat → Bool, (∀ p ∈ before, sp p.block = true) → DataW.TrodVars enc P W' sp s.vars (s.fn H (ds ++ gs)).vars pv)
    (hps : before = pa ++ pv) (hb : Below W.heap.size W W')
    (hok : ∀ (j : Nat) (t : TypeId) (r : Value), f.resultTypes[j]? = some t → (v.resultList f.resultTypes.size)[j]? = some r → Value.okWide P W' .any 0 t r) :
    s.post enc P f apart fresh handsOn again W args v W' := by
  have hold : ∀ p ∈ before, (fun b => decide (b < W.heap.size)) p.block = true := fun p hp => by simpa using hW.lt p hp
  have hlt := hW.lt
  refine ⟨ds, gs, before, [], pa, pv, hW, hres _ _ _, hargs _ hold, hvars _ hold, World.keptBut_mono (fun p hp => ⟨hp, ?_⟩) (hb.frame (· ∈ before)), fun _ => ?_⟩
  · rw [hps, List.mem_append] at hp
    exact Or.inr hp
  · obtain ⟨_, _, _, _, _, hz, hn⟩ := hW
    refine ⟨hok, _, _, ([] ++ pa) ++ pv, ⟨[] ++ pa, pv, trodAll_append (hargs _ (fun _ _ => rfl)) (hres _ _ _), hvars _ (fun _ _ => rfl), rfl, ?_, ?_⟩, ?_⟩
    · intro b off hp
      have hmem : MemPlace.cell b off ∈ before := by rw [hps]; simpa using hp
      rw [hb.frozen (p := ⟨b, off, none⟩) (hlt _ hmem)]
      exact hz b off hmem
    · intro ha
      have := hn ha
      rw [hps] at this
      simpa using this
    · intro p hp _
      rw [hps]
      simpa using hp
end
end Go.Av
