/-
  No cell of these rows narrows 'for every input' (looked for: loops, veiled, ifaces, maps, wideKeys, modest, calm, conditions, laid).
  DERIVED. THE GIVEN ROWS OF THIS SEAT. 6 by the template 'for every input the law returns true; each argument reads behind the call as it read before'; 0 by the template 'total and deterministic' (their statements: YtliflkakagkofaaTotals.lean).
  GIVEN WITH THE SEED: the statements are not yours to turn. If you find one false, say at which input.
  Laid BY PROGRAM, IN A SANDBOX (cutbox-rows.mjs): the forced cells as the released guide's own fill.sh prints them over the translation 7f9528540f17d676… (all of the seat's roots in one cut). By AI agents, Wed Nov 11 2026. No macro, syntax, notation, axiom, sorry.
-/
import Derived.Test.YtliflkakagkofaaChecked
import GoSem.Claim
import GoSem.ClaimJoined
import GoSem.ClaimMapViews
import Derived.JoinedTies
import Derived.KernelRfl
namespace Go.Proofs.Ytliflkakagkofaa
/- THE CELL 'sum', in the pinned program and in every row, IS THE sha256 OF THE DUMP (.gsa) THAT YtliflkakagkofaaProg.lean LOADS. Nothing in Lean hashes anything: it is a label: what it is worth is what the hold of that sum in a sandbox is worth. -/
noncomputable def Try.pinned : Pinned := { name := "ytliflkakagkofaa", sum := "7f9528540f17d6764a1e20ac5e092868ac08336af5e48f8bdb087b5c57a47250", checked := Try.checked }
namespace Rows
def none {H : Type} : Left H := { results := [], args := [] }

/-- 'solenoidlaw15.MigrateCells': WHATEVER THE INPUT: true; the input reads as it did. -/
def migrateCellsSpec : ChangeSpec := { name := "migrateCells", fn := fun _ => fun
  | [d1, d2, d3, d4] => { results := [.lit (.bool true)], args := [d1, d2, d3, d4] }
  | _ => none }
def migrateCellsRow : OpenClaim := { program := "ytliflkakagkofaa", sum := "7f9528540f17d6764a1e20ac5e092868ac08336af5e48f8bdb087b5c57a47250", func := "solenoid/solenoidlaw15.MigrateCells", spec := "migrateCells", recurses := true, plainKeys := false, apart := false }
def MigrateCellsSaid : Prop := migrateCellsRow.holds Try.pinned (OpenSpec.ofChange migrateCellsSpec)

/-- ITS FALSE NEIGHBOUR: 'it returns false'. Refute it at one input. -/
def migrateCellsWrong : ChangeSpec := { name := "migrateCells", fn := fun _ => fun
  | [d1, d2, d3, d4] => { results := [.lit (.bool false)], args := [d1, d2, d3, d4] }
  | _ => none }
def MigrateCellsWrongFalsely : Prop := migrateCellsRow.holds Try.pinned (OpenSpec.ofChange migrateCellsWrong)

/-- 'solenoidlaw15.MigrateSame': WHATEVER THE INPUT: true; the input reads as it did. -/
def migrateSameSpec : ChangeSpec := { name := "migrateSame", fn := fun _ => fun
  | [d1, d2, d3] => { results := [.lit (.bool true)], args := [d1, d2, d3] }
  | _ => none }
def migrateSameRow : OpenClaim := { program := "ytliflkakagkofaa", sum := "7f9528540f17d6764a1e20ac5e092868ac08336af5e48f8bdb087b5c57a47250", func := "solenoid/solenoidlaw15.MigrateSame", spec := "migrateSame", recurses := true, plainKeys := false, apart := false }
def MigrateSameSaid : Prop := migrateSameRow.holds Try.pinned (OpenSpec.ofChange migrateSameSpec)

/-- ITS FALSE NEIGHBOUR: 'it returns false'. Refute it at one input. -/
def migrateSameWrong : ChangeSpec := { name := "migrateSame", fn := fun _ => fun
  | [d1, d2, d3] => { results := [.lit (.bool false)], args := [d1, d2, d3] }
  | _ => none }
def MigrateSameWrongFalsely : Prop := migrateSameRow.holds Try.pinned (OpenSpec.ofChange migrateSameWrong)

/-- 'solenoidlaw15.MigrateDrops': WHATEVER THE INPUT: true; the input reads as it did. -/
def migrateDropsSpec : ChangeSpec := { name := "migrateDrops", fn := fun _ => fun
  | [d1, d2, d3] => { results := [.lit (.bool true)], args := [d1, d2, d3] }
  | _ => none }
def migrateDropsRow : OpenClaim := { program := "ytliflkakagkofaa", sum := "7f9528540f17d6764a1e20ac5e092868ac08336af5e48f8bdb087b5c57a47250", func := "solenoid/solenoidlaw15.MigrateDrops", spec := "migrateDrops", recurses := true, plainKeys := false, apart := false }
def MigrateDropsSaid : Prop := migrateDropsRow.holds Try.pinned (OpenSpec.ofChange migrateDropsSpec)

/-- ITS FALSE NEIGHBOUR: 'it returns false'. Refute it at one input. -/
def migrateDropsWrong : ChangeSpec := { name := "migrateDrops", fn := fun _ => fun
  | [d1, d2, d3] => { results := [.lit (.bool false)], args := [d1, d2, d3] }
  | _ => none }
def MigrateDropsWrongFalsely : Prop := migrateDropsRow.holds Try.pinned (OpenSpec.ofChange migrateDropsWrong)

/-- 'solenoidlaw15.MigrateRenames': WHATEVER THE INPUT: true; the input reads as it did. -/
def migrateRenamesSpec : ChangeSpec := { name := "migrateRenames", fn := fun _ => fun
  | [d1, d2, d3, d4] => { results := [.lit (.bool true)], args := [d1, d2, d3, d4] }
  | _ => none }
def migrateRenamesRow : OpenClaim := { program := "ytliflkakagkofaa", sum := "7f9528540f17d6764a1e20ac5e092868ac08336af5e48f8bdb087b5c57a47250", func := "solenoid/solenoidlaw15.MigrateRenames", spec := "migrateRenames", recurses := true, plainKeys := false, apart := false }
def MigrateRenamesSaid : Prop := migrateRenamesRow.holds Try.pinned (OpenSpec.ofChange migrateRenamesSpec)

/-- ITS FALSE NEIGHBOUR: 'it returns false'. Refute it at one input. -/
def migrateRenamesWrong : ChangeSpec := { name := "migrateRenames", fn := fun _ => fun
  | [d1, d2, d3, d4] => { results := [.lit (.bool false)], args := [d1, d2, d3, d4] }
  | _ => none }
def MigrateRenamesWrongFalsely : Prop := migrateRenamesRow.holds Try.pinned (OpenSpec.ofChange migrateRenamesWrong)

/-- 'solenoidlaw15.MigrateLonger': WHATEVER THE INPUT: true; the input reads as it did. -/
def migrateLongerSpec : ChangeSpec := { name := "migrateLonger", fn := fun _ => fun
  | [d1, d2, d3] => { results := [.lit (.bool true)], args := [d1, d2, d3] }
  | _ => none }
def migrateLongerRow : OpenClaim := { program := "ytliflkakagkofaa", sum := "7f9528540f17d6764a1e20ac5e092868ac08336af5e48f8bdb087b5c57a47250", func := "solenoid/solenoidlaw15.MigrateLonger", spec := "migrateLonger", recurses := true, plainKeys := false, apart := false }
def MigrateLongerSaid : Prop := migrateLongerRow.holds Try.pinned (OpenSpec.ofChange migrateLongerSpec)

/-- ITS FALSE NEIGHBOUR: 'it returns false'. Refute it at one input. -/
def migrateLongerWrong : ChangeSpec := { name := "migrateLonger", fn := fun _ => fun
  | [d1, d2, d3] => { results := [.lit (.bool false)], args := [d1, d2, d3] }
  | _ => none }
def MigrateLongerWrongFalsely : Prop := migrateLongerRow.holds Try.pinned (OpenSpec.ofChange migrateLongerWrong)

/-- 'solenoidlaw15.MigrateFields': WHATEVER THE INPUT: true; the input reads as it did. -/
def migrateFieldsSpec : ChangeSpec := { name := "migrateFields", fn := fun _ => fun
  | [d1, d2, d3] => { results := [.lit (.bool true)], args := [d1, d2, d3] }
  | _ => none }
def migrateFieldsRow : OpenClaim := { program := "ytliflkakagkofaa", sum := "7f9528540f17d6764a1e20ac5e092868ac08336af5e48f8bdb087b5c57a47250", func := "solenoid/solenoidlaw15.MigrateFields", spec := "migrateFields", recurses := true, plainKeys := false, apart := false }
def MigrateFieldsSaid : Prop := migrateFieldsRow.holds Try.pinned (OpenSpec.ofChange migrateFieldsSpec)

/-- ITS FALSE NEIGHBOUR: 'it returns false'. Refute it at one input. -/
def migrateFieldsWrong : ChangeSpec := { name := "migrateFields", fn := fun _ => fun
  | [d1, d2, d3] => { results := [.lit (.bool false)], args := [d1, d2, d3] }
  | _ => none }
def MigrateFieldsWrongFalsely : Prop := migrateFieldsRow.holds Try.pinned (OpenSpec.ofChange migrateFieldsWrong)

/- THE SECOND FORM. 'bulk': how many values and letters a reading holds, each counted each time it is reached (what is shared counts as often as it is met; a slice's spare places count too). A statement '..UptoSaid' is the law's where the arguments, and the package variables that the reading takes, are together of bulk at most 1048576: NARROWER than '..Said'. Prove '..Said' where nothing that the law and all that it calls make is longer than what came in: it says more and counts as full. Else prove '..UptoSaid'. A law counts once. -/
mutual
def uptoBulk {H : Type} : DataW H → Nat
  | .lit (.string bytes) => bytes.length + 1
  | .lit _ => 1
  | .nil => 1
  | .ptr d => uptoBulk d + 1
  | .slice elems spare => uptoBulkAll elems + uptoBulkAll spare + 1
  | .agg parts => uptoBulkAll parts + 1
  | .iface _ d => uptoBulk d + 1
  | .map entries => uptoBulkEntries entries + 1
  | .held _ => 1
def uptoBulkAll {H : Type} : List (DataW H) → Nat
  | [] => 0
  | d :: r => uptoBulk d + uptoBulkAll r
def uptoBulkEntries {H : Type} : List (Lit × DataW H) → Nat
  | [] => 0
  | x :: r => uptoBulkEntry x + uptoBulkEntries r
def uptoBulkEntry {H : Type} : Lit × DataW H → Nat
  | (.string bytes, d) => bytes.length + uptoBulk d + 1
  | (_, d) => uptoBulk d + 1
 end
def uptoSmall : (H : Type) → List (DataW H) → Bool := fun _ ds => decide (uptoBulkAll ds ≤ 1048576)
def OpenSpec.upto (s : _root_.Go.ChangeSpec) : _root_.Go.OpenSpec := { _root_.Go.OpenSpec.ofChange s with cond := some uptoSmall }

/-- 'solenoidlaw15.MigrateCells', WHERE WHAT IT READS IS OF BULK AT MOST 1048576: true; the input reads as it did. -/
def migrateCellsUptoRow : OpenClaim := { program := "ytliflkakagkofaa", sum := "7f9528540f17d6764a1e20ac5e092868ac08336af5e48f8bdb087b5c57a47250", func := "solenoid/solenoidlaw15.MigrateCells", spec := "migrateCells", recurses := true, plainKeys := false, apart := false, narrowed := true }
def MigrateCellsUptoSaid : Prop := migrateCellsUptoRow.holds Try.pinned (OpenSpec.upto migrateCellsSpec)

/-- 'solenoidlaw15.MigrateSame', WHERE WHAT IT READS IS OF BULK AT MOST 1048576: true; the input reads as it did. -/
def migrateSameUptoRow : OpenClaim := { program := "ytliflkakagkofaa", sum := "7f9528540f17d6764a1e20ac5e092868ac08336af5e48f8bdb087b5c57a47250", func := "solenoid/solenoidlaw15.MigrateSame", spec := "migrateSame", recurses := true, plainKeys := false, apart := false, narrowed := true }
def MigrateSameUptoSaid : Prop := migrateSameUptoRow.holds Try.pinned (OpenSpec.upto migrateSameSpec)

/-- 'solenoidlaw15.MigrateDrops', WHERE WHAT IT READS IS OF BULK AT MOST 1048576: true; the input reads as it did. -/
def migrateDropsUptoRow : OpenClaim := { program := "ytliflkakagkofaa", sum := "7f9528540f17d6764a1e20ac5e092868ac08336af5e48f8bdb087b5c57a47250", func := "solenoid/solenoidlaw15.MigrateDrops", spec := "migrateDrops", recurses := true, plainKeys := false, apart := false, narrowed := true }
def MigrateDropsUptoSaid : Prop := migrateDropsUptoRow.holds Try.pinned (OpenSpec.upto migrateDropsSpec)

/-- 'solenoidlaw15.MigrateRenames', WHERE WHAT IT READS IS OF BULK AT MOST 1048576: true; the input reads as it did. -/
def migrateRenamesUptoRow : OpenClaim := { program := "ytliflkakagkofaa", sum := "7f9528540f17d6764a1e20ac5e092868ac08336af5e48f8bdb087b5c57a47250", func := "solenoid/solenoidlaw15.MigrateRenames", spec := "migrateRenames", recurses := true, plainKeys := false, apart := false, narrowed := true }
def MigrateRenamesUptoSaid : Prop := migrateRenamesUptoRow.holds Try.pinned (OpenSpec.upto migrateRenamesSpec)

/-- 'solenoidlaw15.MigrateLonger', WHERE WHAT IT READS IS OF BULK AT MOST 1048576: true; the input reads as it did. -/
def migrateLongerUptoRow : OpenClaim := { program := "ytliflkakagkofaa", sum := "7f9528540f17d6764a1e20ac5e092868ac08336af5e48f8bdb087b5c57a47250", func := "solenoid/solenoidlaw15.MigrateLonger", spec := "migrateLonger", recurses := true, plainKeys := false, apart := false, narrowed := true }
def MigrateLongerUptoSaid : Prop := migrateLongerUptoRow.holds Try.pinned (OpenSpec.upto migrateLongerSpec)

/-- 'solenoidlaw15.MigrateFields', WHERE WHAT IT READS IS OF BULK AT MOST 1048576: true; the input reads as it did. -/
def migrateFieldsUptoRow : OpenClaim := { program := "ytliflkakagkofaa", sum := "7f9528540f17d6764a1e20ac5e092868ac08336af5e48f8bdb087b5c57a47250", func := "solenoid/solenoidlaw15.MigrateFields", spec := "migrateFields", recurses := true, plainKeys := false, apart := false, narrowed := true }
def MigrateFieldsUptoSaid : Prop := migrateFieldsUptoRow.holds Try.pinned (OpenSpec.upto migrateFieldsSpec)

end Rows
end Go.Proofs.Ytliflkakagkofaa
