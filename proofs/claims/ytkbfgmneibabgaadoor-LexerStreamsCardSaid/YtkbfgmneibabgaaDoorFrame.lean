/- What the seat's claims share ahead of the walks: the witness of the condition on the variables. -/
import Derived.Test.YtkbfgmneibabgaaDoorLexV
import Derived.Test.YtkbfgmneibabgaaDoorTie
import Derived.Test.YtkbfgmneibabgaaDoorCards
import Derived.WalkKit
import Derived.ProofKit
import Derived.Handy
import Derived.Lay
import Derived.SevenTiedAt
import Derived.Lib.SmallJoins
import Derived.Lib.LaidTab
import Derived.Stop.LaidErr
import Derived.SizedLaws
import Derived.ChangeSame
import Derived.ChangeVars
import Derived.JoinedOf
import Derived.JoinedAt
import Derived.RowKit
import Derived.LaidLaws
import Derived.OpenShut
import Derived.Deep.Strs
set_option maxRecDepth 100000
namespace Go.Proofs.YtkbfgmneibabgaaDoor
open Go Go.ChangeShapes Go.WideShapes Go.ChangeAt Go.RowKit Go.Joins

abbrev kindsL : List LaidKind := [.data, .data, .data, .sentinel, .sentinel]
theorem own : ownKnob Tryd.prog.godebug = none := by kernel_rfl
/-- What the rows list. -/
noncomputable abbrev laidL : List (String × DataW Unit) := Rows.lexerScansRow.laid
theorem laidL_met (os : Os) (args : Array Value) : laidMet Tryd.prog laidL ((World.laidAll Tryd.prog os laidL).forCall (fun _ _ => 0) ⟨#[], args, []⟩).memory :=
  laidMet_laidAll _ (by kernel_rfl) (by kernel_rfl)
theorem rel_I (C : Pm.Cf) (k : IntKind) (n : Int) : Pm.RelS C (.int k n) (.int k n) := by
  first | exact .pv _ _ (.int _ _) | exact .pv _ _ (Pm.PvRel.int _ _)
end Go.Proofs.YtkbfgmneibabgaaDoor
