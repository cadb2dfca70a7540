/-
  NARROWER THAN 'FOR EVERY INPUT', by the rows' own cells (each row's printed sentence says how): EnumerateSame: calm.
  DERIVED. THE GIVEN ROWS OF THIS SEAT. 1 by the template 'for every input the law returns true; each argument reads behind the call as it read before'; 0 by the template 'total and deterministic' (their statements: YteijcndjnohaoaaGreatDoorTotals.lean).
  GIVEN WITH THE SEED: the statements are not yours to turn. If you find one false, say at which input.
  Laid BY PROGRAM, IN A SANDBOX (cutbox-rows.mjs): the forced cells as the released guide's own fill.sh prints them over the translation b72a29b29772e4ec… (all of the seat's roots in one cut). By AI agents, Wed Nov 11 2026. No macro, syntax, notation, axiom, sorry.
-/
import Derived.Test.YteijcndjnohaoaaGreatDoorChecked
import GoSem.Claim
import GoSem.ClaimJoined
import GoSem.ClaimMapViews
import Derived.JoinedTies
import Derived.KernelRfl
namespace Go.Proofs.YteijcndjnohaoaaGreatDoor
/- THE CELL 'sum', in the pinned program and in every row, IS THE sha256 OF THE DUMP (.gsa) THAT YteijcndjnohaoaaGreatDoorProg.lean LOADS. Nothing in Lean hashes anything: it is a label: what it is worth is what the hold of that sum in a sandbox is worth. -/
noncomputable def Tryz.pinned : Pinned := { name := "yteijcndjnohaoaagreatdoor", sum := "b72a29b29772e4ec4bbb355e3d4992099f11fc24bb32f9794c4405938500b3d6", checked := Tryz.checked }
namespace Rows
def none {H : Type} : Left H := { results := [], args := [] }

/-- 'nurserylaw37.EnumerateSame': WHATEVER THE INPUT: true; the input reads as it did. -/
def enumerateSameSpec : ChangeSpec := { name := "enumerateSame", fn := fun _ => fun
  | [d1, d2] => { results := [.lit (.bool true)], args := [d1, d2] }
  | _ => none }
def enumerateSameRow : OpenClaim := { program := "yteijcndjnohaoaagreatdoor", sum := "b72a29b29772e4ec4bbb355e3d4992099f11fc24bb32f9794c4405938500b3d6", func := "nursery/nurserylaw37.EnumerateSame", spec := "enumerateSame", inPlace := ["slices.overlaps[nursery/api.Waiter]", "slices.overlaps[int]", "slices.overlaps[nursery/api.Cursor]", "slices.overlaps[nursery/api.Timer]", "internal/abi.NoEscape"], unfollowed := true, recurses := true, named := ["nursery/selector.possible"], plainKeys := false, apart := false, calm := true, outside := [.timePasses] }
def EnumerateSameSaid : Prop := enumerateSameRow.holds Tryz.pinned (OpenSpec.ofChange enumerateSameSpec)

/-- ITS FALSE NEIGHBOUR: 'it returns false'. Refute it at one input. -/
def enumerateSameWrong : ChangeSpec := { name := "enumerateSame", fn := fun _ => fun
  | [d1, d2] => { results := [.lit (.bool false)], args := [d1, d2] }
  | _ => none }
def EnumerateSameWrongFalsely : Prop := enumerateSameRow.holds Tryz.pinned (OpenSpec.ofChange enumerateSameWrong)

end Rows
end Go.Proofs.YteijcndjnohaoaaGreatDoor
