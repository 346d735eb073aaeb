/-
  No cell of these rows narrows 'for every input' (looked for: loops, veiled, ifaces, maps, wideKeys, modest, calm, conditions, laid).
  DERIVED. THE GIVEN ROWS OF THIS SEAT. 24 by the template 'for every input the law returns true; each argument reads behind the call as it read before'; 0 by the template 'total and deterministic' (their statements: YtkgjgdeaclefiaaTotals.lean).
  GIVEN WITH THE SEED: the statements are not yours to turn. If you find one false, say at which input.
  Laid BY PROGRAM, IN A SANDBOX (cutbox-rows.mjs): the forced cells as the released guide's own fill.sh prints them over the translation 55d611365bc95203… (all of the seat's roots in one cut). By AI agents, Wed Nov 11 2026. No macro, syntax, notation, axiom, sorry.
-/
import Derived.Test.YtkgjgdeaclefiaaChecked
import GoSem.Claim
import GoSem.ClaimJoined
import GoSem.ClaimMapViews
import Derived.JoinedTies
import Derived.KernelRfl
namespace Go.Proofs.Ytkgjgdeaclefiaa
/- THE CELL 'sum', in the pinned program and in every row, IS THE sha256 OF THE DUMP (.gsa) THAT YtkgjgdeaclefiaaProg.lean LOADS. Nothing in Lean hashes anything: it is a label: what it is worth is what the hold of that sum in a sandbox is worth. -/
noncomputable def Try.pinned : Pinned := { name := "ytkgjgdeaclefiaa", sum := "55d611365bc952031ce463b153b698635156307dd42b2ed53752b7a56b8aeee2", checked := Try.checked }
namespace Rows
def none {H : Type} : Left H := { results := [], args := [] }

/-- 'florinlaw03.HashBack': WHATEVER THE INPUT: true; the input reads as it did. -/
def hashBackSpec : ChangeSpec := { name := "hashBack", fn := fun _ => fun
  | [d] => { results := [.lit (.bool true)], args := [d] }
  | _ => none }
def hashBackRow : OpenClaim := { program := "ytkgjgdeaclefiaa", sum := "55d611365bc952031ce463b153b698635156307dd42b2ed53752b7a56b8aeee2", func := "florin/florinlaw03.HashBack", spec := "hashBack", unfollowed := true, recurses := true, apart := false }
def HashBackSaid : Prop := hashBackRow.holds Try.pinned (OpenSpec.ofChange hashBackSpec)

/-- ITS FALSE NEIGHBOUR: 'it returns false'. Refute it at one input. -/
def hashBackWrong : ChangeSpec := { name := "hashBack", fn := fun _ => fun
  | [d] => { results := [.lit (.bool false)], args := [d] }
  | _ => none }
def HashBackWrongFalsely : Prop := hashBackRow.holds Try.pinned (OpenSpec.ofChange hashBackWrong)

/-- 'florinlaw01.U256Order': WHATEVER THE INPUT: true; the input reads as it did. -/
def u256OrderSpec : ChangeSpec := { name := "u256Order", fn := fun _ => fun
  | [d1, d2, d3] => { results := [.lit (.bool true)], args := [d1, d2, d3] }
  | _ => none }
def u256OrderRow : OpenClaim := { program := "ytkgjgdeaclefiaa", sum := "55d611365bc952031ce463b153b698635156307dd42b2ed53752b7a56b8aeee2", func := "florin/florinlaw01.U256Order", spec := "u256Order", inPlace := ["math/bits.Add64", "math/bits.Sub64"], apart := false }
def U256OrderSaid : Prop := u256OrderRow.holds Try.pinned (OpenSpec.ofChange u256OrderSpec)

/-- ITS FALSE NEIGHBOUR: 'it returns false'. Refute it at one input. -/
def u256OrderWrong : ChangeSpec := { name := "u256Order", fn := fun _ => fun
  | [d1, d2, d3] => { results := [.lit (.bool false)], args := [d1, d2, d3] }
  | _ => none }
def U256OrderWrongFalsely : Prop := u256OrderRow.holds Try.pinned (OpenSpec.ofChange u256OrderWrong)

/-- 'florinlaw02.Sha2Cut': WHATEVER THE INPUT: true; the input reads as it did. -/
def sha2CutSpec : ChangeSpec := { name := "sha2Cut", fn := fun _ => fun
  | [d1, d2, d3] => { results := [.lit (.bool true)], args := [d1, d2, d3] }
  | _ => none }
def sha2CutRow : OpenClaim := { program := "ytkgjgdeaclefiaa", sum := "55d611365bc952031ce463b153b698635156307dd42b2ed53752b7a56b8aeee2", func := "florin/florinlaw02.Sha2Cut", spec := "sha2Cut", apart := false }
def Sha2CutSaid : Prop := sha2CutRow.holds Try.pinned (OpenSpec.ofChange sha2CutSpec)

/-- ITS FALSE NEIGHBOUR: 'it returns false'. Refute it at one input. -/
def sha2CutWrong : ChangeSpec := { name := "sha2Cut", fn := fun _ => fun
  | [d1, d2, d3] => { results := [.lit (.bool false)], args := [d1, d2, d3] }
  | _ => none }
def Sha2CutWrongFalsely : Prop := sha2CutRow.holds Try.pinned (OpenSpec.ofChange sha2CutWrong)

/-- 'florinlaw02.Sha2Pads': WHATEVER THE INPUT: true; the input reads as it did. -/
def sha2PadsSpec : ChangeSpec := { name := "sha2Pads", fn := fun _ => fun
  | [d] => { results := [.lit (.bool true)], args := [d] }
  | _ => none }
def sha2PadsRow : OpenClaim := { program := "ytkgjgdeaclefiaa", sum := "55d611365bc952031ce463b153b698635156307dd42b2ed53752b7a56b8aeee2", func := "florin/florinlaw02.Sha2Pads", spec := "sha2Pads", apart := false }
def Sha2PadsSaid : Prop := sha2PadsRow.holds Try.pinned (OpenSpec.ofChange sha2PadsSpec)

/-- ITS FALSE NEIGHBOUR: 'it returns false'. Refute it at one input. -/
def sha2PadsWrong : ChangeSpec := { name := "sha2Pads", fn := fun _ => fun
  | [d] => { results := [.lit (.bool false)], args := [d] }
  | _ => none }
def Sha2PadsWrongFalsely : Prop := sha2PadsRow.holds Try.pinned (OpenSpec.ofChange sha2PadsWrong)

/-- 'florinlaw02.Sha2Blocks': WHATEVER THE INPUT: true; the input reads as it did. -/
def sha2BlocksSpec : ChangeSpec := { name := "sha2Blocks", fn := fun _ => fun
  | [d1, d2] => { results := [.lit (.bool true)], args := [d1, d2] }
  | _ => none }
def sha2BlocksRow : OpenClaim := { program := "ytkgjgdeaclefiaa", sum := "55d611365bc952031ce463b153b698635156307dd42b2ed53752b7a56b8aeee2", func := "florin/florinlaw02.Sha2Blocks", spec := "sha2Blocks", apart := false }
def Sha2BlocksSaid : Prop := sha2BlocksRow.holds Try.pinned (OpenSpec.ofChange sha2BlocksSpec)

/-- ITS FALSE NEIGHBOUR: 'it returns false'. Refute it at one input. -/
def sha2BlocksWrong : ChangeSpec := { name := "sha2Blocks", fn := fun _ => fun
  | [d1, d2] => { results := [.lit (.bool false)], args := [d1, d2] }
  | _ => none }
def Sha2BlocksWrongFalsely : Prop := sha2BlocksRow.holds Try.pinned (OpenSpec.ofChange sha2BlocksWrong)

/-- 'florinlaw02.Sha2Is': WHATEVER THE INPUT: true; the input reads as it did. -/
def sha2IsSpec : ChangeSpec := { name := "sha2Is", fn := fun _ => fun
  | [d1, d2, d3] => { results := [.lit (.bool true)], args := [d1, d2, d3] }
  | _ => none }
def sha2IsRow : OpenClaim := { program := "ytkgjgdeaclefiaa", sum := "55d611365bc952031ce463b153b698635156307dd42b2ed53752b7a56b8aeee2", func := "florin/florinlaw02.Sha2Is", spec := "sha2Is", apart := false }
def Sha2IsSaid : Prop := sha2IsRow.holds Try.pinned (OpenSpec.ofChange sha2IsSpec)

/-- ITS FALSE NEIGHBOUR: 'it returns false'. Refute it at one input. -/
def sha2IsWrong : ChangeSpec := { name := "sha2Is", fn := fun _ => fun
  | [d1, d2, d3] => { results := [.lit (.bool false)], args := [d1, d2, d3] }
  | _ => none }
def Sha2IsWrongFalsely : Prop := sha2IsRow.holds Try.pinned (OpenSpec.ofChange sha2IsWrong)

/-- 'florinlaw02.Sha2Start': WHATEVER THE INPUT: true; the input reads as it did. -/
def sha2StartSpec : ChangeSpec := { name := "sha2Start", fn := fun _ => fun
  | [d] => { results := [.lit (.bool true)], args := [d] }
  | _ => none }
def sha2StartRow : OpenClaim := { program := "ytkgjgdeaclefiaa", sum := "55d611365bc952031ce463b153b698635156307dd42b2ed53752b7a56b8aeee2", func := "florin/florinlaw02.Sha2Start", spec := "sha2Start", apart := false }
def Sha2StartSaid : Prop := sha2StartRow.holds Try.pinned (OpenSpec.ofChange sha2StartSpec)

/-- ITS FALSE NEIGHBOUR: 'it returns false'. Refute it at one input. -/
def sha2StartWrong : ChangeSpec := { name := "sha2Start", fn := fun _ => fun
  | [d] => { results := [.lit (.bool false)], args := [d] }
  | _ => none }
def Sha2StartWrongFalsely : Prop := sha2StartRow.holds Try.pinned (OpenSpec.ofChange sha2StartWrong)

/-- 'florinlaw01.U256Is': WHATEVER THE INPUT: true; the input reads as it did. -/
def u256IsSpec : ChangeSpec := { name := "u256Is", fn := fun _ => fun
  | [d1, d2, d3] => { results := [.lit (.bool true)], args := [d1, d2, d3] }
  | _ => none }
def u256IsRow : OpenClaim := { program := "ytkgjgdeaclefiaa", sum := "55d611365bc952031ce463b153b698635156307dd42b2ed53752b7a56b8aeee2", func := "florin/florinlaw01.U256Is", spec := "u256Is", inPlace := ["math/bits.Add64", "math/bits.Sub64"], apart := false }
def U256IsSaid : Prop := u256IsRow.holds Try.pinned (OpenSpec.ofChange u256IsSpec)

/-- ITS FALSE NEIGHBOUR: 'it returns false'. Refute it at one input. -/
def u256IsWrong : ChangeSpec := { name := "u256Is", fn := fun _ => fun
  | [d1, d2, d3] => { results := [.lit (.bool false)], args := [d1, d2, d3] }
  | _ => none }
def U256IsWrongFalsely : Prop := u256IsRow.holds Try.pinned (OpenSpec.ofChange u256IsWrong)

/-- 'florinlaw01.U256Shifts': WHATEVER THE INPUT: true; the input reads as it did. -/
def u256ShiftsSpec : ChangeSpec := { name := "u256Shifts", fn := fun _ => fun
  | [d1, d2] => { results := [.lit (.bool true)], args := [d1, d2] }
  | _ => none }
def u256ShiftsRow : OpenClaim := { program := "ytkgjgdeaclefiaa", sum := "55d611365bc952031ce463b153b698635156307dd42b2ed53752b7a56b8aeee2", func := "florin/florinlaw01.U256Shifts", spec := "u256Shifts", inPlace := ["math/bits.Add64", "math/bits.Sub64"], apart := false }
def U256ShiftsSaid : Prop := u256ShiftsRow.holds Try.pinned (OpenSpec.ofChange u256ShiftsSpec)

/-- ITS FALSE NEIGHBOUR: 'it returns false'. Refute it at one input. -/
def u256ShiftsWrong : ChangeSpec := { name := "u256Shifts", fn := fun _ => fun
  | [d1, d2] => { results := [.lit (.bool false)], args := [d1, d2] }
  | _ => none }
def U256ShiftsWrongFalsely : Prop := u256ShiftsRow.holds Try.pinned (OpenSpec.ofChange u256ShiftsWrong)

/-- 'florinlaw01.U256Texts': WHATEVER THE INPUT: true; the input reads as it did. -/
def u256TextsSpec : ChangeSpec := { name := "u256Texts", fn := fun _ => fun
  | [d1, d2, d3] => { results := [.lit (.bool true)], args := [d1, d2, d3] }
  | _ => none }
def u256TextsRow : OpenClaim := { program := "ytkgjgdeaclefiaa", sum := "55d611365bc952031ce463b153b698635156307dd42b2ed53752b7a56b8aeee2", func := "florin/florinlaw01.U256Texts", spec := "u256Texts", inPlace := ["math/bits.Add64"], unfollowed := true, recurses := true, apart := false }
def U256TextsSaid : Prop := u256TextsRow.holds Try.pinned (OpenSpec.ofChange u256TextsSpec)

/-- ITS FALSE NEIGHBOUR: 'it returns false'. Refute it at one input. -/
def u256TextsWrong : ChangeSpec := { name := "u256Texts", fn := fun _ => fun
  | [d1, d2, d3] => { results := [.lit (.bool false)], args := [d1, d2, d3] }
  | _ => none }
def U256TextsWrongFalsely : Prop := u256TextsRow.holds Try.pinned (OpenSpec.ofChange u256TextsWrong)

/-- 'florinlaw01.U256Back': WHATEVER THE INPUT: true; the input reads as it did. -/
def u256BackSpec : ChangeSpec := { name := "u256Back", fn := fun _ => fun
  | [d] => { results := [.lit (.bool true)], args := [d] }
  | _ => none }
def u256BackRow : OpenClaim := { program := "ytkgjgdeaclefiaa", sum := "55d611365bc952031ce463b153b698635156307dd42b2ed53752b7a56b8aeee2", func := "florin/florinlaw01.U256Back", spec := "u256Back", inPlace := ["math/bits.Add64"], unfollowed := true, recurses := true, apart := false }
def U256BackSaid : Prop := u256BackRow.holds Try.pinned (OpenSpec.ofChange u256BackSpec)

/-- ITS FALSE NEIGHBOUR: 'it returns false'. Refute it at one input. -/
def u256BackWrong : ChangeSpec := { name := "u256Back", fn := fun _ => fun
  | [d] => { results := [.lit (.bool false)], args := [d] }
  | _ => none }
def U256BackWrongFalsely : Prop := u256BackRow.holds Try.pinned (OpenSpec.ofChange u256BackWrong)

/-- 'florinlaw03.HashNone': WHATEVER THE INPUT: true; the input reads as it did. -/
def hashNoneSpec : ChangeSpec := { name := "hashNone", fn := fun _ => fun
  | [d1, d2] => { results := [.lit (.bool true)], args := [d1, d2] }
  | _ => none }
def hashNoneRow : OpenClaim := { program := "ytkgjgdeaclefiaa", sum := "55d611365bc952031ce463b153b698635156307dd42b2ed53752b7a56b8aeee2", func := "florin/florinlaw03.HashNone", spec := "hashNone", unfollowed := true, recurses := true, apart := false }
def HashNoneSaid : Prop := hashNoneRow.holds Try.pinned (OpenSpec.ofChange hashNoneSpec)

/-- ITS FALSE NEIGHBOUR: 'it returns false'. Refute it at one input. -/
def hashNoneWrong : ChangeSpec := { name := "hashNone", fn := fun _ => fun
  | [d1, d2] => { results := [.lit (.bool false)], args := [d1, d2] }
  | _ => none }
def HashNoneWrongFalsely : Prop := hashNoneRow.holds Try.pinned (OpenSpec.ofChange hashNoneWrong)

/-- 'florinlaw01.U256Divides': WHATEVER THE INPUT: true; the input reads as it did. -/
def u256DividesSpec : ChangeSpec := { name := "u256Divides", fn := fun _ => fun
  | [d1, d2, d3] => { results := [.lit (.bool true)], args := [d1, d2, d3] }
  | _ => none }
def u256DividesRow : OpenClaim := { program := "ytkgjgdeaclefiaa", sum := "55d611365bc952031ce463b153b698635156307dd42b2ed53752b7a56b8aeee2", func := "florin/florinlaw01.U256Divides", spec := "u256Divides", inPlace := ["math/bits.Add64", "math/bits.Sub64"], apart := false }
def U256DividesSaid : Prop := u256DividesRow.holds Try.pinned (OpenSpec.ofChange u256DividesSpec)

/-- ITS FALSE NEIGHBOUR: 'it returns false'. Refute it at one input. -/
def u256DividesWrong : ChangeSpec := { name := "u256Divides", fn := fun _ => fun
  | [d1, d2, d3] => { results := [.lit (.bool false)], args := [d1, d2, d3] }
  | _ => none }
def U256DividesWrongFalsely : Prop := u256DividesRow.holds Try.pinned (OpenSpec.ofChange u256DividesWrong)

/-- 'florinlaw05.TargetBack': WHATEVER THE INPUT: true; the input reads as it did. -/
def targetBackSpec : ChangeSpec := { name := "targetBack", fn := fun _ => fun
  | [d] => { results := [.lit (.bool true)], args := [d] }
  | _ => none }
def targetBackRow : OpenClaim := { program := "ytkgjgdeaclefiaa", sum := "55d611365bc952031ce463b153b698635156307dd42b2ed53752b7a56b8aeee2", func := "florin/florinlaw05.TargetBack", spec := "targetBack", inPlace := ["math/bits.Add64", "math/bits.Sub64"], apart := false }
def TargetBackSaid : Prop := targetBackRow.holds Try.pinned (OpenSpec.ofChange targetBackSpec)

/-- ITS FALSE NEIGHBOUR: 'it returns false'. Refute it at one input. -/
def targetBackWrong : ChangeSpec := { name := "targetBack", fn := fun _ => fun
  | [d] => { results := [.lit (.bool false)], args := [d] }
  | _ => none }
def TargetBackWrongFalsely : Prop := targetBackRow.holds Try.pinned (OpenSpec.ofChange targetBackWrong)

/-- 'florinlaw05.TargetWork': WHATEVER THE INPUT: true; the input reads as it did. -/
def targetWorkSpec : ChangeSpec := { name := "targetWork", fn := fun _ => fun
  | [d1, d2] => { results := [.lit (.bool true)], args := [d1, d2] }
  | _ => none }
def targetWorkRow : OpenClaim := { program := "ytkgjgdeaclefiaa", sum := "55d611365bc952031ce463b153b698635156307dd42b2ed53752b7a56b8aeee2", func := "florin/florinlaw05.TargetWork", spec := "targetWork", inPlace := ["math/bits.Add64", "math/bits.Sub64"], apart := false }
def TargetWorkSaid : Prop := targetWorkRow.holds Try.pinned (OpenSpec.ofChange targetWorkSpec)

/-- ITS FALSE NEIGHBOUR: 'it returns false'. Refute it at one input. -/
def targetWorkWrong : ChangeSpec := { name := "targetWork", fn := fun _ => fun
  | [d1, d2] => { results := [.lit (.bool false)], args := [d1, d2] }
  | _ => none }
def TargetWorkWrongFalsely : Prop := targetWorkRow.holds Try.pinned (OpenSpec.ofChange targetWorkWrong)

/-- 'florinlaw05.TargetSums': WHATEVER THE INPUT: true; the input reads as it did. -/
def targetSumsSpec : ChangeSpec := { name := "targetSums", fn := fun _ => fun
  | [d1, d2, d3] => { results := [.lit (.bool true)], args := [d1, d2, d3] }
  | _ => none }
def targetSumsRow : OpenClaim := { program := "ytkgjgdeaclefiaa", sum := "55d611365bc952031ce463b153b698635156307dd42b2ed53752b7a56b8aeee2", func := "florin/florinlaw05.TargetSums", spec := "targetSums", inPlace := ["math/bits.Add64", "math/bits.Sub64"], apart := false }
def TargetSumsSaid : Prop := targetSumsRow.holds Try.pinned (OpenSpec.ofChange targetSumsSpec)

/-- ITS FALSE NEIGHBOUR: 'it returns false'. Refute it at one input. -/
def targetSumsWrong : ChangeSpec := { name := "targetSums", fn := fun _ => fun
  | [d1, d2, d3] => { results := [.lit (.bool false)], args := [d1, d2, d3] }
  | _ => none }
def TargetSumsWrongFalsely : Prop := targetSumsRow.holds Try.pinned (OpenSpec.ofChange targetSumsWrong)

/-- 'florinlaw03.HashOrder': WHATEVER THE INPUT: true; the input reads as it did. -/
def hashOrderSpec : ChangeSpec := { name := "hashOrder", fn := fun _ => fun
  | [d1, d2, d3] => { results := [.lit (.bool true)], args := [d1, d2, d3] }
  | _ => none }
def hashOrderRow : OpenClaim := { program := "ytkgjgdeaclefiaa", sum := "55d611365bc952031ce463b153b698635156307dd42b2ed53752b7a56b8aeee2", func := "florin/florinlaw03.HashOrder", spec := "hashOrder", unfollowed := true, recurses := true, apart := false }
def HashOrderSaid : Prop := hashOrderRow.holds Try.pinned (OpenSpec.ofChange hashOrderSpec)

/-- ITS FALSE NEIGHBOUR: 'it returns false'. Refute it at one input. -/
def hashOrderWrong : ChangeSpec := { name := "hashOrder", fn := fun _ => fun
  | [d1, d2, d3] => { results := [.lit (.bool false)], args := [d1, d2, d3] }
  | _ => none }
def HashOrderWrongFalsely : Prop := hashOrderRow.holds Try.pinned (OpenSpec.ofChange hashOrderWrong)

/-- 'florinlaw02.Sha2Roots': WHATEVER THE INPUT: true; the input reads as it did. -/
def sha2RootsSpec : ChangeSpec := { name := "sha2Roots", fn := fun _ => fun
  | [d] => { results := [.lit (.bool true)], args := [d] }
  | _ => none }
def sha2RootsRow : OpenClaim := { program := "ytkgjgdeaclefiaa", sum := "55d611365bc952031ce463b153b698635156307dd42b2ed53752b7a56b8aeee2", func := "florin/florinlaw02.Sha2Roots", spec := "sha2Roots", inPlace := ["math/bits.Add64"], apart := false }
def Sha2RootsSaid : Prop := sha2RootsRow.holds Try.pinned (OpenSpec.ofChange sha2RootsSpec)

/-- ITS FALSE NEIGHBOUR: 'it returns false'. Refute it at one input. -/
def sha2RootsWrong : ChangeSpec := { name := "sha2Roots", fn := fun _ => fun
  | [d] => { results := [.lit (.bool false)], args := [d] }
  | _ => none }
def Sha2RootsWrongFalsely : Prop := sha2RootsRow.holds Try.pinned (OpenSpec.ofChange sha2RootsWrong)

/-- 'florinlaw05.TargetMeets': WHATEVER THE INPUT: true; the input reads as it did. -/
def targetMeetsSpec : ChangeSpec := { name := "targetMeets", fn := fun _ => fun
  | [d1, d2, d3, d4] => { results := [.lit (.bool true)], args := [d1, d2, d3, d4] }
  | _ => none }
def targetMeetsRow : OpenClaim := { program := "ytkgjgdeaclefiaa", sum := "55d611365bc952031ce463b153b698635156307dd42b2ed53752b7a56b8aeee2", func := "florin/florinlaw05.TargetMeets", spec := "targetMeets", inPlace := ["math/bits.Add64", "math/bits.Sub64"], unfollowed := true, recurses := true, apart := false }
def TargetMeetsSaid : Prop := targetMeetsRow.holds Try.pinned (OpenSpec.ofChange targetMeetsSpec)

/-- ITS FALSE NEIGHBOUR: 'it returns false'. Refute it at one input. -/
def targetMeetsWrong : ChangeSpec := { name := "targetMeets", fn := fun _ => fun
  | [d1, d2, d3, d4] => { results := [.lit (.bool false)], args := [d1, d2, d3, d4] }
  | _ => none }
def TargetMeetsWrongFalsely : Prop := targetMeetsRow.holds Try.pinned (OpenSpec.ofChange targetMeetsWrong)

/-- 'florinlaw13.RetargetHolds': WHATEVER THE INPUT: true; the input reads as it did. -/
def retargetHoldsSpec : ChangeSpec := { name := "retargetHolds", fn := fun _ => fun
  | [d1, d2, d3, d4] => { results := [.lit (.bool true)], args := [d1, d2, d3, d4] }
  | _ => none }
def retargetHoldsRow : OpenClaim := { program := "ytkgjgdeaclefiaa", sum := "55d611365bc952031ce463b153b698635156307dd42b2ed53752b7a56b8aeee2", func := "florin/florinlaw13.RetargetHolds", spec := "retargetHolds", inPlace := ["math/bits.Sub64", "math/bits.Add64"], apart := false }
def RetargetHoldsSaid : Prop := retargetHoldsRow.holds Try.pinned (OpenSpec.ofChange retargetHoldsSpec)

/-- ITS FALSE NEIGHBOUR: 'it returns false'. Refute it at one input. -/
def retargetHoldsWrong : ChangeSpec := { name := "retargetHolds", fn := fun _ => fun
  | [d1, d2, d3, d4] => { results := [.lit (.bool false)], args := [d1, d2, d3, d4] }
  | _ => none }
def RetargetHoldsWrongFalsely : Prop := retargetHoldsRow.holds Try.pinned (OpenSpec.ofChange retargetHoldsWrong)

/-- 'florinlaw13.RetargetFold': WHATEVER THE INPUT: true; the input reads as it did. -/
def retargetFoldSpec : ChangeSpec := { name := "retargetFold", fn := fun _ => fun
  | [d1, d2, d3] => { results := [.lit (.bool true)], args := [d1, d2, d3] }
  | _ => none }
def retargetFoldRow : OpenClaim := { program := "ytkgjgdeaclefiaa", sum := "55d611365bc952031ce463b153b698635156307dd42b2ed53752b7a56b8aeee2", func := "florin/florinlaw13.RetargetFold", spec := "retargetFold", inPlace := ["math/bits.Sub64", "math/bits.Add64"], apart := false }
def RetargetFoldSaid : Prop := retargetFoldRow.holds Try.pinned (OpenSpec.ofChange retargetFoldSpec)

/-- ITS FALSE NEIGHBOUR: 'it returns false'. Refute it at one input. -/
def retargetFoldWrong : ChangeSpec := { name := "retargetFold", fn := fun _ => fun
  | [d1, d2, d3] => { results := [.lit (.bool false)], args := [d1, d2, d3] }
  | _ => none }
def RetargetFoldWrongFalsely : Prop := retargetFoldRow.holds Try.pinned (OpenSpec.ofChange retargetFoldWrong)

/-- 'florinlaw13.RetargetClamp': WHATEVER THE INPUT: true; the input reads as it did. -/
def retargetClampSpec : ChangeSpec := { name := "retargetClamp", fn := fun _ => fun
  | [d1, d2, d3, d4, d5] => { results := [.lit (.bool true)], args := [d1, d2, d3, d4, d5] }
  | _ => none }
def retargetClampRow : OpenClaim := { program := "ytkgjgdeaclefiaa", sum := "55d611365bc952031ce463b153b698635156307dd42b2ed53752b7a56b8aeee2", func := "florin/florinlaw13.RetargetClamp", spec := "retargetClamp", inPlace := ["math/bits.Sub64", "math/bits.Add64"], apart := false }
def RetargetClampSaid : Prop := retargetClampRow.holds Try.pinned (OpenSpec.ofChange retargetClampSpec)

/-- ITS FALSE NEIGHBOUR: 'it returns false'. Refute it at one input. -/
def retargetClampWrong : ChangeSpec := { name := "retargetClamp", fn := fun _ => fun
  | [d1, d2, d3, d4, d5] => { results := [.lit (.bool false)], args := [d1, d2, d3, d4, d5] }
  | _ => none }
def RetargetClampWrongFalsely : Prop := retargetClampRow.holds Try.pinned (OpenSpec.ofChange retargetClampWrong)

/-- 'florinlaw03.HashIs': WHATEVER THE INPUT: true; the input reads as it did. -/
def hashIsSpec : ChangeSpec := { name := "hashIs", fn := fun _ => fun
  | [d1, d2, d3, d4, d5, d6] => { results := [.lit (.bool true)], args := [d1, d2, d3, d4, d5, d6] }
  | _ => none }
def hashIsRow : OpenClaim := { program := "ytkgjgdeaclefiaa", sum := "55d611365bc952031ce463b153b698635156307dd42b2ed53752b7a56b8aeee2", func := "florin/florinlaw03.HashIs", spec := "hashIs", unfollowed := true, recurses := true, apart := false }
def HashIsSaid : Prop := hashIsRow.holds Try.pinned (OpenSpec.ofChange hashIsSpec)

/-- ITS FALSE NEIGHBOUR: 'it returns false'. Refute it at one input. -/
def hashIsWrong : ChangeSpec := { name := "hashIs", fn := fun _ => fun
  | [d1, d2, d3, d4, d5, d6] => { results := [.lit (.bool false)], args := [d1, d2, d3, d4, d5, d6] }
  | _ => none }
def HashIsWrongFalsely : Prop := hashIsRow.holds Try.pinned (OpenSpec.ofChange hashIsWrong)

/-- 'florinlaw03.HashPairs': WHATEVER THE INPUT: true; the input reads as it did. -/
def hashPairsSpec : ChangeSpec := { name := "hashPairs", fn := fun _ => fun
  | [d1, d2] => { results := [.lit (.bool true)], args := [d1, d2] }
  | _ => none }
def hashPairsRow : OpenClaim := { program := "ytkgjgdeaclefiaa", sum := "55d611365bc952031ce463b153b698635156307dd42b2ed53752b7a56b8aeee2", func := "florin/florinlaw03.HashPairs", spec := "hashPairs", unfollowed := true, recurses := true, apart := false }
def HashPairsSaid : Prop := hashPairsRow.holds Try.pinned (OpenSpec.ofChange hashPairsSpec)

/-- ITS FALSE NEIGHBOUR: 'it returns false'. Refute it at one input. -/
def hashPairsWrong : ChangeSpec := { name := "hashPairs", fn := fun _ => fun
  | [d1, d2] => { results := [.lit (.bool false)], args := [d1, d2] }
  | _ => none }
def HashPairsWrongFalsely : Prop := hashPairsRow.holds Try.pinned (OpenSpec.ofChange hashPairsWrong)

/- THE SECOND FORM. 'bulk': how many values and letters a reading holds, each counted each time it is reached (what is shared counts as often as it is met; a slice's spare places count too). A statement '..UptoSaid' is the law's where the arguments, and the package variables that the reading takes, are together of bulk at most 1048576: NARROWER than '..Said'. Prove '..Said' where nothing that the law and all that it calls make is longer than what came in: it says more and counts as full. Else prove '..UptoSaid'. A law counts once. -/
mutual
def uptoBulk {H : Type} : DataW H → Nat
  | .lit (.string bytes) => bytes.length + 1
  | .lit _ => 1
  | .nil => 1
  | .ptr d => uptoBulk d + 1
  | .slice elems spare => uptoBulkAll elems + uptoBulkAll spare + 1
  | .agg parts => uptoBulkAll parts + 1
  | .iface _ d => uptoBulk d + 1
  | .map entries => uptoBulkEntries entries + 1
  | .held _ => 1
def uptoBulkAll {H : Type} : List (DataW H) → Nat
  | [] => 0
  | d :: r => uptoBulk d + uptoBulkAll r
def uptoBulkEntries {H : Type} : List (Lit × DataW H) → Nat
  | [] => 0
  | x :: r => uptoBulkEntry x + uptoBulkEntries r
def uptoBulkEntry {H : Type} : Lit × DataW H → Nat
  | (.string bytes, d) => bytes.length + uptoBulk d + 1
  | (_, d) => uptoBulk d + 1
 end
def uptoSmall : (H : Type) → List (DataW H) → Bool := fun _ ds => decide (uptoBulkAll ds ≤ 1048576)
def OpenSpec.upto (s : _root_.Go.ChangeSpec) : _root_.Go.OpenSpec := { _root_.Go.OpenSpec.ofChange s with cond := some uptoSmall }

/-- 'florinlaw03.HashBack', WHERE WHAT IT READS IS OF BULK AT MOST 1048576: true; the input reads as it did. -/
def hashBackUptoRow : OpenClaim := { program := "ytkgjgdeaclefiaa", sum := "55d611365bc952031ce463b153b698635156307dd42b2ed53752b7a56b8aeee2", func := "florin/florinlaw03.HashBack", spec := "hashBack", unfollowed := true, recurses := true, apart := false, narrowed := true }
def HashBackUptoSaid : Prop := hashBackUptoRow.holds Try.pinned (OpenSpec.upto hashBackSpec)

/-- 'florinlaw01.U256Order', WHERE WHAT IT READS IS OF BULK AT MOST 1048576: true; the input reads as it did. -/
def u256OrderUptoRow : OpenClaim := { program := "ytkgjgdeaclefiaa", sum := "55d611365bc952031ce463b153b698635156307dd42b2ed53752b7a56b8aeee2", func := "florin/florinlaw01.U256Order", spec := "u256Order", inPlace := ["math/bits.Add64", "math/bits.Sub64"], apart := false, narrowed := true }
def U256OrderUptoSaid : Prop := u256OrderUptoRow.holds Try.pinned (OpenSpec.upto u256OrderSpec)

/-- 'florinlaw02.Sha2Cut', WHERE WHAT IT READS IS OF BULK AT MOST 1048576: true; the input reads as it did. -/
def sha2CutUptoRow : OpenClaim := { program := "ytkgjgdeaclefiaa", sum := "55d611365bc952031ce463b153b698635156307dd42b2ed53752b7a56b8aeee2", func := "florin/florinlaw02.Sha2Cut", spec := "sha2Cut", apart := false, narrowed := true }
def Sha2CutUptoSaid : Prop := sha2CutUptoRow.holds Try.pinned (OpenSpec.upto sha2CutSpec)

/-- 'florinlaw02.Sha2Pads', WHERE WHAT IT READS IS OF BULK AT MOST 1048576: true; the input reads as it did. -/
def sha2PadsUptoRow : OpenClaim := { program := "ytkgjgdeaclefiaa", sum := "55d611365bc952031ce463b153b698635156307dd42b2ed53752b7a56b8aeee2", func := "florin/florinlaw02.Sha2Pads", spec := "sha2Pads", apart := false, narrowed := true }
def Sha2PadsUptoSaid : Prop := sha2PadsUptoRow.holds Try.pinned (OpenSpec.upto sha2PadsSpec)

/-- 'florinlaw02.Sha2Blocks', WHERE WHAT IT READS IS OF BULK AT MOST 1048576: true; the input reads as it did. -/
def sha2BlocksUptoRow : OpenClaim := { program := "ytkgjgdeaclefiaa", sum := "55d611365bc952031ce463b153b698635156307dd42b2ed53752b7a56b8aeee2", func := "florin/florinlaw02.Sha2Blocks", spec := "sha2Blocks", apart := false, narrowed := true }
def Sha2BlocksUptoSaid : Prop := sha2BlocksUptoRow.holds Try.pinned (OpenSpec.upto sha2BlocksSpec)

/-- 'florinlaw02.Sha2Is', WHERE WHAT IT READS IS OF BULK AT MOST 1048576: true; the input reads as it did. -/
def sha2IsUptoRow : OpenClaim := { program := "ytkgjgdeaclefiaa", sum := "55d611365bc952031ce463b153b698635156307dd42b2ed53752b7a56b8aeee2", func := "florin/florinlaw02.Sha2Is", spec := "sha2Is", apart := false, narrowed := true }
def Sha2IsUptoSaid : Prop := sha2IsUptoRow.holds Try.pinned (OpenSpec.upto sha2IsSpec)

/-- 'florinlaw02.Sha2Start', WHERE WHAT IT READS IS OF BULK AT MOST 1048576: true; the input reads as it did. -/
def sha2StartUptoRow : OpenClaim := { program := "ytkgjgdeaclefiaa", sum := "55d611365bc952031ce463b153b698635156307dd42b2ed53752b7a56b8aeee2", func := "florin/florinlaw02.Sha2Start", spec := "sha2Start", apart := false, narrowed := true }
def Sha2StartUptoSaid : Prop := sha2StartUptoRow.holds Try.pinned (OpenSpec.upto sha2StartSpec)

/-- 'florinlaw01.U256Is', WHERE WHAT IT READS IS OF BULK AT MOST 1048576: true; the input reads as it did. -/
def u256IsUptoRow : OpenClaim := { program := "ytkgjgdeaclefiaa", sum := "55d611365bc952031ce463b153b698635156307dd42b2ed53752b7a56b8aeee2", func := "florin/florinlaw01.U256Is", spec := "u256Is", inPlace := ["math/bits.Add64", "math/bits.Sub64"], apart := false, narrowed := true }
def U256IsUptoSaid : Prop := u256IsUptoRow.holds Try.pinned (OpenSpec.upto u256IsSpec)

/-- 'florinlaw01.U256Shifts', WHERE WHAT IT READS IS OF BULK AT MOST 1048576: true; the input reads as it did. -/
def u256ShiftsUptoRow : OpenClaim := { program := "ytkgjgdeaclefiaa", sum := "55d611365bc952031ce463b153b698635156307dd42b2ed53752b7a56b8aeee2", func := "florin/florinlaw01.U256Shifts", spec := "u256Shifts", inPlace := ["math/bits.Add64", "math/bits.Sub64"], apart := false, narrowed := true }
def U256ShiftsUptoSaid : Prop := u256ShiftsUptoRow.holds Try.pinned (OpenSpec.upto u256ShiftsSpec)

/-- 'florinlaw01.U256Texts', WHERE WHAT IT READS IS OF BULK AT MOST 1048576: true; the input reads as it did. -/
def u256TextsUptoRow : OpenClaim := { program := "ytkgjgdeaclefiaa", sum := "55d611365bc952031ce463b153b698635156307dd42b2ed53752b7a56b8aeee2", func := "florin/florinlaw01.U256Texts", spec := "u256Texts", inPlace := ["math/bits.Add64"], unfollowed := true, recurses := true, apart := false, narrowed := true }
def U256TextsUptoSaid : Prop := u256TextsUptoRow.holds Try.pinned (OpenSpec.upto u256TextsSpec)

/-- 'florinlaw01.U256Back', WHERE WHAT IT READS IS OF BULK AT MOST 1048576: true; the input reads as it did. -/
def u256BackUptoRow : OpenClaim := { program := "ytkgjgdeaclefiaa", sum := "55d611365bc952031ce463b153b698635156307dd42b2ed53752b7a56b8aeee2", func := "florin/florinlaw01.U256Back", spec := "u256Back", inPlace := ["math/bits.Add64"], unfollowed := true, recurses := true, apart := false, narrowed := true }
def U256BackUptoSaid : Prop := u256BackUptoRow.holds Try.pinned (OpenSpec.upto u256BackSpec)

/-- 'florinlaw03.HashNone', WHERE WHAT IT READS IS OF BULK AT MOST 1048576: true; the input reads as it did. -/
def hashNoneUptoRow : OpenClaim := { program := "ytkgjgdeaclefiaa", sum := "55d611365bc952031ce463b153b698635156307dd42b2ed53752b7a56b8aeee2", func := "florin/florinlaw03.HashNone", spec := "hashNone", unfollowed := true, recurses := true, apart := false, narrowed := true }
def HashNoneUptoSaid : Prop := hashNoneUptoRow.holds Try.pinned (OpenSpec.upto hashNoneSpec)

/-- 'florinlaw01.U256Divides', WHERE WHAT IT READS IS OF BULK AT MOST 1048576: true; the input reads as it did. -/
def u256DividesUptoRow : OpenClaim := { program := "ytkgjgdeaclefiaa", sum := "55d611365bc952031ce463b153b698635156307dd42b2ed53752b7a56b8aeee2", func := "florin/florinlaw01.U256Divides", spec := "u256Divides", inPlace := ["math/bits.Add64", "math/bits.Sub64"], apart := false, narrowed := true }
def U256DividesUptoSaid : Prop := u256DividesUptoRow.holds Try.pinned (OpenSpec.upto u256DividesSpec)

/-- 'florinlaw05.TargetBack', WHERE WHAT IT READS IS OF BULK AT MOST 1048576: true; the input reads as it did. -/
def targetBackUptoRow : OpenClaim := { program := "ytkgjgdeaclefiaa", sum := "55d611365bc952031ce463b153b698635156307dd42b2ed53752b7a56b8aeee2", func := "florin/florinlaw05.TargetBack", spec := "targetBack", inPlace := ["math/bits.Add64", "math/bits.Sub64"], apart := false, narrowed := true }
def TargetBackUptoSaid : Prop := targetBackUptoRow.holds Try.pinned (OpenSpec.upto targetBackSpec)

/-- 'florinlaw05.TargetWork', WHERE WHAT IT READS IS OF BULK AT MOST 1048576: true; the input reads as it did. -/
def targetWorkUptoRow : OpenClaim := { program := "ytkgjgdeaclefiaa", sum := "55d611365bc952031ce463b153b698635156307dd42b2ed53752b7a56b8aeee2", func := "florin/florinlaw05.TargetWork", spec := "targetWork", inPlace := ["math/bits.Add64", "math/bits.Sub64"], apart := false, narrowed := true }
def TargetWorkUptoSaid : Prop := targetWorkUptoRow.holds Try.pinned (OpenSpec.upto targetWorkSpec)

/-- 'florinlaw05.TargetSums', WHERE WHAT IT READS IS OF BULK AT MOST 1048576: true; the input reads as it did. -/
def targetSumsUptoRow : OpenClaim := { program := "ytkgjgdeaclefiaa", sum := "55d611365bc952031ce463b153b698635156307dd42b2ed53752b7a56b8aeee2", func := "florin/florinlaw05.TargetSums", spec := "targetSums", inPlace := ["math/bits.Add64", "math/bits.Sub64"], apart := false, narrowed := true }
def TargetSumsUptoSaid : Prop := targetSumsUptoRow.holds Try.pinned (OpenSpec.upto targetSumsSpec)

/-- 'florinlaw03.HashOrder', WHERE WHAT IT READS IS OF BULK AT MOST 1048576: true; the input reads as it did. -/
def hashOrderUptoRow : OpenClaim := { program := "ytkgjgdeaclefiaa", sum := "55d611365bc952031ce463b153b698635156307dd42b2ed53752b7a56b8aeee2", func := "florin/florinlaw03.HashOrder", spec := "hashOrder", unfollowed := true, recurses := true, apart := false, narrowed := true }
def HashOrderUptoSaid : Prop := hashOrderUptoRow.holds Try.pinned (OpenSpec.upto hashOrderSpec)

/-- 'florinlaw02.Sha2Roots', WHERE WHAT IT READS IS OF BULK AT MOST 1048576: true; the input reads as it did. -/
def sha2RootsUptoRow : OpenClaim := { program := "ytkgjgdeaclefiaa", sum := "55d611365bc952031ce463b153b698635156307dd42b2ed53752b7a56b8aeee2", func := "florin/florinlaw02.Sha2Roots", spec := "sha2Roots", inPlace := ["math/bits.Add64"], apart := false, narrowed := true }
def Sha2RootsUptoSaid : Prop := sha2RootsUptoRow.holds Try.pinned (OpenSpec.upto sha2RootsSpec)

/-- 'florinlaw05.TargetMeets', WHERE WHAT IT READS IS OF BULK AT MOST 1048576: true; the input reads as it did. -/
def targetMeetsUptoRow : OpenClaim := { program := "ytkgjgdeaclefiaa", sum := "55d611365bc952031ce463b153b698635156307dd42b2ed53752b7a56b8aeee2", func := "florin/florinlaw05.TargetMeets", spec := "targetMeets", inPlace := ["math/bits.Add64", "math/bits.Sub64"], unfollowed := true, recurses := true, apart := false, narrowed := true }
def TargetMeetsUptoSaid : Prop := targetMeetsUptoRow.holds Try.pinned (OpenSpec.upto targetMeetsSpec)

/-- 'florinlaw13.RetargetHolds', WHERE WHAT IT READS IS OF BULK AT MOST 1048576: true; the input reads as it did. -/
def retargetHoldsUptoRow : OpenClaim := { program := "ytkgjgdeaclefiaa", sum := "55d611365bc952031ce463b153b698635156307dd42b2ed53752b7a56b8aeee2", func := "florin/florinlaw13.RetargetHolds", spec := "retargetHolds", inPlace := ["math/bits.Sub64", "math/bits.Add64"], apart := false, narrowed := true }
def RetargetHoldsUptoSaid : Prop := retargetHoldsUptoRow.holds Try.pinned (OpenSpec.upto retargetHoldsSpec)

/-- 'florinlaw13.RetargetFold', WHERE WHAT IT READS IS OF BULK AT MOST 1048576: true; the input reads as it did. -/
def retargetFoldUptoRow : OpenClaim := { program := "ytkgjgdeaclefiaa", sum := "55d611365bc952031ce463b153b698635156307dd42b2ed53752b7a56b8aeee2", func := "florin/florinlaw13.RetargetFold", spec := "retargetFold", inPlace := ["math/bits.Sub64", "math/bits.Add64"], apart := false, narrowed := true }
def RetargetFoldUptoSaid : Prop := retargetFoldUptoRow.holds Try.pinned (OpenSpec.upto retargetFoldSpec)

/-- 'florinlaw13.RetargetClamp', WHERE WHAT IT READS IS OF BULK AT MOST 1048576: true; the input reads as it did. -/
def retargetClampUptoRow : OpenClaim := { program := "ytkgjgdeaclefiaa", sum := "55d611365bc952031ce463b153b698635156307dd42b2ed53752b7a56b8aeee2", func := "florin/florinlaw13.RetargetClamp", spec := "retargetClamp", inPlace := ["math/bits.Sub64", "math/bits.Add64"], apart := false, narrowed := true }
def RetargetClampUptoSaid : Prop := retargetClampUptoRow.holds Try.pinned (OpenSpec.upto retargetClampSpec)

/-- 'florinlaw03.HashIs', WHERE WHAT IT READS IS OF BULK AT MOST 1048576: true; the input reads as it did. -/
def hashIsUptoRow : OpenClaim := { program := "ytkgjgdeaclefiaa", sum := "55d611365bc952031ce463b153b698635156307dd42b2ed53752b7a56b8aeee2", func := "florin/florinlaw03.HashIs", spec := "hashIs", unfollowed := true, recurses := true, apart := false, narrowed := true }
def HashIsUptoSaid : Prop := hashIsUptoRow.holds Try.pinned (OpenSpec.upto hashIsSpec)

/-- 'florinlaw03.HashPairs', WHERE WHAT IT READS IS OF BULK AT MOST 1048576: true; the input reads as it did. -/
def hashPairsUptoRow : OpenClaim := { program := "ytkgjgdeaclefiaa", sum := "55d611365bc952031ce463b153b698635156307dd42b2ed53752b7a56b8aeee2", func := "florin/florinlaw03.HashPairs", spec := "hashPairs", unfollowed := true, recurses := true, apart := false, narrowed := true }
def HashPairsUptoSaid : Prop := hashPairsUptoRow.holds Try.pinned (OpenSpec.upto hashPairsSpec)

end Rows
end Go.Proofs.Ytkgjgdeaclefiaa
