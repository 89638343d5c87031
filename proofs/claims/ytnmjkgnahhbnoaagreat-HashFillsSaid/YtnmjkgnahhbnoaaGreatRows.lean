/-
  No cell of these rows narrows 'for every input' (looked for: loops, veiled, ifaces, maps, wideKeys, modest, calm, conditions, laid).
  DERIVED. THE GIVEN ROWS OF THIS SEAT. 4 by the template 'for every input the law returns true; each argument reads behind the call as it read before'; 0 by the template 'total and deterministic' (their statements: YtnmjkgnahhbnoaaGreatTotals.lean).
  GIVEN WITH THE SEED: the statements are not yours to turn. If you find one false, say at which input.
  Laid BY PROGRAM, IN A SANDBOX (cutbox-rows.mjs): the forced cells as the released guide's own fill.sh prints them over the translation 60aa1cb8222880d5… (all of the seat's roots in one cut). By AI agents, Wed Nov 11 2026. No macro, syntax, notation, axiom, sorry.
-/
import Derived.Test.YtnmjkgnahhbnoaaGreatChecked
import GoSem.Claim
import GoSem.ClaimJoined
import GoSem.ClaimMapViews
import Derived.JoinedTies
import Derived.KernelRfl
namespace Go.Proofs.YtnmjkgnahhbnoaaGreat
/- THE CELL 'sum', in the pinned program and in every row, IS THE sha256 OF THE DUMP (.gsa) THAT YtnmjkgnahhbnoaaGreatProg.lean LOADS. Nothing in Lean hashes anything: it is a label: what it is worth is what the hold of that sum in a sandbox is worth. -/
noncomputable def Tryz.pinned : Pinned := { name := "ytnmjkgnahhbnoaagreat", sum := "60aa1cb8222880d5dbc2f5534ad554842d1c38adaee15a00d0426444ced79136", checked := Tryz.checked }
namespace Rows
def none {H : Type} : Left H := { results := [], args := [] }

/-- 'cadastrelaw08.HashOrder': WHATEVER THE INPUT: true; the input reads as it did. -/
def hashOrderSpec : ChangeSpec := { name := "hashOrder", fn := fun _ => fun
  | [d1, d2] => { results := [.lit (.bool true)], args := [d1, d2] }
  | _ => none }
def hashOrderRow : OpenClaim := { program := "ytnmjkgnahhbnoaagreat", sum := "60aa1cb8222880d5dbc2f5534ad554842d1c38adaee15a00d0426444ced79136", func := "cadastre/cadastrelaw08.HashOrder", spec := "hashOrder", unfollowed := true, recurses := true, apart := false }
def HashOrderSaid : Prop := hashOrderRow.holds Tryz.pinned (OpenSpec.ofChange hashOrderSpec)

/-- ITS FALSE NEIGHBOUR: 'it returns false'. Refute it at one input. -/
def hashOrderWrong : ChangeSpec := { name := "hashOrder", fn := fun _ => fun
  | [d1, d2] => { results := [.lit (.bool false)], args := [d1, d2] }
  | _ => none }
def HashOrderWrongFalsely : Prop := hashOrderRow.holds Tryz.pinned (OpenSpec.ofChange hashOrderWrong)

/-- 'cadastrelaw08.HashFills': WHATEVER THE INPUT: true; the input reads as it did. -/
def hashFillsSpec : ChangeSpec := { name := "hashFills", fn := fun _ => fun
  | [d1, d2] => { results := [.lit (.bool true)], args := [d1, d2] }
  | _ => none }
def hashFillsRow : OpenClaim := { program := "ytnmjkgnahhbnoaagreat", sum := "60aa1cb8222880d5dbc2f5534ad554842d1c38adaee15a00d0426444ced79136", func := "cadastre/cadastrelaw08.HashFills", spec := "hashFills", unfollowed := true, recurses := true, apart := false }
def HashFillsSaid : Prop := hashFillsRow.holds Tryz.pinned (OpenSpec.ofChange hashFillsSpec)

/-- ITS FALSE NEIGHBOUR: 'it returns false'. Refute it at one input. -/
def hashFillsWrong : ChangeSpec := { name := "hashFills", fn := fun _ => fun
  | [d1, d2] => { results := [.lit (.bool false)], args := [d1, d2] }
  | _ => none }
def HashFillsWrongFalsely : Prop := hashFillsRow.holds Tryz.pinned (OpenSpec.ofChange hashFillsWrong)

/-- 'cadastrelaw08.HashLimits': WHATEVER THE INPUT: true; the input reads as it did. -/
def hashLimitsSpec : ChangeSpec := { name := "hashLimits", fn := fun _ => fun
  | [d1, d2, d3] => { results := [.lit (.bool true)], args := [d1, d2, d3] }
  | _ => none }
def hashLimitsRow : OpenClaim := { program := "ytnmjkgnahhbnoaagreat", sum := "60aa1cb8222880d5dbc2f5534ad554842d1c38adaee15a00d0426444ced79136", func := "cadastre/cadastrelaw08.HashLimits", spec := "hashLimits", unfollowed := true, recurses := true, apart := false }
def HashLimitsSaid : Prop := hashLimitsRow.holds Tryz.pinned (OpenSpec.ofChange hashLimitsSpec)

/-- ITS FALSE NEIGHBOUR: 'it returns false'. Refute it at one input. -/
def hashLimitsWrong : ChangeSpec := { name := "hashLimits", fn := fun _ => fun
  | [d1, d2, d3] => { results := [.lit (.bool false)], args := [d1, d2, d3] }
  | _ => none }
def HashLimitsWrongFalsely : Prop := hashLimitsRow.holds Tryz.pinned (OpenSpec.ofChange hashLimitsWrong)

/-- 'cadastrelaw08.HashFinds': WHATEVER THE INPUT: true; the input reads as it did. -/
def hashFindsSpec : ChangeSpec := { name := "hashFinds", fn := fun _ => fun
  | [d1, d2] => { results := [.lit (.bool true)], args := [d1, d2] }
  | _ => none }
def hashFindsRow : OpenClaim := { program := "ytnmjkgnahhbnoaagreat", sum := "60aa1cb8222880d5dbc2f5534ad554842d1c38adaee15a00d0426444ced79136", func := "cadastre/cadastrelaw08.HashFinds", spec := "hashFinds", unfollowed := true, recurses := true, apart := false }
def HashFindsSaid : Prop := hashFindsRow.holds Tryz.pinned (OpenSpec.ofChange hashFindsSpec)

/-- ITS FALSE NEIGHBOUR: 'it returns false'. Refute it at one input. -/
def hashFindsWrong : ChangeSpec := { name := "hashFinds", fn := fun _ => fun
  | [d1, d2] => { results := [.lit (.bool false)], args := [d1, d2] }
  | _ => none }
def HashFindsWrongFalsely : Prop := hashFindsRow.holds Tryz.pinned (OpenSpec.ofChange hashFindsWrong)

/- THE SECOND FORM. 'bulk': how many values and letters a reading holds, each counted each time it is reached (what is shared counts as often as it is met; a slice's spare places count too). A statement '..UptoSaid' is the law's where the arguments, and the package variables that the reading takes, are together of bulk at most 1048576: NARROWER than '..Said'. Prove '..Said' where nothing that the law and all that it calls make is longer than what came in: it says more and counts as full. Else prove '..UptoSaid'. A law counts once. -/
mutual
def uptoBulk {H : Type} : DataW H → Nat
  | .lit (.string bytes) => bytes.length + 1
  | .lit _ => 1
  | .nil => 1
  | .ptr d => uptoBulk d + 1
  | .slice elems spare => uptoBulkAll elems + uptoBulkAll spare + 1
  | .agg parts => uptoBulkAll parts + 1
  | .iface _ d => uptoBulk d + 1
  | .map entries => uptoBulkEntries entries + 1
  | .held _ => 1
def uptoBulkAll {H : Type} : List (DataW H) → Nat
  | [] => 0
  | d :: r => uptoBulk d + uptoBulkAll r
def uptoBulkEntries {H : Type} : List (Lit × DataW H) → Nat
  | [] => 0
  | x :: r => uptoBulkEntry x + uptoBulkEntries r
def uptoBulkEntry {H : Type} : Lit × DataW H → Nat
  | (.string bytes, d) => bytes.length + uptoBulk d + 1
  | (_, d) => uptoBulk d + 1
 end
def uptoSmall : (H : Type) → List (DataW H) → Bool := fun _ ds => decide (uptoBulkAll ds ≤ 1048576)
def OpenSpec.upto (s : _root_.Go.ChangeSpec) : _root_.Go.OpenSpec := { _root_.Go.OpenSpec.ofChange s with cond := some uptoSmall }

/-- 'cadastrelaw08.HashOrder', WHERE WHAT IT READS IS OF BULK AT MOST 1048576: true; the input reads as it did. -/
def hashOrderUptoRow : OpenClaim := { program := "ytnmjkgnahhbnoaagreat", sum := "60aa1cb8222880d5dbc2f5534ad554842d1c38adaee15a00d0426444ced79136", func := "cadastre/cadastrelaw08.HashOrder", spec := "hashOrder", unfollowed := true, recurses := true, apart := false, narrowed := true }
def HashOrderUptoSaid : Prop := hashOrderUptoRow.holds Tryz.pinned (OpenSpec.upto hashOrderSpec)

/-- 'cadastrelaw08.HashFills', WHERE WHAT IT READS IS OF BULK AT MOST 1048576: true; the input reads as it did. -/
def hashFillsUptoRow : OpenClaim := { program := "ytnmjkgnahhbnoaagreat", sum := "60aa1cb8222880d5dbc2f5534ad554842d1c38adaee15a00d0426444ced79136", func := "cadastre/cadastrelaw08.HashFills", spec := "hashFills", unfollowed := true, recurses := true, apart := false, narrowed := true }
def HashFillsUptoSaid : Prop := hashFillsUptoRow.holds Tryz.pinned (OpenSpec.upto hashFillsSpec)

/-- 'cadastrelaw08.HashLimits', WHERE WHAT IT READS IS OF BULK AT MOST 1048576: true; the input reads as it did. -/
def hashLimitsUptoRow : OpenClaim := { program := "ytnmjkgnahhbnoaagreat", sum := "60aa1cb8222880d5dbc2f5534ad554842d1c38adaee15a00d0426444ced79136", func := "cadastre/cadastrelaw08.HashLimits", spec := "hashLimits", unfollowed := true, recurses := true, apart := false, narrowed := true }
def HashLimitsUptoSaid : Prop := hashLimitsUptoRow.holds Tryz.pinned (OpenSpec.upto hashLimitsSpec)

/-- 'cadastrelaw08.HashFinds', WHERE WHAT IT READS IS OF BULK AT MOST 1048576: true; the input reads as it did. -/
def hashFindsUptoRow : OpenClaim := { program := "ytnmjkgnahhbnoaagreat", sum := "60aa1cb8222880d5dbc2f5534ad554842d1c38adaee15a00d0426444ced79136", func := "cadastre/cadastrelaw08.HashFinds", spec := "hashFinds", unfollowed := true, recurses := true, apart := false, narrowed := true }
def HashFindsUptoSaid : Prop := hashFindsUptoRow.holds Tryz.pinned (OpenSpec.upto hashFindsSpec)

end Rows
end Go.Proofs.YtnmjkgnahhbnoaaGreat
