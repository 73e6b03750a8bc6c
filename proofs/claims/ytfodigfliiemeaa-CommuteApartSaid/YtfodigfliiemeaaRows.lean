/-
  No cell of these rows narrows 'for every input' (looked for: loops, veiled, ifaces, maps, wideKeys, modest, calm, conditions, laid).
  DERIVED. THE GIVEN ROWS OF THIS SEAT. 3 by the template 'for every input the law returns true; each argument reads behind the call as it read before'; 0 by the template 'total and deterministic' (their statements: YtfodigfliiemeaaTotals.lean).
  GIVEN WITH THE SEED: the statements are not yours to turn. If you find one false, say at which input.
  Laid BY PROGRAM, IN A SANDBOX (cutbox-rows.mjs): the forced cells as the released guide's own fill.sh prints them over the translation 6f33397fa932aa27… (all of the seat's roots in one cut). By AI agents, Wed Nov 11 2026. No macro, syntax, notation, axiom, sorry.
-/
import Derived.Test.YtfodigfliiemeaaChecked
import GoSem.Claim
import GoSem.ClaimJoined
import GoSem.ClaimMapViews
import Derived.JoinedTies
import Derived.KernelRfl
namespace Go.Proofs.Ytfodigfliiemeaa
/- THE CELL 'sum', in the pinned program and in every row, IS THE sha256 OF THE DUMP (.gsa) THAT YtfodigfliiemeaaProg.lean LOADS. Nothing in Lean hashes anything: it is a label: what it is worth is what the hold of that sum in a sandbox is worth. -/
noncomputable def Try.pinned : Pinned := { name := "ytfodigfliiemeaa", sum := "6f33397fa932aa27db0ca200432f4a5d3b82ff78974873235094fe377d059e57", checked := Try.checked }
namespace Rows
def none {H : Type} : Left H := { results := [], args := [] }

/-- 'semvcslaw24.CommuteWrites': WHATEVER THE INPUT: true; the input reads as it did. -/
def commuteWritesSpec : ChangeSpec := { name := "commuteWrites", fn := fun _ => fun
  | [d1, d2] => { results := [.lit (.bool true)], args := [d1, d2] }
  | _ => none }
def commuteWritesRow : OpenClaim := { program := "ytfodigfliiemeaa", sum := "6f33397fa932aa27db0ca200432f4a5d3b82ff78974873235094fe377d059e57", func := "semvcs/semvcslaw24.CommuteWrites", spec := "commuteWrites", unfollowed := true, recurses := true, apart := false }
def CommuteWritesSaid : Prop := commuteWritesRow.holds Try.pinned (OpenSpec.ofChange commuteWritesSpec)

/-- ITS FALSE NEIGHBOUR: 'it returns false'. Refute it at one input. -/
def commuteWritesWrong : ChangeSpec := { name := "commuteWrites", fn := fun _ => fun
  | [d1, d2] => { results := [.lit (.bool false)], args := [d1, d2] }
  | _ => none }
def CommuteWritesWrongFalsely : Prop := commuteWritesRow.holds Try.pinned (OpenSpec.ofChange commuteWritesWrong)

/-- 'semvcslaw24.CommuteComposes': WHATEVER THE INPUT: true; the input reads as it did. -/
def commuteComposesSpec : ChangeSpec := { name := "commuteComposes", fn := fun _ => fun
  | [d1, d2, d3, d4] => { results := [.lit (.bool true)], args := [d1, d2, d3, d4] }
  | _ => none }
def commuteComposesRow : OpenClaim := { program := "ytfodigfliiemeaa", sum := "6f33397fa932aa27db0ca200432f4a5d3b82ff78974873235094fe377d059e57", func := "semvcs/semvcslaw24.CommuteComposes", spec := "commuteComposes", unfollowed := true, recurses := true, apart := false }
def CommuteComposesSaid : Prop := commuteComposesRow.holds Try.pinned (OpenSpec.ofChange commuteComposesSpec)

/-- ITS FALSE NEIGHBOUR: 'it returns false'. Refute it at one input. -/
def commuteComposesWrong : ChangeSpec := { name := "commuteComposes", fn := fun _ => fun
  | [d1, d2, d3, d4] => { results := [.lit (.bool false)], args := [d1, d2, d3, d4] }
  | _ => none }
def CommuteComposesWrongFalsely : Prop := commuteComposesRow.holds Try.pinned (OpenSpec.ofChange commuteComposesWrong)

/-- 'semvcslaw24.CommuteApart': WHATEVER THE INPUT: true; the input reads as it did. -/
def commuteApartSpec : ChangeSpec := { name := "commuteApart", fn := fun _ => fun
  | [d1, d2, d3] => { results := [.lit (.bool true)], args := [d1, d2, d3] }
  | _ => none }
def commuteApartRow : OpenClaim := { program := "ytfodigfliiemeaa", sum := "6f33397fa932aa27db0ca200432f4a5d3b82ff78974873235094fe377d059e57", func := "semvcs/semvcslaw24.CommuteApart", spec := "commuteApart", unfollowed := true, recurses := true, apart := false }
def CommuteApartSaid : Prop := commuteApartRow.holds Try.pinned (OpenSpec.ofChange commuteApartSpec)

/-- ITS FALSE NEIGHBOUR: 'it returns false'. Refute it at one input. -/
def commuteApartWrong : ChangeSpec := { name := "commuteApart", fn := fun _ => fun
  | [d1, d2, d3] => { results := [.lit (.bool false)], args := [d1, d2, d3] }
  | _ => none }
def CommuteApartWrongFalsely : Prop := commuteApartRow.holds Try.pinned (OpenSpec.ofChange commuteApartWrong)

/- THE SECOND FORM. 'bulk': how many values and letters a reading holds, each counted each time it is reached (what is shared counts as often as it is met; a slice's spare places count too). A statement '..UptoSaid' is the law's where the arguments, and the package variables that the reading takes, are together of bulk at most 1048576: NARROWER than '..Said'. Prove '..Said' where nothing that the law and all that it calls make is longer than what came in: it says more and counts as full. Else prove '..UptoSaid'. A law counts once. -/
mutual
def uptoBulk {H : Type} : DataW H → Nat
  | .lit (.string bytes) => bytes.length + 1
  | .lit _ => 1
  | .nil => 1
  | .ptr d => uptoBulk d + 1
  | .slice elems spare => uptoBulkAll elems + uptoBulkAll spare + 1
  | .agg parts => uptoBulkAll parts + 1
  | .iface _ d => uptoBulk d + 1
  | .map entries => uptoBulkEntries entries + 1
  | .held _ => 1
def uptoBulkAll {H : Type} : List (DataW H) → Nat
  | [] => 0
  | d :: r => uptoBulk d + uptoBulkAll r
def uptoBulkEntries {H : Type} : List (Lit × DataW H) → Nat
  | [] => 0
  | x :: r => uptoBulkEntry x + uptoBulkEntries r
def uptoBulkEntry {H : Type} : Lit × DataW H → Nat
  | (.string bytes, d) => bytes.length + uptoBulk d + 1
  | (_, d) => uptoBulk d + 1
 end
def uptoSmall : (H : Type) → List (DataW H) → Bool := fun _ ds => decide (uptoBulkAll ds ≤ 1048576)
def OpenSpec.upto (s : _root_.Go.ChangeSpec) : _root_.Go.OpenSpec := { _root_.Go.OpenSpec.ofChange s with cond := some uptoSmall }

/-- 'semvcslaw24.CommuteWrites', WHERE WHAT IT READS IS OF BULK AT MOST 1048576: true; the input reads as it did. -/
def commuteWritesUptoRow : OpenClaim := { program := "ytfodigfliiemeaa", sum := "6f33397fa932aa27db0ca200432f4a5d3b82ff78974873235094fe377d059e57", func := "semvcs/semvcslaw24.CommuteWrites", spec := "commuteWrites", unfollowed := true, recurses := true, apart := false, narrowed := true }
def CommuteWritesUptoSaid : Prop := commuteWritesUptoRow.holds Try.pinned (OpenSpec.upto commuteWritesSpec)

/-- 'semvcslaw24.CommuteComposes', WHERE WHAT IT READS IS OF BULK AT MOST 1048576: true; the input reads as it did. -/
def commuteComposesUptoRow : OpenClaim := { program := "ytfodigfliiemeaa", sum := "6f33397fa932aa27db0ca200432f4a5d3b82ff78974873235094fe377d059e57", func := "semvcs/semvcslaw24.CommuteComposes", spec := "commuteComposes", unfollowed := true, recurses := true, apart := false, narrowed := true }
def CommuteComposesUptoSaid : Prop := commuteComposesUptoRow.holds Try.pinned (OpenSpec.upto commuteComposesSpec)

/-- 'semvcslaw24.CommuteApart', WHERE WHAT IT READS IS OF BULK AT MOST 1048576: true; the input reads as it did. -/
def commuteApartUptoRow : OpenClaim := { program := "ytfodigfliiemeaa", sum := "6f33397fa932aa27db0ca200432f4a5d3b82ff78974873235094fe377d059e57", func := "semvcs/semvcslaw24.CommuteApart", spec := "commuteApart", unfollowed := true, recurses := true, apart := false, narrowed := true }
def CommuteApartUptoSaid : Prop := commuteApartUptoRow.holds Try.pinned (OpenSpec.upto commuteApartSpec)

end Rows
end Go.Proofs.Ytfodigfliiemeaa
