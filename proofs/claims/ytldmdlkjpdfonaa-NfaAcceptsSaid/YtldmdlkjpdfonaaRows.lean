/-
  NARROWER THAN 'FOR EVERY INPUT', by the rows' own cells (each row's printed sentence says how): NfaAccepts: loops · NfaCounts: loops · NfaApart: loops · NfaBuilds: loops.
  DERIVED. THE GIVEN ROWS OF THIS SEAT. 5 by the template 'for every input the law returns true; each argument reads behind the call as it read before'; 0 by the template 'total and deterministic' (their statements: YtldmdlkjpdfonaaTotals.lean).
  GIVEN WITH THE SEED: the statements are not yours to turn. If you find one false, say at which input.
  Laid BY PROGRAM, IN A SANDBOX (cutbox-rows.mjs): the forced cells as the released guide's own fill.sh prints them over the translation e89f46dad78fc7b4… (all of the seat's roots in one cut). By AI agents, Wed Nov 11 2026. No macro, syntax, notation, axiom, sorry.
-/
import Derived.Test.YtldmdlkjpdfonaaChecked
import GoSem.Claim
import GoSem.ClaimJoined
import GoSem.ClaimMapViews
import Derived.JoinedTies
import Derived.KernelRfl
namespace Go.Proofs.Ytldmdlkjpdfonaa
/- THE CELL 'sum', in the pinned program and in every row, IS THE sha256 OF THE DUMP (.gsa) THAT YtldmdlkjpdfonaaProg.lean LOADS. Nothing in Lean hashes anything: it is a label: what it is worth is what the hold of that sum in a sandbox is worth. -/
noncomputable def Try.pinned : Pinned := { name := "ytldmdlkjpdfonaa", sum := "e89f46dad78fc7b4163f4d1de0a6c4e9317b6b77871eadb444460eae61e7e15a", checked := Try.checked }
namespace Rows
def none {H : Type} : Left H := { results := [], args := [] }

/-- 'sievelaw14.NfaAccepts': WHATEVER THE INPUT: true; the input reads as it did. -/
def nfaAcceptsSpec : ChangeSpec := { name := "nfaAccepts", fn := fun _ => fun
  | [d1, d2, d3] => { results := [.lit (.bool true)], args := [d1, d2, d3] }
  | _ => none }
def nfaAcceptsRow : OpenClaim := { program := "ytldmdlkjpdfonaa", sum := "e89f46dad78fc7b4163f4d1de0a6c4e9317b6b77871eadb444460eae61e7e15a", func := "sieve/sievelaw14.NfaAccepts", spec := "nfaAccepts", inPlace := ["internal/bytealg.IndexByteString"], unfollowed := true, recurses := true, loops := true, apart := false }
def NfaAcceptsSaid : Prop := nfaAcceptsRow.holds Try.pinned (OpenSpec.ofChange nfaAcceptsSpec)

/-- ITS FALSE NEIGHBOUR: 'it returns false'. Refute it at one input. -/
def nfaAcceptsWrong : ChangeSpec := { name := "nfaAccepts", fn := fun _ => fun
  | [d1, d2, d3] => { results := [.lit (.bool false)], args := [d1, d2, d3] }
  | _ => none }
def NfaAcceptsWrongFalsely : Prop := nfaAcceptsRow.holds Try.pinned (OpenSpec.ofChange nfaAcceptsWrong)

/-- 'sievelaw14.NfaCounts': WHATEVER THE INPUT: true; the input reads as it did. -/
def nfaCountsSpec : ChangeSpec := { name := "nfaCounts", fn := fun _ => fun
  | [d] => { results := [.lit (.bool true)], args := [d] }
  | _ => none }
def nfaCountsRow : OpenClaim := { program := "ytldmdlkjpdfonaa", sum := "e89f46dad78fc7b4163f4d1de0a6c4e9317b6b77871eadb444460eae61e7e15a", func := "sieve/sievelaw14.NfaCounts", spec := "nfaCounts", inPlace := ["internal/bytealg.IndexByteString"], unfollowed := true, recurses := true, loops := true, apart := false }
def NfaCountsSaid : Prop := nfaCountsRow.holds Try.pinned (OpenSpec.ofChange nfaCountsSpec)

/-- ITS FALSE NEIGHBOUR: 'it returns false'. Refute it at one input. -/
def nfaCountsWrong : ChangeSpec := { name := "nfaCounts", fn := fun _ => fun
  | [d] => { results := [.lit (.bool false)], args := [d] }
  | _ => none }
def NfaCountsWrongFalsely : Prop := nfaCountsRow.holds Try.pinned (OpenSpec.ofChange nfaCountsWrong)

/-- 'sievelaw14.NfaApart': WHATEVER THE INPUT: true; the input reads as it did. -/
def nfaApartSpec : ChangeSpec := { name := "nfaApart", fn := fun _ => fun
  | [d1, d2] => { results := [.lit (.bool true)], args := [d1, d2] }
  | _ => none }
def nfaApartRow : OpenClaim := { program := "ytldmdlkjpdfonaa", sum := "e89f46dad78fc7b4163f4d1de0a6c4e9317b6b77871eadb444460eae61e7e15a", func := "sieve/sievelaw14.NfaApart", spec := "nfaApart", inPlace := ["internal/bytealg.IndexByteString"], unfollowed := true, recurses := true, loops := true, apart := false }
def NfaApartSaid : Prop := nfaApartRow.holds Try.pinned (OpenSpec.ofChange nfaApartSpec)

/-- ITS FALSE NEIGHBOUR: 'it returns false'. Refute it at one input. -/
def nfaApartWrong : ChangeSpec := { name := "nfaApart", fn := fun _ => fun
  | [d1, d2] => { results := [.lit (.bool false)], args := [d1, d2] }
  | _ => none }
def NfaApartWrongFalsely : Prop := nfaApartRow.holds Try.pinned (OpenSpec.ofChange nfaApartWrong)

/-- 'sievelaw14.NfaNil': WHATEVER THE INPUT: true; the input reads as it did. -/
def nfaNilSpec : ChangeSpec := { name := "nfaNil", fn := fun _ => fun
  | [d] => { results := [.lit (.bool true)], args := [d] }
  | _ => none }
def nfaNilRow : OpenClaim := { program := "ytldmdlkjpdfonaa", sum := "e89f46dad78fc7b4163f4d1de0a6c4e9317b6b77871eadb444460eae61e7e15a", func := "sieve/sievelaw14.NfaNil", spec := "nfaNil", inPlace := ["internal/bytealg.IndexByteString"], unfollowed := true, recurses := true, apart := false }
def NfaNilSaid : Prop := nfaNilRow.holds Try.pinned (OpenSpec.ofChange nfaNilSpec)

/-- ITS FALSE NEIGHBOUR: 'it returns false'. Refute it at one input. -/
def nfaNilWrong : ChangeSpec := { name := "nfaNil", fn := fun _ => fun
  | [d] => { results := [.lit (.bool false)], args := [d] }
  | _ => none }
def NfaNilWrongFalsely : Prop := nfaNilRow.holds Try.pinned (OpenSpec.ofChange nfaNilWrong)

/-- 'sievelaw14.NfaBuilds': WHATEVER THE INPUT: true; the input reads as it did. -/
def nfaBuildsSpec : ChangeSpec := { name := "nfaBuilds", fn := fun _ => fun
  | [d1, d2, d3] => { results := [.lit (.bool true)], args := [d1, d2, d3] }
  | _ => none }
def nfaBuildsRow : OpenClaim := { program := "ytldmdlkjpdfonaa", sum := "e89f46dad78fc7b4163f4d1de0a6c4e9317b6b77871eadb444460eae61e7e15a", func := "sieve/sievelaw14.NfaBuilds", spec := "nfaBuilds", inPlace := ["internal/bytealg.IndexByteString"], unfollowed := true, recurses := true, loops := true, apart := false }
def NfaBuildsSaid : Prop := nfaBuildsRow.holds Try.pinned (OpenSpec.ofChange nfaBuildsSpec)

/-- ITS FALSE NEIGHBOUR: 'it returns false'. Refute it at one input. -/
def nfaBuildsWrong : ChangeSpec := { name := "nfaBuilds", fn := fun _ => fun
  | [d1, d2, d3] => { results := [.lit (.bool false)], args := [d1, d2, d3] }
  | _ => none }
def NfaBuildsWrongFalsely : Prop := nfaBuildsRow.holds Try.pinned (OpenSpec.ofChange nfaBuildsWrong)

/- THE SECOND FORM. 'bulk': how many values and letters a reading holds, each counted each time it is reached (what is shared counts as often as it is met; a slice's spare places count too). A statement '..UptoSaid' is the law's where the arguments, and the package variables that the reading takes, are together of bulk at most 1048576: NARROWER than '..Said'. Prove '..Said' where nothing that the law and all that it calls make is longer than what came in: it says more and counts as full. Else prove '..UptoSaid'. A law counts once. -/
mutual
def uptoBulk {H : Type} : DataW H → Nat
  | .lit (.string bytes) => bytes.length + 1
  | .lit _ => 1
  | .nil => 1
  | .ptr d => uptoBulk d + 1
  | .slice elems spare => uptoBulkAll elems + uptoBulkAll spare + 1
  | .agg parts => uptoBulkAll parts + 1
  | .iface _ d => uptoBulk d + 1
  | .map entries => uptoBulkEntries entries + 1
  | .held _ => 1
def uptoBulkAll {H : Type} : List (DataW H) → Nat
  | [] => 0
  | d :: r => uptoBulk d + uptoBulkAll r
def uptoBulkEntries {H : Type} : List (Lit × DataW H) → Nat
  | [] => 0
  | x :: r => uptoBulkEntry x + uptoBulkEntries r
def uptoBulkEntry {H : Type} : Lit × DataW H → Nat
  | (.string bytes, d) => bytes.length + uptoBulk d + 1
  | (_, d) => uptoBulk d + 1
 end
def uptoSmall : (H : Type) → List (DataW H) → Bool := fun _ ds => decide (uptoBulkAll ds ≤ 1048576)
def OpenSpec.upto (s : _root_.Go.ChangeSpec) : _root_.Go.OpenSpec := { _root_.Go.OpenSpec.ofChange s with cond := some uptoSmall }

/-- 'sievelaw14.NfaAccepts', WHERE WHAT IT READS IS OF BULK AT MOST 1048576: true; the input reads as it did. -/
def nfaAcceptsUptoRow : OpenClaim := { program := "ytldmdlkjpdfonaa", sum := "e89f46dad78fc7b4163f4d1de0a6c4e9317b6b77871eadb444460eae61e7e15a", func := "sieve/sievelaw14.NfaAccepts", spec := "nfaAccepts", inPlace := ["internal/bytealg.IndexByteString"], unfollowed := true, recurses := true, loops := true, apart := false, narrowed := true }
def NfaAcceptsUptoSaid : Prop := nfaAcceptsUptoRow.holds Try.pinned (OpenSpec.upto nfaAcceptsSpec)

/-- 'sievelaw14.NfaCounts', WHERE WHAT IT READS IS OF BULK AT MOST 1048576: true; the input reads as it did. -/
def nfaCountsUptoRow : OpenClaim := { program := "ytldmdlkjpdfonaa", sum := "e89f46dad78fc7b4163f4d1de0a6c4e9317b6b77871eadb444460eae61e7e15a", func := "sieve/sievelaw14.NfaCounts", spec := "nfaCounts", inPlace := ["internal/bytealg.IndexByteString"], unfollowed := true, recurses := true, loops := true, apart := false, narrowed := true }
def NfaCountsUptoSaid : Prop := nfaCountsUptoRow.holds Try.pinned (OpenSpec.upto nfaCountsSpec)

/-- 'sievelaw14.NfaApart', WHERE WHAT IT READS IS OF BULK AT MOST 1048576: true; the input reads as it did. -/
def nfaApartUptoRow : OpenClaim := { program := "ytldmdlkjpdfonaa", sum := "e89f46dad78fc7b4163f4d1de0a6c4e9317b6b77871eadb444460eae61e7e15a", func := "sieve/sievelaw14.NfaApart", spec := "nfaApart", inPlace := ["internal/bytealg.IndexByteString"], unfollowed := true, recurses := true, loops := true, apart := false, narrowed := true }
def NfaApartUptoSaid : Prop := nfaApartUptoRow.holds Try.pinned (OpenSpec.upto nfaApartSpec)

/-- 'sievelaw14.NfaNil', WHERE WHAT IT READS IS OF BULK AT MOST 1048576: true; the input reads as it did. -/
def nfaNilUptoRow : OpenClaim := { program := "ytldmdlkjpdfonaa", sum := "e89f46dad78fc7b4163f4d1de0a6c4e9317b6b77871eadb444460eae61e7e15a", func := "sieve/sievelaw14.NfaNil", spec := "nfaNil", inPlace := ["internal/bytealg.IndexByteString"], unfollowed := true, recurses := true, apart := false, narrowed := true }
def NfaNilUptoSaid : Prop := nfaNilUptoRow.holds Try.pinned (OpenSpec.upto nfaNilSpec)

/-- 'sievelaw14.NfaBuilds', WHERE WHAT IT READS IS OF BULK AT MOST 1048576: true; the input reads as it did. -/
def nfaBuildsUptoRow : OpenClaim := { program := "ytldmdlkjpdfonaa", sum := "e89f46dad78fc7b4163f4d1de0a6c4e9317b6b77871eadb444460eae61e7e15a", func := "sieve/sievelaw14.NfaBuilds", spec := "nfaBuilds", inPlace := ["internal/bytealg.IndexByteString"], unfollowed := true, recurses := true, loops := true, apart := false, narrowed := true }
def NfaBuildsUptoSaid : Prop := nfaBuildsUptoRow.holds Try.pinned (OpenSpec.upto nfaBuildsSpec)

end Rows
end Go.Proofs.Ytldmdlkjpdfonaa
