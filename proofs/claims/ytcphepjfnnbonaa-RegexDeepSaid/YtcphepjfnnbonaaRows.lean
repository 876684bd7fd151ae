/-
  NARROWER THAN 'FOR EVERY INPUT', by the rows' own cells (each row's printed sentence says how): RegexSame: loops.
  DERIVED. THE GIVEN ROWS OF THIS SEAT. 4 by the template 'for every input the law returns true; each argument reads behind the call as it read before'; 0 by the template 'total and deterministic' (their statements: YtcphepjfnnbonaaTotals.lean).
  GIVEN WITH THE SEED: the statements are not yours to turn. If you find one false, say at which input.
  Laid BY PROGRAM, IN A SANDBOX (cutbox-rows.mjs): the forced cells as the released guide's own fill.sh prints them over the translation d43ba6b49650f0b4… (all of the seat's roots in one cut). By AI agents, Wed Nov 11 2026. No macro, syntax, notation, axiom, sorry.
-/
import Derived.Test.YtcphepjfnnbonaaChecked
import GoSem.Claim
import GoSem.ClaimJoined
import GoSem.ClaimMapViews
import Derived.JoinedTies
import Derived.KernelRfl
namespace Go.Proofs.Ytcphepjfnnbonaa
/- THE CELL 'sum', in the pinned program and in every row, IS THE sha256 OF THE DUMP (.gsa) THAT YtcphepjfnnbonaaProg.lean LOADS. Nothing in Lean hashes anything: it is a label: what it is worth is what the hold of that sum in a sandbox is worth. -/
noncomputable def Try.pinned : Pinned := { name := "ytcphepjfnnbonaa", sum := "d43ba6b49650f0b481cdcb4eab8dfc3c59f2e7f9b3c7a2ee7bb76ccd13d5dcb1", checked := Try.checked }
namespace Rows
def none {H : Type} : Left H := { results := [], args := [] }

/-- 'sievelaw07.RegexFirst': WHATEVER THE INPUT: true; the input reads as it did. -/
def regexFirstSpec : ChangeSpec := { name := "regexFirst", fn := fun _ => fun
  | [d] => { results := [.lit (.bool true)], args := [d] }
  | _ => none }
def regexFirstRow : OpenClaim := { program := "ytcphepjfnnbonaa", sum := "d43ba6b49650f0b481cdcb4eab8dfc3c59f2e7f9b3c7a2ee7bb76ccd13d5dcb1", func := "sieve/sievelaw07.RegexFirst", spec := "regexFirst", inPlace := ["internal/bytealg.IndexByteString"], unfollowed := true, recurses := true, apart := false }
def RegexFirstSaid : Prop := regexFirstRow.holds Try.pinned (OpenSpec.ofChange regexFirstSpec)

/-- ITS FALSE NEIGHBOUR: 'it returns false'. Refute it at one input. -/
def regexFirstWrong : ChangeSpec := { name := "regexFirst", fn := fun _ => fun
  | [d] => { results := [.lit (.bool false)], args := [d] }
  | _ => none }
def RegexFirstWrongFalsely : Prop := regexFirstRow.holds Try.pinned (OpenSpec.ofChange regexFirstWrong)

/-- 'sievelaw07.RegexSame': WHATEVER THE INPUT: true; the input reads as it did. -/
def regexSameSpec : ChangeSpec := { name := "regexSame", fn := fun _ => fun
  | [d1, d2] => { results := [.lit (.bool true)], args := [d1, d2] }
  | _ => none }
def regexSameRow : OpenClaim := { program := "ytcphepjfnnbonaa", sum := "d43ba6b49650f0b481cdcb4eab8dfc3c59f2e7f9b3c7a2ee7bb76ccd13d5dcb1", func := "sieve/sievelaw07.RegexSame", spec := "regexSame", inPlace := ["internal/bytealg.IndexByteString"], unfollowed := true, recurses := true, loops := true, apart := false }
def RegexSameSaid : Prop := regexSameRow.holds Try.pinned (OpenSpec.ofChange regexSameSpec)

/-- ITS FALSE NEIGHBOUR: 'it returns false'. Refute it at one input. -/
def regexSameWrong : ChangeSpec := { name := "regexSame", fn := fun _ => fun
  | [d1, d2] => { results := [.lit (.bool false)], args := [d1, d2] }
  | _ => none }
def RegexSameWrongFalsely : Prop := regexSameRow.holds Try.pinned (OpenSpec.ofChange regexSameWrong)

/-- 'sievelaw07.RegexDeep': WHATEVER THE INPUT: true; the input reads as it did. -/
def regexDeepSpec : ChangeSpec := { name := "regexDeep", fn := fun _ => fun
  | [d1, d2] => { results := [.lit (.bool true)], args := [d1, d2] }
  | _ => none }
def regexDeepRow : OpenClaim := { program := "ytcphepjfnnbonaa", sum := "d43ba6b49650f0b481cdcb4eab8dfc3c59f2e7f9b3c7a2ee7bb76ccd13d5dcb1", func := "sieve/sievelaw07.RegexDeep", spec := "regexDeep", inPlace := ["internal/bytealg.IndexByteString"], unfollowed := true, recurses := true, apart := false }
def RegexDeepSaid : Prop := regexDeepRow.holds Try.pinned (OpenSpec.ofChange regexDeepSpec)

/-- ITS FALSE NEIGHBOUR: 'it returns false'. Refute it at one input. -/
def regexDeepWrong : ChangeSpec := { name := "regexDeep", fn := fun _ => fun
  | [d1, d2] => { results := [.lit (.bool false)], args := [d1, d2] }
  | _ => none }
def RegexDeepWrongFalsely : Prop := regexDeepRow.holds Try.pinned (OpenSpec.ofChange regexDeepWrong)

/-- 'sievelaw07.RegexRound': WHATEVER THE INPUT: true; the input reads as it did. -/
def regexRoundSpec : ChangeSpec := { name := "regexRound", fn := fun _ => fun
  | [d1, d2] => { results := [.lit (.bool true)], args := [d1, d2] }
  | _ => none }
def regexRoundRow : OpenClaim := { program := "ytcphepjfnnbonaa", sum := "d43ba6b49650f0b481cdcb4eab8dfc3c59f2e7f9b3c7a2ee7bb76ccd13d5dcb1", func := "sieve/sievelaw07.RegexRound", spec := "regexRound", inPlace := ["internal/bytealg.IndexByteString"], unfollowed := true, recurses := true, apart := false }
def RegexRoundSaid : Prop := regexRoundRow.holds Try.pinned (OpenSpec.ofChange regexRoundSpec)

/-- ITS FALSE NEIGHBOUR: 'it returns false'. Refute it at one input. -/
def regexRoundWrong : ChangeSpec := { name := "regexRound", fn := fun _ => fun
  | [d1, d2] => { results := [.lit (.bool false)], args := [d1, d2] }
  | _ => none }
def RegexRoundWrongFalsely : Prop := regexRoundRow.holds Try.pinned (OpenSpec.ofChange regexRoundWrong)

/- THE SECOND FORM. 'bulk': how many values and letters a reading holds, each counted each time it is reached (what is shared counts as often as it is met; a slice's spare places count too). A statement '..UptoSaid' is the law's where the arguments, and the package variables that the reading takes, are together of bulk at most 1048576: NARROWER than '..Said'. Prove '..Said' where nothing that the law and all that it calls make is longer than what came in: it says more and counts as full. Else prove '..UptoSaid'. A law counts once. -/
mutual
def uptoBulk {H : Type} : DataW H → Nat
  | .lit (.string bytes) => bytes.length + 1
  | .lit _ => 1
  | .nil => 1
  | .ptr d => uptoBulk d + 1
  | .slice elems spare => uptoBulkAll elems + uptoBulkAll spare + 1
  | .agg parts => uptoBulkAll parts + 1
  | .iface _ d => uptoBulk d + 1
  | .map entries => uptoBulkEntries entries + 1
  | .held _ => 1
def uptoBulkAll {H : Type} : List (DataW H) → Nat
  | [] => 0
  | d :: r => uptoBulk d + uptoBulkAll r
def uptoBulkEntries {H : Type} : List (Lit × DataW H) → Nat
  | [] => 0
  | x :: r => uptoBulkEntry x + uptoBulkEntries r
def uptoBulkEntry {H : Type} : Lit × DataW H → Nat
  | (.string bytes, d) => bytes.length + uptoBulk d + 1
  | (_, d) => uptoBulk d + 1
 end
def uptoSmall : (H : Type) → List (DataW H) → Bool := fun _ ds => decide (uptoBulkAll ds ≤ 1048576)
def OpenSpec.upto (s : _root_.Go.ChangeSpec) : _root_.Go.OpenSpec := { _root_.Go.OpenSpec.ofChange s with cond := some uptoSmall }

/-- 'sievelaw07.RegexFirst', WHERE WHAT IT READS IS OF BULK AT MOST 1048576: true; the input reads as it did. -/
def regexFirstUptoRow : OpenClaim := { program := "ytcphepjfnnbonaa", sum := "d43ba6b49650f0b481cdcb4eab8dfc3c59f2e7f9b3c7a2ee7bb76ccd13d5dcb1", func := "sieve/sievelaw07.RegexFirst", spec := "regexFirst", inPlace := ["internal/bytealg.IndexByteString"], unfollowed := true, recurses := true, apart := false, narrowed := true }
def RegexFirstUptoSaid : Prop := regexFirstUptoRow.holds Try.pinned (OpenSpec.upto regexFirstSpec)

/-- 'sievelaw07.RegexSame', WHERE WHAT IT READS IS OF BULK AT MOST 1048576: true; the input reads as it did. -/
def regexSameUptoRow : OpenClaim := { program := "ytcphepjfnnbonaa", sum := "d43ba6b49650f0b481cdcb4eab8dfc3c59f2e7f9b3c7a2ee7bb76ccd13d5dcb1", func := "sieve/sievelaw07.RegexSame", spec := "regexSame", inPlace := ["internal/bytealg.IndexByteString"], unfollowed := true, recurses := true, loops := true, apart := false, narrowed := true }
def RegexSameUptoSaid : Prop := regexSameUptoRow.holds Try.pinned (OpenSpec.upto regexSameSpec)

/-- 'sievelaw07.RegexDeep', WHERE WHAT IT READS IS OF BULK AT MOST 1048576: true; the input reads as it did. -/
def regexDeepUptoRow : OpenClaim := { program := "ytcphepjfnnbonaa", sum := "d43ba6b49650f0b481cdcb4eab8dfc3c59f2e7f9b3c7a2ee7bb76ccd13d5dcb1", func := "sieve/sievelaw07.RegexDeep", spec := "regexDeep", inPlace := ["internal/bytealg.IndexByteString"], unfollowed := true, recurses := true, apart := false, narrowed := true }
def RegexDeepUptoSaid : Prop := regexDeepUptoRow.holds Try.pinned (OpenSpec.upto regexDeepSpec)

/-- 'sievelaw07.RegexRound', WHERE WHAT IT READS IS OF BULK AT MOST 1048576: true; the input reads as it did. -/
def regexRoundUptoRow : OpenClaim := { program := "ytcphepjfnnbonaa", sum := "d43ba6b49650f0b481cdcb4eab8dfc3c59f2e7f9b3c7a2ee7bb76ccd13d5dcb1", func := "sieve/sievelaw07.RegexRound", spec := "regexRound", inPlace := ["internal/bytealg.IndexByteString"], unfollowed := true, recurses := true, apart := false, narrowed := true }
def RegexRoundUptoSaid : Prop := regexRoundUptoRow.holds Try.pinned (OpenSpec.upto regexRoundSpec)

end Rows
end Go.Proofs.Ytcphepjfnnbonaa
