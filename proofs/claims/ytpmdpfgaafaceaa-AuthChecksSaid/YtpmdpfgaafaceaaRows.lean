/-
  NARROWER THAN 'FOR EVERY INPUT', by the rows' own cells (each row's printed sentence says how): AuthLevels: loops · AuthChecks: loops · AuthJoined: loops.
  DERIVED. THE GIVEN ROWS OF THIS SEAT. 3 by the template 'for every input the law returns true; each argument reads behind the call as it read before'; 0 by the template 'total and deterministic' (their statements: YtpmdpfgaafaceaaTotals.lean).
  GIVEN WITH THE SEED: the statements are not yours to turn. If you find one false, say at which input.
  Laid BY PROGRAM, IN A SANDBOX (cutbox-rows.mjs): the forced cells as the released guide's own fill.sh prints them over the translation 8b020309200b9d78… (all of the seat's roots in one cut). By AI agents, Wed Nov 11 2026. No macro, syntax, notation, axiom, sorry.
-/
import Derived.Test.YtpmdpfgaafaceaaChecked
import GoSem.Claim
import GoSem.ClaimJoined
import GoSem.ClaimMapViews
import Derived.JoinedTies
import Derived.KernelRfl
namespace Go.Proofs.Ytpmdpfgaafaceaa
/- THE CELL 'sum', in the pinned program and in every row, IS THE sha256 OF THE DUMP (.gsa) THAT YtpmdpfgaafaceaaProg.lean LOADS. Nothing in Lean hashes anything: it is a label: what it is worth is what the hold of that sum in a sandbox is worth. -/
noncomputable def Try.pinned : Pinned := { name := "ytpmdpfgaafaceaa", sum := "8b020309200b9d78427727fb347f263e556cea11edb2e5378c3b69c080dcb961", checked := Try.checked }
namespace Rows
def none {H : Type} : Left H := { results := [], args := [] }

/-- 'coveylaw16.AuthLevels': WHATEVER THE INPUT: true; the input reads as it did. -/
def authLevelsSpec : ChangeSpec := { name := "authLevels", fn := fun _ => fun
  | [d1, d2] => { results := [.lit (.bool true)], args := [d1, d2] }
  | _ => none }
def authLevelsRow : OpenClaim := { program := "ytpmdpfgaafaceaa", sum := "8b020309200b9d78427727fb347f263e556cea11edb2e5378c3b69c080dcb961", func := "covey/coveylaw16.AuthLevels", spec := "authLevels", inPlace := ["internal/bytealg.IndexByteString", "internal/bytealg.IndexString"], unfollowed := true, recurses := true, named := ["internal/bytealg.MaxLen"], loops := true, plainKeys := false, apart := false }
def AuthLevelsSaid : Prop := authLevelsRow.holds Try.pinned (OpenSpec.ofChange authLevelsSpec)

/-- ITS FALSE NEIGHBOUR: 'it returns false'. Refute it at one input. -/
def authLevelsWrong : ChangeSpec := { name := "authLevels", fn := fun _ => fun
  | [d1, d2] => { results := [.lit (.bool false)], args := [d1, d2] }
  | _ => none }
def AuthLevelsWrongFalsely : Prop := authLevelsRow.holds Try.pinned (OpenSpec.ofChange authLevelsWrong)

/-- 'coveylaw16.AuthChecks': WHATEVER THE INPUT: true; the input reads as it did. -/
def authChecksSpec : ChangeSpec := { name := "authChecks", fn := fun _ => fun
  | [d1, d2] => { results := [.lit (.bool true)], args := [d1, d2] }
  | _ => none }
def authChecksRow : OpenClaim := { program := "ytpmdpfgaafaceaa", sum := "8b020309200b9d78427727fb347f263e556cea11edb2e5378c3b69c080dcb961", func := "covey/coveylaw16.AuthChecks", spec := "authChecks", inPlace := ["internal/bytealg.IndexByteString", "internal/bytealg.IndexString"], unfollowed := true, recurses := true, named := ["internal/bytealg.MaxLen"], loops := true, plainKeys := false, apart := false }
def AuthChecksSaid : Prop := authChecksRow.holds Try.pinned (OpenSpec.ofChange authChecksSpec)

/-- ITS FALSE NEIGHBOUR: 'it returns false'. Refute it at one input. -/
def authChecksWrong : ChangeSpec := { name := "authChecks", fn := fun _ => fun
  | [d1, d2] => { results := [.lit (.bool false)], args := [d1, d2] }
  | _ => none }
def AuthChecksWrongFalsely : Prop := authChecksRow.holds Try.pinned (OpenSpec.ofChange authChecksWrong)

/-- 'coveylaw16.AuthJoined': WHATEVER THE INPUT: true; the input reads as it did. -/
def authJoinedSpec : ChangeSpec := { name := "authJoined", fn := fun _ => fun
  | [d1, d2] => { results := [.lit (.bool true)], args := [d1, d2] }
  | _ => none }
def authJoinedRow : OpenClaim := { program := "ytpmdpfgaafaceaa", sum := "8b020309200b9d78427727fb347f263e556cea11edb2e5378c3b69c080dcb961", func := "covey/coveylaw16.AuthJoined", spec := "authJoined", inPlace := ["internal/bytealg.IndexByteString", "internal/bytealg.IndexString"], unfollowed := true, recurses := true, named := ["internal/bytealg.MaxLen"], loops := true, plainKeys := false, apart := false }
def AuthJoinedSaid : Prop := authJoinedRow.holds Try.pinned (OpenSpec.ofChange authJoinedSpec)

/-- ITS FALSE NEIGHBOUR: 'it returns false'. Refute it at one input. -/
def authJoinedWrong : ChangeSpec := { name := "authJoined", fn := fun _ => fun
  | [d1, d2] => { results := [.lit (.bool false)], args := [d1, d2] }
  | _ => none }
def AuthJoinedWrongFalsely : Prop := authJoinedRow.holds Try.pinned (OpenSpec.ofChange authJoinedWrong)

/- THE SECOND FORM. 'bulk': how many values and letters a reading holds, each counted each time it is reached (what is shared counts as often as it is met; a slice's spare places count too). A statement '..UptoSaid' is the law's where the arguments, and the package variables that the reading takes, are together of bulk at most 1048576: NARROWER than '..Said'. Prove '..Said' where nothing that the law and all that it calls make is longer than what came in: it says more and counts as full. Else prove '..UptoSaid'. A law counts once. -/
mutual
def uptoBulk {H : Type} : DataW H → Nat
  | .lit (.string bytes) => bytes.length + 1
  | .lit _ => 1
  | .nil => 1
  | .ptr d => uptoBulk d + 1
  | .slice elems spare => uptoBulkAll elems + uptoBulkAll spare + 1
  | .agg parts => uptoBulkAll parts + 1
  | .iface _ d => uptoBulk d + 1
  | .map entries => uptoBulkEntries entries + 1
  | .held _ => 1
def uptoBulkAll {H : Type} : List (DataW H) → Nat
  | [] => 0
  | d :: r => uptoBulk d + uptoBulkAll r
def uptoBulkEntries {H : Type} : List (Lit × DataW H) → Nat
  | [] => 0
  | x :: r => uptoBulkEntry x + uptoBulkEntries r
def uptoBulkEntry {H : Type} : Lit × DataW H → Nat
  | (.string bytes, d) => bytes.length + uptoBulk d + 1
  | (_, d) => uptoBulk d + 1
 end
def uptoSmall : (H : Type) → List (DataW H) → Bool := fun _ ds => decide (uptoBulkAll ds ≤ 1048576)
def OpenSpec.upto (s : _root_.Go.ChangeSpec) : _root_.Go.OpenSpec := { _root_.Go.OpenSpec.ofChange s with cond := some uptoSmall }

/-- 'coveylaw16.AuthLevels', WHERE WHAT IT READS IS OF BULK AT MOST 1048576: true; the input reads as it did. -/
def authLevelsUptoRow : OpenClaim := { program := "ytpmdpfgaafaceaa", sum := "8b020309200b9d78427727fb347f263e556cea11edb2e5378c3b69c080dcb961", func := "covey/coveylaw16.AuthLevels", spec := "authLevels", inPlace := ["internal/bytealg.IndexByteString", "internal/bytealg.IndexString"], unfollowed := true, recurses := true, named := ["internal/bytealg.MaxLen"], loops := true, plainKeys := false, apart := false, narrowed := true }
def AuthLevelsUptoSaid : Prop := authLevelsUptoRow.holds Try.pinned (OpenSpec.upto authLevelsSpec)

/-- 'coveylaw16.AuthChecks', WHERE WHAT IT READS IS OF BULK AT MOST 1048576: true; the input reads as it did. -/
def authChecksUptoRow : OpenClaim := { program := "ytpmdpfgaafaceaa", sum := "8b020309200b9d78427727fb347f263e556cea11edb2e5378c3b69c080dcb961", func := "covey/coveylaw16.AuthChecks", spec := "authChecks", inPlace := ["internal/bytealg.IndexByteString", "internal/bytealg.IndexString"], unfollowed := true, recurses := true, named := ["internal/bytealg.MaxLen"], loops := true, plainKeys := false, apart := false, narrowed := true }
def AuthChecksUptoSaid : Prop := authChecksUptoRow.holds Try.pinned (OpenSpec.upto authChecksSpec)

/-- 'coveylaw16.AuthJoined', WHERE WHAT IT READS IS OF BULK AT MOST 1048576: true; the input reads as it did. -/
def authJoinedUptoRow : OpenClaim := { program := "ytpmdpfgaafaceaa", sum := "8b020309200b9d78427727fb347f263e556cea11edb2e5378c3b69c080dcb961", func := "covey/coveylaw16.AuthJoined", spec := "authJoined", inPlace := ["internal/bytealg.IndexByteString", "internal/bytealg.IndexString"], unfollowed := true, recurses := true, named := ["internal/bytealg.MaxLen"], loops := true, plainKeys := false, apart := false, narrowed := true }
def AuthJoinedUptoSaid : Prop := authJoinedUptoRow.holds Try.pinned (OpenSpec.upto authJoinedSpec)

end Rows
end Go.Proofs.Ytpmdpfgaafaceaa
