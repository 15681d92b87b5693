/-
  No cell of these rows narrows 'for every input' (looked for: loops, veiled, ifaces, maps, wideKeys, modest, calm, conditions, laid).
  DERIVED. THE GIVEN ROWS OF THIS SEAT. 4 by the template 'for every input the law returns true; each argument reads behind the call as it read before'; 0 by the template 'total and deterministic' (their statements: YtifffggppgphkaaTotals.lean).
  GIVEN WITH THE SEED: the statements are not yours to turn. If you find one false, say at which input.
  Laid BY PROGRAM, IN A SANDBOX (cutbox-rows.mjs): the forced cells as the released guide's own fill.sh prints them over the translation 113e3e3b313f9c04… (all of the seat's roots in one cut). By AI agents, Wed Nov 11 2026. No macro, syntax, notation, axiom, sorry.
-/
import Derived.Test.YtifffggppgphkaaChecked
import GoSem.Claim
import GoSem.ClaimJoined
import GoSem.ClaimMapViews
import Derived.JoinedTies
import Derived.KernelRfl
namespace Go.Proofs.Ytifffggppgphkaa
/- THE CELL 'sum', in the pinned program and in every row, IS THE sha256 OF THE DUMP (.gsa) THAT YtifffggppgphkaaProg.lean LOADS. Nothing in Lean hashes anything: it is a label: what it is worth is what the hold of that sum in a sandbox is worth. -/
noncomputable def Try.pinned : Pinned := { name := "ytifffggppgphkaa", sum := "113e3e3b313f9c040c2c372aa957bad69da5a538da81711b40797ba52e5f17d3", checked := Try.checked }
namespace Rows
def none {H : Type} : Left H := { results := [], args := [] }

/-- 'coveylaw13.NamesSplits': WHATEVER THE INPUT: true; the input reads as it did. -/
def namesSplitsSpec : ChangeSpec := { name := "namesSplits", fn := fun _ => fun
  | [d] => { results := [.lit (.bool true)], args := [d] }
  | _ => none }
def namesSplitsRow : OpenClaim := { program := "ytifffggppgphkaa", sum := "113e3e3b313f9c040c2c372aa957bad69da5a538da81711b40797ba52e5f17d3", func := "covey/coveylaw13.NamesSplits", spec := "namesSplits", inPlace := ["internal/bytealg.IndexByteString", "internal/bytealg.IndexString"], unfollowed := true, recurses := true, named := ["internal/bytealg.MaxLen"], apart := false }
def NamesSplitsSaid : Prop := namesSplitsRow.holds Try.pinned (OpenSpec.ofChange namesSplitsSpec)

/-- ITS FALSE NEIGHBOUR: 'it returns false'. Refute it at one input. -/
def namesSplitsWrong : ChangeSpec := { name := "namesSplits", fn := fun _ => fun
  | [d] => { results := [.lit (.bool false)], args := [d] }
  | _ => none }
def NamesSplitsWrongFalsely : Prop := namesSplitsRow.holds Try.pinned (OpenSpec.ofChange namesSplitsWrong)

/-- 'coveylaw13.NamesAre': WHATEVER THE INPUT: true; the input reads as it did. -/
def namesAreSpec : ChangeSpec := { name := "namesAre", fn := fun _ => fun
  | [d] => { results := [.lit (.bool true)], args := [d] }
  | _ => none }
def namesAreRow : OpenClaim := { program := "ytifffggppgphkaa", sum := "113e3e3b313f9c040c2c372aa957bad69da5a538da81711b40797ba52e5f17d3", func := "covey/coveylaw13.NamesAre", spec := "namesAre", inPlace := ["internal/bytealg.IndexByteString", "internal/bytealg.IndexString"], unfollowed := true, recurses := true, named := ["internal/bytealg.MaxLen"], apart := false }
def NamesAreSaid : Prop := namesAreRow.holds Try.pinned (OpenSpec.ofChange namesAreSpec)

/-- ITS FALSE NEIGHBOUR: 'it returns false'. Refute it at one input. -/
def namesAreWrong : ChangeSpec := { name := "namesAre", fn := fun _ => fun
  | [d] => { results := [.lit (.bool false)], args := [d] }
  | _ => none }
def NamesAreWrongFalsely : Prop := namesAreRow.holds Try.pinned (OpenSpec.ofChange namesAreWrong)

/-- 'coveylaw13.NamesJoins': WHATEVER THE INPUT: true; the input reads as it did. -/
def namesJoinsSpec : ChangeSpec := { name := "namesJoins", fn := fun _ => fun
  | [d1, d2, d3] => { results := [.lit (.bool true)], args := [d1, d2, d3] }
  | _ => none }
def namesJoinsRow : OpenClaim := { program := "ytifffggppgphkaa", sum := "113e3e3b313f9c040c2c372aa957bad69da5a538da81711b40797ba52e5f17d3", func := "covey/coveylaw13.NamesJoins", spec := "namesJoins", inPlace := ["internal/bytealg.IndexByteString", "internal/bytealg.IndexString"], unfollowed := true, recurses := true, named := ["internal/bytealg.MaxLen"], apart := false }
def NamesJoinsSaid : Prop := namesJoinsRow.holds Try.pinned (OpenSpec.ofChange namesJoinsSpec)

/-- ITS FALSE NEIGHBOUR: 'it returns false'. Refute it at one input. -/
def namesJoinsWrong : ChangeSpec := { name := "namesJoins", fn := fun _ => fun
  | [d1, d2, d3] => { results := [.lit (.bool false)], args := [d1, d2, d3] }
  | _ => none }
def NamesJoinsWrongFalsely : Prop := namesJoinsRow.holds Try.pinned (OpenSpec.ofChange namesJoinsWrong)

/-- 'coveylaw13.NamesBack': WHATEVER THE INPUT: true; the input reads as it did. -/
def namesBackSpec : ChangeSpec := { name := "namesBack", fn := fun _ => fun
  | [d] => { results := [.lit (.bool true)], args := [d] }
  | _ => none }
def namesBackRow : OpenClaim := { program := "ytifffggppgphkaa", sum := "113e3e3b313f9c040c2c372aa957bad69da5a538da81711b40797ba52e5f17d3", func := "covey/coveylaw13.NamesBack", spec := "namesBack", inPlace := ["internal/bytealg.IndexByteString", "internal/bytealg.IndexString"], unfollowed := true, recurses := true, named := ["internal/bytealg.MaxLen"], apart := false }
def NamesBackSaid : Prop := namesBackRow.holds Try.pinned (OpenSpec.ofChange namesBackSpec)

/-- ITS FALSE NEIGHBOUR: 'it returns false'. Refute it at one input. -/
def namesBackWrong : ChangeSpec := { name := "namesBack", fn := fun _ => fun
  | [d] => { results := [.lit (.bool false)], args := [d] }
  | _ => none }
def NamesBackWrongFalsely : Prop := namesBackRow.holds Try.pinned (OpenSpec.ofChange namesBackWrong)

/- THE SECOND FORM. 'bulk': how many values and letters a reading holds, each counted each time it is reached (what is shared counts as often as it is met; a slice's spare places count too). A statement '..UptoSaid' is the law's where the arguments, and the package variables that the reading takes, are together of bulk at most 1048576: NARROWER than '..Said'. Prove '..Said' where nothing that the law and all that it calls make is longer than what came in: it says more and counts as full. Else prove '..UptoSaid'. A law counts once. -/
mutual
def uptoBulk {H : Type} : DataW H → Nat
  | .lit (.string bytes) => bytes.length + 1
  | .lit _ => 1
  | .nil => 1
  | .ptr d => uptoBulk d + 1
  | .slice elems spare => uptoBulkAll elems + uptoBulkAll spare + 1
  | .agg parts => uptoBulkAll parts + 1
  | .iface _ d => uptoBulk d + 1
  | .map entries => uptoBulkEntries entries + 1
  | .held _ => 1
def uptoBulkAll {H : Type} : List (DataW H) → Nat
  | [] => 0
  | d :: r => uptoBulk d + uptoBulkAll r
def uptoBulkEntries {H : Type} : List (Lit × DataW H) → Nat
  | [] => 0
  | x :: r => uptoBulkEntry x + uptoBulkEntries r
def uptoBulkEntry {H : Type} : Lit × DataW H → Nat
  | (.string bytes, d) => bytes.length + uptoBulk d + 1
  | (_, d) => uptoBulk d + 1
 end
def uptoSmall : (H : Type) → List (DataW H) → Bool := fun _ ds => decide (uptoBulkAll ds ≤ 1048576)
def OpenSpec.upto (s : _root_.Go.ChangeSpec) : _root_.Go.OpenSpec := { _root_.Go.OpenSpec.ofChange s with cond := some uptoSmall }

/-- 'coveylaw13.NamesSplits', WHERE WHAT IT READS IS OF BULK AT MOST 1048576: true; the input reads as it did. -/
def namesSplitsUptoRow : OpenClaim := { program := "ytifffggppgphkaa", sum := "113e3e3b313f9c040c2c372aa957bad69da5a538da81711b40797ba52e5f17d3", func := "covey/coveylaw13.NamesSplits", spec := "namesSplits", inPlace := ["internal/bytealg.IndexByteString", "internal/bytealg.IndexString"], unfollowed := true, recurses := true, named := ["internal/bytealg.MaxLen"], apart := false, narrowed := true }
def NamesSplitsUptoSaid : Prop := namesSplitsUptoRow.holds Try.pinned (OpenSpec.upto namesSplitsSpec)

/-- 'coveylaw13.NamesAre', WHERE WHAT IT READS IS OF BULK AT MOST 1048576: true; the input reads as it did. -/
def namesAreUptoRow : OpenClaim := { program := "ytifffggppgphkaa", sum := "113e3e3b313f9c040c2c372aa957bad69da5a538da81711b40797ba52e5f17d3", func := "covey/coveylaw13.NamesAre", spec := "namesAre", inPlace := ["internal/bytealg.IndexByteString", "internal/bytealg.IndexString"], unfollowed := true, recurses := true, named := ["internal/bytealg.MaxLen"], apart := false, narrowed := true }
def NamesAreUptoSaid : Prop := namesAreUptoRow.holds Try.pinned (OpenSpec.upto namesAreSpec)

/-- 'coveylaw13.NamesJoins', WHERE WHAT IT READS IS OF BULK AT MOST 1048576: true; the input reads as it did. -/
def namesJoinsUptoRow : OpenClaim := { program := "ytifffggppgphkaa", sum := "113e3e3b313f9c040c2c372aa957bad69da5a538da81711b40797ba52e5f17d3", func := "covey/coveylaw13.NamesJoins", spec := "namesJoins", inPlace := ["internal/bytealg.IndexByteString", "internal/bytealg.IndexString"], unfollowed := true, recurses := true, named := ["internal/bytealg.MaxLen"], apart := false, narrowed := true }
def NamesJoinsUptoSaid : Prop := namesJoinsUptoRow.holds Try.pinned (OpenSpec.upto namesJoinsSpec)

/-- 'coveylaw13.NamesBack', WHERE WHAT IT READS IS OF BULK AT MOST 1048576: true; the input reads as it did. -/
def namesBackUptoRow : OpenClaim := { program := "ytifffggppgphkaa", sum := "113e3e3b313f9c040c2c372aa957bad69da5a538da81711b40797ba52e5f17d3", func := "covey/coveylaw13.NamesBack", spec := "namesBack", inPlace := ["internal/bytealg.IndexByteString", "internal/bytealg.IndexString"], unfollowed := true, recurses := true, named := ["internal/bytealg.MaxLen"], apart := false, narrowed := true }
def NamesBackUptoSaid : Prop := namesBackUptoRow.holds Try.pinned (OpenSpec.upto namesBackSpec)

end Rows
end Go.Proofs.Ytifffggppgphkaa
