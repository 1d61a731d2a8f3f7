/-
  No cell of these rows narrows 'for every input' (looked for: loops, veiled, ifaces, maps, wideKeys, modest, calm, conditions, laid).
  DERIVED. THE GIVEN ROWS OF THIS SEAT. 7 by the template 'for every input the law returns true; each argument reads behind the call as it read before'; 0 by the template 'total and deterministic' (their statements: YtenlhfimdpcaoaaGreatTotals.lean).
  GIVEN WITH THE SEED: the statements are not yours to turn. If you find one false, say at which input.
  Laid BY PROGRAM, IN A SANDBOX (cutbox-rows.mjs): the forced cells as the released guide's own fill.sh prints them over the translation 6fb22b32362735c8… (all of the seat's roots in one cut). By AI agents, Wed Nov 11 2026. No macro, syntax, notation, axiom, sorry.
-/
import Derived.Test.YtenlhfimdpcaoaaGreatChecked
import GoSem.Claim
import GoSem.ClaimJoined
import GoSem.ClaimMapViews
import Derived.JoinedTies
import Derived.KernelRfl
namespace Go.Proofs.YtenlhfimdpcaoaaGreat
/- THE CELL 'sum', in the pinned program and in every row, IS THE sha256 OF THE DUMP (.gsa) THAT YtenlhfimdpcaoaaGreatProg.lean LOADS. Nothing in Lean hashes anything: it is a label: what it is worth is what the hold of that sum in a sandbox is worth. -/
noncomputable def Tryz.pinned : Pinned := { name := "ytenlhfimdpcaoaagreat", sum := "6fb22b32362735c836ac0e1d905909a35c310b08c69eaf1affc5bbaea13b6443", checked := Tryz.checked }
namespace Rows
def none {H : Type} : Left H := { results := [], args := [] }

/-- 'laws.FnBasisChanged': WHATEVER THE INPUT: true; the input reads as it did. -/
def fnBasisChangedSpec : ChangeSpec := { name := "fnBasisChanged", fn := fun _ => fun
  | [d] => { results := [.lit (.bool true)], args := [d] }
  | _ => none }
def fnBasisChangedRow : OpenClaim := { program := "ytenlhfimdpcaoaagreat", sum := "6fb22b32362735c836ac0e1d905909a35c310b08c69eaf1affc5bbaea13b6443", func := "loop.example/g03109/laws.FnBasisChanged", spec := "fnBasisChanged", unfollowed := true, recurses := true, apart := false }
def FnBasisChangedSaid : Prop := fnBasisChangedRow.holds Tryz.pinned (OpenSpec.ofChange fnBasisChangedSpec)

/-- ITS FALSE NEIGHBOUR: 'it returns false'. Refute it at one input. -/
def fnBasisChangedWrong : ChangeSpec := { name := "fnBasisChanged", fn := fun _ => fun
  | [d] => { results := [.lit (.bool false)], args := [d] }
  | _ => none }
def FnBasisChangedWrongFalsely : Prop := fnBasisChangedRow.holds Tryz.pinned (OpenSpec.ofChange fnBasisChangedWrong)

/-- 'laws.FnSummed': WHATEVER THE INPUT: true; the input reads as it did. -/
def fnSummedSpec : ChangeSpec := { name := "fnSummed", fn := fun _ => fun
  | [d] => { results := [.lit (.bool true)], args := [d] }
  | _ => none }
def fnSummedRow : OpenClaim := { program := "ytenlhfimdpcaoaagreat", sum := "6fb22b32362735c836ac0e1d905909a35c310b08c69eaf1affc5bbaea13b6443", func := "loop.example/g03109/laws.FnSummed", spec := "fnSummed", unfollowed := true, recurses := true, apart := false }
def FnSummedSaid : Prop := fnSummedRow.holds Tryz.pinned (OpenSpec.ofChange fnSummedSpec)

/-- ITS FALSE NEIGHBOUR: 'it returns false'. Refute it at one input. -/
def fnSummedWrong : ChangeSpec := { name := "fnSummed", fn := fun _ => fun
  | [d] => { results := [.lit (.bool false)], args := [d] }
  | _ => none }
def FnSummedWrongFalsely : Prop := fnSummedRow.holds Tryz.pinned (OpenSpec.ofChange fnSummedWrong)

/-- 'laws.FnBracketed': WHATEVER THE INPUT: true; the input reads as it did. -/
def fnBracketedSpec : ChangeSpec := { name := "fnBracketed", fn := fun _ => fun
  | [d] => { results := [.lit (.bool true)], args := [d] }
  | _ => none }
def fnBracketedRow : OpenClaim := { program := "ytenlhfimdpcaoaagreat", sum := "6fb22b32362735c836ac0e1d905909a35c310b08c69eaf1affc5bbaea13b6443", func := "loop.example/g03109/laws.FnBracketed", spec := "fnBracketed", unfollowed := true, recurses := true, apart := false }
def FnBracketedSaid : Prop := fnBracketedRow.holds Tryz.pinned (OpenSpec.ofChange fnBracketedSpec)

/-- ITS FALSE NEIGHBOUR: 'it returns false'. Refute it at one input. -/
def fnBracketedWrong : ChangeSpec := { name := "fnBracketed", fn := fun _ => fun
  | [d] => { results := [.lit (.bool false)], args := [d] }
  | _ => none }
def FnBracketedWrongFalsely : Prop := fnBracketedRow.holds Tryz.pinned (OpenSpec.ofChange fnBracketedWrong)

/-- 'laws.FnSeries': WHATEVER THE INPUT: true; the input reads as it did. -/
def fnSeriesSpec : ChangeSpec := { name := "fnSeries", fn := fun _ => fun
  | [d] => { results := [.lit (.bool true)], args := [d] }
  | _ => none }
def fnSeriesRow : OpenClaim := { program := "ytenlhfimdpcaoaagreat", sum := "6fb22b32362735c836ac0e1d905909a35c310b08c69eaf1affc5bbaea13b6443", func := "loop.example/g03109/laws.FnSeries", spec := "fnSeries", unfollowed := true, recurses := true, apart := false }
def FnSeriesSaid : Prop := fnSeriesRow.holds Tryz.pinned (OpenSpec.ofChange fnSeriesSpec)

/-- ITS FALSE NEIGHBOUR: 'it returns false'. Refute it at one input. -/
def fnSeriesWrong : ChangeSpec := { name := "fnSeries", fn := fun _ => fun
  | [d] => { results := [.lit (.bool false)], args := [d] }
  | _ => none }
def FnSeriesWrongFalsely : Prop := fnSeriesRow.holds Tryz.pinned (OpenSpec.ofChange fnSeriesWrong)

/-- 'laws.FnCentralized': WHATEVER THE INPUT: true; the input reads as it did. -/
def fnCentralizedSpec : ChangeSpec := { name := "fnCentralized", fn := fun _ => fun
  | [d] => { results := [.lit (.bool true)], args := [d] }
  | _ => none }
def fnCentralizedRow : OpenClaim := { program := "ytenlhfimdpcaoaagreat", sum := "6fb22b32362735c836ac0e1d905909a35c310b08c69eaf1affc5bbaea13b6443", func := "loop.example/g03109/laws.FnCentralized", spec := "fnCentralized", unfollowed := true, recurses := true, apart := false }
def FnCentralizedSaid : Prop := fnCentralizedRow.holds Tryz.pinned (OpenSpec.ofChange fnCentralizedSpec)

/-- ITS FALSE NEIGHBOUR: 'it returns false'. Refute it at one input. -/
def fnCentralizedWrong : ChangeSpec := { name := "fnCentralized", fn := fun _ => fun
  | [d] => { results := [.lit (.bool false)], args := [d] }
  | _ => none }
def FnCentralizedWrongFalsely : Prop := fnCentralizedRow.holds Tryz.pinned (OpenSpec.ofChange fnCentralizedWrong)

/-- 'laws.FnIdeals': WHATEVER THE INPUT: true; the input reads as it did. -/
def fnIdealsSpec : ChangeSpec := { name := "fnIdeals", fn := fun _ => fun
  | [d] => { results := [.lit (.bool true)], args := [d] }
  | _ => none }
def fnIdealsRow : OpenClaim := { program := "ytenlhfimdpcaoaagreat", sum := "6fb22b32362735c836ac0e1d905909a35c310b08c69eaf1affc5bbaea13b6443", func := "loop.example/g03109/laws.FnIdeals", spec := "fnIdeals", unfollowed := true, recurses := true, apart := false }
def FnIdealsSaid : Prop := fnIdealsRow.holds Tryz.pinned (OpenSpec.ofChange fnIdealsSpec)

/-- ITS FALSE NEIGHBOUR: 'it returns false'. Refute it at one input. -/
def fnIdealsWrong : ChangeSpec := { name := "fnIdeals", fn := fun _ => fun
  | [d] => { results := [.lit (.bool false)], args := [d] }
  | _ => none }
def FnIdealsWrongFalsely : Prop := fnIdealsRow.holds Tryz.pinned (OpenSpec.ofChange fnIdealsWrong)

/-- 'laws.FnKillingInvariant': WHATEVER THE INPUT: true; the input reads as it did. -/
def fnKillingInvariantSpec : ChangeSpec := { name := "fnKillingInvariant", fn := fun _ => fun
  | [d] => { results := [.lit (.bool true)], args := [d] }
  | _ => none }
def fnKillingInvariantRow : OpenClaim := { program := "ytenlhfimdpcaoaagreat", sum := "6fb22b32362735c836ac0e1d905909a35c310b08c69eaf1affc5bbaea13b6443", func := "loop.example/g03109/laws.FnKillingInvariant", spec := "fnKillingInvariant", unfollowed := true, recurses := true, apart := false }
def FnKillingInvariantSaid : Prop := fnKillingInvariantRow.holds Tryz.pinned (OpenSpec.ofChange fnKillingInvariantSpec)

/-- ITS FALSE NEIGHBOUR: 'it returns false'. Refute it at one input. -/
def fnKillingInvariantWrong : ChangeSpec := { name := "fnKillingInvariant", fn := fun _ => fun
  | [d] => { results := [.lit (.bool false)], args := [d] }
  | _ => none }
def FnKillingInvariantWrongFalsely : Prop := fnKillingInvariantRow.holds Tryz.pinned (OpenSpec.ofChange fnKillingInvariantWrong)

/- THE SECOND FORM. 'bulk': how many values and letters a reading holds, each counted each time it is reached (what is shared counts as often as it is met; a slice's spare places count too). A statement '..UptoSaid' is the law's where the arguments, and the package variables that the reading takes, are together of bulk at most 1048576: NARROWER than '..Said'. Prove '..Said' where nothing that the law and all that it calls make is longer than what came in: it says more and counts as full. Else prove '..UptoSaid'. A law counts once. -/
mutual
def uptoBulk {H : Type} : DataW H → Nat
  | .lit (.string bytes) => bytes.length + 1
  | .lit _ => 1
  | .nil => 1
  | .ptr d => uptoBulk d + 1
  | .slice elems spare => uptoBulkAll elems + uptoBulkAll spare + 1
  | .agg parts => uptoBulkAll parts + 1
  | .iface _ d => uptoBulk d + 1
  | .map entries => uptoBulkEntries entries + 1
  | .held _ => 1
def uptoBulkAll {H : Type} : List (DataW H) → Nat
  | [] => 0
  | d :: r => uptoBulk d + uptoBulkAll r
def uptoBulkEntries {H : Type} : List (Lit × DataW H) → Nat
  | [] => 0
  | x :: r => uptoBulkEntry x + uptoBulkEntries r
def uptoBulkEntry {H : Type} : Lit × DataW H → Nat
  | (.string bytes, d) => bytes.length + uptoBulk d + 1
  | (_, d) => uptoBulk d + 1
 end
def uptoSmall : (H : Type) → List (DataW H) → Bool := fun _ ds => decide (uptoBulkAll ds ≤ 1048576)
def OpenSpec.upto (s : _root_.Go.ChangeSpec) : _root_.Go.OpenSpec := { _root_.Go.OpenSpec.ofChange s with cond := some uptoSmall }

/-- 'laws.FnBasisChanged', WHERE WHAT IT READS IS OF BULK AT MOST 1048576: true; the input reads as it did. -/
def fnBasisChangedUptoRow : OpenClaim := { program := "ytenlhfimdpcaoaagreat", sum := "6fb22b32362735c836ac0e1d905909a35c310b08c69eaf1affc5bbaea13b6443", func := "loop.example/g03109/laws.FnBasisChanged", spec := "fnBasisChanged", unfollowed := true, recurses := true, apart := false, narrowed := true }
def FnBasisChangedUptoSaid : Prop := fnBasisChangedUptoRow.holds Tryz.pinned (OpenSpec.upto fnBasisChangedSpec)

/-- 'laws.FnSummed', WHERE WHAT IT READS IS OF BULK AT MOST 1048576: true; the input reads as it did. -/
def fnSummedUptoRow : OpenClaim := { program := "ytenlhfimdpcaoaagreat", sum := "6fb22b32362735c836ac0e1d905909a35c310b08c69eaf1affc5bbaea13b6443", func := "loop.example/g03109/laws.FnSummed", spec := "fnSummed", unfollowed := true, recurses := true, apart := false, narrowed := true }
def FnSummedUptoSaid : Prop := fnSummedUptoRow.holds Tryz.pinned (OpenSpec.upto fnSummedSpec)

/-- 'laws.FnBracketed', WHERE WHAT IT READS IS OF BULK AT MOST 1048576: true; the input reads as it did. -/
def fnBracketedUptoRow : OpenClaim := { program := "ytenlhfimdpcaoaagreat", sum := "6fb22b32362735c836ac0e1d905909a35c310b08c69eaf1affc5bbaea13b6443", func := "loop.example/g03109/laws.FnBracketed", spec := "fnBracketed", unfollowed := true, recurses := true, apart := false, narrowed := true }
def FnBracketedUptoSaid : Prop := fnBracketedUptoRow.holds Tryz.pinned (OpenSpec.upto fnBracketedSpec)

/-- 'laws.FnSeries', WHERE WHAT IT READS IS OF BULK AT MOST 1048576: true; the input reads as it did. -/
def fnSeriesUptoRow : OpenClaim := { program := "ytenlhfimdpcaoaagreat", sum := "6fb22b32362735c836ac0e1d905909a35c310b08c69eaf1affc5bbaea13b6443", func := "loop.example/g03109/laws.FnSeries", spec := "fnSeries", unfollowed := true, recurses := true, apart := false, narrowed := true }
def FnSeriesUptoSaid : Prop := fnSeriesUptoRow.holds Tryz.pinned (OpenSpec.upto fnSeriesSpec)

/-- 'laws.FnCentralized', WHERE WHAT IT READS IS OF BULK AT MOST 1048576: true; the input reads as it did. -/
def fnCentralizedUptoRow : OpenClaim := { program := "ytenlhfimdpcaoaagreat", sum := "6fb22b32362735c836ac0e1d905909a35c310b08c69eaf1affc5bbaea13b6443", func := "loop.example/g03109/laws.FnCentralized", spec := "fnCentralized", unfollowed := true, recurses := true, apart := false, narrowed := true }
def FnCentralizedUptoSaid : Prop := fnCentralizedUptoRow.holds Tryz.pinned (OpenSpec.upto fnCentralizedSpec)

/-- 'laws.FnIdeals', WHERE WHAT IT READS IS OF BULK AT MOST 1048576: true; the input reads as it did. -/
def fnIdealsUptoRow : OpenClaim := { program := "ytenlhfimdpcaoaagreat", sum := "6fb22b32362735c836ac0e1d905909a35c310b08c69eaf1affc5bbaea13b6443", func := "loop.example/g03109/laws.FnIdeals", spec := "fnIdeals", unfollowed := true, recurses := true, apart := false, narrowed := true }
def FnIdealsUptoSaid : Prop := fnIdealsUptoRow.holds Tryz.pinned (OpenSpec.upto fnIdealsSpec)

/-- 'laws.FnKillingInvariant', WHERE WHAT IT READS IS OF BULK AT MOST 1048576: true; the input reads as it did. -/
def fnKillingInvariantUptoRow : OpenClaim := { program := "ytenlhfimdpcaoaagreat", sum := "6fb22b32362735c836ac0e1d905909a35c310b08c69eaf1affc5bbaea13b6443", func := "loop.example/g03109/laws.FnKillingInvariant", spec := "fnKillingInvariant", unfollowed := true, recurses := true, apart := false, narrowed := true }
def FnKillingInvariantUptoSaid : Prop := fnKillingInvariantUptoRow.holds Tryz.pinned (OpenSpec.upto fnKillingInvariantSpec)

end Rows
end Go.Proofs.YtenlhfimdpcaoaaGreat
