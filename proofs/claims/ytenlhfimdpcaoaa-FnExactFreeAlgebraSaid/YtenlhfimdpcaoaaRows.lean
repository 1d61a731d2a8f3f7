/-
  No cell of these rows narrows 'for every input' (looked for: loops, veiled, ifaces, maps, wideKeys, modest, calm, conditions, laid).
  DERIVED. THE GIVEN ROWS OF THIS SEAT. 5 by the template 'for every input the law returns true; each argument reads behind the call as it read before'; 0 by the template 'total and deterministic' (their statements: YtenlhfimdpcaoaaTotals.lean).
  GIVEN WITH THE SEED: the statements are not yours to turn. If you find one false, say at which input.
  Laid BY PROGRAM, IN A SANDBOX (cutbox-rows.mjs): the forced cells as the released guide's own fill.sh prints them over the translation c182f5ea6d498d0e… (all of the seat's roots in one cut). By AI agents, Wed Nov 11 2026. No macro, syntax, notation, axiom, sorry.
-/
import Derived.Test.YtenlhfimdpcaoaaChecked
import GoSem.Claim
import GoSem.ClaimJoined
import GoSem.ClaimMapViews
import Derived.JoinedTies
import Derived.KernelRfl
namespace Go.Proofs.Ytenlhfimdpcaoaa
/- THE CELL 'sum', in the pinned program and in every row, IS THE sha256 OF THE DUMP (.gsa) THAT YtenlhfimdpcaoaaProg.lean LOADS. Nothing in Lean hashes anything: it is a label: what it is worth is what the hold of that sum in a sandbox is worth. -/
noncomputable def Try.pinned : Pinned := { name := "ytenlhfimdpcaoaa", sum := "c182f5ea6d498d0e4436cbec339ce73acc169f06890d25d5cf5a9801b91ec26d", checked := Try.checked }
namespace Rows
def none {H : Type} : Left H := { results := [], args := [] }

/-- 'laws.FnExactFreeAlgebra': WHATEVER THE INPUT: true; the input reads as it did. -/
def fnExactFreeAlgebraSpec : ChangeSpec := { name := "fnExactFreeAlgebra", fn := fun _ => fun
  | [d1, d2, d3] => { results := [.lit (.bool true)], args := [d1, d2, d3] }
  | _ => none }
def fnExactFreeAlgebraRow : OpenClaim := { program := "ytenlhfimdpcaoaa", sum := "c182f5ea6d498d0e4436cbec339ce73acc169f06890d25d5cf5a9801b91ec26d", func := "loop.example/g03109/laws.FnExactFreeAlgebra", spec := "fnExactFreeAlgebra", unfollowed := true, recurses := true, apart := false }
def FnExactFreeAlgebraSaid : Prop := fnExactFreeAlgebraRow.holds Try.pinned (OpenSpec.ofChange fnExactFreeAlgebraSpec)

/-- ITS FALSE NEIGHBOUR: 'it returns false'. Refute it at one input. -/
def fnExactFreeAlgebraWrong : ChangeSpec := { name := "fnExactFreeAlgebra", fn := fun _ => fun
  | [d1, d2, d3] => { results := [.lit (.bool false)], args := [d1, d2, d3] }
  | _ => none }
def FnExactFreeAlgebraWrongFalsely : Prop := fnExactFreeAlgebraRow.holds Try.pinned (OpenSpec.ofChange fnExactFreeAlgebraWrong)

/-- 'laws.FnFree': WHATEVER THE INPUT: true; the input reads as it did. -/
def fnFreeSpec : ChangeSpec := { name := "fnFree", fn := fun _ => fun
  | [d] => { results := [.lit (.bool true)], args := [d] }
  | _ => none }
def fnFreeRow : OpenClaim := { program := "ytenlhfimdpcaoaa", sum := "c182f5ea6d498d0e4436cbec339ce73acc169f06890d25d5cf5a9801b91ec26d", func := "loop.example/g03109/laws.FnFree", spec := "fnFree", unfollowed := true, recurses := true, apart := false }
def FnFreeSaid : Prop := fnFreeRow.holds Try.pinned (OpenSpec.ofChange fnFreeSpec)

/-- ITS FALSE NEIGHBOUR: 'it returns false'. Refute it at one input. -/
def fnFreeWrong : ChangeSpec := { name := "fnFree", fn := fun _ => fun
  | [d] => { results := [.lit (.bool false)], args := [d] }
  | _ => none }
def FnFreeWrongFalsely : Prop := fnFreeRow.holds Try.pinned (OpenSpec.ofChange fnFreeWrong)

/-- 'laws.FnBch': WHATEVER THE INPUT: true; the input reads as it did. -/
def fnBchSpec : ChangeSpec := { name := "fnBch", fn := fun _ => fun
  | [d] => { results := [.lit (.bool true)], args := [d] }
  | _ => none }
def fnBchRow : OpenClaim := { program := "ytenlhfimdpcaoaa", sum := "c182f5ea6d498d0e4436cbec339ce73acc169f06890d25d5cf5a9801b91ec26d", func := "loop.example/g03109/laws.FnBch", spec := "fnBch", unfollowed := true, recurses := true, apart := false }
def FnBchSaid : Prop := fnBchRow.holds Try.pinned (OpenSpec.ofChange fnBchSpec)

/-- ITS FALSE NEIGHBOUR: 'it returns false'. Refute it at one input. -/
def fnBchWrong : ChangeSpec := { name := "fnBch", fn := fun _ => fun
  | [d] => { results := [.lit (.bool false)], args := [d] }
  | _ => none }
def FnBchWrongFalsely : Prop := fnBchRow.holds Try.pinned (OpenSpec.ofChange fnBchWrong)

/-- 'laws.FnExactBchOf': WHATEVER THE INPUT: true; the input reads as it did. -/
def fnExactBchOfSpec : ChangeSpec := { name := "fnExactBchOf", fn := fun _ => fun
  | [d1, d2, d3] => { results := [.lit (.bool true)], args := [d1, d2, d3] }
  | _ => none }
def fnExactBchOfRow : OpenClaim := { program := "ytenlhfimdpcaoaa", sum := "c182f5ea6d498d0e4436cbec339ce73acc169f06890d25d5cf5a9801b91ec26d", func := "loop.example/g03109/laws.FnExactBchOf", spec := "fnExactBchOf", unfollowed := true, recurses := true, apart := false }
def FnExactBchOfSaid : Prop := fnExactBchOfRow.holds Try.pinned (OpenSpec.ofChange fnExactBchOfSpec)

/-- ITS FALSE NEIGHBOUR: 'it returns false'. Refute it at one input. -/
def fnExactBchOfWrong : ChangeSpec := { name := "fnExactBchOf", fn := fun _ => fun
  | [d1, d2, d3] => { results := [.lit (.bool false)], args := [d1, d2, d3] }
  | _ => none }
def FnExactBchOfWrongFalsely : Prop := fnExactBchOfRow.holds Try.pinned (OpenSpec.ofChange fnExactBchOfWrong)

/-- 'laws.FnExactActEnv': WHATEVER THE INPUT: true; the input reads as it did. -/
def fnExactActEnvSpec : ChangeSpec := { name := "fnExactActEnv", fn := fun _ => fun
  | [d1, d2, d3] => { results := [.lit (.bool true)], args := [d1, d2, d3] }
  | _ => none }
def fnExactActEnvRow : OpenClaim := { program := "ytenlhfimdpcaoaa", sum := "c182f5ea6d498d0e4436cbec339ce73acc169f06890d25d5cf5a9801b91ec26d", func := "loop.example/g03109/laws.FnExactActEnv", spec := "fnExactActEnv", unfollowed := true, recurses := true, apart := false }
def FnExactActEnvSaid : Prop := fnExactActEnvRow.holds Try.pinned (OpenSpec.ofChange fnExactActEnvSpec)

/-- ITS FALSE NEIGHBOUR: 'it returns false'. Refute it at one input. -/
def fnExactActEnvWrong : ChangeSpec := { name := "fnExactActEnv", fn := fun _ => fun
  | [d1, d2, d3] => { results := [.lit (.bool false)], args := [d1, d2, d3] }
  | _ => none }
def FnExactActEnvWrongFalsely : Prop := fnExactActEnvRow.holds Try.pinned (OpenSpec.ofChange fnExactActEnvWrong)

/- THE SECOND FORM. 'bulk': how many values and letters a reading holds, each counted each time it is reached (what is shared counts as often as it is met; a slice's spare places count too). A statement '..UptoSaid' is the law's where the arguments, and the package variables that the reading takes, are together of bulk at most 1048576: NARROWER than '..Said'. Prove '..Said' where nothing that the law and all that it calls make is longer than what came in: it says more and counts as full. Else prove '..UptoSaid'. A law counts once. -/
mutual
def uptoBulk {H : Type} : DataW H → Nat
  | .lit (.string bytes) => bytes.length + 1
  | .lit _ => 1
  | .nil => 1
  | .ptr d => uptoBulk d + 1
  | .slice elems spare => uptoBulkAll elems + uptoBulkAll spare + 1
  | .agg parts => uptoBulkAll parts + 1
  | .iface _ d => uptoBulk d + 1
  | .map entries => uptoBulkEntries entries + 1
  | .held _ => 1
def uptoBulkAll {H : Type} : List (DataW H) → Nat
  | [] => 0
  | d :: r => uptoBulk d + uptoBulkAll r
def uptoBulkEntries {H : Type} : List (Lit × DataW H) → Nat
  | [] => 0
  | x :: r => uptoBulkEntry x + uptoBulkEntries r
def uptoBulkEntry {H : Type} : Lit × DataW H → Nat
  | (.string bytes, d) => bytes.length + uptoBulk d + 1
  | (_, d) => uptoBulk d + 1
 end
def uptoSmall : (H : Type) → List (DataW H) → Bool := fun _ ds => decide (uptoBulkAll ds ≤ 1048576)
def OpenSpec.upto (s : _root_.Go.ChangeSpec) : _root_.Go.OpenSpec := { _root_.Go.OpenSpec.ofChange s with cond := some uptoSmall }

/-- 'laws.FnExactFreeAlgebra', WHERE WHAT IT READS IS OF BULK AT MOST 1048576: true; the input reads as it did. -/
def fnExactFreeAlgebraUptoRow : OpenClaim := { program := "ytenlhfimdpcaoaa", sum := "c182f5ea6d498d0e4436cbec339ce73acc169f06890d25d5cf5a9801b91ec26d", func := "loop.example/g03109/laws.FnExactFreeAlgebra", spec := "fnExactFreeAlgebra", unfollowed := true, recurses := true, apart := false, narrowed := true }
def FnExactFreeAlgebraUptoSaid : Prop := fnExactFreeAlgebraUptoRow.holds Try.pinned (OpenSpec.upto fnExactFreeAlgebraSpec)

/-- 'laws.FnFree', WHERE WHAT IT READS IS OF BULK AT MOST 1048576: true; the input reads as it did. -/
def fnFreeUptoRow : OpenClaim := { program := "ytenlhfimdpcaoaa", sum := "c182f5ea6d498d0e4436cbec339ce73acc169f06890d25d5cf5a9801b91ec26d", func := "loop.example/g03109/laws.FnFree", spec := "fnFree", unfollowed := true, recurses := true, apart := false, narrowed := true }
def FnFreeUptoSaid : Prop := fnFreeUptoRow.holds Try.pinned (OpenSpec.upto fnFreeSpec)

/-- 'laws.FnBch', WHERE WHAT IT READS IS OF BULK AT MOST 1048576: true; the input reads as it did. -/
def fnBchUptoRow : OpenClaim := { program := "ytenlhfimdpcaoaa", sum := "c182f5ea6d498d0e4436cbec339ce73acc169f06890d25d5cf5a9801b91ec26d", func := "loop.example/g03109/laws.FnBch", spec := "fnBch", unfollowed := true, recurses := true, apart := false, narrowed := true }
def FnBchUptoSaid : Prop := fnBchUptoRow.holds Try.pinned (OpenSpec.upto fnBchSpec)

/-- 'laws.FnExactBchOf', WHERE WHAT IT READS IS OF BULK AT MOST 1048576: true; the input reads as it did. -/
def fnExactBchOfUptoRow : OpenClaim := { program := "ytenlhfimdpcaoaa", sum := "c182f5ea6d498d0e4436cbec339ce73acc169f06890d25d5cf5a9801b91ec26d", func := "loop.example/g03109/laws.FnExactBchOf", spec := "fnExactBchOf", unfollowed := true, recurses := true, apart := false, narrowed := true }
def FnExactBchOfUptoSaid : Prop := fnExactBchOfUptoRow.holds Try.pinned (OpenSpec.upto fnExactBchOfSpec)

/-- 'laws.FnExactActEnv', WHERE WHAT IT READS IS OF BULK AT MOST 1048576: true; the input reads as it did. -/
def fnExactActEnvUptoRow : OpenClaim := { program := "ytenlhfimdpcaoaa", sum := "c182f5ea6d498d0e4436cbec339ce73acc169f06890d25d5cf5a9801b91ec26d", func := "loop.example/g03109/laws.FnExactActEnv", spec := "fnExactActEnv", unfollowed := true, recurses := true, apart := false, narrowed := true }
def FnExactActEnvUptoSaid : Prop := fnExactActEnvUptoRow.holds Try.pinned (OpenSpec.upto fnExactActEnvSpec)

end Rows
end Go.Proofs.Ytenlhfimdpcaoaa
