/-
  No cell of these rows narrows 'for every input' (looked for: loops, veiled, ifaces, maps, wideKeys, modest, calm, conditions, laid).
  DERIVED. THE GIVEN ROWS OF THIS SEAT. 4 by the template 'for every input the law returns true; each argument reads behind the call as it read before'; 0 by the template 'total and deterministic' (their statements: YtielbjjdgdblcaaTotals.lean).
  GIVEN WITH THE SEED: the statements are not yours to turn. If you find one false, say at which input.
  Laid BY PROGRAM, IN A SANDBOX (cutbox-rows.mjs): the forced cells as the released guide's own fill.sh prints them over the translation c4b0c8a117b8581a… (all of the seat's roots in one cut). By AI agents, Wed Nov 11 2026. No macro, syntax, notation, axiom, sorry.
-/
import Derived.Test.YtielbjjdgdblcaaChecked
import GoSem.Claim
import GoSem.ClaimJoined
import GoSem.ClaimMapViews
import Derived.JoinedTies
import Derived.KernelRfl
namespace Go.Proofs.Ytielbjjdgdblcaa
/- THE CELL 'sum', in the pinned program and in every row, IS THE sha256 OF THE DUMP (.gsa) THAT YtielbjjdgdblcaaProg.lean LOADS. Nothing in Lean hashes anything: it is a label: what it is worth is what the hold of that sum in a sandbox is worth. -/
noncomputable def Try.pinned : Pinned := { name := "ytielbjjdgdblcaa", sum := "c4b0c8a117b8581a765eb13173278eb718147abdedbc47b918727711ad6c99e8", checked := Try.checked }
namespace Rows
def none {H : Type} : Left H := { results := [], args := [] }

/-- 'keyeventlaw01.Base64Digits': WHATEVER THE INPUT: true; the input reads as it did. -/
def base64DigitsSpec : ChangeSpec := { name := "base64Digits", fn := fun _ => fun
  | [d] => { results := [.lit (.bool true)], args := [d] }
  | _ => none }
def base64DigitsRow : OpenClaim := { program := "ytielbjjdgdblcaa", sum := "c4b0c8a117b8581a765eb13173278eb718147abdedbc47b918727711ad6c99e8", func := "keyevent/keyeventlaw01.Base64Digits", spec := "base64Digits", apart := false }
def Base64DigitsSaid : Prop := base64DigitsRow.holds Try.pinned (OpenSpec.ofChange base64DigitsSpec)

/-- ITS FALSE NEIGHBOUR: 'it returns false'. Refute it at one input. -/
def base64DigitsWrong : ChangeSpec := { name := "base64Digits", fn := fun _ => fun
  | [d] => { results := [.lit (.bool false)], args := [d] }
  | _ => none }
def Base64DigitsWrongFalsely : Prop := base64DigitsRow.holds Try.pinned (OpenSpec.ofChange base64DigitsWrong)

/-- 'keyeventlaw01.Base64Once': WHATEVER THE INPUT: true; the input reads as it did. -/
def base64OnceSpec : ChangeSpec := { name := "base64Once", fn := fun _ => fun
  | [d] => { results := [.lit (.bool true)], args := [d] }
  | _ => none }
def base64OnceRow : OpenClaim := { program := "ytielbjjdgdblcaa", sum := "c4b0c8a117b8581a765eb13173278eb718147abdedbc47b918727711ad6c99e8", func := "keyevent/keyeventlaw01.Base64Once", spec := "base64Once", apart := false }
def Base64OnceSaid : Prop := base64OnceRow.holds Try.pinned (OpenSpec.ofChange base64OnceSpec)

/-- ITS FALSE NEIGHBOUR: 'it returns false'. Refute it at one input. -/
def base64OnceWrong : ChangeSpec := { name := "base64Once", fn := fun _ => fun
  | [d] => { results := [.lit (.bool false)], args := [d] }
  | _ => none }
def Base64OnceWrongFalsely : Prop := base64OnceRow.holds Try.pinned (OpenSpec.ofChange base64OnceWrong)

/-- 'keyeventlaw01.Base64Back': WHATEVER THE INPUT: true; the input reads as it did. -/
def base64BackSpec : ChangeSpec := { name := "base64Back", fn := fun _ => fun
  | [d1, d2, d3] => { results := [.lit (.bool true)], args := [d1, d2, d3] }
  | _ => none }
def base64BackRow : OpenClaim := { program := "ytielbjjdgdblcaa", sum := "c4b0c8a117b8581a765eb13173278eb718147abdedbc47b918727711ad6c99e8", func := "keyevent/keyeventlaw01.Base64Back", spec := "base64Back", apart := false }
def Base64BackSaid : Prop := base64BackRow.holds Try.pinned (OpenSpec.ofChange base64BackSpec)

/-- ITS FALSE NEIGHBOUR: 'it returns false'. Refute it at one input. -/
def base64BackWrong : ChangeSpec := { name := "base64Back", fn := fun _ => fun
  | [d1, d2, d3] => { results := [.lit (.bool false)], args := [d1, d2, d3] }
  | _ => none }
def Base64BackWrongFalsely : Prop := base64BackRow.holds Try.pinned (OpenSpec.ofChange base64BackWrong)

/-- 'keyeventlaw01.Base64Acts': WHATEVER THE INPUT: true; the input reads as it did. -/
def base64ActsSpec : ChangeSpec := { name := "base64Acts", fn := fun _ => fun
  | [d1, d2, d3, d4, d5] => { results := [.lit (.bool true)], args := [d1, d2, d3, d4, d5] }
  | _ => none }
def base64ActsRow : OpenClaim := { program := "ytielbjjdgdblcaa", sum := "c4b0c8a117b8581a765eb13173278eb718147abdedbc47b918727711ad6c99e8", func := "keyevent/keyeventlaw01.Base64Acts", spec := "base64Acts", apart := false }
def Base64ActsSaid : Prop := base64ActsRow.holds Try.pinned (OpenSpec.ofChange base64ActsSpec)

/-- ITS FALSE NEIGHBOUR: 'it returns false'. Refute it at one input. -/
def base64ActsWrong : ChangeSpec := { name := "base64Acts", fn := fun _ => fun
  | [d1, d2, d3, d4, d5] => { results := [.lit (.bool false)], args := [d1, d2, d3, d4, d5] }
  | _ => none }
def Base64ActsWrongFalsely : Prop := base64ActsRow.holds Try.pinned (OpenSpec.ofChange base64ActsWrong)

/- THE SECOND FORM. 'bulk': how many values and letters a reading holds, each counted each time it is reached (what is shared counts as often as it is met; a slice's spare places count too). A statement '..UptoSaid' is the law's where the arguments, and the package variables that the reading takes, are together of bulk at most 1048576: NARROWER than '..Said'. Prove '..Said' where nothing that the law and all that it calls make is longer than what came in: it says more and counts as full. Else prove '..UptoSaid'. A law counts once. -/
mutual
def uptoBulk {H : Type} : DataW H → Nat
  | .lit (.string bytes) => bytes.length + 1
  | .lit _ => 1
  | .nil => 1
  | .ptr d => uptoBulk d + 1
  | .slice elems spare => uptoBulkAll elems + uptoBulkAll spare + 1
  | .agg parts => uptoBulkAll parts + 1
  | .iface _ d => uptoBulk d + 1
  | .map entries => uptoBulkEntries entries + 1
  | .held _ => 1
def uptoBulkAll {H : Type} : List (DataW H) → Nat
  | [] => 0
  | d :: r => uptoBulk d + uptoBulkAll r
def uptoBulkEntries {H : Type} : List (Lit × DataW H) → Nat
  | [] => 0
  | x :: r => uptoBulkEntry x + uptoBulkEntries r
def uptoBulkEntry {H : Type} : Lit × DataW H → Nat
  | (.string bytes, d) => bytes.length + uptoBulk d + 1
  | (_, d) => uptoBulk d + 1
 end
def uptoSmall : (H : Type) → List (DataW H) → Bool := fun _ ds => decide (uptoBulkAll ds ≤ 1048576)
def OpenSpec.upto (s : _root_.Go.ChangeSpec) : _root_.Go.OpenSpec := { _root_.Go.OpenSpec.ofChange s with cond := some uptoSmall }

/-- 'keyeventlaw01.Base64Digits', WHERE WHAT IT READS IS OF BULK AT MOST 1048576: true; the input reads as it did. -/
def base64DigitsUptoRow : OpenClaim := { program := "ytielbjjdgdblcaa", sum := "c4b0c8a117b8581a765eb13173278eb718147abdedbc47b918727711ad6c99e8", func := "keyevent/keyeventlaw01.Base64Digits", spec := "base64Digits", apart := false, narrowed := true }
def Base64DigitsUptoSaid : Prop := base64DigitsUptoRow.holds Try.pinned (OpenSpec.upto base64DigitsSpec)

/-- 'keyeventlaw01.Base64Once', WHERE WHAT IT READS IS OF BULK AT MOST 1048576: true; the input reads as it did. -/
def base64OnceUptoRow : OpenClaim := { program := "ytielbjjdgdblcaa", sum := "c4b0c8a117b8581a765eb13173278eb718147abdedbc47b918727711ad6c99e8", func := "keyevent/keyeventlaw01.Base64Once", spec := "base64Once", apart := false, narrowed := true }
def Base64OnceUptoSaid : Prop := base64OnceUptoRow.holds Try.pinned (OpenSpec.upto base64OnceSpec)

/-- 'keyeventlaw01.Base64Back', WHERE WHAT IT READS IS OF BULK AT MOST 1048576: true; the input reads as it did. -/
def base64BackUptoRow : OpenClaim := { program := "ytielbjjdgdblcaa", sum := "c4b0c8a117b8581a765eb13173278eb718147abdedbc47b918727711ad6c99e8", func := "keyevent/keyeventlaw01.Base64Back", spec := "base64Back", apart := false, narrowed := true }
def Base64BackUptoSaid : Prop := base64BackUptoRow.holds Try.pinned (OpenSpec.upto base64BackSpec)

/-- 'keyeventlaw01.Base64Acts', WHERE WHAT IT READS IS OF BULK AT MOST 1048576: true; the input reads as it did. -/
def base64ActsUptoRow : OpenClaim := { program := "ytielbjjdgdblcaa", sum := "c4b0c8a117b8581a765eb13173278eb718147abdedbc47b918727711ad6c99e8", func := "keyevent/keyeventlaw01.Base64Acts", spec := "base64Acts", apart := false, narrowed := true }
def Base64ActsUptoSaid : Prop := base64ActsUptoRow.holds Try.pinned (OpenSpec.upto base64ActsSpec)

end Rows
end Go.Proofs.Ytielbjjdgdblcaa
